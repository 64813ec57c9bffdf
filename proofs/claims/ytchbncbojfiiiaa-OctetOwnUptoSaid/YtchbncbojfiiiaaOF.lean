/- octet: OctetApart, the walk -/
import Derived.Test.YtchbncbojfiiiaaOE
namespace Go.Proofs.Ytchbncbojfiiiaa
set_option linter.unusedVariables false
set_option linter.unusedSimpArgs false
open Go.RowKit
set_option maxRecDepth 100000
set_option maxHeartbeats 4000000
theorem numP_pos (n : Int) : decide ((0 : Int) < ((numP [] 0 n).length : Int)) = decide (0 ≤ n) := by
  unfold numP
  by_cases h : n < 0
  · rw [if_pos h, decide_eq_false (by omega : ¬ 0 ≤ n)]; rfl
  · rw [if_neg h, layF_ok, List.nil_append, decide_eq_true (show 0 ≤ n by omega)]
    have := sevN_pos n.toNat
    exact decide_eq_true (by omega)
theorem begB_num {n m : Int} (hn : 0 ≤ n) (hm : 0 ≤ m) : begB (numP [] 0 n) (numP [] 0 m) = decide (n = m) := by
  have e : ∀ n : Int, 0 ≤ n → numP [] 0 n = sevN n.toNat := fun n h => by unfold numP; rw [if_neg (by omega), layF_ok, List.nil_append]
  rw [e n hn, e m hm, begB_sev]
  by_cases h : n = m
  · rw [decide_eq_true h, decide_eq_true (by rw [h])]
  · rw [decide_eq_false h, decide_eq_false (by omega)]
theorem begB_zig (i j : Int) : begB (sevN (zigN i)) (sevN (zigN j)) = decide (i = j) := by
  rw [begB_sev]
  by_cases h : i = j
  · rw [decide_eq_true h, decide_eq_true (by rw [h])]
  · rw [decide_eq_false h, decide_eq_false (fun e => h (zigN_inj e))]
theorem not_same {a b : Bool} (h : a = b) : (!(a == b)) = false := by subst h; cases a <;> rfl
theorem is_same {a b : Bool} (h : a = b) : (a == b) = true := by subst h; cases a <;> rfl
theorem apart_spec (n m i j : Int) (hn : n ≤ 9223372036854775807) (hm : m ≤ 9223372036854775807) (hi1 : -9223372036854775808 ≤ i) (hi : i ≤ 9223372036854775807) (hj1 : -9223372036854775808 ≤ j) (hj : j ≤ 9223372036854775807) :
    Spec Try.prog 6 [.raw (.int .i64 n), .raw (.int .i64 m), .raw (.int .i64 i), .raw (.int .i64 j)] [] 0 (σ := Unit) (fun _ => True) (fun _ => .raw (.bool true)) (fun _ => []) := by
  refine Spec.of Try.func6 rfl Try.ntmps6 rfl (by simp [AO.Bd, bytesF, AV.bds, AV.bd]) fun ρ w => ?_
  have hl1 := sevN_len10 (zigN_lt hi1 hi)
  have hl2 : (numP [] 0 n).length ≤ 10 := by
    unfold numP
    split
    · simp
    · rw [layF_ok]; simpa using sevN_len10 (u := n.toNat) (by omega)
  have hx0 : decide ((0 : Int) < ((sevN (zigN i)).length : Int)) = true := decide_eq_true (by have := sevN_pos (zigN i); omega)
  repeat (first | refine C.seq ?_ | refine C.region ?_ | refine R.zb ttok ?_ | refine R.zu ttok ?_ | refine R.zc ttok ?_ | refine R.za ttok ?_ | refine R.zx ?_ | refine R.zl ttok ?_ | refine R.zs ttok ?_ | refine R.z ttok ?_ | refine R.zk ?_ | refine R.zn ?_ | refine R.done ?_ | refine X.then ?_ | refine C.block ?_ | refine C.ret ?_ | refine C.skip ?_ | refine C.exit ?_ | refine X.pass_ret ?_ | refine X.pass_exit ?_ | refine X.block_normal ?_ | refine X.block_ret ?_ | refine X.block_exit ?_ | refine C.goto ?_ | refine C.label ?_ | refine X.pass_goto ?_ | refine X.block_goto ?_ | refine X.jump_ret ?_ | refine X.jump_normal ?_ | refine X.jump_exit ?_ | refine C.zt ?_ | refine C.zf ?_ | refine X.zo ?_)
  refine R.cl [] (rows_spec n i hn hi1 hi) Try.call23 .nil rfl rfl rfl (fun _ => rfl) rfl rfl fun s1 _ => ?_
  repeat (first | refine C.seq ?_ | refine C.region ?_ | refine R.zb ttok ?_ | refine R.zu ttok ?_ | refine R.zc ttok ?_ | refine R.za ttok ?_ | refine R.zx ?_ | refine R.zl ttok ?_ | refine R.zs ttok ?_ | refine R.z ttok ?_ | refine R.zk ?_ | refine R.zn ?_ | refine R.done ?_ | refine X.then ?_ | refine C.block ?_ | refine C.ret ?_ | refine C.skip ?_ | refine C.exit ?_ | refine X.pass_ret ?_ | refine X.pass_exit ?_ | refine X.block_normal ?_ | refine X.block_ret ?_ | refine X.block_exit ?_ | refine C.goto ?_ | refine C.label ?_ | refine X.pass_goto ?_ | refine X.block_goto ?_ | refine X.jump_ret ?_ | refine X.jump_normal ?_ | refine X.jump_exit ?_ | refine C.zt ?_ | refine C.zf ?_ | refine X.zo ?_)
  refine R.cl [] (rows_spec m j hm hj1 hj) Try.call23 .nil rfl rfl rfl (fun _ => rfl) rfl rfl fun s2 _ => ?_
  refine R.fact (bytes_le (l := 2) rfl) fun hc2 => ?_
  refine R.fact (bytes_le (l := 3) rfl) fun hc3 => ?_
  repeat (first | refine C.seq ?_ | refine C.region ?_ | refine R.zb ttok ?_ | refine R.zu ttok ?_ | refine R.zc ttok ?_ | refine R.za ttok ?_ | refine R.zx ?_ | refine R.zl ttok ?_ | refine R.zs ttok ?_ | refine R.z ttok ?_ | refine R.zk ?_ | refine R.zn ?_ | refine R.done ?_ | refine X.then ?_ | refine C.block ?_ | refine C.ret ?_ | refine C.skip ?_ | refine C.exit ?_ | refine X.pass_ret ?_ | refine X.pass_exit ?_ | refine X.block_normal ?_ | refine X.block_ret ?_ | refine X.block_exit ?_ | refine C.goto ?_ | refine C.label ?_ | refine X.pass_goto ?_ | refine X.block_goto ?_ | refine X.jump_ret ?_ | refine X.jump_normal ?_ | refine X.jump_exit ?_ | refine C.zt ?_ | refine C.zf ?_ | refine X.zo ?_)
  by_cases h0 : 0 ≤ n
  all_goals first | rw [decide_eq_true h0] | rw [decide_eq_false h0]
  all_goals
    repeat (first | refine C.seq ?_ | refine C.region ?_ | refine R.zb ttok ?_ | refine R.zu ttok ?_ | refine R.zc ttok ?_ | refine R.za ttok ?_ | refine R.zx ?_ | refine R.zl ttok ?_ | refine R.zs ttok ?_ | refine R.z ttok ?_ | refine R.zk ?_ | refine R.zn ?_ | refine R.done ?_ | refine X.then ?_ | refine C.block ?_ | refine C.ret ?_ | refine C.skip ?_ | refine C.exit ?_ | refine X.pass_ret ?_ | refine X.pass_exit ?_ | refine X.block_normal ?_ | refine X.block_ret ?_ | refine X.block_exit ?_ | refine C.goto ?_ | refine C.label ?_ | refine X.pass_goto ?_ | refine X.block_goto ?_ | refine X.jump_ret ?_ | refine X.jump_normal ?_ | refine X.jump_exit ?_ | refine C.zt ?_ | refine C.zf ?_ | refine X.zo ?_)
  all_goals try by_cases h1 : 0 ≤ m
  all_goals try first | rw [decide_eq_true h1] | rw [decide_eq_false h1]
  all_goals
    repeat (first | refine C.seq ?_ | refine C.region ?_ | refine R.zb ttok ?_ | refine R.zu ttok ?_ | refine R.zc ttok ?_ | refine R.za ttok ?_ | refine R.zx ?_ | refine R.zl ttok ?_ | refine R.zs ttok ?_ | refine R.z ttok ?_ | refine R.zk ?_ | refine R.zn ?_ | refine R.done ?_ | refine X.then ?_ | refine C.block ?_ | refine C.ret ?_ | refine C.skip ?_ | refine C.exit ?_ | refine X.pass_ret ?_ | refine X.pass_exit ?_ | refine X.block_normal ?_ | refine X.block_ret ?_ | refine X.block_exit ?_ | refine C.goto ?_ | refine C.label ?_ | refine X.pass_goto ?_ | refine X.block_goto ?_ | refine X.jump_ret ?_ | refine X.jump_normal ?_ | refine X.jump_exit ?_ | refine C.zt ?_ | refine C.zf ?_ | refine X.zo ?_)
  all_goals try refine R.cl [0, 2] (begins_spec (numP [] 0 n) (numP [] 0 m) s1.1 s2.1 (by omega) hc2) Try.call24 (.bro rfl (.bro rfl .nil)) rfl rfl rfl (fun _ => rfl) rfl rfl fun _ _ => ?_
  all_goals
    repeat (first | refine C.seq ?_ | refine C.region ?_ | refine R.zb ttok ?_ | refine R.zu ttok ?_ | refine R.zc ttok ?_ | refine R.za ttok ?_ | refine R.zx ?_ | refine R.zl ttok ?_ | refine R.zs ttok ?_ | refine R.z ttok ?_ | refine R.zk ?_ | refine R.zn ?_ | refine R.done ?_ | refine X.then ?_ | refine C.block ?_ | refine C.ret ?_ | refine C.skip ?_ | refine C.exit ?_ | refine X.pass_ret ?_ | refine X.pass_exit ?_ | refine X.block_normal ?_ | refine X.block_ret ?_ | refine X.block_exit ?_ | refine C.goto ?_ | refine C.label ?_ | refine X.pass_goto ?_ | refine X.block_goto ?_ | refine X.jump_ret ?_ | refine X.jump_normal ?_ | refine X.jump_exit ?_ | refine C.zt ?_ | refine C.zf ?_ | refine X.zo ?_)
  all_goals try rw [not_same (begB_num h0 h1)]
  all_goals
    repeat (first | refine C.seq ?_ | refine C.region ?_ | refine R.zb ttok ?_ | refine R.zu ttok ?_ | refine R.zc ttok ?_ | refine R.za ttok ?_ | refine R.zx ?_ | refine R.zl ttok ?_ | refine R.zs ttok ?_ | refine R.z ttok ?_ | refine R.zk ?_ | refine R.zn ?_ | refine R.done ?_ | refine X.then ?_ | refine C.block ?_ | refine C.ret ?_ | refine C.skip ?_ | refine C.exit ?_ | refine X.pass_ret ?_ | refine X.pass_exit ?_ | refine X.block_normal ?_ | refine X.block_ret ?_ | refine X.block_exit ?_ | refine C.goto ?_ | refine C.label ?_ | refine X.pass_goto ?_ | refine X.block_goto ?_ | refine X.jump_ret ?_ | refine X.jump_normal ?_ | refine X.jump_exit ?_ | refine C.zt ?_ | refine C.zf ?_ | refine X.zo ?_)
  all_goals try refine R.cl [1, 3] (begins_spec (sevN (zigN i)) (sevN (zigN j)) s1.2 s2.2 (by omega) hc3) Try.call24 (.bro rfl (.bro rfl .nil)) rfl rfl rfl (fun _ => rfl) rfl rfl fun _ _ => ?_
  all_goals
    repeat (first | refine C.seq ?_ | refine C.region ?_ | refine R.zb ttok ?_ | refine R.zu ttok ?_ | refine R.zc ttok ?_ | refine R.za ttok ?_ | refine R.zx ?_ | refine R.zl ttok ?_ | refine R.zs ttok ?_ | refine R.z ttok ?_ | refine R.zk ?_ | refine R.zn ?_ | refine R.done ?_ | refine X.then ?_ | refine C.block ?_ | refine C.ret ?_ | refine C.skip ?_ | refine C.exit ?_ | refine X.pass_ret ?_ | refine X.pass_exit ?_ | refine X.block_normal ?_ | refine X.block_ret ?_ | refine X.block_exit ?_ | refine C.goto ?_ | refine C.label ?_ | refine X.pass_goto ?_ | refine X.block_goto ?_ | refine X.jump_ret ?_ | refine X.jump_normal ?_ | refine X.jump_exit ?_ | refine C.zt ?_ | refine C.zf ?_ | refine X.zo ?_)
  all_goals refine C.no rfl (not_same (begB_zig i j)) ?_
  all_goals
    repeat (first | refine C.seq ?_ | refine C.region ?_ | refine R.zb ttok ?_ | refine R.zu ttok ?_ | refine R.zc ttok ?_ | refine R.za ttok ?_ | refine R.zx ?_ | refine R.zl ttok ?_ | refine R.zs ttok ?_ | refine R.z ttok ?_ | refine R.zk ?_ | refine R.zn ?_ | refine R.done ?_ | refine X.then ?_ | refine C.block ?_ | refine C.ret ?_ | refine C.skip ?_ | refine C.exit ?_ | refine X.pass_ret ?_ | refine X.pass_exit ?_ | refine X.block_normal ?_ | refine X.block_ret ?_ | refine X.block_exit ?_ | refine C.goto ?_ | refine C.label ?_ | refine X.pass_goto ?_ | refine X.block_goto ?_ | refine X.jump_ret ?_ | refine X.jump_normal ?_ | refine X.jump_exit ?_ | refine C.zt ?_ | refine C.zf ?_ | refine X.zo ?_)
  all_goals rw [is_same (numP_pos n).symm]
  all_goals
    repeat (first | refine C.seq ?_ | refine C.region ?_ | refine R.zb ttok ?_ | refine R.zu ttok ?_ | refine R.zc ttok ?_ | refine R.za ttok ?_ | refine R.zx ?_ | refine R.zl ttok ?_ | refine R.zs ttok ?_ | refine R.z ttok ?_ | refine R.zk ?_ | refine R.zn ?_ | refine R.done ?_ | refine X.then ?_ | refine C.block ?_ | refine C.ret ?_ | refine C.skip ?_ | refine C.exit ?_ | refine X.pass_ret ?_ | refine X.pass_exit ?_ | refine X.block_normal ?_ | refine X.block_ret ?_ | refine X.block_exit ?_ | refine C.goto ?_ | refine C.label ?_ | refine X.pass_goto ?_ | refine X.block_goto ?_ | refine X.jump_ret ?_ | refine X.jump_normal ?_ | refine X.jump_exit ?_ | refine C.zt ?_ | refine C.zf ?_ | refine X.zo ?_)
  all_goals rw [hx0]
  all_goals
    repeat (first | refine C.seq ?_ | refine C.region ?_ | refine R.zb ttok ?_ | refine R.zu ttok ?_ | refine R.zc ttok ?_ | refine R.za ttok ?_ | refine R.zx ?_ | refine R.zl ttok ?_ | refine R.zs ttok ?_ | refine R.z ttok ?_ | refine R.zk ?_ | refine R.zn ?_ | refine R.done ?_ | refine X.then ?_ | refine C.block ?_ | refine C.ret ?_ | refine C.skip ?_ | refine C.exit ?_ | refine X.pass_ret ?_ | refine X.pass_exit ?_ | refine X.block_normal ?_ | refine X.block_ret ?_ | refine X.block_exit ?_ | refine C.goto ?_ | refine C.label ?_ | refine X.pass_goto ?_ | refine X.block_goto ?_ | refine X.jump_ret ?_ | refine X.jump_normal ?_ | refine X.jump_exit ?_ | refine C.zt ?_ | refine C.zf ?_ | refine X.zo ?_)
  all_goals refine R.cl [] known_spec Try.call10 .nil rfl rfl rfl (fun _ => rfl) rfl rfl fun _ _ => ?_
  all_goals
    repeat (first | refine C.seq ?_ | refine C.region ?_ | refine R.zb ttok ?_ | refine R.zu ttok ?_ | refine R.zc ttok ?_ | refine R.za ttok ?_ | refine R.zx ?_ | refine R.zl ttok ?_ | refine R.zs ttok ?_ | refine R.z ttok ?_ | refine R.zk ?_ | refine R.zn ?_ | refine R.done ?_ | refine X.then ?_ | refine C.block ?_ | refine C.ret ?_ | refine C.skip ?_ | refine C.exit ?_ | refine X.pass_ret ?_ | refine X.pass_exit ?_ | refine X.block_normal ?_ | refine X.block_ret ?_ | refine X.block_exit ?_ | refine C.goto ?_ | refine C.label ?_ | refine X.pass_goto ?_ | refine X.block_goto ?_ | refine X.jump_ret ?_ | refine X.jump_normal ?_ | refine X.jump_exit ?_ | refine C.zt ?_ | refine C.zf ?_ | refine X.zo ?_)
  all_goals exact X.fin ttok () [] trivial rfl rfl rfl .nil _ (.inl rfl)
theorem Spec.walk {P : Program} {f : FuncId} {avs : List AV} {post : Unit → List (Nat × AO)} {m : Nat} (sp : Spec P f avs [] m (σ := Unit) (fun _ => True) (fun _ => .raw (.bool true)) post) (w : World) (vs : Array Value) (hv : ∀ ρ : Env, (AV.concs ρ avs).toArray = vs) :
    Calls P f vs w fun e w' => e = .returned (.bool true) ∧ Below w.heap.size w w' := by
  have := sp (fun _ => none) w (fun i o h => by simp at h) (fun i j o b h => by simp at h) (fun i b h => by simp at h)
  rw [hv] at this
  refine this.mono ?_
  rintro e w' ⟨s, ρ', _, _, he, _, hag, _⟩
  exact ⟨he, hag.os, hag.tape, hag.output, hag.size, fun b hb => hag.block b hb fun ⟨i, o, h, _⟩ => by simp at h⟩
theorem apart_walk (w : World) (n : Int) (_ : -9223372036854775808 ≤ n) (hn : n ≤ 9223372036854775807) (m : Int) (_ : -9223372036854775808 ≤ m) (hm : m ≤ 9223372036854775807) (i : Int) (hi1 : -9223372036854775808 ≤ i) (hi : i ≤ 9223372036854775807) (j : Int) (hj1 : -9223372036854775808 ≤ j) (hj : j ≤ 9223372036854775807) :
    Calls Try.prog 6 #[.int .i64 n, .int .i64 m, .int .i64 i, .int .i64 j] w fun e w' => e = .returned (.bool true) ∧ Below w.heap.size w w' :=
  (apart_spec n m i j hn hm hi1 hi hj1 hj).walk w _ fun ρ => rfl
end Go.Proofs.Ytchbncbojfiiiaa
