/- octet: OctetApart -/
import Derived.Test.YtchbncbojfiiiaaOD
namespace Go.Proofs.Ytchbncbojfiiiaa
set_option linter.unusedVariables false
set_option linter.unusedSimpArgs false
open Go.RowKit
set_option maxRecDepth 100000
set_option maxHeartbeats 4000000
theorem rows_spec (n i : Int) (hn : n ≤ 9223372036854775807) (hi1 : -9223372036854775808 ≤ i) (hi : i ≤ 9223372036854775807) : Spec Try.prog 23 [.raw (.int .i64 n), .raw (.int .i64 i)] [] 2 (σ := Nat × Nat) (fun _ => True)
    (fun s => .tup [.sl 0 1 0 (numP [] 0 n).length s.1, .sl 1 1 0 (sevN (zigN i)).length s.2]) (fun s => [(0, .bytes (numP [] 0 n) s.1 5), (1, .bytes (sevN (zigN i)) s.2 5)]) := by
  refine Spec.of Try.func23 rfl Try.ntmps23 rfl (by simp [AO.Bd, bytesF, AV.bds, AV.bd]) fun ρ w => ?_
  have hu := zigN_lt hi1 hi
  have hl := sevN_len10 hu
  have hla : (numP [] 0 n).length ≤ 10 := by
    unfold numP
    split
    · simp
    · rw [layF_ok]; simpa using sevN_len10 (u := n.toNat) (by omega)
  repeat (first | refine C.seq ?_ | refine C.region ?_ | refine R.zb ttok ?_ | refine R.zu ttok ?_ | refine R.zc ttok ?_ | refine R.za ttok ?_ | refine R.zx ?_ | refine R.zl ttok ?_ | refine R.zs ttok ?_ | refine R.z ttok ?_ | refine R.zk ?_ | refine R.zn ?_ | refine R.done ?_ | refine X.then ?_ | refine C.block ?_ | refine C.ret ?_ | refine C.skip ?_ | refine C.exit ?_ | refine X.pass_ret ?_ | refine X.pass_exit ?_ | refine X.block_normal ?_ | refine X.block_ret ?_ | refine X.block_exit ?_ | refine C.goto ?_ | refine C.label ?_ | refine X.pass_goto ?_ | refine X.block_goto ?_ | refine X.jump_ret ?_ | refine X.jump_normal ?_ | refine X.jump_exit ?_ | refine C.zt ?_ | refine C.zf ?_ | refine X.zo ?_)
  refine R.noneH 0 [.sl 2 1 0 0 0, .raw (.int .i64 0)] (.bytes [] 0 5) (none_bytes _ _) rfl rfl rfl (fun ρ h => wr_none h) ?_
  refine R.cl [0, 2] (wnumber_spec [] 0 0 n (by omega) (by simp) hn) Try.call27 (.same rfl rfl (.same rfl rfl .nil)) rfl rfl rfl (fun _ => rfl) rfl rfl fun c1 hc1 => ?_
  repeat (first | refine C.seq ?_ | refine C.region ?_ | refine R.zb ttok ?_ | refine R.zu ttok ?_ | refine R.zc ttok ?_ | refine R.za ttok ?_ | refine R.zx ?_ | refine R.zl ttok ?_ | refine R.zs ttok ?_ | refine R.z ttok ?_ | refine R.zk ?_ | refine R.zn ?_ | refine R.done ?_ | refine X.then ?_ | refine C.block ?_ | refine C.ret ?_ | refine C.skip ?_ | refine C.exit ?_ | refine X.pass_ret ?_ | refine X.pass_exit ?_ | refine X.block_normal ?_ | refine X.block_ret ?_ | refine X.block_exit ?_ | refine C.goto ?_ | refine C.label ?_ | refine X.pass_goto ?_ | refine X.block_goto ?_ | refine X.jump_ret ?_ | refine X.jump_normal ?_ | refine X.jump_exit ?_ | refine C.zt ?_ | refine C.zf ?_ | refine X.zo ?_)
  refine R.noneH 1 [.sl 4 1 0 0 0, .raw (.int .i64 0)] (.bytes [] 0 5) (none_bytes _ _) rfl rfl rfl (fun ρ h => wr_none h) ?_
  refine R.cl [1, 4] (wint_spec [] 0 0 i (by omega) (by simp) hi1 hi) Try.call28 (.same rfl rfl (.same rfl rfl .nil)) rfl rfl rfl (fun _ => rfl) rfl rfl fun c2 hc2 => ?_
  rw [layF_ok, List.nil_append]
  repeat (first | refine C.seq ?_ | refine C.region ?_ | refine R.zb ttok ?_ | refine R.zu ttok ?_ | refine R.zc ttok ?_ | refine R.za ttok ?_ | refine R.zx ?_ | refine R.zl ttok ?_ | refine R.zs ttok ?_ | refine R.z ttok ?_ | refine R.zk ?_ | refine R.zn ?_ | refine R.done ?_ | refine X.then ?_ | refine C.block ?_ | refine C.ret ?_ | refine C.skip ?_ | refine C.exit ?_ | refine X.pass_ret ?_ | refine X.pass_exit ?_ | refine X.block_normal ?_ | refine X.block_ret ?_ | refine X.block_exit ?_ | refine C.goto ?_ | refine C.label ?_ | refine X.pass_goto ?_ | refine X.block_goto ?_ | refine X.jump_ret ?_ | refine X.jump_normal ?_ | refine X.jump_exit ?_ | refine C.zt ?_ | refine C.zf ?_ | refine X.zo ?_)
  refine R.cl [0, 3] (wdata_spec (numP [] 0 n) c1 (numE 0 n) hc1 (by omega)) Try.call14 (.same rfl rfl (.same rfl rfl .nil)) rfl rfl rfl (fun _ => rfl) rfl rfl fun c3 hc3 => ?_
  repeat (first | refine C.seq ?_ | refine C.region ?_ | refine R.zb ttok ?_ | refine R.zu ttok ?_ | refine R.zc ttok ?_ | refine R.za ttok ?_ | refine R.zx ?_ | refine R.zl ttok ?_ | refine R.zs ttok ?_ | refine R.z ttok ?_ | refine R.zk ?_ | refine R.zn ?_ | refine R.done ?_ | refine X.then ?_ | refine C.block ?_ | refine C.ret ?_ | refine C.skip ?_ | refine C.exit ?_ | refine X.pass_ret ?_ | refine X.pass_exit ?_ | refine X.block_normal ?_ | refine X.block_ret ?_ | refine X.block_exit ?_ | refine C.goto ?_ | refine C.label ?_ | refine X.pass_goto ?_ | refine X.block_goto ?_ | refine X.jump_ret ?_ | refine X.jump_normal ?_ | refine X.jump_exit ?_ | refine C.zt ?_ | refine C.zf ?_ | refine X.zo ?_)
  refine R.cl [1, 5] (wdata_spec (sevN (zigN i)) c2 0 hc2 (by omega)) Try.call14 (.same rfl rfl (.same rfl rfl .nil)) rfl rfl rfl (fun _ => rfl) rfl rfl fun c4 hc4 => ?_
  repeat (first | refine C.seq ?_ | refine C.region ?_ | refine R.zb ttok ?_ | refine R.zu ttok ?_ | refine R.zc ttok ?_ | refine R.za ttok ?_ | refine R.zx ?_ | refine R.zl ttok ?_ | refine R.zs ttok ?_ | refine R.z ttok ?_ | refine R.zk ?_ | refine R.zn ?_ | refine R.done ?_ | refine X.then ?_ | refine C.block ?_ | refine C.ret ?_ | refine C.skip ?_ | refine C.exit ?_ | refine X.pass_ret ?_ | refine X.pass_exit ?_ | refine X.block_normal ?_ | refine X.block_ret ?_ | refine X.block_exit ?_ | refine C.goto ?_ | refine C.label ?_ | refine X.pass_goto ?_ | refine X.block_goto ?_ | refine X.jump_ret ?_ | refine X.jump_normal ?_ | refine X.jump_exit ?_ | refine C.zt ?_ | refine C.zf ?_ | refine X.zo ?_)
  refine X.fin ttok (c3, c4) [(0, 6), (1, 7)] trivial rfl rfl rfl ?_ _ (.inl rfl)
  exact .same rfl rfl rfl trivial (.same rfl rfl rfl trivial .nil)
def begB (p q : List UInt8) : Bool := decide (p.length ≤ q.length) && decide (p = q.take p.length)
theorem ro_take {ρ : Env} {r : Option Nat} {w : World} {q : List UInt8} (k : Nat) (h : (roB q).holds ρ r w) : (roB (q.take k)).holds ρ r w := by
  have hl : (q.take k).length ≤ q.length := by rw [List.length_take]; omega
  rcases h with ⟨h1, h2⟩ | ⟨b, cur, T, fr, hr, hb, hc⟩
  · exact .inl ⟨h1, by omega⟩
  · refine .inr ⟨b, cur, T, fr, hr, hb, fun i c x hi hx => hc i c x (by omega) ?_⟩
    have : (q.take k).getD i 0 = q.getD i 0 := by
      have h2 : i < q.length ∧ i < k := by rw [List.length_take] at hi; omega
      simp [List.getD, List.getElem?_take, h2.2]
    have e : bytesF (q.take k) i = bytesF q i := by unfold bytesF; rw [this]
    rw [← e]; exact hx
theorem begins_spec (p q : List UInt8) (c1 c2 : Nat) (hp : p.length ≤ 1000000000000) (hq : q.length ≤ c2) : Spec Try.prog 24 [.sl 0 1 0 p.length c1, .sl 1 1 0 q.length c2] [roB p, roB q] 2 (σ := Unit) (fun _ => True) (fun _ => .raw (.bool (begB p q))) (fun _ => []) := by
  refine Spec.of Try.func24 rfl Try.ntmps24 rfl (by simp [AO.Bd, bytesF, AV.bds, AV.bd]) fun ρ w => ?_
  repeat (first | refine C.seq ?_ | refine C.region ?_ | refine R.zb ttok ?_ | refine R.zu ttok ?_ | refine R.zc ttok ?_ | refine R.za ttok ?_ | refine R.zx ?_ | refine R.zl ttok ?_ | refine R.zs ttok ?_ | refine R.z ttok ?_ | refine R.zk ?_ | refine R.zn ?_ | refine R.done ?_ | refine X.then ?_ | refine C.block ?_ | refine C.ret ?_ | refine C.skip ?_ | refine C.exit ?_ | refine X.pass_ret ?_ | refine X.pass_exit ?_ | refine X.block_normal ?_ | refine X.block_ret ?_ | refine X.block_exit ?_ | refine C.goto ?_ | refine C.label ?_ | refine X.pass_goto ?_ | refine X.block_goto ?_ | refine X.jump_ret ?_ | refine X.jump_normal ?_ | refine X.jump_exit ?_ | refine C.zt ?_ | refine C.zf ?_ | refine X.zo ?_)
  by_cases hl : (p.length : Int) ≤ (q.length : Int)
  · have hl2 : p.length ≤ q.length := by omega
    rw [decide_eq_true hl, show begB p q = decide (p = q.take p.length) by unfold begB; rw [decide_eq_true hl2, Bool.true_and]]
    have htl : (q.take p.length).length = p.length := by rw [List.length_take]; omega
    repeat (first | refine C.seq ?_ | refine C.region ?_ | refine R.zb ttok ?_ | refine R.zu ttok ?_ | refine R.zc ttok ?_ | refine R.za ttok ?_ | refine R.zx ?_ | refine R.zl ttok ?_ | refine R.zs ttok ?_ | refine R.z ttok ?_ | refine R.zk ?_ | refine R.zn ?_ | refine R.done ?_ | refine X.then ?_ | refine C.block ?_ | refine C.ret ?_ | refine C.skip ?_ | refine C.exit ?_ | refine X.pass_ret ?_ | refine X.pass_exit ?_ | refine X.block_normal ?_ | refine X.block_ret ?_ | refine X.block_exit ?_ | refine C.goto ?_ | refine C.label ?_ | refine X.pass_goto ?_ | refine X.block_goto ?_ | refine X.jump_ret ?_ | refine X.jump_normal ?_ | refine X.jump_exit ?_ | refine C.zt ?_ | refine C.zf ?_ | refine X.zo ?_)
    refine R.sl ttok 0 p.length rfl rfl rfl rfl rfl rfl rfl rfl ⟨_, _, rfl, rfl⟩ (by omega) (by omega) fun o' ho' => ?_
    obtain rfl : o' = 0 := by omega
    have hsp := bytes_spec 0 0 p (q.take p.length) c1 (c2 - 0) hp
    rw [htl] at hsp
    refine R.cl [0, 1] hsp Try.call13 (.same rfl rfl ?_) rfl rfl rfl (fun _ => rfl) rfl rfl fun _ _ => ?_
    · refine .other rfl (fun e => by cases e) (fun ρ x w hh => ?_) .nil
      simp only [AO.ren, bytesF_ren]
      exact ro_take p.length hh
    repeat (first | refine C.seq ?_ | refine C.region ?_ | refine R.zb ttok ?_ | refine R.zu ttok ?_ | refine R.zc ttok ?_ | refine R.za ttok ?_ | refine R.zx ?_ | refine R.zl ttok ?_ | refine R.zs ttok ?_ | refine R.z ttok ?_ | refine R.zk ?_ | refine R.zn ?_ | refine R.done ?_ | refine X.then ?_ | refine C.block ?_ | refine C.ret ?_ | refine C.skip ?_ | refine C.exit ?_ | refine X.pass_ret ?_ | refine X.pass_exit ?_ | refine X.block_normal ?_ | refine X.block_ret ?_ | refine X.block_exit ?_ | refine C.goto ?_ | refine C.label ?_ | refine X.pass_goto ?_ | refine X.block_goto ?_ | refine X.jump_ret ?_ | refine X.jump_normal ?_ | refine X.jump_exit ?_ | refine C.zt ?_ | refine C.zf ?_ | refine X.zo ?_)
    exact X.fin ttok () [] trivial rfl rfl rfl .nil _ (.inl rfl)
  · rw [decide_eq_false hl, show begB p q = false by unfold begB; rw [decide_eq_false (by omega), Bool.false_and]]
    repeat (first | refine C.seq ?_ | refine C.region ?_ | refine R.zb ttok ?_ | refine R.zu ttok ?_ | refine R.zc ttok ?_ | refine R.za ttok ?_ | refine R.zx ?_ | refine R.zl ttok ?_ | refine R.zs ttok ?_ | refine R.z ttok ?_ | refine R.zk ?_ | refine R.zn ?_ | refine R.done ?_ | refine X.then ?_ | refine C.block ?_ | refine C.ret ?_ | refine C.skip ?_ | refine C.exit ?_ | refine X.pass_ret ?_ | refine X.pass_exit ?_ | refine X.block_normal ?_ | refine X.block_ret ?_ | refine X.block_exit ?_ | refine C.goto ?_ | refine C.label ?_ | refine X.pass_goto ?_ | refine X.block_goto ?_ | refine X.jump_ret ?_ | refine X.jump_normal ?_ | refine X.jump_exit ?_ | refine C.zt ?_ | refine C.zf ?_ | refine X.zo ?_)
    exact X.fin ttok () [] trivial rfl rfl rfl .nil _ (.inl rfl)
theorem ofNat_inj {a b : Nat} (ha : a < 256) (hb : b < 256) (h : UInt8.ofNat a = UInt8.ofNat b) : a = b := by
  have := congrArg UInt8.toNat h
  rw [UInt8.toNat_ofNat', UInt8.toNat_ofNat'] at this
  omega
/-- no row of sevens is the beginning of another -/
theorem sevN_apart (a : Nat) : ∀ b, sevN a <+: sevN b → a = b := by
  induction a using Nat.strongRecOn with
  | _ a ih =>
    intro b h
    by_cases ha : a < 128 <;> by_cases hb : b < 128
    · rw [sevN_lt ha, sevN_lt hb] at h
      have := (List.cons_prefix_cons.1 h).1
      exact ofNat_inj (by omega) (by omega) this
    · rw [sevN_lt ha, sevN_ge (by omega)] at h
      have := ofNat_inj (by omega) (by omega) (List.cons_prefix_cons.1 h).1
      omega
    · rw [sevN_ge (by omega), sevN_lt hb] at h
      have := ofNat_inj (by omega) (by omega) (List.cons_prefix_cons.1 h).1
      omega
    · rw [sevN_ge (by omega), sevN_ge (show 128 ≤ b by omega)] at h
      obtain ⟨h1, h2⟩ := List.cons_prefix_cons.1 h
      have h3 := ofNat_inj (by omega) (by omega) h1
      have h4 := ih (a / 128) (by omega) (b / 128) h2
      omega
theorem zigN_inj {a b : Int} (h : zigN a = zigN b) : a = b := by
  unfold zigN at h
  split at h <;> split at h <;> omega
theorem begB_iff (p q : List UInt8) : begB p q = true ↔ p <+: q := by
  unfold begB
  rw [Bool.and_eq_true, decide_eq_true_eq, decide_eq_true_eq, List.prefix_iff_eq_take]
  constructor
  · exact fun h => h.2
  · intro h
    exact ⟨by rw [h, List.length_take]; omega, h⟩
theorem begB_sev (a b : Nat) : begB (sevN a) (sevN b) = decide (a = b) := by
  by_cases h : a = b
  · subst h
    rw [decide_eq_true rfl]
    exact (begB_iff _ _).2 (List.prefix_refl _)
  · rw [decide_eq_false h]
    exact Bool.eq_false_iff.2 fun hb => h (sevN_apart a b ((begB_iff _ _).1 hb))
end Go.Proofs.Ytchbncbojfiiiaa
