/- octet: OctetBack's walk -/
import Derived.Test.YtchbncbojfiiiaaOL
namespace Go.Proofs.Ytchbncbojfiiiaa
set_option linter.unusedVariables false
set_option linter.unusedSimpArgs false
open Go.RowKit
set_option maxRecDepth 100000
set_option maxHeartbeats 4000000
def encL (l : List It) : List UInt8 := l.flatMap encI
theorem encL_step (l : List It) (i : Nat) (h : i < l.length) : encL (l.take (i + 1)) = encL (l.take i) ++ encI (l.getD i It.no) := by
  rw [take_next l i h]
  unfold encL
  rw [List.flatMap_append]
  simp
theorem encI_len {x : It} (hx : x.Ok) (hs : x.s.size ≤ 100000) (ho : OkI x) : (encI x).length ≤ 10 + x.s.size := by
  have h1 := layP_len hx [] 0 hs
  rw [(lay_ok [] ho).1] at h1
  simpa using h1
theorem encL_len {l : List It} (hl : ∀ x ∈ l, x.Ok) (hs : ∀ x ∈ l, x.s.size ≤ 100000) : ∀ i, i ≤ l.length → (∀ x ∈ l.take i, OkI x) → (encL (l.take i)).length ≤ i * 10 + sumS (l.take i)
  | 0, _, _ => by simp [encL]
  | i + 1, hi, ho => by
    have hm : l.getD i It.no ∈ l := by simp [List.getD, show i < l.length by omega]
    have h1 := encL_len hl hs i (by omega) (fun x hx => ho x (by rw [take_next l i (by omega)]; exact List.mem_append_left _ hx))
    have h2 := encI_len (hl _ hm) (hs _ hm) (ho _ (by rw [take_next l i (by omega)]; exact List.mem_append_right _ (List.mem_singleton.2 rfl)))
    rw [encL_step l i (by omega), sumS_step l i (by omega), List.length_append]
    omega
theorem shl_one {k : Nat} (hk : k ≤ 7) : IntKind.wrap .u64 ((1 : Int) * 2 ^ (min (8 * (k : Int)).toNat (IntKind.bits .u64))) = ((256 ^ k : Nat) : Int) := by
  have : ∀ k : Fin 8, IntKind.wrap .u64 ((1 : Int) * 2 ^ (min (8 * (k.val : Int)).toNat (IntKind.bits .u64))) = ((256 ^ k.val : Nat) : Int) := by decide
  exact this ⟨k, by omega⟩
theorem tmod_nat (a b : Nat) : (a : Int).tmod (b : Int) = ((a % b : Nat) : Int) := by
  rw [Int.tmod_eq_emod_of_nonneg (by omega)]; rfl
theorem enc_split (l : List It) (j n : Nat) (hj : j < n) (hn : n ≤ l.length) : encL (l.take n) = encL (l.take j) ++ (encI (l.getD j It.no) ++ encL ((l.take n).drop (j + 1))) := by
  have h1 : (l.take n).take (j + 1) = l.take (j + 1) := by rw [List.take_take, Nat.min_eq_left (by omega)]
  have h2 : encL (l.take n) = encL ((l.take n).take (j + 1)) ++ encL ((l.take n).drop (j + 1)) := by
    unfold encL
    rw [← List.flatMap_append, List.take_append_drop]
  rw [h2, h1, encL_step l j (by omega), List.append_assoc]
theorem ne_self {a : Int} : decide (a ≠ a) = false := decide_eq_false fun h => h rfl
theorem ne_selfB {a : List UInt8} : decide (a ≠ a) = false := decide_eq_false fun h => h rfl
theorem back_law (l : List It) (B : List UInt8) (hl : ∀ x ∈ l, x.Ok) (o1 o2 c1 c2 : Nat) (hlen : l.length ≤ 9223372036854775807) (hBl : B.length ≤ 9223372036854775807) (hBc : B.length ≤ c2) :
    Spec Try.prog 5 [.sl 0 1 o1 l.length c1, .sl 1 1 o2 B.length c2] [roI o1 l, roBo o2 B] 2 (σ := Unit) (fun _ => True) (fun _ => .raw (.bool true)) (fun _ => []) := by
  refine Spec.of Try.func5 rfl Try.ntmps5 rfl (by repeat (first | exact bdl_nil _ | refine bdl_cons (fun _ _ => rfl) ?_ | refine bdl_cons trivial ?_ | refine bdl_cons rfl ?_ | refine bdl_cons (rowsF_bd _ _ _ _) ?_)) fun ρ w => ?_
  repeat (first | refine C.seq ?_ | refine C.region ?_ | refine R.zb ttok ?_ | refine R.zu ttok ?_ | refine R.zc ttok ?_ | refine R.za ttok ?_ | refine R.zx ?_ | refine R.zl ttok ?_ | refine R.zs ttok ?_ | refine R.z ttok ?_ | refine R.zk ?_ | refine R.zn ?_ | refine R.done ?_ | refine X.then ?_ | refine C.block ?_ | refine C.ret ?_ | refine C.skip ?_ | refine C.exit ?_ | refine X.pass_ret ?_ | refine X.pass_exit ?_ | refine X.block_normal ?_ | refine X.block_ret ?_ | refine X.block_exit ?_ | refine C.zt ?_ | refine C.zf ?_ | refine X.zo ?_)
  refine R.cl [0, 1] (much_spec l o1 o2 c1 c2 B hlen hBl) Try.call9 (.roi rfl (.same rfl rfl .nil)) rfl rfl rfl (fun _ => rfl) rfl (by kernel_rfl) fun b hb => ?_
  cases b with
  | true =>
    repeat (first | refine C.seq ?_ | refine C.region ?_ | refine R.zb ttok ?_ | refine R.zu ttok ?_ | refine R.zc ttok ?_ | refine R.za ttok ?_ | refine R.zx ?_ | refine R.zl ttok ?_ | refine R.zs ttok ?_ | refine R.z ttok ?_ | refine R.zk ?_ | refine R.zn ?_ | refine R.done ?_ | refine X.then ?_ | refine C.block ?_ | refine C.ret ?_ | refine C.skip ?_ | refine C.exit ?_ | refine X.pass_ret ?_ | refine X.pass_exit ?_ | refine X.block_normal ?_ | refine X.block_ret ?_ | refine X.block_exit ?_ | refine C.zt ?_ | refine C.zf ?_ | refine X.zo ?_)
    refine R.cl [] (known_spec) Try.call10 (by repeat (first | exact HasIn.nil | refine HasIn.same rfl rfl ?_ | refine HasIn.bro rfl ?_ | refine HasIn.ror rfl ?_ | refine HasIn.cro rfl rfl ?_)) rfl rfl rfl (fun _ => rfl) rfl (by kernel_rfl) fun _ _ => ?_
    repeat (first | refine C.seq ?_ | refine C.region ?_ | refine R.zb ttok ?_ | refine R.zu ttok ?_ | refine R.zc ttok ?_ | refine R.za ttok ?_ | refine R.zx ?_ | refine R.zl ttok ?_ | refine R.zs ttok ?_ | refine R.z ttok ?_ | refine R.zk ?_ | refine R.zn ?_ | refine R.done ?_ | refine X.then ?_ | refine C.block ?_ | refine C.ret ?_ | refine C.skip ?_ | refine C.exit ?_ | refine X.pass_ret ?_ | refine X.pass_exit ?_ | refine X.block_normal ?_ | refine X.block_ret ?_ | refine X.block_exit ?_ | refine C.zt ?_ | refine C.zf ?_ | refine X.zo ?_)
    refine X.fin ttok () [] trivial rfl rfl rfl (by repeat (first | exact HasH.nil | refine HasH.same rfl rfl rfl trivial ?_ | refine HasH.same rfl rfl rfl rfl ?_ | refine HasH.same rfl rfl rfl (fun _ _ => rfl) ?_)) _ (by first | exact .inl rfl | exact .inr rfl)
  | false =>
  have hsm := hb rfl
  have h300 := hsm.len
  have hsum := hsm.sum
  have hB := hsm.b
  repeat (first | refine R.zb ttok ?_ | refine R.zu ttok ?_ | refine R.zc ttok ?_ | refine R.za ttok ?_ | refine R.zx ?_ | refine R.zl ttok ?_ | refine R.zs ttok ?_ | refine R.z ttok ?_ | refine R.zk ?_ | refine R.zn ?_)
  refine R.done ?_
  refine X.then ?_
  refine C.fls rfl ?_
  refine C.skip ?_
  refine X.then ?_
  refine C.seq ?_
  refine C.region ?_
  repeat (first | refine R.zb ttok ?_ | refine R.zu ttok ?_ | refine R.zc ttok ?_ | refine R.za ttok ?_ | refine R.zx ?_ | refine R.zl ttok ?_ | refine R.zs ttok ?_ | refine R.z ttok ?_ | refine R.zk ?_ | refine R.zn ?_)
  refine R.done ?_
  refine X.then ?_
  refine C.seq ?_
  refine C.region ?_
  repeat (first | refine R.zb ttok ?_ | refine R.zu ttok ?_ | refine R.zc ttok ?_ | refine R.za ttok ?_ | refine R.zx ?_ | refine R.zl ttok ?_ | refine R.zs ttok ?_ | refine R.z ttok ?_ | refine R.zk ?_ | refine R.zn ?_)
  refine R.done ?_
  refine X.then ?_
  refine C.noneH 2 [.sl 3 1 0 0 0, .raw (.int .i64 0)] (.bytes [] 0 5) (none_bytes _ _) rfl rfl rfl (fun ρ h => wr_none h) ?_
  refine C.cutf (σ := Nat × List UInt8 × Int × Nat) 4 (fun s => s.1 ≤ l.length ∧ s.2.2.2 ≤ 9223372036854775807 ∧ ((s.2.2.1 = 0 ∧ s.2.1 = encL (l.take s.1) ∧ ∀ x ∈ l.take s.1, OkI x) ∨ (s.2.2.1 ≠ 0 ∧ ∃ j, s.1 = j + 1 ∧ s.2.1 = encL (l.take j) ∧ ∀ x ∈ l.take j, OkI x)))
    (fun s => [(0, .sl 0 1 o1 l.length c1), (1, .sl 1 1 o2 B.length c2), (5, .ptr 2 0 0 0), (6, .raw (.int .i64 s.1))])
    (fun s => [(0, roI o1 l), (1, roBo o2 B), (2, wrO 3 s.2.1 s.2.2.2 s.2.2.1), (3, .bytes s.2.1 s.2.2.2 5)]) ?_ ?_
  · repeat (first | refine C.seq ?_ | refine C.region ?_ | refine R.zb ttok ?_ | refine R.zu ttok ?_ | refine R.zc ttok ?_ | refine R.za ttok ?_ | refine R.zx ?_ | refine R.zl ttok ?_ | refine R.zs ttok ?_ | refine R.z ttok ?_ | refine R.zk ?_ | refine R.zn ?_ | refine R.done ?_ | refine X.then ?_ | refine C.block ?_ | refine C.ret ?_ | refine C.skip ?_ | refine C.exit ?_ | refine X.pass_ret ?_ | refine X.pass_exit ?_ | refine X.block_normal ?_ | refine X.block_ret ?_ | refine X.block_exit ?_ | refine C.zt ?_ | refine C.zf ?_ | refine X.zo ?_)
    refine C.loop (σ := Nat × List UInt8 × Int × Nat) (L2 := 4) (fun s => s.1 ≤ l.length ∧ s.2.2.2 ≤ 9223372036854775807 ∧ ((s.2.2.1 = 0 ∧ s.2.1 = encL (l.take s.1) ∧ ∀ x ∈ l.take s.1, OkI x) ∨ (s.2.2.1 ≠ 0 ∧ ∃ j, s.1 = j + 1 ∧ s.2.1 = encL (l.take j) ∧ ∀ x ∈ l.take j, OkI x)))
      (fun s => [(0, .sl 0 1 o1 l.length c1), (1, .sl 1 1 o2 B.length c2), (5, .ptr 2 0 0 0), (6, .raw (.int .i64 s.1))])
      (fun s => [(0, roI o1 l), (1, roBo o2 B), (2, wrO 3 s.2.1 s.2.2.2 s.2.2.1), (3, .bytes s.2.1 s.2.2.2 5)]) _ (fun s => l.length - s.1) [] (0, [], 0, 0) ⟨Nat.zero_le _, by simp, .inl ⟨rfl, by simp [encL], by simp⟩⟩ rfl (by repeat (first | exact HasT.nil | refine HasT.cons rfl rfl rfl ?_)) (.roi rfl rfl (by repeat (first | exact HasH.nil | refine HasH.same rfl rfl rfl trivial ?_ | refine HasH.same rfl rfl rfl rfl ?_ | refine HasH.same rfl rfl rfl (fun _ _ => rfl) ?_))) rfl (fun _ h => h) ?_
    rintro ⟨i, p, e, c⟩ ⟨hi, hc, hp⟩
    dsimp only at hi hc hp ⊢
    repeat (first | refine C.seq ?_ | refine C.region ?_ | refine R.zb ttok ?_ | refine R.zu ttok ?_ | refine R.zc ttok ?_ | refine R.za ttok ?_ | refine R.zx ?_ | refine R.zl ttok ?_ | refine R.zs ttok ?_ | refine R.z ttok ?_ | refine R.zk ?_ | refine R.zn ?_ | refine R.done ?_ | refine X.then ?_ | refine C.block ?_ | refine C.ret ?_ | refine C.skip ?_ | refine C.exit ?_ | refine X.pass_ret ?_ | refine X.pass_exit ?_ | refine X.block_normal ?_ | refine X.block_ret ?_ | refine X.block_exit ?_ | refine C.zt ?_ | refine C.zf ?_ | refine X.zo ?_)
    by_cases hlt : (i : Int) < (l.length : Nat)
    · rw [decide_eq_true hlt]
      have hlt : i < l.length := by omega
      repeat (first | refine C.seq ?_ | refine C.region ?_ | refine R.zb ttok ?_ | refine R.zu ttok ?_ | refine R.zc ttok ?_ | refine R.za ttok ?_ | refine R.zx ?_ | refine R.zl ttok ?_ | refine R.zs ttok ?_ | refine R.z ttok ?_ | refine R.zk ?_ | refine R.zn ?_ | refine R.done ?_ | refine X.then ?_ | refine C.block ?_ | refine C.ret ?_ | refine C.skip ?_ | refine C.exit ?_ | refine X.pass_ret ?_ | refine X.pass_exit ?_ | refine X.block_normal ?_ | refine X.block_ret ?_ | refine X.block_exit ?_ | refine C.zt ?_ | refine C.zf ?_ | refine X.zo ?_)
      refine R.cl [2, 3] (werr_spec p c e) Try.call15 (by repeat (first | exact HasIn.nil | refine HasIn.same rfl rfl ?_ | refine HasIn.bro rfl ?_ | refine HasIn.ror rfl ?_ | refine HasIn.cro rfl rfl ?_)) rfl rfl rfl (fun _ => rfl) rfl (by kernel_rfl) fun _ _ => ?_
      repeat (first | refine C.seq ?_ | refine C.region ?_ | refine R.zb ttok ?_ | refine R.zu ttok ?_ | refine R.zc ttok ?_ | refine R.za ttok ?_ | refine R.zx ?_ | refine R.zl ttok ?_ | refine R.zs ttok ?_ | refine R.z ttok ?_ | refine R.zk ?_ | refine R.zn ?_ | refine R.done ?_ | refine X.then ?_ | refine C.block ?_ | refine C.ret ?_ | refine C.skip ?_ | refine C.exit ?_ | refine X.pass_ret ?_ | refine X.pass_exit ?_ | refine X.block_normal ?_ | refine X.block_ret ?_ | refine X.block_exit ?_ | refine C.zt ?_ | refine C.zf ?_ | refine X.zo ?_)
      refine C.dec rfl (fun he => ?_) (fun he => ?_)
      · obtain ⟨he, hpe, hok⟩ : e = 0 ∧ p = encL (l.take i) ∧ ∀ x ∈ l.take i, OkI x := by
          rcases hp with h | h
          · exact h
          · exact absurd he h.1
        obtain ⟨x, hx⟩ : ∃ x, l.getD i It.no = x := ⟨_, rfl⟩
        have hxm : x ∈ l := by rw [← hx]; simp [List.getD, hlt]
        have hxo := hl x hxm
        have hxs := hsm.each x hxm
        have hA : itF l i = itA x := by rw [← hx]; rfl
        have hel := encL_len hl hsm.each i (by omega) hok
        rw [← hpe] at hel
        have hs1 := sumS_le l i
        repeat (first | refine C.seq ?_ | refine C.region ?_ | refine R.zb ttok ?_ | refine R.zu ttok ?_ | refine R.zc ttok ?_ | refine R.za ttok ?_ | refine R.zx ?_ | refine R.zl ttok ?_ | refine R.zs ttok ?_ | refine R.z ttok ?_ | refine R.zk ?_ | refine R.zn ?_ | refine R.done ?_ | refine X.then ?_ | refine C.block ?_ | refine C.ret ?_ | refine C.skip ?_ | refine C.exit ?_ | refine X.pass_ret ?_ | refine X.pass_exit ?_ | refine X.block_normal ?_ | refine X.block_ret ?_ | refine X.block_exit ?_ | refine C.zt ?_ | refine C.zf ?_ | refine X.zo ?_)
        refine R.ix1 ttok i rfl rfl rfl rfl rfl rfl rfl hlt (⟨by omega, by omega⟩ : o1 ≤ o1 + i * 5 ∧ o1 + i * 5 < o1 + l.length * 5) rfl ?_
        refine R.ldr1 (v := .agg (itA x)) ttok i rfl rfl rfl (by rw [hA]; rfl) rfl rfl rfl (by rw [hA]; rfl) (by decide) (by omega) ?_
        refine R.cl [2, 3] (lay_spec p c e x hxo hc (by omega) hxs) Try.call11 (by repeat (first | exact HasIn.nil | refine HasIn.same rfl rfl ?_ | refine HasIn.bro rfl ?_ | refine HasIn.ror rfl ?_ | refine HasIn.cro rfl rfl ?_)) rfl rfl rfl (fun _ => rfl) rfl (by kernel_rfl) fun c3 hc3 => ?_
        subst he
        by_cases ho : OkI x
        · rw [(lay_ok p ho).1, (lay_ok p ho).2]
          repeat (first | refine C.seq ?_ | refine C.region ?_ | refine R.zb ttok ?_ | refine R.zu ttok ?_ | refine R.zc ttok ?_ | refine R.za ttok ?_ | refine R.zx ?_ | refine R.zl ttok ?_ | refine R.zs ttok ?_ | refine R.z ttok ?_ | refine R.zk ?_ | refine R.zn ?_ | refine R.done ?_ | refine X.then ?_ | refine C.block ?_ | refine C.ret ?_ | refine C.skip ?_ | refine C.exit ?_ | refine X.pass_ret ?_ | refine X.pass_exit ?_ | refine X.block_normal ?_ | refine X.block_ret ?_ | refine X.block_exit ?_ | refine C.zt ?_ | refine C.zf ?_ | refine X.zo ?_)
          exact X.back [(3, 4)] (i + 1, p ++ encI x, 0, c3) ⟨hlt, hc3, .inl ⟨rfl, by dsimp only; rw [encL_step l i hlt, hx, ← hpe], fun y hy => by
            rw [take_next l i hlt, hx] at hy
            rcases List.mem_append.1 hy with hy | hy
            · exact hok y hy
            · rw [List.mem_singleton.1 hy]; exact ho⟩⟩ (by show l.length - (i + 1) < l.length - i; omega) rfl (by repeat (first | exact HasT.nil | refine HasT.cons rfl rfl rfl ?_)) (.roi rfl rfl (by repeat (first | exact HasH.nil | refine HasH.same rfl rfl rfl trivial ?_ | refine HasH.same rfl rfl rfl rfl ?_ | refine HasH.same rfl rfl rfl (fun _ _ => rfl) ?_))) rfl (fun _ h => h)
        · obtain ⟨e1, h1⟩ : ∃ e1, layE 0 x = e1 := ⟨_, rfl⟩
          have h2 := lay_bad p ho
          rw [h1] at h2
          rw [h2.1, h1]
          repeat (first | refine C.seq ?_ | refine C.region ?_ | refine R.zb ttok ?_ | refine R.zu ttok ?_ | refine R.zc ttok ?_ | refine R.za ttok ?_ | refine R.zx ?_ | refine R.zl ttok ?_ | refine R.zs ttok ?_ | refine R.z ttok ?_ | refine R.zk ?_ | refine R.zn ?_ | refine R.done ?_ | refine X.then ?_ | refine C.block ?_ | refine C.ret ?_ | refine C.skip ?_ | refine C.exit ?_ | refine X.pass_ret ?_ | refine X.pass_exit ?_ | refine X.block_normal ?_ | refine X.block_ret ?_ | refine X.block_exit ?_ | refine C.zt ?_ | refine C.zf ?_ | refine X.zo ?_)
          exact X.back [(3, 4)] (i + 1, p, e1, c3) ⟨hlt, hc3, .inr ⟨h2.2, i, rfl, hpe, hok⟩⟩ (by show l.length - (i + 1) < l.length - i; omega) rfl (by repeat (first | exact HasT.nil | refine HasT.cons rfl rfl rfl ?_)) (.roi rfl rfl (by repeat (first | exact HasH.nil | refine HasH.same rfl rfl rfl trivial ?_ | refine HasH.same rfl rfl rfl rfl ?_ | refine HasH.same rfl rfl rfl (fun _ _ => rfl) ?_))) rfl (fun _ h => h)
      · repeat (first | refine C.seq ?_ | refine C.region ?_ | refine R.zb ttok ?_ | refine R.zu ttok ?_ | refine R.zc ttok ?_ | refine R.za ttok ?_ | refine R.zx ?_ | refine R.zl ttok ?_ | refine R.zs ttok ?_ | refine R.z ttok ?_ | refine R.zk ?_ | refine R.zn ?_ | refine R.done ?_ | refine X.then ?_ | refine C.block ?_ | refine C.ret ?_ | refine C.skip ?_ | refine C.exit ?_ | refine X.pass_ret ?_ | refine X.pass_exit ?_ | refine X.block_normal ?_ | refine X.block_ret ?_ | refine X.block_exit ?_ | refine C.zt ?_ | refine C.zf ?_ | refine X.zo ?_)
        exact X.back [] (i, p, e, c) ⟨hi, hc, hp⟩ (by simp) rfl (by repeat (first | exact HasT.nil | refine HasT.cons rfl rfl rfl ?_)) (.roi rfl rfl (by repeat (first | exact HasH.nil | refine HasH.same rfl rfl rfl trivial ?_ | refine HasH.same rfl rfl rfl rfl ?_ | refine HasH.same rfl rfl rfl (fun _ _ => rfl) ?_))) rfl (fun _ h => h)
    · rw [decide_eq_false hlt]
      repeat (first | refine C.seq ?_ | refine C.region ?_ | refine R.zb ttok ?_ | refine R.zu ttok ?_ | refine R.zc ttok ?_ | refine R.za ttok ?_ | refine R.zx ?_ | refine R.zl ttok ?_ | refine R.zs ttok ?_ | refine R.z ttok ?_ | refine R.zk ?_ | refine R.zn ?_ | refine R.done ?_ | refine X.then ?_ | refine C.block ?_ | refine C.ret ?_ | refine C.skip ?_ | refine C.exit ?_ | refine X.pass_ret ?_ | refine X.pass_exit ?_ | refine X.block_normal ?_ | refine X.block_ret ?_ | refine X.block_exit ?_ | refine C.zt ?_ | refine C.zf ?_ | refine X.zo ?_)
      exact X.back [] (i, p, e, c) ⟨hi, hc, hp⟩ (by simp) rfl (by repeat (first | exact HasT.nil | refine HasT.cons rfl rfl rfl ?_)) (.roi rfl rfl (by repeat (first | exact HasH.nil | refine HasH.same rfl rfl rfl trivial ?_ | refine HasH.same rfl rfl rfl rfl ?_ | refine HasH.same rfl rfl rfl (fun _ _ => rfl) ?_))) rfl (fun _ h => h)
  rintro ⟨i, p, e, c⟩ ⟨hi, hc, hp⟩
  dsimp only at hi hc hp ⊢
  refine C.cutf (σ := Nat × Int) 4 (fun s => s.1 ≤ l.length ∧ p = encL (l.take s.1) ∧ ∀ x ∈ l.take s.1, OkI x)
    (fun s => [(0, .sl 0 1 o1 l.length c1), (1, .sl 1 1 o2 B.length c2), (5, .ptr 2 0 0 0), (6, .raw (.int .i64 s.1))])
    (fun s => [(0, roI o1 l), (1, roBo o2 B), (2, wrO 3 p c s.2), (3, .bytes p c 5)]) ?_ ?_
  · repeat (first | refine C.seq ?_ | refine C.region ?_ | refine R.zb ttok ?_ | refine R.zu ttok ?_ | refine R.zc ttok ?_ | refine R.za ttok ?_ | refine R.zx ?_ | refine R.zl ttok ?_ | refine R.zs ttok ?_ | refine R.z ttok ?_ | refine R.zk ?_ | refine R.zn ?_ | refine R.done ?_ | refine X.then ?_ | refine C.block ?_ | refine C.ret ?_ | refine C.skip ?_ | refine C.exit ?_ | refine X.pass_ret ?_ | refine X.pass_exit ?_ | refine X.block_normal ?_ | refine X.block_ret ?_ | refine X.block_exit ?_ | refine C.zt ?_ | refine C.zf ?_ | refine X.zo ?_)
    refine R.cl [2, 3] (werr_spec p c e) Try.call15 (by repeat (first | exact HasIn.nil | refine HasIn.same rfl rfl ?_ | refine HasIn.bro rfl ?_ | refine HasIn.ror rfl ?_ | refine HasIn.cro rfl rfl ?_)) rfl rfl rfl (fun _ => rfl) rfl (by kernel_rfl) fun _ _ => ?_
    repeat (first | refine C.seq ?_ | refine C.region ?_ | refine R.zb ttok ?_ | refine R.zu ttok ?_ | refine R.zc ttok ?_ | refine R.za ttok ?_ | refine R.zx ?_ | refine R.zl ttok ?_ | refine R.zs ttok ?_ | refine R.z ttok ?_ | refine R.zk ?_ | refine R.zn ?_ | refine R.done ?_ | refine X.then ?_ | refine C.block ?_ | refine C.ret ?_ | refine C.skip ?_ | refine C.exit ?_ | refine X.pass_ret ?_ | refine X.pass_exit ?_ | refine X.block_normal ?_ | refine X.block_ret ?_ | refine X.block_exit ?_ | refine C.zt ?_ | refine C.zf ?_ | refine X.zo ?_)
    refine C.dec rfl (fun he => ?_) (fun he => ?_)
    · obtain ⟨_, j, rfl, hpe, hok⟩ : e ≠ 0 ∧ ∃ j, i = j + 1 ∧ p = encL (l.take j) ∧ ∀ x ∈ l.take j, OkI x := by
        rcases hp with h | h
        · exact absurd h.1 he
        · exact h
      repeat (first | refine C.seq ?_ | refine C.region ?_ | refine R.zb ttok ?_ | refine R.zu ttok ?_ | refine R.zc ttok ?_ | refine R.za ttok ?_ | refine R.zx ?_ | refine R.zl ttok ?_ | refine R.zs ttok ?_ | refine R.z ttok ?_ | refine R.zk ?_ | refine R.zn ?_ | refine R.done ?_ | refine X.then ?_ | refine C.block ?_ | refine C.ret ?_ | refine C.skip ?_ | refine C.exit ?_ | refine X.pass_ret ?_ | refine X.pass_exit ?_ | refine X.block_normal ?_ | refine X.block_ret ?_ | refine X.block_exit ?_ | refine C.zt ?_ | refine C.zf ?_ | refine X.zo ?_)
      rw [show ((j + 1 : Nat) : Int) - 1 = (j : Nat) by omega]
      repeat (first | refine C.seq ?_ | refine C.region ?_ | refine R.zb ttok ?_ | refine R.zu ttok ?_ | refine R.zc ttok ?_ | refine R.za ttok ?_ | refine R.zx ?_ | refine R.zl ttok ?_ | refine R.zs ttok ?_ | refine R.z ttok ?_ | refine R.zk ?_ | refine R.zn ?_ | refine R.done ?_ | refine X.then ?_ | refine C.block ?_ | refine C.ret ?_ | refine C.skip ?_ | refine C.exit ?_ | refine X.pass_ret ?_ | refine X.pass_exit ?_ | refine X.block_normal ?_ | refine X.block_ret ?_ | refine X.block_exit ?_ | refine C.zt ?_ | refine C.zf ?_ | refine X.zo ?_)
      exact X.back [] (j, e) ⟨by dsimp only; omega, hpe, hok⟩ (by simp) rfl (by repeat (first | exact HasT.nil | refine HasT.cons rfl rfl rfl ?_)) (.roi rfl rfl (by repeat (first | exact HasH.nil | refine HasH.same rfl rfl rfl trivial ?_ | refine HasH.same rfl rfl rfl rfl ?_ | refine HasH.same rfl rfl rfl (fun _ _ => rfl) ?_))) rfl (fun _ h => h)
    · obtain ⟨_, hpe, hok⟩ : e = 0 ∧ p = encL (l.take i) ∧ ∀ x ∈ l.take i, OkI x := by
        rcases hp with h | h
        · exact h
        · exact absurd h.1 he
      repeat (first | refine C.seq ?_ | refine C.region ?_ | refine R.zb ttok ?_ | refine R.zu ttok ?_ | refine R.zc ttok ?_ | refine R.za ttok ?_ | refine R.zx ?_ | refine R.zl ttok ?_ | refine R.zs ttok ?_ | refine R.z ttok ?_ | refine R.zk ?_ | refine R.zn ?_ | refine R.done ?_ | refine X.then ?_ | refine C.block ?_ | refine C.ret ?_ | refine C.skip ?_ | refine C.exit ?_ | refine X.pass_ret ?_ | refine X.pass_exit ?_ | refine X.block_normal ?_ | refine X.block_ret ?_ | refine X.block_exit ?_ | refine C.zt ?_ | refine C.zf ?_ | refine X.zo ?_)
      exact X.back [] (i, e) ⟨hi, hpe, hok⟩ (by simp) rfl (by repeat (first | exact HasT.nil | refine HasT.cons rfl rfl rfl ?_)) (.roi rfl rfl (by repeat (first | exact HasH.nil | refine HasH.same rfl rfl rfl trivial ?_ | refine HasH.same rfl rfl rfl rfl ?_ | refine HasH.same rfl rfl rfl (fun _ _ => rfl) ?_))) rfl (fun _ h => h)
  rintro ⟨n, e⟩ ⟨hn, hpe, hok⟩
  dsimp only at hn hpe hok ⊢
  have hpl := encL_len hl hsm.each n hn hok
  rw [← hpe] at hpl
  have hs1 := sumS_le l n
  repeat (first | refine C.seq ?_ | refine C.region ?_ | refine R.zb ttok ?_ | refine R.zu ttok ?_ | refine R.zc ttok ?_ | refine R.za ttok ?_ | refine R.zx ?_ | refine R.zl ttok ?_ | refine R.zs ttok ?_ | refine R.z ttok ?_ | refine R.zk ?_ | refine R.zn ?_ | refine R.done ?_ | refine X.then ?_ | refine C.block ?_ | refine C.ret ?_ | refine C.skip ?_ | refine C.exit ?_ | refine X.pass_ret ?_ | refine X.pass_exit ?_ | refine X.block_normal ?_ | refine X.block_ret ?_ | refine X.block_exit ?_ | refine C.zt ?_ | refine C.zf ?_ | refine X.zo ?_)
  refine R.cl [2, 3] (wdata_spec p c e hc (by omega)) Try.call14 (by repeat (first | exact HasIn.nil | refine HasIn.same rfl rfl ?_ | refine HasIn.bro rfl ?_ | refine HasIn.ror rfl ?_ | refine HasIn.cro rfl rfl ?_)) rfl rfl rfl (fun _ => rfl) rfl (by kernel_rfl) fun c5 hc5 => ?_
  refine R.cl [4] (read_spec 0 p c5 (by omega)) Try.call16 (by repeat (first | exact HasIn.nil | refine HasIn.same rfl rfl ?_ | refine HasIn.bro rfl ?_ | refine HasIn.ror rfl ?_ | refine HasIn.cro rfl rfl ?_)) rfl rfl rfl (fun _ => rfl) rfl (by kernel_rfl) fun _ _ => ?_
  repeat (first | refine C.seq ?_ | refine C.region ?_ | refine R.zb ttok ?_ | refine R.zu ttok ?_ | refine R.zc ttok ?_ | refine R.za ttok ?_ | refine R.zx ?_ | refine R.zl ttok ?_ | refine R.zs ttok ?_ | refine R.z ttok ?_ | refine R.zk ?_ | refine R.zn ?_ | refine R.done ?_ | refine X.then ?_ | refine C.block ?_ | refine C.ret ?_ | refine C.skip ?_ | refine C.exit ?_ | refine X.pass_ret ?_ | refine X.pass_exit ?_ | refine X.block_normal ?_ | refine X.block_ret ?_ | refine X.block_exit ?_ | refine C.zt ?_ | refine C.zf ?_ | refine X.zo ?_)
  refine C.loop (σ := Nat × Nat) (L2 := 7) (fun s => s.1 ≤ n ∧ s.2 = (encL (l.take s.1)).length)
    (fun s => [(0, .sl 0 1 o1 l.length c1), (1, .sl 1 1 o2 B.length c2), (6, .raw (.int .i64 n)), (7, .ptr 5 0 0 0), (8, .raw (.int .i64 s.1))])
    (fun s => [(0, roI o1 l), (1, roBo o2 B), (5, rdC 6 p p.length s.2 0), (6, .bytes p p.length 5)]) _ (fun s => n - s.1) [] (0, 0) ⟨Nat.zero_le _, by simp [encL]⟩ rfl (by repeat (first | exact HasT.nil | refine HasT.cons rfl rfl rfl ?_)) (.roi rfl rfl (by repeat (first | exact HasH.nil | refine HasH.same rfl rfl rfl trivial ?_ | refine HasH.same rfl rfl rfl rfl ?_ | refine HasH.same rfl rfl rfl (fun _ _ => rfl) ?_))) rfl (fun _ h => h) ?_
  rintro ⟨j, at_⟩ ⟨hj, hat⟩
  dsimp only at hj hat ⊢
  repeat (first | refine C.seq ?_ | refine C.region ?_ | refine R.zb ttok ?_ | refine R.zu ttok ?_ | refine R.zc ttok ?_ | refine R.za ttok ?_ | refine R.zx ?_ | refine R.zl ttok ?_ | refine R.zs ttok ?_ | refine R.z ttok ?_ | refine R.zk ?_ | refine R.zn ?_ | refine R.done ?_ | refine X.then ?_ | refine C.block ?_ | refine C.ret ?_ | refine C.skip ?_ | refine C.exit ?_ | refine X.pass_ret ?_ | refine X.pass_exit ?_ | refine X.block_normal ?_ | refine X.block_ret ?_ | refine X.block_exit ?_ | refine C.zt ?_ | refine C.zf ?_ | refine X.zo ?_)
  refine C.dec rfl (fun hlt => ?_) (fun hge => ?_)
  · have hltn : j < n := by omega
    have hlt : j < l.length := by omega
    obtain ⟨x, hx⟩ : ∃ x, l.getD j It.no = x := ⟨_, rfl⟩
    have hxm : x ∈ l := by rw [← hx]; simp [List.getD, hlt]
    have hxt : x ∈ l.take n := by
      rw [← hx, List.getD_eq_getElem?_getD, List.getElem?_eq_getElem hlt]
      exact List.mem_take_iff_getElem.2 ⟨j, by omega, rfl⟩
    have hxo := hl x hxm
    have hxs := hsm.each x hxm
    have ho := hok x hxt
    have hA : itF l j = itA x := by rw [← hx]; rfl
    have hsp := enc_split l j n hltn hn
    have hst := encL_step l j hlt
    rw [hx] at hsp hst
    have htk := tk_enc hxo hxs ho (encL (l.take j)) (encL ((l.take n).drop (j + 1)))
    rw [← hsp, ← hpe, ← List.length_append, ← hst] at htk
    have hatp : (encL (l.take j)).length ≤ p.length := by rw [hpe, hsp, List.length_append]; omega
    subst hat
    have hts := take_spec p p.length (encL (l.take j)).length 0 (askI x) hatp (by omega) (Nat.le_refl _)
    rw [htk] at hts
    repeat (first | refine C.seq ?_ | refine C.region ?_ | refine R.zb ttok ?_ | refine R.zu ttok ?_ | refine R.zc ttok ?_ | refine R.za ttok ?_ | refine R.zx ?_ | refine R.zl ttok ?_ | refine R.zs ttok ?_ | refine R.z ttok ?_ | refine R.zk ?_ | refine R.zn ?_ | refine R.done ?_ | refine X.then ?_ | refine C.block ?_ | refine C.ret ?_ | refine C.skip ?_ | refine C.exit ?_ | refine X.pass_ret ?_ | refine X.pass_exit ?_ | refine X.block_normal ?_ | refine X.block_ret ?_ | refine X.block_exit ?_ | refine C.zt ?_ | refine C.zf ?_ | refine X.zo ?_)
    refine R.ix1 ttok j rfl rfl rfl rfl rfl rfl rfl hlt (⟨by omega, by omega⟩ : o1 ≤ o1 + j * 5 ∧ o1 + j * 5 < o1 + l.length * 5) rfl ?_
    refine R.ldr1 (v := .agg (itA x)) ttok j rfl rfl rfl (by rw [hA]; rfl) rfl rfl rfl (by rw [hA]; rfl) (by decide) (by omega) ?_
    repeat (first | refine C.seq ?_ | refine C.region ?_ | refine R.zb ttok ?_ | refine R.zu ttok ?_ | refine R.zc ttok ?_ | refine R.za ttok ?_ | refine R.zx ?_ | refine R.zl ttok ?_ | refine R.zs ttok ?_ | refine R.z ttok ?_ | refine R.zk ?_ | refine R.zn ?_ | refine R.done ?_ | refine X.then ?_ | refine C.block ?_ | refine C.ret ?_ | refine C.skip ?_ | refine C.exit ?_ | refine X.pass_ret ?_ | refine X.pass_exit ?_ | refine X.block_normal ?_ | refine X.block_ret ?_ | refine X.block_exit ?_ | refine C.zt ?_ | refine C.zf ?_ | refine X.zo ?_)
    by_cases h5 : x.k = 5
    · rw [decide_eq_true h5]
      rw [if_neg (by omega), if_neg (by omega), if_neg (by omega), if_neg (by omega), if_pos h5, show askI x = ⟨x.k, x.s.size, x.u, x.i, x.s⟩ from if_pos h5] at hts
      dsimp only [gotA] at hts
      rw [strOf_strB] at hts
      repeat (first | refine C.seq ?_ | refine C.region ?_ | refine R.zb ttok ?_ | refine R.zu ttok ?_ | refine R.zc ttok ?_ | refine R.za ttok ?_ | refine R.zx ?_ | refine R.zl ttok ?_ | refine R.zs ttok ?_ | refine R.z ttok ?_ | refine R.zk ?_ | refine R.zn ?_ | refine R.done ?_ | refine X.then ?_ | refine C.block ?_ | refine C.ret ?_ | refine C.skip ?_ | refine C.exit ?_ | refine X.pass_ret ?_ | refine X.pass_exit ?_ | refine X.block_normal ?_ | refine X.block_ret ?_ | refine X.block_exit ?_ | refine C.zt ?_ | refine C.zf ?_ | refine X.zo ?_)
      refine R.cl [5, 6] hts Try.call19 (by repeat (first | exact HasIn.nil | refine HasIn.same rfl rfl ?_ | refine HasIn.bro rfl ?_ | refine HasIn.ror rfl ?_ | refine HasIn.cro rfl rfl ?_)) rfl rfl rfl (fun _ => rfl) rfl (by kernel_rfl) fun _ _ => ?_
      repeat (first | refine C.seq ?_ | refine C.region ?_ | refine R.zb ttok ?_ | refine R.zu ttok ?_ | refine R.zc ttok ?_ | refine R.za ttok ?_ | refine R.zx ?_ | refine R.zl ttok ?_ | refine R.zs ttok ?_ | refine R.z ttok ?_ | refine R.zk ?_ | refine R.zn ?_ | refine R.done ?_ | refine X.then ?_ | refine C.block ?_ | refine C.ret ?_ | refine C.skip ?_ | refine C.exit ?_ | refine X.pass_ret ?_ | refine X.pass_exit ?_ | refine X.block_normal ?_ | refine X.block_ret ?_ | refine X.block_exit ?_ | refine C.zt ?_ | refine C.zf ?_ | refine X.zo ?_)
      rw [decide_eq_false (show ¬ x.k = 1 by omega)]
      repeat (first | refine C.seq ?_ | refine C.region ?_ | refine R.zb ttok ?_ | refine R.zu ttok ?_ | refine R.zc ttok ?_ | refine R.za ttok ?_ | refine R.zx ?_ | refine R.zl ttok ?_ | refine R.zs ttok ?_ | refine R.z ttok ?_ | refine R.zk ?_ | refine R.zn ?_ | refine R.done ?_ | refine X.then ?_ | refine C.block ?_ | refine C.ret ?_ | refine C.skip ?_ | refine C.exit ?_ | refine X.pass_ret ?_ | refine X.pass_exit ?_ | refine X.block_normal ?_ | refine X.block_ret ?_ | refine X.block_exit ?_ | refine C.zt ?_ | refine C.zf ?_ | refine X.zo ?_)
      rw [decide_eq_false (show ¬ x.k = 2 by omega)]
      repeat (first | refine C.seq ?_ | refine C.region ?_ | refine R.zb ttok ?_ | refine R.zu ttok ?_ | refine R.zc ttok ?_ | refine R.za ttok ?_ | refine R.zx ?_ | refine R.zl ttok ?_ | refine R.zs ttok ?_ | refine R.z ttok ?_ | refine R.zk ?_ | refine R.zn ?_ | refine R.done ?_ | refine X.then ?_ | refine C.block ?_ | refine C.ret ?_ | refine C.skip ?_ | refine C.exit ?_ | refine X.pass_ret ?_ | refine X.pass_exit ?_ | refine X.block_normal ?_ | refine X.block_ret ?_ | refine X.block_exit ?_ | refine C.zt ?_ | refine C.zf ?_ | refine X.zo ?_)
      rw [decide_eq_false (show ¬ x.k = 3 by omega)]
      repeat (first | refine C.seq ?_ | refine C.region ?_ | refine R.zb ttok ?_ | refine R.zu ttok ?_ | refine R.zc ttok ?_ | refine R.za ttok ?_ | refine R.zx ?_ | refine R.zl ttok ?_ | refine R.zs ttok ?_ | refine R.z ttok ?_ | refine R.zk ?_ | refine R.zn ?_ | refine R.done ?_ | refine X.then ?_ | refine C.block ?_ | refine C.ret ?_ | refine C.skip ?_ | refine C.exit ?_ | refine X.pass_ret ?_ | refine X.pass_exit ?_ | refine X.block_normal ?_ | refine X.block_ret ?_ | refine X.block_exit ?_ | refine C.zt ?_ | refine C.zf ?_ | refine X.zo ?_)
      rw [decide_eq_false (show ¬ x.k = 4 by omega)]
      repeat (first | refine C.seq ?_ | refine C.region ?_ | refine R.zb ttok ?_ | refine R.zu ttok ?_ | refine R.zc ttok ?_ | refine R.za ttok ?_ | refine R.zx ?_ | refine R.zl ttok ?_ | refine R.zs ttok ?_ | refine R.z ttok ?_ | refine R.zk ?_ | refine R.zn ?_ | refine R.done ?_ | refine X.then ?_ | refine C.block ?_ | refine C.ret ?_ | refine C.skip ?_ | refine C.exit ?_ | refine X.pass_ret ?_ | refine X.pass_exit ?_ | refine X.block_normal ?_ | refine X.block_ret ?_ | refine X.block_exit ?_ | refine C.zt ?_ | refine C.zf ?_ | refine X.zo ?_)
      rw [decide_eq_true h5]
      repeat (first | refine C.seq ?_ | refine C.region ?_ | refine R.zb ttok ?_ | refine R.zu ttok ?_ | refine R.zc ttok ?_ | refine R.za ttok ?_ | refine R.zx ?_ | refine R.zl ttok ?_ | refine R.zs ttok ?_ | refine R.z ttok ?_ | refine R.zk ?_ | refine R.zn ?_ | refine R.done ?_ | refine X.then ?_ | refine C.block ?_ | refine C.ret ?_ | refine C.skip ?_ | refine C.exit ?_ | refine X.pass_ret ?_ | refine X.pass_exit ?_ | refine X.block_normal ?_ | refine X.block_ret ?_ | refine X.block_exit ?_ | refine C.zt ?_ | refine C.zf ?_ | refine X.zo ?_)
      rw [ne_selfB]
      repeat (first | refine C.seq ?_ | refine C.region ?_ | refine R.zb ttok ?_ | refine R.zu ttok ?_ | refine R.zc ttok ?_ | refine R.za ttok ?_ | refine R.zx ?_ | refine R.zl ttok ?_ | refine R.zs ttok ?_ | refine R.z ttok ?_ | refine R.zk ?_ | refine R.zn ?_ | refine R.done ?_ | refine X.then ?_ | refine C.block ?_ | refine C.ret ?_ | refine C.skip ?_ | refine C.exit ?_ | refine X.pass_ret ?_ | refine X.pass_exit ?_ | refine X.block_normal ?_ | refine X.block_ret ?_ | refine X.block_exit ?_ | refine C.zt ?_ | refine C.zf ?_ | refine X.zo ?_)
      exact X.back [] (j + 1, (encL (l.take (j + 1))).length) ⟨by dsimp only; omega, rfl⟩ (by show n - (j + 1) < n - j; omega) rfl (by repeat (first | exact HasT.nil | refine HasT.cons rfl rfl rfl ?_)) (.roi rfl rfl (by repeat (first | exact HasH.nil | refine HasH.same rfl rfl rfl trivial ?_ | refine HasH.same rfl rfl rfl rfl ?_ | refine HasH.same rfl rfl rfl (fun _ _ => rfl) ?_))) rfl (fun _ h => h)
    rw [decide_eq_false h5]
    rw [if_neg h5, show askI x = x from if_neg h5] at hts
    repeat (first | refine C.seq ?_ | refine C.region ?_ | refine R.zb ttok ?_ | refine R.zu ttok ?_ | refine R.zc ttok ?_ | refine R.za ttok ?_ | refine R.zx ?_ | refine R.zl ttok ?_ | refine R.zs ttok ?_ | refine R.z ttok ?_ | refine R.zk ?_ | refine R.zn ?_ | refine R.done ?_ | refine X.then ?_ | refine C.block ?_ | refine C.ret ?_ | refine C.skip ?_ | refine C.exit ?_ | refine X.pass_ret ?_ | refine X.pass_exit ?_ | refine X.block_normal ?_ | refine X.block_ret ?_ | refine X.block_exit ?_ | refine C.zt ?_ | refine C.zf ?_ | refine X.zo ?_)
    by_cases h1 : x.k = 1
    · rw [if_pos h1, if_neg (by omega), if_neg (by omega)] at hts
      refine R.cl [5, 6] hts Try.call19 (by repeat (first | exact HasIn.nil | refine HasIn.same rfl rfl ?_ | refine HasIn.bro rfl ?_ | refine HasIn.ror rfl ?_ | refine HasIn.cro rfl rfl ?_)) rfl rfl rfl (fun _ => rfl) rfl (by kernel_rfl) fun _ _ => ?_
      repeat (first | refine C.seq ?_ | refine C.region ?_ | refine R.zb ttok ?_ | refine R.zu ttok ?_ | refine R.zc ttok ?_ | refine R.za ttok ?_ | refine R.zx ?_ | refine R.zl ttok ?_ | refine R.zs ttok ?_ | refine R.z ttok ?_ | refine R.zk ?_ | refine R.zn ?_ | refine R.done ?_ | refine X.then ?_ | refine C.block ?_ | refine C.ret ?_ | refine C.skip ?_ | refine C.exit ?_ | refine X.pass_ret ?_ | refine X.pass_exit ?_ | refine X.block_normal ?_ | refine X.block_ret ?_ | refine X.block_exit ?_ | refine C.zt ?_ | refine C.zf ?_ | refine X.zo ?_)
      rw [decide_eq_true h1]
      repeat (first | refine C.seq ?_ | refine C.region ?_ | refine R.zb ttok ?_ | refine R.zu ttok ?_ | refine R.zc ttok ?_ | refine R.za ttok ?_ | refine R.zx ?_ | refine R.zl ttok ?_ | refine R.zs ttok ?_ | refine R.z ttok ?_ | refine R.zk ?_ | refine R.zn ?_ | refine R.done ?_ | refine X.then ?_ | refine C.block ?_ | refine C.ret ?_ | refine C.skip ?_ | refine C.exit ?_ | refine X.pass_ret ?_ | refine X.pass_exit ?_ | refine X.block_normal ?_ | refine X.block_ret ?_ | refine X.block_exit ?_ | refine C.zt ?_ | refine C.zf ?_ | refine X.zo ?_)
      refine R.rem ((x.u % 256 : Nat) : Int) rfl rfl rfl rfl (by decide) (rem256 x.u) ?_
      repeat (first | refine C.seq ?_ | refine C.region ?_ | refine R.zb ttok ?_ | refine R.zu ttok ?_ | refine R.zc ttok ?_ | refine R.za ttok ?_ | refine R.zx ?_ | refine R.zl ttok ?_ | refine R.zs ttok ?_ | refine R.z ttok ?_ | refine R.zk ?_ | refine R.zn ?_ | refine R.done ?_ | refine X.then ?_ | refine C.block ?_ | refine C.ret ?_ | refine C.skip ?_ | refine C.exit ?_ | refine X.pass_ret ?_ | refine X.pass_exit ?_ | refine X.block_normal ?_ | refine X.block_ret ?_ | refine X.block_exit ?_ | refine C.zt ?_ | refine C.zf ?_ | refine X.zo ?_)
      rw [ne_self]
      repeat (first | refine C.seq ?_ | refine C.region ?_ | refine R.zb ttok ?_ | refine R.zu ttok ?_ | refine R.zc ttok ?_ | refine R.za ttok ?_ | refine R.zx ?_ | refine R.zl ttok ?_ | refine R.zs ttok ?_ | refine R.z ttok ?_ | refine R.zk ?_ | refine R.zn ?_ | refine R.done ?_ | refine X.then ?_ | refine C.block ?_ | refine C.ret ?_ | refine C.skip ?_ | refine C.exit ?_ | refine X.pass_ret ?_ | refine X.pass_exit ?_ | refine X.block_normal ?_ | refine X.block_ret ?_ | refine X.block_exit ?_ | refine C.zt ?_ | refine C.zf ?_ | refine X.zo ?_)
      exact X.back [] (j + 1, (encL (l.take (j + 1))).length) ⟨by dsimp only; omega, rfl⟩ (by show n - (j + 1) < n - j; omega) rfl (by repeat (first | exact HasT.nil | refine HasT.cons rfl rfl rfl ?_)) (.roi rfl rfl (by repeat (first | exact HasH.nil | refine HasH.same rfl rfl rfl trivial ?_ | refine HasH.same rfl rfl rfl rfl ?_ | refine HasH.same rfl rfl rfl (fun _ _ => rfl) ?_))) rfl (fun _ h => h)
    rw [if_neg h1] at hts
    by_cases h2 : x.k = 2
    · rw [if_pos h2, if_neg (by omega), if_neg (by omega)] at hts
      obtain ⟨m, hm⟩ : ∃ m : Nat, x.n = m := ⟨x.n.toNat, by have := ho.1; omega⟩
      have hm8 : m ≤ 8 := by have := ho.1; omega
      have hxu := hxo.u2
      rw [hm, Int.toNat_natCast] at hts
      refine R.cl [5, 6] hts Try.call19 (by repeat (first | exact HasIn.nil | refine HasIn.same rfl rfl ?_ | refine HasIn.bro rfl ?_ | refine HasIn.ror rfl ?_ | refine HasIn.cro rfl rfl ?_)) rfl rfl rfl (fun _ => rfl) rfl (by kernel_rfl) fun _ _ => ?_
      repeat (first | refine C.seq ?_ | refine C.region ?_ | refine R.zb ttok ?_ | refine R.zu ttok ?_ | refine R.zc ttok ?_ | refine R.za ttok ?_ | refine R.zx ?_ | refine R.zl ttok ?_ | refine R.zs ttok ?_ | refine R.z ttok ?_ | refine R.zk ?_ | refine R.zn ?_ | refine R.done ?_ | refine X.then ?_ | refine C.block ?_ | refine C.ret ?_ | refine C.skip ?_ | refine C.exit ?_ | refine X.pass_ret ?_ | refine X.pass_exit ?_ | refine X.block_normal ?_ | refine X.block_ret ?_ | refine X.block_exit ?_ | refine C.zt ?_ | refine C.zf ?_ | refine X.zo ?_)
      rw [decide_eq_false (show ¬ x.k = 1 by omega)]
      repeat (first | refine C.seq ?_ | refine C.region ?_ | refine R.zb ttok ?_ | refine R.zu ttok ?_ | refine R.zc ttok ?_ | refine R.za ttok ?_ | refine R.zx ?_ | refine R.zl ttok ?_ | refine R.zs ttok ?_ | refine R.z ttok ?_ | refine R.zk ?_ | refine R.zn ?_ | refine R.done ?_ | refine X.then ?_ | refine C.block ?_ | refine C.ret ?_ | refine C.skip ?_ | refine C.exit ?_ | refine X.pass_ret ?_ | refine X.pass_exit ?_ | refine X.block_normal ?_ | refine X.block_ret ?_ | refine X.block_exit ?_ | refine C.zt ?_ | refine C.zf ?_ | refine X.zo ?_)
      rw [decide_eq_true h2]
      repeat (first | refine C.seq ?_ | refine C.region ?_ | refine R.zb ttok ?_ | refine R.zu ttok ?_ | refine R.zc ttok ?_ | refine R.za ttok ?_ | refine R.zx ?_ | refine R.zl ttok ?_ | refine R.zs ttok ?_ | refine R.z ttok ?_ | refine R.zk ?_ | refine R.zn ?_ | refine R.done ?_ | refine X.then ?_ | refine C.block ?_ | refine C.ret ?_ | refine C.skip ?_ | refine C.exit ?_ | refine X.pass_ret ?_ | refine X.pass_exit ?_ | refine X.block_normal ?_ | refine X.block_ret ?_ | refine X.block_exit ?_ | refine C.zt ?_ | refine C.zf ?_ | refine X.zo ?_)
      refine C.draw [[], [0], [0, 1], [0, 1, 2], [0, 1, 2, 3], [0, 1, 2, 3, 4], [0, 1, 2, 3], [0, 1, 2, 3, 6], [0, 1, 2, 3], [0, 1, 2, 3, 8], [0, 1, 2, 3, 8, 9], [0, 1, 2, 3, 8, 9, 10], [0, 1, 2, 3, 6, 7, 8, 9, 10, 11], [0, 1, 2, 3, 4, 5, 6, 7, 8, 9, 10, 11, 12], [0, 1, 2, 3, 4, 5, 6, 7, 8, 9, 10, 11, 12, 13], [0, 1, 2, 3, 4, 5, 6, 7, 8, 9, 10, 11, 12, 13, 14], [0, 1, 2, 3, 4, 5, 6, 7, 8, 9, 10, 11, 12, 13, 14, 15], [0, 1, 2, 3, 4, 5, 6, 7, 8, 9, 10, 11, 12, 13, 14, 15, 16], [0, 1, 2, 3, 4, 5, 6, 7, 8, 9, 10, 11, 12, 13, 14, 15, 16, 17], [0, 1, 2, 3, 4, 5, 6, 7, 8, 9, 10, 11, 12, 13, 14, 15, 16, 17, 18], [0, 1, 2, 3, 4, 5, 6, 7, 8, 9, 10, 11, 12, 13, 14, 15, 16, 17, 18, 19], [0, 1, 2, 3, 4, 5, 6, 7, 8, 9, 10, 11, 12, 13, 14, 15, 16, 17, 18, 19, 20], [0, 1, 2, 3, 4, 5, 6, 7, 8, 9, 10, 11, 12, 13, 14, 15, 16, 17, 18, 19], [0, 1, 2, 3, 4, 5, 6, 7, 8, 9, 10, 11, 12, 13, 14, 15, 16, 17, 18, 19, 22], [0, 1, 2, 3, 4, 5, 6, 7, 8, 9, 10, 11, 12, 13, 14, 15, 16, 17, 18, 19, 20, 21, 22, 23], [0, 1, 2, 3, 4, 5, 6, 7, 8, 9, 10, 11, 12, 13, 14, 15, 16, 17, 18, 19, 20, 21, 22, 23, 24], [0, 1, 2, 3, 4, 5, 6, 7, 8, 9, 10, 11, 12, 13, 14, 15, 16, 17, 18, 19, 20, 21, 22, 23, 24, 25]] [] (by kernel_rfl) (by kernel_rfl) ?_
      repeat (first | refine C.seq ?_ | refine C.region ?_ | refine R.zb ttok ?_ | refine R.zu ttok ?_ | refine R.zc ttok ?_ | refine R.za ttok ?_ | refine R.zx ?_ | refine R.zl ttok ?_ | refine R.zs ttok ?_ | refine R.z ttok ?_ | refine R.zk ?_ | refine R.zn ?_ | refine R.done ?_ | refine X.then ?_ | refine C.block ?_ | refine C.ret ?_ | refine C.skip ?_ | refine C.exit ?_ | refine X.pass_ret ?_ | refine X.pass_exit ?_ | refine X.block_normal ?_ | refine X.block_ret ?_ | refine X.block_exit ?_ | refine C.zt ?_ | refine C.zf ?_ | refine X.zo ?_)
      by_cases hm7 : x.n < 8
      · rw [decide_eq_true hm7]
        repeat (first | refine C.seq ?_ | refine C.region ?_ | refine R.zb ttok ?_ | refine R.zu ttok ?_ | refine R.zc ttok ?_ | refine R.za ttok ?_ | refine R.zx ?_ | refine R.zl ttok ?_ | refine R.zs ttok ?_ | refine R.z ttok ?_ | refine R.zk ?_ | refine R.zn ?_ | refine R.done ?_ | refine X.then ?_ | refine C.block ?_ | refine C.ret ?_ | refine C.skip ?_ | refine C.exit ?_ | refine X.pass_ret ?_ | refine X.pass_exit ?_ | refine X.block_normal ?_ | refine X.block_ret ?_ | refine X.block_exit ?_ | refine C.zt ?_ | refine C.zf ?_ | refine X.zo ?_)
        refine R.shl ((256 ^ m : Nat) : Int) rfl rfl rfl rfl (by omega) (by rw [hm]; exact shl_one (by omega)) ?_
        repeat (first | refine C.seq ?_ | refine C.region ?_ | refine R.zb ttok ?_ | refine R.zu ttok ?_ | refine R.zc ttok ?_ | refine R.za ttok ?_ | refine R.zx ?_ | refine R.zl ttok ?_ | refine R.zs ttok ?_ | refine R.z ttok ?_ | refine R.zk ?_ | refine R.zn ?_ | refine R.done ?_ | refine X.then ?_ | refine C.block ?_ | refine C.ret ?_ | refine C.skip ?_ | refine C.exit ?_ | refine X.pass_ret ?_ | refine X.pass_exit ?_ | refine X.block_normal ?_ | refine X.block_ret ?_ | refine X.block_exit ?_ | refine C.zt ?_ | refine C.zf ?_ | refine X.zo ?_)
        refine R.rem ((x.u % 256 ^ m : Nat) : Int) rfl rfl rfl rfl (by have := Nat.pow_pos (n := m) (show 0 < 256 by omega); omega) (tmod_nat _ _) ?_
        repeat (first | refine C.seq ?_ | refine C.region ?_ | refine R.zb ttok ?_ | refine R.zu ttok ?_ | refine R.zc ttok ?_ | refine R.za ttok ?_ | refine R.zx ?_ | refine R.zl ttok ?_ | refine R.zs ttok ?_ | refine R.z ttok ?_ | refine R.zk ?_ | refine R.zn ?_ | refine R.done ?_ | refine X.then ?_ | refine C.block ?_ | refine C.ret ?_ | refine C.skip ?_ | refine C.exit ?_ | refine X.pass_ret ?_ | refine X.pass_exit ?_ | refine X.block_normal ?_ | refine X.block_ret ?_ | refine X.block_exit ?_ | refine C.zt ?_ | refine C.zf ?_ | refine X.zo ?_)
        rw [ne_self]
        repeat (first | refine C.seq ?_ | refine C.region ?_ | refine R.zb ttok ?_ | refine R.zu ttok ?_ | refine R.zc ttok ?_ | refine R.za ttok ?_ | refine R.zx ?_ | refine R.zl ttok ?_ | refine R.zs ttok ?_ | refine R.z ttok ?_ | refine R.zk ?_ | refine R.zn ?_ | refine R.done ?_ | refine X.then ?_ | refine C.block ?_ | refine C.ret ?_ | refine C.skip ?_ | refine C.exit ?_ | refine X.pass_ret ?_ | refine X.pass_exit ?_ | refine X.block_normal ?_ | refine X.block_ret ?_ | refine X.block_exit ?_ | refine C.zt ?_ | refine C.zf ?_ | refine X.zo ?_)
        rw [decide_eq_false (show ¬ x.n = 8 by omega)]
        repeat (first | refine C.seq ?_ | refine C.region ?_ | refine R.zb ttok ?_ | refine R.zu ttok ?_ | refine R.zc ttok ?_ | refine R.za ttok ?_ | refine R.zx ?_ | refine R.zl ttok ?_ | refine R.zs ttok ?_ | refine R.z ttok ?_ | refine R.zk ?_ | refine R.zn ?_ | refine R.done ?_ | refine X.then ?_ | refine C.block ?_ | refine C.ret ?_ | refine C.skip ?_ | refine C.exit ?_ | refine X.pass_ret ?_ | refine X.pass_exit ?_ | refine X.block_normal ?_ | refine X.block_ret ?_ | refine X.block_exit ?_ | refine C.zt ?_ | refine C.zf ?_ | refine X.zo ?_)
        exact X.back [] (j + 1, (encL (l.take (j + 1))).length) ⟨by dsimp only; omega, rfl⟩ (by show n - (j + 1) < n - j; omega) rfl (by repeat (first | exact HasT.nil | refine HasT.cons rfl rfl rfl ?_)) (.roi rfl rfl (by repeat (first | exact HasH.nil | refine HasH.same rfl rfl rfl trivial ?_ | refine HasH.same rfl rfl rfl rfl ?_ | refine HasH.same rfl rfl rfl (fun _ _ => rfl) ?_))) rfl (fun _ h => h)
      · obtain rfl : m = 8 := by omega
        rw [decide_eq_false hm7, Nat.mod_eq_of_lt (show x.u < 256 ^ 8 by omega)]
        repeat (first | refine C.seq ?_ | refine C.region ?_ | refine R.zb ttok ?_ | refine R.zu ttok ?_ | refine R.zc ttok ?_ | refine R.za ttok ?_ | refine R.zx ?_ | refine R.zl ttok ?_ | refine R.zs ttok ?_ | refine R.z ttok ?_ | refine R.zk ?_ | refine R.zn ?_ | refine R.done ?_ | refine X.then ?_ | refine C.block ?_ | refine C.ret ?_ | refine C.skip ?_ | refine C.exit ?_ | refine X.pass_ret ?_ | refine X.pass_exit ?_ | refine X.block_normal ?_ | refine X.block_ret ?_ | refine X.block_exit ?_ | refine C.zt ?_ | refine C.zf ?_ | refine X.zo ?_)
        rw [decide_eq_true (show x.n = 8 by omega)]
        repeat (first | refine C.seq ?_ | refine C.region ?_ | refine R.zb ttok ?_ | refine R.zu ttok ?_ | refine R.zc ttok ?_ | refine R.za ttok ?_ | refine R.zx ?_ | refine R.zl ttok ?_ | refine R.zs ttok ?_ | refine R.z ttok ?_ | refine R.zk ?_ | refine R.zn ?_ | refine R.done ?_ | refine X.then ?_ | refine C.block ?_ | refine C.ret ?_ | refine C.skip ?_ | refine C.exit ?_ | refine X.pass_ret ?_ | refine X.pass_exit ?_ | refine X.block_normal ?_ | refine X.block_ret ?_ | refine X.block_exit ?_ | refine C.zt ?_ | refine C.zf ?_ | refine X.zo ?_)
        rw [ne_self]
        repeat (first | refine C.seq ?_ | refine C.region ?_ | refine R.zb ttok ?_ | refine R.zu ttok ?_ | refine R.zc ttok ?_ | refine R.za ttok ?_ | refine R.zx ?_ | refine R.zl ttok ?_ | refine R.zs ttok ?_ | refine R.z ttok ?_ | refine R.zk ?_ | refine R.zn ?_ | refine R.done ?_ | refine X.then ?_ | refine C.block ?_ | refine C.ret ?_ | refine C.skip ?_ | refine C.exit ?_ | refine X.pass_ret ?_ | refine X.pass_exit ?_ | refine X.block_normal ?_ | refine X.block_ret ?_ | refine X.block_exit ?_ | refine C.zt ?_ | refine C.zf ?_ | refine X.zo ?_)
        exact X.back [] (j + 1, (encL (l.take (j + 1))).length) ⟨by dsimp only; omega, rfl⟩ (by show n - (j + 1) < n - j; omega) rfl (by repeat (first | exact HasT.nil | refine HasT.cons rfl rfl rfl ?_)) (.roi rfl rfl (by repeat (first | exact HasH.nil | refine HasH.same rfl rfl rfl trivial ?_ | refine HasH.same rfl rfl rfl rfl ?_ | refine HasH.same rfl rfl rfl (fun _ _ => rfl) ?_))) rfl (fun _ h => h)
    rw [if_neg h2] at hts
    by_cases h3 : x.k = 3
    · rw [if_pos h3] at hts
      refine R.cl [5, 6] hts Try.call19 (by repeat (first | exact HasIn.nil | refine HasIn.same rfl rfl ?_ | refine HasIn.bro rfl ?_ | refine HasIn.ror rfl ?_ | refine HasIn.cro rfl rfl ?_)) rfl rfl rfl (fun _ => rfl) rfl (by kernel_rfl) fun _ _ => ?_
      repeat (first | refine C.seq ?_ | refine C.region ?_ | refine R.zb ttok ?_ | refine R.zu ttok ?_ | refine R.zc ttok ?_ | refine R.za ttok ?_ | refine R.zx ?_ | refine R.zl ttok ?_ | refine R.zs ttok ?_ | refine R.z ttok ?_ | refine R.zk ?_ | refine R.zn ?_ | refine R.done ?_ | refine X.then ?_ | refine C.block ?_ | refine C.ret ?_ | refine C.skip ?_ | refine C.exit ?_ | refine X.pass_ret ?_ | refine X.pass_exit ?_ | refine X.block_normal ?_ | refine X.block_ret ?_ | refine X.block_exit ?_ | refine C.zt ?_ | refine C.zf ?_ | refine X.zo ?_)
      rw [decide_eq_false (show ¬ x.k = 1 by omega)]
      repeat (first | refine C.seq ?_ | refine C.region ?_ | refine R.zb ttok ?_ | refine R.zu ttok ?_ | refine R.zc ttok ?_ | refine R.za ttok ?_ | refine R.zx ?_ | refine R.zl ttok ?_ | refine R.zs ttok ?_ | refine R.z ttok ?_ | refine R.zk ?_ | refine R.zn ?_ | refine R.done ?_ | refine X.then ?_ | refine C.block ?_ | refine C.ret ?_ | refine C.skip ?_ | refine C.exit ?_ | refine X.pass_ret ?_ | refine X.pass_exit ?_ | refine X.block_normal ?_ | refine X.block_ret ?_ | refine X.block_exit ?_ | refine C.zt ?_ | refine C.zf ?_ | refine X.zo ?_)
      rw [decide_eq_false (show ¬ x.k = 2 by omega)]
      repeat (first | refine C.seq ?_ | refine C.region ?_ | refine R.zb ttok ?_ | refine R.zu ttok ?_ | refine R.zc ttok ?_ | refine R.za ttok ?_ | refine R.zx ?_ | refine R.zl ttok ?_ | refine R.zs ttok ?_ | refine R.z ttok ?_ | refine R.zk ?_ | refine R.zn ?_ | refine R.done ?_ | refine X.then ?_ | refine C.block ?_ | refine C.ret ?_ | refine C.skip ?_ | refine C.exit ?_ | refine X.pass_ret ?_ | refine X.pass_exit ?_ | refine X.block_normal ?_ | refine X.block_ret ?_ | refine X.block_exit ?_ | refine C.zt ?_ | refine C.zf ?_ | refine X.zo ?_)
      rw [decide_eq_true h3]
      repeat (first | refine C.seq ?_ | refine C.region ?_ | refine R.zb ttok ?_ | refine R.zu ttok ?_ | refine R.zc ttok ?_ | refine R.za ttok ?_ | refine R.zx ?_ | refine R.zl ttok ?_ | refine R.zs ttok ?_ | refine R.z ttok ?_ | refine R.zk ?_ | refine R.zn ?_ | refine R.done ?_ | refine X.then ?_ | refine C.block ?_ | refine C.ret ?_ | refine C.skip ?_ | refine C.exit ?_ | refine X.pass_ret ?_ | refine X.pass_exit ?_ | refine X.block_normal ?_ | refine X.block_ret ?_ | refine X.block_exit ?_ | refine C.zt ?_ | refine C.zf ?_ | refine X.zo ?_)
      rw [ne_self]
      repeat (first | refine C.seq ?_ | refine C.region ?_ | refine R.zb ttok ?_ | refine R.zu ttok ?_ | refine R.zc ttok ?_ | refine R.za ttok ?_ | refine R.zx ?_ | refine R.zl ttok ?_ | refine R.zs ttok ?_ | refine R.z ttok ?_ | refine R.zk ?_ | refine R.zn ?_ | refine R.done ?_ | refine X.then ?_ | refine C.block ?_ | refine C.ret ?_ | refine C.skip ?_ | refine C.exit ?_ | refine X.pass_ret ?_ | refine X.pass_exit ?_ | refine X.block_normal ?_ | refine X.block_ret ?_ | refine X.block_exit ?_ | refine C.zt ?_ | refine C.zf ?_ | refine X.zo ?_)
      exact X.back [] (j + 1, (encL (l.take (j + 1))).length) ⟨by dsimp only; omega, rfl⟩ (by show n - (j + 1) < n - j; omega) rfl (by repeat (first | exact HasT.nil | refine HasT.cons rfl rfl rfl ?_)) (.roi rfl rfl (by repeat (first | exact HasH.nil | refine HasH.same rfl rfl rfl trivial ?_ | refine HasH.same rfl rfl rfl rfl ?_ | refine HasH.same rfl rfl rfl (fun _ _ => rfl) ?_))) rfl (fun _ h => h)
    rw [if_neg h3] at hts
    by_cases h4 : x.k = 4
    · rw [if_pos h4] at hts
      refine R.cl [5, 6] hts Try.call19 (by repeat (first | exact HasIn.nil | refine HasIn.same rfl rfl ?_ | refine HasIn.bro rfl ?_ | refine HasIn.ror rfl ?_ | refine HasIn.cro rfl rfl ?_)) rfl rfl rfl (fun _ => rfl) rfl (by kernel_rfl) fun _ _ => ?_
      repeat (first | refine C.seq ?_ | refine C.region ?_ | refine R.zb ttok ?_ | refine R.zu ttok ?_ | refine R.zc ttok ?_ | refine R.za ttok ?_ | refine R.zx ?_ | refine R.zl ttok ?_ | refine R.zs ttok ?_ | refine R.z ttok ?_ | refine R.zk ?_ | refine R.zn ?_ | refine R.done ?_ | refine X.then ?_ | refine C.block ?_ | refine C.ret ?_ | refine C.skip ?_ | refine C.exit ?_ | refine X.pass_ret ?_ | refine X.pass_exit ?_ | refine X.block_normal ?_ | refine X.block_ret ?_ | refine X.block_exit ?_ | refine C.zt ?_ | refine C.zf ?_ | refine X.zo ?_)
      rw [decide_eq_false (show ¬ x.k = 1 by omega)]
      repeat (first | refine C.seq ?_ | refine C.region ?_ | refine R.zb ttok ?_ | refine R.zu ttok ?_ | refine R.zc ttok ?_ | refine R.za ttok ?_ | refine R.zx ?_ | refine R.zl ttok ?_ | refine R.zs ttok ?_ | refine R.z ttok ?_ | refine R.zk ?_ | refine R.zn ?_ | refine R.done ?_ | refine X.then ?_ | refine C.block ?_ | refine C.ret ?_ | refine C.skip ?_ | refine C.exit ?_ | refine X.pass_ret ?_ | refine X.pass_exit ?_ | refine X.block_normal ?_ | refine X.block_ret ?_ | refine X.block_exit ?_ | refine C.zt ?_ | refine C.zf ?_ | refine X.zo ?_)
      rw [decide_eq_false (show ¬ x.k = 2 by omega)]
      repeat (first | refine C.seq ?_ | refine C.region ?_ | refine R.zb ttok ?_ | refine R.zu ttok ?_ | refine R.zc ttok ?_ | refine R.za ttok ?_ | refine R.zx ?_ | refine R.zl ttok ?_ | refine R.zs ttok ?_ | refine R.z ttok ?_ | refine R.zk ?_ | refine R.zn ?_ | refine R.done ?_ | refine X.then ?_ | refine C.block ?_ | refine C.ret ?_ | refine C.skip ?_ | refine C.exit ?_ | refine X.pass_ret ?_ | refine X.pass_exit ?_ | refine X.block_normal ?_ | refine X.block_ret ?_ | refine X.block_exit ?_ | refine C.zt ?_ | refine C.zf ?_ | refine X.zo ?_)
      rw [decide_eq_false (show ¬ x.k = 3 by omega)]
      repeat (first | refine C.seq ?_ | refine C.region ?_ | refine R.zb ttok ?_ | refine R.zu ttok ?_ | refine R.zc ttok ?_ | refine R.za ttok ?_ | refine R.zx ?_ | refine R.zl ttok ?_ | refine R.zs ttok ?_ | refine R.z ttok ?_ | refine R.zk ?_ | refine R.zn ?_ | refine R.done ?_ | refine X.then ?_ | refine C.block ?_ | refine C.ret ?_ | refine C.skip ?_ | refine C.exit ?_ | refine X.pass_ret ?_ | refine X.pass_exit ?_ | refine X.block_normal ?_ | refine X.block_ret ?_ | refine X.block_exit ?_ | refine C.zt ?_ | refine C.zf ?_ | refine X.zo ?_)
      rw [decide_eq_true h4]
      repeat (first | refine C.seq ?_ | refine C.region ?_ | refine R.zb ttok ?_ | refine R.zu ttok ?_ | refine R.zc ttok ?_ | refine R.za ttok ?_ | refine R.zx ?_ | refine R.zl ttok ?_ | refine R.zs ttok ?_ | refine R.z ttok ?_ | refine R.zk ?_ | refine R.zn ?_ | refine R.done ?_ | refine X.then ?_ | refine C.block ?_ | refine C.ret ?_ | refine C.skip ?_ | refine C.exit ?_ | refine X.pass_ret ?_ | refine X.pass_exit ?_ | refine X.block_normal ?_ | refine X.block_ret ?_ | refine X.block_exit ?_ | refine C.zt ?_ | refine C.zf ?_ | refine X.zo ?_)
      rw [ne_self]
      repeat (first | refine C.seq ?_ | refine C.region ?_ | refine R.zb ttok ?_ | refine R.zu ttok ?_ | refine R.zc ttok ?_ | refine R.za ttok ?_ | refine R.zx ?_ | refine R.zl ttok ?_ | refine R.zs ttok ?_ | refine R.z ttok ?_ | refine R.zk ?_ | refine R.zn ?_ | refine R.done ?_ | refine X.then ?_ | refine C.block ?_ | refine C.ret ?_ | refine C.skip ?_ | refine C.exit ?_ | refine X.pass_ret ?_ | refine X.pass_exit ?_ | refine X.block_normal ?_ | refine X.block_ret ?_ | refine X.block_exit ?_ | refine C.zt ?_ | refine C.zf ?_ | refine X.zo ?_)
      exact X.back [] (j + 1, (encL (l.take (j + 1))).length) ⟨by dsimp only; omega, rfl⟩ (by show n - (j + 1) < n - j; omega) rfl (by repeat (first | exact HasT.nil | refine HasT.cons rfl rfl rfl ?_)) (.roi rfl rfl (by repeat (first | exact HasH.nil | refine HasH.same rfl rfl rfl trivial ?_ | refine HasH.same rfl rfl rfl rfl ?_ | refine HasH.same rfl rfl rfl (fun _ _ => rfl) ?_))) rfl (fun _ h => h)
    refine R.cl [5, 6] hts Try.call19 (by repeat (first | exact HasIn.nil | refine HasIn.same rfl rfl ?_ | refine HasIn.bro rfl ?_ | refine HasIn.ror rfl ?_ | refine HasIn.cro rfl rfl ?_)) rfl rfl rfl (fun _ => rfl) rfl (by kernel_rfl) fun _ _ => ?_
    repeat (first | refine C.seq ?_ | refine C.region ?_ | refine R.zb ttok ?_ | refine R.zu ttok ?_ | refine R.zc ttok ?_ | refine R.za ttok ?_ | refine R.zx ?_ | refine R.zl ttok ?_ | refine R.zs ttok ?_ | refine R.z ttok ?_ | refine R.zk ?_ | refine R.zn ?_ | refine R.done ?_ | refine X.then ?_ | refine C.block ?_ | refine C.ret ?_ | refine C.skip ?_ | refine C.exit ?_ | refine X.pass_ret ?_ | refine X.pass_exit ?_ | refine X.block_normal ?_ | refine X.block_ret ?_ | refine X.block_exit ?_ | refine C.zt ?_ | refine C.zf ?_ | refine X.zo ?_)
    rw [decide_eq_false (show ¬ x.k = 1 by omega)]
    repeat (first | refine C.seq ?_ | refine C.region ?_ | refine R.zb ttok ?_ | refine R.zu ttok ?_ | refine R.zc ttok ?_ | refine R.za ttok ?_ | refine R.zx ?_ | refine R.zl ttok ?_ | refine R.zs ttok ?_ | refine R.z ttok ?_ | refine R.zk ?_ | refine R.zn ?_ | refine R.done ?_ | refine X.then ?_ | refine C.block ?_ | refine C.ret ?_ | refine C.skip ?_ | refine C.exit ?_ | refine X.pass_ret ?_ | refine X.pass_exit ?_ | refine X.block_normal ?_ | refine X.block_ret ?_ | refine X.block_exit ?_ | refine C.zt ?_ | refine C.zf ?_ | refine X.zo ?_)
    rw [decide_eq_false (show ¬ x.k = 2 by omega)]
    repeat (first | refine C.seq ?_ | refine C.region ?_ | refine R.zb ttok ?_ | refine R.zu ttok ?_ | refine R.zc ttok ?_ | refine R.za ttok ?_ | refine R.zx ?_ | refine R.zl ttok ?_ | refine R.zs ttok ?_ | refine R.z ttok ?_ | refine R.zk ?_ | refine R.zn ?_ | refine R.done ?_ | refine X.then ?_ | refine C.block ?_ | refine C.ret ?_ | refine C.skip ?_ | refine C.exit ?_ | refine X.pass_ret ?_ | refine X.pass_exit ?_ | refine X.block_normal ?_ | refine X.block_ret ?_ | refine X.block_exit ?_ | refine C.zt ?_ | refine C.zf ?_ | refine X.zo ?_)
    rw [decide_eq_false (show ¬ x.k = 3 by omega)]
    repeat (first | refine C.seq ?_ | refine C.region ?_ | refine R.zb ttok ?_ | refine R.zu ttok ?_ | refine R.zc ttok ?_ | refine R.za ttok ?_ | refine R.zx ?_ | refine R.zl ttok ?_ | refine R.zs ttok ?_ | refine R.z ttok ?_ | refine R.zk ?_ | refine R.zn ?_ | refine R.done ?_ | refine X.then ?_ | refine C.block ?_ | refine C.ret ?_ | refine C.skip ?_ | refine C.exit ?_ | refine X.pass_ret ?_ | refine X.pass_exit ?_ | refine X.block_normal ?_ | refine X.block_ret ?_ | refine X.block_exit ?_ | refine C.zt ?_ | refine C.zf ?_ | refine X.zo ?_)
    rw [decide_eq_false (show ¬ x.k = 4 by omega)]
    repeat (first | refine C.seq ?_ | refine C.region ?_ | refine R.zb ttok ?_ | refine R.zu ttok ?_ | refine R.zc ttok ?_ | refine R.za ttok ?_ | refine R.zx ?_ | refine R.zl ttok ?_ | refine R.zs ttok ?_ | refine R.z ttok ?_ | refine R.zk ?_ | refine R.zn ?_ | refine R.done ?_ | refine X.then ?_ | refine C.block ?_ | refine C.ret ?_ | refine C.skip ?_ | refine C.exit ?_ | refine X.pass_ret ?_ | refine X.pass_exit ?_ | refine X.block_normal ?_ | refine X.block_ret ?_ | refine X.block_exit ?_ | refine C.zt ?_ | refine C.zf ?_ | refine X.zo ?_)
    rw [decide_eq_false (show ¬ x.k = 5 by omega)]
    repeat (first | refine C.seq ?_ | refine C.region ?_ | refine R.zb ttok ?_ | refine R.zu ttok ?_ | refine R.zc ttok ?_ | refine R.za ttok ?_ | refine R.zx ?_ | refine R.zl ttok ?_ | refine R.zs ttok ?_ | refine R.z ttok ?_ | refine R.zk ?_ | refine R.zn ?_ | refine R.done ?_ | refine X.then ?_ | refine C.block ?_ | refine C.ret ?_ | refine C.skip ?_ | refine C.exit ?_ | refine X.pass_ret ?_ | refine X.pass_exit ?_ | refine X.block_normal ?_ | refine X.block_ret ?_ | refine X.block_exit ?_ | refine C.zt ?_ | refine C.zf ?_ | refine X.zo ?_)
    exact X.back [] (j + 1, (encL (l.take (j + 1))).length) ⟨by dsimp only; omega, rfl⟩ (by show n - (j + 1) < n - j; omega) rfl (by repeat (first | exact HasT.nil | refine HasT.cons rfl rfl rfl ?_)) (.roi rfl rfl (by repeat (first | exact HasH.nil | refine HasH.same rfl rfl rfl trivial ?_ | refine HasH.same rfl rfl rfl rfl ?_ | refine HasH.same rfl rfl rfl (fun _ _ => rfl) ?_))) rfl (fun _ h => h)
  · have hjn : j = n := by omega
    subst hjn
    rw [← hpe] at hat
    subst hat
    repeat (first | refine C.seq ?_ | refine C.region ?_ | refine R.zb ttok ?_ | refine R.zu ttok ?_ | refine R.zc ttok ?_ | refine R.za ttok ?_ | refine R.zx ?_ | refine R.zl ttok ?_ | refine R.zs ttok ?_ | refine R.z ttok ?_ | refine R.zk ?_ | refine R.zn ?_ | refine R.done ?_ | refine X.then ?_ | refine C.block ?_ | refine C.ret ?_ | refine C.skip ?_ | refine C.exit ?_ | refine X.pass_ret ?_ | refine X.pass_exit ?_ | refine X.block_normal ?_ | refine X.block_ret ?_ | refine X.block_exit ?_ | refine C.zt ?_ | refine C.zf ?_ | refine X.zo ?_)
    refine R.cl [5, 6] (rend_spec p p.length p.length 0 (Nat.le_refl _) (by omega)) Try.call21 (by repeat (first | exact HasIn.nil | refine HasIn.same rfl rfl ?_ | refine HasIn.bro rfl ?_ | refine HasIn.ror rfl ?_ | refine HasIn.cro rfl rfl ?_)) rfl rfl rfl (fun _ => rfl) rfl (by kernel_rfl) fun _ _ => ?_
    rw [show endE p p.length 0 = 0 from if_neg (by omega)]
    repeat (first | refine C.seq ?_ | refine C.region ?_ | refine R.zb ttok ?_ | refine R.zu ttok ?_ | refine R.zc ttok ?_ | refine R.za ttok ?_ | refine R.zx ?_ | refine R.zl ttok ?_ | refine R.zs ttok ?_ | refine R.z ttok ?_ | refine R.zk ?_ | refine R.zn ?_ | refine R.done ?_ | refine X.then ?_ | refine C.block ?_ | refine C.ret ?_ | refine C.skip ?_ | refine C.exit ?_ | refine X.pass_ret ?_ | refine X.pass_exit ?_ | refine X.block_normal ?_ | refine X.block_ret ?_ | refine X.block_exit ?_ | refine C.zt ?_ | refine C.zf ?_ | refine X.zo ?_)
    refine R.cl [1, 0] (again_spec o2 o1 c2 c1 B l hl hB hBc h300) Try.call22 (.same rfl rfl (.roi rfl .nil)) rfl rfl rfl (fun _ => rfl) rfl (by kernel_rfl) fun _ _ => ?_
    repeat (first | refine C.seq ?_ | refine C.region ?_ | refine R.zb ttok ?_ | refine R.zu ttok ?_ | refine R.zc ttok ?_ | refine R.za ttok ?_ | refine R.zx ?_ | refine R.zl ttok ?_ | refine R.zs ttok ?_ | refine R.z ttok ?_ | refine R.zk ?_ | refine R.zn ?_ | refine R.done ?_ | refine X.then ?_ | refine C.block ?_ | refine C.ret ?_ | refine C.skip ?_ | refine C.exit ?_ | refine X.pass_ret ?_ | refine X.pass_exit ?_ | refine X.block_normal ?_ | refine X.block_ret ?_ | refine X.block_exit ?_ | refine C.zt ?_ | refine C.zf ?_ | refine X.zo ?_)
    refine R.cl [] (known_spec) Try.call10 (by repeat (first | exact HasIn.nil | refine HasIn.same rfl rfl ?_ | refine HasIn.bro rfl ?_ | refine HasIn.ror rfl ?_ | refine HasIn.cro rfl rfl ?_)) rfl rfl rfl (fun _ => rfl) rfl (by kernel_rfl) fun _ _ => ?_
    repeat (first | refine C.seq ?_ | refine C.region ?_ | refine R.zb ttok ?_ | refine R.zu ttok ?_ | refine R.zc ttok ?_ | refine R.za ttok ?_ | refine R.zx ?_ | refine R.zl ttok ?_ | refine R.zs ttok ?_ | refine R.z ttok ?_ | refine R.zk ?_ | refine R.zn ?_ | refine R.done ?_ | refine X.then ?_ | refine C.block ?_ | refine C.ret ?_ | refine C.skip ?_ | refine C.exit ?_ | refine X.pass_ret ?_ | refine X.pass_exit ?_ | refine X.block_normal ?_ | refine X.block_ret ?_ | refine X.block_exit ?_ | refine C.zt ?_ | refine C.zf ?_ | refine X.zo ?_)
    refine X.fin ttok () [] trivial rfl rfl rfl (by repeat (first | exact HasH.nil | refine HasH.same rfl rfl rfl trivial ?_ | refine HasH.same rfl rfl rfl rfl ?_ | refine HasH.same rfl rfl rfl (fun _ _ => rfl) ?_)) _ (by first | exact .inl rfl | exact .inr rfl)
end Go.Proofs.Ytchbncbojfiiiaa
