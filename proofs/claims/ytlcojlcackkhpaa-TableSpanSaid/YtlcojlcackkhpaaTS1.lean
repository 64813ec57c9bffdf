/- table: Table[string], printed out of Table[int]'s texts by gen_table_s.py -/
import Derived.Test.YtlcojlcackkhpaaTI
namespace Go.Proofs.Ytlcojlcackkhpaa
set_option linter.unusedVariables false
set_option linter.unusedSimpArgs false
open Go.RowKit
set_option maxRecDepth 100000
set_option maxHeartbeats 4000000
abbrev PIS := ByteArray × ByteArray
abbrev piAS (p : PIS) : List AV := [.raw (.string p.1), .raw (.string p.2)]
def piFS (l : List PIS) (i : Nat) : List AV := piAS (l.getD i (⟨#[]⟩, ⟨#[]⟩))
theorem findI1_specS (p : PIS) (k : ByteArray) : Spec Try.prog 80 [.agg (piAS p), .raw (.string k)] [] 0 (σ := Unit) (fun _ => True) (fun _ => .raw (.int .i64 (cmpS p.1 k))) (fun _ => []) := by
  refine Spec.of Try.func80 rfl Try.ntmps80 rfl (by simp [AO.Bd, bytesF, AV.bds, AV.bd]) fun ρ w => ?_
  repeat (first | refine C.seq ?_ | refine C.region ?_ | refine R.zb ttok ?_ | refine R.zu ttok ?_ | refine R.zc ttok ?_ | refine R.za ttok ?_ | refine R.zx ?_ | refine R.zl ttok ?_ | refine R.zs ttok ?_ | refine R.z ttok ?_ | refine R.zk ?_ | refine R.zn ?_ | refine R.done ?_ | refine X.then ?_ | refine C.block ?_ | refine C.ret ?_ | refine C.skip ?_ | refine C.exit ?_ | refine X.pass_ret ?_ | refine X.pass_exit ?_ | refine X.block_normal ?_ | refine X.block_ret ?_ | refine X.block_exit ?_ | refine C.zt ?_ | refine C.zf ?_ | refine X.zo ?_)
  refine R.cl [] (compare_spec p.1 k) Try.call68 (by repeat (first | exact HasIn.nil | refine HasIn.same rfl rfl ?_ | refine HasIn.bro rfl ?_ | refine HasIn.ror rfl ?_ | refine HasIn.cro rfl rfl ?_)) rfl rfl rfl (fun _ => rfl) rfl (by kernel_rfl) fun _ _ => ?_
  repeat (first | refine C.seq ?_ | refine C.region ?_ | refine R.zb ttok ?_ | refine R.zu ttok ?_ | refine R.zc ttok ?_ | refine R.za ttok ?_ | refine R.zx ?_ | refine R.zl ttok ?_ | refine R.zs ttok ?_ | refine R.z ttok ?_ | refine R.zk ?_ | refine R.zn ?_ | refine R.done ?_ | refine X.then ?_ | refine C.block ?_ | refine C.ret ?_ | refine C.skip ?_ | refine C.exit ?_ | refine X.pass_ret ?_ | refine X.pass_exit ?_ | refine X.block_normal ?_ | refine X.block_ret ?_ | refine X.block_exit ?_ | refine C.zt ?_ | refine C.zf ?_ | refine X.zo ?_)
  refine X.fin ttok () [] trivial rfl rfl rfl (by repeat (first | exact HasH.nil | refine HasH.same rfl rfl rfl trivial ?_ | refine HasH.same rfl rfl rfl rfl ?_ | refine HasH.same rfl rfl rfl (fun _ _ => rfl) ?_ | refine HasH.ros rfl rfl ?_)) _ (by first | exact .inl rfl | exact .inr rfl)
theorem searchI_specS (l : List PIS) (k : ByteArray) (c p0 : Nat) (hl : l.length ≤ 1000000000) (hp : p0 ≤ l.length) (hm : ∀ i, i < l.length → (cmpS (l.getD i (⟨#[]⟩, ⟨#[]⟩)).1 k < 0 ↔ i < p0)) :
    Spec Try.prog 79 [.sl 0 2 0 l.length c, .raw (.string k), .fn 80 []] [.ro 2 0 l.length (piFS l)] 1 (σ := Unit) (fun _ => True)
    (fun _ => .tup [.raw (.int .i64 p0), .raw (.bool (decide (p0 < l.length ∧ cmpS (l.getD p0 (⟨#[]⟩, ⟨#[]⟩)).1 k = 0)))]) (fun _ => []) := by
  refine Spec.of Try.func79 rfl Try.ntmps79 rfl (by repeat (first | exact bdl_nil _ | refine bdl_cons (fun _ _ => rfl) ?_)) fun ρ w => ?_
  repeat (first | refine C.seq ?_ | refine C.region ?_ | refine R.zb ttok ?_ | refine R.zu ttok ?_ | refine R.zc ttok ?_ | refine R.za ttok ?_ | refine R.zx ?_ | refine R.zl ttok ?_ | refine R.zs ttok ?_ | refine R.z ttok ?_ | refine R.zk ?_ | refine R.zn ?_ | refine R.done ?_ | refine X.then ?_ | refine C.block ?_ | refine C.ret ?_ | refine C.skip ?_ | refine C.exit ?_ | refine X.pass_ret ?_ | refine X.pass_exit ?_ | refine X.block_normal ?_ | refine X.block_ret ?_ | refine X.block_exit ?_ | refine C.zt ?_ | refine C.zf ?_ | refine X.zo ?_)
  refine C.loop (σ := Nat × Nat) (L2 := 1) (fun s => s.1 ≤ p0 ∧ p0 ≤ s.2 ∧ s.2 ≤ l.length)
    (fun s => [(0, .sl 0 2 0 l.length c), (1, .raw (.string k)), (2, .fn 80 []), (8, .raw (.int .i64 l.length)), (9, .raw (.int .i64 s.1)), (10, .raw (.int .i64 s.2))])
    (fun _ => [(0, .ro 2 0 l.length (piFS l))]) _ (fun s => s.2 - s.1) [] (0, l.length) ⟨Nat.zero_le _, hp, Nat.le_refl _⟩ rfl (by repeat (first | exact HasT.nil | refine HasT.cons rfl rfl rfl ?_)) (by repeat (first | exact HasH.nil | refine HasH.same rfl rfl rfl trivial ?_ | refine HasH.same rfl rfl rfl rfl ?_ | refine HasH.same rfl rfl rfl (fun _ _ => rfl) ?_ | refine HasH.ros rfl rfl ?_)) rfl (fun _ h => h) ?_
  rintro ⟨i, j⟩ ⟨h1, h2, h3⟩
  dsimp only at h1 h2 h3 ⊢
  repeat (first | refine C.seq ?_ | refine C.region ?_ | refine R.zb ttok ?_ | refine R.zu ttok ?_ | refine R.zc ttok ?_ | refine R.za ttok ?_ | refine R.zx ?_ | refine R.zl ttok ?_ | refine R.zs ttok ?_ | refine R.z ttok ?_ | refine R.zk ?_ | refine R.zn ?_ | refine R.done ?_ | refine X.then ?_ | refine C.block ?_ | refine C.ret ?_ | refine C.skip ?_ | refine C.exit ?_ | refine X.pass_ret ?_ | refine X.pass_exit ?_ | refine X.block_normal ?_ | refine X.block_ret ?_ | refine X.block_exit ?_ | refine C.zt ?_ | refine C.zf ?_ | refine X.zo ?_)
  refine C.dec rfl (fun hlt => ?_) (fun hge => ?_)
  · have hlt : i < j := by omega
    repeat (first | refine C.seq ?_ | refine C.region ?_ | refine R.zb ttok ?_ | refine R.zu ttok ?_ | refine R.zc ttok ?_ | refine R.za ttok ?_ | refine R.zx ?_ | refine R.zl ttok ?_ | refine R.zs ttok ?_ | refine R.z ttok ?_ | refine R.zk ?_ | refine R.zn ?_ | refine R.done ?_ | refine X.then ?_ | refine C.block ?_ | refine C.ret ?_ | refine C.skip ?_ | refine C.exit ?_ | refine X.pass_ret ?_ | refine X.pass_exit ?_ | refine X.block_normal ?_ | refine X.block_ret ?_ | refine X.block_exit ?_ | refine C.zt ?_ | refine C.zf ?_ | refine X.zo ?_)
    refine R.shr (((i + j) / 2 : Nat) : Int) rfl rfl rfl rfl (by omega) (by rw [show (i : Int) + (j : Int) = ((i + j : Nat) : Int) by omega]; exact shr1u (i + j)) ?_
    repeat (first | refine C.seq ?_ | refine C.region ?_ | refine R.zb ttok ?_ | refine R.zu ttok ?_ | refine R.zc ttok ?_ | refine R.za ttok ?_ | refine R.zx ?_ | refine R.zl ttok ?_ | refine R.zs ttok ?_ | refine R.z ttok ?_ | refine R.zk ?_ | refine R.zn ?_ | refine R.done ?_ | refine X.then ?_ | refine C.block ?_ | refine C.ret ?_ | refine C.skip ?_ | refine C.exit ?_ | refine X.pass_ret ?_ | refine X.pass_exit ?_ | refine X.block_normal ?_ | refine X.block_ret ?_ | refine X.block_exit ?_ | refine C.zt ?_ | refine C.zf ?_ | refine X.zo ?_)
    generalize hh : (i + j) / 2 = m
    have hm1 : i ≤ m ∧ m < j := by omega
    refine R.ix ttok m rfl rfl rfl rfl rfl (by kernel_rfl) rfl (by omega) (⟨Nat.zero_le _, by omega⟩ : 0 ≤ 0 + m ∧ 0 + m < 0 + l.length) rfl ?_
    refine R.ldo (v := .agg (piAS (l.getD m (⟨#[]⟩, ⟨#[]⟩)))) ttok rfl rfl rfl rfl rfl (by kernel_rfl) (by omega) ?_
    repeat (first | refine C.seq ?_ | refine C.region ?_ | refine R.zb ttok ?_ | refine R.zu ttok ?_ | refine R.zc ttok ?_ | refine R.za ttok ?_ | refine R.zx ?_ | refine R.zl ttok ?_ | refine R.zs ttok ?_ | refine R.z ttok ?_ | refine R.zk ?_ | refine R.zn ?_ | refine R.done ?_ | refine X.then ?_ | refine C.block ?_ | refine C.ret ?_ | refine C.skip ?_ | refine C.exit ?_ | refine X.pass_ret ?_ | refine X.pass_exit ?_ | refine X.block_normal ?_ | refine X.block_ret ?_ | refine X.block_exit ?_ | refine C.zt ?_ | refine C.zf ?_ | refine X.zo ?_)
    refine R.cl [] (findI1_specS (l.getD m (⟨#[]⟩, ⟨#[]⟩)) k) Try.call80 (by repeat (first | exact HasIn.nil | refine HasIn.same rfl rfl ?_ | refine HasIn.bro rfl ?_ | refine HasIn.ror rfl ?_ | refine HasIn.cro rfl rfl ?_)) rfl rfl rfl (fun _ => rfl) rfl (by kernel_rfl) fun _ _ => ?_
    repeat (first | refine C.seq ?_ | refine C.region ?_ | refine R.zb ttok ?_ | refine R.zu ttok ?_ | refine R.zc ttok ?_ | refine R.za ttok ?_ | refine R.zx ?_ | refine R.zl ttok ?_ | refine R.zs ttok ?_ | refine R.z ttok ?_ | refine R.zk ?_ | refine R.zn ?_ | refine R.done ?_ | refine X.then ?_ | refine C.block ?_ | refine C.ret ?_ | refine C.skip ?_ | refine C.exit ?_ | refine X.pass_ret ?_ | refine X.pass_exit ?_ | refine X.block_normal ?_ | refine X.block_ret ?_ | refine X.block_exit ?_ | refine C.zt ?_ | refine C.zf ?_ | refine X.zo ?_)
    have hk := hm m (by omega)
    refine C.dec rfl (fun hc => ?_) (fun hc => ?_)
    · have := hk.1 hc
      repeat (first | refine C.seq ?_ | refine C.region ?_ | refine R.zb ttok ?_ | refine R.zu ttok ?_ | refine R.zc ttok ?_ | refine R.za ttok ?_ | refine R.zx ?_ | refine R.zl ttok ?_ | refine R.zs ttok ?_ | refine R.z ttok ?_ | refine R.zk ?_ | refine R.zn ?_ | refine R.done ?_ | refine X.then ?_ | refine C.block ?_ | refine C.ret ?_ | refine C.skip ?_ | refine C.exit ?_ | refine X.pass_ret ?_ | refine X.pass_exit ?_ | refine X.block_normal ?_ | refine X.block_ret ?_ | refine X.block_exit ?_ | refine C.zt ?_ | refine C.zf ?_ | refine X.zo ?_)
      exact X.back [] (m + 1, j) ⟨by dsimp only; omega, h2, h3⟩ (by show j - (m + 1) < j - i; omega) rfl (by repeat (first | exact HasT.nil | refine HasT.cons rfl rfl rfl ?_)) (by repeat (first | exact HasH.nil | refine HasH.same rfl rfl rfl trivial ?_ | refine HasH.same rfl rfl rfl rfl ?_ | refine HasH.same rfl rfl rfl (fun _ _ => rfl) ?_ | refine HasH.ros rfl rfl ?_)) rfl (fun _ h => h)
    · have : ¬ m < p0 := fun h => hc (hk.2 h)
      repeat (first | refine C.seq ?_ | refine C.region ?_ | refine R.zb ttok ?_ | refine R.zu ttok ?_ | refine R.zc ttok ?_ | refine R.za ttok ?_ | refine R.zx ?_ | refine R.zl ttok ?_ | refine R.zs ttok ?_ | refine R.z ttok ?_ | refine R.zk ?_ | refine R.zn ?_ | refine R.done ?_ | refine X.then ?_ | refine C.block ?_ | refine C.ret ?_ | refine C.skip ?_ | refine C.exit ?_ | refine X.pass_ret ?_ | refine X.pass_exit ?_ | refine X.block_normal ?_ | refine X.block_ret ?_ | refine X.block_exit ?_ | refine C.zt ?_ | refine C.zf ?_ | refine X.zo ?_)
      exact X.back [] (i, m) ⟨h1, by dsimp only; omega, by dsimp only; omega⟩ (by show m - i < j - i; omega) rfl (by repeat (first | exact HasT.nil | refine HasT.cons rfl rfl rfl ?_)) (by repeat (first | exact HasH.nil | refine HasH.same rfl rfl rfl trivial ?_ | refine HasH.same rfl rfl rfl rfl ?_ | refine HasH.same rfl rfl rfl (fun _ _ => rfl) ?_ | refine HasH.ros rfl rfl ?_)) rfl (fun _ h => h)
  · obtain rfl : i = p0 := by omega
    repeat (first | refine C.seq ?_ | refine C.region ?_ | refine R.zb ttok ?_ | refine R.zu ttok ?_ | refine R.zc ttok ?_ | refine R.za ttok ?_ | refine R.zx ?_ | refine R.zl ttok ?_ | refine R.zs ttok ?_ | refine R.z ttok ?_ | refine R.zk ?_ | refine R.zn ?_ | refine R.done ?_ | refine X.then ?_ | refine C.block ?_ | refine C.ret ?_ | refine C.skip ?_ | refine C.exit ?_ | refine X.pass_ret ?_ | refine X.pass_exit ?_ | refine X.block_normal ?_ | refine X.block_ret ?_ | refine X.block_exit ?_ | refine C.zt ?_ | refine C.zf ?_ | refine X.zo ?_)
    by_cases hi : (i : Int) < (l.length : Nat)
    · rw [decide_eq_true hi]
      have hi : i < l.length := by omega
      repeat (first | refine C.seq ?_ | refine C.region ?_ | refine R.zb ttok ?_ | refine R.zu ttok ?_ | refine R.zc ttok ?_ | refine R.za ttok ?_ | refine R.zx ?_ | refine R.zl ttok ?_ | refine R.zs ttok ?_ | refine R.z ttok ?_ | refine R.zk ?_ | refine R.zn ?_ | refine R.done ?_ | refine X.then ?_ | refine C.block ?_ | refine C.ret ?_ | refine C.skip ?_ | refine C.exit ?_ | refine X.pass_ret ?_ | refine X.pass_exit ?_ | refine X.block_normal ?_ | refine X.block_ret ?_ | refine X.block_exit ?_ | refine C.zt ?_ | refine C.zf ?_ | refine X.zo ?_)
      refine R.ix ttok i rfl rfl rfl rfl rfl (by kernel_rfl) rfl (by omega) (⟨Nat.zero_le _, by omega⟩ : 0 ≤ 0 + i ∧ 0 + i < 0 + l.length) rfl ?_
      refine R.ldo (v := .agg (piAS (l.getD i (⟨#[]⟩, ⟨#[]⟩)))) ttok rfl rfl rfl rfl rfl (by kernel_rfl) (by omega) ?_
      repeat (first | refine C.seq ?_ | refine C.region ?_ | refine R.zb ttok ?_ | refine R.zu ttok ?_ | refine R.zc ttok ?_ | refine R.za ttok ?_ | refine R.zx ?_ | refine R.zl ttok ?_ | refine R.zs ttok ?_ | refine R.z ttok ?_ | refine R.zk ?_ | refine R.zn ?_ | refine R.done ?_ | refine X.then ?_ | refine C.block ?_ | refine C.ret ?_ | refine C.skip ?_ | refine C.exit ?_ | refine X.pass_ret ?_ | refine X.pass_exit ?_ | refine X.block_normal ?_ | refine X.block_ret ?_ | refine X.block_exit ?_ | refine C.zt ?_ | refine C.zf ?_ | refine X.zo ?_)
      refine R.cl [] (findI1_specS (l.getD i (⟨#[]⟩, ⟨#[]⟩)) k) Try.call80 (by repeat (first | exact HasIn.nil | refine HasIn.same rfl rfl ?_ | refine HasIn.bro rfl ?_ | refine HasIn.ror rfl ?_ | refine HasIn.cro rfl rfl ?_)) rfl rfl rfl (fun _ => rfl) rfl (by kernel_rfl) fun _ _ => ?_
      rw [show decide (i < l.length ∧ cmpS (l.getD i (⟨#[]⟩, ⟨#[]⟩)).1 k = 0) = decide (cmpS (l.getD i (⟨#[]⟩, ⟨#[]⟩)).1 k = 0) by simp [hi]]
      repeat (first | refine C.seq ?_ | refine C.region ?_ | refine R.zb ttok ?_ | refine R.zu ttok ?_ | refine R.zc ttok ?_ | refine R.za ttok ?_ | refine R.zx ?_ | refine R.zl ttok ?_ | refine R.zs ttok ?_ | refine R.z ttok ?_ | refine R.zk ?_ | refine R.zn ?_ | refine R.done ?_ | refine X.then ?_ | refine C.block ?_ | refine C.ret ?_ | refine C.skip ?_ | refine C.exit ?_ | refine X.pass_ret ?_ | refine X.pass_exit ?_ | refine X.block_normal ?_ | refine X.block_ret ?_ | refine X.block_exit ?_ | refine C.zt ?_ | refine C.zf ?_ | refine X.zo ?_)
      refine X.fin ttok () [] trivial rfl rfl rfl (by repeat (first | exact HasH.nil | refine HasH.same rfl rfl rfl trivial ?_ | refine HasH.same rfl rfl rfl rfl ?_ | refine HasH.same rfl rfl rfl (fun _ _ => rfl) ?_ | refine HasH.ros rfl rfl ?_)) _ (by first | exact .inl rfl | exact .inr rfl)
    · rw [decide_eq_false hi]
      rw [show decide (i < l.length ∧ cmpS (l.getD i (⟨#[]⟩, ⟨#[]⟩)).1 k = 0) = false from decide_eq_false (fun h => hi (by omega))]
      repeat (first | refine C.seq ?_ | refine C.region ?_ | refine R.zb ttok ?_ | refine R.zu ttok ?_ | refine R.zc ttok ?_ | refine R.za ttok ?_ | refine R.zx ?_ | refine R.zl ttok ?_ | refine R.zs ttok ?_ | refine R.z ttok ?_ | refine R.zk ?_ | refine R.zn ?_ | refine R.done ?_ | refine X.then ?_ | refine C.block ?_ | refine C.ret ?_ | refine C.skip ?_ | refine C.exit ?_ | refine X.pass_ret ?_ | refine X.pass_exit ?_ | refine X.block_normal ?_ | refine X.block_ret ?_ | refine X.block_exit ?_ | refine C.zt ?_ | refine C.zf ?_ | refine X.zo ?_)
      refine X.fin ttok () [] trivial rfl rfl rfl (by repeat (first | exact HasH.nil | refine HasH.same rfl rfl rfl trivial ?_ | refine HasH.same rfl rfl rfl rfl ?_ | refine HasH.same rfl rfl rfl (fun _ _ => rfl) ?_ | refine HasH.ros rfl rfl ?_)) _ (by first | exact .inl rfl | exact .inr rfl)
abbrev zIS : PIS := (⟨#[]⟩, ⟨#[]⟩)
abbrev tbIS (l : Nat) (n c : Nat) : AO := .cells [.sl l 2 0 n c] 108
abbrev roTS (l : List PIS) : AO := .ro 2 0 l.length (piFS l)
abbrev zeroTS : AO := .cells [.raw (.slice none 0 0)] 108
def hasKS (l : List PIS) (k : ByteArray) : Bool := decide (plc l k < l.length ∧ cmpS (l.getD (plc l k) zIS).1 k = 0)
section
variable (l : List PIS) (c : Nat) (k : ByteArray) (hA : Asc l) (hl : l.length ≤ 1000000000)
theorem findI_specS (hA : Asc l) (hl : l.length ≤ 1000000000) : Spec Try.prog 59 [.ptr 0 0 0 0, .raw (.string k)] [tbIS 1 l.length c, roTS l] 2 (σ := Unit) (fun _ => True)
    (fun _ => .tup [.raw (.int .i64 (plc l k)), .raw (.bool (hasKS l k))]) (fun _ => [(0, tbIS 1 l.length c)]) := by
  refine Spec.of Try.func59 rfl Try.ntmps59 rfl (by repeat (first | exact bdl_nil _ | refine bdl_cons (fun _ _ => rfl) ?_ | refine bdl_cons trivial ?_ | refine bdl_cons rfl ?_ | refine bdl_cons (rowsF_bd _ _ _ _) ?_ | refine bdl_cons (rowsS_bd _ _ _ _) ?_)) fun ρ w => ?_
  repeat (first | refine C.seq ?_ | refine C.region ?_ | refine R.zb ttok ?_ | refine R.zu ttok ?_ | refine R.zc ttok ?_ | refine R.za ttok ?_ | refine R.zx ?_ | refine R.zl ttok ?_ | refine R.zs ttok ?_ | refine R.z ttok ?_ | refine R.zk ?_ | refine R.zn ?_ | refine R.done ?_ | refine X.then ?_ | refine C.block ?_ | refine C.ret ?_ | refine C.skip ?_ | refine C.exit ?_ | refine X.pass_ret ?_ | refine X.pass_exit ?_ | refine X.block_normal ?_ | refine X.block_ret ?_ | refine X.block_exit ?_ | refine C.zt ?_ | refine C.zf ?_ | refine X.zo ?_)
  refine R.cl [1] (searchI_specS l k c (plc l k) hl (plc_le l k) (fun i hi => plc_iff hA k _ i hi)) Try.call79 (by repeat (first | exact HasIn.nil | refine HasIn.same rfl rfl ?_ | refine HasIn.bro rfl ?_ | refine HasIn.ror rfl ?_ | refine HasIn.cro rfl rfl ?_)) rfl rfl rfl (fun _ => rfl) rfl (by kernel_rfl) fun _ _ => ?_
  repeat (first | refine C.seq ?_ | refine C.region ?_ | refine R.zb ttok ?_ | refine R.zu ttok ?_ | refine R.zc ttok ?_ | refine R.za ttok ?_ | refine R.zx ?_ | refine R.zl ttok ?_ | refine R.zs ttok ?_ | refine R.z ttok ?_ | refine R.zk ?_ | refine R.zn ?_ | refine R.done ?_ | refine X.then ?_ | refine C.block ?_ | refine C.ret ?_ | refine C.skip ?_ | refine C.exit ?_ | refine X.pass_ret ?_ | refine X.pass_exit ?_ | refine X.block_normal ?_ | refine X.block_ret ?_ | refine X.block_exit ?_ | refine C.zt ?_ | refine C.zf ?_ | refine X.zo ?_)
  refine X.fin ttok () [] trivial rfl rfl rfl (by repeat (first | exact HasH.nil | refine HasH.same rfl rfl rfl trivial ?_ | refine HasH.same rfl rfl rfl rfl ?_ | refine HasH.same rfl rfl rfl (fun _ _ => rfl) ?_ | refine HasH.ros rfl rfl ?_)) _ (by first | exact .inl rfl | exact .inr rfl)
theorem lenI_specS : Spec Try.prog 62 [.ptr 0 0 0 0] [tbIS 1 l.length c, roTS l] 2 (σ := Unit) (fun _ => True) (fun _ => .raw (.int .i64 l.length)) (fun _ => [(0, tbIS 1 l.length c)]) := by
  refine Spec.of Try.func62 rfl Try.ntmps62 rfl (by repeat (first | exact bdl_nil _ | refine bdl_cons (fun _ _ => rfl) ?_ | refine bdl_cons trivial ?_ | refine bdl_cons rfl ?_ | refine bdl_cons (rowsF_bd _ _ _ _) ?_ | refine bdl_cons (rowsS_bd _ _ _ _) ?_)) fun ρ w => ?_
  repeat (first | refine C.seq ?_ | refine C.region ?_ | refine R.zb ttok ?_ | refine R.zu ttok ?_ | refine R.zc ttok ?_ | refine R.za ttok ?_ | refine R.zx ?_ | refine R.zl ttok ?_ | refine R.zs ttok ?_ | refine R.z ttok ?_ | refine R.zk ?_ | refine R.zn ?_ | refine R.done ?_ | refine X.then ?_ | refine C.block ?_ | refine C.ret ?_ | refine C.skip ?_ | refine C.exit ?_ | refine X.pass_ret ?_ | refine X.pass_exit ?_ | refine X.block_normal ?_ | refine X.block_ret ?_ | refine X.block_exit ?_ | refine C.zt ?_ | refine C.zf ?_ | refine X.zo ?_)
  refine X.fin ttok () [] trivial rfl rfl rfl (by repeat (first | exact HasH.nil | refine HasH.same rfl rfl rfl trivial ?_ | refine HasH.same rfl rfl rfl rfl ?_ | refine HasH.same rfl rfl rfl (fun _ _ => rfl) ?_ | refine HasH.ros rfl rfl ?_)) _ (by first | exact .inl rfl | exact .inr rfl)
def aboveNS (l : List PIS) (k : ByteArray) : Nat := if hasKS l k = true then plc l k + 1 else plc l k
theorem aboveN_leS : aboveNS l k ≤ l.length := by
  unfold aboveNS
  split
  · rename_i h
    unfold hasKS at h
    exact (of_decide_eq_true h).1
  · exact plc_le l k
theorem aboveI_specS (hA : Asc l) (hl : l.length ≤ 1000000000) : Spec Try.prog 63 [.ptr 0 0 0 0, .raw (.string k)] [tbIS 1 l.length c, roTS l] 2 (σ := Unit) (fun _ => True)
    (fun _ => .raw (.int .i64 (aboveNS l k))) (fun _ => [(0, tbIS 1 l.length c)]) := by
  refine Spec.of Try.func63 rfl Try.ntmps63 rfl (by repeat (first | exact bdl_nil _ | refine bdl_cons (fun _ _ => rfl) ?_ | refine bdl_cons trivial ?_ | refine bdl_cons rfl ?_ | refine bdl_cons (rowsF_bd _ _ _ _) ?_ | refine bdl_cons (rowsS_bd _ _ _ _) ?_)) fun ρ w => ?_
  have hp := plc_le l k
  repeat (first | refine C.seq ?_ | refine C.region ?_ | refine R.zb ttok ?_ | refine R.zu ttok ?_ | refine R.zc ttok ?_ | refine R.za ttok ?_ | refine R.zx ?_ | refine R.zl ttok ?_ | refine R.zs ttok ?_ | refine R.z ttok ?_ | refine R.zk ?_ | refine R.zn ?_ | refine R.done ?_ | refine X.then ?_ | refine C.block ?_ | refine C.ret ?_ | refine C.skip ?_ | refine C.exit ?_ | refine X.pass_ret ?_ | refine X.pass_exit ?_ | refine X.block_normal ?_ | refine X.block_ret ?_ | refine X.block_exit ?_ | refine C.zt ?_ | refine C.zf ?_ | refine X.zo ?_)
  refine R.cl [0, 1] (findI_specS l c k hA hl) Try.call59 (by repeat (first | exact HasIn.nil | refine HasIn.same rfl rfl ?_ | refine HasIn.bro rfl ?_ | refine HasIn.ror rfl ?_ | refine HasIn.cro rfl rfl ?_)) rfl rfl rfl (fun _ => rfl) rfl (by kernel_rfl) fun _ _ => ?_
  cases h : hasKS l k with
  | true =>
    rw [show aboveNS l k = plc l k + 1 from if_pos h]
    repeat (first | refine C.seq ?_ | refine C.region ?_ | refine R.zb ttok ?_ | refine R.zu ttok ?_ | refine R.zc ttok ?_ | refine R.za ttok ?_ | refine R.zx ?_ | refine R.zl ttok ?_ | refine R.zs ttok ?_ | refine R.z ttok ?_ | refine R.zk ?_ | refine R.zn ?_ | refine R.done ?_ | refine X.then ?_ | refine C.block ?_ | refine C.ret ?_ | refine C.skip ?_ | refine C.exit ?_ | refine X.pass_ret ?_ | refine X.pass_exit ?_ | refine X.block_normal ?_ | refine X.block_ret ?_ | refine X.block_exit ?_ | refine C.zt ?_ | refine C.zf ?_ | refine X.zo ?_)
    refine X.fin ttok () [] trivial rfl rfl rfl (by repeat (first | exact HasH.nil | refine HasH.same rfl rfl rfl trivial ?_ | refine HasH.same rfl rfl rfl rfl ?_ | refine HasH.same rfl rfl rfl (fun _ _ => rfl) ?_ | refine HasH.ros rfl rfl ?_)) _ (by first | exact .inl rfl | exact .inr rfl)
  | false =>
    rw [show aboveNS l k = plc l k from if_neg (by rw [h]; decide)]
    repeat (first | refine C.seq ?_ | refine C.region ?_ | refine R.zb ttok ?_ | refine R.zu ttok ?_ | refine R.zc ttok ?_ | refine R.za ttok ?_ | refine R.zx ?_ | refine R.zl ttok ?_ | refine R.zs ttok ?_ | refine R.z ttok ?_ | refine R.zk ?_ | refine R.zn ?_ | refine R.done ?_ | refine X.then ?_ | refine C.block ?_ | refine C.ret ?_ | refine C.skip ?_ | refine C.exit ?_ | refine X.pass_ret ?_ | refine X.pass_exit ?_ | refine X.block_normal ?_ | refine X.block_ret ?_ | refine X.block_exit ?_ | refine C.zt ?_ | refine C.zf ?_ | refine X.zo ?_)
    refine X.fin ttok () [] trivial rfl rfl rfl (by repeat (first | exact HasH.nil | refine HasH.same rfl rfl rfl trivial ?_ | refine HasH.same rfl rfl rfl rfl ?_ | refine HasH.same rfl rfl rfl (fun _ _ => rfl) ?_ | refine HasH.ros rfl rfl ?_)) _ (by first | exact .inl rfl | exact .inr rfl)
def getIS (l : List PIS) (k : ByteArray) : ByteArray := if hasKS l k = true then (l.getD (plc l k) zIS).2 else noT
end
def pisS (l : List PIS) : List AV := l.flatMap piAS
theorem pis_appS (a b : List PIS) : pisS (a ++ b) = pisS a ++ pisS b := List.flatMap_append
theorem pis_lenS (l : List PIS) : (pisS l).length = l.length * 2 := by
  induction l with
  | nil => rfl
  | cons p l ih =>
    have : pisS (p :: l) = piAS p ++ pisS l := rfl
    rw [this, List.length_append, ih]
    simp
    omega
theorem pis_oneS (l : List PIS) : (pisS l).all AV.oneB = true := by
  induction l with
  | nil => rfl
  | cons p l ih =>
    have : pisS (p :: l) = piAS p ++ pisS l := rfl
    rw [this, List.all_append, ih]
    rfl
theorem flat_piS (l : List PIS) : ∀ m off, off + m ≤ l.length → flat (fun i => piFS l (off + i)) m = pisS ((l.drop off).take m)
  | 0, off, _ => by simp [flat, pisS]
  | m + 1, off, h => by
    rw [flat, flat_piS l m off (by omega), List.take_add_one, pis_appS]
    congr 1
    have : (l.drop off)[m]? = some (l[off + m]'(by omega)) := by rw [List.getElem?_drop, List.getElem?_eq_getElem]
    rw [this]
    simp [pisS, piFS, List.getD, show off + m < l.length by omega]
theorem flat_pi0S (l : List PIS) : flat (piFS l) l.length = pisS l := by
  have := flat_piS l l.length 0 (by omega)
  simpa using this
section
variable {E : Base} {n L : Nat} {τ : List (Nat × AV)} {h : List (Nat × AO)} {F : World → Prop}
theorem srcPiS {lab off m c cap : Nat} {l : List PIS} {T : TypeId} (hl : hk lab h = some (.tab 2 l.length cap (piFS l) T)) (hn : off + m ≤ l.length) : SrcA E n L τ h F (.sl lab 2 off m c) m (pisS ((l.drop off).take m)) := by
  have := SrcA.tab (E := E) (n := n) (L := L) (τ := τ) (F := F) (off := off) (m := m) (c := c) (by decide) hl hn
  rwa [flat_piS l m off hn] at this
theorem srcPiDS {lab p j c cap cc : Nat} {l : List PIS} {T : TypeId} (hl : hk lab h = some (.tab 2 l.length cap (piFS l) T)) (hp : p ≤ l.length) (hj : j = 0 + p ∨ l.length = p ∧ j = 0 ∧ cc = p) : SrcA E n L τ h F (.sl lab 2 j (l.length - p) c) (l.length - p) (pisS (l.drop p)) := by
  have hd : (l.drop p).take (l.length - p) = l.drop p := List.take_of_length_le (by rw [List.length_drop]; omega)
  rcases hj with rfl | ⟨h1, rfl, _⟩
  · have := srcPiS (E := E) (n := n) (L := L) (τ := τ) (F := F) (off := p) (m := l.length - p) (c := c) hl (by omega)
    rw [hd] at this
    rwa [Nat.zero_add]
  · have := srcPiS (E := E) (n := n) (L := L) (τ := τ) (F := F) (off := 0) (m := l.length - p) (c := c) hl (by omega)
    have e : (l.drop 0).take (l.length - p) = l.drop p := by rw [← h1, Nat.sub_self, List.drop_length]; rfl
    rwa [e] at this
theorem asPiS (T : TypeId) (l : List PIS) (xs : List AV) (hx : xs = pisS l) : AsRow (fun c => .tab 2 l.length c (piFS l) T) T 2 xs := by
  rw [hx, ← flat_pi0S]
  exact AsRow.tab T (by decide) fun i _ => rfl
theorem dstPiS {lab cap : Nat} {l : List PIS} {T : TypeId} (hl : hk lab h = some (.tab 2 l.length cap (piFS l) T)) : DstA E n L τ h F (.sl lab 2 0 l.length cap) T 2 l.length cap (pisS l) [lab] := by
  have := DstA.tab (E := E) (n := n) (L := L) (τ := τ) (F := F) (by decide) hl fun i _ => rfl
  rwa [flat_pi0S] at this
end
theorem hasK_ltS {l : List PIS} {k : ByteArray} (h : hasKS l k = true) : plc l k < l.length ∧ cmpS (l.getD (plc l k) zIS).1 k = 0 := by unfold hasKS at h; exact of_decide_eq_true h
theorem upd_piS (l : List PIS) (p : Nat) (v : ByteArray) (hp : p < l.length) : updF (piFS l) p (piAS ((l.getD p zIS).1, v)) = piFS (l.set p ((l.getD p zIS).1, v)) := by
  funext j
  unfold updF piFS
  by_cases h : j = p
  · subst h
    simp [List.getD, hp]
  · have h' : p ≠ j := fun e => h e.symm
    simp [List.getD, h, List.getElem?_set, h']
def putIS (l : List PIS) (k : ByteArray) (v : ByteArray) : List PIS := if hasKS l k = true then l.set (plc l k) (k, v) else l.take (plc l k) ++ (k, v) :: l.drop (plc l k)
abbrev tIS (l : List PIS) (c : Nat) : AO := .tab 2 l.length c (piFS l) 110
def insLS (l : List PIS) (i : Nat) (p : PIS) : List PIS := l.take i ++ p :: l.drop i
theorem insL_lenS (l : List PIS) (i : Nat) (p : PIS) : (insLS l i p).length = l.length + 1 := by
  unfold insLS
  rw [List.length_append, List.length_cons, List.length_take, List.length_drop]
  omega
theorem piF_insS (l : List PIS) (i : Nat) (p : PIS) (hi : i ≤ l.length) (j : Nat) : piFS (insLS l i p) j = if j < i then piFS l j else if j = i then piAS p else piFS l (j - 1) := by
  have ht : (l.take i).length = i := by rw [List.length_take]; omega
  unfold piFS insLS
  by_cases h1 : j < i
  · rw [if_pos h1, List.getD_eq_getElem?_getD, List.getElem?_append_left (by omega), List.getElem?_take, if_pos h1, ← List.getD_eq_getElem?_getD]
  · rw [if_neg h1]
    by_cases h2 : j = i
    · rw [if_pos h2, List.getD_eq_getElem?_getD, List.getElem?_append_right (by omega), ht, h2, Nat.sub_self, List.getElem?_cons_zero]
      rfl
    · rw [if_neg h2, List.getD_eq_getElem?_getD, List.getElem?_append_right (by omega), ht, show j - i = (j - 1 - i) + 1 by omega, List.getElem?_cons_succ, List.getElem?_drop, show i + (j - 1 - i) = j - 1 by omega, ← List.getD_eq_getElem?_getD]
section
variable {E : Base} {n L : Nat} {τ : List (Nat × AV)} {h : List (Nat × AO)} {F : World → Prop}
theorem srcPiFS {lab p j c cap cc : Nat} {l : List PIS} {T : TypeId} (hl : hk lab h = some (.tab 2 l.length cap (piFS l) T)) (hp : p ≤ l.length) (hj : j = 0 + p ∨ l.length = p ∧ j = 0 ∧ cc = p) : SrcA E n L τ h F (.sl lab 2 j (l.length - p) c) (l.length - p) (flat (fun j => piFS l (p + j)) (l.length - p)) := by
  rw [flat_piS l _ _ (by omega), List.take_of_length_le (by rw [List.length_drop]; omega)]
  exact srcPiDS hl hp hj
end
theorem insertI_specS (l : List PIS) (i c : Nat) (p : PIS) (hl : l.length ≤ 1000000) (hi : i ≤ l.length) (hc : l.length ≤ c) (hc2 : c ≤ 9223372036854775807) :
    Spec Try.prog 60 [.sl 0 2 0 l.length c, .raw (.int .i64 i), .sl 1 2 0 1 1] [tIS l c, .cells (piAS p) 110] 3 (σ := Nat) (fun c' => l.length + 1 ≤ c' ∧ c' ≤ 9223372036854775807)
    (fun c' => .sl 2 2 0 (l.length + 1) c') (fun c' => [(2, .tab 2 (l.length + 1) c' (piFS (insLS l i p)) 110)]) := by
  refine Spec.of Try.func60 rfl Try.ntmps60 rfl (by repeat (first | exact bdl_nil _ | refine bdl_cons (fun _ _ => rfl) ?_ | refine bdl_cons trivial ?_ | refine bdl_cons rfl ?_ | refine bdl_cons (rowsF_bd _ _ _ _) ?_ | refine bdl_cons (rowsS_bd _ _ _ _) ?_)) fun ρ w => ?_
  repeat (first | refine C.seq ?_ | refine C.region ?_ | refine R.zb ttok ?_ | refine R.zu ttok ?_ | refine R.zc ttok ?_ | refine R.za ttok ?_ | refine R.zx ?_ | refine R.zl ttok ?_ | refine R.zs ttok ?_ | refine R.z ttok ?_ | refine R.zk ?_ | refine R.zn ?_ | refine R.done ?_ | refine X.then ?_ | refine C.block ?_ | refine C.ret ?_ | refine C.skip ?_ | refine C.exit ?_ | refine X.pass_ret ?_ | refine X.pass_exit ?_ | refine X.block_normal ?_ | refine X.block_ret ?_ | refine X.block_exit ?_ | refine C.zt ?_ | refine C.zf ?_ | refine X.zo ?_)
  refine R.sl ttok i l.length rfl rfl rfl rfl rfl rfl (by kernel_rfl) ⟨_, _, rfl, rfl⟩ rfl (by omega) (by omega) fun o' ho' => ?_
  repeat (first | refine C.seq ?_ | refine C.region ?_ | refine R.zb ttok ?_ | refine R.zu ttok ?_ | refine R.zc ttok ?_ | refine R.za ttok ?_ | refine R.zx ?_ | refine R.zl ttok ?_ | refine R.zs ttok ?_ | refine R.z ttok ?_ | refine R.zk ?_ | refine R.zn ?_ | refine R.done ?_ | refine X.then ?_ | refine C.block ?_ | refine C.ret ?_ | refine C.skip ?_ | refine C.exit ?_ | refine X.pass_ret ?_ | refine X.pass_exit ?_ | refine X.block_normal ?_ | refine X.block_ret ?_ | refine X.block_exit ?_ | refine C.zt ?_ | refine C.zf ?_ | refine X.zo ?_)
  by_cases hn : (i : Int) = (l.length : Nat)
  · obtain rfl : i = l.length := by omega
    rw [decide_eq_true hn]
    repeat (first | refine C.seq ?_ | refine C.region ?_ | refine R.zb ttok ?_ | refine R.zu ttok ?_ | refine R.zc ttok ?_ | refine R.za ttok ?_ | refine R.zx ?_ | refine R.zl ttok ?_ | refine R.zs ttok ?_ | refine R.z ttok ?_ | refine R.zk ?_ | refine R.zn ?_ | refine R.done ?_ | refine X.then ?_ | refine C.block ?_ | refine C.ret ?_ | refine C.skip ?_ | refine C.exit ?_ | refine X.pass_ret ?_ | refine X.pass_exit ?_ | refine X.block_normal ?_ | refine X.block_ret ?_ | refine X.block_exit ?_ | refine C.zt ?_ | refine C.zf ?_ | refine X.zo ?_)
    have hins : insLS l l.length p = l ++ [p] := by unfold insLS; rw [List.take_length, List.drop_length]
    rw [hins]
    refine R.app (xs := pisS l) (news := pisS [p]) ttok (fun c => .tab 2 (l ++ [p]).length c (piFS (l ++ [p])) 110) rfl rfl (dstPiS rfl) (SrcA.cells rfl rfl) (asPiS _ _ _ (pis_appS _ _).symm) rfl rfl rfl rfl rfl rfl (by decide) rfl rfl rfl (by kernel_rfl) hc2 (by show (l.length + 1) * 32 ≤ _; omega) (by omega) fun cB hB hB2 => ?_
    rw [show (l ++ [p]).length = l.length + 1 by rw [List.length_append]; rfl]
    repeat (first | refine C.seq ?_ | refine C.region ?_ | refine R.zb ttok ?_ | refine R.zu ttok ?_ | refine R.zc ttok ?_ | refine R.za ttok ?_ | refine R.zx ?_ | refine R.zl ttok ?_ | refine R.zs ttok ?_ | refine R.z ttok ?_ | refine R.zk ?_ | refine R.zn ?_ | refine R.done ?_ | refine X.then ?_ | refine C.block ?_ | refine C.ret ?_ | refine C.skip ?_ | refine C.exit ?_ | refine X.pass_ret ?_ | refine X.pass_exit ?_ | refine X.block_normal ?_ | refine X.block_ret ?_ | refine X.block_exit ?_ | refine C.zt ?_ | refine C.zf ?_ | refine X.zo ?_)
    refine X.fin ttok cB [] ⟨hB, hB2⟩ rfl rfl rfl (by exact .same rfl rfl rfl (fun _ _ => rfl) .nil) _ (by first | exact .inl rfl | exact .inr rfl)
  · have hlt : i < l.length := by omega
    rw [decide_eq_false hn]
    repeat (first | refine C.seq ?_ | refine C.region ?_ | refine R.zb ttok ?_ | refine R.zu ttok ?_ | refine R.zc ttok ?_ | refine R.za ttok ?_ | refine R.zx ?_ | refine R.zl ttok ?_ | refine R.zs ttok ?_ | refine R.z ttok ?_ | refine R.zk ?_ | refine R.zn ?_ | refine R.done ?_ | refine X.then ?_ | refine C.block ?_ | refine C.ret ?_ | refine C.skip ?_ | refine C.exit ?_ | refine X.pass_ret ?_ | refine X.pass_exit ?_ | refine X.block_normal ?_ | refine X.block_ret ?_ | refine X.block_exit ?_ | refine C.zt ?_ | refine C.zf ?_ | refine X.zo ?_)
    refine R.cap ttok rfl rfl rfl rfl (by kernel_rfl) ?_
    repeat (first | refine C.seq ?_ | refine C.region ?_ | refine R.zb ttok ?_ | refine R.zu ttok ?_ | refine R.zc ttok ?_ | refine R.za ttok ?_ | refine R.zx ?_ | refine R.zl ttok ?_ | refine R.zs ttok ?_ | refine R.z ttok ?_ | refine R.zk ?_ | refine R.zn ?_ | refine R.done ?_ | refine X.then ?_ | refine C.block ?_ | refine C.ret ?_ | refine C.skip ?_ | refine C.exit ?_ | refine X.pass_ret ?_ | refine X.pass_exit ?_ | refine X.block_normal ?_ | refine X.block_ret ?_ | refine X.block_exit ?_ | refine C.zt ?_ | refine C.zf ?_ | refine X.zo ?_)
    refine C.dec rfl (fun hg => ?_) (fun hg => ?_)
    · have hcl : c = l.length := by omega
      subst hcl
      repeat (first | refine C.seq ?_ | refine C.region ?_ | refine R.zb ttok ?_ | refine R.zu ttok ?_ | refine R.zc ttok ?_ | refine R.za ttok ?_ | refine R.zx ?_ | refine R.zl ttok ?_ | refine R.zs ttok ?_ | refine R.z ttok ?_ | refine R.zk ?_ | refine R.zn ?_ | refine R.done ?_ | refine X.then ?_ | refine C.block ?_ | refine C.ret ?_ | refine C.skip ?_ | refine C.exit ?_ | refine X.pass_ret ?_ | refine X.pass_exit ?_ | refine X.block_normal ?_ | refine X.block_ret ?_ | refine X.block_exit ?_ | refine C.zt ?_ | refine C.zf ?_ | refine X.zo ?_)
      refine R.sl ttok 0 i rfl rfl rfl rfl rfl rfl (by kernel_rfl) rfl ⟨_, _, rfl, rfl⟩ (by omega) (by omega) fun o1 ho1 => ?_
      obtain rfl : o1 = 0 := by omega
      repeat (first | refine C.seq ?_ | refine C.region ?_ | refine R.zb ttok ?_ | refine R.zu ttok ?_ | refine R.zc ttok ?_ | refine R.za ttok ?_ | refine R.zx ?_ | refine R.zl ttok ?_ | refine R.zs ttok ?_ | refine R.z ttok ?_ | refine R.zk ?_ | refine R.zn ?_ | refine R.done ?_ | refine X.then ?_ | refine C.block ?_ | refine C.ret ?_ | refine C.skip ?_ | refine C.exit ?_ | refine X.pass_ret ?_ | refine X.pass_exit ?_ | refine X.block_normal ?_ | refine X.block_ret ?_ | refine X.block_exit ?_ | refine C.zt ?_ | refine C.zf ?_ | refine X.zo ?_)
      refine R.apz ttok (l.length + 1 - i) _ rfl rfl (show i - 0 ≤ l.length by omega) rfl rfl rfl rfl rfl rfl rfl rfl (by decide) rfl (by kernel_rfl) (by omega) (by omega) (by omega) (by omega) (by omega) (by show _ * 32 ≤ _; omega) (fun j _ => rfl) fun cB hB hB2 => ?_
      rw [show i - 0 + (l.length + 1 - i) = l.length + 1 by omega] at hB ⊢
      repeat (first | refine C.seq ?_ | refine C.region ?_ | refine R.zb ttok ?_ | refine R.zu ttok ?_ | refine R.zc ttok ?_ | refine R.za ttok ?_ | refine R.zx ?_ | refine R.zl ttok ?_ | refine R.zs ttok ?_ | refine R.z ttok ?_ | refine R.zk ?_ | refine R.zn ?_ | refine R.done ?_ | refine X.then ?_ | refine C.block ?_ | refine C.ret ?_ | refine C.skip ?_ | refine C.exit ?_ | refine X.pass_ret ?_ | refine X.pass_exit ?_ | refine X.block_normal ?_ | refine X.block_ret ?_ | refine X.block_exit ?_ | refine C.zt ?_ | refine C.zf ?_ | refine X.zo ?_)
      refine R.sl ttok i (l.length + 1) rfl rfl rfl rfl rfl rfl (by kernel_rfl) ⟨_, _, rfl, rfl⟩ rfl (by omega) hB fun o2 ho2 => ?_
      obtain rfl : o2 = 0 + i := by omega
      repeat (first | refine C.seq ?_ | refine C.region ?_ | refine R.zb ttok ?_ | refine R.zu ttok ?_ | refine R.zc ttok ?_ | refine R.za ttok ?_ | refine R.zx ?_ | refine R.zl ttok ?_ | refine R.zs ttok ?_ | refine R.z ttok ?_ | refine R.zk ?_ | refine R.zn ?_ | refine R.done ?_ | refine X.then ?_ | refine C.block ?_ | refine C.ret ?_ | refine C.skip ?_ | refine C.exit ?_ | refine X.pass_ret ?_ | refine X.pass_exit ?_ | refine X.block_normal ?_ | refine X.block_ret ?_ | refine X.block_exit ?_ | refine C.zt ?_ | refine C.zf ?_ | refine X.zo ?_)
      refine R.cpt ttok (l.length + 1) 1 (k0 := 1) (sf := fun _ => piAS p) _ rfl rfl rfl (SrcA.cells rfl rfl) rfl (fun _ _ => rfl) rfl rfl rfl rfl rfl rfl (by kernel_rfl) (by show min _ _ = _; omega) (by omega) (by omega) (by omega) hB (fun j hj => .inl hj) (by decide) (fun j _ => rfl) ?_
      repeat (first | refine C.seq ?_ | refine C.region ?_ | refine R.zb ttok ?_ | refine R.zu ttok ?_ | refine R.zc ttok ?_ | refine R.za ttok ?_ | refine R.zx ?_ | refine R.zl ttok ?_ | refine R.zs ttok ?_ | refine R.z ttok ?_ | refine R.zk ?_ | refine R.zn ?_ | refine R.done ?_ | refine X.then ?_ | refine C.block ?_ | refine C.ret ?_ | refine C.skip ?_ | refine C.exit ?_ | refine X.pass_ret ?_ | refine X.pass_exit ?_ | refine X.block_normal ?_ | refine X.block_ret ?_ | refine X.block_exit ?_ | refine C.zt ?_ | refine C.zf ?_ | refine X.zo ?_)
      refine C.draw [[], [], [], [1, 2], [0, 1, 2, 3], [], [], [5, 6], [0, 1, 2, 3, 4, 5, 6, 7]] [8] (by kernel_rfl) (by kernel_rfl) ?_
      repeat (first | refine C.seq ?_ | refine C.region ?_ | refine R.zb ttok ?_ | refine R.zu ttok ?_ | refine R.zc ttok ?_ | refine R.za ttok ?_ | refine R.zx ?_ | refine R.zl ttok ?_ | refine R.zs ttok ?_ | refine R.z ttok ?_ | refine R.zk ?_ | refine R.zn ?_ | refine R.done ?_ | refine X.then ?_ | refine C.block ?_ | refine C.ret ?_ | refine C.skip ?_ | refine C.exit ?_ | refine X.pass_ret ?_ | refine X.pass_exit ?_ | refine X.block_normal ?_ | refine X.block_ret ?_ | refine X.block_exit ?_ | refine C.zt ?_ | refine C.zf ?_ | refine X.zo ?_)
      refine R.sl ttok (i + 1) (l.length + 1) rfl rfl rfl rfl rfl rfl (by kernel_rfl) ⟨_, _, rfl, by omega⟩ rfl (by omega) hB fun o3 ho3 => ?_
      obtain rfl : o3 = 0 + (i + 1) := by omega
      repeat (first | refine C.seq ?_ | refine C.region ?_ | refine R.zb ttok ?_ | refine R.zu ttok ?_ | refine R.zc ttok ?_ | refine R.za ttok ?_ | refine R.zx ?_ | refine R.zl ttok ?_ | refine R.zs ttok ?_ | refine R.z ttok ?_ | refine R.zk ?_ | refine R.zn ?_ | refine R.done ?_ | refine X.then ?_ | refine C.block ?_ | refine C.ret ?_ | refine C.skip ?_ | refine C.exit ?_ | refine X.pass_ret ?_ | refine X.pass_exit ?_ | refine X.block_normal ?_ | refine X.block_ret ?_ | refine X.block_exit ?_ | refine C.zt ?_ | refine C.zf ?_ | refine X.zo ?_)
      refine R.sl ttok i l.length rfl rfl rfl rfl rfl rfl (by kernel_rfl) ⟨_, _, rfl, rfl⟩ rfl (by omega) (by omega) fun o4 ho4 => ?_
      obtain rfl : o4 = 0 + i := by omega
      refine R.cpt ttok (l.length + 1) (l.length - i) (k0 := l.length - i) (piFS (insLS l i p)) rfl rfl rfl (SrcA.tab (by decide) rfl (by omega)) rfl (fun _ _ => rfl) (by rw [flat_piS l _ _ (by omega)]; exact pis_oneS _) rfl rfl rfl rfl rfl (by kernel_rfl) (by show min _ _ = _; omega) (by omega) (by omega) (by omega) hB (fun j hj => .inl hj) (by decide) (fun j hj => ?_) ?_
      · rw [piF_insS l i p (by omega)]
        by_cases h1 : j < i
        · rw [if_pos h1, if_neg (by omega), if_neg (by omega), if_pos (by omega)]
        · rw [if_neg h1]
          by_cases h2 : j = i
          · rw [if_pos h2, if_neg (by omega), if_pos (by omega)]
          · rw [if_neg h2, if_pos (by omega)]
            congr 1
            omega
      repeat (first | refine C.seq ?_ | refine C.region ?_ | refine R.zb ttok ?_ | refine R.zu ttok ?_ | refine R.zc ttok ?_ | refine R.za ttok ?_ | refine R.zx ?_ | refine R.zl ttok ?_ | refine R.zs ttok ?_ | refine R.z ttok ?_ | refine R.zk ?_ | refine R.zn ?_ | refine R.done ?_ | refine X.then ?_ | refine C.block ?_ | refine C.ret ?_ | refine C.skip ?_ | refine C.exit ?_ | refine X.pass_ret ?_ | refine X.pass_exit ?_ | refine X.block_normal ?_ | refine X.block_ret ?_ | refine X.block_exit ?_ | refine C.zt ?_ | refine C.zf ?_ | refine X.zo ?_)
      refine X.fin ttok cB [] ⟨hB, hB2⟩ rfl rfl rfl (by exact .same rfl rfl rfl (fun _ _ => rfl) .nil) _ (by first | exact .inl rfl | exact .inr rfl)
    · have hroom : l.length + 1 ≤ c := by omega
      repeat (first | refine C.seq ?_ | refine C.region ?_ | refine R.zb ttok ?_ | refine R.zu ttok ?_ | refine R.zc ttok ?_ | refine R.za ttok ?_ | refine R.zx ?_ | refine R.zl ttok ?_ | refine R.zs ttok ?_ | refine R.z ttok ?_ | refine R.zk ?_ | refine R.zn ?_ | refine R.done ?_ | refine X.then ?_ | refine C.block ?_ | refine C.ret ?_ | refine C.skip ?_ | refine C.exit ?_ | refine X.pass_ret ?_ | refine X.pass_exit ?_ | refine X.block_normal ?_ | refine X.block_ret ?_ | refine X.block_exit ?_ | refine C.zt ?_ | refine C.zf ?_ | refine X.zo ?_)
      refine R.sl ttok 0 (l.length + 1) rfl rfl rfl rfl rfl rfl (by kernel_rfl) rfl ⟨_, _, rfl, by omega⟩ (by omega) (by omega) fun o1 ho1 => ?_
      obtain rfl : o1 = 0 := by omega
      repeat (first | refine C.seq ?_ | refine C.region ?_ | refine R.zb ttok ?_ | refine R.zu ttok ?_ | refine R.zc ttok ?_ | refine R.za ttok ?_ | refine R.zx ?_ | refine R.zl ttok ?_ | refine R.zs ttok ?_ | refine R.z ttok ?_ | refine R.zk ?_ | refine R.zn ?_ | refine R.done ?_ | refine X.then ?_ | refine C.block ?_ | refine C.ret ?_ | refine C.skip ?_ | refine C.exit ?_ | refine X.pass_ret ?_ | refine X.pass_exit ?_ | refine X.block_normal ?_ | refine X.block_ret ?_ | refine X.block_exit ?_ | refine C.zt ?_ | refine C.zf ?_ | refine X.zo ?_)
      refine R.sl ttok (i + 1) (l.length + 1) rfl rfl rfl rfl rfl rfl (by kernel_rfl) ⟨_, _, rfl, by omega⟩ (by show _ = _; omega) (by omega) (by omega) fun o2 ho2 => ?_
      obtain rfl : o2 = 0 + (i + 1) := by omega
      refine R.ovl ttok (t := 106) (tr := 4) (run_callFunc_extern Try.func81 (by kernel_rfl) (by kernel_rfl) (by kernel_rfl) (e := Extern.SlicesOverlaps.overlaps #[106, 106] #[4]) (by kernel_rfl)) rfl rfl rfl rfl rfl rfl rfl rfl (by kernel_rfl) (by omega) ?_
      repeat (first | refine C.seq ?_ | refine C.region ?_ | refine R.zb ttok ?_ | refine R.zu ttok ?_ | refine R.zc ttok ?_ | refine R.za ttok ?_ | refine R.zx ?_ | refine R.zl ttok ?_ | refine R.zs ttok ?_ | refine R.z ttok ?_ | refine R.zk ?_ | refine R.zn ?_ | refine R.done ?_ | refine X.then ?_ | refine C.block ?_ | refine C.ret ?_ | refine C.skip ?_ | refine C.exit ?_ | refine X.pass_ret ?_ | refine X.pass_exit ?_ | refine X.block_normal ?_ | refine X.block_ret ?_ | refine X.block_exit ?_ | refine C.zt ?_ | refine C.zf ?_ | refine X.zo ?_)
      refine C.draw [[], [], [], [1, 2], [0, 1, 2, 3], [], [], [5, 6], [0, 1, 2, 3, 4, 5, 6, 7]] [8] (by kernel_rfl) (by kernel_rfl) ?_
      repeat (first | refine C.seq ?_ | refine C.region ?_ | refine R.zb ttok ?_ | refine R.zu ttok ?_ | refine R.zc ttok ?_ | refine R.za ttok ?_ | refine R.zx ?_ | refine R.zl ttok ?_ | refine R.zs ttok ?_ | refine R.z ttok ?_ | refine R.zk ?_ | refine R.zn ?_ | refine R.done ?_ | refine X.then ?_ | refine C.block ?_ | refine C.ret ?_ | refine C.skip ?_ | refine C.exit ?_ | refine X.pass_ret ?_ | refine X.pass_exit ?_ | refine X.block_normal ?_ | refine X.block_ret ?_ | refine X.block_exit ?_ | refine C.zt ?_ | refine C.zf ?_ | refine X.zo ?_)
      refine R.sl ttok (i + 1) (l.length + 1) rfl rfl rfl rfl rfl rfl (by kernel_rfl) ⟨_, _, rfl, by omega⟩ (by show _ = _; omega) (by omega) (by omega) fun o3 ho3 => ?_
      obtain rfl : o3 = 0 + (i + 1) := by omega
      repeat (first | refine C.seq ?_ | refine C.region ?_ | refine R.zb ttok ?_ | refine R.zu ttok ?_ | refine R.zc ttok ?_ | refine R.za ttok ?_ | refine R.zx ?_ | refine R.zl ttok ?_ | refine R.zs ttok ?_ | refine R.z ttok ?_ | refine R.zk ?_ | refine R.zn ?_ | refine R.done ?_ | refine X.then ?_ | refine C.block ?_ | refine C.ret ?_ | refine C.skip ?_ | refine C.exit ?_ | refine X.pass_ret ?_ | refine X.pass_exit ?_ | refine X.block_normal ?_ | refine X.block_ret ?_ | refine X.block_exit ?_ | refine C.zt ?_ | refine C.zf ?_ | refine X.zo ?_)
      refine R.sl ttok i (l.length + 1) rfl rfl rfl rfl rfl rfl (by kernel_rfl) ⟨_, _, rfl, rfl⟩ (by show _ = _; omega) (by omega) (by omega) fun o4 ho4 => ?_
      obtain rfl : o4 = 0 + i := by omega
      refine R.cpt ttok (l.length + 1) (l.length - i) (k0 := l.length - i) (fun j => if i + 1 ≤ j then piFS l (j - 1) else piFS l j) rfl rfl rfl (SrcA.tabm (l.length - i) (by decide) rfl (by omega) (by omega)) rfl (fun _ _ => rfl) (by rw [flat_piS l _ _ (by omega)]; exact pis_oneS _) rfl rfl rfl rfl rfl (by kernel_rfl) (by show min _ _ = _; omega) (by omega) (by omega) (by omega) hroom (fun j hj => by omega) (by decide) (fun j hj => ?_) ?_
      · by_cases h1 : i + 1 ≤ j
        · rw [if_pos h1, if_pos (by omega)]
          congr 1
          omega
        · rw [if_neg h1, if_neg (by omega)]
      repeat (first | refine C.seq ?_ | refine C.region ?_ | refine R.zb ttok ?_ | refine R.zu ttok ?_ | refine R.zc ttok ?_ | refine R.za ttok ?_ | refine R.zx ?_ | refine R.zl ttok ?_ | refine R.zs ttok ?_ | refine R.z ttok ?_ | refine R.zk ?_ | refine R.zn ?_ | refine R.done ?_ | refine X.then ?_ | refine C.block ?_ | refine C.ret ?_ | refine C.skip ?_ | refine C.exit ?_ | refine X.pass_ret ?_ | refine X.pass_exit ?_ | refine X.block_normal ?_ | refine X.block_ret ?_ | refine X.block_exit ?_ | refine C.zt ?_ | refine C.zf ?_ | refine X.zo ?_)
      refine R.sl ttok i (l.length + 1) rfl rfl rfl rfl rfl rfl (by kernel_rfl) ⟨_, _, rfl, rfl⟩ (by show _ = _; omega) (by omega) (by omega) fun o5 ho5 => ?_
      obtain rfl : o5 = 0 + i := by omega
      repeat (first | refine C.seq ?_ | refine C.region ?_ | refine R.zb ttok ?_ | refine R.zu ttok ?_ | refine R.zc ttok ?_ | refine R.za ttok ?_ | refine R.zx ?_ | refine R.zl ttok ?_ | refine R.zs ttok ?_ | refine R.z ttok ?_ | refine R.zk ?_ | refine R.zn ?_ | refine R.done ?_ | refine X.then ?_ | refine C.block ?_ | refine C.ret ?_ | refine C.skip ?_ | refine C.exit ?_ | refine X.pass_ret ?_ | refine X.pass_exit ?_ | refine X.block_normal ?_ | refine X.block_ret ?_ | refine X.block_exit ?_ | refine C.zt ?_ | refine C.zf ?_ | refine X.zo ?_)
      refine R.cpt ttok (l.length + 1) 1 (k0 := 1) (sf := fun _ => piAS p) (piFS (insLS l i p)) rfl rfl rfl (SrcA.cells rfl rfl) rfl (fun _ _ => rfl) rfl rfl rfl rfl rfl rfl (by kernel_rfl) (by show min _ _ = _; omega) (by omega) (by omega) (by omega) hroom (fun j hj => .inl hj) (by decide) (fun j hj => ?_) ?_
      · rw [piF_insS l i p (by omega)]
        by_cases h1 : j < i
        · rw [if_pos h1, if_neg (by omega), if_neg (by omega)]
        · rw [if_neg h1]
          by_cases h2 : j = i
          · rw [if_pos h2, if_pos (by omega)]
          · rw [if_neg h2, if_neg (by omega), if_pos (by omega)]
      repeat (first | refine C.seq ?_ | refine C.region ?_ | refine R.zb ttok ?_ | refine R.zu ttok ?_ | refine R.zc ttok ?_ | refine R.za ttok ?_ | refine R.zx ?_ | refine R.zl ttok ?_ | refine R.zs ttok ?_ | refine R.z ttok ?_ | refine R.zk ?_ | refine R.zn ?_ | refine R.done ?_ | refine X.then ?_ | refine C.block ?_ | refine C.ret ?_ | refine C.skip ?_ | refine C.exit ?_ | refine X.pass_ret ?_ | refine X.pass_exit ?_ | refine X.block_normal ?_ | refine X.block_ret ?_ | refine X.block_exit ?_ | refine C.zt ?_ | refine C.zf ?_ | refine X.zo ?_)
      refine X.fin ttok c [(2, 0)] ⟨hroom, hc2⟩ rfl rfl rfl (by exact .same rfl rfl rfl (fun _ _ => rfl) .nil) _ (by first | exact .inl rfl | exact .inr rfl)
theorem putI_newS {l : List PIS} {k : ByteArray} (v : ByteArray) (h : hasKS l k = false) : putIS l k v = insLS l (plc l k) (k, v) := if_neg (by rw [h]; decide)
theorem hasK_keyS {l : List PIS} {k : ByteArray} (h : hasKS l k = true) : (l.getD (plc l k) zIS).1 = k := cmpS_zero.1 (hasK_ltS h).2
theorem putI_oldS {l : List PIS} {k : ByteArray} (v : ByteArray) (h : hasKS l k = true) : putIS l k v = l.set (plc l k) ((l.getD (plc l k) zIS).1, v) := by rw [hasK_keyS h]; exact if_pos h
theorem getI_newS {l : List PIS} {k : ByteArray} (h : hasKS l k = false) : getIS l k = noT := if_neg (by rw [h]; decide)
theorem getI_oldS {l : List PIS} {k : ByteArray} (h : hasKS l k = true) : getIS l k = (l.getD (plc l k) zIS).2 := if_pos h
section
variable (l : List PIS) (c : Nat) (k : ByteArray)
theorem putI_specS (v : ByteArray) (hA : Asc l) (hl : l.length ≤ 1000000) (hc : l.length ≤ c) (hc2 : c ≤ 9223372036854775807) :
    Spec Try.prog 37 [.ptr 0 0 0 0, .raw (.string k), .raw (.string v)] [tbIS 1 l.length c, tIS l c] 3 (σ := Nat) (fun c' => (putIS l k v).length ≤ c' ∧ c' ≤ 9223372036854775807)
    (fun _ => .tup [.raw (.string (getIS l k)), .raw (.bool (hasKS l k))]) (fun c' => [(0, tbIS 2 (putIS l k v).length c'), (2, .tab 2 (putIS l k v).length c' (piFS (putIS l k v)) 110)]) := by
  refine Spec.of Try.func37 rfl Try.ntmps37 rfl (by repeat (first | exact bdl_nil _ | refine bdl_cons (fun _ _ => rfl) ?_ | refine bdl_cons trivial ?_ | refine bdl_cons rfl ?_ | refine bdl_cons (rowsF_bd _ _ _ _) ?_ | refine bdl_cons (rowsS_bd _ _ _ _) ?_)) fun ρ w => ?_
  have hp := plc_le l k
  repeat (first | refine C.seq ?_ | refine C.region ?_ | refine R.zb ttok ?_ | refine R.zu ttok ?_ | refine R.zc ttok ?_ | refine R.za ttok ?_ | refine R.zx ?_ | refine R.zl ttok ?_ | refine R.zs ttok ?_ | refine R.z ttok ?_ | refine R.zk ?_ | refine R.zn ?_ | refine R.done ?_ | refine X.then ?_ | refine C.block ?_ | refine C.ret ?_ | refine C.skip ?_ | refine C.exit ?_ | refine X.pass_ret ?_ | refine X.pass_exit ?_ | refine X.block_normal ?_ | refine X.block_ret ?_ | refine X.block_exit ?_ | refine C.zt ?_ | refine C.zf ?_ | refine X.zo ?_)
  refine R.cl [0, 1] (findI_specS l c k hA (by omega)) Try.call59 (.same rfl rfl (.other rfl (fun e => by cases e) (fun ρ x w hh => tab_ro hh) .nil)) rfl rfl rfl (fun _ => rfl) rfl (by kernel_rfl) fun _ _ => ?_
  cases hk : hasKS l k with
  | false =>
    rw [putI_newS v hk, getI_newS hk, insL_lenS]
    repeat (first | refine C.seq ?_ | refine C.region ?_ | refine R.zb ttok ?_ | refine R.zu ttok ?_ | refine R.zc ttok ?_ | refine R.za ttok ?_ | refine R.zx ?_ | refine R.zl ttok ?_ | refine R.zs ttok ?_ | refine R.z ttok ?_ | refine R.zk ?_ | refine R.zn ?_ | refine R.done ?_ | refine X.then ?_ | refine C.block ?_ | refine C.ret ?_ | refine C.skip ?_ | refine C.exit ?_ | refine X.pass_ret ?_ | refine X.pass_exit ?_ | refine X.block_normal ?_ | refine X.block_ret ?_ | refine X.block_exit ?_ | refine C.zt ?_ | refine C.zf ?_ | refine X.zo ?_)
    refine R.cl [1, 2] (insertI_specS l (plc l k) c (k, v) hl hp hc hc2) Try.call60 (.same rfl rfl (.same rfl rfl .nil)) rfl rfl rfl (fun _ => rfl) rfl (by kernel_rfl) fun c' hc' => ?_
    repeat (first | refine C.seq ?_ | refine C.region ?_ | refine R.zb ttok ?_ | refine R.zu ttok ?_ | refine R.zc ttok ?_ | refine R.za ttok ?_ | refine R.zx ?_ | refine R.zl ttok ?_ | refine R.zs ttok ?_ | refine R.z ttok ?_ | refine R.zk ?_ | refine R.zn ?_ | refine R.done ?_ | refine X.then ?_ | refine C.block ?_ | refine C.ret ?_ | refine C.skip ?_ | refine C.exit ?_ | refine X.pass_ret ?_ | refine X.pass_exit ?_ | refine X.block_normal ?_ | refine X.block_ret ?_ | refine X.block_exit ?_ | refine C.zt ?_ | refine C.zf ?_ | refine X.zo ?_)
    refine X.fin ttok c' [(2, 3)] hc' rfl rfl rfl (by exact .same rfl rfl rfl rfl (.same rfl rfl rfl (fun _ _ => rfl) .nil)) _ (by first | exact .inl rfl | exact .inr rfl)
  | true =>
    rw [putI_oldS v hk, getI_oldS hk, List.length_set]
    have hlt := (hasK_ltS hk).1
    repeat (first | refine C.seq ?_ | refine C.region ?_ | refine R.zb ttok ?_ | refine R.zu ttok ?_ | refine R.zc ttok ?_ | refine R.za ttok ?_ | refine R.zx ?_ | refine R.zl ttok ?_ | refine R.zs ttok ?_ | refine R.z ttok ?_ | refine R.zk ?_ | refine R.zn ?_ | refine R.done ?_ | refine X.then ?_ | refine C.block ?_ | refine C.ret ?_ | refine C.skip ?_ | refine C.exit ?_ | refine X.pass_ret ?_ | refine X.pass_exit ?_ | refine X.block_normal ?_ | refine X.block_ret ?_ | refine X.block_exit ?_ | refine C.zt ?_ | refine C.zf ?_ | refine X.zo ?_)
    refine R.ix ttok (plc l k) rfl rfl rfl rfl rfl (by kernel_rfl) rfl hlt (by show _ < _; omega) rfl ?_
    repeat (first | refine C.seq ?_ | refine C.region ?_ | refine R.zb ttok ?_ | refine R.zu ttok ?_ | refine R.zc ttok ?_ | refine R.za ttok ?_ | refine R.zx ?_ | refine R.zl ttok ?_ | refine R.zs ttok ?_ | refine R.z ttok ?_ | refine R.zk ?_ | refine R.zn ?_ | refine R.done ?_ | refine X.then ?_ | refine C.block ?_ | refine C.ret ?_ | refine C.skip ?_ | refine C.exit ?_ | refine X.pass_ret ?_ | refine X.pass_exit ?_ | refine X.block_normal ?_ | refine X.block_ret ?_ | refine X.block_exit ?_ | refine C.zt ?_ | refine C.zf ?_ | refine X.zo ?_)
    refine R.ldt (v := .raw (.string (l.getD (plc l k) zIS).2)) ttok rfl rfl rfl (by rw [Nat.zero_add]; rfl) rfl (by kernel_rfl) (by omega) ?_
    repeat (first | refine C.seq ?_ | refine C.region ?_ | refine R.zb ttok ?_ | refine R.zu ttok ?_ | refine R.zc ttok ?_ | refine R.za ttok ?_ | refine R.zx ?_ | refine R.zl ttok ?_ | refine R.zs ttok ?_ | refine R.z ttok ?_ | refine R.zk ?_ | refine R.zn ?_ | refine R.done ?_ | refine X.then ?_ | refine C.block ?_ | refine C.ret ?_ | refine C.skip ?_ | refine C.exit ?_ | refine X.pass_ret ?_ | refine X.pass_exit ?_ | refine X.block_normal ?_ | refine X.block_ret ?_ | refine X.block_exit ?_ | refine C.zt ?_ | refine C.zf ?_ | refine X.zo ?_)
    refine R.ix ttok (plc l k) rfl rfl rfl rfl rfl (by kernel_rfl) rfl hlt (by show _ < _; omega) rfl ?_
    repeat (first | refine C.seq ?_ | refine C.region ?_ | refine R.zb ttok ?_ | refine R.zu ttok ?_ | refine R.zc ttok ?_ | refine R.za ttok ?_ | refine R.zx ?_ | refine R.zl ttok ?_ | refine R.zs ttok ?_ | refine R.z ttok ?_ | refine R.zk ?_ | refine R.zn ?_ | refine R.done ?_ | refine X.then ?_ | refine C.block ?_ | refine C.ret ?_ | refine C.skip ?_ | refine C.exit ?_ | refine X.pass_ret ?_ | refine X.pass_exit ?_ | refine X.block_normal ?_ | refine X.block_ret ?_ | refine X.block_exit ?_ | refine C.zt ?_ | refine C.zf ?_ | refine X.zo ?_)
    rw [Nat.zero_add]
    refine R.stt (zs := piAS ((l.getD (plc l k) zIS).1, v)) ttok rfl rfl rfl rfl rfl rfl rfl (by kernel_rfl) hlt (by show 0 + 1 + 1 ≤ 2; omega) ?_
    rw [upd_piS l (plc l k) v hlt]
    repeat (first | refine C.seq ?_ | refine C.region ?_ | refine R.zb ttok ?_ | refine R.zu ttok ?_ | refine R.zc ttok ?_ | refine R.za ttok ?_ | refine R.zx ?_ | refine R.zl ttok ?_ | refine R.zs ttok ?_ | refine R.z ttok ?_ | refine R.zk ?_ | refine R.zn ?_ | refine R.done ?_ | refine X.then ?_ | refine C.block ?_ | refine C.ret ?_ | refine C.skip ?_ | refine C.exit ?_ | refine X.pass_ret ?_ | refine X.pass_exit ?_ | refine X.block_normal ?_ | refine X.block_ret ?_ | refine X.block_exit ?_ | refine C.zt ?_ | refine C.zf ?_ | refine X.zo ?_)
    refine X.fin ttok c [(2, 1)] ⟨hc, hc2⟩ rfl rfl rfl (by exact .same rfl rfl rfl rfl (.same rfl rfl rfl (fun _ _ => rfl) .nil)) _ (by first | exact .inl rfl | exact .inr rfl)
end
theorem plc_ltS {l : List PIS} (hA : Asc l) (k : ByteArray) {i : Nat} (hi : i < l.length) : cmpS (l[i]).1 k < 0 ↔ i < plc l k := by
  have := plc_iff hA k zIS i hi
  rwa [List.getD_eq_getElem?_getD, List.getElem?_eq_getElem hi] at this
theorem asc_insS {l : List PIS} (hA : Asc l) (k : ByteArray) (v : ByteArray) (h : hasKS l k = false) : Asc (insLS l (plc l k) (k, v)) := by
  have hlo : ∀ q ∈ l.take (plc l k), cmpS q.1 k < 0 := fun q hq => by
    obtain ⟨i, hi, rfl⟩ := List.mem_iff_getElem.1 hq
    rw [List.length_take] at hi
    rw [List.getElem_take]
    exact (plc_ltS hA k (by omega)).2 (by omega)
  have hhi : ∀ q ∈ l.drop (plc l k), cmpS k q.1 < 0 := fun q hq => by
    obtain ⟨i, hi, rfl⟩ := List.mem_iff_getElem.1 hq
    rw [List.length_drop] at hi
    rw [List.getElem_drop]
    have hlt : plc l k + i < l.length := by omega
    have h1 : ¬ cmpS (l[plc l k + i]).1 k < 0 := fun e => by have := (plc_ltS hA k hlt).1 e; omega
    have h2 : cmpS (l[plc l k + i]).1 k ≠ 0 := fun e => by
      rcases Nat.eq_zero_or_pos i with h0 | h0
      · subst h0
        have : hasKS l k = true := decide_eq_true ⟨by omega, by rw [List.getD_eq_getElem?_getD, List.getElem?_eq_getElem (by omega)]; exact e⟩
        rw [this] at h; cases h
      · have h3 := List.pairwise_iff_getElem.1 hA (plc l k) (plc l k + i) (by omega) hlt (by omega)
        rw [cmpS_zero.1 e] at h3
        have := (plc_ltS hA k (show plc l k < l.length by omega)).1 h3
        omega
    rw [cmpS_swap]
    omega
  unfold Asc insLS
  rw [List.pairwise_append, List.pairwise_cons]
  refine ⟨hA.sublist (List.take_sublist _ _), ⟨hhi, hA.sublist (List.drop_sublist _ _)⟩, fun a ha b hb => ?_⟩
  rcases List.mem_cons.1 hb with rfl | hb
  · exact hlo a ha
  · exact cmpS_trans (hlo a ha) (hhi b hb)
theorem asc_putS {l : List PIS} (hA : Asc l) (k : ByteArray) (v : ByteArray) : Asc (putIS l k v) := by
  cases h : hasKS l k with
  | false => rw [putI_newS v h]; exact asc_insS hA k v h
  | true =>
    rw [putI_oldS v h]
    have hm : ∀ m : List PIS, Asc m ↔ (m.map (·.1)).Pairwise fun a b => cmpS a b < 0 := fun m => by unfold Asc; rw [List.pairwise_map]
    rw [hm] at hA ⊢
    rw [List.map_set]
    have : (l.map (·.1)).set (plc l k) (l.getD (plc l k) zIS).1 = l.map (·.1) := by
      have hlt := (hasK_ltS h).1
      apply List.ext_getElem?
      intro j
      rw [List.getElem?_set]
      split
      · rename_i e; subst e
        simp [hlt]
      · rfl
    rwa [this]
theorem put_lenS (l : List PIS) (k : ByteArray) (v : ByteArray) : (putIS l k v).length ≤ l.length + 1 := by
  cases h : hasKS l k with
  | false => rw [putI_newS v h, insL_lenS]; omega
  | true => rw [putI_oldS v h, List.length_set]; omega
theorem newI_specS : Spec Try.prog 36 [] [] 1 (σ := Unit) (fun _ => True) (fun _ => .ptr 0 0 0 0) (fun _ => [(0, zeroTS)]) := by
  refine Spec.of Try.func36 rfl Try.ntmps36 rfl (by simp [AO.Bd, bytesF, AV.bds, AV.bd]) fun ρ w => ?_
  repeat (first | refine C.seq ?_ | refine C.region ?_ | refine R.zb ttok ?_ | refine R.zu ttok ?_ | refine R.zc ttok ?_ | refine R.za ttok ?_ | refine R.zx ?_ | refine R.zl ttok ?_ | refine R.zs ttok ?_ | refine R.z ttok ?_ | refine R.zk ?_ | refine R.zn ?_ | refine R.done ?_ | refine X.then ?_ | refine C.block ?_ | refine C.ret ?_ | refine C.skip ?_ | refine C.exit ?_ | refine X.pass_ret ?_ | refine X.pass_exit ?_ | refine X.block_normal ?_ | refine X.block_ret ?_ | refine X.block_exit ?_ | refine C.zt ?_ | refine C.zf ?_ | refine X.zo ?_)
  refine X.fin ttok () [] trivial rfl rfl rfl (by repeat (first | exact HasH.nil | refine HasH.same rfl rfl rfl trivial ?_ | refine HasH.same rfl rfl rfl rfl ?_ | refine HasH.same rfl rfl rfl (fun _ _ => rfl) ?_ | refine HasH.ros rfl rfl ?_)) _ (by first | exact .inl rfl | exact .inr rfl)
def posNS (l : List PIS) (from_ : ByteArray) (n : Nat) (last : ByteArray) : Nat := if n = 0 then plc l from_ else aboveNS l last
theorem posN_leS (l : List PIS) (from_ : ByteArray) (n : Nat) (last : ByteArray) : posNS l from_ n last ≤ l.length := by
  unfold posNS
  split
  · exact plc_le _ _
  · exact aboveN_leS _ _
theorem plc_atS {l : List PIS} (hA : Asc l) {i : Nat} (hi : i < l.length) : plc l (l.getD i zIS).1 = i := by
  have h1 := plc_iff hA (l.getD i zIS).1 zIS i hi
  rw [cmpS_self] at h1
  have h2 : ¬ i < plc l (l.getD i zIS).1 := fun e => by have := h1.2 e; omega
  rcases Nat.lt_or_ge (plc l (l.getD i zIS).1) i with h3 | h3
  · exfalso
    have hlt : plc l (l.getD i zIS).1 < l.length := by omega
    have h4 := List.pairwise_iff_getElem.1 hA _ _ hlt hi h3
    have e : l.getD i zIS = l[i] := by rw [List.getD_eq_getElem?_getD, List.getElem?_eq_getElem hi]; rfl
    have e2 : (l[i]).1 = (l.getD i zIS).1 := by rw [e]
    rw [e2] at h4
    have h5 := (plc_ltS hA (l.getD i zIS).1 hlt).1 h4
    omega
  · omega
theorem has_atS {l : List PIS} (hA : Asc l) {i : Nat} (hi : i < l.length) : hasKS l (l.getD i zIS).1 = true := by
  unfold hasKS
  rw [plc_atS hA hi]
  exact decide_eq_true ⟨hi, cmpS_self _⟩
theorem above_atS {l : List PIS} (hA : Asc l) {i : Nat} (hi : i < l.length) : aboveNS l (l.getD i zIS).1 = i + 1 := by
  unfold aboveNS
  rw [if_pos (has_atS hA hi), plc_atS hA hi]
theorem rangeI_specS (fr to : ByteArray) : Spec Try.prog 38 [.ptr 0 0 0 0, .raw (.string fr), .raw (.string to)] [anyO] 4 (σ := Unit) (fun _ => True)
    (fun _ => .fn 61 [.ptr 1 0 0 0, .ptr 2 0 0 0, .ptr 3 0 0 0]) (fun _ => [(1, .cells [.ptr 0 0 0 0] 72), (2, .cells [.raw (.string fr)] 9), (3, .cells [.raw (.string to)] 9)]) := by
  refine Spec.of Try.func38 rfl Try.ntmps38 rfl (bdl_cons (any_bd _) (bdl_nil _)) fun ρ w => ?_
  repeat (first | refine C.seq ?_ | refine C.region ?_ | refine R.zb ttok ?_ | refine R.zu ttok ?_ | refine R.zc ttok ?_ | refine R.za ttok ?_ | refine R.zx ?_ | refine R.zl ttok ?_ | refine R.zs ttok ?_ | refine R.z ttok ?_ | refine R.zk ?_ | refine R.zn ?_ | refine R.done ?_ | refine X.then ?_ | refine C.block ?_ | refine C.ret ?_ | refine C.skip ?_ | refine C.exit ?_ | refine X.pass_ret ?_ | refine X.pass_exit ?_ | refine X.block_normal ?_ | refine X.block_ret ?_ | refine X.block_exit ?_ | refine C.zt ?_ | refine C.zf ?_ | refine X.zo ?_)
  refine X.fin ttok () [] trivial rfl rfl rfl (by repeat (first | exact HasH.nil | refine HasH.same rfl rfl rfl trivial ?_ | refine HasH.same rfl rfl rfl rfl ?_ | refine HasH.same rfl rfl rfl (fun _ _ => rfl) ?_ | refine HasH.ros rfl rfl ?_)) _ (by first | exact .inl rfl | exact .inr rfl)
theorem posN_succS (l : List PIS) (fr : ByteArray) (n : Nat) (k : ByteArray) : posNS l fr (n + 1) k = aboveNS l k := if_neg (by omega)
theorem mem_putS {l : List PIS} {k : ByteArray} {v : ByteArray} {q : PIS} (h : q ∈ putIS l k v) : q = (k, v) ∨ q ∈ l := by
  unfold putIS at h
  split at h
  · exact (List.mem_or_eq_of_mem_set h).symm
  · rcases List.mem_append.1 h with h | h
    · exact .inr (List.mem_of_mem_take h)
    · rcases List.mem_cons.1 h with h | h
      · exact .inl h
      · exact .inr (List.mem_of_mem_drop h)
theorem plc_noS (l : List PIS) : plc l noT = 0 := by
  unfold plc
  cases l with
  | nil => rfl
  | cons p l => rw [List.findIdx_cons, decide_eq_true (cmpS_no p.1)]; rfl
theorem asc_ltS {l : List PIS} (hA : Asc l) {i j : Nat} (hij : i < j) (hj : j < l.length) : cmpS (l.getD i zIS).1 (l.getD j zIS).1 < 0 := by
  have := List.pairwise_iff_getElem.1 hA i j (by omega) hj hij
  rw [List.getD_eq_getElem?_getD, List.getD_eq_getElem?_getD, List.getElem?_eq_getElem (by omega), List.getElem?_eq_getElem hj]
  exact this
end Go.Proofs.Ytlcojlcackkhpaa
