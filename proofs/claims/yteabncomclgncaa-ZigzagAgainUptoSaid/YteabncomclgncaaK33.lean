/- The kernel, 33: make of rows. No program in sight. -/
import Derived.Test.YteabncomclgncaaK32
namespace Go.Proofs.Yteabncomclgncaa
set_option linter.unusedVariables false
set_option linter.unusedSimpArgs false
set_option linter.unusedSectionVars false
open Go.RowKit
section
variable {P : Program} {ops : Array Oper} {Q : Exit → Act → World → Prop} {D : Option DD} {E : Base} {n L : Nat} {τ : List (Nat × AV)} {h : List (Nat × AO)} {F : World → Prop} {rest : List Oper}
  {d : Nat} {ty : TypeId} {ps : String} {af : Array Edge} {gd : Option (Nat × Bool)} {tt : List (Nat × TI)}
/-- make([]T, m, c) -/
theorem R.mkt (htt : TTok P tt) {t e wd : Nat} {x y : Operand} {k0 k1 : IntKind} {ti te : TI} (m c : Nat) (f : Nat → List AV) {i j : Int} (hx : evA τ x = some (.raw (.int k0 i))) (hy : evA τ y = some (.raw (.int k1 j))) (ht : lk t tt = some ti) (hkd : ti.kind = .sl e) (hte : lk e tt = some te) (hsz : te.size = wd) (hz : Nat.beq te.zero.length te.size = true) (hw : 0 < wd)
    (hg : wantA ops ⟨some d, .makeSlice t x y, ty, ps, af, gd⟩ τ = some true) (hb : (Nat.ble (d + 1) n && chainB h D []) = true) (hi : i = (m : Int)) (hj : j = (c : Int)) (hmc : m ≤ c) (hc : c ≤ 9223372036854775807) (hby : c * te.bytes ≤ 281474976710656) (hf : ∀ i, i < m → f i = te.zero.map .raw)
    (k : R P ops Q (actD h D []) E n (L + 1) ((d, .sl L wd 0 m c) :: τ) ((L, .tab wd m c f e) :: h) F rest) : R P ops Q D E n L τ h F (⟨some d, .makeSlice t x y, ty, ps, af, gd⟩ :: rest) :=
  R.newW (σ := Unit) (fun _ => True) (fun _ => .tab wd m c f e) (fun _ => .sl L wd 0 m c) (fun _ ρ => sl_low ρ L _ _ _ _) (fun ρ a w g => by
    obtain ⟨d1, u1, v1⟩ := (htt _ _ ht).und
    rw [hkd] at v1
    simp only at v1
    subst v1 hi hj
    have hz := Nat.eq_of_beq_eq_true hz
    rw [hsz] at hz
    obtain ⟨inf, z, e1, e2, e3, e4, e5, _⟩ := (htt _ _ hte).info
    rw [hsz] at e2
    have hby2 : ((c * te.bytes : Nat) : Int) ≤ 281474976710656 := by omega
    rw [Int.natCast_mul, Int.mul_comm] at hby2
    have hrun := run_make (P := P) w t e inf z u1 e1 e4 k0 k1 (m : Int) (c : Int) (by omega) (by omega) (by rw [e3]; exact hby2) (by omega)
    rw [e2, Int.toNat_natCast] at hrun
    have hzl : z.cells.size = wd := by rw [← Array.length_toList, e5, hz]
    have hcell : ∀ q cc, q < c → cc < wd → (madeCells z.cells (c * wd))[q * wd + cc]? = z.cells[cc]? := fun q cc hq hcc => by
      have hlt : q * wd + cc < c * wd := by
        have : (q + 1) * wd ≤ c * wd := Nat.mul_le_mul_right _ hq
        rw [Nat.add_mul, Nat.one_mul] at this
        omega
      have hm : (q * wd + cc) % wd = cc := by rw [Nat.mul_comm, Nat.mul_add_mod, Nat.mod_eq_of_lt hcc]
      simp [madeCells, hlt, hzl, hm, hcc]
    refine ⟨(), w.alloc (.cells (madeCells z.cells (c * wd)) e), trivial, ag_alloc _ w _, by simp, fun ρ' he => ⟨AO.Low.tab e fun q hq v hv => ?_, hmc, fun q hq => ?_, .inr ⟨_, _, rfl, heap_alloc_new w _, size_madeCells _ _, fun q cc v hq hv => ?_⟩⟩, ?_⟩
    · rw [hf q hq] at hv
      obtain ⟨u, _, rfl⟩ := List.mem_map.1 hv
      exact AV.Low.raw _ _ _
    · rw [hf q hq, List.length_map, hz]
    · rw [hf q hq, List.getElem?_map] at hv
      obtain ⟨u, hu, rfl⟩ := Option.map_eq_some_iff.1 hv
      have hcc : cc < wd := by rw [← hz]; exact (List.getElem?_eq_some_iff.1 hu).1
      rw [hcell q cc (by omega) hcc, ← Array.getElem?_toList, e5, hu]
      rfl
    · simp only [execOp, (g.eval x _ hx).2, (g.eval y _ hy).2, AV.conc, Sem.run_bind, hrun, Result.andThen_ok, Sem.run_pure, updE_same, Option.map_some, Nat.zero_mul, Int.toNat_natCast]) hg hb (fun _ _ => k)
end
end Go.Proofs.Yteabncomclgncaa
