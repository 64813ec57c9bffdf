/- The kernel, 43: an element of an array behind a pointer. No program in sight. -/
import Derived.Test.YteabncomclgncaaK42
import Derived.Test.YteabncomclgncaaP0
namespace Go.Proofs.Yteabncomclgncaa
set_option linter.unusedVariables false
set_option linter.unusedSimpArgs false
set_option linter.unusedSectionVars false
open Go.RowKit
theorem und_arr' {P : Program} {t : TypeId} {ti : TI} {m e : Nat} (h : TIok P t ti) (hk : ti.kind = .arr m e) (w : World) : (underlying t).run P w = .ok (.array m e) w := und_arr h hk w
section
variable {P : Program} {ops : Array Oper} {Q : Exit → Act → World → Prop} {D : Option DD} {E : Base} {n L : Nat} {τ : List (Nat × AV)} {h : List (Nat × AO)} {F : World → Prop} {rest : List Oper}
  {d : Nat} {ty : TypeId} {ps : String} {af : Array Edge} {gd : Option (Nat × Bool)} {tt : List (Nat × TI)}
theorem R.ixa (htt : TTok P tt) {t e : TypeId} {x y : Operand} {l w i c m : Nat} {k0 : IntKind} {j : Int} {sz bt w0 : Nat} {z : List Value} (jn : Nat) (hx : evA τ x = some (.ptr l w i c)) (hy : evA τ y = some (.raw (.int k0 j))) (ht : lk t tt = some ⟨sz, bt, .arr m e, z⟩) (hs : szA tt e = some w0)
    (hg : wantA ops ⟨some d, .indexAddr t x y, ty, ps, af, gd⟩ τ = some true) (hb : (Nat.ble (d + 1) n && lookB D [] && Nat.ble (l + 1) L) = true) (hj : j = (jn : Int)) (hlt : jn < m)
    (k : R P ops Q (lookD D []) E n L ((d, .ptr l w i (c + jn * w0)) :: τ) h F rest) : R P ops Q D E n L τ h F (⟨some d, .indexAddr t x y, ty, ps, af, gd⟩ :: rest) := by
  rw [Bool.and_eq_true] at hb
  exact R.pure _ (fun ρ a w' g => by
    have hlL' : l + 1 ≤ L := by have := hb.2; simpa [Nat.ble_eq] using this
    refine ⟨fun ρ' he => by simp [AV.conc, he l (by omega)], fun W => ?_⟩
    have hu := und_arr (htt _ _ ht) rfl W
    obtain ⟨te, hte, hsz⟩ := Option.map_eq_some_iff.1 hs
    have hse := (htt _ _ hte).run_size W
    subst hj
    rw [hsz] at hse
    have h1 : (0 : Int) ≤ (jn : Int) ∧ (jn : Int) < (m : Int) := by omega
    simp only [execOp, (g.eval x _ hx).2, (g.eval y _ hy).2, AV.conc]
    simp [Instr.indexAt, asIntOf, Instr.sureAddr, hu, hlt, hse, Addr.add, Nat.add_assoc]) hg hb.1 k
end
end Go.Proofs.Yteabncomclgncaa
