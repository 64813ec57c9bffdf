/- The kernel, 34: a pointer compared with itself. No program in sight. -/
import Derived.Test.YteabncomclgncaaK33
namespace Go.Proofs.Yteabncomclgncaa
set_option linter.unusedVariables false
set_option linter.unusedSimpArgs false
set_option linter.unusedSectionVars false
open Go.RowKit
section
variable {P : Program} {ops : Array Oper} {Q : Exit → Act → World → Prop} {D : Option DD} {E : Base} {n L : Nat} {τ : List (Nat × AV)} {h : List (Nat × AO)} {F : World → Prop} {rest : List Oper}
  {d : Nat} {ty : TypeId} {ps : String} {af : Array Edge} {gd : Option (Nat × Bool)} {tt : List (Nat × TI)}
theorem run_ptr_self {t : TypeId} {el sz : Nat} {w : World} (hp : (underlying t).run P w = .ok (.pointer el) w) (hs : (sizeOf el).run P w = .ok sz w) (h0 : sz ≠ 0) (a : Addr) (x y : Operand) :
    (do eqGuard .neq t x y (.pointer (some a)) (.pointer (some a)); binOp .neq t (.pointer (some a)) (.pointer (some a)) : Sem Value).run P w = .ok (.bool false) w := by
  have e1 : binOp .neq t (.pointer (some a)) (.pointer (some a)) = (do pure (.bool (!(← Op.equal t (.pointer (some a)) (.pointer (some a)))))) := rfl
  have e2 : (Op.equalIn (9999 + 1) t (.pointer (some a)) (.pointer (some a))).run P w = .ok true w := by
    unfold Op.equalIn
    simp [hp, hs, h0, sameAddr]
  rw [e1]
  simp [eqGuard, Op.equal, Op.maxDepth, e2]
/-- p != p -/
theorem R.pns (htt : TTok P tt) {t u : TypeId} {x y : Operand} {l w0 i c e : Nat} {ti te : TI} (hx : evA τ x = some (.ptr l w0 i c)) (hy : evA τ y = some (.ptr l w0 i c)) (ht : lk t tt = some ti) (hk : ti.kind = .ptr e) (hte : lk e tt = some te) (hs : Nat.ble 1 te.size = true)
    (hg : wantA ops ⟨some d, .binOp .neq t x y u, ty, ps, af, gd⟩ τ = some true) (hb : (Nat.ble (d + 1) n && lookB D []) = true)
    (k : R P ops Q (lookD D []) E n L ((d, .raw (.bool false)) :: τ) h F rest) : R P ops Q D E n L τ h F (⟨some d, .binOp .neq t x y u, ty, ps, af, gd⟩ :: rest) :=
  R.pure _ (fun ρ ac w g => ⟨AV.Low.raw _ _ _, fun W => by
    have hp := und_ptr (htt _ _ ht) hk W
    have := run_ptr_self (P := P) hp ((htt _ _ hte).run_size W) (by rw [Nat.ble_eq] at hs; omega) ⟨(ρ l).getD 0, i * w0 + c, none⟩ x y
    simp only [Sem.run_bind] at this
    simp only [execOp, (g.eval x _ hx).2, (g.eval y _ hy).2, AV.conc, Sem.run_bind]
    simp [this]⟩) hg hb k
end
end Go.Proofs.Yteabncomclgncaa
