/- The kernel, 32: texts put together. No program in sight. -/
import Derived.Test.YteabncomclgncaaK31
namespace Go.Proofs.Yteabncomclgncaa
set_option linter.unusedVariables false
set_option linter.unusedSimpArgs false
set_option linter.unusedSectionVars false
open Go.RowKit
section
variable {P : Program} {ops : Array Oper} {Q : Exit → Act → World → Prop} {D : Option DD} {E : Base} {n L : Nat} {τ : List (Nat × AV)} {h : List (Nat × AO)} {F : World → Prop} {rest : List Oper}
  {d : Nat} {ty : TypeId} {ps : String} {af : Array Edge} {gd : Option (Nat × Bool)} {tt : List (Nat × TI)}
/-- x + y of texts -/
theorem R.cat {t u : TypeId} {x y : Operand} {a b : ByteArray} (hx : evA τ x = some (.raw (.string a))) (hy : evA τ y = some (.raw (.string b)))
    (hg : wantA ops ⟨some d, .binOp .add t x y u, ty, ps, af, gd⟩ τ = some true) (hb : (Nat.ble (d + 1) n && lookB D []) = true) (hle : a.size + b.size ≤ 9223372036854775807)
    (k : R P ops Q (lookD D []) E n L ((d, .raw (.string (a ++ b))) :: τ) h F rest) : R P ops Q D E n L τ h F (⟨some d, .binOp .add t x y u, ty, ps, af, gd⟩ :: rest) :=
  R.pure _ (fun ρ ac w g => ⟨AV.Low.raw _ _ _, fun W => by
    have h0 : ¬ (9223372036854775807 < (a.size : Int) + (b.size : Int)) := by omega
    simp [execOp, (g.eval x _ hx).2, (g.eval y _ hy).2, AV.conc, eqGuard, binOp, Op.stringOp, IntKind.max, IntKind.signed, IntKind.bits, h0]⟩) hg hb k
end
end Go.Proofs.Yteabncomclgncaa
