/- Texts of the claim, merged: only what the theorem needs. -/
import Derived.Test.YteabncomclgncaaSog
import Derived.ScopeJumps
namespace Go.Proofs.Yteabncomclgncaa
set_option linter.unusedVariables false
set_option linter.unusedSimpArgs false
set_option linter.unusedSectionVars false
open Go.RowKit
section
variable {P : Program} {Q : Exit → Act → World → Prop} {E : Base} {n L : Nat} {τ : List (Nat × AV)} {h : List (Nat × AO)} {F : World → Prop}
end
section
variable {P : Program} {ops : Array Oper} {Q : Exit → Act → World → Prop} {D : Option DD} {E : Base} {n L : Nat} {τ : List (Nat × AV)} {h : List (Nat × AO)} {F : World → Prop} {rest : List Oper}
  {d : Nat} {op : Op} {ty : TypeId} {ps : String} {af : Array Edge} {gd : Option (Nat × Bool)} {tt : List (Nat × TI)}
theorem R.ldoj (htt : TTok P tt) {t : TypeId} {x : Operand} {l wd off j c n0 : Nat} {f : Nat → List AV} {ti : TI} {v : AV} (i : Nat) (hx : evA τ x = some (.ptr l wd j c)) (hl : hk l h = some (.ro wd off n0 f)) (ht : lk t tt = some ti) (hv : takeA ti (f i) c = some v)
    (hg : wantA ops ⟨some d, .load t x, ty, ps, af, gd⟩ τ = some true) (hb : (Nat.ble (d + 1) n && lookB D [l] && Nat.ble (l + 1) L) = true) (hj : j = off + i) (hi : i < n0)
    (k : R P ops Q (lookD D [l]) E n L ((d, v) :: τ) h F rest) : R P ops Q D E n L τ h F (⟨some d, .load t x, ty, ps, af, gd⟩ :: rest) := by
  subst hj
  exact R.ldo htt hx hl ht hv hg hb hi k
end
section
variable {E : Base} {n L : Nat} {τ : List (Nat × AV)} {h : List (Nat × AO)} {F : World → Prop}
end
section
variable {P : Program} {ops : Array Oper} {Q : Exit → Act → World → Prop} {E : Base} {n L : Nat} {τ : List (Nat × AV)} {h : List (Nat × AO)} {F : World → Prop} {rest : List Oper}
theorem R.noneH (l0 : Nat) (xs' : List AV) (o : AO) (ho : ∀ ρ' W, o.Low ρ' (L + 1) ∧ o.holds ρ' none W) (hro : o.isRo = false) {xs : List AV} {T : TypeId} (hv : hk l0 h = some (.cells xs T)) (hb : AV.bds (L + 1) xs' = true) (hc : ∀ ρ : Env, ρ L = Option.none → AV.concs ρ xs' = AV.concs ρ xs)
    (k : R P ops Q none E n (L + 1) τ ((L, o) :: (l0, .cells xs' T) :: h) F rest) : R P ops Q none E n L τ h F rest := ⟨fun ρ a w g => k.out _ a w (g.noneH o ho hro l0 xs xs' T hv hb hc)⟩
end
section
variable {P : Program} {ops : Array Oper} {Q : Exit → Act → World → Prop} {E : Base} {n L : Nat} {τ : List (Nat × AV)} {h : List (Nat × AO)} {F : World → Prop} {rest : List Oper}
/-- what the state's telling implies -/
theorem R.fact {p : Prop} (hp : ∀ ρ a w, Gam E ρ n L τ h F a w → p) (k : p → R P ops Q none E n L τ h F rest) : R P ops Q none E n L τ h F rest := ⟨fun ρ a w g => (k (hp ρ a w g)).out ρ a w g⟩
theorem C.fact {c : Code} {p : Prop} (hp : ∀ ρ a w, Gam E ρ n L τ h F a w → p) (k : p → C P c Q E n L τ h F) : C P c Q E n L τ h F := ⟨fun ρ a w g => (k (hp ρ a w g)).out ρ a w g⟩
end
end Go.Proofs.Yteabncomclgncaa
