/- Texts of the claim, merged: only what the theorem needs. -/
import Derived.Test.YtaieficgifingaaGreatDoorPPg
import Derived.ScopeJumps
namespace Go.Proofs.YtaieficgifingaaGreatDoor
set_option linter.unusedVariables false
set_option linter.unusedSimpArgs false
set_option linter.unusedSectionVars false
open Go.RowKit
section
variable {P : Program} {Q : Exit → Act → World → Prop} {E : Base} {n L : Nat} {τ : List (Nat × AV)} {h : List (Nat × AO)} {F : World → Prop}
/-- a scope whose run jumps once, ahead, to the label l -/
theorem C.scope {σ : Type} {c rest : Code} (l : Nat) (L2 : Nat) (Inv : σ → Prop) (T : σ → List (Nat × AV)) (H : σ → List (Nat × AO)) (hf : findLabel c l = some rest)
    (first : C P c (Exit.jump l (At E n L2 Inv T H F (fun _ => 0) 1) Q) E n L τ h F)
    (pass : ∀ s, Inv s → C P rest (Exit.jump l (fun _ _ => False) Q) E n L2 (T s) (H s) F) : C P (.scope c) Q E n L τ h F := ⟨fun ρ a w g => by
  refine wp_scope_jumps l (At E n L2 Inv T H F (fun _ => 0) 1) (fun _ _ => 0) hf (first.out ρ a w g) ?_
  rintro a w ⟨s, hs, _, ρ', g'⟩
  refine wp_mono ((pass s hs).out ρ' a w g') ?_
  intro e a' w' hq
  cases e with
  | goto l' => exact hq.2.elim
  | normal => exact hq
  | exit id => exact hq
  | ret => exact hq
  | panic ch => exact hq
  | outgrown => exact hq⟩
theorem C.goto {l : Nat} (k : X Q (.goto l) E n L τ h F) : C P (.goto l) Q E n L τ h F := ⟨fun ρ a w g => wp_goto (k.out ρ a w g)⟩
theorem C.label {l : Nat} (k : X Q .normal E n L τ h F) : C P (.label l) Q E n L τ h F := ⟨fun ρ a w g => wp_label (k.out ρ a w g)⟩
theorem X.jump_ret {l : Nat} {J : Act → World → Prop} (k : X Q .ret E n L τ h F) : X (Exit.jump l J Q) .ret E n L τ h F := ⟨k.out⟩
theorem X.jump_normal {l : Nat} {J : Act → World → Prop} (k : X Q .normal E n L τ h F) : X (Exit.jump l J Q) .normal E n L τ h F := ⟨k.out⟩
theorem X.jump_exit {l id : Nat} {J : Act → World → Prop} (k : X Q (.exit id) E n L τ h F) : X (Exit.jump l J Q) (.exit id) E n L τ h F := ⟨k.out⟩
/-- the jump -/
theorem X.jump {σ : Type} {L2 l : Nat} {Inv : σ → Prop} {T : σ → List (Nat × AV)} {H : σ → List (Nat × AO)} {F2 : World → Prop} (rl : List (Nat × Nat)) (s : σ) (hI : Inv s) (hb : rnB E.N L2 L rl = true)
    (ht : HasT (rnF rl) L2 τ (T s)) (hh : HasH (rnF rl) L2 h (H s)) (hnd : nodupB (((H s).map (·.1)).map (rnF rl)) = true) (hF : ∀ w, F w → F2 w) : X (Exit.jump l (At E n L2 Inv T H F2 (fun _ => 0) 1) Q) (.goto l) E n L τ h F :=
  ⟨fun ρ a w g => ⟨rfl, at_of g rl s hI (by omega) hb ht hh hnd hF⟩⟩
end
section
variable {P : Program} {ops : Array Oper} {Q : Exit → Act → World → Prop} {D : Option DD} {E : Base} {n L : Nat} {τ : List (Nat × AV)} {h : List (Nat × AO)} {F : World → Prop} {rest : List Oper}
  {d : Nat} {op : Op} {ty : TypeId} {ps : String} {af : Array Edge} {gd : Option (Nat × Bool)} {tt : List (Nat × TI)}
end
section
variable {E : Base} {n L : Nat} {τ : List (Nat × AV)} {h : List (Nat × AO)} {F : World → Prop}
end
section
variable {P : Program} {ops : Array Oper} {Q : Exit → Act → World → Prop} {E : Base} {n L : Nat} {τ : List (Nat × AV)} {h : List (Nat × AO)} {F : World → Prop} {rest : List Oper}
theorem R.noneT (t : Nat) (v' : AV) (o : AO) (ho : ∀ ρ' W, o.Low ρ' (L + 1) ∧ o.holds ρ' none W) (hro : o.isRo = false) {v : AV} (hv : lk t τ = some v) (hb : v'.bd (L + 1) = true) (hc : ∀ ρ : Env, ρ L = Option.none → v'.conc ρ = v.conc ρ)
    (k : R P ops Q none E n (L + 1) ((t, v') :: τ) ((L, o) :: h) F rest) : R P ops Q none E n L τ h F rest := ⟨fun ρ a w g => k.out _ a w (g.noneT o ho hro t v v' hv hb hc)⟩
theorem R.noneH (l0 : Nat) (xs' : List AV) (o : AO) (ho : ∀ ρ' W, o.Low ρ' (L + 1) ∧ o.holds ρ' none W) (hro : o.isRo = false) {xs : List AV} {T : TypeId} (hv : hk l0 h = some (.cells xs T)) (hb : AV.bds (L + 1) xs' = true) (hc : ∀ ρ : Env, ρ L = Option.none → AV.concs ρ xs' = AV.concs ρ xs)
    (k : R P ops Q none E n (L + 1) τ ((L, o) :: (l0, .cells xs' T) :: h) F rest) : R P ops Q none E n L τ h F rest := ⟨fun ρ a w g => k.out _ a w (g.noneH o ho hro l0 xs xs' T hv hb hc)⟩
end
section
variable {P : Program} {ops : Array Oper} {Q : Exit → Act → World → Prop} {E : Base} {n L : Nat} {τ : List (Nat × AV)} {h : List (Nat × AO)} {F : World → Prop} {rest : List Oper}
/-- what the state's telling implies -/
theorem R.fact {p : Prop} (hp : ∀ ρ a w, Gam E ρ n L τ h F a w → p) (k : p → R P ops Q none E n L τ h F rest) : R P ops Q none E n L τ h F rest := ⟨fun ρ a w g => (k (hp ρ a w g)).out ρ a w g⟩
theorem C.fact {c : Code} {p : Prop} (hp : ∀ ρ a w, Gam E ρ n L τ h F a w → p) (k : p → C P c Q E n L τ h F) : C P c Q E n L τ h F := ⟨fun ρ a w g => (k (hp ρ a w g)).out ρ a w g⟩
end
end Go.Proofs.YtaieficgifingaaGreatDoor
