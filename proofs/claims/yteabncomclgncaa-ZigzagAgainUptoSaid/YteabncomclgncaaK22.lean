/- The kernel, 22: jumps ahead to a label. No program in sight. -/
import Derived.Test.YteabncomclgncaaK21
import Derived.ScopeJumps
namespace Go.Proofs.Yteabncomclgncaa
set_option linter.unusedVariables false
set_option linter.unusedSimpArgs false
set_option linter.unusedSectionVars false
open Go.RowKit

section
variable {P : Program} {Q : Exit → Act → World → Prop} {E : Base} {n L : Nat} {τ : List (Nat × AV)} {h : List (Nat × AO)} {F : World → Prop}
/-- a scope whose run jumps once, ahead, to the label l -/
theorem C.scope {σ : Type} {c rest : Code} (l : Nat) (L2 : Nat) (Inv : σ → Prop) (T : σ → List (Nat × AV)) (H : σ → List (Nat × AO)) (hf : findLabel c l = some rest)
    (first : C P c (Exit.jump l (At E n L2 Inv T H F (fun _ => 0) 1) Q) E n L τ h F)
    (pass : ∀ s, Inv s → C P rest (Exit.jump l (fun _ _ => False) Q) E n L2 (T s) (H s) F) : C P (.scope c) Q E n L τ h F := ⟨fun ρ a w g => by
  refine wp_scope_jumps l (At E n L2 Inv T H F (fun _ => 0) 1) (fun _ _ => 0) hf (first.out ρ a w g) ?_
  rintro a w ⟨s, hs, _, ρ', g'⟩
  refine wp_mono ((pass s hs).out ρ' a w g') ?_
  intro e a' w' hq
  cases e with
  | goto l' => exact hq.2.elim
  | normal => exact hq
  | exit id => exact hq
  | ret => exact hq
  | panic ch => exact hq
  | outgrown => exact hq⟩
theorem C.goto {l : Nat} (k : X Q (.goto l) E n L τ h F) : C P (.goto l) Q E n L τ h F := ⟨fun ρ a w g => wp_goto (k.out ρ a w g)⟩
theorem C.label {l : Nat} (k : X Q .normal E n L τ h F) : C P (.label l) Q E n L τ h F := ⟨fun ρ a w g => wp_label (k.out ρ a w g)⟩
theorem X.pass_goto {next : Act → World → Prop} {l : Nat} (k : X Q (.goto l) E n L τ h F) : X (Exit.then next Q) (.goto l) E n L τ h F := ⟨k.out⟩
theorem X.block_goto {id l : Nat} (k : X Q (.goto l) E n L τ h F) : X (Exit.inBlock id Q) (.goto l) E n L τ h F := ⟨k.out⟩
theorem X.jump_ret {l : Nat} {J : Act → World → Prop} (k : X Q .ret E n L τ h F) : X (Exit.jump l J Q) .ret E n L τ h F := ⟨k.out⟩
theorem X.jump_normal {l : Nat} {J : Act → World → Prop} (k : X Q .normal E n L τ h F) : X (Exit.jump l J Q) .normal E n L τ h F := ⟨k.out⟩
theorem X.jump_exit {l id : Nat} {J : Act → World → Prop} (k : X Q (.exit id) E n L τ h F) : X (Exit.jump l J Q) (.exit id) E n L τ h F := ⟨k.out⟩
/-- the jump -/
theorem X.jump {σ : Type} {L2 l : Nat} {Inv : σ → Prop} {T : σ → List (Nat × AV)} {H : σ → List (Nat × AO)} {F2 : World → Prop} (rl : List (Nat × Nat)) (s : σ) (hI : Inv s) (hb : rnB E.N L2 L rl = true)
    (ht : HasT (rnF rl) L2 τ (T s)) (hh : HasH (rnF rl) L2 h (H s)) (hnd : nodupB (((H s).map (·.1)).map (rnF rl)) = true) (hF : ∀ w, F w → F2 w) : X (Exit.jump l (At E n L2 Inv T H F2 (fun _ => 0) 1) Q) (.goto l) E n L τ h F :=
  ⟨fun ρ a w g => ⟨rfl, at_of g rl s hI (by omega) hb ht hh hnd hF⟩⟩
end
section
variable {P : Program} {ops : Array Oper} {Q : Exit → Act → World → Prop} {D : Option DD} {E : Base} {n L : Nat} {τ : List (Nat × AV)} {h : List (Nat × AO)} {F : World → Prop} {rest : List Oper}
  {d : Nat} {op : Op} {ty : TypeId} {ps : String} {af : Array Edge} {gd : Option (Nat × Bool)} {tt : List (Nat × TI)}
theorem R.ldoj (htt : TTok P tt) {t : TypeId} {x : Operand} {l wd off j c n0 : Nat} {f : Nat → List AV} {ti : TI} {v : AV} (i : Nat) (hx : evA τ x = some (.ptr l wd j c)) (hl : hk l h = some (.ro wd off n0 f)) (ht : lk t tt = some ti) (hv : takeA ti (f i) c = some v)
    (hg : wantA ops ⟨some d, .load t x, ty, ps, af, gd⟩ τ = some true) (hb : (Nat.ble (d + 1) n && lookB D [l] && Nat.ble (l + 1) L) = true) (hj : j = off + i) (hi : i < n0)
    (k : R P ops Q (lookD D [l]) E n L ((d, v) :: τ) h F rest) : R P ops Q D E n L τ h F (⟨some d, .load t x, ty, ps, af, gd⟩ :: rest) := by
  subst hj
  exact R.ldo htt hx hl ht hv hg hb hi k
end
section
variable {E : Base} {n L : Nat} {τ : List (Nat × AV)} {h : List (Nat × AO)} {F : World → Prop}
theorem SrcA.none0 {l w0 j c : Nat} (hb : Nat.ble (l + 1) L = true) : SrcA E n L τ h F (.sl l w0 j 0 c) 0 [] := fun ρ a w g => by
  refine ⟨fun x hx => (by cases hx), ?_⟩
  cases hr : ρ l with
  | none => exact .inr ⟨c, by simp [AV.conc, hr], rfl, rfl⟩
  | some b => exact .inl ⟨⟨b, j * w0, none⟩, c, by simp [AV.conc, hr], fun k u hk => by simp [AV.concs] at hk⟩
/-- a part of a list of bytes, as a slice expression gives it -/
theorem SrcA.robj {l o2 off m c j : Nat} {p : List UInt8} (hl : hk l h = some (.ro 1 o2 p.length (bytesF p))) (hn : off + m ≤ p.length) (hb : Nat.ble (l + 1) L = true) (hj : j = o2 + off ∨ m = 0) : SrcA E n L τ h F (.sl l 1 j m c) m (avB ((p.drop off).take m)) := by
  rcases hj with rfl | rfl
  · exact SrcA.rob hl hn
  · have := SrcA.none0 (E := E) (n := n) (τ := τ) (h := h) (F := F) (w0 := 1) (j := j) (c := c) hb
    simpa [avB] using this
theorem SrcA.bytesj {l off m c j cap : Nat} {p : List UInt8} {T : TypeId} (hl : hk l h = some (.bytes p cap T)) (hn : off + m ≤ p.length) (hb : Nat.ble (l + 1) L = true) (hj : j = off ∨ m = 0) : SrcA E n L τ h F (.sl l 1 j m c) m (avB ((p.drop off).take m)) := by
  rcases hj with rfl | rfl
  · exact SrcA.bytes hl hn
  · have := SrcA.none0 (E := E) (n := n) (τ := τ) (h := h) (F := F) (w0 := 1) (j := j) (c := c) hb
    simpa [avB] using this
end
section
variable {P : Program} {ops : Array Oper} {Q : Exit → Act → World → Prop} {E : Base} {n L : Nat} {τ : List (Nat × AV)} {h : List (Nat × AO)} {F : World → Prop} {rest : List Oper}
theorem R.noneT (t : Nat) (v' : AV) (o : AO) (ho : ∀ ρ' W, o.Low ρ' (L + 1) ∧ o.holds ρ' none W) (hro : o.isRo = false) {v : AV} (hv : lk t τ = some v) (hb : v'.bd (L + 1) = true) (hc : ∀ ρ : Env, ρ L = Option.none → v'.conc ρ = v.conc ρ)
    (k : R P ops Q none E n (L + 1) ((t, v') :: τ) ((L, o) :: h) F rest) : R P ops Q none E n L τ h F rest := ⟨fun ρ a w g => k.out _ a w (g.noneT o ho hro t v v' hv hb hc)⟩
theorem R.noneH (l0 : Nat) (xs' : List AV) (o : AO) (ho : ∀ ρ' W, o.Low ρ' (L + 1) ∧ o.holds ρ' none W) (hro : o.isRo = false) {xs : List AV} {T : TypeId} (hv : hk l0 h = some (.cells xs T)) (hb : AV.bds (L + 1) xs' = true) (hc : ∀ ρ : Env, ρ L = Option.none → AV.concs ρ xs' = AV.concs ρ xs)
    (k : R P ops Q none E n (L + 1) τ ((L, o) :: (l0, .cells xs' T) :: h) F rest) : R P ops Q none E n L τ h F rest := ⟨fun ρ a w g => k.out _ a w (g.noneH o ho hro l0 xs xs' T hv hb hc)⟩
end
section
variable {P : Program} {ops : Array Oper} {Q : Exit → Act → World → Prop} {E : Base} {n L : Nat} {τ : List (Nat × AV)} {h : List (Nat × AO)} {F : World → Prop} {rest : List Oper}
/-- what the state's telling implies -/
theorem R.fact {p : Prop} (hp : ∀ ρ a w, Gam E ρ n L τ h F a w → p) (k : p → R P ops Q none E n L τ h F rest) : R P ops Q none E n L τ h F rest := ⟨fun ρ a w g => (k (hp ρ a w g)).out ρ a w g⟩
theorem C.fact {c : Code} {p : Prop} (hp : ∀ ρ a w, Gam E ρ n L τ h F a w → p) (k : p → C P c Q E n L τ h F) : C P c Q E n L τ h F := ⟨fun ρ a w g => (k (hp ρ a w g)).out ρ a w g⟩
theorem bytes_le {l cap : Nat} {p : List UInt8} {T : TypeId} (hl : hk l h = some (.bytes p cap T)) : ∀ ρ a w, Gam E ρ n L τ h F a w → p.length ≤ cap := fun ρ a w g => (g.hp _ _ hl).2.2.1
end
end Go.Proofs.Yteabncomclgncaa
