/- Texts of the claim, merged: only what the theorem needs. -/
import Derived.Test.YtaieficgifingaaGreatDoorPPc
import Derived.Deep.LoopGhost
namespace Go.Proofs.YtaieficgifingaaGreatDoor
set_option linter.unusedVariables false
set_option linter.unusedSimpArgs false
set_option linter.unusedSectionVars false
open Go.RowKit
/-- labels named anew, by a list: (new name, old name) -/
def rnF (rl : List (Nat × Nat)) (l : Nat) : Nat := match lk l rl with
  | some m => m
  | none => l
def rnB (N L2 L : Nat) (rl : List (Nat × Nat)) : Bool := Nat.ble N L2 && (rl.all fun p => Nat.ble N p.1) && (List.range L2).all fun l => Nat.ble (rnF rl l + 1) L
theorem rn_ok {N L2 L : Nat} {rl : List (Nat × Nat)} (h : rnB N L2 L rl = true) : (∀ l, l < N → rnF rl l = l) ∧ (∀ l, l < L2 → rnF rl l < L) ∧ N ≤ L2 := by
  simp only [rnB, Bool.and_eq_true, Nat.ble_eq, List.all_eq_true, List.mem_range] at h
  obtain ⟨⟨h1, h2⟩, h3⟩ := h
  have key : ∀ l m, lk l rl = some m → (l, m) ∈ rl := fun l m hl => by
    clear h2 h3
    induction rl with
    | nil => simp [lk] at hl
    | cons p rl ih =>
      obtain ⟨s, u⟩ := p
      rw [lk_cons] at hl
      split at hl
      · rename_i e; subst e; cases hl; simp
      · simp [ih hl]
  refine ⟨fun l hl => ?_, fun l hl => h3 l hl, h1⟩
  unfold rnF
  cases hx : lk l rl with
  | none => rfl
  | some m => have := h2 _ (key l m hx); simp only at this; omega
/-- a state that is told by s -/
def At {σ : Type} (E : Base) (n L : Nat) (Inv : σ → Prop) (T : σ → List (Nat × AV)) (H : σ → List (Nat × AO)) (F : World → Prop) (μ : σ → Nat) (m : Nat) (a : Act) (w : World) : Prop := ∃ s, Inv s ∧ μ s < m ∧ ∃ ρ, Gam E ρ n L (T s) (H s) F a w
section
variable {P : Program} {Q : Exit → Act → World → Prop} {E : Base} {n L : Nat} {τ : List (Nat × AV)} {h : List (Nat × AO)} {F : World → Prop}
theorem at_of {σ : Type} {L2 : Nat} {Inv : σ → Prop} {T : σ → List (Nat × AV)} {H : σ → List (Nat × AO)} {F2 : World → Prop} {μ : σ → Nat} {m : Nat} {ρ : Env} {a : Act} {w : World} (g : Gam E ρ n L τ h F a w) (rl : List (Nat × Nat)) (s : σ) (hI : Inv s) (hm : μ s < m) (hb : rnB E.N L2 L rl = true)
    (ht : HasT (rnF rl) L2 τ (T s)) (hh : HasH (rnF rl) L2 h (H s)) (hnd : nodupB (((H s).map (·.1)).map (rnF rl)) = true) (hF : ∀ w, F w → F2 w) : At E n L2 Inv T H F2 μ m a w := by
  obtain ⟨h1, h2, h3⟩ := rn_ok hb
  exact ⟨s, hI, hm, _, g.imp (rnF rl) L2 (T s) (H s) F2 h1 h2 h3 ht hh hnd hF⟩
/-- the end of a round; where ways meet -/
theorem X.back {σ : Type} {L2 : Nat} {Inv : σ → Prop} {T : σ → List (Nat × AV)} {H : σ → List (Nat × AO)} {F2 : World → Prop} {μ : σ → Nat} {m : Nat} (rl : List (Nat × Nat)) (s : σ) (hI : Inv s) (hm : μ s < m) (hb : rnB E.N L2 L rl = true)
    (ht : HasT (rnF rl) L2 τ (T s)) (hh : HasH (rnF rl) L2 h (H s)) (hnd : nodupB (((H s).map (·.1)).map (rnF rl)) = true) (hF : ∀ w, F w → F2 w) : X (Exit.then (At E n L2 Inv T H F2 μ m) Q) .normal E n L τ h F :=
  ⟨fun ρ a w g => at_of g rl s hI hm hb ht hh hnd hF⟩
/-- a loop -/
theorem C.loop {σ : Type} {c : Code} {L2 : Nat} (Inv : σ → Prop) (T : σ → List (Nat × AV)) (H : σ → List (Nat × AO)) (F2 : World → Prop) (μ : σ → Nat) (rl : List (Nat × Nat)) (s : σ) (hI : Inv s) (hb : rnB E.N L2 L rl = true)
    (ht : HasT (rnF rl) L2 τ (T s)) (hh : HasH (rnF rl) L2 h (H s)) (hnd : nodupB (((H s).map (·.1)).map (rnF rl)) = true) (hF : ∀ w, F w → F2 w)
    (round : ∀ s, Inv s → C P c (Exit.then (At E n L2 Inv T H F2 μ (μ s)) Q) E n L2 (T s) (H s) F2) : C P (.loop c) Q E n L τ h F := ⟨fun ρ a w g => by
  obtain ⟨s0, hI0, hm0, ρ0, g0⟩ := at_of (μ := μ) (m := μ s + 1) (F2 := F2) g rl s hI (Nat.lt_succ_self _) hb ht hh hnd hF
  refine wp_loop_ghost (fun k a w => ∃ s, Inv s ∧ μ s = k ∧ ∃ ρ, Gam E ρ n L2 (T s) (H s) F2 a w) (μ s0) ⟨s0, hI0, rfl, ρ0, g0⟩ ?_
  rintro k a w ⟨s, hs, rfl, ρ, g⟩
  refine wp_mono ((round s hs).out ρ a w g) ?_
  intro e a' w' hq
  cases e with
  | normal =>
    obtain ⟨s', h1, h2, h3⟩ := hq
    exact ⟨μ s', h2, s', h1, rfl, h3⟩
  | exit id => exact hq
  | goto l => exact hq
  | ret => exact hq
  | panic ch => exact hq
  | outgrown => exact hq⟩
/-- less is told -/
theorem C.less {c : Code} (rl : List (Nat × Nat)) (L2 : Nat) (τ2 : List (Nat × AV)) (h2 : List (Nat × AO)) (F2 : World → Prop) (hb : rnB E.N L2 L rl = true) (ht : HasT (rnF rl) L2 τ τ2) (hh : HasH (rnF rl) L2 h h2) (hnd : nodupB ((h2.map (·.1)).map (rnF rl)) = true) (hF : ∀ w, F w → F2 w)
    (k : C P c Q E n L2 τ2 h2 F2) : C P c Q E n L τ h F := ⟨fun ρ a w g => by
  obtain ⟨h1, h3, h4⟩ := rn_ok hb
  exact k.out _ a w (g.imp (rnF rl) L2 τ2 h2 F2 h1 h3 h4 ht hh hnd hF)⟩
theorem X.less {e : Exit} (rl : List (Nat × Nat)) (L2 : Nat) (τ2 : List (Nat × AV)) (h2 : List (Nat × AO)) (F2 : World → Prop) (hb : rnB E.N L2 L rl = true) (ht : HasT (rnF rl) L2 τ τ2) (hh : HasH (rnF rl) L2 h h2) (hnd : nodupB ((h2.map (·.1)).map (rnF rl)) = true) (hF : ∀ w, F w → F2 w)
    (k : X Q e E n L2 τ2 h2 F2) : X Q e E n L τ h F := ⟨fun ρ a w g => by
  obtain ⟨h1, h3, h4⟩ := rn_ok hb
  exact k.out _ a w (g.imp (rnF rl) L2 τ2 h2 F2 h1 h3 h4 ht hh hnd hF)⟩
/-- what lies at labels is told in another way -/
theorem HasT.nil {r : Nat → Nat} {L : Nat} {τ : List (Nat × AV)} : HasT r L τ [] := trivial
theorem HasT.cons {r : Nat → Nat} {L : Nat} {τ rest : List (Nat × AV)} {t : Nat} {v v' : AV} (h1 : lk t τ = some v') (h2 : v' = v.ren r) (h3 : v.bd L = true) (k : HasT r L τ rest) : HasT r L τ ((t, v) :: rest) := ⟨⟨⟨v', h1, h2⟩, h3⟩, k⟩
theorem HasH.nil {r : Nat → Nat} {L : Nat} {h : List (Nat × AO)} : HasH r L h [] := trivial
/-- the same lies there -/
theorem HasH.same {r : Nat → Nat} {L : Nat} {h rest : List (Nat × AO)} {l : Nat} {o o' : AO} (h1 : hk (r l) h = some o') (h2 : o' = o.ren r) (h3 : Nat.ble (l + 1) L = true) (h4 : o.Bd L) (k : HasH r L h rest) : HasH r L h ((l, o) :: rest) :=
  ⟨⟨⟨o', h1, by rw [h2]; cases o <;> exact id, fun ρ x w hh => h2 ▸ hh⟩, h3, h4⟩, k⟩
theorem HasH.other {r : Nat → Nat} {L : Nat} {h rest : List (Nat × AO)} {l : Nat} {o o' : AO} (h1 : hk (r l) h = some o') (h5 : (o.isRo = false → o'.isRo = false)) (h2 : ∀ ρ x w, o'.holds ρ x w → (o.ren r).holds ρ x w) (h3 : Nat.ble (l + 1) L = true) (h4 : o.Bd L) (k : HasH r L h rest) : HasH r L h ((l, o) :: rest) :=
  ⟨⟨⟨o', h1, h5, h2⟩, h3, h4⟩, k⟩
theorem HasIn.nil {r : Nat → Nat} {h : List (Nat × AO)} {i : Nat} : HasIn r h i [] := trivial
theorem HasIn.same {r : Nat → Nat} {h : List (Nat × AO)} {i : Nat} {o o' : AO} {os : List AO} (h1 : hk (r i) h = some o') (h2 : o' = o.ren r) (k : HasIn r h (i + 1) os) : HasIn r h i (o :: os) :=
  ⟨⟨o', h1, by rw [h2]; cases o <;> exact id, fun ρ x w hh => h2 ▸ hh⟩, k⟩
theorem HasIn.other {r : Nat → Nat} {h : List (Nat × AO)} {i : Nat} {o o' : AO} {os : List AO} (h1 : hk (r i) h = some o') (h5 : (o.isRo = false → o'.isRo = false)) (h2 : ∀ ρ x w, o'.holds ρ x w → (o.ren r).holds ρ x w) (k : HasIn r h (i + 1) os) : HasIn r h i (o :: os) :=
  ⟨⟨o', h1, h5, h2⟩, k⟩
end
end Go.Proofs.YtaieficgifingaaGreatDoor
