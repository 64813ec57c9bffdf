/- The kernel, 45: states in which everything is only read; an iterator's walk. No program in sight. -/
import Derived.Test.YteabncomclgncaaK44
namespace Go.Proofs.Yteabncomclgncaa
set_option linter.unusedVariables false
set_option linter.unusedSimpArgs false
set_option linter.unusedSectionVars false
open Go.RowKit
section
variable {E : Base} {ρ : Env} {n L : Nat} {τ : List (Nat × AV)} {h : List (Nat × AO)} {F : World → Prop} {a : Act} {w : World}
theorem gam_ro (hdf : a.defers = E.df) (hsz : a.tmps.size = n) (htm : ∀ t v, lk t τ = some v → v.bd L = true ∧ a.tmps[t]? = some (v.conc ρ)) (hro : (h.all fun p => p.2.isRo) = true) (hp : ∀ l o, hk l h = some o → l < L ∧ o.Bd L ∧ o.holds ρ (ρ l) w) (hF : ∀ w', Below w.heap.size w w' → F w') (hex : ∀ l, l < E.N → ρ l = E.ρ l) (hle : E.N ≤ L)
    (hal : ∀ l b, l < L → ρ l = some b → b < w.heap.size) : Gam E ρ n L τ h F a w := by
  have hw : ∀ l, ¬ wrA l h := fun l ⟨o, h1, h2⟩ => by
    have := List.all_eq_true.1 hro _ (lk_mem (hk_lk h1))
    simp only at this
    rw [this] at h2; cases h2
  exact ⟨hdf, hsz, fun t v hv => ⟨bdLow (htm t v hv).1 _, (htm t v hv).2⟩, fun l o hl => ⟨(hp l o hl).1, (hp l o hl).2.1.low _, (hp l o hl).2.2⟩, fun l l' b h1 => absurd h1 (hw l), fun w' hw' => hF w' (hw'.mono (D' := fun b => b < w.heap.size) (fun b _ _ l hl => absurd hl (hw l)) |>.below (Nat.le_refl _)), hex, hle, hal⟩
/-- where a label that may be written lies -/
theorem Gam.newB {W1 : World} (g : Gam E ρ n L τ h (fun w' => Below W1.heap.size W1 w') a w) {l b : Nat} (hl : wrA l h) (hb : ρ l = some b) : W1.heap.size ≤ b := by
  refine Nat.le_of_not_lt fun hlt => ?_
  have hw := g.lt hl.live hb
  have key : ∀ o : Obj, W1.heap[b]? = some o := fun o => by
    have h2 := (g.fr (putB w b o) (putB_ag w b o _ fun hd => hd l hl hb)).block b hlt
    rw [← h2, putB_same w o hw]
  have h4 := key (.cells #[] 0 (0, 0))
  have h5 := key (.cells #[] 0 (0, 1))
  rw [h4] at h5
  simp at h5
end
/-- here: the world of now is named -/
theorem C.here {P : Program} {c : Code} {Q : Exit → Act → World → Prop} {E : Base} {n L : Nat} {τ : List (Nat × AV)} {h : List (Nat × AO)} {F : World → Prop} (hro : (h.all fun p => p.2.isRo) = true) (k : ∀ W1, F W1 → C P c Q E n L τ h (fun w' => Below W1.heap.size W1 w')) : C P c Q E n L τ h F := ⟨fun ρ a w g => by
  have hw : ∀ l, ¬ wrA l h := fun l ⟨o, h1, h2⟩ => by
    have := List.all_eq_true.1 hro _ (lk_mem (hk_lk h1))
    simp only at this
    rw [this] at h2; cases h2
  exact (k w (g.fr w (Ag.refl _ _))).out ρ a w (g.strong fun w' hw' => (hw'.mono (D' := fun b => b < w.heap.size) (fun b _ _ l hl => absurd hl (hw l))).below (Nat.le_refl _))⟩
end Go.Proofs.Yteabncomclgncaa
