/- The kernel, 8: steps that make or write memory; steps with a condition. No program in sight. -/
import Derived.Test.YteabncomclgncaaK7
namespace Go.Proofs.Yteabncomclgncaa
set_option linter.unusedVariables false
set_option linter.unusedSimpArgs false
set_option linter.unusedSectionVars false
open Go.RowKit

theorem holds_same {ρ : Env} {r : Option Nat} {w w' : World} {o : AO} (h : o.holds ρ r w) (hb : ∀ b, r = some b → w'.heap[b]? = w.heap[b]?) : o.holds ρ r w' := by
  cases o with
  | cells xs ty => obtain ⟨b, hr, hc⟩ := h; exact ⟨b, hr, by rw [hb b hr]; exact hc⟩
  | bytes p cap ty =>
    refine ⟨h.1, h.2.imp id ?_⟩
    rintro ⟨b, cur, hr, hc, h1⟩
    exact ⟨b, cur, hr, by rw [hb b hr]; exact hc, h1⟩
  | tab wd m cap f ty =>
    refine ⟨h.1, h.2.1, h.2.2.imp id ?_⟩
    rintro ⟨b, cur, hr, hc, h1⟩
    exact ⟨b, cur, hr, by rw [hb b hr]; exact hc, h1⟩
  | ro wd off m f =>
    refine h.imp id ?_
    rintro ⟨b, cur, ty, fr, hr, hc, h1⟩
    exact ⟨b, cur, ty, fr, hr, by rw [hb b hr]; exact hc, h1⟩
  | gone => trivial
theorem holds_lt {ρ : Env} {b : Nat} {w : World} {o : AO} (h : o.holds ρ (some b) w) (ho : o ≠ .gone) : b < w.heap.size := by
  cases o with
  | cells xs ty => obtain ⟨b', hr, hc⟩ := h; cases hr; exact (Array.getElem?_eq_some_iff.1 hc).1
  | bytes p cap ty =>
    rcases h.2 with ⟨hr, _⟩ | ⟨b', cur, hr, hc, h1⟩
    · cases hr
    · cases hr; exact (Array.getElem?_eq_some_iff.1 hc).1
  | tab wd m cap f ty =>
    rcases h.2.2 with ⟨hr, _⟩ | ⟨b', cur, hr, hc, h1⟩
    · cases hr
    · cases hr; exact (Array.getElem?_eq_some_iff.1 hc).1
  | ro wd off m f =>
    rcases h with ⟨hr, _⟩ | ⟨b', cur, ty, fr, hr, hc, h1⟩
    · cases hr
    · cases hr; exact (Array.getElem?_eq_some_iff.1 hc).1
  | gone => exact absurd rfl ho
theorem hk_gone {l : Nat} {h : List (Nat × AO)} {o : AO} (hl : hk l h = some o) : o ≠ .gone := by
  rintro rfl
  unfold hk at hl
  split at hl
  · cases hl
  · rename_i h1; exact h1 hl
section
variable {E : Base} {ρ : Env} {n L : Nat} {τ : List (Nat × AV)} {h : List (Nat × AO)} {F : World → Prop} {a : Act} {w : World}
theorem Gam.lt (g : Gam E ρ n L τ h F a w) {l b : Nat} (hl : hk l h ≠ none) (hb : ρ l = some b) : b < w.heap.size := by
  cases ho : hk l h with
  | none => exact absurd ho hl
  | some o =>
    have := (g.hp l o ho).2.2
    rw [hb] at this
    exact holds_lt this (hk_gone ho)
/-- a state behind a turn of memory -/
theorem Gam.turn (g : Gam E ρ n L τ h F a w) {ρ' : Env} {L' : Nat} {h' : List (Nat × AO)} {w' : World} (hs : ∀ l, l < L → ρ' l = ρ l) (hL : L ≤ L')
    (hag : Ag (fun b => ∀ l, wrA l h → ρ l ≠ some b) w w') (hh : ∀ l o, hk l h' = some o → l < L' ∧ o.Low ρ' L' ∧ o.holds ρ' (ρ' l) w')
    (hdis : ∀ l l' b, wrA l h' → hk l' h' ≠ none → ρ' l = some b → ρ' l' = some b → l = l')
    (hnew : ∀ l b, wrA l h' → ρ' l = some b → w.heap.size ≤ b ∨ ∃ l0, wrA l0 h ∧ ρ l0 = some b)
    (hal : ∀ l b, L ≤ l → l < L' → ρ' l = some b → b < w'.heap.size) : Gam E ρ' n L' τ h' F a w' := by
  refine ⟨g.df, g.sz, fun t v hv => ?_, hh, hdis, fun w'' hw => ?_, fun l hl => ?_, Nat.le_trans g.le hL, fun l b hl hb => ?_⟩
  · have := g.tm t v hv
    exact ⟨(this.1.ext hs).mono hL, by rw [this.1 ρ' hs]; exact this.2⟩
  · refine g.fr w'' (hag.trans2 hw fun b hb hd l hl hr => ?_)
    rcases hnew l b hl hr with h1 | ⟨l0, h1, h2⟩
    · omega
    · exact hd l0 h1 h2
  · rw [hs l (Nat.lt_of_lt_of_le hl g.le), g.ex l hl]
  · rcases Nat.lt_or_ge l L with h1 | h1
    · exact Nat.lt_of_lt_of_le (g.al l b h1 ((hs l h1).symm.trans hb)) hag.size
    · exact hal l b h1 hl hb
theorem ag_alloc (D : Nat → Prop) (w : World) (o : Obj) : Ag D w (w.alloc o) := ⟨rfl, rfl, rfl, by simp, fun b hb _ => heap_alloc_old w o hb⟩
def updE (ρ : Env) (l : Nat) (r : Option Nat) : Env := fun k => match Nat.beq k l with
  | true => r
  | false => ρ k
theorem updE_same (ρ : Env) (l : Nat) (r : Option Nat) : updE ρ l r l = r := by simp [updE]
theorem updE_ne (ρ : Env) {l k : Nat} (r : Option Nat) (h : k ≠ l) : updE ρ l r k = ρ k := by
  unfold updE
  have : Nat.beq k l = false := by
    cases e : Nat.beq k l with
    | true => exact absurd (Nat.eq_of_beq_eq_true e) h
    | false => rfl
  rw [this]
/-- a new block, at the label L -/
theorem Gam.new (g : Gam E ρ n L τ h F a w) (o : AO) (ob : Obj) (ho : ∀ ρ', (∀ l, l < L → ρ' l = ρ l) → o.Low ρ' (L + 1) ∧ o.holds ρ' (some w.heap.size) (w.alloc ob)) :
    Gam E (updE ρ L (some w.heap.size)) n (L + 1) τ ((L, o) :: h) F a (w.alloc ob) := by
  have hs : ∀ l, l < L → updE ρ L (some w.heap.size) l = ρ l := fun l hl => updE_ne ρ _ (by omega)
  refine g.turn hs (Nat.le_succ L) (ag_alloc _ w ob) (fun l o' hl => ?_) (fun l l' b hl hl' hb hb' => ?_) (fun l b hl hb => ?_) (fun l b h1 h2 hb => ?_)
  · rw [hk_cons] at hl
    split at hl
    · rename_i e
      subst e
      rw [updE_same]
      have e2 : o' = o := by cases o <;> simp at hl <;> exact hl.symm
      subst e2
      exact ⟨by omega, ho _ hs⟩
    · rename_i e
      have hh := g.hp l o' hl
      refine ⟨by omega, (hh.2.1.ext hs).mono (Nat.le_succ L), ?_⟩
      rw [hs l hh.1]
      refine holds_same ((hh.2.1 _ hs _ _).1 hh.2.2) fun b hb => heap_alloc_old w ob (g.lt (by rw [hl]; simp) hb)
  · have hw := hl
    have hl := hl.live
    rw [hk_cons] at hl hl'
    by_cases e1 : L = l <;> by_cases e2 : L = l'
    · omega
    · rw [if_neg e2] at hl'
      subst e1
      rw [updE_same] at hb
      rw [updE_ne ρ _ (fun e => e2 e.symm)] at hb'
      have := g.lt hl' hb'
      cases hb
      omega
    · rw [if_neg e1] at hl
      subst e2
      rw [updE_same] at hb'
      rw [updE_ne ρ _ (fun e => e1 e.symm)] at hb
      have := g.lt hl hb
      cases hb'
      omega
    · rw [if_neg e1] at hl
      rw [if_neg e2] at hl'
      rw [updE_ne ρ _ (fun e => e1 e.symm)] at hb
      rw [updE_ne ρ _ (fun e => e2 e.symm)] at hb'
      refine g.dis l l' b ?_ hl' hb hb'
      obtain ⟨o1, h1, h2⟩ := hw
      rw [hk_cons, if_neg e1] at h1
      exact ⟨o1, h1, h2⟩
  · have hw := hl
    obtain ⟨o1, h1, h2⟩ := hl
    by_cases e1 : L = l
    · subst e1
      rw [updE_same] at hb
      cases hb
      exact .inl (Nat.le_refl _)
    · rw [hk_cons, if_neg e1] at h1
      rw [updE_ne ρ _ (fun e => e1 e.symm)] at hb
      exact .inr ⟨l, ⟨o1, h1, h2⟩, hb⟩
  · obtain rfl : l = L := by omega
    rw [updE_same] at hb
    cases hb
    simp
/-- what lies at a label is another thing now -/
theorem Gam.set (g : Gam E ρ n L τ h F a w) {l0 b0 : Nat} {o o0 : AO} {w' : World} (hl0 : hk l0 h = some o0) (hro : o0.isRo = false) (hb0 : ρ l0 = some b0) (hlow : o.Low ρ L) (hh : o.holds ρ (some b0) w')
    (hag : ∀ b, b ≠ b0 → w'.heap[b]? = w.heap[b]?) (hsz : w'.heap.size = w.heap.size) (hos : w'.os = w.os ∧ w'.tape = w.tape ∧ w'.output = w.output) : Gam E ρ n L τ ((l0, o) :: h) F a w' := by
  have hw0 : wrA l0 h := ⟨o0, hl0, hro⟩
  have hne : ∀ l, hk l ((l0, o) :: h) ≠ none → hk l h ≠ none := fun l hl => by
    rw [hk_cons] at hl
    split at hl
    · rename_i e; subst e; rw [hl0]; simp
    · exact hl
  have hwr : ∀ l, wrA l ((l0, o) :: h) → wrA l h := fun l hl => by
    obtain ⟨o1, h1, h2⟩ := hl
    rw [hk_cons] at h1
    split at h1
    · rename_i e; subst e; exact hw0
    · exact ⟨o1, h1, h2⟩
  refine g.turn (fun l hl => rfl) (Nat.le_refl L) ⟨hos.1, hos.2.1, hos.2.2, by omega, fun b hb hd => hag b fun e => hd l0 hw0 (e ▸ hb0)⟩ (fun l o' hl => ?_)
    (fun l l' b hl hl' hb hb' => g.dis l l' b (hwr l hl) (hne l' hl') hb hb') (fun l b hl hb => .inr ⟨l, hwr l hl, hb⟩) (fun l b h1 h2 _ => by omega)
  rw [hk_cons] at hl
  split at hl
  · rename_i e
    subst e
    have e2 : o' = o := by cases o <;> simp at hl <;> exact hl.symm
    subst e2
    exact ⟨(g.hp _ _ hl0).1, hlow, by rw [hb0]; exact hh⟩
  · rename_i e
    have hx := g.hp l o' hl
    refine ⟨hx.1, hx.2.1, holds_same hx.2.2 fun b hb => hag b fun eb => e (g.dis l0 l b0 hw0 (by rw [hl]; simp) hb0 (eb ▸ hb))⟩
end
end Go.Proofs.Yteabncomclgncaa
