/- The kernel, 21: what lies at a label told in another way. No program in sight. -/
import Derived.Test.YteabncomclgncaaK20
namespace Go.Proofs.Yteabncomclgncaa
set_option linter.unusedVariables false
set_option linter.unusedSimpArgs false
set_option linter.unusedSectionVars false
open Go.RowKit

section
variable {E : Base} {n L : Nat} {τ : List (Nat × AV)} {h : List (Nat × AO)} {F : World → Prop}
theorem Gam.tell {ρ : Env} {a : Act} {w : World} (g : Gam E ρ n L τ h F a w) (l : Nat) {o o' : AO} (hl : hk l h = some o) (hro : o'.isRo = o.isRo) (hlow : o.Low ρ L → o.holds ρ (ρ l) w → o'.Low ρ L) (hh : o.holds ρ (ρ l) w → o'.holds ρ (ρ l) w) : Gam E ρ n L τ ((l, o') :: h) F a w := by
  have hlive : ∀ k, hk k ((l, o') :: h) ≠ none → hk k h ≠ none := fun k hk1 => by
    rw [hk_cons] at hk1
    split at hk1
    · rename_i e; subst e; rw [hl]; simp
    · exact hk1
  have hw : ∀ k, wrA k ((l, o') :: h) → wrA k h := fun k ⟨o1, h1, h2⟩ => by
    rw [hk_cons] at h1
    split at h1
    · rename_i e
      subst e
      have e2 : o1 = o' := by cases o' <;> simp at h1 <;> exact h1.symm
      subst e2
      exact ⟨o, hl, hro ▸ h2⟩
    · exact ⟨o1, h1, h2⟩
  refine ⟨g.df, g.sz, g.tm, fun k o1 h1 => ?_, fun k k' b h1 h2 h3 h4 => g.dis k k' b (hw k h1) (hlive k' h2) h3 h4, fun w' hw' => g.fr w' ?_, g.ex, g.le, g.al⟩
  · rw [hk_cons] at h1
    split at h1
    · rename_i e
      subst e
      have e2 : o1 = o' := by cases o' <;> simp at h1 <;> exact h1.symm
      subst e2
      have := g.hp _ _ hl
      exact ⟨this.1, hlow this.2.1 this.2.2, hh this.2.2⟩
    · exact g.hp k o1 h1
  · refine hw'.mono fun b _ hd k hk1 => hd k (hw k hk1)
/-- cells that are bytes -/
theorem Gam.tellB {ρ : Env} {a : Act} {w : World} (g : Gam E ρ n L τ h F a w) (l : Nat) {xs : List AV} {T : TypeId} (p : List UInt8) (hl : hk l h = some (.cells xs T)) (hx : xs = avB p) : Gam E ρ n L τ ((l, .bytes p p.length T) :: h) F a w :=
  g.tell l hl rfl (fun _ _ => AO.Low.bytes _ _ _ _ _) (fun hh => cells_bytes hx hh)
section
variable {P : Program} {ops : Array Oper} {Q : Exit → Act → World → Prop} {rest : List Oper}
theorem R.tellB (l : Nat) {xs : List AV} {T : TypeId} (p : List UInt8) (hl : hk l h = some (.cells xs T)) (hx : xs = avB p) (k : R P ops Q none E n L τ ((l, .bytes p p.length T) :: h) F rest) : R P ops Q none E n L τ h F rest :=
  ⟨fun ρ a w g => k.out ρ a w (g.tellB l p hl hx)⟩
theorem C.tellB {c : Code} (l : Nat) {xs : List AV} {T : TypeId} (p : List UInt8) (hl : hk l h = some (.cells xs T)) (hx : xs = avB p) (k : C P c Q E n L τ ((l, .bytes p p.length T) :: h) F) : C P c Q E n L τ h F :=
  ⟨fun ρ a w g => k.out ρ a w (g.tellB l p hl hx)⟩
theorem X.tellB {e : Exit} (l : Nat) {xs : List AV} {T : TypeId} (p : List UInt8) (hl : hk l h = some (.cells xs T)) (hx : xs = avB p) (k : X Q e E n L τ ((l, .bytes p p.length T) :: h) F) : X Q e E n L τ h F :=
  ⟨fun ρ a w g => k.out ρ a w (g.tellB l p hl hx)⟩
/-- no block, no elements -/
theorem nil_bytes {p : List UInt8} {cap l : Nat} {T : TypeId} (hl : hk l h = some (.bytes p cap T)) (hn : ∃ ρ a w, Gam E ρ n L τ h F a w ∧ ρ l = none) : p = [] := by
  obtain ⟨ρ, a, w, g, hr⟩ := hn
  have := (g.hp _ _ hl).2.2
  rw [hr] at this
  rcases this.2 with ⟨_, hc⟩ | ⟨b, cur, h1, _⟩
  · exact List.length_eq_zero_iff.1 (by have := this.1; omega)
  · cases h1
theorem nil_ro {wd off m l : Nat} {f : Nat → List AV} (hl : hk l h = some (.ro wd off m f)) (hn : ∃ ρ a w, Gam E ρ n L τ h F a w ∧ ρ l = none) : m = 0 := by
  obtain ⟨ρ, a, w, g, hr⟩ := hn
  have := (g.hp _ _ hl).2.2
  rw [hr] at this
  rcases this with ⟨_, hc⟩ | ⟨b, cur, T, fr, h1, _⟩
  · exact hc
  · cases h1
end
end
end Go.Proofs.Yteabncomclgncaa
