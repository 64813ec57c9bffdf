/- Texts of the claim, merged: only what the theorem needs. -/
import Derived.Test.YtaieficgifingaaGreatDoorPPo
import Derived.LoopN
namespace Go.Proofs.YtaieficgifingaaGreatDoor
set_option linter.unusedVariables false
set_option linter.unusedSimpArgs false
set_option linter.unusedSectionVars false
open Go.RowKit
section
variable {P : Program} {Q : Exit → Act → World → Prop} {E : Base} {n L : Nat} {τ : List (Nat × AV)} {h : List (Nat × AO)} {F : World → Prop}
/-- at most m + 1 rounds -/
theorem C.rounds (m : Nat) {c : Code} (k : C P c (Exit.then (Code.rounds P c Q m) Q) E n L τ h F) : C P (.loop c) Q E n L τ h F := ⟨fun ρ a w g => wp_loop_rounds (m + 1) (k.out ρ a w g)⟩
theorem X.more {m : Nat} {c : Code} (k : C P c (Exit.then (Code.rounds P c Q m) Q) E n L τ h F) : X (Exit.then (Code.rounds P c Q (m + 1)) Q) .normal E n L τ h F := ⟨fun ρ a w g => k.out ρ a w g⟩
/-- ways meet behind x, which has been parted from what follows -/
theorem C.cuts {σ : Type} {x y : Code} (L2 : Nat) (Inv : σ → Prop) (T : σ → List (Nat × AV)) (H : σ → List (Nat × AO)) (kx : C P x (Exit.then (At E n L2 Inv T H F (fun _ => 0) 1) Q) E n L τ h F) (ky : ∀ s, Inv s → C P y Q E n L2 (T s) (H s) F) : C P x (Exit.then (y.wp P Q) Q) E n L τ h F :=
  ⟨fun ρ a w g => wp_mono (kx.out ρ a w g) fun e a' w' hq => by
    cases e with
    | normal =>
      obtain ⟨s', h1, h2, ρ', h3⟩ := hq
      exact (ky s' h1).out ρ' a' w' h3
    | exit id => exact hq
    | goto l => exact hq
    | ret => exact hq
    | panic ch => exact hq
    | outgrown => exact hq⟩
end
end Go.Proofs.YtaieficgifingaaGreatDoor
namespace Go.Proofs.YtaieficgifingaaGreatDoor
set_option linter.unusedVariables false
set_option linter.unusedSimpArgs false
open Go.RowKit
set_option maxRecDepth 100000
set_option maxHeartbeats 4000000
def letB (c : UInt8) : Bool := (decide (97 ≤ c.toNat) && decide (c.toNat ≤ 122)) || (decide (65 ≤ c.toNat) && decide (c.toNat ≤ 90))
def chrB (c : UInt8) : Bool := letB c || (decide (48 ≤ c.toNat) && decide (c.toNat ≤ 57)) || decide (c = 95) || decide (c = 45) || decide (c = 46)
def nameP (l : List UInt8) : Bool := decide (1 ≤ l.length) && decide (l.length ≤ 32) && letB (l.getD 0 0) && l.all chrB
theorem letter_spec (c : UInt8) : Spec Tryz.prog 75 [.raw (byteV c)] [] 0 (σ := Unit) (fun _ => True) (fun _ => .raw (.bool (letB c))) (fun _ => []) := by
  refine Spec.of Tryz.func75 rfl Tryz.ntmps75 rfl (bdl_nil _) fun ρ w => ?_
  unfold byteV letB
  generalize c.toNat = m
  rw [show decide (97 ≤ m) = decide ((97 : Int) ≤ (m : Nat)) from decide_eq_decide.2 (by omega), show decide (m ≤ 122) = decide (((m : Nat) : Int) ≤ 122) from decide_eq_decide.2 (by omega), show decide (65 ≤ m) = decide ((65 : Int) ≤ (m : Nat)) from decide_eq_decide.2 (by omega), show decide (m ≤ 90) = decide (((m : Nat) : Int) ≤ 90) from decide_eq_decide.2 (by omega)]
  refine sS_ ?_
  cases h1 : decide ((97 : Int) ≤ (m : Nat)) with
  | true =>
    refine sS_ ?_
    cases h2 : decide (((m : Nat) : Int) ≤ 122) with
    | true =>
      refine sS_ ?_
      refine X.fin ttok () [] trivial rfl rfl rfl hS5_ _ (by first | exact .inl rfl | exact .inr rfl)
    | false =>
      refine sS_ ?_
      cases h3 : decide ((65 : Int) ≤ (m : Nat)) with
      | true =>
        refine sS_ ?_
        refine X.fin ttok () [] trivial rfl rfl rfl hS5_ _ (by first | exact .inl rfl | exact .inr rfl)
      | false =>
        refine sS_ ?_
        refine X.fin ttok () [] trivial rfl rfl rfl hS5_ _ (by first | exact .inl rfl | exact .inr rfl)
  | false =>
    refine sS_ ?_
    cases h3 : decide ((65 : Int) ≤ (m : Nat)) with
    | true =>
      refine sS_ ?_
      refine X.fin ttok () [] trivial rfl rfl rfl hS5_ _ (by first | exact .inl rfl | exact .inr rfl)
    | false =>
      refine sS_ ?_
      refine X.fin ttok () [] trivial rfl rfl rfl hS5_ _ (by first | exact .inl rfl | exact .inr rfl)
theorem letterR_spec (c : UInt8) : Spec Tryz.prog 107 [.raw (byteV c)] [] 0 (σ := Unit) (fun _ => True) (fun _ => .raw (.bool (letB c))) (fun _ => []) := by
  refine Spec.of Tryz.func107 rfl Tryz.ntmps107 rfl (bdl_nil _) fun ρ w => ?_
  unfold byteV letB
  generalize c.toNat = m
  rw [show decide (97 ≤ m) = decide ((97 : Int) ≤ (m : Nat)) from decide_eq_decide.2 (by omega), show decide (m ≤ 122) = decide (((m : Nat) : Int) ≤ 122) from decide_eq_decide.2 (by omega), show decide (65 ≤ m) = decide ((65 : Int) ≤ (m : Nat)) from decide_eq_decide.2 (by omega), show decide (m ≤ 90) = decide (((m : Nat) : Int) ≤ 90) from decide_eq_decide.2 (by omega)]
  refine sS_ ?_
  cases h1 : decide ((97 : Int) ≤ (m : Nat)) with
  | true =>
    refine sS_ ?_
    cases h2 : decide (((m : Nat) : Int) ≤ 122) with
    | true =>
      refine sS_ ?_
      refine X.fin ttok () [] trivial rfl rfl rfl hS5_ _ (by first | exact .inl rfl | exact .inr rfl)
    | false =>
      refine sS_ ?_
      cases h3 : decide ((65 : Int) ≤ (m : Nat)) with
      | true =>
        refine sS_ ?_
        refine X.fin ttok () [] trivial rfl rfl rfl hS5_ _ (by first | exact .inl rfl | exact .inr rfl)
      | false =>
        refine sS_ ?_
        refine X.fin ttok () [] trivial rfl rfl rfl hS5_ _ (by first | exact .inl rfl | exact .inr rfl)
  | false =>
    refine sS_ ?_
    cases h3 : decide ((65 : Int) ≤ (m : Nat)) with
    | true =>
      refine sS_ ?_
      refine X.fin ttok () [] trivial rfl rfl rfl hS5_ _ (by first | exact .inl rfl | exact .inr rfl)
    | false =>
      refine sS_ ?_
      refine X.fin ttok () [] trivial rfl rfl rfl hS5_ _ (by first | exact .inl rfl | exact .inr rfl)
theorem allC_take {l : List UInt8} {i : Nat} (hi : l.length ≤ i) (h : ∀ j, j < i → chrB (l.getD j 0) = true) : l.all chrB = true := by
  rw [List.all_eq_true]
  intro x hx
  obtain ⟨j, hj, rfl⟩ := List.mem_iff_getElem.1 hx
  have := h j (by omega)
  rwa [List.getD_eq_getElem?_getD, List.getElem?_eq_getElem hj] at this
theorem not_allC {l : List UInt8} {i : Nat} (hi : i < l.length) (h : chrB (l.getD i 0) = false) : nameP l = false := by
  have : l.all chrB = false := by
    cases hh : l.all chrB with
    | false => rfl
    | true =>
      have := List.all_eq_true.1 hh _ (List.getElem_mem hi)
      rw [List.getD_eq_getElem?_getD, List.getElem?_eq_getElem hi] at h
      rw [← h]; exact this.symm
  unfold nameP
  rw [this, Bool.and_false]
theorem isName_spec (s : ByteArray) : Spec Tryz.prog 35 [.raw (.string s)] [] 0 (σ := Unit) (fun _ => True) (fun _ => .raw (.bool (nameP (strB s)))) (fun _ => []) := by
  refine Spec.of Tryz.func35 rfl Tryz.ntmps35 rfl (bdl_nil _) fun ρ w => ?_
  have hlen := strB_size s
  refine sS_ ?_
  by_cases h1 : 1 ≤ s.size
  · rw [decide_eq_false (show ¬ ((s.size : Nat) : Int) < 1 by omega)]
    refine sS_ ?_
    by_cases h2 : s.size ≤ 32
    · rw [decide_eq_false (show ¬ ((s.size : Nat) : Int) > 32 by omega)]
      refine sS_ ?_
      refine R.sx ttok 0 rfl rfl rfl rfl rfl rfl (by show 0 < (strB s).length; omega) ?_
      rw [show s.data.toList.getD 0 0 = (strB s).getD 0 0 from rfl]
      refine sS_ ?_
      refine R.cl [] (letter_spec ((strB s).getD 0 0)) Tryz.call75 hS8_ rfl rfl rfl (fun _ => rfl) rfl (by kernel_rfl) fun _ _ => ?_
      cases hl0 : letB ((strB s).getD 0 0) with
      | false =>
        rw [show nameP (strB s) = false by unfold nameP; rw [hl0]; simp]
        refine sS_ ?_
        refine X.fin ttok () [] trivial rfl rfl rfl hS5_ _ (by first | exact .inl rfl | exact .inr rfl)
      | true =>
        refine sS_ ?_
        refine C.loop (σ := Nat) (L2 := 0) (fun i => i ≤ s.size ∧ ∀ j, j < i → chrB ((strB s).getD j 0) = true) (fun i => [(0, .raw (.string s)), (20, .raw (.int .i64 (s.size : Nat))), (21, .raw (.int .i64 (i : Nat)))]) (fun _ => []) _ (fun i => s.size - i) [] 0 ⟨Nat.zero_le _, fun j h => absurd h (Nat.not_lt_zero j)⟩ rfl hS9_ HasH.nil rfl (fun _ h => h) ?_
        rintro i ⟨hi, hd⟩
        refine sS_ ?_
        by_cases hlt : i < s.size
        · rw [decide_eq_true (show ((i : Nat) : Int) < (s.size : Nat) by omega)]
          have hlt' : i < (strB s).length := by omega
          refine sS_ ?_
          refine R.sx ttok i rfl rfl rfl rfl rfl rfl hlt' ?_
          rw [show s.data.toList.getD i 0 = (strB s).getD i 0 from rfl]
          obtain ⟨c, hc⟩ : ∃ c, (strB s).getD i 0 = c := ⟨_, rfl⟩
          have hcN : c.toNat < 256 := c.toNat_lt
          have hcv : ∀ k : UInt8, ((((c.toNat : Nat) : Int) = (k.toNat : Nat)) ↔ c = k) := fun k => ⟨fun e => UInt8.toNat_inj.1 (by omega), fun e => by rw [e]⟩
          rw [hc]
          have hgo : chrB c = true → ∀ j, j < i + 1 → chrB ((strB s).getD j 0) = true := fun h j hj => by
            rcases Nat.lt_or_ge j i with h' | h'
            · exact hd j h'
            · obtain rfl : j = i := by omega
              rw [hc]; exact h
          have hst : chrB c = false → nameP (strB s) = false := fun h => not_allC hlt' (by rw [hc]; exact h)
          refine sS_ ?_
          refine R.cl [] (letter_spec c) Tryz.call75 hS8_ rfl rfl rfl (fun _ => rfl) rfl (by kernel_rfl) fun _ _ => ?_
          cases hl1 : letB c with
          | true =>
            refine sS_ ?_
            exact X.back [] (i + 1) ⟨by omega, hgo (by unfold chrB; rw [hl1]; simp)⟩ (by omega) rfl hS9_ hS7_ rfl (fun _ h => h)
          | false =>
            refine sS_ ?_
            by_cases g1 : c.toNat < 48
            · rw [decide_eq_true (show ((c.toNat : Nat) : Int) < 48 by omega)]
              have hb : (decide (48 ≤ c.toNat) && decide (c.toNat ≤ 57)) = false := by simp; omega
              refine sS_ ?_
              by_cases g3 : c = 95
              · have hl1 : decide (c = 95) = true := decide_eq_true g3
                rw [decide_eq_false (show ¬ (((c.toNat : Nat) : Int) ≠ 95) from fun h => h ((hcv 95).2 g3))]
                refine sS_ ?_
                exact X.back [] (i + 1) ⟨by omega, hgo (by unfold chrB; rw [hl1]; simp)⟩ (by omega) rfl hS9_ hS7_ rfl (fun _ h => h)
              · rw [decide_eq_true (show (((c.toNat : Nat) : Int) ≠ 95) from fun h => g3 ((hcv 95).1 h))]
                refine sS_ ?_
                by_cases g4 : c = 45
                · have hl1 : decide (c = 45) = true := decide_eq_true g4
                  rw [decide_eq_false (show ¬ (((c.toNat : Nat) : Int) ≠ 45) from fun h => h ((hcv 45).2 g4))]
                  refine sS_ ?_
                  exact X.back [] (i + 1) ⟨by omega, hgo (by unfold chrB; rw [hl1]; simp)⟩ (by omega) rfl hS9_ hS7_ rfl (fun _ h => h)
                · rw [decide_eq_true (show (((c.toNat : Nat) : Int) ≠ 45) from fun h => g4 ((hcv 45).1 h))]
                  refine sS_ ?_
                  by_cases g5 : c = 46
                  · have hl1 : decide (c = 46) = true := decide_eq_true g5
                    rw [decide_eq_false (show ¬ (((c.toNat : Nat) : Int) ≠ 46) from fun h => h ((hcv 46).2 g5))]
                    refine sS_ ?_
                    exact X.back [] (i + 1) ⟨by omega, hgo (by unfold chrB; rw [hl1]; simp)⟩ (by omega) rfl hS9_ hS7_ rfl (fun _ h => h)
                  · rw [decide_eq_true (show (((c.toNat : Nat) : Int) ≠ 46) from fun h => g5 ((hcv 46).1 h))]
                    rw [hst (by unfold chrB; rw [hl1, hb, decide_eq_false g3, decide_eq_false g4, decide_eq_false g5]; rfl)]
                    refine sS_ ?_
                    refine X.fin ttok () [] trivial rfl rfl rfl hS5_ _ (by first | exact .inl rfl | exact .inr rfl)
            · rw [decide_eq_false (show ¬ ((c.toNat : Nat) : Int) < 48 by omega)]
              refine sS_ ?_
              by_cases g2 : c.toNat > 57
              · rw [decide_eq_true (show ((c.toNat : Nat) : Int) > 57 by omega)]
                have hb : (decide (48 ≤ c.toNat) && decide (c.toNat ≤ 57)) = false := by simp; omega
                refine sS_ ?_
                by_cases g3 : c = 95
                · have hl1 : decide (c = 95) = true := decide_eq_true g3
                  rw [decide_eq_false (show ¬ (((c.toNat : Nat) : Int) ≠ 95) from fun h => h ((hcv 95).2 g3))]
                  refine sS_ ?_
                  exact X.back [] (i + 1) ⟨by omega, hgo (by unfold chrB; rw [hl1]; simp)⟩ (by omega) rfl hS9_ hS7_ rfl (fun _ h => h)
                · rw [decide_eq_true (show (((c.toNat : Nat) : Int) ≠ 95) from fun h => g3 ((hcv 95).1 h))]
                  refine sS_ ?_
                  by_cases g4 : c = 45
                  · have hl1 : decide (c = 45) = true := decide_eq_true g4
                    rw [decide_eq_false (show ¬ (((c.toNat : Nat) : Int) ≠ 45) from fun h => h ((hcv 45).2 g4))]
                    refine sS_ ?_
                    exact X.back [] (i + 1) ⟨by omega, hgo (by unfold chrB; rw [hl1]; simp)⟩ (by omega) rfl hS9_ hS7_ rfl (fun _ h => h)
                  · rw [decide_eq_true (show (((c.toNat : Nat) : Int) ≠ 45) from fun h => g4 ((hcv 45).1 h))]
                    refine sS_ ?_
                    by_cases g5 : c = 46
                    · have hl1 : decide (c = 46) = true := decide_eq_true g5
                      rw [decide_eq_false (show ¬ (((c.toNat : Nat) : Int) ≠ 46) from fun h => h ((hcv 46).2 g5))]
                      refine sS_ ?_
                      exact X.back [] (i + 1) ⟨by omega, hgo (by unfold chrB; rw [hl1]; simp)⟩ (by omega) rfl hS9_ hS7_ rfl (fun _ h => h)
                    · rw [decide_eq_true (show (((c.toNat : Nat) : Int) ≠ 46) from fun h => g5 ((hcv 46).1 h))]
                      rw [hst (by unfold chrB; rw [hl1, hb, decide_eq_false g3, decide_eq_false g4, decide_eq_false g5]; rfl)]
                      refine sS_ ?_
                      refine X.fin ttok () [] trivial rfl rfl rfl hS5_ _ (by first | exact .inl rfl | exact .inr rfl)
              · rw [decide_eq_false (show ¬ ((c.toNat : Nat) : Int) > 57 by omega)]
                have hl1 : (decide (48 ≤ c.toNat) && decide (c.toNat ≤ 57)) = true := by simp; omega
                refine sS_ ?_
                exact X.back [] (i + 1) ⟨by omega, hgo (by unfold chrB; rw [hl1]; simp)⟩ (by omega) rfl hS9_ hS7_ rfl (fun _ h => h)
        · rw [decide_eq_false (show ¬ ((i : Nat) : Int) < (s.size : Nat) by omega)]
          rw [show nameP (strB s) = true by unfold nameP; rw [hl0, allC_take (by omega) hd, decide_eq_true (show 1 ≤ (strB s).length by omega), decide_eq_true (show (strB s).length ≤ 32 by omega)]; rfl]
          refine sS_ ?_
          refine X.fin ttok () [] trivial rfl rfl rfl hS5_ _ (by first | exact .inl rfl | exact .inr rfl)
    · rw [decide_eq_true (show ((s.size : Nat) : Int) > 32 by omega)]
      rw [show nameP (strB s) = false by unfold nameP; rw [decide_eq_false (show ¬ (strB s).length ≤ 32 by omega)]; simp]
      refine sS_ ?_
      refine X.fin ttok () [] trivial rfl rfl rfl hS5_ _ (by first | exact .inl rfl | exact .inr rfl)
  · rw [decide_eq_true (show ((s.size : Nat) : Int) < 1 by omega)]
    rw [show nameP (strB s) = false by unfold nameP; rw [decide_eq_false (show ¬ 1 ≤ (strB s).length by omega)]; simp]
    refine sS_ ?_
    refine X.fin ttok () [] trivial rfl rfl rfl hS5_ _ (by first | exact .inl rfl | exact .inr rfl)
theorem isNameR_spec (s : ByteArray) : Spec Tryz.prog 68 [.raw (.string s)] [] 0 (σ := Unit) (fun _ => True) (fun _ => .raw (.bool (nameP (strB s)))) (fun _ => []) := by
  refine Spec.of Tryz.func68 rfl Tryz.ntmps68 rfl (bdl_nil _) fun ρ w => ?_
  have hlen := strB_size s
  refine sS_ ?_
  by_cases h1 : 1 ≤ s.size
  · rw [decide_eq_false (show ¬ ((s.size : Nat) : Int) < 1 by omega)]
    refine sS_ ?_
    by_cases h2 : s.size ≤ 32
    · rw [decide_eq_false (show ¬ ((s.size : Nat) : Int) > 32 by omega)]
      refine sS_ ?_
      refine R.sx ttok 0 rfl rfl rfl rfl rfl rfl (by show 0 < (strB s).length; omega) ?_
      rw [show s.data.toList.getD 0 0 = (strB s).getD 0 0 from rfl]
      refine sS_ ?_
      refine R.cl [] (letterR_spec ((strB s).getD 0 0)) Tryz.call107 hS8_ rfl rfl rfl (fun _ => rfl) rfl (by kernel_rfl) fun _ _ => ?_
      cases hl0 : letB ((strB s).getD 0 0) with
      | false =>
        rw [show nameP (strB s) = false by unfold nameP; rw [hl0]; simp]
        refine sS_ ?_
        refine X.fin ttok () [] trivial rfl rfl rfl hS5_ _ (by first | exact .inl rfl | exact .inr rfl)
      | true =>
        refine sS_ ?_
        refine C.loop (σ := Nat) (L2 := 0) (fun i => i ≤ s.size ∧ ∀ j, j < i → chrB ((strB s).getD j 0) = true) (fun i => [(0, .raw (.string s)), (3, .raw (.int .i64 (i : Nat)))]) (fun _ => []) _ (fun i => s.size - i) [] 0 ⟨Nat.zero_le _, fun j h => absurd h (Nat.not_lt_zero j)⟩ rfl hS9_ HasH.nil rfl (fun _ h => h) ?_
        rintro i ⟨hi, hd⟩
        refine sS_ ?_
        by_cases hlt : i < s.size
        · rw [decide_eq_true (show ((i : Nat) : Int) < (s.size : Nat) by omega)]
          have hlt' : i < (strB s).length := by omega
          refine sS_ ?_
          refine R.sx ttok i rfl rfl rfl rfl rfl rfl hlt' ?_
          rw [show s.data.toList.getD i 0 = (strB s).getD i 0 from rfl]
          obtain ⟨c, hc⟩ : ∃ c, (strB s).getD i 0 = c := ⟨_, rfl⟩
          have hcN : c.toNat < 256 := c.toNat_lt
          have hcv : ∀ k : UInt8, ((((c.toNat : Nat) : Int) = (k.toNat : Nat)) ↔ c = k) := fun k => ⟨fun e => UInt8.toNat_inj.1 (by omega), fun e => by rw [e]⟩
          rw [hc]
          have hgo : chrB c = true → ∀ j, j < i + 1 → chrB ((strB s).getD j 0) = true := fun h j hj => by
            rcases Nat.lt_or_ge j i with h' | h'
            · exact hd j h'
            · obtain rfl : j = i := by omega
              rw [hc]; exact h
          have hst : chrB c = false → nameP (strB s) = false := fun h => not_allC hlt' (by rw [hc]; exact h)
          refine sS_ ?_
          refine R.cl [] (letterR_spec c) Tryz.call107 hS8_ rfl rfl rfl (fun _ => rfl) rfl (by kernel_rfl) fun _ _ => ?_
          cases hl1 : letB c with
          | true =>
            refine sS_ ?_
            exact X.back [] (i + 1) ⟨by omega, hgo (by unfold chrB; rw [hl1]; simp)⟩ (by omega) rfl hS9_ hS7_ rfl (fun _ h => h)
          | false =>
            refine sS_ ?_
            by_cases g1 : c.toNat < 48
            · rw [decide_eq_true (show ((c.toNat : Nat) : Int) < 48 by omega)]
              have hb : (decide (48 ≤ c.toNat) && decide (c.toNat ≤ 57)) = false := by simp; omega
              refine sS_ ?_
              by_cases g3 : c = 95
              · have hl1 : decide (c = 95) = true := decide_eq_true g3
                rw [decide_eq_false (show ¬ (((c.toNat : Nat) : Int) ≠ 95) from fun h => h ((hcv 95).2 g3))]
                refine sS_ ?_
                exact X.back [] (i + 1) ⟨by omega, hgo (by unfold chrB; rw [hl1]; simp)⟩ (by omega) rfl hS9_ hS7_ rfl (fun _ h => h)
              · rw [decide_eq_true (show (((c.toNat : Nat) : Int) ≠ 95) from fun h => g3 ((hcv 95).1 h))]
                refine sS_ ?_
                by_cases g4 : c = 45
                · have hl1 : decide (c = 45) = true := decide_eq_true g4
                  rw [decide_eq_false (show ¬ (((c.toNat : Nat) : Int) ≠ 45) from fun h => h ((hcv 45).2 g4))]
                  refine sS_ ?_
                  exact X.back [] (i + 1) ⟨by omega, hgo (by unfold chrB; rw [hl1]; simp)⟩ (by omega) rfl hS9_ hS7_ rfl (fun _ h => h)
                · rw [decide_eq_true (show (((c.toNat : Nat) : Int) ≠ 45) from fun h => g4 ((hcv 45).1 h))]
                  refine sS_ ?_
                  by_cases g5 : c = 46
                  · have hl1 : decide (c = 46) = true := decide_eq_true g5
                    rw [decide_eq_false (show ¬ (((c.toNat : Nat) : Int) ≠ 46) from fun h => h ((hcv 46).2 g5))]
                    refine sS_ ?_
                    exact X.back [] (i + 1) ⟨by omega, hgo (by unfold chrB; rw [hl1]; simp)⟩ (by omega) rfl hS9_ hS7_ rfl (fun _ h => h)
                  · rw [decide_eq_true (show (((c.toNat : Nat) : Int) ≠ 46) from fun h => g5 ((hcv 46).1 h))]
                    rw [hst (by unfold chrB; rw [hl1, hb, decide_eq_false g3, decide_eq_false g4, decide_eq_false g5]; rfl)]
                    refine sS_ ?_
                    refine X.fin ttok () [] trivial rfl rfl rfl hS5_ _ (by first | exact .inl rfl | exact .inr rfl)
            · rw [decide_eq_false (show ¬ ((c.toNat : Nat) : Int) < 48 by omega)]
              refine sS_ ?_
              by_cases g2 : c.toNat > 57
              · rw [decide_eq_true (show ((c.toNat : Nat) : Int) > 57 by omega)]
                have hb : (decide (48 ≤ c.toNat) && decide (c.toNat ≤ 57)) = false := by simp; omega
                refine sS_ ?_
                by_cases g3 : c = 95
                · have hl1 : decide (c = 95) = true := decide_eq_true g3
                  rw [decide_eq_false (show ¬ (((c.toNat : Nat) : Int) ≠ 95) from fun h => h ((hcv 95).2 g3))]
                  refine sS_ ?_
                  exact X.back [] (i + 1) ⟨by omega, hgo (by unfold chrB; rw [hl1]; simp)⟩ (by omega) rfl hS9_ hS7_ rfl (fun _ h => h)
                · rw [decide_eq_true (show (((c.toNat : Nat) : Int) ≠ 95) from fun h => g3 ((hcv 95).1 h))]
                  refine sS_ ?_
                  by_cases g4 : c = 45
                  · have hl1 : decide (c = 45) = true := decide_eq_true g4
                    rw [decide_eq_false (show ¬ (((c.toNat : Nat) : Int) ≠ 45) from fun h => h ((hcv 45).2 g4))]
                    refine sS_ ?_
                    exact X.back [] (i + 1) ⟨by omega, hgo (by unfold chrB; rw [hl1]; simp)⟩ (by omega) rfl hS9_ hS7_ rfl (fun _ h => h)
                  · rw [decide_eq_true (show (((c.toNat : Nat) : Int) ≠ 45) from fun h => g4 ((hcv 45).1 h))]
                    refine sS_ ?_
                    by_cases g5 : c = 46
                    · have hl1 : decide (c = 46) = true := decide_eq_true g5
                      rw [decide_eq_false (show ¬ (((c.toNat : Nat) : Int) ≠ 46) from fun h => h ((hcv 46).2 g5))]
                      refine sS_ ?_
                      exact X.back [] (i + 1) ⟨by omega, hgo (by unfold chrB; rw [hl1]; simp)⟩ (by omega) rfl hS9_ hS7_ rfl (fun _ h => h)
                    · rw [decide_eq_true (show (((c.toNat : Nat) : Int) ≠ 46) from fun h => g5 ((hcv 46).1 h))]
                      rw [hst (by unfold chrB; rw [hl1, hb, decide_eq_false g3, decide_eq_false g4, decide_eq_false g5]; rfl)]
                      refine sS_ ?_
                      refine X.fin ttok () [] trivial rfl rfl rfl hS5_ _ (by first | exact .inl rfl | exact .inr rfl)
              · rw [decide_eq_false (show ¬ ((c.toNat : Nat) : Int) > 57 by omega)]
                have hl1 : (decide (48 ≤ c.toNat) && decide (c.toNat ≤ 57)) = true := by simp; omega
                refine sS_ ?_
                exact X.back [] (i + 1) ⟨by omega, hgo (by unfold chrB; rw [hl1]; simp)⟩ (by omega) rfl hS9_ hS7_ rfl (fun _ h => h)
        · rw [decide_eq_false (show ¬ ((i : Nat) : Int) < (s.size : Nat) by omega)]
          rw [show nameP (strB s) = true by unfold nameP; rw [hl0, allC_take (by omega) hd, decide_eq_true (show 1 ≤ (strB s).length by omega), decide_eq_true (show (strB s).length ≤ 32 by omega)]; rfl]
          refine sS_ ?_
          refine X.fin ttok () [] trivial rfl rfl rfl hS5_ _ (by first | exact .inl rfl | exact .inr rfl)
    · rw [decide_eq_true (show ((s.size : Nat) : Int) > 32 by omega)]
      rw [show nameP (strB s) = false by unfold nameP; rw [decide_eq_false (show ¬ (strB s).length ≤ 32 by omega)]; simp]
      refine sS_ ?_
      refine X.fin ttok () [] trivial rfl rfl rfl hS5_ _ (by first | exact .inl rfl | exact .inr rfl)
  · rw [decide_eq_true (show ((s.size : Nat) : Int) < 1 by omega)]
    rw [show nameP (strB s) = false by unfold nameP; rw [decide_eq_false (show ¬ 1 ≤ (strB s).length by omega)]; simp]
    refine sS_ ?_
    refine X.fin ttok () [] trivial rfl rfl rfl hS5_ _ (by first | exact .inl rfl | exact .inr rfl)
end Go.Proofs.YtaieficgifingaaGreatDoor
namespace Go.Proofs.YtaieficgifingaaGreatDoor
set_option linter.unusedVariables false
set_option linter.unusedSimpArgs false
open Go.RowKit
set_option maxRecDepth 100000
set_option maxHeartbeats 4000000
/-- a field of an operation: registers A, B, C; N: an argument, a comparison, how many; A: how many are left out -/
inductive PF where
  | a | b | c | g | h | m | s
abbrev pfT : TypeId := 132
abbrev PF.av : PF → List AV
  | .a => [.fn 76 [], .fn 77 [], .raw (.bool true)]
  | .b => [.fn 78 [], .fn 77 [], .raw (.bool true)]
  | .c => [.fn 79 [], .fn 77 [], .raw (.bool true)]
  | .g => [.fn 80 [], .fn 81 [], .raw (.bool false)]
  | .h => [.fn 80 [], .fn 82 [], .raw (.bool false)]
  | .m => [.fn 80 [], .fn 83 [], .raw (.bool false)]
  | .s => [.fn 76 [], .fn 84 [], .raw (.bool false)]
abbrev pfX (l : List PF) : List AV := l.flatMap PF.av
def pfs : Nat → List PF
  | 1 => [.a]
  | 2 => [.a, .g]
  | 3 => [.a, .b]
  | 4 => [.a, .b]
  | 5 => [.a]
  | 6 => [.a, .b, .c]
  | 7 => [.a, .b, .c]
  | 8 => [.a, .b, .c]
  | 9 => [.a, .b, .c]
  | 10 => [.b, .c, .h]
  | 11 => [.s, .b, .c, .h]
  | 12 => [.a, .b, .c, .m]
  | 13 => [.a, .b, .c, .m]
  | 14 => [.a, .b]
  | 15 => [.a]
  | _ => []
abbrev spA : List AV := [.raw (.slice none 0 0), .raw (.bool false), .sl 0 3 0 1 1, .raw (.bool true), .sl 1 3 0 2 2, .raw (.bool false), .sl 2 3 0 2 2, .raw (.bool false), .sl 4 3 0 2 2, .raw (.bool false), .sl 5 3 0 1 1, .raw (.bool false), .sl 7 3 0 3 3, .raw (.bool false), .sl 8 3 0 3 3, .raw (.bool false), .sl 9 3 0 3 3, .raw (.bool false), .sl 10 3 0 3 3, .raw (.bool false), .sl 11 3 0 3 3, .raw (.bool false), .sl 12 3 0 4 4, .raw (.bool false), .sl 13 3 0 4 4, .raw (.bool false), .sl 14 3 0 4 4, .raw (.bool false), .sl 3 3 0 2 2, .raw (.bool false), .sl 6 3 0 1 1, .raw (.bool false), .raw (.slice none 0 0), .raw (.bool false)]
abbrev spH : List (Nat × AO) := [(0, .cells (pfX [.a]) pfT), (1, .cells (pfX [.a, .g]) pfT), (2, .cells (pfX [.a, .b]) pfT), (3, .cells (pfX [.a, .b]) pfT), (4, .cells (pfX [.a, .b]) pfT), (5, .cells (pfX [.a]) pfT), (6, .cells (pfX [.a]) pfT), (7, .cells (pfX [.a, .b, .c]) pfT), (8, .cells (pfX [.a, .b, .c]) pfT), (9, .cells (pfX [.a, .b, .c]) pfT), (10, .cells (pfX [.a, .b, .c]) pfT), (11, .cells (pfX [.b, .c, .h]) pfT), (12, .cells (pfX [.s, .b, .c, .h]) pfT), (13, .cells (pfX [.a, .b, .c, .m]) pfT), (14, .cells (pfX [.a, .b, .c, .m]) pfT)]
def PF.val (x : Ins) : PF → Int
  | .a => x.a
  | .b => x.b
  | .c => x.c
  | .g => x.n
  | .h => x.n
  | .m => x.n
  | .s => x.a
def PF.zero (x : Ins) : PF → Ins
  | .a => { x with a := 0 }
  | .b => { x with b := 0 }
  | .c => { x with c := 0 }
  | .g => { x with n := 0 }
  | .h => { x with n := 0 }
  | .m => { x with n := 0 }
  | .s => { x with a := 0 }
def regK (v : Int) : Bool := decide (0 ≤ v) && decide (v < 16)
def PF.ok (ar : Int) (n i : Nat) (v : Int) : PF → Bool
  | .a => regK v
  | .b => regK v
  | .c => regK v
  | .g => decide (0 ≤ v) && decide (v < ar)
  | .h => decide (1 ≤ v) && decide (v ≤ 6)
  | .m => decide (1 ≤ v) && decide (v ≤ 64)
  | .s => decide (1 ≤ v) && decide (v < (n : Nat) - (i : Nat))
def zeroN (l : List PF) (x : Ins) : Ins := l.foldl (fun y p => p.zero y) x
def insV0 (v : Bool) (y : Ins) : Ins := if v then { y with k := 0, i := 0, t := noT0 } else y
def nilI (y : Ins) : Bool := decide (y.o = 0) && (decide (y.a = 0) && (decide (y.b = 0) && (decide (y.c = 0) && (decide (y.n = 0) && (decide (y.k = 0) && (decide (y.i = 0) && decide (strB y.t = [])))))))
/-- why a value is none -/
def vchk (k i : Int) (t : ByteArray) : Int := if k < 0 ∨ 2 < k ∨ (k ≠ 1 ∧ i ≠ 0) ∨ (k ≠ 2 ∧ strB t ≠ []) then 14 else if 256 < t.size then 4 else 0
def insL (ar : Int) (n i : Nat) (l : List PF) (v : Bool) (x : Ins) : Int :=
  if l.all (fun p => p.ok ar n i (p.val x)) = true then
    if nilI (insV0 v (zeroN l { x with o := 0 })) = true then (if v = true then vchk x.k x.i x.t else 0) else 16
  else 16
/-- why an instruction may not stand at a place -/
def insE (ar : Int) (n i : Nat) (x : Ins) : Int := if x.o < 1 ∨ 16 < x.o then 16 else insL ar n i (pfs x.o.toNat) (decide (x.o = 1)) x
theorem shapesP_spec : Spec Tryz.prog 36 [] [] 15 (σ := Unit) (fun _ => True) (fun _ => .agg spA) (fun _ => spH) := by
  refine Spec.of Tryz.func36 rfl Tryz.ntmps36 rfl (bdl_nil _) fun ρ w => ?_
  repeat (first | refine C.seq ?_ | refine C.region ?_ | refine R.zb ttok ?_ | refine R.zu ttok ?_ | refine R.zc ttok ?_ | refine R.za ttok ?_ | refine R.zx ?_ | refine R.zl ttok ?_ | refine R.zs ttok ?_ | refine R.z ttok ?_ | refine R.zk ?_ | refine R.zn ?_ | refine R.done ?_ | refine X.then ?_ | refine C.block ?_ | refine C.ret ?_ | refine C.skip ?_ | refine C.exit ?_ | refine X.pass_ret ?_ | refine X.pass_exit ?_ | refine X.block_normal ?_ | refine X.block_ret ?_ | refine X.block_exit ?_ | refine C.zt ?_ | refine C.zf ?_ | refine X.zo ?_ | refine C.rounds 9 ?_ | refine X.more ?_ | refine R.ixa ttok 1 rfl rfl rfl rfl rfl (by kernel_rfl) rfl (by decide) ?_ | refine R.ixa ttok 2 rfl rfl rfl rfl rfl (by kernel_rfl) rfl (by decide) ?_ | refine R.ixa ttok 3 rfl rfl rfl rfl rfl (by kernel_rfl) rfl (by decide) ?_ | refine R.ixa ttok 14 rfl rfl rfl rfl rfl (by kernel_rfl) rfl (by decide) ?_ | refine R.ixa ttok 4 rfl rfl rfl rfl rfl (by kernel_rfl) rfl (by decide) ?_ | refine R.ixa ttok 5 rfl rfl rfl rfl rfl (by kernel_rfl) rfl (by decide) ?_ | refine R.ixa ttok 15 rfl rfl rfl rfl rfl (by kernel_rfl) rfl (by decide) ?_ | refine R.ixa ttok 6 rfl rfl rfl rfl rfl (by kernel_rfl) rfl (by decide) ?_ | refine R.ixa ttok 7 rfl rfl rfl rfl rfl (by kernel_rfl) rfl (by decide) ?_ | refine R.ixa ttok 8 rfl rfl rfl rfl rfl (by kernel_rfl) rfl (by decide) ?_ | refine R.ixa ttok 9 rfl rfl rfl rfl rfl (by kernel_rfl) rfl (by decide) ?_ | refine R.ixa ttok 10 rfl rfl rfl rfl rfl (by kernel_rfl) rfl (by decide) ?_ | refine R.ixa ttok 11 rfl rfl rfl rfl rfl (by kernel_rfl) rfl (by decide) ?_ | refine R.ixa ttok 12 rfl rfl rfl rfl rfl (by kernel_rfl) rfl (by decide) ?_ | refine R.ixa ttok 13 rfl rfl rfl rfl rfl (by kernel_rfl) rfl (by decide) ?_ | refine R.ix ttok 0 rfl rfl rfl rfl rfl (by kernel_rfl) rfl (by decide) trivial rfl ?_ | refine R.ix ttok 1 rfl rfl rfl rfl rfl (by kernel_rfl) rfl (by decide) trivial rfl ?_ | refine R.ix ttok 2 rfl rfl rfl rfl rfl (by kernel_rfl) rfl (by decide) trivial rfl ?_ | refine R.ix ttok 3 rfl rfl rfl rfl rfl (by kernel_rfl) rfl (by decide) trivial rfl ?_)
  refine X.fin ttok () [(0, 9), (1, 10), (2, 12), (3, 13), (4, 14), (5, 16), (6, 17), (7, 19), (8, 20), (9, 21), (10, 22), (11, 23), (12, 24), (13, 26), (14, 27)] trivial rfl rfl rfl hS5_ _ (by first | exact .inl rfl | exact .inr rfl)
theorem pA_spec : Spec Tryz.prog 76 [.ptr 0 0 0 0] [anyO] 1 (σ := Unit) (fun _ => True) (fun _ => .ptr 0 0 0 1) (fun _ => []) := by
  refine Spec.of Tryz.func76 rfl Tryz.ntmps76 rfl (bdl_cons (any_bd _) (bdl_nil _)) fun ρ w => ?_
  refine sS_ ?_
  refine X.fin ttok () [] trivial rfl rfl rfl hS5_ _ (by first | exact .inl rfl | exact .inr rfl)
theorem pB_spec : Spec Tryz.prog 78 [.ptr 0 0 0 0] [anyO] 1 (σ := Unit) (fun _ => True) (fun _ => .ptr 0 0 0 2) (fun _ => []) := by
  refine Spec.of Tryz.func78 rfl Tryz.ntmps78 rfl (bdl_cons (any_bd _) (bdl_nil _)) fun ρ w => ?_
  refine sS_ ?_
  refine X.fin ttok () [] trivial rfl rfl rfl hS5_ _ (by first | exact .inl rfl | exact .inr rfl)
theorem pC_spec : Spec Tryz.prog 79 [.ptr 0 0 0 0] [anyO] 1 (σ := Unit) (fun _ => True) (fun _ => .ptr 0 0 0 3) (fun _ => []) := by
  refine Spec.of Tryz.func79 rfl Tryz.ntmps79 rfl (bdl_cons (any_bd _) (bdl_nil _)) fun ρ w => ?_
  refine sS_ ?_
  refine X.fin ttok () [] trivial rfl rfl rfl hS5_ _ (by first | exact .inl rfl | exact .inr rfl)
theorem pN_spec : Spec Tryz.prog 80 [.ptr 0 0 0 0] [anyO] 1 (σ := Unit) (fun _ => True) (fun _ => .ptr 0 0 0 4) (fun _ => []) := by
  refine Spec.of Tryz.func80 rfl Tryz.ntmps80 rfl (bdl_cons (any_bd _) (bdl_nil _)) fun ρ w => ?_
  refine sS_ ?_
  refine X.fin ttok () [] trivial rfl rfl rfl hS5_ _ (by first | exact .inl rfl | exact .inr rfl)
theorem mReg_spec (v i : Int) : Spec Tryz.prog 77 [.raw (.int .i64 v), .ptr 0 0 0 0, .raw (.int .i64 i)] [anyO] 1 (σ := Unit) (fun _ => True) (fun _ => .raw (.bool (regK v))) (fun _ => []) := by
  refine Spec.of Tryz.func77 rfl Tryz.ntmps77 rfl (bdl_cons (any_bd _) (bdl_nil _)) fun ρ w => ?_
  unfold regK
  refine sS_ ?_
  cases h1 : decide ((0 : Int) ≤ v) with
  | false =>
    refine sS_ ?_
    refine X.fin ttok () [] trivial rfl rfl rfl hS5_ _ (by first | exact .inl rfl | exact .inr rfl)
  | true =>
    refine sS_ ?_
    refine X.fin ttok () [] trivial rfl rfl rfl hS5_ _ (by first | exact .inl rfl | exact .inr rfl)
theorem mHow_spec (v i : Int) : Spec Tryz.prog 82 [.raw (.int .i64 v), .ptr 0 0 0 0, .raw (.int .i64 i)] [anyO] 1 (σ := Unit) (fun _ => True) (fun _ => .raw (.bool (PF.h.ok 0 0 0 v))) (fun _ => []) := by
  refine Spec.of Tryz.func82 rfl Tryz.ntmps82 rfl (bdl_cons (any_bd _) (bdl_nil _)) fun ρ w => ?_
  unfold PF.ok
  refine sS_ ?_
  cases h1 : decide ((1 : Int) ≤ v) with
  | false =>
    refine sS_ ?_
    refine X.fin ttok () [] trivial rfl rfl rfl hS5_ _ (by first | exact .inl rfl | exact .inr rfl)
  | true =>
    refine sS_ ?_
    refine X.fin ttok () [] trivial rfl rfl rfl hS5_ _ (by first | exact .inl rfl | exact .inr rfl)
theorem mMany_spec (v i : Int) : Spec Tryz.prog 83 [.raw (.int .i64 v), .ptr 0 0 0 0, .raw (.int .i64 i)] [anyO] 1 (σ := Unit) (fun _ => True) (fun _ => .raw (.bool (PF.m.ok 0 0 0 v))) (fun _ => []) := by
  refine Spec.of Tryz.func83 rfl Tryz.ntmps83 rfl (bdl_cons (any_bd _) (bdl_nil _)) fun ρ w => ?_
  unfold PF.ok
  refine sS_ ?_
  cases h1 : decide ((1 : Int) ≤ v) with
  | false =>
    refine sS_ ?_
    refine X.fin ttok () [] trivial rfl rfl rfl hS5_ _ (by first | exact .inl rfl | exact .inr rfl)
  | true =>
    refine sS_ ?_
    refine X.fin ttok () [] trivial rfl rfl rfl hS5_ _ (by first | exact .inl rfl | exact .inr rfl)
abbrev roP (nm : ByteArray) (ar : Int) (cd : AV) : AO := .ro 0 0 1 (fun _ => prA nm ar cd)
theorem mArg_spec (v i : Int) (nm : ByteArray) (ar : Int) (o n c : Nat) : Spec Tryz.prog 81 [.raw (.int .i64 v), .ptr 0 0 0 0, .raw (.int .i64 i)] [roP nm ar (.sl 1 8 o n c), anyO] 2 (σ := Unit) (fun _ => True) (fun _ => .raw (.bool (PF.g.ok ar 0 0 v))) (fun _ => []) := by
  refine Spec.of Tryz.func81 rfl Tryz.ntmps81 rfl (bdl_cons (roA_bd rfl) (bdl_cons (any_bd _) (bdl_nil _))) fun ρ w => ?_
  unfold PF.ok
  refine sS_ ?_
  cases h1 : decide ((0 : Int) ≤ v) with
  | false =>
    refine sS_ ?_
    refine X.fin ttok () [] trivial rfl rfl rfl hS5_ _ (by first | exact .inl rfl | exact .inr rfl)
  | true =>
    refine sS_ ?_
    refine R.ldo (v := .raw (.int .i64 ar)) ttok rfl rfl rfl rfl rfl (by kernel_rfl) Nat.one_pos ?_
    refine sS_ ?_
    refine X.fin ttok () [] trivial rfl rfl rfl hS5_ _ (by first | exact .inl rfl | exact .inr rfl)
theorem mSkip_spec (v : Int) (i : Nat) (nm : ByteArray) (ar : Int) (o n c : Nat) (hn : n ≤ 1000000) (hi : i ≤ 1000000) : Spec Tryz.prog 84 [.raw (.int .i64 v), .ptr 0 0 0 0, .raw (.int .i64 (i : Nat))] [roP nm ar (.sl 1 8 o n c), anyO] 2 (σ := Unit) (fun _ => True) (fun _ => .raw (.bool (PF.s.ok ar n i v))) (fun _ => []) := by
  refine Spec.of Tryz.func84 rfl Tryz.ntmps84 rfl (bdl_cons (roA_bd rfl) (bdl_cons (any_bd _) (bdl_nil _))) fun ρ w => ?_
  unfold PF.ok
  refine sS_ ?_
  cases h1 : decide ((1 : Int) ≤ v) with
  | false =>
    refine sS_ ?_
    refine X.fin ttok () [] trivial rfl rfl rfl hS5_ _ (by first | exact .inl rfl | exact .inr rfl)
  | true =>
    refine sS_ ?_
    refine R.ldo (v := .sl 1 8 o n c) ttok rfl rfl rfl rfl rfl (by kernel_rfl) Nat.one_pos ?_
    refine sS_ ?_
    refine X.fin ttok () [] trivial rfl rfl rfl hS5_ _ (by first | exact .inl rfl | exact .inr rfl)
end Go.Proofs.YtaieficgifingaaGreatDoor
namespace Go.Proofs.YtaieficgifingaaGreatDoor
set_option linter.unusedVariables false
set_option linter.unusedSimpArgs false
open Go.RowKit
set_option maxRecDepth 100000
set_option maxHeartbeats 8000000
theorem flat_drop {α : Type} (f : α → List AV) (k : Nat) (hk : ∀ x, (f x).length = k) : ∀ (l : List α) (j : Nat) (p : α), l[j]? = some p → ((l.flatMap f).drop (j * k)).take k = f p
  | [], j, p, h => by simp at h
  | x :: r, 0, p, h => by
    simp at h
    subst h
    rw [Nat.zero_mul, List.drop_zero, List.flatMap_cons, List.take_append_of_le_length (by rw [hk]; exact Nat.le_refl _), List.take_of_length_le (by rw [hk]; exact Nat.le_refl _)]
  | x :: r, j + 1, p, h => by
    rw [List.flatMap_cons, show (j + 1) * k = (f x).length + j * k by rw [hk, Nat.succ_mul, Nat.add_comm], ← List.drop_drop, List.drop_left]
    exact flat_drop f k hk r j p (by simpa using h)
def pfF (l : List PF) (j : Nat) : List AV := ((pfX l).drop (j * 3)).take 3
abbrev roF (l : List PF) : AO := .ro 3 0 l.length (pfF l)
theorem bds_of {L : Nat} : ∀ (xs : List AV), (∀ x ∈ xs, x.bd L = true) → AV.bds L xs = true
  | [], _ => rfl
  | x :: r, h => by
    show (x.bd L && AV.bds L r) = true
    rw [h x (by simp), bds_of r fun y hy => h y (by simp [hy])]
    rfl
theorem pf_bd (L : Nat) (l : List PF) : (roF l).Bd L := fun i _ => bds_of _ fun x hx => by
  have hx := List.mem_of_mem_drop (List.mem_of_mem_take hx)
  obtain ⟨p, _, hp⟩ := List.mem_flatMap.1 hx
  cases p <;> (simp [PF.av] at hp; rcases hp with rfl | rfl | rfl <;> rfl)
theorem pf_ren (r : Nat → Nat) (l : List PF) : roF l = (roF l).ren r := by
  show AO.ro 3 0 l.length (pfF l) = AO.ro 3 0 l.length (fun i => AV.rens r (pfF l i))
  congr 1
  funext i
  rw [rens_map]
  refine ((List.map_congr_left (g := id) fun x hx => ?_).trans (List.map_id _)).symm
  have hx := List.mem_of_mem_drop (List.mem_of_mem_take hx)
  obtain ⟨p, _, hp⟩ := List.mem_flatMap.1 hx
  cases p <;> (simp [PF.av] at hp; rcases hp with rfl | rfl | rfl <;> rfl)
theorem pfF_at {l : List PF} {j : Nat} {p : PF} (h : l[j]? = some p) : pfF l j = p.av := flat_drop PF.av 3 (fun x => by cases x <;> rfl) l j p h
def insD : Ins := ⟨0, 0, 0, 0, 0, 0, 0, noT0⟩
def insF (L : List Ins) (i : Nat) : List AV := insA (L.getD i insD)
abbrev roI (o : Nat) (L : List Ins) : AO := .ro 8 o L.length (insF L)
abbrev valT : TypeId := 40
abbrev inT : TypeId := 42
theorem val_eq (k k' i i' : Int) (t t' : ByteArray) : eqA tt 6 valT (.agg [.raw (.int .i64 k), .raw (.int .i64 i), .raw (.string t)]) (.agg [.raw (.int .i64 k'), .raw (.int .i64 i'), .raw (.string t')]) = some (decide (k = k') && (decide (i = i') && (decide (strB t = strB t') && true))) := by
  rw [← eqS]
  rfl
theorem ins_eq (x y : Ins) : eqA tt 6 inT (.agg (insA x)) (.agg (insA y)) = some (decide (x.o = y.o) && (decide (x.a = y.a) && (decide (x.b = y.b) && (decide (x.c = y.c) && (decide (x.n = y.n) && ((decide (x.k = y.k) && (decide (x.i = y.i) && (decide (strB x.t = strB y.t) && true))) && true)))))) := by
  rw [← eqS]
  rfl
theorem nil_eq (y : Ins) : eqA tt 6 inT (.agg (insA y)) (.agg (insA insD)) = some (nilI y) := by
  rw [ins_eq]
  unfold nilI
  rw [Bool.and_true, Bool.and_true]
  rfl
theorem datumC_spec (k i : Int) (t : ByteArray) : Spec Tryz.prog 85 [.agg [.raw (.int .i64 k), .raw (.int .i64 i), .raw (.string t)]] [] 0 (σ := Unit) (fun _ => True) (fun _ => .raw (.int .i64 (vchk k i t))) (fun _ => []) := by
  refine Spec.of Tryz.func85 rfl Tryz.ntmps85 rfl (bdl_nil _) fun ρ w => ?_
  refine sS_ ?_
  by_cases k0 : k = 0
  · subst k0
    have e1 : (decide ((0 : Int) = 0) && (decide (i = 0) && (decide (strB t = strB ⟨#[]⟩) && true))) = (decide (i = 0) && decide (strB t = [])) := by rw [Bool.and_true]; rfl
    have f1 : (decide (i = 0) && decide (strB t = [])) = false → vchk 0 i t = 14 := fun h => if_pos (by
      by_cases hi : i = 0
      · exact .inr (.inr (.inr ⟨by decide, by rw [decide_eq_true hi, Bool.true_and] at h; exact of_decide_eq_false h⟩))
      · exact .inr (.inr (.inl ⟨by decide, hi⟩)))
    have f2 : (decide (i = 0) && decide (strB t = [])) = true → vchk 0 i t = if 256 < t.size then 4 else 0 := fun h => if_neg (by
      rw [Bool.and_eq_true, decide_eq_true_eq, decide_eq_true_eq] at h
      rintro (h' | h' | ⟨_, h'⟩ | ⟨_, h'⟩)
      · omega
      · omega
      · exact h' h.1
      · exact h' h.2)
    refine sS_ ?_
    refine R.nes ttok _ rfl rfl (by kernel_rfl) (by kernel_rfl) (val_eq _ _ _ _ _ _) rfl (by kernel_rfl) ?_
    rw [e1]
    refine sS_ ?_
    cases hr : (decide (i = 0) && decide (strB t = [])) with
    | false =>
      refine sS_ ?_
      rw [f1 hr]
      refine X.fin ttok () [] trivial rfl rfl rfl hS5_ _ (by first | exact .inl rfl | exact .inr rfl)
    | true =>
      refine sS_ ?_
      by_cases h3 : 256 < t.size
      · rw [decide_eq_true (show (t.size : Int) > 256 by omega)]
        refine sS_ ?_
        rw [f2 hr, if_pos h3]
        refine X.fin ttok () [] trivial rfl rfl rfl hS5_ _ (by first | exact .inl rfl | exact .inr rfl)
      · rw [decide_eq_false (show ¬ (t.size : Int) > 256 by omega)]
        refine sS_ ?_
        rw [f2 hr, if_neg h3]
        refine X.fin ttok () [] trivial rfl rfl rfl hS5_ _ (by first | exact .inl rfl | exact .inr rfl)
  · rw [decide_eq_false k0]
    refine sS_ ?_
    by_cases k1 : k = 1
    · subst k1
      have e1 : (decide ((1 : Int) = 1) && (decide (i = i) && (decide (strB t = strB ⟨#[]⟩) && true))) = decide (strB t = []) := by rw [Bool.and_true, decide_eq_true (rfl : i = i)]; rfl
      have f1 : decide (strB t = []) = false → vchk 1 i t = 14 := fun h => if_pos (.inr (.inr (.inr ⟨by decide, of_decide_eq_false h⟩)))
      have f2 : decide (strB t = []) = true → vchk 1 i t = if 256 < t.size then 4 else 0 := fun h => if_neg (by
        have h := of_decide_eq_true h
        rintro (h' | h' | ⟨h', _⟩ | ⟨_, h'⟩)
        · omega
        · omega
        · exact h' rfl
        · exact h' h)
      refine sS_ ?_
      refine R.nes ttok _ rfl rfl (by kernel_rfl) (by kernel_rfl) (val_eq _ _ _ _ _ _) rfl (by kernel_rfl) ?_
      rw [e1]
      refine sS_ ?_
      cases hr : decide (strB t = []) with
      | false =>
        refine sS_ ?_
        rw [f1 hr]
        refine X.fin ttok () [] trivial rfl rfl rfl hS5_ _ (by first | exact .inl rfl | exact .inr rfl)
      | true =>
        refine sS_ ?_
        by_cases h3 : 256 < t.size
        · rw [decide_eq_true (show (t.size : Int) > 256 by omega)]
          refine sS_ ?_
          rw [f2 hr, if_pos h3]
          refine X.fin ttok () [] trivial rfl rfl rfl hS5_ _ (by first | exact .inl rfl | exact .inr rfl)
        · rw [decide_eq_false (show ¬ (t.size : Int) > 256 by omega)]
          refine sS_ ?_
          rw [f2 hr, if_neg h3]
          refine X.fin ttok () [] trivial rfl rfl rfl hS5_ _ (by first | exact .inl rfl | exact .inr rfl)
    · rw [decide_eq_false k1]
      refine sS_ ?_
      by_cases k2 : k = 2
      · subst k2
        have e1 : (decide ((2 : Int) = 2) && (decide (i = 0) && (decide (strB t = strB t) && true))) = decide (i = 0) := by rw [Bool.and_true, decide_eq_true (rfl : strB t = strB t), Bool.and_true]; rfl
        have f1 : decide (i = 0) = false → vchk 2 i t = 14 := fun h => if_pos (.inr (.inr (.inl ⟨by decide, of_decide_eq_false h⟩)))
        have f2 : decide (i = 0) = true → vchk 2 i t = if 256 < t.size then 4 else 0 := fun h => if_neg (by
          have h := of_decide_eq_true h
          rintro (h' | h' | ⟨_, h'⟩ | ⟨h', _⟩)
          · omega
          · omega
          · exact h' h
          · exact h' rfl)
        refine sS_ ?_
        refine R.nes ttok _ rfl rfl (by kernel_rfl) (by kernel_rfl) (val_eq _ _ _ _ _ _) rfl (by kernel_rfl) ?_
        rw [e1]
        refine sS_ ?_
        cases hr : decide (i = 0) with
        | false =>
          refine sS_ ?_
          rw [f1 hr]
          refine X.fin ttok () [] trivial rfl rfl rfl hS5_ _ (by first | exact .inl rfl | exact .inr rfl)
        | true =>
          refine sS_ ?_
          by_cases h3 : 256 < t.size
          · rw [decide_eq_true (show (t.size : Int) > 256 by omega)]
            refine sS_ ?_
            rw [f2 hr, if_pos h3]
            refine X.fin ttok () [] trivial rfl rfl rfl hS5_ _ (by first | exact .inl rfl | exact .inr rfl)
          · rw [decide_eq_false (show ¬ (t.size : Int) > 256 by omega)]
            refine sS_ ?_
            rw [f2 hr, if_neg h3]
            refine X.fin ttok () [] trivial rfl rfl rfl hS5_ _ (by first | exact .inl rfl | exact .inr rfl)
      · rw [decide_eq_false k2]
        refine sS_ ?_
        rw [show vchk k i t = 14 from if_pos (by omega)]
        refine X.fin ttok () [] trivial rfl rfl rfl hS5_ _ (by first | exact .inl rfl | exact .inr rfl)
theorem insL_no {ar : Int} {n i : Nat} {l : List PF} {v : Bool} {x : Ins} {j : Nat} {p : PF} (h : l[j]? = some p) (hp : p.ok ar n i (p.val x) = false) : insL ar n i l v x = 16 := by
  unfold insL
  rw [if_neg]
  intro h2
  have := List.all_eq_true.1 h2 p (List.mem_of_getElem? h)
  rw [hp] at this
  cases this
theorem insL_all {ar : Int} {n i : Nat} {l : List PF} {v : Bool} {x : Ins} {j : Nat} (hj : l.length ≤ j) (h : ∀ k p, k < j → l[k]? = some p → p.ok ar n i (p.val x) = true) : insL ar n i l v x = if nilI (insV0 v (zeroN (l.take j) { x with o := 0 })) = true then (if v = true then vchk x.k x.i x.t else 0) else 16 := by
  unfold insL
  rw [if_pos, List.take_of_length_le hj]
  rw [List.all_eq_true]
  intro p hp
  obtain ⟨k, hk, he⟩ := List.mem_iff_getElem.1 hp
  exact h k p (by omega) (by rw [List.getElem?_eq_getElem hk, he])
theorem zero_snoc {l : List PF} {j : Nat} {p : PF} (h : l[j]? = some p) (x : Ins) : zeroN (l.take (j + 1)) x = p.zero (zeroN (l.take j) x) := by
  unfold zeroN
  rw [List.take_add_one, h, List.foldl_append]
  rfl
theorem pfs_len (k : Nat) : (pfs k).length ≤ 4 := by
  unfold pfs
  split <;> decide
structure IC where
  l : List PF
  v : Bool
theorem hS3_ {P : Prop} (h : P := by repeat (first | exact HasH.nil | refine HasH.same rfl rfl rfl trivial ?_ | refine HasH.same rfl rfl rfl rfl ?_ | refine HasH.same rfl rfl rfl (fun _ _ => rfl) ?_ | refine HasH.same rfl (pf_ren _ _) rfl (pf_bd _ _) ?_ | refine HasH.same rfl rfl rfl (roA_bd rfl) ?_)) : P := h
theorem hS4_ {P : Prop} (h : P := by repeat (first | exact HasIn.nil | refine HasIn.same rfl rfl ?_ | refine HasIn.roq rfl rfl ?_ | refine HasIn.any rfl ?_ | refine HasIn.other rfl id (fun ρ x w hh => ro_any hh) ?_ | refine HasIn.roA rfl rfl ?_ | refine HasIn.roAp rfl rfl ?_)) : P := h
theorem instrP_spec (nm : ByteArray) (ar : Int) (L : List Ins) (o c i : Nat) (hL : L.length ≤ 1000000) (hi : i < L.length) : Spec Tryz.prog 37 [.ptr 15 0 0 0, .ptr 16 0 0 0, .raw (.int .i64 (i : Nat))] [roF [.a], roF [.a, .g], roF [.a, .b], roF [.a, .b], roF [.a, .b], roF [.a], roF [.a], roF [.a, .b, .c], roF [.a, .b, .c], roF [.a, .b, .c], roF [.a, .b, .c], roF [.b, .c, .h], roF [.s, .b, .c, .h], roF [.a, .b, .c, .m], roF [.a, .b, .c, .m], .ro 0 0 1 (fun _ => spA), roP nm ar (.sl 17 8 o L.length c), roI o L] 18 (σ := Unit) (fun _ => True) (fun _ => .raw (.int .i64 (insE ar L.length i (L.getD i insD)))) (fun _ => []) := by
  refine Spec.of Tryz.func37 rfl Tryz.ntmps37 rfl (bdl_cons (pf_bd _ _) (bdl_cons (pf_bd _ _) (bdl_cons (pf_bd _ _) (bdl_cons (pf_bd _ _) (bdl_cons (pf_bd _ _) (bdl_cons (pf_bd _ _) (bdl_cons (pf_bd _ _) (bdl_cons (pf_bd _ _) (bdl_cons (pf_bd _ _) (bdl_cons (pf_bd _ _) (bdl_cons (pf_bd _ _) (bdl_cons (pf_bd _ _) (bdl_cons (pf_bd _ _) (bdl_cons (pf_bd _ _) (bdl_cons (pf_bd _ _) (bdl_cons (roA_bd rfl) (bdl_cons (roA_bd rfl) (bdl_cons (fun _ _ => rfl) (bdl_nil _))))))))))))))))))) fun ρ w => ?_
  obtain ⟨x, hx⟩ : ∃ x, L.getD i insD = x := ⟨_, rfl⟩
  rw [hx]
  have hA : insF L i = insA x := by unfold insF; rw [hx]
  refine sS_ ?_
  refine R.ldo (v := .sl 17 8 o L.length c) ttok rfl rfl rfl rfl rfl (by kernel_rfl) Nat.one_pos ?_
  refine sS_ ?_
  refine R.ix ttok i rfl rfl rfl rfl rfl (by kernel_rfl) rfl hi ⟨by omega, by omega⟩ rfl ?_
  refine R.ldo (v := .agg (insA x)) ttok rfl rfl rfl (by rw [hA]; rfl) rfl (by kernel_rfl) hi ?_
  refine sS_ ?_
  by_cases h1 : x.o < 1
  · rw [decide_eq_true h1]
    refine sS_ ?_
    rw [show insE ar L.length i x = 16 from if_pos (.inl h1)]
    refine X.fin ttok () [] trivial rfl rfl rfl hS5_ _ (by first | exact .inl rfl | exact .inr rfl)
  · rw [decide_eq_false h1]
    refine sS_ ?_
    by_cases h2 : 16 < x.o
    · rw [decide_eq_true (show x.o > 16 from h2)]
      refine sS_ ?_
      rw [show insE ar L.length i x = 16 from if_pos (.inr h2)]
      refine X.fin ttok () [] trivial rfl rfl rfl hS5_ _ (by first | exact .inl rfl | exact .inr rfl)
    · rw [decide_eq_false (show ¬ x.o > 16 from h2)]
      rw [show insE ar L.length i x = insL ar L.length i (pfs x.o.toNat) (decide (x.o = 1)) x from if_neg (by omega)]
      have hT : ∀ k : Nat, x.o = (k : Nat) → pfs x.o.toNat = pfs k := fun k h => by rw [h]; rfl
      by_cases h16 : x.o = 16
      · refine sS_ ?_
        refine C.draw [[], [], [1], [0], [0, 1, 2, 3], [0, 1, 2, 3, 4], [], [0, 1, 2, 3, 4, 5, 6]] [6, 7] (by kernel_rfl) (by kernel_rfl) ?_
        refine sS_ ?_
        refine R.ixa ttok 16 rfl rfl rfl rfl rfl (by kernel_rfl) h16 (by decide) ?_
        refine R.ldo (v := .agg [.raw (.slice none 0 0), .raw (.bool false)]) ttok rfl rfl rfl rfl rfl (by kernel_rfl) Nat.one_pos ?_
        refine sS_ ?_
        refine C.rounds 1 ?_
        refine sS_ ?_
        refine R.nes ttok _ rfl rfl (by kernel_rfl) (by kernel_rfl) (nil_eq { x with o := 0 }) rfl (by kernel_rfl) ?_
        have hv : insL ar L.length i (pfs x.o.toNat) (decide (x.o = 1)) x = if nilI { x with o := 0 } = true then 0 else 16 := by
          rw [hT 16 h16, decide_eq_false (show ¬ x.o = 1 by omega)]
          rfl
        rw [hv]
        cases hn : nilI { x with o := 0 } with
        | false =>
          refine sS_ ?_
          refine X.fin ttok () [] trivial rfl rfl rfl hS5_ _ (by first | exact .inl rfl | exact .inr rfl)
        | true =>
          refine sS_ ?_
          refine X.fin ttok () [] trivial rfl rfl rfl hS5_ _ (by first | exact .inl rfl | exact .inr rfl)
      refine sS_ ?_
      refine C.cuts (σ := IC) 21 (fun s => s.l = pfs x.o.toNat ∧ s.v = decide (x.o = 1)) (fun s => [(1, .ptr 16 0 0 0), (2, .raw (.int .i64 (i : Nat))), (7, .ptr 18 0 0 0), (8, .ptr 19 0 0 0)]) (fun s => [(16, roP nm ar (.sl 17 8 o L.length c)), (17, roI o L), (18, insO x), (19, .cells [.sl 20 3 0 s.l.length s.l.length, .raw (.bool s.v)] 98), (20, roF s.l)]) ?_ ?_
      · refine C.draw [[], [], [1], [0], [0, 1, 2, 3], [0, 1, 2, 3, 4], [], [0, 1, 2, 3, 4, 5, 6]] [6, 7] (by kernel_rfl) (by kernel_rfl) ?_
        refine sS_ ?_
        by_cases e1 : x.o = 1
        · refine R.ixa ttok 1 rfl rfl rfl rfl rfl (by kernel_rfl) e1 (by decide) ?_
          refine R.ldo (v := .agg [.sl 0 3 0 1 1, .raw (.bool true)]) ttok rfl rfl rfl rfl rfl (by kernel_rfl) Nat.one_pos ?_
          refine sS_ ?_
          exact X.backR [(20, 0)] ⟨[.a], true⟩ ⟨(hT 1 e1).symm, by rw [e1]; rfl⟩ Nat.zero_lt_one rfl hS9_ hS3_ rfl (fun _ h => h)
        by_cases e2 : x.o = 2
        · refine R.ixa ttok 2 rfl rfl rfl rfl rfl (by kernel_rfl) e2 (by decide) ?_
          refine R.ldo (v := .agg [.sl 1 3 0 2 2, .raw (.bool false)]) ttok rfl rfl rfl rfl rfl (by kernel_rfl) Nat.one_pos ?_
          refine sS_ ?_
          exact X.backR [(20, 1)] ⟨[.a, .g], false⟩ ⟨(hT 2 e2).symm, by rw [e2]; rfl⟩ Nat.zero_lt_one rfl hS9_ hS3_ rfl (fun _ h => h)
        by_cases e3 : x.o = 3
        · refine R.ixa ttok 3 rfl rfl rfl rfl rfl (by kernel_rfl) e3 (by decide) ?_
          refine R.ldo (v := .agg [.sl 2 3 0 2 2, .raw (.bool false)]) ttok rfl rfl rfl rfl rfl (by kernel_rfl) Nat.one_pos ?_
          refine sS_ ?_
          exact X.backR [(20, 2)] ⟨[.a, .b], false⟩ ⟨(hT 3 e3).symm, by rw [e3]; rfl⟩ Nat.zero_lt_one rfl hS9_ hS3_ rfl (fun _ h => h)
        by_cases e14 : x.o = 14
        · refine R.ixa ttok 14 rfl rfl rfl rfl rfl (by kernel_rfl) e14 (by decide) ?_
          refine R.ldo (v := .agg [.sl 3 3 0 2 2, .raw (.bool false)]) ttok rfl rfl rfl rfl rfl (by kernel_rfl) Nat.one_pos ?_
          refine sS_ ?_
          exact X.backR [(20, 3)] ⟨[.a, .b], false⟩ ⟨(hT 14 e14).symm, by rw [e14]; rfl⟩ Nat.zero_lt_one rfl hS9_ hS3_ rfl (fun _ h => h)
        by_cases e4 : x.o = 4
        · refine R.ixa ttok 4 rfl rfl rfl rfl rfl (by kernel_rfl) e4 (by decide) ?_
          refine R.ldo (v := .agg [.sl 4 3 0 2 2, .raw (.bool false)]) ttok rfl rfl rfl rfl rfl (by kernel_rfl) Nat.one_pos ?_
          refine sS_ ?_
          exact X.backR [(20, 4)] ⟨[.a, .b], false⟩ ⟨(hT 4 e4).symm, by rw [e4]; rfl⟩ Nat.zero_lt_one rfl hS9_ hS3_ rfl (fun _ h => h)
        by_cases e5 : x.o = 5
        · refine R.ixa ttok 5 rfl rfl rfl rfl rfl (by kernel_rfl) e5 (by decide) ?_
          refine R.ldo (v := .agg [.sl 5 3 0 1 1, .raw (.bool false)]) ttok rfl rfl rfl rfl rfl (by kernel_rfl) Nat.one_pos ?_
          refine sS_ ?_
          exact X.backR [(20, 5)] ⟨[.a], false⟩ ⟨(hT 5 e5).symm, by rw [e5]; rfl⟩ Nat.zero_lt_one rfl hS9_ hS3_ rfl (fun _ h => h)
        by_cases e15 : x.o = 15
        · refine R.ixa ttok 15 rfl rfl rfl rfl rfl (by kernel_rfl) e15 (by decide) ?_
          refine R.ldo (v := .agg [.sl 6 3 0 1 1, .raw (.bool false)]) ttok rfl rfl rfl rfl rfl (by kernel_rfl) Nat.one_pos ?_
          refine sS_ ?_
          exact X.backR [(20, 6)] ⟨[.a], false⟩ ⟨(hT 15 e15).symm, by rw [e15]; rfl⟩ Nat.zero_lt_one rfl hS9_ hS3_ rfl (fun _ h => h)
        by_cases e6 : x.o = 6
        · refine R.ixa ttok 6 rfl rfl rfl rfl rfl (by kernel_rfl) e6 (by decide) ?_
          refine R.ldo (v := .agg [.sl 7 3 0 3 3, .raw (.bool false)]) ttok rfl rfl rfl rfl rfl (by kernel_rfl) Nat.one_pos ?_
          refine sS_ ?_
          exact X.backR [(20, 7)] ⟨[.a, .b, .c], false⟩ ⟨(hT 6 e6).symm, by rw [e6]; rfl⟩ Nat.zero_lt_one rfl hS9_ hS3_ rfl (fun _ h => h)
        by_cases e7 : x.o = 7
        · refine R.ixa ttok 7 rfl rfl rfl rfl rfl (by kernel_rfl) e7 (by decide) ?_
          refine R.ldo (v := .agg [.sl 8 3 0 3 3, .raw (.bool false)]) ttok rfl rfl rfl rfl rfl (by kernel_rfl) Nat.one_pos ?_
          refine sS_ ?_
          exact X.backR [(20, 8)] ⟨[.a, .b, .c], false⟩ ⟨(hT 7 e7).symm, by rw [e7]; rfl⟩ Nat.zero_lt_one rfl hS9_ hS3_ rfl (fun _ h => h)
        by_cases e8 : x.o = 8
        · refine R.ixa ttok 8 rfl rfl rfl rfl rfl (by kernel_rfl) e8 (by decide) ?_
          refine R.ldo (v := .agg [.sl 9 3 0 3 3, .raw (.bool false)]) ttok rfl rfl rfl rfl rfl (by kernel_rfl) Nat.one_pos ?_
          refine sS_ ?_
          exact X.backR [(20, 9)] ⟨[.a, .b, .c], false⟩ ⟨(hT 8 e8).symm, by rw [e8]; rfl⟩ Nat.zero_lt_one rfl hS9_ hS3_ rfl (fun _ h => h)
        by_cases e9 : x.o = 9
        · refine R.ixa ttok 9 rfl rfl rfl rfl rfl (by kernel_rfl) e9 (by decide) ?_
          refine R.ldo (v := .agg [.sl 10 3 0 3 3, .raw (.bool false)]) ttok rfl rfl rfl rfl rfl (by kernel_rfl) Nat.one_pos ?_
          refine sS_ ?_
          exact X.backR [(20, 10)] ⟨[.a, .b, .c], false⟩ ⟨(hT 9 e9).symm, by rw [e9]; rfl⟩ Nat.zero_lt_one rfl hS9_ hS3_ rfl (fun _ h => h)
        by_cases e10 : x.o = 10
        · refine R.ixa ttok 10 rfl rfl rfl rfl rfl (by kernel_rfl) e10 (by decide) ?_
          refine R.ldo (v := .agg [.sl 11 3 0 3 3, .raw (.bool false)]) ttok rfl rfl rfl rfl rfl (by kernel_rfl) Nat.one_pos ?_
          refine sS_ ?_
          exact X.backR [(20, 11)] ⟨[.b, .c, .h], false⟩ ⟨(hT 10 e10).symm, by rw [e10]; rfl⟩ Nat.zero_lt_one rfl hS9_ hS3_ rfl (fun _ h => h)
        by_cases e11 : x.o = 11
        · refine R.ixa ttok 11 rfl rfl rfl rfl rfl (by kernel_rfl) e11 (by decide) ?_
          refine R.ldo (v := .agg [.sl 12 3 0 4 4, .raw (.bool false)]) ttok rfl rfl rfl rfl rfl (by kernel_rfl) Nat.one_pos ?_
          refine sS_ ?_
          exact X.backR [(20, 12)] ⟨[.s, .b, .c, .h], false⟩ ⟨(hT 11 e11).symm, by rw [e11]; rfl⟩ Nat.zero_lt_one rfl hS9_ hS3_ rfl (fun _ h => h)
        by_cases e12 : x.o = 12
        · refine R.ixa ttok 12 rfl rfl rfl rfl rfl (by kernel_rfl) e12 (by decide) ?_
          refine R.ldo (v := .agg [.sl 13 3 0 4 4, .raw (.bool false)]) ttok rfl rfl rfl rfl rfl (by kernel_rfl) Nat.one_pos ?_
          refine sS_ ?_
          exact X.backR [(20, 13)] ⟨[.a, .b, .c, .m], false⟩ ⟨(hT 12 e12).symm, by rw [e12]; rfl⟩ Nat.zero_lt_one rfl hS9_ hS3_ rfl (fun _ h => h)
        by_cases e13 : x.o = 13
        · refine R.ixa ttok 13 rfl rfl rfl rfl rfl (by kernel_rfl) e13 (by decide) ?_
          refine R.ldo (v := .agg [.sl 14 3 0 4 4, .raw (.bool false)]) ttok rfl rfl rfl rfl rfl (by kernel_rfl) Nat.one_pos ?_
          refine sS_ ?_
          exact X.backR [(20, 14)] ⟨[.a, .b, .c, .m], false⟩ ⟨(hT 13 e13).symm, by rw [e13]; rfl⟩ Nat.zero_lt_one rfl hS9_ hS3_ rfl (fun _ h => h)
        omega
      · rintro ⟨l, v⟩ ⟨hl, hv⟩
        dsimp only at hl hv ⊢
        have hl4 : l.length ≤ 4 := by rw [hl]; exact pfs_len _
        rw [← hl, ← hv]
        refine sS_ ?_
        refine C.loop (σ := Nat) (L2 := 22) (fun j => j ≤ l.length ∧ ∀ k p, k < j → l[k]? = some p → p.ok ar L.length i (p.val x) = true) (fun j => [(1, .ptr 16 0 0 0), (2, .raw (.int .i64 (i : Nat))), (7, .ptr 18 0 0 0), (8, .ptr 19 0 0 0), (9, .ptr 21 0 0 0), (36, .sl 20 3 0 l.length l.length), (37, .raw (.int .i64 (l.length : Nat))), (38, .raw (.int .i64 (j : Nat)))])
          (fun j => [(16, roP nm ar (.sl 17 8 o L.length c)), (17, roI o L), (18, insO x), (19, .cells [.sl 20 3 0 l.length l.length, .raw (.bool v)] 98), (20, roF l), (21, insO (zeroN (l.take j) { x with o := 0 }))]) _ (fun j => l.length - j) [] 0 ⟨Nat.zero_le _, fun k p h => absurd h (Nat.not_lt_zero k)⟩ rfl hS9_ hS3_ rfl (fun _ h => h) ?_
        rintro j ⟨hj, hok⟩
        refine sS_ ?_
        by_cases hlt : j < l.length
        · rw [decide_eq_true (show ((j : Nat) : Int) < (l.length : Nat) by omega)]
          obtain ⟨p, hp⟩ : ∃ p, l[j]? = some p := ⟨_, List.getElem?_eq_getElem hlt⟩
          have hB : pfF l j = p.av := pfF_at hp
          have hz := zero_snoc hp { x with o := 0 }
          have hgo : p.ok ar L.length i (p.val x) = true → ∀ k q, k < j + 1 → l[k]? = some q → q.ok ar L.length i (q.val x) = true := fun h k q hk hq => by
            rcases Nat.lt_or_ge k j with h' | h'
            · exact hok k q h' hq
            · obtain rfl : k = j := by omega
              rw [hp] at hq
              cases hq
              exact h
          have hno := insL_no (ar := ar) (n := L.length) (i := i) (v := v) (x := x) hp
          obtain ⟨y, hy⟩ : ∃ y, zeroN (l.take j) { x with o := 0 } = y := ⟨_, rfl⟩
          rw [hy] at hz ⊢
          cases p with
          | a =>
            refine sS_ ?_
            refine R.ix ttok j rfl rfl rfl rfl rfl (by kernel_rfl) rfl hlt ⟨by omega, by omega⟩ rfl ?_
            refine R.ldo (v := .agg (PF.av .a)) ttok rfl rfl rfl (by rw [hB]; rfl) rfl (by kernel_rfl) hlt ?_
            refine sS_ ?_
            refine C.draw [[], [0], [], [2], [2, 3], [2, 3, 4], [2, 3, 4, 5], [], [], [0, 1, 2, 3, 4, 5, 6, 7, 8], [0, 1, 2, 3, 4, 5, 6, 7, 8, 9]] [4, 9] (by kernel_rfl) (by kernel_rfl) ?_
            refine sS_ ?_
            refine R.cl [18] (pA_spec) Tryz.call76 ((by exact HasIn.any rfl .nil)) rfl rfl rfl (fun _ => rfl) rfl (by kernel_rfl) fun _ _ => ?_
            refine sS_ ?_
            refine R.cl [16] (mReg_spec x.a i) Tryz.call77 hS4_ rfl rfl rfl (fun _ => rfl) rfl (by kernel_rfl) fun _ _ => ?_
            refine sS_ ?_
            cases hk : regK x.a with
            | false =>
              rw [hno hk]
              refine sS_ ?_
              refine X.fin ttok () [] trivial rfl rfl rfl hS5_ _ (by first | exact .inl rfl | exact .inr rfl)
            | true =>
              refine sS_ ?_
              refine R.cl [21] (pA_spec) Tryz.call76 ((by exact HasIn.any rfl .nil)) rfl rfl rfl (fun _ => rfl) rfl (by kernel_rfl) fun _ _ => ?_
              refine sS_ ?_
              exact X.back [] (j + 1) ⟨hlt, hgo hk⟩ (by omega) rfl hS9_ (by
                show HasH _ _ _ [_, _, _, _, _, (21, insO (zeroN (l.take (j + 1)) { x with o := 0 }))]
                rw [hz]
                exact hS3_) rfl (fun _ h => h)
          | b =>
            refine sS_ ?_
            refine R.ix ttok j rfl rfl rfl rfl rfl (by kernel_rfl) rfl hlt ⟨by omega, by omega⟩ rfl ?_
            refine R.ldo (v := .agg (PF.av .b)) ttok rfl rfl rfl (by rw [hB]; rfl) rfl (by kernel_rfl) hlt ?_
            refine sS_ ?_
            refine C.draw [[], [0], [], [2], [2, 3], [2, 3, 4], [2, 3, 4, 5], [], [], [0, 1, 2, 3, 4, 5, 6, 7, 8], [0, 1, 2, 3, 4, 5, 6, 7, 8, 9]] [4, 9] (by kernel_rfl) (by kernel_rfl) ?_
            refine sS_ ?_
            refine R.cl [18] (pB_spec) Tryz.call78 ((by exact HasIn.any rfl .nil)) rfl rfl rfl (fun _ => rfl) rfl (by kernel_rfl) fun _ _ => ?_
            refine sS_ ?_
            refine R.cl [16] (mReg_spec x.b i) Tryz.call77 hS4_ rfl rfl rfl (fun _ => rfl) rfl (by kernel_rfl) fun _ _ => ?_
            refine sS_ ?_
            cases hk : regK x.b with
            | false =>
              rw [hno hk]
              refine sS_ ?_
              refine X.fin ttok () [] trivial rfl rfl rfl hS5_ _ (by first | exact .inl rfl | exact .inr rfl)
            | true =>
              refine sS_ ?_
              refine R.cl [21] (pB_spec) Tryz.call78 ((by exact HasIn.any rfl .nil)) rfl rfl rfl (fun _ => rfl) rfl (by kernel_rfl) fun _ _ => ?_
              refine sS_ ?_
              exact X.back [] (j + 1) ⟨hlt, hgo hk⟩ (by omega) rfl hS9_ (by
                show HasH _ _ _ [_, _, _, _, _, (21, insO (zeroN (l.take (j + 1)) { x with o := 0 }))]
                rw [hz]
                exact hS3_) rfl (fun _ h => h)
          | c =>
            refine sS_ ?_
            refine R.ix ttok j rfl rfl rfl rfl rfl (by kernel_rfl) rfl hlt ⟨by omega, by omega⟩ rfl ?_
            refine R.ldo (v := .agg (PF.av .c)) ttok rfl rfl rfl (by rw [hB]; rfl) rfl (by kernel_rfl) hlt ?_
            refine sS_ ?_
            refine C.draw [[], [0], [], [2], [2, 3], [2, 3, 4], [2, 3, 4, 5], [], [], [0, 1, 2, 3, 4, 5, 6, 7, 8], [0, 1, 2, 3, 4, 5, 6, 7, 8, 9]] [4, 9] (by kernel_rfl) (by kernel_rfl) ?_
            refine sS_ ?_
            refine R.cl [18] (pC_spec) Tryz.call79 ((by exact HasIn.any rfl .nil)) rfl rfl rfl (fun _ => rfl) rfl (by kernel_rfl) fun _ _ => ?_
            refine sS_ ?_
            refine R.cl [16] (mReg_spec x.c i) Tryz.call77 hS4_ rfl rfl rfl (fun _ => rfl) rfl (by kernel_rfl) fun _ _ => ?_
            refine sS_ ?_
            cases hk : regK x.c with
            | false =>
              rw [hno hk]
              refine sS_ ?_
              refine X.fin ttok () [] trivial rfl rfl rfl hS5_ _ (by first | exact .inl rfl | exact .inr rfl)
            | true =>
              refine sS_ ?_
              refine R.cl [21] (pC_spec) Tryz.call79 ((by exact HasIn.any rfl .nil)) rfl rfl rfl (fun _ => rfl) rfl (by kernel_rfl) fun _ _ => ?_
              refine sS_ ?_
              exact X.back [] (j + 1) ⟨hlt, hgo hk⟩ (by omega) rfl hS9_ (by
                show HasH _ _ _ [_, _, _, _, _, (21, insO (zeroN (l.take (j + 1)) { x with o := 0 }))]
                rw [hz]
                exact hS3_) rfl (fun _ h => h)
          | g =>
            refine sS_ ?_
            refine R.ix ttok j rfl rfl rfl rfl rfl (by kernel_rfl) rfl hlt ⟨by omega, by omega⟩ rfl ?_
            refine R.ldo (v := .agg (PF.av .g)) ttok rfl rfl rfl (by rw [hB]; rfl) rfl (by kernel_rfl) hlt ?_
            refine sS_ ?_
            refine C.draw [[], [0], [], [2], [2, 3], [2, 3, 4], [2, 3, 4, 5], [], [], [0, 1, 2, 3, 4, 5, 6, 7, 8], [0, 1, 2, 3, 4, 5, 6, 7, 8, 9]] [4, 9] (by kernel_rfl) (by kernel_rfl) ?_
            refine sS_ ?_
            refine R.cl [18] (pN_spec) Tryz.call80 ((by exact HasIn.any rfl .nil)) rfl rfl rfl (fun _ => rfl) rfl (by kernel_rfl) fun _ _ => ?_
            refine sS_ ?_
            refine R.cl [16, 17] (mArg_spec x.n i nm ar o L.length c) Tryz.call81 hS4_ rfl rfl rfl (fun _ => rfl) rfl (by kernel_rfl) fun _ _ => ?_
            refine sS_ ?_
            cases hk : PF.g.ok ar 0 0 x.n with
            | false =>
              rw [hno hk]
              refine sS_ ?_
              refine X.fin ttok () [] trivial rfl rfl rfl hS5_ _ (by first | exact .inl rfl | exact .inr rfl)
            | true =>
              refine sS_ ?_
              refine R.cl [21] (pN_spec) Tryz.call80 ((by exact HasIn.any rfl .nil)) rfl rfl rfl (fun _ => rfl) rfl (by kernel_rfl) fun _ _ => ?_
              refine sS_ ?_
              exact X.back [] (j + 1) ⟨hlt, hgo hk⟩ (by omega) rfl hS9_ (by
                show HasH _ _ _ [_, _, _, _, _, (21, insO (zeroN (l.take (j + 1)) { x with o := 0 }))]
                rw [hz]
                exact hS3_) rfl (fun _ h => h)
          | h =>
            refine sS_ ?_
            refine R.ix ttok j rfl rfl rfl rfl rfl (by kernel_rfl) rfl hlt ⟨by omega, by omega⟩ rfl ?_
            refine R.ldo (v := .agg (PF.av .h)) ttok rfl rfl rfl (by rw [hB]; rfl) rfl (by kernel_rfl) hlt ?_
            refine sS_ ?_
            refine C.draw [[], [0], [], [2], [2, 3], [2, 3, 4], [2, 3, 4, 5], [], [], [0, 1, 2, 3, 4, 5, 6, 7, 8], [0, 1, 2, 3, 4, 5, 6, 7, 8, 9]] [4, 9] (by kernel_rfl) (by kernel_rfl) ?_
            refine sS_ ?_
            refine R.cl [18] (pN_spec) Tryz.call80 ((by exact HasIn.any rfl .nil)) rfl rfl rfl (fun _ => rfl) rfl (by kernel_rfl) fun _ _ => ?_
            refine sS_ ?_
            refine R.cl [16] (mHow_spec x.n i) Tryz.call82 hS4_ rfl rfl rfl (fun _ => rfl) rfl (by kernel_rfl) fun _ _ => ?_
            refine sS_ ?_
            cases hk : PF.h.ok 0 0 0 x.n with
            | false =>
              rw [hno hk]
              refine sS_ ?_
              refine X.fin ttok () [] trivial rfl rfl rfl hS5_ _ (by first | exact .inl rfl | exact .inr rfl)
            | true =>
              refine sS_ ?_
              refine R.cl [21] (pN_spec) Tryz.call80 ((by exact HasIn.any rfl .nil)) rfl rfl rfl (fun _ => rfl) rfl (by kernel_rfl) fun _ _ => ?_
              refine sS_ ?_
              exact X.back [] (j + 1) ⟨hlt, hgo hk⟩ (by omega) rfl hS9_ (by
                show HasH _ _ _ [_, _, _, _, _, (21, insO (zeroN (l.take (j + 1)) { x with o := 0 }))]
                rw [hz]
                exact hS3_) rfl (fun _ h => h)
          | m =>
            refine sS_ ?_
            refine R.ix ttok j rfl rfl rfl rfl rfl (by kernel_rfl) rfl hlt ⟨by omega, by omega⟩ rfl ?_
            refine R.ldo (v := .agg (PF.av .m)) ttok rfl rfl rfl (by rw [hB]; rfl) rfl (by kernel_rfl) hlt ?_
            refine sS_ ?_
            refine C.draw [[], [0], [], [2], [2, 3], [2, 3, 4], [2, 3, 4, 5], [], [], [0, 1, 2, 3, 4, 5, 6, 7, 8], [0, 1, 2, 3, 4, 5, 6, 7, 8, 9]] [4, 9] (by kernel_rfl) (by kernel_rfl) ?_
            refine sS_ ?_
            refine R.cl [18] (pN_spec) Tryz.call80 ((by exact HasIn.any rfl .nil)) rfl rfl rfl (fun _ => rfl) rfl (by kernel_rfl) fun _ _ => ?_
            refine sS_ ?_
            refine R.cl [16] (mMany_spec x.n i) Tryz.call83 hS4_ rfl rfl rfl (fun _ => rfl) rfl (by kernel_rfl) fun _ _ => ?_
            refine sS_ ?_
            cases hk : PF.m.ok 0 0 0 x.n with
            | false =>
              rw [hno hk]
              refine sS_ ?_
              refine X.fin ttok () [] trivial rfl rfl rfl hS5_ _ (by first | exact .inl rfl | exact .inr rfl)
            | true =>
              refine sS_ ?_
              refine R.cl [21] (pN_spec) Tryz.call80 ((by exact HasIn.any rfl .nil)) rfl rfl rfl (fun _ => rfl) rfl (by kernel_rfl) fun _ _ => ?_
              refine sS_ ?_
              exact X.back [] (j + 1) ⟨hlt, hgo hk⟩ (by omega) rfl hS9_ (by
                show HasH _ _ _ [_, _, _, _, _, (21, insO (zeroN (l.take (j + 1)) { x with o := 0 }))]
                rw [hz]
                exact hS3_) rfl (fun _ h => h)
          | s =>
            refine sS_ ?_
            refine R.ix ttok j rfl rfl rfl rfl rfl (by kernel_rfl) rfl hlt ⟨by omega, by omega⟩ rfl ?_
            refine R.ldo (v := .agg (PF.av .s)) ttok rfl rfl rfl (by rw [hB]; rfl) rfl (by kernel_rfl) hlt ?_
            refine sS_ ?_
            refine C.draw [[], [0], [], [2], [2, 3], [2, 3, 4], [2, 3, 4, 5], [], [], [0, 1, 2, 3, 4, 5, 6, 7, 8], [0, 1, 2, 3, 4, 5, 6, 7, 8, 9]] [4, 9] (by kernel_rfl) (by kernel_rfl) ?_
            refine sS_ ?_
            refine R.cl [18] (pA_spec) Tryz.call76 ((by exact HasIn.any rfl .nil)) rfl rfl rfl (fun _ => rfl) rfl (by kernel_rfl) fun _ _ => ?_
            refine sS_ ?_
            refine R.cl [16, 17] (mSkip_spec x.a i nm ar o L.length c hL (by omega)) Tryz.call84 hS4_ rfl rfl rfl (fun _ => rfl) rfl (by kernel_rfl) fun _ _ => ?_
            refine sS_ ?_
            cases hk : PF.s.ok ar L.length i x.a with
            | false =>
              rw [hno hk]
              refine sS_ ?_
              refine X.fin ttok () [] trivial rfl rfl rfl hS5_ _ (by first | exact .inl rfl | exact .inr rfl)
            | true =>
              refine sS_ ?_
              refine R.cl [21] (pA_spec) Tryz.call76 ((by exact HasIn.any rfl .nil)) rfl rfl rfl (fun _ => rfl) rfl (by kernel_rfl) fun _ _ => ?_
              refine sS_ ?_
              exact X.back [] (j + 1) ⟨hlt, hgo hk⟩ (by omega) rfl hS9_ (by
                show HasH _ _ _ [_, _, _, _, _, (21, insO (zeroN (l.take (j + 1)) { x with o := 0 }))]
                rw [hz]
                exact hS3_) rfl (fun _ h => h)
        · rw [decide_eq_false (show ¬ ((j : Nat) : Int) < (l.length : Nat) by omega)]
          rw [insL_all (j := j) (by omega) hok]
          obtain ⟨y, hy⟩ : ∃ y, zeroN (l.take j) { x with o := 0 } = y := ⟨_, rfl⟩
          rw [hy]
          refine sS_ ?_
          cases v with
          | false =>
            refine sS_ ?_
            refine R.nes ttok _ rfl rfl (by kernel_rfl) (by kernel_rfl) (nil_eq (insV0 false y)) rfl (by kernel_rfl) ?_
            cases hn : nilI (insV0 false y) with
            | false =>
              refine sS_ ?_
              refine X.fin ttok () [] trivial rfl rfl rfl hS5_ _ (by first | exact .inl rfl | exact .inr rfl)
            | true =>
              refine sS_ ?_
              refine X.fin ttok () [] trivial rfl rfl rfl hS5_ _ (by first | exact .inl rfl | exact .inr rfl)
          | true =>
            refine sS_ ?_
            refine R.nes ttok _ rfl rfl (by kernel_rfl) (by kernel_rfl) (nil_eq (insV0 true y)) rfl (by kernel_rfl) ?_
            cases hn : nilI (insV0 true y) with
            | false =>
              refine sS_ ?_
              refine X.fin ttok () [] trivial rfl rfl rfl hS5_ _ (by first | exact .inl rfl | exact .inr rfl)
            | true =>
              refine sS_ ?_
              refine R.cl [] (datumC_spec x.k x.i x.t) Tryz.call85 hS8_ rfl rfl rfl (fun _ => rfl) rfl (by kernel_rfl) fun _ _ => ?_
              refine sS_ ?_
              refine X.fin ttok () [] trivial rfl rfl rfl hS5_ _ (by first | exact .inl rfl | exact .inr rfl)
end Go.Proofs.YtaieficgifingaaGreatDoor
namespace Go.Proofs.YtaieficgifingaaGreatDoor
set_option linter.unusedVariables false
set_option linter.unusedSimpArgs false
open Go.RowKit
set_option maxRecDepth 100000
set_option maxHeartbeats 8000000
abbrev spA2 : List AV := [.raw (.slice none 0 0), .raw (.bool false), .sl 2 3 0 1 1, .raw (.bool true), .sl 3 3 0 2 2, .raw (.bool false), .sl 4 3 0 2 2, .raw (.bool false), .sl 6 3 0 2 2, .raw (.bool false), .sl 7 3 0 1 1, .raw (.bool false), .sl 9 3 0 3 3, .raw (.bool false), .sl 10 3 0 3 3, .raw (.bool false), .sl 11 3 0 3 3, .raw (.bool false), .sl 12 3 0 3 3, .raw (.bool false), .sl 13 3 0 3 3, .raw (.bool false), .sl 14 3 0 4 4, .raw (.bool false), .sl 15 3 0 4 4, .raw (.bool false), .sl 16 3 0 4 4, .raw (.bool false), .sl 5 3 0 2 2, .raw (.bool false), .sl 8 3 0 1 1, .raw (.bool false), .raw (.slice none 0 0), .raw (.bool false)]
def badI (ar : Int) (L : List Ins) (i : Nat) : Bool := decide (insE ar L.length i (L.getD i insD) ≠ 0)
def chkL (ar : Int) (L : List Ins) : Int × Int := match (List.range L.length).find? (badI ar L) with
  | some i => (((i : Nat) : Int), insE ar L.length i (L.getD i insD))
  | none => (0, 0)
/-- why a procedure is none, and where -/
def chkP (nm : ByteArray) (ar : Int) (L : List Ins) : Int × Int := if nameP (strB nm) = false then (-1, 5) else if ar < 0 ∨ 16 < ar then (-1, 1) else if 64 < L.length then (-1, 4) else chkL ar L
theorem chk_at {ar : Int} {L : List Ins} {i : Nat} (hi : i < L.length) (h1 : ∀ j, j < i → badI ar L j = false) (h2 : badI ar L i = true) : chkL ar L = (((i : Nat) : Int), insE ar L.length i (L.getD i insD)) := by
  unfold chkL
  rw [show (List.range L.length).find? (badI ar L) = some i from List.find?_range_eq_some.2 ⟨h2, List.mem_range.2 hi, fun j hj => by rw [h1 j hj]; rfl⟩]
theorem chk_no {ar : Int} {L : List Ins} (h1 : ∀ j, j < L.length → badI ar L j = false) : chkL ar L = (0, 0) := by
  unfold chkL
  rw [show (List.range L.length).find? (badI ar L) = none from List.find?_eq_none.2 fun j hj => by rw [h1 j (List.mem_range.1 hj)]; decide]
theorem checkP_spec (nm : ByteArray) (ar : Int) (L : List Ins) (o c : Nat) (hL : L.length ≤ 1000000) : Spec Tryz.prog 15 [.agg (prA nm ar (.sl 0 8 o L.length c))] [roI o L] 1 (σ := Unit) (fun _ => True) (fun _ => .tup [.raw (.int .i64 (chkP nm ar L).1), .raw (.int .i64 (chkP nm ar L).2)]) (fun _ => []) := by
  refine Spec.of Tryz.func15 rfl Tryz.ntmps15 rfl (bdl_cons (fun _ _ => rfl) (bdl_nil _)) fun ρ w => ?_
  refine sS_ ?_
  refine R.cl [] (isName_spec nm) Tryz.call35 hS8_ rfl rfl rfl (fun _ => rfl) rfl (by kernel_rfl) fun _ _ => ?_
  cases hn : nameP (strB nm) with
  | false =>
    rw [show chkP nm ar L = (-1, 5) by unfold chkP; rw [hn, if_pos rfl]]
    refine sS_ ?_
    refine X.fin ttok () [] trivial rfl rfl rfl hS5_ _ (by first | exact .inl rfl | exact .inr rfl)
  | true =>
    refine sS_ ?_
    by_cases ha : ar < 0
    · rw [decide_eq_true ha]
      rw [show chkP nm ar L = (-1, 1) by unfold chkP; rw [hn, if_neg (by decide), if_pos (.inl ha)]]
      refine sS_ ?_
      refine X.fin ttok () [] trivial rfl rfl rfl hS5_ _ (by first | exact .inl rfl | exact .inr rfl)
    · rw [decide_eq_false ha]
      refine sS_ ?_
      by_cases hb : 16 < ar
      · rw [decide_eq_true (show ar > 16 from hb)]
        rw [show chkP nm ar L = (-1, 1) by unfold chkP; rw [hn, if_neg (by decide), if_pos (.inr hb)]]
        refine sS_ ?_
        refine X.fin ttok () [] trivial rfl rfl rfl hS5_ _ (by first | exact .inl rfl | exact .inr rfl)
      · rw [decide_eq_false (show ¬ ar > 16 from hb)]
        have hab : ¬ (ar < 0 ∨ 16 < ar) := by omega
        refine sS_ ?_
        by_cases hl : 64 < L.length
        · rw [decide_eq_true (show ((L.length : Nat) : Int) > 64 by omega)]
          rw [show chkP nm ar L = (-1, 4) by unfold chkP; rw [hn, if_neg (by decide), if_neg hab, if_pos hl]]
          refine sS_ ?_
          refine X.fin ttok () [] trivial rfl rfl rfl hS5_ _ (by first | exact .inl rfl | exact .inr rfl)
        · rw [decide_eq_false (show ¬ ((L.length : Nat) : Int) > 64 by omega)]
          rw [show chkP nm ar L = chkL ar L by unfold chkP; rw [hn, if_neg (by decide), if_neg hab, if_neg hl]]
          refine sS_ ?_
          refine R.cl [] (shapesP_spec) Tryz.call36 hS8_ rfl rfl rfl (fun _ => rfl) rfl (by kernel_rfl) fun _ _ => ?_
          refine sS_ ?_
          refine C.loop (σ := Nat) (L2 := 18) (fun i => i ≤ L.length ∧ ∀ j, j < i → badI ar L j = false) (fun i => [(1, .ptr 1 0 0 0), (4, .ptr 17 0 0 0), (29, .raw (.int .i64 (L.length : Nat))), (30, .raw (.int .i64 (i : Nat)))]) (fun _ => [(0, roI o L), (1, .cells (prA nm ar (.sl 0 8 o L.length c)) 25), (2, .cells (pfX [.a]) pfT), (3, .cells (pfX [.a, .g]) pfT), (4, .cells (pfX [.a, .b]) pfT), (5, .cells (pfX [.a, .b]) pfT), (6, .cells (pfX [.a, .b]) pfT), (7, .cells (pfX [.a]) pfT), (8, .cells (pfX [.a]) pfT), (9, .cells (pfX [.a, .b, .c]) pfT), (10, .cells (pfX [.a, .b, .c]) pfT), (11, .cells (pfX [.a, .b, .c]) pfT), (12, .cells (pfX [.a, .b, .c]) pfT), (13, .cells (pfX [.b, .c, .h]) pfT), (14, .cells (pfX [.s, .b, .c, .h]) pfT), (15, .cells (pfX [.a, .b, .c, .m]) pfT), (16, .cells (pfX [.a, .b, .c, .m]) pfT), (17, .cells spA2 99)]) _ (fun i => L.length - i) [] 0 ⟨Nat.zero_le _, fun j h => absurd h (Nat.not_lt_zero j)⟩ rfl hS9_ hS7_ rfl (fun _ h => h) ?_
          rintro i ⟨hi, hd⟩
          refine sS_ ?_
          by_cases hlt : i < L.length
          · rw [decide_eq_true (show ((i : Nat) : Int) < (L.length : Nat) by omega)]
            refine sS_ ?_
            refine R.cl [2, 3, 4, 5, 6, 7, 8, 9, 10, 11, 12, 13, 14, 15, 16, 17, 1, 0] (instrP_spec nm ar L o c i hL hlt) Tryz.call37 (by repeat (first | exact HasIn.nil | refine HasIn.same rfl rfl ?_ | refine HasIn.row rfl (fun _ => rfl) rfl ?_ | refine HasIn.roA rfl rfl ?_ | refine HasIn.roq rfl rfl ?_)) rfl rfl rfl (fun _ => rfl) rfl (by kernel_rfl) fun _ _ => ?_
            obtain ⟨e, he⟩ : ∃ e, insE ar L.length i (L.getD i insD) = e := ⟨_, rfl⟩
            rw [he]
            refine sS_ ?_
            by_cases h0 : e = 0
            · rw [decide_eq_false (show ¬ e ≠ 0 from fun h => h h0)]
              refine sS_ ?_
              exact X.back [] (i + 1) ⟨hlt, fun j hj => (by
                rcases Nat.lt_or_ge j i with h | h
                · exact hd j h
                · obtain rfl : j = i := by omega
                  unfold badI
                  rw [he]
                  exact decide_eq_false (fun h => h h0))⟩ (by omega) rfl hS9_ hS7_ rfl (fun _ h => h)
            · rw [decide_eq_true (show e ≠ 0 from h0)]
              rw [chk_at hlt hd (by unfold badI; rw [he]; exact decide_eq_true h0), he]
              refine sS_ ?_
              refine X.fin ttok () [] trivial rfl rfl rfl hS5_ _ (by first | exact .inl rfl | exact .inr rfl)
          · rw [decide_eq_false (show ¬ ((i : Nat) : Int) < (L.length : Nat) by omega)]
            rw [chk_no fun j hj => hd j (by omega)]
            refine sS_ ?_
            refine X.fin ttok () [] trivial rfl rfl rfl hS5_ _ (by first | exact .inl rfl | exact .inr rfl)
end Go.Proofs.YtaieficgifingaaGreatDoor
namespace Go.Proofs.YtaieficgifingaaGreatDoor
set_option linter.unusedVariables false
set_option linter.constructorNameAsVariable false
set_option linter.unusedSimpArgs false
open Go.RowKit
set_option maxRecDepth 100000
set_option maxHeartbeats 8000000
theorem tab_ro {ρ : Env} {r : Option Nat} {w : World} {wd n0 cap : Nat} {f : Nat → List AV} {T : TypeId} (h : (AO.tab wd n0 cap f T).holds ρ r w) : (AO.ro wd 0 n0 f).holds ρ r w := by
  obtain ⟨h1, _, ⟨h2, h3⟩ | ⟨b, cur, hr, hb, _, hc⟩⟩ := h
  · exact .inl ⟨h2, by omega⟩
  · exact .inr ⟨b, cur, T, _, hr, hb, fun i c x hi hx => by rw [Nat.zero_add]; exact hc i c x hi hx⟩
theorem tab0_ro {ρ : Env} {r : Option Nat} {w : World} {wd cap : Nat} {f g : Nat → List AV} {T : TypeId} (h : (AO.tab wd 0 cap f T).holds ρ r w) : (AO.ro wd 0 0 g).holds ρ r w := by
  rcases tab_ro h with h | ⟨b, cur, T', fr, hr, hb, _⟩
  · exact .inl h
  · exact .inr ⟨b, cur, T', fr, hr, hb, fun i c x hi => absurd hi (Nat.not_lt_zero i)⟩
/-- fields, read only -/
def fkF (l : List FK) (j : Nat) : List AV := ((l.flatMap FK.av).drop (j * 2)).take 2
abbrev roK (l : List FK) : AO := .ro 2 0 l.length (fkF l)
def shF (j : Nat) : List AV := (shRows.drop (j * 3)).take 3
abbrev roSh : AO := .ro 3 0 16 shF
theorem fkF_at {l : List FK} {j : Nat} {p : FK} (h : l[j]? = some p) : fkF l j = p.av := flat_drop FK.av 2 (fun x => by cases x <;> rfl) l j p h
theorem fk_mem {l : List FK} {j : Nat} {x : AV} (hx : x ∈ fkF l j) : ∃ k : FK, x ∈ k.av := by
  have hx := List.mem_of_mem_drop (List.mem_of_mem_take hx)
  obtain ⟨p, _, hp⟩ := List.mem_flatMap.1 hx
  exact ⟨p, hp⟩
theorem fk_bd (L : Nat) (l : List FK) (hL : 7 ≤ L) : (roK l).Bd L := fun i _ => bds_of _ fun x hx => by
  obtain ⟨p, hp⟩ := fk_mem hx
  have e : ∀ k, k < 7 → AV.bd L (.fn 0 [.ptr k 0 0 0]) = true := fun k hk => by simp [AV.bd, AV.bds]; omega
  cases p <;> (simp [FK.av] at hp; rcases hp with rfl | rfl <;> first | rfl | exact e _ (by decide))
theorem fk_ren (r : Nat → Nat) (l : List FK) (h0 : r 0 = 0) (h1 : r 1 = 1) (h2 : r 2 = 2) (h3 : r 3 = 3) (h4 : r 4 = 4) (h6 : r 6 = 6) : roK l = (roK l).ren r := by
  show AO.ro 2 0 l.length (fkF l) = AO.ro 2 0 l.length (fun i => AV.rens r (fkF l i))
  congr 1
  funext i
  rw [rens_map]
  refine ((List.map_congr_left (g := id) fun x hx => ?_).trans (List.map_id _)).symm
  obtain ⟨p, hp⟩ := fk_mem hx
  cases p <;> (simp [FK.av] at hp; rcases hp with rfl | rfl <;> simp [AV.ren, AV.rens, h0, h1, h2, h3, h4, h6])
theorem sh_mem {j : Nat} {x : AV} (hx : x ∈ shF j) : (∃ v, x = .raw v) ∨ ∃ k n, k < 22 ∧ x = .sl k 2 0 n n := by
  have hx := List.mem_of_mem_drop (List.mem_of_mem_take hx)
  simp only [shRows, List.mem_cons, List.not_mem_nil, or_false] at hx
  repeat' (first | (rcases hx with rfl | hx) | subst hx)
  all_goals first | exact .inl ⟨_, rfl⟩ | exact .inr ⟨_, _, by decide, rfl⟩
theorem sh_bd (L : Nat) (hL : 22 ≤ L) : roSh.Bd L := fun i _ => bds_of _ fun x hx => by
  rcases sh_mem hx with ⟨v, rfl⟩ | ⟨k, n, hk, rfl⟩
  · rfl
  · simp [AV.bd]; omega
theorem sh_ren (r : Nat → Nat) (h : ∀ k < 22, r k = k) : roSh = roSh.ren r := by
  show AO.ro 3 0 16 shF = AO.ro 3 0 16 (fun i => AV.rens r (shF i))
  congr 1
  funext i
  rw [rens_map]
  refine ((List.map_congr_left (g := id) fun x hx => ?_).trans (List.map_id _)).symm
  rcases sh_mem hx with ⟨v, rfl⟩ | ⟨k, n, hk, rfl⟩
  · rfl
  · simp [AV.ren, h k hk]
/-- the signs, told as rows -/
theorem cells_sg {ρ : Env} {r : Option Nat} {w : World} {T : TypeId} (h : (AO.cells [.raw (.string ⟨#[]⟩), .raw (.string ⟨#[61]⟩), .raw (.string ⟨#[33, 61]⟩), .raw (.string ⟨#[60]⟩), .raw (.string ⟨#[60, 61]⟩), .raw (.string ⟨#[62]⟩), .raw (.string ⟨#[62, 61]⟩)] T).holds ρ r w) : roSg.holds ρ r w := by
  obtain ⟨b, hr, hb⟩ := h
  refine .inr ⟨b, _, T, _, hr, hb, fun i c y hi hy => ?_⟩
  match i, hi with
  | 0, _ | 1, _ | 2, _ | 3, _ | 4, _ | 5, _ | 6, _ =>
    match c, hy with
    | 0, hy => cases hy; rfl
    | c + 1, hy => simp [sgF] at hy
  | i + 7, hi => omega
theorem sh_drop {i : Nat} {s : Sh} (h : shL[i]? = some s) : shL.drop i = s :: shL.drop (i + 1) := by
  obtain ⟨hi, he⟩ := List.getElem?_eq_some_iff.1 h
  rw [List.drop_eq_getElem_cons hi, he]
theorem ins_skip {s : Sh} {r : List Sh} {W : List WD} (h : ¬ ((W.headD wdD).2 = false ∧ strB (W.headD wdD).1 = strB s.w ∧ W.length = 1 + s.f.length)) : insFrom (s :: r) W = insFrom r W := if_neg h
theorem ins_none {s : Sh} {r : List Sh} {W : List WD} (h : (W.headD wdD).2 = false ∧ strB (W.headD wdD).1 = strB s.w ∧ W.length = 1 + s.f.length) (h2 : rdP s.f (insZ s.op) (W.drop 1) = none) : insFrom (s :: r) W = insFrom r W := by
  unfold insFrom
  rw [if_pos h, h2]
  cases r <;> rfl
theorem ins_some {s : Sh} {r : List Sh} {W : List WD} {x : Ins} (h : (W.headD wdD).2 = false ∧ strB (W.headD wdD).1 = strB s.w ∧ W.length = 1 + s.f.length) (h2 : rdP s.f (insZ s.op) (W.drop 1) = some x) : insFrom (s :: r) W = some x := by
  unfold insFrom
  rw [if_pos h, h2]
theorem rd_go {l : List FK} {j : Nat} {k : FK} (h : l[j]? = some k) {W : List WD} {x : Ins} (hW : j + 1 < W.length) : rdP (l.drop j) x (W.drop (1 + j)) = if (k.rd x (W.getD (1 + j) wdD)).2 = true then rdP (l.drop (j + 1)) (k.rd x (W.getD (1 + j) wdD)).1 (W.drop (1 + (j + 1))) else none := by
  obtain ⟨hi, he⟩ := List.getElem?_eq_some_iff.1 h
  rw [List.drop_eq_getElem_cons hi, he, List.drop_eq_getElem_cons (show 1 + j < W.length by omega)]
  rw [List.getD_eq_getElem?_getD, List.getElem?_eq_getElem (show 1 + j < W.length by omega)]
  rfl
theorem sh_len {i : Nat} {s : Sh} (h : shL[i]? = some s) : s.f.length ≤ 4 := by
  have : ∀ s ∈ shL, s.f.length ≤ 4 := by simp [shL]
  exact this s (List.mem_of_getElem? h)
def insG (W : List WD) (r : Ins × Bool) : Prop := match insP W with
  | some x => r = (x, true)
  | none => r = (insD, false)
theorem hS1_ {P : Prop} (h : P := by repeat (first | exact HasH.nil | refine HasH.same rfl rfl rfl trivial ?_ | refine HasH.same rfl rfl rfl rfl ?_ | refine HasH.same rfl rfl rfl (roA_bd rfl) ?_ | refine HasH.same rfl (fk_ren _ _ rfl rfl rfl rfl rfl rfl) rfl (fk_bd _ _ (Nat.le_of_ble_eq_true rfl)) ?_ | refine HasH.same rfl rfl rfl (fun _ _ => rfl) ?_ | refine HasH.same rfl (sh_ren _ (by decide)) rfl (sh_bd _ (Nat.le_of_ble_eq_true rfl)) ?_)) : P := h
theorem instr_spec (W : List WD) (cw : Nat) (hW0 : W ≠ []) (hW : W.length ≤ 1000000) (hsz : ∀ p ∈ W, p.1.size ≤ 1000000) (fs : Fam) (hG : Glob fs) : SpecF Tryz.prog 24 [.sl 22 3 0 16 16, .sl 23 2 0 W.length cw] [one0 (.fn 41 []), one0 (.fn 44 []), one0 (.fn 45 []), one0 (.fn 42 []), one0 (.fn 41 []), roSg, one0 (.sl 5 1 0 7 7), roK [.a, .v], roK [.a, .n], roK [.a, .b], roK [.a, .b], roK [.a, .b], roK [.a], roK [.a], roK [.a, .b, .c], roK [.a, .b, .c], roK [.a, .b, .c], roK [.a, .b, .c], roK [.b, .s, .c], roK [.k, .b, .s, .c], roK [.a, .b, .c, .n], roK [.a, .b, .c, .n], roSh, roW W] 24 fs (σ := Ins × Bool) (insG W) (fun r => .tup [.agg (insA r.1), .raw (.bool r.2)]) (fun _ => []) (fun _ => fs) := by
  refine SpecF.of Tryz.func24 rfl Tryz.ntmps24 rfl (bdl_cons (roA_bd rfl) (bdl_cons (roA_bd rfl) (bdl_cons (roA_bd rfl) (bdl_cons (roA_bd rfl) (bdl_cons (roA_bd rfl) (bdl_cons (fun _ _ => rfl) (bdl_cons (roA_bd rfl) (bdl_cons (fk_bd _ _ (Nat.le_of_ble_eq_true rfl)) (bdl_cons (fk_bd _ _ (Nat.le_of_ble_eq_true rfl)) (bdl_cons (fk_bd _ _ (Nat.le_of_ble_eq_true rfl)) (bdl_cons (fk_bd _ _ (Nat.le_of_ble_eq_true rfl)) (bdl_cons (fk_bd _ _ (Nat.le_of_ble_eq_true rfl)) (bdl_cons (fk_bd _ _ (Nat.le_of_ble_eq_true rfl)) (bdl_cons (fk_bd _ _ (Nat.le_of_ble_eq_true rfl)) (bdl_cons (fk_bd _ _ (Nat.le_of_ble_eq_true rfl)) (bdl_cons (fk_bd _ _ (Nat.le_of_ble_eq_true rfl)) (bdl_cons (fk_bd _ _ (Nat.le_of_ble_eq_true rfl)) (bdl_cons (fk_bd _ _ (Nat.le_of_ble_eq_true rfl)) (bdl_cons (fk_bd _ _ (Nat.le_of_ble_eq_true rfl)) (bdl_cons (fk_bd _ _ (Nat.le_of_ble_eq_true rfl)) (bdl_cons (fk_bd _ _ (Nat.le_of_ble_eq_true rfl)) (bdl_cons (fk_bd _ _ (Nat.le_of_ble_eq_true rfl)) (bdl_cons (sh_bd _ (Nat.le_of_ble_eq_true rfl)) (bdl_cons (fun _ _ => rfl) (bdl_nil _))))))))))))))))))))))))) fun ρ w => ?_
  have hWp : 0 < W.length := List.length_pos_iff.2 hW0
  obtain ⟨p0, hp0⟩ : ∃ p, W.headD wdD = p := ⟨_, rfl⟩
  have hF0 : wdF W 0 = wdX p0 := by
    unfold wdF
    rw [← hp0]
    cases W with
    | nil => rfl
    | cons a r => rfl
  refine sS_ ?_
  refine C.scope 0 0 (fun _ : Unit => False) (fun _ => []) (fun _ => []) rfl ?_ (fun _ h => h.elim)
  repeat (first | refine C.seq ?_ | refine C.region ?_ | refine R.zb ttok ?_ | refine R.zu ttok ?_ | refine R.zc ttok ?_ | refine R.za ttok ?_ | refine R.zx ?_ | refine R.zl ttok ?_ | refine R.zs ttok ?_ | refine R.z ttok ?_ | refine R.zk ?_ | refine R.zn ?_ | refine R.done ?_ | refine X.then ?_ | refine C.block ?_ | refine C.ret ?_ | refine C.skip ?_ | refine C.exit ?_ | refine X.pass_ret ?_ | refine X.pass_exit ?_ | refine X.block_normal ?_ | refine X.block_ret ?_ | refine X.block_exit ?_ | refine C.zt ?_ | refine C.zf ?_ | refine X.zo ?_ | refine C.label ?_)
  refine C.loop (σ := Nat) (L2 := 25) (fun i => i ≤ 16 ∧ insFrom (shL.drop i) W = insP W) (fun i => [(1, .sl 23 2 0 W.length cw), (4, .ptr 24 0 0 0), (11, .sl 22 3 0 16 16), (12, .raw (.int .i64 16)), (13, .raw (.int .i64 (i : Nat)))])
    (fun _ => [(0, one0 (.fn 41 [])), (1, one0 (.fn 44 [])), (2, one0 (.fn 45 [])), (3, one0 (.fn 42 [])), (4, one0 (.fn 41 [])), (5, roSg), (6, one0 (.sl 5 1 0 7 7)), (7, roK [.a, .v]), (8, roK [.a, .n]), (9, roK [.a, .b]), (10, roK [.a, .b]), (11, roK [.a, .b]), (12, roK [.a]), (13, roK [.a]), (14, roK [.a, .b, .c]), (15, roK [.a, .b, .c]), (16, roK [.a, .b, .c]), (17, roK [.a, .b, .c]), (18, roK [.b, .s, .c]), (19, roK [.k, .b, .s, .c]), (20, roK [.a, .b, .c, .n]), (21, roK [.a, .b, .c, .n]), (22, roSh), (23, roW W), (24, insO insD)]) _ (fun i => 16 - i) [] 0 ⟨Nat.zero_le _, rfl⟩ rfl hS9_ hS1_ rfl (fun _ h => h) ?_
  rintro i ⟨hi, hrun⟩
  repeat (first | refine C.seq ?_ | refine C.region ?_ | refine R.zb ttok ?_ | refine R.zu ttok ?_ | refine R.zc ttok ?_ | refine R.za ttok ?_ | refine R.zx ?_ | refine R.zl ttok ?_ | refine R.zs ttok ?_ | refine R.z ttok ?_ | refine R.zk ?_ | refine R.zn ?_ | refine R.done ?_ | refine X.then ?_ | refine C.block ?_ | refine C.ret ?_ | refine C.skip ?_ | refine C.exit ?_ | refine X.pass_ret ?_ | refine X.pass_exit ?_ | refine X.block_normal ?_ | refine X.block_ret ?_ | refine X.block_exit ?_ | refine C.zt ?_ | refine C.zf ?_ | refine X.zo ?_ | refine X.jump_ret ?_ | refine X.jump_normal ?_ | refine X.jump_exit ?_)
  by_cases hlt : i < 16
  · rw [decide_eq_true (show ((i : Nat) : Int) < 16 by omega)]
    repeat (first | refine C.seq ?_ | refine R.zb ttok ?_ | refine R.zu ttok ?_ | refine R.zc ttok ?_ | refine R.za ttok ?_ | refine R.zx ?_ | refine R.zl ttok ?_ | refine R.zs ttok ?_ | refine R.z ttok ?_ | refine R.zk ?_ | refine R.zn ?_ | refine R.done ?_ | refine X.then ?_ | refine C.block ?_ | refine C.ret ?_ | refine C.skip ?_ | refine C.exit ?_ | refine X.pass_ret ?_ | refine X.pass_exit ?_ | refine X.block_normal ?_ | refine X.block_ret ?_ | refine X.block_exit ?_ | refine C.zt ?_ | refine C.zf ?_ | refine X.zo ?_)
    refine C.cuts (σ := Sh) 27 (fun s => shL[i]? = some s) (fun s => [(1, .sl 23 2 0 W.length cw), (4, .ptr 24 0 0 0), (7, .ptr 25 0 0 0), (11, .sl 22 3 0 16 16), (12, .raw (.int .i64 16)), (13, .raw (.int .i64 (i : Nat)))])
      (fun s => [(0, one0 (.fn 41 [])), (1, one0 (.fn 44 [])), (2, one0 (.fn 45 [])), (3, one0 (.fn 42 [])), (4, one0 (.fn 41 [])), (5, roSg), (6, one0 (.sl 5 1 0 7 7)), (7, roK [.a, .v]), (8, roK [.a, .n]), (9, roK [.a, .b]), (10, roK [.a, .b]), (11, roK [.a, .b]), (12, roK [.a]), (13, roK [.a]), (14, roK [.a, .b, .c]), (15, roK [.a, .b, .c]), (16, roK [.a, .b, .c]), (17, roK [.a, .b, .c]), (18, roK [.b, .s, .c]), (19, roK [.k, .b, .s, .c]), (20, roK [.a, .b, .c, .n]), (21, roK [.a, .b, .c, .n]), (22, roSh), (23, roW W), (24, insO insD), (25, .cells [.raw (.string s.w), .raw (.int .i64 (s.op : Nat)), .sl 26 2 0 s.f.length s.f.length] shpT), (26, roK s.f)]) ?_ ?_
    · refine sS_ ?_
      refine R.ix ttok i rfl rfl rfl rfl rfl (by kernel_rfl) rfl hlt ⟨Nat.zero_le _, by omega⟩ rfl ?_
      by_cases e0 : i = 0
      · subst e0
        refine R.ldo (v := .agg [.raw (.string ⟨#[115, 101, 116]⟩), .raw (.int .i64 1), .sl 7 2 0 2 2]) ttok rfl rfl rfl rfl rfl (by kernel_rfl) (by decide) ?_
        refine sS_ ?_
        exact X.backR [(26, 7)] ⟨⟨#[115, 101, 116]⟩, 1, [.a, .v]⟩ rfl Nat.zero_lt_one rfl hS9_ hS1_ rfl (fun _ h => h)
      by_cases e1 : i = 1
      · subst e1
        refine R.ldo (v := .agg [.raw (.string ⟨#[97, 114, 103]⟩), .raw (.int .i64 2), .sl 8 2 0 2 2]) ttok rfl rfl rfl rfl rfl (by kernel_rfl) (by decide) ?_
        refine sS_ ?_
        exact X.backR [(26, 8)] ⟨⟨#[97, 114, 103]⟩, 2, [.a, .n]⟩ rfl Nat.zero_lt_one rfl hS9_ hS1_ rfl (fun _ h => h)
      by_cases e2 : i = 2
      · subst e2
        refine R.ldo (v := .agg [.raw (.string ⟨#[103, 101, 116]⟩), .raw (.int .i64 3), .sl 9 2 0 2 2]) ttok rfl rfl rfl rfl rfl (by kernel_rfl) (by decide) ?_
        refine sS_ ?_
        exact X.backR [(26, 9)] ⟨⟨#[103, 101, 116]⟩, 3, [.a, .b]⟩ rfl Nat.zero_lt_one rfl hS9_ hS1_ rfl (fun _ h => h)
      by_cases e3 : i = 3
      · subst e3
        refine R.ldo (v := .agg [.raw (.string ⟨#[110, 101, 120, 116]⟩), .raw (.int .i64 14), .sl 10 2 0 2 2]) ttok rfl rfl rfl rfl rfl (by kernel_rfl) (by decide) ?_
        refine sS_ ?_
        exact X.backR [(26, 10)] ⟨⟨#[110, 101, 120, 116]⟩, 14, [.a, .b]⟩ rfl Nat.zero_lt_one rfl hS9_ hS1_ rfl (fun _ h => h)
      by_cases e4 : i = 4
      · subst e4
        refine R.ldo (v := .agg [.raw (.string ⟨#[112, 117, 116]⟩), .raw (.int .i64 4), .sl 11 2 0 2 2]) ttok rfl rfl rfl rfl rfl (by kernel_rfl) (by decide) ?_
        refine sS_ ?_
        exact X.backR [(26, 11)] ⟨⟨#[112, 117, 116]⟩, 4, [.a, .b]⟩ rfl Nat.zero_lt_one rfl hS9_ hS1_ rfl (fun _ h => h)
      by_cases e5 : i = 5
      · subst e5
        refine R.ldo (v := .agg [.raw (.string ⟨#[100, 101, 108]⟩), .raw (.int .i64 5), .sl 12 2 0 1 1]) ttok rfl rfl rfl rfl rfl (by kernel_rfl) (by decide) ?_
        refine sS_ ?_
        exact X.backR [(26, 12)] ⟨⟨#[100, 101, 108]⟩, 5, [.a]⟩ rfl Nat.zero_lt_one rfl hS9_ hS1_ rfl (fun _ h => h)
      by_cases e6 : i = 6
      · subst e6
        refine R.ldo (v := .agg [.raw (.string ⟨#[116, 101, 108, 108]⟩), .raw (.int .i64 15), .sl 13 2 0 1 1]) ttok rfl rfl rfl rfl rfl (by kernel_rfl) (by decide) ?_
        refine sS_ ?_
        exact X.backR [(26, 13)] ⟨⟨#[116, 101, 108, 108]⟩, 15, [.a]⟩ rfl Nat.zero_lt_one rfl hS9_ hS1_ rfl (fun _ h => h)
      by_cases e7 : i = 7
      · subst e7
        refine R.ldo (v := .agg [.raw (.string ⟨#[97, 100, 100]⟩), .raw (.int .i64 6), .sl 14 2 0 3 3]) ttok rfl rfl rfl rfl rfl (by kernel_rfl) (by decide) ?_
        refine sS_ ?_
        exact X.backR [(26, 14)] ⟨⟨#[97, 100, 100]⟩, 6, [.a, .b, .c]⟩ rfl Nat.zero_lt_one rfl hS9_ hS1_ rfl (fun _ h => h)
      by_cases e8 : i = 8
      · subst e8
        refine R.ldo (v := .agg [.raw (.string ⟨#[115, 117, 98]⟩), .raw (.int .i64 7), .sl 15 2 0 3 3]) ttok rfl rfl rfl rfl rfl (by kernel_rfl) (by decide) ?_
        refine sS_ ?_
        exact X.backR [(26, 15)] ⟨⟨#[115, 117, 98]⟩, 7, [.a, .b, .c]⟩ rfl Nat.zero_lt_one rfl hS9_ hS1_ rfl (fun _ h => h)
      by_cases e9 : i = 9
      · subst e9
        refine R.ldo (v := .agg [.raw (.string ⟨#[109, 117, 108]⟩), .raw (.int .i64 8), .sl 16 2 0 3 3]) ttok rfl rfl rfl rfl rfl (by kernel_rfl) (by decide) ?_
        refine sS_ ?_
        exact X.backR [(26, 16)] ⟨⟨#[109, 117, 108]⟩, 8, [.a, .b, .c]⟩ rfl Nat.zero_lt_one rfl hS9_ hS1_ rfl (fun _ h => h)
      by_cases e10 : i = 10
      · subst e10
        refine R.ldo (v := .agg [.raw (.string ⟨#[106, 111, 105, 110]⟩), .raw (.int .i64 9), .sl 17 2 0 3 3]) ttok rfl rfl rfl rfl rfl (by kernel_rfl) (by decide) ?_
        refine sS_ ?_
        exact X.backR [(26, 17)] ⟨⟨#[106, 111, 105, 110]⟩, 9, [.a, .b, .c]⟩ rfl Nat.zero_lt_one rfl hS9_ hS1_ rfl (fun _ h => h)
      by_cases e11 : i = 11
      · subst e11
        refine R.ldo (v := .agg [.raw (.string ⟨#[110, 101, 101, 100]⟩), .raw (.int .i64 10), .sl 18 2 0 3 3]) ttok rfl rfl rfl rfl rfl (by kernel_rfl) (by decide) ?_
        refine sS_ ?_
        exact X.backR [(26, 18)] ⟨⟨#[110, 101, 101, 100]⟩, 10, [.b, .s, .c]⟩ rfl Nat.zero_lt_one rfl hS9_ hS1_ rfl (fun _ h => h)
      by_cases e12 : i = 12
      · subst e12
        refine R.ldo (v := .agg [.raw (.string ⟨#[115, 107, 105, 112]⟩), .raw (.int .i64 11), .sl 19 2 0 4 4]) ttok rfl rfl rfl rfl rfl (by kernel_rfl) (by decide) ?_
        refine sS_ ?_
        exact X.backR [(26, 19)] ⟨⟨#[115, 107, 105, 112]⟩, 11, [.k, .b, .s, .c]⟩ rfl Nat.zero_lt_one rfl hS9_ hS1_ rfl (fun _ h => h)
      by_cases e13 : i = 13
      · subst e13
        refine R.ldo (v := .agg [.raw (.string ⟨#[115, 117, 109]⟩), .raw (.int .i64 12), .sl 20 2 0 4 4]) ttok rfl rfl rfl rfl rfl (by kernel_rfl) (by decide) ?_
        refine sS_ ?_
        exact X.backR [(26, 20)] ⟨⟨#[115, 117, 109]⟩, 12, [.a, .b, .c, .n]⟩ rfl Nat.zero_lt_one rfl hS9_ hS1_ rfl (fun _ h => h)
      by_cases e14 : i = 14
      · subst e14
        refine R.ldo (v := .agg [.raw (.string ⟨#[99, 111, 117, 110, 116]⟩), .raw (.int .i64 13), .sl 21 2 0 4 4]) ttok rfl rfl rfl rfl rfl (by kernel_rfl) (by decide) ?_
        refine sS_ ?_
        exact X.backR [(26, 21)] ⟨⟨#[99, 111, 117, 110, 116]⟩, 13, [.a, .b, .c, .n]⟩ rfl Nat.zero_lt_one rfl hS9_ hS1_ rfl (fun _ h => h)
      obtain rfl : i = 15 := by omega
      refine R.ldo (v := .agg [.raw (.string ⟨#[115, 116, 111, 112]⟩), .raw (.int .i64 16), .raw (.slice none 0 0)]) ttok rfl rfl rfl rfl rfl (by kernel_rfl) (by decide) ?_
      refine sS_ ?_
      refine X.noneH 25 [.raw (.string ⟨#[115, 116, 111, 112]⟩), .raw (.int .i64 16), .sl 26 2 0 0 0] (.tab 2 0 0 (fkF []) fldT) (none_tab _ _ _ _) rfl rfl rfl (fun ρ h => by
        have h : ρ 26 = none := h
        show _ = AV.concs ρ [.raw (.string ⟨#[115, 116, 111, 112]⟩), .raw (.int .i64 16), .raw (.slice none 0 0)]
        simp [AV.concs, AV.conc, h]) ?_
      exact X.backR [] ⟨⟨#[115, 116, 111, 112]⟩, 16, []⟩ rfl Nat.zero_lt_one rfl hS9_ (by repeat (first | exact HasH.nil | refine HasH.same rfl rfl rfl trivial ?_ | refine HasH.same rfl rfl rfl rfl ?_ | refine HasH.same rfl rfl rfl (roA_bd rfl) ?_ | refine HasH.same rfl (fk_ren _ _ rfl rfl rfl rfl rfl rfl) rfl (fk_bd _ _ (Nat.le_of_ble_eq_true rfl)) ?_ | refine HasH.same rfl rfl rfl (fun _ _ => rfl) ?_ | refine HasH.same rfl (sh_ren _ (by decide)) rfl (sh_bd _ (Nat.le_of_ble_eq_true rfl)) ?_ | refine HasH.other rfl (fun e => by cases e) (fun ρ x w hh => tab0_ro hh) rfl (fun i hi => absurd hi (Nat.not_lt_zero i)) ?_)) rfl (fun _ h => h)
    · rintro s hs
      have hif := sh_drop hs
      rw [hif] at hrun
      have hskip : insFrom (shL.drop (i + 1)) W = insFrom (s :: shL.drop (i + 1)) W → i + 1 ≤ 16 ∧ insFrom (shL.drop (i + 1)) W = insP W := fun h => ⟨hlt, h.trans hrun⟩
      have hsk : ¬ (p0.2 = false ∧ strB p0.1 = strB s.w ∧ W.length = 1 + s.f.length) → i + 1 ≤ 16 ∧ insFrom (shL.drop (i + 1)) W = insP W := fun h => hskip (ins_skip (by rw [hp0]; exact h)).symm
      have hl4 : s.f.length ≤ 4 := sh_len hs
      obtain ⟨t0, q0⟩ := p0
      dsimp only at hsk
      refine sS_ ?_
      refine C.draw [[], [0], [0, 1], [0, 1, 2], [0, 1, 2, 3], [0, 1, 2, 3, 4], [0, 1, 2, 3, 4, 5], [0, 1, 2, 3, 4, 5, 6], [0, 1, 2, 3, 4, 5, 6, 7], [0, 1, 2, 3, 4], [0, 1, 2, 3, 4, 9], [0, 1, 2, 3, 4, 5, 6, 7, 8, 9, 10], [0, 1, 2, 3, 4, 5, 6, 7, 8, 9, 10, 11], [0, 1, 2, 3, 4, 5, 6, 7, 8, 9, 10, 11, 12], [0, 1, 2, 3, 4, 5, 6, 7, 8, 9, 10, 11, 12, 13], [0, 1, 2, 3, 4, 5, 6, 7, 8, 9, 10, 11, 12, 13, 14], [0, 1, 2, 3, 4, 5, 6, 7, 8, 9, 10, 11, 12, 13], [0, 1, 2, 3, 4, 5, 6, 7, 8, 9, 10, 11, 12, 13, 16], [0, 1, 2, 3, 4, 5, 6, 7, 8, 9, 10, 11, 12, 13, 16, 17], [0, 1, 2, 3, 4, 5, 6, 7, 8, 9, 10, 11, 12, 13, 16, 17, 18], [0, 1, 2, 3, 4, 5, 6, 7, 8, 9, 10, 11, 12, 13, 14, 15, 16, 17, 18, 19], [0, 1, 2, 3, 4, 5, 6, 7, 8, 9, 10, 11, 12, 13, 14, 15, 16, 17, 18, 19, 20]] [] (by kernel_rfl) (by kernel_rfl) ?_
      refine sS_ ?_
      refine R.ix ttok 0 rfl rfl rfl rfl rfl (by kernel_rfl) rfl hWp ⟨Nat.le_refl 0, by omega⟩ rfl ?_
      refine sS_ ?_
      refine R.ldo (v := .raw (.bool q0)) ttok rfl rfl rfl (by rw [hF0]; rfl) rfl (by kernel_rfl) hWp ?_
      cases q0 with
      | true =>
        refine sS_ ?_
        exact X.back [] (i + 1) (hsk (fun h => by cases h.1)) (by omega) rfl hS9_ hS1_ rfl (fun _ h => h)
      | false =>
        refine sS_ ?_
        refine R.ix ttok 0 rfl rfl rfl rfl rfl (by kernel_rfl) rfl hWp ⟨Nat.le_refl 0, by omega⟩ rfl ?_
        refine sS_ ?_
        refine R.ldo (v := .raw (.string t0)) ttok rfl rfl rfl (by rw [hF0]; rfl) rfl (by kernel_rfl) hWp ?_
        refine sS_ ?_
        rw [neS]
        by_cases hw : strB t0 = strB s.w
        · rw [decide_eq_false (show ¬ strB t0 ≠ strB s.w from fun h => h hw)]
          refine sS_ ?_
          by_cases hl : W.length = 1 + s.f.length
          · rw [decide_eq_false (show ¬ ((W.length : Nat) : Int) ≠ 1 + (s.f.length : Nat) by omega)]
            have hc : (W.headD wdD).2 = false ∧ strB (W.headD wdD).1 = strB s.w ∧ W.length = 1 + s.f.length := by rw [hp0]; exact ⟨rfl, hw, hl⟩
            refine sS_ ?_
            refine C.loop (σ := Nat × Ins) (L2 := 28) (fun x => x.1 ≤ s.f.length ∧ rdP s.f (insZ s.op) (W.drop 1) = rdP (s.f.drop x.1) x.2 (W.drop (1 + x.1))) (fun x => [(1, .sl 23 2 0 W.length cw), (4, .ptr 24 0 0 0), (8, .ptr 27 0 0 0), (11, .sl 22 3 0 16 16), (12, .raw (.int .i64 16)), (13, .raw (.int .i64 (i : Nat))), (43, .sl 26 2 0 s.f.length s.f.length), (44, .raw (.int .i64 (s.f.length : Nat))), (45, .raw (.int .i64 (x.1 : Nat)))])
              (fun x => [(0, one0 (.fn 41 [])), (1, one0 (.fn 44 [])), (2, one0 (.fn 45 [])), (3, one0 (.fn 42 [])), (4, one0 (.fn 41 [])), (5, roSg), (6, one0 (.sl 5 1 0 7 7)), (7, roK [.a, .v]), (8, roK [.a, .n]), (9, roK [.a, .b]), (10, roK [.a, .b]), (11, roK [.a, .b]), (12, roK [.a]), (13, roK [.a]), (14, roK [.a, .b, .c]), (15, roK [.a, .b, .c]), (16, roK [.a, .b, .c]), (17, roK [.a, .b, .c]), (18, roK [.b, .s, .c]), (19, roK [.k, .b, .s, .c]), (20, roK [.a, .b, .c, .n]), (21, roK [.a, .b, .c, .n]), (22, roSh), (23, roW W), (24, insO insD), (26, roK s.f), (27, insO x.2)]) _ (fun x => s.f.length - x.1) [] (0, insZ s.op) ⟨Nat.zero_le _, rfl⟩ rfl hS9_ hS1_ rfl (fun _ h => h) ?_
            rintro ⟨j, x⟩ ⟨hj, hrd⟩
            dsimp only at hj hrd ⊢
            refine sS_ ?_
            by_cases hjl : j < s.f.length
            · rw [decide_eq_true (show ((j : Nat) : Int) < (s.f.length : Nat) by omega)]
              obtain ⟨k, hk⟩ : ∃ k, s.f[j]? = some k := ⟨_, List.getElem?_eq_getElem hjl⟩
              rw [rd_go hk (by omega)] at hrd
              have hB := fkF_at hk
              obtain ⟨p, hp⟩ : ∃ p, W.getD (1 + j) wdD = p := ⟨_, rfl⟩
              have hC : wdF W (1 + j) = wdX p := by unfold wdF; rw [hp]
              have hps : p.1.size ≤ 1000000 := hsz p (by
                rw [← hp, List.getD_eq_getElem?_getD, List.getElem?_eq_getElem (show 1 + j < W.length by omega)]
                exact List.getElem_mem _)
              rw [hp] at hrd
              obtain ⟨t, q⟩ := p
              dsimp only at hps
              have hgo : ∀ y, k.rd x (t, q) = (y, true) → j + 1 ≤ s.f.length ∧ rdP s.f (insZ s.op) (W.drop 1) = rdP (s.f.drop (j + 1)) y (W.drop (1 + (j + 1))) := fun y h => ⟨hjl, by rw [h] at hrd; exact hrd⟩
              have hno : (k.rd x (t, q)).2 = false → i + 1 ≤ 16 ∧ insFrom (shL.drop (i + 1)) W = insP W := fun h => hskip (ins_none hc (by rw [h] at hrd; exact hrd)).symm
              clear hrd
              cases k with
              | a =>
                refine sS_ ?_
                refine R.ix ttok j rfl rfl rfl rfl rfl (by kernel_rfl) rfl hjl ⟨by omega, by omega⟩ rfl ?_
                refine R.ldo (v := .agg (FK.av .a)) ttok rfl rfl rfl (by rw [hB]; rfl) rfl (by kernel_rfl) hjl ?_
                refine sS_ ?_
                refine C.draw [[], [0], [], [], [3], [2, 3, 4], [2, 3, 4, 5], [0, 1, 2, 3, 4, 5, 6], [0, 1, 2, 3, 4, 5, 6, 7]] [7] (by kernel_rfl) (by kernel_rfl) ?_
                refine sS_ ?_
                refine R.ix ttok (1 + j) rfl rfl rfl rfl rfl (by kernel_rfl) (by omega) (by omega) ⟨by omega, by omega⟩ rfl ?_
                refine R.ldo (v := wdA t q) ttok rfl rfl rfl (by rw [hC]; rfl) rfl (by kernel_rfl) (by omega) ?_
                refine sS_ ?_
                refine R.cl [27, 0] (regA_read x t q (by omega)) Tryz.call86 hS8_ rfl rfl rfl (fun _ => rfl) rfl (by kernel_rfl) fun _ _ => ?_
                refine sS_ ?_
                cases hb : regB t q with
                | false =>
                  refine sS_ ?_
                  exact X.back [] (i + 1) (hno hb) (by omega) rfl hS9_ hS1_ rfl (fun _ h => h)
                | true =>
                  refine sS_ ?_
                  exact X.back [] (j + 1, _) (hgo _ (Prod.ext rfl hb)) (by omega) rfl hS9_ hS1_ rfl (fun _ h => h)
              | b =>
                refine sS_ ?_
                refine R.ix ttok j rfl rfl rfl rfl rfl (by kernel_rfl) rfl hjl ⟨by omega, by omega⟩ rfl ?_
                refine R.ldo (v := .agg (FK.av .b)) ttok rfl rfl rfl (by rw [hB]; rfl) rfl (by kernel_rfl) hjl ?_
                refine sS_ ?_
                refine C.draw [[], [0], [], [], [3], [2, 3, 4], [2, 3, 4, 5], [0, 1, 2, 3, 4, 5, 6], [0, 1, 2, 3, 4, 5, 6, 7]] [7] (by kernel_rfl) (by kernel_rfl) ?_
                refine sS_ ?_
                refine R.ix ttok (1 + j) rfl rfl rfl rfl rfl (by kernel_rfl) (by omega) (by omega) ⟨by omega, by omega⟩ rfl ?_
                refine R.ldo (v := wdA t q) ttok rfl rfl rfl (by rw [hC]; rfl) rfl (by kernel_rfl) (by omega) ?_
                refine sS_ ?_
                refine R.cl [27, 1] (regB_read x t q (by omega)) Tryz.call86 hS8_ rfl rfl rfl (fun _ => rfl) rfl (by kernel_rfl) fun _ _ => ?_
                refine sS_ ?_
                cases hb : regB t q with
                | false =>
                  refine sS_ ?_
                  exact X.back [] (i + 1) (hno hb) (by omega) rfl hS9_ hS1_ rfl (fun _ h => h)
                | true =>
                  refine sS_ ?_
                  exact X.back [] (j + 1, _) (hgo _ (Prod.ext rfl hb)) (by omega) rfl hS9_ hS1_ rfl (fun _ h => h)
              | c =>
                refine sS_ ?_
                refine R.ix ttok j rfl rfl rfl rfl rfl (by kernel_rfl) rfl hjl ⟨by omega, by omega⟩ rfl ?_
                refine R.ldo (v := .agg (FK.av .c)) ttok rfl rfl rfl (by rw [hB]; rfl) rfl (by kernel_rfl) hjl ?_
                refine sS_ ?_
                refine C.draw [[], [0], [], [], [3], [2, 3, 4], [2, 3, 4, 5], [0, 1, 2, 3, 4, 5, 6], [0, 1, 2, 3, 4, 5, 6, 7]] [7] (by kernel_rfl) (by kernel_rfl) ?_
                refine sS_ ?_
                refine R.ix ttok (1 + j) rfl rfl rfl rfl rfl (by kernel_rfl) (by omega) (by omega) ⟨by omega, by omega⟩ rfl ?_
                refine R.ldo (v := wdA t q) ttok rfl rfl rfl (by rw [hC]; rfl) rfl (by kernel_rfl) (by omega) ?_
                refine sS_ ?_
                refine R.cl [27, 2] (regC_read x t q (by omega)) Tryz.call86 hS8_ rfl rfl rfl (fun _ => rfl) rfl (by kernel_rfl) fun _ _ => ?_
                refine sS_ ?_
                cases hb : regB t q with
                | false =>
                  refine sS_ ?_
                  exact X.back [] (i + 1) (hno hb) (by omega) rfl hS9_ hS1_ rfl (fun _ h => h)
                | true =>
                  refine sS_ ?_
                  exact X.back [] (j + 1, _) (hgo _ (Prod.ext rfl hb)) (by omega) rfl hS9_ hS1_ rfl (fun _ h => h)
              | n =>
                refine sS_ ?_
                refine R.ix ttok j rfl rfl rfl rfl rfl (by kernel_rfl) rfl hjl ⟨by omega, by omega⟩ rfl ?_
                refine R.ldo (v := .agg (FK.av .n)) ttok rfl rfl rfl (by rw [hB]; rfl) rfl (by kernel_rfl) hjl ?_
                refine sS_ ?_
                refine C.draw [[], [0], [], [], [3], [2, 3, 4], [2, 3, 4, 5], [0, 1, 2, 3, 4, 5, 6], [0, 1, 2, 3, 4, 5, 6, 7]] [7] (by kernel_rfl) (by kernel_rfl) ?_
                refine sS_ ?_
                refine R.ix ttok (1 + j) rfl rfl rfl rfl rfl (by kernel_rfl) (by omega) (by omega) ⟨by omega, by omega⟩ rfl ?_
                refine R.ldo (v := wdA t q) ttok rfl rfl rfl (by rw [hC]; rfl) rfl (by kernel_rfl) (by omega) ?_
                refine sS_ ?_
                refine R.cl [27, 3] (plainN_read x t q (by omega)) Tryz.call89 hS8_ rfl rfl rfl (fun _ => rfl) rfl (by kernel_rfl) fun _ _ => ?_
                refine sS_ ?_
                cases hb : numB t q with
                | false =>
                  refine sS_ ?_
                  exact X.back [] (i + 1) (hno hb) (by omega) rfl hS9_ hS1_ rfl (fun _ h => h)
                | true =>
                  refine sS_ ?_
                  exact X.back [] (j + 1, _) (hgo _ (Prod.ext rfl hb)) (by omega) rfl hS9_ hS1_ rfl (fun _ h => h)
              | k =>
                refine sS_ ?_
                refine R.ix ttok j rfl rfl rfl rfl rfl (by kernel_rfl) rfl hjl ⟨by omega, by omega⟩ rfl ?_
                refine R.ldo (v := .agg (FK.av .k)) ttok rfl rfl rfl (by rw [hB]; rfl) rfl (by kernel_rfl) hjl ?_
                refine sS_ ?_
                refine C.draw [[], [0], [], [], [3], [2, 3, 4], [2, 3, 4, 5], [0, 1, 2, 3, 4, 5, 6], [0, 1, 2, 3, 4, 5, 6, 7]] [7] (by kernel_rfl) (by kernel_rfl) ?_
                refine sS_ ?_
                refine R.ix ttok (1 + j) rfl rfl rfl rfl rfl (by kernel_rfl) (by omega) (by omega) ⟨by omega, by omega⟩ rfl ?_
                refine R.ldo (v := wdA t q) ttok rfl rfl rfl (by rw [hC]; rfl) rfl (by kernel_rfl) (by omega) ?_
                refine sS_ ?_
                refine R.cl [27, 4] (plainA_read x t q (by omega)) Tryz.call89 hS8_ rfl rfl rfl (fun _ => rfl) rfl (by kernel_rfl) fun _ _ => ?_
                refine sS_ ?_
                cases hb : numB t q with
                | false =>
                  refine sS_ ?_
                  exact X.back [] (i + 1) (hno hb) (by omega) rfl hS9_ hS1_ rfl (fun _ h => h)
                | true =>
                  refine sS_ ?_
                  exact X.back [] (j + 1, _) (hgo _ (Prod.ext rfl hb)) (by omega) rfl hS9_ hS1_ rfl (fun _ h => h)
              | s =>
                refine sS_ ?_
                refine R.ix ttok j rfl rfl rfl rfl rfl (by kernel_rfl) rfl hjl ⟨by omega, by omega⟩ rfl ?_
                refine R.ldo (v := .agg (FK.av .s)) ttok rfl rfl rfl (by rw [hB]; rfl) rfl (by kernel_rfl) hjl ?_
                refine sS_ ?_
                refine C.draw [[], [0], [], [], [3], [2, 3, 4], [2, 3, 4, 5], [0, 1, 2, 3, 4, 5, 6], [0, 1, 2, 3, 4, 5, 6, 7]] [7] (by kernel_rfl) (by kernel_rfl) ?_
                refine sS_ ?_
                refine R.ix ttok (1 + j) rfl rfl rfl rfl rfl (by kernel_rfl) (by omega) (by omega) ⟨by omega, by omega⟩ rfl ?_
                refine R.ldo (v := wdA t q) ttok rfl rfl rfl (by rw [hC]; rfl) rfl (by kernel_rfl) (by omega) ?_
                refine sS_ ?_
                refine R.cl [27, 6, 5] (sign_read x t q) Tryz.call47 hS8_ rfl rfl rfl (fun _ => rfl) rfl (by kernel_rfl) fun _ _ => ?_
                refine sS_ ?_
                cases hb : (signP t q).isSome with
                | false =>
                  refine sS_ ?_
                  exact X.back [] (i + 1) (hno hb) (by omega) rfl hS9_ hS1_ rfl (fun _ h => h)
                | true =>
                  refine sS_ ?_
                  exact X.back [] (j + 1, _) (hgo _ (Prod.ext rfl hb)) (by omega) rfl hS9_ hS1_ rfl (fun _ h => h)
              | v =>
                refine sS_ ?_
                refine R.ix ttok j rfl rfl rfl rfl rfl (by kernel_rfl) rfl hjl ⟨by omega, by omega⟩ rfl ?_
                refine R.ldo (v := .agg (FK.av .v)) ttok rfl rfl rfl (by rw [hB]; rfl) rfl (by kernel_rfl) hjl ?_
                refine sS_ ?_
                refine C.draw [[], [0], [], [], [3], [2, 3, 4], [2, 3, 4, 5], [0, 1, 2, 3, 4, 5, 6], [0, 1, 2, 3, 4, 5, 6, 7]] [7] (by kernel_rfl) (by kernel_rfl) ?_
                refine sS_ ?_
                refine R.ix ttok (1 + j) rfl rfl rfl rfl rfl (by kernel_rfl) (by omega) (by omega) ⟨by omega, by omega⟩ rfl ?_
                refine R.ldo (v := wdA t q) ttok rfl rfl rfl (by rw [hC]; rfl) rfl (by kernel_rfl) (by omega) ?_
                refine sS_ ?_
                refine R.clR [27] (value_read x t q (by omega) fs hG) hG.ro Tryz.call49 hS8_ rfl rfl rfl (fun _ => rfl) rfl (by kernel_rfl) fun _ _ => ?_
                refine sS_ ?_
                cases hb : (valP t q).ok with
                | false =>
                  refine sS_ ?_
                  exact X.back [] (i + 1) (hno hb) (by omega) rfl hS9_ hS1_ rfl (fun _ h => h)
                | true =>
                  refine sS_ ?_
                  exact X.back [] (j + 1, _) (hgo _ (Prod.ext rfl hb)) (by omega) rfl hS9_ hS1_ rfl (fun _ h => h)
            · rw [decide_eq_false (show ¬ ((j : Nat) : Int) < (s.f.length : Nat) by omega)]
              obtain rfl : j = s.f.length := by omega
              rw [List.drop_length] at hrd
              have hsome : insP W = some x := hrun.symm.trans (ins_some hc hrd)
              refine sS_ ?_
              repeat (first | refine C.seq ?_ | refine C.region ?_ | refine R.zb ttok ?_ | refine R.zu ttok ?_ | refine R.zc ttok ?_ | refine R.za ttok ?_ | refine R.zx ?_ | refine R.zl ttok ?_ | refine R.zs ttok ?_ | refine R.z ttok ?_ | refine R.zk ?_ | refine R.zn ?_ | refine R.done ?_ | refine X.then ?_ | refine C.block ?_ | refine C.ret ?_ | refine C.skip ?_ | refine C.exit ?_ | refine X.pass_ret ?_ | refine X.pass_exit ?_ | refine X.block_normal ?_ | refine X.block_ret ?_ | refine X.block_exit ?_ | refine C.zt ?_ | refine C.zf ?_ | refine X.zo ?_ | refine X.jump_ret ?_ | refine X.jump_normal ?_ | refine X.jump_exit ?_)
              refine X.finF ttok (x, true) [] (by unfold insG; rw [hsome]) rfl rfl rfl hS5_ _ (by first | exact .inl rfl | exact .inr rfl) ?_ ?_ ?_
              · exact fun w' hf => hf.ap
              · exact fun p hp => hp
              · exact fun p hp e => ⟨p, hp, rfl⟩
          · rw [decide_eq_true (show ((W.length : Nat) : Int) ≠ 1 + (s.f.length : Nat) by omega)]
            refine sS_ ?_
            exact X.back [] (i + 1) (hsk (fun h => hl h.2.2)) (by omega) rfl hS9_ hS1_ rfl (fun _ h => h)
        · rw [decide_eq_true (show strB t0 ≠ strB s.w from hw)]
          refine sS_ ?_
          exact X.back [] (i + 1) (hsk (fun h => hw h.2.1)) (by omega) rfl hS9_ hS1_ rfl (fun _ h => h)
  · rw [decide_eq_false (show ¬ ((i : Nat) : Int) < 16 by omega)]
    obtain rfl : i = 16 := by omega
    have hnone : insP W = none := hrun.symm
    repeat (first | refine C.seq ?_ | refine C.region ?_ | refine R.zb ttok ?_ | refine R.zu ttok ?_ | refine R.zc ttok ?_ | refine R.za ttok ?_ | refine R.zx ?_ | refine R.zl ttok ?_ | refine R.zs ttok ?_ | refine R.z ttok ?_ | refine R.zk ?_ | refine R.zn ?_ | refine R.done ?_ | refine X.then ?_ | refine C.block ?_ | refine C.ret ?_ | refine C.skip ?_ | refine C.exit ?_ | refine X.pass_ret ?_ | refine X.pass_exit ?_ | refine X.block_normal ?_ | refine X.block_ret ?_ | refine X.block_exit ?_ | refine C.zt ?_ | refine C.zf ?_ | refine X.zo ?_ | refine X.jump_ret ?_ | refine X.jump_normal ?_ | refine X.jump_exit ?_)
    refine X.finF ttok (insD, false) [] (by unfold insG; rw [hnone]) rfl rfl rfl hS5_ _ (by first | exact .inl rfl | exact .inr rfl) ?_ ?_ ?_
    · exact fun w' hf => hf.ap
    · exact fun p hp => hp
    · exact fun p hp e => ⟨p, hp, rfl⟩
end Go.Proofs.YtaieficgifingaaGreatDoor
