/- Texts of the claim, merged: only what the theorem needs. -/
import Derived.Test.YteabncomclgncaaSol
import Derived.Lib.Bytealg
namespace Go.Proofs.Yteabncomclgncaa
theorem u8_lt (a b : UInt8) : a < b ↔ a.toNat < b.toNat := UInt8.lt_iff_toNat_lt
theorem u8_eq (a b : UInt8) : a = b ↔ a.toNat = b.toNat := ⟨fun h => by rw [h], fun h => UInt8.toNat_inj.1 h⟩
open Lib (compareBytes)
theorem cb_cons (a b : UInt8) (as bs : List UInt8) : compareBytes (a :: as) (b :: bs) = if a < b then -1 else if b < a then 1 else compareBytes as bs := by rw [compareBytes]
theorem cb_zero : ∀ {a b : List UInt8}, compareBytes a b = 0 ↔ a = b
  | [], [] => by simp [compareBytes]
  | [], _ :: _ => by simp [compareBytes]
  | _ :: _, [] => by simp [compareBytes]
  | a :: as, b :: bs => by
    rw [cb_cons, List.cons.injEq, u8_eq]
    simp only [u8_lt]
    split
    · constructor
      · intro h; omega
      · intro h; omega
    · split
      · constructor
        · intro h; omega
        · intro h; omega
      · rw [cb_zero (a := as) (b := bs)]
        constructor
        · intro h; exact ⟨by omega, h⟩
        · intro h; exact h.2
theorem cb_swap : ∀ (a b : List UInt8), compareBytes a b = - compareBytes b a
  | [], [] => by simp [compareBytes]
  | [], _ :: _ => by simp [compareBytes]
  | _ :: _, [] => by simp [compareBytes]
  | a :: as, b :: bs => by
    rw [cb_cons, cb_cons]
    simp only [u8_lt]
    by_cases h1 : a.toNat < b.toNat
    · rw [if_pos h1, if_neg (by omega), if_pos h1]
    · rw [if_neg h1]
      by_cases h2 : b.toNat < a.toNat
      · rw [if_pos h2, if_pos h2]; rfl
      · rw [if_neg h2, if_neg h2, if_neg h1, cb_swap as bs]
theorem cb_trans : ∀ {a b c : List UInt8}, compareBytes a b < 0 → compareBytes b c < 0 → compareBytes a c < 0
  | [], [], _, h, _ => by simp [compareBytes] at h
  | _ :: _, [], _, h, _ => by simp [compareBytes] at h
  | _, _ :: _, [], _, h => by simp [compareBytes] at h
  | [], _ :: _, _ :: _, _, _ => by simp [compareBytes]
  | a :: as, b :: bs, c :: cs, h1, h2 => by
    rw [cb_cons] at h1 h2 ⊢
    simp only [u8_lt] at h1 h2 ⊢
    by_cases p1 : a.toNat < b.toNat
    · by_cases p2 : b.toNat < c.toNat
      · rw [if_pos (by omega)]; omega
      · rw [if_neg p2] at h2
        by_cases p3 : c.toNat < b.toNat
        · rw [if_pos p3] at h2; omega
        · rw [if_pos (by omega)]; omega
    · rw [if_neg p1] at h1
      by_cases p3 : b.toNat < a.toNat
      · rw [if_pos p3] at h1; omega
      · rw [if_neg p3] at h1
        by_cases p2 : b.toNat < c.toNat
        · rw [if_pos (by omega)]; omega
        · rw [if_neg p2] at h2
          by_cases p4 : c.toNat < b.toNat
          · rw [if_pos p4] at h2; omega
          · rw [if_neg p4] at h2
            rw [if_neg (by omega), if_neg (by omega)]
            exact cb_trans h1 h2
def cmpS (a b : ByteArray) : Int := compareBytes a.data.toList b.data.toList
theorem cmpS_zero {a b : ByteArray} : cmpS a b = 0 ↔ a = b := by
  unfold cmpS
  rw [cb_zero]
  constructor
  · intro h
    obtain ⟨⟨a⟩⟩ := a
    obtain ⟨⟨b⟩⟩ := b
    simp at h
    rw [h]
  · intro h; rw [h]
theorem cmpS_swap (a b : ByteArray) : cmpS a b = - cmpS b a := cb_swap _ _
theorem cmpS_trans {a b c : ByteArray} (h1 : cmpS a b < 0) (h2 : cmpS b c < 0) : cmpS a c < 0 := cb_trans h1 h2
section
variable {α : Type}
def key (p : ByteArray × α) : ByteArray := p.1
def Asc (l : List (ByteArray × α)) : Prop := l.Pairwise fun p q => cmpS p.1 q.1 < 0
/-- where a key stands, or would stand -/
def plc (l : List (ByteArray × α)) (k : ByteArray) : Nat := l.findIdx fun p => decide (¬ cmpS p.1 k < 0)
theorem plc_le (l : List (ByteArray × α)) (k : ByteArray) : plc l k ≤ l.length := List.findIdx_le_length
theorem plc_iff [Inhabited α] {l : List (ByteArray × α)} (h : Asc l) (k : ByteArray) (z : ByteArray × α) (i : Nat) (hi : i < l.length) : cmpS (l.getD i z).1 k < 0 ↔ i < plc l k := by
  have hg : ∀ j, j < l.length → ∀ hj : j < l.length, l.getD j z = l[j] := fun j _ hj => by simp [List.getD, hj]
  rw [hg i hi hi]
  constructor
  · intro hc
    rcases Nat.lt_or_ge i (plc l k) with h1 | h1
    · exact h1
    · exfalso
      have hp : plc l k < l.length := by omega
      have h2 : ¬ cmpS (l[plc l k]'hp).1 k < 0 := by
        have := List.findIdx_getElem (p := fun p : ByteArray × α => decide (¬ cmpS p.1 k < 0)) (xs := l) (w := hp)
        simpa [plc] using this
      rcases Nat.lt_or_ge (plc l k) i with h3 | h3
      · exact h2 (cmpS_trans (List.pairwise_iff_getElem.1 h _ _ hp hi h3) hc)
      · have : plc l k = i := by omega
        apply h2
        simp only [this]
        exact hc
  · intro h1
    have := List.not_of_lt_findIdx (p := fun p : ByteArray × α => decide (¬ cmpS p.1 k < 0)) (xs := l) h1
    simpa using this
end
end Go.Proofs.Yteabncomclgncaa
