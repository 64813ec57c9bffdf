/- table: TableSteady: facts, the closures, the law -/
import Derived.Test.YtlcojlcackkhpaaTI
/- table: facts for TableMany, TableSteady: what is there behind a Put, a Delete. No program in sight. -/
namespace Go.Proofs.Ytlcojlcackkhpaa
set_option linter.unusedVariables false
set_option linter.unusedSimpArgs false
open Go.RowKit
set_option maxHeartbeats 4000000
theorem getD_at (l : List PI) {i : Nat} (hi : i < l.length) : l.getD i zI = l[i] := by rw [List.getD_eq_getElem?_getD, List.getElem?_eq_getElem hi]; rfl
theorem getD_mem (l : List PI) {i : Nat} (hi : i < l.length) : l.getD i zI ∈ l := by rw [getD_at l hi]; exact List.getElem_mem hi
theorem has_mem {l : List PI} (hA : Asc l) {k : ByteArray} {v : Int} (h : (k, v) ∈ l) : hasK l k = true ∧ getI l k = v := by
  obtain ⟨i, hi, he⟩ := List.mem_iff_getElem.1 h
  have e : l.getD i zI = (k, v) := by rw [getD_at l hi, he]
  have h1 := has_at hA hi
  have h2 := get_at hA hi
  rw [e] at h1 h2
  exact ⟨h1, h2⟩
theorem mem_has {l : List PI} {k : ByteArray} (h : hasK l k = true) : (k, getI l k) ∈ l := by
  have := getD_mem l (hasK_lt h).1
  rw [getI_old h]
  rw [show (k, (l.getD (plc l k) zI).2) = l.getD (plc l k) zI from Prod.ext (hasK_key h).symm rfl]
  exact this
theorem has_iff {l : List PI} (hA : Asc l) (k : ByteArray) : hasK l k = true ↔ ∃ v, (k, v) ∈ l := ⟨fun h => ⟨_, mem_has h⟩, fun ⟨v, h⟩ => (has_mem hA h).1⟩
theorem mem_ins (l : List PI) (i : Nat) (p q : PI) : q ∈ insL l i p ↔ q = p ∨ q ∈ l := by
  unfold insL
  rw [List.mem_append, List.mem_cons]
  have : q ∈ l ↔ q ∈ l.take i ∨ q ∈ l.drop i := by rw [← List.mem_append, List.take_append_drop]
  rw [this]
  constructor
  · rintro (h | h | h)
    · exact .inr (.inl h)
    · exact .inl h
    · exact .inr (.inr h)
  · rintro (h | h | h)
    · exact .inr (.inl h)
    · exact .inl h
    · exact .inr (.inr h)
theorem key_idx {l : List PI} (hA : Asc l) {i j : Nat} (hi : i < l.length) (hj : j < l.length) (h : (l[i]).1 = (l[j]).1) : i = j := by
  rcases Nat.lt_trichotomy i j with h1 | h1 | h1
  · have := List.pairwise_iff_getElem.1 hA i j hi hj h1
    rw [h, cmpS_self] at this; omega
  · exact h1
  · have := List.pairwise_iff_getElem.1 hA j i hj hi h1
    rw [h, cmpS_self] at this; omega
theorem put_iff {l : List PI} (hA : Asc l) (k : ByteArray) (v : Int) (q : PI) : q ∈ putI l k v ↔ q = (k, v) ∨ (q ∈ l ∧ q.1 ≠ k) := by
  cases h : hasK l k with
  | false =>
    rw [putI_new v h, mem_ins]
    have hk : ∀ q ∈ l, q.1 ≠ k := fun q hq e => by
      have := (has_iff hA k).2 ⟨q.2, by rw [← e]; exact hq⟩
      rw [h] at this; cases this
    constructor
    · rintro (h1 | h1)
      · exact .inl h1
      · exact .inr ⟨h1, hk q h1⟩
    · rintro (h1 | ⟨h1, _⟩)
      · exact .inl h1
      · exact .inr h1
  | true =>
    have hlt := (hasK_lt h).1
    have hkey := hasK_key h
    rw [getD_at l hlt] at hkey
    rw [putI_old v h, hasK_key h]
    constructor
    · intro hq
      obtain ⟨j, hj, he⟩ := List.mem_iff_getElem.1 hq
      rw [List.length_set] at hj
      rw [List.getElem_set] at he
      split at he
      · exact .inl he.symm
      · rename_i hne
        subst he
        exact .inr ⟨List.getElem_mem hj, fun e => hne (key_idx hA hlt hj (by rw [hkey, e]))⟩
    · rintro (rfl | ⟨hq, hne⟩)
      · exact List.mem_iff_getElem.2 ⟨plc l k, by rw [List.length_set]; exact hlt, by rw [List.getElem_set, if_pos rfl]⟩
      · obtain ⟨j, hj, rfl⟩ := List.mem_iff_getElem.1 hq
        refine List.mem_iff_getElem.2 ⟨j, by rw [List.length_set]; exact hj, ?_⟩
        rw [List.getElem_set, if_neg]
        intro e
        subst e
        exact hne hkey
theorem del_iff {l : List PI} (hA : Asc l) (k : ByteArray) (q : PI) : q ∈ delI l k ↔ q ∈ l ∧ q.1 ≠ k := by
  cases h : hasK l k with
  | false =>
    rw [delI_new h]
    exact ⟨fun hq => ⟨hq, fun e => by
      have := (has_iff hA k).2 ⟨q.2, by rw [← e]; exact hq⟩
      rw [h] at this; cases this⟩, fun hq => hq.1⟩
  | true =>
    have hlt := (hasK_lt h).1
    have hkey := hasK_key h
    rw [getD_at l hlt] at hkey
    rw [delI_old h]
    unfold delL
    rw [List.mem_append]
    constructor
    · rintro (hq | hq)
      · obtain ⟨j, hj, rfl⟩ := List.mem_iff_getElem.1 hq
        rw [List.length_take] at hj
        rw [List.getElem_take]
        exact ⟨List.getElem_mem _, fun e => by have := key_idx hA (show j < l.length by omega) hlt (by rw [e, hkey]); omega⟩
      · obtain ⟨j, hj, rfl⟩ := List.mem_iff_getElem.1 hq
        rw [List.length_drop] at hj
        rw [List.getElem_drop]
        exact ⟨List.getElem_mem _, fun e => by have := key_idx hA (show plc l k + 1 + j < l.length by omega) hlt (by rw [e, hkey]); omega⟩
    · rintro ⟨hq, hne⟩
      obtain ⟨j, hj, rfl⟩ := List.mem_iff_getElem.1 hq
      rcases Nat.lt_trichotomy j (plc l k) with h1 | h1 | h1
      · exact .inl (List.mem_iff_getElem.2 ⟨j, by rw [List.length_take]; omega, by rw [List.getElem_take]⟩)
      · subst h1; exact absurd hkey hne
      · exact .inr (List.mem_iff_getElem.2 ⟨j - (plc l k + 1), by rw [List.length_drop]; omega, by rw [List.getElem_drop]; congr 1; omega⟩)
theorem put_len_new {l : List PI} {k : ByteArray} (v : Int) (h : hasK l k = false) : (putI l k v).length = l.length + 1 := by rw [putI_new v h, insL_len]
theorem put_len_old {l : List PI} {k : ByteArray} (v : Int) (h : hasK l k = true) : (putI l k v).length = l.length := by rw [putI_old v h, List.length_set]
theorem del_len_old {l : List PI} {k : ByteArray} (h : hasK l k = true) : (delI l k).length + 1 = l.length := by
  have := (hasK_lt h).1
  rw [delI_old h, delL_len l _ this]; omega
theorem del_len_new {l : List PI} {k : ByteArray} (h : hasK l k = false) : (delI l k).length = l.length := by rw [delI_new h]
end Go.Proofs.Ytlcojlcackkhpaa
/- table: facts for TableSteady. No program in sight. -/
namespace Go.Proofs.Ytlcojlcackkhpaa
set_option linter.unusedVariables false
set_option linter.unusedSimpArgs false
open Go.RowKit
set_option maxHeartbeats 4000000
def oneB (q : PI) : Bool := decide (q.2 = 1)
def ones (l : List PI) : List PI := l.filter oneB
theorem set_split (l : List PI) {p : Nat} (hp : p < l.length) (x : PI) : l.set p x = l.take p ++ x :: l.drop (p + 1) := by
  rw [List.set_eq_take_append_cons_drop, if_pos hp]
theorem at_split (l : List PI) {p : Nat} (hp : p < l.length) : l = l.take p ++ l.getD p zI :: l.drop (p + 1) := by
  rw [getD_at l hp, ← List.drop_eq_getElem_cons hp, List.take_append_drop]
theorem ones_put {l : List PI} {k : ByteArray} {v : Int} (hv : v ≠ 1) (hk : ∀ q ∈ ones l, q.1 ≠ k) : ones (putI l k v) = ones l := by
  have h2 : oneB (k, v) = false := decide_eq_false hv
  cases h : hasK l k with
  | false =>
    rw [putI_new v h]
    unfold ones insL
    rw [List.filter_append, List.filter_cons, h2]
    conv => rhs; rw [← List.take_append_drop (plc l k) l, List.filter_append]
    rfl
  | true =>
    have hlt := (hasK_lt h).1
    have h3 : oneB (l.getD (plc l k) zI) = false := by
      cases h4 : oneB (l.getD (plc l k) zI) with
      | false => rfl
      | true => exact absurd (hasK_key h) (hk _ (List.mem_filter.2 ⟨getD_mem l hlt, h4⟩))
    rw [putI_old v h, hasK_key h, set_split l hlt]
    unfold ones
    conv => rhs; rw [at_split l hlt]
    rw [List.filter_append, List.filter_append, List.filter_cons, List.filter_cons, h2, h3]
    rfl
theorem ones_del {l : List PI} {k : ByteArray} (hk : ∀ q ∈ ones l, q.1 ≠ k) : ones (delI l k) = ones l := by
  cases h : hasK l k with
  | false => rw [delI_new h]
  | true =>
    have hlt := (hasK_lt h).1
    have h3 : oneB (l.getD (plc l k) zI) = false := by
      cases h4 : oneB (l.getD (plc l k) zI) with
      | false => rfl
      | true => exact absurd (hasK_key h) (hk _ (List.mem_filter.2 ⟨getD_mem l hlt, h4⟩))
    rw [delI_old h]
    unfold ones delL
    conv => rhs; rw [at_split l hlt]
    rw [List.filter_append, List.filter_append, List.filter_cons, h3]
    rfl
/-- one more -/
theorem ones_more {l : List PI} {k : ByteArray} (h : hasK l k = true) (h0 : getI l k = 0) : (ones (putI l k 1)).length = (ones l).length + 1 ∧ ∀ q ∈ ones (putI l k 1), q.1 = k ∨ q ∈ ones l := by
  have hlt := (hasK_lt h).1
  rw [getI_old h] at h0
  have h3 : oneB (l.getD (plc l k) zI) = false := decide_eq_false (by omega)
  have h2 : oneB (k, 1) = true := rfl
  rw [putI_old 1 h, hasK_key h, set_split l hlt]
  have e : ones l = (l.take (plc l k)).filter oneB ++ (l.drop (plc l k + 1)).filter oneB := by
    unfold ones
    conv => lhs; rw [at_split l hlt]
    rw [List.filter_append, List.filter_cons, h3]
    rfl
  rw [e]
  unfold ones
  rw [List.filter_append, List.filter_cons, h2]
  constructor
  · simp only [List.length_append, if_true, List.length_cons]; omega
  · intro q hq
    simp only [if_true, List.mem_append, List.mem_cons] at hq ⊢
    rcases hq with hq | rfl | hq
    · exact .inr (.inl hq)
    · exact .inl rfl
    · exact .inr (.inr hq)
/-- the keys up to one stand ahead -/
theorem above_iff {l : List PI} (hA : Asc l) (k : ByteArray) {j : Nat} (hj : j < l.length) : cmpS (l.getD j zI).1 k ≤ 0 ↔ j < aboveN l k := by
  have h1 := plc_iff hA k zI j hj
  unfold aboveN
  split
  · rename_i h
    have hlt := (hasK_lt h).1
    have hkey := hasK_key h
    constructor
    · intro h2
      rcases Int.lt_or_eq_of_le h2 with h3 | h3
      · have := h1.1 h3; omega
      · have h4 := cmpS_zero.1 h3
        have := key_idx hA hj hlt (by rw [← getD_at l hj, ← getD_at l hlt, h4, hkey])
        omega
    · intro h2
      rcases Nat.lt_or_ge j (plc l k) with h3 | h3
      · have := h1.2 h3; omega
      · obtain rfl : j = plc l k := by omega
        rw [hkey, cmpS_self]; omega
  · rename_i h
    constructor
    · intro h2
      rcases Int.lt_or_eq_of_le h2 with h3 | h3
      · exact h1.1 h3
      · have h4 := cmpS_zero.1 h3
        exact absurd ((has_mem hA (show (k, (l.getD j zI).2) ∈ l by
          have := getD_mem l hj
          rwa [show l.getD j zI = (k, (l.getD j zI).2) from Prod.ext h4 rfl] at this)).1) h
    · intro h2
      have := h1.2 h2; omega
theorem drop_get (l : List PI) {m j : Nat} (h : m + j < l.length) : (l.drop m)[j]'(by rw [List.length_drop]; omega) = l.getD (m + j) zI := by rw [List.getElem_drop, getD_at l h]
theorem count_le {l : List PI} (hA : Asc l) (k : ByteArray) : (l.take (aboveN l k)).countP oneB = (ones l).countP fun q => decide (cmpS q.1 k ≤ 0) := by
  unfold ones
  rw [List.countP_filter]
  have e : l.countP (fun q => decide (cmpS q.1 k ≤ 0) && oneB q) = (l.take (aboveN l k)).countP (fun q => decide (cmpS q.1 k ≤ 0) && oneB q) + (l.drop (aboveN l k)).countP (fun q => decide (cmpS q.1 k ≤ 0) && oneB q) := by
    rw [← List.countP_append, List.take_append_drop]
  rw [e]
  have h2 : (l.drop (aboveN l k)).countP (fun q => decide (cmpS q.1 k ≤ 0) && oneB q) = 0 := by
    rw [List.countP_eq_zero]
    intro q hq
    obtain ⟨j, hj, rfl⟩ := List.mem_iff_getElem.1 hq
    rw [List.length_drop] at hj
    have hlt : aboveN l k + j < l.length := by omega
    rw [drop_get l hlt, decide_eq_false (fun e => by have := (above_iff hA k hlt).1 e; omega)]
    simp
  rw [h2, Nat.add_zero]
  apply List.countP_congr
  intro q hq
  obtain ⟨j, hj, rfl⟩ := List.mem_iff_getElem.1 hq
  rw [List.length_take] at hj
  have hlt : j < l.length := by omega
  rw [List.getElem_take, ← getD_at l hlt, decide_eq_true ((above_iff hA k hlt).2 (by omega)), Bool.true_and]
/-- how many of value one have been handed on -/
def fnd (l : List PI) (n : Nat) (last : ByteArray) : Nat := (l.take (posN l noT n last)).countP oneB
theorem fnd_zero (l : List PI) (last : ByteArray) : fnd l 0 last = 0 := by
  unfold fnd posN
  rw [if_pos rfl, plc_no]
  rfl
theorem posN_succN (l : List PI) (fr : ByteArray) (n : Nat) (k : ByteArray) : posN l fr (n + 1) k = aboveN l k := if_neg (by omega)
theorem fnd_next {l l2 : List PI} {n : Nat} {last : ByteArray} (hA : Asc l) (hA2 : Asc l2) (ho : ones l2 = ones l) (hi : posN l noT n last < l.length) :
    fnd l2 (n + 1) (l.getD (posN l noT n last) zI).1 = fnd l n last + (if (l.getD (posN l noT n last) zI).2 = 1 then 1 else 0) := by
  have h1 : fnd l2 (n + 1) (l.getD (posN l noT n last) zI).1 = (l.take (posN l noT n last + 1)).countP oneB := by
    unfold fnd
    rw [posN_succN, count_le hA2, ho, ← count_le hA, above_at hA hi]
  rw [h1]
  unfold fnd
  rw [List.take_add_one, List.countP_append, List.getElem?_eq_getElem hi, ← getD_at l hi]
  simp only [Option.toList_some, List.countP_cons, List.countP_nil, oneB, Nat.zero_add, decide_eq_true_eq]
theorem fnd_end {l : List PI} {n : Nat} {last : ByteArray} (h : l.length ≤ posN l noT n last) : fnd l n last = (ones l).length := by
  unfold fnd ones
  rw [List.take_of_length_le h, List.countP_eq_length_filter]
theorem pos_gt {l : List PI} (hA : Asc l) {n : Nat} {last : ByteArray} (hn : n ≠ 0) (hi : posN l noT n last < l.length) : gtB (l.getD (posN l noT n last) zI).1 last = true := by
  have e : posN l noT n last = aboveN l last := if_neg hn
  rw [gt_cmp]
  refine decide_eq_true ?_
  have := above_iff hA last hi
  rw [e] at hi this ⊢
  have : ¬ cmpS (l.getD (aboveN l last) zI).1 last ≤ 0 := fun h => by have := this.1 h; omega
  rw [cmpS_swap]
  omega
/-- in the middle of the Range -/
structure Std (l0 : List PI) (s : List PI × Nat × Nat × ByteArray) : Prop where
  asc : Asc s.1
  cap1 : s.1.length ≤ s.2.1
  cap2 : s.2.1 ≤ 9223372036854775807
  len : s.1.length ≤ l0.length + min s.2.2.1 300
  few : s.2.2.1 ≤ 300 ∨ s.2.2.1 + (s.1.length - posN s.1 noT s.2.2.1 s.2.2.2) ≤ 600 + l0.length
  on : ones s.1 = ones l0
def stdN (l0 : List PI) (s : List PI × Nat × Nat × ByteArray) : Nat := if s.2.2.1 ≤ 300 then (301 - s.2.2.1) + (l0.length + 301) else s.1.length - posN s.1 noT s.2.2.1 s.2.2.2
theorem Std.next {l0 l1 l2 : List PI} {last : ByteArray} {c1 c2 n : Nat} (h : Std l0 (l1, c1, n, last)) (hi : posN l1 noT n last < l1.length) (hA : Asc l2) (hc1 : l2.length ≤ c2) (hc2 : c2 ≤ 9223372036854775807) (ho : ones l2 = ones l1) (h1 : l2.length ≤ l1.length + 1) (h2 : 300 ≤ n → l2 = l1) :
    Std l0 (l2, c2, n + 1, (l1.getD (posN l1 noT n last) zI).1) ∧ stdN l0 (l2, c2, n + 1, (l1.getD (posN l1 noT n last) zI).1) < stdN l0 (l1, c1, n, last) := by
  obtain ⟨g1, _, _, g2, g3, g4⟩ := h
  dsimp only at g1 g2 g3 g4
  have key : 300 ≤ n → posN l2 noT (n + 1) (l1.getD (posN l1 noT n last) zI).1 = posN l1 noT n last + 1 := fun h => by
    rw [posN_succN, h2 h, above_at g1 hi]
  unfold stdN
  dsimp only
  by_cases h : 300 ≤ n
  · have e1 := key h
    have e2 := h2 h
    subst e2
    refine ⟨⟨hA, hc1, hc2, by dsimp only; omega, ?_, ho.trans g4⟩, ?_⟩
    · dsimp only
      rw [e1]
      right
      omega
    · rw [e1, if_neg (by omega)]
      split
      · omega
      · omega
  · refine ⟨⟨hA, hc1, hc2, by dsimp only; omega, .inl (by dsimp only; omega), ho.trans g4⟩, ?_⟩
    rw [if_pos (by omega), if_pos (by omega)]
    omega
/-- is a key touched? -/
def tch1 (os : List ByteArray) (k : ByteArray) : Bool := (os.take 300).any fun x => decide (x.toList = k.toList)
theorem tch1_yes {os : List ByteArray} {k : ByteArray} {i : Nat} (hi : i < os.length) (h3 : i < 300) (h : decide ((os.getD i noT).toList = k.toList) = true) : tch1 os k = true := by
  unfold tch1
  rw [List.any_eq_true]
  refine ⟨os.getD i noT, ?_, h⟩
  rw [List.getD_eq_getElem?_getD, List.getElem?_eq_getElem hi]
  exact List.mem_iff_getElem.2 ⟨i, by rw [List.length_take]; omega, by rw [List.getElem_take]; rfl⟩
theorem tch1_no {os : List ByteArray} {k : ByteArray} {m : Nat} (hm : m = os.length ∨ 300 ≤ m) (h : ∀ i, i < m → i < os.length → decide ((os.getD i noT).toList = k.toList) = false) : tch1 os k = false := by
  unfold tch1
  rw [List.any_eq_false]
  intro x hx
  obtain ⟨i, hi, rfl⟩ := List.mem_iff_getElem.1 hx
  rw [List.length_take] at hi
  have := h i (by omega) (by omega)
  rw [List.getD_eq_getElem?_getD, List.getElem?_eq_getElem (by omega)] at this
  rw [List.getElem_take]
  simpa using this
theorem tch1_ne {os : List ByteArray} {k : ByteArray} (h : tch1 os k = false) {i : Nat} (hi : i < os.length) (h3 : i < 300) : k ≠ os.getD i noT := fun e => by
  have := tch1_yes (k := k) hi h3 (decide_eq_true (by rw [e]))
  rw [h] at this; cases this
end Go.Proofs.Ytlcojlcackkhpaa
/- table: TableSteady -/
namespace Go.Proofs.Ytlcojlcackkhpaa
set_option linter.unusedVariables false
set_option linter.unusedSimpArgs false
open Go.RowKit
set_option maxRecDepth 100000
set_option maxHeartbeats 8000000
section
variable (os gs : List ByteArray) (o1 o2 c1 c2 : Nat)
abbrev sbx (l off m c : Nat) : AO := .cells [.sl l 1 off m c] 70
theorem touched_spec (k : ByteArray) : Spec Try.prog 40 [.raw (.string k), .ptr 0 0 0 0, .ptr 1 0 0 0] [sbx 2 o1 os.length c1, sbx 3 o2 gs.length c2, roX o1 os, roX o2 gs] 4 (σ := Unit) (fun _ => True) (fun _ => .raw (.bool (tch1 os k || tch1 gs k)))
    (fun _ => [(0, sbx 2 o1 os.length c1), (1, sbx 3 o2 gs.length c2)]) := by
  refine Spec.of Try.func40 rfl Try.ntmps40 rfl (by repeat (first | exact bdl_nil _ | refine bdl_cons (rowsX_bd _ _ _ _) ?_ | refine bdl_cons rfl ?_)) fun ρ w => ?_
  repeat (first | refine C.seq ?_ | refine C.region ?_ | refine R.zb ttok ?_ | refine R.zu ttok ?_ | refine R.zc ttok ?_ | refine R.za ttok ?_ | refine R.zx ?_ | refine R.zl ttok ?_ | refine R.zs ttok ?_ | refine R.z ttok ?_ | refine R.zk ?_ | refine R.zn ?_ | refine R.done ?_ | refine X.then ?_ | refine C.block ?_ | refine C.ret ?_ | refine C.skip ?_ | refine C.exit ?_ | refine X.pass_ret ?_ | refine X.pass_exit ?_ | refine X.block_normal ?_ | refine X.block_ret ?_ | refine X.block_exit ?_ | refine C.zt ?_ | refine C.zf ?_ | refine X.zo ?_)
  refine C.loop (σ := Nat) (L2 := 4) (fun i => i ≤ 300 ∧ i ≤ os.length ∧ ∀ j, j < i → j < os.length → decide ((os.getD j noT).toList = k.toList) = false) (fun i => [(0, .raw (.string k)), (1, .ptr 0 0 0 0), (2, .ptr 1 0 0 0), (4, .raw (.bool false)), (5, .raw (.int .i64 (i : Nat)))])
    (fun _ => [(0, sbx 2 o1 os.length c1), (1, sbx 3 o2 gs.length c2), (2, roX o1 os), (3, roX o2 gs)]) _ (fun i => 300 - i) [] 0 ⟨by simp, by simp, fun j hj => by omega⟩ rfl (by repeat (first | exact HasT.nil | refine HasT.cons rfl rfl rfl ?_)) (by repeat (first | exact HasH.nil | refine HasH.same rfl rfl rfl trivial ?_ | refine HasH.same rfl rfl rfl rfl ?_ | refine HasH.same rfl rfl rfl (fun _ _ => rfl) ?_ | refine HasH.ros rfl rfl ?_ | refine HasH.rox rfl rfl ?_ | refine HasH.rob rfl rfl ?_)) rfl (fun _ h => h) ?_
  rintro i ⟨hi3, hil, hno⟩
  repeat (first | refine C.seq ?_ | refine C.region ?_ | refine R.zb ttok ?_ | refine R.zu ttok ?_ | refine R.zc ttok ?_ | refine R.za ttok ?_ | refine R.zx ?_ | refine R.zl ttok ?_ | refine R.zs ttok ?_ | refine R.z ttok ?_ | refine R.zk ?_ | refine R.zn ?_ | refine R.done ?_ | refine X.then ?_ | refine C.block ?_ | refine C.ret ?_ | refine C.skip ?_ | refine C.exit ?_ | refine X.pass_ret ?_ | refine X.pass_exit ?_ | refine X.block_normal ?_ | refine X.block_ret ?_ | refine X.block_exit ?_ | refine C.zt ?_ | refine C.zf ?_ | refine X.zo ?_)
  by_cases h1 : (i : Int) < (os.length : Nat)
  · rw [decide_eq_true h1]
    repeat (first | refine C.seq ?_ | refine C.region ?_ | refine R.zb ttok ?_ | refine R.zu ttok ?_ | refine R.zc ttok ?_ | refine R.za ttok ?_ | refine R.zx ?_ | refine R.zl ttok ?_ | refine R.zs ttok ?_ | refine R.z ttok ?_ | refine R.zk ?_ | refine R.zn ?_ | refine R.done ?_ | refine X.then ?_ | refine C.block ?_ | refine C.ret ?_ | refine C.skip ?_ | refine C.exit ?_ | refine X.pass_ret ?_ | refine X.pass_exit ?_ | refine X.block_normal ?_ | refine X.block_ret ?_ | refine X.block_exit ?_ | refine C.zt ?_ | refine C.zf ?_ | refine X.zo ?_)
    by_cases h2 : (i : Int) < 300
    · rw [decide_eq_true h2]
      have hlt : i < os.length := by omega
      repeat (first | refine C.seq ?_ | refine C.region ?_ | refine R.zb ttok ?_ | refine R.zu ttok ?_ | refine R.zc ttok ?_ | refine R.za ttok ?_ | refine R.zx ?_ | refine R.zl ttok ?_ | refine R.zs ttok ?_ | refine R.z ttok ?_ | refine R.zk ?_ | refine R.zn ?_ | refine R.done ?_ | refine X.then ?_ | refine C.block ?_ | refine C.ret ?_ | refine C.skip ?_ | refine C.exit ?_ | refine X.pass_ret ?_ | refine X.pass_exit ?_ | refine X.block_normal ?_ | refine X.block_ret ?_ | refine X.block_exit ?_ | refine C.zt ?_ | refine C.zf ?_ | refine X.zo ?_)
      refine R.ix1 ttok i rfl rfl rfl rfl rfl rfl rfl hlt (⟨by omega, by omega⟩ : o1 ≤ o1 + i * 1 ∧ o1 + i * 1 < o1 + os.length * 1) rfl ?_
      repeat (first | refine C.seq ?_ | refine C.region ?_ | refine R.zb ttok ?_ | refine R.zu ttok ?_ | refine R.zc ttok ?_ | refine R.za ttok ?_ | refine R.zx ?_ | refine R.zl ttok ?_ | refine R.zs ttok ?_ | refine R.z ttok ?_ | refine R.zk ?_ | refine R.zn ?_ | refine R.done ?_ | refine X.then ?_ | refine C.block ?_ | refine C.ret ?_ | refine C.skip ?_ | refine C.exit ?_ | refine X.pass_ret ?_ | refine X.pass_exit ?_ | refine X.block_normal ?_ | refine X.block_ret ?_ | refine X.block_exit ?_ | refine C.zt ?_ | refine C.zf ?_ | refine X.zo ?_)
      refine R.ldr1 (v := .raw (.string (os.getD i noT))) ttok i rfl rfl rfl rfl rfl rfl rfl rfl (by decide) (by omega) ?_
      repeat (first | refine C.seq ?_ | refine C.region ?_ | refine R.zb ttok ?_ | refine R.zu ttok ?_ | refine R.zc ttok ?_ | refine R.za ttok ?_ | refine R.zx ?_ | refine R.zl ttok ?_ | refine R.zs ttok ?_ | refine R.z ttok ?_ | refine R.zk ?_ | refine R.zn ?_ | refine R.done ?_ | refine X.then ?_ | refine C.block ?_ | refine C.ret ?_ | refine C.skip ?_ | refine C.exit ?_ | refine X.pass_ret ?_ | refine X.pass_exit ?_ | refine X.block_normal ?_ | refine X.block_ret ?_ | refine X.block_exit ?_ | refine C.zt ?_ | refine C.zf ?_ | refine X.zo ?_)
      cases hd : decide ((os.getD i noT).toList = k.toList) with
      | true =>
        rw [show (tch1 os k || tch1 gs k) = true by rw [tch1_yes hlt (by omega) hd, Bool.true_or]]
        repeat (first | refine C.seq ?_ | refine C.region ?_ | refine R.zb ttok ?_ | refine R.zu ttok ?_ | refine R.zc ttok ?_ | refine R.za ttok ?_ | refine R.zx ?_ | refine R.zl ttok ?_ | refine R.zs ttok ?_ | refine R.z ttok ?_ | refine R.zk ?_ | refine R.zn ?_ | refine R.done ?_ | refine X.then ?_ | refine C.block ?_ | refine C.ret ?_ | refine C.skip ?_ | refine C.exit ?_ | refine X.pass_ret ?_ | refine X.pass_exit ?_ | refine X.block_normal ?_ | refine X.block_ret ?_ | refine X.block_exit ?_ | refine C.zt ?_ | refine C.zf ?_ | refine X.zo ?_)
        refine X.fin ttok () [] trivial rfl rfl rfl (by repeat (first | exact HasH.nil | refine HasH.same rfl rfl rfl trivial ?_ | refine HasH.same rfl rfl rfl rfl ?_ | refine HasH.same rfl rfl rfl (fun _ _ => rfl) ?_ | refine HasH.ros rfl rfl ?_)) _ (by first | exact .inl rfl | exact .inr rfl)
      | false =>
        repeat (first | refine C.seq ?_ | refine C.region ?_ | refine R.zb ttok ?_ | refine R.zu ttok ?_ | refine R.zc ttok ?_ | refine R.za ttok ?_ | refine R.zx ?_ | refine R.zl ttok ?_ | refine R.zs ttok ?_ | refine R.z ttok ?_ | refine R.zk ?_ | refine R.zn ?_ | refine R.done ?_ | refine X.then ?_ | refine C.block ?_ | refine C.ret ?_ | refine C.skip ?_ | refine C.exit ?_ | refine X.pass_ret ?_ | refine X.pass_exit ?_ | refine X.block_normal ?_ | refine X.block_ret ?_ | refine X.block_exit ?_ | refine C.zt ?_ | refine C.zf ?_ | refine X.zo ?_)
        exact X.back [] (i + 1) ⟨by omega, by omega, fun j hj hjl => by
          rcases Nat.lt_or_ge j i with h | h
          · exact hno j h hjl
          · obtain rfl : j = i := by omega
            exact hd⟩ (by omega) rfl (by repeat (first | exact HasT.nil | refine HasT.cons rfl rfl rfl ?_)) (by repeat (first | exact HasH.nil | refine HasH.same rfl rfl rfl trivial ?_ | refine HasH.same rfl rfl rfl rfl ?_ | refine HasH.same rfl rfl rfl (fun _ _ => rfl) ?_ | refine HasH.ros rfl rfl ?_ | refine HasH.rox rfl rfl ?_ | refine HasH.rob rfl rfl ?_)) rfl (fun _ h => h)
    · rw [decide_eq_false h2]
      have hn := tch1_no (os := os) (k := k) (m := i) (.inr (by omega)) hno
      repeat (first | refine C.seq ?_ | refine C.region ?_ | refine R.zb ttok ?_ | refine R.zu ttok ?_ | refine R.zc ttok ?_ | refine R.za ttok ?_ | refine R.zx ?_ | refine R.zl ttok ?_ | refine R.zs ttok ?_ | refine R.z ttok ?_ | refine R.zk ?_ | refine R.zn ?_ | refine R.done ?_ | refine X.then ?_ | refine C.block ?_ | refine C.ret ?_ | refine C.skip ?_ | refine C.exit ?_ | refine X.pass_ret ?_ | refine X.pass_exit ?_ | refine X.block_normal ?_ | refine X.block_ret ?_ | refine X.block_exit ?_ | refine C.zt ?_ | refine C.zf ?_ | refine X.zo ?_)
      have hno1 := hn
      refine C.loop (σ := Nat) (L2 := 4) (fun i => i ≤ 300 ∧ i ≤ gs.length ∧ ∀ j, j < i → j < gs.length → decide ((gs.getD j noT).toList = k.toList) = false) (fun i => [(0, .raw (.string k)), (1, .ptr 0 0 0 0), (2, .ptr 1 0 0 0), (4, .raw (.bool false)), (6, .raw (.int .i64 (i : Nat)))])
        (fun _ => [(0, sbx 2 o1 os.length c1), (1, sbx 3 o2 gs.length c2), (2, roX o1 os), (3, roX o2 gs)]) _ (fun i => 300 - i) [] 0 ⟨by simp, by simp, fun j hj => by omega⟩ rfl (by repeat (first | exact HasT.nil | refine HasT.cons rfl rfl rfl ?_)) (by repeat (first | exact HasH.nil | refine HasH.same rfl rfl rfl trivial ?_ | refine HasH.same rfl rfl rfl rfl ?_ | refine HasH.same rfl rfl rfl (fun _ _ => rfl) ?_ | refine HasH.ros rfl rfl ?_ | refine HasH.rox rfl rfl ?_ | refine HasH.rob rfl rfl ?_)) rfl (fun _ h => h) ?_
      rintro i ⟨hi3, hil, hno⟩
      repeat (first | refine C.seq ?_ | refine C.region ?_ | refine R.zb ttok ?_ | refine R.zu ttok ?_ | refine R.zc ttok ?_ | refine R.za ttok ?_ | refine R.zx ?_ | refine R.zl ttok ?_ | refine R.zs ttok ?_ | refine R.z ttok ?_ | refine R.zk ?_ | refine R.zn ?_ | refine R.done ?_ | refine X.then ?_ | refine C.block ?_ | refine C.ret ?_ | refine C.skip ?_ | refine C.exit ?_ | refine X.pass_ret ?_ | refine X.pass_exit ?_ | refine X.block_normal ?_ | refine X.block_ret ?_ | refine X.block_exit ?_ | refine C.zt ?_ | refine C.zf ?_ | refine X.zo ?_)
      by_cases h1 : (i : Int) < (gs.length : Nat)
      · rw [decide_eq_true h1]
        repeat (first | refine C.seq ?_ | refine C.region ?_ | refine R.zb ttok ?_ | refine R.zu ttok ?_ | refine R.zc ttok ?_ | refine R.za ttok ?_ | refine R.zx ?_ | refine R.zl ttok ?_ | refine R.zs ttok ?_ | refine R.z ttok ?_ | refine R.zk ?_ | refine R.zn ?_ | refine R.done ?_ | refine X.then ?_ | refine C.block ?_ | refine C.ret ?_ | refine C.skip ?_ | refine C.exit ?_ | refine X.pass_ret ?_ | refine X.pass_exit ?_ | refine X.block_normal ?_ | refine X.block_ret ?_ | refine X.block_exit ?_ | refine C.zt ?_ | refine C.zf ?_ | refine X.zo ?_)
        by_cases h2 : (i : Int) < 300
        · rw [decide_eq_true h2]
          have hlt : i < gs.length := by omega
          repeat (first | refine C.seq ?_ | refine C.region ?_ | refine R.zb ttok ?_ | refine R.zu ttok ?_ | refine R.zc ttok ?_ | refine R.za ttok ?_ | refine R.zx ?_ | refine R.zl ttok ?_ | refine R.zs ttok ?_ | refine R.z ttok ?_ | refine R.zk ?_ | refine R.zn ?_ | refine R.done ?_ | refine X.then ?_ | refine C.block ?_ | refine C.ret ?_ | refine C.skip ?_ | refine C.exit ?_ | refine X.pass_ret ?_ | refine X.pass_exit ?_ | refine X.block_normal ?_ | refine X.block_ret ?_ | refine X.block_exit ?_ | refine C.zt ?_ | refine C.zf ?_ | refine X.zo ?_)
          refine R.ix1 ttok i rfl rfl rfl rfl rfl rfl rfl hlt (⟨by omega, by omega⟩ : o2 ≤ o2 + i * 1 ∧ o2 + i * 1 < o2 + gs.length * 1) rfl ?_
          repeat (first | refine C.seq ?_ | refine C.region ?_ | refine R.zb ttok ?_ | refine R.zu ttok ?_ | refine R.zc ttok ?_ | refine R.za ttok ?_ | refine R.zx ?_ | refine R.zl ttok ?_ | refine R.zs ttok ?_ | refine R.z ttok ?_ | refine R.zk ?_ | refine R.zn ?_ | refine R.done ?_ | refine X.then ?_ | refine C.block ?_ | refine C.ret ?_ | refine C.skip ?_ | refine C.exit ?_ | refine X.pass_ret ?_ | refine X.pass_exit ?_ | refine X.block_normal ?_ | refine X.block_ret ?_ | refine X.block_exit ?_ | refine C.zt ?_ | refine C.zf ?_ | refine X.zo ?_)
          refine R.ldr1 (v := .raw (.string (gs.getD i noT))) ttok i rfl rfl rfl rfl rfl rfl rfl rfl (by decide) (by omega) ?_
          repeat (first | refine C.seq ?_ | refine C.region ?_ | refine R.zb ttok ?_ | refine R.zu ttok ?_ | refine R.zc ttok ?_ | refine R.za ttok ?_ | refine R.zx ?_ | refine R.zl ttok ?_ | refine R.zs ttok ?_ | refine R.z ttok ?_ | refine R.zk ?_ | refine R.zn ?_ | refine R.done ?_ | refine X.then ?_ | refine C.block ?_ | refine C.ret ?_ | refine C.skip ?_ | refine C.exit ?_ | refine X.pass_ret ?_ | refine X.pass_exit ?_ | refine X.block_normal ?_ | refine X.block_ret ?_ | refine X.block_exit ?_ | refine C.zt ?_ | refine C.zf ?_ | refine X.zo ?_)
          cases hd : decide ((gs.getD i noT).toList = k.toList) with
          | true =>
            rw [show (tch1 os k || tch1 gs k) = true by rw [tch1_yes hlt (by omega) hd, Bool.or_true]]
            repeat (first | refine C.seq ?_ | refine C.region ?_ | refine R.zb ttok ?_ | refine R.zu ttok ?_ | refine R.zc ttok ?_ | refine R.za ttok ?_ | refine R.zx ?_ | refine R.zl ttok ?_ | refine R.zs ttok ?_ | refine R.z ttok ?_ | refine R.zk ?_ | refine R.zn ?_ | refine R.done ?_ | refine X.then ?_ | refine C.block ?_ | refine C.ret ?_ | refine C.skip ?_ | refine C.exit ?_ | refine X.pass_ret ?_ | refine X.pass_exit ?_ | refine X.block_normal ?_ | refine X.block_ret ?_ | refine X.block_exit ?_ | refine C.zt ?_ | refine C.zf ?_ | refine X.zo ?_)
            refine X.fin ttok () [] trivial rfl rfl rfl (by repeat (first | exact HasH.nil | refine HasH.same rfl rfl rfl trivial ?_ | refine HasH.same rfl rfl rfl rfl ?_ | refine HasH.same rfl rfl rfl (fun _ _ => rfl) ?_ | refine HasH.ros rfl rfl ?_)) _ (by first | exact .inl rfl | exact .inr rfl)
          | false =>
            repeat (first | refine C.seq ?_ | refine C.region ?_ | refine R.zb ttok ?_ | refine R.zu ttok ?_ | refine R.zc ttok ?_ | refine R.za ttok ?_ | refine R.zx ?_ | refine R.zl ttok ?_ | refine R.zs ttok ?_ | refine R.z ttok ?_ | refine R.zk ?_ | refine R.zn ?_ | refine R.done ?_ | refine X.then ?_ | refine C.block ?_ | refine C.ret ?_ | refine C.skip ?_ | refine C.exit ?_ | refine X.pass_ret ?_ | refine X.pass_exit ?_ | refine X.block_normal ?_ | refine X.block_ret ?_ | refine X.block_exit ?_ | refine C.zt ?_ | refine C.zf ?_ | refine X.zo ?_)
            exact X.back [] (i + 1) ⟨by omega, by omega, fun j hj hjl => by
              rcases Nat.lt_or_ge j i with h | h
              · exact hno j h hjl
              · obtain rfl : j = i := by omega
                exact hd⟩ (by omega) rfl (by repeat (first | exact HasT.nil | refine HasT.cons rfl rfl rfl ?_)) (by repeat (first | exact HasH.nil | refine HasH.same rfl rfl rfl trivial ?_ | refine HasH.same rfl rfl rfl rfl ?_ | refine HasH.same rfl rfl rfl (fun _ _ => rfl) ?_ | refine HasH.ros rfl rfl ?_ | refine HasH.rox rfl rfl ?_ | refine HasH.rob rfl rfl ?_)) rfl (fun _ h => h)
        · rw [decide_eq_false h2]
          have hn := tch1_no (os := gs) (k := k) (m := i) (.inr (by omega)) hno
          repeat (first | refine C.seq ?_ | refine C.region ?_ | refine R.zb ttok ?_ | refine R.zu ttok ?_ | refine R.zc ttok ?_ | refine R.za ttok ?_ | refine R.zx ?_ | refine R.zl ttok ?_ | refine R.zs ttok ?_ | refine R.z ttok ?_ | refine R.zk ?_ | refine R.zn ?_ | refine R.done ?_ | refine X.then ?_ | refine C.block ?_ | refine C.ret ?_ | refine C.skip ?_ | refine C.exit ?_ | refine X.pass_ret ?_ | refine X.pass_exit ?_ | refine X.block_normal ?_ | refine X.block_ret ?_ | refine X.block_exit ?_ | refine C.zt ?_ | refine C.zf ?_ | refine X.zo ?_)
          rw [show (tch1 os k || tch1 gs k) = false by rw [hno1, hn]; rfl]
          repeat (first | refine C.seq ?_ | refine C.region ?_ | refine R.zb ttok ?_ | refine R.zu ttok ?_ | refine R.zc ttok ?_ | refine R.za ttok ?_ | refine R.zx ?_ | refine R.zl ttok ?_ | refine R.zs ttok ?_ | refine R.z ttok ?_ | refine R.zk ?_ | refine R.zn ?_ | refine R.done ?_ | refine X.then ?_ | refine C.block ?_ | refine C.ret ?_ | refine C.skip ?_ | refine C.exit ?_ | refine X.pass_ret ?_ | refine X.pass_exit ?_ | refine X.block_normal ?_ | refine X.block_ret ?_ | refine X.block_exit ?_ | refine C.zt ?_ | refine C.zf ?_ | refine X.zo ?_)
          refine X.fin ttok () [] trivial rfl rfl rfl (by repeat (first | exact HasH.nil | refine HasH.same rfl rfl rfl trivial ?_ | refine HasH.same rfl rfl rfl rfl ?_ | refine HasH.same rfl rfl rfl (fun _ _ => rfl) ?_ | refine HasH.ros rfl rfl ?_)) _ (by first | exact .inl rfl | exact .inr rfl)
      · rw [decide_eq_false h1]
        have hn := tch1_no (os := gs) (k := k) (m := i) (.inl (by omega)) hno
        repeat (first | refine C.seq ?_ | refine C.region ?_ | refine R.zb ttok ?_ | refine R.zu ttok ?_ | refine R.zc ttok ?_ | refine R.za ttok ?_ | refine R.zx ?_ | refine R.zl ttok ?_ | refine R.zs ttok ?_ | refine R.z ttok ?_ | refine R.zk ?_ | refine R.zn ?_ | refine R.done ?_ | refine X.then ?_ | refine C.block ?_ | refine C.ret ?_ | refine C.skip ?_ | refine C.exit ?_ | refine X.pass_ret ?_ | refine X.pass_exit ?_ | refine X.block_normal ?_ | refine X.block_ret ?_ | refine X.block_exit ?_ | refine C.zt ?_ | refine C.zf ?_ | refine X.zo ?_)
        rw [show (tch1 os k || tch1 gs k) = false by rw [hno1, hn]; rfl]
        repeat (first | refine C.seq ?_ | refine C.region ?_ | refine R.zb ttok ?_ | refine R.zu ttok ?_ | refine R.zc ttok ?_ | refine R.za ttok ?_ | refine R.zx ?_ | refine R.zl ttok ?_ | refine R.zs ttok ?_ | refine R.z ttok ?_ | refine R.zk ?_ | refine R.zn ?_ | refine R.done ?_ | refine X.then ?_ | refine C.block ?_ | refine C.ret ?_ | refine C.skip ?_ | refine C.exit ?_ | refine X.pass_ret ?_ | refine X.pass_exit ?_ | refine X.block_normal ?_ | refine X.block_ret ?_ | refine X.block_exit ?_ | refine C.zt ?_ | refine C.zf ?_ | refine X.zo ?_)
        refine X.fin ttok () [] trivial rfl rfl rfl (by repeat (first | exact HasH.nil | refine HasH.same rfl rfl rfl trivial ?_ | refine HasH.same rfl rfl rfl rfl ?_ | refine HasH.same rfl rfl rfl (fun _ _ => rfl) ?_ | refine HasH.ros rfl rfl ?_)) _ (by first | exact .inl rfl | exact .inr rfl)
  · rw [decide_eq_false h1]
    have hn := tch1_no (os := os) (k := k) (m := i) (.inl (by omega)) hno
    repeat (first | refine C.seq ?_ | refine C.region ?_ | refine R.zb ttok ?_ | refine R.zu ttok ?_ | refine R.zc ttok ?_ | refine R.za ttok ?_ | refine R.zx ?_ | refine R.zl ttok ?_ | refine R.zs ttok ?_ | refine R.z ttok ?_ | refine R.zk ?_ | refine R.zn ?_ | refine R.done ?_ | refine X.then ?_ | refine C.block ?_ | refine C.ret ?_ | refine C.skip ?_ | refine C.exit ?_ | refine X.pass_ret ?_ | refine X.pass_exit ?_ | refine X.block_normal ?_ | refine X.block_ret ?_ | refine X.block_exit ?_ | refine C.zt ?_ | refine C.zf ?_ | refine X.zo ?_)
    have hno1 := hn
    refine C.loop (σ := Nat) (L2 := 4) (fun i => i ≤ 300 ∧ i ≤ gs.length ∧ ∀ j, j < i → j < gs.length → decide ((gs.getD j noT).toList = k.toList) = false) (fun i => [(0, .raw (.string k)), (1, .ptr 0 0 0 0), (2, .ptr 1 0 0 0), (4, .raw (.bool false)), (6, .raw (.int .i64 (i : Nat)))])
      (fun _ => [(0, sbx 2 o1 os.length c1), (1, sbx 3 o2 gs.length c2), (2, roX o1 os), (3, roX o2 gs)]) _ (fun i => 300 - i) [] 0 ⟨by simp, by simp, fun j hj => by omega⟩ rfl (by repeat (first | exact HasT.nil | refine HasT.cons rfl rfl rfl ?_)) (by repeat (first | exact HasH.nil | refine HasH.same rfl rfl rfl trivial ?_ | refine HasH.same rfl rfl rfl rfl ?_ | refine HasH.same rfl rfl rfl (fun _ _ => rfl) ?_ | refine HasH.ros rfl rfl ?_ | refine HasH.rox rfl rfl ?_ | refine HasH.rob rfl rfl ?_)) rfl (fun _ h => h) ?_
    rintro i ⟨hi3, hil, hno⟩
    repeat (first | refine C.seq ?_ | refine C.region ?_ | refine R.zb ttok ?_ | refine R.zu ttok ?_ | refine R.zc ttok ?_ | refine R.za ttok ?_ | refine R.zx ?_ | refine R.zl ttok ?_ | refine R.zs ttok ?_ | refine R.z ttok ?_ | refine R.zk ?_ | refine R.zn ?_ | refine R.done ?_ | refine X.then ?_ | refine C.block ?_ | refine C.ret ?_ | refine C.skip ?_ | refine C.exit ?_ | refine X.pass_ret ?_ | refine X.pass_exit ?_ | refine X.block_normal ?_ | refine X.block_ret ?_ | refine X.block_exit ?_ | refine C.zt ?_ | refine C.zf ?_ | refine X.zo ?_)
    by_cases h1 : (i : Int) < (gs.length : Nat)
    · rw [decide_eq_true h1]
      repeat (first | refine C.seq ?_ | refine C.region ?_ | refine R.zb ttok ?_ | refine R.zu ttok ?_ | refine R.zc ttok ?_ | refine R.za ttok ?_ | refine R.zx ?_ | refine R.zl ttok ?_ | refine R.zs ttok ?_ | refine R.z ttok ?_ | refine R.zk ?_ | refine R.zn ?_ | refine R.done ?_ | refine X.then ?_ | refine C.block ?_ | refine C.ret ?_ | refine C.skip ?_ | refine C.exit ?_ | refine X.pass_ret ?_ | refine X.pass_exit ?_ | refine X.block_normal ?_ | refine X.block_ret ?_ | refine X.block_exit ?_ | refine C.zt ?_ | refine C.zf ?_ | refine X.zo ?_)
      by_cases h2 : (i : Int) < 300
      · rw [decide_eq_true h2]
        have hlt : i < gs.length := by omega
        repeat (first | refine C.seq ?_ | refine C.region ?_ | refine R.zb ttok ?_ | refine R.zu ttok ?_ | refine R.zc ttok ?_ | refine R.za ttok ?_ | refine R.zx ?_ | refine R.zl ttok ?_ | refine R.zs ttok ?_ | refine R.z ttok ?_ | refine R.zk ?_ | refine R.zn ?_ | refine R.done ?_ | refine X.then ?_ | refine C.block ?_ | refine C.ret ?_ | refine C.skip ?_ | refine C.exit ?_ | refine X.pass_ret ?_ | refine X.pass_exit ?_ | refine X.block_normal ?_ | refine X.block_ret ?_ | refine X.block_exit ?_ | refine C.zt ?_ | refine C.zf ?_ | refine X.zo ?_)
        refine R.ix1 ttok i rfl rfl rfl rfl rfl rfl rfl hlt (⟨by omega, by omega⟩ : o2 ≤ o2 + i * 1 ∧ o2 + i * 1 < o2 + gs.length * 1) rfl ?_
        repeat (first | refine C.seq ?_ | refine C.region ?_ | refine R.zb ttok ?_ | refine R.zu ttok ?_ | refine R.zc ttok ?_ | refine R.za ttok ?_ | refine R.zx ?_ | refine R.zl ttok ?_ | refine R.zs ttok ?_ | refine R.z ttok ?_ | refine R.zk ?_ | refine R.zn ?_ | refine R.done ?_ | refine X.then ?_ | refine C.block ?_ | refine C.ret ?_ | refine C.skip ?_ | refine C.exit ?_ | refine X.pass_ret ?_ | refine X.pass_exit ?_ | refine X.block_normal ?_ | refine X.block_ret ?_ | refine X.block_exit ?_ | refine C.zt ?_ | refine C.zf ?_ | refine X.zo ?_)
        refine R.ldr1 (v := .raw (.string (gs.getD i noT))) ttok i rfl rfl rfl rfl rfl rfl rfl rfl (by decide) (by omega) ?_
        repeat (first | refine C.seq ?_ | refine C.region ?_ | refine R.zb ttok ?_ | refine R.zu ttok ?_ | refine R.zc ttok ?_ | refine R.za ttok ?_ | refine R.zx ?_ | refine R.zl ttok ?_ | refine R.zs ttok ?_ | refine R.z ttok ?_ | refine R.zk ?_ | refine R.zn ?_ | refine R.done ?_ | refine X.then ?_ | refine C.block ?_ | refine C.ret ?_ | refine C.skip ?_ | refine C.exit ?_ | refine X.pass_ret ?_ | refine X.pass_exit ?_ | refine X.block_normal ?_ | refine X.block_ret ?_ | refine X.block_exit ?_ | refine C.zt ?_ | refine C.zf ?_ | refine X.zo ?_)
        cases hd : decide ((gs.getD i noT).toList = k.toList) with
        | true =>
          rw [show (tch1 os k || tch1 gs k) = true by rw [tch1_yes hlt (by omega) hd, Bool.or_true]]
          repeat (first | refine C.seq ?_ | refine C.region ?_ | refine R.zb ttok ?_ | refine R.zu ttok ?_ | refine R.zc ttok ?_ | refine R.za ttok ?_ | refine R.zx ?_ | refine R.zl ttok ?_ | refine R.zs ttok ?_ | refine R.z ttok ?_ | refine R.zk ?_ | refine R.zn ?_ | refine R.done ?_ | refine X.then ?_ | refine C.block ?_ | refine C.ret ?_ | refine C.skip ?_ | refine C.exit ?_ | refine X.pass_ret ?_ | refine X.pass_exit ?_ | refine X.block_normal ?_ | refine X.block_ret ?_ | refine X.block_exit ?_ | refine C.zt ?_ | refine C.zf ?_ | refine X.zo ?_)
          refine X.fin ttok () [] trivial rfl rfl rfl (by repeat (first | exact HasH.nil | refine HasH.same rfl rfl rfl trivial ?_ | refine HasH.same rfl rfl rfl rfl ?_ | refine HasH.same rfl rfl rfl (fun _ _ => rfl) ?_ | refine HasH.ros rfl rfl ?_)) _ (by first | exact .inl rfl | exact .inr rfl)
        | false =>
          repeat (first | refine C.seq ?_ | refine C.region ?_ | refine R.zb ttok ?_ | refine R.zu ttok ?_ | refine R.zc ttok ?_ | refine R.za ttok ?_ | refine R.zx ?_ | refine R.zl ttok ?_ | refine R.zs ttok ?_ | refine R.z ttok ?_ | refine R.zk ?_ | refine R.zn ?_ | refine R.done ?_ | refine X.then ?_ | refine C.block ?_ | refine C.ret ?_ | refine C.skip ?_ | refine C.exit ?_ | refine X.pass_ret ?_ | refine X.pass_exit ?_ | refine X.block_normal ?_ | refine X.block_ret ?_ | refine X.block_exit ?_ | refine C.zt ?_ | refine C.zf ?_ | refine X.zo ?_)
          exact X.back [] (i + 1) ⟨by omega, by omega, fun j hj hjl => by
            rcases Nat.lt_or_ge j i with h | h
            · exact hno j h hjl
            · obtain rfl : j = i := by omega
              exact hd⟩ (by omega) rfl (by repeat (first | exact HasT.nil | refine HasT.cons rfl rfl rfl ?_)) (by repeat (first | exact HasH.nil | refine HasH.same rfl rfl rfl trivial ?_ | refine HasH.same rfl rfl rfl rfl ?_ | refine HasH.same rfl rfl rfl (fun _ _ => rfl) ?_ | refine HasH.ros rfl rfl ?_ | refine HasH.rox rfl rfl ?_ | refine HasH.rob rfl rfl ?_)) rfl (fun _ h => h)
      · rw [decide_eq_false h2]
        have hn := tch1_no (os := gs) (k := k) (m := i) (.inr (by omega)) hno
        repeat (first | refine C.seq ?_ | refine C.region ?_ | refine R.zb ttok ?_ | refine R.zu ttok ?_ | refine R.zc ttok ?_ | refine R.za ttok ?_ | refine R.zx ?_ | refine R.zl ttok ?_ | refine R.zs ttok ?_ | refine R.z ttok ?_ | refine R.zk ?_ | refine R.zn ?_ | refine R.done ?_ | refine X.then ?_ | refine C.block ?_ | refine C.ret ?_ | refine C.skip ?_ | refine C.exit ?_ | refine X.pass_ret ?_ | refine X.pass_exit ?_ | refine X.block_normal ?_ | refine X.block_ret ?_ | refine X.block_exit ?_ | refine C.zt ?_ | refine C.zf ?_ | refine X.zo ?_)
        rw [show (tch1 os k || tch1 gs k) = false by rw [hno1, hn]; rfl]
        repeat (first | refine C.seq ?_ | refine C.region ?_ | refine R.zb ttok ?_ | refine R.zu ttok ?_ | refine R.zc ttok ?_ | refine R.za ttok ?_ | refine R.zx ?_ | refine R.zl ttok ?_ | refine R.zs ttok ?_ | refine R.z ttok ?_ | refine R.zk ?_ | refine R.zn ?_ | refine R.done ?_ | refine X.then ?_ | refine C.block ?_ | refine C.ret ?_ | refine C.skip ?_ | refine C.exit ?_ | refine X.pass_ret ?_ | refine X.pass_exit ?_ | refine X.block_normal ?_ | refine X.block_ret ?_ | refine X.block_exit ?_ | refine C.zt ?_ | refine C.zf ?_ | refine X.zo ?_)
        refine X.fin ttok () [] trivial rfl rfl rfl (by repeat (first | exact HasH.nil | refine HasH.same rfl rfl rfl trivial ?_ | refine HasH.same rfl rfl rfl rfl ?_ | refine HasH.same rfl rfl rfl (fun _ _ => rfl) ?_ | refine HasH.ros rfl rfl ?_)) _ (by first | exact .inl rfl | exact .inr rfl)
    · rw [decide_eq_false h1]
      have hn := tch1_no (os := gs) (k := k) (m := i) (.inl (by omega)) hno
      repeat (first | refine C.seq ?_ | refine C.region ?_ | refine R.zb ttok ?_ | refine R.zu ttok ?_ | refine R.zc ttok ?_ | refine R.za ttok ?_ | refine R.zx ?_ | refine R.zl ttok ?_ | refine R.zs ttok ?_ | refine R.z ttok ?_ | refine R.zk ?_ | refine R.zn ?_ | refine R.done ?_ | refine X.then ?_ | refine C.block ?_ | refine C.ret ?_ | refine C.skip ?_ | refine C.exit ?_ | refine X.pass_ret ?_ | refine X.pass_exit ?_ | refine X.block_normal ?_ | refine X.block_ret ?_ | refine X.block_exit ?_ | refine C.zt ?_ | refine C.zf ?_ | refine X.zo ?_)
      rw [show (tch1 os k || tch1 gs k) = false by rw [hno1, hn]; rfl]
      repeat (first | refine C.seq ?_ | refine C.region ?_ | refine R.zb ttok ?_ | refine R.zu ttok ?_ | refine R.zc ttok ?_ | refine R.za ttok ?_ | refine R.zx ?_ | refine R.zl ttok ?_ | refine R.zs ttok ?_ | refine R.z ttok ?_ | refine R.zk ?_ | refine R.zn ?_ | refine R.done ?_ | refine X.then ?_ | refine C.block ?_ | refine C.ret ?_ | refine C.skip ?_ | refine C.exit ?_ | refine X.pass_ret ?_ | refine X.pass_exit ?_ | refine X.block_normal ?_ | refine X.block_ret ?_ | refine X.block_exit ?_ | refine C.zt ?_ | refine C.zf ?_ | refine X.zo ?_)
      refine X.fin ttok () [] trivial rfl rfl rfl (by repeat (first | exact HasH.nil | refine HasH.same rfl rfl rfl trivial ?_ | refine HasH.same rfl rfl rfl rfl ?_ | refine HasH.same rfl rfl rfl (fun _ _ => rfl) ?_ | refine HasH.ros rfl rfl ?_)) _ (by first | exact .inl rfl | exact .inr rfl)
/-! a key handed on -/
abbrev sbI (x : Int) : AO := .cells [.raw (.int .i64 x)] 3
abbrev sbS (x : ByteArray) : AO := .cells [.raw (.string x)] 9
abbrev sbB (x : Bool) : AO := .cells [.raw (.bool x)] 4
theorem st2_spec (l : List PI) (c n : Nat) (last : ByteArray) (f : Int) (hA : Asc l) (hlc : l.length ≤ c) (hc : c ≤ 9223372036854775807) (hl : l.length ≤ 900) (hn : n < 1200) (hf : 0 ≤ f ∧ f ≤ 900) (hi : posN l noT n last < l.length)
    (hun : ∀ q ∈ ones l, tch1 os q.1 = false ∧ tch1 gs q.1 = false) :
    Spec Try.prog 42 [.raw (.string (l.getD (posN l noT n last) zI).1), .raw (.int .i64 (l.getD (posN l noT n last) zI).2), .ptr 2 0 0 0, .ptr 3 0 0 0, .ptr 4 0 0 0, .ptr 5 0 0 0, .ptr 6 0 0 0, .ptr 7 0 0 0, .ptr 8 0 0 0]
    [tbI 1 l.length c, tI l c, sbB true, sbI n, sbS last, sbI f, sbx 9 o1 os.length c1, .cells [.ptr 0 0 0 0] 40, sbx 10 o2 gs.length c2, roX o1 os, roX o2 gs] 12 (σ := List PI × Nat) (fun s => (Asc s.1 ∧ ones s.1 = ones l) ∧ s.1.length ≤ s.2 ∧ s.2 ≤ 9223372036854775807 ∧ s.1.length ≤ l.length + 1 ∧ (300 ≤ n → s.1 = l)) (fun _ => .raw (.bool true))
    (fun s => [(0, tbI 11 s.1.length s.2), (11, tI s.1 s.2), (2, sbB true), (3, sbI ((n : Int) + 1)), (4, sbS (l.getD (posN l noT n last) zI).1), (5, sbI (f + (if (l.getD (posN l noT n last) zI).2 = 1 then 1 else 0))), (6, sbx 9 o1 os.length c1), (7, .cells [.ptr 0 0 0 0] 40), (8, sbx 10 o2 gs.length c2)]) := by
  refine Spec.of Try.func42 rfl Try.ntmps42 rfl (by repeat (first | exact bdl_nil _ | refine bdl_cons (rowsX_bd _ _ _ _) ?_ | refine bdl_cons (fun _ _ => rfl) ?_ | refine bdl_cons rfl ?_)) fun ρ w => ?_
  refine C.seq ?_
  refine C.region ?_
  repeat (first | refine R.zb ttok ?_ | refine R.zu ttok ?_ | refine R.zc ttok ?_ | refine R.za ttok ?_ | refine R.zx ?_ | refine R.zl ttok ?_ | refine R.zs ttok ?_ | refine R.z ttok ?_ | refine R.zk ?_ | refine R.zn ?_)
  refine R.done ?_
  refine X.then ?_
  refine C.cutf (σ := Unit) 11 (fun _ => True) (fun _ => [(0, .raw (.string (l.getD (posN l noT n last) zI).1)), (1, .raw (.int .i64 (l.getD (posN l noT n last) zI).2)), (2, .ptr 2 0 0 0), (3, .ptr 3 0 0 0), (4, .ptr 4 0 0 0), (5, .ptr 5 0 0 0), (6, .ptr 6 0 0 0), (7, .ptr 7 0 0 0), (8, .ptr 8 0 0 0), (11, .raw (.bool false))]) (fun _ => labels 0 [tbI 1 l.length c, tI l c, sbB true, sbI n, sbS last, sbI f, sbx 9 o1 os.length c1, .cells [.ptr 0 0 0 0] 40, sbx 10 o2 gs.length c2, roX o1 os, roX o2 gs]) ?_ ?_
  · repeat (first | refine C.seq ?_ | refine C.region ?_ | refine R.zb ttok ?_ | refine R.zu ttok ?_ | refine R.zc ttok ?_ | refine R.za ttok ?_ | refine R.zx ?_ | refine R.zl ttok ?_ | refine R.zs ttok ?_ | refine R.z ttok ?_ | refine R.zk ?_ | refine R.zn ?_ | refine R.done ?_ | refine X.then ?_ | refine C.block ?_ | refine C.ret ?_ | refine C.skip ?_ | refine C.exit ?_ | refine X.pass_ret ?_ | refine X.pass_exit ?_ | refine X.block_normal ?_ | refine X.block_ret ?_ | refine X.block_exit ?_ | refine C.zt ?_ | refine C.zf ?_ | refine X.zo ?_)
    by_cases h0 : (n : Int) = 0
    · rw [decide_eq_true h0]
      repeat (first | refine C.seq ?_ | refine C.region ?_ | refine R.zb ttok ?_ | refine R.zu ttok ?_ | refine R.zc ttok ?_ | refine R.za ttok ?_ | refine R.zx ?_ | refine R.zl ttok ?_ | refine R.zs ttok ?_ | refine R.z ttok ?_ | refine R.zk ?_ | refine R.zn ?_ | refine R.done ?_ | refine X.then ?_ | refine C.block ?_ | refine C.ret ?_ | refine C.skip ?_ | refine C.exit ?_ | refine X.pass_ret ?_ | refine X.pass_exit ?_ | refine X.block_normal ?_ | refine X.block_ret ?_ | refine X.block_exit ?_ | refine C.zt ?_ | refine C.zf ?_ | refine X.zo ?_)
      rw [decide_eq_true (show (n : Int) < 1200 by omega)]
      repeat (first | refine C.seq ?_ | refine C.region ?_ | refine R.zb ttok ?_ | refine R.zu ttok ?_ | refine R.zc ttok ?_ | refine R.za ttok ?_ | refine R.zx ?_ | refine R.zl ttok ?_ | refine R.zs ttok ?_ | refine R.z ttok ?_ | refine R.zk ?_ | refine R.zn ?_ | refine R.done ?_ | refine X.then ?_ | refine C.block ?_ | refine C.ret ?_ | refine C.skip ?_ | refine C.exit ?_ | refine X.pass_ret ?_ | refine X.pass_exit ?_ | refine X.block_normal ?_ | refine X.block_ret ?_ | refine X.block_exit ?_ | refine C.zt ?_ | refine C.zf ?_ | refine X.zo ?_)
      exact X.back [] () trivial (by decide) rfl (by repeat (first | exact HasT.nil | refine HasT.cons rfl rfl rfl ?_)) (by repeat (first | exact HasH.nil | refine HasH.same rfl rfl rfl trivial ?_ | refine HasH.same rfl rfl rfl rfl ?_ | refine HasH.same rfl rfl rfl (fun _ _ => rfl) ?_ | refine HasH.ros rfl rfl ?_ | refine HasH.rox rfl rfl ?_ | refine HasH.rob rfl rfl ?_)) rfl (fun _ h => h)
    · have hgt := pos_gt hA (show n ≠ 0 by omega) hi
      rw [decide_eq_false h0]
      repeat (first | refine C.seq ?_ | refine C.region ?_ | refine R.zb ttok ?_ | refine R.zu ttok ?_ | refine R.zc ttok ?_ | refine R.za ttok ?_ | refine R.zx ?_ | refine R.zl ttok ?_ | refine R.zs ttok ?_ | refine R.z ttok ?_ | refine R.zk ?_ | refine R.zn ?_ | refine R.done ?_ | refine X.then ?_ | refine C.block ?_ | refine C.ret ?_ | refine C.skip ?_ | refine C.exit ?_ | refine X.pass_ret ?_ | refine X.pass_exit ?_ | refine X.block_normal ?_ | refine X.block_ret ?_ | refine X.block_exit ?_ | refine C.zt ?_ | refine C.zf ?_ | refine X.zo ?_)
      rw [show (!(Op.bytesLess (l.getD (posN l noT n last) zI).1.toList last.toList || decide ((l.getD (posN l noT n last) zI).1.toList = last.toList))) = true from hgt]
      repeat (first | refine C.seq ?_ | refine C.region ?_ | refine R.zb ttok ?_ | refine R.zu ttok ?_ | refine R.zc ttok ?_ | refine R.za ttok ?_ | refine R.zx ?_ | refine R.zl ttok ?_ | refine R.zs ttok ?_ | refine R.z ttok ?_ | refine R.zk ?_ | refine R.zn ?_ | refine R.done ?_ | refine X.then ?_ | refine C.block ?_ | refine C.ret ?_ | refine C.skip ?_ | refine C.exit ?_ | refine X.pass_ret ?_ | refine X.pass_exit ?_ | refine X.block_normal ?_ | refine X.block_ret ?_ | refine X.block_exit ?_ | refine C.zt ?_ | refine C.zf ?_ | refine X.zo ?_)
      rw [decide_eq_true (show (n : Int) < 1200 by omega)]
      repeat (first | refine C.seq ?_ | refine C.region ?_ | refine R.zb ttok ?_ | refine R.zu ttok ?_ | refine R.zc ttok ?_ | refine R.za ttok ?_ | refine R.zx ?_ | refine R.zl ttok ?_ | refine R.zs ttok ?_ | refine R.z ttok ?_ | refine R.zk ?_ | refine R.zn ?_ | refine R.done ?_ | refine X.then ?_ | refine C.block ?_ | refine C.ret ?_ | refine C.skip ?_ | refine C.exit ?_ | refine X.pass_ret ?_ | refine X.pass_exit ?_ | refine X.block_normal ?_ | refine X.block_ret ?_ | refine X.block_exit ?_ | refine C.zt ?_ | refine C.zf ?_ | refine X.zo ?_)
      exact X.back [] () trivial (by decide) rfl (by repeat (first | exact HasT.nil | refine HasT.cons rfl rfl rfl ?_)) (by repeat (first | exact HasH.nil | refine HasH.same rfl rfl rfl trivial ?_ | refine HasH.same rfl rfl rfl rfl ?_ | refine HasH.same rfl rfl rfl (fun _ _ => rfl) ?_ | refine HasH.ros rfl rfl ?_ | refine HasH.rox rfl rfl ?_ | refine HasH.rob rfl rfl ?_)) rfl (fun _ h => h)
  rintro _ _
  refine C.seq ?_
  refine C.region ?_
  repeat (first | refine R.zb ttok ?_ | refine R.zu ttok ?_ | refine R.zc ttok ?_ | refine R.za ttok ?_ | refine R.zx ?_ | refine R.zl ttok ?_ | refine R.zs ttok ?_ | refine R.z ttok ?_ | refine R.zk ?_ | refine R.zn ?_)
  refine R.done ?_
  refine X.then ?_
  refine C.cutf (σ := Unit) 11 (fun _ => True) (fun _ => [(0, .raw (.string (l.getD (posN l noT n last) zI).1)), (1, .raw (.int .i64 (l.getD (posN l noT n last) zI).2)), (2, .ptr 2 0 0 0), (3, .ptr 3 0 0 0), (4, .ptr 4 0 0 0), (5, .ptr 5 0 0 0), (6, .ptr 6 0 0 0), (7, .ptr 7 0 0 0), (8, .ptr 8 0 0 0), (11, .raw (.bool false))]) (fun _ => [(0, tbI 1 l.length c), (1, tI l c), (2, sbB true), (3, sbI n), (4, sbS (l.getD (posN l noT n last) zI).1), (5, sbI (f + (if (l.getD (posN l noT n last) zI).2 = 1 then 1 else 0))), (6, sbx 9 o1 os.length c1), (7, .cells [.ptr 0 0 0 0] 40), (8, sbx 10 o2 gs.length c2), (9, roX o1 os), (10, roX o2 gs)]) ?_ ?_
  · repeat (first | refine C.seq ?_ | refine C.region ?_ | refine R.zb ttok ?_ | refine R.zu ttok ?_ | refine R.zc ttok ?_ | refine R.za ttok ?_ | refine R.zx ?_ | refine R.zl ttok ?_ | refine R.zs ttok ?_ | refine R.z ttok ?_ | refine R.zk ?_ | refine R.zn ?_ | refine R.done ?_ | refine X.then ?_ | refine C.block ?_ | refine C.ret ?_ | refine C.skip ?_ | refine C.exit ?_ | refine X.pass_ret ?_ | refine X.pass_exit ?_ | refine X.block_normal ?_ | refine X.block_ret ?_ | refine X.block_exit ?_ | refine C.zt ?_ | refine C.zf ?_ | refine X.zo ?_)
    by_cases h1 : (l.getD (posN l noT n last) zI).2 = 1
    · rw [decide_eq_true h1, if_pos h1]
      repeat (first | refine C.seq ?_ | refine C.region ?_ | refine R.zb ttok ?_ | refine R.zu ttok ?_ | refine R.zc ttok ?_ | refine R.za ttok ?_ | refine R.zx ?_ | refine R.zl ttok ?_ | refine R.zs ttok ?_ | refine R.z ttok ?_ | refine R.zk ?_ | refine R.zn ?_ | refine R.done ?_ | refine X.then ?_ | refine C.block ?_ | refine C.ret ?_ | refine C.skip ?_ | refine C.exit ?_ | refine X.pass_ret ?_ | refine X.pass_exit ?_ | refine X.block_normal ?_ | refine X.block_ret ?_ | refine X.block_exit ?_ | refine C.zt ?_ | refine C.zf ?_ | refine X.zo ?_)
      exact X.back [] () trivial (by decide) rfl (by repeat (first | exact HasT.nil | refine HasT.cons rfl rfl rfl ?_)) (by repeat (first | exact HasH.nil | refine HasH.same rfl rfl rfl trivial ?_ | refine HasH.same rfl rfl rfl rfl ?_ | refine HasH.same rfl rfl rfl (fun _ _ => rfl) ?_ | refine HasH.ros rfl rfl ?_ | refine HasH.rox rfl rfl ?_ | refine HasH.rob rfl rfl ?_)) rfl (fun _ h => h)
    · rw [decide_eq_false h1, if_neg h1, Int.add_zero]
      repeat (first | refine C.seq ?_ | refine C.region ?_ | refine R.zb ttok ?_ | refine R.zu ttok ?_ | refine R.zc ttok ?_ | refine R.za ttok ?_ | refine R.zx ?_ | refine R.zl ttok ?_ | refine R.zs ttok ?_ | refine R.z ttok ?_ | refine R.zk ?_ | refine R.zn ?_ | refine R.done ?_ | refine X.then ?_ | refine C.block ?_ | refine C.ret ?_ | refine C.skip ?_ | refine C.exit ?_ | refine X.pass_ret ?_ | refine X.pass_exit ?_ | refine X.block_normal ?_ | refine X.block_ret ?_ | refine X.block_exit ?_ | refine C.zt ?_ | refine C.zf ?_ | refine X.zo ?_)
      exact X.back [] () trivial (by decide) rfl (by repeat (first | exact HasT.nil | refine HasT.cons rfl rfl rfl ?_)) (by repeat (first | exact HasH.nil | refine HasH.same rfl rfl rfl trivial ?_ | refine HasH.same rfl rfl rfl rfl ?_ | refine HasH.same rfl rfl rfl (fun _ _ => rfl) ?_ | refine HasH.ros rfl rfl ?_ | refine HasH.rox rfl rfl ?_ | refine HasH.rob rfl rfl ?_)) rfl (fun _ h => h)
  rintro _ _
  refine C.cutf (σ := List PI × Nat) 12 (fun s => (Asc s.1 ∧ ones s.1 = ones l) ∧ s.1.length ≤ s.2 ∧ s.2 ≤ 9223372036854775807 ∧ s.1.length ≤ l.length + 1 ∧ (300 ≤ n → s.1 = l)) (fun _ => [(0, .raw (.string (l.getD (posN l noT n last) zI).1)), (1, .raw (.int .i64 (l.getD (posN l noT n last) zI).2)), (2, .ptr 2 0 0 0), (3, .ptr 3 0 0 0), (4, .ptr 4 0 0 0), (5, .ptr 5 0 0 0), (6, .ptr 6 0 0 0), (7, .ptr 7 0 0 0), (8, .ptr 8 0 0 0), (11, .raw (.bool false))]) (fun s => [(0, tbI 11 s.1.length s.2), (11, tI s.1 s.2), (2, sbB true), (3, sbI n), (4, sbS (l.getD (posN l noT n last) zI).1), (5, sbI (f + (if (l.getD (posN l noT n last) zI).2 = 1 then 1 else 0))), (6, sbx 9 o1 os.length c1), (7, .cells [.ptr 0 0 0 0] 40), (8, sbx 10 o2 gs.length c2), (9, roX o1 os), (10, roX o2 gs)]) ?_ ?_
  · repeat (first | refine C.seq ?_ | refine C.region ?_ | refine R.zb ttok ?_ | refine R.zu ttok ?_ | refine R.zc ttok ?_ | refine R.za ttok ?_ | refine R.zx ?_ | refine R.zl ttok ?_ | refine R.zs ttok ?_ | refine R.z ttok ?_ | refine R.zk ?_ | refine R.zn ?_ | refine R.done ?_ | refine X.then ?_ | refine C.block ?_ | refine C.ret ?_ | refine C.skip ?_ | refine C.exit ?_ | refine X.pass_ret ?_ | refine X.pass_exit ?_ | refine X.block_normal ?_ | refine X.block_ret ?_ | refine X.block_exit ?_ | refine C.zt ?_ | refine C.zf ?_ | refine X.zo ?_)
    by_cases h1 : (n : Int) < (os.length : Nat)
    · rw [decide_eq_true h1]
      repeat (first | refine C.seq ?_ | refine C.region ?_ | refine R.zb ttok ?_ | refine R.zu ttok ?_ | refine R.zc ttok ?_ | refine R.za ttok ?_ | refine R.zx ?_ | refine R.zl ttok ?_ | refine R.zs ttok ?_ | refine R.z ttok ?_ | refine R.zk ?_ | refine R.zn ?_ | refine R.done ?_ | refine X.then ?_ | refine C.block ?_ | refine C.ret ?_ | refine C.skip ?_ | refine C.exit ?_ | refine X.pass_ret ?_ | refine X.pass_exit ?_ | refine X.block_normal ?_ | refine X.block_ret ?_ | refine X.block_exit ?_ | refine C.zt ?_ | refine C.zf ?_ | refine X.zo ?_)
      by_cases h2 : (n : Int) < 300
      · rw [decide_eq_true h2]
        have hlt : n < os.length := by omega
        repeat (first | refine C.seq ?_ | refine C.region ?_ | refine R.zb ttok ?_ | refine R.zu ttok ?_ | refine R.zc ttok ?_ | refine R.za ttok ?_ | refine R.zx ?_ | refine R.zl ttok ?_ | refine R.zs ttok ?_ | refine R.z ttok ?_ | refine R.zk ?_ | refine R.zn ?_ | refine R.done ?_ | refine X.then ?_ | refine C.block ?_ | refine C.ret ?_ | refine C.skip ?_ | refine C.exit ?_ | refine X.pass_ret ?_ | refine X.pass_exit ?_ | refine X.block_normal ?_ | refine X.block_ret ?_ | refine X.block_exit ?_ | refine C.zt ?_ | refine C.zf ?_ | refine X.zo ?_)
        refine C.draw [[], [], [], [1, 2], [1, 2, 3], [0, 1, 2, 3, 4]] [5] (by kernel_rfl) (by kernel_rfl) ?_
        repeat (first | refine C.seq ?_ | refine C.region ?_ | refine R.zb ttok ?_ | refine R.zu ttok ?_ | refine R.zc ttok ?_ | refine R.za ttok ?_ | refine R.zx ?_ | refine R.zl ttok ?_ | refine R.zs ttok ?_ | refine R.z ttok ?_ | refine R.zk ?_ | refine R.zn ?_ | refine R.done ?_ | refine X.then ?_ | refine C.block ?_ | refine C.ret ?_ | refine C.skip ?_ | refine C.exit ?_ | refine X.pass_ret ?_ | refine X.pass_exit ?_ | refine X.block_normal ?_ | refine X.block_ret ?_ | refine X.block_exit ?_ | refine C.zt ?_ | refine C.zf ?_ | refine X.zo ?_)
        refine R.ix1 ttok n rfl rfl rfl rfl rfl rfl rfl hlt (⟨by omega, by omega⟩ : o1 ≤ o1 + n * 1 ∧ o1 + n * 1 < o1 + os.length * 1) rfl ?_
        repeat (first | refine C.seq ?_ | refine C.region ?_ | refine R.zb ttok ?_ | refine R.zu ttok ?_ | refine R.zc ttok ?_ | refine R.za ttok ?_ | refine R.zx ?_ | refine R.zl ttok ?_ | refine R.zs ttok ?_ | refine R.z ttok ?_ | refine R.zk ?_ | refine R.zn ?_ | refine R.done ?_ | refine X.then ?_ | refine C.block ?_ | refine C.ret ?_ | refine C.skip ?_ | refine C.exit ?_ | refine X.pass_ret ?_ | refine X.pass_exit ?_ | refine X.block_normal ?_ | refine X.block_ret ?_ | refine X.block_exit ?_ | refine C.zt ?_ | refine C.zf ?_ | refine X.zo ?_)
        refine R.ldr1 (v := .raw (.string (os.getD n noT))) ttok n rfl rfl rfl rfl rfl rfl rfl rfl (by decide) (by omega) ?_
        repeat (first | refine C.seq ?_ | refine C.region ?_ | refine R.zb ttok ?_ | refine R.zu ttok ?_ | refine R.zc ttok ?_ | refine R.za ttok ?_ | refine R.zx ?_ | refine R.zl ttok ?_ | refine R.zs ttok ?_ | refine R.z ttok ?_ | refine R.zk ?_ | refine R.zn ?_ | refine R.done ?_ | refine X.then ?_ | refine C.block ?_ | refine C.ret ?_ | refine C.skip ?_ | refine C.exit ?_ | refine X.pass_ret ?_ | refine X.pass_exit ?_ | refine X.block_normal ?_ | refine X.block_ret ?_ | refine X.block_exit ?_ | refine C.zt ?_ | refine C.zf ?_ | refine X.zo ?_)
        refine R.cl [0, 1] (putI_spec l c (os.getD n noT) 2 hA (by omega) hlc hc) Try.call33 (by repeat (first | exact HasIn.nil | refine HasIn.same rfl rfl ?_ | refine HasIn.bro rfl ?_ | refine HasIn.ror rfl ?_ | refine HasIn.cro rfl rfl ?_)) rfl rfl rfl (fun _ => rfl) rfl (by kernel_rfl) fun c3 hc3 => ?_
        repeat (first | refine C.seq ?_ | refine C.region ?_ | refine R.zb ttok ?_ | refine R.zu ttok ?_ | refine R.zc ttok ?_ | refine R.za ttok ?_ | refine R.zx ?_ | refine R.zl ttok ?_ | refine R.zs ttok ?_ | refine R.z ttok ?_ | refine R.zk ?_ | refine R.zn ?_ | refine R.done ?_ | refine X.then ?_ | refine C.block ?_ | refine C.ret ?_ | refine C.skip ?_ | refine C.exit ?_ | refine X.pass_ret ?_ | refine X.pass_exit ?_ | refine X.block_normal ?_ | refine X.block_ret ?_ | refine X.block_exit ?_ | refine C.zt ?_ | refine C.zf ?_ | refine X.zo ?_)
        exact X.back [(11, 11)] (putI l (os.getD n noT) 2, c3) ⟨⟨asc_put hA _ _, ones_put (by decide) fun q hq => tch1_ne (hun q hq).1 hlt (by omega)⟩, hc3.1, hc3.2, put_len _ _ _, fun h => by omega⟩ (by decide) rfl (by repeat (first | exact HasT.nil | refine HasT.cons rfl rfl rfl ?_)) (by repeat (first | exact HasH.nil | refine HasH.same rfl rfl rfl trivial ?_ | refine HasH.same rfl rfl rfl rfl ?_ | refine HasH.same rfl rfl rfl (fun _ _ => rfl) ?_ | refine HasH.ros rfl rfl ?_ | refine HasH.rox rfl rfl ?_ | refine HasH.rob rfl rfl ?_)) rfl (fun _ h => h)
      · rw [decide_eq_false h2]
        repeat (first | refine C.seq ?_ | refine C.region ?_ | refine R.zb ttok ?_ | refine R.zu ttok ?_ | refine R.zc ttok ?_ | refine R.za ttok ?_ | refine R.zx ?_ | refine R.zl ttok ?_ | refine R.zs ttok ?_ | refine R.z ttok ?_ | refine R.zk ?_ | refine R.zn ?_ | refine R.done ?_ | refine X.then ?_ | refine C.block ?_ | refine C.ret ?_ | refine C.skip ?_ | refine C.exit ?_ | refine X.pass_ret ?_ | refine X.pass_exit ?_ | refine X.block_normal ?_ | refine X.block_ret ?_ | refine X.block_exit ?_ | refine C.zt ?_ | refine C.zf ?_ | refine X.zo ?_)
        exact X.back [(11, 1)] (l, c) ⟨⟨hA, rfl⟩, hlc, hc, Nat.le_succ _, fun _ => rfl⟩ (by decide) rfl (by repeat (first | exact HasT.nil | refine HasT.cons rfl rfl rfl ?_)) (by repeat (first | exact HasH.nil | refine HasH.same rfl rfl rfl trivial ?_ | refine HasH.same rfl rfl rfl rfl ?_ | refine HasH.same rfl rfl rfl (fun _ _ => rfl) ?_ | refine HasH.ros rfl rfl ?_ | refine HasH.rox rfl rfl ?_ | refine HasH.rob rfl rfl ?_)) rfl (fun _ h => h)
    · rw [decide_eq_false h1]
      repeat (first | refine C.seq ?_ | refine C.region ?_ | refine R.zb ttok ?_ | refine R.zu ttok ?_ | refine R.zc ttok ?_ | refine R.za ttok ?_ | refine R.zx ?_ | refine R.zl ttok ?_ | refine R.zs ttok ?_ | refine R.z ttok ?_ | refine R.zk ?_ | refine R.zn ?_ | refine R.done ?_ | refine X.then ?_ | refine C.block ?_ | refine C.ret ?_ | refine C.skip ?_ | refine C.exit ?_ | refine X.pass_ret ?_ | refine X.pass_exit ?_ | refine X.block_normal ?_ | refine X.block_ret ?_ | refine X.block_exit ?_ | refine C.zt ?_ | refine C.zf ?_ | refine X.zo ?_)
      exact X.back [(11, 1)] (l, c) ⟨⟨hA, rfl⟩, hlc, hc, Nat.le_succ _, fun _ => rfl⟩ (by decide) rfl (by repeat (first | exact HasT.nil | refine HasT.cons rfl rfl rfl ?_)) (by repeat (first | exact HasH.nil | refine HasH.same rfl rfl rfl trivial ?_ | refine HasH.same rfl rfl rfl rfl ?_ | refine HasH.same rfl rfl rfl (fun _ _ => rfl) ?_ | refine HasH.ros rfl rfl ?_ | refine HasH.rox rfl rfl ?_ | refine HasH.rob rfl rfl ?_)) rfl (fun _ h => h)
  rintro ⟨l1, cc⟩ ⟨⟨hA1, ho1⟩, hlc1, hcc1, hl1, hs1⟩
  dsimp only at hA1 ho1 hlc1 hcc1 hl1 hs1 ⊢
  refine C.cutf (σ := List PI × Nat) 12 (fun s => (Asc s.1 ∧ ones s.1 = ones l) ∧ s.1.length ≤ s.2 ∧ s.2 ≤ 9223372036854775807 ∧ s.1.length ≤ l.length + 1 ∧ (300 ≤ n → s.1 = l)) (fun _ => [(0, .raw (.string (l.getD (posN l noT n last) zI).1)), (1, .raw (.int .i64 (l.getD (posN l noT n last) zI).2)), (2, .ptr 2 0 0 0), (3, .ptr 3 0 0 0), (4, .ptr 4 0 0 0), (5, .ptr 5 0 0 0), (6, .ptr 6 0 0 0), (7, .ptr 7 0 0 0), (8, .ptr 8 0 0 0), (11, .raw (.bool false))]) (fun s => [(0, tbI 11 s.1.length s.2), (11, tI s.1 s.2), (2, sbB true), (3, sbI n), (4, sbS (l.getD (posN l noT n last) zI).1), (5, sbI (f + (if (l.getD (posN l noT n last) zI).2 = 1 then 1 else 0))), (6, sbx 9 o1 os.length c1), (7, .cells [.ptr 0 0 0 0] 40), (8, sbx 10 o2 gs.length c2), (9, roX o1 os), (10, roX o2 gs)]) ?_ ?_
  · repeat (first | refine C.seq ?_ | refine C.region ?_ | refine R.zb ttok ?_ | refine R.zu ttok ?_ | refine R.zc ttok ?_ | refine R.za ttok ?_ | refine R.zx ?_ | refine R.zl ttok ?_ | refine R.zs ttok ?_ | refine R.z ttok ?_ | refine R.zk ?_ | refine R.zn ?_ | refine R.done ?_ | refine X.then ?_ | refine C.block ?_ | refine C.ret ?_ | refine C.skip ?_ | refine C.exit ?_ | refine X.pass_ret ?_ | refine X.pass_exit ?_ | refine X.block_normal ?_ | refine X.block_ret ?_ | refine X.block_exit ?_ | refine C.zt ?_ | refine C.zf ?_ | refine X.zo ?_)
    by_cases h1 : (n : Int) < (gs.length : Nat)
    · rw [decide_eq_true h1]
      repeat (first | refine C.seq ?_ | refine C.region ?_ | refine R.zb ttok ?_ | refine R.zu ttok ?_ | refine R.zc ttok ?_ | refine R.za ttok ?_ | refine R.zx ?_ | refine R.zl ttok ?_ | refine R.zs ttok ?_ | refine R.z ttok ?_ | refine R.zk ?_ | refine R.zn ?_ | refine R.done ?_ | refine X.then ?_ | refine C.block ?_ | refine C.ret ?_ | refine C.skip ?_ | refine C.exit ?_ | refine X.pass_ret ?_ | refine X.pass_exit ?_ | refine X.block_normal ?_ | refine X.block_ret ?_ | refine X.block_exit ?_ | refine C.zt ?_ | refine C.zf ?_ | refine X.zo ?_)
      by_cases h2 : (n : Int) < 300
      · rw [decide_eq_true h2]
        have hlt : n < gs.length := by omega
        repeat (first | refine C.seq ?_ | refine C.region ?_ | refine R.zb ttok ?_ | refine R.zu ttok ?_ | refine R.zc ttok ?_ | refine R.za ttok ?_ | refine R.zx ?_ | refine R.zl ttok ?_ | refine R.zs ttok ?_ | refine R.z ttok ?_ | refine R.zk ?_ | refine R.zn ?_ | refine R.done ?_ | refine X.then ?_ | refine C.block ?_ | refine C.ret ?_ | refine C.skip ?_ | refine C.exit ?_ | refine X.pass_ret ?_ | refine X.pass_exit ?_ | refine X.block_normal ?_ | refine X.block_ret ?_ | refine X.block_exit ?_ | refine C.zt ?_ | refine C.zf ?_ | refine X.zo ?_)
        refine C.draw [[], [], [], [1, 2], [1, 2, 3], [0, 1, 2, 3, 4]] [5] (by kernel_rfl) (by kernel_rfl) ?_
        repeat (first | refine C.seq ?_ | refine C.region ?_ | refine R.zb ttok ?_ | refine R.zu ttok ?_ | refine R.zc ttok ?_ | refine R.za ttok ?_ | refine R.zx ?_ | refine R.zl ttok ?_ | refine R.zs ttok ?_ | refine R.z ttok ?_ | refine R.zk ?_ | refine R.zn ?_ | refine R.done ?_ | refine X.then ?_ | refine C.block ?_ | refine C.ret ?_ | refine C.skip ?_ | refine C.exit ?_ | refine X.pass_ret ?_ | refine X.pass_exit ?_ | refine X.block_normal ?_ | refine X.block_ret ?_ | refine X.block_exit ?_ | refine C.zt ?_ | refine C.zf ?_ | refine X.zo ?_)
        refine R.ix1 ttok n rfl rfl rfl rfl rfl rfl rfl hlt (⟨by omega, by omega⟩ : o2 ≤ o2 + n * 1 ∧ o2 + n * 1 < o2 + gs.length * 1) rfl ?_
        repeat (first | refine C.seq ?_ | refine C.region ?_ | refine R.zb ttok ?_ | refine R.zu ttok ?_ | refine R.zc ttok ?_ | refine R.za ttok ?_ | refine R.zx ?_ | refine R.zl ttok ?_ | refine R.zs ttok ?_ | refine R.z ttok ?_ | refine R.zk ?_ | refine R.zn ?_ | refine R.done ?_ | refine X.then ?_ | refine C.block ?_ | refine C.ret ?_ | refine C.skip ?_ | refine C.exit ?_ | refine X.pass_ret ?_ | refine X.pass_exit ?_ | refine X.block_normal ?_ | refine X.block_ret ?_ | refine X.block_exit ?_ | refine C.zt ?_ | refine C.zf ?_ | refine X.zo ?_)
        refine R.ldr1 (v := .raw (.string (gs.getD n noT))) ttok n rfl rfl rfl rfl rfl rfl rfl rfl (by decide) (by omega) ?_
        repeat (first | refine C.seq ?_ | refine C.region ?_ | refine R.zb ttok ?_ | refine R.zu ttok ?_ | refine R.zc ttok ?_ | refine R.za ttok ?_ | refine R.zx ?_ | refine R.zl ttok ?_ | refine R.zs ttok ?_ | refine R.z ttok ?_ | refine R.zk ?_ | refine R.zn ?_ | refine R.done ?_ | refine X.then ?_ | refine C.block ?_ | refine C.ret ?_ | refine C.skip ?_ | refine C.exit ?_ | refine X.pass_ret ?_ | refine X.pass_exit ?_ | refine X.block_normal ?_ | refine X.block_ret ?_ | refine X.block_exit ?_ | refine C.zt ?_ | refine C.zf ?_ | refine X.zo ?_)
        refine R.cl [0, 11] (delI_spec l1 cc (gs.getD n noT) hA1 (by omega) hlc1 hcc1) Try.call43 (by repeat (first | exact HasIn.nil | refine HasIn.same rfl rfl ?_ | refine HasIn.bro rfl ?_ | refine HasIn.ror rfl ?_ | refine HasIn.cro rfl rfl ?_)) rfl rfl rfl (fun _ => rfl) rfl (by kernel_rfl) fun c3 hc3 => ?_
        repeat (first | refine C.seq ?_ | refine C.region ?_ | refine R.zb ttok ?_ | refine R.zu ttok ?_ | refine R.zc ttok ?_ | refine R.za ttok ?_ | refine R.zx ?_ | refine R.zl ttok ?_ | refine R.zs ttok ?_ | refine R.z ttok ?_ | refine R.zk ?_ | refine R.zn ?_ | refine R.done ?_ | refine X.then ?_ | refine C.block ?_ | refine C.ret ?_ | refine C.skip ?_ | refine C.exit ?_ | refine X.pass_ret ?_ | refine X.pass_exit ?_ | refine X.block_normal ?_ | refine X.block_ret ?_ | refine X.block_exit ?_ | refine C.zt ?_ | refine C.zf ?_ | refine X.zo ?_)
        exact X.back [(11, 12)] (delI l1 (gs.getD n noT), c3) ⟨⟨asc_del hA1 _, (ones_del fun q hq => tch1_ne (hun q (by rw [← ho1]; exact hq)).2 hlt (by omega)).trans ho1⟩, hc3.1, hc3.2, by have := del_len l1 (gs.getD n noT); dsimp only; omega, fun h => by omega⟩ (by decide) rfl (by repeat (first | exact HasT.nil | refine HasT.cons rfl rfl rfl ?_)) (by repeat (first | exact HasH.nil | refine HasH.same rfl rfl rfl trivial ?_ | refine HasH.same rfl rfl rfl rfl ?_ | refine HasH.same rfl rfl rfl (fun _ _ => rfl) ?_ | refine HasH.ros rfl rfl ?_ | refine HasH.rox rfl rfl ?_ | refine HasH.rob rfl rfl ?_)) rfl (fun _ h => h)
      · rw [decide_eq_false h2]
        repeat (first | refine C.seq ?_ | refine C.region ?_ | refine R.zb ttok ?_ | refine R.zu ttok ?_ | refine R.zc ttok ?_ | refine R.za ttok ?_ | refine R.zx ?_ | refine R.zl ttok ?_ | refine R.zs ttok ?_ | refine R.z ttok ?_ | refine R.zk ?_ | refine R.zn ?_ | refine R.done ?_ | refine X.then ?_ | refine C.block ?_ | refine C.ret ?_ | refine C.skip ?_ | refine C.exit ?_ | refine X.pass_ret ?_ | refine X.pass_exit ?_ | refine X.block_normal ?_ | refine X.block_ret ?_ | refine X.block_exit ?_ | refine C.zt ?_ | refine C.zf ?_ | refine X.zo ?_)
        exact X.back [] (l1, cc) ⟨⟨hA1, ho1⟩, hlc1, hcc1, hl1, hs1⟩ (by decide) rfl (by repeat (first | exact HasT.nil | refine HasT.cons rfl rfl rfl ?_)) (by repeat (first | exact HasH.nil | refine HasH.same rfl rfl rfl trivial ?_ | refine HasH.same rfl rfl rfl rfl ?_ | refine HasH.same rfl rfl rfl (fun _ _ => rfl) ?_ | refine HasH.ros rfl rfl ?_ | refine HasH.rox rfl rfl ?_ | refine HasH.rob rfl rfl ?_)) rfl (fun _ h => h)
    · rw [decide_eq_false h1]
      repeat (first | refine C.seq ?_ | refine C.region ?_ | refine R.zb ttok ?_ | refine R.zu ttok ?_ | refine R.zc ttok ?_ | refine R.za ttok ?_ | refine R.zx ?_ | refine R.zl ttok ?_ | refine R.zs ttok ?_ | refine R.z ttok ?_ | refine R.zk ?_ | refine R.zn ?_ | refine R.done ?_ | refine X.then ?_ | refine C.block ?_ | refine C.ret ?_ | refine C.skip ?_ | refine C.exit ?_ | refine X.pass_ret ?_ | refine X.pass_exit ?_ | refine X.block_normal ?_ | refine X.block_ret ?_ | refine X.block_exit ?_ | refine C.zt ?_ | refine C.zf ?_ | refine X.zo ?_)
      exact X.back [] (l1, cc) ⟨⟨hA1, ho1⟩, hlc1, hcc1, hl1, hs1⟩ (by decide) rfl (by repeat (first | exact HasT.nil | refine HasT.cons rfl rfl rfl ?_)) (by repeat (first | exact HasH.nil | refine HasH.same rfl rfl rfl trivial ?_ | refine HasH.same rfl rfl rfl rfl ?_ | refine HasH.same rfl rfl rfl (fun _ _ => rfl) ?_ | refine HasH.ros rfl rfl ?_ | refine HasH.rox rfl rfl ?_ | refine HasH.rob rfl rfl ?_)) rfl (fun _ h => h)
  rintro s hs
  repeat (first | refine C.seq ?_ | refine C.region ?_ | refine R.zb ttok ?_ | refine R.zu ttok ?_ | refine R.zc ttok ?_ | refine R.za ttok ?_ | refine R.zx ?_ | refine R.zl ttok ?_ | refine R.zs ttok ?_ | refine R.z ttok ?_ | refine R.zk ?_ | refine R.zn ?_ | refine R.done ?_ | refine X.then ?_ | refine C.block ?_ | refine C.ret ?_ | refine C.skip ?_ | refine C.exit ?_ | refine X.pass_ret ?_ | refine X.pass_exit ?_ | refine X.block_normal ?_ | refine X.block_ret ?_ | refine X.block_exit ?_ | refine C.zt ?_ | refine C.zf ?_ | refine X.zo ?_)
  refine X.fin ttok s [] hs rfl rfl rfl (by repeat (first | exact HasH.nil | refine HasH.same rfl rfl rfl trivial ?_ | refine HasH.same rfl rfl rfl rfl ?_ | refine HasH.same rfl rfl rfl (fun _ _ => rfl) ?_ | refine HasH.ros rfl rfl ?_ | refine HasH.rox rfl rfl ?_ | refine HasH.rob rfl rfl ?_)) _ (by first | exact .inl rfl | exact .inr rfl)
end
end Go.Proofs.Ytlcojlcackkhpaa
/- table: TableSteady: the Range, the law -/
namespace Go.Proofs.Ytlcojlcackkhpaa
set_option linter.unusedVariables false
set_option linter.unusedSimpArgs false
open Go.RowKit
set_option maxRecDepth 100000
set_option maxHeartbeats 8000000
theorem fnd_cast {l l2 : List PI} {n : Nat} {last : ByteArray} (hA : Asc l) (hA2 : Asc l2) (ho : ones l2 = ones l) (hi : posN l noT n last < l.length) :
    ((fnd l n last : Nat) : Int) + (if (l.getD (posN l noT n last) zI).2 = 1 then 1 else 0) = ((fnd l2 (n + 1) (l.getD (posN l noT n last) zI).1 : Nat) : Int) := by
  rw [fnd_next hA hA2 ho hi]
  split <;> simp
theorem fnd_le (l : List PI) (n : Nat) (last : ByteArray) : fnd l n last ≤ l.length := by
  unfold fnd
  have := List.countP_le_length (p := oneB) (l := l.take (posN l noT n last))
  rw [List.length_take] at this
  omega
section
variable (ks os gs : List ByteArray) (o0 o1 o2 c0 c1 c2 : Nat)
theorem rangeSt_spec (l : List PI) (c : Nat) (z : Int) (hz : z = ((fnd l 0 noT : Nat) : Int)) (hA : Asc l) (hlc : l.length ≤ c) (hc : c ≤ 9223372036854775807) (hl : l.length ≤ 300) (hun : ∀ q ∈ ones l, tch1 os q.1 = false ∧ tch1 gs q.1 = false) :
    Spec Try.prog 51 [.fn 42 [.ptr 2 0 0 0, .ptr 3 0 0 0, .ptr 4 0 0 0, .ptr 5 0 0 0, .ptr 6 0 0 0, .ptr 7 0 0 0, .ptr 8 0 0 0], .ptr 11 0 0 0, .ptr 12 0 0 0, .ptr 13 0 0 0]
    [tbI 1 l.length c, tI l c, sbB true, sbI (0 : Nat), sbS noT, sbI z, sbx 9 o1 os.length c1, .cells [.ptr 0 0 0 0] 40, sbx 10 o2 gs.length c2, roX o1 os, roX o2 gs, .cells [.ptr 0 0 0 0] 40, sbS noT, sbS noT]
    15 (σ := List PI × Nat × Nat × ByteArray) (fun _ => True) (fun _ => .tup [])
    (fun s => [(0, tbI 14 s.1.length s.2.1), (14, tI s.1 s.2.1), (2, sbB true), (3, sbI (s.2.2.1 : Nat)), (4, sbS s.2.2.2), (5, sbI (ones l).length), (6, sbx 9 o1 os.length c1), (7, .cells [.ptr 0 0 0 0] 40), (8, sbx 10 o2 gs.length c2), (11, .cells [.ptr 0 0 0 0] 40), (12, sbS noT), (13, sbS noT)]) := by
  subst hz
  refine Spec.of Try.func51 rfl Try.ntmps51 rfl (by repeat (first | exact bdl_nil _ | refine bdl_cons (rowsX_bd _ _ _ _) ?_ | refine bdl_cons (fun _ _ => rfl) ?_ | refine bdl_cons rfl ?_)) fun ρ w => ?_
  repeat (first | refine C.seq ?_ | refine C.region ?_ | refine R.zb ttok ?_ | refine R.zu ttok ?_ | refine R.zc ttok ?_ | refine R.za ttok ?_ | refine R.zx ?_ | refine R.zl ttok ?_ | refine R.zs ttok ?_ | refine R.z ttok ?_ | refine R.zk ?_ | refine R.zn ?_ | refine R.done ?_ | refine X.then ?_ | refine C.block ?_ | refine C.ret ?_ | refine C.skip ?_ | refine C.exit ?_ | refine X.pass_ret ?_ | refine X.pass_exit ?_ | refine X.block_normal ?_ | refine X.block_ret ?_ | refine X.block_exit ?_ | refine C.zt ?_ | refine C.zf ?_ | refine X.zo ?_)
  refine R.cl [0, 1] (findI_spec l c noT hA (by omega)) Try.call52 (by repeat (first | exact HasIn.nil | refine HasIn.same rfl rfl ?_ | refine HasIn.ros rfl ?_ | refine HasIn.other rfl (fun e => by cases e) (fun ρ x w hh => tab_ro hh) ?_)) rfl rfl rfl (fun _ => rfl) rfl (by kernel_rfl) fun _ _ => ?_
  have hpn := plc_le l noT
  repeat (first | refine C.seq ?_ | refine C.region ?_ | refine R.zb ttok ?_ | refine R.zu ttok ?_ | refine R.zc ttok ?_ | refine R.za ttok ?_ | refine R.zx ?_ | refine R.zl ttok ?_ | refine R.zs ttok ?_ | refine R.z ttok ?_ | refine R.zk ?_ | refine R.zn ?_ | refine R.done ?_ | refine X.then ?_ | refine C.block ?_ | refine C.ret ?_ | refine C.skip ?_ | refine C.exit ?_ | refine X.pass_ret ?_ | refine X.pass_exit ?_ | refine X.block_normal ?_ | refine X.block_ret ?_ | refine X.block_exit ?_ | refine C.zt ?_ | refine C.zf ?_ | refine X.zo ?_)
  refine C.loop (σ := List PI × Nat × Nat × ByteArray) (L2 := 15) (Std l)
    (fun s => [(0, .fn 42 [.ptr 2 0 0 0, .ptr 3 0 0 0, .ptr 4 0 0 0, .ptr 5 0 0 0, .ptr 6 0 0 0, .ptr 7 0 0 0, .ptr 8 0 0 0]), (1, .ptr 11 0 0 0), (2, .ptr 12 0 0 0), (3, .ptr 13 0 0 0), (5, .raw (.int .i64 (posN s.1 noT s.2.2.1 s.2.2.2 : Nat)))])
    (fun s => [(0, tbI 14 s.1.length s.2.1), (14, tI s.1 s.2.1), (2, sbB true), (3, sbI (s.2.2.1 : Nat)), (4, sbS s.2.2.2), (5, sbI (fnd s.1 s.2.2.1 s.2.2.2 : Nat)), (6, sbx 9 o1 os.length c1), (7, .cells [.ptr 0 0 0 0] 40), (8, sbx 10 o2 gs.length c2), (9, roX o1 os), (10, roX o2 gs), (11, .cells [.ptr 0 0 0 0] 40), (12, sbS noT), (13, sbS noT)])
    _ (stdN l) [(14, 1)] (l, c, 0, noT) ⟨hA, hlc, hc, by simp, .inl (Nat.zero_le _), rfl⟩ rfl (by repeat (first | exact HasT.nil | refine HasT.cons rfl rfl rfl ?_)) (by repeat (first | exact HasH.nil | refine HasH.same rfl rfl rfl trivial ?_ | refine HasH.same rfl rfl rfl rfl ?_ | refine HasH.same rfl rfl rfl (fun _ _ => rfl) ?_ | refine HasH.ros rfl rfl ?_ | refine HasH.rox rfl rfl ?_ | refine HasH.rob rfl rfl ?_)) rfl (fun _ h => h) ?_
  rintro ⟨l1, cc, n, last⟩ hS
  have hA1 := hS.asc
  have hl1 := hS.len
  have hlc1 := hS.cap1
  have hcc1 := hS.cap2
  have hon := hS.on
  dsimp only at hA1 hl1 hlc1 hcc1 hon
  have hle := posN_le l1 noT n last
  have hfl := fnd_le l1 n last
  dsimp only
  repeat (first | refine C.seq ?_ | refine C.region ?_ | refine R.zb ttok ?_ | refine R.zu ttok ?_ | refine R.zc ttok ?_ | refine R.za ttok ?_ | refine R.zx ?_ | refine R.zl ttok ?_ | refine R.zs ttok ?_ | refine R.z ttok ?_ | refine R.zk ?_ | refine R.zn ?_ | refine R.done ?_ | refine X.then ?_ | refine C.block ?_ | refine C.ret ?_ | refine C.skip ?_ | refine C.exit ?_ | refine X.pass_ret ?_ | refine X.pass_exit ?_ | refine X.block_normal ?_ | refine X.block_ret ?_ | refine X.block_exit ?_ | refine C.zt ?_ | refine C.zf ?_ | refine X.zo ?_)
  refine R.cl [0, 14] (lenI_spec l1 cc) Try.call31 (by repeat (first | exact HasIn.nil | refine HasIn.same rfl rfl ?_ | refine HasIn.ros rfl ?_ | refine HasIn.other rfl (fun e => by cases e) (fun ρ x w hh => tab_ro hh) ?_)) rfl rfl rfl (fun _ => rfl) rfl (by kernel_rfl) fun _ _ => ?_
  repeat (first | refine C.seq ?_ | refine C.region ?_ | refine R.zb ttok ?_ | refine R.zu ttok ?_ | refine R.zc ttok ?_ | refine R.za ttok ?_ | refine R.zx ?_ | refine R.zl ttok ?_ | refine R.zs ttok ?_ | refine R.z ttok ?_ | refine R.zk ?_ | refine R.zn ?_ | refine R.done ?_ | refine X.then ?_ | refine C.block ?_ | refine C.ret ?_ | refine C.skip ?_ | refine C.exit ?_ | refine X.pass_ret ?_ | refine X.pass_exit ?_ | refine X.block_normal ?_ | refine X.block_ret ?_ | refine X.block_exit ?_ | refine C.zt ?_ | refine C.zf ?_ | refine X.zo ?_)
  refine C.dec rfl (fun hi => ?_) (fun hi => ?_)
  · have hi : posN l1 noT n last < l1.length := by omega
    have hn : n < 1200 := by
      rcases hS.few with h | h
      · dsimp only at h; omega
      · dsimp only at h; omega
    repeat (first | refine C.seq ?_ | refine C.region ?_ | refine R.zb ttok ?_ | refine R.zu ttok ?_ | refine R.zc ttok ?_ | refine R.za ttok ?_ | refine R.zx ?_ | refine R.zl ttok ?_ | refine R.zs ttok ?_ | refine R.z ttok ?_ | refine R.zk ?_ | refine R.zn ?_ | refine R.done ?_ | refine X.then ?_ | refine C.block ?_ | refine C.ret ?_ | refine C.skip ?_ | refine C.exit ?_ | refine X.pass_ret ?_ | refine X.pass_exit ?_ | refine X.block_normal ?_ | refine X.block_ret ?_ | refine X.block_exit ?_ | refine C.zt ?_ | refine C.zf ?_ | refine X.zo ?_)
    refine R.ix ttok (posN l1 noT n last) rfl rfl rfl rfl rfl (by kernel_rfl) rfl hi (by show _ < _; omega) rfl ?_
    repeat (first | refine C.seq ?_ | refine C.region ?_ | refine R.zb ttok ?_ | refine R.zu ttok ?_ | refine R.zc ttok ?_ | refine R.za ttok ?_ | refine R.zx ?_ | refine R.zl ttok ?_ | refine R.zs ttok ?_ | refine R.z ttok ?_ | refine R.zk ?_ | refine R.zn ?_ | refine R.done ?_ | refine X.then ?_ | refine C.block ?_ | refine C.ret ?_ | refine C.skip ?_ | refine C.exit ?_ | refine X.pass_ret ?_ | refine X.pass_exit ?_ | refine X.block_normal ?_ | refine X.block_ret ?_ | refine X.block_exit ?_ | refine C.zt ?_ | refine C.zf ?_ | refine X.zo ?_)
    refine R.ldt (v := .agg (piA (l1.getD (posN l1 noT n last) zI))) ttok rfl rfl rfl (by rw [Nat.zero_add]; rfl) rfl (by kernel_rfl) (by omega) ?_
    repeat (first | refine C.seq ?_ | refine C.region ?_ | refine R.zb ttok ?_ | refine R.zu ttok ?_ | refine R.zc ttok ?_ | refine R.za ttok ?_ | refine R.zx ?_ | refine R.zl ttok ?_ | refine R.zs ttok ?_ | refine R.z ttok ?_ | refine R.zk ?_ | refine R.zn ?_ | refine R.done ?_ | refine X.then ?_ | refine C.block ?_ | refine C.ret ?_ | refine C.skip ?_ | refine C.exit ?_ | refine X.pass_ret ?_ | refine X.pass_exit ?_ | refine X.block_normal ?_ | refine X.block_ret ?_ | refine X.block_exit ?_ | refine C.zt ?_ | refine C.zf ?_ | refine X.zo ?_)
    rw [decide_eq_false (show ¬ noT.toList ≠ noT.toList from fun h => h rfl)]
    repeat (first | refine C.seq ?_ | refine C.region ?_ | refine R.zb ttok ?_ | refine R.zu ttok ?_ | refine R.zc ttok ?_ | refine R.za ttok ?_ | refine R.zx ?_ | refine R.zl ttok ?_ | refine R.zs ttok ?_ | refine R.z ttok ?_ | refine R.zk ?_ | refine R.zn ?_ | refine R.done ?_ | refine X.then ?_ | refine C.block ?_ | refine C.ret ?_ | refine C.skip ?_ | refine C.exit ?_ | refine X.pass_ret ?_ | refine X.pass_exit ?_ | refine X.block_normal ?_ | refine X.block_ret ?_ | refine X.block_exit ?_ | refine C.zt ?_ | refine C.zf ?_ | refine X.zo ?_)
    refine R.cl [0, 14, 2, 3, 4, 5, 6, 7, 8, 9, 10] (st2_spec os gs o1 o2 c1 c2 l1 cc n last (fnd l1 n last : Nat) hA1 hlc1 hcc1 (by omega) hn (by omega) hi (by rw [hon]; exact hun)) Try.call42 (by repeat (first | exact HasIn.nil | refine HasIn.same rfl rfl ?_ | refine HasIn.ros rfl ?_ | refine HasIn.rox rfl ?_ | refine HasIn.any rfl ?_ | refine HasIn.other rfl (fun e => by cases e) (fun ρ x w hh => tab_ro hh) ?_)) rfl rfl rfl (fun _ => rfl) rfl (by kernel_rfl) fun s hs => ?_
    obtain ⟨⟨g1, g2⟩, g3, g4, g5, g6⟩ := hs
    obtain ⟨hS2, hmu⟩ := hS.next hi g1 g3 g4 g2 g5 g6
    rw [fnd_cast hA1 g1 g2 hi]
    repeat (first | refine C.seq ?_ | refine C.region ?_ | refine R.zb ttok ?_ | refine R.zu ttok ?_ | refine R.zc ttok ?_ | refine R.za ttok ?_ | refine R.zx ?_ | refine R.zl ttok ?_ | refine R.zs ttok ?_ | refine R.z ttok ?_ | refine R.zk ?_ | refine R.zn ?_ | refine R.done ?_ | refine X.then ?_ | refine C.block ?_ | refine C.ret ?_ | refine C.skip ?_ | refine C.exit ?_ | refine X.pass_ret ?_ | refine X.pass_exit ?_ | refine X.block_normal ?_ | refine X.block_ret ?_ | refine X.block_exit ?_ | refine C.zt ?_ | refine C.zf ?_ | refine X.zo ?_)
    refine R.cl [0, 16] (aboveI_spec s.1 s.2 (l1.getD (posN l1 noT n last) zI).1 g1 (by omega)) Try.call53 (by repeat (first | exact HasIn.nil | refine HasIn.same rfl rfl ?_ | refine HasIn.ros rfl ?_ | refine HasIn.other rfl (fun e => by cases e) (fun ρ x w hh => tab_ro hh) ?_)) rfl rfl rfl (fun _ => rfl) rfl (by kernel_rfl) fun _ _ => ?_
    rw [← posN_succN s.1 noT n]
    repeat (first | refine C.seq ?_ | refine C.region ?_ | refine R.zb ttok ?_ | refine R.zu ttok ?_ | refine R.zc ttok ?_ | refine R.za ttok ?_ | refine R.zx ?_ | refine R.zl ttok ?_ | refine R.zs ttok ?_ | refine R.z ttok ?_ | refine R.zk ?_ | refine R.zn ?_ | refine R.done ?_ | refine X.then ?_ | refine C.block ?_ | refine C.ret ?_ | refine C.skip ?_ | refine C.exit ?_ | refine X.pass_ret ?_ | refine X.pass_exit ?_ | refine X.block_normal ?_ | refine X.block_ret ?_ | refine X.block_exit ?_ | refine C.zt ?_ | refine C.zf ?_ | refine X.zo ?_)
    exact X.back [(14, 16)] (s.1, s.2, n + 1, (l1.getD (posN l1 noT n last) zI).1) hS2 hmu rfl (by repeat (first | exact HasT.nil | refine HasT.cons rfl rfl rfl ?_)) (by repeat (first | exact HasH.nil | refine HasH.same rfl rfl rfl trivial ?_ | refine HasH.same rfl rfl rfl rfl ?_ | refine HasH.same rfl rfl rfl (fun _ _ => rfl) ?_ | refine HasH.ros rfl rfl ?_ | refine HasH.rox rfl rfl ?_ | refine HasH.rob rfl rfl ?_)) rfl (fun _ h => h)
  · repeat (first | refine C.seq ?_ | refine C.region ?_ | refine R.zb ttok ?_ | refine R.zu ttok ?_ | refine R.zc ttok ?_ | refine R.za ttok ?_ | refine R.zx ?_ | refine R.zl ttok ?_ | refine R.zs ttok ?_ | refine R.z ttok ?_ | refine R.zk ?_ | refine R.zn ?_ | refine R.done ?_ | refine X.then ?_ | refine C.block ?_ | refine C.ret ?_ | refine C.skip ?_ | refine C.exit ?_ | refine X.pass_ret ?_ | refine X.pass_exit ?_ | refine X.block_normal ?_ | refine X.block_ret ?_ | refine X.block_exit ?_ | refine C.zt ?_ | refine C.zf ?_ | refine X.zo ?_)
    rw [show (fnd l1 n last : Nat) = (ones l).length by rw [← hon]; exact fnd_end (by omega)]
    refine X.fin ttok (l1, cc, n, last) [] trivial rfl rfl rfl (by repeat (first | exact HasH.nil | refine HasH.same rfl rfl rfl trivial ?_ | refine HasH.same rfl rfl rfl rfl ?_ | refine HasH.same rfl rfl rfl (fun _ _ => rfl) ?_ | refine HasH.ros rfl rfl ?_ | refine HasH.rox rfl rfl ?_ | refine HasH.rob rfl rfl ?_)) _ (by first | exact .inl rfl | exact .inr rfl)
theorem tableSteady_law (h0 : ks.length ≤ 9223372036854775807) (h1 : os.length ≤ 9223372036854775807) (h2 : gs.length ≤ 9223372036854775807) :
    Spec Try.prog 11 [.sl 0 1 o0 ks.length c0, .sl 1 1 o1 os.length c1, .sl 2 1 o2 gs.length c2] [roX o0 ks, roX o1 os, roX o2 gs] 3 (σ := Unit) (fun _ => True) (fun _ => .raw (.bool true)) (fun _ => []) := by
  refine Spec.of Try.func11 rfl Try.ntmps11 rfl (by repeat (first | exact bdl_nil _ | refine bdl_cons (rowsX_bd _ _ _ _) ?_)) fun ρ w => ?_
  repeat (first | refine C.seq ?_ | refine C.region ?_ | refine R.zb ttok ?_ | refine R.zu ttok ?_ | refine R.zc ttok ?_ | refine R.za ttok ?_ | refine R.zx ?_ | refine R.zl ttok ?_ | refine R.zs ttok ?_ | refine R.z ttok ?_ | refine R.zk ?_ | refine R.zn ?_ | refine R.done ?_ | refine X.then ?_ | refine C.block ?_ | refine C.ret ?_ | refine C.skip ?_ | refine C.exit ?_ | refine X.pass_ret ?_ | refine X.pass_exit ?_ | refine X.block_normal ?_ | refine X.block_ret ?_ | refine X.block_exit ?_ | refine C.zt ?_ | refine C.zf ?_ | refine X.zo ?_)
  refine R.cl [] (newI_spec) Try.call22 (by repeat (first | exact HasIn.nil | refine HasIn.same rfl rfl ?_ | refine HasIn.bro rfl ?_ | refine HasIn.ror rfl ?_ | refine HasIn.cro rfl rfl ?_)) rfl rfl rfl (fun _ => rfl) rfl (by kernel_rfl) fun _ _ => ?_
  repeat (first | refine C.seq ?_ | refine C.region ?_ | refine R.zb ttok ?_ | refine R.zu ttok ?_ | refine R.zc ttok ?_ | refine R.za ttok ?_ | refine R.zx ?_ | refine R.zl ttok ?_ | refine R.zs ttok ?_ | refine R.z ttok ?_ | refine R.zk ?_ | refine R.zn ?_ | refine R.done ?_ | refine X.then ?_ | refine C.block ?_ | refine C.ret ?_ | refine C.skip ?_ | refine C.exit ?_ | refine X.pass_ret ?_ | refine X.pass_exit ?_ | refine X.block_normal ?_ | refine X.block_ret ?_ | refine X.block_exit ?_ | refine C.zt ?_ | refine C.zf ?_ | refine X.zo ?_)
  refine C.noneH 5 [.sl 7 2 0 ([] : List PI).length 0] (.tab 2 ([] : List PI).length 0 (piF []) 100) (none_tab _ _ _ _) rfl rfl rfl (fun ρ h => by have h : ρ 7 = none := h; show [(AV.sl 7 2 0 0 0).conc ρ] = [Value.slice none 0 0]; simp [AV.conc, h]) ?_
  refine C.loop (σ := List PI × Nat × Nat) (L2 := 8) (fun s => (Asc s.1 ∧ ∀ q ∈ s.1, q.2 = 0) ∧ s.1.length ≤ s.2.2 ∧ s.1.length ≤ s.2.1 ∧ s.2.1 ≤ 9223372036854775807 ∧ s.2.2 ≤ 300 ∧ s.2.2 ≤ ks.length)
    (fun s => [(0, .sl 0 1 o0 ks.length c0), (4, .ptr 3 0 0 0), (5, .ptr 4 0 0 0), (6, .raw (.bool false)), (7, .ptr 6 0 0 0), (8, .raw (.slice none 0 0)), (9, .raw (.int .i64 (s.2.2 : Nat)))])
    (fun s => [(0, roX o0 ks), (1, roX o1 os), (2, roX o2 gs), (3, sbx 1 o1 os.length c1), (4, sbx 2 o2 gs.length c2), (5, tbI 7 s.1.length s.2.1), (6, .cells [.ptr 5 0 0 0] 40), (7, tI s.1 s.2.1)]) _ (fun s => 300 - s.2.2) [] ([], 0, 0) ⟨⟨List.Pairwise.nil, fun q hq => by cases hq⟩, by simp, by simp, by simp, by simp, by simp⟩ rfl (by repeat (first | exact HasT.nil | refine HasT.cons rfl rfl rfl ?_)) (by repeat (first | exact HasH.nil | refine HasH.same rfl rfl rfl trivial ?_ | refine HasH.same rfl rfl rfl rfl ?_ | refine HasH.same rfl rfl rfl (fun _ _ => rfl) ?_ | refine HasH.ros rfl rfl ?_ | refine HasH.rox rfl rfl ?_ | refine HasH.rob rfl rfl ?_)) rfl (fun _ h => h) ?_
  rintro ⟨l, c, i⟩ ⟨⟨hA, hv⟩, hli, hlc, hcc, hi3, hik⟩
  dsimp only at hA hv hli hlc hcc hi3 hik ⊢
  repeat (first | refine C.seq ?_ | refine C.region ?_ | refine R.zb ttok ?_ | refine R.zu ttok ?_ | refine R.zc ttok ?_ | refine R.za ttok ?_ | refine R.zx ?_ | refine R.zl ttok ?_ | refine R.zs ttok ?_ | refine R.z ttok ?_ | refine R.zk ?_ | refine R.zn ?_ | refine R.done ?_ | refine X.then ?_ | refine C.block ?_ | refine C.ret ?_ | refine C.skip ?_ | refine C.exit ?_ | refine X.pass_ret ?_ | refine X.pass_exit ?_ | refine X.block_normal ?_ | refine X.block_ret ?_ | refine X.block_exit ?_ | refine C.zt ?_ | refine C.zf ?_ | refine X.zo ?_)
  by_cases h1 : (i : Int) < (ks.length : Nat)
  · rw [decide_eq_true h1]
    repeat (first | refine C.seq ?_ | refine C.region ?_ | refine R.zb ttok ?_ | refine R.zu ttok ?_ | refine R.zc ttok ?_ | refine R.za ttok ?_ | refine R.zx ?_ | refine R.zl ttok ?_ | refine R.zs ttok ?_ | refine R.z ttok ?_ | refine R.zk ?_ | refine R.zn ?_ | refine R.done ?_ | refine X.then ?_ | refine C.block ?_ | refine C.ret ?_ | refine C.skip ?_ | refine C.exit ?_ | refine X.pass_ret ?_ | refine X.pass_exit ?_ | refine X.block_normal ?_ | refine X.block_ret ?_ | refine X.block_exit ?_ | refine C.zt ?_ | refine C.zf ?_ | refine X.zo ?_)
    by_cases h2 : (i : Int) < 300
    · have hlt : i < ks.length := by omega
      rw [decide_eq_true h2]
      repeat (first | refine C.seq ?_ | refine C.region ?_ | refine R.zb ttok ?_ | refine R.zu ttok ?_ | refine R.zc ttok ?_ | refine R.za ttok ?_ | refine R.zx ?_ | refine R.zl ttok ?_ | refine R.zs ttok ?_ | refine R.z ttok ?_ | refine R.zk ?_ | refine R.zn ?_ | refine R.done ?_ | refine X.then ?_ | refine C.block ?_ | refine C.ret ?_ | refine C.skip ?_ | refine C.exit ?_ | refine X.pass_ret ?_ | refine X.pass_exit ?_ | refine X.block_normal ?_ | refine X.block_ret ?_ | refine X.block_exit ?_ | refine C.zt ?_ | refine C.zf ?_ | refine X.zo ?_)
      refine C.draw [[], [], [], [1, 2], [1, 2, 3], [0, 1, 2, 3, 4]] [5] (by kernel_rfl) (by kernel_rfl) ?_
      repeat (first | refine C.seq ?_ | refine C.region ?_ | refine R.zb ttok ?_ | refine R.zu ttok ?_ | refine R.zc ttok ?_ | refine R.za ttok ?_ | refine R.zx ?_ | refine R.zl ttok ?_ | refine R.zs ttok ?_ | refine R.z ttok ?_ | refine R.zk ?_ | refine R.zn ?_ | refine R.done ?_ | refine X.then ?_ | refine C.block ?_ | refine C.ret ?_ | refine C.skip ?_ | refine C.exit ?_ | refine X.pass_ret ?_ | refine X.pass_exit ?_ | refine X.block_normal ?_ | refine X.block_ret ?_ | refine X.block_exit ?_ | refine C.zt ?_ | refine C.zf ?_ | refine X.zo ?_)
      refine R.ix1 ttok i rfl rfl rfl rfl rfl rfl rfl hlt (⟨by omega, by omega⟩ : o0 ≤ o0 + i * 1 ∧ o0 + i * 1 < o0 + ks.length * 1) rfl ?_
      repeat (first | refine C.seq ?_ | refine C.region ?_ | refine R.zb ttok ?_ | refine R.zu ttok ?_ | refine R.zc ttok ?_ | refine R.za ttok ?_ | refine R.zx ?_ | refine R.zl ttok ?_ | refine R.zs ttok ?_ | refine R.z ttok ?_ | refine R.zk ?_ | refine R.zn ?_ | refine R.done ?_ | refine X.then ?_ | refine C.block ?_ | refine C.ret ?_ | refine C.skip ?_ | refine C.exit ?_ | refine X.pass_ret ?_ | refine X.pass_exit ?_ | refine X.block_normal ?_ | refine X.block_ret ?_ | refine X.block_exit ?_ | refine C.zt ?_ | refine C.zf ?_ | refine X.zo ?_)
      refine R.ldr1 (v := .raw (.string (ks.getD i noT))) ttok i rfl rfl rfl rfl rfl rfl rfl rfl (by decide) (by omega) ?_
      repeat (first | refine C.seq ?_ | refine C.region ?_ | refine R.zb ttok ?_ | refine R.zu ttok ?_ | refine R.zc ttok ?_ | refine R.za ttok ?_ | refine R.zx ?_ | refine R.zl ttok ?_ | refine R.zs ttok ?_ | refine R.z ttok ?_ | refine R.zk ?_ | refine R.zn ?_ | refine R.done ?_ | refine X.then ?_ | refine C.block ?_ | refine C.ret ?_ | refine C.skip ?_ | refine C.exit ?_ | refine X.pass_ret ?_ | refine X.pass_exit ?_ | refine X.block_normal ?_ | refine X.block_ret ?_ | refine X.block_exit ?_ | refine C.zt ?_ | refine C.zf ?_ | refine X.zo ?_)
      refine R.cl [5, 7] (putI_spec l c (ks.getD i noT) 0 hA (by omega) hlc hcc) Try.call33 (by repeat (first | exact HasIn.nil | refine HasIn.same rfl rfl ?_ | refine HasIn.bro rfl ?_ | refine HasIn.ror rfl ?_ | refine HasIn.cro rfl rfl ?_)) rfl rfl rfl (fun _ => rfl) rfl (by kernel_rfl) fun c3 hc3 => ?_
      repeat (first | refine C.seq ?_ | refine C.region ?_ | refine R.zb ttok ?_ | refine R.zu ttok ?_ | refine R.zc ttok ?_ | refine R.za ttok ?_ | refine R.zx ?_ | refine R.zl ttok ?_ | refine R.zs ttok ?_ | refine R.z ttok ?_ | refine R.zk ?_ | refine R.zn ?_ | refine R.done ?_ | refine X.then ?_ | refine C.block ?_ | refine C.ret ?_ | refine C.skip ?_ | refine C.exit ?_ | refine X.pass_ret ?_ | refine X.pass_exit ?_ | refine X.block_normal ?_ | refine X.block_ret ?_ | refine X.block_exit ?_ | refine C.zt ?_ | refine C.zf ?_ | refine X.zo ?_)
      exact X.back [(7, 8)] (putI l (ks.getD i noT) 0, c3, i + 1) ⟨⟨asc_put hA _ _, fun q hq => by
        rcases mem_put hq with rfl | hq
        · rfl
        · exact hv q hq⟩, by have := put_len l (ks.getD i noT) 0; dsimp only; omega, hc3.1, hc3.2, by dsimp only; omega, by dsimp only; omega⟩ (by dsimp only; omega) rfl (by repeat (first | exact HasT.nil | refine HasT.cons rfl rfl rfl ?_)) (by repeat (first | exact HasH.nil | refine HasH.same rfl rfl rfl trivial ?_ | refine HasH.same rfl rfl rfl rfl ?_ | refine HasH.same rfl rfl rfl (fun _ _ => rfl) ?_ | refine HasH.ros rfl rfl ?_ | refine HasH.rox rfl rfl ?_ | refine HasH.rob rfl rfl ?_)) rfl (fun _ h => h)
    · rw [decide_eq_false h2]
      repeat (first | refine C.seq ?_ | refine C.region ?_ | refine R.zb ttok ?_ | refine R.zu ttok ?_ | refine R.zc ttok ?_ | refine R.za ttok ?_ | refine R.zx ?_ | refine R.zl ttok ?_ | refine R.zs ttok ?_ | refine R.z ttok ?_ | refine R.zk ?_ | refine R.zn ?_ | refine R.done ?_ | refine X.then ?_ | refine C.block ?_ | refine C.ret ?_ | refine C.skip ?_ | refine C.exit ?_ | refine X.pass_ret ?_ | refine X.pass_exit ?_ | refine X.block_normal ?_ | refine X.block_ret ?_ | refine X.block_exit ?_ | refine C.zt ?_ | refine C.zf ?_ | refine X.zo ?_)
      refine C.noneT 8 (.sl 8 1 0 ([] : List ByteArray).length 0) (.tab 1 ([] : List ByteArray).length 0 (txF []) 9) (none_tab _ _ _ _) rfl rfl rfl (fun ρ h => by have h : ρ 8 = none := h; simp [AV.conc, h]) ?_
      refine C.loop (σ := List PI × Nat × List ByteArray × Nat × Nat) (L2 := 9) (fun s => (Asc s.1 ∧ (∀ q ∈ s.1, q.2 = 0 ∨ q.2 = 1) ∧ s.2.2.1.length = (ones s.1).length ∧ ∀ q ∈ ones s.1, tch1 os q.1 = false ∧ tch1 gs q.1 = false) ∧ s.1.length ≤ 300 ∧ s.1.length ≤ s.2.1 ∧ s.2.1 ≤ 9223372036854775807 ∧ s.2.2.1.length ≤ s.2.2.2.1 ∧ s.2.2.2.1 ≤ 9223372036854775807 ∧ s.2.2.2.2 ≤ 300 ∧ s.2.2.2.2 ≤ ks.length)
        (fun s => [(0, .sl 0 1 o0 ks.length c0), (4, .ptr 3 0 0 0), (5, .ptr 4 0 0 0), (6, .raw (.bool false)), (7, .ptr 6 0 0 0), (8, .sl 8 1 0 s.2.2.1.length s.2.2.2.1), (10, .fn 40 [.ptr 3 0 0 0, .ptr 4 0 0 0]), (11, .raw (.int .i64 (s.2.2.2.2 : Nat)))])
        (fun s => [(0, roX o0 ks), (1, roX o1 os), (2, roX o2 gs), (3, sbx 1 o1 os.length c1), (4, sbx 2 o2 gs.length c2), (5, tbI 7 s.1.length s.2.1), (6, .cells [.ptr 5 0 0 0] 40), (7, tI s.1 s.2.1), (8, tX s.2.2.1 s.2.2.2.1)]) _ (fun s => 300 - s.2.2.2.2) [] (l, c, [], 0, 0) ⟨⟨hA, fun q hq => .inl (hv q hq), by
          have : ones l = [] := by
            unfold ones
            rw [List.filter_eq_nil_iff]
            intro q hq
            have := hv q hq
            simp [oneB, this]
          rw [this]; rfl, fun q hq => by
          have h1 := List.mem_filter.1 hq
          have h2 := hv q h1.1
          have h3 := of_decide_eq_true h1.2
          omega⟩, by dsimp only; omega, hlc, hcc, by simp, by simp, by simp, by simp⟩ rfl (by repeat (first | exact HasT.nil | refine HasT.cons rfl rfl rfl ?_)) (by repeat (first | exact HasH.nil | refine HasH.same rfl rfl rfl trivial ?_ | refine HasH.same rfl rfl rfl rfl ?_ | refine HasH.same rfl rfl rfl (fun _ _ => rfl) ?_ | refine HasH.ros rfl rfl ?_ | refine HasH.rox rfl rfl ?_ | refine HasH.rob rfl rfl ?_)) rfl (fun _ h => h) ?_
      clear hv hA hlc hcc hli hi3 hik
      rintro ⟨l, c, lst, cs, i⟩ ⟨⟨hA, hv, hls, hun⟩, hl3, hlc, hcc, hcs1, hcs2, hi3, hik⟩
      dsimp only at hA hv hls hun hl3 hlc hcc hcs1 hcs2 hi3 hik ⊢
      repeat (first | refine C.seq ?_ | refine C.region ?_ | refine R.zb ttok ?_ | refine R.zu ttok ?_ | refine R.zc ttok ?_ | refine R.za ttok ?_ | refine R.zx ?_ | refine R.zl ttok ?_ | refine R.zs ttok ?_ | refine R.z ttok ?_ | refine R.zk ?_ | refine R.zn ?_ | refine R.done ?_ | refine X.then ?_ | refine C.block ?_ | refine C.ret ?_ | refine C.skip ?_ | refine C.exit ?_ | refine X.pass_ret ?_ | refine X.pass_exit ?_ | refine X.block_normal ?_ | refine X.block_ret ?_ | refine X.block_exit ?_ | refine C.zt ?_ | refine C.zf ?_ | refine X.zo ?_)
      by_cases h1 : (i : Int) < (ks.length : Nat)
      · rw [decide_eq_true h1]
        repeat (first | refine C.seq ?_ | refine C.region ?_ | refine R.zb ttok ?_ | refine R.zu ttok ?_ | refine R.zc ttok ?_ | refine R.za ttok ?_ | refine R.zx ?_ | refine R.zl ttok ?_ | refine R.zs ttok ?_ | refine R.z ttok ?_ | refine R.zk ?_ | refine R.zn ?_ | refine R.done ?_ | refine X.then ?_ | refine C.block ?_ | refine C.ret ?_ | refine C.skip ?_ | refine C.exit ?_ | refine X.pass_ret ?_ | refine X.pass_exit ?_ | refine X.block_normal ?_ | refine X.block_ret ?_ | refine X.block_exit ?_ | refine C.zt ?_ | refine C.zf ?_ | refine X.zo ?_)
        by_cases h2 : (i : Int) < 300
        · have hlt : i < ks.length := by omega
          rw [decide_eq_true h2]
          repeat (first | refine C.seq ?_ | refine C.region ?_ | refine R.zb ttok ?_ | refine R.zu ttok ?_ | refine R.zc ttok ?_ | refine R.za ttok ?_ | refine R.zx ?_ | refine R.zl ttok ?_ | refine R.zs ttok ?_ | refine R.z ttok ?_ | refine R.zk ?_ | refine R.zn ?_ | refine R.done ?_ | refine X.then ?_ | refine C.block ?_ | refine C.ret ?_ | refine C.skip ?_ | refine C.exit ?_ | refine X.pass_ret ?_ | refine X.pass_exit ?_ | refine X.block_normal ?_ | refine X.block_ret ?_ | refine X.block_exit ?_ | refine C.zt ?_ | refine C.zf ?_ | refine X.zo ?_)
          refine C.draw [[], [], [], [1, 2], [1, 2, 3], [0, 1, 2, 3, 4], [0, 1, 2, 3, 4, 5], [0, 1, 2, 3, 4, 5, 6], [0, 1, 2, 3, 4, 5, 6], [0, 1, 2, 3, 4, 5, 6, 7], [0, 1, 2, 3, 4, 5, 6, 7, 8, 9]] [5] (by kernel_rfl) (by kernel_rfl) ?_
          repeat (first | refine C.seq ?_ | refine C.region ?_ | refine R.zb ttok ?_ | refine R.zu ttok ?_ | refine R.zc ttok ?_ | refine R.za ttok ?_ | refine R.zx ?_ | refine R.zl ttok ?_ | refine R.zs ttok ?_ | refine R.z ttok ?_ | refine R.zk ?_ | refine R.zn ?_ | refine R.done ?_ | refine X.then ?_ | refine C.block ?_ | refine C.ret ?_ | refine C.skip ?_ | refine C.exit ?_ | refine X.pass_ret ?_ | refine X.pass_exit ?_ | refine X.block_normal ?_ | refine X.block_ret ?_ | refine X.block_exit ?_ | refine C.zt ?_ | refine C.zf ?_ | refine X.zo ?_)
          refine R.ix1 ttok i rfl rfl rfl rfl rfl rfl rfl hlt (⟨by omega, by omega⟩ : o0 ≤ o0 + i * 1 ∧ o0 + i * 1 < o0 + ks.length * 1) rfl ?_
          repeat (first | refine C.seq ?_ | refine C.region ?_ | refine R.zb ttok ?_ | refine R.zu ttok ?_ | refine R.zc ttok ?_ | refine R.za ttok ?_ | refine R.zx ?_ | refine R.zl ttok ?_ | refine R.zs ttok ?_ | refine R.z ttok ?_ | refine R.zk ?_ | refine R.zn ?_ | refine R.done ?_ | refine X.then ?_ | refine C.block ?_ | refine C.ret ?_ | refine C.skip ?_ | refine C.exit ?_ | refine X.pass_ret ?_ | refine X.pass_exit ?_ | refine X.block_normal ?_ | refine X.block_ret ?_ | refine X.block_exit ?_ | refine C.zt ?_ | refine C.zf ?_ | refine X.zo ?_)
          refine R.ldr1 (v := .raw (.string (ks.getD i noT))) ttok i rfl rfl rfl rfl rfl rfl rfl rfl (by decide) (by omega) ?_
          repeat (first | refine C.seq ?_ | refine C.region ?_ | refine R.zb ttok ?_ | refine R.zu ttok ?_ | refine R.zc ttok ?_ | refine R.za ttok ?_ | refine R.zx ?_ | refine R.zl ttok ?_ | refine R.zs ttok ?_ | refine R.z ttok ?_ | refine R.zk ?_ | refine R.zn ?_ | refine R.done ?_ | refine X.then ?_ | refine C.block ?_ | refine C.ret ?_ | refine C.skip ?_ | refine C.exit ?_ | refine X.pass_ret ?_ | refine X.pass_exit ?_ | refine X.block_normal ?_ | refine X.block_ret ?_ | refine X.block_exit ?_ | refine C.zt ?_ | refine C.zf ?_ | refine X.zo ?_)
          refine R.cl [5, 7] (getI_spec l c (ks.getD i noT) hA (by omega)) Try.call41 (by repeat (first | exact HasIn.nil | refine HasIn.same rfl rfl ?_ | refine HasIn.ros rfl ?_ | refine HasIn.other rfl (fun e => by cases e) (fun ρ x w hh => tab_ro hh) ?_)) rfl rfl rfl (fun _ => rfl) rfl (by kernel_rfl) fun _ _ => ?_
          cases hk : hasK l (ks.getD i noT) with
          | false =>
            repeat (first | refine C.seq ?_ | refine C.region ?_ | refine R.zb ttok ?_ | refine R.zu ttok ?_ | refine R.zc ttok ?_ | refine R.za ttok ?_ | refine R.zx ?_ | refine R.zl ttok ?_ | refine R.zs ttok ?_ | refine R.z ttok ?_ | refine R.zk ?_ | refine R.zn ?_ | refine R.done ?_ | refine X.then ?_ | refine C.block ?_ | refine C.ret ?_ | refine C.skip ?_ | refine C.exit ?_ | refine X.pass_ret ?_ | refine X.pass_exit ?_ | refine X.block_normal ?_ | refine X.block_ret ?_ | refine X.block_exit ?_ | refine C.zt ?_ | refine C.zf ?_ | refine X.zo ?_)
            exact X.back [] (l, c, lst, cs, i + 1) ⟨⟨hA, hv, hls, hun⟩, hl3, hlc, hcc, hcs1, hcs2, by dsimp only; omega, by dsimp only; omega⟩ (by dsimp only; omega) rfl (by repeat (first | exact HasT.nil | refine HasT.cons rfl rfl rfl ?_)) (by repeat (first | exact HasH.nil | refine HasH.same rfl rfl rfl trivial ?_ | refine HasH.same rfl rfl rfl rfl ?_ | refine HasH.same rfl rfl rfl (fun _ _ => rfl) ?_ | refine HasH.ros rfl rfl ?_ | refine HasH.rox rfl rfl ?_ | refine HasH.rob rfl rfl ?_)) rfl (fun _ h => h)
          | true =>
            repeat (first | refine C.seq ?_ | refine C.region ?_ | refine R.zb ttok ?_ | refine R.zu ttok ?_ | refine R.zc ttok ?_ | refine R.za ttok ?_ | refine R.zx ?_ | refine R.zl ttok ?_ | refine R.zs ttok ?_ | refine R.z ttok ?_ | refine R.zk ?_ | refine R.zn ?_ | refine R.done ?_ | refine X.then ?_ | refine C.block ?_ | refine C.ret ?_ | refine C.skip ?_ | refine C.exit ?_ | refine X.pass_ret ?_ | refine X.pass_exit ?_ | refine X.block_normal ?_ | refine X.block_ret ?_ | refine X.block_exit ?_ | refine C.zt ?_ | refine C.zf ?_ | refine X.zo ?_)
            by_cases h0 : getI l (ks.getD i noT) = 0
            · rw [decide_eq_true h0]
              repeat (first | refine C.seq ?_ | refine C.region ?_ | refine R.zb ttok ?_ | refine R.zu ttok ?_ | refine R.zc ttok ?_ | refine R.za ttok ?_ | refine R.zx ?_ | refine R.zl ttok ?_ | refine R.zs ttok ?_ | refine R.z ttok ?_ | refine R.zk ?_ | refine R.zn ?_ | refine R.done ?_ | refine X.then ?_ | refine C.block ?_ | refine C.ret ?_ | refine C.skip ?_ | refine C.exit ?_ | refine X.pass_ret ?_ | refine X.pass_exit ?_ | refine X.block_normal ?_ | refine X.block_ret ?_ | refine X.block_exit ?_ | refine C.zt ?_ | refine C.zf ?_ | refine X.zo ?_)
              refine R.ix1 ttok i rfl rfl rfl rfl rfl rfl rfl hlt (⟨by omega, by omega⟩ : o0 ≤ o0 + i * 1 ∧ o0 + i * 1 < o0 + ks.length * 1) rfl ?_
              repeat (first | refine C.seq ?_ | refine C.region ?_ | refine R.zb ttok ?_ | refine R.zu ttok ?_ | refine R.zc ttok ?_ | refine R.za ttok ?_ | refine R.zx ?_ | refine R.zl ttok ?_ | refine R.zs ttok ?_ | refine R.z ttok ?_ | refine R.zk ?_ | refine R.zn ?_ | refine R.done ?_ | refine X.then ?_ | refine C.block ?_ | refine C.ret ?_ | refine C.skip ?_ | refine C.exit ?_ | refine X.pass_ret ?_ | refine X.pass_exit ?_ | refine X.block_normal ?_ | refine X.block_ret ?_ | refine X.block_exit ?_ | refine C.zt ?_ | refine C.zf ?_ | refine X.zo ?_)
              refine R.ldr1 (v := .raw (.string (ks.getD i noT))) ttok i rfl rfl rfl rfl rfl rfl rfl rfl (by decide) (by omega) ?_
              repeat (first | refine C.seq ?_ | refine C.region ?_ | refine R.zb ttok ?_ | refine R.zu ttok ?_ | refine R.zc ttok ?_ | refine R.za ttok ?_ | refine R.zx ?_ | refine R.zl ttok ?_ | refine R.zs ttok ?_ | refine R.z ttok ?_ | refine R.zk ?_ | refine R.zn ?_ | refine R.done ?_ | refine X.then ?_ | refine C.block ?_ | refine C.ret ?_ | refine C.skip ?_ | refine C.exit ?_ | refine X.pass_ret ?_ | refine X.pass_exit ?_ | refine X.block_normal ?_ | refine X.block_ret ?_ | refine X.block_exit ?_ | refine C.zt ?_ | refine C.zf ?_ | refine X.zo ?_)
              refine R.cl [3, 4, 1, 2] (touched_spec os gs o1 o2 c1 c2 (ks.getD i noT)) Try.call40 (by repeat (first | exact HasIn.nil | refine HasIn.same rfl rfl ?_ | refine HasIn.ros rfl ?_ | refine HasIn.rox rfl ?_ | refine HasIn.any rfl ?_ | refine HasIn.other rfl (fun e => by cases e) (fun ρ x w hh => tab_ro hh) ?_)) rfl rfl rfl (fun _ => rfl) rfl (by kernel_rfl) fun _ _ => ?_
              cases ht1 : tch1 os (ks.getD i noT) with
              | true =>
                repeat (first | refine C.seq ?_ | refine C.region ?_ | refine R.zb ttok ?_ | refine R.zu ttok ?_ | refine R.zc ttok ?_ | refine R.za ttok ?_ | refine R.zx ?_ | refine R.zl ttok ?_ | refine R.zs ttok ?_ | refine R.z ttok ?_ | refine R.zk ?_ | refine R.zn ?_ | refine R.done ?_ | refine X.then ?_ | refine C.block ?_ | refine C.ret ?_ | refine C.skip ?_ | refine C.exit ?_ | refine X.pass_ret ?_ | refine X.pass_exit ?_ | refine X.block_normal ?_ | refine X.block_ret ?_ | refine X.block_exit ?_ | refine C.zt ?_ | refine C.zf ?_ | refine X.zo ?_)
                exact X.back [] (l, c, lst, cs, i + 1) ⟨⟨hA, hv, hls, hun⟩, hl3, hlc, hcc, hcs1, hcs2, by dsimp only; omega, by dsimp only; omega⟩ (by dsimp only; omega) rfl (by repeat (first | exact HasT.nil | refine HasT.cons rfl rfl rfl ?_)) (by repeat (first | exact HasH.nil | refine HasH.same rfl rfl rfl trivial ?_ | refine HasH.same rfl rfl rfl rfl ?_ | refine HasH.same rfl rfl rfl (fun _ _ => rfl) ?_ | refine HasH.ros rfl rfl ?_ | refine HasH.rox rfl rfl ?_ | refine HasH.rob rfl rfl ?_)) rfl (fun _ h => h)
              | false =>
                cases ht2 : tch1 gs (ks.getD i noT) with
                | true =>
                  repeat (first | refine C.seq ?_ | refine C.region ?_ | refine R.zb ttok ?_ | refine R.zu ttok ?_ | refine R.zc ttok ?_ | refine R.za ttok ?_ | refine R.zx ?_ | refine R.zl ttok ?_ | refine R.zs ttok ?_ | refine R.z ttok ?_ | refine R.zk ?_ | refine R.zn ?_ | refine R.done ?_ | refine X.then ?_ | refine C.block ?_ | refine C.ret ?_ | refine C.skip ?_ | refine C.exit ?_ | refine X.pass_ret ?_ | refine X.pass_exit ?_ | refine X.block_normal ?_ | refine X.block_ret ?_ | refine X.block_exit ?_ | refine C.zt ?_ | refine C.zf ?_ | refine X.zo ?_)
                  exact X.back [] (l, c, lst, cs, i + 1) ⟨⟨hA, hv, hls, hun⟩, hl3, hlc, hcc, hcs1, hcs2, by dsimp only; omega, by dsimp only; omega⟩ (by dsimp only; omega) rfl (by repeat (first | exact HasT.nil | refine HasT.cons rfl rfl rfl ?_)) (by repeat (first | exact HasH.nil | refine HasH.same rfl rfl rfl trivial ?_ | refine HasH.same rfl rfl rfl rfl ?_ | refine HasH.same rfl rfl rfl (fun _ _ => rfl) ?_ | refine HasH.ros rfl rfl ?_ | refine HasH.rox rfl rfl ?_ | refine HasH.rob rfl rfl ?_)) rfl (fun _ h => h)
                | false =>
                  have hon := ones_more hk h0
                  have hol : (ones l).length ≤ l.length := by unfold ones; exact List.length_filter_le _ _
                  repeat (first | refine C.seq ?_ | refine C.region ?_ | refine R.zb ttok ?_ | refine R.zu ttok ?_ | refine R.zc ttok ?_ | refine R.za ttok ?_ | refine R.zx ?_ | refine R.zl ttok ?_ | refine R.zs ttok ?_ | refine R.z ttok ?_ | refine R.zk ?_ | refine R.zn ?_ | refine R.done ?_ | refine X.then ?_ | refine C.block ?_ | refine C.ret ?_ | refine C.skip ?_ | refine C.exit ?_ | refine X.pass_ret ?_ | refine X.pass_exit ?_ | refine X.block_normal ?_ | refine X.block_ret ?_ | refine X.block_exit ?_ | refine C.zt ?_ | refine C.zf ?_ | refine X.zo ?_)
                  refine R.ix1 ttok i rfl rfl rfl rfl rfl rfl rfl hlt (⟨by omega, by omega⟩ : o0 ≤ o0 + i * 1 ∧ o0 + i * 1 < o0 + ks.length * 1) rfl ?_
                  repeat (first | refine C.seq ?_ | refine C.region ?_ | refine R.zb ttok ?_ | refine R.zu ttok ?_ | refine R.zc ttok ?_ | refine R.za ttok ?_ | refine R.zx ?_ | refine R.zl ttok ?_ | refine R.zs ttok ?_ | refine R.z ttok ?_ | refine R.zk ?_ | refine R.zn ?_ | refine R.done ?_ | refine X.then ?_ | refine C.block ?_ | refine C.ret ?_ | refine C.skip ?_ | refine C.exit ?_ | refine X.pass_ret ?_ | refine X.pass_exit ?_ | refine X.block_normal ?_ | refine X.block_ret ?_ | refine X.block_exit ?_ | refine C.zt ?_ | refine C.zf ?_ | refine X.zo ?_)
                  refine R.ldr1 (v := .raw (.string (ks.getD i noT))) ttok i rfl rfl rfl rfl rfl rfl rfl rfl (by decide) (by omega) ?_
                  repeat (first | refine C.seq ?_ | refine C.region ?_ | refine R.zb ttok ?_ | refine R.zu ttok ?_ | refine R.zc ttok ?_ | refine R.za ttok ?_ | refine R.zx ?_ | refine R.zl ttok ?_ | refine R.zs ttok ?_ | refine R.z ttok ?_ | refine R.zk ?_ | refine R.zn ?_ | refine R.done ?_ | refine X.then ?_ | refine C.block ?_ | refine C.ret ?_ | refine C.skip ?_ | refine C.exit ?_ | refine X.pass_ret ?_ | refine X.pass_exit ?_ | refine X.block_normal ?_ | refine X.block_ret ?_ | refine X.block_exit ?_ | refine C.zt ?_ | refine C.zf ?_ | refine X.zo ?_)
                  refine R.app (xs := txs lst) (news := txs [ks.getD i noT]) ttok (fun c => tX (lst ++ [ks.getD i noT]) c) rfl rfl (dstTx rfl) (SrcA.cells rfl rfl) (asTx _ _ _ (by unfold txs; rw [List.map_append])) rfl rfl rfl rfl rfl rfl (by decide) rfl rfl rfl (by kernel_rfl) hcs2 (by show (lst.length + 1) * 16 ≤ _; omega) (by omega) fun c5 hc5 hc6 => ?_
                  rw [show lst.length + 1 = (lst ++ [ks.getD i noT]).length by rw [List.length_append]; rfl] at hc5 ⊢
                  repeat (first | refine C.seq ?_ | refine C.region ?_ | refine R.zb ttok ?_ | refine R.zu ttok ?_ | refine R.zc ttok ?_ | refine R.za ttok ?_ | refine R.zx ?_ | refine R.zl ttok ?_ | refine R.zs ttok ?_ | refine R.z ttok ?_ | refine R.zk ?_ | refine R.zn ?_ | refine R.done ?_ | refine X.then ?_ | refine C.block ?_ | refine C.ret ?_ | refine C.skip ?_ | refine C.exit ?_ | refine X.pass_ret ?_ | refine X.pass_exit ?_ | refine X.block_normal ?_ | refine X.block_ret ?_ | refine X.block_exit ?_ | refine C.zt ?_ | refine C.zf ?_ | refine X.zo ?_)
                  refine C.draw [[], [], [], [1, 2], [1, 2, 3], [0, 1, 2, 3, 4]] [5] (by kernel_rfl) (by kernel_rfl) ?_
                  repeat (first | refine C.seq ?_ | refine C.region ?_ | refine R.zb ttok ?_ | refine R.zu ttok ?_ | refine R.zc ttok ?_ | refine R.za ttok ?_ | refine R.zx ?_ | refine R.zl ttok ?_ | refine R.zs ttok ?_ | refine R.z ttok ?_ | refine R.zk ?_ | refine R.zn ?_ | refine R.done ?_ | refine X.then ?_ | refine C.block ?_ | refine C.ret ?_ | refine C.skip ?_ | refine C.exit ?_ | refine X.pass_ret ?_ | refine X.pass_exit ?_ | refine X.block_normal ?_ | refine X.block_ret ?_ | refine X.block_exit ?_ | refine C.zt ?_ | refine C.zf ?_ | refine X.zo ?_)
                  refine R.ix1 ttok i rfl rfl rfl rfl rfl rfl rfl hlt (⟨by omega, by omega⟩ : o0 ≤ o0 + i * 1 ∧ o0 + i * 1 < o0 + ks.length * 1) rfl ?_
                  repeat (first | refine C.seq ?_ | refine C.region ?_ | refine R.zb ttok ?_ | refine R.zu ttok ?_ | refine R.zc ttok ?_ | refine R.za ttok ?_ | refine R.zx ?_ | refine R.zl ttok ?_ | refine R.zs ttok ?_ | refine R.z ttok ?_ | refine R.zk ?_ | refine R.zn ?_ | refine R.done ?_ | refine X.then ?_ | refine C.block ?_ | refine C.ret ?_ | refine C.skip ?_ | refine C.exit ?_ | refine X.pass_ret ?_ | refine X.pass_exit ?_ | refine X.block_normal ?_ | refine X.block_ret ?_ | refine X.block_exit ?_ | refine C.zt ?_ | refine C.zf ?_ | refine X.zo ?_)
                  refine R.ldr1 (v := .raw (.string (ks.getD i noT))) ttok i rfl rfl rfl rfl rfl rfl rfl rfl (by decide) (by omega) ?_
                  repeat (first | refine C.seq ?_ | refine C.region ?_ | refine R.zb ttok ?_ | refine R.zu ttok ?_ | refine R.zc ttok ?_ | refine R.za ttok ?_ | refine R.zx ?_ | refine R.zl ttok ?_ | refine R.zs ttok ?_ | refine R.z ttok ?_ | refine R.zk ?_ | refine R.zn ?_ | refine R.done ?_ | refine X.then ?_ | refine C.block ?_ | refine C.ret ?_ | refine C.skip ?_ | refine C.exit ?_ | refine X.pass_ret ?_ | refine X.pass_exit ?_ | refine X.block_normal ?_ | refine X.block_ret ?_ | refine X.block_exit ?_ | refine C.zt ?_ | refine C.zf ?_ | refine X.zo ?_)
                  refine R.cl [5, 7] (putI_spec l c (ks.getD i noT) 1 hA (by omega) hlc hcc) Try.call33 (by repeat (first | exact HasIn.nil | refine HasIn.same rfl rfl ?_ | refine HasIn.bro rfl ?_ | refine HasIn.ror rfl ?_ | refine HasIn.cro rfl rfl ?_)) rfl rfl rfl (fun _ => rfl) rfl (by kernel_rfl) fun c7 hc7 => ?_
                  repeat (first | refine C.seq ?_ | refine C.region ?_ | refine R.zb ttok ?_ | refine R.zu ttok ?_ | refine R.zc ttok ?_ | refine R.za ttok ?_ | refine R.zx ?_ | refine R.zl ttok ?_ | refine R.zs ttok ?_ | refine R.z ttok ?_ | refine R.zk ?_ | refine R.zn ?_ | refine R.done ?_ | refine X.then ?_ | refine C.block ?_ | refine C.ret ?_ | refine C.skip ?_ | refine C.exit ?_ | refine X.pass_ret ?_ | refine X.pass_exit ?_ | refine X.block_normal ?_ | refine X.block_ret ?_ | refine X.block_exit ?_ | refine C.zt ?_ | refine C.zf ?_ | refine X.zo ?_)
                  exact X.back [(8, 10), (7, 11)] (putI l (ks.getD i noT) 1, c7, lst ++ [ks.getD i noT], c5, i + 1) ⟨⟨asc_put hA _ _, fun q hq => by
                    rcases mem_put hq with rfl | hq
                    · exact .inr rfl
                    · exact hv q hq, by rw [List.length_append, hon.1, hls]; rfl, fun q hq => by
                    rcases hon.2 q hq with h | h
                    · rw [h]; exact ⟨ht1, ht2⟩
                    · exact hun q h⟩, by have := put_len_old 1 hk; dsimp only; omega, hc7.1, hc7.2, hc5, hc6, by dsimp only; omega, by dsimp only; omega⟩ (by dsimp only; omega) rfl (by repeat (first | exact HasT.nil | refine HasT.cons rfl rfl rfl ?_)) (by repeat (first | exact HasH.nil | refine HasH.same rfl rfl rfl trivial ?_ | refine HasH.same rfl rfl rfl rfl ?_ | refine HasH.same rfl rfl rfl (fun _ _ => rfl) ?_ | refine HasH.ros rfl rfl ?_ | refine HasH.rox rfl rfl ?_ | refine HasH.rob rfl rfl ?_)) rfl (fun _ h => h)
            · rw [decide_eq_false h0]
              repeat (first | refine C.seq ?_ | refine C.region ?_ | refine R.zb ttok ?_ | refine R.zu ttok ?_ | refine R.zc ttok ?_ | refine R.za ttok ?_ | refine R.zx ?_ | refine R.zl ttok ?_ | refine R.zs ttok ?_ | refine R.z ttok ?_ | refine R.zk ?_ | refine R.zn ?_ | refine R.done ?_ | refine X.then ?_ | refine C.block ?_ | refine C.ret ?_ | refine C.skip ?_ | refine C.exit ?_ | refine X.pass_ret ?_ | refine X.pass_exit ?_ | refine X.block_normal ?_ | refine X.block_ret ?_ | refine X.block_exit ?_ | refine C.zt ?_ | refine C.zf ?_ | refine X.zo ?_)
              exact X.back [] (l, c, lst, cs, i + 1) ⟨⟨hA, hv, hls, hun⟩, hl3, hlc, hcc, hcs1, hcs2, by dsimp only; omega, by dsimp only; omega⟩ (by dsimp only; omega) rfl (by repeat (first | exact HasT.nil | refine HasT.cons rfl rfl rfl ?_)) (by repeat (first | exact HasH.nil | refine HasH.same rfl rfl rfl trivial ?_ | refine HasH.same rfl rfl rfl rfl ?_ | refine HasH.same rfl rfl rfl (fun _ _ => rfl) ?_ | refine HasH.ros rfl rfl ?_ | refine HasH.rox rfl rfl ?_ | refine HasH.rob rfl rfl ?_)) rfl (fun _ h => h)
        · rw [decide_eq_false h2]
          repeat (first | refine C.seq ?_ | refine C.region ?_ | refine R.zb ttok ?_ | refine R.zu ttok ?_ | refine R.zc ttok ?_ | refine R.za ttok ?_ | refine R.zx ?_ | refine R.zl ttok ?_ | refine R.zs ttok ?_ | refine R.z ttok ?_ | refine R.zk ?_ | refine R.zn ?_ | refine R.done ?_ | refine X.then ?_ | refine C.block ?_ | refine C.ret ?_ | refine C.skip ?_ | refine C.exit ?_ | refine X.pass_ret ?_ | refine X.pass_exit ?_ | refine X.block_normal ?_ | refine X.block_ret ?_ | refine X.block_exit ?_ | refine C.zt ?_ | refine C.zf ?_ | refine X.zo ?_)
          refine R.cl [5] (rangeI_spec noT noT) Try.call24 (.any rfl .nil) rfl rfl rfl (fun _ => rfl) rfl (by kernel_rfl) fun _ _ => ?_
          repeat (first | refine C.seq ?_ | refine C.region ?_ | refine R.zb ttok ?_ | refine R.zu ttok ?_ | refine R.zc ttok ?_ | refine R.za ttok ?_ | refine R.zx ?_ | refine R.zl ttok ?_ | refine R.zs ttok ?_ | refine R.z ttok ?_ | refine R.zk ?_ | refine R.zn ?_ | refine R.done ?_ | refine X.then ?_ | refine C.block ?_ | refine C.ret ?_ | refine C.skip ?_ | refine C.exit ?_ | refine X.pass_ret ?_ | refine X.pass_exit ?_ | refine X.block_normal ?_ | refine X.block_ret ?_ | refine X.block_exit ?_ | refine C.zt ?_ | refine C.zf ?_ | refine X.zo ?_)
          refine R.cl [5, 7, 12, 10, 11, 9, 3, 6, 4, 1, 2, 13, 14, 15] (rangeSt_spec os gs o1 o2 c1 c2 l c 0 (by rw [fnd_zero]; rfl) hA hlc hcc hl3 hun) Try.call51 (by repeat (first | exact HasIn.nil | refine HasIn.same rfl rfl ?_ | refine HasIn.ros rfl ?_ | refine HasIn.rox rfl ?_ | refine HasIn.any rfl ?_ | refine HasIn.other rfl (fun e => by cases e) (fun ρ x w hh => tab_ro hh) ?_)) rfl rfl rfl (fun _ => rfl) rfl (by kernel_rfl) fun s hs => ?_
          repeat (first | refine C.seq ?_ | refine C.region ?_ | refine R.zb ttok ?_ | refine R.zu ttok ?_ | refine R.zc ttok ?_ | refine R.za ttok ?_ | refine R.zx ?_ | refine R.zl ttok ?_ | refine R.zs ttok ?_ | refine R.z ttok ?_ | refine R.zk ?_ | refine R.zn ?_ | refine R.done ?_ | refine X.then ?_ | refine C.block ?_ | refine C.ret ?_ | refine C.skip ?_ | refine C.exit ?_ | refine X.pass_ret ?_ | refine X.pass_exit ?_ | refine X.block_normal ?_ | refine X.block_ret ?_ | refine X.block_exit ?_ | refine C.zt ?_ | refine C.zf ?_ | refine X.zo ?_)
          rw [decide_eq_true (show ((ones l).length : Int) = (lst.length : Nat) by rw [hls])]
          repeat (first | refine C.seq ?_ | refine C.region ?_ | refine R.zb ttok ?_ | refine R.zu ttok ?_ | refine R.zc ttok ?_ | refine R.za ttok ?_ | refine R.zx ?_ | refine R.zl ttok ?_ | refine R.zs ttok ?_ | refine R.z ttok ?_ | refine R.zk ?_ | refine R.zn ?_ | refine R.done ?_ | refine X.then ?_ | refine C.block ?_ | refine C.ret ?_ | refine C.skip ?_ | refine C.exit ?_ | refine X.pass_ret ?_ | refine X.pass_exit ?_ | refine X.block_normal ?_ | refine X.block_ret ?_ | refine X.block_exit ?_ | refine C.zt ?_ | refine C.zf ?_ | refine X.zo ?_)
          refine R.cl [] (known_spec) Try.call21 (by repeat (first | exact HasIn.nil | refine HasIn.same rfl rfl ?_ | refine HasIn.bro rfl ?_ | refine HasIn.ror rfl ?_ | refine HasIn.cro rfl rfl ?_)) rfl rfl rfl (fun _ => rfl) rfl (by kernel_rfl) fun _ _ => ?_
          repeat (first | refine C.seq ?_ | refine C.region ?_ | refine R.zb ttok ?_ | refine R.zu ttok ?_ | refine R.zc ttok ?_ | refine R.za ttok ?_ | refine R.zx ?_ | refine R.zl ttok ?_ | refine R.zs ttok ?_ | refine R.z ttok ?_ | refine R.zk ?_ | refine R.zn ?_ | refine R.done ?_ | refine X.then ?_ | refine C.block ?_ | refine C.ret ?_ | refine C.skip ?_ | refine C.exit ?_ | refine X.pass_ret ?_ | refine X.pass_exit ?_ | refine X.block_normal ?_ | refine X.block_ret ?_ | refine X.block_exit ?_ | refine C.zt ?_ | refine C.zf ?_ | refine X.zo ?_)
          refine X.fin ttok () [] trivial rfl rfl rfl (by repeat (first | exact HasH.nil | refine HasH.same rfl rfl rfl trivial ?_ | refine HasH.same rfl rfl rfl rfl ?_ | refine HasH.same rfl rfl rfl (fun _ _ => rfl) ?_ | refine HasH.ros rfl rfl ?_)) _ (by first | exact .inl rfl | exact .inr rfl)
      · rw [decide_eq_false h1]
        repeat (first | refine C.seq ?_ | refine C.region ?_ | refine R.zb ttok ?_ | refine R.zu ttok ?_ | refine R.zc ttok ?_ | refine R.za ttok ?_ | refine R.zx ?_ | refine R.zl ttok ?_ | refine R.zs ttok ?_ | refine R.z ttok ?_ | refine R.zk ?_ | refine R.zn ?_ | refine R.done ?_ | refine X.then ?_ | refine C.block ?_ | refine C.ret ?_ | refine C.skip ?_ | refine C.exit ?_ | refine X.pass_ret ?_ | refine X.pass_exit ?_ | refine X.block_normal ?_ | refine X.block_ret ?_ | refine X.block_exit ?_ | refine C.zt ?_ | refine C.zf ?_ | refine X.zo ?_)
        refine R.cl [5] (rangeI_spec noT noT) Try.call24 (.any rfl .nil) rfl rfl rfl (fun _ => rfl) rfl (by kernel_rfl) fun _ _ => ?_
        repeat (first | refine C.seq ?_ | refine C.region ?_ | refine R.zb ttok ?_ | refine R.zu ttok ?_ | refine R.zc ttok ?_ | refine R.za ttok ?_ | refine R.zx ?_ | refine R.zl ttok ?_ | refine R.zs ttok ?_ | refine R.z ttok ?_ | refine R.zk ?_ | refine R.zn ?_ | refine R.done ?_ | refine X.then ?_ | refine C.block ?_ | refine C.ret ?_ | refine C.skip ?_ | refine C.exit ?_ | refine X.pass_ret ?_ | refine X.pass_exit ?_ | refine X.block_normal ?_ | refine X.block_ret ?_ | refine X.block_exit ?_ | refine C.zt ?_ | refine C.zf ?_ | refine X.zo ?_)
        refine R.cl [5, 7, 12, 10, 11, 9, 3, 6, 4, 1, 2, 13, 14, 15] (rangeSt_spec os gs o1 o2 c1 c2 l c 0 (by rw [fnd_zero]; rfl) hA hlc hcc hl3 hun) Try.call51 (by repeat (first | exact HasIn.nil | refine HasIn.same rfl rfl ?_ | refine HasIn.ros rfl ?_ | refine HasIn.rox rfl ?_ | refine HasIn.any rfl ?_ | refine HasIn.other rfl (fun e => by cases e) (fun ρ x w hh => tab_ro hh) ?_)) rfl rfl rfl (fun _ => rfl) rfl (by kernel_rfl) fun s hs => ?_
        repeat (first | refine C.seq ?_ | refine C.region ?_ | refine R.zb ttok ?_ | refine R.zu ttok ?_ | refine R.zc ttok ?_ | refine R.za ttok ?_ | refine R.zx ?_ | refine R.zl ttok ?_ | refine R.zs ttok ?_ | refine R.z ttok ?_ | refine R.zk ?_ | refine R.zn ?_ | refine R.done ?_ | refine X.then ?_ | refine C.block ?_ | refine C.ret ?_ | refine C.skip ?_ | refine C.exit ?_ | refine X.pass_ret ?_ | refine X.pass_exit ?_ | refine X.block_normal ?_ | refine X.block_ret ?_ | refine X.block_exit ?_ | refine C.zt ?_ | refine C.zf ?_ | refine X.zo ?_)
        rw [decide_eq_true (show ((ones l).length : Int) = (lst.length : Nat) by rw [hls])]
        repeat (first | refine C.seq ?_ | refine C.region ?_ | refine R.zb ttok ?_ | refine R.zu ttok ?_ | refine R.zc ttok ?_ | refine R.za ttok ?_ | refine R.zx ?_ | refine R.zl ttok ?_ | refine R.zs ttok ?_ | refine R.z ttok ?_ | refine R.zk ?_ | refine R.zn ?_ | refine R.done ?_ | refine X.then ?_ | refine C.block ?_ | refine C.ret ?_ | refine C.skip ?_ | refine C.exit ?_ | refine X.pass_ret ?_ | refine X.pass_exit ?_ | refine X.block_normal ?_ | refine X.block_ret ?_ | refine X.block_exit ?_ | refine C.zt ?_ | refine C.zf ?_ | refine X.zo ?_)
        refine R.cl [] (known_spec) Try.call21 (by repeat (first | exact HasIn.nil | refine HasIn.same rfl rfl ?_ | refine HasIn.bro rfl ?_ | refine HasIn.ror rfl ?_ | refine HasIn.cro rfl rfl ?_)) rfl rfl rfl (fun _ => rfl) rfl (by kernel_rfl) fun _ _ => ?_
        repeat (first | refine C.seq ?_ | refine C.region ?_ | refine R.zb ttok ?_ | refine R.zu ttok ?_ | refine R.zc ttok ?_ | refine R.za ttok ?_ | refine R.zx ?_ | refine R.zl ttok ?_ | refine R.zs ttok ?_ | refine R.z ttok ?_ | refine R.zk ?_ | refine R.zn ?_ | refine R.done ?_ | refine X.then ?_ | refine C.block ?_ | refine C.ret ?_ | refine C.skip ?_ | refine C.exit ?_ | refine X.pass_ret ?_ | refine X.pass_exit ?_ | refine X.block_normal ?_ | refine X.block_ret ?_ | refine X.block_exit ?_ | refine C.zt ?_ | refine C.zf ?_ | refine X.zo ?_)
        refine X.fin ttok () [] trivial rfl rfl rfl (by repeat (first | exact HasH.nil | refine HasH.same rfl rfl rfl trivial ?_ | refine HasH.same rfl rfl rfl rfl ?_ | refine HasH.same rfl rfl rfl (fun _ _ => rfl) ?_ | refine HasH.ros rfl rfl ?_)) _ (by first | exact .inl rfl | exact .inr rfl)
  · rw [decide_eq_false h1]
    repeat (first | refine C.seq ?_ | refine C.region ?_ | refine R.zb ttok ?_ | refine R.zu ttok ?_ | refine R.zc ttok ?_ | refine R.za ttok ?_ | refine R.zx ?_ | refine R.zl ttok ?_ | refine R.zs ttok ?_ | refine R.z ttok ?_ | refine R.zk ?_ | refine R.zn ?_ | refine R.done ?_ | refine X.then ?_ | refine C.block ?_ | refine C.ret ?_ | refine C.skip ?_ | refine C.exit ?_ | refine X.pass_ret ?_ | refine X.pass_exit ?_ | refine X.block_normal ?_ | refine X.block_ret ?_ | refine X.block_exit ?_ | refine C.zt ?_ | refine C.zf ?_ | refine X.zo ?_)
    refine C.noneT 8 (.sl 8 1 0 ([] : List ByteArray).length 0) (.tab 1 ([] : List ByteArray).length 0 (txF []) 9) (none_tab _ _ _ _) rfl rfl rfl (fun ρ h => by have h : ρ 8 = none := h; simp [AV.conc, h]) ?_
    refine C.loop (σ := List PI × Nat × List ByteArray × Nat × Nat) (L2 := 9) (fun s => (Asc s.1 ∧ (∀ q ∈ s.1, q.2 = 0 ∨ q.2 = 1) ∧ s.2.2.1.length = (ones s.1).length ∧ ∀ q ∈ ones s.1, tch1 os q.1 = false ∧ tch1 gs q.1 = false) ∧ s.1.length ≤ 300 ∧ s.1.length ≤ s.2.1 ∧ s.2.1 ≤ 9223372036854775807 ∧ s.2.2.1.length ≤ s.2.2.2.1 ∧ s.2.2.2.1 ≤ 9223372036854775807 ∧ s.2.2.2.2 ≤ 300 ∧ s.2.2.2.2 ≤ ks.length)
      (fun s => [(0, .sl 0 1 o0 ks.length c0), (4, .ptr 3 0 0 0), (5, .ptr 4 0 0 0), (6, .raw (.bool false)), (7, .ptr 6 0 0 0), (8, .sl 8 1 0 s.2.2.1.length s.2.2.2.1), (10, .fn 40 [.ptr 3 0 0 0, .ptr 4 0 0 0]), (11, .raw (.int .i64 (s.2.2.2.2 : Nat)))])
      (fun s => [(0, roX o0 ks), (1, roX o1 os), (2, roX o2 gs), (3, sbx 1 o1 os.length c1), (4, sbx 2 o2 gs.length c2), (5, tbI 7 s.1.length s.2.1), (6, .cells [.ptr 5 0 0 0] 40), (7, tI s.1 s.2.1), (8, tX s.2.2.1 s.2.2.2.1)]) _ (fun s => 300 - s.2.2.2.2) [] (l, c, [], 0, 0) ⟨⟨hA, fun q hq => .inl (hv q hq), by
        have : ones l = [] := by
          unfold ones
          rw [List.filter_eq_nil_iff]
          intro q hq
          have := hv q hq
          simp [oneB, this]
        rw [this]; rfl, fun q hq => by
        have h1 := List.mem_filter.1 hq
        have h2 := hv q h1.1
        have h3 := of_decide_eq_true h1.2
        omega⟩, by dsimp only; omega, hlc, hcc, by simp, by simp, by simp, by simp⟩ rfl (by repeat (first | exact HasT.nil | refine HasT.cons rfl rfl rfl ?_)) (by repeat (first | exact HasH.nil | refine HasH.same rfl rfl rfl trivial ?_ | refine HasH.same rfl rfl rfl rfl ?_ | refine HasH.same rfl rfl rfl (fun _ _ => rfl) ?_ | refine HasH.ros rfl rfl ?_ | refine HasH.rox rfl rfl ?_ | refine HasH.rob rfl rfl ?_)) rfl (fun _ h => h) ?_
    clear hv hA hlc hcc hli hi3 hik
    rintro ⟨l, c, lst, cs, i⟩ ⟨⟨hA, hv, hls, hun⟩, hl3, hlc, hcc, hcs1, hcs2, hi3, hik⟩
    dsimp only at hA hv hls hun hl3 hlc hcc hcs1 hcs2 hi3 hik ⊢
    repeat (first | refine C.seq ?_ | refine C.region ?_ | refine R.zb ttok ?_ | refine R.zu ttok ?_ | refine R.zc ttok ?_ | refine R.za ttok ?_ | refine R.zx ?_ | refine R.zl ttok ?_ | refine R.zs ttok ?_ | refine R.z ttok ?_ | refine R.zk ?_ | refine R.zn ?_ | refine R.done ?_ | refine X.then ?_ | refine C.block ?_ | refine C.ret ?_ | refine C.skip ?_ | refine C.exit ?_ | refine X.pass_ret ?_ | refine X.pass_exit ?_ | refine X.block_normal ?_ | refine X.block_ret ?_ | refine X.block_exit ?_ | refine C.zt ?_ | refine C.zf ?_ | refine X.zo ?_)
    by_cases h1 : (i : Int) < (ks.length : Nat)
    · rw [decide_eq_true h1]
      repeat (first | refine C.seq ?_ | refine C.region ?_ | refine R.zb ttok ?_ | refine R.zu ttok ?_ | refine R.zc ttok ?_ | refine R.za ttok ?_ | refine R.zx ?_ | refine R.zl ttok ?_ | refine R.zs ttok ?_ | refine R.z ttok ?_ | refine R.zk ?_ | refine R.zn ?_ | refine R.done ?_ | refine X.then ?_ | refine C.block ?_ | refine C.ret ?_ | refine C.skip ?_ | refine C.exit ?_ | refine X.pass_ret ?_ | refine X.pass_exit ?_ | refine X.block_normal ?_ | refine X.block_ret ?_ | refine X.block_exit ?_ | refine C.zt ?_ | refine C.zf ?_ | refine X.zo ?_)
      by_cases h2 : (i : Int) < 300
      · have hlt : i < ks.length := by omega
        rw [decide_eq_true h2]
        repeat (first | refine C.seq ?_ | refine C.region ?_ | refine R.zb ttok ?_ | refine R.zu ttok ?_ | refine R.zc ttok ?_ | refine R.za ttok ?_ | refine R.zx ?_ | refine R.zl ttok ?_ | refine R.zs ttok ?_ | refine R.z ttok ?_ | refine R.zk ?_ | refine R.zn ?_ | refine R.done ?_ | refine X.then ?_ | refine C.block ?_ | refine C.ret ?_ | refine C.skip ?_ | refine C.exit ?_ | refine X.pass_ret ?_ | refine X.pass_exit ?_ | refine X.block_normal ?_ | refine X.block_ret ?_ | refine X.block_exit ?_ | refine C.zt ?_ | refine C.zf ?_ | refine X.zo ?_)
        refine C.draw [[], [], [], [1, 2], [1, 2, 3], [0, 1, 2, 3, 4], [0, 1, 2, 3, 4, 5], [0, 1, 2, 3, 4, 5, 6], [0, 1, 2, 3, 4, 5, 6], [0, 1, 2, 3, 4, 5, 6, 7], [0, 1, 2, 3, 4, 5, 6, 7, 8, 9]] [5] (by kernel_rfl) (by kernel_rfl) ?_
        repeat (first | refine C.seq ?_ | refine C.region ?_ | refine R.zb ttok ?_ | refine R.zu ttok ?_ | refine R.zc ttok ?_ | refine R.za ttok ?_ | refine R.zx ?_ | refine R.zl ttok ?_ | refine R.zs ttok ?_ | refine R.z ttok ?_ | refine R.zk ?_ | refine R.zn ?_ | refine R.done ?_ | refine X.then ?_ | refine C.block ?_ | refine C.ret ?_ | refine C.skip ?_ | refine C.exit ?_ | refine X.pass_ret ?_ | refine X.pass_exit ?_ | refine X.block_normal ?_ | refine X.block_ret ?_ | refine X.block_exit ?_ | refine C.zt ?_ | refine C.zf ?_ | refine X.zo ?_)
        refine R.ix1 ttok i rfl rfl rfl rfl rfl rfl rfl hlt (⟨by omega, by omega⟩ : o0 ≤ o0 + i * 1 ∧ o0 + i * 1 < o0 + ks.length * 1) rfl ?_
        repeat (first | refine C.seq ?_ | refine C.region ?_ | refine R.zb ttok ?_ | refine R.zu ttok ?_ | refine R.zc ttok ?_ | refine R.za ttok ?_ | refine R.zx ?_ | refine R.zl ttok ?_ | refine R.zs ttok ?_ | refine R.z ttok ?_ | refine R.zk ?_ | refine R.zn ?_ | refine R.done ?_ | refine X.then ?_ | refine C.block ?_ | refine C.ret ?_ | refine C.skip ?_ | refine C.exit ?_ | refine X.pass_ret ?_ | refine X.pass_exit ?_ | refine X.block_normal ?_ | refine X.block_ret ?_ | refine X.block_exit ?_ | refine C.zt ?_ | refine C.zf ?_ | refine X.zo ?_)
        refine R.ldr1 (v := .raw (.string (ks.getD i noT))) ttok i rfl rfl rfl rfl rfl rfl rfl rfl (by decide) (by omega) ?_
        repeat (first | refine C.seq ?_ | refine C.region ?_ | refine R.zb ttok ?_ | refine R.zu ttok ?_ | refine R.zc ttok ?_ | refine R.za ttok ?_ | refine R.zx ?_ | refine R.zl ttok ?_ | refine R.zs ttok ?_ | refine R.z ttok ?_ | refine R.zk ?_ | refine R.zn ?_ | refine R.done ?_ | refine X.then ?_ | refine C.block ?_ | refine C.ret ?_ | refine C.skip ?_ | refine C.exit ?_ | refine X.pass_ret ?_ | refine X.pass_exit ?_ | refine X.block_normal ?_ | refine X.block_ret ?_ | refine X.block_exit ?_ | refine C.zt ?_ | refine C.zf ?_ | refine X.zo ?_)
        refine R.cl [5, 7] (getI_spec l c (ks.getD i noT) hA (by omega)) Try.call41 (by repeat (first | exact HasIn.nil | refine HasIn.same rfl rfl ?_ | refine HasIn.ros rfl ?_ | refine HasIn.other rfl (fun e => by cases e) (fun ρ x w hh => tab_ro hh) ?_)) rfl rfl rfl (fun _ => rfl) rfl (by kernel_rfl) fun _ _ => ?_
        cases hk : hasK l (ks.getD i noT) with
        | false =>
          repeat (first | refine C.seq ?_ | refine C.region ?_ | refine R.zb ttok ?_ | refine R.zu ttok ?_ | refine R.zc ttok ?_ | refine R.za ttok ?_ | refine R.zx ?_ | refine R.zl ttok ?_ | refine R.zs ttok ?_ | refine R.z ttok ?_ | refine R.zk ?_ | refine R.zn ?_ | refine R.done ?_ | refine X.then ?_ | refine C.block ?_ | refine C.ret ?_ | refine C.skip ?_ | refine C.exit ?_ | refine X.pass_ret ?_ | refine X.pass_exit ?_ | refine X.block_normal ?_ | refine X.block_ret ?_ | refine X.block_exit ?_ | refine C.zt ?_ | refine C.zf ?_ | refine X.zo ?_)
          exact X.back [] (l, c, lst, cs, i + 1) ⟨⟨hA, hv, hls, hun⟩, hl3, hlc, hcc, hcs1, hcs2, by dsimp only; omega, by dsimp only; omega⟩ (by dsimp only; omega) rfl (by repeat (first | exact HasT.nil | refine HasT.cons rfl rfl rfl ?_)) (by repeat (first | exact HasH.nil | refine HasH.same rfl rfl rfl trivial ?_ | refine HasH.same rfl rfl rfl rfl ?_ | refine HasH.same rfl rfl rfl (fun _ _ => rfl) ?_ | refine HasH.ros rfl rfl ?_ | refine HasH.rox rfl rfl ?_ | refine HasH.rob rfl rfl ?_)) rfl (fun _ h => h)
        | true =>
          repeat (first | refine C.seq ?_ | refine C.region ?_ | refine R.zb ttok ?_ | refine R.zu ttok ?_ | refine R.zc ttok ?_ | refine R.za ttok ?_ | refine R.zx ?_ | refine R.zl ttok ?_ | refine R.zs ttok ?_ | refine R.z ttok ?_ | refine R.zk ?_ | refine R.zn ?_ | refine R.done ?_ | refine X.then ?_ | refine C.block ?_ | refine C.ret ?_ | refine C.skip ?_ | refine C.exit ?_ | refine X.pass_ret ?_ | refine X.pass_exit ?_ | refine X.block_normal ?_ | refine X.block_ret ?_ | refine X.block_exit ?_ | refine C.zt ?_ | refine C.zf ?_ | refine X.zo ?_)
          by_cases h0 : getI l (ks.getD i noT) = 0
          · rw [decide_eq_true h0]
            repeat (first | refine C.seq ?_ | refine C.region ?_ | refine R.zb ttok ?_ | refine R.zu ttok ?_ | refine R.zc ttok ?_ | refine R.za ttok ?_ | refine R.zx ?_ | refine R.zl ttok ?_ | refine R.zs ttok ?_ | refine R.z ttok ?_ | refine R.zk ?_ | refine R.zn ?_ | refine R.done ?_ | refine X.then ?_ | refine C.block ?_ | refine C.ret ?_ | refine C.skip ?_ | refine C.exit ?_ | refine X.pass_ret ?_ | refine X.pass_exit ?_ | refine X.block_normal ?_ | refine X.block_ret ?_ | refine X.block_exit ?_ | refine C.zt ?_ | refine C.zf ?_ | refine X.zo ?_)
            refine R.ix1 ttok i rfl rfl rfl rfl rfl rfl rfl hlt (⟨by omega, by omega⟩ : o0 ≤ o0 + i * 1 ∧ o0 + i * 1 < o0 + ks.length * 1) rfl ?_
            repeat (first | refine C.seq ?_ | refine C.region ?_ | refine R.zb ttok ?_ | refine R.zu ttok ?_ | refine R.zc ttok ?_ | refine R.za ttok ?_ | refine R.zx ?_ | refine R.zl ttok ?_ | refine R.zs ttok ?_ | refine R.z ttok ?_ | refine R.zk ?_ | refine R.zn ?_ | refine R.done ?_ | refine X.then ?_ | refine C.block ?_ | refine C.ret ?_ | refine C.skip ?_ | refine C.exit ?_ | refine X.pass_ret ?_ | refine X.pass_exit ?_ | refine X.block_normal ?_ | refine X.block_ret ?_ | refine X.block_exit ?_ | refine C.zt ?_ | refine C.zf ?_ | refine X.zo ?_)
            refine R.ldr1 (v := .raw (.string (ks.getD i noT))) ttok i rfl rfl rfl rfl rfl rfl rfl rfl (by decide) (by omega) ?_
            repeat (first | refine C.seq ?_ | refine C.region ?_ | refine R.zb ttok ?_ | refine R.zu ttok ?_ | refine R.zc ttok ?_ | refine R.za ttok ?_ | refine R.zx ?_ | refine R.zl ttok ?_ | refine R.zs ttok ?_ | refine R.z ttok ?_ | refine R.zk ?_ | refine R.zn ?_ | refine R.done ?_ | refine X.then ?_ | refine C.block ?_ | refine C.ret ?_ | refine C.skip ?_ | refine C.exit ?_ | refine X.pass_ret ?_ | refine X.pass_exit ?_ | refine X.block_normal ?_ | refine X.block_ret ?_ | refine X.block_exit ?_ | refine C.zt ?_ | refine C.zf ?_ | refine X.zo ?_)
            refine R.cl [3, 4, 1, 2] (touched_spec os gs o1 o2 c1 c2 (ks.getD i noT)) Try.call40 (by repeat (first | exact HasIn.nil | refine HasIn.same rfl rfl ?_ | refine HasIn.ros rfl ?_ | refine HasIn.rox rfl ?_ | refine HasIn.any rfl ?_ | refine HasIn.other rfl (fun e => by cases e) (fun ρ x w hh => tab_ro hh) ?_)) rfl rfl rfl (fun _ => rfl) rfl (by kernel_rfl) fun _ _ => ?_
            cases ht1 : tch1 os (ks.getD i noT) with
            | true =>
              repeat (first | refine C.seq ?_ | refine C.region ?_ | refine R.zb ttok ?_ | refine R.zu ttok ?_ | refine R.zc ttok ?_ | refine R.za ttok ?_ | refine R.zx ?_ | refine R.zl ttok ?_ | refine R.zs ttok ?_ | refine R.z ttok ?_ | refine R.zk ?_ | refine R.zn ?_ | refine R.done ?_ | refine X.then ?_ | refine C.block ?_ | refine C.ret ?_ | refine C.skip ?_ | refine C.exit ?_ | refine X.pass_ret ?_ | refine X.pass_exit ?_ | refine X.block_normal ?_ | refine X.block_ret ?_ | refine X.block_exit ?_ | refine C.zt ?_ | refine C.zf ?_ | refine X.zo ?_)
              exact X.back [] (l, c, lst, cs, i + 1) ⟨⟨hA, hv, hls, hun⟩, hl3, hlc, hcc, hcs1, hcs2, by dsimp only; omega, by dsimp only; omega⟩ (by dsimp only; omega) rfl (by repeat (first | exact HasT.nil | refine HasT.cons rfl rfl rfl ?_)) (by repeat (first | exact HasH.nil | refine HasH.same rfl rfl rfl trivial ?_ | refine HasH.same rfl rfl rfl rfl ?_ | refine HasH.same rfl rfl rfl (fun _ _ => rfl) ?_ | refine HasH.ros rfl rfl ?_ | refine HasH.rox rfl rfl ?_ | refine HasH.rob rfl rfl ?_)) rfl (fun _ h => h)
            | false =>
              cases ht2 : tch1 gs (ks.getD i noT) with
              | true =>
                repeat (first | refine C.seq ?_ | refine C.region ?_ | refine R.zb ttok ?_ | refine R.zu ttok ?_ | refine R.zc ttok ?_ | refine R.za ttok ?_ | refine R.zx ?_ | refine R.zl ttok ?_ | refine R.zs ttok ?_ | refine R.z ttok ?_ | refine R.zk ?_ | refine R.zn ?_ | refine R.done ?_ | refine X.then ?_ | refine C.block ?_ | refine C.ret ?_ | refine C.skip ?_ | refine C.exit ?_ | refine X.pass_ret ?_ | refine X.pass_exit ?_ | refine X.block_normal ?_ | refine X.block_ret ?_ | refine X.block_exit ?_ | refine C.zt ?_ | refine C.zf ?_ | refine X.zo ?_)
                exact X.back [] (l, c, lst, cs, i + 1) ⟨⟨hA, hv, hls, hun⟩, hl3, hlc, hcc, hcs1, hcs2, by dsimp only; omega, by dsimp only; omega⟩ (by dsimp only; omega) rfl (by repeat (first | exact HasT.nil | refine HasT.cons rfl rfl rfl ?_)) (by repeat (first | exact HasH.nil | refine HasH.same rfl rfl rfl trivial ?_ | refine HasH.same rfl rfl rfl rfl ?_ | refine HasH.same rfl rfl rfl (fun _ _ => rfl) ?_ | refine HasH.ros rfl rfl ?_ | refine HasH.rox rfl rfl ?_ | refine HasH.rob rfl rfl ?_)) rfl (fun _ h => h)
              | false =>
                have hon := ones_more hk h0
                have hol : (ones l).length ≤ l.length := by unfold ones; exact List.length_filter_le _ _
                repeat (first | refine C.seq ?_ | refine C.region ?_ | refine R.zb ttok ?_ | refine R.zu ttok ?_ | refine R.zc ttok ?_ | refine R.za ttok ?_ | refine R.zx ?_ | refine R.zl ttok ?_ | refine R.zs ttok ?_ | refine R.z ttok ?_ | refine R.zk ?_ | refine R.zn ?_ | refine R.done ?_ | refine X.then ?_ | refine C.block ?_ | refine C.ret ?_ | refine C.skip ?_ | refine C.exit ?_ | refine X.pass_ret ?_ | refine X.pass_exit ?_ | refine X.block_normal ?_ | refine X.block_ret ?_ | refine X.block_exit ?_ | refine C.zt ?_ | refine C.zf ?_ | refine X.zo ?_)
                refine R.ix1 ttok i rfl rfl rfl rfl rfl rfl rfl hlt (⟨by omega, by omega⟩ : o0 ≤ o0 + i * 1 ∧ o0 + i * 1 < o0 + ks.length * 1) rfl ?_
                repeat (first | refine C.seq ?_ | refine C.region ?_ | refine R.zb ttok ?_ | refine R.zu ttok ?_ | refine R.zc ttok ?_ | refine R.za ttok ?_ | refine R.zx ?_ | refine R.zl ttok ?_ | refine R.zs ttok ?_ | refine R.z ttok ?_ | refine R.zk ?_ | refine R.zn ?_ | refine R.done ?_ | refine X.then ?_ | refine C.block ?_ | refine C.ret ?_ | refine C.skip ?_ | refine C.exit ?_ | refine X.pass_ret ?_ | refine X.pass_exit ?_ | refine X.block_normal ?_ | refine X.block_ret ?_ | refine X.block_exit ?_ | refine C.zt ?_ | refine C.zf ?_ | refine X.zo ?_)
                refine R.ldr1 (v := .raw (.string (ks.getD i noT))) ttok i rfl rfl rfl rfl rfl rfl rfl rfl (by decide) (by omega) ?_
                repeat (first | refine C.seq ?_ | refine C.region ?_ | refine R.zb ttok ?_ | refine R.zu ttok ?_ | refine R.zc ttok ?_ | refine R.za ttok ?_ | refine R.zx ?_ | refine R.zl ttok ?_ | refine R.zs ttok ?_ | refine R.z ttok ?_ | refine R.zk ?_ | refine R.zn ?_ | refine R.done ?_ | refine X.then ?_ | refine C.block ?_ | refine C.ret ?_ | refine C.skip ?_ | refine C.exit ?_ | refine X.pass_ret ?_ | refine X.pass_exit ?_ | refine X.block_normal ?_ | refine X.block_ret ?_ | refine X.block_exit ?_ | refine C.zt ?_ | refine C.zf ?_ | refine X.zo ?_)
                refine R.app (xs := txs lst) (news := txs [ks.getD i noT]) ttok (fun c => tX (lst ++ [ks.getD i noT]) c) rfl rfl (dstTx rfl) (SrcA.cells rfl rfl) (asTx _ _ _ (by unfold txs; rw [List.map_append])) rfl rfl rfl rfl rfl rfl (by decide) rfl rfl rfl (by kernel_rfl) hcs2 (by show (lst.length + 1) * 16 ≤ _; omega) (by omega) fun c5 hc5 hc6 => ?_
                rw [show lst.length + 1 = (lst ++ [ks.getD i noT]).length by rw [List.length_append]; rfl] at hc5 ⊢
                repeat (first | refine C.seq ?_ | refine C.region ?_ | refine R.zb ttok ?_ | refine R.zu ttok ?_ | refine R.zc ttok ?_ | refine R.za ttok ?_ | refine R.zx ?_ | refine R.zl ttok ?_ | refine R.zs ttok ?_ | refine R.z ttok ?_ | refine R.zk ?_ | refine R.zn ?_ | refine R.done ?_ | refine X.then ?_ | refine C.block ?_ | refine C.ret ?_ | refine C.skip ?_ | refine C.exit ?_ | refine X.pass_ret ?_ | refine X.pass_exit ?_ | refine X.block_normal ?_ | refine X.block_ret ?_ | refine X.block_exit ?_ | refine C.zt ?_ | refine C.zf ?_ | refine X.zo ?_)
                refine C.draw [[], [], [], [1, 2], [1, 2, 3], [0, 1, 2, 3, 4]] [5] (by kernel_rfl) (by kernel_rfl) ?_
                repeat (first | refine C.seq ?_ | refine C.region ?_ | refine R.zb ttok ?_ | refine R.zu ttok ?_ | refine R.zc ttok ?_ | refine R.za ttok ?_ | refine R.zx ?_ | refine R.zl ttok ?_ | refine R.zs ttok ?_ | refine R.z ttok ?_ | refine R.zk ?_ | refine R.zn ?_ | refine R.done ?_ | refine X.then ?_ | refine C.block ?_ | refine C.ret ?_ | refine C.skip ?_ | refine C.exit ?_ | refine X.pass_ret ?_ | refine X.pass_exit ?_ | refine X.block_normal ?_ | refine X.block_ret ?_ | refine X.block_exit ?_ | refine C.zt ?_ | refine C.zf ?_ | refine X.zo ?_)
                refine R.ix1 ttok i rfl rfl rfl rfl rfl rfl rfl hlt (⟨by omega, by omega⟩ : o0 ≤ o0 + i * 1 ∧ o0 + i * 1 < o0 + ks.length * 1) rfl ?_
                repeat (first | refine C.seq ?_ | refine C.region ?_ | refine R.zb ttok ?_ | refine R.zu ttok ?_ | refine R.zc ttok ?_ | refine R.za ttok ?_ | refine R.zx ?_ | refine R.zl ttok ?_ | refine R.zs ttok ?_ | refine R.z ttok ?_ | refine R.zk ?_ | refine R.zn ?_ | refine R.done ?_ | refine X.then ?_ | refine C.block ?_ | refine C.ret ?_ | refine C.skip ?_ | refine C.exit ?_ | refine X.pass_ret ?_ | refine X.pass_exit ?_ | refine X.block_normal ?_ | refine X.block_ret ?_ | refine X.block_exit ?_ | refine C.zt ?_ | refine C.zf ?_ | refine X.zo ?_)
                refine R.ldr1 (v := .raw (.string (ks.getD i noT))) ttok i rfl rfl rfl rfl rfl rfl rfl rfl (by decide) (by omega) ?_
                repeat (first | refine C.seq ?_ | refine C.region ?_ | refine R.zb ttok ?_ | refine R.zu ttok ?_ | refine R.zc ttok ?_ | refine R.za ttok ?_ | refine R.zx ?_ | refine R.zl ttok ?_ | refine R.zs ttok ?_ | refine R.z ttok ?_ | refine R.zk ?_ | refine R.zn ?_ | refine R.done ?_ | refine X.then ?_ | refine C.block ?_ | refine C.ret ?_ | refine C.skip ?_ | refine C.exit ?_ | refine X.pass_ret ?_ | refine X.pass_exit ?_ | refine X.block_normal ?_ | refine X.block_ret ?_ | refine X.block_exit ?_ | refine C.zt ?_ | refine C.zf ?_ | refine X.zo ?_)
                refine R.cl [5, 7] (putI_spec l c (ks.getD i noT) 1 hA (by omega) hlc hcc) Try.call33 (by repeat (first | exact HasIn.nil | refine HasIn.same rfl rfl ?_ | refine HasIn.bro rfl ?_ | refine HasIn.ror rfl ?_ | refine HasIn.cro rfl rfl ?_)) rfl rfl rfl (fun _ => rfl) rfl (by kernel_rfl) fun c7 hc7 => ?_
                repeat (first | refine C.seq ?_ | refine C.region ?_ | refine R.zb ttok ?_ | refine R.zu ttok ?_ | refine R.zc ttok ?_ | refine R.za ttok ?_ | refine R.zx ?_ | refine R.zl ttok ?_ | refine R.zs ttok ?_ | refine R.z ttok ?_ | refine R.zk ?_ | refine R.zn ?_ | refine R.done ?_ | refine X.then ?_ | refine C.block ?_ | refine C.ret ?_ | refine C.skip ?_ | refine C.exit ?_ | refine X.pass_ret ?_ | refine X.pass_exit ?_ | refine X.block_normal ?_ | refine X.block_ret ?_ | refine X.block_exit ?_ | refine C.zt ?_ | refine C.zf ?_ | refine X.zo ?_)
                exact X.back [(8, 10), (7, 11)] (putI l (ks.getD i noT) 1, c7, lst ++ [ks.getD i noT], c5, i + 1) ⟨⟨asc_put hA _ _, fun q hq => by
                  rcases mem_put hq with rfl | hq
                  · exact .inr rfl
                  · exact hv q hq, by rw [List.length_append, hon.1, hls]; rfl, fun q hq => by
                  rcases hon.2 q hq with h | h
                  · rw [h]; exact ⟨ht1, ht2⟩
                  · exact hun q h⟩, by have := put_len_old 1 hk; dsimp only; omega, hc7.1, hc7.2, hc5, hc6, by dsimp only; omega, by dsimp only; omega⟩ (by dsimp only; omega) rfl (by repeat (first | exact HasT.nil | refine HasT.cons rfl rfl rfl ?_)) (by repeat (first | exact HasH.nil | refine HasH.same rfl rfl rfl trivial ?_ | refine HasH.same rfl rfl rfl rfl ?_ | refine HasH.same rfl rfl rfl (fun _ _ => rfl) ?_ | refine HasH.ros rfl rfl ?_ | refine HasH.rox rfl rfl ?_ | refine HasH.rob rfl rfl ?_)) rfl (fun _ h => h)
          · rw [decide_eq_false h0]
            repeat (first | refine C.seq ?_ | refine C.region ?_ | refine R.zb ttok ?_ | refine R.zu ttok ?_ | refine R.zc ttok ?_ | refine R.za ttok ?_ | refine R.zx ?_ | refine R.zl ttok ?_ | refine R.zs ttok ?_ | refine R.z ttok ?_ | refine R.zk ?_ | refine R.zn ?_ | refine R.done ?_ | refine X.then ?_ | refine C.block ?_ | refine C.ret ?_ | refine C.skip ?_ | refine C.exit ?_ | refine X.pass_ret ?_ | refine X.pass_exit ?_ | refine X.block_normal ?_ | refine X.block_ret ?_ | refine X.block_exit ?_ | refine C.zt ?_ | refine C.zf ?_ | refine X.zo ?_)
            exact X.back [] (l, c, lst, cs, i + 1) ⟨⟨hA, hv, hls, hun⟩, hl3, hlc, hcc, hcs1, hcs2, by dsimp only; omega, by dsimp only; omega⟩ (by dsimp only; omega) rfl (by repeat (first | exact HasT.nil | refine HasT.cons rfl rfl rfl ?_)) (by repeat (first | exact HasH.nil | refine HasH.same rfl rfl rfl trivial ?_ | refine HasH.same rfl rfl rfl rfl ?_ | refine HasH.same rfl rfl rfl (fun _ _ => rfl) ?_ | refine HasH.ros rfl rfl ?_ | refine HasH.rox rfl rfl ?_ | refine HasH.rob rfl rfl ?_)) rfl (fun _ h => h)
      · rw [decide_eq_false h2]
        repeat (first | refine C.seq ?_ | refine C.region ?_ | refine R.zb ttok ?_ | refine R.zu ttok ?_ | refine R.zc ttok ?_ | refine R.za ttok ?_ | refine R.zx ?_ | refine R.zl ttok ?_ | refine R.zs ttok ?_ | refine R.z ttok ?_ | refine R.zk ?_ | refine R.zn ?_ | refine R.done ?_ | refine X.then ?_ | refine C.block ?_ | refine C.ret ?_ | refine C.skip ?_ | refine C.exit ?_ | refine X.pass_ret ?_ | refine X.pass_exit ?_ | refine X.block_normal ?_ | refine X.block_ret ?_ | refine X.block_exit ?_ | refine C.zt ?_ | refine C.zf ?_ | refine X.zo ?_)
        refine R.cl [5] (rangeI_spec noT noT) Try.call24 (.any rfl .nil) rfl rfl rfl (fun _ => rfl) rfl (by kernel_rfl) fun _ _ => ?_
        repeat (first | refine C.seq ?_ | refine C.region ?_ | refine R.zb ttok ?_ | refine R.zu ttok ?_ | refine R.zc ttok ?_ | refine R.za ttok ?_ | refine R.zx ?_ | refine R.zl ttok ?_ | refine R.zs ttok ?_ | refine R.z ttok ?_ | refine R.zk ?_ | refine R.zn ?_ | refine R.done ?_ | refine X.then ?_ | refine C.block ?_ | refine C.ret ?_ | refine C.skip ?_ | refine C.exit ?_ | refine X.pass_ret ?_ | refine X.pass_exit ?_ | refine X.block_normal ?_ | refine X.block_ret ?_ | refine X.block_exit ?_ | refine C.zt ?_ | refine C.zf ?_ | refine X.zo ?_)
        refine R.cl [5, 7, 12, 10, 11, 9, 3, 6, 4, 1, 2, 13, 14, 15] (rangeSt_spec os gs o1 o2 c1 c2 l c 0 (by rw [fnd_zero]; rfl) hA hlc hcc hl3 hun) Try.call51 (by repeat (first | exact HasIn.nil | refine HasIn.same rfl rfl ?_ | refine HasIn.ros rfl ?_ | refine HasIn.rox rfl ?_ | refine HasIn.any rfl ?_ | refine HasIn.other rfl (fun e => by cases e) (fun ρ x w hh => tab_ro hh) ?_)) rfl rfl rfl (fun _ => rfl) rfl (by kernel_rfl) fun s hs => ?_
        repeat (first | refine C.seq ?_ | refine C.region ?_ | refine R.zb ttok ?_ | refine R.zu ttok ?_ | refine R.zc ttok ?_ | refine R.za ttok ?_ | refine R.zx ?_ | refine R.zl ttok ?_ | refine R.zs ttok ?_ | refine R.z ttok ?_ | refine R.zk ?_ | refine R.zn ?_ | refine R.done ?_ | refine X.then ?_ | refine C.block ?_ | refine C.ret ?_ | refine C.skip ?_ | refine C.exit ?_ | refine X.pass_ret ?_ | refine X.pass_exit ?_ | refine X.block_normal ?_ | refine X.block_ret ?_ | refine X.block_exit ?_ | refine C.zt ?_ | refine C.zf ?_ | refine X.zo ?_)
        rw [decide_eq_true (show ((ones l).length : Int) = (lst.length : Nat) by rw [hls])]
        repeat (first | refine C.seq ?_ | refine C.region ?_ | refine R.zb ttok ?_ | refine R.zu ttok ?_ | refine R.zc ttok ?_ | refine R.za ttok ?_ | refine R.zx ?_ | refine R.zl ttok ?_ | refine R.zs ttok ?_ | refine R.z ttok ?_ | refine R.zk ?_ | refine R.zn ?_ | refine R.done ?_ | refine X.then ?_ | refine C.block ?_ | refine C.ret ?_ | refine C.skip ?_ | refine C.exit ?_ | refine X.pass_ret ?_ | refine X.pass_exit ?_ | refine X.block_normal ?_ | refine X.block_ret ?_ | refine X.block_exit ?_ | refine C.zt ?_ | refine C.zf ?_ | refine X.zo ?_)
        refine R.cl [] (known_spec) Try.call21 (by repeat (first | exact HasIn.nil | refine HasIn.same rfl rfl ?_ | refine HasIn.bro rfl ?_ | refine HasIn.ror rfl ?_ | refine HasIn.cro rfl rfl ?_)) rfl rfl rfl (fun _ => rfl) rfl (by kernel_rfl) fun _ _ => ?_
        repeat (first | refine C.seq ?_ | refine C.region ?_ | refine R.zb ttok ?_ | refine R.zu ttok ?_ | refine R.zc ttok ?_ | refine R.za ttok ?_ | refine R.zx ?_ | refine R.zl ttok ?_ | refine R.zs ttok ?_ | refine R.z ttok ?_ | refine R.zk ?_ | refine R.zn ?_ | refine R.done ?_ | refine X.then ?_ | refine C.block ?_ | refine C.ret ?_ | refine C.skip ?_ | refine C.exit ?_ | refine X.pass_ret ?_ | refine X.pass_exit ?_ | refine X.block_normal ?_ | refine X.block_ret ?_ | refine X.block_exit ?_ | refine C.zt ?_ | refine C.zf ?_ | refine X.zo ?_)
        refine X.fin ttok () [] trivial rfl rfl rfl (by repeat (first | exact HasH.nil | refine HasH.same rfl rfl rfl trivial ?_ | refine HasH.same rfl rfl rfl rfl ?_ | refine HasH.same rfl rfl rfl (fun _ _ => rfl) ?_ | refine HasH.ros rfl rfl ?_)) _ (by first | exact .inl rfl | exact .inr rfl)
    · rw [decide_eq_false h1]
      repeat (first | refine C.seq ?_ | refine C.region ?_ | refine R.zb ttok ?_ | refine R.zu ttok ?_ | refine R.zc ttok ?_ | refine R.za ttok ?_ | refine R.zx ?_ | refine R.zl ttok ?_ | refine R.zs ttok ?_ | refine R.z ttok ?_ | refine R.zk ?_ | refine R.zn ?_ | refine R.done ?_ | refine X.then ?_ | refine C.block ?_ | refine C.ret ?_ | refine C.skip ?_ | refine C.exit ?_ | refine X.pass_ret ?_ | refine X.pass_exit ?_ | refine X.block_normal ?_ | refine X.block_ret ?_ | refine X.block_exit ?_ | refine C.zt ?_ | refine C.zf ?_ | refine X.zo ?_)
      refine R.cl [5] (rangeI_spec noT noT) Try.call24 (.any rfl .nil) rfl rfl rfl (fun _ => rfl) rfl (by kernel_rfl) fun _ _ => ?_
      repeat (first | refine C.seq ?_ | refine C.region ?_ | refine R.zb ttok ?_ | refine R.zu ttok ?_ | refine R.zc ttok ?_ | refine R.za ttok ?_ | refine R.zx ?_ | refine R.zl ttok ?_ | refine R.zs ttok ?_ | refine R.z ttok ?_ | refine R.zk ?_ | refine R.zn ?_ | refine R.done ?_ | refine X.then ?_ | refine C.block ?_ | refine C.ret ?_ | refine C.skip ?_ | refine C.exit ?_ | refine X.pass_ret ?_ | refine X.pass_exit ?_ | refine X.block_normal ?_ | refine X.block_ret ?_ | refine X.block_exit ?_ | refine C.zt ?_ | refine C.zf ?_ | refine X.zo ?_)
      refine R.cl [5, 7, 12, 10, 11, 9, 3, 6, 4, 1, 2, 13, 14, 15] (rangeSt_spec os gs o1 o2 c1 c2 l c 0 (by rw [fnd_zero]; rfl) hA hlc hcc hl3 hun) Try.call51 (by repeat (first | exact HasIn.nil | refine HasIn.same rfl rfl ?_ | refine HasIn.ros rfl ?_ | refine HasIn.rox rfl ?_ | refine HasIn.any rfl ?_ | refine HasIn.other rfl (fun e => by cases e) (fun ρ x w hh => tab_ro hh) ?_)) rfl rfl rfl (fun _ => rfl) rfl (by kernel_rfl) fun s hs => ?_
      repeat (first | refine C.seq ?_ | refine C.region ?_ | refine R.zb ttok ?_ | refine R.zu ttok ?_ | refine R.zc ttok ?_ | refine R.za ttok ?_ | refine R.zx ?_ | refine R.zl ttok ?_ | refine R.zs ttok ?_ | refine R.z ttok ?_ | refine R.zk ?_ | refine R.zn ?_ | refine R.done ?_ | refine X.then ?_ | refine C.block ?_ | refine C.ret ?_ | refine C.skip ?_ | refine C.exit ?_ | refine X.pass_ret ?_ | refine X.pass_exit ?_ | refine X.block_normal ?_ | refine X.block_ret ?_ | refine X.block_exit ?_ | refine C.zt ?_ | refine C.zf ?_ | refine X.zo ?_)
      rw [decide_eq_true (show ((ones l).length : Int) = (lst.length : Nat) by rw [hls])]
      repeat (first | refine C.seq ?_ | refine C.region ?_ | refine R.zb ttok ?_ | refine R.zu ttok ?_ | refine R.zc ttok ?_ | refine R.za ttok ?_ | refine R.zx ?_ | refine R.zl ttok ?_ | refine R.zs ttok ?_ | refine R.z ttok ?_ | refine R.zk ?_ | refine R.zn ?_ | refine R.done ?_ | refine X.then ?_ | refine C.block ?_ | refine C.ret ?_ | refine C.skip ?_ | refine C.exit ?_ | refine X.pass_ret ?_ | refine X.pass_exit ?_ | refine X.block_normal ?_ | refine X.block_ret ?_ | refine X.block_exit ?_ | refine C.zt ?_ | refine C.zf ?_ | refine X.zo ?_)
      refine R.cl [] (known_spec) Try.call21 (by repeat (first | exact HasIn.nil | refine HasIn.same rfl rfl ?_ | refine HasIn.bro rfl ?_ | refine HasIn.ror rfl ?_ | refine HasIn.cro rfl rfl ?_)) rfl rfl rfl (fun _ => rfl) rfl (by kernel_rfl) fun _ _ => ?_
      repeat (first | refine C.seq ?_ | refine C.region ?_ | refine R.zb ttok ?_ | refine R.zu ttok ?_ | refine R.zc ttok ?_ | refine R.za ttok ?_ | refine R.zx ?_ | refine R.zl ttok ?_ | refine R.zs ttok ?_ | refine R.z ttok ?_ | refine R.zk ?_ | refine R.zn ?_ | refine R.done ?_ | refine X.then ?_ | refine C.block ?_ | refine C.ret ?_ | refine C.skip ?_ | refine C.exit ?_ | refine X.pass_ret ?_ | refine X.pass_exit ?_ | refine X.block_normal ?_ | refine X.block_ret ?_ | refine X.block_exit ?_ | refine C.zt ?_ | refine C.zf ?_ | refine X.zo ?_)
      refine X.fin ttok () [] trivial rfl rfl rfl (by repeat (first | exact HasH.nil | refine HasH.same rfl rfl rfl trivial ?_ | refine HasH.same rfl rfl rfl rfl ?_ | refine HasH.same rfl rfl rfl (fun _ _ => rfl) ?_ | refine HasH.ros rfl rfl ?_)) _ (by first | exact .inl rfl | exact .inr rfl)
end
end Go.Proofs.Ytlcojlcackkhpaa
