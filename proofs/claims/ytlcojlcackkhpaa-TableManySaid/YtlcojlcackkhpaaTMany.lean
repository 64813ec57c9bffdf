/- table: TableMany: facts, name, gone, the law -/
import Derived.Test.YtlcojlcackkhpaaTI
import Derived.Test.YtlcojlcackkhpaaTF
import Derived.Test.YtlcojlcackkhpaaK33
/- table: facts for TableMany, TableSteady: what is there behind a Put, a Delete. No program in sight. -/
namespace Go.Proofs.Ytlcojlcackkhpaa
set_option linter.unusedVariables false
set_option linter.unusedSimpArgs false
open Go.RowKit
set_option maxHeartbeats 4000000
theorem getD_at (l : List PI) {i : Nat} (hi : i < l.length) : l.getD i zI = l[i] := by rw [List.getD_eq_getElem?_getD, List.getElem?_eq_getElem hi]; rfl
theorem getD_mem (l : List PI) {i : Nat} (hi : i < l.length) : l.getD i zI ∈ l := by rw [getD_at l hi]; exact List.getElem_mem hi
theorem has_mem {l : List PI} (hA : Asc l) {k : ByteArray} {v : Int} (h : (k, v) ∈ l) : hasK l k = true ∧ getI l k = v := by
  obtain ⟨i, hi, he⟩ := List.mem_iff_getElem.1 h
  have e : l.getD i zI = (k, v) := by rw [getD_at l hi, he]
  have h1 := has_at hA hi
  have h2 := get_at hA hi
  rw [e] at h1 h2
  exact ⟨h1, h2⟩
theorem mem_has {l : List PI} {k : ByteArray} (h : hasK l k = true) : (k, getI l k) ∈ l := by
  have := getD_mem l (hasK_lt h).1
  rw [getI_old h]
  rw [show (k, (l.getD (plc l k) zI).2) = l.getD (plc l k) zI from Prod.ext (hasK_key h).symm rfl]
  exact this
theorem has_iff {l : List PI} (hA : Asc l) (k : ByteArray) : hasK l k = true ↔ ∃ v, (k, v) ∈ l := ⟨fun h => ⟨_, mem_has h⟩, fun ⟨v, h⟩ => (has_mem hA h).1⟩
theorem mem_ins (l : List PI) (i : Nat) (p q : PI) : q ∈ insL l i p ↔ q = p ∨ q ∈ l := by
  unfold insL
  rw [List.mem_append, List.mem_cons]
  have : q ∈ l ↔ q ∈ l.take i ∨ q ∈ l.drop i := by rw [← List.mem_append, List.take_append_drop]
  rw [this]
  constructor
  · rintro (h | h | h)
    · exact .inr (.inl h)
    · exact .inl h
    · exact .inr (.inr h)
  · rintro (h | h | h)
    · exact .inr (.inl h)
    · exact .inl h
    · exact .inr (.inr h)
theorem key_idx {l : List PI} (hA : Asc l) {i j : Nat} (hi : i < l.length) (hj : j < l.length) (h : (l[i]).1 = (l[j]).1) : i = j := by
  rcases Nat.lt_trichotomy i j with h1 | h1 | h1
  · have := List.pairwise_iff_getElem.1 hA i j hi hj h1
    rw [h, cmpS_self] at this; omega
  · exact h1
  · have := List.pairwise_iff_getElem.1 hA j i hj hi h1
    rw [h, cmpS_self] at this; omega
theorem put_iff {l : List PI} (hA : Asc l) (k : ByteArray) (v : Int) (q : PI) : q ∈ putI l k v ↔ q = (k, v) ∨ (q ∈ l ∧ q.1 ≠ k) := by
  cases h : hasK l k with
  | false =>
    rw [putI_new v h, mem_ins]
    have hk : ∀ q ∈ l, q.1 ≠ k := fun q hq e => by
      have := (has_iff hA k).2 ⟨q.2, by rw [← e]; exact hq⟩
      rw [h] at this; cases this
    constructor
    · rintro (h1 | h1)
      · exact .inl h1
      · exact .inr ⟨h1, hk q h1⟩
    · rintro (h1 | ⟨h1, _⟩)
      · exact .inl h1
      · exact .inr h1
  | true =>
    have hlt := (hasK_lt h).1
    have hkey := hasK_key h
    rw [getD_at l hlt] at hkey
    rw [putI_old v h, hasK_key h]
    constructor
    · intro hq
      obtain ⟨j, hj, he⟩ := List.mem_iff_getElem.1 hq
      rw [List.length_set] at hj
      rw [List.getElem_set] at he
      split at he
      · exact .inl he.symm
      · rename_i hne
        subst he
        exact .inr ⟨List.getElem_mem hj, fun e => hne (key_idx hA hlt hj (by rw [hkey, e]))⟩
    · rintro (rfl | ⟨hq, hne⟩)
      · exact List.mem_iff_getElem.2 ⟨plc l k, by rw [List.length_set]; exact hlt, by rw [List.getElem_set, if_pos rfl]⟩
      · obtain ⟨j, hj, rfl⟩ := List.mem_iff_getElem.1 hq
        refine List.mem_iff_getElem.2 ⟨j, by rw [List.length_set]; exact hj, ?_⟩
        rw [List.getElem_set, if_neg]
        intro e
        subst e
        exact hne hkey
theorem del_iff {l : List PI} (hA : Asc l) (k : ByteArray) (q : PI) : q ∈ delI l k ↔ q ∈ l ∧ q.1 ≠ k := by
  cases h : hasK l k with
  | false =>
    rw [delI_new h]
    exact ⟨fun hq => ⟨hq, fun e => by
      have := (has_iff hA k).2 ⟨q.2, by rw [← e]; exact hq⟩
      rw [h] at this; cases this⟩, fun hq => hq.1⟩
  | true =>
    have hlt := (hasK_lt h).1
    have hkey := hasK_key h
    rw [getD_at l hlt] at hkey
    rw [delI_old h]
    unfold delL
    rw [List.mem_append]
    constructor
    · rintro (hq | hq)
      · obtain ⟨j, hj, rfl⟩ := List.mem_iff_getElem.1 hq
        rw [List.length_take] at hj
        rw [List.getElem_take]
        exact ⟨List.getElem_mem _, fun e => by have := key_idx hA (show j < l.length by omega) hlt (by rw [e, hkey]); omega⟩
      · obtain ⟨j, hj, rfl⟩ := List.mem_iff_getElem.1 hq
        rw [List.length_drop] at hj
        rw [List.getElem_drop]
        exact ⟨List.getElem_mem _, fun e => by have := key_idx hA (show plc l k + 1 + j < l.length by omega) hlt (by rw [e, hkey]); omega⟩
    · rintro ⟨hq, hne⟩
      obtain ⟨j, hj, rfl⟩ := List.mem_iff_getElem.1 hq
      rcases Nat.lt_trichotomy j (plc l k) with h1 | h1 | h1
      · exact .inl (List.mem_iff_getElem.2 ⟨j, by rw [List.length_take]; omega, by rw [List.getElem_take]⟩)
      · subst h1; exact absurd hkey hne
      · exact .inr (List.mem_iff_getElem.2 ⟨j - (plc l k + 1), by rw [List.length_drop]; omega, by rw [List.getElem_drop]; congr 1; omega⟩)
theorem put_len_new {l : List PI} {k : ByteArray} (v : Int) (h : hasK l k = false) : (putI l k v).length = l.length + 1 := by rw [putI_new v h, insL_len]
theorem put_len_old {l : List PI} {k : ByteArray} (v : Int) (h : hasK l k = true) : (putI l k v).length = l.length := by rw [putI_old v h, List.length_set]
theorem del_len_old {l : List PI} {k : ByteArray} (h : hasK l k = true) : (delI l k).length + 1 = l.length := by
  have := (hasK_lt h).1
  rw [delI_old h, delL_len l _ this]; omega
theorem del_len_new {l : List PI} {k : ByteArray} (h : hasK l k = false) : (delI l k).length = l.length := by rw [delI_new h]
end Go.Proofs.Ytlcojlcackkhpaa
/- table: TableMany: names of numbers; what is there -/
namespace Go.Proofs.Ytlcojlcackkhpaa
set_option linter.unusedVariables false
set_option linter.unusedSimpArgs false
open Go.RowKit
set_option maxRecDepth 100000
set_option maxHeartbeats 4000000
def nmL (n : Nat) : List UInt8 := [UInt8.ofNat (97 + n / 256), UInt8.ofNat (97 + n / 16 % 16), UInt8.ofNat (97 + n % 16)]
def nm (n : Nat) : ByteArray := strOf (nmL n)
theorem u8n (x : Nat) (h : x < 256) : (UInt8.ofNat x).toNat = x := by simp [UInt8.toNat_ofNat']; omega
theorem nm_lt {a b : Nat} (ha : a < 4096) (hb : b < 4096) : cmpS (nm a) (nm b) < 0 ↔ a < b := by
  have e : cmpS (nm a) (nm b) = Lib.compareBytes (nmL a) (nmL b) := by unfold cmpS nm strOf; rfl
  rw [e]
  unfold nmL
  simp only [cb_cons, u8_lt]
  rw [u8n _ (by omega), u8n _ (by omega), u8n _ (by omega), u8n _ (by omega), u8n _ (by omega), u8n _ (by omega)]
  have hz : Lib.compareBytes [] [] = 0 := by simp [Lib.compareBytes]
  rw [hz]
  constructor
  · intro h
    split at h
    · omega
    · split at h
      · omega
      · split at h
        · omega
        · split at h
          · omega
          · split at h
            · omega
            · split at h
              · omega
              · omega
  · intro h
    split
    · omega
    · split
      · omega
      · split
        · omega
        · split
          · omega
          · split
            · omega
            · split
              · omega
              · omega
theorem nm_inj {a b : Nat} (ha : a < 4096) (hb : b < 4096) (h : nm a = nm b) : a = b := by
  rcases Nat.lt_trichotomy a b with h1 | h1 | h1
  · have := (nm_lt ha hb).2 h1
    rw [h, cmpS_self] at this; omega
  · exact h1
  · have := (nm_lt hb ha).2 h1
    rw [h, cmpS_self] at this; omega
theorem nm_ne (a : Nat) : nm a ≠ noT := fun h => by
  have := congrArg ByteArray.size h
  simp [nm, strOf, nmL, ByteArray.size] at this
/-- what is there is what is told -/
structure Many (n : Nat) (has : List Bool) (l : List PI) : Prop where
  asc : Asc l
  len : has.length = n
  small : n ≤ 4000
  mem : ∀ q, q ∈ l ↔ ∃ k : Nat, k < n ∧ has.getD k false = true ∧ q = (nm k, (k : Int))
theorem Many.at_ {n : Nat} {has : List Bool} {l : List PI} (h : Many n has l) {j : Nat} (hj : j < l.length) : ∃ k : Nat, k < n ∧ has.getD k false = true ∧ l.getD j zI = (nm k, (k : Int)) := (h.mem _).1 (getD_mem l hj)
theorem Many.has_ {n : Nat} {has : List Bool} {l : List PI} (h : Many n has l) {k : Nat} (hk : k < n) : hasK l (nm k) = has.getD k false := by
  have hs := h.small
  cases hb : has.getD k false with
  | true => exact (has_mem h.asc ((h.mem _).2 ⟨k, hk, hb, rfl⟩)).1
  | false =>
    cases hh : hasK l (nm k) with
    | false => rfl
    | true =>
      obtain ⟨v, hv⟩ := (has_iff h.asc _).1 hh
      obtain ⟨k2, h1, h2, h3⟩ := (h.mem _).1 hv
      have := nm_inj (by omega) (by omega) (congrArg Prod.fst h3)
      subst this
      rw [h2] at hb; cases hb
theorem Many.get_ {n : Nat} {has : List Bool} {l : List PI} (h : Many n has l) {k : Nat} (hk : k < n) (hb : has.getD k false = true) : getI l (nm k) = k := (has_mem h.asc ((h.mem _).2 ⟨k, hk, hb, rfl⟩)).2
theorem getD_set (has : List Bool) (k j : Nat) (b : Bool) (hk : k < has.length) : (has.set k b).getD j false = if j = k then b else has.getD j false := by
  rw [List.getD_eq_getElem?_getD, List.getElem?_set]
  by_cases h : j = k
  · subst h; simp [hk]
  · rw [if_neg (fun e => h e.symm), if_neg h, ← List.getD_eq_getElem?_getD]
theorem Many.put {n : Nat} {has : List Bool} {l : List PI} (h : Many n has l) {k : Nat} (hk : k < n) : Many n (has.set k true) (putI l (nm k) k) := ⟨asc_put h.asc _ _, by rw [List.length_set]; exact h.len, h.small, fun q => by
  have hs := h.small
  have hlen := h.len
  rw [put_iff h.asc]
  constructor
  · rintro (rfl | ⟨hq, hne⟩)
    · exact ⟨k, hk, by rw [getD_set _ _ _ _ (by omega), if_pos rfl], rfl⟩
    · obtain ⟨j, h1, h2, rfl⟩ := (h.mem q).1 hq
      exact ⟨j, h1, by rw [getD_set _ _ _ _ (by omega), if_neg (fun e => hne (by rw [e]))]; exact h2, rfl⟩
  · rintro ⟨j, h1, h2, rfl⟩
    by_cases e : j = k
    · subst e; exact .inl rfl
    · rw [getD_set _ _ _ _ (by omega), if_neg e] at h2
      exact .inr ⟨(h.mem _).2 ⟨j, h1, h2, rfl⟩, fun e2 => e (nm_inj (by omega) (by omega) e2)⟩⟩
theorem Many.del {n : Nat} {has : List Bool} {l : List PI} (h : Many n has l) {k : Nat} (hk : k < n) : Many n (has.set k false) (delI l (nm k)) := ⟨asc_del h.asc _, by rw [List.length_set]; exact h.len, h.small, fun q => by
  have hs := h.small
  have hlen := h.len
  rw [del_iff h.asc]
  constructor
  · rintro ⟨hq, hne⟩
    obtain ⟨j, h1, h2, rfl⟩ := (h.mem q).1 hq
    exact ⟨j, h1, by rw [getD_set _ _ _ _ (by omega), if_neg (fun e => hne (by rw [e]))]; exact h2, rfl⟩
  · rintro ⟨j, h1, h2, rfl⟩
    rw [getD_set _ _ _ _ (by omega)] at h2
    split at h2
    · cases h2
    · rename_i e
      exact ⟨(h.mem _).2 ⟨j, h1, h2, rfl⟩, fun e2 => e (nm_inj (by omega) (by omega) e2)⟩⟩
/-- the numbers below k stand ahead of r, the others from r on -/
structure Cut (l : List PI) (r : Nat) (k : Int) : Prop where
  le : r ≤ l.length
  lo : ∀ j, j < r → (l.getD j zI).2 < k
  hi : ∀ j, r ≤ j → j < l.length → k ≤ (l.getD j zI).2
theorem Many.rise {n : Nat} {has : List Bool} {l : List PI} (h : Many n has l) {i j : Nat} (hij : i < j) (hj : j < l.length) : (l.getD i zI).2 < (l.getD j zI).2 := by
  have hs := h.small
  obtain ⟨a, a1, _, ea⟩ := h.at_ (show i < l.length by omega)
  obtain ⟨b, b1, _, eb⟩ := h.at_ hj
  have := asc_lt h.asc hij hj
  rw [ea, eb] at this ⊢
  have := (nm_lt (by omega) (by omega)).1 this
  show (a : Int) < b
  omega
/-- a number that is there stands next -/
theorem Many.next {n : Nat} {has : List Bool} {l : List PI} (h : Many n has l) {r k : Nat} (hc : Cut l r k) (hk : k < n) (hb : has.getD k false = true) : r < l.length ∧ l.getD r zI = (nm k, (k : Int)) ∧ Cut l (r + 1) (k + 1) := by
  have hm := (h.mem (nm k, (k : Int))).2 ⟨k, hk, hb, rfl⟩
  obtain ⟨j, hj, he⟩ := List.mem_iff_getElem.1 hm
  rw [← getD_at l hj] at he
  have hrj : r ≤ j := by
    rcases Nat.lt_or_ge j r with h1 | h1
    · have := hc.lo j h1
      rw [he] at this
      exact absurd this (by show ¬ (k : Int) < k; omega)
    · exact h1
  have hr : r = j := by
    rcases Nat.eq_or_lt_of_le hrj with h1 | h1
    · exact h1
    · have h2 := hc.hi r (Nat.le_refl _) (by omega)
      have h3 := h.rise h1 hj
      rw [he] at h3
      have h3 : (l.getD r zI).2 < (k : Int) := h3
      omega
  subst hr
  refine ⟨hj, he, ⟨hj, fun q hq => ?_, fun q h1 h2 => ?_⟩⟩
  · rcases Nat.lt_or_ge q r with h3 | h3
    · have := hc.lo q h3; omega
    · obtain rfl : q = r := by omega
      rw [he]; show (k : Int) < k + 1; omega
  · have h3 := h.rise (show r < q by omega) h2
    rw [he] at h3
    have h3 : (k : Int) < (l.getD q zI).2 := h3
    omega
/-- one that is not there is stepped over -/
theorem Many.skip {n : Nat} {has : List Bool} {l : List PI} (h : Many n has l) {r k : Nat} (hc : Cut l r k) (hb : has.getD k false = false) : Cut l r (k + 1) := ⟨hc.le, fun j hj => by have := hc.lo j hj; omega, fun j h1 h2 => by
  have h3 := hc.hi j h1 h2
  obtain ⟨a, a1, a2, ea⟩ := h.at_ h2
  rw [ea] at h3 ⊢
  have h3 : (k : Int) ≤ a := h3
  show (k : Int) + 1 ≤ a
  have : k ≠ a := fun e => by subst e; rw [a2] at hb; cases hb
  omega⟩
theorem past_nm {n : Nat} {has : List Bool} {l : List PI} (h : Many n has l) {j to : Nat} (hj : j < l.length) (ht : to < 4096) : past (nm to) (l.getD j zI).1 = decide ((to : Int) < (l.getD j zI).2) := by
  have hs := h.small
  obtain ⟨a, a1, _, ea⟩ := h.at_ hj
  rw [ea]
  unfold past
  rw [gt_cmp]
  have h1 : neB (nm to) noT = true := by
    unfold neB
    refine decide_eq_true fun e => nm_ne to ?_
    have := same_cmp (nm to) noT
    rw [decide_eq_true e] at this
    exact cmpS_zero.1 (of_decide_eq_true this.symm)
  rw [h1, Bool.true_and]
  show decide (cmpS (nm to) (nm a) < 0) = decide ((to : Int) < (a : Int))
  by_cases h2 : to < a
  · rw [decide_eq_true ((nm_lt ht (by omega)).2 h2), decide_eq_true (show (to : Int) < a by omega)]
  · rw [decide_eq_false (fun e => h2 ((nm_lt ht (by omega)).1 e)), decide_eq_false (show ¬ (to : Int) < a by omega)]
theorem Many.cut0 {n : Nat} {has : List Bool} {l : List PI} (h : Many n has l) {fr : Nat} (hf : fr < n) : Cut l (plc l (nm fr)) fr := by
  have hs := h.small
  have key : ∀ j, j < l.length → ((l.getD j zI).2 < (fr : Int) ↔ j < plc l (nm fr)) := fun j hj => by
    obtain ⟨a, a1, _, ea⟩ := h.at_ hj
    rw [← plc_iff h.asc (nm fr) zI j hj, ea]
    show (a : Int) < fr ↔ cmpS (nm a) (nm fr) < 0
    rw [nm_lt (by omega) (by omega)]
    omega
  refine ⟨plc_le _ _, fun j hj => (key j (by have := plc_le l (nm fr); omega)).2 hj, fun j h1 h2 => ?_⟩
  have := key j h2
  omega
end Go.Proofs.Ytlcojlcackkhpaa
/- table: TableMany: name, gone -/
namespace Go.Proofs.Ytlcojlcackkhpaa
set_option linter.unusedVariables false
set_option linter.unusedSimpArgs false
open Go.RowKit
set_option maxRecDepth 100000
set_option maxHeartbeats 4000000
theorem nm_avB (n : Nat) (h : n < 4096) : [AV.raw (.int .u8 (97 + ((n / 256 : Nat) : Int))), .raw (.int .u8 (97 + ((n / 16 % 16 : Nat) : Int))), .raw (.int .u8 (97 + ((n % 16 : Nat) : Int)))] = avB (nmL n) := by
  unfold avB nmL byteV
  simp only [List.map_cons, List.map_nil]
  rw [u8n _ (by omega), u8n _ (by omega), u8n _ (by omega)]
  simp only [Int.natCast_add]
  rfl
theorem name_spec (n : Nat) (h : n < 4096) : Spec Try.prog 44 [.raw (.int .i64 (n : Nat))] [] 0 (σ := Unit) (fun _ => True) (fun _ => .raw (.string (nm n))) (fun _ => []) := by
  refine Spec.of Try.func44 rfl Try.ntmps44 rfl (by simp [AO.Bd, bytesF, AV.bds, AV.bd]) fun ρ w => ?_
  repeat (first | refine C.seq ?_ | refine C.region ?_ | refine R.zb ttok ?_ | refine R.zu ttok ?_ | refine R.zc ttok ?_ | refine R.za ttok ?_ | refine R.zx ?_ | refine R.zl ttok ?_ | refine R.zs ttok ?_ | refine R.z ttok ?_ | refine R.zk ?_ | refine R.zn ?_ | refine R.done ?_ | refine X.then ?_ | refine C.block ?_ | refine C.ret ?_ | refine C.skip ?_ | refine C.exit ?_ | refine X.pass_ret ?_ | refine X.pass_exit ?_ | refine X.block_normal ?_ | refine X.block_ret ?_ | refine X.block_exit ?_ | refine C.zt ?_ | refine C.zf ?_ | refine X.zo ?_)
  refine R.quo ((n / 256 : Nat) : Int) rfl rfl rfl (by kernel_rfl) (by decide) (by rw [show ((n : Nat) : Int).tdiv 256 = ((n / 256 : Nat) : Int) from rfl]; exact wrap_i64 (by omega) (by omega)) ?_
  repeat (first | refine C.seq ?_ | refine C.region ?_ | refine R.zb ttok ?_ | refine R.zu ttok ?_ | refine R.zc ttok ?_ | refine R.za ttok ?_ | refine R.zx ?_ | refine R.zl ttok ?_ | refine R.zs ttok ?_ | refine R.z ttok ?_ | refine R.zk ?_ | refine R.zn ?_ | refine R.done ?_ | refine X.then ?_ | refine C.block ?_ | refine C.ret ?_ | refine C.skip ?_ | refine C.exit ?_ | refine X.pass_ret ?_ | refine X.pass_exit ?_ | refine X.block_normal ?_ | refine X.block_ret ?_ | refine X.block_exit ?_ | refine C.zt ?_ | refine C.zf ?_ | refine X.zo ?_)
  refine R.quo ((n / 16 : Nat) : Int) rfl rfl rfl (by kernel_rfl) (by decide) (by rw [show ((n : Nat) : Int).tdiv 16 = ((n / 16 : Nat) : Int) from rfl]; exact wrap_i64 (by omega) (by omega)) ?_
  repeat (first | refine C.seq ?_ | refine C.region ?_ | refine R.zb ttok ?_ | refine R.zu ttok ?_ | refine R.zc ttok ?_ | refine R.za ttok ?_ | refine R.zx ?_ | refine R.zl ttok ?_ | refine R.zs ttok ?_ | refine R.z ttok ?_ | refine R.zk ?_ | refine R.zn ?_ | refine R.done ?_ | refine X.then ?_ | refine C.block ?_ | refine C.ret ?_ | refine C.skip ?_ | refine C.exit ?_ | refine X.pass_ret ?_ | refine X.pass_exit ?_ | refine X.block_normal ?_ | refine X.block_ret ?_ | refine X.block_exit ?_ | refine C.zt ?_ | refine C.zf ?_ | refine X.zo ?_)
  refine R.rem ((n / 16 % 16 : Nat) : Int) rfl rfl rfl (by kernel_rfl) (by decide) rfl ?_
  repeat (first | refine C.seq ?_ | refine C.region ?_ | refine R.zb ttok ?_ | refine R.zu ttok ?_ | refine R.zc ttok ?_ | refine R.za ttok ?_ | refine R.zx ?_ | refine R.zl ttok ?_ | refine R.zs ttok ?_ | refine R.z ttok ?_ | refine R.zk ?_ | refine R.zn ?_ | refine R.done ?_ | refine X.then ?_ | refine C.block ?_ | refine C.ret ?_ | refine C.skip ?_ | refine C.exit ?_ | refine X.pass_ret ?_ | refine X.pass_exit ?_ | refine X.block_normal ?_ | refine X.block_ret ?_ | refine X.block_exit ?_ | refine C.zt ?_ | refine C.zf ?_ | refine X.zo ?_)
  refine R.rem ((n % 16 : Nat) : Int) rfl rfl rfl (by kernel_rfl) (by decide) rfl ?_
  repeat (first | refine C.seq ?_ | refine C.region ?_ | refine R.zb ttok ?_ | refine R.zu ttok ?_ | refine R.zc ttok ?_ | refine R.za ttok ?_ | refine R.zx ?_ | refine R.zl ttok ?_ | refine R.zs ttok ?_ | refine R.z ttok ?_ | refine R.zk ?_ | refine R.zn ?_ | refine R.done ?_ | refine X.then ?_ | refine C.block ?_ | refine C.ret ?_ | refine C.skip ?_ | refine C.exit ?_ | refine X.pass_ret ?_ | refine X.pass_exit ?_ | refine X.block_normal ?_ | refine X.block_ret ?_ | refine X.block_exit ?_ | refine C.zt ?_ | refine C.zf ?_ | refine X.zo ?_)
  refine R.b2s ttok (nmL n) rfl (SrcA.cells rfl rfl) (nm_avB n h) rfl rfl rfl rfl rfl rfl rfl rfl (by kernel_rfl) ?_
  repeat (first | refine C.seq ?_ | refine C.region ?_ | refine R.zb ttok ?_ | refine R.zu ttok ?_ | refine R.zc ttok ?_ | refine R.za ttok ?_ | refine R.zx ?_ | refine R.zl ttok ?_ | refine R.zs ttok ?_ | refine R.z ttok ?_ | refine R.zk ?_ | refine R.zn ?_ | refine R.done ?_ | refine X.then ?_ | refine C.block ?_ | refine C.ret ?_ | refine C.skip ?_ | refine C.exit ?_ | refine X.pass_ret ?_ | refine X.pass_exit ?_ | refine X.block_normal ?_ | refine X.block_ret ?_ | refine X.block_exit ?_ | refine C.zt ?_ | refine C.zf ?_ | refine X.zo ?_)
  refine X.fin ttok () [] trivial rfl rfl rfl (by repeat (first | exact HasH.nil | refine HasH.same rfl rfl rfl trivial ?_ | refine HasH.same rfl rfl rfl rfl ?_ | refine HasH.same rfl rfl rfl (fun _ _ => rfl) ?_ | refine HasH.ros rfl rfl ?_)) _ (by first | exact .inl rfl | exact .inr rfl)
abbrev roH (l : List Bool) : AO := .ro 1 0 l.length (boF l)
section
variable (l : List PI) (c : Nat) (has : List Bool) (cb : Nat)
theorem go1_spec (at0 k to : Nat) (h1 : at0 ≤ k) (h2 : k ≤ to) (h3 : to < has.length) (h4 : has.length ≤ 4000) (hgap : ∀ j, at0 ≤ j → j < k → has.getD j false = false) (hk : has.getD k false = true) :
    Spec Try.prog 65 [.raw (.string (nm k)), .raw (.int .i64 (k : Nat)), .ptr 0 0 0 0, .ptr 1 0 0 0, .ptr 2 0 0 0, .ptr 3 0 0 0]
    [.cells [.raw (.int .i64 (at0 : Nat))] 3, .cells [.raw (.int .i64 (to : Nat))] 3, .cells [.sl 4 1 0 has.length cb] 63, .cells [.raw (.bool true)] 4, roH has] 5 (σ := Unit) (fun _ => True) (fun _ => .raw (.bool true))
    (fun _ => [(0, .cells [.raw (.int .i64 ((k + 1 : Nat) : Int))] 3), (1, .cells [.raw (.int .i64 (to : Nat))] 3), (2, .cells [.sl 4 1 0 has.length cb] 63), (3, .cells [.raw (.bool true)] 4)]) := by
  refine Spec.of Try.func65 rfl Try.ntmps65 rfl (by repeat (first | exact bdl_nil _ | refine bdl_cons (fun _ _ => rfl) ?_ | refine bdl_cons trivial ?_ | refine bdl_cons rfl ?_ | refine bdl_cons (rowsF_bd _ _ _ _) ?_ | refine bdl_cons (rowsS_bd _ _ _ _) ?_)) fun ρ w => ?_
  repeat (first | refine C.seq ?_ | refine C.region ?_ | refine R.zb ttok ?_ | refine R.zu ttok ?_ | refine R.zc ttok ?_ | refine R.za ttok ?_ | refine R.zx ?_ | refine R.zl ttok ?_ | refine R.zs ttok ?_ | refine R.z ttok ?_ | refine R.zk ?_ | refine R.zn ?_ | refine R.done ?_ | refine X.then ?_ | refine C.block ?_ | refine C.ret ?_ | refine C.skip ?_ | refine C.exit ?_ | refine X.pass_ret ?_ | refine X.pass_exit ?_ | refine X.block_normal ?_ | refine X.block_ret ?_ | refine X.block_exit ?_ | refine C.zt ?_ | refine C.zf ?_ | refine X.zo ?_)
  refine C.loop (σ := Nat) (L2 := 5) (fun a => at0 ≤ a ∧ a ≤ k) (fun _ => [(0, .raw (.string (nm k))), (1, .raw (.int .i64 (k : Nat))), (2, .ptr 0 0 0 0), (3, .ptr 1 0 0 0), (4, .ptr 2 0 0 0), (5, .ptr 3 0 0 0), (8, .raw (.bool false))])
    (fun a => [(0, .cells [.raw (.int .i64 (a : Nat))] 3), (1, .cells [.raw (.int .i64 (to : Nat))] 3), (2, .cells [.sl 4 1 0 has.length cb] 63), (3, .cells [.raw (.bool true)] 4), (4, roH has)]) _ (fun a => k - a) [] at0 ⟨Nat.le_refl _, h1⟩ rfl (by repeat (first | exact HasT.nil | refine HasT.cons rfl rfl rfl ?_)) (by repeat (first | exact HasH.nil | refine HasH.same rfl rfl rfl trivial ?_ | refine HasH.same rfl rfl rfl rfl ?_ | refine HasH.same rfl rfl rfl (fun _ _ => rfl) ?_ | refine HasH.ros rfl rfl ?_ | refine HasH.rox rfl rfl ?_ | refine HasH.rob rfl rfl ?_)) rfl (fun _ h => h) ?_
  rintro a ⟨a1, a2⟩
  repeat (first | refine C.seq ?_ | refine C.region ?_ | refine R.zb ttok ?_ | refine R.zu ttok ?_ | refine R.zc ttok ?_ | refine R.za ttok ?_ | refine R.zx ?_ | refine R.zl ttok ?_ | refine R.zs ttok ?_ | refine R.z ttok ?_ | refine R.zk ?_ | refine R.zn ?_ | refine R.done ?_ | refine X.then ?_ | refine C.block ?_ | refine C.ret ?_ | refine C.skip ?_ | refine C.exit ?_ | refine X.pass_ret ?_ | refine X.pass_exit ?_ | refine X.block_normal ?_ | refine X.block_ret ?_ | refine X.block_exit ?_ | refine C.zt ?_ | refine C.zf ?_ | refine X.zo ?_)
  rw [decide_eq_true (show (a : Int) ≤ (to : Nat) by omega)]
  repeat (first | refine C.seq ?_ | refine C.region ?_ | refine R.zb ttok ?_ | refine R.zu ttok ?_ | refine R.zc ttok ?_ | refine R.za ttok ?_ | refine R.zx ?_ | refine R.zl ttok ?_ | refine R.zs ttok ?_ | refine R.z ttok ?_ | refine R.zk ?_ | refine R.zn ?_ | refine R.done ?_ | refine X.then ?_ | refine C.block ?_ | refine C.ret ?_ | refine C.skip ?_ | refine C.exit ?_ | refine X.pass_ret ?_ | refine X.pass_exit ?_ | refine X.block_normal ?_ | refine X.block_ret ?_ | refine X.block_exit ?_ | refine C.zt ?_ | refine C.zf ?_ | refine X.zo ?_)
  refine R.ix ttok a rfl rfl rfl rfl rfl (by kernel_rfl) rfl (by omega) (⟨Nat.zero_le _, by omega⟩ : 0 ≤ 0 + a ∧ 0 + a < 0 + has.length) rfl ?_
  repeat (first | refine C.seq ?_ | refine C.region ?_ | refine R.zb ttok ?_ | refine R.zu ttok ?_ | refine R.zc ttok ?_ | refine R.za ttok ?_ | refine R.zx ?_ | refine R.zl ttok ?_ | refine R.zs ttok ?_ | refine R.z ttok ?_ | refine R.zk ?_ | refine R.zn ?_ | refine R.done ?_ | refine X.then ?_ | refine C.block ?_ | refine C.ret ?_ | refine C.skip ?_ | refine C.exit ?_ | refine X.pass_ret ?_ | refine X.pass_exit ?_ | refine X.block_normal ?_ | refine X.block_ret ?_ | refine X.block_exit ?_ | refine C.zt ?_ | refine C.zf ?_ | refine X.zo ?_)
  refine R.ldo (v := .raw (.bool (has.getD a false))) ttok rfl rfl rfl rfl rfl (by kernel_rfl) (by omega) ?_
  rcases Nat.eq_or_lt_of_le a2 with heq | hlt
  · have heq := heq.symm
    subst heq
    rw [hk]
    repeat (first | refine C.seq ?_ | refine C.region ?_ | refine R.zb ttok ?_ | refine R.zu ttok ?_ | refine R.zc ttok ?_ | refine R.za ttok ?_ | refine R.zx ?_ | refine R.zl ttok ?_ | refine R.zs ttok ?_ | refine R.z ttok ?_ | refine R.zk ?_ | refine R.zn ?_ | refine R.done ?_ | refine X.then ?_ | refine C.block ?_ | refine C.ret ?_ | refine C.skip ?_ | refine C.exit ?_ | refine X.pass_ret ?_ | refine X.pass_exit ?_ | refine X.block_normal ?_ | refine X.block_ret ?_ | refine X.block_exit ?_ | refine C.zt ?_ | refine C.zf ?_ | refine X.zo ?_)
    repeat (first | refine C.seq ?_ | refine C.region ?_ | refine R.zb ttok ?_ | refine R.zu ttok ?_ | refine R.zc ttok ?_ | refine R.za ttok ?_ | refine R.zx ?_ | refine R.zl ttok ?_ | refine R.zs ttok ?_ | refine R.z ttok ?_ | refine R.zk ?_ | refine R.zn ?_ | refine R.done ?_ | refine X.then ?_ | refine C.block ?_ | refine C.ret ?_ | refine C.skip ?_ | refine C.exit ?_ | refine X.pass_ret ?_ | refine X.pass_exit ?_ | refine X.block_normal ?_ | refine X.block_ret ?_ | refine X.block_exit ?_ | refine C.zt ?_ | refine C.zf ?_ | refine X.zo ?_)
    rw [decide_eq_true (show (k : Int) ≤ (to : Nat) by omega)]
    repeat (first | refine C.seq ?_ | refine C.region ?_ | refine R.zb ttok ?_ | refine R.zu ttok ?_ | refine R.zc ttok ?_ | refine R.za ttok ?_ | refine R.zx ?_ | refine R.zl ttok ?_ | refine R.zs ttok ?_ | refine R.z ttok ?_ | refine R.zk ?_ | refine R.zn ?_ | refine R.done ?_ | refine X.then ?_ | refine C.block ?_ | refine C.ret ?_ | refine C.skip ?_ | refine C.exit ?_ | refine X.pass_ret ?_ | refine X.pass_exit ?_ | refine X.block_normal ?_ | refine X.block_ret ?_ | refine X.block_exit ?_ | refine C.zt ?_ | refine C.zf ?_ | refine X.zo ?_)
    refine R.cl [] (name_spec k (by omega)) Try.call44 (by repeat (first | exact HasIn.nil | refine HasIn.same rfl rfl ?_ | refine HasIn.bro rfl ?_ | refine HasIn.ror rfl ?_ | refine HasIn.cro rfl rfl ?_)) rfl rfl rfl (fun _ => rfl) rfl (by kernel_rfl) fun _ _ => ?_
    repeat (first | refine C.seq ?_ | refine C.region ?_ | refine R.zb ttok ?_ | refine R.zu ttok ?_ | refine R.zc ttok ?_ | refine R.za ttok ?_ | refine R.zx ?_ | refine R.zl ttok ?_ | refine R.zs ttok ?_ | refine R.z ttok ?_ | refine R.zk ?_ | refine R.zn ?_ | refine R.done ?_ | refine X.then ?_ | refine C.block ?_ | refine C.ret ?_ | refine C.skip ?_ | refine C.exit ?_ | refine X.pass_ret ?_ | refine X.pass_exit ?_ | refine X.block_normal ?_ | refine X.block_ret ?_ | refine X.block_exit ?_ | refine C.zt ?_ | refine C.zf ?_ | refine X.zo ?_)
    rw [decide_eq_true (rfl : (nm k).toList = (nm k).toList)]
    repeat (first | refine C.seq ?_ | refine C.region ?_ | refine R.zb ttok ?_ | refine R.zu ttok ?_ | refine R.zc ttok ?_ | refine R.za ttok ?_ | refine R.zx ?_ | refine R.zl ttok ?_ | refine R.zs ttok ?_ | refine R.z ttok ?_ | refine R.zk ?_ | refine R.zn ?_ | refine R.done ?_ | refine X.then ?_ | refine C.block ?_ | refine C.ret ?_ | refine C.skip ?_ | refine C.exit ?_ | refine X.pass_ret ?_ | refine X.pass_exit ?_ | refine X.block_normal ?_ | refine X.block_ret ?_ | refine X.block_exit ?_ | refine C.zt ?_ | refine C.zf ?_ | refine X.zo ?_)
    rw [decide_eq_true (rfl : (k : Int) = (k : Int))]
    repeat (first | refine C.seq ?_ | refine C.region ?_ | refine R.zb ttok ?_ | refine R.zu ttok ?_ | refine R.zc ttok ?_ | refine R.za ttok ?_ | refine R.zx ?_ | refine R.zl ttok ?_ | refine R.zs ttok ?_ | refine R.z ttok ?_ | refine R.zk ?_ | refine R.zn ?_ | refine R.done ?_ | refine X.then ?_ | refine C.block ?_ | refine C.ret ?_ | refine C.skip ?_ | refine C.exit ?_ | refine X.pass_ret ?_ | refine X.pass_exit ?_ | refine X.block_normal ?_ | refine X.block_ret ?_ | refine X.block_exit ?_ | refine C.zt ?_ | refine C.zf ?_ | refine X.zo ?_)
    refine X.fin ttok () [] trivial rfl rfl rfl (by repeat (first | exact HasH.nil | refine HasH.same rfl rfl rfl trivial ?_ | refine HasH.same rfl rfl rfl rfl ?_ | refine HasH.same rfl rfl rfl (fun _ _ => rfl) ?_ | refine HasH.ros rfl rfl ?_)) _ (by first | exact .inl rfl | exact .inr rfl)
  · rw [hgap a a1 hlt]
    repeat (first | refine C.seq ?_ | refine C.region ?_ | refine R.zb ttok ?_ | refine R.zu ttok ?_ | refine R.zc ttok ?_ | refine R.za ttok ?_ | refine R.zx ?_ | refine R.zl ttok ?_ | refine R.zs ttok ?_ | refine R.z ttok ?_ | refine R.zk ?_ | refine R.zn ?_ | refine R.done ?_ | refine X.then ?_ | refine C.block ?_ | refine C.ret ?_ | refine C.skip ?_ | refine C.exit ?_ | refine X.pass_ret ?_ | refine X.pass_exit ?_ | refine X.block_normal ?_ | refine X.block_ret ?_ | refine X.block_exit ?_ | refine C.zt ?_ | refine C.zf ?_ | refine X.zo ?_)
    exact X.back [] (a + 1) ⟨by omega, by omega⟩ (by omega) rfl (by repeat (first | exact HasT.nil | refine HasT.cons rfl rfl rfl ?_)) (by repeat (first | exact HasH.nil | refine HasH.same rfl rfl rfl trivial ?_ | refine HasH.same rfl rfl rfl rfl ?_ | refine HasH.same rfl rfl rfl (fun _ _ => rfl) ?_ | refine HasH.ros rfl rfl ?_ | refine HasH.rox rfl rfl ?_ | refine HasH.rob rfl rfl ?_)) rfl (fun _ h => h)
theorem Many.ge {n : Nat} {has : List Bool} {l : List PI} (h : Many n has l) : ∀ j, j < l.length → (j : Int) ≤ (l.getD j zI).2
  | 0, hj => by
    obtain ⟨k, _, _, e⟩ := h.at_ hj
    rw [e]; show ((0 : Nat) : Int) ≤ k; omega
  | j + 1, hj => by
    have := h.ge j (by omega)
    have := h.rise (show j < j + 1 by omega) hj
    omega
theorem Many.count {n : Nat} {has : List Bool} {l : List PI} (h : Many n has l) : l.length ≤ n := by
  rcases Nat.eq_zero_or_pos l.length with h0 | h0
  · omega
  · have h1 := h.ge (l.length - 1) (by omega)
    obtain ⟨k, hk, _, e⟩ := h.at_ (show l.length - 1 < l.length by omega)
    rw [e] at h1
    have h1 : ((l.length - 1 : Nat) : Int) ≤ k := h1
    omega
theorem Many.gap {n : Nat} {has : List Bool} {l : List PI} (h : Many n has l) {r k at0 : Nat} (hc : Cut l r at0) (hr : r < l.length) (he : l.getD r zI = (nm k, (k : Int))) : at0 ≤ k ∧ (∀ j, at0 ≤ j → j < k → has.getD j false = false) ∧ Cut l (r + 1) (k + 1 : Nat) := by
  have h1 := hc.hi r (Nat.le_refl _) hr
  rw [he] at h1
  have h1 : (at0 : Int) ≤ k := h1
  refine ⟨by omega, fun j hj hjk => ?_, ⟨hr, fun q hq => ?_, fun q h2 h3 => ?_⟩⟩
  · cases hb : has.getD j false with
    | false => rfl
    | true =>
      have hjn : j < n := by
        rcases Nat.lt_or_ge j n with h4 | h4
        · exact h4
        · rw [List.getD_eq_getElem?_getD, List.getElem?_eq_none (by have := h.len; omega)] at hb; cases hb
      have hm := (h.mem (nm j, (j : Int))).2 ⟨j, hjn, hb, rfl⟩
      obtain ⟨i, hi, he2⟩ := List.mem_iff_getElem.1 hm
      rw [← getD_at l hi] at he2
      rcases Nat.lt_or_ge i r with h4 | h4
      · have := hc.lo i h4
        rw [he2] at this
        exact absurd this (by show ¬ (j : Int) < at0; omega)
      · rcases Nat.eq_or_lt_of_le h4 with h5 | h5
        · subst h5
          rw [he] at he2
          have : (k : Int) = j := congrArg Prod.snd he2
          omega
        · have := h.rise h5 hi
          rw [he, he2] at this
          exact absurd this (by show ¬ (k : Int) < j; omega)
  · rcases Nat.lt_or_ge q r with h4 | h4
    · have := hc.lo q h4; omega
    · obtain rfl : q = r := by omega
      rw [he]; show (k : Int) < (k + 1 : Nat); omega
  · have := h.rise (show r < q by omega) h3
    rw [he] at this
    have : (k : Int) < (l.getD q zI).2 := this
    omega
theorem Many.end_ {n : Nat} {has : List Bool} {l : List PI} (h : Many n has l) {r at0 to : Nat} (hc : Cut l r at0) (he : r = l.length ∨ (to : Int) < (l.getD r zI).2) : ∀ j, at0 ≤ j → j ≤ to → has.getD j false = false := fun j hj hjt => by
  cases hb : has.getD j false with
  | false => rfl
  | true =>
    have hjn : j < n := by
      rcases Nat.lt_or_ge j n with h4 | h4
      · exact h4
      · rw [List.getD_eq_getElem?_getD, List.getElem?_eq_none (by have := h.len; omega)] at hb; cases hb
    have hm := (h.mem (nm j, (j : Int))).2 ⟨j, hjn, hb, rfl⟩
    obtain ⟨i, hi, he2⟩ := List.mem_iff_getElem.1 hm
    rw [← getD_at l hi] at he2
    rcases Nat.lt_or_ge i r with h4 | h4
    · have := hc.lo i h4
      rw [he2] at this
      exact absurd this (by show ¬ (j : Int) < at0; omega)
    · rcases he with he | he
      · omega
      · rcases Nat.eq_or_lt_of_le h4 with h5 | h5
        · subst h5
          rw [he2] at he
          exact absurd he (by show ¬ (to : Int) < j; omega)
        · have := h.rise h5 hi
          rw [he2] at this
          have : (l.getD r zI).2 < (j : Int) := this
          omega
theorem rangeGo_spec {n : Nat} (fr to : Nat) (hM : Many n has l) (hft : fr ≤ to) (htn : to < n) :
    Spec Try.prog 51 [.fn 65 [.ptr 3 0 0 0, .ptr 4 0 0 0, .ptr 5 0 0 0, .ptr 6 0 0 0], .ptr 7 0 0 0, .ptr 8 0 0 0, .ptr 9 0 0 0]
    [tbI 1 l.length c, roT l, roH has, .cells [.raw (.int .i64 (fr : Nat))] 3, .cells [.raw (.int .i64 (to : Nat))] 3, .cells [.sl 2 1 0 has.length cb] 63, .cells [.raw (.bool true)] 4, .cells [.ptr 0 0 0 0] 40, .cells [.raw (.string (nm fr))] 9, .cells [.raw (.string (nm to))] 9]
    10 (σ := Nat) (fun a => a ≤ to + 1 ∧ ∀ j, a ≤ j → j ≤ to → has.getD j false = false) (fun _ => .tup [])
    (fun a => [(0, tbI 1 l.length c), (3, .cells [.raw (.int .i64 (a : Nat))] 3), (4, .cells [.raw (.int .i64 (to : Nat))] 3), (5, .cells [.sl 2 1 0 has.length cb] 63), (6, .cells [.raw (.bool true)] 4), (7, .cells [.ptr 0 0 0 0] 40), (8, .cells [.raw (.string (nm fr))] 9), (9, .cells [.raw (.string (nm to))] 9)]) := by
  refine Spec.of Try.func51 rfl Try.ntmps51 rfl (by repeat (first | exact bdl_nil _ | refine bdl_cons (fun _ _ => rfl) ?_ | refine bdl_cons trivial ?_ | refine bdl_cons rfl ?_ | refine bdl_cons (rowsF_bd _ _ _ _) ?_ | refine bdl_cons (rowsS_bd _ _ _ _) ?_)) fun ρ w => ?_
  have hs := hM.small
  have hlen := hM.len
  have hll := hM.count
  repeat (first | refine C.seq ?_ | refine C.region ?_ | refine R.zb ttok ?_ | refine R.zu ttok ?_ | refine R.zc ttok ?_ | refine R.za ttok ?_ | refine R.zx ?_ | refine R.zl ttok ?_ | refine R.zs ttok ?_ | refine R.z ttok ?_ | refine R.zk ?_ | refine R.zn ?_ | refine R.done ?_ | refine X.then ?_ | refine C.block ?_ | refine C.ret ?_ | refine C.skip ?_ | refine C.exit ?_ | refine X.pass_ret ?_ | refine X.pass_exit ?_ | refine X.block_normal ?_ | refine X.block_ret ?_ | refine X.block_exit ?_ | refine C.zt ?_ | refine C.zf ?_ | refine X.zo ?_)
  refine R.cl [0, 1] (findI_spec l c (nm fr) hM.asc (by omega)) Try.call52 (by repeat (first | exact HasIn.nil | refine HasIn.same rfl rfl ?_ | refine HasIn.bro rfl ?_ | refine HasIn.ror rfl ?_ | refine HasIn.cro rfl rfl ?_)) rfl rfl rfl (fun _ => rfl) rfl (by kernel_rfl) fun _ _ => ?_
  repeat (first | refine C.seq ?_ | refine C.region ?_ | refine R.zb ttok ?_ | refine R.zu ttok ?_ | refine R.zc ttok ?_ | refine R.za ttok ?_ | refine R.zx ?_ | refine R.zl ttok ?_ | refine R.zs ttok ?_ | refine R.z ttok ?_ | refine R.zk ?_ | refine R.zn ?_ | refine R.done ?_ | refine X.then ?_ | refine C.block ?_ | refine C.ret ?_ | refine C.skip ?_ | refine C.exit ?_ | refine X.pass_ret ?_ | refine X.pass_exit ?_ | refine X.block_normal ?_ | refine X.block_ret ?_ | refine X.block_exit ?_ | refine C.zt ?_ | refine C.zf ?_ | refine X.zo ?_)
  refine C.loop (σ := Nat × Nat) (L2 := 10) (fun s => Cut l s.1 s.2 ∧ s.2 ≤ to + 1)
    (fun s => [(0, .fn 65 [.ptr 3 0 0 0, .ptr 4 0 0 0, .ptr 5 0 0 0, .ptr 6 0 0 0]), (1, .ptr 7 0 0 0), (2, .ptr 8 0 0 0), (3, .ptr 9 0 0 0), (5, .raw (.int .i64 (s.1 : Nat)))])
    (fun s => [(0, tbI 1 l.length c), (1, roT l), (2, roH has), (3, .cells [.raw (.int .i64 (s.2 : Nat))] 3), (4, .cells [.raw (.int .i64 (to : Nat))] 3), (5, .cells [.sl 2 1 0 has.length cb] 63), (6, .cells [.raw (.bool true)] 4), (7, .cells [.ptr 0 0 0 0] 40), (8, .cells [.raw (.string (nm fr))] 9), (9, .cells [.raw (.string (nm to))] 9)])
    _ (fun s => l.length - s.1) [] (plc l (nm fr), fr) ⟨hM.cut0 (by omega), by dsimp only; omega⟩ rfl (by repeat (first | exact HasT.nil | refine HasT.cons rfl rfl rfl ?_)) (by repeat (first | exact HasH.nil | refine HasH.same rfl rfl rfl trivial ?_ | refine HasH.same rfl rfl rfl rfl ?_ | refine HasH.same rfl rfl rfl (fun _ _ => rfl) ?_ | refine HasH.ros rfl rfl ?_ | refine HasH.rox rfl rfl ?_ | refine HasH.rob rfl rfl ?_)) rfl (fun _ h => h) ?_
  rintro ⟨r, at0⟩ ⟨hc, hat⟩
  dsimp only at hc hat ⊢
  have hrl := hc.le
  repeat (first | refine C.seq ?_ | refine C.region ?_ | refine R.zb ttok ?_ | refine R.zu ttok ?_ | refine R.zc ttok ?_ | refine R.za ttok ?_ | refine R.zx ?_ | refine R.zl ttok ?_ | refine R.zs ttok ?_ | refine R.z ttok ?_ | refine R.zk ?_ | refine R.zn ?_ | refine R.done ?_ | refine X.then ?_ | refine C.block ?_ | refine C.ret ?_ | refine C.skip ?_ | refine C.exit ?_ | refine X.pass_ret ?_ | refine X.pass_exit ?_ | refine X.block_normal ?_ | refine X.block_ret ?_ | refine X.block_exit ?_ | refine C.zt ?_ | refine C.zf ?_ | refine X.zo ?_)
  refine R.cl [0, 1] (lenI_spec l c) Try.call31 (by repeat (first | exact HasIn.nil | refine HasIn.same rfl rfl ?_ | refine HasIn.bro rfl ?_ | refine HasIn.ror rfl ?_ | refine HasIn.cro rfl rfl ?_)) rfl rfl rfl (fun _ => rfl) rfl (by kernel_rfl) fun _ _ => ?_
  repeat (first | refine C.seq ?_ | refine C.region ?_ | refine R.zb ttok ?_ | refine R.zu ttok ?_ | refine R.zc ttok ?_ | refine R.za ttok ?_ | refine R.zx ?_ | refine R.zl ttok ?_ | refine R.zs ttok ?_ | refine R.z ttok ?_ | refine R.zk ?_ | refine R.zn ?_ | refine R.done ?_ | refine X.then ?_ | refine C.block ?_ | refine C.ret ?_ | refine C.skip ?_ | refine C.exit ?_ | refine X.pass_ret ?_ | refine X.pass_exit ?_ | refine X.block_normal ?_ | refine X.block_ret ?_ | refine X.block_exit ?_ | refine C.zt ?_ | refine C.zf ?_ | refine X.zo ?_)
  refine C.dec rfl (fun hi => ?_) (fun hi => ?_)
  · have hi : r < l.length := by omega
    have hpn := past_nm hM hi (show to < 4096 by omega)
    obtain ⟨k, hkn, hkb, hke⟩ := hM.at_ hi
    have hne : neB (nm to) noT = true := by
      unfold neB
      refine decide_eq_true fun e => nm_ne to ?_
      have := same_cmp (nm to) noT
      rw [decide_eq_true e] at this
      exact cmpS_zero.1 (of_decide_eq_true this.symm)
    unfold past at hpn
    rw [hne, Bool.true_and] at hpn
    repeat (first | refine C.seq ?_ | refine C.region ?_ | refine R.zb ttok ?_ | refine R.zu ttok ?_ | refine R.zc ttok ?_ | refine R.za ttok ?_ | refine R.zx ?_ | refine R.zl ttok ?_ | refine R.zs ttok ?_ | refine R.z ttok ?_ | refine R.zk ?_ | refine R.zn ?_ | refine R.done ?_ | refine X.then ?_ | refine C.block ?_ | refine C.ret ?_ | refine C.skip ?_ | refine C.exit ?_ | refine X.pass_ret ?_ | refine X.pass_exit ?_ | refine X.block_normal ?_ | refine X.block_ret ?_ | refine X.block_exit ?_ | refine C.zt ?_ | refine C.zf ?_ | refine X.zo ?_)
    refine R.ix ttok r rfl rfl rfl rfl rfl (by kernel_rfl) rfl hi (⟨Nat.zero_le _, by omega⟩ : 0 ≤ 0 + r ∧ 0 + r < 0 + l.length) rfl ?_
    repeat (first | refine C.seq ?_ | refine C.region ?_ | refine R.zb ttok ?_ | refine R.zu ttok ?_ | refine R.zc ttok ?_ | refine R.za ttok ?_ | refine R.zx ?_ | refine R.zl ttok ?_ | refine R.zs ttok ?_ | refine R.z ttok ?_ | refine R.zk ?_ | refine R.zn ?_ | refine R.done ?_ | refine X.then ?_ | refine C.block ?_ | refine C.ret ?_ | refine C.skip ?_ | refine C.exit ?_ | refine X.pass_ret ?_ | refine X.pass_exit ?_ | refine X.block_normal ?_ | refine X.block_ret ?_ | refine X.block_exit ?_ | refine C.zt ?_ | refine C.zf ?_ | refine X.zo ?_)
    refine R.ldo (v := .agg (piA (l.getD r zI))) ttok rfl rfl rfl rfl rfl (by kernel_rfl) hi ?_
    repeat (first | refine C.seq ?_ | refine C.region ?_ | refine R.zb ttok ?_ | refine R.zu ttok ?_ | refine R.zc ttok ?_ | refine R.za ttok ?_ | refine R.zx ?_ | refine R.zl ttok ?_ | refine R.zs ttok ?_ | refine R.z ttok ?_ | refine R.zk ?_ | refine R.zn ?_ | refine R.done ?_ | refine X.then ?_ | refine C.block ?_ | refine C.ret ?_ | refine C.skip ?_ | refine C.exit ?_ | refine X.pass_ret ?_ | refine X.pass_exit ?_ | refine X.block_normal ?_ | refine X.block_ret ?_ | refine X.block_exit ?_ | refine C.zt ?_ | refine C.zf ?_ | refine X.zo ?_)
    rw [show decide ((nm to).toList ≠ noT.toList) = true from hne]
    repeat (first | refine C.seq ?_ | refine C.region ?_ | refine R.zb ttok ?_ | refine R.zu ttok ?_ | refine R.zc ttok ?_ | refine R.za ttok ?_ | refine R.zx ?_ | refine R.zl ttok ?_ | refine R.zs ttok ?_ | refine R.z ttok ?_ | refine R.zk ?_ | refine R.zn ?_ | refine R.done ?_ | refine X.then ?_ | refine C.block ?_ | refine C.ret ?_ | refine C.skip ?_ | refine C.exit ?_ | refine X.pass_ret ?_ | refine X.pass_exit ?_ | refine X.block_normal ?_ | refine X.block_ret ?_ | refine X.block_exit ?_ | refine C.zt ?_ | refine C.zf ?_ | refine X.zo ?_)
    by_cases hp : (to : Int) < (l.getD r zI).2
    · rw [decide_eq_true hp] at hpn
      rw [show (!(Op.bytesLess (l.getD r zI).1.toList (nm to).toList || decide ((l.getD r zI).1.toList = (nm to).toList))) = true from hpn]
      repeat (first | refine C.seq ?_ | refine C.region ?_ | refine R.zb ttok ?_ | refine R.zu ttok ?_ | refine R.zc ttok ?_ | refine R.za ttok ?_ | refine R.zx ?_ | refine R.zl ttok ?_ | refine R.zs ttok ?_ | refine R.z ttok ?_ | refine R.zk ?_ | refine R.zn ?_ | refine R.done ?_ | refine X.then ?_ | refine C.block ?_ | refine C.ret ?_ | refine C.skip ?_ | refine C.exit ?_ | refine X.pass_ret ?_ | refine X.pass_exit ?_ | refine X.block_normal ?_ | refine X.block_ret ?_ | refine X.block_exit ?_ | refine C.zt ?_ | refine C.zf ?_ | refine X.zo ?_)
      refine X.fin ttok at0 [] ⟨hat, hM.end_ hc (.inr hp)⟩ rfl rfl rfl (by repeat (first | exact HasH.nil | refine HasH.same rfl rfl rfl trivial ?_ | refine HasH.same rfl rfl rfl rfl ?_ | refine HasH.same rfl rfl rfl (fun _ _ => rfl) ?_ | refine HasH.ros rfl rfl ?_ | refine HasH.rox rfl rfl ?_ | refine HasH.rob rfl rfl ?_)) _ (by first | exact .inl rfl | exact .inr rfl)
    · rw [decide_eq_false hp] at hpn
      rw [show (!(Op.bytesLess (l.getD r zI).1.toList (nm to).toList || decide ((l.getD r zI).1.toList = (nm to).toList))) = false from hpn]
      obtain ⟨g1, g2, g3⟩ := hM.gap hc hi hke
      have hkt : k ≤ to := by
        rw [hke] at hp
        have hp : ¬ (to : Int) < k := hp
        omega
      have hab := above_at hM.asc hi
      rw [hke] at hab ⊢
      repeat (first | refine C.seq ?_ | refine C.region ?_ | refine R.zb ttok ?_ | refine R.zu ttok ?_ | refine R.zc ttok ?_ | refine R.za ttok ?_ | refine R.zx ?_ | refine R.zl ttok ?_ | refine R.zs ttok ?_ | refine R.z ttok ?_ | refine R.zk ?_ | refine R.zn ?_ | refine R.done ?_ | refine X.then ?_ | refine C.block ?_ | refine C.ret ?_ | refine C.skip ?_ | refine C.exit ?_ | refine X.pass_ret ?_ | refine X.pass_exit ?_ | refine X.block_normal ?_ | refine X.block_ret ?_ | refine X.block_exit ?_ | refine C.zt ?_ | refine C.zf ?_ | refine X.zo ?_)
      refine R.cl [3, 4, 5, 6, 2] (go1_spec has cb at0 k to g1 hkt (by omega) (by omega) g2 hkb) Try.call65 (by repeat (first | exact HasIn.nil | refine HasIn.same rfl rfl ?_ | refine HasIn.bro rfl ?_ | refine HasIn.ror rfl ?_ | refine HasIn.cro rfl rfl ?_)) rfl rfl rfl (fun _ => rfl) rfl (by kernel_rfl) fun _ _ => ?_
      repeat (first | refine C.seq ?_ | refine C.region ?_ | refine R.zb ttok ?_ | refine R.zu ttok ?_ | refine R.zc ttok ?_ | refine R.za ttok ?_ | refine R.zx ?_ | refine R.zl ttok ?_ | refine R.zs ttok ?_ | refine R.z ttok ?_ | refine R.zk ?_ | refine R.zn ?_ | refine R.done ?_ | refine X.then ?_ | refine C.block ?_ | refine C.ret ?_ | refine C.skip ?_ | refine C.exit ?_ | refine X.pass_ret ?_ | refine X.pass_exit ?_ | refine X.block_normal ?_ | refine X.block_ret ?_ | refine X.block_exit ?_ | refine C.zt ?_ | refine C.zf ?_ | refine X.zo ?_)
      refine R.cl [0, 1] (aboveI_spec l c (nm k) hM.asc (by omega)) Try.call53 (by repeat (first | exact HasIn.nil | refine HasIn.same rfl rfl ?_ | refine HasIn.bro rfl ?_ | refine HasIn.ror rfl ?_ | refine HasIn.cro rfl rfl ?_)) rfl rfl rfl (fun _ => rfl) rfl (by kernel_rfl) fun _ _ => ?_
      rw [hab]
      repeat (first | refine C.seq ?_ | refine C.region ?_ | refine R.zb ttok ?_ | refine R.zu ttok ?_ | refine R.zc ttok ?_ | refine R.za ttok ?_ | refine R.zx ?_ | refine R.zl ttok ?_ | refine R.zs ttok ?_ | refine R.z ttok ?_ | refine R.zk ?_ | refine R.zn ?_ | refine R.done ?_ | refine X.then ?_ | refine C.block ?_ | refine C.ret ?_ | refine C.skip ?_ | refine C.exit ?_ | refine X.pass_ret ?_ | refine X.pass_exit ?_ | refine X.block_normal ?_ | refine X.block_ret ?_ | refine X.block_exit ?_ | refine C.zt ?_ | refine C.zf ?_ | refine X.zo ?_)
      exact X.back [] (r + 1, k + 1) ⟨g3, by dsimp only; omega⟩ (by dsimp only; omega) rfl (by repeat (first | exact HasT.nil | refine HasT.cons rfl rfl rfl ?_)) (by repeat (first | exact HasH.nil | refine HasH.same rfl rfl rfl trivial ?_ | refine HasH.same rfl rfl rfl rfl ?_ | refine HasH.same rfl rfl rfl (fun _ _ => rfl) ?_ | refine HasH.ros rfl rfl ?_ | refine HasH.rox rfl rfl ?_ | refine HasH.rob rfl rfl ?_)) rfl (fun _ h => h)
  · repeat (first | refine C.seq ?_ | refine C.region ?_ | refine R.zb ttok ?_ | refine R.zu ttok ?_ | refine R.zc ttok ?_ | refine R.za ttok ?_ | refine R.zx ?_ | refine R.zl ttok ?_ | refine R.zs ttok ?_ | refine R.z ttok ?_ | refine R.zk ?_ | refine R.zn ?_ | refine R.done ?_ | refine X.then ?_ | refine C.block ?_ | refine C.ret ?_ | refine C.skip ?_ | refine C.exit ?_ | refine X.pass_ret ?_ | refine X.pass_exit ?_ | refine X.block_normal ?_ | refine X.block_ret ?_ | refine X.block_exit ?_ | refine C.zt ?_ | refine C.zf ?_ | refine X.zo ?_)
    refine X.fin ttok at0 [] ⟨hat, hM.end_ hc (.inl (by omega))⟩ rfl rfl rfl (by repeat (first | exact HasH.nil | refine HasH.same rfl rfl rfl trivial ?_ | refine HasH.same rfl rfl rfl rfl ?_ | refine HasH.same rfl rfl rfl (fun _ _ => rfl) ?_ | refine HasH.ros rfl rfl ?_ | refine HasH.rox rfl rfl ?_ | refine HasH.rob rfl rfl ?_)) _ (by first | exact .inl rfl | exact .inr rfl)
theorem gone_spec {n : Nat} (fr to : Nat) (hM : Many n has l) (hft : fr ≤ to) (htn : to < n) :
    Spec Try.prog 45 [.ptr 0 0 0 0, .sl 2 1 0 has.length cb, .raw (.int .i64 (fr : Nat)), .raw (.int .i64 (to : Nat))] [tbI 1 l.length c, roT l, roH has] 3 (σ := Unit) (fun _ => True) (fun _ => .raw (.bool true)) (fun _ => [(0, tbI 1 l.length c)]) := by
  refine Spec.of Try.func45 rfl Try.ntmps45 rfl (by repeat (first | exact bdl_nil _ | refine bdl_cons (fun _ _ => rfl) ?_ | refine bdl_cons trivial ?_ | refine bdl_cons rfl ?_ | refine bdl_cons (rowsF_bd _ _ _ _) ?_ | refine bdl_cons (rowsS_bd _ _ _ _) ?_)) fun ρ w => ?_
  have hs := hM.small
  have hlen := hM.len
  repeat (first | refine C.seq ?_ | refine C.region ?_ | refine R.zb ttok ?_ | refine R.zu ttok ?_ | refine R.zc ttok ?_ | refine R.za ttok ?_ | refine R.zx ?_ | refine R.zl ttok ?_ | refine R.zs ttok ?_ | refine R.z ttok ?_ | refine R.zk ?_ | refine R.zn ?_ | refine R.done ?_ | refine X.then ?_ | refine C.block ?_ | refine C.ret ?_ | refine C.skip ?_ | refine C.exit ?_ | refine X.pass_ret ?_ | refine X.pass_exit ?_ | refine X.block_normal ?_ | refine X.block_ret ?_ | refine X.block_exit ?_ | refine C.zt ?_ | refine C.zf ?_ | refine X.zo ?_)
  refine C.draw [[], [], [1], [], [1, 2, 3], [0, 1, 2, 3, 4], [0, 1, 2, 3, 4, 5]] [2, 4, 5] (by kernel_rfl) (by kernel_rfl) ?_
  repeat (first | refine C.seq ?_ | refine C.region ?_ | refine R.zb ttok ?_ | refine R.zu ttok ?_ | refine R.zc ttok ?_ | refine R.za ttok ?_ | refine R.zx ?_ | refine R.zl ttok ?_ | refine R.zs ttok ?_ | refine R.z ttok ?_ | refine R.zk ?_ | refine R.zn ?_ | refine R.done ?_ | refine X.then ?_ | refine C.block ?_ | refine C.ret ?_ | refine C.skip ?_ | refine C.exit ?_ | refine X.pass_ret ?_ | refine X.pass_exit ?_ | refine X.block_normal ?_ | refine X.block_ret ?_ | refine X.block_exit ?_ | refine C.zt ?_ | refine C.zf ?_ | refine X.zo ?_)
  refine R.cl [] (name_spec fr (by omega)) Try.call44 (by repeat (first | exact HasIn.nil | refine HasIn.same rfl rfl ?_ | refine HasIn.bro rfl ?_ | refine HasIn.ror rfl ?_ | refine HasIn.cro rfl rfl ?_)) rfl rfl rfl (fun _ => rfl) rfl (by kernel_rfl) fun _ _ => ?_
  repeat (first | refine C.seq ?_ | refine C.region ?_ | refine R.zb ttok ?_ | refine R.zu ttok ?_ | refine R.zc ttok ?_ | refine R.za ttok ?_ | refine R.zx ?_ | refine R.zl ttok ?_ | refine R.zs ttok ?_ | refine R.z ttok ?_ | refine R.zk ?_ | refine R.zn ?_ | refine R.done ?_ | refine X.then ?_ | refine C.block ?_ | refine C.ret ?_ | refine C.skip ?_ | refine C.exit ?_ | refine X.pass_ret ?_ | refine X.pass_exit ?_ | refine X.block_normal ?_ | refine X.block_ret ?_ | refine X.block_exit ?_ | refine C.zt ?_ | refine C.zf ?_ | refine X.zo ?_)
  refine R.cl [] (name_spec to (by omega)) Try.call44 (by repeat (first | exact HasIn.nil | refine HasIn.same rfl rfl ?_ | refine HasIn.bro rfl ?_ | refine HasIn.ror rfl ?_ | refine HasIn.cro rfl rfl ?_)) rfl rfl rfl (fun _ => rfl) rfl (by kernel_rfl) fun _ _ => ?_
  repeat (first | refine C.seq ?_ | refine C.region ?_ | refine R.zb ttok ?_ | refine R.zu ttok ?_ | refine R.zc ttok ?_ | refine R.za ttok ?_ | refine R.zx ?_ | refine R.zl ttok ?_ | refine R.zs ttok ?_ | refine R.z ttok ?_ | refine R.zk ?_ | refine R.zn ?_ | refine R.done ?_ | refine X.then ?_ | refine C.block ?_ | refine C.ret ?_ | refine C.skip ?_ | refine C.exit ?_ | refine X.pass_ret ?_ | refine X.pass_exit ?_ | refine X.block_normal ?_ | refine X.block_ret ?_ | refine X.block_exit ?_ | refine C.zt ?_ | refine C.zf ?_ | refine X.zo ?_)
  refine R.cl [0] (rangeI_spec (nm fr) (nm to)) Try.call24 (.any rfl .nil) rfl rfl rfl (fun _ => rfl) rfl (by kernel_rfl) fun _ _ => ?_
  repeat (first | refine C.seq ?_ | refine C.region ?_ | refine R.zb ttok ?_ | refine R.zu ttok ?_ | refine R.zc ttok ?_ | refine R.za ttok ?_ | refine R.zx ?_ | refine R.zl ttok ?_ | refine R.zs ttok ?_ | refine R.z ttok ?_ | refine R.zk ?_ | refine R.zn ?_ | refine R.done ?_ | refine X.then ?_ | refine C.block ?_ | refine C.ret ?_ | refine C.skip ?_ | refine C.exit ?_ | refine X.pass_ret ?_ | refine X.pass_exit ?_ | refine X.block_normal ?_ | refine X.block_ret ?_ | refine X.block_exit ?_ | refine C.zt ?_ | refine C.zf ?_ | refine X.zo ?_)
  refine R.cl [0, 1, 2, 6, 4, 3, 5, 7, 8, 9] (rangeGo_spec l c has cb fr to hM hft htn) Try.call51 (by repeat (first | exact HasIn.nil | refine HasIn.same rfl rfl ?_ | refine HasIn.bro rfl ?_ | refine HasIn.ror rfl ?_ | refine HasIn.cro rfl rfl ?_)) rfl rfl rfl (fun _ => rfl) rfl (by kernel_rfl) fun a ha => ?_
  repeat (first | refine C.seq ?_ | refine C.region ?_ | refine R.zb ttok ?_ | refine R.zu ttok ?_ | refine R.zc ttok ?_ | refine R.za ttok ?_ | refine R.zx ?_ | refine R.zl ttok ?_ | refine R.zs ttok ?_ | refine R.z ttok ?_ | refine R.zk ?_ | refine R.zn ?_ | refine R.done ?_ | refine X.then ?_ | refine C.block ?_ | refine C.ret ?_ | refine C.skip ?_ | refine C.exit ?_ | refine X.pass_ret ?_ | refine X.pass_exit ?_ | refine X.block_normal ?_ | refine X.block_ret ?_ | refine X.block_exit ?_ | refine C.zt ?_ | refine C.zf ?_ | refine X.zo ?_)
  refine C.loop (σ := Nat) (L2 := 10) (fun a => a ≤ to + 1 ∧ ∀ j, a ≤ j → j ≤ to → has.getD j false = false) (fun _ => [(5, .ptr 3 0 0 0), (7, .ptr 4 0 0 0), (8, .raw (.bool false)), (9, .ptr 5 0 0 0), (10, .ptr 6 0 0 0)])
    (fun a => [(0, tbI 1 l.length c), (2, roH has), (3, .cells [.sl 2 1 0 has.length cb] 63), (4, .cells [.raw (.int .i64 (to : Nat))] 3), (5, .cells [.raw (.bool true)] 4), (6, .cells [.raw (.int .i64 (a : Nat))] 3)])
    _ (fun a => to + 1 - a) [] a ha rfl (by repeat (first | exact HasT.nil | refine HasT.cons rfl rfl rfl ?_)) (by repeat (first | exact HasH.nil | refine HasH.same rfl rfl rfl trivial ?_ | refine HasH.same rfl rfl rfl rfl ?_ | refine HasH.same rfl rfl rfl (fun _ _ => rfl) ?_ | refine HasH.ros rfl rfl ?_ | refine HasH.rox rfl rfl ?_ | refine HasH.rob rfl rfl ?_)) rfl (fun _ h => h) ?_
  rintro b ⟨b1, b2⟩
  repeat (first | refine C.seq ?_ | refine C.region ?_ | refine R.zb ttok ?_ | refine R.zu ttok ?_ | refine R.zc ttok ?_ | refine R.za ttok ?_ | refine R.zx ?_ | refine R.zl ttok ?_ | refine R.zs ttok ?_ | refine R.z ttok ?_ | refine R.zk ?_ | refine R.zn ?_ | refine R.done ?_ | refine X.then ?_ | refine C.block ?_ | refine C.ret ?_ | refine C.skip ?_ | refine C.exit ?_ | refine X.pass_ret ?_ | refine X.pass_exit ?_ | refine X.block_normal ?_ | refine X.block_ret ?_ | refine X.block_exit ?_ | refine C.zt ?_ | refine C.zf ?_ | refine X.zo ?_)
  by_cases hb : (b : Int) ≤ (to : Nat)
  · rw [decide_eq_true hb]
    repeat (first | refine C.seq ?_ | refine C.region ?_ | refine R.zb ttok ?_ | refine R.zu ttok ?_ | refine R.zc ttok ?_ | refine R.za ttok ?_ | refine R.zx ?_ | refine R.zl ttok ?_ | refine R.zs ttok ?_ | refine R.z ttok ?_ | refine R.zk ?_ | refine R.zn ?_ | refine R.done ?_ | refine X.then ?_ | refine C.block ?_ | refine C.ret ?_ | refine C.skip ?_ | refine C.exit ?_ | refine X.pass_ret ?_ | refine X.pass_exit ?_ | refine X.block_normal ?_ | refine X.block_ret ?_ | refine X.block_exit ?_ | refine C.zt ?_ | refine C.zf ?_ | refine X.zo ?_)
    refine R.ix ttok b rfl rfl rfl rfl rfl (by kernel_rfl) rfl (by omega) (⟨Nat.zero_le _, by omega⟩ : 0 ≤ 0 + b ∧ 0 + b < 0 + has.length) rfl ?_
    repeat (first | refine C.seq ?_ | refine C.region ?_ | refine R.zb ttok ?_ | refine R.zu ttok ?_ | refine R.zc ttok ?_ | refine R.za ttok ?_ | refine R.zx ?_ | refine R.zl ttok ?_ | refine R.zs ttok ?_ | refine R.z ttok ?_ | refine R.zk ?_ | refine R.zn ?_ | refine R.done ?_ | refine X.then ?_ | refine C.block ?_ | refine C.ret ?_ | refine C.skip ?_ | refine C.exit ?_ | refine X.pass_ret ?_ | refine X.pass_exit ?_ | refine X.block_normal ?_ | refine X.block_ret ?_ | refine X.block_exit ?_ | refine C.zt ?_ | refine C.zf ?_ | refine X.zo ?_)
    refine R.ldo (v := .raw (.bool (has.getD b false))) ttok rfl rfl rfl rfl rfl (by kernel_rfl) (by omega) ?_
    rw [b2 b (Nat.le_refl _) (by omega)]
    repeat (first | refine C.seq ?_ | refine C.region ?_ | refine R.zb ttok ?_ | refine R.zu ttok ?_ | refine R.zc ttok ?_ | refine R.za ttok ?_ | refine R.zx ?_ | refine R.zl ttok ?_ | refine R.zs ttok ?_ | refine R.z ttok ?_ | refine R.zk ?_ | refine R.zn ?_ | refine R.done ?_ | refine X.then ?_ | refine C.block ?_ | refine C.ret ?_ | refine C.skip ?_ | refine C.exit ?_ | refine X.pass_ret ?_ | refine X.pass_exit ?_ | refine X.block_normal ?_ | refine X.block_ret ?_ | refine X.block_exit ?_ | refine C.zt ?_ | refine C.zf ?_ | refine X.zo ?_)
    exact X.back [] (b + 1) ⟨by omega, fun j h1 h2 => b2 j (by omega) h2⟩ (by omega) rfl (by repeat (first | exact HasT.nil | refine HasT.cons rfl rfl rfl ?_)) (by repeat (first | exact HasH.nil | refine HasH.same rfl rfl rfl trivial ?_ | refine HasH.same rfl rfl rfl rfl ?_ | refine HasH.same rfl rfl rfl (fun _ _ => rfl) ?_ | refine HasH.ros rfl rfl ?_ | refine HasH.rox rfl rfl ?_ | refine HasH.rob rfl rfl ?_)) rfl (fun _ h => h)
  · rw [decide_eq_false hb]
    repeat (first | refine C.seq ?_ | refine C.region ?_ | refine R.zb ttok ?_ | refine R.zu ttok ?_ | refine R.zc ttok ?_ | refine R.za ttok ?_ | refine R.zx ?_ | refine R.zl ttok ?_ | refine R.zs ttok ?_ | refine R.z ttok ?_ | refine R.zk ?_ | refine R.zn ?_ | refine R.done ?_ | refine X.then ?_ | refine C.block ?_ | refine C.ret ?_ | refine C.skip ?_ | refine C.exit ?_ | refine X.pass_ret ?_ | refine X.pass_exit ?_ | refine X.block_normal ?_ | refine X.block_ret ?_ | refine X.block_exit ?_ | refine C.zt ?_ | refine C.zf ?_ | refine X.zo ?_)
    rw [decide_eq_true (show (b : Int) = (to : Nat) + 1 by omega)]
    repeat (first | refine C.seq ?_ | refine C.region ?_ | refine R.zb ttok ?_ | refine R.zu ttok ?_ | refine R.zc ttok ?_ | refine R.za ttok ?_ | refine R.zx ?_ | refine R.zl ttok ?_ | refine R.zs ttok ?_ | refine R.z ttok ?_ | refine R.zk ?_ | refine R.zn ?_ | refine R.done ?_ | refine X.then ?_ | refine C.block ?_ | refine C.ret ?_ | refine C.skip ?_ | refine C.exit ?_ | refine X.pass_ret ?_ | refine X.pass_exit ?_ | refine X.block_normal ?_ | refine X.block_ret ?_ | refine X.block_exit ?_ | refine C.zt ?_ | refine C.zf ?_ | refine X.zo ?_)
    refine X.fin ttok () [] trivial rfl rfl rfl (by repeat (first | exact HasH.nil | refine HasH.same rfl rfl rfl trivial ?_ | refine HasH.same rfl rfl rfl rfl ?_ | refine HasH.same rfl rfl rfl (fun _ _ => rfl) ?_ | refine HasH.ros rfl rfl ?_)) _ (by first | exact .inl rfl | exact .inr rfl)
end
end Go.Proofs.Ytlcojlcackkhpaa
/- table: TableMany -/
namespace Go.Proofs.Ytlcojlcackkhpaa
set_option linter.unusedVariables false
set_option linter.unusedSimpArgs false
open Go.RowKit
set_option maxRecDepth 100000
set_option maxHeartbeats 8000000
theorem upd_bo (has : List Bool) (k : Nat) (b : Bool) (hk : k < has.length) : updF (boF has) k [.raw (.bool b)] = boF (has.set k b) := by
  funext j
  unfold updF boF
  rw [getD_set _ _ _ _ hk]
  by_cases h : j = k
  · rw [if_pos h, if_pos h]
  · rw [if_neg h, if_neg h]
theorem many0 (n : Nat) (hn : n ≤ 4000) : Many n (List.replicate n false) [] := ⟨List.Pairwise.nil, List.length_replicate, hn, fun q => by
  constructor
  · intro h; cases h
  · rintro ⟨k, h1, h2, _⟩
    rw [List.getD_eq_getElem?_getD, List.getElem?_replicate] at h2
    split at h2 <;> simp at h2⟩
theorem Many.nn {n : Nat} {has : List Bool} {l : List PI} (h : Many n has l) : 0 < l.length → (l.getD 0 zI).1 ≠ noT := fun h0 => by
  obtain ⟨k, _, _, e⟩ := h.at_ h0
  rw [e]; exact nm_ne k
section
variable (l : List PI) (c : Nat) (has : List Bool)
abbrev tBo (n : Nat) (has : List Bool) : AO := .tab 1 n n (boF has) 4
theorem tableMany_law (n stride every fr to : Int) (hn1 : n ≤ 9223372036854775807) (hst : stride ≤ 9223372036854775807) (hev : every ≤ 9223372036854775807) (hto : to ≤ 9223372036854775807) :
    Spec Try.prog 12 [.raw (.int .i64 n), .raw (.int .i64 stride), .raw (.int .i64 every), .raw (.int .i64 fr), .raw (.int .i64 to)] [] 0 (σ := Unit) (fun _ => True) (fun _ => .raw (.bool true)) (fun _ => []) := by
  refine Spec.of Try.func12 rfl Try.ntmps12 rfl (by simp [AO.Bd, bytesF, AV.bds, AV.bd]) fun ρ w => ?_
  repeat (first | refine C.seq ?_ | refine C.region ?_ | refine R.zb ttok ?_ | refine R.zu ttok ?_ | refine R.zc ttok ?_ | refine R.za ttok ?_ | refine R.zx ?_ | refine R.zl ttok ?_ | refine R.zs ttok ?_ | refine R.z ttok ?_ | refine R.zk ?_ | refine R.zn ?_ | refine R.done ?_ | refine X.then ?_ | refine C.block ?_ | refine C.ret ?_ | refine C.skip ?_ | refine C.exit ?_ | refine X.pass_ret ?_ | refine X.pass_exit ?_ | refine X.block_normal ?_ | refine X.block_ret ?_ | refine X.block_exit ?_ | refine C.zt ?_ | refine C.zf ?_ | refine X.zo ?_)
  by_cases g1 : n < 1
  · rw [decide_eq_true g1]
    repeat (first | refine C.seq ?_ | refine C.region ?_ | refine R.zb ttok ?_ | refine R.zu ttok ?_ | refine R.zc ttok ?_ | refine R.za ttok ?_ | refine R.zx ?_ | refine R.zl ttok ?_ | refine R.zs ttok ?_ | refine R.z ttok ?_ | refine R.zk ?_ | refine R.zn ?_ | refine R.done ?_ | refine X.then ?_ | refine C.block ?_ | refine C.ret ?_ | refine C.skip ?_ | refine C.exit ?_ | refine X.pass_ret ?_ | refine X.pass_exit ?_ | refine X.block_normal ?_ | refine X.block_ret ?_ | refine X.block_exit ?_ | refine C.zt ?_ | refine C.zf ?_ | refine X.zo ?_)
    refine R.cl [] (known_spec) Try.call21 (by repeat (first | exact HasIn.nil | refine HasIn.same rfl rfl ?_ | refine HasIn.bro rfl ?_ | refine HasIn.ror rfl ?_ | refine HasIn.cro rfl rfl ?_)) rfl rfl rfl (fun _ => rfl) rfl (by kernel_rfl) fun _ _ => ?_
    repeat (first | refine C.seq ?_ | refine C.region ?_ | refine R.zb ttok ?_ | refine R.zu ttok ?_ | refine R.zc ttok ?_ | refine R.za ttok ?_ | refine R.zx ?_ | refine R.zl ttok ?_ | refine R.zs ttok ?_ | refine R.z ttok ?_ | refine R.zk ?_ | refine R.zn ?_ | refine R.done ?_ | refine X.then ?_ | refine C.block ?_ | refine C.ret ?_ | refine C.skip ?_ | refine C.exit ?_ | refine X.pass_ret ?_ | refine X.pass_exit ?_ | refine X.block_normal ?_ | refine X.block_ret ?_ | refine X.block_exit ?_ | refine C.zt ?_ | refine C.zf ?_ | refine X.zo ?_)
    refine X.fin ttok () [] trivial rfl rfl rfl (by repeat (first | exact HasH.nil | refine HasH.same rfl rfl rfl trivial ?_ | refine HasH.same rfl rfl rfl rfl ?_ | refine HasH.same rfl rfl rfl (fun _ _ => rfl) ?_ | refine HasH.ros rfl rfl ?_)) _ (by first | exact .inl rfl | exact .inr rfl)
  rw [decide_eq_false g1]
  repeat (first | refine C.seq ?_ | refine C.region ?_ | refine R.zb ttok ?_ | refine R.zu ttok ?_ | refine R.zc ttok ?_ | refine R.za ttok ?_ | refine R.zx ?_ | refine R.zl ttok ?_ | refine R.zs ttok ?_ | refine R.z ttok ?_ | refine R.zk ?_ | refine R.zn ?_ | refine R.done ?_ | refine X.then ?_ | refine C.block ?_ | refine C.ret ?_ | refine C.skip ?_ | refine C.exit ?_ | refine X.pass_ret ?_ | refine X.pass_exit ?_ | refine X.block_normal ?_ | refine X.block_ret ?_ | refine X.block_exit ?_ | refine C.zt ?_ | refine C.zf ?_ | refine X.zo ?_)
  by_cases g2 : (4000 : Int) < n
  · rw [decide_eq_true g2]
    repeat (first | refine C.seq ?_ | refine C.region ?_ | refine R.zb ttok ?_ | refine R.zu ttok ?_ | refine R.zc ttok ?_ | refine R.za ttok ?_ | refine R.zx ?_ | refine R.zl ttok ?_ | refine R.zs ttok ?_ | refine R.z ttok ?_ | refine R.zk ?_ | refine R.zn ?_ | refine R.done ?_ | refine X.then ?_ | refine C.block ?_ | refine C.ret ?_ | refine C.skip ?_ | refine C.exit ?_ | refine X.pass_ret ?_ | refine X.pass_exit ?_ | refine X.block_normal ?_ | refine X.block_ret ?_ | refine X.block_exit ?_ | refine C.zt ?_ | refine C.zf ?_ | refine X.zo ?_)
    refine R.cl [] (known_spec) Try.call21 (by repeat (first | exact HasIn.nil | refine HasIn.same rfl rfl ?_ | refine HasIn.bro rfl ?_ | refine HasIn.ror rfl ?_ | refine HasIn.cro rfl rfl ?_)) rfl rfl rfl (fun _ => rfl) rfl (by kernel_rfl) fun _ _ => ?_
    repeat (first | refine C.seq ?_ | refine C.region ?_ | refine R.zb ttok ?_ | refine R.zu ttok ?_ | refine R.zc ttok ?_ | refine R.za ttok ?_ | refine R.zx ?_ | refine R.zl ttok ?_ | refine R.zs ttok ?_ | refine R.z ttok ?_ | refine R.zk ?_ | refine R.zn ?_ | refine R.done ?_ | refine X.then ?_ | refine C.block ?_ | refine C.ret ?_ | refine C.skip ?_ | refine C.exit ?_ | refine X.pass_ret ?_ | refine X.pass_exit ?_ | refine X.block_normal ?_ | refine X.block_ret ?_ | refine X.block_exit ?_ | refine C.zt ?_ | refine C.zf ?_ | refine X.zo ?_)
    refine X.fin ttok () [] trivial rfl rfl rfl (by repeat (first | exact HasH.nil | refine HasH.same rfl rfl rfl trivial ?_ | refine HasH.same rfl rfl rfl rfl ?_ | refine HasH.same rfl rfl rfl (fun _ _ => rfl) ?_ | refine HasH.ros rfl rfl ?_)) _ (by first | exact .inl rfl | exact .inr rfl)
  rw [decide_eq_false g2]
  repeat (first | refine C.seq ?_ | refine C.region ?_ | refine R.zb ttok ?_ | refine R.zu ttok ?_ | refine R.zc ttok ?_ | refine R.za ttok ?_ | refine R.zx ?_ | refine R.zl ttok ?_ | refine R.zs ttok ?_ | refine R.z ttok ?_ | refine R.zk ?_ | refine R.zn ?_ | refine R.done ?_ | refine X.then ?_ | refine C.block ?_ | refine C.ret ?_ | refine C.skip ?_ | refine C.exit ?_ | refine X.pass_ret ?_ | refine X.pass_exit ?_ | refine X.block_normal ?_ | refine X.block_ret ?_ | refine X.block_exit ?_ | refine C.zt ?_ | refine C.zf ?_ | refine X.zo ?_)
  by_cases g3 : stride < 1
  · rw [decide_eq_true g3]
    repeat (first | refine C.seq ?_ | refine C.region ?_ | refine R.zb ttok ?_ | refine R.zu ttok ?_ | refine R.zc ttok ?_ | refine R.za ttok ?_ | refine R.zx ?_ | refine R.zl ttok ?_ | refine R.zs ttok ?_ | refine R.z ttok ?_ | refine R.zk ?_ | refine R.zn ?_ | refine R.done ?_ | refine X.then ?_ | refine C.block ?_ | refine C.ret ?_ | refine C.skip ?_ | refine C.exit ?_ | refine X.pass_ret ?_ | refine X.pass_exit ?_ | refine X.block_normal ?_ | refine X.block_ret ?_ | refine X.block_exit ?_ | refine C.zt ?_ | refine C.zf ?_ | refine X.zo ?_)
    refine R.cl [] (known_spec) Try.call21 (by repeat (first | exact HasIn.nil | refine HasIn.same rfl rfl ?_ | refine HasIn.bro rfl ?_ | refine HasIn.ror rfl ?_ | refine HasIn.cro rfl rfl ?_)) rfl rfl rfl (fun _ => rfl) rfl (by kernel_rfl) fun _ _ => ?_
    repeat (first | refine C.seq ?_ | refine C.region ?_ | refine R.zb ttok ?_ | refine R.zu ttok ?_ | refine R.zc ttok ?_ | refine R.za ttok ?_ | refine R.zx ?_ | refine R.zl ttok ?_ | refine R.zs ttok ?_ | refine R.z ttok ?_ | refine R.zk ?_ | refine R.zn ?_ | refine R.done ?_ | refine X.then ?_ | refine C.block ?_ | refine C.ret ?_ | refine C.skip ?_ | refine C.exit ?_ | refine X.pass_ret ?_ | refine X.pass_exit ?_ | refine X.block_normal ?_ | refine X.block_ret ?_ | refine X.block_exit ?_ | refine C.zt ?_ | refine C.zf ?_ | refine X.zo ?_)
    refine X.fin ttok () [] trivial rfl rfl rfl (by repeat (first | exact HasH.nil | refine HasH.same rfl rfl rfl trivial ?_ | refine HasH.same rfl rfl rfl rfl ?_ | refine HasH.same rfl rfl rfl (fun _ _ => rfl) ?_ | refine HasH.ros rfl rfl ?_)) _ (by first | exact .inl rfl | exact .inr rfl)
  rw [decide_eq_false g3]
  repeat (first | refine C.seq ?_ | refine C.region ?_ | refine R.zb ttok ?_ | refine R.zu ttok ?_ | refine R.zc ttok ?_ | refine R.za ttok ?_ | refine R.zx ?_ | refine R.zl ttok ?_ | refine R.zs ttok ?_ | refine R.z ttok ?_ | refine R.zk ?_ | refine R.zn ?_ | refine R.done ?_ | refine X.then ?_ | refine C.block ?_ | refine C.ret ?_ | refine C.skip ?_ | refine C.exit ?_ | refine X.pass_ret ?_ | refine X.pass_exit ?_ | refine X.block_normal ?_ | refine X.block_ret ?_ | refine X.block_exit ?_ | refine C.zt ?_ | refine C.zf ?_ | refine X.zo ?_)
  by_cases g4 : (1099511627776 : Int) < stride
  · rw [decide_eq_true g4]
    repeat (first | refine C.seq ?_ | refine C.region ?_ | refine R.zb ttok ?_ | refine R.zu ttok ?_ | refine R.zc ttok ?_ | refine R.za ttok ?_ | refine R.zx ?_ | refine R.zl ttok ?_ | refine R.zs ttok ?_ | refine R.z ttok ?_ | refine R.zk ?_ | refine R.zn ?_ | refine R.done ?_ | refine X.then ?_ | refine C.block ?_ | refine C.ret ?_ | refine C.skip ?_ | refine C.exit ?_ | refine X.pass_ret ?_ | refine X.pass_exit ?_ | refine X.block_normal ?_ | refine X.block_ret ?_ | refine X.block_exit ?_ | refine C.zt ?_ | refine C.zf ?_ | refine X.zo ?_)
    refine R.cl [] (known_spec) Try.call21 (by repeat (first | exact HasIn.nil | refine HasIn.same rfl rfl ?_ | refine HasIn.bro rfl ?_ | refine HasIn.ror rfl ?_ | refine HasIn.cro rfl rfl ?_)) rfl rfl rfl (fun _ => rfl) rfl (by kernel_rfl) fun _ _ => ?_
    repeat (first | refine C.seq ?_ | refine C.region ?_ | refine R.zb ttok ?_ | refine R.zu ttok ?_ | refine R.zc ttok ?_ | refine R.za ttok ?_ | refine R.zx ?_ | refine R.zl ttok ?_ | refine R.zs ttok ?_ | refine R.z ttok ?_ | refine R.zk ?_ | refine R.zn ?_ | refine R.done ?_ | refine X.then ?_ | refine C.block ?_ | refine C.ret ?_ | refine C.skip ?_ | refine C.exit ?_ | refine X.pass_ret ?_ | refine X.pass_exit ?_ | refine X.block_normal ?_ | refine X.block_ret ?_ | refine X.block_exit ?_ | refine C.zt ?_ | refine C.zf ?_ | refine X.zo ?_)
    refine X.fin ttok () [] trivial rfl rfl rfl (by repeat (first | exact HasH.nil | refine HasH.same rfl rfl rfl trivial ?_ | refine HasH.same rfl rfl rfl rfl ?_ | refine HasH.same rfl rfl rfl (fun _ _ => rfl) ?_ | refine HasH.ros rfl rfl ?_)) _ (by first | exact .inl rfl | exact .inr rfl)
  rw [decide_eq_false g4]
  repeat (first | refine C.seq ?_ | refine C.region ?_ | refine R.zb ttok ?_ | refine R.zu ttok ?_ | refine R.zc ttok ?_ | refine R.za ttok ?_ | refine R.zx ?_ | refine R.zl ttok ?_ | refine R.zs ttok ?_ | refine R.z ttok ?_ | refine R.zk ?_ | refine R.zn ?_ | refine R.done ?_ | refine X.then ?_ | refine C.block ?_ | refine C.ret ?_ | refine C.skip ?_ | refine C.exit ?_ | refine X.pass_ret ?_ | refine X.pass_exit ?_ | refine X.block_normal ?_ | refine X.block_ret ?_ | refine X.block_exit ?_ | refine C.zt ?_ | refine C.zf ?_ | refine X.zo ?_)
  by_cases g5 : every < 1
  · rw [decide_eq_true g5]
    repeat (first | refine C.seq ?_ | refine C.region ?_ | refine R.zb ttok ?_ | refine R.zu ttok ?_ | refine R.zc ttok ?_ | refine R.za ttok ?_ | refine R.zx ?_ | refine R.zl ttok ?_ | refine R.zs ttok ?_ | refine R.z ttok ?_ | refine R.zk ?_ | refine R.zn ?_ | refine R.done ?_ | refine X.then ?_ | refine C.block ?_ | refine C.ret ?_ | refine C.skip ?_ | refine C.exit ?_ | refine X.pass_ret ?_ | refine X.pass_exit ?_ | refine X.block_normal ?_ | refine X.block_ret ?_ | refine X.block_exit ?_ | refine C.zt ?_ | refine C.zf ?_ | refine X.zo ?_)
    refine R.cl [] (known_spec) Try.call21 (by repeat (first | exact HasIn.nil | refine HasIn.same rfl rfl ?_ | refine HasIn.bro rfl ?_ | refine HasIn.ror rfl ?_ | refine HasIn.cro rfl rfl ?_)) rfl rfl rfl (fun _ => rfl) rfl (by kernel_rfl) fun _ _ => ?_
    repeat (first | refine C.seq ?_ | refine C.region ?_ | refine R.zb ttok ?_ | refine R.zu ttok ?_ | refine R.zc ttok ?_ | refine R.za ttok ?_ | refine R.zx ?_ | refine R.zl ttok ?_ | refine R.zs ttok ?_ | refine R.z ttok ?_ | refine R.zk ?_ | refine R.zn ?_ | refine R.done ?_ | refine X.then ?_ | refine C.block ?_ | refine C.ret ?_ | refine C.skip ?_ | refine C.exit ?_ | refine X.pass_ret ?_ | refine X.pass_exit ?_ | refine X.block_normal ?_ | refine X.block_ret ?_ | refine X.block_exit ?_ | refine C.zt ?_ | refine C.zf ?_ | refine X.zo ?_)
    refine X.fin ttok () [] trivial rfl rfl rfl (by repeat (first | exact HasH.nil | refine HasH.same rfl rfl rfl trivial ?_ | refine HasH.same rfl rfl rfl rfl ?_ | refine HasH.same rfl rfl rfl (fun _ _ => rfl) ?_ | refine HasH.ros rfl rfl ?_)) _ (by first | exact .inl rfl | exact .inr rfl)
  rw [decide_eq_false g5]
  repeat (first | refine C.seq ?_ | refine C.region ?_ | refine R.zb ttok ?_ | refine R.zu ttok ?_ | refine R.zc ttok ?_ | refine R.za ttok ?_ | refine R.zx ?_ | refine R.zl ttok ?_ | refine R.zs ttok ?_ | refine R.z ttok ?_ | refine R.zk ?_ | refine R.zn ?_ | refine R.done ?_ | refine X.then ?_ | refine C.block ?_ | refine C.ret ?_ | refine C.skip ?_ | refine C.exit ?_ | refine X.pass_ret ?_ | refine X.pass_exit ?_ | refine X.block_normal ?_ | refine X.block_ret ?_ | refine X.block_exit ?_ | refine C.zt ?_ | refine C.zf ?_ | refine X.zo ?_)
  by_cases g6 : fr < 0
  · rw [decide_eq_true g6]
    repeat (first | refine C.seq ?_ | refine C.region ?_ | refine R.zb ttok ?_ | refine R.zu ttok ?_ | refine R.zc ttok ?_ | refine R.za ttok ?_ | refine R.zx ?_ | refine R.zl ttok ?_ | refine R.zs ttok ?_ | refine R.z ttok ?_ | refine R.zk ?_ | refine R.zn ?_ | refine R.done ?_ | refine X.then ?_ | refine C.block ?_ | refine C.ret ?_ | refine C.skip ?_ | refine C.exit ?_ | refine X.pass_ret ?_ | refine X.pass_exit ?_ | refine X.block_normal ?_ | refine X.block_ret ?_ | refine X.block_exit ?_ | refine C.zt ?_ | refine C.zf ?_ | refine X.zo ?_)
    refine R.cl [] (known_spec) Try.call21 (by repeat (first | exact HasIn.nil | refine HasIn.same rfl rfl ?_ | refine HasIn.bro rfl ?_ | refine HasIn.ror rfl ?_ | refine HasIn.cro rfl rfl ?_)) rfl rfl rfl (fun _ => rfl) rfl (by kernel_rfl) fun _ _ => ?_
    repeat (first | refine C.seq ?_ | refine C.region ?_ | refine R.zb ttok ?_ | refine R.zu ttok ?_ | refine R.zc ttok ?_ | refine R.za ttok ?_ | refine R.zx ?_ | refine R.zl ttok ?_ | refine R.zs ttok ?_ | refine R.z ttok ?_ | refine R.zk ?_ | refine R.zn ?_ | refine R.done ?_ | refine X.then ?_ | refine C.block ?_ | refine C.ret ?_ | refine C.skip ?_ | refine C.exit ?_ | refine X.pass_ret ?_ | refine X.pass_exit ?_ | refine X.block_normal ?_ | refine X.block_ret ?_ | refine X.block_exit ?_ | refine C.zt ?_ | refine C.zf ?_ | refine X.zo ?_)
    refine X.fin ttok () [] trivial rfl rfl rfl (by repeat (first | exact HasH.nil | refine HasH.same rfl rfl rfl trivial ?_ | refine HasH.same rfl rfl rfl rfl ?_ | refine HasH.same rfl rfl rfl (fun _ _ => rfl) ?_ | refine HasH.ros rfl rfl ?_)) _ (by first | exact .inl rfl | exact .inr rfl)
  rw [decide_eq_false g6]
  repeat (first | refine C.seq ?_ | refine C.region ?_ | refine R.zb ttok ?_ | refine R.zu ttok ?_ | refine R.zc ttok ?_ | refine R.za ttok ?_ | refine R.zx ?_ | refine R.zl ttok ?_ | refine R.zs ttok ?_ | refine R.z ttok ?_ | refine R.zk ?_ | refine R.zn ?_ | refine R.done ?_ | refine X.then ?_ | refine C.block ?_ | refine C.ret ?_ | refine C.skip ?_ | refine C.exit ?_ | refine X.pass_ret ?_ | refine X.pass_exit ?_ | refine X.block_normal ?_ | refine X.block_ret ?_ | refine X.block_exit ?_ | refine C.zt ?_ | refine C.zf ?_ | refine X.zo ?_)
  by_cases g7 : to < fr
  · rw [decide_eq_true g7]
    repeat (first | refine C.seq ?_ | refine C.region ?_ | refine R.zb ttok ?_ | refine R.zu ttok ?_ | refine R.zc ttok ?_ | refine R.za ttok ?_ | refine R.zx ?_ | refine R.zl ttok ?_ | refine R.zs ttok ?_ | refine R.z ttok ?_ | refine R.zk ?_ | refine R.zn ?_ | refine R.done ?_ | refine X.then ?_ | refine C.block ?_ | refine C.ret ?_ | refine C.skip ?_ | refine C.exit ?_ | refine X.pass_ret ?_ | refine X.pass_exit ?_ | refine X.block_normal ?_ | refine X.block_ret ?_ | refine X.block_exit ?_ | refine C.zt ?_ | refine C.zf ?_ | refine X.zo ?_)
    refine R.cl [] (known_spec) Try.call21 (by repeat (first | exact HasIn.nil | refine HasIn.same rfl rfl ?_ | refine HasIn.bro rfl ?_ | refine HasIn.ror rfl ?_ | refine HasIn.cro rfl rfl ?_)) rfl rfl rfl (fun _ => rfl) rfl (by kernel_rfl) fun _ _ => ?_
    repeat (first | refine C.seq ?_ | refine C.region ?_ | refine R.zb ttok ?_ | refine R.zu ttok ?_ | refine R.zc ttok ?_ | refine R.za ttok ?_ | refine R.zx ?_ | refine R.zl ttok ?_ | refine R.zs ttok ?_ | refine R.z ttok ?_ | refine R.zk ?_ | refine R.zn ?_ | refine R.done ?_ | refine X.then ?_ | refine C.block ?_ | refine C.ret ?_ | refine C.skip ?_ | refine C.exit ?_ | refine X.pass_ret ?_ | refine X.pass_exit ?_ | refine X.block_normal ?_ | refine X.block_ret ?_ | refine X.block_exit ?_ | refine C.zt ?_ | refine C.zf ?_ | refine X.zo ?_)
    refine X.fin ttok () [] trivial rfl rfl rfl (by repeat (first | exact HasH.nil | refine HasH.same rfl rfl rfl trivial ?_ | refine HasH.same rfl rfl rfl rfl ?_ | refine HasH.same rfl rfl rfl (fun _ _ => rfl) ?_ | refine HasH.ros rfl rfl ?_)) _ (by first | exact .inl rfl | exact .inr rfl)
  rw [decide_eq_false g7]
  repeat (first | refine C.seq ?_ | refine C.region ?_ | refine R.zb ttok ?_ | refine R.zu ttok ?_ | refine R.zc ttok ?_ | refine R.za ttok ?_ | refine R.zx ?_ | refine R.zl ttok ?_ | refine R.zs ttok ?_ | refine R.z ttok ?_ | refine R.zk ?_ | refine R.zn ?_ | refine R.done ?_ | refine X.then ?_ | refine C.block ?_ | refine C.ret ?_ | refine C.skip ?_ | refine C.exit ?_ | refine X.pass_ret ?_ | refine X.pass_exit ?_ | refine X.block_normal ?_ | refine X.block_ret ?_ | refine X.block_exit ?_ | refine C.zt ?_ | refine C.zf ?_ | refine X.zo ?_)
  by_cases g8 : n ≤ to
  · rw [decide_eq_true g8]
    repeat (first | refine C.seq ?_ | refine C.region ?_ | refine R.zb ttok ?_ | refine R.zu ttok ?_ | refine R.zc ttok ?_ | refine R.za ttok ?_ | refine R.zx ?_ | refine R.zl ttok ?_ | refine R.zs ttok ?_ | refine R.z ttok ?_ | refine R.zk ?_ | refine R.zn ?_ | refine R.done ?_ | refine X.then ?_ | refine C.block ?_ | refine C.ret ?_ | refine C.skip ?_ | refine C.exit ?_ | refine X.pass_ret ?_ | refine X.pass_exit ?_ | refine X.block_normal ?_ | refine X.block_ret ?_ | refine X.block_exit ?_ | refine C.zt ?_ | refine C.zf ?_ | refine X.zo ?_)
    refine R.cl [] (known_spec) Try.call21 (by repeat (first | exact HasIn.nil | refine HasIn.same rfl rfl ?_ | refine HasIn.bro rfl ?_ | refine HasIn.ror rfl ?_ | refine HasIn.cro rfl rfl ?_)) rfl rfl rfl (fun _ => rfl) rfl (by kernel_rfl) fun _ _ => ?_
    repeat (first | refine C.seq ?_ | refine C.region ?_ | refine R.zb ttok ?_ | refine R.zu ttok ?_ | refine R.zc ttok ?_ | refine R.za ttok ?_ | refine R.zx ?_ | refine R.zl ttok ?_ | refine R.zs ttok ?_ | refine R.z ttok ?_ | refine R.zk ?_ | refine R.zn ?_ | refine R.done ?_ | refine X.then ?_ | refine C.block ?_ | refine C.ret ?_ | refine C.skip ?_ | refine C.exit ?_ | refine X.pass_ret ?_ | refine X.pass_exit ?_ | refine X.block_normal ?_ | refine X.block_ret ?_ | refine X.block_exit ?_ | refine C.zt ?_ | refine C.zf ?_ | refine X.zo ?_)
    refine X.fin ttok () [] trivial rfl rfl rfl (by repeat (first | exact HasH.nil | refine HasH.same rfl rfl rfl trivial ?_ | refine HasH.same rfl rfl rfl rfl ?_ | refine HasH.same rfl rfl rfl (fun _ _ => rfl) ?_ | refine HasH.ros rfl rfl ?_)) _ (by first | exact .inl rfl | exact .inr rfl)
  rw [decide_eq_false g8]
  obtain ⟨N, rfl⟩ : ∃ N : Nat, n = N := ⟨n.toNat, by omega⟩
  obtain ⟨S0, rfl⟩ : ∃ S0 : Nat, stride = S0 := ⟨stride.toNat, by omega⟩
  obtain ⟨V, rfl⟩ : ∃ V : Nat, every = V := ⟨every.toNat, by omega⟩
  obtain ⟨A, rfl⟩ : ∃ A : Nat, fr = A := ⟨fr.toNat, by omega⟩
  obtain ⟨B, rfl⟩ : ∃ B : Nat, to = B := ⟨to.toNat, by omega⟩
  have hN : 0 < N := by omega
  have hN4 : N ≤ 4000 := by omega
  have hV : 0 < V := by omega
  have hAB : A ≤ B := by omega
  have hBN : B < N := by omega
  clear g1 g2 g3 g5 g6 g7 g8 hn1 hst hto
  repeat (first | refine C.seq ?_ | refine C.region ?_ | refine R.zb ttok ?_ | refine R.zu ttok ?_ | refine R.zc ttok ?_ | refine R.za ttok ?_ | refine R.zx ?_ | refine R.zl ttok ?_ | refine R.zs ttok ?_ | refine R.z ttok ?_ | refine R.zk ?_ | refine R.zn ?_ | refine R.done ?_ | refine X.then ?_ | refine C.block ?_ | refine C.ret ?_ | refine C.skip ?_ | refine C.exit ?_ | refine X.pass_ret ?_ | refine X.pass_exit ?_ | refine X.block_normal ?_ | refine X.block_ret ?_ | refine X.block_exit ?_ | refine C.zt ?_ | refine C.zf ?_ | refine X.zo ?_)
  refine R.cl [] (newI_spec) Try.call22 (by repeat (first | exact HasIn.nil | refine HasIn.same rfl rfl ?_ | refine HasIn.bro rfl ?_ | refine HasIn.ror rfl ?_ | refine HasIn.cro rfl rfl ?_)) rfl rfl rfl (fun _ => rfl) rfl (by kernel_rfl) fun _ _ => ?_
  repeat (first | refine C.seq ?_ | refine C.region ?_ | refine R.zb ttok ?_ | refine R.zu ttok ?_ | refine R.zc ttok ?_ | refine R.za ttok ?_ | refine R.zx ?_ | refine R.zl ttok ?_ | refine R.zs ttok ?_ | refine R.z ttok ?_ | refine R.zk ?_ | refine R.zn ?_ | refine R.done ?_ | refine X.then ?_ | refine C.block ?_ | refine C.ret ?_ | refine C.skip ?_ | refine C.exit ?_ | refine X.pass_ret ?_ | refine X.pass_exit ?_ | refine X.block_normal ?_ | refine X.block_ret ?_ | refine X.block_exit ?_ | refine C.zt ?_ | refine C.zf ?_ | refine X.zo ?_)
  refine R.noneH 0 [.sl 1 2 0 ([] : List PI).length 0] (.tab 2 ([] : List PI).length 0 (piF []) 100) (none_tab _ _ _ _) rfl rfl rfl (fun ρ h => by have h : ρ 1 = none := h; show [(AV.sl 1 2 0 0 0).conc ρ] = [Value.slice none 0 0]; simp [AV.conc, h]) ?_
  refine R.mkt ttok N N (boF (List.replicate N false)) rfl rfl rfl rfl rfl rfl rfl (by decide) rfl (by kernel_rfl) rfl rfl (Nat.le_refl _) (by omega) (by show N * 1 ≤ _; omega) (fun i hi => by unfold boF; rw [List.getD_eq_getElem?_getD, List.getElem?_replicate, if_pos hi]; rfl) ?_
  repeat (first | refine C.seq ?_ | refine C.region ?_ | refine R.zb ttok ?_ | refine R.zu ttok ?_ | refine R.zc ttok ?_ | refine R.za ttok ?_ | refine R.zx ?_ | refine R.zl ttok ?_ | refine R.zs ttok ?_ | refine R.z ttok ?_ | refine R.zk ?_ | refine R.zn ?_ | refine R.done ?_ | refine X.then ?_ | refine C.block ?_ | refine C.ret ?_ | refine C.skip ?_ | refine C.exit ?_ | refine X.pass_ret ?_ | refine X.pass_exit ?_ | refine X.block_normal ?_ | refine X.block_ret ?_ | refine X.block_exit ?_ | refine C.zt ?_ | refine C.zf ?_ | refine X.zo ?_)
  refine C.loop (σ := List PI × Nat × List Bool × Nat) (L2 := 3) (fun s => Many N s.2.2.1 s.1 ∧ s.1.length ≤ s.2.1 ∧ s.2.1 ≤ 9223372036854775807 ∧ s.2.2.2 ≤ N)
    (fun s => [(0, .raw (.int .i64 N)), (1, .raw (.int .i64 S0)), (2, .raw (.int .i64 V)), (3, .raw (.int .i64 A)), (4, .raw (.int .i64 B)), (10, .raw (.bool false)), (11, .ptr 0 0 0 0), (12, .sl 2 1 0 N N), (13, .raw (.int .i64 s.1.length)), (14, .raw (.int .i64 (s.2.2.2 : Nat)))])
    (fun s => [(0, tbI 1 s.1.length s.2.1), (1, tI s.1 s.2.1), (2, tBo N s.2.2.1)]) _ (fun s => N - s.2.2.2) [] ([], 0, List.replicate N false, 0) ⟨many0 N hN4, by simp, by simp, by simp⟩ rfl (by repeat (first | exact HasT.nil | refine HasT.cons rfl rfl rfl ?_)) (by repeat (first | exact HasH.nil | refine HasH.same rfl rfl rfl trivial ?_ | refine HasH.same rfl rfl rfl rfl ?_ | refine HasH.same rfl rfl rfl (fun _ _ => rfl) ?_ | refine HasH.ros rfl rfl ?_ | refine HasH.rox rfl rfl ?_ | refine HasH.rob rfl rfl ?_)) rfl (fun _ h => h) ?_
  rintro ⟨l, c, has, i⟩ ⟨hM, hlc, hc2, hiN⟩
  dsimp only at hM hlc hc2 hiN ⊢
  have hll := hM.count
  have hlen := hM.len
  repeat (first | refine C.seq ?_ | refine C.region ?_ | refine R.zb ttok ?_ | refine R.zu ttok ?_ | refine R.zc ttok ?_ | refine R.za ttok ?_ | refine R.zx ?_ | refine R.zl ttok ?_ | refine R.zs ttok ?_ | refine R.z ttok ?_ | refine R.zk ?_ | refine R.zn ?_ | refine R.done ?_ | refine X.then ?_ | refine C.block ?_ | refine C.ret ?_ | refine C.skip ?_ | refine C.exit ?_ | refine X.pass_ret ?_ | refine X.pass_exit ?_ | refine X.block_normal ?_ | refine X.block_ret ?_ | refine X.block_exit ?_ | refine C.zt ?_ | refine C.zf ?_ | refine X.zo ?_)
  by_cases hi : (i : Int) < (N : Nat)
  · rw [decide_eq_true hi]
    repeat (first | refine C.seq ?_ | refine C.region ?_ | refine R.zb ttok ?_ | refine R.zu ttok ?_ | refine R.zc ttok ?_ | refine R.za ttok ?_ | refine R.zx ?_ | refine R.zl ttok ?_ | refine R.zs ttok ?_ | refine R.z ttok ?_ | refine R.zk ?_ | refine R.zn ?_ | refine R.done ?_ | refine X.then ?_ | refine C.block ?_ | refine C.ret ?_ | refine C.skip ?_ | refine C.exit ?_ | refine X.pass_ret ?_ | refine X.pass_exit ?_ | refine X.block_normal ?_ | refine X.block_ret ?_ | refine X.block_exit ?_ | refine C.zt ?_ | refine C.zf ?_ | refine X.zo ?_)
    refine R.rem ((S0 % N : Nat) : Int) rfl rfl rfl (by kernel_rfl) (by omega) rfl ?_
    have hPN : S0 % N < N := Nat.mod_lt _ hN
    generalize S0 % N = P0 at hPN ⊢
    have hm1 : i * P0 ≤ 4000 * 4000 := Nat.mul_le_mul (by omega) (by omega)
    have hm2 : (i : Int) * (P0 : Int) = ((i * P0 : Nat) : Int) := by rw [Int.natCast_mul]
    have hm3 : 0 ≤ (i : Int) * (P0 : Int) ∧ (i : Int) * (P0 : Int) ≤ 16000000 := by rw [hm2]; omega
    repeat (first | refine C.seq ?_ | refine C.region ?_ | refine R.zb ttok ?_ | refine R.zu ttok ?_ | refine R.zc ttok ?_ | refine R.za ttok ?_ | refine R.zx ?_ | refine R.zl ttok ?_ | refine R.zs ttok ?_ | refine R.z ttok ?_ | refine R.zk ?_ | refine R.zn ?_ | refine R.done ?_ | refine X.then ?_ | refine C.block ?_ | refine C.ret ?_ | refine C.skip ?_ | refine C.exit ?_ | refine X.pass_ret ?_ | refine X.pass_exit ?_ | refine X.block_normal ?_ | refine X.block_ret ?_ | refine X.block_exit ?_ | refine C.zt ?_ | refine C.zf ?_ | refine X.zo ?_)
    refine R.rem ((i * P0 % N : Nat) : Int) rfl rfl rfl (by kernel_rfl) (by omega) (by rw [hm2]; rfl) ?_
    have hKN : i * P0 % N < N := Nat.mod_lt _ hN
    generalize i * P0 % N = K at hKN ⊢
    clear hm1 hm2 hm3 hPN
    repeat (first | refine C.seq ?_ | refine C.region ?_ | refine R.zb ttok ?_ | refine R.zu ttok ?_ | refine R.zc ttok ?_ | refine R.za ttok ?_ | refine R.zx ?_ | refine R.zl ttok ?_ | refine R.zs ttok ?_ | refine R.z ttok ?_ | refine R.zk ?_ | refine R.zn ?_ | refine R.done ?_ | refine X.then ?_ | refine C.block ?_ | refine C.ret ?_ | refine C.skip ?_ | refine C.exit ?_ | refine X.pass_ret ?_ | refine X.pass_exit ?_ | refine X.block_normal ?_ | refine X.block_ret ?_ | refine X.block_exit ?_ | refine C.zt ?_ | refine C.zf ?_ | refine X.zo ?_)
    refine R.cl [] (name_spec K (by omega)) Try.call44 (by repeat (first | exact HasIn.nil | refine HasIn.same rfl rfl ?_ | refine HasIn.bro rfl ?_ | refine HasIn.ror rfl ?_ | refine HasIn.cro rfl rfl ?_)) rfl rfl rfl (fun _ => rfl) rfl (by kernel_rfl) fun _ _ => ?_
    repeat (first | refine C.seq ?_ | refine C.region ?_ | refine R.zb ttok ?_ | refine R.zu ttok ?_ | refine R.zc ttok ?_ | refine R.za ttok ?_ | refine R.zx ?_ | refine R.zl ttok ?_ | refine R.zs ttok ?_ | refine R.z ttok ?_ | refine R.zk ?_ | refine R.zn ?_ | refine R.done ?_ | refine X.then ?_ | refine C.block ?_ | refine C.ret ?_ | refine C.skip ?_ | refine C.exit ?_ | refine X.pass_ret ?_ | refine X.pass_exit ?_ | refine X.block_normal ?_ | refine X.block_ret ?_ | refine X.block_exit ?_ | refine C.zt ?_ | refine C.zf ?_ | refine X.zo ?_)
    refine R.cl [0, 1] (putI_spec l c (nm K) K hM.asc (by omega) hlc hc2) Try.call33 (by repeat (first | exact HasIn.nil | refine HasIn.same rfl rfl ?_ | refine HasIn.bro rfl ?_ | refine HasIn.ror rfl ?_ | refine HasIn.cro rfl rfl ?_)) rfl rfl rfl (fun _ => rfl) rfl (by kernel_rfl) fun c1 hc1 => ?_
    have hM1 := hM.put hKN
    have hlen1 := hM1.len
    have hln : has.getD K false = false → (putI l (nm K) K).length = l.length + 1 := fun h => put_len_new _ ((hM.has_ hKN).trans h)
    have hlo : has.getD K false = true → (putI l (nm K) K).length = l.length := fun h => put_len_old _ ((hM.has_ hKN).trans h)
    generalize putI l (nm K) K = l1 at hM1 hc1 hln hlo ⊢
    have hll1 := hM1.count
    rw [hM.has_ hKN]
    repeat (first | refine C.seq ?_ | refine C.region ?_ | refine R.zb ttok ?_ | refine R.zu ttok ?_ | refine R.zc ttok ?_ | refine R.za ttok ?_ | refine R.zx ?_ | refine R.zl ttok ?_ | refine R.zs ttok ?_ | refine R.z ttok ?_ | refine R.zk ?_ | refine R.zn ?_ | refine R.done ?_ | refine X.then ?_ | refine C.block ?_ | refine C.ret ?_ | refine C.skip ?_ | refine C.exit ?_ | refine X.pass_ret ?_ | refine X.pass_exit ?_ | refine X.block_normal ?_ | refine X.block_ret ?_ | refine X.block_exit ?_ | refine C.zt ?_ | refine C.zf ?_ | refine X.zo ?_)
    refine R.ix ttok K rfl rfl rfl rfl rfl (by kernel_rfl) rfl (by omega) (by show _ < _; omega) rfl ?_
    repeat (first | refine C.seq ?_ | refine C.region ?_ | refine R.zb ttok ?_ | refine R.zu ttok ?_ | refine R.zc ttok ?_ | refine R.za ttok ?_ | refine R.zx ?_ | refine R.zl ttok ?_ | refine R.zs ttok ?_ | refine R.z ttok ?_ | refine R.zk ?_ | refine R.zn ?_ | refine R.done ?_ | refine X.then ?_ | refine C.block ?_ | refine C.ret ?_ | refine C.skip ?_ | refine C.exit ?_ | refine X.pass_ret ?_ | refine X.pass_exit ?_ | refine X.block_normal ?_ | refine X.block_ret ?_ | refine X.block_exit ?_ | refine C.zt ?_ | refine C.zf ?_ | refine X.zo ?_)
    refine R.ldt (v := .raw (.bool (has.getD K false))) ttok rfl rfl rfl (by rw [Nat.zero_add]; rfl) rfl (by kernel_rfl) (by omega) ?_
    cases hb : has.getD K false with
    | true =>
      rw [hM.get_ hKN hb]
      repeat (first | refine C.seq ?_ | refine C.region ?_ | refine R.zb ttok ?_ | refine R.zu ttok ?_ | refine R.zc ttok ?_ | refine R.za ttok ?_ | refine R.zx ?_ | refine R.zl ttok ?_ | refine R.zs ttok ?_ | refine R.z ttok ?_ | refine R.zk ?_ | refine R.zn ?_ | refine R.done ?_ | refine X.then ?_ | refine C.block ?_ | refine C.ret ?_ | refine C.skip ?_ | refine C.exit ?_ | refine X.pass_ret ?_ | refine X.pass_exit ?_ | refine X.block_normal ?_ | refine X.block_ret ?_ | refine X.block_exit ?_ | refine C.zt ?_ | refine C.zf ?_ | refine X.zo ?_)
      rw [decide_eq_false (show ¬ (K : Int) ≠ (K : Int) from fun h => h rfl)]
      repeat (first | refine C.seq ?_ | refine C.region ?_ | refine R.zb ttok ?_ | refine R.zu ttok ?_ | refine R.zc ttok ?_ | refine R.za ttok ?_ | refine R.zx ?_ | refine R.zl ttok ?_ | refine R.zs ttok ?_ | refine R.z ttok ?_ | refine R.zk ?_ | refine R.zn ?_ | refine R.done ?_ | refine X.then ?_ | refine C.block ?_ | refine C.ret ?_ | refine C.skip ?_ | refine C.exit ?_ | refine X.pass_ret ?_ | refine X.pass_exit ?_ | refine X.block_normal ?_ | refine X.block_ret ?_ | refine X.block_exit ?_ | refine C.zt ?_ | refine C.zf ?_ | refine X.zo ?_)
      refine R.ix ttok K rfl rfl rfl rfl rfl (by kernel_rfl) rfl (by omega) (by show _ < _; omega) rfl ?_
      repeat (first | refine C.seq ?_ | refine C.region ?_ | refine R.zb ttok ?_ | refine R.zu ttok ?_ | refine R.zc ttok ?_ | refine R.za ttok ?_ | refine R.zx ?_ | refine R.zl ttok ?_ | refine R.zs ttok ?_ | refine R.z ttok ?_ | refine R.zk ?_ | refine R.zn ?_ | refine R.done ?_ | refine X.then ?_ | refine C.block ?_ | refine C.ret ?_ | refine C.skip ?_ | refine C.exit ?_ | refine X.pass_ret ?_ | refine X.pass_exit ?_ | refine X.block_normal ?_ | refine X.block_ret ?_ | refine X.block_exit ?_ | refine C.zt ?_ | refine C.zf ?_ | refine X.zo ?_)
      refine R.ldt (v := .raw (.bool (has.getD K false))) ttok rfl rfl rfl (by rw [Nat.zero_add]; rfl) rfl (by kernel_rfl) (by omega) ?_
      rw [hb]
      repeat (first | refine C.seq ?_ | refine C.region ?_ | refine R.zb ttok ?_ | refine R.zu ttok ?_ | refine R.zc ttok ?_ | refine R.za ttok ?_ | refine R.zx ?_ | refine R.zl ttok ?_ | refine R.zs ttok ?_ | refine R.z ttok ?_ | refine R.zk ?_ | refine R.zn ?_ | refine R.done ?_ | refine X.then ?_ | refine C.block ?_ | refine C.ret ?_ | refine C.skip ?_ | refine C.exit ?_ | refine X.pass_ret ?_ | refine X.pass_exit ?_ | refine X.block_normal ?_ | refine X.block_ret ?_ | refine X.block_exit ?_ | refine C.zt ?_ | refine C.zf ?_ | refine X.zo ?_)
      rw [show (l.length : Int) = (l1.length : Nat) by rw [hlo hb]]
      repeat (first | refine C.seq ?_ | refine C.region ?_ | refine R.zb ttok ?_ | refine R.zu ttok ?_ | refine R.zc ttok ?_ | refine R.za ttok ?_ | refine R.zx ?_ | refine R.zl ttok ?_ | refine R.zs ttok ?_ | refine R.z ttok ?_ | refine R.zk ?_ | refine R.zn ?_ | refine R.done ?_ | refine X.then ?_ | refine C.block ?_ | refine C.ret ?_ | refine C.skip ?_ | refine C.exit ?_ | refine X.pass_ret ?_ | refine X.pass_exit ?_ | refine X.block_normal ?_ | refine X.block_ret ?_ | refine X.block_exit ?_ | refine C.zt ?_ | refine C.zf ?_ | refine X.zo ?_)
      refine R.ix ttok K rfl rfl rfl rfl rfl (by kernel_rfl) rfl (by omega) (by show _ < _; omega) rfl ?_
      rw [Nat.zero_add]
      refine R.stt (zs := [.raw (.bool true)]) ttok rfl rfl rfl rfl rfl rfl rfl (by kernel_rfl) (by omega) (by show 0 + 1 ≤ 1; omega) ?_
      rw [upd_bo has K true (by omega)]
      repeat (first | refine C.seq ?_ | refine C.region ?_ | refine R.zb ttok ?_ | refine R.zu ttok ?_ | refine R.zc ttok ?_ | refine R.za ttok ?_ | refine R.zx ?_ | refine R.zl ttok ?_ | refine R.zs ttok ?_ | refine R.z ttok ?_ | refine R.zk ?_ | refine R.zn ?_ | refine R.done ?_ | refine X.then ?_ | refine C.block ?_ | refine C.ret ?_ | refine C.skip ?_ | refine C.exit ?_ | refine X.pass_ret ?_ | refine X.pass_exit ?_ | refine X.block_normal ?_ | refine X.block_ret ?_ | refine X.block_exit ?_ | refine C.zt ?_ | refine C.zf ?_ | refine X.zo ?_)
      refine R.rem ((i % V : Nat) : Int) rfl rfl rfl (by kernel_rfl) (by omega) rfl ?_
      repeat (first | refine C.seq ?_ | refine C.region ?_ | refine R.zb ttok ?_ | refine R.zu ttok ?_ | refine R.zc ttok ?_ | refine R.za ttok ?_ | refine R.zx ?_ | refine R.zl ttok ?_ | refine R.zs ttok ?_ | refine R.z ttok ?_ | refine R.zk ?_ | refine R.zn ?_ | refine R.done ?_ | refine X.then ?_ | refine C.block ?_ | refine C.ret ?_ | refine C.skip ?_ | refine C.exit ?_ | refine X.pass_ret ?_ | refine X.pass_exit ?_ | refine X.block_normal ?_ | refine X.block_ret ?_ | refine X.block_exit ?_ | refine C.zt ?_ | refine C.zf ?_ | refine X.zo ?_)
      by_cases hv : ((i % V : Nat) : Int) = 0
      · have hbd : i / 2 + V ≤ 9223372036854775807 := by
          rcases Nat.eq_zero_or_pos i with h0 | h0
          · subst h0; omega
          · have := Nat.le_of_dvd h0 (Nat.dvd_of_mod_eq_zero (by omega : i % V = 0))
            omega
        rw [decide_eq_true hv]
        repeat (first | refine C.seq ?_ | refine C.region ?_ | refine R.zb ttok ?_ | refine R.zu ttok ?_ | refine R.zc ttok ?_ | refine R.za ttok ?_ | refine R.zx ?_ | refine R.zl ttok ?_ | refine R.zs ttok ?_ | refine R.z ttok ?_ | refine R.zk ?_ | refine R.zn ?_ | refine R.done ?_ | refine X.then ?_ | refine C.block ?_ | refine C.ret ?_ | refine C.skip ?_ | refine C.exit ?_ | refine X.pass_ret ?_ | refine X.pass_exit ?_ | refine X.block_normal ?_ | refine X.block_ret ?_ | refine X.block_exit ?_ | refine C.zt ?_ | refine C.zf ?_ | refine X.zo ?_)
        refine R.quo ((i / 2 : Nat) : Int) rfl rfl rfl (by kernel_rfl) (by decide) (by rw [show ((i : Nat) : Int).tdiv 2 = ((i / 2 : Nat) : Int) from rfl]; exact wrap_i64 (by omega) (by omega)) ?_
        repeat (first | refine C.seq ?_ | refine C.region ?_ | refine R.zb ttok ?_ | refine R.zu ttok ?_ | refine R.zc ttok ?_ | refine R.za ttok ?_ | refine R.zx ?_ | refine R.zl ttok ?_ | refine R.zs ttok ?_ | refine R.z ttok ?_ | refine R.zk ?_ | refine R.zn ?_ | refine R.done ?_ | refine X.then ?_ | refine C.block ?_ | refine C.ret ?_ | refine C.skip ?_ | refine C.exit ?_ | refine X.pass_ret ?_ | refine X.pass_exit ?_ | refine X.block_normal ?_ | refine X.block_ret ?_ | refine X.block_exit ?_ | refine C.zt ?_ | refine C.zf ?_ | refine X.zo ?_)
        refine R.rem (((i / 2 + V) % N : Nat) : Int) rfl rfl rfl (by kernel_rfl) (by omega) (by rw [← Int.natCast_add]; rfl) ?_
        have hdN : (i / 2 + V) % N < N := Nat.mod_lt _ hN
        generalize (i / 2 + V) % N = Dd at hdN ⊢
        repeat (first | refine C.seq ?_ | refine C.region ?_ | refine R.zb ttok ?_ | refine R.zu ttok ?_ | refine R.zc ttok ?_ | refine R.za ttok ?_ | refine R.zx ?_ | refine R.zl ttok ?_ | refine R.zs ttok ?_ | refine R.z ttok ?_ | refine R.zk ?_ | refine R.zn ?_ | refine R.done ?_ | refine X.then ?_ | refine C.block ?_ | refine C.ret ?_ | refine C.skip ?_ | refine C.exit ?_ | refine X.pass_ret ?_ | refine X.pass_exit ?_ | refine X.block_normal ?_ | refine X.block_ret ?_ | refine X.block_exit ?_ | refine C.zt ?_ | refine C.zf ?_ | refine X.zo ?_)
        refine R.cl [] (name_spec Dd (by omega)) Try.call44 (by repeat (first | exact HasIn.nil | refine HasIn.same rfl rfl ?_ | refine HasIn.bro rfl ?_ | refine HasIn.ror rfl ?_ | refine HasIn.cro rfl rfl ?_)) rfl rfl rfl (fun _ => rfl) rfl (by kernel_rfl) fun _ _ => ?_
        repeat (first | refine C.seq ?_ | refine C.region ?_ | refine R.zb ttok ?_ | refine R.zu ttok ?_ | refine R.zc ttok ?_ | refine R.za ttok ?_ | refine R.zx ?_ | refine R.zl ttok ?_ | refine R.zs ttok ?_ | refine R.z ttok ?_ | refine R.zk ?_ | refine R.zn ?_ | refine R.done ?_ | refine X.then ?_ | refine C.block ?_ | refine C.ret ?_ | refine C.skip ?_ | refine C.exit ?_ | refine X.pass_ret ?_ | refine X.pass_exit ?_ | refine X.block_normal ?_ | refine X.block_ret ?_ | refine X.block_exit ?_ | refine C.zt ?_ | refine C.zf ?_ | refine X.zo ?_)
        refine R.cl [0, 3] (delI_spec l1 c1 (nm Dd) hM1.asc (by omega) hc1.1 hc1.2) Try.call43 (by repeat (first | exact HasIn.nil | refine HasIn.same rfl rfl ?_ | refine HasIn.bro rfl ?_ | refine HasIn.ror rfl ?_ | refine HasIn.cro rfl rfl ?_)) rfl rfl rfl (fun _ => rfl) rfl (by kernel_rfl) fun c2 hc2 => ?_
        have hM2 := hM1.del hdN
        have hlen2 := hM2.len
        rw [hM1.has_ hdN]
        repeat (first | refine C.seq ?_ | refine C.region ?_ | refine R.zb ttok ?_ | refine R.zu ttok ?_ | refine R.zc ttok ?_ | refine R.za ttok ?_ | refine R.zx ?_ | refine R.zl ttok ?_ | refine R.zs ttok ?_ | refine R.z ttok ?_ | refine R.zk ?_ | refine R.zn ?_ | refine R.done ?_ | refine X.then ?_ | refine C.block ?_ | refine C.ret ?_ | refine C.skip ?_ | refine C.exit ?_ | refine X.pass_ret ?_ | refine X.pass_exit ?_ | refine X.block_normal ?_ | refine X.block_ret ?_ | refine X.block_exit ?_ | refine C.zt ?_ | refine C.zf ?_ | refine X.zo ?_)
        refine R.ix ttok Dd rfl rfl rfl rfl rfl (by kernel_rfl) rfl (by omega) (by show _ < _; omega) rfl ?_
        repeat (first | refine C.seq ?_ | refine C.region ?_ | refine R.zb ttok ?_ | refine R.zu ttok ?_ | refine R.zc ttok ?_ | refine R.za ttok ?_ | refine R.zx ?_ | refine R.zl ttok ?_ | refine R.zs ttok ?_ | refine R.z ttok ?_ | refine R.zk ?_ | refine R.zn ?_ | refine R.done ?_ | refine X.then ?_ | refine C.block ?_ | refine C.ret ?_ | refine C.skip ?_ | refine C.exit ?_ | refine X.pass_ret ?_ | refine X.pass_exit ?_ | refine X.block_normal ?_ | refine X.block_ret ?_ | refine X.block_exit ?_ | refine C.zt ?_ | refine C.zf ?_ | refine X.zo ?_)
        refine R.ldt (v := .raw (.bool ((has.set K true).getD Dd false))) ttok rfl rfl rfl (by rw [Nat.zero_add]; rfl) rfl (by kernel_rfl) (by omega) ?_
        cases hb2 : (has.set K true).getD Dd false with
        | true =>
          have hl2 := del_len_old ((hM1.has_ hdN).trans hb2)
          rw [hM1.get_ hdN hb2]
          repeat (first | refine C.seq ?_ | refine C.region ?_ | refine R.zb ttok ?_ | refine R.zu ttok ?_ | refine R.zc ttok ?_ | refine R.za ttok ?_ | refine R.zx ?_ | refine R.zl ttok ?_ | refine R.zs ttok ?_ | refine R.z ttok ?_ | refine R.zk ?_ | refine R.zn ?_ | refine R.done ?_ | refine X.then ?_ | refine C.block ?_ | refine C.ret ?_ | refine C.skip ?_ | refine C.exit ?_ | refine X.pass_ret ?_ | refine X.pass_exit ?_ | refine X.block_normal ?_ | refine X.block_ret ?_ | refine X.block_exit ?_ | refine C.zt ?_ | refine C.zf ?_ | refine X.zo ?_)
          rw [decide_eq_false (show ¬ (Dd : Int) ≠ (Dd : Int) from fun h => h rfl)]
          repeat (first | refine C.seq ?_ | refine C.region ?_ | refine R.zb ttok ?_ | refine R.zu ttok ?_ | refine R.zc ttok ?_ | refine R.za ttok ?_ | refine R.zx ?_ | refine R.zl ttok ?_ | refine R.zs ttok ?_ | refine R.z ttok ?_ | refine R.zk ?_ | refine R.zn ?_ | refine R.done ?_ | refine X.then ?_ | refine C.block ?_ | refine C.ret ?_ | refine C.skip ?_ | refine C.exit ?_ | refine X.pass_ret ?_ | refine X.pass_exit ?_ | refine X.block_normal ?_ | refine X.block_ret ?_ | refine X.block_exit ?_ | refine C.zt ?_ | refine C.zf ?_ | refine X.zo ?_)
          refine R.ix ttok Dd rfl rfl rfl rfl rfl (by kernel_rfl) rfl (by omega) (by show _ < _; omega) rfl ?_
          repeat (first | refine C.seq ?_ | refine C.region ?_ | refine R.zb ttok ?_ | refine R.zu ttok ?_ | refine R.zc ttok ?_ | refine R.za ttok ?_ | refine R.zx ?_ | refine R.zl ttok ?_ | refine R.zs ttok ?_ | refine R.z ttok ?_ | refine R.zk ?_ | refine R.zn ?_ | refine R.done ?_ | refine X.then ?_ | refine C.block ?_ | refine C.ret ?_ | refine C.skip ?_ | refine C.exit ?_ | refine X.pass_ret ?_ | refine X.pass_exit ?_ | refine X.block_normal ?_ | refine X.block_ret ?_ | refine X.block_exit ?_ | refine C.zt ?_ | refine C.zf ?_ | refine X.zo ?_)
          refine R.ldt (v := .raw (.bool ((has.set K true).getD Dd false))) ttok rfl rfl rfl (by rw [Nat.zero_add]; rfl) rfl (by kernel_rfl) (by omega) ?_
          rw [hb2]
          repeat (first | refine C.seq ?_ | refine C.region ?_ | refine R.zb ttok ?_ | refine R.zu ttok ?_ | refine R.zc ttok ?_ | refine R.za ttok ?_ | refine R.zx ?_ | refine R.zl ttok ?_ | refine R.zs ttok ?_ | refine R.z ttok ?_ | refine R.zk ?_ | refine R.zn ?_ | refine R.done ?_ | refine X.then ?_ | refine C.block ?_ | refine C.ret ?_ | refine C.skip ?_ | refine C.exit ?_ | refine X.pass_ret ?_ | refine X.pass_exit ?_ | refine X.block_normal ?_ | refine X.block_ret ?_ | refine X.block_exit ?_ | refine C.zt ?_ | refine C.zf ?_ | refine X.zo ?_)
          rw [show (l1.length : Int) - 1 = ((delI l1 (nm Dd)).length : Nat) by omega]
          repeat (first | refine C.seq ?_ | refine C.region ?_ | refine R.zb ttok ?_ | refine R.zu ttok ?_ | refine R.zc ttok ?_ | refine R.za ttok ?_ | refine R.zx ?_ | refine R.zl ttok ?_ | refine R.zs ttok ?_ | refine R.z ttok ?_ | refine R.zk ?_ | refine R.zn ?_ | refine R.done ?_ | refine X.then ?_ | refine C.block ?_ | refine C.ret ?_ | refine C.skip ?_ | refine C.exit ?_ | refine X.pass_ret ?_ | refine X.pass_exit ?_ | refine X.block_normal ?_ | refine X.block_ret ?_ | refine X.block_exit ?_ | refine C.zt ?_ | refine C.zf ?_ | refine X.zo ?_)
          refine R.ix ttok Dd rfl rfl rfl rfl rfl (by kernel_rfl) rfl (by omega) (by show _ < _; omega) rfl ?_
          rw [Nat.zero_add]
          refine R.stt (zs := [.raw (.bool false)]) ttok rfl rfl rfl rfl rfl rfl rfl (by kernel_rfl) (by omega) (by show 0 + 1 ≤ 1; omega) ?_
          rw [upd_bo (has.set K true) Dd false (by omega)]
          repeat (first | refine C.seq ?_ | refine C.region ?_ | refine R.zb ttok ?_ | refine R.zu ttok ?_ | refine R.zc ttok ?_ | refine R.za ttok ?_ | refine R.zx ?_ | refine R.zl ttok ?_ | refine R.zs ttok ?_ | refine R.z ttok ?_ | refine R.zk ?_ | refine R.zn ?_ | refine R.done ?_ | refine X.then ?_ | refine C.block ?_ | refine C.ret ?_ | refine C.skip ?_ | refine C.exit ?_ | refine X.pass_ret ?_ | refine X.pass_exit ?_ | refine X.block_normal ?_ | refine X.block_ret ?_ | refine X.block_exit ?_ | refine C.zt ?_ | refine C.zf ?_ | refine X.zo ?_)
          exact X.back [(1, 4)] (delI l1 (nm Dd), c2, (has.set K true).set Dd false, i + 1) ⟨hM2, hc2.1, hc2.2, by dsimp only; omega⟩ (by dsimp only; omega) rfl (by repeat (first | exact HasT.nil | refine HasT.cons rfl rfl rfl ?_)) (by repeat (first | exact HasH.nil | refine HasH.same rfl rfl rfl trivial ?_ | refine HasH.same rfl rfl rfl rfl ?_ | refine HasH.same rfl rfl rfl (fun _ _ => rfl) ?_ | refine HasH.ros rfl rfl ?_ | refine HasH.rox rfl rfl ?_ | refine HasH.rob rfl rfl ?_)) rfl (fun _ h => h)
        | false =>
          have hl2 := del_len_new ((hM1.has_ hdN).trans hb2)
          repeat (first | refine C.seq ?_ | refine C.region ?_ | refine R.zb ttok ?_ | refine R.zu ttok ?_ | refine R.zc ttok ?_ | refine R.za ttok ?_ | refine R.zx ?_ | refine R.zl ttok ?_ | refine R.zs ttok ?_ | refine R.z ttok ?_ | refine R.zk ?_ | refine R.zn ?_ | refine R.done ?_ | refine X.then ?_ | refine C.block ?_ | refine C.ret ?_ | refine C.skip ?_ | refine C.exit ?_ | refine X.pass_ret ?_ | refine X.pass_exit ?_ | refine X.block_normal ?_ | refine X.block_ret ?_ | refine X.block_exit ?_ | refine C.zt ?_ | refine C.zf ?_ | refine X.zo ?_)
          refine R.ix ttok Dd rfl rfl rfl rfl rfl (by kernel_rfl) rfl (by omega) (by show _ < _; omega) rfl ?_
          repeat (first | refine C.seq ?_ | refine C.region ?_ | refine R.zb ttok ?_ | refine R.zu ttok ?_ | refine R.zc ttok ?_ | refine R.za ttok ?_ | refine R.zx ?_ | refine R.zl ttok ?_ | refine R.zs ttok ?_ | refine R.z ttok ?_ | refine R.zk ?_ | refine R.zn ?_ | refine R.done ?_ | refine X.then ?_ | refine C.block ?_ | refine C.ret ?_ | refine C.skip ?_ | refine C.exit ?_ | refine X.pass_ret ?_ | refine X.pass_exit ?_ | refine X.block_normal ?_ | refine X.block_ret ?_ | refine X.block_exit ?_ | refine C.zt ?_ | refine C.zf ?_ | refine X.zo ?_)
          refine R.ldt (v := .raw (.bool ((has.set K true).getD Dd false))) ttok rfl rfl rfl (by rw [Nat.zero_add]; rfl) rfl (by kernel_rfl) (by omega) ?_
          rw [hb2]
          repeat (first | refine C.seq ?_ | refine C.region ?_ | refine R.zb ttok ?_ | refine R.zu ttok ?_ | refine R.zc ttok ?_ | refine R.za ttok ?_ | refine R.zx ?_ | refine R.zl ttok ?_ | refine R.zs ttok ?_ | refine R.z ttok ?_ | refine R.zk ?_ | refine R.zn ?_ | refine R.done ?_ | refine X.then ?_ | refine C.block ?_ | refine C.ret ?_ | refine C.skip ?_ | refine C.exit ?_ | refine X.pass_ret ?_ | refine X.pass_exit ?_ | refine X.block_normal ?_ | refine X.block_ret ?_ | refine X.block_exit ?_ | refine C.zt ?_ | refine C.zf ?_ | refine X.zo ?_)
          rw [show (l1.length : Int) = ((delI l1 (nm Dd)).length : Nat) by omega]
          repeat (first | refine C.seq ?_ | refine C.region ?_ | refine R.zb ttok ?_ | refine R.zu ttok ?_ | refine R.zc ttok ?_ | refine R.za ttok ?_ | refine R.zx ?_ | refine R.zl ttok ?_ | refine R.zs ttok ?_ | refine R.z ttok ?_ | refine R.zk ?_ | refine R.zn ?_ | refine R.done ?_ | refine X.then ?_ | refine C.block ?_ | refine C.ret ?_ | refine C.skip ?_ | refine C.exit ?_ | refine X.pass_ret ?_ | refine X.pass_exit ?_ | refine X.block_normal ?_ | refine X.block_ret ?_ | refine X.block_exit ?_ | refine C.zt ?_ | refine C.zf ?_ | refine X.zo ?_)
          refine R.ix ttok Dd rfl rfl rfl rfl rfl (by kernel_rfl) rfl (by omega) (by show _ < _; omega) rfl ?_
          rw [Nat.zero_add]
          refine R.stt (zs := [.raw (.bool false)]) ttok rfl rfl rfl rfl rfl rfl rfl (by kernel_rfl) (by omega) (by show 0 + 1 ≤ 1; omega) ?_
          rw [upd_bo (has.set K true) Dd false (by omega)]
          repeat (first | refine C.seq ?_ | refine C.region ?_ | refine R.zb ttok ?_ | refine R.zu ttok ?_ | refine R.zc ttok ?_ | refine R.za ttok ?_ | refine R.zx ?_ | refine R.zl ttok ?_ | refine R.zs ttok ?_ | refine R.z ttok ?_ | refine R.zk ?_ | refine R.zn ?_ | refine R.done ?_ | refine X.then ?_ | refine C.block ?_ | refine C.ret ?_ | refine C.skip ?_ | refine C.exit ?_ | refine X.pass_ret ?_ | refine X.pass_exit ?_ | refine X.block_normal ?_ | refine X.block_ret ?_ | refine X.block_exit ?_ | refine C.zt ?_ | refine C.zf ?_ | refine X.zo ?_)
          exact X.back [(1, 4)] (delI l1 (nm Dd), c2, (has.set K true).set Dd false, i + 1) ⟨hM2, hc2.1, hc2.2, by dsimp only; omega⟩ (by dsimp only; omega) rfl (by repeat (first | exact HasT.nil | refine HasT.cons rfl rfl rfl ?_)) (by repeat (first | exact HasH.nil | refine HasH.same rfl rfl rfl trivial ?_ | refine HasH.same rfl rfl rfl rfl ?_ | refine HasH.same rfl rfl rfl (fun _ _ => rfl) ?_ | refine HasH.ros rfl rfl ?_ | refine HasH.rox rfl rfl ?_ | refine HasH.rob rfl rfl ?_)) rfl (fun _ h => h)
      · rw [decide_eq_false hv]
        repeat (first | refine C.seq ?_ | refine C.region ?_ | refine R.zb ttok ?_ | refine R.zu ttok ?_ | refine R.zc ttok ?_ | refine R.za ttok ?_ | refine R.zx ?_ | refine R.zl ttok ?_ | refine R.zs ttok ?_ | refine R.z ttok ?_ | refine R.zk ?_ | refine R.zn ?_ | refine R.done ?_ | refine X.then ?_ | refine C.block ?_ | refine C.ret ?_ | refine C.skip ?_ | refine C.exit ?_ | refine X.pass_ret ?_ | refine X.pass_exit ?_ | refine X.block_normal ?_ | refine X.block_ret ?_ | refine X.block_exit ?_ | refine C.zt ?_ | refine C.zf ?_ | refine X.zo ?_)
        exact X.back [(1, 3)] (l1, c1, has.set K true, i + 1) ⟨hM1, hc1.1, hc1.2, by dsimp only; omega⟩ (by dsimp only; omega) rfl (by repeat (first | exact HasT.nil | refine HasT.cons rfl rfl rfl ?_)) (by repeat (first | exact HasH.nil | refine HasH.same rfl rfl rfl trivial ?_ | refine HasH.same rfl rfl rfl rfl ?_ | refine HasH.same rfl rfl rfl (fun _ _ => rfl) ?_ | refine HasH.ros rfl rfl ?_ | refine HasH.rox rfl rfl ?_ | refine HasH.rob rfl rfl ?_)) rfl (fun _ h => h)
    | false =>
      repeat (first | refine C.seq ?_ | refine C.region ?_ | refine R.zb ttok ?_ | refine R.zu ttok ?_ | refine R.zc ttok ?_ | refine R.za ttok ?_ | refine R.zx ?_ | refine R.zl ttok ?_ | refine R.zs ttok ?_ | refine R.z ttok ?_ | refine R.zk ?_ | refine R.zn ?_ | refine R.done ?_ | refine X.then ?_ | refine C.block ?_ | refine C.ret ?_ | refine C.skip ?_ | refine C.exit ?_ | refine X.pass_ret ?_ | refine X.pass_exit ?_ | refine X.block_normal ?_ | refine X.block_ret ?_ | refine X.block_exit ?_ | refine C.zt ?_ | refine C.zf ?_ | refine X.zo ?_)
      refine R.ix ttok K rfl rfl rfl rfl rfl (by kernel_rfl) rfl (by omega) (by show _ < _; omega) rfl ?_
      repeat (first | refine C.seq ?_ | refine C.region ?_ | refine R.zb ttok ?_ | refine R.zu ttok ?_ | refine R.zc ttok ?_ | refine R.za ttok ?_ | refine R.zx ?_ | refine R.zl ttok ?_ | refine R.zs ttok ?_ | refine R.z ttok ?_ | refine R.zk ?_ | refine R.zn ?_ | refine R.done ?_ | refine X.then ?_ | refine C.block ?_ | refine C.ret ?_ | refine C.skip ?_ | refine C.exit ?_ | refine X.pass_ret ?_ | refine X.pass_exit ?_ | refine X.block_normal ?_ | refine X.block_ret ?_ | refine X.block_exit ?_ | refine C.zt ?_ | refine C.zf ?_ | refine X.zo ?_)
      refine R.ldt (v := .raw (.bool (has.getD K false))) ttok rfl rfl rfl (by rw [Nat.zero_add]; rfl) rfl (by kernel_rfl) (by omega) ?_
      rw [hb]
      repeat (first | refine C.seq ?_ | refine C.region ?_ | refine R.zb ttok ?_ | refine R.zu ttok ?_ | refine R.zc ttok ?_ | refine R.za ttok ?_ | refine R.zx ?_ | refine R.zl ttok ?_ | refine R.zs ttok ?_ | refine R.z ttok ?_ | refine R.zk ?_ | refine R.zn ?_ | refine R.done ?_ | refine X.then ?_ | refine C.block ?_ | refine C.ret ?_ | refine C.skip ?_ | refine C.exit ?_ | refine X.pass_ret ?_ | refine X.pass_exit ?_ | refine X.block_normal ?_ | refine X.block_ret ?_ | refine X.block_exit ?_ | refine C.zt ?_ | refine C.zf ?_ | refine X.zo ?_)
      rw [show (l.length : Int) + 1 = (l1.length : Nat) by rw [hln hb]; rfl]
      repeat (first | refine C.seq ?_ | refine C.region ?_ | refine R.zb ttok ?_ | refine R.zu ttok ?_ | refine R.zc ttok ?_ | refine R.za ttok ?_ | refine R.zx ?_ | refine R.zl ttok ?_ | refine R.zs ttok ?_ | refine R.z ttok ?_ | refine R.zk ?_ | refine R.zn ?_ | refine R.done ?_ | refine X.then ?_ | refine C.block ?_ | refine C.ret ?_ | refine C.skip ?_ | refine C.exit ?_ | refine X.pass_ret ?_ | refine X.pass_exit ?_ | refine X.block_normal ?_ | refine X.block_ret ?_ | refine X.block_exit ?_ | refine C.zt ?_ | refine C.zf ?_ | refine X.zo ?_)
      refine R.ix ttok K rfl rfl rfl rfl rfl (by kernel_rfl) rfl (by omega) (by show _ < _; omega) rfl ?_
      rw [Nat.zero_add]
      refine R.stt (zs := [.raw (.bool true)]) ttok rfl rfl rfl rfl rfl rfl rfl (by kernel_rfl) (by omega) (by show 0 + 1 ≤ 1; omega) ?_
      rw [upd_bo has K true (by omega)]
      repeat (first | refine C.seq ?_ | refine C.region ?_ | refine R.zb ttok ?_ | refine R.zu ttok ?_ | refine R.zc ttok ?_ | refine R.za ttok ?_ | refine R.zx ?_ | refine R.zl ttok ?_ | refine R.zs ttok ?_ | refine R.z ttok ?_ | refine R.zk ?_ | refine R.zn ?_ | refine R.done ?_ | refine X.then ?_ | refine C.block ?_ | refine C.ret ?_ | refine C.skip ?_ | refine C.exit ?_ | refine X.pass_ret ?_ | refine X.pass_exit ?_ | refine X.block_normal ?_ | refine X.block_ret ?_ | refine X.block_exit ?_ | refine C.zt ?_ | refine C.zf ?_ | refine X.zo ?_)
      refine R.rem ((i % V : Nat) : Int) rfl rfl rfl (by kernel_rfl) (by omega) rfl ?_
      repeat (first | refine C.seq ?_ | refine C.region ?_ | refine R.zb ttok ?_ | refine R.zu ttok ?_ | refine R.zc ttok ?_ | refine R.za ttok ?_ | refine R.zx ?_ | refine R.zl ttok ?_ | refine R.zs ttok ?_ | refine R.z ttok ?_ | refine R.zk ?_ | refine R.zn ?_ | refine R.done ?_ | refine X.then ?_ | refine C.block ?_ | refine C.ret ?_ | refine C.skip ?_ | refine C.exit ?_ | refine X.pass_ret ?_ | refine X.pass_exit ?_ | refine X.block_normal ?_ | refine X.block_ret ?_ | refine X.block_exit ?_ | refine C.zt ?_ | refine C.zf ?_ | refine X.zo ?_)
      by_cases hv : ((i % V : Nat) : Int) = 0
      · have hbd : i / 2 + V ≤ 9223372036854775807 := by
          rcases Nat.eq_zero_or_pos i with h0 | h0
          · subst h0; omega
          · have := Nat.le_of_dvd h0 (Nat.dvd_of_mod_eq_zero (by omega : i % V = 0))
            omega
        rw [decide_eq_true hv]
        repeat (first | refine C.seq ?_ | refine C.region ?_ | refine R.zb ttok ?_ | refine R.zu ttok ?_ | refine R.zc ttok ?_ | refine R.za ttok ?_ | refine R.zx ?_ | refine R.zl ttok ?_ | refine R.zs ttok ?_ | refine R.z ttok ?_ | refine R.zk ?_ | refine R.zn ?_ | refine R.done ?_ | refine X.then ?_ | refine C.block ?_ | refine C.ret ?_ | refine C.skip ?_ | refine C.exit ?_ | refine X.pass_ret ?_ | refine X.pass_exit ?_ | refine X.block_normal ?_ | refine X.block_ret ?_ | refine X.block_exit ?_ | refine C.zt ?_ | refine C.zf ?_ | refine X.zo ?_)
        refine R.quo ((i / 2 : Nat) : Int) rfl rfl rfl (by kernel_rfl) (by decide) (by rw [show ((i : Nat) : Int).tdiv 2 = ((i / 2 : Nat) : Int) from rfl]; exact wrap_i64 (by omega) (by omega)) ?_
        repeat (first | refine C.seq ?_ | refine C.region ?_ | refine R.zb ttok ?_ | refine R.zu ttok ?_ | refine R.zc ttok ?_ | refine R.za ttok ?_ | refine R.zx ?_ | refine R.zl ttok ?_ | refine R.zs ttok ?_ | refine R.z ttok ?_ | refine R.zk ?_ | refine R.zn ?_ | refine R.done ?_ | refine X.then ?_ | refine C.block ?_ | refine C.ret ?_ | refine C.skip ?_ | refine C.exit ?_ | refine X.pass_ret ?_ | refine X.pass_exit ?_ | refine X.block_normal ?_ | refine X.block_ret ?_ | refine X.block_exit ?_ | refine C.zt ?_ | refine C.zf ?_ | refine X.zo ?_)
        refine R.rem (((i / 2 + V) % N : Nat) : Int) rfl rfl rfl (by kernel_rfl) (by omega) (by rw [← Int.natCast_add]; rfl) ?_
        have hdN : (i / 2 + V) % N < N := Nat.mod_lt _ hN
        generalize (i / 2 + V) % N = Dd at hdN ⊢
        repeat (first | refine C.seq ?_ | refine C.region ?_ | refine R.zb ttok ?_ | refine R.zu ttok ?_ | refine R.zc ttok ?_ | refine R.za ttok ?_ | refine R.zx ?_ | refine R.zl ttok ?_ | refine R.zs ttok ?_ | refine R.z ttok ?_ | refine R.zk ?_ | refine R.zn ?_ | refine R.done ?_ | refine X.then ?_ | refine C.block ?_ | refine C.ret ?_ | refine C.skip ?_ | refine C.exit ?_ | refine X.pass_ret ?_ | refine X.pass_exit ?_ | refine X.block_normal ?_ | refine X.block_ret ?_ | refine X.block_exit ?_ | refine C.zt ?_ | refine C.zf ?_ | refine X.zo ?_)
        refine R.cl [] (name_spec Dd (by omega)) Try.call44 (by repeat (first | exact HasIn.nil | refine HasIn.same rfl rfl ?_ | refine HasIn.bro rfl ?_ | refine HasIn.ror rfl ?_ | refine HasIn.cro rfl rfl ?_)) rfl rfl rfl (fun _ => rfl) rfl (by kernel_rfl) fun _ _ => ?_
        repeat (first | refine C.seq ?_ | refine C.region ?_ | refine R.zb ttok ?_ | refine R.zu ttok ?_ | refine R.zc ttok ?_ | refine R.za ttok ?_ | refine R.zx ?_ | refine R.zl ttok ?_ | refine R.zs ttok ?_ | refine R.z ttok ?_ | refine R.zk ?_ | refine R.zn ?_ | refine R.done ?_ | refine X.then ?_ | refine C.block ?_ | refine C.ret ?_ | refine C.skip ?_ | refine C.exit ?_ | refine X.pass_ret ?_ | refine X.pass_exit ?_ | refine X.block_normal ?_ | refine X.block_ret ?_ | refine X.block_exit ?_ | refine C.zt ?_ | refine C.zf ?_ | refine X.zo ?_)
        refine R.cl [0, 3] (delI_spec l1 c1 (nm Dd) hM1.asc (by omega) hc1.1 hc1.2) Try.call43 (by repeat (first | exact HasIn.nil | refine HasIn.same rfl rfl ?_ | refine HasIn.bro rfl ?_ | refine HasIn.ror rfl ?_ | refine HasIn.cro rfl rfl ?_)) rfl rfl rfl (fun _ => rfl) rfl (by kernel_rfl) fun c2 hc2 => ?_
        have hM2 := hM1.del hdN
        have hlen2 := hM2.len
        rw [hM1.has_ hdN]
        repeat (first | refine C.seq ?_ | refine C.region ?_ | refine R.zb ttok ?_ | refine R.zu ttok ?_ | refine R.zc ttok ?_ | refine R.za ttok ?_ | refine R.zx ?_ | refine R.zl ttok ?_ | refine R.zs ttok ?_ | refine R.z ttok ?_ | refine R.zk ?_ | refine R.zn ?_ | refine R.done ?_ | refine X.then ?_ | refine C.block ?_ | refine C.ret ?_ | refine C.skip ?_ | refine C.exit ?_ | refine X.pass_ret ?_ | refine X.pass_exit ?_ | refine X.block_normal ?_ | refine X.block_ret ?_ | refine X.block_exit ?_ | refine C.zt ?_ | refine C.zf ?_ | refine X.zo ?_)
        refine R.ix ttok Dd rfl rfl rfl rfl rfl (by kernel_rfl) rfl (by omega) (by show _ < _; omega) rfl ?_
        repeat (first | refine C.seq ?_ | refine C.region ?_ | refine R.zb ttok ?_ | refine R.zu ttok ?_ | refine R.zc ttok ?_ | refine R.za ttok ?_ | refine R.zx ?_ | refine R.zl ttok ?_ | refine R.zs ttok ?_ | refine R.z ttok ?_ | refine R.zk ?_ | refine R.zn ?_ | refine R.done ?_ | refine X.then ?_ | refine C.block ?_ | refine C.ret ?_ | refine C.skip ?_ | refine C.exit ?_ | refine X.pass_ret ?_ | refine X.pass_exit ?_ | refine X.block_normal ?_ | refine X.block_ret ?_ | refine X.block_exit ?_ | refine C.zt ?_ | refine C.zf ?_ | refine X.zo ?_)
        refine R.ldt (v := .raw (.bool ((has.set K true).getD Dd false))) ttok rfl rfl rfl (by rw [Nat.zero_add]; rfl) rfl (by kernel_rfl) (by omega) ?_
        cases hb2 : (has.set K true).getD Dd false with
        | true =>
          have hl2 := del_len_old ((hM1.has_ hdN).trans hb2)
          rw [hM1.get_ hdN hb2]
          repeat (first | refine C.seq ?_ | refine C.region ?_ | refine R.zb ttok ?_ | refine R.zu ttok ?_ | refine R.zc ttok ?_ | refine R.za ttok ?_ | refine R.zx ?_ | refine R.zl ttok ?_ | refine R.zs ttok ?_ | refine R.z ttok ?_ | refine R.zk ?_ | refine R.zn ?_ | refine R.done ?_ | refine X.then ?_ | refine C.block ?_ | refine C.ret ?_ | refine C.skip ?_ | refine C.exit ?_ | refine X.pass_ret ?_ | refine X.pass_exit ?_ | refine X.block_normal ?_ | refine X.block_ret ?_ | refine X.block_exit ?_ | refine C.zt ?_ | refine C.zf ?_ | refine X.zo ?_)
          rw [decide_eq_false (show ¬ (Dd : Int) ≠ (Dd : Int) from fun h => h rfl)]
          repeat (first | refine C.seq ?_ | refine C.region ?_ | refine R.zb ttok ?_ | refine R.zu ttok ?_ | refine R.zc ttok ?_ | refine R.za ttok ?_ | refine R.zx ?_ | refine R.zl ttok ?_ | refine R.zs ttok ?_ | refine R.z ttok ?_ | refine R.zk ?_ | refine R.zn ?_ | refine R.done ?_ | refine X.then ?_ | refine C.block ?_ | refine C.ret ?_ | refine C.skip ?_ | refine C.exit ?_ | refine X.pass_ret ?_ | refine X.pass_exit ?_ | refine X.block_normal ?_ | refine X.block_ret ?_ | refine X.block_exit ?_ | refine C.zt ?_ | refine C.zf ?_ | refine X.zo ?_)
          refine R.ix ttok Dd rfl rfl rfl rfl rfl (by kernel_rfl) rfl (by omega) (by show _ < _; omega) rfl ?_
          repeat (first | refine C.seq ?_ | refine C.region ?_ | refine R.zb ttok ?_ | refine R.zu ttok ?_ | refine R.zc ttok ?_ | refine R.za ttok ?_ | refine R.zx ?_ | refine R.zl ttok ?_ | refine R.zs ttok ?_ | refine R.z ttok ?_ | refine R.zk ?_ | refine R.zn ?_ | refine R.done ?_ | refine X.then ?_ | refine C.block ?_ | refine C.ret ?_ | refine C.skip ?_ | refine C.exit ?_ | refine X.pass_ret ?_ | refine X.pass_exit ?_ | refine X.block_normal ?_ | refine X.block_ret ?_ | refine X.block_exit ?_ | refine C.zt ?_ | refine C.zf ?_ | refine X.zo ?_)
          refine R.ldt (v := .raw (.bool ((has.set K true).getD Dd false))) ttok rfl rfl rfl (by rw [Nat.zero_add]; rfl) rfl (by kernel_rfl) (by omega) ?_
          rw [hb2]
          repeat (first | refine C.seq ?_ | refine C.region ?_ | refine R.zb ttok ?_ | refine R.zu ttok ?_ | refine R.zc ttok ?_ | refine R.za ttok ?_ | refine R.zx ?_ | refine R.zl ttok ?_ | refine R.zs ttok ?_ | refine R.z ttok ?_ | refine R.zk ?_ | refine R.zn ?_ | refine R.done ?_ | refine X.then ?_ | refine C.block ?_ | refine C.ret ?_ | refine C.skip ?_ | refine C.exit ?_ | refine X.pass_ret ?_ | refine X.pass_exit ?_ | refine X.block_normal ?_ | refine X.block_ret ?_ | refine X.block_exit ?_ | refine C.zt ?_ | refine C.zf ?_ | refine X.zo ?_)
          rw [show (l1.length : Int) - 1 = ((delI l1 (nm Dd)).length : Nat) by omega]
          repeat (first | refine C.seq ?_ | refine C.region ?_ | refine R.zb ttok ?_ | refine R.zu ttok ?_ | refine R.zc ttok ?_ | refine R.za ttok ?_ | refine R.zx ?_ | refine R.zl ttok ?_ | refine R.zs ttok ?_ | refine R.z ttok ?_ | refine R.zk ?_ | refine R.zn ?_ | refine R.done ?_ | refine X.then ?_ | refine C.block ?_ | refine C.ret ?_ | refine C.skip ?_ | refine C.exit ?_ | refine X.pass_ret ?_ | refine X.pass_exit ?_ | refine X.block_normal ?_ | refine X.block_ret ?_ | refine X.block_exit ?_ | refine C.zt ?_ | refine C.zf ?_ | refine X.zo ?_)
          refine R.ix ttok Dd rfl rfl rfl rfl rfl (by kernel_rfl) rfl (by omega) (by show _ < _; omega) rfl ?_
          rw [Nat.zero_add]
          refine R.stt (zs := [.raw (.bool false)]) ttok rfl rfl rfl rfl rfl rfl rfl (by kernel_rfl) (by omega) (by show 0 + 1 ≤ 1; omega) ?_
          rw [upd_bo (has.set K true) Dd false (by omega)]
          repeat (first | refine C.seq ?_ | refine C.region ?_ | refine R.zb ttok ?_ | refine R.zu ttok ?_ | refine R.zc ttok ?_ | refine R.za ttok ?_ | refine R.zx ?_ | refine R.zl ttok ?_ | refine R.zs ttok ?_ | refine R.z ttok ?_ | refine R.zk ?_ | refine R.zn ?_ | refine R.done ?_ | refine X.then ?_ | refine C.block ?_ | refine C.ret ?_ | refine C.skip ?_ | refine C.exit ?_ | refine X.pass_ret ?_ | refine X.pass_exit ?_ | refine X.block_normal ?_ | refine X.block_ret ?_ | refine X.block_exit ?_ | refine C.zt ?_ | refine C.zf ?_ | refine X.zo ?_)
          exact X.back [(1, 4)] (delI l1 (nm Dd), c2, (has.set K true).set Dd false, i + 1) ⟨hM2, hc2.1, hc2.2, by dsimp only; omega⟩ (by dsimp only; omega) rfl (by repeat (first | exact HasT.nil | refine HasT.cons rfl rfl rfl ?_)) (by repeat (first | exact HasH.nil | refine HasH.same rfl rfl rfl trivial ?_ | refine HasH.same rfl rfl rfl rfl ?_ | refine HasH.same rfl rfl rfl (fun _ _ => rfl) ?_ | refine HasH.ros rfl rfl ?_ | refine HasH.rox rfl rfl ?_ | refine HasH.rob rfl rfl ?_)) rfl (fun _ h => h)
        | false =>
          have hl2 := del_len_new ((hM1.has_ hdN).trans hb2)
          repeat (first | refine C.seq ?_ | refine C.region ?_ | refine R.zb ttok ?_ | refine R.zu ttok ?_ | refine R.zc ttok ?_ | refine R.za ttok ?_ | refine R.zx ?_ | refine R.zl ttok ?_ | refine R.zs ttok ?_ | refine R.z ttok ?_ | refine R.zk ?_ | refine R.zn ?_ | refine R.done ?_ | refine X.then ?_ | refine C.block ?_ | refine C.ret ?_ | refine C.skip ?_ | refine C.exit ?_ | refine X.pass_ret ?_ | refine X.pass_exit ?_ | refine X.block_normal ?_ | refine X.block_ret ?_ | refine X.block_exit ?_ | refine C.zt ?_ | refine C.zf ?_ | refine X.zo ?_)
          refine R.ix ttok Dd rfl rfl rfl rfl rfl (by kernel_rfl) rfl (by omega) (by show _ < _; omega) rfl ?_
          repeat (first | refine C.seq ?_ | refine C.region ?_ | refine R.zb ttok ?_ | refine R.zu ttok ?_ | refine R.zc ttok ?_ | refine R.za ttok ?_ | refine R.zx ?_ | refine R.zl ttok ?_ | refine R.zs ttok ?_ | refine R.z ttok ?_ | refine R.zk ?_ | refine R.zn ?_ | refine R.done ?_ | refine X.then ?_ | refine C.block ?_ | refine C.ret ?_ | refine C.skip ?_ | refine C.exit ?_ | refine X.pass_ret ?_ | refine X.pass_exit ?_ | refine X.block_normal ?_ | refine X.block_ret ?_ | refine X.block_exit ?_ | refine C.zt ?_ | refine C.zf ?_ | refine X.zo ?_)
          refine R.ldt (v := .raw (.bool ((has.set K true).getD Dd false))) ttok rfl rfl rfl (by rw [Nat.zero_add]; rfl) rfl (by kernel_rfl) (by omega) ?_
          rw [hb2]
          repeat (first | refine C.seq ?_ | refine C.region ?_ | refine R.zb ttok ?_ | refine R.zu ttok ?_ | refine R.zc ttok ?_ | refine R.za ttok ?_ | refine R.zx ?_ | refine R.zl ttok ?_ | refine R.zs ttok ?_ | refine R.z ttok ?_ | refine R.zk ?_ | refine R.zn ?_ | refine R.done ?_ | refine X.then ?_ | refine C.block ?_ | refine C.ret ?_ | refine C.skip ?_ | refine C.exit ?_ | refine X.pass_ret ?_ | refine X.pass_exit ?_ | refine X.block_normal ?_ | refine X.block_ret ?_ | refine X.block_exit ?_ | refine C.zt ?_ | refine C.zf ?_ | refine X.zo ?_)
          rw [show (l1.length : Int) = ((delI l1 (nm Dd)).length : Nat) by omega]
          repeat (first | refine C.seq ?_ | refine C.region ?_ | refine R.zb ttok ?_ | refine R.zu ttok ?_ | refine R.zc ttok ?_ | refine R.za ttok ?_ | refine R.zx ?_ | refine R.zl ttok ?_ | refine R.zs ttok ?_ | refine R.z ttok ?_ | refine R.zk ?_ | refine R.zn ?_ | refine R.done ?_ | refine X.then ?_ | refine C.block ?_ | refine C.ret ?_ | refine C.skip ?_ | refine C.exit ?_ | refine X.pass_ret ?_ | refine X.pass_exit ?_ | refine X.block_normal ?_ | refine X.block_ret ?_ | refine X.block_exit ?_ | refine C.zt ?_ | refine C.zf ?_ | refine X.zo ?_)
          refine R.ix ttok Dd rfl rfl rfl rfl rfl (by kernel_rfl) rfl (by omega) (by show _ < _; omega) rfl ?_
          rw [Nat.zero_add]
          refine R.stt (zs := [.raw (.bool false)]) ttok rfl rfl rfl rfl rfl rfl rfl (by kernel_rfl) (by omega) (by show 0 + 1 ≤ 1; omega) ?_
          rw [upd_bo (has.set K true) Dd false (by omega)]
          repeat (first | refine C.seq ?_ | refine C.region ?_ | refine R.zb ttok ?_ | refine R.zu ttok ?_ | refine R.zc ttok ?_ | refine R.za ttok ?_ | refine R.zx ?_ | refine R.zl ttok ?_ | refine R.zs ttok ?_ | refine R.z ttok ?_ | refine R.zk ?_ | refine R.zn ?_ | refine R.done ?_ | refine X.then ?_ | refine C.block ?_ | refine C.ret ?_ | refine C.skip ?_ | refine C.exit ?_ | refine X.pass_ret ?_ | refine X.pass_exit ?_ | refine X.block_normal ?_ | refine X.block_ret ?_ | refine X.block_exit ?_ | refine C.zt ?_ | refine C.zf ?_ | refine X.zo ?_)
          exact X.back [(1, 4)] (delI l1 (nm Dd), c2, (has.set K true).set Dd false, i + 1) ⟨hM2, hc2.1, hc2.2, by dsimp only; omega⟩ (by dsimp only; omega) rfl (by repeat (first | exact HasT.nil | refine HasT.cons rfl rfl rfl ?_)) (by repeat (first | exact HasH.nil | refine HasH.same rfl rfl rfl trivial ?_ | refine HasH.same rfl rfl rfl rfl ?_ | refine HasH.same rfl rfl rfl (fun _ _ => rfl) ?_ | refine HasH.ros rfl rfl ?_ | refine HasH.rox rfl rfl ?_ | refine HasH.rob rfl rfl ?_)) rfl (fun _ h => h)
      · rw [decide_eq_false hv]
        repeat (first | refine C.seq ?_ | refine C.region ?_ | refine R.zb ttok ?_ | refine R.zu ttok ?_ | refine R.zc ttok ?_ | refine R.za ttok ?_ | refine R.zx ?_ | refine R.zl ttok ?_ | refine R.zs ttok ?_ | refine R.z ttok ?_ | refine R.zk ?_ | refine R.zn ?_ | refine R.done ?_ | refine X.then ?_ | refine C.block ?_ | refine C.ret ?_ | refine C.skip ?_ | refine C.exit ?_ | refine X.pass_ret ?_ | refine X.pass_exit ?_ | refine X.block_normal ?_ | refine X.block_ret ?_ | refine X.block_exit ?_ | refine C.zt ?_ | refine C.zf ?_ | refine X.zo ?_)
        exact X.back [(1, 3)] (l1, c1, has.set K true, i + 1) ⟨hM1, hc1.1, hc1.2, by dsimp only; omega⟩ (by dsimp only; omega) rfl (by repeat (first | exact HasT.nil | refine HasT.cons rfl rfl rfl ?_)) (by repeat (first | exact HasH.nil | refine HasH.same rfl rfl rfl trivial ?_ | refine HasH.same rfl rfl rfl rfl ?_ | refine HasH.same rfl rfl rfl (fun _ _ => rfl) ?_ | refine HasH.ros rfl rfl ?_ | refine HasH.rox rfl rfl ?_ | refine HasH.rob rfl rfl ?_)) rfl (fun _ h => h)
  · rw [decide_eq_false hi]
    repeat (first | refine C.seq ?_ | refine C.region ?_ | refine R.zb ttok ?_ | refine R.zu ttok ?_ | refine R.zc ttok ?_ | refine R.za ttok ?_ | refine R.zx ?_ | refine R.zl ttok ?_ | refine R.zs ttok ?_ | refine R.z ttok ?_ | refine R.zk ?_ | refine R.zn ?_ | refine R.done ?_ | refine X.then ?_ | refine C.block ?_ | refine C.ret ?_ | refine C.skip ?_ | refine C.exit ?_ | refine X.pass_ret ?_ | refine X.pass_exit ?_ | refine X.block_normal ?_ | refine X.block_ret ?_ | refine X.block_exit ?_ | refine C.zt ?_ | refine C.zf ?_ | refine X.zo ?_)
    refine R.cl [0, 1] (lenI_spec l c) Try.call31 (by repeat (first | exact HasIn.nil | refine HasIn.same rfl rfl ?_ | refine HasIn.ros rfl ?_ | refine HasIn.other rfl (fun e => by cases e) (fun ρ x w hh => tab_ro hh) ?_)) rfl rfl rfl (fun _ => rfl) rfl (by kernel_rfl) fun _ _ => ?_
    repeat (first | refine C.seq ?_ | refine C.region ?_ | refine R.zb ttok ?_ | refine R.zu ttok ?_ | refine R.zc ttok ?_ | refine R.za ttok ?_ | refine R.zx ?_ | refine R.zl ttok ?_ | refine R.zs ttok ?_ | refine R.z ttok ?_ | refine R.zk ?_ | refine R.zn ?_ | refine R.done ?_ | refine X.then ?_ | refine C.block ?_ | refine C.ret ?_ | refine C.skip ?_ | refine C.exit ?_ | refine X.pass_ret ?_ | refine X.pass_exit ?_ | refine X.block_normal ?_ | refine X.block_ret ?_ | refine X.block_exit ?_ | refine C.zt ?_ | refine C.zf ?_ | refine X.zo ?_)
    rw [decide_eq_false (show ¬ (l.length : Int) ≠ (l.length : Nat) from fun h => h rfl)]
    repeat (first | refine C.seq ?_ | refine C.region ?_ | refine R.zb ttok ?_ | refine R.zu ttok ?_ | refine R.zc ttok ?_ | refine R.za ttok ?_ | refine R.zx ?_ | refine R.zl ttok ?_ | refine R.zs ttok ?_ | refine R.z ttok ?_ | refine R.zk ?_ | refine R.zn ?_ | refine R.done ?_ | refine X.then ?_ | refine C.block ?_ | refine C.ret ?_ | refine C.skip ?_ | refine C.exit ?_ | refine X.pass_ret ?_ | refine X.pass_exit ?_ | refine X.block_normal ?_ | refine X.block_ret ?_ | refine X.block_exit ?_ | refine C.zt ?_ | refine C.zf ?_ | refine X.zo ?_)
    subst hlen
    rw [show (has.length : Int) - 1 = ((has.length - 1 : Nat) : Int) by omega]
    refine R.cl [0, 1, 2] (gone_spec l c has has.length 0 (has.length - 1) hM (Nat.zero_le _) (by omega)) Try.call45 (by repeat (first | exact HasIn.nil | refine HasIn.same rfl rfl ?_ | refine HasIn.ros rfl ?_ | refine HasIn.other rfl (fun e => by cases e) (fun ρ x w hh => tab_ro hh) ?_)) rfl rfl rfl (fun _ => rfl) rfl (by kernel_rfl) fun _ _ => ?_
    repeat (first | refine C.seq ?_ | refine C.region ?_ | refine R.zb ttok ?_ | refine R.zu ttok ?_ | refine R.zc ttok ?_ | refine R.za ttok ?_ | refine R.zx ?_ | refine R.zl ttok ?_ | refine R.zs ttok ?_ | refine R.z ttok ?_ | refine R.zk ?_ | refine R.zn ?_ | refine R.done ?_ | refine X.then ?_ | refine C.block ?_ | refine C.ret ?_ | refine C.skip ?_ | refine C.exit ?_ | refine X.pass_ret ?_ | refine X.pass_exit ?_ | refine X.block_normal ?_ | refine X.block_ret ?_ | refine X.block_exit ?_ | refine C.zt ?_ | refine C.zf ?_ | refine X.zo ?_)
    refine R.cl [0, 1, 2] (gone_spec l c has has.length A B hM hAB hBN) Try.call45 (by repeat (first | exact HasIn.nil | refine HasIn.same rfl rfl ?_ | refine HasIn.ros rfl ?_ | refine HasIn.other rfl (fun e => by cases e) (fun ρ x w hh => tab_ro hh) ?_)) rfl rfl rfl (fun _ => rfl) rfl (by kernel_rfl) fun _ _ => ?_
    repeat (first | refine C.seq ?_ | refine C.region ?_ | refine R.zb ttok ?_ | refine R.zu ttok ?_ | refine R.zc ttok ?_ | refine R.za ttok ?_ | refine R.zx ?_ | refine R.zl ttok ?_ | refine R.zs ttok ?_ | refine R.z ttok ?_ | refine R.zk ?_ | refine R.zn ?_ | refine R.done ?_ | refine X.then ?_ | refine C.block ?_ | refine C.ret ?_ | refine C.skip ?_ | refine C.exit ?_ | refine X.pass_ret ?_ | refine X.pass_exit ?_ | refine X.block_normal ?_ | refine X.block_ret ?_ | refine X.block_exit ?_ | refine C.zt ?_ | refine C.zf ?_ | refine X.zo ?_)
    refine C.loop (σ := Nat × Nat) (L2 := 3) (fun s => Cut l s.2 s.1 ∧ s.1 ≤ has.length) (fun s => [(0, .raw (.int .i64 has.length)), (10, .raw (.bool false)), (11, .ptr 0 0 0 0), (12, .sl 2 1 0 has.length has.length), (19, .raw (.string (lastK l s.2))), (20, .raw (.int .i64 (s.1 : Nat)))])
      (fun s => [(0, tbI 1 l.length c), (1, tI l c), (2, tBo has.length has)]) _ (fun s => has.length - s.1) [] (0, 0) ⟨⟨Nat.zero_le _, fun j hj => by omega, fun j h1 h2 => by
        obtain ⟨a, _, _, e⟩ := hM.at_ h2
        rw [e]; show ((0 : Nat) : Int) ≤ a; omega⟩, Nat.zero_le _⟩ rfl (by repeat (first | exact HasT.nil | refine HasT.cons rfl rfl rfl ?_)) (by repeat (first | exact HasH.nil | refine HasH.same rfl rfl rfl trivial ?_ | refine HasH.same rfl rfl rfl rfl ?_ | refine HasH.same rfl rfl rfl (fun _ _ => rfl) ?_ | refine HasH.ros rfl rfl ?_ | refine HasH.rox rfl rfl ?_ | refine HasH.rob rfl rfl ?_)) rfl (fun _ h => h) ?_
    rintro ⟨k, r⟩ ⟨hc, hkn⟩
    dsimp only at hc hkn ⊢
    repeat (first | refine C.seq ?_ | refine C.region ?_ | refine R.zb ttok ?_ | refine R.zu ttok ?_ | refine R.zc ttok ?_ | refine R.za ttok ?_ | refine R.zx ?_ | refine R.zl ttok ?_ | refine R.zs ttok ?_ | refine R.z ttok ?_ | refine R.zk ?_ | refine R.zn ?_ | refine R.done ?_ | refine X.then ?_ | refine C.block ?_ | refine C.ret ?_ | refine C.skip ?_ | refine C.exit ?_ | refine X.pass_ret ?_ | refine X.pass_exit ?_ | refine X.block_normal ?_ | refine X.block_ret ?_ | refine X.block_exit ?_ | refine C.zt ?_ | refine C.zf ?_ | refine X.zo ?_)
    by_cases hk : (k : Int) < (has.length : Nat)
    · have hk' : k < has.length := by omega
      rw [decide_eq_true hk]
      repeat (first | refine C.seq ?_ | refine C.region ?_ | refine R.zb ttok ?_ | refine R.zu ttok ?_ | refine R.zc ttok ?_ | refine R.za ttok ?_ | refine R.zx ?_ | refine R.zl ttok ?_ | refine R.zs ttok ?_ | refine R.z ttok ?_ | refine R.zk ?_ | refine R.zn ?_ | refine R.done ?_ | refine X.then ?_ | refine C.block ?_ | refine C.ret ?_ | refine C.skip ?_ | refine C.exit ?_ | refine X.pass_ret ?_ | refine X.pass_exit ?_ | refine X.block_normal ?_ | refine X.block_ret ?_ | refine X.block_exit ?_ | refine C.zt ?_ | refine C.zf ?_ | refine X.zo ?_)
      refine R.cl [] (name_spec k (by omega)) Try.call44 (by repeat (first | exact HasIn.nil | refine HasIn.same rfl rfl ?_ | refine HasIn.bro rfl ?_ | refine HasIn.ror rfl ?_ | refine HasIn.cro rfl rfl ?_)) rfl rfl rfl (fun _ => rfl) rfl (by kernel_rfl) fun _ _ => ?_
      repeat (first | refine C.seq ?_ | refine C.region ?_ | refine R.zb ttok ?_ | refine R.zu ttok ?_ | refine R.zc ttok ?_ | refine R.za ttok ?_ | refine R.zx ?_ | refine R.zl ttok ?_ | refine R.zs ttok ?_ | refine R.z ttok ?_ | refine R.zk ?_ | refine R.zn ?_ | refine R.done ?_ | refine X.then ?_ | refine C.block ?_ | refine C.ret ?_ | refine C.skip ?_ | refine C.exit ?_ | refine X.pass_ret ?_ | refine X.pass_exit ?_ | refine X.block_normal ?_ | refine X.block_ret ?_ | refine X.block_exit ?_ | refine C.zt ?_ | refine C.zf ?_ | refine X.zo ?_)
      refine R.cl [0, 1] (getI_spec l c (nm k) hM.asc (by omega)) Try.call41 (by repeat (first | exact HasIn.nil | refine HasIn.same rfl rfl ?_ | refine HasIn.ros rfl ?_ | refine HasIn.other rfl (fun e => by cases e) (fun ρ x w hh => tab_ro hh) ?_)) rfl rfl rfl (fun _ => rfl) rfl (by kernel_rfl) fun _ _ => ?_
      rw [hM.has_ hk']
      repeat (first | refine C.seq ?_ | refine C.region ?_ | refine R.zb ttok ?_ | refine R.zu ttok ?_ | refine R.zc ttok ?_ | refine R.za ttok ?_ | refine R.zx ?_ | refine R.zl ttok ?_ | refine R.zs ttok ?_ | refine R.z ttok ?_ | refine R.zk ?_ | refine R.zn ?_ | refine R.done ?_ | refine X.then ?_ | refine C.block ?_ | refine C.ret ?_ | refine C.skip ?_ | refine C.exit ?_ | refine X.pass_ret ?_ | refine X.pass_exit ?_ | refine X.block_normal ?_ | refine X.block_ret ?_ | refine X.block_exit ?_ | refine C.zt ?_ | refine C.zf ?_ | refine X.zo ?_)
      refine R.ix ttok k rfl rfl rfl rfl rfl (by kernel_rfl) rfl (by omega) (by show _ < _; omega) rfl ?_
      repeat (first | refine C.seq ?_ | refine C.region ?_ | refine R.zb ttok ?_ | refine R.zu ttok ?_ | refine R.zc ttok ?_ | refine R.za ttok ?_ | refine R.zx ?_ | refine R.zl ttok ?_ | refine R.zs ttok ?_ | refine R.z ttok ?_ | refine R.zk ?_ | refine R.zn ?_ | refine R.done ?_ | refine X.then ?_ | refine C.block ?_ | refine C.ret ?_ | refine C.skip ?_ | refine C.exit ?_ | refine X.pass_ret ?_ | refine X.pass_exit ?_ | refine X.block_normal ?_ | refine X.block_ret ?_ | refine X.block_exit ?_ | refine C.zt ?_ | refine C.zf ?_ | refine X.zo ?_)
      refine R.ldt (v := .raw (.bool (has.getD k false))) ttok rfl rfl rfl (by rw [Nat.zero_add]; rfl) rfl (by kernel_rfl) (by omega) ?_
      cases hb : has.getD k false with
      | true =>
        obtain ⟨n1, n2, n3⟩ := hM.next hc hk' hb
        rw [hM.get_ hk' hb]
        repeat (first | refine C.seq ?_ | refine C.region ?_ | refine R.zb ttok ?_ | refine R.zu ttok ?_ | refine R.zc ttok ?_ | refine R.za ttok ?_ | refine R.zx ?_ | refine R.zl ttok ?_ | refine R.zs ttok ?_ | refine R.z ttok ?_ | refine R.zk ?_ | refine R.zn ?_ | refine R.done ?_ | refine X.then ?_ | refine C.block ?_ | refine C.ret ?_ | refine C.skip ?_ | refine C.exit ?_ | refine X.pass_ret ?_ | refine X.pass_exit ?_ | refine X.block_normal ?_ | refine X.block_ret ?_ | refine X.block_exit ?_ | refine C.zt ?_ | refine C.zf ?_ | refine X.zo ?_)
        rw [decide_eq_false (show ¬ (k : Int) ≠ (k : Int) from fun h => h rfl)]
        repeat (first | refine C.seq ?_ | refine C.region ?_ | refine R.zb ttok ?_ | refine R.zu ttok ?_ | refine R.zc ttok ?_ | refine R.za ttok ?_ | refine R.zx ?_ | refine R.zl ttok ?_ | refine R.zs ttok ?_ | refine R.z ttok ?_ | refine R.zk ?_ | refine R.zn ?_ | refine R.done ?_ | refine X.then ?_ | refine C.block ?_ | refine C.ret ?_ | refine C.skip ?_ | refine C.exit ?_ | refine X.pass_ret ?_ | refine X.pass_exit ?_ | refine X.block_normal ?_ | refine X.block_ret ?_ | refine X.block_exit ?_ | refine C.zt ?_ | refine C.zf ?_ | refine X.zo ?_)
        refine R.ix ttok k rfl rfl rfl rfl rfl (by kernel_rfl) rfl (by omega) (by show _ < _; omega) rfl ?_
        repeat (first | refine C.seq ?_ | refine C.region ?_ | refine R.zb ttok ?_ | refine R.zu ttok ?_ | refine R.zc ttok ?_ | refine R.za ttok ?_ | refine R.zx ?_ | refine R.zl ttok ?_ | refine R.zs ttok ?_ | refine R.z ttok ?_ | refine R.zk ?_ | refine R.zn ?_ | refine R.done ?_ | refine X.then ?_ | refine C.block ?_ | refine C.ret ?_ | refine C.skip ?_ | refine C.exit ?_ | refine X.pass_ret ?_ | refine X.pass_exit ?_ | refine X.block_normal ?_ | refine X.block_ret ?_ | refine X.block_exit ?_ | refine C.zt ?_ | refine C.zf ?_ | refine X.zo ?_)
        refine R.ldt (v := .raw (.bool (has.getD k false))) ttok rfl rfl rfl (by rw [Nat.zero_add]; rfl) rfl (by kernel_rfl) (by omega) ?_
        rw [hb]
        repeat (first | refine C.seq ?_ | refine C.region ?_ | refine R.zb ttok ?_ | refine R.zu ttok ?_ | refine R.zc ttok ?_ | refine R.za ttok ?_ | refine R.zx ?_ | refine R.zl ttok ?_ | refine R.zs ttok ?_ | refine R.z ttok ?_ | refine R.zk ?_ | refine R.zn ?_ | refine R.done ?_ | refine X.then ?_ | refine C.block ?_ | refine C.ret ?_ | refine C.skip ?_ | refine C.exit ?_ | refine X.pass_ret ?_ | refine X.pass_exit ?_ | refine X.block_normal ?_ | refine X.block_ret ?_ | refine X.block_exit ?_ | refine C.zt ?_ | refine C.zf ?_ | refine X.zo ?_)
        refine R.cl [0, 1] (nextI_spec l c (lastK l r) hM.asc (by omega)) Try.call35 (by repeat (first | exact HasIn.nil | refine HasIn.same rfl rfl ?_ | refine HasIn.ros rfl ?_ | refine HasIn.other rfl (fun e => by cases e) (fun ρ x w hh => tab_ro hh) ?_)) rfl rfl rfl (fun _ => rfl) rfl (by kernel_rfl) fun _ _ => ?_
        rw [above_last hM.asc hc.le (fun _ h => hM.nn h), decide_eq_true n1, show (l.getD r zI).1 = nm k by rw [n2]]
        repeat (first | refine C.seq ?_ | refine C.region ?_ | refine R.zb ttok ?_ | refine R.zu ttok ?_ | refine R.zc ttok ?_ | refine R.za ttok ?_ | refine R.zx ?_ | refine R.zl ttok ?_ | refine R.zs ttok ?_ | refine R.z ttok ?_ | refine R.zk ?_ | refine R.zn ?_ | refine R.done ?_ | refine X.then ?_ | refine C.block ?_ | refine C.ret ?_ | refine C.skip ?_ | refine C.exit ?_ | refine X.pass_ret ?_ | refine X.pass_exit ?_ | refine X.block_normal ?_ | refine X.block_ret ?_ | refine X.block_exit ?_ | refine C.zt ?_ | refine C.zf ?_ | refine X.zo ?_)
        refine R.cl [] (name_spec k (by omega)) Try.call44 (by repeat (first | exact HasIn.nil | refine HasIn.same rfl rfl ?_ | refine HasIn.bro rfl ?_ | refine HasIn.ror rfl ?_ | refine HasIn.cro rfl rfl ?_)) rfl rfl rfl (fun _ => rfl) rfl (by kernel_rfl) fun _ _ => ?_
        repeat (first | refine C.seq ?_ | refine C.region ?_ | refine R.zb ttok ?_ | refine R.zu ttok ?_ | refine R.zc ttok ?_ | refine R.za ttok ?_ | refine R.zx ?_ | refine R.zl ttok ?_ | refine R.zs ttok ?_ | refine R.z ttok ?_ | refine R.zk ?_ | refine R.zn ?_ | refine R.done ?_ | refine X.then ?_ | refine C.block ?_ | refine C.ret ?_ | refine C.skip ?_ | refine C.exit ?_ | refine X.pass_ret ?_ | refine X.pass_exit ?_ | refine X.block_normal ?_ | refine X.block_ret ?_ | refine X.block_exit ?_ | refine C.zt ?_ | refine C.zf ?_ | refine X.zo ?_)
        rw [decide_eq_false (show ¬ (nm k).toList ≠ (nm k).toList from fun h => h rfl)]
        repeat (first | refine C.seq ?_ | refine C.region ?_ | refine R.zb ttok ?_ | refine R.zu ttok ?_ | refine R.zc ttok ?_ | refine R.za ttok ?_ | refine R.zx ?_ | refine R.zl ttok ?_ | refine R.zs ttok ?_ | refine R.z ttok ?_ | refine R.zk ?_ | refine R.zn ?_ | refine R.done ?_ | refine X.then ?_ | refine C.block ?_ | refine C.ret ?_ | refine C.skip ?_ | refine C.exit ?_ | refine X.pass_ret ?_ | refine X.pass_exit ?_ | refine X.block_normal ?_ | refine X.block_ret ?_ | refine X.block_exit ?_ | refine C.zt ?_ | refine C.zf ?_ | refine X.zo ?_)
        rw [show nm k = lastK l (r + 1) by rw [lastK_succ, n2]]
        exact X.back [] (k + 1, r + 1) ⟨n3, by dsimp only; omega⟩ (by dsimp only; omega) rfl (by repeat (first | exact HasT.nil | refine HasT.cons rfl rfl rfl ?_)) (by repeat (first | exact HasH.nil | refine HasH.same rfl rfl rfl trivial ?_ | refine HasH.same rfl rfl rfl rfl ?_ | refine HasH.same rfl rfl rfl (fun _ _ => rfl) ?_ | refine HasH.ros rfl rfl ?_ | refine HasH.rox rfl rfl ?_ | refine HasH.rob rfl rfl ?_)) rfl (fun _ h => h)
      | false =>
        have n3 := hM.skip hc hb
        repeat (first | refine C.seq ?_ | refine C.region ?_ | refine R.zb ttok ?_ | refine R.zu ttok ?_ | refine R.zc ttok ?_ | refine R.za ttok ?_ | refine R.zx ?_ | refine R.zl ttok ?_ | refine R.zs ttok ?_ | refine R.z ttok ?_ | refine R.zk ?_ | refine R.zn ?_ | refine R.done ?_ | refine X.then ?_ | refine C.block ?_ | refine C.ret ?_ | refine C.skip ?_ | refine C.exit ?_ | refine X.pass_ret ?_ | refine X.pass_exit ?_ | refine X.block_normal ?_ | refine X.block_ret ?_ | refine X.block_exit ?_ | refine C.zt ?_ | refine C.zf ?_ | refine X.zo ?_)
        refine R.ix ttok k rfl rfl rfl rfl rfl (by kernel_rfl) rfl (by omega) (by show _ < _; omega) rfl ?_
        repeat (first | refine C.seq ?_ | refine C.region ?_ | refine R.zb ttok ?_ | refine R.zu ttok ?_ | refine R.zc ttok ?_ | refine R.za ttok ?_ | refine R.zx ?_ | refine R.zl ttok ?_ | refine R.zs ttok ?_ | refine R.z ttok ?_ | refine R.zk ?_ | refine R.zn ?_ | refine R.done ?_ | refine X.then ?_ | refine C.block ?_ | refine C.ret ?_ | refine C.skip ?_ | refine C.exit ?_ | refine X.pass_ret ?_ | refine X.pass_exit ?_ | refine X.block_normal ?_ | refine X.block_ret ?_ | refine X.block_exit ?_ | refine C.zt ?_ | refine C.zf ?_ | refine X.zo ?_)
        refine R.ldt (v := .raw (.bool (has.getD k false))) ttok rfl rfl rfl (by rw [Nat.zero_add]; rfl) rfl (by kernel_rfl) (by omega) ?_
        rw [hb]
        repeat (first | refine C.seq ?_ | refine C.region ?_ | refine R.zb ttok ?_ | refine R.zu ttok ?_ | refine R.zc ttok ?_ | refine R.za ttok ?_ | refine R.zx ?_ | refine R.zl ttok ?_ | refine R.zs ttok ?_ | refine R.z ttok ?_ | refine R.zk ?_ | refine R.zn ?_ | refine R.done ?_ | refine X.then ?_ | refine C.block ?_ | refine C.ret ?_ | refine C.skip ?_ | refine C.exit ?_ | refine X.pass_ret ?_ | refine X.pass_exit ?_ | refine X.block_normal ?_ | refine X.block_ret ?_ | refine X.block_exit ?_ | refine C.zt ?_ | refine C.zf ?_ | refine X.zo ?_)
        exact X.back [] (k + 1, r) ⟨n3, by dsimp only; omega⟩ (by dsimp only; omega) rfl (by repeat (first | exact HasT.nil | refine HasT.cons rfl rfl rfl ?_)) (by repeat (first | exact HasH.nil | refine HasH.same rfl rfl rfl trivial ?_ | refine HasH.same rfl rfl rfl rfl ?_ | refine HasH.same rfl rfl rfl (fun _ _ => rfl) ?_ | refine HasH.ros rfl rfl ?_ | refine HasH.rox rfl rfl ?_ | refine HasH.rob rfl rfl ?_)) rfl (fun _ h => h)
    · have hkl : k = has.length := by omega
      subst hkl
      have hrl : r = l.length := by
        rcases Nat.lt_or_ge r l.length with h1 | h1
        · have h2 := hc.hi r (Nat.le_refl _) h1
          obtain ⟨a, a1, _, e⟩ := hM.at_ h1
          rw [e] at h2
          have h2 : (has.length : Int) ≤ a := h2
          omega
        · have := hc.le; omega
      rw [decide_eq_false hk]
      repeat (first | refine C.seq ?_ | refine C.region ?_ | refine R.zb ttok ?_ | refine R.zu ttok ?_ | refine R.zc ttok ?_ | refine R.za ttok ?_ | refine R.zx ?_ | refine R.zl ttok ?_ | refine R.zs ttok ?_ | refine R.z ttok ?_ | refine R.zk ?_ | refine R.zn ?_ | refine R.done ?_ | refine X.then ?_ | refine C.block ?_ | refine C.ret ?_ | refine C.skip ?_ | refine C.exit ?_ | refine X.pass_ret ?_ | refine X.pass_exit ?_ | refine X.block_normal ?_ | refine X.block_ret ?_ | refine X.block_exit ?_ | refine C.zt ?_ | refine C.zf ?_ | refine X.zo ?_)
      refine R.cl [0, 1] (nextI_spec l c (lastK l r) hM.asc (by omega)) Try.call35 (by repeat (first | exact HasIn.nil | refine HasIn.same rfl rfl ?_ | refine HasIn.ros rfl ?_ | refine HasIn.other rfl (fun e => by cases e) (fun ρ x w hh => tab_ro hh) ?_)) rfl rfl rfl (fun _ => rfl) rfl (by kernel_rfl) fun _ _ => ?_
      rw [above_last hM.asc hc.le (fun _ h => hM.nn h), decide_eq_false (show ¬ r < l.length by omega)]
      repeat (first | refine C.seq ?_ | refine C.region ?_ | refine R.zb ttok ?_ | refine R.zu ttok ?_ | refine R.zc ttok ?_ | refine R.za ttok ?_ | refine R.zx ?_ | refine R.zl ttok ?_ | refine R.zs ttok ?_ | refine R.z ttok ?_ | refine R.zk ?_ | refine R.zn ?_ | refine R.done ?_ | refine X.then ?_ | refine C.block ?_ | refine C.ret ?_ | refine C.skip ?_ | refine C.exit ?_ | refine X.pass_ret ?_ | refine X.pass_exit ?_ | refine X.block_normal ?_ | refine X.block_ret ?_ | refine X.block_exit ?_ | refine C.zt ?_ | refine C.zf ?_ | refine X.zo ?_)
      refine R.cl [] (known_spec) Try.call21 (by repeat (first | exact HasIn.nil | refine HasIn.same rfl rfl ?_ | refine HasIn.bro rfl ?_ | refine HasIn.ror rfl ?_ | refine HasIn.cro rfl rfl ?_)) rfl rfl rfl (fun _ => rfl) rfl (by kernel_rfl) fun _ _ => ?_
      repeat (first | refine C.seq ?_ | refine C.region ?_ | refine R.zb ttok ?_ | refine R.zu ttok ?_ | refine R.zc ttok ?_ | refine R.za ttok ?_ | refine R.zx ?_ | refine R.zl ttok ?_ | refine R.zs ttok ?_ | refine R.z ttok ?_ | refine R.zk ?_ | refine R.zn ?_ | refine R.done ?_ | refine X.then ?_ | refine C.block ?_ | refine C.ret ?_ | refine C.skip ?_ | refine C.exit ?_ | refine X.pass_ret ?_ | refine X.pass_exit ?_ | refine X.block_normal ?_ | refine X.block_ret ?_ | refine X.block_exit ?_ | refine C.zt ?_ | refine C.zf ?_ | refine X.zo ?_)
      refine X.fin ttok () [] trivial rfl rfl rfl (by repeat (first | exact HasH.nil | refine HasH.same rfl rfl rfl trivial ?_ | refine HasH.same rfl rfl rfl rfl ?_ | refine HasH.same rfl rfl rfl (fun _ _ => rfl) ?_ | refine HasH.ros rfl rfl ?_)) _ (by first | exact .inl rfl | exact .inr rfl)
end
end Go.Proofs.Ytlcojlcackkhpaa
