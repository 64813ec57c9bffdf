/- The kernel, 15: append, make. No program in sight. -/
import Derived.Test.YteabncomclgncaaK14
import Derived.Maps.AppendAt
import Derived.Laws.OwnMore
namespace Go.Proofs.Yteabncomclgncaa
set_option linter.unusedVariables false
set_option linter.unusedSimpArgs false
set_option linter.unusedSectionVars false
open Go.RowKit

/-- the elements' cells, one behind the other -/
def flat {α : Type} (f : Nat → List α) : Nat → List α
  | 0 => []
  | n + 1 => flat f n ++ f n
theorem flat_length {α : Type} {f : Nat → List α} {wd : Nat} : ∀ {n : Nat}, (∀ i, i < n → (f i).length = wd) → (flat f n).length = n * wd
  | 0, _ => by simp [flat]
  | n + 1, h => by
    have := flat_length (n := n) (f := f) (wd := wd) fun i hi => h i (by omega)
    simp [flat, this, h n (by omega), Nat.add_mul]
theorem flat_get {α : Type} {f : Nat → List α} {wd : Nat} : ∀ {n : Nat}, (∀ i, i < n → (f i).length = wd) → ∀ i c, i < n → c < wd → (flat f n)[i * wd + c]? = (f i)[c]?
  | 0, _, i, c, hi, _ => by omega
  | n + 1, h, i, c, hi, hc => by
    have hl := flat_length (n := n) (f := f) (wd := wd) fun i hi => h i (by omega)
    simp only [flat]
    by_cases e : i < n
    · have h1 := Nat.mul_le_mul_right wd (show i + 1 ≤ n by omega)
      rw [Nat.add_mul, Nat.one_mul] at h1
      rw [List.getElem?_append_left (by omega)]
      exact flat_get (fun i hi => h i (by omega)) i c e hc
    · obtain rfl : i = n := by omega
      rw [List.getElem?_append_right (by omega), hl]
      congr 1
      omega
theorem flat_congr {α : Type} {f g : Nat → List α} : ∀ {n : Nat}, (∀ i, i < n → f i = g i) → flat f n = flat g n
  | 0, _ => rfl
  | n + 1, h => by simp only [flat, flat_congr (n := n) fun i hi => h i (by omega), h n (by omega)]
theorem flat_add {α : Type} (f : Nat → List α) (n : Nat) : ∀ m, flat f (n + m) = flat f n ++ flat (fun i => f (n + i)) m
  | 0 => by simp [flat]
  | m + 1 => by rw [← Nat.add_assoc]; simp only [flat, flat_add f n m, List.append_assoc]
/-- a row of cells whose first are known -/
def RowL (w : World) (r : Option Nat) (cap sz : Nat) (T : TypeId) (xs : List Value) : Prop :=
  xs.length ≤ cap * sz ∧ ((r = none ∧ cap = 0) ∨ ∃ b cur, r = some b ∧ w.heap[b]? = some (.cells cur T (0, 0)) ∧ cur.size = cap * sz ∧ cur.toList.take xs.length = xs)
theorem take_iff {cur xs : List Value} (hl : xs.length ≤ cur.length) : cur.take xs.length = xs ↔ ∀ (j : Nat) (u : Value), xs[j]? = some u → cur[j]? = some u := by
  constructor
  · intro h j u hj
    have hlt := (List.getElem?_eq_some_iff.1 hj).1
    rw [← h, List.getElem?_take, if_pos hlt] at hj
    exact hj
  · intro h
    apply List.ext_getElem?
    intro j
    rw [List.getElem?_take]
    split
    · rename_i hlt
      rw [h j _ (List.getElem?_eq_getElem hlt), List.getElem?_eq_getElem hlt]
    · rename_i hge
      rw [List.getElem?_eq_none (by omega)]
theorem bytes_row {ρ : Env} {r : Option Nat} {w : World} {p : List UInt8} {cap : Nat} {T : TypeId} : (AO.bytes p cap T).holds ρ r w ↔ RowL w r cap 1 T (p.map byteV) := by
  simp only [AO.holds, RowL, List.length_map, Nat.mul_one]
  constructor
  · rintro ⟨h1, h2⟩
    refine ⟨h1, h2.imp id ?_⟩
    rintro ⟨b, cur, hr, hb, hs, hc⟩
    refine ⟨b, cur, hr, hb, hs, ?_⟩
    have := (take_iff (cur := cur.toList) (xs := p.map byteV) (by simp; omega)).2 fun j u hj => by
      rw [List.getElem?_map] at hj
      obtain ⟨x, hx, rfl⟩ := Option.map_eq_some_iff.1 hj
      have hlt := (List.getElem?_eq_some_iff.1 hx).1
      rw [Array.getElem?_toList, hc j hlt, (List.getElem?_eq_some_iff.1 hx).2]
    rwa [List.length_map] at this
  · rintro ⟨h1, h2⟩
    refine ⟨h1, h2.imp id ?_⟩
    rintro ⟨b, cur, hr, hb, hs, hc⟩
    refine ⟨b, cur, hr, hb, hs, fun i hi => ?_⟩
    have := (take_iff (cur := cur.toList) (xs := p.map byteV) (by simp; omega)).1 (by rw [List.length_map]; exact hc) i (byteV p[i]) (by simp [hi])
    rwa [Array.getElem?_toList] at this
theorem tab_row {ρ : Env} {r : Option Nat} {w : World} {wd n0 cap : Nat} {f : Nat → List AV} {T : TypeId} (hw : 0 < wd) : (AO.tab wd n0 cap f T).holds ρ r w ↔ (n0 ≤ cap ∧ (∀ i, i < n0 → (f i).length = wd) ∧ RowL w r cap wd T (flat (fun i => AV.concs ρ (f i)) n0)) := by
  have key : (∀ i, i < n0 → (f i).length = wd) → n0 ≤ cap → ∀ cur : Array Value, cur.size = cap * wd → ((∀ i c x, i < n0 → (f i)[c]? = some x → cur[i * wd + c]? = some (x.conc ρ)) ↔ cur.toList.take (flat (fun i => AV.concs ρ (f i)) n0).length = flat (fun i => AV.concs ρ (f i)) n0) := fun hl hn cur hs => by
    have hl' : ∀ i, i < n0 → (AV.concs ρ (f i)).length = wd := fun i hi => by rw [concs_length, hl i hi]
    have hlen := flat_length hl'
    have hle := Nat.mul_le_mul_right wd hn
    rw [take_iff (by rw [hlen, Array.length_toList]; omega)]
    constructor
    · intro h j u hj
      have hlt := (List.getElem?_eq_some_iff.1 hj).1
      rw [hlen] at hlt
      have hi : j / wd < n0 := (Nat.div_lt_iff_lt_mul hw).2 hlt
      have hc : j % wd < wd := Nat.mod_lt _ hw
      have e : j / wd * wd + j % wd = j := by rw [Nat.mul_comm]; exact Nat.div_add_mod j wd
      have := flat_get hl' (j / wd) (j % wd) hi hc
      rw [e, hj] at this
      rw [concs_map, List.getElem?_map] at this
      obtain ⟨x, hx, hu⟩ := Option.map_eq_some_iff.1 this.symm
      have := h (j / wd) (j % wd) x hi hx
      rw [e] at this
      rw [Array.getElem?_toList, this, hu]
    · intro h i c x hi hx
      have hc : c < wd := by rw [← hl i hi]; exact (List.getElem?_eq_some_iff.1 hx).1
      have := flat_get hl' i c hi hc
      rw [concs_get hx] at this
      have := h _ _ this
      rwa [Array.getElem?_toList] at this
  simp only [AO.holds, RowL]
  constructor
  · rintro ⟨h1, h2, h3⟩
    have hlen := flat_length (f := fun i => AV.concs ρ (f i)) (n := n0) (wd := wd) fun i hi => by rw [concs_length, h2 i hi]
    refine ⟨h1, h2, by rw [hlen]; exact Nat.mul_le_mul_right wd h1, h3.imp id ?_⟩
    rintro ⟨b, cur, hr, hb, hs, hc⟩
    exact ⟨b, cur, hr, hb, hs, (key h2 h1 cur hs).1 hc⟩
  · rintro ⟨h1, h2, _, h3⟩
    refine ⟨h1, h2, h3.imp id ?_⟩
    rintro ⟨b, cur, hr, hb, hs, hc⟩
    exact ⟨b, cur, hr, hb, hs, (key h2 h1 cur hs).2 hc⟩
/-- where appended elements lie -/
def Src (w : World) (v : Value) (m : Nat) (news : List Value) : Prop :=
  (∃ a c, v = .slice (some a) m c ∧ ∀ j u, news[j]? = some u → w.cell? (a.add j) = some u) ∨ (∃ c, v = .slice none m c ∧ m = 0 ∧ news = [])
theorem row_owns {w : World} {r : Option Nat} {cap sz : Nat} {T : TypeId} {xs : List Value} {n0 : Nat} (h : RowL w r cap sz T xs) (hl : xs.length = n0 * sz) (hsz : 0 < sz) (hcap : cap ≤ 9223372036854775807) : w.ownsRow 0 T sz (.slice (r.map fun b => ⟨b, 0, none⟩) n0 cap) n0 xs := by
  refine ⟨hl, ?_⟩
  have hn : n0 ≤ cap := by have := h.1; rw [hl] at this; exact Nat.le_of_mul_le_mul_right this hsz
  rcases h.2 with ⟨rfl, hc⟩ | ⟨b, cur, rfl, hb, hs, ht⟩
  · left
    have : n0 = 0 := by omega
    exact ⟨by rw [this, hc]; rfl, this⟩
  · right
    exact ⟨b, cap, cur, rfl, Nat.zero_le _, hb, hn, by simpa [maxLen] using hcap, hs, by rw [← hl]; exact ht⟩
theorem owns_row {w : World} {sz : Nat} {T : TypeId} {xs : List Value} {n0 : Nat} {v : Value} (h : w.ownsRow 0 T sz v n0 xs) : ∃ r cap, v = .slice (r.map fun b => ⟨b, 0, none⟩) n0 cap ∧ RowL w r cap sz T xs ∧ n0 ≤ cap ∧ cap ≤ 9223372036854775807 := by
  obtain ⟨hl, h⟩ := h
  rcases h with ⟨rfl, rfl⟩ | ⟨g, cap, cur, rfl, _, hb, hn, hm, hs, ht⟩
  · exact ⟨none, 0, rfl, ⟨by rw [hl]; simp, .inl ⟨rfl, rfl⟩⟩, Nat.le_refl _, by omega⟩
  · exact ⟨some g, cap, rfl, ⟨by rw [hl]; exact Nat.mul_le_mul_right sz hn, .inr ⟨g, cur, rfl, hb, hs, by rw [hl]; exact ht⟩⟩, hn, by simpa [maxLen] using hm⟩
/-- APPEND, to a row of the call's own -/
theorem run_append_row {P : Program} {t T : TypeId} {tl te : TI} (hl : TIok P t tl) (hk : tl.kind = .sl T) (he : TIok P T te) (hz : te.zero.length = te.size) (hs : 0 < te.size) {w : World} {r : Option Nat} {cap n0 : Nat} {xs : List Value} (hrow : RowL w r cap te.size T xs) (hlen : xs.length = n0 * te.size) (hcap : cap ≤ 9223372036854775807)
    {v2 : Value} {m : Nat} {news : List Value} (hsrc : Src w v2 m news) (hnl : news.length = m * te.size) (hone : ∀ u ∈ news, u.oneCell' = true) (hbytes : (n0 + m) * te.bytes ≤ 140737488355328) (h63 : n0 + m ≤ 9223372036854775807) (ty : TypeId) :
    ∃ r' cap' w', (Builtin.append_ #[t, t] ty #[.slice (r.map fun b => ⟨b, 0, none⟩) n0 cap, v2]).run P w = .ok (.slice (r'.map fun b => ⟨b, 0, none⟩) (n0 + m) cap') w' ∧ RowL w' r' cap' te.size T (xs ++ news) ∧ n0 + m ≤ cap' ∧ cap' ≤ 9223372036854775807 ∧
      w.grownBy w' r ∧ (r' = r ∨ r' = some w.heap.size) := by
  obtain ⟨d, hd1, hd2⟩ := hl.und
  rw [hk] at hd2
  simp only at hd2
  subst hd2
  obtain ⟨i, z, hi, hi1, hi2, hi3, hi4, _⟩ := he.info
  have hown := row_owns hrow hlen hs hcap
  have hob : ∀ (r : Option Nat) (a b : Nat), (Value.slice (r.map fun b => ⟨b, 0, none⟩) a b).ownBlock = r := fun r a b => by cases r <;> rfl
  rcases hsrc with ⟨a, c, rfl, hc⟩ | ⟨c, rfl, rfl, rfl⟩
  · obtain ⟨v', w', h1, h2, h3, h4, h5⟩ := run_append_own_at (P := P) w 0 t ty T i z te.size te.bytes hd1 hi hi3 hi1 hi2 (by rw [← Array.length_toList, hi4, hz]) hs _ n0 xs hown a m c news hnl hc hone (by simpa [maxLen] using h63) hbytes (Nat.zero_le _)
    obtain ⟨r', cap', rfl, h6, h7, h8⟩ := owns_row h2
    rw [hob] at h3
    rw [hob, hob] at h5
    exact ⟨r', cap', w', h1, h6, h7, h8, h3, h5⟩
  · refine ⟨r, cap, w, ?_, by simpa using hrow, by have := hrow.1; rw [hlen] at this; simpa using Nat.le_of_mul_le_mul_right this hs, hcap, ⟨rfl, rfl, rfl, Nat.le_refl _, fun _ _ _ => rfl⟩, .inl rfl⟩
    have hn : n0 ≤ cap := by have := hrow.1; rw [hlen] at this; exact Nat.le_of_mul_le_mul_right this hs
    have e1 := hl.run_size w
    have hu := und_sl hl hk w
    have hse := he.run_size w
    cases r <;> simp [Builtin.append_, hu, hse, Builtin.lenOf, Builtin.firstCells, hn, storeCells]
end Go.Proofs.Yteabncomclgncaa
