/- Texts of the claim, merged: only what the theorem needs. -/
import Derived.Test.YtaieficgifingaaGreatDoorPPd
import Derived.Maps.AppendAt
import Derived.Laws.OwnMore
namespace Go.Proofs.YtaieficgifingaaGreatDoor
set_option linter.unusedVariables false
set_option linter.unusedSimpArgs false
set_option linter.unusedSectionVars false
open Go.RowKit
/-- the elements' cells, one behind the other -/
def flat {α : Type} (f : Nat → List α) : Nat → List α
  | 0 => []
  | n + 1 => flat f n ++ f n
theorem flat_length {α : Type} {f : Nat → List α} {wd : Nat} : ∀ {n : Nat}, (∀ i, i < n → (f i).length = wd) → (flat f n).length = n * wd
  | 0, _ => by simp [flat]
  | n + 1, h => by
    have := flat_length (n := n) (f := f) (wd := wd) fun i hi => h i (by omega)
    simp [flat, this, h n (by omega), Nat.add_mul]
theorem flat_get {α : Type} {f : Nat → List α} {wd : Nat} : ∀ {n : Nat}, (∀ i, i < n → (f i).length = wd) → ∀ i c, i < n → c < wd → (flat f n)[i * wd + c]? = (f i)[c]?
  | 0, _, i, c, hi, _ => by omega
  | n + 1, h, i, c, hi, hc => by
    have hl := flat_length (n := n) (f := f) (wd := wd) fun i hi => h i (by omega)
    simp only [flat]
    by_cases e : i < n
    · have h1 := Nat.mul_le_mul_right wd (show i + 1 ≤ n by omega)
      rw [Nat.add_mul, Nat.one_mul] at h1
      rw [List.getElem?_append_left (by omega)]
      exact flat_get (fun i hi => h i (by omega)) i c e hc
    · obtain rfl : i = n := by omega
      rw [List.getElem?_append_right (by omega), hl]
      congr 1
      omega
/-- a row of cells whose first are known -/
def RowL (w : World) (r : Option Nat) (cap sz : Nat) (T : TypeId) (xs : List Value) : Prop :=
  xs.length ≤ cap * sz ∧ ((r = none ∧ cap = 0) ∨ ∃ b cur, r = some b ∧ w.heap[b]? = some (.cells cur T (0, 0)) ∧ cur.size = cap * sz ∧ cur.toList.take xs.length = xs)
theorem take_iff {cur xs : List Value} (hl : xs.length ≤ cur.length) : cur.take xs.length = xs ↔ ∀ (j : Nat) (u : Value), xs[j]? = some u → cur[j]? = some u := by
  constructor
  · intro h j u hj
    have hlt := (List.getElem?_eq_some_iff.1 hj).1
    rw [← h, List.getElem?_take, if_pos hlt] at hj
    exact hj
  · intro h
    apply List.ext_getElem?
    intro j
    rw [List.getElem?_take]
    split
    · rename_i hlt
      rw [h j _ (List.getElem?_eq_getElem hlt), List.getElem?_eq_getElem hlt]
    · rename_i hge
      rw [List.getElem?_eq_none (by omega)]
theorem bytes_row {ρ : Env} {r : Option Nat} {w : World} {p : List UInt8} {cap : Nat} {T : TypeId} : (AO.bytes p cap T).holds ρ r w ↔ RowL w r cap 1 T (p.map byteV) := by
  simp only [AO.holds, RowL, List.length_map, Nat.mul_one]
  constructor
  · rintro ⟨h1, h2⟩
    refine ⟨h1, h2.imp id ?_⟩
    rintro ⟨b, cur, hr, hb, hs, hc⟩
    refine ⟨b, cur, hr, hb, hs, ?_⟩
    have := (take_iff (cur := cur.toList) (xs := p.map byteV) (by simp; omega)).2 fun j u hj => by
      rw [List.getElem?_map] at hj
      obtain ⟨x, hx, rfl⟩ := Option.map_eq_some_iff.1 hj
      have hlt := (List.getElem?_eq_some_iff.1 hx).1
      rw [Array.getElem?_toList, hc j hlt, (List.getElem?_eq_some_iff.1 hx).2]
    rwa [List.length_map] at this
  · rintro ⟨h1, h2⟩
    refine ⟨h1, h2.imp id ?_⟩
    rintro ⟨b, cur, hr, hb, hs, hc⟩
    refine ⟨b, cur, hr, hb, hs, fun i hi => ?_⟩
    have := (take_iff (cur := cur.toList) (xs := p.map byteV) (by simp; omega)).1 (by rw [List.length_map]; exact hc) i (byteV p[i]) (by simp [hi])
    rwa [Array.getElem?_toList] at this
theorem tab_row {ρ : Env} {r : Option Nat} {w : World} {wd n0 cap : Nat} {f : Nat → List AV} {T : TypeId} (hw : 0 < wd) : (AO.tab wd n0 cap f T).holds ρ r w ↔ (n0 ≤ cap ∧ (∀ i, i < n0 → (f i).length = wd) ∧ RowL w r cap wd T (flat (fun i => AV.concs ρ (f i)) n0)) := by
  have key : (∀ i, i < n0 → (f i).length = wd) → n0 ≤ cap → ∀ cur : Array Value, cur.size = cap * wd → ((∀ i c x, i < n0 → (f i)[c]? = some x → cur[i * wd + c]? = some (x.conc ρ)) ↔ cur.toList.take (flat (fun i => AV.concs ρ (f i)) n0).length = flat (fun i => AV.concs ρ (f i)) n0) := fun hl hn cur hs => by
    have hl' : ∀ i, i < n0 → (AV.concs ρ (f i)).length = wd := fun i hi => by rw [concs_length, hl i hi]
    have hlen := flat_length hl'
    have hle := Nat.mul_le_mul_right wd hn
    rw [take_iff (by rw [hlen, Array.length_toList]; omega)]
    constructor
    · intro h j u hj
      have hlt := (List.getElem?_eq_some_iff.1 hj).1
      rw [hlen] at hlt
      have hi : j / wd < n0 := (Nat.div_lt_iff_lt_mul hw).2 hlt
      have hc : j % wd < wd := Nat.mod_lt _ hw
      have e : j / wd * wd + j % wd = j := by rw [Nat.mul_comm]; exact Nat.div_add_mod j wd
      have := flat_get hl' (j / wd) (j % wd) hi hc
      rw [e, hj] at this
      rw [concs_map, List.getElem?_map] at this
      obtain ⟨x, hx, hu⟩ := Option.map_eq_some_iff.1 this.symm
      have := h (j / wd) (j % wd) x hi hx
      rw [e] at this
      rw [Array.getElem?_toList, this, hu]
    · intro h i c x hi hx
      have hc : c < wd := by rw [← hl i hi]; exact (List.getElem?_eq_some_iff.1 hx).1
      have := flat_get hl' i c hi hc
      rw [concs_get hx] at this
      have := h _ _ this
      rwa [Array.getElem?_toList] at this
  simp only [AO.holds, RowL]
  constructor
  · rintro ⟨h1, h2, h3⟩
    have hlen := flat_length (f := fun i => AV.concs ρ (f i)) (n := n0) (wd := wd) fun i hi => by rw [concs_length, h2 i hi]
    refine ⟨h1, h2, by rw [hlen]; exact Nat.mul_le_mul_right wd h1, h3.imp id ?_⟩
    rintro ⟨b, cur, hr, hb, hs, hc⟩
    exact ⟨b, cur, hr, hb, hs, (key h2 h1 cur hs).1 hc⟩
  · rintro ⟨h1, h2, _, h3⟩
    refine ⟨h1, h2, h3.imp id ?_⟩
    rintro ⟨b, cur, hr, hb, hs, hc⟩
    exact ⟨b, cur, hr, hb, hs, (key h2 h1 cur hs).2 hc⟩
/-- where appended elements lie -/
def Src (w : World) (v : Value) (m : Nat) (news : List Value) : Prop :=
  (∃ a c, v = .slice (some a) m c ∧ ∀ j u, news[j]? = some u → w.cell? (a.add j) = some u) ∨ (∃ c, v = .slice none m c ∧ m = 0 ∧ news = [])
theorem row_owns {w : World} {r : Option Nat} {cap sz : Nat} {T : TypeId} {xs : List Value} {n0 : Nat} (h : RowL w r cap sz T xs) (hl : xs.length = n0 * sz) (hsz : 0 < sz) (hcap : cap ≤ 9223372036854775807) : w.ownsRow 0 T sz (.slice (r.map fun b => ⟨b, 0, none⟩) n0 cap) n0 xs := by
  refine ⟨hl, ?_⟩
  have hn : n0 ≤ cap := by have := h.1; rw [hl] at this; exact Nat.le_of_mul_le_mul_right this hsz
  rcases h.2 with ⟨rfl, hc⟩ | ⟨b, cur, rfl, hb, hs, ht⟩
  · left
    have : n0 = 0 := by omega
    exact ⟨by rw [this, hc]; rfl, this⟩
  · right
    exact ⟨b, cap, cur, rfl, Nat.zero_le _, hb, hn, by simpa [maxLen] using hcap, hs, by rw [← hl]; exact ht⟩
theorem owns_row {w : World} {sz : Nat} {T : TypeId} {xs : List Value} {n0 : Nat} {v : Value} (h : w.ownsRow 0 T sz v n0 xs) : ∃ r cap, v = .slice (r.map fun b => ⟨b, 0, none⟩) n0 cap ∧ RowL w r cap sz T xs ∧ n0 ≤ cap ∧ cap ≤ 9223372036854775807 := by
  obtain ⟨hl, h⟩ := h
  rcases h with ⟨rfl, rfl⟩ | ⟨g, cap, cur, rfl, _, hb, hn, hm, hs, ht⟩
  · exact ⟨none, 0, rfl, ⟨by rw [hl]; simp, .inl ⟨rfl, rfl⟩⟩, Nat.le_refl _, by omega⟩
  · exact ⟨some g, cap, rfl, ⟨by rw [hl]; exact Nat.mul_le_mul_right sz hn, .inr ⟨g, cur, rfl, hb, hs, by rw [hl]; exact ht⟩⟩, hn, by simpa [maxLen] using hm⟩
/-- APPEND, to a row of the call's own -/
theorem run_append_row {P : Program} {t T : TypeId} {tl te : TI} (hl : TIok P t tl) (hk : tl.kind = .sl T) (he : TIok P T te) (hz : te.zero.length = te.size) (hs : 0 < te.size) {w : World} {r : Option Nat} {cap n0 : Nat} {xs : List Value} (hrow : RowL w r cap te.size T xs) (hlen : xs.length = n0 * te.size) (hcap : cap ≤ 9223372036854775807)
    {v2 : Value} {m : Nat} {news : List Value} (hsrc : Src w v2 m news) (hnl : news.length = m * te.size) (hone : ∀ u ∈ news, u.oneCell' = true) (hbytes : (n0 + m) * te.bytes ≤ 140737488355328) (h63 : n0 + m ≤ 9223372036854775807) (ty : TypeId) :
    ∃ r' cap' w', (Builtin.append_ #[t, t] ty #[.slice (r.map fun b => ⟨b, 0, none⟩) n0 cap, v2]).run P w = .ok (.slice (r'.map fun b => ⟨b, 0, none⟩) (n0 + m) cap') w' ∧ RowL w' r' cap' te.size T (xs ++ news) ∧ n0 + m ≤ cap' ∧ cap' ≤ 9223372036854775807 ∧
      w.grownBy w' r ∧ (r' = r ∨ r' = some w.heap.size) := by
  obtain ⟨d, hd1, hd2⟩ := hl.und
  rw [hk] at hd2
  simp only at hd2
  subst hd2
  obtain ⟨i, z, hi, hi1, hi2, hi3, hi4, _⟩ := he.info
  have hown := row_owns hrow hlen hs hcap
  have hob : ∀ (r : Option Nat) (a b : Nat), (Value.slice (r.map fun b => ⟨b, 0, none⟩) a b).ownBlock = r := fun r a b => by cases r <;> rfl
  rcases hsrc with ⟨a, c, rfl, hc⟩ | ⟨c, rfl, rfl, rfl⟩
  · obtain ⟨v', w', h1, h2, h3, h4, h5⟩ := run_append_own_at (P := P) w 0 t ty T i z te.size te.bytes hd1 hi hi3 hi1 hi2 (by rw [← Array.length_toList, hi4, hz]) hs _ n0 xs hown a m c news hnl hc hone (by simpa [maxLen] using h63) hbytes (Nat.zero_le _)
    obtain ⟨r', cap', rfl, h6, h7, h8⟩ := owns_row h2
    rw [hob] at h3
    rw [hob, hob] at h5
    exact ⟨r', cap', w', h1, h6, h7, h8, h3, h5⟩
  · refine ⟨r, cap, w, ?_, by simpa using hrow, by have := hrow.1; rw [hlen] at this; simpa using Nat.le_of_mul_le_mul_right this hs, hcap, ⟨rfl, rfl, rfl, Nat.le_refl _, fun _ _ _ => rfl⟩, .inl rfl⟩
    have hn : n0 ≤ cap := by have := hrow.1; rw [hlen] at this; exact Nat.le_of_mul_le_mul_right this hs
    have e1 := hl.run_size w
    have hu := und_sl hl hk w
    have hse := he.run_size w
    cases r <;> simp [Builtin.append_, hu, hse, Builtin.lenOf, Builtin.firstCells, hn, storeCells]
end Go.Proofs.YtaieficgifingaaGreatDoor
namespace Go.Proofs.YtaieficgifingaaGreatDoor
set_option linter.unusedVariables false
set_option linter.unusedSimpArgs false
set_option linter.unusedSectionVars false
open Go.RowKit
section
variable {P : Program} {ops : Array Oper} {Q : Exit → Act → World → Prop} {D : Option DD} {E : Base} {n L : Nat} {τ : List (Nat × AV)} {h : List (Nat × AO)} {F : World → Prop} {rest : List Oper}
  {d : Nat} {op : Op} {ty : TypeId} {ps : String} {af : Array Edge} {gd : Option (Nat × Bool)} {tt : List (Nat × TI)}
/-- what is appended -/
def SrcA (E : Base) (n L : Nat) (τ : List (Nat × AV)) (h : List (Nat × AO)) (F : World → Prop) (v : AV) (m : Nat) (news : List AV) : Prop :=
  ∀ ρ a w, Gam E ρ n L τ h F a w → LowS ρ L news ∧ Src w (v.conc ρ) m (AV.concs ρ news)
def avB (p : List UInt8) : List AV := p.map fun b => .raw (byteV b)
theorem avB_concs (ρ : Env) (p : List UInt8) : AV.concs ρ (avB p) = p.map byteV := by simp [avB, concs_map, AV.conc, Function.comp_def]
theorem avB_low (ρ : Env) (L : Nat) (p : List UInt8) : LowS ρ L (avB p) := fun x hx => by
  obtain ⟨b, _, rfl⟩ := List.mem_map.1 hx
  exact AV.Low.raw _ _ _
theorem avB_append (p q : List UInt8) : avB (p ++ q) = avB p ++ avB q := by simp [avB]
theorem avB_length (p : List UInt8) : (avB p).length = p.length := by simp [avB]
/-- a list of bytes as a list that is only read -/
def bytesF (p : List UInt8) (i : Nat) : List AV := [.raw (byteV (p.getD i 0))]
theorem SrcA.nil (c : Nat) : SrcA E n L τ h F (.raw (.slice none 0 c)) 0 [] := fun ρ a w g => ⟨fun x hx => (by cases hx), .inr ⟨c, rfl, rfl, rfl⟩⟩
theorem SrcA.cells {l w0 off m c : Nat} {xs news : List AV} {T : TypeId} (hl : hk l h = some (.cells xs T)) (hn : (xs.drop (off * w0)).take (m * w0) = news) : SrcA E n L τ h F (.sl l w0 off m c) m news := fun ρ a w g => by
  obtain ⟨b, hr, hb⟩ := (g.hp _ _ hl).2.2
  subst hn
  refine ⟨fun x hx => g.lowCells hl x (List.mem_of_mem_drop (List.mem_of_mem_take hx)), .inl ⟨⟨b, off * w0, none⟩, c, by simp [AV.conc, hr], fun j u hj => ?_⟩⟩
  rw [concs_map, List.getElem?_map, List.getElem?_take] at hj
  split at hj
  · rw [List.getElem?_drop] at hj
    rw [addr_add0, cell_of_row w b _ _ T (0, 0) hb, List.getElem?_toArray, concs_map, List.getElem?_map]
    exact hj
  · cases hj
theorem SrcA.bytes {l off m c cap : Nat} {p : List UInt8} {T : TypeId} (hl : hk l h = some (.bytes p cap T)) (hn : off + m ≤ p.length) : SrcA E n L τ h F (.sl l 1 off m c) m (avB ((p.drop off).take m)) := fun ρ a w g => by
  have hh := (g.hp _ _ hl).2.2
  refine ⟨avB_low _ _ _, ?_⟩
  rw [avB_concs]
  rcases hh.2 with ⟨hr, hc⟩ | ⟨b, cur, hr, hb, hs, hc⟩
  · have := hh.1
    have h1 : m = 0 := by omega
    subst h1
    exact .inr ⟨c, by simp [AV.conc, hr], rfl, by simp⟩
  · refine .inl ⟨⟨b, off * 1, none⟩, c, by simp [AV.conc, hr], fun j u hj => ?_⟩
    rw [List.getElem?_map, List.getElem?_take] at hj
    split at hj
    · rw [List.getElem?_drop] at hj
      obtain ⟨x, hx, rfl⟩ := Option.map_eq_some_iff.1 hj
      obtain ⟨h1, h2⟩ := List.getElem?_eq_some_iff.1 hx
      rw [addr_add0, cell_of_row w b _ _ T (0, 0) hb, Nat.mul_one, hc _ h1, h2]
    · cases hj
theorem flat_low {ρ : Env} {L m : Nat} {f : Nat → List AV} (hf : ∀ i, i < m → LowS ρ L (f i)) : LowS ρ L (flat f m) := by
  induction m with
  | zero => intro x hx; cases hx
  | succ m ih =>
    intro x hx
    simp only [flat, List.mem_append] at hx
    rcases hx with hx | hx
    · exact ih (fun i hi => hf i (by omega)) x hx
    · exact hf m (by omega) x hx
theorem flat_concs (ρ : Env) (f : Nat → List AV) : ∀ m, AV.concs ρ (flat f m) = flat (fun i => AV.concs ρ (f i)) m
  | 0 => rfl
  | m + 1 => by simp only [flat, concs_append, flat_concs ρ f m]
theorem flat_some {α : Type} {f : Nat → List α} {wd m : Nat} (hw : 0 < wd) (hf : ∀ i, i < m → (f i).length = wd) {j : Nat} {u : α} (hj : (flat f m)[j]? = some u) : ∃ i c, i < m ∧ c < wd ∧ j = i * wd + c ∧ (f i)[c]? = some u := by
  have hlt := (List.getElem?_eq_some_iff.1 hj).1
  rw [flat_length hf] at hlt
  have h1 : j / wd < m := (Nat.div_lt_iff_lt_mul hw).2 hlt
  have h2 : j % wd < wd := Nat.mod_lt _ hw
  have e : j / wd * wd + j % wd = j := by rw [Nat.mul_comm]; exact Nat.div_add_mod j wd
  have := flat_get hf (j / wd) (j % wd) h1 h2
  rw [e, hj] at this
  exact ⟨_, _, h1, h2, e.symm, this.symm⟩
theorem SrcA.tab {l wd off m c n0 cap : Nat} {f : Nat → List AV} {T : TypeId} (hw : 0 < wd) (hl : hk l h = some (.tab wd n0 cap f T)) (hn : off + m ≤ n0) : SrcA E n L τ h F (.sl l wd off m c) m (flat (fun i => f (off + i)) m) := fun ρ a w g => by
  have hh := (g.hp _ _ hl).2.2
  refine ⟨flat_low fun i hi => tab_low g hl (by omega), ?_⟩
  rcases hh.2.2 with ⟨hr, hc⟩ | ⟨b, cur, hr, hb, hs, hc⟩
  · have := hh.1
    have h1 : m = 0 := by omega
    subst h1
    exact .inr ⟨c, by simp [AV.conc, hr], rfl, rfl⟩
  · refine .inl ⟨⟨b, off * wd, none⟩, c, by simp [AV.conc, hr], fun j u hj => ?_⟩
    rw [flat_concs] at hj
    obtain ⟨i, k, h1, h2, rfl, h3⟩ := flat_some hw (fun i hi => by rw [concs_length]; exact hh.2.1 (off + i) (by omega)) hj
    rw [concs_map, List.getElem?_map] at h3
    obtain ⟨x, hx, rfl⟩ := Option.map_eq_some_iff.1 h3
    rw [addr_add0, cell_of_row w b _ _ T (0, 0) hb, ← Nat.add_assoc, ← Nat.add_mul]
    exact hc _ _ _ (by omega) hx
theorem SrcA.ro {l wd o2 off m c n0 : Nat} {f : Nat → List AV} (hw : 0 < wd) (hf : ∀ i, i < n0 → (f i).length = wd) (hl : hk l h = some (.ro wd o2 n0 f)) (hn : off + m ≤ n0) : SrcA E n L τ h F (.sl l wd (o2 + off) m c) m (flat (fun i => f (off + i)) m) := fun ρ a w g => by
  refine ⟨flat_low fun i hi => ro_low g hl (by omega), ?_⟩
  rcases (g.hp _ _ hl).2.2 with ⟨hr, hc⟩ | ⟨b, cur, T, fr, hr, hb, hc⟩
  · have h1 : m = 0 := by omega
    subst h1
    exact .inr ⟨c, by simp [AV.conc, hr], rfl, rfl⟩
  · refine .inl ⟨⟨b, (o2 + off) * wd, none⟩, c, by simp [AV.conc, hr], fun j u hj => ?_⟩
    rw [flat_concs] at hj
    obtain ⟨i, k, h1, h2, rfl, h3⟩ := flat_some hw (fun i hi => by rw [concs_length]; exact hf (off + i) (by omega)) hj
    rw [concs_map, List.getElem?_map] at h3
    obtain ⟨x, hx, rfl⟩ := Option.map_eq_some_iff.1 h3
    rw [addr_add0, cell_of_row w b _ _ T fr hb, ← Nat.add_assoc, ← Nat.add_mul, Nat.add_assoc]
    exact hc _ _ _ (by omega) hx
/-- what is appended to -/
def DstA (E : Base) (n L : Nat) (τ : List (Nat × AV)) (h : List (Nat × AO)) (F : World → Prop) (v : AV) (T : TypeId) (wd n0 cap : Nat) (xs : List AV) (gl : List Nat) : Prop :=
  xs.length = n0 * wd ∧ ∀ ρ a w, Gam E ρ n L τ h F a w → ∃ r : Option Nat, v.conc ρ = .slice (r.map fun b => ⟨b, 0, none⟩) n0 cap ∧ RowL w r cap wd T (AV.concs ρ xs) ∧ LowS ρ L xs ∧ (r = none ∨ ∃ l ∈ gl, wrA l h ∧ ρ l = r)
theorem DstA.nil (T : TypeId) (wd : Nat) : DstA E n L τ h F (.raw (.slice none 0 0)) T wd 0 0 [] [] :=
  ⟨by simp, fun ρ a w g => ⟨none, rfl, ⟨by simp [AV.concs], .inl ⟨rfl, rfl⟩⟩, fun x hx => (by cases hx), .inl rfl⟩⟩
theorem DstA.bytes {l n0 cap : Nat} {p : List UInt8} {T : TypeId} (hl : hk l h = some (.bytes p cap T)) (hn : n0 = p.length) : DstA E n L τ h F (.sl l 1 0 n0 cap) T 1 n0 cap (avB p) [l] :=
  ⟨by rw [avB_length, hn, Nat.mul_one], fun ρ a w g => ⟨ρ l, by simp [AV.conc], by rw [avB_concs]; exact bytes_row.1 (g.hp _ _ hl).2.2, avB_low _ _ _, .inr ⟨l, by simp, ⟨_, hl, rfl⟩, rfl⟩⟩⟩
theorem DstA.tab {l wd n0 cap : Nat} {f : Nat → List AV} {T : TypeId} (hw : 0 < wd) (hl : hk l h = some (.tab wd n0 cap f T)) (hf : ∀ i, i < n0 → (f i).length = wd) : DstA E n L τ h F (.sl l wd 0 n0 cap) T wd n0 cap (flat f n0) [l] :=
  ⟨flat_length hf, fun ρ a w g => ⟨ρ l, by simp [AV.conc], by rw [flat_concs]; exact ((tab_row hw).1 (g.hp _ _ hl).2.2).2.2, flat_low fun i hi => tab_low g hl hi, .inr ⟨l, by simp, ⟨_, hl, rfl⟩, rfl⟩⟩⟩
def goneK (gl : List Nat) : List (Nat × AO) := gl.map fun l => (l, .gone)
theorem hk_goneK (gl : List Nat) (h : List (Nat × AO)) (l : Nat) : hk l (goneK gl ++ h) = if l ∈ gl then none else hk l h := by
  induction gl with
  | nil => simp [goneK]
  | cons s gl ih =>
    simp only [goneK, List.map_cons, List.cons_append, hk_cons, List.mem_cons]
    by_cases e : s = l
    · simp [e]
    · have e' : ¬ l = s := fun x => e x.symm
      simp only [e, if_false, e', false_or]
      exact ih
/-- what a row's cells are, told as an object -/
def AsRow (ao : Nat → AO) (T : TypeId) (wd : Nat) (xs : List AV) : Prop := (∀ c, (ao c).isRo = false ∧ ao c ≠ .gone) ∧ ∀ c ρ L, LowS ρ L xs → (ao c).Low ρ L ∧ ∀ r w, RowL w r c wd T (AV.concs ρ xs) → (ao c).holds ρ r w
theorem AsRow.bytes (T : TypeId) (p : List UInt8) : AsRow (fun c => .bytes p c T) T 1 (avB p) :=
  ⟨fun c => ⟨rfl, by simp⟩, fun c ρ L hl => ⟨AO.Low.bytes _ _ _ _ _, fun r w hr => bytes_row.2 (by rw [avB_concs] at hr; exact hr)⟩⟩
theorem AsRow.tab (T : TypeId) {wd n0 : Nat} {f : Nat → List AV} (hw : 0 < wd) (hf : ∀ i, i < n0 → (f i).length = wd) : AsRow (fun c => .tab wd n0 c f T) T wd (flat f n0) :=
  ⟨fun c => ⟨rfl, by simp⟩, fun c ρ L hl => ⟨AO.Low.tab T fun i hi x hx => hl x (by
    obtain ⟨k, hk⟩ := List.getElem?_of_mem hx
    have hk2 : k < wd := by rw [← hf i hi]; exact (List.getElem?_eq_some_iff.1 hk).1
    have := flat_get hf i k hi hk2
    exact List.mem_of_getElem? (this.trans hk)), fun r w hr => by
      have hle := hr.1
      rw [concs_length, flat_length hf] at hle
      exact (tab_row hw).2 ⟨Nat.le_of_mul_le_mul_right hle hw, hf, by rw [flat_concs] at hr; exact hr⟩⟩⟩
/-- append: the old list is not used any more -/
theorem R.app (htt : TTok P tt) {t T : TypeId} {x y : Operand} {v1 v2 : AV} {wd bt n0 cap m : Nat} {xs news : List AV} {gl : List Nat} {tl te : TI} (ao : Nat → AO) (hx : evA τ x = some v1) (hy : evA τ y = some v2) (hd : DstA E n L τ h F v1 T wd n0 cap xs gl) (hs : SrcA E n L τ h F v2 m news) (hao : AsRow ao T wd (xs ++ news))
    (ht : lk t tt = some tl) (hkd : tl.kind = .sl T) (hte : lk T tt = some te) (hsz : te.size = wd) (hb2 : te.bytes = bt) (hz : Nat.beq te.zero.length te.size = true) (hw : 0 < wd) (hone : news.all AV.oneB = true) (hnl : news.length = m * wd)
    (hg : wantA ops ⟨some d, .call { callee := .builtin .append, args := #[x, y], argTypes := #[t, t] }, ty, ps, af, gd⟩ τ = some true) (hb : (Nat.ble (d + 1) n && chainB h D gl) = true)
    (hcap : cap ≤ 9223372036854775807) (hby : (n0 + m) * bt ≤ 140737488355328) (h63 : n0 + m ≤ 9223372036854775807)
    (k : ∀ c, n0 + m ≤ c → c ≤ 9223372036854775807 → R P ops Q (actD h D gl) E n (L + 1) ((d, .sl L wd 0 (n0 + m) c) :: τ) ((L, ao c) :: (goneK gl ++ h)) F rest) :
    R P ops Q D E n L τ h F (⟨some d, .call { callee := .builtin .append, args := #[x, y], argTypes := #[t, t] }, ty, ps, af, gd⟩ :: rest) := by
  simp only [Bool.and_eq_true] at hb
  refine ⟨RL.acts (σ := Nat) (fun c => n0 + m ≤ c ∧ c ≤ 9223372036854775807) (fun c => .sl L wd 0 (n0 + m) c) (fun _ => L + 1) (fun c => (L, ao c) :: (goneK gl ++ h)) (fun _ => F) gl hg hb.1 hb.2 (fun _ _ => Nat.le_succ L) (fun ρ a w g => ?_) (fun c hc => (k c hc.1 hc.2).out)⟩
  obtain ⟨hxl, hd⟩ := hd
  obtain ⟨r, h1, h2, h3, h4⟩ := hd ρ a w g
  obtain ⟨h5, h6⟩ := hs ρ a w g
  subst hsz
  have hoc : ∀ u ∈ AV.concs ρ news, u.oneCell' = true := fun u hu => by
    rw [concs_map] at hu
    obtain ⟨y', hy', rfl⟩ := List.mem_map.1 hu
    exact oneB_conc (List.all_eq_true.1 hone y' hy') ρ
  obtain ⟨r', c, w', e1, e2, e3, e4, e5, e6⟩ := run_append_row (htt _ _ ht) hkd (htt _ _ hte) (Nat.eq_of_beq_eq_true hz) hw h2 (by rw [concs_length]; exact hxl) hcap h6 (by rw [concs_length]; exact hnl) hoc (by rw [hb2]; exact hby) h63 ty
  have hev1 : a.eval x = .slice (r.map fun b => ⟨b, 0, none⟩) n0 cap := by rw [(g.eval x _ hx).2, h1]
  have hev2 : a.eval y = v2.conc ρ := (g.eval y _ hy).2
  unfold goes execOp
  simp only [resolve, invoke, builtin, Sem.run_bind, Sem.run_pure, Result.andThen_ok, List.map_toArray, List.map_cons, List.map_nil, hev1, hev2, e1]
  rw [← concs_append] at e2
  have hrlt : ∀ b, r = some b → b < w.heap.size := fun b hb => by
    rcases h2.2 with ⟨h7, _⟩ | ⟨b', cur, h7, h8, _⟩
    · rw [h7] at hb; cases hb
    · rw [h7] at hb; cases hb; exact (Array.getElem?_eq_some_iff.1 h8).1
  have hs' : ∀ l, l < L → updE ρ L r' l = ρ l := fun l hl => updE_ne ρ _ (by omega)
  have hlowx : LowS ρ L (xs ++ news) := fun z hz => by
    rcases List.mem_append.1 hz with hz | hz
    · exact h3 z hz
    · exact h5 z hz
  have hL1 : ∀ l, hk l h ≠ none → l < L := fun l hl => by
    cases ho : hk l h with
    | none => exact absurd ho hl
    | some o => exact (g.hp l o ho).1
  have hr' : ∀ b, r' = some b → w.heap.size ≤ b ∨ ∃ l0, l0 ∈ gl ∧ wrA l0 h ∧ ρ l0 = some b := fun b hb => by
    rcases e6 with e6 | e6
    · rcases h4 with h4 | ⟨l0, h7, h8, h9⟩
      · rw [e6, h4] at hb; cases hb
      · exact .inr ⟨l0, h7, h8, by rw [h9, ← e6, hb]⟩
    · rw [e6] at hb; cases hb; exact .inl (Nat.le_refl _)
  have hkL : ∀ l, hk l ((L, ao c) :: (goneK gl ++ h)) = if L = l then some (ao c) else if l ∈ gl then none else hk l h := fun l => by
    rw [hk_cons, hk_goneK]
    split
    · have := (hao.1 c).2
      cases hx : ao c <;> simp_all
    · rfl
  have hrow : ∀ l b, hk l h ≠ none → l ∉ gl → ρ l = some b → r ≠ some b := fun l b hl hn hb e => by
    rcases h4 with h4 | ⟨l0, h7, h8, h9⟩
    · rw [h4] at e; cases e
    · exact hn (g.dis l0 l b h8 hl (h9.trans e) hb ▸ h7)
  have hsame : ∀ l b, hk l h ≠ none → l ∉ gl → ρ l = some b → w'.heap[b]? = w.heap[b]? := fun l b hl hn hb => e5.block b (g.lt hl hb) fun e => hrow l b hl hn hb e.symm
  have hne : ∀ l, L ≠ l → hk l ((L, ao c) :: (goneK gl ++ h)) ≠ none → hk l h ≠ none ∧ l ∉ gl := fun l e hl => by
    rw [hkL, if_neg e] at hl
    split at hl
    · exact absurd rfl hl
    · rename_i h7; exact ⟨hl, h7⟩
  have hnw : ∀ l, L ≠ l → wrA l ((L, ao c) :: (goneK gl ++ h)) → wrA l h := fun l e hl => by
    obtain ⟨o1, h7, h8⟩ := hl
    rw [hkL, if_neg e] at h7
    split at h7
    · cases h7
    · exact ⟨o1, h7, h8⟩
  have hclash : ∀ l b, L ≠ l → hk l ((L, ao c) :: (goneK gl ++ h)) ≠ none → ρ l = some b → r' = some b → False := fun l b e hl hb hb' => by
    obtain ⟨h7, h8⟩ := hne l e hl
    rcases hr' b hb' with h9 | ⟨l0, h9, h10, h11⟩
    · have := g.lt h7 hb; omega
    · exact h8 (g.dis l0 l b h10 h7 h11 hb ▸ h9)
  refine ⟨c, updE ρ L r', ⟨e3, e4⟩, by simp [AV.conc, updE_same], sl_low (updE ρ L r') L _ 0 (n0 + m) c, hs', ?_, fun l b hl hb hn => (hsame l b hl hn hb).symm⟩
  refine g.turn hs' (Nat.le_succ L) ⟨e5.os, e5.tape, e5.output, e5.size, fun b hb hd => e5.block b hb fun e => ?_⟩ (fun l o ho => ?_) (fun l l' b hl hl' hb hb' => ?_) (fun l b hl hb => ?_) (fun l b h7 h8 hb => ?_)
  · rcases h4 with h4 | ⟨l0, h7, h8, h9⟩
    · rw [h4] at e; cases e
    · exact hd l0 h8 (h9.trans e.symm)
  · by_cases e : L = l
    · subst e
      rw [hkL, if_pos rfl] at ho
      cases ho
      have hlx : LowS (updE ρ L r') (L + 1) (xs ++ news) := fun z hz => ((hlowx z hz).ext hs').mono (Nat.le_succ L)
      obtain ⟨h7, h8⟩ := hao.2 c (updE ρ L r') (L + 1) hlx
      refine ⟨by omega, h7, h8 _ _ ?_⟩
      rw [updE_same, concs_low hlowx _ hs']
      exact e2
    · have h7 := hne l e (by rw [ho]; simp)
      rw [hkL, if_neg e, if_neg h7.2] at ho
      have hh := g.hp l o ho
      refine ⟨by omega, (hh.2.1.ext hs').mono (Nat.le_succ L), ?_⟩
      rw [hs' l hh.1]
      exact holds_same ((hh.2.1 _ hs' _ _).1 hh.2.2) fun b hb => hsame l b h7.1 h7.2 hb
  · by_cases e1 : L = l <;> by_cases e2 : L = l'
    · omega
    · exfalso
      subst e1
      rw [updE_same] at hb
      rw [updE_ne ρ _ (fun e => e2 e.symm)] at hb'
      exact hclash l' b e2 hl' hb' hb
    · exfalso
      subst e2
      rw [updE_same] at hb'
      rw [updE_ne ρ _ (fun e => e1 e.symm)] at hb
      exact hclash l b e1 hl.live hb hb'
    · rw [updE_ne ρ _ (fun e => e1 e.symm)] at hb
      rw [updE_ne ρ _ (fun e => e2 e.symm)] at hb'
      exact g.dis l l' b (hnw l e1 hl) (hne l' e2 hl').1 hb hb'
  · by_cases e1 : L = l
    · subst e1
      rw [updE_same] at hb
      exact (hr' b hb).imp id fun ⟨l0, h7, h8, h9⟩ => ⟨l0, h8, h9⟩
    · rw [updE_ne ρ _ (fun e => e1 e.symm)] at hb
      exact .inr ⟨l, hnw l e1 hl, hb⟩
  · obtain rfl : l = L := by omega
    rw [updE_same] at hb
    rcases e2.2 with ⟨h9, _⟩ | ⟨b', cur, h9, h10, _⟩
    · rw [h9] at hb; cases hb
    · rw [h9] at hb; cases hb; exact (Array.getElem?_eq_some_iff.1 h10).1
end
end Go.Proofs.YtaieficgifingaaGreatDoor
namespace Go.Proofs.YtaieficgifingaaGreatDoor
set_option linter.unusedVariables false
set_option linter.unusedSimpArgs false
set_option linter.unusedSectionVars false
open Go.RowKit
section
variable {P : Program} {ops : Array Oper} {Q : Exit → Act → World → Prop} {D : Option DD} {E : Base} {n L : Nat} {τ : List (Nat × AV)} {h : List (Nat × AO)} {F : World → Prop} {rest : List Oper}
  {d : Nat} {op : Op} {ty : TypeId} {ps : String} {af : Array Edge} {gd : Option (Nat × Bool)} {tt : List (Nat × TI)}
/-- append to a list of bytes of one's own -/
theorem R.apb (htt : TTok P tt) {t T : TypeId} {x y : Operand} {v2 : AV} {l n0 cap m : Nat} {p q r : List UInt8} {news : List AV} {tl te : TI} (hx : evA τ x = some (.sl l 1 0 n0 cap)) (hl : hk l h = some (.bytes p cap T)) (hn : n0 = p.length) (hy : evA τ y = some v2) (hs : SrcA E n L τ h F v2 m news) (hq : news = avB q) (hr : p ++ q = r)
    (ht : lk t tt = some tl) (hkd : tl.kind = .sl T) (hte : lk T tt = some te) (hok : (Nat.beq te.size 1 && Nat.beq te.bytes 1 && Nat.beq te.zero.length 1) = true)
    (hg : wantA ops ⟨some d, .call { callee := .builtin .append, args := #[x, y], argTypes := #[t, t] }, ty, ps, af, gd⟩ τ = some true) (hb : (Nat.ble (d + 1) n && chainB h D [l]) = true)
    (hm : m = q.length) (hcap : cap ≤ 9223372036854775807) (hby : r.length ≤ 140737488355328)
    (k : ∀ c, r.length ≤ c → c ≤ 9223372036854775807 → R P ops Q (actD h D [l]) E n (L + 1) ((d, .sl L 1 0 r.length c) :: τ) ((L, .bytes r c T) :: (l, .gone) :: h) F rest) :
    R P ops Q D E n L τ h F (⟨some d, .call { callee := .builtin .append, args := #[x, y], argTypes := #[t, t] }, ty, ps, af, gd⟩ :: rest) := by
  simp only [Bool.and_eq_true] at hok
  have e1 := Nat.eq_of_beq_eq_true hok.1.1
  have e2 := Nat.eq_of_beq_eq_true hok.1.2
  have e3 := Nat.eq_of_beq_eq_true hok.2
  subst hq
  subst hr
  have hlen : n0 + m = (p ++ q).length := by rw [List.length_append]; omega
  refine R.app htt (fun c => .bytes (p ++ q) c T) hx hy (DstA.bytes hl hn) hs (by rw [← avB_append]; exact AsRow.bytes T _) ht hkd hte e1 e2 (by rw [e1, e3]; rfl) (by omega) (List.all_eq_true.2 fun v hv => ?_) (by rw [avB_length, Nat.mul_one, hm]) hg hb hcap (by omega) (by omega) fun c h1 h2 => ?_
  · obtain ⟨b, _, rfl⟩ := List.mem_map.1 hv; rfl
  · rw [hlen] at h1 ⊢
    exact k c h1 h2
/-- a label without a block -/
theorem Gam.mkNone {ρ : Env} {a : Act} {w : World} (g : Gam E ρ n L τ h F a w) (o : AO) (ho : ∀ ρ' W, o.Low ρ' (L + 1) ∧ o.holds ρ' none W) (τ' : List (Nat × AV)) (h' : List (Nat × AO)) (hro : o.isRo = false)
    (hτ : ∀ t v', lk t τ' = some v' → v'.Low (updE ρ L none) (L + 1) ∧ ∃ v, lk t τ = some v ∧ v'.conc (updE ρ L none) = v.conc ρ)
    (hh : ∀ l o', hk l h' = some o' → ∃ o0, hk l h = some o0 ∧ o0.isRo = o'.isRo ∧ o'.Low (updE ρ L none) (L + 1) ∧ ∀ r W, o0.holds ρ r W → o'.holds (updE ρ L none) r W) : Gam E (updE ρ L none) n (L + 1) τ' ((L, o) :: h') F a w := by
  have hs : ∀ l, l < L → updE ρ L Option.none l = ρ l := fun l hl => updE_ne ρ _ (by omega)
  have hlive : ∀ l, hk l h' ≠ Option.none → hk l h ≠ Option.none ∧ l < L := fun l hl => by
    cases hx : hk l h' with
    | none => exact absurd hx hl
    | some o' =>
      obtain ⟨o0, h1, _⟩ := hh l o' hx
      exact ⟨by rw [h1]; simp, (g.hp l o0 h1).1⟩
  have hw : ∀ l, L ≠ l → wrA l ((L, o) :: h') → wrA l h := fun l e hl => by
    obtain ⟨o1, h1, h2⟩ := hl
    rw [hk_cons, if_neg e] at h1
    obtain ⟨o0, h3, h4, _⟩ := hh l o1 h1
    exact ⟨o0, h3, h4.trans h2⟩
  refine ⟨g.df, g.sz, fun t v hv => ?_, fun l o' hl => ?_, fun l l' b hl hl' hb hb' => ?_, fun w' hw' => ?_, fun l hl => ?_, Nat.le_trans g.le (Nat.le_succ L), fun l b hl hb => ?_⟩
  · obtain ⟨h1, v0, h2, h3⟩ := hτ t v hv
    exact ⟨h1, by rw [h3]; exact (g.tm t v0 h2).2⟩
  · rw [hk_cons] at hl
    split at hl
    · rename_i e
      subst e
      rw [updE_same]
      have e2 : o' = o := by cases o <;> simp at hl <;> exact hl.symm
      subst e2
      exact ⟨by omega, (ho _ w).1, (ho _ w).2⟩
    · obtain ⟨o0, h1, h2, h3, h4⟩ := hh l o' hl
      have := g.hp l o0 h1
      refine ⟨by omega, h3, ?_⟩
      rw [hs l this.1]
      exact h4 _ _ this.2.2
  · by_cases e1 : L = l
    · subst e1; rw [updE_same] at hb; cases hb
    · by_cases e2 : L = l'
      · subst e2; rw [updE_same] at hb'; cases hb'
      · rw [updE_ne ρ _ (fun e => e1 e.symm)] at hb
        rw [updE_ne ρ _ (fun e => e2 e.symm)] at hb'
        rw [hk_cons, if_neg e2] at hl'
        exact g.dis l l' b (hw l e1 hl) (hlive l' hl').1 hb hb'
  · refine g.fr w' (hw'.mono fun b _ hd l hl hb => ?_)
    by_cases e1 : L = l
    · subst e1; rw [updE_same] at hb; cases hb
    · rw [updE_ne ρ _ (fun e => e1 e.symm)] at hb
      exact hd l (hw l e1 hl) hb
  · rw [hs l (Nat.lt_of_lt_of_le hl g.le), g.ex l hl]
  · rcases Nat.lt_or_ge l L with h1 | h1
    · exact g.al l b h1 ((hs l h1).symm.trans hb)
    · obtain rfl : l = L := by omega
      rw [updE_same] at hb; cases hb
theorem none_bytes (L : Nat) (T : TypeId) (ρ : Env) (W : World) : (AO.bytes [] 0 T).Low ρ (L + 1) ∧ (AO.bytes [] 0 T).holds ρ none W := ⟨AO.Low.bytes _ _ _ _ _, by simp, .inl ⟨rfl, rfl⟩⟩
theorem none_tab (L : Nat) (T : TypeId) (wd : Nat) (f : Nat → List AV) (ρ : Env) (W : World) : (AO.tab wd 0 0 f T).Low ρ (L + 1) ∧ (AO.tab wd 0 0 f T).holds ρ none W := ⟨AO.Low.tab T (fun i hi => by omega), by simp, fun i hi => by omega, .inl ⟨rfl, rfl⟩⟩
theorem low_up {ρ : Env} {r : Option Nat} {v : AV} (hv : v.Low ρ L) : v.Low (updE ρ L r) (L + 1) ∧ v.conc (updE ρ L r) = v.conc ρ := by
  have hs : ∀ l, l < L → updE ρ L r l = ρ l := fun l hl => updE_ne ρ _ (by omega)
  exact ⟨(hv.ext hs).mono (Nat.le_succ L), hv _ hs⟩
/-- a slot that holds none, or such a thing: it holds an empty list -/
theorem Gam.noneT {ρ : Env} {a : Act} {w : World} (g : Gam E ρ n L τ h F a w) (o : AO) (ho : ∀ ρ' W, o.Low ρ' (L + 1) ∧ o.holds ρ' none W) (hro : o.isRo = false) (t : Nat) (v v' : AV) (hv : lk t τ = some v) (hb : v'.bd (L + 1) = true) (hc : ∀ ρ : Env, ρ L = Option.none → v'.conc ρ = v.conc ρ) :
    Gam E (updE ρ L none) n (L + 1) ((t, v') :: τ) ((L, o) :: h) F a w :=
  g.mkNone o ho _ _ hro (fun s u hu => by
    rw [lk_cons] at hu
    split at hu
    · rename_i e
      subst e
      cases hu
      exact ⟨bdLow hb _, v, hv, by rw [hc _ (updE_same _ _ _), (low_up (g.tm t v hv).1).2]⟩
    · exact ⟨(low_up (g.tm s u hu).1).1, u, hu, (low_up (g.tm s u hu).1).2⟩) (fun l o' hl => by
    have := g.hp l o' hl
    have hs : ∀ k, k < L → updE ρ L Option.none k = ρ k := fun l hl => updE_ne ρ _ (by omega)
    exact ⟨o', hl, rfl, (this.2.1.ext hs).mono (Nat.le_succ L), fun r W hr => (this.2.1 _ hs _ _).1 hr⟩)
/-- the same of a cell -/
theorem Gam.noneH {ρ : Env} {a : Act} {w : World} (g : Gam E ρ n L τ h F a w) (o : AO) (ho : ∀ ρ' W, o.Low ρ' (L + 1) ∧ o.holds ρ' none W) (hro : o.isRo = false) (l0 : Nat) (xs xs' : List AV) (T : TypeId) (hv : hk l0 h = some (.cells xs T)) (hb : AV.bds (L + 1) xs' = true) (hc : ∀ ρ : Env, ρ L = Option.none → AV.concs ρ xs' = AV.concs ρ xs) :
    Gam E (updE ρ L none) n (L + 1) τ ((L, o) :: (l0, .cells xs' T) :: h) F a w :=
  g.mkNone o ho _ _ hro (fun s u hu => ⟨(low_up (g.tm s u hu).1).1, u, hu, (low_up (g.tm s u hu).1).2⟩) (fun l o' hl => by
    have hs : ∀ k, k < L → updE ρ L Option.none k = ρ k := fun l hl => updE_ne ρ _ (by omega)
    rw [hk_cons] at hl
    split at hl
    · rename_i e
      subst e
      cases hl
      have hlow := g.lowCells hv
      refine ⟨_, hv, rfl, AO.Low.cells T fun x hx => bdLow (bds_all hb x hx) _, fun r W hr => ?_⟩
      simp only [AO.holds] at hr ⊢
      rw [hc _ (updE_same _ _ _), concs_low hlow _ hs]
      exact hr
    · have := g.hp l o' hl
      exact ⟨o', hl, rfl, (this.2.1.ext hs).mono (Nat.le_succ L), fun r W hr => (this.2.1 _ hs _ _).1 hr⟩)
theorem sl_none {l wd : Nat} {ρ : Env} (h : ρ l = Option.none) : (AV.sl l wd 0 0 0).conc ρ = .slice Option.none 0 0 := by simp [AV.conc, h]
theorem C.noneT {c : Code} (t : Nat) (v' : AV) (o : AO) (ho : ∀ ρ' W, o.Low ρ' (L + 1) ∧ o.holds ρ' none W) (hro : o.isRo = false) {v : AV} (hv : lk t τ = some v) (hb : v'.bd (L + 1) = true) (hc : ∀ ρ : Env, ρ L = Option.none → v'.conc ρ = v.conc ρ)
    (k : C P c Q E n (L + 1) ((t, v') :: τ) ((L, o) :: h) F) : C P c Q E n L τ h F := ⟨fun ρ a w g => k.out _ a w (g.noneT o ho hro t v v' hv hb hc)⟩
theorem C.noneH {c : Code} (l0 : Nat) (xs' : List AV) (o : AO) (ho : ∀ ρ' W, o.Low ρ' (L + 1) ∧ o.holds ρ' none W) (hro : o.isRo = false) {xs : List AV} {T : TypeId} (hv : hk l0 h = some (.cells xs T)) (hb : AV.bds (L + 1) xs' = true) (hc : ∀ ρ : Env, ρ L = Option.none → AV.concs ρ xs' = AV.concs ρ xs)
    (k : C P c Q E n (L + 1) τ ((L, o) :: (l0, .cells xs' T) :: h) F) : C P c Q E n L τ h F := ⟨fun ρ a w g => k.out _ a w (g.noneH o ho hro l0 xs xs' T hv hb hc)⟩
theorem X.noneT {e : Exit} (t : Nat) (v' : AV) (o : AO) (ho : ∀ ρ' W, o.Low ρ' (L + 1) ∧ o.holds ρ' none W) (hro : o.isRo = false) {v : AV} (hv : lk t τ = some v) (hb : v'.bd (L + 1) = true) (hc : ∀ ρ : Env, ρ L = Option.none → v'.conc ρ = v.conc ρ)
    (k : X Q e E n (L + 1) ((t, v') :: τ) ((L, o) :: h) F) : X Q e E n L τ h F := ⟨fun ρ a w g => k.out _ a w (g.noneT o ho hro t v v' hv hb hc)⟩
theorem X.noneH {e : Exit} (l0 : Nat) (xs' : List AV) (o : AO) (ho : ∀ ρ' W, o.Low ρ' (L + 1) ∧ o.holds ρ' none W) (hro : o.isRo = false) {xs : List AV} {T : TypeId} (hv : hk l0 h = some (.cells xs T)) (hb : AV.bds (L + 1) xs' = true) (hc : ∀ ρ : Env, ρ L = Option.none → AV.concs ρ xs' = AV.concs ρ xs)
    (k : X Q e E n (L + 1) τ ((L, o) :: (l0, .cells xs' T) :: h) F) : X Q e E n L τ h F := ⟨fun ρ a w g => k.out _ a w (g.noneH o ho hro l0 xs xs' T hv hb hc)⟩
/-- what may be written is new, or came in to be written -/
theorem Gam.fresh {h0 : List AO} {ρ0 : Env} {w0 : World} {ρ : Env} {a : Act} {w : World} (g : Gam E ρ n L τ h (fun w' => Ag (fun b => ¬ Wr0 h0 ρ0 b) w0 w') a w) {l b : Nat} (hl : wrA l h) (hb : ρ l = some b) : w0.heap.size ≤ b ∨ Wr0 h0 ρ0 b := by
  rcases Nat.lt_or_ge b w0.heap.size with h1 | h1
  · right
    refine Classical.byContradiction fun hn => ?_
    have hlt := g.lt hl.live hb
    have key : ∀ ob : Obj, w0.heap[b]? = some ob := fun ob => by
      have h2 : Ag (fun b => ∀ l, wrA l h → ρ l ≠ some b) w { w with heap := w.heap.set! b ob } := ⟨rfl, rfl, rfl, by simp, fun b' hb' hd => by
        have hne : b ≠ b' := fun e => hd l hl (e ▸ hb)
        simp [Array.getElem?_setIfInBounds, hne]⟩
      have h3 := (g.fr _ h2).block b h1 hn
      rw [← h3]
      simp [hlt]
    have h4 := key (.cells #[] 0 (0, 0))
    have h5 := key (.cells #[] 0 (0, 1))
    rw [h4] at h5
    simp at h5
  · exact .inl h1
def wrB (l : Nat) (h : List (Nat × AO)) : Bool := match hk l h with
  | some o => !o.isRo
  | none => false
theorem wrB_ok {l : Nat} {h : List (Nat × AO)} (hw : wrB l h = true) : wrA l h := by
  unfold wrB at hw
  split at hw
  · rename_i o ho; exact ⟨o, ho, by simpa using hw⟩
  · cases hw
def newB (N : Nat) (rl : List (Nat × Nat)) (h : List (Nat × AO)) : List (Nat × AO) → Bool
  | [] => true
  | (l, _) :: r => (Nat.ble (l + 1) N || wrB (rnF rl l) h) && newB N rl h r
def oldB (h0 : List AO) : List (Nat × AO) → Bool
  | [] => true
  | (l, o) :: r => (Nat.ble h0.length l || o.isRo || (match h0[l]? with
    | some o0 => !o0.isRo
    | none => false)) && oldB h0 r
theorem newB_mem {N : Nat} {rl : List (Nat × Nat)} {h : List (Nat × AO)} : ∀ {p : List (Nat × AO)}, newB N rl h p = true → ∀ l, hk l p ≠ none → N ≤ l → wrA (rnF rl l) h
  | [], _, l, hl, _ => by simp [hk, lk] at hl
  | (s, o) :: r, hp, l, hl, hN => by
    simp only [newB, Bool.and_eq_true, Bool.or_eq_true, Nat.ble_eq] at hp
    rw [hk_cons] at hl
    split at hl
    · rename_i e
      subst e
      rcases hp.1 with h1 | h1
      · omega
      · exact wrB_ok h1
    · exact newB_mem hp.2 l hl hN
theorem oldB_mem {h0 : List AO} : ∀ {p : List (Nat × AO)}, oldB h0 p = true → ∀ i o, i < h0.length → hk i p = some o → o.isRo = false → ∃ o0, h0[i]? = some o0 ∧ o0.isRo = false
  | [], _, i, o, _, hl, _ => by simp [hk, lk] at hl
  | (s, u) :: r, hp, i, o, hi, hl, hro => by
    simp only [oldB, Bool.and_eq_true, Bool.or_eq_true, Nat.ble_eq] at hp
    rw [hk_cons] at hl
    split at hl
    · rename_i e
      subst e
      have e2 : o = u := by cases u <;> simp at hl <;> exact hl.symm
      subst e2
      rcases hp.1 with (h1 | h1) | h1
      · omega
      · rw [hro] at h1; cases h1
      · split at h1
        · rename_i o0 ho; exact ⟨o0, ho, by simpa using h1⟩
        · cases h1
    · exact oldB_mem hp.2 i o hi hl hro
/-- the end of a call whose contract is at hand -/
theorem X.fin {tt : List (Nat × TI)} (htt : TTok P tt) {fn : Func} {σ : Type} {h0 : List AO} {m : Nat} {ρ0 : Env} {w0 : World} {G : σ → Prop} {val : σ → AV} {post : σ → List (Nat × AO)} {vs : List AV} (s : σ) (rl : List (Nat × Nat)) (hG : G s) (hr : resA tt h τ fn.results.toList = some vs)
    (hv : resV vs = (val s).ren (rnF rl)) (hb : ((val s).bd m && rnB h0.length m L rl && newB h0.length rl h (post s) && oldB h0 (post s) && nodupB (((post s).map (·.1)).map (rnF rl))) = true) (hh : HasH (rnF rl) m h (post s)) (e : Exit) (he : e = .ret ∨ e = .normal) :
    X (bodyPost P fn (Outc h0 m ρ0 w0 G val post)) e ⟨h0.length, ρ0, []⟩ n L τ h (fun w' => Ag (fun b => ¬ Wr0 h0 ρ0 b) w0 w') := by
  have key : ∀ ρ a w, Gam ⟨h0.length, ρ0, []⟩ ρ n L τ h (fun w' => Ag (fun b => ¬ Wr0 h0 ρ0 b) w0 w') a w → Outc h0 m ρ0 w0 G val post (.returned ((resV vs).conc ρ)) w := fun ρ a w g => by
    simp only [Bool.and_eq_true] at hb
    obtain ⟨⟨⟨⟨h1, h2⟩, h3⟩, h4⟩, h5⟩ := hb
    obtain ⟨h6, h7, h8⟩ := rn_ok h2
    exact g.outc (fun w' h => h) s (rnF rl) hG hv h1 h8 h6 h7 hh h5 (fun l b hl hlive hb => g.fresh (newB_mem h3 l hlive hl) hb) (oldB_mem h4)
  rcases he with rfl | rfl
  · exact X.ret htt hr key
  · exact X.end_ htt hr key
/-- a contract is proved so -/
theorem Spec.of {f : FuncId} {avs : List AV} {h0 : List AO} {m : Nat} {σ : Type} {G : σ → Prop} {val : σ → AV} {post : σ → List (Nat × AO)} {fn : Func} {c : Code} (hf : P.funcs[f]? = some fn) (hb : fn.body = some c) {n : Nat} (hn : fn.ntmps = n) (hB : (Nat.ble avs.length n && AV.bds h0.length avs) = true) (hbo : ∀ o ∈ h0, o.Bd h0.length)
    (k : ∀ ρ w, C P c (bodyPost P fn (Outc h0 m ρ w G val post)) ⟨h0.length, ρ, []⟩ n h0.length (slots 0 avs) (labels 0 h0) (fun w' => Ag (fun b => ¬ Wr0 h0 ρ b) w w')) : Spec P f avs h0 m G val post := fun ρ w h1 h2 h3 => by
  simp only [Bool.and_eq_true] at hB
  exact CL.enter hf hb ρ avs h0 w _ n hn hB.1 hB.2 hbo h1 h2 h3 (k ρ w).out
end
end Go.Proofs.YtaieficgifingaaGreatDoor
