/- Out of the row's reading: rows with their weights; a list of texts, each no longer than any memory bears. -/
import Derived.Test.YtlcojlcackkhpaaTI
import Derived.Test.YtlcojlcackkhpaaRowP
namespace Go.Proofs.Ytlcojlcackkhpaa
set_option linter.unusedVariables false
set_option linter.unusedSimpArgs false
open Go.ChangeShapes Go.WideShapes Go.ChangeAt Go.RowKit
set_option maxRecDepth 100000
theorem weightsAll_mem {H : Type} {P : Program} {e : TypeId} : ∀ {l : List (DataW H)} {d : DataW H}, d ∈ l → ∀ n ∈ d.weights P e, n ∈ DataW.weightsAll P e l
  | x :: l, d, hd, n, hn => by
    simp only [DataW.weightsAll, List.mem_append]
    rcases List.mem_cons.1 hd with rfl | hd
    · exact .inl hn
    · exact .inr (weightsAll_mem hd n hn)
/-- a slice as rows of k cells, what each weighs -/
theorem read_rowsW {H : Type} {enc : TypeId × Value → H} {P : Program} {W : World} {b0 : Nat} {t e : TypeId} {k : Nat} {a : Option Addr} {len cap : Nat} {d : DataW H} {ps : List MemPlace}
    (hu : P.underlying t = some (.slice e)) (hk : P.cellsOf e = k) (hval : Value.okWide P W .any b0 t (.slice a len cap)) (h : DataW.Trod enc P W 0 (fun _ => true) true t (.slice a len cap) d ps) :
    ∃ (r : Option Nat) (off : Nat) (rows : Nat → List Value), a = r.map (fun b => ⟨b, off, none⟩) ∧ len ≤ cap ∧ cap ≤ 9223372036854775807 ∧ (r = none → len = 0 ∧ cap = 0) ∧
      (∀ b, r = some b → ∃ cur ty fr, W.heap[b]? = some (.cells cur ty fr) ∧ ∀ i c v, i < len → (rows i)[c]? = some v → cur[off + i * k + c]? = some v) ∧
      ∀ i, i < len → (rows i).length = k ∧ ∃ fuel y, DataW.trod enc P W 0 (fun _ => true) true fuel e (rows i) = some y ∧ ∀ n ∈ y.1.weights P e, n ∈ d.weights P t := by
  obtain ⟨fuel, hf⟩ := h
  rcases DataW.trod_slice hu hf with ⟨hcs, _⟩ | ⟨x, l, c, elems, rest, n, _, hcs, hx, hb, hl, hm, hlen, hel, _, _⟩
  · simp [Value.cells] at hcs
    obtain ⟨rfl, rfl, rfl⟩ := hcs
    exact ⟨none, 0, fun _ => [], rfl, Nat.le_refl _, by omega, fun _ => ⟨rfl, rfl⟩, fun b hb => (by cases hb), fun i hi => by omega⟩
  · simp [Value.cells] at hcs
    obtain ⟨rfl, rfl, rfl⟩ := hcs
    obtain ⟨b, off, cur, ty, fr, rfl, hheap, _, _⟩ := slice_valid hu hval
    have hd : d = .slice (elems.map (·.1)) (rest.map (·.1)) := congrArg Prod.fst hx
    have each : ∀ i, i < len → ∃ cs, W.cells? 0 ((⟨b, off, none⟩ : Addr).add (i * P.cellsOf e)) (P.cellsOf e) = some cs ∧ ∃ y, DataW.trod enc P W 0 (fun _ => true) true n e cs = some y ∧ ∀ n ∈ y.1.weights P e, n ∈ d.weights P t := fun i hi => by
      have h1 := hel i hi
      have h2 : i < elems.length := by omega
      rw [List.getElem?_eq_getElem h2, Option.bind_eq_some_iff] at h1
      obtain ⟨cs, h3, h4⟩ := h1
      refine ⟨cs, h3, _, h4, fun q hq => ?_⟩
      rw [hd]
      simp only [DataW.weights, hu, List.mem_cons, List.mem_append]
      exact .inr (.inl (weightsAll_mem (List.mem_map.2 ⟨elems[i], List.getElem_mem h2, rfl⟩) q hq))
    refine ⟨some b, off, fun i => (W.cells? 0 ((⟨b, off, none⟩ : Addr).add (i * P.cellsOf e)) (P.cellsOf e)).getD [], rfl, hl, by unfold maxLen at hm; omega, fun h => (by cases h), fun b' hb' => ?_, fun i hi => ?_⟩
    · cases hb'
      refine ⟨cur, ty, fr, hheap, fun i c v hi hv => ?_⟩
      obtain ⟨cs, h1, _⟩ := each i hi
      simp only [h1, Option.getD_some] at hv
      obtain ⟨_, h2, h3⟩ := World.cells?_some h1
      have hc := (List.getElem?_eq_some_iff.1 hv).1
      have h4 := h3 c (by omega)
      rw [hv, addr_add, addr_add] at h4
      unfold World.cell? at h4
      rw [hheap] at h4
      simp only [Option.isSome_none, Bool.false_eq_true, if_false] at h4
      rw [← h4, ← hk]
    · obtain ⟨cs, h1, h2⟩ := each i hi
      obtain ⟨_, h3, _⟩ := World.cells?_some h1
      simp only [h1, Option.getD_some]
      exact ⟨by rw [h3, hk], n, h2⟩
theorem read_textsw {H : Type} {enc : TypeId × Value → H} {W : World} {b0 : Nat} {a : Option Addr} {len cap : Nat} {d : DataW H} {ps : List MemPlace} (hu : Try.prog.underlying 70 = some (.slice 9))
    (hval : Value.okWide Try.prog W .any b0 70 (.slice a len cap)) (h : DataW.Trod enc Try.prog W 0 (fun _ => true) true 70 (.slice a len cap) d ps) (hw : ∀ n ∈ d.weights Try.prog 70, n ≤ reachBytes) :
    ∃ (r : Option Nat) (off : Nat) (l : List ByteArray), a = r.map (fun b => ⟨b, off, none⟩) ∧ l.length = len ∧ (∀ x ∈ l, x.size ≤ 140737488351232) ∧ len ≤ cap ∧ cap ≤ 9223372036854775807 ∧ (∀ b, r = some b → b < W.heap.size) ∧ ∀ ρ, (roX off l).holds ρ r W := by
  obtain ⟨r, off, rows, ha, h1, h2, h3, h4, h5⟩ := read_rowsW hu (k := 1) (by kernel_rfl) hval h
  have each : ∀ i, i < len → ∃ x : ByteArray, x.size ≤ 140737488351232 ∧ rows i = [.string x] := fun i hi => by
    obtain ⟨hl, fuel, y, hy, hyw⟩ := h5 i hi
    obtain ⟨s, hs, rfl, _⟩ := DataW.trod_string Try.underlying9 hy
    refine ⟨s, ?_, hs⟩
    have := hw _ (hyw s.data.toList.length (by simp [DataW.weights]))
    rw [Array.length_toList] at this
    exact this
  let g : Nat → ByteArray := fun i => if hi : i < len then Classical.choose (each i hi) else noT
  have hg : ∀ i, i < len → (g i).size ≤ 140737488351232 ∧ rows i = [.string (g i)] := fun i hi => by
    have := Classical.choose_spec (each i hi)
    simp only [g, hi, dif_pos]
    exact this
  have hlen : ((List.range len).map g).length = len := by simp
  have hget : ∀ i, i < len → txF ((List.range len).map g) i = [.raw (.string (g i))] := fun i hi => by
    unfold txF
    congr 3
    simp [List.getD, hi]
  refine ⟨r, off, (List.range len).map g, ha, hlen, fun x hx => ?_, h1, h2, fun b hb => ?_, fun ρ => ?_⟩
  · obtain ⟨i, hi, rfl⟩ := List.mem_map.1 hx
    exact (hg i (List.mem_range.1 hi)).1
  · obtain ⟨cur, ty, fr, h6, _⟩ := h4 b hb
    exact (Array.getElem?_eq_some_iff.1 h6).1
  · show (AO.ro 1 off (((List.range len).map g).length * 1) (rowsF 1 (txF ((List.range len).map g)))).holds ρ r W
    rw [hlen]
    exact rows_ro (by omega) ρ (fun i hi => (h5 i hi).1) (fun i hi => by rw [hget i hi, (hg i hi).2]; rfl) (fun h => (h3 h).1) h4
end Go.Proofs.Ytlcojlcackkhpaa
