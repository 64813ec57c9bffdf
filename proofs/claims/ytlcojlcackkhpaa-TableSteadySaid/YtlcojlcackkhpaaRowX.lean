/- Out of the row's reading: a list of texts. -/
import Derived.Test.YtlcojlcackkhpaaTI
import Derived.Test.YtlcojlcackkhpaaRowP
namespace Go.Proofs.Ytlcojlcackkhpaa
set_option linter.unusedVariables false
set_option linter.unusedSimpArgs false
open Go.ChangeShapes Go.WideShapes Go.ChangeAt Go.RowKit
set_option maxRecDepth 100000
theorem read_texts {H : Type} {enc : TypeId × Value → H} {W : World} {b0 : Nat} {a : Option Addr} {len cap : Nat} {d : DataW H} {ps : List MemPlace} (hu : Try.prog.underlying 70 = some (.slice 9))
    (hval : Value.okWide Try.prog W .any b0 70 (.slice a len cap)) (h : DataW.Trod enc Try.prog W 0 (fun _ => true) true 70 (.slice a len cap) d ps) :
    ∃ (r : Option Nat) (off : Nat) (l : List ByteArray), a = r.map (fun b => ⟨b, off, none⟩) ∧ l.length = len ∧ (∀ x ∈ l, x.size ≤ 9223372036854775807) ∧ len ≤ cap ∧ cap ≤ 9223372036854775807 ∧ (∀ b, r = some b → b < W.heap.size) ∧ ∀ ρ, (roX off l).holds ρ r W := by
  obtain ⟨r, off, rows, ha, h1, h2, h3, h4, h5⟩ := read_rows hu (k := 1) (by kernel_rfl) hval h
  have each : ∀ i, i < len → ∃ x : ByteArray, x.size ≤ 9223372036854775807 ∧ rows i = [.string x] := fun i hi => by
    obtain ⟨hl, fuel, y, hy⟩ := h5 i hi
    match hr : rows i, hl with
    | [v], _ =>
      rw [hr] at hy
      obtain ⟨x, rfl, hx⟩ := leaf_ok (k := .s) (by kernel_rfl) hy
      exact ⟨x, hx, rfl⟩
  let g : Nat → ByteArray := fun i => if hi : i < len then Classical.choose (each i hi) else noT
  have hg : ∀ i, i < len → (g i).size ≤ 9223372036854775807 ∧ rows i = [.string (g i)] := fun i hi => by
    have := Classical.choose_spec (each i hi)
    simp only [g, hi, dif_pos]
    exact this
  have hlen : ((List.range len).map g).length = len := by simp
  have hget : ∀ i, i < len → txF ((List.range len).map g) i = [.raw (.string (g i))] := fun i hi => by
    unfold txF
    congr 3
    simp [List.getD, hi]
  refine ⟨r, off, (List.range len).map g, ha, hlen, fun x hx => by
    obtain ⟨i, hi, rfl⟩ := List.mem_map.1 hx
    exact (hg i (List.mem_range.1 hi)).1, h1, h2, fun b hb => ?_, fun ρ => ?_⟩
  · obtain ⟨cur, ty, fr, h6, _⟩ := h4 b hb
    exact (Array.getElem?_eq_some_iff.1 h6).1
  · show (AO.ro 1 off (((List.range len).map g).length * 1) (rowsF 1 (txF ((List.range len).map g)))).holds ρ r W
    rw [hlen]
    exact rows_ro (by omega) ρ (fun i hi => (h5 i hi).1) (fun i hi => by rw [hget i hi, (hg i hi).2]; rfl) (fun h => (h3 h).1) h4
end Go.Proofs.Ytlcojlcackkhpaa
