/- Out of the row's reading: a list of steps (zigzag). -/
import Derived.Test.YteabncomclgncaaZW
import Derived.Test.YteabncomclgncaaRowP
namespace Go.Proofs.Yteabncomclgncaa
set_option linter.unusedVariables false
set_option linter.unusedSimpArgs false
open Go.ChangeShapes Go.WideShapes Go.ChangeAt Go.RowKit
set_option maxRecDepth 100000
set_option maxHeartbeats 4000000
theorem read_stepsz {H : Type} {enc : TypeId × Value → H} {W : World} {b0 : Nat} {a : Option Addr} {len cap : Nat} {d : DataW H} {ps : List MemPlace} (hu : Try.prog.underlying 36 = some (.slice 42))
    (hval : Value.okWide Try.prog W .any b0 36 (.slice a len cap)) (h : DataW.Trod enc Try.prog W 0 (fun _ => true) true 36 (.slice a len cap) d ps) :
    ∃ (r : Option Nat) (off : Nat) (l : List StZ), a = r.map (fun b => ⟨b, off, none⟩) ∧ l.length = len ∧ True ∧ len ≤ cap ∧ cap ≤ 9223372036854775807 ∧ (∀ b, r = some b → b < W.heap.size) ∧ ∀ ρ, (roZ off l).holds ρ r W := by
  obtain ⟨r, off, rows, ha, h1, h2, h3, h4, h5⟩ := read_rows hu (k := 6) (by kernel_rfl) hval h
  have each : ∀ i, i < len → ∃ x : StZ, rows i = [.int .i64 x.kind, .int .i64 x.v, .int .i64 x.n, .string x.key, .string x.to, .string x.other] := fun i hi => by
    obtain ⟨hl, fuel, y, hy⟩ := h5 i hi
    have hs := struct_leafs (ks := [.i .i64, .i .i64, .i .i64, .s, .s, .s]) Try.underlying42 (by kernel_rfl) (by kernel_rfl) (by kernel_rfl) hy (by rw [hl]; rfl)
    obtain ⟨v0, e0, n0, rfl, w0⟩ := hs 0 _ rfl
    obtain ⟨v1, e1, n1, rfl, w1⟩ := hs 1 _ rfl
    obtain ⟨v2, e2, n2, rfl, w2⟩ := hs 2 _ rfl
    obtain ⟨v3, e3, s3, rfl, w3⟩ := hs 3 _ rfl
    obtain ⟨v4, e4, s4, rfl, w4⟩ := hs 4 _ rfl
    obtain ⟨v5, e5, s5, rfl, w5⟩ := hs 5 _ rfl
    refine ⟨⟨n0, n1, n2, s3, s4, s5⟩, ?_⟩
    match hr : rows i, hl, e0, e1, e2, e3, e4, e5 with
    | [a, b, c, d, e, f], _, e0, e1, e2, e3, e4, e5 =>
      simp only [List.getElem?_cons_zero, List.getElem?_cons_succ, Option.some.injEq] at e0 e1 e2 e3 e4 e5
      rw [e0, e1, e2, e3, e4, e5]
  let g : Nat → StZ := fun i => if hi : i < len then Classical.choose (each i hi) else StZ.no
  have hg : ∀ i, i < len → rows i = AV.concs (fun _ => none) (stZ (g i)) := fun i hi => by
    have := Classical.choose_spec (each i hi)
    simp only [g, hi, dif_pos]
    exact this
  have hlen : ((List.range len).map g).length = len := by simp
  have hget : ∀ i, i < len → szF ((List.range len).map g) i = stZ (g i) := fun i hi => by
    unfold szF
    congr 1
    simp [List.getD, hi]
  refine ⟨r, off, (List.range len).map g, ha, hlen, trivial, h1, h2, fun b hb => ?_, fun ρ => ?_⟩
  · obtain ⟨cur, ty, fr, h6, _⟩ := h4 b hb
    exact (Array.getElem?_eq_some_iff.1 h6).1
  · show (AO.ro 1 off (((List.range len).map g).length * 6) (rowsF 6 (szF ((List.range len).map g)))).holds ρ r W
    rw [hlen]
    exact rows_ro (by omega) ρ (fun i hi => (h5 i hi).1) (fun i hi => by rw [hget i hi, hg i hi]; rfl) (fun h => (h3 h).1) h4
end Go.Proofs.Yteabncomclgncaa
