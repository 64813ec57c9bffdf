/- Out of the row's reading: a list of items. -/
import Derived.Test.YtchbncbojfiiiaaOG
import Derived.Test.YtchbncbojfiiiaaRowP
namespace Go.Proofs.Ytchbncbojfiiiaa
set_option linter.unusedVariables false
set_option linter.unusedSimpArgs false
open Go.ChangeShapes Go.WideShapes Go.ChangeAt Go.RowKit
theorem wf_u64 {n : Int} (h : (Lit.int .u64 n).wf = true) : ∃ u : Nat, n = u ∧ u < 18446744073709551616 := by
  simp [Lit.wf, IntKind.min, IntKind.max, IntKind.signed, IntKind.bits] at h
  exact ⟨n.toNat, by omega, by omega⟩
theorem read_items {H : Type} {enc : TypeId × Value → H} {W : World} {b0 : Nat} {a : Option Addr} {len cap : Nat} {d : DataW H} {ps : List MemPlace} (hu : Try.prog.underlying 22 = some (.slice 35))
    (hval : Value.okWide Try.prog W .any b0 22 (.slice a len cap)) (h : DataW.Trod enc Try.prog W 0 (fun _ => true) true 22 (.slice a len cap) d ps) :
    ∃ (r : Option Nat) (off : Nat) (l : List It), a = r.map (fun b => ⟨b, off, none⟩) ∧ l.length = len ∧ (∀ x ∈ l, x.Ok) ∧ len ≤ cap ∧ cap ≤ 9223372036854775807 ∧ (∀ b, r = some b → b < W.heap.size) ∧ ∀ ρ, (roI off l).holds ρ r W := by
  obtain ⟨r, off, rows, ha, h1, h2, h3, h4, h5⟩ := read_rows hu (k := 5) (by kernel_rfl) hval h
  have each : ∀ i, i < len → ∃ x : It, x.Ok ∧ rows i = [.int .i64 x.k, .int .i64 x.n, .int .u64 x.u, .int .i64 x.i, .string x.s] := fun i hi => by
    obtain ⟨hl, fuel, y, hy⟩ := h5 i hi
    have hs := struct_leafs (ks := [.i .i64, .i .i64, .i .u64, .i .i64, .s]) Try.underlying35 (by kernel_rfl) (by kernel_rfl) (by kernel_rfl) hy (by rw [hl]; rfl)
    obtain ⟨v0, e0, n0, rfl, w0⟩ := hs 0 _ rfl
    obtain ⟨v1, e1, n1, rfl, w1⟩ := hs 1 _ rfl
    obtain ⟨v2, e2, n2, rfl, w2⟩ := hs 2 _ rfl
    obtain ⟨v3, e3, n3, rfl, w3⟩ := hs 3 _ rfl
    obtain ⟨v4, e4, s, rfl, w4⟩ := hs 4 _ rfl
    obtain ⟨u, rfl, hu2⟩ := wf_u64 w2
    refine ⟨⟨n0, n1, u, n3, s⟩, ⟨(wf_i64 w0).1, (wf_i64 w0).2, (wf_i64 w1).1, (wf_i64 w1).2, hu2, (wf_i64 w3).1, (wf_i64 w3).2⟩, ?_⟩
    match hr : rows i, hl, e0, e1, e2, e3, e4 with
    | [a, b, c, d, e], _, e0, e1, e2, e3, e4 =>
      simp only [List.getElem?_cons_zero, List.getElem?_cons_succ, Option.some.injEq] at e0 e1 e2 e3 e4
      rw [e0, e1, e2, e3, e4]
  let g : Nat → It := fun i => if hi : i < len then Classical.choose (each i hi) else It.no
  have hg : ∀ i, i < len → (g i).Ok ∧ rows i = AV.concs (fun _ => none) (itA (g i)) := fun i hi => by
    have := Classical.choose_spec (each i hi)
    simp only [g, hi, dif_pos]
    exact this
  have hlen : ((List.range len).map g).length = len := by simp
  have hget : ∀ i, i < len → itF ((List.range len).map g) i = itA (g i) := fun i hi => by
    unfold itF
    congr 1
    simp [List.getD, hi]
  refine ⟨r, off, (List.range len).map g, ha, hlen, fun x hx => ?_, h1, h2, fun b hb => ?_, fun ρ => ?_⟩
  · obtain ⟨i, hi, rfl⟩ := List.mem_map.1 hx
    exact (hg i (List.mem_range.1 hi)).1
  · obtain ⟨cur, ty, fr, h6, _⟩ := h4 b hb
    exact (Array.getElem?_eq_some_iff.1 h6).1
  · show (AO.ro 1 off (((List.range len).map g).length * 5) (rowsF 5 (itF ((List.range len).map g)))).holds ρ r W
    rw [hlen]
    exact rows_ro (by omega) ρ (fun i hi => (h5 i hi).1) (fun i hi => by rw [hget i hi, (hg i hi).2]; rfl) (fun h => (h3 h).1) h4
end Go.Proofs.Ytchbncbojfiiiaa
