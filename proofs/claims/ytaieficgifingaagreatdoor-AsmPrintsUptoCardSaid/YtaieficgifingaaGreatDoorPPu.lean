/- Texts of the claim, merged: only what the theorem needs. -/
import Derived.Test.YtaieficgifingaaGreatDoorPPt
import Derived.WideShapes
import Derived.OpenShut
namespace Go.Proofs.YtaieficgifingaaGreatDoor
set_option linter.unusedVariables false
set_option linter.unusedSimpArgs false
open Go.ChangeShapes Go.WideShapes Go.ChangeAt Go.RowKit
set_option maxRecDepth 100000
set_option maxHeartbeats 4000000
section
variable {H : Type} {enc : TypeId × Value → H} {W : World}
theorem cInt : Tryz.prog.cellsOf 3 = 1 := by kernel_rfl
theorem cI64 : Tryz.prog.cellsOf 2 = 1 := by kernel_rfl
theorem cStr : Tryz.prog.cellsOf 9 = 1 := by kernel_rfl
theorem cVal : Tryz.prog.cellsOf 40 = 3 := by kernel_rfl
theorem cIns : Tryz.prog.cellsOf 42 = 8 := by kernel_rfl
theorem cPro : Tryz.prog.cellsOf 25 = 3 := by kernel_rfl
theorem cCod : Tryz.prog.cellsOf 23 = 1 := by kernel_rfl
theorem fld {P : Program} {t : TypeId} {fs : Array Field} {fuel : Nat} {cs : List Value} {x : DataW H × List MemPlace} (ht : P.underlying t = some (.struct fs)) (h : DataW.trod enc P W 0 (fun _ => true) true fuel t cs = some x) (j : Nat) {f : Field} (hj : fs[j]? = some f) (u off c : Nat) (hu : f.type = u) (ho : f.offset = off) (hc : P.cellsOf u = c) :
    ∃ n y, DataW.trod enc P W 0 (fun _ => true) true n u ((cs.drop off).take c) = some y := by
  obtain ⟨xs, n, _, _, _, hx, he⟩ := DataW.trod_struct ht h
  have h1 := he j f hj
  have hjs : j < xs.length := by
    have := (Array.getElem?_eq_some_iff.1 hj).1
    omega
  rw [List.getElem?_eq_getElem hjs, hu, ho, hc] at h1
  exact ⟨n, _, h1⟩
theorem one_int {P : Program} {u : TypeId} {n : Nat} {v : Value} {y : DataW H × List MemPlace} (hu : P.underlying u = some (.int .i64)) (h : DataW.trod enc P W 0 (fun _ => true) true n u [v] = some y) : ∃ z, v = .int .i64 z ∧ i64 z := by
  obtain ⟨z, h1, _, h2⟩ := DataW.trod_int hu h
  cases h1
  exact ⟨z, rfl, wf_i64 h2⟩
theorem one_str {P : Program} {u : TypeId} {n : Nat} {v : Value} {y : DataW H × List MemPlace} (hu : P.underlying u = some .string) (h : DataW.trod enc P W 0 (fun _ => true) true n u [v] = some y) : ∃ z, v = .string z := by
  obtain ⟨z, h1, _, h2⟩ := DataW.trod_string hu h
  cases h1
  exact ⟨z, rfl⟩
theorem read_instr {fuel : Nat} {cs : List Value} {y : DataW H × List MemPlace} (hl : cs.length = 8) (h : DataW.trod enc Tryz.prog W 0 (fun _ => true) true fuel 42 cs = some y) : ∃ x : Ins, insI x ∧ cs = AV.concs (fun _ => none) (insA x) := by
  match cs, hl with
  | [c0, c1, c2, c3, c4, c5, c6, c7], _ =>
    have hI := Tryz.underlying3
    have hJ := Tryz.underlying2
    have hS := Tryz.underlying9
    obtain ⟨_, _, g0⟩ := fld Tryz.underlying42 h 0 rfl 3 0 1 rfl rfl cInt
    obtain ⟨_, _, g1⟩ := fld Tryz.underlying42 h 1 rfl 3 1 1 rfl rfl cInt
    obtain ⟨_, _, g2⟩ := fld Tryz.underlying42 h 2 rfl 3 2 1 rfl rfl cInt
    obtain ⟨_, _, g3⟩ := fld Tryz.underlying42 h 3 rfl 3 3 1 rfl rfl cInt
    obtain ⟨_, _, g4⟩ := fld Tryz.underlying42 h 4 rfl 3 4 1 rfl rfl cInt
    obtain ⟨_, _, g5⟩ := fld Tryz.underlying42 h 5 rfl 40 5 3 rfl rfl cVal
    obtain ⟨_, _, k0⟩ := fld Tryz.underlying40 g5 0 rfl 3 0 1 rfl rfl cInt
    obtain ⟨_, _, k1⟩ := fld Tryz.underlying40 g5 1 rfl 2 1 1 rfl rfl cI64
    obtain ⟨_, _, k2⟩ := fld Tryz.underlying40 g5 2 rfl 9 2 1 rfl rfl cStr
    obtain ⟨z0, rfl, w0⟩ := one_int hI g0
    obtain ⟨z1, rfl, w1⟩ := one_int hI g1
    obtain ⟨z2, rfl, w2⟩ := one_int hI g2
    obtain ⟨z3, rfl, w3⟩ := one_int hI g3
    obtain ⟨z4, rfl, w4⟩ := one_int hI g4
    obtain ⟨z5, rfl, w5⟩ := one_int hI k0
    obtain ⟨z6, rfl, w6⟩ := one_int hJ k1
    obtain ⟨z7, rfl⟩ := one_str hS k2
    exact ⟨⟨z0, z1, z2, z3, z4, z5, z6, z7⟩, ⟨w1, w2, w3, w4, w6⟩, rfl⟩
theorem read_code {b0 : Nat} {a : Option Addr} {len cap : Nat} {d : DataW H} {ps : List MemPlace}
    (hval : Value.okWide Tryz.prog W .any b0 23 (.slice a len cap)) (h : DataW.Trod enc Tryz.prog W 0 (fun _ => true) true 23 (.slice a len cap) d ps) :
    ∃ (r : Option Nat) (off : Nat) (l : List Ins), a = r.map (fun b => ⟨b, off, none⟩) ∧ l.length = len ∧ (∀ x ∈ l, insI x) ∧ len ≤ cap ∧ cap ≤ 9223372036854775807 ∧ (∀ b, r = some b → b < W.heap.size) ∧ ∀ ρ, (roJ off l).holds ρ r W := by
  obtain ⟨r, off, rows, ha, h1, h2, h3, h4, h5⟩ := read_rows Tryz.underlying23 cIns hval h
  have each : ∀ i, i < len → ∃ x : Ins, insI x ∧ rows i = AV.concs (fun _ => none) (insA x) := fun i hi => by
    obtain ⟨hl, fuel, y, hy⟩ := h5 i hi
    exact read_instr hl hy
  let g : Nat → Ins := fun i => if hi : i < len then Classical.choose (each i hi) else insD
  have hg : ∀ i, i < len → insI (g i) ∧ rows i = AV.concs (fun _ => none) (insA (g i)) := fun i hi => by
    have := Classical.choose_spec (each i hi)
    simp only [g, hi, dif_pos]
    exact this
  have hlen : ((List.range len).map g).length = len := by simp
  have hget : ∀ i, i < len → insF ((List.range len).map g) i = insA (g i) := fun i hi => by
    unfold insF
    congr 1
    simp [List.getD, hi]
  refine ⟨r, off, (List.range len).map g, ha, hlen, fun x hx => by
    obtain ⟨i, hi, rfl⟩ := List.mem_map.1 hx
    exact (hg i (List.mem_range.1 hi)).1, h1, h2, fun b hb => ?_, fun ρ => ?_⟩
  · obtain ⟨cur, ty, fr, h6, _⟩ := h4 b hb
    exact (Array.getElem?_eq_some_iff.1 h6).1
  · show (AO.ro 1 off (((List.range len).map g).length * 8) (rowsF 8 (insF ((List.range len).map g)))).holds ρ r W
    rw [hlen]
    exact rows_ro (by omega) ρ (fun i hi => (h5 i hi).1) (fun i hi => by rw [hget i hi, (hg i hi).2]; rfl) (fun h => (h3 h).1) h4
/-- a procedure that came in -/
theorem read_proc {b0 : Nat} {v : Value} {d : DataW H} {ps : List MemPlace}
    (hval : Value.okWide Tryz.prog W .any b0 25 v) (h : DataW.Trod enc Tryz.prog W 0 (fun _ => true) true 25 v d ps) :
    ∃ (nm : ByteArray) (ar : Int) (r : Option Nat) (off : Nat) (l : List Ins) (cap : Nat), v = .agg #[.string nm, .int .i64 ar, .slice (r.map fun b => ⟨b, off, none⟩) l.length cap] ∧ (∀ x ∈ l, insI x) ∧ l.length ≤ cap ∧ cap ≤ 9223372036854775807 ∧ (∀ b, r = some b → b < W.heap.size) ∧ ∀ ρ, (roJ off l).holds ρ r W := by
  have hp := Tryz.underlying25
  unfold Value.okWide at hval
  rw [hp] at hval
  simp only at hval
  obtain ⟨cs, rfl, hsz, ts, hts, _, hcell⟩ := hval
  rw [cPro] at hsz
  have hts' : Tryz.prog.cellTypes Tryz.prog.depth 25 = some [9, 3, 23] := by kernel_rfl
  rw [hts', Option.some.injEq] at hts
  subst hts
  obtain ⟨fuel, hf⟩ := h
  match cs, hsz with
  | ⟨[c0, c1, c2]⟩, _ =>
    have hf' : DataW.trod enc Tryz.prog W 0 (fun _ => true) true fuel 25 [c0, c1, c2] = some (d, ps) := hf
    obtain ⟨_, _, g0⟩ := fld hp hf' 0 rfl 9 0 1 rfl rfl cStr
    obtain ⟨_, _, g1⟩ := fld hp hf' 1 rfl 3 1 1 rfl rfl cInt
    obtain ⟨n2, y2, g2⟩ := fld hp hf' 2 rfl 23 2 1 rfl rfl cCod
    obtain ⟨z0, rfl⟩ := one_str Tryz.underlying9 g0
    obtain ⟨z1, rfl, _⟩ := one_int Tryz.underlying3 g1
    obtain ⟨u, hu, hc⟩ := hcell 2 c2 rfl
    have hu' : u = 23 := by
      simp at hu
      exact hu.symm
    subst hu'
    have hv2 : Value.okWide Tryz.prog W .any b0 23 c2 := by
      unfold Value.okWide
      rw [Tryz.underlying23]
      exact hc
    obtain ⟨a, len, cap, rfl⟩ := okWide_slice Tryz.underlying23 hv2
    obtain ⟨y2a, y2b⟩ := y2
    obtain ⟨r, off, l, ha, hl, h1, h2, h3, h4, h5⟩ := read_code hv2 ⟨n2, g2⟩
    subst ha hl
    exact ⟨z0, z1, r, off, l, cap, rfl, h1, h2, h3, h4, h5⟩
end
end Go.Proofs.YtaieficgifingaaGreatDoor
