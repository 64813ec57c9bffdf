/- Texts of the claim, merged: only what the theorem needs. -/
import Derived.Test.YtaieficgifingaaGreatDoorPPs
import Derived.ProofKit
import Derived.SizedLaws
namespace Go.Proofs.YtaieficgifingaaGreatDoor
set_option linter.unusedVariables false
set_option linter.unusedSimpArgs false
open Go.ChangeShapes Go.WideShapes Go.ChangeAt Go.RowKit
def BytesAt (w : World) (a : Option Addr) (p : List UInt8) : Prop :=
  p = [] ∨ ∃ b off, a = some ⟨b, off, none⟩ ∧ b < w.heap.size ∧ ∀ i (h : i < p.length), w.cell? ⟨b, off + i, none⟩ = some (.int .u8 ((p[i]).toNat : Int))
theorem BytesAt.nil (w : World) (a : Option Addr) : BytesAt w a [] := Or.inl rfl
theorem wf_i64 {n : Int} (h : (Lit.int .i64 n).wf = true) : -9223372036854775808 ≤ n ∧ n ≤ 9223372036854775807 := by
  simp [Lit.wf, IntKind.min, IntKind.max, IntKind.signed, IntKind.bits] at h
  omega
theorem addr_add (b off i : Nat) : (⟨b, off, none⟩ : Addr).add i = ⟨b, off + i, none⟩ := by
  unfold Addr.add; split
  · subst_vars; rfl
  · rfl
end Go.Proofs.YtaieficgifingaaGreatDoor
namespace Go.Proofs.YtaieficgifingaaGreatDoor
set_option linter.unusedVariables false
set_option linter.unusedSimpArgs false
open Go.ChangeShapes Go.WideShapes Go.ChangeAt Go.RowKit
theorem slice_valid {P : Program} {W : World} {b0 : Nat} {t e : TypeId} {a : Addr} {len cap : Nat} (ht : P.underlying t = some (.slice e)) (h : Value.okWide P W .any b0 t (.slice (some a) len cap)) :
    ∃ b off cur ty fr, a = ⟨b, off, none⟩ ∧ W.heap[b]? = some (.cells cur ty fr) ∧ len ≤ cap ∧ cap ≤ 9223372036854775807 := by
  unfold Value.okWide at h
  rw [ht] at h
  simp only at h
  unfold Cell.okWide at h
  rw [ht] at h
  simp only at h
  unfold Cell.ok at h
  rw [ht] at h
  simp only at h
  obtain ⟨h1, h2, _, h3, row, cells, h4, _⟩ := h
  obtain ⟨b, off, sp⟩ := a
  simp only at h3
  subst h3
  unfold World.shape? at h4
  split at h4
  · rename_i c el fr hh
    exact ⟨b, off, c, el, fr, rfl, hh, h1, by simp [IntKind.max, IntKind.signed, IntKind.bits] at h2; omega⟩
  · cases h4
/-- a slice as rows of k cells -/
theorem read_rows {H : Type} {enc : TypeId × Value → H} {P : Program} {W : World} {b0 : Nat} {t e : TypeId} {k : Nat} {a : Option Addr} {len cap : Nat} {d : DataW H} {ps : List MemPlace}
    (hu : P.underlying t = some (.slice e)) (hk : P.cellsOf e = k) (hval : Value.okWide P W .any b0 t (.slice a len cap)) (h : DataW.Trod enc P W 0 (fun _ => true) true t (.slice a len cap) d ps) :
    ∃ (r : Option Nat) (off : Nat) (rows : Nat → List Value), a = r.map (fun b => ⟨b, off, none⟩) ∧ len ≤ cap ∧ cap ≤ 9223372036854775807 ∧ (r = none → len = 0 ∧ cap = 0) ∧
      (∀ b, r = some b → ∃ cur ty fr, W.heap[b]? = some (.cells cur ty fr) ∧ ∀ i c v, i < len → (rows i)[c]? = some v → cur[off + i * k + c]? = some v) ∧
      ∀ i, i < len → (rows i).length = k ∧ ∃ fuel y, DataW.trod enc P W 0 (fun _ => true) true fuel e (rows i) = some y := by
  obtain ⟨fuel, hf⟩ := h
  rcases DataW.trod_slice hu hf with ⟨hcs, _⟩ | ⟨x, l, c, elems, rest, n, _, hcs, _, hb, hl, hm, hlen, hel, _, _⟩
  · simp [Value.cells] at hcs
    obtain ⟨rfl, rfl, rfl⟩ := hcs
    exact ⟨none, 0, fun _ => [], rfl, Nat.le_refl _, by omega, fun _ => ⟨rfl, rfl⟩, fun b hb => (by cases hb), fun i hi => by omega⟩
  · simp [Value.cells] at hcs
    obtain ⟨rfl, rfl, rfl⟩ := hcs
    obtain ⟨b, off, cur, ty, fr, rfl, hheap, _, _⟩ := slice_valid hu hval
    have each : ∀ i, i < len → ∃ cs, W.cells? 0 ((⟨b, off, none⟩ : Addr).add (i * P.cellsOf e)) (P.cellsOf e) = some cs ∧ ∃ y, DataW.trod enc P W 0 (fun _ => true) true n e cs = some y := fun i hi => by
      have h1 := hel i hi
      have h2 : i < elems.length := by omega
      rw [List.getElem?_eq_getElem h2, Option.bind_eq_some_iff] at h1
      obtain ⟨cs, h3, h4⟩ := h1
      exact ⟨cs, h3, _, h4⟩
    refine ⟨some b, off, fun i => (W.cells? 0 ((⟨b, off, none⟩ : Addr).add (i * P.cellsOf e)) (P.cellsOf e)).getD [], rfl, hl, by unfold maxLen at hm; omega, fun h => (by cases h), fun b' hb' => ?_, fun i hi => ?_⟩
    · cases hb'
      refine ⟨cur, ty, fr, hheap, fun i c v hi hv => ?_⟩
      obtain ⟨cs, h1, _⟩ := each i hi
      simp only [h1, Option.getD_some] at hv
      obtain ⟨_, h2, h3⟩ := World.cells?_some h1
      have hc := (List.getElem?_eq_some_iff.1 hv).1
      have h4 := h3 c (by omega)
      rw [hv, addr_add, addr_add] at h4
      unfold World.cell? at h4
      rw [hheap] at h4
      simp only [Option.isSome_none, Bool.false_eq_true, if_false] at h4
      rw [← h4, ← hk]
    · obtain ⟨cs, h1, h2⟩ := each i hi
      obtain ⟨_, h3, _⟩ := World.cells?_some h1
      simp only [h1, Option.getD_some]
      exact ⟨by rw [h3, hk], n, h2⟩
/-- rows as a label's: what they are made of is told by f -/
theorem rows_ro {W : World} {k off len : Nat} {r : Option Nat} {rows : Nat → List Value} {f : Nat → List AV} (hk : 0 < k) (ρ : Env) (hlen : ∀ i, i < len → (rows i).length = k) (hf : ∀ i, i < len → rows i = AV.concs ρ (f i)) (hn : r = none → len = 0)
    (hr : ∀ b, r = some b → ∃ cur ty fr, W.heap[b]? = some (.cells cur ty fr) ∧ ∀ i c v, i < len → (rows i)[c]? = some v → cur[off + i * k + c]? = some v) : (AO.ro 1 off (len * k) (rowsF k f)).holds ρ r W := by
  cases r with
  | none => exact .inl ⟨rfl, by rw [hn rfl]; omega⟩
  | some b =>
    obtain ⟨cur, ty, fr, h1, h2⟩ := hr b rfl
    refine .inr ⟨b, cur, ty, fr, rfl, h1, fun i c x hi hx => ?_⟩
    have hi1 : i / k < len := Nat.div_lt_of_lt_mul (by rw [Nat.mul_comm]; exact hi)
    have hi2 : i % k < k := Nat.mod_lt _ hk
    unfold rowsF at hx
    split at hx
    · rename_i v hv
      cases c with
      | zero =>
        simp only [List.getElem?_cons_zero, Option.some.injEq] at hx
        subst hx
        have h3 := h2 (i / k) (i % k) (v.conc ρ) hi1 (by rw [hf _ hi1]; exact concs_getR hv)
        rw [← h3]
        congr 1
        have := Nat.div_add_mod i k
        rw [Nat.mul_comm] at this
        omega
      | succ c => simp at hx
    · simp at hx
  where concs_getR {ρ : Env} {xs : List AV} {i : Nat} {v : AV} (h : xs[i]? = some v) : (AV.concs ρ xs)[i]? = some (v.conc ρ) := by rw [concs_map, List.getElem?_map, h]; rfl
inductive LF where
  | i (k : IntKind) | s | b
def LF.ok : LF → Value → Prop
  | .i k, v => ∃ n, v = .int k n ∧ (Lit.int k n).wf = true
  | .s, v => ∃ s, v = .string s ∧ s.size ≤ 9223372036854775807
  | .b, v => ∃ x, v = .bool x
def LF.of (P : Program) (t : TypeId) : Option LF := match P.underlying t with
  | some (.int k) => some (.i k)
  | some .string => some .s
  | some .bool => some .b
  | _ => none
/-- a contract of a law, as the row wants it -/
theorem Spec.law {P : Program} {f : FuncId} {avs : List AV} {h0 : List AO} {post : Unit → List (Nat × AO)} {m : Nat} (sp : Spec P f avs h0 m (σ := Unit) (fun _ => True) (fun _ => .raw (.bool true)) post) (hro : h0.all AO.isRo = true) (ρ : Env) (w : World)
    (hh : ∀ (i : Nat) (o : AO), h0[i]? = some o → o.holds ρ (ρ i) w) (hal : ∀ i b, ρ i = some b → b < w.heap.size) (vs : Array Value) (hv : (AV.concs ρ avs).toArray = vs) :
    Calls P f vs w fun e w' => e = .returned (.bool true) ∧ Below w.heap.size w w' := by
  have hr : ∀ (i : Nat) (o : AO), h0[i]? = some o → o.isRo = true := fun i o h => List.all_eq_true.1 hro o (List.mem_of_getElem? h)
  have := sp ρ w hh (fun i j o b h hn => by rw [hr i o h] at hn; cases hn) (fun i b _ h => hal i b h)
  rw [hv] at this
  refine this.mono ?_
  rintro e w' ⟨s, ρ', _, _, he, _, hag, _⟩
  exact ⟨he, hag.os, hag.tape, hag.output, hag.size, fun b hb => hag.block b hb fun ⟨i, o, h, hn, _⟩ => by rw [hr i o h] at hn; cases hn⟩
end Go.Proofs.YtaieficgifingaaGreatDoor
