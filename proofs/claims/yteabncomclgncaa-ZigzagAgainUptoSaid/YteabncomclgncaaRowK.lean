/- Out of the row's reading of an argument: what it is in memory. No program in sight. -/
import Derived.Test.YteabncomclgncaaK1
import Derived.ProofKit
import Derived.SizedLaws
namespace Go.Proofs.Yteabncomclgncaa
set_option linter.unusedVariables false
set_option linter.unusedSimpArgs false
open Go.ChangeShapes Go.WideShapes Go.ChangeAt Go.RowKit

def BytesAt (w : World) (a : Option Addr) (p : List UInt8) : Prop :=
  p = [] ∨ ∃ b off, a = some ⟨b, off, none⟩ ∧ b < w.heap.size ∧ ∀ i (h : i < p.length), w.cell? ⟨b, off + i, none⟩ = some (.int .u8 ((p[i]).toNat : Int))
theorem BytesAt.nil (w : World) (a : Option Addr) : BytesAt w a [] := Or.inl rfl
def IntsAt (w : World) (a : Option Addr) (p : List Int) : Prop :=
  p = [] ∨ ∃ b off, a = some ⟨b, off, none⟩ ∧ b < w.heap.size ∧ ∀ i (h : i < p.length), w.cell? ⟨b, off + i, none⟩ = some (.int .i64 (p[i]))
theorem wf_i64 {n : Int} (h : (Lit.int .i64 n).wf = true) : -9223372036854775808 ≤ n ∧ n ≤ 9223372036854775807 := by
  simp [Lit.wf, IntKind.min, IntKind.max, IntKind.signed, IntKind.bits] at h
  omega
theorem addr_spot {W : World} {x : Addr} {v : Value} (h : W.cell? x = some v) : ∃ b off, x = ⟨b, off, none⟩ := by
  obtain ⟨b, off, sp⟩ := x
  cases sp with
  | none => exact ⟨b, off, rfl⟩
  | some s =>
    exfalso
    unfold World.cell? at h
    simp only at h
    cases hh : W.heap[b]? with
    | none => simp [hh] at h
    | some o => cases o <;> simp [hh] at h
theorem addr_add (b off i : Nat) : (⟨b, off, none⟩ : Addr).add i = ⟨b, off + i, none⟩ := by
  unfold Addr.add; split
  · subst_vars; rfl
  · rfl
theorem wf_byte {n : Int} (h : (Lit.int .u8 n).wf = true) : ∃ x : UInt8, n = (x.toNat : Int) := by
  simp [Lit.wf, IntKind.min, IntKind.max, IntKind.signed, IntKind.bits] at h
  refine ⟨UInt8.ofNat n.toNat, ?_⟩
  rw [UInt8.toNat_ofNat']
  omega
theorem bytes_of_ints : ∀ zs : List Int, (∀ n ∈ zs, (Lit.int .u8 n).wf = true) → ∃ p : List UInt8, zs = p.map fun x => (x.toNat : Int)
  | [], _ => ⟨[], rfl⟩
  | n :: zs, h => by
    obtain ⟨x, hx⟩ := wf_byte (h n (by simp))
    obtain ⟨p, hp⟩ := bytes_of_ints zs (fun m hm => h m (by simp [hm]))
    exact ⟨x :: p, by rw [hx, hp]; rfl⟩
theorem read_bytes {H : Type} {enc : TypeId × Value → H} {P : Program} {W : World} {t e : TypeId} {a : Option Addr} {len cap : Nat} {d : DataW H} {ps : List MemPlace}
    (hu : P.underlying t = some (.slice e)) (he : P.underlying e = some (.int .u8)) (hc : P.cellsOf e = 1) (h : DataW.Trod enc P W 0 (fun _ => true) true t (.slice a len cap) d ps) :
    ∃ p : List UInt8, p.length = len ∧ BytesAt W a p ∧ len ≤ cap ∧ cap ≤ 9223372036854775807 := by
  obtain ⟨fuel, hf⟩ := h
  have hlt := DataW.trod_lt fuel t _ _ hf
  rcases open_ints hu he hc hf with ⟨hcs, _⟩ | ⟨x, l, c, zs, hcs, _, hl, hm, hz, hx, hcell, hwz⟩
  · simp [Value.cells] at hcs
    obtain ⟨rfl, rfl, rfl⟩ := hcs
    exact ⟨[], rfl, BytesAt.nil _ _, by omega, by omega⟩
  · simp [Value.cells] at hcs
    obtain ⟨rfl, rfl, rfl⟩ := hcs
    simp only [if_true] at hz
    obtain ⟨q, hq⟩ := bytes_of_ints zs hwz
    have hql : q.length = cap := by rw [← hz, hq]; simp
    refine ⟨q.take len, by simp; omega, ?_, hl, by unfold maxLen at hm; omega⟩
    by_cases h0 : len = 0
    · subst h0; exact Or.inl (by simp)
    · have hcell' : ∀ i, i < cap → W.cell? (x.add i) = some (.int .u8 ((q.getD i 0).toNat : Int)) := fun i hi => by
        rw [hcell i (by omega), hq]
        congr 2
        simp [List.getD, hql, hi]
      have h00 := hcell' 0 (by omega)
      have hx0 : x.add 0 = x := by simp [Addr.add]
      rw [hx0] at h00
      obtain ⟨b, off, sp⟩ := x
      have hsp : sp = none := by
        cases sp with
        | none => rfl
        | some s =>
          exfalso
          unfold World.cell? at h00
          simp only at h00
          cases hh : W.heap[b]? with
          | none => simp [hh] at h00
          | some o => cases o <;> simp [hh] at h00
      subst hsp
      refine Or.inr ⟨b, off, rfl, block_lt_of_cell h00, fun i hi => ?_⟩
      have hi' : i < len := by simp at hi; omega
      have hadd : (⟨b, off, none⟩ : Addr).add i = ⟨b, off + i, none⟩ := by
        unfold Addr.add; split
        · subst_vars; rfl
        · rfl
      have := hcell' i (by omega)
      rw [hadd] at this
      rw [this]
      simp [List.getD, hql, show i < cap by omega]
theorem read_ints {H : Type} {enc : TypeId × Value → H} {P : Program} {W : World} {t e : TypeId} {a : Option Addr} {len cap : Nat} {d : DataW H} {ps : List MemPlace}
    (hu : P.underlying t = some (.slice e)) (he : P.underlying e = some (.int .i64)) (hc : P.cellsOf e = 1) (h : DataW.Trod enc P W 0 (fun _ => true) true t (.slice a len cap) d ps) :
    ∃ p : List Int, p.length = len ∧ IntsAt W a p ∧ (∀ x ∈ p, -9223372036854775808 ≤ x ∧ x ≤ 9223372036854775807) ∧ len ≤ cap ∧ cap ≤ 9223372036854775807 := by
  obtain ⟨fuel, hf⟩ := h
  rcases open_ints hu he hc hf with ⟨hcs, _⟩ | ⟨x, l, c, zs, hcs, _, hl, hm, hz, hx, hcell, hwz⟩
  · simp [Value.cells] at hcs
    obtain ⟨rfl, rfl, rfl⟩ := hcs
    exact ⟨[], rfl, Or.inl rfl, by simp, by omega, by omega⟩
  · simp [Value.cells] at hcs
    obtain ⟨rfl, rfl, rfl⟩ := hcs
    simp only [if_true] at hz
    refine ⟨zs.take len, by simp; omega, ?_, fun x hx => wf_i64 (hwz x (List.mem_of_mem_take hx)), hl, by unfold maxLen at hm; omega⟩
    by_cases h0 : len = 0
    · subst h0; exact Or.inl (by simp)
    · have h00 := hcell 0 (by omega)
      rw [show x.add 0 = x by simp [Addr.add]] at h00
      obtain ⟨b, off, rfl⟩ := addr_spot h00
      refine Or.inr ⟨b, off, rfl, block_lt_of_cell h00, fun i hi => ?_⟩
      have hi' : i < len := by simp at hi; omega
      have := hcell i (by omega)
      rw [addr_add] at this
      rw [this]
      simp [List.getD, show i < zs.length by omega]
end Go.Proofs.Yteabncomclgncaa
