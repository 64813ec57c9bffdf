/- What the document fixes of the sums: the walk of 'known'. -/
import Derived.Test.YtflonblpfkfpnaaCrcS
import Derived.Lib.SlBytesConst
namespace Go.Proofs.Ytflonblpfkfpnaa
set_option linter.unusedVariables false
set_option linter.unusedSimpArgs false
open Go.RowKit

/-- a new block reads as bytes -/
theorem bytesAt_block {w : World} {b : Nat} {cs : Array Value} {T : TypeId} {fr : Nat × Nat} (h : w.heap[b]? = some (.cells cs T fr)) (p : List UInt8) (hp : cs = (p.map fun x => Value.int .u8 (x.toNat : Int)).toArray) :
    BytesAt w (some ⟨b, 0, none⟩) p := by
  refine Or.inr ⟨b, 0, rfl, blk_lt h, fun i hi => ?_⟩
  rw [Nat.zero_add]
  refine blk_cell h ?_
  subst hp
  simp [hi]
theorem acc_call {B : Nat} {w wc w' : World} (h : Below B w wc) (hb : Below wc.heap.size wc w') (hB : B ≤ w.heap.size) : Below B w w' := h.trans (hb.mono (by have := h.size; omega))
theorem acc_new {B : Nat} {w wc w' : World} {o : Obj} (h : Below B w wc) (hb : Below (wc.alloc o).heap.size (wc.alloc o) w') (hB : B ≤ w.heap.size) : Below B w w' :=
  (h.alloc (by have := h.size; omega) o).trans (hb.mono (by have := h.size; simp; omega))

set_option maxRecDepth 100000 in
set_option maxHeartbeats 1000000 in
theorem known_any (w : World) : Calls Try.prog 14 #[] w fun e w' => e = .returned (.bool true) ∧ Below w.heap.size w w' := by
  have k0 : ∀ w, Calls Try.prog 9 #[.slice none 0 0] w fun e w' => e = .returned (.int .u32 0) ∧ Below w.heap.size w w' := fun w => of_any [] none 0 w (BytesAt.nil _ _) (by decide)
  have k9 : ∀ (w : World) b fr, w.heap[b]? = some (.cells #[.int .u8 49, .int .u8 50, .int .u8 51, .int .u8 52, .int .u8 53, .int .u8 54, .int .u8 55, .int .u8 56, .int .u8 57] 5 fr) →
      Calls Try.prog 9 #[.slice (some ⟨b, 0, none⟩) 9 9] w fun e w' => e = .returned (.int .u32 3808858755) ∧ Below w.heap.size w w' := fun w b fr h => by
    have := of_any [49, 50, 51, 52, 53, 54, 55, 56, 57] (some ⟨b, 0, none⟩) 9 w (bytesAt_block h _ rfl) (by decide)
    rwa [show v32 (crcOf [49, 50, 51, 52, 53, 54, 55, 56, 57]) = 3808858755 by decide +kernel] at this
  have k4 : ∀ (w : World) b fr, w.heap[b]? = some (.cells #[.int .u8 49, .int .u8 50, .int .u8 51, .int .u8 52] 5 fr) →
      Calls Try.prog 9 #[.slice (some ⟨b, 0, none⟩) 4 4] w fun e w' => e = .returned (.int .u32 (v32 (crcOf [49, 50, 51, 52]) : Int)) ∧ Below w.heap.size w w' := fun w b fr h =>
    of_any [49, 50, 51, 52] (some ⟨b, 0, none⟩) 4 w (bytesAt_block h _ rfl) (by decide)
  have k5 : ∀ (w : World) b fr, w.heap[b]? = some (.cells #[.int .u8 53, .int .u8 54, .int .u8 55, .int .u8 56, .int .u8 57] 5 fr) →
      Calls Try.prog 9 #[.slice (some ⟨b, 0, none⟩) 5 5] w fun e w' => e = .returned (.int .u32 (v32 (crcOf [53, 54, 55, 56, 57]) : Int)) ∧ Below w.heap.size w w' := fun w b fr h =>
    of_any [53, 54, 55, 56, 57] (some ⟨b, 0, none⟩) 5 w (bytesAt_block h _ rfl) (by decide)
  have u5 : ∀ (w : World) b fr, w.heap[b]? = some (.cells #[.int .u8 53, .int .u8 54, .int .u8 55, .int .u8 56, .int .u8 57] 5 fr) →
      Calls Try.prog 11 #[.int .u32 (v32 (crcOf [49, 50, 51, 52]) : Int), .slice (some ⟨b, 0, none⟩) 5 5] w fun e w' => e = .returned (.int .u32 3808858755) ∧ Below w.heap.size w w' := fun w b fr h => by
    have := update_any (crcOf [49, 50, 51, 52]) [53, 54, 55, 56, 57] (some ⟨b, 0, none⟩) 5 w (bytesAt_block h _ rfl) (by decide)
    rwa [show v32 (crcUpdate (crcOf [49, 50, 51, 52]) [53, 54, 55, 56, 57]) = 3808858755 by decide +kernel] at this
  have c3 : ∀ w : World, Calls Try.prog 15 #[.int .u32 7, .int .u32 9, .int .i64 (-3)] w fun e w' => e = .returned (.int .u32 14) ∧ Below w.heap.size w w' := fun w =>
    combine_any 7#32 9#32 (-3) w (by decide) (by decide)
  have c5 : ∀ w : World, Calls Try.prog 15 #[.int .u32 (v32 (crcOf [49, 50, 51, 52]) : Int), .int .u32 (v32 (crcOf [53, 54, 55, 56, 57]) : Int), .int .i64 5] w fun e w' => e = .returned (.int .u32 3808858755) ∧ Below w.heap.size w w' := fun w => by
    have := combine_any (crcOf [49, 50, 51, 52]) (crcOf [53, 54, 55, 56, 57]) 5 w (by decide) (by decide)
    rwa [show v32 (combine (crcOf [49, 50, 51, 52]) (crcOf [53, 54, 55, 56, 57]) (5 : Int).toNat) = 3808858755 by decide +kernel] at this
  have K0 := Lib.hid k0
  have K9 := Lib.hid k9
  have K4 := Lib.hid k4
  have K5 := Lib.hid k5
  have U5 := Lib.hid u5
  have C3 := Lib.hid c3
  have C5 := Lib.hid c5
  clear k0 k9 k4 k5 u5 c3 c5
  have hacc := Below.refl w.heap.size w
  have kc := fun (w : World) (C : Array Value) (n c : Nat) => Lib.run_convert_bytes_const (P := Try.prog) w 23 5 C n c Try.underlying23 Try.underlying5
  go_enter Try.func14, Try.ntmps14
  go_wp2_with (first
    | (go_at_call 9; with_reducible refine (K0.out _).mono ?_; rintro e w' ⟨rfl, hb⟩; replace hacc := acc_call hacc hb (Nat.le_refl _); clear hb)
    | (go_at_call 9; with_reducible refine (K9.out _ _ _ (heap_alloc_new _ _)).mono ?_; rintro e w' ⟨rfl, hb⟩; replace hacc := acc_new hacc hb (Nat.le_refl _); clear hb)
    | (go_at_call 9; with_reducible refine (K4.out _ _ _ (heap_alloc_new _ _)).mono ?_; rintro e w' ⟨rfl, hb⟩; replace hacc := acc_new hacc hb (Nat.le_refl _); clear hb)
    | (go_at_call 9; with_reducible refine (K5.out _ _ _ (heap_alloc_new _ _)).mono ?_; rintro e w' ⟨rfl, hb⟩; replace hacc := acc_new hacc hb (Nat.le_refl _); clear hb)
    | (go_at_call 11; with_reducible refine (U5.out _ _ _ (heap_alloc_new _ _)).mono ?_; rintro e w' ⟨rfl, hb⟩; replace hacc := acc_new hacc hb (Nat.le_refl _); clear hb)
    | (go_at_call 15; with_reducible refine (C3.out _).mono ?_; rintro e w' ⟨rfl, hb⟩; replace hacc := acc_call hacc hb (Nat.le_refl _); clear hb)
    | (go_at_call 15; with_reducible refine (C5.out _).mono ?_; rintro e w' ⟨rfl, hb⟩; replace hacc := acc_call hacc hb (Nat.le_refl _); clear hb))
  go_ret
  exact ⟨rfl, hacc⟩
end Go.Proofs.Ytflonblpfkfpnaa
