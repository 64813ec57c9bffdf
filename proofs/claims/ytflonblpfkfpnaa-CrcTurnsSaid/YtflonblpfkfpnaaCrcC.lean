/- Walks of the program's own sums of bytes: the matrices. -/
import Derived.Test.YtflonblpfkfpnaaCrcB
namespace Go.Proofs.Ytflonblpfkfpnaa
set_option linter.unusedVariables false
set_option linter.unusedSimpArgs false
open Go.RowKit

theorem sv32 (x : BitVec 32) (k : Nat) : (v32 x : Int) / (2 : Int) ^ k = (v32 (x >>> k) : Int) := by
  unfold v32
  rw [BitVec.toNat_ushiftRight, Nat.shiftRight_eq_div_pow]
  simp
theorem x32_0 (x : BitVec 32) : bits .xor .u32 (0 : Int) (v32 x : Int) = (v32 x : Int) := by
  have h : (0 : Int) = (v32 (0#32) : Int) := by decide
  rw [h, x32]; simp
attribute [local go_sem] x32 a32_1 a32_1b sv32 x32_0

/-- a matrix as it lies in memory -/
def mV (kd : IntKind) (m : Nat → BitVec 32) : Array Value := ((List.range 32).map fun i => Value.int kd (v32 (m i) : Int)).toArray
theorem mV_size (kd : IntKind) (m : Nat → BitVec 32) : (mV kd m).size = 32 := by simp [mV]
theorem mV_one (kd : IntKind) (m : Nat → BitVec 32) : (mV kd m).all (·.oneCell') = true := by
  rw [Array.all_eq_true_iff_forall_mem]
  intro x hx
  unfold mV at hx
  simp only [List.mem_toArray, List.mem_map] at hx
  obtain ⟨i, _, rfl⟩ := hx
  rfl
theorem mV_get (kd : IntKind) (m : Nat → BitVec 32) (i : Nat) (h : i < 32) : (mV kd m)[i]? = some (.int kd (v32 (m i) : Int)) := by
  unfold mV; simp [h]
theorem odd_shift (v : BitVec 32) (k : Nat) : odd32 (v >>> k) = v.getLsbD k := by
  unfold odd32; simp
theorem timesTo_yes (m : Nat → BitVec 32) (v : BitVec 32) (k : Nat) (h : odd32 (v >>> k) = true) : timesTo m v k ^^^ m k = timesTo m v (k + 1) := by
  rw [odd_shift] at h
  show _ = timesTo m v k ^^^ (if v.getLsbD k then m k else 0#32)
  rw [h]; rfl
theorem timesTo_no (m : Nat → BitVec 32) (v : BitVec 32) (k : Nat) (h : odd32 (v >>> k) = false) : timesTo m v k = timesTo m v (k + 1) := by
  rw [odd_shift] at h
  show _ = timesTo m v k ^^^ (if v.getLsbD k then m k else 0#32)
  rw [h]; simp

set_option maxHeartbeats 400000 in
theorem times_any (m : Nat → BitVec 32) (v : BitVec 32) (w : World) :
    Calls Try.prog 20 #[.agg (mV .u32 m), .int .u32 (v32 v : Int)] w fun e w' => e = .returned (.int .u32 (v32 (times m v) : Int)) ∧ Below w.heap.size w w' := by
  go_enter Try.func20, Try.ntmps20
  go_wp2
  have hg : (w.alloc (.cells (mV .u32 m) 43)).heap[w.heap.size]? = some (.cells (mV .u32 m) 43 (0, 0)) := heap_alloc_new _ _
  have hb1 : Below w.heap.size w (w.alloc (.cells (mV .u32 m) 43)) := (Below.refl _ _).alloc (Nat.le_refl _) _
  generalize (w.alloc (.cells (mV .u32 m) 43)) = W at hg hb1
  go_loop [5, 7] (fun x i => ∃ k : Nat, k ≤ 32 ∧ i = .int .i64 k ∧ x = .int .u32 (v32 (timesTo m v k) : Int)) (fun _ i => 32 - (intOf i).toNat)
  case atStart => exact ⟨0, by omega, rfl, rfl⟩
  case round =>
    obtain ⟨k, hk, rfl, rfl⟩ := hrel
    by_cases hlt : k < 32
    · have hc : W.cell? ⟨w.heap.size, k, none⟩ = some (.int .u32 (v32 (m k) : Int)) := by rw [cell_of_row W _ k _ _ _ hg]; exact mV_get _ m k hlt
      clear hg
      cases hb : odd32 (v >>> k)
      · have H : Hid (timesTo m v k = timesTo m v (k + 1)) := timesTo_no m v k hb
        go_wp2
        go_round
        case rel => exact ⟨k + 1, by omega, by go_num, by rw [← H.out]⟩
        case measure => simp [intOf]; omega
      · have H := timesTo_yes m v k hb
        go_wp2
        go_round
        case rel => exact ⟨k + 1, by omega, by go_num, by with_reducible rfl⟩
        case measure => simp [intOf]; omega
    · obtain rfl : k = 32 := by omega
      go_wp2
      go_ret
      exact ⟨rfl, hb1⟩
end Go.Proofs.Ytflonblpfkfpnaa
