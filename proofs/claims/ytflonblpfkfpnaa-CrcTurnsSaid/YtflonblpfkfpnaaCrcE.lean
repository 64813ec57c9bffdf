/- Walks of the program's own sums of bytes: Combine. -/
import Derived.Test.YtflonblpfkfpnaaCrcD
namespace Go.Proofs.Ytflonblpfkfpnaa
set_option linter.unusedVariables false
set_option linter.unusedSimpArgs false
open Go.RowKit

theorem shl32 (k : Nat) (h : k < 32) : IntKind.u32.wrap ((2 : Int) ^ k) = (v32 (1#32 <<< k) : Int) := by
  have : ∀ j : Fin 32, IntKind.u32.wrap ((2 : Int) ^ j.val) = (v32 (1#32 <<< j.val) : Int) := by decide
  exact this ⟨k, h⟩
theorem a64_1 (r : Int) : bits .and .i64 r (1 : Int) = r % 2 := by
  show IntKind.i64.wrap ((BitVec.ofInt 64 r &&& 1#64 : BitVec 64).toNat : Int) = _
  have h : (BitVec.ofInt 64 r &&& 1#64 : BitVec 64).toNat = (BitVec.ofInt 64 r).toNat % 2 := by
    rw [BitVec.toNat_and]
    show (BitVec.ofInt 64 r).toNat &&& 1 = _
    rw [Nat.and_one_is_mod]
  rw [h, BitVec.toNat_ofInt, IntKind.wrap_i64]
  omega
attribute [local go_sem] x32 a64_1

/-- the first matrix while it is filled -/
def onV (kd : IntKind) (k : Nat) : Array Value := ((List.range 32).map fun i => if i < k then Value.int kd (v32 (cols (zeros 1) i) : Int) else Value.int kd 0).toArray
theorem onV_size (kd : IntKind) (k : Nat) : (onV kd k).size = 32 := by simp [onV]
theorem onV_zero : onV .u32 0 = #[.int .u32 0, .int .u32 0, .int .u32 0, .int .u32 0, .int .u32 0, .int .u32 0, .int .u32 0, .int .u32 0, .int .u32 0, .int .u32 0, .int .u32 0, .int .u32 0, .int .u32 0, .int .u32 0, .int .u32 0, .int .u32 0, .int .u32 0, .int .u32 0, .int .u32 0, .int .u32 0, .int .u32 0, .int .u32 0, .int .u32 0, .int .u32 0, .int .u32 0, .int .u32 0, .int .u32 0, .int .u32 0, .int .u32 0, .int .u32 0, .int .u32 0, .int .u32 0] := rfl
theorem onV_full (kd : IntKind) : onV kd 32 = mV kd (cols (zeros 1)) := rfl
theorem onV_set (kd : IntKind) (k : Nat) : (onV kd k).setIfInBounds k (.int kd (v32 (step8 (1#32 <<< k)) : Int)) = onV kd (k + 1) := by
  apply Array.ext
  · simp [onV_size]
  · intro i h1 h2
    simp only [onV_size] at h2
    rw [Array.getElem_setIfInBounds (by simpa [onV_size] using h2)]
    by_cases e : k = i
    · subst e; simp [onV, cols_one]
    · have : (i < k + 1) = (i < k) := by simp; omega
      simp [e, this, onV]
theorem times_pow (P q : Nat) (a : BitVec 32) : times (cols (zeros P)) (zeros q a) = zeros (q + P) a := by rw [times_zeros, zeros_add]
theorem square_pow (P : Nat) : (fun i => times (cols (zeros P)) (cols (zeros P) i)) = cols (zeros (2 * P)) := by
  funext i; exact square_zeros P i

theorem halve_odd (j : Int) (P q : Nat) (hp : 0 < j) (ho : j % 2 = 1) : q + P + (j / 2).toNat * (2 * P) = q + j.toNat * P := by
  obtain ⟨m, rfl⟩ : ∃ m : Nat, j = 2 * (m : Int) + 1 := ⟨(j / 2).toNat, by omega⟩
  have e1 : ((2 * (m : Int) + 1) / 2).toNat = m := by omega
  have e2 : (2 * (m : Int) + 1).toNat = 2 * m + 1 := by omega
  rw [e1, e2, Nat.add_mul, Nat.mul_comm 2 m, Nat.mul_assoc]
  omega
theorem halve_even (j : Int) (P q : Nat) (hp : 0 < j) (ho : ¬ j % 2 = 1) : q + (j / 2).toNat * (2 * P) = q + j.toNat * P := by
  obtain ⟨m, rfl⟩ : ∃ m : Nat, j = 2 * (m : Int) := ⟨(j / 2).toNat, by omega⟩
  have e1 : ((2 * (m : Int)) / 2).toNat = m := by omega
  have e2 : (2 * (m : Int)).toNat = 2 * m := by omega
  rw [e1, e2, Nat.mul_comm 2 m, Nat.mul_assoc]

set_option maxHeartbeats 1000000 in
theorem combine_any (a b : BitVec 32) (n : Int) (w : World) (hn0 : -9223372036854775808 ≤ n) (hn : n ≤ 9223372036854775807) :
    Calls Try.prog 15 #[.int .u32 (v32 a : Int), .int .u32 (v32 b : Int), .int .i64 n] w fun e w' => e = .returned (.int .u32 (v32 (combine a b n.toNat) : Int)) ∧ Below w.heap.size w w' := by
  have hi : (Try.prog.info? 37).map (·.size) = some (mix 16).size := by rw [mix_size]; kernel_rfl
  have hall : (mix 16).all (·.oneCell') = true := mix_one 16
  go_enter Try.func15, Try.ntmps15
  go_wp2_with (first
    | (go_at_call 17; refine (halves_any _).mono ?_; rintro e w1 ⟨rfl, hb⟩)
    | (with_reducible refine wpList_store_row rfl 37 (.tmp 8) (.tmp 10) rfl _ (mix 16) rfl rfl 37 (mix 0) (heap_alloc_new _ _) hi (by rw [mix_size, mix_size]) hall ?_))
  rw [← onV_zero] at hb
  have hbl : w.heap.size < w1.heap.size := by have := hb.size; simp at this; omega
  have hm : ((w1.alloc (.cells (mix 0) 37)).setRow w1.heap.size (mix 16)).heap[w.heap.size]? = some (.cells (onV .u32 0) 43 (0, 0)) := by
    rw [setRow_other _ _ _ _ (by omega), Below.heap_alloc _ _ _ hbl, hb.block _ (by simp)]; exact heap_alloc_new _ _
  have hg : ((w1.alloc (.cells (mix 0) 37)).setRow w1.heap.size (mix 16)).heap[w1.heap.size]? = some (.cells (mix 16) 37 (0, 0)) :=
    setRow_heap _ _ (mix 0) (mix 16) 37 (0, 0) (heap_alloc_new _ _)
  have hb1 : Below w.heap.size w ((w1.alloc (.cells (mix 0) 37)).setRow w1.heap.size (mix 16)) :=
    below_setRow ((((Below.refl _ _).alloc (Nat.le_refl _) _).trans (hb.mono (by simp))).alloc (by omega) _) (by omega) _
  rw [← mix_zero]
  generalize ((w1.alloc (.cells (mix 0) 37)).setRow w1.heap.size (mix 16)) = W0 at hm hg hb1
  clear hb hi hall
  go_loopw [11] (fun i wr => ∃ k : Nat, k ≤ 32 ∧ i = .int .i64 k ∧ wr.heap[w.heap.size]? = some (.cells (onV .u32 k) 43 (0, 0)) ∧ wr.heap[w1.heap.size]? = some (.cells (mix 16) 37 (0, 0)) ∧ Below w.heap.size w wr) (fun i _ => 32 - (intOf i).toNat)
  case atStart => exact ⟨0, by omega, rfl, hm, hg, hb1⟩
  case round =>
    clear hm hg hb1
    obtain ⟨k, hk, rfl, hm, hg, hb⟩ := hrel
    by_cases hlt : k < 32
    · have Ht : Hid (∀ i : Nat, i < 16 → wr.cell? ⟨w1.heap.size, i, none⟩ = some (.int .u32 (v32 (tab i) : Int))) := fun i hi => tab_cells wr _ i _ _ hg hi
      have c2 : wr.cell? ⟨w.heap.size, k, none⟩ = some ((onV .u32 k)[k]'(by rw [onV_size]; exact hlt)) := blk_cell hm (by simp)
      have f2 : wr.frozen? ⟨w.heap.size, k, none⟩ = false := blk_free hm
      have hs := shl32 k hlt
      have G0 := Lib.hid hm
      have G1 := Lib.hid hg
      clear hm hg
      go_wp2_with (go_at_call 18; with_reducible refine (steps_any _ _ _ Ht.out).mono ?_; rintro e w' ⟨rfl, rfl⟩)
      go_roundw
      case rel => exact ⟨k + 1, by omega, by go_num, by rw [blk_set G0.out, onV_set], by rw [blk_ne (by omega)]; exact G1.out, hb.setCell (by simp) _⟩
      case measure => simp [intOf]; omega
    · obtain rfl : k = 32 := by omega
      go_wp2_with fail
      clear hg hlt hk
      rw [onV_full] at hm
      rw [show ((32 : Nat) : Int) = 32 from rfl]
      have him : ∀ P, (Try.prog.info? 43).map (·.size) = some (mV .u32 (cols (zeros P))).size := fun P => by rw [mV_size]; exact size_matrix
      have hal : ∀ P, (mV .u32 (cols (zeros P))).all (·.oneCell') = true := fun P => mV_one _ _
      have Him := Lib.hid him
      have Hal := Lib.hid hal
      clear him hal
      go_loopw [0, 2] (fun x i wr => ∃ (P q : Nat) (j : Int), j ≤ 9223372036854775807 ∧ -9223372036854775808 ≤ j ∧ Hid (q + j.toNat * P = n.toNat) ∧ i = .int .i64 j ∧ x = .int .u32 (v32 (zeros q a) : Int) ∧
          wr.heap[w.heap.size]? = some (.cells (mV .u32 (cols (zeros P))) 43 (0, 0)) ∧ Below w.heap.size w wr) (fun _ i _ => (intOf i).toNat)
      case atStart => exact ⟨1, 0, n, hn, hn0, by unfold Hid; omega, rfl, rfl, hm, hb⟩
      case round =>
        clear hm hb
        obtain ⟨P, q, j, hj, hj0, hq, rfl, rfl, hm, hb⟩ := hrel
        by_cases hp : 0 < j
        · by_cases ho : j % 2 = 1
          · have ht : (j % 2 == 1) = true := by simp [ho]
            have hwl := blk_lt hm
            have ht1 : times (cols (zeros P)) (zeros q a) = zeros (q + P) a := times_pow P q a
            go_wp2_with (first
              | (with_reducible refine wpList_load_row rfl 43 (.tmp 7) rfl w.heap.size rfl 43 (mV .u32 (cols (zeros P))) (0, 0) _ hm Try.underlying43 rfl (Him.out P) ?_)
              | (with_reducible refine wpList_load_row rfl 43 (.tmp 7) rfl w.heap.size rfl 43 (mV .u32 (cols (zeros P))) (0, 0) _ hm2 Try.underlying43 rfl (Him.out P) ?_)
              | (go_at_call 20; with_reducible refine (times_any _ _ _).mono ?_; rintro e w2 ⟨rfl, hb2⟩; have hm2 := (hb2.block _ hwl).trans hm)
              | (go_at_call 21; with_reducible refine (square_any _ _).mono ?_; rintro e w3 ⟨rfl, hb3⟩; have hm3 := (hb3.block _ (by have := hb2.size; omega)).trans hm2)
              | (with_reducible refine wpList_store_row rfl 43 (.tmp 7) (.tmp 31) rfl w.heap.size _ rfl rfl 43 (mV .u32 (cols (zeros P))) hm3 (by rw [mV_size]; exact size_matrix) (by rw [mV_size, mV_size]) (mV_one _ _) ?_))
            go_roundw
            case rel => exact ⟨2 * P, q + P, j / 2, by omega, by omega, (halve_odd j P q hp ho).trans hq, rfl, rfl, by rw [setRow_heap _ _ _ _ _ _ hm3, square_pow], below_setRow ((hb.trans (hb2.mono hb.size)).trans (hb3.mono (by have := hb.size; have := hb2.size; omega))) (Nat.le_refl _) _⟩
            case measure => simp [intOf]; omega
          · have ht : (j % 2 == 1) = false := by simp [ho]
            have hwl := blk_lt hm
            go_wp2_with (first
              | (with_reducible refine wpList_load_row rfl 43 (.tmp 7) rfl w.heap.size rfl 43 (mV .u32 (cols (zeros P))) (0, 0) _ hm Try.underlying43 rfl (Him.out P) ?_)
              | (go_at_call 21; with_reducible refine (square_any _ _).mono ?_; rintro e w3 ⟨rfl, hb3⟩; have hm3 := (hb3.block _ hwl).trans hm)
              | (with_reducible refine wpList_store_row rfl 43 (.tmp 7) (.tmp 31) rfl w.heap.size _ rfl rfl 43 (mV .u32 (cols (zeros P))) hm3 (by rw [mV_size]; exact size_matrix) (by rw [mV_size, mV_size]) (mV_one _ _) ?_))
            go_roundw
            case rel => exact ⟨2 * P, q, j / 2, by omega, by omega, (halve_even j P q hp ho).trans hq, rfl, rfl, by rw [setRow_heap _ _ _ _ _ _ hm3, square_pow], below_setRow (hb.trans (hb3.mono hb.size)) (Nat.le_refl _) _⟩
            case measure => simp [intOf]; omega
        · go_wp2
          go_ret
          refine ⟨?_, hb⟩
          have hq0 : n.toNat = q := by have h := hq.out; rw [show j.toNat = 0 by omega] at h; omega
          rw [hq0]
          rfl
end Go.Proofs.Ytflonblpfkfpnaa
