/- Walks of the document's own sums of bytes: the matrices' square, Combine. -/
import Derived.Test.YtflonblpfkfpnaaCrcR
namespace Go.Proofs.Ytflonblpfkfpnaa
set_option linter.unusedVariables false
set_option linter.unusedSimpArgs false
open Go.RowKit
attribute [local go_sem] x64 c6432

theorem size_ints : (Try.prog.info? 47).map (·.size) = some 32 := by kernel_rfl
def pw (k : Nat) : Int := (2 : Int) ^ k
theorem pow32 (k : Nat) (h : k < 32) : pw k = (v32 (1#32 <<< k) : Int) := by
  have : ∀ j : Fin 32, pw j.val = (v32 (1#32 <<< j.val) : Int) := by decide
  exact this ⟨k, h⟩
theorem pow32_lt (k : Nat) (h : k < 32) : pw k < 4294967296 := by
  rw [pow32 k h]; have := v32_lt (1#32 <<< k); omega
theorem sqV_zero64 (m : Nat → BitVec 32) : sqV .i64 m 0 = #[.int .i64 0, .int .i64 0, .int .i64 0, .int .i64 0, .int .i64 0, .int .i64 0, .int .i64 0, .int .i64 0, .int .i64 0, .int .i64 0, .int .i64 0, .int .i64 0, .int .i64 0, .int .i64 0, .int .i64 0, .int .i64 0, .int .i64 0, .int .i64 0, .int .i64 0, .int .i64 0, .int .i64 0, .int .i64 0, .int .i64 0, .int .i64 0, .int .i64 0, .int .i64 0, .int .i64 0, .int .i64 0, .int .i64 0, .int .i64 0, .int .i64 0, .int .i64 0] := rfl
theorem onV_zero64 : onV .i64 0 = #[.int .i64 0, .int .i64 0, .int .i64 0, .int .i64 0, .int .i64 0, .int .i64 0, .int .i64 0, .int .i64 0, .int .i64 0, .int .i64 0, .int .i64 0, .int .i64 0, .int .i64 0, .int .i64 0, .int .i64 0, .int .i64 0, .int .i64 0, .int .i64 0, .int .i64 0, .int .i64 0, .int .i64 0, .int .i64 0, .int .i64 0, .int .i64 0, .int .i64 0, .int .i64 0, .int .i64 0, .int .i64 0, .int .i64 0, .int .i64 0, .int .i64 0, .int .i64 0] := rfl

set_option maxHeartbeats 1000000 in
theorem rsquare_any (m : Nat → BitVec 32) (w : World) :
    Calls Try.prog 23 #[.agg (mV .i64 m)] w fun e w' => e = .returned (.agg (mV .i64 (fun i => times m (m i)))) ∧ Below w.heap.size w w' := by
  have hi : (Try.prog.info? 47).map (·.size) = some (mV .i64 m).size := by rw [mV_size]; exact size_ints
  have hsz : ∃ B, B = w.heap.size := ⟨_, rfl⟩
  obtain ⟨B, hB⟩ := hsz
  go_enter Try.func23, Try.ntmps23
  go_wp2
  rw [← sqV_zero64 m]
  have h0 : (((w.alloc (.cells (mV .i64 m) 47)).alloc (.cells (sqV .i64 m 0) 47)).alloc (.cells (sqV .i64 m 0) 47)).heap[w.heap.size]? = some (.cells (mV .i64 m) 47 (0, 0)) := by
    rw [Below.heap_alloc _ _ _ (by simp; omega), heap_alloc2_old]
  have h1 : (((w.alloc (.cells (mV .i64 m) 47)).alloc (.cells (sqV .i64 m 0) 47)).alloc (.cells (sqV .i64 m 0) 47)).heap[w.heap.size + 1]? = some (.cells (sqV .i64 m 0) 47 (0, 0)) := by
    rw [Below.heap_alloc _ _ _ (by simp), heap_alloc2_new]
  have h2 : (((w.alloc (.cells (mV .i64 m) 47)).alloc (.cells (sqV .i64 m 0) 47)).alloc (.cells (sqV .i64 m 0) 47)).heap[w.heap.size + 1 + 1]? = some (.cells (sqV .i64 m 0) 47 (0, 0)) := by
    have := heap_alloc_new ((w.alloc (.cells (mV .i64 m) 47)).alloc (.cells (sqV .i64 m 0) 47)) (.cells (sqV .i64 m 0) 47)
    simpa using this
  have hb : Below w.heap.size w (((w.alloc (.cells (mV .i64 m) 47)).alloc (.cells (sqV .i64 m 0) 47)).alloc (.cells (sqV .i64 m 0) 47)) :=
    (((Below.refl _ _).alloc (Nat.le_refl _) _).alloc (by simp) _).alloc (by simp; omega) _
  generalize (((w.alloc (.cells (mV .i64 m) 47)).alloc (.cells (sqV .i64 m 0) 47)).alloc (.cells (sqV .i64 m 0) 47)) = W0 at h0 h1 h2 hb
  go_loopw [4] (fun i wr => ∃ k : Nat, k ≤ 32 ∧ i = .int .i64 k ∧ wr.heap[w.heap.size]? = some (.cells (mV .i64 m) 47 (0, 0)) ∧ wr.heap[w.heap.size + 1]? = some (.cells (sqV .i64 m 0) 47 (0, 0)) ∧
      wr.heap[w.heap.size + 1 + 1]? = some (.cells (sqV .i64 m k) 47 (0, 0)) ∧ Below w.heap.size w wr) (fun i _ => 32 - (intOf i).toNat)
  case atStart => exact ⟨0, by omega, rfl, h0, h1, h2, hb⟩
  case round =>
    clear h0 h1 h2 hb
    obtain ⟨k, hk, rfl, h0, h1, h2, hb⟩ := hrel
    by_cases hlt : k < 32
    · go_wp2_with fail
      have hsb : w.heap.size + 1 + 1 < wr.heap.size := (Array.getElem?_eq_some_iff.1 h2).1
      have hk0 : (0 : Int) ≤ (k : Int) := Int.natCast_nonneg _
      have hk32 : (k : Int) < 32 := by omega
      have hc : ∀ x : InC (Below wr.heap.size wr), x.val.cell? ⟨w.heap.size, k, none⟩ = some (.int .i64 (v32 (m k) : Int)) := fun x => by
        rw [x.property.cell (show w.heap.size < wr.heap.size by omega), cell_of_row wr _ k _ _ _ h0]; exact mV_get _ m k hlt
      have hcall : ∀ x : InC (Below wr.heap.size wr), Calls Try.prog 22 #[.agg (mV .i64 m), .int .i64 (v32 (m k) : Int)] x.val
          fun e w'' => e = .returned (.int .i64 (v32 (times m (m k)) : Int)) ∧ ∃ y : InC (Below wr.heap.size wr), w'' = y.val := fun x =>
        cls_call ((apply_any m (m k) x.val).mono fun e w' ⟨he, hb'⟩ => ⟨he, x.property.trans (hb'.mono x.property.size)⟩)
      have hne : Nonempty (InC (Below wr.heap.size wr)) := ⟨⟨wr, Below.refl _ _⟩⟩
      refine region_tail (Cls (Below wr.heap.size wr)) 7 (by kernel_rfl) (by kernel_rfl) (cls_in (Below.refl _ _).drew) ?_
      simp only [List.take_succ_cons, List.take_zero, List.drop_succ_cons, List.drop_zero]
      repeat (first
        | (with_reducible refine quiet_load_row rfl 47 (.tmp 1) rfl w.heap.size rfl 47 (mV .i64 m) (0, 0) _ (fun w' hw' => by obtain ⟨x, rfl⟩ := hw'; rw [x.property.block _ (by omega)]; exact h0) Try.underlying47 rfl hi ?_)
        | quiet_step (exact hcall _))
      refine wpQuiet_nil ?_
      rintro w2 ⟨⟨w3, hb2⟩, hw⟩
      obtain rfl : w2 = w3 := hw
      clear hc hcall
      have g0 : w2.heap[w.heap.size]? = some (.cells (mV .i64 m) 47 (0, 0)) := by rw [hb2.block _ (by omega)]; exact h0
      have g1 : w2.heap[w.heap.size + 1]? = some (.cells (sqV .i64 m 0) 47 (0, 0)) := by rw [hb2.block _ (by omega)]; exact h1
      have g2 : w2.heap[w.heap.size + 1 + 1]? = some (.cells (sqV .i64 m k) 47 (0, 0)) := by rw [hb2.block _ (by omega)]; exact h2
      have hb3 : Below w.heap.size w w2 := hb.trans (hb2.mono hb.size)
      have c2 : w2.cell? ⟨w.heap.size + 1 + 1, k, none⟩ = some ((sqV .i64 m k)[k]'(by rw [sqV_size]; exact hlt)) := blk_cell g2 (by simp)
      have f2 : w2.frozen? ⟨w.heap.size + 1 + 1, k, none⟩ = false := blk_free g2
      have G0 := Lib.hid g0
      have G1 := Lib.hid g1
      have G2 := Lib.hid g2
      clear g0 g1 g2 h0 h1 h2 hne
      go_wp2
      go_roundw
      case rel => exact ⟨k + 1, by omega, by go_num, by rw [blk_ne (by omega)]; exact G0.out, by rw [blk_ne (by omega)]; exact G1.out, by rw [blk_set G2.out, sqV_set], hb3.setCell (by simp; omega) _⟩
      case measure => simp [intOf]; omega
    · obtain rfl : k = 32 := by omega
      have hi' : (Try.prog.info? 47).map (·.size) = some (sqV .i64 m 32).size := by rw [sqV_size]; exact size_ints
      have hall : (sqV .i64 m 32).all (·.oneCell') = true := by rw [sqV_full]; exact mV_one _ _
      go_wp2_with (first
        | (with_reducible refine wpList_load_row rfl 47 (.tmp 3) rfl (w.heap.size + 1 + 1) rfl 47 (sqV .i64 m 32) (0, 0) _ h2 Try.underlying47 rfl hi' ?_)
        | (with_reducible refine wpList_store_row rfl 47 (.tmp 2) (.tmp 16) rfl (w.heap.size + 1) (sqV .i64 m 32) rfl rfl 47 (sqV .i64 m 0) h1 hi' (by rw [sqV_size, sqV_size]) hall ?_))
      have hg2 := setRow_heap wr (w.heap.size + 1) (sqV .i64 m 0) (sqV .i64 m 32) 47 (0, 0) h1
      exact bodyPost_ret (results_cell_row rfl _ _ (w.heap.size + 1) 47 (sqV .i64 m 32) (0, 0) _ rfl hg2 Try.underlying47 rfl hi') rfl ⟨by rw [sqV_full], below_setRow hb (by omega) _⟩
set_option maxRecDepth 100000 in
set_option maxHeartbeats 1000000 in
theorem rcombine_any (a b : BitVec 32) (n : Int) (w : World) (hn0 : -9223372036854775808 ≤ n) (hn : n ≤ 9223372036854775807) :
    Calls Try.prog 16 #[.int .u32 (v32 a : Int), .int .u32 (v32 b : Int), .int .i64 n] w fun e w' => e = .returned (.int .u32 (v32 (combine a b n.toNat) : Int)) ∧ Below w.heap.size w w' := by
  have ha0 := v32_lt a
  have hb0 := v32_lt b
  go_enter Try.func16, Try.ntmps16
  go_wp2_with fail
  rw [← onV_zero64]
  have hm : (w.alloc (.cells (onV .i64 0) 47)).heap[w.heap.size]? = some (.cells (onV .i64 0) 47 (0, 0)) := heap_alloc_new _ _
  have hb1 : Below w.heap.size w (w.alloc (.cells (onV .i64 0) 47)) := (Below.refl _ _).alloc (Nat.le_refl _) _
  generalize (w.alloc (.cells (onV .i64 0) 47)) = W0 at hm hb1
  go_loopw [8, 9] (fun u i wr => ∃ (k : Nat) (U : Int), k ≤ 32 ∧ i = .int .i64 k ∧ Hid (U = pw k) ∧ u = .int .i64 U ∧ wr.heap[w.heap.size]? = some (.cells (onV .i64 k) 47 (0, 0)) ∧ Below w.heap.size w wr) (fun _ i _ => 32 - (intOf i).toNat)
  case atStart => exact ⟨0, 1, by omega, rfl, rfl, rfl, hm, hb1⟩
  case round =>
    clear hm hb1
    obtain ⟨k, U, hk, rfl, HU, rfl, hm, hb⟩ := hrel
    by_cases hlt : k < 32
    · have c2 : wr.cell? ⟨w.heap.size, k, none⟩ = some ((onV .i64 k)[k]'(by rw [onV_size]; exact hlt)) := blk_cell hm (by simp)
      have f2 : wr.frozen? ⟨w.heap.size, k, none⟩ = false := blk_free hm
      have hs : U = (v32 (1#32 <<< k) : Int) := HU.out.trans (pow32 k hlt)
      have hp0 : (0 : Int) ≤ U := by omega
      have hp1 : U < 4294967296 := by have := v32_lt (1#32 <<< k); omega
      have G0 := Lib.hid hm
      clear hm
      have hst := rstep_any (1#32 <<< k) wr
      rw [← hs] at hst
      clear hs
      go_wp2_with (go_at_call 19; with_reducible refine hst.mono ?_; rintro e w' ⟨rfl, rfl⟩)
      go_roundw
      case rel => exact ⟨k + 1, U * 2, by omega, by go_num, by rw [HU.out]; exact (Int.pow_succ 2 k).symm, rfl, by rw [blk_set G0.out, onV_set], hb.setCell (by simp) _⟩
      case measure => simp [intOf]; omega
    · obtain rfl : k = 32 := by omega
      go_wp2_with fail
      rw [onV_full] at hm
      clear hlt hk
      rw [show ((32 : Nat) : Int) = 32 from rfl]
      have him : ∀ P, (Try.prog.info? 47).map (·.size) = some (mV .i64 (cols (zeros P))).size := fun P => by rw [mV_size]; exact size_ints
      have Him := Lib.hid him
      clear him
      go_loopw [10, 2] (fun x i wr => ∃ (P q : Nat) (j : Int), j ≤ 9223372036854775807 ∧ -9223372036854775808 ≤ j ∧ Hid (q + j.toNat * P = n.toNat) ∧ i = .int .i64 j ∧ x = .int .i64 (v32 (zeros q a) : Int) ∧
          wr.heap[w.heap.size]? = some (.cells (mV .i64 (cols (zeros P))) 47 (0, 0)) ∧ Below w.heap.size w wr) (fun _ i _ => (intOf i).toNat)
      case atStart => exact ⟨1, 0, n, hn, hn0, by unfold Hid; omega, rfl, rfl, hm, hb⟩
      case round =>
        clear hm hb
        obtain ⟨P, q, j, hj, hj0, hq, rfl, rfl, hm, hb⟩ := hrel
        by_cases hp : 0 < j
        · by_cases ho : j % 2 = 1
          · have ht : (j % 2 == 1) = true := by simp [ho]
            have hwl := blk_lt hm
            have ht1 : times (cols (zeros P)) (zeros q a) = zeros (q + P) a := times_pow P q a
            go_wp2_with (first
              | (with_reducible refine wpList_load_row rfl 47 (.tmp 7) rfl w.heap.size rfl 47 (mV .i64 (cols (zeros P))) (0, 0) _ hm Try.underlying47 rfl (Him.out P) ?_)
              | (with_reducible refine wpList_load_row rfl 47 (.tmp 7) rfl w.heap.size rfl 47 (mV .i64 (cols (zeros P))) (0, 0) _ hm2 Try.underlying47 rfl (Him.out P) ?_)
              | (go_at_call 22; with_reducible refine (apply_any _ _ _).mono ?_; rintro e w2 ⟨rfl, hb2⟩; have hm2 := (hb2.block _ hwl).trans hm)
              | (go_at_call 23; with_reducible refine (rsquare_any _ _).mono ?_; rintro e w3 ⟨rfl, hb3⟩; have hm3 := (hb3.block _ (by have := hb2.size; omega)).trans hm2)
              | (with_reducible refine wpList_store_row rfl 47 (.tmp 7) (.tmp 32) rfl w.heap.size _ rfl rfl 47 (mV .i64 (cols (zeros P))) hm3 (by rw [mV_size]; exact size_ints) (by rw [mV_size, mV_size]) (mV_one _ _) ?_))
            go_roundw
            case rel => exact ⟨2 * P, q + P, j / 2, by omega, by omega, (halve_odd j P q hp ho).trans hq, rfl, rfl, by rw [setRow_heap _ _ _ _ _ _ hm3, square_pow], below_setRow ((hb.trans (hb2.mono hb.size)).trans (hb3.mono (by have := hb.size; have := hb2.size; omega))) (Nat.le_refl _) _⟩
            case measure => simp [intOf]; omega
          · have ht : (j % 2 == 1) = false := by simp [ho]
            have hwl := blk_lt hm
            go_wp2_with (first
              | (with_reducible refine wpList_load_row rfl 47 (.tmp 7) rfl w.heap.size rfl 47 (mV .i64 (cols (zeros P))) (0, 0) _ hm Try.underlying47 rfl (Him.out P) ?_)
              | (go_at_call 23; with_reducible refine (rsquare_any _ _).mono ?_; rintro e w3 ⟨rfl, hb3⟩; have hm3 := (hb3.block _ hwl).trans hm)
              | (with_reducible refine wpList_store_row rfl 47 (.tmp 7) (.tmp 32) rfl w.heap.size _ rfl rfl 47 (mV .i64 (cols (zeros P))) hm3 (by rw [mV_size]; exact size_ints) (by rw [mV_size, mV_size]) (mV_one _ _) ?_))
            go_roundw
            case rel => exact ⟨2 * P, q, j / 2, by omega, by omega, (halve_even j P q hp ho).trans hq, rfl, rfl, by rw [setRow_heap _ _ _ _ _ _ hm3, square_pow], below_setRow (hb.trans (hb3.mono hb.size)) (Nat.le_refl _) _⟩
            case measure => simp [intOf]; omega
        · go_wp2
          go_ret
          refine ⟨?_, hb⟩
          have hq0 : n.toNat = q := by have h := hq.out; rw [show j.toNat = 0 by omega] at h; omega
          rw [hq0]
          rfl
end Go.Proofs.Ytflonblpfkfpnaa
