/- Walks of the program's own sums of bytes: the matrices' square, Combine. -/
import Derived.Test.YtflonblpfkfpnaaCrcC
import Derived.Test.YtflonblpfkfpnaaQ
namespace Go.Proofs.Ytflonblpfkfpnaa
set_option linter.unusedVariables false
set_option linter.unusedSimpArgs false
open Go.RowKit
attribute [local go_sem] x32

theorem size_matrix : (Try.prog.info? 43).map (·.size) = some 32 := by kernel_rfl
/-- the square while it is filled -/
def sqV (kd : IntKind) (m : Nat → BitVec 32) (k : Nat) : Array Value := ((List.range 32).map fun i => if i < k then Value.int kd (v32 (times m (m i)) : Int) else Value.int kd 0).toArray
theorem sqV_size (kd : IntKind) (m : Nat → BitVec 32) (k : Nat) : (sqV kd m k).size = 32 := by simp [sqV]
theorem sqV_zero (m : Nat → BitVec 32) : sqV .u32 m 0 = #[.int .u32 0, .int .u32 0, .int .u32 0, .int .u32 0, .int .u32 0, .int .u32 0, .int .u32 0, .int .u32 0, .int .u32 0, .int .u32 0, .int .u32 0, .int .u32 0, .int .u32 0, .int .u32 0, .int .u32 0, .int .u32 0, .int .u32 0, .int .u32 0, .int .u32 0, .int .u32 0, .int .u32 0, .int .u32 0, .int .u32 0, .int .u32 0, .int .u32 0, .int .u32 0, .int .u32 0, .int .u32 0, .int .u32 0, .int .u32 0, .int .u32 0, .int .u32 0] := rfl
theorem sqV_full (kd : IntKind) (m : Nat → BitVec 32) : sqV kd m 32 = mV kd (fun i => times m (m i)) := rfl
theorem sqV_set (kd : IntKind) (m : Nat → BitVec 32) (k : Nat) : (sqV kd m k).setIfInBounds k (.int kd (v32 (times m (m k)) : Int)) = sqV kd m (k + 1) := by
  apply Array.ext
  · simp [sqV_size]
  · intro i h1 h2
    simp only [sqV_size] at h2
    rw [Array.getElem_setIfInBounds (by simpa [sqV_size] using h2)]
    by_cases e : k = i
    · subst e; simp [sqV]
    · have : (i < k + 1) = (i < k) := by simp; omega
      simp [e, this, sqV]

set_option maxHeartbeats 1000000 in
theorem square_any (m : Nat → BitVec 32) (w : World) :
    Calls Try.prog 21 #[.agg (mV .u32 m)] w fun e w' => e = .returned (.agg (mV .u32 (fun i => times m (m i)))) ∧ Below w.heap.size w w' := by
  have hi : (Try.prog.info? 43).map (·.size) = some (mV .u32 m).size := by rw [mV_size]; exact size_matrix
  have hsz : ∃ B, B = w.heap.size := ⟨_, rfl⟩
  obtain ⟨B, hB⟩ := hsz
  go_enter Try.func21, Try.ntmps21
  go_wp2
  rw [← sqV_zero m]
  have h0 : (((w.alloc (.cells (mV .u32 m) 43)).alloc (.cells (sqV .u32 m 0) 43)).alloc (.cells (sqV .u32 m 0) 43)).heap[w.heap.size]? = some (.cells (mV .u32 m) 43 (0, 0)) := by
    rw [Below.heap_alloc _ _ _ (by simp; omega), heap_alloc2_old]
  have h1 : (((w.alloc (.cells (mV .u32 m) 43)).alloc (.cells (sqV .u32 m 0) 43)).alloc (.cells (sqV .u32 m 0) 43)).heap[w.heap.size + 1]? = some (.cells (sqV .u32 m 0) 43 (0, 0)) := by
    rw [Below.heap_alloc _ _ _ (by simp), heap_alloc2_new]
  have h2 : (((w.alloc (.cells (mV .u32 m) 43)).alloc (.cells (sqV .u32 m 0) 43)).alloc (.cells (sqV .u32 m 0) 43)).heap[w.heap.size + 1 + 1]? = some (.cells (sqV .u32 m 0) 43 (0, 0)) := by
    have := heap_alloc_new ((w.alloc (.cells (mV .u32 m) 43)).alloc (.cells (sqV .u32 m 0) 43)) (.cells (sqV .u32 m 0) 43)
    simpa using this
  have hb : Below w.heap.size w (((w.alloc (.cells (mV .u32 m) 43)).alloc (.cells (sqV .u32 m 0) 43)).alloc (.cells (sqV .u32 m 0) 43)) :=
    (((Below.refl _ _).alloc (Nat.le_refl _) _).alloc (by simp) _).alloc (by simp; omega) _
  generalize (((w.alloc (.cells (mV .u32 m) 43)).alloc (.cells (sqV .u32 m 0) 43)).alloc (.cells (sqV .u32 m 0) 43)) = W0 at h0 h1 h2 hb
  go_loopw [5] (fun i wr => ∃ k : Nat, k ≤ 32 ∧ i = .int .i64 k ∧ wr.heap[w.heap.size]? = some (.cells (mV .u32 m) 43 (0, 0)) ∧ wr.heap[w.heap.size + 1]? = some (.cells (sqV .u32 m 0) 43 (0, 0)) ∧
      wr.heap[w.heap.size + 1 + 1]? = some (.cells (sqV .u32 m k) 43 (0, 0)) ∧ Below w.heap.size w wr) (fun i _ => 32 - (intOf i).toNat)
  case atStart => exact ⟨0, by omega, rfl, h0, h1, h2, hb⟩
  case round =>
    clear h0 h1 h2 hb
    obtain ⟨k, hk, rfl, h0, h1, h2, hb⟩ := hrel
    by_cases hlt : k < 32
    · go_wp2_with fail
      have hsb : w.heap.size + 1 + 1 < wr.heap.size := (Array.getElem?_eq_some_iff.1 h2).1
      have hk0 : (0 : Int) ≤ (k : Int) := Int.natCast_nonneg _
      have hk32 : (k : Int) < 32 := by omega
      have hc : ∀ x : InC (Below wr.heap.size wr), x.val.cell? ⟨w.heap.size, k, none⟩ = some (.int .u32 (v32 (m k) : Int)) := fun x => by
        rw [x.property.cell (show w.heap.size < wr.heap.size by omega), cell_of_row wr _ k _ _ _ h0]; exact mV_get _ m k hlt
      have hcall : ∀ x : InC (Below wr.heap.size wr), Calls Try.prog 20 #[.agg (mV .u32 m), .int .u32 (v32 (m k) : Int)] x.val
          fun e w'' => e = .returned (.int .u32 (v32 (times m (m k)) : Int)) ∧ ∃ y : InC (Below wr.heap.size wr), w'' = y.val := fun x =>
        cls_call ((times_any m (m k) x.val).mono fun e w' ⟨he, hb'⟩ => ⟨he, x.property.trans (hb'.mono x.property.size)⟩)
      have hne : Nonempty (InC (Below wr.heap.size wr)) := ⟨⟨wr, Below.refl _ _⟩⟩
      refine region_tail (Cls (Below wr.heap.size wr)) 7 (by kernel_rfl) (by kernel_rfl) (cls_in (Below.refl _ _).drew) ?_
      simp only [List.take_succ_cons, List.take_zero, List.drop_succ_cons, List.drop_zero]
      repeat (first
        | (with_reducible refine quiet_load_row rfl 43 (.tmp 1) rfl w.heap.size rfl 43 (mV .u32 m) (0, 0) _ (fun w' hw' => by obtain ⟨x, rfl⟩ := hw'; rw [x.property.block _ (by omega)]; exact h0) Try.underlying43 rfl hi ?_)
        | quiet_step (exact hcall _))
      refine wpQuiet_nil ?_
      rintro w2 ⟨⟨w3, hb2⟩, hw⟩
      obtain rfl : w2 = w3 := hw
      clear hc hcall
      have g0 : w2.heap[w.heap.size]? = some (.cells (mV .u32 m) 43 (0, 0)) := by rw [hb2.block _ (by omega)]; exact h0
      have g1 : w2.heap[w.heap.size + 1]? = some (.cells (sqV .u32 m 0) 43 (0, 0)) := by rw [hb2.block _ (by omega)]; exact h1
      have g2 : w2.heap[w.heap.size + 1 + 1]? = some (.cells (sqV .u32 m k) 43 (0, 0)) := by rw [hb2.block _ (by omega)]; exact h2
      have hb3 : Below w.heap.size w w2 := hb.trans (hb2.mono hb.size)
      have c2 : w2.cell? ⟨w.heap.size + 1 + 1, k, none⟩ = some ((sqV .u32 m k)[k]'(by rw [sqV_size]; exact hlt)) := blk_cell g2 (by simp)
      have f2 : w2.frozen? ⟨w.heap.size + 1 + 1, k, none⟩ = false := blk_free g2
      have G0 := Lib.hid g0
      have G1 := Lib.hid g1
      have G2 := Lib.hid g2
      clear g0 g1 g2 h0 h1 h2 hne
      go_wp2
      go_roundw
      case rel => exact ⟨k + 1, by omega, by go_num, by rw [blk_ne (by omega)]; exact G0.out, by rw [blk_ne (by omega)]; exact G1.out, by rw [blk_set G2.out, sqV_set], hb3.setCell (by simp; omega) _⟩
      case measure => simp [intOf]; omega
    · obtain rfl : k = 32 := by omega
      have hi' : (Try.prog.info? 43).map (·.size) = some (sqV .u32 m 32).size := by rw [sqV_size]; exact size_matrix
      have hall : (sqV .u32 m 32).all (·.oneCell') = true := by rw [sqV_full]; exact mV_one _ _
      go_wp2_with (first
        | (with_reducible refine wpList_load_row rfl 43 (.tmp 3) rfl (w.heap.size + 1 + 1) rfl 43 (sqV .u32 m 32) (0, 0) _ h2 Try.underlying43 rfl hi' ?_)
        | (with_reducible refine wpList_store_row rfl 43 (.tmp 2) (.tmp 16) rfl (w.heap.size + 1) (sqV .u32 m 32) rfl rfl 43 (sqV .u32 m 0) h1 hi' (by rw [sqV_size, sqV_size]) hall ?_))
      have hg2 := setRow_heap wr (w.heap.size + 1) (sqV .u32 m 0) (sqV .u32 m 32) 43 (0, 0) h1
      exact bodyPost_ret (results_cell_row rfl _ _ (w.heap.size + 1) 43 (sqV .u32 m 32) (0, 0) _ rfl hg2 Try.underlying43 rfl hi') rfl ⟨by rw [sqV_full], below_setRow hb (by omega) _⟩
end Go.Proofs.Ytflonblpfkfpnaa
