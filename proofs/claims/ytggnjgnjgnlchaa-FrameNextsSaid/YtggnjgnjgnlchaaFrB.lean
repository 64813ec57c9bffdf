/- Walks of package frame: the head of a frame. -/
import Derived.Test.YtggnjgnjgnlchaaFrA
import Derived.Test.YtggnjgnjgnlchaaQ
namespace Go.Proofs.Ytggnjgnjgnlchaa
set_option linter.unusedVariables false
set_option linter.unusedSimpArgs false
open Go.RowKit

theorem len32 (n : Nat) (h : n < 4294967296) : (n : Int) = (v32 (BitVec.ofNat 32 n) : Int) := by rw [v32_ofNat h]
theorem zero8 : bV [0, 0, 0, 0, 0, 0, 0, 0] = #[.int .u8 0, .int .u8 0, .int .u8 0, .int .u8 0, .int .u8 0, .int .u8 0, .int .u8 0, .int .u8 0] := rfl
theorem laid_head (n m : Nat) : laid (laid [0, 0, 0, 0, 0, 0, 0, 0] 0 n 4) 4 m 4 = leB n ++ leB m := rfl
theorem laid_half (n : Nat) : laid [0, 0, 0, 0, 0, 0, 0, 0] 0 n 4 = leB n ++ [0, 0, 0, 0] := rfl
theorem oneCell_bV (p : List UInt8) : (bV p).all (·.oneCell') = true := by
  rw [Array.all_eq_true_iff_forall_mem]
  intro x hx
  unfold bV at hx
  simp only [List.mem_toArray, List.mem_map] at hx
  obtain ⟨i, _, rfl⟩ := hx
  rfl
theorem size_head (p : List UInt8) (h : p.length = 8) : (Try.prog.info? 54).map (·.size) = some (bV p).size := by rw [bV_size, h]; kernel_rfl

set_option maxHeartbeats 1000000 in
theorem headOf_any (p : List UInt8) (a : Option Addr) (cap : Nat) (w : World) (hp : BytesAt w a p) (hl : p.length ≤ 65536) :
    Calls Try.prog 31 #[.slice a p.length cap] w fun e w' => e = .returned (.agg (bV (headB p))) ∧ Below w.heap.size w w' := by
  have HP : Hid (∀ x, Below w.heap.size w x → BytesAt x a p) := fun x hx => hp.below (Nat.le_refl _) hx
  have hn := len32 p.length (by omega)
  have Hn := Lib.hid hn
  clear hp hn
  go_enter Try.func31, Try.ntmps31
  go_wp2_with fail
  rw [← zero8]
  have hg0 : ((w.alloc (.cells (bV [0, 0, 0, 0, 0, 0, 0, 0]) 54)).alloc (.cells (bV [0, 0, 0, 0, 0, 0, 0, 0]) 54)).heap[w.heap.size]? = some (.cells (bV [0, 0, 0, 0, 0, 0, 0, 0]) 54 (0, 0)) := heap_alloc2_old _ _ _
  have hg1 : ((w.alloc (.cells (bV [0, 0, 0, 0, 0, 0, 0, 0]) 54)).alloc (.cells (bV [0, 0, 0, 0, 0, 0, 0, 0]) 54)).heap[w.heap.size + 1]? = some (.cells (bV [0, 0, 0, 0, 0, 0, 0, 0]) 54 (0, 0)) := heap_alloc2_new _ _ _
  have hb0 : Below w.heap.size w ((w.alloc (.cells (bV [0, 0, 0, 0, 0, 0, 0, 0]) 54)).alloc (.cells (bV [0, 0, 0, 0, 0, 0, 0, 0]) 54)) := ((Below.refl _ _).alloc (Nat.le_refl _) _).alloc (by simp) _
  generalize ((w.alloc (.cells (bV [0, 0, 0, 0, 0, 0, 0, 0]) 54)).alloc (.cells (bV [0, 0, 0, 0, 0, 0, 0, 0]) 54)) = w1 at hg0 hg1 hb0
  have hF := four_any [0, 0, 0, 0, 0, 0, 0, 0] 54 (w.heap.size + 1) 0 8 (BitVec.ofNat 32 p.length) w1 hg1 (by decide)
  rw [← Hn.out] at hF
  have HF := Lib.hid hF
  clear hF
  have hs0 := blk_lt hg1
  go_wp2_with (go_at_call 40; with_reducible refine HF.out.mono ?_; rintro e w2 ⟨rfl, hg2, ho2⟩)
  have hnn : (BitVec.ofNat 32 p.length).toNat = p.length := by rw [BitVec.toNat_ofNat]; omega
  rw [hnn] at hg2
  have hg20 : w2.heap[w.heap.size]? = some (.cells (bV [0, 0, 0, 0, 0, 0, 0, 0]) 54 (0, 0)) := by rw [ho2.block _ (by omega) (by omega)]; exact hg0
  have hb2 : Below w.heap.size w w2 := ho2.below hb0 (by omega) (Nat.le_refl _)
  have hs2 := blk_lt hg2
  have hlaid := bytesAt_bV hg2
  rw [laid_half] at hlaid
  have h4 := hlaid.take 4
  have e4 : (leB p.length ++ ([0, 0, 0, 0] : List UInt8)).take 4 = leB p.length := rfl
  rw [e4] at h4
  have q1 : ∀ u : InC (Below w2.heap.size w2), Calls Try.prog 42 #[.slice (some ⟨w.heap.size + 1, 0, none⟩) 4 8] u.val fun e w'' => e = .returned (.int .u32 (v32 (crcOf (leB p.length)) : Int)) ∧ ∃ y : InC (Below w2.heap.size w2), w'' = y.val := fun u =>
    cls_call ((of_any (leB p.length) (some ⟨w.heap.size + 1, 0, none⟩) 8 u.val (h4.below (Nat.le_refl _) u.property) (by simp [leB_length])).mono fun e w' ⟨he, hb'⟩ => ⟨he, u.property.trans (hb'.mono u.property.size)⟩)
  have q2 : ∀ u : InC (Below w2.heap.size w2), Calls Try.prog 41 #[.int .u32 (v32 (crcOf (leB p.length)) : Int), .slice a p.length cap] u.val fun e w'' => e = .returned (.int .u32 (v32 (sumOf p) : Int)) ∧ ∃ y : InC (Below w2.heap.size w2), w'' = y.val := fun u =>
    cls_call ((update_any (crcOf (leB p.length)) p a cap u.val (HP.out _ (hb2.trans (u.property.mono hb2.size))) (by omega)).mono fun e w' ⟨he, hb'⟩ => ⟨he, u.property.trans (hb'.mono u.property.size)⟩)
  have hne : Nonempty (InC (Below w2.heap.size w2)) := ⟨⟨w2, Below.refl _ _⟩⟩
  clear hlaid h4 hnn ho2 hb0 hg0 hg1 HF hs0
  refine region_tail (Cls (Below w2.heap.size w2)) 5 (by kernel_rfl) (by kernel_rfl) (cls_in (Below.refl _ _).drew) ?_
  simp only [List.take_succ_cons, List.take_zero, List.drop_succ_cons, List.drop_zero]
  repeat quiet_step ((first | exact q1 _ | exact q2 _))
  refine wpQuiet_nil ?_
  rintro w3 ⟨⟨w4, hb3⟩, hw⟩
  obtain rfl : w3 = w4 := hw
  clear q1 q2 hne
  have hg3 : w3.heap[w.heap.size + 1]? = some (.cells (bV (laid [0, 0, 0, 0, 0, 0, 0, 0] 0 p.length 4)) 54 (0, 0)) := by rw [hb3.block _ hs2]; exact hg2
  have hg30 : w3.heap[w.heap.size]? = some (.cells (bV [0, 0, 0, 0, 0, 0, 0, 0]) 54 (0, 0)) := by rw [hb3.block _ (by omega)]; exact hg20
  have hb4 := hb2.trans (hb3.mono hb2.size)
  have hF : Calls Try.prog 40 #[.slice (some ⟨w.heap.size + 1, 4, none⟩) 4 4, .int .u32 (v32 (sumOf p) : Int)] w3 fun e w' => e = .returned (.tuple #[]) ∧ w'.heap[w.heap.size + 1]? = some (.cells (bV (headB p)) 54 (0, 0)) ∧ w'.heap[w.heap.size]? = some (.cells (bV [0, 0, 0, 0, 0, 0, 0, 0]) 54 (0, 0)) ∧ Below w.heap.size w w' :=
    (four_any (laid [0, 0, 0, 0, 0, 0, 0, 0] 0 p.length 4) 54 (w.heap.size + 1) 4 4 (sumOf p) w3 hg3 (by simp [laid_length])).mono fun e w' ⟨he, hg, ho⟩ =>
      ⟨he, by rw [hg, laid_head]; rfl, by rw [ho.block _ (by have := blk_lt hg3; omega) (by omega)]; exact hg30, ho.below hb4 (by omega) (Nat.le_refl _)⟩
  have HF := Lib.hid hF
  clear hF
  have hi := size_head (headB p) (headB_length p)
  have Hold : Hid ((bV [0, 0, 0, 0, 0, 0, 0, 0]).size = (bV (headB p)).size) := by rw [bV_size, bV_size, headB_length]; rfl
  go_wp2_with (first
    | (go_at_call 40; with_reducible refine HF.out.mono ?_; rintro e w5 ⟨rfl, hg5, hg50, hb5⟩)
    | (with_reducible refine wpList_load_row rfl 54 (.tmp 3) rfl (w.heap.size + 1) rfl 54 (bV (headB p)) (0, 0) _ hg5 Try.underlying54 rfl hi ?_)
    | (with_reducible refine wpList_store_row rfl 54 (.tmp 2) (.tmp 15) rfl w.heap.size (bV (headB p)) rfl rfl 54 (bV [0, 0, 0, 0, 0, 0, 0, 0]) hg50 hi Hold.out (oneCell_bV _) ?_))
  have hg6 := setRow_heap w5 w.heap.size (bV [0, 0, 0, 0, 0, 0, 0, 0]) (bV (headB p)) 54 (0, 0) hg50
  exact bodyPost_ret (results_cell_row rfl _ _ w.heap.size 54 (bV (headB p)) (0, 0) _ rfl hg6 Try.underlying54 rfl hi) rfl ⟨rfl, below_setRow hb5 (Nat.le_refl _) _⟩
end Go.Proofs.Ytggnjgnjgnlchaa
