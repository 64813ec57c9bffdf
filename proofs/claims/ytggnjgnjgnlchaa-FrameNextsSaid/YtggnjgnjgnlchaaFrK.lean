/- Walks: known. -/
import Derived.Test.YtggnjgnjgnlchaaFrJ
import Derived.Test.YtggnjgnjgnlchaaFrD
import Derived.Test.YtggnjgnjgnlchaaFrRoom
import Derived.Lib.SlBytesConst
namespace Go.Proofs.Ytggnjgnjgnlchaa
set_option linter.unusedVariables false
set_option linter.unusedSimpArgs false
open Go.RowKit
attribute [local go_sem high] slice8 slice8l slice8h

def kB : List UInt8 := [255] ++ sealB [97, 98]
theorem kB_length : kB.length = 11 := by simp [kB, sealB_length]
theorem kB_seal : sealF [255] [97, 98] = (0, kB) := rfl
theorem kB_nil : sealF [] [] = (2, []) := rfl
theorem kB_n1 : nextF kB 1 = .ok ([97, 98], 11) := by
  have := next_seal [255] [97, 98] [] (by decide) (by decide)
  rw [List.append_nil] at this
  exact (nextF_nat kB 1 (by rw [kB_length]; decide)).trans this
theorem kB_n11 : nextF kB 11 = .error 12 := by
  rw [show (11 : Int) = ((11 : Nat) : Int) from rfl, nextF_nat kB 11 (by rw [kB_length]; decide)]
  unfold nextN; rw [if_pos kB_length.symm]
theorem kB_z : nextF (List.replicate 9 0) 0 = .error 13 := by
  rw [show (0 : Int) = ((0 : Nat) : Int) from rfl, nextF_nat _ 0 (by simp)]
  unfold nextN
  rw [if_neg (by simp), if_neg (by simp)]
  dsimp only
  rw [if_pos (.inl (by decide))]
theorem kB_z9 : nextF [0, 0, 0, 0, 0, 0, 0, 0, 0] 0 = .error 13 := kB_z
theorem kB_whole : wholeN (sealB [97, 98]) = 10 := by
  have h := next_seal [] [97, 98] [] (by decide) (by decide)
  rw [List.append_nil, List.nil_append] at h
  have h2 : nextN (sealB [97, 98]) 10 = .error 12 := by
    unfold nextN; rw [if_pos (by rw [sealB_length]; rfl)]
  unfold wholeN
  have h3 : nextN (sealB [97, 98]) 0 = .ok ([97, 98], 10) := h
  rw [scanK_ok h3, scanK_err h2]
  rfl

set_option maxRecDepth 100000 in
set_option maxHeartbeats 4000000 in
theorem known_any (w : World) : Calls Try.prog 17 #[] w fun e w' => e = .returned (.bool true) ∧ Below w.heap.size w w' := by
  have k1 : ∀ (W : World) b1 b2 c2 fr1 fr2, W.heap[b1]? = some (.cells #[.int .u8 255] 5 fr1) → W.heap[b2]? = some (.cells #[.int .u8 97, .int .u8 98] 5 fr2) →
      Calls Try.prog 12 #[.slice (some ⟨b1, 0, none⟩) 1 1, .slice (some ⟨b2, 0, none⟩) 2 c2] W fun e w' => ∃ a c, e = .returned (.tuple #[.slice a 11 c, .int .i64 0]) ∧ OwnB W.heap.size w' a c kB ∧ Below W.heap.size W w' := fun W b1 b2 c2 fr1 fr2 h1 h2 => by
    refine (seal_any [255] [97, 98] (some ⟨b1, 0, none⟩) (some ⟨b2, 0, none⟩) 1 c2 W (bytesAt_bV h1) (bytesAt_bV h2) (by decide) (by decide)).mono ?_
    rintro e w' ⟨a, n, c, he, hn, ho, hb⟩
    rw [kB_seal] at he hn ho
    rw [show n = 11 from hn] at he
    exact ⟨a, c, he, ho, hb⟩
  have k2 : ∀ (W : World), Calls Try.prog 12 #[.slice none 0 0, .slice none 0 0] W fun e w' => ∃ a c, e = .returned (.tuple #[.slice a 0 c, .int .i64 2]) ∧ Below W.heap.size W w' := fun W => by
    refine (seal_any [] [] none none 0 0 W (BytesAt.nil _ _) (BytesAt.nil _ _) (by decide) (by decide)).mono ?_
    rintro e w' ⟨a, n, c, he, hn, ho, hb⟩
    rw [kB_nil] at he hn ho
    rw [show n = 0 from hn] at he
    exact ⟨a, c, he, hb⟩
  have k3 : ∀ (W : World) a c, OwnB 0 W a c kB → Calls Try.prog 16 #[.slice a 11 c, .int .i64 1] W fun e w' => ∃ a' c', e = .returned (.tuple #[.slice a' 2 c', .int .i64 11, .int .i64 0]) ∧ OwnB W.heap.size w' a' c' [97, 98] ∧ Below W.heap.size W w' := fun W a c ho => by
    have h := Next_any kB a c 1 W ho.at ho.le (by rw [kB_length]; decide) (by decide) (by decide)
    rw [kB_length] at h
    refine h.mono ?_
    rintro e w' ⟨a', n, c', he, hn, ho, hb⟩
    rw [kB_n1] at he hn ho
    rw [show n = 2 from hn] at he
    exact ⟨a', c', he, ho, hb⟩
  have k4 : ∀ (W : World) a c, OwnB 0 W a c kB → Calls Try.prog 16 #[.slice a 11 c, .int .i64 11] W fun e w' => ∃ a' c', e = .returned (.tuple #[.slice a' 0 c', .int .i64 0, .int .i64 12]) ∧ Below W.heap.size W w' := fun W a c ho => by
    have h := Next_any kB a c 11 W ho.at ho.le (by rw [kB_length]; decide) (by decide) (by decide)
    rw [kB_length] at h
    refine h.mono ?_
    rintro e w' ⟨a', n, c', he, hn, ho, hb⟩
    rw [kB_n11] at he hn ho
    rw [show n = 0 from hn] at he
    exact ⟨a', c', he, hb⟩
  have k5 : ∀ (W : World) b fr, W.heap[b]? = some (.cells (bV [0, 0, 0, 0, 0, 0, 0, 0, 0]) 5 fr) → Calls Try.prog 16 #[.slice (some ⟨b, 0, none⟩) 9 9, .int .i64 0] W fun e w' => ∃ a' c', e = .returned (.tuple #[.slice a' 0 c', .int .i64 0, .int .i64 13]) ∧ Below W.heap.size W w' := fun W b fr hb => by
    refine (Next_any [0, 0, 0, 0, 0, 0, 0, 0, 0] (some ⟨b, 0, none⟩) 9 0 W (bytesAt_bV hb) (by decide) (by decide) (by decide) (by decide)).mono ?_
    rintro e w' ⟨a', n, c', he, hn, ho, hb⟩
    rw [kB_z9] at he hn ho
    rw [show n = 0 from hn] at he
    exact ⟨a', c', he, hb⟩
  have k6 : ∀ (W : World) a c, OwnB 0 W a c kB → Calls Try.prog 21 #[.slice (subA a c 1) 10 (c - 1)] W fun e w' => e = .returned (.int .i64 10) ∧ Below W.heap.size W w' := fun W a c ho => by
    have h := whole_any ((kB.drop 1).take 10) (subA a c 1) (c - 1) W (ho.at.sub c 1 10 (by rw [kB_length]; decide) ho.le) (by decide)
    have e : (kB.drop 1).take 10 = sealB [97, 98] := by
      have : kB.drop 1 = sealB [97, 98] := rfl
      rw [this]; exact List.take_of_length_le (by rw [sealB_length]; decide)
    rw [e, kB_whole] at h
    exact h
  have K6 := Lib.hid k6
  have K1 := Lib.hid k1
  have K2 := Lib.hid k2
  have K3 := Lib.hid k3
  have K4 := Lib.hid k4
  have K5 := Lib.hid k5
  clear k1 k2 k3 k4 k5 k6
  have kc := Lib.run_convert_bytes_const (P := Try.prog) (w.alloc (.cells #[.int .u8 255] 5)) 22 5 #[.int .u8 97, .int .u8 98] 2 2 Try.underlying22 Try.underlying5
  rw [World.size_alloc] at kc
  have hA : ((w.alloc (.cells #[.int .u8 255] 5)).alloc (.cells #[.int .u8 97, .int .u8 98] 5 (2, 3))).heap[w.heap.size]? = some (.cells #[.int .u8 255] 5 (0, 0)) := heap_alloc2_old _ _ _
  have hB : ((w.alloc (.cells #[.int .u8 255] 5)).alloc (.cells #[.int .u8 97, .int .u8 98] 5 (2, 3))).heap[w.heap.size + 1]? = some (.cells #[.int .u8 97, .int .u8 98] 5 (2, 3)) := heap_alloc2_new _ _ _
  have hacc0 : Below w.heap.size w ((w.alloc (.cells #[.int .u8 255] 5)).alloc (.cells #[.int .u8 97, .int .u8 98] 5 (2, 3))) := ((Below.refl _ _).alloc (Nat.le_refl _) _).alloc (by simp) _
  have HA := Lib.hid hA
  have HB := Lib.hid hB
  clear hA hB
  have hmk : ∀ w : World, (Instr.makeSlice 22 (.int .i64 9) (.int .i64 9)).run Try.prog w = .ok (.slice (some ⟨w.heap.size, 0, none⟩) 9 9) (w.alloc (.cells (bV [0, 0, 0, 0, 0, 0, 0, 0, 0]) 5)) := fun w => make_bytes w 9 (by decide)
  go_enter Try.func17, Try.ntmps17
  go_upto_region 6 with (first
    | (go_at_call 12; (with_reducible refine (K1.out _ _ _ _ _ _ HA.out HB.out).mono ?_); rintro e w1 ⟨a1, c1, rfl, ho1, hb1⟩; have hacc1 := hacc0.trans (hb1.mono hacc0.size))
    | (go_at_call 12; (with_reducible refine (K2.out _).mono ?_); rintro e w2 ⟨a2, c2, rfl, hb2⟩; have ho2 := ho1.below (Nat.le_refl _) hb2; have hacc2 := hacc1.trans (hb2.mono hacc1.size))
    | (go_at_call 16; (with_reducible refine (K3.out _ a1 c1 (ho2.mono (Nat.zero_le _))).mono ?_); rintro e w3 ⟨a3, c3, rfl, hq3, hb3⟩; have ho3 := ho2.below (Nat.le_refl _) hb3; have hacc3 := hacc2.trans (hb3.mono hacc2.size))
    | (go_at_call 16; (with_reducible refine (K4.out _ a1 c1 (ho3.mono (Nat.zero_le _))).mono ?_); rintro e w4 ⟨a4, c4, rfl, hb4⟩; have ho4 := ho3.below (Nat.le_refl _) hb4; have hq4 := hq3.below (Nat.le_refl _) hb4; have hacc4 := hacc3.trans (hb4.mono hacc3.size))
    | (go_at_call 16; (with_reducible refine (K5.out _ _ _ (heap_alloc_new _ _)).mono ?_); rintro e w5 ⟨a5, c5, rfl, hb5⟩))
  have hacc5 := acc_new hacc4 hb5 (Nat.le_refl _)
  have ho5 := ho4.below (Nat.le_refl _) (below_new (w := w) hb5)
  have hq5 := hq4.below (Nat.le_refl _) (below_new (w := w) hb5)
  have hw := K6.out w5 a1 c1 (ho5.mono (Nat.zero_le _))
  obtain ⟨b1, o1, rfl, hbs1, hcc1⟩ := ho5.at.split (by decide)
  have hd0 : w5.cell? ⟨b1, o1 + 0, none⟩ = some (.int .u8 255) := hcc1 0 (by decide)
  have hd1 : w5.cell? ⟨b1, o1 + 1, none⟩ = some (.int .u8 2) := hcc1 1 (by decide)
  obtain ⟨b3, o3, rfl, hbs3, hcc3⟩ := hq5.at.split (by decide)
  have hle5 := ho5.le
  clear hcc1 hbs1
  rw [Nat.add_zero] at hd0
  have hv : (convert 22 9 (.slice (some ⟨b3, o3, none⟩) 2 c3)).run Try.prog w5 = .ok (.string ⟨#[97, 98]⟩) w5 := run_convert_bytes_back (P := Try.prog) w5 22 9 5 ⟨b3, o3, none⟩ c3 [97, 98] Try.underlying22 Try.underlying5 Try.underlying9 (fun j hj => by rw [addr_add]; exact hcc3 j hj)
  clear hcc3
  go_wp2_with (go_at_call 21; (with_reducible refine hw.mono ?_); rintro e w6 ⟨rfl, hb6⟩)
  go_ret
  exact ⟨rfl, hacc5.trans (hb6.mono hacc5.size)⟩
end Go.Proofs.Ytggnjgnjgnlchaa
