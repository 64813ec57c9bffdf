/- Walks of package frame: Seal. -/
import Derived.Test.YtggnjgnjgnlchaaFrC
import Derived.Test.YtggnjgnjgnlchaaFrB
import Derived.Deep.DeepCutAuto
import Derived.Deep.CutBlock
namespace Go.Proofs.Ytggnjgnjgnlchaa
set_option linter.unusedVariables false
set_option linter.unusedSimpArgs false
open Go.RowKit

/-- what Seal answers -/
def sealF (d p : List UInt8) : Int × List UInt8 := if p.length = 0 then (2, []) else if 65536 < p.length then (4, []) else (0, d ++ sealB p)
def RetS (w : World) (d p : List UInt8) (e : Ending) (w' : World) : Prop :=
  ∃ a n c, e = .returned (.tuple #[.slice a n c, .int .i64 (sealF d p).1]) ∧ n = (sealF d p).2.length ∧ OwnB w.heap.size w' a c (sealF d p).2 ∧ Below w.heap.size w w'

set_option maxHeartbeats 1000000 in
theorem seal_any (d p : List UInt8) (ad ap : Option Addr) (cd cp : Nat) (w : World) (hd : BytesAt w ad d) (hp : BytesAt w ap p) (hl : p.length ≤ 1000000) (hl2 : d.length ≤ 1000000000) :
    Calls Try.prog 12 #[.slice ad d.length cd, .slice ap p.length cp] w (RetS w d p) := by
  go_enter Try.func12, Try.ntmps12
  by_cases h0 : p.length = 0
  · have hs : sealF d p = (2, []) := by simp [sealF, h0]
    go_wp2
    go_ret2
    exact ⟨none, 0, 0, by rw [hs]; rfl, by rw [hs]; rfl, by rw [hs]; exact OwnB.nil _ _, Below.refl _ _⟩
  by_cases h1 : 65536 < p.length
  · have hs : sealF d p = (4, []) := by simp [sealF, h0, h1]
    have h2 : (65536 : Int) < (p.length : Int) := by omega
    go_wp2
    go_ret2
    exact ⟨none, 0, 0, by rw [hs]; rfl, by rw [hs]; rfl, by rw [hs]; exact OwnB.nil _ _, Below.refl _ _⟩
  · have hs : sealF d p = (0, d ++ sealB p) := by simp [sealF, h0, h1]
    have h2 : ¬ (65536 : Int) < (p.length : Int) := by omega
    have hh := headOf_any p ap cp w hp (by omega)
    have hi := size_head (headB p) (headB_length p)
    have Hold : Hid ((bV [0, 0, 0, 0, 0, 0, 0, 0]).size = (bV (headB p)).size) := by rw [bV_size, bV_size, headB_length]; rfl
    have o8 := oneCell_bV (headB p)
    rw [zero8] at Hold
    go_wp2_with (first
      | (go_at_call 31; (with_reducible refine hh.mono ?_); rintro e w1 ⟨rfl, hb1⟩; have hg1 := heap_alloc_new w1 (.cells (bV [0, 0, 0, 0, 0, 0, 0, 0]) 54); rw [zero8] at hg1)
      | (with_reducible refine wpList_store_row rfl 54 (.tmp 6) (.tmp 14) rfl w1.heap.size (bV (headB p)) rfl rfl 54 _ hg1 hi Hold.out o8 ?_))
    have hb2 : Below w.heap.size w (w1.alloc (.cells #[.int .u8 0, .int .u8 0, .int .u8 0, .int .u8 0, .int .u8 0, .int .u8 0, .int .u8 0, .int .u8 0] 54)) := hb1.alloc hb1.size _
    have hb3 := below_setRow hb2 hb1.size (bV (headB p))
    have hg3 := setRow_heap _ w1.heap.size _ (bV (headB p)) 54 (0, 0) hg1
    have hs3 := setRow_size (w1.alloc (.cells #[.int .u8 0, .int .u8 0, .int .u8 0, .int .u8 0, .int .u8 0, .int .u8 0, .int .u8 0, .int .u8 0] 54)) w1.heap.size (bV (headB p))
    have hs4 : w1.heap.size + 1 = (w1.alloc (.cells #[.int .u8 0, .int .u8 0, .int .u8 0, .int .u8 0, .int .u8 0, .int .u8 0, .int .u8 0, .int .u8 0] 54)).heap.size := by simp
    rw [← hs4] at hs3
    rw [← hs3]
    generalize (w1.alloc (.cells #[.int .u8 0, .int .u8 0, .int .u8 0, .int .u8 0, .int .u8 0, .int .u8 0, .int .u8 0, .int .u8 0] 54)).setRow w1.heap.size (bV (headB p)) = w3 at *
    have hL : [(ad, cd, d), (some ⟨w1.heap.size, 0, none⟩, 8, headB p), (ap, cp, p)].length = 3 := rfl
    have hsum : lenK [(ad, cd, d), (some ⟨w1.heap.size, 0, none⟩, 8, headB p), (ap, cp, p)] 3 = d.length + 8 + p.length := by simp [lenK, headB_length]; omega
    have hcat : catK [(ad, cd, d), (some ⟨w1.heap.size, 0, none⟩, 8, headB p), (ap, cp, p)] 3 = d ++ sealB p := by simp [catK, sealB]
    have hw := hb3.alloc (o := .cells #[.slice ad d.length cd, .slice (some ⟨w1.heap.size, 0, none⟩) 8 8, .slice ap p.length cp] 22) hb3.size
    have hc := concat_any [(ad, cd, d), (some ⟨w1.heap.size, 0, none⟩, 8, headB p), (ap, cp, p)] w3.heap.size (w3.alloc (.cells #[.slice ad d.length cd, .slice (some ⟨w1.heap.size, 0, none⟩) 8 8, .slice ap p.length cp] 22))
      (heap_alloc_new _ _) (by
        intro x hx
        simp only [List.mem_cons, List.not_mem_nil, or_false] at hx
        rcases hx with rfl | rfl | rfl
        · exact hd.below (Nat.le_refl _) hw
        · exact bytesAt_bV ((heap_alloc_old _ _ (blk_lt hg3)).trans hg3)
        · exact hp.below (Nat.le_refl _) hw) (by rw [hL, hsum]; omega) (by rw [hL]; decide)
    rw [hL, hcat] at hc
    refine hc.mono ?_
    rintro e w4 ⟨a4, c4, rfl, ho4, hb4⟩
    have hsz : w.heap.size ≤ (w3.alloc (.cells #[.slice ad d.length cd, .slice (some ⟨w1.heap.size, 0, none⟩) 8 8, .slice ap p.length cp] 22)).heap.size := hw.size
    have hb5 := hw.trans (hb4.mono hsz)
    have ho5 := ho4.mono hsz
    dsimp only
    go_at_K
    go_wp2
    go_ret2
    exact ⟨a4, _, c4, by rw [hs]; rfl, by rw [hs], by rw [hs]; exact ho5, hb5⟩
end Go.Proofs.Ytggnjgnjgnlchaa
