/- The walk of FrameNexts. -/
import Derived.Test.YtggnjgnjgnlchaaFrK
import Derived.Test.YtggnjgnjgnlchaaFrH
namespace Go.Proofs.Ytggnjgnjgnlchaa
set_option linter.unusedVariables false
set_option linter.unusedSimpArgs false
open Go.RowKit
attribute [local go_sem high] slice8 slice8l slice8h

theorem same_refl (p : List UInt8) (a b : Option Addr) (ca cb : Nat) (w : World) (hp : BytesAt w a p) (hq : BytesAt w b p) (hl : p.length ≤ 1000000000) :
    Calls Try.prog 14 #[.slice a p.length ca, .slice b p.length cb] w fun e w' => e = .returned (.bool true) ∧ Below w.heap.size w w' :=
  (same_any p p a b ca cb w hp hq hl).mono fun e w' ⟨he, hb⟩ => ⟨by rw [he]; simp, hb⟩

set_option maxRecDepth 100000 in
set_option maxHeartbeats 4000000 in
theorem frameNexts_walk (w : World) (a : Option Addr) (cap : Nat) (p : List UInt8) (hp : BytesAt w a p) (hl : p.length ≤ cap) (hc : cap ≤ 9223372036854775807) (k : Int) (hk0 : -9223372036854775808 ≤ k) (hk1 : k ≤ 9223372036854775807) :
    Calls Try.prog 4 #[.slice a p.length cap, .int .i64 k] w fun e w' => e = .returned (.bool true) ∧ Below w.heap.size w w' := by
  by_cases hbig : 200000 < p.length
  · go_enter Try.func4, Try.ntmps4
    go_wp2
    go_ret
    exact ⟨rfl, Below.refl _ _⟩
  have hroom := roomy_any p a cap w hp (by omega)
  have hW0 : Below w.heap.size w (w.alloc (.cells (bV (roomL p)) 5)) := (Below.refl _ _).alloc (Nat.le_refl _) _
  have hnew := heap_alloc_new w (.cells (bV (roomL p)) 5)
  have hroomB : BytesAt (w.alloc (.cells (bV (roomL p)) 5)) (some ⟨w.heap.size, 0, none⟩) (roomL p) := bytesAt_bV hnew
  have hp0 := hp.below (Nat.le_refl _) hW0
  have hsz : (w.alloc (.cells (bV (roomL p)) 5)).heap.size = w.heap.size + 1 := by simp
  generalize w.alloc (.cells (bV (roomL p)) 5) = W at hroom hW0 hnew hroomB hp0 hsz
  have hp1 := hroomB.take p.length
  rw [room_take] at hp1
  have h1 := Next_any p (some ⟨w.heap.size, 0, none⟩) (p.length + 70) k W hp1 (by omega) (by omega) hk0 hk1
  obtain ⟨r, hr⟩ : ∃ r, r = nextF p k := ⟨_, rfl⟩
  have hrl := nxB_le p k
  rw [← hr] at h1 hrl
  have HR := Lib.hid hr
  have HP := Lib.hid hp0
  have HRB := Lib.hid hroomB
  have hs1 : (0 : Int) ≤ (p.length : Int) := by omega
  have hs2 : (p.length : Int) ≤ ((p.length + 70 : Nat) : Int) := by omega
  clear hr hp0 hroomB hp1 hnew
  go_enter Try.func4, Try.ntmps4
  go_wp2_with (first
    | (go_at_call 11; (with_reducible refine hroom.mono ?_); rintro e w0 ⟨rfl, rfl⟩)
    | (go_at_call 16; (with_reducible refine h1.mono ?_); rintro e w1 ⟨a1, n1, c1, rfl, rfl, ho1, hb1⟩; have h2 := rNext_any p a cap k w1 (HP.out.below (Nat.le_refl _) hb1) hl (by omega) hk0 hk1; rw [← HR.out] at h2; have hb1' := hb1)
    | (go_at_call 18; (with_reducible refine h2.mono ?_); rintro e w2 ⟨a2, n2, c2, rfl, rfl, ho2, hb2⟩; have h3 := same_refl (nxB r) a1 a2 c1 c2 w2 (ho1.below (Nat.le_refl _) hb2).at ho2.at (by omega))
    | (go_at_call 14; (with_reducible refine h3.mono ?_); rintro e w3 ⟨rfl, hb3⟩; have hacc3 := (hb1.trans (hb2.mono hb1.size)).trans (hb3.mono (hb1.trans (hb2.mono hb1.size)).size); have h4 := stands_any p a cap w.heap.size (p.length + 70) w3 (HP.out.below (Nat.le_refl _) hacc3) (by omega) (HRB.out.below (Nat.le_refl _) hacc3))
    | (go_at_call 15; (with_reducible refine h4.mono ?_); rintro e w4 ⟨rfl, hb4⟩; have h5 := known_any w4)
    | (go_at_call 17; (with_reducible refine h5.mono ?_); rintro e w5 ⟨rfl, hb5⟩))
  go_ret
  have hacc4 := hacc3.trans (hb4.mono hacc3.size)
  have hacc5 := hacc4.trans (hb5.mono hacc4.size)
  exact ⟨rfl, hW0.trans (hacc5.mono hW0.size)⟩
end Go.Proofs.Ytggnjgnjgnlchaa
