/- The walk of the law CrcOfs. -/
import Derived.Test.YtflonblpfkfpnaaCrcK
import Derived.Test.YtflonblpfkfpnaaCrcRoom
import Derived.Deep.DeepCutAuto
namespace Go.Proofs.Ytflonblpfkfpnaa
set_option linter.unusedVariables false
set_option linter.unusedSimpArgs false
open Go.RowKit

theorem x8_1 (b : UInt8) : bits .xor .u8 (b.toNat : Int) (1 : Int) = ((b ^^^ 1).toNat : Int) := by
  have h : ∀ n : Fin 256, bits .xor .u8 (n.val : Int) (1 : Int) = ((UInt8.ofNat n.val ^^^ 1).toNat : Int) := by decide +kernel
  have := h ⟨b.toNat, b.toNat_lt⟩
  simpa using this
attribute [local go_sem] eq32 ne32 x8_1

set_option maxHeartbeats 2000000 in
theorem crcOfs_walk (w : World) (s : BitVec 32) (a : Option Addr) (cap : Nat) (p : List UInt8) (hp : BytesAt w a p) (hl : p.length ≤ cap) (hc : cap ≤ 9223372036854775807) :
    Calls Try.prog 3 #[.int .u32 (v32 s : Int), .slice a p.length cap] w fun e w' => e = .returned (.bool true) ∧ Below w.heap.size w w' := by
  by_cases hbig : 65536 < p.length
  · go_enter Try.func3, Try.ntmps3
    go_wp2
    go_ret
    exact ⟨rfl, Below.refl _ _⟩
  · have hsm : p.length ≤ 65536 := by omega
    have Hroom := roomy_any p a cap w hp (by omega)
    have hw1 : Below w.heap.size w (w.alloc (.cells (bV (roomL p)) 5)) := (Below.refl _ _).alloc (Nat.le_refl _) _
    have hg1 : (w.alloc (.cells (bV (roomL p)) 5)).heap[w.heap.size]? = some (.cells (bV (roomL p)) 5 (0, 0)) := heap_alloc_new _ _
    have hsz1 : w.heap.size < (w.alloc (.cells (bV (roomL p)) 5)).heap.size := by simp
    generalize (w.alloc (.cells (bV (roomL p)) 5)) = w1 at hw1 hg1 Hroom hsz1
    have HP : Hid (∀ x, Below w1.heap.size w1 x → BytesAt x a p) := fun x hx => (hp.below (Nat.le_refl _) hw1).below (Nat.le_refl _) hx
    have HL : Hid (∀ x, Below w1.heap.size w1 x → BytesAt x (some ⟨w.heap.size, 0, none⟩) (roomL p)) := fun x hx => (bytesAt_bV hg1).below (Nat.le_refl _) hx
    have HG : Hid (∀ x, Below w1.heap.size w1 x → BytesAt x (some ⟨w.heap.size, 0, none⟩) p) := fun x hx => by have := (HL.out x hx).take p.length; rwa [room_take] at this
    have hacc := Below.refl w1.heap.size w1
    go_enter Try.func3, Try.ntmps3
    by_cases h0 : p.length = 0
    · have ht0 : ((p.length : Int) == 0) = true := by rw [h0]; rfl
      clear h0
      go_wp2_with (first
    | (go_at_call 8; with_reducible refine Hroom.mono ?_; rintro e w' ⟨rfl, h2⟩; obtain rfl := h2.symm)
    | (go_at_call 9; with_reducible refine (of_any p (some ⟨w.heap.size, 0, none⟩) _ _ (HG.out _ hacc) (by omega)).mono ?_; rintro e w' ⟨rfl, hb⟩; replace hacc := acc_call hacc hb (Nat.le_refl _); clear hb)
    | (go_at_call 10; with_reducible refine (rof_any p a _ _ (HP.out _ hacc) (by omega)).mono ?_; rintro e w' ⟨rfl, rfl⟩)
    | (go_at_call 11; with_reducible refine (update_any s p (some ⟨w.heap.size, 0, none⟩) _ _ (HG.out _ hacc) (by omega)).mono ?_; rintro e w' ⟨rfl, hb⟩; replace hacc := acc_call hacc hb (Nat.le_refl _); clear hb)
    | (go_at_call 12; with_reducible refine (rupdate_any s p a _ _ (HP.out _ hacc) (by omega)).mono ?_; rintro e w' ⟨rfl, rfl⟩)
    | (go_at_call 13; with_reducible refine (stands_any p a cap w.heap.size _ _ (HP.out _ hacc) (by omega) (HL.out _ hacc)).mono ?_; rintro e w' ⟨rfl, hb⟩; replace hacc := acc_call hacc hb (Nat.le_refl _); clear hb)
    | (go_at_call 14; with_reducible refine (known_any _).mono ?_; rintro e w' ⟨rfl, hb⟩; replace hacc := acc_call hacc hb (Nat.le_refl _); clear hb))
      go_ret
      exact ⟨rfl, hw1.trans (hacc.mono (by omega))⟩
    · go_upto_region 8 with (first
    | (go_at_call 8; with_reducible refine Hroom.mono ?_; rintro e w' ⟨rfl, h2⟩; obtain rfl := h2.symm)
    | (go_at_call 9; with_reducible refine (of_any p (some ⟨w.heap.size, 0, none⟩) _ _ (HG.out _ hacc) (by omega)).mono ?_; rintro e w' ⟨rfl, hb⟩; replace hacc := acc_call hacc hb (Nat.le_refl _); clear hb)
    | (go_at_call 10; with_reducible refine (rof_any p a _ _ (HP.out _ hacc) (by omega)).mono ?_; rintro e w' ⟨rfl, rfl⟩)
    | (go_at_call 11; with_reducible refine (update_any s p (some ⟨w.heap.size, 0, none⟩) _ _ (HG.out _ hacc) (by omega)).mono ?_; rintro e w' ⟨rfl, hb⟩; replace hacc := acc_call hacc hb (Nat.le_refl _); clear hb)
    | (go_at_call 12; with_reducible refine (rupdate_any s p a _ _ (HP.out _ hacc) (by omega)).mono ?_; rintro e w' ⟨rfl, rfl⟩)
    | (go_at_call 13; with_reducible refine (stands_any p a cap w.heap.size _ _ (HP.out _ hacc) (by omega) (HL.out _ hacc)).mono ?_; rintro e w' ⟨rfl, hb⟩; replace hacc := acc_call hacc hb (Nat.le_refl _); clear hb)
    | (go_at_call 14; with_reducible refine (known_any _).mono ?_; rintro e w' ⟨rfl, hb⟩; replace hacc := acc_call hacc hb (Nat.le_refl _); clear hb))
      have hp0 : 0 < p.length := by omega
      obtain ⟨x, hx⟩ : ∃ x, p[0] = x := ⟨_, rfl⟩
      have hgw : w'.heap[w.heap.size]? = some (.cells (bV (roomL p)) 5 (0, 0)) := by rw [hacc.block _ hsz1]; exact hg1
      have hcx : w'.cell? ⟨w.heap.size, 0, none⟩ = some (.int .u8 (x.toNat : Int)) := by
        refine blk_cell hgw ?_
        have hr0 := room_near p 0 hp0
        rw [List.getElem?_eq_some_iff] at hr0
        obtain ⟨hlt, he⟩ := hr0
        rw [bV_get _ 0 hlt, he, hx]
      have hfx : w'.frozen? ⟨w.heap.size, 0, none⟩ = false := blk_free hgw
      have hbb : Below w.heap.size w w' := hw1.trans (hacc.mono (by omega))
      have HB := Lib.hid hgw
      have hx' := Lib.hid hx
      clear hgw hx HP HL HG hg1
      go_upto_region 9 with fail
      have hgw2 : (w'.setCell ⟨w.heap.size, 0, none⟩ (.int .u8 ((x ^^^ 1).toNat : Int))).heap[w.heap.size]? = some (.cells (bV ((roomL p).set 0 (x ^^^ 1))) 5 (0, 0)) := by
        rw [blk_set HB.out, bV_set]
      have hbb2 : Below w.heap.size w (w'.setCell ⟨w.heap.size, 0, none⟩ (.int .u8 ((x ^^^ 1).toNat : Int))) := hbb.setCell (Nat.le_refl _) _
      have hszb : w.heap.size < (w'.setCell ⟨w.heap.size, 0, none⟩ (.int .u8 ((x ^^^ 1).toNat : Int))).heap.size := blk_lt hgw2
      obtain ⟨W, hW⟩ : ∃ W, W = w'.setCell ⟨w.heap.size, 0, none⟩ (.int .u8 ((x ^^^ 1).toNat : Int)) := ⟨_, rfl⟩
      rw [← hW] at hgw2 hbb2 hszb
      rw [show ((x.toNat ^^^ 1 : Nat) : Int) = ((x ^^^ 1).toNat : Int) by simp, ← hW]
      clear hW
      obtain ⟨p2, hp2⟩ : ∃ p2, p2 = p.set 0 (x ^^^ 1) := ⟨_, rfl⟩
      have hlen : p2.length = p.length := by rw [hp2]; simp
      have HQ0 : BytesAt W (some ⟨w.heap.size, 0, none⟩) p2 := by
        have := (bytesAt_bV hgw2).take p.length
        rwa [List.take_set, room_take, ← hp2] at this
      have HQ : ∀ x : InC (Below W.heap.size W), BytesAt x.val (some ⟨w.heap.size, 0, none⟩) p2 := fun x => HQ0.below (Nat.le_refl _) x.property
      have q1 : ∀ x : InC (Below W.heap.size W), Calls Try.prog 9 #[.slice (some ⟨w.heap.size, 0, none⟩) p.length (p.length + 70)] x.val fun e w'' => e = .returned (.int .u32 (v32 (crcOf p2) : Int)) ∧ ∃ y : InC (Below W.heap.size W), w'' = y.val := fun x => by
        rw [← hlen]
        exact cls_call ((of_any p2 (some ⟨w.heap.size, 0, none⟩) _ x.val (HQ x) (by omega)).mono fun e w' ⟨he, hb'⟩ => ⟨he, x.property.trans (hb'.mono x.property.size)⟩)
      have q2 : ∀ x : InC (Below W.heap.size W), Calls Try.prog 10 #[.slice (some ⟨w.heap.size, 0, none⟩) p.length (p.length + 70)] x.val fun e w'' => e = .returned (.int .u32 (v32 (crcOf p2) : Int)) ∧ ∃ y : InC (Below W.heap.size W), w'' = y.val := fun x => by
        rw [← hlen]
        exact cls_call ((rof_any p2 (some ⟨w.heap.size, 0, none⟩) _ x.val (HQ x) (by omega)).mono fun e w' ⟨he, hb'⟩ => ⟨he, by subst hb'; exact x.property⟩)
      have q3 : ∀ x : InC (Below W.heap.size W), Calls Try.prog 11 #[.int .u32 (v32 s : Int), .slice (some ⟨w.heap.size, 0, none⟩) p.length (p.length + 70)] x.val fun e w'' => e = .returned (.int .u32 (v32 (crcUpdate s p2) : Int)) ∧ ∃ y : InC (Below W.heap.size W), w'' = y.val := fun x => by
        rw [← hlen]
        exact cls_call ((update_any s p2 (some ⟨w.heap.size, 0, none⟩) _ x.val (HQ x) (by omega)).mono fun e w' ⟨he, hb'⟩ => ⟨he, x.property.trans (hb'.mono x.property.size)⟩)
      have q4 : ∀ x : InC (Below W.heap.size W), Calls Try.prog 12 #[.int .u32 (v32 s : Int), .slice (some ⟨w.heap.size, 0, none⟩) p.length (p.length + 70)] x.val fun e w'' => e = .returned (.int .u32 (v32 (crcUpdate s p2) : Int)) ∧ ∃ y : InC (Below W.heap.size W), w'' = y.val := fun x => by
        rw [← hlen]
        exact cls_call ((rupdate_any s p2 (some ⟨w.heap.size, 0, none⟩) _ x.val (HQ x) (by omega)).mono fun e w' ⟨he, hb'⟩ => ⟨he, by subst hb'; exact x.property⟩)
      have q5 : ∀ x : InC (Below W.heap.size W), Calls Try.prog 14 #[] x.val fun e w'' => e = .returned (.bool true) ∧ ∃ y : InC (Below W.heap.size W), w'' = y.val := fun x =>
        cls_call ((known_any x.val).mono fun e w' ⟨he, hb'⟩ => ⟨he, x.property.trans (hb'.mono x.property.size)⟩)
      have hne : Nonempty (InC (Below W.heap.size W)) := ⟨⟨W, Below.refl _ _⟩⟩
      clear HQ0 HQ hp2
      have i0 : (0 : Int) ≤ (p.length : Int) := by omega
      have i1 : (p.length : Int) ≤ (p.length : Int) + 70 := by omega
      refine region_quiet (Cls (Below W.heap.size W)) (by kernel_rfl) (by kernel_rfl) (cls_in (Below.refl _ _).drew) ?_
      repeat quiet_step ((first | exact q1 _ | exact q2 _ | exact q3 _ | exact q4 _ | exact q5 _))
      refine wpQuiet_nil ?_
      rintro w2 ⟨⟨w3, hb2⟩, hw⟩
      obtain rfl : w2 = w3 := hw
      clear q1 q2 q3 q4 q5 hne
      go_wp2
      go_ret
      exact ⟨rfl, hbb2.trans (hb2.mono hbb2.size)⟩
end Go.Proofs.Ytflonblpfkfpnaa
