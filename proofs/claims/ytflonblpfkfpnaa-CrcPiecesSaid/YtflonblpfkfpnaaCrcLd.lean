/- The walk of the law CrcPieces. -/
import Derived.Test.YtflonblpfkfpnaaCrcK
import Derived.Test.YtflonblpfkfpnaaCrcRoom
import Derived.Deep.DeepCutAuto
import Derived.Deep.CutBlock
namespace Go.Proofs.Ytflonblpfkfpnaa
set_option linter.unusedVariables false
set_option linter.unusedSimpArgs false
open Go.RowKit
attribute [local go_sem] eq32 ne32 subA_zero

theorem crcOf_nil : v32 (crcOf []) = 0 := by decide +kernel
theorem slice8 (w : World) (a : Option Addr) (len cap : Nat) (l h : Int) (h0 : 0 ≤ l) (h1 : l ≤ h) (h2 : h ≤ cap) :
    (Instr.slice 23 (.slice a len cap) (some (.int .i64 l)) (some (.int .i64 h)) none).run Try.prog w = .ok (.slice (subA a cap l.toNat) (h.toNat - l.toNat) (cap - l.toNat)) w := by
  rw [run_slice_lh w 23 a len cap (by kernel_rfl) .i64 .i64 l h h0 h1 h2]
  have hs : (sizeOf (Try.prog.elem 23)).run Try.prog w = .ok 1 w := by
    have he : Try.prog.elem 23 = 5 := by kernel_rfl
    rw [he]
    obtain ⟨i, hi, hz0, hz1, hz2⟩ := info_parts info_byte
    simp [sizeOf, typeInfo, hi, hz1]
  rw [hs]
  simp [Result.andThen, sliced_sub]
attribute [local go_sem high] slice8
theorem crcUpdate_nil (s : BitVec 32) : crcUpdate s [] = s := by unfold crcUpdate upd; simp

set_option maxRecDepth 100000 in
set_option maxHeartbeats 4000000 in
theorem crcPieces_walk (w : World) (s : BitVec 32) (a : Option Addr) (cap : Nat) (p : List UInt8) (hp : BytesAt w a p) (hl : p.length ≤ cap) (hc : cap ≤ 9223372036854775807)
    (a2 : Option Addr) (cap2 : Nat) (xs : List Int) (hxs : IntsAt w a2 xs) (hwf : ∀ x ∈ xs, -9223372036854775808 ≤ x ∧ x ≤ 9223372036854775807) (hl2 : xs.length ≤ cap2) (hc2 : cap2 ≤ 9223372036854775807) :
    Calls Try.prog 5 #[.int .u32 (v32 s : Int), .slice a p.length cap, .slice a2 xs.length cap2] w fun e w' => e = .returned (.bool true) ∧ Below w.heap.size w w' := by
  by_cases hbig : 65536 < p.length
  · go_enter Try.func5, Try.ntmps5
    go_wp2
    go_ret
    exact ⟨rfl, Below.refl _ _⟩
  · have hsm : p.length ≤ 65536 := by omega
    have HP : Hid (∀ x, Below w.heap.size w x → BytesAt x a p) := fun x hx => hp.below (Nat.le_refl _) hx
    have HX : Hid (∀ x, Below w.heap.size w x → IntsAt x a2 xs) := fun x hx => hxs.below (Nat.le_refl _) hx
    have hacc := Below.refl w.heap.size w
    obtain ⟨m, hm⟩ : ∃ m, m = min xs.length 60 := ⟨_, rfl⟩
    have hm1 : m ≤ xs.length := by omega
    have hm2 : m ≤ 60 := by omega
    have hm3 : xs.length ≤ m ∨ 60 ≤ m := by omega
    clear hm
    go_enter Try.func5, Try.ntmps5
    go_wp2_with (first
      | (go_at_call 9; with_reducible refine (of_any p a _ _ (HP.out _ hacc) (by omega)).mono ?_; rintro e w' ⟨rfl, hb'⟩; replace hacc := acc_call hacc hb' (Nat.le_refl _); clear hb')
      | (go_at_call 11; with_reducible refine (update_any s p a _ _ (HP.out _ hacc) (by omega)).mono ?_; rintro e w' ⟨rfl, hb'⟩; replace hacc := acc_call hacc hb' (Nat.le_refl _); clear hb'))
    go_loopw [9, 10, 11, 12, 13] (fun x y z t i wr => ∃ (k j : Nat), k ≤ m + 1 ∧ j ≤ p.length ∧ Hid (k = m + 1 → j = p.length) ∧ x = .int .u32 (v32 (crcOf (p.take j)) : Int) ∧ y = .int .u32 (v32 (crcUpdate s (p.take j)) : Int) ∧ z = .int .u32 (v32 (crcOf (p.take j)) : Int) ∧
        t = .int .i64 j ∧ i = .int .i64 k ∧ Below w.heap.size w wr) (fun _ _ _ _ i _ => m + 1 - (intOf i).toNat)
    case atStart => exact ⟨0, 0, by omega, by omega, fun h => by omega, by rw [List.take_zero, crcOf_nil]; rfl, by rw [List.take_zero, crcUpdate_nil], by rw [List.take_zero, crcOf_nil]; rfl, rfl, rfl, hacc⟩
    case round =>
      obtain ⟨k, j, hk, hj, hend, rfl, rfl, rfl, rfl, rfl, hbr⟩ := hrel
      clear hacc
      by_cases hlt : k < m + 1
      · by_cases hkm : k < m
        · have hkx : k < xs.length := by omega
          obtain ⟨b, off, rfl, hbs, hcx⟩ := (HX.out _ hbr).at k hkx
          obtain ⟨hx0, hx1⟩ := hwf _ (List.getElem_mem hkx)
          by_cases hcut : 0 ≤ xs[k] ∧ xs[k] < (p.length : Int) - (j : Int)
          · obtain ⟨hc0, hc1⟩ := hcut
            obtain ⟨N, hN⟩ : ∃ N : Nat, xs[k] = (N : Int) := ⟨xs[k].toNat, by omega⟩
            rw [hN] at hcx hx0 hx1 hc0 hc1
            have hsub : ∀ x, Below w.heap.size w x → BytesAt x (subA a cap j) ((p.drop j).take N) := fun x hx => (HP.out x hx).sub cap j N (by omega) hl
            obtain ⟨q, hqd⟩ : ∃ q, q = (p.drop j).take N := ⟨_, rfl⟩
            have hq : q.length = N := by rw [hqd]; simp; omega
            rw [← hqd] at hsub
            have hjn : p.take j ++ q = p.take (j + N) := by rw [hqd]; exact (List.take_add ..).symm
            have U : ∀ (s : BitVec 32) x, Below w.heap.size w x → Calls Try.prog 11 #[.int .u32 (v32 s : Int), .slice (subA a cap j) N (cap - j)] x fun e w' => e = .returned (.int .u32 (v32 (crcUpdate s q) : Int)) ∧ Below x.heap.size x w' := fun s x hx => by
              have := update_any s q (subA a cap j) (cap - j) x (hsub x hx) (by omega)
              rwa [hq] at this
            have O : ∀ x, Below w.heap.size w x → Calls Try.prog 9 #[.slice (subA a cap j) N (cap - j)] x fun e w' => e = .returned (.int .u32 (v32 (crcOf q) : Int)) ∧ Below x.heap.size x w' := fun x hx => by
              have := of_any q (subA a cap j) (cap - j) x (hsub x hx) (by omega)
              rwa [hq] at this
            have e1 : crcUpdate (crcOf (p.take j)) q = crcOf (p.take (j + N)) := by rw [← hjn]; unfold crcOf; rw [crcUpdate_append]
            have e2 : crcUpdate (crcUpdate s (p.take j)) q = crcUpdate s (p.take (j + N)) := by rw [← hjn, crcUpdate_append]
            have e3 : combine (crcOf (p.take j)) (crcOf q) N = crcOf (p.take (j + N)) := by rw [← hjn, crcOf_append, hq]
            have HU := Lib.hid U
            have HO := Lib.hid O
            clear U O hsub hqd hq hjn
            have hacc := Below.refl wr.heap.size wr
            have i0 : (0 : Int) ≤ (j : Int) := by omega
            have i1 : (j : Int) ≤ (j : Int) + (N : Int) := by omega
            have i2 : (j : Int) + (N : Int) ≤ (cap : Int) := by omega
            have hjN : j + N - j = N := by omega
            go_wp2_with (first
              | (go_at_call 11; with_reducible refine (HU.out _ _ (hbr.trans (hacc.mono hbr.size))).mono ?_; rintro e w' ⟨rfl, hb'⟩; replace hacc := acc_call hacc hb' (Nat.le_refl _); clear hb')
              | (go_at_call 9; with_reducible refine (HO.out _ (hbr.trans (hacc.mono hbr.size))).mono ?_; rintro e w' ⟨rfl, hb'⟩; replace hacc := acc_call hacc hb' (Nat.le_refl _); clear hb')
              | (go_at_call 15; with_reducible refine (combine_any _ _ _ _ (by omega) (by omega)).mono ?_; rintro e w' ⟨rfl, hb'⟩; replace hacc := acc_call hacc hb' (Nat.le_refl _); clear hb'))
            go_roundw
            case rel => exact ⟨k + 1, j + N, by omega, by omega, fun h => by omega, rfl, rfl, rfl, by go_num, by go_num, hbr.trans (hacc.mono hbr.size)⟩
            case measure => simp [intOf] <;> omega

          · obtain ⟨N, hN⟩ : ∃ N : Nat, (p.length : Int) - (j : Int) = (N : Int) := ⟨p.length - j, by omega⟩
            obtain ⟨x, hx⟩ : ∃ x, xs[k] = x := ⟨_, rfl⟩
            rw [hx] at hcx hx0 hx1 hcut
            have hor : x < 0 ∨ (N : Int) ≤ x := by omega
            clear hcut hx
            rcases hor with hxn | hxn
            all_goals
              have hsub : ∀ x, Below w.heap.size w x → BytesAt x (subA a cap j) ((p.drop j).take N) := fun x hx => (HP.out x hx).sub cap j N (by omega) hl
              obtain ⟨q, hqd⟩ : ∃ q, q = (p.drop j).take N := ⟨_, rfl⟩
              have hq : q.length = N := by rw [hqd]; simp; omega
              rw [← hqd] at hsub
              have hjn : p.take j ++ q = p.take (j + N) := by rw [hqd]; exact (List.take_add ..).symm
              have U : ∀ (s : BitVec 32) x, Below w.heap.size w x → Calls Try.prog 11 #[.int .u32 (v32 s : Int), .slice (subA a cap j) N (cap - j)] x fun e w' => e = .returned (.int .u32 (v32 (crcUpdate s q) : Int)) ∧ Below x.heap.size x w' := fun s x hx => by
                have := update_any s q (subA a cap j) (cap - j) x (hsub x hx) (by omega)
                rwa [hq] at this
              have O : ∀ x, Below w.heap.size w x → Calls Try.prog 9 #[.slice (subA a cap j) N (cap - j)] x fun e w' => e = .returned (.int .u32 (v32 (crcOf q) : Int)) ∧ Below x.heap.size x w' := fun x hx => by
                have := of_any q (subA a cap j) (cap - j) x (hsub x hx) (by omega)
                rwa [hq] at this
              have e1 : crcUpdate (crcOf (p.take j)) q = crcOf (p.take (j + N)) := by rw [← hjn]; unfold crcOf; rw [crcUpdate_append]
              have e2 : crcUpdate (crcUpdate s (p.take j)) q = crcUpdate s (p.take (j + N)) := by rw [← hjn, crcUpdate_append]
              have e3 : combine (crcOf (p.take j)) (crcOf q) N = crcOf (p.take (j + N)) := by rw [← hjn, crcOf_append, hq]
              have HU := Lib.hid U
              have HO := Lib.hid O
              clear U O hsub hqd hq hjn
              have i0 : (0 : Int) ≤ (j : Int) := by omega
              have i1 : (j : Int) ≤ (j : Int) + (N : Int) := by omega
              have i2 : (j : Int) + (N : Int) ≤ (cap : Int) := by omega
              have hjN : j + N - j = N := by omega
              have hacc := Below.refl wr.heap.size wr
              go_wp2_with (first
                | (go_at_call 11; with_reducible refine (HU.out _ _ (hbr.trans (hacc.mono hbr.size))).mono ?_; rintro e w' ⟨rfl, hb'⟩; replace hacc := acc_call hacc hb' (Nat.le_refl _); clear hb')
                | (go_at_call 9; with_reducible refine (HO.out _ (hbr.trans (hacc.mono hbr.size))).mono ?_; rintro e w' ⟨rfl, hb'⟩; replace hacc := acc_call hacc hb' (Nat.le_refl _); clear hb')
                | (go_at_call 15; with_reducible refine (combine_any _ _ _ _ (by omega) (by omega)).mono ?_; rintro e w' ⟨rfl, hb'⟩; replace hacc := acc_call hacc hb' (Nat.le_refl _); clear hb'))
              go_roundw
              case rel => exact ⟨k + 1, j + N, by omega, by omega, fun h => by omega, rfl, rfl, rfl, by go_num, by go_num, hbr.trans (hacc.mono hbr.size)⟩
              case measure => simp [intOf] <;> omega

        · obtain rfl : k = m := by omega
          obtain ⟨N, hN⟩ : ∃ N : Nat, (p.length : Int) - (j : Int) = (N : Int) := ⟨p.length - j, by omega⟩
          have hNj : j + N = p.length := by omega
          have HNj := Lib.hid hNj
          clear hNj
          rcases hm3 with hxl | hxl
          · have hxl2 : decide (k < xs.length) = false := by simp; omega
            have hsub : ∀ x, Below w.heap.size w x → BytesAt x (subA a cap j) ((p.drop j).take N) := fun x hx => (HP.out x hx).sub cap j N (by have := HNj.out; omega) hl
            obtain ⟨q, hqd⟩ : ∃ q, q = (p.drop j).take N := ⟨_, rfl⟩
            have hq : q.length = N := by rw [hqd, List.length_take, List.length_drop]; have := HNj.out; omega
            rw [← hqd] at hsub
            have hjn : p.take j ++ q = p.take (j + N) := by rw [hqd]; exact (List.take_add ..).symm
            have U : ∀ (s : BitVec 32) x, Below w.heap.size w x → Calls Try.prog 11 #[.int .u32 (v32 s : Int), .slice (subA a cap j) N (cap - j)] x fun e w' => e = .returned (.int .u32 (v32 (crcUpdate s q) : Int)) ∧ Below x.heap.size x w' := fun s x hx => by
              have := update_any s q (subA a cap j) (cap - j) x (hsub x hx) (by omega)
              rwa [hq] at this
            have O : ∀ x, Below w.heap.size w x → Calls Try.prog 9 #[.slice (subA a cap j) N (cap - j)] x fun e w' => e = .returned (.int .u32 (v32 (crcOf q) : Int)) ∧ Below x.heap.size x w' := fun x hx => by
              have := of_any q (subA a cap j) (cap - j) x (hsub x hx) (by omega)
              rwa [hq] at this
            have e1 : crcUpdate (crcOf (p.take j)) q = crcOf (p.take (j + N)) := by rw [← hjn]; unfold crcOf; rw [crcUpdate_append]
            have e2 : crcUpdate (crcUpdate s (p.take j)) q = crcUpdate s (p.take (j + N)) := by rw [← hjn, crcUpdate_append]
            have e3 : combine (crcOf (p.take j)) (crcOf q) N = crcOf (p.take (j + N)) := by rw [← hjn, crcOf_append, hq]
            have HU := Lib.hid U
            have HO := Lib.hid O
            clear U O hsub hqd hq hjn
            have i0 : (0 : Int) ≤ (j : Int) := by omega
            have i1 : (j : Int) ≤ (j : Int) + (N : Int) := by omega
            have i2 : (j : Int) + (N : Int) ≤ (cap : Int) := by have := HNj.out; omega
            have hjN : j + N - j = N := by omega
            have hacc := Below.refl wr.heap.size wr
            go_wp2_with (first
              | (go_at_call 11; with_reducible refine (HU.out _ _ (hbr.trans (hacc.mono hbr.size))).mono ?_; rintro e w' ⟨rfl, hb'⟩; replace hacc := acc_call hacc hb' (Nat.le_refl _); clear hb')
              | (go_at_call 9; with_reducible refine (HO.out _ (hbr.trans (hacc.mono hbr.size))).mono ?_; rintro e w' ⟨rfl, hb'⟩; replace hacc := acc_call hacc hb' (Nat.le_refl _); clear hb')
              | (go_at_call 15; with_reducible refine (combine_any _ _ _ _ (by omega) (by omega)).mono ?_; rintro e w' ⟨rfl, hb'⟩; replace hacc := acc_call hacc hb' (Nat.le_refl _); clear hb'))
            go_roundw
            case rel => exact ⟨k + 1, j + N, by omega, by omega, fun _ => HNj.out, rfl, rfl, rfl, by go_num, by go_num, hbr.trans (hacc.mono hbr.size)⟩
            case measure => simp [intOf] <;> omega
          · by_cases hkx : k < xs.length
            · have hxl2 : ¬ (k : Int) < 60 := by omega
              have hsub : ∀ x, Below w.heap.size w x → BytesAt x (subA a cap j) ((p.drop j).take N) := fun x hx => (HP.out x hx).sub cap j N (by have := HNj.out; omega) hl
              obtain ⟨q, hqd⟩ : ∃ q, q = (p.drop j).take N := ⟨_, rfl⟩
              have hq : q.length = N := by rw [hqd, List.length_take, List.length_drop]; have := HNj.out; omega
              rw [← hqd] at hsub
              have hjn : p.take j ++ q = p.take (j + N) := by rw [hqd]; exact (List.take_add ..).symm
              have U : ∀ (s : BitVec 32) x, Below w.heap.size w x → Calls Try.prog 11 #[.int .u32 (v32 s : Int), .slice (subA a cap j) N (cap - j)] x fun e w' => e = .returned (.int .u32 (v32 (crcUpdate s q) : Int)) ∧ Below x.heap.size x w' := fun s x hx => by
                have := update_any s q (subA a cap j) (cap - j) x (hsub x hx) (by omega)
                rwa [hq] at this
              have O : ∀ x, Below w.heap.size w x → Calls Try.prog 9 #[.slice (subA a cap j) N (cap - j)] x fun e w' => e = .returned (.int .u32 (v32 (crcOf q) : Int)) ∧ Below x.heap.size x w' := fun x hx => by
                have := of_any q (subA a cap j) (cap - j) x (hsub x hx) (by omega)
                rwa [hq] at this
              have e1 : crcUpdate (crcOf (p.take j)) q = crcOf (p.take (j + N)) := by rw [← hjn]; unfold crcOf; rw [crcUpdate_append]
              have e2 : crcUpdate (crcUpdate s (p.take j)) q = crcUpdate s (p.take (j + N)) := by rw [← hjn, crcUpdate_append]
              have e3 : combine (crcOf (p.take j)) (crcOf q) N = crcOf (p.take (j + N)) := by rw [← hjn, crcOf_append, hq]
              have HU := Lib.hid U
              have HO := Lib.hid O
              clear U O hsub hqd hq hjn
              have i0 : (0 : Int) ≤ (j : Int) := by omega
              have i1 : (j : Int) ≤ (j : Int) + (N : Int) := by omega
              have i2 : (j : Int) + (N : Int) ≤ (cap : Int) := by have := HNj.out; omega
              have hjN : j + N - j = N := by omega
              have hacc := Below.refl wr.heap.size wr
              go_wp2_with (first
                | (go_at_call 11; with_reducible refine (HU.out _ _ (hbr.trans (hacc.mono hbr.size))).mono ?_; rintro e w' ⟨rfl, hb'⟩; replace hacc := acc_call hacc hb' (Nat.le_refl _); clear hb')
                | (go_at_call 9; with_reducible refine (HO.out _ (hbr.trans (hacc.mono hbr.size))).mono ?_; rintro e w' ⟨rfl, hb'⟩; replace hacc := acc_call hacc hb' (Nat.le_refl _); clear hb')
                | (go_at_call 15; with_reducible refine (combine_any _ _ _ _ (by omega) (by omega)).mono ?_; rintro e w' ⟨rfl, hb'⟩; replace hacc := acc_call hacc hb' (Nat.le_refl _); clear hb'))
              go_roundw
              case rel => exact ⟨k + 1, j + N, by omega, by omega, fun _ => HNj.out, rfl, rfl, rfl, by go_num, by go_num, hbr.trans (hacc.mono hbr.size)⟩
              case measure => simp [intOf] <;> omega
            · have hxl2 : decide (k < xs.length) = false := by simp; omega
              have hsub : ∀ x, Below w.heap.size w x → BytesAt x (subA a cap j) ((p.drop j).take N) := fun x hx => (HP.out x hx).sub cap j N (by have := HNj.out; omega) hl
              obtain ⟨q, hqd⟩ : ∃ q, q = (p.drop j).take N := ⟨_, rfl⟩
              have hq : q.length = N := by rw [hqd, List.length_take, List.length_drop]; have := HNj.out; omega
              rw [← hqd] at hsub
              have hjn : p.take j ++ q = p.take (j + N) := by rw [hqd]; exact (List.take_add ..).symm
              have U : ∀ (s : BitVec 32) x, Below w.heap.size w x → Calls Try.prog 11 #[.int .u32 (v32 s : Int), .slice (subA a cap j) N (cap - j)] x fun e w' => e = .returned (.int .u32 (v32 (crcUpdate s q) : Int)) ∧ Below x.heap.size x w' := fun s x hx => by
                have := update_any s q (subA a cap j) (cap - j) x (hsub x hx) (by omega)
                rwa [hq] at this
              have O : ∀ x, Below w.heap.size w x → Calls Try.prog 9 #[.slice (subA a cap j) N (cap - j)] x fun e w' => e = .returned (.int .u32 (v32 (crcOf q) : Int)) ∧ Below x.heap.size x w' := fun x hx => by
                have := of_any q (subA a cap j) (cap - j) x (hsub x hx) (by omega)
                rwa [hq] at this
              have e1 : crcUpdate (crcOf (p.take j)) q = crcOf (p.take (j + N)) := by rw [← hjn]; unfold crcOf; rw [crcUpdate_append]
              have e2 : crcUpdate (crcUpdate s (p.take j)) q = crcUpdate s (p.take (j + N)) := by rw [← hjn, crcUpdate_append]
              have e3 : combine (crcOf (p.take j)) (crcOf q) N = crcOf (p.take (j + N)) := by rw [← hjn, crcOf_append, hq]
              have HU := Lib.hid U
              have HO := Lib.hid O
              clear U O hsub hqd hq hjn
              have i0 : (0 : Int) ≤ (j : Int) := by omega
              have i1 : (j : Int) ≤ (j : Int) + (N : Int) := by omega
              have i2 : (j : Int) + (N : Int) ≤ (cap : Int) := by have := HNj.out; omega
              have hjN : j + N - j = N := by omega
              have hacc := Below.refl wr.heap.size wr
              go_wp2_with (first
                | (go_at_call 11; with_reducible refine (HU.out _ _ (hbr.trans (hacc.mono hbr.size))).mono ?_; rintro e w' ⟨rfl, hb'⟩; replace hacc := acc_call hacc hb' (Nat.le_refl _); clear hb')
                | (go_at_call 9; with_reducible refine (HO.out _ (hbr.trans (hacc.mono hbr.size))).mono ?_; rintro e w' ⟨rfl, hb'⟩; replace hacc := acc_call hacc hb' (Nat.le_refl _); clear hb')
                | (go_at_call 15; with_reducible refine (combine_any _ _ _ _ (by omega) (by omega)).mono ?_; rintro e w' ⟨rfl, hb'⟩; replace hacc := acc_call hacc hb' (Nat.le_refl _); clear hb'))
              go_roundw
              case rel => exact ⟨k + 1, j + N, by omega, by omega, fun _ => HNj.out, rfl, rfl, rfl, by go_num, by go_num, hbr.trans (hacc.mono hbr.size)⟩
              case measure => simp [intOf] <;> omega
      · obtain rfl : k = m + 1 := by omega
        obtain rfl : j = p.length := hend.out rfl
        rw [List.take_length, show ((m + 1 : Nat) : Int) = (m : Int) + 1 by omega]
        have hcase : (¬ ((m : Int) + 1 ≤ (xs.length : Int)) ∧ True) ∨ (m + 1 ≤ xs.length ∧ ¬ (m : Int) + 1 ≤ 60) := by
          rcases hm3 with h | h
          · exact Or.inl ⟨by omega, trivial⟩
          · by_cases h2 : m + 1 ≤ xs.length
            · exact Or.inr ⟨h2, by omega⟩
            · exact Or.inl ⟨by omega, trivial⟩
        rcases hcase with ⟨ht1, ht2⟩ | ⟨ht1, ht2⟩
        all_goals
          go_upto_block 2 with fail
          clear ht1 ht2
          refine wp_block ?_
          go_loopw [0, 16] (fun x i wr => ∃ k : Nat, k ≤ p.length ∧ k ≤ 300 ∧ i = .int .i64 k ∧ x = .int .u32 (v32 (crcUpdate s (p.take k)) : Int) ∧ Below w.heap.size w wr) (fun _ i _ => p.length - (intOf i).toNat)
          case atStart => exact ⟨0, by omega, by omega, rfl, by rw [List.take_zero, crcUpdate_nil], hbr⟩
          case round =>
            clear hbr
            obtain ⟨k, hk1, hk2, rfl, rfl, hbr⟩ := hrel
            by_cases hgo : k < p.length ∧ k < 300
            · obtain ⟨hg1, hg2⟩ := hgo
              have hsub : BytesAt wr (subA a cap k) [p[k]] := by
                have := (HP.out _ hbr).sub cap k 1 (by omega) hl
                rwa [show (p.drop k).take 1 = [p[k]] by rw [List.drop_eq_getElem_cons hg1]; rfl] at this
              have U := update_any (crcUpdate s (p.take k)) [p[k]] (subA a cap k) (cap - k) wr hsub (by simp)
              rw [show ([p[k]] : List UInt8).length = 1 from rfl] at U
              have e2 : crcUpdate (crcUpdate s (p.take k)) [p[k]] = crcUpdate s (p.take (k + 1)) := by rw [List.take_succ_eq_append_getElem hg1, crcUpdate_append]
              rw [e2] at U
              have HU := Lib.hid U
              have i0 : (0 : Int) ≤ (k : Int) := by omega
              have i1 : (k : Int) ≤ (k : Int) + 1 := by omega
              have i2 : (k : Int) + 1 ≤ (cap : Int) := by omega
              clear U e2 hsub
              go_wp2_with (go_at_call 11; with_reducible refine HU.out.mono ?_; rintro e w' ⟨rfl, hb'⟩)
              go_roundw
              case rel => exact ⟨k + 1, by omega, by omega, by go_num, rfl, hbr.trans (hb'.mono hbr.size)⟩
              case measure => simp [intOf] <;> omega
            · have hor : (300 < p.length ∧ k = 300) ∨ (¬ 300 < p.length ∧ k = p.length) := by omega
              rcases hor with ⟨hp3, hk3⟩ | ⟨hp3, hk3⟩
              · have hp3' : (300 : Int) < (p.length : Int) := by omega
                have hk4 : ¬ (k : Int) < 300 := by omega
                have hk5 : (k : Int) < (p.length : Int) := by omega
                clear hk3 hgo
                go_wp2_with (go_at_call 14; with_reducible refine (known_any _).mono ?_; rintro e w' ⟨rfl, hb'⟩)
                go_ret
                exact ⟨rfl, hbr.trans (hb'.mono hbr.size)⟩
              · subst hk3
                have hp3' : ¬ (300 : Int) < (p.length : Int) := by omega
                clear hgo
                rw [List.take_length]
                go_wp2_with (go_at_call 14; with_reducible refine (known_any _).mono ?_; rintro e w' ⟨rfl, hb'⟩)
                go_ret
                exact ⟨rfl, hbr.trans (hb'.mono hbr.size)⟩
end Go.Proofs.Ytflonblpfkfpnaa
