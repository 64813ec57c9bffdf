/- The walk of the law CrcTurns, one of four cases: which of the three lists is the shortest. -/
import Derived.Test.YtflonblpfkfpnaaCrcLe
import Derived.Deep.DeepCutAuto
import Derived.Deep.CutBlock
namespace Go.Proofs.Ytflonblpfkfpnaa
set_option linter.unusedVariables false
set_option linter.unusedSimpArgs false
open Go.RowKit
attribute [local go_sem] x8 x32 eq32 ne32 subA_zero

set_option maxRecDepth 100000 in
set_option maxHeartbeats 4000000 in
theorem crcTurns_c3 (w : World) (ax : Option Addr) (cx : Nat) (x : List UInt8) (HX : Hid (∀ q, Below w.heap.size w q → BytesAt q ax x)) (hcx : cx ≤ 9223372036854775807)
    (ay : Option Addr) (cy : Nat) (y : List UInt8) (HY : Hid (∀ q, Below w.heap.size w q → BytesAt q ay y)) (hcy : cy ≤ 9223372036854775807)
    (az : Option Addr) (cz : Nat) (z : List UInt8) (HZ : Hid (∀ q, Below w.heap.size w q → BytesAt q az z)) (hcz : cz ≤ 9223372036854775807)
    (at0 : Int) (hat0 : -9223372036854775808 ≤ at0) (hat1 : at0 ≤ 9223372036854775807) (X Y Z : Nat) (HLX : Hid (x.length = X)) (HLY : Hid (y.length = Y)) (HLZ : Hid (z.length = Z))
    (hlx : X ≤ cx) (hly : Y ≤ cy) (hlz : Z ≤ cz) (hcase : Y < X ∧ ¬ Z < Y) :
    Calls Try.prog 7 #[.slice ax X cx, .slice ay Y cy, .slice az Z cz, .int .i64 at0] w fun e w' => e = .returned (.bool true) ∧ Below w.heap.size w w' := by
  obtain ⟨h1, h2⟩ := hcase
  go_enter Try.func7, Try.ntmps7
  obtain ⟨N, hN⟩ : ∃ N, N = Y := ⟨_, rfl⟩
  subst hN
  have hNX : N ≤ x.length := by rw [HLX.out]; omega
  have hNY : N ≤ y.length := by rw [HLY.out]; omega
  have hNZ : N ≤ z.length := by rw [HLZ.out]; omega
  go_upto_region 6 with fail
  by_cases hbig : 65536 < N
  · go_wp2
    go_ret
    exact ⟨rfl, Below.refl _ _⟩
  · have hsm : N ≤ 65536 := by omega
    have hmk := make_bytes w N (by omega)
    rw [← fill3_zero x y z N] at hmk
    go_upto_block 0 with fail
    refine wp_block ?_
    clear hmk
    have hg0 : (w.alloc (.cells (bV (fill3 x y z N 0)) 5)).heap[w.heap.size]? = some (.cells (bV (fill3 x y z N 0)) 5 (0, 0)) := heap_alloc_new _ _
    have hb0 : Below w.heap.size w (w.alloc (.cells (bV (fill3 x y z N 0)) 5)) := (Below.refl _ _).alloc (Nat.le_refl _) _
    generalize (w.alloc (.cells (bV (fill3 x y z N 0)) 5)) = w1 at hg0 hb0
    go_loopw [11] (fun i wr => ∃ k : Nat, k ≤ N ∧ i = .int .i64 k ∧ wr.heap[w.heap.size]? = some (.cells (bV (fill3 x y z N k)) 5 (0, 0)) ∧ Below w.heap.size w wr) (fun i _ => N - (intOf i).toNat)
    case atStart => exact ⟨0, by omega, rfl, hg0, hb0⟩
    case round =>
      clear hg0 hb0
      obtain ⟨k, hk, rfl, hg, hb⟩ := hrel
      by_cases hlt : k < N
      · have hxl : k < x.length := by omega
        have hyl : k < y.length := by omega
        have hzl : k < z.length := by omega
        obtain ⟨b1, o1, rfl, hs1, hc1⟩ := (HX.out _ hb).split (by intro e; rw [e] at hxl; simp at hxl)
        obtain ⟨b2, o2, rfl, hs2, hc2⟩ := (HY.out _ hb).split (by intro e; rw [e] at hyl; simp at hyl)
        obtain ⟨b3, o3, rfl, hs3, hc3⟩ := (HZ.out _ hb).split (by intro e; rw [e] at hzl; simp at hzl)
        have q1 : ∀ u : InC (Below wr.heap.size wr), u.val.cell? ⟨b1, o1 + k, none⟩ = some (.int .u8 (v8 x[k] : Int)) := fun u => (u.property.cell (p := ⟨b1, o1 + k, none⟩) hs1).trans (hc1 k hxl)
        have q2 : ∀ u : InC (Below wr.heap.size wr), u.val.cell? ⟨b2, o2 + k, none⟩ = some (.int .u8 (v8 y[k] : Int)) := fun u => (u.property.cell (p := ⟨b2, o2 + k, none⟩) hs2).trans (hc2 k hyl)
        have q3 : ∀ u : InC (Below wr.heap.size wr), u.val.cell? ⟨b3, o3 + k, none⟩ = some (.int .u8 (v8 z[k] : Int)) := fun u => (u.property.cell (p := ⟨b3, o3 + k, none⟩) hs3).trans (hc3 k hzl)
        have hg3 : x[k] ^^^ y[k] ^^^ z[k] = g3 x y z k := by simp [g3, hxl, hyl, hzl]
        have i0 : (0 : Int) ≤ (k : Int) := by omega
        have i1 : (k : Int) < (N : Int) := by omega
        have i2 : (k : Int) < (X : Int) := by have := HLX.out; omega
        have i3 : (k : Int) < (N : Int) := by have := HLY.out; omega
        have i4 : (k : Int) < (Z : Int) := by have := HLZ.out; omega
        have hbw := blk_lt hg
        clear hc1 hc2 hc3
        have hne : Nonempty (InC (Below wr.heap.size wr)) := ⟨⟨wr, Below.refl _ _⟩⟩
        go_wp2_with fail
        refine region_tail (Cls (Below wr.heap.size wr)) 17 (by kernel_rfl) (by kernel_rfl) (cls_in (Below.refl _ _).drew) ?_
        simp only [List.take_succ_cons, List.take_zero, List.drop_succ_cons, List.drop_zero]
        repeat quiet_step (fail)
        refine wpQuiet_nil ?_
        rintro w2 ⟨⟨w3, hb2⟩, hw⟩
        obtain rfl : w2 = w3 := hw
        clear q1 q2 q3 hne
        have hg2 : w2.heap[w.heap.size]? = some (.cells (bV (fill3 x y z N k)) 5 (0, 0)) := by rw [hb2.block _ hbw]; exact hg
        have c2 : w2.cell? ⟨w.heap.size, k, none⟩ = some (.int .u8 (((fill3 x y z N k)[k]'(by rw [fill3_length]; exact hlt)).toNat : Int)) := blk_cell hg2 (bV_get _ k (by rw [fill3_length]; exact hlt))
        have f2 : w2.frozen? ⟨w.heap.size, k, none⟩ = false := blk_free hg2
        have G2 := Lib.hid hg2
        clear hg2 hg
        go_wp2
        go_roundw
        case rel => exact ⟨k + 1, by omega, by go_num, by rw [blk_set G2.out, bV_set8, fill3_set], (hb.trans (hb2.mono hb.size)).setCell (Nat.le_refl _) _⟩
        case measure => simp [intOf] <;> omega
      · obtain rfl : k = N := by omega
        have hthree := crc_three x y z k hNX hNY hNZ
        obtain ⟨fl, hfl⟩ : ∃ fl, fl = fill3 x y z k k := ⟨_, rfl⟩
        have hfll : fl.length = k := by rw [hfl, fill3_length]
        rw [← hfl] at hg hthree
        have HFL := Lib.hid hfll
        clear hfl hfll hlt hk
        go_upto_region 13 with fail
        have hbw := blk_lt hg
        have qx : ∀ u : InC (Below wr.heap.size wr), Calls Try.prog 9 #[.slice ax k cx] u.val fun e w'' => e = .returned (.int .u32 (v32 (crcOf (x.take k)) : Int)) ∧ ∃ y : InC (Below wr.heap.size wr), w'' = y.val := fun u => by
          have := of_any (x.take k) ax cx u.val ((HX.out _ (hb.trans (u.property.mono hb.size))).take k) (by simp; omega)
          rw [List.length_take, Nat.min_eq_left hNX] at this
          exact cls_call (this.mono fun e w' ⟨he, hb'⟩ => ⟨he, u.property.trans (hb'.mono u.property.size)⟩)
        have qy : ∀ u : InC (Below wr.heap.size wr), Calls Try.prog 9 #[.slice ay k cy] u.val fun e w'' => e = .returned (.int .u32 (v32 (crcOf (y.take k)) : Int)) ∧ ∃ y : InC (Below wr.heap.size wr), w'' = y.val := fun u => by
          have := of_any (y.take k) ay cy u.val ((HY.out _ (hb.trans (u.property.mono hb.size))).take k) (by simp; omega)
          rw [List.length_take, Nat.min_eq_left hNY] at this
          exact cls_call (this.mono fun e w' ⟨he, hb'⟩ => ⟨he, u.property.trans (hb'.mono u.property.size)⟩)
        have qz : ∀ u : InC (Below wr.heap.size wr), Calls Try.prog 9 #[.slice az k cz] u.val fun e w'' => e = .returned (.int .u32 (v32 (crcOf (z.take k)) : Int)) ∧ ∃ y : InC (Below wr.heap.size wr), w'' = y.val := fun u => by
          have := of_any (z.take k) az cz u.val ((HZ.out _ (hb.trans (u.property.mono hb.size))).take k) (by simp; omega)
          rw [List.length_take, Nat.min_eq_left hNZ] at this
          exact cls_call (this.mono fun e w' ⟨he, hb'⟩ => ⟨he, u.property.trans (hb'.mono u.property.size)⟩)
        have qw : ∀ u : InC (Below wr.heap.size wr), Calls Try.prog 9 #[.slice (some ⟨w.heap.size, 0, none⟩) k k] u.val fun e w'' => e = .returned (.int .u32 (v32 (crcOf fl) : Int)) ∧ ∃ y : InC (Below wr.heap.size wr), w'' = y.val := fun u => by
          have := of_any fl (some ⟨w.heap.size, 0, none⟩) k u.val ((bytesAt_bV hg).below (Nat.le_refl _) u.property) (by have := HFL.out; omega)
          rw [HFL.out] at this
          exact cls_call (this.mono fun e w' ⟨he, hb'⟩ => ⟨he, u.property.trans (hb'.mono u.property.size)⟩)
        have i0 : (0 : Int) ≤ (k : Int) := by omega
        have i2 : (k : Int) ≤ (cx : Int) := by have := HLX.out; omega
        have i3 : (k : Int) ≤ (cy : Int) := by have := HLY.out; omega
        have i4 : (k : Int) ≤ (cz : Int) := by have := HLZ.out; omega
        have hne : Nonempty (InC (Below wr.heap.size wr)) := ⟨⟨wr, Below.refl _ _⟩⟩
        refine region_quiet (Cls (Below wr.heap.size wr)) (by kernel_rfl) (by kernel_rfl) (cls_in (Below.refl _ _).drew) ?_
        repeat quiet_step ((first | exact qx _ | exact qy _ | exact qz _ | exact qw _))
        refine wpQuiet_nil ?_
        rintro w2 ⟨⟨w3, hb2⟩, hw⟩
        obtain rfl : w2 = w3 := hw
        clear qx qy qz qw hne
        have hg2 : w2.heap[w.heap.size]? = some (.cells (bV fl) 5 (0, 0)) := by rw [hb2.block _ hbw]; exact hg
        have hbb := hb.trans (hb2.mono hb.size)
        clear hg hb hb2 hthree hbw
        by_cases h5 : k < 5
        · go_wp2_with (go_at_call 14; with_reducible refine (known_any _).mono ?_; rintro e w' ⟨rfl, hb'⟩)
          go_ret
          exact ⟨rfl, hbb.trans (hb'.mono hbb.size)⟩
        · have h5' : 5 ≤ k := by omega
          clear h5
          obtain ⟨r, hr⟩ : ∃ r, at0.tmod ((k : Int) - 4) = r := ⟨_, rfl⟩
          have hr1 : r < (k : Int) - 4 := by rw [← hr]; exact Int.tmod_lt_of_pos _ (by omega)
          have hr2 : -((k : Int) - 4) < r := by rw [← hr]; exact tmod_gt _ _ (by omega)
          have hAr : (0 ≤ r ∧ ∃ A : Nat, r = (A : Int)) ∨ (r < 0 ∧ ∃ A : Nat, r + (k : Int) - 4 = (A : Int)) := by
            by_cases h : 0 ≤ r
            · exact Or.inl ⟨h, r.toNat, by omega⟩
            · exact Or.inr ⟨by omega, (r + (k : Int) - 4).toNat, by omega⟩
          rcases hAr with ⟨hs, A, hA⟩ | ⟨hs, A, hA⟩
          all_goals
            have hA5 : A + 5 ≤ k := by omega
            first
              | subst hA
              | skip
            go_upto_block 2 with fail
            clear hr hr1 hr2 hs
            try clear hA
            refine wp_block ?_
            go_loopw [12] (fun i wr => ∃ j : Nat, j ≤ 5 ∧ i = .int .i64 j ∧ wr.heap[w.heap.size]? = some (.cells (bV (over fl A (List.replicate j 0))) 5 (0, 0)) ∧ Below w.heap.size w wr) (fun i _ => 5 - (intOf i).toNat)
            case atStart => exact ⟨0, by omega, rfl, by rw [List.replicate_zero, over_nil]; exact hg2, hbb⟩
            case round =>
              clear hg2 hbb
              obtain ⟨j, hj, rfl, hg, hb⟩ := hrel
              by_cases hlt : j < 5
              · have hAj : A + (List.replicate j (0 : UInt8)).length < fl.length := by have := HFL.out; simp; omega
                have hol : (over fl A (List.replicate j 0)).length = fl.length := over_length _ _ _ (by omega)
                obtain ⟨v0, c2⟩ : ∃ v, wr.cell? ⟨w.heap.size, A + j, none⟩ = some v := ⟨_, blk_cell hg (bV_get (over fl A (List.replicate j 0)) (A + j) (by rw [hol]; simpa using hAj))⟩
                have f2 : wr.frozen? ⟨w.heap.size, A + j, none⟩ = false := blk_free hg
                have hset : (over fl A (List.replicate j 0)).set (A + j) 0 = over fl A (List.replicate (j + 1) 0) := by
                  have := over_snoc fl A (List.replicate j 0) 0 hAj
                  rwa [List.length_replicate, ← List.replicate_succ'] at this
                have i0 : (0 : Int) ≤ (A : Int) + (j : Int) := by omega
                have i1 : (A : Int) + (j : Int) < (k : Int) := by omega
                have G := Lib.hid hg
                have HS := Lib.hid hset
                clear hg hset hol hAj
                go_wp2
                go_roundw
                case rel => exact ⟨j + 1, by omega, by go_num, by rw [blk_set G.out, bV_set0, HS.out], hb.setCell (Nat.le_refl _) _⟩
                case measure => simp [intOf] <;> omega
              · obtain rfl : j = 5 := by omega
                rw [show ((5 : Nat) : Int) = 5 from rfl]
                have hol : (over fl A (List.replicate 5 0)).length = k := by rw [over_length _ _ _ (by have := HFL.out; simp; omega)]; exact HFL.out
                have O := of_any (over fl A (List.replicate 5 0)) (some ⟨w.heap.size, 0, none⟩) k wr (bytesAt_bV hg) (by rw [hol]; omega)
                rw [hol] at O
                have HO := Lib.hid O
                have HOL := Lib.hid hol
                clear O hol
                go_upto_block 4 with (go_at_call 9; with_reducible refine HO.out.mono ?_; rintro e w' ⟨rfl, hb'⟩)
                have hbb2 := hb.trans (hb'.mono hb.size)
                have hg3 : w'.heap[w.heap.size]? = some (.cells (bV (over fl A (List.replicate 5 0))) 5 (0, 0)) := by rw [hb'.block _ (blk_lt hg)]; exact hg
                clear hb hb' hg
                obtain ⟨F5, hF5⟩ : ∃ F5, F5 = over fl A (List.replicate 5 0) := ⟨_, rfl⟩
                have hov : over F5 A pattern = over fl A pattern := by rw [hF5]; exact over_over fl A _ _ (by have := HFL.out; simp; omega) rfl
                rw [← hF5] at hg3
                have HF5 := Lib.hid hF5
                have HOV := Lib.hid hov
                have HLF : Hid (F5.length = k) := by rw [hF5]; exact HOL.out
                clear hF5 hov
                have ix0 : ∀ w : World, (Instr.index 35 (.agg #[.int .u8 241, .int .u8 118, .int .u8 236, .int .u8 5, .int .u8 1]) (.int .i64 0)).run Try.prog w = .ok (.int .u8 241) w := fun _ => by kernel_rfl
                have ix1 : ∀ w : World, (Instr.index 35 (.agg #[.int .u8 241, .int .u8 118, .int .u8 236, .int .u8 5, .int .u8 1]) (.int .i64 1)).run Try.prog w = .ok (.int .u8 118) w := fun _ => by kernel_rfl
                have ix2 : ∀ w : World, (Instr.index 35 (.agg #[.int .u8 241, .int .u8 118, .int .u8 236, .int .u8 5, .int .u8 1]) (.int .i64 2)).run Try.prog w = .ok (.int .u8 236) w := fun _ => by kernel_rfl
                have ix3 : ∀ w : World, (Instr.index 35 (.agg #[.int .u8 241, .int .u8 118, .int .u8 236, .int .u8 5, .int .u8 1]) (.int .i64 3)).run Try.prog w = .ok (.int .u8 5) w := fun _ => by kernel_rfl
                have ix4 : ∀ w : World, (Instr.index 35 (.agg #[.int .u8 241, .int .u8 118, .int .u8 236, .int .u8 5, .int .u8 1]) (.int .i64 4)).run Try.prog w = .ok (.int .u8 1) w := fun _ => by kernel_rfl
                refine wp_block ?_
                go_loopw [98] (fun i wr => ∃ j : Nat, j ≤ 5 ∧ i = .int .i64 j ∧ wr.heap[w.heap.size]? = some (.cells (bV (over F5 A (pattern.take j))) 5 (0, 0)) ∧ Below w.heap.size w wr) (fun i _ => 5 - (intOf i).toNat)
                case atStart => exact ⟨0, by omega, rfl, by rw [List.take_zero, over_nil]; exact hg3, hbb2⟩
                case round =>
                  clear hg3 hbb2
                  obtain ⟨j, hj, rfl, hg, hb⟩ := hrel
                  have hj5 : j = 0 ∨ j = 1 ∨ j = 2 ∨ j = 3 ∨ j = 4 ∨ j = 5 := by omega
                  rcases hj5 with rfl | rfl | rfl | rfl | rfl | rfl
                  · have hAj : A + (pattern.take 0).length < F5.length := by rw [HLF.out]; simp [pattern]; omega
                    have hol : (over F5 A (pattern.take 0)).length = k := by rw [over_length _ _ _ (by omega)]; exact HLF.out
                    obtain ⟨v0, c2⟩ : ∃ v, wr.cell? ⟨w.heap.size, A, none⟩ = some v := ⟨_, blk_cell hg (bV_get (over F5 A (pattern.take 0)) A (by rw [hol]; omega))⟩
                    have f2 : wr.frozen? ⟨w.heap.size, A, none⟩ = false := blk_free hg
                    have hset : (over F5 A (pattern.take 0)).set A 241 = over F5 A (pattern.take 1) := over_snoc F5 A (pattern.take 0) 241 hAj
                    have i0 : (0 : Int) ≤ (A : Int) := by omega
                    have i1 : (A : Int) < (k : Int) := by omega
                    have hbs : (bV (over F5 A (pattern.take 0))).setIfInBounds A (.int .u8 241) = bV (over F5 A (pattern.take 1)) := by rw [← hset]; exact bV_set _ _ 241
                    have G := Lib.hid hg
                    have HS := Lib.hid hbs
                    clear hg hset hol hAj hbs
                    go_wp2
                    go_roundw
                    case rel => exact ⟨1, by omega, rfl, by rw [blk_set G.out, HS.out], hb.setCell (Nat.le_refl _) _⟩
                    case measure => simp [intOf] <;> omega
                  · have hAj : A + (pattern.take 1).length < F5.length := by rw [HLF.out]; simp [pattern]; omega
                    have hol : (over F5 A (pattern.take 1)).length = k := by rw [over_length _ _ _ (by omega)]; exact HLF.out
                    obtain ⟨v0, c2⟩ : ∃ v, wr.cell? ⟨w.heap.size, A + 1, none⟩ = some v := ⟨_, blk_cell hg (bV_get (over F5 A (pattern.take 1)) (A + 1) (by rw [hol]; omega))⟩
                    have f2 : wr.frozen? ⟨w.heap.size, A + 1, none⟩ = false := blk_free hg
                    have hset : (over F5 A (pattern.take 1)).set (A + 1) 118 = over F5 A (pattern.take 2) := over_snoc F5 A (pattern.take 1) 118 hAj
                    have i0 : (0 : Int) ≤ (A : Int) + (1 : Int) := by omega
                    have i1 : (A : Int) + (1 : Int) < (k : Int) := by omega
                    have hbs : (bV (over F5 A (pattern.take 1))).setIfInBounds (A + 1) (.int .u8 118) = bV (over F5 A (pattern.take 2)) := by rw [← hset]; exact bV_set _ _ 118
                    have G := Lib.hid hg
                    have HS := Lib.hid hbs
                    clear hg hset hol hAj hbs
                    go_wp2
                    go_roundw
                    case rel => exact ⟨2, by omega, rfl, by rw [blk_set G.out, HS.out], hb.setCell (Nat.le_refl _) _⟩
                    case measure => simp [intOf] <;> omega
                  · have hAj : A + (pattern.take 2).length < F5.length := by rw [HLF.out]; simp [pattern]; omega
                    have hol : (over F5 A (pattern.take 2)).length = k := by rw [over_length _ _ _ (by omega)]; exact HLF.out
                    obtain ⟨v0, c2⟩ : ∃ v, wr.cell? ⟨w.heap.size, A + 2, none⟩ = some v := ⟨_, blk_cell hg (bV_get (over F5 A (pattern.take 2)) (A + 2) (by rw [hol]; omega))⟩
                    have f2 : wr.frozen? ⟨w.heap.size, A + 2, none⟩ = false := blk_free hg
                    have hset : (over F5 A (pattern.take 2)).set (A + 2) 236 = over F5 A (pattern.take 3) := over_snoc F5 A (pattern.take 2) 236 hAj
                    have i0 : (0 : Int) ≤ (A : Int) + (2 : Int) := by omega
                    have i1 : (A : Int) + (2 : Int) < (k : Int) := by omega
                    have hbs : (bV (over F5 A (pattern.take 2))).setIfInBounds (A + 2) (.int .u8 236) = bV (over F5 A (pattern.take 3)) := by rw [← hset]; exact bV_set _ _ 236
                    have G := Lib.hid hg
                    have HS := Lib.hid hbs
                    clear hg hset hol hAj hbs
                    go_wp2
                    go_roundw
                    case rel => exact ⟨3, by omega, rfl, by rw [blk_set G.out, HS.out], hb.setCell (Nat.le_refl _) _⟩
                    case measure => simp [intOf] <;> omega
                  · have hAj : A + (pattern.take 3).length < F5.length := by rw [HLF.out]; simp [pattern]; omega
                    have hol : (over F5 A (pattern.take 3)).length = k := by rw [over_length _ _ _ (by omega)]; exact HLF.out
                    obtain ⟨v0, c2⟩ : ∃ v, wr.cell? ⟨w.heap.size, A + 3, none⟩ = some v := ⟨_, blk_cell hg (bV_get (over F5 A (pattern.take 3)) (A + 3) (by rw [hol]; omega))⟩
                    have f2 : wr.frozen? ⟨w.heap.size, A + 3, none⟩ = false := blk_free hg
                    have hset : (over F5 A (pattern.take 3)).set (A + 3) 5 = over F5 A (pattern.take 4) := over_snoc F5 A (pattern.take 3) 5 hAj
                    have i0 : (0 : Int) ≤ (A : Int) + (3 : Int) := by omega
                    have i1 : (A : Int) + (3 : Int) < (k : Int) := by omega
                    have hbs : (bV (over F5 A (pattern.take 3))).setIfInBounds (A + 3) (.int .u8 5) = bV (over F5 A (pattern.take 4)) := by rw [← hset]; exact bV_set _ _ 5
                    have G := Lib.hid hg
                    have HS := Lib.hid hbs
                    clear hg hset hol hAj hbs
                    go_wp2
                    go_roundw
                    case rel => exact ⟨4, by omega, rfl, by rw [blk_set G.out, HS.out], hb.setCell (Nat.le_refl _) _⟩
                    case measure => simp [intOf] <;> omega
                  · have hAj : A + (pattern.take 4).length < F5.length := by rw [HLF.out]; simp [pattern]; omega
                    have hol : (over F5 A (pattern.take 4)).length = k := by rw [over_length _ _ _ (by omega)]; exact HLF.out
                    obtain ⟨v0, c2⟩ : ∃ v, wr.cell? ⟨w.heap.size, A + 4, none⟩ = some v := ⟨_, blk_cell hg (bV_get (over F5 A (pattern.take 4)) (A + 4) (by rw [hol]; omega))⟩
                    have f2 : wr.frozen? ⟨w.heap.size, A + 4, none⟩ = false := blk_free hg
                    have hset : (over F5 A (pattern.take 4)).set (A + 4) 1 = over F5 A (pattern.take 5) := over_snoc F5 A (pattern.take 4) 1 hAj
                    have i0 : (0 : Int) ≤ (A : Int) + (4 : Int) := by omega
                    have i1 : (A : Int) + (4 : Int) < (k : Int) := by omega
                    have hbs : (bV (over F5 A (pattern.take 4))).setIfInBounds (A + 4) (.int .u8 1) = bV (over F5 A (pattern.take 5)) := by rw [← hset]; exact bV_set _ _ 1
                    have G := Lib.hid hg
                    have HS := Lib.hid hbs
                    clear hg hset hol hAj hbs
                    go_wp2
                    go_roundw
                    case rel => exact ⟨5, by omega, rfl, by rw [blk_set G.out, HS.out], hb.setCell (Nat.le_refl _) _⟩
                    case measure => simp [intOf] <;> omega
                  · have O := of_any (over F5 A (pattern.take 5)) (some ⟨w.heap.size, 0, none⟩) k wr (bytesAt_bV hg) (by rw [over_length _ _ _ (by rw [HLF.out]; simp [pattern]; omega), HLF.out]; omega)
                    rw [over_length _ _ _ (by rw [HLF.out]; simp [pattern]; omega), HLF.out] at O
                    have e5 : crcOf (over F5 A (pattern.take 5)) = crcOf (over fl A (List.replicate 5 0)) := by
                      rw [show pattern.take 5 = pattern from rfl, HOV.out, crc_over]; rfl
                    rw [e5] at O
                    have HO2 := Lib.hid O
                    clear O e5 hg
                    rw [show ((5 : Nat) : Int) = 5 from rfl]
                    have hacc := Below.refl wr.heap.size wr
                    go_wp2_with (first
                      | (go_at_call 9; with_reducible refine HO2.out.mono ?_; rintro e w' ⟨rfl, hb'⟩; replace hacc := acc_call hacc hb' (Nat.le_refl _); clear hb')
                      | (go_at_call 14; with_reducible refine (known_any _).mono ?_; rintro e w' ⟨rfl, hb'⟩; replace hacc := acc_call hacc hb' (Nat.le_refl _); clear hb'))
                    go_ret
                    exact ⟨rfl, hb.trans (hacc.mono hb.size)⟩
end Go.Proofs.Ytflonblpfkfpnaa
