/- Walks of the document's frames, of Scan, Whole and of what the statements use; frame as the kernel wants it -/
import Derived.Test.YtggnjgnjgnlchaaFX2
import Derived.RangeFuncBox
import Derived.RangeFuncLeaves
import Derived.RangeFuncNested
import Derived.RangeFuncBound
import Derived.RangeFuncCalls
import Derived.Shelf.Abstract
import Derived.Shelf.RegionOpen
import Derived.WalkKit
import Derived.OwnWalkIn
import Derived.TacticsInMore
import Derived.LoopNIn
import Derived.LoopIn
import Derived.Test.YtggnjgnjgnlchaaProg
import Derived.Test.YtggnjgnjgnlchaaFX1
import Derived.Lib.SlBytesConst
/- Walks: the reference's low, number, sum, Seal, Next. -/
namespace Go.Proofs.Ytggnjgnjgnlchaa
set_option linter.unusedVariables false
set_option linter.unusedSimpArgs false
open Go.RowKit
attribute [local go_sem high] slice8 slice8l slice8h

theorem low_cells (n : Nat) : bV (leB n) = #[.int .u8 ((n : Int) % 256), .int .u8 ((n : Int) / 256 % 256), .int .u8 ((n : Int) / 65536 % 256), .int .u8 ((n : Int) / 16777216 % 256)] := by
  unfold bV leB
  simp only [List.map_cons, List.map_nil, byteOf_toNat]
  congr 1
  simp
def RetL (w : World) (n : Nat) (e : Ending) (w' : World) : Prop := ∃ a c, e = .returned (.slice a 4 c) ∧ OwnB w.heap.size w' a c (leB n) ∧ Below w.heap.size w w'
theorem low_any (n : Nat) (hn : n < 4294967296) (w : World) :
    Calls Try.prog 33 #[.int .i64 (n : Int)] w (RetL w n) := by
  have hc := low_cells n
  go_enter Try.func33, Try.ntmps33
  clear hc
  go_wp2
  go_ret
  rw [← low_cells]
  exact ⟨_, _, rfl, ownB_lit w (leB n) w.heap.size (Nat.le_refl _) (by simp [leB_length]), (Below.refl _ _).alloc (Nat.le_refl _) _⟩
theorem le4_four (a b c d : UInt8) : (le4 [a, b, c, d] : Int) = (a.toNat : Int) + 256 * (b.toNat : Int) + 65536 * (c.toNat : Int) + 16777216 * (d.toNat : Int) := by
  simp [le4, pre]; omega
theorem number_any (p : List UInt8) (a : Option Addr) (cap : Nat) (w : World) (hp : BytesAt w a p) (h4 : p.length = 4) :
    Calls Try.prog 37 #[.slice a 4 cap] w fun e w' => e = .returned (.int .i64 (le4 p : Int)) ∧ Below w.heap.size w w' := by
  obtain ⟨b, off, rfl, hb, hc⟩ := hp.split (by intro e; subst e; simp at h4)
  obtain ⟨x0, x1, x2, x3, rfl⟩ : ∃ x0 x1 x2 x3, p = [x0, x1, x2, x3] := by
    match p, h4 with
    | [x0, x1, x2, x3], _ => exact ⟨x0, x1, x2, x3, rfl⟩
  have c0 := hc 0 (by simp)
  have c1 := hc 1 (by simp)
  have c2 := hc 2 (by simp)
  have c3 := hc 3 (by simp)
  rw [Nat.add_zero] at c0
  simp only [List.getElem_cons_zero, List.getElem_cons_succ] at c0 c1 c2 c3
  have b0 := x0.toNat_lt
  have b1 := x1.toNat_lt
  have b2 := x2.toNat_lt
  have b3 := x3.toNat_lt
  have e1 : IntKind.i64.wrap (256 * (x1.toNat : Int)) = 256 * (x1.toNat : Int) := by rw [IntKind.wrap_i64]; omega
  have e2 : IntKind.i64.wrap ((x0.toNat : Int) + 256 * (x1.toNat : Int)) = (x0.toNat : Int) + 256 * (x1.toNat : Int) := by rw [IntKind.wrap_i64]; omega
  have e3 : IntKind.i64.wrap (65536 * (x2.toNat : Int)) = 65536 * (x2.toNat : Int) := by rw [IntKind.wrap_i64]; omega
  have e4 : IntKind.i64.wrap ((x0.toNat : Int) + 256 * (x1.toNat : Int) + 65536 * (x2.toNat : Int)) = (x0.toNat : Int) + 256 * (x1.toNat : Int) + 65536 * (x2.toNat : Int) := by rw [IntKind.wrap_i64]; omega
  have e5 : IntKind.i64.wrap (16777216 * (x3.toNat : Int)) = 16777216 * (x3.toNat : Int) := by rw [IntKind.wrap_i64]; omega
  have e6 : IntKind.i64.wrap ((x0.toNat : Int) + 256 * (x1.toNat : Int) + 65536 * (x2.toNat : Int) + 16777216 * (x3.toNat : Int)) = (x0.toNat : Int) + 256 * (x1.toNat : Int) + 65536 * (x2.toNat : Int) + 16777216 * (x3.toNat : Int) := by rw [IntKind.wrap_i64]; omega
  rw [le4_four]
  clear hc hp
  go_enter Try.func37, Try.ntmps37
  go_wp2_with fail
  go_quiet (fail)
  go_wp2
  go_ret
  exact ⟨rfl, (Below.refl _ _).drewN _⟩
theorem sum_any (n p : List UInt8) (a b : Option Addr) (ca cb : Nat) (w : World) (hn : BytesAt w a n) (hp : BytesAt w b p) (hl : p.length ≤ 1000000000) (hl2 : n.length ≤ 1000000000) :
    Calls Try.prog 34 #[.slice a n.length ca, .slice b p.length cb] w fun e w' => e = .returned (.int .i64 (v32 (crcUpdate (crcOf n) p) : Int)) ∧ w' = w := by
  have h1 := rof_any n a ca w hn (by omega)
  have h2 := rupdate_any (crcOf n) p b cb w hp (by omega)
  have h3 := v32_lt (crcUpdate (crcOf n) p)
  generalize crcUpdate (crcOf n) p = x at h2 h3 ⊢
  generalize crcOf n = y at h1 h2
  go_enter Try.func34, Try.ntmps34
  go_wp2_with (first
    | (go_at_call 45; with_reducible refine h1.mono ?_; rintro e w1 ⟨rfl, rfl⟩)
    | (go_at_call 44; with_reducible refine h2.mono ?_; rintro e w2 ⟨rfl, rfl⟩))
  go_ret
  exact ⟨rfl, rfl⟩
end Go.Proofs.Ytggnjgnjgnlchaa
/- Walks: the reference's Seal, Next. -/
namespace Go.Proofs.Ytggnjgnjgnlchaa
set_option linter.unusedVariables false
set_option linter.unusedSimpArgs false
open Go.RowKit
attribute [local go_sem high] slice8 slice8l slice8h

set_option maxHeartbeats 1000000 in
theorem rseal_any (p : List UInt8) (a : Option Addr) (cap : Nat) (w : World) (hp : BytesAt w a p) (hl : p.length ≤ 1000000000) :
    Calls Try.prog 13 #[.slice a p.length cap] w (RetB w (sealB p)) := by
  have h1 := low_any p.length (by omega) w
  have hs := v32_lt (crcUpdate (crcOf (leB p.length)) p)
  have hsum : v32 (crcUpdate (crcOf (leB p.length)) p) = (sumOf p).toNat := rfl
  go_enter Try.func13, Try.ntmps13
  go_wp2_with (first
    | (go_at_call 33; (with_reducible refine h1.mono ?_); rintro e w1 ⟨a1, c1, rfl, ho1, hb1⟩; have h2 := sum_any (leB p.length) p a1 a c1 cap w1 ho1.at (hp.below (Nat.le_refl _) hb1) (by omega) (by simp [leB_length]); rw [leB_length] at h2)
    | (go_at_call 34; (with_reducible refine h2.mono ?_); rintro e w2 ⟨rfl, rfl⟩; have h3 := low_any _ hs w2; rw [hsum] at h3)
    | (go_at_call 33; (with_reducible refine h3.mono ?_); rintro e w3 ⟨a3, c3, rfl, ho3, hb3⟩; have ho4 := ho1.below (Nat.le_refl _) hb3; have hs4 := hb1.size; have hb4 := hb1.trans (hb3.mono hs4); have hl4 : (leB p.length).length + (leB (sumOf p).toNat).length ≤ 140737488355328 := by simp [leB_length])
    | (with_reducible refine wpList_append_bytes rfl (.tmp 11) (.tmp 13) rfl w.heap.size a1 _ c1 (leB p.length) rfl rfl ho4 a3 _ c3 (leB (sumOf p).toNat) rfl rfl ho3.at hl4 hb4.size ?_; intro a5 c5 w5 ho5 hg5 hat5; have hb5 := below_grown hb4 hg5 (fun j hj => (ho4.lt j hj).1) (Nat.le_refl _); have hp5 := hp.below (Nat.le_refl _) hb5; have hl5 : (leB p.length ++ leB (sumOf p).toNat).length + p.length ≤ 140737488355328 := by simp [leB_length]; omega)
    | (with_reducible refine wpList_append_bytes rfl (.tmp 15) (.tmp 16) rfl w.heap.size a5 _ c5 (leB p.length ++ leB (sumOf p).toNat) rfl rfl ho5 a _ cap p rfl rfl hp5 hl5 hb5.size ?_; intro a6 c6 w6 ho6 hg6 hat6))
  go_ret
  refine ⟨a6, c6, ?_, ?_, below_grown hb5 hg6 (fun j hj => (ho5.lt j hj).1) (Nat.le_refl _)⟩
  · simp [sealB, headB, Nat.add_assoc]
  · exact ho6

set_option maxRecDepth 100000 in
set_option maxHeartbeats 2000000 in
theorem rNext_any (p : List UInt8) (a : Option Addr) (cap : Nat) (k : Int) (w : World) (hp : BytesAt w a p) (hc : p.length ≤ cap) (hl : p.length ≤ 1000000000) (hk0 : -9223372036854775808 ≤ k) (hk1 : k ≤ 9223372036854775807) :
    Calls Try.prog 18 #[.slice a p.length cap, .int .i64 k] w (RetNx (nextF p k) w) := by
  have err : ∀ x : Nat, nextF p k = .error x → ∀ w', Below w.heap.size w w' → RetNx (nextF p k) w (.returned (.tuple #[.slice none 0 0, .int .i64 0, .int .i64 (x : Int)])) w' := fun x h w' hw =>
    ⟨none, 0, 0, by rw [h]; rfl, by rw [h]; rfl, by rw [h]; exact OwnB.nil _ _, hw⟩
  go_enter Try.func18, Try.ntmps18
  by_cases h1 : k < 0
  · have E := err 1 (by unfold nextF; rw [if_pos (.inl h1)]) w (Below.refl _ _)
    go_wp2
    go_ret3
    exact E
  have hk2 : 0 ≤ k := by omega
  by_cases h2 : (p.length : Int) < k
  · have E := err 1 (by unfold nextF; rw [if_pos (.inr h2)]) w (Below.refl _ _)
    go_wp2
    go_ret3
    exact E
  obtain ⟨m, rfl⟩ := Int.eq_ofNat_of_zero_le hk2
  have hN : nextF p (m : Int) = nextN p m := by unfold nextF; rw [if_neg (by omega)]; rfl
  rw [hN] at err ⊢
  clear hN hk0 hk1 hk2 h1
  by_cases h3 : m = p.length
  · have E := err 12 (by unfold nextN; rw [if_pos h3]) w (Below.refl _ _)
    subst h3
    go_wp2
    go_ret3
    exact E
  by_cases h4 : p.length - m < 8
  · have E := err 13 (by unfold nextN; rw [if_neg h3, if_pos h4]) w (Below.refl _ _)
    have h5 : (p.length : Int) - (m : Int) < 8 := by omega
    go_wp2
    go_ret3
    exact E
  have h5 : ¬ (p.length : Int) - (m : Int) < 8 := by omega
  have hn4 := le4_lt (p.drop m)
  have s2 := hp.sub cap m 4 (by omega) hc
  have l2 : ((p.drop m).take 4).length = 4 := by simp; omega
  have hw1 := number_any ((p.drop m).take 4) (subA a cap m) (cap - m) w s2 l2
  rw [le4_take _ (by simp; omega)] at hw1
  obtain ⟨n, hn⟩ : ∃ n, n = le4 (p.drop m) := ⟨_, rfl⟩
  rw [← hn] at hw1 hn4
  have Hn := Lib.hid hn
  have HP := Lib.hid hp
  clear hn hp s2 l2
  have hm1 : (0 : Int) ≤ (m : Int) := by omega
  have hm2 : (m : Int) ≤ (m : Int) + 4 := by omega
  have hm3 : (m : Int) + 4 ≤ (cap : Int) := by omega
  have em : m + 4 - m = 4 := by omega
  by_cases b1 : n = 0
  · have E := err 13 (by unfold nextN; rw [if_neg h3, if_neg h4]; dsimp only; rw [← Hn.out, if_pos (.inl b1)])
    subst b1
    go_wp2_with (go_at_call 37; rw [em]; with_reducible refine hw1.mono ?_; rintro e w1 ⟨rfl, hb1⟩)
    go_ret3
    exact E _ hb1
  by_cases b2 : 65536 < n
  · have E := err 13 (by unfold nextN; rw [if_neg h3, if_neg h4]; dsimp only; rw [← Hn.out, if_pos (.inr (.inl b2))])
    have b3 : (65536 : Int) < (n : Int) := by omega
    go_wp2_with (go_at_call 37; rw [em]; with_reducible refine hw1.mono ?_; rintro e w1 ⟨rfl, hb1⟩)
    go_ret3
    exact E _ hb1
  have b3 : ¬ (65536 : Int) < (n : Int) := by omega
  by_cases b4 : p.length - m - 8 < n
  · have E := err 13 (by unfold nextN; rw [if_neg h3, if_neg h4]; dsimp only; rw [← Hn.out, if_pos (.inr (.inr b4))])
    have b5 : (p.length : Int) - (m : Int) - 8 < (n : Int) := by omega
    go_wp2_with (go_at_call 37; rw [em]; with_reducible refine hw1.mono ?_; rintro e w1 ⟨rfl, hb1⟩)
    go_ret3
    exact E _ hb1
  have b5 : ¬ (p.length : Int) - (m : Int) - 8 < (n : Int) := by omega
  have c1 : (0 : Int) ≤ (m : Int) + 8 := by omega
  have c2 : (m : Int) + 8 ≤ (m : Int) + 8 + (n : Int) := by omega
  have c3 : (m : Int) + 8 + (n : Int) ≤ (cap : Int) := by omega
  have b9 : (1 : Int) ≤ (n : Int) ∧ (n : Int) ≤ 65536 ∧ (n : Int) ≤ (p.length : Int) - (m : Int) - 8 := ⟨by omega, by omega, by omega⟩
  have b10 : ((1 : Int) ≤ (n : Int) ∧ (n : Int) ≤ 65536) ∧ (n : Int) ≤ (p.length : Int) - (m : Int) - 8 := ⟨⟨by omega, by omega⟩, by omega⟩
  go_wp2_with (go_at_call 37; rw [em]; with_reducible refine hw1.mono ?_; rintro e w1 ⟨rfl, hb1⟩)
  clear c1 c2 c3 b9 b10
  have e1 : m + 8 + n - (m + 8) = n := by omega
  rw [e1]
  have c1 : (0 : Int) ≤ (m : Int) + 4 := by omega
  have c2 : (m : Int) + 4 ≤ (m : Int) + 8 := by omega
  have c3 : (m : Int) + 8 ≤ (cap : Int) := by omega
  have hp := HP.out.below (Nat.le_refl _) hb1
  have s1 := hp.sub cap (m + 4) 4 (by omega) hc
  have s2 := hp.sub cap m 4 (by omega) hc
  have s3 := hp.sub cap (m + 8) n (by omega) hc
  have l1 : ((p.drop (m + 4)).take 4).length = 4 := by simp; omega
  have l2 : ((p.drop m).take 4).length = 4 := by simp; omega
  have l3 : ((p.drop (m + 8)).take n).length = n := by simp; omega
  obtain ⟨x1, hx1⟩ : ∃ x, x = le4 (p.drop (m + 4)) := ⟨_, rfl⟩
  have hx2 : le4 ((p.drop (m + 4)).take 4) = x1 := by rw [hx1]; exact le4_take _ (by simp; omega)
  have hx3 : x1 < 4294967296 := by rw [hx1]; exact le4_lt _
  obtain ⟨y2, hy2⟩ : ∃ x, x = crcUpdate (crcOf ((p.drop m).take 4)) ((p.drop (m + 8)).take n) := ⟨_, rfl⟩
  have q1 : ∀ u : InC (Below w1.heap.size w1), Calls Try.prog 37 #[.slice (subA a cap (m + 4)) (m + 8 - (m + 4)) (cap - (m + 4))] u.val fun e w'' => e = .returned (.int .i64 (x1 : Int)) ∧ ∃ y : InC (Below w1.heap.size w1), w'' = y.val := fun u => by
    have := number_any ((p.drop (m + 4)).take 4) (subA a cap (m + 4)) (cap - (m + 4)) u.val (s1.below (Nat.le_refl _) u.property) l1
    rw [hx2] at this
    rw [show m + 8 - (m + 4) = 4 by omega]
    exact cls_call (this.mono fun e w' ⟨he, hb'⟩ => ⟨he, u.property.trans (hb'.mono u.property.size)⟩)
  have q2 : ∀ u : InC (Below w1.heap.size w1), Calls Try.prog 34 #[.slice (subA a cap m) (m + 4 - m) (cap - m), .slice (subA a cap (m + 8)) n (cap - (m + 8))] u.val fun e w'' => e = .returned (.int .i64 (v32 y2 : Int)) ∧ ∃ y : InC (Below w1.heap.size w1), w'' = y.val := fun u => by
    have := sum_any ((p.drop m).take 4) ((p.drop (m + 8)).take n) (subA a cap m) (subA a cap (m + 8)) (cap - m) (cap - (m + 8)) u.val (s2.below (Nat.le_refl _) u.property) (s3.below (Nat.le_refl _) u.property) (by rw [l3]; omega) (by rw [l2]; omega)
    rw [l2, l3, ← hy2] at this
    rw [show m + 4 - m = 4 by omega]
    exact cls_call (this.mono fun e w' ⟨he, hb'⟩ => ⟨he, by rw [hb']; exact u.property⟩)
  have Hx1 := Lib.hid hx1
  have Hy2 := Lib.hid hy2
  have hne : Nonempty (InC (Below w1.heap.size w1)) := ⟨⟨w1, Below.refl _ _⟩⟩
  have w4 : IntKind.i64.wrap ((m : Int) + 4) = (m : Int) + 4 := by rw [IntKind.wrap_i64]; omega
  have w8 : IntKind.i64.wrap ((m : Int) + 8) = (m : Int) + 8 := by rw [IntKind.wrap_i64]; omega
  have c5 : (0 : Int) ≤ (m : Int) := by omega
  have c6 : (m : Int) + 4 ≤ (cap : Int) := by omega
  clear hw1 s1 s2 l1 l2 hx1 hy2 hp hx2
  refine region_quiet (Cls (Below w1.heap.size w1)) (by kernel_rfl) (by kernel_rfl) (cls_in (Below.refl _ _).drew) ?_
  repeat quiet_step ((first | exact q1 _ | exact q2 _))
  refine wpQuiet_nil ?_
  rintro w2 ⟨⟨w3, hb3⟩, hw⟩
  obtain rfl : w2 = w3 := hw
  clear q1 q2 hne w4 w8 c1 c2 c3 c5 c6
  have hb4 := hb1.trans (hb3.mono hb1.size)
  have hkey : (BitVec.ofNat 32 (le4 (p.drop (m + 4))) = crcUpdate (crcOf ((p.drop m).take 4)) ((p.drop (m + 8)).take n)) ↔ v32 y2 = x1 := by
    rw [← Hx1.out, ← Hy2.out]
    constructor
    · intro h; rw [← h, v32_ofNat hx3]
    · intro h; rw [← h]; simp [v32]
  by_cases hxy : v32 y2 = x1
  · have hN : nextN p m = .ok ((p.drop (m + 8)).take n, m + 8 + n) := by
      unfold nextN; rw [if_neg h3, if_neg h4]; dsimp only; rw [← Hn.out, if_neg (by omega), if_pos (hkey.mpr hxy)]
    have hf : ((v32 y2 : Int) != (x1 : Int)) = false := by rw [hxy]; simp
    have s4 := s3.below (Nat.le_refl _) hb3
    have E : ∀ a' c' w', OwnB w.heap.size w' a' c' ((p.drop (m + 8)).take n) → w2.grownBy w' (blkOf none) → RetNx (nextN p m) w (.returned (.tuple #[.slice a' n c', .int .i64 ((m : Int) + 8 + (n : Int)), .int .i64 0])) w' := fun a' c' w' ho hg =>
      ⟨a', n, c', by rw [hN]; simp [nxE, nxX], by rw [hN]; exact l3.symm, by rw [hN]; exact ho, below_grown hb4 hg (by intro k hk; simp [blkOf] at hk) (Nat.le_refl _)⟩
    have HE := Lib.hid E
    have ho := OwnB.nil w.heap.size w2
    have hsz := hb4.size
    have hl4 : ([] : List UInt8).length + ((p.drop (m + 8)).take n).length ≤ 140737488355328 := by rw [l3]; simp; omega
    have hl5 : n = ((p.drop (m + 8)).take n).length := l3.symm
    have Hl3 := Lib.hid l3
    have Hl5 := Lib.hid hl5
    clear hkey hN Hx1 Hy2 s3 l3 err E hl5
    go_wp2_with (with_reducible refine wpList_append_bytes rfl (.tmp 71) (.tmp 72) rfl w.heap.size none _ 0 [] rfl rfl ho _ _ _ ((p.drop (m + 8)).take n) rfl Hl5.out s4 hl4 hsz ?_; intro a' c' w' ho' hg hat; rw [List.nil_append] at ho'; rw [Hl3.out]; have E := HE.out a' c' w' ho' hg)
    go_ret3
    exact E
  · have E := err 13 (by unfold nextN; rw [if_neg h3, if_neg h4]; dsimp only; rw [← Hn.out, if_neg (by omega), if_neg (fun h => hxy (hkey.mp h))]) _ hb4
    clear hkey Hx1 Hy2 s3 l3 err
    have hf : ((v32 y2 : Int) != (x1 : Int)) = true := by simp only [bne_iff_ne, ne_eq]; omega
    go_wp2
    go_ret3
    exact E
end Go.Proofs.Ytggnjgnjgnlchaa
/- Walks: Scan's closure, at a loop's rounds. -/
namespace Go.Proofs.Ytggnjgnjgnlchaa
set_option linter.unusedVariables false
set_option linter.unusedSimpArgs false
open Go.RowKit Go.Shelf
attribute [local go_sem] Oper.semAt_some

theorem scanF_fuel (p : List UInt8) : ∀ (f1 f2 k : Nat), p.length < f1 + k → p.length < f2 + k → scanF p f1 k = scanF p f2 k
  | 0, 0, _, _, _ => rfl
  | 0, f2 + 1, k, h1, h2 => by
    have : nextN p k = .error 13 ∨ ∃ x, nextN p k = .error x := by
      cases h : nextN p k with
      | error x => exact .inr ⟨x, rfl⟩
      | ok r => obtain ⟨b, e⟩ := r; have := next_ok h; omega
    rcases this with h | ⟨x, h⟩ <;> simp [scanF, h]
  | f1 + 1, 0, k, h1, h2 => by
    have : ∃ x, nextN p k = .error x := by
      cases h : nextN p k with
      | error x => exact ⟨x, rfl⟩
      | ok r => obtain ⟨b, e⟩ := r; have := next_ok h; omega
    obtain ⟨x, h⟩ := this
    simp [scanF, h]
  | f1 + 1, f2 + 1, k, h1, h2 => by
    cases h : nextN p k with
    | error x => simp [scanF, h]
    | ok r =>
      obtain ⟨b, e⟩ := r
      have hk := next_ok h
      simp only [scanF, h]
      rw [scanF_fuel p f1 f2 e (by omega) (by omega)]
/-- the frames from a place on -/
def scanK (p : List UInt8) (k : Nat) : List (Nat × List UInt8) := scanF p (p.length + 1) k
theorem scanL_eq (p : List UInt8) : scanL p = scanK p 0 := rfl
theorem scanK_ok {p : List UInt8} {k : Nat} {b : List UInt8} {e : Nat} (h : nextN p k = .ok (b, e)) : scanK p k = (k, b) :: scanK p e := by
  have hk := next_ok h
  unfold scanK
  conv => lhs; unfold scanF
  rw [h]
  simp only
  rw [scanF_fuel p p.length (p.length + 1) e (by omega) (by omega)]
theorem scanK_err {p : List UInt8} {k : Nat} {x : Nat} (h : nextN p k = .error x) : scanK p k = [] := by
  unfold scanK scanF; rw [h]
theorem nextF_nat (p : List UInt8) (k : Nat) (h : k ≤ p.length) : nextF p (k : Int) = nextN p k := by
  unfold nextF; rw [if_neg (by omega)]; rfl

theorem next_err {p : List UInt8} {k : Nat} {x : Nat} (h : nextN p k = .error x) : x = 12 ∨ x = 13 := by
  unfold nextN at h
  split at h
  · cases h; exact .inl rfl
  split at h
  · cases h; exact .inr rfl
  dsimp only at h
  split at h
  · cases h; exact .inr rfl
  split at h
  · cases h
  · cases h; exact .inr rfl
theorem retN_err {x : Nat} {w w' : World} {e : Ending} (h : RetN (.error x) w e w') : ∃ a c, e = .returned (.tuple #[.slice a 0 c, .int .i64 0, .int .i64 (x : Int)]) ∧ Below w.heap.size w w' := by
  obtain ⟨a, n, c, he, rfl, _, _, hw⟩ := h
  exact ⟨a, c, he, hw⟩
theorem retN_ok {b : List UInt8} {k : Nat} {w w' : World} {e : Ending} (h : RetN (.ok (b, k)) w e w') : ∃ a c, e = .returned (.tuple #[.slice a b.length c, .int .i64 (k : Int), .int .i64 0]) ∧ BytesAt w' a b ∧ Below w.heap.size w w' := by
  obtain ⟨a, n, c, he, rfl, hb, _, hw⟩ := h
  exact ⟨a, c, he, hb, hw⟩
theorem grownBy_below {w w' : World} (h : Below w.heap.size w w') : w.grownBy w' none := ⟨h.os, h.tape, h.output, h.size, fun k hk _ => h.block k hk⟩
structure Fr where
  at_ : Nat
  a : Option Addr
  n : Nat
  c : Nat
def encF (x : Fr) : Array Value := #[.int .i64 (x.at_ : Int), .slice x.a x.n x.c]
def Fr.key (x : Fr) : Nat × Nat := (x.at_, x.n)
def keyL (x : Nat × List UInt8) : Nat × Nat := (x.1, x.2.length)
/-- so much has come, the rest from k on is yet to come -/
def Came (p : List UInt8) (pre : List Fr) (k : Nat) : Prop := pre.map Fr.key ++ (scanK p k).map keyL = (scanK p 0).map keyL ∧ pre.length ≤ k ∧ k ≤ p.length

theorem came_step {p : List UInt8} {pre : List Fr} {k : Nat} {b : List UInt8} {e : Nat} (h : Came p pre k) (hr : nextN p k = .ok (b, e)) (a : Option Addr) (c : Nat) : Came p (pre ++ [⟨k, a, b.length, c⟩]) e := by
  have hk := next_ok hr
  obtain ⟨h1, h2, h3⟩ := h
  refine ⟨?_, ?_, hk.2.1⟩
  · rw [scanK_ok hr] at h1
    simpa [Fr.key, keyL] using h1
  · simp; omega
theorem came_pre {p : List UInt8} {pre : List Fr} {k : Nat} (h : Came p pre k) : pre.map Fr.key <+: (scanK p 0).map keyL := ⟨_, h.1⟩
/-- the blocks of a range are as they were -/
structure Keep (lo hi : Nat) (W W' : World) : Prop where
  size : W.heap.size ≤ W'.heap.size
  block : ∀ k, lo ≤ k → k < hi → W'.heap[k]? = W.heap[k]?
theorem Keep.refl (lo hi : Nat) (W : World) : Keep lo hi W W := ⟨Nat.le_refl _, fun _ _ _ => rfl⟩
theorem Keep.trans {lo hi : Nat} {A B C : World} (h : Keep lo hi A B) (k : Keep lo hi B C) : Keep lo hi A C := ⟨Nat.le_trans h.size k.size, fun i h1 h2 => (k.block i h1 h2).trans (h.block i h1 h2)⟩
theorem Keep.below {lo hi B : Nat} {A C : World} (h : Below B A C) (hB : hi ≤ B) : Keep lo hi A C := ⟨h.size, fun i _ h2 => h.block i (by omega)⟩
theorem Keep.bytes {lo hi : Nat} {W W' : World} {a : Option Addr} {p : List UInt8} (h : Keep lo hi W W') (hp : BytesAt W a p) (hb : ∀ k, blkOf a = some k → lo ≤ k ∧ k < hi) : BytesAt W' a p := by
  rcases hp with hp | ⟨b, off, rfl, hbs, hc⟩
  · exact .inl hp
  · have := hb b rfl
    exact .inr ⟨b, off, rfl, Nat.lt_of_lt_of_le hbs h.size, fun i hi => by rw [← hc i hi]; exact World.cell?_of_block (h.block b this.1 this.2)⟩
set_option maxRecDepth 100000 in
set_option maxHeartbeats 2000000 in
theorem scan1_round (n : Nat) (hn : 1 ≤ n) (l Bs lo hi : Nat) (a : Option Addr) (c : Nat) (p : List UInt8) (hl : p.length ≤ 1000000000) (hpc : p.length ≤ c) (hBl : lo ≤ Bs) (hBn : Bs < hi) (J Jx : List Fr → World → Prop) (W : World) (hn0 : hi ≤ W.heap.size)
    (hJ : AbidesFrom W.heap.size J)
    (hY : ∀ pre x W1, J pre W1 → pre.length < p.length + 1 → YieldAt Fence.wide (n - 1) Try.prog l (encF x) W1 fun e W' =>
      (e = .returned (.bool true) ∧ J (pre ++ [x]) W' ∧ Keep lo hi W1 W') ∨ (e = .returned (.bool false) ∧ Jx (pre ++ [x]) W'))
    (hBs : W.cell? ⟨Bs, 0, none⟩ = some (.slice a p.length c)) (hp : BytesAt W a p) (hpb : ∀ k, blkOf a = some k → lo ≤ k ∧ k < hi) (h0 : J [] W) :
    CallsIn Fence.wide n Try.prog 38 #[.func (.yield l) #[] #[], .pointer (some ⟨Bs, 0, none⟩)] W fun e W' => (∃ v, e = .returned v) ∧
      ((∃ ys : List Fr, ys.map Fr.key = (scanK p 0).map keyL ∧ J ys W') ∨ (∃ pre : List Fr, pre.map Fr.key <+: (scanK p 0).map keyL ∧ Jx pre W')) := by
  refine callsIn_of_wp Try.func38 rfl trivial ?_ rfl
  simp only [Try.ntmps38, List.size_toArray, List.length_cons, List.length_nil, Nat.reduceAdd, Nat.reduceSub, Array.replicate_succ, Array.replicate_zero, List.push_toArray, List.append_toArray, List.nil_append, List.cons_append]
  gi_wp2
  gi_loopw [3] (fun i wr => ∃ (k : Nat) (pre : List Fr), i = .int .i64 k ∧ Came p pre k ∧ J pre wr ∧ Keep lo hi W wr)
    (fun i _ => p.length + 1 - (intOf i).toNat)
  case atStart => exact ⟨0, [], rfl, ⟨by simp, by simp, by simp⟩, h0, Keep.refl _ _ _⟩
  case round =>
    obtain ⟨k, pre, rfl, hcm, hJs, hb⟩ := hrel
    have hcx : wr.cell? ⟨Bs, 0, none⟩ = some (.slice a p.length c) := (World.cell?_of_block (hb.block Bs hBl hBn)).trans hBs
    have h1 := next_any p a c k wr (hb.bytes hp hpb) hpc hl (by omega) (by have := hcm.2.2; omega)
    rw [nextF_nat p k hcm.2.2] at h1
    cases hr : nextN p k with
    | error x =>
      rw [hr] at h1
      have hx := next_err hr
      have hx0 : ((x : Int) == 0) = false := by rcases hx with rfl | rfl <;> rfl
      have hx1 : ((x : Int) != 0) = true := by rcases hx with rfl | rfl <;> rfl
      have hx2 : ¬ ((x : Int) = 0) := by rcases hx with rfl | rfl <;> omega
      have h2 := h1.mono fun e w' h => retN_err h
      clear hx h1
      gi_wp2_with (refine ⟨trivial, ?_⟩; gi_at_call 35; refine (callsIn_wide.2 h2).mono ?_; rintro e w1 ⟨a1, c1, rfl, hw1⟩)
      have hJ1 : J pre w1 := hJ pre wr w1 none hJs (grownBy_below hw1) (by intro r h; cases h)
      have hfin : pre.map Fr.key = (scanK p 0).map keyL := by
        have := hcm.1; rw [scanK_err hr] at this; simpa using this
      refine ⟨trivial, ?_⟩
      go_at_K
      gi_wp2
      refine ⟨fun _ h => (by cases h), ?_⟩
      go_at_K
      gi_wp2
      all_goals
        refine bodyPost_ret (results_none rfl _ _ _) rfl ?_
        exact ⟨⟨_, rfl⟩, .inl ⟨pre, hfin, hJ1⟩⟩
    | ok r =>
      obtain ⟨b, e⟩ := r
      rw [hr] at h1
      have h2 := h1.mono fun e w' h => retN_ok h
      clear h1
      have hk := next_ok hr
      have hpl := hcm.2.1
      have hpk := hcm.2.2
      have hlen : pre.length < p.length + 1 := by omega
      gi_wp2_with (first
        | (refine ⟨trivial, ?_⟩; gi_at_call 35; refine (callsIn_wide.2 h2).mono ?_; rintro e w1 ⟨a1, c1, rfl, hb1, hw1⟩; have h3 := clone_any b a1 c1 w1 hb1 (by omega))
        | (refine ⟨trivial, ?_⟩; gi_at_call 36; refine (callsIn_wide.2 h3).mono ?_; rintro e w2 ⟨a2, c2, rfl, ho2, hw2⟩; have hJ2 : J pre w2 := hJ pre _ w2 none (hJ pre wr w1 none hJs (grownBy_below hw1) (by intro r h; cases h)) (grownBy_below hw2) (by intro r h; cases h); obtain ⟨fn, tmps, assign, body, hy, hR⟩ := hY pre ⟨k, a2, b.length, c2⟩ w2 hJ2 hlen; dsimp only [encF] at hy))
      refine hR.mono ?_
      have hcm2 := came_step hcm hr a2 c2
      rintro e' W3 (⟨rfl, hJ3, hk3⟩ | ⟨rfl, hJx3⟩)
      · have hb3 : Keep lo hi W W3 := ((hb.trans (Keep.below hw1 (by have := hb.size; omega))).trans (Keep.below hw2 (by have := hb.size; have := hw1.size; omega))).trans hk3
        gi_wp2
        go_roundw
        case rel => exact ⟨e, _, rfl, hcm2, hJ3, hb3⟩
        case measure => simp [intOf]; omega
      · gi_wp2
        refine bodyPost_ret (results_none rfl _ _ _) rfl ?_
        exact ⟨⟨_, rfl⟩, .inr ⟨_, came_pre hcm2, hJx3⟩⟩

/-- Scan: a clone in a box. -/
def RetScan (w : World) (p : List UInt8) (e : Ending) (w' : World) : Prop :=
  ∃ a c, e = .returned (.func (.func 38) #[] #[.pointer (some ⟨w.heap.size, 0, none⟩)]) ∧ OwnB (w.heap.size + 1) w' a c p ∧ w'.heap[w.heap.size]? = some (.cells #[.slice a p.length c] 22 (0, 0)) ∧ Below w.heap.size w w'
set_option maxHeartbeats 1000000 in
theorem scan_any (p : List UInt8) (a : Option Addr) (cap : Nat) (w : World) (hp : BytesAt w a p) (hl : p.length ≤ 1000000000) :
    Calls Try.prog 20 #[.slice a p.length cap] w (RetScan w p) := by
  have hb0 : Below w.heap.size w (w.alloc (.cells #[.slice a p.length cap] 22)) := (Below.refl _ _).alloc (Nat.le_refl _) _
  have h1 := clone_any p a cap (w.alloc (.cells #[.slice a p.length cap] 22)) (hp.below (Nat.le_refl _) hb0) (by omega)
  have hn := heap_alloc_new w (.cells #[.slice a p.length cap] 22)
  go_enter Try.func20, Try.ntmps20
  go_wp2_with (go_at_call 36; (with_reducible refine h1.mono ?_); rintro e w1 ⟨a1, c1, rfl, ho1, hb1⟩; have hn1 := (hb1.block w.heap.size (by simp)).trans hn; have hc1 := blk_cell hn1 (i := 0) rfl; have hf1 : w1.frozen? ⟨w.heap.size, 0, none⟩ = false := blk_free hn1)
  go_ret
  have hg : w1.grownBy (w1.setCell ⟨w.heap.size, 0, none⟩ (.slice a1 p.length c1)) (some w.heap.size) := ⟨rfl, rfl, rfl, by simp [World.setCell], fun k hk hne => blk_ne (fun e => hne (by rw [e])) _⟩
  have ho2 : OwnB (w.heap.size + 1) w1 a1 c1 p := ho1.mono (by simp)
  exact ⟨a1, c1, rfl, ho2.kept hg (fun k hk => by have := ho2.lt k hk; intro e; cases e; omega), blk_set hn1 _, (hb0.trans (hb1.mono (by simp))).setCell (p := ⟨w.heap.size, 0, none⟩) (Nat.le_refl _) _⟩
end Go.Proofs.Ytggnjgnjgnlchaa
/- Walks: Whole. -/
namespace Go.Proofs.Ytggnjgnjgnlchaa
set_option linter.unusedVariables false
set_option linter.unusedSimpArgs false
open Go.RowKit Go.Shelf
attribute [local go_sem] Oper.semAt_some

/-- the place behind the last -/
def lastE (l : List (Nat × Nat)) : Nat := match l.getLast? with | none => 0 | some x => x.1 + 8 + x.2
def lastW (l : List (Nat × Nat)) : Int := match l.getLast? with | none => 0 | some x => wrap64 (wrap64 ((x.1 : Int) + 8) + (x.2 : Int))
theorem lastW_snoc (l : List (Nat × Nat)) (x : Nat × Nat) : lastW (l ++ [x]) = wrap64 (wrap64 ((x.1 : Int) + 8) + (x.2 : Int)) := by simp [lastW]
theorem lastW_eq {l : List (Nat × Nat)} (h : ∀ x ∈ l, x.1 + 8 + x.2 ≤ 1000000000) : lastW l = (lastE l : Int) := by
  unfold lastW lastE
  cases e : l.getLast? with
  | none => rfl
  | some x =>
    have := h x (List.mem_of_getLast? e)
    simp only [wrap64]
    omega
def wholeN (p : List UInt8) : Nat := lastE ((scanK p 0).map keyL)
theorem scanK_in {p : List UInt8} : ∀ (f k : Nat) (x : Nat × List UInt8), x ∈ scanF p f k → x.1 + 8 + x.2.length ≤ p.length
  | 0, k, x, h => by simp [scanF] at h
  | f + 1, k, x, h => by
    unfold scanF at h
    split at h
    · rename_i b e hr
      have hk := next_ok hr
      rcases List.mem_cons.1 h with rfl | h
      · simp only; omega
      · exact scanK_in f e x h
    · simp at h
theorem lastW_scan (p : List UInt8) (hl : p.length ≤ 1000000000) : lastW ((scanK p 0).map keyL) = (wholeN p : Int) := by
  refine lastW_eq fun x hx => ?_
  obtain ⟨y, hy, rfl⟩ := List.mem_map.1 hx
  have := scanK_in _ _ y hy
  simp only [keyL]; omega

theorem scan1_stops (n : Nat) (hn : 1 ≤ n) (Bs lo : Nat) (a : Option Addr) (c : Nat) (p : List UInt8) (hl : p.length ≤ 1000000000) (hpc : p.length ≤ c) (hBl : lo ≤ Bs) (w : World)
    (hBs : w.cell? ⟨Bs, 0, none⟩ = some (.slice a p.length c)) (hp : BytesAt w a p) (hpb : ∀ k, blkOf a = some k → lo ≤ k ∧ k < w.heap.size) (hBw : Bs < w.heap.size) :
    SeqStopsK Fence.wide n Try.prog 38 #[.pointer (some ⟨Bs, 0, none⟩)] encF (Keep lo w.heap.size) (fun xs => xs.map Fr.key = (scanK p 0).map keyL) (fun pre => pre.map Fr.key <+: (scanK p 0).map keyL) (p.length + 1) w :=
  fun l J Jx W hW hJ hJx hY h0 =>
    scan1_round n hn l Bs lo w.heap.size a c p hl hpc hBl hBw J Jx W hW.size hJ hY ((hW.cell (p := ⟨Bs, 0, none⟩) hBw).trans hBs) (hp.below (Nat.le_refl _) hW) hpb h0

set_option maxRecDepth 100000 in
set_option maxHeartbeats 2000000 in
theorem whole_any (p : List UInt8) (a : Option Addr) (cap : Nat) (w : World) (hp : BytesAt w a p) (hl : p.length ≤ 1000000000) :
    Calls Try.prog 21 #[.slice a p.length cap] w fun e w' => e = .returned (.int .i64 (wholeN p : Int)) ∧ Below w.heap.size w w' := by
  have hb0 : Below w.heap.size w (w.alloc (.cells #[.int .i64 0] 3)) := (Below.refl _ _).alloc (Nat.le_refl _) _
  have h1 := scan_any p a cap (w.alloc (.cells #[.int .i64 0] 3)) (hp.below (Nat.le_refl _) hb0) hl
  have hn := heap_alloc_new w (.cells #[.int .i64 0] 3)
  have hsz : (w.alloc (.cells #[.int .i64 0] 3)).heap.size = w.heap.size + 1 := by simp
  refine (callsIn_wide (n := 3)).1 ?_
  refine callsIn_of_wp_marks Try.func21 rfl trivial ?_ rfl
  simp only [Try.ntmps21, List.size_toArray, List.length_cons, List.length_nil, Nat.reduceAdd, Nat.reduceSub, Array.replicate_succ, Array.replicate_zero, List.push_toArray, List.append_toArray, List.nil_append, List.cons_append]
  gi_wp2_with (refine ⟨trivial, ?_⟩; gi_at_call 20; refine (callsIn_wide.2 h1).mono ?_; rintro e w1 ⟨a1, c1, rfl, ho1, hs1, hb1⟩)
  generalize hw0 : w.alloc (.cells #[.int .i64 0] 3) = w0 at h1 hb0 hn hsz ho1 hs1 hb1 ⊢
  rw [hsz] at ho1 hs1
  have hlt1 := blk_lt hs1
  have hn1 : w1.heap[w.heap.size]? = some (.cells #[.int .i64 0] 3 (0, 0)) := (hb1.block _ (by omega)).trans hn
  have hbw : Below w.heap.size w w1 := hb0.trans (hb1.mono (by omega))
  have hle := hbw.size
  refine wpIn_rangeFunc_ownF (w0 := w1) rfl (by omega) (gf := 38) (lb := #[.pointer (some ⟨w.heap.size + 1, 0, none⟩)]) rfl trivial (enters_of Try.func38 (by kernel_rfl) rfl)
    (scan1_stops 2 (by omega) (w.heap.size + 1) (w.heap.size + 1) a1 c1 p hl ho1.le (Nat.le_refl _) w1 (blk_cell hs1 rfl) ho1.at (fun k hk => by have := ho1.lt k hk; omega) hlt1)
    (fun h k => Keep.trans h k) (fun W l o o' hl' ho _ _ => ⟨by simp [World.putObj], fun k _ hk2 => by rw [World.putObj]; simp; rw [Array.getElem?_setIfInBounds_ne (by omega)]⟩) (Below.refl _ _) (fun _ => rfl)
    (fun pre W => (W.heap[w.heap.size]? = some (.cells #[.int .i64 (lastW (pre.map Fr.key))] 3 (0, 0))) ∧ Below w.heap.size w W)
    (fun _ _ _ => False)
    ?hI
    (fun _ _ _ _ _ hs _ _ => hs)
    ⟨hn1, hbw⟩
    (fun x => { tmps := #[.slice a p.length cap, undef, .int .i64 0, .pointer (some ⟨w.heap.size, 0, none⟩), .int .i64 (x.at_ : Int), .slice x.a x.n x.c, .slice a p.length cap, .func (.func 38) #[] #[.pointer (some ⟨w.heap.size + 1, 0, none⟩)], .int .i64 (x.at_ : Int), .slice x.a x.n x.c, undef, undef, undef, undef, undef, undef], defers := [] }) ?assign ?body ?done ?stop
  case hI =>
    rintro s A B row ⟨h1, h2⟩ hg hr
    exact ⟨(hg.block w.heap.size (blk_lt h1) (fun e => by have := (hr _ e.symm).1; omega)).trans h1, below_grown h2 hg (fun k hk => by have := (hr k hk).1; omega) (Nat.le_refl _)⟩
  case assign =>
    intro l x W K hK
    simp only [encF]
    gi_wp2
    exact hK
  case body =>
    rintro l pre x W ⟨hc, hB⟩ _
    have hcell := blk_cell hc (i := 0) rfl
    have hfr : W.frozen? ⟨w.heap.size, 0, none⟩ = false := blk_free hc
    gi_wp2
    refine ⟨KeepsOthers.setCell _ _ _, ⟨by simp [World.setCell], fun k hk _ => blk_ne (by omega) _⟩, ?_, hB.setCell (p := ⟨w.heap.size, 0, none⟩) (Nat.le_refl _) _⟩
    rw [List.map_append, List.map_cons, List.map_nil, lastW_snoc]
    exact blk_set hc _
  case done =>
    rintro D ys W hD hS ⟨hc, hB⟩ hK
    have hcell := blk_cell hc (i := 0) rfl
    gi_wp2
    rw [lastW_scan p hl]
    refine ⟨by simp, .inl ⟨_, _, rfl, run_takeDeferred hK, ?_⟩⟩
    exact ⟨_, results_tmp rfl _ _ _, rfl, hB.trans (belowK_b (w := w) (Nat.le_refl _) W D _ _ (by omega) hK rfl rfl)⟩
  case stop =>
    rintro D c pre W _ _ h _
    exact h.elim
end Go.Proofs.Ytggnjgnjgnlchaa
/- The walks of 'roomy' and 'stands': a list's bytes with marks behind them; whether such a list is what it was. -/
namespace Go.Proofs.Ytggnjgnjgnlchaa
set_option linter.unusedVariables false
set_option linter.unusedSimpArgs false
open Go.RowKit

/-- the byte at a place of a roomy list -/
def rb (p : List UInt8) (i : Nat) : UInt8 := if h : i < p.length then p[i] else UInt8.ofNat (161 + i % 7)
def roomL (p : List UInt8) : List UInt8 := (List.range (p.length + 70)).map (rb p)
/-- while it is filled -/
def roomK (p : List UInt8) (k : Nat) : List UInt8 := (List.range (p.length + 70)).map fun i => if i < k then rb p i else 0
theorem roomL_length (p : List UInt8) : (roomL p).length = p.length + 70 := by simp [roomL]
theorem roomK_length (p : List UInt8) (k : Nat) : (roomK p k).length = p.length + 70 := by simp [roomK]
theorem roomK_zero (p : List UInt8) : roomK p 0 = List.replicate (p.length + 70) 0 := by
  unfold roomK
  apply List.ext_getElem
  · simp
  · intro i h1 h2; simp
theorem roomK_full (p : List UInt8) : roomK p (p.length + 70) = roomL p := by
  unfold roomK roomL
  apply List.ext_getElem
  · simp
  · intro i h1 h2; simp at h1; simp [h1]
theorem mark_nat (k : Nat) : (161 + (k : Int) % 7) = ((UInt8.ofNat (161 + k % 7)).toNat : Int) := by
  rw [UInt8.toNat_ofNat']
  have : (161 + k % 7) % 2 ^ 8 = 161 + k % 7 := Nat.mod_eq_of_lt (by omega)
  rw [this]
  omega
theorem roomK_far (p : List UInt8) (k : Nat) (h : p.length ≤ k) : (bV (roomK p k)).setIfInBounds k (.int .u8 (161 + (k : Int) % 7)) = bV (roomK p (k + 1)) := by
  rw [mark_nat, bV_set]
  congr 1
  apply List.ext_getElem
  · simp [roomK_length]
  · intro i h1 h2
    rw [List.getElem_set]
    by_cases e : k = i
    · subst e; simp [roomK, rb, show ¬ k < p.length by omega]
    · have : (i < k + 1) = (i < k) := by simp; omega
      simp [e, roomK, this]
theorem roomK_near (p : List UInt8) (k : Nat) (h : k < p.length) (x : Int) : ((bV (roomK p k)).setIfInBounds k (.int .u8 x)).setIfInBounds k (.int .u8 (p[k].toNat : Int)) = bV (roomK p (k + 1)) := by
  rw [Array.setIfInBounds_setIfInBounds, bV_set]
  congr 1
  apply List.ext_getElem
  · simp [roomK_length]
  · intro i h1 h2
    rw [List.getElem_set]
    by_cases e : k = i
    · subst e; simp [roomK, rb, h]
    · have : (i < k + 1) = (i < k) := by simp; omega
      simp [e, roomK, this]
theorem room_near (p : List UInt8) (i : Nat) (h : i < p.length) : (roomL p)[i]? = some p[i] := by simp [roomL, rb, h, show i < p.length + 70 by omega]
theorem room_far (p : List UInt8) (i : Nat) (h : p.length ≤ i) (h2 : i < p.length + 70) : (roomL p)[i]? = some (UInt8.ofNat (161 + i % 7)) := by simp [roomL, rb, h2, show ¬ i < p.length by omega]
theorem room_take (p : List UInt8) : (roomL p).take p.length = p := by
  apply List.ext_getElem
  · simp [roomL_length]
  · intro i h1 h2; simp [roomL, rb, h2]

theorem info_byte : (Try.prog.info? 5).map (fun i => (i.zero, i.size, i.bytes)) = some (some (.int .u8 0), 1, 1) := by kernel_rfl
theorem make_bytes (w : World) (n : Nat) (hn : n ≤ 281474976710656) :
    (Instr.makeSlice 22 (.int .i64 (n : Int)) (.int .i64 (n : Int))).run Try.prog w = .ok (.slice (some ⟨w.heap.size, 0, none⟩) n n) (w.alloc (.cells (bV (List.replicate n 0)) 5)) := by
  obtain ⟨i, hi, hz0, hz1, hz2⟩ := info_parts info_byte
  have h := run_make (P := Try.prog) w 22 5 i (.int .u8 0) Try.underlying22 hi hz0 .i64 .i64 n n (by omega) (by omega) (by rw [hz2]; omega) (by omega)
  rw [hz1, Nat.mul_one, Int.toNat_natCast, madeCells_bytes] at h
  exact h

set_option maxHeartbeats 400000 in
theorem roomy_any (p : List UInt8) (a : Option Addr) (cap : Nat) (w : World) (hp : BytesAt w a p) (hl : p.length ≤ 1000000) :
    Calls Try.prog 11 #[.slice a p.length cap] w fun e w' => e = .returned (.slice (some ⟨w.heap.size, 0, none⟩) (p.length + 70) (p.length + 70)) ∧ w' = w.alloc (.cells (bV (roomL p)) 5) := by
  have hmk := make_bytes w (p.length + 70) (by omega)
  rw [show ((p.length + 70 : Nat) : Int) = (p.length : Int) + 70 by omega, ← roomK_zero] at hmk
  have hsz := bV_size (roomK p 0)
  go_enter Try.func11, Try.ntmps11
  go_wp2
  clear hmk
  go_loopw [4] (fun i wr => ∃ k : Nat, k ≤ p.length + 70 ∧ i = .int .i64 k ∧ wr = w.alloc (.cells (bV (roomK p k)) 5)) (fun i _ => p.length + 70 - (intOf i).toNat)
  case atStart => exact ⟨0, by omega, rfl, rfl⟩
  case round =>
    obtain ⟨k, hk, rfl, rfl⟩ := hrel
    have hsz := bV_size (roomK p k)
    rw [roomK_length] at hsz
    by_cases hlt : k < p.length + 70
    · by_cases hn : k < p.length
      · obtain ⟨b, off, rfl, hbs, hc⟩ := hp.split (by intro e; subst e; simp at hn)
        have hck := hc k hn
        have hnear := roomK_near p k hn
        clear hc
        go_wp2
        go_roundw
        case rel => exact ⟨k + 1, by omega, by go_num, rfl⟩
        case measure => simp [intOf]; omega
      · have hfar := roomK_far p k (by omega)
        go_wp2
        go_roundw
        case rel => exact ⟨k + 1, by omega, by go_num, rfl⟩
        case measure => simp [intOf]; omega
    · obtain rfl : k = p.length + 70 := by omega
      rw [roomK_full]
      go_wp2
      go_ret
      exact ⟨rfl, rfl⟩

/-- 'stands' says yes of a roomy list that is as it was. -/
theorem stands_any (p : List UInt8) (a : Option Addr) (cap g c2 : Nat) (w : World) (hp : BytesAt w a p) (hl : p.length ≤ 1000000) (hg : BytesAt w (some ⟨g, 0, none⟩) (roomL p)) :
    Calls Try.prog 15 #[.slice (some ⟨g, 0, none⟩) (p.length + 70) c2, .slice a p.length cap] w fun e w' => e = .returned (.bool true) ∧ Below w.heap.size w w' := by
  obtain ⟨b2, o2, he, hb2, hr⟩ := hg.split (by intro e; have := roomL_length p; rw [e] at this; simp at this)
  simp only [Option.some.injEq, Addr.mk.injEq] at he
  obtain ⟨rfl, rfl, -⟩ := he
  have Hr := Lib.hid hr
  clear hr
  go_enter Try.func15, Try.ntmps15
  go_wp2
  go_loopw [5] (fun i wr => ∃ k : Nat, k ≤ p.length + 70 ∧ i = .int .i64 k ∧ Below w.heap.size w wr) (fun i _ => p.length + 70 - (intOf i).toNat)
  case atStart => exact ⟨0, by omega, rfl, Below.refl _ _⟩
  case round =>
    obtain ⟨k, hk, rfl, hb⟩ := hrel
    by_cases hlt : k < p.length + 70
    · have hw := Hr.out k (by rw [roomL_length]; exact hlt)
      rw [Nat.zero_add] at hw
      have hw2 : wr.cell? ⟨g, k, none⟩ = some (.int .u8 (((roomL p)[k]'(by rw [roomL_length]; exact hlt)).toNat : Int)) := by rw [← hw]; exact hb.cell hb2
      by_cases hn : k < p.length
      · obtain ⟨b, off, rfl, hbs, hc⟩ := hp.split (by intro e; subst e; simp at hn)
        have hck := (hb.cell (p := ⟨b, off + k, none⟩) hbs).trans (hc k hn)
        have he : (roomL p)[k]'(by rw [roomL_length]; exact hlt) = p[k] := by
          have := room_near p k hn
          rw [List.getElem?_eq_getElem (by rw [roomL_length]; exact hlt)] at this
          simpa using this
        rw [he] at hw2
        clear he hw hc Hr
        have hi1 : (k : Int) < (p.length : Int) := by omega
        have hi2 : decide (p.length ≤ k) = false := by simp; omega
        have hi3 : (k : Int) < (p.length : Int) + 70 := by omega
        have hi0 : (0 : Int) ≤ (k : Int) := by omega
        go_wp2_with fail
        go_quiet (fail)
        go_wp2
        go_roundw
        case rel => exact ⟨k + 1, by omega, by go_num, hb.drewN _⟩
        case measure => simp [intOf]; omega
      · have he : (roomL p)[k]'(by rw [roomL_length]; exact hlt) = UInt8.ofNat (161 + k % 7) := by
          have := room_far p k (by omega) hlt
          rw [List.getElem?_eq_getElem (by rw [roomL_length]; exact hlt)] at this
          simpa using this
        rw [he, ← mark_nat] at hw2
        clear he hw Hr
        have hi1 : decide (k < p.length) = false := by simp; omega
        have hi4 : decide (p.length ≤ k) = true := by simp; omega
        have hi2 : (p.length : Int) ≤ (k : Int) := by omega
        have hi3 : (k : Int) < (p.length : Int) + 70 := by omega
        have hi0 : (0 : Int) ≤ (k : Int) := by omega
        have q1 : (k : Int).tmod 7 = (k : Int) % 7 := Int.tmod_eq_emod_of_nonneg hi0
        have q2 : IntKind.i64.wrap (161 + (k : Int) % 7) = 161 + (k : Int) % 7 := by rw [IntKind.wrap_i64]; omega
        have q3 : IntKind.u8.wrap (161 + (k : Int) % 7) = 161 + (k : Int) % 7 := by rw [IntKind.wrap_u8]; omega
        go_wp2_with fail
        go_quiet (fail)
        clear q1 q2 q3
        go_wp2
        go_roundw
        case rel => exact ⟨k + 1, by omega, by go_num, hb.drewN _⟩
        case measure => simp [intOf]; omega
    · obtain rfl : k = p.length + 70 := by omega
      go_wp2
      go_ret
      exact ⟨rfl, hb⟩
end Go.Proofs.Ytggnjgnjgnlchaa
/- Walks: known. -/
namespace Go.Proofs.Ytggnjgnjgnlchaa
set_option linter.unusedVariables false
set_option linter.unusedSimpArgs false
open Go.RowKit
attribute [local go_sem high] slice8 slice8l slice8h

def kB : List UInt8 := [255] ++ sealB [97, 98]
theorem kB_length : kB.length = 11 := by simp [kB, sealB_length]
theorem kB_seal : sealF [255] [97, 98] = (0, kB) := rfl
theorem kB_nil : sealF [] [] = (2, []) := rfl
theorem kB_n1 : nextF kB 1 = .ok ([97, 98], 11) := by
  have := next_seal [255] [97, 98] [] (by decide) (by decide)
  rw [List.append_nil] at this
  exact (nextF_nat kB 1 (by rw [kB_length]; decide)).trans this
theorem kB_n11 : nextF kB 11 = .error 12 := by
  rw [show (11 : Int) = ((11 : Nat) : Int) from rfl, nextF_nat kB 11 (by rw [kB_length]; decide)]
  unfold nextN; rw [if_pos kB_length.symm]
theorem kB_z : nextF (List.replicate 9 0) 0 = .error 13 := by
  rw [show (0 : Int) = ((0 : Nat) : Int) from rfl, nextF_nat _ 0 (by simp)]
  unfold nextN
  rw [if_neg (by simp), if_neg (by simp)]
  dsimp only
  rw [if_pos (.inl (by decide))]
theorem kB_z9 : nextF [0, 0, 0, 0, 0, 0, 0, 0, 0] 0 = .error 13 := kB_z
theorem kB_whole : wholeN (sealB [97, 98]) = 10 := by
  have h := next_seal [] [97, 98] [] (by decide) (by decide)
  rw [List.append_nil, List.nil_append] at h
  have h2 : nextN (sealB [97, 98]) 10 = .error 12 := by
    unfold nextN; rw [if_pos (by rw [sealB_length]; rfl)]
  unfold wholeN
  have h3 : nextN (sealB [97, 98]) 0 = .ok ([97, 98], 10) := h
  rw [scanK_ok h3, scanK_err h2]
  rfl

set_option maxRecDepth 100000 in
set_option maxHeartbeats 4000000 in
theorem known_any (w : World) : Calls Try.prog 17 #[] w fun e w' => e = .returned (.bool true) ∧ Below w.heap.size w w' := by
  have k1 : ∀ (W : World) b1 b2 c2 fr1 fr2, W.heap[b1]? = some (.cells #[.int .u8 255] 5 fr1) → W.heap[b2]? = some (.cells #[.int .u8 97, .int .u8 98] 5 fr2) →
      Calls Try.prog 12 #[.slice (some ⟨b1, 0, none⟩) 1 1, .slice (some ⟨b2, 0, none⟩) 2 c2] W fun e w' => ∃ a c, e = .returned (.tuple #[.slice a 11 c, .int .i64 0]) ∧ OwnB W.heap.size w' a c kB ∧ Below W.heap.size W w' := fun W b1 b2 c2 fr1 fr2 h1 h2 => by
    refine (seal_any [255] [97, 98] (some ⟨b1, 0, none⟩) (some ⟨b2, 0, none⟩) 1 c2 W (bytesAt_bV h1) (bytesAt_bV h2) (by decide) (by decide)).mono ?_
    rintro e w' ⟨a, n, c, he, hn, ho, hb⟩
    rw [kB_seal] at he hn ho
    rw [show n = 11 from hn] at he
    exact ⟨a, c, he, ho, hb⟩
  have k2 : ∀ (W : World), Calls Try.prog 12 #[.slice none 0 0, .slice none 0 0] W fun e w' => ∃ a c, e = .returned (.tuple #[.slice a 0 c, .int .i64 2]) ∧ Below W.heap.size W w' := fun W => by
    refine (seal_any [] [] none none 0 0 W (BytesAt.nil _ _) (BytesAt.nil _ _) (by decide) (by decide)).mono ?_
    rintro e w' ⟨a, n, c, he, hn, ho, hb⟩
    rw [kB_nil] at he hn ho
    rw [show n = 0 from hn] at he
    exact ⟨a, c, he, hb⟩
  have k3 : ∀ (W : World) a c, OwnB 0 W a c kB → Calls Try.prog 16 #[.slice a 11 c, .int .i64 1] W fun e w' => ∃ a' c', e = .returned (.tuple #[.slice a' 2 c', .int .i64 11, .int .i64 0]) ∧ OwnB W.heap.size w' a' c' [97, 98] ∧ Below W.heap.size W w' := fun W a c ho => by
    have h := Next_any kB a c 1 W ho.at ho.le (by rw [kB_length]; decide) (by decide) (by decide)
    rw [kB_length] at h
    refine h.mono ?_
    rintro e w' ⟨a', n, c', he, hn, ho, hb⟩
    rw [kB_n1] at he hn ho
    rw [show n = 2 from hn] at he
    exact ⟨a', c', he, ho, hb⟩
  have k4 : ∀ (W : World) a c, OwnB 0 W a c kB → Calls Try.prog 16 #[.slice a 11 c, .int .i64 11] W fun e w' => ∃ a' c', e = .returned (.tuple #[.slice a' 0 c', .int .i64 0, .int .i64 12]) ∧ Below W.heap.size W w' := fun W a c ho => by
    have h := Next_any kB a c 11 W ho.at ho.le (by rw [kB_length]; decide) (by decide) (by decide)
    rw [kB_length] at h
    refine h.mono ?_
    rintro e w' ⟨a', n, c', he, hn, ho, hb⟩
    rw [kB_n11] at he hn ho
    rw [show n = 0 from hn] at he
    exact ⟨a', c', he, hb⟩
  have k5 : ∀ (W : World) b fr, W.heap[b]? = some (.cells (bV [0, 0, 0, 0, 0, 0, 0, 0, 0]) 5 fr) → Calls Try.prog 16 #[.slice (some ⟨b, 0, none⟩) 9 9, .int .i64 0] W fun e w' => ∃ a' c', e = .returned (.tuple #[.slice a' 0 c', .int .i64 0, .int .i64 13]) ∧ Below W.heap.size W w' := fun W b fr hb => by
    refine (Next_any [0, 0, 0, 0, 0, 0, 0, 0, 0] (some ⟨b, 0, none⟩) 9 0 W (bytesAt_bV hb) (by decide) (by decide) (by decide) (by decide)).mono ?_
    rintro e w' ⟨a', n, c', he, hn, ho, hb⟩
    rw [kB_z9] at he hn ho
    rw [show n = 0 from hn] at he
    exact ⟨a', c', he, hb⟩
  have k6 : ∀ (W : World) a c, OwnB 0 W a c kB → Calls Try.prog 21 #[.slice (subA a c 1) 10 (c - 1)] W fun e w' => e = .returned (.int .i64 10) ∧ Below W.heap.size W w' := fun W a c ho => by
    have h := whole_any ((kB.drop 1).take 10) (subA a c 1) (c - 1) W (ho.at.sub c 1 10 (by rw [kB_length]; decide) ho.le) (by decide)
    have e : (kB.drop 1).take 10 = sealB [97, 98] := by
      have : kB.drop 1 = sealB [97, 98] := rfl
      rw [this]; exact List.take_of_length_le (by rw [sealB_length]; decide)
    rw [e, kB_whole] at h
    exact h
  have K6 := Lib.hid k6
  have K1 := Lib.hid k1
  have K2 := Lib.hid k2
  have K3 := Lib.hid k3
  have K4 := Lib.hid k4
  have K5 := Lib.hid k5
  clear k1 k2 k3 k4 k5 k6
  have kc := Lib.run_convert_bytes_const (P := Try.prog) (w.alloc (.cells #[.int .u8 255] 5)) 22 5 #[.int .u8 97, .int .u8 98] 2 2 Try.underlying22 Try.underlying5
  rw [World.size_alloc] at kc
  have hA : ((w.alloc (.cells #[.int .u8 255] 5)).alloc (.cells #[.int .u8 97, .int .u8 98] 5 (2, 3))).heap[w.heap.size]? = some (.cells #[.int .u8 255] 5 (0, 0)) := heap_alloc2_old _ _ _
  have hB : ((w.alloc (.cells #[.int .u8 255] 5)).alloc (.cells #[.int .u8 97, .int .u8 98] 5 (2, 3))).heap[w.heap.size + 1]? = some (.cells #[.int .u8 97, .int .u8 98] 5 (2, 3)) := heap_alloc2_new _ _ _
  have hacc0 : Below w.heap.size w ((w.alloc (.cells #[.int .u8 255] 5)).alloc (.cells #[.int .u8 97, .int .u8 98] 5 (2, 3))) := ((Below.refl _ _).alloc (Nat.le_refl _) _).alloc (by simp) _
  have HA := Lib.hid hA
  have HB := Lib.hid hB
  clear hA hB
  have hmk : ∀ w : World, (Instr.makeSlice 22 (.int .i64 9) (.int .i64 9)).run Try.prog w = .ok (.slice (some ⟨w.heap.size, 0, none⟩) 9 9) (w.alloc (.cells (bV [0, 0, 0, 0, 0, 0, 0, 0, 0]) 5)) := fun w => make_bytes w 9 (by decide)
  go_enter Try.func17, Try.ntmps17
  go_upto_region 6 with (first
    | (go_at_call 12; (with_reducible refine (K1.out _ _ _ _ _ _ HA.out HB.out).mono ?_); rintro e w1 ⟨a1, c1, rfl, ho1, hb1⟩; have hacc1 := hacc0.trans (hb1.mono hacc0.size))
    | (go_at_call 12; (with_reducible refine (K2.out _).mono ?_); rintro e w2 ⟨a2, c2, rfl, hb2⟩; have ho2 := ho1.below (Nat.le_refl _) hb2; have hacc2 := hacc1.trans (hb2.mono hacc1.size))
    | (go_at_call 16; (with_reducible refine (K3.out _ a1 c1 (ho2.mono (Nat.zero_le _))).mono ?_); rintro e w3 ⟨a3, c3, rfl, hq3, hb3⟩; have ho3 := ho2.below (Nat.le_refl _) hb3; have hacc3 := hacc2.trans (hb3.mono hacc2.size))
    | (go_at_call 16; (with_reducible refine (K4.out _ a1 c1 (ho3.mono (Nat.zero_le _))).mono ?_); rintro e w4 ⟨a4, c4, rfl, hb4⟩; have ho4 := ho3.below (Nat.le_refl _) hb4; have hq4 := hq3.below (Nat.le_refl _) hb4; have hacc4 := hacc3.trans (hb4.mono hacc3.size))
    | (go_at_call 16; (with_reducible refine (K5.out _ _ _ (heap_alloc_new _ _)).mono ?_); rintro e w5 ⟨a5, c5, rfl, hb5⟩))
  have hacc5 := acc_new hacc4 hb5 (Nat.le_refl _)
  have ho5 := ho4.below (Nat.le_refl _) (below_new (w := w) hb5)
  have hq5 := hq4.below (Nat.le_refl _) (below_new (w := w) hb5)
  have hw := K6.out w5 a1 c1 (ho5.mono (Nat.zero_le _))
  obtain ⟨b1, o1, rfl, hbs1, hcc1⟩ := ho5.at.split (by decide)
  have hd0 : w5.cell? ⟨b1, o1 + 0, none⟩ = some (.int .u8 255) := hcc1 0 (by decide)
  have hd1 : w5.cell? ⟨b1, o1 + 1, none⟩ = some (.int .u8 2) := hcc1 1 (by decide)
  obtain ⟨b3, o3, rfl, hbs3, hcc3⟩ := hq5.at.split (by decide)
  have hle5 := ho5.le
  clear hcc1 hbs1
  rw [Nat.add_zero] at hd0
  have hv : (convert 22 9 (.slice (some ⟨b3, o3, none⟩) 2 c3)).run Try.prog w5 = .ok (.string ⟨#[97, 98]⟩) w5 := run_convert_bytes_back (P := Try.prog) w5 22 9 5 ⟨b3, o3, none⟩ c3 [97, 98] Try.underlying22 Try.underlying5 Try.underlying9 (fun j hj => by rw [addr_add]; exact hcc3 j hj)
  clear hcc3
  go_wp2_with (go_at_call 21; (with_reducible refine hw.mono ?_); rintro e w6 ⟨rfl, hb6⟩)
  go_ret
  exact ⟨rfl, hacc5.trans (hb6.mono hacc5.size)⟩
end Go.Proofs.Ytggnjgnjgnlchaa
/- frame: its functions as the kernel wants them -/
namespace Go.Proofs.Ytggnjgnjgnlchaa
set_option linter.unusedVariables false
set_option linter.unusedSimpArgs false
open Go.RowKit
set_option maxRecDepth 100000
set_option maxHeartbeats 4000000
theorem own_holds {base : Nat} {w : World} {a : Option Addr} {c : Nat} {p : List UInt8} (h : OwnB base w a c p) : ∃ r : Option Nat, a = r.map (fun b => ⟨b, 0, none⟩) ∧ (∀ ρ, (AO.bytes p c 5).holds ρ r w) ∧ c ≤ 9223372036854775807 ∧ ∀ b, r = some b → base ≤ b ∧ b < w.heap.size := by
  rcases h.form with ⟨rfl, rfl, rfl⟩ | ⟨g, cur, rfl, hb, hg, h1, h2, h3, h4⟩
  · exact ⟨none, rfl, fun ρ => ⟨by simp, .inl ⟨rfl, rfl⟩⟩, by omega, fun b hb => by cases hb⟩
  · refine ⟨some g, rfl, fun ρ => ⟨h1, .inr ⟨g, cur, rfl, hg, h3, fun i hi => ?_⟩⟩, h2, fun b hb' => by cases hb'; exact ⟨hb, (Array.getElem?_eq_some_iff.1 hg).1⟩⟩
    have h5 : (bV p).toList[i]? = some (byteV p[i]) := by
      rw [Array.getElem?_toList]; exact bV_get p i hi
    rw [← h4, List.getElem?_take] at h5
    simpa [hi] using h5
/-- a contract that hands back a list of bytes in a row of its own, among other things -/
theorem Spec.of_own {P : Program} {f : FuncId} {avs : List AV} {h0 : List AO} (p : List UInt8) (mk : Value → Value) (mkA : AV → AV) (hmk : ∀ ρ v, (mkA v).conc ρ = mk (v.conc ρ))
    (h : ∀ (ρ : Env) (w : World), (∀ (i : Nat) (o : AO), h0[i]? = some o → o.holds ρ (ρ i) w) → Calls P f (AV.concs ρ avs).toArray w fun e w' => ∃ a c, e = .returned (mk (.slice a p.length c)) ∧ OwnB w.heap.size w' a c p ∧ Below w.heap.size w w') :
    Spec P f avs h0 (h0.length + 1) (σ := Nat) (fun c => c ≤ 9223372036854775807) (fun c => mkA (.sl h0.length 1 0 p.length c)) (fun c => [(h0.length, .bytes p c 5)]) := fun ρ w h1 h2 h3 => by
  refine (h ρ w h1).mono ?_
  rintro e w' ⟨a, c, rfl, ho, hb⟩
  obtain ⟨r, rfl, hh, hc, hr⟩ := own_holds ho
  have hk1 : ∀ l o, hk l [(h0.length, AO.bytes p c 5)] = some o → l = h0.length ∧ o = .bytes p c 5 := fun l o hl => by
    rw [hk_cons] at hl
    split at hl
    · rename_i e; simp only [Option.some.injEq] at hl; exact ⟨e.symm, hl.symm⟩
    · simp [hk, lk] at hl
  have key : (mkA (.sl h0.length 1 0 p.length c)).conc (fun l => if l < h0.length then ρ l else if l = h0.length then r else none) = mk (.slice (r.map fun b => ⟨b, 0, none⟩) p.length c) := by
    rw [hmk]; simp [AV.conc]
  refine ⟨c, fun l => if l < h0.length then ρ l else if l = h0.length then r else none, hc, fun i hi => if_pos hi, by rw [key], fun ρ' he => ?_, ⟨hb.os, hb.tape, hb.output, hb.size, fun b hb' _ => hb.block b hb'⟩, fun l o hl => ?_, fun l l' b hl hl' _ _ => ?_, fun l b hl hb' => ?_, fun l b h4 hl hb' => ?_, fun i o hi hl _ => ?_⟩
  · rw [hmk, hmk]
    congr 1
    have := he h0.length (by omega)
    simp only [AV.conc, this]
  · obtain ⟨rfl, rfl⟩ := hk1 l o hl
    refine ⟨by omega, AO.Low.bytes _ _ _ _ _, ?_⟩
    simpa using hh _
  · obtain ⟨o, ho, _⟩ := hl
    obtain ⟨rfl, _⟩ := hk1 l o ho
    cases hx : hk l' [(h0.length, AO.bytes p c 5)] with
    | none => exact absurd hx hl'
    | some o' => exact (hk1 l' o' hx).1.symm
  · dsimp only at hb'
    split at hb'
    · rename_i h4
      have := h3 l b h4 hb'
      have := hb.size
      omega
    · split at hb'
      · exact (hr b hb').2
      · cases hb'
  · dsimp only at hb'
    rw [if_neg (by omega)] at hb'
    split at hb'
    · exact .inl (hr b hb').1
    · cases hb'
  · obtain ⟨rfl, _⟩ := hk1 i o hl
    omega
abbrev ownS (k : Nat) (p : List UInt8) (c : Nat) : List (Nat × AO) := [(k, .bytes p c 5)]
theorem clone_spec (off c : Nat) (p : List UInt8) (hl : p.length ≤ 1000000000) : Spec Try.prog 36 [.sl 0 1 off p.length c] [roBo off p] 2 (σ := Nat) (fun c => c ≤ 9223372036854775807) (fun c => .sl 1 1 0 p.length c) (fun c => [(1, .bytes p c 5)]) :=
  Spec.of_own p id id (fun _ _ => rfl) fun ρ w h => clone_any p _ c w (ro_at (h 0 _ rfl)) (by omega)
theorem seal_spec (o1 o2 c1 c2 : Nat) (d p : List UInt8) (hl : p.length ≤ 1000000) (hl2 : d.length ≤ 1000000000) : Spec Try.prog 12 [.sl 0 1 o1 d.length c1, .sl 1 1 o2 p.length c2] [roBo o1 d, roBo o2 p] 3 (σ := Nat) (fun c => c ≤ 9223372036854775807) (fun c => .tup [.sl 2 1 0 (sealF d p).2.length c, .raw (.int .i64 (sealF d p).1)]) (fun c => [(2, .bytes (sealF d p).2 c 5)]) :=
  Spec.of_own (sealF d p).2 (fun v => .tuple #[v, .int .i64 (sealF d p).1]) (fun v => .tup [v, .raw (.int .i64 (sealF d p).1)]) (fun _ _ => rfl) fun ρ w h => (seal_any d p _ _ c1 c2 w (ro_at (h 0 _ rfl)) (ro_at (h 1 _ rfl)) hl hl2).mono fun e w' ⟨a, n, c, h1, h2, h3, h4⟩ => ⟨a, c, by rw [h1, h2], h3, h4⟩
theorem nexts_spec (off c : Nat) (p : List UInt8) (k : Int) (hc : p.length ≤ c) (hl : p.length ≤ 1000000000) (hk0 : -9223372036854775808 ≤ k) (hk1 : k ≤ 9223372036854775807) : Spec Try.prog 16 [.sl 0 1 off p.length c, .raw (.int .i64 k)] [roBo off p] 2 (σ := Nat) (fun c => c ≤ 9223372036854775807) (fun c => .tup [.sl 1 1 0 (nxB (nextF p k)).length c, .raw (.int .i64 (nxE (nextF p k))), .raw (.int .i64 (nxX (nextF p k)))]) (fun c => [(1, .bytes (nxB (nextF p k)) c 5)]) :=
  Spec.of_own (nxB (nextF p k)) (fun v => .tuple #[v, .int .i64 (nxE (nextF p k)), .int .i64 (nxX (nextF p k))]) (fun v => .tup [v, .raw (.int .i64 (nxE (nextF p k))), .raw (.int .i64 (nxX (nextF p k)))]) (fun _ _ => rfl) fun ρ w h => (Next_any p _ c k w (ro_at (h 0 _ rfl)) hc hl hk0 hk1).mono fun e w' ⟨a, n, c, h1, h2, h3, h4⟩ => ⟨a, c, by rw [h1, h2], h3, h4⟩
theorem rnexts_spec (off c : Nat) (p : List UInt8) (k : Int) (hc : p.length ≤ c) (hl : p.length ≤ 1000000000) (hk0 : -9223372036854775808 ≤ k) (hk1 : k ≤ 9223372036854775807) : Spec Try.prog 18 [.sl 0 1 off p.length c, .raw (.int .i64 k)] [roBo off p] 2 (σ := Nat) (fun c => c ≤ 9223372036854775807) (fun c => .tup [.sl 1 1 0 (nxB (nextF p k)).length c, .raw (.int .i64 (nxE (nextF p k))), .raw (.int .i64 (nxX (nextF p k)))]) (fun c => [(1, .bytes (nxB (nextF p k)) c 5)]) :=
  Spec.of_own (nxB (nextF p k)) (fun v => .tuple #[v, .int .i64 (nxE (nextF p k)), .int .i64 (nxX (nextF p k))]) (fun v => .tup [v, .raw (.int .i64 (nxE (nextF p k))), .raw (.int .i64 (nxX (nextF p k)))]) (fun _ _ => rfl) fun ρ w h => (rNext_any p _ c k w (ro_at (h 0 _ rfl)) hc hl hk0 hk1).mono fun e w' ⟨a, n, c, h1, h2, h3, h4⟩ => ⟨a, c, by rw [h1, h2], h3, h4⟩
theorem rseals_spec (off c : Nat) (p : List UInt8) (hl : p.length ≤ 1000000000) : Spec Try.prog 13 [.sl 0 1 off p.length c] [roBo off p] 2 (σ := Nat) (fun c => c ≤ 9223372036854775807) (fun c => .sl 1 1 0 (sealB p).length c) (fun c => [(1, .bytes (sealB p) c 5)]) :=
  Spec.of_own (sealB p) id id (fun _ _ => rfl) fun ρ w h => rseal_any p _ c w (ro_at (h 0 _ rfl)) hl
theorem same_spec (o1 o2 c1 c2 : Nat) (p q : List UInt8) (hl : p.length ≤ 1000000000) : Spec Try.prog 14 [.sl 0 1 o1 p.length c1, .sl 1 1 o2 q.length c2] [roBo o1 p, roBo o2 q] 2 (σ := Unit) (fun _ => True) (fun _ => .raw (.bool (decide (p = q)))) (fun _ => []) :=
  Spec.of_below (by simp) fun ρ w h => same_any p q _ _ c1 c2 w (ro_at (h 0 _ rfl)) (ro_at (h 1 _ rfl)) hl
theorem whole_spec (off c : Nat) (p : List UInt8) (hl : p.length ≤ 1000000000) : Spec Try.prog 21 [.sl 0 1 off p.length c] [roBo off p] 1 (σ := Unit) (fun _ => True) (fun _ => .raw (.int .i64 (wholeN p : Nat))) (fun _ => []) :=
  Spec.of_below (by simp) fun ρ w h => whole_any p _ c w (ro_at (h 0 _ rfl)) hl
theorem known_spec : Spec Try.prog 17 [] [] 0 (σ := Unit) (fun _ => True) (fun _ => .raw (.bool true)) (fun _ => []) :=
  Spec.of_below (by simp) fun ρ w h => known_any w
theorem ro_at0 {ρ : Env} {r : Option Nat} {w : World} {p : List UInt8} (h : (roBo 0 p).holds ρ r w) (g : Nat) (hg : r = some g) : BytesAt w (some ⟨g, 0, none⟩) p := by
  have := ro_at h
  rw [hg] at this
  simpa using this
theorem stands_spec (o2 c1 c2 : Nat) (p : List UInt8) (hl : p.length ≤ 1000000) : Spec Try.prog 15 [.sl 0 1 0 (p.length + 70) c1, .sl 1 1 o2 p.length c2] [roBo 0 (roomL p), roBo o2 p] 2 (σ := Unit) (fun _ => True) (fun _ => .raw (.bool true)) (fun _ => []) :=
  Spec.of_below (by simp) fun ρ w h => by
    obtain ⟨g, hg⟩ : ∃ g, ρ 0 = some g := by
      rcases h 0 _ rfl with ⟨_, h2⟩ | ⟨b, _, _, _, hb, _⟩
      · rw [roomL_length] at h2; omega
      · exact ⟨b, hb⟩
    have := stands_any p _ c2 g c1 w (ro_at (h 1 _ rfl)) hl (ro_at0 (h 0 _ rfl) g hg)
    simpa [AV.concs, AV.conc, hg] using this
theorem roomy_spec (off c : Nat) (p : List UInt8) (hl : p.length ≤ 1000000) : Spec Try.prog 11 [.sl 0 1 off p.length c] [roBo off p] 2 (σ := Nat) (fun c => c ≤ 9223372036854775807) (fun c => .sl 1 1 0 (roomL p).length c) (fun c => [(1, .bytes (roomL p) c 5)]) :=
  Spec.of_own (roomL p) id id (fun _ _ => rfl) fun ρ w h => (roomy_any p _ c w (ro_at (h 0 _ rfl)) hl).mono fun e w' ⟨h1, h2⟩ => by
    subst h2
    refine ⟨some ⟨w.heap.size, 0, none⟩, p.length + 70, by rw [h1, roomL_length]; rfl, ?_, Below.alloc (Below.refl _ _) (Nat.le_refl _) _⟩
    refine ⟨by rw [bV_toList_length, Nat.mul_one], .inr ⟨w.heap.size, p.length + 70, bV (roomL p), by rw [roomL_length], Nat.le_refl _, Array.getElem?_push_size, by rw [roomL_length]; omega, by unfold maxLen; omega, by simp [bV_size, roomL_length], ?_⟩⟩
    rw [Nat.mul_one]
    have := bV_toList_length (roomL p)
    rw [← this]
    exact List.take_length
end Go.Proofs.Ytggnjgnjgnlchaa
