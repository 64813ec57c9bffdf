/- Walks: the reference's Seal, Next. -/
import Derived.Test.YtggnjgnjgnlchaaFrG
import Derived.Test.YtggnjgnjgnlchaaFrD
namespace Go.Proofs.Ytggnjgnjgnlchaa
set_option linter.unusedVariables false
set_option linter.unusedSimpArgs false
open Go.RowKit
attribute [local go_sem high] slice8 slice8l slice8h

set_option maxHeartbeats 1000000 in
theorem rseal_any (p : List UInt8) (a : Option Addr) (cap : Nat) (w : World) (hp : BytesAt w a p) (hl : p.length ≤ 1000000000) :
    Calls Try.prog 13 #[.slice a p.length cap] w (RetB w (sealB p)) := by
  have h1 := low_any p.length (by omega) w
  have hs := v32_lt (crcUpdate (crcOf (leB p.length)) p)
  have hsum : v32 (crcUpdate (crcOf (leB p.length)) p) = (sumOf p).toNat := rfl
  go_enter Try.func13, Try.ntmps13
  go_wp2_with (first
    | (go_at_call 33; (with_reducible refine h1.mono ?_); rintro e w1 ⟨a1, c1, rfl, ho1, hb1⟩; have h2 := sum_any (leB p.length) p a1 a c1 cap w1 ho1.at (hp.below (Nat.le_refl _) hb1) (by omega) (by simp [leB_length]); rw [leB_length] at h2)
    | (go_at_call 34; (with_reducible refine h2.mono ?_); rintro e w2 ⟨rfl, rfl⟩; have h3 := low_any _ hs w2; rw [hsum] at h3)
    | (go_at_call 33; (with_reducible refine h3.mono ?_); rintro e w3 ⟨a3, c3, rfl, ho3, hb3⟩; have ho4 := ho1.below (Nat.le_refl _) hb3; have hs4 := hb1.size; have hb4 := hb1.trans (hb3.mono hs4); have hl4 : (leB p.length).length + (leB (sumOf p).toNat).length ≤ 140737488355328 := by simp [leB_length])
    | (with_reducible refine wpList_append_bytes rfl (.tmp 11) (.tmp 13) rfl w.heap.size a1 _ c1 (leB p.length) rfl rfl ho4 a3 _ c3 (leB (sumOf p).toNat) rfl rfl ho3.at hl4 hb4.size ?_; intro a5 c5 w5 ho5 hg5 hat5; have hb5 := below_grown hb4 hg5 (fun j hj => (ho4.lt j hj).1) (Nat.le_refl _); have hp5 := hp.below (Nat.le_refl _) hb5; have hl5 : (leB p.length ++ leB (sumOf p).toNat).length + p.length ≤ 140737488355328 := by simp [leB_length]; omega)
    | (with_reducible refine wpList_append_bytes rfl (.tmp 15) (.tmp 16) rfl w.heap.size a5 _ c5 (leB p.length ++ leB (sumOf p).toNat) rfl rfl ho5 a _ cap p rfl rfl hp5 hl5 hb5.size ?_; intro a6 c6 w6 ho6 hg6 hat6))
  go_ret
  refine ⟨a6, c6, ?_, ?_, below_grown hb5 hg6 (fun j hj => (ho5.lt j hj).1) (Nat.le_refl _)⟩
  · simp [sealB, headB, Nat.add_assoc]
  · exact ho6

set_option maxRecDepth 100000 in
set_option maxHeartbeats 2000000 in
theorem rNext_any (p : List UInt8) (a : Option Addr) (cap : Nat) (k : Int) (w : World) (hp : BytesAt w a p) (hc : p.length ≤ cap) (hl : p.length ≤ 1000000000) (hk0 : -9223372036854775808 ≤ k) (hk1 : k ≤ 9223372036854775807) :
    Calls Try.prog 18 #[.slice a p.length cap, .int .i64 k] w (RetNx (nextF p k) w) := by
  have err : ∀ x : Nat, nextF p k = .error x → ∀ w', Below w.heap.size w w' → RetNx (nextF p k) w (.returned (.tuple #[.slice none 0 0, .int .i64 0, .int .i64 (x : Int)])) w' := fun x h w' hw =>
    ⟨none, 0, 0, by rw [h]; rfl, by rw [h]; rfl, by rw [h]; exact OwnB.nil _ _, hw⟩
  go_enter Try.func18, Try.ntmps18
  by_cases h1 : k < 0
  · have E := err 1 (by unfold nextF; rw [if_pos (.inl h1)]) w (Below.refl _ _)
    go_wp2
    go_ret3
    exact E
  have hk2 : 0 ≤ k := by omega
  by_cases h2 : (p.length : Int) < k
  · have E := err 1 (by unfold nextF; rw [if_pos (.inr h2)]) w (Below.refl _ _)
    go_wp2
    go_ret3
    exact E
  obtain ⟨m, rfl⟩ := Int.eq_ofNat_of_zero_le hk2
  have hN : nextF p (m : Int) = nextN p m := by unfold nextF; rw [if_neg (by omega)]; rfl
  rw [hN] at err ⊢
  clear hN hk0 hk1 hk2 h1
  by_cases h3 : m = p.length
  · have E := err 12 (by unfold nextN; rw [if_pos h3]) w (Below.refl _ _)
    subst h3
    go_wp2
    go_ret3
    exact E
  by_cases h4 : p.length - m < 8
  · have E := err 13 (by unfold nextN; rw [if_neg h3, if_pos h4]) w (Below.refl _ _)
    have h5 : (p.length : Int) - (m : Int) < 8 := by omega
    go_wp2
    go_ret3
    exact E
  have h5 : ¬ (p.length : Int) - (m : Int) < 8 := by omega
  have hn4 := le4_lt (p.drop m)
  have s2 := hp.sub cap m 4 (by omega) hc
  have l2 : ((p.drop m).take 4).length = 4 := by simp; omega
  have hw1 := number_any ((p.drop m).take 4) (subA a cap m) (cap - m) w s2 l2
  rw [le4_take _ (by simp; omega)] at hw1
  obtain ⟨n, hn⟩ : ∃ n, n = le4 (p.drop m) := ⟨_, rfl⟩
  rw [← hn] at hw1 hn4
  have Hn := Lib.hid hn
  have HP := Lib.hid hp
  clear hn hp s2 l2
  have hm1 : (0 : Int) ≤ (m : Int) := by omega
  have hm2 : (m : Int) ≤ (m : Int) + 4 := by omega
  have hm3 : (m : Int) + 4 ≤ (cap : Int) := by omega
  have em : m + 4 - m = 4 := by omega
  by_cases b1 : n = 0
  · have E := err 13 (by unfold nextN; rw [if_neg h3, if_neg h4]; dsimp only; rw [← Hn.out, if_pos (.inl b1)])
    subst b1
    go_wp2_with (go_at_call 37; rw [em]; with_reducible refine hw1.mono ?_; rintro e w1 ⟨rfl, hb1⟩)
    go_ret3
    exact E _ hb1
  by_cases b2 : 65536 < n
  · have E := err 13 (by unfold nextN; rw [if_neg h3, if_neg h4]; dsimp only; rw [← Hn.out, if_pos (.inr (.inl b2))])
    have b3 : (65536 : Int) < (n : Int) := by omega
    go_wp2_with (go_at_call 37; rw [em]; with_reducible refine hw1.mono ?_; rintro e w1 ⟨rfl, hb1⟩)
    go_ret3
    exact E _ hb1
  have b3 : ¬ (65536 : Int) < (n : Int) := by omega
  by_cases b4 : p.length - m - 8 < n
  · have E := err 13 (by unfold nextN; rw [if_neg h3, if_neg h4]; dsimp only; rw [← Hn.out, if_pos (.inr (.inr b4))])
    have b5 : (p.length : Int) - (m : Int) - 8 < (n : Int) := by omega
    go_wp2_with (go_at_call 37; rw [em]; with_reducible refine hw1.mono ?_; rintro e w1 ⟨rfl, hb1⟩)
    go_ret3
    exact E _ hb1
  have b5 : ¬ (p.length : Int) - (m : Int) - 8 < (n : Int) := by omega
  have c1 : (0 : Int) ≤ (m : Int) + 8 := by omega
  have c2 : (m : Int) + 8 ≤ (m : Int) + 8 + (n : Int) := by omega
  have c3 : (m : Int) + 8 + (n : Int) ≤ (cap : Int) := by omega
  have b9 : (1 : Int) ≤ (n : Int) ∧ (n : Int) ≤ 65536 ∧ (n : Int) ≤ (p.length : Int) - (m : Int) - 8 := ⟨by omega, by omega, by omega⟩
  have b10 : ((1 : Int) ≤ (n : Int) ∧ (n : Int) ≤ 65536) ∧ (n : Int) ≤ (p.length : Int) - (m : Int) - 8 := ⟨⟨by omega, by omega⟩, by omega⟩
  go_wp2_with (go_at_call 37; rw [em]; with_reducible refine hw1.mono ?_; rintro e w1 ⟨rfl, hb1⟩)
  clear c1 c2 c3 b9 b10
  have e1 : m + 8 + n - (m + 8) = n := by omega
  rw [e1]
  have c1 : (0 : Int) ≤ (m : Int) + 4 := by omega
  have c2 : (m : Int) + 4 ≤ (m : Int) + 8 := by omega
  have c3 : (m : Int) + 8 ≤ (cap : Int) := by omega
  have hp := HP.out.below (Nat.le_refl _) hb1
  have s1 := hp.sub cap (m + 4) 4 (by omega) hc
  have s2 := hp.sub cap m 4 (by omega) hc
  have s3 := hp.sub cap (m + 8) n (by omega) hc
  have l1 : ((p.drop (m + 4)).take 4).length = 4 := by simp; omega
  have l2 : ((p.drop m).take 4).length = 4 := by simp; omega
  have l3 : ((p.drop (m + 8)).take n).length = n := by simp; omega
  obtain ⟨x1, hx1⟩ : ∃ x, x = le4 (p.drop (m + 4)) := ⟨_, rfl⟩
  have hx2 : le4 ((p.drop (m + 4)).take 4) = x1 := by rw [hx1]; exact le4_take _ (by simp; omega)
  have hx3 : x1 < 4294967296 := by rw [hx1]; exact le4_lt _
  obtain ⟨y2, hy2⟩ : ∃ x, x = crcUpdate (crcOf ((p.drop m).take 4)) ((p.drop (m + 8)).take n) := ⟨_, rfl⟩
  have q1 : ∀ u : InC (Below w1.heap.size w1), Calls Try.prog 37 #[.slice (subA a cap (m + 4)) (m + 8 - (m + 4)) (cap - (m + 4))] u.val fun e w'' => e = .returned (.int .i64 (x1 : Int)) ∧ ∃ y : InC (Below w1.heap.size w1), w'' = y.val := fun u => by
    have := number_any ((p.drop (m + 4)).take 4) (subA a cap (m + 4)) (cap - (m + 4)) u.val (s1.below (Nat.le_refl _) u.property) l1
    rw [hx2] at this
    rw [show m + 8 - (m + 4) = 4 by omega]
    exact cls_call (this.mono fun e w' ⟨he, hb'⟩ => ⟨he, u.property.trans (hb'.mono u.property.size)⟩)
  have q2 : ∀ u : InC (Below w1.heap.size w1), Calls Try.prog 34 #[.slice (subA a cap m) (m + 4 - m) (cap - m), .slice (subA a cap (m + 8)) n (cap - (m + 8))] u.val fun e w'' => e = .returned (.int .i64 (v32 y2 : Int)) ∧ ∃ y : InC (Below w1.heap.size w1), w'' = y.val := fun u => by
    have := sum_any ((p.drop m).take 4) ((p.drop (m + 8)).take n) (subA a cap m) (subA a cap (m + 8)) (cap - m) (cap - (m + 8)) u.val (s2.below (Nat.le_refl _) u.property) (s3.below (Nat.le_refl _) u.property) (by rw [l3]; omega) (by rw [l2]; omega)
    rw [l2, l3, ← hy2] at this
    rw [show m + 4 - m = 4 by omega]
    exact cls_call (this.mono fun e w' ⟨he, hb'⟩ => ⟨he, by rw [hb']; exact u.property⟩)
  have Hx1 := Lib.hid hx1
  have Hy2 := Lib.hid hy2
  have hne : Nonempty (InC (Below w1.heap.size w1)) := ⟨⟨w1, Below.refl _ _⟩⟩
  have w4 : IntKind.i64.wrap ((m : Int) + 4) = (m : Int) + 4 := by rw [IntKind.wrap_i64]; omega
  have w8 : IntKind.i64.wrap ((m : Int) + 8) = (m : Int) + 8 := by rw [IntKind.wrap_i64]; omega
  have c5 : (0 : Int) ≤ (m : Int) := by omega
  have c6 : (m : Int) + 4 ≤ (cap : Int) := by omega
  clear hw1 s1 s2 l1 l2 hx1 hy2 hp hx2
  refine region_quiet (Cls (Below w1.heap.size w1)) (by kernel_rfl) (by kernel_rfl) (cls_in (Below.refl _ _).drew) ?_
  repeat quiet_step ((first | exact q1 _ | exact q2 _))
  refine wpQuiet_nil ?_
  rintro w2 ⟨⟨w3, hb3⟩, hw⟩
  obtain rfl : w2 = w3 := hw
  clear q1 q2 hne w4 w8 c1 c2 c3 c5 c6
  have hb4 := hb1.trans (hb3.mono hb1.size)
  have hkey : (BitVec.ofNat 32 (le4 (p.drop (m + 4))) = crcUpdate (crcOf ((p.drop m).take 4)) ((p.drop (m + 8)).take n)) ↔ v32 y2 = x1 := by
    rw [← Hx1.out, ← Hy2.out]
    constructor
    · intro h; rw [← h, v32_ofNat hx3]
    · intro h; rw [← h]; simp [v32]
  by_cases hxy : v32 y2 = x1
  · have hN : nextN p m = .ok ((p.drop (m + 8)).take n, m + 8 + n) := by
      unfold nextN; rw [if_neg h3, if_neg h4]; dsimp only; rw [← Hn.out, if_neg (by omega), if_pos (hkey.mpr hxy)]
    have hf : ((v32 y2 : Int) != (x1 : Int)) = false := by rw [hxy]; simp
    have s4 := s3.below (Nat.le_refl _) hb3
    have E : ∀ a' c' w', OwnB w.heap.size w' a' c' ((p.drop (m + 8)).take n) → w2.grownBy w' (blkOf none) → RetNx (nextN p m) w (.returned (.tuple #[.slice a' n c', .int .i64 ((m : Int) + 8 + (n : Int)), .int .i64 0])) w' := fun a' c' w' ho hg =>
      ⟨a', n, c', by rw [hN]; simp [nxE, nxX], by rw [hN]; exact l3.symm, by rw [hN]; exact ho, below_grown hb4 hg (by intro k hk; simp [blkOf] at hk) (Nat.le_refl _)⟩
    have HE := Lib.hid E
    have ho := OwnB.nil w.heap.size w2
    have hsz := hb4.size
    have hl4 : ([] : List UInt8).length + ((p.drop (m + 8)).take n).length ≤ 140737488355328 := by rw [l3]; simp; omega
    have hl5 : n = ((p.drop (m + 8)).take n).length := l3.symm
    have Hl3 := Lib.hid l3
    have Hl5 := Lib.hid hl5
    clear hkey hN Hx1 Hy2 s3 l3 err E hl5
    go_wp2_with (with_reducible refine wpList_append_bytes rfl (.tmp 71) (.tmp 72) rfl w.heap.size none _ 0 [] rfl rfl ho _ _ _ ((p.drop (m + 8)).take n) rfl Hl5.out s4 hl4 hsz ?_; intro a' c' w' ho' hg hat; rw [List.nil_append] at ho'; rw [Hl3.out]; have E := HE.out a' c' w' ho' hg)
    go_ret3
    exact E
  · have E := err 13 (by unfold nextN; rw [if_neg h3, if_neg h4]; dsimp only; rw [← Hn.out, if_neg (by omega), if_neg (fun h => hxy (hkey.mp h))]) _ hb4
    clear hkey Hx1 Hy2 s3 l3 err
    have hf : ((v32 y2 : Int) != (x1 : Int)) = true := by simp only [bne_iff_ne, ne_eq]; omega
    go_wp2
    go_ret3
    exact E
end Go.Proofs.Ytggnjgnjgnlchaa
