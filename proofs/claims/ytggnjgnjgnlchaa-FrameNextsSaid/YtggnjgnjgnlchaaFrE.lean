/- Walks of package frame: next, Next. -/
import Derived.Test.YtggnjgnjgnlchaaFrC
import Derived.Test.YtggnjgnjgnlchaaFrB
import Derived.Deep.DeepCutAuto
import Derived.Deep.CutBlock
namespace Go.Proofs.Ytggnjgnjgnlchaa
set_option linter.unusedVariables false
set_option linter.unusedSimpArgs false
open Go.RowKit

def nxB (r : Except Nat (List UInt8 × Nat)) : List UInt8 := match r with | .ok (b, _) => b | .error _ => []
def nxE (r : Except Nat (List UInt8 × Nat)) : Int := match r with | .ok (_, e) => e | .error _ => 0
def nxX (r : Except Nat (List UInt8 × Nat)) : Int := match r with | .ok _ => 0 | .error x => x
def RetN (r : Except Nat (List UInt8 × Nat)) (w : World) (e : Ending) (w' : World) : Prop :=
  ∃ a n c, e = .returned (.tuple #[.slice a n c, .int .i64 (nxE r), .int .i64 (nxX r)]) ∧ n = (nxB r).length ∧ BytesAt w' a (nxB r) ∧ n ≤ c ∧ Below w.heap.size w w'
attribute [local go_sem high] slice8 slice8l slice8h

set_option maxHeartbeats 1000000 in
theorem next_any (p : List UInt8) (a : Option Addr) (cap : Nat) (k : Int) (w : World) (hp : BytesAt w a p) (hc : p.length ≤ cap) (hl : p.length ≤ 1000000000) (hk0 : -9223372036854775808 ≤ k) (hk1 : k ≤ 9223372036854775807) :
    Calls Try.prog 35 #[.slice a p.length cap, .int .i64 k] w (RetN (nextF p k) w) := by
  have err : ∀ x : Nat, nextF p k = .error x → RetN (nextF p k) w (.returned (.tuple #[.slice none 0 0, .int .i64 0, .int .i64 (x : Int)])) w := fun x h =>
    ⟨none, 0, 0, by rw [h]; rfl, by rw [h]; rfl, by rw [h]; exact BytesAt.nil _ _, Nat.le_refl _, Below.refl _ _⟩
  go_enter Try.func35, Try.ntmps35
  by_cases h1 : k < 0
  · have E := err 1 (by unfold nextF; rw [if_pos (.inl h1)])
    go_wp2
    go_ret3
    exact E
  have hk2 : 0 ≤ k := by omega
  by_cases h2 : (p.length : Int) < k
  · have E := err 1 (by unfold nextF; rw [if_pos (.inr h2)])
    go_wp2
    go_ret3
    exact E
  obtain ⟨m, rfl⟩ := Int.eq_ofNat_of_zero_le hk2
  have hN : nextF p (m : Int) = nextN p m := by unfold nextF; rw [if_neg (by omega)]; rfl
  rw [hN] at err ⊢
  clear hN hk0 hk1 hk2 h1
  by_cases h3 : m = p.length
  · have E := err 12 (by unfold nextN; rw [if_pos h3])
    subst h3
    go_wp2
    go_ret3
    exact E
  by_cases h4 : p.length - m < 8
  · have E := err 13 (by unfold nextN; rw [if_neg h3, if_pos h4])
    have h5 : (p.length : Int) - (m : Int) < 8 := by omega
    go_wp2
    go_ret3
    exact E
  have h5 : ¬ (p.length : Int) - (m : Int) < 8 := by omega
  have hn4 := le4_lt (p.drop m)
  have hsub := hp.sub cap m (p.length - m) (by omega) hc
  have htk : (p.drop m).take (p.length - m) = p.drop m := List.take_of_length_le (by simp)
  rw [htk] at hsub
  have hw1 := word_any (p.drop m) (subA a cap m) (cap - m) w hsub (by simp; omega) (by simp; omega)
  rw [v32_ofNat hn4, List.length_drop] at hw1
  obtain ⟨n, hn⟩ : ∃ n, n = le4 (p.drop m) := ⟨_, rfl⟩
  rw [← hn] at hw1 hn4
  have Hn := Lib.hid hn
  have HP := Lib.hid hp
  clear hn hsub htk hp
  have hm1 : (0 : Int) ≤ (m : Int) := by omega
  have hm2 : (m : Int) ≤ (p.length : Int) := by omega
  by_cases b1 : n = 0
  · have E := err 13 (by unfold nextN; rw [if_neg h3, if_neg h4]; dsimp only; rw [← Hn.out, if_pos (.inl b1)])
    subst b1
    go_wp2_with (go_at_call 46; with_reducible refine hw1.mono ?_; rintro e w1 ⟨rfl, rfl⟩)
    go_ret3
    exact E
  by_cases b2 : 65536 < n
  · have E := err 13 (by unfold nextN; rw [if_neg h3, if_neg h4]; dsimp only; rw [← Hn.out, if_pos (.inr (.inl b2))])
    have b3 : (65536 : Int) < (n : Int) := by omega
    go_wp2_with (go_at_call 46; with_reducible refine hw1.mono ?_; rintro e w1 ⟨rfl, rfl⟩)
    go_ret3
    exact E
  have b3 : ¬ (65536 : Int) < (n : Int) := by omega
  by_cases b4 : p.length - m - 8 < n
  · have E := err 13 (by unfold nextN; rw [if_neg h3, if_neg h4]; dsimp only; rw [← Hn.out, if_pos (.inr (.inr b4))])
    have b5 : (p.length : Int) - (m : Int) - 8 < (n : Int) := by omega
    go_wp2_with (go_at_call 46; with_reducible refine hw1.mono ?_; rintro e w1 ⟨rfl, rfl⟩)
    go_ret3
    exact E
  have b5 : ¬ (p.length : Int) - (m : Int) - 8 < (n : Int) := by omega
  have c1 : (0 : Int) ≤ (m : Int) + 8 := by omega
  have c2 : (m : Int) + 8 ≤ (m : Int) + 8 + (n : Int) := by omega
  have c3 : (m : Int) + 8 + (n : Int) ≤ (cap : Int) := by omega
  have b9 : (((n : Int) == 0) = false ∧ (n : Int) ≤ 65536) ∧ (n : Int) ≤ (p.length : Int) - (m : Int) - 8 := ⟨⟨by simp; omega, by omega⟩, by omega⟩
  go_wp2_with (go_at_call 46; with_reducible refine hw1.mono ?_; rintro e w1 ⟨rfl, rfl⟩)
  clear c1 c2 c3 b9
  have e1 : m + 8 + n - (m + 8) = n := by omega
  rw [e1]
  have c1 : (0 : Int) ≤ (m : Int) + 4 := by omega
  have c2 : (m : Int) ≤ (m : Int) + 4 := by omega
  have c3 : (m : Int) + 4 ≤ (cap : Int) := by omega
  have c4 : (m : Int) + 4 ≤ (p.length : Int) := by omega
  have hp := HP.out
  have s1 := hp.sub cap (m + 4) (p.length - (m + 4)) (by omega) hc
  have htk : (p.drop (m + 4)).take (p.length - (m + 4)) = p.drop (m + 4) := List.take_of_length_le (by simp)
  rw [htk] at s1
  have s2 := hp.sub cap m 4 (by omega) hc
  have s3 := hp.sub cap (m + 8) n (by omega) hc
  have l2 : ((p.drop m).take 4).length = 4 := by simp; omega
  have l3 : ((p.drop (m + 8)).take n).length = n := by simp; omega
  have l1 : (p.drop (m + 4)).length = p.length - (m + 4) := by simp
  obtain ⟨x1, hx1⟩ : ∃ x, x = BitVec.ofNat 32 (le4 (p.drop (m + 4))) := ⟨_, rfl⟩
  obtain ⟨y1, hy1⟩ : ∃ x, x = crcOf ((p.drop m).take 4) := ⟨_, rfl⟩
  obtain ⟨y2, hy2⟩ : ∃ x, x = crcUpdate y1 ((p.drop (m + 8)).take n) := ⟨_, rfl⟩
  have q1 : ∀ u : InC (Below w1.heap.size w1), Calls Try.prog 46 #[.slice (subA a cap (m + 4)) (p.length - (m + 4)) (cap - (m + 4))] u.val fun e w'' => e = .returned (.int .u32 (v32 x1 : Int)) ∧ ∃ y : InC (Below w1.heap.size w1), w'' = y.val := fun u => by
    have := word_any (p.drop (m + 4)) (subA a cap (m + 4)) (cap - (m + 4)) u.val (s1.below (Nat.le_refl _) u.property) (by rw [l1]; omega) (by rw [l1]; omega)
    rw [l1, ← hx1] at this
    exact cls_call (this.mono fun e w' ⟨he, hb'⟩ => ⟨he, by rw [hb']; exact u.property⟩)
  have q2 : ∀ u : InC (Below w1.heap.size w1), Calls Try.prog 42 #[.slice (subA a cap m) (m + 4 - m) (cap - m)] u.val fun e w'' => e = .returned (.int .u32 (v32 y1 : Int)) ∧ ∃ y : InC (Below w1.heap.size w1), w'' = y.val := fun u => by
    have := of_any ((p.drop m).take 4) (subA a cap m) (cap - m) u.val (s2.below (Nat.le_refl _) u.property) (by rw [l2]; omega)
    rw [l2, ← hy1] at this
    rw [show m + 4 - m = 4 by omega]
    exact cls_call (this.mono fun e w' ⟨he, hb'⟩ => ⟨he, u.property.trans (hb'.mono u.property.size)⟩)
  have q3 : ∀ u : InC (Below w1.heap.size w1), Calls Try.prog 41 #[.int .u32 (v32 y1 : Int), .slice (subA a cap (m + 8)) n (cap - (m + 8))] u.val fun e w'' => e = .returned (.int .u32 (v32 y2 : Int)) ∧ ∃ y : InC (Below w1.heap.size w1), w'' = y.val := fun u => by
    have := update_any y1 ((p.drop (m + 8)).take n) (subA a cap (m + 8)) (cap - (m + 8)) u.val (s3.below (Nat.le_refl _) u.property) (by rw [l3]; omega)
    rw [l3, ← hy2] at this
    exact cls_call (this.mono fun e w' ⟨he, hb'⟩ => ⟨he, u.property.trans (hb'.mono u.property.size)⟩)
  have Hx1 := Lib.hid hx1
  have Hy1 := Lib.hid hy1
  have Hy2 := Lib.hid hy2
  have hne : Nonempty (InC (Below w1.heap.size w1)) := ⟨⟨w1, Below.refl _ _⟩⟩
  have w4 : IntKind.i64.wrap ((m : Int) + 4) = (m : Int) + 4 := by rw [IntKind.wrap_i64]; omega
  have c5 : (0 : Int) ≤ (m : Int) := by omega
  clear hw1 s1 s2 htk l1 l2 hx1 hy1 hy2 hp
  refine region_quiet (Cls (Below w1.heap.size w1)) (by kernel_rfl) (by kernel_rfl) (cls_in (Below.refl _ _).drew) ?_
  repeat quiet_step ((first | exact q1 _ | exact q2 _ | exact q3 _))
  refine wpQuiet_nil ?_
  rintro w2 ⟨⟨w3, hb3⟩, hw⟩
  obtain rfl : w2 = w3 := hw
  clear q1 q2 q3 hne w4 c1 c2 c3 c4 c5
  have hkey : (BitVec.ofNat 32 (le4 (p.drop (m + 4))) = crcUpdate (crcOf ((p.drop m).take 4)) ((p.drop (m + 8)).take n)) ↔ x1 = y2 := by
    rw [Hx1.out, Hy2.out, Hy1.out]
  by_cases hxy : x1 = y2
  · have hN : nextN p m = .ok ((p.drop (m + 8)).take n, m + 8 + n) := by
      unfold nextN; rw [if_neg h3, if_neg h4]; dsimp only; rw [← Hn.out, if_neg (by omega), if_pos (hkey.mpr hxy)]
    have E : ∀ c, n ≤ c → RetN (nextN p m) w1 (.returned (.tuple #[.slice (subA a cap (m + 8)) n c, .int .i64 ((m : Int) + 8 + (n : Int)), .int .i64 0])) w2 := fun c hcc =>
      ⟨subA a cap (m + 8), n, c, by rw [hN]; simp [nxE, nxX], by rw [hN]; exact l3.symm, by rw [hN]; exact s3.below (Nat.le_refl _) hb3, hcc, hb3⟩
    have E := E (cap - (m + 8)) (by omega)
    clear hkey hN Hx1 Hy1 Hy2 s3 l3 err
    have hf : ((v32 x1 : Int) != (v32 y2 : Int)) = false := by rw [ne32, hxy]; simp
    go_wp2
    go_ret3
    exact E
  · have E := err 13 (by unfold nextN; rw [if_neg h3, if_neg h4]; dsimp only; rw [← Hn.out, if_neg (by omega), if_neg (fun h => hxy (hkey.mp h))])
    have E2 : RetN (nextN p m) w1 (.returned (.tuple #[.slice none 0 0, .int .i64 0, .int .i64 (13 : Nat)])) w2 := by
      obtain ⟨a', n', c', he, h1, h2, h3, h4⟩ := E
      exact ⟨a', n', c', he, h1, h2.below (Nat.le_refl _) hb3, h3, hb3⟩
    clear hkey Hx1 Hy1 Hy2 s3 l3 err E
    have hf : ((v32 x1 : Int) != (v32 y2 : Int)) = true := by rw [ne32]; simp [hxy]
    go_wp2
    go_ret3
    exact E2
end Go.Proofs.Ytggnjgnjgnlchaa
