/- The walk of the law CrcJoins. -/
import Derived.Test.YtflonblpfkfpnaaCrcK
namespace Go.Proofs.Ytflonblpfkfpnaa
set_option linter.unusedVariables false
set_option linter.unusedSimpArgs false
open Go.RowKit
attribute [local go_sem] eq32 ne32

theorem joins_eq (a b c : BitVec 32) (M N : Int) (hM : 0 ≤ M) (hN : 0 ≤ N) :
    combine a (combine b c N.toNat) (M + N).toNat = combine (combine a b M.toNat) c N.toNat := by
  rw [Int.toNat_add hM hN, combine_assoc]
theorem zero32 : (0 : Int) = (v32 0#32 : Int) := rfl
theorem combine_v (a b : BitVec 32) (n : Int) (w : World) (x y : Int) (hx : x = (v32 a : Int)) (hy : y = (v32 b : Int)) (hn0 : 0 ≤ n) (hn : n ≤ 9223372036854775807) (q : Nat) (hq : n.toNat = q) :
    Calls Try.prog 15 #[.int .u32 x, .int .u32 y, .int .i64 n] w fun e w' => e = .returned (.int .u32 (v32 (combine a b q) : Int)) ∧ Below w.heap.size w w' := by
  subst hx; subst hy; subst hq; exact combine_any a b n w (by omega) hn

set_option maxHeartbeats 1000000 in
theorem joins_00 (a b c : BitVec 32) (m n : Int) (hm0 : -9223372036854775808 ≤ m) (hm1 : m ≤ 9223372036854775807) (hn0 : -9223372036854775808 ≤ n) (hn1 : n ≤ 9223372036854775807) (hm : m < 0) (hn : n < 0) (w : World) :
    Calls Try.prog 6 #[.int .u32 (v32 a : Int), .int .u32 (v32 b : Int), .int .u32 (v32 c : Int), .int .i64 m, .int .i64 n] w fun e w' => e = .returned (.bool true) ∧ Below w.heap.size w w' := by
  have J1 : combine a (combine b c 0) 0 = combine (combine a b 0) c 0 := by
    have h := joins_eq a b c 0 0 (by omega) (by omega)
    simpa using h
  have J2 : combine a 0#32 0 = combine (combine a 0#32 0) 0#32 0 := by
    have h := joins_eq a 0#32 0#32 0 0 (by omega) (by omega)
    have h0 : ∀ q, combine 0#32 0#32 q = 0#32 := fun q => by unfold combine; rw [zeros_zero]; rfl
    simpa [h0] using h
  have J3 := J2.symm
  clear J2
  have hacc := Below.refl w.heap.size w
  go_enter Try.func6, Try.ntmps6
  go_wp2_with (first
    | (go_at_call 15; with_reducible refine (combine_v b c 0 _ _ _ rfl rfl (by omega) (by omega) 0 rfl).mono ?_; rintro e w' ⟨rfl, hb⟩; replace hacc := acc_call hacc hb (Nat.le_refl _); clear hb)
    | (go_at_call 15; with_reducible refine (combine_v a (combine b c 0) 0 _ _ _ rfl rfl (by omega) (by omega) 0 rfl).mono ?_; rintro e w' ⟨rfl, hb⟩; replace hacc := acc_call hacc hb (Nat.le_refl _); clear hb)
    | (go_at_call 15; with_reducible refine (combine_v a b 0 _ _ _ rfl rfl (by omega) (by omega) 0 rfl).mono ?_; rintro e w' ⟨rfl, hb⟩; replace hacc := acc_call hacc hb (Nat.le_refl _); clear hb)
    | (go_at_call 15; with_reducible refine (combine_v (combine a b 0) c 0 _ _ _ rfl rfl (by omega) (by omega) 0 rfl).mono ?_; rintro e w' ⟨rfl, hb⟩; replace hacc := acc_call hacc hb (Nat.le_refl _); clear hb)
    | (go_at_call 15; with_reducible refine (combine_v a 0#32 0 _ _ 0 rfl zero32 (by omega) (by omega) 0 rfl).mono ?_; rintro e w' ⟨rfl, hb⟩; replace hacc := acc_call hacc hb (Nat.le_refl _); clear hb)
    | (go_at_call 15; with_reducible refine (combine_v (combine a 0#32 0) 0#32 0 _ _ 0 rfl zero32 (by omega) (by omega) 0 rfl).mono ?_; rintro e w' ⟨rfl, hb⟩; replace hacc := acc_call hacc hb (Nat.le_refl _); clear hb)
    | (go_at_call 14; with_reducible refine (known_any _).mono ?_; rintro e w' ⟨rfl, hb⟩; replace hacc := acc_call hacc hb (Nat.le_refl _); clear hb))
  go_ret
  exact ⟨rfl, hacc⟩

set_option maxHeartbeats 1000000 in
theorem joins_01 (a b c : BitVec 32) (m n : Int) (hm0 : -9223372036854775808 ≤ m) (hm1 : m ≤ 9223372036854775807) (hn0 : -9223372036854775808 ≤ n) (hn1 : n ≤ 9223372036854775807) (hm : m < 0) (hn : 0 ≤ n ∧ n ≤ 2305843009213693952) (w : World) :
    Calls Try.prog 6 #[.int .u32 (v32 a : Int), .int .u32 (v32 b : Int), .int .u32 (v32 c : Int), .int .i64 m, .int .i64 n] w fun e w' => e = .returned (.bool true) ∧ Below w.heap.size w w' := by
  obtain ⟨N, hN⟩ : ∃ N : Int, N = n := ⟨_, rfl⟩
  have hNb : 0 ≤ N ∧ N ≤ 2305843009213693952 := by omega
  obtain ⟨hN0, hN1⟩ := hNb
  have J1 : combine a (combine b c N.toNat) N.toNat = combine (combine a b 0) c N.toNat := by
    have h := joins_eq a b c 0 N (by omega) (by omega)
    simpa using h
  have J2 : combine a 0#32 N.toNat = combine (combine a 0#32 0) 0#32 N.toNat := by
    have h := joins_eq a 0#32 0#32 0 N (by omega) (by omega)
    have h0 : ∀ q, combine 0#32 0#32 q = 0#32 := fun q => by unfold combine; rw [zeros_zero]; rfl
    simpa [h0] using h
  have J3 := J2.symm
  clear J2
  have SN := hN.symm
  clear hN
  have hacc := Below.refl w.heap.size w
  go_enter Try.func6, Try.ntmps6
  go_wp2_with (first
    | (go_at_call 15; with_reducible refine (combine_v b c N _ _ _ rfl rfl (by omega) (by omega) N.toNat rfl).mono ?_; rintro e w' ⟨rfl, hb⟩; replace hacc := acc_call hacc hb (Nat.le_refl _); clear hb)
    | (go_at_call 15; with_reducible refine (combine_v a (combine b c N.toNat) N _ _ _ rfl rfl (by omega) (by omega) N.toNat rfl).mono ?_; rintro e w' ⟨rfl, hb⟩; replace hacc := acc_call hacc hb (Nat.le_refl _); clear hb)
    | (go_at_call 15; with_reducible refine (combine_v a b 0 _ _ _ rfl rfl (by omega) (by omega) 0 rfl).mono ?_; rintro e w' ⟨rfl, hb⟩; replace hacc := acc_call hacc hb (Nat.le_refl _); clear hb)
    | (go_at_call 15; with_reducible refine (combine_v (combine a b 0) c N _ _ _ rfl rfl (by omega) (by omega) N.toNat rfl).mono ?_; rintro e w' ⟨rfl, hb⟩; replace hacc := acc_call hacc hb (Nat.le_refl _); clear hb)
    | (go_at_call 15; with_reducible refine (combine_v a 0#32 N _ _ 0 rfl zero32 (by omega) (by omega) N.toNat rfl).mono ?_; rintro e w' ⟨rfl, hb⟩; replace hacc := acc_call hacc hb (Nat.le_refl _); clear hb)
    | (go_at_call 15; with_reducible refine (combine_v a 0#32 0 _ _ 0 rfl zero32 (by omega) (by omega) 0 rfl).mono ?_; rintro e w' ⟨rfl, hb⟩; replace hacc := acc_call hacc hb (Nat.le_refl _); clear hb)
    | (go_at_call 15; with_reducible refine (combine_v (combine a 0#32 0) 0#32 N _ _ 0 rfl zero32 (by omega) (by omega) N.toNat rfl).mono ?_; rintro e w' ⟨rfl, hb⟩; replace hacc := acc_call hacc hb (Nat.le_refl _); clear hb)
    | (go_at_call 14; with_reducible refine (known_any _).mono ?_; rintro e w' ⟨rfl, hb⟩; replace hacc := acc_call hacc hb (Nat.le_refl _); clear hb))
  go_ret
  exact ⟨rfl, hacc⟩

set_option maxHeartbeats 1000000 in
theorem joins_02 (a b c : BitVec 32) (m n : Int) (hm0 : -9223372036854775808 ≤ m) (hm1 : m ≤ 9223372036854775807) (hn0 : -9223372036854775808 ≤ n) (hn1 : n ≤ 9223372036854775807) (hm : m < 0) (hn : 2305843009213693952 < n) (w : World) :
    Calls Try.prog 6 #[.int .u32 (v32 a : Int), .int .u32 (v32 b : Int), .int .u32 (v32 c : Int), .int .i64 m, .int .i64 n] w fun e w' => e = .returned (.bool true) ∧ Below w.heap.size w w' := by
  obtain ⟨N, hN⟩ : ∃ N : Int, N = n % 2305843009213693952 := ⟨_, rfl⟩
  have hNb : 0 ≤ N ∧ N ≤ 2305843009213693952 := by omega
  obtain ⟨hN0, hN1⟩ := hNb
  have J1 : combine a (combine b c N.toNat) N.toNat = combine (combine a b 0) c N.toNat := by
    have h := joins_eq a b c 0 N (by omega) (by omega)
    simpa using h
  have J2 : combine a 0#32 N.toNat = combine (combine a 0#32 0) 0#32 N.toNat := by
    have h := joins_eq a 0#32 0#32 0 N (by omega) (by omega)
    have h0 : ∀ q, combine 0#32 0#32 q = 0#32 := fun q => by unfold combine; rw [zeros_zero]; rfl
    simpa [h0] using h
  have J3 := J2.symm
  clear J2
  have SN := hN.symm
  clear hN
  have hacc := Below.refl w.heap.size w
  go_enter Try.func6, Try.ntmps6
  go_wp2_with (first
    | (go_at_call 15; with_reducible refine (combine_v b c N _ _ _ rfl rfl (by omega) (by omega) N.toNat rfl).mono ?_; rintro e w' ⟨rfl, hb⟩; replace hacc := acc_call hacc hb (Nat.le_refl _); clear hb)
    | (go_at_call 15; with_reducible refine (combine_v a (combine b c N.toNat) N _ _ _ rfl rfl (by omega) (by omega) N.toNat rfl).mono ?_; rintro e w' ⟨rfl, hb⟩; replace hacc := acc_call hacc hb (Nat.le_refl _); clear hb)
    | (go_at_call 15; with_reducible refine (combine_v a b 0 _ _ _ rfl rfl (by omega) (by omega) 0 rfl).mono ?_; rintro e w' ⟨rfl, hb⟩; replace hacc := acc_call hacc hb (Nat.le_refl _); clear hb)
    | (go_at_call 15; with_reducible refine (combine_v (combine a b 0) c N _ _ _ rfl rfl (by omega) (by omega) N.toNat rfl).mono ?_; rintro e w' ⟨rfl, hb⟩; replace hacc := acc_call hacc hb (Nat.le_refl _); clear hb)
    | (go_at_call 15; with_reducible refine (combine_v a 0#32 N _ _ 0 rfl zero32 (by omega) (by omega) N.toNat rfl).mono ?_; rintro e w' ⟨rfl, hb⟩; replace hacc := acc_call hacc hb (Nat.le_refl _); clear hb)
    | (go_at_call 15; with_reducible refine (combine_v a 0#32 0 _ _ 0 rfl zero32 (by omega) (by omega) 0 rfl).mono ?_; rintro e w' ⟨rfl, hb⟩; replace hacc := acc_call hacc hb (Nat.le_refl _); clear hb)
    | (go_at_call 15; with_reducible refine (combine_v (combine a 0#32 0) 0#32 N _ _ 0 rfl zero32 (by omega) (by omega) N.toNat rfl).mono ?_; rintro e w' ⟨rfl, hb⟩; replace hacc := acc_call hacc hb (Nat.le_refl _); clear hb)
    | (go_at_call 14; with_reducible refine (known_any _).mono ?_; rintro e w' ⟨rfl, hb⟩; replace hacc := acc_call hacc hb (Nat.le_refl _); clear hb))
  go_ret
  exact ⟨rfl, hacc⟩

set_option maxHeartbeats 1000000 in
theorem joins_10 (a b c : BitVec 32) (m n : Int) (hm0 : -9223372036854775808 ≤ m) (hm1 : m ≤ 9223372036854775807) (hn0 : -9223372036854775808 ≤ n) (hn1 : n ≤ 9223372036854775807) (hm : 0 ≤ m ∧ m ≤ 2305843009213693952) (hn : n < 0) (w : World) :
    Calls Try.prog 6 #[.int .u32 (v32 a : Int), .int .u32 (v32 b : Int), .int .u32 (v32 c : Int), .int .i64 m, .int .i64 n] w fun e w' => e = .returned (.bool true) ∧ Below w.heap.size w w' := by
  obtain ⟨M, hM⟩ : ∃ M : Int, M = m := ⟨_, rfl⟩
  have hMb : 0 ≤ M ∧ M ≤ 2305843009213693952 := by omega
  obtain ⟨hM0, hM1⟩ := hMb
  have J1 : combine a (combine b c 0) M.toNat = combine (combine a b M.toNat) c 0 := by
    have h := joins_eq a b c M 0 (by omega) (by omega)
    simpa using h
  have J2 : combine a 0#32 M.toNat = combine (combine a 0#32 M.toNat) 0#32 0 := by
    have h := joins_eq a 0#32 0#32 M 0 (by omega) (by omega)
    have h0 : ∀ q, combine 0#32 0#32 q = 0#32 := fun q => by unfold combine; rw [zeros_zero]; rfl
    simpa [h0] using h
  have J3 := J2.symm
  clear J2
  have SM := hM.symm
  clear hM
  have hacc := Below.refl w.heap.size w
  go_enter Try.func6, Try.ntmps6
  go_wp2_with (first
    | (go_at_call 15; with_reducible refine (combine_v b c 0 _ _ _ rfl rfl (by omega) (by omega) 0 rfl).mono ?_; rintro e w' ⟨rfl, hb⟩; replace hacc := acc_call hacc hb (Nat.le_refl _); clear hb)
    | (go_at_call 15; with_reducible refine (combine_v a (combine b c 0) M _ _ _ rfl rfl (by omega) (by omega) M.toNat rfl).mono ?_; rintro e w' ⟨rfl, hb⟩; replace hacc := acc_call hacc hb (Nat.le_refl _); clear hb)
    | (go_at_call 15; with_reducible refine (combine_v a b M _ _ _ rfl rfl (by omega) (by omega) M.toNat rfl).mono ?_; rintro e w' ⟨rfl, hb⟩; replace hacc := acc_call hacc hb (Nat.le_refl _); clear hb)
    | (go_at_call 15; with_reducible refine (combine_v (combine a b M.toNat) c 0 _ _ _ rfl rfl (by omega) (by omega) 0 rfl).mono ?_; rintro e w' ⟨rfl, hb⟩; replace hacc := acc_call hacc hb (Nat.le_refl _); clear hb)
    | (go_at_call 15; with_reducible refine (combine_v a 0#32 M _ _ 0 rfl zero32 (by omega) (by omega) M.toNat rfl).mono ?_; rintro e w' ⟨rfl, hb⟩; replace hacc := acc_call hacc hb (Nat.le_refl _); clear hb)
    | (go_at_call 15; with_reducible refine (combine_v (combine a 0#32 M.toNat) 0#32 0 _ _ 0 rfl zero32 (by omega) (by omega) 0 rfl).mono ?_; rintro e w' ⟨rfl, hb⟩; replace hacc := acc_call hacc hb (Nat.le_refl _); clear hb)
    | (go_at_call 14; with_reducible refine (known_any _).mono ?_; rintro e w' ⟨rfl, hb⟩; replace hacc := acc_call hacc hb (Nat.le_refl _); clear hb))
  go_ret
  exact ⟨rfl, hacc⟩

set_option maxHeartbeats 1000000 in
theorem joins_11 (a b c : BitVec 32) (m n : Int) (hm0 : -9223372036854775808 ≤ m) (hm1 : m ≤ 9223372036854775807) (hn0 : -9223372036854775808 ≤ n) (hn1 : n ≤ 9223372036854775807) (hm : 0 ≤ m ∧ m ≤ 2305843009213693952) (hn : 0 ≤ n ∧ n ≤ 2305843009213693952) (w : World) :
    Calls Try.prog 6 #[.int .u32 (v32 a : Int), .int .u32 (v32 b : Int), .int .u32 (v32 c : Int), .int .i64 m, .int .i64 n] w fun e w' => e = .returned (.bool true) ∧ Below w.heap.size w w' := by
  obtain ⟨M, hM⟩ : ∃ M : Int, M = m := ⟨_, rfl⟩
  have hMb : 0 ≤ M ∧ M ≤ 2305843009213693952 := by omega
  obtain ⟨hM0, hM1⟩ := hMb
  obtain ⟨N, hN⟩ : ∃ N : Int, N = n := ⟨_, rfl⟩
  have hNb : 0 ≤ N ∧ N ≤ 2305843009213693952 := by omega
  obtain ⟨hN0, hN1⟩ := hNb
  have J1 : combine a (combine b c N.toNat) (M + N).toNat = combine (combine a b M.toNat) c N.toNat := by
    have h := joins_eq a b c M N (by omega) (by omega)
    simpa using h
  have J2 : combine a 0#32 (M + N).toNat = combine (combine a 0#32 M.toNat) 0#32 N.toNat := by
    have h := joins_eq a 0#32 0#32 M N (by omega) (by omega)
    have h0 : ∀ q, combine 0#32 0#32 q = 0#32 := fun q => by unfold combine; rw [zeros_zero]; rfl
    simpa [h0] using h
  have J3 := J2.symm
  clear J2
  have SM := hM.symm
  clear hM
  have SN := hN.symm
  clear hN
  have hacc := Below.refl w.heap.size w
  go_enter Try.func6, Try.ntmps6
  go_wp2_with (first
    | (go_at_call 15; with_reducible refine (combine_v b c N _ _ _ rfl rfl (by omega) (by omega) N.toNat rfl).mono ?_; rintro e w' ⟨rfl, hb⟩; replace hacc := acc_call hacc hb (Nat.le_refl _); clear hb)
    | (go_at_call 15; with_reducible refine (combine_v a (combine b c N.toNat) (M + N) _ _ _ rfl rfl (by omega) (by omega) (M + N).toNat rfl).mono ?_; rintro e w' ⟨rfl, hb⟩; replace hacc := acc_call hacc hb (Nat.le_refl _); clear hb)
    | (go_at_call 15; with_reducible refine (combine_v a b M _ _ _ rfl rfl (by omega) (by omega) M.toNat rfl).mono ?_; rintro e w' ⟨rfl, hb⟩; replace hacc := acc_call hacc hb (Nat.le_refl _); clear hb)
    | (go_at_call 15; with_reducible refine (combine_v (combine a b M.toNat) c N _ _ _ rfl rfl (by omega) (by omega) N.toNat rfl).mono ?_; rintro e w' ⟨rfl, hb⟩; replace hacc := acc_call hacc hb (Nat.le_refl _); clear hb)
    | (go_at_call 15; with_reducible refine (combine_v a 0#32 (M + N) _ _ 0 rfl zero32 (by omega) (by omega) (M + N).toNat rfl).mono ?_; rintro e w' ⟨rfl, hb⟩; replace hacc := acc_call hacc hb (Nat.le_refl _); clear hb)
    | (go_at_call 15; with_reducible refine (combine_v a 0#32 M _ _ 0 rfl zero32 (by omega) (by omega) M.toNat rfl).mono ?_; rintro e w' ⟨rfl, hb⟩; replace hacc := acc_call hacc hb (Nat.le_refl _); clear hb)
    | (go_at_call 15; with_reducible refine (combine_v (combine a 0#32 M.toNat) 0#32 N _ _ 0 rfl zero32 (by omega) (by omega) N.toNat rfl).mono ?_; rintro e w' ⟨rfl, hb⟩; replace hacc := acc_call hacc hb (Nat.le_refl _); clear hb)
    | (go_at_call 14; with_reducible refine (known_any _).mono ?_; rintro e w' ⟨rfl, hb⟩; replace hacc := acc_call hacc hb (Nat.le_refl _); clear hb))
  go_ret
  exact ⟨rfl, hacc⟩

set_option maxHeartbeats 1000000 in
theorem joins_12 (a b c : BitVec 32) (m n : Int) (hm0 : -9223372036854775808 ≤ m) (hm1 : m ≤ 9223372036854775807) (hn0 : -9223372036854775808 ≤ n) (hn1 : n ≤ 9223372036854775807) (hm : 0 ≤ m ∧ m ≤ 2305843009213693952) (hn : 2305843009213693952 < n) (w : World) :
    Calls Try.prog 6 #[.int .u32 (v32 a : Int), .int .u32 (v32 b : Int), .int .u32 (v32 c : Int), .int .i64 m, .int .i64 n] w fun e w' => e = .returned (.bool true) ∧ Below w.heap.size w w' := by
  obtain ⟨M, hM⟩ : ∃ M : Int, M = m := ⟨_, rfl⟩
  have hMb : 0 ≤ M ∧ M ≤ 2305843009213693952 := by omega
  obtain ⟨hM0, hM1⟩ := hMb
  obtain ⟨N, hN⟩ : ∃ N : Int, N = n % 2305843009213693952 := ⟨_, rfl⟩
  have hNb : 0 ≤ N ∧ N ≤ 2305843009213693952 := by omega
  obtain ⟨hN0, hN1⟩ := hNb
  have J1 : combine a (combine b c N.toNat) (M + N).toNat = combine (combine a b M.toNat) c N.toNat := by
    have h := joins_eq a b c M N (by omega) (by omega)
    simpa using h
  have J2 : combine a 0#32 (M + N).toNat = combine (combine a 0#32 M.toNat) 0#32 N.toNat := by
    have h := joins_eq a 0#32 0#32 M N (by omega) (by omega)
    have h0 : ∀ q, combine 0#32 0#32 q = 0#32 := fun q => by unfold combine; rw [zeros_zero]; rfl
    simpa [h0] using h
  have J3 := J2.symm
  clear J2
  have SM := hM.symm
  clear hM
  have SN := hN.symm
  clear hN
  have hacc := Below.refl w.heap.size w
  go_enter Try.func6, Try.ntmps6
  go_wp2_with (first
    | (go_at_call 15; with_reducible refine (combine_v b c N _ _ _ rfl rfl (by omega) (by omega) N.toNat rfl).mono ?_; rintro e w' ⟨rfl, hb⟩; replace hacc := acc_call hacc hb (Nat.le_refl _); clear hb)
    | (go_at_call 15; with_reducible refine (combine_v a (combine b c N.toNat) (M + N) _ _ _ rfl rfl (by omega) (by omega) (M + N).toNat rfl).mono ?_; rintro e w' ⟨rfl, hb⟩; replace hacc := acc_call hacc hb (Nat.le_refl _); clear hb)
    | (go_at_call 15; with_reducible refine (combine_v a b M _ _ _ rfl rfl (by omega) (by omega) M.toNat rfl).mono ?_; rintro e w' ⟨rfl, hb⟩; replace hacc := acc_call hacc hb (Nat.le_refl _); clear hb)
    | (go_at_call 15; with_reducible refine (combine_v (combine a b M.toNat) c N _ _ _ rfl rfl (by omega) (by omega) N.toNat rfl).mono ?_; rintro e w' ⟨rfl, hb⟩; replace hacc := acc_call hacc hb (Nat.le_refl _); clear hb)
    | (go_at_call 15; with_reducible refine (combine_v a 0#32 (M + N) _ _ 0 rfl zero32 (by omega) (by omega) (M + N).toNat rfl).mono ?_; rintro e w' ⟨rfl, hb⟩; replace hacc := acc_call hacc hb (Nat.le_refl _); clear hb)
    | (go_at_call 15; with_reducible refine (combine_v a 0#32 M _ _ 0 rfl zero32 (by omega) (by omega) M.toNat rfl).mono ?_; rintro e w' ⟨rfl, hb⟩; replace hacc := acc_call hacc hb (Nat.le_refl _); clear hb)
    | (go_at_call 15; with_reducible refine (combine_v (combine a 0#32 M.toNat) 0#32 N _ _ 0 rfl zero32 (by omega) (by omega) N.toNat rfl).mono ?_; rintro e w' ⟨rfl, hb⟩; replace hacc := acc_call hacc hb (Nat.le_refl _); clear hb)
    | (go_at_call 14; with_reducible refine (known_any _).mono ?_; rintro e w' ⟨rfl, hb⟩; replace hacc := acc_call hacc hb (Nat.le_refl _); clear hb))
  go_ret
  exact ⟨rfl, hacc⟩

set_option maxHeartbeats 1000000 in
theorem joins_20 (a b c : BitVec 32) (m n : Int) (hm0 : -9223372036854775808 ≤ m) (hm1 : m ≤ 9223372036854775807) (hn0 : -9223372036854775808 ≤ n) (hn1 : n ≤ 9223372036854775807) (hm : 2305843009213693952 < m) (hn : n < 0) (w : World) :
    Calls Try.prog 6 #[.int .u32 (v32 a : Int), .int .u32 (v32 b : Int), .int .u32 (v32 c : Int), .int .i64 m, .int .i64 n] w fun e w' => e = .returned (.bool true) ∧ Below w.heap.size w w' := by
  obtain ⟨M, hM⟩ : ∃ M : Int, M = m % 2305843009213693952 := ⟨_, rfl⟩
  have hMb : 0 ≤ M ∧ M ≤ 2305843009213693952 := by omega
  obtain ⟨hM0, hM1⟩ := hMb
  have J1 : combine a (combine b c 0) M.toNat = combine (combine a b M.toNat) c 0 := by
    have h := joins_eq a b c M 0 (by omega) (by omega)
    simpa using h
  have J2 : combine a 0#32 M.toNat = combine (combine a 0#32 M.toNat) 0#32 0 := by
    have h := joins_eq a 0#32 0#32 M 0 (by omega) (by omega)
    have h0 : ∀ q, combine 0#32 0#32 q = 0#32 := fun q => by unfold combine; rw [zeros_zero]; rfl
    simpa [h0] using h
  have J3 := J2.symm
  clear J2
  have SM := hM.symm
  clear hM
  have hacc := Below.refl w.heap.size w
  go_enter Try.func6, Try.ntmps6
  go_wp2_with (first
    | (go_at_call 15; with_reducible refine (combine_v b c 0 _ _ _ rfl rfl (by omega) (by omega) 0 rfl).mono ?_; rintro e w' ⟨rfl, hb⟩; replace hacc := acc_call hacc hb (Nat.le_refl _); clear hb)
    | (go_at_call 15; with_reducible refine (combine_v a (combine b c 0) M _ _ _ rfl rfl (by omega) (by omega) M.toNat rfl).mono ?_; rintro e w' ⟨rfl, hb⟩; replace hacc := acc_call hacc hb (Nat.le_refl _); clear hb)
    | (go_at_call 15; with_reducible refine (combine_v a b M _ _ _ rfl rfl (by omega) (by omega) M.toNat rfl).mono ?_; rintro e w' ⟨rfl, hb⟩; replace hacc := acc_call hacc hb (Nat.le_refl _); clear hb)
    | (go_at_call 15; with_reducible refine (combine_v (combine a b M.toNat) c 0 _ _ _ rfl rfl (by omega) (by omega) 0 rfl).mono ?_; rintro e w' ⟨rfl, hb⟩; replace hacc := acc_call hacc hb (Nat.le_refl _); clear hb)
    | (go_at_call 15; with_reducible refine (combine_v a 0#32 M _ _ 0 rfl zero32 (by omega) (by omega) M.toNat rfl).mono ?_; rintro e w' ⟨rfl, hb⟩; replace hacc := acc_call hacc hb (Nat.le_refl _); clear hb)
    | (go_at_call 15; with_reducible refine (combine_v (combine a 0#32 M.toNat) 0#32 0 _ _ 0 rfl zero32 (by omega) (by omega) 0 rfl).mono ?_; rintro e w' ⟨rfl, hb⟩; replace hacc := acc_call hacc hb (Nat.le_refl _); clear hb)
    | (go_at_call 14; with_reducible refine (known_any _).mono ?_; rintro e w' ⟨rfl, hb⟩; replace hacc := acc_call hacc hb (Nat.le_refl _); clear hb))
  go_ret
  exact ⟨rfl, hacc⟩

set_option maxHeartbeats 1000000 in
theorem joins_21 (a b c : BitVec 32) (m n : Int) (hm0 : -9223372036854775808 ≤ m) (hm1 : m ≤ 9223372036854775807) (hn0 : -9223372036854775808 ≤ n) (hn1 : n ≤ 9223372036854775807) (hm : 2305843009213693952 < m) (hn : 0 ≤ n ∧ n ≤ 2305843009213693952) (w : World) :
    Calls Try.prog 6 #[.int .u32 (v32 a : Int), .int .u32 (v32 b : Int), .int .u32 (v32 c : Int), .int .i64 m, .int .i64 n] w fun e w' => e = .returned (.bool true) ∧ Below w.heap.size w w' := by
  obtain ⟨M, hM⟩ : ∃ M : Int, M = m % 2305843009213693952 := ⟨_, rfl⟩
  have hMb : 0 ≤ M ∧ M ≤ 2305843009213693952 := by omega
  obtain ⟨hM0, hM1⟩ := hMb
  obtain ⟨N, hN⟩ : ∃ N : Int, N = n := ⟨_, rfl⟩
  have hNb : 0 ≤ N ∧ N ≤ 2305843009213693952 := by omega
  obtain ⟨hN0, hN1⟩ := hNb
  have J1 : combine a (combine b c N.toNat) (M + N).toNat = combine (combine a b M.toNat) c N.toNat := by
    have h := joins_eq a b c M N (by omega) (by omega)
    simpa using h
  have J2 : combine a 0#32 (M + N).toNat = combine (combine a 0#32 M.toNat) 0#32 N.toNat := by
    have h := joins_eq a 0#32 0#32 M N (by omega) (by omega)
    have h0 : ∀ q, combine 0#32 0#32 q = 0#32 := fun q => by unfold combine; rw [zeros_zero]; rfl
    simpa [h0] using h
  have J3 := J2.symm
  clear J2
  have SM := hM.symm
  clear hM
  have SN := hN.symm
  clear hN
  have hacc := Below.refl w.heap.size w
  go_enter Try.func6, Try.ntmps6
  go_wp2_with (first
    | (go_at_call 15; with_reducible refine (combine_v b c N _ _ _ rfl rfl (by omega) (by omega) N.toNat rfl).mono ?_; rintro e w' ⟨rfl, hb⟩; replace hacc := acc_call hacc hb (Nat.le_refl _); clear hb)
    | (go_at_call 15; with_reducible refine (combine_v a (combine b c N.toNat) (M + N) _ _ _ rfl rfl (by omega) (by omega) (M + N).toNat rfl).mono ?_; rintro e w' ⟨rfl, hb⟩; replace hacc := acc_call hacc hb (Nat.le_refl _); clear hb)
    | (go_at_call 15; with_reducible refine (combine_v a b M _ _ _ rfl rfl (by omega) (by omega) M.toNat rfl).mono ?_; rintro e w' ⟨rfl, hb⟩; replace hacc := acc_call hacc hb (Nat.le_refl _); clear hb)
    | (go_at_call 15; with_reducible refine (combine_v (combine a b M.toNat) c N _ _ _ rfl rfl (by omega) (by omega) N.toNat rfl).mono ?_; rintro e w' ⟨rfl, hb⟩; replace hacc := acc_call hacc hb (Nat.le_refl _); clear hb)
    | (go_at_call 15; with_reducible refine (combine_v a 0#32 (M + N) _ _ 0 rfl zero32 (by omega) (by omega) (M + N).toNat rfl).mono ?_; rintro e w' ⟨rfl, hb⟩; replace hacc := acc_call hacc hb (Nat.le_refl _); clear hb)
    | (go_at_call 15; with_reducible refine (combine_v a 0#32 M _ _ 0 rfl zero32 (by omega) (by omega) M.toNat rfl).mono ?_; rintro e w' ⟨rfl, hb⟩; replace hacc := acc_call hacc hb (Nat.le_refl _); clear hb)
    | (go_at_call 15; with_reducible refine (combine_v (combine a 0#32 M.toNat) 0#32 N _ _ 0 rfl zero32 (by omega) (by omega) N.toNat rfl).mono ?_; rintro e w' ⟨rfl, hb⟩; replace hacc := acc_call hacc hb (Nat.le_refl _); clear hb)
    | (go_at_call 14; with_reducible refine (known_any _).mono ?_; rintro e w' ⟨rfl, hb⟩; replace hacc := acc_call hacc hb (Nat.le_refl _); clear hb))
  go_ret
  exact ⟨rfl, hacc⟩

set_option maxHeartbeats 1000000 in
theorem joins_22 (a b c : BitVec 32) (m n : Int) (hm0 : -9223372036854775808 ≤ m) (hm1 : m ≤ 9223372036854775807) (hn0 : -9223372036854775808 ≤ n) (hn1 : n ≤ 9223372036854775807) (hm : 2305843009213693952 < m) (hn : 2305843009213693952 < n) (w : World) :
    Calls Try.prog 6 #[.int .u32 (v32 a : Int), .int .u32 (v32 b : Int), .int .u32 (v32 c : Int), .int .i64 m, .int .i64 n] w fun e w' => e = .returned (.bool true) ∧ Below w.heap.size w w' := by
  obtain ⟨M, hM⟩ : ∃ M : Int, M = m % 2305843009213693952 := ⟨_, rfl⟩
  have hMb : 0 ≤ M ∧ M ≤ 2305843009213693952 := by omega
  obtain ⟨hM0, hM1⟩ := hMb
  obtain ⟨N, hN⟩ : ∃ N : Int, N = n % 2305843009213693952 := ⟨_, rfl⟩
  have hNb : 0 ≤ N ∧ N ≤ 2305843009213693952 := by omega
  obtain ⟨hN0, hN1⟩ := hNb
  have J1 : combine a (combine b c N.toNat) (M + N).toNat = combine (combine a b M.toNat) c N.toNat := by
    have h := joins_eq a b c M N (by omega) (by omega)
    simpa using h
  have J2 : combine a 0#32 (M + N).toNat = combine (combine a 0#32 M.toNat) 0#32 N.toNat := by
    have h := joins_eq a 0#32 0#32 M N (by omega) (by omega)
    have h0 : ∀ q, combine 0#32 0#32 q = 0#32 := fun q => by unfold combine; rw [zeros_zero]; rfl
    simpa [h0] using h
  have J3 := J2.symm
  clear J2
  have SM := hM.symm
  clear hM
  have SN := hN.symm
  clear hN
  have hacc := Below.refl w.heap.size w
  go_enter Try.func6, Try.ntmps6
  go_wp2_with (first
    | (go_at_call 15; with_reducible refine (combine_v b c N _ _ _ rfl rfl (by omega) (by omega) N.toNat rfl).mono ?_; rintro e w' ⟨rfl, hb⟩; replace hacc := acc_call hacc hb (Nat.le_refl _); clear hb)
    | (go_at_call 15; with_reducible refine (combine_v a (combine b c N.toNat) (M + N) _ _ _ rfl rfl (by omega) (by omega) (M + N).toNat rfl).mono ?_; rintro e w' ⟨rfl, hb⟩; replace hacc := acc_call hacc hb (Nat.le_refl _); clear hb)
    | (go_at_call 15; with_reducible refine (combine_v a b M _ _ _ rfl rfl (by omega) (by omega) M.toNat rfl).mono ?_; rintro e w' ⟨rfl, hb⟩; replace hacc := acc_call hacc hb (Nat.le_refl _); clear hb)
    | (go_at_call 15; with_reducible refine (combine_v (combine a b M.toNat) c N _ _ _ rfl rfl (by omega) (by omega) N.toNat rfl).mono ?_; rintro e w' ⟨rfl, hb⟩; replace hacc := acc_call hacc hb (Nat.le_refl _); clear hb)
    | (go_at_call 15; with_reducible refine (combine_v a 0#32 (M + N) _ _ 0 rfl zero32 (by omega) (by omega) (M + N).toNat rfl).mono ?_; rintro e w' ⟨rfl, hb⟩; replace hacc := acc_call hacc hb (Nat.le_refl _); clear hb)
    | (go_at_call 15; with_reducible refine (combine_v a 0#32 M _ _ 0 rfl zero32 (by omega) (by omega) M.toNat rfl).mono ?_; rintro e w' ⟨rfl, hb⟩; replace hacc := acc_call hacc hb (Nat.le_refl _); clear hb)
    | (go_at_call 15; with_reducible refine (combine_v (combine a 0#32 M.toNat) 0#32 N _ _ 0 rfl zero32 (by omega) (by omega) N.toNat rfl).mono ?_; rintro e w' ⟨rfl, hb⟩; replace hacc := acc_call hacc hb (Nat.le_refl _); clear hb)
    | (go_at_call 14; with_reducible refine (known_any _).mono ?_; rintro e w' ⟨rfl, hb⟩; replace hacc := acc_call hacc hb (Nat.le_refl _); clear hb))
  go_ret
  exact ⟨rfl, hacc⟩

theorem crcJoins_walk (a b c : BitVec 32) (m : Int) (hm0 : -9223372036854775808 ≤ m) (hm1 : m ≤ 9223372036854775807) (n : Int) (hn0 : -9223372036854775808 ≤ n) (hn1 : n ≤ 9223372036854775807) (w : World) :
    Calls Try.prog 6 #[.int .u32 (v32 a : Int), .int .u32 (v32 b : Int), .int .u32 (v32 c : Int), .int .i64 m, .int .i64 n] w fun e w' => e = .returned (.bool true) ∧ Below w.heap.size w w' := by
  have e1 : m < 0 ∨ (0 ≤ m ∧ m ≤ 2305843009213693952) ∨ 2305843009213693952 < m := by omega
  have e2 : n < 0 ∨ (0 ≤ n ∧ n ≤ 2305843009213693952) ∨ 2305843009213693952 < n := by omega
  rcases e1 with h | h | h <;> rcases e2 with k | k | k
  · exact joins_00 a b c m n hm0 hm1 hn0 hn1 h k w
  · exact joins_01 a b c m n hm0 hm1 hn0 hn1 h k w
  · exact joins_02 a b c m n hm0 hm1 hn0 hn1 h k w
  · exact joins_10 a b c m n hm0 hm1 hn0 hn1 h k w
  · exact joins_11 a b c m n hm0 hm1 hn0 hn1 h k w
  · exact joins_12 a b c m n hm0 hm1 hn0 hn1 h k w
  · exact joins_20 a b c m n hm0 hm1 hn0 hn1 h k w
  · exact joins_21 a b c m n hm0 hm1 hn0 hn1 h k w
  · exact joins_22 a b c m n hm0 hm1 hn0 hn1 h k w
end Go.Proofs.Ytflonblpfkfpnaa
