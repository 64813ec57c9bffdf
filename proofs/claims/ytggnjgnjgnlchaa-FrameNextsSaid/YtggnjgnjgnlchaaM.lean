/- Plain mathematics of the sums of bytes (CRC-32C): steps, their linearity, the joining of two rows. No program in sight. -/
import Derived.Test.YtggnjgnjgnlchaaW
namespace Go.Proofs.Ytggnjgnjgnlchaa
set_option linter.unusedVariables false
set_option linter.unusedSimpArgs false

/-- one step of the register -/
def step1 (s : BitVec 32) : BitVec 32 := (s >>> 1) ^^^ (if s.getLsbD 0 then 0x82f63b78#32 else 0#32)
def step4 (s : BitVec 32) : BitVec 32 := step1 (step1 (step1 (step1 s)))
def step8 (s : BitVec 32) : BitVec 32 := step4 (step4 s)
def upd (s : BitVec 32) (p : List UInt8) : BitVec 32 := p.foldl (fun s b => step8 (s ^^^ bw b)) s
def crcUpdate (sum : BitVec 32) (p : List UInt8) : BitVec 32 := ~~~ upd (~~~ sum) p
def crcOf (p : List UInt8) : BitVec 32 := crcUpdate 0#32 p
/-- n bytes 0 -/
def zeros : Nat → BitVec 32 → BitVec 32
  | 0, s => s
  | n + 1, s => zeros n (step8 s)
def combine (a b : BitVec 32) (n : Nat) : BitVec 32 := zeros n a ^^^ b

theorem step1_xor (x y : BitVec 32) : step1 (x ^^^ y) = step1 x ^^^ step1 y := by
  unfold step1
  rw [BitVec.ushiftRight_xor_distrib, BitVec.getLsbD_xor]
  cases x.getLsbD 0 <;> cases y.getLsbD 0 <;> simp only [Bool.xor_false, Bool.xor_true, Bool.not_false, Bool.not_true, if_true, Bool.false_eq_true, if_false, BitVec.xor_zero]
  · simp only [BitVec.xor_assoc]
  · rw [BitVec.xor_assoc, BitVec.xor_assoc, BitVec.xor_comm (2197175160#32)]
  · rw [BitVec.xor_assoc, BitVec.xor_comm (2197175160#32), BitVec.xor_assoc, BitVec.xor_self, BitVec.xor_zero]
theorem step4_xor (x y : BitVec 32) : step4 (x ^^^ y) = step4 x ^^^ step4 y := by simp only [step4, step1_xor]
theorem step8_xor (x y : BitVec 32) : step8 (x ^^^ y) = step8 x ^^^ step8 y := by simp only [step8, step4_xor]
theorem zeros_xor (n : Nat) : ∀ x y : BitVec 32, zeros n (x ^^^ y) = zeros n x ^^^ zeros n y := by
  induction n with
  | zero => intro x y; rfl
  | succ n ih => intro x y; simp only [zeros, step8_xor, ih]
theorem zeros_add (m n : Nat) : ∀ x, zeros (m + n) x = zeros n (zeros m x) := by
  induction m with
  | zero => intro x; simp [zeros]
  | succ m ih => intro x; rw [Nat.succ_add]; simp only [zeros, ih]

theorem step1_even {s : BitVec 32} {m : Nat} (h : s.toNat = 2 * m) : (step1 s).toNat = m := by
  have h0 : s.getLsbD 0 = false := by
    rw [BitVec.getLsbD, h]; simp
  unfold step1
  rw [h0]
  simp only [Bool.false_eq_true, if_false, BitVec.xor_zero, BitVec.toNat_ushiftRight, h, Nat.shiftRight_eq_div_pow]
  omega
theorem step4_high (x : BitVec 32) : step4 (x &&& 0xfffffff0#32) = x >>> 4 := by
  have e : (x &&& 0xfffffff0#32).toNat = 2 * (2 * (2 * (2 * (x.toNat / 16)))) := by
    have h1 : (x &&& 0xfffffff0#32) = (x >>> 4) <<< 4 := by
      apply BitVec.eq_of_getLsbD_eq
      intro i hi
      simp only [BitVec.getLsbD_and, BitVec.getLsbD_shiftLeft, BitVec.getLsbD_ushiftRight]
      have : i = 0 ∨ i = 1 ∨ i = 2 ∨ i = 3 ∨ 4 ≤ i := by omega
      rcases this with rfl | rfl | rfl | rfl | h4
      · simp
      · simp
      · simp
      · simp
      · have e2 : 4 + (i - 4) = i := by omega
        have e3 : (0xfffffff0#32).getLsbD i = true := by
          have : ∀ j : Fin 32, 4 ≤ j.val → (0xfffffff0#32).getLsbD j.val = true := by decide
          exact this ⟨i, hi⟩ h4
        rw [e2, e3]
        simp [hi]
        intro; omega
    rw [h1, BitVec.toNat_shiftLeft, BitVec.toNat_ushiftRight, Nat.shiftRight_eq_div_pow, Nat.shiftLeft_eq]
    have := x.isLt
    omega
  apply BitVec.eq_of_toNat_eq
  rw [BitVec.toNat_ushiftRight, Nat.shiftRight_eq_div_pow]
  exact step1_even (step1_even (step1_even (step1_even e)))
theorem split_low (x : BitVec 32) : x = (x &&& 15#32) ^^^ (x &&& 0xfffffff0#32) := by
  apply BitVec.eq_of_getLsbD_eq
  intro i hi
  simp only [BitVec.getLsbD_xor, BitVec.getLsbD_and]
  have : ∀ j : Fin 32, (0xfffffff0#32).getLsbD j.val = !(15#32).getLsbD j.val := by decide
  rw [this ⟨i, hi⟩]
  cases x.getLsbD i <;> cases (15#32).getLsbD i <;> rfl
theorem step4_split (x : BitVec 32) : step4 x = step4 (x &&& 15#32) ^^^ x >>> 4 := by
  conv => lhs; rw [split_low x]
  rw [step4_xor, step4_high]

theorem upd_append (s : BitVec 32) (p q : List UInt8) : upd s (p ++ q) = upd (upd s p) q := by simp only [upd, List.foldl_append]
theorem upd_xor (p : List UInt8) : ∀ s t : BitVec 32, upd (s ^^^ t) p = upd s p ^^^ zeros p.length t := by
  induction p with
  | nil => intro s t; rfl
  | cons b p ih =>
    intro s t
    have e : s ^^^ t ^^^ bw b = s ^^^ bw b ^^^ t := by rw [BitVec.xor_assoc, BitVec.xor_comm t, ← BitVec.xor_assoc]
    show upd (step8 (s ^^^ t ^^^ bw b)) p = upd (step8 (s ^^^ bw b)) p ^^^ zeros p.length (step8 t)
    rw [e, step8_xor, ih]
theorem not_eq (x : BitVec 32) : ~~~ x = 0xffffffff#32 ^^^ x := by
  apply BitVec.eq_of_getLsbD_eq
  intro i hi
  have : ∀ j : Fin 32, (0xffffffff#32).getLsbD j.val = true := by decide
  rw [BitVec.getLsbD_not, BitVec.getLsbD_xor, this ⟨i, hi⟩]
  simp [hi]
theorem not_xor (x y : BitVec 32) : ~~~ (x ^^^ y) = ~~~ x ^^^ y := by rw [not_eq, not_eq, BitVec.xor_assoc]
theorem not_not (x : BitVec 32) : ~~~ (~~~ x) = x := by simp

theorem crcUpdate_append (s : BitVec 32) (p q : List UInt8) : crcUpdate s (p ++ q) = crcUpdate (crcUpdate s p) q := by
  simp only [crcUpdate, upd_append, not_not]
theorem crcOf_append (p q : List UInt8) : crcOf (p ++ q) = combine (crcOf p) (crcOf q) q.length := by
  unfold crcOf
  rw [crcUpdate_append]
  generalize crcUpdate 0#32 p = a
  unfold crcUpdate combine
  have e : ~~~ a = ~~~ (0#32) ^^^ a := by rw [← not_xor]; simp
  rw [e, upd_xor, not_xor, BitVec.xor_comm]
theorem combine_assoc (a b c : BitVec 32) (m n : Nat) : combine a (combine b c n) (m + n) = combine (combine a b m) c n := by
  simp only [combine, zeros_add, zeros_xor, BitVec.xor_assoc]

theorem xor3 (a b c d e f : BitVec 32) : (a ^^^ d) ^^^ (b ^^^ e) ^^^ (c ^^^ f) = (a ^^^ b ^^^ c) ^^^ (d ^^^ e ^^^ f) := by
  apply BitVec.eq_of_getLsbD_eq
  intro i hi
  simp only [BitVec.getLsbD_xor]
  cases a.getLsbD i <;> cases b.getLsbD i <;> cases c.getLsbD i <;> cases d.getLsbD i <;> cases e.getLsbD i <;> cases f.getLsbD i <;> rfl
theorem bw_xor (x y : UInt8) : bw (x ^^^ y) = bw x ^^^ bw y := by
  apply BitVec.eq_of_toNat_eq
  have hx := x.toNat_lt
  have hy := y.toNat_lt
  have hz : x.toNat ^^^ y.toNat < 2 ^ 8 := Nat.xor_lt_two_pow hx hy
  unfold bw
  simp only [UInt8.toNat_xor, BitVec.toNat_ofNat, BitVec.toNat_xor]
  rw [Nat.mod_eq_of_lt (by omega), Nat.mod_eq_of_lt (by omega), Nat.mod_eq_of_lt (by omega)]
def xor3s : List UInt8 → List UInt8 → List UInt8 → List UInt8
  | x :: xs, y :: ys, z :: zs => (x ^^^ y ^^^ z) :: xor3s xs ys zs
  | _, _, _ => []
theorem upd_xor3 (x : List UInt8) : ∀ (y z : List UInt8) (r s t : BitVec 32), y.length = x.length → z.length = x.length →
    upd r x ^^^ upd s y ^^^ upd t z = upd (r ^^^ s ^^^ t) (xor3s x y z) := by
  induction x with
  | nil =>
    intro y z r s t hy hz
    cases y with
    | nil => cases z with
      | nil => rfl
      | cons => simp at hz
    | cons => simp at hy
  | cons a x ih =>
    intro y z r s t hy hz
    cases y with
    | nil => simp at hy
    | cons b y => cases z with
      | nil => simp at hz
      | cons c z =>
        show upd (step8 (r ^^^ bw a)) x ^^^ upd (step8 (s ^^^ bw b)) y ^^^ upd (step8 (t ^^^ bw c)) z = upd (step8 (r ^^^ s ^^^ t ^^^ bw (a ^^^ b ^^^ c))) (xor3s x y z)
        rw [ih y z _ _ _ (by simpa using hy) (by simpa using hz), ← step8_xor, ← step8_xor, xor3, bw_xor, bw_xor]
theorem crcOf_xor3 (x y z : List UInt8) (hy : y.length = x.length) (hz : z.length = x.length) :
    crcOf x ^^^ crcOf y ^^^ crcOf z = crcOf (xor3s x y z) := by
  unfold crcOf crcUpdate
  have h := upd_xor3 x y z (~~~ (0#32)) (~~~ (0#32)) (~~~ (0#32)) hy hz
  have e1 : (~~~ (0#32) ^^^ ~~~ (0#32) ^^^ ~~~ (0#32) : BitVec 32) = ~~~ (0#32) := by decide
  rw [e1] at h
  rw [← h]
  apply BitVec.eq_of_getLsbD_eq
  intro i hi
  simp only [BitVec.getLsbD_xor, BitVec.getLsbD_not, hi]
  cases (upd (~~~ (0#32)) x).getLsbD i <;> cases (upd (~~~ (0#32)) y).getLsbD i <;> cases (upd (~~~ (0#32)) z).getLsbD i <;> rfl
def pattern : List UInt8 := [0xf1, 0x76, 0xec, 0x05, 0x01]
theorem upd_pattern (t : BitVec 32) : upd t pattern = upd t [0, 0, 0, 0, 0] := by
  have h0 : t = 0#32 ^^^ t := by simp
  rw [h0, upd_xor, upd_xor]
  have e1 : upd 0#32 pattern = 0#32 := by decide +kernel
  have e2 : upd 0#32 [0, 0, 0, 0, 0] = 0#32 := by decide +kernel
  rw [e1, e2]
  rfl
theorem crcOf_pattern (p q : List UInt8) : crcOf (p ++ pattern ++ q) = crcOf (p ++ [0, 0, 0, 0, 0] ++ q) := by
  unfold crcOf crcUpdate
  simp only [upd_append, upd_pattern]

/-- what a matrix makes of a word: the digits from k on down -/
def timesTo (m : Nat → BitVec 32) (v : BitVec 32) : Nat → BitVec 32
  | 0 => 0#32
  | k + 1 => timesTo m v k ^^^ (if v.getLsbD k then m k else 0#32)
def times (m : Nat → BitVec 32) (v : BitVec 32) : BitVec 32 := timesTo m v 32
/-- the columns of a map -/
def cols (L : BitVec 32 → BitVec 32) (i : Nat) : BitVec 32 := L (1#32 <<< i)
def low (v : BitVec 32) : Nat → BitVec 32
  | 0 => 0#32
  | k + 1 => low v k ^^^ (if v.getLsbD k then 1#32 <<< k else 0#32)
theorem low_bit (v : BitVec 32) (k : Nat) : ∀ i, i < 32 → (low v k).getLsbD i = (decide (i < k) && v.getLsbD i) := by
  induction k with
  | zero => intro i _; simp [low]
  | succ k ih =>
    intro i hi
    unfold low
    rw [BitVec.getLsbD_xor, ih i hi]
    have h1 : (1#32 <<< k).getLsbD i = decide (i = k) := by
      rw [BitVec.getLsbD_shiftLeft]
      by_cases e : i = k
      · subst e; simp [hi]
      · by_cases h2 : i < k
        · simp [h2, e]
        · have : i - k ≠ 0 := by omega
          simp [e, this]
    by_cases e : i = k
    · subst e
      cases v.getLsbD i <;> simp
      exact hi
    · have h3 : decide (i < k + 1) = decide (i < k) := by
        by_cases h2 : i < k <;> simp [h2] <;> omega
      rw [h3]
      cases v.getLsbD k
      · simp
      · simp only [if_true, h1, e]; simp
theorem low_all (v : BitVec 32) : low v 32 = v := by
  apply BitVec.eq_of_getLsbD_eq
  intro i hi
  rw [low_bit v 32 i hi]
  simp [hi]
theorem times_cols (L : BitVec 32 → BitVec 32) (h0 : L 0#32 = 0#32) (hL : ∀ x y, L (x ^^^ y) = L x ^^^ L y) (v : BitVec 32) : times (cols L) v = L v := by
  have h : ∀ k, timesTo (cols L) v k = L (low v k) := by
    intro k
    induction k with
    | zero => exact h0.symm
    | succ k ih =>
      unfold timesTo low
      rw [hL, ih]
      cases v.getLsbD k
      · simp [h0]
      · rfl
  unfold times
  rw [h, low_all]
theorem timesTo_congr {m m' : Nat → BitVec 32} (v : BitVec 32) : ∀ k, (∀ i, i < k → m i = m' i) → timesTo m v k = timesTo m' v k := by
  intro k
  induction k with
  | zero => intro _; rfl
  | succ k ih => intro h; unfold timesTo; rw [ih (fun i hi => h i (by omega)), h k (by omega)]
theorem zeros_zero (n : Nat) : zeros n 0#32 = 0#32 := by
  induction n with
  | zero => rfl
  | succ n ih => unfold zeros; rw [show step8 0#32 = 0#32 by decide]; exact ih
theorem times_zeros (n : Nat) (v : BitVec 32) : times (cols (zeros n)) v = zeros n v := times_cols _ (zeros_zero n) (zeros_xor n) v
theorem square_zeros (n i : Nat) : times (cols (zeros n)) (cols (zeros n) i) = cols (zeros (2 * n)) i := by
  rw [times_zeros, Nat.two_mul]
  exact (zeros_add n n _).symm
theorem cols_one (i : Nat) : cols (zeros 1) i = step8 (1#32 <<< i) := rfl

end Go.Proofs.Ytggnjgnjgnlchaa
