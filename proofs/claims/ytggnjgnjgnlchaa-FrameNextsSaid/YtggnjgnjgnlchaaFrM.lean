/- Plain mathematics of frames: a number in four bytes, a frame's bytes, what stands at a place. No program in sight. -/
import Derived.Test.YtggnjgnjgnlchaaM
namespace Go.Proofs.Ytggnjgnjgnlchaa
set_option linter.unusedVariables false
set_option linter.unusedSimpArgs false

/-- the number that the first k bytes say, the lowest first -/
def pre (p : List UInt8) : Nat → Nat
  | 0 => 0
  | k + 1 => pre p k + (p.getD k 0).toNat * 256 ^ k
def le4 (p : List UInt8) : Nat := pre p 4
def byteOf (n i : Nat) : UInt8 := UInt8.ofNat (n / 256 ^ i % 256)
def leB (n : Nat) : List UInt8 := [byteOf n 0, byteOf n 1, byteOf n 2, byteOf n 3]
theorem byteOf_toNat (n i : Nat) : (byteOf n i).toNat = n / 256 ^ i % 256 := by
  unfold byteOf; rw [UInt8.toNat_ofNat']; omega
theorem pre_lt (p : List UInt8) (k : Nat) : pre p k < 256 ^ k := by
  induction k with
  | zero => simp [pre]
  | succ k ih =>
    have hb := (p.getD k 0).toNat_lt
    unfold pre
    rw [Nat.pow_succ]
    have : (p.getD k 0).toNat * 256 ^ k ≤ 255 * 256 ^ k := Nat.mul_le_mul_right _ (by omega)
    omega
theorem le4_lt (p : List UInt8) : le4 p < 4294967296 := pre_lt p 4
theorem pre_append (p q : List UInt8) (k : Nat) (h : k ≤ p.length) : pre (p ++ q) k = pre p k := by
  induction k with
  | zero => rfl
  | succ k ih =>
    unfold pre
    rw [ih (by omega)]
    congr 2
    simp [List.getD, List.getElem?_append, show k < p.length by omega]
theorem le4_leB (n : Nat) (h : n < 4294967296) : le4 (leB n) = n := by
  simp only [le4, pre, leB, List.getD, List.getElem?_cons_zero, List.getElem?_cons_succ, Option.getD_some, byteOf_toNat]
  omega
theorem le4_append (p q : List UInt8) (h : 4 ≤ p.length) : le4 (p ++ q) = le4 p := pre_append p q 4 h
theorem le4_take (p : List UInt8) (h : 4 ≤ p.length) : le4 (p.take 4) = le4 p := by
  conv => rhs; rw [← List.take_append_drop 4 p]
  rw [le4_append _ _ (by simp; omega)]
theorem leB_le4 (a b c d : UInt8) : leB (le4 [a, b, c, d]) = [a, b, c, d] := by
  have ha := a.toNat_lt
  have hb := b.toNat_lt
  have hc := c.toNat_lt
  have hd := d.toNat_lt
  simp only [leB, List.cons.injEq, and_true]
  refine ⟨?_, ?_, ?_, ?_⟩ <;>
    (apply UInt8.toNat_inj.1
     rw [byteOf_toNat]
     simp only [le4, pre, List.getD, List.getElem?_cons_zero, List.getElem?_cons_succ, Option.getD_some]
     omega)
theorem leB_of_le4 (p : List UInt8) (h : 4 ≤ p.length) : leB (le4 p) = p.take 4 := by
  match p, h with
  | a :: b :: c :: d :: q, _ =>
    have := le4_append [a, b, c, d] q (by simp)
    rw [show a :: b :: c :: d :: q = [a, b, c, d] ++ q from rfl, this, leB_le4]
    rfl

/-- the sum that a frame bears -/
def sumOf (body : List UInt8) : BitVec 32 := crcUpdate (crcOf (leB body.length)) body
def headB (body : List UInt8) : List UInt8 := leB body.length ++ leB (sumOf body).toNat
/-- a frame -/
def sealB (body : List UInt8) : List UInt8 := headB body ++ body
theorem leB_length (n : Nat) : (leB n).length = 4 := rfl
theorem headB_length (body : List UInt8) : (headB body).length = 8 := rfl
theorem sealB_length (body : List UInt8) : (sealB body).length = 8 + body.length := by simp [sealB, headB_length]

/-- what stands at a place: an error's number, or a body and the place behind it -/
def nextN (p : List UInt8) (at_ : Nat) : Except Nat (List UInt8 × Nat) :=
  if at_ = p.length then .error 12
  else if p.length - at_ < 8 then .error 13
  else
    let n := le4 (p.drop at_)
    if n = 0 ∨ 65536 < n ∨ p.length - at_ - 8 < n then .error 13
    else if (BitVec.ofNat 32 (le4 (p.drop (at_ + 4)))) = crcUpdate (crcOf ((p.drop at_).take 4)) ((p.drop (at_ + 8)).take n) then .ok ((p.drop (at_ + 8)).take n, at_ + 8 + n)
    else .error 13
def nextF (p : List UInt8) (at_ : Int) : Except Nat (List UInt8 × Nat) :=
  if at_ < 0 ∨ (p.length : Int) < at_ then .error 1 else nextN p at_.toNat

theorem next_ok {p : List UInt8} {at_ : Nat} {b : List UInt8} {e : Nat} (h : nextN p at_ = .ok (b, e)) :
    at_ + 8 + b.length = e ∧ e ≤ p.length ∧ 0 < b.length ∧ b.length ≤ 65536 ∧ p.drop at_ = sealB b ++ p.drop e := by
  unfold nextN at h
  split at h
  · cases h
  split at h
  · cases h
  dsimp only at h
  split at h
  · cases h
  split at h
  · rename_i h1 h2 h3 h4
    simp only [Except.ok.injEq, Prod.mk.injEq] at h
    obtain ⟨rfl, rfl⟩ := h
    have hlen : ((p.drop (at_ + 8)).take (le4 (p.drop at_))).length = le4 (p.drop at_) := by simp; omega
    refine ⟨by rw [hlen], by omega, by rw [hlen]; omega, by rw [hlen]; omega, ?_⟩
    have d1 : leB (le4 (p.drop at_)) = (p.drop at_).take 4 := leB_of_le4 _ (by simp; omega)
    have d2 : leB (le4 (p.drop (at_ + 4))) = (p.drop (at_ + 4)).take 4 := leB_of_le4 _ (by simp; omega)
    have hs : (sumOf ((p.drop (at_ + 8)).take (le4 (p.drop at_)))).toNat = le4 (p.drop (at_ + 4)) := by
      unfold sumOf
      rw [hlen, d1, ← h4, BitVec.toNat_ofNat]
      exact Nat.mod_eq_of_lt (le4_lt _)
    unfold sealB headB
    rw [hs, hlen, d1, d2]
    have e1 : p.drop at_ = (p.drop at_).take 4 ++ p.drop (at_ + 4) := by
      have := (List.take_append_drop 4 (p.drop at_)).symm
      rwa [List.drop_drop] at this
    have e2 : p.drop (at_ + 4) = (p.drop (at_ + 4)).take 4 ++ p.drop (at_ + 8) := by
      have := (List.take_append_drop 4 (p.drop (at_ + 4))).symm
      rwa [List.drop_drop] at this
    have e3 : p.drop (at_ + 8) = (p.drop (at_ + 8)).take (le4 (p.drop at_)) ++ p.drop (at_ + 8 + le4 (p.drop at_)) := by
      have := (List.take_append_drop (le4 (p.drop at_)) (p.drop (at_ + 8))).symm
      rwa [List.drop_drop] at this
    conv => lhs; rw [e1, e2, e3]
    simp [List.append_assoc]
  · cases h
theorem next_seal (q body r : List UInt8) (h0 : 0 < body.length) (h1 : body.length ≤ 65536) : nextN (q ++ sealB body ++ r) q.length = .ok (body, q.length + 8 + body.length) := by
  have hl := sealB_length body
  have ed : (q ++ sealB body ++ r).drop q.length = sealB body ++ r := by rw [List.append_assoc, List.drop_left' rfl]
  have es : sealB body ++ r = leB body.length ++ (leB (sumOf body).toNat ++ (body ++ r)) := by simp [sealB, headB, List.append_assoc]
  have ed4 : (q ++ sealB body ++ r).drop (q.length + 4) = leB (sumOf body).toNat ++ (body ++ r) := by
    rw [← List.drop_drop, ed, es]; rfl
  have ed8 : (q ++ sealB body ++ r).drop (q.length + 8) = body ++ r := by
    rw [show q.length + 8 = q.length + 4 + 4 from rfl, ← List.drop_drop, ed4]; rfl
  have n1 : le4 (sealB body ++ r) = body.length := by rw [es, le4_append _ _ (by simp [leB_length]), le4_leB _ (by omega)]
  have n2 : le4 (leB (sumOf body).toNat ++ (body ++ r)) = (sumOf body).toNat := by rw [le4_append _ _ (by simp [leB_length]), le4_leB _ (sumOf body).isLt]
  have t4 : (sealB body ++ r).take 4 = leB body.length := by rw [es]; rfl
  have L : (q ++ sealB body ++ r).length = q.length + (8 + body.length) + r.length := by simp only [List.length_append, hl]
  unfold nextN
  rw [L, if_neg (by omega), if_neg (by omega)]
  simp only [ed, ed4, ed8, n1, n2, t4]
  rw [if_neg (by omega), List.take_left' rfl, if_pos (by rw [BitVec.ofNat_toNat, BitVec.setWidth_eq]; rfl)]

/-- the frames from a place on, till one is not whole -/
def scanF (p : List UInt8) : Nat → Nat → List (Nat × List UInt8)
  | 0, _ => []
  | f + 1, at_ => match nextN p at_ with
    | .ok (b, e) => (at_, b) :: scanF p f e
    | .error _ => []
def scanL (p : List UInt8) : List (Nat × List UInt8) := scanF p (p.length + 1) 0
end Go.Proofs.Ytggnjgnjgnlchaa
