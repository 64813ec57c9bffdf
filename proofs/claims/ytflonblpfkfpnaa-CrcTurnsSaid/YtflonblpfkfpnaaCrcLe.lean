/- The walk of the law CrcTurns. -/
import Derived.Test.YtflonblpfkfpnaaCrcK
import Derived.Test.YtflonblpfkfpnaaCrcRoom
namespace Go.Proofs.Ytflonblpfkfpnaa
set_option linter.unusedVariables false
set_option linter.unusedSimpArgs false
open Go.RowKit

/-- a byte's number under a name of its own -/
def v8 (b : UInt8) : Nat := b.toNat
theorem x8 (a b : UInt8) : bits .xor .u8 (v8 a : Int) (v8 b : Int) = (v8 (a ^^^ b) : Int) := by
  show IntKind.u8.wrap ((BitVec.ofInt 8 (v8 a : Int) ^^^ BitVec.ofInt 8 (v8 b : Int) : BitVec 8).toNat : Int) = _
  unfold v8
  have e : ∀ c : UInt8, BitVec.ofInt 8 (c.toNat : Int) = c.toBitVec := fun c => by
    rw [BitVec.ofInt_natCast, ← UInt8.toNat_toBitVec, BitVec.ofNat_toNat, BitVec.setWidth_eq]
  rw [e, e, IntKind.wrap_u8]
  have h : (a.toBitVec ^^^ b.toBitVec).toNat = (a ^^^ b).toNat := rfl
  rw [h]
  have := (a ^^^ b).toNat_lt
  omega
attribute [local go_sem] x8 x32 eq32 ne32 subA_zero

def g3 (x y z : List UInt8) (i : Nat) : UInt8 := x.getD i 0 ^^^ y.getD i 0 ^^^ z.getD i 0
def fill3 (x y z : List UInt8) (N k : Nat) : List UInt8 := (List.range N).map fun i => if i < k then g3 x y z i else 0
theorem fill3_length (x y z : List UInt8) (N k : Nat) : (fill3 x y z N k).length = N := by simp [fill3]
theorem fill3_zero (x y z : List UInt8) (N : Nat) : fill3 x y z N 0 = List.replicate N 0 := by
  unfold fill3
  apply List.ext_getElem
  · simp
  · intro i h1 h2; simp
theorem bV_set8 (p : List UInt8) (i : Nat) (x : UInt8) : (bV p).setIfInBounds i (.int .u8 (v8 x : Int)) = bV (p.set i x) := bV_set p i x
theorem fill3_set (x y z : List UInt8) (N k : Nat) : (fill3 x y z N k).set k (g3 x y z k) = fill3 x y z N (k + 1) := by
  apply List.ext_getElem
  · simp [fill3_length]
  · intro i h1 h2
    rw [List.getElem_set]
    by_cases e : k = i
    · subst e; simp [fill3]
    · have : (i < k + 1) = (i < k) := by simp; omega
      simp [e, fill3, this]
theorem xor3s_length : ∀ x y z : List UInt8, y.length = x.length → z.length = x.length → (xor3s x y z).length = x.length
  | [], _, _, _, _ => rfl
  | a :: x, [], _, hy, _ => by simp at hy
  | a :: x, b :: y, [], _, hz => by simp at hz
  | a :: x, b :: y, c :: z, hy, hz => by simp [xor3s, xor3s_length x y z (by simpa using hy) (by simpa using hz)]
theorem xor3s_get : ∀ (x y z : List UInt8) (i : Nat), i < x.length → y.length = x.length → z.length = x.length → (xor3s x y z)[i]? = some (g3 x y z i)
  | [], _, _, i, h, _, _ => by simp at h
  | a :: x, [], _, _, _, hy, _ => by simp at hy
  | a :: x, b :: y, [], _, _, _, hz => by simp at hz
  | a :: x, b :: y, c :: z, 0, _, _, _ => by simp [xor3s, g3]
  | a :: x, b :: y, c :: z, i + 1, h, hy, hz => by
    have := xor3s_get x y z i (by simpa using h) (by simpa using hy) (by simpa using hz)
    simp [xor3s, g3] at this ⊢
    exact this
theorem fill3_full (x y z : List UInt8) (N : Nat) (hx : N ≤ x.length) (hy : N ≤ y.length) (hz : N ≤ z.length) : fill3 x y z N N = xor3s (x.take N) (y.take N) (z.take N) := by
  apply List.ext_getElem?
  intro i
  by_cases h : i < N
  · rw [xor3s_get _ _ _ i (by simp; omega) (by simp; omega) (by simp; omega)]
    simp [fill3, h, g3, List.getD]
  · rw [List.getElem?_eq_none (by rw [fill3_length]; omega), List.getElem?_eq_none (by rw [xor3s_length _ _ _ (by simp; omega) (by simp; omega)]; simp; omega)]
theorem crc_three (x y z : List UInt8) (N : Nat) (hx : N ≤ x.length) (hy : N ≤ y.length) (hz : N ≤ z.length) :
    crcOf (x.take N) ^^^ crcOf (y.take N) ^^^ crcOf (z.take N) = crcOf (fill3 x y z N N) := by
  rw [fill3_full x y z N hx hy hz, crcOf_xor3 _ _ _ (by simp; omega) (by simp; omega)]

theorem tmod_gt (a b : Int) (hb : 0 < b) : -b < a.tmod b := by
  have h := Int.tmod_lt_of_pos (-a) hb
  rw [Int.neg_tmod] at h
  omega
theorem bV_set0 (p : List UInt8) (i : Nat) : (bV p).setIfInBounds i (.int .u8 0) = bV (p.set i 0) := bV_set p i 0
/-- bytes laid over a list from a place on -/
def over (p : List UInt8) (i : Nat) (q : List UInt8) : List UInt8 := p.take i ++ q ++ p.drop (i + q.length)
theorem over_length (p : List UInt8) (i : Nat) (q : List UInt8) (h : i + q.length ≤ p.length) : (over p i q).length = p.length := by simp [over]; omega
theorem over_nil (p : List UInt8) (i : Nat) : over p i [] = p := by simp [over]
theorem over_snoc (p : List UInt8) (i : Nat) (q : List UInt8) (c : UInt8) (h : i + q.length < p.length) : (over p i q).set (i + q.length) c = over p i (q ++ [c]) := by
  unfold over
  have h1 : (p.take i ++ q).length = i + q.length := by simp; omega
  rw [List.set_append, if_neg (by omega), h1, Nat.sub_self]
  have h2 : p.drop (i + q.length) = p[i + q.length] :: p.drop (i + q.length + 1) := List.drop_eq_getElem_cons h
  rw [h2]
  simp [Nat.add_assoc]
theorem over_over (p : List UInt8) (i : Nat) (q r : List UInt8) (h : i + q.length ≤ p.length) (hl : q.length = r.length) : over (over p i q) i r = over p i r := by
  have h1 : (p.take i).length = i := by rw [List.length_take]; omega
  have e1 : (p.take i ++ q ++ p.drop (i + q.length)).take i = p.take i := by rw [List.append_assoc]; exact List.take_left' h1
  have e2 : (p.take i ++ q ++ p.drop (i + q.length)).drop (i + r.length) = p.drop (i + q.length) := List.drop_left' (by rw [List.length_append, h1, hl])
  unfold over
  rw [e1, e2, hl]
theorem crc_over (p : List UInt8) (i : Nat) : crcOf (over p i pattern) = crcOf (over p i [0, 0, 0, 0, 0]) := crcOf_pattern _ _
end Go.Proofs.Ytflonblpfkfpnaa
