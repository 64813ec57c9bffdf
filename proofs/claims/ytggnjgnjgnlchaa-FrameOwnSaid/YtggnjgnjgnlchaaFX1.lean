/- Words, plain mathematics of sums, walks of package crc and of the document's, as the kernel wants them -/
import Derived.WalkKit
import Derived.Test.YtggnjgnjgnlchaaRowK
import Derived.WalkSpells
import Derived.WalkLawsBesides
import Derived.Laws.CopyOwn
import Derived.Lib.Hide
import Derived.Deep.Draws
import Derived.Deep.QuietTactic
import Derived.StillTail
import Derived.KernelRfl
import Derived.BigQuiet
import Derived.Test.YtggnjgnjgnlchaaProg
import Derived.Test.YtggnjgnjgnlchaaK24
import Derived.Test.YtggnjgnjgnlchaaTT
import Derived.Test.YtggnjgnjgnlchaaP0
/- Words that the walks share: a word's number under a name of its own, what the operations on words give, bytes in memory. No program in sight. -/
namespace Go.Proofs.Ytggnjgnjgnlchaa
set_option linter.unusedVariables false
set_option linter.unusedSimpArgs false
open Go.RowKit

/-- a word's number: a name of its own, so that simp leaves it whole -/
def v32 (x : BitVec 32) : Nat := x.toNat
theorem v32_lt (x : BitVec 32) : v32 x < 4294967296 := x.isLt
theorem v32_ofNat {n : Nat} (h : n < 4294967296) : v32 (BitVec.ofNat 32 n) = n := by
  unfold v32; rw [BitVec.toNat_ofNat]; omega
theorem ofInt32 (x : BitVec 32) : BitVec.ofInt 32 (v32 x : Int) = x := by
  unfold v32
  rw [BitVec.ofInt_natCast, BitVec.ofNat_toNat, BitVec.setWidth_eq]
theorem wrapN (x : BitVec 32) : IntKind.u32.wrap (x.toNat : Int) = (v32 x : Int) := by
  unfold v32
  rw [IntKind.wrap_u32]; have := x.isLt; omega
theorem not32 (x : BitVec 32) : ~~~ x = 0xffffffff#32 ^^^ x := by
  apply BitVec.eq_of_getLsbD_eq
  intro i hi
  have : ∀ j : Fin 32, (0xffffffff#32).getLsbD j.val = true := by decide
  rw [BitVec.getLsbD_not, BitVec.getLsbD_xor, this ⟨i, hi⟩]
  simp [hi]
theorem x32 (x y : BitVec 32) : bits .xor .u32 (v32 x : Int) (v32 y : Int) = (v32 (x ^^^ y) : Int) := by
  show IntKind.u32.wrap ((BitVec.ofInt 32 (v32 x : Int) ^^^ BitVec.ofInt 32 (v32 y : Int) : BitVec 32).toNat : Int) = _
  rw [ofInt32, ofInt32, wrapN]
theorem n32 (x : BitVec 32) : bits .xor .u32 IntKind.u32.max (v32 x : Int) = (v32 (~~~ x) : Int) := by
  have h : (IntKind.u32.max : Int) = (v32 (0xffffffff#32) : Int) := by decide
  rw [h, x32, not32]
theorem a32_15 (x : BitVec 32) : bits .and .u32 (v32 x : Int) (15 : Int) = (v32 (x &&& 15#32) : Int) := by
  show IntKind.u32.wrap ((BitVec.ofInt 32 (v32 x : Int) &&& 15#32 : BitVec 32).toNat : Int) = _
  rw [ofInt32, wrapN]
theorem a32_1 (x : BitVec 32) : bits .and .u32 (v32 x : Int) (1 : Int) = (v32 (x &&& 1#32) : Int) := by
  show IntKind.u32.wrap ((BitVec.ofInt 32 (v32 x : Int) &&& 1#32 : BitVec 32).toNat : Int) = _
  rw [ofInt32, wrapN]
theorem s32_4 (x : BitVec 32) : (v32 x : Int) / (16 : Int) = (v32 (x >>> 4) : Int) := by
  unfold v32
  rw [BitVec.toNat_ushiftRight, Nat.shiftRight_eq_div_pow]
  rfl
theorem s32_1 (x : BitVec 32) : (v32 x : Int) / (2 : Int) = (v32 (x >>> 1) : Int) := by
  unfold v32
  rw [BitVec.toNat_ushiftRight, Nat.shiftRight_eq_div_pow]
  rfl
def odd32 (x : BitVec 32) : Bool := x.getLsbD 0
theorem and1 (x : BitVec 32) : v32 (x &&& 1#32) = if odd32 x then 1 else 0 := by
  unfold v32 odd32
  rw [BitVec.toNat_and]
  show x.toNat &&& 1 = _
  rw [Nat.and_one_is_mod, BitVec.getLsbD, Nat.testBit_zero]
  have := Nat.mod_two_eq_zero_or_one x.toNat
  rcases this with h | h <;> simp [h]
theorem a32_1b (x : BitVec 32) : ((v32 (x &&& 1#32) : Int) == (1 : Int)) = odd32 x := by
  rw [and1]
  cases odd32 x <;> rfl
theorem m32_2 (x : BitVec 32) : (v32 x : Int) % (2 : Int) = (v32 (x &&& 1#32) : Int) := by
  rw [and1]
  unfold v32 odd32
  rw [BitVec.getLsbD, Nat.testBit_zero]
  rcases Nat.mod_two_eq_zero_or_one x.toNat with h | h <;> simp [h] <;> omega
theorem eq32 (x y : BitVec 32) : ((v32 x : Int) == (v32 y : Int)) = (x == y) := by
  by_cases h : x = y
  · subst h; simp
  · have h1 : ¬ ((v32 x : Int) = (v32 y : Int)) := fun e => h (BitVec.eq_of_toNat_eq (by unfold v32 at e; omega))
    rw [beq_eq_false_iff_ne.2 h1, beq_eq_false_iff_ne.2 h]
theorem ne32 (x y : BitVec 32) : ((v32 x : Int) != (v32 y : Int)) = (x != y) := by
  unfold bne; rw [eq32]

/-! words kept in an int (what the references do) -/
theorem ofInt64 (x : BitVec 32) : BitVec.ofInt 64 (v32 x : Int) = x.setWidth 64 := by
  unfold v32
  rw [BitVec.ofInt_natCast]
  apply BitVec.eq_of_toNat_eq
  simp
theorem x64 (x y : BitVec 32) : bits .xor .i64 (v32 x : Int) (v32 y : Int) = (v32 (x ^^^ y) : Int) := by
  show IntKind.i64.wrap ((BitVec.ofInt 64 (v32 x : Int) ^^^ BitVec.ofInt 64 (v32 y : Int) : BitVec 64).toNat : Int) = _
  rw [ofInt64, ofInt64]
  have e : (x.setWidth 64 ^^^ y.setWidth 64 : BitVec 64).toNat = v32 (x ^^^ y) := by
    unfold v32
    rw [BitVec.toNat_xor, BitVec.toNat_xor, BitVec.toNat_setWidth, BitVec.toNat_setWidth]
    have hx := x.isLt
    have hy := y.isLt
    rw [Nat.mod_eq_of_lt (by omega), Nat.mod_eq_of_lt (by omega)]
  rw [e, IntKind.wrap_i64]
  have := v32_lt (x ^^^ y)
  omega
theorem n64 (x : BitVec 32) : bits .xor .i64 (v32 x : Int) (4294967295 : Int) = (v32 (~~~ x) : Int) := by
  have h : (4294967295 : Int) = (v32 (0xffffffff#32) : Int) := by decide
  rw [h, x64, not32, BitVec.xor_comm]

/-- a byte as a word -/
def bw (b : UInt8) : BitVec 32 := BitVec.ofNat 32 b.toNat
theorem v32_bw (b : UInt8) : v32 (bw b) = b.toNat := v32_ofNat (by have := b.toNat_lt; omega)
theorem b32 (b : UInt8) : Value.int .u32 (b.toNat : Int) = Value.int .u32 (v32 (bw b) : Int) := by rw [v32_bw]
theorem m8 (b : UInt8) : (b.toNat : Int) % (4294967296 : Int) = (v32 (bw b) : Int) := by rw [v32_bw]; have := b.toNat_lt; omega
theorem b64 (b : UInt8) (x : BitVec 32) : bits .xor .i64 (v32 x : Int) (b.toNat : Int) = (v32 (x ^^^ bw b) : Int) := by rw [← v32_bw, x64]

/-! blocks of cells -/
theorem blk_set {w : World} {b i : Nat} {c : Array Value} {T : TypeId} {fr : Nat × Nat} (h : w.heap[b]? = some (.cells c T fr)) (v : Value) :
    (w.setCell ⟨b, i, none⟩ v).heap[b]? = some (.cells (c.setIfInBounds i v) T fr) := by
  simp [World.setCell, Array.getElem?_modify, h]
theorem blk_ne {w : World} {b k i : Nat} (h : k ≠ b) (v : Value) : (w.setCell ⟨b, i, none⟩ v).heap[k]? = w.heap[k]? := Below.heap_setCell _ _ _ _ h
theorem blk_cell {w : World} {b i : Nat} {c : Array Value} {T : TypeId} {fr : Nat × Nat} (h : w.heap[b]? = some (.cells c T fr)) {v : Value} (hi : c[i]? = some v) :
    w.cell? ⟨b, i, none⟩ = some v := by rw [cell_of_row w b i c T fr h, hi]
theorem blk_free {w : World} {b i : Nat} {c : Array Value} {T : TypeId} (h : w.heap[b]? = some (.cells c T (0, 0))) : w.frozen? ⟨b, i, none⟩ = false := by
  simp [World.frozen?, h]
theorem blk_lt {w : World} {b : Nat} {o : Obj} (h : w.heap[b]? = some o) : b < w.heap.size := (Array.getElem?_eq_some_iff.1 h).1

theorem _root_.Go.RowKit.Below.drewN {B : Nat} {a w : World} (h : Below B a w) (n : Nat) : Below B a (w.drewN n) := ⟨h.os, h.tape, h.output, h.size, h.block⟩
/-! bytes in memory -/
theorem BytesAt.below {w w' : World} {a : Option Addr} {p : List UInt8} {B : Nat} (h : BytesAt w a p) (hB : w.heap.size ≤ B) (hb : Below B w w') : BytesAt w' a p := by
  rcases h with h | ⟨b, off, rfl, hlt, hc⟩
  · exact Or.inl h
  · exact Or.inr ⟨b, off, rfl, by have := hb.size; omega, fun i hi => (hb.cell (p := ⟨b, off + i, none⟩) (show b < B by omega)).trans (hc i hi)⟩
theorem BytesAt.split {w : World} {a : Option Addr} {p : List UInt8} (h : BytesAt w a p) (hp : p ≠ []) :
    ∃ b off, a = some ⟨b, off, none⟩ ∧ b < w.heap.size ∧ ∀ i (h : i < p.length), w.cell? ⟨b, off + i, none⟩ = some (.int .u8 ((p[i]).toNat : Int)) := by
  rcases h with h | h
  · exact absurd h hp
  · exact h


/-- bytes as a block's cells -/
def bV (p : List UInt8) : Array Value := (p.map fun x => Value.int .u8 (x.toNat : Int)).toArray
theorem bV_size (p : List UInt8) : (bV p).size = p.length := by simp [bV]
theorem bV_get (p : List UInt8) (i : Nat) (h : i < p.length) : (bV p)[i]? = some (.int .u8 (p[i].toNat : Int)) := by simp [bV, h]
theorem bV_set (p : List UInt8) (i : Nat) (x : UInt8) : (bV p).setIfInBounds i (.int .u8 (x.toNat : Int)) = bV (p.set i x) := by
  unfold bV
  simp [List.map_set]
theorem bytesAt_bV {w : World} {b : Nat} {p : List UInt8} {T : TypeId} {fr : Nat × Nat} (h : w.heap[b]? = some (.cells (bV p) T fr)) : BytesAt w (some ⟨b, 0, none⟩) p :=
  Or.inr ⟨b, 0, rfl, blk_lt h, fun i hi => by rw [Nat.zero_add]; exact blk_cell h (bV_get p i hi)⟩
theorem BytesAt.take {w : World} {a : Option Addr} {p : List UInt8} (h : BytesAt w a p) (n : Nat) : BytesAt w a (p.take n) := by
  rcases h with h | ⟨b, off, ha, hb, hc⟩
  · exact Or.inl (by rw [h]; simp)
  · exact Or.inr ⟨b, off, ha, hb, fun i hi => by simp at hi; rw [hc i (by omega)]; simp⟩
/-- where a part of a list begins -/
def subA (a : Option Addr) (cap l : Nat) : Option Addr := if cap = l then a else a.map (·.add l)
theorem subA_zero (a : Option Addr) (cap : Nat) : subA a cap 0 = a := by
  unfold subA
  split
  · rfl
  · cases a <;> simp [Addr.add]
theorem sliced_sub (a : Option Addr) (l h m : Nat) : sliced a l h m 1 = .slice (subA a m l) (h - l) (m - l) := by simp [sliced, subA]
theorem BytesAt.sub {w : World} {a : Option Addr} {p : List UInt8} (h : BytesAt w a p) (cap l n : Nat) (hl : l + n ≤ p.length) (hc : p.length ≤ cap) : BytesAt w (subA a cap l) ((p.drop l).take n) := by
  by_cases h0 : n = 0
  · subst h0; exact Or.inl (by simp)
  · rcases h with h | ⟨b, off, rfl, hb, hc'⟩
    · subst h; simp at hl; omega
    · refine Or.inr ⟨b, off + l, ?_, hb, fun i hi => ?_⟩
      · unfold subA
        rw [if_neg (by omega)]
        unfold Addr.add
        by_cases hl0 : l = 0
        · subst hl0; simp
        · simp [hl0]
      · simp at hi
        rw [Nat.add_assoc, hc' (l + i) (by omega)]
        simp
theorem IntsAt.below {w w' : World} {a : Option Addr} {p : List Int} {B : Nat} (h : IntsAt w a p) (hB : w.heap.size ≤ B) (hb : Below B w w') : IntsAt w' a p := by
  rcases h with h | ⟨b, off, rfl, hlt, hc⟩
  · exact Or.inl h
  · exact Or.inr ⟨b, off, rfl, by have := hb.size; omega, fun i hi => (hb.cell (p := ⟨b, off + i, none⟩) (show b < B by omega)).trans (hc i hi)⟩
theorem IntsAt.at {w : World} {a : Option Addr} {p : List Int} (h : IntsAt w a p) (i : Nat) (hi : i < p.length) :
    ∃ b off, a = some ⟨b, off, none⟩ ∧ b < w.heap.size ∧ w.cell? ⟨b, off + i, none⟩ = some (.int .i64 (p[i])) := by
  rcases h with h | ⟨b, off, ha, hb, hc⟩
  · subst h; simp at hi
  · exact ⟨b, off, ha, hb, hc i hi⟩
theorem madeCells_bytes (n : Nat) : madeCells (Value.int .u8 0).cells n = bV (List.replicate n 0) := by
  unfold madeCells bV
  apply Array.ext
  · simp
  · intro i h1 h2
    simp [Value.cells]
    rw [Nat.mod_one]; rfl

end Go.Proofs.Ytggnjgnjgnlchaa
/- Plain mathematics of the sums of bytes (CRC-32C): steps, their linearity, the joining of two rows. No program in sight. -/
namespace Go.Proofs.Ytggnjgnjgnlchaa
set_option linter.unusedVariables false
set_option linter.unusedSimpArgs false

/-- one step of the register -/
def step1 (s : BitVec 32) : BitVec 32 := (s >>> 1) ^^^ (if s.getLsbD 0 then 0x82f63b78#32 else 0#32)
def step4 (s : BitVec 32) : BitVec 32 := step1 (step1 (step1 (step1 s)))
def step8 (s : BitVec 32) : BitVec 32 := step4 (step4 s)
def upd (s : BitVec 32) (p : List UInt8) : BitVec 32 := p.foldl (fun s b => step8 (s ^^^ bw b)) s
def crcUpdate (sum : BitVec 32) (p : List UInt8) : BitVec 32 := ~~~ upd (~~~ sum) p
def crcOf (p : List UInt8) : BitVec 32 := crcUpdate 0#32 p
/-- n bytes 0 -/
def zeros : Nat → BitVec 32 → BitVec 32
  | 0, s => s
  | n + 1, s => zeros n (step8 s)
def combine (a b : BitVec 32) (n : Nat) : BitVec 32 := zeros n a ^^^ b

theorem step1_xor (x y : BitVec 32) : step1 (x ^^^ y) = step1 x ^^^ step1 y := by
  unfold step1
  rw [BitVec.ushiftRight_xor_distrib, BitVec.getLsbD_xor]
  cases x.getLsbD 0 <;> cases y.getLsbD 0 <;> simp only [Bool.xor_false, Bool.xor_true, Bool.not_false, Bool.not_true, if_true, Bool.false_eq_true, if_false, BitVec.xor_zero]
  · simp only [BitVec.xor_assoc]
  · rw [BitVec.xor_assoc, BitVec.xor_assoc, BitVec.xor_comm (2197175160#32)]
  · rw [BitVec.xor_assoc, BitVec.xor_comm (2197175160#32), BitVec.xor_assoc, BitVec.xor_self, BitVec.xor_zero]
theorem step4_xor (x y : BitVec 32) : step4 (x ^^^ y) = step4 x ^^^ step4 y := by simp only [step4, step1_xor]
theorem step8_xor (x y : BitVec 32) : step8 (x ^^^ y) = step8 x ^^^ step8 y := by simp only [step8, step4_xor]
theorem zeros_xor (n : Nat) : ∀ x y : BitVec 32, zeros n (x ^^^ y) = zeros n x ^^^ zeros n y := by
  induction n with
  | zero => intro x y; rfl
  | succ n ih => intro x y; simp only [zeros, step8_xor, ih]
theorem zeros_add (m n : Nat) : ∀ x, zeros (m + n) x = zeros n (zeros m x) := by
  induction m with
  | zero => intro x; simp [zeros]
  | succ m ih => intro x; rw [Nat.succ_add]; simp only [zeros, ih]

theorem step1_even {s : BitVec 32} {m : Nat} (h : s.toNat = 2 * m) : (step1 s).toNat = m := by
  have h0 : s.getLsbD 0 = false := by
    rw [BitVec.getLsbD, h]; simp
  unfold step1
  rw [h0]
  simp only [Bool.false_eq_true, if_false, BitVec.xor_zero, BitVec.toNat_ushiftRight, h, Nat.shiftRight_eq_div_pow]
  omega
theorem step4_high (x : BitVec 32) : step4 (x &&& 0xfffffff0#32) = x >>> 4 := by
  have e : (x &&& 0xfffffff0#32).toNat = 2 * (2 * (2 * (2 * (x.toNat / 16)))) := by
    have h1 : (x &&& 0xfffffff0#32) = (x >>> 4) <<< 4 := by
      apply BitVec.eq_of_getLsbD_eq
      intro i hi
      simp only [BitVec.getLsbD_and, BitVec.getLsbD_shiftLeft, BitVec.getLsbD_ushiftRight]
      have : i = 0 ∨ i = 1 ∨ i = 2 ∨ i = 3 ∨ 4 ≤ i := by omega
      rcases this with rfl | rfl | rfl | rfl | h4
      · simp
      · simp
      · simp
      · simp
      · have e2 : 4 + (i - 4) = i := by omega
        have e3 : (0xfffffff0#32).getLsbD i = true := by
          have : ∀ j : Fin 32, 4 ≤ j.val → (0xfffffff0#32).getLsbD j.val = true := by decide
          exact this ⟨i, hi⟩ h4
        rw [e2, e3]
        simp [hi]
        intro; omega
    rw [h1, BitVec.toNat_shiftLeft, BitVec.toNat_ushiftRight, Nat.shiftRight_eq_div_pow, Nat.shiftLeft_eq]
    have := x.isLt
    omega
  apply BitVec.eq_of_toNat_eq
  rw [BitVec.toNat_ushiftRight, Nat.shiftRight_eq_div_pow]
  exact step1_even (step1_even (step1_even (step1_even e)))
theorem split_low (x : BitVec 32) : x = (x &&& 15#32) ^^^ (x &&& 0xfffffff0#32) := by
  apply BitVec.eq_of_getLsbD_eq
  intro i hi
  simp only [BitVec.getLsbD_xor, BitVec.getLsbD_and]
  have : ∀ j : Fin 32, (0xfffffff0#32).getLsbD j.val = !(15#32).getLsbD j.val := by decide
  rw [this ⟨i, hi⟩]
  cases x.getLsbD i <;> cases (15#32).getLsbD i <;> rfl
theorem step4_split (x : BitVec 32) : step4 x = step4 (x &&& 15#32) ^^^ x >>> 4 := by
  conv => lhs; rw [split_low x]
  rw [step4_xor, step4_high]

theorem upd_append (s : BitVec 32) (p q : List UInt8) : upd s (p ++ q) = upd (upd s p) q := by simp only [upd, List.foldl_append]
theorem upd_xor (p : List UInt8) : ∀ s t : BitVec 32, upd (s ^^^ t) p = upd s p ^^^ zeros p.length t := by
  induction p with
  | nil => intro s t; rfl
  | cons b p ih =>
    intro s t
    have e : s ^^^ t ^^^ bw b = s ^^^ bw b ^^^ t := by rw [BitVec.xor_assoc, BitVec.xor_comm t, ← BitVec.xor_assoc]
    show upd (step8 (s ^^^ t ^^^ bw b)) p = upd (step8 (s ^^^ bw b)) p ^^^ zeros p.length (step8 t)
    rw [e, step8_xor, ih]
theorem not_eq (x : BitVec 32) : ~~~ x = 0xffffffff#32 ^^^ x := by
  apply BitVec.eq_of_getLsbD_eq
  intro i hi
  have : ∀ j : Fin 32, (0xffffffff#32).getLsbD j.val = true := by decide
  rw [BitVec.getLsbD_not, BitVec.getLsbD_xor, this ⟨i, hi⟩]
  simp [hi]
theorem not_xor (x y : BitVec 32) : ~~~ (x ^^^ y) = ~~~ x ^^^ y := by rw [not_eq, not_eq, BitVec.xor_assoc]
theorem not_not (x : BitVec 32) : ~~~ (~~~ x) = x := by simp

theorem crcUpdate_append (s : BitVec 32) (p q : List UInt8) : crcUpdate s (p ++ q) = crcUpdate (crcUpdate s p) q := by
  simp only [crcUpdate, upd_append, not_not]
theorem crcOf_append (p q : List UInt8) : crcOf (p ++ q) = combine (crcOf p) (crcOf q) q.length := by
  unfold crcOf
  rw [crcUpdate_append]
  generalize crcUpdate 0#32 p = a
  unfold crcUpdate combine
  have e : ~~~ a = ~~~ (0#32) ^^^ a := by rw [← not_xor]; simp
  rw [e, upd_xor, not_xor, BitVec.xor_comm]
theorem combine_assoc (a b c : BitVec 32) (m n : Nat) : combine a (combine b c n) (m + n) = combine (combine a b m) c n := by
  simp only [combine, zeros_add, zeros_xor, BitVec.xor_assoc]

theorem xor3 (a b c d e f : BitVec 32) : (a ^^^ d) ^^^ (b ^^^ e) ^^^ (c ^^^ f) = (a ^^^ b ^^^ c) ^^^ (d ^^^ e ^^^ f) := by
  apply BitVec.eq_of_getLsbD_eq
  intro i hi
  simp only [BitVec.getLsbD_xor]
  cases a.getLsbD i <;> cases b.getLsbD i <;> cases c.getLsbD i <;> cases d.getLsbD i <;> cases e.getLsbD i <;> cases f.getLsbD i <;> rfl
theorem bw_xor (x y : UInt8) : bw (x ^^^ y) = bw x ^^^ bw y := by
  apply BitVec.eq_of_toNat_eq
  have hx := x.toNat_lt
  have hy := y.toNat_lt
  have hz : x.toNat ^^^ y.toNat < 2 ^ 8 := Nat.xor_lt_two_pow hx hy
  unfold bw
  simp only [UInt8.toNat_xor, BitVec.toNat_ofNat, BitVec.toNat_xor]
  rw [Nat.mod_eq_of_lt (by omega), Nat.mod_eq_of_lt (by omega), Nat.mod_eq_of_lt (by omega)]
def xor3s : List UInt8 → List UInt8 → List UInt8 → List UInt8
  | x :: xs, y :: ys, z :: zs => (x ^^^ y ^^^ z) :: xor3s xs ys zs
  | _, _, _ => []
theorem upd_xor3 (x : List UInt8) : ∀ (y z : List UInt8) (r s t : BitVec 32), y.length = x.length → z.length = x.length →
    upd r x ^^^ upd s y ^^^ upd t z = upd (r ^^^ s ^^^ t) (xor3s x y z) := by
  induction x with
  | nil =>
    intro y z r s t hy hz
    cases y with
    | nil => cases z with
      | nil => rfl
      | cons => simp at hz
    | cons => simp at hy
  | cons a x ih =>
    intro y z r s t hy hz
    cases y with
    | nil => simp at hy
    | cons b y => cases z with
      | nil => simp at hz
      | cons c z =>
        show upd (step8 (r ^^^ bw a)) x ^^^ upd (step8 (s ^^^ bw b)) y ^^^ upd (step8 (t ^^^ bw c)) z = upd (step8 (r ^^^ s ^^^ t ^^^ bw (a ^^^ b ^^^ c))) (xor3s x y z)
        rw [ih y z _ _ _ (by simpa using hy) (by simpa using hz), ← step8_xor, ← step8_xor, xor3, bw_xor, bw_xor]
theorem crcOf_xor3 (x y z : List UInt8) (hy : y.length = x.length) (hz : z.length = x.length) :
    crcOf x ^^^ crcOf y ^^^ crcOf z = crcOf (xor3s x y z) := by
  unfold crcOf crcUpdate
  have h := upd_xor3 x y z (~~~ (0#32)) (~~~ (0#32)) (~~~ (0#32)) hy hz
  have e1 : (~~~ (0#32) ^^^ ~~~ (0#32) ^^^ ~~~ (0#32) : BitVec 32) = ~~~ (0#32) := by decide
  rw [e1] at h
  rw [← h]
  apply BitVec.eq_of_getLsbD_eq
  intro i hi
  simp only [BitVec.getLsbD_xor, BitVec.getLsbD_not, hi]
  cases (upd (~~~ (0#32)) x).getLsbD i <;> cases (upd (~~~ (0#32)) y).getLsbD i <;> cases (upd (~~~ (0#32)) z).getLsbD i <;> rfl
def pattern : List UInt8 := [0xf1, 0x76, 0xec, 0x05, 0x01]
theorem upd_pattern (t : BitVec 32) : upd t pattern = upd t [0, 0, 0, 0, 0] := by
  have h0 : t = 0#32 ^^^ t := by simp
  rw [h0, upd_xor, upd_xor]
  have e1 : upd 0#32 pattern = 0#32 := by decide +kernel
  have e2 : upd 0#32 [0, 0, 0, 0, 0] = 0#32 := by decide +kernel
  rw [e1, e2]
  rfl
theorem crcOf_pattern (p q : List UInt8) : crcOf (p ++ pattern ++ q) = crcOf (p ++ [0, 0, 0, 0, 0] ++ q) := by
  unfold crcOf crcUpdate
  simp only [upd_append, upd_pattern]

/-- what a matrix makes of a word: the digits from k on down -/
def timesTo (m : Nat → BitVec 32) (v : BitVec 32) : Nat → BitVec 32
  | 0 => 0#32
  | k + 1 => timesTo m v k ^^^ (if v.getLsbD k then m k else 0#32)
def times (m : Nat → BitVec 32) (v : BitVec 32) : BitVec 32 := timesTo m v 32
/-- the columns of a map -/
def cols (L : BitVec 32 → BitVec 32) (i : Nat) : BitVec 32 := L (1#32 <<< i)
def low (v : BitVec 32) : Nat → BitVec 32
  | 0 => 0#32
  | k + 1 => low v k ^^^ (if v.getLsbD k then 1#32 <<< k else 0#32)
theorem low_bit (v : BitVec 32) (k : Nat) : ∀ i, i < 32 → (low v k).getLsbD i = (decide (i < k) && v.getLsbD i) := by
  induction k with
  | zero => intro i _; simp [low]
  | succ k ih =>
    intro i hi
    unfold low
    rw [BitVec.getLsbD_xor, ih i hi]
    have h1 : (1#32 <<< k).getLsbD i = decide (i = k) := by
      rw [BitVec.getLsbD_shiftLeft]
      by_cases e : i = k
      · subst e; simp [hi]
      · by_cases h2 : i < k
        · simp [h2, e]
        · have : i - k ≠ 0 := by omega
          simp [e, this]
    by_cases e : i = k
    · subst e
      cases v.getLsbD i <;> simp
      exact hi
    · have h3 : decide (i < k + 1) = decide (i < k) := by
        by_cases h2 : i < k <;> simp [h2] <;> omega
      rw [h3]
      cases v.getLsbD k
      · simp
      · simp only [if_true, h1, e]; simp
theorem low_all (v : BitVec 32) : low v 32 = v := by
  apply BitVec.eq_of_getLsbD_eq
  intro i hi
  rw [low_bit v 32 i hi]
  simp [hi]
theorem times_cols (L : BitVec 32 → BitVec 32) (h0 : L 0#32 = 0#32) (hL : ∀ x y, L (x ^^^ y) = L x ^^^ L y) (v : BitVec 32) : times (cols L) v = L v := by
  have h : ∀ k, timesTo (cols L) v k = L (low v k) := by
    intro k
    induction k with
    | zero => exact h0.symm
    | succ k ih =>
      unfold timesTo low
      rw [hL, ih]
      cases v.getLsbD k
      · simp [h0]
      · rfl
  unfold times
  rw [h, low_all]
theorem timesTo_congr {m m' : Nat → BitVec 32} (v : BitVec 32) : ∀ k, (∀ i, i < k → m i = m' i) → timesTo m v k = timesTo m' v k := by
  intro k
  induction k with
  | zero => intro _; rfl
  | succ k ih => intro h; unfold timesTo; rw [ih (fun i hi => h i (by omega)), h k (by omega)]
theorem zeros_zero (n : Nat) : zeros n 0#32 = 0#32 := by
  induction n with
  | zero => rfl
  | succ n ih => unfold zeros; rw [show step8 0#32 = 0#32 by decide]; exact ih
theorem times_zeros (n : Nat) (v : BitVec 32) : times (cols (zeros n)) v = zeros n v := times_cols _ (zeros_zero n) (zeros_xor n) v
theorem square_zeros (n i : Nat) : times (cols (zeros n)) (cols (zeros n) i) = cols (zeros (2 * n)) i := by
  rw [times_zeros, Nat.two_mul]
  exact (zeros_add n n _).symm
theorem cols_one (i : Nat) : cols (zeros 1) i = step8 (1#32 <<< i) := rfl

end Go.Proofs.Ytggnjgnjgnlchaa
/- A region that draws its order: its first n operations are quiet in a class C of worlds (a load, an address, a sum yield one value in every world of C; a call hands back one value and leaves a world of C); the rest comes last, in one order.
   Then one walk in the order of the text serves: the first n operations in whatever world of C, the rest from whatever world of C. (The library has both halves apart: quiet operations in a class, and a forced tail in one world; this joins them.) No program in sight. -/
namespace Go.Proofs.Ytggnjgnjgnlchaa
set_option linter.unusedVariables false
set_option linter.unusedSimpArgs false
section
variable {P : Program} {ops : Array Oper} {md : Region.Mode} {C : World → Prop}

/-- whatever comes up is one of the first n and quiet; when they are through, L -/
def anyQ (P : Program) (md : Region.Mode) (ops : Array Oper) (C : World → Prop) (n : Nat) (L : Array Bool → Act → Prop) : Nat → Array Bool → Act → Prop
  | 0, listed, a => L listed a
  | f + 1, listed, a => Region.ready md ops listed ≠ [] ∧ ∀ i ∈ Region.ready md ops listed, i < n ∧ qOp P ops C i (anyQ P md ops C n L f (listed.setIfInBounds i true)) a

theorem any_of_anyQ {n g : Nat} {L : Array Bool → Act → Prop} {Q : Exit → Act → World → Prop} (hL : ∀ listed a w, C w → L listed a → wpAny P md ops Q g listed a w) :
    ∀ (f : Nat) (listed : Array Bool) (a : Act) (w : World), C w → anyQ P md ops C n L f listed a → wpAny P md ops Q (f + g) listed a w := by
  intro f
  induction f with
  | zero => intro listed a w hw h; rw [Nat.zero_add]; exact hL _ _ _ hw h
  | succ f ih =>
    intro listed a w hw h
    rw [show f + 1 + g = (f + g) + 1 by omega]
    refine ⟨fun h0 => absurd h0 h.1, fun i hi => ?_⟩
    exact wpOp_of_qOp hw (fun a' w' hw' h' => ih _ a' w' hw' h') (h.2 i hi).2

theorem anyQ_first {n i : Nat} {oi : Oper} {v : Value} {L : Array Bool → Act → Prop} (hi : ops[i]? = some oi) (hsel : ∀ (j : Nat) (o : Oper) cs b, ops[j]? = some o → o.op ≠ .select cs b)
    (hs : Region.sinkB md ops n = true) (hc : Region.chainB md ops n = true) (hn : n < ops.size) (hin : i < n)
    (hdone : ∀ listed a, L listed a → ∀ j ∈ Region.ready md ops listed, n ≤ j) (f : Nat) : ∀ (listed : Array Bool) (a : Act), HeadInv md ops n listed →
      (∀ j oj, ops[j]? = some oj → j ≠ i → listed.getD j true = false → (∀ e ∈ oj.after, Region.binds md e = true → e.on ≠ i) → oi.apart ops oj = true) →
      i ∈ Region.ready md ops listed → YieldsIn P ops C oi v a →
      anyQ P md ops C n L f (listed.setIfInBounds i true) (a.put oi.dst v) → anyQ P md ops C n L (f + 1) listed a := by
  induction f with
  | zero =>
    intro listed a inv _ hr hy H
    refine ⟨fun h => (by rw [h] at hr; cases hr), fun j hj => ?_⟩
    have hjn : j < n := by
      rcases Nat.lt_or_ge j n with h | h
      · exact h
      · exact absurd hj (tail_waits hs hc hn inv _ i rfl hin (mem_ready.1 hr).1 j h)
    refine ⟨hjn, ?_⟩
    by_cases hji : j = i
    · subst hji; exact hy.qOp hi H
    · exact absurd (hdone _ _ H j (ready_mono hj hji)) (by omega)
  | succ f ih =>
    intro listed a inv hfree hr hy H
    refine ⟨fun h => (by rw [h] at hr; cases hr), fun j hj => ?_⟩
    have hjn : j < n := by
      rcases Nat.lt_or_ge j n with h | h
      · exact h
      · exact absurd hj (tail_waits hs hc hn inv _ i rfl hin (mem_ready.1 hr).1 j h)
    refine ⟨hjn, ?_⟩
    by_cases hji : j = i
    · subst hji; exact hy.qOp hi H
    · obtain ⟨hjun, oj, hoj, hall⟩ := mem_ready.1 hj
      have hnot : ∀ e ∈ oj.after, Region.binds md e = true → e.on ≠ i := fun e he hb heq => by
        have h1 := hall e he hb
        rw [heq, getD_both (mem_ready.1 hr).1] at h1
        cases h1
      have h2 := qOp_put hoj (hfree j oj hoj hji hjun hnot) (fun cs b => hsel i oi cs b hi) (fun cs b => hsel j oj cs b hoj) hy (H.2 j (ready_mono hj hji)).2
      have hfree' : ∀ k ok, ops[k]? = some ok → k ≠ i → (listed.setIfInBounds j true).getD k true = false →
          (∀ e ∈ ok.after, Region.binds md e = true → e.on ≠ i) → oi.apart ops ok = true := fun k ok hk hki hun hno => by
        refine hfree k ok hk hki ?_ hno
        by_cases hjk : j = k
        · subst hjk; exact hjun
        · rw [getD_set_ne true hjk] at hun; exact hun
      refine qOp_mono (fun a' h3 => ih (listed.setIfInBounds j true) a' (inv.set hj hjn) hfree' (ready_mono hr (Ne.symm hji)) h3.1 ?_) h2
      rw [Array.setIfInBounds_comm _ _ hji]
      exact h3.2

theorem anyQ_lex {n g : Nat} {Lq : Act → Prop} (hsel : Region.noSelect ops = true) (hs : Region.sinkB md ops n = true) (hc : Region.chainB md ops n = true) (hn : n < ops.size) :
    ∀ (l : List Oper) (k : Nat) (listed : Array Bool) (a : Act), (∀ j, j < l.length → l[j]? = ops[k + j]?) → k + l.length = n → HeadInv md ops n listed →
    Region.lexHead md ops g l.length k listed = true → wpQuiet P ops C Lq l a →
    anyQ P md ops C n (fun listed' a' => Region.seqB md ops g n listed' = true ∧ Lq a') l.length listed a := by
  intro l
  induction l with
  | nil =>
    intro k listed a _ hk _ hB h
    obtain rfl : k = n := by simpa using hk
    exact ⟨by simpa [Region.lexHead] using hB, h⟩
  | cons o l ih =>
    intro k listed a hl hk inv hB h
    have h0 : ops[k]? = some o := by simpa using (hl 0 (by simp)).symm
    simp only [List.length_cons, Region.lexHead, Bool.and_eq_true] at hB
    obtain ⟨⟨hr, hf⟩, hB'⟩ := hB
    have hkn : k < n := by simp only [List.length_cons] at hk; omega
    have hr' : k ∈ Region.ready md ops listed := by simpa using hr
    have hst : qOp P ops C k (wpQuiet P ops C Lq l) a := by unfold qOp; simp only [h0]; exact h
    obtain ⟨v, hy, hK⟩ := yieldsIn_of_qOp h0 hst
    exact anyQ_first h0 (Region.noSelect_spec hsel) hs hc hn hkn (fun listed' a' hL => seqB_ready hL.1) l.length listed a inv (Region.free_spec h0 hf) hr' hy
      (ih (k + 1) _ _ (fun j hj => by have := hl (j + 1) (by simp; omega); simpa [Nat.add_assoc, Nat.add_comm 1 j] using this) (by simp only [List.length_cons] at hk; omega) (inv.set hr' hkn) hB' hK)

/-- One walk in the order of the text serves every order. -/
theorem region_tail (C : World → Prop) (n : Nat) {id : Nat} {Q : Exit → Act → World → Prop} {a : Act} {w : World} {l : List Oper} (hm : P.follows .mixedOrders = true) (hB : Region.lexTailB .any l.toArray n = true)
    (hC : C { w with drawn := w.drawn + 1 })
    (h : wpQuiet P l.toArray C (fun a' => ∀ w', C w' → wpList P l.toArray Q (l.drop n) a' w') (l.take n) a) : (Code.region id l.toArray true).wp P Q a w := by
  simp only [Region.lexTailB, Bool.and_eq_true, decide_eq_true_eq] at hB
  obtain ⟨⟨⟨⟨hsel, hn⟩, hs⟩, hc⟩, hlex⟩ := hB
  have hn' : n < l.length := by simpa using hn
  have htl : (l.take n).length = n := by simp; omega
  have hdl : (l.drop n).length = l.toArray.size - n := by simp
  have inv0 : HeadInv .any l.toArray n (Array.replicate l.toArray.size false) :=
    ⟨by simp, fun j oj _ hl => (by rw [getD_replicate_false] at hl; cases hl), fun t _ ht => getD_in (by simpa using ht) (getD_replicate_false _ _)⟩
  have H := anyQ_lex (md := .any) (g := l.toArray.size - n) hsel hs hc hn (l.take n) 0 _ a (fun j hj => by
    have hj' : j < n := by rw [htl] at hj; exact hj
    simp [hj']) (by simpa using htl) inv0 (by rw [htl]; exact hlex) h
  refine wp_region_any hm ?_
  have := any_of_anyQ (Q := Q) (g := l.toArray.size - n) (fun listed a' w' hw' hL => by
    have := wpAny_of_seq (md := .any) (Q' := Q) (l.drop n) n listed a' w' (fun j => by simp [List.getElem?_drop]) (by rw [hdl]; exact hL.1) (hL.2 w' hw')
    rwa [hdl] at this) _ _ _ _ hC H
  rw [htl, show n + (l.toArray.size - n) = l.toArray.size by omega] at this
  exact this

/-- The same where every operation is quiet. -/
theorem region_quiet (C : World → Prop) {id : Nat} {Q : Exit → Act → World → Prop} {a : Act} {w : World} {l : List Oper} (hm : P.follows .mixedOrders = true) (hB : Region.lexB .any l.toArray = true)
    (hC : C { w with drawn := w.drawn + 1 }) (h : wpQuiet P l.toArray C (fun a' => ∀ w', C w' → Q .normal a' w') l a) : (Code.region id l.toArray true).wp P Q a w :=
  wp_region_quiet hm hB hC (by simpa using h)

/-- a load of a whole row, in a class in which the row lies -/
theorem quiet_load_row {Q : Act → Prop} {a : Act} {o : Oper} {rest : List Oper} (hgd : o.guard = none) (ty : TypeId) (x : Operand) (ho : o.op = .load ty x)
    (g : Nat) (hx : a.eval x = .pointer (some ⟨g, 0, none⟩)) (t : TypeId) (cs : Array Value) (fr : Nat × Nat) (d : TypeDesc) (hg : ∀ w, C w → w.heap[g]? = some (.cells cs t fr))
    (hu : P.underlying ty = some d) (hd : (match d with | .struct _ | .array _ _ => true | _ => false) = true) (hi : (P.info? ty).map (·.size) = some cs.size)
    (h : wpQuiet P ops C Q rest (a.put o.dst (.agg cs))) : wpQuiet P ops C Q (o :: rest) a := by
  refine wpQuiet_step (fun K hK => ?_)
  rw [if_pos (by simp [Region.wanted, hgd])]
  refine ⟨.agg cs, fun w hw => ?_, hK _ h⟩
  unfold Oper.quietAt
  have hr : (execOp a.eval o).run P w = .ok (.value (.agg cs)) w := by
    unfold execOp
    simp only [ho, hx, Instr.loadAt, Instr.sureAddr, Sem.run_bind, Sem.run_pure, Result.andThen_ok, run_loadVar_row w g t ty cs fr d (hg w hw) hu hd hi]
  rw [hr]
  exact ⟨rfl, rfl⟩
end

/-- A class of worlds as the walk likes it: its worlds are the values of a type of their own. -/
structure InC (C : World → Prop) where
  val : World
  property : C val
abbrev Cls (C : World → Prop) : World → Prop := fun w' => ∃ x : InC C, w' = x.val
theorem cls_call {P : Program} {f : FuncId} {args : Array Value} {C : World → Prop} {v : Value} {x : InC C}
    (h : Calls P f args x.val fun e w' => e = .returned v ∧ C w') : Calls P f args x.val fun e w'' => e = .returned v ∧ ∃ y : InC C, w'' = y.val :=
  h.mono fun _ w' ⟨he, hw⟩ => ⟨he, ⟨w', hw⟩, rfl⟩
theorem cls_in {C : World → Prop} {w : World} (h : C w) : Cls C w := ⟨⟨w, h⟩, rfl⟩
end Go.Proofs.Ytggnjgnjgnlchaa
/- Walks of the program's own sums of bytes (package crc): the table, the eight steps of a byte. -/
namespace Go.Proofs.Ytggnjgnjgnlchaa
set_option linter.unusedVariables false
set_option linter.unusedSimpArgs false
open Go.RowKit
theorem xP (x : BitVec 32) : bits .xor .u32 (v32 x : Int) (2197175160 : Int) = (v32 (x ^^^ 2197175160#32) : Int) := by
  have h : (2197175160 : Int) = (v32 (2197175160#32) : Int) := by decide
  rw [h, x32]
attribute [local go_sem] x32 n32 a32_15 a32_1 a32_1b s32_4 s32_1 xP

/-- the four-step table -/
def tab (i : Nat) : BitVec 32 := step4 (BitVec.ofNat 32 i)
theorem tab_and (x : BitVec 32) : tab (v32 (x &&& 15#32)) = step4 (x &&& 15#32) := by
  unfold tab v32
  rw [BitVec.ofNat_toNat, BitVec.setWidth_eq]
theorem and15 (x : BitVec 32) : v32 (x &&& 15#32) < 16 := by
  unfold v32
  rw [BitVec.toNat_and]
  have := Nat.and_le_right (n := x.toNat) (m := (15#32).toNat)
  have e : (15#32).toNat = 15 := rfl
  omega

set_option maxHeartbeats 400000 in
theorem steps_any (b : Nat) (s : BitVec 32) (w : World)
    (hc : ∀ i : Nat, i < 16 → w.cell? ⟨b, i, none⟩ = some (.int .u32 (v32 (tab i) : Int))) :
    Calls Try.prog 48 #[.pointer (some ⟨b, 0, none⟩), .int .u32 (v32 s : Int)] w fun e w' => e = .returned (.int .u32 (v32 (step8 s) : Int)) ∧ w' = w := by
  have g1 := hc _ (and15 s)
  have b1 := and15 s
  have g2 := hc _ (and15 (step4 s))
  have b2 := and15 (step4 s)
  rw [tab_and] at g1 g2
  have H1 : (step4 (s &&& 15#32) ^^^ s >>> 4) = step4 s := (step4_split s).symm
  have H2 : (step4 (step4 s &&& 15#32) ^^^ step4 s >>> 4) = step8 s := (step4_split (step4 s)).symm
  clear hc
  go_enter Try.func48, Try.ntmps48
  go_wp2
  go_ret
  exact ⟨rfl, rfl⟩

/-- the table while it is filled -/
def mix (k : Nat) : Array Value := ((List.range 16).map fun i => if i < k then Value.int .u32 (v32 (tab i) : Int) else Value.int .u32 0).toArray
theorem mix_size (k : Nat) : (mix k).size = 16 := by simp [mix]
theorem mix_zero : mix 0 = #[.int .u32 0, .int .u32 0, .int .u32 0, .int .u32 0, .int .u32 0, .int .u32 0, .int .u32 0, .int .u32 0, .int .u32 0, .int .u32 0, .int .u32 0, .int .u32 0, .int .u32 0, .int .u32 0, .int .u32 0, .int .u32 0] := rfl
theorem mix_one (k : Nat) : (mix k).all (·.oneCell') = true := by
  rw [Array.all_eq_true_iff_forall_mem]
  intro x hx
  unfold mix at hx
  simp only [List.mem_toArray, List.mem_map] at hx
  obtain ⟨i, _, rfl⟩ := hx
  split <;> rfl
theorem mix_set (k : Nat) : (mix k).setIfInBounds k (.int .u32 (v32 (tab k) : Int)) = mix (k + 1) := by
  apply Array.ext
  · simp [mix_size]
  · intro i h1 h2
    simp only [mix_size] at h2
    rw [Array.getElem_setIfInBounds (by simpa [mix_size] using h2)]
    by_cases e : k = i
    · subst e; simp [mix]
    · have : (i < k + 1) = (i < k) := by simp; omega
      simp [e, this, mix]
/-- s, stepped so often -/
def stepN (s : BitVec 32) : Nat → BitVec 32
  | 0 => s
  | j + 1 => step1 (stepN s j)
theorem stepN4 (k : Nat) : stepN (BitVec.ofNat 32 k) 4 = tab k := rfl
theorem stepN_yes (s : BitVec 32) (j : Nat) (h : odd32 (stepN s j) = true) : stepN s j >>> 1 ^^^ 2197175160#32 = stepN s (j + 1) := by
  show _ = step1 (stepN s j)
  unfold odd32 at h; unfold step1; rw [h]; rfl
theorem stepN_no (s : BitVec 32) (j : Nat) (h : odd32 (stepN s j) = false) : stepN s j >>> 1 = stepN s (j + 1) := by
  show _ = step1 (stepN s j)
  unfold odd32 at h; unfold step1; rw [h]; simp
theorem word_nat {k : Nat} (h : k < 16) : (k : Int) = (v32 (stepN (BitVec.ofNat 32 k) 0) : Int) := by
  show _ = ((BitVec.ofNat 32 k).toNat : Int)
  rw [BitVec.toNat_ofNat]; omega
abbrev Z16 : Obj := .cells (mix 0) 64

set_option maxHeartbeats 400000 in
theorem halves_any (w : World)  :
    Calls Try.prog 47 #[] w fun e w' => e = .returned (.agg (mix 16)) ∧ Below w.heap.size w w' := by
  go_enter Try.func47, Try.ntmps47
  go_wp2
  rw [← mix_zero]
  go_loopw [4] (fun i wr => ∃ k : Nat, k ≤ 16 ∧ i = .int .i64 k ∧ wr = (w.alloc Z16).alloc (.cells (mix k) 64)) (fun i _ => 16 - (intOf i).toNat)
  case atStart => exact ⟨0, by omega, rfl, rfl⟩
  case round =>
    obtain ⟨k, hk, rfl, rfl⟩ := hrel
    by_cases hlt : k < 16
    · go_wp2
      go_loop [3, 9] (fun s j => ∃ q : Nat, q ≤ 4 ∧ j = .int .i64 q ∧ s = .int .u32 (v32 (stepN (BitVec.ofNat 32 k) q) : Int)) (fun _ j => 4 - (intOf j).toNat)
      case atStart => exact ⟨0, by omega, rfl, by rw [word_nat hlt]⟩
      case round =>
        obtain ⟨q, hq, rfl, rfl⟩ := hrel
        by_cases hqt : q < 4
        · cases hb : odd32 (stepN (BitVec.ofNat 32 k) q)
          · have H := stepN_no _ q hb
            go_wp2
            go_round
            case rel => exact ⟨q + 1, by omega, by go_num, rfl⟩
            case measure => simp [intOf]; omega
          · have H := stepN_yes _ q hb
            go_wp2
            go_round
            case rel => exact ⟨q + 1, by omega, by go_num, rfl⟩
            case measure => simp [intOf]; omega
        · obtain rfl : q = 4 := by omega
          have ht := stepN4 k
          have hset := mix_set k
          have hs := mix_size k
          go_wp2
          go_roundw
          case rel => exact ⟨k + 1, by omega, by go_num, rfl⟩
          case measure => simp [intOf]; omega
    · obtain rfl : k = 16 := by omega
      have hall : (mix 16).all (·.oneCell') = true := mix_one 16
      have hi : (Try.prog.info? 64).map (·.size) = some (mix 16).size := by rw [mix_size]; kernel_rfl
      have hg1 : ((w.alloc Z16).alloc (.cells (mix 16) 64)).heap[w.heap.size + 1]? = some (.cells (mix 16) 64 (0, 0)) := heap_alloc2_new w _ _
      have hg0 : ((w.alloc Z16).alloc (.cells (mix 16) 64)).heap[w.heap.size]? = some (.cells (mix 0) 64 (0, 0)) := heap_alloc2_old w _ _
      have hb : Below w.heap.size w ((w.alloc Z16).alloc (.cells (mix 16) 64)) := ((Below.refl _ _).alloc (Nat.le_refl _) _).alloc (by simp) _
      have hs : w.heap.size + 1 < ((w.alloc Z16).alloc (.cells (mix 16) 64)).heap.size := by simp
      generalize ((w.alloc Z16).alloc (.cells (mix 16) 64)) = W at hg1 hg0 hb hs
      go_wp2_with (first
        | (with_reducible refine wpList_load_row rfl 64 (.tmp 1) rfl (w.heap.size + 1) rfl 64 (mix 16) (0, 0) _ hg1 Try.underlying64 rfl hi ?_)
        | (with_reducible refine wpList_store_row rfl 64 (.tmp 0) (.tmp 24) rfl w.heap.size (mix 16) rfl rfl 64 (mix 0) hg0 hi (by rw [mix_size, mix_size]) hall ?_))
      have hg2 := setRow_heap W w.heap.size (mix 0) (mix 16) 64 (0, 0) hg0
      exact bodyPost_ret (results_cell_row rfl _ _ w.heap.size 64 (mix 16) (0, 0) _ rfl hg2 Try.underlying64 rfl hi) rfl ⟨rfl, below_setRow hb (Nat.le_refl _) _⟩
end Go.Proofs.Ytggnjgnjgnlchaa
/- Walks of the program's own sums of bytes: Update and Of. -/
namespace Go.Proofs.Ytggnjgnjgnlchaa
set_option linter.unusedVariables false
set_option linter.unusedSimpArgs false
open Go.RowKit
attribute [local go_sem] x32 n32 m8

theorem upd_take (s : BitVec 32) (p : List UInt8) (k : Nat) (h : k < p.length) : step8 (upd s (p.take k) ^^^ bw p[k]) = upd s (p.take (k + 1)) := by
  rw [List.take_succ_eq_append_getElem h, upd_append]
  rfl
theorem tab_cells (w : World) (g i : Nat) (T : TypeId) (fr : Nat × Nat) (hg : w.heap[g]? = some (.cells (mix 16) T fr)) (hi : i < 16) :
    w.cell? ⟨g, i, none⟩ = some (.int .u32 (v32 (tab i) : Int)) := by
  rw [cell_of_row w g i (mix 16) T fr hg]
  unfold mix
  simp [hi]

set_option maxHeartbeats 400000 in
theorem update_any (s : BitVec 32) (p : List UInt8) (a : Option Addr) (cap : Nat) (w : World) (hp : BytesAt w a p) (hl : p.length ≤ 9223372036854775807) :
    Calls Try.prog 41 #[.int .u32 (v32 s : Int), .slice a p.length cap] w fun e w' => e = .returned (.int .u32 (v32 (crcUpdate s p) : Int)) ∧ Below w.heap.size w w' := by
  have hi : (Try.prog.info? 64).map (·.size) = some (mix 16).size := by rw [mix_size]; kernel_rfl
  have hall : (mix 16).all (·.oneCell') = true := mix_one 16
  go_enter Try.func41, Try.ntmps41
  go_wp2_with (first
    | (go_at_call 47; refine (halves_any _).mono ?_; rintro e w1 ⟨rfl, hb⟩)
    | (with_reducible refine wpList_store_row rfl 64 (.tmp 5) (.tmp 9) rfl _ (mix 16) rfl rfl 64 (mix 0) (heap_alloc_new _ _) hi (by rw [mix_size, mix_size]) hall ?_))
  have hg : ((w1.alloc (.cells (mix 0) 64)).setRow w1.heap.size (mix 16)).heap[w1.heap.size]? = some (.cells (mix 16) 64 (0, 0)) :=
    setRow_heap _ _ (mix 0) (mix 16) 64 (0, 0) (heap_alloc_new _ _)
  have hb1 : Below w.heap.size w ((w1.alloc (.cells (mix 0) 64)).setRow w1.heap.size (mix 16)) := below_setRow (hb.alloc hb.size _) hb.size _
  rw [← mix_zero]
  generalize ((w1.alloc (.cells (mix 0) 64)).setRow w1.heap.size (mix 16)) = W at hg hb1
  have hp1 : BytesAt W a p := hp.below (Nat.le_refl _) hb1
  have ht : ∀ i : Nat, i < 16 → W.cell? ⟨w1.heap.size, i, none⟩ = some (.int .u32 (v32 (tab i) : Int)) := fun i hi => tab_cells W _ i _ _ hg hi
  have Ht : Hid (∀ i : Nat, i < 16 → W.cell? ⟨w1.heap.size, i, none⟩ = some (.int .u32 (v32 (tab i) : Int))) := ht
  clear ht hg hall hi
  go_loop [6, 14] (fun x i => ∃ k : Nat, k ≤ p.length ∧ i = .int .i64 k ∧ x = .int .u32 (v32 (upd (~~~ s) (p.take k)) : Int)) (fun _ i => p.length - (intOf i).toNat)
  case atStart => exact ⟨0, by omega, rfl, rfl⟩
  case round =>
    obtain ⟨k, hk, rfl, rfl⟩ := hrel
    by_cases hlt : k < p.length
    · obtain ⟨b, off, rfl, hbs, hc⟩ := hp1.split (by intro e; subst e; simp at hlt)
      have hck := hc k hlt
      have hu := upd_take (~~~ s) p k hlt
      clear hc
      go_wp2_with (go_at_call 48; with_reducible refine (steps_any _ _ _ Ht.out).mono ?_; rintro e w' ⟨rfl, rfl⟩)
      go_round
      case rel => exact ⟨k + 1, by omega, by go_num, by with_reducible rfl⟩
      case measure => simp [intOf]; omega
    · obtain rfl : k = p.length := by omega
      go_wp2
      go_ret
      exact ⟨rfl, hb1⟩

set_option maxHeartbeats 400000 in
theorem of_any (p : List UInt8) (a : Option Addr) (cap : Nat) (w : World) (hp : BytesAt w a p) (hl : p.length ≤ 9223372036854775807) :
    Calls Try.prog 42 #[.slice a p.length cap] w fun e w' => e = .returned (.int .u32 (v32 (crcOf p) : Int)) ∧ Below w.heap.size w w' := by
  have h0 : (0 : Int) = (v32 0#32 : Int) := rfl
  have hu := update_any 0#32 p a cap w hp hl
  rw [← h0] at hu
  go_enter Try.func42, Try.ntmps42
  go_wp2_with (go_at_call 41; refine hu.mono ?_; rintro e w' ⟨rfl, hb⟩)
  go_ret
  exact ⟨rfl, hb⟩

end Go.Proofs.Ytggnjgnjgnlchaa
/- Walks of the document's own sums of bytes (package treadleref2). -/
namespace Go.Proofs.Ytggnjgnjgnlchaa
set_option linter.unusedVariables false
set_option linter.unusedSimpArgs false
open Go.RowKit

theorem xP64 (x : BitVec 32) : bits .xor .i64 (v32 x : Int) (2197175160 : Int) = (v32 (x ^^^ 2197175160#32) : Int) := by
  have h : (2197175160 : Int) = (v32 (2197175160#32) : Int) := by decide
  rw [h, x64]
theorem w64 (x : BitVec 32) : wrap64 (v32 x : Int) = (v32 x : Int) := by have := v32_lt x; unfold wrap64; omega
theorem c6432 (x : BitVec 32) : (v32 x : Int) % (4294967296 : Int) = (v32 x : Int) := by have := v32_lt x; omega
theorem x64_0 (x : BitVec 32) : bits .xor .i64 (0 : Int) (v32 x : Int) = (v32 x : Int) := by
  have h : (0 : Int) = (v32 (0#32) : Int) := by decide
  rw [h, x64]; simp
attribute [local go_sem] x64 n64 b64 xP64 m32_2 a32_1b s32_1 w64 c6432 x64_0

def stepM (s : BitVec 32) : Nat → BitVec 32
  | 0 => s
  | j + 1 => step1 (stepM s j)
theorem stepM8 (s : BitVec 32) : stepM s 8 = step8 s := rfl
theorem stepM_yes (s : BitVec 32) (j : Nat) (h : odd32 (stepM s j) = true) : stepM s j >>> 1 ^^^ 2197175160#32 = stepM s (j + 1) := by
  show _ = step1 (stepM s j)
  unfold odd32 at h; unfold step1; rw [h]; rfl
theorem stepM_no (s : BitVec 32) (j : Nat) (h : odd32 (stepM s j) = false) : stepM s j >>> 1 = stepM s (j + 1) := by
  show _ = step1 (stepM s j)
  unfold odd32 at h; unfold step1; rw [h]; simp

set_option maxHeartbeats 400000 in
theorem rstep_any (s : BitVec 32) (w : World) :
    Calls Try.prog 49 #[.int .i64 (v32 s : Int)] w fun e w' => e = .returned (.int .i64 (v32 (step8 s) : Int)) ∧ w' = w := by
  go_enter Try.func49, Try.ntmps49
  go_wp2
  go_loop [0, 3] (fun x i => ∃ k : Nat, k ≤ 8 ∧ i = .int .i64 k ∧ x = .int .i64 (v32 (stepM s k) : Int)) (fun _ i => 8 - (intOf i).toNat)
  case atStart => exact ⟨0, by omega, rfl, rfl⟩
  case round =>
    obtain ⟨k, hk, rfl, rfl⟩ := hrel
    by_cases hlt : k < 8
    · cases hb : odd32 (stepM s k)
      · have H := stepM_no s k hb
        go_wp2
        go_round
        case rel => exact ⟨k + 1, by omega, by go_num, by first | with_reducible rfl | rw [w64]⟩
        case measure => simp [intOf]; omega
      · have H := stepM_yes s k hb
        go_wp2
        go_round
        case rel => exact ⟨k + 1, by omega, by go_num, by first | with_reducible rfl | rw [w64]⟩
        case measure => simp [intOf]; omega
    · obtain rfl : k = 8 := by omega
      go_wp2
      go_ret
      exact ⟨by rw [← stepM8]; rfl, rfl⟩

set_option maxHeartbeats 400000 in
theorem rupdate_any (s : BitVec 32) (p : List UInt8) (a : Option Addr) (cap : Nat) (w : World) (hp : BytesAt w a p) (hl : p.length ≤ 9223372036854775807) :
    Calls Try.prog 44 #[.int .u32 (v32 s : Int), .slice a p.length cap] w fun e w' => e = .returned (.int .u32 (v32 (crcUpdate s p) : Int)) ∧ w' = w := by
  have hs0 := v32_lt s
  go_enter Try.func44, Try.ntmps44
  go_wp2
  go_loop [5, 6] (fun x i => ∃ k : Nat, k ≤ p.length ∧ i = .int .i64 k ∧ x = .int .i64 (v32 (upd (~~~ s) (p.take k)) : Int)) (fun _ i => p.length - (intOf i).toNat)
  case atStart => exact ⟨0, by omega, rfl, rfl⟩
  case round =>
    obtain ⟨k, hk, rfl, rfl⟩ := hrel
    by_cases hlt : k < p.length
    · obtain ⟨b, off, rfl, hbs, hc⟩ := hp.split (by intro e; subst e; simp at hlt)
      have hck := hc k hlt
      have hu := upd_take (~~~ s) p k hlt
      have hb8 : p[k].toNat < 256 := p[k].toNat_lt
      clear hc
      go_wp2_with (go_at_call 49; with_reducible refine (rstep_any _ _).mono ?_; rintro e w' ⟨rfl, rfl⟩)
      go_round
      case rel => exact ⟨k + 1, by omega, by go_num, by first | with_reducible rfl | rw [w64]⟩
      case measure => simp [intOf]; omega
    · obtain rfl : k = p.length := by omega
      go_wp2
      go_ret
      exact ⟨rfl, rfl⟩

set_option maxHeartbeats 400000 in
theorem rof_any (p : List UInt8) (a : Option Addr) (cap : Nat) (w : World) (hp : BytesAt w a p) (hl : p.length ≤ 9223372036854775807) :
    Calls Try.prog 45 #[.slice a p.length cap] w fun e w' => e = .returned (.int .u32 (v32 (crcOf p) : Int)) ∧ w' = w := by
  have h0 : (0 : Int) = (v32 0#32 : Int) := rfl
  have hu := rupdate_any 0#32 p a cap w hp hl
  rw [← h0] at hu
  go_enter Try.func45, Try.ntmps45
  go_wp2_with (go_at_call 44; refine hu.mono ?_; rintro e w' ⟨rfl, rfl⟩)
  go_ret
  exact ⟨rfl, rfl⟩

end Go.Proofs.Ytggnjgnjgnlchaa
/- crc as the kernel wants it: Of, Update, the document's -/
namespace Go.Proofs.Ytggnjgnjgnlchaa
set_option linter.unusedVariables false
set_option linter.unusedSimpArgs false
open Go.RowKit
abbrev roBo (off : Nat) (B : List UInt8) : AO := .ro 1 off B.length (bytesF B)
theorem ro_at {ρ : Env} {r : Option Nat} {w : World} {off : Nat} {p : List UInt8} (h : (roBo off p).holds ρ r w) : BytesAt w (r.map fun b => ⟨b, off * 1, none⟩) p := by
  by_cases hp : p = []
  · exact .inl hp
  · rcases h with ⟨_, hn⟩ | ⟨b, cur, T, fr, rfl, hb, hc⟩
    · exact absurd (List.length_eq_zero_iff.1 hn) hp
    · refine .inr ⟨b, off * 1, rfl, (Array.getElem?_eq_some_iff.1 hb).1, fun i hi => ?_⟩
      have := hc i 0 (.raw (byteV (p.getD i 0))) hi rfl
      rw [show (off + i) * 1 + 0 = off * 1 + i by omega] at this
      rw [cell_of_row w b _ _ T fr hb, this]
      simp [AV.conc, byteV, List.getD, hi]
theorem Spec.of_below {P : Program} {f : FuncId} {avs : List AV} {h0 : List AO} {m : Nat} {v : Value} (hm : h0.length ≤ m)
    (h : ∀ (ρ : Env) (w : World), (∀ (i : Nat) (o : AO), h0[i]? = some o → o.holds ρ (ρ i) w) → Calls P f (AV.concs ρ avs).toArray w fun e w' => e = .returned v ∧ Below w.heap.size w w') :
    Spec P f avs h0 m (σ := Unit) (fun _ => True) (fun _ => .raw v) (fun _ => []) := fun ρ w h1 h2 h3 => by
  refine (h ρ w h1).mono ?_
  rintro e w' ⟨rfl, hb⟩
  refine ⟨(), fun l => if l < h0.length then ρ l else none, trivial, fun i hi => if_pos hi, rfl, AV.Low.raw _ _ _, ⟨hb.os, hb.tape, hb.output, hb.size, fun b hb' _ => hb.block b hb'⟩, fun l o hl => by simp [hk, lk] at hl, fun l l' b hl => by obtain ⟨o, ho, _⟩ := hl; simp [hk, lk] at ho,
    fun l b hl hb' => ?_, fun l b _ hl => by simp [hk, lk] at hl, fun i o _ hl => by simp [hk, lk] at hl⟩
  dsimp only at hb'
  split at hb'
  · rename_i h4
    have := h3 l b h4 hb'
    have := hb.size
    omega
  · cases hb'
theorem crcu_spec (s : BitVec 32) (off c : Nat) (p : List UInt8) (hl : p.length ≤ 9223372036854775807) : Spec Try.prog 41 [.raw (.int .u32 (v32 s)), .sl 0 1 off p.length c] [roBo off p] 1 (σ := Unit) (fun _ => True) (fun _ => .raw (.int .u32 (v32 (crcUpdate s p)))) (fun _ => []) :=
  Spec.of_below (by simp) fun ρ w h => update_any s p _ c w (ro_at (h 0 _ rfl)) hl
theorem crco_spec (off c : Nat) (p : List UInt8) (hl : p.length ≤ 9223372036854775807) : Spec Try.prog 42 [.sl 0 1 off p.length c] [roBo off p] 1 (σ := Unit) (fun _ => True) (fun _ => .raw (.int .u32 (v32 (crcOf p)))) (fun _ => []) :=
  Spec.of_below (by simp) fun ρ w h => of_any p _ c w (ro_at (h 0 _ rfl)) hl
theorem rcrcu_spec (s : BitVec 32) (off c : Nat) (p : List UInt8) (hl : p.length ≤ 9223372036854775807) : Spec Try.prog 44 [.raw (.int .u32 (v32 s)), .sl 0 1 off p.length c] [roBo off p] 1 (σ := Unit) (fun _ => True) (fun _ => .raw (.int .u32 (v32 (crcUpdate s p)))) (fun _ => []) :=
  Spec.of_below (by simp) fun ρ w h => (rupdate_any s p _ c w (ro_at (h 0 _ rfl)) hl).mono fun e w' ⟨he, hw⟩ => ⟨he, hw ▸ Below.refl _ _⟩
theorem rcrco_spec (off c : Nat) (p : List UInt8) (hl : p.length ≤ 9223372036854775807) : Spec Try.prog 45 [.sl 0 1 off p.length c] [roBo off p] 1 (σ := Unit) (fun _ => True) (fun _ => .raw (.int .u32 (v32 (crcOf p)))) (fun _ => []) :=
  Spec.of_below (by simp) fun ρ w h => (rof_any p _ c w (ro_at (h 0 _ rfl)) hl).mono fun e w' ⟨he, hw⟩ => ⟨he, hw ▸ Below.refl _ _⟩
end Go.Proofs.Ytggnjgnjgnlchaa
