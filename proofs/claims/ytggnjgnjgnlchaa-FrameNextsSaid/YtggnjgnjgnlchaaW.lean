/- Words that the walks share: a word's number under a name of its own, what the operations on words give, bytes in memory. No program in sight. -/
import Derived.WalkKit
import Derived.WalkSpells
import Derived.WalkLawsBesides
import Derived.Laws.CopyOwn
import Derived.Lib.Hide
import Derived.Deep.Draws
namespace Go.Proofs.Ytggnjgnjgnlchaa
set_option linter.unusedVariables false
set_option linter.unusedSimpArgs false
open Go.RowKit

/-- a word's number: a name of its own, so that simp leaves it whole -/
def v32 (x : BitVec 32) : Nat := x.toNat
theorem v32_lt (x : BitVec 32) : v32 x < 4294967296 := x.isLt
theorem v32_ofNat {n : Nat} (h : n < 4294967296) : v32 (BitVec.ofNat 32 n) = n := by
  unfold v32; rw [BitVec.toNat_ofNat]; omega
theorem ofInt32 (x : BitVec 32) : BitVec.ofInt 32 (v32 x : Int) = x := by
  unfold v32
  rw [BitVec.ofInt_natCast, BitVec.ofNat_toNat, BitVec.setWidth_eq]
theorem wrapN (x : BitVec 32) : IntKind.u32.wrap (x.toNat : Int) = (v32 x : Int) := by
  unfold v32
  rw [IntKind.wrap_u32]; have := x.isLt; omega
theorem not32 (x : BitVec 32) : ~~~ x = 0xffffffff#32 ^^^ x := by
  apply BitVec.eq_of_getLsbD_eq
  intro i hi
  have : ∀ j : Fin 32, (0xffffffff#32).getLsbD j.val = true := by decide
  rw [BitVec.getLsbD_not, BitVec.getLsbD_xor, this ⟨i, hi⟩]
  simp [hi]
theorem x32 (x y : BitVec 32) : bits .xor .u32 (v32 x : Int) (v32 y : Int) = (v32 (x ^^^ y) : Int) := by
  show IntKind.u32.wrap ((BitVec.ofInt 32 (v32 x : Int) ^^^ BitVec.ofInt 32 (v32 y : Int) : BitVec 32).toNat : Int) = _
  rw [ofInt32, ofInt32, wrapN]
theorem n32 (x : BitVec 32) : bits .xor .u32 IntKind.u32.max (v32 x : Int) = (v32 (~~~ x) : Int) := by
  have h : (IntKind.u32.max : Int) = (v32 (0xffffffff#32) : Int) := by decide
  rw [h, x32, not32]
theorem a32_15 (x : BitVec 32) : bits .and .u32 (v32 x : Int) (15 : Int) = (v32 (x &&& 15#32) : Int) := by
  show IntKind.u32.wrap ((BitVec.ofInt 32 (v32 x : Int) &&& 15#32 : BitVec 32).toNat : Int) = _
  rw [ofInt32, wrapN]
theorem a32_1 (x : BitVec 32) : bits .and .u32 (v32 x : Int) (1 : Int) = (v32 (x &&& 1#32) : Int) := by
  show IntKind.u32.wrap ((BitVec.ofInt 32 (v32 x : Int) &&& 1#32 : BitVec 32).toNat : Int) = _
  rw [ofInt32, wrapN]
theorem s32_4 (x : BitVec 32) : (v32 x : Int) / (16 : Int) = (v32 (x >>> 4) : Int) := by
  unfold v32
  rw [BitVec.toNat_ushiftRight, Nat.shiftRight_eq_div_pow]
  rfl
theorem s32_1 (x : BitVec 32) : (v32 x : Int) / (2 : Int) = (v32 (x >>> 1) : Int) := by
  unfold v32
  rw [BitVec.toNat_ushiftRight, Nat.shiftRight_eq_div_pow]
  rfl
def odd32 (x : BitVec 32) : Bool := x.getLsbD 0
theorem and1 (x : BitVec 32) : v32 (x &&& 1#32) = if odd32 x then 1 else 0 := by
  unfold v32 odd32
  rw [BitVec.toNat_and]
  show x.toNat &&& 1 = _
  rw [Nat.and_one_is_mod, BitVec.getLsbD, Nat.testBit_zero]
  have := Nat.mod_two_eq_zero_or_one x.toNat
  rcases this with h | h <;> simp [h]
theorem a32_1b (x : BitVec 32) : ((v32 (x &&& 1#32) : Int) == (1 : Int)) = odd32 x := by
  rw [and1]
  cases odd32 x <;> rfl
theorem m32_2 (x : BitVec 32) : (v32 x : Int) % (2 : Int) = (v32 (x &&& 1#32) : Int) := by
  rw [and1]
  unfold v32 odd32
  rw [BitVec.getLsbD, Nat.testBit_zero]
  rcases Nat.mod_two_eq_zero_or_one x.toNat with h | h <;> simp [h] <;> omega
theorem eq32 (x y : BitVec 32) : ((v32 x : Int) == (v32 y : Int)) = (x == y) := by
  by_cases h : x = y
  · subst h; simp
  · have h1 : ¬ ((v32 x : Int) = (v32 y : Int)) := fun e => h (BitVec.eq_of_toNat_eq (by unfold v32 at e; omega))
    rw [beq_eq_false_iff_ne.2 h1, beq_eq_false_iff_ne.2 h]
theorem ne32 (x y : BitVec 32) : ((v32 x : Int) != (v32 y : Int)) = (x != y) := by
  unfold bne; rw [eq32]

/-! words kept in an int (what the references do) -/
theorem ofInt64 (x : BitVec 32) : BitVec.ofInt 64 (v32 x : Int) = x.setWidth 64 := by
  unfold v32
  rw [BitVec.ofInt_natCast]
  apply BitVec.eq_of_toNat_eq
  simp
theorem x64 (x y : BitVec 32) : bits .xor .i64 (v32 x : Int) (v32 y : Int) = (v32 (x ^^^ y) : Int) := by
  show IntKind.i64.wrap ((BitVec.ofInt 64 (v32 x : Int) ^^^ BitVec.ofInt 64 (v32 y : Int) : BitVec 64).toNat : Int) = _
  rw [ofInt64, ofInt64]
  have e : (x.setWidth 64 ^^^ y.setWidth 64 : BitVec 64).toNat = v32 (x ^^^ y) := by
    unfold v32
    rw [BitVec.toNat_xor, BitVec.toNat_xor, BitVec.toNat_setWidth, BitVec.toNat_setWidth]
    have hx := x.isLt
    have hy := y.isLt
    rw [Nat.mod_eq_of_lt (by omega), Nat.mod_eq_of_lt (by omega)]
  rw [e, IntKind.wrap_i64]
  have := v32_lt (x ^^^ y)
  omega
theorem n64 (x : BitVec 32) : bits .xor .i64 (v32 x : Int) (4294967295 : Int) = (v32 (~~~ x) : Int) := by
  have h : (4294967295 : Int) = (v32 (0xffffffff#32) : Int) := by decide
  rw [h, x64, not32, BitVec.xor_comm]

/-- a byte as a word -/
def bw (b : UInt8) : BitVec 32 := BitVec.ofNat 32 b.toNat
theorem v32_bw (b : UInt8) : v32 (bw b) = b.toNat := v32_ofNat (by have := b.toNat_lt; omega)
theorem b32 (b : UInt8) : Value.int .u32 (b.toNat : Int) = Value.int .u32 (v32 (bw b) : Int) := by rw [v32_bw]
theorem m8 (b : UInt8) : (b.toNat : Int) % (4294967296 : Int) = (v32 (bw b) : Int) := by rw [v32_bw]; have := b.toNat_lt; omega
theorem b64 (b : UInt8) (x : BitVec 32) : bits .xor .i64 (v32 x : Int) (b.toNat : Int) = (v32 (x ^^^ bw b) : Int) := by rw [← v32_bw, x64]

/-! blocks of cells -/
theorem blk_set {w : World} {b i : Nat} {c : Array Value} {T : TypeId} {fr : Nat × Nat} (h : w.heap[b]? = some (.cells c T fr)) (v : Value) :
    (w.setCell ⟨b, i, none⟩ v).heap[b]? = some (.cells (c.setIfInBounds i v) T fr) := by
  simp [World.setCell, Array.getElem?_modify, h]
theorem blk_ne {w : World} {b k i : Nat} (h : k ≠ b) (v : Value) : (w.setCell ⟨b, i, none⟩ v).heap[k]? = w.heap[k]? := Below.heap_setCell _ _ _ _ h
theorem blk_cell {w : World} {b i : Nat} {c : Array Value} {T : TypeId} {fr : Nat × Nat} (h : w.heap[b]? = some (.cells c T fr)) {v : Value} (hi : c[i]? = some v) :
    w.cell? ⟨b, i, none⟩ = some v := by rw [cell_of_row w b i c T fr h, hi]
theorem blk_free {w : World} {b i : Nat} {c : Array Value} {T : TypeId} (h : w.heap[b]? = some (.cells c T (0, 0))) : w.frozen? ⟨b, i, none⟩ = false := by
  simp [World.frozen?, h]
theorem blk_lt {w : World} {b : Nat} {o : Obj} (h : w.heap[b]? = some o) : b < w.heap.size := (Array.getElem?_eq_some_iff.1 h).1

theorem _root_.Go.RowKit.Below.drewN {B : Nat} {a w : World} (h : Below B a w) (n : Nat) : Below B a (w.drewN n) := ⟨h.os, h.tape, h.output, h.size, h.block⟩
/-! bytes in memory -/
def byteV (b : UInt8) : Value := .int .u8 (b.toNat : Int)
/-- a slice that begins at a reads as these bytes -/
def BytesAt (w : World) (a : Option Addr) (p : List UInt8) : Prop :=
  p = [] ∨ ∃ b off, a = some ⟨b, off, none⟩ ∧ b < w.heap.size ∧ ∀ i (h : i < p.length), w.cell? ⟨b, off + i, none⟩ = some (.int .u8 ((p[i]).toNat : Int))
theorem BytesAt.nil (w : World) (a : Option Addr) : BytesAt w a [] := Or.inl rfl
theorem BytesAt.below {w w' : World} {a : Option Addr} {p : List UInt8} {B : Nat} (h : BytesAt w a p) (hB : w.heap.size ≤ B) (hb : Below B w w') : BytesAt w' a p := by
  rcases h with h | ⟨b, off, rfl, hlt, hc⟩
  · exact Or.inl h
  · exact Or.inr ⟨b, off, rfl, by have := hb.size; omega, fun i hi => (hb.cell (p := ⟨b, off + i, none⟩) (show b < B by omega)).trans (hc i hi)⟩
theorem BytesAt.split {w : World} {a : Option Addr} {p : List UInt8} (h : BytesAt w a p) (hp : p ≠ []) :
    ∃ b off, a = some ⟨b, off, none⟩ ∧ b < w.heap.size ∧ ∀ i (h : i < p.length), w.cell? ⟨b, off + i, none⟩ = some (.int .u8 ((p[i]).toNat : Int)) := by
  rcases h with h | h
  · exact absurd h hp
  · exact h


/-- bytes as a block's cells -/
def bV (p : List UInt8) : Array Value := (p.map fun x => Value.int .u8 (x.toNat : Int)).toArray
theorem bV_size (p : List UInt8) : (bV p).size = p.length := by simp [bV]
theorem bV_get (p : List UInt8) (i : Nat) (h : i < p.length) : (bV p)[i]? = some (.int .u8 (p[i].toNat : Int)) := by simp [bV, h]
theorem bV_set (p : List UInt8) (i : Nat) (x : UInt8) : (bV p).setIfInBounds i (.int .u8 (x.toNat : Int)) = bV (p.set i x) := by
  unfold bV
  simp [List.map_set]
theorem bytesAt_bV {w : World} {b : Nat} {p : List UInt8} {T : TypeId} {fr : Nat × Nat} (h : w.heap[b]? = some (.cells (bV p) T fr)) : BytesAt w (some ⟨b, 0, none⟩) p :=
  Or.inr ⟨b, 0, rfl, blk_lt h, fun i hi => by rw [Nat.zero_add]; exact blk_cell h (bV_get p i hi)⟩
theorem BytesAt.take {w : World} {a : Option Addr} {p : List UInt8} (h : BytesAt w a p) (n : Nat) : BytesAt w a (p.take n) := by
  rcases h with h | ⟨b, off, ha, hb, hc⟩
  · exact Or.inl (by rw [h]; simp)
  · exact Or.inr ⟨b, off, ha, hb, fun i hi => by simp at hi; rw [hc i (by omega)]; simp⟩
/-- where a part of a list begins -/
def subA (a : Option Addr) (cap l : Nat) : Option Addr := if cap = l then a else a.map (·.add l)
theorem subA_zero (a : Option Addr) (cap : Nat) : subA a cap 0 = a := by
  unfold subA
  split
  · rfl
  · cases a <;> simp [Addr.add]
theorem sliced_sub (a : Option Addr) (l h m : Nat) : sliced a l h m 1 = .slice (subA a m l) (h - l) (m - l) := by simp [sliced, subA]
theorem BytesAt.sub {w : World} {a : Option Addr} {p : List UInt8} (h : BytesAt w a p) (cap l n : Nat) (hl : l + n ≤ p.length) (hc : p.length ≤ cap) : BytesAt w (subA a cap l) ((p.drop l).take n) := by
  by_cases h0 : n = 0
  · subst h0; exact Or.inl (by simp)
  · rcases h with h | ⟨b, off, rfl, hb, hc'⟩
    · subst h; simp at hl; omega
    · refine Or.inr ⟨b, off + l, ?_, hb, fun i hi => ?_⟩
      · unfold subA
        rw [if_neg (by omega)]
        unfold Addr.add
        by_cases hl0 : l = 0
        · subst hl0; simp
        · simp [hl0]
      · simp at hi
        rw [Nat.add_assoc, hc' (l + i) (by omega)]
        simp
/-- a slice that begins at a reads as these numbers -/
def IntsAt (w : World) (a : Option Addr) (p : List Int) : Prop :=
  p = [] ∨ ∃ b off, a = some ⟨b, off, none⟩ ∧ b < w.heap.size ∧ ∀ i (h : i < p.length), w.cell? ⟨b, off + i, none⟩ = some (.int .i64 (p[i]))
theorem IntsAt.below {w w' : World} {a : Option Addr} {p : List Int} {B : Nat} (h : IntsAt w a p) (hB : w.heap.size ≤ B) (hb : Below B w w') : IntsAt w' a p := by
  rcases h with h | ⟨b, off, rfl, hlt, hc⟩
  · exact Or.inl h
  · exact Or.inr ⟨b, off, rfl, by have := hb.size; omega, fun i hi => (hb.cell (p := ⟨b, off + i, none⟩) (show b < B by omega)).trans (hc i hi)⟩
theorem IntsAt.at {w : World} {a : Option Addr} {p : List Int} (h : IntsAt w a p) (i : Nat) (hi : i < p.length) :
    ∃ b off, a = some ⟨b, off, none⟩ ∧ b < w.heap.size ∧ w.cell? ⟨b, off + i, none⟩ = some (.int .i64 (p[i])) := by
  rcases h with h | ⟨b, off, ha, hb, hc⟩
  · subst h; simp at hi
  · exact ⟨b, off, ha, hb, hc i hi⟩
theorem madeCells_bytes (n : Nat) : madeCells (Value.int .u8 0).cells n = bV (List.replicate n 0) := by
  unfold madeCells bV
  apply Array.ext
  · simp
  · intro i h1 h2
    simp [Value.cells]
    rw [Nat.mod_one]; rfl

end Go.Proofs.Ytggnjgnjgnlchaa
