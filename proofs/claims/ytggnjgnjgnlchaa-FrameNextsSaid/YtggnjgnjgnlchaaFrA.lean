/- Walks of package frame: a number in four bytes, read and laid. -/
import Derived.Test.YtggnjgnjgnlchaaProg
import Derived.Test.YtggnjgnjgnlchaaFrM
import Derived.Test.YtggnjgnjgnlchaaCrcB
namespace Go.Proofs.Ytggnjgnjgnlchaa
set_option linter.unusedVariables false
set_option linter.unusedSimpArgs false
open Go.RowKit

theorem or_pre (p : List UInt8) (k : Nat) (hk : k < 4) (hp : k < p.length) :
    bits .or .u32 (pre p k : Int) ((p[k].toNat : Int) * (2 : Int) ^ (8 * k) % (4294967296 : Int)) = (pre p (k + 1) : Int) := by
  have hb := p[k].toNat_lt
  have hlt := pre_lt p k
  have hlt2 := pre_lt p (k + 1)
  have h256 : (256 : Nat) ^ k = 2 ^ (8 * k) := by rw [Nat.pow_mul]
  have hpow : (256 : Nat) ^ (k + 1) ≤ 256 ^ 4 := Nat.pow_le_pow_right (by decide) hk
  have hg : p.getD k 0 = p[k] := by simp [List.getD, hp]
  have hsum : pre p (k + 1) = pre p k + p[k].toNat * 2 ^ (8 * k) := by
    show pre p k + (p.getD k 0).toNat * 256 ^ k = _
    rw [hg, h256]
  have hm : (p[k].toNat : Int) * (2 : Int) ^ (8 * k) % (4294967296 : Int) = ((p[k].toNat * 2 ^ (8 * k) : Nat) : Int) := by
    rw [Int.natCast_mul, Int.natCast_pow]
    have : ((p[k].toNat * 2 ^ (8 * k) : Nat) : Int) < 4294967296 := by omega
    rw [Int.natCast_mul, Int.natCast_pow] at this
    exact Int.emod_eq_of_lt (Int.mul_nonneg (by omega) (Int.pow_nonneg (by decide))) this
  rw [hm]
  have hor := (bits_nat .u32 32 (by decide) (fun n h0 h1 => by rw [IntKind.wrap_u32]; omega) (pre p k) (p[k].toNat * 2 ^ (8 * k)) (by omega) (by omega)).2
  rw [hor, hsum]
  congr 1
  rw [Nat.or_comm, Nat.mul_comm, Nat.add_comm, Nat.two_pow_add_eq_or_of_lt (by rw [← h256]; exact hlt)]
set_option maxHeartbeats 1000000 in
theorem word_any (p : List UInt8) (a : Option Addr) (cap : Nat) (w : World) (hp : BytesAt w a p) (h4 : 4 ≤ p.length) (hl : p.length ≤ 9223372036854775807) :
    Calls Try.prog 46 #[.slice a p.length cap] w fun e w' => e = .returned (.int .u32 (v32 (BitVec.ofNat 32 (le4 p)) : Int)) ∧ w' = w := by
  obtain ⟨b, off, rfl, hb, hc⟩ := hp.split (by intro e; subst e; simp at h4)
  go_enter Try.func46, Try.ntmps46
  go_wp2
  go_loop [3, 5] (fun x i => ∃ k : Nat, k ≤ 4 ∧ i = .int .i64 k ∧ x = .int .u32 (pre p k : Int)) (fun _ i => 4 - (intOf i).toNat)
  case atStart => exact ⟨0, by omega, rfl, rfl⟩
  case round =>
    obtain ⟨k, hk, rfl, rfl⟩ := hrel
    by_cases hlt : k < 4
    · have hck := hc k (by omega)
      have hb8 : p[k].toNat < 256 := p[k].toNat_lt
      clear hc
      go_wp2
      go_round
      case rel => exact ⟨k + 1, by omega, by go_num, by rw [or_pre p k hlt (by omega)]⟩
      case measure => simp [intOf]; omega
    · obtain rfl : k = 4 := by omega
      go_wp2
      go_ret
      refine ⟨?_, rfl⟩
      rw [v32_ofNat (le4_lt p)]
      rfl

/-- a block of bytes in which q stands, its first byte at off -/
theorem over_bV (q : List UInt8) (i : Nat) (x : UInt8) : (bV q).setIfInBounds i (.int .u8 (x.toNat : Int)) = bV (q.set i x) := bV_set q i x
/-- the first k bytes of a number laid over a list from off on -/
def laid (q : List UInt8) (off n : Nat) : Nat → List UInt8
  | 0 => q
  | k + 1 => (laid q off n k).set (off + k) (byteOf n k)
theorem laid_length (q : List UInt8) (off n k : Nat) : (laid q off n k).length = q.length := by
  induction k with
  | zero => rfl
  | succ k ih => simp [laid, ih]
theorem byte_shift (v : BitVec 32) (k : Nat) : (v32 v : Int) / (2 : Int) ^ (8 * k) % (256 : Int) = ((byteOf v.toNat k).toNat : Int) := by
  rw [byteOf_toNat]
  have h256 : (256 : Nat) ^ k = 2 ^ (8 * k) := by rw [Nat.pow_mul]
  unfold v32
  rw [h256]
  simp
/-- nothing but block g has turned -/
structure OnlyAt (g : Nat) (w w' : World) : Prop where
  os : w'.os = w.os
  tape : w'.tape = w.tape
  output : w'.output = w.output
  size : w.heap.size ≤ w'.heap.size
  block : ∀ k, k < w.heap.size → k ≠ g → w'.heap[k]? = w.heap[k]?
theorem OnlyAt.refl (g : Nat) (w : World) : OnlyAt g w w := ⟨rfl, rfl, rfl, Nat.le_refl _, fun _ _ _ => rfl⟩
theorem OnlyAt.set {g : Nat} {w w' : World} (h : OnlyAt g w w') (i : Nat) (v : Value) : OnlyAt g w (w'.setCell ⟨g, i, none⟩ v) :=
  ⟨h.os, h.tape, h.output, by simp [World.setCell]; exact h.size, fun k hk hg => by rw [blk_ne hg]; exact h.block k hk hg⟩
theorem OnlyAt.drew {g : Nat} {w w' : World} (h : OnlyAt g w w') : OnlyAt g w w'.drew := ⟨h.os, h.tape, h.output, h.size, h.block⟩
theorem OnlyAt.below {g B : Nat} {w0 w w' : World} (hb : Below B w0 w) (h : OnlyAt g w w') (hg : B ≤ g) (hB : B ≤ w0.heap.size) : Below B w0 w' :=
  hb.trans ⟨h.os, h.tape, h.output, h.size, fun k hk => h.block k (by have := hb.size; omega) (by omega)⟩

set_option maxHeartbeats 1000000 in
theorem four_any (q : List UInt8) (T : TypeId) (g off cap : Nat) (v : BitVec 32) (w : World) (hg : w.heap[g]? = some (.cells (bV q) T (0, 0))) (h4 : off + 4 ≤ q.length) :
    Calls Try.prog 40 #[.slice (some ⟨g, off, none⟩) 4 cap, .int .u32 (v32 v : Int)] w fun e w' => e = .returned (.tuple #[]) ∧ w'.heap[g]? = some (.cells (bV (laid q off v.toNat 4)) T (0, 0)) ∧ OnlyAt g w w' := by
  go_enter Try.func40, Try.ntmps40
  go_wp2
  go_loopw [5] (fun i wr => ∃ k : Nat, k ≤ 4 ∧ i = .int .i64 k ∧ wr.heap[g]? = some (.cells (bV (laid q off v.toNat k)) T (0, 0)) ∧ OnlyAt g w wr) (fun i _ => 4 - (intOf i).toNat)
  case atStart => exact ⟨0, by omega, rfl, hg, OnlyAt.refl _ _⟩
  case round =>
    clear hg
    obtain ⟨k, hk, rfl, hg, ho⟩ := hrel
    by_cases hlt : k < 4
    · obtain ⟨v0, c2⟩ : ∃ v, wr.cell? ⟨g, off + k, none⟩ = some v := ⟨_, blk_cell hg (bV_get _ (off + k) (by rw [laid_length]; omega))⟩
      have f2 : wr.frozen? ⟨g, off + k, none⟩ = false := blk_free hg
      have G := Lib.hid hg
      clear hg
      go_wp2
      go_roundw
      case rel => exact ⟨k + 1, by omega, by go_num, by rw [blk_set G.out, byte_shift, bV_set]; rfl, ho.set _ _⟩
      case measure => simp [intOf]; omega
    · obtain rfl : k = 4 := by omega
      go_wp2
      go_end0
      exact ⟨rfl, hg, ho⟩
end Go.Proofs.Ytggnjgnjgnlchaa
