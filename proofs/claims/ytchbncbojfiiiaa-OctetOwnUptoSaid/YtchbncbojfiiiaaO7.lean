/- octet: the Reader, rows of sevens -/
import Derived.Test.YtchbncbojfiiiaaO6
import Derived.Test.YtchbncbojfiiiaaK22
namespace Go.Proofs.Ytchbncbojfiiiaa
set_option linter.unusedVariables false
set_option linter.unusedSimpArgs false
open Go.RowKit
set_option maxRecDepth 100000
set_option maxHeartbeats 4000000
abbrev rdO (B : List UInt8) (c : Nat) (at_ : Nat) (e : Int) : AO := .cells [.sl 1 1 0 B.length c, .raw (.int .i64 at_), .raw (.int .i64 e)] 57
abbrev roB (B : List UInt8) : AO := .ro 1 0 B.length (bytesF B)
/-- a row of sevens is read: the error, the number, how many bytes -/
def rowA (most last : Nat) : (i acc : Nat) → List UInt8 → Int × Nat × Nat
  | _, _, [] => (2, 0, 0)
  | i, acc, c :: r => if i + 1 = most ∧ last < c.toNat then (15, 0, 0) else
    if c.toNat < 128 then (if 0 < i ∧ c.toNat = 0 then (3, 0, 0) else (0, acc + c.toNat % 128 * 128 ^ i, i + 1)) else
    rowA most last (i + 1) (acc + c.toNat % 128 * 128 ^ i) r
/-- what a Reader's row gives: the number, the place, the error -/
def rdRow (B : List UInt8) (at_ : Nat) (e : Int) (most last : Nat) : Nat × Nat × Int := if e ≠ 0 then (0, at_, e) else
  let R := rowA most last 0 0 (B.drop at_)
  (R.2.1, at_ + R.2.2, R.1)
theorem rowA_nil {most last i acc : Nat} {l : List UInt8} (h : l = []) : rowA most last i acc l = (2, 0, 0) := by subst h; rfl
theorem rowA_range {most last i acc : Nat} {c : UInt8} {r : List UInt8} (h1 : i + 1 = most) (h2 : last < c.toNat) : rowA most last i acc (c :: r) = (15, 0, 0) := by
  rw [rowA, if_pos ⟨h1, h2⟩]
theorem rowA_form {most last i acc : Nat} {c : UInt8} {r : List UInt8} (h1 : ¬ (i + 1 = most ∧ last < c.toNat)) (h2 : 0 < i) (h3 : c.toNat = 0) : rowA most last i acc (c :: r) = (3, 0, 0) := by
  rw [rowA, if_neg h1, if_pos (by omega), if_pos ⟨h2, h3⟩]
theorem rowA_end {most last i acc : Nat} {c : UInt8} {r : List UInt8} (h1 : ¬ (i + 1 = most ∧ last < c.toNat)) (h2 : c.toNat < 128) (h3 : ¬ (0 < i ∧ c.toNat = 0)) : rowA most last i acc (c :: r) = (0, acc + c.toNat % 128 * 128 ^ i, i + 1) := by
  rw [rowA, if_neg h1, if_pos h2, if_neg h3]
theorem rowA_on {most last i acc : Nat} {c : UInt8} {r : List UInt8} (h1 : ¬ (i + 1 = most ∧ last < c.toNat)) (h2 : ¬ c.toNat < 128) : rowA most last i acc (c :: r) = rowA most last (i + 1) (acc + c.toNat % 128 * 128 ^ i) r := by
  rw [rowA, if_neg h1, if_neg h2]
theorem drop_get {B : List UInt8} {k : Nat} (h : k < B.length) : B.drop k = B.getD k 0 :: B.drop (k + 1) := by
  rw [List.drop_eq_getElem_cons h]
  simp [List.getD, h]
theorem stopped_spec (B : List UInt8) (c at_ : Nat) (e : Int) : Spec Try.prog 56 [.ptr 0 0 0 0] [rdO B c at_ e, roB B] 2 (σ := Unit) (fun _ => True) (fun _ => .raw (.bool (decide (e ≠ 0)))) (fun _ => [(0, rdO B c at_ e)]) := by
  refine Spec.of Try.func56 rfl Try.ntmps56 rfl (by simp [AO.Bd, bytesF, AV.bds, AV.bd]) fun ρ w => ?_
  repeat (first | refine C.seq ?_ | refine C.region ?_ | refine R.zb ttok ?_ | refine R.zu ttok ?_ | refine R.zc ttok ?_ | refine R.za ttok ?_ | refine R.zx ?_ | refine R.zl ttok ?_ | refine R.zs ttok ?_ | refine R.z ttok ?_ | refine R.zk ?_ | refine R.zn ?_ | refine R.done ?_ | refine X.then ?_ | refine C.block ?_ | refine C.ret ?_ | refine C.skip ?_ | refine C.exit ?_ | refine X.pass_ret ?_ | refine X.pass_exit ?_ | refine X.block_normal ?_ | refine X.block_ret ?_ | refine X.block_exit ?_ | refine C.goto ?_ | refine C.label ?_ | refine X.pass_goto ?_ | refine X.block_goto ?_ | refine X.jump_ret ?_ | refine X.jump_normal ?_ | refine X.jump_exit ?_ | refine C.zt ?_ | refine C.zf ?_ | refine X.zo ?_)
  refine X.fin ttok () [] trivial rfl rfl rfl ?_ _ (.inl rfl)
  exact .same rfl rfl rfl rfl .nil
theorem and127 (c : UInt8) : bitV .and .u8 (c.toNat : Int) 127 = ((c.toNat % 128 : Nat) : Int) := by
  have key : ∀ a : Fin 256, bitV .and .u8 (a.val : Int) 127 = ((a.val % 128 : Nat) : Int) := by decide
  exact key ⟨c.toNat, c.toNat_lt⟩
theorem shl_row {x i : Nat} (hi : i ≤ 9) (hx : x * 128 ^ i < 18446744073709551616) : IntKind.wrap .u64 ((x : Int) * 2 ^ (min (7 * (i : Int)).toNat (IntKind.bits .u64))) = ((x * 128 ^ i : Nat) : Int) := by
  have e1 : (7 * (i : Int)).toNat = 7 * i := by omega
  have e2 : min (7 * i) (IntKind.bits .u64) = 7 * i := Nat.min_eq_left (by simp [IntKind.bits]; omega)
  have e3 : (2 : Int) ^ (7 * i) = ((128 ^ i : Nat) : Int) := by
    rw [Int.pow_mul]; norm_cast
  rw [e1, e2, e3, ← Int.natCast_mul, wrap_u64 (by omega) (by omega)]
theorem or_row {a x i : Nat} (ha : a < 128 ^ i) (hs : a + x * 128 ^ i < 18446744073709551616) : bitV .or .u64 (a : Int) ((x * 128 ^ i : Nat) : Int) = ((a + x * 128 ^ i : Nat) : Int) := by
  have e0 : (128 : Nat) ^ i = 2 ^ (7 * i) := by rw [Nat.pow_mul]
  have h1 : (BitVec.ofInt 64 (a : Int) ||| BitVec.ofInt 64 ((x * 128 ^ i : Nat) : Int)).toNat = a + x * 128 ^ i := by
    rw [BitVec.ofInt_natCast, BitVec.ofInt_natCast, BitVec.toNat_or, BitVec.toNat_ofNat, BitVec.toNat_ofNat, Nat.mod_eq_of_lt (by omega), Nat.mod_eq_of_lt (by omega)]
    have := Nat.shiftLeft_add_eq_or_of_lt (b := a) (i := 7 * i) (by rw [← e0]; exact ha) x
    rw [Nat.shiftLeft_eq, ← e0] at this
    rw [Nat.or_comm, ← this]; omega
  show IntKind.wrap .u64 ((BitVec.ofInt 64 (a : Int) ||| BitVec.ofInt 64 ((x * 128 ^ i : Nat) : Int)).toNat : Int) = _
  rw [h1, wrap_u64 (by omega) (by omega)]
theorem pow128 {i : Nat} (h : i ≤ 8) : 128 ^ (i + 1) ≤ 9223372036854775808 := by
  have := Nat.pow_le_pow_right (show 0 < 128 by omega) (show i + 1 ≤ 9 by omega)
  exact Nat.le_trans this (by decide)
/-- no overflow -/
theorem row_fits {a x i most last : Nat} (ha : a < 128 ^ i) (hx : x < 128) (hi : i < most) (hm : most ≤ 10) (hl : most ≤ 9 ∨ last ≤ 1) (hx9 : ¬ (i + 1 = most ∧ last < x)) : a + x * 128 ^ i < 18446744073709551616 ∧ (i + 1 < most → a + x * 128 ^ i < 128 ^ (i + 1)) := by
  have h1 : a + x * 128 ^ i < 128 ^ (i + 1) := by
    rw [Nat.pow_succ]
    have : (x + 1) * 128 ^ i ≤ 128 * 128 ^ i := Nat.mul_le_mul_right _ hx
    rw [Nat.add_mul, Nat.one_mul] at this
    rw [Nat.mul_comm (128 ^ i) 128]; omega
  refine ⟨?_, fun _ => h1⟩
  by_cases h9 : i ≤ 8
  · have := pow128 h9; omega
  · have e : i = 9 := by omega
    subst e
    have : x ≤ 1 := by omega
    have e2 : (128 : Nat) ^ 9 = 9223372036854775808 := by decide
    have : x * 128 ^ 9 ≤ 1 * 128 ^ 9 := Nat.mul_le_mul_right _ this
    omega
theorem row_spec (B : List UInt8) (c at_ : Nat) (e : Int) (most last : Nat) (hat : at_ ≤ B.length) (hB : B.length ≤ 1000000000000) (hm0 : 0 < most) (hm : most ≤ 10) (hl : most ≤ 9 ∨ last ≤ 1) (hl2 : last < 128) :
    Spec Try.prog 55 [.ptr 0 0 0 0, .raw (.int .i64 most), .raw (.int .u8 last)] [rdO B c at_ e, roB B] 2 (σ := Unit) (fun _ => True) (fun _ => .raw (.int .u64 (rdRow B at_ e most last).1)) (fun _ => [(0, rdO B c (rdRow B at_ e most last).2.1 (rdRow B at_ e most last).2.2)]) := by
  refine Spec.of Try.func55 rfl Try.ntmps55 rfl (by simp [AO.Bd, bytesF, AV.bds, AV.bd]) fun ρ w => ?_
  repeat (first | refine C.seq ?_ | refine C.region ?_ | refine R.zb ttok ?_ | refine R.zu ttok ?_ | refine R.zc ttok ?_ | refine R.za ttok ?_ | refine R.zx ?_ | refine R.zl ttok ?_ | refine R.zs ttok ?_ | refine R.z ttok ?_ | refine R.zk ?_ | refine R.zn ?_ | refine R.done ?_ | refine X.then ?_ | refine C.block ?_ | refine C.ret ?_ | refine C.skip ?_ | refine C.exit ?_ | refine X.pass_ret ?_ | refine X.pass_exit ?_ | refine X.block_normal ?_ | refine X.block_ret ?_ | refine X.block_exit ?_ | refine C.goto ?_ | refine C.label ?_ | refine X.pass_goto ?_ | refine X.block_goto ?_ | refine X.jump_ret ?_ | refine X.jump_normal ?_ | refine X.jump_exit ?_ | refine C.zt ?_ | refine C.zf ?_ | refine X.zo ?_)
  refine C.scope 0 2 (fun x : Int => e = 0 ∧ rowA most last 0 0 (B.drop at_) = (x, 0, 0)) (fun x => [(0, .ptr 0 0 0 0), (8, .raw (.int .i64 x))]) (fun x => [(0, rdO B c at_ e), (1, roB B)]) rfl ?_ ?_
  · repeat (first | refine C.seq ?_ | refine C.region ?_ | refine R.zb ttok ?_ | refine R.zu ttok ?_ | refine R.zc ttok ?_ | refine R.za ttok ?_ | refine R.zx ?_ | refine R.zl ttok ?_ | refine R.zs ttok ?_ | refine R.z ttok ?_ | refine R.zk ?_ | refine R.zn ?_ | refine R.done ?_ | refine X.then ?_ | refine C.block ?_ | refine C.ret ?_ | refine C.skip ?_ | refine C.exit ?_ | refine X.pass_ret ?_ | refine X.pass_exit ?_ | refine X.block_normal ?_ | refine X.block_ret ?_ | refine X.block_exit ?_ | refine C.goto ?_ | refine C.label ?_ | refine X.pass_goto ?_ | refine X.block_goto ?_ | refine X.jump_ret ?_ | refine X.jump_normal ?_ | refine X.jump_exit ?_ | refine C.zt ?_ | refine C.zf ?_ | refine X.zo ?_)
    refine R.cl [0, 1] (stopped_spec B c at_ e) Try.call56 (.same rfl rfl (.same rfl rfl .nil)) rfl rfl rfl (fun _ => rfl) rfl rfl fun _ _ => ?_
    repeat (first | refine C.seq ?_ | refine C.region ?_ | refine R.zb ttok ?_ | refine R.zu ttok ?_ | refine R.zc ttok ?_ | refine R.za ttok ?_ | refine R.zx ?_ | refine R.zl ttok ?_ | refine R.zs ttok ?_ | refine R.z ttok ?_ | refine R.zk ?_ | refine R.zn ?_ | refine R.done ?_ | refine X.then ?_ | refine C.block ?_ | refine C.ret ?_ | refine C.skip ?_ | refine C.exit ?_ | refine X.pass_ret ?_ | refine X.pass_exit ?_ | refine X.block_normal ?_ | refine X.block_ret ?_ | refine X.block_exit ?_ | refine C.goto ?_ | refine C.label ?_ | refine X.pass_goto ?_ | refine X.block_goto ?_ | refine X.jump_ret ?_ | refine X.jump_normal ?_ | refine X.jump_exit ?_ | refine C.zt ?_ | refine C.zf ?_ | refine X.zo ?_)
    refine C.dec rfl (fun hne => ?_) (fun he => ?_)
    · rw [show rdRow B at_ e most last = (0, at_, e) from if_pos hne]
      repeat (first | refine C.seq ?_ | refine C.region ?_ | refine R.zb ttok ?_ | refine R.zu ttok ?_ | refine R.zc ttok ?_ | refine R.za ttok ?_ | refine R.zx ?_ | refine R.zl ttok ?_ | refine R.zs ttok ?_ | refine R.z ttok ?_ | refine R.zk ?_ | refine R.zn ?_ | refine R.done ?_ | refine X.then ?_ | refine C.block ?_ | refine C.ret ?_ | refine C.skip ?_ | refine C.exit ?_ | refine X.pass_ret ?_ | refine X.pass_exit ?_ | refine X.block_normal ?_ | refine X.block_ret ?_ | refine X.block_exit ?_ | refine C.goto ?_ | refine C.label ?_ | refine X.pass_goto ?_ | refine X.block_goto ?_ | refine X.jump_ret ?_ | refine X.jump_normal ?_ | refine X.jump_exit ?_ | refine C.zt ?_ | refine C.zf ?_ | refine X.zo ?_)
      refine X.fin ttok () [] trivial rfl rfl rfl ?_ _ (.inl rfl)
      exact .same rfl rfl rfl rfl .nil
    · obtain rfl : e = 0 := Decidable.not_not.1 he
      have hR : rdRow B at_ 0 most last = ((rowA most last 0 0 (B.drop at_)).2.1, at_ + (rowA most last 0 0 (B.drop at_)).2.2, (rowA most last 0 0 (B.drop at_)).1) := if_neg (by simp)
      rw [hR]
      repeat (first | refine C.seq ?_ | refine C.region ?_ | refine R.zb ttok ?_ | refine R.zu ttok ?_ | refine R.zc ttok ?_ | refine R.za ttok ?_ | refine R.zx ?_ | refine R.zl ttok ?_ | refine R.zs ttok ?_ | refine R.z ttok ?_ | refine R.zk ?_ | refine R.zn ?_ | refine R.done ?_ | refine X.then ?_ | refine C.block ?_ | refine C.ret ?_ | refine C.skip ?_ | refine C.exit ?_ | refine X.pass_ret ?_ | refine X.pass_exit ?_ | refine X.block_normal ?_ | refine X.block_ret ?_ | refine X.block_exit ?_ | refine C.goto ?_ | refine C.label ?_ | refine X.pass_goto ?_ | refine X.block_goto ?_ | refine X.jump_ret ?_ | refine X.jump_normal ?_ | refine X.jump_exit ?_ | refine C.zt ?_ | refine C.zf ?_ | refine X.zo ?_)
      refine C.loop (σ := Nat × Nat) (L2 := 2) (fun s => s.1 < most ∧ s.2 < 128 ^ s.1 ∧ rowA most last s.1 s.2 (B.drop (at_ + s.1)) = rowA most last 0 0 (B.drop at_) ∧ s.1 ≤ B.length - at_) (fun s => [(0, .ptr 0 0 0 0), (1, .raw (.int .i64 most)), (2, .raw (.int .u8 last)), (7, .raw (.int .u64 s.2)), (9, .raw (.int .i64 s.1))])
        (fun s => [(0, rdO B c at_ 0), (1, roB B)]) _ (fun s => most - s.1) [] (0, 0) ⟨hm0, by simp, rfl, Nat.zero_le _⟩ rfl ?_ ?_ rfl (fun _ h => h) ?_
      · exact .cons rfl rfl rfl (.cons rfl rfl rfl (.cons rfl rfl rfl (.cons rfl rfl rfl (.cons rfl rfl rfl .nil))))
      · exact .same rfl rfl rfl rfl (.same rfl rfl rfl (fun _ _ => rfl) .nil)
      rintro ⟨i, a⟩ ⟨hi, ha, hrow, hib⟩
      dsimp only at hi ha hrow hib ⊢
      repeat (first | refine C.seq ?_ | refine C.region ?_ | refine R.zb ttok ?_ | refine R.zu ttok ?_ | refine R.zc ttok ?_ | refine R.za ttok ?_ | refine R.zx ?_ | refine R.zl ttok ?_ | refine R.zs ttok ?_ | refine R.z ttok ?_ | refine R.zk ?_ | refine R.zn ?_ | refine R.done ?_ | refine X.then ?_ | refine C.block ?_ | refine C.ret ?_ | refine C.skip ?_ | refine C.exit ?_ | refine X.pass_ret ?_ | refine X.pass_exit ?_ | refine X.block_normal ?_ | refine X.block_ret ?_ | refine X.block_exit ?_ | refine C.goto ?_ | refine C.label ?_ | refine X.pass_goto ?_ | refine X.block_goto ?_ | refine X.jump_ret ?_ | refine X.jump_normal ?_ | refine X.jump_exit ?_ | refine C.zt ?_ | refine C.zf ?_ | refine X.zo ?_)
      refine C.draw [[], [0], [0, 1], [0, 1, 2], [], [0, 1, 2, 3, 4], [], [6], [6, 7], [6, 7, 8], [6, 7, 8, 9], [0, 1, 2, 3, 4, 5, 6, 7, 8, 9, 10]] [] (by kernel_rfl) (by kernel_rfl) ?_
      repeat (first | refine C.seq ?_ | refine C.region ?_ | refine R.zb ttok ?_ | refine R.zu ttok ?_ | refine R.zc ttok ?_ | refine R.za ttok ?_ | refine R.zx ?_ | refine R.zl ttok ?_ | refine R.zs ttok ?_ | refine R.z ttok ?_ | refine R.zk ?_ | refine R.zn ?_ | refine R.done ?_ | refine X.then ?_ | refine C.block ?_ | refine C.ret ?_ | refine C.skip ?_ | refine C.exit ?_ | refine X.pass_ret ?_ | refine X.pass_exit ?_ | refine X.block_normal ?_ | refine X.block_ret ?_ | refine X.block_exit ?_ | refine C.goto ?_ | refine C.label ?_ | refine X.pass_goto ?_ | refine X.block_goto ?_ | refine X.jump_ret ?_ | refine X.jump_normal ?_ | refine X.jump_exit ?_ | refine C.zt ?_ | refine C.zf ?_ | refine X.zo ?_)
      refine C.dec rfl (fun hge => ?_) (fun hlt => ?_)
      · repeat (first | refine C.seq ?_ | refine C.region ?_ | refine R.zb ttok ?_ | refine R.zu ttok ?_ | refine R.zc ttok ?_ | refine R.za ttok ?_ | refine R.zx ?_ | refine R.zl ttok ?_ | refine R.zs ttok ?_ | refine R.z ttok ?_ | refine R.zk ?_ | refine R.zn ?_ | refine R.done ?_ | refine X.then ?_ | refine C.block ?_ | refine C.ret ?_ | refine C.skip ?_ | refine C.exit ?_ | refine X.pass_ret ?_ | refine X.pass_exit ?_ | refine X.block_normal ?_ | refine X.block_ret ?_ | refine X.block_exit ?_ | refine C.goto ?_ | refine C.label ?_ | refine X.pass_goto ?_ | refine X.block_goto ?_ | refine X.jump_ret ?_ | refine X.jump_normal ?_ | refine X.jump_exit ?_ | refine C.zt ?_ | refine C.zf ?_ | refine X.zo ?_)
        refine X.jump [] (2 : Int) ⟨rfl, ?_⟩ rfl ?_ ?_ rfl (fun _ h => h)
        · rw [← hrow]; exact rowA_nil (List.drop_eq_nil_of_le (by omega))
        · exact .cons rfl rfl rfl (.cons rfl rfl rfl .nil)
        · exact .same rfl rfl rfl rfl (.same rfl rfl rfl (fun _ _ => rfl) .nil)
      have hin : at_ + i < B.length := by omega
      obtain ⟨x, hx⟩ : ∃ x, B.getD (at_ + i) 0 = x := ⟨_, rfl⟩
      have hxl := x.toNat_lt
      rw [drop_get hin, hx] at hrow
      repeat (first | refine C.seq ?_ | refine C.region ?_ | refine R.zb ttok ?_ | refine R.zu ttok ?_ | refine R.zc ttok ?_ | refine R.za ttok ?_ | refine R.zx ?_ | refine R.zl ttok ?_ | refine R.zs ttok ?_ | refine R.z ttok ?_ | refine R.zk ?_ | refine R.zn ?_ | refine R.done ?_ | refine X.then ?_ | refine C.block ?_ | refine C.ret ?_ | refine C.skip ?_ | refine C.exit ?_ | refine X.pass_ret ?_ | refine X.pass_exit ?_ | refine X.block_normal ?_ | refine X.block_ret ?_ | refine X.block_exit ?_ | refine C.goto ?_ | refine C.label ?_ | refine X.pass_goto ?_ | refine X.block_goto ?_ | refine X.jump_ret ?_ | refine X.jump_normal ?_ | refine X.jump_exit ?_ | refine C.zt ?_ | refine C.zf ?_ | refine X.zo ?_)
      refine C.draw [[], [0], [0, 1], [0, 1, 2], [], [4], [4, 5], [4, 5, 6], [], [4, 5, 6, 7, 8], [0, 1, 2, 3, 4, 5, 6, 7, 8, 9], [0, 1, 2, 3, 4, 5, 6, 7, 8, 9, 10], [0, 1, 2, 3, 4, 5, 6, 7, 8, 9, 10, 11]] [] (by kernel_rfl) (by kernel_rfl) ?_
      repeat (first | refine C.seq ?_ | refine C.region ?_ | refine R.zb ttok ?_ | refine R.zu ttok ?_ | refine R.zc ttok ?_ | refine R.za ttok ?_ | refine R.zx ?_ | refine R.zl ttok ?_ | refine R.zs ttok ?_ | refine R.z ttok ?_ | refine R.zk ?_ | refine R.zn ?_ | refine R.done ?_ | refine X.then ?_ | refine C.block ?_ | refine C.ret ?_ | refine C.skip ?_ | refine C.exit ?_ | refine X.pass_ret ?_ | refine X.pass_exit ?_ | refine X.block_normal ?_ | refine X.block_ret ?_ | refine X.block_exit ?_ | refine C.goto ?_ | refine C.label ?_ | refine X.pass_goto ?_ | refine X.block_goto ?_ | refine X.jump_ret ?_ | refine X.jump_normal ?_ | refine X.jump_exit ?_ | refine C.zt ?_ | refine C.zf ?_ | refine X.zo ?_)
      refine R.ix ttok (at_ + i) rfl rfl rfl rfl rfl rfl (by omega) (by omega) (⟨Nat.zero_le _, by omega⟩ : 0 ≤ 0 + (at_ + i) ∧ 0 + (at_ + i) < 0 + B.length) rfl ?_
      refine R.ldo ttok rfl rfl rfl rfl rfl rfl hin ?_
      rw [hx]
      repeat (first | refine C.seq ?_ | refine C.region ?_ | refine R.zb ttok ?_ | refine R.zu ttok ?_ | refine R.zc ttok ?_ | refine R.za ttok ?_ | refine R.zx ?_ | refine R.zl ttok ?_ | refine R.zs ttok ?_ | refine R.z ttok ?_ | refine R.zk ?_ | refine R.zn ?_ | refine R.done ?_ | refine X.then ?_ | refine C.block ?_ | refine C.ret ?_ | refine C.skip ?_ | refine C.exit ?_ | refine X.pass_ret ?_ | refine X.pass_exit ?_ | refine X.block_normal ?_ | refine X.block_ret ?_ | refine X.block_exit ?_ | refine C.goto ?_ | refine C.label ?_ | refine X.pass_goto ?_ | refine X.block_goto ?_ | refine X.jump_ret ?_ | refine X.jump_normal ?_ | refine X.jump_exit ?_ | refine C.zt ?_ | refine C.zf ?_ | refine X.zo ?_)
      by_cases hr : i + 1 = most ∧ last < x.toNat
      · rw [decide_eq_true (show (i : Int) = most - 1 by omega)]
        repeat (first | refine C.seq ?_ | refine C.region ?_ | refine R.zb ttok ?_ | refine R.zu ttok ?_ | refine R.zc ttok ?_ | refine R.za ttok ?_ | refine R.zx ?_ | refine R.zl ttok ?_ | refine R.zs ttok ?_ | refine R.z ttok ?_ | refine R.zk ?_ | refine R.zn ?_ | refine R.done ?_ | refine X.then ?_ | refine C.block ?_ | refine C.ret ?_ | refine C.skip ?_ | refine C.exit ?_ | refine X.pass_ret ?_ | refine X.pass_exit ?_ | refine X.block_normal ?_ | refine X.block_ret ?_ | refine X.block_exit ?_ | refine C.goto ?_ | refine C.label ?_ | refine X.pass_goto ?_ | refine X.block_goto ?_ | refine X.jump_ret ?_ | refine X.jump_normal ?_ | refine X.jump_exit ?_ | refine C.zt ?_ | refine C.zf ?_ | refine X.zo ?_)
        refine C.yes rfl (decide_eq_true (by show (last : Int) < x.toNat; omega)) ?_
        repeat (first | refine C.seq ?_ | refine C.region ?_ | refine R.zb ttok ?_ | refine R.zu ttok ?_ | refine R.zc ttok ?_ | refine R.za ttok ?_ | refine R.zx ?_ | refine R.zl ttok ?_ | refine R.zs ttok ?_ | refine R.z ttok ?_ | refine R.zk ?_ | refine R.zn ?_ | refine R.done ?_ | refine X.then ?_ | refine C.block ?_ | refine C.ret ?_ | refine C.skip ?_ | refine C.exit ?_ | refine X.pass_ret ?_ | refine X.pass_exit ?_ | refine X.block_normal ?_ | refine X.block_ret ?_ | refine X.block_exit ?_ | refine C.goto ?_ | refine C.label ?_ | refine X.pass_goto ?_ | refine X.block_goto ?_ | refine X.jump_ret ?_ | refine X.jump_normal ?_ | refine X.jump_exit ?_ | refine C.zt ?_ | refine C.zf ?_ | refine X.zo ?_)
        refine X.jump [] (15 : Int) ⟨rfl, ?_⟩ rfl ?_ ?_ rfl (fun _ h => h)
        · rw [← hrow]; exact rowA_range hr.1 hr.2
        · exact .cons rfl rfl rfl (.cons rfl rfl rfl .nil)
        · exact .same rfl rfl rfl rfl (.same rfl rfl rfl (fun _ _ => rfl) .nil)
      have hfit := row_fits ha (Nat.mod_lt x.toNat (show 0 < 128 by omega)) hi hm hl (fun h => hr ⟨h.1, Nat.lt_of_lt_of_le h.2 (Nat.mod_le _ _)⟩)
      have hm128 : x.toNat % 128 < 128 := Nat.mod_lt _ (by omega)
      by_cases h9 : (i : Int) = most - 1
      all_goals first | rw [decide_eq_true h9] | rw [decide_eq_false h9]
      all_goals
        repeat (first | refine C.seq ?_ | refine C.region ?_ | refine R.zb ttok ?_ | refine R.zu ttok ?_ | refine R.zc ttok ?_ | refine R.za ttok ?_ | refine R.zx ?_ | refine R.zl ttok ?_ | refine R.zs ttok ?_ | refine R.z ttok ?_ | refine R.zk ?_ | refine R.zn ?_ | refine R.done ?_ | refine X.then ?_ | refine C.block ?_ | refine C.ret ?_ | refine C.skip ?_ | refine C.exit ?_ | refine X.pass_ret ?_ | refine X.pass_exit ?_ | refine X.block_normal ?_ | refine X.block_ret ?_ | refine X.block_exit ?_ | refine C.goto ?_ | refine C.label ?_ | refine X.pass_goto ?_ | refine X.block_goto ?_ | refine X.jump_ret ?_ | refine X.jump_normal ?_ | refine X.jump_exit ?_ | refine C.zt ?_ | refine C.zf ?_ | refine X.zo ?_)
      all_goals try refine C.no rfl (decide_eq_false (by show ¬ (last : Int) < x.toNat; omega)) ?_
      all_goals
        repeat (first | refine C.seq ?_ | refine C.region ?_ | refine R.zb ttok ?_ | refine R.zu ttok ?_ | refine R.zc ttok ?_ | refine R.za ttok ?_ | refine R.zx ?_ | refine R.zl ttok ?_ | refine R.zs ttok ?_ | refine R.z ttok ?_ | refine R.zk ?_ | refine R.zn ?_ | refine R.done ?_ | refine X.then ?_ | refine C.block ?_ | refine C.ret ?_ | refine C.skip ?_ | refine C.exit ?_ | refine X.pass_ret ?_ | refine X.pass_exit ?_ | refine X.block_normal ?_ | refine X.block_ret ?_ | refine X.block_exit ?_ | refine C.goto ?_ | refine C.label ?_ | refine X.pass_goto ?_ | refine X.block_goto ?_ | refine X.jump_ret ?_ | refine X.jump_normal ?_ | refine X.jump_exit ?_ | refine C.zt ?_ | refine C.zf ?_ | refine X.zo ?_)
      all_goals
        rw [and127, wrap_u64 (by omega) (by omega)]
        refine R.shl ((x.toNat % 128 * 128 ^ i : Nat) : Int) rfl rfl rfl rfl (by omega) (shl_row (by omega) (by omega)) ?_
        refine R.v ttok _ rfl (congrArg (Value.int .u64) (or_row ha hfit.1)) rfl rfl ?_
        repeat (first | refine C.seq ?_ | refine C.region ?_ | refine R.zb ttok ?_ | refine R.zu ttok ?_ | refine R.zc ttok ?_ | refine R.za ttok ?_ | refine R.zx ?_ | refine R.zl ttok ?_ | refine R.zs ttok ?_ | refine R.z ttok ?_ | refine R.zk ?_ | refine R.zn ?_ | refine R.done ?_ | refine X.then ?_ | refine C.block ?_ | refine C.ret ?_ | refine C.skip ?_ | refine C.exit ?_ | refine X.pass_ret ?_ | refine X.pass_exit ?_ | refine X.block_normal ?_ | refine X.block_ret ?_ | refine X.block_exit ?_ | refine C.goto ?_ | refine C.label ?_ | refine X.pass_goto ?_ | refine X.block_goto ?_ | refine X.jump_ret ?_ | refine X.jump_normal ?_ | refine X.jump_exit ?_ | refine C.zt ?_ | refine C.zf ?_ | refine X.zo ?_)
        refine C.dec rfl (fun h128 => ?_) (fun h128 => ?_)
        · repeat (first | refine C.seq ?_ | refine C.region ?_ | refine R.zb ttok ?_ | refine R.zu ttok ?_ | refine R.zc ttok ?_ | refine R.za ttok ?_ | refine R.zx ?_ | refine R.zl ttok ?_ | refine R.zs ttok ?_ | refine R.z ttok ?_ | refine R.zk ?_ | refine R.zn ?_ | refine R.done ?_ | refine X.then ?_ | refine C.block ?_ | refine C.ret ?_ | refine C.skip ?_ | refine C.exit ?_ | refine X.pass_ret ?_ | refine X.pass_exit ?_ | refine X.block_normal ?_ | refine X.block_ret ?_ | refine X.block_exit ?_ | refine C.goto ?_ | refine C.label ?_ | refine X.pass_goto ?_ | refine X.block_goto ?_ | refine X.jump_ret ?_ | refine X.jump_normal ?_ | refine X.jump_exit ?_ | refine C.zt ?_ | refine C.zf ?_ | refine X.zo ?_)
          by_cases hf : 0 < i ∧ x.toNat = 0
          · rw [decide_eq_true (show (0 : Int) < i by omega)]
            repeat (first | refine C.seq ?_ | refine C.region ?_ | refine R.zb ttok ?_ | refine R.zu ttok ?_ | refine R.zc ttok ?_ | refine R.za ttok ?_ | refine R.zx ?_ | refine R.zl ttok ?_ | refine R.zs ttok ?_ | refine R.z ttok ?_ | refine R.zk ?_ | refine R.zn ?_ | refine R.done ?_ | refine X.then ?_ | refine C.block ?_ | refine C.ret ?_ | refine C.skip ?_ | refine C.exit ?_ | refine X.pass_ret ?_ | refine X.pass_exit ?_ | refine X.block_normal ?_ | refine X.block_ret ?_ | refine X.block_exit ?_ | refine C.goto ?_ | refine C.label ?_ | refine X.pass_goto ?_ | refine X.block_goto ?_ | refine X.jump_ret ?_ | refine X.jump_normal ?_ | refine X.jump_exit ?_ | refine C.zt ?_ | refine C.zf ?_ | refine X.zo ?_)
            refine C.yes rfl (decide_eq_true (by show (x.toNat : Int) = 0; omega)) ?_
            repeat (first | refine C.seq ?_ | refine C.region ?_ | refine R.zb ttok ?_ | refine R.zu ttok ?_ | refine R.zc ttok ?_ | refine R.za ttok ?_ | refine R.zx ?_ | refine R.zl ttok ?_ | refine R.zs ttok ?_ | refine R.z ttok ?_ | refine R.zk ?_ | refine R.zn ?_ | refine R.done ?_ | refine X.then ?_ | refine C.block ?_ | refine C.ret ?_ | refine C.skip ?_ | refine C.exit ?_ | refine X.pass_ret ?_ | refine X.pass_exit ?_ | refine X.block_normal ?_ | refine X.block_ret ?_ | refine X.block_exit ?_ | refine C.goto ?_ | refine C.label ?_ | refine X.pass_goto ?_ | refine X.block_goto ?_ | refine X.jump_ret ?_ | refine X.jump_normal ?_ | refine X.jump_exit ?_ | refine C.zt ?_ | refine C.zf ?_ | refine X.zo ?_)
            refine X.jump [] (3 : Int) ⟨rfl, ?_⟩ rfl ?_ ?_ rfl (fun _ h => h)
            · rw [← hrow]; exact rowA_form hr hf.1 hf.2
            · exact .cons rfl rfl rfl (.cons rfl rfl rfl .nil)
            · exact .same rfl rfl rfl rfl (.same rfl rfl rfl (fun _ _ => rfl) .nil)
          rw [rowA_end hr (by omega) hf] at hrow
          rw [← hrow]
          by_cases h0 : (0 : Int) < i
          all_goals first | rw [decide_eq_true h0] | rw [decide_eq_false h0]
          all_goals
            repeat (first | refine C.seq ?_ | refine C.region ?_ | refine R.zb ttok ?_ | refine R.zu ttok ?_ | refine R.zc ttok ?_ | refine R.za ttok ?_ | refine R.zx ?_ | refine R.zl ttok ?_ | refine R.zs ttok ?_ | refine R.z ttok ?_ | refine R.zk ?_ | refine R.zn ?_ | refine R.done ?_ | refine X.then ?_ | refine C.block ?_ | refine C.ret ?_ | refine C.skip ?_ | refine C.exit ?_ | refine X.pass_ret ?_ | refine X.pass_exit ?_ | refine X.block_normal ?_ | refine X.block_ret ?_ | refine X.block_exit ?_ | refine C.goto ?_ | refine C.label ?_ | refine X.pass_goto ?_ | refine X.block_goto ?_ | refine X.jump_ret ?_ | refine X.jump_normal ?_ | refine X.jump_exit ?_ | refine C.zt ?_ | refine C.zf ?_ | refine X.zo ?_)
          all_goals try refine C.no rfl (decide_eq_false (by show ¬ (x.toNat : Int) = 0; omega)) ?_
          all_goals
            repeat (first | refine C.seq ?_ | refine C.region ?_ | refine R.zb ttok ?_ | refine R.zu ttok ?_ | refine R.zc ttok ?_ | refine R.za ttok ?_ | refine R.zx ?_ | refine R.zl ttok ?_ | refine R.zs ttok ?_ | refine R.z ttok ?_ | refine R.zk ?_ | refine R.zn ?_ | refine R.done ?_ | refine X.then ?_ | refine C.block ?_ | refine C.ret ?_ | refine C.skip ?_ | refine C.exit ?_ | refine X.pass_ret ?_ | refine X.pass_exit ?_ | refine X.block_normal ?_ | refine X.block_ret ?_ | refine X.block_exit ?_ | refine C.goto ?_ | refine C.label ?_ | refine X.pass_goto ?_ | refine X.block_goto ?_ | refine X.jump_ret ?_ | refine X.jump_normal ?_ | refine X.jump_exit ?_ | refine C.zt ?_ | refine C.zf ?_ | refine X.zo ?_)
          all_goals
            rw [show (at_ : Int) + ((i : Int) + 1) = ((at_ + (i + 1) : Nat) : Int) by omega]
            refine X.fin ttok () [] trivial rfl rfl rfl ?_ _ (.inl rfl)
            exact .same rfl rfl rfl rfl .nil
        · rw [rowA_on hr (by omega)] at hrow
          have hi2 : i + 1 < most := by
            refine Nat.lt_of_le_of_ne hi fun e => hr ⟨e, by omega⟩
          repeat (first | refine C.seq ?_ | refine C.region ?_ | refine R.zb ttok ?_ | refine R.zu ttok ?_ | refine R.zc ttok ?_ | refine R.za ttok ?_ | refine R.zx ?_ | refine R.zl ttok ?_ | refine R.zs ttok ?_ | refine R.z ttok ?_ | refine R.zk ?_ | refine R.zn ?_ | refine R.done ?_ | refine X.then ?_ | refine C.block ?_ | refine C.ret ?_ | refine C.skip ?_ | refine C.exit ?_ | refine X.pass_ret ?_ | refine X.pass_exit ?_ | refine X.block_normal ?_ | refine X.block_ret ?_ | refine X.block_exit ?_ | refine C.goto ?_ | refine C.label ?_ | refine X.pass_goto ?_ | refine X.block_goto ?_ | refine X.jump_ret ?_ | refine X.jump_normal ?_ | refine X.jump_exit ?_ | refine C.zt ?_ | refine C.zf ?_ | refine X.zo ?_)
          refine X.back [] (i + 1, a + x.toNat % 128 * 128 ^ i) ⟨hi2, hfit.2 hi2, hrow, by dsimp only; omega⟩ (by dsimp only; omega) rfl ?_ ?_ rfl (fun _ h => h)
          · exact .cons rfl rfl rfl (.cons rfl rfl rfl (.cons rfl rfl rfl (.cons rfl rfl rfl (.cons rfl rfl rfl .nil))))
          · exact .same rfl rfl rfl rfl (.same rfl rfl rfl (fun _ _ => rfl) .nil)
  · rintro x ⟨rfl, hR⟩
    have hR2 : rdRow B at_ 0 most last = (0, at_, x) := by
      unfold rdRow
      rw [if_neg (by simp), hR]; rfl
    rw [hR2]
    repeat (first | refine C.seq ?_ | refine C.region ?_ | refine R.zb ttok ?_ | refine R.zu ttok ?_ | refine R.zc ttok ?_ | refine R.za ttok ?_ | refine R.zx ?_ | refine R.zl ttok ?_ | refine R.zs ttok ?_ | refine R.z ttok ?_ | refine R.zk ?_ | refine R.zn ?_ | refine R.done ?_ | refine X.then ?_ | refine C.block ?_ | refine C.ret ?_ | refine C.skip ?_ | refine C.exit ?_ | refine X.pass_ret ?_ | refine X.pass_exit ?_ | refine X.block_normal ?_ | refine X.block_ret ?_ | refine X.block_exit ?_ | refine C.goto ?_ | refine C.label ?_ | refine X.pass_goto ?_ | refine X.block_goto ?_ | refine X.jump_ret ?_ | refine X.jump_normal ?_ | refine X.jump_exit ?_ | refine C.zt ?_ | refine C.zf ?_ | refine X.zo ?_)
    refine X.fin ttok () [] trivial rfl rfl rfl ?_ _ (.inl rfl)
    exact .same rfl rfl rfl rfl .nil
end Go.Proofs.Ytchbncbojfiiiaa
