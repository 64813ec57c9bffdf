/- octet: the Reader, numbers and texts -/
import Derived.Test.YtchbncbojfiiiaaO8
namespace Go.Proofs.Ytchbncbojfiiiaa
set_option linter.unusedVariables false
set_option linter.unusedSimpArgs false
open Go.RowKit
set_option maxRecDepth 100000
set_option maxHeartbeats 4000000
theorem rowA_bound {most last : Nat} (hl2 : last < 128) : ∀ (l : List UInt8) (i a : Nat), i < most → a < 128 ^ i → (rowA most last i a l).2.1 < 128 ^ most ∧ (rowA most last i a l).2.2 ≤ i + l.length
  | [], i, a, hi, ha => ⟨Nat.pow_pos (by omega), by simp [rowA]⟩
  | c :: r, i, a, hi, ha => by
    have h1 : a + c.toNat % 128 * 128 ^ i < 128 ^ (i + 1) := by
      rw [Nat.pow_succ]
      have : (c.toNat % 128 + 1) * 128 ^ i ≤ 128 * 128 ^ i := Nat.mul_le_mul_right _ (Nat.mod_lt _ (by omega))
      rw [Nat.add_mul, Nat.one_mul] at this
      rw [Nat.mul_comm (128 ^ i) 128]; omega
    have h2 : (128 : Nat) ^ (i + 1) ≤ 128 ^ most := Nat.pow_le_pow_right (by omega) hi
    have h3 : 0 < (128 : Nat) ^ most := Nat.pow_pos (by omega)
    rw [rowA]
    split
    · exact ⟨h3, Nat.zero_le _⟩
    · rename_i hn
      split
      · split
        · exact ⟨h3, Nat.zero_le _⟩
        · exact ⟨by dsimp only; omega, by simp⟩
      · rename_i h128
        have h4 : i + 1 < most := Nat.lt_of_le_of_ne hi fun e => hn ⟨e, by omega⟩
        have := rowA_bound hl2 r (i + 1) _ h4 h1
        simp only [List.length_cons]
        exact ⟨this.1, by omega⟩
theorem rowA_err {most last : Nat} : ∀ (l : List UInt8) (i a : Nat), (rowA most last i a l).1 ≠ 0 → (rowA most last i a l).2 = (0, 0)
  | [], i, a, h => rfl
  | c :: r, i, a, h => by
    rw [rowA] at h ⊢
    split
    · rfl
    · rename_i hn
      rw [if_neg hn] at h
      split
      · rename_i h1
        rw [if_pos h1] at h
        split
        · rfl
        · rename_i h2; rw [if_neg h2] at h; exact absurd rfl h
      · rename_i h1
        rw [if_neg h1] at h
        exact rowA_err r _ _ h
theorem rowA_lt64 {most last : Nat} (hm : most ≤ 10) (hl : most ≤ 9 ∨ last ≤ 1) (hl2 : last < 128) : ∀ (l : List UInt8) (i a : Nat), i < most → a < 128 ^ i → (rowA most last i a l).2.1 < 18446744073709551616
  | [], i, a, hi, ha => by simp [rowA]
  | c :: r, i, a, hi, ha => by
    rw [rowA]
    split
    · dsimp only; omega
    · rename_i hn
      have hfit := row_fits (last := last) ha (Nat.mod_lt c.toNat (show 0 < 128 by omega)) hi hm hl (fun h => hn ⟨h.1, Nat.lt_of_lt_of_le h.2 (Nat.mod_le _ _)⟩)
      split
      · split
        · dsimp only; omega
        · exact hfit.1
      · rename_i h128
        have h4 : i + 1 < most := Nat.lt_of_le_of_ne hi fun e => hn ⟨e, by omega⟩
        exact rowA_lt64 hm hl hl2 r (i + 1) _ h4 (hfit.2 h4)
theorem rdRow_ok (B : List UInt8) (at_ : Nat) (e : Int) {most last : Nat} (hat : at_ ≤ B.length) (hm0 : 0 < most) (hl2 : last < 128) : (rdRow B at_ e most last).1 < 128 ^ most ∧ at_ ≤ (rdRow B at_ e most last).2.1 ∧ (rdRow B at_ e most last).2.1 ≤ B.length := by
  unfold rdRow
  split
  · exact ⟨Nat.pow_pos (by omega), Nat.le_refl _, hat⟩
  · have := rowA_bound hl2 (B.drop at_) 0 0 hm0 (by simp)
    simp only [List.length_drop] at this
    exact ⟨this.1, by dsimp only; omega, by dsimp only; omega⟩
theorem rdRow_err (B : List UInt8) (at_ : Nat) {most last : Nat} (h : (rdRow B at_ 0 most last).2.2 ≠ 0) : (rdRow B at_ 0 most last).1 = 0 ∧ (rdRow B at_ 0 most last).2.1 = at_ := by
  have e : rdRow B at_ 0 most last = ((rowA most last 0 0 (B.drop at_)).2.1, at_ + (rowA most last 0 0 (B.drop at_)).2.2, (rowA most last 0 0 (B.drop at_)).1) := if_neg (by simp)
  rw [e] at h ⊢
  have := rowA_err _ _ _ h
  rw [this]; exact ⟨rfl, rfl⟩
theorem pow128_9 : (128 : Nat) ^ 9 = 9223372036854775808 := by decide
theorem rnumber_take (B : List UInt8) (c at_ : Nat) (e : Int) (hat : at_ ≤ B.length) (hB : B.length ≤ 1000000000000) : Spec Try.prog 32 [.ptr 0 0 0 0] [rdO B c at_ e, roB B] 2 (σ := Unit) (fun _ => True) (fun _ => .raw (.int .i64 (rdRow B at_ e 9 127).1)) (fun _ => [(0, rdO B c (rdRow B at_ e 9 127).2.1 (rdRow B at_ e 9 127).2.2)]) := by
  refine Spec.of Try.func32 rfl Try.ntmps32 rfl (by simp [AO.Bd, bytesF, AV.bds, AV.bd]) fun ρ w => ?_
  have hb := (rdRow_ok B at_ e (most := 9) (last := 127) hat (by omega) (by omega)).1
  rw [pow128_9] at hb
  repeat (first | refine C.seq ?_ | refine C.region ?_ | refine R.zb ttok ?_ | refine R.zu ttok ?_ | refine R.zc ttok ?_ | refine R.za ttok ?_ | refine R.zx ?_ | refine R.zl ttok ?_ | refine R.zs ttok ?_ | refine R.z ttok ?_ | refine R.zk ?_ | refine R.zn ?_ | refine R.done ?_ | refine X.then ?_ | refine C.block ?_ | refine C.ret ?_ | refine C.skip ?_ | refine C.exit ?_ | refine X.pass_ret ?_ | refine X.pass_exit ?_ | refine X.block_normal ?_ | refine X.block_ret ?_ | refine X.block_exit ?_ | refine C.goto ?_ | refine C.label ?_ | refine X.pass_goto ?_ | refine X.block_goto ?_ | refine X.jump_ret ?_ | refine X.jump_normal ?_ | refine X.jump_exit ?_ | refine C.zt ?_ | refine C.zf ?_ | refine X.zo ?_)
  refine R.cl [0, 1] (row_spec B c at_ e 9 127 hat hB (by omega) (by omega) (by omega) (by omega)) Try.call55 (.same rfl rfl (.same rfl rfl .nil)) rfl rfl rfl (fun _ => rfl) rfl rfl fun _ _ => ?_
  repeat (first | refine C.seq ?_ | refine C.region ?_ | refine R.zb ttok ?_ | refine R.zu ttok ?_ | refine R.zc ttok ?_ | refine R.za ttok ?_ | refine R.zx ?_ | refine R.zl ttok ?_ | refine R.zs ttok ?_ | refine R.z ttok ?_ | refine R.zk ?_ | refine R.zn ?_ | refine R.done ?_ | refine X.then ?_ | refine C.block ?_ | refine C.ret ?_ | refine C.skip ?_ | refine C.exit ?_ | refine X.pass_ret ?_ | refine X.pass_exit ?_ | refine X.block_normal ?_ | refine X.block_ret ?_ | refine X.block_exit ?_ | refine C.goto ?_ | refine C.label ?_ | refine X.pass_goto ?_ | refine X.block_goto ?_ | refine X.jump_ret ?_ | refine X.jump_normal ?_ | refine X.jump_exit ?_ | refine C.zt ?_ | refine C.zf ?_ | refine X.zo ?_)
  refine X.fin ttok () [] trivial rfl rfl rfl ?_ _ (.inl rfl)
  exact .same rfl rfl rfl rfl .nil
def unzig (u : Nat) : Int := if u % 2 = 0 then ((u / 2 : Nat) : Int) else -((u / 2 : Nat) : Int) - 1
theorem andOne (u : Nat) (hu : u < 18446744073709551616) : bitV .and .u64 (u : Int) 1 = ((u % 2 : Nat) : Int) := by
  have h1 : (BitVec.ofInt 64 (u : Int) &&& BitVec.ofInt 64 1).toNat = u % 2 := by
    rw [BitVec.ofInt_natCast, show BitVec.ofInt 64 1 = 1#64 by decide, BitVec.toNat_and, BitVec.toNat_ofNat, Nat.mod_eq_of_lt (by omega)]
    show u &&& 1 = _
    rw [Nat.and_one_is_mod]
  show IntKind.wrap .u64 ((BitVec.ofInt 64 (u : Int) &&& BitVec.ofInt 64 1).toNat : Int) = _
  rw [h1, wrap_u64 (by omega) (by omega)]
theorem shr1 (x : Nat) : (x : Int).fdiv (2 ^ min (1 : Int).toNat (IntKind.bits .u64)) = ((x / 2 : Nat) : Int) := by
  have : (2 : Int) ^ min (1 : Int).toNat (IntKind.bits .u64) = 2 := by decide
  rw [this, Int.fdiv_eq_ediv_of_nonneg _ (by omega)]
  omega
theorem unz_xor {u : Nat} (hu : u < 18446744073709551616) : bitV .xor .i64 ((u / 2 : Nat) : Int) (0 - ((u % 2 : Nat) : Int)) = unzig u := by
  unfold unzig
  rcases Nat.mod_two_eq_zero_or_one u with h | h
  · rw [h, if_pos rfl]
    have h1 : (BitVec.ofInt 64 ((u / 2 : Nat) : Int) ^^^ BitVec.ofInt 64 (0 - ((0 : Nat) : Int))).toNat = u / 2 := by
      rw [BitVec.ofInt_natCast]
      simp
      omega
    show IntKind.wrap .i64 ((BitVec.ofInt 64 ((u / 2 : Nat) : Int) ^^^ BitVec.ofInt 64 (0 - ((0 : Nat) : Int))).toNat : Int) = _
    rw [h1, wrap_i64 (by omega) (by omega)]
  · rw [h, if_neg (by omega)]
    have h1 : (BitVec.ofInt 64 ((u / 2 : Nat) : Int) ^^^ BitVec.ofInt 64 (0 - ((1 : Nat) : Int))).toNat = 18446744073709551615 - u / 2 := by
      have : BitVec.ofInt 64 (0 - ((1 : Nat) : Int)) = BitVec.allOnes 64 := by decide
      rw [BitVec.ofInt_natCast, this, BitVec.xor_allOnes, BitVec.toNat_not, BitVec.toNat_ofNat]
      omega
    show IntKind.wrap .i64 ((BitVec.ofInt 64 ((u / 2 : Nat) : Int) ^^^ BitVec.ofInt 64 (0 - ((1 : Nat) : Int))).toNat : Int) = _
    rw [h1]
    have e64 : (2 : Int) ^ 64 = 18446744073709551616 := by decide
    have e63 : (2 : Int) ^ (64 - 1) = 9223372036854775808 := by decide
    simp only [IntKind.wrap, IntKind.bits, IntKind.signed, Bool.true_and, decide_eq_true_eq, ge_iff_le, e64, e63]
    split <;> omega
theorem rdRow_lt64 (B : List UInt8) (at_ : Nat) (e : Int) : (rdRow B at_ e 10 1).1 < 18446744073709551616 := by
  unfold rdRow
  split
  · dsimp only; omega
  · exact rowA_lt64 (by omega) (by omega) (by omega) _ 0 0 (by omega) (by simp)
theorem rint_take (B : List UInt8) (c at_ : Nat) (e : Int) (hat : at_ ≤ B.length) (hB : B.length ≤ 1000000000000) : Spec Try.prog 33 [.ptr 0 0 0 0] [rdO B c at_ e, roB B] 2 (σ := Unit) (fun _ => True) (fun _ => .raw (.int .i64 (unzig (rdRow B at_ e 10 1).1))) (fun _ => [(0, rdO B c (rdRow B at_ e 10 1).2.1 (rdRow B at_ e 10 1).2.2)]) := by
  refine Spec.of Try.func33 rfl Try.ntmps33 rfl (by simp [AO.Bd, bytesF, AV.bds, AV.bd]) fun ρ w => ?_
  have hb := rdRow_lt64 B at_ e
  repeat (first | refine C.seq ?_ | refine C.region ?_ | refine R.zb ttok ?_ | refine R.zu ttok ?_ | refine R.zc ttok ?_ | refine R.za ttok ?_ | refine R.zx ?_ | refine R.zl ttok ?_ | refine R.zs ttok ?_ | refine R.z ttok ?_ | refine R.zk ?_ | refine R.zn ?_ | refine R.done ?_ | refine X.then ?_ | refine C.block ?_ | refine C.ret ?_ | refine C.skip ?_ | refine C.exit ?_ | refine X.pass_ret ?_ | refine X.pass_exit ?_ | refine X.block_normal ?_ | refine X.block_ret ?_ | refine X.block_exit ?_ | refine C.goto ?_ | refine C.label ?_ | refine X.pass_goto ?_ | refine X.block_goto ?_ | refine X.jump_ret ?_ | refine X.jump_normal ?_ | refine X.jump_exit ?_ | refine C.zt ?_ | refine C.zf ?_ | refine X.zo ?_)
  refine R.cl [0, 1] (row_spec B c at_ e 10 1 hat hB (by omega) (by omega) (by omega) (by omega)) Try.call55 (.same rfl rfl (.same rfl rfl .nil)) rfl rfl rfl (fun _ => rfl) rfl rfl fun _ _ => ?_
  generalize (rdRow B at_ e 10 1).1 = u at hb ⊢
  have hu2 : u % 2 < 2 := Nat.mod_lt _ (by omega)
  repeat (first | refine C.seq ?_ | refine C.region ?_ | refine R.zb ttok ?_ | refine R.zu ttok ?_ | refine R.zc ttok ?_ | refine R.za ttok ?_ | refine R.zx ?_ | refine R.zl ttok ?_ | refine R.zs ttok ?_ | refine R.z ttok ?_ | refine R.zk ?_ | refine R.zn ?_ | refine R.done ?_ | refine X.then ?_ | refine C.block ?_ | refine C.ret ?_ | refine C.skip ?_ | refine C.exit ?_ | refine X.pass_ret ?_ | refine X.pass_exit ?_ | refine X.block_normal ?_ | refine X.block_ret ?_ | refine X.block_exit ?_ | refine C.goto ?_ | refine C.label ?_ | refine X.pass_goto ?_ | refine X.block_goto ?_ | refine X.jump_ret ?_ | refine X.jump_normal ?_ | refine X.jump_exit ?_ | refine C.zt ?_ | refine C.zf ?_ | refine X.zo ?_)
  refine R.shr ((u / 2 : Nat) : Int) rfl rfl rfl rfl (by omega) (shr1 u) ?_
  refine R.w ttok rfl (wrap_i64 (by omega) (by omega)) rfl rfl ?_
  refine R.s ttok rfl rfl rfl ?_
  refine R.v ttok _ rfl (congrArg (Value.int .u64) (andOne u hb)) rfl rfl ?_
  refine R.w ttok rfl (wrap_i64 (by omega) (by omega)) rfl rfl ?_
  refine R.w ttok rfl (wrap_i64 (by omega) (by omega)) rfl rfl ?_
  refine R.v ttok _ rfl (congrArg (Value.int .i64) (unz_xor hb)) rfl rfl ?_
  repeat (first | refine C.seq ?_ | refine C.region ?_ | refine R.zb ttok ?_ | refine R.zu ttok ?_ | refine R.zc ttok ?_ | refine R.za ttok ?_ | refine R.zx ?_ | refine R.zl ttok ?_ | refine R.zs ttok ?_ | refine R.z ttok ?_ | refine R.zk ?_ | refine R.zn ?_ | refine R.done ?_ | refine X.then ?_ | refine C.block ?_ | refine C.ret ?_ | refine C.skip ?_ | refine C.exit ?_ | refine X.pass_ret ?_ | refine X.pass_exit ?_ | refine X.block_normal ?_ | refine X.block_ret ?_ | refine X.block_exit ?_ | refine C.goto ?_ | refine C.label ?_ | refine X.pass_goto ?_ | refine X.block_goto ?_ | refine X.jump_ret ?_ | refine X.jump_normal ?_ | refine X.jump_exit ?_ | refine C.zt ?_ | refine C.zf ?_ | refine X.zo ?_)
  refine X.fin ttok () [] trivial rfl rfl rfl ?_ _ (.inl rfl)
  exact .same rfl rfl rfl rfl .nil
/-- what a Reader's Text gives -/
def rdText (B : List UInt8) (at_ : Nat) (e most : Int) : List UInt8 × Nat × Int := if e ≠ 0 then ([], at_, e) else
  let R := rdRow B at_ 0 9 127
  if R.2.2 ≠ 0 then ([], at_, R.2.2) else if max most 0 < (R.1 : Int) then ([], at_, 4) else if B.length - R.2.1 < R.1 then ([], at_, 2) else
  ((B.drop R.2.1).take R.1, R.2.1 + R.1, 0)
theorem rtext_take (B : List UInt8) (c at_ : Nat) (e most : Int) (hat : at_ ≤ B.length) (hB : B.length ≤ 1000000000000) (hc : B.length ≤ c) : Spec Try.prog 34 [.ptr 0 0 0 0, .raw (.int .i64 most)] [rdO B c at_ e, roB B] 2 (σ := Unit) (fun _ => True) (fun _ => .raw (.string (strOf (rdText B at_ e most).1))) (fun _ => [(0, rdO B c (rdText B at_ e most).2.1 (rdText B at_ e most).2.2)]) := by
  refine Spec.of Try.func34 rfl Try.ntmps34 rfl (by simp [AO.Bd, bytesF, AV.bds, AV.bd]) fun ρ w => ?_
  repeat (first | refine C.seq ?_ | refine C.region ?_ | refine R.zb ttok ?_ | refine R.zu ttok ?_ | refine R.zc ttok ?_ | refine R.za ttok ?_ | refine R.zx ?_ | refine R.zl ttok ?_ | refine R.zs ttok ?_ | refine R.z ttok ?_ | refine R.zk ?_ | refine R.zn ?_ | refine R.done ?_ | refine X.then ?_ | refine C.block ?_ | refine C.ret ?_ | refine C.skip ?_ | refine C.exit ?_ | refine X.pass_ret ?_ | refine X.pass_exit ?_ | refine X.block_normal ?_ | refine X.block_ret ?_ | refine X.block_exit ?_ | refine C.goto ?_ | refine C.label ?_ | refine X.pass_goto ?_ | refine X.block_goto ?_ | refine X.jump_ret ?_ | refine X.jump_normal ?_ | refine X.jump_exit ?_ | refine C.zt ?_ | refine C.zf ?_ | refine X.zo ?_)
  refine R.cl [0, 1] (stopped_spec B c at_ e) Try.call56 (.same rfl rfl (.same rfl rfl .nil)) rfl rfl rfl (fun _ => rfl) rfl rfl fun _ _ => ?_
  repeat (first | refine C.seq ?_ | refine C.region ?_ | refine R.zb ttok ?_ | refine R.zu ttok ?_ | refine R.zc ttok ?_ | refine R.za ttok ?_ | refine R.zx ?_ | refine R.zl ttok ?_ | refine R.zs ttok ?_ | refine R.z ttok ?_ | refine R.zk ?_ | refine R.zn ?_ | refine R.done ?_ | refine X.then ?_ | refine C.block ?_ | refine C.ret ?_ | refine C.skip ?_ | refine C.exit ?_ | refine X.pass_ret ?_ | refine X.pass_exit ?_ | refine X.block_normal ?_ | refine X.block_ret ?_ | refine X.block_exit ?_ | refine C.goto ?_ | refine C.label ?_ | refine X.pass_goto ?_ | refine X.block_goto ?_ | refine X.jump_ret ?_ | refine X.jump_normal ?_ | refine X.jump_exit ?_ | refine C.zt ?_ | refine C.zf ?_ | refine X.zo ?_)
  refine C.dec rfl (fun hne => ?_) (fun he => ?_)
  · rw [show rdText B at_ e most = ([], at_, e) from if_pos hne]
    repeat (first | refine C.seq ?_ | refine C.region ?_ | refine R.zb ttok ?_ | refine R.zu ttok ?_ | refine R.zc ttok ?_ | refine R.za ttok ?_ | refine R.zx ?_ | refine R.zl ttok ?_ | refine R.zs ttok ?_ | refine R.z ttok ?_ | refine R.zk ?_ | refine R.zn ?_ | refine R.done ?_ | refine X.then ?_ | refine C.block ?_ | refine C.ret ?_ | refine C.skip ?_ | refine C.exit ?_ | refine X.pass_ret ?_ | refine X.pass_exit ?_ | refine X.block_normal ?_ | refine X.block_ret ?_ | refine X.block_exit ?_ | refine C.goto ?_ | refine C.label ?_ | refine X.pass_goto ?_ | refine X.block_goto ?_ | refine X.jump_ret ?_ | refine X.jump_normal ?_ | refine X.jump_exit ?_ | refine C.zt ?_ | refine C.zf ?_ | refine X.zo ?_)
    refine X.fin ttok () [] trivial rfl rfl rfl ?_ _ (.inl rfl)
    exact .same rfl rfl rfl rfl .nil
  obtain rfl : e = 0 := Decidable.not_not.1 he
  obtain ⟨hb, hge, hle⟩ := rdRow_ok B at_ 0 (most := 9) (last := 127) hat (by omega) (by omega)
  have hre := fun h => rdRow_err B at_ (most := 9) (last := 127) h
  rw [pow128_9] at hb
  have hdef : rdText B at_ 0 most = if (rdRow B at_ 0 9 127).2.2 ≠ 0 then ([], at_, (rdRow B at_ 0 9 127).2.2) else if max most 0 < ((rdRow B at_ 0 9 127).1 : Int) then ([], at_, 4) else if B.length - (rdRow B at_ 0 9 127).2.1 < (rdRow B at_ 0 9 127).1 then ([], at_, 2) else ((B.drop (rdRow B at_ 0 9 127).2.1).take (rdRow B at_ 0 9 127).1, (rdRow B at_ 0 9 127).2.1 + (rdRow B at_ 0 9 127).1, 0) := if_neg (by simp)
  rw [hdef]
  repeat (first | refine C.seq ?_ | refine C.region ?_ | refine R.zb ttok ?_ | refine R.zu ttok ?_ | refine R.zc ttok ?_ | refine R.za ttok ?_ | refine R.zx ?_ | refine R.zl ttok ?_ | refine R.zs ttok ?_ | refine R.z ttok ?_ | refine R.zk ?_ | refine R.zn ?_ | refine R.done ?_ | refine X.then ?_ | refine C.block ?_ | refine C.ret ?_ | refine C.skip ?_ | refine C.exit ?_ | refine X.pass_ret ?_ | refine X.pass_exit ?_ | refine X.block_normal ?_ | refine X.block_ret ?_ | refine X.block_exit ?_ | refine C.goto ?_ | refine C.label ?_ | refine X.pass_goto ?_ | refine X.block_goto ?_ | refine X.jump_ret ?_ | refine X.jump_normal ?_ | refine X.jump_exit ?_ | refine C.zt ?_ | refine C.zf ?_ | refine X.zo ?_)
  refine R.cl [0, 1] (rnumber_take B c at_ 0 hat hB) Try.call32 (.same rfl rfl (.same rfl rfl .nil)) rfl rfl rfl (fun _ => rfl) rfl rfl fun _ _ => ?_
  clear hdef
  generalize rdRow B at_ 0 9 127 = R at *
  obtain ⟨v, k, x⟩ := R
  dsimp only at hb hge hle hre ⊢
  repeat (first | refine C.seq ?_ | refine C.region ?_ | refine R.zb ttok ?_ | refine R.zu ttok ?_ | refine R.zc ttok ?_ | refine R.za ttok ?_ | refine R.zx ?_ | refine R.zl ttok ?_ | refine R.zs ttok ?_ | refine R.z ttok ?_ | refine R.zk ?_ | refine R.zn ?_ | refine R.done ?_ | refine X.then ?_ | refine C.block ?_ | refine C.ret ?_ | refine C.skip ?_ | refine C.exit ?_ | refine X.pass_ret ?_ | refine X.pass_exit ?_ | refine X.block_normal ?_ | refine X.block_ret ?_ | refine X.block_exit ?_ | refine C.goto ?_ | refine C.label ?_ | refine X.pass_goto ?_ | refine X.block_goto ?_ | refine X.jump_ret ?_ | refine X.jump_normal ?_ | refine X.jump_exit ?_ | refine C.zt ?_ | refine C.zf ?_ | refine X.zo ?_)
  refine C.dec rfl (fun hx => ?_) (fun hx => ?_)
  · obtain ⟨_, rfl⟩ := hre hx
    rw [if_pos hx]
    repeat (first | refine C.seq ?_ | refine C.region ?_ | refine R.zb ttok ?_ | refine R.zu ttok ?_ | refine R.zc ttok ?_ | refine R.za ttok ?_ | refine R.zx ?_ | refine R.zl ttok ?_ | refine R.zs ttok ?_ | refine R.z ttok ?_ | refine R.zk ?_ | refine R.zn ?_ | refine R.done ?_ | refine X.then ?_ | refine C.block ?_ | refine C.ret ?_ | refine C.skip ?_ | refine C.exit ?_ | refine X.pass_ret ?_ | refine X.pass_exit ?_ | refine X.block_normal ?_ | refine X.block_ret ?_ | refine X.block_exit ?_ | refine C.goto ?_ | refine C.label ?_ | refine X.pass_goto ?_ | refine X.block_goto ?_ | refine X.jump_ret ?_ | refine X.jump_normal ?_ | refine X.jump_exit ?_ | refine C.zt ?_ | refine C.zf ?_ | refine X.zo ?_)
    refine X.fin ttok () [] trivial rfl rfl rfl ?_ _ (.inl rfl)
    exact .same rfl rfl rfl rfl .nil
  rw [if_neg hx]
  repeat (first | refine C.seq ?_ | refine C.region ?_ | refine R.zb ttok ?_ | refine R.zu ttok ?_ | refine R.zc ttok ?_ | refine R.za ttok ?_ | refine R.zx ?_ | refine R.zl ttok ?_ | refine R.zs ttok ?_ | refine R.z ttok ?_ | refine R.zk ?_ | refine R.zn ?_ | refine R.done ?_ | refine X.then ?_ | refine C.block ?_ | refine C.ret ?_ | refine C.skip ?_ | refine C.exit ?_ | refine X.pass_ret ?_ | refine X.pass_exit ?_ | refine X.block_normal ?_ | refine X.block_ret ?_ | refine X.block_exit ?_ | refine C.goto ?_ | refine C.label ?_ | refine X.pass_goto ?_ | refine X.block_goto ?_ | refine X.jump_ret ?_ | refine X.jump_normal ?_ | refine X.jump_exit ?_ | refine C.zt ?_ | refine C.zf ?_ | refine X.zo ?_)
  refine C.dec rfl (fun h1 => ?_) (fun h1 => ?_)
  · rw [if_pos h1]
    repeat (first | refine C.seq ?_ | refine C.region ?_ | refine R.zb ttok ?_ | refine R.zu ttok ?_ | refine R.zc ttok ?_ | refine R.za ttok ?_ | refine R.zx ?_ | refine R.zl ttok ?_ | refine R.zs ttok ?_ | refine R.z ttok ?_ | refine R.zk ?_ | refine R.zn ?_ | refine R.done ?_ | refine X.then ?_ | refine C.block ?_ | refine C.ret ?_ | refine C.skip ?_ | refine C.exit ?_ | refine X.pass_ret ?_ | refine X.pass_exit ?_ | refine X.block_normal ?_ | refine X.block_ret ?_ | refine X.block_exit ?_ | refine C.goto ?_ | refine C.label ?_ | refine X.pass_goto ?_ | refine X.block_goto ?_ | refine X.jump_ret ?_ | refine X.jump_normal ?_ | refine X.jump_exit ?_ | refine C.zt ?_ | refine C.zf ?_ | refine X.zo ?_)
    refine X.fin ttok () [] trivial rfl rfl rfl ?_ _ (.inl rfl)
    exact .same rfl rfl rfl rfl .nil
  rw [if_neg h1]
  repeat (first | refine C.seq ?_ | refine C.region ?_ | refine R.zb ttok ?_ | refine R.zu ttok ?_ | refine R.zc ttok ?_ | refine R.za ttok ?_ | refine R.zx ?_ | refine R.zl ttok ?_ | refine R.zs ttok ?_ | refine R.z ttok ?_ | refine R.zk ?_ | refine R.zn ?_ | refine R.done ?_ | refine X.then ?_ | refine C.block ?_ | refine C.ret ?_ | refine C.skip ?_ | refine C.exit ?_ | refine X.pass_ret ?_ | refine X.pass_exit ?_ | refine X.block_normal ?_ | refine X.block_ret ?_ | refine X.block_exit ?_ | refine C.goto ?_ | refine C.label ?_ | refine X.pass_goto ?_ | refine X.block_goto ?_ | refine X.jump_ret ?_ | refine X.jump_normal ?_ | refine X.jump_exit ?_ | refine C.zt ?_ | refine C.zf ?_ | refine X.zo ?_)
  refine C.draw [[], [], [1], [1, 2], [1, 2, 3], [1, 2, 3, 4], [], [6], [6, 7], [6, 7, 8], [1, 2, 3, 4, 5, 6, 7, 8, 9], [0, 1, 2, 3, 4, 5, 6, 7, 8, 9, 10], [0, 1, 2, 3, 4, 5, 6, 7, 8, 9, 10, 11]] [] (by kernel_rfl) (by kernel_rfl) ?_
  repeat (first | refine C.seq ?_ | refine C.region ?_ | refine R.zb ttok ?_ | refine R.zu ttok ?_ | refine R.zc ttok ?_ | refine R.za ttok ?_ | refine R.zx ?_ | refine R.zl ttok ?_ | refine R.zs ttok ?_ | refine R.z ttok ?_ | refine R.zk ?_ | refine R.zn ?_ | refine R.done ?_ | refine X.then ?_ | refine C.block ?_ | refine C.ret ?_ | refine C.skip ?_ | refine C.exit ?_ | refine X.pass_ret ?_ | refine X.pass_exit ?_ | refine X.block_normal ?_ | refine X.block_ret ?_ | refine X.block_exit ?_ | refine C.goto ?_ | refine C.label ?_ | refine X.pass_goto ?_ | refine X.block_goto ?_ | refine X.jump_ret ?_ | refine X.jump_normal ?_ | refine X.jump_exit ?_ | refine C.zt ?_ | refine C.zf ?_ | refine X.zo ?_)
  refine C.dec rfl (fun h2 => ?_) (fun h2 => ?_)
  · rw [if_pos (by omega)]
    repeat (first | refine C.seq ?_ | refine C.region ?_ | refine R.zb ttok ?_ | refine R.zu ttok ?_ | refine R.zc ttok ?_ | refine R.za ttok ?_ | refine R.zx ?_ | refine R.zl ttok ?_ | refine R.zs ttok ?_ | refine R.z ttok ?_ | refine R.zk ?_ | refine R.zn ?_ | refine R.done ?_ | refine X.then ?_ | refine C.block ?_ | refine C.ret ?_ | refine C.skip ?_ | refine C.exit ?_ | refine X.pass_ret ?_ | refine X.pass_exit ?_ | refine X.block_normal ?_ | refine X.block_ret ?_ | refine X.block_exit ?_ | refine C.goto ?_ | refine C.label ?_ | refine X.pass_goto ?_ | refine X.block_goto ?_ | refine X.jump_ret ?_ | refine X.jump_normal ?_ | refine X.jump_exit ?_ | refine C.zt ?_ | refine C.zf ?_ | refine X.zo ?_)
    refine X.fin ttok () [] trivial rfl rfl rfl ?_ _ (.inl rfl)
    exact .same rfl rfl rfl rfl .nil
  rw [if_neg (by omega)]
  have hx0 : x = 0 := Decidable.not_not.1 hx
  subst hx0
  repeat (first | refine C.seq ?_ | refine C.region ?_ | refine R.zb ttok ?_ | refine R.zu ttok ?_ | refine R.zc ttok ?_ | refine R.za ttok ?_ | refine R.zx ?_ | refine R.zl ttok ?_ | refine R.zs ttok ?_ | refine R.z ttok ?_ | refine R.zk ?_ | refine R.zn ?_ | refine R.done ?_ | refine X.then ?_ | refine C.block ?_ | refine C.ret ?_ | refine C.skip ?_ | refine C.exit ?_ | refine X.pass_ret ?_ | refine X.pass_exit ?_ | refine X.block_normal ?_ | refine X.block_ret ?_ | refine X.block_exit ?_ | refine C.goto ?_ | refine C.label ?_ | refine X.pass_goto ?_ | refine X.block_goto ?_ | refine X.jump_ret ?_ | refine X.jump_normal ?_ | refine X.jump_exit ?_ | refine C.zt ?_ | refine C.zf ?_ | refine X.zo ?_)
  refine C.draw [[], [0], [0, 1], [0, 1, 2], [], [4], [4, 5], [4, 5, 6], [], [4, 5, 6, 7, 8], [], [10], [10, 11], [10, 11, 12], [0, 1, 2, 3, 4, 5, 6, 7, 8, 9, 10, 11, 12, 13], [0, 1, 2, 3, 4, 5, 6, 7, 8, 9, 10, 11, 12, 13, 14], [0, 1, 2, 3, 4, 5, 6, 7, 8, 9, 10, 11, 12, 13, 14, 15]] [15] (by kernel_rfl) (by kernel_rfl) ?_
  repeat (first | refine C.seq ?_ | refine C.region ?_ | refine R.zb ttok ?_ | refine R.zu ttok ?_ | refine R.zc ttok ?_ | refine R.za ttok ?_ | refine R.zx ?_ | refine R.zl ttok ?_ | refine R.zs ttok ?_ | refine R.z ttok ?_ | refine R.zk ?_ | refine R.zn ?_ | refine R.done ?_ | refine X.then ?_ | refine C.block ?_ | refine C.ret ?_ | refine C.skip ?_ | refine C.exit ?_ | refine X.pass_ret ?_ | refine X.pass_exit ?_ | refine X.block_normal ?_ | refine X.block_ret ?_ | refine X.block_exit ?_ | refine C.goto ?_ | refine C.label ?_ | refine X.pass_goto ?_ | refine X.block_goto ?_ | refine X.jump_ret ?_ | refine X.jump_normal ?_ | refine X.jump_exit ?_ | refine C.zt ?_ | refine C.zf ?_ | refine X.zo ?_)
  refine R.sl ttok k (k + v) rfl rfl rfl rfl rfl rfl rfl ⟨_, _, rfl, by omega⟩ ⟨_, _, rfl, by omega⟩ (by omega) (by omega) fun o' ho' => ?_
  rw [Nat.add_sub_cancel_left]
  refine R.b2s ttok ((B.drop k).take v) rfl (SrcA.robj rfl (by omega) rfl (by omega)) rfl (by rw [List.length_take, List.length_drop]; omega) rfl rfl rfl rfl rfl rfl rfl rfl ?_
  repeat (first | refine C.seq ?_ | refine C.region ?_ | refine R.zb ttok ?_ | refine R.zu ttok ?_ | refine R.zc ttok ?_ | refine R.za ttok ?_ | refine R.zx ?_ | refine R.zl ttok ?_ | refine R.zs ttok ?_ | refine R.z ttok ?_ | refine R.zk ?_ | refine R.zn ?_ | refine R.done ?_ | refine X.then ?_ | refine C.block ?_ | refine C.ret ?_ | refine C.skip ?_ | refine C.exit ?_ | refine X.pass_ret ?_ | refine X.pass_exit ?_ | refine X.block_normal ?_ | refine X.block_ret ?_ | refine X.block_exit ?_ | refine C.goto ?_ | refine C.label ?_ | refine X.pass_goto ?_ | refine X.block_goto ?_ | refine X.jump_ret ?_ | refine X.jump_normal ?_ | refine X.jump_exit ?_ | refine C.zt ?_ | refine C.zf ?_ | refine X.zo ?_)
  refine X.fin ttok () [] trivial rfl rfl rfl ?_ _ (.inl rfl)
  exact .same rfl rfl rfl rfl .nil
/-- the number of these bytes, the lowest first -/
def leV : List UInt8 → Nat
  | [] => 0
  | b :: r => b.toNat + 256 * leV r
theorem leV_append : ∀ (p q : List UInt8), leV (p ++ q) = leV p + 256 ^ p.length * leV q
  | [], q => by simp [leV]
  | b :: p, q => by
    simp only [List.cons_append, leV, leV_append p q, List.length_cons, Nat.pow_succ]
    rw [Nat.mul_add, Nat.mul_comm (256 ^ p.length) 256, Nat.mul_assoc]; omega
theorem leV_lt : ∀ p : List UInt8, leV p < 256 ^ p.length
  | [] => by simp [leV]
  | b :: p => by
    have := leV_lt p
    have hb := b.toNat_lt
    simp only [leV, List.length_cons, Nat.pow_succ]
    omega
def rdFixed (B : List UInt8) (at_ : Nat) (e n : Int) : Nat × Nat × Int := if e ≠ 0 then (0, at_, e) else if n < 0 ∨ 8 < n then (0, at_, 1) else if ((B.length - at_ : Nat) : Int) < n then (0, at_, 2) else (leV ((B.drop at_).take n.toNat), at_ + n.toNat, 0)
theorem or_gen {a x k : Nat} (ha : a < 2 ^ k) (hs : a + x * 2 ^ k < 18446744073709551616) : bitV .or .u64 (a : Int) ((x * 2 ^ k : Nat) : Int) = ((a + x * 2 ^ k : Nat) : Int) := by
  have h1 : (BitVec.ofInt 64 (a : Int) ||| BitVec.ofInt 64 ((x * 2 ^ k : Nat) : Int)).toNat = a + x * 2 ^ k := by
    rw [BitVec.ofInt_natCast, BitVec.ofInt_natCast, BitVec.toNat_or, BitVec.toNat_ofNat, BitVec.toNat_ofNat, Nat.mod_eq_of_lt (by omega), Nat.mod_eq_of_lt (by omega)]
    have := Nat.shiftLeft_add_eq_or_of_lt (b := a) (i := k) ha x
    rw [Nat.shiftLeft_eq] at this
    rw [Nat.or_comm, ← this]; omega
  show IntKind.wrap .u64 ((BitVec.ofInt 64 (a : Int) ||| BitVec.ofInt 64 ((x * 2 ^ k : Nat) : Int)).toNat : Int) = _
  rw [h1, wrap_u64 (by omega) (by omega)]
theorem shl_gen {x k : Nat} (hk : k ≤ 64) (hx : x * 2 ^ k < 18446744073709551616) : IntKind.wrap .u64 ((x : Int) * 2 ^ (min ((k : Nat) : Int).toNat (IntKind.bits .u64))) = ((x * 2 ^ k : Nat) : Int) := by
  rw [Int.toNat_natCast, show min k (IntKind.bits .u64) = k from Nat.min_eq_left hk]
  have e3 : ((x : Int) * 2 ^ k) = ((x * 2 ^ k : Nat) : Int) := by norm_cast
  rw [e3, wrap_u64 (by omega) (by omega)]
theorem rfixed_take (B : List UInt8) (c at_ : Nat) (e n : Int) (hat : at_ ≤ B.length) (hB : B.length ≤ 1000000000000) (hc : B.length ≤ c) : Spec Try.prog 35 [.ptr 0 0 0 0, .raw (.int .i64 n)] [rdO B c at_ e, roB B] 2 (σ := Unit) (fun _ => True) (fun _ => .raw (.int .u64 (rdFixed B at_ e n).1)) (fun _ => [(0, rdO B c (rdFixed B at_ e n).2.1 (rdFixed B at_ e n).2.2)]) := by
  refine Spec.of Try.func35 rfl Try.ntmps35 rfl (by simp [AO.Bd, bytesF, AV.bds, AV.bd]) fun ρ w => ?_
  repeat (first | refine C.seq ?_ | refine C.region ?_ | refine R.zb ttok ?_ | refine R.zu ttok ?_ | refine R.zc ttok ?_ | refine R.za ttok ?_ | refine R.zx ?_ | refine R.zl ttok ?_ | refine R.zs ttok ?_ | refine R.z ttok ?_ | refine R.zk ?_ | refine R.zn ?_ | refine R.done ?_ | refine X.then ?_ | refine C.block ?_ | refine C.ret ?_ | refine C.skip ?_ | refine C.exit ?_ | refine X.pass_ret ?_ | refine X.pass_exit ?_ | refine X.block_normal ?_ | refine X.block_ret ?_ | refine X.block_exit ?_ | refine C.goto ?_ | refine C.label ?_ | refine X.pass_goto ?_ | refine X.block_goto ?_ | refine X.jump_ret ?_ | refine X.jump_normal ?_ | refine X.jump_exit ?_ | refine C.zt ?_ | refine C.zf ?_ | refine X.zo ?_)
  refine R.cl [0, 1] (stopped_spec B c at_ e) Try.call56 (.same rfl rfl (.same rfl rfl .nil)) rfl rfl rfl (fun _ => rfl) rfl rfl fun _ _ => ?_
  repeat (first | refine C.seq ?_ | refine C.region ?_ | refine R.zb ttok ?_ | refine R.zu ttok ?_ | refine R.zc ttok ?_ | refine R.za ttok ?_ | refine R.zx ?_ | refine R.zl ttok ?_ | refine R.zs ttok ?_ | refine R.z ttok ?_ | refine R.zk ?_ | refine R.zn ?_ | refine R.done ?_ | refine X.then ?_ | refine C.block ?_ | refine C.ret ?_ | refine C.skip ?_ | refine C.exit ?_ | refine X.pass_ret ?_ | refine X.pass_exit ?_ | refine X.block_normal ?_ | refine X.block_ret ?_ | refine X.block_exit ?_ | refine C.goto ?_ | refine C.label ?_ | refine X.pass_goto ?_ | refine X.block_goto ?_ | refine X.jump_ret ?_ | refine X.jump_normal ?_ | refine X.jump_exit ?_ | refine C.zt ?_ | refine C.zf ?_ | refine X.zo ?_)
  refine C.dec rfl (fun hne => ?_) (fun he => ?_)
  · rw [show rdFixed B at_ e n = (0, at_, e) from if_pos hne]
    repeat (first | refine C.seq ?_ | refine C.region ?_ | refine R.zb ttok ?_ | refine R.zu ttok ?_ | refine R.zc ttok ?_ | refine R.za ttok ?_ | refine R.zx ?_ | refine R.zl ttok ?_ | refine R.zs ttok ?_ | refine R.z ttok ?_ | refine R.zk ?_ | refine R.zn ?_ | refine R.done ?_ | refine X.then ?_ | refine C.block ?_ | refine C.ret ?_ | refine C.skip ?_ | refine C.exit ?_ | refine X.pass_ret ?_ | refine X.pass_exit ?_ | refine X.block_normal ?_ | refine X.block_ret ?_ | refine X.block_exit ?_ | refine C.goto ?_ | refine C.label ?_ | refine X.pass_goto ?_ | refine X.block_goto ?_ | refine X.jump_ret ?_ | refine X.jump_normal ?_ | refine X.jump_exit ?_ | refine C.zt ?_ | refine C.zf ?_ | refine X.zo ?_)
    refine X.fin ttok () [] trivial rfl rfl rfl ?_ _ (.inl rfl)
    exact .same rfl rfl rfl rfl .nil
  obtain rfl : e = 0 := Decidable.not_not.1 he
  repeat (first | refine C.seq ?_ | refine C.region ?_ | refine R.zb ttok ?_ | refine R.zu ttok ?_ | refine R.zc ttok ?_ | refine R.za ttok ?_ | refine R.zx ?_ | refine R.zl ttok ?_ | refine R.zs ttok ?_ | refine R.z ttok ?_ | refine R.zk ?_ | refine R.zn ?_ | refine R.done ?_ | refine X.then ?_ | refine C.block ?_ | refine C.ret ?_ | refine C.skip ?_ | refine C.exit ?_ | refine X.pass_ret ?_ | refine X.pass_exit ?_ | refine X.block_normal ?_ | refine X.block_ret ?_ | refine X.block_exit ?_ | refine C.goto ?_ | refine C.label ?_ | refine X.pass_goto ?_ | refine X.block_goto ?_ | refine X.jump_ret ?_ | refine X.jump_normal ?_ | refine X.jump_exit ?_ | refine C.zt ?_ | refine C.zf ?_ | refine X.zo ?_)
  by_cases hn : n < 0 ∨ 8 < n
  · rw [show rdFixed B at_ 0 n = (0, at_, 1) from (if_neg (by simp)).trans (if_pos hn)]
    by_cases h0 : n < 0
    all_goals first | rw [decide_eq_true h0] | rw [decide_eq_false h0]
    all_goals
      repeat (first | refine C.seq ?_ | refine C.region ?_ | refine R.zb ttok ?_ | refine R.zu ttok ?_ | refine R.zc ttok ?_ | refine R.za ttok ?_ | refine R.zx ?_ | refine R.zl ttok ?_ | refine R.zs ttok ?_ | refine R.z ttok ?_ | refine R.zk ?_ | refine R.zn ?_ | refine R.done ?_ | refine X.then ?_ | refine C.block ?_ | refine C.ret ?_ | refine C.skip ?_ | refine C.exit ?_ | refine X.pass_ret ?_ | refine X.pass_exit ?_ | refine X.block_normal ?_ | refine X.block_ret ?_ | refine X.block_exit ?_ | refine C.goto ?_ | refine C.label ?_ | refine X.pass_goto ?_ | refine X.block_goto ?_ | refine X.jump_ret ?_ | refine X.jump_normal ?_ | refine X.jump_exit ?_ | refine C.zt ?_ | refine C.zf ?_ | refine X.zo ?_)
    all_goals try refine C.yes rfl (decide_eq_true (by show 8 < n; omega)) ?_
    all_goals
      repeat (first | refine C.seq ?_ | refine C.region ?_ | refine R.zb ttok ?_ | refine R.zu ttok ?_ | refine R.zc ttok ?_ | refine R.za ttok ?_ | refine R.zx ?_ | refine R.zl ttok ?_ | refine R.zs ttok ?_ | refine R.z ttok ?_ | refine R.zk ?_ | refine R.zn ?_ | refine R.done ?_ | refine X.then ?_ | refine C.block ?_ | refine C.ret ?_ | refine C.skip ?_ | refine C.exit ?_ | refine X.pass_ret ?_ | refine X.pass_exit ?_ | refine X.block_normal ?_ | refine X.block_ret ?_ | refine X.block_exit ?_ | refine C.goto ?_ | refine C.label ?_ | refine X.pass_goto ?_ | refine X.block_goto ?_ | refine X.jump_ret ?_ | refine X.jump_normal ?_ | refine X.jump_exit ?_ | refine C.zt ?_ | refine C.zf ?_ | refine X.zo ?_)
    all_goals
      refine X.fin ttok () [] trivial rfl rfl rfl ?_ _ (.inl rfl)
      exact .same rfl rfl rfl rfl .nil
  rw [decide_eq_false (by omega : ¬ n < 0)]
  repeat (first | refine C.seq ?_ | refine C.region ?_ | refine R.zb ttok ?_ | refine R.zu ttok ?_ | refine R.zc ttok ?_ | refine R.za ttok ?_ | refine R.zx ?_ | refine R.zl ttok ?_ | refine R.zs ttok ?_ | refine R.z ttok ?_ | refine R.zk ?_ | refine R.zn ?_ | refine R.done ?_ | refine X.then ?_ | refine C.block ?_ | refine C.ret ?_ | refine C.skip ?_ | refine C.exit ?_ | refine X.pass_ret ?_ | refine X.pass_exit ?_ | refine X.block_normal ?_ | refine X.block_ret ?_ | refine X.block_exit ?_ | refine C.goto ?_ | refine C.label ?_ | refine X.pass_goto ?_ | refine X.block_goto ?_ | refine X.jump_ret ?_ | refine X.jump_normal ?_ | refine X.jump_exit ?_ | refine C.zt ?_ | refine C.zf ?_ | refine X.zo ?_)
  refine C.no rfl (decide_eq_false (by show ¬ 8 < n; omega)) ?_
  repeat (first | refine C.seq ?_ | refine C.region ?_ | refine R.zb ttok ?_ | refine R.zu ttok ?_ | refine R.zc ttok ?_ | refine R.za ttok ?_ | refine R.zx ?_ | refine R.zl ttok ?_ | refine R.zs ttok ?_ | refine R.z ttok ?_ | refine R.zk ?_ | refine R.zn ?_ | refine R.done ?_ | refine X.then ?_ | refine C.block ?_ | refine C.ret ?_ | refine C.skip ?_ | refine C.exit ?_ | refine X.pass_ret ?_ | refine X.pass_exit ?_ | refine X.block_normal ?_ | refine X.block_ret ?_ | refine X.block_exit ?_ | refine C.goto ?_ | refine C.label ?_ | refine X.pass_goto ?_ | refine X.block_goto ?_ | refine X.jump_ret ?_ | refine X.jump_normal ?_ | refine X.jump_exit ?_ | refine C.zt ?_ | refine C.zf ?_ | refine X.zo ?_)
  refine C.draw [[], [0], [0, 1], [0, 1, 2], [0, 1, 2, 3], [], [5], [5, 6], [5, 6, 7], [0, 1, 2, 3, 4, 5, 6, 7, 8], [], [0, 1, 2, 3, 4, 5, 6, 7, 8, 9, 10]] [] (by kernel_rfl) (by kernel_rfl) ?_
  repeat (first | refine C.seq ?_ | refine C.region ?_ | refine R.zb ttok ?_ | refine R.zu ttok ?_ | refine R.zc ttok ?_ | refine R.za ttok ?_ | refine R.zx ?_ | refine R.zl ttok ?_ | refine R.zs ttok ?_ | refine R.z ttok ?_ | refine R.zk ?_ | refine R.zn ?_ | refine R.done ?_ | refine X.then ?_ | refine C.block ?_ | refine C.ret ?_ | refine C.skip ?_ | refine C.exit ?_ | refine X.pass_ret ?_ | refine X.pass_exit ?_ | refine X.block_normal ?_ | refine X.block_ret ?_ | refine X.block_exit ?_ | refine C.goto ?_ | refine C.label ?_ | refine X.pass_goto ?_ | refine X.block_goto ?_ | refine X.jump_ret ?_ | refine X.jump_normal ?_ | refine X.jump_exit ?_ | refine C.zt ?_ | refine C.zf ?_ | refine X.zo ?_)
  refine C.dec rfl (fun hs => ?_) (fun hs => ?_)
  · rw [show rdFixed B at_ 0 n = (0, at_, 2) from (if_neg (by simp)).trans ((if_neg hn).trans (if_pos (by omega)))]
    repeat (first | refine C.seq ?_ | refine C.region ?_ | refine R.zb ttok ?_ | refine R.zu ttok ?_ | refine R.zc ttok ?_ | refine R.za ttok ?_ | refine R.zx ?_ | refine R.zl ttok ?_ | refine R.zs ttok ?_ | refine R.z ttok ?_ | refine R.zk ?_ | refine R.zn ?_ | refine R.done ?_ | refine X.then ?_ | refine C.block ?_ | refine C.ret ?_ | refine C.skip ?_ | refine C.exit ?_ | refine X.pass_ret ?_ | refine X.pass_exit ?_ | refine X.block_normal ?_ | refine X.block_ret ?_ | refine X.block_exit ?_ | refine C.goto ?_ | refine C.label ?_ | refine X.pass_goto ?_ | refine X.block_goto ?_ | refine X.jump_ret ?_ | refine X.jump_normal ?_ | refine X.jump_exit ?_ | refine C.zt ?_ | refine C.zf ?_ | refine X.zo ?_)
    refine X.fin ttok () [] trivial rfl rfl rfl ?_ _ (.inl rfl)
    exact .same rfl rfl rfl rfl .nil
  obtain ⟨k, rfl⟩ : ∃ k : Nat, n = k := ⟨n.toNat, by omega⟩
  rw [show rdFixed B at_ 0 (k : Int) = (leV ((B.drop at_).take k), at_ + k, 0) from (if_neg (by simp)).trans ((if_neg hn).trans (if_neg (by omega)))]
  have hk : k ≤ 8 := by omega
  have hin : at_ + k ≤ B.length := by omega
  repeat (first | refine C.seq ?_ | refine C.region ?_ | refine R.zb ttok ?_ | refine R.zu ttok ?_ | refine R.zc ttok ?_ | refine R.za ttok ?_ | refine R.zx ?_ | refine R.zl ttok ?_ | refine R.zs ttok ?_ | refine R.z ttok ?_ | refine R.zk ?_ | refine R.zn ?_ | refine R.done ?_ | refine X.then ?_ | refine C.block ?_ | refine C.ret ?_ | refine C.skip ?_ | refine C.exit ?_ | refine X.pass_ret ?_ | refine X.pass_exit ?_ | refine X.block_normal ?_ | refine X.block_ret ?_ | refine X.block_exit ?_ | refine C.goto ?_ | refine C.label ?_ | refine X.pass_goto ?_ | refine X.block_goto ?_ | refine X.jump_ret ?_ | refine X.jump_normal ?_ | refine X.jump_exit ?_ | refine C.zt ?_ | refine C.zf ?_ | refine X.zo ?_)
  refine C.draw [[], [0], [0, 1], [0, 1, 2], [], [4], [4, 5], [4, 5, 6], [], [8], [8, 9], [8, 9, 10], [], [8, 9, 10, 11, 12], [0, 1, 2, 3, 4, 5, 6, 7, 8, 9, 10, 11, 12, 13], [0, 1, 2, 3, 4, 5, 6, 7, 8, 9, 10, 11, 12, 13, 14], []] [] (by kernel_rfl) (by kernel_rfl) ?_
  repeat (first | refine C.seq ?_ | refine C.region ?_ | refine R.zb ttok ?_ | refine R.zu ttok ?_ | refine R.zc ttok ?_ | refine R.za ttok ?_ | refine R.zx ?_ | refine R.zl ttok ?_ | refine R.zs ttok ?_ | refine R.z ttok ?_ | refine R.zk ?_ | refine R.zn ?_ | refine R.done ?_ | refine X.then ?_ | refine C.block ?_ | refine C.ret ?_ | refine C.skip ?_ | refine C.exit ?_ | refine X.pass_ret ?_ | refine X.pass_exit ?_ | refine X.block_normal ?_ | refine X.block_ret ?_ | refine X.block_exit ?_ | refine C.goto ?_ | refine C.label ?_ | refine X.pass_goto ?_ | refine X.block_goto ?_ | refine X.jump_ret ?_ | refine X.jump_normal ?_ | refine X.jump_exit ?_ | refine C.zt ?_ | refine C.zf ?_ | refine X.zo ?_)
  refine R.sl ttok at_ (at_ + k) rfl rfl rfl rfl rfl rfl rfl ⟨_, _, rfl, by omega⟩ ⟨_, _, rfl, by omega⟩ (by omega) (by omega) fun o' ho' => ?_
  rw [Nat.add_sub_cancel_left]
  repeat (first | refine C.seq ?_ | refine C.region ?_ | refine R.zb ttok ?_ | refine R.zu ttok ?_ | refine R.zc ttok ?_ | refine R.za ttok ?_ | refine R.zx ?_ | refine R.zl ttok ?_ | refine R.zs ttok ?_ | refine R.z ttok ?_ | refine R.zk ?_ | refine R.zn ?_ | refine R.done ?_ | refine X.then ?_ | refine C.block ?_ | refine C.ret ?_ | refine C.skip ?_ | refine C.exit ?_ | refine X.pass_ret ?_ | refine X.pass_exit ?_ | refine X.block_normal ?_ | refine X.block_ret ?_ | refine X.block_exit ?_ | refine C.goto ?_ | refine C.label ?_ | refine X.pass_goto ?_ | refine X.block_goto ?_ | refine X.jump_ret ?_ | refine X.jump_normal ?_ | refine X.jump_exit ?_ | refine C.zt ?_ | refine C.zf ?_ | refine X.zo ?_)
  refine C.loop (σ := Nat) (L2 := 2) (fun i => i ≤ k) (fun i => [(0, .ptr 0 0 0 0), (1, .raw (.int .i64 k)), (48, .sl 1 1 o' k (c - at_)), (49, .raw (.int .i64 k)), (50, .raw (.int .i64 i)), (5, .raw (.int .u64 (leV ((B.drop at_).take i))))])
    (fun i => [(0, rdO B c at_ 0), (1, roB B)]) _ (fun i => k - i) [] 0 (Nat.zero_le _) rfl ?_ ?_ rfl (fun _ h => h) ?_
  · exact .cons rfl rfl rfl (.cons rfl rfl rfl (.cons rfl rfl rfl (.cons rfl rfl rfl (.cons rfl rfl rfl (.cons rfl rfl rfl .nil)))))
  · exact .same rfl rfl rfl rfl (.same rfl rfl rfl (fun _ _ => rfl) .nil)
  intro i hi
  dsimp only at hi ⊢
  repeat (first | refine C.seq ?_ | refine C.region ?_ | refine R.zb ttok ?_ | refine R.zu ttok ?_ | refine R.zc ttok ?_ | refine R.za ttok ?_ | refine R.zx ?_ | refine R.zl ttok ?_ | refine R.zs ttok ?_ | refine R.z ttok ?_ | refine R.zk ?_ | refine R.zn ?_ | refine R.done ?_ | refine X.then ?_ | refine C.block ?_ | refine C.ret ?_ | refine C.skip ?_ | refine C.exit ?_ | refine X.pass_ret ?_ | refine X.pass_exit ?_ | refine X.block_normal ?_ | refine X.block_ret ?_ | refine X.block_exit ?_ | refine C.goto ?_ | refine C.label ?_ | refine X.pass_goto ?_ | refine X.block_goto ?_ | refine X.jump_ret ?_ | refine X.jump_normal ?_ | refine X.jump_exit ?_ | refine C.zt ?_ | refine C.zf ?_ | refine X.zo ?_)
  refine C.dec rfl (fun hlt => ?_) (fun hge => ?_)
  · have hlt : i < k := by omega
    obtain rfl : o' = 0 + at_ := by omega
    obtain ⟨x, hx⟩ : ∃ x, B.getD (at_ + i) 0 = x := ⟨_, rfl⟩
    have hxl := x.toNat_lt
    have htl : ((B.drop at_).take i).length = i := by rw [List.length_take, List.length_drop]; omega
    have hstep : leV ((B.drop at_).take (i + 1)) = leV ((B.drop at_).take i) + x.toNat * 2 ^ (8 * i) := by
      have e1 : (B.drop at_)[i]? = some x := by
        rw [List.getElem?_drop, ← hx]
        simp [List.getD, show at_ + i < B.length by omega]
      rw [List.take_add_one, e1, leV_append, htl, show (256 : Nat) ^ i = 2 ^ (8 * i) by rw [Nat.pow_mul]]
      simp [leV, Nat.mul_comm]
    have hlv := leV_lt ((B.drop at_).take i)
    have hlv2 := leV_lt ((B.drop at_).take (i + 1))
    rw [htl, show (256 : Nat) ^ i = 2 ^ (8 * i) by rw [Nat.pow_mul]] at hlv
    have hmax : leV ((B.drop at_).take (i + 1)) < 18446744073709551616 := by
      refine Nat.lt_of_lt_of_le hlv2 ?_
      have := Nat.pow_le_pow_right (show 0 < 256 by omega) (show ((B.drop at_).take (i + 1)).length ≤ 8 by rw [List.length_take]; omega)
      exact Nat.le_trans this (by decide)
    repeat (first | refine C.seq ?_ | refine C.region ?_ | refine R.zb ttok ?_ | refine R.zu ttok ?_ | refine R.zc ttok ?_ | refine R.za ttok ?_ | refine R.zx ?_ | refine R.zl ttok ?_ | refine R.zs ttok ?_ | refine R.z ttok ?_ | refine R.zk ?_ | refine R.zn ?_ | refine R.done ?_ | refine X.then ?_ | refine C.block ?_ | refine C.ret ?_ | refine C.skip ?_ | refine C.exit ?_ | refine X.pass_ret ?_ | refine X.pass_exit ?_ | refine X.block_normal ?_ | refine X.block_ret ?_ | refine X.block_exit ?_ | refine C.goto ?_ | refine C.label ?_ | refine X.pass_goto ?_ | refine X.block_goto ?_ | refine X.jump_ret ?_ | refine X.jump_normal ?_ | refine X.jump_exit ?_ | refine C.zt ?_ | refine C.zf ?_ | refine X.zo ?_)
    refine R.ix ttok i rfl rfl rfl rfl rfl rfl rfl hlt (⟨Nat.zero_le _, by omega⟩ : 0 ≤ 0 + at_ + i ∧ 0 + at_ + i < 0 + B.length) rfl ?_
    refine R.ldoj ttok (at_ + i) rfl rfl rfl rfl rfl rfl (by omega) (by omega) ?_
    rw [hx]
    repeat (first | refine C.seq ?_ | refine C.region ?_ | refine R.zb ttok ?_ | refine R.zu ttok ?_ | refine R.zc ttok ?_ | refine R.za ttok ?_ | refine R.zx ?_ | refine R.zl ttok ?_ | refine R.zs ttok ?_ | refine R.z ttok ?_ | refine R.zk ?_ | refine R.zn ?_ | refine R.done ?_ | refine X.then ?_ | refine C.block ?_ | refine C.ret ?_ | refine C.skip ?_ | refine C.exit ?_ | refine X.pass_ret ?_ | refine X.pass_exit ?_ | refine X.block_normal ?_ | refine X.block_ret ?_ | refine X.block_exit ?_ | refine C.goto ?_ | refine C.label ?_ | refine X.pass_goto ?_ | refine X.block_goto ?_ | refine X.jump_ret ?_ | refine X.jump_normal ?_ | refine X.jump_exit ?_ | refine C.zt ?_ | refine C.zf ?_ | refine X.zo ?_)
    refine R.shl ((x.toNat * 2 ^ (8 * i) : Nat) : Int) rfl rfl rfl rfl (by omega) ?_ ?_
    · rw [show (8 : Int) * (i : Int) = ((8 * i : Nat) : Int) by omega]
      exact shl_gen (by omega) (by omega)
    refine R.v ttok _ rfl (congrArg (Value.int .u64) (or_gen hlv (by omega))) rfl rfl ?_
    rw [← hstep]
    repeat (first | refine C.seq ?_ | refine C.region ?_ | refine R.zb ttok ?_ | refine R.zu ttok ?_ | refine R.zc ttok ?_ | refine R.za ttok ?_ | refine R.zx ?_ | refine R.zl ttok ?_ | refine R.zs ttok ?_ | refine R.z ttok ?_ | refine R.zk ?_ | refine R.zn ?_ | refine R.done ?_ | refine X.then ?_ | refine C.block ?_ | refine C.ret ?_ | refine C.skip ?_ | refine C.exit ?_ | refine X.pass_ret ?_ | refine X.pass_exit ?_ | refine X.block_normal ?_ | refine X.block_ret ?_ | refine X.block_exit ?_ | refine C.goto ?_ | refine C.label ?_ | refine X.pass_goto ?_ | refine X.block_goto ?_ | refine X.jump_ret ?_ | refine X.jump_normal ?_ | refine X.jump_exit ?_ | refine C.zt ?_ | refine C.zf ?_ | refine X.zo ?_)
    refine X.back [] (i + 1) (by show i + 1 ≤ k; omega) (by show k - (i + 1) < k - i; omega) rfl ?_ ?_ rfl (fun _ h => h)
    · exact .cons rfl rfl rfl (.cons rfl rfl rfl (.cons rfl rfl rfl (.cons rfl rfl rfl (.cons rfl rfl rfl (.cons rfl rfl rfl .nil)))))
    · exact .same rfl rfl rfl rfl (.same rfl rfl rfl (fun _ _ => rfl) .nil)
  · obtain rfl : i = k := by omega
    repeat (first | refine C.seq ?_ | refine C.region ?_ | refine R.zb ttok ?_ | refine R.zu ttok ?_ | refine R.zc ttok ?_ | refine R.za ttok ?_ | refine R.zx ?_ | refine R.zl ttok ?_ | refine R.zs ttok ?_ | refine R.z ttok ?_ | refine R.zk ?_ | refine R.zn ?_ | refine R.done ?_ | refine X.then ?_ | refine C.block ?_ | refine C.ret ?_ | refine C.skip ?_ | refine C.exit ?_ | refine X.pass_ret ?_ | refine X.pass_exit ?_ | refine X.block_normal ?_ | refine X.block_ret ?_ | refine X.block_exit ?_ | refine C.goto ?_ | refine C.label ?_ | refine X.pass_goto ?_ | refine X.block_goto ?_ | refine X.jump_ret ?_ | refine X.jump_normal ?_ | refine X.jump_exit ?_ | refine C.zt ?_ | refine C.zf ?_ | refine X.zo ?_)
    refine X.fin ttok () [] trivial rfl rfl rfl ?_ _ (.inl rfl)
    exact .same rfl rfl rfl rfl .nil
end Go.Proofs.Ytchbncbojfiiiaa
