/- octet: the document's Reader, numbers and texts -/
import Derived.Test.YtchbncbojfiiiaaOA
namespace Go.Proofs.Ytchbncbojfiiiaa
set_option linter.unusedVariables false
set_option linter.unusedSimpArgs false
open Go.RowKit
set_option maxRecDepth 100000
set_option maxHeartbeats 4000000
theorem refRow_rd (B : List UInt8) (at_ most last : Nat) : refRow B at_ most last = ((rdRow B at_ 0 most last).1, if (rdRow B at_ 0 most last).2.2 = 0 then (rdRow B at_ 0 most last).2.1 else 0, (rdRow B at_ 0 most last).2.2) := by
  have e : rdRow B at_ 0 most last = ((rowA most last 0 0 (B.drop at_)).2.1, at_ + (rowA most last 0 0 (B.drop at_)).2.2, (rowA most last 0 0 (B.drop at_)).1) := if_neg (by simp)
  have h := rowA_err (most := most) (last := last) (B.drop at_) 0 0
  rw [e]
  unfold refRow
  by_cases hx : (rowA most last 0 0 (B.drop at_)).1 = 0
  · simp only [hx, if_true]
  · simp only [hx, if_false]
    rw [h hx]
theorem stF_no (st at_ : Nat) {e : Int} (h : e ≠ 0) (x : Int) : stF st at_ e x = st := if_pos h
theorem stF_new (st at_ : Nat) {x : Int} (h : x ≠ 0) : stF st at_ 0 x = at_ := (if_neg (by simp)).trans (if_pos h)
theorem stF_ok (st at_ : Nat) : stF st at_ 0 0 = st := (if_neg (by simp)).trans (if_neg (by simp))
theorem qnumber_spec (off : Nat) (B : List UInt8) (c at_ st : Nat) (e : Int) (hat : at_ ≤ B.length) (hB : B.length ≤ 1000000000000) : Spec Try.prog 47 [refR 0 off B c at_ e st] [roBo off B] 1 (σ := Unit) (fun _ => True)
    (fun _ => .tup [.raw (.int .i64 (rdRow B at_ e 9 127).1), refR 0 off B c (rdRow B at_ e 9 127).2.1 (rdRow B at_ e 9 127).2.2 (stF st at_ e (rdRow B at_ e 9 127).2.2)]) (fun _ => []) := by
  refine Spec.of Try.func47 rfl Try.ntmps47 rfl (by simp [AO.Bd, bytesF, AV.bds, AV.bd]) fun ρ w => ?_
  repeat (first
    | refine C.seq ?_
    | refine C.region ?_
    | refine R.nr ttok rfl (by first | exact Nrm.w (wrap_i64 (by omega) (by omega)) | exact Nrm.w (wrap_u64 (by omega) (by omega)) | exact Nrm.w (wrap_u8 (by omega) (by omega)) | exact Nrm.refl _) rfl (by kernel_rfl) ?_
    | refine R.k rfl rfl ?_
    | refine R.k0 rfl ?_
    | refine R.a ttok rfl rfl (by kernel_rfl) ?_
    | refine R.b rfl rfl rfl (by kernel_rfl) ?_
    | refine R.li ttok rfl rfl rfl rfl rfl rfl (by kernel_rfl) ?_
    | refine R.st ttok rfl rfl rfl rfl rfl rfl rfl (by kernel_rfl) ?_
    | refine R.done ?_
    | refine X.then ?_
    | refine C.block ?_
    | refine C.ret ?_
    | refine C.skip ?_
    | refine C.exit ?_
    | refine X.pass_ret ?_
    | refine X.pass_exit ?_
    | refine X.block_normal ?_
    | refine X.block_ret ?_
    | refine X.block_exit ?_
    | refine X.block_other rfl ?_
    | refine C.goto ?_
    | refine C.label ?_
    | refine X.pass_goto ?_
    | refine X.block_goto ?_
    | refine X.jump_ret ?_
    | refine X.jump_normal ?_
    | refine X.jump_exit ?_
    | refine C.tru rfl ?_
    | refine C.fls rfl ?_)
  refine C.dec rfl (fun hne => ?_) (fun he => ?_)
  · rw [show rdRow B at_ e 9 127 = (0, at_, e) from if_pos hne, stF_no st at_ hne]
    repeat (first
    | refine C.seq ?_
    | refine C.region ?_
    | refine R.nr ttok rfl (by first | exact Nrm.w (wrap_i64 (by omega) (by omega)) | exact Nrm.w (wrap_u64 (by omega) (by omega)) | exact Nrm.w (wrap_u8 (by omega) (by omega)) | exact Nrm.refl _) rfl (by kernel_rfl) ?_
    | refine R.k rfl rfl ?_
    | refine R.k0 rfl ?_
    | refine R.a ttok rfl rfl (by kernel_rfl) ?_
    | refine R.b rfl rfl rfl (by kernel_rfl) ?_
    | refine R.li ttok rfl rfl rfl rfl rfl rfl (by kernel_rfl) ?_
    | refine R.st ttok rfl rfl rfl rfl rfl rfl rfl (by kernel_rfl) ?_
    | refine R.done ?_
    | refine X.then ?_
    | refine C.block ?_
    | refine C.ret ?_
    | refine C.skip ?_
    | refine C.exit ?_
    | refine X.pass_ret ?_
    | refine X.pass_exit ?_
    | refine X.block_normal ?_
    | refine X.block_ret ?_
    | refine X.block_exit ?_
    | refine X.block_other rfl ?_
    | refine C.goto ?_
    | refine C.label ?_
    | refine X.pass_goto ?_
    | refine X.block_goto ?_
    | refine X.jump_ret ?_
    | refine X.jump_normal ?_
    | refine X.jump_exit ?_
    | refine C.tru rfl ?_
    | refine C.fls rfl ?_)
    refine C.draw [[], [], [0, 1]] [2] (by kernel_rfl) (by kernel_rfl) ?_
    repeat (first
    | refine C.seq ?_
    | refine C.region ?_
    | refine R.nr ttok rfl (by first | exact Nrm.w (wrap_i64 (by omega) (by omega)) | exact Nrm.w (wrap_u64 (by omega) (by omega)) | exact Nrm.w (wrap_u8 (by omega) (by omega)) | exact Nrm.refl _) rfl (by kernel_rfl) ?_
    | refine R.k rfl rfl ?_
    | refine R.k0 rfl ?_
    | refine R.a ttok rfl rfl (by kernel_rfl) ?_
    | refine R.b rfl rfl rfl (by kernel_rfl) ?_
    | refine R.li ttok rfl rfl rfl rfl rfl rfl (by kernel_rfl) ?_
    | refine R.st ttok rfl rfl rfl rfl rfl rfl rfl (by kernel_rfl) ?_
    | refine R.done ?_
    | refine X.then ?_
    | refine C.block ?_
    | refine C.ret ?_
    | refine C.skip ?_
    | refine C.exit ?_
    | refine X.pass_ret ?_
    | refine X.pass_exit ?_
    | refine X.block_normal ?_
    | refine X.block_ret ?_
    | refine X.block_exit ?_
    | refine X.block_other rfl ?_
    | refine C.goto ?_
    | refine C.label ?_
    | refine X.pass_goto ?_
    | refine X.block_goto ?_
    | refine X.jump_ret ?_
    | refine X.jump_normal ?_
    | refine X.jump_exit ?_
    | refine C.tru rfl ?_
    | refine C.fls rfl ?_)
    exact X.fin ttok () [] trivial rfl rfl rfl .nil _ (.inl rfl)
  obtain rfl : e = 0 := Decidable.not_not.1 he
  have hb := (rdRow_ok B at_ 0 (most := 9) (last := 127) hat (by omega) (by omega)).1
  have hre := fun h => rdRow_err B at_ (most := 9) (last := 127) h
  rw [pow128_9] at hb
  repeat (first
    | refine C.seq ?_
    | refine C.region ?_
    | refine R.nr ttok rfl (by first | exact Nrm.w (wrap_i64 (by omega) (by omega)) | exact Nrm.w (wrap_u64 (by omega) (by omega)) | exact Nrm.w (wrap_u8 (by omega) (by omega)) | exact Nrm.refl _) rfl (by kernel_rfl) ?_
    | refine R.k rfl rfl ?_
    | refine R.k0 rfl ?_
    | refine R.a ttok rfl rfl (by kernel_rfl) ?_
    | refine R.b rfl rfl rfl (by kernel_rfl) ?_
    | refine R.li ttok rfl rfl rfl rfl rfl rfl (by kernel_rfl) ?_
    | refine R.st ttok rfl rfl rfl rfl rfl rfl rfl (by kernel_rfl) ?_
    | refine R.done ?_
    | refine X.then ?_
    | refine C.block ?_
    | refine C.ret ?_
    | refine C.skip ?_
    | refine C.exit ?_
    | refine X.pass_ret ?_
    | refine X.pass_exit ?_
    | refine X.block_normal ?_
    | refine X.block_ret ?_
    | refine X.block_exit ?_
    | refine X.block_other rfl ?_
    | refine C.goto ?_
    | refine C.label ?_
    | refine X.pass_goto ?_
    | refine X.block_goto ?_
    | refine X.jump_ret ?_
    | refine X.jump_normal ?_
    | refine X.jump_exit ?_
    | refine C.tru rfl ?_
    | refine C.fls rfl ?_)
  refine R.cl [0] (qrow_spec off B c at_ st 0 9 127 hat hB (by omega) (by omega) (by omega) (by omega)) Try.call61 (.same rfl rfl .nil) rfl rfl rfl (fun _ => rfl) rfl rfl fun _ _ => ?_
  rw [refRow_rd]
  generalize rdRow B at_ 0 9 127 = R at hb hre ⊢
  obtain ⟨v, k, x⟩ := R
  dsimp only at hb hre ⊢
  by_cases hx : x = 0
  · subst hx
    rw [if_pos rfl, stF_ok]
    repeat (first
    | refine C.seq ?_
    | refine C.region ?_
    | refine R.nr ttok rfl (by first | exact Nrm.w (wrap_i64 (by omega) (by omega)) | exact Nrm.w (wrap_u64 (by omega) (by omega)) | exact Nrm.w (wrap_u8 (by omega) (by omega)) | exact Nrm.refl _) rfl (by kernel_rfl) ?_
    | refine R.k rfl rfl ?_
    | refine R.k0 rfl ?_
    | refine R.a ttok rfl rfl (by kernel_rfl) ?_
    | refine R.b rfl rfl rfl (by kernel_rfl) ?_
    | refine R.li ttok rfl rfl rfl rfl rfl rfl (by kernel_rfl) ?_
    | refine R.st ttok rfl rfl rfl rfl rfl rfl rfl (by kernel_rfl) ?_
    | refine R.done ?_
    | refine X.then ?_
    | refine C.block ?_
    | refine C.ret ?_
    | refine C.skip ?_
    | refine C.exit ?_
    | refine X.pass_ret ?_
    | refine X.pass_exit ?_
    | refine X.block_normal ?_
    | refine X.block_ret ?_
    | refine X.block_exit ?_
    | refine X.block_other rfl ?_
    | refine C.goto ?_
    | refine C.label ?_
    | refine X.pass_goto ?_
    | refine X.block_goto ?_
    | refine X.jump_ret ?_
    | refine X.jump_normal ?_
    | refine X.jump_exit ?_
    | refine C.tru rfl ?_
    | refine C.fls rfl ?_)
    refine C.draw [[], [0], [], [0, 1], [0, 1, 2, 3]] [4] (by kernel_rfl) (by kernel_rfl) ?_
    repeat (first
    | refine C.seq ?_
    | refine C.region ?_
    | refine R.nr ttok rfl (by first | exact Nrm.w (wrap_i64 (by omega) (by omega)) | exact Nrm.w (wrap_u64 (by omega) (by omega)) | exact Nrm.w (wrap_u8 (by omega) (by omega)) | exact Nrm.refl _) rfl (by kernel_rfl) ?_
    | refine R.k rfl rfl ?_
    | refine R.k0 rfl ?_
    | refine R.a ttok rfl rfl (by kernel_rfl) ?_
    | refine R.b rfl rfl rfl (by kernel_rfl) ?_
    | refine R.li ttok rfl rfl rfl rfl rfl rfl (by kernel_rfl) ?_
    | refine R.st ttok rfl rfl rfl rfl rfl rfl rfl (by kernel_rfl) ?_
    | refine R.done ?_
    | refine X.then ?_
    | refine C.block ?_
    | refine C.ret ?_
    | refine C.skip ?_
    | refine C.exit ?_
    | refine X.pass_ret ?_
    | refine X.pass_exit ?_
    | refine X.block_normal ?_
    | refine X.block_ret ?_
    | refine X.block_exit ?_
    | refine X.block_other rfl ?_
    | refine C.goto ?_
    | refine C.label ?_
    | refine X.pass_goto ?_
    | refine X.block_goto ?_
    | refine X.jump_ret ?_
    | refine X.jump_normal ?_
    | refine X.jump_exit ?_
    | refine C.tru rfl ?_
    | refine C.fls rfl ?_)
    exact X.fin ttok () [] trivial rfl rfl rfl .nil _ (.inl rfl)
  · obtain ⟨rfl, rfl⟩ := hre hx
    rw [if_neg hx, stF_new _ _ hx]
    repeat (first
    | refine C.seq ?_
    | refine C.region ?_
    | refine R.nr ttok rfl (by first | exact Nrm.w (wrap_i64 (by omega) (by omega)) | exact Nrm.w (wrap_u64 (by omega) (by omega)) | exact Nrm.w (wrap_u8 (by omega) (by omega)) | exact Nrm.refl _) rfl (by kernel_rfl) ?_
    | refine R.k rfl rfl ?_
    | refine R.k0 rfl ?_
    | refine R.a ttok rfl rfl (by kernel_rfl) ?_
    | refine R.b rfl rfl rfl (by kernel_rfl) ?_
    | refine R.li ttok rfl rfl rfl rfl rfl rfl (by kernel_rfl) ?_
    | refine R.st ttok rfl rfl rfl rfl rfl rfl rfl (by kernel_rfl) ?_
    | refine R.done ?_
    | refine X.then ?_
    | refine C.block ?_
    | refine C.ret ?_
    | refine C.skip ?_
    | refine C.exit ?_
    | refine X.pass_ret ?_
    | refine X.pass_exit ?_
    | refine X.block_normal ?_
    | refine X.block_ret ?_
    | refine X.block_exit ?_
    | refine X.block_other rfl ?_
    | refine C.goto ?_
    | refine C.label ?_
    | refine X.pass_goto ?_
    | refine X.block_goto ?_
    | refine X.jump_ret ?_
    | refine X.jump_normal ?_
    | refine X.jump_exit ?_
    | refine C.tru rfl ?_
    | refine C.fls rfl ?_)
    refine C.yes rfl (decide_eq_true hx) ?_
    repeat (first
    | refine C.seq ?_
    | refine C.region ?_
    | refine R.nr ttok rfl (by first | exact Nrm.w (wrap_i64 (by omega) (by omega)) | exact Nrm.w (wrap_u64 (by omega) (by omega)) | exact Nrm.w (wrap_u8 (by omega) (by omega)) | exact Nrm.refl _) rfl (by kernel_rfl) ?_
    | refine R.k rfl rfl ?_
    | refine R.k0 rfl ?_
    | refine R.a ttok rfl rfl (by kernel_rfl) ?_
    | refine R.b rfl rfl rfl (by kernel_rfl) ?_
    | refine R.li ttok rfl rfl rfl rfl rfl rfl (by kernel_rfl) ?_
    | refine R.st ttok rfl rfl rfl rfl rfl rfl rfl (by kernel_rfl) ?_
    | refine R.done ?_
    | refine X.then ?_
    | refine C.block ?_
    | refine C.ret ?_
    | refine C.skip ?_
    | refine C.exit ?_
    | refine X.pass_ret ?_
    | refine X.pass_exit ?_
    | refine X.block_normal ?_
    | refine X.block_ret ?_
    | refine X.block_exit ?_
    | refine X.block_other rfl ?_
    | refine C.goto ?_
    | refine C.label ?_
    | refine X.pass_goto ?_
    | refine X.block_goto ?_
    | refine X.jump_ret ?_
    | refine X.jump_normal ?_
    | refine X.jump_exit ?_
    | refine C.tru rfl ?_
    | refine C.fls rfl ?_)
    refine R.cl [0] (qends_spec off B c k st 0 x) Try.call60 (.same rfl rfl .nil) rfl rfl rfl (fun _ => rfl) rfl rfl fun _ _ => ?_
    repeat (first
    | refine C.seq ?_
    | refine C.region ?_
    | refine R.nr ttok rfl (by first | exact Nrm.w (wrap_i64 (by omega) (by omega)) | exact Nrm.w (wrap_u64 (by omega) (by omega)) | exact Nrm.w (wrap_u8 (by omega) (by omega)) | exact Nrm.refl _) rfl (by kernel_rfl) ?_
    | refine R.k rfl rfl ?_
    | refine R.k0 rfl ?_
    | refine R.a ttok rfl rfl (by kernel_rfl) ?_
    | refine R.b rfl rfl rfl (by kernel_rfl) ?_
    | refine R.li ttok rfl rfl rfl rfl rfl rfl (by kernel_rfl) ?_
    | refine R.st ttok rfl rfl rfl rfl rfl rfl rfl (by kernel_rfl) ?_
    | refine R.done ?_
    | refine X.then ?_
    | refine C.block ?_
    | refine C.ret ?_
    | refine C.skip ?_
    | refine C.exit ?_
    | refine X.pass_ret ?_
    | refine X.pass_exit ?_
    | refine X.block_normal ?_
    | refine X.block_ret ?_
    | refine X.block_exit ?_
    | refine X.block_other rfl ?_
    | refine C.goto ?_
    | refine C.label ?_
    | refine X.pass_goto ?_
    | refine X.block_goto ?_
    | refine X.jump_ret ?_
    | refine X.jump_normal ?_
    | refine X.jump_exit ?_
    | refine C.tru rfl ?_
    | refine C.fls rfl ?_)
    exact X.fin ttok () [] trivial rfl rfl rfl .nil _ (.inl rfl)
theorem rem2 (x : Nat) : (x : Int).tmod 2 = ((x % 2 : Nat) : Int) := by
  rw [Int.tmod_eq_emod_of_nonneg (by omega)]; omega
theorem quo2 {x : Nat} (h : x < 18446744073709551616) : IntKind.wrap .u64 ((x : Int).tdiv 2) = ((x / 2 : Nat) : Int) := by
  rw [Int.tdiv_eq_ediv_of_nonneg (by omega)]
  have : (x : Int) / 2 = ((x / 2 : Nat) : Int) := by omega
  rw [this, wrap_u64 (by omega) (by omega)]
theorem unzig_even {u : Nat} (h : u % 2 = 0) : unzig u = ((u / 2 : Nat) : Int) := if_pos h
theorem unzig_odd {u : Nat} (h : u % 2 ≠ 0) : unzig u = 0 - ((u / 2 : Nat) : Int) - 1 := (if_neg h).trans (by omega)
theorem qint_spec (off : Nat) (B : List UInt8) (c at_ st : Nat) (e : Int) (hat : at_ ≤ B.length) (hB : B.length ≤ 1000000000000) : Spec Try.prog 48 [refR 0 off B c at_ e st] [roBo off B] 1 (σ := Unit) (fun _ => True)
    (fun _ => .tup [.raw (.int .i64 (unzig (rdRow B at_ e 10 1).1)), refR 0 off B c (rdRow B at_ e 10 1).2.1 (rdRow B at_ e 10 1).2.2 (stF st at_ e (rdRow B at_ e 10 1).2.2)]) (fun _ => []) := by
  refine Spec.of Try.func48 rfl Try.ntmps48 rfl (by simp [AO.Bd, bytesF, AV.bds, AV.bd]) fun ρ w => ?_
  repeat (first
    | refine C.seq ?_
    | refine C.region ?_
    | refine R.nr ttok rfl (by first | exact Nrm.w (wrap_i64 (by omega) (by omega)) | exact Nrm.w (wrap_u64 (by omega) (by omega)) | exact Nrm.w (wrap_u8 (by omega) (by omega)) | exact Nrm.refl _) rfl (by kernel_rfl) ?_
    | refine R.k rfl rfl ?_
    | refine R.k0 rfl ?_
    | refine R.a ttok rfl rfl (by kernel_rfl) ?_
    | refine R.b rfl rfl rfl (by kernel_rfl) ?_
    | refine R.li ttok rfl rfl rfl rfl rfl rfl (by kernel_rfl) ?_
    | refine R.st ttok rfl rfl rfl rfl rfl rfl rfl (by kernel_rfl) ?_
    | refine R.done ?_
    | refine X.then ?_
    | refine C.block ?_
    | refine C.ret ?_
    | refine C.skip ?_
    | refine C.exit ?_
    | refine X.pass_ret ?_
    | refine X.pass_exit ?_
    | refine X.block_normal ?_
    | refine X.block_ret ?_
    | refine X.block_exit ?_
    | refine X.block_other rfl ?_
    | refine C.goto ?_
    | refine C.label ?_
    | refine X.pass_goto ?_
    | refine X.block_goto ?_
    | refine X.jump_ret ?_
    | refine X.jump_normal ?_
    | refine X.jump_exit ?_
    | refine C.tru rfl ?_
    | refine C.fls rfl ?_)
  refine C.dec rfl (fun hne => ?_) (fun he => ?_)
  · rw [show rdRow B at_ e 10 1 = (0, at_, e) from if_pos hne, stF_no st at_ hne, show unzig (0, at_, e).1 = 0 by simp [unzig]]
    repeat (first
    | refine C.seq ?_
    | refine C.region ?_
    | refine R.nr ttok rfl (by first | exact Nrm.w (wrap_i64 (by omega) (by omega)) | exact Nrm.w (wrap_u64 (by omega) (by omega)) | exact Nrm.w (wrap_u8 (by omega) (by omega)) | exact Nrm.refl _) rfl (by kernel_rfl) ?_
    | refine R.k rfl rfl ?_
    | refine R.k0 rfl ?_
    | refine R.a ttok rfl rfl (by kernel_rfl) ?_
    | refine R.b rfl rfl rfl (by kernel_rfl) ?_
    | refine R.li ttok rfl rfl rfl rfl rfl rfl (by kernel_rfl) ?_
    | refine R.st ttok rfl rfl rfl rfl rfl rfl rfl (by kernel_rfl) ?_
    | refine R.done ?_
    | refine X.then ?_
    | refine C.block ?_
    | refine C.ret ?_
    | refine C.skip ?_
    | refine C.exit ?_
    | refine X.pass_ret ?_
    | refine X.pass_exit ?_
    | refine X.block_normal ?_
    | refine X.block_ret ?_
    | refine X.block_exit ?_
    | refine X.block_other rfl ?_
    | refine C.goto ?_
    | refine C.label ?_
    | refine X.pass_goto ?_
    | refine X.block_goto ?_
    | refine X.jump_ret ?_
    | refine X.jump_normal ?_
    | refine X.jump_exit ?_
    | refine C.tru rfl ?_
    | refine C.fls rfl ?_)
    refine C.draw [[], [], [0, 1]] [2] (by kernel_rfl) (by kernel_rfl) ?_
    repeat (first
    | refine C.seq ?_
    | refine C.region ?_
    | refine R.nr ttok rfl (by first | exact Nrm.w (wrap_i64 (by omega) (by omega)) | exact Nrm.w (wrap_u64 (by omega) (by omega)) | exact Nrm.w (wrap_u8 (by omega) (by omega)) | exact Nrm.refl _) rfl (by kernel_rfl) ?_
    | refine R.k rfl rfl ?_
    | refine R.k0 rfl ?_
    | refine R.a ttok rfl rfl (by kernel_rfl) ?_
    | refine R.b rfl rfl rfl (by kernel_rfl) ?_
    | refine R.li ttok rfl rfl rfl rfl rfl rfl (by kernel_rfl) ?_
    | refine R.st ttok rfl rfl rfl rfl rfl rfl rfl (by kernel_rfl) ?_
    | refine R.done ?_
    | refine X.then ?_
    | refine C.block ?_
    | refine C.ret ?_
    | refine C.skip ?_
    | refine C.exit ?_
    | refine X.pass_ret ?_
    | refine X.pass_exit ?_
    | refine X.block_normal ?_
    | refine X.block_ret ?_
    | refine X.block_exit ?_
    | refine X.block_other rfl ?_
    | refine C.goto ?_
    | refine C.label ?_
    | refine X.pass_goto ?_
    | refine X.block_goto ?_
    | refine X.jump_ret ?_
    | refine X.jump_normal ?_
    | refine X.jump_exit ?_
    | refine C.tru rfl ?_
    | refine C.fls rfl ?_)
    exact X.fin ttok () [] trivial rfl rfl rfl .nil _ (.inl rfl)
  obtain rfl : e = 0 := Decidable.not_not.1 he
  have hb := rdRow_lt64 B at_ 0
  have hre := fun h => rdRow_err B at_ (most := 10) (last := 1) h
  repeat (first
    | refine C.seq ?_
    | refine C.region ?_
    | refine R.nr ttok rfl (by first | exact Nrm.w (wrap_i64 (by omega) (by omega)) | exact Nrm.w (wrap_u64 (by omega) (by omega)) | exact Nrm.w (wrap_u8 (by omega) (by omega)) | exact Nrm.refl _) rfl (by kernel_rfl) ?_
    | refine R.k rfl rfl ?_
    | refine R.k0 rfl ?_
    | refine R.a ttok rfl rfl (by kernel_rfl) ?_
    | refine R.b rfl rfl rfl (by kernel_rfl) ?_
    | refine R.li ttok rfl rfl rfl rfl rfl rfl (by kernel_rfl) ?_
    | refine R.st ttok rfl rfl rfl rfl rfl rfl rfl (by kernel_rfl) ?_
    | refine R.done ?_
    | refine X.then ?_
    | refine C.block ?_
    | refine C.ret ?_
    | refine C.skip ?_
    | refine C.exit ?_
    | refine X.pass_ret ?_
    | refine X.pass_exit ?_
    | refine X.block_normal ?_
    | refine X.block_ret ?_
    | refine X.block_exit ?_
    | refine X.block_other rfl ?_
    | refine C.goto ?_
    | refine C.label ?_
    | refine X.pass_goto ?_
    | refine X.block_goto ?_
    | refine X.jump_ret ?_
    | refine X.jump_normal ?_
    | refine X.jump_exit ?_
    | refine C.tru rfl ?_
    | refine C.fls rfl ?_)
  refine R.cl [0] (qrow_spec off B c at_ st 0 10 1 hat hB (by omega) (by omega) (by omega) (by omega)) Try.call61 (.same rfl rfl .nil) rfl rfl rfl (fun _ => rfl) rfl rfl fun _ _ => ?_
  rw [refRow_rd]
  generalize rdRow B at_ 0 10 1 = R at hb hre ⊢
  obtain ⟨v, k, x⟩ := R
  dsimp only at hb hre ⊢
  by_cases hx : x = 0
  · subst hx
    rw [if_pos rfl, stF_ok]
    repeat (first
    | refine C.seq ?_
    | refine C.region ?_
    | refine R.nr ttok rfl (by first | exact Nrm.w (wrap_i64 (by omega) (by omega)) | exact Nrm.w (wrap_u64 (by omega) (by omega)) | exact Nrm.w (wrap_u8 (by omega) (by omega)) | exact Nrm.refl _) rfl (by kernel_rfl) ?_
    | refine R.k rfl rfl ?_
    | refine R.k0 rfl ?_
    | refine R.a ttok rfl rfl (by kernel_rfl) ?_
    | refine R.b rfl rfl rfl (by kernel_rfl) ?_
    | refine R.li ttok rfl rfl rfl rfl rfl rfl (by kernel_rfl) ?_
    | refine R.st ttok rfl rfl rfl rfl rfl rfl rfl (by kernel_rfl) ?_
    | refine R.done ?_
    | refine X.then ?_
    | refine C.block ?_
    | refine C.ret ?_
    | refine C.skip ?_
    | refine C.exit ?_
    | refine X.pass_ret ?_
    | refine X.pass_exit ?_
    | refine X.block_normal ?_
    | refine X.block_ret ?_
    | refine X.block_exit ?_
    | refine X.block_other rfl ?_
    | refine C.goto ?_
    | refine C.label ?_
    | refine X.pass_goto ?_
    | refine X.block_goto ?_
    | refine X.jump_ret ?_
    | refine X.jump_normal ?_
    | refine X.jump_exit ?_
    | refine C.tru rfl ?_
    | refine C.fls rfl ?_)
    refine R.rem ((v % 2 : Nat) : Int) rfl rfl rfl rfl (by decide) (rem2 v) ?_
    repeat (first
    | refine C.seq ?_
    | refine C.region ?_
    | refine R.nr ttok rfl (by first | exact Nrm.w (wrap_i64 (by omega) (by omega)) | exact Nrm.w (wrap_u64 (by omega) (by omega)) | exact Nrm.w (wrap_u8 (by omega) (by omega)) | exact Nrm.refl _) rfl (by kernel_rfl) ?_
    | refine R.k rfl rfl ?_
    | refine R.k0 rfl ?_
    | refine R.a ttok rfl rfl (by kernel_rfl) ?_
    | refine R.b rfl rfl rfl (by kernel_rfl) ?_
    | refine R.li ttok rfl rfl rfl rfl rfl rfl (by kernel_rfl) ?_
    | refine R.st ttok rfl rfl rfl rfl rfl rfl rfl (by kernel_rfl) ?_
    | refine R.done ?_
    | refine X.then ?_
    | refine C.block ?_
    | refine C.ret ?_
    | refine C.skip ?_
    | refine C.exit ?_
    | refine X.pass_ret ?_
    | refine X.pass_exit ?_
    | refine X.block_normal ?_
    | refine X.block_ret ?_
    | refine X.block_exit ?_
    | refine X.block_other rfl ?_
    | refine C.goto ?_
    | refine C.label ?_
    | refine X.pass_goto ?_
    | refine X.block_goto ?_
    | refine X.jump_ret ?_
    | refine X.jump_normal ?_
    | refine X.jump_exit ?_
    | refine C.tru rfl ?_
    | refine C.fls rfl ?_)
    refine C.dec rfl (fun h2 => ?_) (fun h2 => ?_)
    · rw [unzig_even (by omega)]
      repeat (first
    | refine C.seq ?_
    | refine C.region ?_
    | refine R.nr ttok rfl (by first | exact Nrm.w (wrap_i64 (by omega) (by omega)) | exact Nrm.w (wrap_u64 (by omega) (by omega)) | exact Nrm.w (wrap_u8 (by omega) (by omega)) | exact Nrm.refl _) rfl (by kernel_rfl) ?_
    | refine R.k rfl rfl ?_
    | refine R.k0 rfl ?_
    | refine R.a ttok rfl rfl (by kernel_rfl) ?_
    | refine R.b rfl rfl rfl (by kernel_rfl) ?_
    | refine R.li ttok rfl rfl rfl rfl rfl rfl (by kernel_rfl) ?_
    | refine R.st ttok rfl rfl rfl rfl rfl rfl rfl (by kernel_rfl) ?_
    | refine R.done ?_
    | refine X.then ?_
    | refine C.block ?_
    | refine C.ret ?_
    | refine C.skip ?_
    | refine C.exit ?_
    | refine X.pass_ret ?_
    | refine X.pass_exit ?_
    | refine X.block_normal ?_
    | refine X.block_ret ?_
    | refine X.block_exit ?_
    | refine X.block_other rfl ?_
    | refine C.goto ?_
    | refine C.label ?_
    | refine X.pass_goto ?_
    | refine X.block_goto ?_
    | refine X.jump_ret ?_
    | refine X.jump_normal ?_
    | refine X.jump_exit ?_
    | refine C.tru rfl ?_
    | refine C.fls rfl ?_)
      refine C.draw [[], [0], [0, 1], [], [0, 1, 2], [0, 1, 2, 3, 4]] [5] (by kernel_rfl) (by kernel_rfl) ?_
      repeat (first
    | refine C.seq ?_
    | refine C.region ?_
    | refine R.nr ttok rfl (by first | exact Nrm.w (wrap_i64 (by omega) (by omega)) | exact Nrm.w (wrap_u64 (by omega) (by omega)) | exact Nrm.w (wrap_u8 (by omega) (by omega)) | exact Nrm.refl _) rfl (by kernel_rfl) ?_
    | refine R.k rfl rfl ?_
    | refine R.k0 rfl ?_
    | refine R.a ttok rfl rfl (by kernel_rfl) ?_
    | refine R.b rfl rfl rfl (by kernel_rfl) ?_
    | refine R.li ttok rfl rfl rfl rfl rfl rfl (by kernel_rfl) ?_
    | refine R.st ttok rfl rfl rfl rfl rfl rfl rfl (by kernel_rfl) ?_
    | refine R.done ?_
    | refine X.then ?_
    | refine C.block ?_
    | refine C.ret ?_
    | refine C.skip ?_
    | refine C.exit ?_
    | refine X.pass_ret ?_
    | refine X.pass_exit ?_
    | refine X.block_normal ?_
    | refine X.block_ret ?_
    | refine X.block_exit ?_
    | refine X.block_other rfl ?_
    | refine C.goto ?_
    | refine C.label ?_
    | refine X.pass_goto ?_
    | refine X.block_goto ?_
    | refine X.jump_ret ?_
    | refine X.jump_normal ?_
    | refine X.jump_exit ?_
    | refine C.tru rfl ?_
    | refine C.fls rfl ?_)
      refine R.quo ((v / 2 : Nat) : Int) rfl rfl rfl rfl (by decide) (quo2 hb) ?_
      repeat (first
    | refine C.seq ?_
    | refine C.region ?_
    | refine R.nr ttok rfl (by first | exact Nrm.w (wrap_i64 (by omega) (by omega)) | exact Nrm.w (wrap_u64 (by omega) (by omega)) | exact Nrm.w (wrap_u8 (by omega) (by omega)) | exact Nrm.refl _) rfl (by kernel_rfl) ?_
    | refine R.k rfl rfl ?_
    | refine R.k0 rfl ?_
    | refine R.a ttok rfl rfl (by kernel_rfl) ?_
    | refine R.b rfl rfl rfl (by kernel_rfl) ?_
    | refine R.li ttok rfl rfl rfl rfl rfl rfl (by kernel_rfl) ?_
    | refine R.st ttok rfl rfl rfl rfl rfl rfl rfl (by kernel_rfl) ?_
    | refine R.done ?_
    | refine X.then ?_
    | refine C.block ?_
    | refine C.ret ?_
    | refine C.skip ?_
    | refine C.exit ?_
    | refine X.pass_ret ?_
    | refine X.pass_exit ?_
    | refine X.block_normal ?_
    | refine X.block_ret ?_
    | refine X.block_exit ?_
    | refine X.block_other rfl ?_
    | refine C.goto ?_
    | refine C.label ?_
    | refine X.pass_goto ?_
    | refine X.block_goto ?_
    | refine X.jump_ret ?_
    | refine X.jump_normal ?_
    | refine X.jump_exit ?_
    | refine C.tru rfl ?_
    | refine C.fls rfl ?_)
      exact X.fin ttok () [] trivial rfl rfl rfl .nil _ (.inl rfl)
    · rw [unzig_odd (by omega)]
      repeat (first
    | refine C.seq ?_
    | refine C.region ?_
    | refine R.nr ttok rfl (by first | exact Nrm.w (wrap_i64 (by omega) (by omega)) | exact Nrm.w (wrap_u64 (by omega) (by omega)) | exact Nrm.w (wrap_u8 (by omega) (by omega)) | exact Nrm.refl _) rfl (by kernel_rfl) ?_
    | refine R.k rfl rfl ?_
    | refine R.k0 rfl ?_
    | refine R.a ttok rfl rfl (by kernel_rfl) ?_
    | refine R.b rfl rfl rfl (by kernel_rfl) ?_
    | refine R.li ttok rfl rfl rfl rfl rfl rfl (by kernel_rfl) ?_
    | refine R.st ttok rfl rfl rfl rfl rfl rfl rfl (by kernel_rfl) ?_
    | refine R.done ?_
    | refine X.then ?_
    | refine C.block ?_
    | refine C.ret ?_
    | refine C.skip ?_
    | refine C.exit ?_
    | refine X.pass_ret ?_
    | refine X.pass_exit ?_
    | refine X.block_normal ?_
    | refine X.block_ret ?_
    | refine X.block_exit ?_
    | refine X.block_other rfl ?_
    | refine C.goto ?_
    | refine C.label ?_
    | refine X.pass_goto ?_
    | refine X.block_goto ?_
    | refine X.jump_ret ?_
    | refine X.jump_normal ?_
    | refine X.jump_exit ?_
    | refine C.tru rfl ?_
    | refine C.fls rfl ?_)
      refine C.draw [[], [0], [0, 1], [0, 1, 2], [0, 1, 2, 3], [], [0, 1, 2, 3, 4], [0, 1, 2, 3, 4, 5, 6]] [7] (by kernel_rfl) (by kernel_rfl) ?_
      repeat (first
    | refine C.seq ?_
    | refine C.region ?_
    | refine R.nr ttok rfl (by first | exact Nrm.w (wrap_i64 (by omega) (by omega)) | exact Nrm.w (wrap_u64 (by omega) (by omega)) | exact Nrm.w (wrap_u8 (by omega) (by omega)) | exact Nrm.refl _) rfl (by kernel_rfl) ?_
    | refine R.k rfl rfl ?_
    | refine R.k0 rfl ?_
    | refine R.a ttok rfl rfl (by kernel_rfl) ?_
    | refine R.b rfl rfl rfl (by kernel_rfl) ?_
    | refine R.li ttok rfl rfl rfl rfl rfl rfl (by kernel_rfl) ?_
    | refine R.st ttok rfl rfl rfl rfl rfl rfl rfl (by kernel_rfl) ?_
    | refine R.done ?_
    | refine X.then ?_
    | refine C.block ?_
    | refine C.ret ?_
    | refine C.skip ?_
    | refine C.exit ?_
    | refine X.pass_ret ?_
    | refine X.pass_exit ?_
    | refine X.block_normal ?_
    | refine X.block_ret ?_
    | refine X.block_exit ?_
    | refine X.block_other rfl ?_
    | refine C.goto ?_
    | refine C.label ?_
    | refine X.pass_goto ?_
    | refine X.block_goto ?_
    | refine X.jump_ret ?_
    | refine X.jump_normal ?_
    | refine X.jump_exit ?_
    | refine C.tru rfl ?_
    | refine C.fls rfl ?_)
      refine R.quo ((v / 2 : Nat) : Int) rfl rfl rfl rfl (by decide) (quo2 hb) ?_
      repeat (first
    | refine C.seq ?_
    | refine C.region ?_
    | refine R.nr ttok rfl (by first | exact Nrm.w (wrap_i64 (by omega) (by omega)) | exact Nrm.w (wrap_u64 (by omega) (by omega)) | exact Nrm.w (wrap_u8 (by omega) (by omega)) | exact Nrm.refl _) rfl (by kernel_rfl) ?_
    | refine R.k rfl rfl ?_
    | refine R.k0 rfl ?_
    | refine R.a ttok rfl rfl (by kernel_rfl) ?_
    | refine R.b rfl rfl rfl (by kernel_rfl) ?_
    | refine R.li ttok rfl rfl rfl rfl rfl rfl (by kernel_rfl) ?_
    | refine R.st ttok rfl rfl rfl rfl rfl rfl rfl (by kernel_rfl) ?_
    | refine R.done ?_
    | refine X.then ?_
    | refine C.block ?_
    | refine C.ret ?_
    | refine C.skip ?_
    | refine C.exit ?_
    | refine X.pass_ret ?_
    | refine X.pass_exit ?_
    | refine X.block_normal ?_
    | refine X.block_ret ?_
    | refine X.block_exit ?_
    | refine X.block_other rfl ?_
    | refine C.goto ?_
    | refine C.label ?_
    | refine X.pass_goto ?_
    | refine X.block_goto ?_
    | refine X.jump_ret ?_
    | refine X.jump_normal ?_
    | refine X.jump_exit ?_
    | refine C.tru rfl ?_
    | refine C.fls rfl ?_)
      exact X.fin ttok () [] trivial rfl rfl rfl .nil _ (.inl rfl)
  · obtain ⟨rfl, rfl⟩ := hre hx
    rw [if_neg hx, stF_new _ _ hx, show unzig 0 = 0 by simp [unzig]]
    repeat (first
    | refine C.seq ?_
    | refine C.region ?_
    | refine R.nr ttok rfl (by first | exact Nrm.w (wrap_i64 (by omega) (by omega)) | exact Nrm.w (wrap_u64 (by omega) (by omega)) | exact Nrm.w (wrap_u8 (by omega) (by omega)) | exact Nrm.refl _) rfl (by kernel_rfl) ?_
    | refine R.k rfl rfl ?_
    | refine R.k0 rfl ?_
    | refine R.a ttok rfl rfl (by kernel_rfl) ?_
    | refine R.b rfl rfl rfl (by kernel_rfl) ?_
    | refine R.li ttok rfl rfl rfl rfl rfl rfl (by kernel_rfl) ?_
    | refine R.st ttok rfl rfl rfl rfl rfl rfl rfl (by kernel_rfl) ?_
    | refine R.done ?_
    | refine X.then ?_
    | refine C.block ?_
    | refine C.ret ?_
    | refine C.skip ?_
    | refine C.exit ?_
    | refine X.pass_ret ?_
    | refine X.pass_exit ?_
    | refine X.block_normal ?_
    | refine X.block_ret ?_
    | refine X.block_exit ?_
    | refine X.block_other rfl ?_
    | refine C.goto ?_
    | refine C.label ?_
    | refine X.pass_goto ?_
    | refine X.block_goto ?_
    | refine X.jump_ret ?_
    | refine X.jump_normal ?_
    | refine X.jump_exit ?_
    | refine C.tru rfl ?_
    | refine C.fls rfl ?_)
    refine C.yes rfl (decide_eq_true hx) ?_
    repeat (first
    | refine C.seq ?_
    | refine C.region ?_
    | refine R.nr ttok rfl (by first | exact Nrm.w (wrap_i64 (by omega) (by omega)) | exact Nrm.w (wrap_u64 (by omega) (by omega)) | exact Nrm.w (wrap_u8 (by omega) (by omega)) | exact Nrm.refl _) rfl (by kernel_rfl) ?_
    | refine R.k rfl rfl ?_
    | refine R.k0 rfl ?_
    | refine R.a ttok rfl rfl (by kernel_rfl) ?_
    | refine R.b rfl rfl rfl (by kernel_rfl) ?_
    | refine R.li ttok rfl rfl rfl rfl rfl rfl (by kernel_rfl) ?_
    | refine R.st ttok rfl rfl rfl rfl rfl rfl rfl (by kernel_rfl) ?_
    | refine R.done ?_
    | refine X.then ?_
    | refine C.block ?_
    | refine C.ret ?_
    | refine C.skip ?_
    | refine C.exit ?_
    | refine X.pass_ret ?_
    | refine X.pass_exit ?_
    | refine X.block_normal ?_
    | refine X.block_ret ?_
    | refine X.block_exit ?_
    | refine X.block_other rfl ?_
    | refine C.goto ?_
    | refine C.label ?_
    | refine X.pass_goto ?_
    | refine X.block_goto ?_
    | refine X.jump_ret ?_
    | refine X.jump_normal ?_
    | refine X.jump_exit ?_
    | refine C.tru rfl ?_
    | refine C.fls rfl ?_)
    refine R.cl [0] (qends_spec off B c k st 0 x) Try.call60 (.same rfl rfl .nil) rfl rfl rfl (fun _ => rfl) rfl rfl fun _ _ => ?_
    repeat (first
    | refine C.seq ?_
    | refine C.region ?_
    | refine R.nr ttok rfl (by first | exact Nrm.w (wrap_i64 (by omega) (by omega)) | exact Nrm.w (wrap_u64 (by omega) (by omega)) | exact Nrm.w (wrap_u8 (by omega) (by omega)) | exact Nrm.refl _) rfl (by kernel_rfl) ?_
    | refine R.k rfl rfl ?_
    | refine R.k0 rfl ?_
    | refine R.a ttok rfl rfl (by kernel_rfl) ?_
    | refine R.b rfl rfl rfl (by kernel_rfl) ?_
    | refine R.li ttok rfl rfl rfl rfl rfl rfl (by kernel_rfl) ?_
    | refine R.st ttok rfl rfl rfl rfl rfl rfl rfl (by kernel_rfl) ?_
    | refine R.done ?_
    | refine X.then ?_
    | refine C.block ?_
    | refine C.ret ?_
    | refine C.skip ?_
    | refine C.exit ?_
    | refine X.pass_ret ?_
    | refine X.pass_exit ?_
    | refine X.block_normal ?_
    | refine X.block_ret ?_
    | refine X.block_exit ?_
    | refine X.block_other rfl ?_
    | refine C.goto ?_
    | refine C.label ?_
    | refine X.pass_goto ?_
    | refine X.block_goto ?_
    | refine X.jump_ret ?_
    | refine X.jump_normal ?_
    | refine X.jump_exit ?_
    | refine C.tru rfl ?_
    | refine C.fls rfl ?_)
    exact X.fin ttok () [] trivial rfl rfl rfl .nil _ (.inl rfl)
theorem qtext_spec (off : Nat) (B : List UInt8) (c at_ st : Nat) (e most : Int) (hat : at_ ≤ B.length) (hB : B.length ≤ 1000000000000) (hc : B.length ≤ c) : Spec Try.prog 49 [refR 0 off B c at_ e st, .raw (.int .i64 most)] [roBo off B] 1 (σ := Unit) (fun _ => True)
    (fun _ => .tup [.raw (.string (strOf (rdText B at_ e most).1)), refR 0 off B c (rdText B at_ e most).2.1 (rdText B at_ e most).2.2 (stF st at_ e (rdText B at_ e most).2.2)]) (fun _ => []) := by
  refine Spec.of Try.func49 rfl Try.ntmps49 rfl (by simp [AO.Bd, bytesF, AV.bds, AV.bd]) fun ρ w => ?_
  repeat (first
    | refine C.seq ?_
    | refine C.region ?_
    | refine R.nr ttok rfl (by first | exact Nrm.w (wrap_i64 (by omega) (by omega)) | exact Nrm.w (wrap_u64 (by omega) (by omega)) | exact Nrm.w (wrap_u8 (by omega) (by omega)) | exact Nrm.refl _) rfl (by kernel_rfl) ?_
    | refine R.k rfl rfl ?_
    | refine R.k0 rfl ?_
    | refine R.a ttok rfl rfl (by kernel_rfl) ?_
    | refine R.b rfl rfl rfl (by kernel_rfl) ?_
    | refine R.li ttok rfl rfl rfl rfl rfl rfl (by kernel_rfl) ?_
    | refine R.st ttok rfl rfl rfl rfl rfl rfl rfl (by kernel_rfl) ?_
    | refine R.done ?_
    | refine X.then ?_
    | refine C.block ?_
    | refine C.ret ?_
    | refine C.skip ?_
    | refine C.exit ?_
    | refine X.pass_ret ?_
    | refine X.pass_exit ?_
    | refine X.block_normal ?_
    | refine X.block_ret ?_
    | refine X.block_exit ?_
    | refine X.block_other rfl ?_
    | refine C.goto ?_
    | refine C.label ?_
    | refine X.pass_goto ?_
    | refine X.block_goto ?_
    | refine X.jump_ret ?_
    | refine X.jump_normal ?_
    | refine X.jump_exit ?_
    | refine C.tru rfl ?_
    | refine C.fls rfl ?_)
  refine C.dec rfl (fun hne => ?_) (fun he => ?_)
  · rw [show rdText B at_ e most = ([], at_, e) from if_pos hne, stF_no st at_ hne]
    repeat (first
    | refine C.seq ?_
    | refine C.region ?_
    | refine R.nr ttok rfl (by first | exact Nrm.w (wrap_i64 (by omega) (by omega)) | exact Nrm.w (wrap_u64 (by omega) (by omega)) | exact Nrm.w (wrap_u8 (by omega) (by omega)) | exact Nrm.refl _) rfl (by kernel_rfl) ?_
    | refine R.k rfl rfl ?_
    | refine R.k0 rfl ?_
    | refine R.a ttok rfl rfl (by kernel_rfl) ?_
    | refine R.b rfl rfl rfl (by kernel_rfl) ?_
    | refine R.li ttok rfl rfl rfl rfl rfl rfl (by kernel_rfl) ?_
    | refine R.st ttok rfl rfl rfl rfl rfl rfl rfl (by kernel_rfl) ?_
    | refine R.done ?_
    | refine X.then ?_
    | refine C.block ?_
    | refine C.ret ?_
    | refine C.skip ?_
    | refine C.exit ?_
    | refine X.pass_ret ?_
    | refine X.pass_exit ?_
    | refine X.block_normal ?_
    | refine X.block_ret ?_
    | refine X.block_exit ?_
    | refine X.block_other rfl ?_
    | refine C.goto ?_
    | refine C.label ?_
    | refine X.pass_goto ?_
    | refine X.block_goto ?_
    | refine X.jump_ret ?_
    | refine X.jump_normal ?_
    | refine X.jump_exit ?_
    | refine C.tru rfl ?_
    | refine C.fls rfl ?_)
    refine C.draw [[], [], [0, 1]] [2] (by kernel_rfl) (by kernel_rfl) ?_
    repeat (first
    | refine C.seq ?_
    | refine C.region ?_
    | refine R.nr ttok rfl (by first | exact Nrm.w (wrap_i64 (by omega) (by omega)) | exact Nrm.w (wrap_u64 (by omega) (by omega)) | exact Nrm.w (wrap_u8 (by omega) (by omega)) | exact Nrm.refl _) rfl (by kernel_rfl) ?_
    | refine R.k rfl rfl ?_
    | refine R.k0 rfl ?_
    | refine R.a ttok rfl rfl (by kernel_rfl) ?_
    | refine R.b rfl rfl rfl (by kernel_rfl) ?_
    | refine R.li ttok rfl rfl rfl rfl rfl rfl (by kernel_rfl) ?_
    | refine R.st ttok rfl rfl rfl rfl rfl rfl rfl (by kernel_rfl) ?_
    | refine R.done ?_
    | refine X.then ?_
    | refine C.block ?_
    | refine C.ret ?_
    | refine C.skip ?_
    | refine C.exit ?_
    | refine X.pass_ret ?_
    | refine X.pass_exit ?_
    | refine X.block_normal ?_
    | refine X.block_ret ?_
    | refine X.block_exit ?_
    | refine X.block_other rfl ?_
    | refine C.goto ?_
    | refine C.label ?_
    | refine X.pass_goto ?_
    | refine X.block_goto ?_
    | refine X.jump_ret ?_
    | refine X.jump_normal ?_
    | refine X.jump_exit ?_
    | refine C.tru rfl ?_
    | refine C.fls rfl ?_)
    exact X.fin ttok () [] trivial rfl rfl rfl .nil _ (.inl rfl)
  obtain rfl : e = 0 := Decidable.not_not.1 he
  obtain ⟨hb, hge, hle⟩ := rdRow_ok B at_ 0 (most := 9) (last := 127) hat (by omega) (by omega)
  have hre := fun h => rdRow_err B at_ (most := 9) (last := 127) h
  rw [pow128_9] at hb
  have hdef : rdText B at_ 0 most = if (rdRow B at_ 0 9 127).2.2 ≠ 0 then ([], at_, (rdRow B at_ 0 9 127).2.2) else if max most 0 < ((rdRow B at_ 0 9 127).1 : Int) then ([], at_, 4) else if B.length - (rdRow B at_ 0 9 127).2.1 < (rdRow B at_ 0 9 127).1 then ([], at_, 2) else ((B.drop (rdRow B at_ 0 9 127).2.1).take (rdRow B at_ 0 9 127).1, (rdRow B at_ 0 9 127).2.1 + (rdRow B at_ 0 9 127).1, 0) := if_neg (by simp)
  rw [hdef]
  clear hdef
  repeat (first
    | refine C.seq ?_
    | refine C.region ?_
    | refine R.nr ttok rfl (by first | exact Nrm.w (wrap_i64 (by omega) (by omega)) | exact Nrm.w (wrap_u64 (by omega) (by omega)) | exact Nrm.w (wrap_u8 (by omega) (by omega)) | exact Nrm.refl _) rfl (by kernel_rfl) ?_
    | refine R.k rfl rfl ?_
    | refine R.k0 rfl ?_
    | refine R.a ttok rfl rfl (by kernel_rfl) ?_
    | refine R.b rfl rfl rfl (by kernel_rfl) ?_
    | refine R.li ttok rfl rfl rfl rfl rfl rfl (by kernel_rfl) ?_
    | refine R.st ttok rfl rfl rfl rfl rfl rfl rfl (by kernel_rfl) ?_
    | refine R.done ?_
    | refine X.then ?_
    | refine C.block ?_
    | refine C.ret ?_
    | refine C.skip ?_
    | refine C.exit ?_
    | refine X.pass_ret ?_
    | refine X.pass_exit ?_
    | refine X.block_normal ?_
    | refine X.block_ret ?_
    | refine X.block_exit ?_
    | refine X.block_other rfl ?_
    | refine C.goto ?_
    | refine C.label ?_
    | refine X.pass_goto ?_
    | refine X.block_goto ?_
    | refine X.jump_ret ?_
    | refine X.jump_normal ?_
    | refine X.jump_exit ?_
    | refine C.tru rfl ?_
    | refine C.fls rfl ?_)
  refine R.cl [0] (qnumber_spec off B c at_ st 0 hat hB) Try.call47 (.same rfl rfl .nil) rfl rfl rfl (fun _ => rfl) rfl rfl fun _ _ => ?_
  generalize rdRow B at_ 0 9 127 = R at hb hge hle hre ⊢
  obtain ⟨v, k, x⟩ := R
  dsimp only at hb hge hle hre ⊢
  repeat (first
    | refine C.seq ?_
    | refine C.region ?_
    | refine R.nr ttok rfl (by first | exact Nrm.w (wrap_i64 (by omega) (by omega)) | exact Nrm.w (wrap_u64 (by omega) (by omega)) | exact Nrm.w (wrap_u8 (by omega) (by omega)) | exact Nrm.refl _) rfl (by kernel_rfl) ?_
    | refine R.k rfl rfl ?_
    | refine R.k0 rfl ?_
    | refine R.a ttok rfl rfl (by kernel_rfl) ?_
    | refine R.b rfl rfl rfl (by kernel_rfl) ?_
    | refine R.li ttok rfl rfl rfl rfl rfl rfl (by kernel_rfl) ?_
    | refine R.st ttok rfl rfl rfl rfl rfl rfl rfl (by kernel_rfl) ?_
    | refine R.done ?_
    | refine X.then ?_
    | refine C.block ?_
    | refine C.ret ?_
    | refine C.skip ?_
    | refine C.exit ?_
    | refine X.pass_ret ?_
    | refine X.pass_exit ?_
    | refine X.block_normal ?_
    | refine X.block_ret ?_
    | refine X.block_exit ?_
    | refine X.block_other rfl ?_
    | refine C.goto ?_
    | refine C.label ?_
    | refine X.pass_goto ?_
    | refine X.block_goto ?_
    | refine X.jump_ret ?_
    | refine X.jump_normal ?_
    | refine X.jump_exit ?_
    | refine C.tru rfl ?_
    | refine C.fls rfl ?_)
  refine C.dec rfl (fun hx => ?_) (fun hx => ?_)
  · obtain ⟨_, rfl⟩ := hre hx
    rw [if_pos hx]
    repeat (first
    | refine C.seq ?_
    | refine C.region ?_
    | refine R.nr ttok rfl (by first | exact Nrm.w (wrap_i64 (by omega) (by omega)) | exact Nrm.w (wrap_u64 (by omega) (by omega)) | exact Nrm.w (wrap_u8 (by omega) (by omega)) | exact Nrm.refl _) rfl (by kernel_rfl) ?_
    | refine R.k rfl rfl ?_
    | refine R.k0 rfl ?_
    | refine R.a ttok rfl rfl (by kernel_rfl) ?_
    | refine R.b rfl rfl rfl (by kernel_rfl) ?_
    | refine R.li ttok rfl rfl rfl rfl rfl rfl (by kernel_rfl) ?_
    | refine R.st ttok rfl rfl rfl rfl rfl rfl rfl (by kernel_rfl) ?_
    | refine R.done ?_
    | refine X.then ?_
    | refine C.block ?_
    | refine C.ret ?_
    | refine C.skip ?_
    | refine C.exit ?_
    | refine X.pass_ret ?_
    | refine X.pass_exit ?_
    | refine X.block_normal ?_
    | refine X.block_ret ?_
    | refine X.block_exit ?_
    | refine X.block_other rfl ?_
    | refine C.goto ?_
    | refine C.label ?_
    | refine X.pass_goto ?_
    | refine X.block_goto ?_
    | refine X.jump_ret ?_
    | refine X.jump_normal ?_
    | refine X.jump_exit ?_
    | refine C.tru rfl ?_
    | refine C.fls rfl ?_)
    refine C.draw [[], [], [0, 1]] [2] (by kernel_rfl) (by kernel_rfl) ?_
    repeat (first
    | refine C.seq ?_
    | refine C.region ?_
    | refine R.nr ttok rfl (by first | exact Nrm.w (wrap_i64 (by omega) (by omega)) | exact Nrm.w (wrap_u64 (by omega) (by omega)) | exact Nrm.w (wrap_u8 (by omega) (by omega)) | exact Nrm.refl _) rfl (by kernel_rfl) ?_
    | refine R.k rfl rfl ?_
    | refine R.k0 rfl ?_
    | refine R.a ttok rfl rfl (by kernel_rfl) ?_
    | refine R.b rfl rfl rfl (by kernel_rfl) ?_
    | refine R.li ttok rfl rfl rfl rfl rfl rfl (by kernel_rfl) ?_
    | refine R.st ttok rfl rfl rfl rfl rfl rfl rfl (by kernel_rfl) ?_
    | refine R.done ?_
    | refine X.then ?_
    | refine C.block ?_
    | refine C.ret ?_
    | refine C.skip ?_
    | refine C.exit ?_
    | refine X.pass_ret ?_
    | refine X.pass_exit ?_
    | refine X.block_normal ?_
    | refine X.block_ret ?_
    | refine X.block_exit ?_
    | refine X.block_other rfl ?_
    | refine C.goto ?_
    | refine C.label ?_
    | refine X.pass_goto ?_
    | refine X.block_goto ?_
    | refine X.jump_ret ?_
    | refine X.jump_normal ?_
    | refine X.jump_exit ?_
    | refine C.tru rfl ?_
    | refine C.fls rfl ?_)
    exact X.fin ttok () [] trivial rfl rfl rfl .nil _ (.inl rfl)
  rw [if_neg hx]
  repeat (first
    | refine C.seq ?_
    | refine C.region ?_
    | refine R.nr ttok rfl (by first | exact Nrm.w (wrap_i64 (by omega) (by omega)) | exact Nrm.w (wrap_u64 (by omega) (by omega)) | exact Nrm.w (wrap_u8 (by omega) (by omega)) | exact Nrm.refl _) rfl (by kernel_rfl) ?_
    | refine R.k rfl rfl ?_
    | refine R.k0 rfl ?_
    | refine R.a ttok rfl rfl (by kernel_rfl) ?_
    | refine R.b rfl rfl rfl (by kernel_rfl) ?_
    | refine R.li ttok rfl rfl rfl rfl rfl rfl (by kernel_rfl) ?_
    | refine R.st ttok rfl rfl rfl rfl rfl rfl rfl (by kernel_rfl) ?_
    | refine R.done ?_
    | refine X.then ?_
    | refine C.block ?_
    | refine C.ret ?_
    | refine C.skip ?_
    | refine C.exit ?_
    | refine X.pass_ret ?_
    | refine X.pass_exit ?_
    | refine X.block_normal ?_
    | refine X.block_ret ?_
    | refine X.block_exit ?_
    | refine X.block_other rfl ?_
    | refine C.goto ?_
    | refine C.label ?_
    | refine X.pass_goto ?_
    | refine X.block_goto ?_
    | refine X.jump_ret ?_
    | refine X.jump_normal ?_
    | refine X.jump_exit ?_
    | refine C.tru rfl ?_
    | refine C.fls rfl ?_)
  refine C.dec rfl (fun h1 => ?_) (fun h1 => ?_)
  · rw [if_pos h1]
    repeat (first
    | refine C.seq ?_
    | refine C.region ?_
    | refine R.nr ttok rfl (by first | exact Nrm.w (wrap_i64 (by omega) (by omega)) | exact Nrm.w (wrap_u64 (by omega) (by omega)) | exact Nrm.w (wrap_u8 (by omega) (by omega)) | exact Nrm.refl _) rfl (by kernel_rfl) ?_
    | refine R.k rfl rfl ?_
    | refine R.k0 rfl ?_
    | refine R.a ttok rfl rfl (by kernel_rfl) ?_
    | refine R.b rfl rfl rfl (by kernel_rfl) ?_
    | refine R.li ttok rfl rfl rfl rfl rfl rfl (by kernel_rfl) ?_
    | refine R.st ttok rfl rfl rfl rfl rfl rfl rfl (by kernel_rfl) ?_
    | refine R.done ?_
    | refine X.then ?_
    | refine C.block ?_
    | refine C.ret ?_
    | refine C.skip ?_
    | refine C.exit ?_
    | refine X.pass_ret ?_
    | refine X.pass_exit ?_
    | refine X.block_normal ?_
    | refine X.block_ret ?_
    | refine X.block_exit ?_
    | refine X.block_other rfl ?_
    | refine C.goto ?_
    | refine C.label ?_
    | refine X.pass_goto ?_
    | refine X.block_goto ?_
    | refine X.jump_ret ?_
    | refine X.jump_normal ?_
    | refine X.jump_exit ?_
    | refine C.tru rfl ?_
    | refine C.fls rfl ?_)
    refine R.cl [0] (qends_spec off B c at_ st 0 4) Try.call60 (.same rfl rfl .nil) rfl rfl rfl (fun _ => rfl) rfl rfl fun _ _ => ?_
    repeat (first
    | refine C.seq ?_
    | refine C.region ?_
    | refine R.nr ttok rfl (by first | exact Nrm.w (wrap_i64 (by omega) (by omega)) | exact Nrm.w (wrap_u64 (by omega) (by omega)) | exact Nrm.w (wrap_u8 (by omega) (by omega)) | exact Nrm.refl _) rfl (by kernel_rfl) ?_
    | refine R.k rfl rfl ?_
    | refine R.k0 rfl ?_
    | refine R.a ttok rfl rfl (by kernel_rfl) ?_
    | refine R.b rfl rfl rfl (by kernel_rfl) ?_
    | refine R.li ttok rfl rfl rfl rfl rfl rfl (by kernel_rfl) ?_
    | refine R.st ttok rfl rfl rfl rfl rfl rfl rfl (by kernel_rfl) ?_
    | refine R.done ?_
    | refine X.then ?_
    | refine C.block ?_
    | refine C.ret ?_
    | refine C.skip ?_
    | refine C.exit ?_
    | refine X.pass_ret ?_
    | refine X.pass_exit ?_
    | refine X.block_normal ?_
    | refine X.block_ret ?_
    | refine X.block_exit ?_
    | refine X.block_other rfl ?_
    | refine C.goto ?_
    | refine C.label ?_
    | refine X.pass_goto ?_
    | refine X.block_goto ?_
    | refine X.jump_ret ?_
    | refine X.jump_normal ?_
    | refine X.jump_exit ?_
    | refine C.tru rfl ?_
    | refine C.fls rfl ?_)
    exact X.fin ttok () [] trivial rfl rfl rfl .nil _ (.inl rfl)
  rw [if_neg h1]
  repeat (first
    | refine C.seq ?_
    | refine C.region ?_
    | refine R.nr ttok rfl (by first | exact Nrm.w (wrap_i64 (by omega) (by omega)) | exact Nrm.w (wrap_u64 (by omega) (by omega)) | exact Nrm.w (wrap_u8 (by omega) (by omega)) | exact Nrm.refl _) rfl (by kernel_rfl) ?_
    | refine R.k rfl rfl ?_
    | refine R.k0 rfl ?_
    | refine R.a ttok rfl rfl (by kernel_rfl) ?_
    | refine R.b rfl rfl rfl (by kernel_rfl) ?_
    | refine R.li ttok rfl rfl rfl rfl rfl rfl (by kernel_rfl) ?_
    | refine R.st ttok rfl rfl rfl rfl rfl rfl rfl (by kernel_rfl) ?_
    | refine R.done ?_
    | refine X.then ?_
    | refine C.block ?_
    | refine C.ret ?_
    | refine C.skip ?_
    | refine C.exit ?_
    | refine X.pass_ret ?_
    | refine X.pass_exit ?_
    | refine X.block_normal ?_
    | refine X.block_ret ?_
    | refine X.block_exit ?_
    | refine X.block_other rfl ?_
    | refine C.goto ?_
    | refine C.label ?_
    | refine X.pass_goto ?_
    | refine X.block_goto ?_
    | refine X.jump_ret ?_
    | refine X.jump_normal ?_
    | refine X.jump_exit ?_
    | refine C.tru rfl ?_
    | refine C.fls rfl ?_)
  refine C.dec rfl (fun h2 => ?_) (fun h2 => ?_)
  · rw [if_pos (by omega)]
    repeat (first
    | refine C.seq ?_
    | refine C.region ?_
    | refine R.nr ttok rfl (by first | exact Nrm.w (wrap_i64 (by omega) (by omega)) | exact Nrm.w (wrap_u64 (by omega) (by omega)) | exact Nrm.w (wrap_u8 (by omega) (by omega)) | exact Nrm.refl _) rfl (by kernel_rfl) ?_
    | refine R.k rfl rfl ?_
    | refine R.k0 rfl ?_
    | refine R.a ttok rfl rfl (by kernel_rfl) ?_
    | refine R.b rfl rfl rfl (by kernel_rfl) ?_
    | refine R.li ttok rfl rfl rfl rfl rfl rfl (by kernel_rfl) ?_
    | refine R.st ttok rfl rfl rfl rfl rfl rfl rfl (by kernel_rfl) ?_
    | refine R.done ?_
    | refine X.then ?_
    | refine C.block ?_
    | refine C.ret ?_
    | refine C.skip ?_
    | refine C.exit ?_
    | refine X.pass_ret ?_
    | refine X.pass_exit ?_
    | refine X.block_normal ?_
    | refine X.block_ret ?_
    | refine X.block_exit ?_
    | refine X.block_other rfl ?_
    | refine C.goto ?_
    | refine C.label ?_
    | refine X.pass_goto ?_
    | refine X.block_goto ?_
    | refine X.jump_ret ?_
    | refine X.jump_normal ?_
    | refine X.jump_exit ?_
    | refine C.tru rfl ?_
    | refine C.fls rfl ?_)
    refine R.cl [0] (qends_spec off B c at_ st 0 2) Try.call60 (.same rfl rfl .nil) rfl rfl rfl (fun _ => rfl) rfl rfl fun _ _ => ?_
    repeat (first
    | refine C.seq ?_
    | refine C.region ?_
    | refine R.nr ttok rfl (by first | exact Nrm.w (wrap_i64 (by omega) (by omega)) | exact Nrm.w (wrap_u64 (by omega) (by omega)) | exact Nrm.w (wrap_u8 (by omega) (by omega)) | exact Nrm.refl _) rfl (by kernel_rfl) ?_
    | refine R.k rfl rfl ?_
    | refine R.k0 rfl ?_
    | refine R.a ttok rfl rfl (by kernel_rfl) ?_
    | refine R.b rfl rfl rfl (by kernel_rfl) ?_
    | refine R.li ttok rfl rfl rfl rfl rfl rfl (by kernel_rfl) ?_
    | refine R.st ttok rfl rfl rfl rfl rfl rfl rfl (by kernel_rfl) ?_
    | refine R.done ?_
    | refine X.then ?_
    | refine C.block ?_
    | refine C.ret ?_
    | refine C.skip ?_
    | refine C.exit ?_
    | refine X.pass_ret ?_
    | refine X.pass_exit ?_
    | refine X.block_normal ?_
    | refine X.block_ret ?_
    | refine X.block_exit ?_
    | refine X.block_other rfl ?_
    | refine C.goto ?_
    | refine C.label ?_
    | refine X.pass_goto ?_
    | refine X.block_goto ?_
    | refine X.jump_ret ?_
    | refine X.jump_normal ?_
    | refine X.jump_exit ?_
    | refine C.tru rfl ?_
    | refine C.fls rfl ?_)
    exact X.fin ttok () [] trivial rfl rfl rfl .nil _ (.inl rfl)
  rw [if_neg (by omega)]
  have hx0 : x = 0 := Decidable.not_not.1 hx
  subst hx0
  rw [stF_ok]
  repeat (first
    | refine C.seq ?_
    | refine C.region ?_
    | refine R.nr ttok rfl (by first | exact Nrm.w (wrap_i64 (by omega) (by omega)) | exact Nrm.w (wrap_u64 (by omega) (by omega)) | exact Nrm.w (wrap_u8 (by omega) (by omega)) | exact Nrm.refl _) rfl (by kernel_rfl) ?_
    | refine R.k rfl rfl ?_
    | refine R.k0 rfl ?_
    | refine R.a ttok rfl rfl (by kernel_rfl) ?_
    | refine R.b rfl rfl rfl (by kernel_rfl) ?_
    | refine R.li ttok rfl rfl rfl rfl rfl rfl (by kernel_rfl) ?_
    | refine R.st ttok rfl rfl rfl rfl rfl rfl rfl (by kernel_rfl) ?_
    | refine R.done ?_
    | refine X.then ?_
    | refine C.block ?_
    | refine C.ret ?_
    | refine C.skip ?_
    | refine C.exit ?_
    | refine X.pass_ret ?_
    | refine X.pass_exit ?_
    | refine X.block_normal ?_
    | refine X.block_ret ?_
    | refine X.block_exit ?_
    | refine X.block_other rfl ?_
    | refine C.goto ?_
    | refine C.label ?_
    | refine X.pass_goto ?_
    | refine X.block_goto ?_
    | refine X.jump_ret ?_
    | refine X.jump_normal ?_
    | refine X.jump_exit ?_
    | refine C.tru rfl ?_
    | refine C.fls rfl ?_)
  refine R.sl ttok k (k + v) rfl rfl rfl rfl rfl rfl rfl ⟨_, _, rfl, by omega⟩ ⟨_, _, rfl, by omega⟩ (by omega) (by omega) fun o' ho' => ?_
  rw [Nat.add_sub_cancel_left]
  refine R.b2s ttok ((B.drop k).take v) rfl (SrcA.robj rfl (by omega) rfl (by omega)) rfl (by rw [List.length_take, List.length_drop]; omega) rfl rfl rfl rfl rfl rfl rfl rfl ?_
  repeat (first
    | refine C.seq ?_
    | refine C.region ?_
    | refine R.nr ttok rfl (by first | exact Nrm.w (wrap_i64 (by omega) (by omega)) | exact Nrm.w (wrap_u64 (by omega) (by omega)) | exact Nrm.w (wrap_u8 (by omega) (by omega)) | exact Nrm.refl _) rfl (by kernel_rfl) ?_
    | refine R.k rfl rfl ?_
    | refine R.k0 rfl ?_
    | refine R.a ttok rfl rfl (by kernel_rfl) ?_
    | refine R.b rfl rfl rfl (by kernel_rfl) ?_
    | refine R.li ttok rfl rfl rfl rfl rfl rfl (by kernel_rfl) ?_
    | refine R.st ttok rfl rfl rfl rfl rfl rfl rfl (by kernel_rfl) ?_
    | refine R.done ?_
    | refine X.then ?_
    | refine C.block ?_
    | refine C.ret ?_
    | refine C.skip ?_
    | refine C.exit ?_
    | refine X.pass_ret ?_
    | refine X.pass_exit ?_
    | refine X.block_normal ?_
    | refine X.block_ret ?_
    | refine X.block_exit ?_
    | refine X.block_other rfl ?_
    | refine C.goto ?_
    | refine C.label ?_
    | refine X.pass_goto ?_
    | refine X.block_goto ?_
    | refine X.jump_ret ?_
    | refine X.jump_normal ?_
    | refine X.jump_exit ?_
    | refine C.tru rfl ?_
    | refine C.fls rfl ?_)
  refine C.draw [[], [], [0], [0, 1, 2]] [3] (by kernel_rfl) (by kernel_rfl) ?_
  repeat (first
    | refine C.seq ?_
    | refine C.region ?_
    | refine R.nr ttok rfl (by first | exact Nrm.w (wrap_i64 (by omega) (by omega)) | exact Nrm.w (wrap_u64 (by omega) (by omega)) | exact Nrm.w (wrap_u8 (by omega) (by omega)) | exact Nrm.refl _) rfl (by kernel_rfl) ?_
    | refine R.k rfl rfl ?_
    | refine R.k0 rfl ?_
    | refine R.a ttok rfl rfl (by kernel_rfl) ?_
    | refine R.b rfl rfl rfl (by kernel_rfl) ?_
    | refine R.li ttok rfl rfl rfl rfl rfl rfl (by kernel_rfl) ?_
    | refine R.st ttok rfl rfl rfl rfl rfl rfl rfl (by kernel_rfl) ?_
    | refine R.done ?_
    | refine X.then ?_
    | refine C.block ?_
    | refine C.ret ?_
    | refine C.skip ?_
    | refine C.exit ?_
    | refine X.pass_ret ?_
    | refine X.pass_exit ?_
    | refine X.block_normal ?_
    | refine X.block_ret ?_
    | refine X.block_exit ?_
    | refine X.block_other rfl ?_
    | refine C.goto ?_
    | refine C.label ?_
    | refine X.pass_goto ?_
    | refine X.block_goto ?_
    | refine X.jump_ret ?_
    | refine X.jump_normal ?_
    | refine X.jump_exit ?_
    | refine C.tru rfl ?_
    | refine C.fls rfl ?_)
  exact X.fin ttok () [] trivial rfl rfl rfl .nil _ (.inl rfl)
end Go.Proofs.Ytchbncbojfiiiaa
