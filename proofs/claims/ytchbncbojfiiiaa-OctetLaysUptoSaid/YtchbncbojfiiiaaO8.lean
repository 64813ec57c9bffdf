/- octet: the Reader -/
import Derived.Test.YtchbncbojfiiiaaO7
import Derived.Test.YtchbncbojfiiiaaK24
namespace Go.Proofs.Ytchbncbojfiiiaa
set_option linter.unusedVariables false
set_option linter.unusedSimpArgs false
open Go.RowKit
set_option maxRecDepth 100000
set_option maxHeartbeats 4000000
theorem u8_ok : ∀ te, lk 5 tt = some te → te.size = 1 ∧ te.bytes = 1 ∧ te.zero = [byteV 0] := fun te h => by
  cases h; exact ⟨rfl, rfl, rfl⟩
abbrev roBo (off : Nat) (B : List UInt8) : AO := .ro 1 off B.length (bytesF B)
theorem read_spec (off : Nat) (B : List UInt8) (c : Nat) (hB : B.length ≤ 1000000000000) : Spec Try.prog 16 [.sl 0 1 off B.length c] [roBo off B] 3 (σ := Unit) (fun _ => True) (fun _ => .ptr 1 0 0 0) (fun _ => [(1, .cells [.sl 2 1 0 B.length B.length, .raw (.int .i64 (0 : Nat)), .raw (.int .i64 0)] 57), (2, .bytes B B.length 5)]) := by
  refine Spec.of Try.func16 rfl Try.ntmps16 rfl (by simp [AO.Bd, bytesF, AV.bds, AV.bd]) fun ρ w => ?_
  repeat (first
    | refine C.seq ?_
    | refine C.region ?_
    | refine R.nr ttok rfl (by first | exact Nrm.w (wrap_i64 (by omega) (by omega)) | exact Nrm.w (wrap_u64 (by omega) (by omega)) | exact Nrm.w (wrap_u8 (by omega) (by omega)) | exact Nrm.refl _) rfl (by kernel_rfl) ?_
    | refine R.k rfl rfl ?_
    | refine R.k0 rfl ?_
    | refine R.a ttok rfl rfl (by kernel_rfl) ?_
    | refine R.b rfl rfl rfl (by kernel_rfl) ?_
    | refine R.li ttok rfl rfl rfl rfl rfl rfl (by kernel_rfl) ?_
    | refine R.st ttok rfl rfl rfl rfl rfl rfl rfl (by kernel_rfl) ?_
    | refine R.done ?_
    | refine X.then ?_
    | refine C.block ?_
    | refine C.ret ?_
    | refine C.skip ?_
    | refine C.exit ?_
    | refine X.pass_ret ?_
    | refine X.pass_exit ?_
    | refine X.block_normal ?_
    | refine X.block_ret ?_
    | refine X.block_exit ?_
    | refine X.block_other rfl ?_
    | refine C.goto ?_
    | refine C.label ?_
    | refine X.pass_goto ?_
    | refine X.block_goto ?_
    | refine X.jump_ret ?_
    | refine X.jump_normal ?_
    | refine X.jump_exit ?_
    | refine C.tru rfl ?_
    | refine C.fls rfl ?_)
  refine R.mkb ttok B.length B.length rfl rfl rfl rfl rfl ⟨rfl, rfl, rfl⟩ rfl rfl rfl rfl (Nat.le_refl _) (by omega) ?_
  repeat (first
    | refine C.seq ?_
    | refine C.region ?_
    | refine R.nr ttok rfl (by first | exact Nrm.w (wrap_i64 (by omega) (by omega)) | exact Nrm.w (wrap_u64 (by omega) (by omega)) | exact Nrm.w (wrap_u8 (by omega) (by omega)) | exact Nrm.refl _) rfl (by kernel_rfl) ?_
    | refine R.k rfl rfl ?_
    | refine R.k0 rfl ?_
    | refine R.a ttok rfl rfl (by kernel_rfl) ?_
    | refine R.b rfl rfl rfl (by kernel_rfl) ?_
    | refine R.li ttok rfl rfl rfl rfl rfl rfl (by kernel_rfl) ?_
    | refine R.st ttok rfl rfl rfl rfl rfl rfl rfl (by kernel_rfl) ?_
    | refine R.done ?_
    | refine X.then ?_
    | refine C.block ?_
    | refine C.ret ?_
    | refine C.skip ?_
    | refine C.exit ?_
    | refine X.pass_ret ?_
    | refine X.pass_exit ?_
    | refine X.block_normal ?_
    | refine X.block_ret ?_
    | refine X.block_exit ?_
    | refine X.block_other rfl ?_
    | refine C.goto ?_
    | refine C.label ?_
    | refine X.pass_goto ?_
    | refine X.block_goto ?_
    | refine X.jump_ret ?_
    | refine X.jump_normal ?_
    | refine X.jump_exit ?_
    | refine C.tru rfl ?_
    | refine C.fls rfl ?_)
  refine R.cpb ttok (r := B) rfl rfl rfl (SrcA.robo rfl) rfl rfl rfl rfl rfl rfl (by simp) (by simp) rfl rfl ?_
  repeat (first
    | refine C.seq ?_
    | refine C.region ?_
    | refine R.nr ttok rfl (by first | exact Nrm.w (wrap_i64 (by omega) (by omega)) | exact Nrm.w (wrap_u64 (by omega) (by omega)) | exact Nrm.w (wrap_u8 (by omega) (by omega)) | exact Nrm.refl _) rfl (by kernel_rfl) ?_
    | refine R.k rfl rfl ?_
    | refine R.k0 rfl ?_
    | refine R.a ttok rfl rfl (by kernel_rfl) ?_
    | refine R.b rfl rfl rfl (by kernel_rfl) ?_
    | refine R.li ttok rfl rfl rfl rfl rfl rfl (by kernel_rfl) ?_
    | refine R.st ttok rfl rfl rfl rfl rfl rfl rfl (by kernel_rfl) ?_
    | refine R.done ?_
    | refine X.then ?_
    | refine C.block ?_
    | refine C.ret ?_
    | refine C.skip ?_
    | refine C.exit ?_
    | refine X.pass_ret ?_
    | refine X.pass_exit ?_
    | refine X.block_normal ?_
    | refine X.block_ret ?_
    | refine X.block_exit ?_
    | refine X.block_other rfl ?_
    | refine C.goto ?_
    | refine C.label ?_
    | refine X.pass_goto ?_
    | refine X.block_goto ?_
    | refine X.jump_ret ?_
    | refine X.jump_normal ?_
    | refine X.jump_exit ?_
    | refine C.tru rfl ?_
    | refine C.fls rfl ?_)
  refine X.fin ttok () [(1, 2), (2, 1)] trivial rfl rfl rfl ?_ _ (.inl rfl)
  exact .same rfl rfl rfl rfl (.same rfl rfl rfl trivial .nil)
theorem left_spec (B : List UInt8) (c at_ : Nat) (e : Int) (hat : at_ ≤ B.length) (hB : B.length ≤ 1000000000000) : Spec Try.prog 26 [.ptr 0 0 0 0] [rdO B c at_ e, roB B] 2 (σ := Unit) (fun _ => True) (fun _ => .raw (.int .i64 (B.length - at_ : Nat))) (fun _ => [(0, rdO B c at_ e)]) := by
  refine Spec.of Try.func26 rfl Try.ntmps26 rfl (by simp [AO.Bd, bytesF, AV.bds, AV.bd]) fun ρ w => ?_
  repeat (first
    | refine C.seq ?_
    | refine C.region ?_
    | refine R.nr ttok rfl (by first | exact Nrm.w (wrap_i64 (by omega) (by omega)) | exact Nrm.w (wrap_u64 (by omega) (by omega)) | exact Nrm.w (wrap_u8 (by omega) (by omega)) | exact Nrm.refl _) rfl (by kernel_rfl) ?_
    | refine R.k rfl rfl ?_
    | refine R.k0 rfl ?_
    | refine R.a ttok rfl rfl (by kernel_rfl) ?_
    | refine R.b rfl rfl rfl (by kernel_rfl) ?_
    | refine R.li ttok rfl rfl rfl rfl rfl rfl (by kernel_rfl) ?_
    | refine R.st ttok rfl rfl rfl rfl rfl rfl rfl (by kernel_rfl) ?_
    | refine R.done ?_
    | refine X.then ?_
    | refine C.block ?_
    | refine C.ret ?_
    | refine C.skip ?_
    | refine C.exit ?_
    | refine X.pass_ret ?_
    | refine X.pass_exit ?_
    | refine X.block_normal ?_
    | refine X.block_ret ?_
    | refine X.block_exit ?_
    | refine X.block_other rfl ?_
    | refine C.goto ?_
    | refine C.label ?_
    | refine X.pass_goto ?_
    | refine X.block_goto ?_
    | refine X.jump_ret ?_
    | refine X.jump_normal ?_
    | refine X.jump_exit ?_
    | refine C.tru rfl ?_
    | refine C.fls rfl ?_)
  refine C.draw [[], [0], [0, 1], [0, 1, 2], [0, 1, 2, 3], [], [5], [5, 6], [5, 6, 7], [0, 1, 2, 3, 4, 5, 6, 7, 8], [0, 1, 2, 3, 4, 5, 6, 7, 8, 9]] [] (by kernel_rfl) (by kernel_rfl) ?_
  repeat (first
    | refine C.seq ?_
    | refine C.region ?_
    | refine R.nr ttok rfl (by first | exact Nrm.w (wrap_i64 (by omega) (by omega)) | exact Nrm.w (wrap_u64 (by omega) (by omega)) | exact Nrm.w (wrap_u8 (by omega) (by omega)) | exact Nrm.refl _) rfl (by kernel_rfl) ?_
    | refine R.k rfl rfl ?_
    | refine R.k0 rfl ?_
    | refine R.a ttok rfl rfl (by kernel_rfl) ?_
    | refine R.b rfl rfl rfl (by kernel_rfl) ?_
    | refine R.li ttok rfl rfl rfl rfl rfl rfl (by kernel_rfl) ?_
    | refine R.st ttok rfl rfl rfl rfl rfl rfl rfl (by kernel_rfl) ?_
    | refine R.done ?_
    | refine X.then ?_
    | refine C.block ?_
    | refine C.ret ?_
    | refine C.skip ?_
    | refine C.exit ?_
    | refine X.pass_ret ?_
    | refine X.pass_exit ?_
    | refine X.block_normal ?_
    | refine X.block_ret ?_
    | refine X.block_exit ?_
    | refine X.block_other rfl ?_
    | refine C.goto ?_
    | refine C.label ?_
    | refine X.pass_goto ?_
    | refine X.block_goto ?_
    | refine X.jump_ret ?_
    | refine X.jump_normal ?_
    | refine X.jump_exit ?_
    | refine C.tru rfl ?_
    | refine C.fls rfl ?_)
  rw [show (B.length : Int) - (at_ : Int) = ((B.length - at_ : Nat) : Int) by omega]
  refine X.fin ttok () [] trivial rfl rfl rfl ?_ _ (.inl rfl)
  exact .same rfl rfl rfl rfl .nil
def errAt (at_ : Nat) (e : Int) : Int := if e = 0 then 0 else at_
theorem rerr_spec (B : List UInt8) (c at_ : Nat) (e : Int) : Spec Try.prog 25 [.ptr 0 0 0 0] [rdO B c at_ e, roB B] 2 (σ := Unit) (fun _ => True) (fun _ => .tup [.raw (.int .i64 e), .raw (.int .i64 (errAt at_ e))]) (fun _ => [(0, rdO B c at_ e)]) := by
  refine Spec.of Try.func25 rfl Try.ntmps25 rfl (by simp [AO.Bd, bytesF, AV.bds, AV.bd]) fun ρ w => ?_
  repeat (first
    | refine C.seq ?_
    | refine C.region ?_
    | refine R.nr ttok rfl (by first | exact Nrm.w (wrap_i64 (by omega) (by omega)) | exact Nrm.w (wrap_u64 (by omega) (by omega)) | exact Nrm.w (wrap_u8 (by omega) (by omega)) | exact Nrm.refl _) rfl (by kernel_rfl) ?_
    | refine R.k rfl rfl ?_
    | refine R.k0 rfl ?_
    | refine R.a ttok rfl rfl (by kernel_rfl) ?_
    | refine R.b rfl rfl rfl (by kernel_rfl) ?_
    | refine R.li ttok rfl rfl rfl rfl rfl rfl (by kernel_rfl) ?_
    | refine R.st ttok rfl rfl rfl rfl rfl rfl rfl (by kernel_rfl) ?_
    | refine R.done ?_
    | refine X.then ?_
    | refine C.block ?_
    | refine C.ret ?_
    | refine C.skip ?_
    | refine C.exit ?_
    | refine X.pass_ret ?_
    | refine X.pass_exit ?_
    | refine X.block_normal ?_
    | refine X.block_ret ?_
    | refine X.block_exit ?_
    | refine X.block_other rfl ?_
    | refine C.goto ?_
    | refine C.label ?_
    | refine X.pass_goto ?_
    | refine X.block_goto ?_
    | refine X.jump_ret ?_
    | refine X.jump_normal ?_
    | refine X.jump_exit ?_
    | refine C.tru rfl ?_
    | refine C.fls rfl ?_)
  refine C.dec rfl (fun he => ?_) (fun hne => ?_)
  · subst he
    repeat (first
    | refine C.seq ?_
    | refine C.region ?_
    | refine R.nr ttok rfl (by first | exact Nrm.w (wrap_i64 (by omega) (by omega)) | exact Nrm.w (wrap_u64 (by omega) (by omega)) | exact Nrm.w (wrap_u8 (by omega) (by omega)) | exact Nrm.refl _) rfl (by kernel_rfl) ?_
    | refine R.k rfl rfl ?_
    | refine R.k0 rfl ?_
    | refine R.a ttok rfl rfl (by kernel_rfl) ?_
    | refine R.b rfl rfl rfl (by kernel_rfl) ?_
    | refine R.li ttok rfl rfl rfl rfl rfl rfl (by kernel_rfl) ?_
    | refine R.st ttok rfl rfl rfl rfl rfl rfl rfl (by kernel_rfl) ?_
    | refine R.done ?_
    | refine X.then ?_
    | refine C.block ?_
    | refine C.ret ?_
    | refine C.skip ?_
    | refine C.exit ?_
    | refine X.pass_ret ?_
    | refine X.pass_exit ?_
    | refine X.block_normal ?_
    | refine X.block_ret ?_
    | refine X.block_exit ?_
    | refine X.block_other rfl ?_
    | refine C.goto ?_
    | refine C.label ?_
    | refine X.pass_goto ?_
    | refine X.block_goto ?_
    | refine X.jump_ret ?_
    | refine X.jump_normal ?_
    | refine X.jump_exit ?_
    | refine C.tru rfl ?_
    | refine C.fls rfl ?_)
    refine X.fin ttok () [] trivial rfl rfl rfl ?_ _ (.inl rfl)
    exact .same rfl rfl rfl rfl .nil
  · rw [show errAt at_ e = (at_ : Int) from if_neg hne]
    repeat (first
    | refine C.seq ?_
    | refine C.region ?_
    | refine R.nr ttok rfl (by first | exact Nrm.w (wrap_i64 (by omega) (by omega)) | exact Nrm.w (wrap_u64 (by omega) (by omega)) | exact Nrm.w (wrap_u8 (by omega) (by omega)) | exact Nrm.refl _) rfl (by kernel_rfl) ?_
    | refine R.k rfl rfl ?_
    | refine R.k0 rfl ?_
    | refine R.a ttok rfl rfl (by kernel_rfl) ?_
    | refine R.b rfl rfl rfl (by kernel_rfl) ?_
    | refine R.li ttok rfl rfl rfl rfl rfl rfl (by kernel_rfl) ?_
    | refine R.st ttok rfl rfl rfl rfl rfl rfl rfl (by kernel_rfl) ?_
    | refine R.done ?_
    | refine X.then ?_
    | refine C.block ?_
    | refine C.ret ?_
    | refine C.skip ?_
    | refine C.exit ?_
    | refine X.pass_ret ?_
    | refine X.pass_exit ?_
    | refine X.block_normal ?_
    | refine X.block_ret ?_
    | refine X.block_exit ?_
    | refine X.block_other rfl ?_
    | refine C.goto ?_
    | refine C.label ?_
    | refine X.pass_goto ?_
    | refine X.block_goto ?_
    | refine X.jump_ret ?_
    | refine X.jump_normal ?_
    | refine X.jump_exit ?_
    | refine C.tru rfl ?_
    | refine C.fls rfl ?_)
    refine C.draw [[], [0], [0, 1], [0, 1, 2], [], [4], [4, 5], [4, 5, 6], [0, 1, 2, 3], [0, 1, 2, 3, 4, 5, 6, 7, 8]] [] (by kernel_rfl) (by kernel_rfl) ?_
    repeat (first
    | refine C.seq ?_
    | refine C.region ?_
    | refine R.nr ttok rfl (by first | exact Nrm.w (wrap_i64 (by omega) (by omega)) | exact Nrm.w (wrap_u64 (by omega) (by omega)) | exact Nrm.w (wrap_u8 (by omega) (by omega)) | exact Nrm.refl _) rfl (by kernel_rfl) ?_
    | refine R.k rfl rfl ?_
    | refine R.k0 rfl ?_
    | refine R.a ttok rfl rfl (by kernel_rfl) ?_
    | refine R.b rfl rfl rfl (by kernel_rfl) ?_
    | refine R.li ttok rfl rfl rfl rfl rfl rfl (by kernel_rfl) ?_
    | refine R.st ttok rfl rfl rfl rfl rfl rfl rfl (by kernel_rfl) ?_
    | refine R.done ?_
    | refine X.then ?_
    | refine C.block ?_
    | refine C.ret ?_
    | refine C.skip ?_
    | refine C.exit ?_
    | refine X.pass_ret ?_
    | refine X.pass_exit ?_
    | refine X.block_normal ?_
    | refine X.block_ret ?_
    | refine X.block_exit ?_
    | refine X.block_other rfl ?_
    | refine C.goto ?_
    | refine C.label ?_
    | refine X.pass_goto ?_
    | refine X.block_goto ?_
    | refine X.jump_ret ?_
    | refine X.jump_normal ?_
    | refine X.jump_exit ?_
    | refine C.tru rfl ?_
    | refine C.fls rfl ?_)
    refine X.fin ttok () [] trivial rfl rfl rfl ?_ _ (.inl rfl)
    exact .same rfl rfl rfl rfl .nil
def endE (B : List UInt8) (at_ : Nat) (e : Int) : Int := if e = 0 ∧ 0 < B.length - at_ then 3 else e
theorem rend_spec (B : List UInt8) (c at_ : Nat) (e : Int) (hat : at_ ≤ B.length) (hB : B.length ≤ 1000000000000) : Spec Try.prog 21 [.ptr 0 0 0 0] [rdO B c at_ e, roB B] 2 (σ := Unit) (fun _ => True) (fun _ => .raw (.int .i64 (endE B at_ e))) (fun _ => [(0, rdO B c at_ e)]) := by
  refine Spec.of Try.func21 rfl Try.ntmps21 rfl (by simp [AO.Bd, bytesF, AV.bds, AV.bd]) fun ρ w => ?_
  repeat (first
    | refine C.seq ?_
    | refine C.region ?_
    | refine R.nr ttok rfl (by first | exact Nrm.w (wrap_i64 (by omega) (by omega)) | exact Nrm.w (wrap_u64 (by omega) (by omega)) | exact Nrm.w (wrap_u8 (by omega) (by omega)) | exact Nrm.refl _) rfl (by kernel_rfl) ?_
    | refine R.k rfl rfl ?_
    | refine R.k0 rfl ?_
    | refine R.a ttok rfl rfl (by kernel_rfl) ?_
    | refine R.b rfl rfl rfl (by kernel_rfl) ?_
    | refine R.li ttok rfl rfl rfl rfl rfl rfl (by kernel_rfl) ?_
    | refine R.st ttok rfl rfl rfl rfl rfl rfl rfl (by kernel_rfl) ?_
    | refine R.done ?_
    | refine X.then ?_
    | refine C.block ?_
    | refine C.ret ?_
    | refine C.skip ?_
    | refine C.exit ?_
    | refine X.pass_ret ?_
    | refine X.pass_exit ?_
    | refine X.block_normal ?_
    | refine X.block_ret ?_
    | refine X.block_exit ?_
    | refine X.block_other rfl ?_
    | refine C.goto ?_
    | refine C.label ?_
    | refine X.pass_goto ?_
    | refine X.block_goto ?_
    | refine X.jump_ret ?_
    | refine X.jump_normal ?_
    | refine X.jump_exit ?_
    | refine C.tru rfl ?_
    | refine C.fls rfl ?_)
  refine R.cl [0, 1] (rerr_spec B c at_ e) Try.call25 (.same rfl rfl (.same rfl rfl .nil)) rfl rfl rfl (fun _ => rfl) rfl rfl fun _ _ => ?_
  repeat (first
    | refine C.seq ?_
    | refine C.region ?_
    | refine R.nr ttok rfl (by first | exact Nrm.w (wrap_i64 (by omega) (by omega)) | exact Nrm.w (wrap_u64 (by omega) (by omega)) | exact Nrm.w (wrap_u8 (by omega) (by omega)) | exact Nrm.refl _) rfl (by kernel_rfl) ?_
    | refine R.k rfl rfl ?_
    | refine R.k0 rfl ?_
    | refine R.a ttok rfl rfl (by kernel_rfl) ?_
    | refine R.b rfl rfl rfl (by kernel_rfl) ?_
    | refine R.li ttok rfl rfl rfl rfl rfl rfl (by kernel_rfl) ?_
    | refine R.st ttok rfl rfl rfl rfl rfl rfl rfl (by kernel_rfl) ?_
    | refine R.done ?_
    | refine X.then ?_
    | refine C.block ?_
    | refine C.ret ?_
    | refine C.skip ?_
    | refine C.exit ?_
    | refine X.pass_ret ?_
    | refine X.pass_exit ?_
    | refine X.block_normal ?_
    | refine X.block_ret ?_
    | refine X.block_exit ?_
    | refine X.block_other rfl ?_
    | refine C.goto ?_
    | refine C.label ?_
    | refine X.pass_goto ?_
    | refine X.block_goto ?_
    | refine X.jump_ret ?_
    | refine X.jump_normal ?_
    | refine X.jump_exit ?_
    | refine C.tru rfl ?_
    | refine C.fls rfl ?_)
  by_cases he : e = 0
  · subst he
    repeat (first
    | refine C.seq ?_
    | refine C.region ?_
    | refine R.nr ttok rfl (by first | exact Nrm.w (wrap_i64 (by omega) (by omega)) | exact Nrm.w (wrap_u64 (by omega) (by omega)) | exact Nrm.w (wrap_u8 (by omega) (by omega)) | exact Nrm.refl _) rfl (by kernel_rfl) ?_
    | refine R.k rfl rfl ?_
    | refine R.k0 rfl ?_
    | refine R.a ttok rfl rfl (by kernel_rfl) ?_
    | refine R.b rfl rfl rfl (by kernel_rfl) ?_
    | refine R.li ttok rfl rfl rfl rfl rfl rfl (by kernel_rfl) ?_
    | refine R.st ttok rfl rfl rfl rfl rfl rfl rfl (by kernel_rfl) ?_
    | refine R.done ?_
    | refine X.then ?_
    | refine C.block ?_
    | refine C.ret ?_
    | refine C.skip ?_
    | refine C.exit ?_
    | refine X.pass_ret ?_
    | refine X.pass_exit ?_
    | refine X.block_normal ?_
    | refine X.block_ret ?_
    | refine X.block_exit ?_
    | refine X.block_other rfl ?_
    | refine C.goto ?_
    | refine C.label ?_
    | refine X.pass_goto ?_
    | refine X.block_goto ?_
    | refine X.jump_ret ?_
    | refine X.jump_normal ?_
    | refine X.jump_exit ?_
    | refine C.tru rfl ?_
    | refine C.fls rfl ?_)
    refine R.cl [0, 1] (left_spec B c at_ 0 hat hB) Try.call26 (.same rfl rfl (.same rfl rfl .nil)) rfl rfl rfl (fun _ => rfl) rfl rfl fun _ _ => ?_
    repeat (first
    | refine C.seq ?_
    | refine C.region ?_
    | refine R.nr ttok rfl (by first | exact Nrm.w (wrap_i64 (by omega) (by omega)) | exact Nrm.w (wrap_u64 (by omega) (by omega)) | exact Nrm.w (wrap_u8 (by omega) (by omega)) | exact Nrm.refl _) rfl (by kernel_rfl) ?_
    | refine R.k rfl rfl ?_
    | refine R.k0 rfl ?_
    | refine R.a ttok rfl rfl (by kernel_rfl) ?_
    | refine R.b rfl rfl rfl (by kernel_rfl) ?_
    | refine R.li ttok rfl rfl rfl rfl rfl rfl (by kernel_rfl) ?_
    | refine R.st ttok rfl rfl rfl rfl rfl rfl rfl (by kernel_rfl) ?_
    | refine R.done ?_
    | refine X.then ?_
    | refine C.block ?_
    | refine C.ret ?_
    | refine C.skip ?_
    | refine C.exit ?_
    | refine X.pass_ret ?_
    | refine X.pass_exit ?_
    | refine X.block_normal ?_
    | refine X.block_ret ?_
    | refine X.block_exit ?_
    | refine X.block_other rfl ?_
    | refine C.goto ?_
    | refine C.label ?_
    | refine X.pass_goto ?_
    | refine X.block_goto ?_
    | refine X.jump_ret ?_
    | refine X.jump_normal ?_
    | refine X.jump_exit ?_
    | refine C.tru rfl ?_
    | refine C.fls rfl ?_)
    refine C.dec rfl (fun h => ?_) (fun h => ?_)
    · rw [show endE B at_ 0 = 3 from if_pos ⟨rfl, by omega⟩]
      repeat (first
    | refine C.seq ?_
    | refine C.region ?_
    | refine R.nr ttok rfl (by first | exact Nrm.w (wrap_i64 (by omega) (by omega)) | exact Nrm.w (wrap_u64 (by omega) (by omega)) | exact Nrm.w (wrap_u8 (by omega) (by omega)) | exact Nrm.refl _) rfl (by kernel_rfl) ?_
    | refine R.k rfl rfl ?_
    | refine R.k0 rfl ?_
    | refine R.a ttok rfl rfl (by kernel_rfl) ?_
    | refine R.b rfl rfl rfl (by kernel_rfl) ?_
    | refine R.li ttok rfl rfl rfl rfl rfl rfl (by kernel_rfl) ?_
    | refine R.st ttok rfl rfl rfl rfl rfl rfl rfl (by kernel_rfl) ?_
    | refine R.done ?_
    | refine X.then ?_
    | refine C.block ?_
    | refine C.ret ?_
    | refine C.skip ?_
    | refine C.exit ?_
    | refine X.pass_ret ?_
    | refine X.pass_exit ?_
    | refine X.block_normal ?_
    | refine X.block_ret ?_
    | refine X.block_exit ?_
    | refine X.block_other rfl ?_
    | refine C.goto ?_
    | refine C.label ?_
    | refine X.pass_goto ?_
    | refine X.block_goto ?_
    | refine X.jump_ret ?_
    | refine X.jump_normal ?_
    | refine X.jump_exit ?_
    | refine C.tru rfl ?_
    | refine C.fls rfl ?_)
      refine X.fin ttok () [] trivial rfl rfl rfl ?_ _ (.inl rfl)
      exact .same rfl rfl rfl rfl .nil
    · rw [show endE B at_ 0 = 0 from if_neg (by omega)]
      repeat (first
    | refine C.seq ?_
    | refine C.region ?_
    | refine R.nr ttok rfl (by first | exact Nrm.w (wrap_i64 (by omega) (by omega)) | exact Nrm.w (wrap_u64 (by omega) (by omega)) | exact Nrm.w (wrap_u8 (by omega) (by omega)) | exact Nrm.refl _) rfl (by kernel_rfl) ?_
    | refine R.k rfl rfl ?_
    | refine R.k0 rfl ?_
    | refine R.a ttok rfl rfl (by kernel_rfl) ?_
    | refine R.b rfl rfl rfl (by kernel_rfl) ?_
    | refine R.li ttok rfl rfl rfl rfl rfl rfl (by kernel_rfl) ?_
    | refine R.st ttok rfl rfl rfl rfl rfl rfl rfl (by kernel_rfl) ?_
    | refine R.done ?_
    | refine X.then ?_
    | refine C.block ?_
    | refine C.ret ?_
    | refine C.skip ?_
    | refine C.exit ?_
    | refine X.pass_ret ?_
    | refine X.pass_exit ?_
    | refine X.block_normal ?_
    | refine X.block_ret ?_
    | refine X.block_exit ?_
    | refine X.block_other rfl ?_
    | refine C.goto ?_
    | refine C.label ?_
    | refine X.pass_goto ?_
    | refine X.block_goto ?_
    | refine X.jump_ret ?_
    | refine X.jump_normal ?_
    | refine X.jump_exit ?_
    | refine C.tru rfl ?_
    | refine C.fls rfl ?_)
      refine X.fin ttok () [] trivial rfl rfl rfl ?_ _ (.inl rfl)
      exact .same rfl rfl rfl rfl .nil
  · rw [decide_eq_false he, show endE B at_ e = e from if_neg (fun h => he h.1)]
    repeat (first
    | refine C.seq ?_
    | refine C.region ?_
    | refine R.nr ttok rfl (by first | exact Nrm.w (wrap_i64 (by omega) (by omega)) | exact Nrm.w (wrap_u64 (by omega) (by omega)) | exact Nrm.w (wrap_u8 (by omega) (by omega)) | exact Nrm.refl _) rfl (by kernel_rfl) ?_
    | refine R.k rfl rfl ?_
    | refine R.k0 rfl ?_
    | refine R.a ttok rfl rfl (by kernel_rfl) ?_
    | refine R.b rfl rfl rfl (by kernel_rfl) ?_
    | refine R.li ttok rfl rfl rfl rfl rfl rfl (by kernel_rfl) ?_
    | refine R.st ttok rfl rfl rfl rfl rfl rfl rfl (by kernel_rfl) ?_
    | refine R.done ?_
    | refine X.then ?_
    | refine C.block ?_
    | refine C.ret ?_
    | refine C.skip ?_
    | refine C.exit ?_
    | refine X.pass_ret ?_
    | refine X.pass_exit ?_
    | refine X.block_normal ?_
    | refine X.block_ret ?_
    | refine X.block_exit ?_
    | refine X.block_other rfl ?_
    | refine C.goto ?_
    | refine C.label ?_
    | refine X.pass_goto ?_
    | refine X.block_goto ?_
    | refine X.jump_ret ?_
    | refine X.jump_normal ?_
    | refine X.jump_exit ?_
    | refine C.tru rfl ?_
    | refine C.fls rfl ?_)
    refine X.fin ttok () [] trivial rfl rfl rfl ?_ _ (.inl rfl)
    exact .same rfl rfl rfl rfl .nil
/-- what a Reader's Byte gives -/
def rdByte (B : List UInt8) (at_ : Nat) (e : Int) : UInt8 × Nat × Int := if e ≠ 0 then (0, at_, e) else if B.length ≤ at_ then (0, at_, 2) else (B.getD at_ 0, at_ + 1, 0)
theorem rbyte_take (B : List UInt8) (c at_ : Nat) (e : Int) (hat : at_ ≤ B.length) (hB : B.length ≤ 1000000000000) : Spec Try.prog 36 [.ptr 0 0 0 0] [rdO B c at_ e, roB B] 2 (σ := Unit) (fun _ => True) (fun _ => .raw (byteV (rdByte B at_ e).1)) (fun _ => [(0, rdO B c (rdByte B at_ e).2.1 (rdByte B at_ e).2.2)]) := by
  refine Spec.of Try.func36 rfl Try.ntmps36 rfl (by simp [AO.Bd, bytesF, AV.bds, AV.bd]) fun ρ w => ?_
  repeat (first
    | refine C.seq ?_
    | refine C.region ?_
    | refine R.nr ttok rfl (by first | exact Nrm.w (wrap_i64 (by omega) (by omega)) | exact Nrm.w (wrap_u64 (by omega) (by omega)) | exact Nrm.w (wrap_u8 (by omega) (by omega)) | exact Nrm.refl _) rfl (by kernel_rfl) ?_
    | refine R.k rfl rfl ?_
    | refine R.k0 rfl ?_
    | refine R.a ttok rfl rfl (by kernel_rfl) ?_
    | refine R.b rfl rfl rfl (by kernel_rfl) ?_
    | refine R.li ttok rfl rfl rfl rfl rfl rfl (by kernel_rfl) ?_
    | refine R.st ttok rfl rfl rfl rfl rfl rfl rfl (by kernel_rfl) ?_
    | refine R.done ?_
    | refine X.then ?_
    | refine C.block ?_
    | refine C.ret ?_
    | refine C.skip ?_
    | refine C.exit ?_
    | refine X.pass_ret ?_
    | refine X.pass_exit ?_
    | refine X.block_normal ?_
    | refine X.block_ret ?_
    | refine X.block_exit ?_
    | refine X.block_other rfl ?_
    | refine C.goto ?_
    | refine C.label ?_
    | refine X.pass_goto ?_
    | refine X.block_goto ?_
    | refine X.jump_ret ?_
    | refine X.jump_normal ?_
    | refine X.jump_exit ?_
    | refine C.tru rfl ?_
    | refine C.fls rfl ?_)
  refine R.cl [0, 1] (stopped_spec B c at_ e) Try.call56 (.same rfl rfl (.same rfl rfl .nil)) rfl rfl rfl (fun _ => rfl) rfl rfl fun _ _ => ?_
  repeat (first
    | refine C.seq ?_
    | refine C.region ?_
    | refine R.nr ttok rfl (by first | exact Nrm.w (wrap_i64 (by omega) (by omega)) | exact Nrm.w (wrap_u64 (by omega) (by omega)) | exact Nrm.w (wrap_u8 (by omega) (by omega)) | exact Nrm.refl _) rfl (by kernel_rfl) ?_
    | refine R.k rfl rfl ?_
    | refine R.k0 rfl ?_
    | refine R.a ttok rfl rfl (by kernel_rfl) ?_
    | refine R.b rfl rfl rfl (by kernel_rfl) ?_
    | refine R.li ttok rfl rfl rfl rfl rfl rfl (by kernel_rfl) ?_
    | refine R.st ttok rfl rfl rfl rfl rfl rfl rfl (by kernel_rfl) ?_
    | refine R.done ?_
    | refine X.then ?_
    | refine C.block ?_
    | refine C.ret ?_
    | refine C.skip ?_
    | refine C.exit ?_
    | refine X.pass_ret ?_
    | refine X.pass_exit ?_
    | refine X.block_normal ?_
    | refine X.block_ret ?_
    | refine X.block_exit ?_
    | refine X.block_other rfl ?_
    | refine C.goto ?_
    | refine C.label ?_
    | refine X.pass_goto ?_
    | refine X.block_goto ?_
    | refine X.jump_ret ?_
    | refine X.jump_normal ?_
    | refine X.jump_exit ?_
    | refine C.tru rfl ?_
    | refine C.fls rfl ?_)
  refine C.dec rfl (fun hne => ?_) (fun he => ?_)
  · rw [show rdByte B at_ e = (0, at_, e) from if_pos hne]
    repeat (first
    | refine C.seq ?_
    | refine C.region ?_
    | refine R.nr ttok rfl (by first | exact Nrm.w (wrap_i64 (by omega) (by omega)) | exact Nrm.w (wrap_u64 (by omega) (by omega)) | exact Nrm.w (wrap_u8 (by omega) (by omega)) | exact Nrm.refl _) rfl (by kernel_rfl) ?_
    | refine R.k rfl rfl ?_
    | refine R.k0 rfl ?_
    | refine R.a ttok rfl rfl (by kernel_rfl) ?_
    | refine R.b rfl rfl rfl (by kernel_rfl) ?_
    | refine R.li ttok rfl rfl rfl rfl rfl rfl (by kernel_rfl) ?_
    | refine R.st ttok rfl rfl rfl rfl rfl rfl rfl (by kernel_rfl) ?_
    | refine R.done ?_
    | refine X.then ?_
    | refine C.block ?_
    | refine C.ret ?_
    | refine C.skip ?_
    | refine C.exit ?_
    | refine X.pass_ret ?_
    | refine X.pass_exit ?_
    | refine X.block_normal ?_
    | refine X.block_ret ?_
    | refine X.block_exit ?_
    | refine X.block_other rfl ?_
    | refine C.goto ?_
    | refine C.label ?_
    | refine X.pass_goto ?_
    | refine X.block_goto ?_
    | refine X.jump_ret ?_
    | refine X.jump_normal ?_
    | refine X.jump_exit ?_
    | refine C.tru rfl ?_
    | refine C.fls rfl ?_)
    refine X.fin ttok () [] trivial rfl rfl rfl ?_ _ (.inl rfl)
    exact .same rfl rfl rfl rfl .nil
  · obtain rfl : e = 0 := Decidable.not_not.1 he
    repeat (first
    | refine C.seq ?_
    | refine C.region ?_
    | refine R.nr ttok rfl (by first | exact Nrm.w (wrap_i64 (by omega) (by omega)) | exact Nrm.w (wrap_u64 (by omega) (by omega)) | exact Nrm.w (wrap_u8 (by omega) (by omega)) | exact Nrm.refl _) rfl (by kernel_rfl) ?_
    | refine R.k rfl rfl ?_
    | refine R.k0 rfl ?_
    | refine R.a ttok rfl rfl (by kernel_rfl) ?_
    | refine R.b rfl rfl rfl (by kernel_rfl) ?_
    | refine R.li ttok rfl rfl rfl rfl rfl rfl (by kernel_rfl) ?_
    | refine R.st ttok rfl rfl rfl rfl rfl rfl rfl (by kernel_rfl) ?_
    | refine R.done ?_
    | refine X.then ?_
    | refine C.block ?_
    | refine C.ret ?_
    | refine C.skip ?_
    | refine C.exit ?_
    | refine X.pass_ret ?_
    | refine X.pass_exit ?_
    | refine X.block_normal ?_
    | refine X.block_ret ?_
    | refine X.block_exit ?_
    | refine X.block_other rfl ?_
    | refine C.goto ?_
    | refine C.label ?_
    | refine X.pass_goto ?_
    | refine X.block_goto ?_
    | refine X.jump_ret ?_
    | refine X.jump_normal ?_
    | refine X.jump_exit ?_
    | refine C.tru rfl ?_
    | refine C.fls rfl ?_)
    refine C.draw [[], [0], [0, 1], [0, 1, 2], [], [4], [4, 5], [4, 5, 6], [4, 5, 6, 7], [0, 1, 2, 3, 4, 5, 6, 7, 8]] [] (by kernel_rfl) (by kernel_rfl) ?_
    repeat (first
    | refine C.seq ?_
    | refine C.region ?_
    | refine R.nr ttok rfl (by first | exact Nrm.w (wrap_i64 (by omega) (by omega)) | exact Nrm.w (wrap_u64 (by omega) (by omega)) | exact Nrm.w (wrap_u8 (by omega) (by omega)) | exact Nrm.refl _) rfl (by kernel_rfl) ?_
    | refine R.k rfl rfl ?_
    | refine R.k0 rfl ?_
    | refine R.a ttok rfl rfl (by kernel_rfl) ?_
    | refine R.b rfl rfl rfl (by kernel_rfl) ?_
    | refine R.li ttok rfl rfl rfl rfl rfl rfl (by kernel_rfl) ?_
    | refine R.st ttok rfl rfl rfl rfl rfl rfl rfl (by kernel_rfl) ?_
    | refine R.done ?_
    | refine X.then ?_
    | refine C.block ?_
    | refine C.ret ?_
    | refine C.skip ?_
    | refine C.exit ?_
    | refine X.pass_ret ?_
    | refine X.pass_exit ?_
    | refine X.block_normal ?_
    | refine X.block_ret ?_
    | refine X.block_exit ?_
    | refine X.block_other rfl ?_
    | refine C.goto ?_
    | refine C.label ?_
    | refine X.pass_goto ?_
    | refine X.block_goto ?_
    | refine X.jump_ret ?_
    | refine X.jump_normal ?_
    | refine X.jump_exit ?_
    | refine C.tru rfl ?_
    | refine C.fls rfl ?_)
    refine C.dec rfl (fun hge => ?_) (fun hlt => ?_)
    · rw [show rdByte B at_ 0 = (0, at_, 2) from (if_neg (by simp)).trans (if_pos (by omega))]
      repeat (first
    | refine C.seq ?_
    | refine C.region ?_
    | refine R.nr ttok rfl (by first | exact Nrm.w (wrap_i64 (by omega) (by omega)) | exact Nrm.w (wrap_u64 (by omega) (by omega)) | exact Nrm.w (wrap_u8 (by omega) (by omega)) | exact Nrm.refl _) rfl (by kernel_rfl) ?_
    | refine R.k rfl rfl ?_
    | refine R.k0 rfl ?_
    | refine R.a ttok rfl rfl (by kernel_rfl) ?_
    | refine R.b rfl rfl rfl (by kernel_rfl) ?_
    | refine R.li ttok rfl rfl rfl rfl rfl rfl (by kernel_rfl) ?_
    | refine R.st ttok rfl rfl rfl rfl rfl rfl rfl (by kernel_rfl) ?_
    | refine R.done ?_
    | refine X.then ?_
    | refine C.block ?_
    | refine C.ret ?_
    | refine C.skip ?_
    | refine C.exit ?_
    | refine X.pass_ret ?_
    | refine X.pass_exit ?_
    | refine X.block_normal ?_
    | refine X.block_ret ?_
    | refine X.block_exit ?_
    | refine X.block_other rfl ?_
    | refine C.goto ?_
    | refine C.label ?_
    | refine X.pass_goto ?_
    | refine X.block_goto ?_
    | refine X.jump_ret ?_
    | refine X.jump_normal ?_
    | refine X.jump_exit ?_
    | refine C.tru rfl ?_
    | refine C.fls rfl ?_)
      refine X.fin ttok () [] trivial rfl rfl rfl ?_ _ (.inl rfl)
      exact .same rfl rfl rfl rfl .nil
    · have hlt : at_ < B.length := by omega
      rw [show rdByte B at_ 0 = (B.getD at_ 0, at_ + 1, 0) from (if_neg (by simp)).trans (if_neg (by omega))]
      repeat (first
    | refine C.seq ?_
    | refine C.region ?_
    | refine R.nr ttok rfl (by first | exact Nrm.w (wrap_i64 (by omega) (by omega)) | exact Nrm.w (wrap_u64 (by omega) (by omega)) | exact Nrm.w (wrap_u8 (by omega) (by omega)) | exact Nrm.refl _) rfl (by kernel_rfl) ?_
    | refine R.k rfl rfl ?_
    | refine R.k0 rfl ?_
    | refine R.a ttok rfl rfl (by kernel_rfl) ?_
    | refine R.b rfl rfl rfl (by kernel_rfl) ?_
    | refine R.li ttok rfl rfl rfl rfl rfl rfl (by kernel_rfl) ?_
    | refine R.st ttok rfl rfl rfl rfl rfl rfl rfl (by kernel_rfl) ?_
    | refine R.done ?_
    | refine X.then ?_
    | refine C.block ?_
    | refine C.ret ?_
    | refine C.skip ?_
    | refine C.exit ?_
    | refine X.pass_ret ?_
    | refine X.pass_exit ?_
    | refine X.block_normal ?_
    | refine X.block_ret ?_
    | refine X.block_exit ?_
    | refine X.block_other rfl ?_
    | refine C.goto ?_
    | refine C.label ?_
    | refine X.pass_goto ?_
    | refine X.block_goto ?_
    | refine X.jump_ret ?_
    | refine X.jump_normal ?_
    | refine X.jump_exit ?_
    | refine C.tru rfl ?_
    | refine C.fls rfl ?_)
      refine C.draw [[], [0], [0, 1], [0, 1, 2], [], [4], [4, 5], [4, 5, 6], [4, 5, 6, 7], [0, 1, 2, 3, 4, 5, 6, 7, 8], [0, 1, 2, 3, 4, 5, 6, 7, 8, 9], [0, 1, 2, 3, 4, 5, 6, 7, 8, 9, 10]] [] (by kernel_rfl) (by kernel_rfl) ?_
      repeat (first
    | refine C.seq ?_
    | refine C.region ?_
    | refine R.nr ttok rfl (by first | exact Nrm.w (wrap_i64 (by omega) (by omega)) | exact Nrm.w (wrap_u64 (by omega) (by omega)) | exact Nrm.w (wrap_u8 (by omega) (by omega)) | exact Nrm.refl _) rfl (by kernel_rfl) ?_
    | refine R.k rfl rfl ?_
    | refine R.k0 rfl ?_
    | refine R.a ttok rfl rfl (by kernel_rfl) ?_
    | refine R.b rfl rfl rfl (by kernel_rfl) ?_
    | refine R.li ttok rfl rfl rfl rfl rfl rfl (by kernel_rfl) ?_
    | refine R.st ttok rfl rfl rfl rfl rfl rfl rfl (by kernel_rfl) ?_
    | refine R.done ?_
    | refine X.then ?_
    | refine C.block ?_
    | refine C.ret ?_
    | refine C.skip ?_
    | refine C.exit ?_
    | refine X.pass_ret ?_
    | refine X.pass_exit ?_
    | refine X.block_normal ?_
    | refine X.block_ret ?_
    | refine X.block_exit ?_
    | refine X.block_other rfl ?_
    | refine C.goto ?_
    | refine C.label ?_
    | refine X.pass_goto ?_
    | refine X.block_goto ?_
    | refine X.jump_ret ?_
    | refine X.jump_normal ?_
    | refine X.jump_exit ?_
    | refine C.tru rfl ?_
    | refine C.fls rfl ?_)
      refine R.ix ttok at_ rfl rfl rfl rfl rfl rfl (by omega) hlt (⟨Nat.zero_le _, by omega⟩ : 0 ≤ 0 + at_ ∧ 0 + at_ < 0 + B.length) rfl ?_
      refine R.ldo ttok rfl rfl rfl rfl rfl rfl hlt ?_
      repeat (first
    | refine C.seq ?_
    | refine C.region ?_
    | refine R.nr ttok rfl (by first | exact Nrm.w (wrap_i64 (by omega) (by omega)) | exact Nrm.w (wrap_u64 (by omega) (by omega)) | exact Nrm.w (wrap_u8 (by omega) (by omega)) | exact Nrm.refl _) rfl (by kernel_rfl) ?_
    | refine R.k rfl rfl ?_
    | refine R.k0 rfl ?_
    | refine R.a ttok rfl rfl (by kernel_rfl) ?_
    | refine R.b rfl rfl rfl (by kernel_rfl) ?_
    | refine R.li ttok rfl rfl rfl rfl rfl rfl (by kernel_rfl) ?_
    | refine R.st ttok rfl rfl rfl rfl rfl rfl rfl (by kernel_rfl) ?_
    | refine R.done ?_
    | refine X.then ?_
    | refine C.block ?_
    | refine C.ret ?_
    | refine C.skip ?_
    | refine C.exit ?_
    | refine X.pass_ret ?_
    | refine X.pass_exit ?_
    | refine X.block_normal ?_
    | refine X.block_ret ?_
    | refine X.block_exit ?_
    | refine X.block_other rfl ?_
    | refine C.goto ?_
    | refine C.label ?_
    | refine X.pass_goto ?_
    | refine X.block_goto ?_
    | refine X.jump_ret ?_
    | refine X.jump_normal ?_
    | refine X.jump_exit ?_
    | refine C.tru rfl ?_
    | refine C.fls rfl ?_)
      refine X.fin ttok () [] trivial rfl rfl rfl ?_ _ (.inl rfl)
      exact .same rfl rfl rfl rfl .nil
end Go.Proofs.Ytchbncbojfiiiaa
