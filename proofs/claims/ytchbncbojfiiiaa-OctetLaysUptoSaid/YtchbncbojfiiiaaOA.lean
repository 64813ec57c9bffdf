/- octet: the document's Reader -/
import Derived.Test.YtchbncbojfiiiaaO9
namespace Go.Proofs.Ytchbncbojfiiiaa
set_option linter.unusedVariables false
set_option linter.unusedSimpArgs false
open Go.RowKit
set_option maxRecDepth 100000
set_option maxHeartbeats 4000000
abbrev refR (l off : Nat) (B : List UInt8) (c at_ : Nat) (e : Int) (st : Nat) : AV := .agg [.sl l 1 off B.length c, .raw (.int .i64 at_), .raw (.int .i64 e), .raw (.int .i64 st)]
theorem qread_spec (off : Nat) (B : List UInt8) (c : Nat) : Spec Try.prog 17 [.sl 0 1 off B.length c] [roBo off B] 1 (σ := Unit) (fun _ => True) (fun _ => refR 0 off B c 0 0 0) (fun _ => []) := by
  refine Spec.of Try.func17 rfl Try.ntmps17 rfl (by simp [AO.Bd, bytesF, AV.bds, AV.bd]) fun ρ w => ?_
  repeat (first
    | refine C.seq ?_
    | refine C.region ?_
    | refine R.nr ttok rfl (by first | exact Nrm.w (wrap_i64 (by omega) (by omega)) | exact Nrm.w (wrap_u64 (by omega) (by omega)) | exact Nrm.w (wrap_u8 (by omega) (by omega)) | exact Nrm.refl _) rfl (by kernel_rfl) ?_
    | refine R.k rfl rfl ?_
    | refine R.k0 rfl ?_
    | refine R.a ttok rfl rfl (by kernel_rfl) ?_
    | refine R.b rfl rfl rfl (by kernel_rfl) ?_
    | refine R.li ttok rfl rfl rfl rfl rfl rfl (by kernel_rfl) ?_
    | refine R.st ttok rfl rfl rfl rfl rfl rfl rfl (by kernel_rfl) ?_
    | refine R.done ?_
    | refine X.then ?_
    | refine C.block ?_
    | refine C.ret ?_
    | refine C.skip ?_
    | refine C.exit ?_
    | refine X.pass_ret ?_
    | refine X.pass_exit ?_
    | refine X.block_normal ?_
    | refine X.block_ret ?_
    | refine X.block_exit ?_
    | refine X.block_other rfl ?_
    | refine C.goto ?_
    | refine C.label ?_
    | refine X.pass_goto ?_
    | refine X.block_goto ?_
    | refine X.jump_ret ?_
    | refine X.jump_normal ?_
    | refine X.jump_exit ?_
    | refine C.tru rfl ?_
    | refine C.fls rfl ?_)
  exact X.fin ttok () [] trivial rfl rfl rfl .nil _ (.inl rfl)
theorem qends_spec (off : Nat) (B : List UInt8) (c at_ st : Nat) (e x : Int) : Spec Try.prog 60 [refR 0 off B c at_ e st, .raw (.int .i64 x)] [roBo off B] 1 (σ := Unit) (fun _ => True) (fun _ => refR 0 off B c at_ x at_) (fun _ => []) := by
  refine Spec.of Try.func60 rfl Try.ntmps60 rfl (by simp [AO.Bd, bytesF, AV.bds, AV.bd]) fun ρ w => ?_
  repeat (first
    | refine C.seq ?_
    | refine C.region ?_
    | refine R.nr ttok rfl (by first | exact Nrm.w (wrap_i64 (by omega) (by omega)) | exact Nrm.w (wrap_u64 (by omega) (by omega)) | exact Nrm.w (wrap_u8 (by omega) (by omega)) | exact Nrm.refl _) rfl (by kernel_rfl) ?_
    | refine R.k rfl rfl ?_
    | refine R.k0 rfl ?_
    | refine R.a ttok rfl rfl (by kernel_rfl) ?_
    | refine R.b rfl rfl rfl (by kernel_rfl) ?_
    | refine R.li ttok rfl rfl rfl rfl rfl rfl (by kernel_rfl) ?_
    | refine R.st ttok rfl rfl rfl rfl rfl rfl rfl (by kernel_rfl) ?_
    | refine R.done ?_
    | refine X.then ?_
    | refine C.block ?_
    | refine C.ret ?_
    | refine C.skip ?_
    | refine C.exit ?_
    | refine X.pass_ret ?_
    | refine X.pass_exit ?_
    | refine X.block_normal ?_
    | refine X.block_ret ?_
    | refine X.block_exit ?_
    | refine X.block_other rfl ?_
    | refine C.goto ?_
    | refine C.label ?_
    | refine X.pass_goto ?_
    | refine X.block_goto ?_
    | refine X.jump_ret ?_
    | refine X.jump_normal ?_
    | refine X.jump_exit ?_
    | refine C.tru rfl ?_
    | refine C.fls rfl ?_)
  exact X.fin ttok () [] trivial rfl rfl rfl .nil _ (.inl rfl)
theorem qleft_spec (off : Nat) (B : List UInt8) (c at_ st : Nat) (e : Int) (hat : at_ ≤ B.length) (hB : B.length ≤ 1000000000000) : Spec Try.prog 43 [refR 0 off B c at_ e st] [roBo off B] 1 (σ := Unit) (fun _ => True) (fun _ => .raw (.int .i64 (B.length - at_ : Nat))) (fun _ => []) := by
  refine Spec.of Try.func43 rfl Try.ntmps43 rfl (by simp [AO.Bd, bytesF, AV.bds, AV.bd]) fun ρ w => ?_
  repeat (first
    | refine C.seq ?_
    | refine C.region ?_
    | refine R.nr ttok rfl (by first | exact Nrm.w (wrap_i64 (by omega) (by omega)) | exact Nrm.w (wrap_u64 (by omega) (by omega)) | exact Nrm.w (wrap_u8 (by omega) (by omega)) | exact Nrm.refl _) rfl (by kernel_rfl) ?_
    | refine R.k rfl rfl ?_
    | refine R.k0 rfl ?_
    | refine R.a ttok rfl rfl (by kernel_rfl) ?_
    | refine R.b rfl rfl rfl (by kernel_rfl) ?_
    | refine R.li ttok rfl rfl rfl rfl rfl rfl (by kernel_rfl) ?_
    | refine R.st ttok rfl rfl rfl rfl rfl rfl rfl (by kernel_rfl) ?_
    | refine R.done ?_
    | refine X.then ?_
    | refine C.block ?_
    | refine C.ret ?_
    | refine C.skip ?_
    | refine C.exit ?_
    | refine X.pass_ret ?_
    | refine X.pass_exit ?_
    | refine X.block_normal ?_
    | refine X.block_ret ?_
    | refine X.block_exit ?_
    | refine X.block_other rfl ?_
    | refine C.goto ?_
    | refine C.label ?_
    | refine X.pass_goto ?_
    | refine X.block_goto ?_
    | refine X.jump_ret ?_
    | refine X.jump_normal ?_
    | refine X.jump_exit ?_
    | refine C.tru rfl ?_
    | refine C.fls rfl ?_)
  rw [show (B.length : Int) - (at_ : Int) = ((B.length - at_ : Nat) : Int) by omega]
  exact X.fin ttok () [] trivial rfl rfl rfl .nil _ (.inl rfl)
theorem qend_spec (off : Nat) (B : List UInt8) (c at_ st : Nat) (e : Int) (hat : at_ ≤ B.length) (hB : B.length ≤ 1000000000000) : Spec Try.prog 44 [refR 0 off B c at_ e st] [roBo off B] 1 (σ := Unit) (fun _ => True) (fun _ => .raw (.int .i64 (endE B at_ e))) (fun _ => []) := by
  refine Spec.of Try.func44 rfl Try.ntmps44 rfl (by simp [AO.Bd, bytesF, AV.bds, AV.bd]) fun ρ w => ?_
  repeat (first
    | refine C.seq ?_
    | refine C.region ?_
    | refine R.nr ttok rfl (by first | exact Nrm.w (wrap_i64 (by omega) (by omega)) | exact Nrm.w (wrap_u64 (by omega) (by omega)) | exact Nrm.w (wrap_u8 (by omega) (by omega)) | exact Nrm.refl _) rfl (by kernel_rfl) ?_
    | refine R.k rfl rfl ?_
    | refine R.k0 rfl ?_
    | refine R.a ttok rfl rfl (by kernel_rfl) ?_
    | refine R.b rfl rfl rfl (by kernel_rfl) ?_
    | refine R.li ttok rfl rfl rfl rfl rfl rfl (by kernel_rfl) ?_
    | refine R.st ttok rfl rfl rfl rfl rfl rfl rfl (by kernel_rfl) ?_
    | refine R.done ?_
    | refine X.then ?_
    | refine C.block ?_
    | refine C.ret ?_
    | refine C.skip ?_
    | refine C.exit ?_
    | refine X.pass_ret ?_
    | refine X.pass_exit ?_
    | refine X.block_normal ?_
    | refine X.block_ret ?_
    | refine X.block_exit ?_
    | refine X.block_other rfl ?_
    | refine C.goto ?_
    | refine C.label ?_
    | refine X.pass_goto ?_
    | refine X.block_goto ?_
    | refine X.jump_ret ?_
    | refine X.jump_normal ?_
    | refine X.jump_exit ?_
    | refine C.tru rfl ?_
    | refine C.fls rfl ?_)
  by_cases he : e = 0
  · subst he
    repeat (first
    | refine C.seq ?_
    | refine C.region ?_
    | refine R.nr ttok rfl (by first | exact Nrm.w (wrap_i64 (by omega) (by omega)) | exact Nrm.w (wrap_u64 (by omega) (by omega)) | exact Nrm.w (wrap_u8 (by omega) (by omega)) | exact Nrm.refl _) rfl (by kernel_rfl) ?_
    | refine R.k rfl rfl ?_
    | refine R.k0 rfl ?_
    | refine R.a ttok rfl rfl (by kernel_rfl) ?_
    | refine R.b rfl rfl rfl (by kernel_rfl) ?_
    | refine R.li ttok rfl rfl rfl rfl rfl rfl (by kernel_rfl) ?_
    | refine R.st ttok rfl rfl rfl rfl rfl rfl rfl (by kernel_rfl) ?_
    | refine R.done ?_
    | refine X.then ?_
    | refine C.block ?_
    | refine C.ret ?_
    | refine C.skip ?_
    | refine C.exit ?_
    | refine X.pass_ret ?_
    | refine X.pass_exit ?_
    | refine X.block_normal ?_
    | refine X.block_ret ?_
    | refine X.block_exit ?_
    | refine X.block_other rfl ?_
    | refine C.goto ?_
    | refine C.label ?_
    | refine X.pass_goto ?_
    | refine X.block_goto ?_
    | refine X.jump_ret ?_
    | refine X.jump_normal ?_
    | refine X.jump_exit ?_
    | refine C.tru rfl ?_
    | refine C.fls rfl ?_)
    refine C.dec rfl (fun h => ?_) (fun h => ?_)
    · rw [show endE B at_ 0 = 3 from if_pos ⟨rfl, by omega⟩]
      repeat (first
    | refine C.seq ?_
    | refine C.region ?_
    | refine R.nr ttok rfl (by first | exact Nrm.w (wrap_i64 (by omega) (by omega)) | exact Nrm.w (wrap_u64 (by omega) (by omega)) | exact Nrm.w (wrap_u8 (by omega) (by omega)) | exact Nrm.refl _) rfl (by kernel_rfl) ?_
    | refine R.k rfl rfl ?_
    | refine R.k0 rfl ?_
    | refine R.a ttok rfl rfl (by kernel_rfl) ?_
    | refine R.b rfl rfl rfl (by kernel_rfl) ?_
    | refine R.li ttok rfl rfl rfl rfl rfl rfl (by kernel_rfl) ?_
    | refine R.st ttok rfl rfl rfl rfl rfl rfl rfl (by kernel_rfl) ?_
    | refine R.done ?_
    | refine X.then ?_
    | refine C.block ?_
    | refine C.ret ?_
    | refine C.skip ?_
    | refine C.exit ?_
    | refine X.pass_ret ?_
    | refine X.pass_exit ?_
    | refine X.block_normal ?_
    | refine X.block_ret ?_
    | refine X.block_exit ?_
    | refine X.block_other rfl ?_
    | refine C.goto ?_
    | refine C.label ?_
    | refine X.pass_goto ?_
    | refine X.block_goto ?_
    | refine X.jump_ret ?_
    | refine X.jump_normal ?_
    | refine X.jump_exit ?_
    | refine C.tru rfl ?_
    | refine C.fls rfl ?_)
      exact X.fin ttok () [] trivial rfl rfl rfl .nil _ (.inl rfl)
    · rw [show endE B at_ 0 = 0 from if_neg (by omega)]
      repeat (first
    | refine C.seq ?_
    | refine C.region ?_
    | refine R.nr ttok rfl (by first | exact Nrm.w (wrap_i64 (by omega) (by omega)) | exact Nrm.w (wrap_u64 (by omega) (by omega)) | exact Nrm.w (wrap_u8 (by omega) (by omega)) | exact Nrm.refl _) rfl (by kernel_rfl) ?_
    | refine R.k rfl rfl ?_
    | refine R.k0 rfl ?_
    | refine R.a ttok rfl rfl (by kernel_rfl) ?_
    | refine R.b rfl rfl rfl (by kernel_rfl) ?_
    | refine R.li ttok rfl rfl rfl rfl rfl rfl (by kernel_rfl) ?_
    | refine R.st ttok rfl rfl rfl rfl rfl rfl rfl (by kernel_rfl) ?_
    | refine R.done ?_
    | refine X.then ?_
    | refine C.block ?_
    | refine C.ret ?_
    | refine C.skip ?_
    | refine C.exit ?_
    | refine X.pass_ret ?_
    | refine X.pass_exit ?_
    | refine X.block_normal ?_
    | refine X.block_ret ?_
    | refine X.block_exit ?_
    | refine X.block_other rfl ?_
    | refine C.goto ?_
    | refine C.label ?_
    | refine X.pass_goto ?_
    | refine X.block_goto ?_
    | refine X.jump_ret ?_
    | refine X.jump_normal ?_
    | refine X.jump_exit ?_
    | refine C.tru rfl ?_
    | refine C.fls rfl ?_)
      exact X.fin ttok () [] trivial rfl rfl rfl .nil _ (.inl rfl)
  · rw [decide_eq_false he, show endE B at_ e = e from if_neg (fun h => he h.1)]
    repeat (first
    | refine C.seq ?_
    | refine C.region ?_
    | refine R.nr ttok rfl (by first | exact Nrm.w (wrap_i64 (by omega) (by omega)) | exact Nrm.w (wrap_u64 (by omega) (by omega)) | exact Nrm.w (wrap_u8 (by omega) (by omega)) | exact Nrm.refl _) rfl (by kernel_rfl) ?_
    | refine R.k rfl rfl ?_
    | refine R.k0 rfl ?_
    | refine R.a ttok rfl rfl (by kernel_rfl) ?_
    | refine R.b rfl rfl rfl (by kernel_rfl) ?_
    | refine R.li ttok rfl rfl rfl rfl rfl rfl (by kernel_rfl) ?_
    | refine R.st ttok rfl rfl rfl rfl rfl rfl rfl (by kernel_rfl) ?_
    | refine R.done ?_
    | refine X.then ?_
    | refine C.block ?_
    | refine C.ret ?_
    | refine C.skip ?_
    | refine C.exit ?_
    | refine X.pass_ret ?_
    | refine X.pass_exit ?_
    | refine X.block_normal ?_
    | refine X.block_ret ?_
    | refine X.block_exit ?_
    | refine X.block_other rfl ?_
    | refine C.goto ?_
    | refine C.label ?_
    | refine X.pass_goto ?_
    | refine X.block_goto ?_
    | refine X.jump_ret ?_
    | refine X.jump_normal ?_
    | refine X.jump_exit ?_
    | refine C.tru rfl ?_
    | refine C.fls rfl ?_)
    exact X.fin ttok () [] trivial rfl rfl rfl .nil _ (.inl rfl)
/-- where a Reader stopped -/
def stF (st at_ : Nat) (e e' : Int) : Nat := if e ≠ 0 then st else if e' ≠ 0 then at_ else st
theorem qbyte_spec (off : Nat) (B : List UInt8) (c at_ st : Nat) (e : Int) (hat : at_ ≤ B.length) (hB : B.length ≤ 1000000000000) : Spec Try.prog 45 [refR 0 off B c at_ e st] [roBo off B] 1 (σ := Unit) (fun _ => True) (fun _ => .tup [.raw (byteV (rdByte B at_ e).1), refR 0 off B c (rdByte B at_ e).2.1 (rdByte B at_ e).2.2 (stF st at_ e (rdByte B at_ e).2.2)]) (fun _ => []) := by
  refine Spec.of Try.func45 rfl Try.ntmps45 rfl (by simp [AO.Bd, bytesF, AV.bds, AV.bd]) fun ρ w => ?_
  repeat (first
    | refine C.seq ?_
    | refine C.region ?_
    | refine R.nr ttok rfl (by first | exact Nrm.w (wrap_i64 (by omega) (by omega)) | exact Nrm.w (wrap_u64 (by omega) (by omega)) | exact Nrm.w (wrap_u8 (by omega) (by omega)) | exact Nrm.refl _) rfl (by kernel_rfl) ?_
    | refine R.k rfl rfl ?_
    | refine R.k0 rfl ?_
    | refine R.a ttok rfl rfl (by kernel_rfl) ?_
    | refine R.b rfl rfl rfl (by kernel_rfl) ?_
    | refine R.li ttok rfl rfl rfl rfl rfl rfl (by kernel_rfl) ?_
    | refine R.st ttok rfl rfl rfl rfl rfl rfl rfl (by kernel_rfl) ?_
    | refine R.done ?_
    | refine X.then ?_
    | refine C.block ?_
    | refine C.ret ?_
    | refine C.skip ?_
    | refine C.exit ?_
    | refine X.pass_ret ?_
    | refine X.pass_exit ?_
    | refine X.block_normal ?_
    | refine X.block_ret ?_
    | refine X.block_exit ?_
    | refine X.block_other rfl ?_
    | refine C.goto ?_
    | refine C.label ?_
    | refine X.pass_goto ?_
    | refine X.block_goto ?_
    | refine X.jump_ret ?_
    | refine X.jump_normal ?_
    | refine X.jump_exit ?_
    | refine C.tru rfl ?_
    | refine C.fls rfl ?_)
  refine C.dec rfl (fun hne => ?_) (fun he => ?_)
  · rw [show rdByte B at_ e = (0, at_, e) from if_pos hne, show stF st at_ e e = st from if_pos hne]
    repeat (first
    | refine C.seq ?_
    | refine C.region ?_
    | refine R.nr ttok rfl (by first | exact Nrm.w (wrap_i64 (by omega) (by omega)) | exact Nrm.w (wrap_u64 (by omega) (by omega)) | exact Nrm.w (wrap_u8 (by omega) (by omega)) | exact Nrm.refl _) rfl (by kernel_rfl) ?_
    | refine R.k rfl rfl ?_
    | refine R.k0 rfl ?_
    | refine R.a ttok rfl rfl (by kernel_rfl) ?_
    | refine R.b rfl rfl rfl (by kernel_rfl) ?_
    | refine R.li ttok rfl rfl rfl rfl rfl rfl (by kernel_rfl) ?_
    | refine R.st ttok rfl rfl rfl rfl rfl rfl rfl (by kernel_rfl) ?_
    | refine R.done ?_
    | refine X.then ?_
    | refine C.block ?_
    | refine C.ret ?_
    | refine C.skip ?_
    | refine C.exit ?_
    | refine X.pass_ret ?_
    | refine X.pass_exit ?_
    | refine X.block_normal ?_
    | refine X.block_ret ?_
    | refine X.block_exit ?_
    | refine X.block_other rfl ?_
    | refine C.goto ?_
    | refine C.label ?_
    | refine X.pass_goto ?_
    | refine X.block_goto ?_
    | refine X.jump_ret ?_
    | refine X.jump_normal ?_
    | refine X.jump_exit ?_
    | refine C.tru rfl ?_
    | refine C.fls rfl ?_)
    refine C.draw [[], [], [0, 1]] [2] (by kernel_rfl) (by kernel_rfl) ?_
    repeat (first
    | refine C.seq ?_
    | refine C.region ?_
    | refine R.nr ttok rfl (by first | exact Nrm.w (wrap_i64 (by omega) (by omega)) | exact Nrm.w (wrap_u64 (by omega) (by omega)) | exact Nrm.w (wrap_u8 (by omega) (by omega)) | exact Nrm.refl _) rfl (by kernel_rfl) ?_
    | refine R.k rfl rfl ?_
    | refine R.k0 rfl ?_
    | refine R.a ttok rfl rfl (by kernel_rfl) ?_
    | refine R.b rfl rfl rfl (by kernel_rfl) ?_
    | refine R.li ttok rfl rfl rfl rfl rfl rfl (by kernel_rfl) ?_
    | refine R.st ttok rfl rfl rfl rfl rfl rfl rfl (by kernel_rfl) ?_
    | refine R.done ?_
    | refine X.then ?_
    | refine C.block ?_
    | refine C.ret ?_
    | refine C.skip ?_
    | refine C.exit ?_
    | refine X.pass_ret ?_
    | refine X.pass_exit ?_
    | refine X.block_normal ?_
    | refine X.block_ret ?_
    | refine X.block_exit ?_
    | refine X.block_other rfl ?_
    | refine C.goto ?_
    | refine C.label ?_
    | refine X.pass_goto ?_
    | refine X.block_goto ?_
    | refine X.jump_ret ?_
    | refine X.jump_normal ?_
    | refine X.jump_exit ?_
    | refine C.tru rfl ?_
    | refine C.fls rfl ?_)
    exact X.fin ttok () [] trivial rfl rfl rfl .nil _ (.inl rfl)
  obtain rfl : e = 0 := Decidable.not_not.1 he
  repeat (first
    | refine C.seq ?_
    | refine C.region ?_
    | refine R.nr ttok rfl (by first | exact Nrm.w (wrap_i64 (by omega) (by omega)) | exact Nrm.w (wrap_u64 (by omega) (by omega)) | exact Nrm.w (wrap_u8 (by omega) (by omega)) | exact Nrm.refl _) rfl (by kernel_rfl) ?_
    | refine R.k rfl rfl ?_
    | refine R.k0 rfl ?_
    | refine R.a ttok rfl rfl (by kernel_rfl) ?_
    | refine R.b rfl rfl rfl (by kernel_rfl) ?_
    | refine R.li ttok rfl rfl rfl rfl rfl rfl (by kernel_rfl) ?_
    | refine R.st ttok rfl rfl rfl rfl rfl rfl rfl (by kernel_rfl) ?_
    | refine R.done ?_
    | refine X.then ?_
    | refine C.block ?_
    | refine C.ret ?_
    | refine C.skip ?_
    | refine C.exit ?_
    | refine X.pass_ret ?_
    | refine X.pass_exit ?_
    | refine X.block_normal ?_
    | refine X.block_ret ?_
    | refine X.block_exit ?_
    | refine X.block_other rfl ?_
    | refine C.goto ?_
    | refine C.label ?_
    | refine X.pass_goto ?_
    | refine X.block_goto ?_
    | refine X.jump_ret ?_
    | refine X.jump_normal ?_
    | refine X.jump_exit ?_
    | refine C.tru rfl ?_
    | refine C.fls rfl ?_)
  refine C.dec rfl (fun hge => ?_) (fun hlt => ?_)
  · rw [show rdByte B at_ 0 = (0, at_, 2) from (if_neg (by simp)).trans (if_pos (by omega)), show stF st at_ 0 2 = at_ from (if_neg (by simp)).trans (if_pos (by simp))]
    repeat (first
    | refine C.seq ?_
    | refine C.region ?_
    | refine R.nr ttok rfl (by first | exact Nrm.w (wrap_i64 (by omega) (by omega)) | exact Nrm.w (wrap_u64 (by omega) (by omega)) | exact Nrm.w (wrap_u8 (by omega) (by omega)) | exact Nrm.refl _) rfl (by kernel_rfl) ?_
    | refine R.k rfl rfl ?_
    | refine R.k0 rfl ?_
    | refine R.a ttok rfl rfl (by kernel_rfl) ?_
    | refine R.b rfl rfl rfl (by kernel_rfl) ?_
    | refine R.li ttok rfl rfl rfl rfl rfl rfl (by kernel_rfl) ?_
    | refine R.st ttok rfl rfl rfl rfl rfl rfl rfl (by kernel_rfl) ?_
    | refine R.done ?_
    | refine X.then ?_
    | refine C.block ?_
    | refine C.ret ?_
    | refine C.skip ?_
    | refine C.exit ?_
    | refine X.pass_ret ?_
    | refine X.pass_exit ?_
    | refine X.block_normal ?_
    | refine X.block_ret ?_
    | refine X.block_exit ?_
    | refine X.block_other rfl ?_
    | refine C.goto ?_
    | refine C.label ?_
    | refine X.pass_goto ?_
    | refine X.block_goto ?_
    | refine X.jump_ret ?_
    | refine X.jump_normal ?_
    | refine X.jump_exit ?_
    | refine C.tru rfl ?_
    | refine C.fls rfl ?_)
    refine R.cl [0] (qends_spec off B c at_ st 0 2) Try.call60 (.same rfl rfl .nil) rfl rfl rfl (fun _ => rfl) rfl rfl fun _ _ => ?_
    repeat (first
    | refine C.seq ?_
    | refine C.region ?_
    | refine R.nr ttok rfl (by first | exact Nrm.w (wrap_i64 (by omega) (by omega)) | exact Nrm.w (wrap_u64 (by omega) (by omega)) | exact Nrm.w (wrap_u8 (by omega) (by omega)) | exact Nrm.refl _) rfl (by kernel_rfl) ?_
    | refine R.k rfl rfl ?_
    | refine R.k0 rfl ?_
    | refine R.a ttok rfl rfl (by kernel_rfl) ?_
    | refine R.b rfl rfl rfl (by kernel_rfl) ?_
    | refine R.li ttok rfl rfl rfl rfl rfl rfl (by kernel_rfl) ?_
    | refine R.st ttok rfl rfl rfl rfl rfl rfl rfl (by kernel_rfl) ?_
    | refine R.done ?_
    | refine X.then ?_
    | refine C.block ?_
    | refine C.ret ?_
    | refine C.skip ?_
    | refine C.exit ?_
    | refine X.pass_ret ?_
    | refine X.pass_exit ?_
    | refine X.block_normal ?_
    | refine X.block_ret ?_
    | refine X.block_exit ?_
    | refine X.block_other rfl ?_
    | refine C.goto ?_
    | refine C.label ?_
    | refine X.pass_goto ?_
    | refine X.block_goto ?_
    | refine X.jump_ret ?_
    | refine X.jump_normal ?_
    | refine X.jump_exit ?_
    | refine C.tru rfl ?_
    | refine C.fls rfl ?_)
    exact X.fin ttok () [] trivial rfl rfl rfl .nil _ (.inl rfl)
  have hlt : at_ < B.length := by omega
  rw [show rdByte B at_ 0 = (B.getD at_ 0, at_ + 1, 0) from (if_neg (by simp)).trans (if_neg (by omega)), show stF st at_ 0 0 = st from (if_neg (by simp)).trans (if_neg (by simp))]
  repeat (first
    | refine C.seq ?_
    | refine C.region ?_
    | refine R.nr ttok rfl (by first | exact Nrm.w (wrap_i64 (by omega) (by omega)) | exact Nrm.w (wrap_u64 (by omega) (by omega)) | exact Nrm.w (wrap_u8 (by omega) (by omega)) | exact Nrm.refl _) rfl (by kernel_rfl) ?_
    | refine R.k rfl rfl ?_
    | refine R.k0 rfl ?_
    | refine R.a ttok rfl rfl (by kernel_rfl) ?_
    | refine R.b rfl rfl rfl (by kernel_rfl) ?_
    | refine R.li ttok rfl rfl rfl rfl rfl rfl (by kernel_rfl) ?_
    | refine R.st ttok rfl rfl rfl rfl rfl rfl rfl (by kernel_rfl) ?_
    | refine R.done ?_
    | refine X.then ?_
    | refine C.block ?_
    | refine C.ret ?_
    | refine C.skip ?_
    | refine C.exit ?_
    | refine X.pass_ret ?_
    | refine X.pass_exit ?_
    | refine X.block_normal ?_
    | refine X.block_ret ?_
    | refine X.block_exit ?_
    | refine X.block_other rfl ?_
    | refine C.goto ?_
    | refine C.label ?_
    | refine X.pass_goto ?_
    | refine X.block_goto ?_
    | refine X.jump_ret ?_
    | refine X.jump_normal ?_
    | refine X.jump_exit ?_
    | refine C.tru rfl ?_
    | refine C.fls rfl ?_)
  refine R.ix ttok at_ rfl rfl rfl rfl rfl rfl (by omega) hlt (⟨by omega, by omega⟩ : off ≤ off + at_ ∧ off + at_ < off + B.length) rfl ?_
  refine R.ldo ttok rfl rfl rfl rfl rfl rfl hlt ?_
  repeat (first
    | refine C.seq ?_
    | refine C.region ?_
    | refine R.nr ttok rfl (by first | exact Nrm.w (wrap_i64 (by omega) (by omega)) | exact Nrm.w (wrap_u64 (by omega) (by omega)) | exact Nrm.w (wrap_u8 (by omega) (by omega)) | exact Nrm.refl _) rfl (by kernel_rfl) ?_
    | refine R.k rfl rfl ?_
    | refine R.k0 rfl ?_
    | refine R.a ttok rfl rfl (by kernel_rfl) ?_
    | refine R.b rfl rfl rfl (by kernel_rfl) ?_
    | refine R.li ttok rfl rfl rfl rfl rfl rfl (by kernel_rfl) ?_
    | refine R.st ttok rfl rfl rfl rfl rfl rfl rfl (by kernel_rfl) ?_
    | refine R.done ?_
    | refine X.then ?_
    | refine C.block ?_
    | refine C.ret ?_
    | refine C.skip ?_
    | refine C.exit ?_
    | refine X.pass_ret ?_
    | refine X.pass_exit ?_
    | refine X.block_normal ?_
    | refine X.block_ret ?_
    | refine X.block_exit ?_
    | refine X.block_other rfl ?_
    | refine C.goto ?_
    | refine C.label ?_
    | refine X.pass_goto ?_
    | refine X.block_goto ?_
    | refine X.jump_ret ?_
    | refine X.jump_normal ?_
    | refine X.jump_exit ?_
    | refine C.tru rfl ?_
    | refine C.fls rfl ?_)
  refine C.draw [[], [], [0], [0, 1, 2]] [3] (by kernel_rfl) (by kernel_rfl) ?_
  repeat (first
    | refine C.seq ?_
    | refine C.region ?_
    | refine R.nr ttok rfl (by first | exact Nrm.w (wrap_i64 (by omega) (by omega)) | exact Nrm.w (wrap_u64 (by omega) (by omega)) | exact Nrm.w (wrap_u8 (by omega) (by omega)) | exact Nrm.refl _) rfl (by kernel_rfl) ?_
    | refine R.k rfl rfl ?_
    | refine R.k0 rfl ?_
    | refine R.a ttok rfl rfl (by kernel_rfl) ?_
    | refine R.b rfl rfl rfl (by kernel_rfl) ?_
    | refine R.li ttok rfl rfl rfl rfl rfl rfl (by kernel_rfl) ?_
    | refine R.st ttok rfl rfl rfl rfl rfl rfl rfl (by kernel_rfl) ?_
    | refine R.done ?_
    | refine X.then ?_
    | refine C.block ?_
    | refine C.ret ?_
    | refine C.skip ?_
    | refine C.exit ?_
    | refine X.pass_ret ?_
    | refine X.pass_exit ?_
    | refine X.block_normal ?_
    | refine X.block_ret ?_
    | refine X.block_exit ?_
    | refine X.block_other rfl ?_
    | refine C.goto ?_
    | refine C.label ?_
    | refine X.pass_goto ?_
    | refine X.block_goto ?_
    | refine X.jump_ret ?_
    | refine X.jump_normal ?_
    | refine X.jump_exit ?_
    | refine C.tru rfl ?_
    | refine C.fls rfl ?_)
  exact X.fin ttok () [] trivial rfl rfl rfl .nil _ (.inl rfl)
/-- what the document's row gives -/
def refRow (B : List UInt8) (at_ : Nat) (most last : Nat) : Nat × Nat × Int := let R := rowA most last 0 0 (B.drop at_)
  if R.1 = 0 then (R.2.1, at_ + R.2.2, 0) else (0, 0, R.1)
theorem qrow_spec (off : Nat) (B : List UInt8) (c at_ st : Nat) (e : Int) (most last : Nat) (hat : at_ ≤ B.length) (hB : B.length ≤ 1000000000000) (hm0 : 0 < most) (hm : most ≤ 10) (hl : most ≤ 9 ∨ last ≤ 1) (hl2 : last < 128) :
    Spec Try.prog 61 [refR 0 off B c at_ e st, .raw (.int .i64 most), .raw (.int .u8 last)] [roBo off B] 1 (σ := Unit) (fun _ => True) (fun _ => .tup [.raw (.int .u64 (refRow B at_ most last).1), .raw (.int .i64 (refRow B at_ most last).2.1), .raw (.int .i64 (refRow B at_ most last).2.2)]) (fun _ => []) := by
  refine Spec.of Try.func61 rfl Try.ntmps61 rfl (by simp [AO.Bd, bytesF, AV.bds, AV.bd]) fun ρ w => ?_
  have hR : refRow B at_ most last = if (rowA most last 0 0 (B.drop at_)).1 = 0 then ((rowA most last 0 0 (B.drop at_)).2.1, at_ + (rowA most last 0 0 (B.drop at_)).2.2, 0) else (0, 0, (rowA most last 0 0 (B.drop at_)).1) := rfl
  have bad : ∀ x : Int, x ≠ 0 → rowA most last 0 0 (B.drop at_) = (x, 0, 0) → refRow B at_ most last = (0, 0, x) := fun x hx h => by rw [hR, h]; exact if_neg hx
  have good : ∀ v k : Nat, rowA most last 0 0 (B.drop at_) = (0, v, k) → refRow B at_ most last = (v, at_ + k, 0) := fun v k h => by rw [hR, h]; exact if_pos rfl
  repeat (first
    | refine C.seq ?_
    | refine C.region ?_
    | refine R.nr ttok rfl (by first | exact Nrm.w (wrap_i64 (by omega) (by omega)) | exact Nrm.w (wrap_u64 (by omega) (by omega)) | exact Nrm.w (wrap_u8 (by omega) (by omega)) | exact Nrm.refl _) rfl (by kernel_rfl) ?_
    | refine R.k rfl rfl ?_
    | refine R.k0 rfl ?_
    | refine R.a ttok rfl rfl (by kernel_rfl) ?_
    | refine R.b rfl rfl rfl (by kernel_rfl) ?_
    | refine R.li ttok rfl rfl rfl rfl rfl rfl (by kernel_rfl) ?_
    | refine R.st ttok rfl rfl rfl rfl rfl rfl rfl (by kernel_rfl) ?_
    | refine R.done ?_
    | refine X.then ?_
    | refine C.block ?_
    | refine C.ret ?_
    | refine C.skip ?_
    | refine C.exit ?_
    | refine X.pass_ret ?_
    | refine X.pass_exit ?_
    | refine X.block_normal ?_
    | refine X.block_ret ?_
    | refine X.block_exit ?_
    | refine X.block_other rfl ?_
    | refine C.goto ?_
    | refine C.label ?_
    | refine X.pass_goto ?_
    | refine X.block_goto ?_
    | refine X.jump_ret ?_
    | refine X.jump_normal ?_
    | refine X.jump_exit ?_
    | refine C.tru rfl ?_
    | refine C.fls rfl ?_)
  refine C.loop (σ := Nat × Nat) (L2 := 2) (fun s => s.1 < most ∧ s.2 < 128 ^ s.1 ∧ rowA most last s.1 s.2 (B.drop (at_ + s.1)) = rowA most last 0 0 (B.drop at_) ∧ s.1 ≤ B.length - at_) (fun s => [(1, .raw (.int .i64 most)), (2, .raw (.int .u8 last)), (3, .ptr 1 0 0 0), (9, .raw (.int .u64 s.2)), (10, .raw (.int .i64 s.1))])
    (fun s => [(0, roBo off B), (1, .cells [.sl 0 1 off B.length c, .raw (.int .i64 at_), .raw (.int .i64 e), .raw (.int .i64 st)] 44)]) _ (fun s => most - s.1) [] (0, 0) ⟨hm0, by simp, rfl, Nat.zero_le _⟩ rfl ?_ ?_ rfl (fun _ h => h) ?_
  · exact .cons rfl rfl rfl (.cons rfl rfl rfl (.cons rfl rfl rfl (.cons rfl rfl rfl (.cons rfl rfl rfl .nil))))
  · exact .same rfl rfl rfl (fun _ _ => rfl) (.same rfl rfl rfl rfl .nil)
  rintro ⟨i, a⟩ ⟨hi, ha, hrow, hib⟩
  dsimp only at hi ha hrow hib ⊢
  repeat (first
    | refine C.seq ?_
    | refine C.region ?_
    | refine R.nr ttok rfl (by first | exact Nrm.w (wrap_i64 (by omega) (by omega)) | exact Nrm.w (wrap_u64 (by omega) (by omega)) | exact Nrm.w (wrap_u8 (by omega) (by omega)) | exact Nrm.refl _) rfl (by kernel_rfl) ?_
    | refine R.k rfl rfl ?_
    | refine R.k0 rfl ?_
    | refine R.a ttok rfl rfl (by kernel_rfl) ?_
    | refine R.b rfl rfl rfl (by kernel_rfl) ?_
    | refine R.li ttok rfl rfl rfl rfl rfl rfl (by kernel_rfl) ?_
    | refine R.st ttok rfl rfl rfl rfl rfl rfl rfl (by kernel_rfl) ?_
    | refine R.done ?_
    | refine X.then ?_
    | refine C.block ?_
    | refine C.ret ?_
    | refine C.skip ?_
    | refine C.exit ?_
    | refine X.pass_ret ?_
    | refine X.pass_exit ?_
    | refine X.block_normal ?_
    | refine X.block_ret ?_
    | refine X.block_exit ?_
    | refine X.block_other rfl ?_
    | refine C.goto ?_
    | refine C.label ?_
    | refine X.pass_goto ?_
    | refine X.block_goto ?_
    | refine X.jump_ret ?_
    | refine X.jump_normal ?_
    | refine X.jump_exit ?_
    | refine C.tru rfl ?_
    | refine C.fls rfl ?_)
  refine C.dec rfl (fun hge => ?_) (fun hlt => ?_)
  · rw [bad 2 (by simp) (by rw [← hrow]; exact rowA_nil (List.drop_eq_nil_of_le (by omega)))]
    repeat (first
    | refine C.seq ?_
    | refine C.region ?_
    | refine R.nr ttok rfl (by first | exact Nrm.w (wrap_i64 (by omega) (by omega)) | exact Nrm.w (wrap_u64 (by omega) (by omega)) | exact Nrm.w (wrap_u8 (by omega) (by omega)) | exact Nrm.refl _) rfl (by kernel_rfl) ?_
    | refine R.k rfl rfl ?_
    | refine R.k0 rfl ?_
    | refine R.a ttok rfl rfl (by kernel_rfl) ?_
    | refine R.b rfl rfl rfl (by kernel_rfl) ?_
    | refine R.li ttok rfl rfl rfl rfl rfl rfl (by kernel_rfl) ?_
    | refine R.st ttok rfl rfl rfl rfl rfl rfl rfl (by kernel_rfl) ?_
    | refine R.done ?_
    | refine X.then ?_
    | refine C.block ?_
    | refine C.ret ?_
    | refine C.skip ?_
    | refine C.exit ?_
    | refine X.pass_ret ?_
    | refine X.pass_exit ?_
    | refine X.block_normal ?_
    | refine X.block_ret ?_
    | refine X.block_exit ?_
    | refine X.block_other rfl ?_
    | refine C.goto ?_
    | refine C.label ?_
    | refine X.pass_goto ?_
    | refine X.block_goto ?_
    | refine X.jump_ret ?_
    | refine X.jump_normal ?_
    | refine X.jump_exit ?_
    | refine C.tru rfl ?_
    | refine C.fls rfl ?_)
    exact X.fin ttok () [] trivial rfl rfl rfl .nil _ (.inl rfl)
  have hin : at_ + i < B.length := by omega
  obtain ⟨x, hx⟩ : ∃ x, B.getD (at_ + i) 0 = x := ⟨_, rfl⟩
  have hxl := x.toNat_lt
  rw [drop_get hin, hx] at hrow
  repeat (first
    | refine C.seq ?_
    | refine C.region ?_
    | refine R.nr ttok rfl (by first | exact Nrm.w (wrap_i64 (by omega) (by omega)) | exact Nrm.w (wrap_u64 (by omega) (by omega)) | exact Nrm.w (wrap_u8 (by omega) (by omega)) | exact Nrm.refl _) rfl (by kernel_rfl) ?_
    | refine R.k rfl rfl ?_
    | refine R.k0 rfl ?_
    | refine R.a ttok rfl rfl (by kernel_rfl) ?_
    | refine R.b rfl rfl rfl (by kernel_rfl) ?_
    | refine R.li ttok rfl rfl rfl rfl rfl rfl (by kernel_rfl) ?_
    | refine R.st ttok rfl rfl rfl rfl rfl rfl rfl (by kernel_rfl) ?_
    | refine R.done ?_
    | refine X.then ?_
    | refine C.block ?_
    | refine C.ret ?_
    | refine C.skip ?_
    | refine C.exit ?_
    | refine X.pass_ret ?_
    | refine X.pass_exit ?_
    | refine X.block_normal ?_
    | refine X.block_ret ?_
    | refine X.block_exit ?_
    | refine X.block_other rfl ?_
    | refine C.goto ?_
    | refine C.label ?_
    | refine X.pass_goto ?_
    | refine X.block_goto ?_
    | refine X.jump_ret ?_
    | refine X.jump_normal ?_
    | refine X.jump_exit ?_
    | refine C.tru rfl ?_
    | refine C.fls rfl ?_)
  refine R.ix ttok (at_ + i) rfl rfl rfl rfl rfl rfl (by omega) (by omega) (⟨by omega, by omega⟩ : off ≤ off + (at_ + i) ∧ off + (at_ + i) < off + B.length) rfl ?_
  refine R.ldo ttok rfl rfl rfl rfl rfl rfl hin ?_
  rw [hx]
  repeat (first
    | refine C.seq ?_
    | refine C.region ?_
    | refine R.nr ttok rfl (by first | exact Nrm.w (wrap_i64 (by omega) (by omega)) | exact Nrm.w (wrap_u64 (by omega) (by omega)) | exact Nrm.w (wrap_u8 (by omega) (by omega)) | exact Nrm.refl _) rfl (by kernel_rfl) ?_
    | refine R.k rfl rfl ?_
    | refine R.k0 rfl ?_
    | refine R.a ttok rfl rfl (by kernel_rfl) ?_
    | refine R.b rfl rfl rfl (by kernel_rfl) ?_
    | refine R.li ttok rfl rfl rfl rfl rfl rfl (by kernel_rfl) ?_
    | refine R.st ttok rfl rfl rfl rfl rfl rfl rfl (by kernel_rfl) ?_
    | refine R.done ?_
    | refine X.then ?_
    | refine C.block ?_
    | refine C.ret ?_
    | refine C.skip ?_
    | refine C.exit ?_
    | refine X.pass_ret ?_
    | refine X.pass_exit ?_
    | refine X.block_normal ?_
    | refine X.block_ret ?_
    | refine X.block_exit ?_
    | refine X.block_other rfl ?_
    | refine C.goto ?_
    | refine C.label ?_
    | refine X.pass_goto ?_
    | refine X.block_goto ?_
    | refine X.jump_ret ?_
    | refine X.jump_normal ?_
    | refine X.jump_exit ?_
    | refine C.tru rfl ?_
    | refine C.fls rfl ?_)
  by_cases hr : i + 1 = most ∧ last < x.toNat
  · rw [decide_eq_true (show (i : Int) = most - 1 by omega)]
    repeat (first
    | refine C.seq ?_
    | refine C.region ?_
    | refine R.nr ttok rfl (by first | exact Nrm.w (wrap_i64 (by omega) (by omega)) | exact Nrm.w (wrap_u64 (by omega) (by omega)) | exact Nrm.w (wrap_u8 (by omega) (by omega)) | exact Nrm.refl _) rfl (by kernel_rfl) ?_
    | refine R.k rfl rfl ?_
    | refine R.k0 rfl ?_
    | refine R.a ttok rfl rfl (by kernel_rfl) ?_
    | refine R.b rfl rfl rfl (by kernel_rfl) ?_
    | refine R.li ttok rfl rfl rfl rfl rfl rfl (by kernel_rfl) ?_
    | refine R.st ttok rfl rfl rfl rfl rfl rfl rfl (by kernel_rfl) ?_
    | refine R.done ?_
    | refine X.then ?_
    | refine C.block ?_
    | refine C.ret ?_
    | refine C.skip ?_
    | refine C.exit ?_
    | refine X.pass_ret ?_
    | refine X.pass_exit ?_
    | refine X.block_normal ?_
    | refine X.block_ret ?_
    | refine X.block_exit ?_
    | refine X.block_other rfl ?_
    | refine C.goto ?_
    | refine C.label ?_
    | refine X.pass_goto ?_
    | refine X.block_goto ?_
    | refine X.jump_ret ?_
    | refine X.jump_normal ?_
    | refine X.jump_exit ?_
    | refine C.tru rfl ?_
    | refine C.fls rfl ?_)
    refine C.yes rfl (decide_eq_true (by show (last : Int) < x.toNat; omega)) ?_
    rw [bad 15 (by simp) (by rw [← hrow]; exact rowA_range hr.1 hr.2)]
    repeat (first
    | refine C.seq ?_
    | refine C.region ?_
    | refine R.nr ttok rfl (by first | exact Nrm.w (wrap_i64 (by omega) (by omega)) | exact Nrm.w (wrap_u64 (by omega) (by omega)) | exact Nrm.w (wrap_u8 (by omega) (by omega)) | exact Nrm.refl _) rfl (by kernel_rfl) ?_
    | refine R.k rfl rfl ?_
    | refine R.k0 rfl ?_
    | refine R.a ttok rfl rfl (by kernel_rfl) ?_
    | refine R.b rfl rfl rfl (by kernel_rfl) ?_
    | refine R.li ttok rfl rfl rfl rfl rfl rfl (by kernel_rfl) ?_
    | refine R.st ttok rfl rfl rfl rfl rfl rfl rfl (by kernel_rfl) ?_
    | refine R.done ?_
    | refine X.then ?_
    | refine C.block ?_
    | refine C.ret ?_
    | refine C.skip ?_
    | refine C.exit ?_
    | refine X.pass_ret ?_
    | refine X.pass_exit ?_
    | refine X.block_normal ?_
    | refine X.block_ret ?_
    | refine X.block_exit ?_
    | refine X.block_other rfl ?_
    | refine C.goto ?_
    | refine C.label ?_
    | refine X.pass_goto ?_
    | refine X.block_goto ?_
    | refine X.jump_ret ?_
    | refine X.jump_normal ?_
    | refine X.jump_exit ?_
    | refine C.tru rfl ?_
    | refine C.fls rfl ?_)
    exact X.fin ttok () [] trivial rfl rfl rfl .nil _ (.inl rfl)
  have hm128 : x.toNat % 128 < 128 := Nat.mod_lt _ (by omega)
  have hfit := row_fits ha hm128 hi hm hl (fun h => hr ⟨h.1, Nat.lt_of_lt_of_le h.2 (Nat.mod_le _ _)⟩)
  by_cases h9 : (i : Int) = most - 1
  all_goals first | rw [decide_eq_true h9] | rw [decide_eq_false h9]
  all_goals
    repeat (first
    | refine C.seq ?_
    | refine C.region ?_
    | refine R.nr ttok rfl (by first | exact Nrm.w (wrap_i64 (by omega) (by omega)) | exact Nrm.w (wrap_u64 (by omega) (by omega)) | exact Nrm.w (wrap_u8 (by omega) (by omega)) | exact Nrm.refl _) rfl (by kernel_rfl) ?_
    | refine R.k rfl rfl ?_
    | refine R.k0 rfl ?_
    | refine R.a ttok rfl rfl (by kernel_rfl) ?_
    | refine R.b rfl rfl rfl (by kernel_rfl) ?_
    | refine R.li ttok rfl rfl rfl rfl rfl rfl (by kernel_rfl) ?_
    | refine R.st ttok rfl rfl rfl rfl rfl rfl rfl (by kernel_rfl) ?_
    | refine R.done ?_
    | refine X.then ?_
    | refine C.block ?_
    | refine C.ret ?_
    | refine C.skip ?_
    | refine C.exit ?_
    | refine X.pass_ret ?_
    | refine X.pass_exit ?_
    | refine X.block_normal ?_
    | refine X.block_ret ?_
    | refine X.block_exit ?_
    | refine X.block_other rfl ?_
    | refine C.goto ?_
    | refine C.label ?_
    | refine X.pass_goto ?_
    | refine X.block_goto ?_
    | refine X.jump_ret ?_
    | refine X.jump_normal ?_
    | refine X.jump_exit ?_
    | refine C.tru rfl ?_
    | refine C.fls rfl ?_)
  all_goals try refine C.no rfl (decide_eq_false (by show ¬ (last : Int) < x.toNat; omega)) ?_
  all_goals
    repeat (first
    | refine C.seq ?_
    | refine C.region ?_
    | refine R.nr ttok rfl (by first | exact Nrm.w (wrap_i64 (by omega) (by omega)) | exact Nrm.w (wrap_u64 (by omega) (by omega)) | exact Nrm.w (wrap_u8 (by omega) (by omega)) | exact Nrm.refl _) rfl (by kernel_rfl) ?_
    | refine R.k rfl rfl ?_
    | refine R.k0 rfl ?_
    | refine R.a ttok rfl rfl (by kernel_rfl) ?_
    | refine R.b rfl rfl rfl (by kernel_rfl) ?_
    | refine R.li ttok rfl rfl rfl rfl rfl rfl (by kernel_rfl) ?_
    | refine R.st ttok rfl rfl rfl rfl rfl rfl rfl (by kernel_rfl) ?_
    | refine R.done ?_
    | refine X.then ?_
    | refine C.block ?_
    | refine C.ret ?_
    | refine C.skip ?_
    | refine C.exit ?_
    | refine X.pass_ret ?_
    | refine X.pass_exit ?_
    | refine X.block_normal ?_
    | refine X.block_ret ?_
    | refine X.block_exit ?_
    | refine X.block_other rfl ?_
    | refine C.goto ?_
    | refine C.label ?_
    | refine X.pass_goto ?_
    | refine X.block_goto ?_
    | refine X.jump_ret ?_
    | refine X.jump_normal ?_
    | refine X.jump_exit ?_
    | refine C.tru rfl ?_
    | refine C.fls rfl ?_)
  all_goals
    refine C.loop (σ := Nat) (L2 := 2) (fun j => j ≤ i) (fun j => [(1, .raw (.int .i64 most)), (2, .raw (.int .u8 last)), (3, .ptr 1 0 0 0), (9, .raw (.int .u64 a)), (10, .raw (.int .i64 i)), (11, .raw (byteV x)), (12, .raw (.int .u64 ((128 ^ j : Nat) : Int))), (13, .raw (.int .i64 j))])
      (fun j => [(0, roBo off B), (1, .cells [.sl 0 1 off B.length c, .raw (.int .i64 at_), .raw (.int .i64 e), .raw (.int .i64 st)] 44)]) _ (fun j => i - j) [] 0 (Nat.zero_le _) rfl ?_ ?_ rfl (fun _ h => h) ?_
    · exact .cons rfl rfl rfl (.cons rfl rfl rfl (.cons rfl rfl rfl (.cons rfl rfl rfl (.cons rfl rfl rfl (.cons rfl rfl rfl (.cons rfl rfl rfl (.cons rfl rfl rfl .nil)))))))
    · exact .same rfl rfl rfl (fun _ _ => rfl) (.same rfl rfl rfl rfl .nil)
    intro j hj
    repeat (first
    | refine C.seq ?_
    | refine C.region ?_
    | refine R.nr ttok rfl (by first | exact Nrm.w (wrap_i64 (by omega) (by omega)) | exact Nrm.w (wrap_u64 (by omega) (by omega)) | exact Nrm.w (wrap_u8 (by omega) (by omega)) | exact Nrm.refl _) rfl (by kernel_rfl) ?_
    | refine R.k rfl rfl ?_
    | refine R.k0 rfl ?_
    | refine R.a ttok rfl rfl (by kernel_rfl) ?_
    | refine R.b rfl rfl rfl (by kernel_rfl) ?_
    | refine R.li ttok rfl rfl rfl rfl rfl rfl (by kernel_rfl) ?_
    | refine R.st ttok rfl rfl rfl rfl rfl rfl rfl (by kernel_rfl) ?_
    | refine R.done ?_
    | refine X.then ?_
    | refine C.block ?_
    | refine C.ret ?_
    | refine C.skip ?_
    | refine C.exit ?_
    | refine X.pass_ret ?_
    | refine X.pass_exit ?_
    | refine X.block_normal ?_
    | refine X.block_ret ?_
    | refine X.block_exit ?_
    | refine X.block_other rfl ?_
    | refine C.goto ?_
    | refine C.label ?_
    | refine X.pass_goto ?_
    | refine X.block_goto ?_
    | refine X.jump_ret ?_
    | refine X.jump_normal ?_
    | refine X.jump_exit ?_
    | refine C.tru rfl ?_
    | refine C.fls rfl ?_)
    refine C.dec rfl (fun hlt => ?_) (fun hge => ?_)
    · have hj9 : 128 ^ (j + 1) ≤ 9223372036854775808 := pow128 (by omega)
      have hj9' : (128 : Nat) ^ (j + 1) = 128 ^ j * 128 := Nat.pow_succ ..
      obtain ⟨S, hS⟩ : ∃ S, (128 : Nat) ^ j = S := ⟨_, rfl⟩
      rw [hS] at hj9' ⊢
      repeat (first
    | refine C.seq ?_
    | refine C.region ?_
    | refine R.nr ttok rfl (by first | exact Nrm.w (wrap_i64 (by omega) (by omega)) | exact Nrm.w (wrap_u64 (by omega) (by omega)) | exact Nrm.w (wrap_u8 (by omega) (by omega)) | exact Nrm.refl _) rfl (by kernel_rfl) ?_
    | refine R.k rfl rfl ?_
    | refine R.k0 rfl ?_
    | refine R.a ttok rfl rfl (by kernel_rfl) ?_
    | refine R.b rfl rfl rfl (by kernel_rfl) ?_
    | refine R.li ttok rfl rfl rfl rfl rfl rfl (by kernel_rfl) ?_
    | refine R.st ttok rfl rfl rfl rfl rfl rfl rfl (by kernel_rfl) ?_
    | refine R.done ?_
    | refine X.then ?_
    | refine C.block ?_
    | refine C.ret ?_
    | refine C.skip ?_
    | refine C.exit ?_
    | refine X.pass_ret ?_
    | refine X.pass_exit ?_
    | refine X.block_normal ?_
    | refine X.block_ret ?_
    | refine X.block_exit ?_
    | refine X.block_other rfl ?_
    | refine C.goto ?_
    | refine C.label ?_
    | refine X.pass_goto ?_
    | refine X.block_goto ?_
    | refine X.jump_ret ?_
    | refine X.jump_normal ?_
    | refine X.jump_exit ?_
    | refine C.tru rfl ?_
    | refine C.fls rfl ?_)
      rw [show (S : Int) * 128 = ((128 ^ (j + 1) : Nat) : Int) by rw [hj9']; omega]
      refine X.back [] (j + 1) (by show j + 1 ≤ i; omega) (by show i - (j + 1) < i - j; omega) rfl ?_ ?_ rfl (fun _ h => h)
      · exact .cons rfl rfl rfl (.cons rfl rfl rfl (.cons rfl rfl rfl (.cons rfl rfl rfl (.cons rfl rfl rfl (.cons rfl rfl rfl (.cons rfl rfl rfl (.cons rfl rfl rfl .nil)))))))
      · exact .same rfl rfl rfl (fun _ _ => rfl) (.same rfl rfl rfl rfl .nil)
    obtain rfl : j = i := by omega
    repeat (first
    | refine C.seq ?_
    | refine C.region ?_
    | refine R.nr ttok rfl (by first | exact Nrm.w (wrap_i64 (by omega) (by omega)) | exact Nrm.w (wrap_u64 (by omega) (by omega)) | exact Nrm.w (wrap_u8 (by omega) (by omega)) | exact Nrm.refl _) rfl (by kernel_rfl) ?_
    | refine R.k rfl rfl ?_
    | refine R.k0 rfl ?_
    | refine R.a ttok rfl rfl (by kernel_rfl) ?_
    | refine R.b rfl rfl rfl (by kernel_rfl) ?_
    | refine R.li ttok rfl rfl rfl rfl rfl rfl (by kernel_rfl) ?_
    | refine R.st ttok rfl rfl rfl rfl rfl rfl rfl (by kernel_rfl) ?_
    | refine R.done ?_
    | refine X.then ?_
    | refine C.block ?_
    | refine C.ret ?_
    | refine C.skip ?_
    | refine C.exit ?_
    | refine X.pass_ret ?_
    | refine X.pass_exit ?_
    | refine X.block_normal ?_
    | refine X.block_ret ?_
    | refine X.block_exit ?_
    | refine X.block_other rfl ?_
    | refine C.goto ?_
    | refine C.label ?_
    | refine X.pass_goto ?_
    | refine X.block_goto ?_
    | refine X.jump_ret ?_
    | refine X.jump_normal ?_
    | refine X.jump_exit ?_
    | refine C.tru rfl ?_
    | refine C.fls rfl ?_)
    refine R.rem ((x.toNat % 128 : Nat) : Int) rfl rfl rfl rfl (by decide) (rem128 x.toNat) ?_
    obtain ⟨S, hS⟩ : ∃ S, x.toNat % 128 * 128 ^ j = S := ⟨_, rfl⟩
    have hS2 : (((x.toNat % 128 : Nat) : Int) * ((128 ^ j : Nat) : Int)) = (S : Int) := by rw [← hS]; norm_cast
    have hsum : IntKind.wrap .u64 (((x.toNat % 128 : Nat) : Int) * ((128 ^ j : Nat) : Int)) = (S : Int) := by rw [hS2, wrap_u64 (by omega) (by omega)]
    refine R.w ttok rfl (wrap_u64 (by omega) (by omega)) rfl rfl ?_
    refine R.s ttok rfl rfl rfl ?_
    refine R.v ttok _ rfl (congrArg (Value.int .u64) hsum) rfl rfl ?_
    repeat (first
    | refine C.seq ?_
    | refine C.region ?_
    | refine R.nr ttok rfl (by first | exact Nrm.w (wrap_i64 (by omega) (by omega)) | exact Nrm.w (wrap_u64 (by omega) (by omega)) | exact Nrm.w (wrap_u8 (by omega) (by omega)) | exact Nrm.refl _) rfl (by kernel_rfl) ?_
    | refine R.k rfl rfl ?_
    | refine R.k0 rfl ?_
    | refine R.a ttok rfl rfl (by kernel_rfl) ?_
    | refine R.b rfl rfl rfl (by kernel_rfl) ?_
    | refine R.li ttok rfl rfl rfl rfl rfl rfl (by kernel_rfl) ?_
    | refine R.st ttok rfl rfl rfl rfl rfl rfl rfl (by kernel_rfl) ?_
    | refine R.done ?_
    | refine X.then ?_
    | refine C.block ?_
    | refine C.ret ?_
    | refine C.skip ?_
    | refine C.exit ?_
    | refine X.pass_ret ?_
    | refine X.pass_exit ?_
    | refine X.block_normal ?_
    | refine X.block_ret ?_
    | refine X.block_exit ?_
    | refine X.block_other rfl ?_
    | refine C.goto ?_
    | refine C.label ?_
    | refine X.pass_goto ?_
    | refine X.block_goto ?_
    | refine X.jump_ret ?_
    | refine X.jump_normal ?_
    | refine X.jump_exit ?_
    | refine C.tru rfl ?_
    | refine C.fls rfl ?_)
    refine C.dec rfl (fun h128 => ?_) (fun h128 => ?_)
    · repeat (first
    | refine C.seq ?_
    | refine C.region ?_
    | refine R.nr ttok rfl (by first | exact Nrm.w (wrap_i64 (by omega) (by omega)) | exact Nrm.w (wrap_u64 (by omega) (by omega)) | exact Nrm.w (wrap_u8 (by omega) (by omega)) | exact Nrm.refl _) rfl (by kernel_rfl) ?_
    | refine R.k rfl rfl ?_
    | refine R.k0 rfl ?_
    | refine R.a ttok rfl rfl (by kernel_rfl) ?_
    | refine R.b rfl rfl rfl (by kernel_rfl) ?_
    | refine R.li ttok rfl rfl rfl rfl rfl rfl (by kernel_rfl) ?_
    | refine R.st ttok rfl rfl rfl rfl rfl rfl rfl (by kernel_rfl) ?_
    | refine R.done ?_
    | refine X.then ?_
    | refine C.block ?_
    | refine C.ret ?_
    | refine C.skip ?_
    | refine C.exit ?_
    | refine X.pass_ret ?_
    | refine X.pass_exit ?_
    | refine X.block_normal ?_
    | refine X.block_ret ?_
    | refine X.block_exit ?_
    | refine X.block_other rfl ?_
    | refine C.goto ?_
    | refine C.label ?_
    | refine X.pass_goto ?_
    | refine X.block_goto ?_
    | refine X.jump_ret ?_
    | refine X.jump_normal ?_
    | refine X.jump_exit ?_
    | refine C.tru rfl ?_
    | refine C.fls rfl ?_)
      by_cases hf : 0 < j ∧ x.toNat = 0
      · rw [decide_eq_true (show (0 : Int) < j by omega)]
        repeat (first
    | refine C.seq ?_
    | refine C.region ?_
    | refine R.nr ttok rfl (by first | exact Nrm.w (wrap_i64 (by omega) (by omega)) | exact Nrm.w (wrap_u64 (by omega) (by omega)) | exact Nrm.w (wrap_u8 (by omega) (by omega)) | exact Nrm.refl _) rfl (by kernel_rfl) ?_
    | refine R.k rfl rfl ?_
    | refine R.k0 rfl ?_
    | refine R.a ttok rfl rfl (by kernel_rfl) ?_
    | refine R.b rfl rfl rfl (by kernel_rfl) ?_
    | refine R.li ttok rfl rfl rfl rfl rfl rfl (by kernel_rfl) ?_
    | refine R.st ttok rfl rfl rfl rfl rfl rfl rfl (by kernel_rfl) ?_
    | refine R.done ?_
    | refine X.then ?_
    | refine C.block ?_
    | refine C.ret ?_
    | refine C.skip ?_
    | refine C.exit ?_
    | refine X.pass_ret ?_
    | refine X.pass_exit ?_
    | refine X.block_normal ?_
    | refine X.block_ret ?_
    | refine X.block_exit ?_
    | refine X.block_other rfl ?_
    | refine C.goto ?_
    | refine C.label ?_
    | refine X.pass_goto ?_
    | refine X.block_goto ?_
    | refine X.jump_ret ?_
    | refine X.jump_normal ?_
    | refine X.jump_exit ?_
    | refine C.tru rfl ?_
    | refine C.fls rfl ?_)
        refine C.yes rfl (decide_eq_true (by show (x.toNat : Int) = 0; omega)) ?_
        rw [bad 3 (by simp) (by rw [← hrow]; exact rowA_form hr hf.1 hf.2)]
        repeat (first
    | refine C.seq ?_
    | refine C.region ?_
    | refine R.nr ttok rfl (by first | exact Nrm.w (wrap_i64 (by omega) (by omega)) | exact Nrm.w (wrap_u64 (by omega) (by omega)) | exact Nrm.w (wrap_u8 (by omega) (by omega)) | exact Nrm.refl _) rfl (by kernel_rfl) ?_
    | refine R.k rfl rfl ?_
    | refine R.k0 rfl ?_
    | refine R.a ttok rfl rfl (by kernel_rfl) ?_
    | refine R.b rfl rfl rfl (by kernel_rfl) ?_
    | refine R.li ttok rfl rfl rfl rfl rfl rfl (by kernel_rfl) ?_
    | refine R.st ttok rfl rfl rfl rfl rfl rfl rfl (by kernel_rfl) ?_
    | refine R.done ?_
    | refine X.then ?_
    | refine C.block ?_
    | refine C.ret ?_
    | refine C.skip ?_
    | refine C.exit ?_
    | refine X.pass_ret ?_
    | refine X.pass_exit ?_
    | refine X.block_normal ?_
    | refine X.block_ret ?_
    | refine X.block_exit ?_
    | refine X.block_other rfl ?_
    | refine C.goto ?_
    | refine C.label ?_
    | refine X.pass_goto ?_
    | refine X.block_goto ?_
    | refine X.jump_ret ?_
    | refine X.jump_normal ?_
    | refine X.jump_exit ?_
    | refine C.tru rfl ?_
    | refine C.fls rfl ?_)
        exact X.fin ttok () [] trivial rfl rfl rfl .nil _ (.inl rfl)
      rw [rowA_end hr (by omega) hf, hS] at hrow
      rw [good _ _ hrow.symm]
      by_cases h0 : (0 : Int) < j
      all_goals first | rw [decide_eq_true h0] | rw [decide_eq_false h0]
      all_goals
        repeat (first
    | refine C.seq ?_
    | refine C.region ?_
    | refine R.nr ttok rfl (by first | exact Nrm.w (wrap_i64 (by omega) (by omega)) | exact Nrm.w (wrap_u64 (by omega) (by omega)) | exact Nrm.w (wrap_u8 (by omega) (by omega)) | exact Nrm.refl _) rfl (by kernel_rfl) ?_
    | refine R.k rfl rfl ?_
    | refine R.k0 rfl ?_
    | refine R.a ttok rfl rfl (by kernel_rfl) ?_
    | refine R.b rfl rfl rfl (by kernel_rfl) ?_
    | refine R.li ttok rfl rfl rfl rfl rfl rfl (by kernel_rfl) ?_
    | refine R.st ttok rfl rfl rfl rfl rfl rfl rfl (by kernel_rfl) ?_
    | refine R.done ?_
    | refine X.then ?_
    | refine C.block ?_
    | refine C.ret ?_
    | refine C.skip ?_
    | refine C.exit ?_
    | refine X.pass_ret ?_
    | refine X.pass_exit ?_
    | refine X.block_normal ?_
    | refine X.block_ret ?_
    | refine X.block_exit ?_
    | refine X.block_other rfl ?_
    | refine C.goto ?_
    | refine C.label ?_
    | refine X.pass_goto ?_
    | refine X.block_goto ?_
    | refine X.jump_ret ?_
    | refine X.jump_normal ?_
    | refine X.jump_exit ?_
    | refine C.tru rfl ?_
    | refine C.fls rfl ?_)
      all_goals try refine C.no rfl (decide_eq_false (by show ¬ (x.toNat : Int) = 0; omega)) ?_
      all_goals
        repeat (first
    | refine C.seq ?_
    | refine C.region ?_
    | refine R.nr ttok rfl (by first | exact Nrm.w (wrap_i64 (by omega) (by omega)) | exact Nrm.w (wrap_u64 (by omega) (by omega)) | exact Nrm.w (wrap_u8 (by omega) (by omega)) | exact Nrm.refl _) rfl (by kernel_rfl) ?_
    | refine R.k rfl rfl ?_
    | refine R.k0 rfl ?_
    | refine R.a ttok rfl rfl (by kernel_rfl) ?_
    | refine R.b rfl rfl rfl (by kernel_rfl) ?_
    | refine R.li ttok rfl rfl rfl rfl rfl rfl (by kernel_rfl) ?_
    | refine R.st ttok rfl rfl rfl rfl rfl rfl rfl (by kernel_rfl) ?_
    | refine R.done ?_
    | refine X.then ?_
    | refine C.block ?_
    | refine C.ret ?_
    | refine C.skip ?_
    | refine C.exit ?_
    | refine X.pass_ret ?_
    | refine X.pass_exit ?_
    | refine X.block_normal ?_
    | refine X.block_ret ?_
    | refine X.block_exit ?_
    | refine X.block_other rfl ?_
    | refine C.goto ?_
    | refine C.label ?_
    | refine X.pass_goto ?_
    | refine X.block_goto ?_
    | refine X.jump_ret ?_
    | refine X.jump_normal ?_
    | refine X.jump_exit ?_
    | refine C.tru rfl ?_
    | refine C.fls rfl ?_)
      all_goals
        refine C.draw [[], [], [1], [], [1, 2, 3], [1, 2, 3, 4], [0], [0, 1, 2, 3, 4, 5, 6], [0, 1, 2, 3, 4, 5, 6, 7]] [] (by kernel_rfl) (by kernel_rfl) ?_
      all_goals
        repeat (first
    | refine C.seq ?_
    | refine C.region ?_
    | refine R.nr ttok rfl (by first | exact Nrm.w (wrap_i64 (by omega) (by omega)) | exact Nrm.w (wrap_u64 (by omega) (by omega)) | exact Nrm.w (wrap_u8 (by omega) (by omega)) | exact Nrm.refl _) rfl (by kernel_rfl) ?_
    | refine R.k rfl rfl ?_
    | refine R.k0 rfl ?_
    | refine R.a ttok rfl rfl (by kernel_rfl) ?_
    | refine R.b rfl rfl rfl (by kernel_rfl) ?_
    | refine R.li ttok rfl rfl rfl rfl rfl rfl (by kernel_rfl) ?_
    | refine R.st ttok rfl rfl rfl rfl rfl rfl rfl (by kernel_rfl) ?_
    | refine R.done ?_
    | refine X.then ?_
    | refine C.block ?_
    | refine C.ret ?_
    | refine C.skip ?_
    | refine C.exit ?_
    | refine X.pass_ret ?_
    | refine X.pass_exit ?_
    | refine X.block_normal ?_
    | refine X.block_ret ?_
    | refine X.block_exit ?_
    | refine X.block_other rfl ?_
    | refine C.goto ?_
    | refine C.label ?_
    | refine X.pass_goto ?_
    | refine X.block_goto ?_
    | refine X.jump_ret ?_
    | refine X.jump_normal ?_
    | refine X.jump_exit ?_
    | refine C.tru rfl ?_
    | refine C.fls rfl ?_)
      all_goals
        rw [show (at_ : Int) + (j : Int) + 1 = ((at_ + (j + 1) : Nat) : Int) by omega]
        exact X.fin ttok () [] trivial rfl rfl rfl .nil _ (.inl rfl)
    · rw [rowA_on hr (by omega), hS] at hrow
      have hi2 : j + 1 < most := by
        refine Nat.lt_of_le_of_ne hi fun e => hr ⟨e, by omega⟩
      have hb2 := hfit.2 hi2
      rw [hS] at hb2
      repeat (first
    | refine C.seq ?_
    | refine C.region ?_
    | refine R.nr ttok rfl (by first | exact Nrm.w (wrap_i64 (by omega) (by omega)) | exact Nrm.w (wrap_u64 (by omega) (by omega)) | exact Nrm.w (wrap_u8 (by omega) (by omega)) | exact Nrm.refl _) rfl (by kernel_rfl) ?_
    | refine R.k rfl rfl ?_
    | refine R.k0 rfl ?_
    | refine R.a ttok rfl rfl (by kernel_rfl) ?_
    | refine R.b rfl rfl rfl (by kernel_rfl) ?_
    | refine R.li ttok rfl rfl rfl rfl rfl rfl (by kernel_rfl) ?_
    | refine R.st ttok rfl rfl rfl rfl rfl rfl rfl (by kernel_rfl) ?_
    | refine R.done ?_
    | refine X.then ?_
    | refine C.block ?_
    | refine C.ret ?_
    | refine C.skip ?_
    | refine C.exit ?_
    | refine X.pass_ret ?_
    | refine X.pass_exit ?_
    | refine X.block_normal ?_
    | refine X.block_ret ?_
    | refine X.block_exit ?_
    | refine X.block_other rfl ?_
    | refine C.goto ?_
    | refine C.label ?_
    | refine X.pass_goto ?_
    | refine X.block_goto ?_
    | refine X.jump_ret ?_
    | refine X.jump_normal ?_
    | refine X.jump_exit ?_
    | refine C.tru rfl ?_
    | refine C.fls rfl ?_)
      refine X.back [] (j + 1, a + S) ⟨hi2, hb2, hrow, by dsimp only; omega⟩ (by dsimp only; omega) rfl ?_ ?_ rfl (fun _ h => h)
      · exact .cons rfl rfl rfl (.cons rfl rfl rfl (.cons rfl rfl rfl (.cons rfl rfl rfl (.cons rfl rfl rfl .nil))))
      · exact .same rfl rfl rfl (fun _ _ => rfl) (.same rfl rfl rfl rfl .nil)
end Go.Proofs.Ytchbncbojfiiiaa
