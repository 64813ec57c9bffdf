/- octet: take, taken, tells -/
import Derived.Test.YtchbncbojfiiiaaOH
namespace Go.Proofs.Ytchbncbojfiiiaa
set_option linter.unusedVariables false
set_option linter.unusedSimpArgs false
open Go.RowKit
set_option maxRecDepth 100000
set_option maxHeartbeats 4000000
/-- what is taken: one of these; the place and the error behind it -/
structure Tk where
  u : Nat
  i : Int
  s : List UInt8
  a : Nat
  e : Int
def tk (B : List UInt8) (at_ : Nat) (e : Int) (x : It) : Tk :=
  if x.k = 1 then ⟨(rdByte B at_ e).1.toNat, 0, [], (rdByte B at_ e).2.1, (rdByte B at_ e).2.2⟩ else
  if x.k = 2 then ⟨(rdFixed B at_ e x.n).1, 0, [], (rdFixed B at_ e x.n).2.1, (rdFixed B at_ e x.n).2.2⟩ else
  if x.k = 3 then ⟨0, (rdRow B at_ e 9 127).1, [], (rdRow B at_ e 9 127).2.1, (rdRow B at_ e 9 127).2.2⟩ else
  if x.k = 4 then ⟨0, unzig (rdRow B at_ e 10 1).1, [], (rdRow B at_ e 10 1).2.1, (rdRow B at_ e 10 1).2.2⟩ else
  if x.k = 5 then ⟨0, 0, (rdText B at_ e x.n).1, (rdText B at_ e x.n).2.1, (rdText B at_ e x.n).2.2⟩ else ⟨0, 0, [], at_, e⟩
abbrev gotA (t : Tk) : AV := .agg [.raw (.int .u64 t.u), .raw (.int .i64 t.i), .raw (.string (strOf t.s))]
section
variable {B : List UInt8} {at_ : Nat} {e : Int} {x : It}
theorem tk_1 (h : x.k = 1) : tk B at_ e x = ⟨(rdByte B at_ e).1.toNat, 0, [], (rdByte B at_ e).2.1, (rdByte B at_ e).2.2⟩ := if_pos h
theorem tk_2 (h : x.k = 2) : tk B at_ e x = ⟨(rdFixed B at_ e x.n).1, 0, [], (rdFixed B at_ e x.n).2.1, (rdFixed B at_ e x.n).2.2⟩ := by unfold tk; rw [if_neg (by omega), if_pos h]
theorem tk_3 (h : x.k = 3) : tk B at_ e x = ⟨0, (rdRow B at_ e 9 127).1, [], (rdRow B at_ e 9 127).2.1, (rdRow B at_ e 9 127).2.2⟩ := by unfold tk; rw [if_neg (by omega), if_neg (by omega), if_pos h]
theorem tk_4 (h : x.k = 4) : tk B at_ e x = ⟨0, unzig (rdRow B at_ e 10 1).1, [], (rdRow B at_ e 10 1).2.1, (rdRow B at_ e 10 1).2.2⟩ := by unfold tk; rw [if_neg (by omega), if_neg (by omega), if_neg (by omega), if_pos h]
theorem tk_5 (h : x.k = 5) : tk B at_ e x = ⟨0, 0, (rdText B at_ e x.n).1, (rdText B at_ e x.n).2.1, (rdText B at_ e x.n).2.2⟩ := by unfold tk; rw [if_neg (by omega), if_neg (by omega), if_neg (by omega), if_neg (by omega), if_pos h]
theorem tk_no (h1 : x.k ≠ 1) (h2 : x.k ≠ 2) (h3 : x.k ≠ 3) (h4 : x.k ≠ 4) (h5 : x.k ≠ 5) : tk B at_ e x = ⟨0, 0, [], at_, e⟩ := by unfold tk; rw [if_neg h1, if_neg h2, if_neg h3, if_neg h4, if_neg h5]
end
theorem byte64 (b : UInt8) : IntKind.wrap .u64 (b.toNat : Int) = (b.toNat : Int) := wrap_u64 (by omega) (by have := b.toNat_lt; omega)
theorem take_spec (B : List UInt8) (c at_ : Nat) (e : Int) (x : It) (hat : at_ ≤ B.length) (hB : B.length ≤ 1000000000000) (hc : B.length ≤ c) :
    Spec Try.prog 19 [.ptr 0 0 0 0, .agg (itA x)] [rdO B c at_ e, roB B] 2 (σ := Unit) (fun _ => True) (fun _ => gotA (tk B at_ e x)) (fun _ => [(0, rdO B c (tk B at_ e x).a (tk B at_ e x).e)]) := by
  refine Spec.of Try.func19 rfl Try.ntmps19 rfl (by simp [AO.Bd, bytesF, AV.bds, AV.bd]) fun ρ w => ?_
  repeat (first
    | refine C.seq ?_
    | refine C.region ?_
    | refine R.nr ttok rfl (by first | exact Nrm.w (wrap_i64 (by omega) (by omega)) | exact Nrm.w (wrap_u64 (by omega) (by omega)) | exact Nrm.w (wrap_u8 (by omega) (by omega)) | exact Nrm.refl _) rfl (by kernel_rfl) ?_
    | refine R.k rfl rfl ?_
    | refine R.k0 rfl ?_
    | refine R.a ttok rfl rfl (by kernel_rfl) ?_
    | refine R.b rfl rfl rfl (by kernel_rfl) ?_
    | refine R.li ttok rfl rfl rfl rfl rfl rfl (by kernel_rfl) ?_
    | refine R.st ttok rfl rfl rfl rfl rfl rfl rfl (by kernel_rfl) ?_
    | refine R.done ?_
    | refine X.then ?_
    | refine C.block ?_
    | refine C.ret ?_
    | refine C.skip ?_
    | refine C.exit ?_
    | refine X.pass_ret ?_
    | refine X.pass_exit ?_
    | refine X.block_normal ?_
    | refine X.block_ret ?_
    | refine X.block_exit ?_
    | refine X.block_other rfl ?_
    | refine C.tru rfl ?_
    | refine C.fls rfl ?_)
  by_cases h1 : x.k = 1
  · rw [decide_eq_true h1, tk_1 h1]
    repeat (first
    | refine C.seq ?_
    | refine C.region ?_
    | refine R.nr ttok rfl (by first | exact Nrm.w (wrap_i64 (by omega) (by omega)) | exact Nrm.w (wrap_u64 (by omega) (by omega)) | exact Nrm.w (wrap_u8 (by omega) (by omega)) | exact Nrm.refl _) rfl (by kernel_rfl) ?_
    | refine R.k rfl rfl ?_
    | refine R.k0 rfl ?_
    | refine R.a ttok rfl rfl (by kernel_rfl) ?_
    | refine R.b rfl rfl rfl (by kernel_rfl) ?_
    | refine R.li ttok rfl rfl rfl rfl rfl rfl (by kernel_rfl) ?_
    | refine R.st ttok rfl rfl rfl rfl rfl rfl rfl (by kernel_rfl) ?_
    | refine R.done ?_
    | refine X.then ?_
    | refine C.block ?_
    | refine C.ret ?_
    | refine C.skip ?_
    | refine C.exit ?_
    | refine X.pass_ret ?_
    | refine X.pass_exit ?_
    | refine X.block_normal ?_
    | refine X.block_ret ?_
    | refine X.block_exit ?_
    | refine X.block_other rfl ?_
    | refine C.tru rfl ?_
    | refine C.fls rfl ?_)
    refine R.cl [0, 1] (rbyte_take B c at_ e hat hB) Try.call36 (by repeat (first | exact HasIn.nil | refine HasIn.same rfl rfl ?_ | refine HasIn.bro rfl ?_ | refine HasIn.ror rfl ?_ | refine HasIn.cro rfl rfl ?_)) rfl rfl rfl (fun _ => rfl) rfl (by kernel_rfl) fun _ _ => ?_
    refine R.v ttok (.int .u64 ((rdByte B at_ e).1.toNat : Int)) rfl (congrArg (Value.int .u64) (byte64 _)) rfl rfl ?_
    repeat (first
    | refine C.seq ?_
    | refine C.region ?_
    | refine R.nr ttok rfl (by first | exact Nrm.w (wrap_i64 (by omega) (by omega)) | exact Nrm.w (wrap_u64 (by omega) (by omega)) | exact Nrm.w (wrap_u8 (by omega) (by omega)) | exact Nrm.refl _) rfl (by kernel_rfl) ?_
    | refine R.k rfl rfl ?_
    | refine R.k0 rfl ?_
    | refine R.a ttok rfl rfl (by kernel_rfl) ?_
    | refine R.b rfl rfl rfl (by kernel_rfl) ?_
    | refine R.li ttok rfl rfl rfl rfl rfl rfl (by kernel_rfl) ?_
    | refine R.st ttok rfl rfl rfl rfl rfl rfl rfl (by kernel_rfl) ?_
    | refine R.done ?_
    | refine X.then ?_
    | refine C.block ?_
    | refine C.ret ?_
    | refine C.skip ?_
    | refine C.exit ?_
    | refine X.pass_ret ?_
    | refine X.pass_exit ?_
    | refine X.block_normal ?_
    | refine X.block_ret ?_
    | refine X.block_exit ?_
    | refine X.block_other rfl ?_
    | refine C.tru rfl ?_
    | refine C.fls rfl ?_)
    refine X.fin ttok () [] trivial rfl rfl rfl (by repeat (first | exact HasH.nil | refine HasH.same rfl rfl rfl trivial ?_ | refine HasH.same rfl rfl rfl rfl ?_ | refine HasH.same rfl rfl rfl (fun _ _ => rfl) ?_)) _ (by first | exact .inl rfl | exact .inr rfl)
  rw [decide_eq_false h1]
  repeat (first
    | refine C.seq ?_
    | refine C.region ?_
    | refine R.nr ttok rfl (by first | exact Nrm.w (wrap_i64 (by omega) (by omega)) | exact Nrm.w (wrap_u64 (by omega) (by omega)) | exact Nrm.w (wrap_u8 (by omega) (by omega)) | exact Nrm.refl _) rfl (by kernel_rfl) ?_
    | refine R.k rfl rfl ?_
    | refine R.k0 rfl ?_
    | refine R.a ttok rfl rfl (by kernel_rfl) ?_
    | refine R.b rfl rfl rfl (by kernel_rfl) ?_
    | refine R.li ttok rfl rfl rfl rfl rfl rfl (by kernel_rfl) ?_
    | refine R.st ttok rfl rfl rfl rfl rfl rfl rfl (by kernel_rfl) ?_
    | refine R.done ?_
    | refine X.then ?_
    | refine C.block ?_
    | refine C.ret ?_
    | refine C.skip ?_
    | refine C.exit ?_
    | refine X.pass_ret ?_
    | refine X.pass_exit ?_
    | refine X.block_normal ?_
    | refine X.block_ret ?_
    | refine X.block_exit ?_
    | refine X.block_other rfl ?_
    | refine C.tru rfl ?_
    | refine C.fls rfl ?_)
  by_cases h2 : x.k = 2
  · rw [decide_eq_true h2, tk_2 h2]
    repeat (first
    | refine C.seq ?_
    | refine C.region ?_
    | refine R.nr ttok rfl (by first | exact Nrm.w (wrap_i64 (by omega) (by omega)) | exact Nrm.w (wrap_u64 (by omega) (by omega)) | exact Nrm.w (wrap_u8 (by omega) (by omega)) | exact Nrm.refl _) rfl (by kernel_rfl) ?_
    | refine R.k rfl rfl ?_
    | refine R.k0 rfl ?_
    | refine R.a ttok rfl rfl (by kernel_rfl) ?_
    | refine R.b rfl rfl rfl (by kernel_rfl) ?_
    | refine R.li ttok rfl rfl rfl rfl rfl rfl (by kernel_rfl) ?_
    | refine R.st ttok rfl rfl rfl rfl rfl rfl rfl (by kernel_rfl) ?_
    | refine R.done ?_
    | refine X.then ?_
    | refine C.block ?_
    | refine C.ret ?_
    | refine C.skip ?_
    | refine C.exit ?_
    | refine X.pass_ret ?_
    | refine X.pass_exit ?_
    | refine X.block_normal ?_
    | refine X.block_ret ?_
    | refine X.block_exit ?_
    | refine X.block_other rfl ?_
    | refine C.tru rfl ?_
    | refine C.fls rfl ?_)
    refine R.cl [0, 1] (rfixed_take B c at_ e x.n hat hB hc) Try.call35 (by repeat (first | exact HasIn.nil | refine HasIn.same rfl rfl ?_ | refine HasIn.bro rfl ?_ | refine HasIn.ror rfl ?_ | refine HasIn.cro rfl rfl ?_)) rfl rfl rfl (fun _ => rfl) rfl (by kernel_rfl) fun _ _ => ?_
    repeat (first
    | refine C.seq ?_
    | refine C.region ?_
    | refine R.nr ttok rfl (by first | exact Nrm.w (wrap_i64 (by omega) (by omega)) | exact Nrm.w (wrap_u64 (by omega) (by omega)) | exact Nrm.w (wrap_u8 (by omega) (by omega)) | exact Nrm.refl _) rfl (by kernel_rfl) ?_
    | refine R.k rfl rfl ?_
    | refine R.k0 rfl ?_
    | refine R.a ttok rfl rfl (by kernel_rfl) ?_
    | refine R.b rfl rfl rfl (by kernel_rfl) ?_
    | refine R.li ttok rfl rfl rfl rfl rfl rfl (by kernel_rfl) ?_
    | refine R.st ttok rfl rfl rfl rfl rfl rfl rfl (by kernel_rfl) ?_
    | refine R.done ?_
    | refine X.then ?_
    | refine C.block ?_
    | refine C.ret ?_
    | refine C.skip ?_
    | refine C.exit ?_
    | refine X.pass_ret ?_
    | refine X.pass_exit ?_
    | refine X.block_normal ?_
    | refine X.block_ret ?_
    | refine X.block_exit ?_
    | refine X.block_other rfl ?_
    | refine C.tru rfl ?_
    | refine C.fls rfl ?_)
    refine X.fin ttok () [] trivial rfl rfl rfl (by repeat (first | exact HasH.nil | refine HasH.same rfl rfl rfl trivial ?_ | refine HasH.same rfl rfl rfl rfl ?_ | refine HasH.same rfl rfl rfl (fun _ _ => rfl) ?_)) _ (by first | exact .inl rfl | exact .inr rfl)
  rw [decide_eq_false h2]
  repeat (first
    | refine C.seq ?_
    | refine C.region ?_
    | refine R.nr ttok rfl (by first | exact Nrm.w (wrap_i64 (by omega) (by omega)) | exact Nrm.w (wrap_u64 (by omega) (by omega)) | exact Nrm.w (wrap_u8 (by omega) (by omega)) | exact Nrm.refl _) rfl (by kernel_rfl) ?_
    | refine R.k rfl rfl ?_
    | refine R.k0 rfl ?_
    | refine R.a ttok rfl rfl (by kernel_rfl) ?_
    | refine R.b rfl rfl rfl (by kernel_rfl) ?_
    | refine R.li ttok rfl rfl rfl rfl rfl rfl (by kernel_rfl) ?_
    | refine R.st ttok rfl rfl rfl rfl rfl rfl rfl (by kernel_rfl) ?_
    | refine R.done ?_
    | refine X.then ?_
    | refine C.block ?_
    | refine C.ret ?_
    | refine C.skip ?_
    | refine C.exit ?_
    | refine X.pass_ret ?_
    | refine X.pass_exit ?_
    | refine X.block_normal ?_
    | refine X.block_ret ?_
    | refine X.block_exit ?_
    | refine X.block_other rfl ?_
    | refine C.tru rfl ?_
    | refine C.fls rfl ?_)
  by_cases h3 : x.k = 3
  · rw [decide_eq_true h3, tk_3 h3]
    repeat (first
    | refine C.seq ?_
    | refine C.region ?_
    | refine R.nr ttok rfl (by first | exact Nrm.w (wrap_i64 (by omega) (by omega)) | exact Nrm.w (wrap_u64 (by omega) (by omega)) | exact Nrm.w (wrap_u8 (by omega) (by omega)) | exact Nrm.refl _) rfl (by kernel_rfl) ?_
    | refine R.k rfl rfl ?_
    | refine R.k0 rfl ?_
    | refine R.a ttok rfl rfl (by kernel_rfl) ?_
    | refine R.b rfl rfl rfl (by kernel_rfl) ?_
    | refine R.li ttok rfl rfl rfl rfl rfl rfl (by kernel_rfl) ?_
    | refine R.st ttok rfl rfl rfl rfl rfl rfl rfl (by kernel_rfl) ?_
    | refine R.done ?_
    | refine X.then ?_
    | refine C.block ?_
    | refine C.ret ?_
    | refine C.skip ?_
    | refine C.exit ?_
    | refine X.pass_ret ?_
    | refine X.pass_exit ?_
    | refine X.block_normal ?_
    | refine X.block_ret ?_
    | refine X.block_exit ?_
    | refine X.block_other rfl ?_
    | refine C.tru rfl ?_
    | refine C.fls rfl ?_)
    refine R.cl [0, 1] (rnumber_take B c at_ e hat hB) Try.call32 (by repeat (first | exact HasIn.nil | refine HasIn.same rfl rfl ?_ | refine HasIn.bro rfl ?_ | refine HasIn.ror rfl ?_ | refine HasIn.cro rfl rfl ?_)) rfl rfl rfl (fun _ => rfl) rfl (by kernel_rfl) fun _ _ => ?_
    repeat (first
    | refine C.seq ?_
    | refine C.region ?_
    | refine R.nr ttok rfl (by first | exact Nrm.w (wrap_i64 (by omega) (by omega)) | exact Nrm.w (wrap_u64 (by omega) (by omega)) | exact Nrm.w (wrap_u8 (by omega) (by omega)) | exact Nrm.refl _) rfl (by kernel_rfl) ?_
    | refine R.k rfl rfl ?_
    | refine R.k0 rfl ?_
    | refine R.a ttok rfl rfl (by kernel_rfl) ?_
    | refine R.b rfl rfl rfl (by kernel_rfl) ?_
    | refine R.li ttok rfl rfl rfl rfl rfl rfl (by kernel_rfl) ?_
    | refine R.st ttok rfl rfl rfl rfl rfl rfl rfl (by kernel_rfl) ?_
    | refine R.done ?_
    | refine X.then ?_
    | refine C.block ?_
    | refine C.ret ?_
    | refine C.skip ?_
    | refine C.exit ?_
    | refine X.pass_ret ?_
    | refine X.pass_exit ?_
    | refine X.block_normal ?_
    | refine X.block_ret ?_
    | refine X.block_exit ?_
    | refine X.block_other rfl ?_
    | refine C.tru rfl ?_
    | refine C.fls rfl ?_)
    refine X.fin ttok () [] trivial rfl rfl rfl (by repeat (first | exact HasH.nil | refine HasH.same rfl rfl rfl trivial ?_ | refine HasH.same rfl rfl rfl rfl ?_ | refine HasH.same rfl rfl rfl (fun _ _ => rfl) ?_)) _ (by first | exact .inl rfl | exact .inr rfl)
  rw [decide_eq_false h3]
  repeat (first
    | refine C.seq ?_
    | refine C.region ?_
    | refine R.nr ttok rfl (by first | exact Nrm.w (wrap_i64 (by omega) (by omega)) | exact Nrm.w (wrap_u64 (by omega) (by omega)) | exact Nrm.w (wrap_u8 (by omega) (by omega)) | exact Nrm.refl _) rfl (by kernel_rfl) ?_
    | refine R.k rfl rfl ?_
    | refine R.k0 rfl ?_
    | refine R.a ttok rfl rfl (by kernel_rfl) ?_
    | refine R.b rfl rfl rfl (by kernel_rfl) ?_
    | refine R.li ttok rfl rfl rfl rfl rfl rfl (by kernel_rfl) ?_
    | refine R.st ttok rfl rfl rfl rfl rfl rfl rfl (by kernel_rfl) ?_
    | refine R.done ?_
    | refine X.then ?_
    | refine C.block ?_
    | refine C.ret ?_
    | refine C.skip ?_
    | refine C.exit ?_
    | refine X.pass_ret ?_
    | refine X.pass_exit ?_
    | refine X.block_normal ?_
    | refine X.block_ret ?_
    | refine X.block_exit ?_
    | refine X.block_other rfl ?_
    | refine C.tru rfl ?_
    | refine C.fls rfl ?_)
  by_cases h4 : x.k = 4
  · rw [decide_eq_true h4, tk_4 h4]
    repeat (first
    | refine C.seq ?_
    | refine C.region ?_
    | refine R.nr ttok rfl (by first | exact Nrm.w (wrap_i64 (by omega) (by omega)) | exact Nrm.w (wrap_u64 (by omega) (by omega)) | exact Nrm.w (wrap_u8 (by omega) (by omega)) | exact Nrm.refl _) rfl (by kernel_rfl) ?_
    | refine R.k rfl rfl ?_
    | refine R.k0 rfl ?_
    | refine R.a ttok rfl rfl (by kernel_rfl) ?_
    | refine R.b rfl rfl rfl (by kernel_rfl) ?_
    | refine R.li ttok rfl rfl rfl rfl rfl rfl (by kernel_rfl) ?_
    | refine R.st ttok rfl rfl rfl rfl rfl rfl rfl (by kernel_rfl) ?_
    | refine R.done ?_
    | refine X.then ?_
    | refine C.block ?_
    | refine C.ret ?_
    | refine C.skip ?_
    | refine C.exit ?_
    | refine X.pass_ret ?_
    | refine X.pass_exit ?_
    | refine X.block_normal ?_
    | refine X.block_ret ?_
    | refine X.block_exit ?_
    | refine X.block_other rfl ?_
    | refine C.tru rfl ?_
    | refine C.fls rfl ?_)
    refine R.cl [0, 1] (rint_take B c at_ e hat hB) Try.call33 (by repeat (first | exact HasIn.nil | refine HasIn.same rfl rfl ?_ | refine HasIn.bro rfl ?_ | refine HasIn.ror rfl ?_ | refine HasIn.cro rfl rfl ?_)) rfl rfl rfl (fun _ => rfl) rfl (by kernel_rfl) fun _ _ => ?_
    repeat (first
    | refine C.seq ?_
    | refine C.region ?_
    | refine R.nr ttok rfl (by first | exact Nrm.w (wrap_i64 (by omega) (by omega)) | exact Nrm.w (wrap_u64 (by omega) (by omega)) | exact Nrm.w (wrap_u8 (by omega) (by omega)) | exact Nrm.refl _) rfl (by kernel_rfl) ?_
    | refine R.k rfl rfl ?_
    | refine R.k0 rfl ?_
    | refine R.a ttok rfl rfl (by kernel_rfl) ?_
    | refine R.b rfl rfl rfl (by kernel_rfl) ?_
    | refine R.li ttok rfl rfl rfl rfl rfl rfl (by kernel_rfl) ?_
    | refine R.st ttok rfl rfl rfl rfl rfl rfl rfl (by kernel_rfl) ?_
    | refine R.done ?_
    | refine X.then ?_
    | refine C.block ?_
    | refine C.ret ?_
    | refine C.skip ?_
    | refine C.exit ?_
    | refine X.pass_ret ?_
    | refine X.pass_exit ?_
    | refine X.block_normal ?_
    | refine X.block_ret ?_
    | refine X.block_exit ?_
    | refine X.block_other rfl ?_
    | refine C.tru rfl ?_
    | refine C.fls rfl ?_)
    refine X.fin ttok () [] trivial rfl rfl rfl (by repeat (first | exact HasH.nil | refine HasH.same rfl rfl rfl trivial ?_ | refine HasH.same rfl rfl rfl rfl ?_ | refine HasH.same rfl rfl rfl (fun _ _ => rfl) ?_)) _ (by first | exact .inl rfl | exact .inr rfl)
  rw [decide_eq_false h4]
  repeat (first
    | refine C.seq ?_
    | refine C.region ?_
    | refine R.nr ttok rfl (by first | exact Nrm.w (wrap_i64 (by omega) (by omega)) | exact Nrm.w (wrap_u64 (by omega) (by omega)) | exact Nrm.w (wrap_u8 (by omega) (by omega)) | exact Nrm.refl _) rfl (by kernel_rfl) ?_
    | refine R.k rfl rfl ?_
    | refine R.k0 rfl ?_
    | refine R.a ttok rfl rfl (by kernel_rfl) ?_
    | refine R.b rfl rfl rfl (by kernel_rfl) ?_
    | refine R.li ttok rfl rfl rfl rfl rfl rfl (by kernel_rfl) ?_
    | refine R.st ttok rfl rfl rfl rfl rfl rfl rfl (by kernel_rfl) ?_
    | refine R.done ?_
    | refine X.then ?_
    | refine C.block ?_
    | refine C.ret ?_
    | refine C.skip ?_
    | refine C.exit ?_
    | refine X.pass_ret ?_
    | refine X.pass_exit ?_
    | refine X.block_normal ?_
    | refine X.block_ret ?_
    | refine X.block_exit ?_
    | refine X.block_other rfl ?_
    | refine C.tru rfl ?_
    | refine C.fls rfl ?_)
  by_cases h5 : x.k = 5
  · rw [decide_eq_true h5, tk_5 h5]
    repeat (first
    | refine C.seq ?_
    | refine C.region ?_
    | refine R.nr ttok rfl (by first | exact Nrm.w (wrap_i64 (by omega) (by omega)) | exact Nrm.w (wrap_u64 (by omega) (by omega)) | exact Nrm.w (wrap_u8 (by omega) (by omega)) | exact Nrm.refl _) rfl (by kernel_rfl) ?_
    | refine R.k rfl rfl ?_
    | refine R.k0 rfl ?_
    | refine R.a ttok rfl rfl (by kernel_rfl) ?_
    | refine R.b rfl rfl rfl (by kernel_rfl) ?_
    | refine R.li ttok rfl rfl rfl rfl rfl rfl (by kernel_rfl) ?_
    | refine R.st ttok rfl rfl rfl rfl rfl rfl rfl (by kernel_rfl) ?_
    | refine R.done ?_
    | refine X.then ?_
    | refine C.block ?_
    | refine C.ret ?_
    | refine C.skip ?_
    | refine C.exit ?_
    | refine X.pass_ret ?_
    | refine X.pass_exit ?_
    | refine X.block_normal ?_
    | refine X.block_ret ?_
    | refine X.block_exit ?_
    | refine X.block_other rfl ?_
    | refine C.tru rfl ?_
    | refine C.fls rfl ?_)
    refine R.cl [0, 1] (rtext_take B c at_ e x.n hat hB hc) Try.call34 (by repeat (first | exact HasIn.nil | refine HasIn.same rfl rfl ?_ | refine HasIn.bro rfl ?_ | refine HasIn.ror rfl ?_ | refine HasIn.cro rfl rfl ?_)) rfl rfl rfl (fun _ => rfl) rfl (by kernel_rfl) fun _ _ => ?_
    repeat (first
    | refine C.seq ?_
    | refine C.region ?_
    | refine R.nr ttok rfl (by first | exact Nrm.w (wrap_i64 (by omega) (by omega)) | exact Nrm.w (wrap_u64 (by omega) (by omega)) | exact Nrm.w (wrap_u8 (by omega) (by omega)) | exact Nrm.refl _) rfl (by kernel_rfl) ?_
    | refine R.k rfl rfl ?_
    | refine R.k0 rfl ?_
    | refine R.a ttok rfl rfl (by kernel_rfl) ?_
    | refine R.b rfl rfl rfl (by kernel_rfl) ?_
    | refine R.li ttok rfl rfl rfl rfl rfl rfl (by kernel_rfl) ?_
    | refine R.st ttok rfl rfl rfl rfl rfl rfl rfl (by kernel_rfl) ?_
    | refine R.done ?_
    | refine X.then ?_
    | refine C.block ?_
    | refine C.ret ?_
    | refine C.skip ?_
    | refine C.exit ?_
    | refine X.pass_ret ?_
    | refine X.pass_exit ?_
    | refine X.block_normal ?_
    | refine X.block_ret ?_
    | refine X.block_exit ?_
    | refine X.block_other rfl ?_
    | refine C.tru rfl ?_
    | refine C.fls rfl ?_)
    refine X.fin ttok () [] trivial rfl rfl rfl (by repeat (first | exact HasH.nil | refine HasH.same rfl rfl rfl trivial ?_ | refine HasH.same rfl rfl rfl rfl ?_ | refine HasH.same rfl rfl rfl (fun _ _ => rfl) ?_)) _ (by first | exact .inl rfl | exact .inr rfl)
  rw [decide_eq_false h5, tk_no h1 h2 h3 h4 h5]
  repeat (first
    | refine C.seq ?_
    | refine C.region ?_
    | refine R.nr ttok rfl (by first | exact Nrm.w (wrap_i64 (by omega) (by omega)) | exact Nrm.w (wrap_u64 (by omega) (by omega)) | exact Nrm.w (wrap_u8 (by omega) (by omega)) | exact Nrm.refl _) rfl (by kernel_rfl) ?_
    | refine R.k rfl rfl ?_
    | refine R.k0 rfl ?_
    | refine R.a ttok rfl rfl (by kernel_rfl) ?_
    | refine R.b rfl rfl rfl (by kernel_rfl) ?_
    | refine R.li ttok rfl rfl rfl rfl rfl rfl (by kernel_rfl) ?_
    | refine R.st ttok rfl rfl rfl rfl rfl rfl rfl (by kernel_rfl) ?_
    | refine R.done ?_
    | refine X.then ?_
    | refine C.block ?_
    | refine C.ret ?_
    | refine C.skip ?_
    | refine C.exit ?_
    | refine X.pass_ret ?_
    | refine X.pass_exit ?_
    | refine X.block_normal ?_
    | refine X.block_ret ?_
    | refine X.block_exit ?_
    | refine X.block_other rfl ?_
    | refine C.tru rfl ?_
    | refine C.fls rfl ?_)
  refine X.fin ttok () [] trivial rfl rfl rfl (by repeat (first | exact HasH.nil | refine HasH.same rfl rfl rfl trivial ?_ | refine HasH.same rfl rfl rfl rfl ?_ | refine HasH.same rfl rfl rfl (fun _ _ => rfl) ?_)) _ (by first | exact .inl rfl | exact .inr rfl)
theorem taken_spec (off : Nat) (B : List UInt8) (c at_ st : Nat) (e : Int) (x : It) (hat : at_ ≤ B.length) (hB : B.length ≤ 1000000000000) (hc : B.length ≤ c) :
    Spec Try.prog 20 [refR 0 off B c at_ e st, .agg (itA x)] [roBo off B] 1 (σ := Unit) (fun _ => True) (fun _ => .tup [gotA (tk B at_ e x), refR 0 off B c (tk B at_ e x).a (tk B at_ e x).e (stF st at_ e (tk B at_ e x).e)]) (fun _ => []) := by
  refine Spec.of Try.func20 rfl Try.ntmps20 rfl (by simp [AO.Bd, bytesF, AV.bds, AV.bd]) fun ρ w => ?_
  repeat (first
    | refine C.seq ?_
    | refine C.region ?_
    | refine R.nr ttok rfl (by first | exact Nrm.w (wrap_i64 (by omega) (by omega)) | exact Nrm.w (wrap_u64 (by omega) (by omega)) | exact Nrm.w (wrap_u8 (by omega) (by omega)) | exact Nrm.refl _) rfl (by kernel_rfl) ?_
    | refine R.k rfl rfl ?_
    | refine R.k0 rfl ?_
    | refine R.a ttok rfl rfl (by kernel_rfl) ?_
    | refine R.b rfl rfl rfl (by kernel_rfl) ?_
    | refine R.li ttok rfl rfl rfl rfl rfl rfl (by kernel_rfl) ?_
    | refine R.st ttok rfl rfl rfl rfl rfl rfl rfl (by kernel_rfl) ?_
    | refine R.done ?_
    | refine X.then ?_
    | refine C.block ?_
    | refine C.ret ?_
    | refine C.skip ?_
    | refine C.exit ?_
    | refine X.pass_ret ?_
    | refine X.pass_exit ?_
    | refine X.block_normal ?_
    | refine X.block_ret ?_
    | refine X.block_exit ?_
    | refine X.block_other rfl ?_
    | refine C.tru rfl ?_
    | refine C.fls rfl ?_)
  by_cases h1 : x.k = 1
  · rw [decide_eq_true h1, tk_1 h1]
    repeat (first
    | refine C.seq ?_
    | refine C.region ?_
    | refine R.nr ttok rfl (by first | exact Nrm.w (wrap_i64 (by omega) (by omega)) | exact Nrm.w (wrap_u64 (by omega) (by omega)) | exact Nrm.w (wrap_u8 (by omega) (by omega)) | exact Nrm.refl _) rfl (by kernel_rfl) ?_
    | refine R.k rfl rfl ?_
    | refine R.k0 rfl ?_
    | refine R.a ttok rfl rfl (by kernel_rfl) ?_
    | refine R.b rfl rfl rfl (by kernel_rfl) ?_
    | refine R.li ttok rfl rfl rfl rfl rfl rfl (by kernel_rfl) ?_
    | refine R.st ttok rfl rfl rfl rfl rfl rfl rfl (by kernel_rfl) ?_
    | refine R.done ?_
    | refine X.then ?_
    | refine C.block ?_
    | refine C.ret ?_
    | refine C.skip ?_
    | refine C.exit ?_
    | refine X.pass_ret ?_
    | refine X.pass_exit ?_
    | refine X.block_normal ?_
    | refine X.block_ret ?_
    | refine X.block_exit ?_
    | refine X.block_other rfl ?_
    | refine C.tru rfl ?_
    | refine C.fls rfl ?_)
    refine R.cl [0] (qbyte_spec off B c at_ st e hat hB) Try.call45 (by repeat (first | exact HasIn.nil | refine HasIn.same rfl rfl ?_ | refine HasIn.bro rfl ?_ | refine HasIn.ror rfl ?_ | refine HasIn.cro rfl rfl ?_)) rfl rfl rfl (fun _ => rfl) rfl (by kernel_rfl) fun _ _ => ?_
    repeat (first
    | refine C.seq ?_
    | refine C.region ?_
    | refine R.nr ttok rfl (by first | exact Nrm.w (wrap_i64 (by omega) (by omega)) | exact Nrm.w (wrap_u64 (by omega) (by omega)) | exact Nrm.w (wrap_u8 (by omega) (by omega)) | exact Nrm.refl _) rfl (by kernel_rfl) ?_
    | refine R.k rfl rfl ?_
    | refine R.k0 rfl ?_
    | refine R.a ttok rfl rfl (by kernel_rfl) ?_
    | refine R.b rfl rfl rfl (by kernel_rfl) ?_
    | refine R.li ttok rfl rfl rfl rfl rfl rfl (by kernel_rfl) ?_
    | refine R.st ttok rfl rfl rfl rfl rfl rfl rfl (by kernel_rfl) ?_
    | refine R.done ?_
    | refine X.then ?_
    | refine C.block ?_
    | refine C.ret ?_
    | refine C.skip ?_
    | refine C.exit ?_
    | refine X.pass_ret ?_
    | refine X.pass_exit ?_
    | refine X.block_normal ?_
    | refine X.block_ret ?_
    | refine X.block_exit ?_
    | refine X.block_other rfl ?_
    | refine C.tru rfl ?_
    | refine C.fls rfl ?_)
    refine C.draw [[], [0], [0, 1], [], [0, 1, 2], [0, 1, 2, 3, 4]] [4, 5] (by kernel_rfl) (by kernel_rfl) ?_
    refine R.s ttok rfl rfl rfl ?_
    refine R.v ttok (.int .u64 ((rdByte B at_ e).1.toNat : Int)) rfl (congrArg (Value.int .u64) (byte64 _)) rfl rfl ?_
    repeat (first
    | refine C.seq ?_
    | refine C.region ?_
    | refine R.nr ttok rfl (by first | exact Nrm.w (wrap_i64 (by omega) (by omega)) | exact Nrm.w (wrap_u64 (by omega) (by omega)) | exact Nrm.w (wrap_u8 (by omega) (by omega)) | exact Nrm.refl _) rfl (by kernel_rfl) ?_
    | refine R.k rfl rfl ?_
    | refine R.k0 rfl ?_
    | refine R.a ttok rfl rfl (by kernel_rfl) ?_
    | refine R.b rfl rfl rfl (by kernel_rfl) ?_
    | refine R.li ttok rfl rfl rfl rfl rfl rfl (by kernel_rfl) ?_
    | refine R.st ttok rfl rfl rfl rfl rfl rfl rfl (by kernel_rfl) ?_
    | refine R.done ?_
    | refine X.then ?_
    | refine C.block ?_
    | refine C.ret ?_
    | refine C.skip ?_
    | refine C.exit ?_
    | refine X.pass_ret ?_
    | refine X.pass_exit ?_
    | refine X.block_normal ?_
    | refine X.block_ret ?_
    | refine X.block_exit ?_
    | refine X.block_other rfl ?_
    | refine C.tru rfl ?_
    | refine C.fls rfl ?_)
    refine X.fin ttok () [] trivial rfl rfl rfl (by repeat (first | exact HasH.nil | refine HasH.same rfl rfl rfl trivial ?_ | refine HasH.same rfl rfl rfl rfl ?_ | refine HasH.same rfl rfl rfl (fun _ _ => rfl) ?_)) _ (by first | exact .inl rfl | exact .inr rfl)
  rw [decide_eq_false h1]
  repeat (first
    | refine C.seq ?_
    | refine C.region ?_
    | refine R.nr ttok rfl (by first | exact Nrm.w (wrap_i64 (by omega) (by omega)) | exact Nrm.w (wrap_u64 (by omega) (by omega)) | exact Nrm.w (wrap_u8 (by omega) (by omega)) | exact Nrm.refl _) rfl (by kernel_rfl) ?_
    | refine R.k rfl rfl ?_
    | refine R.k0 rfl ?_
    | refine R.a ttok rfl rfl (by kernel_rfl) ?_
    | refine R.b rfl rfl rfl (by kernel_rfl) ?_
    | refine R.li ttok rfl rfl rfl rfl rfl rfl (by kernel_rfl) ?_
    | refine R.st ttok rfl rfl rfl rfl rfl rfl rfl (by kernel_rfl) ?_
    | refine R.done ?_
    | refine X.then ?_
    | refine C.block ?_
    | refine C.ret ?_
    | refine C.skip ?_
    | refine C.exit ?_
    | refine X.pass_ret ?_
    | refine X.pass_exit ?_
    | refine X.block_normal ?_
    | refine X.block_ret ?_
    | refine X.block_exit ?_
    | refine X.block_other rfl ?_
    | refine C.tru rfl ?_
    | refine C.fls rfl ?_)
  by_cases h2 : x.k = 2
  · rw [decide_eq_true h2, tk_2 h2]
    repeat (first
    | refine C.seq ?_
    | refine C.region ?_
    | refine R.nr ttok rfl (by first | exact Nrm.w (wrap_i64 (by omega) (by omega)) | exact Nrm.w (wrap_u64 (by omega) (by omega)) | exact Nrm.w (wrap_u8 (by omega) (by omega)) | exact Nrm.refl _) rfl (by kernel_rfl) ?_
    | refine R.k rfl rfl ?_
    | refine R.k0 rfl ?_
    | refine R.a ttok rfl rfl (by kernel_rfl) ?_
    | refine R.b rfl rfl rfl (by kernel_rfl) ?_
    | refine R.li ttok rfl rfl rfl rfl rfl rfl (by kernel_rfl) ?_
    | refine R.st ttok rfl rfl rfl rfl rfl rfl rfl (by kernel_rfl) ?_
    | refine R.done ?_
    | refine X.then ?_
    | refine C.block ?_
    | refine C.ret ?_
    | refine C.skip ?_
    | refine C.exit ?_
    | refine X.pass_ret ?_
    | refine X.pass_exit ?_
    | refine X.block_normal ?_
    | refine X.block_ret ?_
    | refine X.block_exit ?_
    | refine X.block_other rfl ?_
    | refine C.tru rfl ?_
    | refine C.fls rfl ?_)
    refine R.cl [0] (qfixed_spec off B c at_ st e x.n hat hB) Try.call46 (by repeat (first | exact HasIn.nil | refine HasIn.same rfl rfl ?_ | refine HasIn.bro rfl ?_ | refine HasIn.ror rfl ?_ | refine HasIn.cro rfl rfl ?_)) rfl rfl rfl (fun _ => rfl) rfl (by kernel_rfl) fun _ _ => ?_
    repeat (first
    | refine C.seq ?_
    | refine C.region ?_
    | refine R.nr ttok rfl (by first | exact Nrm.w (wrap_i64 (by omega) (by omega)) | exact Nrm.w (wrap_u64 (by omega) (by omega)) | exact Nrm.w (wrap_u8 (by omega) (by omega)) | exact Nrm.refl _) rfl (by kernel_rfl) ?_
    | refine R.k rfl rfl ?_
    | refine R.k0 rfl ?_
    | refine R.a ttok rfl rfl (by kernel_rfl) ?_
    | refine R.b rfl rfl rfl (by kernel_rfl) ?_
    | refine R.li ttok rfl rfl rfl rfl rfl rfl (by kernel_rfl) ?_
    | refine R.st ttok rfl rfl rfl rfl rfl rfl rfl (by kernel_rfl) ?_
    | refine R.done ?_
    | refine X.then ?_
    | refine C.block ?_
    | refine C.ret ?_
    | refine C.skip ?_
    | refine C.exit ?_
    | refine X.pass_ret ?_
    | refine X.pass_exit ?_
    | refine X.block_normal ?_
    | refine X.block_ret ?_
    | refine X.block_exit ?_
    | refine X.block_other rfl ?_
    | refine C.tru rfl ?_
    | refine C.fls rfl ?_)
    refine C.draw [[], [], [0], [0, 1, 2]] [2, 3] (by kernel_rfl) (by kernel_rfl) ?_
    repeat (first
    | refine C.seq ?_
    | refine C.region ?_
    | refine R.nr ttok rfl (by first | exact Nrm.w (wrap_i64 (by omega) (by omega)) | exact Nrm.w (wrap_u64 (by omega) (by omega)) | exact Nrm.w (wrap_u8 (by omega) (by omega)) | exact Nrm.refl _) rfl (by kernel_rfl) ?_
    | refine R.k rfl rfl ?_
    | refine R.k0 rfl ?_
    | refine R.a ttok rfl rfl (by kernel_rfl) ?_
    | refine R.b rfl rfl rfl (by kernel_rfl) ?_
    | refine R.li ttok rfl rfl rfl rfl rfl rfl (by kernel_rfl) ?_
    | refine R.st ttok rfl rfl rfl rfl rfl rfl rfl (by kernel_rfl) ?_
    | refine R.done ?_
    | refine X.then ?_
    | refine C.block ?_
    | refine C.ret ?_
    | refine C.skip ?_
    | refine C.exit ?_
    | refine X.pass_ret ?_
    | refine X.pass_exit ?_
    | refine X.block_normal ?_
    | refine X.block_ret ?_
    | refine X.block_exit ?_
    | refine X.block_other rfl ?_
    | refine C.tru rfl ?_
    | refine C.fls rfl ?_)
    refine X.fin ttok () [] trivial rfl rfl rfl (by repeat (first | exact HasH.nil | refine HasH.same rfl rfl rfl trivial ?_ | refine HasH.same rfl rfl rfl rfl ?_ | refine HasH.same rfl rfl rfl (fun _ _ => rfl) ?_)) _ (by first | exact .inl rfl | exact .inr rfl)
  rw [decide_eq_false h2]
  repeat (first
    | refine C.seq ?_
    | refine C.region ?_
    | refine R.nr ttok rfl (by first | exact Nrm.w (wrap_i64 (by omega) (by omega)) | exact Nrm.w (wrap_u64 (by omega) (by omega)) | exact Nrm.w (wrap_u8 (by omega) (by omega)) | exact Nrm.refl _) rfl (by kernel_rfl) ?_
    | refine R.k rfl rfl ?_
    | refine R.k0 rfl ?_
    | refine R.a ttok rfl rfl (by kernel_rfl) ?_
    | refine R.b rfl rfl rfl (by kernel_rfl) ?_
    | refine R.li ttok rfl rfl rfl rfl rfl rfl (by kernel_rfl) ?_
    | refine R.st ttok rfl rfl rfl rfl rfl rfl rfl (by kernel_rfl) ?_
    | refine R.done ?_
    | refine X.then ?_
    | refine C.block ?_
    | refine C.ret ?_
    | refine C.skip ?_
    | refine C.exit ?_
    | refine X.pass_ret ?_
    | refine X.pass_exit ?_
    | refine X.block_normal ?_
    | refine X.block_ret ?_
    | refine X.block_exit ?_
    | refine X.block_other rfl ?_
    | refine C.tru rfl ?_
    | refine C.fls rfl ?_)
  by_cases h3 : x.k = 3
  · rw [decide_eq_true h3, tk_3 h3]
    repeat (first
    | refine C.seq ?_
    | refine C.region ?_
    | refine R.nr ttok rfl (by first | exact Nrm.w (wrap_i64 (by omega) (by omega)) | exact Nrm.w (wrap_u64 (by omega) (by omega)) | exact Nrm.w (wrap_u8 (by omega) (by omega)) | exact Nrm.refl _) rfl (by kernel_rfl) ?_
    | refine R.k rfl rfl ?_
    | refine R.k0 rfl ?_
    | refine R.a ttok rfl rfl (by kernel_rfl) ?_
    | refine R.b rfl rfl rfl (by kernel_rfl) ?_
    | refine R.li ttok rfl rfl rfl rfl rfl rfl (by kernel_rfl) ?_
    | refine R.st ttok rfl rfl rfl rfl rfl rfl rfl (by kernel_rfl) ?_
    | refine R.done ?_
    | refine X.then ?_
    | refine C.block ?_
    | refine C.ret ?_
    | refine C.skip ?_
    | refine C.exit ?_
    | refine X.pass_ret ?_
    | refine X.pass_exit ?_
    | refine X.block_normal ?_
    | refine X.block_ret ?_
    | refine X.block_exit ?_
    | refine X.block_other rfl ?_
    | refine C.tru rfl ?_
    | refine C.fls rfl ?_)
    refine R.cl [0] (qnumber_spec off B c at_ st e hat hB) Try.call47 (by repeat (first | exact HasIn.nil | refine HasIn.same rfl rfl ?_ | refine HasIn.bro rfl ?_ | refine HasIn.ror rfl ?_ | refine HasIn.cro rfl rfl ?_)) rfl rfl rfl (fun _ => rfl) rfl (by kernel_rfl) fun _ _ => ?_
    repeat (first
    | refine C.seq ?_
    | refine C.region ?_
    | refine R.nr ttok rfl (by first | exact Nrm.w (wrap_i64 (by omega) (by omega)) | exact Nrm.w (wrap_u64 (by omega) (by omega)) | exact Nrm.w (wrap_u8 (by omega) (by omega)) | exact Nrm.refl _) rfl (by kernel_rfl) ?_
    | refine R.k rfl rfl ?_
    | refine R.k0 rfl ?_
    | refine R.a ttok rfl rfl (by kernel_rfl) ?_
    | refine R.b rfl rfl rfl (by kernel_rfl) ?_
    | refine R.li ttok rfl rfl rfl rfl rfl rfl (by kernel_rfl) ?_
    | refine R.st ttok rfl rfl rfl rfl rfl rfl rfl (by kernel_rfl) ?_
    | refine R.done ?_
    | refine X.then ?_
    | refine C.block ?_
    | refine C.ret ?_
    | refine C.skip ?_
    | refine C.exit ?_
    | refine X.pass_ret ?_
    | refine X.pass_exit ?_
    | refine X.block_normal ?_
    | refine X.block_ret ?_
    | refine X.block_exit ?_
    | refine X.block_other rfl ?_
    | refine C.tru rfl ?_
    | refine C.fls rfl ?_)
    refine C.draw [[], [0], [], [0, 1], [0, 1, 2, 3]] [3, 4] (by kernel_rfl) (by kernel_rfl) ?_
    repeat (first
    | refine C.seq ?_
    | refine C.region ?_
    | refine R.nr ttok rfl (by first | exact Nrm.w (wrap_i64 (by omega) (by omega)) | exact Nrm.w (wrap_u64 (by omega) (by omega)) | exact Nrm.w (wrap_u8 (by omega) (by omega)) | exact Nrm.refl _) rfl (by kernel_rfl) ?_
    | refine R.k rfl rfl ?_
    | refine R.k0 rfl ?_
    | refine R.a ttok rfl rfl (by kernel_rfl) ?_
    | refine R.b rfl rfl rfl (by kernel_rfl) ?_
    | refine R.li ttok rfl rfl rfl rfl rfl rfl (by kernel_rfl) ?_
    | refine R.st ttok rfl rfl rfl rfl rfl rfl rfl (by kernel_rfl) ?_
    | refine R.done ?_
    | refine X.then ?_
    | refine C.block ?_
    | refine C.ret ?_
    | refine C.skip ?_
    | refine C.exit ?_
    | refine X.pass_ret ?_
    | refine X.pass_exit ?_
    | refine X.block_normal ?_
    | refine X.block_ret ?_
    | refine X.block_exit ?_
    | refine X.block_other rfl ?_
    | refine C.tru rfl ?_
    | refine C.fls rfl ?_)
    refine X.fin ttok () [] trivial rfl rfl rfl (by repeat (first | exact HasH.nil | refine HasH.same rfl rfl rfl trivial ?_ | refine HasH.same rfl rfl rfl rfl ?_ | refine HasH.same rfl rfl rfl (fun _ _ => rfl) ?_)) _ (by first | exact .inl rfl | exact .inr rfl)
  rw [decide_eq_false h3]
  repeat (first
    | refine C.seq ?_
    | refine C.region ?_
    | refine R.nr ttok rfl (by first | exact Nrm.w (wrap_i64 (by omega) (by omega)) | exact Nrm.w (wrap_u64 (by omega) (by omega)) | exact Nrm.w (wrap_u8 (by omega) (by omega)) | exact Nrm.refl _) rfl (by kernel_rfl) ?_
    | refine R.k rfl rfl ?_
    | refine R.k0 rfl ?_
    | refine R.a ttok rfl rfl (by kernel_rfl) ?_
    | refine R.b rfl rfl rfl (by kernel_rfl) ?_
    | refine R.li ttok rfl rfl rfl rfl rfl rfl (by kernel_rfl) ?_
    | refine R.st ttok rfl rfl rfl rfl rfl rfl rfl (by kernel_rfl) ?_
    | refine R.done ?_
    | refine X.then ?_
    | refine C.block ?_
    | refine C.ret ?_
    | refine C.skip ?_
    | refine C.exit ?_
    | refine X.pass_ret ?_
    | refine X.pass_exit ?_
    | refine X.block_normal ?_
    | refine X.block_ret ?_
    | refine X.block_exit ?_
    | refine X.block_other rfl ?_
    | refine C.tru rfl ?_
    | refine C.fls rfl ?_)
  by_cases h4 : x.k = 4
  · rw [decide_eq_true h4, tk_4 h4]
    repeat (first
    | refine C.seq ?_
    | refine C.region ?_
    | refine R.nr ttok rfl (by first | exact Nrm.w (wrap_i64 (by omega) (by omega)) | exact Nrm.w (wrap_u64 (by omega) (by omega)) | exact Nrm.w (wrap_u8 (by omega) (by omega)) | exact Nrm.refl _) rfl (by kernel_rfl) ?_
    | refine R.k rfl rfl ?_
    | refine R.k0 rfl ?_
    | refine R.a ttok rfl rfl (by kernel_rfl) ?_
    | refine R.b rfl rfl rfl (by kernel_rfl) ?_
    | refine R.li ttok rfl rfl rfl rfl rfl rfl (by kernel_rfl) ?_
    | refine R.st ttok rfl rfl rfl rfl rfl rfl rfl (by kernel_rfl) ?_
    | refine R.done ?_
    | refine X.then ?_
    | refine C.block ?_
    | refine C.ret ?_
    | refine C.skip ?_
    | refine C.exit ?_
    | refine X.pass_ret ?_
    | refine X.pass_exit ?_
    | refine X.block_normal ?_
    | refine X.block_ret ?_
    | refine X.block_exit ?_
    | refine X.block_other rfl ?_
    | refine C.tru rfl ?_
    | refine C.fls rfl ?_)
    refine R.cl [0] (qint_spec off B c at_ st e hat hB) Try.call48 (by repeat (first | exact HasIn.nil | refine HasIn.same rfl rfl ?_ | refine HasIn.bro rfl ?_ | refine HasIn.ror rfl ?_ | refine HasIn.cro rfl rfl ?_)) rfl rfl rfl (fun _ => rfl) rfl (by kernel_rfl) fun _ _ => ?_
    repeat (first
    | refine C.seq ?_
    | refine C.region ?_
    | refine R.nr ttok rfl (by first | exact Nrm.w (wrap_i64 (by omega) (by omega)) | exact Nrm.w (wrap_u64 (by omega) (by omega)) | exact Nrm.w (wrap_u8 (by omega) (by omega)) | exact Nrm.refl _) rfl (by kernel_rfl) ?_
    | refine R.k rfl rfl ?_
    | refine R.k0 rfl ?_
    | refine R.a ttok rfl rfl (by kernel_rfl) ?_
    | refine R.b rfl rfl rfl (by kernel_rfl) ?_
    | refine R.li ttok rfl rfl rfl rfl rfl rfl (by kernel_rfl) ?_
    | refine R.st ttok rfl rfl rfl rfl rfl rfl rfl (by kernel_rfl) ?_
    | refine R.done ?_
    | refine X.then ?_
    | refine C.block ?_
    | refine C.ret ?_
    | refine C.skip ?_
    | refine C.exit ?_
    | refine X.pass_ret ?_
    | refine X.pass_exit ?_
    | refine X.block_normal ?_
    | refine X.block_ret ?_
    | refine X.block_exit ?_
    | refine X.block_other rfl ?_
    | refine C.tru rfl ?_
    | refine C.fls rfl ?_)
    refine C.draw [[], [], [0], [0, 1, 2]] [2, 3] (by kernel_rfl) (by kernel_rfl) ?_
    repeat (first
    | refine C.seq ?_
    | refine C.region ?_
    | refine R.nr ttok rfl (by first | exact Nrm.w (wrap_i64 (by omega) (by omega)) | exact Nrm.w (wrap_u64 (by omega) (by omega)) | exact Nrm.w (wrap_u8 (by omega) (by omega)) | exact Nrm.refl _) rfl (by kernel_rfl) ?_
    | refine R.k rfl rfl ?_
    | refine R.k0 rfl ?_
    | refine R.a ttok rfl rfl (by kernel_rfl) ?_
    | refine R.b rfl rfl rfl (by kernel_rfl) ?_
    | refine R.li ttok rfl rfl rfl rfl rfl rfl (by kernel_rfl) ?_
    | refine R.st ttok rfl rfl rfl rfl rfl rfl rfl (by kernel_rfl) ?_
    | refine R.done ?_
    | refine X.then ?_
    | refine C.block ?_
    | refine C.ret ?_
    | refine C.skip ?_
    | refine C.exit ?_
    | refine X.pass_ret ?_
    | refine X.pass_exit ?_
    | refine X.block_normal ?_
    | refine X.block_ret ?_
    | refine X.block_exit ?_
    | refine X.block_other rfl ?_
    | refine C.tru rfl ?_
    | refine C.fls rfl ?_)
    refine X.fin ttok () [] trivial rfl rfl rfl (by repeat (first | exact HasH.nil | refine HasH.same rfl rfl rfl trivial ?_ | refine HasH.same rfl rfl rfl rfl ?_ | refine HasH.same rfl rfl rfl (fun _ _ => rfl) ?_)) _ (by first | exact .inl rfl | exact .inr rfl)
  rw [decide_eq_false h4]
  repeat (first
    | refine C.seq ?_
    | refine C.region ?_
    | refine R.nr ttok rfl (by first | exact Nrm.w (wrap_i64 (by omega) (by omega)) | exact Nrm.w (wrap_u64 (by omega) (by omega)) | exact Nrm.w (wrap_u8 (by omega) (by omega)) | exact Nrm.refl _) rfl (by kernel_rfl) ?_
    | refine R.k rfl rfl ?_
    | refine R.k0 rfl ?_
    | refine R.a ttok rfl rfl (by kernel_rfl) ?_
    | refine R.b rfl rfl rfl (by kernel_rfl) ?_
    | refine R.li ttok rfl rfl rfl rfl rfl rfl (by kernel_rfl) ?_
    | refine R.st ttok rfl rfl rfl rfl rfl rfl rfl (by kernel_rfl) ?_
    | refine R.done ?_
    | refine X.then ?_
    | refine C.block ?_
    | refine C.ret ?_
    | refine C.skip ?_
    | refine C.exit ?_
    | refine X.pass_ret ?_
    | refine X.pass_exit ?_
    | refine X.block_normal ?_
    | refine X.block_ret ?_
    | refine X.block_exit ?_
    | refine X.block_other rfl ?_
    | refine C.tru rfl ?_
    | refine C.fls rfl ?_)
  by_cases h5 : x.k = 5
  · rw [decide_eq_true h5, tk_5 h5]
    repeat (first
    | refine C.seq ?_
    | refine C.region ?_
    | refine R.nr ttok rfl (by first | exact Nrm.w (wrap_i64 (by omega) (by omega)) | exact Nrm.w (wrap_u64 (by omega) (by omega)) | exact Nrm.w (wrap_u8 (by omega) (by omega)) | exact Nrm.refl _) rfl (by kernel_rfl) ?_
    | refine R.k rfl rfl ?_
    | refine R.k0 rfl ?_
    | refine R.a ttok rfl rfl (by kernel_rfl) ?_
    | refine R.b rfl rfl rfl (by kernel_rfl) ?_
    | refine R.li ttok rfl rfl rfl rfl rfl rfl (by kernel_rfl) ?_
    | refine R.st ttok rfl rfl rfl rfl rfl rfl rfl (by kernel_rfl) ?_
    | refine R.done ?_
    | refine X.then ?_
    | refine C.block ?_
    | refine C.ret ?_
    | refine C.skip ?_
    | refine C.exit ?_
    | refine X.pass_ret ?_
    | refine X.pass_exit ?_
    | refine X.block_normal ?_
    | refine X.block_ret ?_
    | refine X.block_exit ?_
    | refine X.block_other rfl ?_
    | refine C.tru rfl ?_
    | refine C.fls rfl ?_)
    refine R.cl [0] (qtext_spec off B c at_ st e x.n hat hB hc) Try.call49 (by repeat (first | exact HasIn.nil | refine HasIn.same rfl rfl ?_ | refine HasIn.bro rfl ?_ | refine HasIn.ror rfl ?_ | refine HasIn.cro rfl rfl ?_)) rfl rfl rfl (fun _ => rfl) rfl (by kernel_rfl) fun _ _ => ?_
    repeat (first
    | refine C.seq ?_
    | refine C.region ?_
    | refine R.nr ttok rfl (by first | exact Nrm.w (wrap_i64 (by omega) (by omega)) | exact Nrm.w (wrap_u64 (by omega) (by omega)) | exact Nrm.w (wrap_u8 (by omega) (by omega)) | exact Nrm.refl _) rfl (by kernel_rfl) ?_
    | refine R.k rfl rfl ?_
    | refine R.k0 rfl ?_
    | refine R.a ttok rfl rfl (by kernel_rfl) ?_
    | refine R.b rfl rfl rfl (by kernel_rfl) ?_
    | refine R.li ttok rfl rfl rfl rfl rfl rfl (by kernel_rfl) ?_
    | refine R.st ttok rfl rfl rfl rfl rfl rfl rfl (by kernel_rfl) ?_
    | refine R.done ?_
    | refine X.then ?_
    | refine C.block ?_
    | refine C.ret ?_
    | refine C.skip ?_
    | refine C.exit ?_
    | refine X.pass_ret ?_
    | refine X.pass_exit ?_
    | refine X.block_normal ?_
    | refine X.block_ret ?_
    | refine X.block_exit ?_
    | refine X.block_other rfl ?_
    | refine C.tru rfl ?_
    | refine C.fls rfl ?_)
    refine C.draw [[], [], [0], [0, 1, 2]] [2, 3] (by kernel_rfl) (by kernel_rfl) ?_
    repeat (first
    | refine C.seq ?_
    | refine C.region ?_
    | refine R.nr ttok rfl (by first | exact Nrm.w (wrap_i64 (by omega) (by omega)) | exact Nrm.w (wrap_u64 (by omega) (by omega)) | exact Nrm.w (wrap_u8 (by omega) (by omega)) | exact Nrm.refl _) rfl (by kernel_rfl) ?_
    | refine R.k rfl rfl ?_
    | refine R.k0 rfl ?_
    | refine R.a ttok rfl rfl (by kernel_rfl) ?_
    | refine R.b rfl rfl rfl (by kernel_rfl) ?_
    | refine R.li ttok rfl rfl rfl rfl rfl rfl (by kernel_rfl) ?_
    | refine R.st ttok rfl rfl rfl rfl rfl rfl rfl (by kernel_rfl) ?_
    | refine R.done ?_
    | refine X.then ?_
    | refine C.block ?_
    | refine C.ret ?_
    | refine C.skip ?_
    | refine C.exit ?_
    | refine X.pass_ret ?_
    | refine X.pass_exit ?_
    | refine X.block_normal ?_
    | refine X.block_ret ?_
    | refine X.block_exit ?_
    | refine X.block_other rfl ?_
    | refine C.tru rfl ?_
    | refine C.fls rfl ?_)
    refine X.fin ttok () [] trivial rfl rfl rfl (by repeat (first | exact HasH.nil | refine HasH.same rfl rfl rfl trivial ?_ | refine HasH.same rfl rfl rfl rfl ?_ | refine HasH.same rfl rfl rfl (fun _ _ => rfl) ?_)) _ (by first | exact .inl rfl | exact .inr rfl)
  rw [decide_eq_false h5, tk_no h1 h2 h3 h4 h5]
  have hst : stF st at_ e e = st := by unfold stF; split <;> rfl
  dsimp only
  rw [hst]
  repeat (first
    | refine C.seq ?_
    | refine C.region ?_
    | refine R.nr ttok rfl (by first | exact Nrm.w (wrap_i64 (by omega) (by omega)) | exact Nrm.w (wrap_u64 (by omega) (by omega)) | exact Nrm.w (wrap_u8 (by omega) (by omega)) | exact Nrm.refl _) rfl (by kernel_rfl) ?_
    | refine R.k rfl rfl ?_
    | refine R.k0 rfl ?_
    | refine R.a ttok rfl rfl (by kernel_rfl) ?_
    | refine R.b rfl rfl rfl (by kernel_rfl) ?_
    | refine R.li ttok rfl rfl rfl rfl rfl rfl (by kernel_rfl) ?_
    | refine R.st ttok rfl rfl rfl rfl rfl rfl rfl (by kernel_rfl) ?_
    | refine R.done ?_
    | refine X.then ?_
    | refine C.block ?_
    | refine C.ret ?_
    | refine C.skip ?_
    | refine C.exit ?_
    | refine X.pass_ret ?_
    | refine X.pass_exit ?_
    | refine X.block_normal ?_
    | refine X.block_ret ?_
    | refine X.block_exit ?_
    | refine X.block_other rfl ?_
    | refine C.tru rfl ?_
    | refine C.fls rfl ?_)
  refine C.draw [[], [], [0], [0, 1, 2]] [2, 3] (by kernel_rfl) (by kernel_rfl) ?_
  repeat (first
    | refine C.seq ?_
    | refine C.region ?_
    | refine R.nr ttok rfl (by first | exact Nrm.w (wrap_i64 (by omega) (by omega)) | exact Nrm.w (wrap_u64 (by omega) (by omega)) | exact Nrm.w (wrap_u8 (by omega) (by omega)) | exact Nrm.refl _) rfl (by kernel_rfl) ?_
    | refine R.k rfl rfl ?_
    | refine R.k0 rfl ?_
    | refine R.a ttok rfl rfl (by kernel_rfl) ?_
    | refine R.b rfl rfl rfl (by kernel_rfl) ?_
    | refine R.li ttok rfl rfl rfl rfl rfl rfl (by kernel_rfl) ?_
    | refine R.st ttok rfl rfl rfl rfl rfl rfl rfl (by kernel_rfl) ?_
    | refine R.done ?_
    | refine X.then ?_
    | refine C.block ?_
    | refine C.ret ?_
    | refine C.skip ?_
    | refine C.exit ?_
    | refine X.pass_ret ?_
    | refine X.pass_exit ?_
    | refine X.block_normal ?_
    | refine X.block_ret ?_
    | refine X.block_exit ?_
    | refine X.block_other rfl ?_
    | refine C.tru rfl ?_
    | refine C.fls rfl ?_)
  refine X.fin ttok () [] trivial rfl rfl rfl (by repeat (first | exact HasH.nil | refine HasH.same rfl rfl rfl trivial ?_ | refine HasH.same rfl rfl rfl rfl ?_ | refine HasH.same rfl rfl rfl (fun _ _ => rfl) ?_)) _ (by first | exact .inl rfl | exact .inr rfl)
end Go.Proofs.Ytchbncbojfiiiaa
