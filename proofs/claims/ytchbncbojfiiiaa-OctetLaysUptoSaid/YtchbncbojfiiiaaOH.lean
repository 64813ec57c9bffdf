/- octet: lay, laid -/
import Derived.Test.YtchbncbojfiiiaaOG
namespace Go.Proofs.Ytchbncbojfiiiaa
set_option linter.unusedVariables false
set_option linter.unusedSimpArgs false
open Go.RowKit
set_option maxRecDepth 100000
set_option maxHeartbeats 4000000
def layP (p : List UInt8) (e : Int) (x : It) : List UInt8 :=
  if x.k = 1 then layF p e [UInt8.ofNat (x.u % 256)] else if x.k = 2 then fixP p e x.u x.n else if x.k = 3 then numP p e x.n else if x.k = 4 then layF p e (sevN (zigN x.i)) else if x.k = 5 then textP p e x.s else p
def layE (e : Int) (x : It) : Int := if x.k = 2 then fixE e x.n else if x.k = 3 then numE e x.n else e
theorem layP_1 {x : It} (p : List UInt8) (e : Int) (h : x.k = 1) : layP p e x = layF p e [UInt8.ofNat (x.u % 256)] ∧ layE e x = e := ⟨if_pos h, by unfold layE; rw [if_neg (by omega), if_neg (by omega)]⟩
theorem layP_2 {x : It} (p : List UInt8) (e : Int) (h : x.k = 2) : layP p e x = fixP p e x.u x.n ∧ layE e x = fixE e x.n := ⟨by unfold layP; rw [if_neg (by omega), if_pos h], if_pos h⟩
theorem layP_3 {x : It} (p : List UInt8) (e : Int) (h : x.k = 3) : layP p e x = numP p e x.n ∧ layE e x = numE e x.n := ⟨by unfold layP; rw [if_neg (by omega), if_neg (by omega), if_pos h], by unfold layE; rw [if_neg (by omega), if_pos h]⟩
theorem layP_4 {x : It} (p : List UInt8) (e : Int) (h : x.k = 4) : layP p e x = layF p e (sevN (zigN x.i)) ∧ layE e x = e := ⟨by unfold layP; rw [if_neg (by omega), if_neg (by omega), if_neg (by omega), if_pos h], by unfold layE; rw [if_neg (by omega), if_neg (by omega)]⟩
theorem layP_5 {x : It} (p : List UInt8) (e : Int) (h : x.k = 5) : layP p e x = textP p e x.s ∧ layE e x = e := ⟨by unfold layP; rw [if_neg (by omega), if_neg (by omega), if_neg (by omega), if_neg (by omega), if_pos h], by unfold layE; rw [if_neg (by omega), if_neg (by omega)]⟩
theorem layP_no {x : It} (p : List UInt8) (e : Int) (h1 : x.k ≠ 1) (h2 : x.k ≠ 2) (h3 : x.k ≠ 3) (h4 : x.k ≠ 4) (h5 : x.k ≠ 5) : layP p e x = p ∧ layE e x = e := ⟨by unfold layP; rw [if_neg h1, if_neg h2, if_neg h3, if_neg h4, if_neg h5], by unfold layE; rw [if_neg h2, if_neg h3]⟩
theorem fixP_len (p : List UInt8) (e : Int) (v : Nat) (n : Int) : (fixP p e v n).length ≤ p.length + 8 := by
  unfold fixP
  split
  · omega
  · have := layF_len p (leN n.toNat v) e
    rw [leN_len] at this
    omega
theorem numP_len (p : List UInt8) (e v : Int) (h : v ≤ 9223372036854775807) : (numP p e v).length ≤ p.length + 10 := by
  unfold numP
  split
  · omega
  · have := layF_len p (sevN v.toNat) e
    have := sevN_len10 (u := v.toNat) (by omega)
    omega
theorem layP_len {x : It} (hx : x.Ok) (p : List UInt8) (e : Int) (hs : x.s.size ≤ 100000) : (layP p e x).length ≤ p.length + 10 + x.s.size := by
  unfold layP
  split
  · have := layF_len p [UInt8.ofNat (x.u % 256)] e
    simp at this; omega
  split
  · have := fixP_len p e x.u x.n
    omega
  split
  · have := numP_len p e x.n hx.n2
    omega
  split
  · have := layF_len p (sevN (zigN x.i)) e
    have := sevN_len10 (zigN_lt hx.i1 hx.i2)
    omega
  split
  · unfold textP
    have := layF_len p (sevN x.s.size ++ strB x.s) e
    have := sevN_len10 (u := x.s.size) (by omega)
    rw [List.length_append, strB_size] at *
    omega
  · omega
theorem lay_spec (p : List UInt8) (c : Nat) (e : Int) (x : It) (hx : x.Ok) (hc : c ≤ 9223372036854775807) (hp : p.length ≤ 10000000000) (hs : x.s.size ≤ 100000) :
    Spec Try.prog 11 [.ptr 0 0 0 0, .agg (itA x)] [wrO 1 p c e, .bytes p c 5] 3 (σ := Nat) (fun c => c ≤ 9223372036854775807) (fun c => .tup []) (fun c => [(0, wrO 2 (layP p e x) c (layE e x)), (2, .bytes (layP p e x) c 5)]) := by
  refine Spec.of Try.func11 rfl Try.ntmps11 rfl (by simp [AO.Bd, bytesF, AV.bds, AV.bd]) fun ρ w => ?_
  repeat (first
    | refine C.seq ?_
    | refine C.region ?_
    | refine R.nr ttok rfl (by first | exact Nrm.w (wrap_i64 (by omega) (by omega)) | exact Nrm.w (wrap_u64 (by omega) (by omega)) | exact Nrm.w (wrap_u8 (by omega) (by omega)) | exact Nrm.refl _) rfl (by kernel_rfl) ?_
    | refine R.k rfl rfl ?_
    | refine R.k0 rfl ?_
    | refine R.a ttok rfl rfl (by kernel_rfl) ?_
    | refine R.b rfl rfl rfl (by kernel_rfl) ?_
    | refine R.li ttok rfl rfl rfl rfl rfl rfl (by kernel_rfl) ?_
    | refine R.st ttok rfl rfl rfl rfl rfl rfl rfl (by kernel_rfl) ?_
    | refine R.done ?_
    | refine X.then ?_
    | refine C.block ?_
    | refine C.ret ?_
    | refine C.skip ?_
    | refine C.exit ?_
    | refine X.pass_ret ?_
    | refine X.pass_exit ?_
    | refine X.block_normal ?_
    | refine X.block_ret ?_
    | refine X.block_exit ?_
    | refine X.block_other rfl ?_
    | refine C.tru rfl ?_
    | refine C.fls rfl ?_)
  by_cases h1 : x.k = 1
  · rw [decide_eq_true h1, (layP_1 p e h1).1, (layP_1 p e h1).2]
    repeat (first
    | refine C.seq ?_
    | refine C.region ?_
    | refine R.nr ttok rfl (by first | exact Nrm.w (wrap_i64 (by omega) (by omega)) | exact Nrm.w (wrap_u64 (by omega) (by omega)) | exact Nrm.w (wrap_u8 (by omega) (by omega)) | exact Nrm.refl _) rfl (by kernel_rfl) ?_
    | refine R.k rfl rfl ?_
    | refine R.k0 rfl ?_
    | refine R.a ttok rfl rfl (by kernel_rfl) ?_
    | refine R.b rfl rfl rfl (by kernel_rfl) ?_
    | refine R.li ttok rfl rfl rfl rfl rfl rfl (by kernel_rfl) ?_
    | refine R.st ttok rfl rfl rfl rfl rfl rfl rfl (by kernel_rfl) ?_
    | refine R.done ?_
    | refine X.then ?_
    | refine C.block ?_
    | refine C.ret ?_
    | refine C.skip ?_
    | refine C.exit ?_
    | refine X.pass_ret ?_
    | refine X.pass_exit ?_
    | refine X.block_normal ?_
    | refine X.block_ret ?_
    | refine X.block_exit ?_
    | refine X.block_other rfl ?_
    | refine C.tru rfl ?_
    | refine C.fls rfl ?_)
    rw [mod256]
    refine R.cl [0, 1] (wbyte_spec p c e (UInt8.ofNat (x.u % 256)) hc (by omega)) Try.call31 (by repeat (first | exact HasIn.nil | refine HasIn.same rfl rfl ?_ | refine HasIn.bro rfl ?_ | refine HasIn.ror rfl ?_ | refine HasIn.cro rfl rfl ?_)) rfl rfl rfl (fun _ => rfl) rfl (by kernel_rfl) fun c' hc' => ?_
    repeat (first
    | refine C.seq ?_
    | refine C.region ?_
    | refine R.nr ttok rfl (by first | exact Nrm.w (wrap_i64 (by omega) (by omega)) | exact Nrm.w (wrap_u64 (by omega) (by omega)) | exact Nrm.w (wrap_u8 (by omega) (by omega)) | exact Nrm.refl _) rfl (by kernel_rfl) ?_
    | refine R.k rfl rfl ?_
    | refine R.k0 rfl ?_
    | refine R.a ttok rfl rfl (by kernel_rfl) ?_
    | refine R.b rfl rfl rfl (by kernel_rfl) ?_
    | refine R.li ttok rfl rfl rfl rfl rfl rfl (by kernel_rfl) ?_
    | refine R.st ttok rfl rfl rfl rfl rfl rfl rfl (by kernel_rfl) ?_
    | refine R.done ?_
    | refine X.then ?_
    | refine C.block ?_
    | refine C.ret ?_
    | refine C.skip ?_
    | refine C.exit ?_
    | refine X.pass_ret ?_
    | refine X.pass_exit ?_
    | refine X.block_normal ?_
    | refine X.block_ret ?_
    | refine X.block_exit ?_
    | refine X.block_other rfl ?_
    | refine C.tru rfl ?_
    | refine C.fls rfl ?_)
    refine X.fin ttok c' [(2, 3)] hc' rfl rfl rfl (by repeat (first | exact HasH.nil | refine HasH.same rfl rfl rfl trivial ?_ | refine HasH.same rfl rfl rfl rfl ?_ | refine HasH.same rfl rfl rfl (fun _ _ => rfl) ?_)) _ (by first | exact .inl rfl | exact .inr rfl)
  rw [decide_eq_false h1]
  repeat (first
    | refine C.seq ?_
    | refine C.region ?_
    | refine R.nr ttok rfl (by first | exact Nrm.w (wrap_i64 (by omega) (by omega)) | exact Nrm.w (wrap_u64 (by omega) (by omega)) | exact Nrm.w (wrap_u8 (by omega) (by omega)) | exact Nrm.refl _) rfl (by kernel_rfl) ?_
    | refine R.k rfl rfl ?_
    | refine R.k0 rfl ?_
    | refine R.a ttok rfl rfl (by kernel_rfl) ?_
    | refine R.b rfl rfl rfl (by kernel_rfl) ?_
    | refine R.li ttok rfl rfl rfl rfl rfl rfl (by kernel_rfl) ?_
    | refine R.st ttok rfl rfl rfl rfl rfl rfl rfl (by kernel_rfl) ?_
    | refine R.done ?_
    | refine X.then ?_
    | refine C.block ?_
    | refine C.ret ?_
    | refine C.skip ?_
    | refine C.exit ?_
    | refine X.pass_ret ?_
    | refine X.pass_exit ?_
    | refine X.block_normal ?_
    | refine X.block_ret ?_
    | refine X.block_exit ?_
    | refine X.block_other rfl ?_
    | refine C.tru rfl ?_
    | refine C.fls rfl ?_)
  by_cases h2 : x.k = 2
  · rw [decide_eq_true h2, (layP_2 p e h2).1, (layP_2 p e h2).2]
    repeat (first
    | refine C.seq ?_
    | refine C.region ?_
    | refine R.nr ttok rfl (by first | exact Nrm.w (wrap_i64 (by omega) (by omega)) | exact Nrm.w (wrap_u64 (by omega) (by omega)) | exact Nrm.w (wrap_u8 (by omega) (by omega)) | exact Nrm.refl _) rfl (by kernel_rfl) ?_
    | refine R.k rfl rfl ?_
    | refine R.k0 rfl ?_
    | refine R.a ttok rfl rfl (by kernel_rfl) ?_
    | refine R.b rfl rfl rfl (by kernel_rfl) ?_
    | refine R.li ttok rfl rfl rfl rfl rfl rfl (by kernel_rfl) ?_
    | refine R.st ttok rfl rfl rfl rfl rfl rfl rfl (by kernel_rfl) ?_
    | refine R.done ?_
    | refine X.then ?_
    | refine C.block ?_
    | refine C.ret ?_
    | refine C.skip ?_
    | refine C.exit ?_
    | refine X.pass_ret ?_
    | refine X.pass_exit ?_
    | refine X.block_normal ?_
    | refine X.block_ret ?_
    | refine X.block_exit ?_
    | refine X.block_other rfl ?_
    | refine C.tru rfl ?_
    | refine C.fls rfl ?_)
    refine R.cl [0, 1] (wfixed_spec p c e x.u x.n hc (by omega) hx.u2) Try.call30 (by repeat (first | exact HasIn.nil | refine HasIn.same rfl rfl ?_ | refine HasIn.bro rfl ?_ | refine HasIn.ror rfl ?_ | refine HasIn.cro rfl rfl ?_)) rfl rfl rfl (fun _ => rfl) rfl (by kernel_rfl) fun c' hc' => ?_
    repeat (first
    | refine C.seq ?_
    | refine C.region ?_
    | refine R.nr ttok rfl (by first | exact Nrm.w (wrap_i64 (by omega) (by omega)) | exact Nrm.w (wrap_u64 (by omega) (by omega)) | exact Nrm.w (wrap_u8 (by omega) (by omega)) | exact Nrm.refl _) rfl (by kernel_rfl) ?_
    | refine R.k rfl rfl ?_
    | refine R.k0 rfl ?_
    | refine R.a ttok rfl rfl (by kernel_rfl) ?_
    | refine R.b rfl rfl rfl (by kernel_rfl) ?_
    | refine R.li ttok rfl rfl rfl rfl rfl rfl (by kernel_rfl) ?_
    | refine R.st ttok rfl rfl rfl rfl rfl rfl rfl (by kernel_rfl) ?_
    | refine R.done ?_
    | refine X.then ?_
    | refine C.block ?_
    | refine C.ret ?_
    | refine C.skip ?_
    | refine C.exit ?_
    | refine X.pass_ret ?_
    | refine X.pass_exit ?_
    | refine X.block_normal ?_
    | refine X.block_ret ?_
    | refine X.block_exit ?_
    | refine X.block_other rfl ?_
    | refine C.tru rfl ?_
    | refine C.fls rfl ?_)
    refine X.fin ttok c' [(2, 3)] hc' rfl rfl rfl (by repeat (first | exact HasH.nil | refine HasH.same rfl rfl rfl trivial ?_ | refine HasH.same rfl rfl rfl rfl ?_ | refine HasH.same rfl rfl rfl (fun _ _ => rfl) ?_)) _ (by first | exact .inl rfl | exact .inr rfl)
  rw [decide_eq_false h2]
  repeat (first
    | refine C.seq ?_
    | refine C.region ?_
    | refine R.nr ttok rfl (by first | exact Nrm.w (wrap_i64 (by omega) (by omega)) | exact Nrm.w (wrap_u64 (by omega) (by omega)) | exact Nrm.w (wrap_u8 (by omega) (by omega)) | exact Nrm.refl _) rfl (by kernel_rfl) ?_
    | refine R.k rfl rfl ?_
    | refine R.k0 rfl ?_
    | refine R.a ttok rfl rfl (by kernel_rfl) ?_
    | refine R.b rfl rfl rfl (by kernel_rfl) ?_
    | refine R.li ttok rfl rfl rfl rfl rfl rfl (by kernel_rfl) ?_
    | refine R.st ttok rfl rfl rfl rfl rfl rfl rfl (by kernel_rfl) ?_
    | refine R.done ?_
    | refine X.then ?_
    | refine C.block ?_
    | refine C.ret ?_
    | refine C.skip ?_
    | refine C.exit ?_
    | refine X.pass_ret ?_
    | refine X.pass_exit ?_
    | refine X.block_normal ?_
    | refine X.block_ret ?_
    | refine X.block_exit ?_
    | refine X.block_other rfl ?_
    | refine C.tru rfl ?_
    | refine C.fls rfl ?_)
  by_cases h3 : x.k = 3
  · rw [decide_eq_true h3, (layP_3 p e h3).1, (layP_3 p e h3).2]
    repeat (first
    | refine C.seq ?_
    | refine C.region ?_
    | refine R.nr ttok rfl (by first | exact Nrm.w (wrap_i64 (by omega) (by omega)) | exact Nrm.w (wrap_u64 (by omega) (by omega)) | exact Nrm.w (wrap_u8 (by omega) (by omega)) | exact Nrm.refl _) rfl (by kernel_rfl) ?_
    | refine R.k rfl rfl ?_
    | refine R.k0 rfl ?_
    | refine R.a ttok rfl rfl (by kernel_rfl) ?_
    | refine R.b rfl rfl rfl (by kernel_rfl) ?_
    | refine R.li ttok rfl rfl rfl rfl rfl rfl (by kernel_rfl) ?_
    | refine R.st ttok rfl rfl rfl rfl rfl rfl rfl (by kernel_rfl) ?_
    | refine R.done ?_
    | refine X.then ?_
    | refine C.block ?_
    | refine C.ret ?_
    | refine C.skip ?_
    | refine C.exit ?_
    | refine X.pass_ret ?_
    | refine X.pass_exit ?_
    | refine X.block_normal ?_
    | refine X.block_ret ?_
    | refine X.block_exit ?_
    | refine X.block_other rfl ?_
    | refine C.tru rfl ?_
    | refine C.fls rfl ?_)
    refine R.cl [0, 1] (wnumber_spec p c e x.n hc (by omega) hx.n2) Try.call27 (by repeat (first | exact HasIn.nil | refine HasIn.same rfl rfl ?_ | refine HasIn.bro rfl ?_ | refine HasIn.ror rfl ?_ | refine HasIn.cro rfl rfl ?_)) rfl rfl rfl (fun _ => rfl) rfl (by kernel_rfl) fun c' hc' => ?_
    repeat (first
    | refine C.seq ?_
    | refine C.region ?_
    | refine R.nr ttok rfl (by first | exact Nrm.w (wrap_i64 (by omega) (by omega)) | exact Nrm.w (wrap_u64 (by omega) (by omega)) | exact Nrm.w (wrap_u8 (by omega) (by omega)) | exact Nrm.refl _) rfl (by kernel_rfl) ?_
    | refine R.k rfl rfl ?_
    | refine R.k0 rfl ?_
    | refine R.a ttok rfl rfl (by kernel_rfl) ?_
    | refine R.b rfl rfl rfl (by kernel_rfl) ?_
    | refine R.li ttok rfl rfl rfl rfl rfl rfl (by kernel_rfl) ?_
    | refine R.st ttok rfl rfl rfl rfl rfl rfl rfl (by kernel_rfl) ?_
    | refine R.done ?_
    | refine X.then ?_
    | refine C.block ?_
    | refine C.ret ?_
    | refine C.skip ?_
    | refine C.exit ?_
    | refine X.pass_ret ?_
    | refine X.pass_exit ?_
    | refine X.block_normal ?_
    | refine X.block_ret ?_
    | refine X.block_exit ?_
    | refine X.block_other rfl ?_
    | refine C.tru rfl ?_
    | refine C.fls rfl ?_)
    refine X.fin ttok c' [(2, 3)] hc' rfl rfl rfl (by repeat (first | exact HasH.nil | refine HasH.same rfl rfl rfl trivial ?_ | refine HasH.same rfl rfl rfl rfl ?_ | refine HasH.same rfl rfl rfl (fun _ _ => rfl) ?_)) _ (by first | exact .inl rfl | exact .inr rfl)
  rw [decide_eq_false h3]
  repeat (first
    | refine C.seq ?_
    | refine C.region ?_
    | refine R.nr ttok rfl (by first | exact Nrm.w (wrap_i64 (by omega) (by omega)) | exact Nrm.w (wrap_u64 (by omega) (by omega)) | exact Nrm.w (wrap_u8 (by omega) (by omega)) | exact Nrm.refl _) rfl (by kernel_rfl) ?_
    | refine R.k rfl rfl ?_
    | refine R.k0 rfl ?_
    | refine R.a ttok rfl rfl (by kernel_rfl) ?_
    | refine R.b rfl rfl rfl (by kernel_rfl) ?_
    | refine R.li ttok rfl rfl rfl rfl rfl rfl (by kernel_rfl) ?_
    | refine R.st ttok rfl rfl rfl rfl rfl rfl rfl (by kernel_rfl) ?_
    | refine R.done ?_
    | refine X.then ?_
    | refine C.block ?_
    | refine C.ret ?_
    | refine C.skip ?_
    | refine C.exit ?_
    | refine X.pass_ret ?_
    | refine X.pass_exit ?_
    | refine X.block_normal ?_
    | refine X.block_ret ?_
    | refine X.block_exit ?_
    | refine X.block_other rfl ?_
    | refine C.tru rfl ?_
    | refine C.fls rfl ?_)
  by_cases h4 : x.k = 4
  · rw [decide_eq_true h4, (layP_4 p e h4).1, (layP_4 p e h4).2]
    repeat (first
    | refine C.seq ?_
    | refine C.region ?_
    | refine R.nr ttok rfl (by first | exact Nrm.w (wrap_i64 (by omega) (by omega)) | exact Nrm.w (wrap_u64 (by omega) (by omega)) | exact Nrm.w (wrap_u8 (by omega) (by omega)) | exact Nrm.refl _) rfl (by kernel_rfl) ?_
    | refine R.k rfl rfl ?_
    | refine R.k0 rfl ?_
    | refine R.a ttok rfl rfl (by kernel_rfl) ?_
    | refine R.b rfl rfl rfl (by kernel_rfl) ?_
    | refine R.li ttok rfl rfl rfl rfl rfl rfl (by kernel_rfl) ?_
    | refine R.st ttok rfl rfl rfl rfl rfl rfl rfl (by kernel_rfl) ?_
    | refine R.done ?_
    | refine X.then ?_
    | refine C.block ?_
    | refine C.ret ?_
    | refine C.skip ?_
    | refine C.exit ?_
    | refine X.pass_ret ?_
    | refine X.pass_exit ?_
    | refine X.block_normal ?_
    | refine X.block_ret ?_
    | refine X.block_exit ?_
    | refine X.block_other rfl ?_
    | refine C.tru rfl ?_
    | refine C.fls rfl ?_)
    refine R.cl [0, 1] (wint_spec p c e x.i hc (by omega) hx.i1 hx.i2) Try.call28 (by repeat (first | exact HasIn.nil | refine HasIn.same rfl rfl ?_ | refine HasIn.bro rfl ?_ | refine HasIn.ror rfl ?_ | refine HasIn.cro rfl rfl ?_)) rfl rfl rfl (fun _ => rfl) rfl (by kernel_rfl) fun c' hc' => ?_
    repeat (first
    | refine C.seq ?_
    | refine C.region ?_
    | refine R.nr ttok rfl (by first | exact Nrm.w (wrap_i64 (by omega) (by omega)) | exact Nrm.w (wrap_u64 (by omega) (by omega)) | exact Nrm.w (wrap_u8 (by omega) (by omega)) | exact Nrm.refl _) rfl (by kernel_rfl) ?_
    | refine R.k rfl rfl ?_
    | refine R.k0 rfl ?_
    | refine R.a ttok rfl rfl (by kernel_rfl) ?_
    | refine R.b rfl rfl rfl (by kernel_rfl) ?_
    | refine R.li ttok rfl rfl rfl rfl rfl rfl (by kernel_rfl) ?_
    | refine R.st ttok rfl rfl rfl rfl rfl rfl rfl (by kernel_rfl) ?_
    | refine R.done ?_
    | refine X.then ?_
    | refine C.block ?_
    | refine C.ret ?_
    | refine C.skip ?_
    | refine C.exit ?_
    | refine X.pass_ret ?_
    | refine X.pass_exit ?_
    | refine X.block_normal ?_
    | refine X.block_ret ?_
    | refine X.block_exit ?_
    | refine X.block_other rfl ?_
    | refine C.tru rfl ?_
    | refine C.fls rfl ?_)
    refine X.fin ttok c' [(2, 3)] hc' rfl rfl rfl (by repeat (first | exact HasH.nil | refine HasH.same rfl rfl rfl trivial ?_ | refine HasH.same rfl rfl rfl rfl ?_ | refine HasH.same rfl rfl rfl (fun _ _ => rfl) ?_)) _ (by first | exact .inl rfl | exact .inr rfl)
  rw [decide_eq_false h4]
  repeat (first
    | refine C.seq ?_
    | refine C.region ?_
    | refine R.nr ttok rfl (by first | exact Nrm.w (wrap_i64 (by omega) (by omega)) | exact Nrm.w (wrap_u64 (by omega) (by omega)) | exact Nrm.w (wrap_u8 (by omega) (by omega)) | exact Nrm.refl _) rfl (by kernel_rfl) ?_
    | refine R.k rfl rfl ?_
    | refine R.k0 rfl ?_
    | refine R.a ttok rfl rfl (by kernel_rfl) ?_
    | refine R.b rfl rfl rfl (by kernel_rfl) ?_
    | refine R.li ttok rfl rfl rfl rfl rfl rfl (by kernel_rfl) ?_
    | refine R.st ttok rfl rfl rfl rfl rfl rfl rfl (by kernel_rfl) ?_
    | refine R.done ?_
    | refine X.then ?_
    | refine C.block ?_
    | refine C.ret ?_
    | refine C.skip ?_
    | refine C.exit ?_
    | refine X.pass_ret ?_
    | refine X.pass_exit ?_
    | refine X.block_normal ?_
    | refine X.block_ret ?_
    | refine X.block_exit ?_
    | refine X.block_other rfl ?_
    | refine C.tru rfl ?_
    | refine C.fls rfl ?_)
  by_cases h5 : x.k = 5
  · rw [decide_eq_true h5, (layP_5 p e h5).1, (layP_5 p e h5).2]
    repeat (first
    | refine C.seq ?_
    | refine C.region ?_
    | refine R.nr ttok rfl (by first | exact Nrm.w (wrap_i64 (by omega) (by omega)) | exact Nrm.w (wrap_u64 (by omega) (by omega)) | exact Nrm.w (wrap_u8 (by omega) (by omega)) | exact Nrm.refl _) rfl (by kernel_rfl) ?_
    | refine R.k rfl rfl ?_
    | refine R.k0 rfl ?_
    | refine R.a ttok rfl rfl (by kernel_rfl) ?_
    | refine R.b rfl rfl rfl (by kernel_rfl) ?_
    | refine R.li ttok rfl rfl rfl rfl rfl rfl (by kernel_rfl) ?_
    | refine R.st ttok rfl rfl rfl rfl rfl rfl rfl (by kernel_rfl) ?_
    | refine R.done ?_
    | refine X.then ?_
    | refine C.block ?_
    | refine C.ret ?_
    | refine C.skip ?_
    | refine C.exit ?_
    | refine X.pass_ret ?_
    | refine X.pass_exit ?_
    | refine X.block_normal ?_
    | refine X.block_ret ?_
    | refine X.block_exit ?_
    | refine X.block_other rfl ?_
    | refine C.tru rfl ?_
    | refine C.fls rfl ?_)
    refine R.cl [0, 1] (wtext_spec p c e x.s hc (by omega) (by omega)) Try.call29 (by repeat (first | exact HasIn.nil | refine HasIn.same rfl rfl ?_ | refine HasIn.bro rfl ?_ | refine HasIn.ror rfl ?_ | refine HasIn.cro rfl rfl ?_)) rfl rfl rfl (fun _ => rfl) rfl (by kernel_rfl) fun c' hc' => ?_
    repeat (first
    | refine C.seq ?_
    | refine C.region ?_
    | refine R.nr ttok rfl (by first | exact Nrm.w (wrap_i64 (by omega) (by omega)) | exact Nrm.w (wrap_u64 (by omega) (by omega)) | exact Nrm.w (wrap_u8 (by omega) (by omega)) | exact Nrm.refl _) rfl (by kernel_rfl) ?_
    | refine R.k rfl rfl ?_
    | refine R.k0 rfl ?_
    | refine R.a ttok rfl rfl (by kernel_rfl) ?_
    | refine R.b rfl rfl rfl (by kernel_rfl) ?_
    | refine R.li ttok rfl rfl rfl rfl rfl rfl (by kernel_rfl) ?_
    | refine R.st ttok rfl rfl rfl rfl rfl rfl rfl (by kernel_rfl) ?_
    | refine R.done ?_
    | refine X.then ?_
    | refine C.block ?_
    | refine C.ret ?_
    | refine C.skip ?_
    | refine C.exit ?_
    | refine X.pass_ret ?_
    | refine X.pass_exit ?_
    | refine X.block_normal ?_
    | refine X.block_ret ?_
    | refine X.block_exit ?_
    | refine X.block_other rfl ?_
    | refine C.tru rfl ?_
    | refine C.fls rfl ?_)
    refine X.fin ttok c' [(2, 3)] hc' rfl rfl rfl (by repeat (first | exact HasH.nil | refine HasH.same rfl rfl rfl trivial ?_ | refine HasH.same rfl rfl rfl rfl ?_ | refine HasH.same rfl rfl rfl (fun _ _ => rfl) ?_)) _ (by first | exact .inl rfl | exact .inr rfl)
  rw [decide_eq_false h5, (layP_no p e h1 h2 h3 h4 h5).1, (layP_no p e h1 h2 h3 h4 h5).2]
  repeat (first
    | refine C.seq ?_
    | refine C.region ?_
    | refine R.nr ttok rfl (by first | exact Nrm.w (wrap_i64 (by omega) (by omega)) | exact Nrm.w (wrap_u64 (by omega) (by omega)) | exact Nrm.w (wrap_u8 (by omega) (by omega)) | exact Nrm.refl _) rfl (by kernel_rfl) ?_
    | refine R.k rfl rfl ?_
    | refine R.k0 rfl ?_
    | refine R.a ttok rfl rfl (by kernel_rfl) ?_
    | refine R.b rfl rfl rfl (by kernel_rfl) ?_
    | refine R.li ttok rfl rfl rfl rfl rfl rfl (by kernel_rfl) ?_
    | refine R.st ttok rfl rfl rfl rfl rfl rfl rfl (by kernel_rfl) ?_
    | refine R.done ?_
    | refine X.then ?_
    | refine C.block ?_
    | refine C.ret ?_
    | refine C.skip ?_
    | refine C.exit ?_
    | refine X.pass_ret ?_
    | refine X.pass_exit ?_
    | refine X.block_normal ?_
    | refine X.block_ret ?_
    | refine X.block_exit ?_
    | refine X.block_other rfl ?_
    | refine C.tru rfl ?_
    | refine C.fls rfl ?_)
  refine X.fin ttok c [(2, 1)] hc rfl rfl rfl (by repeat (first | exact HasH.nil | refine HasH.same rfl rfl rfl trivial ?_ | refine HasH.same rfl rfl rfl rfl ?_ | refine HasH.same rfl rfl rfl (fun _ _ => rfl) ?_)) _ (by first | exact .inl rfl | exact .inr rfl)
theorem laid_spec (p : List UInt8) (c : Nat) (e : Int) (x : It) (hx : x.Ok) (hc : c ≤ 9223372036854775807) (hp : p.length ≤ 10000000000) (hs : x.s.size ≤ 100000) :
    Spec Try.prog 12 [refW 0 p c e, .agg (itA x)] [.bytes p c 5] 2 (σ := Nat) (fun c => c ≤ 9223372036854775807) (fun c => refW 1 (layP p e x) c (layE e x)) (fun c => [(1, .bytes (layP p e x) c 5)]) := by
  refine Spec.of Try.func12 rfl Try.ntmps12 rfl (by simp [AO.Bd, bytesF, AV.bds, AV.bd]) fun ρ w => ?_
  repeat (first
    | refine C.seq ?_
    | refine C.region ?_
    | refine R.nr ttok rfl (by first | exact Nrm.w (wrap_i64 (by omega) (by omega)) | exact Nrm.w (wrap_u64 (by omega) (by omega)) | exact Nrm.w (wrap_u8 (by omega) (by omega)) | exact Nrm.refl _) rfl (by kernel_rfl) ?_
    | refine R.k rfl rfl ?_
    | refine R.k0 rfl ?_
    | refine R.a ttok rfl rfl (by kernel_rfl) ?_
    | refine R.b rfl rfl rfl (by kernel_rfl) ?_
    | refine R.li ttok rfl rfl rfl rfl rfl rfl (by kernel_rfl) ?_
    | refine R.st ttok rfl rfl rfl rfl rfl rfl rfl (by kernel_rfl) ?_
    | refine R.done ?_
    | refine X.then ?_
    | refine C.block ?_
    | refine C.ret ?_
    | refine C.skip ?_
    | refine C.exit ?_
    | refine X.pass_ret ?_
    | refine X.pass_exit ?_
    | refine X.block_normal ?_
    | refine X.block_ret ?_
    | refine X.block_exit ?_
    | refine X.block_other rfl ?_
    | refine C.tru rfl ?_
    | refine C.fls rfl ?_)
  by_cases h1 : x.k = 1
  · rw [decide_eq_true h1, (layP_1 p e h1).1, (layP_1 p e h1).2]
    repeat (first
    | refine C.seq ?_
    | refine C.region ?_
    | refine R.nr ttok rfl (by first | exact Nrm.w (wrap_i64 (by omega) (by omega)) | exact Nrm.w (wrap_u64 (by omega) (by omega)) | exact Nrm.w (wrap_u8 (by omega) (by omega)) | exact Nrm.refl _) rfl (by kernel_rfl) ?_
    | refine R.k rfl rfl ?_
    | refine R.k0 rfl ?_
    | refine R.a ttok rfl rfl (by kernel_rfl) ?_
    | refine R.b rfl rfl rfl (by kernel_rfl) ?_
    | refine R.li ttok rfl rfl rfl rfl rfl rfl (by kernel_rfl) ?_
    | refine R.st ttok rfl rfl rfl rfl rfl rfl rfl (by kernel_rfl) ?_
    | refine R.done ?_
    | refine X.then ?_
    | refine C.block ?_
    | refine C.ret ?_
    | refine C.skip ?_
    | refine C.exit ?_
    | refine X.pass_ret ?_
    | refine X.pass_exit ?_
    | refine X.block_normal ?_
    | refine X.block_ret ?_
    | refine X.block_exit ?_
    | refine X.block_other rfl ?_
    | refine C.tru rfl ?_
    | refine C.fls rfl ?_)
    rw [mod256]
    refine R.cl [0] (rbyte_spec p c e (UInt8.ofNat (x.u % 256)) hc (by omega)) Try.call37 (by repeat (first | exact HasIn.nil | refine HasIn.same rfl rfl ?_ | refine HasIn.bro rfl ?_ | refine HasIn.ror rfl ?_ | refine HasIn.cro rfl rfl ?_)) rfl rfl rfl (fun _ => rfl) rfl (by kernel_rfl) fun c' hc' => ?_
    repeat (first
    | refine C.seq ?_
    | refine C.region ?_
    | refine R.nr ttok rfl (by first | exact Nrm.w (wrap_i64 (by omega) (by omega)) | exact Nrm.w (wrap_u64 (by omega) (by omega)) | exact Nrm.w (wrap_u8 (by omega) (by omega)) | exact Nrm.refl _) rfl (by kernel_rfl) ?_
    | refine R.k rfl rfl ?_
    | refine R.k0 rfl ?_
    | refine R.a ttok rfl rfl (by kernel_rfl) ?_
    | refine R.b rfl rfl rfl (by kernel_rfl) ?_
    | refine R.li ttok rfl rfl rfl rfl rfl rfl (by kernel_rfl) ?_
    | refine R.st ttok rfl rfl rfl rfl rfl rfl rfl (by kernel_rfl) ?_
    | refine R.done ?_
    | refine X.then ?_
    | refine C.block ?_
    | refine C.ret ?_
    | refine C.skip ?_
    | refine C.exit ?_
    | refine X.pass_ret ?_
    | refine X.pass_exit ?_
    | refine X.block_normal ?_
    | refine X.block_ret ?_
    | refine X.block_exit ?_
    | refine X.block_other rfl ?_
    | refine C.tru rfl ?_
    | refine C.fls rfl ?_)
    refine X.fin ttok c' [(1, 4)] hc' rfl rfl rfl (by repeat (first | exact HasH.nil | refine HasH.same rfl rfl rfl trivial ?_ | refine HasH.same rfl rfl rfl rfl ?_ | refine HasH.same rfl rfl rfl (fun _ _ => rfl) ?_)) _ (by first | exact .inl rfl | exact .inr rfl)
  rw [decide_eq_false h1]
  repeat (first
    | refine C.seq ?_
    | refine C.region ?_
    | refine R.nr ttok rfl (by first | exact Nrm.w (wrap_i64 (by omega) (by omega)) | exact Nrm.w (wrap_u64 (by omega) (by omega)) | exact Nrm.w (wrap_u8 (by omega) (by omega)) | exact Nrm.refl _) rfl (by kernel_rfl) ?_
    | refine R.k rfl rfl ?_
    | refine R.k0 rfl ?_
    | refine R.a ttok rfl rfl (by kernel_rfl) ?_
    | refine R.b rfl rfl rfl (by kernel_rfl) ?_
    | refine R.li ttok rfl rfl rfl rfl rfl rfl (by kernel_rfl) ?_
    | refine R.st ttok rfl rfl rfl rfl rfl rfl rfl (by kernel_rfl) ?_
    | refine R.done ?_
    | refine X.then ?_
    | refine C.block ?_
    | refine C.ret ?_
    | refine C.skip ?_
    | refine C.exit ?_
    | refine X.pass_ret ?_
    | refine X.pass_exit ?_
    | refine X.block_normal ?_
    | refine X.block_ret ?_
    | refine X.block_exit ?_
    | refine X.block_other rfl ?_
    | refine C.tru rfl ?_
    | refine C.fls rfl ?_)
  by_cases h2 : x.k = 2
  · rw [decide_eq_true h2, (layP_2 p e h2).1, (layP_2 p e h2).2]
    repeat (first
    | refine C.seq ?_
    | refine C.region ?_
    | refine R.nr ttok rfl (by first | exact Nrm.w (wrap_i64 (by omega) (by omega)) | exact Nrm.w (wrap_u64 (by omega) (by omega)) | exact Nrm.w (wrap_u8 (by omega) (by omega)) | exact Nrm.refl _) rfl (by kernel_rfl) ?_
    | refine R.k rfl rfl ?_
    | refine R.k0 rfl ?_
    | refine R.a ttok rfl rfl (by kernel_rfl) ?_
    | refine R.b rfl rfl rfl (by kernel_rfl) ?_
    | refine R.li ttok rfl rfl rfl rfl rfl rfl (by kernel_rfl) ?_
    | refine R.st ttok rfl rfl rfl rfl rfl rfl rfl (by kernel_rfl) ?_
    | refine R.done ?_
    | refine X.then ?_
    | refine C.block ?_
    | refine C.ret ?_
    | refine C.skip ?_
    | refine C.exit ?_
    | refine X.pass_ret ?_
    | refine X.pass_exit ?_
    | refine X.block_normal ?_
    | refine X.block_ret ?_
    | refine X.block_exit ?_
    | refine X.block_other rfl ?_
    | refine C.tru rfl ?_
    | refine C.fls rfl ?_)
    refine R.cl [0] (rfixed_spec p c e x.u x.n hc (by omega) hx.u2) Try.call38 (by repeat (first | exact HasIn.nil | refine HasIn.same rfl rfl ?_ | refine HasIn.bro rfl ?_ | refine HasIn.ror rfl ?_ | refine HasIn.cro rfl rfl ?_)) rfl rfl rfl (fun _ => rfl) rfl (by kernel_rfl) fun c' hc' => ?_
    repeat (first
    | refine C.seq ?_
    | refine C.region ?_
    | refine R.nr ttok rfl (by first | exact Nrm.w (wrap_i64 (by omega) (by omega)) | exact Nrm.w (wrap_u64 (by omega) (by omega)) | exact Nrm.w (wrap_u8 (by omega) (by omega)) | exact Nrm.refl _) rfl (by kernel_rfl) ?_
    | refine R.k rfl rfl ?_
    | refine R.k0 rfl ?_
    | refine R.a ttok rfl rfl (by kernel_rfl) ?_
    | refine R.b rfl rfl rfl (by kernel_rfl) ?_
    | refine R.li ttok rfl rfl rfl rfl rfl rfl (by kernel_rfl) ?_
    | refine R.st ttok rfl rfl rfl rfl rfl rfl rfl (by kernel_rfl) ?_
    | refine R.done ?_
    | refine X.then ?_
    | refine C.block ?_
    | refine C.ret ?_
    | refine C.skip ?_
    | refine C.exit ?_
    | refine X.pass_ret ?_
    | refine X.pass_exit ?_
    | refine X.block_normal ?_
    | refine X.block_ret ?_
    | refine X.block_exit ?_
    | refine X.block_other rfl ?_
    | refine C.tru rfl ?_
    | refine C.fls rfl ?_)
    refine X.fin ttok c' [(1, 4)] hc' rfl rfl rfl (by repeat (first | exact HasH.nil | refine HasH.same rfl rfl rfl trivial ?_ | refine HasH.same rfl rfl rfl rfl ?_ | refine HasH.same rfl rfl rfl (fun _ _ => rfl) ?_)) _ (by first | exact .inl rfl | exact .inr rfl)
  rw [decide_eq_false h2]
  repeat (first
    | refine C.seq ?_
    | refine C.region ?_
    | refine R.nr ttok rfl (by first | exact Nrm.w (wrap_i64 (by omega) (by omega)) | exact Nrm.w (wrap_u64 (by omega) (by omega)) | exact Nrm.w (wrap_u8 (by omega) (by omega)) | exact Nrm.refl _) rfl (by kernel_rfl) ?_
    | refine R.k rfl rfl ?_
    | refine R.k0 rfl ?_
    | refine R.a ttok rfl rfl (by kernel_rfl) ?_
    | refine R.b rfl rfl rfl (by kernel_rfl) ?_
    | refine R.li ttok rfl rfl rfl rfl rfl rfl (by kernel_rfl) ?_
    | refine R.st ttok rfl rfl rfl rfl rfl rfl rfl (by kernel_rfl) ?_
    | refine R.done ?_
    | refine X.then ?_
    | refine C.block ?_
    | refine C.ret ?_
    | refine C.skip ?_
    | refine C.exit ?_
    | refine X.pass_ret ?_
    | refine X.pass_exit ?_
    | refine X.block_normal ?_
    | refine X.block_ret ?_
    | refine X.block_exit ?_
    | refine X.block_other rfl ?_
    | refine C.tru rfl ?_
    | refine C.fls rfl ?_)
  by_cases h3 : x.k = 3
  · rw [decide_eq_true h3, (layP_3 p e h3).1, (layP_3 p e h3).2]
    repeat (first
    | refine C.seq ?_
    | refine C.region ?_
    | refine R.nr ttok rfl (by first | exact Nrm.w (wrap_i64 (by omega) (by omega)) | exact Nrm.w (wrap_u64 (by omega) (by omega)) | exact Nrm.w (wrap_u8 (by omega) (by omega)) | exact Nrm.refl _) rfl (by kernel_rfl) ?_
    | refine R.k rfl rfl ?_
    | refine R.k0 rfl ?_
    | refine R.a ttok rfl rfl (by kernel_rfl) ?_
    | refine R.b rfl rfl rfl (by kernel_rfl) ?_
    | refine R.li ttok rfl rfl rfl rfl rfl rfl (by kernel_rfl) ?_
    | refine R.st ttok rfl rfl rfl rfl rfl rfl rfl (by kernel_rfl) ?_
    | refine R.done ?_
    | refine X.then ?_
    | refine C.block ?_
    | refine C.ret ?_
    | refine C.skip ?_
    | refine C.exit ?_
    | refine X.pass_ret ?_
    | refine X.pass_exit ?_
    | refine X.block_normal ?_
    | refine X.block_ret ?_
    | refine X.block_exit ?_
    | refine X.block_other rfl ?_
    | refine C.tru rfl ?_
    | refine C.fls rfl ?_)
    refine R.cl [0] (rnumber_spec p c e x.n hc (by omega) hx.n2) Try.call39 (by repeat (first | exact HasIn.nil | refine HasIn.same rfl rfl ?_ | refine HasIn.bro rfl ?_ | refine HasIn.ror rfl ?_ | refine HasIn.cro rfl rfl ?_)) rfl rfl rfl (fun _ => rfl) rfl (by kernel_rfl) fun c' hc' => ?_
    repeat (first
    | refine C.seq ?_
    | refine C.region ?_
    | refine R.nr ttok rfl (by first | exact Nrm.w (wrap_i64 (by omega) (by omega)) | exact Nrm.w (wrap_u64 (by omega) (by omega)) | exact Nrm.w (wrap_u8 (by omega) (by omega)) | exact Nrm.refl _) rfl (by kernel_rfl) ?_
    | refine R.k rfl rfl ?_
    | refine R.k0 rfl ?_
    | refine R.a ttok rfl rfl (by kernel_rfl) ?_
    | refine R.b rfl rfl rfl (by kernel_rfl) ?_
    | refine R.li ttok rfl rfl rfl rfl rfl rfl (by kernel_rfl) ?_
    | refine R.st ttok rfl rfl rfl rfl rfl rfl rfl (by kernel_rfl) ?_
    | refine R.done ?_
    | refine X.then ?_
    | refine C.block ?_
    | refine C.ret ?_
    | refine C.skip ?_
    | refine C.exit ?_
    | refine X.pass_ret ?_
    | refine X.pass_exit ?_
    | refine X.block_normal ?_
    | refine X.block_ret ?_
    | refine X.block_exit ?_
    | refine X.block_other rfl ?_
    | refine C.tru rfl ?_
    | refine C.fls rfl ?_)
    refine X.fin ttok c' [(1, 4)] hc' rfl rfl rfl (by repeat (first | exact HasH.nil | refine HasH.same rfl rfl rfl trivial ?_ | refine HasH.same rfl rfl rfl rfl ?_ | refine HasH.same rfl rfl rfl (fun _ _ => rfl) ?_)) _ (by first | exact .inl rfl | exact .inr rfl)
  rw [decide_eq_false h3]
  repeat (first
    | refine C.seq ?_
    | refine C.region ?_
    | refine R.nr ttok rfl (by first | exact Nrm.w (wrap_i64 (by omega) (by omega)) | exact Nrm.w (wrap_u64 (by omega) (by omega)) | exact Nrm.w (wrap_u8 (by omega) (by omega)) | exact Nrm.refl _) rfl (by kernel_rfl) ?_
    | refine R.k rfl rfl ?_
    | refine R.k0 rfl ?_
    | refine R.a ttok rfl rfl (by kernel_rfl) ?_
    | refine R.b rfl rfl rfl (by kernel_rfl) ?_
    | refine R.li ttok rfl rfl rfl rfl rfl rfl (by kernel_rfl) ?_
    | refine R.st ttok rfl rfl rfl rfl rfl rfl rfl (by kernel_rfl) ?_
    | refine R.done ?_
    | refine X.then ?_
    | refine C.block ?_
    | refine C.ret ?_
    | refine C.skip ?_
    | refine C.exit ?_
    | refine X.pass_ret ?_
    | refine X.pass_exit ?_
    | refine X.block_normal ?_
    | refine X.block_ret ?_
    | refine X.block_exit ?_
    | refine X.block_other rfl ?_
    | refine C.tru rfl ?_
    | refine C.fls rfl ?_)
  by_cases h4 : x.k = 4
  · rw [decide_eq_true h4, (layP_4 p e h4).1, (layP_4 p e h4).2]
    repeat (first
    | refine C.seq ?_
    | refine C.region ?_
    | refine R.nr ttok rfl (by first | exact Nrm.w (wrap_i64 (by omega) (by omega)) | exact Nrm.w (wrap_u64 (by omega) (by omega)) | exact Nrm.w (wrap_u8 (by omega) (by omega)) | exact Nrm.refl _) rfl (by kernel_rfl) ?_
    | refine R.k rfl rfl ?_
    | refine R.k0 rfl ?_
    | refine R.a ttok rfl rfl (by kernel_rfl) ?_
    | refine R.b rfl rfl rfl (by kernel_rfl) ?_
    | refine R.li ttok rfl rfl rfl rfl rfl rfl (by kernel_rfl) ?_
    | refine R.st ttok rfl rfl rfl rfl rfl rfl rfl (by kernel_rfl) ?_
    | refine R.done ?_
    | refine X.then ?_
    | refine C.block ?_
    | refine C.ret ?_
    | refine C.skip ?_
    | refine C.exit ?_
    | refine X.pass_ret ?_
    | refine X.pass_exit ?_
    | refine X.block_normal ?_
    | refine X.block_ret ?_
    | refine X.block_exit ?_
    | refine X.block_other rfl ?_
    | refine C.tru rfl ?_
    | refine C.fls rfl ?_)
    refine R.cl [0] (rint_spec p c e x.i hc (by omega) hx.i1 hx.i2) Try.call40 (by repeat (first | exact HasIn.nil | refine HasIn.same rfl rfl ?_ | refine HasIn.bro rfl ?_ | refine HasIn.ror rfl ?_ | refine HasIn.cro rfl rfl ?_)) rfl rfl rfl (fun _ => rfl) rfl (by kernel_rfl) fun c' hc' => ?_
    repeat (first
    | refine C.seq ?_
    | refine C.region ?_
    | refine R.nr ttok rfl (by first | exact Nrm.w (wrap_i64 (by omega) (by omega)) | exact Nrm.w (wrap_u64 (by omega) (by omega)) | exact Nrm.w (wrap_u8 (by omega) (by omega)) | exact Nrm.refl _) rfl (by kernel_rfl) ?_
    | refine R.k rfl rfl ?_
    | refine R.k0 rfl ?_
    | refine R.a ttok rfl rfl (by kernel_rfl) ?_
    | refine R.b rfl rfl rfl (by kernel_rfl) ?_
    | refine R.li ttok rfl rfl rfl rfl rfl rfl (by kernel_rfl) ?_
    | refine R.st ttok rfl rfl rfl rfl rfl rfl rfl (by kernel_rfl) ?_
    | refine R.done ?_
    | refine X.then ?_
    | refine C.block ?_
    | refine C.ret ?_
    | refine C.skip ?_
    | refine C.exit ?_
    | refine X.pass_ret ?_
    | refine X.pass_exit ?_
    | refine X.block_normal ?_
    | refine X.block_ret ?_
    | refine X.block_exit ?_
    | refine X.block_other rfl ?_
    | refine C.tru rfl ?_
    | refine C.fls rfl ?_)
    refine X.fin ttok c' [(1, 4)] hc' rfl rfl rfl (by repeat (first | exact HasH.nil | refine HasH.same rfl rfl rfl trivial ?_ | refine HasH.same rfl rfl rfl rfl ?_ | refine HasH.same rfl rfl rfl (fun _ _ => rfl) ?_)) _ (by first | exact .inl rfl | exact .inr rfl)
  rw [decide_eq_false h4]
  repeat (first
    | refine C.seq ?_
    | refine C.region ?_
    | refine R.nr ttok rfl (by first | exact Nrm.w (wrap_i64 (by omega) (by omega)) | exact Nrm.w (wrap_u64 (by omega) (by omega)) | exact Nrm.w (wrap_u8 (by omega) (by omega)) | exact Nrm.refl _) rfl (by kernel_rfl) ?_
    | refine R.k rfl rfl ?_
    | refine R.k0 rfl ?_
    | refine R.a ttok rfl rfl (by kernel_rfl) ?_
    | refine R.b rfl rfl rfl (by kernel_rfl) ?_
    | refine R.li ttok rfl rfl rfl rfl rfl rfl (by kernel_rfl) ?_
    | refine R.st ttok rfl rfl rfl rfl rfl rfl rfl (by kernel_rfl) ?_
    | refine R.done ?_
    | refine X.then ?_
    | refine C.block ?_
    | refine C.ret ?_
    | refine C.skip ?_
    | refine C.exit ?_
    | refine X.pass_ret ?_
    | refine X.pass_exit ?_
    | refine X.block_normal ?_
    | refine X.block_ret ?_
    | refine X.block_exit ?_
    | refine X.block_other rfl ?_
    | refine C.tru rfl ?_
    | refine C.fls rfl ?_)
  by_cases h5 : x.k = 5
  · rw [decide_eq_true h5, (layP_5 p e h5).1, (layP_5 p e h5).2]
    repeat (first
    | refine C.seq ?_
    | refine C.region ?_
    | refine R.nr ttok rfl (by first | exact Nrm.w (wrap_i64 (by omega) (by omega)) | exact Nrm.w (wrap_u64 (by omega) (by omega)) | exact Nrm.w (wrap_u8 (by omega) (by omega)) | exact Nrm.refl _) rfl (by kernel_rfl) ?_
    | refine R.k rfl rfl ?_
    | refine R.k0 rfl ?_
    | refine R.a ttok rfl rfl (by kernel_rfl) ?_
    | refine R.b rfl rfl rfl (by kernel_rfl) ?_
    | refine R.li ttok rfl rfl rfl rfl rfl rfl (by kernel_rfl) ?_
    | refine R.st ttok rfl rfl rfl rfl rfl rfl rfl (by kernel_rfl) ?_
    | refine R.done ?_
    | refine X.then ?_
    | refine C.block ?_
    | refine C.ret ?_
    | refine C.skip ?_
    | refine C.exit ?_
    | refine X.pass_ret ?_
    | refine X.pass_exit ?_
    | refine X.block_normal ?_
    | refine X.block_ret ?_
    | refine X.block_exit ?_
    | refine X.block_other rfl ?_
    | refine C.tru rfl ?_
    | refine C.fls rfl ?_)
    refine R.cl [0] (rtext_spec p c e x.s hc (by omega) (by omega)) Try.call41 (by repeat (first | exact HasIn.nil | refine HasIn.same rfl rfl ?_ | refine HasIn.bro rfl ?_ | refine HasIn.ror rfl ?_ | refine HasIn.cro rfl rfl ?_)) rfl rfl rfl (fun _ => rfl) rfl (by kernel_rfl) fun c' hc' => ?_
    repeat (first
    | refine C.seq ?_
    | refine C.region ?_
    | refine R.nr ttok rfl (by first | exact Nrm.w (wrap_i64 (by omega) (by omega)) | exact Nrm.w (wrap_u64 (by omega) (by omega)) | exact Nrm.w (wrap_u8 (by omega) (by omega)) | exact Nrm.refl _) rfl (by kernel_rfl) ?_
    | refine R.k rfl rfl ?_
    | refine R.k0 rfl ?_
    | refine R.a ttok rfl rfl (by kernel_rfl) ?_
    | refine R.b rfl rfl rfl (by kernel_rfl) ?_
    | refine R.li ttok rfl rfl rfl rfl rfl rfl (by kernel_rfl) ?_
    | refine R.st ttok rfl rfl rfl rfl rfl rfl rfl (by kernel_rfl) ?_
    | refine R.done ?_
    | refine X.then ?_
    | refine C.block ?_
    | refine C.ret ?_
    | refine C.skip ?_
    | refine C.exit ?_
    | refine X.pass_ret ?_
    | refine X.pass_exit ?_
    | refine X.block_normal ?_
    | refine X.block_ret ?_
    | refine X.block_exit ?_
    | refine X.block_other rfl ?_
    | refine C.tru rfl ?_
    | refine C.fls rfl ?_)
    refine X.fin ttok c' [(1, 4)] hc' rfl rfl rfl (by repeat (first | exact HasH.nil | refine HasH.same rfl rfl rfl trivial ?_ | refine HasH.same rfl rfl rfl rfl ?_ | refine HasH.same rfl rfl rfl (fun _ _ => rfl) ?_)) _ (by first | exact .inl rfl | exact .inr rfl)
  rw [decide_eq_false h5, (layP_no p e h1 h2 h3 h4 h5).1, (layP_no p e h1 h2 h3 h4 h5).2]
  repeat (first
    | refine C.seq ?_
    | refine C.region ?_
    | refine R.nr ttok rfl (by first | exact Nrm.w (wrap_i64 (by omega) (by omega)) | exact Nrm.w (wrap_u64 (by omega) (by omega)) | exact Nrm.w (wrap_u8 (by omega) (by omega)) | exact Nrm.refl _) rfl (by kernel_rfl) ?_
    | refine R.k rfl rfl ?_
    | refine R.k0 rfl ?_
    | refine R.a ttok rfl rfl (by kernel_rfl) ?_
    | refine R.b rfl rfl rfl (by kernel_rfl) ?_
    | refine R.li ttok rfl rfl rfl rfl rfl rfl (by kernel_rfl) ?_
    | refine R.st ttok rfl rfl rfl rfl rfl rfl rfl (by kernel_rfl) ?_
    | refine R.done ?_
    | refine X.then ?_
    | refine C.block ?_
    | refine C.ret ?_
    | refine C.skip ?_
    | refine C.exit ?_
    | refine X.pass_ret ?_
    | refine X.pass_exit ?_
    | refine X.block_normal ?_
    | refine X.block_ret ?_
    | refine X.block_exit ?_
    | refine X.block_other rfl ?_
    | refine C.tru rfl ?_
    | refine C.fls rfl ?_)
  refine X.fin ttok c [(1, 0)] hc rfl rfl rfl (by repeat (first | exact HasH.nil | refine HasH.same rfl rfl rfl trivial ?_ | refine HasH.same rfl rfl rfl rfl ?_ | refine HasH.same rfl rfl rfl (fun _ _ => rfl) ?_)) _ (by first | exact .inl rfl | exact .inr rfl)
end Go.Proofs.Ytchbncbojfiiiaa
