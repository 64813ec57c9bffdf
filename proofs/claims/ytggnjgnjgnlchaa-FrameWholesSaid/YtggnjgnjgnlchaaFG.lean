/- frame: FrameWholes -/
import Derived.Test.YtggnjgnjgnlchaaFG0
import Derived.Test.YtggnjgnjgnlchaaK25
namespace Go.Proofs.Ytggnjgnjgnlchaa
set_option linter.unusedVariables false
set_option linter.unusedSimpArgs false
open Go.RowKit
set_option maxRecDepth 100000
set_option maxHeartbeats 4000000
theorem seal_nil (o2 c2 : Nat) (p : List UInt8) (hl : p.length ≤ 1000000) : Spec Try.prog 12 [.raw (.slice none 0 0), .sl 0 1 o2 p.length c2] [roBo o2 p] 2 (σ := Nat) (fun c => c ≤ 9223372036854775807) (fun c => .tup [.sl 1 1 0 (sealF [] p).2.length c, .raw (.int .i64 (sealF [] p).1)]) (fun c => [(1, .bytes (sealF [] p).2 c 5)]) :=
  Spec.of_own (sealF [] p).2 (fun v => .tuple #[v, .int .i64 (sealF [] p).1]) (fun v => .tup [v, .raw (.int .i64 (sealF [] p).1)]) (fun _ _ => rfl) fun ρ w h => (seal_any [] p none _ 0 c2 w (BytesAt.nil _ _) (ro_at (h 0 _ rfl)) hl (by simp)).mono fun e w' ⟨a, n, c, h1, h2, h3, h4⟩ => ⟨a, c, by rw [h1, h2], h3, h4⟩
theorem sealF_yes {d p : List UInt8} (h0 : p.length ≠ 0) (h : p.length ≤ 65536) : sealF d p = (0, d ++ sealB p) := by unfold sealF; rw [if_neg h0, if_neg (by omega)]
theorem wholes_law (o1 o2 c1 c2 : Nat) (b body : List UInt8) (hb : b.length ≤ 9223372036854775807) (hbd : body.length ≤ 9223372036854775807) (hbc : b.length ≤ c1) :
    Spec Try.prog 8 [.sl 0 1 o1 b.length c1, .sl 1 1 o2 body.length c2] [roBo o1 b, roBo o2 body] 2 (σ := Unit) (fun _ => True) (fun _ => .raw (.bool true)) (fun _ => []) := by
  refine Spec.of Try.func8 rfl Try.ntmps8 rfl (by simp [AO.Bd, bytesF, AV.bds, AV.bd]) fun ρ w => ?_
  repeat (first
    | refine C.seq ?_
    | refine C.region ?_
    | (refine R.asBin ?_; refine R.nb ttok rfl rfl (by first | exact Nrm.w (wrap_i64 (by omega) (by omega)) | exact Nrm.w (wrap_u64 (by omega) (by omega)) | exact Nrm.w (wrap_u8 (by omega) (by omega)) | exact Nrm.refl _) rfl (by kernel_rfl) ?_)
    | (refine R.asNeg ?_; refine R.nu ttok rfl (by first | exact Nrm.w (wrap_i64 (by omega) (by omega)) | exact Nrm.w (wrap_u64 (by omega) (by omega)) | exact Nrm.w (wrap_u8 (by omega) (by omega)) | exact Nrm.refl _) rfl (by kernel_rfl) ?_)
    | (refine R.asCon ?_; refine R.nc ttok rfl (by first | exact Nrm.w (wrap_i64 (by omega) (by omega)) | exact Nrm.w (wrap_u64 (by omega) (by omega)) | exact Nrm.w (wrap_u8 (by omega) (by omega)) | exact Nrm.refl _) rfl (by kernel_rfl) ?_)
    | (refine R.asNew ?_; refine R.a ttok rfl rfl (by kernel_rfl) ?_)
    | (refine R.asBox ?_; refine R.b rfl rfl rfl (by kernel_rfl) ?_)
    | (refine R.asLit ?_; refine R.li ttok rfl rfl rfl rfl rfl rfl (by kernel_rfl) ?_)
    | (refine R.asSto ?_; refine R.st ttok rfl rfl rfl rfl rfl rfl rfl (by kernel_rfl) ?_)
    | (refine R.asAny ?_; refine R.s ttok rfl rfl (by kernel_rfl) ?_)
    | (refine R.asAny ?_; refine R.k rfl rfl ?_)
    | (refine R.asNo ?_; refine R.k0 rfl ?_)
    | refine R.done ?_
    | refine X.then ?_
    | refine C.block ?_
    | refine C.ret ?_
    | refine C.skip ?_
    | refine C.exit ?_
    | refine X.pass_ret ?_
    | refine X.pass_exit ?_
    | refine X.block_normal ?_
    | refine X.block_ret ?_
    | refine X.block_exit ?_
    | (refine C.asCond ?_; refine C.tru rfl ?_)
    | (refine C.asCond ?_; refine C.fls rfl ?_)
    | (refine X.asOther ?_; refine X.block_other rfl ?_))
  by_cases h1 : (200000 : Int) < b.length
  · rw [decide_eq_true h1]
    repeat (first
    | refine C.seq ?_
    | refine C.region ?_
    | (refine R.asBin ?_; refine R.nb ttok rfl rfl (by first | exact Nrm.w (wrap_i64 (by omega) (by omega)) | exact Nrm.w (wrap_u64 (by omega) (by omega)) | exact Nrm.w (wrap_u8 (by omega) (by omega)) | exact Nrm.refl _) rfl (by kernel_rfl) ?_)
    | (refine R.asNeg ?_; refine R.nu ttok rfl (by first | exact Nrm.w (wrap_i64 (by omega) (by omega)) | exact Nrm.w (wrap_u64 (by omega) (by omega)) | exact Nrm.w (wrap_u8 (by omega) (by omega)) | exact Nrm.refl _) rfl (by kernel_rfl) ?_)
    | (refine R.asCon ?_; refine R.nc ttok rfl (by first | exact Nrm.w (wrap_i64 (by omega) (by omega)) | exact Nrm.w (wrap_u64 (by omega) (by omega)) | exact Nrm.w (wrap_u8 (by omega) (by omega)) | exact Nrm.refl _) rfl (by kernel_rfl) ?_)
    | (refine R.asNew ?_; refine R.a ttok rfl rfl (by kernel_rfl) ?_)
    | (refine R.asBox ?_; refine R.b rfl rfl rfl (by kernel_rfl) ?_)
    | (refine R.asLit ?_; refine R.li ttok rfl rfl rfl rfl rfl rfl (by kernel_rfl) ?_)
    | (refine R.asSto ?_; refine R.st ttok rfl rfl rfl rfl rfl rfl rfl (by kernel_rfl) ?_)
    | (refine R.asAny ?_; refine R.s ttok rfl rfl (by kernel_rfl) ?_)
    | (refine R.asAny ?_; refine R.k rfl rfl ?_)
    | (refine R.asNo ?_; refine R.k0 rfl ?_)
    | refine R.done ?_
    | refine X.then ?_
    | refine C.block ?_
    | refine C.ret ?_
    | refine C.skip ?_
    | refine C.exit ?_
    | refine X.pass_ret ?_
    | refine X.pass_exit ?_
    | refine X.block_normal ?_
    | refine X.block_ret ?_
    | refine X.block_exit ?_
    | (refine C.asCond ?_; refine C.tru rfl ?_)
    | (refine C.asCond ?_; refine C.fls rfl ?_)
    | (refine X.asOther ?_; refine X.block_other rfl ?_))
    refine X.fin ttok () [] trivial rfl rfl rfl (by repeat (first | exact HasH.nil | refine HasH.same rfl rfl rfl trivial ?_ | refine HasH.same rfl rfl rfl rfl ?_ | refine HasH.same rfl rfl rfl (fun _ _ => rfl) ?_)) _ (by first | exact .inl rfl | exact .inr rfl)
  rw [decide_eq_false h1]
  repeat (first
    | refine C.seq ?_
    | refine C.region ?_
    | (refine R.asBin ?_; refine R.nb ttok rfl rfl (by first | exact Nrm.w (wrap_i64 (by omega) (by omega)) | exact Nrm.w (wrap_u64 (by omega) (by omega)) | exact Nrm.w (wrap_u8 (by omega) (by omega)) | exact Nrm.refl _) rfl (by kernel_rfl) ?_)
    | (refine R.asNeg ?_; refine R.nu ttok rfl (by first | exact Nrm.w (wrap_i64 (by omega) (by omega)) | exact Nrm.w (wrap_u64 (by omega) (by omega)) | exact Nrm.w (wrap_u8 (by omega) (by omega)) | exact Nrm.refl _) rfl (by kernel_rfl) ?_)
    | (refine R.asCon ?_; refine R.nc ttok rfl (by first | exact Nrm.w (wrap_i64 (by omega) (by omega)) | exact Nrm.w (wrap_u64 (by omega) (by omega)) | exact Nrm.w (wrap_u8 (by omega) (by omega)) | exact Nrm.refl _) rfl (by kernel_rfl) ?_)
    | (refine R.asNew ?_; refine R.a ttok rfl rfl (by kernel_rfl) ?_)
    | (refine R.asBox ?_; refine R.b rfl rfl rfl (by kernel_rfl) ?_)
    | (refine R.asLit ?_; refine R.li ttok rfl rfl rfl rfl rfl rfl (by kernel_rfl) ?_)
    | (refine R.asSto ?_; refine R.st ttok rfl rfl rfl rfl rfl rfl rfl (by kernel_rfl) ?_)
    | (refine R.asAny ?_; refine R.s ttok rfl rfl (by kernel_rfl) ?_)
    | (refine R.asAny ?_; refine R.k rfl rfl ?_)
    | (refine R.asNo ?_; refine R.k0 rfl ?_)
    | refine R.done ?_
    | refine X.then ?_
    | refine C.block ?_
    | refine C.ret ?_
    | refine C.skip ?_
    | refine C.exit ?_
    | refine X.pass_ret ?_
    | refine X.pass_exit ?_
    | refine X.block_normal ?_
    | refine X.block_ret ?_
    | refine X.block_exit ?_
    | (refine C.asCond ?_; refine C.tru rfl ?_)
    | (refine C.asCond ?_; refine C.fls rfl ?_)
    | (refine X.asOther ?_; refine X.block_other rfl ?_))
  refine C.dec rfl (fun h2 => ?_) (fun h2 => ?_)
  · repeat (first
    | refine C.seq ?_
    | refine C.region ?_
    | (refine R.asBin ?_; refine R.nb ttok rfl rfl (by first | exact Nrm.w (wrap_i64 (by omega) (by omega)) | exact Nrm.w (wrap_u64 (by omega) (by omega)) | exact Nrm.w (wrap_u8 (by omega) (by omega)) | exact Nrm.refl _) rfl (by kernel_rfl) ?_)
    | (refine R.asNeg ?_; refine R.nu ttok rfl (by first | exact Nrm.w (wrap_i64 (by omega) (by omega)) | exact Nrm.w (wrap_u64 (by omega) (by omega)) | exact Nrm.w (wrap_u8 (by omega) (by omega)) | exact Nrm.refl _) rfl (by kernel_rfl) ?_)
    | (refine R.asCon ?_; refine R.nc ttok rfl (by first | exact Nrm.w (wrap_i64 (by omega) (by omega)) | exact Nrm.w (wrap_u64 (by omega) (by omega)) | exact Nrm.w (wrap_u8 (by omega) (by omega)) | exact Nrm.refl _) rfl (by kernel_rfl) ?_)
    | (refine R.asNew ?_; refine R.a ttok rfl rfl (by kernel_rfl) ?_)
    | (refine R.asBox ?_; refine R.b rfl rfl rfl (by kernel_rfl) ?_)
    | (refine R.asLit ?_; refine R.li ttok rfl rfl rfl rfl rfl rfl (by kernel_rfl) ?_)
    | (refine R.asSto ?_; refine R.st ttok rfl rfl rfl rfl rfl rfl rfl (by kernel_rfl) ?_)
    | (refine R.asAny ?_; refine R.s ttok rfl rfl (by kernel_rfl) ?_)
    | (refine R.asAny ?_; refine R.k rfl rfl ?_)
    | (refine R.asNo ?_; refine R.k0 rfl ?_)
    | refine R.done ?_
    | refine X.then ?_
    | refine C.block ?_
    | refine C.ret ?_
    | refine C.skip ?_
    | refine C.exit ?_
    | refine X.pass_ret ?_
    | refine X.pass_exit ?_
    | refine X.block_normal ?_
    | refine X.block_ret ?_
    | refine X.block_exit ?_
    | (refine C.asCond ?_; refine C.tru rfl ?_)
    | (refine C.asCond ?_; refine C.fls rfl ?_)
    | (refine X.asOther ?_; refine X.block_other rfl ?_))
    refine X.fin ttok () [] trivial rfl rfl rfl (by repeat (first | exact HasH.nil | refine HasH.same rfl rfl rfl trivial ?_ | refine HasH.same rfl rfl rfl rfl ?_ | refine HasH.same rfl rfl rfl (fun _ _ => rfl) ?_)) _ (by first | exact .inl rfl | exact .inr rfl)
  obtain ⟨n, hn⟩ : ∃ n, wholeN b = n := ⟨_, rfl⟩
  have hw0 : wE b 0 = n := by rw [← whole_wE, hn]
  have hge := wE_ge b 0 (Nat.zero_le _)
  rw [hw0] at hge
  have htl : (b.take n).length = n := by rw [List.length_take]; omega
  have hwt : wholeN (b.take n) = n := by rw [whole_wE]; exact wE_take b n hge.2 0 (Nat.zero_le _) hw0
  repeat (first
    | refine C.seq ?_
    | refine C.region ?_
    | (refine R.asBin ?_; refine R.nb ttok rfl rfl (by first | exact Nrm.w (wrap_i64 (by omega) (by omega)) | exact Nrm.w (wrap_u64 (by omega) (by omega)) | exact Nrm.w (wrap_u8 (by omega) (by omega)) | exact Nrm.refl _) rfl (by kernel_rfl) ?_)
    | (refine R.asNeg ?_; refine R.nu ttok rfl (by first | exact Nrm.w (wrap_i64 (by omega) (by omega)) | exact Nrm.w (wrap_u64 (by omega) (by omega)) | exact Nrm.w (wrap_u8 (by omega) (by omega)) | exact Nrm.refl _) rfl (by kernel_rfl) ?_)
    | (refine R.asCon ?_; refine R.nc ttok rfl (by first | exact Nrm.w (wrap_i64 (by omega) (by omega)) | exact Nrm.w (wrap_u64 (by omega) (by omega)) | exact Nrm.w (wrap_u8 (by omega) (by omega)) | exact Nrm.refl _) rfl (by kernel_rfl) ?_)
    | (refine R.asNew ?_; refine R.a ttok rfl rfl (by kernel_rfl) ?_)
    | (refine R.asBox ?_; refine R.b rfl rfl rfl (by kernel_rfl) ?_)
    | (refine R.asLit ?_; refine R.li ttok rfl rfl rfl rfl rfl rfl (by kernel_rfl) ?_)
    | (refine R.asSto ?_; refine R.st ttok rfl rfl rfl rfl rfl rfl rfl (by kernel_rfl) ?_)
    | (refine R.asAny ?_; refine R.s ttok rfl rfl (by kernel_rfl) ?_)
    | (refine R.asAny ?_; refine R.k rfl rfl ?_)
    | (refine R.asNo ?_; refine R.k0 rfl ?_)
    | refine R.done ?_
    | refine X.then ?_
    | refine C.block ?_
    | refine C.ret ?_
    | refine C.skip ?_
    | refine C.exit ?_
    | refine X.pass_ret ?_
    | refine X.pass_exit ?_
    | refine X.block_normal ?_
    | refine X.block_ret ?_
    | refine X.block_exit ?_
    | (refine C.asCond ?_; refine C.tru rfl ?_)
    | (refine C.asCond ?_; refine C.fls rfl ?_)
    | (refine X.asOther ?_; refine X.block_other rfl ?_))
  refine R.cl [0] (whole_spec o1 c1 b (by omega)) Try.call21 (by repeat (first | exact HasIn.nil | refine HasIn.same rfl rfl ?_ | refine HasIn.bro rfl ?_ | refine HasIn.ror rfl ?_ | refine HasIn.cro rfl rfl ?_)) rfl rfl rfl (fun _ => rfl) rfl (by kernel_rfl) fun _ _ => ?_
  rw [hn]
  repeat (first
    | refine C.seq ?_
    | refine C.region ?_
    | (refine R.asBin ?_; refine R.nb ttok rfl rfl (by first | exact Nrm.w (wrap_i64 (by omega) (by omega)) | exact Nrm.w (wrap_u64 (by omega) (by omega)) | exact Nrm.w (wrap_u8 (by omega) (by omega)) | exact Nrm.refl _) rfl (by kernel_rfl) ?_)
    | (refine R.asNeg ?_; refine R.nu ttok rfl (by first | exact Nrm.w (wrap_i64 (by omega) (by omega)) | exact Nrm.w (wrap_u64 (by omega) (by omega)) | exact Nrm.w (wrap_u8 (by omega) (by omega)) | exact Nrm.refl _) rfl (by kernel_rfl) ?_)
    | (refine R.asCon ?_; refine R.nc ttok rfl (by first | exact Nrm.w (wrap_i64 (by omega) (by omega)) | exact Nrm.w (wrap_u64 (by omega) (by omega)) | exact Nrm.w (wrap_u8 (by omega) (by omega)) | exact Nrm.refl _) rfl (by kernel_rfl) ?_)
    | (refine R.asNew ?_; refine R.a ttok rfl rfl (by kernel_rfl) ?_)
    | (refine R.asBox ?_; refine R.b rfl rfl rfl (by kernel_rfl) ?_)
    | (refine R.asLit ?_; refine R.li ttok rfl rfl rfl rfl rfl rfl (by kernel_rfl) ?_)
    | (refine R.asSto ?_; refine R.st ttok rfl rfl rfl rfl rfl rfl rfl (by kernel_rfl) ?_)
    | (refine R.asAny ?_; refine R.s ttok rfl rfl (by kernel_rfl) ?_)
    | (refine R.asAny ?_; refine R.k rfl rfl ?_)
    | (refine R.asNo ?_; refine R.k0 rfl ?_)
    | refine R.done ?_
    | refine X.then ?_
    | refine C.block ?_
    | refine C.ret ?_
    | refine C.skip ?_
    | refine C.exit ?_
    | refine X.pass_ret ?_
    | refine X.pass_exit ?_
    | refine X.block_normal ?_
    | refine X.block_ret ?_
    | refine X.block_exit ?_
    | (refine C.asCond ?_; refine C.tru rfl ?_)
    | (refine C.asCond ?_; refine C.fls rfl ?_)
    | (refine X.asOther ?_; refine X.block_other rfl ?_))
  rw [decide_eq_false (show ¬ ((n : Nat) : Int) < 0 by omega)]
  repeat (first
    | refine C.seq ?_
    | refine C.region ?_
    | (refine R.asBin ?_; refine R.nb ttok rfl rfl (by first | exact Nrm.w (wrap_i64 (by omega) (by omega)) | exact Nrm.w (wrap_u64 (by omega) (by omega)) | exact Nrm.w (wrap_u8 (by omega) (by omega)) | exact Nrm.refl _) rfl (by kernel_rfl) ?_)
    | (refine R.asNeg ?_; refine R.nu ttok rfl (by first | exact Nrm.w (wrap_i64 (by omega) (by omega)) | exact Nrm.w (wrap_u64 (by omega) (by omega)) | exact Nrm.w (wrap_u8 (by omega) (by omega)) | exact Nrm.refl _) rfl (by kernel_rfl) ?_)
    | (refine R.asCon ?_; refine R.nc ttok rfl (by first | exact Nrm.w (wrap_i64 (by omega) (by omega)) | exact Nrm.w (wrap_u64 (by omega) (by omega)) | exact Nrm.w (wrap_u8 (by omega) (by omega)) | exact Nrm.refl _) rfl (by kernel_rfl) ?_)
    | (refine R.asNew ?_; refine R.a ttok rfl rfl (by kernel_rfl) ?_)
    | (refine R.asBox ?_; refine R.b rfl rfl rfl (by kernel_rfl) ?_)
    | (refine R.asLit ?_; refine R.li ttok rfl rfl rfl rfl rfl rfl (by kernel_rfl) ?_)
    | (refine R.asSto ?_; refine R.st ttok rfl rfl rfl rfl rfl rfl rfl (by kernel_rfl) ?_)
    | (refine R.asAny ?_; refine R.s ttok rfl rfl (by kernel_rfl) ?_)
    | (refine R.asAny ?_; refine R.k rfl rfl ?_)
    | (refine R.asNo ?_; refine R.k0 rfl ?_)
    | refine R.done ?_
    | refine X.then ?_
    | refine C.block ?_
    | refine C.ret ?_
    | refine C.skip ?_
    | refine C.exit ?_
    | refine X.pass_ret ?_
    | refine X.pass_exit ?_
    | refine X.block_normal ?_
    | refine X.block_ret ?_
    | refine X.block_exit ?_
    | (refine C.asCond ?_; refine C.tru rfl ?_)
    | (refine C.asCond ?_; refine C.fls rfl ?_)
    | (refine X.asOther ?_; refine X.block_other rfl ?_))
  rw [decide_eq_false (show ¬ (b.length : Int) < (n : Nat) by omega)]
  repeat (first
    | refine C.seq ?_
    | refine C.region ?_
    | (refine R.asBin ?_; refine R.nb ttok rfl rfl (by first | exact Nrm.w (wrap_i64 (by omega) (by omega)) | exact Nrm.w (wrap_u64 (by omega) (by omega)) | exact Nrm.w (wrap_u8 (by omega) (by omega)) | exact Nrm.refl _) rfl (by kernel_rfl) ?_)
    | (refine R.asNeg ?_; refine R.nu ttok rfl (by first | exact Nrm.w (wrap_i64 (by omega) (by omega)) | exact Nrm.w (wrap_u64 (by omega) (by omega)) | exact Nrm.w (wrap_u8 (by omega) (by omega)) | exact Nrm.refl _) rfl (by kernel_rfl) ?_)
    | (refine R.asCon ?_; refine R.nc ttok rfl (by first | exact Nrm.w (wrap_i64 (by omega) (by omega)) | exact Nrm.w (wrap_u64 (by omega) (by omega)) | exact Nrm.w (wrap_u8 (by omega) (by omega)) | exact Nrm.refl _) rfl (by kernel_rfl) ?_)
    | (refine R.asNew ?_; refine R.a ttok rfl rfl (by kernel_rfl) ?_)
    | (refine R.asBox ?_; refine R.b rfl rfl rfl (by kernel_rfl) ?_)
    | (refine R.asLit ?_; refine R.li ttok rfl rfl rfl rfl rfl rfl (by kernel_rfl) ?_)
    | (refine R.asSto ?_; refine R.st ttok rfl rfl rfl rfl rfl rfl rfl (by kernel_rfl) ?_)
    | (refine R.asAny ?_; refine R.s ttok rfl rfl (by kernel_rfl) ?_)
    | (refine R.asAny ?_; refine R.k rfl rfl ?_)
    | (refine R.asNo ?_; refine R.k0 rfl ?_)
    | refine R.done ?_
    | refine X.then ?_
    | refine C.block ?_
    | refine C.ret ?_
    | refine C.skip ?_
    | refine C.exit ?_
    | refine X.pass_ret ?_
    | refine X.pass_exit ?_
    | refine X.block_normal ?_
    | refine X.block_ret ?_
    | refine X.block_exit ?_
    | (refine C.asCond ?_; refine C.tru rfl ?_)
    | (refine C.asCond ?_; refine C.fls rfl ?_)
    | (refine X.asOther ?_; refine X.block_other rfl ?_))
  refine R.sl ttok 0 n rfl rfl rfl rfl rfl rfl rfl rfl ⟨_, _, rfl, rfl⟩ (by omega) (by omega) fun o' ho' => ?_
  obtain rfl : o' = o1 := by omega
  have hws := whole_spec o' (c1 - 0) (b.take n) (by omega)
  rw [htl, hwt] at hws
  refine R.cl [0] hws Try.call21 (.pr rfl PartOf.take .nil) rfl rfl rfl (fun _ => rfl) rfl (by kernel_rfl) fun _ _ => ?_
  repeat (first
    | refine C.seq ?_
    | refine C.region ?_
    | (refine R.asBin ?_; refine R.nb ttok rfl rfl (by first | exact Nrm.w (wrap_i64 (by omega) (by omega)) | exact Nrm.w (wrap_u64 (by omega) (by omega)) | exact Nrm.w (wrap_u8 (by omega) (by omega)) | exact Nrm.refl _) rfl (by kernel_rfl) ?_)
    | (refine R.asNeg ?_; refine R.nu ttok rfl (by first | exact Nrm.w (wrap_i64 (by omega) (by omega)) | exact Nrm.w (wrap_u64 (by omega) (by omega)) | exact Nrm.w (wrap_u8 (by omega) (by omega)) | exact Nrm.refl _) rfl (by kernel_rfl) ?_)
    | (refine R.asCon ?_; refine R.nc ttok rfl (by first | exact Nrm.w (wrap_i64 (by omega) (by omega)) | exact Nrm.w (wrap_u64 (by omega) (by omega)) | exact Nrm.w (wrap_u8 (by omega) (by omega)) | exact Nrm.refl _) rfl (by kernel_rfl) ?_)
    | (refine R.asNew ?_; refine R.a ttok rfl rfl (by kernel_rfl) ?_)
    | (refine R.asBox ?_; refine R.b rfl rfl rfl (by kernel_rfl) ?_)
    | (refine R.asLit ?_; refine R.li ttok rfl rfl rfl rfl rfl rfl (by kernel_rfl) ?_)
    | (refine R.asSto ?_; refine R.st ttok rfl rfl rfl rfl rfl rfl rfl (by kernel_rfl) ?_)
    | (refine R.asAny ?_; refine R.s ttok rfl rfl (by kernel_rfl) ?_)
    | (refine R.asAny ?_; refine R.k rfl rfl ?_)
    | (refine R.asNo ?_; refine R.k0 rfl ?_)
    | refine R.done ?_
    | refine X.then ?_
    | refine C.block ?_
    | refine C.ret ?_
    | refine C.skip ?_
    | refine C.exit ?_
    | refine X.pass_ret ?_
    | refine X.pass_exit ?_
    | refine X.block_normal ?_
    | refine X.block_ret ?_
    | refine X.block_exit ?_
    | (refine C.asCond ?_; refine C.tru rfl ?_)
    | (refine C.asCond ?_; refine C.fls rfl ?_)
    | (refine X.asOther ?_; refine X.block_other rfl ?_))
  rw [decide_eq_false (show ¬ ((n : Nat) : Int) ≠ (n : Nat) from fun h => h rfl)]
  repeat (first
    | refine C.seq ?_
    | refine C.region ?_
    | (refine R.asBin ?_; refine R.nb ttok rfl rfl (by first | exact Nrm.w (wrap_i64 (by omega) (by omega)) | exact Nrm.w (wrap_u64 (by omega) (by omega)) | exact Nrm.w (wrap_u8 (by omega) (by omega)) | exact Nrm.refl _) rfl (by kernel_rfl) ?_)
    | (refine R.asNeg ?_; refine R.nu ttok rfl (by first | exact Nrm.w (wrap_i64 (by omega) (by omega)) | exact Nrm.w (wrap_u64 (by omega) (by omega)) | exact Nrm.w (wrap_u8 (by omega) (by omega)) | exact Nrm.refl _) rfl (by kernel_rfl) ?_)
    | (refine R.asCon ?_; refine R.nc ttok rfl (by first | exact Nrm.w (wrap_i64 (by omega) (by omega)) | exact Nrm.w (wrap_u64 (by omega) (by omega)) | exact Nrm.w (wrap_u8 (by omega) (by omega)) | exact Nrm.refl _) rfl (by kernel_rfl) ?_)
    | (refine R.asNew ?_; refine R.a ttok rfl rfl (by kernel_rfl) ?_)
    | (refine R.asBox ?_; refine R.b rfl rfl rfl (by kernel_rfl) ?_)
    | (refine R.asLit ?_; refine R.li ttok rfl rfl rfl rfl rfl rfl (by kernel_rfl) ?_)
    | (refine R.asSto ?_; refine R.st ttok rfl rfl rfl rfl rfl rfl rfl (by kernel_rfl) ?_)
    | (refine R.asAny ?_; refine R.s ttok rfl rfl (by kernel_rfl) ?_)
    | (refine R.asAny ?_; refine R.k rfl rfl ?_)
    | (refine R.asNo ?_; refine R.k0 rfl ?_)
    | refine R.done ?_
    | refine X.then ?_
    | refine C.block ?_
    | refine C.ret ?_
    | refine C.skip ?_
    | refine C.exit ?_
    | refine X.pass_ret ?_
    | refine X.pass_exit ?_
    | refine X.block_normal ?_
    | refine X.block_ret ?_
    | refine X.block_exit ?_
    | (refine C.asCond ?_; refine C.tru rfl ?_)
    | (refine C.asCond ?_; refine C.fls rfl ?_)
    | (refine X.asOther ?_; refine X.block_other rfl ?_))
  refine C.loop (σ := Nat × Nat) (L2 := 2) (fun s => wE b s.1 = n ∧ s.1 ≤ n ∧ s.2 * 9 ≤ s.1) (fun s => [(0, .sl 0 1 o' b.length c1), (1, .sl 1 1 o2 body.length c2), (5, .raw (.int .i64 n)), (6, .raw (.int .i64 s.1)), (7, .raw (.int .i64 s.2))])
    (fun s => [(0, roBo o' b), (1, roBo o2 body)]) _ (fun s => n - s.1) [] (0, 0) ⟨hw0, Nat.zero_le _, by simp⟩ rfl (by repeat (first | exact HasT.nil | refine HasT.cons rfl rfl rfl ?_)) (by repeat (first | exact HasH.nil | refine HasH.same rfl rfl rfl trivial ?_ | refine HasH.same rfl rfl rfl rfl ?_ | refine HasH.same rfl rfl rfl (fun _ _ => rfl) ?_)) rfl (fun _ h => h) ?_
  rintro ⟨k, st⟩ ⟨hk, hkn, hst⟩
  dsimp only at hk hkn hst ⊢
  repeat (first
    | refine C.seq ?_
    | refine C.region ?_
    | (refine R.asBin ?_; refine R.nb ttok rfl rfl (by first | exact Nrm.w (wrap_i64 (by omega) (by omega)) | exact Nrm.w (wrap_u64 (by omega) (by omega)) | exact Nrm.w (wrap_u8 (by omega) (by omega)) | exact Nrm.refl _) rfl (by kernel_rfl) ?_)
    | (refine R.asNeg ?_; refine R.nu ttok rfl (by first | exact Nrm.w (wrap_i64 (by omega) (by omega)) | exact Nrm.w (wrap_u64 (by omega) (by omega)) | exact Nrm.w (wrap_u8 (by omega) (by omega)) | exact Nrm.refl _) rfl (by kernel_rfl) ?_)
    | (refine R.asCon ?_; refine R.nc ttok rfl (by first | exact Nrm.w (wrap_i64 (by omega) (by omega)) | exact Nrm.w (wrap_u64 (by omega) (by omega)) | exact Nrm.w (wrap_u8 (by omega) (by omega)) | exact Nrm.refl _) rfl (by kernel_rfl) ?_)
    | (refine R.asNew ?_; refine R.a ttok rfl rfl (by kernel_rfl) ?_)
    | (refine R.asBox ?_; refine R.b rfl rfl rfl (by kernel_rfl) ?_)
    | (refine R.asLit ?_; refine R.li ttok rfl rfl rfl rfl rfl rfl (by kernel_rfl) ?_)
    | (refine R.asSto ?_; refine R.st ttok rfl rfl rfl rfl rfl rfl rfl (by kernel_rfl) ?_)
    | (refine R.asAny ?_; refine R.s ttok rfl rfl (by kernel_rfl) ?_)
    | (refine R.asAny ?_; refine R.k rfl rfl ?_)
    | (refine R.asNo ?_; refine R.k0 rfl ?_)
    | refine R.done ?_
    | refine X.then ?_
    | refine C.block ?_
    | refine C.ret ?_
    | refine C.skip ?_
    | refine C.exit ?_
    | refine X.pass_ret ?_
    | refine X.pass_exit ?_
    | refine X.block_normal ?_
    | refine X.block_ret ?_
    | refine X.block_exit ?_
    | (refine C.asCond ?_; refine C.tru rfl ?_)
    | (refine C.asCond ?_; refine C.fls rfl ?_)
    | (refine X.asOther ?_; refine X.block_other rfl ?_))
  refine C.dec rfl (fun hlt => ?_) (fun hge2 => ?_)
  · have hlt : k < n := by omega
    obtain ⟨x, e, hx⟩ : ∃ x e, nextN b k = .ok (x, e) := by
      cases hc : nextN b k with
      | error y => rw [wE_err hc] at hk; omega
      | ok r => exact ⟨r.1, r.2, rfl⟩
    obtain ⟨g1, g2, g3, g4, g5⟩ := next_ok hx
    have hke : wE b e = n := by rw [← wE_ok hx, hk]
    have hen := (wE_ge b e g2).1
    have hns := nexts_spec o' c1 b (k : Nat) hbc (by omega) (by omega) (by omega)
    rw [nextF_nat b k (by omega), hx] at hns
    dsimp only [nxB, nxE, nxX] at hns
    repeat (first
    | refine C.seq ?_
    | refine C.region ?_
    | (refine R.asBin ?_; refine R.nb ttok rfl rfl (by first | exact Nrm.w (wrap_i64 (by omega) (by omega)) | exact Nrm.w (wrap_u64 (by omega) (by omega)) | exact Nrm.w (wrap_u8 (by omega) (by omega)) | exact Nrm.refl _) rfl (by kernel_rfl) ?_)
    | (refine R.asNeg ?_; refine R.nu ttok rfl (by first | exact Nrm.w (wrap_i64 (by omega) (by omega)) | exact Nrm.w (wrap_u64 (by omega) (by omega)) | exact Nrm.w (wrap_u8 (by omega) (by omega)) | exact Nrm.refl _) rfl (by kernel_rfl) ?_)
    | (refine R.asCon ?_; refine R.nc ttok rfl (by first | exact Nrm.w (wrap_i64 (by omega) (by omega)) | exact Nrm.w (wrap_u64 (by omega) (by omega)) | exact Nrm.w (wrap_u8 (by omega) (by omega)) | exact Nrm.refl _) rfl (by kernel_rfl) ?_)
    | (refine R.asNew ?_; refine R.a ttok rfl rfl (by kernel_rfl) ?_)
    | (refine R.asBox ?_; refine R.b rfl rfl rfl (by kernel_rfl) ?_)
    | (refine R.asLit ?_; refine R.li ttok rfl rfl rfl rfl rfl rfl (by kernel_rfl) ?_)
    | (refine R.asSto ?_; refine R.st ttok rfl rfl rfl rfl rfl rfl rfl (by kernel_rfl) ?_)
    | (refine R.asAny ?_; refine R.s ttok rfl rfl (by kernel_rfl) ?_)
    | (refine R.asAny ?_; refine R.k rfl rfl ?_)
    | (refine R.asNo ?_; refine R.k0 rfl ?_)
    | refine R.done ?_
    | refine X.then ?_
    | refine C.block ?_
    | refine C.ret ?_
    | refine C.skip ?_
    | refine C.exit ?_
    | refine X.pass_ret ?_
    | refine X.pass_exit ?_
    | refine X.block_normal ?_
    | refine X.block_ret ?_
    | refine X.block_exit ?_
    | (refine C.asCond ?_; refine C.tru rfl ?_)
    | (refine C.asCond ?_; refine C.fls rfl ?_)
    | (refine X.asOther ?_; refine X.block_other rfl ?_))
    refine R.cl [0] hns Try.call16 (by repeat (first | exact HasIn.nil | refine HasIn.same rfl rfl ?_ | refine HasIn.bro rfl ?_ | refine HasIn.ror rfl ?_ | refine HasIn.cro rfl rfl ?_)) rfl rfl rfl (fun _ => rfl) rfl (by kernel_rfl) fun c3 hc3 => ?_
    repeat (first
    | refine C.seq ?_
    | refine C.region ?_
    | (refine R.asBin ?_; refine R.nb ttok rfl rfl (by first | exact Nrm.w (wrap_i64 (by omega) (by omega)) | exact Nrm.w (wrap_u64 (by omega) (by omega)) | exact Nrm.w (wrap_u8 (by omega) (by omega)) | exact Nrm.refl _) rfl (by kernel_rfl) ?_)
    | (refine R.asNeg ?_; refine R.nu ttok rfl (by first | exact Nrm.w (wrap_i64 (by omega) (by omega)) | exact Nrm.w (wrap_u64 (by omega) (by omega)) | exact Nrm.w (wrap_u8 (by omega) (by omega)) | exact Nrm.refl _) rfl (by kernel_rfl) ?_)
    | (refine R.asCon ?_; refine R.nc ttok rfl (by first | exact Nrm.w (wrap_i64 (by omega) (by omega)) | exact Nrm.w (wrap_u64 (by omega) (by omega)) | exact Nrm.w (wrap_u8 (by omega) (by omega)) | exact Nrm.refl _) rfl (by kernel_rfl) ?_)
    | (refine R.asNew ?_; refine R.a ttok rfl rfl (by kernel_rfl) ?_)
    | (refine R.asBox ?_; refine R.b rfl rfl rfl (by kernel_rfl) ?_)
    | (refine R.asLit ?_; refine R.li ttok rfl rfl rfl rfl rfl rfl (by kernel_rfl) ?_)
    | (refine R.asSto ?_; refine R.st ttok rfl rfl rfl rfl rfl rfl rfl (by kernel_rfl) ?_)
    | (refine R.asAny ?_; refine R.s ttok rfl rfl (by kernel_rfl) ?_)
    | (refine R.asAny ?_; refine R.k rfl rfl ?_)
    | (refine R.asNo ?_; refine R.k0 rfl ?_)
    | refine R.done ?_
    | refine X.then ?_
    | refine C.block ?_
    | refine C.ret ?_
    | refine C.skip ?_
    | refine C.exit ?_
    | refine X.pass_ret ?_
    | refine X.pass_exit ?_
    | refine X.block_normal ?_
    | refine X.block_ret ?_
    | refine X.block_exit ?_
    | (refine C.asCond ?_; refine C.tru rfl ?_)
    | (refine C.asCond ?_; refine C.fls rfl ?_)
    | (refine X.asOther ?_; refine X.block_other rfl ?_))
    rw [decide_eq_false (show ¬ ((e : Nat) : Int) ≠ (k : Nat) + 8 + (x.length : Nat) by omega)]
    repeat (first
    | refine C.seq ?_
    | refine C.region ?_
    | (refine R.asBin ?_; refine R.nb ttok rfl rfl (by first | exact Nrm.w (wrap_i64 (by omega) (by omega)) | exact Nrm.w (wrap_u64 (by omega) (by omega)) | exact Nrm.w (wrap_u8 (by omega) (by omega)) | exact Nrm.refl _) rfl (by kernel_rfl) ?_)
    | (refine R.asNeg ?_; refine R.nu ttok rfl (by first | exact Nrm.w (wrap_i64 (by omega) (by omega)) | exact Nrm.w (wrap_u64 (by omega) (by omega)) | exact Nrm.w (wrap_u8 (by omega) (by omega)) | exact Nrm.refl _) rfl (by kernel_rfl) ?_)
    | (refine R.asCon ?_; refine R.nc ttok rfl (by first | exact Nrm.w (wrap_i64 (by omega) (by omega)) | exact Nrm.w (wrap_u64 (by omega) (by omega)) | exact Nrm.w (wrap_u8 (by omega) (by omega)) | exact Nrm.refl _) rfl (by kernel_rfl) ?_)
    | (refine R.asNew ?_; refine R.a ttok rfl rfl (by kernel_rfl) ?_)
    | (refine R.asBox ?_; refine R.b rfl rfl rfl (by kernel_rfl) ?_)
    | (refine R.asLit ?_; refine R.li ttok rfl rfl rfl rfl rfl rfl (by kernel_rfl) ?_)
    | (refine R.asSto ?_; refine R.st ttok rfl rfl rfl rfl rfl rfl rfl (by kernel_rfl) ?_)
    | (refine R.asAny ?_; refine R.s ttok rfl rfl (by kernel_rfl) ?_)
    | (refine R.asAny ?_; refine R.k rfl rfl ?_)
    | (refine R.asNo ?_; refine R.k0 rfl ?_)
    | refine R.done ?_
    | refine X.then ?_
    | refine C.block ?_
    | refine C.ret ?_
    | refine C.skip ?_
    | refine C.exit ?_
    | refine X.pass_ret ?_
    | refine X.pass_exit ?_
    | refine X.block_normal ?_
    | refine X.block_ret ?_
    | refine X.block_exit ?_
    | (refine C.asCond ?_; refine C.tru rfl ?_)
    | (refine C.asCond ?_; refine C.fls rfl ?_)
    | (refine X.asOther ?_; refine X.block_other rfl ?_))
    rw [decide_eq_false (show ¬ ((x.length : Nat) : Int) = 0 by omega)]
    repeat (first
    | refine C.seq ?_
    | refine C.region ?_
    | (refine R.asBin ?_; refine R.nb ttok rfl rfl (by first | exact Nrm.w (wrap_i64 (by omega) (by omega)) | exact Nrm.w (wrap_u64 (by omega) (by omega)) | exact Nrm.w (wrap_u8 (by omega) (by omega)) | exact Nrm.refl _) rfl (by kernel_rfl) ?_)
    | (refine R.asNeg ?_; refine R.nu ttok rfl (by first | exact Nrm.w (wrap_i64 (by omega) (by omega)) | exact Nrm.w (wrap_u64 (by omega) (by omega)) | exact Nrm.w (wrap_u8 (by omega) (by omega)) | exact Nrm.refl _) rfl (by kernel_rfl) ?_)
    | (refine R.asCon ?_; refine R.nc ttok rfl (by first | exact Nrm.w (wrap_i64 (by omega) (by omega)) | exact Nrm.w (wrap_u64 (by omega) (by omega)) | exact Nrm.w (wrap_u8 (by omega) (by omega)) | exact Nrm.refl _) rfl (by kernel_rfl) ?_)
    | (refine R.asNew ?_; refine R.a ttok rfl rfl (by kernel_rfl) ?_)
    | (refine R.asBox ?_; refine R.b rfl rfl rfl (by kernel_rfl) ?_)
    | (refine R.asLit ?_; refine R.li ttok rfl rfl rfl rfl rfl rfl (by kernel_rfl) ?_)
    | (refine R.asSto ?_; refine R.st ttok rfl rfl rfl rfl rfl rfl rfl (by kernel_rfl) ?_)
    | (refine R.asAny ?_; refine R.s ttok rfl rfl (by kernel_rfl) ?_)
    | (refine R.asAny ?_; refine R.k rfl rfl ?_)
    | (refine R.asNo ?_; refine R.k0 rfl ?_)
    | refine R.done ?_
    | refine X.then ?_
    | refine C.block ?_
    | refine C.ret ?_
    | refine C.skip ?_
    | refine C.exit ?_
    | refine X.pass_ret ?_
    | refine X.pass_exit ?_
    | refine X.block_normal ?_
    | refine X.block_ret ?_
    | refine X.block_exit ?_
    | (refine C.asCond ?_; refine C.tru rfl ?_)
    | (refine C.asCond ?_; refine C.fls rfl ?_)
    | (refine X.asOther ?_; refine X.block_other rfl ?_))
    rw [decide_eq_false (show ¬ ((n : Nat) : Int) < (e : Nat) by omega)]
    repeat (first
    | refine C.seq ?_
    | refine C.region ?_
    | (refine R.asBin ?_; refine R.nb ttok rfl rfl (by first | exact Nrm.w (wrap_i64 (by omega) (by omega)) | exact Nrm.w (wrap_u64 (by omega) (by omega)) | exact Nrm.w (wrap_u8 (by omega) (by omega)) | exact Nrm.refl _) rfl (by kernel_rfl) ?_)
    | (refine R.asNeg ?_; refine R.nu ttok rfl (by first | exact Nrm.w (wrap_i64 (by omega) (by omega)) | exact Nrm.w (wrap_u64 (by omega) (by omega)) | exact Nrm.w (wrap_u8 (by omega) (by omega)) | exact Nrm.refl _) rfl (by kernel_rfl) ?_)
    | (refine R.asCon ?_; refine R.nc ttok rfl (by first | exact Nrm.w (wrap_i64 (by omega) (by omega)) | exact Nrm.w (wrap_u64 (by omega) (by omega)) | exact Nrm.w (wrap_u8 (by omega) (by omega)) | exact Nrm.refl _) rfl (by kernel_rfl) ?_)
    | (refine R.asNew ?_; refine R.a ttok rfl rfl (by kernel_rfl) ?_)
    | (refine R.asBox ?_; refine R.b rfl rfl rfl (by kernel_rfl) ?_)
    | (refine R.asLit ?_; refine R.li ttok rfl rfl rfl rfl rfl rfl (by kernel_rfl) ?_)
    | (refine R.asSto ?_; refine R.st ttok rfl rfl rfl rfl rfl rfl rfl (by kernel_rfl) ?_)
    | (refine R.asAny ?_; refine R.s ttok rfl rfl (by kernel_rfl) ?_)
    | (refine R.asAny ?_; refine R.k rfl rfl ?_)
    | (refine R.asNo ?_; refine R.k0 rfl ?_)
    | refine R.done ?_
    | refine X.then ?_
    | refine C.block ?_
    | refine C.ret ?_
    | refine C.skip ?_
    | refine C.exit ?_
    | refine X.pass_ret ?_
    | refine X.pass_exit ?_
    | refine X.block_normal ?_
    | refine X.block_ret ?_
    | refine X.block_exit ?_
    | (refine C.asCond ?_; refine C.tru rfl ?_)
    | (refine C.asCond ?_; refine C.fls rfl ?_)
    | (refine X.asOther ?_; refine X.block_other rfl ?_))
    rw [decide_eq_false (show ¬ (200000 : Int) < (st : Nat) by omega)]
    repeat (first
    | refine C.seq ?_
    | refine C.region ?_
    | (refine R.asBin ?_; refine R.nb ttok rfl rfl (by first | exact Nrm.w (wrap_i64 (by omega) (by omega)) | exact Nrm.w (wrap_u64 (by omega) (by omega)) | exact Nrm.w (wrap_u8 (by omega) (by omega)) | exact Nrm.refl _) rfl (by kernel_rfl) ?_)
    | (refine R.asNeg ?_; refine R.nu ttok rfl (by first | exact Nrm.w (wrap_i64 (by omega) (by omega)) | exact Nrm.w (wrap_u64 (by omega) (by omega)) | exact Nrm.w (wrap_u8 (by omega) (by omega)) | exact Nrm.refl _) rfl (by kernel_rfl) ?_)
    | (refine R.asCon ?_; refine R.nc ttok rfl (by first | exact Nrm.w (wrap_i64 (by omega) (by omega)) | exact Nrm.w (wrap_u64 (by omega) (by omega)) | exact Nrm.w (wrap_u8 (by omega) (by omega)) | exact Nrm.refl _) rfl (by kernel_rfl) ?_)
    | (refine R.asNew ?_; refine R.a ttok rfl rfl (by kernel_rfl) ?_)
    | (refine R.asBox ?_; refine R.b rfl rfl rfl (by kernel_rfl) ?_)
    | (refine R.asLit ?_; refine R.li ttok rfl rfl rfl rfl rfl rfl (by kernel_rfl) ?_)
    | (refine R.asSto ?_; refine R.st ttok rfl rfl rfl rfl rfl rfl rfl (by kernel_rfl) ?_)
    | (refine R.asAny ?_; refine R.s ttok rfl rfl (by kernel_rfl) ?_)
    | (refine R.asAny ?_; refine R.k rfl rfl ?_)
    | (refine R.asNo ?_; refine R.k0 rfl ?_)
    | refine R.done ?_
    | refine X.then ?_
    | refine C.block ?_
    | refine C.ret ?_
    | refine C.skip ?_
    | refine C.exit ?_
    | refine X.pass_ret ?_
    | refine X.pass_exit ?_
    | refine X.block_normal ?_
    | refine X.block_ret ?_
    | refine X.block_exit ?_
    | (refine C.asCond ?_; refine C.tru rfl ?_)
    | (refine C.asCond ?_; refine C.fls rfl ?_)
    | (refine X.asOther ?_; refine X.block_other rfl ?_))
    exact X.back [] (e, st + 1) ⟨hke, by dsimp only; omega, by dsimp only; omega⟩ (by show n - e < n - k; omega) rfl (by repeat (first | exact HasT.nil | refine HasT.cons rfl rfl rfl ?_)) (by repeat (first | exact HasH.nil | refine HasH.same rfl rfl rfl trivial ?_ | refine HasH.same rfl rfl rfl rfl ?_ | refine HasH.same rfl rfl rfl (fun _ _ => rfl) ?_)) rfl (fun _ h => h)
  · obtain rfl : k = n := by omega
    obtain ⟨x, hx⟩ := wE_stop b k
    rw [hk] at hx
    have hns := nexts_spec o' c1 b (k : Nat) hbc (by omega) (by omega) (by omega)
    rw [nextF_nat b k (by omega), hx] at hns
    dsimp only [nxB, nxE, nxX] at hns
    repeat (first
    | refine C.seq ?_
    | refine C.region ?_
    | (refine R.asBin ?_; refine R.nb ttok rfl rfl (by first | exact Nrm.w (wrap_i64 (by omega) (by omega)) | exact Nrm.w (wrap_u64 (by omega) (by omega)) | exact Nrm.w (wrap_u8 (by omega) (by omega)) | exact Nrm.refl _) rfl (by kernel_rfl) ?_)
    | (refine R.asNeg ?_; refine R.nu ttok rfl (by first | exact Nrm.w (wrap_i64 (by omega) (by omega)) | exact Nrm.w (wrap_u64 (by omega) (by omega)) | exact Nrm.w (wrap_u8 (by omega) (by omega)) | exact Nrm.refl _) rfl (by kernel_rfl) ?_)
    | (refine R.asCon ?_; refine R.nc ttok rfl (by first | exact Nrm.w (wrap_i64 (by omega) (by omega)) | exact Nrm.w (wrap_u64 (by omega) (by omega)) | exact Nrm.w (wrap_u8 (by omega) (by omega)) | exact Nrm.refl _) rfl (by kernel_rfl) ?_)
    | (refine R.asNew ?_; refine R.a ttok rfl rfl (by kernel_rfl) ?_)
    | (refine R.asBox ?_; refine R.b rfl rfl rfl (by kernel_rfl) ?_)
    | (refine R.asLit ?_; refine R.li ttok rfl rfl rfl rfl rfl rfl (by kernel_rfl) ?_)
    | (refine R.asSto ?_; refine R.st ttok rfl rfl rfl rfl rfl rfl rfl (by kernel_rfl) ?_)
    | (refine R.asAny ?_; refine R.s ttok rfl rfl (by kernel_rfl) ?_)
    | (refine R.asAny ?_; refine R.k rfl rfl ?_)
    | (refine R.asNo ?_; refine R.k0 rfl ?_)
    | refine R.done ?_
    | refine X.then ?_
    | refine C.block ?_
    | refine C.ret ?_
    | refine C.skip ?_
    | refine C.exit ?_
    | refine X.pass_ret ?_
    | refine X.pass_exit ?_
    | refine X.block_normal ?_
    | refine X.block_ret ?_
    | refine X.block_exit ?_
    | (refine C.asCond ?_; refine C.tru rfl ?_)
    | (refine C.asCond ?_; refine C.fls rfl ?_)
    | (refine X.asOther ?_; refine X.block_other rfl ?_))
    refine R.cl [0] hns Try.call16 (by repeat (first | exact HasIn.nil | refine HasIn.same rfl rfl ?_ | refine HasIn.bro rfl ?_ | refine HasIn.ror rfl ?_ | refine HasIn.cro rfl rfl ?_)) rfl rfl rfl (fun _ => rfl) rfl (by kernel_rfl) fun c3 hc3 => ?_
    repeat (first
    | (refine R.asBin ?_; refine R.nb ttok rfl rfl (by first | exact Nrm.w (wrap_i64 (by omega) (by omega)) | exact Nrm.w (wrap_u64 (by omega) (by omega)) | exact Nrm.w (wrap_u8 (by omega) (by omega)) | exact Nrm.refl _) rfl (by kernel_rfl) ?_)
    | (refine R.asNeg ?_; refine R.nu ttok rfl (by first | exact Nrm.w (wrap_i64 (by omega) (by omega)) | exact Nrm.w (wrap_u64 (by omega) (by omega)) | exact Nrm.w (wrap_u8 (by omega) (by omega)) | exact Nrm.refl _) rfl (by kernel_rfl) ?_)
    | (refine R.asCon ?_; refine R.nc ttok rfl (by first | exact Nrm.w (wrap_i64 (by omega) (by omega)) | exact Nrm.w (wrap_u64 (by omega) (by omega)) | exact Nrm.w (wrap_u8 (by omega) (by omega)) | exact Nrm.refl _) rfl (by kernel_rfl) ?_)
    | (refine R.asNew ?_; refine R.a ttok rfl rfl (by kernel_rfl) ?_)
    | (refine R.asBox ?_; refine R.b rfl rfl rfl (by kernel_rfl) ?_)
    | (refine R.asLit ?_; refine R.li ttok rfl rfl rfl rfl rfl rfl (by kernel_rfl) ?_)
    | (refine R.asSto ?_; refine R.st ttok rfl rfl rfl rfl rfl rfl rfl (by kernel_rfl) ?_)
    | (refine R.asAny ?_; refine R.s ttok rfl rfl (by kernel_rfl) ?_)
    | (refine R.asAny ?_; refine R.k rfl rfl ?_)
    | (refine R.asNo ?_; refine R.k0 rfl ?_))
    refine R.done ?_
    refine X.then ?_
    refine C.cutf (σ := Unit) 2 (fun _ => True) (fun _ => [(0, .sl 0 1 o' b.length c1), (1, .sl 1 1 o2 body.length c2), (5, .raw (.int .i64 k))]) (fun _ => [(0, roBo o' b), (1, roBo o2 body)]) ?_ ?_
    · repeat (first
    | refine C.seq ?_
    | refine C.region ?_
    | (refine R.asBin ?_; refine R.nb ttok rfl rfl (by first | exact Nrm.w (wrap_i64 (by omega) (by omega)) | exact Nrm.w (wrap_u64 (by omega) (by omega)) | exact Nrm.w (wrap_u8 (by omega) (by omega)) | exact Nrm.refl _) rfl (by kernel_rfl) ?_)
    | (refine R.asNeg ?_; refine R.nu ttok rfl (by first | exact Nrm.w (wrap_i64 (by omega) (by omega)) | exact Nrm.w (wrap_u64 (by omega) (by omega)) | exact Nrm.w (wrap_u8 (by omega) (by omega)) | exact Nrm.refl _) rfl (by kernel_rfl) ?_)
    | (refine R.asCon ?_; refine R.nc ttok rfl (by first | exact Nrm.w (wrap_i64 (by omega) (by omega)) | exact Nrm.w (wrap_u64 (by omega) (by omega)) | exact Nrm.w (wrap_u8 (by omega) (by omega)) | exact Nrm.refl _) rfl (by kernel_rfl) ?_)
    | (refine R.asNew ?_; refine R.a ttok rfl rfl (by kernel_rfl) ?_)
    | (refine R.asBox ?_; refine R.b rfl rfl rfl (by kernel_rfl) ?_)
    | (refine R.asLit ?_; refine R.li ttok rfl rfl rfl rfl rfl rfl (by kernel_rfl) ?_)
    | (refine R.asSto ?_; refine R.st ttok rfl rfl rfl rfl rfl rfl rfl (by kernel_rfl) ?_)
    | (refine R.asAny ?_; refine R.s ttok rfl rfl (by kernel_rfl) ?_)
    | (refine R.asAny ?_; refine R.k rfl rfl ?_)
    | (refine R.asNo ?_; refine R.k0 rfl ?_)
    | refine R.done ?_
    | refine X.then ?_
    | refine C.block ?_
    | refine C.ret ?_
    | refine C.skip ?_
    | refine C.exit ?_
    | refine X.pass_ret ?_
    | refine X.pass_exit ?_
    | refine X.block_normal ?_
    | refine X.block_ret ?_
    | refine X.block_exit ?_
    | (refine C.asCond ?_; refine C.tru rfl ?_)
    | (refine C.asCond ?_; refine C.fls rfl ?_)
    | (refine X.asOther ?_; refine X.block_other rfl ?_))
      by_cases hkl : ((k : Nat) : Int) = (b.length : Nat)
      · rw [decide_eq_true hkl]
        obtain rfl : x = 12 := by
          rw [show k = b.length by omega, next_end] at hx
          simpa using hx.symm
        repeat (first
    | refine C.seq ?_
    | refine C.region ?_
    | (refine R.asBin ?_; refine R.nb ttok rfl rfl (by first | exact Nrm.w (wrap_i64 (by omega) (by omega)) | exact Nrm.w (wrap_u64 (by omega) (by omega)) | exact Nrm.w (wrap_u8 (by omega) (by omega)) | exact Nrm.refl _) rfl (by kernel_rfl) ?_)
    | (refine R.asNeg ?_; refine R.nu ttok rfl (by first | exact Nrm.w (wrap_i64 (by omega) (by omega)) | exact Nrm.w (wrap_u64 (by omega) (by omega)) | exact Nrm.w (wrap_u8 (by omega) (by omega)) | exact Nrm.refl _) rfl (by kernel_rfl) ?_)
    | (refine R.asCon ?_; refine R.nc ttok rfl (by first | exact Nrm.w (wrap_i64 (by omega) (by omega)) | exact Nrm.w (wrap_u64 (by omega) (by omega)) | exact Nrm.w (wrap_u8 (by omega) (by omega)) | exact Nrm.refl _) rfl (by kernel_rfl) ?_)
    | (refine R.asNew ?_; refine R.a ttok rfl rfl (by kernel_rfl) ?_)
    | (refine R.asBox ?_; refine R.b rfl rfl rfl (by kernel_rfl) ?_)
    | (refine R.asLit ?_; refine R.li ttok rfl rfl rfl rfl rfl rfl (by kernel_rfl) ?_)
    | (refine R.asSto ?_; refine R.st ttok rfl rfl rfl rfl rfl rfl rfl (by kernel_rfl) ?_)
    | (refine R.asAny ?_; refine R.s ttok rfl rfl (by kernel_rfl) ?_)
    | (refine R.asAny ?_; refine R.k rfl rfl ?_)
    | (refine R.asNo ?_; refine R.k0 rfl ?_)
    | refine R.done ?_
    | refine X.then ?_
    | refine C.block ?_
    | refine C.ret ?_
    | refine C.skip ?_
    | refine C.exit ?_
    | refine X.pass_ret ?_
    | refine X.pass_exit ?_
    | refine X.block_normal ?_
    | refine X.block_ret ?_
    | refine X.block_exit ?_
    | (refine C.asCond ?_; refine C.tru rfl ?_)
    | (refine C.asCond ?_; refine C.fls rfl ?_)
    | (refine X.asOther ?_; refine X.block_other rfl ?_))
        rw [decide_eq_false (show ¬ ((k : Nat) : Int) < (b.length : Nat) by omega)]
        repeat (first
    | refine C.seq ?_
    | refine C.region ?_
    | (refine R.asBin ?_; refine R.nb ttok rfl rfl (by first | exact Nrm.w (wrap_i64 (by omega) (by omega)) | exact Nrm.w (wrap_u64 (by omega) (by omega)) | exact Nrm.w (wrap_u8 (by omega) (by omega)) | exact Nrm.refl _) rfl (by kernel_rfl) ?_)
    | (refine R.asNeg ?_; refine R.nu ttok rfl (by first | exact Nrm.w (wrap_i64 (by omega) (by omega)) | exact Nrm.w (wrap_u64 (by omega) (by omega)) | exact Nrm.w (wrap_u8 (by omega) (by omega)) | exact Nrm.refl _) rfl (by kernel_rfl) ?_)
    | (refine R.asCon ?_; refine R.nc ttok rfl (by first | exact Nrm.w (wrap_i64 (by omega) (by omega)) | exact Nrm.w (wrap_u64 (by omega) (by omega)) | exact Nrm.w (wrap_u8 (by omega) (by omega)) | exact Nrm.refl _) rfl (by kernel_rfl) ?_)
    | (refine R.asNew ?_; refine R.a ttok rfl rfl (by kernel_rfl) ?_)
    | (refine R.asBox ?_; refine R.b rfl rfl rfl (by kernel_rfl) ?_)
    | (refine R.asLit ?_; refine R.li ttok rfl rfl rfl rfl rfl rfl (by kernel_rfl) ?_)
    | (refine R.asSto ?_; refine R.st ttok rfl rfl rfl rfl rfl rfl rfl (by kernel_rfl) ?_)
    | (refine R.asAny ?_; refine R.s ttok rfl rfl (by kernel_rfl) ?_)
    | (refine R.asAny ?_; refine R.k rfl rfl ?_)
    | (refine R.asNo ?_; refine R.k0 rfl ?_)
    | refine R.done ?_
    | refine X.then ?_
    | refine C.block ?_
    | refine C.ret ?_
    | refine C.skip ?_
    | refine C.exit ?_
    | refine X.pass_ret ?_
    | refine X.pass_exit ?_
    | refine X.block_normal ?_
    | refine X.block_ret ?_
    | refine X.block_exit ?_
    | (refine C.asCond ?_; refine C.tru rfl ?_)
    | (refine C.asCond ?_; refine C.fls rfl ?_)
    | (refine X.asOther ?_; refine X.block_other rfl ?_))
        exact X.back [] () trivial (by simp) rfl (by repeat (first | exact HasT.nil | refine HasT.cons rfl rfl rfl ?_)) (by repeat (first | exact HasH.nil | refine HasH.same rfl rfl rfl trivial ?_ | refine HasH.same rfl rfl rfl rfl ?_ | refine HasH.same rfl rfl rfl (fun _ _ => rfl) ?_)) rfl (fun _ h => h)
      · rw [decide_eq_false hkl]
        obtain rfl : x = 13 := err13 hx (by omega)
        repeat (first
    | refine C.seq ?_
    | refine C.region ?_
    | (refine R.asBin ?_; refine R.nb ttok rfl rfl (by first | exact Nrm.w (wrap_i64 (by omega) (by omega)) | exact Nrm.w (wrap_u64 (by omega) (by omega)) | exact Nrm.w (wrap_u8 (by omega) (by omega)) | exact Nrm.refl _) rfl (by kernel_rfl) ?_)
    | (refine R.asNeg ?_; refine R.nu ttok rfl (by first | exact Nrm.w (wrap_i64 (by omega) (by omega)) | exact Nrm.w (wrap_u64 (by omega) (by omega)) | exact Nrm.w (wrap_u8 (by omega) (by omega)) | exact Nrm.refl _) rfl (by kernel_rfl) ?_)
    | (refine R.asCon ?_; refine R.nc ttok rfl (by first | exact Nrm.w (wrap_i64 (by omega) (by omega)) | exact Nrm.w (wrap_u64 (by omega) (by omega)) | exact Nrm.w (wrap_u8 (by omega) (by omega)) | exact Nrm.refl _) rfl (by kernel_rfl) ?_)
    | (refine R.asNew ?_; refine R.a ttok rfl rfl (by kernel_rfl) ?_)
    | (refine R.asBox ?_; refine R.b rfl rfl rfl (by kernel_rfl) ?_)
    | (refine R.asLit ?_; refine R.li ttok rfl rfl rfl rfl rfl rfl (by kernel_rfl) ?_)
    | (refine R.asSto ?_; refine R.st ttok rfl rfl rfl rfl rfl rfl rfl (by kernel_rfl) ?_)
    | (refine R.asAny ?_; refine R.s ttok rfl rfl (by kernel_rfl) ?_)
    | (refine R.asAny ?_; refine R.k rfl rfl ?_)
    | (refine R.asNo ?_; refine R.k0 rfl ?_)
    | refine R.done ?_
    | refine X.then ?_
    | refine C.block ?_
    | refine C.ret ?_
    | refine C.skip ?_
    | refine C.exit ?_
    | refine X.pass_ret ?_
    | refine X.pass_exit ?_
    | refine X.block_normal ?_
    | refine X.block_ret ?_
    | refine X.block_exit ?_
    | (refine C.asCond ?_; refine C.tru rfl ?_)
    | (refine C.asCond ?_; refine C.fls rfl ?_)
    | (refine X.asOther ?_; refine X.block_other rfl ?_))
        rw [decide_eq_true (show ((k : Nat) : Int) < (b.length : Nat) by omega)]
        repeat (first
    | refine C.seq ?_
    | refine C.region ?_
    | (refine R.asBin ?_; refine R.nb ttok rfl rfl (by first | exact Nrm.w (wrap_i64 (by omega) (by omega)) | exact Nrm.w (wrap_u64 (by omega) (by omega)) | exact Nrm.w (wrap_u8 (by omega) (by omega)) | exact Nrm.refl _) rfl (by kernel_rfl) ?_)
    | (refine R.asNeg ?_; refine R.nu ttok rfl (by first | exact Nrm.w (wrap_i64 (by omega) (by omega)) | exact Nrm.w (wrap_u64 (by omega) (by omega)) | exact Nrm.w (wrap_u8 (by omega) (by omega)) | exact Nrm.refl _) rfl (by kernel_rfl) ?_)
    | (refine R.asCon ?_; refine R.nc ttok rfl (by first | exact Nrm.w (wrap_i64 (by omega) (by omega)) | exact Nrm.w (wrap_u64 (by omega) (by omega)) | exact Nrm.w (wrap_u8 (by omega) (by omega)) | exact Nrm.refl _) rfl (by kernel_rfl) ?_)
    | (refine R.asNew ?_; refine R.a ttok rfl rfl (by kernel_rfl) ?_)
    | (refine R.asBox ?_; refine R.b rfl rfl rfl (by kernel_rfl) ?_)
    | (refine R.asLit ?_; refine R.li ttok rfl rfl rfl rfl rfl rfl (by kernel_rfl) ?_)
    | (refine R.asSto ?_; refine R.st ttok rfl rfl rfl rfl rfl rfl rfl (by kernel_rfl) ?_)
    | (refine R.asAny ?_; refine R.s ttok rfl rfl (by kernel_rfl) ?_)
    | (refine R.asAny ?_; refine R.k rfl rfl ?_)
    | (refine R.asNo ?_; refine R.k0 rfl ?_)
    | refine R.done ?_
    | refine X.then ?_
    | refine C.block ?_
    | refine C.ret ?_
    | refine C.skip ?_
    | refine C.exit ?_
    | refine X.pass_ret ?_
    | refine X.pass_exit ?_
    | refine X.block_normal ?_
    | refine X.block_ret ?_
    | refine X.block_exit ?_
    | (refine C.asCond ?_; refine C.tru rfl ?_)
    | (refine C.asCond ?_; refine C.fls rfl ?_)
    | (refine X.asOther ?_; refine X.block_other rfl ?_))
        exact X.back [] () trivial (by simp) rfl (by repeat (first | exact HasT.nil | refine HasT.cons rfl rfl rfl ?_)) (by repeat (first | exact HasH.nil | refine HasH.same rfl rfl rfl trivial ?_ | refine HasH.same rfl rfl rfl rfl ?_ | refine HasH.same rfl rfl rfl (fun _ _ => rfl) ?_)) rfl (fun _ h => h)
    intro _ _
    repeat (first
    | refine C.seq ?_
    | refine C.region ?_
    | (refine R.asBin ?_; refine R.nb ttok rfl rfl (by first | exact Nrm.w (wrap_i64 (by omega) (by omega)) | exact Nrm.w (wrap_u64 (by omega) (by omega)) | exact Nrm.w (wrap_u8 (by omega) (by omega)) | exact Nrm.refl _) rfl (by kernel_rfl) ?_)
    | (refine R.asNeg ?_; refine R.nu ttok rfl (by first | exact Nrm.w (wrap_i64 (by omega) (by omega)) | exact Nrm.w (wrap_u64 (by omega) (by omega)) | exact Nrm.w (wrap_u8 (by omega) (by omega)) | exact Nrm.refl _) rfl (by kernel_rfl) ?_)
    | (refine R.asCon ?_; refine R.nc ttok rfl (by first | exact Nrm.w (wrap_i64 (by omega) (by omega)) | exact Nrm.w (wrap_u64 (by omega) (by omega)) | exact Nrm.w (wrap_u8 (by omega) (by omega)) | exact Nrm.refl _) rfl (by kernel_rfl) ?_)
    | (refine R.asNew ?_; refine R.a ttok rfl rfl (by kernel_rfl) ?_)
    | (refine R.asBox ?_; refine R.b rfl rfl rfl (by kernel_rfl) ?_)
    | (refine R.asLit ?_; refine R.li ttok rfl rfl rfl rfl rfl rfl (by kernel_rfl) ?_)
    | (refine R.asSto ?_; refine R.st ttok rfl rfl rfl rfl rfl rfl rfl (by kernel_rfl) ?_)
    | (refine R.asAny ?_; refine R.s ttok rfl rfl (by kernel_rfl) ?_)
    | (refine R.asAny ?_; refine R.k rfl rfl ?_)
    | (refine R.asNo ?_; refine R.k0 rfl ?_)
    | refine R.done ?_
    | refine X.then ?_
    | refine C.block ?_
    | refine C.ret ?_
    | refine C.skip ?_
    | refine C.exit ?_
    | refine X.pass_ret ?_
    | refine X.pass_exit ?_
    | refine X.block_normal ?_
    | refine X.block_ret ?_
    | refine X.block_exit ?_
    | (refine C.asCond ?_; refine C.tru rfl ?_)
    | (refine C.asCond ?_; refine C.fls rfl ?_)
    | (refine X.asOther ?_; refine X.block_other rfl ?_))
    refine C.dec rfl (fun h0 => ?_) (fun h0 => ?_)
    · repeat (first
    | refine C.seq ?_
    | refine C.region ?_
    | (refine R.asBin ?_; refine R.nb ttok rfl rfl (by first | exact Nrm.w (wrap_i64 (by omega) (by omega)) | exact Nrm.w (wrap_u64 (by omega) (by omega)) | exact Nrm.w (wrap_u8 (by omega) (by omega)) | exact Nrm.refl _) rfl (by kernel_rfl) ?_)
    | (refine R.asNeg ?_; refine R.nu ttok rfl (by first | exact Nrm.w (wrap_i64 (by omega) (by omega)) | exact Nrm.w (wrap_u64 (by omega) (by omega)) | exact Nrm.w (wrap_u8 (by omega) (by omega)) | exact Nrm.refl _) rfl (by kernel_rfl) ?_)
    | (refine R.asCon ?_; refine R.nc ttok rfl (by first | exact Nrm.w (wrap_i64 (by omega) (by omega)) | exact Nrm.w (wrap_u64 (by omega) (by omega)) | exact Nrm.w (wrap_u8 (by omega) (by omega)) | exact Nrm.refl _) rfl (by kernel_rfl) ?_)
    | (refine R.asNew ?_; refine R.a ttok rfl rfl (by kernel_rfl) ?_)
    | (refine R.asBox ?_; refine R.b rfl rfl rfl (by kernel_rfl) ?_)
    | (refine R.asLit ?_; refine R.li ttok rfl rfl rfl rfl rfl rfl (by kernel_rfl) ?_)
    | (refine R.asSto ?_; refine R.st ttok rfl rfl rfl rfl rfl rfl rfl (by kernel_rfl) ?_)
    | (refine R.asAny ?_; refine R.s ttok rfl rfl (by kernel_rfl) ?_)
    | (refine R.asAny ?_; refine R.k rfl rfl ?_)
    | (refine R.asNo ?_; refine R.k0 rfl ?_)
    | refine R.done ?_
    | refine X.then ?_
    | refine C.block ?_
    | refine C.ret ?_
    | refine C.skip ?_
    | refine C.exit ?_
    | refine X.pass_ret ?_
    | refine X.pass_exit ?_
    | refine X.block_normal ?_
    | refine X.block_ret ?_
    | refine X.block_exit ?_
    | (refine C.asCond ?_; refine C.tru rfl ?_)
    | (refine C.asCond ?_; refine C.fls rfl ?_)
    | (refine X.asOther ?_; refine X.block_other rfl ?_))
      refine R.cl [] (known_spec) Try.call17 (by repeat (first | exact HasIn.nil | refine HasIn.same rfl rfl ?_ | refine HasIn.bro rfl ?_ | refine HasIn.ror rfl ?_ | refine HasIn.cro rfl rfl ?_)) rfl rfl rfl (fun _ => rfl) rfl (by kernel_rfl) fun _ _ => ?_
      repeat (first
    | refine C.seq ?_
    | refine C.region ?_
    | (refine R.asBin ?_; refine R.nb ttok rfl rfl (by first | exact Nrm.w (wrap_i64 (by omega) (by omega)) | exact Nrm.w (wrap_u64 (by omega) (by omega)) | exact Nrm.w (wrap_u8 (by omega) (by omega)) | exact Nrm.refl _) rfl (by kernel_rfl) ?_)
    | (refine R.asNeg ?_; refine R.nu ttok rfl (by first | exact Nrm.w (wrap_i64 (by omega) (by omega)) | exact Nrm.w (wrap_u64 (by omega) (by omega)) | exact Nrm.w (wrap_u8 (by omega) (by omega)) | exact Nrm.refl _) rfl (by kernel_rfl) ?_)
    | (refine R.asCon ?_; refine R.nc ttok rfl (by first | exact Nrm.w (wrap_i64 (by omega) (by omega)) | exact Nrm.w (wrap_u64 (by omega) (by omega)) | exact Nrm.w (wrap_u8 (by omega) (by omega)) | exact Nrm.refl _) rfl (by kernel_rfl) ?_)
    | (refine R.asNew ?_; refine R.a ttok rfl rfl (by kernel_rfl) ?_)
    | (refine R.asBox ?_; refine R.b rfl rfl rfl (by kernel_rfl) ?_)
    | (refine R.asLit ?_; refine R.li ttok rfl rfl rfl rfl rfl rfl (by kernel_rfl) ?_)
    | (refine R.asSto ?_; refine R.st ttok rfl rfl rfl rfl rfl rfl rfl (by kernel_rfl) ?_)
    | (refine R.asAny ?_; refine R.s ttok rfl rfl (by kernel_rfl) ?_)
    | (refine R.asAny ?_; refine R.k rfl rfl ?_)
    | (refine R.asNo ?_; refine R.k0 rfl ?_)
    | refine R.done ?_
    | refine X.then ?_
    | refine C.block ?_
    | refine C.ret ?_
    | refine C.skip ?_
    | refine C.exit ?_
    | refine X.pass_ret ?_
    | refine X.pass_exit ?_
    | refine X.block_normal ?_
    | refine X.block_ret ?_
    | refine X.block_exit ?_
    | (refine C.asCond ?_; refine C.tru rfl ?_)
    | (refine C.asCond ?_; refine C.fls rfl ?_)
    | (refine X.asOther ?_; refine X.block_other rfl ?_))
      refine X.fin ttok () [] trivial rfl rfl rfl (by repeat (first | exact HasH.nil | refine HasH.same rfl rfl rfl trivial ?_ | refine HasH.same rfl rfl rfl rfl ?_ | refine HasH.same rfl rfl rfl (fun _ _ => rfl) ?_)) _ (by first | exact .inl rfl | exact .inr rfl)
    have hsl := sealB_length body
    have hss := seal_nil o2 c2 body (by omega)
    rw [sealF_yes (d := []) (p := body) (by omega) (by omega), List.nil_append] at hss
    dsimp only at hss
    have hwsl := whole_seal body b (by omega) (by omega)
    rw [hn] at hwsl
    repeat (first
    | refine C.seq ?_
    | refine C.region ?_
    | (refine R.asBin ?_; refine R.nb ttok rfl rfl (by first | exact Nrm.w (wrap_i64 (by omega) (by omega)) | exact Nrm.w (wrap_u64 (by omega) (by omega)) | exact Nrm.w (wrap_u8 (by omega) (by omega)) | exact Nrm.refl _) rfl (by kernel_rfl) ?_)
    | (refine R.asNeg ?_; refine R.nu ttok rfl (by first | exact Nrm.w (wrap_i64 (by omega) (by omega)) | exact Nrm.w (wrap_u64 (by omega) (by omega)) | exact Nrm.w (wrap_u8 (by omega) (by omega)) | exact Nrm.refl _) rfl (by kernel_rfl) ?_)
    | (refine R.asCon ?_; refine R.nc ttok rfl (by first | exact Nrm.w (wrap_i64 (by omega) (by omega)) | exact Nrm.w (wrap_u64 (by omega) (by omega)) | exact Nrm.w (wrap_u8 (by omega) (by omega)) | exact Nrm.refl _) rfl (by kernel_rfl) ?_)
    | (refine R.asNew ?_; refine R.a ttok rfl rfl (by kernel_rfl) ?_)
    | (refine R.asBox ?_; refine R.b rfl rfl rfl (by kernel_rfl) ?_)
    | (refine R.asLit ?_; refine R.li ttok rfl rfl rfl rfl rfl rfl (by kernel_rfl) ?_)
    | (refine R.asSto ?_; refine R.st ttok rfl rfl rfl rfl rfl rfl rfl (by kernel_rfl) ?_)
    | (refine R.asAny ?_; refine R.s ttok rfl rfl (by kernel_rfl) ?_)
    | (refine R.asAny ?_; refine R.k rfl rfl ?_)
    | (refine R.asNo ?_; refine R.k0 rfl ?_)
    | refine R.done ?_
    | refine X.then ?_
    | refine C.block ?_
    | refine C.ret ?_
    | refine C.skip ?_
    | refine C.exit ?_
    | refine X.pass_ret ?_
    | refine X.pass_exit ?_
    | refine X.block_normal ?_
    | refine X.block_ret ?_
    | refine X.block_exit ?_
    | (refine C.asCond ?_; refine C.tru rfl ?_)
    | (refine C.asCond ?_; refine C.fls rfl ?_)
    | (refine X.asOther ?_; refine X.block_other rfl ?_))
    refine R.cl [1] hss Try.call12 (by repeat (first | exact HasIn.nil | refine HasIn.same rfl rfl ?_ | refine HasIn.bro rfl ?_ | refine HasIn.ror rfl ?_ | refine HasIn.cro rfl rfl ?_)) rfl rfl rfl (fun _ => rfl) rfl (by kernel_rfl) fun c4 hc4 => ?_
    repeat (first
    | refine C.seq ?_
    | refine C.region ?_
    | (refine R.asBin ?_; refine R.nb ttok rfl rfl (by first | exact Nrm.w (wrap_i64 (by omega) (by omega)) | exact Nrm.w (wrap_u64 (by omega) (by omega)) | exact Nrm.w (wrap_u8 (by omega) (by omega)) | exact Nrm.refl _) rfl (by kernel_rfl) ?_)
    | (refine R.asNeg ?_; refine R.nu ttok rfl (by first | exact Nrm.w (wrap_i64 (by omega) (by omega)) | exact Nrm.w (wrap_u64 (by omega) (by omega)) | exact Nrm.w (wrap_u8 (by omega) (by omega)) | exact Nrm.refl _) rfl (by kernel_rfl) ?_)
    | (refine R.asCon ?_; refine R.nc ttok rfl (by first | exact Nrm.w (wrap_i64 (by omega) (by omega)) | exact Nrm.w (wrap_u64 (by omega) (by omega)) | exact Nrm.w (wrap_u8 (by omega) (by omega)) | exact Nrm.refl _) rfl (by kernel_rfl) ?_)
    | (refine R.asNew ?_; refine R.a ttok rfl rfl (by kernel_rfl) ?_)
    | (refine R.asBox ?_; refine R.b rfl rfl rfl (by kernel_rfl) ?_)
    | (refine R.asLit ?_; refine R.li ttok rfl rfl rfl rfl rfl rfl (by kernel_rfl) ?_)
    | (refine R.asSto ?_; refine R.st ttok rfl rfl rfl rfl rfl rfl rfl (by kernel_rfl) ?_)
    | (refine R.asAny ?_; refine R.s ttok rfl rfl (by kernel_rfl) ?_)
    | (refine R.asAny ?_; refine R.k rfl rfl ?_)
    | (refine R.asNo ?_; refine R.k0 rfl ?_)
    | refine R.done ?_
    | refine X.then ?_
    | refine C.block ?_
    | refine C.ret ?_
    | refine C.skip ?_
    | refine C.exit ?_
    | refine X.pass_ret ?_
    | refine X.pass_exit ?_
    | refine X.block_normal ?_
    | refine X.block_ret ?_
    | refine X.block_exit ?_
    | (refine C.asCond ?_; refine C.tru rfl ?_)
    | (refine C.asCond ?_; refine C.fls rfl ?_)
    | (refine X.asOther ?_; refine X.block_other rfl ?_))
    refine R.apb ttok (r := sealB body ++ b) rfl rfl rfl rfl (SrcA.robo rfl) rfl rfl rfl rfl rfl rfl rfl rfl rfl hc4 (by rw [List.length_append]; omega) fun c5 h5 h6 => ?_
    have hw2 := whole_spec 0 c5 (sealB body ++ b) (by rw [List.length_append]; omega)
    rw [hwsl] at hw2
    refine R.cl [3] hw2 Try.call21 (.bro rfl .nil) rfl rfl rfl (fun _ => rfl) rfl (by kernel_rfl) fun _ _ => ?_
    repeat (first
    | refine C.seq ?_
    | refine C.region ?_
    | (refine R.asBin ?_; refine R.nb ttok rfl rfl (by first | exact Nrm.w (wrap_i64 (by omega) (by omega)) | exact Nrm.w (wrap_u64 (by omega) (by omega)) | exact Nrm.w (wrap_u8 (by omega) (by omega)) | exact Nrm.refl _) rfl (by kernel_rfl) ?_)
    | (refine R.asNeg ?_; refine R.nu ttok rfl (by first | exact Nrm.w (wrap_i64 (by omega) (by omega)) | exact Nrm.w (wrap_u64 (by omega) (by omega)) | exact Nrm.w (wrap_u8 (by omega) (by omega)) | exact Nrm.refl _) rfl (by kernel_rfl) ?_)
    | (refine R.asCon ?_; refine R.nc ttok rfl (by first | exact Nrm.w (wrap_i64 (by omega) (by omega)) | exact Nrm.w (wrap_u64 (by omega) (by omega)) | exact Nrm.w (wrap_u8 (by omega) (by omega)) | exact Nrm.refl _) rfl (by kernel_rfl) ?_)
    | (refine R.asNew ?_; refine R.a ttok rfl rfl (by kernel_rfl) ?_)
    | (refine R.asBox ?_; refine R.b rfl rfl rfl (by kernel_rfl) ?_)
    | (refine R.asLit ?_; refine R.li ttok rfl rfl rfl rfl rfl rfl (by kernel_rfl) ?_)
    | (refine R.asSto ?_; refine R.st ttok rfl rfl rfl rfl rfl rfl rfl (by kernel_rfl) ?_)
    | (refine R.asAny ?_; refine R.s ttok rfl rfl (by kernel_rfl) ?_)
    | (refine R.asAny ?_; refine R.k rfl rfl ?_)
    | (refine R.asNo ?_; refine R.k0 rfl ?_)
    | refine R.done ?_
    | refine X.then ?_
    | refine C.block ?_
    | refine C.ret ?_
    | refine C.skip ?_
    | refine C.exit ?_
    | refine X.pass_ret ?_
    | refine X.pass_exit ?_
    | refine X.block_normal ?_
    | refine X.block_ret ?_
    | refine X.block_exit ?_
    | (refine C.asCond ?_; refine C.tru rfl ?_)
    | (refine C.asCond ?_; refine C.fls rfl ?_)
    | (refine X.asOther ?_; refine X.block_other rfl ?_))
    rw [decide_eq_true (show (((sealB body).length + k : Nat) : Int) = ((sealB body).length : Nat) + (k : Nat) by omega)]
    repeat (first
    | refine C.seq ?_
    | refine C.region ?_
    | (refine R.asBin ?_; refine R.nb ttok rfl rfl (by first | exact Nrm.w (wrap_i64 (by omega) (by omega)) | exact Nrm.w (wrap_u64 (by omega) (by omega)) | exact Nrm.w (wrap_u8 (by omega) (by omega)) | exact Nrm.refl _) rfl (by kernel_rfl) ?_)
    | (refine R.asNeg ?_; refine R.nu ttok rfl (by first | exact Nrm.w (wrap_i64 (by omega) (by omega)) | exact Nrm.w (wrap_u64 (by omega) (by omega)) | exact Nrm.w (wrap_u8 (by omega) (by omega)) | exact Nrm.refl _) rfl (by kernel_rfl) ?_)
    | (refine R.asCon ?_; refine R.nc ttok rfl (by first | exact Nrm.w (wrap_i64 (by omega) (by omega)) | exact Nrm.w (wrap_u64 (by omega) (by omega)) | exact Nrm.w (wrap_u8 (by omega) (by omega)) | exact Nrm.refl _) rfl (by kernel_rfl) ?_)
    | (refine R.asNew ?_; refine R.a ttok rfl rfl (by kernel_rfl) ?_)
    | (refine R.asBox ?_; refine R.b rfl rfl rfl (by kernel_rfl) ?_)
    | (refine R.asLit ?_; refine R.li ttok rfl rfl rfl rfl rfl rfl (by kernel_rfl) ?_)
    | (refine R.asSto ?_; refine R.st ttok rfl rfl rfl rfl rfl rfl rfl (by kernel_rfl) ?_)
    | (refine R.asAny ?_; refine R.s ttok rfl rfl (by kernel_rfl) ?_)
    | (refine R.asAny ?_; refine R.k rfl rfl ?_)
    | (refine R.asNo ?_; refine R.k0 rfl ?_)
    | refine R.done ?_
    | refine X.then ?_
    | refine C.block ?_
    | refine C.ret ?_
    | refine C.skip ?_
    | refine C.exit ?_
    | refine X.pass_ret ?_
    | refine X.pass_exit ?_
    | refine X.block_normal ?_
    | refine X.block_ret ?_
    | refine X.block_exit ?_
    | (refine C.asCond ?_; refine C.tru rfl ?_)
    | (refine C.asCond ?_; refine C.fls rfl ?_)
    | (refine X.asOther ?_; refine X.block_other rfl ?_))
    refine R.cl [] (known_spec) Try.call17 (by repeat (first | exact HasIn.nil | refine HasIn.same rfl rfl ?_ | refine HasIn.bro rfl ?_ | refine HasIn.ror rfl ?_ | refine HasIn.cro rfl rfl ?_)) rfl rfl rfl (fun _ => rfl) rfl (by kernel_rfl) fun _ _ => ?_
    repeat (first
    | refine C.seq ?_
    | refine C.region ?_
    | (refine R.asBin ?_; refine R.nb ttok rfl rfl (by first | exact Nrm.w (wrap_i64 (by omega) (by omega)) | exact Nrm.w (wrap_u64 (by omega) (by omega)) | exact Nrm.w (wrap_u8 (by omega) (by omega)) | exact Nrm.refl _) rfl (by kernel_rfl) ?_)
    | (refine R.asNeg ?_; refine R.nu ttok rfl (by first | exact Nrm.w (wrap_i64 (by omega) (by omega)) | exact Nrm.w (wrap_u64 (by omega) (by omega)) | exact Nrm.w (wrap_u8 (by omega) (by omega)) | exact Nrm.refl _) rfl (by kernel_rfl) ?_)
    | (refine R.asCon ?_; refine R.nc ttok rfl (by first | exact Nrm.w (wrap_i64 (by omega) (by omega)) | exact Nrm.w (wrap_u64 (by omega) (by omega)) | exact Nrm.w (wrap_u8 (by omega) (by omega)) | exact Nrm.refl _) rfl (by kernel_rfl) ?_)
    | (refine R.asNew ?_; refine R.a ttok rfl rfl (by kernel_rfl) ?_)
    | (refine R.asBox ?_; refine R.b rfl rfl rfl (by kernel_rfl) ?_)
    | (refine R.asLit ?_; refine R.li ttok rfl rfl rfl rfl rfl rfl (by kernel_rfl) ?_)
    | (refine R.asSto ?_; refine R.st ttok rfl rfl rfl rfl rfl rfl rfl (by kernel_rfl) ?_)
    | (refine R.asAny ?_; refine R.s ttok rfl rfl (by kernel_rfl) ?_)
    | (refine R.asAny ?_; refine R.k rfl rfl ?_)
    | (refine R.asNo ?_; refine R.k0 rfl ?_)
    | refine R.done ?_
    | refine X.then ?_
    | refine C.block ?_
    | refine C.ret ?_
    | refine C.skip ?_
    | refine C.exit ?_
    | refine X.pass_ret ?_
    | refine X.pass_exit ?_
    | refine X.block_normal ?_
    | refine X.block_ret ?_
    | refine X.block_exit ?_
    | (refine C.asCond ?_; refine C.tru rfl ?_)
    | (refine C.asCond ?_; refine C.fls rfl ?_)
    | (refine X.asOther ?_; refine X.block_other rfl ?_))
    refine X.fin ttok () [] trivial rfl rfl rfl (by repeat (first | exact HasH.nil | refine HasH.same rfl rfl rfl trivial ?_ | refine HasH.same rfl rfl rfl rfl ?_ | refine HasH.same rfl rfl rfl (fun _ _ => rfl) ?_)) _ (by first | exact .inl rfl | exact .inr rfl)
end Go.Proofs.Ytggnjgnjgnlchaa
