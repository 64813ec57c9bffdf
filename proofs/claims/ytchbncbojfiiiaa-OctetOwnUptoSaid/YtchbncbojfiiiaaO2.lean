/- octet: the document's Writer -/
import Derived.Test.YtchbncbojfiiiaaO1
import Derived.Test.YtchbncbojfiiiaaK20
namespace Go.Proofs.Ytchbncbojfiiiaa
set_option linter.unusedVariables false
set_option linter.unusedSimpArgs false
open Go.RowKit
set_option maxRecDepth 100000
/-- bytes laid, if nothing went wrong -/
def layF (p : List UInt8) (e : Int) (q : List UInt8) : List UInt8 := if e = 0 then p ++ q else p
theorem layF_no {p q : List UInt8} {e : Int} (h : e ≠ 0) : layF p e q = p := if_neg h
theorem layF_ok (p q : List UInt8) : layF p 0 q = p ++ q := if_pos rfl
theorem layF_len (p q : List UInt8) (e : Int) : (layF p e q).length ≤ p.length + q.length := by
  unfold layF; split <;> simp
theorem layF_two (p q r : List UInt8) (e : Int) : layF (layF p e q) e r = layF p e (q ++ r) := by
  unfold layF; split <;> simp
theorem layF_nil (p : List UInt8) (e : Int) : layF p e [] = p := by unfold layF; split <;> simp
def stopE (e x : Int) : Int := if e = 0 then x else e
theorem stopE_no {e : Int} (x : Int) (h : e ≠ 0) : stopE e x = e := if_neg h
abbrev refW (l : Nat) (p : List UInt8) (c : Nat) (e : Int) : AV := .agg [.sl l 1 0 p.length c, .raw (.int .i64 e)]
theorem rlaid_spec (p q : List UInt8) (c c2 : Nat) (e : Int) (hc : c ≤ 9223372036854775807) (hpq : p.length + q.length ≤ 140737488355328) :
    Spec Try.prog 57 [refW 0 p c e, .sl 1 1 0 q.length c2] [.bytes p c 5, .ro 1 0 q.length (bytesF q)] 3 (σ := Nat) (fun c => c ≤ 9223372036854775807) (fun c => refW 2 (layF p e q) c e) (fun c => [(2, .bytes (layF p e q) c 5)]) := by
  refine Spec.of Try.func57 rfl Try.ntmps57 rfl (by simp [AO.Bd, bytesF, AV.bds, AV.bd]) fun ρ w => ?_
  repeat (first | refine C.seq ?_ | refine C.region ?_ | refine R.zb ttok ?_ | refine R.zu ttok ?_ | refine R.zc ttok ?_ | refine R.za ttok ?_ | refine R.zx ?_ | refine R.zl ttok ?_ | refine R.zs ttok ?_ | refine R.z ttok ?_ | refine R.zk ?_ | refine R.zn ?_ | refine R.done ?_ | refine X.then ?_ | refine C.block ?_ | refine C.ret ?_ | refine C.skip ?_ | refine C.exit ?_ | refine X.pass_ret ?_ | refine X.pass_exit ?_ | refine X.block_normal ?_ | refine X.block_ret ?_ | refine X.block_exit ?_ | refine C.zt ?_ | refine C.zf ?_ | refine X.zo ?_)
  refine C.dec rfl (fun hne => ?_) (fun he => ?_)
  · rw [layF_no hne]
    repeat (first | refine C.seq ?_ | refine C.region ?_ | refine R.zb ttok ?_ | refine R.zu ttok ?_ | refine R.zc ttok ?_ | refine R.za ttok ?_ | refine R.zx ?_ | refine R.zl ttok ?_ | refine R.zs ttok ?_ | refine R.z ttok ?_ | refine R.zk ?_ | refine R.zn ?_ | refine R.done ?_ | refine X.then ?_ | refine C.block ?_ | refine C.ret ?_ | refine C.skip ?_ | refine C.exit ?_ | refine X.pass_ret ?_ | refine X.pass_exit ?_ | refine X.block_normal ?_ | refine X.block_ret ?_ | refine X.block_exit ?_ | refine C.zt ?_ | refine C.zf ?_ | refine X.zo ?_)
    refine X.fin ttok c [(2, 0)] hc rfl rfl rfl ?_ _ (.inl rfl)
    exact .same rfl rfl rfl trivial .nil
  · obtain rfl : e = 0 := Decidable.not_not.1 he
    rw [layF_ok]
    repeat (first | refine C.seq ?_ | refine C.region ?_ | refine R.zb ttok ?_ | refine R.zu ttok ?_ | refine R.zc ttok ?_ | refine R.za ttok ?_ | refine R.zx ?_ | refine R.zl ttok ?_ | refine R.zs ttok ?_ | refine R.z ttok ?_ | refine R.zk ?_ | refine R.zn ?_ | refine R.done ?_ | refine X.then ?_ | refine C.block ?_ | refine C.ret ?_ | refine C.skip ?_ | refine C.exit ?_ | refine X.pass_ret ?_ | refine X.pass_exit ?_ | refine X.block_normal ?_ | refine X.block_ret ?_ | refine X.block_exit ?_ | refine C.zt ?_ | refine C.zf ?_ | refine X.zo ?_)
    refine R.apn ttok rfl rfl (SrcA.bytes0 rfl) rfl rfl rfl rfl rfl rfl rfl rfl (by omega) fun c1 h1 h2 => ?_
    repeat (first | refine C.seq ?_ | refine C.region ?_ | refine R.zb ttok ?_ | refine R.zu ttok ?_ | refine R.zc ttok ?_ | refine R.za ttok ?_ | refine R.zx ?_ | refine R.zl ttok ?_ | refine R.zs ttok ?_ | refine R.z ttok ?_ | refine R.zk ?_ | refine R.zn ?_ | refine R.done ?_ | refine X.then ?_ | refine C.block ?_ | refine C.ret ?_ | refine C.skip ?_ | refine C.exit ?_ | refine X.pass_ret ?_ | refine X.pass_exit ?_ | refine X.block_normal ?_ | refine X.block_ret ?_ | refine X.block_exit ?_ | refine C.zt ?_ | refine C.zf ?_ | refine X.zo ?_)
    refine R.apb ttok rfl rfl rfl rfl (SrcA.rob0 rfl) rfl rfl rfl rfl rfl rfl rfl rfl rfl h2 (by simp; omega) fun c3 h3 h4 => ?_
    repeat (first | refine C.seq ?_ | refine C.region ?_ | refine R.zb ttok ?_ | refine R.zu ttok ?_ | refine R.zc ttok ?_ | refine R.za ttok ?_ | refine R.zx ?_ | refine R.zl ttok ?_ | refine R.zs ttok ?_ | refine R.z ttok ?_ | refine R.zk ?_ | refine R.zn ?_ | refine R.done ?_ | refine X.then ?_ | refine C.block ?_ | refine C.ret ?_ | refine C.skip ?_ | refine C.exit ?_ | refine X.pass_ret ?_ | refine X.pass_exit ?_ | refine X.block_normal ?_ | refine X.block_ret ?_ | refine X.block_exit ?_ | refine C.zt ?_ | refine C.zf ?_ | refine X.zo ?_)
    refine X.fin ttok c3 [(2, 5)] h4 rfl rfl rfl ?_ _ (.inl rfl)
    exact .same rfl rfl rfl trivial .nil
/-- the same, of what is not seen as bytes of one's own: none -/
theorem rstopped_spec (p : List UInt8) (c : Nat) (e x : Int) (hc : c ≤ 9223372036854775807) :
    Spec Try.prog 58 [refW 0 p c e, .raw (.int .i64 x)] [.bytes p c 5] 1 (σ := Unit) (fun _ => True) (fun _ => refW 0 p c (stopE e x)) (fun _ => [(0, .bytes p c 5)]) := by
  refine Spec.of Try.func58 rfl Try.ntmps58 rfl (by simp [AO.Bd, bytesF, AV.bds, AV.bd]) fun ρ w => ?_
  repeat (first | refine C.seq ?_ | refine C.region ?_ | refine R.zb ttok ?_ | refine R.zu ttok ?_ | refine R.zc ttok ?_ | refine R.za ttok ?_ | refine R.zx ?_ | refine R.zl ttok ?_ | refine R.zs ttok ?_ | refine R.z ttok ?_ | refine R.zk ?_ | refine R.zn ?_ | refine R.done ?_ | refine X.then ?_ | refine C.block ?_ | refine C.ret ?_ | refine C.skip ?_ | refine C.exit ?_ | refine X.pass_ret ?_ | refine X.pass_exit ?_ | refine X.block_normal ?_ | refine X.block_ret ?_ | refine X.block_exit ?_ | refine C.zt ?_ | refine C.zf ?_ | refine X.zo ?_)
  refine C.dec rfl (fun he => ?_) (fun hne => ?_)
  · subst he
    repeat (first | refine C.seq ?_ | refine C.region ?_ | refine R.zb ttok ?_ | refine R.zu ttok ?_ | refine R.zc ttok ?_ | refine R.za ttok ?_ | refine R.zx ?_ | refine R.zl ttok ?_ | refine R.zs ttok ?_ | refine R.z ttok ?_ | refine R.zk ?_ | refine R.zn ?_ | refine R.done ?_ | refine X.then ?_ | refine C.block ?_ | refine C.ret ?_ | refine C.skip ?_ | refine C.exit ?_ | refine X.pass_ret ?_ | refine X.pass_exit ?_ | refine X.block_normal ?_ | refine X.block_ret ?_ | refine X.block_exit ?_ | refine C.zt ?_ | refine C.zf ?_ | refine X.zo ?_)
    refine X.fin ttok () [] trivial rfl rfl rfl ?_ _ (.inl rfl)
    exact .same rfl rfl rfl trivial .nil
  · rw [stopE_no x hne]
    repeat (first | refine C.seq ?_ | refine C.region ?_ | refine R.zb ttok ?_ | refine R.zu ttok ?_ | refine R.zc ttok ?_ | refine R.za ttok ?_ | refine R.zx ?_ | refine R.zl ttok ?_ | refine R.zs ttok ?_ | refine R.z ttok ?_ | refine R.zk ?_ | refine R.zn ?_ | refine R.done ?_ | refine X.then ?_ | refine C.block ?_ | refine C.ret ?_ | refine C.skip ?_ | refine C.exit ?_ | refine X.pass_ret ?_ | refine X.pass_exit ?_ | refine X.block_normal ?_ | refine X.block_ret ?_ | refine X.block_exit ?_ | refine C.zt ?_ | refine C.zf ?_ | refine X.zo ?_)
    refine X.fin ttok () [] trivial rfl rfl rfl ?_ _ (.inl rfl)
    exact .same rfl rfl rfl trivial .nil
theorem rbyte_spec (p : List UInt8) (c : Nat) (e : Int) (b : UInt8) (hc : c ≤ 9223372036854775807) (hp : p.length < 140737488355328) :
    Spec Try.prog 37 [refW 0 p c e, .raw (byteV b)] [.bytes p c 5] 2 (σ := Nat) (fun c => c ≤ 9223372036854775807) (fun c => refW 1 (layF p e [b]) c e) (fun c => [(1, .bytes (layF p e [b]) c 5)]) := by
  refine Spec.of Try.func37 rfl Try.ntmps37 rfl (by simp [AO.Bd, bytesF, AV.bds, AV.bd]) fun ρ w => ?_
  repeat (first | refine C.seq ?_ | refine C.region ?_ | refine R.zb ttok ?_ | refine R.zu ttok ?_ | refine R.zc ttok ?_ | refine R.za ttok ?_ | refine R.zx ?_ | refine R.zl ttok ?_ | refine R.zs ttok ?_ | refine R.z ttok ?_ | refine R.zk ?_ | refine R.zn ?_ | refine R.done ?_ | refine X.then ?_ | refine C.block ?_ | refine C.ret ?_ | refine C.skip ?_ | refine C.exit ?_ | refine X.pass_ret ?_ | refine X.pass_exit ?_ | refine X.block_normal ?_ | refine X.block_ret ?_ | refine X.block_exit ?_ | refine C.zt ?_ | refine C.zf ?_ | refine X.zo ?_)
  refine R.cl [0, 3] (rlaid_spec p [b] c 1 e hc (by simp; omega)) Try.call57 (.same rfl rfl (.cro rfl rfl .nil)) rfl rfl rfl (fun _ => rfl) rfl rfl fun c' hc' => ?_
  repeat (first | refine C.seq ?_ | refine C.region ?_ | refine R.zb ttok ?_ | refine R.zu ttok ?_ | refine R.zc ttok ?_ | refine R.za ttok ?_ | refine R.zx ?_ | refine R.zl ttok ?_ | refine R.zs ttok ?_ | refine R.z ttok ?_ | refine R.zk ?_ | refine R.zn ?_ | refine R.done ?_ | refine X.then ?_ | refine C.block ?_ | refine C.ret ?_ | refine C.skip ?_ | refine C.exit ?_ | refine X.pass_ret ?_ | refine X.pass_exit ?_ | refine X.block_normal ?_ | refine X.block_ret ?_ | refine X.block_exit ?_ | refine C.zt ?_ | refine C.zf ?_ | refine X.zo ?_)
  refine X.fin ttok c' [(1, 4)] hc' rfl rfl rfl ?_ _ (.inl rfl)
  exact .same rfl rfl rfl trivial .nil
theorem rem128 (x : Nat) : (x : Int).tmod 128 = ((x % 128 : Nat) : Int) := by
  rw [Int.tmod_eq_emod_of_nonneg (by omega)]; omega
theorem quo128 (x : Nat) : IntKind.wrap .u64 ((x : Int).tdiv 128) = if x < 18446744073709551616 then ((x / 128 : Nat) : Int) else IntKind.wrap .u64 ((x : Int).tdiv 128) := by
  split
  · rw [Int.tdiv_eq_ediv_of_nonneg (by omega)]
    have : (x : Int) / 128 = ((x / 128 : Nat) : Int) := by omega
    rw [this, wrap_u64 (by omega) (by omega)]
  · rfl
theorem rsevens_spec (u : Nat) (hu : u < 18446744073709551616) : Spec Try.prog 59 [.raw (.int .u64 u)] [] 1 (σ := Nat) (fun c => c ≤ 9223372036854775807) (fun c => .sl 0 1 0 (sevN u).length c) (fun c => [(0, .bytes (sevN u) c 5)]) := by
  refine Spec.of Try.func59 rfl Try.ntmps59 rfl (by simp [AO.Bd, bytesF, AV.bds, AV.bd]) fun ρ w => ?_
  repeat (first | refine C.seq ?_ | refine C.region ?_ | refine R.zb ttok ?_ | refine R.zu ttok ?_ | refine R.zc ttok ?_ | refine R.za ttok ?_ | refine R.zx ?_ | refine R.zl ttok ?_ | refine R.zs ttok ?_ | refine R.z ttok ?_ | refine R.zk ?_ | refine R.zn ?_ | refine R.done ?_ | refine X.then ?_ | refine C.block ?_ | refine C.ret ?_ | refine C.skip ?_ | refine C.exit ?_ | refine X.pass_ret ?_ | refine X.pass_exit ?_ | refine X.block_normal ?_ | refine X.block_ret ?_ | refine X.block_exit ?_ | refine C.zt ?_ | refine C.zf ?_ | refine X.zo ?_)
  refine C.noneT 3 (.sl 0 1 0 0 0) (.bytes [] 0 5) (none_bytes _ _) rfl rfl rfl (fun ρ h => sl_none h) ?_
  refine C.loop (σ := List UInt8 × Nat × Nat) (L2 := 1) (fun s => s.1 ++ sevN s.2.1 = sevN u ∧ s.2.1 < 18446744073709551616 ∧ s.2.2 ≤ 9223372036854775807) (fun s => [(0, .raw (.int .u64 s.2.1)), (3, .sl 0 1 0 s.1.length s.2.2)]) (fun s => [(0, .bytes s.1 s.2.2 5)]) _ (fun s => s.2.1) [] ([], u, 0) ⟨rfl, hu, Nat.zero_le _⟩ rfl
    (.cons rfl rfl rfl (.cons rfl rfl rfl .nil)) (.same rfl rfl rfl trivial .nil) rfl (fun _ h => h) ?_
  rintro ⟨p, x, c⟩ ⟨hp, hx, hc⟩
  dsimp only at hp hx hc ⊢
  have hlen : p.length + (sevN x).length ≤ 10 := by
    have := congrArg List.length hp
    rw [List.length_append] at this
    have := sevN_len10 hu
    omega
  have hpos := sevN_pos x
  repeat (first | refine C.seq ?_ | refine C.region ?_ | refine R.zb ttok ?_ | refine R.zu ttok ?_ | refine R.zc ttok ?_ | refine R.za ttok ?_ | refine R.zx ?_ | refine R.zl ttok ?_ | refine R.zs ttok ?_ | refine R.z ttok ?_ | refine R.zk ?_ | refine R.zn ?_ | refine R.done ?_ | refine X.then ?_ | refine C.block ?_ | refine C.ret ?_ | refine C.skip ?_ | refine C.exit ?_ | refine X.pass_ret ?_ | refine X.pass_exit ?_ | refine X.block_normal ?_ | refine X.block_ret ?_ | refine X.block_exit ?_ | refine C.zt ?_ | refine C.zf ?_ | refine X.zo ?_)
  refine C.dec rfl (fun hge => ?_) (fun hlt => ?_)
  · repeat (first | refine C.seq ?_ | refine C.region ?_ | refine R.zb ttok ?_ | refine R.zu ttok ?_ | refine R.zc ttok ?_ | refine R.za ttok ?_ | refine R.zx ?_ | refine R.zl ttok ?_ | refine R.zs ttok ?_ | refine R.z ttok ?_ | refine R.zk ?_ | refine R.zn ?_ | refine R.done ?_ | refine X.then ?_ | refine C.block ?_ | refine C.ret ?_ | refine C.skip ?_ | refine C.exit ?_ | refine X.pass_ret ?_ | refine X.pass_exit ?_ | refine X.block_normal ?_ | refine X.block_ret ?_ | refine X.block_exit ?_ | refine C.zt ?_ | refine C.zf ?_ | refine X.zo ?_)
    refine R.rem ((x % 128 : Nat) : Int) rfl rfl rfl rfl (by decide) (rem128 x) ?_
    have hm : x % 128 < 128 := Nat.mod_lt _ (by decide)
    repeat (first | refine C.seq ?_ | refine C.region ?_ | refine R.zb ttok ?_ | refine R.zu ttok ?_ | refine R.zc ttok ?_ | refine R.za ttok ?_ | refine R.zx ?_ | refine R.zl ttok ?_ | refine R.zs ttok ?_ | refine R.z ttok ?_ | refine R.zk ?_ | refine R.zn ?_ | refine R.done ?_ | refine X.then ?_ | refine C.block ?_ | refine C.ret ?_ | refine C.skip ?_ | refine C.exit ?_ | refine X.pass_ret ?_ | refine X.pass_exit ?_ | refine X.block_normal ?_ | refine X.block_ret ?_ | refine X.block_exit ?_ | refine C.zt ?_ | refine C.zf ?_ | refine X.zo ?_)
    refine R.apb ttok (q := [UInt8.ofNat (x % 128 + 128)]) rfl rfl rfl rfl (SrcA.cells rfl rfl) (avB_one (by rw [ofNat_toNat (by omega)]; omega)) rfl rfl rfl rfl rfl rfl rfl rfl hc (by simp; omega) fun c' h1 h2 => ?_
    repeat (first | refine C.seq ?_ | refine C.region ?_ | refine R.zb ttok ?_ | refine R.zu ttok ?_ | refine R.zc ttok ?_ | refine R.za ttok ?_ | refine R.zx ?_ | refine R.zl ttok ?_ | refine R.zs ttok ?_ | refine R.z ttok ?_ | refine R.zk ?_ | refine R.zn ?_ | refine R.done ?_ | refine X.then ?_ | refine C.block ?_ | refine C.ret ?_ | refine C.skip ?_ | refine C.exit ?_ | refine X.pass_ret ?_ | refine X.pass_exit ?_ | refine X.block_normal ?_ | refine X.block_ret ?_ | refine X.block_exit ?_ | refine C.zt ?_ | refine C.zf ?_ | refine X.zo ?_)
    refine R.quo ((x / 128 : Nat) : Int) rfl rfl rfl rfl (by decide) ((quo128 x).trans (if_pos hx)) ?_
    repeat (first | refine C.seq ?_ | refine C.region ?_ | refine R.zb ttok ?_ | refine R.zu ttok ?_ | refine R.zc ttok ?_ | refine R.za ttok ?_ | refine R.zx ?_ | refine R.zl ttok ?_ | refine R.zs ttok ?_ | refine R.z ttok ?_ | refine R.zk ?_ | refine R.zn ?_ | refine R.done ?_ | refine X.then ?_ | refine C.block ?_ | refine C.ret ?_ | refine C.skip ?_ | refine C.exit ?_ | refine X.pass_ret ?_ | refine X.pass_exit ?_ | refine X.block_normal ?_ | refine X.block_ret ?_ | refine X.block_exit ?_ | refine C.zt ?_ | refine C.zf ?_ | refine X.zo ?_)
    refine X.back [(0, 2)] (p ++ [UInt8.ofNat (x % 128 + 128)], x / 128, c') ⟨?_, by dsimp only; omega, h2⟩ (by dsimp only; omega) rfl (.cons rfl rfl rfl (.cons rfl rfl rfl .nil)) (.same rfl rfl rfl trivial .nil) rfl (fun _ h => h)
    rw [sevN_ge (by omega)] at hp
    rw [← hp, List.append_assoc]; rfl
  · repeat (first | refine C.seq ?_ | refine C.region ?_ | refine R.zb ttok ?_ | refine R.zu ttok ?_ | refine R.zc ttok ?_ | refine R.za ttok ?_ | refine R.zx ?_ | refine R.zl ttok ?_ | refine R.zs ttok ?_ | refine R.z ttok ?_ | refine R.zk ?_ | refine R.zn ?_ | refine R.done ?_ | refine X.then ?_ | refine C.block ?_ | refine C.ret ?_ | refine C.skip ?_ | refine C.exit ?_ | refine X.pass_ret ?_ | refine X.pass_exit ?_ | refine X.block_normal ?_ | refine X.block_ret ?_ | refine X.block_exit ?_ | refine C.zt ?_ | refine C.zf ?_ | refine X.zo ?_)
    refine R.apb ttok (q := [UInt8.ofNat x]) (r := sevN u) rfl rfl rfl rfl (SrcA.cells rfl rfl) (avB_one (ofNat_toNat (by omega)).symm) (by rw [← hp, sevN_lt (by omega)]) rfl rfl rfl rfl rfl rfl rfl hc (by rw [← hp]; simp; omega) fun c' h1 h2 => ?_
    repeat (first | refine C.seq ?_ | refine C.region ?_ | refine R.zb ttok ?_ | refine R.zu ttok ?_ | refine R.zc ttok ?_ | refine R.za ttok ?_ | refine R.zx ?_ | refine R.zl ttok ?_ | refine R.zs ttok ?_ | refine R.z ttok ?_ | refine R.zk ?_ | refine R.zn ?_ | refine R.done ?_ | refine X.then ?_ | refine C.block ?_ | refine C.ret ?_ | refine C.skip ?_ | refine C.exit ?_ | refine X.pass_ret ?_ | refine X.pass_exit ?_ | refine X.block_normal ?_ | refine X.block_ret ?_ | refine X.block_exit ?_ | refine C.zt ?_ | refine C.zf ?_ | refine X.zo ?_)
    refine X.fin ttok c' [(0, 2)] h2 rfl rfl rfl ?_ _ (.inl rfl)
    exact .same rfl rfl rfl trivial .nil
end Go.Proofs.Ytchbncbojfiiiaa
