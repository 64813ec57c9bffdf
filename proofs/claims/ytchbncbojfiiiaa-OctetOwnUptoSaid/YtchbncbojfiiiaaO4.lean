/- octet: the document's Text; the Writer -/
import Derived.Test.YtchbncbojfiiiaaO3
namespace Go.Proofs.Ytchbncbojfiiiaa
set_option linter.unusedVariables false
set_option linter.unusedSimpArgs false
open Go.RowKit
set_option maxRecDepth 100000
theorem numP_nat (p : List UInt8) (e : Int) (k : Nat) : numP p e k = layF p e (sevN k) := by
  unfold numP; rw [if_neg (by omega), Int.toNat_natCast]
theorem numE_nat (e : Int) (k : Nat) : numE e k = e := by unfold numE; rw [if_neg (by omega)]
def textP (p : List UInt8) (e : Int) (s : ByteArray) : List UInt8 := layF p e (sevN s.size ++ strB s)
theorem rtext_spec (p : List UInt8) (c : Nat) (e : Int) (s : ByteArray) (hc : c ≤ 9223372036854775807) (hp : p.length ≤ 10000000000000) (hs : s.size ≤ 10000000000000) :
    Spec Try.prog 41 [refW 0 p c e, .raw (.string s)] [.bytes p c 5] 2 (σ := Nat) (fun c => c ≤ 9223372036854775807) (fun c => refW 1 (textP p e s) c e) (fun c => [(1, .bytes (textP p e s) c 5)]) := by
  refine Spec.of Try.func41 rfl Try.ntmps41 rfl (by simp [AO.Bd, bytesF, AV.bds, AV.bd]) fun ρ w => ?_
  have hsz := strB_size s
  repeat (first | refine C.seq ?_ | refine C.region ?_ | refine R.zb ttok ?_ | refine R.zu ttok ?_ | refine R.zc ttok ?_ | refine R.za ttok ?_ | refine R.zx ?_ | refine R.zl ttok ?_ | refine R.zs ttok ?_ | refine R.z ttok ?_ | refine R.zk ?_ | refine R.zn ?_ | refine R.done ?_ | refine X.then ?_ | refine C.block ?_ | refine C.ret ?_ | refine C.skip ?_ | refine C.exit ?_ | refine X.pass_ret ?_ | refine X.pass_exit ?_ | refine X.block_normal ?_ | refine X.block_ret ?_ | refine X.block_exit ?_ | refine C.zt ?_ | refine C.zf ?_ | refine X.zo ?_)
  refine C.noneT 5 (.sl 3 1 0 0 0) (.bytes [] 0 5) (none_bytes _ _) rfl rfl rfl (fun ρ h => sl_none h) ?_
  refine C.loop (σ := Nat × Nat) (L2 := 4) (fun x => x.1 ≤ s.size ∧ x.2 ≤ 9223372036854775807)
    (fun x => [(1, .raw (.string s)), (2, .ptr 1 0 0 0), (4, .ptr 2 0 0 0), (5, .sl 3 1 0 ((strB s).take x.1).length x.2), (6, .raw (.int .i64 x.1))])
    (fun x => [(0, .bytes p c 5), (1, .cells [.sl 0 1 0 p.length c, .raw (.int .i64 e)] 31), (2, .cells [.raw (.slice none 0 0), .raw (.int .i64 0)] 31), (3, .bytes ((strB s).take x.1) x.2 5)]) _ (fun x => s.size - x.1) [] (0, 0) ⟨Nat.zero_le _, Nat.zero_le _⟩ rfl
    (.cons rfl rfl rfl (.cons rfl rfl rfl (.cons rfl rfl rfl (.cons rfl rfl rfl (.cons rfl rfl rfl .nil))))) (.same rfl rfl rfl trivial (.same rfl rfl rfl rfl (.same rfl rfl rfl rfl (.same rfl rfl rfl trivial .nil)))) rfl (fun _ h => h) ?_
  rintro ⟨i, c2⟩ ⟨hi, hc2⟩
  dsimp only at hi hc2 ⊢
  repeat (first | refine C.seq ?_ | refine C.region ?_ | refine R.zb ttok ?_ | refine R.zu ttok ?_ | refine R.zc ttok ?_ | refine R.za ttok ?_ | refine R.zx ?_ | refine R.zl ttok ?_ | refine R.zs ttok ?_ | refine R.z ttok ?_ | refine R.zk ?_ | refine R.zn ?_ | refine R.done ?_ | refine X.then ?_ | refine C.block ?_ | refine C.ret ?_ | refine C.skip ?_ | refine C.exit ?_ | refine X.pass_ret ?_ | refine X.pass_exit ?_ | refine X.block_normal ?_ | refine X.block_ret ?_ | refine X.block_exit ?_ | refine C.zt ?_ | refine C.zf ?_ | refine X.zo ?_)
  refine C.dec rfl (fun hlt => ?_) (fun hge => ?_)
  · have hlt : i < s.size := by omega
    repeat (first | refine C.seq ?_ | refine C.region ?_ | refine R.zb ttok ?_ | refine R.zu ttok ?_ | refine R.zc ttok ?_ | refine R.za ttok ?_ | refine R.zx ?_ | refine R.zl ttok ?_ | refine R.zs ttok ?_ | refine R.z ttok ?_ | refine R.zk ?_ | refine R.zn ?_ | refine R.done ?_ | refine X.then ?_ | refine C.block ?_ | refine C.ret ?_ | refine C.skip ?_ | refine C.exit ?_ | refine X.pass_ret ?_ | refine X.pass_exit ?_ | refine X.block_normal ?_ | refine X.block_ret ?_ | refine X.block_exit ?_ | refine C.zt ?_ | refine C.zf ?_ | refine X.zo ?_)
    refine R.sx ttok i rfl rfl rfl rfl rfl rfl (by show i < (strB s).length; omega) ?_
    repeat (first | refine C.seq ?_ | refine C.region ?_ | refine R.zb ttok ?_ | refine R.zu ttok ?_ | refine R.zc ttok ?_ | refine R.za ttok ?_ | refine R.zx ?_ | refine R.zl ttok ?_ | refine R.zs ttok ?_ | refine R.z ttok ?_ | refine R.zk ?_ | refine R.zn ?_ | refine R.done ?_ | refine X.then ?_ | refine C.block ?_ | refine C.ret ?_ | refine C.skip ?_ | refine C.exit ?_ | refine X.pass_ret ?_ | refine X.pass_exit ?_ | refine X.block_normal ?_ | refine X.block_ret ?_ | refine X.block_exit ?_ | refine C.zt ?_ | refine C.zf ?_ | refine X.zo ?_)
    refine R.apb ttok (q := [(strB s).getD i 0]) (r := (strB s).take (i + 1)) rfl rfl rfl rfl (SrcA.cells rfl rfl) rfl ?_ rfl rfl rfl rfl rfl rfl rfl hc2 (by rw [List.length_take]; omega) fun c' h1 h2 => ?_
    · rw [List.take_add_one, List.getElem?_eq_getElem (by omega)]
      simp [List.getD, show i < (strB s).length by omega]
    repeat (first | refine C.seq ?_ | refine C.region ?_ | refine R.zb ttok ?_ | refine R.zu ttok ?_ | refine R.zc ttok ?_ | refine R.za ttok ?_ | refine R.zx ?_ | refine R.zl ttok ?_ | refine R.zs ttok ?_ | refine R.z ttok ?_ | refine R.zk ?_ | refine R.zn ?_ | refine R.done ?_ | refine X.then ?_ | refine C.block ?_ | refine C.ret ?_ | refine C.skip ?_ | refine C.exit ?_ | refine X.pass_ret ?_ | refine X.pass_exit ?_ | refine X.block_normal ?_ | refine X.block_ret ?_ | refine X.block_exit ?_ | refine C.zt ?_ | refine C.zf ?_ | refine X.zo ?_)
    refine X.back [(3, 5)] (i + 1, c') ⟨by dsimp only; omega, h2⟩ (by dsimp only; omega) rfl ?_ ?_ rfl (fun _ h => h)
    · exact .cons rfl rfl rfl (.cons rfl rfl rfl (.cons rfl rfl rfl (.cons rfl rfl rfl (.cons rfl rfl rfl .nil))))
    · exact .same rfl rfl rfl trivial (.same rfl rfl rfl rfl (.same rfl rfl rfl rfl (.same rfl rfl rfl trivial .nil)))
  · have hge : i = s.size := by omega
    subst hge
    have ht : (strB s).take s.size = strB s := by rw [← hsz]; exact List.take_length
    rw [ht]
    have hl := sevN_len10 (u := s.size) (by omega)
    have hnl := layF_len p (sevN s.size) e
    repeat (first | refine C.seq ?_ | refine C.region ?_ | refine R.zb ttok ?_ | refine R.zu ttok ?_ | refine R.zc ttok ?_ | refine R.za ttok ?_ | refine R.zx ?_ | refine R.zl ttok ?_ | refine R.zs ttok ?_ | refine R.z ttok ?_ | refine R.zk ?_ | refine R.zn ?_ | refine R.done ?_ | refine X.then ?_ | refine C.block ?_ | refine C.ret ?_ | refine C.skip ?_ | refine C.exit ?_ | refine X.pass_ret ?_ | refine X.pass_exit ?_ | refine X.block_normal ?_ | refine X.block_ret ?_ | refine X.block_exit ?_ | refine C.zt ?_ | refine C.zf ?_ | refine X.zo ?_)
    refine R.cl [0] (rnumber_spec p c e s.size hc (by omega) (by omega)) Try.call39 (.same rfl rfl .nil) rfl rfl rfl (fun _ => rfl) rfl rfl fun c3 hc3 => ?_
    rw [numP_nat, numE_nat]
    repeat (first | refine C.seq ?_ | refine C.region ?_ | refine R.zb ttok ?_ | refine R.zu ttok ?_ | refine R.zc ttok ?_ | refine R.za ttok ?_ | refine R.zx ?_ | refine R.zl ttok ?_ | refine R.zs ttok ?_ | refine R.z ttok ?_ | refine R.zk ?_ | refine R.zn ?_ | refine R.done ?_ | refine X.then ?_ | refine C.block ?_ | refine C.ret ?_ | refine C.skip ?_ | refine C.exit ?_ | refine X.pass_ret ?_ | refine X.pass_exit ?_ | refine X.block_normal ?_ | refine X.block_ret ?_ | refine X.block_exit ?_ | refine C.zt ?_ | refine C.zf ?_ | refine X.zo ?_)
    refine R.cl [4, 3] (rlaid_spec _ (strB s) c3 c2 e hc3 (by omega)) Try.call57 (.same rfl rfl (.bro rfl .nil)) rfl rfl rfl (fun _ => rfl) rfl rfl fun c' hc' => ?_
    rw [layF_two]
    repeat (first | refine C.seq ?_ | refine C.region ?_ | refine R.zb ttok ?_ | refine R.zu ttok ?_ | refine R.zc ttok ?_ | refine R.za ttok ?_ | refine R.zx ?_ | refine R.zl ttok ?_ | refine R.zs ttok ?_ | refine R.z ttok ?_ | refine R.zk ?_ | refine R.zn ?_ | refine R.done ?_ | refine X.then ?_ | refine C.block ?_ | refine C.ret ?_ | refine C.skip ?_ | refine C.exit ?_ | refine X.pass_ret ?_ | refine X.pass_exit ?_ | refine X.block_normal ?_ | refine X.block_ret ?_ | refine X.block_exit ?_ | refine C.zt ?_ | refine C.zf ?_ | refine X.zo ?_)
    refine X.fin ttok c' [(1, 5)] hc' rfl rfl rfl ?_ _ (.inl rfl)
    exact .same rfl rfl rfl trivial .nil

/-! the Writer -/
abbrev wrO (l : Nat) (p : List UInt8) (c : Nat) (e : Int) : AO := .cells [.sl l 1 0 p.length c, .raw (.int .i64 e)] 29
theorem wlay_spec (p q : List UInt8) (c c2 : Nat) (e : Int) (hc : c ≤ 9223372036854775807) (hpq : p.length + q.length ≤ 140737488355328) :
    Spec Try.prog 51 [.ptr 0 0 0 0, .sl 2 1 0 q.length c2] [wrO 1 p c e, .bytes p c 5, .ro 1 0 q.length (bytesF q)] 4 (σ := Nat) (fun c => c ≤ 9223372036854775807) (fun c => .tup []) (fun c => [(0, wrO 3 (layF p e q) c e), (3, .bytes (layF p e q) c 5)]) := by
  refine Spec.of Try.func51 rfl Try.ntmps51 rfl (by simp [AO.Bd, bytesF, AV.bds, AV.bd]) fun ρ w => ?_
  repeat (first | refine C.seq ?_ | refine C.region ?_ | refine R.zb ttok ?_ | refine R.zu ttok ?_ | refine R.zc ttok ?_ | refine R.za ttok ?_ | refine R.zx ?_ | refine R.zl ttok ?_ | refine R.zs ttok ?_ | refine R.z ttok ?_ | refine R.zk ?_ | refine R.zn ?_ | refine R.done ?_ | refine X.then ?_ | refine C.block ?_ | refine C.ret ?_ | refine C.skip ?_ | refine C.exit ?_ | refine X.pass_ret ?_ | refine X.pass_exit ?_ | refine X.block_normal ?_ | refine X.block_ret ?_ | refine X.block_exit ?_ | refine C.zt ?_ | refine C.zf ?_ | refine X.zo ?_)
  refine C.dec rfl (fun he => ?_) (fun hne => ?_)
  · subst he
    rw [layF_ok]
    repeat (first | refine C.seq ?_ | refine C.region ?_ | refine R.zb ttok ?_ | refine R.zu ttok ?_ | refine R.zc ttok ?_ | refine R.za ttok ?_ | refine R.zx ?_ | refine R.zl ttok ?_ | refine R.zs ttok ?_ | refine R.z ttok ?_ | refine R.zk ?_ | refine R.zn ?_ | refine R.done ?_ | refine X.then ?_ | refine C.block ?_ | refine C.ret ?_ | refine C.skip ?_ | refine C.exit ?_ | refine X.pass_ret ?_ | refine X.pass_exit ?_ | refine X.block_normal ?_ | refine X.block_ret ?_ | refine X.block_exit ?_ | refine C.zt ?_ | refine C.zf ?_ | refine X.zo ?_)
    refine R.apb ttok rfl rfl rfl rfl (SrcA.rob0 rfl) rfl rfl rfl rfl rfl rfl rfl rfl rfl hc (by simp; omega) fun c3 h3 h4 => ?_
    repeat (first | refine C.seq ?_ | refine C.region ?_ | refine R.zb ttok ?_ | refine R.zu ttok ?_ | refine R.zc ttok ?_ | refine R.za ttok ?_ | refine R.zx ?_ | refine R.zl ttok ?_ | refine R.zs ttok ?_ | refine R.z ttok ?_ | refine R.zk ?_ | refine R.zn ?_ | refine R.done ?_ | refine X.then ?_ | refine C.block ?_ | refine C.ret ?_ | refine C.skip ?_ | refine C.exit ?_ | refine X.pass_ret ?_ | refine X.pass_exit ?_ | refine X.block_normal ?_ | refine X.block_ret ?_ | refine X.block_exit ?_ | refine C.zt ?_ | refine C.zf ?_ | refine X.zo ?_)
    refine X.fin ttok c3 [(3, 3)] h4 rfl rfl rfl ?_ _ (.inr rfl)
    exact .same rfl rfl rfl rfl (.same rfl rfl rfl trivial .nil)
  · rw [layF_no hne]
    repeat (first | refine C.seq ?_ | refine C.region ?_ | refine R.zb ttok ?_ | refine R.zu ttok ?_ | refine R.zc ttok ?_ | refine R.za ttok ?_ | refine R.zx ?_ | refine R.zl ttok ?_ | refine R.zs ttok ?_ | refine R.z ttok ?_ | refine R.zk ?_ | refine R.zn ?_ | refine R.done ?_ | refine X.then ?_ | refine C.block ?_ | refine C.ret ?_ | refine C.skip ?_ | refine C.exit ?_ | refine X.pass_ret ?_ | refine X.pass_exit ?_ | refine X.block_normal ?_ | refine X.block_ret ?_ | refine X.block_exit ?_ | refine C.zt ?_ | refine C.zf ?_ | refine X.zo ?_)
    refine X.fin ttok c [(3, 1)] hc rfl rfl rfl ?_ _ (.inr rfl)
    exact .same rfl rfl rfl rfl (.same rfl rfl rfl trivial .nil)
theorem wstop_spec (p : List UInt8) (c : Nat) (e x : Int) :
    Spec Try.prog 50 [.ptr 0 0 0 0, .raw (.int .i64 x)] [wrO 1 p c e, .bytes p c 5] 2 (σ := Unit) (fun _ => True) (fun _ => .tup []) (fun _ => [(0, wrO 1 p c (stopE e x)), (1, .bytes p c 5)]) := by
  refine Spec.of Try.func50 rfl Try.ntmps50 rfl (by simp [AO.Bd, bytesF, AV.bds, AV.bd]) fun ρ w => ?_
  repeat (first | refine C.seq ?_ | refine C.region ?_ | refine R.zb ttok ?_ | refine R.zu ttok ?_ | refine R.zc ttok ?_ | refine R.za ttok ?_ | refine R.zx ?_ | refine R.zl ttok ?_ | refine R.zs ttok ?_ | refine R.z ttok ?_ | refine R.zk ?_ | refine R.zn ?_ | refine R.done ?_ | refine X.then ?_ | refine C.block ?_ | refine C.ret ?_ | refine C.skip ?_ | refine C.exit ?_ | refine X.pass_ret ?_ | refine X.pass_exit ?_ | refine X.block_normal ?_ | refine X.block_ret ?_ | refine X.block_exit ?_ | refine C.zt ?_ | refine C.zf ?_ | refine X.zo ?_)
  refine C.dec rfl (fun he => ?_) (fun hne => ?_)
  · subst he
    repeat (first | refine C.seq ?_ | refine C.region ?_ | refine R.zb ttok ?_ | refine R.zu ttok ?_ | refine R.zc ttok ?_ | refine R.za ttok ?_ | refine R.zx ?_ | refine R.zl ttok ?_ | refine R.zs ttok ?_ | refine R.z ttok ?_ | refine R.zk ?_ | refine R.zn ?_ | refine R.done ?_ | refine X.then ?_ | refine C.block ?_ | refine C.ret ?_ | refine C.skip ?_ | refine C.exit ?_ | refine X.pass_ret ?_ | refine X.pass_exit ?_ | refine X.block_normal ?_ | refine X.block_ret ?_ | refine X.block_exit ?_ | refine C.zt ?_ | refine C.zf ?_ | refine X.zo ?_)
    refine X.fin ttok () [] trivial rfl rfl rfl ?_ _ (.inr rfl)
    exact .same rfl rfl rfl rfl (.same rfl rfl rfl trivial .nil)
  · rw [stopE_no x hne]
    repeat (first | refine C.seq ?_ | refine C.region ?_ | refine R.zb ttok ?_ | refine R.zu ttok ?_ | refine R.zc ttok ?_ | refine R.za ttok ?_ | refine R.zx ?_ | refine R.zl ttok ?_ | refine R.zs ttok ?_ | refine R.z ttok ?_ | refine R.zk ?_ | refine R.zn ?_ | refine R.done ?_ | refine X.then ?_ | refine C.block ?_ | refine C.ret ?_ | refine C.skip ?_ | refine C.exit ?_ | refine X.pass_ret ?_ | refine X.pass_exit ?_ | refine X.block_normal ?_ | refine X.block_ret ?_ | refine X.block_exit ?_ | refine C.zt ?_ | refine C.zf ?_ | refine X.zo ?_)
    refine X.fin ttok () [] trivial rfl rfl rfl ?_ _ (.inr rfl)
    exact .same rfl rfl rfl rfl (.same rfl rfl rfl trivial .nil)
theorem wbyte_spec (p : List UInt8) (c : Nat) (e : Int) (b : UInt8) (hc : c ≤ 9223372036854775807) (hp : p.length < 140737488355328) :
    Spec Try.prog 31 [.ptr 0 0 0 0, .raw (byteV b)] [wrO 1 p c e, .bytes p c 5] 3 (σ := Nat) (fun c => c ≤ 9223372036854775807) (fun c => .tup []) (fun c => [(0, wrO 2 (layF p e [b]) c e), (2, .bytes (layF p e [b]) c 5)]) := by
  refine Spec.of Try.func31 rfl Try.ntmps31 rfl (by simp [AO.Bd, bytesF, AV.bds, AV.bd]) fun ρ w => ?_
  repeat (first | refine C.seq ?_ | refine C.region ?_ | refine R.zb ttok ?_ | refine R.zu ttok ?_ | refine R.zc ttok ?_ | refine R.za ttok ?_ | refine R.zx ?_ | refine R.zl ttok ?_ | refine R.zs ttok ?_ | refine R.z ttok ?_ | refine R.zk ?_ | refine R.zn ?_ | refine R.done ?_ | refine X.then ?_ | refine C.block ?_ | refine C.ret ?_ | refine C.skip ?_ | refine C.exit ?_ | refine X.pass_ret ?_ | refine X.pass_exit ?_ | refine X.block_normal ?_ | refine X.block_ret ?_ | refine X.block_exit ?_ | refine C.zt ?_ | refine C.zf ?_ | refine X.zo ?_)
  refine R.cl [0, 1, 2] (wlay_spec p [b] c 1 e hc (by simp; omega)) Try.call51 (.same rfl rfl (.same rfl rfl (.cro rfl rfl .nil))) rfl rfl rfl (fun _ => rfl) rfl rfl fun c' hc' => ?_
  repeat (first | refine C.seq ?_ | refine C.region ?_ | refine R.zb ttok ?_ | refine R.zu ttok ?_ | refine R.zc ttok ?_ | refine R.za ttok ?_ | refine R.zx ?_ | refine R.zl ttok ?_ | refine R.zs ttok ?_ | refine R.z ttok ?_ | refine R.zk ?_ | refine R.zn ?_ | refine R.done ?_ | refine X.then ?_ | refine C.block ?_ | refine C.ret ?_ | refine C.skip ?_ | refine C.exit ?_ | refine X.pass_ret ?_ | refine X.pass_exit ?_ | refine X.block_normal ?_ | refine X.block_ret ?_ | refine X.block_exit ?_ | refine C.zt ?_ | refine C.zf ?_ | refine X.zo ?_)
  refine X.fin ttok c' [(2, 3)] hc' rfl rfl rfl ?_ _ (.inr rfl)
  exact .same rfl rfl rfl rfl (.same rfl rfl rfl trivial .nil)
theorem wnumber_spec (p : List UInt8) (c : Nat) (e v : Int) (hc : c ≤ 9223372036854775807) (hp : p.length ≤ 100000000000000) (hv : v ≤ 9223372036854775807) :
    Spec Try.prog 27 [.ptr 0 0 0 0, .raw (.int .i64 v)] [wrO 1 p c e, .bytes p c 5] 3 (σ := Nat) (fun c => c ≤ 9223372036854775807) (fun c => .tup []) (fun c => [(0, wrO 2 (numP p e v) c (numE e v)), (2, .bytes (numP p e v) c 5)]) := by
  refine Spec.of Try.func27 rfl Try.ntmps27 rfl (by simp [AO.Bd, bytesF, AV.bds, AV.bd]) fun ρ w => ?_
  repeat (first | refine C.seq ?_ | refine C.region ?_ | refine R.zb ttok ?_ | refine R.zu ttok ?_ | refine R.zc ttok ?_ | refine R.za ttok ?_ | refine R.zx ?_ | refine R.zl ttok ?_ | refine R.zs ttok ?_ | refine R.z ttok ?_ | refine R.zk ?_ | refine R.zn ?_ | refine R.done ?_ | refine X.then ?_ | refine C.block ?_ | refine C.ret ?_ | refine C.skip ?_ | refine C.exit ?_ | refine X.pass_ret ?_ | refine X.pass_exit ?_ | refine X.block_normal ?_ | refine X.block_ret ?_ | refine X.block_exit ?_ | refine C.zt ?_ | refine C.zf ?_ | refine X.zo ?_)
  refine C.dec rfl (fun hlt => ?_) (fun hge => ?_)
  · rw [show numP p e v = p from if_pos hlt, show numE e v = stopE e 15 from if_pos hlt]
    repeat (first | refine C.seq ?_ | refine C.region ?_ | refine R.zb ttok ?_ | refine R.zu ttok ?_ | refine R.zc ttok ?_ | refine R.za ttok ?_ | refine R.zx ?_ | refine R.zl ttok ?_ | refine R.zs ttok ?_ | refine R.z ttok ?_ | refine R.zk ?_ | refine R.zn ?_ | refine R.done ?_ | refine X.then ?_ | refine C.block ?_ | refine C.ret ?_ | refine C.skip ?_ | refine C.exit ?_ | refine X.pass_ret ?_ | refine X.pass_exit ?_ | refine X.block_normal ?_ | refine X.block_ret ?_ | refine X.block_exit ?_ | refine C.zt ?_ | refine C.zf ?_ | refine X.zo ?_)
    refine R.cl [0, 1] (wstop_spec p c e 15) Try.call50 (.same rfl rfl (.same rfl rfl .nil)) rfl rfl rfl (fun _ => rfl) rfl rfl fun _ _ => ?_
    repeat (first | refine C.seq ?_ | refine C.region ?_ | refine R.zb ttok ?_ | refine R.zu ttok ?_ | refine R.zc ttok ?_ | refine R.za ttok ?_ | refine R.zx ?_ | refine R.zl ttok ?_ | refine R.zs ttok ?_ | refine R.z ttok ?_ | refine R.zk ?_ | refine R.zn ?_ | refine R.done ?_ | refine X.then ?_ | refine C.block ?_ | refine C.ret ?_ | refine C.skip ?_ | refine C.exit ?_ | refine X.pass_ret ?_ | refine X.pass_exit ?_ | refine X.block_normal ?_ | refine X.block_ret ?_ | refine X.block_exit ?_ | refine C.zt ?_ | refine C.zf ?_ | refine X.zo ?_)
    refine X.fin ttok c [(2, 1)] hc rfl rfl rfl ?_ _ (.inl rfl)
    exact .same rfl rfl rfl rfl (.same rfl rfl rfl trivial .nil)
  · rw [show numP p e v = layF p e (sevN v.toNat) from if_neg hge, show numE e v = e from if_neg hge]
    obtain ⟨u, rfl⟩ : ∃ u : Nat, v = u := ⟨v.toNat, by omega⟩
    rw [Int.toNat_natCast]
    have hu : u < 18446744073709551616 := by omega
    have hl := sevN_len10 hu
    repeat (first | refine C.seq ?_ | refine C.region ?_ | refine R.zb ttok ?_ | refine R.zu ttok ?_ | refine R.zc ttok ?_ | refine R.za ttok ?_ | refine R.zx ?_ | refine R.zl ttok ?_ | refine R.zs ttok ?_ | refine R.z ttok ?_ | refine R.zk ?_ | refine R.zn ?_ | refine R.done ?_ | refine X.then ?_ | refine C.block ?_ | refine C.ret ?_ | refine C.skip ?_ | refine C.exit ?_ | refine X.pass_ret ?_ | refine X.pass_exit ?_ | refine X.block_normal ?_ | refine X.block_ret ?_ | refine X.block_exit ?_ | refine C.zt ?_ | refine C.zf ?_ | refine X.zo ?_)
    refine R.cl [] (sevens_spec u hu) Try.call52 .nil rfl rfl rfl (fun _ => rfl) rfl rfl fun c1 hc1 => ?_
    refine R.cl [0, 1, 2] (wlay_spec p (sevN u) c c1 e hc (by omega)) Try.call51 (.same rfl rfl (.same rfl rfl (.bro rfl .nil))) rfl rfl rfl (fun _ => rfl) rfl rfl fun c' hc' => ?_
    repeat (first | refine C.seq ?_ | refine C.region ?_ | refine R.zb ttok ?_ | refine R.zu ttok ?_ | refine R.zc ttok ?_ | refine R.za ttok ?_ | refine R.zx ?_ | refine R.zl ttok ?_ | refine R.zs ttok ?_ | refine R.z ttok ?_ | refine R.zk ?_ | refine R.zn ?_ | refine R.done ?_ | refine X.then ?_ | refine C.block ?_ | refine C.ret ?_ | refine C.skip ?_ | refine C.exit ?_ | refine X.pass_ret ?_ | refine X.pass_exit ?_ | refine X.block_normal ?_ | refine X.block_ret ?_ | refine X.block_exit ?_ | refine C.zt ?_ | refine C.zf ?_ | refine X.zo ?_)
    refine X.fin ttok c' [(2, 3)] hc' rfl rfl rfl ?_ _ (.inr rfl)
    exact .same rfl rfl rfl rfl (.same rfl rfl rfl trivial .nil)
end Go.Proofs.Ytchbncbojfiiiaa
