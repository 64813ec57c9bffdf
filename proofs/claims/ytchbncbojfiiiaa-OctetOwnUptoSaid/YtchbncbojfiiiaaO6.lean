/- octet: the Writer, Text, Data, Err -/
import Derived.Test.YtchbncbojfiiiaaO5
namespace Go.Proofs.Ytchbncbojfiiiaa
set_option linter.unusedVariables false
set_option linter.unusedSimpArgs false
open Go.RowKit
set_option maxRecDepth 100000
abbrev boxP (l : Nat) : AO := .cells [.ptr l 0 0 0] 25
abbrev boxS (s : ByteArray) : AO := .cells [.raw (.string s)] 9
theorem wtext1_spec (p : List UInt8) (c : Nat) (e : Int) (s : ByteArray) (hc : c ≤ 9223372036854775807) (hp : p.length ≤ 100000000000000) (hs : s.size ≤ 10000000000000) :
    Spec Try.prog 53 [.ptr 2 0 0 0, .ptr 3 0 0 0] [wrO 1 p c e, .bytes p c 5, boxP 0, boxS s] 5 (σ := Nat) (fun c => c ≤ 9223372036854775807) (fun c => .tup []) (fun c => [(0, wrO 4 (layF p e (sevN s.size)) c e), (4, .bytes (layF p e (sevN s.size)) c 5), (2, boxP 0), (3, boxS s)]) := by
  refine Spec.of Try.func53 rfl Try.ntmps53 rfl (by simp [AO.Bd, bytesF, AV.bds, AV.bd]) fun ρ w => ?_
  repeat (first | refine C.seq ?_ | refine C.region ?_ | refine R.zb ttok ?_ | refine R.zu ttok ?_ | refine R.zc ttok ?_ | refine R.za ttok ?_ | refine R.zx ?_ | refine R.zl ttok ?_ | refine R.zs ttok ?_ | refine R.z ttok ?_ | refine R.zk ?_ | refine R.zn ?_ | refine R.done ?_ | refine X.then ?_ | refine C.block ?_ | refine C.ret ?_ | refine C.skip ?_ | refine C.exit ?_ | refine X.pass_ret ?_ | refine X.pass_exit ?_ | refine X.block_normal ?_ | refine X.block_ret ?_ | refine X.block_exit ?_ | refine C.zt ?_ | refine C.zf ?_ | refine X.zo ?_)
  refine R.cl [0, 1] (wnumber_spec p c e s.size hc hp (by omega)) Try.call27 (.same rfl rfl (.same rfl rfl .nil)) rfl rfl rfl (fun _ => rfl) rfl rfl fun c' hc' => ?_
  rw [numP_nat, numE_nat]
  repeat (first | refine C.seq ?_ | refine C.region ?_ | refine R.zb ttok ?_ | refine R.zu ttok ?_ | refine R.zc ttok ?_ | refine R.za ttok ?_ | refine R.zx ?_ | refine R.zl ttok ?_ | refine R.zs ttok ?_ | refine R.z ttok ?_ | refine R.zk ?_ | refine R.zn ?_ | refine R.done ?_ | refine X.then ?_ | refine C.block ?_ | refine C.ret ?_ | refine C.skip ?_ | refine C.exit ?_ | refine X.pass_ret ?_ | refine X.pass_exit ?_ | refine X.block_normal ?_ | refine X.block_ret ?_ | refine X.block_exit ?_ | refine C.zt ?_ | refine C.zf ?_ | refine X.zo ?_)
  refine X.fin ttok c' [] hc' rfl rfl rfl ?_ _ (.inr rfl)
  exact .same rfl rfl rfl rfl (.same rfl rfl rfl trivial (.same rfl rfl rfl rfl (.same rfl rfl rfl rfl .nil)))
theorem wtext2_spec (p : List UInt8) (c : Nat) (e : Int) (s : ByteArray) (hc : c ≤ 9223372036854775807) (hp : p.length ≤ 100000000000000) (hs : s.size ≤ 10000000000000) :
    Spec Try.prog 54 [.ptr 2 0 0 0, .ptr 3 0 0 0] [wrO 1 p c e, .bytes p c 5, boxP 0, boxS s] 5 (σ := Nat) (fun c => c ≤ 9223372036854775807) (fun c => .tup []) (fun c => [(0, wrO 4 (layF p e (strB s)) c e), (4, .bytes (layF p e (strB s)) c 5), (2, boxP 0), (3, boxS s)]) := by
  refine Spec.of Try.func54 rfl Try.ntmps54 rfl (by simp [AO.Bd, bytesF, AV.bds, AV.bd]) fun ρ w => ?_
  have hsz := strB_size s
  repeat (first | refine C.seq ?_ | refine C.region ?_ | refine R.zb ttok ?_ | refine R.zu ttok ?_ | refine R.zc ttok ?_ | refine R.za ttok ?_ | refine R.zx ?_ | refine R.zl ttok ?_ | refine R.zs ttok ?_ | refine R.z ttok ?_ | refine R.zk ?_ | refine R.zn ?_ | refine R.done ?_ | refine X.then ?_ | refine C.block ?_ | refine C.ret ?_ | refine C.skip ?_ | refine C.exit ?_ | refine X.pass_ret ?_ | refine X.pass_exit ?_ | refine X.block_normal ?_ | refine X.block_ret ?_ | refine X.block_exit ?_ | refine C.zt ?_ | refine C.zf ?_ | refine X.zo ?_)
  refine R.s2b ttok rfl rfl rfl rfl rfl rfl rfl rfl rfl fun c1 => ?_
  refine R.cl [0, 1, 4] (wlay_spec p (strB s) c c1 e hc (by omega)) Try.call51 (.same rfl rfl (.same rfl rfl (.ror rfl .nil))) rfl rfl rfl (fun _ => rfl) rfl rfl fun c' hc' => ?_
  repeat (first | refine C.seq ?_ | refine C.region ?_ | refine R.zb ttok ?_ | refine R.zu ttok ?_ | refine R.zc ttok ?_ | refine R.za ttok ?_ | refine R.zx ?_ | refine R.zl ttok ?_ | refine R.zs ttok ?_ | refine R.z ttok ?_ | refine R.zk ?_ | refine R.zn ?_ | refine R.done ?_ | refine X.then ?_ | refine C.block ?_ | refine C.ret ?_ | refine C.skip ?_ | refine C.exit ?_ | refine X.pass_ret ?_ | refine X.pass_exit ?_ | refine X.block_normal ?_ | refine X.block_ret ?_ | refine X.block_exit ?_ | refine C.zt ?_ | refine C.zf ?_ | refine X.zo ?_)
  refine X.fin ttok c' [(4, 5)] hc' rfl rfl rfl ?_ _ (.inr rfl)
  exact .same rfl rfl rfl rfl (.same rfl rfl rfl trivial (.same rfl rfl rfl rfl (.same rfl rfl rfl rfl .nil)))
theorem wtext_spec (p : List UInt8) (c : Nat) (e : Int) (s : ByteArray) (hc : c ≤ 9223372036854775807) (hp : p.length ≤ 10000000000000) (hs : s.size ≤ 10000000000000) :
    Spec Try.prog 29 [.ptr 0 0 0 0, .raw (.string s)] [wrO 1 p c e, .bytes p c 5] 3 (σ := Nat) (fun c => c ≤ 9223372036854775807) (fun c => .tup []) (fun c => [(0, wrO 2 (textP p e s) c e), (2, .bytes (textP p e s) c 5)]) := by
  refine Spec.of Try.func29 rfl Try.ntmps29 rfl (by simp [AO.Bd, bytesF, AV.bds, AV.bd]) fun ρ w => ?_
  have hl := sevN_len10 (u := s.size) (by omega)
  have hnl := layF_len p (sevN s.size) e
  repeat (first | refine C.seq ?_ | refine C.region ?_ | refine R.zb ttok ?_ | refine R.zu ttok ?_ | refine R.zc ttok ?_ | refine R.za ttok ?_ | refine R.zx ?_ | refine R.zl ttok ?_ | refine R.zs ttok ?_ | refine R.z ttok ?_ | refine R.zk ?_ | refine R.zn ?_ | refine R.done ?_ | refine X.then ?_ | refine C.block ?_ | refine C.ret ?_ | refine C.skip ?_ | refine C.exit ?_ | refine X.pass_ret ?_ | refine X.pass_exit ?_ | refine X.block_normal ?_ | refine X.block_ret ?_ | refine X.block_exit ?_ | refine C.zt ?_ | refine C.zf ?_ | refine X.zo ?_)
  refine C.loop (σ := Nat × List UInt8 × Nat) (L2 := 6) (fun s' => (s'.1 = 0 ∧ s'.2.1 = p ∨ s'.1 = 1 ∧ s'.2.1 = layF p e (sevN s.size) ∨ s'.1 = 2 ∧ s'.2.1 = textP p e s) ∧ s'.2.2 ≤ 9223372036854775807)
    (fun s' => [(8, .sl 4 1 0 2 2), (9, .raw (.int .i64 (2 : Nat))), (10, .raw (.int .i64 s'.1))])
    (fun s' => [(0, wrO 5 s'.2.1 s'.2.2 e), (5, .bytes s'.2.1 s'.2.2 5), (2, boxP 0), (3, boxS s), (4, .cells [.fn 53 [.ptr 2 0 0 0, .ptr 3 0 0 0], .fn 54 [.ptr 2 0 0 0, .ptr 3 0 0 0]] 1)]) _ (fun s' => 2 - s'.1) [(5, 1)] (0, p, c) ⟨.inl ⟨rfl, rfl⟩, hc⟩ rfl
    ?_ ?_ rfl (fun _ h => h) ?_
  · exact .cons rfl rfl rfl (.cons rfl rfl rfl (.cons rfl rfl rfl .nil))
  · exact .same rfl rfl rfl rfl (.same rfl rfl rfl trivial (.same rfl rfl rfl rfl (.same rfl rfl rfl rfl (.same rfl rfl rfl rfl .nil))))
  rintro ⟨i, q, c2⟩ ⟨hi, hc2⟩
  dsimp only at hi hc2 ⊢
  rcases hi with ⟨rfl, rfl⟩ | ⟨rfl, rfl⟩ | ⟨rfl, rfl⟩
  · repeat (first | refine C.seq ?_ | refine C.region ?_ | refine R.zb ttok ?_ | refine R.zu ttok ?_ | refine R.zc ttok ?_ | refine R.za ttok ?_ | refine R.zx ?_ | refine R.zl ttok ?_ | refine R.zs ttok ?_ | refine R.z ttok ?_ | refine R.zk ?_ | refine R.zn ?_ | refine R.done ?_ | refine X.then ?_ | refine C.block ?_ | refine C.ret ?_ | refine C.skip ?_ | refine C.exit ?_ | refine X.pass_ret ?_ | refine X.pass_exit ?_ | refine X.block_normal ?_ | refine X.block_ret ?_ | refine X.block_exit ?_ | refine C.zt ?_ | refine C.zf ?_ | refine X.zo ?_)
    refine R.ix ttok 0 rfl rfl rfl rfl rfl rfl rfl (by omega) trivial rfl ?_
    repeat (first | refine C.seq ?_ | refine C.region ?_ | refine R.zb ttok ?_ | refine R.zu ttok ?_ | refine R.zc ttok ?_ | refine R.za ttok ?_ | refine R.zx ?_ | refine R.zl ttok ?_ | refine R.zs ttok ?_ | refine R.z ttok ?_ | refine R.zk ?_ | refine R.zn ?_ | refine R.done ?_ | refine X.then ?_ | refine C.block ?_ | refine C.ret ?_ | refine C.skip ?_ | refine C.exit ?_ | refine X.pass_ret ?_ | refine X.pass_exit ?_ | refine X.block_normal ?_ | refine X.block_ret ?_ | refine X.block_exit ?_ | refine C.zt ?_ | refine C.zf ?_ | refine X.zo ?_)
    refine R.cl [0, 5, 2, 3] (wtext1_spec q c2 e s hc2 (by omega) hs) Try.call53 ?_ rfl rfl rfl (fun _ => rfl) rfl rfl fun c' hc' => ?_
    · exact .same rfl rfl (.same rfl rfl (.same rfl rfl (.same rfl rfl .nil)))
    repeat (first | refine C.seq ?_ | refine C.region ?_ | refine R.zb ttok ?_ | refine R.zu ttok ?_ | refine R.zc ttok ?_ | refine R.za ttok ?_ | refine R.zx ?_ | refine R.zl ttok ?_ | refine R.zs ttok ?_ | refine R.z ttok ?_ | refine R.zk ?_ | refine R.zn ?_ | refine R.done ?_ | refine X.then ?_ | refine C.block ?_ | refine C.ret ?_ | refine C.skip ?_ | refine C.exit ?_ | refine X.pass_ret ?_ | refine X.pass_exit ?_ | refine X.block_normal ?_ | refine X.block_ret ?_ | refine X.block_exit ?_ | refine C.zt ?_ | refine C.zf ?_ | refine X.zo ?_)
    refine X.back [(5, 6)] (1, layF q e (sevN s.size), c') ⟨.inr (.inl ⟨rfl, rfl⟩), hc'⟩ (by dsimp only; omega) rfl ?_ ?_ rfl (fun _ h => h)
    · exact .cons rfl rfl rfl (.cons rfl rfl rfl (.cons rfl rfl rfl .nil))
    · exact .same rfl rfl rfl rfl (.same rfl rfl rfl trivial (.same rfl rfl rfl rfl (.same rfl rfl rfl rfl (.same rfl rfl rfl rfl .nil))))
  · repeat (first | refine C.seq ?_ | refine C.region ?_ | refine R.zb ttok ?_ | refine R.zu ttok ?_ | refine R.zc ttok ?_ | refine R.za ttok ?_ | refine R.zx ?_ | refine R.zl ttok ?_ | refine R.zs ttok ?_ | refine R.z ttok ?_ | refine R.zk ?_ | refine R.zn ?_ | refine R.done ?_ | refine X.then ?_ | refine C.block ?_ | refine C.ret ?_ | refine C.skip ?_ | refine C.exit ?_ | refine X.pass_ret ?_ | refine X.pass_exit ?_ | refine X.block_normal ?_ | refine X.block_ret ?_ | refine X.block_exit ?_ | refine C.zt ?_ | refine C.zf ?_ | refine X.zo ?_)
    refine R.ix ttok 1 rfl rfl rfl rfl rfl rfl rfl (by omega) trivial rfl ?_
    repeat (first | refine C.seq ?_ | refine C.region ?_ | refine R.zb ttok ?_ | refine R.zu ttok ?_ | refine R.zc ttok ?_ | refine R.za ttok ?_ | refine R.zx ?_ | refine R.zl ttok ?_ | refine R.zs ttok ?_ | refine R.z ttok ?_ | refine R.zk ?_ | refine R.zn ?_ | refine R.done ?_ | refine X.then ?_ | refine C.block ?_ | refine C.ret ?_ | refine C.skip ?_ | refine C.exit ?_ | refine X.pass_ret ?_ | refine X.pass_exit ?_ | refine X.block_normal ?_ | refine X.block_ret ?_ | refine X.block_exit ?_ | refine C.zt ?_ | refine C.zf ?_ | refine X.zo ?_)
    refine R.cl [0, 5, 2, 3] (wtext2_spec (layF p e (sevN s.size)) c2 e s hc2 (by omega) hs) Try.call54 ?_ rfl rfl rfl (fun _ => rfl) rfl rfl fun c' hc' => ?_
    · exact .same rfl rfl (.same rfl rfl (.same rfl rfl (.same rfl rfl .nil)))
    rw [layF_two]
    repeat (first | refine C.seq ?_ | refine C.region ?_ | refine R.zb ttok ?_ | refine R.zu ttok ?_ | refine R.zc ttok ?_ | refine R.za ttok ?_ | refine R.zx ?_ | refine R.zl ttok ?_ | refine R.zs ttok ?_ | refine R.z ttok ?_ | refine R.zk ?_ | refine R.zn ?_ | refine R.done ?_ | refine X.then ?_ | refine C.block ?_ | refine C.ret ?_ | refine C.skip ?_ | refine C.exit ?_ | refine X.pass_ret ?_ | refine X.pass_exit ?_ | refine X.block_normal ?_ | refine X.block_ret ?_ | refine X.block_exit ?_ | refine C.zt ?_ | refine C.zf ?_ | refine X.zo ?_)
    refine X.back [(5, 6)] (2, textP p e s, c') ⟨.inr (.inr ⟨rfl, rfl⟩), hc'⟩ (by dsimp only; omega) rfl ?_ ?_ rfl (fun _ h => h)
    · exact .cons rfl rfl rfl (.cons rfl rfl rfl (.cons rfl rfl rfl .nil))
    · exact .same rfl rfl rfl rfl (.same rfl rfl rfl trivial (.same rfl rfl rfl rfl (.same rfl rfl rfl rfl (.same rfl rfl rfl rfl .nil))))
  · repeat (first | refine C.seq ?_ | refine C.region ?_ | refine R.zb ttok ?_ | refine R.zu ttok ?_ | refine R.zc ttok ?_ | refine R.za ttok ?_ | refine R.zx ?_ | refine R.zl ttok ?_ | refine R.zs ttok ?_ | refine R.z ttok ?_ | refine R.zk ?_ | refine R.zn ?_ | refine R.done ?_ | refine X.then ?_ | refine C.block ?_ | refine C.ret ?_ | refine C.skip ?_ | refine C.exit ?_ | refine X.pass_ret ?_ | refine X.pass_exit ?_ | refine X.block_normal ?_ | refine X.block_ret ?_ | refine X.block_exit ?_ | refine C.zt ?_ | refine C.zf ?_ | refine X.zo ?_)
    refine X.fin ttok c2 [(2, 5)] hc2 rfl rfl rfl ?_ _ (.inr rfl)
    exact .same rfl rfl rfl rfl (.same rfl rfl rfl trivial .nil)
theorem wdata_clone (p : List UInt8) (c : Nat) (hc : c ≤ 9223372036854775807) (hp : p.length ≤ 10000000000000) :
    Spec Try.prog 42 [.sl 0 1 0 p.length c] [.ro 1 0 p.length (bytesF p)] 2 (σ := Nat) (fun c => c ≤ 9223372036854775807) (fun c => .sl 1 1 0 p.length c) (fun c => [(1, .bytes p c 5)]) := by
  refine Spec.of Try.func42 rfl Try.ntmps42 rfl (by simp [AO.Bd, bytesF, AV.bds, AV.bd]) fun ρ w => ?_
  repeat (first | refine C.seq ?_ | refine C.region ?_ | refine R.zb ttok ?_ | refine R.zu ttok ?_ | refine R.zc ttok ?_ | refine R.za ttok ?_ | refine R.zx ?_ | refine R.zl ttok ?_ | refine R.zs ttok ?_ | refine R.z ttok ?_ | refine R.zk ?_ | refine R.zn ?_ | refine R.done ?_ | refine X.then ?_ | refine C.block ?_ | refine C.ret ?_ | refine C.skip ?_ | refine C.exit ?_ | refine X.pass_ret ?_ | refine X.pass_exit ?_ | refine X.block_normal ?_ | refine X.block_ret ?_ | refine X.block_exit ?_ | refine C.zt ?_ | refine C.zf ?_ | refine X.zo ?_)
  refine R.nl ttok rfl rfl rfl rfl rfl rfl fun b hb => ?_
  repeat (first | refine C.seq ?_ | refine C.region ?_ | refine R.zb ttok ?_ | refine R.zu ttok ?_ | refine R.zc ttok ?_ | refine R.za ttok ?_ | refine R.zx ?_ | refine R.zl ttok ?_ | refine R.zs ttok ?_ | refine R.z ttok ?_ | refine R.zk ?_ | refine R.zn ?_ | refine R.done ?_ | refine X.then ?_ | refine C.block ?_ | refine C.ret ?_ | refine C.skip ?_ | refine C.exit ?_ | refine X.pass_ret ?_ | refine X.pass_exit ?_ | refine X.block_normal ?_ | refine X.block_ret ?_ | refine X.block_exit ?_ | refine C.zt ?_ | refine C.zf ?_ | refine X.zo ?_)
  cases b with
  | true =>
    have hn := nil_ro rfl (hb rfl)
    obtain rfl : p = [] := List.length_eq_zero_iff.1 hn
    repeat (first | refine C.seq ?_ | refine C.region ?_ | refine R.zb ttok ?_ | refine R.zu ttok ?_ | refine R.zc ttok ?_ | refine R.za ttok ?_ | refine R.zx ?_ | refine R.zl ttok ?_ | refine R.zs ttok ?_ | refine R.z ttok ?_ | refine R.zk ?_ | refine R.zn ?_ | refine R.done ?_ | refine X.then ?_ | refine C.block ?_ | refine C.ret ?_ | refine C.skip ?_ | refine C.exit ?_ | refine X.pass_ret ?_ | refine X.pass_exit ?_ | refine X.block_normal ?_ | refine X.block_ret ?_ | refine X.block_exit ?_ | refine C.zt ?_ | refine C.zf ?_ | refine X.zo ?_)
    refine X.noneT 2 (.sl 1 1 0 0 0) (.bytes [] 0 5) (none_bytes _ _) rfl rfl rfl (fun ρ h => sl_none h) ?_
    refine X.fin ttok 0 [] (by omega) rfl rfl rfl ?_ _ (.inl rfl)
    exact .same rfl rfl rfl trivial .nil
  | false =>
    repeat (first | refine C.seq ?_ | refine C.region ?_ | refine R.zb ttok ?_ | refine R.zu ttok ?_ | refine R.zc ttok ?_ | refine R.za ttok ?_ | refine R.zx ?_ | refine R.zl ttok ?_ | refine R.zs ttok ?_ | refine R.z ttok ?_ | refine R.zk ?_ | refine R.zn ?_ | refine R.done ?_ | refine X.then ?_ | refine C.block ?_ | refine C.ret ?_ | refine C.skip ?_ | refine C.exit ?_ | refine X.pass_ret ?_ | refine X.pass_exit ?_ | refine X.block_normal ?_ | refine X.block_ret ?_ | refine X.block_exit ?_ | refine C.zt ?_ | refine C.zf ?_ | refine X.zo ?_)
    refine R.tellB 1 [] rfl rfl ?_
    refine R.apb ttok rfl rfl rfl rfl (SrcA.rob0 rfl) rfl rfl rfl rfl rfl rfl rfl rfl rfl (by simp) (by simp; omega) fun c3 h3 h4 => ?_
    repeat (first | refine C.seq ?_ | refine C.region ?_ | refine R.zb ttok ?_ | refine R.zu ttok ?_ | refine R.zc ttok ?_ | refine R.za ttok ?_ | refine R.zx ?_ | refine R.zl ttok ?_ | refine R.zs ttok ?_ | refine R.z ttok ?_ | refine R.zk ?_ | refine R.zn ?_ | refine R.done ?_ | refine X.then ?_ | refine C.block ?_ | refine C.ret ?_ | refine C.skip ?_ | refine C.exit ?_ | refine X.pass_ret ?_ | refine X.pass_exit ?_ | refine X.block_normal ?_ | refine X.block_ret ?_ | refine X.block_exit ?_ | refine C.zt ?_ | refine C.zf ?_ | refine X.zo ?_)
    refine X.fin ttok c3 [(1, 2)] h4 rfl rfl rfl ?_ _ (.inl rfl)
    exact .same rfl rfl rfl trivial .nil
theorem wdata_spec (p : List UInt8) (c : Nat) (e : Int) (hc : c ≤ 9223372036854775807) (hp : p.length ≤ 10000000000000) :
    Spec Try.prog 14 [.ptr 0 0 0 0] [wrO 1 p c e, .bytes p c 5] 3 (σ := Nat) (fun c => c ≤ 9223372036854775807) (fun c => .sl 2 1 0 p.length c) (fun c' => [(0, wrO 1 p c e), (1, .bytes p c 5), (2, .bytes p c' 5)]) := by
  refine Spec.of Try.func14 rfl Try.ntmps14 rfl (by simp [AO.Bd, bytesF, AV.bds, AV.bd]) fun ρ w => ?_
  repeat (first | refine C.seq ?_ | refine C.region ?_ | refine R.zb ttok ?_ | refine R.zu ttok ?_ | refine R.zc ttok ?_ | refine R.za ttok ?_ | refine R.zx ?_ | refine R.zl ttok ?_ | refine R.zs ttok ?_ | refine R.z ttok ?_ | refine R.zk ?_ | refine R.zn ?_ | refine R.done ?_ | refine X.then ?_ | refine C.block ?_ | refine C.ret ?_ | refine C.skip ?_ | refine C.exit ?_ | refine X.pass_ret ?_ | refine X.pass_exit ?_ | refine X.block_normal ?_ | refine X.block_ret ?_ | refine X.block_exit ?_ | refine C.zt ?_ | refine C.zf ?_ | refine X.zo ?_)
  refine R.cl [1] (wdata_clone p c hc hp) Try.call42 (.bro rfl .nil) rfl rfl rfl (fun _ => rfl) rfl rfl fun c' hc' => ?_
  repeat (first | refine C.seq ?_ | refine C.region ?_ | refine R.zb ttok ?_ | refine R.zu ttok ?_ | refine R.zc ttok ?_ | refine R.za ttok ?_ | refine R.zx ?_ | refine R.zl ttok ?_ | refine R.zs ttok ?_ | refine R.z ttok ?_ | refine R.zk ?_ | refine R.zn ?_ | refine R.done ?_ | refine X.then ?_ | refine C.block ?_ | refine C.ret ?_ | refine C.skip ?_ | refine C.exit ?_ | refine X.pass_ret ?_ | refine X.pass_exit ?_ | refine X.block_normal ?_ | refine X.block_ret ?_ | refine X.block_exit ?_ | refine C.zt ?_ | refine C.zf ?_ | refine X.zo ?_)
  refine X.fin ttok c' [] hc' rfl rfl rfl ?_ _ (.inl rfl)
  exact .same rfl rfl rfl rfl (.same rfl rfl rfl trivial (.same rfl rfl rfl trivial .nil))
theorem werr_spec (p : List UInt8) (c : Nat) (e : Int) :
    Spec Try.prog 15 [.ptr 0 0 0 0] [wrO 1 p c e, .bytes p c 5] 2 (σ := Unit) (fun _ => True) (fun _ => .raw (.int .i64 e)) (fun _ => [(0, wrO 1 p c e), (1, .bytes p c 5)]) := by
  refine Spec.of Try.func15 rfl Try.ntmps15 rfl (by simp [AO.Bd, bytesF, AV.bds, AV.bd]) fun ρ w => ?_
  repeat (first | refine C.seq ?_ | refine C.region ?_ | refine R.zb ttok ?_ | refine R.zu ttok ?_ | refine R.zc ttok ?_ | refine R.za ttok ?_ | refine R.zx ?_ | refine R.zl ttok ?_ | refine R.zs ttok ?_ | refine R.z ttok ?_ | refine R.zk ?_ | refine R.zn ?_ | refine R.done ?_ | refine X.then ?_ | refine C.block ?_ | refine C.ret ?_ | refine C.skip ?_ | refine C.exit ?_ | refine X.pass_ret ?_ | refine X.pass_exit ?_ | refine X.block_normal ?_ | refine X.block_ret ?_ | refine X.block_exit ?_ | refine C.zt ?_ | refine C.zf ?_ | refine X.zo ?_)
  refine X.fin ttok () [] trivial rfl rfl rfl ?_ _ (.inl rfl)
  exact .same rfl rfl rfl rfl (.same rfl rfl rfl trivial .nil)
end Go.Proofs.Ytchbncbojfiiiaa
