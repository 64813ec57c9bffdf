/- octet: the document's Writer, its numbers and texts -/
import Derived.Test.YtchbncbojfiiiaaO2
namespace Go.Proofs.Ytchbncbojfiiiaa
set_option linter.unusedVariables false
set_option linter.unusedSimpArgs false
open Go.RowKit
set_option maxRecDepth 100000
theorem ge_num (v : Int) : 0 ≤ v ↔ ¬ v < 0 := by omega
def numP (p : List UInt8) (e v : Int) : List UInt8 := if v < 0 then p else layF p e (sevN v.toNat)
def numE (e v : Int) : Int := if v < 0 then stopE e 15 else e
theorem rnumber_spec (p : List UInt8) (c : Nat) (e v : Int) (hc : c ≤ 9223372036854775807) (hp : p.length ≤ 100000000000000) (hv : v ≤ 9223372036854775807) :
    Spec Try.prog 39 [refW 0 p c e, .raw (.int .i64 v)] [.bytes p c 5] 2 (σ := Nat) (fun c => c ≤ 9223372036854775807) (fun c => refW 1 (numP p e v) c (numE e v)) (fun c => [(1, .bytes (numP p e v) c 5)]) := by
  refine Spec.of Try.func39 rfl Try.ntmps39 rfl (by simp [AO.Bd, bytesF, AV.bds, AV.bd]) fun ρ w => ?_
  repeat (first | refine C.seq ?_ | refine C.region ?_ | refine R.zb ttok ?_ | refine R.zu ttok ?_ | refine R.zc ttok ?_ | refine R.za ttok ?_ | refine R.zx ?_ | refine R.zl ttok ?_ | refine R.zs ttok ?_ | refine R.z ttok ?_ | refine R.zk ?_ | refine R.zn ?_ | refine R.done ?_ | refine X.then ?_ | refine C.block ?_ | refine C.ret ?_ | refine C.skip ?_ | refine C.exit ?_ | refine X.pass_ret ?_ | refine X.pass_exit ?_ | refine X.block_normal ?_ | refine X.block_ret ?_ | refine X.block_exit ?_ | refine C.zt ?_ | refine C.zf ?_ | refine X.zo ?_)
  refine C.dec rfl (fun hlt => ?_) (fun hge => ?_)
  · rw [show numP p e v = p from if_pos hlt, show numE e v = stopE e 15 from if_pos hlt]
    repeat (first | refine C.seq ?_ | refine C.region ?_ | refine R.zb ttok ?_ | refine R.zu ttok ?_ | refine R.zc ttok ?_ | refine R.za ttok ?_ | refine R.zx ?_ | refine R.zl ttok ?_ | refine R.zs ttok ?_ | refine R.z ttok ?_ | refine R.zk ?_ | refine R.zn ?_ | refine R.done ?_ | refine X.then ?_ | refine C.block ?_ | refine C.ret ?_ | refine C.skip ?_ | refine C.exit ?_ | refine X.pass_ret ?_ | refine X.pass_exit ?_ | refine X.block_normal ?_ | refine X.block_ret ?_ | refine X.block_exit ?_ | refine C.zt ?_ | refine C.zf ?_ | refine X.zo ?_)
    refine R.cl [0] (rstopped_spec p c e 15 hc) Try.call58 (.same rfl rfl .nil) rfl rfl rfl (fun _ => rfl) rfl rfl fun _ _ => ?_
    repeat (first | refine C.seq ?_ | refine C.region ?_ | refine R.zb ttok ?_ | refine R.zu ttok ?_ | refine R.zc ttok ?_ | refine R.za ttok ?_ | refine R.zx ?_ | refine R.zl ttok ?_ | refine R.zs ttok ?_ | refine R.z ttok ?_ | refine R.zk ?_ | refine R.zn ?_ | refine R.done ?_ | refine X.then ?_ | refine C.block ?_ | refine C.ret ?_ | refine C.skip ?_ | refine C.exit ?_ | refine X.pass_ret ?_ | refine X.pass_exit ?_ | refine X.block_normal ?_ | refine X.block_ret ?_ | refine X.block_exit ?_ | refine C.zt ?_ | refine C.zf ?_ | refine X.zo ?_)
    refine X.fin ttok c [(1, 0)] hc rfl rfl rfl ?_ _ (.inl rfl)
    exact .same rfl rfl rfl trivial .nil
  · rw [show numP p e v = layF p e (sevN v.toNat) from if_neg hge, show numE e v = e from if_neg hge]
    obtain ⟨u, rfl⟩ : ∃ u : Nat, v = u := ⟨v.toNat, by omega⟩
    rw [Int.toNat_natCast]
    have hu : u < 18446744073709551616 := by omega
    have hl := sevN_len10 hu
    repeat (first | refine C.seq ?_ | refine C.region ?_ | refine R.zb ttok ?_ | refine R.zu ttok ?_ | refine R.zc ttok ?_ | refine R.za ttok ?_ | refine R.zx ?_ | refine R.zl ttok ?_ | refine R.zs ttok ?_ | refine R.z ttok ?_ | refine R.zk ?_ | refine R.zn ?_ | refine R.done ?_ | refine X.then ?_ | refine C.block ?_ | refine C.ret ?_ | refine C.skip ?_ | refine C.exit ?_ | refine X.pass_ret ?_ | refine X.pass_exit ?_ | refine X.block_normal ?_ | refine X.block_ret ?_ | refine X.block_exit ?_ | refine C.zt ?_ | refine C.zf ?_ | refine X.zo ?_)
    refine C.draw [[], [], [1], [1, 2], [0, 1, 2, 3], [0, 1, 2, 3, 4]] [3, 4, 5] (by kernel_rfl) (by kernel_rfl) ?_
    repeat (first | refine C.seq ?_ | refine C.region ?_ | refine R.zb ttok ?_ | refine R.zu ttok ?_ | refine R.zc ttok ?_ | refine R.za ttok ?_ | refine R.zx ?_ | refine R.zl ttok ?_ | refine R.zs ttok ?_ | refine R.z ttok ?_ | refine R.zk ?_ | refine R.zn ?_ | refine R.done ?_ | refine X.then ?_ | refine C.block ?_ | refine C.ret ?_ | refine C.skip ?_ | refine C.exit ?_ | refine X.pass_ret ?_ | refine X.pass_exit ?_ | refine X.block_normal ?_ | refine X.block_ret ?_ | refine X.block_exit ?_ | refine C.zt ?_ | refine C.zf ?_ | refine X.zo ?_)
    refine R.cl [] (rsevens_spec u hu) Try.call59 .nil rfl rfl rfl (fun _ => rfl) rfl rfl fun c1 hc1 => ?_
    refine R.cl [0, 3] (rlaid_spec p (sevN u) c c1 e hc (by omega)) Try.call57 (.same rfl rfl (.bro rfl .nil)) rfl rfl rfl (fun _ => rfl) rfl rfl fun c' hc' => ?_
    repeat (first | refine C.seq ?_ | refine C.region ?_ | refine R.zb ttok ?_ | refine R.zu ttok ?_ | refine R.zc ttok ?_ | refine R.za ttok ?_ | refine R.zx ?_ | refine R.zl ttok ?_ | refine R.zs ttok ?_ | refine R.z ttok ?_ | refine R.zk ?_ | refine R.zn ?_ | refine R.done ?_ | refine X.then ?_ | refine C.block ?_ | refine C.ret ?_ | refine C.skip ?_ | refine C.exit ?_ | refine X.pass_ret ?_ | refine X.pass_exit ?_ | refine X.block_normal ?_ | refine X.block_ret ?_ | refine X.block_exit ?_ | refine C.zt ?_ | refine C.zf ?_ | refine X.zo ?_)
    refine X.fin ttok c' [(1, 4)] hc' rfl rfl rfl ?_ _ (.inl rfl)
    exact .same rfl rfl rfl trivial .nil
def zigN (v : Int) : Nat := if 0 ≤ v then (2 * v).toNat else (2 * (0 - (v + 1)) + 1).toNat
theorem zigN_lt {v : Int} (h1 : -9223372036854775808 ≤ v) (h2 : v ≤ 9223372036854775807) : zigN v < 18446744073709551616 := by unfold zigN; split <;> omega
theorem rint_spec (p : List UInt8) (c : Nat) (e v : Int) (hc : c ≤ 9223372036854775807) (hp : p.length ≤ 100000000000000) (hv1 : -9223372036854775808 ≤ v) (hv : v ≤ 9223372036854775807) :
    Spec Try.prog 40 [refW 0 p c e, .raw (.int .i64 v)] [.bytes p c 5] 2 (σ := Nat) (fun c => c ≤ 9223372036854775807) (fun c => refW 1 (layF p e (sevN (zigN v))) c e) (fun c => [(1, .bytes (layF p e (sevN (zigN v))) c 5)]) := by
  refine Spec.of Try.func40 rfl Try.ntmps40 rfl (by simp [AO.Bd, bytesF, AV.bds, AV.bd]) fun ρ w => ?_
  have hu := zigN_lt hv1 hv
  have hl := sevN_len10 hu
  repeat (first | refine C.seq ?_ | refine C.region ?_ | refine R.zb ttok ?_ | refine R.zu ttok ?_ | refine R.zc ttok ?_ | refine R.za ttok ?_ | refine R.zx ?_ | refine R.zl ttok ?_ | refine R.zs ttok ?_ | refine R.z ttok ?_ | refine R.zk ?_ | refine R.zn ?_ | refine R.done ?_ | refine X.then ?_ | refine C.block ?_ | refine C.ret ?_ | refine C.skip ?_ | refine C.exit ?_ | refine X.pass_ret ?_ | refine X.pass_exit ?_ | refine X.block_normal ?_ | refine X.block_ret ?_ | refine X.block_exit ?_ | refine C.zt ?_ | refine C.zf ?_ | refine X.zo ?_)
  refine C.dec rfl (fun hge => ?_) (fun hlt => ?_)
  · have e1 : (2 * v : Int) = (zigN v : Nat) := by unfold zigN; rw [if_pos hge]; omega
    repeat (first | refine C.seq ?_ | refine C.region ?_ | refine R.zb ttok ?_ | refine R.zu ttok ?_ | refine R.zc ttok ?_ | refine R.za ttok ?_ | refine R.zx ?_ | refine R.zl ttok ?_ | refine R.zs ttok ?_ | refine R.z ttok ?_ | refine R.zk ?_ | refine R.zn ?_ | refine R.done ?_ | refine X.then ?_ | refine C.block ?_ | refine C.ret ?_ | refine C.skip ?_ | refine C.exit ?_ | refine X.pass_ret ?_ | refine X.pass_exit ?_ | refine X.block_normal ?_ | refine X.block_ret ?_ | refine X.block_exit ?_ | refine C.zt ?_ | refine C.zf ?_ | refine X.zo ?_)
    refine C.draw [[], [], [1], [1, 2], [1, 2, 3], [0, 1, 2, 3, 4], [0, 1, 2, 3, 4, 5]] [4, 5, 6] (by kernel_rfl) (by kernel_rfl) ?_
    repeat (first | refine C.seq ?_ | refine C.region ?_ | refine R.zb ttok ?_ | refine R.zu ttok ?_ | refine R.zc ttok ?_ | refine R.za ttok ?_ | refine R.zx ?_ | refine R.zl ttok ?_ | refine R.zs ttok ?_ | refine R.z ttok ?_ | refine R.zk ?_ | refine R.zn ?_ | refine R.done ?_ | refine X.then ?_ | refine C.block ?_ | refine C.ret ?_ | refine C.skip ?_ | refine C.exit ?_ | refine X.pass_ret ?_ | refine X.pass_exit ?_ | refine X.block_normal ?_ | refine X.block_ret ?_ | refine X.block_exit ?_ | refine C.zt ?_ | refine C.zf ?_ | refine X.zo ?_)
    rw [e1]
    refine R.cl [] (rsevens_spec _ hu) Try.call59 .nil rfl rfl rfl (fun _ => rfl) rfl rfl fun c1 hc1 => ?_
    refine R.cl [0, 3] (rlaid_spec p (sevN (zigN v)) c c1 e hc (by omega)) Try.call57 (.same rfl rfl (.bro rfl .nil)) rfl rfl rfl (fun _ => rfl) rfl rfl fun c' hc' => ?_
    repeat (first | refine C.seq ?_ | refine C.region ?_ | refine R.zb ttok ?_ | refine R.zu ttok ?_ | refine R.zc ttok ?_ | refine R.za ttok ?_ | refine R.zx ?_ | refine R.zl ttok ?_ | refine R.zs ttok ?_ | refine R.z ttok ?_ | refine R.zk ?_ | refine R.zn ?_ | refine R.done ?_ | refine X.then ?_ | refine C.block ?_ | refine C.ret ?_ | refine C.skip ?_ | refine C.exit ?_ | refine X.pass_ret ?_ | refine X.pass_exit ?_ | refine X.block_normal ?_ | refine X.block_ret ?_ | refine X.block_exit ?_ | refine C.zt ?_ | refine C.zf ?_ | refine X.zo ?_)
    refine X.fin ttok c' [(1, 4)] hc' rfl rfl rfl ?_ _ (.inl rfl)
    exact .same rfl rfl rfl trivial .nil
  · have e1 : (2 * (0 - (v + 1)) + 1 : Int) = (zigN v : Nat) := by unfold zigN; rw [if_neg hlt]; omega
    repeat (first | refine C.seq ?_ | refine C.region ?_ | refine R.zb ttok ?_ | refine R.zu ttok ?_ | refine R.zc ttok ?_ | refine R.za ttok ?_ | refine R.zx ?_ | refine R.zl ttok ?_ | refine R.zs ttok ?_ | refine R.z ttok ?_ | refine R.zk ?_ | refine R.zn ?_ | refine R.done ?_ | refine X.then ?_ | refine C.block ?_ | refine C.ret ?_ | refine C.skip ?_ | refine C.exit ?_ | refine X.pass_ret ?_ | refine X.pass_exit ?_ | refine X.block_normal ?_ | refine X.block_ret ?_ | refine X.block_exit ?_ | refine C.zt ?_ | refine C.zf ?_ | refine X.zo ?_)
    refine C.draw [[], [], [1], [1, 2], [1, 2, 3], [1, 2, 3, 4], [1, 2, 3, 4, 5], [1, 2, 3, 4, 5, 6], [0, 1, 2, 3, 4, 5, 6, 7], [0, 1, 2, 3, 4, 5, 6, 7, 8]] [7, 8, 9] (by kernel_rfl) (by kernel_rfl) ?_
    repeat (first | refine C.seq ?_ | refine C.region ?_ | refine R.zb ttok ?_ | refine R.zu ttok ?_ | refine R.zc ttok ?_ | refine R.za ttok ?_ | refine R.zx ?_ | refine R.zl ttok ?_ | refine R.zs ttok ?_ | refine R.z ttok ?_ | refine R.zk ?_ | refine R.zn ?_ | refine R.done ?_ | refine X.then ?_ | refine C.block ?_ | refine C.ret ?_ | refine C.skip ?_ | refine C.exit ?_ | refine X.pass_ret ?_ | refine X.pass_exit ?_ | refine X.block_normal ?_ | refine X.block_ret ?_ | refine X.block_exit ?_ | refine C.zt ?_ | refine C.zf ?_ | refine X.zo ?_)
    rw [e1]
    refine R.cl [] (rsevens_spec _ hu) Try.call59 .nil rfl rfl rfl (fun _ => rfl) rfl rfl fun c1 hc1 => ?_
    refine R.cl [0, 3] (rlaid_spec p (sevN (zigN v)) c c1 e hc (by omega)) Try.call57 (.same rfl rfl (.bro rfl .nil)) rfl rfl rfl (fun _ => rfl) rfl rfl fun c' hc' => ?_
    repeat (first | refine C.seq ?_ | refine C.region ?_ | refine R.zb ttok ?_ | refine R.zu ttok ?_ | refine R.zc ttok ?_ | refine R.za ttok ?_ | refine R.zx ?_ | refine R.zl ttok ?_ | refine R.zs ttok ?_ | refine R.z ttok ?_ | refine R.zk ?_ | refine R.zn ?_ | refine R.done ?_ | refine X.then ?_ | refine C.block ?_ | refine C.ret ?_ | refine C.skip ?_ | refine C.exit ?_ | refine X.pass_ret ?_ | refine X.pass_exit ?_ | refine X.block_normal ?_ | refine X.block_ret ?_ | refine X.block_exit ?_ | refine C.zt ?_ | refine C.zf ?_ | refine X.zo ?_)
    refine X.fin ttok c' [(1, 4)] hc' rfl rfl rfl ?_ _ (.inl rfl)
    exact .same rfl rfl rfl trivial .nil
/-- the k lowest bytes -/
def leN : Nat → Nat → List UInt8
  | 0, _ => []
  | k + 1, v => UInt8.ofNat (v % 256) :: leN k (v / 256)
theorem leN_len : ∀ k v, (leN k v).length = k
  | 0, _ => rfl
  | k + 1, v => by simp [leN, leN_len k]
def fixP (p : List UInt8) (e : Int) (v : Nat) (n : Int) : List UInt8 := if n < 0 ∨ 8 < n then p else layF p e (leN n.toNat v)
def fixE (e n : Int) : Int := if n < 0 ∨ 8 < n then stopE e 1 else e
theorem rem256 (x : Nat) : (x : Int).tmod 256 = ((x % 256 : Nat) : Int) := by
  rw [Int.tmod_eq_emod_of_nonneg (by omega)]; omega
theorem quo256 {x : Nat} (h : x < 18446744073709551616) : IntKind.wrap .u64 ((x : Int).tdiv 256) = ((x / 256 : Nat) : Int) := by
  rw [Int.tdiv_eq_ediv_of_nonneg (by omega)]
  have : (x : Int) / 256 = ((x / 256 : Nat) : Int) := by omega
  rw [this, wrap_u64 (by omega) (by omega)]
theorem rfixed_spec (p : List UInt8) (c : Nat) (e : Int) (v : Nat) (n : Int) (hc : c ≤ 9223372036854775807) (hp : p.length ≤ 100000000000000) (hv : v < 18446744073709551616) :
    Spec Try.prog 38 [refW 0 p c e, .raw (.int .u64 v), .raw (.int .i64 n)] [.bytes p c 5] 2 (σ := Nat) (fun c => c ≤ 9223372036854775807) (fun c => refW 1 (fixP p e v n) c (fixE e n)) (fun c => [(1, .bytes (fixP p e v n) c 5)]) := by
  refine Spec.of Try.func38 rfl Try.ntmps38 rfl (by simp [AO.Bd, bytesF, AV.bds, AV.bd]) fun ρ w => ?_
  have bad : n < 0 ∨ 8 < n → fixP p e v n = p ∧ fixE e n = stopE e 1 := fun h => ⟨if_pos h, if_pos h⟩
  have good : ¬ (n < 0 ∨ 8 < n) → fixP p e v n = layF p e (leN n.toNat v) ∧ fixE e n = e := fun h => ⟨if_neg h, if_neg h⟩
  repeat (first | refine C.seq ?_ | refine C.region ?_ | refine R.zb ttok ?_ | refine R.zu ttok ?_ | refine R.zc ttok ?_ | refine R.za ttok ?_ | refine R.zx ?_ | refine R.zl ttok ?_ | refine R.zs ttok ?_ | refine R.z ttok ?_ | refine R.zk ?_ | refine R.zn ?_ | refine R.done ?_ | refine X.then ?_ | refine C.block ?_ | refine C.ret ?_ | refine C.skip ?_ | refine C.exit ?_ | refine X.pass_ret ?_ | refine X.pass_exit ?_ | refine X.block_normal ?_ | refine X.block_ret ?_ | refine X.block_exit ?_ | refine C.zt ?_ | refine C.zf ?_ | refine X.zo ?_)
  by_cases h1 : n < 0
  · obtain ⟨b1, b2⟩ := bad (.inl h1)
    rw [decide_eq_true h1, b1, b2]
    repeat (first | refine C.seq ?_ | refine C.region ?_ | refine R.zb ttok ?_ | refine R.zu ttok ?_ | refine R.zc ttok ?_ | refine R.za ttok ?_ | refine R.zx ?_ | refine R.zl ttok ?_ | refine R.zs ttok ?_ | refine R.z ttok ?_ | refine R.zk ?_ | refine R.zn ?_ | refine R.done ?_ | refine X.then ?_ | refine C.block ?_ | refine C.ret ?_ | refine C.skip ?_ | refine C.exit ?_ | refine X.pass_ret ?_ | refine X.pass_exit ?_ | refine X.block_normal ?_ | refine X.block_ret ?_ | refine X.block_exit ?_ | refine C.zt ?_ | refine C.zf ?_ | refine X.zo ?_)
    refine R.cl [0] (rstopped_spec p c e 1 hc) Try.call58 (.same rfl rfl .nil) rfl rfl rfl (fun _ => rfl) rfl rfl fun _ _ => ?_
    repeat (first | refine C.seq ?_ | refine C.region ?_ | refine R.zb ttok ?_ | refine R.zu ttok ?_ | refine R.zc ttok ?_ | refine R.za ttok ?_ | refine R.zx ?_ | refine R.zl ttok ?_ | refine R.zs ttok ?_ | refine R.z ttok ?_ | refine R.zk ?_ | refine R.zn ?_ | refine R.done ?_ | refine X.then ?_ | refine C.block ?_ | refine C.ret ?_ | refine C.skip ?_ | refine C.exit ?_ | refine X.pass_ret ?_ | refine X.pass_exit ?_ | refine X.block_normal ?_ | refine X.block_ret ?_ | refine X.block_exit ?_ | refine C.zt ?_ | refine C.zf ?_ | refine X.zo ?_)
    refine X.fin ttok c [(1, 0)] hc rfl rfl rfl ?_ _ (.inl rfl)
    exact .same rfl rfl rfl trivial .nil
  · rw [decide_eq_false h1]
    repeat (first | refine C.seq ?_ | refine C.region ?_ | refine R.zb ttok ?_ | refine R.zu ttok ?_ | refine R.zc ttok ?_ | refine R.za ttok ?_ | refine R.zx ?_ | refine R.zl ttok ?_ | refine R.zs ttok ?_ | refine R.z ttok ?_ | refine R.zk ?_ | refine R.zn ?_ | refine R.done ?_ | refine X.then ?_ | refine C.block ?_ | refine C.ret ?_ | refine C.skip ?_ | refine C.exit ?_ | refine X.pass_ret ?_ | refine X.pass_exit ?_ | refine X.block_normal ?_ | refine X.block_ret ?_ | refine X.block_exit ?_ | refine C.zt ?_ | refine C.zf ?_ | refine X.zo ?_)
    refine C.dec rfl (fun h2 => ?_) (fun h2 => ?_)
    · obtain ⟨b1, b2⟩ := bad (.inr h2)
      rw [b1, b2]
      repeat (first | refine C.seq ?_ | refine C.region ?_ | refine R.zb ttok ?_ | refine R.zu ttok ?_ | refine R.zc ttok ?_ | refine R.za ttok ?_ | refine R.zx ?_ | refine R.zl ttok ?_ | refine R.zs ttok ?_ | refine R.z ttok ?_ | refine R.zk ?_ | refine R.zn ?_ | refine R.done ?_ | refine X.then ?_ | refine C.block ?_ | refine C.ret ?_ | refine C.skip ?_ | refine C.exit ?_ | refine X.pass_ret ?_ | refine X.pass_exit ?_ | refine X.block_normal ?_ | refine X.block_ret ?_ | refine X.block_exit ?_ | refine C.zt ?_ | refine C.zf ?_ | refine X.zo ?_)
      refine R.cl [0] (rstopped_spec p c e 1 hc) Try.call58 (.same rfl rfl .nil) rfl rfl rfl (fun _ => rfl) rfl rfl fun _ _ => ?_
      repeat (first | refine C.seq ?_ | refine C.region ?_ | refine R.zb ttok ?_ | refine R.zu ttok ?_ | refine R.zc ttok ?_ | refine R.za ttok ?_ | refine R.zx ?_ | refine R.zl ttok ?_ | refine R.zs ttok ?_ | refine R.z ttok ?_ | refine R.zk ?_ | refine R.zn ?_ | refine R.done ?_ | refine X.then ?_ | refine C.block ?_ | refine C.ret ?_ | refine C.skip ?_ | refine C.exit ?_ | refine X.pass_ret ?_ | refine X.pass_exit ?_ | refine X.block_normal ?_ | refine X.block_ret ?_ | refine X.block_exit ?_ | refine C.zt ?_ | refine C.zf ?_ | refine X.zo ?_)
      refine X.fin ttok c [(1, 0)] hc rfl rfl rfl ?_ _ (.inl rfl)
      exact .same rfl rfl rfl trivial .nil
    · obtain ⟨g1, g2⟩ := good (by omega)
      obtain ⟨k, rfl⟩ : ∃ k : Nat, n = k := ⟨n.toNat, by omega⟩
      rw [Int.toNat_natCast] at g1
      have hk : k ≤ 8 := by omega
      rw [g1, g2]
      repeat (first | refine C.seq ?_ | refine C.region ?_ | refine R.zb ttok ?_ | refine R.zu ttok ?_ | refine R.zc ttok ?_ | refine R.za ttok ?_ | refine R.zx ?_ | refine R.zl ttok ?_ | refine R.zs ttok ?_ | refine R.z ttok ?_ | refine R.zk ?_ | refine R.zn ?_ | refine R.done ?_ | refine X.then ?_ | refine C.block ?_ | refine C.ret ?_ | refine C.skip ?_ | refine C.exit ?_ | refine X.pass_ret ?_ | refine X.pass_exit ?_ | refine X.block_normal ?_ | refine X.block_ret ?_ | refine X.block_exit ?_ | refine C.zt ?_ | refine C.zf ?_ | refine X.zo ?_)
      refine C.noneT 7 (.sl 3 1 0 0 0) (.bytes [] 0 5) (none_bytes _ _) rfl rfl rfl (fun ρ h => sl_none h) ?_
      refine C.loop (σ := List UInt8 × Nat × Nat × Nat) (L2 := 4) (fun s => s.1 ++ leN (k - s.2.2.1) s.2.1 = leN k v ∧ s.2.1 < 18446744073709551616 ∧ s.2.2.1 ≤ k ∧ s.2.2.2 ≤ 9223372036854775807)
        (fun s => [(1, .raw (.int .u64 s.2.1)), (2, .raw (.int .i64 k)), (3, .ptr 1 0 0 0), (6, .ptr 2 0 0 0), (7, .sl 3 1 0 s.1.length s.2.2.2), (8, .raw (.int .i64 s.2.2.1))])
        (fun s => [(0, .bytes p c 5), (1, .cells [.sl 0 1 0 p.length c, .raw (.int .i64 e)] 31), (2, .cells [.raw (.slice none 0 0), .raw (.int .i64 0)] 31), (3, .bytes s.1 s.2.2.2 5)]) _ (fun s => k - s.2.2.1) [] ([], v, 0, 0) ⟨rfl, hv, Nat.zero_le _, Nat.zero_le _⟩ rfl
        (.cons rfl rfl rfl (.cons rfl rfl rfl (.cons rfl rfl rfl (.cons rfl rfl rfl (.cons rfl rfl rfl (.cons rfl rfl rfl .nil)))))) (.same rfl rfl rfl trivial (.same rfl rfl rfl rfl (.same rfl rfl rfl rfl (.same rfl rfl rfl trivial .nil)))) rfl (fun _ h => h) ?_
      rintro ⟨q, x, i, c2⟩ ⟨hq, hx, hi, hc2⟩
      dsimp only at hq hx hi hc2 ⊢
      have hlen : q.length ≤ 8 := by
        have := congrArg List.length hq
        rw [List.length_append, leN_len, leN_len] at this
        omega
      repeat (first | refine C.seq ?_ | refine C.region ?_ | refine R.zb ttok ?_ | refine R.zu ttok ?_ | refine R.zc ttok ?_ | refine R.za ttok ?_ | refine R.zx ?_ | refine R.zl ttok ?_ | refine R.zs ttok ?_ | refine R.z ttok ?_ | refine R.zk ?_ | refine R.zn ?_ | refine R.done ?_ | refine X.then ?_ | refine C.block ?_ | refine C.ret ?_ | refine C.skip ?_ | refine C.exit ?_ | refine X.pass_ret ?_ | refine X.pass_exit ?_ | refine X.block_normal ?_ | refine X.block_ret ?_ | refine X.block_exit ?_ | refine C.zt ?_ | refine C.zf ?_ | refine X.zo ?_)
      refine C.dec rfl (fun hlt => ?_) (fun hge => ?_)
      · have hlt : i < k := by omega
        have hm : x % 256 < 256 := Nat.mod_lt _ (by decide)
        repeat (first | refine C.seq ?_ | refine C.region ?_ | refine R.zb ttok ?_ | refine R.zu ttok ?_ | refine R.zc ttok ?_ | refine R.za ttok ?_ | refine R.zx ?_ | refine R.zl ttok ?_ | refine R.zs ttok ?_ | refine R.z ttok ?_ | refine R.zk ?_ | refine R.zn ?_ | refine R.done ?_ | refine X.then ?_ | refine C.block ?_ | refine C.ret ?_ | refine C.skip ?_ | refine C.exit ?_ | refine X.pass_ret ?_ | refine X.pass_exit ?_ | refine X.block_normal ?_ | refine X.block_ret ?_ | refine X.block_exit ?_ | refine C.zt ?_ | refine C.zf ?_ | refine X.zo ?_)
        refine R.rem ((x % 256 : Nat) : Int) rfl rfl rfl rfl (by decide) (rem256 x) ?_
        repeat (first | refine C.seq ?_ | refine C.region ?_ | refine R.zb ttok ?_ | refine R.zu ttok ?_ | refine R.zc ttok ?_ | refine R.za ttok ?_ | refine R.zx ?_ | refine R.zl ttok ?_ | refine R.zs ttok ?_ | refine R.z ttok ?_ | refine R.zk ?_ | refine R.zn ?_ | refine R.done ?_ | refine X.then ?_ | refine C.block ?_ | refine C.ret ?_ | refine C.skip ?_ | refine C.exit ?_ | refine X.pass_ret ?_ | refine X.pass_exit ?_ | refine X.block_normal ?_ | refine X.block_ret ?_ | refine X.block_exit ?_ | refine C.zt ?_ | refine C.zf ?_ | refine X.zo ?_)
        refine R.apb ttok (q := [UInt8.ofNat (x % 256)]) rfl rfl rfl rfl (SrcA.cells rfl rfl) (avB_one (by rw [ofNat_toNat (by omega)])) rfl rfl rfl rfl rfl rfl rfl rfl hc2 (by simp; omega) fun c' h1 h2 => ?_
        repeat (first | refine C.seq ?_ | refine C.region ?_ | refine R.zb ttok ?_ | refine R.zu ttok ?_ | refine R.zc ttok ?_ | refine R.za ttok ?_ | refine R.zx ?_ | refine R.zl ttok ?_ | refine R.zs ttok ?_ | refine R.z ttok ?_ | refine R.zk ?_ | refine R.zn ?_ | refine R.done ?_ | refine X.then ?_ | refine C.block ?_ | refine C.ret ?_ | refine C.skip ?_ | refine C.exit ?_ | refine X.pass_ret ?_ | refine X.pass_exit ?_ | refine X.block_normal ?_ | refine X.block_ret ?_ | refine X.block_exit ?_ | refine C.zt ?_ | refine C.zf ?_ | refine X.zo ?_)
        refine R.quo ((x / 256 : Nat) : Int) rfl rfl rfl rfl (by decide) (quo256 hx) ?_
        repeat (first | refine C.seq ?_ | refine C.region ?_ | refine R.zb ttok ?_ | refine R.zu ttok ?_ | refine R.zc ttok ?_ | refine R.za ttok ?_ | refine R.zx ?_ | refine R.zl ttok ?_ | refine R.zs ttok ?_ | refine R.z ttok ?_ | refine R.zk ?_ | refine R.zn ?_ | refine R.done ?_ | refine X.then ?_ | refine C.block ?_ | refine C.ret ?_ | refine C.skip ?_ | refine C.exit ?_ | refine X.pass_ret ?_ | refine X.pass_exit ?_ | refine X.block_normal ?_ | refine X.block_ret ?_ | refine X.block_exit ?_ | refine C.zt ?_ | refine C.zf ?_ | refine X.zo ?_)
        refine X.back [(3, 5)] (q ++ [UInt8.ofNat (x % 256)], x / 256, i + 1, c') ⟨?_, by dsimp only; omega, by dsimp only; omega, h2⟩ (by dsimp only; omega) rfl ?_ ?_ rfl (fun _ h => h)
        · dsimp only
          rw [← hq, show k - i = (k - (i + 1)) + 1 by omega, leN, List.append_assoc]; rfl
        · exact .cons rfl rfl rfl (.cons rfl rfl rfl (.cons rfl rfl rfl (.cons rfl rfl rfl (.cons rfl rfl rfl (.cons rfl rfl rfl .nil)))))
        · exact .same rfl rfl rfl trivial (.same rfl rfl rfl rfl (.same rfl rfl rfl rfl (.same rfl rfl rfl trivial .nil)))
      · have hge : i = k := by omega
        subst hge
        rw [Nat.sub_self, leN, List.append_nil] at hq
        subst hq
        repeat (first | refine C.seq ?_ | refine C.region ?_ | refine R.zb ttok ?_ | refine R.zu ttok ?_ | refine R.zc ttok ?_ | refine R.za ttok ?_ | refine R.zx ?_ | refine R.zl ttok ?_ | refine R.zs ttok ?_ | refine R.z ttok ?_ | refine R.zk ?_ | refine R.zn ?_ | refine R.done ?_ | refine X.then ?_ | refine C.block ?_ | refine C.ret ?_ | refine C.skip ?_ | refine C.exit ?_ | refine X.pass_ret ?_ | refine X.pass_exit ?_ | refine X.block_normal ?_ | refine X.block_ret ?_ | refine X.block_exit ?_ | refine C.zt ?_ | refine C.zf ?_ | refine X.zo ?_)
        refine R.cl [0, 3] (rlaid_spec p _ c c2 e hc (by omega)) Try.call57 (.same rfl rfl (.bro rfl .nil)) rfl rfl rfl (fun _ => rfl) rfl rfl fun c' hc' => ?_
        repeat (first | refine C.seq ?_ | refine C.region ?_ | refine R.zb ttok ?_ | refine R.zu ttok ?_ | refine R.zc ttok ?_ | refine R.za ttok ?_ | refine R.zx ?_ | refine R.zl ttok ?_ | refine R.zs ttok ?_ | refine R.z ttok ?_ | refine R.zk ?_ | refine R.zn ?_ | refine R.done ?_ | refine X.then ?_ | refine C.block ?_ | refine C.ret ?_ | refine C.skip ?_ | refine C.exit ?_ | refine X.pass_ret ?_ | refine X.pass_exit ?_ | refine X.block_normal ?_ | refine X.block_ret ?_ | refine X.block_exit ?_ | refine C.zt ?_ | refine C.zf ?_ | refine X.zo ?_)
        refine X.fin ttok c' [(1, 4)] hc' rfl rfl rfl ?_ _ (.inl rfl)
        exact .same rfl rfl rfl trivial .nil
end Go.Proofs.Ytchbncbojfiiiaa
