/- table: Put, Delete of Table[int]; put, cut of the document's book, each in one contract -/
import Derived.Test.YtlcojlcackkhpaaT7
namespace Go.Proofs.Ytlcojlcackkhpaa
set_option linter.unusedVariables false
set_option linter.unusedSimpArgs false
open Go.RowKit
set_option maxRecDepth 100000
set_option maxHeartbeats 4000000
def delI (l : List PI) (k : ByteArray) : List PI := if hasK l k = true then delL l (plc l k) else l
theorem putI_new {l : List PI} {k : ByteArray} (v : Int) (h : hasK l k = false) : putI l k v = insL l (plc l k) (k, v) := if_neg (by rw [h]; decide)
theorem hasK_key {l : List PI} {k : ByteArray} (h : hasK l k = true) : (l.getD (plc l k) zI).1 = k := cmpS_zero.1 (hasK_lt h).2
theorem putI_old {l : List PI} {k : ByteArray} (v : Int) (h : hasK l k = true) : putI l k v = l.set (plc l k) ((l.getD (plc l k) zI).1, v) := by rw [hasK_key h]; exact if_pos h
theorem delI_new {l : List PI} {k : ByteArray} (h : hasK l k = false) : delI l k = l := if_neg (by rw [h]; decide)
theorem delI_old {l : List PI} {k : ByteArray} (h : hasK l k = true) : delI l k = delL l (plc l k) := if_pos h
theorem getI_new {l : List PI} {k : ByteArray} (h : hasK l k = false) : getI l k = 0 := if_neg (by rw [h]; decide)
theorem getI_old {l : List PI} {k : ByteArray} (h : hasK l k = true) : getI l k = (l.getD (plc l k) zI).2 := if_pos h
section
variable (l : List PI) (c : Nat) (k : ByteArray)
theorem bput_spec (v : Int) (hl : l.length ≤ 1000000) (hc : l.length ≤ c) (hc2 : c ≤ 9223372036854775807) :
    Spec Try.prog 56 [.ptr 0 0 0 0, .raw (.string k), .raw (.int .i64 v)] [bkO 1 l.length c, tbT l c] 3 (σ := Nat) (fun c' => (putI l k v).length ≤ c' ∧ c' ≤ 9223372036854775807)
    (fun _ => .tup [.raw (.int .i64 (getI l k)), .raw (.bool (hasK l k))]) (fun c' => [(0, bkO 2 (putI l k v).length c'), (2, .tab 2 (putI l k v).length c' (piF (putI l k v)) 103)]) := by
  cases h : hasK l k with
  | false =>
    rw [putI_new v h, getI_new h, insL_len]
    exact bput_new l c k v hl hc hc2 h
  | true =>
    rw [putI_old v h, getI_old h, List.length_set]
    exact bput_old l c k v hl hc hc2 h
theorem bcut_spec (hl : l.length ≤ 1000000) (hc : l.length ≤ c) (hc2 : c ≤ 9223372036854775807) :
    Spec Try.prog 57 [.ptr 0 0 0 0, .raw (.string k)] [bkO 1 l.length c, tbT l c] 3 (σ := Nat) (fun c' => (delI l k).length ≤ c' ∧ c' ≤ 9223372036854775807)
    (fun _ => .tup [.raw (.int .i64 (getI l k)), .raw (.bool (hasK l k))]) (fun c' => [(0, bkO 2 (delI l k).length c'), (2, .tab 2 (delI l k).length c' (piF (delI l k)) 103)]) := by
  cases h : hasK l k with
  | false =>
    rw [delI_new h, getI_new h]
    exact bcut_miss l c k hl hc hc2 h
  | true =>
    rw [delI_old h, getI_old h, delL_len l _ (hasK_lt h).1]
    exact bcut_hit l c k hl hc hc2 h
theorem putI_spec (v : Int) (hA : Asc l) (hl : l.length ≤ 1000000) (hc : l.length ≤ c) (hc2 : c ≤ 9223372036854775807) :
    Spec Try.prog 33 [.ptr 0 0 0 0, .raw (.string k), .raw (.int .i64 v)] [tbI 1 l.length c, tI l c] 3 (σ := Nat) (fun c' => (putI l k v).length ≤ c' ∧ c' ≤ 9223372036854775807)
    (fun _ => .tup [.raw (.int .i64 (getI l k)), .raw (.bool (hasK l k))]) (fun c' => [(0, tbI 2 (putI l k v).length c'), (2, .tab 2 (putI l k v).length c' (piF (putI l k v)) 100)]) := by
  refine Spec.of Try.func33 rfl Try.ntmps33 rfl (by repeat (first | exact bdl_nil _ | refine bdl_cons (fun _ _ => rfl) ?_ | refine bdl_cons trivial ?_ | refine bdl_cons rfl ?_ | refine bdl_cons (rowsF_bd _ _ _ _) ?_)) fun ρ w => ?_
  have hp := plc_le l k
  repeat (first | refine C.seq ?_ | refine C.region ?_ | refine R.zb ttok ?_ | refine R.zu ttok ?_ | refine R.zc ttok ?_ | refine R.za ttok ?_ | refine R.zx ?_ | refine R.zl ttok ?_ | refine R.zs ttok ?_ | refine R.z ttok ?_ | refine R.zk ?_ | refine R.zn ?_ | refine R.done ?_ | refine X.then ?_ | refine C.block ?_ | refine C.ret ?_ | refine C.skip ?_ | refine C.exit ?_ | refine X.pass_ret ?_ | refine X.pass_exit ?_ | refine X.block_normal ?_ | refine X.block_ret ?_ | refine X.block_exit ?_ | refine C.zt ?_ | refine C.zf ?_ | refine X.zo ?_)
  refine R.cl [0, 1] (findI_spec l c k hA (by omega)) Try.call52 (.same rfl rfl (.other rfl (fun e => by cases e) (fun ρ x w hh => tab_ro hh) .nil)) rfl rfl rfl (fun _ => rfl) rfl (by kernel_rfl) fun _ _ => ?_
  cases hk : hasK l k with
  | false =>
    rw [putI_new v hk, getI_new hk, insL_len]
    repeat (first | refine C.seq ?_ | refine C.region ?_ | refine R.zb ttok ?_ | refine R.zu ttok ?_ | refine R.zc ttok ?_ | refine R.za ttok ?_ | refine R.zx ?_ | refine R.zl ttok ?_ | refine R.zs ttok ?_ | refine R.z ttok ?_ | refine R.zk ?_ | refine R.zn ?_ | refine R.done ?_ | refine X.then ?_ | refine C.block ?_ | refine C.ret ?_ | refine C.skip ?_ | refine C.exit ?_ | refine X.pass_ret ?_ | refine X.pass_exit ?_ | refine X.block_normal ?_ | refine X.block_ret ?_ | refine X.block_exit ?_ | refine C.zt ?_ | refine C.zf ?_ | refine X.zo ?_)
    refine R.cl [1, 2] (insertI_spec l (plc l k) c (k, v) hl hp hc hc2) Try.call58 (.same rfl rfl (.same rfl rfl .nil)) rfl rfl rfl (fun _ => rfl) rfl (by kernel_rfl) fun c' hc' => ?_
    repeat (first | refine C.seq ?_ | refine C.region ?_ | refine R.zb ttok ?_ | refine R.zu ttok ?_ | refine R.zc ttok ?_ | refine R.za ttok ?_ | refine R.zx ?_ | refine R.zl ttok ?_ | refine R.zs ttok ?_ | refine R.z ttok ?_ | refine R.zk ?_ | refine R.zn ?_ | refine R.done ?_ | refine X.then ?_ | refine C.block ?_ | refine C.ret ?_ | refine C.skip ?_ | refine C.exit ?_ | refine X.pass_ret ?_ | refine X.pass_exit ?_ | refine X.block_normal ?_ | refine X.block_ret ?_ | refine X.block_exit ?_ | refine C.zt ?_ | refine C.zf ?_ | refine X.zo ?_)
    refine X.fin ttok c' [(2, 3)] hc' rfl rfl rfl (by exact .same rfl rfl rfl rfl (.same rfl rfl rfl (fun _ _ => rfl) .nil)) _ (by first | exact .inl rfl | exact .inr rfl)
  | true =>
    rw [putI_old v hk, getI_old hk, List.length_set]
    have hlt := (hasK_lt hk).1
    repeat (first | refine C.seq ?_ | refine C.region ?_ | refine R.zb ttok ?_ | refine R.zu ttok ?_ | refine R.zc ttok ?_ | refine R.za ttok ?_ | refine R.zx ?_ | refine R.zl ttok ?_ | refine R.zs ttok ?_ | refine R.z ttok ?_ | refine R.zk ?_ | refine R.zn ?_ | refine R.done ?_ | refine X.then ?_ | refine C.block ?_ | refine C.ret ?_ | refine C.skip ?_ | refine C.exit ?_ | refine X.pass_ret ?_ | refine X.pass_exit ?_ | refine X.block_normal ?_ | refine X.block_ret ?_ | refine X.block_exit ?_ | refine C.zt ?_ | refine C.zf ?_ | refine X.zo ?_)
    refine R.ix ttok (plc l k) rfl rfl rfl rfl rfl (by kernel_rfl) rfl hlt (by show _ < _; omega) rfl ?_
    repeat (first | refine C.seq ?_ | refine C.region ?_ | refine R.zb ttok ?_ | refine R.zu ttok ?_ | refine R.zc ttok ?_ | refine R.za ttok ?_ | refine R.zx ?_ | refine R.zl ttok ?_ | refine R.zs ttok ?_ | refine R.z ttok ?_ | refine R.zk ?_ | refine R.zn ?_ | refine R.done ?_ | refine X.then ?_ | refine C.block ?_ | refine C.ret ?_ | refine C.skip ?_ | refine C.exit ?_ | refine X.pass_ret ?_ | refine X.pass_exit ?_ | refine X.block_normal ?_ | refine X.block_ret ?_ | refine X.block_exit ?_ | refine C.zt ?_ | refine C.zf ?_ | refine X.zo ?_)
    refine R.ldt (v := .raw (.int .i64 (l.getD (plc l k) zI).2)) ttok rfl rfl rfl (by rw [Nat.zero_add]; rfl) rfl (by kernel_rfl) (by omega) ?_
    repeat (first | refine C.seq ?_ | refine C.region ?_ | refine R.zb ttok ?_ | refine R.zu ttok ?_ | refine R.zc ttok ?_ | refine R.za ttok ?_ | refine R.zx ?_ | refine R.zl ttok ?_ | refine R.zs ttok ?_ | refine R.z ttok ?_ | refine R.zk ?_ | refine R.zn ?_ | refine R.done ?_ | refine X.then ?_ | refine C.block ?_ | refine C.ret ?_ | refine C.skip ?_ | refine C.exit ?_ | refine X.pass_ret ?_ | refine X.pass_exit ?_ | refine X.block_normal ?_ | refine X.block_ret ?_ | refine X.block_exit ?_ | refine C.zt ?_ | refine C.zf ?_ | refine X.zo ?_)
    refine R.ix ttok (plc l k) rfl rfl rfl rfl rfl (by kernel_rfl) rfl hlt (by show _ < _; omega) rfl ?_
    repeat (first | refine C.seq ?_ | refine C.region ?_ | refine R.zb ttok ?_ | refine R.zu ttok ?_ | refine R.zc ttok ?_ | refine R.za ttok ?_ | refine R.zx ?_ | refine R.zl ttok ?_ | refine R.zs ttok ?_ | refine R.z ttok ?_ | refine R.zk ?_ | refine R.zn ?_ | refine R.done ?_ | refine X.then ?_ | refine C.block ?_ | refine C.ret ?_ | refine C.skip ?_ | refine C.exit ?_ | refine X.pass_ret ?_ | refine X.pass_exit ?_ | refine X.block_normal ?_ | refine X.block_ret ?_ | refine X.block_exit ?_ | refine C.zt ?_ | refine C.zf ?_ | refine X.zo ?_)
    rw [Nat.zero_add]
    refine R.stt (zs := piA ((l.getD (plc l k) zI).1, v)) ttok rfl rfl rfl rfl rfl rfl rfl (by kernel_rfl) hlt (by show 0 + 1 + 1 ≤ 2; omega) ?_
    rw [upd_pi l (plc l k) v hlt]
    repeat (first | refine C.seq ?_ | refine C.region ?_ | refine R.zb ttok ?_ | refine R.zu ttok ?_ | refine R.zc ttok ?_ | refine R.za ttok ?_ | refine R.zx ?_ | refine R.zl ttok ?_ | refine R.zs ttok ?_ | refine R.z ttok ?_ | refine R.zk ?_ | refine R.zn ?_ | refine R.done ?_ | refine X.then ?_ | refine C.block ?_ | refine C.ret ?_ | refine C.skip ?_ | refine C.exit ?_ | refine X.pass_ret ?_ | refine X.pass_exit ?_ | refine X.block_normal ?_ | refine X.block_ret ?_ | refine X.block_exit ?_ | refine C.zt ?_ | refine C.zf ?_ | refine X.zo ?_)
    refine X.fin ttok c [(2, 1)] ⟨hc, hc2⟩ rfl rfl rfl (by exact .same rfl rfl rfl rfl (.same rfl rfl rfl (fun _ _ => rfl) .nil)) _ (by first | exact .inl rfl | exact .inr rfl)
theorem delI_spec (hA : Asc l) (hl : l.length ≤ 1000000) (hc : l.length ≤ c) (hc2 : c ≤ 9223372036854775807) :
    Spec Try.prog 43 [.ptr 0 0 0 0, .raw (.string k)] [tbI 1 l.length c, tI l c] 3 (σ := Nat) (fun c' => (delI l k).length ≤ c' ∧ c' ≤ 9223372036854775807)
    (fun _ => .tup [.raw (.int .i64 (getI l k)), .raw (.bool (hasK l k))]) (fun c' => [(0, tbI 2 (delI l k).length c'), (2, .tab 2 (delI l k).length c' (piF (delI l k)) 100)]) := by
  refine Spec.of Try.func43 rfl Try.ntmps43 rfl (by repeat (first | exact bdl_nil _ | refine bdl_cons (fun _ _ => rfl) ?_ | refine bdl_cons trivial ?_ | refine bdl_cons rfl ?_ | refine bdl_cons (rowsF_bd _ _ _ _) ?_)) fun ρ w => ?_
  have hp := plc_le l k
  repeat (first | refine C.seq ?_ | refine C.region ?_ | refine R.zb ttok ?_ | refine R.zu ttok ?_ | refine R.zc ttok ?_ | refine R.za ttok ?_ | refine R.zx ?_ | refine R.zl ttok ?_ | refine R.zs ttok ?_ | refine R.z ttok ?_ | refine R.zk ?_ | refine R.zn ?_ | refine R.done ?_ | refine X.then ?_ | refine C.block ?_ | refine C.ret ?_ | refine C.skip ?_ | refine C.exit ?_ | refine X.pass_ret ?_ | refine X.pass_exit ?_ | refine X.block_normal ?_ | refine X.block_ret ?_ | refine X.block_exit ?_ | refine C.zt ?_ | refine C.zf ?_ | refine X.zo ?_)
  refine R.cl [0, 1] (findI_spec l c k hA (by omega)) Try.call52 (.same rfl rfl (.other rfl (fun e => by cases e) (fun ρ x w hh => tab_ro hh) .nil)) rfl rfl rfl (fun _ => rfl) rfl (by kernel_rfl) fun _ _ => ?_
  cases hk : hasK l k with
  | false =>
    rw [delI_new hk, getI_new hk]
    repeat (first | refine C.seq ?_ | refine C.region ?_ | refine R.zb ttok ?_ | refine R.zu ttok ?_ | refine R.zc ttok ?_ | refine R.za ttok ?_ | refine R.zx ?_ | refine R.zl ttok ?_ | refine R.zs ttok ?_ | refine R.z ttok ?_ | refine R.zk ?_ | refine R.zn ?_ | refine R.done ?_ | refine X.then ?_ | refine C.block ?_ | refine C.ret ?_ | refine C.skip ?_ | refine C.exit ?_ | refine X.pass_ret ?_ | refine X.pass_exit ?_ | refine X.block_normal ?_ | refine X.block_ret ?_ | refine X.block_exit ?_ | refine C.zt ?_ | refine C.zf ?_ | refine X.zo ?_)
    refine X.fin ttok c [(2, 1)] ⟨hc, hc2⟩ rfl rfl rfl (by exact .same rfl rfl rfl rfl (.same rfl rfl rfl (fun _ _ => rfl) .nil)) _ (by first | exact .inl rfl | exact .inr rfl)
  | true =>
    have hlt := (hasK_lt hk).1
    rw [delI_old hk, getI_old hk, delL_len l _ hlt]
    repeat (first | refine C.seq ?_ | refine C.region ?_ | refine R.zb ttok ?_ | refine R.zu ttok ?_ | refine R.zc ttok ?_ | refine R.za ttok ?_ | refine R.zx ?_ | refine R.zl ttok ?_ | refine R.zs ttok ?_ | refine R.z ttok ?_ | refine R.zk ?_ | refine R.zn ?_ | refine R.done ?_ | refine X.then ?_ | refine C.block ?_ | refine C.ret ?_ | refine C.skip ?_ | refine C.exit ?_ | refine X.pass_ret ?_ | refine X.pass_exit ?_ | refine X.block_normal ?_ | refine X.block_ret ?_ | refine X.block_exit ?_ | refine C.zt ?_ | refine C.zf ?_ | refine X.zo ?_)
    refine R.ix ttok (plc l k) rfl rfl rfl rfl rfl (by kernel_rfl) rfl hlt (by show _ < _; omega) rfl ?_
    repeat (first | refine C.seq ?_ | refine C.region ?_ | refine R.zb ttok ?_ | refine R.zu ttok ?_ | refine R.zc ttok ?_ | refine R.za ttok ?_ | refine R.zx ?_ | refine R.zl ttok ?_ | refine R.zs ttok ?_ | refine R.z ttok ?_ | refine R.zk ?_ | refine R.zn ?_ | refine R.done ?_ | refine X.then ?_ | refine C.block ?_ | refine C.ret ?_ | refine C.skip ?_ | refine C.exit ?_ | refine X.pass_ret ?_ | refine X.pass_exit ?_ | refine X.block_normal ?_ | refine X.block_ret ?_ | refine X.block_exit ?_ | refine C.zt ?_ | refine C.zf ?_ | refine X.zo ?_)
    refine R.ldt (v := .raw (.int .i64 (l.getD (plc l k) zI).2)) ttok rfl rfl rfl (by rw [Nat.zero_add]; rfl) rfl (by kernel_rfl) (by omega) ?_
    repeat (first | refine C.seq ?_ | refine C.region ?_ | refine R.zb ttok ?_ | refine R.zu ttok ?_ | refine R.zc ttok ?_ | refine R.za ttok ?_ | refine R.zx ?_ | refine R.zl ttok ?_ | refine R.zs ttok ?_ | refine R.z ttok ?_ | refine R.zk ?_ | refine R.zn ?_ | refine R.done ?_ | refine X.then ?_ | refine C.block ?_ | refine C.ret ?_ | refine C.skip ?_ | refine C.exit ?_ | refine X.pass_ret ?_ | refine X.pass_exit ?_ | refine X.block_normal ?_ | refine X.block_ret ?_ | refine X.block_exit ?_ | refine C.zt ?_ | refine C.zf ?_ | refine X.zo ?_)
    refine R.cl [1] (deleteI_spec l (plc l k) c hl hlt hc hc2) Try.call64 (.same rfl rfl .nil) rfl rfl rfl (fun _ => rfl) rfl (by kernel_rfl) fun _ _ => ?_
    repeat (first | refine C.seq ?_ | refine C.region ?_ | refine R.zb ttok ?_ | refine R.zu ttok ?_ | refine R.zc ttok ?_ | refine R.za ttok ?_ | refine R.zx ?_ | refine R.zl ttok ?_ | refine R.zs ttok ?_ | refine R.z ttok ?_ | refine R.zk ?_ | refine R.zn ?_ | refine R.done ?_ | refine X.then ?_ | refine C.block ?_ | refine C.ret ?_ | refine C.skip ?_ | refine C.exit ?_ | refine X.pass_ret ?_ | refine X.pass_exit ?_ | refine X.block_normal ?_ | refine X.block_ret ?_ | refine X.block_exit ?_ | refine C.zt ?_ | refine C.zf ?_ | refine X.zo ?_)
    refine X.fin ttok c [(2, 1)] ⟨by omega, hc2⟩ rfl rfl rfl (by exact .same rfl rfl rfl rfl (.same rfl rfl rfl (fun _ _ => rfl) .nil)) _ (by first | exact .inl rfl | exact .inr rfl)
end
end Go.Proofs.Ytlcojlcackkhpaa
