/- octet: the Writer, the rest -/
import Derived.Test.YtchbncbojfiiiaaO4
import Derived.Test.YtchbncbojfiiiaaK21
namespace Go.Proofs.Ytchbncbojfiiiaa
set_option linter.unusedVariables false
set_option linter.unusedSimpArgs false
open Go.RowKit
set_option maxRecDepth 100000
theorem zig_xor {v : Int} (h1 : -9223372036854775808 ≤ v) (h2 : v ≤ 9223372036854775807) : bitV .xor .u64 (IntKind.wrap .u64 (IntKind.wrap .u64 v * 2 ^ (min (1 : Int).toNat (IntKind.bits .u64)))) (IntKind.wrap .u64 (v.fdiv (2 ^ (min (63 : Int).toNat (IntKind.bits .i64))))) = ((zigN v : Nat) : Int) := by
  have e1 : (2 : Int) ^ (min (1 : Int).toNat (IntKind.bits .u64)) = 2 := by decide
  have e2 : (2 : Int) ^ (min (63 : Int).toNat (IntKind.bits .i64)) = 9223372036854775808 := by decide
  rw [e1, e2, Int.fdiv_eq_ediv_of_nonneg _ (by omega)]
  by_cases hv : 0 ≤ v
  · have e3 : v / 9223372036854775808 = 0 := by omega
    rw [e3, wrap_u64 hv (by omega), wrap_u64 (show (0 : Int) ≤ v * 2 by omega) (by omega), wrap_u64 (show (0 : Int) ≤ 0 by omega) (by omega)]
    unfold zigN
    rw [if_pos hv]
    obtain ⟨k, rfl⟩ : ∃ k : Nat, v = k := ⟨v.toNat, by omega⟩
    have e4 : ((k : Int) * 2) = ((2 * k : Nat) : Int) := by omega
    have e5 : (BitVec.ofInt 64 ((2 * k : Nat) : Int) ^^^ BitVec.ofInt 64 0).toNat = 2 * k := by
      rw [BitVec.ofInt_natCast]
      simp
      omega
    rw [e4]
    show IntKind.wrap .u64 ((BitVec.ofInt 64 ((2 * k : Nat) : Int) ^^^ BitVec.ofInt 64 0).toNat : Int) = _
    rw [e5, wrap_u64 (by omega) (by omega)]
    omega
  · have e3 : v / 9223372036854775808 = -1 := by omega
    have e6 : IntKind.wrap .u64 v = v + 18446744073709551616 := by rw [wrap_u64_mod]; omega
    have e7 : IntKind.wrap .u64 ((v + 18446744073709551616) * 2) = 2 * v + 18446744073709551616 := by rw [wrap_u64_mod]; omega
    have e8 : IntKind.wrap .u64 (-1) = 18446744073709551615 := by decide
    rw [e3, e6, e7, e8]
    obtain ⟨k, hk⟩ : ∃ k : Nat, 2 * v + 18446744073709551616 = k := ⟨(2 * v + 18446744073709551616).toNat, by omega⟩
    rw [hk]
    have e5 : (BitVec.ofInt 64 (k : Int) ^^^ BitVec.ofInt 64 18446744073709551615).toNat = 18446744073709551615 - k := by
      have : BitVec.ofInt 64 18446744073709551615 = BitVec.allOnes 64 := by decide
      rw [BitVec.ofInt_natCast, this, BitVec.xor_allOnes, BitVec.toNat_not, BitVec.toNat_ofNat]
      omega
    show IntKind.wrap .u64 ((BitVec.ofInt 64 (k : Int) ^^^ BitVec.ofInt 64 18446744073709551615).toNat : Int) = _
    rw [e5, wrap_u64 (by omega) (by omega)]
    unfold zigN
    rw [if_neg hv]
    omega
theorem wint_spec (p : List UInt8) (c : Nat) (e v : Int) (hc : c ≤ 9223372036854775807) (hp : p.length ≤ 100000000000000) (hv1 : -9223372036854775808 ≤ v) (hv : v ≤ 9223372036854775807) :
    Spec Try.prog 28 [.ptr 0 0 0 0, .raw (.int .i64 v)] [wrO 1 p c e, .bytes p c 5] 3 (σ := Nat) (fun c => c ≤ 9223372036854775807) (fun c => .tup []) (fun c => [(0, wrO 2 (layF p e (sevN (zigN v))) c e), (2, .bytes (layF p e (sevN (zigN v))) c 5)]) := by
  refine Spec.of Try.func28 rfl Try.ntmps28 rfl (by simp [AO.Bd, bytesF, AV.bds, AV.bd]) fun ρ w => ?_
  have hu := zigN_lt hv1 hv
  have hl := sevN_len10 hu
  repeat (first | refine C.seq ?_ | refine C.region ?_ | refine R.zb ttok ?_ | refine R.zu ttok ?_ | refine R.zc ttok ?_ | refine R.za ttok ?_ | refine R.zx ?_ | refine R.zl ttok ?_ | refine R.zs ttok ?_ | refine R.z ttok ?_ | refine R.zk ?_ | refine R.zn ?_ | refine R.done ?_ | refine X.then ?_ | refine C.block ?_ | refine C.ret ?_ | refine C.skip ?_ | refine C.exit ?_ | refine X.pass_ret ?_ | refine X.pass_exit ?_ | refine X.block_normal ?_ | refine X.block_ret ?_ | refine X.block_exit ?_ | refine C.zt ?_ | refine C.zf ?_ | refine X.zo ?_)
  refine R.shl _ rfl rfl rfl rfl (by decide) rfl ?_
  repeat (first | refine C.seq ?_ | refine C.region ?_ | refine R.zb ttok ?_ | refine R.zu ttok ?_ | refine R.zc ttok ?_ | refine R.za ttok ?_ | refine R.zx ?_ | refine R.zl ttok ?_ | refine R.zs ttok ?_ | refine R.z ttok ?_ | refine R.zk ?_ | refine R.zn ?_ | refine R.done ?_ | refine X.then ?_ | refine C.block ?_ | refine C.ret ?_ | refine C.skip ?_ | refine C.exit ?_ | refine X.pass_ret ?_ | refine X.pass_exit ?_ | refine X.block_normal ?_ | refine X.block_ret ?_ | refine X.block_exit ?_ | refine C.zt ?_ | refine C.zf ?_ | refine X.zo ?_)
  refine R.shr _ rfl rfl rfl rfl (by decide) rfl ?_
  refine R.s ttok rfl rfl rfl ?_
  refine R.v ttok _ rfl (congrArg (Value.int .u64) (zig_xor hv1 hv)) rfl rfl ?_
  refine R.cl [] (sevens_spec _ hu) Try.call52 .nil rfl rfl rfl (fun _ => rfl) rfl rfl fun c1 hc1 => ?_
  refine R.cl [0, 1, 2] (wlay_spec p _ c c1 e hc (by omega)) Try.call51 (.same rfl rfl (.same rfl rfl (.bro rfl .nil))) rfl rfl rfl (fun _ => rfl) rfl rfl fun c' hc' => ?_
  repeat (first | refine C.seq ?_ | refine C.region ?_ | refine R.zb ttok ?_ | refine R.zu ttok ?_ | refine R.zc ttok ?_ | refine R.za ttok ?_ | refine R.zx ?_ | refine R.zl ttok ?_ | refine R.zs ttok ?_ | refine R.z ttok ?_ | refine R.zk ?_ | refine R.zn ?_ | refine R.done ?_ | refine X.then ?_ | refine C.block ?_ | refine C.ret ?_ | refine C.skip ?_ | refine C.exit ?_ | refine X.pass_ret ?_ | refine X.pass_exit ?_ | refine X.block_normal ?_ | refine X.block_ret ?_ | refine X.block_exit ?_ | refine C.zt ?_ | refine C.zf ?_ | refine X.zo ?_)
  refine X.fin ttok c' [(2, 3)] hc' rfl rfl rfl ?_ _ (.inr rfl)
  exact .same rfl rfl rfl rfl (.same rfl rfl rfl trivial .nil)
theorem mod256 (x : Nat) : IntKind.wrap .u8 (x : Int) = ((UInt8.ofNat (x % 256)).toNat : Int) := by
  rw [wrap_u8_mod, ofNat_toNat (Nat.mod_lt _ (by decide))]; omega
theorem shr8 (x : Nat) : (x : Int).fdiv (2 ^ min (8 : Int).toNat (IntKind.bits .u64)) = ((x / 256 : Nat) : Int) := by
  have : (2 : Int) ^ min (8 : Int).toNat (IntKind.bits .u64) = 256 := by decide
  rw [this, Int.fdiv_eq_ediv_of_nonneg _ (by omega)]
  omega
theorem wfixed_spec (p : List UInt8) (c : Nat) (e : Int) (v : Nat) (n : Int) (hc : c ≤ 9223372036854775807) (hp : p.length ≤ 100000000000000) (hv : v < 18446744073709551616) :
    Spec Try.prog 30 [.ptr 0 0 0 0, .raw (.int .u64 v), .raw (.int .i64 n)] [wrO 1 p c e, .bytes p c 5] 3 (σ := Nat) (fun c => c ≤ 9223372036854775807) (fun c => .tup []) (fun c => [(0, wrO 2 (fixP p e v n) c (fixE e n)), (2, .bytes (fixP p e v n) c 5)]) := by
  refine Spec.of Try.func30 rfl Try.ntmps30 rfl (by simp [AO.Bd, bytesF, AV.bds, AV.bd]) fun ρ w => ?_
  have bad : n < 0 ∨ 8 < n → fixP p e v n = p ∧ fixE e n = stopE e 1 := fun h => ⟨if_pos h, if_pos h⟩
  have good : ¬ (n < 0 ∨ 8 < n) → fixP p e v n = layF p e (leN n.toNat v) ∧ fixE e n = e := fun h => ⟨if_neg h, if_neg h⟩
  repeat (first | refine C.seq ?_ | refine C.region ?_ | refine R.zb ttok ?_ | refine R.zu ttok ?_ | refine R.zc ttok ?_ | refine R.za ttok ?_ | refine R.zx ?_ | refine R.zl ttok ?_ | refine R.zs ttok ?_ | refine R.z ttok ?_ | refine R.zk ?_ | refine R.zn ?_ | refine R.done ?_ | refine X.then ?_ | refine C.block ?_ | refine C.ret ?_ | refine C.skip ?_ | refine C.exit ?_ | refine X.pass_ret ?_ | refine X.pass_exit ?_ | refine X.block_normal ?_ | refine X.block_ret ?_ | refine X.block_exit ?_ | refine C.zt ?_ | refine C.zf ?_ | refine X.zo ?_)
  by_cases h1 : n < 0
  · obtain ⟨b1, b2⟩ := bad (.inl h1)
    rw [decide_eq_true h1, b1, b2]
    repeat (first | refine C.seq ?_ | refine C.region ?_ | refine R.zb ttok ?_ | refine R.zu ttok ?_ | refine R.zc ttok ?_ | refine R.za ttok ?_ | refine R.zx ?_ | refine R.zl ttok ?_ | refine R.zs ttok ?_ | refine R.z ttok ?_ | refine R.zk ?_ | refine R.zn ?_ | refine R.done ?_ | refine X.then ?_ | refine C.block ?_ | refine C.ret ?_ | refine C.skip ?_ | refine C.exit ?_ | refine X.pass_ret ?_ | refine X.pass_exit ?_ | refine X.block_normal ?_ | refine X.block_ret ?_ | refine X.block_exit ?_ | refine C.zt ?_ | refine C.zf ?_ | refine X.zo ?_)
    refine R.cl [0, 1] (wstop_spec p c e 1) Try.call50 (.same rfl rfl (.same rfl rfl .nil)) rfl rfl rfl (fun _ => rfl) rfl rfl fun _ _ => ?_
    repeat (first | refine C.seq ?_ | refine C.region ?_ | refine R.zb ttok ?_ | refine R.zu ttok ?_ | refine R.zc ttok ?_ | refine R.za ttok ?_ | refine R.zx ?_ | refine R.zl ttok ?_ | refine R.zs ttok ?_ | refine R.z ttok ?_ | refine R.zk ?_ | refine R.zn ?_ | refine R.done ?_ | refine X.then ?_ | refine C.block ?_ | refine C.ret ?_ | refine C.skip ?_ | refine C.exit ?_ | refine X.pass_ret ?_ | refine X.pass_exit ?_ | refine X.block_normal ?_ | refine X.block_ret ?_ | refine X.block_exit ?_ | refine C.zt ?_ | refine C.zf ?_ | refine X.zo ?_)
    refine X.fin ttok c [(2, 1)] hc rfl rfl rfl ?_ _ (.inl rfl)
    exact .same rfl rfl rfl rfl (.same rfl rfl rfl trivial .nil)
  · rw [decide_eq_false h1]
    repeat (first | refine C.seq ?_ | refine C.region ?_ | refine R.zb ttok ?_ | refine R.zu ttok ?_ | refine R.zc ttok ?_ | refine R.za ttok ?_ | refine R.zx ?_ | refine R.zl ttok ?_ | refine R.zs ttok ?_ | refine R.z ttok ?_ | refine R.zk ?_ | refine R.zn ?_ | refine R.done ?_ | refine X.then ?_ | refine C.block ?_ | refine C.ret ?_ | refine C.skip ?_ | refine C.exit ?_ | refine X.pass_ret ?_ | refine X.pass_exit ?_ | refine X.block_normal ?_ | refine X.block_ret ?_ | refine X.block_exit ?_ | refine C.zt ?_ | refine C.zf ?_ | refine X.zo ?_)
    refine C.dec rfl (fun h2 => ?_) (fun h2 => ?_)
    · obtain ⟨b1, b2⟩ := bad (.inr h2)
      rw [b1, b2]
      repeat (first | refine C.seq ?_ | refine C.region ?_ | refine R.zb ttok ?_ | refine R.zu ttok ?_ | refine R.zc ttok ?_ | refine R.za ttok ?_ | refine R.zx ?_ | refine R.zl ttok ?_ | refine R.zs ttok ?_ | refine R.z ttok ?_ | refine R.zk ?_ | refine R.zn ?_ | refine R.done ?_ | refine X.then ?_ | refine C.block ?_ | refine C.ret ?_ | refine C.skip ?_ | refine C.exit ?_ | refine X.pass_ret ?_ | refine X.pass_exit ?_ | refine X.block_normal ?_ | refine X.block_ret ?_ | refine X.block_exit ?_ | refine C.zt ?_ | refine C.zf ?_ | refine X.zo ?_)
      refine R.cl [0, 1] (wstop_spec p c e 1) Try.call50 (.same rfl rfl (.same rfl rfl .nil)) rfl rfl rfl (fun _ => rfl) rfl rfl fun _ _ => ?_
      repeat (first | refine C.seq ?_ | refine C.region ?_ | refine R.zb ttok ?_ | refine R.zu ttok ?_ | refine R.zc ttok ?_ | refine R.za ttok ?_ | refine R.zx ?_ | refine R.zl ttok ?_ | refine R.zs ttok ?_ | refine R.z ttok ?_ | refine R.zk ?_ | refine R.zn ?_ | refine R.done ?_ | refine X.then ?_ | refine C.block ?_ | refine C.ret ?_ | refine C.skip ?_ | refine C.exit ?_ | refine X.pass_ret ?_ | refine X.pass_exit ?_ | refine X.block_normal ?_ | refine X.block_ret ?_ | refine X.block_exit ?_ | refine C.zt ?_ | refine C.zf ?_ | refine X.zo ?_)
      refine X.fin ttok c [(2, 1)] hc rfl rfl rfl ?_ _ (.inl rfl)
      exact .same rfl rfl rfl rfl (.same rfl rfl rfl trivial .nil)
    · obtain ⟨g1, g2⟩ := good (by omega)
      obtain ⟨k, rfl⟩ : ∃ k : Nat, n = k := ⟨n.toNat, by omega⟩
      rw [Int.toNat_natCast] at g1
      have hk : k ≤ 8 := by omega
      rw [g1, g2]
      repeat (first | refine C.seq ?_ | refine C.region ?_ | refine R.zb ttok ?_ | refine R.zu ttok ?_ | refine R.zc ttok ?_ | refine R.za ttok ?_ | refine R.zx ?_ | refine R.zl ttok ?_ | refine R.zs ttok ?_ | refine R.z ttok ?_ | refine R.zk ?_ | refine R.zn ?_ | refine R.done ?_ | refine X.then ?_ | refine C.block ?_ | refine C.ret ?_ | refine C.skip ?_ | refine C.exit ?_ | refine X.pass_ret ?_ | refine X.pass_exit ?_ | refine X.block_normal ?_ | refine X.block_ret ?_ | refine X.block_exit ?_ | refine C.zt ?_ | refine C.zf ?_ | refine X.zo ?_)
      refine C.loop (σ := List UInt8 × Nat × Nat × Nat) (L2 := 3) (fun s => layF s.1 e (leN (k - s.2.2.1) s.2.1) = layF p e (leN k v) ∧ s.2.1 < 18446744073709551616 ∧ s.2.2.1 ≤ k ∧ s.2.2.2 ≤ 9223372036854775807 ∧ s.1.length ≤ p.length + s.2.2.1)
        (fun s => [(0, .ptr 0 0 0 0), (1, .raw (.int .u64 s.2.1)), (14, .raw (.int .i64 k)), (15, .raw (.int .i64 s.2.2.1))])
        (fun s => [(0, wrO 2 s.1 s.2.2.2 e), (2, .bytes s.1 s.2.2.2 5)]) _ (fun s => k - s.2.2.1) [(2, 1)] (p, v, 0, c) ⟨rfl, hv, Nat.zero_le _, hc, by simp⟩ rfl
        (.cons rfl rfl rfl (.cons rfl rfl rfl (.cons rfl rfl rfl (.cons rfl rfl rfl .nil)))) (.same rfl rfl rfl rfl (.same rfl rfl rfl trivial .nil)) rfl (fun _ h => h) ?_
      rintro ⟨q, x, i, c2⟩ ⟨hq, hx, hi, hc2, hlen⟩
      dsimp only at hq hx hi hc2 hlen ⊢
      repeat (first | refine C.seq ?_ | refine C.region ?_ | refine R.zb ttok ?_ | refine R.zu ttok ?_ | refine R.zc ttok ?_ | refine R.za ttok ?_ | refine R.zx ?_ | refine R.zl ttok ?_ | refine R.zs ttok ?_ | refine R.z ttok ?_ | refine R.zk ?_ | refine R.zn ?_ | refine R.done ?_ | refine X.then ?_ | refine C.block ?_ | refine C.ret ?_ | refine C.skip ?_ | refine C.exit ?_ | refine X.pass_ret ?_ | refine X.pass_exit ?_ | refine X.block_normal ?_ | refine X.block_ret ?_ | refine X.block_exit ?_ | refine C.zt ?_ | refine C.zf ?_ | refine X.zo ?_)
      refine C.dec rfl (fun hlt => ?_) (fun hge => ?_)
      · have hlt : i < k := by omega
        have hll := layF_len q [UInt8.ofNat (x % 256)] e
        repeat (first | refine C.seq ?_ | refine C.region ?_ | refine R.zb ttok ?_ | refine R.zu ttok ?_ | refine R.zc ttok ?_ | refine R.za ttok ?_ | refine R.zx ?_ | refine R.zl ttok ?_ | refine R.zs ttok ?_ | refine R.z ttok ?_ | refine R.zk ?_ | refine R.zn ?_ | refine R.done ?_ | refine X.then ?_ | refine C.block ?_ | refine C.ret ?_ | refine C.skip ?_ | refine C.exit ?_ | refine X.pass_ret ?_ | refine X.pass_exit ?_ | refine X.block_normal ?_ | refine X.block_ret ?_ | refine X.block_exit ?_ | refine C.zt ?_ | refine C.zf ?_ | refine X.zo ?_)
        refine R.cl [0, 2, 3] (wlay_spec q [UInt8.ofNat (x % 256)] c2 1 e hc2 (by simp; omega)) Try.call51 (.same rfl rfl (.same rfl rfl (.cro rfl (avB_one (mod256 x)) .nil))) rfl rfl rfl (fun _ => rfl) rfl rfl fun c' hc' => ?_
        repeat (first | refine C.seq ?_ | refine C.region ?_ | refine R.zb ttok ?_ | refine R.zu ttok ?_ | refine R.zc ttok ?_ | refine R.za ttok ?_ | refine R.zx ?_ | refine R.zl ttok ?_ | refine R.zs ttok ?_ | refine R.z ttok ?_ | refine R.zk ?_ | refine R.zn ?_ | refine R.done ?_ | refine X.then ?_ | refine C.block ?_ | refine C.ret ?_ | refine C.skip ?_ | refine C.exit ?_ | refine X.pass_ret ?_ | refine X.pass_exit ?_ | refine X.block_normal ?_ | refine X.block_ret ?_ | refine X.block_exit ?_ | refine C.zt ?_ | refine C.zf ?_ | refine X.zo ?_)
        refine R.shr ((x / 256 : Nat) : Int) rfl rfl rfl rfl (by omega) (shr8 x) ?_
        repeat (first | refine C.seq ?_ | refine C.region ?_ | refine R.zb ttok ?_ | refine R.zu ttok ?_ | refine R.zc ttok ?_ | refine R.za ttok ?_ | refine R.zx ?_ | refine R.zl ttok ?_ | refine R.zs ttok ?_ | refine R.z ttok ?_ | refine R.zk ?_ | refine R.zn ?_ | refine R.done ?_ | refine X.then ?_ | refine C.block ?_ | refine C.ret ?_ | refine C.skip ?_ | refine C.exit ?_ | refine X.pass_ret ?_ | refine X.pass_exit ?_ | refine X.block_normal ?_ | refine X.block_ret ?_ | refine X.block_exit ?_ | refine C.zt ?_ | refine C.zf ?_ | refine X.zo ?_)
        refine X.back [(2, 4)] (layF q e [UInt8.ofNat (x % 256)], x / 256, i + 1, c') ⟨?_, by dsimp only; omega, by dsimp only; omega, hc', by dsimp only; simp at hll; omega⟩ (by dsimp only; omega) rfl ?_ ?_ rfl (fun _ h => h)
        · dsimp only
          rw [layF_two, ← hq, show k - i = (k - (i + 1)) + 1 by omega, leN]; rfl
        · exact .cons rfl rfl rfl (.cons rfl rfl rfl (.cons rfl rfl rfl (.cons rfl rfl rfl .nil)))
        · exact .same rfl rfl rfl rfl (.same rfl rfl rfl trivial .nil)
      · have hge : i = k := by omega
        subst hge
        rw [Nat.sub_self, leN, layF_nil] at hq
        subst hq
        repeat (first | refine C.seq ?_ | refine C.region ?_ | refine R.zb ttok ?_ | refine R.zu ttok ?_ | refine R.zc ttok ?_ | refine R.za ttok ?_ | refine R.zx ?_ | refine R.zl ttok ?_ | refine R.zs ttok ?_ | refine R.z ttok ?_ | refine R.zk ?_ | refine R.zn ?_ | refine R.done ?_ | refine X.then ?_ | refine C.block ?_ | refine C.ret ?_ | refine C.skip ?_ | refine C.exit ?_ | refine X.pass_ret ?_ | refine X.pass_exit ?_ | refine X.block_normal ?_ | refine X.block_ret ?_ | refine X.block_exit ?_ | refine C.zt ?_ | refine C.zf ?_ | refine X.zo ?_)
        refine X.fin ttok c2 [] hc2 rfl rfl rfl ?_ _ (.inr rfl)
        exact .same rfl rfl rfl rfl (.same rfl rfl rfl trivial .nil)
end Go.Proofs.Ytchbncbojfiiiaa
