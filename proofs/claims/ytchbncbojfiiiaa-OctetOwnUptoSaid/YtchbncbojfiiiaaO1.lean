/- octet: rows of sevens -/
import Derived.Test.YtchbncbojfiiiaaK18
import Derived.Test.YtchbncbojfiiiaaK24
import Derived.Test.YtchbncbojfiiiaaP0
import Derived.Test.YtchbncbojfiiiaaTT
namespace Go.Proofs.Ytchbncbojfiiiaa
set_option linter.unusedVariables false
set_option linter.unusedSimpArgs false
open Go.RowKit
set_option maxRecDepth 100000
/-- a row of sevens -/
def sevN (u : Nat) : List UInt8 := if u < 128 then [UInt8.ofNat u] else UInt8.ofNat (u % 128 + 128) :: sevN (u / 128)
termination_by u
theorem sevN_lt {u : Nat} (h : u < 128) : sevN u = [UInt8.ofNat u] := by rw [sevN, if_pos h]
theorem sevN_ge {u : Nat} (h : 128 ≤ u) : sevN u = UInt8.ofNat (u % 128 + 128) :: sevN (u / 128) := by rw [sevN, if_neg (by omega)]
theorem sevN_len : ∀ (k u : Nat), u < 128 ^ k → 0 < k → (sevN u).length ≤ k
  | 0, _, _, h => by omega
  | k + 1, u, h, _ => by
    by_cases h1 : u < 128
    · rw [sevN_lt h1]; simp
    · rw [sevN_ge (by omega)]
      have : u / 128 < 128 ^ k := by
        rw [Nat.div_lt_iff_lt_mul (by omega)]
        rwa [← Nat.pow_succ]
      rcases Nat.eq_zero_or_pos k with rfl | hk
      · simp at this; omega
      · have := sevN_len k _ this hk
        simp; omega
theorem sevN_len10 {u : Nat} (h : u < 18446744073709551616) : (sevN u).length ≤ 10 := sevN_len 10 u (Nat.lt_of_lt_of_le h (by decide)) (by omega)
theorem sevN_pos (u : Nat) : 0 < (sevN u).length := by
  by_cases h : u < 128
  · rw [sevN_lt h]; simp
  · rw [sevN_ge (by omega)]; simp
theorem or128 (x : Nat) : bitV .or .u8 (IntKind.wrap .u8 (x : Int)) 128 = ((UInt8.ofNat (x % 128 + 128)).toNat : Int) := by
  have key : ∀ a : Fin 256, bitV .or .u8 (a.val : Int) 128 = ((a.val % 128 + 128 : Nat) : Int) := by decide
  have h1 := key ⟨x % 256, Nat.mod_lt _ (by omega)⟩
  have h2 : (UInt8.ofNat (x % 128 + 128)).toNat = x % 128 + 128 := by rw [UInt8.toNat_ofNat']; omega
  have h3 : IntKind.wrap .u8 (x : Int) = ((x % 256 : Nat) : Int) := by rw [wrap_u8_mod]; omega
  rw [h3, h2]
  refine h1.trans ?_
  have : x % 256 % 128 = x % 128 := by omega
  simp only [this]
theorem avB_one {x : Int} {b : UInt8} (h : x = (b.toNat : Int)) : ([.raw (.int .u8 x)] : List AV) = avB [b] := by rw [h]; rfl
theorem ofNat_toNat {u : Nat} (h : u < 256) : ((UInt8.ofNat u).toNat : Int) = (u : Int) := by rw [UInt8.toNat_ofNat']; omega
theorem shr7 (x : Nat) : (x : Int).fdiv (2 ^ min (7 : Int).toNat (IntKind.bits .u64)) = ((x / 128 : Nat) : Int) := by
  have : (2 : Int) ^ min (7 : Int).toNat (IntKind.bits .u64) = 128 := by decide
  rw [this, Int.fdiv_eq_ediv_of_nonneg _ (by omega)]
  omega
theorem sevens_spec (u : Nat) (hu : u < 18446744073709551616) : Spec Try.prog 52 [.raw (.int .u64 u)] [] 1 (σ := Nat) (fun c => c ≤ 9223372036854775807) (fun c => .sl 0 1 0 (sevN u).length c) (fun c => [(0, .bytes (sevN u) c 5)]) := by
  refine Spec.of Try.func52 rfl Try.ntmps52 rfl (by simp) fun ρ w => ?_
  repeat (first | refine C.seq ?_ | refine C.region ?_ | refine R.zb ttok ?_ | refine R.zu ttok ?_ | refine R.zc ttok ?_ | refine R.za ttok ?_ | refine R.zx ?_ | refine R.zl ttok ?_ | refine R.zs ttok ?_ | refine R.z ttok ?_ | refine R.zk ?_ | refine R.zn ?_ | refine R.done ?_ | refine X.then ?_ | refine C.block ?_ | refine C.ret ?_ | refine C.skip ?_ | refine C.exit ?_ | refine X.pass_ret ?_ | refine X.pass_exit ?_ | refine X.block_normal ?_ | refine X.block_ret ?_ | refine X.block_exit ?_ | refine C.zt ?_ | refine C.zf ?_ | refine X.zo ?_)
  refine C.noneT 3 (.sl 0 1 0 0 0) (.bytes [] 0 5) (none_bytes _ _) rfl rfl rfl (fun ρ h => sl_none h) ?_
  refine C.loop (σ := List UInt8 × Nat × Nat) (L2 := 1) (fun s => s.1 ++ sevN s.2.1 = sevN u ∧ s.2.1 < 18446744073709551616 ∧ s.2.2 ≤ 9223372036854775807) (fun s => [(0, .raw (.int .u64 s.2.1)), (3, .sl 0 1 0 s.1.length s.2.2)]) (fun s => [(0, .bytes s.1 s.2.2 5)]) _ (fun s => s.2.1) [] ([], u, 0) ⟨rfl, hu, Nat.zero_le _⟩ rfl
    (.cons rfl rfl rfl (.cons rfl rfl rfl .nil)) (.same rfl rfl rfl trivial .nil) rfl (fun _ h => h) ?_
  rintro ⟨p, x, c⟩ ⟨hp, hx, hc⟩
  dsimp only at hp hx hc ⊢
  have hlen : p.length + (sevN x).length ≤ 10 := by
    have := congrArg List.length hp
    rw [List.length_append] at this
    have := sevN_len10 hu
    omega
  have hpos := sevN_pos x
  repeat (first | refine C.seq ?_ | refine C.region ?_ | refine R.zb ttok ?_ | refine R.zu ttok ?_ | refine R.zc ttok ?_ | refine R.za ttok ?_ | refine R.zx ?_ | refine R.zl ttok ?_ | refine R.zs ttok ?_ | refine R.z ttok ?_ | refine R.zk ?_ | refine R.zn ?_ | refine R.done ?_ | refine X.then ?_ | refine C.block ?_ | refine C.ret ?_ | refine C.skip ?_ | refine C.exit ?_ | refine X.pass_ret ?_ | refine X.pass_exit ?_ | refine X.block_normal ?_ | refine X.block_ret ?_ | refine X.block_exit ?_ | refine C.zt ?_ | refine C.zf ?_ | refine X.zo ?_)
  refine C.dec rfl (fun hge => ?_) (fun hlt => ?_)
  · repeat (first | refine C.seq ?_ | refine C.region ?_ | refine R.zb ttok ?_ | refine R.zu ttok ?_ | refine R.zc ttok ?_ | refine R.za ttok ?_ | refine R.zx ?_ | refine R.zl ttok ?_ | refine R.zs ttok ?_ | refine R.z ttok ?_ | refine R.zk ?_ | refine R.zn ?_ | refine R.done ?_ | refine X.then ?_ | refine C.block ?_ | refine C.ret ?_ | refine C.skip ?_ | refine C.exit ?_ | refine X.pass_ret ?_ | refine X.pass_exit ?_ | refine X.block_normal ?_ | refine X.block_ret ?_ | refine X.block_exit ?_ | refine C.zt ?_ | refine C.zf ?_ | refine X.zo ?_)
    refine R.apb ttok (q := [UInt8.ofNat (x % 128 + 128)]) rfl rfl rfl rfl (SrcA.cells rfl rfl) (avB_one (or128 x)) rfl rfl rfl rfl rfl rfl rfl rfl hc (by simp; omega) fun c' h1 h2 => ?_
    repeat (first | refine C.seq ?_ | refine C.region ?_ | refine R.zb ttok ?_ | refine R.zu ttok ?_ | refine R.zc ttok ?_ | refine R.za ttok ?_ | refine R.zx ?_ | refine R.zl ttok ?_ | refine R.zs ttok ?_ | refine R.z ttok ?_ | refine R.zk ?_ | refine R.zn ?_ | refine R.done ?_ | refine X.then ?_ | refine C.block ?_ | refine C.ret ?_ | refine C.skip ?_ | refine C.exit ?_ | refine X.pass_ret ?_ | refine X.pass_exit ?_ | refine X.block_normal ?_ | refine X.block_ret ?_ | refine X.block_exit ?_ | refine C.zt ?_ | refine C.zf ?_ | refine X.zo ?_)
    refine R.shr ((x / 128 : Nat) : Int) rfl rfl rfl rfl (by omega) (shr7 x) ?_
    repeat (first | refine C.seq ?_ | refine C.region ?_ | refine R.zb ttok ?_ | refine R.zu ttok ?_ | refine R.zc ttok ?_ | refine R.za ttok ?_ | refine R.zx ?_ | refine R.zl ttok ?_ | refine R.zs ttok ?_ | refine R.z ttok ?_ | refine R.zk ?_ | refine R.zn ?_ | refine R.done ?_ | refine X.then ?_ | refine C.block ?_ | refine C.ret ?_ | refine C.skip ?_ | refine C.exit ?_ | refine X.pass_ret ?_ | refine X.pass_exit ?_ | refine X.block_normal ?_ | refine X.block_ret ?_ | refine X.block_exit ?_ | refine C.zt ?_ | refine C.zf ?_ | refine X.zo ?_)
    refine X.back [(0, 2)] (p ++ [UInt8.ofNat (x % 128 + 128)], x / 128, c') ⟨?_, by dsimp only; omega, h2⟩ (by dsimp only; omega) rfl (.cons rfl rfl rfl (.cons rfl rfl rfl .nil)) (.same rfl rfl rfl trivial .nil) rfl (fun _ h => h)
    rw [sevN_ge (by omega)] at hp
    rw [← hp, List.append_assoc]; rfl
  · repeat (first | refine C.seq ?_ | refine C.region ?_ | refine R.zb ttok ?_ | refine R.zu ttok ?_ | refine R.zc ttok ?_ | refine R.za ttok ?_ | refine R.zx ?_ | refine R.zl ttok ?_ | refine R.zs ttok ?_ | refine R.z ttok ?_ | refine R.zk ?_ | refine R.zn ?_ | refine R.done ?_ | refine X.then ?_ | refine C.block ?_ | refine C.ret ?_ | refine C.skip ?_ | refine C.exit ?_ | refine X.pass_ret ?_ | refine X.pass_exit ?_ | refine X.block_normal ?_ | refine X.block_ret ?_ | refine X.block_exit ?_ | refine C.zt ?_ | refine C.zf ?_ | refine X.zo ?_)
    refine R.apb ttok (q := [UInt8.ofNat x]) (r := sevN u) rfl rfl rfl rfl (SrcA.cells rfl rfl) (avB_one (ofNat_toNat (by omega)).symm) (by rw [← hp, sevN_lt (by omega)]) rfl rfl rfl rfl rfl rfl rfl hc (by rw [← hp]; simp; omega) fun c' h1 h2 => ?_
    repeat (first | refine C.seq ?_ | refine C.region ?_ | refine R.zb ttok ?_ | refine R.zu ttok ?_ | refine R.zc ttok ?_ | refine R.za ttok ?_ | refine R.zx ?_ | refine R.zl ttok ?_ | refine R.zs ttok ?_ | refine R.z ttok ?_ | refine R.zk ?_ | refine R.zn ?_ | refine R.done ?_ | refine X.then ?_ | refine C.block ?_ | refine C.ret ?_ | refine C.skip ?_ | refine C.exit ?_ | refine X.pass_ret ?_ | refine X.pass_exit ?_ | refine X.block_normal ?_ | refine X.block_ret ?_ | refine X.block_exit ?_ | refine C.zt ?_ | refine C.zf ?_ | refine X.zo ?_)
    refine X.fin ttok c' [(0, 2)] h2 rfl rfl rfl ?_ _ (.inl rfl)
    exact .same rfl rfl rfl trivial .nil
end Go.Proofs.Ytchbncbojfiiiaa
