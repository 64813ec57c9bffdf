/- frame: next, Scan, and what goes through it -/
import Derived.Test.YtggnjgnjgnlchaaFS1
namespace Go.Proofs.Ytggnjgnjgnlchaa
set_option linter.unusedVariables false
set_option linter.unusedSimpArgs false
open Go.RowKit
set_option maxRecDepth 100000
set_option maxHeartbeats 4000000
theorem word_spec (off c : Nat) (p : List UInt8) (h4 : 4 ≤ p.length) (hl : p.length ≤ 1000000000) : Spec Try.prog 46 [.sl 0 1 off p.length c] [roBo off p] 1 (σ := Unit) (fun _ => True) (fun _ => .raw (.int .u32 (le4 p : Nat))) (fun _ => []) :=
  Spec.of_below (by simp) fun ρ w h => (word_any p _ c w (ro_at (h 0 _ rfl)) h4 (by omega)).mono fun e w' ⟨h1, h2⟩ => ⟨by rw [h1, v32_ofNat (le4_lt p)], by rw [h2]; exact Below.refl _ _⟩
theorem of_spec (off c : Nat) (p : List UInt8) (hl : p.length ≤ 1000000000) : Spec Try.prog 42 [.sl 0 1 off p.length c] [roBo off p] 1 (σ := Unit) (fun _ => True) (fun _ => .raw (.int .u32 (v32 (crcOf p) : Nat))) (fun _ => []) :=
  Spec.of_below (by simp) fun ρ w h => of_any p _ c w (ro_at (h 0 _ rfl)) (by omega)
theorem update_spec (off c : Nat) (s : BitVec 32) (p : List UInt8) (hl : p.length ≤ 1000000000) : Spec Try.prog 41 [.raw (.int .u32 (v32 s : Nat)), .sl 0 1 off p.length c] [roBo off p] 1 (σ := Unit) (fun _ => True) (fun _ => .raw (.int .u32 (v32 (crcUpdate s p) : Nat))) (fun _ => []) :=
  Spec.of_below (by simp) fun ρ w h => update_any s p _ c w (ro_at (h 0 _ rfl)) (by omega)
theorem PartOf.drop {p : List UInt8} {o : Nat} (h : o ≤ p.length) : PartOf (p.drop o) p o := by
  have := PartOf.sub (p := p) (o := o) (k := p.length - o) (by omega)
  rwa [List.take_of_length_le (by rw [List.length_drop]; omega)] at this
def nxV (off c : Nat) (p : List UInt8) (k : Nat) : AV := match nextN p k with
  | .ok (b, e) => .tup [.sl 0 1 (off + (k + 8)) b.length (c - (k + 8)), .raw (.int .i64 (e : Nat)), .raw (.int .i64 0)]
  | .error x => .tup [.raw (.slice none 0 0), .raw (.int .i64 0), .raw (.int .i64 (x : Nat))]
theorem next_spec (off c : Nat) (p : List UInt8) (k : Nat) (hc : p.length ≤ c) (hl : p.length ≤ 1000000000) (hk : k ≤ p.length) : Spec Try.prog 35 [.sl 0 1 off p.length c, .raw (.int .i64 (k : Nat))] [roBo off p] 1 (σ := Unit) (fun _ => True) (fun _ => nxV off c p k) (fun _ => []) := by
  have err : ∀ x : Nat, nextN p k = .error x → nxV off c p k = .tup [.raw (.slice none 0 0), .raw (.int .i64 0), .raw (.int .i64 (x : Nat))] := fun x h => by unfold nxV; rw [h]
  refine Spec.of Try.func35 rfl Try.ntmps35 rfl (by repeat (first | exact bdl_nil _ | refine bdl_cons (fun _ _ => rfl) ?_ | refine bdl_cons trivial ?_ | refine bdl_cons rfl ?_ | refine bdl_cons (rowsF_bd _ _ _ _) ?_ | refine bdl_cons (rowsS_bd _ _ _ _) ?_)) fun ρ w => ?_
  repeat (first | refine C.seq ?_ | refine C.region ?_ | refine R.zb ttok ?_ | refine R.zu ttok ?_ | refine R.zc ttok ?_ | refine R.za ttok ?_ | refine R.zx ?_ | refine R.zl ttok ?_ | refine R.zs ttok ?_ | refine R.z ttok ?_ | refine R.zk ?_ | refine R.zn ?_ | refine R.done ?_ | refine X.then ?_ | refine C.block ?_ | refine C.ret ?_ | refine C.skip ?_ | refine C.exit ?_ | refine X.pass_ret ?_ | refine X.pass_exit ?_ | refine X.block_normal ?_ | refine X.block_ret ?_ | refine X.block_exit ?_ | refine C.zt ?_ | refine C.zf ?_ | refine X.zo ?_)
  rw [decide_eq_false (show ¬ (k : Int) < 0 by omega)]
  repeat (first | refine C.seq ?_ | refine C.region ?_ | refine R.zb ttok ?_ | refine R.zu ttok ?_ | refine R.zc ttok ?_ | refine R.za ttok ?_ | refine R.zx ?_ | refine R.zl ttok ?_ | refine R.zs ttok ?_ | refine R.z ttok ?_ | refine R.zk ?_ | refine R.zn ?_ | refine R.done ?_ | refine X.then ?_ | refine C.block ?_ | refine C.ret ?_ | refine C.skip ?_ | refine C.exit ?_ | refine X.pass_ret ?_ | refine X.pass_exit ?_ | refine X.block_normal ?_ | refine X.block_ret ?_ | refine X.block_exit ?_ | refine C.zt ?_ | refine C.zf ?_ | refine X.zo ?_)
  rw [decide_eq_false (show ¬ (p.length : Int) < (k : Nat) by omega)]
  repeat (first | refine C.seq ?_ | refine C.region ?_ | refine R.zb ttok ?_ | refine R.zu ttok ?_ | refine R.zc ttok ?_ | refine R.za ttok ?_ | refine R.zx ?_ | refine R.zl ttok ?_ | refine R.zs ttok ?_ | refine R.z ttok ?_ | refine R.zk ?_ | refine R.zn ?_ | refine R.done ?_ | refine X.then ?_ | refine C.block ?_ | refine C.ret ?_ | refine C.skip ?_ | refine C.exit ?_ | refine X.pass_ret ?_ | refine X.pass_exit ?_ | refine X.block_normal ?_ | refine X.block_ret ?_ | refine X.block_exit ?_ | refine C.zt ?_ | refine C.zf ?_ | refine X.zo ?_)
  by_cases h3 : k = p.length
  · rw [err 12 (by unfold nextN; rw [if_pos h3])]
    rw [decide_eq_true (show (k : Int) = (p.length : Nat) by omega)]
    repeat (first | refine C.seq ?_ | refine C.region ?_ | refine R.zb ttok ?_ | refine R.zu ttok ?_ | refine R.zc ttok ?_ | refine R.za ttok ?_ | refine R.zx ?_ | refine R.zl ttok ?_ | refine R.zs ttok ?_ | refine R.z ttok ?_ | refine R.zk ?_ | refine R.zn ?_ | refine R.done ?_ | refine X.then ?_ | refine C.block ?_ | refine C.ret ?_ | refine C.skip ?_ | refine C.exit ?_ | refine X.pass_ret ?_ | refine X.pass_exit ?_ | refine X.block_normal ?_ | refine X.block_ret ?_ | refine X.block_exit ?_ | refine C.zt ?_ | refine C.zf ?_ | refine X.zo ?_)
    refine X.fin ttok () [] trivial rfl rfl rfl (by repeat (first | exact HasH.nil | refine HasH.same rfl rfl rfl trivial ?_ | refine HasH.same rfl rfl rfl rfl ?_ | refine HasH.same rfl rfl rfl (fun _ _ => rfl) ?_ | refine HasH.ros rfl rfl ?_)) _ (by first | exact .inl rfl | exact .inr rfl)
  rw [decide_eq_false (show ¬ (k : Int) = (p.length : Nat) by omega)]
  repeat (first | refine C.seq ?_ | refine C.region ?_ | refine R.zb ttok ?_ | refine R.zu ttok ?_ | refine R.zc ttok ?_ | refine R.za ttok ?_ | refine R.zx ?_ | refine R.zl ttok ?_ | refine R.zs ttok ?_ | refine R.z ttok ?_ | refine R.zk ?_ | refine R.zn ?_ | refine R.done ?_ | refine X.then ?_ | refine C.block ?_ | refine C.ret ?_ | refine C.skip ?_ | refine C.exit ?_ | refine X.pass_ret ?_ | refine X.pass_exit ?_ | refine X.block_normal ?_ | refine X.block_ret ?_ | refine X.block_exit ?_ | refine C.zt ?_ | refine C.zf ?_ | refine X.zo ?_)
  by_cases h4 : p.length - k < 8
  · rw [err 13 (by unfold nextN; rw [if_neg h3, if_pos h4])]
    rw [decide_eq_true (show (p.length : Int) - (k : Nat) < 8 by omega)]
    repeat (first | refine C.seq ?_ | refine C.region ?_ | refine R.zb ttok ?_ | refine R.zu ttok ?_ | refine R.zc ttok ?_ | refine R.za ttok ?_ | refine R.zx ?_ | refine R.zl ttok ?_ | refine R.zs ttok ?_ | refine R.z ttok ?_ | refine R.zk ?_ | refine R.zn ?_ | refine R.done ?_ | refine X.then ?_ | refine C.block ?_ | refine C.ret ?_ | refine C.skip ?_ | refine C.exit ?_ | refine X.pass_ret ?_ | refine X.pass_exit ?_ | refine X.block_normal ?_ | refine X.block_ret ?_ | refine X.block_exit ?_ | refine C.zt ?_ | refine C.zf ?_ | refine X.zo ?_)
    refine X.fin ttok () [] trivial rfl rfl rfl (by repeat (first | exact HasH.nil | refine HasH.same rfl rfl rfl trivial ?_ | refine HasH.same rfl rfl rfl rfl ?_ | refine HasH.same rfl rfl rfl (fun _ _ => rfl) ?_ | refine HasH.ros rfl rfl ?_)) _ (by first | exact .inl rfl | exact .inr rfl)
  rw [decide_eq_false (show ¬ (p.length : Int) - (k : Nat) < 8 by omega)]
  repeat (first | refine C.seq ?_ | refine C.region ?_ | refine R.zb ttok ?_ | refine R.zu ttok ?_ | refine R.zc ttok ?_ | refine R.za ttok ?_ | refine R.zx ?_ | refine R.zl ttok ?_ | refine R.zs ttok ?_ | refine R.z ttok ?_ | refine R.zk ?_ | refine R.zn ?_ | refine R.done ?_ | refine X.then ?_ | refine C.block ?_ | refine C.ret ?_ | refine C.skip ?_ | refine C.exit ?_ | refine X.pass_ret ?_ | refine X.pass_exit ?_ | refine X.block_normal ?_ | refine X.block_ret ?_ | refine X.block_exit ?_ | refine C.zt ?_ | refine C.zf ?_ | refine X.zo ?_)
  refine R.sl ttok k p.length rfl rfl rfl rfl rfl rfl (by kernel_rfl) ⟨_, _, rfl, rfl⟩ rfl (by omega) (by omega) fun o' ho' => ?_
  obtain rfl : o' = off + k := by omega
  have hd1 : (p.drop k).length = p.length - k := List.length_drop
  have hw := word_spec (off + k) (c - k) (p.drop k) (by omega) (by omega)
  rw [hd1] at hw
  refine R.cl [0] hw Try.call46 (.pr rfl (PartOf.drop hk) .nil) rfl rfl rfl (fun _ => rfl) rfl (by kernel_rfl) fun _ _ => ?_
  have hn4 := le4_lt (p.drop k)
  obtain ⟨n, hn⟩ : ∃ n, n = le4 (p.drop k) := ⟨_, rfl⟩
  rw [← hn] at hn4 ⊢
  repeat (first | refine C.seq ?_ | refine C.region ?_ | refine R.zb ttok ?_ | refine R.zu ttok ?_ | refine R.zc ttok ?_ | refine R.za ttok ?_ | refine R.zx ?_ | refine R.zl ttok ?_ | refine R.zs ttok ?_ | refine R.z ttok ?_ | refine R.zk ?_ | refine R.zn ?_ | refine R.done ?_ | refine X.then ?_ | refine C.block ?_ | refine C.ret ?_ | refine C.skip ?_ | refine C.exit ?_ | refine X.pass_ret ?_ | refine X.pass_exit ?_ | refine X.block_normal ?_ | refine X.block_ret ?_ | refine X.block_exit ?_ | refine C.zt ?_ | refine C.zf ?_ | refine X.zo ?_)
  by_cases b1 : n = 0
  · rw [err 13 (by unfold nextN; rw [if_neg h3, if_neg h4]; dsimp only; rw [← hn, if_pos (.inl b1)])]
    rw [decide_eq_true (show (n : Int) = 0 by omega)]
    repeat (first | refine C.seq ?_ | refine C.region ?_ | refine R.zb ttok ?_ | refine R.zu ttok ?_ | refine R.zc ttok ?_ | refine R.za ttok ?_ | refine R.zx ?_ | refine R.zl ttok ?_ | refine R.zs ttok ?_ | refine R.z ttok ?_ | refine R.zk ?_ | refine R.zn ?_ | refine R.done ?_ | refine X.then ?_ | refine C.block ?_ | refine C.ret ?_ | refine C.skip ?_ | refine C.exit ?_ | refine X.pass_ret ?_ | refine X.pass_exit ?_ | refine X.block_normal ?_ | refine X.block_ret ?_ | refine X.block_exit ?_ | refine C.zt ?_ | refine C.zf ?_ | refine X.zo ?_)
    refine X.fin ttok () [] trivial rfl rfl rfl (by repeat (first | exact HasH.nil | refine HasH.same rfl rfl rfl trivial ?_ | refine HasH.same rfl rfl rfl rfl ?_ | refine HasH.same rfl rfl rfl (fun _ _ => rfl) ?_ | refine HasH.ros rfl rfl ?_)) _ (by first | exact .inl rfl | exact .inr rfl)
  rw [decide_eq_false (show ¬ (n : Int) = 0 by omega)]
  repeat (first | refine C.seq ?_ | refine C.region ?_ | refine R.zb ttok ?_ | refine R.zu ttok ?_ | refine R.zc ttok ?_ | refine R.za ttok ?_ | refine R.zx ?_ | refine R.zl ttok ?_ | refine R.zs ttok ?_ | refine R.z ttok ?_ | refine R.zk ?_ | refine R.zn ?_ | refine R.done ?_ | refine X.then ?_ | refine C.block ?_ | refine C.ret ?_ | refine C.skip ?_ | refine C.exit ?_ | refine X.pass_ret ?_ | refine X.pass_exit ?_ | refine X.block_normal ?_ | refine X.block_ret ?_ | refine X.block_exit ?_ | refine C.zt ?_ | refine C.zf ?_ | refine X.zo ?_)
  by_cases b2 : 65536 < n
  · rw [err 13 (by unfold nextN; rw [if_neg h3, if_neg h4]; dsimp only; rw [← hn, if_pos (.inr (.inl b2))])]
    rw [decide_eq_true (show (65536 : Int) < (n : Nat) by omega)]
    repeat (first | refine C.seq ?_ | refine C.region ?_ | refine R.zb ttok ?_ | refine R.zu ttok ?_ | refine R.zc ttok ?_ | refine R.za ttok ?_ | refine R.zx ?_ | refine R.zl ttok ?_ | refine R.zs ttok ?_ | refine R.z ttok ?_ | refine R.zk ?_ | refine R.zn ?_ | refine R.done ?_ | refine X.then ?_ | refine C.block ?_ | refine C.ret ?_ | refine C.skip ?_ | refine C.exit ?_ | refine X.pass_ret ?_ | refine X.pass_exit ?_ | refine X.block_normal ?_ | refine X.block_ret ?_ | refine X.block_exit ?_ | refine C.zt ?_ | refine C.zf ?_ | refine X.zo ?_)
    refine X.fin ttok () [] trivial rfl rfl rfl (by repeat (first | exact HasH.nil | refine HasH.same rfl rfl rfl trivial ?_ | refine HasH.same rfl rfl rfl rfl ?_ | refine HasH.same rfl rfl rfl (fun _ _ => rfl) ?_ | refine HasH.ros rfl rfl ?_)) _ (by first | exact .inl rfl | exact .inr rfl)
  rw [decide_eq_false (show ¬ (65536 : Int) < (n : Nat) by omega)]
  repeat (first | refine C.seq ?_ | refine C.region ?_ | refine R.zb ttok ?_ | refine R.zu ttok ?_ | refine R.zc ttok ?_ | refine R.za ttok ?_ | refine R.zx ?_ | refine R.zl ttok ?_ | refine R.zs ttok ?_ | refine R.z ttok ?_ | refine R.zk ?_ | refine R.zn ?_ | refine R.done ?_ | refine X.then ?_ | refine C.block ?_ | refine C.ret ?_ | refine C.skip ?_ | refine C.exit ?_ | refine X.pass_ret ?_ | refine X.pass_exit ?_ | refine X.block_normal ?_ | refine X.block_ret ?_ | refine X.block_exit ?_ | refine C.zt ?_ | refine C.zf ?_ | refine X.zo ?_)
  by_cases b4 : p.length - k - 8 < n
  · rw [err 13 (by unfold nextN; rw [if_neg h3, if_neg h4]; dsimp only; rw [← hn, if_pos (.inr (.inr b4))])]
    rw [decide_eq_true (show (p.length : Int) - (k : Nat) - 8 < (n : Nat) by omega)]
    repeat (first | refine C.seq ?_ | refine C.region ?_ | refine R.zb ttok ?_ | refine R.zu ttok ?_ | refine R.zc ttok ?_ | refine R.za ttok ?_ | refine R.zx ?_ | refine R.zl ttok ?_ | refine R.zs ttok ?_ | refine R.z ttok ?_ | refine R.zk ?_ | refine R.zn ?_ | refine R.done ?_ | refine X.then ?_ | refine C.block ?_ | refine C.ret ?_ | refine C.skip ?_ | refine C.exit ?_ | refine X.pass_ret ?_ | refine X.pass_exit ?_ | refine X.block_normal ?_ | refine X.block_ret ?_ | refine X.block_exit ?_ | refine C.zt ?_ | refine C.zf ?_ | refine X.zo ?_)
    refine X.fin ttok () [] trivial rfl rfl rfl (by repeat (first | exact HasH.nil | refine HasH.same rfl rfl rfl trivial ?_ | refine HasH.same rfl rfl rfl rfl ?_ | refine HasH.same rfl rfl rfl (fun _ _ => rfl) ?_ | refine HasH.ros rfl rfl ?_)) _ (by first | exact .inl rfl | exact .inr rfl)
  rw [decide_eq_false (show ¬ (p.length : Int) - (k : Nat) - 8 < (n : Nat) by omega)]
  repeat (first | refine C.seq ?_ | refine C.region ?_ | refine R.zb ttok ?_ | refine R.zu ttok ?_ | refine R.zc ttok ?_ | refine R.za ttok ?_ | refine R.zx ?_ | refine R.zl ttok ?_ | refine R.zs ttok ?_ | refine R.z ttok ?_ | refine R.zk ?_ | refine R.zn ?_ | refine R.done ?_ | refine X.then ?_ | refine C.block ?_ | refine C.ret ?_ | refine C.skip ?_ | refine C.exit ?_ | refine X.pass_ret ?_ | refine X.pass_exit ?_ | refine X.block_normal ?_ | refine X.block_ret ?_ | refine X.block_exit ?_ | refine C.zt ?_ | refine C.zf ?_ | refine X.zo ?_)
  refine R.sl ttok (k + 8) (k + 8 + n) rfl rfl rfl rfl rfl rfl (by kernel_rfl) ⟨_, _, rfl, by omega⟩ ⟨_, _, rfl, by omega⟩ (by omega) (by omega) fun o' ho' => ?_
  obtain rfl : o' = off + (k + 8) := by omega
  rw [show k + 8 + n - (k + 8) = n by omega]
  repeat (first | refine R.zb ttok ?_ | refine R.zu ttok ?_ | refine R.zc ttok ?_ | refine R.za ttok ?_ | refine R.zx ?_ | refine R.zl ttok ?_ | refine R.zs ttok ?_ | refine R.z ttok ?_ | refine R.zk ?_ | refine R.zn ?_)
  refine R.done ?_
  refine X.then ?_
  refine C.seq ?_
  refine C.seq ?_
  refine C.draw [[], [], [1], [0, 1, 2], [0, 1, 2, 3], [], [], [], [7], [5, 6, 7, 8], [0, 1, 2, 3, 4, 5, 6, 7, 8, 9], [], [0, 1, 2, 3, 4, 5, 6, 7, 8, 9, 10, 11], [0, 1, 2, 3, 4, 5, 6, 7, 8, 9, 10, 11, 12]] [4, 10, 12] (by kernel_rfl) (by kernel_rfl) ?_
  repeat (first | refine R.zb ttok ?_ | refine R.zu ttok ?_ | refine R.zc ttok ?_ | refine R.za ttok ?_ | refine R.zx ?_ | refine R.zl ttok ?_ | refine R.zs ttok ?_ | refine R.z ttok ?_ | refine R.zk ?_ | refine R.zn ?_)
  refine R.sl ttok (k + 4) p.length rfl rfl rfl rfl rfl rfl (by kernel_rfl) ⟨_, _, rfl, by omega⟩ rfl (by omega) (by omega) fun o' ho' => ?_
  obtain rfl : o' = off + (k + 4) := by omega
  have hd2 : (p.drop (k + 4)).length = p.length - (k + 4) := List.length_drop
  have hw2 := word_spec (off + (k + 4)) (c - (k + 4)) (p.drop (k + 4)) (by omega) (by omega)
  rw [hd2] at hw2
  refine R.cl [0] hw2 Try.call46 (.pr rfl (PartOf.drop (by omega)) .nil) rfl rfl rfl (fun _ => rfl) rfl (by kernel_rfl) fun _ _ => ?_
  repeat (first | refine R.zb ttok ?_ | refine R.zu ttok ?_ | refine R.zc ttok ?_ | refine R.za ttok ?_ | refine R.zx ?_ | refine R.zl ttok ?_ | refine R.zs ttok ?_ | refine R.z ttok ?_ | refine R.zk ?_ | refine R.zn ?_)
  refine R.sl ttok k (k + 4) rfl rfl rfl rfl rfl rfl (by kernel_rfl) ⟨_, _, rfl, rfl⟩ ⟨_, _, rfl, by omega⟩ (by omega) (by omega) fun o' ho' => ?_
  obtain rfl : o' = off + k := by omega
  rw [show k + 4 - k = 4 by omega]
  have hd3 : ((p.drop k).take 4).length = 4 := by rw [List.length_take]; omega
  have hw3 := of_spec (off + k) (c - k) ((p.drop k).take 4) (by omega)
  rw [hd3] at hw3
  refine R.cl [0] hw3 Try.call42 (.pr rfl (PartOf.sub (by omega)) .nil) rfl rfl rfl (fun _ => rfl) rfl (by kernel_rfl) fun _ _ => ?_
  repeat (first | refine R.zb ttok ?_ | refine R.zu ttok ?_ | refine R.zc ttok ?_ | refine R.za ttok ?_ | refine R.zx ?_ | refine R.zl ttok ?_ | refine R.zs ttok ?_ | refine R.z ttok ?_ | refine R.zk ?_ | refine R.zn ?_)
  have hd4 : ((p.drop (k + 8)).take n).length = n := by rw [List.length_take, List.length_drop]; omega
  have hw4 := update_spec (off + (k + 8)) (c - (k + 8)) (crcOf ((p.drop k).take 4)) ((p.drop (k + 8)).take n) (by omega)
  rw [hd4] at hw4
  refine R.cl [0] hw4 Try.call41 (.pr rfl (PartOf.sub (by omega)) .nil) rfl rfl rfl (fun _ => rfl) rfl (by kernel_rfl) fun _ _ => ?_
  have hle := le4_lt (p.drop (k + 4))
  by_cases b5 : BitVec.ofNat 32 (le4 (p.drop (k + 4))) = crcUpdate (crcOf ((p.drop k).take 4)) ((p.drop (k + 8)).take n)
  · have hV : nxV off c p k = .tup [.sl 0 1 (off + (k + 8)) n (c - (k + 8)), .raw (.int .i64 ((k : Int) + 8 + (n : Nat))), .raw (.int .i64 0)] := by
      have : nextN p k = .ok ((p.drop (k + 8)).take n, k + 8 + n) := by
        unfold nextN; rw [if_neg h3, if_neg h4]; dsimp only; rw [← hn, if_neg (by omega), if_pos b5]
      unfold nxV
      rw [this]
      simp only [hd4]
      rfl
    rw [hV]
    have he : ((le4 (p.drop (k + 4)) : Nat) : Int) = (v32 (crcUpdate (crcOf ((p.drop k).take 4)) ((p.drop (k + 8)).take n)) : Nat) := by rw [← b5, v32_ofNat hle]
    repeat (first | refine R.zb ttok ?_ | refine R.zu ttok ?_ | refine R.zc ttok ?_ | refine R.za ttok ?_ | refine R.zx ?_ | refine R.zl ttok ?_ | refine R.zs ttok ?_ | refine R.z ttok ?_ | refine R.zk ?_ | refine R.zn ?_)
    rw [decide_eq_false (show ¬ ((le4 (p.drop (k + 4)) : Nat) : Int) ≠ (v32 (crcUpdate (crcOf ((p.drop k).take 4)) ((p.drop (k + 8)).take n)) : Nat) from fun h => h he)]
    repeat (first | refine C.seq ?_ | refine C.region ?_ | refine R.zb ttok ?_ | refine R.zu ttok ?_ | refine R.zc ttok ?_ | refine R.za ttok ?_ | refine R.zx ?_ | refine R.zl ttok ?_ | refine R.zs ttok ?_ | refine R.z ttok ?_ | refine R.zk ?_ | refine R.zn ?_ | refine R.done ?_ | refine X.then ?_ | refine C.block ?_ | refine C.ret ?_ | refine C.skip ?_ | refine C.exit ?_ | refine X.pass_ret ?_ | refine X.pass_exit ?_ | refine X.block_normal ?_ | refine X.block_ret ?_ | refine X.block_exit ?_ | refine C.zt ?_ | refine C.zf ?_ | refine X.zo ?_)
    refine X.fin ttok () [] trivial rfl rfl rfl (by repeat (first | exact HasH.nil | refine HasH.same rfl rfl rfl trivial ?_ | refine HasH.same rfl rfl rfl rfl ?_ | refine HasH.same rfl rfl rfl (fun _ _ => rfl) ?_ | refine HasH.ros rfl rfl ?_)) _ (by first | exact .inl rfl | exact .inr rfl)
  · rw [err 13 (by unfold nextN; rw [if_neg h3, if_neg h4]; dsimp only; rw [← hn, if_neg (by omega), if_neg b5])]
    have he : ((le4 (p.drop (k + 4)) : Nat) : Int) ≠ (v32 (crcUpdate (crcOf ((p.drop k).take 4)) ((p.drop (k + 8)).take n)) : Nat) := fun h => b5 (by
      have h2 : le4 (p.drop (k + 4)) = v32 (crcUpdate (crcOf ((p.drop k).take 4)) ((p.drop (k + 8)).take n)) := by omega
      rw [h2]; unfold v32; simp)
    repeat (first | refine R.zb ttok ?_ | refine R.zu ttok ?_ | refine R.zc ttok ?_ | refine R.za ttok ?_ | refine R.zx ?_ | refine R.zl ttok ?_ | refine R.zs ttok ?_ | refine R.z ttok ?_ | refine R.zk ?_ | refine R.zn ?_)
    rw [decide_eq_true he]
    repeat (first | refine C.seq ?_ | refine C.region ?_ | refine R.zb ttok ?_ | refine R.zu ttok ?_ | refine R.zc ttok ?_ | refine R.za ttok ?_ | refine R.zx ?_ | refine R.zl ttok ?_ | refine R.zs ttok ?_ | refine R.z ttok ?_ | refine R.zk ?_ | refine R.zn ?_ | refine R.done ?_ | refine X.then ?_ | refine C.block ?_ | refine C.ret ?_ | refine C.skip ?_ | refine C.exit ?_ | refine X.pass_ret ?_ | refine X.pass_exit ?_ | refine X.block_normal ?_ | refine X.block_ret ?_ | refine X.block_exit ?_ | refine C.zt ?_ | refine C.zf ?_ | refine X.zo ?_)
    refine X.fin ttok () [] trivial rfl rfl rfl (by repeat (first | exact HasH.nil | refine HasH.same rfl rfl rfl trivial ?_ | refine HasH.same rfl rfl rfl rfl ?_ | refine HasH.same rfl rfl rfl (fun _ _ => rfl) ?_ | refine HasH.ros rfl rfl ?_)) _ (by first | exact .inl rfl | exact .inr rfl)
