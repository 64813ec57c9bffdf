/- octet: the document's Fixed -/
import Derived.Test.YtchbncbojfiiiaaOB
namespace Go.Proofs.Ytchbncbojfiiiaa
set_option linter.unusedVariables false
set_option linter.unusedSimpArgs false
open Go.RowKit
set_option maxRecDepth 100000
set_option maxHeartbeats 4000000
theorem qfixed_spec (off : Nat) (B : List UInt8) (c at_ st : Nat) (e n : Int) (hat : at_ ≤ B.length) (hB : B.length ≤ 1000000000000) : Spec Try.prog 46 [refR 0 off B c at_ e st, .raw (.int .i64 n)] [roBo off B] 1 (σ := Unit) (fun _ => True)
    (fun _ => .tup [.raw (.int .u64 (rdFixed B at_ e n).1), refR 0 off B c (rdFixed B at_ e n).2.1 (rdFixed B at_ e n).2.2 (stF st at_ e (rdFixed B at_ e n).2.2)]) (fun _ => []) := by
  refine Spec.of Try.func46 rfl Try.ntmps46 rfl (by simp [AO.Bd, bytesF, AV.bds, AV.bd]) fun ρ w => ?_
  repeat (first | refine C.seq ?_ | refine C.region ?_ | refine R.zb ttok ?_ | refine R.zu ttok ?_ | refine R.zc ttok ?_ | refine R.za ttok ?_ | refine R.zx ?_ | refine R.zl ttok ?_ | refine R.zs ttok ?_ | refine R.z ttok ?_ | refine R.zk ?_ | refine R.zn ?_ | refine R.done ?_ | refine X.then ?_ | refine C.block ?_ | refine C.ret ?_ | refine C.skip ?_ | refine C.exit ?_ | refine X.pass_ret ?_ | refine X.pass_exit ?_ | refine X.block_normal ?_ | refine X.block_ret ?_ | refine X.block_exit ?_ | refine C.goto ?_ | refine C.label ?_ | refine X.pass_goto ?_ | refine X.block_goto ?_ | refine X.jump_ret ?_ | refine X.jump_normal ?_ | refine X.jump_exit ?_ | refine C.zt ?_ | refine C.zf ?_ | refine X.zo ?_)
  refine C.dec rfl (fun hne => ?_) (fun he => ?_)
  · rw [show rdFixed B at_ e n = (0, at_, e) from if_pos hne, stF_no st at_ hne]
    repeat (first | refine C.seq ?_ | refine C.region ?_ | refine R.zb ttok ?_ | refine R.zu ttok ?_ | refine R.zc ttok ?_ | refine R.za ttok ?_ | refine R.zx ?_ | refine R.zl ttok ?_ | refine R.zs ttok ?_ | refine R.z ttok ?_ | refine R.zk ?_ | refine R.zn ?_ | refine R.done ?_ | refine X.then ?_ | refine C.block ?_ | refine C.ret ?_ | refine C.skip ?_ | refine C.exit ?_ | refine X.pass_ret ?_ | refine X.pass_exit ?_ | refine X.block_normal ?_ | refine X.block_ret ?_ | refine X.block_exit ?_ | refine C.goto ?_ | refine C.label ?_ | refine X.pass_goto ?_ | refine X.block_goto ?_ | refine X.jump_ret ?_ | refine X.jump_normal ?_ | refine X.jump_exit ?_ | refine C.zt ?_ | refine C.zf ?_ | refine X.zo ?_)
    refine C.draw [[], [], [0, 1]] [2] (by kernel_rfl) (by kernel_rfl) ?_
    repeat (first | refine C.seq ?_ | refine C.region ?_ | refine R.zb ttok ?_ | refine R.zu ttok ?_ | refine R.zc ttok ?_ | refine R.za ttok ?_ | refine R.zx ?_ | refine R.zl ttok ?_ | refine R.zs ttok ?_ | refine R.z ttok ?_ | refine R.zk ?_ | refine R.zn ?_ | refine R.done ?_ | refine X.then ?_ | refine C.block ?_ | refine C.ret ?_ | refine C.skip ?_ | refine C.exit ?_ | refine X.pass_ret ?_ | refine X.pass_exit ?_ | refine X.block_normal ?_ | refine X.block_ret ?_ | refine X.block_exit ?_ | refine C.goto ?_ | refine C.label ?_ | refine X.pass_goto ?_ | refine X.block_goto ?_ | refine X.jump_ret ?_ | refine X.jump_normal ?_ | refine X.jump_exit ?_ | refine C.zt ?_ | refine C.zf ?_ | refine X.zo ?_)
    exact X.fin ttok () [] trivial rfl rfl rfl .nil _ (.inl rfl)
  obtain rfl : e = 0 := Decidable.not_not.1 he
  repeat (first | refine C.seq ?_ | refine C.region ?_ | refine R.zb ttok ?_ | refine R.zu ttok ?_ | refine R.zc ttok ?_ | refine R.za ttok ?_ | refine R.zx ?_ | refine R.zl ttok ?_ | refine R.zs ttok ?_ | refine R.z ttok ?_ | refine R.zk ?_ | refine R.zn ?_ | refine R.done ?_ | refine X.then ?_ | refine C.block ?_ | refine C.ret ?_ | refine C.skip ?_ | refine C.exit ?_ | refine X.pass_ret ?_ | refine X.pass_exit ?_ | refine X.block_normal ?_ | refine X.block_ret ?_ | refine X.block_exit ?_ | refine C.goto ?_ | refine C.label ?_ | refine X.pass_goto ?_ | refine X.block_goto ?_ | refine X.jump_ret ?_ | refine X.jump_normal ?_ | refine X.jump_exit ?_ | refine C.zt ?_ | refine C.zf ?_ | refine X.zo ?_)
  by_cases hn : n < 0 ∨ 8 < n
  · rw [show rdFixed B at_ 0 n = (0, at_, 1) from (if_neg (by simp)).trans (if_pos hn), stF_new st at_ (by simp)]
    by_cases h0 : n < 0
    all_goals first | rw [decide_eq_true h0] | rw [decide_eq_false h0]
    all_goals
      repeat (first | refine C.seq ?_ | refine C.region ?_ | refine R.zb ttok ?_ | refine R.zu ttok ?_ | refine R.zc ttok ?_ | refine R.za ttok ?_ | refine R.zx ?_ | refine R.zl ttok ?_ | refine R.zs ttok ?_ | refine R.z ttok ?_ | refine R.zk ?_ | refine R.zn ?_ | refine R.done ?_ | refine X.then ?_ | refine C.block ?_ | refine C.ret ?_ | refine C.skip ?_ | refine C.exit ?_ | refine X.pass_ret ?_ | refine X.pass_exit ?_ | refine X.block_normal ?_ | refine X.block_ret ?_ | refine X.block_exit ?_ | refine C.goto ?_ | refine C.label ?_ | refine X.pass_goto ?_ | refine X.block_goto ?_ | refine X.jump_ret ?_ | refine X.jump_normal ?_ | refine X.jump_exit ?_ | refine C.zt ?_ | refine C.zf ?_ | refine X.zo ?_)
    all_goals try refine C.yes rfl (decide_eq_true (by show 8 < n; omega)) ?_
    all_goals
      repeat (first | refine C.seq ?_ | refine C.region ?_ | refine R.zb ttok ?_ | refine R.zu ttok ?_ | refine R.zc ttok ?_ | refine R.za ttok ?_ | refine R.zx ?_ | refine R.zl ttok ?_ | refine R.zs ttok ?_ | refine R.z ttok ?_ | refine R.zk ?_ | refine R.zn ?_ | refine R.done ?_ | refine X.then ?_ | refine C.block ?_ | refine C.ret ?_ | refine C.skip ?_ | refine C.exit ?_ | refine X.pass_ret ?_ | refine X.pass_exit ?_ | refine X.block_normal ?_ | refine X.block_ret ?_ | refine X.block_exit ?_ | refine C.goto ?_ | refine C.label ?_ | refine X.pass_goto ?_ | refine X.block_goto ?_ | refine X.jump_ret ?_ | refine X.jump_normal ?_ | refine X.jump_exit ?_ | refine C.zt ?_ | refine C.zf ?_ | refine X.zo ?_)
    all_goals
      refine R.cl [0] (qends_spec off B c at_ st 0 1) Try.call60 (.same rfl rfl .nil) rfl rfl rfl (fun _ => rfl) rfl rfl fun _ _ => ?_
      repeat (first | refine C.seq ?_ | refine C.region ?_ | refine R.zb ttok ?_ | refine R.zu ttok ?_ | refine R.zc ttok ?_ | refine R.za ttok ?_ | refine R.zx ?_ | refine R.zl ttok ?_ | refine R.zs ttok ?_ | refine R.z ttok ?_ | refine R.zk ?_ | refine R.zn ?_ | refine R.done ?_ | refine X.then ?_ | refine C.block ?_ | refine C.ret ?_ | refine C.skip ?_ | refine C.exit ?_ | refine X.pass_ret ?_ | refine X.pass_exit ?_ | refine X.block_normal ?_ | refine X.block_ret ?_ | refine X.block_exit ?_ | refine C.goto ?_ | refine C.label ?_ | refine X.pass_goto ?_ | refine X.block_goto ?_ | refine X.jump_ret ?_ | refine X.jump_normal ?_ | refine X.jump_exit ?_ | refine C.zt ?_ | refine C.zf ?_ | refine X.zo ?_)
      exact X.fin ttok () [] trivial rfl rfl rfl .nil _ (.inl rfl)
  rw [decide_eq_false (by omega : ¬ n < 0)]
  repeat (first | refine C.seq ?_ | refine C.region ?_ | refine R.zb ttok ?_ | refine R.zu ttok ?_ | refine R.zc ttok ?_ | refine R.za ttok ?_ | refine R.zx ?_ | refine R.zl ttok ?_ | refine R.zs ttok ?_ | refine R.z ttok ?_ | refine R.zk ?_ | refine R.zn ?_ | refine R.done ?_ | refine X.then ?_ | refine C.block ?_ | refine C.ret ?_ | refine C.skip ?_ | refine C.exit ?_ | refine X.pass_ret ?_ | refine X.pass_exit ?_ | refine X.block_normal ?_ | refine X.block_ret ?_ | refine X.block_exit ?_ | refine C.goto ?_ | refine C.label ?_ | refine X.pass_goto ?_ | refine X.block_goto ?_ | refine X.jump_ret ?_ | refine X.jump_normal ?_ | refine X.jump_exit ?_ | refine C.zt ?_ | refine C.zf ?_ | refine X.zo ?_)
  refine C.no rfl (decide_eq_false (by show ¬ 8 < n; omega)) ?_
  repeat (first | refine C.seq ?_ | refine C.region ?_ | refine R.zb ttok ?_ | refine R.zu ttok ?_ | refine R.zc ttok ?_ | refine R.za ttok ?_ | refine R.zx ?_ | refine R.zl ttok ?_ | refine R.zs ttok ?_ | refine R.z ttok ?_ | refine R.zk ?_ | refine R.zn ?_ | refine R.done ?_ | refine X.then ?_ | refine C.block ?_ | refine C.ret ?_ | refine C.skip ?_ | refine C.exit ?_ | refine X.pass_ret ?_ | refine X.pass_exit ?_ | refine X.block_normal ?_ | refine X.block_ret ?_ | refine X.block_exit ?_ | refine C.goto ?_ | refine C.label ?_ | refine X.pass_goto ?_ | refine X.block_goto ?_ | refine X.jump_ret ?_ | refine X.jump_normal ?_ | refine X.jump_exit ?_ | refine C.zt ?_ | refine C.zf ?_ | refine X.zo ?_)
  refine C.dec rfl (fun hs => ?_) (fun hs => ?_)
  · rw [show rdFixed B at_ 0 n = (0, at_, 2) from (if_neg (by simp)).trans ((if_neg hn).trans (if_pos (by omega))), stF_new st at_ (by simp)]
    repeat (first | refine C.seq ?_ | refine C.region ?_ | refine R.zb ttok ?_ | refine R.zu ttok ?_ | refine R.zc ttok ?_ | refine R.za ttok ?_ | refine R.zx ?_ | refine R.zl ttok ?_ | refine R.zs ttok ?_ | refine R.z ttok ?_ | refine R.zk ?_ | refine R.zn ?_ | refine R.done ?_ | refine X.then ?_ | refine C.block ?_ | refine C.ret ?_ | refine C.skip ?_ | refine C.exit ?_ | refine X.pass_ret ?_ | refine X.pass_exit ?_ | refine X.block_normal ?_ | refine X.block_ret ?_ | refine X.block_exit ?_ | refine C.goto ?_ | refine C.label ?_ | refine X.pass_goto ?_ | refine X.block_goto ?_ | refine X.jump_ret ?_ | refine X.jump_normal ?_ | refine X.jump_exit ?_ | refine C.zt ?_ | refine C.zf ?_ | refine X.zo ?_)
    refine R.cl [0] (qends_spec off B c at_ st 0 2) Try.call60 (.same rfl rfl .nil) rfl rfl rfl (fun _ => rfl) rfl rfl fun _ _ => ?_
    repeat (first | refine C.seq ?_ | refine C.region ?_ | refine R.zb ttok ?_ | refine R.zu ttok ?_ | refine R.zc ttok ?_ | refine R.za ttok ?_ | refine R.zx ?_ | refine R.zl ttok ?_ | refine R.zs ttok ?_ | refine R.z ttok ?_ | refine R.zk ?_ | refine R.zn ?_ | refine R.done ?_ | refine X.then ?_ | refine C.block ?_ | refine C.ret ?_ | refine C.skip ?_ | refine C.exit ?_ | refine X.pass_ret ?_ | refine X.pass_exit ?_ | refine X.block_normal ?_ | refine X.block_ret ?_ | refine X.block_exit ?_ | refine C.goto ?_ | refine C.label ?_ | refine X.pass_goto ?_ | refine X.block_goto ?_ | refine X.jump_ret ?_ | refine X.jump_normal ?_ | refine X.jump_exit ?_ | refine C.zt ?_ | refine C.zf ?_ | refine X.zo ?_)
    exact X.fin ttok () [] trivial rfl rfl rfl .nil _ (.inl rfl)
  obtain ⟨k, rfl⟩ : ∃ k : Nat, n = k := ⟨n.toNat, by omega⟩
  rw [show rdFixed B at_ 0 (k : Int) = (leV ((B.drop at_).take k), at_ + k, 0) from (if_neg (by simp)).trans ((if_neg hn).trans (if_neg (by omega))), stF_ok]
  have hk : k ≤ 8 := by omega
  have hin : at_ + k ≤ B.length := by omega
  obtain ⟨bs, hbs⟩ : ∃ bs, (B.drop at_).take k = bs := ⟨_, rfl⟩
  have hbl : bs.length = k := by rw [← hbs, List.length_take, List.length_drop]; omega
  have hget : ∀ j, j < k → bs.drop j = B.getD (at_ + j) 0 :: bs.drop (j + 1) := fun j hj => by
    rw [drop_get (by omega)]
    congr 1
    have : bs[j]? = B[at_ + j]? := by rw [← hbs, List.getElem?_take, if_pos hj, List.getElem?_drop]
    simp only [List.getD_eq_getElem?_getD, this]
  rw [hbs]
  repeat (first | refine C.seq ?_ | refine C.region ?_ | refine R.zb ttok ?_ | refine R.zu ttok ?_ | refine R.zc ttok ?_ | refine R.za ttok ?_ | refine R.zx ?_ | refine R.zl ttok ?_ | refine R.zs ttok ?_ | refine R.z ttok ?_ | refine R.zk ?_ | refine R.zn ?_ | refine R.done ?_ | refine X.then ?_ | refine C.block ?_ | refine C.ret ?_ | refine C.skip ?_ | refine C.exit ?_ | refine X.pass_ret ?_ | refine X.pass_exit ?_ | refine X.block_normal ?_ | refine X.block_ret ?_ | refine X.block_exit ?_ | refine C.goto ?_ | refine C.label ?_ | refine X.pass_goto ?_ | refine X.block_goto ?_ | refine X.jump_ret ?_ | refine X.jump_normal ?_ | refine X.jump_exit ?_ | refine C.zt ?_ | refine C.zf ?_ | refine X.zo ?_)
  refine C.loop (σ := Nat) (L2 := 3) (fun j => j ≤ k) (fun j => [(1, .raw (.int .i64 k)), (2, .ptr 1 0 0 0), (5, .ptr 2 0 0 0), (6, .raw (.int .u64 (leV (bs.drop j)))), (7, .raw (.int .i64 ((j : Int) - 1)))])
    (fun j => [(0, roBo off B), (1, .cells [.sl 0 1 off B.length c, .raw (.int .i64 at_), .raw (.int .i64 0), .raw (.int .i64 st)] 44), (2, .cells [.raw (.slice none 0 0), .raw (.int .i64 0), .raw (.int .i64 0), .raw (.int .i64 0)] 44)]) _ (fun j => j) [] k (Nat.le_refl _) rfl ?_ ?_ rfl (fun _ h => h) ?_
  · refine .cons rfl rfl rfl (.cons rfl rfl rfl (.cons rfl rfl rfl (.cons rfl ?_ rfl (.cons rfl rfl rfl .nil))))
    rw [← hbl, List.drop_length]; rfl
  · exact .same rfl rfl rfl (fun _ _ => rfl) (.same rfl rfl rfl rfl (.same rfl rfl rfl rfl .nil))
  intro j hj
  repeat (first | refine C.seq ?_ | refine C.region ?_ | refine R.zb ttok ?_ | refine R.zu ttok ?_ | refine R.zc ttok ?_ | refine R.za ttok ?_ | refine R.zx ?_ | refine R.zl ttok ?_ | refine R.zs ttok ?_ | refine R.z ttok ?_ | refine R.zk ?_ | refine R.zn ?_ | refine R.done ?_ | refine X.then ?_ | refine C.block ?_ | refine C.ret ?_ | refine C.skip ?_ | refine C.exit ?_ | refine X.pass_ret ?_ | refine X.pass_exit ?_ | refine X.block_normal ?_ | refine X.block_ret ?_ | refine X.block_exit ?_ | refine C.goto ?_ | refine C.label ?_ | refine X.pass_goto ?_ | refine X.block_goto ?_ | refine X.jump_ret ?_ | refine X.jump_normal ?_ | refine X.jump_exit ?_ | refine C.zt ?_ | refine C.zf ?_ | refine X.zo ?_)
  refine C.dec rfl (fun hge => ?_) (fun hlt => ?_)
  · obtain ⟨i, rfl⟩ : ∃ i, j = i + 1 := ⟨j - 1, by omega⟩
    have hj2 : i + 1 ≤ k := hj
    obtain ⟨x, hx⟩ : ∃ x, B.getD (at_ + i) 0 = x := ⟨_, rfl⟩
    have hxl := x.toNat_lt
    have hstep : leV (bs.drop i) = x.toNat + 256 * leV (bs.drop (i + 1)) := by rw [hget i (by omega), hx]; rfl
    have hmax : leV (bs.drop i) < 18446744073709551616 := by
      refine Nat.lt_of_lt_of_le (leV_lt _) ?_
      have := Nat.pow_le_pow_right (show 0 < 256 by omega) (show (bs.drop i).length ≤ 8 by rw [List.length_drop]; omega)
      exact Nat.le_trans this (by decide)
    obtain ⟨V, hV⟩ : ∃ V, leV (bs.drop (i + 1)) = V := ⟨_, rfl⟩
    rw [hV] at hstep ⊢
    repeat (first | refine C.seq ?_ | refine C.region ?_ | refine R.zb ttok ?_ | refine R.zu ttok ?_ | refine R.zc ttok ?_ | refine R.za ttok ?_ | refine R.zx ?_ | refine R.zl ttok ?_ | refine R.zs ttok ?_ | refine R.z ttok ?_ | refine R.zk ?_ | refine R.zn ?_ | refine R.done ?_ | refine X.then ?_ | refine C.block ?_ | refine C.ret ?_ | refine C.skip ?_ | refine C.exit ?_ | refine X.pass_ret ?_ | refine X.pass_exit ?_ | refine X.block_normal ?_ | refine X.block_ret ?_ | refine X.block_exit ?_ | refine C.goto ?_ | refine C.label ?_ | refine X.pass_goto ?_ | refine X.block_goto ?_ | refine X.jump_ret ?_ | refine X.jump_normal ?_ | refine X.jump_exit ?_ | refine C.zt ?_ | refine C.zf ?_ | refine X.zo ?_)
    refine R.ix ttok (at_ + i) rfl rfl rfl rfl rfl rfl (by omega) (by omega) (⟨by omega, by omega⟩ : off ≤ off + (at_ + i) ∧ off + (at_ + i) < off + B.length) rfl ?_
    refine R.ldo ttok rfl rfl rfl rfl rfl rfl (by omega) ?_
    rw [hx]
    repeat (first | refine C.seq ?_ | refine C.region ?_ | refine R.zb ttok ?_ | refine R.zu ttok ?_ | refine R.zc ttok ?_ | refine R.za ttok ?_ | refine R.zx ?_ | refine R.zl ttok ?_ | refine R.zs ttok ?_ | refine R.z ttok ?_ | refine R.zk ?_ | refine R.zn ?_ | refine R.done ?_ | refine X.then ?_ | refine C.block ?_ | refine C.ret ?_ | refine C.skip ?_ | refine C.exit ?_ | refine X.pass_ret ?_ | refine X.pass_exit ?_ | refine X.block_normal ?_ | refine X.block_ret ?_ | refine X.block_exit ?_ | refine C.goto ?_ | refine C.label ?_ | refine X.pass_goto ?_ | refine X.block_goto ?_ | refine X.jump_ret ?_ | refine X.jump_normal ?_ | refine X.jump_exit ?_ | refine C.zt ?_ | refine C.zf ?_ | refine X.zo ?_)
    rw [show (V : Int) * 256 + (x.toNat : Int) = ((leV (bs.drop i) : Nat) : Int) by rw [hstep]; omega, show ((i + 1 : Nat) : Int) - 1 - 1 = (i : Int) - 1 by omega]
    refine X.back [] i (by show i ≤ k; omega) (by show i < i + 1; omega) rfl ?_ ?_ rfl (fun _ h => h)
    · exact .cons rfl rfl rfl (.cons rfl rfl rfl (.cons rfl rfl rfl (.cons rfl rfl rfl (.cons rfl rfl rfl .nil))))
    · exact .same rfl rfl rfl (fun _ _ => rfl) (.same rfl rfl rfl rfl (.same rfl rfl rfl rfl .nil))
  · obtain rfl : j = 0 := by omega
    repeat (first | refine C.seq ?_ | refine C.region ?_ | refine R.zb ttok ?_ | refine R.zu ttok ?_ | refine R.zc ttok ?_ | refine R.za ttok ?_ | refine R.zx ?_ | refine R.zl ttok ?_ | refine R.zs ttok ?_ | refine R.z ttok ?_ | refine R.zk ?_ | refine R.zn ?_ | refine R.done ?_ | refine X.then ?_ | refine C.block ?_ | refine C.ret ?_ | refine C.skip ?_ | refine C.exit ?_ | refine X.pass_ret ?_ | refine X.pass_exit ?_ | refine X.block_normal ?_ | refine X.block_ret ?_ | refine X.block_exit ?_ | refine C.goto ?_ | refine C.label ?_ | refine X.pass_goto ?_ | refine X.block_goto ?_ | refine X.jump_ret ?_ | refine X.jump_normal ?_ | refine X.jump_exit ?_ | refine C.zt ?_ | refine C.zf ?_ | refine X.zo ?_)
    refine C.draw [[], [], [0], [0, 1, 2]] [3] (by kernel_rfl) (by kernel_rfl) ?_
    repeat (first | refine C.seq ?_ | refine C.region ?_ | refine R.zb ttok ?_ | refine R.zu ttok ?_ | refine R.zc ttok ?_ | refine R.za ttok ?_ | refine R.zx ?_ | refine R.zl ttok ?_ | refine R.zs ttok ?_ | refine R.z ttok ?_ | refine R.zk ?_ | refine R.zn ?_ | refine R.done ?_ | refine X.then ?_ | refine C.block ?_ | refine C.ret ?_ | refine C.skip ?_ | refine C.exit ?_ | refine X.pass_ret ?_ | refine X.pass_exit ?_ | refine X.block_normal ?_ | refine X.block_ret ?_ | refine X.block_exit ?_ | refine C.goto ?_ | refine C.label ?_ | refine X.pass_goto ?_ | refine X.block_goto ?_ | refine X.jump_ret ?_ | refine X.jump_normal ?_ | refine X.jump_exit ?_ | refine C.zt ?_ | refine C.zf ?_ | refine X.zo ?_)
    exact X.fin ttok () [] trivial rfl rfl rfl .nil _ (.inl rfl)
end Go.Proofs.Ytchbncbojfiiiaa
