/- table: slices.Insert of one pair, slices.Delete of one (Table[int]) -/
import Derived.Test.YtlcojlcackkhpaaT6
import Derived.Test.YtlcojlcackkhpaaK30
namespace Go.Proofs.Ytlcojlcackkhpaa
set_option linter.unusedVariables false
set_option linter.unusedSimpArgs false
open Go.RowKit
set_option maxRecDepth 100000
set_option maxHeartbeats 4000000
abbrev tI (l : List PI) (c : Nat) : AO := .tab 2 l.length c (piF l) 100
def insL (l : List PI) (i : Nat) (p : PI) : List PI := l.take i ++ p :: l.drop i
def delL (l : List PI) (i : Nat) : List PI := l.take i ++ l.drop (i + 1)
theorem insL_len (l : List PI) (i : Nat) (p : PI) : (insL l i p).length = l.length + 1 := by
  unfold insL
  rw [List.length_append, List.length_cons, List.length_take, List.length_drop]
  omega
theorem delL_len (l : List PI) (i : Nat) (h : i < l.length) : (delL l i).length = l.length - 1 := by
  unfold delL
  rw [List.length_append, List.length_take, List.length_drop]
  omega
theorem piF_ins (l : List PI) (i : Nat) (p : PI) (hi : i ≤ l.length) (j : Nat) : piF (insL l i p) j = if j < i then piF l j else if j = i then piA p else piF l (j - 1) := by
  have ht : (l.take i).length = i := by rw [List.length_take]; omega
  unfold piF insL
  by_cases h1 : j < i
  · rw [if_pos h1, List.getD_eq_getElem?_getD, List.getElem?_append_left (by omega), List.getElem?_take, if_pos h1, ← List.getD_eq_getElem?_getD]
  · rw [if_neg h1]
    by_cases h2 : j = i
    · rw [if_pos h2, List.getD_eq_getElem?_getD, List.getElem?_append_right (by omega), ht, h2, Nat.sub_self, List.getElem?_cons_zero]
      rfl
    · rw [if_neg h2, List.getD_eq_getElem?_getD, List.getElem?_append_right (by omega), ht, show j - i = (j - 1 - i) + 1 by omega, List.getElem?_cons_succ, List.getElem?_drop, show i + (j - 1 - i) = j - 1 by omega, ← List.getD_eq_getElem?_getD]
theorem piF_del (l : List PI) (i : Nat) (hi : i < l.length) (j : Nat) : piF (delL l i) j = if j < i then piF l j else piF l (j + 1) := by
  have ht : (l.take i).length = i := by rw [List.length_take]; omega
  unfold piF delL
  by_cases h1 : j < i
  · rw [if_pos h1, List.getD_eq_getElem?_getD, List.getElem?_append_left (by omega), List.getElem?_take, if_pos h1, ← List.getD_eq_getElem?_getD]
  · rw [if_neg h1, List.getD_eq_getElem?_getD, List.getElem?_append_right (by omega), ht, List.getElem?_drop, show i + 1 + (j - i) = j + 1 by omega, ← List.getD_eq_getElem?_getD]
section
variable {E : Base} {n L : Nat} {τ : List (Nat × AV)} {h : List (Nat × AO)} {F : World → Prop}
theorem srcPiF {lab p j c cap cc : Nat} {l : List PI} {T : TypeId} (hl : hk lab h = some (.tab 2 l.length cap (piF l) T)) (hp : p ≤ l.length) (hj : j = 0 + p ∨ l.length = p ∧ j = 0 ∧ cc = p) : SrcA E n L τ h F (.sl lab 2 j (l.length - p) c) (l.length - p) (flat (fun j => piF l (p + j)) (l.length - p)) := by
  rw [flat_pi l _ _ (by omega), List.take_of_length_le (by rw [List.length_drop]; omega)]
  exact srcPiD hl hp hj
end
theorem insertI_spec (l : List PI) (i c : Nat) (p : PI) (hl : l.length ≤ 1000000) (hi : i ≤ l.length) (hc : l.length ≤ c) (hc2 : c ≤ 9223372036854775807) :
    Spec Try.prog 58 [.sl 0 2 0 l.length c, .raw (.int .i64 i), .sl 1 2 0 1 1] [tI l c, .cells (piA p) 100] 3 (σ := Nat) (fun c' => l.length + 1 ≤ c' ∧ c' ≤ 9223372036854775807)
    (fun c' => .sl 2 2 0 (l.length + 1) c') (fun c' => [(2, .tab 2 (l.length + 1) c' (piF (insL l i p)) 100)]) := by
  refine Spec.of Try.func58 rfl Try.ntmps58 rfl (by repeat (first | exact bdl_nil _ | refine bdl_cons (fun _ _ => rfl) ?_ | refine bdl_cons trivial ?_ | refine bdl_cons rfl ?_ | refine bdl_cons (rowsF_bd _ _ _ _) ?_)) fun ρ w => ?_
  repeat (first | refine C.seq ?_ | refine C.region ?_ | refine R.zb ttok ?_ | refine R.zu ttok ?_ | refine R.zc ttok ?_ | refine R.za ttok ?_ | refine R.zx ?_ | refine R.zl ttok ?_ | refine R.zs ttok ?_ | refine R.z ttok ?_ | refine R.zk ?_ | refine R.zn ?_ | refine R.done ?_ | refine X.then ?_ | refine C.block ?_ | refine C.ret ?_ | refine C.skip ?_ | refine C.exit ?_ | refine X.pass_ret ?_ | refine X.pass_exit ?_ | refine X.block_normal ?_ | refine X.block_ret ?_ | refine X.block_exit ?_ | refine C.zt ?_ | refine C.zf ?_ | refine X.zo ?_)
  refine R.sl ttok i l.length rfl rfl rfl rfl rfl rfl (by kernel_rfl) ⟨_, _, rfl, rfl⟩ rfl (by omega) (by omega) fun o' ho' => ?_
  repeat (first | refine C.seq ?_ | refine C.region ?_ | refine R.zb ttok ?_ | refine R.zu ttok ?_ | refine R.zc ttok ?_ | refine R.za ttok ?_ | refine R.zx ?_ | refine R.zl ttok ?_ | refine R.zs ttok ?_ | refine R.z ttok ?_ | refine R.zk ?_ | refine R.zn ?_ | refine R.done ?_ | refine X.then ?_ | refine C.block ?_ | refine C.ret ?_ | refine C.skip ?_ | refine C.exit ?_ | refine X.pass_ret ?_ | refine X.pass_exit ?_ | refine X.block_normal ?_ | refine X.block_ret ?_ | refine X.block_exit ?_ | refine C.zt ?_ | refine C.zf ?_ | refine X.zo ?_)
  by_cases hn : (i : Int) = (l.length : Nat)
  · obtain rfl : i = l.length := by omega
    rw [decide_eq_true hn]
    repeat (first | refine C.seq ?_ | refine C.region ?_ | refine R.zb ttok ?_ | refine R.zu ttok ?_ | refine R.zc ttok ?_ | refine R.za ttok ?_ | refine R.zx ?_ | refine R.zl ttok ?_ | refine R.zs ttok ?_ | refine R.z ttok ?_ | refine R.zk ?_ | refine R.zn ?_ | refine R.done ?_ | refine X.then ?_ | refine C.block ?_ | refine C.ret ?_ | refine C.skip ?_ | refine C.exit ?_ | refine X.pass_ret ?_ | refine X.pass_exit ?_ | refine X.block_normal ?_ | refine X.block_ret ?_ | refine X.block_exit ?_ | refine C.zt ?_ | refine C.zf ?_ | refine X.zo ?_)
    have hins : insL l l.length p = l ++ [p] := by unfold insL; rw [List.take_length, List.drop_length]
    rw [hins]
    refine R.app (xs := pis l) (news := pis [p]) ttok (fun c => .tab 2 (l ++ [p]).length c (piF (l ++ [p])) 100) rfl rfl (dstPi rfl) (SrcA.cells rfl rfl) (asPi _ _ _ (pis_app _ _).symm) rfl rfl rfl rfl rfl rfl (by decide) rfl rfl rfl (by kernel_rfl) hc2 (by show (l.length + 1) * 24 ≤ _; omega) (by omega) fun cB hB hB2 => ?_
    rw [show (l ++ [p]).length = l.length + 1 by rw [List.length_append]; rfl]
    repeat (first | refine C.seq ?_ | refine C.region ?_ | refine R.zb ttok ?_ | refine R.zu ttok ?_ | refine R.zc ttok ?_ | refine R.za ttok ?_ | refine R.zx ?_ | refine R.zl ttok ?_ | refine R.zs ttok ?_ | refine R.z ttok ?_ | refine R.zk ?_ | refine R.zn ?_ | refine R.done ?_ | refine X.then ?_ | refine C.block ?_ | refine C.ret ?_ | refine C.skip ?_ | refine C.exit ?_ | refine X.pass_ret ?_ | refine X.pass_exit ?_ | refine X.block_normal ?_ | refine X.block_ret ?_ | refine X.block_exit ?_ | refine C.zt ?_ | refine C.zf ?_ | refine X.zo ?_)
    refine X.fin ttok cB [] ⟨hB, hB2⟩ rfl rfl rfl (by exact .same rfl rfl rfl (fun _ _ => rfl) .nil) _ (by first | exact .inl rfl | exact .inr rfl)
  · have hlt : i < l.length := by omega
    rw [decide_eq_false hn]
    repeat (first | refine C.seq ?_ | refine C.region ?_ | refine R.zb ttok ?_ | refine R.zu ttok ?_ | refine R.zc ttok ?_ | refine R.za ttok ?_ | refine R.zx ?_ | refine R.zl ttok ?_ | refine R.zs ttok ?_ | refine R.z ttok ?_ | refine R.zk ?_ | refine R.zn ?_ | refine R.done ?_ | refine X.then ?_ | refine C.block ?_ | refine C.ret ?_ | refine C.skip ?_ | refine C.exit ?_ | refine X.pass_ret ?_ | refine X.pass_exit ?_ | refine X.block_normal ?_ | refine X.block_ret ?_ | refine X.block_exit ?_ | refine C.zt ?_ | refine C.zf ?_ | refine X.zo ?_)
    refine R.cap ttok rfl rfl rfl rfl (by kernel_rfl) ?_
    repeat (first | refine C.seq ?_ | refine C.region ?_ | refine R.zb ttok ?_ | refine R.zu ttok ?_ | refine R.zc ttok ?_ | refine R.za ttok ?_ | refine R.zx ?_ | refine R.zl ttok ?_ | refine R.zs ttok ?_ | refine R.z ttok ?_ | refine R.zk ?_ | refine R.zn ?_ | refine R.done ?_ | refine X.then ?_ | refine C.block ?_ | refine C.ret ?_ | refine C.skip ?_ | refine C.exit ?_ | refine X.pass_ret ?_ | refine X.pass_exit ?_ | refine X.block_normal ?_ | refine X.block_ret ?_ | refine X.block_exit ?_ | refine C.zt ?_ | refine C.zf ?_ | refine X.zo ?_)
    refine C.dec rfl (fun hg => ?_) (fun hg => ?_)
    · have hcl : c = l.length := by omega
      subst hcl
      repeat (first | refine C.seq ?_ | refine C.region ?_ | refine R.zb ttok ?_ | refine R.zu ttok ?_ | refine R.zc ttok ?_ | refine R.za ttok ?_ | refine R.zx ?_ | refine R.zl ttok ?_ | refine R.zs ttok ?_ | refine R.z ttok ?_ | refine R.zk ?_ | refine R.zn ?_ | refine R.done ?_ | refine X.then ?_ | refine C.block ?_ | refine C.ret ?_ | refine C.skip ?_ | refine C.exit ?_ | refine X.pass_ret ?_ | refine X.pass_exit ?_ | refine X.block_normal ?_ | refine X.block_ret ?_ | refine X.block_exit ?_ | refine C.zt ?_ | refine C.zf ?_ | refine X.zo ?_)
      refine R.sl ttok 0 i rfl rfl rfl rfl rfl rfl (by kernel_rfl) rfl ⟨_, _, rfl, rfl⟩ (by omega) (by omega) fun o1 ho1 => ?_
      obtain rfl : o1 = 0 := by omega
      repeat (first | refine C.seq ?_ | refine C.region ?_ | refine R.zb ttok ?_ | refine R.zu ttok ?_ | refine R.zc ttok ?_ | refine R.za ttok ?_ | refine R.zx ?_ | refine R.zl ttok ?_ | refine R.zs ttok ?_ | refine R.z ttok ?_ | refine R.zk ?_ | refine R.zn ?_ | refine R.done ?_ | refine X.then ?_ | refine C.block ?_ | refine C.ret ?_ | refine C.skip ?_ | refine C.exit ?_ | refine X.pass_ret ?_ | refine X.pass_exit ?_ | refine X.block_normal ?_ | refine X.block_ret ?_ | refine X.block_exit ?_ | refine C.zt ?_ | refine C.zf ?_ | refine X.zo ?_)
      refine R.apz ttok (l.length + 1 - i) _ rfl rfl (show i - 0 ≤ l.length by omega) rfl rfl rfl rfl rfl rfl rfl rfl (by decide) rfl (by kernel_rfl) (by omega) (by omega) (by omega) (by omega) (by omega) (by show _ * 24 ≤ _; omega) (fun j _ => rfl) fun cB hB hB2 => ?_
      rw [show i - 0 + (l.length + 1 - i) = l.length + 1 by omega] at hB ⊢
      repeat (first | refine C.seq ?_ | refine C.region ?_ | refine R.zb ttok ?_ | refine R.zu ttok ?_ | refine R.zc ttok ?_ | refine R.za ttok ?_ | refine R.zx ?_ | refine R.zl ttok ?_ | refine R.zs ttok ?_ | refine R.z ttok ?_ | refine R.zk ?_ | refine R.zn ?_ | refine R.done ?_ | refine X.then ?_ | refine C.block ?_ | refine C.ret ?_ | refine C.skip ?_ | refine C.exit ?_ | refine X.pass_ret ?_ | refine X.pass_exit ?_ | refine X.block_normal ?_ | refine X.block_ret ?_ | refine X.block_exit ?_ | refine C.zt ?_ | refine C.zf ?_ | refine X.zo ?_)
      refine R.sl ttok i (l.length + 1) rfl rfl rfl rfl rfl rfl (by kernel_rfl) ⟨_, _, rfl, rfl⟩ rfl (by omega) hB fun o2 ho2 => ?_
      obtain rfl : o2 = 0 + i := by omega
      repeat (first | refine C.seq ?_ | refine C.region ?_ | refine R.zb ttok ?_ | refine R.zu ttok ?_ | refine R.zc ttok ?_ | refine R.za ttok ?_ | refine R.zx ?_ | refine R.zl ttok ?_ | refine R.zs ttok ?_ | refine R.z ttok ?_ | refine R.zk ?_ | refine R.zn ?_ | refine R.done ?_ | refine X.then ?_ | refine C.block ?_ | refine C.ret ?_ | refine C.skip ?_ | refine C.exit ?_ | refine X.pass_ret ?_ | refine X.pass_exit ?_ | refine X.block_normal ?_ | refine X.block_ret ?_ | refine X.block_exit ?_ | refine C.zt ?_ | refine C.zf ?_ | refine X.zo ?_)
      refine R.cpt ttok (l.length + 1) 1 (k0 := 1) (sf := fun _ => piA p) _ rfl rfl rfl (SrcA.cells rfl rfl) rfl (fun _ _ => rfl) rfl rfl rfl rfl rfl rfl (by kernel_rfl) (by show min _ _ = _; omega) (by omega) (by omega) (by omega) hB (fun j hj => .inl hj) (by decide) (fun j _ => rfl) ?_
      repeat (first | refine C.seq ?_ | refine C.region ?_ | refine R.zb ttok ?_ | refine R.zu ttok ?_ | refine R.zc ttok ?_ | refine R.za ttok ?_ | refine R.zx ?_ | refine R.zl ttok ?_ | refine R.zs ttok ?_ | refine R.z ttok ?_ | refine R.zk ?_ | refine R.zn ?_ | refine R.done ?_ | refine X.then ?_ | refine C.block ?_ | refine C.ret ?_ | refine C.skip ?_ | refine C.exit ?_ | refine X.pass_ret ?_ | refine X.pass_exit ?_ | refine X.block_normal ?_ | refine X.block_ret ?_ | refine X.block_exit ?_ | refine C.zt ?_ | refine C.zf ?_ | refine X.zo ?_)
      refine C.draw [[], [], [], [1, 2], [0, 1, 2, 3], [], [], [5, 6], [0, 1, 2, 3, 4, 5, 6, 7]] [8] (by kernel_rfl) (by kernel_rfl) ?_
      repeat (first | refine C.seq ?_ | refine C.region ?_ | refine R.zb ttok ?_ | refine R.zu ttok ?_ | refine R.zc ttok ?_ | refine R.za ttok ?_ | refine R.zx ?_ | refine R.zl ttok ?_ | refine R.zs ttok ?_ | refine R.z ttok ?_ | refine R.zk ?_ | refine R.zn ?_ | refine R.done ?_ | refine X.then ?_ | refine C.block ?_ | refine C.ret ?_ | refine C.skip ?_ | refine C.exit ?_ | refine X.pass_ret ?_ | refine X.pass_exit ?_ | refine X.block_normal ?_ | refine X.block_ret ?_ | refine X.block_exit ?_ | refine C.zt ?_ | refine C.zf ?_ | refine X.zo ?_)
      refine R.sl ttok (i + 1) (l.length + 1) rfl rfl rfl rfl rfl rfl (by kernel_rfl) ⟨_, _, rfl, by omega⟩ rfl (by omega) hB fun o3 ho3 => ?_
      obtain rfl : o3 = 0 + (i + 1) := by omega
      repeat (first | refine C.seq ?_ | refine C.region ?_ | refine R.zb ttok ?_ | refine R.zu ttok ?_ | refine R.zc ttok ?_ | refine R.za ttok ?_ | refine R.zx ?_ | refine R.zl ttok ?_ | refine R.zs ttok ?_ | refine R.z ttok ?_ | refine R.zk ?_ | refine R.zn ?_ | refine R.done ?_ | refine X.then ?_ | refine C.block ?_ | refine C.ret ?_ | refine C.skip ?_ | refine C.exit ?_ | refine X.pass_ret ?_ | refine X.pass_exit ?_ | refine X.block_normal ?_ | refine X.block_ret ?_ | refine X.block_exit ?_ | refine C.zt ?_ | refine C.zf ?_ | refine X.zo ?_)
      refine R.sl ttok i l.length rfl rfl rfl rfl rfl rfl (by kernel_rfl) ⟨_, _, rfl, rfl⟩ rfl (by omega) (by omega) fun o4 ho4 => ?_
      obtain rfl : o4 = 0 + i := by omega
      refine R.cpt ttok (l.length + 1) (l.length - i) (k0 := l.length - i) (piF (insL l i p)) rfl rfl rfl (SrcA.tab (by decide) rfl (by omega)) rfl (fun _ _ => rfl) (by rw [flat_pi l _ _ (by omega)]; exact pis_one _) rfl rfl rfl rfl rfl (by kernel_rfl) (by show min _ _ = _; omega) (by omega) (by omega) (by omega) hB (fun j hj => .inl hj) (by decide) (fun j hj => ?_) ?_
      · rw [piF_ins l i p (by omega)]
        by_cases h1 : j < i
        · rw [if_pos h1, if_neg (by omega), if_neg (by omega), if_pos (by omega)]
        · rw [if_neg h1]
          by_cases h2 : j = i
          · rw [if_pos h2, if_neg (by omega), if_pos (by omega)]
          · rw [if_neg h2, if_pos (by omega)]
            congr 1
            omega
      repeat (first | refine C.seq ?_ | refine C.region ?_ | refine R.zb ttok ?_ | refine R.zu ttok ?_ | refine R.zc ttok ?_ | refine R.za ttok ?_ | refine R.zx ?_ | refine R.zl ttok ?_ | refine R.zs ttok ?_ | refine R.z ttok ?_ | refine R.zk ?_ | refine R.zn ?_ | refine R.done ?_ | refine X.then ?_ | refine C.block ?_ | refine C.ret ?_ | refine C.skip ?_ | refine C.exit ?_ | refine X.pass_ret ?_ | refine X.pass_exit ?_ | refine X.block_normal ?_ | refine X.block_ret ?_ | refine X.block_exit ?_ | refine C.zt ?_ | refine C.zf ?_ | refine X.zo ?_)
      refine X.fin ttok cB [] ⟨hB, hB2⟩ rfl rfl rfl (by exact .same rfl rfl rfl (fun _ _ => rfl) .nil) _ (by first | exact .inl rfl | exact .inr rfl)
    · have hroom : l.length + 1 ≤ c := by omega
      repeat (first | refine C.seq ?_ | refine C.region ?_ | refine R.zb ttok ?_ | refine R.zu ttok ?_ | refine R.zc ttok ?_ | refine R.za ttok ?_ | refine R.zx ?_ | refine R.zl ttok ?_ | refine R.zs ttok ?_ | refine R.z ttok ?_ | refine R.zk ?_ | refine R.zn ?_ | refine R.done ?_ | refine X.then ?_ | refine C.block ?_ | refine C.ret ?_ | refine C.skip ?_ | refine C.exit ?_ | refine X.pass_ret ?_ | refine X.pass_exit ?_ | refine X.block_normal ?_ | refine X.block_ret ?_ | refine X.block_exit ?_ | refine C.zt ?_ | refine C.zf ?_ | refine X.zo ?_)
      refine R.sl ttok 0 (l.length + 1) rfl rfl rfl rfl rfl rfl (by kernel_rfl) rfl ⟨_, _, rfl, by omega⟩ (by omega) (by omega) fun o1 ho1 => ?_
      obtain rfl : o1 = 0 := by omega
      repeat (first | refine C.seq ?_ | refine C.region ?_ | refine R.zb ttok ?_ | refine R.zu ttok ?_ | refine R.zc ttok ?_ | refine R.za ttok ?_ | refine R.zx ?_ | refine R.zl ttok ?_ | refine R.zs ttok ?_ | refine R.z ttok ?_ | refine R.zk ?_ | refine R.zn ?_ | refine R.done ?_ | refine X.then ?_ | refine C.block ?_ | refine C.ret ?_ | refine C.skip ?_ | refine C.exit ?_ | refine X.pass_ret ?_ | refine X.pass_exit ?_ | refine X.block_normal ?_ | refine X.block_ret ?_ | refine X.block_exit ?_ | refine C.zt ?_ | refine C.zf ?_ | refine X.zo ?_)
      refine R.sl ttok (i + 1) (l.length + 1) rfl rfl rfl rfl rfl rfl (by kernel_rfl) ⟨_, _, rfl, by omega⟩ (by show _ = _; omega) (by omega) (by omega) fun o2 ho2 => ?_
      obtain rfl : o2 = 0 + (i + 1) := by omega
      refine R.ovl ttok (t := 42) (tr := 4) (run_callFunc_extern Try.func77 (by kernel_rfl) (by kernel_rfl) (by kernel_rfl) (e := Extern.SlicesOverlaps.overlaps #[42, 42] #[4]) (by kernel_rfl)) rfl rfl rfl rfl rfl rfl rfl rfl (by kernel_rfl) (by omega) ?_
      repeat (first | refine C.seq ?_ | refine C.region ?_ | refine R.zb ttok ?_ | refine R.zu ttok ?_ | refine R.zc ttok ?_ | refine R.za ttok ?_ | refine R.zx ?_ | refine R.zl ttok ?_ | refine R.zs ttok ?_ | refine R.z ttok ?_ | refine R.zk ?_ | refine R.zn ?_ | refine R.done ?_ | refine X.then ?_ | refine C.block ?_ | refine C.ret ?_ | refine C.skip ?_ | refine C.exit ?_ | refine X.pass_ret ?_ | refine X.pass_exit ?_ | refine X.block_normal ?_ | refine X.block_ret ?_ | refine X.block_exit ?_ | refine C.zt ?_ | refine C.zf ?_ | refine X.zo ?_)
      refine C.draw [[], [], [], [1, 2], [0, 1, 2, 3], [], [], [5, 6], [0, 1, 2, 3, 4, 5, 6, 7]] [8] (by kernel_rfl) (by kernel_rfl) ?_
      repeat (first | refine C.seq ?_ | refine C.region ?_ | refine R.zb ttok ?_ | refine R.zu ttok ?_ | refine R.zc ttok ?_ | refine R.za ttok ?_ | refine R.zx ?_ | refine R.zl ttok ?_ | refine R.zs ttok ?_ | refine R.z ttok ?_ | refine R.zk ?_ | refine R.zn ?_ | refine R.done ?_ | refine X.then ?_ | refine C.block ?_ | refine C.ret ?_ | refine C.skip ?_ | refine C.exit ?_ | refine X.pass_ret ?_ | refine X.pass_exit ?_ | refine X.block_normal ?_ | refine X.block_ret ?_ | refine X.block_exit ?_ | refine C.zt ?_ | refine C.zf ?_ | refine X.zo ?_)
      refine R.sl ttok (i + 1) (l.length + 1) rfl rfl rfl rfl rfl rfl (by kernel_rfl) ⟨_, _, rfl, by omega⟩ (by show _ = _; omega) (by omega) (by omega) fun o3 ho3 => ?_
      obtain rfl : o3 = 0 + (i + 1) := by omega
      repeat (first | refine C.seq ?_ | refine C.region ?_ | refine R.zb ttok ?_ | refine R.zu ttok ?_ | refine R.zc ttok ?_ | refine R.za ttok ?_ | refine R.zx ?_ | refine R.zl ttok ?_ | refine R.zs ttok ?_ | refine R.z ttok ?_ | refine R.zk ?_ | refine R.zn ?_ | refine R.done ?_ | refine X.then ?_ | refine C.block ?_ | refine C.ret ?_ | refine C.skip ?_ | refine C.exit ?_ | refine X.pass_ret ?_ | refine X.pass_exit ?_ | refine X.block_normal ?_ | refine X.block_ret ?_ | refine X.block_exit ?_ | refine C.zt ?_ | refine C.zf ?_ | refine X.zo ?_)
      refine R.sl ttok i (l.length + 1) rfl rfl rfl rfl rfl rfl (by kernel_rfl) ⟨_, _, rfl, rfl⟩ (by show _ = _; omega) (by omega) (by omega) fun o4 ho4 => ?_
      obtain rfl : o4 = 0 + i := by omega
      refine R.cpt ttok (l.length + 1) (l.length - i) (k0 := l.length - i) (fun j => if i + 1 ≤ j then piF l (j - 1) else piF l j) rfl rfl rfl (SrcA.tabm (l.length - i) (by decide) rfl (by omega) (by omega)) rfl (fun _ _ => rfl) (by rw [flat_pi l _ _ (by omega)]; exact pis_one _) rfl rfl rfl rfl rfl (by kernel_rfl) (by show min _ _ = _; omega) (by omega) (by omega) (by omega) hroom (fun j hj => by omega) (by decide) (fun j hj => ?_) ?_
      · by_cases h1 : i + 1 ≤ j
        · rw [if_pos h1, if_pos (by omega)]
          congr 1
          omega
        · rw [if_neg h1, if_neg (by omega)]
      repeat (first | refine C.seq ?_ | refine C.region ?_ | refine R.zb ttok ?_ | refine R.zu ttok ?_ | refine R.zc ttok ?_ | refine R.za ttok ?_ | refine R.zx ?_ | refine R.zl ttok ?_ | refine R.zs ttok ?_ | refine R.z ttok ?_ | refine R.zk ?_ | refine R.zn ?_ | refine R.done ?_ | refine X.then ?_ | refine C.block ?_ | refine C.ret ?_ | refine C.skip ?_ | refine C.exit ?_ | refine X.pass_ret ?_ | refine X.pass_exit ?_ | refine X.block_normal ?_ | refine X.block_ret ?_ | refine X.block_exit ?_ | refine C.zt ?_ | refine C.zf ?_ | refine X.zo ?_)
      refine R.sl ttok i (l.length + 1) rfl rfl rfl rfl rfl rfl (by kernel_rfl) ⟨_, _, rfl, rfl⟩ (by show _ = _; omega) (by omega) (by omega) fun o5 ho5 => ?_
      obtain rfl : o5 = 0 + i := by omega
      repeat (first | refine C.seq ?_ | refine C.region ?_ | refine R.zb ttok ?_ | refine R.zu ttok ?_ | refine R.zc ttok ?_ | refine R.za ttok ?_ | refine R.zx ?_ | refine R.zl ttok ?_ | refine R.zs ttok ?_ | refine R.z ttok ?_ | refine R.zk ?_ | refine R.zn ?_ | refine R.done ?_ | refine X.then ?_ | refine C.block ?_ | refine C.ret ?_ | refine C.skip ?_ | refine C.exit ?_ | refine X.pass_ret ?_ | refine X.pass_exit ?_ | refine X.block_normal ?_ | refine X.block_ret ?_ | refine X.block_exit ?_ | refine C.zt ?_ | refine C.zf ?_ | refine X.zo ?_)
      refine R.cpt ttok (l.length + 1) 1 (k0 := 1) (sf := fun _ => piA p) (piF (insL l i p)) rfl rfl rfl (SrcA.cells rfl rfl) rfl (fun _ _ => rfl) rfl rfl rfl rfl rfl rfl (by kernel_rfl) (by show min _ _ = _; omega) (by omega) (by omega) (by omega) hroom (fun j hj => .inl hj) (by decide) (fun j hj => ?_) ?_
      · rw [piF_ins l i p (by omega)]
        by_cases h1 : j < i
        · rw [if_pos h1, if_neg (by omega), if_neg (by omega)]
        · rw [if_neg h1]
          by_cases h2 : j = i
          · rw [if_pos h2, if_pos (by omega)]
          · rw [if_neg h2, if_neg (by omega), if_pos (by omega)]
      repeat (first | refine C.seq ?_ | refine C.region ?_ | refine R.zb ttok ?_ | refine R.zu ttok ?_ | refine R.zc ttok ?_ | refine R.za ttok ?_ | refine R.zx ?_ | refine R.zl ttok ?_ | refine R.zs ttok ?_ | refine R.z ttok ?_ | refine R.zk ?_ | refine R.zn ?_ | refine R.done ?_ | refine X.then ?_ | refine C.block ?_ | refine C.ret ?_ | refine C.skip ?_ | refine C.exit ?_ | refine X.pass_ret ?_ | refine X.pass_exit ?_ | refine X.block_normal ?_ | refine X.block_ret ?_ | refine X.block_exit ?_ | refine C.zt ?_ | refine C.zf ?_ | refine X.zo ?_)
      refine X.fin ttok c [(2, 0)] ⟨hroom, hc2⟩ rfl rfl rfl (by exact .same rfl rfl rfl (fun _ _ => rfl) .nil) _ (by first | exact .inl rfl | exact .inr rfl)
theorem deleteI_spec (l : List PI) (i c : Nat) (hl : l.length ≤ 1000000) (hi : i < l.length) (hc : l.length ≤ c) (hc2 : c ≤ 9223372036854775807) :
    Spec Try.prog 64 [.sl 0 2 0 l.length c, .raw (.int .i64 i), .raw (.int .i64 ((i : Int) + 1))] [tI l c] 1 (σ := Unit) (fun _ => True)
    (fun _ => .sl 0 2 0 (l.length - 1) c) (fun _ => [(0, .tab 2 (l.length - 1) c (piF (delL l i)) 100)]) := by
  refine Spec.of Try.func64 rfl Try.ntmps64 rfl (by repeat (first | exact bdl_nil _ | refine bdl_cons (fun _ _ => rfl) ?_ | refine bdl_cons trivial ?_ | refine bdl_cons rfl ?_ | refine bdl_cons (rowsF_bd _ _ _ _) ?_)) fun ρ w => ?_
  repeat (first | refine C.seq ?_ | refine C.region ?_ | refine R.zb ttok ?_ | refine R.zu ttok ?_ | refine R.zc ttok ?_ | refine R.za ttok ?_ | refine R.zx ?_ | refine R.zl ttok ?_ | refine R.zs ttok ?_ | refine R.z ttok ?_ | refine R.zk ?_ | refine R.zn ?_ | refine R.done ?_ | refine X.then ?_ | refine C.block ?_ | refine C.ret ?_ | refine C.skip ?_ | refine C.exit ?_ | refine X.pass_ret ?_ | refine X.pass_exit ?_ | refine X.block_normal ?_ | refine X.block_ret ?_ | refine X.block_exit ?_ | refine C.zt ?_ | refine C.zf ?_ | refine X.zo ?_)
  refine R.sl3 ttok i (i + 1) l.length rfl rfl rfl rfl rfl rfl rfl rfl rfl (by kernel_rfl) rfl (by omega) rfl (by omega) (by omega) (by omega) fun o0 => ?_
  repeat (first | refine C.seq ?_ | refine C.region ?_ | refine R.zb ttok ?_ | refine R.zu ttok ?_ | refine R.zc ttok ?_ | refine R.za ttok ?_ | refine R.zx ?_ | refine R.zl ttok ?_ | refine R.zs ttok ?_ | refine R.z ttok ?_ | refine R.zk ?_ | refine R.zn ?_ | refine R.done ?_ | refine X.then ?_ | refine C.block ?_ | refine C.ret ?_ | refine C.skip ?_ | refine C.exit ?_ | refine X.pass_ret ?_ | refine X.pass_exit ?_ | refine X.block_normal ?_ | refine X.block_ret ?_ | refine X.block_exit ?_ | refine C.zt ?_ | refine C.zf ?_ | refine X.zo ?_)
  rw [decide_eq_false (show ¬ (i : Int) = (i : Int) + 1 by omega)]
  repeat (first | refine C.seq ?_ | refine C.region ?_ | refine R.zb ttok ?_ | refine R.zu ttok ?_ | refine R.zc ttok ?_ | refine R.za ttok ?_ | refine R.zx ?_ | refine R.zl ttok ?_ | refine R.zs ttok ?_ | refine R.z ttok ?_ | refine R.zk ?_ | refine R.zn ?_ | refine R.done ?_ | refine X.then ?_ | refine C.block ?_ | refine C.ret ?_ | refine C.skip ?_ | refine C.exit ?_ | refine X.pass_ret ?_ | refine X.pass_exit ?_ | refine X.block_normal ?_ | refine X.block_ret ?_ | refine X.block_exit ?_ | refine C.zt ?_ | refine C.zf ?_ | refine X.zo ?_)
  refine C.draw [[], [], [0, 1], [], [], [3, 4], [0, 1, 2, 3, 4, 5], [0, 1, 2, 3, 4, 5, 6]] [6] (by kernel_rfl) (by kernel_rfl) ?_
  repeat (first | refine C.seq ?_ | refine C.region ?_ | refine R.zb ttok ?_ | refine R.zu ttok ?_ | refine R.zc ttok ?_ | refine R.za ttok ?_ | refine R.zx ?_ | refine R.zl ttok ?_ | refine R.zs ttok ?_ | refine R.z ttok ?_ | refine R.zk ?_ | refine R.zn ?_ | refine R.done ?_ | refine X.then ?_ | refine C.block ?_ | refine C.ret ?_ | refine C.skip ?_ | refine C.exit ?_ | refine X.pass_ret ?_ | refine X.pass_exit ?_ | refine X.block_normal ?_ | refine X.block_ret ?_ | refine X.block_exit ?_ | refine C.zt ?_ | refine C.zf ?_ | refine X.zo ?_)
  refine R.sl ttok 0 i rfl rfl rfl rfl rfl rfl (by kernel_rfl) rfl ⟨_, _, rfl, rfl⟩ (by omega) (by omega) fun o1 ho1 => ?_
  obtain rfl : o1 = 0 := by omega
  repeat (first | refine C.seq ?_ | refine C.region ?_ | refine R.zb ttok ?_ | refine R.zu ttok ?_ | refine R.zc ttok ?_ | refine R.za ttok ?_ | refine R.zx ?_ | refine R.zl ttok ?_ | refine R.zs ttok ?_ | refine R.z ttok ?_ | refine R.zk ?_ | refine R.zn ?_ | refine R.done ?_ | refine X.then ?_ | refine C.block ?_ | refine C.ret ?_ | refine C.skip ?_ | refine C.exit ?_ | refine X.pass_ret ?_ | refine X.pass_exit ?_ | refine X.block_normal ?_ | refine X.block_ret ?_ | refine X.block_exit ?_ | refine C.zt ?_ | refine C.zf ?_ | refine X.zo ?_)
  refine R.sl ttok (i + 1) l.length rfl rfl rfl rfl rfl rfl (by kernel_rfl) ⟨_, _, rfl, by omega⟩ rfl (by omega) (by omega) fun o2 ho2 => ?_
  refine R.aprt ttok (piF (delL l i)) rfl rfl (show i - 0 ≤ l.length by omega) rfl (srcPiF rfl (by omega) ho2) rfl (fun _ _ => rfl) (by rw [flat_pi l _ _ (by omega)]; exact pis_one _) rfl rfl rfl rfl rfl (by kernel_rfl) (by omega) (by omega) (fun j hj => ?_) ?_
  · rw [piF_del l i hi]
    by_cases h1 : j < i
    · rw [if_pos h1, if_neg (by omega)]
    · rw [if_neg h1, if_pos (by omega)]
      congr 1
      omega
  rw [show i - 0 + (l.length - (i + 1)) = l.length - 1 by omega]
  repeat (first | refine C.seq ?_ | refine C.region ?_ | refine R.zb ttok ?_ | refine R.zu ttok ?_ | refine R.zc ttok ?_ | refine R.za ttok ?_ | refine R.zx ?_ | refine R.zl ttok ?_ | refine R.zs ttok ?_ | refine R.z ttok ?_ | refine R.zk ?_ | refine R.zn ?_ | refine R.done ?_ | refine X.then ?_ | refine C.block ?_ | refine C.ret ?_ | refine C.skip ?_ | refine C.exit ?_ | refine X.pass_ret ?_ | refine X.pass_exit ?_ | refine X.block_normal ?_ | refine X.block_ret ?_ | refine X.block_exit ?_ | refine C.zt ?_ | refine C.zf ?_ | refine X.zo ?_)
  refine R.sl ttok (l.length - 1) l.length rfl rfl rfl rfl rfl rfl (by kernel_rfl) ⟨_, _, rfl, rfl⟩ ⟨_, _, rfl, rfl⟩ (by omega) (by omega) fun o3 ho3 => ?_
  obtain rfl : o3 = 0 + (l.length - 1) := by omega
  refine R.clt ttok rfl rfl rfl rfl rfl rfl rfl rfl (by kernel_rfl) (by omega) (by omega) (by omega) ?_
  repeat (first | refine C.seq ?_ | refine C.region ?_ | refine R.zb ttok ?_ | refine R.zu ttok ?_ | refine R.zc ttok ?_ | refine R.za ttok ?_ | refine R.zx ?_ | refine R.zl ttok ?_ | refine R.zs ttok ?_ | refine R.z ttok ?_ | refine R.zk ?_ | refine R.zn ?_ | refine R.done ?_ | refine X.then ?_ | refine C.block ?_ | refine C.ret ?_ | refine C.skip ?_ | refine C.exit ?_ | refine X.pass_ret ?_ | refine X.pass_exit ?_ | refine X.block_normal ?_ | refine X.block_ret ?_ | refine X.block_exit ?_ | refine C.zt ?_ | refine C.zf ?_ | refine X.zo ?_)
  refine X.fin ttok () [] trivial rfl rfl rfl (by exact .same rfl rfl rfl (fun _ _ => rfl) .nil) _ (by first | exact .inl rfl | exact .inr rfl)
end Go.Proofs.Ytlcojlcackkhpaa
