/- zigzag: pairs of a Range and of a Snapshot, write, steps, much, same, behind, what is held (XZP XZQ XZI XZK XZM merged) -/
import Derived.Test.YteabncomclgncaaZV
/- zigzag: pairs -/
namespace Go.Proofs.Yteabncomclgncaa
set_option linter.unusedVariables false
set_option linter.unusedSimpArgs false
open Go.RowKit
set_option maxRecDepth 100000
set_option maxHeartbeats 4000000
/-! lists of numbers -/
def inF (l : List Int) (i : Nat) : List AV := [.raw (.int .i64 (l.getD i 0))]
abbrev tN (l : List Int) (c : Nat) : AO := .tab 1 l.length c (inF l) 3
abbrev roN (off : Nat) (l : List Int) : AO := .ro 1 off (l.length * 1) (rowsF 1 (inF l))
def ins (l : List Int) : List AV := l.map fun s => .raw (.int .i64 s)
theorem flat_in (l : List Int) : flat (inF l) l.length = ins l := by
  have key : ∀ n, n ≤ l.length → flat (inF l) n = ins (l.take n) := fun n => by
    induction n with
    | zero => intro _; rfl
    | succ n ih =>
      intro h
      rw [flat, ih (by omega), List.take_add_one]
      unfold ins inF
      rw [List.map_append]
      congr 1
      rw [List.getElem?_eq_getElem (by omega), List.getD_eq_getElem?_getD, List.getElem?_eq_getElem (by omega)]
      rfl
  rw [key _ (Nat.le_refl _), List.take_length]
section
variable {E : Base} {n L : Nat} {τ : List (Nat × AV)} {h : List (Nat × AO)} {F : World → Prop}
theorem asIn (T : TypeId) (l : List Int) (xs : List AV) (hx : xs = ins l) : AsRow (fun c => .tab 1 l.length c (inF l) T) T 1 xs := by
  rw [hx, ← flat_in]
  exact AsRow.tab T (by decide) fun i _ => rfl
theorem dstIn {lab cap : Nat} {l : List Int} {T : TypeId} (hl : hk lab h = some (.tab 1 l.length cap (inF l) T)) : DstA E n L τ h F (.sl lab 1 0 l.length cap) T 1 l.length cap (ins l) [lab] := by
  have := DstA.tab (E := E) (n := n) (L := L) (τ := τ) (F := F) (by decide) hl fun i _ => rfl
  rwa [flat_in] at this
end
abbrev kT : TypeId := 22
abbrev vT : TypeId := 46
theorem pr1_spec (key : ByteArray) (x : Int) (ks : List ByteArray) (vs : List Int) (c1 c2 : Nat) (h1 : ks.length < 602) (h2 : vs.length < 602) (hc1 : c1 ≤ 9223372036854775807) (hd1 : ks.length ≤ c1) (hc2 : c2 ≤ 9223372036854775807) (hd2 : vs.length ≤ c2) :
    Spec Try.prog 51 [.raw (.string key), .raw (.int .i64 x), .ptr 0 0 0 0, .ptr 1 0 0 0] [.cells [.sl 2 1 0 ks.length c1] kT, .cells [.sl 3 1 0 vs.length c2] vT, tX ks c1, tN vs c2] 6 (σ := Nat × Nat) (fun s => (ks ++ [key]).length ≤ s.1 ∧ s.1 ≤ 9223372036854775807 ∧ (vs ++ [x]).length ≤ s.2 ∧ s.2 ≤ 9223372036854775807)
    (fun _ => .raw (.bool true)) (fun s => [(0, .cells [.sl 4 1 0 (ks ++ [key]).length s.1] kT), (1, .cells [.sl 5 1 0 (vs ++ [x]).length s.2] vT), (4, tX (ks ++ [key]) s.1), (5, tN (vs ++ [x]) s.2)]) := by
  refine Spec.of Try.func51 rfl Try.ntmps51 rfl (bdl_cons rfl (bdl_cons rfl (bdl_cons (fun _ _ => rfl) (bdl_cons (fun _ _ => rfl) (bdl_nil _))))) fun ρ w => ?_
  have hlen1 : (ks ++ [key]).length = ks.length + 1 := by rw [List.length_append]; rfl
  have hlen2 : (vs ++ [x]).length = vs.length + 1 := by rw [List.length_append]; rfl
  repeat (first | refine C.seq ?_ | refine C.region ?_ | refine R.zb ttok ?_ | refine R.zu ttok ?_ | refine R.zc ttok ?_ | refine R.za ttok ?_ | refine R.zx ?_ | refine R.zl ttok ?_ | refine R.zs ttok ?_ | refine R.z ttok ?_ | refine R.zk ?_ | refine R.zn ?_ | refine R.done ?_ | refine X.then ?_ | refine C.block ?_ | refine C.ret ?_ | refine C.skip ?_ | refine C.exit ?_ | refine X.pass_ret ?_ | refine X.pass_exit ?_ | refine X.block_normal ?_ | refine X.block_ret ?_ | refine X.block_exit ?_ | refine C.zt ?_ | refine C.zf ?_ | refine X.zo ?_)
  refine R.app (xs := txs ks) (news := txs [key]) ttok (fun c => tX (ks ++ [key]) c) rfl rfl (dstTx rfl) (SrcA.cells rfl rfl) (asTx _ _ _ (by unfold txs; rw [List.map_append])) rfl rfl rfl rfl rfl rfl (by decide) rfl rfl rfl (by kernel_rfl) hc1 (by show (ks.length + 1) * 16 ≤ _; omega) (by omega) fun cN hcN hcN2 => ?_
  rw [← hlen1] at hcN ⊢
  repeat (first | refine C.seq ?_ | refine C.region ?_ | refine R.zb ttok ?_ | refine R.zu ttok ?_ | refine R.zc ttok ?_ | refine R.za ttok ?_ | refine R.zx ?_ | refine R.zl ttok ?_ | refine R.zs ttok ?_ | refine R.z ttok ?_ | refine R.zk ?_ | refine R.zn ?_ | refine R.done ?_ | refine X.then ?_ | refine C.block ?_ | refine C.ret ?_ | refine C.skip ?_ | refine C.exit ?_ | refine X.pass_ret ?_ | refine X.pass_exit ?_ | refine X.block_normal ?_ | refine X.block_ret ?_ | refine X.block_exit ?_ | refine C.zt ?_ | refine C.zf ?_ | refine X.zo ?_)
  refine R.app (xs := ins vs) (news := ins [x]) ttok (fun c => tN (vs ++ [x]) c) rfl rfl (dstIn rfl) (SrcA.cells rfl rfl) (asIn _ _ _ (by unfold ins; rw [List.map_append])) rfl rfl rfl rfl rfl rfl (by decide) rfl rfl rfl (by kernel_rfl) hc2 (by show (vs.length + 1) * 8 ≤ _; omega) (by omega) fun cM hcM hcM2 => ?_
  rw [← hlen2] at hcM ⊢
  repeat (first | refine C.seq ?_ | refine C.region ?_ | refine R.zb ttok ?_ | refine R.zu ttok ?_ | refine R.zc ttok ?_ | refine R.za ttok ?_ | refine R.zx ?_ | refine R.zl ttok ?_ | refine R.zs ttok ?_ | refine R.z ttok ?_ | refine R.zk ?_ | refine R.zn ?_ | refine R.done ?_ | refine X.then ?_ | refine C.block ?_ | refine C.ret ?_ | refine C.skip ?_ | refine C.exit ?_ | refine X.pass_ret ?_ | refine X.pass_exit ?_ | refine X.block_normal ?_ | refine X.block_ret ?_ | refine X.block_exit ?_ | refine C.zt ?_ | refine C.zf ?_ | refine X.zo ?_)
  rw [decide_eq_true (show ((ks ++ [key]).length : Int) ≤ 602 by omega)]
  repeat (first | refine C.seq ?_ | refine C.region ?_ | refine R.zb ttok ?_ | refine R.zu ttok ?_ | refine R.zc ttok ?_ | refine R.za ttok ?_ | refine R.zx ?_ | refine R.zl ttok ?_ | refine R.zs ttok ?_ | refine R.z ttok ?_ | refine R.zk ?_ | refine R.zn ?_ | refine R.done ?_ | refine X.then ?_ | refine C.block ?_ | refine C.ret ?_ | refine C.skip ?_ | refine C.exit ?_ | refine X.pass_ret ?_ | refine X.pass_exit ?_ | refine X.block_normal ?_ | refine X.block_ret ?_ | refine X.block_exit ?_ | refine C.zt ?_ | refine C.zf ?_ | refine X.zo ?_)
  refine X.fin ttok (cN, cM) [(4, 5), (5, 7)] ⟨hcN, hcN2, hcM, hcM2⟩ rfl rfl rfl (by repeat (first | exact HasH.nil | refine HasH.same rfl rfl rfl trivial ?_ | refine HasH.same rfl rfl rfl rfl ?_ | refine HasH.same rfl rfl rfl (fun _ _ => rfl) ?_ | refine HasH.ros rfl rfl ?_)) _ (by first | exact .inl rfl | exact .inr rfl)
/-! parts of a list -/
def segF (f : PIZ → Bool) (l : ZL) (i j : Nat) : ZL := ((l.take j).drop i).filter f
theorem segF_self (f : PIZ → Bool) (l : ZL) (i : Nat) : segF f l i i = [] := by
  unfold segF
  rw [List.drop_eq_nil_of_le (by rw [List.length_take]; omega)]
  rfl
theorem segF_step {f : PIZ → Bool} {l : ZL} {i j : Nat} (h1 : i ≤ j) (h2 : j < l.length) : segF f l i (j + 1) = if f (l.getD j zG) = true then segF f l i j ++ [l.getD j zG] else segF f l i j := by
  unfold segF
  rw [List.take_succ_eq_append_getElem h2, List.drop_append_of_le_length (by rw [List.length_take]; omega), List.filter_append, zG_get h2]
  cases h : f l[j] <;> simp [h]
theorem segF_len (f : PIZ → Bool) (l : ZL) (i j : Nat) : (segF f l i j).length ≤ l.length := by
  unfold segF
  refine Nat.le_trans (List.length_filter_le _ _) ?_
  rw [List.length_drop, List.length_take]
  omega
abbrev keysZ (l : ZL) : List ByteArray := l.map (·.1)
abbrev heldZ (p : PIZ) : Bool := heldB p.2.2
abbrev hvZ (l : ZL) : List Int := l.map fun p => heldV p.2.2
abbrev liveZ (p : PIZ) : Bool := p.2.2.live
abbrev lvZ (l : ZL) : List Int := l.map fun p => p.2.2.get p.2.2.rd
theorem map_snoc {α β : Type} (f : α → β) (l : List α) (x : α) : (l ++ [x]).map f = l.map f ++ [f x] := by rw [List.map_append]; rfl
/-! Snapshot gone through by pairs -/
section
variable (l : ZL) (c : Nat) (ab : ByteArray)
theorem snPr_spec (hs : Int) (hA : Asc l) (hl : l.length ≤ 601) :
    SpecF Try.prog 53 [.fn 51 [.ptr 4 0 0 0, .ptr 5 0 0 0], .ptr 2 0 0 0, .ptr 3 0 0 0] [tbAZ 1 l.length c hs true, roTZ l, one0 (.ptr 0 0 0 0), one0 (.raw (.string ab)), .cells [.sl 6 1 0 ([] : List ByteArray).length 0] kT, .cells [.sl 7 1 0 ([] : List Int).length 0] vT, tX [] 0, tN [] 0] 10 (zF l) (σ := Nat × Nat) (fun s => (keysZ (segF heldZ l (aboveN l ab) l.length)).length ≤ s.1 ∧ s.1 ≤ 9223372036854775807 ∧ (hvZ (segF heldZ l (aboveN l ab) l.length)).length ≤ s.2 ∧ s.2 ≤ 9223372036854775807)
    (fun _ => .tup []) (fun s => [(4, .cells [.sl 8 1 0 (keysZ (segF heldZ l (aboveN l ab) l.length)).length s.1] kT), (5, .cells [.sl 9 1 0 (hvZ (segF heldZ l (aboveN l ab) l.length)).length s.2] vT), (8, tX (keysZ (segF heldZ l (aboveN l ab) l.length)) s.1), (9, tN (hvZ (segF heldZ l (aboveN l ab) l.length)) s.2)]) (fun _ => zF l) := by
  refine SpecF.of Try.func53 rfl Try.ntmps53 rfl (bdl_cons (roA_bd rfl) (bdl_cons (fun _ _ => rfl) (bdl_cons (roA_bd rfl) (bdl_cons (roA_bd rfl) (bdl_cons rfl (bdl_cons rfl (bdl_cons (fun _ _ => rfl) (bdl_cons (fun _ _ => rfl) (bdl_nil _))))))))) fun ρ w => ?_
  repeat (first | refine C.seq ?_ | refine C.region ?_ | refine R.zb ttok ?_ | refine R.zu ttok ?_ | refine R.zc ttok ?_ | refine R.za ttok ?_ | refine R.zx ?_ | refine R.zl ttok ?_ | refine R.zs ttok ?_ | refine R.z ttok ?_ | refine R.zk ?_ | refine R.zn ?_ | refine R.done ?_ | refine X.then ?_ | refine C.block ?_ | refine C.ret ?_ | refine C.skip ?_ | refine C.exit ?_ | refine X.pass_ret ?_ | refine X.pass_exit ?_ | refine X.block_normal ?_ | refine X.block_ret ?_ | refine X.block_exit ?_ | refine C.zt ?_ | refine C.zf ?_ | refine X.zo ?_)
  refine R.ldo (v := .ptr 0 0 0 0) ttok rfl rfl rfl rfl rfl (by kernel_rfl) Nat.one_pos ?_
  repeat (first | refine C.seq ?_ | refine C.region ?_ | refine R.zb ttok ?_ | refine R.zu ttok ?_ | refine R.zc ttok ?_ | refine R.za ttok ?_ | refine R.zx ?_ | refine R.zl ttok ?_ | refine R.zs ttok ?_ | refine R.z ttok ?_ | refine R.zk ?_ | refine R.zn ?_ | refine R.done ?_ | refine X.then ?_ | refine C.block ?_ | refine C.ret ?_ | refine C.skip ?_ | refine C.exit ?_ | refine X.pass_ret ?_ | refine X.pass_exit ?_ | refine X.block_normal ?_ | refine X.block_ret ?_ | refine X.block_exit ?_ | refine C.zt ?_ | refine C.zf ?_ | refine X.zo ?_)
  refine C.draw [[], [0], [0, 1], [], [0, 1, 2, 3], [0, 1, 2, 3, 4], [0, 1, 2, 3, 4, 5], [0, 1, 2, 3, 4, 5], [0, 1, 2, 3, 4, 5, 6], [0, 1, 2, 3, 4, 5, 6, 7, 8]] [4] (by kernel_rfl) (by kernel_rfl) ?_
  refine R.ldo (v := .ptr 0 0 0 0) ttok rfl rfl rfl rfl rfl (by kernel_rfl) Nat.one_pos ?_
  repeat (first | refine C.seq ?_ | refine C.region ?_ | refine R.zb ttok ?_ | refine R.zu ttok ?_ | refine R.zc ttok ?_ | refine R.za ttok ?_ | refine R.zx ?_ | refine R.zl ttok ?_ | refine R.zs ttok ?_ | refine R.z ttok ?_ | refine R.zk ?_ | refine R.zn ?_ | refine R.done ?_ | refine X.then ?_ | refine C.block ?_ | refine C.ret ?_ | refine C.skip ?_ | refine C.exit ?_ | refine X.pass_ret ?_ | refine X.pass_exit ?_ | refine X.block_normal ?_ | refine X.block_ret ?_ | refine X.block_exit ?_ | refine C.zt ?_ | refine C.zf ?_ | refine X.zo ?_)
  refine R.ldo (v := .raw (.string ab)) ttok rfl rfl rfl rfl rfl (by kernel_rfl) Nat.one_pos ?_
  refine R.cl [0, 1] (nextI_specZ l c ab hA (by omega)) Try.call54 (by repeat (first | exact HasIn.nil | refine HasIn.same rfl rfl ?_ | refine HasIn.c1 rfl rfl ?_ | refine HasIn.roq rfl rfl ?_ | refine HasIn.other rfl (fun e => by cases e) (fun ρ x w hh => tab_ro hh) ?_ | refine HasIn.other rfl (fun e => by cases e) (fun ρ x w hh => tab_any hh) ?_ | refine HasIn.roAp rfl rfl ?_ | refine HasIn.other rfl (fun e => by cases e) (fun ρ x w hh => cells_any hh) ?_ | refine HasIn.other rfl (fun e => by cases e) (fun ρ x w hh => ro_any hh) ?_)) rfl rfl rfl (fun _ => rfl) rfl (by kernel_rfl) fun _ _ => ?_
  repeat (first | refine C.seq ?_ | refine C.region ?_ | refine R.zb ttok ?_ | refine R.zu ttok ?_ | refine R.zc ttok ?_ | refine R.za ttok ?_ | refine R.zx ?_ | refine R.zl ttok ?_ | refine R.zs ttok ?_ | refine R.z ttok ?_ | refine R.zk ?_ | refine R.zn ?_ | refine R.done ?_ | refine X.then ?_ | refine C.block ?_ | refine C.ret ?_ | refine C.skip ?_ | refine C.exit ?_ | refine X.pass_ret ?_ | refine X.pass_exit ?_ | refine X.block_normal ?_ | refine X.block_ret ?_ | refine X.block_exit ?_ | refine C.zt ?_ | refine C.zf ?_ | refine X.zo ?_)
  refine C.loop (σ := Nat × Nat × Nat) (L2 := 10) (fun s => aboveN l ab ≤ s.1 ∧ s.1 ≤ l.length ∧ ((keysZ (segF heldZ l (aboveN l ab) s.1)).length ≤ s.2.1 ∧ s.2.1 ≤ 9223372036854775807) ∧ ((hvZ (segF heldZ l (aboveN l ab) s.1)).length ≤ s.2.2 ∧ s.2.2 ≤ 9223372036854775807)) (fun s => [(0, .fn 51 [.ptr 4 0 0 0, .ptr 5 0 0 0]), (1, .ptr 2 0 0 0), (2, .ptr 3 0 0 0), (4, .raw (.string (l.getD s.1 zG).1)), (5, .raw (.bool (decide (s.1 < l.length))))]) (fun s => [(0, tbAZ 1 l.length c hs true), (1, roTZ l), (2, one0 (.ptr 0 0 0 0)), (3, one0 (.raw (.string ab))), (4, .cells [.sl 8 1 0 (keysZ (segF heldZ l (aboveN l ab) s.1)).length s.2.1] kT), (5, .cells [.sl 9 1 0 (hvZ (segF heldZ l (aboveN l ab) s.1)).length s.2.2] vT), (8, tX (keysZ (segF heldZ l (aboveN l ab) s.1)) s.2.1), (9, tN (hvZ (segF heldZ l (aboveN l ab) s.1)) s.2.2)]) _ (fun s => l.length - s.1) [(8, 6), (9, 7)] (aboveN l ab, 0, 0) ⟨Nat.le_refl _, aboveN_le _ _, by rw [segF_self]; exact ⟨Nat.le_refl _, Nat.zero_le _⟩, by rw [segF_self]; exact ⟨Nat.le_refl _, Nat.zero_le _⟩⟩ rfl (by repeat (first | exact HasT.nil | refine HasT.cons rfl rfl rfl ?_)) (by
    show HasH _ _ _ [(0, tbAZ 1 l.length c hs true), (1, roTZ l), (2, one0 (.ptr 0 0 0 0)), (3, one0 (.raw (.string ab))), (4, .cells [.sl 8 1 0 (keysZ (segF heldZ l (aboveN l ab) (aboveN l ab))).length 0] kT), (5, .cells [.sl 9 1 0 (hvZ (segF heldZ l (aboveN l ab) (aboveN l ab))).length 0] vT), (8, tX (keysZ (segF heldZ l (aboveN l ab) (aboveN l ab))) 0), (9, tN (hvZ (segF heldZ l (aboveN l ab) (aboveN l ab))) 0)]
    rw [segF_self]
    exact (by repeat (first | exact HasH.nil | refine HasH.same rfl rfl rfl trivial ?_ | refine HasH.same rfl rfl rfl rfl ?_ | refine HasH.same rfl rfl rfl (fun _ _ => rfl) ?_))) rfl (fun _ h => h) ?_
  rintro ⟨j, ca, cb⟩ ⟨hj, hjl, hca, hcb⟩
  dsimp only at hj hjl hca hcb ⊢
  have hsl := segF_len heldZ l (aboveN l ab) j
  repeat (first | refine C.seq ?_ | refine C.region ?_ | refine R.zb ttok ?_ | refine R.zu ttok ?_ | refine R.zc ttok ?_ | refine R.za ttok ?_ | refine R.zx ?_ | refine R.zl ttok ?_ | refine R.zs ttok ?_ | refine R.z ttok ?_ | refine R.zk ?_ | refine R.zn ?_ | refine R.done ?_ | refine X.then ?_ | refine C.block ?_ | refine C.ret ?_ | refine C.skip ?_ | refine C.exit ?_ | refine X.pass_ret ?_ | refine X.pass_exit ?_ | refine X.block_normal ?_ | refine X.block_ret ?_ | refine X.block_exit ?_ | refine C.zt ?_ | refine C.zf ?_ | refine X.zo ?_)
  by_cases hlt : j < l.length
  · rw [decide_eq_true hlt]
    have hseg := segF_step (f := heldZ) hj hlt
    have hmem := zF_mem hlt
    have hgI : getIZ l (l.getD j zG).1 = .pointer (some ⟨(l.getD j zG).2.1, 0, none⟩) := by unfold getIZ; rw [if_pos (has_at hA hlt), plc_at hA hlt]
    have habove := above_at hA hlt
    obtain ⟨⟨pk, pb, c0, c1, h0, h1, rd, wr⟩, hpp⟩ : ∃ p, l.getD j zG = p := ⟨_, rfl⟩
    rw [hpp] at hseg hmem hgI habove ⊢
    refine R.ldo (v := .ptr 0 0 0 0) ttok rfl rfl rfl rfl rfl (by kernel_rfl) Nat.one_pos ?_
    repeat (first | refine C.seq ?_ | refine C.region ?_ | refine R.zb ttok ?_ | refine R.zu ttok ?_ | refine R.zc ttok ?_ | refine R.za ttok ?_ | refine R.zx ?_ | refine R.zl ttok ?_ | refine R.zs ttok ?_ | refine R.z ttok ?_ | refine R.zk ?_ | refine R.zn ?_ | refine R.done ?_ | refine X.then ?_ | refine C.block ?_ | refine C.ret ?_ | refine C.skip ?_ | refine C.exit ?_ | refine X.pass_ret ?_ | refine X.pass_exit ?_ | refine X.block_normal ?_ | refine X.block_ret ?_ | refine X.block_exit ?_ | refine C.zt ?_ | refine C.zf ?_ | refine X.zo ?_)
    refine R.ldo (v := .raw (.bool true)) ttok rfl rfl rfl rfl rfl (by kernel_rfl) Nat.one_pos ?_
    repeat (first | refine C.seq ?_ | refine C.region ?_ | refine R.zb ttok ?_ | refine R.zu ttok ?_ | refine R.zc ttok ?_ | refine R.za ttok ?_ | refine R.zx ?_ | refine R.zl ttok ?_ | refine R.zs ttok ?_ | refine R.z ttok ?_ | refine R.zk ?_ | refine R.zn ?_ | refine R.done ?_ | refine X.then ?_ | refine C.block ?_ | refine C.ret ?_ | refine C.skip ?_ | refine C.exit ?_ | refine X.pass_ret ?_ | refine X.pass_exit ?_ | refine X.block_normal ?_ | refine X.block_ret ?_ | refine X.block_exit ?_ | refine C.zt ?_ | refine C.zf ?_ | refine X.zo ?_)
    refine R.ldo (v := .ptr 0 0 0 0) ttok rfl rfl rfl rfl rfl (by kernel_rfl) Nat.one_pos ?_
    repeat (first | refine C.seq ?_ | refine C.region ?_ | refine R.zb ttok ?_ | refine R.zu ttok ?_ | refine R.zc ttok ?_ | refine R.za ttok ?_ | refine R.zx ?_ | refine R.zl ttok ?_ | refine R.zs ttok ?_ | refine R.z ttok ?_ | refine R.zk ?_ | refine R.zn ?_ | refine R.done ?_ | refine X.then ?_ | refine C.block ?_ | refine C.ret ?_ | refine C.skip ?_ | refine C.exit ?_ | refine X.pass_ret ?_ | refine X.pass_exit ?_ | refine X.block_normal ?_ | refine X.block_ret ?_ | refine X.block_exit ?_ | refine C.zt ?_ | refine C.zf ?_ | refine X.zo ?_)
    refine R.cl [0, 1] (getI_specZ l c pk hA (by omega)) Try.call52 (by repeat (first | exact HasIn.nil | refine HasIn.same rfl rfl ?_ | refine HasIn.c1 rfl rfl ?_ | refine HasIn.roq rfl rfl ?_ | refine HasIn.other rfl (fun e => by cases e) (fun ρ x w hh => tab_ro hh) ?_ | refine HasIn.other rfl (fun e => by cases e) (fun ρ x w hh => tab_any hh) ?_ | refine HasIn.roAp rfl rfl ?_ | refine HasIn.other rfl (fun e => by cases e) (fun ρ x w hh => cells_any hh) ?_ | refine HasIn.other rfl (fun e => by cases e) (fun ρ x w hh => ro_any hh) ?_)) rfl rfl rfl (fun _ => rfl) rfl (by kernel_rfl) fun _ _ => ?_
    rw [hgI]
    repeat (first | refine R.zb ttok ?_ | refine R.zu ttok ?_ | refine R.zc ttok ?_ | refine R.za ttok ?_ | refine R.zx ?_ | refine R.zl ttok ?_ | refine R.zs ttok ?_ | refine R.z ttok ?_ | refine R.zk ?_ | refine R.zn ?_)
    refine R.done ?_
    refine X.then ?_
    refine C.labZ 6 (pk, pb, ⟨c0, c1, h0, h1, rd, wr⟩) hmem rfl ?_
    cases wr with
    | false =>
      repeat (first | refine C.seq ?_ | refine C.region ?_ | refine R.zb ttok ?_ | refine R.zu ttok ?_ | refine R.zc ttok ?_ | refine R.za ttok ?_ | refine R.zx ?_ | refine R.zl ttok ?_ | refine R.zs ttok ?_ | refine R.z ttok ?_ | refine R.zk ?_ | refine R.zn ?_ | refine R.done ?_ | refine X.then ?_ | refine C.block ?_ | refine C.ret ?_ | refine C.skip ?_ | refine C.exit ?_ | refine X.pass_ret ?_ | refine X.pass_exit ?_ | refine X.block_normal ?_ | refine X.block_ret ?_ | refine X.block_exit ?_ | refine C.zt ?_ | refine C.zf ?_ | refine X.zo ?_)
      refine R.ldo (v := .raw (.int .i64 (b01 false))) ttok rfl rfl rfl rfl rfl (by kernel_rfl) Nat.one_pos ?_
      repeat (first | refine C.seq ?_ | refine C.region ?_ | refine R.zb ttok ?_ | refine R.zu ttok ?_ | refine R.zc ttok ?_ | refine R.za ttok ?_ | refine R.zx ?_ | refine R.zl ttok ?_ | refine R.zs ttok ?_ | refine R.z ttok ?_ | refine R.zk ?_ | refine R.zn ?_ | refine R.done ?_ | refine X.then ?_ | refine C.block ?_ | refine C.ret ?_ | refine C.skip ?_ | refine C.exit ?_ | refine X.pass_ret ?_ | refine X.pass_exit ?_ | refine X.block_normal ?_ | refine X.block_ret ?_ | refine X.block_exit ?_ | refine C.zt ?_ | refine C.zf ?_ | refine X.zo ?_)
      refine R.cl [10] (read_specZ ⟨c0, c1, h0, h1, rd, false⟩ true) Try.call50 (by repeat (first | exact HasIn.nil | refine HasIn.same rfl rfl ?_ | refine HasIn.bro rfl ?_ | refine HasIn.ror rfl ?_ | refine HasIn.cro rfl rfl ?_)) rfl rfl rfl (fun _ => rfl) rfl (by kernel_rfl) fun _ _ => ?_
      cases h1 with
      | false =>
        have hseg : segF heldZ l (aboveN l ab) (j + 1) = segF heldZ l (aboveN l ab) j := hseg
        repeat (first | refine C.seq ?_ | refine C.region ?_ | refine R.zb ttok ?_ | refine R.zu ttok ?_ | refine R.zc ttok ?_ | refine R.za ttok ?_ | refine R.zx ?_ | refine R.zl ttok ?_ | refine R.zs ttok ?_ | refine R.z ttok ?_ | refine R.zk ?_ | refine R.zn ?_ | refine R.done ?_ | refine X.then ?_ | refine C.block ?_ | refine C.ret ?_ | refine C.skip ?_ | refine C.exit ?_ | refine X.pass_ret ?_ | refine X.pass_exit ?_ | refine X.block_normal ?_ | refine X.block_ret ?_ | refine X.block_exit ?_ | refine C.zt ?_ | refine C.zf ?_ | refine X.zo ?_)
        refine R.ldo (v := .ptr 0 0 0 0) ttok rfl rfl rfl rfl rfl (by kernel_rfl) Nat.one_pos ?_
        repeat (first | refine C.seq ?_ | refine C.region ?_ | refine R.zb ttok ?_ | refine R.zu ttok ?_ | refine R.zc ttok ?_ | refine R.za ttok ?_ | refine R.zx ?_ | refine R.zl ttok ?_ | refine R.zs ttok ?_ | refine R.z ttok ?_ | refine R.zk ?_ | refine R.zn ?_ | refine R.done ?_ | refine X.then ?_ | refine C.block ?_ | refine C.ret ?_ | refine C.skip ?_ | refine C.exit ?_ | refine X.pass_ret ?_ | refine X.pass_exit ?_ | refine X.block_normal ?_ | refine X.block_ret ?_ | refine X.block_exit ?_ | refine C.zt ?_ | refine C.zf ?_ | refine X.zo ?_)
        refine R.cl [0, 1] (nextI_specZ l c pk hA (by omega)) Try.call54 (by repeat (first | exact HasIn.nil | refine HasIn.same rfl rfl ?_ | refine HasIn.c1 rfl rfl ?_ | refine HasIn.roq rfl rfl ?_ | refine HasIn.other rfl (fun e => by cases e) (fun ρ x w hh => tab_ro hh) ?_ | refine HasIn.other rfl (fun e => by cases e) (fun ρ x w hh => tab_any hh) ?_ | refine HasIn.roAp rfl rfl ?_ | refine HasIn.other rfl (fun e => by cases e) (fun ρ x w hh => cells_any hh) ?_ | refine HasIn.other rfl (fun e => by cases e) (fun ρ x w hh => ro_any hh) ?_)) rfl rfl rfl (fun _ => rfl) rfl (by kernel_rfl) fun _ _ => ?_
        rw [habove]
        repeat (first | refine C.seq ?_ | refine C.region ?_ | refine R.zb ttok ?_ | refine R.zu ttok ?_ | refine R.zc ttok ?_ | refine R.za ttok ?_ | refine R.zx ?_ | refine R.zl ttok ?_ | refine R.zs ttok ?_ | refine R.z ttok ?_ | refine R.zk ?_ | refine R.zn ?_ | refine R.done ?_ | refine X.then ?_ | refine C.block ?_ | refine C.ret ?_ | refine C.skip ?_ | refine C.exit ?_ | refine X.pass_ret ?_ | refine X.pass_exit ?_ | refine X.block_normal ?_ | refine X.block_ret ?_ | refine X.block_exit ?_ | refine C.zt ?_ | refine C.zf ?_ | refine X.zo ?_)
        exact X.back [] (j + 1, ca, cb) ⟨by omega, by omega, by rw [hseg]; exact hca, by rw [hseg]; exact hcb⟩ (by dsimp only; omega) rfl (by repeat (first | exact HasT.nil | refine HasT.cons rfl rfl rfl ?_)) (by
          show HasH _ _ _ [(0, tbAZ 1 l.length c hs true), (1, roTZ l), (2, one0 (.ptr 0 0 0 0)), (3, one0 (.raw (.string ab))), (4, .cells [.sl 8 1 0 (keysZ (segF heldZ l (aboveN l ab) (j + 1))).length ca] kT), (5, .cells [.sl 9 1 0 (hvZ (segF heldZ l (aboveN l ab) (j + 1))).length cb] vT), (8, tX (keysZ (segF heldZ l (aboveN l ab) (j + 1))) ca), (9, tN (hvZ (segF heldZ l (aboveN l ab) (j + 1))) cb)]
          rw [hseg]
          exact (by repeat (first | exact HasH.nil | refine HasH.same rfl rfl rfl trivial ?_ | refine HasH.same rfl rfl rfl rfl ?_ | refine HasH.same rfl rfl rfl (fun _ _ => rfl) ?_))) rfl (fun _ h => h)
      | true =>
        have hseg : segF heldZ l (aboveN l ab) (j + 1) = segF heldZ l (aboveN l ab) j ++ [_] := hseg
        repeat (first | refine C.seq ?_ | refine C.region ?_ | refine R.zb ttok ?_ | refine R.zu ttok ?_ | refine R.zc ttok ?_ | refine R.za ttok ?_ | refine R.zx ?_ | refine R.zl ttok ?_ | refine R.zs ttok ?_ | refine R.z ttok ?_ | refine R.zk ?_ | refine R.zn ?_ | refine R.done ?_ | refine X.then ?_ | refine C.block ?_ | refine C.ret ?_ | refine C.skip ?_ | refine C.exit ?_ | refine X.pass_ret ?_ | refine X.pass_exit ?_ | refine X.block_normal ?_ | refine X.block_ret ?_ | refine X.block_exit ?_ | refine C.zt ?_ | refine C.zf ?_ | refine X.zo ?_)
        refine R.cl [4, 5, 8, 9] (pr1_spec pk c1 (keysZ (segF heldZ l (aboveN l ab) j)) (hvZ (segF heldZ l (aboveN l ab) j)) ca cb (by rw [List.length_map]; omega) (by rw [List.length_map]; omega) hca.2 hca.1 hcb.2 hcb.1) Try.call51 (by repeat (first | exact HasIn.nil | refine HasIn.same rfl rfl ?_ | refine HasIn.bro rfl ?_ | refine HasIn.ror rfl ?_ | refine HasIn.cro rfl rfl ?_)) rfl rfl rfl (fun _ => rfl) rfl (by kernel_rfl) fun s hs => ?_
        have hk1 : keysZ (segF heldZ l (aboveN l ab) (j + 1)) = keysZ (segF heldZ l (aboveN l ab) j) ++ [pk] := by rw [hseg]; exact map_snoc _ _ _
        have hk2 : hvZ (segF heldZ l (aboveN l ab) (j + 1)) = hvZ (segF heldZ l (aboveN l ab) j) ++ [c1] := by rw [hseg]; exact map_snoc _ _ _
        rw [← hk1, ← hk2] at hs ⊢
        repeat (first | refine C.seq ?_ | refine C.region ?_ | refine R.zb ttok ?_ | refine R.zu ttok ?_ | refine R.zc ttok ?_ | refine R.za ttok ?_ | refine R.zx ?_ | refine R.zl ttok ?_ | refine R.zs ttok ?_ | refine R.z ttok ?_ | refine R.zk ?_ | refine R.zn ?_ | refine R.done ?_ | refine X.then ?_ | refine C.block ?_ | refine C.ret ?_ | refine C.skip ?_ | refine C.exit ?_ | refine X.pass_ret ?_ | refine X.pass_exit ?_ | refine X.block_normal ?_ | refine X.block_ret ?_ | refine X.block_exit ?_ | refine C.zt ?_ | refine C.zf ?_ | refine X.zo ?_)
        refine R.ldo (v := .ptr 0 0 0 0) ttok rfl rfl rfl rfl rfl (by kernel_rfl) Nat.one_pos ?_
        repeat (first | refine C.seq ?_ | refine C.region ?_ | refine R.zb ttok ?_ | refine R.zu ttok ?_ | refine R.zc ttok ?_ | refine R.za ttok ?_ | refine R.zx ?_ | refine R.zl ttok ?_ | refine R.zs ttok ?_ | refine R.z ttok ?_ | refine R.zk ?_ | refine R.zn ?_ | refine R.done ?_ | refine X.then ?_ | refine C.block ?_ | refine C.ret ?_ | refine C.skip ?_ | refine C.exit ?_ | refine X.pass_ret ?_ | refine X.pass_exit ?_ | refine X.block_normal ?_ | refine X.block_ret ?_ | refine X.block_exit ?_ | refine C.zt ?_ | refine C.zf ?_ | refine X.zo ?_)
        refine R.cl [0, 1] (nextI_specZ l c pk hA (by omega)) Try.call54 (by repeat (first | exact HasIn.nil | refine HasIn.same rfl rfl ?_ | refine HasIn.c1 rfl rfl ?_ | refine HasIn.roq rfl rfl ?_ | refine HasIn.other rfl (fun e => by cases e) (fun ρ x w hh => tab_ro hh) ?_ | refine HasIn.other rfl (fun e => by cases e) (fun ρ x w hh => tab_any hh) ?_ | refine HasIn.roAp rfl rfl ?_ | refine HasIn.other rfl (fun e => by cases e) (fun ρ x w hh => cells_any hh) ?_ | refine HasIn.other rfl (fun e => by cases e) (fun ρ x w hh => ro_any hh) ?_)) rfl rfl rfl (fun _ => rfl) rfl (by kernel_rfl) fun _ _ => ?_
        rw [habove]
        repeat (first | refine C.seq ?_ | refine C.region ?_ | refine R.zb ttok ?_ | refine R.zu ttok ?_ | refine R.zc ttok ?_ | refine R.za ttok ?_ | refine R.zx ?_ | refine R.zl ttok ?_ | refine R.zs ttok ?_ | refine R.z ttok ?_ | refine R.zk ?_ | refine R.zn ?_ | refine R.done ?_ | refine X.then ?_ | refine C.block ?_ | refine C.ret ?_ | refine C.skip ?_ | refine C.exit ?_ | refine X.pass_ret ?_ | refine X.pass_exit ?_ | refine X.block_normal ?_ | refine X.block_ret ?_ | refine X.block_exit ?_ | refine C.zt ?_ | refine C.zf ?_ | refine X.zo ?_)
        exact X.back [(8, 11), (9, 12)] (j + 1, s.1, s.2) ⟨by omega, by omega, ⟨hs.1, hs.2.1⟩, hs.2.2⟩ (by dsimp only; omega) rfl (by repeat (first | exact HasT.nil | refine HasT.cons rfl rfl rfl ?_)) (by repeat (first | exact HasH.nil | refine HasH.same rfl rfl rfl trivial ?_ | refine HasH.same rfl rfl rfl rfl ?_ | refine HasH.same rfl rfl rfl (fun _ _ => rfl) ?_)) rfl (fun _ h => h)
    | true =>
      repeat (first | refine C.seq ?_ | refine C.region ?_ | refine R.zb ttok ?_ | refine R.zu ttok ?_ | refine R.zc ttok ?_ | refine R.za ttok ?_ | refine R.zx ?_ | refine R.zl ttok ?_ | refine R.zs ttok ?_ | refine R.z ttok ?_ | refine R.zk ?_ | refine R.zn ?_ | refine R.done ?_ | refine X.then ?_ | refine C.block ?_ | refine C.ret ?_ | refine C.skip ?_ | refine C.exit ?_ | refine X.pass_ret ?_ | refine X.pass_exit ?_ | refine X.block_normal ?_ | refine X.block_ret ?_ | refine X.block_exit ?_ | refine C.zt ?_ | refine C.zf ?_ | refine X.zo ?_)
      refine R.ldo (v := .raw (.int .i64 (b01 true))) ttok rfl rfl rfl rfl rfl (by kernel_rfl) Nat.one_pos ?_
      repeat (first | refine C.seq ?_ | refine C.region ?_ | refine R.zb ttok ?_ | refine R.zu ttok ?_ | refine R.zc ttok ?_ | refine R.za ttok ?_ | refine R.zx ?_ | refine R.zl ttok ?_ | refine R.zs ttok ?_ | refine R.z ttok ?_ | refine R.zk ?_ | refine R.zn ?_ | refine R.done ?_ | refine X.then ?_ | refine C.block ?_ | refine C.ret ?_ | refine C.skip ?_ | refine C.exit ?_ | refine X.pass_ret ?_ | refine X.pass_exit ?_ | refine X.block_normal ?_ | refine X.block_ret ?_ | refine X.block_exit ?_ | refine C.zt ?_ | refine C.zf ?_ | refine X.zo ?_)
      refine R.cl [10] (read_specZ ⟨c0, c1, h0, h1, rd, true⟩ false) Try.call50 (by repeat (first | exact HasIn.nil | refine HasIn.same rfl rfl ?_ | refine HasIn.bro rfl ?_ | refine HasIn.ror rfl ?_ | refine HasIn.cro rfl rfl ?_)) rfl rfl rfl (fun _ => rfl) rfl (by kernel_rfl) fun _ _ => ?_
      cases h0 with
      | false =>
        have hseg : segF heldZ l (aboveN l ab) (j + 1) = segF heldZ l (aboveN l ab) j := hseg
        repeat (first | refine C.seq ?_ | refine C.region ?_ | refine R.zb ttok ?_ | refine R.zu ttok ?_ | refine R.zc ttok ?_ | refine R.za ttok ?_ | refine R.zx ?_ | refine R.zl ttok ?_ | refine R.zs ttok ?_ | refine R.z ttok ?_ | refine R.zk ?_ | refine R.zn ?_ | refine R.done ?_ | refine X.then ?_ | refine C.block ?_ | refine C.ret ?_ | refine C.skip ?_ | refine C.exit ?_ | refine X.pass_ret ?_ | refine X.pass_exit ?_ | refine X.block_normal ?_ | refine X.block_ret ?_ | refine X.block_exit ?_ | refine C.zt ?_ | refine C.zf ?_ | refine X.zo ?_)
        refine R.ldo (v := .ptr 0 0 0 0) ttok rfl rfl rfl rfl rfl (by kernel_rfl) Nat.one_pos ?_
        repeat (first | refine C.seq ?_ | refine C.region ?_ | refine R.zb ttok ?_ | refine R.zu ttok ?_ | refine R.zc ttok ?_ | refine R.za ttok ?_ | refine R.zx ?_ | refine R.zl ttok ?_ | refine R.zs ttok ?_ | refine R.z ttok ?_ | refine R.zk ?_ | refine R.zn ?_ | refine R.done ?_ | refine X.then ?_ | refine C.block ?_ | refine C.ret ?_ | refine C.skip ?_ | refine C.exit ?_ | refine X.pass_ret ?_ | refine X.pass_exit ?_ | refine X.block_normal ?_ | refine X.block_ret ?_ | refine X.block_exit ?_ | refine C.zt ?_ | refine C.zf ?_ | refine X.zo ?_)
        refine R.cl [0, 1] (nextI_specZ l c pk hA (by omega)) Try.call54 (by repeat (first | exact HasIn.nil | refine HasIn.same rfl rfl ?_ | refine HasIn.c1 rfl rfl ?_ | refine HasIn.roq rfl rfl ?_ | refine HasIn.other rfl (fun e => by cases e) (fun ρ x w hh => tab_ro hh) ?_ | refine HasIn.other rfl (fun e => by cases e) (fun ρ x w hh => tab_any hh) ?_ | refine HasIn.roAp rfl rfl ?_ | refine HasIn.other rfl (fun e => by cases e) (fun ρ x w hh => cells_any hh) ?_ | refine HasIn.other rfl (fun e => by cases e) (fun ρ x w hh => ro_any hh) ?_)) rfl rfl rfl (fun _ => rfl) rfl (by kernel_rfl) fun _ _ => ?_
        rw [habove]
        repeat (first | refine C.seq ?_ | refine C.region ?_ | refine R.zb ttok ?_ | refine R.zu ttok ?_ | refine R.zc ttok ?_ | refine R.za ttok ?_ | refine R.zx ?_ | refine R.zl ttok ?_ | refine R.zs ttok ?_ | refine R.z ttok ?_ | refine R.zk ?_ | refine R.zn ?_ | refine R.done ?_ | refine X.then ?_ | refine C.block ?_ | refine C.ret ?_ | refine C.skip ?_ | refine C.exit ?_ | refine X.pass_ret ?_ | refine X.pass_exit ?_ | refine X.block_normal ?_ | refine X.block_ret ?_ | refine X.block_exit ?_ | refine C.zt ?_ | refine C.zf ?_ | refine X.zo ?_)
        exact X.back [] (j + 1, ca, cb) ⟨by omega, by omega, by rw [hseg]; exact hca, by rw [hseg]; exact hcb⟩ (by dsimp only; omega) rfl (by repeat (first | exact HasT.nil | refine HasT.cons rfl rfl rfl ?_)) (by
          show HasH _ _ _ [(0, tbAZ 1 l.length c hs true), (1, roTZ l), (2, one0 (.ptr 0 0 0 0)), (3, one0 (.raw (.string ab))), (4, .cells [.sl 8 1 0 (keysZ (segF heldZ l (aboveN l ab) (j + 1))).length ca] kT), (5, .cells [.sl 9 1 0 (hvZ (segF heldZ l (aboveN l ab) (j + 1))).length cb] vT), (8, tX (keysZ (segF heldZ l (aboveN l ab) (j + 1))) ca), (9, tN (hvZ (segF heldZ l (aboveN l ab) (j + 1))) cb)]
          rw [hseg]
          exact (by repeat (first | exact HasH.nil | refine HasH.same rfl rfl rfl trivial ?_ | refine HasH.same rfl rfl rfl rfl ?_ | refine HasH.same rfl rfl rfl (fun _ _ => rfl) ?_))) rfl (fun _ h => h)
      | true =>
        have hseg : segF heldZ l (aboveN l ab) (j + 1) = segF heldZ l (aboveN l ab) j ++ [_] := hseg
        repeat (first | refine C.seq ?_ | refine C.region ?_ | refine R.zb ttok ?_ | refine R.zu ttok ?_ | refine R.zc ttok ?_ | refine R.za ttok ?_ | refine R.zx ?_ | refine R.zl ttok ?_ | refine R.zs ttok ?_ | refine R.z ttok ?_ | refine R.zk ?_ | refine R.zn ?_ | refine R.done ?_ | refine X.then ?_ | refine C.block ?_ | refine C.ret ?_ | refine C.skip ?_ | refine C.exit ?_ | refine X.pass_ret ?_ | refine X.pass_exit ?_ | refine X.block_normal ?_ | refine X.block_ret ?_ | refine X.block_exit ?_ | refine C.zt ?_ | refine C.zf ?_ | refine X.zo ?_)
        refine R.cl [4, 5, 8, 9] (pr1_spec pk c0 (keysZ (segF heldZ l (aboveN l ab) j)) (hvZ (segF heldZ l (aboveN l ab) j)) ca cb (by rw [List.length_map]; omega) (by rw [List.length_map]; omega) hca.2 hca.1 hcb.2 hcb.1) Try.call51 (by repeat (first | exact HasIn.nil | refine HasIn.same rfl rfl ?_ | refine HasIn.bro rfl ?_ | refine HasIn.ror rfl ?_ | refine HasIn.cro rfl rfl ?_)) rfl rfl rfl (fun _ => rfl) rfl (by kernel_rfl) fun s hs => ?_
        have hk1 : keysZ (segF heldZ l (aboveN l ab) (j + 1)) = keysZ (segF heldZ l (aboveN l ab) j) ++ [pk] := by rw [hseg]; exact map_snoc _ _ _
        have hk2 : hvZ (segF heldZ l (aboveN l ab) (j + 1)) = hvZ (segF heldZ l (aboveN l ab) j) ++ [c0] := by rw [hseg]; exact map_snoc _ _ _
        rw [← hk1, ← hk2] at hs ⊢
        repeat (first | refine C.seq ?_ | refine C.region ?_ | refine R.zb ttok ?_ | refine R.zu ttok ?_ | refine R.zc ttok ?_ | refine R.za ttok ?_ | refine R.zx ?_ | refine R.zl ttok ?_ | refine R.zs ttok ?_ | refine R.z ttok ?_ | refine R.zk ?_ | refine R.zn ?_ | refine R.done ?_ | refine X.then ?_ | refine C.block ?_ | refine C.ret ?_ | refine C.skip ?_ | refine C.exit ?_ | refine X.pass_ret ?_ | refine X.pass_exit ?_ | refine X.block_normal ?_ | refine X.block_ret ?_ | refine X.block_exit ?_ | refine C.zt ?_ | refine C.zf ?_ | refine X.zo ?_)
        refine R.ldo (v := .ptr 0 0 0 0) ttok rfl rfl rfl rfl rfl (by kernel_rfl) Nat.one_pos ?_
        repeat (first | refine C.seq ?_ | refine C.region ?_ | refine R.zb ttok ?_ | refine R.zu ttok ?_ | refine R.zc ttok ?_ | refine R.za ttok ?_ | refine R.zx ?_ | refine R.zl ttok ?_ | refine R.zs ttok ?_ | refine R.z ttok ?_ | refine R.zk ?_ | refine R.zn ?_ | refine R.done ?_ | refine X.then ?_ | refine C.block ?_ | refine C.ret ?_ | refine C.skip ?_ | refine C.exit ?_ | refine X.pass_ret ?_ | refine X.pass_exit ?_ | refine X.block_normal ?_ | refine X.block_ret ?_ | refine X.block_exit ?_ | refine C.zt ?_ | refine C.zf ?_ | refine X.zo ?_)
        refine R.cl [0, 1] (nextI_specZ l c pk hA (by omega)) Try.call54 (by repeat (first | exact HasIn.nil | refine HasIn.same rfl rfl ?_ | refine HasIn.c1 rfl rfl ?_ | refine HasIn.roq rfl rfl ?_ | refine HasIn.other rfl (fun e => by cases e) (fun ρ x w hh => tab_ro hh) ?_ | refine HasIn.other rfl (fun e => by cases e) (fun ρ x w hh => tab_any hh) ?_ | refine HasIn.roAp rfl rfl ?_ | refine HasIn.other rfl (fun e => by cases e) (fun ρ x w hh => cells_any hh) ?_ | refine HasIn.other rfl (fun e => by cases e) (fun ρ x w hh => ro_any hh) ?_)) rfl rfl rfl (fun _ => rfl) rfl (by kernel_rfl) fun _ _ => ?_
        rw [habove]
        repeat (first | refine C.seq ?_ | refine C.region ?_ | refine R.zb ttok ?_ | refine R.zu ttok ?_ | refine R.zc ttok ?_ | refine R.za ttok ?_ | refine R.zx ?_ | refine R.zl ttok ?_ | refine R.zs ttok ?_ | refine R.z ttok ?_ | refine R.zk ?_ | refine R.zn ?_ | refine R.done ?_ | refine X.then ?_ | refine C.block ?_ | refine C.ret ?_ | refine C.skip ?_ | refine C.exit ?_ | refine X.pass_ret ?_ | refine X.pass_exit ?_ | refine X.block_normal ?_ | refine X.block_ret ?_ | refine X.block_exit ?_ | refine C.zt ?_ | refine C.zf ?_ | refine X.zo ?_)
        exact X.back [(8, 11), (9, 12)] (j + 1, s.1, s.2) ⟨by omega, by omega, ⟨hs.1, hs.2.1⟩, hs.2.2⟩ (by dsimp only; omega) rfl (by repeat (first | exact HasT.nil | refine HasT.cons rfl rfl rfl ?_)) (by repeat (first | exact HasH.nil | refine HasH.same rfl rfl rfl trivial ?_ | refine HasH.same rfl rfl rfl rfl ?_ | refine HasH.same rfl rfl rfl (fun _ _ => rfl) ?_)) rfl (fun _ h => h)
  · rw [decide_eq_false hlt]
    obtain rfl : j = l.length := by omega
    repeat (first | refine C.seq ?_ | refine C.region ?_ | refine R.zb ttok ?_ | refine R.zu ttok ?_ | refine R.zc ttok ?_ | refine R.za ttok ?_ | refine R.zx ?_ | refine R.zl ttok ?_ | refine R.zs ttok ?_ | refine R.z ttok ?_ | refine R.zk ?_ | refine R.zn ?_ | refine R.done ?_ | refine X.then ?_ | refine C.block ?_ | refine C.ret ?_ | refine C.skip ?_ | refine C.exit ?_ | refine X.pass_ret ?_ | refine X.pass_exit ?_ | refine X.block_normal ?_ | refine X.block_ret ?_ | refine X.block_exit ?_ | refine C.zt ?_ | refine C.zf ?_ | refine X.zo ?_)
    refine X.finF ttok (ca, cb) [] ⟨hca.1, hca.2, hcb.1, hcb.2⟩ rfl rfl rfl (by repeat (first | exact HasH.nil | refine HasH.same rfl rfl rfl trivial ?_ | refine HasH.same rfl rfl rfl rfl ?_ | refine HasH.same rfl rfl rfl (fun _ _ => rfl) ?_ | refine HasH.ros rfl rfl ?_)) _ (by first | exact .inl rfl | exact .inr rfl) ?_ ?_ ?_
    · exact fun w' hf => hf.ap
    · exact fun p hp => hp
    · exact fun p hp e => ⟨p, hp, rfl⟩
end
end Go.Proofs.Yteabncomclgncaa
/- zigzag: Range gone through by pairs; pairs -/
namespace Go.Proofs.Yteabncomclgncaa
set_option linter.unusedVariables false
set_option linter.unusedSimpArgs false
open Go.RowKit
set_option maxRecDepth 100000
set_option maxHeartbeats 4000000
abbrev prF : FuncId := 51
theorem CR.labZ {P : Program} {lb : Nat} {c : Code} {Q : Exit → Act → World → Prop} {E : Base} {n L : Nat} {τ : List (Nat × AV)} {h : List (Nat × AO)} {H0 : List AO} {R0 : Env} {W0 : World} {FS0 fs : Fam} (t : Nat) (p : PIZ) (hm : zfact p ∈ fs) (hv : lk t τ = some (.raw (.pointer (some ⟨p.2.1, 0, none⟩)))) (k : CR P lb c Q E n (L + 1) ((t, .ptr L 0 0 0) :: τ) ((L, slRo p.2.2) :: h) (FF H0 R0 W0 FS0 fs)) : CR P lb c Q E n L τ h (FF H0 R0 W0 FS0 fs) :=
  ⟨fun ρ a w g => k.out _ a w (g.labO t (x := some p.2.1) (ob := slOb p.2.2) (o := slRo p.2.2) (.ptr L 0 0 0) hv (fun q hq => by
    obtain rfl : q = ⟨false, p.2.1, slOb p.2.2⟩ := by simpa [optF] using hq
    exact ⟨zfact p, hm, rfl, rfl⟩) rfl (fun ρ h => by simp [AV.conc, h]) (by simp [AV.bd, Nat.ble_eq]) (fun b hb => by cases hb; exact is_slRo _ _) (fun e => by cases e) (roA_bd rfl))⟩
theorem one_ro {ρ : Env} {r : Option Nat} {w : World} {v : AV} {xs : List AV} {T : TypeId} (h : (AO.cells (v :: xs) T).holds ρ r w) : ∃ b, r = some b ∧ (AO.ro 0 0 1 (fun _ => [v])).holds ρ (some b) w := by
  obtain ⟨b, hr, hb⟩ := h
  refine ⟨b, hr, .inr ⟨b, _, T, _, rfl, hb, fun i c x hi hx => ?_⟩⟩
  cases c with
  | zero => simp at hx; subst hx; simp [AV.concs]
  | succ c => simp at hx
/-- what a Range sees, out of a telling in which the store is only read -/
theorem rsee_ro {E : Base} {ρ : Env} {n L : Nat} {τ : List (Nat × AV)} {h : List (Nat × AO)} {F : World → Prop} {a : Act} {W : World} (g : Gam E ρ n L τ h F a W) {lt lf lo ls ll c : Nat} {fr to : ByteArray} {l : ZL} {rest : List AV} {T1 T2 T3 : TypeId} (hA : Asc l) (hl : l.length ≤ 1000000) (h1 : hk lt h = some (.cells [.ptr ls 0 0 0] T1)) (h2 : hk lf h = some (.cells [.raw (.string fr)] T2)) (h3 : hk lo h = some (.cells [.raw (.string to)] T3))
    (h4 : hk ls h = some (.ro 0 0 1 (fun _ => .sl ll 2 0 l.length c :: rest))) (h5 : hk ll h = some (roTZ l)) : RSee ((ρ lt).getD 0) ((ρ lf).getD 0) ((ρ lo).getD 0) ((ρ ls).getD 0) fr to l W := by
  obtain ⟨b1, r1, k1⟩ := (g.hp _ _ h1).2.2
  obtain ⟨b2, r2, k2⟩ := (g.hp _ _ h2).2.2
  obtain ⟨b3, r3, k3⟩ := (g.hp _ _ h3).2.2
  have k4 := (g.hp _ _ h4).2.2
  have k5 := (g.hp _ _ h5).2.2
  rcases k4 with ⟨_, e⟩ | ⟨b4, cur4, ty4, fr4, r4, k4, c4⟩
  · cases e
  rw [r1, r2, r3, r4]
  refine ⟨hA, hl, ρ ll, c, fun i o ho => ?_, fun i b hi hb => ?_⟩
  · simp only [rgH, hk_cons] at ho
    split at ho
    · rename_i e; subst e; cases ho
      refine .inr ⟨b1, _, _, _, rfl, k1, fun i c x hi hx => ?_⟩
      cases c with
      | zero => simp at hx; subst hx; simp [AV.concs, AV.conc, r4, envR]
      | succ c => simp at hx
    split at ho
    · rename_i e; subst e; cases ho
      refine .inr ⟨b2, _, _, _, rfl, k2, fun i c x hi hx => ?_⟩
      cases c with
      | zero => simp at hx; subst hx; simp [AV.concs, AV.conc]
      | succ c => simp at hx
    split at ho
    · rename_i e; subst e; cases ho
      refine .inr ⟨b3, _, _, _, rfl, k3, fun i c x hi hx => ?_⟩
      cases c with
      | zero => simp at hx; subst hx; simp [AV.concs, AV.conc]
      | succ c => simp at hx
    split at ho
    · rename_i e; subst e; cases ho
      refine .inr ⟨b4, _, _, _, rfl, k4, fun i c x hi hx => ?_⟩
      cases c with
      | zero =>
        simp at hx; subst hx
        have := c4 i 0 _ hi rfl
        rw [this]
        simp [AV.conc, envR]
      | succ c => simp at hx
    split at ho
    · rename_i e; subst e; cases ho
      rcases k5 with ⟨h6, h7⟩ | ⟨b, cur, ty, fr', h6, h7, h8⟩
      · exact .inl ⟨h6, h7⟩
      · exact .inr ⟨b, cur, ty, fr', h6, h7, fun i c x hi hx => by
          have := h8 i c x hi hx
          have hx2 : x ∈ piFZ l i := List.mem_of_getElem? hx
          rw [this]
          unfold piFZ piAZ at hx2
          simp only [List.mem_cons, List.not_mem_nil, or_false] at hx2
          rcases hx2 with rfl | rfl <;> rfl⟩
    · simp [hk, lk] at ho
  · match i, hi with
    | 0, _ => cases hb; exact (Array.getElem?_eq_some_iff.1 k1).1
    | 1, _ => cases hb; exact (Array.getElem?_eq_some_iff.1 k2).1
    | 2, _ => cases hb; exact (Array.getElem?_eq_some_iff.1 k3).1
    | 3, _ => cases hb; exact (Array.getElem?_eq_some_iff.1 k4).1
    | 4, _ => exact g.al ll b (g.hp _ _ h5).1 hb
/-! where a Range stands -/
def lastR (l : ZL) (i0 i : Nat) : Option ByteArray := if i = i0 then none else some (l.getD (i - 1) zG).1
theorem posO_r {l : ZL} (hA : Asc l) {fr : ByteArray} {i : Nat} (h0 : plc l fr ≤ i) (hi : i ≤ l.length) : posO l fr (lastR l (plc l fr) i) = i := by
  unfold lastR
  by_cases h : i = plc l fr
  · rw [if_pos h, h]; rfl
  · rw [if_neg h]
    show aboveN l (l.getD (i - 1) zG).1 = i
    rw [above_at hA (by omega)]
    omega
section
variable (l : ZL) (c : Nat) (fr to : ByteArray)
theorem rgPr_spec (hs : Int) (mk : Bool) (hA : Asc l) (hl : l.length ≤ 601) :
    SpecF Try.prog 48 [.fn prF [.ptr 5 0 0 0, .ptr 6 0 0 0], .ptr 2 0 0 0, .ptr 3 0 0 0, .ptr 4 0 0 0] [tbAZ 1 l.length c hs mk, roTZ l, one0 (.ptr 0 0 0 0), one0 (.raw (.string fr)), one0 (.raw (.string to)), .cells [.sl 7 1 0 ([] : List ByteArray).length 0] kT, .cells [.sl 8 1 0 ([] : List Int).length 0] vT, tX [] 0, tN [] 0] 11 (zF l)
    (σ := Nat × Nat × Nat) (fun s => (plc l fr ≤ s.1 ∧ s.1 ≤ l.length ∧ (∀ i, plc l fr ≤ i → i < s.1 → past to (l.getD i zG).1 = false) ∧ (s.1 < l.length → past to (l.getD s.1 zG).1 = true)) ∧ (keysZ (segF liveZ l (plc l fr) s.1)).length ≤ s.2.1 ∧ s.2.1 ≤ 9223372036854775807 ∧ (lvZ (segF liveZ l (plc l fr) s.1)).length ≤ s.2.2 ∧ s.2.2 ≤ 9223372036854775807)
    (fun _ => .tup []) (fun s => [(5, .cells [.sl 9 1 0 (keysZ (segF liveZ l (plc l fr) s.1)).length s.2.1] kT), (6, .cells [.sl 10 1 0 (lvZ (segF liveZ l (plc l fr) s.1)).length s.2.2] vT), (9, tX (keysZ (segF liveZ l (plc l fr) s.1)) s.2.1), (10, tN (lvZ (segF liveZ l (plc l fr) s.1)) s.2.2)]) (fun _ => zF l) := by
  refine SpecF.ofM Try.func48 rfl Try.ntmps48 rfl (bdl_cons (roA_bd rfl) (bdl_cons (fun _ _ => rfl) (bdl_cons (roA_bd rfl) (bdl_cons (roA_bd rfl) (bdl_cons (roA_bd rfl) (bdl_cons rfl (bdl_cons rfl (bdl_cons (fun _ _ => rfl) (bdl_cons (fun _ _ => rfl) (bdl_nil _)))))))))) fun ρ w => ?_
  repeat (first | refine C.seq ?_ | refine C.region ?_ | refine R.zb ttok ?_ | refine R.zu ttok ?_ | refine R.zc ttok ?_ | refine R.za ttok ?_ | refine R.zx ?_ | refine R.zl ttok ?_ | refine R.zs ttok ?_ | refine R.z ttok ?_ | refine R.zk ?_ | refine R.zn ?_ | refine R.done ?_ | refine X.then ?_ | refine C.block ?_ | refine C.ret ?_ | refine C.skip ?_ | refine C.exit ?_ | refine X.pass_ret ?_ | refine X.pass_exit ?_ | refine X.block_normal ?_ | refine X.block_ret ?_ | refine X.block_exit ?_ | refine C.zt ?_ | refine C.zf ?_ | refine X.zo ?_)
  refine R.ldo (v := .ptr 0 0 0 0) ttok rfl rfl rfl rfl rfl (by kernel_rfl) Nat.one_pos ?_
  repeat (first | refine C.seq ?_ | refine C.region ?_ | refine R.zb ttok ?_ | refine R.zu ttok ?_ | refine R.zc ttok ?_ | refine R.za ttok ?_ | refine R.zx ?_ | refine R.zl ttok ?_ | refine R.zs ttok ?_ | refine R.z ttok ?_ | refine R.zk ?_ | refine R.zn ?_ | refine R.done ?_ | refine X.then ?_ | refine C.block ?_ | refine C.ret ?_ | refine C.skip ?_ | refine C.exit ?_ | refine X.pass_ret ?_ | refine X.pass_exit ?_ | refine X.block_normal ?_ | refine X.block_ret ?_ | refine X.block_exit ?_ | refine C.zt ?_ | refine C.zf ?_ | refine X.zo ?_)
  refine C.draw [[], [0], [0, 1], [], [], [0, 1, 2, 3, 4]] [5] (by kernel_rfl) (by kernel_rfl) ?_
  refine R.ldo (v := .ptr 0 0 0 0) ttok rfl rfl rfl rfl rfl (by kernel_rfl) Nat.one_pos ?_
  repeat (first | refine C.seq ?_ | refine C.region ?_ | refine R.zb ttok ?_ | refine R.zu ttok ?_ | refine R.zc ttok ?_ | refine R.za ttok ?_ | refine R.zx ?_ | refine R.zl ttok ?_ | refine R.zs ttok ?_ | refine R.z ttok ?_ | refine R.zk ?_ | refine R.zn ?_ | refine R.done ?_ | refine X.then ?_ | refine C.block ?_ | refine C.ret ?_ | refine C.skip ?_ | refine C.exit ?_ | refine X.pass_ret ?_ | refine X.pass_exit ?_ | refine X.block_normal ?_ | refine X.block_ret ?_ | refine X.block_exit ?_ | refine C.zt ?_ | refine C.zf ?_ | refine X.zo ?_)
  refine R.ldo (v := .raw (.string fr)) ttok rfl rfl rfl rfl rfl (by kernel_rfl) Nat.one_pos ?_
  repeat (first | refine C.seq ?_ | refine C.region ?_ | refine R.zb ttok ?_ | refine R.zu ttok ?_ | refine R.zc ttok ?_ | refine R.za ttok ?_ | refine R.zx ?_ | refine R.zl ttok ?_ | refine R.zs ttok ?_ | refine R.z ttok ?_ | refine R.zk ?_ | refine R.zn ?_ | refine R.done ?_ | refine X.then ?_ | refine C.block ?_ | refine C.ret ?_ | refine C.skip ?_ | refine C.exit ?_ | refine X.pass_ret ?_ | refine X.pass_exit ?_ | refine X.block_normal ?_ | refine X.block_ret ?_ | refine X.block_exit ?_ | refine C.zt ?_ | refine C.zf ?_ | refine X.zo ?_)
  refine R.ldo (v := .raw (.string to)) ttok rfl rfl rfl rfl rfl (by kernel_rfl) Nat.one_pos ?_
  refine R.cl [0] (rangeT_specZ fr to) Try.call49 (by repeat (first | exact HasIn.nil | refine HasIn.same rfl rfl ?_ | refine HasIn.c1 rfl rfl ?_ | refine HasIn.roq rfl rfl ?_ | refine HasIn.other rfl (fun e => by cases e) (fun ρ x w hh => tab_ro hh) ?_ | refine HasIn.other rfl (fun e => by cases e) (fun ρ x w hh => tab_any hh) ?_ | refine HasIn.roAp rfl rfl ?_ | refine HasIn.other rfl (fun e => by cases e) (fun ρ x w hh => cells_any hh) ?_ | refine HasIn.other rfl (fun e => by cases e) (fun ρ x w hh => ro_any hh) ?_)) rfl rfl rfl (fun _ => rfl) rfl (by kernel_rfl) fun _ _ => ?_
  repeat (first | refine C.seq ?_ | refine C.region ?_ | refine R.zb ttok ?_ | refine R.zu ttok ?_ | refine R.zc ttok ?_ | refine R.za ttok ?_ | refine R.zx ?_ | refine R.zl ttok ?_ | refine R.zs ttok ?_ | refine R.z ttok ?_ | refine R.zk ?_ | refine R.zn ?_ | refine R.done ?_ | refine X.then ?_ | refine C.block ?_ | refine C.ret ?_ | refine C.skip ?_ | refine C.exit ?_ | refine X.pass_ret ?_ | refine X.pass_exit ?_ | refine X.block_normal ?_ | refine X.block_ret ?_ | refine X.block_exit ?_ | refine C.zt ?_ | refine C.zf ?_ | refine X.zo ?_)
  refine C.less [(13, 7), (14, 8)] 15 [(0, .fn prF [.ptr 5 0 0 0, .ptr 6 0 0 0]), (1, .ptr 2 0 0 0), (4, .ptr 9 0 0 0), (16, .fn rgZ [.ptr 10 0 0 0, .ptr 11 0 0 0, .ptr 12 0 0 0])] [(0, tbAZ 1 l.length c hs mk), (1, roTZ l), (2, one0 (.ptr 0 0 0 0)), (3, one0 (.raw (.string fr))), (4, one0 (.raw (.string to))), (5, .cells [.sl 13 1 0 (keysZ (([] : ZL))).length (0 : Nat)] kT), (6, .cells [.sl 14 1 0 (lvZ (([] : ZL))).length (0 : Nat)] vT), (13, tX (keysZ (([] : ZL))) (0 : Nat)), (14, tN (lvZ (([] : ZL))) (0 : Nat)), (9, .cells [.fn prF [.ptr 5 0 0 0, .ptr 6 0 0 0]] 52), (10, .cells [.ptr 0 0 0 0] 133), (11, .cells [.raw (.string fr)] 9), (12, .cells [.raw (.string to)] 9)] _ rfl (by repeat (first | exact HasT.nil | refine HasT.cons rfl rfl rfl ?_)) (by repeat (first | exact HasH.nil | refine HasH.same rfl rfl rfl trivial ?_ | refine HasH.same rfl rfl rfl rfl ?_ | refine HasH.same rfl rfl rfl (fun _ _ => rfl) ?_)) rfl (fun _ h => h) ?_
  have h00 : [(0, tbAZ 1 l.length c hs mk), (1, roTZ l), (2, one0 (.ptr 0 0 0 0)), (3, one0 (.raw (.string fr))), (4, one0 (.raw (.string to))), (5, .cells [.sl 13 1 0 (keysZ (([] : ZL))).length (0 : Nat)] kT), (6, .cells [.sl 14 1 0 (lvZ (([] : ZL))).length (0 : Nat)] vT), (13, tX (keysZ (([] : ZL))) (0 : Nat)), (14, tN (lvZ (([] : ZL))) (0 : Nat)), (9, .cells [.fn prF [.ptr 5 0 0 0, .ptr 6 0 0 0]] 52), (10, .cells [.ptr 0 0 0 0] 133), (11, .cells [.raw (.string fr)] 9), (12, .cells [.raw (.string to)] 9)] = [(0, tbAZ 1 l.length c hs mk), (1, roTZ l), (2, one0 (.ptr 0 0 0 0)), (3, one0 (.raw (.string fr))), (4, one0 (.raw (.string to))), (5, .cells [.sl 13 1 0 (keysZ (segF liveZ l (plc l fr) (plc l fr))).length (0 : Nat)] kT), (6, .cells [.sl 14 1 0 (lvZ (segF liveZ l (plc l fr) (plc l fr))).length (0 : Nat)] vT), (13, tX (keysZ (segF liveZ l (plc l fr) (plc l fr))) (0 : Nat)), (14, tN (lvZ (segF liveZ l (plc l fr) (plc l fr))) (0 : Nat)), (9, .cells [.fn prF [.ptr 5 0 0 0, .ptr 6 0 0 0]] 52), (10, .cells [.ptr 0 0 0 0] 133), (11, .cells [.raw (.string fr)] 9), (12, .cells [.raw (.string to)] 9)] := by rw [segF_self]
  rw [h00]
  refine C.range (σ := Nat × Nat × Nat) (α := ByteArray × Nat) (H := fun s => [(0, tbAZ 1 l.length c hs mk), (1, roTZ l), (2, one0 (.ptr 0 0 0 0)), (3, one0 (.raw (.string fr))), (4, one0 (.raw (.string to))), (5, .cells [.sl 13 1 0 (keysZ (segF liveZ l (plc l fr) s.1)).length s.2.1] kT), (6, .cells [.sl 14 1 0 (lvZ (segF liveZ l (plc l fr) s.1)).length s.2.2] vT), (13, tX (keysZ (segF liveZ l (plc l fr) s.1)) s.2.1), (14, tN (lvZ (segF liveZ l (plc l fr) s.1)) s.2.2), (9, .cells [.fn prF [.ptr 5 0 0 0, .ptr 6 0 0 0]] 52), (10, .cells [.ptr 0 0 0 0] 133), (11, .cells [.raw (.string fr)] 9), (12, .cells [.raw (.string to)] 9)]) (HX := fun s => [(0, tbAZ 1 l.length c hs mk), (1, roTZ l), (2, one0 (.ptr 0 0 0 0)), (3, one0 (.raw (.string fr))), (4, one0 (.raw (.string to))), (5, .cells [.sl 13 1 0 (keysZ (segF liveZ l (plc l fr) s.1)).length s.2.1] kT), (6, .cells [.sl 14 1 0 (lvZ (segF liveZ l (plc l fr) s.1)).length s.2.2] vT), (13, tX (keysZ (segF liveZ l (plc l fr) s.1)) s.2.1), (14, tN (lvZ (segF liveZ l (plc l fr) s.1)) s.2.2), (9, .cells [.fn prF [.ptr 5 0 0 0, .ptr 6 0 0 0]] 52), (10, .cells [.ptr 0 0 0 0] 133), (11, .cells [.raw (.string fr)] 9), (12, .cells [.raw (.string to)] 9)]) (fsI := fun _ => zF l) (fsX := fun _ => zF l) (u := fun x => .string x.1) (v := fun x => .pointer (some ⟨x.2, 0, none⟩)) 13 15 (plc l fr, 0, 0) (fun s => (plc l fr ≤ s.1 ∧ s.1 ≤ l.length ∧ (∀ i, plc l fr ≤ i → i < s.1 → past to (l.getD i zG).1 = false)) ∧ ((keysZ (segF liveZ l (plc l fr) s.1)).length ≤ s.2.1 ∧ s.2.1 ≤ 9223372036854775807) ∧ ((lvZ (segF liveZ l (plc l fr) s.1)).length ≤ s.2.2 ∧ s.2.2 ≤ 9223372036854775807)) (fun _ => False) _ _ _ _ _
    rfl Try.call78 ⟨⟨Nat.le_refl _, plc_le _ _, fun i h1 h2 => (by omega)⟩, by rw [segF_self]; exact ⟨Nat.le_refl _, Nat.zero_le _⟩, by rw [segF_self]; exact ⟨Nat.le_refl _, Nat.zero_le _⟩⟩ ?hi0 rfl (fun s => zF_cells) (fun s => zF_cells) ?hsee (fun ρ1 _ => rng1_itc (fun _ : Nat × Nat × Nat => l) (fun s => lastR l (plc l fr) s.1) (fun s => l.length - s.1) ((ρ1 10).getD 0) ((ρ1 11).getD 0) ((ρ1 12).getD 0) ((ρ1 0).getD 0) fr to) ?hround ?hdone (fun s D _ h => h.elim)
  case hi0 => exact if_pos rfl
  case hsee =>
    intro ρ1 ρ s W fs he hI _ gg
    have h1 := rsee_ro gg (l := l) (lt := 10) (lf := 11) (lo := 12) (ls := 0) (ll := 1) (fr := fr) (to := to) hA (by omega) rfl rfl rfl rfl rfl
    rw [he 10 (by decide), he 11 (by decide), he 12 (by decide), he 0 (by decide)] at h1
    exact h1
  case hround =>
    rintro ρ1 lb D r XF ⟨i, ca, cb⟩ x hpin hr hpe hlb hX ⟨⟨hi0, hi, hnp⟩, hca, hcb⟩ ⟨i', hi', hlt, rfl, hpast⟩
    dsimp only at hi0 hi hnp hca hcb hi' hlt hpast ⊢
    rw [posO_r hA hi0 hi] at hi'
    subst hi'
    have hseg := segF_step (f := liveZ) hi0 hlt
    have hmem := zF_mem hlt
    have hla : lastR l (plc l fr) (i + 1) = some (l.getD i zG).1 := by unfold lastR; rw [if_neg (by omega), show i + 1 - 1 = i by omega]
    have hnp2 : ∀ j, plc l fr ≤ j → j < i + 1 → past to (l.getD j zG).1 = false := fun j h1 h2 => by
      rcases Nat.lt_or_ge j i with h | h
      · exact hnp j h1 h
      · obtain rfl : j = i := by omega
        exact hpast
    have hsl := segF_len liveZ l (plc l fr) i
    obtain ⟨⟨pk, pb, c0, c1, h0, h1, rd, wr⟩, hpp⟩ : ∃ p, l.getD i zG = p := ⟨_, rfl⟩
    rw [hpp] at hseg hmem hla ⊢
    have hfac : ∀ y ∈ dFact D :: (zF l ++ XF), FactC lb y := fun y hy => by
      rcases List.mem_cons.1 hy with rfl | hy
      · exact .inr (.inl rfl)
      · rcases List.mem_append.1 hy with hy | hy
        · exact .inl (zF_cells y hy)
        · exact .inr (.inr (hX y hy).2)
    refine CR.seq ?_
    refine CR.region ?_
    repeat (first | refine R.zb ttok ?_ | refine R.zu ttok ?_ | refine R.zc ttok ?_ | refine R.za ttok ?_ | refine R.zx ?_ | refine R.zl ttok ?_ | refine R.zs ttok ?_ | refine R.z ttok ?_ | refine R.zk ?_ | refine R.zn ?_)
    refine R.done ?_
    refine X.thenR ?_
    refine CR.region ?_
    repeat (first | refine R.zb ttok ?_ | refine R.zu ttok ?_ | refine R.zc ttok ?_ | refine R.za ttok ?_ | refine R.zx ?_ | refine R.zl ttok ?_ | refine R.zs ttok ?_ | refine R.z ttok ?_ | refine R.zk ?_ | refine R.zn ?_)
    refine R.done ?_
    refine X.begin_ hfac hlb hr ?_
    refine CR.block ?_
    refine CR.labZ 6 (pk, pb, ⟨c0, c1, h0, h1, rd, wr⟩) (List.mem_cons_of_mem _ (List.mem_cons_of_mem _ (List.mem_append_left _ hmem))) rfl ?_
    cases rd with
    | false =>
      repeat (first | refine CR.seq ?_ | refine CR.region ?_ | refine R.zb ttok ?_ | refine R.zu ttok ?_ | refine R.zc ttok ?_ | refine R.za ttok ?_ | refine R.zx ?_ | refine R.zl ttok ?_ | refine R.zs ttok ?_ | refine R.z ttok ?_ | refine R.zk ?_ | refine R.zn ?_ | refine R.done ?_ | refine X.thenR ?_ | refine CR.block ?_ | refine CR.skip ?_ | refine CR.ret ?_ | refine CR.tru (by exact rfl) ?_ | refine CR.fls (by exact rfl) ?_ | refine X.pass_ret ?_ | refine X.pass_exit ?_ | refine X.block_normal ?_ | refine X.block_ret ?_ | refine X.block_exit ?_)
      refine R.ldo (v := .raw (.int .i64 (b01 false))) ttok rfl rfl rfl rfl rfl (by kernel_rfl) Nat.one_pos ?_
      repeat (first | refine CR.seq ?_ | refine CR.region ?_ | refine R.zb ttok ?_ | refine R.zu ttok ?_ | refine R.zc ttok ?_ | refine R.za ttok ?_ | refine R.zx ?_ | refine R.zl ttok ?_ | refine R.zs ttok ?_ | refine R.z ttok ?_ | refine R.zk ?_ | refine R.zn ?_ | refine R.done ?_ | refine X.thenR ?_ | refine CR.block ?_ | refine CR.skip ?_ | refine CR.ret ?_ | refine CR.tru (by exact rfl) ?_ | refine CR.fls (by exact rfl) ?_ | refine X.pass_ret ?_ | refine X.pass_exit ?_ | refine X.block_normal ?_ | refine X.block_ret ?_ | refine X.block_exit ?_)
      refine R.cl [15] (read_specZ ⟨c0, c1, h0, h1, false, wr⟩ false) Try.call50 (by repeat (first | exact HasIn.nil | refine HasIn.same rfl rfl ?_ | refine HasIn.bro rfl ?_ | refine HasIn.ror rfl ?_ | refine HasIn.cro rfl rfl ?_)) rfl rfl rfl (fun _ => rfl) rfl (by kernel_rfl) fun _ _ => ?_
      cases h0 with
      | false =>
        have hseg : segF liveZ l (plc l fr) (i + 1) = segF liveZ l (plc l fr) i := hseg
        repeat (first | refine CR.seq ?_ | refine CR.region ?_ | refine R.zb ttok ?_ | refine R.zu ttok ?_ | refine R.zc ttok ?_ | refine R.za ttok ?_ | refine R.zx ?_ | refine R.zl ttok ?_ | refine R.zs ttok ?_ | refine R.z ttok ?_ | refine R.zk ?_ | refine R.zn ?_ | refine R.done ?_ | refine X.thenR ?_ | refine CR.block ?_ | refine CR.skip ?_ | refine CR.ret ?_ | refine CR.tru (by exact rfl) ?_ | refine CR.fls (by exact rfl) ?_ | refine X.pass_ret ?_ | refine X.pass_exit ?_ | refine X.block_normal ?_ | refine X.block_ret ?_ | refine X.block_exit ?_)
        refine X.next [] (i + 1, ca, cb) ⟨⟨by omega, hlt, hnp2⟩, by rw [hseg]; exact hca, by rw [hseg]; exact hcb⟩ ⟨hla, by dsimp only; omega⟩ hr hpe rfl rfl (by
          show HasH _ _ _ [(0, tbAZ 1 l.length c hs mk), (1, roTZ l), (2, one0 (.ptr 0 0 0 0)), (3, one0 (.raw (.string fr))), (4, one0 (.raw (.string to))), (5, .cells [.sl 13 1 0 (keysZ (segF liveZ l (plc l fr) (i + 1))).length ca] kT), (6, .cells [.sl 14 1 0 (lvZ (segF liveZ l (plc l fr) (i + 1))).length cb] vT), (13, tX (keysZ (segF liveZ l (plc l fr) (i + 1))) ca), (14, tN (lvZ (segF liveZ l (plc l fr) (i + 1))) cb), (9, .cells [.fn prF [.ptr 5 0 0 0, .ptr 6 0 0 0]] 52), (10, .cells [.ptr 0 0 0 0] 133), (11, .cells [.raw (.string fr)] 9), (12, .cells [.raw (.string to)] 9)]
          rw [hseg]
          exact (by repeat (first | exact HasH.nil | refine HasH.same rfl rfl rfl trivial ?_ | refine HasH.same rfl rfl rfl rfl ?_ | refine HasH.same rfl rfl rfl (fun _ _ => rfl) ?_))) rfl hlb hfac (fun w' hf => hf.less (fun y hy => by
          rcases List.mem_cons.1 hy with rfl | hy
          · exact List.mem_cons_self
          · exact List.mem_cons_of_mem _ (List.mem_append_left _ hy)) (hf.ap.sublist ((List.sublist_append_left _ _).cons_cons _))) (fun y hy => by
          rcases List.mem_cons.1 hy with rfl | hy
          · exact .inr (.inl rfl)
          · exact .inl (zF_cells y hy)) (fun y hy => List.mem_cons_of_mem _ (List.mem_append_right _ hy))
      | true =>
        have hseg : segF liveZ l (plc l fr) (i + 1) = segF liveZ l (plc l fr) i ++ [_] := hseg
        repeat (first | refine CR.seq ?_ | refine CR.region ?_ | refine R.zb ttok ?_ | refine R.zu ttok ?_ | refine R.zc ttok ?_ | refine R.za ttok ?_ | refine R.zx ?_ | refine R.zl ttok ?_ | refine R.zs ttok ?_ | refine R.z ttok ?_ | refine R.zk ?_ | refine R.zn ?_ | refine R.done ?_ | refine X.thenR ?_ | refine CR.block ?_ | refine CR.skip ?_ | refine CR.ret ?_ | refine CR.tru (by exact rfl) ?_ | refine CR.fls (by exact rfl) ?_ | refine X.pass_ret ?_ | refine X.pass_exit ?_ | refine X.block_normal ?_ | refine X.block_ret ?_ | refine X.block_exit ?_)
        refine R.cl [5, 6, 13, 14] (pr1_spec pk c0 (keysZ (segF liveZ l (plc l fr) i)) (lvZ (segF liveZ l (plc l fr) i)) ca cb (by rw [List.length_map]; omega) (by rw [List.length_map]; omega) hca.2 hca.1 hcb.2 hcb.1) Try.call51 (by repeat (first | exact HasIn.nil | refine HasIn.same rfl rfl ?_ | refine HasIn.bro rfl ?_ | refine HasIn.ror rfl ?_ | refine HasIn.cro rfl rfl ?_)) rfl rfl rfl (fun _ => rfl) rfl (by kernel_rfl) fun s hs => ?_
        have hk1 : keysZ (segF liveZ l (plc l fr) (i + 1)) = keysZ (segF liveZ l (plc l fr) i) ++ [pk] := by rw [hseg]; exact map_snoc _ _ _
        have hk2 : lvZ (segF liveZ l (plc l fr) (i + 1)) = lvZ (segF liveZ l (plc l fr) i) ++ [c0] := by rw [hseg]; exact map_snoc _ _ _
        rw [← hk1, ← hk2] at hs ⊢
        repeat (first | refine CR.seq ?_ | refine CR.region ?_ | refine R.zb ttok ?_ | refine R.zu ttok ?_ | refine R.zc ttok ?_ | refine R.za ttok ?_ | refine R.zx ?_ | refine R.zl ttok ?_ | refine R.zs ttok ?_ | refine R.z ttok ?_ | refine R.zk ?_ | refine R.zn ?_ | refine R.done ?_ | refine X.thenR ?_ | refine CR.block ?_ | refine CR.skip ?_ | refine CR.ret ?_ | refine CR.tru (by exact rfl) ?_ | refine CR.fls (by exact rfl) ?_ | refine X.pass_ret ?_ | refine X.pass_exit ?_ | refine X.block_normal ?_ | refine X.block_ret ?_ | refine X.block_exit ?_)
        refine X.next [(13, 16), (14, 17)] (i + 1, s.1, s.2) ⟨⟨by omega, hlt, hnp2⟩, ⟨hs.1, hs.2.1⟩, hs.2.2⟩ ⟨hla, by dsimp only; omega⟩ hr hpe rfl rfl (by repeat (first | exact HasH.nil | refine HasH.same rfl rfl rfl trivial ?_ | refine HasH.same rfl rfl rfl rfl ?_ | refine HasH.same rfl rfl rfl (fun _ _ => rfl) ?_)) rfl hlb hfac (fun w' hf => hf.less (fun y hy => by
          rcases List.mem_cons.1 hy with rfl | hy
          · exact List.mem_cons_self
          · exact List.mem_cons_of_mem _ (List.mem_append_left _ hy)) (hf.ap.sublist ((List.sublist_append_left _ _).cons_cons _))) (fun y hy => by
          rcases List.mem_cons.1 hy with rfl | hy
          · exact .inr (.inl rfl)
          · exact .inl (zF_cells y hy)) (fun y hy => List.mem_cons_of_mem _ (List.mem_append_right _ hy))
    | true =>
      repeat (first | refine CR.seq ?_ | refine CR.region ?_ | refine R.zb ttok ?_ | refine R.zu ttok ?_ | refine R.zc ttok ?_ | refine R.za ttok ?_ | refine R.zx ?_ | refine R.zl ttok ?_ | refine R.zs ttok ?_ | refine R.z ttok ?_ | refine R.zk ?_ | refine R.zn ?_ | refine R.done ?_ | refine X.thenR ?_ | refine CR.block ?_ | refine CR.skip ?_ | refine CR.ret ?_ | refine CR.tru (by exact rfl) ?_ | refine CR.fls (by exact rfl) ?_ | refine X.pass_ret ?_ | refine X.pass_exit ?_ | refine X.block_normal ?_ | refine X.block_ret ?_ | refine X.block_exit ?_)
      refine R.ldo (v := .raw (.int .i64 (b01 true))) ttok rfl rfl rfl rfl rfl (by kernel_rfl) Nat.one_pos ?_
      repeat (first | refine CR.seq ?_ | refine CR.region ?_ | refine R.zb ttok ?_ | refine R.zu ttok ?_ | refine R.zc ttok ?_ | refine R.za ttok ?_ | refine R.zx ?_ | refine R.zl ttok ?_ | refine R.zs ttok ?_ | refine R.z ttok ?_ | refine R.zk ?_ | refine R.zn ?_ | refine R.done ?_ | refine X.thenR ?_ | refine CR.block ?_ | refine CR.skip ?_ | refine CR.ret ?_ | refine CR.tru (by exact rfl) ?_ | refine CR.fls (by exact rfl) ?_ | refine X.pass_ret ?_ | refine X.pass_exit ?_ | refine X.block_normal ?_ | refine X.block_ret ?_ | refine X.block_exit ?_)
      refine R.cl [15] (read_specZ ⟨c0, c1, h0, h1, true, wr⟩ true) Try.call50 (by repeat (first | exact HasIn.nil | refine HasIn.same rfl rfl ?_ | refine HasIn.bro rfl ?_ | refine HasIn.ror rfl ?_ | refine HasIn.cro rfl rfl ?_)) rfl rfl rfl (fun _ => rfl) rfl (by kernel_rfl) fun _ _ => ?_
      cases h1 with
      | false =>
        have hseg : segF liveZ l (plc l fr) (i + 1) = segF liveZ l (plc l fr) i := hseg
        repeat (first | refine CR.seq ?_ | refine CR.region ?_ | refine R.zb ttok ?_ | refine R.zu ttok ?_ | refine R.zc ttok ?_ | refine R.za ttok ?_ | refine R.zx ?_ | refine R.zl ttok ?_ | refine R.zs ttok ?_ | refine R.z ttok ?_ | refine R.zk ?_ | refine R.zn ?_ | refine R.done ?_ | refine X.thenR ?_ | refine CR.block ?_ | refine CR.skip ?_ | refine CR.ret ?_ | refine CR.tru (by exact rfl) ?_ | refine CR.fls (by exact rfl) ?_ | refine X.pass_ret ?_ | refine X.pass_exit ?_ | refine X.block_normal ?_ | refine X.block_ret ?_ | refine X.block_exit ?_)
        refine X.next [] (i + 1, ca, cb) ⟨⟨by omega, hlt, hnp2⟩, by rw [hseg]; exact hca, by rw [hseg]; exact hcb⟩ ⟨hla, by dsimp only; omega⟩ hr hpe rfl rfl (by
          show HasH _ _ _ [(0, tbAZ 1 l.length c hs mk), (1, roTZ l), (2, one0 (.ptr 0 0 0 0)), (3, one0 (.raw (.string fr))), (4, one0 (.raw (.string to))), (5, .cells [.sl 13 1 0 (keysZ (segF liveZ l (plc l fr) (i + 1))).length ca] kT), (6, .cells [.sl 14 1 0 (lvZ (segF liveZ l (plc l fr) (i + 1))).length cb] vT), (13, tX (keysZ (segF liveZ l (plc l fr) (i + 1))) ca), (14, tN (lvZ (segF liveZ l (plc l fr) (i + 1))) cb), (9, .cells [.fn prF [.ptr 5 0 0 0, .ptr 6 0 0 0]] 52), (10, .cells [.ptr 0 0 0 0] 133), (11, .cells [.raw (.string fr)] 9), (12, .cells [.raw (.string to)] 9)]
          rw [hseg]
          exact (by repeat (first | exact HasH.nil | refine HasH.same rfl rfl rfl trivial ?_ | refine HasH.same rfl rfl rfl rfl ?_ | refine HasH.same rfl rfl rfl (fun _ _ => rfl) ?_))) rfl hlb hfac (fun w' hf => hf.less (fun y hy => by
          rcases List.mem_cons.1 hy with rfl | hy
          · exact List.mem_cons_self
          · exact List.mem_cons_of_mem _ (List.mem_append_left _ hy)) (hf.ap.sublist ((List.sublist_append_left _ _).cons_cons _))) (fun y hy => by
          rcases List.mem_cons.1 hy with rfl | hy
          · exact .inr (.inl rfl)
          · exact .inl (zF_cells y hy)) (fun y hy => List.mem_cons_of_mem _ (List.mem_append_right _ hy))
      | true =>
        have hseg : segF liveZ l (plc l fr) (i + 1) = segF liveZ l (plc l fr) i ++ [_] := hseg
        repeat (first | refine CR.seq ?_ | refine CR.region ?_ | refine R.zb ttok ?_ | refine R.zu ttok ?_ | refine R.zc ttok ?_ | refine R.za ttok ?_ | refine R.zx ?_ | refine R.zl ttok ?_ | refine R.zs ttok ?_ | refine R.z ttok ?_ | refine R.zk ?_ | refine R.zn ?_ | refine R.done ?_ | refine X.thenR ?_ | refine CR.block ?_ | refine CR.skip ?_ | refine CR.ret ?_ | refine CR.tru (by exact rfl) ?_ | refine CR.fls (by exact rfl) ?_ | refine X.pass_ret ?_ | refine X.pass_exit ?_ | refine X.block_normal ?_ | refine X.block_ret ?_ | refine X.block_exit ?_)
        refine R.cl [5, 6, 13, 14] (pr1_spec pk c1 (keysZ (segF liveZ l (plc l fr) i)) (lvZ (segF liveZ l (plc l fr) i)) ca cb (by rw [List.length_map]; omega) (by rw [List.length_map]; omega) hca.2 hca.1 hcb.2 hcb.1) Try.call51 (by repeat (first | exact HasIn.nil | refine HasIn.same rfl rfl ?_ | refine HasIn.bro rfl ?_ | refine HasIn.ror rfl ?_ | refine HasIn.cro rfl rfl ?_)) rfl rfl rfl (fun _ => rfl) rfl (by kernel_rfl) fun s hs => ?_
        have hk1 : keysZ (segF liveZ l (plc l fr) (i + 1)) = keysZ (segF liveZ l (plc l fr) i) ++ [pk] := by rw [hseg]; exact map_snoc _ _ _
        have hk2 : lvZ (segF liveZ l (plc l fr) (i + 1)) = lvZ (segF liveZ l (plc l fr) i) ++ [c1] := by rw [hseg]; exact map_snoc _ _ _
        rw [← hk1, ← hk2] at hs ⊢
        repeat (first | refine CR.seq ?_ | refine CR.region ?_ | refine R.zb ttok ?_ | refine R.zu ttok ?_ | refine R.zc ttok ?_ | refine R.za ttok ?_ | refine R.zx ?_ | refine R.zl ttok ?_ | refine R.zs ttok ?_ | refine R.z ttok ?_ | refine R.zk ?_ | refine R.zn ?_ | refine R.done ?_ | refine X.thenR ?_ | refine CR.block ?_ | refine CR.skip ?_ | refine CR.ret ?_ | refine CR.tru (by exact rfl) ?_ | refine CR.fls (by exact rfl) ?_ | refine X.pass_ret ?_ | refine X.pass_exit ?_ | refine X.block_normal ?_ | refine X.block_ret ?_ | refine X.block_exit ?_)
        refine X.next [(13, 16), (14, 17)] (i + 1, s.1, s.2) ⟨⟨by omega, hlt, hnp2⟩, ⟨hs.1, hs.2.1⟩, hs.2.2⟩ ⟨hla, by dsimp only; omega⟩ hr hpe rfl rfl (by repeat (first | exact HasH.nil | refine HasH.same rfl rfl rfl trivial ?_ | refine HasH.same rfl rfl rfl rfl ?_ | refine HasH.same rfl rfl rfl (fun _ _ => rfl) ?_)) rfl hlb hfac (fun w' hf => hf.less (fun y hy => by
          rcases List.mem_cons.1 hy with rfl | hy
          · exact List.mem_cons_self
          · exact List.mem_cons_of_mem _ (List.mem_append_left _ hy)) (hf.ap.sublist ((List.sublist_append_left _ _).cons_cons _))) (fun y hy => by
          rcases List.mem_cons.1 hy with rfl | hy
          · exact .inr (.inl rfl)
          · exact .inl (zF_cells y hy)) (fun y hy => List.mem_cons_of_mem _ (List.mem_append_right _ hy))
  case hdone =>
    rintro ⟨i, ca, cb⟩ D hD ⟨⟨hi0, hi, hnp⟩, hca, hcb⟩ hFin
    dsimp only at hi0 hi hnp hca hcb hFin ⊢
    rw [posO_r hA hi0 hi] at hFin
    repeat (first | refine C.seq ?_ | refine C.region ?_ | refine R.zb ttok ?_ | refine R.zu ttok ?_ | refine R.zc ttok ?_ | refine R.za ttok ?_ | refine R.zx ?_ | refine R.zl ttok ?_ | refine R.zs ttok ?_ | refine R.z ttok ?_ | refine R.zk ?_ | refine R.zn ?_ | refine R.done ?_ | refine X.then ?_ | refine C.block ?_ | refine C.ret ?_ | refine C.skip ?_ | refine C.exit ?_ | refine X.pass_ret ?_ | refine X.pass_exit ?_ | refine X.block_normal ?_ | refine X.block_ret ?_ | refine X.block_exit ?_ | refine C.zt ?_ | refine C.zf ?_ | refine X.zo ?_)
    refine X.finM ttok (i, ca, cb) [(9, 13), (10, 14)] ⟨⟨hi0, hi, hnp, hFin⟩, hca.1, hca.2, hcb.1, hcb.2⟩ rfl rfl rfl (by repeat (first | exact HasH.nil | refine HasH.same rfl rfl rfl trivial ?_ | refine HasH.same rfl rfl rfl rfl ?_ | refine HasH.same rfl rfl rfl (fun _ _ => rfl) ?_)) _ (by first | exact .inl rfl | exact .inr rfl) hD zF_cells ?_ ?_ ?_
    · exact fun w' hf => hf.ap
    · exact fun y hy => hy
    · exact fun y hy _ => ⟨y, hy, rfl⟩
end
end Go.Proofs.Yteabncomclgncaa
/- zigzag: pairs of a Range, of a Snapshot; write -/
namespace Go.Proofs.Yteabncomclgncaa
set_option linter.unusedVariables false
set_option linter.unusedSimpArgs false
open Go.RowKit
set_option maxRecDepth 100000
set_option maxHeartbeats 4000000
section
variable (l : ZL) (c : Nat) (fr to ab : ByteArray)
abbrev rgOk (j : Nat) : Prop := plc l fr ≤ j ∧ j ≤ l.length ∧ (∀ i, plc l fr ≤ i → i < j → past to (l.getD i zG).1 = false) ∧ (j < l.length → past to (l.getD j zG).1 = true)
theorem prsRg_spec (hs : Int) (mk : Bool) (hA : Asc l) (hl : l.length ≤ 601) :
    SpecF Try.prog 20 [.fn rsZ [.ptr 2 0 0 0, .ptr 3 0 0 0, .ptr 4 0 0 0]] [tbAZ 1 l.length c hs mk, roTZ l, one0 (.ptr 0 0 0 0), one0 (.raw (.string fr)), one0 (.raw (.string to))] 7 (zF l)
    (σ := Nat × Nat × Nat) (fun s => rgOk l fr to s.1 ∧ (keysZ (segF liveZ l (plc l fr) s.1)).length ≤ s.2.1 ∧ s.2.1 ≤ 9223372036854775807 ∧ (lvZ (segF liveZ l (plc l fr) s.1)).length ≤ s.2.2 ∧ s.2.2 ≤ 9223372036854775807)
    (fun s => .tup [.sl 5 1 0 (keysZ (segF liveZ l (plc l fr) s.1)).length s.2.1, .sl 6 1 0 (lvZ (segF liveZ l (plc l fr) s.1)).length s.2.2]) (fun s => [(5, tX (keysZ (segF liveZ l (plc l fr) s.1)) s.2.1), (6, tN (lvZ (segF liveZ l (plc l fr) s.1)) s.2.2)]) (fun _ => zF l) := by
  refine SpecF.of Try.func20 rfl Try.ntmps20 rfl (bdl_cons (roA_bd rfl) (bdl_cons (fun _ _ => rfl) (bdl_cons (roA_bd rfl) (bdl_cons (roA_bd rfl) (bdl_cons (roA_bd rfl) (bdl_nil _)))))) fun ρ w => ?_
  repeat (first | refine C.seq ?_ | refine C.region ?_ | refine R.zb ttok ?_ | refine R.zu ttok ?_ | refine R.zc ttok ?_ | refine R.za ttok ?_ | refine R.zx ?_ | refine R.zl ttok ?_ | refine R.zs ttok ?_ | refine R.z ttok ?_ | refine R.zk ?_ | refine R.zn ?_ | refine R.done ?_ | refine X.then ?_ | refine C.block ?_ | refine C.ret ?_ | refine C.skip ?_ | refine C.exit ?_ | refine X.pass_ret ?_ | refine X.pass_exit ?_ | refine X.block_normal ?_ | refine X.block_ret ?_ | refine X.block_exit ?_ | refine C.zt ?_ | refine C.zf ?_ | refine X.zo ?_)
  refine R.noneH 5 [.sl 7 1 0 ([] : List ByteArray).length 0] (tX [] 0) (none_tab _ _ _ _) rfl rfl rfl (fun ρ h => by have h : ρ 7 = none := h; show [(AV.sl 7 1 0 0 0).conc ρ] = [Value.slice none 0 0]; simp [AV.conc, h]) ?_
  refine R.noneH 6 [.sl 8 1 0 ([] : List Int).length 0] (tN [] 0) (none_tab _ _ _ _) rfl rfl rfl (fun ρ h => by have h : ρ 8 = none := h; show [(AV.sl 8 1 0 0 0).conc ρ] = [Value.slice none 0 0]; simp [AV.conc, h]) ?_
  refine R.clF [0, 1, 2, 3, 4, 5, 6, 7, 8] (rgPr_spec l c fr to hs mk hA hl) (Nat.le_refl _) (fun _ _ => rfl) Try.call48 (by repeat (first | exact HasIn.nil | refine HasIn.same rfl rfl ?_ | refine HasIn.c1 rfl rfl ?_ | refine HasIn.roq rfl rfl ?_ | refine HasIn.other rfl (fun e => by cases e) (fun ρ x w hh => tab_ro hh) ?_ | refine HasIn.other rfl (fun e => by cases e) (fun ρ x w hh => tab_any hh) ?_ | refine HasIn.roAp rfl rfl ?_ | refine HasIn.other rfl (fun e => by cases e) (fun ρ x w hh => cells_any hh) ?_ | refine HasIn.other rfl (fun e => by cases e) (fun ρ x w hh => ro_any hh) ?_)) rfl rfl rfl (fun _ => rfl) rfl (by kernel_rfl) fun s hs1 => ?_
  repeat (first | refine C.seq ?_ | refine C.region ?_ | refine R.zb ttok ?_ | refine R.zu ttok ?_ | refine R.zc ttok ?_ | refine R.za ttok ?_ | refine R.zx ?_ | refine R.zl ttok ?_ | refine R.zs ttok ?_ | refine R.z ttok ?_ | refine R.zk ?_ | refine R.zn ?_ | refine R.done ?_ | refine X.then ?_ | refine C.block ?_ | refine C.ret ?_ | refine C.skip ?_ | refine C.exit ?_ | refine X.pass_ret ?_ | refine X.pass_exit ?_ | refine X.block_normal ?_ | refine X.block_ret ?_ | refine X.block_exit ?_ | refine C.zt ?_ | refine C.zf ?_ | refine X.zo ?_)
  refine C.draw [[], [], [0], [0, 1, 2]] [] (by kernel_rfl) (by kernel_rfl) ?_
  repeat (first | refine C.seq ?_ | refine C.region ?_ | refine R.zb ttok ?_ | refine R.zu ttok ?_ | refine R.zc ttok ?_ | refine R.za ttok ?_ | refine R.zx ?_ | refine R.zl ttok ?_ | refine R.zs ttok ?_ | refine R.z ttok ?_ | refine R.zk ?_ | refine R.zn ?_ | refine R.done ?_ | refine X.then ?_ | refine C.block ?_ | refine C.ret ?_ | refine C.skip ?_ | refine C.exit ?_ | refine X.pass_ret ?_ | refine X.pass_exit ?_ | refine X.block_normal ?_ | refine X.block_ret ?_ | refine X.block_exit ?_ | refine C.zt ?_ | refine C.zf ?_ | refine X.zo ?_)
  refine X.finF ttok s [(5, 9), (6, 10)] hs1 rfl rfl rfl (by repeat (first | exact HasH.nil | refine HasH.same rfl rfl rfl trivial ?_ | refine HasH.same rfl rfl rfl rfl ?_ | refine HasH.same rfl rfl rfl (fun _ _ => rfl) ?_ | refine HasH.ros rfl rfl ?_)) _ (by first | exact .inl rfl | exact .inr rfl) ?_ ?_ ?_
  · exact fun w' hf => hf.ap
  · exact fun p hp => hp
  · exact fun p hp e => ⟨p, hp, rfl⟩
theorem prsSn_spec (hs : Int) (hA : Asc l) (hl : l.length ≤ 601) :
    SpecF Try.prog 20 [.fn snZ [.ptr 2 0 0 0, .ptr 3 0 0 0]] [tbAZ 1 l.length c hs true, roTZ l, one0 (.ptr 0 0 0 0), one0 (.raw (.string ab))] 6 (zF l)
    (σ := Nat × Nat) (fun s => (keysZ (segF heldZ l (aboveN l ab) l.length)).length ≤ s.1 ∧ s.1 ≤ 9223372036854775807 ∧ (hvZ (segF heldZ l (aboveN l ab) l.length)).length ≤ s.2 ∧ s.2 ≤ 9223372036854775807)
    (fun s => .tup [.sl 4 1 0 (keysZ (segF heldZ l (aboveN l ab) l.length)).length s.1, .sl 5 1 0 (hvZ (segF heldZ l (aboveN l ab) l.length)).length s.2]) (fun s => [(4, tX (keysZ (segF heldZ l (aboveN l ab) l.length)) s.1), (5, tN (hvZ (segF heldZ l (aboveN l ab) l.length)) s.2)]) (fun _ => zF l) := by
  refine SpecF.of Try.func20 rfl Try.ntmps20 rfl (bdl_cons (roA_bd rfl) (bdl_cons (fun _ _ => rfl) (bdl_cons (roA_bd rfl) (bdl_cons (roA_bd rfl) (bdl_nil _))))) fun ρ w => ?_
  repeat (first | refine C.seq ?_ | refine C.region ?_ | refine R.zb ttok ?_ | refine R.zu ttok ?_ | refine R.zc ttok ?_ | refine R.za ttok ?_ | refine R.zx ?_ | refine R.zl ttok ?_ | refine R.zs ttok ?_ | refine R.z ttok ?_ | refine R.zk ?_ | refine R.zn ?_ | refine R.done ?_ | refine X.then ?_ | refine C.block ?_ | refine C.ret ?_ | refine C.skip ?_ | refine C.exit ?_ | refine X.pass_ret ?_ | refine X.pass_exit ?_ | refine X.block_normal ?_ | refine X.block_ret ?_ | refine X.block_exit ?_ | refine C.zt ?_ | refine C.zf ?_ | refine X.zo ?_)
  refine R.noneH 4 [.sl 6 1 0 ([] : List ByteArray).length 0] (tX [] 0) (none_tab _ _ _ _) rfl rfl rfl (fun ρ h => by have h : ρ 6 = none := h; show [(AV.sl 6 1 0 0 0).conc ρ] = [Value.slice none 0 0]; simp [AV.conc, h]) ?_
  refine R.noneH 5 [.sl 7 1 0 ([] : List Int).length 0] (tN [] 0) (none_tab _ _ _ _) rfl rfl rfl (fun ρ h => by have h : ρ 7 = none := h; show [(AV.sl 7 1 0 0 0).conc ρ] = [Value.slice none 0 0]; simp [AV.conc, h]) ?_
  refine R.clF [0, 1, 2, 3, 4, 5, 6, 7] (snPr_spec l c ab hs hA hl) (Nat.le_refl _) (fun _ _ => rfl) Try.call53 (by repeat (first | exact HasIn.nil | refine HasIn.same rfl rfl ?_ | refine HasIn.c1 rfl rfl ?_ | refine HasIn.roq rfl rfl ?_ | refine HasIn.other rfl (fun e => by cases e) (fun ρ x w hh => tab_ro hh) ?_ | refine HasIn.other rfl (fun e => by cases e) (fun ρ x w hh => tab_any hh) ?_ | refine HasIn.roAp rfl rfl ?_ | refine HasIn.other rfl (fun e => by cases e) (fun ρ x w hh => cells_any hh) ?_ | refine HasIn.other rfl (fun e => by cases e) (fun ρ x w hh => ro_any hh) ?_)) rfl rfl rfl (fun _ => rfl) rfl (by kernel_rfl) fun s hs1 => ?_
  repeat (first | refine C.seq ?_ | refine C.region ?_ | refine R.zb ttok ?_ | refine R.zu ttok ?_ | refine R.zc ttok ?_ | refine R.za ttok ?_ | refine R.zx ?_ | refine R.zl ttok ?_ | refine R.zs ttok ?_ | refine R.z ttok ?_ | refine R.zk ?_ | refine R.zn ?_ | refine R.done ?_ | refine X.then ?_ | refine C.block ?_ | refine C.ret ?_ | refine C.skip ?_ | refine C.exit ?_ | refine X.pass_ret ?_ | refine X.pass_exit ?_ | refine X.block_normal ?_ | refine X.block_ret ?_ | refine X.block_exit ?_ | refine C.zt ?_ | refine C.zf ?_ | refine X.zo ?_)
  refine C.draw [[], [], [0], [0, 1, 2]] [] (by kernel_rfl) (by kernel_rfl) ?_
  repeat (first | refine C.seq ?_ | refine C.region ?_ | refine R.zb ttok ?_ | refine R.zu ttok ?_ | refine R.zc ttok ?_ | refine R.za ttok ?_ | refine R.zx ?_ | refine R.zl ttok ?_ | refine R.zs ttok ?_ | refine R.z ttok ?_ | refine R.zk ?_ | refine R.zn ?_ | refine R.done ?_ | refine X.then ?_ | refine C.block ?_ | refine C.ret ?_ | refine C.skip ?_ | refine C.exit ?_ | refine X.pass_ret ?_ | refine X.pass_exit ?_ | refine X.block_normal ?_ | refine X.block_ret ?_ | refine X.block_exit ?_ | refine C.zt ?_ | refine C.zf ?_ | refine X.zo ?_)
  refine X.finF ttok s [(4, 8), (5, 9)] hs1 rfl rfl rfl (by repeat (first | exact HasH.nil | refine HasH.same rfl rfl rfl trivial ?_ | refine HasH.same rfl rfl rfl rfl ?_ | refine HasH.same rfl rfl rfl (fun _ _ => rfl) ?_ | refine HasH.ros rfl rfl ?_)) _ (by first | exact .inl rfl | exact .inr rfl) ?_ ?_ ?_
  · exact fun w' hf => hf.ap
  · exact fun p hp => hp
  · exact fun p hp e => ⟨p, hp, rfl⟩
/-- no mark: nothing -/
theorem sn0_spec (f : FuncId) (hs : Int) (hA : Asc l) (hl : l.length ≤ 900000) :
    Spec Try.prog 53 [.fn f [.ptr 4 0 0 0, .ptr 5 0 0 0], .ptr 2 0 0 0, .ptr 3 0 0 0] [tbAZ 1 l.length c hs false, roTZ l, one0 (.ptr 0 0 0 0), one0 (.raw (.string ab)), anyO, anyO] 6 (σ := Unit) (fun _ => True)
    (fun _ => .tup []) (fun s => []) := by
  refine Spec.of Try.func53 rfl Try.ntmps53 rfl (bdl_cons (roA_bd rfl) (bdl_cons (fun _ _ => rfl) (bdl_cons (roA_bd rfl) (bdl_cons (roA_bd rfl) (bdl_cons (any_bd _) (bdl_cons (any_bd _) (bdl_nil _))))))) fun ρ w => ?_
  repeat (first | refine C.seq ?_ | refine C.region ?_ | refine R.zb ttok ?_ | refine R.zu ttok ?_ | refine R.zc ttok ?_ | refine R.za ttok ?_ | refine R.zx ?_ | refine R.zl ttok ?_ | refine R.zs ttok ?_ | refine R.z ttok ?_ | refine R.zk ?_ | refine R.zn ?_ | refine R.done ?_ | refine X.then ?_ | refine C.block ?_ | refine C.ret ?_ | refine C.skip ?_ | refine C.exit ?_ | refine X.pass_ret ?_ | refine X.pass_exit ?_ | refine X.block_normal ?_ | refine X.block_ret ?_ | refine X.block_exit ?_ | refine C.zt ?_ | refine C.zf ?_ | refine X.zo ?_)
  refine R.ldo (v := .ptr 0 0 0 0) ttok rfl rfl rfl rfl rfl (by kernel_rfl) Nat.one_pos ?_
  repeat (first | refine C.seq ?_ | refine C.region ?_ | refine R.zb ttok ?_ | refine R.zu ttok ?_ | refine R.zc ttok ?_ | refine R.za ttok ?_ | refine R.zx ?_ | refine R.zl ttok ?_ | refine R.zs ttok ?_ | refine R.z ttok ?_ | refine R.zk ?_ | refine R.zn ?_ | refine R.done ?_ | refine X.then ?_ | refine C.block ?_ | refine C.ret ?_ | refine C.skip ?_ | refine C.exit ?_ | refine X.pass_ret ?_ | refine X.pass_exit ?_ | refine X.block_normal ?_ | refine X.block_ret ?_ | refine X.block_exit ?_ | refine C.zt ?_ | refine C.zf ?_ | refine X.zo ?_)
  refine C.draw [[], [0], [0, 1], [], [0, 1, 2, 3], [0, 1, 2, 3, 4], [0, 1, 2, 3, 4, 5], [0, 1, 2, 3, 4, 5], [0, 1, 2, 3, 4, 5, 6], [0, 1, 2, 3, 4, 5, 6, 7, 8]] [4] (by kernel_rfl) (by kernel_rfl) ?_
  refine R.ldo (v := .ptr 0 0 0 0) ttok rfl rfl rfl rfl rfl (by kernel_rfl) Nat.one_pos ?_
  repeat (first | refine C.seq ?_ | refine C.region ?_ | refine R.zb ttok ?_ | refine R.zu ttok ?_ | refine R.zc ttok ?_ | refine R.za ttok ?_ | refine R.zx ?_ | refine R.zl ttok ?_ | refine R.zs ttok ?_ | refine R.z ttok ?_ | refine R.zk ?_ | refine R.zn ?_ | refine R.done ?_ | refine X.then ?_ | refine C.block ?_ | refine C.ret ?_ | refine C.skip ?_ | refine C.exit ?_ | refine X.pass_ret ?_ | refine X.pass_exit ?_ | refine X.block_normal ?_ | refine X.block_ret ?_ | refine X.block_exit ?_ | refine C.zt ?_ | refine C.zf ?_ | refine X.zo ?_)
  refine R.ldo (v := .raw (.string ab)) ttok rfl rfl rfl rfl rfl (by kernel_rfl) Nat.one_pos ?_
  refine R.cl [0, 1] (nextI_specZ l c ab hA (by omega)) Try.call54 (by repeat (first | exact HasIn.nil | refine HasIn.same rfl rfl ?_ | refine HasIn.c1 rfl rfl ?_ | refine HasIn.roq rfl rfl ?_ | refine HasIn.other rfl (fun e => by cases e) (fun ρ x w hh => tab_ro hh) ?_ | refine HasIn.other rfl (fun e => by cases e) (fun ρ x w hh => tab_any hh) ?_ | refine HasIn.roAp rfl rfl ?_ | refine HasIn.other rfl (fun e => by cases e) (fun ρ x w hh => cells_any hh) ?_ | refine HasIn.other rfl (fun e => by cases e) (fun ρ x w hh => ro_any hh) ?_)) rfl rfl rfl (fun _ => rfl) rfl (by kernel_rfl) fun _ _ => ?_
  repeat (first | refine C.seq ?_ | refine C.region ?_ | refine R.zb ttok ?_ | refine R.zu ttok ?_ | refine R.zc ttok ?_ | refine R.za ttok ?_ | refine R.zx ?_ | refine R.zl ttok ?_ | refine R.zs ttok ?_ | refine R.z ttok ?_ | refine R.zk ?_ | refine R.zn ?_ | refine R.done ?_ | refine X.then ?_ | refine C.block ?_ | refine C.ret ?_ | refine C.skip ?_ | refine C.exit ?_ | refine X.pass_ret ?_ | refine X.pass_exit ?_ | refine X.block_normal ?_ | refine X.block_ret ?_ | refine X.block_exit ?_ | refine C.zt ?_ | refine C.zf ?_ | refine X.zo ?_)
  refine C.loop (σ := Unit) (L2 := 6) (fun _ => True) (fun _ => [(1, .ptr 2 0 0 0), (2, .ptr 3 0 0 0), (5, .raw (.bool (decide (aboveN l ab < l.length))))]) (fun _ => [(0, tbAZ 1 l.length c hs false), (1, roTZ l), (2, one0 (.ptr 0 0 0 0)), (3, one0 (.raw (.string ab))), (4, anyO), (5, anyO)]) _ (fun _ => 0) [] () trivial rfl (by repeat (first | exact HasT.nil | refine HasT.cons rfl rfl rfl ?_)) (by repeat (first | exact HasH.nil | refine HasH.same rfl rfl rfl trivial ?_ | refine HasH.same rfl rfl rfl rfl ?_ | refine HasH.same rfl rfl rfl (fun _ _ => rfl) ?_)) rfl (fun _ h => h) ?_
  rintro _ _
  repeat (first | refine C.seq ?_ | refine C.region ?_ | refine R.zb ttok ?_ | refine R.zu ttok ?_ | refine R.zc ttok ?_ | refine R.za ttok ?_ | refine R.zx ?_ | refine R.zl ttok ?_ | refine R.zs ttok ?_ | refine R.z ttok ?_ | refine R.zk ?_ | refine R.zn ?_ | refine R.done ?_ | refine X.then ?_ | refine C.block ?_ | refine C.ret ?_ | refine C.skip ?_ | refine C.exit ?_ | refine X.pass_ret ?_ | refine X.pass_exit ?_ | refine X.block_normal ?_ | refine X.block_ret ?_ | refine X.block_exit ?_ | refine C.zt ?_ | refine C.zf ?_ | refine X.zo ?_)
  by_cases hlt : aboveN l ab < l.length
  · rw [decide_eq_true hlt]
    refine R.ldo (v := .ptr 0 0 0 0) ttok rfl rfl rfl rfl rfl (by kernel_rfl) Nat.one_pos ?_
    repeat (first | refine C.seq ?_ | refine C.region ?_ | refine R.zb ttok ?_ | refine R.zu ttok ?_ | refine R.zc ttok ?_ | refine R.za ttok ?_ | refine R.zx ?_ | refine R.zl ttok ?_ | refine R.zs ttok ?_ | refine R.z ttok ?_ | refine R.zk ?_ | refine R.zn ?_ | refine R.done ?_ | refine X.then ?_ | refine C.block ?_ | refine C.ret ?_ | refine C.skip ?_ | refine C.exit ?_ | refine X.pass_ret ?_ | refine X.pass_exit ?_ | refine X.block_normal ?_ | refine X.block_ret ?_ | refine X.block_exit ?_ | refine C.zt ?_ | refine C.zf ?_ | refine X.zo ?_)
    refine R.ldo (v := .raw (.bool false)) ttok rfl rfl rfl rfl rfl (by kernel_rfl) Nat.one_pos ?_
    repeat (first | refine C.seq ?_ | refine C.region ?_ | refine R.zb ttok ?_ | refine R.zu ttok ?_ | refine R.zc ttok ?_ | refine R.za ttok ?_ | refine R.zx ?_ | refine R.zl ttok ?_ | refine R.zs ttok ?_ | refine R.z ttok ?_ | refine R.zk ?_ | refine R.zn ?_ | refine R.done ?_ | refine X.then ?_ | refine C.block ?_ | refine C.ret ?_ | refine C.skip ?_ | refine C.exit ?_ | refine X.pass_ret ?_ | refine X.pass_exit ?_ | refine X.block_normal ?_ | refine X.block_ret ?_ | refine X.block_exit ?_ | refine C.zt ?_ | refine C.zf ?_ | refine X.zo ?_)
    refine X.fin ttok () [] trivial rfl rfl rfl (by repeat (first | exact HasH.nil | refine HasH.same rfl rfl rfl trivial ?_ | refine HasH.same rfl rfl rfl rfl ?_ | refine HasH.same rfl rfl rfl (fun _ _ => rfl) ?_ | refine HasH.ros rfl rfl ?_)) _ (by first | exact .inl rfl | exact .inr rfl)
  · rw [decide_eq_false hlt]
    repeat (first | refine C.seq ?_ | refine C.region ?_ | refine R.zb ttok ?_ | refine R.zu ttok ?_ | refine R.zc ttok ?_ | refine R.za ttok ?_ | refine R.zx ?_ | refine R.zl ttok ?_ | refine R.zs ttok ?_ | refine R.z ttok ?_ | refine R.zk ?_ | refine R.zn ?_ | refine R.done ?_ | refine X.then ?_ | refine C.block ?_ | refine C.ret ?_ | refine C.skip ?_ | refine C.exit ?_ | refine X.pass_ret ?_ | refine X.pass_exit ?_ | refine X.block_normal ?_ | refine X.block_ret ?_ | refine X.block_exit ?_ | refine C.zt ?_ | refine C.zf ?_ | refine X.zo ?_)
    refine X.fin ttok () [] trivial rfl rfl rfl (by repeat (first | exact HasH.nil | refine HasH.same rfl rfl rfl trivial ?_ | refine HasH.same rfl rfl rfl rfl ?_ | refine HasH.same rfl rfl rfl (fun _ _ => rfl) ?_ | refine HasH.ros rfl rfl ?_)) _ (by first | exact .inl rfl | exact .inr rfl)
theorem prsSn0_spec (hs : Int) (hA : Asc l) (hl : l.length ≤ 900000) :
    Spec Try.prog 20 [.fn snZ [.ptr 2 0 0 0, .ptr 3 0 0 0]] [tbAZ 1 l.length c hs false, roTZ l, one0 (.ptr 0 0 0 0), one0 (.raw (.string ab))] 6 
    (σ := Unit) (fun s => True)
    (fun s => .tup [.sl 4 1 0 ([] : List ByteArray).length 0, .sl 5 1 0 ([] : List Int).length 0]) (fun s => [(4, tX [] 0), (5, tN [] 0)]) := by
  refine Spec.of Try.func20 rfl Try.ntmps20 rfl (bdl_cons (roA_bd rfl) (bdl_cons (fun _ _ => rfl) (bdl_cons (roA_bd rfl) (bdl_cons (roA_bd rfl) (bdl_nil _))))) fun ρ w => ?_
  repeat (first | refine C.seq ?_ | refine C.region ?_ | refine R.zb ttok ?_ | refine R.zu ttok ?_ | refine R.zc ttok ?_ | refine R.za ttok ?_ | refine R.zx ?_ | refine R.zl ttok ?_ | refine R.zs ttok ?_ | refine R.z ttok ?_ | refine R.zk ?_ | refine R.zn ?_ | refine R.done ?_ | refine X.then ?_ | refine C.block ?_ | refine C.ret ?_ | refine C.skip ?_ | refine C.exit ?_ | refine X.pass_ret ?_ | refine X.pass_exit ?_ | refine X.block_normal ?_ | refine X.block_ret ?_ | refine X.block_exit ?_ | refine C.zt ?_ | refine C.zf ?_ | refine X.zo ?_)
  refine R.noneH 4 [.sl 6 1 0 ([] : List ByteArray).length 0] (tX [] 0) (none_tab _ _ _ _) rfl rfl rfl (fun ρ h => by have h : ρ 6 = none := h; show [(AV.sl 6 1 0 0 0).conc ρ] = [Value.slice none 0 0]; simp [AV.conc, h]) ?_
  refine R.noneH 5 [.sl 7 1 0 ([] : List Int).length 0] (tN [] 0) (none_tab _ _ _ _) rfl rfl rfl (fun ρ h => by have h : ρ 7 = none := h; show [(AV.sl 7 1 0 0 0).conc ρ] = [Value.slice none 0 0]; simp [AV.conc, h]) ?_
  refine R.cl [0, 1, 2, 3, 4, 5] (sn0_spec l c ab 51 hs hA hl) Try.call53 (by repeat (first | exact HasIn.nil | refine HasIn.same rfl rfl ?_ | refine HasIn.c1 rfl rfl ?_ | refine HasIn.roq rfl rfl ?_ | refine HasIn.other rfl (fun e => by cases e) (fun ρ x w hh => tab_ro hh) ?_ | refine HasIn.other rfl (fun e => by cases e) (fun ρ x w hh => tab_any hh) ?_ | refine HasIn.roAp rfl rfl ?_ | refine HasIn.other rfl (fun e => by cases e) (fun ρ x w hh => cells_any hh) ?_ | refine HasIn.other rfl (fun e => by cases e) (fun ρ x w hh => ro_any hh) ?_)) rfl rfl rfl (fun _ => rfl) rfl (by kernel_rfl) fun _ _ => ?_
  repeat (first | refine C.seq ?_ | refine C.region ?_ | refine R.zb ttok ?_ | refine R.zu ttok ?_ | refine R.zc ttok ?_ | refine R.za ttok ?_ | refine R.zx ?_ | refine R.zl ttok ?_ | refine R.zs ttok ?_ | refine R.z ttok ?_ | refine R.zk ?_ | refine R.zn ?_ | refine R.done ?_ | refine X.then ?_ | refine C.block ?_ | refine C.ret ?_ | refine C.skip ?_ | refine C.exit ?_ | refine X.pass_ret ?_ | refine X.pass_exit ?_ | refine X.block_normal ?_ | refine X.block_ret ?_ | refine X.block_exit ?_ | refine C.zt ?_ | refine C.zf ?_ | refine X.zo ?_)
  refine C.draw [[], [], [0], [0, 1, 2]] [] (by kernel_rfl) (by kernel_rfl) ?_
  repeat (first | refine C.seq ?_ | refine C.region ?_ | refine R.zb ttok ?_ | refine R.zu ttok ?_ | refine R.zc ttok ?_ | refine R.za ttok ?_ | refine R.zx ?_ | refine R.zl ttok ?_ | refine R.zs ttok ?_ | refine R.z ttok ?_ | refine R.zk ?_ | refine R.zn ?_ | refine R.done ?_ | refine X.then ?_ | refine C.block ?_ | refine C.ret ?_ | refine C.skip ?_ | refine C.exit ?_ | refine X.pass_ret ?_ | refine X.pass_exit ?_ | refine X.block_normal ?_ | refine X.block_ret ?_ | refine X.block_exit ?_ | refine C.zt ?_ | refine C.zf ?_ | refine X.zo ?_)
  refine X.fin ttok () [(4, 6), (5, 7)] trivial rfl rfl rfl (by repeat (first | exact HasH.nil | refine HasH.same rfl rfl rfl trivial ?_ | refine HasH.same rfl rfl rfl rfl ?_ | refine HasH.same rfl rfl rfl (fun _ _ => rfl) ?_ | refine HasH.ros rfl rfl ?_)) _ (by first | exact .inl rfl | exact .inr rfl)
end
/-! steps -/
structure StZ where
  kind : Int
  v : Int
  n : Int
  key : ByteArray
  to : ByteArray
  other : ByteArray
abbrev stZ (x : StZ) : List AV := [.raw (.int .i64 x.kind), .raw (.int .i64 x.v), .raw (.int .i64 x.n), .raw (.string x.key), .raw (.string x.to), .raw (.string x.other)]
def wrZ (x : StZ) (l : ZL) (mk : Bool) (b : Nat) : ZL := if x.kind = 2 then zdel l x.key mk else if x.kind = 1 then zput l x.key x.v b else l
def wrN (x : StZ) (l : ZL) (hs : Int) : Int := if x.kind = 2 then zdelN l x.key hs else if x.kind = 1 then zputN l x.key hs else hs
theorem zdel_le (l : ZL) (k : ByteArray) (mk : Bool) : (zdel l k mk).length ≤ l.length := by
  unfold zdel
  split
  · rename_i h
    cases mk with
    | true => rw [if_pos rfl, zup_len]; exact Nat.le_refl _
    | false => rw [if_neg (by decide)]; exact (del_sub l _).length_le
  · exact Nat.le_refl _
theorem cov_up {l : ZL} {i : Nat} (h : i < l.length) (s : Sl Int) : Cov (zF l) (zF (zup l i s)) := fun p hp hr => by
  rcases List.mem_cons.1 ((zF_del h).subset hp) with rfl | hp
  · exact ⟨⟨true, (l.getD i zG).2.1, slOb s⟩, (zF_up h s).symm.subset List.mem_cons_self, rfl⟩
  · exact ⟨p, (zF_up h s).symm.subset (List.mem_cons_of_mem _ hp), rfl⟩
theorem cov_put (l : ZL) (k : ByteArray) (v : Int) (b : Nat) : Cov (zF l) (zF (zput l k v b)) := by
  unfold zput
  split
  · rename_i h
    exact cov_up (hasK_lt h).1 _
  · exact (Cov.refl _).right fun p hp => (zF_ins l _ _).symm.subset (List.mem_cons_of_mem _ hp)
section
variable (x : StZ) (l : ZL) (c : Nat)
theorem write_spec (hs : Int) (mk : Bool) (hA : Asc l) (hl : l.length ≤ 900000) (hc : l.length ≤ c) (hc2 : c ≤ 9223372036854775807) (h1 : -1000000 ≤ hs) (h2 : hs ≤ 1000000000) :
    SpecF Try.prog 18 [.ptr 0 0 0 0, .agg (stZ x)] [tbIZ 1 l.length c hs mk, tIZ l c] 3 (zF l) (σ := Nat × Nat × Fam) (fun s => (wrZ x l mk s.2.1).length ≤ s.1 ∧ s.1 ≤ 9223372036854775807 ∧ Cov (zF l) (zF (wrZ x l mk s.2.1) ++ s.2.2))
    (fun _ => .tup []) (fun s => [(0, tbIZ 2 (wrZ x l mk s.2.1).length s.1 (wrN x l hs) mk), (2, tIZ (wrZ x l mk s.2.1) s.1)]) (fun s => zF (wrZ x l mk s.2.1) ++ s.2.2) := by
  refine SpecF.of Try.func18 rfl Try.ntmps18 rfl (bdl_cons rfl (bdl_cons (fun _ _ => rfl) (bdl_nil _))) fun ρ w => ?_
  repeat (first | refine C.seq ?_ | refine C.region ?_ | refine R.zb ttok ?_ | refine R.zu ttok ?_ | refine R.zc ttok ?_ | refine R.za ttok ?_ | refine R.zx ?_ | refine R.zl ttok ?_ | refine R.zs ttok ?_ | refine R.z ttok ?_ | refine R.zk ?_ | refine R.zn ?_ | refine R.done ?_ | refine X.then ?_ | refine C.block ?_ | refine C.ret ?_ | refine C.skip ?_ | refine C.exit ?_ | refine X.pass_ret ?_ | refine X.pass_exit ?_ | refine X.block_normal ?_ | refine X.block_ret ?_ | refine X.block_exit ?_ | refine C.zt ?_ | refine C.zf ?_ | refine X.zo ?_)
  by_cases hk2 : x.kind = 2
  · rw [decide_eq_true hk2]
    rw [show wrN x l hs = zdelN l x.key hs from if_pos hk2]
    have hw : ∀ b, wrZ x l mk b = zdel l x.key mk := fun b => if_pos hk2
    repeat (first | refine C.seq ?_ | refine C.region ?_ | refine R.zb ttok ?_ | refine R.zu ttok ?_ | refine R.zc ttok ?_ | refine R.za ttok ?_ | refine R.zx ?_ | refine R.zl ttok ?_ | refine R.zs ttok ?_ | refine R.z ttok ?_ | refine R.zk ?_ | refine R.zn ?_ | refine R.done ?_ | refine X.then ?_ | refine C.block ?_ | refine C.ret ?_ | refine C.skip ?_ | refine C.exit ?_ | refine X.pass_ret ?_ | refine X.pass_exit ?_ | refine X.block_normal ?_ | refine X.block_ret ?_ | refine X.block_exit ?_ | refine C.zt ?_ | refine C.zf ?_ | refine X.zo ?_)
    refine R.clF [0, 1] (del_specZ l c x.key hs mk hA hl hc hc2 h1 h2) (Nat.le_refl _) (fun _ _ => rfl) Try.call30 (by repeat (first | exact HasIn.nil | refine HasIn.same rfl rfl ?_ | refine HasIn.c1 rfl rfl ?_ | refine HasIn.roq rfl rfl ?_ | refine HasIn.other rfl (fun e => by cases e) (fun ρ x w hh => tab_ro hh) ?_ | refine HasIn.other rfl (fun e => by cases e) (fun ρ x w hh => tab_any hh) ?_ | refine HasIn.roAp rfl rfl ?_ | refine HasIn.other rfl (fun e => by cases e) (fun ρ x w hh => cells_any hh) ?_ | refine HasIn.other rfl (fun e => by cases e) (fun ρ x w hh => ro_any hh) ?_)) rfl rfl rfl (fun _ => rfl) rfl (by kernel_rfl) fun G hG => ?_
    repeat (first | refine C.seq ?_ | refine C.region ?_ | refine R.zb ttok ?_ | refine R.zu ttok ?_ | refine R.zc ttok ?_ | refine R.za ttok ?_ | refine R.zx ?_ | refine R.zl ttok ?_ | refine R.zs ttok ?_ | refine R.z ttok ?_ | refine R.zk ?_ | refine R.zn ?_ | refine R.done ?_ | refine X.then ?_ | refine C.block ?_ | refine C.ret ?_ | refine C.skip ?_ | refine C.exit ?_ | refine X.pass_ret ?_ | refine X.pass_exit ?_ | refine X.block_normal ?_ | refine X.block_ret ?_ | refine X.block_exit ?_ | refine C.zt ?_ | refine C.zf ?_ | refine X.zo ?_)
    rw [decide_eq_false (show ¬ x.kind = 1 by omega)]
    repeat (first | refine C.seq ?_ | refine C.region ?_ | refine R.zb ttok ?_ | refine R.zu ttok ?_ | refine R.zc ttok ?_ | refine R.za ttok ?_ | refine R.zx ?_ | refine R.zl ttok ?_ | refine R.zs ttok ?_ | refine R.z ttok ?_ | refine R.zk ?_ | refine R.zn ?_ | refine R.done ?_ | refine X.then ?_ | refine C.block ?_ | refine C.ret ?_ | refine C.skip ?_ | refine C.exit ?_ | refine X.pass_ret ?_ | refine X.pass_exit ?_ | refine X.block_normal ?_ | refine X.block_ret ?_ | refine X.block_exit ?_ | refine C.zt ?_ | refine C.zf ?_ | refine X.zo ?_)
    refine X.finF ttok (c, 0, G) [(2, 1)] ⟨by rw [hw]; exact Nat.le_trans (zdel_le l x.key mk) hc, hc2, by rw [hw]; exact hG⟩ rfl rfl rfl (by
      show HasH _ _ _ [(0, tbIZ 2 (wrZ x l mk 0).length c (zdelN l x.key hs) mk), (2, tIZ (wrZ x l mk 0) c)]
      rw [hw]
      exact (by repeat (first | exact HasH.nil | refine HasH.same rfl rfl rfl trivial ?_ | refine HasH.same rfl rfl rfl rfl ?_ | refine HasH.same rfl rfl rfl (fun _ _ => rfl) ?_))) _ (by first | exact .inl rfl | exact .inr rfl) ?_ ?_ ?_
    · rw [hw]; exact fun w' hf => hf.ap
    · rw [hw]; exact fun p hp => hp
    · exact hG
  rw [decide_eq_false hk2]
  repeat (first | refine C.seq ?_ | refine C.region ?_ | refine R.zb ttok ?_ | refine R.zu ttok ?_ | refine R.zc ttok ?_ | refine R.za ttok ?_ | refine R.zx ?_ | refine R.zl ttok ?_ | refine R.zs ttok ?_ | refine R.z ttok ?_ | refine R.zk ?_ | refine R.zn ?_ | refine R.done ?_ | refine X.then ?_ | refine C.block ?_ | refine C.ret ?_ | refine C.skip ?_ | refine C.exit ?_ | refine X.pass_ret ?_ | refine X.pass_exit ?_ | refine X.block_normal ?_ | refine X.block_ret ?_ | refine X.block_exit ?_ | refine C.zt ?_ | refine C.zf ?_ | refine X.zo ?_)
  by_cases hk1 : x.kind = 1
  · rw [decide_eq_true hk1]
    repeat (first | refine C.seq ?_ | refine C.region ?_ | refine R.zb ttok ?_ | refine R.zu ttok ?_ | refine R.zc ttok ?_ | refine R.za ttok ?_ | refine R.zx ?_ | refine R.zl ttok ?_ | refine R.zs ttok ?_ | refine R.z ttok ?_ | refine R.zk ?_ | refine R.zn ?_ | refine R.done ?_ | refine X.then ?_ | refine C.block ?_ | refine C.ret ?_ | refine C.skip ?_ | refine C.exit ?_ | refine X.pass_ret ?_ | refine X.pass_exit ?_ | refine X.block_normal ?_ | refine X.block_ret ?_ | refine X.block_exit ?_ | refine C.zt ?_ | refine C.zf ?_ | refine X.zo ?_)
    refine R.clF [0, 1] (put_specZ l c x.key x.v hs mk hA hl hc hc2 h1 h2) (Nat.le_refl _) (fun _ _ => rfl) Try.call36 (by repeat (first | exact HasIn.nil | refine HasIn.same rfl rfl ?_ | refine HasIn.c1 rfl rfl ?_ | refine HasIn.roq rfl rfl ?_ | refine HasIn.other rfl (fun e => by cases e) (fun ρ x w hh => tab_ro hh) ?_ | refine HasIn.other rfl (fun e => by cases e) (fun ρ x w hh => tab_any hh) ?_ | refine HasIn.roAp rfl rfl ?_ | refine HasIn.other rfl (fun e => by cases e) (fun ρ x w hh => cells_any hh) ?_ | refine HasIn.other rfl (fun e => by cases e) (fun ρ x w hh => ro_any hh) ?_)) rfl rfl rfl (fun _ => rfl) rfl (by kernel_rfl) fun s hs1 => ?_
    have hw : ∀ b, wrZ x l mk b = zput l x.key x.v b := fun b => (if_neg hk2).trans (if_pos hk1)
    have hcv := cov_put l x.key x.v s.2
    rw [show wrN x l hs = zputN l x.key hs from (if_neg hk2).trans (if_pos hk1)]
    repeat (first | refine C.seq ?_ | refine C.region ?_ | refine R.zb ttok ?_ | refine R.zu ttok ?_ | refine R.zc ttok ?_ | refine R.za ttok ?_ | refine R.zx ?_ | refine R.zl ttok ?_ | refine R.zs ttok ?_ | refine R.z ttok ?_ | refine R.zk ?_ | refine R.zn ?_ | refine R.done ?_ | refine X.then ?_ | refine C.block ?_ | refine C.ret ?_ | refine C.skip ?_ | refine C.exit ?_ | refine X.pass_ret ?_ | refine X.pass_exit ?_ | refine X.block_normal ?_ | refine X.block_ret ?_ | refine X.block_exit ?_ | refine C.zt ?_ | refine C.zf ?_ | refine X.zo ?_)
    refine X.finF ttok (s.1, s.2, []) [(2, 3)] ⟨by rw [hw]; exact hs1.1, hs1.2, by rw [hw, List.append_nil]; exact hcv⟩ rfl rfl rfl (by
      show HasH _ _ _ [(0, tbIZ 2 (wrZ x l mk s.2).length s.1 (zputN l x.key hs) mk), (2, tIZ (wrZ x l mk s.2) s.1)]
      rw [hw]
      exact (by repeat (first | exact HasH.nil | refine HasH.same rfl rfl rfl trivial ?_ | refine HasH.same rfl rfl rfl rfl ?_ | refine HasH.same rfl rfl rfl (fun _ _ => rfl) ?_))) _ (by first | exact .inl rfl | exact .inr rfl) ?_ ?_ ?_
    · rw [hw, List.append_nil]; exact fun w' hf => hf.ap
    · rw [hw, List.append_nil]; exact fun p hp => hp
    · exact hcv
  · rw [decide_eq_false hk1]
    have hw : ∀ b, wrZ x l mk b = l := fun b => (if_neg hk2).trans (if_neg hk1)
    rw [show wrN x l hs = hs from (if_neg hk2).trans (if_neg hk1)]
    repeat (first | refine C.seq ?_ | refine C.region ?_ | refine R.zb ttok ?_ | refine R.zu ttok ?_ | refine R.zc ttok ?_ | refine R.za ttok ?_ | refine R.zx ?_ | refine R.zl ttok ?_ | refine R.zs ttok ?_ | refine R.z ttok ?_ | refine R.zk ?_ | refine R.zn ?_ | refine R.done ?_ | refine X.then ?_ | refine C.block ?_ | refine C.ret ?_ | refine C.skip ?_ | refine C.exit ?_ | refine X.pass_ret ?_ | refine X.pass_exit ?_ | refine X.block_normal ?_ | refine X.block_ret ?_ | refine X.block_exit ?_ | refine C.zt ?_ | refine C.zf ?_ | refine X.zo ?_)
    refine X.finF ttok (c, 0, []) [(2, 1)] ⟨by rw [hw]; exact hc, hc2, by rw [hw, List.append_nil]; exact Cov.refl _⟩ rfl rfl rfl (by
      show HasH _ _ _ [(0, tbIZ 2 (wrZ x l mk 0).length c hs mk), (2, tIZ (wrZ x l mk 0) c)]
      rw [hw]
      exact (by repeat (first | exact HasH.nil | refine HasH.same rfl rfl rfl trivial ?_ | refine HasH.same rfl rfl rfl rfl ?_ | refine HasH.same rfl rfl rfl (fun _ _ => rfl) ?_))) _ (by first | exact .inl rfl | exact .inr rfl) ?_ ?_ ?_
    · rw [hw, List.append_nil]; exact fun w' hf => hf.ap
    · rw [hw, List.append_nil]; exact fun p hp => hp
    · exact Cov.refl _
end
end Go.Proofs.Yteabncomclgncaa
/- zigzag: steps; much, same, behind -/
namespace Go.Proofs.Yteabncomclgncaa
set_option linter.unusedVariables false
set_option linter.unusedSimpArgs false
open Go.RowKit
set_option maxRecDepth 100000
set_option maxHeartbeats 4000000
def StZ.no : StZ := ⟨0, 0, 0, ⟨#[]⟩, ⟨#[]⟩, ⟨#[]⟩⟩
def szF (l : List StZ) (i : Nat) : List AV := stZ (l.getD i StZ.no)
abbrev roZ (off : Nat) (l : List StZ) : AO := .ro 1 off (l.length * 6) (rowsF 6 (szF l))
theorem rowsZ_bd (L k : Nat) (l : List StZ) (m : Nat) : ∀ i, i < m → AV.bds L (rowsF k (szF l) i) = true := fun i _ => by
  unfold rowsF szF
  split
  · rename_i v hv
    have : v ∈ stZ (l.getD (i / k) StZ.no) := List.mem_of_getElem? hv
    simp only [stZ, List.mem_cons, List.not_mem_nil, or_false] at this
    rcases this with rfl | rfl | rfl | rfl | rfl | rfl <;> rfl
  · rfl
theorem rowsZ_ren (r : Nat → Nat) (k : Nat) (l : List StZ) : (fun i => AV.rens r (rowsF k (szF l) i)) = rowsF k (szF l) := by
  funext i
  unfold rowsF szF
  split
  · rename_i v hv
    have : v ∈ stZ (l.getD (i / k) StZ.no) := List.mem_of_getElem? hv
    simp only [stZ, List.mem_cons, List.not_mem_nil, or_false] at this
    rcases this with rfl | rfl | rfl | rfl | rfl | rfl <;> rfl
  · rfl
theorem HasH.roz {r : Nat → Nat} {L : Nat} {h rest : List (Nat × AO)} {l off : Nat} {s : List StZ} (h1 : hk (r l) h = some (roZ off s)) (h3 : Nat.ble (l + 1) L = true) (k : HasH r L h rest) : HasH r L h ((l, roZ off s) :: rest) :=
  .other h1 id (fun ρ x w hh => by simp only [AO.ren, rowsZ_ren]; exact hh) h3 (rowsZ_bd _ _ _ _) k
theorem HasIn.roz {r : Nat → Nat} {h : List (Nat × AO)} {i off : Nat} {s : List StZ} {os : List AO} (h1 : hk (r i) h = some (roZ off s)) (k : HasIn r h (i + 1) os) : HasIn r h i (roZ off s :: os) :=
  .other h1 id (fun ρ x w hh => by simp only [AO.ren, rowsZ_ren]; exact hh) k
abbrev roK (l : List ByteArray) : AO := .ro 1 0 l.length (txF l)
abbrev roV (l : List Int) : AO := .ro 1 0 l.length (inF l)
theorem getD_drop {α : Type} (l : List α) (o i : Nat) (d : α) : (l.drop o).getD i d = l.getD (o + i) d := by
  simp [List.getD_eq_getElem?_getD]
theorem eq_dec (a b : ByteArray) (h : a = b) : decide (a.toList ≠ b.toList) = false := decide_eq_false (fun e => e (by rw [h]))
theorem same_spec (ka kb : List ByteArray) (va vb : List Int) (oa ob ox oy na nx ca cb cx cy : Nat) (hA : oa + na = ka.length) (hB : ob + na = kb.length) (hX : ox + na = va.length) (hY : oy + na = vb.length) (hl : na ≤ 1000000) (h1 : ka.drop oa = kb.drop ob) (h2 : va.drop ox = vb.drop oy) :
    Spec Try.prog 23 [.sl 0 1 oa na ca, .sl 1 1 ox na cx, .sl 2 1 ob na cb, .sl 3 1 oy na cy] [roK ka, roV va, roK kb, roV vb] 4 (σ := Unit) (fun _ => True) (fun _ => .raw (.bool true)) (fun _ => []) := by
  refine Spec.of Try.func23 rfl Try.ntmps23 rfl (bdl_cons (fun _ _ => rfl) (bdl_cons (fun _ _ => rfl) (bdl_cons (fun _ _ => rfl) (bdl_cons (fun _ _ => rfl) (bdl_nil _))))) fun ρ w => ?_
  repeat (first | refine C.seq ?_ | refine C.region ?_ | refine R.zb ttok ?_ | refine R.zu ttok ?_ | refine R.zc ttok ?_ | refine R.za ttok ?_ | refine R.zx ?_ | refine R.zl ttok ?_ | refine R.zs ttok ?_ | refine R.z ttok ?_ | refine R.zk ?_ | refine R.zn ?_ | refine R.done ?_ | refine X.then ?_ | refine C.block ?_ | refine C.ret ?_ | refine C.skip ?_ | refine C.exit ?_ | refine X.pass_ret ?_ | refine X.pass_exit ?_ | refine X.block_normal ?_ | refine X.block_ret ?_ | refine X.block_exit ?_ | refine C.zt ?_ | refine C.zf ?_ | refine X.zo ?_)
  rw [decide_eq_false (show ¬ ((na : Nat) : Int) ≠ ((na : Nat) : Int) from fun h => h rfl)]
  repeat (first | refine C.seq ?_ | refine C.region ?_ | refine R.zb ttok ?_ | refine R.zu ttok ?_ | refine R.zc ttok ?_ | refine R.za ttok ?_ | refine R.zx ?_ | refine R.zl ttok ?_ | refine R.zs ttok ?_ | refine R.z ttok ?_ | refine R.zk ?_ | refine R.zn ?_ | refine R.done ?_ | refine X.then ?_ | refine C.block ?_ | refine C.ret ?_ | refine C.skip ?_ | refine C.exit ?_ | refine X.pass_ret ?_ | refine X.pass_exit ?_ | refine X.block_normal ?_ | refine X.block_ret ?_ | refine X.block_exit ?_ | refine C.zt ?_ | refine C.zf ?_ | refine X.zo ?_)
  rw [decide_eq_false (show ¬ ((na : Nat) : Int) ≠ ((na : Nat) : Int) from fun h => h rfl)]
  repeat (first | refine C.seq ?_ | refine C.region ?_ | refine R.zb ttok ?_ | refine R.zu ttok ?_ | refine R.zc ttok ?_ | refine R.za ttok ?_ | refine R.zx ?_ | refine R.zl ttok ?_ | refine R.zs ttok ?_ | refine R.z ttok ?_ | refine R.zk ?_ | refine R.zn ?_ | refine R.done ?_ | refine X.then ?_ | refine C.block ?_ | refine C.ret ?_ | refine C.skip ?_ | refine C.exit ?_ | refine X.pass_ret ?_ | refine X.pass_exit ?_ | refine X.block_normal ?_ | refine X.block_ret ?_ | refine X.block_exit ?_ | refine C.zt ?_ | refine C.zf ?_ | refine X.zo ?_)
  refine C.loop (σ := Nat) (L2 := 4) (fun i => i ≤ na) (fun i => [(0, .sl 0 1 oa na ca), (1, .sl 1 1 ox na cx), (2, .sl 2 1 ob na cb), (3, .sl 3 1 oy na cy), (8, .raw (.bool false)), (9, .raw (.int .i64 (i : Nat)))]) (fun _ => [(0, roK ka), (1, roV va), (2, roK kb), (3, roV vb)]) _ (fun i => na - i) [] 0 (Nat.zero_le _) rfl (by repeat (first | exact HasT.nil | refine HasT.cons rfl rfl rfl ?_)) (by repeat (first | exact HasH.nil | refine HasH.same rfl rfl rfl trivial ?_ | refine HasH.same rfl rfl rfl rfl ?_ | refine HasH.same rfl rfl rfl (fun _ _ => rfl) ?_)) rfl (fun _ h => h) ?_
  rintro i hi
  repeat (first | refine C.seq ?_ | refine C.region ?_ | refine R.zb ttok ?_ | refine R.zu ttok ?_ | refine R.zc ttok ?_ | refine R.za ttok ?_ | refine R.zx ?_ | refine R.zl ttok ?_ | refine R.zs ttok ?_ | refine R.z ttok ?_ | refine R.zk ?_ | refine R.zn ?_ | refine R.done ?_ | refine X.then ?_ | refine C.block ?_ | refine C.ret ?_ | refine C.skip ?_ | refine C.exit ?_ | refine X.pass_ret ?_ | refine X.pass_exit ?_ | refine X.block_normal ?_ | refine X.block_ret ?_ | refine X.block_exit ?_ | refine C.zt ?_ | refine C.zf ?_ | refine X.zo ?_)
  by_cases hlt : (i : Int) < (na : Nat)
  · rw [decide_eq_true hlt]
    have hlt : i < na := by omega
    have e1 : ka.getD (oa + i) noT = kb.getD (ob + i) noT := by rw [← getD_drop, ← getD_drop, h1]
    have e2 : va.getD (ox + i) 0 = vb.getD (oy + i) 0 := by rw [← getD_drop, ← getD_drop, h2]
    repeat (first | refine C.seq ?_ | refine C.region ?_ | refine R.zb ttok ?_ | refine R.zu ttok ?_ | refine R.zc ttok ?_ | refine R.za ttok ?_ | refine R.zx ?_ | refine R.zl ttok ?_ | refine R.zs ttok ?_ | refine R.z ttok ?_ | refine R.zk ?_ | refine R.zn ?_ | refine R.done ?_ | refine X.then ?_ | refine C.block ?_ | refine C.ret ?_ | refine C.skip ?_ | refine C.exit ?_ | refine X.pass_ret ?_ | refine X.pass_exit ?_ | refine X.block_normal ?_ | refine X.block_ret ?_ | refine X.block_exit ?_ | refine C.zt ?_ | refine C.zf ?_ | refine X.zo ?_)
    refine C.draw [[], [], [0, 1], [0, 1, 2], [], [], [4, 5], [4, 5, 6], [0, 1, 2, 3, 4, 5, 6, 7], [0, 1, 2, 3, 4, 5, 6, 7, 8], [0, 1, 2, 3, 4, 5, 6, 7, 8, 9], [0, 1, 2, 3, 4, 5, 6, 7, 8, 9], [0, 1, 2, 3, 4, 5, 6, 7, 8, 9, 10, 11], [0, 1, 2, 3, 4, 5, 6, 7, 8, 9, 10, 11, 12], [0, 1, 2, 3, 4, 5, 6, 7, 8, 9], [0, 1, 2, 3, 4, 5, 6, 7, 8, 9], [0, 1, 2, 3, 4, 5, 6, 7, 8, 9, 14, 15], [0, 1, 2, 3, 4, 5, 6, 7, 8, 9, 14, 15, 16], [0, 1, 2, 3, 4, 5, 6, 7, 8, 9, 10, 11, 12, 13, 14, 15, 16, 17], [0, 1, 2, 3, 4, 5, 6, 7, 8, 9, 10, 11, 12, 13, 14, 15, 16, 17, 18]] [] (by kernel_rfl) (by kernel_rfl) ?_
    repeat (first | refine C.seq ?_ | refine C.region ?_ | refine R.zb ttok ?_ | refine R.zu ttok ?_ | refine R.zc ttok ?_ | refine R.za ttok ?_ | refine R.zx ?_ | refine R.zl ttok ?_ | refine R.zs ttok ?_ | refine R.z ttok ?_ | refine R.zk ?_ | refine R.zn ?_ | refine R.done ?_ | refine X.then ?_ | refine C.block ?_ | refine C.ret ?_ | refine C.skip ?_ | refine C.exit ?_ | refine X.pass_ret ?_ | refine X.pass_exit ?_ | refine X.block_normal ?_ | refine X.block_ret ?_ | refine X.block_exit ?_ | refine C.zt ?_ | refine C.zf ?_ | refine X.zo ?_)
    refine R.ix ttok i rfl rfl rfl rfl rfl (by kernel_rfl) rfl hlt (by show _ ≤ _ ∧ _ < _; omega) rfl ?_
    refine R.ldoj (v := .raw (.string (ka.getD (oa + i) noT))) ttok (oa + i) rfl rfl rfl rfl rfl (by kernel_rfl) (by omega) (by omega) ?_
    repeat (first | refine C.seq ?_ | refine C.region ?_ | refine R.zb ttok ?_ | refine R.zu ttok ?_ | refine R.zc ttok ?_ | refine R.za ttok ?_ | refine R.zx ?_ | refine R.zl ttok ?_ | refine R.zs ttok ?_ | refine R.z ttok ?_ | refine R.zk ?_ | refine R.zn ?_ | refine R.done ?_ | refine X.then ?_ | refine C.block ?_ | refine C.ret ?_ | refine C.skip ?_ | refine C.exit ?_ | refine X.pass_ret ?_ | refine X.pass_exit ?_ | refine X.block_normal ?_ | refine X.block_ret ?_ | refine X.block_exit ?_ | refine C.zt ?_ | refine C.zf ?_ | refine X.zo ?_)
    refine R.ix ttok i rfl rfl rfl rfl rfl (by kernel_rfl) rfl hlt (by show _ ≤ _ ∧ _ < _; omega) rfl ?_
    refine R.ldoj (v := .raw (.string (kb.getD (ob + i) noT))) ttok (ob + i) rfl rfl rfl rfl rfl (by kernel_rfl) (by omega) (by omega) ?_
    repeat (first | refine C.seq ?_ | refine C.region ?_ | refine R.zb ttok ?_ | refine R.zu ttok ?_ | refine R.zc ttok ?_ | refine R.za ttok ?_ | refine R.zx ?_ | refine R.zl ttok ?_ | refine R.zs ttok ?_ | refine R.z ttok ?_ | refine R.zk ?_ | refine R.zn ?_ | refine R.done ?_ | refine X.then ?_ | refine C.block ?_ | refine C.ret ?_ | refine C.skip ?_ | refine C.exit ?_ | refine X.pass_ret ?_ | refine X.pass_exit ?_ | refine X.block_normal ?_ | refine X.block_ret ?_ | refine X.block_exit ?_ | refine C.zt ?_ | refine C.zf ?_ | refine X.zo ?_)
    rw [eq_dec _ _ e1]
    repeat (first | refine C.seq ?_ | refine C.region ?_ | refine R.zb ttok ?_ | refine R.zu ttok ?_ | refine R.zc ttok ?_ | refine R.za ttok ?_ | refine R.zx ?_ | refine R.zl ttok ?_ | refine R.zs ttok ?_ | refine R.z ttok ?_ | refine R.zk ?_ | refine R.zn ?_ | refine R.done ?_ | refine X.then ?_ | refine C.block ?_ | refine C.ret ?_ | refine C.skip ?_ | refine C.exit ?_ | refine X.pass_ret ?_ | refine X.pass_exit ?_ | refine X.block_normal ?_ | refine X.block_ret ?_ | refine X.block_exit ?_ | refine C.zt ?_ | refine C.zf ?_ | refine X.zo ?_)
    refine R.ix ttok i rfl rfl rfl rfl rfl (by kernel_rfl) rfl hlt (by show _ ≤ _ ∧ _ < _; omega) rfl ?_
    refine R.ldoj (v := .raw (.int .i64 (va.getD (ox + i) 0))) ttok (ox + i) rfl rfl rfl rfl rfl (by kernel_rfl) (by omega) (by omega) ?_
    repeat (first | refine C.seq ?_ | refine C.region ?_ | refine R.zb ttok ?_ | refine R.zu ttok ?_ | refine R.zc ttok ?_ | refine R.za ttok ?_ | refine R.zx ?_ | refine R.zl ttok ?_ | refine R.zs ttok ?_ | refine R.z ttok ?_ | refine R.zk ?_ | refine R.zn ?_ | refine R.done ?_ | refine X.then ?_ | refine C.block ?_ | refine C.ret ?_ | refine C.skip ?_ | refine C.exit ?_ | refine X.pass_ret ?_ | refine X.pass_exit ?_ | refine X.block_normal ?_ | refine X.block_ret ?_ | refine X.block_exit ?_ | refine C.zt ?_ | refine C.zf ?_ | refine X.zo ?_)
    refine R.ix ttok i rfl rfl rfl rfl rfl (by kernel_rfl) rfl hlt (by show _ ≤ _ ∧ _ < _; omega) rfl ?_
    refine R.ldoj (v := .raw (.int .i64 (vb.getD (oy + i) 0))) ttok (oy + i) rfl rfl rfl rfl rfl (by kernel_rfl) (by omega) (by omega) ?_
    repeat (first | refine C.seq ?_ | refine C.region ?_ | refine R.zb ttok ?_ | refine R.zu ttok ?_ | refine R.zc ttok ?_ | refine R.za ttok ?_ | refine R.zx ?_ | refine R.zl ttok ?_ | refine R.zs ttok ?_ | refine R.z ttok ?_ | refine R.zk ?_ | refine R.zn ?_ | refine R.done ?_ | refine X.then ?_ | refine C.block ?_ | refine C.ret ?_ | refine C.skip ?_ | refine C.exit ?_ | refine X.pass_ret ?_ | refine X.pass_exit ?_ | refine X.block_normal ?_ | refine X.block_ret ?_ | refine X.block_exit ?_ | refine C.zt ?_ | refine C.zf ?_ | refine X.zo ?_)
    rw [decide_eq_false (show ¬ va.getD (ox + i) 0 ≠ vb.getD (oy + i) 0 from fun h => h e2)]
    repeat (first | refine C.seq ?_ | refine C.region ?_ | refine R.zb ttok ?_ | refine R.zu ttok ?_ | refine R.zc ttok ?_ | refine R.za ttok ?_ | refine R.zx ?_ | refine R.zl ttok ?_ | refine R.zs ttok ?_ | refine R.z ttok ?_ | refine R.zk ?_ | refine R.zn ?_ | refine R.done ?_ | refine X.then ?_ | refine C.block ?_ | refine C.ret ?_ | refine C.skip ?_ | refine C.exit ?_ | refine X.pass_ret ?_ | refine X.pass_exit ?_ | refine X.block_normal ?_ | refine X.block_ret ?_ | refine X.block_exit ?_ | refine C.zt ?_ | refine C.zf ?_ | refine X.zo ?_)
    exact X.back [] (i + 1) hlt (by omega) rfl (by repeat (first | exact HasT.nil | refine HasT.cons rfl rfl rfl ?_)) (by repeat (first | exact HasH.nil | refine HasH.same rfl rfl rfl trivial ?_ | refine HasH.same rfl rfl rfl rfl ?_ | refine HasH.same rfl rfl rfl (fun _ _ => rfl) ?_)) rfl (fun _ h => h)
  · rw [decide_eq_false hlt]
    repeat (first | refine C.seq ?_ | refine C.region ?_ | refine R.zb ttok ?_ | refine R.zu ttok ?_ | refine R.zc ttok ?_ | refine R.za ttok ?_ | refine R.zx ?_ | refine R.zl ttok ?_ | refine R.zs ttok ?_ | refine R.z ttok ?_ | refine R.zk ?_ | refine R.zn ?_ | refine R.done ?_ | refine X.then ?_ | refine C.block ?_ | refine C.ret ?_ | refine C.skip ?_ | refine C.exit ?_ | refine X.pass_ret ?_ | refine X.pass_exit ?_ | refine X.block_normal ?_ | refine X.block_ret ?_ | refine X.block_exit ?_ | refine C.zt ?_ | refine C.zf ?_ | refine X.zo ?_)
    refine X.fin ttok () [] trivial rfl rfl rfl (by repeat (first | exact HasH.nil | refine HasH.same rfl rfl rfl trivial ?_ | refine HasH.same rfl rfl rfl rfl ?_ | refine HasH.same rfl rfl rfl (fun _ _ => rfl) ?_ | refine HasH.ros rfl rfl ?_)) _ (by first | exact .inl rfl | exact .inr rfl)
/-- behind: from the first key above a text on -/
def bhI (ks : List ByteArray) (ab : ByteArray) : Nat := ks.findIdx fun k => gtB k ab
theorem bhI_le (ks : List ByteArray) (ab : ByteArray) : bhI ks ab ≤ ks.length := List.findIdx_le_length
theorem bhI_at {ks : List ByteArray} {ab : ByteArray} {i : Nat} (h : i < ks.length) (hi : i ≤ bhI ks ab) : (gtB (ks.getD i noT) ab = true → i = bhI ks ab) ∧ (gtB (ks.getD i noT) ab = false → i + 1 ≤ bhI ks ab) := by
  have e : ks.getD i noT = ks[i] := by rw [List.getD_eq_getElem?_getD, List.getElem?_eq_getElem h]; rfl
  rw [e]
  refine ⟨fun h1 => ?_, fun h1 => ?_⟩
  · refine Nat.le_antisymm hi (Nat.le_of_not_lt fun h2 => ?_)
    have := List.not_of_lt_findIdx h2
    rw [h1] at this; cases this
  · rcases Nat.lt_or_ge i (bhI ks ab) with h2 | h2
    · exact h2
    · have h3 : i = bhI ks ab := by omega
      subst h3
      have h4 : gtB ks[bhI ks ab] ab = true := List.findIdx_getElem (w := h)
      rw [h1] at h4; cases h4
theorem behind_spec (ks : List ByteArray) (vs : List Int) (ab : ByteArray) (ca cb : Nat) (hv : vs.length = ks.length) (hl : ks.length ≤ 1000000) (hca : ks.length ≤ ca) (hcb : ks.length ≤ cb) :
    Spec Try.prog 26 [.sl 0 1 0 ks.length ca, .sl 1 1 0 ks.length cb, .raw (.string ab)] [roK ks, roV vs] 2 (σ := Unit) (fun _ => True)
    (fun _ => if bhI ks ab < ks.length then .tup [.sl 0 1 (bhI ks ab) (ks.length - bhI ks ab) (ca - bhI ks ab), .sl 1 1 (bhI ks ab) (ks.length - bhI ks ab) (cb - bhI ks ab)] else .tup [.raw (.slice none 0 0), .raw (.slice none 0 0)]) (fun _ => []) := by
  refine Spec.of Try.func26 rfl Try.ntmps26 rfl (bdl_cons (fun _ _ => rfl) (bdl_cons (fun _ _ => rfl) (bdl_nil _))) fun ρ w => ?_
  have hble := bhI_le ks ab
  repeat (first | refine C.seq ?_ | refine C.region ?_ | refine R.zb ttok ?_ | refine R.zu ttok ?_ | refine R.zc ttok ?_ | refine R.za ttok ?_ | refine R.zx ?_ | refine R.zl ttok ?_ | refine R.zs ttok ?_ | refine R.z ttok ?_ | refine R.zk ?_ | refine R.zn ?_ | refine R.done ?_ | refine X.then ?_ | refine C.block ?_ | refine C.ret ?_ | refine C.skip ?_ | refine C.exit ?_ | refine X.pass_ret ?_ | refine X.pass_exit ?_ | refine X.block_normal ?_ | refine X.block_ret ?_ | refine X.block_exit ?_ | refine C.zt ?_ | refine C.zf ?_ | refine X.zo ?_)
  refine C.loop (σ := Nat) (L2 := 2) (fun i => i ≤ ks.length ∧ i ≤ bhI ks ab) (fun i => [(0, .sl 0 1 0 ks.length ca), (1, .sl 1 1 0 ks.length cb), (2, .raw (.string ab)), (6, .raw (.slice none 0 0)), (7, .raw (.slice none 0 0)), (8, .raw (.int .i64 (i : Nat)))]) (fun _ => [(0, roK ks), (1, roV vs)]) _ (fun i => ks.length - i) [] 0 ⟨Nat.zero_le _, Nat.zero_le _⟩ rfl (by repeat (first | exact HasT.nil | refine HasT.cons rfl rfl rfl ?_)) (by repeat (first | exact HasH.nil | refine HasH.same rfl rfl rfl trivial ?_ | refine HasH.same rfl rfl rfl rfl ?_ | refine HasH.same rfl rfl rfl (fun _ _ => rfl) ?_)) rfl (fun _ h => h) ?_
  rintro i ⟨hi, hib⟩
  repeat (first | refine C.seq ?_ | refine C.region ?_ | refine R.zb ttok ?_ | refine R.zu ttok ?_ | refine R.zc ttok ?_ | refine R.za ttok ?_ | refine R.zx ?_ | refine R.zl ttok ?_ | refine R.zs ttok ?_ | refine R.z ttok ?_ | refine R.zk ?_ | refine R.zn ?_ | refine R.done ?_ | refine X.then ?_ | refine C.block ?_ | refine C.ret ?_ | refine C.skip ?_ | refine C.exit ?_ | refine X.pass_ret ?_ | refine X.pass_exit ?_ | refine X.block_normal ?_ | refine X.block_ret ?_ | refine X.block_exit ?_ | refine C.zt ?_ | refine C.zf ?_ | refine X.zo ?_)
  by_cases hlt : (i : Int) < (ks.length : Nat)
  · rw [decide_eq_true hlt]
    have hlt : i < ks.length := by omega
    have hat := bhI_at hlt hib
    repeat (first | refine C.seq ?_ | refine C.region ?_ | refine R.zb ttok ?_ | refine R.zu ttok ?_ | refine R.zc ttok ?_ | refine R.za ttok ?_ | refine R.zx ?_ | refine R.zl ttok ?_ | refine R.zs ttok ?_ | refine R.z ttok ?_ | refine R.zk ?_ | refine R.zn ?_ | refine R.done ?_ | refine X.then ?_ | refine C.block ?_ | refine C.ret ?_ | refine C.skip ?_ | refine C.exit ?_ | refine X.pass_ret ?_ | refine X.pass_exit ?_ | refine X.block_normal ?_ | refine X.block_ret ?_ | refine X.block_exit ?_ | refine C.zt ?_ | refine C.zf ?_ | refine X.zo ?_)
    refine R.ix ttok i rfl rfl rfl rfl rfl (by kernel_rfl) rfl hlt (by show _ ≤ _ ∧ _ < _; omega) rfl ?_
    refine R.ldoj (v := .raw (.string (ks.getD i noT))) ttok (i) rfl rfl rfl rfl rfl (by kernel_rfl) (by omega) (by omega) ?_
    repeat (first | refine C.seq ?_ | refine C.region ?_ | refine R.zb ttok ?_ | refine R.zu ttok ?_ | refine R.zc ttok ?_ | refine R.za ttok ?_ | refine R.zx ?_ | refine R.zl ttok ?_ | refine R.zs ttok ?_ | refine R.z ttok ?_ | refine R.zk ?_ | refine R.zn ?_ | refine R.done ?_ | refine X.then ?_ | refine C.block ?_ | refine C.ret ?_ | refine C.skip ?_ | refine C.exit ?_ | refine X.pass_ret ?_ | refine X.pass_exit ?_ | refine X.block_normal ?_ | refine X.block_ret ?_ | refine X.block_exit ?_ | refine C.zt ?_ | refine C.zf ?_ | refine X.zo ?_)
    cases hg : gtB (ks.getD i noT) ab with
    | true =>
      have hI := hat.1 hg
      rw [← hI, if_pos hlt]
      rw [show (!(Op.bytesLess (ks.getD i noT).toList ab.toList || decide ((ks.getD i noT).toList = ab.toList))) = true from hg]
      repeat (first | refine C.seq ?_ | refine C.region ?_ | refine R.zb ttok ?_ | refine R.zu ttok ?_ | refine R.zc ttok ?_ | refine R.za ttok ?_ | refine R.zx ?_ | refine R.zl ttok ?_ | refine R.zs ttok ?_ | refine R.z ttok ?_ | refine R.zk ?_ | refine R.zn ?_ | refine R.done ?_ | refine X.then ?_ | refine C.block ?_ | refine C.ret ?_ | refine C.skip ?_ | refine C.exit ?_ | refine X.pass_ret ?_ | refine X.pass_exit ?_ | refine X.block_normal ?_ | refine X.block_ret ?_ | refine X.block_exit ?_ | refine C.zt ?_ | refine C.zf ?_ | refine X.zo ?_)
      refine C.draw [[], [], [0, 1], [], [], [3, 4], [0, 1, 2], [0, 1, 2, 3, 4, 5, 6]] [] (by kernel_rfl) (by kernel_rfl) ?_
      repeat (first | refine C.seq ?_ | refine C.region ?_ | refine R.zb ttok ?_ | refine R.zu ttok ?_ | refine R.zc ttok ?_ | refine R.za ttok ?_ | refine R.zx ?_ | refine R.zl ttok ?_ | refine R.zs ttok ?_ | refine R.z ttok ?_ | refine R.zk ?_ | refine R.zn ?_ | refine R.done ?_ | refine X.then ?_ | refine C.block ?_ | refine C.ret ?_ | refine C.skip ?_ | refine C.exit ?_ | refine X.pass_ret ?_ | refine X.pass_exit ?_ | refine X.block_normal ?_ | refine X.block_ret ?_ | refine X.block_exit ?_ | refine C.zt ?_ | refine C.zf ?_ | refine X.zo ?_)
      refine R.sl ttok i ks.length rfl rfl rfl rfl rfl rfl (by kernel_rfl) ⟨_, _, rfl, by omega⟩ rfl (by omega) (by omega) fun o1 ho1 => ?_
      obtain rfl : o1 = i := by omega
      repeat (first | refine C.seq ?_ | refine C.region ?_ | refine R.zb ttok ?_ | refine R.zu ttok ?_ | refine R.zc ttok ?_ | refine R.za ttok ?_ | refine R.zx ?_ | refine R.zl ttok ?_ | refine R.zs ttok ?_ | refine R.z ttok ?_ | refine R.zk ?_ | refine R.zn ?_ | refine R.done ?_ | refine X.then ?_ | refine C.block ?_ | refine C.ret ?_ | refine C.skip ?_ | refine C.exit ?_ | refine X.pass_ret ?_ | refine X.pass_exit ?_ | refine X.block_normal ?_ | refine X.block_ret ?_ | refine X.block_exit ?_ | refine C.zt ?_ | refine C.zf ?_ | refine X.zo ?_)
      refine R.sl ttok o1 ks.length rfl rfl rfl rfl rfl rfl (by kernel_rfl) ⟨_, _, rfl, by omega⟩ rfl (by omega) (by omega) fun o2 ho2 => ?_
      obtain rfl : o2 = o1 := by omega
      repeat (first | refine C.seq ?_ | refine C.region ?_ | refine R.zb ttok ?_ | refine R.zu ttok ?_ | refine R.zc ttok ?_ | refine R.za ttok ?_ | refine R.zx ?_ | refine R.zl ttok ?_ | refine R.zs ttok ?_ | refine R.z ttok ?_ | refine R.zk ?_ | refine R.zn ?_ | refine R.done ?_ | refine X.then ?_ | refine C.block ?_ | refine C.ret ?_ | refine C.skip ?_ | refine C.exit ?_ | refine X.pass_ret ?_ | refine X.pass_exit ?_ | refine X.block_normal ?_ | refine X.block_ret ?_ | refine X.block_exit ?_ | refine C.zt ?_ | refine C.zf ?_ | refine X.zo ?_)
      refine X.fin ttok () [] trivial rfl rfl rfl (by repeat (first | exact HasH.nil | refine HasH.same rfl rfl rfl trivial ?_ | refine HasH.same rfl rfl rfl rfl ?_ | refine HasH.same rfl rfl rfl (fun _ _ => rfl) ?_ | refine HasH.ros rfl rfl ?_)) _ (by first | exact .inl rfl | exact .inr rfl)
    | false =>
      have hI := hat.2 hg
      rw [show (!(Op.bytesLess (ks.getD i noT).toList ab.toList || decide ((ks.getD i noT).toList = ab.toList))) = false from hg]
      repeat (first | refine C.seq ?_ | refine C.region ?_ | refine R.zb ttok ?_ | refine R.zu ttok ?_ | refine R.zc ttok ?_ | refine R.za ttok ?_ | refine R.zx ?_ | refine R.zl ttok ?_ | refine R.zs ttok ?_ | refine R.z ttok ?_ | refine R.zk ?_ | refine R.zn ?_ | refine R.done ?_ | refine X.then ?_ | refine C.block ?_ | refine C.ret ?_ | refine C.skip ?_ | refine C.exit ?_ | refine X.pass_ret ?_ | refine X.pass_exit ?_ | refine X.block_normal ?_ | refine X.block_ret ?_ | refine X.block_exit ?_ | refine C.zt ?_ | refine C.zf ?_ | refine X.zo ?_)
      exact X.back [] (i + 1) ⟨hlt, hI⟩ (by omega) rfl (by repeat (first | exact HasT.nil | refine HasT.cons rfl rfl rfl ?_)) (by repeat (first | exact HasH.nil | refine HasH.same rfl rfl rfl trivial ?_ | refine HasH.same rfl rfl rfl rfl ?_ | refine HasH.same rfl rfl rfl (fun _ _ => rfl) ?_)) rfl (fun _ h => h)
  · rw [decide_eq_false hlt, if_neg (show ¬ bhI ks ab < ks.length by omega)]
    repeat (first | refine C.seq ?_ | refine C.region ?_ | refine R.zb ttok ?_ | refine R.zu ttok ?_ | refine R.zc ttok ?_ | refine R.za ttok ?_ | refine R.zx ?_ | refine R.zl ttok ?_ | refine R.zs ttok ?_ | refine R.z ttok ?_ | refine R.zk ?_ | refine R.zn ?_ | refine R.done ?_ | refine X.then ?_ | refine C.block ?_ | refine C.ret ?_ | refine C.skip ?_ | refine C.exit ?_ | refine X.pass_ret ?_ | refine X.pass_exit ?_ | refine X.block_normal ?_ | refine X.block_ret ?_ | refine X.block_exit ?_ | refine C.zt ?_ | refine C.zf ?_ | refine X.zo ?_)
    refine X.fin ttok () [] trivial rfl rfl rfl (by repeat (first | exact HasH.nil | refine HasH.same rfl rfl rfl trivial ?_ | refine HasH.same rfl rfl rfl rfl ?_ | refine HasH.same rfl rfl rfl (fun _ _ => rfl) ?_ | refine HasH.ros rfl rfl ?_)) _ (by first | exact .inl rfl | exact .inr rfl)
/-- much -/
theorem much_spec (sc : List StZ) (off cap : Nat) (hsc : sc.length ≤ 9223372036854775807) :
    Spec Try.prog 16 [.sl 0 1 off sc.length cap] [roZ off sc] 1 (σ := Bool) (fun b => b = false → sc.length ≤ 200) (fun b => .raw (.bool b)) (fun _ => []) := by
  refine Spec.of Try.func16 rfl Try.ntmps16 rfl (bdl_cons (rowsZ_bd _ _ _ _) (bdl_nil _)) fun ρ w => ?_
  repeat (first | refine C.seq ?_ | refine C.region ?_ | refine R.zb ttok ?_ | refine R.zu ttok ?_ | refine R.zc ttok ?_ | refine R.za ttok ?_ | refine R.zx ?_ | refine R.zl ttok ?_ | refine R.zs ttok ?_ | refine R.z ttok ?_ | refine R.zk ?_ | refine R.zn ?_ | refine R.done ?_ | refine X.then ?_ | refine C.block ?_ | refine C.ret ?_ | refine C.skip ?_ | refine C.exit ?_ | refine X.pass_ret ?_ | refine X.pass_exit ?_ | refine X.block_normal ?_ | refine X.block_ret ?_ | refine X.block_exit ?_ | refine C.zt ?_ | refine C.zf ?_ | refine X.zo ?_)
  by_cases h200 : ((sc.length : Nat) : Int) > 200
  · rw [decide_eq_true h200]
    repeat (first | refine C.seq ?_ | refine C.region ?_ | refine R.zb ttok ?_ | refine R.zu ttok ?_ | refine R.zc ttok ?_ | refine R.za ttok ?_ | refine R.zx ?_ | refine R.zl ttok ?_ | refine R.zs ttok ?_ | refine R.z ttok ?_ | refine R.zk ?_ | refine R.zn ?_ | refine R.done ?_ | refine X.then ?_ | refine C.block ?_ | refine C.ret ?_ | refine C.skip ?_ | refine C.exit ?_ | refine X.pass_ret ?_ | refine X.pass_exit ?_ | refine X.block_normal ?_ | refine X.block_ret ?_ | refine X.block_exit ?_ | refine C.zt ?_ | refine C.zf ?_ | refine X.zo ?_)
    refine X.fin ttok true [] (fun h => by cases h) rfl rfl rfl (by repeat (first | exact HasH.nil | refine HasH.same rfl rfl rfl trivial ?_ | refine HasH.same rfl rfl rfl rfl ?_ | refine HasH.same rfl rfl rfl (fun _ _ => rfl) ?_ | refine HasH.ros rfl rfl ?_)) _ (by first | exact .inl rfl | exact .inr rfl)
  rw [decide_eq_false h200]
  repeat (first | refine C.seq ?_ | refine C.region ?_ | refine R.zb ttok ?_ | refine R.zu ttok ?_ | refine R.zc ttok ?_ | refine R.za ttok ?_ | refine R.zx ?_ | refine R.zl ttok ?_ | refine R.zs ttok ?_ | refine R.z ttok ?_ | refine R.zk ?_ | refine R.zn ?_ | refine R.done ?_ | refine X.then ?_ | refine C.block ?_ | refine C.ret ?_ | refine C.skip ?_ | refine C.exit ?_ | refine X.pass_ret ?_ | refine X.pass_exit ?_ | refine X.block_normal ?_ | refine X.block_ret ?_ | refine X.block_exit ?_ | refine C.zt ?_ | refine C.zf ?_ | refine X.zo ?_)
  refine C.loop (σ := Nat × Nat) (L2 := 1) (fun s => s.1 ≤ sc.length ∧ s.2 ≤ s.1 * 150000) (fun s => [(0, .sl 0 1 off sc.length cap), (3, .raw (.int .i64 (s.2 : Nat))), (4, .raw (.int .i64 (s.1 : Nat)))]) (fun _ => [(0, roZ off sc)]) _ (fun s => sc.length - s.1) [] (0, 0) ⟨Nat.zero_le _, Nat.zero_le _⟩ rfl (by repeat (first | exact HasT.nil | refine HasT.cons rfl rfl rfl ?_)) (by exact .roz rfl rfl .nil) rfl (fun _ h => h) ?_
  rintro ⟨i, m⟩ ⟨hi, hm⟩
  dsimp only at hi hm ⊢
  repeat (first | refine C.seq ?_ | refine C.region ?_ | refine R.zb ttok ?_ | refine R.zu ttok ?_ | refine R.zc ttok ?_ | refine R.za ttok ?_ | refine R.zx ?_ | refine R.zl ttok ?_ | refine R.zs ttok ?_ | refine R.z ttok ?_ | refine R.zk ?_ | refine R.zn ?_ | refine R.done ?_ | refine X.then ?_ | refine C.block ?_ | refine C.ret ?_ | refine C.skip ?_ | refine C.exit ?_ | refine X.pass_ret ?_ | refine X.pass_exit ?_ | refine X.block_normal ?_ | refine X.block_ret ?_ | refine X.block_exit ?_ | refine C.zt ?_ | refine C.zf ?_ | refine X.zo ?_)
  by_cases hlt : (i : Int) < (sc.length : Nat)
  · rw [decide_eq_true hlt]
    have hlt : i < sc.length := by omega
    repeat (first | refine C.seq ?_ | refine C.region ?_ | refine R.zb ttok ?_ | refine R.zu ttok ?_ | refine R.zc ttok ?_ | refine R.za ttok ?_ | refine R.zx ?_ | refine R.zl ttok ?_ | refine R.zs ttok ?_ | refine R.z ttok ?_ | refine R.zk ?_ | refine R.zn ?_ | refine R.done ?_ | refine X.then ?_ | refine C.block ?_ | refine C.ret ?_ | refine C.skip ?_ | refine C.exit ?_ | refine X.pass_ret ?_ | refine X.pass_exit ?_ | refine X.block_normal ?_ | refine X.block_ret ?_ | refine X.block_exit ?_ | refine C.zt ?_ | refine C.zf ?_ | refine X.zo ?_)
    refine R.ix1 ttok i rfl rfl rfl rfl rfl rfl rfl hlt (⟨by omega, by omega⟩ : off ≤ off + i * 6 ∧ off + i * 6 < off + sc.length * 6) rfl ?_
    repeat (first | refine C.seq ?_ | refine C.region ?_ | refine R.zb ttok ?_ | refine R.zu ttok ?_ | refine R.zc ttok ?_ | refine R.za ttok ?_ | refine R.zx ?_ | refine R.zl ttok ?_ | refine R.zs ttok ?_ | refine R.z ttok ?_ | refine R.zk ?_ | refine R.zn ?_ | refine R.done ?_ | refine X.then ?_ | refine C.block ?_ | refine C.ret ?_ | refine C.skip ?_ | refine C.exit ?_ | refine X.pass_ret ?_ | refine X.pass_exit ?_ | refine X.block_normal ?_ | refine X.block_ret ?_ | refine X.block_exit ?_ | refine C.zt ?_ | refine C.zf ?_ | refine X.zo ?_)
    refine R.ldr1 (v := .raw (.string (sc.getD i StZ.no).key)) ttok i rfl rfl rfl rfl rfl rfl rfl rfl (by decide) (by omega) ?_
    repeat (first | refine C.seq ?_ | refine C.region ?_ | refine R.zb ttok ?_ | refine R.zu ttok ?_ | refine R.zc ttok ?_ | refine R.za ttok ?_ | refine R.zx ?_ | refine R.zl ttok ?_ | refine R.zs ttok ?_ | refine R.z ttok ?_ | refine R.zk ?_ | refine R.zn ?_ | refine R.done ?_ | refine X.then ?_ | refine C.block ?_ | refine C.ret ?_ | refine C.skip ?_ | refine C.exit ?_ | refine X.pass_ret ?_ | refine X.pass_exit ?_ | refine X.block_normal ?_ | refine X.block_ret ?_ | refine X.block_exit ?_ | refine C.zt ?_ | refine C.zf ?_ | refine X.zo ?_)
    by_cases hk : ((sc.getD i StZ.no).key.size : Int) > 50000
    · rw [decide_eq_true hk]
      repeat (first | refine C.seq ?_ | refine C.region ?_ | refine R.zb ttok ?_ | refine R.zu ttok ?_ | refine R.zc ttok ?_ | refine R.za ttok ?_ | refine R.zx ?_ | refine R.zl ttok ?_ | refine R.zs ttok ?_ | refine R.z ttok ?_ | refine R.zk ?_ | refine R.zn ?_ | refine R.done ?_ | refine X.then ?_ | refine C.block ?_ | refine C.ret ?_ | refine C.skip ?_ | refine C.exit ?_ | refine X.pass_ret ?_ | refine X.pass_exit ?_ | refine X.block_normal ?_ | refine X.block_ret ?_ | refine X.block_exit ?_ | refine C.zt ?_ | refine C.zf ?_ | refine X.zo ?_)
      refine X.fin ttok true [] (fun h => by cases h) rfl rfl rfl (by repeat (first | exact HasH.nil | refine HasH.same rfl rfl rfl trivial ?_ | refine HasH.same rfl rfl rfl rfl ?_ | refine HasH.same rfl rfl rfl (fun _ _ => rfl) ?_ | refine HasH.ros rfl rfl ?_)) _ (by first | exact .inl rfl | exact .inr rfl)
    rw [decide_eq_false hk]
    repeat (first | refine C.seq ?_ | refine C.region ?_ | refine R.zb ttok ?_ | refine R.zu ttok ?_ | refine R.zc ttok ?_ | refine R.za ttok ?_ | refine R.zx ?_ | refine R.zl ttok ?_ | refine R.zs ttok ?_ | refine R.z ttok ?_ | refine R.zk ?_ | refine R.zn ?_ | refine R.done ?_ | refine X.then ?_ | refine C.block ?_ | refine C.ret ?_ | refine C.skip ?_ | refine C.exit ?_ | refine X.pass_ret ?_ | refine X.pass_exit ?_ | refine X.block_normal ?_ | refine X.block_ret ?_ | refine X.block_exit ?_ | refine C.zt ?_ | refine C.zf ?_ | refine X.zo ?_)
    refine R.ix1 ttok i rfl rfl rfl rfl rfl rfl rfl hlt (⟨by omega, by omega⟩ : off ≤ off + i * 6 ∧ off + i * 6 < off + sc.length * 6) rfl ?_
    repeat (first | refine C.seq ?_ | refine C.region ?_ | refine R.zb ttok ?_ | refine R.zu ttok ?_ | refine R.zc ttok ?_ | refine R.za ttok ?_ | refine R.zx ?_ | refine R.zl ttok ?_ | refine R.zs ttok ?_ | refine R.z ttok ?_ | refine R.zk ?_ | refine R.zn ?_ | refine R.done ?_ | refine X.then ?_ | refine C.block ?_ | refine C.ret ?_ | refine C.skip ?_ | refine C.exit ?_ | refine X.pass_ret ?_ | refine X.pass_exit ?_ | refine X.block_normal ?_ | refine X.block_ret ?_ | refine X.block_exit ?_ | refine C.zt ?_ | refine C.zf ?_ | refine X.zo ?_)
    refine R.ldr1 (v := .raw (.string (sc.getD i StZ.no).to)) ttok i rfl rfl rfl rfl rfl rfl rfl rfl (by decide) (by omega) ?_
    repeat (first | refine C.seq ?_ | refine C.region ?_ | refine R.zb ttok ?_ | refine R.zu ttok ?_ | refine R.zc ttok ?_ | refine R.za ttok ?_ | refine R.zx ?_ | refine R.zl ttok ?_ | refine R.zs ttok ?_ | refine R.z ttok ?_ | refine R.zk ?_ | refine R.zn ?_ | refine R.done ?_ | refine X.then ?_ | refine C.block ?_ | refine C.ret ?_ | refine C.skip ?_ | refine C.exit ?_ | refine X.pass_ret ?_ | refine X.pass_exit ?_ | refine X.block_normal ?_ | refine X.block_ret ?_ | refine X.block_exit ?_ | refine C.zt ?_ | refine C.zf ?_ | refine X.zo ?_)
    by_cases hk2 : ((sc.getD i StZ.no).to.size : Int) > 50000
    · rw [decide_eq_true hk2]
      repeat (first | refine C.seq ?_ | refine C.region ?_ | refine R.zb ttok ?_ | refine R.zu ttok ?_ | refine R.zc ttok ?_ | refine R.za ttok ?_ | refine R.zx ?_ | refine R.zl ttok ?_ | refine R.zs ttok ?_ | refine R.z ttok ?_ | refine R.zk ?_ | refine R.zn ?_ | refine R.done ?_ | refine X.then ?_ | refine C.block ?_ | refine C.ret ?_ | refine C.skip ?_ | refine C.exit ?_ | refine X.pass_ret ?_ | refine X.pass_exit ?_ | refine X.block_normal ?_ | refine X.block_ret ?_ | refine X.block_exit ?_ | refine C.zt ?_ | refine C.zf ?_ | refine X.zo ?_)
      refine X.fin ttok true [] (fun h => by cases h) rfl rfl rfl (by repeat (first | exact HasH.nil | refine HasH.same rfl rfl rfl trivial ?_ | refine HasH.same rfl rfl rfl rfl ?_ | refine HasH.same rfl rfl rfl (fun _ _ => rfl) ?_ | refine HasH.ros rfl rfl ?_)) _ (by first | exact .inl rfl | exact .inr rfl)
    rw [decide_eq_false hk2]
    repeat (first | refine C.seq ?_ | refine C.region ?_ | refine R.zb ttok ?_ | refine R.zu ttok ?_ | refine R.zc ttok ?_ | refine R.za ttok ?_ | refine R.zx ?_ | refine R.zl ttok ?_ | refine R.zs ttok ?_ | refine R.z ttok ?_ | refine R.zk ?_ | refine R.zn ?_ | refine R.done ?_ | refine X.then ?_ | refine C.block ?_ | refine C.ret ?_ | refine C.skip ?_ | refine C.exit ?_ | refine X.pass_ret ?_ | refine X.pass_exit ?_ | refine X.block_normal ?_ | refine X.block_ret ?_ | refine X.block_exit ?_ | refine C.zt ?_ | refine C.zf ?_ | refine X.zo ?_)
    refine R.ix1 ttok i rfl rfl rfl rfl rfl rfl rfl hlt (⟨by omega, by omega⟩ : off ≤ off + i * 6 ∧ off + i * 6 < off + sc.length * 6) rfl ?_
    repeat (first | refine C.seq ?_ | refine C.region ?_ | refine R.zb ttok ?_ | refine R.zu ttok ?_ | refine R.zc ttok ?_ | refine R.za ttok ?_ | refine R.zx ?_ | refine R.zl ttok ?_ | refine R.zs ttok ?_ | refine R.z ttok ?_ | refine R.zk ?_ | refine R.zn ?_ | refine R.done ?_ | refine X.then ?_ | refine C.block ?_ | refine C.ret ?_ | refine C.skip ?_ | refine C.exit ?_ | refine X.pass_ret ?_ | refine X.pass_exit ?_ | refine X.block_normal ?_ | refine X.block_ret ?_ | refine X.block_exit ?_ | refine C.zt ?_ | refine C.zf ?_ | refine X.zo ?_)
    refine R.ldr1 (v := .raw (.string (sc.getD i StZ.no).other)) ttok i rfl rfl rfl rfl rfl rfl rfl rfl (by decide) (by omega) ?_
    repeat (first | refine C.seq ?_ | refine C.region ?_ | refine R.zb ttok ?_ | refine R.zu ttok ?_ | refine R.zc ttok ?_ | refine R.za ttok ?_ | refine R.zx ?_ | refine R.zl ttok ?_ | refine R.zs ttok ?_ | refine R.z ttok ?_ | refine R.zk ?_ | refine R.zn ?_ | refine R.done ?_ | refine X.then ?_ | refine C.block ?_ | refine C.ret ?_ | refine C.skip ?_ | refine C.exit ?_ | refine X.pass_ret ?_ | refine X.pass_exit ?_ | refine X.block_normal ?_ | refine X.block_ret ?_ | refine X.block_exit ?_ | refine C.zt ?_ | refine C.zf ?_ | refine X.zo ?_)
    by_cases hk3 : ((sc.getD i StZ.no).other.size : Int) > 50000
    · rw [decide_eq_true hk3]
      repeat (first | refine C.seq ?_ | refine C.region ?_ | refine R.zb ttok ?_ | refine R.zu ttok ?_ | refine R.zc ttok ?_ | refine R.za ttok ?_ | refine R.zx ?_ | refine R.zl ttok ?_ | refine R.zs ttok ?_ | refine R.z ttok ?_ | refine R.zk ?_ | refine R.zn ?_ | refine R.done ?_ | refine X.then ?_ | refine C.block ?_ | refine C.ret ?_ | refine C.skip ?_ | refine C.exit ?_ | refine X.pass_ret ?_ | refine X.pass_exit ?_ | refine X.block_normal ?_ | refine X.block_ret ?_ | refine X.block_exit ?_ | refine C.zt ?_ | refine C.zf ?_ | refine X.zo ?_)
      refine X.fin ttok true [] (fun h => by cases h) rfl rfl rfl (by repeat (first | exact HasH.nil | refine HasH.same rfl rfl rfl trivial ?_ | refine HasH.same rfl rfl rfl rfl ?_ | refine HasH.same rfl rfl rfl (fun _ _ => rfl) ?_ | refine HasH.ros rfl rfl ?_)) _ (by first | exact .inl rfl | exact .inr rfl)
    rw [decide_eq_false hk3]
    repeat (first | refine C.seq ?_ | refine C.region ?_ | refine R.zb ttok ?_ | refine R.zu ttok ?_ | refine R.zc ttok ?_ | refine R.za ttok ?_ | refine R.zx ?_ | refine R.zl ttok ?_ | refine R.zs ttok ?_ | refine R.z ttok ?_ | refine R.zk ?_ | refine R.zn ?_ | refine R.done ?_ | refine X.then ?_ | refine C.block ?_ | refine C.ret ?_ | refine C.skip ?_ | refine C.exit ?_ | refine X.pass_ret ?_ | refine X.pass_exit ?_ | refine X.block_normal ?_ | refine X.block_ret ?_ | refine X.block_exit ?_ | refine C.zt ?_ | refine C.zf ?_ | refine X.zo ?_)
    refine C.draw [[], [], [], [1, 2], [1, 2, 3], [1, 2, 3, 4], [1, 2, 3, 4, 5], [0, 1, 2, 3, 4, 5, 6], [], [], [8, 9], [8, 9, 10], [8, 9, 10, 11], [8, 9, 10, 11, 12], [0, 1, 2, 3, 4, 5, 6, 7, 8, 9, 10, 11, 12, 13], [], [], [15, 16], [15, 16, 17], [15, 16, 17, 18], [15, 16, 17, 18, 19], [0, 1, 2, 3, 4, 5, 6, 7, 8, 9, 10, 11, 12, 13, 14, 15, 16, 17, 18, 19, 20], [0, 1, 2, 3, 4, 5, 6, 7, 8, 9, 10, 11, 12, 13, 14, 15, 16, 17, 18, 19, 20, 21]] [] (by kernel_rfl) (by kernel_rfl) ?_
    repeat (first | refine C.seq ?_ | refine C.region ?_ | refine R.zb ttok ?_ | refine R.zu ttok ?_ | refine R.zc ttok ?_ | refine R.za ttok ?_ | refine R.zx ?_ | refine R.zl ttok ?_ | refine R.zs ttok ?_ | refine R.z ttok ?_ | refine R.zk ?_ | refine R.zn ?_ | refine R.done ?_ | refine X.then ?_ | refine C.block ?_ | refine C.ret ?_ | refine C.skip ?_ | refine C.exit ?_ | refine X.pass_ret ?_ | refine X.pass_exit ?_ | refine X.block_normal ?_ | refine X.block_ret ?_ | refine X.block_exit ?_ | refine C.zt ?_ | refine C.zf ?_ | refine X.zo ?_)
    refine R.ix1 ttok i rfl rfl rfl rfl rfl rfl rfl hlt (⟨by omega, by omega⟩ : off ≤ off + i * 6 ∧ off + i * 6 < off + sc.length * 6) rfl ?_
    repeat (first | refine C.seq ?_ | refine C.region ?_ | refine R.zb ttok ?_ | refine R.zu ttok ?_ | refine R.zc ttok ?_ | refine R.za ttok ?_ | refine R.zx ?_ | refine R.zl ttok ?_ | refine R.zs ttok ?_ | refine R.z ttok ?_ | refine R.zk ?_ | refine R.zn ?_ | refine R.done ?_ | refine X.then ?_ | refine C.block ?_ | refine C.ret ?_ | refine C.skip ?_ | refine C.exit ?_ | refine X.pass_ret ?_ | refine X.pass_exit ?_ | refine X.block_normal ?_ | refine X.block_ret ?_ | refine X.block_exit ?_ | refine C.zt ?_ | refine C.zf ?_ | refine X.zo ?_)
    refine R.ldr1 (v := .raw (.string (sc.getD i StZ.no).key)) ttok i rfl rfl rfl rfl rfl rfl rfl rfl (by decide) (by omega) ?_
    repeat (first | refine C.seq ?_ | refine C.region ?_ | refine R.zb ttok ?_ | refine R.zu ttok ?_ | refine R.zc ttok ?_ | refine R.za ttok ?_ | refine R.zx ?_ | refine R.zl ttok ?_ | refine R.zs ttok ?_ | refine R.z ttok ?_ | refine R.zk ?_ | refine R.zn ?_ | refine R.done ?_ | refine X.then ?_ | refine C.block ?_ | refine C.ret ?_ | refine C.skip ?_ | refine C.exit ?_ | refine X.pass_ret ?_ | refine X.pass_exit ?_ | refine X.block_normal ?_ | refine X.block_ret ?_ | refine X.block_exit ?_ | refine C.zt ?_ | refine C.zf ?_ | refine X.zo ?_)
    refine R.ix1 ttok i rfl rfl rfl rfl rfl rfl rfl hlt (⟨by omega, by omega⟩ : off ≤ off + i * 6 ∧ off + i * 6 < off + sc.length * 6) rfl ?_
    repeat (first | refine C.seq ?_ | refine C.region ?_ | refine R.zb ttok ?_ | refine R.zu ttok ?_ | refine R.zc ttok ?_ | refine R.za ttok ?_ | refine R.zx ?_ | refine R.zl ttok ?_ | refine R.zs ttok ?_ | refine R.z ttok ?_ | refine R.zk ?_ | refine R.zn ?_ | refine R.done ?_ | refine X.then ?_ | refine C.block ?_ | refine C.ret ?_ | refine C.skip ?_ | refine C.exit ?_ | refine X.pass_ret ?_ | refine X.pass_exit ?_ | refine X.block_normal ?_ | refine X.block_ret ?_ | refine X.block_exit ?_ | refine C.zt ?_ | refine C.zf ?_ | refine X.zo ?_)
    refine R.ldr1 (v := .raw (.string (sc.getD i StZ.no).to)) ttok i rfl rfl rfl rfl rfl rfl rfl rfl (by decide) (by omega) ?_
    repeat (first | refine C.seq ?_ | refine C.region ?_ | refine R.zb ttok ?_ | refine R.zu ttok ?_ | refine R.zc ttok ?_ | refine R.za ttok ?_ | refine R.zx ?_ | refine R.zl ttok ?_ | refine R.zs ttok ?_ | refine R.z ttok ?_ | refine R.zk ?_ | refine R.zn ?_ | refine R.done ?_ | refine X.then ?_ | refine C.block ?_ | refine C.ret ?_ | refine C.skip ?_ | refine C.exit ?_ | refine X.pass_ret ?_ | refine X.pass_exit ?_ | refine X.block_normal ?_ | refine X.block_ret ?_ | refine X.block_exit ?_ | refine C.zt ?_ | refine C.zf ?_ | refine X.zo ?_)
    refine R.ix1 ttok i rfl rfl rfl rfl rfl rfl rfl hlt (⟨by omega, by omega⟩ : off ≤ off + i * 6 ∧ off + i * 6 < off + sc.length * 6) rfl ?_
    repeat (first | refine C.seq ?_ | refine C.region ?_ | refine R.zb ttok ?_ | refine R.zu ttok ?_ | refine R.zc ttok ?_ | refine R.za ttok ?_ | refine R.zx ?_ | refine R.zl ttok ?_ | refine R.zs ttok ?_ | refine R.z ttok ?_ | refine R.zk ?_ | refine R.zn ?_ | refine R.done ?_ | refine X.then ?_ | refine C.block ?_ | refine C.ret ?_ | refine C.skip ?_ | refine C.exit ?_ | refine X.pass_ret ?_ | refine X.pass_exit ?_ | refine X.block_normal ?_ | refine X.block_ret ?_ | refine X.block_exit ?_ | refine C.zt ?_ | refine C.zf ?_ | refine X.zo ?_)
    refine R.ldr1 (v := .raw (.string (sc.getD i StZ.no).other)) ttok i rfl rfl rfl rfl rfl rfl rfl rfl (by decide) (by omega) ?_
    repeat (first | refine C.seq ?_ | refine C.region ?_ | refine R.zb ttok ?_ | refine R.zu ttok ?_ | refine R.zc ttok ?_ | refine R.za ttok ?_ | refine R.zx ?_ | refine R.zl ttok ?_ | refine R.zs ttok ?_ | refine R.z ttok ?_ | refine R.zk ?_ | refine R.zn ?_ | refine R.done ?_ | refine X.then ?_ | refine C.block ?_ | refine C.ret ?_ | refine C.skip ?_ | refine C.exit ?_ | refine X.pass_ret ?_ | refine X.pass_exit ?_ | refine X.block_normal ?_ | refine X.block_ret ?_ | refine X.block_exit ?_ | refine C.zt ?_ | refine C.zf ?_ | refine X.zo ?_)
    exact X.back [] (i + 1, m + (sc.getD i StZ.no).key.size + (sc.getD i StZ.no).to.size + (sc.getD i StZ.no).other.size) ⟨hlt, by dsimp only; omega⟩ (by dsimp only; omega) rfl (by repeat (first | exact HasT.nil | refine HasT.cons rfl rfl rfl ?_)) (by exact .roz rfl rfl .nil) rfl (fun _ h => h)
  · rw [decide_eq_false hlt]
    repeat (first | refine C.seq ?_ | refine C.region ?_ | refine R.zb ttok ?_ | refine R.zu ttok ?_ | refine R.zc ttok ?_ | refine R.za ttok ?_ | refine R.zx ?_ | refine R.zl ttok ?_ | refine R.zs ttok ?_ | refine R.z ttok ?_ | refine R.zk ?_ | refine R.zn ?_ | refine R.done ?_ | refine X.then ?_ | refine C.block ?_ | refine C.ret ?_ | refine C.skip ?_ | refine C.exit ?_ | refine X.pass_ret ?_ | refine X.pass_exit ?_ | refine X.block_normal ?_ | refine X.block_ret ?_ | refine X.block_exit ?_ | refine C.zt ?_ | refine C.zf ?_ | refine X.zo ?_)
    refine X.fin ttok (decide ((m : Int) > 50000)) [] (fun _ => by omega) rfl rfl rfl (by repeat (first | exact HasH.nil | refine HasH.same rfl rfl rfl trivial ?_ | refine HasH.same rfl rfl rfl rfl ?_ | refine HasH.same rfl rfl rfl (fun _ _ => rfl) ?_ | refine HasH.ros rfl rfl ?_)) _ (by first | exact .inl rfl | exact .inr rfl)
end Go.Proofs.Yteabncomclgncaa
/- zigzag: what is held, what is live; plain -/
namespace Go.Proofs.Yteabncomclgncaa
set_option linter.unusedVariables false
set_option linter.unusedSimpArgs false
open Go.RowKit
set_option maxRecDepth 100000
set_option maxHeartbeats 4000000
theorem above_iff {l : ZL} (hA : Asc l) (k : ByteArray) {i : Nat} (hi : i < l.length) : gtB (l.getD i zG).1 k = decide (aboveN l k ≤ i) := by
  rw [gt_cmp]
  refine decide_eq_decide.2 ?_
  have h1 := plc_iff hA k zG i hi
  unfold aboveN
  cases hk : hasK l k with
  | false =>
    rw [if_neg (by decide)]
    constructor
    · intro h
      rcases Nat.lt_or_ge i (plc l k) with h2 | h2
      · have := h1.2 h2
        rw [cmpS_swap] at h
        omega
      · exact h2
    · intro h
      have h2 : ¬ cmpS (l.getD i zG).1 k < 0 := fun e => by have := h1.1 e; omega
      have h3 : cmpS (l.getD i zG).1 k ≠ 0 := fun e => by
        have e2 := cmpS_zero.1 e
        have := has_at hA hi
        rw [e2, hk] at this; cases this
      rw [cmpS_swap]
      omega
  | true =>
    rw [if_pos rfl]
    have hkk := hasK_key hk
    have hlt := (hasK_lt hk).1
    constructor
    · intro h
      rcases Nat.lt_or_ge i (plc l k) with h2 | h2
      · have := h1.2 h2
        rw [cmpS_swap] at h
        omega
      · rcases Nat.eq_or_lt_of_le h2 with h3 | h3
        · subst h3
          rw [hkk, cmpS_self] at h
          omega
        · exact h3
    · intro h
      have := asc_lt hA (i := plc l k) (j := i) (by omega) hi
      rwa [hkk] at this
theorem segF_all (f : PIZ → Bool) (l : ZL) (i : Nat) : segF f l i l.length = (l.drop i).filter f := by unfold segF; rw [List.take_length]
/-- what of a rising list's part is above a text -/
theorem seg_behind {l : ZL} (hA : Asc l) (f : PIZ → Bool) (ab : ByteArray) : segF f l (aboveN l ab) l.length = (l.filter f).drop (bhI (keysZ (l.filter f)) ab) := by
  rw [segF_all]
  have hs : l.filter f = (l.take (aboveN l ab)).filter f ++ (l.drop (aboveN l ab)).filter f := by rw [← List.filter_append, List.take_append_drop]
  have hle := aboveN_le l ab
  have h1 : ∀ p ∈ (l.take (aboveN l ab)).filter f, gtB p.1 ab = false := fun p hp => by
    obtain ⟨i, hi, rfl⟩ := List.mem_iff_getElem.1 (List.mem_filter.1 hp).1
    rw [List.length_take] at hi
    have := above_iff hA ab (i := i) (by omega)
    rw [zG_get (by omega)] at this
    rw [List.getElem_take, this]
    exact decide_eq_false (by omega)
  have h2 : ∀ p ∈ (l.drop (aboveN l ab)).filter f, gtB p.1 ab = true := fun p hp => by
    obtain ⟨i, hi, rfl⟩ := List.mem_iff_getElem.1 (List.mem_filter.1 hp).1
    rw [List.length_drop] at hi
    have := above_iff hA ab (i := aboveN l ab + i) (by omega)
    rw [zG_get (by omega)] at this
    rw [List.getElem_drop, this]
    exact decide_eq_true (by omega)
  generalize (l.take (aboveN l ab)).filter f = x at *
  generalize (l.drop (aboveN l ab)).filter f = y at *
  rw [hs]
  have hb : bhI (keysZ (x ++ y)) ab = x.length := by
    unfold bhI keysZ
    rw [List.findIdx_map]
    have hx : x.findIdx ((fun k => gtB k ab) ∘ (·.1)) = x.length := List.findIdx_eq_length.2 fun p hp => h1 p hp
    rw [List.findIdx_append, hx, if_neg (Nat.lt_irrefl _)]
    cases y with
    | nil => simp
    | cons q y => rw [List.findIdx_cons]; have := h2 q List.mem_cons_self; simp [Function.comp, this]
  rw [hb, List.drop_left]
theorem bhI_map (l : ZL) (ab : ByteArray) : (keysZ l).length = l.length := List.length_map _
abbrev heldL (l : ZL) : ZL := l.filter heldZ
abbrev liveL (l : ZL) : ZL := l.filter liveZ
theorem asc_zsw {l : ZL} (hA : Asc l) (g : Sl Int → Sl Int) : Asc (zsw l g) := (asc_g hA g).sublist List.filter_sublist
theorem zsw_len (l : ZL) (g : Sl Int → Sl Int) : (zsw l g).length ≤ l.length := by
  unfold zsw
  refine Nat.le_trans (List.length_filter_le _ _) ?_
  rw [List.length_map]; exact Nat.le_refl _
theorem mark_held (s : Sl Int) : heldB s.mark = s.live ∧ s.mark.live = s.live ∧ heldV s.mark = s.get s.rd := by
  obtain ⟨c0, c1, h0, h1, rd, wr⟩ := s
  cases rd <;> exact ⟨rfl, rfl, rfl⟩
theorem held_mark (l : ZL) : heldL (zsw l Sl.mark) = (liveL l).map (gP Sl.mark) := by
  unfold heldL zsw
  rw [List.filter_filter, List.filter_map]
  congr 1
  refine List.filter_congr fun p _ => ?_
  show (heldB p.2.2.mark && p.2.2.mark.live) = p.2.2.live
  rw [(mark_held p.2.2).1, (mark_held p.2.2).2.1, Bool.and_self]
theorem held_markK (l : ZL) : keysZ (heldL (zsw l Sl.mark)) = keysZ (liveL l) := by
  rw [held_mark]; unfold keysZ; rw [List.map_map]; rfl
theorem held_markV (l : ZL) : hvZ (heldL (zsw l Sl.mark)) = lvZ (liveL l) := by
  rw [held_mark]; unfold hvZ lvZ; rw [List.map_map]
  exact List.map_congr_left fun p _ => (mark_held p.2.2).2.2
theorem asc_zup {l : ZL} (hA : Asc l) {i : Nat} (h : i < l.length) (s : Sl Int) : Asc (zup l i s) := asc_keys (zup_keys l i s h) hA
theorem asc_put {l : ZL} (hA : Asc l) (k : ByteArray) (v : Int) (b : Nat) : Asc (zput l k v b) := by
  unfold zput
  split
  · rename_i h; exact asc_zup hA (hasK_lt h).1 _
  · rename_i h; exact asc_ins hA k _ (by simpa using h)
theorem put_le (l : ZL) (k : ByteArray) (v : Int) (b : Nat) : (zput l k v b).length ≤ l.length + 1 := by
  unfold zput
  split
  · rw [zup_len]; omega
  · rw [insL_len]; exact Nat.le_refl _
theorem asc_zdel {l : ZL} (hA : Asc l) (k : ByteArray) (mk : Bool) : Asc (zdel l k mk) := by
  unfold zdel
  split
  · rename_i h
    have hk : hasK l k = true := by
      unfold isV at h
      split at h
      · assumption
      · cases h
    cases mk with
    | true => rw [if_pos rfl]; exact asc_zup hA (hasK_lt hk).1 _
    | false => rw [if_neg (by decide)]; exact hA.sublist (del_sub l _)
  · exact hA
theorem asc_wr {l : ZL} (hA : Asc l) (x : StZ) (mk : Bool) (b : Nat) : Asc (wrZ x l mk b) := by
  unfold wrZ
  split
  · exact asc_zdel hA _ _
  · split
    · exact asc_put hA _ _ _
    · exact hA
theorem wr_le (x : StZ) (l : ZL) (mk : Bool) (b : Nat) : (wrZ x l mk b).length ≤ l.length + 1 := by
  unfold wrZ
  split
  · have := zdel_le l x.key mk; omega
  · split
    · exact put_le _ _ _ _
    · omega
theorem wrN_bd (x : StZ) (l : ZL) (hs : Int) : hs - 1 ≤ wrN x l hs ∧ wrN x l hs ≤ hs + 1 := by
  unfold wrN zdelN zputN
  split
  · split
    · rw [layN_eq]; simp [b01]; omega
    · omega
  · split
    · rw [layN_eq]; cases isV l x.key <;> simp [b01] <;> omega
    · omega
theorem zdelN_bd (l : ZL) (k : ByteArray) (hs : Int) : hs - 1 ≤ zdelN l k hs ∧ zdelN l k hs ≤ hs + 1 := by
  unfold zdelN
  split
  · rw [layN_eq]; simp [b01]; omega
  · omega
/-! what is held does not change while it is -/
theorem lay_held (s : Sl Int) (v : Int) (h : Bool) : heldB (s.lay v h) = heldB s ∧ heldV (s.lay v h) = heldV s := by
  obtain ⟨c0, c1, h0, h1, rd, wr⟩ := s
  cases wr <;> exact ⟨rfl, rfl⟩
theorem held_up {l : ZL} {i : Nat} (h : i < l.length) {s : Sl Int} (h1 : heldB s = heldB (l.getD i zG).2.2) (h2 : heldV s = heldV (l.getD i zG).2.2) : keysZ (heldL (zup l i s)) = keysZ (heldL l) ∧ hvZ (heldL (zup l i s)) = hvZ (heldL l) := by
  have e := del_split h
  rw [zup_split h s]
  generalize l.getD i zG = p at *
  generalize l.take i = x at *
  generalize l.drop (i + 1) = y at *
  subst e
  unfold heldL keysZ hvZ
  simp only [List.filter_append, List.filter_cons, List.map_append]
  rw [show heldZ (p.1, p.2.1, s) = heldZ p from h1]
  cases heldZ p with
  | true => simp [h2]
  | false => simp
theorem held_wr {l : ZL} (hA : Asc l) (x : StZ) (b : Nat) : keysZ (heldL (wrZ x l true b)) = keysZ (heldL l) ∧ hvZ (heldL (wrZ x l true b)) = hvZ (heldL l) := by
  unfold wrZ
  split
  · unfold zdel
    split
    · rename_i h
      have hk : hasK l x.key = true := by
        unfold isV at h
        split at h
        · assumption
        · cases h
      rw [if_pos rfl]
      exact held_up (hasK_lt hk).1 (lay_held _ _ _).1 (lay_held _ _ _).2
    · exact ⟨rfl, rfl⟩
  · split
    · unfold zput
      split
      · rename_i h
        exact held_up (hasK_lt h).1 (lay_held _ _ _).1 (lay_held _ _ _).2
      · unfold insL heldL keysZ hvZ
        have hn : heldZ (x.key, b, newS.lay x.v true) = false := rfl
        simp only [List.filter_append, List.filter_cons, hn]
        constructor
        · conv => rhs; rw [← List.take_append_drop (plc l x.key) l, List.filter_append]
          rfl
        · conv => rhs; rw [← List.take_append_drop (plc l x.key) l, List.filter_append]
          rfl
    · exact ⟨rfl, rfl⟩
end Go.Proofs.Yteabncomclgncaa
