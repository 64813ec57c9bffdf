/- Texts of the claim, merged: only what the theorem needs. -/
import Derived.Test.YteabncomclgncaaSop
namespace Go.Proofs.Yteabncomclgncaa
set_option linter.unusedVariables false
set_option linter.unusedSimpArgs false
open Go.RowKit
set_option maxRecDepth 100000
set_option maxHeartbeats 8000000
abbrev orF : FuncId := 22
theorem or_call (args : Array Value) (w : World) : (callFunc orF args).run Try.prog w = .ok (.enter orF args) w := Try.call22 args w
abbrev rgV (l : ZL) (fr to : ByteArray) : VL := (VZ l).filter (inV fr to)
theorem rg_keys {l : ZL} (hA : Asc l) {fr to : ByteArray} {j : Nat} (h : rgOk l fr to j) : keysZ (segF liveZ l (plc l fr) j) = (rgV l fr to).map Prod.fst ∧ lvZ (segF liveZ l (plc l fr) j) = (rgV l fr to).map Prod.snd := by
  have e := rg_eq hA h
  have e1 := congrArg (List.map Prod.fst) e
  have e2 := congrArg (List.map Prod.snd) e
  rw [List.map_map] at e1 e2
  exact ⟨e1, e2⟩
section
variable (l : ZL) (c : Nat) (fr to : ByteArray) (ka : List ByteArray) (va : List Int) (ca cb : Nat)
theorem ord1_spec (key : ByteArray) (v : Int) (hs : Int) (mk : Bool) (i : Nat) (hA : Asc l) (hl : l.length ≤ 601) (hi : i ≤ 1000000) (hK : (rgV l fr to).map Prod.fst = ka) (hV : (rgV l fr to).map Prod.snd = va) :
    SpecF Try.prog 22 [.raw (.string key), .raw (.int .i64 v), .ptr 5 0 0 0, .ptr 6 0 0 0, .ptr 7 0 0 0, .ptr 8 0 0 0, .ptr 9 0 0 0]
    [tbAZ 1 l.length c hs mk, roTZ l, one0 (.ptr 0 0 0 0), one0 (.raw (.string fr)), one0 (.raw (.string to)), .cells [.raw (.int .i64 (i : Nat))] intT, one0 (.fn rsZ [.ptr 2 0 0 0, .ptr 3 0 0 0, .ptr 4 0 0 0]), .cells [.raw (.bool true)] 4, one0 (.sl 10 1 0 ka.length ca), one0 (.sl 11 1 0 ka.length cb), roK ka, roV va] 12 (zF l) (σ := Unit) (fun _ => True) (fun _ => .raw (.bool true)) (fun _ => [(5, .cells [.raw (.int .i64 ((i + 1 : Nat) : Int))] intT), (7, .cells [.raw (.bool true)] 4)]) (fun _ => zF l) := by
  refine SpecF.of Try.func22 rfl Try.ntmps22 rfl (bdl_cons (roA_bd rfl) (bdl_cons (fun _ _ => rfl) (bdl_cons (roA_bd rfl) (bdl_cons (roA_bd rfl) (bdl_cons (roA_bd rfl) (bdl_cons rfl (bdl_cons (roA_bd rfl) (bdl_cons rfl (bdl_cons (roA_bd rfl) (bdl_cons (roA_bd rfl) (bdl_cons (fun _ _ => rfl) (bdl_cons (fun _ _ => rfl) (bdl_nil _))))))))))))) fun ρ w => ?_
  have hvk : va.length = ka.length := by rw [← hK, ← hV, List.length_map, List.length_map]
  repeat (first | refine C.seq ?_ | refine C.region ?_ | refine R.zb ttok ?_ | refine R.zu ttok ?_ | refine R.zc ttok ?_ | refine R.za ttok ?_ | refine R.zx ?_ | refine R.zl ttok ?_ | refine R.zs ttok ?_ | refine R.z ttok ?_ | refine R.zk ?_ | refine R.zn ?_ | refine R.done ?_ | refine X.then ?_ | refine C.block ?_ | refine C.ret ?_ | refine C.skip ?_ | refine C.exit ?_ | refine X.pass_ret ?_ | refine X.pass_exit ?_ | refine X.block_normal ?_ | refine X.block_ret ?_ | refine X.block_exit ?_ | refine C.zt ?_ | refine C.zf ?_ | refine X.zo ?_)
  refine R.ldo (v := .fn rsZ [.ptr 2 0 0 0, .ptr 3 0 0 0, .ptr 4 0 0 0]) ttok rfl rfl rfl rfl rfl (by kernel_rfl) Nat.one_pos ?_
  refine R.clF [0, 1, 2, 3, 4] (prsRg_spec l c fr to hs mk hA hl) (Nat.le_refl _) (fun _ _ => rfl) Try.call20 (by repeat (first | exact HasIn.nil | refine HasIn.same rfl rfl ?_ | refine HasIn.c1 rfl rfl ?_ | refine HasIn.roq rfl rfl ?_ | refine HasIn.other rfl (fun e => by cases e) (fun ρ x w hh => tab_ro hh) ?_ | refine HasIn.other rfl (fun e => by cases e) (fun ρ x w hh => tab_any hh) ?_ | refine HasIn.roAp rfl rfl ?_ | refine HasIn.other rfl (fun e => by cases e) (fun ρ x w hh => cells_any hh) ?_ | refine HasIn.other rfl (fun e => by cases e) (fun ρ x w hh => ro_any hh) ?_)) rfl rfl rfl (fun _ => rfl) rfl (by kernel_rfl) fun q hq => ?_
  have hk := rg_keys hA hq.1
  rw [hK, hV] at hk
  have hkl : ka.length ≤ 601 := by rw [← hk.1, List.length_map]; exact Nat.le_trans (segF_len _ _ _ _) hl
  rw [hk.1, hk.2] at hq ⊢
  rw [hvk]
  repeat (first | refine C.seq ?_ | refine C.region ?_ | refine R.zb ttok ?_ | refine R.zu ttok ?_ | refine R.zc ttok ?_ | refine R.za ttok ?_ | refine R.zx ?_ | refine R.zl ttok ?_ | refine R.zs ttok ?_ | refine R.z ttok ?_ | refine R.zk ?_ | refine R.zn ?_ | refine R.done ?_ | refine X.then ?_ | refine C.block ?_ | refine C.ret ?_ | refine C.skip ?_ | refine C.exit ?_ | refine X.pass_ret ?_ | refine X.pass_exit ?_ | refine X.block_normal ?_ | refine X.block_ret ?_ | refine X.block_exit ?_ | refine C.zt ?_ | refine C.zf ?_ | refine X.zo ?_)
  refine R.ldo (v := .sl 10 1 0 ka.length ca) ttok rfl rfl rfl rfl rfl (by kernel_rfl) Nat.one_pos ?_
  repeat (first | refine C.seq ?_ | refine C.region ?_ | refine R.zb ttok ?_ | refine R.zu ttok ?_ | refine R.zc ttok ?_ | refine R.za ttok ?_ | refine R.zx ?_ | refine R.zl ttok ?_ | refine R.zs ttok ?_ | refine R.z ttok ?_ | refine R.zk ?_ | refine R.zn ?_ | refine R.done ?_ | refine X.then ?_ | refine C.block ?_ | refine C.ret ?_ | refine C.skip ?_ | refine C.exit ?_ | refine X.pass_ret ?_ | refine X.pass_exit ?_ | refine X.block_normal ?_ | refine X.block_ret ?_ | refine X.block_exit ?_ | refine C.zt ?_ | refine C.zf ?_ | refine X.zo ?_)
  refine R.ldo (v := .sl 11 1 0 ka.length cb) ttok rfl rfl rfl rfl rfl (by kernel_rfl) Nat.one_pos ?_
  refine R.cl [12, 13, 10, 11] (same_spec ka ka va va 0 0 0 0 ka.length 0 _ _ _ _ (by omega) (by omega) (by omega) (by omega) (by omega) rfl rfl) Try.call23 (by repeat (first | exact HasIn.nil | refine HasIn.same rfl rfl ?_ | refine HasIn.c1 rfl rfl ?_ | refine HasIn.roq rfl rfl ?_ | refine HasIn.other rfl (fun e => by cases e) (fun ρ x w hh => tab_ro hh) ?_ | refine HasIn.other rfl (fun e => by cases e) (fun ρ x w hh => tab_any hh) ?_ | refine HasIn.roAp rfl rfl ?_ | refine HasIn.other rfl (fun e => by cases e) (fun ρ x w hh => cells_any hh) ?_ | refine HasIn.other rfl (fun e => by cases e) (fun ρ x w hh => ro_any hh) ?_)) rfl rfl rfl (fun _ => rfl) rfl (by kernel_rfl) fun _ _ => ?_
  repeat (first | refine C.seq ?_ | refine C.region ?_ | refine R.zb ttok ?_ | refine R.zu ttok ?_ | refine R.zc ttok ?_ | refine R.za ttok ?_ | refine R.zx ?_ | refine R.zl ttok ?_ | refine R.zs ttok ?_ | refine R.z ttok ?_ | refine R.zk ?_ | refine R.zn ?_ | refine R.done ?_ | refine X.then ?_ | refine C.block ?_ | refine C.ret ?_ | refine C.skip ?_ | refine C.exit ?_ | refine X.pass_ret ?_ | refine X.pass_exit ?_ | refine X.block_normal ?_ | refine X.block_ret ?_ | refine X.block_exit ?_ | refine C.zt ?_ | refine C.zf ?_ | refine X.zo ?_)
  refine X.finF ttok () [] trivial rfl rfl rfl (by repeat (first | exact HasH.nil | refine HasH.same rfl rfl rfl trivial ?_ | refine HasH.same rfl rfl rfl rfl ?_ | refine HasH.same rfl rfl rfl (fun _ _ => rfl) ?_ | refine HasH.ros rfl rfl ?_)) _ (by first | exact .inl rfl | exact .inr rfl) ?_ ?_ ?_
  · exact fun w' hf => hf.ap
  · exact fun p hp => hp
  · exact fun p hp e => ⟨p, hp, rfl⟩
theorem rgOr_spec (hs : Int) (mk : Bool) (hA : Asc l) (hl : l.length ≤ 601) (hK : (rgV l fr to).map Prod.fst = ka) (hV : (rgV l fr to).map Prod.snd = va) :
    SpecF Try.prog 48 [.fn orF [.ptr 5 0 0 0, .ptr 6 0 0 0, .ptr 7 0 0 0, .ptr 8 0 0 0, .ptr 9 0 0 0], .ptr 2 0 0 0, .ptr 3 0 0 0, .ptr 4 0 0 0]
    [tbAZ 1 l.length c hs mk, roTZ l, one0 (.ptr 0 0 0 0), one0 (.raw (.string fr)), one0 (.raw (.string to)), .cells [.raw (.int .i64 ((0 : Nat) : Int))] intT, one0 (.fn rsZ [.ptr 2 0 0 0, .ptr 3 0 0 0, .ptr 4 0 0 0]), .cells [.raw (.bool true)] 4, one0 (.sl 10 1 0 ka.length ca), one0 (.sl 11 1 0 ka.length cb), roK ka, roV va] 12 (zF l)
    (σ := Unit) (fun _ => True) (fun _ => .tup []) (fun _ => [(5, .cells [.raw (.int .i64 ((ka.length : Nat) : Int))] intT), (7, .cells [.raw (.bool true)] 4)]) (fun _ => zF l) := by
  refine SpecF.ofM Try.func48 rfl Try.ntmps48 rfl (bdl_cons (roA_bd rfl) (bdl_cons (fun _ _ => rfl) (bdl_cons (roA_bd rfl) (bdl_cons (roA_bd rfl) (bdl_cons (roA_bd rfl) (bdl_cons rfl (bdl_cons (roA_bd rfl) (bdl_cons rfl (bdl_cons (roA_bd rfl) (bdl_cons (roA_bd rfl) (bdl_cons (fun _ _ => rfl) (bdl_cons (fun _ _ => rfl) (bdl_nil _))))))))))))) fun ρ w => ?_
  repeat (first | refine C.seq ?_ | refine C.region ?_ | refine R.zb ttok ?_ | refine R.zu ttok ?_ | refine R.zc ttok ?_ | refine R.za ttok ?_ | refine R.zx ?_ | refine R.zl ttok ?_ | refine R.zs ttok ?_ | refine R.z ttok ?_ | refine R.zk ?_ | refine R.zn ?_ | refine R.done ?_ | refine X.then ?_ | refine C.block ?_ | refine C.ret ?_ | refine C.skip ?_ | refine C.exit ?_ | refine X.pass_ret ?_ | refine X.pass_exit ?_ | refine X.block_normal ?_ | refine X.block_ret ?_ | refine X.block_exit ?_ | refine C.zt ?_ | refine C.zf ?_ | refine X.zo ?_)
  refine R.ldo (v := .ptr 0 0 0 0) ttok rfl rfl rfl rfl rfl (by kernel_rfl) Nat.one_pos ?_
  repeat (first | refine C.seq ?_ | refine C.region ?_ | refine R.zb ttok ?_ | refine R.zu ttok ?_ | refine R.zc ttok ?_ | refine R.za ttok ?_ | refine R.zx ?_ | refine R.zl ttok ?_ | refine R.zs ttok ?_ | refine R.z ttok ?_ | refine R.zk ?_ | refine R.zn ?_ | refine R.done ?_ | refine X.then ?_ | refine C.block ?_ | refine C.ret ?_ | refine C.skip ?_ | refine C.exit ?_ | refine X.pass_ret ?_ | refine X.pass_exit ?_ | refine X.block_normal ?_ | refine X.block_ret ?_ | refine X.block_exit ?_ | refine C.zt ?_ | refine C.zf ?_ | refine X.zo ?_)
  refine C.draw [[], [0], [0, 1], [], [], [0, 1, 2, 3, 4]] [5] (by kernel_rfl) (by kernel_rfl) ?_
  refine R.ldo (v := .ptr 0 0 0 0) ttok rfl rfl rfl rfl rfl (by kernel_rfl) Nat.one_pos ?_
  repeat (first | refine C.seq ?_ | refine C.region ?_ | refine R.zb ttok ?_ | refine R.zu ttok ?_ | refine R.zc ttok ?_ | refine R.za ttok ?_ | refine R.zx ?_ | refine R.zl ttok ?_ | refine R.zs ttok ?_ | refine R.z ttok ?_ | refine R.zk ?_ | refine R.zn ?_ | refine R.done ?_ | refine X.then ?_ | refine C.block ?_ | refine C.ret ?_ | refine C.skip ?_ | refine C.exit ?_ | refine X.pass_ret ?_ | refine X.pass_exit ?_ | refine X.block_normal ?_ | refine X.block_ret ?_ | refine X.block_exit ?_ | refine C.zt ?_ | refine C.zf ?_ | refine X.zo ?_)
  refine R.ldo (v := .raw (.string fr)) ttok rfl rfl rfl rfl rfl (by kernel_rfl) Nat.one_pos ?_
  repeat (first | refine C.seq ?_ | refine C.region ?_ | refine R.zb ttok ?_ | refine R.zu ttok ?_ | refine R.zc ttok ?_ | refine R.za ttok ?_ | refine R.zx ?_ | refine R.zl ttok ?_ | refine R.zs ttok ?_ | refine R.z ttok ?_ | refine R.zk ?_ | refine R.zn ?_ | refine R.done ?_ | refine X.then ?_ | refine C.block ?_ | refine C.ret ?_ | refine C.skip ?_ | refine C.exit ?_ | refine X.pass_ret ?_ | refine X.pass_exit ?_ | refine X.block_normal ?_ | refine X.block_ret ?_ | refine X.block_exit ?_ | refine C.zt ?_ | refine C.zf ?_ | refine X.zo ?_)
  refine R.ldo (v := .raw (.string to)) ttok rfl rfl rfl rfl rfl (by kernel_rfl) Nat.one_pos ?_
  refine R.cl [0] (rangeT_specZ fr to) Try.call49 (by repeat (first | exact HasIn.nil | refine HasIn.same rfl rfl ?_ | refine HasIn.c1 rfl rfl ?_ | refine HasIn.roq rfl rfl ?_ | refine HasIn.other rfl (fun e => by cases e) (fun ρ x w hh => tab_ro hh) ?_ | refine HasIn.other rfl (fun e => by cases e) (fun ρ x w hh => tab_any hh) ?_ | refine HasIn.roAp rfl rfl ?_ | refine HasIn.other rfl (fun e => by cases e) (fun ρ x w hh => cells_any hh) ?_ | refine HasIn.other rfl (fun e => by cases e) (fun ρ x w hh => ro_any hh) ?_)) rfl rfl rfl (fun _ => rfl) rfl (by kernel_rfl) fun _ _ => ?_
  repeat (first | refine C.seq ?_ | refine C.region ?_ | refine R.zb ttok ?_ | refine R.zu ttok ?_ | refine R.zc ttok ?_ | refine R.za ttok ?_ | refine R.zx ?_ | refine R.zl ttok ?_ | refine R.zs ttok ?_ | refine R.z ttok ?_ | refine R.zk ?_ | refine R.zn ?_ | refine R.done ?_ | refine X.then ?_ | refine C.block ?_ | refine C.ret ?_ | refine C.skip ?_ | refine C.exit ?_ | refine X.pass_ret ?_ | refine X.pass_exit ?_ | refine X.block_normal ?_ | refine X.block_ret ?_ | refine X.block_exit ?_ | refine C.zt ?_ | refine C.zf ?_ | refine X.zo ?_)
  refine C.less [] 16 [(0, .fn orF [.ptr 5 0 0 0, .ptr 6 0 0 0, .ptr 7 0 0 0, .ptr 8 0 0 0, .ptr 9 0 0 0]), (1, .ptr 2 0 0 0), (4, .ptr 12 0 0 0), (16, .fn rgZ [.ptr 13 0 0 0, .ptr 14 0 0 0, .ptr 15 0 0 0])] [(0, tbAZ 1 l.length c hs mk), (1, roTZ l), (2, one0 (.ptr 0 0 0 0)), (3, one0 (.raw (.string fr))), (4, one0 (.raw (.string to))), (5, .cells [.raw (.int .i64 (((segF liveZ l (plc l fr) (plc l fr)).length : Nat) : Int))] intT), (6, one0 (.fn rsZ [.ptr 2 0 0 0, .ptr 3 0 0 0, .ptr 4 0 0 0])), (7, .cells [.raw (.bool true)] 4), (8, one0 (.sl 10 1 0 ka.length ca)), (9, one0 (.sl 11 1 0 ka.length cb)), (10, roK ka), (11, roV va), (12, .cells [.fn orF [.ptr 5 0 0 0, .ptr 6 0 0 0, .ptr 7 0 0 0, .ptr 8 0 0 0, .ptr 9 0 0 0]] 52), (13, .cells [.ptr 0 0 0 0] 133), (14, .cells [.raw (.string fr)] 9), (15, .cells [.raw (.string to)] 9)] _ rfl (by repeat (first | exact HasT.nil | refine HasT.cons rfl rfl rfl ?_)) (by
    rw [segF_self]
    exact (by repeat (first | exact HasH.nil | refine HasH.same rfl rfl rfl trivial ?_ | refine HasH.same rfl rfl rfl rfl ?_ | refine HasH.same rfl rfl rfl (fun _ _ => rfl) ?_))) rfl (fun _ h => h) ?_
  refine C.range (σ := Nat) (α := ByteArray × Nat) (H := fun s => [(0, tbAZ 1 l.length c hs mk), (1, roTZ l), (2, one0 (.ptr 0 0 0 0)), (3, one0 (.raw (.string fr))), (4, one0 (.raw (.string to))), (5, .cells [.raw (.int .i64 (((segF liveZ l (plc l fr) s).length : Nat) : Int))] intT), (6, one0 (.fn rsZ [.ptr 2 0 0 0, .ptr 3 0 0 0, .ptr 4 0 0 0])), (7, .cells [.raw (.bool true)] 4), (8, one0 (.sl 10 1 0 ka.length ca)), (9, one0 (.sl 11 1 0 ka.length cb)), (10, roK ka), (11, roV va), (12, .cells [.fn orF [.ptr 5 0 0 0, .ptr 6 0 0 0, .ptr 7 0 0 0, .ptr 8 0 0 0, .ptr 9 0 0 0]] 52), (13, .cells [.ptr 0 0 0 0] 133), (14, .cells [.raw (.string fr)] 9), (15, .cells [.raw (.string to)] 9)]) (HX := fun s => [(0, tbAZ 1 l.length c hs mk), (1, roTZ l), (2, one0 (.ptr 0 0 0 0)), (3, one0 (.raw (.string fr))), (4, one0 (.raw (.string to))), (5, .cells [.raw (.int .i64 (((segF liveZ l (plc l fr) s).length : Nat) : Int))] intT), (6, one0 (.fn rsZ [.ptr 2 0 0 0, .ptr 3 0 0 0, .ptr 4 0 0 0])), (7, .cells [.raw (.bool true)] 4), (8, one0 (.sl 10 1 0 ka.length ca)), (9, one0 (.sl 11 1 0 ka.length cb)), (10, roK ka), (11, roV va), (12, .cells [.fn orF [.ptr 5 0 0 0, .ptr 6 0 0 0, .ptr 7 0 0 0, .ptr 8 0 0 0, .ptr 9 0 0 0]] 52), (13, .cells [.ptr 0 0 0 0] 133), (14, .cells [.raw (.string fr)] 9), (15, .cells [.raw (.string to)] 9)]) (fsI := fun _ => zF l) (fsX := fun _ => zF l) (u := fun x => .string x.1) (v := fun x => .pointer (some ⟨x.2, 0, none⟩)) 16 16 (plc l fr) (fun s => plc l fr ≤ s ∧ s ≤ l.length ∧ (∀ i, plc l fr ≤ i → i < s → past to (l.getD i zG).1 = false)) (fun _ => False) _ _ _ _ _
    rfl Try.call78 ⟨Nat.le_refl _, plc_le _ _, fun i h1 h2 => (by omega)⟩ ?hi0 rfl (fun s _ => zF_cells) (fun s _ => zF_cells) ?hsee (fun ρ1 _ => rng1_itc (fun _ : Nat => l) (fun s => lastR l (plc l fr) s) (fun s => l.length - s) ((ρ1 13).getD 0) ((ρ1 14).getD 0) ((ρ1 15).getD 0) ((ρ1 0).getD 0) fr to) ?hround ?hdone (fun s D _ h => h.elim)
  case hi0 => exact if_pos rfl
  case hsee =>
    intro ρ1 ρ s W fs he hI _ gg
    have h1 := rsee_ro gg (l := l) (lt := 13) (lf := 14) (lo := 15) (ls := 0) (ll := 1) (fr := fr) (to := to) hA (by omega) rfl rfl rfl rfl rfl
    rw [he 13 (by decide), he 14 (by decide), he 15 (by decide), he 0 (by decide)] at h1
    exact h1
  case hround =>
    rintro ρ1 lb D r XF i x hpin hr hpe hlb hX ⟨hi0, hi, hnp⟩ ⟨i', hi', hlt, rfl, hpast⟩
    dsimp only at hi' hlt hpast ⊢
    rw [posO_r hA hi0 hi] at hi'
    subst hi'
    have hseg := segF_step (f := liveZ) hi0 hlt
    have hmem := zF_mem hlt
    have hla : lastR l (plc l fr) (i + 1) = some (l.getD i zG).1 := by unfold lastR; rw [if_neg (by omega), show i + 1 - 1 = i by omega]
    have hnp2 : ∀ j, plc l fr ≤ j → j < i + 1 → past to (l.getD j zG).1 = false := fun j h1 h2 => by
      rcases Nat.lt_or_ge j i with h | h
      · exact hnp j h1 h
      · obtain rfl : j = i := by omega
        exact hpast
    have hsl := segF_len liveZ l (plc l fr) i
    obtain ⟨⟨pk, pb, c0, c1, h0, h1, rd, wr⟩, hpp⟩ : ∃ p, l.getD i zG = p := ⟨_, rfl⟩
    rw [hpp] at hseg hmem hla ⊢
    have hfac : ∀ y ∈ dFact D :: (zF l ++ XF), FactC lb y := fun y hy => by
      rcases List.mem_cons.1 hy with rfl | hy
      · exact .inr (.inl rfl)
      · rcases List.mem_append.1 hy with hy | hy
        · exact .inl (zF_cells y hy)
        · exact .inr (.inr (hX y hy).2)
    refine CR.seq ?_
    refine CR.region ?_
    repeat (first | refine R.zb ttok ?_ | refine R.zu ttok ?_ | refine R.zc ttok ?_ | refine R.za ttok ?_ | refine R.zx ?_ | refine R.zl ttok ?_ | refine R.zs ttok ?_ | refine R.z ttok ?_ | refine R.zk ?_ | refine R.zn ?_)
    refine R.done ?_
    refine X.thenR ?_
    refine CR.region ?_
    repeat (first | refine R.zb ttok ?_ | refine R.zu ttok ?_ | refine R.zc ttok ?_ | refine R.za ttok ?_ | refine R.zx ?_ | refine R.zl ttok ?_ | refine R.zs ttok ?_ | refine R.z ttok ?_ | refine R.zk ?_ | refine R.zn ?_)
    refine R.done ?_
    refine X.begin_ hfac hlb hr ?_
    refine CR.block ?_
    refine CR.labZ 6 (pk, pb, ⟨c0, c1, h0, h1, rd, wr⟩) (List.mem_cons_of_mem _ (List.mem_cons_of_mem _ (List.mem_append_left _ hmem))) rfl ?_
    cases rd with
    | false =>
      repeat (first | refine CR.seq ?_ | refine CR.region ?_ | refine R.zb ttok ?_ | refine R.zu ttok ?_ | refine R.zc ttok ?_ | refine R.za ttok ?_ | refine R.zx ?_ | refine R.zl ttok ?_ | refine R.zs ttok ?_ | refine R.z ttok ?_ | refine R.zk ?_ | refine R.zn ?_ | refine R.done ?_ | refine X.thenR ?_ | refine CR.block ?_ | refine CR.skip ?_ | refine CR.ret ?_ | refine CR.tru (by exact rfl) ?_ | refine CR.fls (by exact rfl) ?_ | refine X.pass_ret ?_ | refine X.pass_exit ?_ | refine X.block_normal ?_ | refine X.block_ret ?_ | refine X.block_exit ?_)
      refine R.ldo (v := .raw (.int .i64 (b01 false))) ttok rfl rfl rfl rfl rfl (by kernel_rfl) Nat.one_pos ?_
      repeat (first | refine CR.seq ?_ | refine CR.region ?_ | refine R.zb ttok ?_ | refine R.zu ttok ?_ | refine R.zc ttok ?_ | refine R.za ttok ?_ | refine R.zx ?_ | refine R.zl ttok ?_ | refine R.zs ttok ?_ | refine R.z ttok ?_ | refine R.zk ?_ | refine R.zn ?_ | refine R.done ?_ | refine X.thenR ?_ | refine CR.block ?_ | refine CR.skip ?_ | refine CR.ret ?_ | refine CR.tru (by exact rfl) ?_ | refine CR.fls (by exact rfl) ?_ | refine X.pass_ret ?_ | refine X.pass_exit ?_ | refine X.block_normal ?_ | refine X.block_ret ?_ | refine X.block_exit ?_)
      refine R.cl [16] (read_specZ ⟨c0, c1, h0, h1, false, wr⟩ false) Try.call50 (by repeat (first | exact HasIn.nil | refine HasIn.same rfl rfl ?_ | refine HasIn.bro rfl ?_ | refine HasIn.ror rfl ?_ | refine HasIn.cro rfl rfl ?_)) rfl rfl rfl (fun _ => rfl) rfl (by kernel_rfl) fun _ _ => ?_
      cases h0 with
      | false =>
        have hseg : segF liveZ l (plc l fr) (i + 1) = segF liveZ l (plc l fr) i := hseg
        repeat (first | refine CR.seq ?_ | refine CR.region ?_ | refine R.zb ttok ?_ | refine R.zu ttok ?_ | refine R.zc ttok ?_ | refine R.za ttok ?_ | refine R.zx ?_ | refine R.zl ttok ?_ | refine R.zs ttok ?_ | refine R.z ttok ?_ | refine R.zk ?_ | refine R.zn ?_ | refine R.done ?_ | refine X.thenR ?_ | refine CR.block ?_ | refine CR.skip ?_ | refine CR.ret ?_ | refine CR.tru (by exact rfl) ?_ | refine CR.fls (by exact rfl) ?_ | refine X.pass_ret ?_ | refine X.pass_exit ?_ | refine X.block_normal ?_ | refine X.block_ret ?_ | refine X.block_exit ?_)
        refine X.next [] (i + 1) ⟨by omega, hlt, hnp2⟩ ⟨hla, by omega⟩ hr hpe rfl rfl (by
          show HasH _ _ _ [(0, tbAZ 1 l.length c hs mk), (1, roTZ l), (2, one0 (.ptr 0 0 0 0)), (3, one0 (.raw (.string fr))), (4, one0 (.raw (.string to))), (5, .cells [.raw (.int .i64 (((segF liveZ l (plc l fr) (i + 1)).length : Nat) : Int))] intT), (6, one0 (.fn rsZ [.ptr 2 0 0 0, .ptr 3 0 0 0, .ptr 4 0 0 0])), (7, .cells [.raw (.bool true)] 4), (8, one0 (.sl 10 1 0 ka.length ca)), (9, one0 (.sl 11 1 0 ka.length cb)), (10, roK ka), (11, roV va), (12, .cells [.fn orF [.ptr 5 0 0 0, .ptr 6 0 0 0, .ptr 7 0 0 0, .ptr 8 0 0 0, .ptr 9 0 0 0]] 52), (13, .cells [.ptr 0 0 0 0] 133), (14, .cells [.raw (.string fr)] 9), (15, .cells [.raw (.string to)] 9)]
          rw [hseg]
          exact (by repeat (first | exact HasH.nil | refine HasH.same rfl rfl rfl trivial ?_ | refine HasH.same rfl rfl rfl rfl ?_ | refine HasH.same rfl rfl rfl (fun _ _ => rfl) ?_))) rfl hlb hfac (fun w' hf => hf.less (fun y hy => by
            rcases List.mem_cons.1 hy with rfl | hy
            · exact List.mem_cons_self
            · exact List.mem_cons_of_mem _ (List.mem_append_left _ hy)) (hf.ap.sublist ((List.sublist_append_left _ _).cons_cons _))) (fun y hy => by
            rcases List.mem_cons.1 hy with rfl | hy
            · exact .inr (.inl rfl)
            · exact .inl (zF_cells y hy)) (fun y hy => List.mem_cons_of_mem _ (List.mem_append_right _ hy))
      | true =>
        have hseg : segF liveZ l (plc l fr) (i + 1) = segF liveZ l (plc l fr) i ++ [_] := hseg
        have hsl1 : (segF liveZ l (plc l fr) (i + 1)).length = (segF liveZ l (plc l fr) i).length + 1 := by rw [hseg, List.length_append]; rfl
        repeat (first | refine R.zb ttok ?_ | refine R.zu ttok ?_ | refine R.zc ttok ?_ | refine R.za ttok ?_ | refine R.zx ?_ | refine R.zl ttok ?_ | refine R.zs ttok ?_ | refine R.z ttok ?_ | refine R.zk ?_ | refine R.zn ?_)
        refine R.done ?_
        refine X.thenR ?_
        refine CR.seq ?_
        refine CR.region ?_
        refine R.drop 16 ?_
        repeat (first | refine R.zb ttok ?_ | refine R.zu ttok ?_ | refine R.zc ttok ?_ | refine R.za ttok ?_ | refine R.zx ?_ | refine R.zl ttok ?_ | refine R.zs ttok ?_ | refine R.z ttok ?_ | refine R.zk ?_ | refine R.zn ?_)
        refine R.clE [0, 1, 2, 3, 4, 5, 6, 7, 8, 9, 10, 11] (ord1_spec l c fr to ka va ca cb pk c0 hs mk (segF liveZ l (plc l fr) i).length hA hl (by omega) hK hV) (rFact lb { r with state := .busy } :: dFact D :: XF) (List.perm_append_comm_assoc [rFact lb { r with state := .busy }, dFact D] (zF l) XF) (by show 12 ≤ 16; omega) (fun k hk => hpin k hk) or_call (by repeat (first | exact HasIn.nil | refine HasIn.same rfl rfl ?_ | refine HasIn.c1 rfl rfl ?_ | refine HasIn.roq rfl rfl ?_ | refine HasIn.other rfl (fun e => by cases e) (fun ρ x w hh => tab_ro hh) ?_ | refine HasIn.other rfl (fun e => by cases e) (fun ρ x w hh => tab_any hh) ?_ | refine HasIn.roAp rfl rfl ?_ | refine HasIn.other rfl (fun e => by cases e) (fun ρ x w hh => cells_any hh) ?_ | refine HasIn.other rfl (fun e => by cases e) (fun ρ x w hh => ro_any hh) ?_)) rfl rfl rfl (fun _ => rfl) rfl (by kernel_rfl) fun _ _ => ?_
        refine R.fperm (fs2 := rFact lb { r with state := .busy } :: dFact D :: (zF l ++ XF)) (List.perm_append_comm_assoc [rFact lb { r with state := .busy }, dFact D] (zF l) XF).symm ?_
        rw [← hsl1]
        repeat (first | refine CR.seq ?_ | refine CR.region ?_ | refine R.zb ttok ?_ | refine R.zu ttok ?_ | refine R.zc ttok ?_ | refine R.za ttok ?_ | refine R.zx ?_ | refine R.zl ttok ?_ | refine R.zs ttok ?_ | refine R.z ttok ?_ | refine R.zk ?_ | refine R.zn ?_ | refine R.done ?_ | refine X.thenR ?_ | refine CR.block ?_ | refine CR.skip ?_ | refine CR.ret ?_ | refine CR.tru (by exact rfl) ?_ | refine CR.fls (by exact rfl) ?_ | refine X.pass_ret ?_ | refine X.pass_exit ?_ | refine X.block_normal ?_ | refine X.block_ret ?_ | refine X.block_exit ?_)
        refine X.next [] (i + 1) ⟨by omega, hlt, hnp2⟩ ⟨hla, by omega⟩ hr hpe rfl rfl (by repeat (first | exact HasH.nil | refine HasH.same rfl rfl rfl trivial ?_ | refine HasH.same rfl rfl rfl rfl ?_ | refine HasH.same rfl rfl rfl (fun _ _ => rfl) ?_)) rfl hlb hfac (fun w' hf => hf.less (fun y hy => by
            rcases List.mem_cons.1 hy with rfl | hy
            · exact List.mem_cons_self
            · exact List.mem_cons_of_mem _ (List.mem_append_left _ hy)) (hf.ap.sublist ((List.sublist_append_left _ _).cons_cons _))) (fun y hy => by
            rcases List.mem_cons.1 hy with rfl | hy
            · exact .inr (.inl rfl)
            · exact .inl (zF_cells y hy)) (fun y hy => List.mem_cons_of_mem _ (List.mem_append_right _ hy))
    | true =>
      repeat (first | refine CR.seq ?_ | refine CR.region ?_ | refine R.zb ttok ?_ | refine R.zu ttok ?_ | refine R.zc ttok ?_ | refine R.za ttok ?_ | refine R.zx ?_ | refine R.zl ttok ?_ | refine R.zs ttok ?_ | refine R.z ttok ?_ | refine R.zk ?_ | refine R.zn ?_ | refine R.done ?_ | refine X.thenR ?_ | refine CR.block ?_ | refine CR.skip ?_ | refine CR.ret ?_ | refine CR.tru (by exact rfl) ?_ | refine CR.fls (by exact rfl) ?_ | refine X.pass_ret ?_ | refine X.pass_exit ?_ | refine X.block_normal ?_ | refine X.block_ret ?_ | refine X.block_exit ?_)
      refine R.ldo (v := .raw (.int .i64 (b01 true))) ttok rfl rfl rfl rfl rfl (by kernel_rfl) Nat.one_pos ?_
      repeat (first | refine CR.seq ?_ | refine CR.region ?_ | refine R.zb ttok ?_ | refine R.zu ttok ?_ | refine R.zc ttok ?_ | refine R.za ttok ?_ | refine R.zx ?_ | refine R.zl ttok ?_ | refine R.zs ttok ?_ | refine R.z ttok ?_ | refine R.zk ?_ | refine R.zn ?_ | refine R.done ?_ | refine X.thenR ?_ | refine CR.block ?_ | refine CR.skip ?_ | refine CR.ret ?_ | refine CR.tru (by exact rfl) ?_ | refine CR.fls (by exact rfl) ?_ | refine X.pass_ret ?_ | refine X.pass_exit ?_ | refine X.block_normal ?_ | refine X.block_ret ?_ | refine X.block_exit ?_)
      refine R.cl [16] (read_specZ ⟨c0, c1, h0, h1, true, wr⟩ true) Try.call50 (by repeat (first | exact HasIn.nil | refine HasIn.same rfl rfl ?_ | refine HasIn.bro rfl ?_ | refine HasIn.ror rfl ?_ | refine HasIn.cro rfl rfl ?_)) rfl rfl rfl (fun _ => rfl) rfl (by kernel_rfl) fun _ _ => ?_
      cases h1 with
      | false =>
        have hseg : segF liveZ l (plc l fr) (i + 1) = segF liveZ l (plc l fr) i := hseg
        repeat (first | refine CR.seq ?_ | refine CR.region ?_ | refine R.zb ttok ?_ | refine R.zu ttok ?_ | refine R.zc ttok ?_ | refine R.za ttok ?_ | refine R.zx ?_ | refine R.zl ttok ?_ | refine R.zs ttok ?_ | refine R.z ttok ?_ | refine R.zk ?_ | refine R.zn ?_ | refine R.done ?_ | refine X.thenR ?_ | refine CR.block ?_ | refine CR.skip ?_ | refine CR.ret ?_ | refine CR.tru (by exact rfl) ?_ | refine CR.fls (by exact rfl) ?_ | refine X.pass_ret ?_ | refine X.pass_exit ?_ | refine X.block_normal ?_ | refine X.block_ret ?_ | refine X.block_exit ?_)
        refine X.next [] (i + 1) ⟨by omega, hlt, hnp2⟩ ⟨hla, by omega⟩ hr hpe rfl rfl (by
          show HasH _ _ _ [(0, tbAZ 1 l.length c hs mk), (1, roTZ l), (2, one0 (.ptr 0 0 0 0)), (3, one0 (.raw (.string fr))), (4, one0 (.raw (.string to))), (5, .cells [.raw (.int .i64 (((segF liveZ l (plc l fr) (i + 1)).length : Nat) : Int))] intT), (6, one0 (.fn rsZ [.ptr 2 0 0 0, .ptr 3 0 0 0, .ptr 4 0 0 0])), (7, .cells [.raw (.bool true)] 4), (8, one0 (.sl 10 1 0 ka.length ca)), (9, one0 (.sl 11 1 0 ka.length cb)), (10, roK ka), (11, roV va), (12, .cells [.fn orF [.ptr 5 0 0 0, .ptr 6 0 0 0, .ptr 7 0 0 0, .ptr 8 0 0 0, .ptr 9 0 0 0]] 52), (13, .cells [.ptr 0 0 0 0] 133), (14, .cells [.raw (.string fr)] 9), (15, .cells [.raw (.string to)] 9)]
          rw [hseg]
          exact (by repeat (first | exact HasH.nil | refine HasH.same rfl rfl rfl trivial ?_ | refine HasH.same rfl rfl rfl rfl ?_ | refine HasH.same rfl rfl rfl (fun _ _ => rfl) ?_))) rfl hlb hfac (fun w' hf => hf.less (fun y hy => by
            rcases List.mem_cons.1 hy with rfl | hy
            · exact List.mem_cons_self
            · exact List.mem_cons_of_mem _ (List.mem_append_left _ hy)) (hf.ap.sublist ((List.sublist_append_left _ _).cons_cons _))) (fun y hy => by
            rcases List.mem_cons.1 hy with rfl | hy
            · exact .inr (.inl rfl)
            · exact .inl (zF_cells y hy)) (fun y hy => List.mem_cons_of_mem _ (List.mem_append_right _ hy))
      | true =>
        have hseg : segF liveZ l (plc l fr) (i + 1) = segF liveZ l (plc l fr) i ++ [_] := hseg
        have hsl1 : (segF liveZ l (plc l fr) (i + 1)).length = (segF liveZ l (plc l fr) i).length + 1 := by rw [hseg, List.length_append]; rfl
        repeat (first | refine R.zb ttok ?_ | refine R.zu ttok ?_ | refine R.zc ttok ?_ | refine R.za ttok ?_ | refine R.zx ?_ | refine R.zl ttok ?_ | refine R.zs ttok ?_ | refine R.z ttok ?_ | refine R.zk ?_ | refine R.zn ?_)
        refine R.done ?_
        refine X.thenR ?_
        refine CR.seq ?_
        refine CR.region ?_
        refine R.drop 16 ?_
        repeat (first | refine R.zb ttok ?_ | refine R.zu ttok ?_ | refine R.zc ttok ?_ | refine R.za ttok ?_ | refine R.zx ?_ | refine R.zl ttok ?_ | refine R.zs ttok ?_ | refine R.z ttok ?_ | refine R.zk ?_ | refine R.zn ?_)
        refine R.clE [0, 1, 2, 3, 4, 5, 6, 7, 8, 9, 10, 11] (ord1_spec l c fr to ka va ca cb pk c1 hs mk (segF liveZ l (plc l fr) i).length hA hl (by omega) hK hV) (rFact lb { r with state := .busy } :: dFact D :: XF) (List.perm_append_comm_assoc [rFact lb { r with state := .busy }, dFact D] (zF l) XF) (by show 12 ≤ 16; omega) (fun k hk => hpin k hk) or_call (by repeat (first | exact HasIn.nil | refine HasIn.same rfl rfl ?_ | refine HasIn.c1 rfl rfl ?_ | refine HasIn.roq rfl rfl ?_ | refine HasIn.other rfl (fun e => by cases e) (fun ρ x w hh => tab_ro hh) ?_ | refine HasIn.other rfl (fun e => by cases e) (fun ρ x w hh => tab_any hh) ?_ | refine HasIn.roAp rfl rfl ?_ | refine HasIn.other rfl (fun e => by cases e) (fun ρ x w hh => cells_any hh) ?_ | refine HasIn.other rfl (fun e => by cases e) (fun ρ x w hh => ro_any hh) ?_)) rfl rfl rfl (fun _ => rfl) rfl (by kernel_rfl) fun _ _ => ?_
        refine R.fperm (fs2 := rFact lb { r with state := .busy } :: dFact D :: (zF l ++ XF)) (List.perm_append_comm_assoc [rFact lb { r with state := .busy }, dFact D] (zF l) XF).symm ?_
        rw [← hsl1]
        repeat (first | refine CR.seq ?_ | refine CR.region ?_ | refine R.zb ttok ?_ | refine R.zu ttok ?_ | refine R.zc ttok ?_ | refine R.za ttok ?_ | refine R.zx ?_ | refine R.zl ttok ?_ | refine R.zs ttok ?_ | refine R.z ttok ?_ | refine R.zk ?_ | refine R.zn ?_ | refine R.done ?_ | refine X.thenR ?_ | refine CR.block ?_ | refine CR.skip ?_ | refine CR.ret ?_ | refine CR.tru (by exact rfl) ?_ | refine CR.fls (by exact rfl) ?_ | refine X.pass_ret ?_ | refine X.pass_exit ?_ | refine X.block_normal ?_ | refine X.block_ret ?_ | refine X.block_exit ?_)
        refine X.next [] (i + 1) ⟨by omega, hlt, hnp2⟩ ⟨hla, by omega⟩ hr hpe rfl rfl (by repeat (first | exact HasH.nil | refine HasH.same rfl rfl rfl trivial ?_ | refine HasH.same rfl rfl rfl rfl ?_ | refine HasH.same rfl rfl rfl (fun _ _ => rfl) ?_)) rfl hlb hfac (fun w' hf => hf.less (fun y hy => by
            rcases List.mem_cons.1 hy with rfl | hy
            · exact List.mem_cons_self
            · exact List.mem_cons_of_mem _ (List.mem_append_left _ hy)) (hf.ap.sublist ((List.sublist_append_left _ _).cons_cons _))) (fun y hy => by
            rcases List.mem_cons.1 hy with rfl | hy
            · exact .inr (.inl rfl)
            · exact .inl (zF_cells y hy)) (fun y hy => List.mem_cons_of_mem _ (List.mem_append_right _ hy))
  case hdone =>
    rintro i D hD ⟨hi0, hi, hnp⟩ hFin
    dsimp only at hFin ⊢
    rw [posO_r hA hi0 hi] at hFin
    have hk := (rg_keys hA (to := to) (j := i) ⟨hi0, hi, hnp, hFin⟩).1
    rw [hK] at hk
    have hkl : (segF liveZ l (plc l fr) i).length = ka.length := by rw [← hk, List.length_map]
    rw [hkl]
    repeat (first | refine C.seq ?_ | refine C.region ?_ | refine R.zb ttok ?_ | refine R.zu ttok ?_ | refine R.zc ttok ?_ | refine R.za ttok ?_ | refine R.zx ?_ | refine R.zl ttok ?_ | refine R.zs ttok ?_ | refine R.z ttok ?_ | refine R.zk ?_ | refine R.zn ?_ | refine R.done ?_ | refine X.then ?_ | refine C.block ?_ | refine C.ret ?_ | refine C.skip ?_ | refine C.exit ?_ | refine X.pass_ret ?_ | refine X.pass_exit ?_ | refine X.block_normal ?_ | refine X.block_ret ?_ | refine X.block_exit ?_ | refine C.zt ?_ | refine C.zf ?_ | refine X.zo ?_)
    refine X.finM ttok () [] trivial rfl rfl rfl (by repeat (first | exact HasH.nil | refine HasH.same rfl rfl rfl trivial ?_ | refine HasH.same rfl rfl rfl rfl ?_ | refine HasH.same rfl rfl rfl (fun _ _ => rfl) ?_)) _ (by first | exact .inl rfl | exact .inr rfl) hD zF_cells ?_ ?_ ?_
    · exact fun w' hf => hf.ap
    · exact fun y hy => hy
    · exact fun y hy _ => ⟨y, hy, rfl⟩
end
end Go.Proofs.Yteabncomclgncaa
namespace Go.Proofs.Yteabncomclgncaa
set_option linter.unusedVariables false
set_option linter.unusedSimpArgs false
open Go.RowKit
set_option maxRecDepth 100000
attribute [local instance] Classical.propDecidable
theorem nodup_le {l m : List ByteArray} (h : l.Nodup) (hs : ∀ x ∈ l, x ∈ m) : l.length ≤ m.length := by
  induction l generalizing m with
  | nil => exact Nat.zero_le _
  | cons a l ih =>
    obtain ⟨h1, h2⟩ := List.nodup_cons.1 h
    have ha := hs a List.mem_cons_self
    obtain ⟨x, y, rfl⟩ := List.append_of_mem ha
    have := ih (m := x ++ y) h2 fun b hb => by
      have hb2 := hs b (List.mem_cons_of_mem _ hb)
      rcases List.mem_append.1 hb2 with h | h
      · exact List.mem_append_left _ h
      · rcases List.mem_cons.1 h with rfl | h
        · exact absurd hb h1
        · exact List.mem_append_right _ h
    simp only [List.length_append, List.length_cons] at this ⊢
    omega
/-- the keys of a script's first steps, each once -/
noncomputable def fstK (sc : List StZ) : Nat → List ByteArray
  | 0 => []
  | i + 1 => if (sc.getD i StZ.no).key ∈ fstK sc i then fstK sc i else fstK sc i ++ [(sc.getD i StZ.no).key]
theorem fstK_mem (sc : List StZ) (i : Nat) (k : ByteArray) : k ∈ fstK sc i ↔ ∃ j, j < i ∧ (sc.getD j StZ.no).key = k := by
  induction i with
  | zero => simp [fstK]
  | succ i ih =>
    unfold fstK
    split
    · rename_i h
      rw [ih]
      constructor
      · rintro ⟨j, h1, h2⟩; exact ⟨j, by omega, h2⟩
      · rintro ⟨j, h1, h2⟩
        rcases Nat.lt_or_ge j i with h3 | h3
        · exact ⟨j, h3, h2⟩
        · obtain rfl : j = i := by omega
          rw [← ih, ← h2]; exact h
    · rw [List.mem_append, ih, List.mem_singleton]
      constructor
      · rintro (⟨j, h1, h2⟩ | h)
        · exact ⟨j, by omega, h2⟩
        · exact ⟨i, by omega, h.symm⟩
      · rintro ⟨j, h1, h2⟩
        rcases Nat.lt_or_ge j i with h3 | h3
        · exact .inl ⟨j, h3, h2⟩
        · obtain rfl : j = i := by omega
          exact .inr h2.symm
theorem fstK_nodup (sc : List StZ) (i : Nat) : (fstK sc i).Nodup := by
  induction i with
  | zero => exact List.nodup_nil
  | succ i ih =>
    unfold fstK
    split
    · exact ih
    · rename_i h
      refine List.nodup_append.2 ⟨ih, by simp, fun a ha b hb e => ?_⟩
      rw [List.mem_singleton] at hb
      subst e hb
      exact h ha
/-- how many of a script's keys, each once, are such -/
noncomputable def cntK (sc : List StZ) (P : ByteArray → Bool) (i : Nat) : Nat := ((fstK sc i).filter P).length
theorem cntK_step (sc : List StZ) (P : ByteArray → Bool) (i : Nat) : cntK sc P (i + 1) = if (¬ (sc.getD i StZ.no).key ∈ fstK sc i) ∧ P (sc.getD i StZ.no).key = true then cntK sc P i + 1 else cntK sc P i := by
  unfold cntK
  rw [fstK]
  by_cases h : (sc.getD i StZ.no).key ∈ fstK sc i
  · rw [if_pos h, if_neg (fun e => e.1 h)]
  · rw [if_neg h, List.filter_append, List.length_append]
    cases hP : P (sc.getD i StZ.no).key with
    | true => rw [if_pos ⟨h, rfl⟩, List.filter_cons, if_pos hP]; rfl
    | false => rw [if_neg (fun e => by cases e.2), List.filter_cons, if_neg (by rw [hP]; decide)]; rfl
theorem cntK_end (sc : List StZ) (P : ByteArray → Bool) (n : Nat) (ks : List ByteArray) (hn : ks.Nodup) (hm : ∀ k, k ∈ ks ↔ P k = true ∧ k ∈ fstK sc n) : cntK sc P n = ks.length := by
  unfold cntK
  refine Nat.le_antisymm (nodup_le ((fstK_nodup sc n).sublist List.filter_sublist) fun k hk => ?_) (nodup_le hn fun k hk => ?_)
  · obtain ⟨h1, h2⟩ := List.mem_filter.1 hk
    exact (hm k).2 ⟨h2, h1⟩
  · obtain ⟨h1, h2⟩ := (hm k).1 hk
    exact List.mem_filter.2 ⟨h2, h1⟩
/-- a store's keys are a script's -/
theorem wr_keys {sc : List StZ} {i : Nat} {l : ZL} (x : StZ) (hx : sc.getD i StZ.no = x) (mk : Bool) (b : Nat) (h : ∀ p ∈ l, p.1 ∈ fstK sc i) : ∀ p ∈ wrZ x l mk b, p.1 ∈ fstK sc (i + 1) := by
  have hup : ∀ q ∈ l, q.1 ∈ fstK sc (i + 1) := fun q hq => by
    obtain ⟨j, h1, h2⟩ := (fstK_mem _ _ _).1 (h q hq)
    exact (fstK_mem _ _ _).2 ⟨j, by omega, h2⟩
  have hkx : x.key ∈ fstK sc (i + 1) := (fstK_mem _ _ _).2 ⟨i, by omega, by rw [hx]⟩
  have hzup : ∀ (j : Nat) (s : Sl Int), j < l.length → ∀ p ∈ zup l j s, p.1 ∈ fstK sc (i + 1) := fun j s hj p hp => by
    rcases List.mem_or_eq_of_mem_set hp with hp | rfl
    · exact hup p hp
    · have := hup _ (List.getElem_mem hj)
      rwa [← zG_get hj] at this
  intro p hp
  unfold wrZ at hp
  split at hp
  · unfold zdel at hp
    split at hp
    · rename_i hv
      cases mk with
      | true => rw [if_pos rfl] at hp; exact hzup _ _ (hasK_lt (isV_has hv).1).1 p hp
      | false => rw [if_neg (by decide)] at hp; exact hup p ((del_sub l _).subset hp)
    · exact hup p hp
  · split at hp
    · unfold zput at hp
      split at hp
      · rename_i hk; exact hzup _ _ (hasK_lt hk).1 p hp
      · unfold insL at hp
        rcases List.mem_append.1 hp with hp | hp
        · exact hup p (List.mem_of_mem_take hp)
        · rcases List.mem_cons.1 hp with rfl | hp
          · exact hkx
          · exact hup p (List.mem_of_mem_drop hp)
    · exact hup p hp
theorem vz_asc {l : ZL} (hA : Asc l) : (VZ l).Pairwise fun a b => cmpS a.1 b.1 < 0 := by
  unfold VZ
  rw [List.pairwise_map]
  exact hA.sublist List.filter_sublist
theorem rgV_asc {l : ZL} (hA : Asc l) (fr to : ByteArray) : (rgV l fr to).Pairwise fun a b => cmpS a.1 b.1 < 0 := (vz_asc hA).sublist List.filter_sublist
theorem vz_tell {l : ZL} (hA : Asc l) {q : ByteArray × Int} (h : q ∈ VZ l) : isV l q.1 = true ∧ getV l q.1 = q.2 := by
  have hm : q ∈ (VZ l).filter (eqV q.1) := List.mem_filter.2 ⟨h, decide_eq_true (cmpS_self q.1)⟩
  rw [vz_mid hA] at hm
  cases hv : isV l q.1 with
  | false => rw [hv, if_neg (by decide)] at hm; cases hm
  | true =>
    rw [hv, if_pos rfl, List.mem_singleton] at hm
    exact ⟨rfl, (congrArg Prod.snd hm).symm⟩
theorem rgV_tell {l : ZL} (hA : Asc l) {fr to : ByteArray} {q : ByteArray × Int} (h : q ∈ rgV l fr to) : isV l q.1 = true ∧ getV l q.1 = q.2 ∧ ¬ cmpS q.1 fr < 0 ∧ past to q.1 = false := by
  obtain ⟨h1, h2⟩ := List.mem_filter.1 h
  obtain ⟨h3, h4⟩ := vz_tell hA h1
  simp only [inV, ltV, Bool.and_eq_true, Bool.not_eq_true', decide_eq_false_iff_not] at h2
  exact ⟨h3, h4, h2.1, h2.2⟩
theorem rgV_nodup {l : ZL} (hA : Asc l) (fr to : ByteArray) : ((rgV l fr to).map Prod.fst).Nodup := by
  unfold List.Nodup
  rw [List.pairwise_map]
  exact (rgV_asc hA fr to).imp fun {a b} h e => by rw [e, cmpS_self] at h; omega
/-- the keys counted -/
def cntP (l : ZL) (fr to k : ByteArray) : Bool := isV l k && (!decide (cmpS k fr < 0) && !past to k)
theorem rgV_mem {l : ZL} (hA : Asc l) {sc : List StZ} {n : Nat} (hks : ∀ p ∈ l, p.1 ∈ fstK sc n) (fr to k : ByteArray) : k ∈ (rgV l fr to).map Prod.fst ↔ cntP l fr to k = true ∧ k ∈ fstK sc n := by
  constructor
  · intro h
    obtain ⟨q, hq, rfl⟩ := List.mem_map.1 h
    obtain ⟨h1, h2, h3, h4⟩ := rgV_tell hA hq
    obtain ⟨p, hp, e⟩ := vz_mem (List.mem_filter.1 hq).1
    exact ⟨by unfold cntP; rw [h1, decide_eq_false h3, h4]; rfl, e ▸ hks p hp⟩
  · rintro ⟨h, _⟩
    unfold cntP at h
    simp only [Bool.and_eq_true, Bool.not_eq_true', decide_eq_false_iff_not] at h
    obtain ⟨h1, h2, h3⟩ := h
    have hm : (k, getV l k) ∈ (VZ l).filter (eqV k) := by rw [vz_mid hA, if_pos h1]; exact List.mem_singleton.2 rfl
    refine List.mem_map.2 ⟨(k, getV l k), List.mem_filter.2 ⟨(List.mem_filter.1 hm).1, ?_⟩, rfl⟩
    simp only [inV, ltV, Bool.and_eq_true, Bool.not_eq_true', decide_eq_false_iff_not]
    exact ⟨h2, h3⟩
end Go.Proofs.Yteabncomclgncaa
namespace Go.Proofs.Yteabncomclgncaa
set_option linter.unusedVariables false
set_option linter.unusedSimpArgs false
open Go.RowKit
set_option maxRecDepth 100000
set_option maxHeartbeats 8000000
theorem leq_gt (a b : ByteArray) : (Op.bytesLess a.toList b.toList || decide (a.toList = b.toList)) = !gtB a b := by simp [gtB]
theorem fstK_len (sc : List StZ) (i : Nat) : (fstK sc i).length ≤ i := by
  induction i with
  | zero => exact Nat.le_refl _
  | succ i ih =>
    rw [fstK]
    split
    · omega
    · rw [List.length_append]; simp; omega
theorem cntK_le (sc : List StZ) (P : ByteArray → Bool) (i : Nat) : cntK sc P i ≤ i := Nat.le_trans (List.length_filter_le _ _) (fstK_len sc i)
/-- was a key named by a script's first steps? -/
def seenB (sc : List StZ) (k : ByteArray) (j : Nat) : Bool := (sc.take j).any fun x => decide (x.key.toList = k.toList)
theorem seenB_step {sc : List StZ} {k : ByteArray} {j : Nat} (h : j < sc.length) : seenB sc k (j + 1) = (seenB sc k j || decide ((sc.getD j StZ.no).key.toList = k.toList)) := by
  unfold seenB
  rw [List.take_succ_eq_append_getElem h, List.any_append, List.getD_eq_getElem?_getD, List.getElem?_eq_getElem h]
  simp
theorem seenB_fst {sc : List StZ} {k : ByteArray} {j : Nat} (h : j ≤ sc.length) : seenB sc k j = true ↔ k ∈ fstK sc j := by
  unfold seenB
  rw [List.any_eq_true, fstK_mem]
  constructor
  · rintro ⟨x, hx, e⟩
    obtain ⟨i, hi, rfl⟩ := List.mem_iff_getElem.1 hx
    rw [List.length_take] at hi
    refine ⟨i, by omega, ?_⟩
    rw [same_cmp, decide_eq_true_eq] at e
    rw [List.getElem_take] at e
    rw [List.getD_eq_getElem?_getD, List.getElem?_eq_getElem (by omega)]
    exact cmpS_zero.1 e
  · rintro ⟨i, hi, e⟩
    refine ⟨sc[i]'(by omega), List.mem_iff_getElem.2 ⟨i, by rw [List.length_take]; omega, by rw [List.getElem_take]⟩, ?_⟩
    rw [List.getD_eq_getElem?_getD, List.getElem?_eq_getElem (by omega)] at e
    have e : sc[i].key = k := e
    rw [e]
    exact decide_eq_true rfl
section
variable (sc : List StZ) (off cap : Nat) (fr to : ByteArray)
theorem zigzagOrder_law (hsc : sc.length ≤ 9223372036854775807) :
    Spec Try.prog 4 [.sl 0 1 off sc.length cap, .raw (.string fr), .raw (.string to)] [roZ off sc] 1 (σ := Unit) (fun _ => True) (fun _ => .raw (.bool true)) (fun _ => []) := by
  refine Spec.ofF Try.func4 rfl Try.ntmps4 rfl (by repeat (first | exact bdl_nil _ | refine bdl_cons (rowsZ_bd _ _ _ _) ?_ | refine bdl_cons rfl ?_ | refine bdl_cons (fun _ _ => rfl) ?_ | refine bdl_cons (roA_bd rfl) ?_)) fun ρ w => ?_
  repeat (first | refine C.seq ?_ | refine C.region ?_ | refine R.zb ttok ?_ | refine R.zu ttok ?_ | refine R.zc ttok ?_ | refine R.za ttok ?_ | refine R.zx ?_ | refine R.zl ttok ?_ | refine R.zs ttok ?_ | refine R.z ttok ?_ | refine R.zk ?_ | refine R.zn ?_ | refine R.done ?_ | refine X.then ?_ | refine C.block ?_ | refine C.ret ?_ | refine C.skip ?_ | refine C.exit ?_ | refine X.pass_ret ?_ | refine X.pass_exit ?_ | refine X.block_normal ?_ | refine X.block_ret ?_ | refine X.block_exit ?_ | refine C.zt ?_ | refine C.zf ?_ | refine X.zo ?_)
  refine R.cl [0] (much_spec sc off cap hsc) Try.call16 ((by exact .roz rfl .nil)) rfl rfl rfl (fun _ => rfl) rfl (by kernel_rfl) fun b1 hb1 => ?_
  cases b1 with
  | true =>
    repeat (first | refine C.seq ?_ | refine C.region ?_ | refine R.zb ttok ?_ | refine R.zu ttok ?_ | refine R.zc ttok ?_ | refine R.za ttok ?_ | refine R.zx ?_ | refine R.zl ttok ?_ | refine R.zs ttok ?_ | refine R.z ttok ?_ | refine R.zk ?_ | refine R.zn ?_ | refine R.done ?_ | refine X.then ?_ | refine C.block ?_ | refine C.ret ?_ | refine C.skip ?_ | refine C.exit ?_ | refine X.pass_ret ?_ | refine X.pass_exit ?_ | refine X.block_normal ?_ | refine X.block_ret ?_ | refine X.block_exit ?_ | refine C.zt ?_ | refine C.zf ?_ | refine X.zo ?_)
    refine R.clF [] (known_specZ) (Nat.le_refl _) (fun _ _ => rfl) Try.call11 (by repeat (first | exact HasIn.nil | refine HasIn.same rfl rfl ?_ | refine HasIn.bro rfl ?_ | refine HasIn.ror rfl ?_ | refine HasIn.cro rfl rfl ?_)) rfl rfl rfl (fun _ => rfl) rfl (by kernel_rfl) fun _ _ => ?_
    repeat (first | refine C.seq ?_ | refine C.region ?_ | refine R.zb ttok ?_ | refine R.zu ttok ?_ | refine R.zc ttok ?_ | refine R.za ttok ?_ | refine R.zx ?_ | refine R.zl ttok ?_ | refine R.zs ttok ?_ | refine R.z ttok ?_ | refine R.zk ?_ | refine R.zn ?_ | refine R.done ?_ | refine X.then ?_ | refine C.block ?_ | refine C.ret ?_ | refine C.skip ?_ | refine C.exit ?_ | refine X.pass_ret ?_ | refine X.pass_exit ?_ | refine X.block_normal ?_ | refine X.block_ret ?_ | refine X.block_exit ?_ | refine C.zt ?_ | refine C.zf ?_ | refine X.zo ?_)
    refine X.finS ttok () [] trivial rfl rfl rfl (by repeat (first | exact HasH.nil | refine HasH.same rfl rfl rfl trivial ?_ | refine HasH.same rfl rfl rfl rfl ?_ | refine HasH.same rfl rfl rfl (fun _ _ => rfl) ?_ | refine HasH.ros rfl rfl ?_)) _ (by first | exact .inl rfl | exact .inr rfl)
  | false =>
  repeat (first | refine C.seq ?_ | refine C.region ?_ | refine R.zb ttok ?_ | refine R.zu ttok ?_ | refine R.zc ttok ?_ | refine R.za ttok ?_ | refine R.zx ?_ | refine R.zl ttok ?_ | refine R.zs ttok ?_ | refine R.z ttok ?_ | refine R.zk ?_ | refine R.zn ?_ | refine R.done ?_ | refine X.then ?_ | refine C.block ?_ | refine C.ret ?_ | refine C.skip ?_ | refine C.exit ?_ | refine X.pass_ret ?_ | refine X.pass_exit ?_ | refine X.block_normal ?_ | refine X.block_ret ?_ | refine X.block_exit ?_ | refine C.zt ?_ | refine C.zf ?_ | refine X.zo ?_)
  by_cases h60 : ((sc.length : Nat) : Int) > 60
  · rw [decide_eq_true h60]
    repeat (first | refine C.seq ?_ | refine C.region ?_ | refine R.zb ttok ?_ | refine R.zu ttok ?_ | refine R.zc ttok ?_ | refine R.za ttok ?_ | refine R.zx ?_ | refine R.zl ttok ?_ | refine R.zs ttok ?_ | refine R.z ttok ?_ | refine R.zk ?_ | refine R.zn ?_ | refine R.done ?_ | refine X.then ?_ | refine C.block ?_ | refine C.ret ?_ | refine C.skip ?_ | refine C.exit ?_ | refine X.pass_ret ?_ | refine X.pass_exit ?_ | refine X.block_normal ?_ | refine X.block_ret ?_ | refine X.block_exit ?_ | refine C.zt ?_ | refine C.zf ?_ | refine X.zo ?_)
    refine R.clF [] (known_specZ) (Nat.le_refl _) (fun _ _ => rfl) Try.call11 (by repeat (first | exact HasIn.nil | refine HasIn.same rfl rfl ?_ | refine HasIn.bro rfl ?_ | refine HasIn.ror rfl ?_ | refine HasIn.cro rfl rfl ?_)) rfl rfl rfl (fun _ => rfl) rfl (by kernel_rfl) fun _ _ => ?_
    repeat (first | refine C.seq ?_ | refine C.region ?_ | refine R.zb ttok ?_ | refine R.zu ttok ?_ | refine R.zc ttok ?_ | refine R.za ttok ?_ | refine R.zx ?_ | refine R.zl ttok ?_ | refine R.zs ttok ?_ | refine R.z ttok ?_ | refine R.zk ?_ | refine R.zn ?_ | refine R.done ?_ | refine X.then ?_ | refine C.block ?_ | refine C.ret ?_ | refine C.skip ?_ | refine C.exit ?_ | refine X.pass_ret ?_ | refine X.pass_exit ?_ | refine X.block_normal ?_ | refine X.block_ret ?_ | refine X.block_exit ?_ | refine C.zt ?_ | refine C.zf ?_ | refine X.zo ?_)
    refine X.finS ttok () [] trivial rfl rfl rfl (by repeat (first | exact HasH.nil | refine HasH.same rfl rfl rfl trivial ?_ | refine HasH.same rfl rfl rfl rfl ?_ | refine HasH.same rfl rfl rfl (fun _ _ => rfl) ?_ | refine HasH.ros rfl rfl ?_)) _ (by first | exact .inl rfl | exact .inr rfl)
  rw [decide_eq_false h60]
  have hla : sc.length ≤ 60 := by omega
  repeat (first | refine C.seq ?_ | refine C.region ?_ | refine R.zb ttok ?_ | refine R.zu ttok ?_ | refine R.zc ttok ?_ | refine R.za ttok ?_ | refine R.zx ?_ | refine R.zl ttok ?_ | refine R.zs ttok ?_ | refine R.z ttok ?_ | refine R.zk ?_ | refine R.zn ?_ | refine R.done ?_ | refine X.then ?_ | refine C.block ?_ | refine C.ret ?_ | refine C.skip ?_ | refine C.exit ?_ | refine X.pass_ret ?_ | refine X.pass_exit ?_ | refine X.block_normal ?_ | refine X.block_ret ?_ | refine X.block_exit ?_ | refine C.zt ?_ | refine C.zf ?_ | refine X.zo ?_)
  refine R.cl [] (new_specZ) Try.call17 (by repeat (first | exact HasIn.nil | refine HasIn.same rfl rfl ?_ | refine HasIn.bro rfl ?_ | refine HasIn.ror rfl ?_ | refine HasIn.cro rfl rfl ?_)) rfl rfl rfl (fun _ => rfl) rfl (by kernel_rfl) fun _ _ => ?_
  repeat (first | refine R.zb ttok ?_ | refine R.zu ttok ?_ | refine R.zc ttok ?_ | refine R.za ttok ?_ | refine R.zx ?_ | refine R.zl ttok ?_ | refine R.zs ttok ?_ | refine R.z ttok ?_ | refine R.zk ?_ | refine R.zn ?_)
  refine R.done ?_
  refine X.then ?_
  refine C.noneH 1 [.sl 2 2 0 ([] : ZL).length 0, .raw (.int .i64 0), .raw (.bool false)] (tIZ [] 0) (none_tab _ _ _ _) rfl rfl rfl (fun ρ h => by have h : ρ 2 = none := h; show [(AV.sl 2 2 0 0 0).conc ρ, _, _] = [Value.slice none 0 0, _, _]; simp [AV.conc, AV.concs, h]; exact ⟨rfl, rfl⟩) ?_
  repeat (first | refine C.seq ?_ | refine C.region ?_ | refine R.zb ttok ?_ | refine R.zu ttok ?_ | refine R.zc ttok ?_ | refine R.za ttok ?_ | refine R.zx ?_ | refine R.zl ttok ?_ | refine R.zs ttok ?_ | refine R.z ttok ?_ | refine R.zk ?_ | refine R.zn ?_ | refine R.done ?_ | refine X.then ?_ | refine C.block ?_ | refine C.ret ?_ | refine C.skip ?_ | refine C.exit ?_ | refine X.pass_ret ?_ | refine X.pass_exit ?_ | refine X.block_normal ?_ | refine X.block_ret ?_ | refine X.block_exit ?_ | refine C.zt ?_ | refine C.zf ?_ | refine X.zo ?_)
  refine C.loopG (σ := Nat × ZL × Nat × Int) (L2 := 4) (fun s => s.1 ≤ sc.length ∧ (Asc s.2.1 ∧ DZ s.2.1 ∧ ∀ p ∈ s.2.1, p.1 ∈ fstK sc s.1) ∧ s.2.1.length ≤ s.1 ∧ (s.2.1.length ≤ s.2.2.1 ∧ s.2.2.1 ≤ 9223372036854775807) ∧ (-(s.1 : Int) ≤ s.2.2.2 ∧ s.2.2.2 ≤ s.1)) (fun s => [(0, .sl 0 1 off sc.length cap), (1, .raw (.string fr)), (2, .raw (.string to)), (7, .ptr 1 0 0 0), (8, .raw (.int .i64 (s.1 : Nat)))]) (fun s => [(0, roZ off sc), (1, tbIZ 3 s.2.1.length s.2.2.1 s.2.2.2 false), (3, tIZ s.2.1 s.2.2.1)]) (fun s => FF [roZ off sc] ρ w [] (zF s.2.1)) (fun s => sc.length - s.1) [(3, 2)] (0, [], 0, 0) ⟨Nat.zero_le _, ⟨asc0, (fun p hp => by cases hp), (fun p hp => by cases hp)⟩, Nat.le_refl _, ⟨Nat.le_refl _, Nat.zero_le _⟩, by decide⟩ rfl (by repeat (first | exact HasT.nil | refine HasT.cons rfl rfl rfl ?_)) (by repeat (first | exact HasH.nil | refine HasH.same rfl rfl rfl trivial ?_ | refine HasH.same rfl rfl rfl rfl ?_ | refine HasH.same rfl rfl rfl (fun _ _ => rfl) ?_ | refine HasH.roz rfl rfl ?_)) rfl (fun _ h => h) ?_
  rintro ⟨i, l, c, hs⟩ ⟨hi, ⟨hA, hD, hks⟩, hl, hc, hh⟩
  dsimp only at hi hA hD hks hl hc hh ⊢
  repeat (first | refine C.seq ?_ | refine C.region ?_ | refine R.zb ttok ?_ | refine R.zu ttok ?_ | refine R.zc ttok ?_ | refine R.za ttok ?_ | refine R.zx ?_ | refine R.zl ttok ?_ | refine R.zs ttok ?_ | refine R.z ttok ?_ | refine R.zk ?_ | refine R.zn ?_ | refine R.done ?_ | refine X.then ?_ | refine C.block ?_ | refine C.ret ?_ | refine C.skip ?_ | refine C.exit ?_ | refine X.pass_ret ?_ | refine X.pass_exit ?_ | refine X.block_normal ?_ | refine X.block_ret ?_ | refine X.block_exit ?_ | refine C.zt ?_ | refine C.zf ?_ | refine X.zo ?_)
  by_cases hlt : (i : Int) < (sc.length : Nat)
  · rw [decide_eq_true hlt]
    have hlt : i < sc.length := by omega
    repeat (first | refine C.seq ?_ | refine C.region ?_ | refine R.zb ttok ?_ | refine R.zu ttok ?_ | refine R.zc ttok ?_ | refine R.za ttok ?_ | refine R.zx ?_ | refine R.zl ttok ?_ | refine R.zs ttok ?_ | refine R.z ttok ?_ | refine R.zk ?_ | refine R.zn ?_ | refine R.done ?_ | refine X.then ?_ | refine C.block ?_ | refine C.ret ?_ | refine C.skip ?_ | refine C.exit ?_ | refine X.pass_ret ?_ | refine X.pass_exit ?_ | refine X.block_normal ?_ | refine X.block_ret ?_ | refine X.block_exit ?_ | refine C.zt ?_ | refine C.zf ?_ | refine X.zo ?_)
    refine R.ix1 ttok i rfl rfl rfl rfl rfl rfl rfl hlt (⟨by omega, by omega⟩ : off ≤ off + i * 6 ∧ off + i * 6 < off + sc.length * 6) rfl ?_
    refine R.ldr1 (v := .agg (stZ (sc.getD i StZ.no))) ttok i rfl rfl rfl rfl rfl rfl rfl rfl (by decide) (by omega) ?_
    refine R.clF [1, 3] (write_spec (sc.getD i StZ.no) l c hs false hA (by omega) hc.1 hc.2 (by omega) (by omega)) (Nat.le_refl _) (fun _ _ => rfl) Try.call18 (by repeat (first | exact HasIn.nil | refine HasIn.same rfl rfl ?_ | refine HasIn.c1 rfl rfl ?_ | refine HasIn.roq rfl rfl ?_ | refine HasIn.other rfl (fun e => by cases e) (fun ρ x w hh => tab_ro hh) ?_ | refine HasIn.other rfl (fun e => by cases e) (fun ρ x w hh => tab_any hh) ?_ | refine HasIn.roAp rfl rfl ?_ | refine HasIn.other rfl (fun e => by cases e) (fun ρ x w hh => cells_any hh) ?_ | refine HasIn.other rfl (fun e => by cases e) (fun ρ x w hh => ro_any hh) ?_)) rfl rfl rfl (fun _ => rfl) rfl (by kernel_rfl) fun s hs1 => ?_
    refine R.dropG ?_
    have hwl := wr_le (sc.getD i StZ.no) l false s.2.1
    have hwn := wrN_bd (sc.getD i StZ.no) l hs
    have hdz : DZ (wrZ (sc.getD i StZ.no) l false s.2.1) := dz_wr hD _ _ _
    repeat (first | refine C.seq ?_ | refine C.region ?_ | refine R.zb ttok ?_ | refine R.zu ttok ?_ | refine R.zc ttok ?_ | refine R.za ttok ?_ | refine R.zx ?_ | refine R.zl ttok ?_ | refine R.zs ttok ?_ | refine R.z ttok ?_ | refine R.zk ?_ | refine R.zn ?_ | refine R.done ?_ | refine X.then ?_ | refine C.block ?_ | refine C.ret ?_ | refine C.skip ?_ | refine C.exit ?_ | refine X.pass_ret ?_ | refine X.pass_exit ?_ | refine X.block_normal ?_ | refine X.block_ret ?_ | refine X.block_exit ?_ | refine C.zt ?_ | refine C.zf ?_ | refine X.zo ?_)
    exact X.backG [(3, 4)] (i + 1, wrZ (sc.getD i StZ.no) l false s.2.1, s.1, wrN (sc.getD i StZ.no) l hs) ⟨hlt, ⟨asc_wr hA _ _ _, hdz, wr_keys _ rfl _ _ hks⟩, by dsimp only; omega, ⟨hs1.1, hs1.2.1⟩, by dsimp only; omega⟩ (by dsimp only; omega) rfl (by repeat (first | exact HasT.nil | refine HasT.cons rfl rfl rfl ?_)) (by repeat (first | exact HasH.nil | refine HasH.same rfl rfl rfl trivial ?_ | refine HasH.same rfl rfl rfl rfl ?_ | refine HasH.same rfl rfl rfl (fun _ _ => rfl) ?_ | refine HasH.roz rfl rfl ?_)) rfl (fun _ h => h)
  rw [decide_eq_false hlt]
  obtain rfl : i = sc.length := by omega
  repeat (first | refine C.seq ?_ | refine C.region ?_ | refine R.zb ttok ?_ | refine R.zu ttok ?_ | refine R.zc ttok ?_ | refine R.za ttok ?_ | refine R.zx ?_ | refine R.zl ttok ?_ | refine R.zs ttok ?_ | refine R.z ttok ?_ | refine R.zk ?_ | refine R.zn ?_ | refine R.done ?_ | refine X.then ?_ | refine C.block ?_ | refine C.ret ?_ | refine C.skip ?_ | refine C.exit ?_ | refine X.pass_ret ?_ | refine X.pass_exit ?_ | refine X.block_normal ?_ | refine X.block_ret ?_ | refine X.block_exit ?_ | refine C.zt ?_ | refine C.zf ?_ | refine X.zo ?_)
  refine R.cl [1] (rangeS_specZ fr to) Try.call19 (by repeat (first | exact HasIn.nil | refine HasIn.same rfl rfl ?_ | refine HasIn.c1 rfl rfl ?_ | refine HasIn.roq rfl rfl ?_ | refine HasIn.other rfl (fun e => by cases e) (fun ρ x w hh => tab_ro hh) ?_ | refine HasIn.other rfl (fun e => by cases e) (fun ρ x w hh => tab_any hh) ?_ | refine HasIn.roAp rfl rfl ?_ | refine HasIn.other rfl (fun e => by cases e) (fun ρ x w hh => cells_any hh) ?_ | refine HasIn.other rfl (fun e => by cases e) (fun ρ x w hh => ro_any hh) ?_)) rfl rfl rfl (fun _ => rfl) rfl (by kernel_rfl) fun _ _ => ?_
  repeat (first | refine C.seq ?_ | refine C.region ?_ | refine R.zb ttok ?_ | refine R.zu ttok ?_ | refine R.zc ttok ?_ | refine R.za ttok ?_ | refine R.zx ?_ | refine R.zl ttok ?_ | refine R.zs ttok ?_ | refine R.z ttok ?_ | refine R.zk ?_ | refine R.zn ?_ | refine R.done ?_ | refine X.then ?_ | refine C.block ?_ | refine C.ret ?_ | refine C.skip ?_ | refine C.exit ?_ | refine X.pass_ret ?_ | refine X.pass_exit ?_ | refine X.block_normal ?_ | refine X.block_ret ?_ | refine X.block_exit ?_ | refine C.zt ?_ | refine C.zf ?_ | refine X.zo ?_)
  refine R.clF [1, 3, 4, 5, 6] (prsRg_spec l c fr to hs false hA (by omega)) (Nat.le_refl _) (fun _ _ => rfl) Try.call20 (by repeat (first | exact HasIn.nil | refine HasIn.same rfl rfl ?_ | refine HasIn.c1 rfl rfl ?_ | refine HasIn.roq rfl rfl ?_ | refine HasIn.other rfl (fun e => by cases e) (fun ρ x w hh => tab_ro hh) ?_ | refine HasIn.other rfl (fun e => by cases e) (fun ρ x w hh => tab_any hh) ?_ | refine HasIn.roAp rfl rfl ?_ | refine HasIn.other rfl (fun e => by cases e) (fun ρ x w hh => cells_any hh) ?_ | refine HasIn.other rfl (fun e => by cases e) (fun ρ x w hh => ro_any hh) ?_)) rfl rfl rfl (fun _ => rfl) rfl (by kernel_rfl) fun q hq => ?_
  have hk := rg_keys hA hq.1
  rw [hk.1, hk.2] at hq ⊢
  have htell := fun q hq => rgV_tell (l := l) hA (fr := fr) (to := to) (q := q) hq
  have hasc := rgV_asc hA fr to
  have hnd := rgV_nodup hA fr to
  have hmem := rgV_mem hA hks fr to
  have hRl : (rgV l fr to).length ≤ 60 := by
    have : (rgV l fr to).length ≤ l.length := by unfold rgV VZ; exact Nat.le_trans (List.length_filter_le _ _) (by rw [List.length_map]; exact List.length_filter_le _ _)
    omega
  obtain ⟨RV, hR⟩ : ∃ RV, rgV l fr to = RV := ⟨_, rfl⟩
  obtain ⟨sj, c1, c2⟩ := q
  rw [hR] at hq htell hasc hnd hmem hRl ⊢
  dsimp only at hq ⊢
  rw [show (RV.map Prod.snd).length = (RV.map Prod.fst).length by rw [List.length_map, List.length_map]]
  repeat (first | refine C.seq ?_ | refine C.region ?_ | refine R.zb ttok ?_ | refine R.zu ttok ?_ | refine R.zc ttok ?_ | refine R.za ttok ?_ | refine R.zx ?_ | refine R.zl ttok ?_ | refine R.zs ttok ?_ | refine R.z ttok ?_ | refine R.zk ?_ | refine R.zn ?_ | refine R.done ?_ | refine X.then ?_ | refine C.block ?_ | refine C.ret ?_ | refine C.skip ?_ | refine C.exit ?_ | refine X.pass_ret ?_ | refine X.pass_exit ?_ | refine X.block_normal ?_ | refine X.block_ret ?_ | refine X.block_exit ?_ | refine C.zt ?_ | refine C.zf ?_ | refine X.zo ?_)
  refine C.loop (σ := Nat) (L2 := 12) (fun i => i ≤ RV.length) (fun i => [(0, .sl 0 1 off sc.length cap), (1, .raw (.string fr)), (2, .raw (.string to)), (7, .ptr 1 0 0 0), (9, .ptr 7 0 0 0), (10, .ptr 10 0 0 0), (11, .ptr 11 0 0 0), (12, .raw (.int .i64 (i : Nat)))]) (fun _ => [(0, roZ off sc), (1, tbIZ 3 l.length c hs false), (3, tIZ l c), (4, .cells [.ptr 1 0 0 0] spT), (5, .cells [.raw (.string fr)] strT), (6, .cells [.raw (.string to)] strT), (7, .cells [.fn rsZ [.ptr 4 0 0 0, .ptr 5 0 0 0, .ptr 6 0 0 0]] 44), (8, tX (RV.map Prod.fst) c1), (9, tN (RV.map Prod.snd) c2), (10, .cells [.sl 8 1 0 (RV.map Prod.fst).length c1] kT), (11, .cells [.sl 9 1 0 (RV.map Prod.fst).length c2] vT)]) (FF [roZ off sc] ρ w [] (zF l)) (fun i => RV.length - i) [] 0 (Nat.zero_le _) rfl (by repeat (first | exact HasT.nil | refine HasT.cons rfl rfl rfl ?_)) (by repeat (first | exact HasH.nil | refine HasH.same rfl rfl rfl trivial ?_ | refine HasH.same rfl rfl rfl rfl ?_ | refine HasH.same rfl rfl rfl (fun _ _ => rfl) ?_ | refine HasH.roz rfl rfl ?_)) rfl (fun _ h => h) ?_
  rintro i hi
  repeat (first | refine C.seq ?_ | refine C.region ?_ | refine R.zb ttok ?_ | refine R.zu ttok ?_ | refine R.zc ttok ?_ | refine R.za ttok ?_ | refine R.zx ?_ | refine R.zl ttok ?_ | refine R.zs ttok ?_ | refine R.z ttok ?_ | refine R.zk ?_ | refine R.zn ?_ | refine R.done ?_ | refine X.then ?_ | refine C.block ?_ | refine C.ret ?_ | refine C.skip ?_ | refine C.exit ?_ | refine X.pass_ret ?_ | refine X.pass_exit ?_ | refine X.block_normal ?_ | refine X.block_ret ?_ | refine X.block_exit ?_ | refine C.zt ?_ | refine C.zf ?_ | refine X.zo ?_)
  by_cases hlt : (i : Int) < ((RV.map Prod.fst).length : Nat)
  · rw [decide_eq_true hlt]
    rw [List.length_map] at hlt
    have hlt : i < RV.length := by omega
    repeat (first | refine C.seq ?_ | refine C.region ?_ | refine R.zb ttok ?_ | refine R.zu ttok ?_ | refine R.zc ttok ?_ | refine R.za ttok ?_ | refine R.zx ?_ | refine R.zl ttok ?_ | refine R.zs ttok ?_ | refine R.z ttok ?_ | refine R.zk ?_ | refine R.zn ?_ | refine R.done ?_ | refine X.then ?_ | refine C.block ?_ | refine C.ret ?_ | refine C.skip ?_ | refine C.exit ?_ | refine X.pass_ret ?_ | refine X.pass_exit ?_ | refine X.block_normal ?_ | refine X.block_ret ?_ | refine X.block_exit ?_ | refine C.zt ?_ | refine C.zf ?_ | refine X.zo ?_)
    refine R.ix ttok i rfl rfl rfl rfl rfl (by kernel_rfl) rfl (by rw [List.length_map]; exact hlt) (by show _ < _; rw [List.length_map]; omega) rfl ?_
    rw [Nat.zero_add i]
    refine R.ldt (v := .raw (.string ((RV.map Prod.fst).getD i noT))) ttok rfl rfl rfl rfl rfl (by kernel_rfl) (by rw [List.length_map]; exact hlt) ?_
    refine R.clF [1, 3] (get_specZ l c ((RV.map Prod.fst).getD i noT) hA (by omega)) (Nat.le_refl _) (fun _ _ => rfl) Try.call21 (by repeat (first | exact HasIn.nil | refine HasIn.same rfl rfl ?_ | refine HasIn.c1 rfl rfl ?_ | refine HasIn.roq rfl rfl ?_ | refine HasIn.other rfl (fun e => by cases e) (fun ρ x w hh => tab_ro hh) ?_ | refine HasIn.other rfl (fun e => by cases e) (fun ρ x w hh => tab_any hh) ?_ | refine HasIn.roAp rfl rfl ?_ | refine HasIn.other rfl (fun e => by cases e) (fun ρ x w hh => cells_any hh) ?_ | refine HasIn.other rfl (fun e => by cases e) (fun ρ x w hh => ro_any hh) ?_)) rfl rfl rfl (fun _ => rfl) rfl (by kernel_rfl) fun _ _ => ?_
    have hkey : (RV.map Prod.fst).getD i noT = (RV[i]).1 := by rw [List.getD_eq_getElem?_getD, List.getElem?_map, List.getElem?_eq_getElem hlt]; rfl
    have hval : (RV.map Prod.snd).getD i 0 = (RV[i]).2 := by rw [List.getD_eq_getElem?_getD, List.getElem?_map, List.getElem?_eq_getElem hlt]; rfl
    obtain ⟨t1, t2, t3, t4⟩ := htell _ (List.getElem_mem hlt)
    rw [← hkey] at t1 t2 t3 t4
    rw [← hval] at t2
    rw [t1, t2]
    repeat (first | refine C.seq ?_ | refine C.region ?_ | refine R.zb ttok ?_ | refine R.zu ttok ?_ | refine R.zc ttok ?_ | refine R.za ttok ?_ | refine R.zx ?_ | refine R.zl ttok ?_ | refine R.zs ttok ?_ | refine R.z ttok ?_ | refine R.zk ?_ | refine R.zn ?_ | refine R.done ?_ | refine X.then ?_ | refine C.block ?_ | refine C.ret ?_ | refine C.skip ?_ | refine C.exit ?_ | refine X.pass_ret ?_ | refine X.pass_exit ?_ | refine X.block_normal ?_ | refine X.block_ret ?_ | refine X.block_exit ?_ | refine C.zt ?_ | refine C.zf ?_ | refine X.zo ?_)
    refine C.draw [[], [0], [0, 1], [0, 1, 2], [0, 1, 2], [0, 1, 2], [0, 1, 2, 4, 5], [0, 1, 2, 4, 5, 6], [0, 1, 2, 3, 4, 5, 6, 7], [0, 1, 2, 3, 4, 5, 6, 7, 8], [0, 1, 2, 3, 4, 5, 6, 7, 8, 9], [0, 1, 2, 3, 4, 5, 6, 7, 8, 9, 10], [0, 1, 2, 3, 4, 5, 6, 7, 8, 9, 10], [0, 1, 2, 3, 4, 5, 6, 7, 8, 9, 10, 11, 12], [0, 1, 2, 3, 4, 5, 6, 7, 8, 9, 10, 11, 12, 13], [0, 1, 2, 3, 4, 5, 6, 7, 8, 9, 10], [0, 1, 2, 3, 4, 5, 6, 7, 8, 9, 10, 11, 12, 13, 14, 15], [0, 1, 2, 3, 4, 5, 6, 7, 8, 9, 10, 11, 12, 13, 14, 15, 16], [0, 1, 2, 3, 4, 5, 6, 7, 8, 9, 10, 11, 12, 13, 14, 15, 16, 17], [0, 1, 2, 3, 4, 5, 6, 7, 8, 9, 10, 11, 12, 13, 14, 15, 16, 17, 18], [0, 1, 2, 3, 4, 5, 6, 7, 8, 9, 10, 11, 12, 13, 14, 15, 16, 17, 18, 19], [0, 1, 2, 3, 4, 5, 6, 7, 8, 9, 10, 11, 12, 13, 14, 15, 16, 17, 18, 19, 20], [0, 1, 2, 3, 4, 5, 6, 7, 8, 9, 10, 11, 12, 13, 14, 15, 16, 17, 18, 19, 20, 21], [0, 1, 2, 3, 4, 5, 6, 7, 8, 9, 10, 11, 12, 13, 14, 15, 16, 17, 18, 19, 20, 21], [0, 1, 2, 3, 4, 5, 6, 7, 8, 9, 10, 11, 12, 13, 14, 15, 16, 17, 18, 19, 20, 21, 22, 23], [0, 1, 2, 3, 4, 5, 6, 7, 8, 9, 10, 11, 12, 13, 14, 15, 16, 17, 18, 19, 20, 21, 22, 23, 24], [0, 1, 2, 3, 4, 5, 6, 7, 8, 9, 10, 11, 12, 13, 14, 15, 16, 17, 18, 19, 20, 21], [0, 1, 2, 3, 4, 5, 6, 7, 8, 9, 10, 11, 12, 13, 14, 15, 16, 17, 18, 19, 20, 21, 22, 23, 24, 25, 26], [0, 1, 2, 3, 4, 5, 6, 7, 8, 9, 10, 11, 12, 13, 14, 15, 16, 17, 18, 19, 20, 21, 22, 23, 24, 25, 26, 27], [0, 1, 2, 3, 4, 5, 6, 7, 8, 9, 10, 11, 12, 13, 14, 15, 16, 17, 18, 19, 20, 21, 22, 23, 24, 25, 26, 27, 28], [0, 1, 2, 3, 4, 5, 6, 7, 8, 9, 10, 11, 12, 13, 14, 15, 16, 17, 18, 19, 20, 21, 22, 23, 24, 25, 26, 27, 28, 29], [0, 1, 2, 3, 4, 5, 6, 7, 8, 9, 10, 11, 12, 13, 14, 15, 16, 17, 18, 19, 20, 21, 22, 23, 24, 25, 26, 27, 28, 29, 30], [0, 1, 2, 3, 4, 5, 6, 7, 8, 9, 10, 11, 12, 13, 14, 15, 16, 17, 18, 19, 20, 21, 22, 23, 24, 25, 26, 27, 28, 29, 30, 31], [0, 1, 2, 3, 4, 5, 6, 7, 8, 9, 10, 11, 12, 13, 14, 15, 16, 17, 18, 19, 20, 21, 22, 23, 24, 25, 26, 27, 28, 29, 30, 31, 32], [0, 1, 2, 3, 4, 5, 6, 7, 8, 9, 10, 11, 12, 13, 14, 15, 16, 17, 18, 19, 20, 21, 22, 23, 24, 25, 26, 27, 28, 29, 30, 31, 32, 33], [0, 1, 2, 3, 4, 5, 6, 7, 8, 9, 10, 11, 12, 13, 14, 15, 16, 17, 18, 19, 20, 21, 22, 23, 24, 25, 26, 27, 28, 29, 30, 31, 32, 33], [0, 1, 2, 3, 4, 5, 6, 7, 8, 9, 10, 11, 12, 13, 14, 15, 16, 17, 18, 19, 20, 21, 22, 23, 24, 25, 26, 27, 28, 29, 30, 31, 32, 33, 34, 35], [0, 1, 2, 3, 4, 5, 6, 7, 8, 9, 10, 11, 12, 13, 14, 15, 16, 17, 18, 19, 20, 21, 22, 23, 24, 25, 26, 27, 28, 29, 30, 31, 32, 33, 34, 35, 36], [0, 1, 2, 3, 4, 5, 6, 7, 8, 9, 10, 11, 12, 13, 14, 15, 16, 17, 18, 19, 20, 21, 22, 23, 24, 25, 26, 27, 28, 29, 30, 31, 32, 33], [0, 1, 2, 3, 4, 5, 6, 7, 8, 9, 10, 11, 12, 13, 14, 15, 16, 17, 18, 19, 20, 21, 22, 23, 24, 25, 26, 27, 28, 29, 30, 31, 32, 33], [0, 1, 2, 3, 4, 5, 6, 7, 8, 9, 10, 11, 12, 13, 14, 15, 16, 17, 18, 19, 20, 21, 22, 23, 24, 25, 26, 27, 28, 29, 30, 31, 32, 33, 39], [0, 1, 2, 3, 4, 5, 6, 7, 8, 9, 10, 11, 12, 13, 14, 15, 16, 17, 18, 19, 20, 21, 22, 23, 24, 25, 26, 27, 28, 29, 30, 31, 32, 33, 38, 39, 40], [0, 1, 2, 3, 4, 5, 6, 7, 8, 9, 10, 11, 12, 13, 14, 15, 16, 17, 18, 19, 20, 21, 22, 23, 24, 25, 26, 27, 28, 29, 30, 31, 32, 33, 38, 39, 40, 41], [0, 1, 2, 3, 4, 5, 6, 7, 8, 9, 10, 11, 12, 13, 14, 15, 16, 17, 18, 19, 20, 21, 22, 23, 24, 25, 26, 27, 28, 29, 30, 31, 32, 33, 34, 35, 36, 37, 38, 39, 40, 41, 42], [0, 1, 2, 3, 4, 5, 6, 7, 8, 9, 10, 11, 12, 13, 14, 15, 16, 17, 18, 19, 20, 21, 22, 23, 24, 25, 26, 27, 28, 29, 30, 31, 32, 33, 34, 35, 36, 37, 38, 39, 40, 41, 42, 43], [0, 1, 2, 3, 4, 5, 6, 7, 8, 9, 10, 11, 12, 13, 14, 15, 16, 17, 18, 19, 20, 21, 22, 23, 24, 25, 26, 27, 28, 29, 30, 31, 32, 33, 34, 35, 36, 37, 38, 39, 40, 41, 42, 43, 44]] [] (by kernel_rfl) (by kernel_rfl) ?_
    repeat (first | refine C.seq ?_ | refine C.region ?_ | refine R.zb ttok ?_ | refine R.zu ttok ?_ | refine R.zc ttok ?_ | refine R.za ttok ?_ | refine R.zx ?_ | refine R.zl ttok ?_ | refine R.zs ttok ?_ | refine R.z ttok ?_ | refine R.zk ?_ | refine R.zn ?_ | refine R.done ?_ | refine X.then ?_ | refine C.block ?_ | refine C.ret ?_ | refine C.skip ?_ | refine C.exit ?_ | refine X.pass_ret ?_ | refine X.pass_exit ?_ | refine X.block_normal ?_ | refine X.block_ret ?_ | refine X.block_exit ?_ | refine C.zt ?_ | refine C.zf ?_ | refine X.zo ?_)
    refine R.ix ttok i rfl rfl rfl rfl rfl (by kernel_rfl) rfl (by rw [List.length_map]; exact hlt) (by show _ < _; rw [List.length_map]; omega) rfl ?_
    rw [Nat.zero_add i]
    refine R.ldt (v := .raw (.int .i64 ((RV.map Prod.snd).getD i 0))) ttok rfl rfl rfl rfl rfl (by kernel_rfl) (by rw [List.length_map]; exact hlt) ?_
    repeat (first | refine C.seq ?_ | refine C.region ?_ | refine R.zb ttok ?_ | refine R.zu ttok ?_ | refine R.zc ttok ?_ | refine R.za ttok ?_ | refine R.zx ?_ | refine R.zl ttok ?_ | refine R.zs ttok ?_ | refine R.z ttok ?_ | refine R.zk ?_ | refine R.zn ?_ | refine R.done ?_ | refine X.then ?_ | refine C.block ?_ | refine C.ret ?_ | refine C.skip ?_ | refine C.exit ?_ | refine X.pass_ret ?_ | refine X.pass_exit ?_ | refine X.block_normal ?_ | refine X.block_ret ?_ | refine X.block_exit ?_ | refine C.zt ?_ | refine C.zf ?_ | refine X.zo ?_)
    rw [decide_eq_false (show ¬ (RV.map Prod.snd).getD i 0 ≠ (RV.map Prod.snd).getD i 0 from fun h => h rfl)]
    repeat (first | refine C.seq ?_ | refine C.region ?_ | refine R.zb ttok ?_ | refine R.zu ttok ?_ | refine R.zc ttok ?_ | refine R.za ttok ?_ | refine R.zx ?_ | refine R.zl ttok ?_ | refine R.zs ttok ?_ | refine R.z ttok ?_ | refine R.zk ?_ | refine R.zn ?_ | refine R.done ?_ | refine X.then ?_ | refine C.block ?_ | refine C.ret ?_ | refine C.skip ?_ | refine C.exit ?_ | refine X.pass_ret ?_ | refine X.pass_exit ?_ | refine X.block_normal ?_ | refine X.block_ret ?_ | refine X.block_exit ?_ | refine C.zt ?_ | refine C.zf ?_ | refine X.zo ?_)
    refine R.ix ttok (i) rfl rfl rfl rfl rfl (by kernel_rfl) (rfl) (by rw [List.length_map]; omega) (by show _ < _; rw [List.length_map]; omega) rfl ?_
    rw [Nat.zero_add (i)]
    refine R.ldt (v := .raw (.string ((RV.map Prod.fst).getD (i) noT))) ttok rfl rfl rfl rfl rfl (by kernel_rfl) (by rw [List.length_map]; omega) ?_
    repeat (first | refine C.seq ?_ | refine C.region ?_ | refine R.zb ttok ?_ | refine R.zu ttok ?_ | refine R.zc ttok ?_ | refine R.za ttok ?_ | refine R.zx ?_ | refine R.zl ttok ?_ | refine R.zs ttok ?_ | refine R.z ttok ?_ | refine R.zk ?_ | refine R.zn ?_ | refine R.done ?_ | refine X.then ?_ | refine C.block ?_ | refine C.ret ?_ | refine C.skip ?_ | refine C.exit ?_ | refine X.pass_ret ?_ | refine X.pass_exit ?_ | refine X.block_normal ?_ | refine X.block_ret ?_ | refine X.block_exit ?_ | refine C.zt ?_ | refine C.zf ?_ | refine X.zo ?_)
    rw [less_cmp, decide_eq_false t3]
    repeat (first | refine C.seq ?_ | refine C.region ?_ | refine R.zb ttok ?_ | refine R.zu ttok ?_ | refine R.zc ttok ?_ | refine R.za ttok ?_ | refine R.zx ?_ | refine R.zl ttok ?_ | refine R.zs ttok ?_ | refine R.z ttok ?_ | refine R.zk ?_ | refine R.zn ?_ | refine R.done ?_ | refine X.then ?_ | refine C.block ?_ | refine C.ret ?_ | refine C.skip ?_ | refine C.exit ?_ | refine X.pass_ret ?_ | refine X.pass_exit ?_ | refine X.block_normal ?_ | refine X.block_ret ?_ | refine X.block_exit ?_ | refine C.zt ?_ | refine C.zf ?_ | refine X.zo ?_)
    have hup : ¬ i = 0 → gtB ((RV.map Prod.fst).getD i noT) ((RV.map Prod.fst).getD (i - 1) noT) = true := fun h => by
      have hkey2 : (RV.map Prod.fst).getD (i - 1) noT = (RV[i - 1]).1 := by rw [List.getD_eq_getElem?_getD, List.getElem?_map, List.getElem?_eq_getElem (by omega)]; rfl
      rw [hkey, hkey2, gt_cmp]
      exact decide_eq_true (List.pairwise_iff_getElem.1 hasc (i - 1) i (by omega) hlt (by omega))
    cases hne : neB to noT with
    | false =>
      rw [show decide (to.toList ≠ (⟨#[]⟩ : ByteArray).toList) = false from hne]
      repeat (first | refine C.seq ?_ | refine C.region ?_ | refine R.zb ttok ?_ | refine R.zu ttok ?_ | refine R.zc ttok ?_ | refine R.za ttok ?_ | refine R.zx ?_ | refine R.zl ttok ?_ | refine R.zs ttok ?_ | refine R.z ttok ?_ | refine R.zk ?_ | refine R.zn ?_ | refine R.done ?_ | refine X.then ?_ | refine C.block ?_ | refine C.ret ?_ | refine C.skip ?_ | refine C.exit ?_ | refine X.pass_ret ?_ | refine X.pass_exit ?_ | refine X.block_normal ?_ | refine X.block_ret ?_ | refine X.block_exit ?_ | refine C.zt ?_ | refine C.zf ?_ | refine X.zo ?_)
      by_cases hi0 : i = 0
      · rw [decide_eq_false (show ¬ ((i : Nat) : Int) > 0 by omega)]
        repeat (first | refine C.seq ?_ | refine C.region ?_ | refine R.zb ttok ?_ | refine R.zu ttok ?_ | refine R.zc ttok ?_ | refine R.za ttok ?_ | refine R.zx ?_ | refine R.zl ttok ?_ | refine R.zs ttok ?_ | refine R.z ttok ?_ | refine R.zk ?_ | refine R.zn ?_ | refine R.done ?_ | refine X.then ?_ | refine C.block ?_ | refine C.ret ?_ | refine C.skip ?_ | refine C.exit ?_ | refine X.pass_ret ?_ | refine X.pass_exit ?_ | refine X.block_normal ?_ | refine X.block_ret ?_ | refine X.block_exit ?_ | refine C.zt ?_ | refine C.zf ?_ | refine X.zo ?_)
        exact X.back [] (i + 1) hlt (by omega) rfl (by repeat (first | exact HasT.nil | refine HasT.cons rfl rfl rfl ?_)) (by repeat (first | exact HasH.nil | refine HasH.same rfl rfl rfl trivial ?_ | refine HasH.same rfl rfl rfl rfl ?_ | refine HasH.same rfl rfl rfl (fun _ _ => rfl) ?_ | refine HasH.roz rfl rfl ?_)) rfl (fun _ h => h)
      · rw [decide_eq_true (show ((i : Nat) : Int) > 0 by omega)]
        repeat (first | refine C.seq ?_ | refine C.region ?_ | refine R.zb ttok ?_ | refine R.zu ttok ?_ | refine R.zc ttok ?_ | refine R.za ttok ?_ | refine R.zx ?_ | refine R.zl ttok ?_ | refine R.zs ttok ?_ | refine R.z ttok ?_ | refine R.zk ?_ | refine R.zn ?_ | refine R.done ?_ | refine X.then ?_ | refine C.block ?_ | refine C.ret ?_ | refine C.skip ?_ | refine C.exit ?_ | refine X.pass_ret ?_ | refine X.pass_exit ?_ | refine X.block_normal ?_ | refine X.block_ret ?_ | refine X.block_exit ?_ | refine C.zt ?_ | refine C.zf ?_ | refine X.zo ?_)
        refine R.ix ttok (i) rfl rfl rfl rfl rfl (by kernel_rfl) (rfl) (by rw [List.length_map]; omega) (by show _ < _; rw [List.length_map]; omega) rfl ?_
        rw [Nat.zero_add (i)]
        refine R.ldt (v := .raw (.string ((RV.map Prod.fst).getD (i) noT))) ttok rfl rfl rfl rfl rfl (by kernel_rfl) (by rw [List.length_map]; omega) ?_
        repeat (first | refine C.seq ?_ | refine C.region ?_ | refine R.zb ttok ?_ | refine R.zu ttok ?_ | refine R.zc ttok ?_ | refine R.za ttok ?_ | refine R.zx ?_ | refine R.zl ttok ?_ | refine R.zs ttok ?_ | refine R.z ttok ?_ | refine R.zk ?_ | refine R.zn ?_ | refine R.done ?_ | refine X.then ?_ | refine C.block ?_ | refine C.ret ?_ | refine C.skip ?_ | refine C.exit ?_ | refine X.pass_ret ?_ | refine X.pass_exit ?_ | refine X.block_normal ?_ | refine X.block_ret ?_ | refine X.block_exit ?_ | refine C.zt ?_ | refine C.zf ?_ | refine X.zo ?_)
        refine R.ix ttok (i - 1) rfl rfl rfl rfl rfl (by kernel_rfl) ((by omega)) (by rw [List.length_map]; omega) (by show _ < _; rw [List.length_map]; omega) rfl ?_
        rw [Nat.zero_add (i - 1)]
        refine R.ldt (v := .raw (.string ((RV.map Prod.fst).getD (i - 1) noT))) ttok rfl rfl rfl rfl rfl (by kernel_rfl) (by rw [List.length_map]; omega) ?_
        repeat (first | refine C.seq ?_ | refine C.region ?_ | refine R.zb ttok ?_ | refine R.zu ttok ?_ | refine R.zc ttok ?_ | refine R.za ttok ?_ | refine R.zx ?_ | refine R.zl ttok ?_ | refine R.zs ttok ?_ | refine R.z ttok ?_ | refine R.zk ?_ | refine R.zn ?_ | refine R.done ?_ | refine X.then ?_ | refine C.block ?_ | refine C.ret ?_ | refine C.skip ?_ | refine C.exit ?_ | refine X.pass_ret ?_ | refine X.pass_exit ?_ | refine X.block_normal ?_ | refine X.block_ret ?_ | refine X.block_exit ?_ | refine C.zt ?_ | refine C.zf ?_ | refine X.zo ?_)
        rw [leq_gt, hup hi0]
        repeat (first | refine C.seq ?_ | refine C.region ?_ | refine R.zb ttok ?_ | refine R.zu ttok ?_ | refine R.zc ttok ?_ | refine R.za ttok ?_ | refine R.zx ?_ | refine R.zl ttok ?_ | refine R.zs ttok ?_ | refine R.z ttok ?_ | refine R.zk ?_ | refine R.zn ?_ | refine R.done ?_ | refine X.then ?_ | refine C.block ?_ | refine C.ret ?_ | refine C.skip ?_ | refine C.exit ?_ | refine X.pass_ret ?_ | refine X.pass_exit ?_ | refine X.block_normal ?_ | refine X.block_ret ?_ | refine X.block_exit ?_ | refine C.zt ?_ | refine C.zf ?_ | refine X.zo ?_)
        exact X.back [] (i + 1) hlt (by omega) rfl (by repeat (first | exact HasT.nil | refine HasT.cons rfl rfl rfl ?_)) (by repeat (first | exact HasH.nil | refine HasH.same rfl rfl rfl trivial ?_ | refine HasH.same rfl rfl rfl rfl ?_ | refine HasH.same rfl rfl rfl (fun _ _ => rfl) ?_ | refine HasH.roz rfl rfl ?_)) rfl (fun _ h => h)
    | true =>
      have hgt : gtB ((RV.map Prod.fst).getD i noT) to = false := by
        unfold past at t4
        rw [hne, Bool.true_and] at t4
        exact t4
      rw [show decide (to.toList ≠ (⟨#[]⟩ : ByteArray).toList) = true from hne]
      repeat (first | refine C.seq ?_ | refine C.region ?_ | refine R.zb ttok ?_ | refine R.zu ttok ?_ | refine R.zc ttok ?_ | refine R.za ttok ?_ | refine R.zx ?_ | refine R.zl ttok ?_ | refine R.zs ttok ?_ | refine R.z ttok ?_ | refine R.zk ?_ | refine R.zn ?_ | refine R.done ?_ | refine X.then ?_ | refine C.block ?_ | refine C.ret ?_ | refine C.skip ?_ | refine C.exit ?_ | refine X.pass_ret ?_ | refine X.pass_exit ?_ | refine X.block_normal ?_ | refine X.block_ret ?_ | refine X.block_exit ?_ | refine C.zt ?_ | refine C.zf ?_ | refine X.zo ?_)
      refine R.ix ttok (i) rfl rfl rfl rfl rfl (by kernel_rfl) (rfl) (by rw [List.length_map]; omega) (by show _ < _; rw [List.length_map]; omega) rfl ?_
      rw [Nat.zero_add (i)]
      refine R.ldt (v := .raw (.string ((RV.map Prod.fst).getD (i) noT))) ttok rfl rfl rfl rfl rfl (by kernel_rfl) (by rw [List.length_map]; omega) ?_
      repeat (first | refine C.seq ?_ | refine C.region ?_ | refine R.zb ttok ?_ | refine R.zu ttok ?_ | refine R.zc ttok ?_ | refine R.za ttok ?_ | refine R.zx ?_ | refine R.zl ttok ?_ | refine R.zs ttok ?_ | refine R.z ttok ?_ | refine R.zk ?_ | refine R.zn ?_ | refine R.done ?_ | refine X.then ?_ | refine C.block ?_ | refine C.ret ?_ | refine C.skip ?_ | refine C.exit ?_ | refine X.pass_ret ?_ | refine X.pass_exit ?_ | refine X.block_normal ?_ | refine X.block_ret ?_ | refine X.block_exit ?_ | refine C.zt ?_ | refine C.zf ?_ | refine X.zo ?_)
      rw [show (!(Op.bytesLess ((RV.map Prod.fst).getD i noT).toList to.toList || decide (((RV.map Prod.fst).getD i noT).toList = to.toList))) = false from hgt]
      repeat (first | refine C.seq ?_ | refine C.region ?_ | refine R.zb ttok ?_ | refine R.zu ttok ?_ | refine R.zc ttok ?_ | refine R.za ttok ?_ | refine R.zx ?_ | refine R.zl ttok ?_ | refine R.zs ttok ?_ | refine R.z ttok ?_ | refine R.zk ?_ | refine R.zn ?_ | refine R.done ?_ | refine X.then ?_ | refine C.block ?_ | refine C.ret ?_ | refine C.skip ?_ | refine C.exit ?_ | refine X.pass_ret ?_ | refine X.pass_exit ?_ | refine X.block_normal ?_ | refine X.block_ret ?_ | refine X.block_exit ?_ | refine C.zt ?_ | refine C.zf ?_ | refine X.zo ?_)
      by_cases hi0 : i = 0
      · rw [decide_eq_false (show ¬ ((i : Nat) : Int) > 0 by omega)]
        repeat (first | refine C.seq ?_ | refine C.region ?_ | refine R.zb ttok ?_ | refine R.zu ttok ?_ | refine R.zc ttok ?_ | refine R.za ttok ?_ | refine R.zx ?_ | refine R.zl ttok ?_ | refine R.zs ttok ?_ | refine R.z ttok ?_ | refine R.zk ?_ | refine R.zn ?_ | refine R.done ?_ | refine X.then ?_ | refine C.block ?_ | refine C.ret ?_ | refine C.skip ?_ | refine C.exit ?_ | refine X.pass_ret ?_ | refine X.pass_exit ?_ | refine X.block_normal ?_ | refine X.block_ret ?_ | refine X.block_exit ?_ | refine C.zt ?_ | refine C.zf ?_ | refine X.zo ?_)
        exact X.back [] (i + 1) hlt (by omega) rfl (by repeat (first | exact HasT.nil | refine HasT.cons rfl rfl rfl ?_)) (by repeat (first | exact HasH.nil | refine HasH.same rfl rfl rfl trivial ?_ | refine HasH.same rfl rfl rfl rfl ?_ | refine HasH.same rfl rfl rfl (fun _ _ => rfl) ?_ | refine HasH.roz rfl rfl ?_)) rfl (fun _ h => h)
      · rw [decide_eq_true (show ((i : Nat) : Int) > 0 by omega)]
        repeat (first | refine C.seq ?_ | refine C.region ?_ | refine R.zb ttok ?_ | refine R.zu ttok ?_ | refine R.zc ttok ?_ | refine R.za ttok ?_ | refine R.zx ?_ | refine R.zl ttok ?_ | refine R.zs ttok ?_ | refine R.z ttok ?_ | refine R.zk ?_ | refine R.zn ?_ | refine R.done ?_ | refine X.then ?_ | refine C.block ?_ | refine C.ret ?_ | refine C.skip ?_ | refine C.exit ?_ | refine X.pass_ret ?_ | refine X.pass_exit ?_ | refine X.block_normal ?_ | refine X.block_ret ?_ | refine X.block_exit ?_ | refine C.zt ?_ | refine C.zf ?_ | refine X.zo ?_)
        refine R.ix ttok (i) rfl rfl rfl rfl rfl (by kernel_rfl) (rfl) (by rw [List.length_map]; omega) (by show _ < _; rw [List.length_map]; omega) rfl ?_
        rw [Nat.zero_add (i)]
        refine R.ldt (v := .raw (.string ((RV.map Prod.fst).getD (i) noT))) ttok rfl rfl rfl rfl rfl (by kernel_rfl) (by rw [List.length_map]; omega) ?_
        repeat (first | refine C.seq ?_ | refine C.region ?_ | refine R.zb ttok ?_ | refine R.zu ttok ?_ | refine R.zc ttok ?_ | refine R.za ttok ?_ | refine R.zx ?_ | refine R.zl ttok ?_ | refine R.zs ttok ?_ | refine R.z ttok ?_ | refine R.zk ?_ | refine R.zn ?_ | refine R.done ?_ | refine X.then ?_ | refine C.block ?_ | refine C.ret ?_ | refine C.skip ?_ | refine C.exit ?_ | refine X.pass_ret ?_ | refine X.pass_exit ?_ | refine X.block_normal ?_ | refine X.block_ret ?_ | refine X.block_exit ?_ | refine C.zt ?_ | refine C.zf ?_ | refine X.zo ?_)
        refine R.ix ttok (i - 1) rfl rfl rfl rfl rfl (by kernel_rfl) ((by omega)) (by rw [List.length_map]; omega) (by show _ < _; rw [List.length_map]; omega) rfl ?_
        rw [Nat.zero_add (i - 1)]
        refine R.ldt (v := .raw (.string ((RV.map Prod.fst).getD (i - 1) noT))) ttok rfl rfl rfl rfl rfl (by kernel_rfl) (by rw [List.length_map]; omega) ?_
        repeat (first | refine C.seq ?_ | refine C.region ?_ | refine R.zb ttok ?_ | refine R.zu ttok ?_ | refine R.zc ttok ?_ | refine R.za ttok ?_ | refine R.zx ?_ | refine R.zl ttok ?_ | refine R.zs ttok ?_ | refine R.z ttok ?_ | refine R.zk ?_ | refine R.zn ?_ | refine R.done ?_ | refine X.then ?_ | refine C.block ?_ | refine C.ret ?_ | refine C.skip ?_ | refine C.exit ?_ | refine X.pass_ret ?_ | refine X.pass_exit ?_ | refine X.block_normal ?_ | refine X.block_ret ?_ | refine X.block_exit ?_ | refine C.zt ?_ | refine C.zf ?_ | refine X.zo ?_)
        rw [leq_gt, hup hi0]
        repeat (first | refine C.seq ?_ | refine C.region ?_ | refine R.zb ttok ?_ | refine R.zu ttok ?_ | refine R.zc ttok ?_ | refine R.za ttok ?_ | refine R.zx ?_ | refine R.zl ttok ?_ | refine R.zs ttok ?_ | refine R.z ttok ?_ | refine R.zk ?_ | refine R.zn ?_ | refine R.done ?_ | refine X.then ?_ | refine C.block ?_ | refine C.ret ?_ | refine C.skip ?_ | refine C.exit ?_ | refine X.pass_ret ?_ | refine X.pass_exit ?_ | refine X.block_normal ?_ | refine X.block_ret ?_ | refine X.block_exit ?_ | refine C.zt ?_ | refine C.zf ?_ | refine X.zo ?_)
        exact X.back [] (i + 1) hlt (by omega) rfl (by repeat (first | exact HasT.nil | refine HasT.cons rfl rfl rfl ?_)) (by repeat (first | exact HasH.nil | refine HasH.same rfl rfl rfl trivial ?_ | refine HasH.same rfl rfl rfl rfl ?_ | refine HasH.same rfl rfl rfl (fun _ _ => rfl) ?_ | refine HasH.roz rfl rfl ?_)) rfl (fun _ h => h)
  rw [decide_eq_false hlt]
  repeat (first | refine C.seq ?_ | refine C.region ?_ | refine R.zb ttok ?_ | refine R.zu ttok ?_ | refine R.zc ttok ?_ | refine R.za ttok ?_ | refine R.zx ?_ | refine R.zl ttok ?_ | refine R.zs ttok ?_ | refine R.z ttok ?_ | refine R.zk ?_ | refine R.zn ?_ | refine R.done ?_ | refine X.then ?_ | refine C.block ?_ | refine C.ret ?_ | refine C.skip ?_ | refine C.exit ?_ | refine X.pass_ret ?_ | refine X.pass_exit ?_ | refine X.block_normal ?_ | refine X.block_ret ?_ | refine X.block_exit ?_ | refine C.zt ?_ | refine C.zf ?_ | refine X.zo ?_)
  refine C.loop (σ := Nat) (L2 := 12) (fun i => i ≤ sc.length) (fun i => [(0, .sl 0 1 off sc.length cap), (1, .raw (.string fr)), (2, .raw (.string to)), (7, .ptr 1 0 0 0), (9, .ptr 7 0 0 0), (10, .ptr 10 0 0 0), (11, .ptr 11 0 0 0), (15, .raw (.int .i64 (cntK sc (cntP l fr to) i : Nat))), (16, .raw (.int .i64 (i : Nat)))]) (fun _ => [(0, roZ off sc), (1, tbIZ 3 l.length c hs false), (3, tIZ l c), (4, .cells [.ptr 1 0 0 0] spT), (5, .cells [.raw (.string fr)] strT), (6, .cells [.raw (.string to)] strT), (7, .cells [.fn rsZ [.ptr 4 0 0 0, .ptr 5 0 0 0, .ptr 6 0 0 0]] 44), (8, tX (RV.map Prod.fst) c1), (9, tN (RV.map Prod.snd) c2), (10, .cells [.sl 8 1 0 (RV.map Prod.fst).length c1] kT), (11, .cells [.sl 9 1 0 (RV.map Prod.fst).length c2] vT)]) (FF [roZ off sc] ρ w [] (zF l)) (fun i => sc.length - i) [] 0 (Nat.zero_le _) rfl (by repeat (first | exact HasT.nil | refine HasT.cons rfl rfl rfl ?_)) (by repeat (first | exact HasH.nil | refine HasH.same rfl rfl rfl trivial ?_ | refine HasH.same rfl rfl rfl rfl ?_ | refine HasH.same rfl rfl rfl (fun _ _ => rfl) ?_ | refine HasH.roz rfl rfl ?_)) rfl (fun _ h => h) ?_
  clear hlt hi i
  rintro i hi
  repeat (first | refine C.seq ?_ | refine C.region ?_ | refine R.zb ttok ?_ | refine R.zu ttok ?_ | refine R.zc ttok ?_ | refine R.za ttok ?_ | refine R.zx ?_ | refine R.zl ttok ?_ | refine R.zs ttok ?_ | refine R.z ttok ?_ | refine R.zk ?_ | refine R.zn ?_ | refine R.done ?_ | refine X.then ?_ | refine C.block ?_ | refine C.ret ?_ | refine C.skip ?_ | refine C.exit ?_ | refine X.pass_ret ?_ | refine X.pass_exit ?_ | refine X.block_normal ?_ | refine X.block_ret ?_ | refine X.block_exit ?_ | refine C.zt ?_ | refine C.zf ?_ | refine X.zo ?_)
  by_cases hlt : (i : Int) < (sc.length : Nat)
  · rw [decide_eq_true hlt]
    have hlt : i < sc.length := by omega
    repeat (first | refine C.seq ?_ | refine C.region ?_ | refine R.zb ttok ?_ | refine R.zu ttok ?_ | refine R.zc ttok ?_ | refine R.za ttok ?_ | refine R.zx ?_ | refine R.zl ttok ?_ | refine R.zs ttok ?_ | refine R.z ttok ?_ | refine R.zk ?_ | refine R.zn ?_ | refine R.done ?_ | refine X.then ?_ | refine C.block ?_ | refine C.ret ?_ | refine C.skip ?_ | refine C.exit ?_ | refine X.pass_ret ?_ | refine X.pass_exit ?_ | refine X.block_normal ?_ | refine X.block_ret ?_ | refine X.block_exit ?_ | refine C.zt ?_ | refine C.zf ?_ | refine X.zo ?_)
    refine C.loop (σ := Nat) (L2 := 12) (fun j => j ≤ i) (fun j => [(0, .sl 0 1 off sc.length cap), (1, .raw (.string fr)), (2, .raw (.string to)), (7, .ptr 1 0 0 0), (9, .ptr 7 0 0 0), (10, .ptr 10 0 0 0), (11, .ptr 11 0 0 0), (15, .raw (.int .i64 (cntK sc (cntP l fr to) i : Nat))), (16, .raw (.int .i64 (i : Nat))), (17, .raw (.bool (seenB sc (sc.getD i StZ.no).key j))), (18, .raw (.int .i64 (j : Nat)))]) (fun _ => [(0, roZ off sc), (1, tbIZ 3 l.length c hs false), (3, tIZ l c), (4, .cells [.ptr 1 0 0 0] spT), (5, .cells [.raw (.string fr)] strT), (6, .cells [.raw (.string to)] strT), (7, .cells [.fn rsZ [.ptr 4 0 0 0, .ptr 5 0 0 0, .ptr 6 0 0 0]] 44), (8, tX (RV.map Prod.fst) c1), (9, tN (RV.map Prod.snd) c2), (10, .cells [.sl 8 1 0 (RV.map Prod.fst).length c1] kT), (11, .cells [.sl 9 1 0 (RV.map Prod.fst).length c2] vT)]) (FF [roZ off sc] ρ w [] (zF l)) (fun j => i - j) [] 0 (Nat.zero_le _) rfl (by repeat (first | exact HasT.nil | refine HasT.cons rfl rfl rfl ?_)) (by repeat (first | exact HasH.nil | refine HasH.same rfl rfl rfl trivial ?_ | refine HasH.same rfl rfl rfl rfl ?_ | refine HasH.same rfl rfl rfl (fun _ _ => rfl) ?_ | refine HasH.roz rfl rfl ?_)) rfl (fun _ h => h) ?_
    rintro j hj
    repeat (first | refine C.seq ?_ | refine C.region ?_ | refine R.zb ttok ?_ | refine R.zu ttok ?_ | refine R.zc ttok ?_ | refine R.za ttok ?_ | refine R.zx ?_ | refine R.zl ttok ?_ | refine R.zs ttok ?_ | refine R.z ttok ?_ | refine R.zk ?_ | refine R.zn ?_ | refine R.done ?_ | refine X.then ?_ | refine C.block ?_ | refine C.ret ?_ | refine C.skip ?_ | refine C.exit ?_ | refine X.pass_ret ?_ | refine X.pass_exit ?_ | refine X.block_normal ?_ | refine X.block_ret ?_ | refine X.block_exit ?_ | refine C.zt ?_ | refine C.zf ?_ | refine X.zo ?_)
    by_cases hltj : (j : Int) < (i : Nat)
    · rw [decide_eq_true hltj]
      have hltj : j < i := by omega
      have hst := seenB_step (sc := sc) (k := (sc.getD i StZ.no).key) (show j < sc.length by omega)
      obtain ⟨sb, hsb⟩ : ∃ sb, seenB sc (sc.getD i StZ.no).key (j + 1) = sb := ⟨_, rfl⟩
      rw [hsb] at hst
      cases hsb0 : seenB sc (sc.getD i StZ.no).key j with
      | true =>
        rw [hsb0, Bool.true_or] at hst
        repeat (first | refine C.seq ?_ | refine C.region ?_ | refine R.zb ttok ?_ | refine R.zu ttok ?_ | refine R.zc ttok ?_ | refine R.za ttok ?_ | refine R.zx ?_ | refine R.zl ttok ?_ | refine R.zs ttok ?_ | refine R.z ttok ?_ | refine R.zk ?_ | refine R.zn ?_ | refine R.done ?_ | refine X.then ?_ | refine C.block ?_ | refine C.ret ?_ | refine C.skip ?_ | refine C.exit ?_ | refine X.pass_ret ?_ | refine X.pass_exit ?_ | refine X.block_normal ?_ | refine X.block_ret ?_ | refine X.block_exit ?_ | refine C.zt ?_ | refine C.zf ?_ | refine X.zo ?_)
        refine C.draw [[], [0], [0, 1], [0, 1], [0, 1, 2, 3], [0, 1, 2, 3, 4], [0, 1, 2, 3, 4, 5], [0, 1], [0, 1], [0, 1, 7, 8], [0, 1, 7, 8, 9], [0, 1, 7, 8, 9, 10], [0, 1, 2, 3, 4, 5, 6, 7, 8, 9, 10, 11], [0, 1, 2, 3, 4, 5, 6, 7, 8, 9, 10, 11, 12], [0, 1, 2, 3, 4, 5, 6, 7, 8, 9, 10, 11, 12, 13]] [] (by kernel_rfl) (by kernel_rfl) ?_
        repeat (first | refine C.seq ?_ | refine C.region ?_ | refine R.zb ttok ?_ | refine R.zu ttok ?_ | refine R.zc ttok ?_ | refine R.za ttok ?_ | refine R.zx ?_ | refine R.zl ttok ?_ | refine R.zs ttok ?_ | refine R.z ttok ?_ | refine R.zk ?_ | refine R.zn ?_ | refine R.done ?_ | refine X.then ?_ | refine C.block ?_ | refine C.ret ?_ | refine C.skip ?_ | refine C.exit ?_ | refine X.pass_ret ?_ | refine X.pass_exit ?_ | refine X.block_normal ?_ | refine X.block_ret ?_ | refine X.block_exit ?_ | refine C.zt ?_ | refine C.zf ?_ | refine X.zo ?_)
        exact X.back [] (j + 1) hltj (by omega) rfl (by rw [hsb, hst]; exact (by repeat (first | exact HasT.nil | refine HasT.cons rfl rfl rfl ?_))) (by repeat (first | exact HasH.nil | refine HasH.same rfl rfl rfl trivial ?_ | refine HasH.same rfl rfl rfl rfl ?_ | refine HasH.same rfl rfl rfl (fun _ _ => rfl) ?_ | refine HasH.roz rfl rfl ?_)) rfl (fun _ h => h)
      | false =>
        rw [hsb0, Bool.false_or] at hst
        repeat (first | refine C.seq ?_ | refine C.region ?_ | refine R.zb ttok ?_ | refine R.zu ttok ?_ | refine R.zc ttok ?_ | refine R.za ttok ?_ | refine R.zx ?_ | refine R.zl ttok ?_ | refine R.zs ttok ?_ | refine R.z ttok ?_ | refine R.zk ?_ | refine R.zn ?_ | refine R.done ?_ | refine X.then ?_ | refine C.block ?_ | refine C.ret ?_ | refine C.skip ?_ | refine C.exit ?_ | refine X.pass_ret ?_ | refine X.pass_exit ?_ | refine X.block_normal ?_ | refine X.block_ret ?_ | refine X.block_exit ?_ | refine C.zt ?_ | refine C.zf ?_ | refine X.zo ?_)
        refine C.draw [[], [0], [0, 1], [0, 1], [0, 1, 2, 3], [0, 1, 2, 3, 4], [0, 1, 2, 3, 4, 5], [0, 1], [0, 1], [0, 1, 7, 8], [0, 1, 7, 8, 9], [0, 1, 7, 8, 9, 10], [0, 1, 2, 3, 4, 5, 6, 7, 8, 9, 10, 11], [0, 1, 2, 3, 4, 5, 6, 7, 8, 9, 10, 11, 12], [0, 1, 2, 3, 4, 5, 6, 7, 8, 9, 10, 11, 12, 13]] [] (by kernel_rfl) (by kernel_rfl) ?_
        repeat (first | refine C.seq ?_ | refine C.region ?_ | refine R.zb ttok ?_ | refine R.zu ttok ?_ | refine R.zc ttok ?_ | refine R.za ttok ?_ | refine R.zx ?_ | refine R.zl ttok ?_ | refine R.zs ttok ?_ | refine R.z ttok ?_ | refine R.zk ?_ | refine R.zn ?_ | refine R.done ?_ | refine X.then ?_ | refine C.block ?_ | refine C.ret ?_ | refine C.skip ?_ | refine C.exit ?_ | refine X.pass_ret ?_ | refine X.pass_exit ?_ | refine X.block_normal ?_ | refine X.block_ret ?_ | refine X.block_exit ?_ | refine C.zt ?_ | refine C.zf ?_ | refine X.zo ?_)
        refine R.ix1 ttok (j) rfl rfl rfl rfl rfl rfl rfl (by omega) (⟨by omega, by omega⟩ : off ≤ off + (j) * 6 ∧ off + (j) * 6 < off + sc.length * 6) rfl ?_
        repeat (first | refine C.seq ?_ | refine C.region ?_ | refine R.zb ttok ?_ | refine R.zu ttok ?_ | refine R.zc ttok ?_ | refine R.za ttok ?_ | refine R.zx ?_ | refine R.zl ttok ?_ | refine R.zs ttok ?_ | refine R.z ttok ?_ | refine R.zk ?_ | refine R.zn ?_ | refine R.done ?_ | refine X.then ?_ | refine C.block ?_ | refine C.ret ?_ | refine C.skip ?_ | refine C.exit ?_ | refine X.pass_ret ?_ | refine X.pass_exit ?_ | refine X.block_normal ?_ | refine X.block_ret ?_ | refine X.block_exit ?_ | refine C.zt ?_ | refine C.zf ?_ | refine X.zo ?_)
        refine R.ldr1 (v := .raw (.string (sc.getD (j) StZ.no).key)) ttok (j) rfl rfl rfl rfl rfl rfl rfl rfl (by decide) (by omega) ?_
        repeat (first | refine C.seq ?_ | refine C.region ?_ | refine R.zb ttok ?_ | refine R.zu ttok ?_ | refine R.zc ttok ?_ | refine R.za ttok ?_ | refine R.zx ?_ | refine R.zl ttok ?_ | refine R.zs ttok ?_ | refine R.z ttok ?_ | refine R.zk ?_ | refine R.zn ?_ | refine R.done ?_ | refine X.then ?_ | refine C.block ?_ | refine C.ret ?_ | refine C.skip ?_ | refine C.exit ?_ | refine X.pass_ret ?_ | refine X.pass_exit ?_ | refine X.block_normal ?_ | refine X.block_ret ?_ | refine X.block_exit ?_ | refine C.zt ?_ | refine C.zf ?_ | refine X.zo ?_)
        refine R.ix1 ttok (i) rfl rfl rfl rfl rfl rfl rfl (by omega) (⟨by omega, by omega⟩ : off ≤ off + (i) * 6 ∧ off + (i) * 6 < off + sc.length * 6) rfl ?_
        repeat (first | refine C.seq ?_ | refine C.region ?_ | refine R.zb ttok ?_ | refine R.zu ttok ?_ | refine R.zc ttok ?_ | refine R.za ttok ?_ | refine R.zx ?_ | refine R.zl ttok ?_ | refine R.zs ttok ?_ | refine R.z ttok ?_ | refine R.zk ?_ | refine R.zn ?_ | refine R.done ?_ | refine X.then ?_ | refine C.block ?_ | refine C.ret ?_ | refine C.skip ?_ | refine C.exit ?_ | refine X.pass_ret ?_ | refine X.pass_exit ?_ | refine X.block_normal ?_ | refine X.block_ret ?_ | refine X.block_exit ?_ | refine C.zt ?_ | refine C.zf ?_ | refine X.zo ?_)
        refine R.ldr1 (v := .raw (.string (sc.getD (i) StZ.no).key)) ttok (i) rfl rfl rfl rfl rfl rfl rfl rfl (by decide) (by omega) ?_
        repeat (first | refine C.seq ?_ | refine C.region ?_ | refine R.zb ttok ?_ | refine R.zu ttok ?_ | refine R.zc ttok ?_ | refine R.za ttok ?_ | refine R.zx ?_ | refine R.zl ttok ?_ | refine R.zs ttok ?_ | refine R.z ttok ?_ | refine R.zk ?_ | refine R.zn ?_ | refine R.done ?_ | refine X.then ?_ | refine C.block ?_ | refine C.ret ?_ | refine C.skip ?_ | refine C.exit ?_ | refine X.pass_ret ?_ | refine X.pass_exit ?_ | refine X.block_normal ?_ | refine X.block_ret ?_ | refine X.block_exit ?_ | refine C.zt ?_ | refine C.zf ?_ | refine X.zo ?_)
        exact X.back [] (j + 1) hltj (by omega) rfl (by rw [hsb, hst]; exact (by repeat (first | exact HasT.nil | refine HasT.cons rfl rfl rfl ?_))) (by repeat (first | exact HasH.nil | refine HasH.same rfl rfl rfl trivial ?_ | refine HasH.same rfl rfl rfl rfl ?_ | refine HasH.same rfl rfl rfl (fun _ _ => rfl) ?_ | refine HasH.roz rfl rfl ?_)) rfl (fun _ h => h)
    · rw [decide_eq_false hltj]
      obtain rfl : i = j := by omega
      have hfs := seenB_fst (sc := sc) (k := (sc.getD i StZ.no).key) (j := i) (by omega)
      have hst := cntK_step sc (cntP l fr to) i
      have hcl := cntK_le sc (cntP l fr to) i
      rw [show cntP l fr to (sc.getD i StZ.no).key = (isV l (sc.getD i StZ.no).key && (!decide (cmpS (sc.getD i StZ.no).key fr < 0) && !past to (sc.getD i StZ.no).key)) from rfl] at hst
      repeat (first | refine C.seq ?_ | refine C.region ?_ | refine R.zb ttok ?_ | refine R.zu ttok ?_ | refine R.zc ttok ?_ | refine R.za ttok ?_ | refine R.zx ?_ | refine R.zl ttok ?_ | refine R.zs ttok ?_ | refine R.z ttok ?_ | refine R.zk ?_ | refine R.zn ?_ | refine R.done ?_ | refine X.then ?_ | refine C.block ?_ | refine C.ret ?_ | refine C.skip ?_ | refine C.exit ?_ | refine X.pass_ret ?_ | refine X.pass_exit ?_ | refine X.block_normal ?_ | refine X.block_ret ?_ | refine X.block_exit ?_ | refine C.zt ?_ | refine C.zf ?_ | refine X.zo ?_)
      refine R.ix1 ttok (i) rfl rfl rfl rfl rfl rfl rfl (by omega) (⟨by omega, by omega⟩ : off ≤ off + (i) * 6 ∧ off + (i) * 6 < off + sc.length * 6) rfl ?_
      repeat (first | refine C.seq ?_ | refine C.region ?_ | refine R.zb ttok ?_ | refine R.zu ttok ?_ | refine R.zc ttok ?_ | refine R.za ttok ?_ | refine R.zx ?_ | refine R.zl ttok ?_ | refine R.zs ttok ?_ | refine R.z ttok ?_ | refine R.zk ?_ | refine R.zn ?_ | refine R.done ?_ | refine X.then ?_ | refine C.block ?_ | refine C.ret ?_ | refine C.skip ?_ | refine C.exit ?_ | refine X.pass_ret ?_ | refine X.pass_exit ?_ | refine X.block_normal ?_ | refine X.block_ret ?_ | refine X.block_exit ?_ | refine C.zt ?_ | refine C.zf ?_ | refine X.zo ?_)
      refine R.ldr1 (v := .raw (.string (sc.getD (i) StZ.no).key)) ttok (i) rfl rfl rfl rfl rfl rfl rfl rfl (by decide) (by omega) ?_
      repeat (first | refine C.seq ?_ | refine C.region ?_ | refine R.zb ttok ?_ | refine R.zu ttok ?_ | refine R.zc ttok ?_ | refine R.za ttok ?_ | refine R.zx ?_ | refine R.zl ttok ?_ | refine R.zs ttok ?_ | refine R.z ttok ?_ | refine R.zk ?_ | refine R.zn ?_ | refine R.done ?_ | refine X.then ?_ | refine C.block ?_ | refine C.ret ?_ | refine C.skip ?_ | refine C.exit ?_ | refine X.pass_ret ?_ | refine X.pass_exit ?_ | refine X.block_normal ?_ | refine X.block_ret ?_ | refine X.block_exit ?_ | refine C.zt ?_ | refine C.zf ?_ | refine X.zo ?_)
      refine R.clF [1, 3] (get_specZ l c (sc.getD i StZ.no).key hA (by omega)) (Nat.le_refl _) (fun _ _ => rfl) Try.call21 (by repeat (first | exact HasIn.nil | refine HasIn.same rfl rfl ?_ | refine HasIn.c1 rfl rfl ?_ | refine HasIn.roq rfl rfl ?_ | refine HasIn.other rfl (fun e => by cases e) (fun ρ x w hh => tab_ro hh) ?_ | refine HasIn.other rfl (fun e => by cases e) (fun ρ x w hh => tab_any hh) ?_ | refine HasIn.roAp rfl rfl ?_ | refine HasIn.other rfl (fun e => by cases e) (fun ρ x w hh => cells_any hh) ?_ | refine HasIn.other rfl (fun e => by cases e) (fun ρ x w hh => ro_any hh) ?_)) rfl rfl rfl (fun _ => rfl) rfl (by kernel_rfl) fun _ _ => ?_
      cases hsn : seenB sc (sc.getD i StZ.no).key i with
      | true =>
        have hst0 := hfs.1 hsn
        repeat (first | refine C.seq ?_ | refine C.region ?_ | refine R.zb ttok ?_ | refine R.zu ttok ?_ | refine R.zc ttok ?_ | refine R.za ttok ?_ | refine R.zx ?_ | refine R.zl ttok ?_ | refine R.zs ttok ?_ | refine R.z ttok ?_ | refine R.zk ?_ | refine R.zn ?_ | refine R.done ?_ | refine X.then ?_ | refine C.block ?_ | refine C.ret ?_ | refine C.skip ?_ | refine C.exit ?_ | refine X.pass_ret ?_ | refine X.pass_exit ?_ | refine X.block_normal ?_ | refine X.block_ret ?_ | refine X.block_exit ?_ | refine C.zt ?_ | refine C.zf ?_ | refine X.zo ?_)
        exact X.back [] (i + 1) hlt (by omega) rfl (by
          show HasT _ _ _ [(0, .sl 0 1 off sc.length cap), (1, .raw (.string fr)), (2, .raw (.string to)), (7, .ptr 1 0 0 0), (9, .ptr 7 0 0 0), (10, .ptr 10 0 0 0), (11, .ptr 11 0 0 0), (15, .raw (.int .i64 (cntK sc (cntP l fr to) (i + 1) : Nat))), (16, .raw (.int .i64 ((i + 1 : Nat) : Int)))]
          rw [hst, if_neg (fun h => h.1 hst0)]
          exact (by repeat (first | exact HasT.nil | refine HasT.cons rfl rfl rfl ?_))) (by repeat (first | exact HasH.nil | refine HasH.same rfl rfl rfl trivial ?_ | refine HasH.same rfl rfl rfl rfl ?_ | refine HasH.same rfl rfl rfl (fun _ _ => rfl) ?_ | refine HasH.roz rfl rfl ?_)) rfl (fun _ h => h)
      | false =>
        have hst0 : ¬ (sc.getD i StZ.no).key ∈ fstK sc i := fun h => by rw [hfs.2 h] at hsn; cases hsn
        cases hv : isV l (sc.getD i StZ.no).key with
        | false =>
          rw [hv] at hst
          repeat (first | refine C.seq ?_ | refine C.region ?_ | refine R.zb ttok ?_ | refine R.zu ttok ?_ | refine R.zc ttok ?_ | refine R.za ttok ?_ | refine R.zx ?_ | refine R.zl ttok ?_ | refine R.zs ttok ?_ | refine R.z ttok ?_ | refine R.zk ?_ | refine R.zn ?_ | refine R.done ?_ | refine X.then ?_ | refine C.block ?_ | refine C.ret ?_ | refine C.skip ?_ | refine C.exit ?_ | refine X.pass_ret ?_ | refine X.pass_exit ?_ | refine X.block_normal ?_ | refine X.block_ret ?_ | refine X.block_exit ?_ | refine C.zt ?_ | refine C.zf ?_ | refine X.zo ?_)
          exact X.back [] (i + 1) hlt (by omega) rfl (by
            show HasT _ _ _ [(0, .sl 0 1 off sc.length cap), (1, .raw (.string fr)), (2, .raw (.string to)), (7, .ptr 1 0 0 0), (9, .ptr 7 0 0 0), (10, .ptr 10 0 0 0), (11, .ptr 11 0 0 0), (15, .raw (.int .i64 (cntK sc (cntP l fr to) (i + 1) : Nat))), (16, .raw (.int .i64 ((i + 1 : Nat) : Int)))]
            rw [hst, if_neg (fun h => by cases h.2)]
            exact (by repeat (first | exact HasT.nil | refine HasT.cons rfl rfl rfl ?_))) (by repeat (first | exact HasH.nil | refine HasH.same rfl rfl rfl trivial ?_ | refine HasH.same rfl rfl rfl rfl ?_ | refine HasH.same rfl rfl rfl (fun _ _ => rfl) ?_ | refine HasH.roz rfl rfl ?_)) rfl (fun _ h => h)
        | true =>
          rw [hv] at hst
          repeat (first | refine C.seq ?_ | refine C.region ?_ | refine R.zb ttok ?_ | refine R.zu ttok ?_ | refine R.zc ttok ?_ | refine R.za ttok ?_ | refine R.zx ?_ | refine R.zl ttok ?_ | refine R.zs ttok ?_ | refine R.z ttok ?_ | refine R.zk ?_ | refine R.zn ?_ | refine R.done ?_ | refine X.then ?_ | refine C.block ?_ | refine C.ret ?_ | refine C.skip ?_ | refine C.exit ?_ | refine X.pass_ret ?_ | refine X.pass_exit ?_ | refine X.block_normal ?_ | refine X.block_ret ?_ | refine X.block_exit ?_ | refine C.zt ?_ | refine C.zf ?_ | refine X.zo ?_)
          refine R.ix1 ttok (i) rfl rfl rfl rfl rfl rfl rfl (by omega) (⟨by omega, by omega⟩ : off ≤ off + (i) * 6 ∧ off + (i) * 6 < off + sc.length * 6) rfl ?_
          repeat (first | refine C.seq ?_ | refine C.region ?_ | refine R.zb ttok ?_ | refine R.zu ttok ?_ | refine R.zc ttok ?_ | refine R.za ttok ?_ | refine R.zx ?_ | refine R.zl ttok ?_ | refine R.zs ttok ?_ | refine R.z ttok ?_ | refine R.zk ?_ | refine R.zn ?_ | refine R.done ?_ | refine X.then ?_ | refine C.block ?_ | refine C.ret ?_ | refine C.skip ?_ | refine C.exit ?_ | refine X.pass_ret ?_ | refine X.pass_exit ?_ | refine X.block_normal ?_ | refine X.block_ret ?_ | refine X.block_exit ?_ | refine C.zt ?_ | refine C.zf ?_ | refine X.zo ?_)
          refine R.ldr1 (v := .raw (.string (sc.getD (i) StZ.no).key)) ttok (i) rfl rfl rfl rfl rfl rfl rfl rfl (by decide) (by omega) ?_
          repeat (first | refine C.seq ?_ | refine C.region ?_ | refine R.zb ttok ?_ | refine R.zu ttok ?_ | refine R.zc ttok ?_ | refine R.za ttok ?_ | refine R.zx ?_ | refine R.zl ttok ?_ | refine R.zs ttok ?_ | refine R.z ttok ?_ | refine R.zk ?_ | refine R.zn ?_ | refine R.done ?_ | refine X.then ?_ | refine C.block ?_ | refine C.ret ?_ | refine C.skip ?_ | refine C.exit ?_ | refine X.pass_ret ?_ | refine X.pass_exit ?_ | refine X.block_normal ?_ | refine X.block_ret ?_ | refine X.block_exit ?_ | refine C.zt ?_ | refine C.zf ?_ | refine X.zo ?_)
          rw [less_cmp]
          by_cases hlf : cmpS (sc.getD i StZ.no).key fr < 0
          · rw [decide_eq_true hlf] at hst ⊢
            repeat (first | refine C.seq ?_ | refine C.region ?_ | refine R.zb ttok ?_ | refine R.zu ttok ?_ | refine R.zc ttok ?_ | refine R.za ttok ?_ | refine R.zx ?_ | refine R.zl ttok ?_ | refine R.zs ttok ?_ | refine R.z ttok ?_ | refine R.zk ?_ | refine R.zn ?_ | refine R.done ?_ | refine X.then ?_ | refine C.block ?_ | refine C.ret ?_ | refine C.skip ?_ | refine C.exit ?_ | refine X.pass_ret ?_ | refine X.pass_exit ?_ | refine X.block_normal ?_ | refine X.block_ret ?_ | refine X.block_exit ?_ | refine C.zt ?_ | refine C.zf ?_ | refine X.zo ?_)
            exact X.back [] (i + 1) hlt (by omega) rfl (by
              show HasT _ _ _ [(0, .sl 0 1 off sc.length cap), (1, .raw (.string fr)), (2, .raw (.string to)), (7, .ptr 1 0 0 0), (9, .ptr 7 0 0 0), (10, .ptr 10 0 0 0), (11, .ptr 11 0 0 0), (15, .raw (.int .i64 (cntK sc (cntP l fr to) (i + 1) : Nat))), (16, .raw (.int .i64 ((i + 1 : Nat) : Int)))]
              rw [hst, if_neg (fun h => by cases h.2)]
              exact (by repeat (first | exact HasT.nil | refine HasT.cons rfl rfl rfl ?_))) (by repeat (first | exact HasH.nil | refine HasH.same rfl rfl rfl trivial ?_ | refine HasH.same rfl rfl rfl rfl ?_ | refine HasH.same rfl rfl rfl (fun _ _ => rfl) ?_ | refine HasH.roz rfl rfl ?_)) rfl (fun _ h => h)
          rw [decide_eq_false hlf] at hst ⊢
          repeat (first | refine C.seq ?_ | refine C.region ?_ | refine R.zb ttok ?_ | refine R.zu ttok ?_ | refine R.zc ttok ?_ | refine R.za ttok ?_ | refine R.zx ?_ | refine R.zl ttok ?_ | refine R.zs ttok ?_ | refine R.z ttok ?_ | refine R.zk ?_ | refine R.zn ?_ | refine R.done ?_ | refine X.then ?_ | refine C.block ?_ | refine C.ret ?_ | refine C.skip ?_ | refine C.exit ?_ | refine X.pass_ret ?_ | refine X.pass_exit ?_ | refine X.block_normal ?_ | refine X.block_ret ?_ | refine X.block_exit ?_ | refine C.zt ?_ | refine C.zf ?_ | refine X.zo ?_)
          cases hne : neB to noT with
          | false =>
            have hpa : past to (sc.getD i StZ.no).key = false := by unfold past; rw [hne]; rfl
            have he : decide (to.toList = (⟨#[]⟩ : ByteArray).toList) = true := decide_eq_true (by have := of_decide_eq_false hne; simpa using this)
            rw [hpa] at hst
            rw [he]
            repeat (first | refine C.seq ?_ | refine C.region ?_ | refine R.zb ttok ?_ | refine R.zu ttok ?_ | refine R.zc ttok ?_ | refine R.za ttok ?_ | refine R.zx ?_ | refine R.zl ttok ?_ | refine R.zs ttok ?_ | refine R.z ttok ?_ | refine R.zk ?_ | refine R.zn ?_ | refine R.done ?_ | refine X.then ?_ | refine C.block ?_ | refine C.ret ?_ | refine C.skip ?_ | refine C.exit ?_ | refine X.pass_ret ?_ | refine X.pass_exit ?_ | refine X.block_normal ?_ | refine X.block_ret ?_ | refine X.block_exit ?_ | refine C.zt ?_ | refine C.zf ?_ | refine X.zo ?_)
            exact X.back [] (i + 1) hlt (by omega) rfl (by
              show HasT _ _ _ [(0, .sl 0 1 off sc.length cap), (1, .raw (.string fr)), (2, .raw (.string to)), (7, .ptr 1 0 0 0), (9, .ptr 7 0 0 0), (10, .ptr 10 0 0 0), (11, .ptr 11 0 0 0), (15, .raw (.int .i64 (cntK sc (cntP l fr to) (i + 1) : Nat))), (16, .raw (.int .i64 ((i + 1 : Nat) : Int)))]
              rw [hst, if_pos ⟨hst0, rfl⟩]
              exact (by repeat (first | exact HasT.nil | refine HasT.cons rfl rfl rfl ?_))) (by repeat (first | exact HasH.nil | refine HasH.same rfl rfl rfl trivial ?_ | refine HasH.same rfl rfl rfl rfl ?_ | refine HasH.same rfl rfl rfl (fun _ _ => rfl) ?_ | refine HasH.roz rfl rfl ?_)) rfl (fun _ h => h)
          | true =>
            have hpa : past to (sc.getD i StZ.no).key = gtB (sc.getD i StZ.no).key to := by unfold past; rw [hne]; rfl
            have he : decide (to.toList = (⟨#[]⟩ : ByteArray).toList) = false := decide_eq_false (by have := of_decide_eq_true hne; exact this)
            rw [hpa] at hst
            rw [he]
            repeat (first | refine C.seq ?_ | refine C.region ?_ | refine R.zb ttok ?_ | refine R.zu ttok ?_ | refine R.zc ttok ?_ | refine R.za ttok ?_ | refine R.zx ?_ | refine R.zl ttok ?_ | refine R.zs ttok ?_ | refine R.z ttok ?_ | refine R.zk ?_ | refine R.zn ?_ | refine R.done ?_ | refine X.then ?_ | refine C.block ?_ | refine C.ret ?_ | refine C.skip ?_ | refine C.exit ?_ | refine X.pass_ret ?_ | refine X.pass_exit ?_ | refine X.block_normal ?_ | refine X.block_ret ?_ | refine X.block_exit ?_ | refine C.zt ?_ | refine C.zf ?_ | refine X.zo ?_)
            refine R.ix1 ttok (i) rfl rfl rfl rfl rfl rfl rfl (by omega) (⟨by omega, by omega⟩ : off ≤ off + (i) * 6 ∧ off + (i) * 6 < off + sc.length * 6) rfl ?_
            repeat (first | refine C.seq ?_ | refine C.region ?_ | refine R.zb ttok ?_ | refine R.zu ttok ?_ | refine R.zc ttok ?_ | refine R.za ttok ?_ | refine R.zx ?_ | refine R.zl ttok ?_ | refine R.zs ttok ?_ | refine R.z ttok ?_ | refine R.zk ?_ | refine R.zn ?_ | refine R.done ?_ | refine X.then ?_ | refine C.block ?_ | refine C.ret ?_ | refine C.skip ?_ | refine C.exit ?_ | refine X.pass_ret ?_ | refine X.pass_exit ?_ | refine X.block_normal ?_ | refine X.block_ret ?_ | refine X.block_exit ?_ | refine C.zt ?_ | refine C.zf ?_ | refine X.zo ?_)
            refine R.ldr1 (v := .raw (.string (sc.getD (i) StZ.no).key)) ttok (i) rfl rfl rfl rfl rfl rfl rfl rfl (by decide) (by omega) ?_
            repeat (first | refine C.seq ?_ | refine C.region ?_ | refine R.zb ttok ?_ | refine R.zu ttok ?_ | refine R.zc ttok ?_ | refine R.za ttok ?_ | refine R.zx ?_ | refine R.zl ttok ?_ | refine R.zs ttok ?_ | refine R.z ttok ?_ | refine R.zk ?_ | refine R.zn ?_ | refine R.done ?_ | refine X.then ?_ | refine C.block ?_ | refine C.ret ?_ | refine C.skip ?_ | refine C.exit ?_ | refine X.pass_ret ?_ | refine X.pass_exit ?_ | refine X.block_normal ?_ | refine X.block_ret ?_ | refine X.block_exit ?_ | refine C.zt ?_ | refine C.zf ?_ | refine X.zo ?_)
            rw [leq_gt]
            cases hg : gtB (sc.getD i StZ.no).key to with
            | true =>
              rw [hg] at hst
              repeat (first | refine C.seq ?_ | refine C.region ?_ | refine R.zb ttok ?_ | refine R.zu ttok ?_ | refine R.zc ttok ?_ | refine R.za ttok ?_ | refine R.zx ?_ | refine R.zl ttok ?_ | refine R.zs ttok ?_ | refine R.z ttok ?_ | refine R.zk ?_ | refine R.zn ?_ | refine R.done ?_ | refine X.then ?_ | refine C.block ?_ | refine C.ret ?_ | refine C.skip ?_ | refine C.exit ?_ | refine X.pass_ret ?_ | refine X.pass_exit ?_ | refine X.block_normal ?_ | refine X.block_ret ?_ | refine X.block_exit ?_ | refine C.zt ?_ | refine C.zf ?_ | refine X.zo ?_)
              exact X.back [] (i + 1) hlt (by omega) rfl (by
                show HasT _ _ _ [(0, .sl 0 1 off sc.length cap), (1, .raw (.string fr)), (2, .raw (.string to)), (7, .ptr 1 0 0 0), (9, .ptr 7 0 0 0), (10, .ptr 10 0 0 0), (11, .ptr 11 0 0 0), (15, .raw (.int .i64 (cntK sc (cntP l fr to) (i + 1) : Nat))), (16, .raw (.int .i64 ((i + 1 : Nat) : Int)))]
                rw [hst, if_neg (fun h => by cases h.2)]
                exact (by repeat (first | exact HasT.nil | refine HasT.cons rfl rfl rfl ?_))) (by repeat (first | exact HasH.nil | refine HasH.same rfl rfl rfl trivial ?_ | refine HasH.same rfl rfl rfl rfl ?_ | refine HasH.same rfl rfl rfl (fun _ _ => rfl) ?_ | refine HasH.roz rfl rfl ?_)) rfl (fun _ h => h)
            | false =>
              rw [hg] at hst
              repeat (first | refine C.seq ?_ | refine C.region ?_ | refine R.zb ttok ?_ | refine R.zu ttok ?_ | refine R.zc ttok ?_ | refine R.za ttok ?_ | refine R.zx ?_ | refine R.zl ttok ?_ | refine R.zs ttok ?_ | refine R.z ttok ?_ | refine R.zk ?_ | refine R.zn ?_ | refine R.done ?_ | refine X.then ?_ | refine C.block ?_ | refine C.ret ?_ | refine C.skip ?_ | refine C.exit ?_ | refine X.pass_ret ?_ | refine X.pass_exit ?_ | refine X.block_normal ?_ | refine X.block_ret ?_ | refine X.block_exit ?_ | refine C.zt ?_ | refine C.zf ?_ | refine X.zo ?_)
              exact X.back [] (i + 1) hlt (by omega) rfl (by
                show HasT _ _ _ [(0, .sl 0 1 off sc.length cap), (1, .raw (.string fr)), (2, .raw (.string to)), (7, .ptr 1 0 0 0), (9, .ptr 7 0 0 0), (10, .ptr 10 0 0 0), (11, .ptr 11 0 0 0), (15, .raw (.int .i64 (cntK sc (cntP l fr to) (i + 1) : Nat))), (16, .raw (.int .i64 ((i + 1 : Nat) : Int)))]
                rw [hst, if_pos ⟨hst0, rfl⟩]
                exact (by repeat (first | exact HasT.nil | refine HasT.cons rfl rfl rfl ?_))) (by repeat (first | exact HasH.nil | refine HasH.same rfl rfl rfl trivial ?_ | refine HasH.same rfl rfl rfl rfl ?_ | refine HasH.same rfl rfl rfl (fun _ _ => rfl) ?_ | refine HasH.roz rfl rfl ?_)) rfl (fun _ h => h)
  · rw [decide_eq_false hlt]
    obtain rfl : i = sc.length := by omega
    have hce := cntK_end sc (cntP l fr to) sc.length (RV.map Prod.fst) hnd hmem
    rw [hce]
    repeat (first | refine C.seq ?_ | refine C.region ?_ | refine R.zb ttok ?_ | refine R.zu ttok ?_ | refine R.zc ttok ?_ | refine R.za ttok ?_ | refine R.zx ?_ | refine R.zl ttok ?_ | refine R.zs ttok ?_ | refine R.z ttok ?_ | refine R.zk ?_ | refine R.zn ?_ | refine R.done ?_ | refine X.then ?_ | refine C.block ?_ | refine C.ret ?_ | refine C.skip ?_ | refine C.exit ?_ | refine X.pass_ret ?_ | refine X.pass_exit ?_ | refine X.block_normal ?_ | refine X.block_ret ?_ | refine X.block_exit ?_ | refine C.zt ?_ | refine C.zf ?_ | refine X.zo ?_)
    refine R.clF [1, 3, 4, 5, 6, 13, 7, 12, 10, 11, 8, 9] (rgOr_spec l c fr to (RV.map Prod.fst) (RV.map Prod.snd) c1 c2 hs false hA (by omega) (by rw [hR]) (by rw [hR])) (Nat.le_refl _) (fun _ _ => rfl) Try.call48 (by repeat (first | exact HasIn.nil | refine HasIn.same rfl rfl ?_ | refine HasIn.c1 rfl rfl ?_ | refine HasIn.roq rfl rfl ?_ | refine HasIn.other rfl (fun e => by cases e) (fun ρ x w hh => tab_ro hh) ?_ | refine HasIn.other rfl (fun e => by cases e) (fun ρ x w hh => tab_any hh) ?_ | refine HasIn.roAp rfl rfl ?_ | refine HasIn.other rfl (fun e => by cases e) (fun ρ x w hh => cells_any hh) ?_ | refine HasIn.other rfl (fun e => by cases e) (fun ρ x w hh => ro_any hh) ?_)) rfl rfl rfl (fun _ => rfl) rfl (by kernel_rfl) fun _ _ => ?_
    repeat (first | refine C.seq ?_ | refine C.region ?_ | refine R.zb ttok ?_ | refine R.zu ttok ?_ | refine R.zc ttok ?_ | refine R.za ttok ?_ | refine R.zx ?_ | refine R.zl ttok ?_ | refine R.zs ttok ?_ | refine R.z ttok ?_ | refine R.zk ?_ | refine R.zn ?_ | refine R.done ?_ | refine X.then ?_ | refine C.block ?_ | refine C.ret ?_ | refine C.skip ?_ | refine C.exit ?_ | refine X.pass_ret ?_ | refine X.pass_exit ?_ | refine X.block_normal ?_ | refine X.block_ret ?_ | refine X.block_exit ?_ | refine C.zt ?_ | refine C.zf ?_ | refine X.zo ?_)
    rw [decide_eq_true (rfl : (((RV.map Prod.fst).length : Nat) : Int) = (((RV.map Prod.fst).length : Nat) : Int))]
    repeat (first | refine C.seq ?_ | refine C.region ?_ | refine R.zb ttok ?_ | refine R.zu ttok ?_ | refine R.zc ttok ?_ | refine R.za ttok ?_ | refine R.zx ?_ | refine R.zl ttok ?_ | refine R.zs ttok ?_ | refine R.z ttok ?_ | refine R.zk ?_ | refine R.zn ?_ | refine R.done ?_ | refine X.then ?_ | refine C.block ?_ | refine C.ret ?_ | refine C.skip ?_ | refine C.exit ?_ | refine X.pass_ret ?_ | refine X.pass_exit ?_ | refine X.block_normal ?_ | refine X.block_ret ?_ | refine X.block_exit ?_ | refine C.zt ?_ | refine C.zf ?_ | refine X.zo ?_)
    rw [decide_eq_true (rfl : (((RV.map Prod.fst).length : Nat) : Int) = (((RV.map Prod.fst).length : Nat) : Int))]
    repeat (first | refine C.seq ?_ | refine C.region ?_ | refine R.zb ttok ?_ | refine R.zu ttok ?_ | refine R.zc ttok ?_ | refine R.za ttok ?_ | refine R.zx ?_ | refine R.zl ttok ?_ | refine R.zs ttok ?_ | refine R.z ttok ?_ | refine R.zk ?_ | refine R.zn ?_ | refine R.done ?_ | refine X.then ?_ | refine C.block ?_ | refine C.ret ?_ | refine C.skip ?_ | refine C.exit ?_ | refine X.pass_ret ?_ | refine X.pass_exit ?_ | refine X.block_normal ?_ | refine X.block_ret ?_ | refine X.block_exit ?_ | refine C.zt ?_ | refine C.zf ?_ | refine X.zo ?_)
    refine R.wkD (fun w hf => FF.nil1 hf) ?_
    refine R.clF [] (known_specZ) (Nat.le_refl _) (fun _ _ => rfl) Try.call11 (by repeat (first | exact HasIn.nil | refine HasIn.same rfl rfl ?_ | refine HasIn.bro rfl ?_ | refine HasIn.ror rfl ?_ | refine HasIn.cro rfl rfl ?_)) rfl rfl rfl (fun _ => rfl) rfl (by kernel_rfl) fun _ _ => ?_
    repeat (first | refine C.seq ?_ | refine C.region ?_ | refine R.zb ttok ?_ | refine R.zu ttok ?_ | refine R.zc ttok ?_ | refine R.za ttok ?_ | refine R.zx ?_ | refine R.zl ttok ?_ | refine R.zs ttok ?_ | refine R.z ttok ?_ | refine R.zk ?_ | refine R.zn ?_ | refine R.done ?_ | refine X.then ?_ | refine C.block ?_ | refine C.ret ?_ | refine C.skip ?_ | refine C.exit ?_ | refine X.pass_ret ?_ | refine X.pass_exit ?_ | refine X.block_normal ?_ | refine X.block_ret ?_ | refine X.block_exit ?_ | refine C.zt ?_ | refine C.zf ?_ | refine X.zo ?_)
    refine X.finS ttok () [] trivial rfl rfl rfl (by repeat (first | exact HasH.nil | refine HasH.same rfl rfl rfl trivial ?_ | refine HasH.same rfl rfl rfl rfl ?_ | refine HasH.same rfl rfl rfl (fun _ _ => rfl) ?_ | refine HasH.ros rfl rfl ?_)) _ (by first | exact .inl rfl | exact .inr rfl)
end
end Go.Proofs.Yteabncomclgncaa
