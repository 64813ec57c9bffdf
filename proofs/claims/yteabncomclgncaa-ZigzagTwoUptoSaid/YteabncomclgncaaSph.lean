/- Texts of the claim, merged: only what the theorem needs. -/
import Derived.Test.YteabncomclgncaaSpg
import Derived.ProofKit
import Derived.SizedLaws
namespace Go.Proofs.Yteabncomclgncaa
set_option linter.unusedVariables false
set_option linter.unusedSimpArgs false
open Go.RowKit
set_option maxRecDepth 100000
set_option maxHeartbeats 8000000
theorem FF.sub {h0 : List AO} {ρ0 : Env} {w0 : World} {fs0 fs fs2 : Fam} {w : World} (hs : fs2.Sublist fs) (h : FF h0 ρ0 w0 fs0 fs w) : FF h0 ρ0 w0 fs0 fs2 w := h.less (fun p hp => hs.subset hp) (h.ap.sublist hs)
theorem apf_dup {fs X : Fam} (h : ApF fs) (hs : ∀ x ∈ X, x ∈ fs) (hr : ∀ x ∈ X, x.rw = false) : ApF (fs ++ X) := by
  refine List.pairwise_append.2 ⟨h, apf_ro hr, fun p hp q hq e => ?_⟩
  obtain ⟨i, hi, rfl⟩ := List.mem_iff_getElem.1 hp
  obtain ⟨j, hj, hjq⟩ := List.mem_iff_getElem.1 (hs q hq)
  have hq2 := hr q hq
  rcases Nat.lt_trichotomy i j with hij | hij | hij
  · have := List.pairwise_iff_getElem.1 h i j hi hj hij (by rw [hjq]; exact e)
    rw [hjq] at this
    exact this
  · subst hij
    rw [hjq]
    exact ⟨hq2, hq2⟩
  · have := List.pairwise_iff_getElem.1 h j i hj hi hij (by rw [hjq]; exact e.symm)
    exact ⟨this.2, hq2⟩
theorem FF.dup {h0 : List AO} {ρ0 : Env} {w0 : World} {fs0 fs X : Fam} {w : World} (hs : ∀ x ∈ X, x ∈ fs) (hr : ∀ x ∈ X, x.rw = false) (h : FF h0 ρ0 w0 fs0 fs w) : FF h0 ρ0 w0 fs0 (fs ++ X) w := h.less (fun p hp => by
  rcases List.mem_append.1 hp with hp | hp
  · exact hp
  · exact hs p hp) (apf_dup h.ap hs hr)
theorem pp1 {Z1 Z2 R : Fam} : (Z1 ++ (Z2 ++ R)).Perm ((Z1 ++ R) ++ Z2) := by
  rw [List.append_assoc]
  exact List.Perm.append_left _ List.perm_append_comm
theorem pp2 {Z1 Z2 R : Fam} : ((Z1 ++ R) ++ Z2).Perm ((Z2 ++ R) ++ Z1) := pp1.symm.trans ((List.perm_append_comm_assoc Z1 Z2 R).trans pp1)
theorem pp3 {Z1 Z2 R : Fam} : ((Z1 ++ (Z2 ++ R)) ++ R).Perm ((Z1 ++ R) ++ (Z2 ++ R)) :=
  (List.Perm.of_eq (List.append_assoc Z1 (Z2 ++ R) R)).trans ((List.Perm.append_left Z1 List.perm_append_comm).trans (List.Perm.of_eq (List.append_assoc Z1 R (Z2 ++ R)).symm))
theorem sub1 {Z R G Y : Fam} : ((Z ++ R) ++ Y).Sublist ((Z ++ (R ++ G)) ++ Y) := ((List.Sublist.refl Z).append (List.sublist_append_left R G)).append (List.Sublist.refl Y)
theorem sub2 {Z R G Y : Fam} : (Z ++ Y).Sublist ((Z ++ (R ++ G)) ++ Y) := (List.sublist_append_left Z (R ++ G)).append (List.Sublist.refl Y)
theorem PS.ok.swap {l : ZL} {c : Nat} {r r' : Rf} {mk : Bool} (h : PS.ok ⟨l, c, r⟩ mk) (hr : r'.ok) (e : r'.l = r.l) : PS.ok ⟨l, c, r'⟩ mk := ⟨h.asc, h.dz, h.al, hr, e.trans h.rl, h.c1, h.c2⟩
theorem PS.nil_ok : PS.ok ⟨[], 0, Rf.nil⟩ false := ⟨asc0, fun p hp => (by cases hp), fun _ p hp => (by cases hp), Rf.nil_ok, rfl, Nat.le_refl _, Nat.zero_le _⟩
structure PlS where
  i : Nat
  ls : ZL
  cs : Nat
  lz : ZL
  cz : Nat
  r : Rf
  m : Bool
structure PlS.ok (s : PlS) (n : Nat) : Prop where
  hi : s.i ≤ n
  hs : PS.ok ⟨s.ls, s.cs, s.r⟩ s.m
  hz : PS.ok ⟨s.lz, s.cz, s.r⟩ s.m
  l1 : s.ls.length ≤ 201 * s.i
  l2 : s.lz.length ≤ 201 * s.i
theorem zigzagPlays_law (sc : List StZ) (off cap : Nat) (hsc : sc.length ≤ 9223372036854775807) :
    Spec Try.prog 7 [.sl 0 1 off sc.length cap] [roZ off sc] 1 (σ := Unit) (fun _ => True) (fun _ => .raw (.bool true)) (fun _ => []) := by
  refine Spec.ofF Try.func7 rfl Try.ntmps7 rfl (by repeat (first | exact bdl_nil _ | refine bdl_cons (rowsZ_bd _ _ _ _) ?_ | refine bdl_cons rfl ?_ | refine bdl_cons (fun _ _ => rfl) ?_ | refine bdl_cons (roA_bd rfl) ?_)) fun ρ w => ?_
  repeat (first | refine C.seq ?_ | refine C.region ?_ | refine R.zb ttok ?_ | refine R.zu ttok ?_ | refine R.zc ttok ?_ | refine R.za ttok ?_ | refine R.zx ?_ | refine R.zl ttok ?_ | refine R.zs ttok ?_ | refine R.z ttok ?_ | refine R.zk ?_ | refine R.zn ?_ | refine R.done ?_ | refine X.then ?_ | refine C.block ?_ | refine C.ret ?_ | refine C.skip ?_ | refine C.exit ?_ | refine X.pass_ret ?_ | refine X.pass_exit ?_ | refine X.block_normal ?_ | refine X.block_ret ?_ | refine X.block_exit ?_ | refine C.zt ?_ | refine C.zf ?_ | refine X.zo ?_)
  refine R.cl [0] (much_spec sc off cap hsc) Try.call16 ((by exact .roz rfl .nil)) rfl rfl rfl (fun _ => rfl) rfl (by kernel_rfl) fun b1 hb1 => ?_
  cases b1 with
  | true =>
    repeat (first | refine C.seq ?_ | refine C.region ?_ | refine R.zb ttok ?_ | refine R.zu ttok ?_ | refine R.zc ttok ?_ | refine R.za ttok ?_ | refine R.zx ?_ | refine R.zl ttok ?_ | refine R.zs ttok ?_ | refine R.z ttok ?_ | refine R.zk ?_ | refine R.zn ?_ | refine R.done ?_ | refine X.then ?_ | refine C.block ?_ | refine C.ret ?_ | refine C.skip ?_ | refine C.exit ?_ | refine X.pass_ret ?_ | refine X.pass_exit ?_ | refine X.block_normal ?_ | refine X.block_ret ?_ | refine X.block_exit ?_ | refine C.zt ?_ | refine C.zf ?_ | refine X.zo ?_)
    refine R.clF [] (known_specZ) (Nat.le_refl _) (fun _ _ => rfl) Try.call11 (by repeat (first | exact HasIn.nil | refine HasIn.same rfl rfl ?_ | refine HasIn.bro rfl ?_ | refine HasIn.ror rfl ?_ | refine HasIn.cro rfl rfl ?_)) rfl rfl rfl (fun _ => rfl) rfl (by kernel_rfl) fun _ _ => ?_
    repeat (first | refine C.seq ?_ | refine C.region ?_ | refine R.zb ttok ?_ | refine R.zu ttok ?_ | refine R.zc ttok ?_ | refine R.za ttok ?_ | refine R.zx ?_ | refine R.zl ttok ?_ | refine R.zs ttok ?_ | refine R.z ttok ?_ | refine R.zk ?_ | refine R.zn ?_ | refine R.done ?_ | refine X.then ?_ | refine C.block ?_ | refine C.ret ?_ | refine C.skip ?_ | refine C.exit ?_ | refine X.pass_ret ?_ | refine X.pass_exit ?_ | refine X.block_normal ?_ | refine X.block_ret ?_ | refine X.block_exit ?_ | refine C.zt ?_ | refine C.zf ?_ | refine X.zo ?_)
    refine X.finS ttok () [] trivial rfl rfl rfl (by repeat (first | exact HasH.nil | refine HasH.same rfl rfl rfl trivial ?_ | refine HasH.same rfl rfl rfl rfl ?_ | refine HasH.same rfl rfl rfl (fun _ _ => rfl) ?_ | refine HasH.ros rfl rfl ?_)) _ (by first | exact .inl rfl | exact .inr rfl)
  | false =>
  have hla := hb1 rfl
  repeat (first | refine C.seq ?_ | refine C.region ?_ | refine R.zb ttok ?_ | refine R.zu ttok ?_ | refine R.zc ttok ?_ | refine R.za ttok ?_ | refine R.zx ?_ | refine R.zl ttok ?_ | refine R.zs ttok ?_ | refine R.z ttok ?_ | refine R.zk ?_ | refine R.zn ?_ | refine R.done ?_ | refine X.then ?_ | refine C.block ?_ | refine C.ret ?_ | refine C.skip ?_ | refine C.exit ?_ | refine X.pass_ret ?_ | refine X.pass_exit ?_ | refine X.block_normal ?_ | refine X.block_ret ?_ | refine X.block_exit ?_ | refine C.zt ?_ | refine C.zf ?_ | refine X.zo ?_)
  refine R.cl [] (new_specZ) Try.call17 (by repeat (first | exact HasIn.nil | refine HasIn.same rfl rfl ?_ | refine HasIn.bro rfl ?_ | refine HasIn.ror rfl ?_ | refine HasIn.cro rfl rfl ?_)) rfl rfl rfl (fun _ => rfl) rfl (by kernel_rfl) fun _ _ => ?_
  repeat (first | refine C.seq ?_ | refine C.region ?_ | refine R.zb ttok ?_ | refine R.zu ttok ?_ | refine R.zc ttok ?_ | refine R.za ttok ?_ | refine R.zx ?_ | refine R.zl ttok ?_ | refine R.zs ttok ?_ | refine R.z ttok ?_ | refine R.zk ?_ | refine R.zn ?_ | refine R.done ?_ | refine X.then ?_ | refine C.block ?_ | refine C.ret ?_ | refine C.skip ?_ | refine C.exit ?_ | refine X.pass_ret ?_ | refine X.pass_exit ?_ | refine X.block_normal ?_ | refine X.block_ret ?_ | refine X.block_exit ?_ | refine C.zt ?_ | refine C.zf ?_ | refine X.zo ?_)
  refine C.noneH 1 [.sl 4 2 0 ([] : ZL).length 0, .raw (.int .i64 0), .raw (.bool false)] (tIZ [] 0) (none_tab _ _ _ _) rfl rfl rfl (fun ρ h => by have h : ρ 4 = none := h; show [(AV.sl 4 2 0 0 0).conc ρ, _, _] = [Value.slice none 0 0, _, _]; simp [AV.conc, AV.concs, h]; try exact ⟨rfl, rfl⟩) ?_
  refine C.noneH 2 [.sl 5 2 0 ([] : ZL).length 0, .raw (.int .i64 0), .raw (.bool false)] (tIZ [] 0) (none_tab _ _ _ _) rfl rfl rfl (fun ρ h => by have h : ρ 5 = none := h; show [(AV.sl 5 2 0 0 0).conc ρ, _, _] = [Value.slice none 0 0, _, _]; simp [AV.conc, AV.concs, h]; try exact ⟨rfl, rfl⟩) ?_
  refine C.loopG (σ := PlS) (L2 := 7) (fun s => s.ok sc.length) (fun s => [(0, .sl 0 1 off sc.length cap), (3, .ptr 1 0 0 0), (4, .ptr 2 0 0 0), (5, .ptr 3 0 0 0), (6, .raw (.int .i64 (s.i : Nat)))]) (fun s => [(0, roZ off sc), (1, tbIZ 5 (s.ls).length s.cs ((VZ (s.ls)).length : Nat) s.m), (5, tIZ (s.ls) s.cs), (2, tbIZ 6 (s.lz).length s.cz ((VZ (s.lz)).length : Nat) s.m), (6, tIZ (s.lz) s.cz), (3, .cells [.raw (s.r).s, .raw (.bool s.m)] rST)]) (fun s => FF [roZ off sc] ρ w [] (zF s.ls ++ (zF s.lz ++ rF s.r))) (fun s => sc.length - s.i) [(5, 4), (6, 5)] ⟨0, [], 0, [], 0, Rf.nil, false⟩ ⟨Nat.zero_le _, PS.nil_ok, PS.nil_ok, Nat.le_refl _, Nat.le_refl _⟩ rfl (by repeat (first | exact HasT.nil | refine HasT.cons rfl rfl rfl ?_)) (by repeat (first | exact HasH.nil | refine HasH.same rfl rfl rfl trivial ?_ | refine HasH.same rfl rfl rfl rfl ?_ | refine HasH.same rfl rfl rfl (fun _ _ => rfl) ?_ | refine HasH.roz rfl rfl ?_)) rfl (fun _ h => h) ?_
  rintro ⟨i, ls, cs, lz, cz, r, mk⟩ hI
  have hi : i ≤ sc.length := hI.hi
  have h1 : ls.length ≤ 201 * i := hI.l1
  have h2 : lz.length ≤ 201 * i := hI.l2
  dsimp only
  repeat (first | refine C.seq ?_ | refine C.region ?_ | refine R.zb ttok ?_ | refine R.zu ttok ?_ | refine R.zc ttok ?_ | refine R.za ttok ?_ | refine R.zx ?_ | refine R.zl ttok ?_ | refine R.zs ttok ?_ | refine R.z ttok ?_ | refine R.zk ?_ | refine R.zn ?_ | refine R.done ?_ | refine X.then ?_ | refine C.block ?_ | refine C.ret ?_ | refine C.skip ?_ | refine C.exit ?_ | refine X.pass_ret ?_ | refine X.pass_exit ?_ | refine X.block_normal ?_ | refine X.block_ret ?_ | refine X.block_exit ?_ | refine C.zt ?_ | refine C.zf ?_ | refine X.zo ?_)
  by_cases hlt : (i : Int) < (sc.length : Nat)
  · rw [decide_eq_true hlt]
    have hlt : i < sc.length := by omega
    obtain ⟨x, hx⟩ : ∃ x, sc.getD i StZ.no = x := ⟨_, rfl⟩
    repeat (first | refine C.seq ?_ | refine C.region ?_ | refine R.zb ttok ?_ | refine R.zu ttok ?_ | refine R.zc ttok ?_ | refine R.za ttok ?_ | refine R.zx ?_ | refine R.zl ttok ?_ | refine R.zs ttok ?_ | refine R.z ttok ?_ | refine R.zk ?_ | refine R.zn ?_ | refine R.done ?_ | refine X.then ?_ | refine C.block ?_ | refine C.ret ?_ | refine C.skip ?_ | refine C.exit ?_ | refine X.pass_ret ?_ | refine X.pass_exit ?_ | refine X.block_normal ?_ | refine X.block_ret ?_ | refine X.block_exit ?_ | refine C.zt ?_ | refine C.zf ?_ | refine X.zo ?_)
    refine R.ix1 ttok i rfl rfl rfl rfl rfl rfl rfl hlt (⟨by omega, by omega⟩ : off ≤ off + i * 6 ∧ off + i * 6 < off + sc.length * 6) rfl ?_
    refine R.ldr1 (v := .agg (stZ (sc.getD i StZ.no))) ttok i rfl rfl rfl rfl rfl rfl rfl rfl (by decide) (by omega) ?_
    rw [hx]
    repeat (first | refine C.seq ?_ | refine C.region ?_ | refine R.zb ttok ?_ | refine R.zu ttok ?_ | refine R.zc ttok ?_ | refine R.za ttok ?_ | refine R.zx ?_ | refine R.zl ttok ?_ | refine R.zs ttok ?_ | refine R.z ttok ?_ | refine R.zk ?_ | refine R.zn ?_ | refine R.done ?_ | refine X.then ?_ | refine C.block ?_ | refine C.ret ?_ | refine C.skip ?_ | refine C.exit ?_ | refine X.pass_ret ?_ | refine X.pass_exit ?_ | refine X.block_normal ?_ | refine X.block_ret ?_ | refine X.block_exit ?_ | refine C.zt ?_ | refine C.zf ?_ | refine X.zo ?_)
    refine R.wkD (fun w hf => FF.dup (X := rF r) (fun p hp => List.mem_append_right _ (List.mem_append_right _ hp)) (rF_ro r) hf) ?_
    refine R.clE [1, 5] (step_spec ⟨ls, cs, r⟩ mk x hI.hs (by show ls.length ≤ _; omega)) (zF lz ++ rF r) (pp3) (Nat.le_refl _) (fun _ _ => rfl) Try.call32 (by repeat (first | exact HasIn.nil | refine HasIn.same rfl rfl ?_ | refine HasIn.c1 rfl rfl ?_ | refine HasIn.roq rfl rfl ?_ | refine HasIn.other rfl (fun e => by cases e) (fun ρ x w hh => tab_ro hh) ?_ | refine HasIn.other rfl (fun e => by cases e) (fun ρ x w hh => tab_any hh) ?_ | refine HasIn.roAp rfl rfl ?_ | refine HasIn.other rfl (fun e => by cases e) (fun ρ x w hh => cells_any hh) ?_ | refine HasIn.other rfl (fun e => by cases e) (fun ρ x w hh => ro_any hh) ?_)) rfl rfl rfl (fun _ => rfl) rfl (by kernel_rfl) fun t1 ht1 => ?_
    refine R.wkD (fun w hf => FF.sub sub1 hf) ?_
    obtain ⟨⟨l1, c1, r1⟩, G1, mk1⟩ := t1
    obtain ⟨k1, k2, k3, k4⟩ := ht1
    have k2 : l1.length ≤ ls.length + 201 := k2
    repeat (first | refine C.seq ?_ | refine C.region ?_ | refine R.zb ttok ?_ | refine R.zu ttok ?_ | refine R.zc ttok ?_ | refine R.za ttok ?_ | refine R.zx ?_ | refine R.zl ttok ?_ | refine R.zs ttok ?_ | refine R.z ttok ?_ | refine R.zk ?_ | refine R.zn ?_ | refine R.done ?_ | refine X.then ?_ | refine C.block ?_ | refine C.ret ?_ | refine C.skip ?_ | refine C.exit ?_ | refine X.pass_ret ?_ | refine X.pass_exit ?_ | refine X.block_normal ?_ | refine X.block_ret ?_ | refine X.block_exit ?_ | refine C.zt ?_ | refine C.zf ?_ | refine X.zo ?_)
    refine R.clE [2, 6] (step_spec ⟨lz, cz, r⟩ mk x hI.hz (by show lz.length ≤ _; omega)) (zF l1 ++ rF r1) (List.perm_append_comm) (Nat.le_refl _) (fun _ _ => rfl) Try.call32 (by repeat (first | exact HasIn.nil | refine HasIn.same rfl rfl ?_ | refine HasIn.c1 rfl rfl ?_ | refine HasIn.roq rfl rfl ?_ | refine HasIn.other rfl (fun e => by cases e) (fun ρ x w hh => tab_ro hh) ?_ | refine HasIn.other rfl (fun e => by cases e) (fun ρ x w hh => tab_any hh) ?_ | refine HasIn.roAp rfl rfl ?_ | refine HasIn.other rfl (fun e => by cases e) (fun ρ x w hh => cells_any hh) ?_ | refine HasIn.other rfl (fun e => by cases e) (fun ρ x w hh => ro_any hh) ?_)) rfl rfl rfl (fun _ => rfl) rfl (by kernel_rfl) fun t2 ht2 => ?_
    refine R.wkD (fun w hf => FF.sub sub2 hf) ?_
    obtain ⟨⟨l2, c2, r2⟩, G2, mk2⟩ := t2
    obtain ⟨m1, m2, m3, m4⟩ := ht2
    have m2 : l2.length ≤ lz.length + 201 := m2
    have hee := m4.trans k4.symm
    have hmk := congrArg Prod.snd hee
    have hrr := congrArg Prod.fst hee
    dsimp only at hmk hrr
    subst hmk
    have hz : PS.ok ⟨l2, c2, r1⟩ mk2 := m1.swap k1.rok hrr.symm
    repeat (first | refine C.seq ?_ | refine C.region ?_ | refine R.zb ttok ?_ | refine R.zu ttok ?_ | refine R.zc ttok ?_ | refine R.za ttok ?_ | refine R.zx ?_ | refine R.zl ttok ?_ | refine R.zs ttok ?_ | refine R.z ttok ?_ | refine R.zk ?_ | refine R.zn ?_ | refine R.done ?_ | refine X.then ?_ | refine C.block ?_ | refine C.ret ?_ | refine C.skip ?_ | refine C.exit ?_ | refine X.pass_ret ?_ | refine X.pass_exit ?_ | refine X.block_normal ?_ | refine X.block_ret ?_ | refine X.block_exit ?_ | refine C.zt ?_ | refine C.zf ?_ | refine X.zo ?_)
    refine R.clE [1, 8] (alike_spec ⟨l1, c1, r1⟩ mk2 x.key k1 (by show l1.length ≤ _; omega)) (zF l2) (List.perm_append_comm) (Nat.le_refl _) (fun _ _ => rfl) Try.call33 (by repeat (first | exact HasIn.nil | refine HasIn.same rfl rfl ?_ | refine HasIn.c1 rfl rfl ?_ | refine HasIn.roq rfl rfl ?_ | refine HasIn.other rfl (fun e => by cases e) (fun ρ x w hh => tab_ro hh) ?_ | refine HasIn.other rfl (fun e => by cases e) (fun ρ x w hh => tab_any hh) ?_ | refine HasIn.roAp rfl rfl ?_ | refine HasIn.other rfl (fun e => by cases e) (fun ρ x w hh => cells_any hh) ?_ | refine HasIn.other rfl (fun e => by cases e) (fun ρ x w hh => ro_any hh) ?_)) rfl rfl rfl (fun _ => rfl) rfl (by kernel_rfl) fun _ _ => ?_
    repeat (first | refine C.seq ?_ | refine C.region ?_ | refine R.zb ttok ?_ | refine R.zu ttok ?_ | refine R.zc ttok ?_ | refine R.za ttok ?_ | refine R.zx ?_ | refine R.zl ttok ?_ | refine R.zs ttok ?_ | refine R.z ttok ?_ | refine R.zk ?_ | refine R.zn ?_ | refine R.done ?_ | refine X.then ?_ | refine C.block ?_ | refine C.ret ?_ | refine C.skip ?_ | refine C.exit ?_ | refine X.pass_ret ?_ | refine X.pass_exit ?_ | refine X.block_normal ?_ | refine X.block_ret ?_ | refine X.block_exit ?_ | refine C.zt ?_ | refine C.zf ?_ | refine X.zo ?_)
    refine R.clE [2, 10] (alike_spec ⟨l2, c2, r1⟩ mk2 x.other hz (by show l2.length ≤ _; omega)) (zF l1) (pp2) (Nat.le_refl _) (fun _ _ => rfl) Try.call33 (by repeat (first | exact HasIn.nil | refine HasIn.same rfl rfl ?_ | refine HasIn.c1 rfl rfl ?_ | refine HasIn.roq rfl rfl ?_ | refine HasIn.other rfl (fun e => by cases e) (fun ρ x w hh => tab_ro hh) ?_ | refine HasIn.other rfl (fun e => by cases e) (fun ρ x w hh => tab_any hh) ?_ | refine HasIn.roAp rfl rfl ?_ | refine HasIn.other rfl (fun e => by cases e) (fun ρ x w hh => cells_any hh) ?_ | refine HasIn.other rfl (fun e => by cases e) (fun ρ x w hh => ro_any hh) ?_)) rfl rfl rfl (fun _ => rfl) rfl (by kernel_rfl) fun _ _ => ?_
    repeat (first | refine C.seq ?_ | refine C.region ?_ | refine R.zb ttok ?_ | refine R.zu ttok ?_ | refine R.zc ttok ?_ | refine R.za ttok ?_ | refine R.zx ?_ | refine R.zl ttok ?_ | refine R.zs ttok ?_ | refine R.z ttok ?_ | refine R.zk ?_ | refine R.zn ?_ | refine R.done ?_ | refine X.then ?_ | refine C.block ?_ | refine C.ret ?_ | refine C.skip ?_ | refine C.exit ?_ | refine X.pass_ret ?_ | refine X.pass_exit ?_ | refine X.block_normal ?_ | refine X.block_ret ?_ | refine X.block_exit ?_ | refine C.zt ?_ | refine C.zf ?_ | refine X.zo ?_)
    refine R.clE [1, 8] (held_spec ⟨l1, c1, r1⟩ mk2 x.other k1 (by show l1.length ≤ _; omega)) (zF l2) (pp2) (Nat.le_refl _) (fun _ _ => rfl) Try.call34 (by repeat (first | exact HasIn.nil | refine HasIn.same rfl rfl ?_ | refine HasIn.c1 rfl rfl ?_ | refine HasIn.roq rfl rfl ?_ | refine HasIn.other rfl (fun e => by cases e) (fun ρ x w hh => tab_ro hh) ?_ | refine HasIn.other rfl (fun e => by cases e) (fun ρ x w hh => tab_any hh) ?_ | refine HasIn.roAp rfl rfl ?_ | refine HasIn.other rfl (fun e => by cases e) (fun ρ x w hh => cells_any hh) ?_ | refine HasIn.other rfl (fun e => by cases e) (fun ρ x w hh => ro_any hh) ?_)) rfl rfl rfl (fun _ => rfl) rfl (by kernel_rfl) fun _ _ => ?_
    repeat (first | refine C.seq ?_ | refine C.region ?_ | refine R.zb ttok ?_ | refine R.zu ttok ?_ | refine R.zc ttok ?_ | refine R.za ttok ?_ | refine R.zx ?_ | refine R.zl ttok ?_ | refine R.zs ttok ?_ | refine R.z ttok ?_ | refine R.zk ?_ | refine R.zn ?_ | refine R.done ?_ | refine X.then ?_ | refine C.block ?_ | refine C.ret ?_ | refine C.skip ?_ | refine C.exit ?_ | refine X.pass_ret ?_ | refine X.pass_exit ?_ | refine X.block_normal ?_ | refine X.block_ret ?_ | refine X.block_exit ?_ | refine C.zt ?_ | refine C.zf ?_ | refine X.zo ?_)
    refine X.fperm pp1.symm ?_
    exact X.backG [(5, 8), (6, 10)] ⟨i + 1, l1, c1, l2, c2, r1, mk2⟩ ⟨hlt, k1, hz, by show l1.length ≤ 201 * (i + 1); omega, by show l2.length ≤ 201 * (i + 1); omega⟩ (by dsimp only; omega) rfl (by repeat (first | exact HasT.nil | refine HasT.cons rfl rfl rfl ?_)) (by repeat (first | exact HasH.nil | refine HasH.same rfl rfl rfl trivial ?_ | refine HasH.same rfl rfl rfl rfl ?_ | refine HasH.same rfl rfl rfl (fun _ _ => rfl) ?_ | refine HasH.roz rfl rfl ?_)) rfl (fun _ h => h)
  rw [decide_eq_false hlt]
  repeat (first | refine C.seq ?_ | refine C.region ?_ | refine R.zb ttok ?_ | refine R.zu ttok ?_ | refine R.zc ttok ?_ | refine R.za ttok ?_ | refine R.zx ?_ | refine R.zl ttok ?_ | refine R.zs ttok ?_ | refine R.z ttok ?_ | refine R.zk ?_ | refine R.zn ?_ | refine R.done ?_ | refine X.then ?_ | refine C.block ?_ | refine C.ret ?_ | refine C.skip ?_ | refine C.exit ?_ | refine X.pass_ret ?_ | refine X.pass_exit ?_ | refine X.block_normal ?_ | refine X.block_ret ?_ | refine X.block_exit ?_ | refine C.zt ?_ | refine C.zf ?_ | refine X.zo ?_)
  refine R.clE [1, 5] (all_spec ⟨ls, cs, r⟩ mk hI.hs (by show ls.length ≤ _; omega)) (zF lz) (pp1) (Nat.le_refl _) (fun _ _ => rfl) Try.call35 (by repeat (first | exact HasIn.nil | refine HasIn.same rfl rfl ?_ | refine HasIn.c1 rfl rfl ?_ | refine HasIn.roq rfl rfl ?_ | refine HasIn.other rfl (fun e => by cases e) (fun ρ x w hh => tab_ro hh) ?_ | refine HasIn.other rfl (fun e => by cases e) (fun ρ x w hh => tab_any hh) ?_ | refine HasIn.roAp rfl rfl ?_ | refine HasIn.other rfl (fun e => by cases e) (fun ρ x w hh => cells_any hh) ?_ | refine HasIn.other rfl (fun e => by cases e) (fun ρ x w hh => ro_any hh) ?_)) rfl rfl rfl (fun _ => rfl) rfl (by kernel_rfl) fun _ _ => ?_
  repeat (first | refine C.seq ?_ | refine C.region ?_ | refine R.zb ttok ?_ | refine R.zu ttok ?_ | refine R.zc ttok ?_ | refine R.za ttok ?_ | refine R.zx ?_ | refine R.zl ttok ?_ | refine R.zs ttok ?_ | refine R.z ttok ?_ | refine R.zk ?_ | refine R.zn ?_ | refine R.done ?_ | refine X.then ?_ | refine C.block ?_ | refine C.ret ?_ | refine C.skip ?_ | refine C.exit ?_ | refine X.pass_ret ?_ | refine X.pass_exit ?_ | refine X.block_normal ?_ | refine X.block_ret ?_ | refine X.block_exit ?_ | refine C.zt ?_ | refine C.zf ?_ | refine X.zo ?_)
  refine R.clE [2, 6] (all_spec ⟨lz, cz, r⟩ mk hI.hz (by show lz.length ≤ _; omega)) (zF ls) (pp2) (Nat.le_refl _) (fun _ _ => rfl) Try.call35 (by repeat (first | exact HasIn.nil | refine HasIn.same rfl rfl ?_ | refine HasIn.c1 rfl rfl ?_ | refine HasIn.roq rfl rfl ?_ | refine HasIn.other rfl (fun e => by cases e) (fun ρ x w hh => tab_ro hh) ?_ | refine HasIn.other rfl (fun e => by cases e) (fun ρ x w hh => tab_any hh) ?_ | refine HasIn.roAp rfl rfl ?_ | refine HasIn.other rfl (fun e => by cases e) (fun ρ x w hh => cells_any hh) ?_ | refine HasIn.other rfl (fun e => by cases e) (fun ρ x w hh => ro_any hh) ?_)) rfl rfl rfl (fun _ => rfl) rfl (by kernel_rfl) fun _ _ => ?_
  repeat (first | refine C.seq ?_ | refine C.region ?_ | refine R.zb ttok ?_ | refine R.zu ttok ?_ | refine R.zc ttok ?_ | refine R.za ttok ?_ | refine R.zx ?_ | refine R.zl ttok ?_ | refine R.zs ttok ?_ | refine R.z ttok ?_ | refine R.zk ?_ | refine R.zn ?_ | refine R.done ?_ | refine X.then ?_ | refine C.block ?_ | refine C.ret ?_ | refine C.skip ?_ | refine C.exit ?_ | refine X.pass_ret ?_ | refine X.pass_exit ?_ | refine X.block_normal ?_ | refine X.block_ret ?_ | refine X.block_exit ?_ | refine C.zt ?_ | refine C.zf ?_ | refine X.zo ?_)
  refine R.wkD (fun w hf => FF.nil1 hf) ?_
  refine R.clF [] (known_specZ) (Nat.le_refl _) (fun _ _ => rfl) Try.call11 (by repeat (first | exact HasIn.nil | refine HasIn.same rfl rfl ?_ | refine HasIn.bro rfl ?_ | refine HasIn.ror rfl ?_ | refine HasIn.cro rfl rfl ?_)) rfl rfl rfl (fun _ => rfl) rfl (by kernel_rfl) fun _ _ => ?_
  repeat (first | refine C.seq ?_ | refine C.region ?_ | refine R.zb ttok ?_ | refine R.zu ttok ?_ | refine R.zc ttok ?_ | refine R.za ttok ?_ | refine R.zx ?_ | refine R.zl ttok ?_ | refine R.zs ttok ?_ | refine R.z ttok ?_ | refine R.zk ?_ | refine R.zn ?_ | refine R.done ?_ | refine X.then ?_ | refine C.block ?_ | refine C.ret ?_ | refine C.skip ?_ | refine C.exit ?_ | refine X.pass_ret ?_ | refine X.pass_exit ?_ | refine X.block_normal ?_ | refine X.block_ret ?_ | refine X.block_exit ?_ | refine C.zt ?_ | refine C.zf ?_ | refine X.zo ?_)
  refine X.finS ttok () [] trivial rfl rfl rfl (by repeat (first | exact HasH.nil | refine HasH.same rfl rfl rfl trivial ?_ | refine HasH.same rfl rfl rfl rfl ?_ | refine HasH.same rfl rfl rfl (fun _ _ => rfl) ?_ | refine HasH.ros rfl rfl ?_)) _ (by first | exact .inl rfl | exact .inr rfl)
end Go.Proofs.Yteabncomclgncaa
namespace Go.Proofs.Yteabncomclgncaa
set_option linter.unusedVariables false
set_option linter.unusedSimpArgs false
open Go.ChangeShapes Go.WideShapes Go.ChangeAt Go.RowKit
def BytesAt (w : World) (a : Option Addr) (p : List UInt8) : Prop :=
  p = [] ∨ ∃ b off, a = some ⟨b, off, none⟩ ∧ b < w.heap.size ∧ ∀ i (h : i < p.length), w.cell? ⟨b, off + i, none⟩ = some (.int .u8 ((p[i]).toNat : Int))
theorem BytesAt.nil (w : World) (a : Option Addr) : BytesAt w a [] := Or.inl rfl
theorem addr_add (b off i : Nat) : (⟨b, off, none⟩ : Addr).add i = ⟨b, off + i, none⟩ := by
  unfold Addr.add; split
  · subst_vars; rfl
  · rfl
end Go.Proofs.Yteabncomclgncaa
namespace Go.Proofs.Yteabncomclgncaa
set_option linter.unusedVariables false
set_option linter.unusedSimpArgs false
open Go.ChangeShapes Go.WideShapes Go.ChangeAt Go.RowKit
theorem slice_valid {P : Program} {W : World} {b0 : Nat} {t e : TypeId} {a : Addr} {len cap : Nat} (ht : P.underlying t = some (.slice e)) (h : Value.okWide P W .any b0 t (.slice (some a) len cap)) :
    ∃ b off cur ty fr, a = ⟨b, off, none⟩ ∧ W.heap[b]? = some (.cells cur ty fr) ∧ len ≤ cap ∧ cap ≤ 9223372036854775807 := by
  unfold Value.okWide at h
  rw [ht] at h
  simp only at h
  unfold Cell.okWide at h
  rw [ht] at h
  simp only at h
  unfold Cell.ok at h
  rw [ht] at h
  simp only at h
  obtain ⟨h1, h2, _, h3, row, cells, h4, _⟩ := h
  obtain ⟨b, off, sp⟩ := a
  simp only at h3
  subst h3
  unfold World.shape? at h4
  split at h4
  · rename_i c el fr hh
    exact ⟨b, off, c, el, fr, rfl, hh, h1, by simp [IntKind.max, IntKind.signed, IntKind.bits] at h2; omega⟩
  · cases h4
/-- a slice as rows of k cells -/
theorem read_rows {H : Type} {enc : TypeId × Value → H} {P : Program} {W : World} {b0 : Nat} {t e : TypeId} {k : Nat} {a : Option Addr} {len cap : Nat} {d : DataW H} {ps : List MemPlace}
    (hu : P.underlying t = some (.slice e)) (hk : P.cellsOf e = k) (hval : Value.okWide P W .any b0 t (.slice a len cap)) (h : DataW.Trod enc P W 0 (fun _ => true) true t (.slice a len cap) d ps) :
    ∃ (r : Option Nat) (off : Nat) (rows : Nat → List Value), a = r.map (fun b => ⟨b, off, none⟩) ∧ len ≤ cap ∧ cap ≤ 9223372036854775807 ∧ (r = none → len = 0 ∧ cap = 0) ∧
      (∀ b, r = some b → ∃ cur ty fr, W.heap[b]? = some (.cells cur ty fr) ∧ ∀ i c v, i < len → (rows i)[c]? = some v → cur[off + i * k + c]? = some v) ∧
      ∀ i, i < len → (rows i).length = k ∧ ∃ fuel y, DataW.trod enc P W 0 (fun _ => true) true fuel e (rows i) = some y := by
  obtain ⟨fuel, hf⟩ := h
  rcases DataW.trod_slice hu hf with ⟨hcs, _⟩ | ⟨x, l, c, elems, rest, n, _, hcs, _, hb, hl, hm, hlen, hel, _, _⟩
  · simp [Value.cells] at hcs
    obtain ⟨rfl, rfl, rfl⟩ := hcs
    exact ⟨none, 0, fun _ => [], rfl, Nat.le_refl _, by omega, fun _ => ⟨rfl, rfl⟩, fun b hb => (by cases hb), fun i hi => by omega⟩
  · simp [Value.cells] at hcs
    obtain ⟨rfl, rfl, rfl⟩ := hcs
    obtain ⟨b, off, cur, ty, fr, rfl, hheap, _, _⟩ := slice_valid hu hval
    have each : ∀ i, i < len → ∃ cs, W.cells? 0 ((⟨b, off, none⟩ : Addr).add (i * P.cellsOf e)) (P.cellsOf e) = some cs ∧ ∃ y, DataW.trod enc P W 0 (fun _ => true) true n e cs = some y := fun i hi => by
      have h1 := hel i hi
      have h2 : i < elems.length := by omega
      rw [List.getElem?_eq_getElem h2, Option.bind_eq_some_iff] at h1
      obtain ⟨cs, h3, h4⟩ := h1
      exact ⟨cs, h3, _, h4⟩
    refine ⟨some b, off, fun i => (W.cells? 0 ((⟨b, off, none⟩ : Addr).add (i * P.cellsOf e)) (P.cellsOf e)).getD [], rfl, hl, by unfold maxLen at hm; omega, fun h => (by cases h), fun b' hb' => ?_, fun i hi => ?_⟩
    · cases hb'
      refine ⟨cur, ty, fr, hheap, fun i c v hi hv => ?_⟩
      obtain ⟨cs, h1, _⟩ := each i hi
      simp only [h1, Option.getD_some] at hv
      obtain ⟨_, h2, h3⟩ := World.cells?_some h1
      have hc := (List.getElem?_eq_some_iff.1 hv).1
      have h4 := h3 c (by omega)
      rw [hv, addr_add, addr_add] at h4
      unfold World.cell? at h4
      rw [hheap] at h4
      simp only [Option.isSome_none, Bool.false_eq_true, if_false] at h4
      rw [← h4, ← hk]
    · obtain ⟨cs, h1, h2⟩ := each i hi
      obtain ⟨_, h3, _⟩ := World.cells?_some h1
      simp only [h1, Option.getD_some]
      exact ⟨by rw [h3, hk], n, h2⟩
/-- rows as a label's: what they are made of is told by f -/
theorem rows_ro {W : World} {k off len : Nat} {r : Option Nat} {rows : Nat → List Value} {f : Nat → List AV} (hk : 0 < k) (ρ : Env) (hlen : ∀ i, i < len → (rows i).length = k) (hf : ∀ i, i < len → rows i = AV.concs ρ (f i)) (hn : r = none → len = 0)
    (hr : ∀ b, r = some b → ∃ cur ty fr, W.heap[b]? = some (.cells cur ty fr) ∧ ∀ i c v, i < len → (rows i)[c]? = some v → cur[off + i * k + c]? = some v) : (AO.ro 1 off (len * k) (rowsF k f)).holds ρ r W := by
  cases r with
  | none => exact .inl ⟨rfl, by rw [hn rfl]; omega⟩
  | some b =>
    obtain ⟨cur, ty, fr, h1, h2⟩ := hr b rfl
    refine .inr ⟨b, cur, ty, fr, rfl, h1, fun i c x hi hx => ?_⟩
    have hi1 : i / k < len := Nat.div_lt_of_lt_mul (by rw [Nat.mul_comm]; exact hi)
    have hi2 : i % k < k := Nat.mod_lt _ hk
    unfold rowsF at hx
    split at hx
    · rename_i v hv
      cases c with
      | zero =>
        simp only [List.getElem?_cons_zero, Option.some.injEq] at hx
        subst hx
        have h3 := h2 (i / k) (i % k) (v.conc ρ) hi1 (by rw [hf _ hi1]; exact concs_getR hv)
        rw [← h3]
        congr 1
        have := Nat.div_add_mod i k
        rw [Nat.mul_comm] at this
        omega
      | succ c => simp at hx
    · simp at hx
  where concs_getR {ρ : Env} {xs : List AV} {i : Nat} {v : AV} (h : xs[i]? = some v) : (AV.concs ρ xs)[i]? = some (v.conc ρ) := by rw [concs_map, List.getElem?_map, h]; rfl
inductive LF where
  | i (k : IntKind) | s | b
def LF.ok : LF → Value → Prop
  | .i k, v => ∃ n, v = .int k n ∧ (Lit.int k n).wf = true
  | .s, v => ∃ s, v = .string s ∧ s.size ≤ 9223372036854775807
  | .b, v => ∃ x, v = .bool x
def LF.of (P : Program) (t : TypeId) : Option LF := match P.underlying t with
  | some (.int k) => some (.i k)
  | some .string => some .s
  | some .bool => some .b
  | _ => none
theorem leaf_ok {H : Type} {enc : TypeId × Value → H} {P : Program} {W : World} {t : TypeId} {k : LF} {fuel : Nat} {v : Value} {x : DataW H × List MemPlace} (hk : LF.of P t = some k)
    (h : DataW.trod enc P W 0 (fun _ => true) true fuel t [v] = some x) : k.ok v := by
  unfold LF.of at hk
  split at hk <;> cases hk
  · rename_i ht
    obtain ⟨n, h1, _, h2⟩ := DataW.trod_int ht h
    cases h1
    exact ⟨n, rfl, h2⟩
  · rename_i ht
    obtain ⟨s, h1, _, h2⟩ := DataW.trod_string ht h
    cases h1
    exact ⟨s, rfl, by unfold maxLen at h2; omega⟩
  · rename_i ht
    cases fuel with
    | zero => simp [DataW.trod] at h
    | succ n =>
      unfold DataW.trod at h
      rw [ht] at h
      split at h <;> simp_all
      exact ⟨_, rfl⟩
theorem struct_leafs {H : Type} {enc : TypeId × Value → H} {P : Program} {W : World} {t : TypeId} {fs : Array Field} {ks : List LF} {fuel : Nat} {cs : List Value} {x : DataW H × List MemPlace} (ht : P.underlying t = some (.struct fs))
    (ho : fs.toList.map (·.offset) = List.range ks.length) (hc : fs.toList.map (fun f => P.cellsOf f.type) = ks.map fun _ => 1) (hk : fs.toList.map (fun f => LF.of P f.type) = ks.map some) (h : DataW.trod enc P W 0 (fun _ => true) true fuel t cs = some x) (hl : cs.length = ks.length) :
    ∀ (j : Nat) (k : LF), ks[j]? = some k → ∃ v, cs[j]? = some v ∧ k.ok v := by
  obtain ⟨xs, n, _, _, _, hx, he⟩ := DataW.trod_struct ht h
  intro j k hj
  have hjl := (List.getElem?_eq_some_iff.1 hj).1
  have hk' := congrArg (fun l => l[j]?) hk
  simp only [List.getElem?_map, hj, Option.map_some] at hk'
  cases hf : fs.toList[j]? with
  | none => rw [hf] at hk'; cases hk'
  | some f =>
    rw [hf] at hk'
    simp only [Option.map_some, Option.some.injEq] at hk'
    have ho' := congrArg (fun l => l[j]?) ho
    have hc' := congrArg (fun l => l[j]?) hc
    simp only [List.getElem?_map, hj, hf, Option.map_some, Option.some.injEq] at ho' hc'
    rw [List.getElem?_range hjl, Option.some.injEq] at ho'
    have hjs : j < xs.length := by
      have := (List.getElem?_eq_some_iff.1 hf).1
      simp at this
      omega
    have h1 := he j f (by simpa using hf)
    rw [ho', hc', List.getElem?_eq_getElem hjs] at h1
    have h2 : j < cs.length := by omega
    have h3 : (cs.drop j).take 1 = [cs[j]] := by
      rw [List.drop_eq_getElem_cons h2]; rfl
    rw [h3] at h1
    exact ⟨cs[j], List.getElem?_eq_getElem h2, leaf_ok hk' h1⟩
/-- a contract of a law, as the row wants it -/
theorem Spec.law {P : Program} {f : FuncId} {avs : List AV} {h0 : List AO} {post : Unit → List (Nat × AO)} {m : Nat} (sp : Spec P f avs h0 m (σ := Unit) (fun _ => True) (fun _ => .raw (.bool true)) post) (hro : h0.all AO.isRo = true) (ρ : Env) (w : World)
    (hh : ∀ (i : Nat) (o : AO), h0[i]? = some o → o.holds ρ (ρ i) w) (hal : ∀ i b, ρ i = some b → b < w.heap.size) (vs : Array Value) (hv : (AV.concs ρ avs).toArray = vs) :
    Calls P f vs w fun e w' => e = .returned (.bool true) ∧ Below w.heap.size w w' := by
  have hr : ∀ (i : Nat) (o : AO), h0[i]? = some o → o.isRo = true := fun i o h => List.all_eq_true.1 hro o (List.mem_of_getElem? h)
  have := sp ρ w hh (fun i j o b h hn => by rw [hr i o h] at hn; cases hn) (fun i b _ h => hal i b h)
  rw [hv] at this
  refine this.mono ?_
  rintro e w' ⟨s, ρ', _, _, he, _, hag, _⟩
  exact ⟨he, hag.os, hag.tape, hag.output, hag.size, fun b hb => hag.block b hb fun ⟨i, o, h, hn, _⟩ => by rw [hr i o h] at hn; cases hn⟩
end Go.Proofs.Yteabncomclgncaa
namespace Go.Proofs.Yteabncomclgncaa
set_option linter.unusedVariables false
set_option linter.unusedSimpArgs false
open Go.ChangeShapes Go.WideShapes Go.ChangeAt Go.RowKit
set_option maxRecDepth 100000
set_option maxHeartbeats 4000000
theorem read_stepsz {H : Type} {enc : TypeId × Value → H} {W : World} {b0 : Nat} {a : Option Addr} {len cap : Nat} {d : DataW H} {ps : List MemPlace} (hu : Try.prog.underlying 36 = some (.slice 42))
    (hval : Value.okWide Try.prog W .any b0 36 (.slice a len cap)) (h : DataW.Trod enc Try.prog W 0 (fun _ => true) true 36 (.slice a len cap) d ps) :
    ∃ (r : Option Nat) (off : Nat) (l : List StZ), a = r.map (fun b => ⟨b, off, none⟩) ∧ l.length = len ∧ True ∧ len ≤ cap ∧ cap ≤ 9223372036854775807 ∧ (∀ b, r = some b → b < W.heap.size) ∧ ∀ ρ, (roZ off l).holds ρ r W := by
  obtain ⟨r, off, rows, ha, h1, h2, h3, h4, h5⟩ := read_rows hu (k := 6) (by kernel_rfl) hval h
  have each : ∀ i, i < len → ∃ x : StZ, rows i = [.int .i64 x.kind, .int .i64 x.v, .int .i64 x.n, .string x.key, .string x.to, .string x.other] := fun i hi => by
    obtain ⟨hl, fuel, y, hy⟩ := h5 i hi
    have hs := struct_leafs (ks := [.i .i64, .i .i64, .i .i64, .s, .s, .s]) Try.underlying42 (by kernel_rfl) (by kernel_rfl) (by kernel_rfl) hy (by rw [hl]; rfl)
    obtain ⟨v0, e0, n0, rfl, w0⟩ := hs 0 _ rfl
    obtain ⟨v1, e1, n1, rfl, w1⟩ := hs 1 _ rfl
    obtain ⟨v2, e2, n2, rfl, w2⟩ := hs 2 _ rfl
    obtain ⟨v3, e3, s3, rfl, w3⟩ := hs 3 _ rfl
    obtain ⟨v4, e4, s4, rfl, w4⟩ := hs 4 _ rfl
    obtain ⟨v5, e5, s5, rfl, w5⟩ := hs 5 _ rfl
    refine ⟨⟨n0, n1, n2, s3, s4, s5⟩, ?_⟩
    match hr : rows i, hl, e0, e1, e2, e3, e4, e5 with
    | [a, b, c, d, e, f], _, e0, e1, e2, e3, e4, e5 =>
      simp only [List.getElem?_cons_zero, List.getElem?_cons_succ, Option.some.injEq] at e0 e1 e2 e3 e4 e5
      rw [e0, e1, e2, e3, e4, e5]
  let g : Nat → StZ := fun i => if hi : i < len then Classical.choose (each i hi) else StZ.no
  have hg : ∀ i, i < len → rows i = AV.concs (fun _ => none) (stZ (g i)) := fun i hi => by
    have := Classical.choose_spec (each i hi)
    simp only [g, hi, dif_pos]
    exact this
  have hlen : ((List.range len).map g).length = len := by simp
  have hget : ∀ i, i < len → szF ((List.range len).map g) i = stZ (g i) := fun i hi => by
    unfold szF
    congr 1
    simp [List.getD, hi]
  refine ⟨r, off, (List.range len).map g, ha, hlen, trivial, h1, h2, fun b hb => ?_, fun ρ => ?_⟩
  · obtain ⟨cur, ty, fr, h6, _⟩ := h4 b hb
    exact (Array.getElem?_eq_some_iff.1 h6).1
  · show (AO.ro 1 off (((List.range len).map g).length * 6) (rowsF 6 (szF ((List.range len).map g)))).holds ρ r W
    rw [hlen]
    exact rows_ro (by omega) ρ (fun i hi => (h5 i hi).1) (fun i hi => by rw [hget i hi, hg i hi]; rfl) (fun h => (h3 h).1) h4
end Go.Proofs.Yteabncomclgncaa
namespace Go.Proofs.Yteabncomclgncaa
set_option linter.unusedVariables false
set_option linter.unusedSimpArgs false
open Go.RowKit
set_option maxRecDepth 100000
set_option maxHeartbeats 8000000
structure TwS where
  s : PS
  m : Bool
abbrev twF (a b : TwS) : Fam := (zF a.s.l ++ rF a.s.r) ++ (zF b.s.l ++ rF b.s.r)
section
variable (sa sb : List StZ) (oa ob ca cb : Nat)
theorem zigzagTwo_law (hsa : sa.length ≤ 9223372036854775807) (hsb : sb.length ≤ 9223372036854775807) :
    Spec Try.prog 8 [.sl 0 1 oa sa.length ca, .sl 1 1 ob sb.length cb] [roZ oa sa, roZ ob sb] 2 (σ := Unit) (fun _ => True) (fun _ => .raw (.bool true)) (fun _ => []) := by
  refine Spec.ofF Try.func8 rfl Try.ntmps8 rfl (by repeat (first | exact bdl_nil _ | refine bdl_cons (rowsZ_bd _ _ _ _) ?_ | refine bdl_cons rfl ?_ | refine bdl_cons (fun _ _ => rfl) ?_ | refine bdl_cons (roA_bd rfl) ?_)) fun ρ w => ?_
  repeat (first | refine C.seq ?_ | refine C.region ?_ | refine R.zb ttok ?_ | refine R.zu ttok ?_ | refine R.zc ttok ?_ | refine R.za ttok ?_ | refine R.zx ?_ | refine R.zl ttok ?_ | refine R.zs ttok ?_ | refine R.z ttok ?_ | refine R.zk ?_ | refine R.zn ?_ | refine R.done ?_ | refine X.then ?_ | refine C.block ?_ | refine C.ret ?_ | refine C.skip ?_ | refine C.exit ?_ | refine X.pass_ret ?_ | refine X.pass_exit ?_ | refine X.block_normal ?_ | refine X.block_ret ?_ | refine X.block_exit ?_ | refine C.zt ?_ | refine C.zf ?_ | refine X.zo ?_)
  refine R.cl [0] (much_spec sa oa ca hsa) Try.call16 ((by exact .roz rfl .nil)) rfl rfl rfl (fun _ => rfl) rfl (by kernel_rfl) fun b1 hb1 => ?_
  cases b1 with
  | true =>
    repeat (first | refine C.seq ?_ | refine C.region ?_ | refine R.zb ttok ?_ | refine R.zu ttok ?_ | refine R.zc ttok ?_ | refine R.za ttok ?_ | refine R.zx ?_ | refine R.zl ttok ?_ | refine R.zs ttok ?_ | refine R.z ttok ?_ | refine R.zk ?_ | refine R.zn ?_ | refine R.done ?_ | refine X.then ?_ | refine C.block ?_ | refine C.ret ?_ | refine C.skip ?_ | refine C.exit ?_ | refine X.pass_ret ?_ | refine X.pass_exit ?_ | refine X.block_normal ?_ | refine X.block_ret ?_ | refine X.block_exit ?_ | refine C.zt ?_ | refine C.zf ?_ | refine X.zo ?_)
    refine R.clF [] (known_specZ) (Nat.le_refl _) (fun _ _ => rfl) Try.call11 (by repeat (first | exact HasIn.nil | refine HasIn.same rfl rfl ?_ | refine HasIn.bro rfl ?_ | refine HasIn.ror rfl ?_ | refine HasIn.cro rfl rfl ?_)) rfl rfl rfl (fun _ => rfl) rfl (by kernel_rfl) fun _ _ => ?_
    repeat (first | refine C.seq ?_ | refine C.region ?_ | refine R.zb ttok ?_ | refine R.zu ttok ?_ | refine R.zc ttok ?_ | refine R.za ttok ?_ | refine R.zx ?_ | refine R.zl ttok ?_ | refine R.zs ttok ?_ | refine R.z ttok ?_ | refine R.zk ?_ | refine R.zn ?_ | refine R.done ?_ | refine X.then ?_ | refine C.block ?_ | refine C.ret ?_ | refine C.skip ?_ | refine C.exit ?_ | refine X.pass_ret ?_ | refine X.pass_exit ?_ | refine X.block_normal ?_ | refine X.block_ret ?_ | refine X.block_exit ?_ | refine C.zt ?_ | refine C.zf ?_ | refine X.zo ?_)
    refine X.finS ttok () [] trivial rfl rfl rfl (by repeat (first | exact HasH.nil | refine HasH.same rfl rfl rfl trivial ?_ | refine HasH.same rfl rfl rfl rfl ?_ | refine HasH.same rfl rfl rfl (fun _ _ => rfl) ?_ | refine HasH.ros rfl rfl ?_)) _ (by first | exact .inl rfl | exact .inr rfl)
  | false =>
  have hla := hb1 rfl
  repeat (first | refine C.seq ?_ | refine C.region ?_ | refine R.zb ttok ?_ | refine R.zu ttok ?_ | refine R.zc ttok ?_ | refine R.za ttok ?_ | refine R.zx ?_ | refine R.zl ttok ?_ | refine R.zs ttok ?_ | refine R.z ttok ?_ | refine R.zk ?_ | refine R.zn ?_ | refine R.done ?_ | refine X.then ?_ | refine C.block ?_ | refine C.ret ?_ | refine C.skip ?_ | refine C.exit ?_ | refine X.pass_ret ?_ | refine X.pass_exit ?_ | refine X.block_normal ?_ | refine X.block_ret ?_ | refine X.block_exit ?_ | refine C.zt ?_ | refine C.zf ?_ | refine X.zo ?_)
  refine R.cl [1] (much_spec sb ob cb hsb) Try.call16 ((by exact .roz rfl .nil)) rfl rfl rfl (fun _ => rfl) rfl (by kernel_rfl) fun b2 hb2 => ?_
  cases b2 with
  | true =>
    repeat (first | refine C.seq ?_ | refine C.region ?_ | refine R.zb ttok ?_ | refine R.zu ttok ?_ | refine R.zc ttok ?_ | refine R.za ttok ?_ | refine R.zx ?_ | refine R.zl ttok ?_ | refine R.zs ttok ?_ | refine R.z ttok ?_ | refine R.zk ?_ | refine R.zn ?_ | refine R.done ?_ | refine X.then ?_ | refine C.block ?_ | refine C.ret ?_ | refine C.skip ?_ | refine C.exit ?_ | refine X.pass_ret ?_ | refine X.pass_exit ?_ | refine X.block_normal ?_ | refine X.block_ret ?_ | refine X.block_exit ?_ | refine C.zt ?_ | refine C.zf ?_ | refine X.zo ?_)
    refine R.clF [] (known_specZ) (Nat.le_refl _) (fun _ _ => rfl) Try.call11 (by repeat (first | exact HasIn.nil | refine HasIn.same rfl rfl ?_ | refine HasIn.bro rfl ?_ | refine HasIn.ror rfl ?_ | refine HasIn.cro rfl rfl ?_)) rfl rfl rfl (fun _ => rfl) rfl (by kernel_rfl) fun _ _ => ?_
    repeat (first | refine C.seq ?_ | refine C.region ?_ | refine R.zb ttok ?_ | refine R.zu ttok ?_ | refine R.zc ttok ?_ | refine R.za ttok ?_ | refine R.zx ?_ | refine R.zl ttok ?_ | refine R.zs ttok ?_ | refine R.z ttok ?_ | refine R.zk ?_ | refine R.zn ?_ | refine R.done ?_ | refine X.then ?_ | refine C.block ?_ | refine C.ret ?_ | refine C.skip ?_ | refine C.exit ?_ | refine X.pass_ret ?_ | refine X.pass_exit ?_ | refine X.block_normal ?_ | refine X.block_ret ?_ | refine X.block_exit ?_ | refine C.zt ?_ | refine C.zf ?_ | refine X.zo ?_)
    refine X.finS ttok () [] trivial rfl rfl rfl (by repeat (first | exact HasH.nil | refine HasH.same rfl rfl rfl trivial ?_ | refine HasH.same rfl rfl rfl rfl ?_ | refine HasH.same rfl rfl rfl (fun _ _ => rfl) ?_ | refine HasH.ros rfl rfl ?_)) _ (by first | exact .inl rfl | exact .inr rfl)
  | false =>
  have hlb := hb2 rfl
  repeat (first | refine C.seq ?_ | refine C.region ?_ | refine R.zb ttok ?_ | refine R.zu ttok ?_ | refine R.zc ttok ?_ | refine R.za ttok ?_ | refine R.zx ?_ | refine R.zl ttok ?_ | refine R.zs ttok ?_ | refine R.z ttok ?_ | refine R.zk ?_ | refine R.zn ?_ | refine R.done ?_ | refine X.then ?_ | refine C.block ?_ | refine C.ret ?_ | refine C.skip ?_ | refine C.exit ?_ | refine X.pass_ret ?_ | refine X.pass_exit ?_ | refine X.block_normal ?_ | refine X.block_ret ?_ | refine X.block_exit ?_ | refine C.zt ?_ | refine C.zf ?_ | refine X.zo ?_)
  refine R.cl [] (new_specZ) Try.call17 (by repeat (first | exact HasIn.nil | refine HasIn.same rfl rfl ?_ | refine HasIn.bro rfl ?_ | refine HasIn.ror rfl ?_ | refine HasIn.cro rfl rfl ?_)) rfl rfl rfl (fun _ => rfl) rfl (by kernel_rfl) fun _ _ => ?_
  repeat (first | refine C.seq ?_ | refine C.region ?_ | refine R.zb ttok ?_ | refine R.zu ttok ?_ | refine R.zc ttok ?_ | refine R.za ttok ?_ | refine R.zx ?_ | refine R.zl ttok ?_ | refine R.zs ttok ?_ | refine R.z ttok ?_ | refine R.zk ?_ | refine R.zn ?_ | refine R.done ?_ | refine X.then ?_ | refine C.block ?_ | refine C.ret ?_ | refine C.skip ?_ | refine C.exit ?_ | refine X.pass_ret ?_ | refine X.pass_exit ?_ | refine X.block_normal ?_ | refine X.block_ret ?_ | refine X.block_exit ?_ | refine C.zt ?_ | refine C.zf ?_ | refine X.zo ?_)
  refine R.cl [] (new_specZ) Try.call17 (by repeat (first | exact HasIn.nil | refine HasIn.same rfl rfl ?_ | refine HasIn.bro rfl ?_ | refine HasIn.ror rfl ?_ | refine HasIn.cro rfl rfl ?_)) rfl rfl rfl (fun _ => rfl) rfl (by kernel_rfl) fun _ _ => ?_
  repeat (first | refine C.seq ?_ | refine C.region ?_ | refine R.zb ttok ?_ | refine R.zu ttok ?_ | refine R.zc ttok ?_ | refine R.za ttok ?_ | refine R.zx ?_ | refine R.zl ttok ?_ | refine R.zs ttok ?_ | refine R.z ttok ?_ | refine R.zk ?_ | refine R.zn ?_ | refine R.done ?_ | refine X.then ?_ | refine C.block ?_ | refine C.ret ?_ | refine C.skip ?_ | refine C.exit ?_ | refine X.pass_ret ?_ | refine X.pass_exit ?_ | refine X.block_normal ?_ | refine X.block_ret ?_ | refine X.block_exit ?_ | refine C.zt ?_ | refine C.zf ?_ | refine X.zo ?_)
  refine C.noneH 2 [.sl 6 2 0 ([] : ZL).length 0, .raw (.int .i64 0), .raw (.bool false)] (tIZ [] 0) (none_tab _ _ _ _) rfl rfl rfl (fun ρ h => by have h : ρ 6 = none := h; show [(AV.sl 6 2 0 0 0).conc ρ, _, _] = [Value.slice none 0 0, _, _]; simp [AV.conc, AV.concs, h]; try exact ⟨rfl, rfl⟩) ?_
  refine C.noneH 3 [.sl 7 2 0 ([] : ZL).length 0, .raw (.int .i64 0), .raw (.bool false)] (tIZ [] 0) (none_tab _ _ _ _) rfl rfl rfl (fun ρ h => by have h : ρ 7 = none := h; show [(AV.sl 7 2 0 0 0).conc ρ, _, _] = [Value.slice none 0 0, _, _]; simp [AV.conc, AV.concs, h]; try exact ⟨rfl, rfl⟩) ?_
  refine C.loopG (σ := Nat × TwS × TwS) (L2 := 10) (fun s => s.1 ≤ 200 ∧ s.2.1.s.ok s.2.1.m ∧ s.2.2.s.ok s.2.2.m ∧ s.2.1.s.l.length ≤ 201 * s.1 ∧ s.2.2.s.l.length ≤ 201 * s.1) (fun s => [(0, .sl 0 1 oa sa.length ca), (1, .sl 1 1 ob sb.length cb), (5, .ptr 2 0 0 0), (6, .ptr 3 0 0 0), (7, .ptr 4 0 0 0), (8, .ptr 5 0 0 0), (9, .raw (.int .i64 ((s.1 : Nat) : Int)))]) (fun s => [(0, roZ oa sa), (1, roZ ob sb), (2, tbIZ 8 (s.2.1).s.l.length (s.2.1).s.c ((VZ (s.2.1).s.l).length : Nat) (s.2.1).m), (8, tIZ (s.2.1).s.l (s.2.1).s.c), (3, tbIZ 9 (s.2.2).s.l.length (s.2.2).s.c ((VZ (s.2.2).s.l).length : Nat) (s.2.2).m), (9, tIZ (s.2.2).s.l (s.2.2).s.c), (4, .cells [.raw (s.2.1).s.r.s, .raw (.bool (s.2.1).m)] rST), (5, .cells [.raw (s.2.2).s.r.s, .raw (.bool (s.2.2).m)] rST)]) (fun s => FF [roZ oa sa, roZ ob sb] ρ w [] (twF s.2.1 s.2.2)) (fun s => 200 - s.1) [(8, 6), (9, 7)] (0, ⟨⟨[], 0, Rf.nil⟩, false⟩, ⟨⟨[], 0, Rf.nil⟩, false⟩) ⟨Nat.zero_le _, PS.nil_ok, PS.nil_ok, Nat.le_refl _, Nat.le_refl _⟩ rfl (by repeat (first | exact HasT.nil | refine HasT.cons rfl rfl rfl ?_)) (by repeat (first | exact HasH.nil | refine HasH.same rfl rfl rfl trivial ?_ | refine HasH.same rfl rfl rfl rfl ?_ | refine HasH.same rfl rfl rfl (fun _ _ => rfl) ?_ | refine HasH.roz rfl rfl ?_)) rfl (fun _ h => h) ?_
  rintro ⟨i, a, b⟩ ⟨hi, hA, hB, h1, h2⟩
  dsimp only at hi hA hB h1 h2 ⊢
  refine C.cutG (σ := Unit) 10 (fun _ => i < sa.length ∨ i < sb.length) (fun _ => [(0, .sl 0 1 oa sa.length ca), (1, .sl 1 1 ob sb.length cb), (5, .ptr 2 0 0 0), (6, .ptr 3 0 0 0), (7, .ptr 4 0 0 0), (8, .ptr 5 0 0 0), (9, .raw (.int .i64 ((i : Nat) : Int)))]) (fun _ => [(0, roZ oa sa), (1, roZ ob sb), (2, tbIZ 8 (a).s.l.length (a).s.c ((VZ (a).s.l).length : Nat) (a).m), (8, tIZ (a).s.l (a).s.c), (3, tbIZ 9 (b).s.l.length (b).s.c ((VZ (b).s.l).length : Nat) (b).m), (9, tIZ (b).s.l (b).s.c), (4, .cells [.raw (a).s.r.s, .raw (.bool (a).m)] rST), (5, .cells [.raw (b).s.r.s, .raw (.bool (b).m)] rST)]) (fun _ => FF [roZ oa sa, roZ ob sb] ρ w [] (twF a b)) ?_ ?_
  · repeat (first | refine C.seq ?_ | refine C.region ?_ | refine R.zb ttok ?_ | refine R.zu ttok ?_ | refine R.zc ttok ?_ | refine R.za ttok ?_ | refine R.zx ?_ | refine R.zl ttok ?_ | refine R.zs ttok ?_ | refine R.z ttok ?_ | refine R.zk ?_ | refine R.zn ?_ | refine R.done ?_ | refine X.then ?_ | refine C.block ?_ | refine C.ret ?_ | refine C.skip ?_ | refine C.exit ?_ | refine X.pass_ret ?_ | refine X.pass_exit ?_ | refine X.block_normal ?_ | refine X.block_ret ?_ | refine X.block_exit ?_ | refine C.zt ?_ | refine C.zf ?_ | refine X.zo ?_)
    by_cases hlt : (i : Int) < (sa.length : Nat)
    · rw [decide_eq_true hlt]
      repeat (first | refine C.seq ?_ | refine C.region ?_ | refine R.zb ttok ?_ | refine R.zu ttok ?_ | refine R.zc ttok ?_ | refine R.za ttok ?_ | refine R.zx ?_ | refine R.zl ttok ?_ | refine R.zs ttok ?_ | refine R.z ttok ?_ | refine R.zk ?_ | refine R.zn ?_ | refine R.done ?_ | refine X.then ?_ | refine C.block ?_ | refine C.ret ?_ | refine C.skip ?_ | refine C.exit ?_ | refine X.pass_ret ?_ | refine X.pass_exit ?_ | refine X.block_normal ?_ | refine X.block_ret ?_ | refine X.block_exit ?_ | refine C.zt ?_ | refine C.zf ?_ | refine X.zo ?_)
      exact X.backG [] () (.inl (by omega)) (by decide) rfl (by repeat (first | exact HasT.nil | refine HasT.cons rfl rfl rfl ?_)) (by repeat (first | exact HasH.nil | refine HasH.same rfl rfl rfl trivial ?_ | refine HasH.same rfl rfl rfl rfl ?_ | refine HasH.same rfl rfl rfl (fun _ _ => rfl) ?_ | refine HasH.roz rfl rfl ?_)) rfl (fun _ h => h)
    rw [decide_eq_false hlt]
    repeat (first | refine C.seq ?_ | refine C.region ?_ | refine R.zb ttok ?_ | refine R.zu ttok ?_ | refine R.zc ttok ?_ | refine R.za ttok ?_ | refine R.zx ?_ | refine R.zl ttok ?_ | refine R.zs ttok ?_ | refine R.z ttok ?_ | refine R.zk ?_ | refine R.zn ?_ | refine R.done ?_ | refine X.then ?_ | refine C.block ?_ | refine C.ret ?_ | refine C.skip ?_ | refine C.exit ?_ | refine X.pass_ret ?_ | refine X.pass_exit ?_ | refine X.block_normal ?_ | refine X.block_ret ?_ | refine X.block_exit ?_ | refine C.zt ?_ | refine C.zf ?_ | refine X.zo ?_)
    by_cases hlt2 : (i : Int) < (sb.length : Nat)
    · rw [decide_eq_true hlt2]
      repeat (first | refine C.seq ?_ | refine C.region ?_ | refine R.zb ttok ?_ | refine R.zu ttok ?_ | refine R.zc ttok ?_ | refine R.za ttok ?_ | refine R.zx ?_ | refine R.zl ttok ?_ | refine R.zs ttok ?_ | refine R.z ttok ?_ | refine R.zk ?_ | refine R.zn ?_ | refine R.done ?_ | refine X.then ?_ | refine C.block ?_ | refine C.ret ?_ | refine C.skip ?_ | refine C.exit ?_ | refine X.pass_ret ?_ | refine X.pass_exit ?_ | refine X.block_normal ?_ | refine X.block_ret ?_ | refine X.block_exit ?_ | refine C.zt ?_ | refine C.zf ?_ | refine X.zo ?_)
      exact X.backG [] () (.inr (by omega)) (by decide) rfl (by repeat (first | exact HasT.nil | refine HasT.cons rfl rfl rfl ?_)) (by repeat (first | exact HasH.nil | refine HasH.same rfl rfl rfl trivial ?_ | refine HasH.same rfl rfl rfl rfl ?_ | refine HasH.same rfl rfl rfl (fun _ _ => rfl) ?_ | refine HasH.roz rfl rfl ?_)) rfl (fun _ h => h)
    rw [decide_eq_false hlt2]
    repeat (first | refine C.seq ?_ | refine C.region ?_ | refine R.zb ttok ?_ | refine R.zu ttok ?_ | refine R.zc ttok ?_ | refine R.za ttok ?_ | refine R.zx ?_ | refine R.zl ttok ?_ | refine R.zs ttok ?_ | refine R.z ttok ?_ | refine R.zk ?_ | refine R.zn ?_ | refine R.done ?_ | refine X.then ?_ | refine C.block ?_ | refine C.ret ?_ | refine C.skip ?_ | refine C.exit ?_ | refine X.pass_ret ?_ | refine X.pass_exit ?_ | refine X.block_normal ?_ | refine X.block_ret ?_ | refine X.block_exit ?_ | refine C.zt ?_ | refine C.zf ?_ | refine X.zo ?_)
    refine R.clE [2, 8] (all_spec a.s a.m hA (by omega)) (zF b.s.l ++ rF b.s.r) (.refl _) (Nat.le_refl _) (fun _ _ => rfl) Try.call35 (by repeat (first | exact HasIn.nil | refine HasIn.same rfl rfl ?_ | refine HasIn.c1 rfl rfl ?_ | refine HasIn.roq rfl rfl ?_ | refine HasIn.other rfl (fun e => by cases e) (fun ρ x w hh => tab_ro hh) ?_ | refine HasIn.other rfl (fun e => by cases e) (fun ρ x w hh => tab_any hh) ?_ | refine HasIn.roAp rfl rfl ?_ | refine HasIn.other rfl (fun e => by cases e) (fun ρ x w hh => cells_any hh) ?_ | refine HasIn.other rfl (fun e => by cases e) (fun ρ x w hh => ro_any hh) ?_)) rfl rfl rfl (fun _ => rfl) rfl (by kernel_rfl) fun _ _ => ?_
    repeat (first | refine C.seq ?_ | refine C.region ?_ | refine R.zb ttok ?_ | refine R.zu ttok ?_ | refine R.zc ttok ?_ | refine R.za ttok ?_ | refine R.zx ?_ | refine R.zl ttok ?_ | refine R.zs ttok ?_ | refine R.z ttok ?_ | refine R.zk ?_ | refine R.zn ?_ | refine R.done ?_ | refine X.then ?_ | refine C.block ?_ | refine C.ret ?_ | refine C.skip ?_ | refine C.exit ?_ | refine X.pass_ret ?_ | refine X.pass_exit ?_ | refine X.block_normal ?_ | refine X.block_ret ?_ | refine X.block_exit ?_ | refine C.zt ?_ | refine C.zf ?_ | refine X.zo ?_)
    refine R.clE [3, 9] (all_spec b.s b.m hB (by omega)) (zF a.s.l ++ rF a.s.r) (List.perm_append_comm) (Nat.le_refl _) (fun _ _ => rfl) Try.call35 (by repeat (first | exact HasIn.nil | refine HasIn.same rfl rfl ?_ | refine HasIn.c1 rfl rfl ?_ | refine HasIn.roq rfl rfl ?_ | refine HasIn.other rfl (fun e => by cases e) (fun ρ x w hh => tab_ro hh) ?_ | refine HasIn.other rfl (fun e => by cases e) (fun ρ x w hh => tab_any hh) ?_ | refine HasIn.roAp rfl rfl ?_ | refine HasIn.other rfl (fun e => by cases e) (fun ρ x w hh => cells_any hh) ?_ | refine HasIn.other rfl (fun e => by cases e) (fun ρ x w hh => ro_any hh) ?_)) rfl rfl rfl (fun _ => rfl) rfl (by kernel_rfl) fun _ _ => ?_
    repeat (first | refine C.seq ?_ | refine C.region ?_ | refine R.zb ttok ?_ | refine R.zu ttok ?_ | refine R.zc ttok ?_ | refine R.za ttok ?_ | refine R.zx ?_ | refine R.zl ttok ?_ | refine R.zs ttok ?_ | refine R.z ttok ?_ | refine R.zk ?_ | refine R.zn ?_ | refine R.done ?_ | refine X.then ?_ | refine C.block ?_ | refine C.ret ?_ | refine C.skip ?_ | refine C.exit ?_ | refine X.pass_ret ?_ | refine X.pass_exit ?_ | refine X.block_normal ?_ | refine X.block_ret ?_ | refine X.block_exit ?_ | refine C.zt ?_ | refine C.zf ?_ | refine X.zo ?_)
    refine R.wkD (fun w hf => FF.nil1 hf) ?_
    refine R.clF [] (known_specZ) (Nat.le_refl _) (fun _ _ => rfl) Try.call11 (by repeat (first | exact HasIn.nil | refine HasIn.same rfl rfl ?_ | refine HasIn.bro rfl ?_ | refine HasIn.ror rfl ?_ | refine HasIn.cro rfl rfl ?_)) rfl rfl rfl (fun _ => rfl) rfl (by kernel_rfl) fun _ _ => ?_
    repeat (first | refine C.seq ?_ | refine C.region ?_ | refine R.zb ttok ?_ | refine R.zu ttok ?_ | refine R.zc ttok ?_ | refine R.za ttok ?_ | refine R.zx ?_ | refine R.zl ttok ?_ | refine R.zs ttok ?_ | refine R.z ttok ?_ | refine R.zk ?_ | refine R.zn ?_ | refine R.done ?_ | refine X.then ?_ | refine C.block ?_ | refine C.ret ?_ | refine C.skip ?_ | refine C.exit ?_ | refine X.pass_ret ?_ | refine X.pass_exit ?_ | refine X.block_normal ?_ | refine X.block_ret ?_ | refine X.block_exit ?_ | refine C.zt ?_ | refine C.zf ?_ | refine X.zo ?_)
    refine X.finS ttok () [] trivial rfl rfl rfl (by repeat (first | exact HasH.nil | refine HasH.same rfl rfl rfl trivial ?_ | refine HasH.same rfl rfl rfl rfl ?_ | refine HasH.same rfl rfl rfl (fun _ _ => rfl) ?_ | refine HasH.ros rfl rfl ?_)) _ (by first | exact .inl rfl | exact .inr rfl)
  rintro _ hor
  have hi2 : i < 200 := by omega
  refine C.seq ?_
  refine C.block ?_
  refine C.seq ?_
  refine C.region ?_
  repeat (first | refine R.zb ttok ?_ | refine R.zu ttok ?_ | refine R.zc ttok ?_ | refine R.za ttok ?_ | refine R.zx ?_ | refine R.zl ttok ?_ | refine R.zs ttok ?_ | refine R.z ttok ?_ | refine R.zk ?_ | refine R.zn ?_)
  refine R.done ?_
  refine X.then ?_
  refine C.cutG (σ := TwS) 11 (fun t => t.s.ok t.m ∧ t.s.l.length ≤ 201 * (i + 1)) (fun t => [(10, .raw (.bool true)), (0, .sl 0 1 oa sa.length ca), (1, .sl 1 1 ob sb.length cb), (5, .ptr 2 0 0 0), (6, .ptr 3 0 0 0), (7, .ptr 4 0 0 0), (8, .ptr 5 0 0 0), (9, .raw (.int .i64 ((i : Nat) : Int)))]) (fun t => [(0, roZ oa sa), (1, roZ ob sb), (2, tbIZ 10 (t).s.l.length (t).s.c ((VZ (t).s.l).length : Nat) (t).m), (10, tIZ (t).s.l (t).s.c), (3, tbIZ 9 (b).s.l.length (b).s.c ((VZ (b).s.l).length : Nat) (b).m), (9, tIZ (b).s.l (b).s.c), (4, .cells [.raw (t).s.r.s, .raw (.bool (t).m)] rST), (5, .cells [.raw (b).s.r.s, .raw (.bool (b).m)] rST)]) (fun t => FF [roZ oa sa, roZ ob sb] ρ w [] (twF t b)) ?_ ?_
  · repeat (first | refine C.seq ?_ | refine C.region ?_ | refine R.zb ttok ?_ | refine R.zu ttok ?_ | refine R.zc ttok ?_ | refine R.za ttok ?_ | refine R.zx ?_ | refine R.zl ttok ?_ | refine R.zs ttok ?_ | refine R.z ttok ?_ | refine R.zk ?_ | refine R.zn ?_ | refine R.done ?_ | refine X.then ?_ | refine C.block ?_ | refine C.ret ?_ | refine C.skip ?_ | refine C.exit ?_ | refine X.pass_ret ?_ | refine X.pass_exit ?_ | refine X.block_normal ?_ | refine X.block_ret ?_ | refine X.block_exit ?_ | refine C.zt ?_ | refine C.zf ?_ | refine X.zo ?_)
    by_cases hlt : (i : Int) < (sa.length : Nat)
    · rw [decide_eq_true hlt]
      have hlt : i < sa.length := by omega
      repeat (first | refine C.seq ?_ | refine C.region ?_ | refine R.zb ttok ?_ | refine R.zu ttok ?_ | refine R.zc ttok ?_ | refine R.za ttok ?_ | refine R.zx ?_ | refine R.zl ttok ?_ | refine R.zs ttok ?_ | refine R.z ttok ?_ | refine R.zk ?_ | refine R.zn ?_ | refine R.done ?_ | refine X.then ?_ | refine C.block ?_ | refine C.ret ?_ | refine C.skip ?_ | refine C.exit ?_ | refine X.pass_ret ?_ | refine X.pass_exit ?_ | refine X.block_normal ?_ | refine X.block_ret ?_ | refine X.block_exit ?_ | refine C.zt ?_ | refine C.zf ?_ | refine X.zo ?_)
      refine C.draw [[], [], [], [], [2, 3], [2, 3, 4], [0, 1, 2, 3, 4, 5], [0, 1, 2, 3, 4, 5, 6], [0, 1, 2, 3, 4, 5, 6, 7], [0, 1, 2, 3, 4, 5, 6, 7], [0, 1, 2, 3, 4, 5, 6, 7, 8], [0, 1, 2, 3, 4, 5, 6, 7, 8, 9, 10]] [6, 10] (by kernel_rfl) (by kernel_rfl) ?_
      repeat (first | refine C.seq ?_ | refine C.region ?_ | refine R.zb ttok ?_ | refine R.zu ttok ?_ | refine R.zc ttok ?_ | refine R.za ttok ?_ | refine R.zx ?_ | refine R.zl ttok ?_ | refine R.zs ttok ?_ | refine R.z ttok ?_ | refine R.zk ?_ | refine R.zn ?_ | refine R.done ?_ | refine X.then ?_ | refine C.block ?_ | refine C.ret ?_ | refine C.skip ?_ | refine C.exit ?_ | refine X.pass_ret ?_ | refine X.pass_exit ?_ | refine X.block_normal ?_ | refine X.block_ret ?_ | refine X.block_exit ?_ | refine C.zt ?_ | refine C.zf ?_ | refine X.zo ?_)
      refine R.ix1 ttok i rfl rfl rfl rfl rfl rfl rfl hlt (⟨by omega, by omega⟩ : oa ≤ oa + i * 6 ∧ oa + i * 6 < oa + sa.length * 6) rfl ?_
      refine R.ldr1 (v := .agg (stZ (sa.getD i StZ.no))) ttok i rfl rfl rfl rfl rfl rfl rfl rfl (by decide) (by omega) ?_
      refine R.clE [2, 8] (step_spec a.s a.m (sa.getD i StZ.no) hA (by omega)) (zF b.s.l ++ rF b.s.r) (.refl _) (Nat.le_refl _) (fun _ _ => rfl) Try.call32 (by repeat (first | exact HasIn.nil | refine HasIn.same rfl rfl ?_ | refine HasIn.c1 rfl rfl ?_ | refine HasIn.roq rfl rfl ?_ | refine HasIn.other rfl (fun e => by cases e) (fun ρ x w hh => tab_ro hh) ?_ | refine HasIn.other rfl (fun e => by cases e) (fun ρ x w hh => tab_any hh) ?_ | refine HasIn.roAp rfl rfl ?_ | refine HasIn.other rfl (fun e => by cases e) (fun ρ x w hh => cells_any hh) ?_ | refine HasIn.other rfl (fun e => by cases e) (fun ρ x w hh => ro_any hh) ?_)) rfl rfl rfl (fun _ => rfl) rfl (by kernel_rfl) fun t ht => ?_
      refine R.wkD (fun w hf => FF.sub sub1 hf) ?_
      repeat (first | refine C.seq ?_ | refine C.region ?_ | refine R.zb ttok ?_ | refine R.zu ttok ?_ | refine R.zc ttok ?_ | refine R.za ttok ?_ | refine R.zx ?_ | refine R.zl ttok ?_ | refine R.zs ttok ?_ | refine R.z ttok ?_ | refine R.zk ?_ | refine R.zn ?_ | refine R.done ?_ | refine X.then ?_ | refine C.block ?_ | refine C.ret ?_ | refine C.skip ?_ | refine C.exit ?_ | refine X.pass_ret ?_ | refine X.pass_exit ?_ | refine X.block_normal ?_ | refine X.block_ret ?_ | refine X.block_exit ?_ | refine C.zt ?_ | refine C.zf ?_ | refine X.zo ?_)
      exact X.backG [] ⟨t.1, t.2.2⟩ ⟨ht.1, by have := ht.2.1; show t.1.l.length ≤ 201 * (i + 1); omega⟩ (by decide) rfl (by repeat (first | exact HasT.nil | refine HasT.cons rfl rfl rfl ?_)) (by repeat (first | exact HasH.nil | refine HasH.same rfl rfl rfl trivial ?_ | refine HasH.same rfl rfl rfl rfl ?_ | refine HasH.same rfl rfl rfl (fun _ _ => rfl) ?_ | refine HasH.roz rfl rfl ?_)) rfl (fun _ h => h)
    rw [decide_eq_false hlt]
    repeat (first | refine C.seq ?_ | refine C.region ?_ | refine R.zb ttok ?_ | refine R.zu ttok ?_ | refine R.zc ttok ?_ | refine R.za ttok ?_ | refine R.zx ?_ | refine R.zl ttok ?_ | refine R.zs ttok ?_ | refine R.z ttok ?_ | refine R.zk ?_ | refine R.zn ?_ | refine R.done ?_ | refine X.then ?_ | refine C.block ?_ | refine C.ret ?_ | refine C.skip ?_ | refine C.exit ?_ | refine X.pass_ret ?_ | refine X.pass_exit ?_ | refine X.block_normal ?_ | refine X.block_ret ?_ | refine X.block_exit ?_ | refine C.zt ?_ | refine C.zf ?_ | refine X.zo ?_)
    exact X.backG [(10, 8)] a ⟨hA, by omega⟩ (by decide) rfl (by repeat (first | exact HasT.nil | refine HasT.cons rfl rfl rfl ?_)) (by repeat (first | exact HasH.nil | refine HasH.same rfl rfl rfl trivial ?_ | refine HasH.same rfl rfl rfl rfl ?_ | refine HasH.same rfl rfl rfl (fun _ _ => rfl) ?_ | refine HasH.roz rfl rfl ?_)) rfl (fun _ h => h)
  clear hA h1 a
  rintro a ⟨hA, h1⟩
  refine C.seq ?_
  refine C.region ?_
  repeat (first | refine R.zb ttok ?_ | refine R.zu ttok ?_ | refine R.zc ttok ?_ | refine R.za ttok ?_ | refine R.zx ?_ | refine R.zl ttok ?_ | refine R.zs ttok ?_ | refine R.z ttok ?_ | refine R.zk ?_ | refine R.zn ?_)
  refine R.done ?_
  refine X.then ?_
  refine C.cutG (σ := TwS) 12 (fun t => t.s.ok t.m ∧ t.s.l.length ≤ 201 * (i + 1)) (fun t => [(10, .raw (.bool true)), (11, .raw (.bool true)), (0, .sl 0 1 oa sa.length ca), (1, .sl 1 1 ob sb.length cb), (5, .ptr 2 0 0 0), (6, .ptr 3 0 0 0), (7, .ptr 4 0 0 0), (8, .ptr 5 0 0 0), (9, .raw (.int .i64 ((i : Nat) : Int)))]) (fun t => [(0, roZ oa sa), (1, roZ ob sb), (2, tbIZ 10 (a).s.l.length (a).s.c ((VZ (a).s.l).length : Nat) (a).m), (10, tIZ (a).s.l (a).s.c), (3, tbIZ 11 (t).s.l.length (t).s.c ((VZ (t).s.l).length : Nat) (t).m), (11, tIZ (t).s.l (t).s.c), (4, .cells [.raw (a).s.r.s, .raw (.bool (a).m)] rST), (5, .cells [.raw (t).s.r.s, .raw (.bool (t).m)] rST)]) (fun t => FF [roZ oa sa, roZ ob sb] ρ w [] (twF a t)) ?_ ?_
  · repeat (first | refine C.seq ?_ | refine C.region ?_ | refine R.zb ttok ?_ | refine R.zu ttok ?_ | refine R.zc ttok ?_ | refine R.za ttok ?_ | refine R.zx ?_ | refine R.zl ttok ?_ | refine R.zs ttok ?_ | refine R.z ttok ?_ | refine R.zk ?_ | refine R.zn ?_ | refine R.done ?_ | refine X.then ?_ | refine C.block ?_ | refine C.ret ?_ | refine C.skip ?_ | refine C.exit ?_ | refine X.pass_ret ?_ | refine X.pass_exit ?_ | refine X.block_normal ?_ | refine X.block_ret ?_ | refine X.block_exit ?_ | refine C.zt ?_ | refine C.zf ?_ | refine X.zo ?_)
    by_cases hlt : (i : Int) < (sb.length : Nat)
    · rw [decide_eq_true hlt]
      have hlt : i < sb.length := by omega
      repeat (first | refine C.seq ?_ | refine C.region ?_ | refine R.zb ttok ?_ | refine R.zu ttok ?_ | refine R.zc ttok ?_ | refine R.za ttok ?_ | refine R.zx ?_ | refine R.zl ttok ?_ | refine R.zs ttok ?_ | refine R.z ttok ?_ | refine R.zk ?_ | refine R.zn ?_ | refine R.done ?_ | refine X.then ?_ | refine C.block ?_ | refine C.ret ?_ | refine C.skip ?_ | refine C.exit ?_ | refine X.pass_ret ?_ | refine X.pass_exit ?_ | refine X.block_normal ?_ | refine X.block_ret ?_ | refine X.block_exit ?_ | refine C.zt ?_ | refine C.zf ?_ | refine X.zo ?_)
      refine C.draw [[], [], [], [], [2, 3], [2, 3, 4], [0, 1, 2, 3, 4, 5], [0, 1, 2, 3, 4, 5, 6], [0, 1, 2, 3, 4, 5, 6, 7], [0, 1, 2, 3, 4, 5, 6, 7], [0, 1, 2, 3, 4, 5, 6, 7, 8], [0, 1, 2, 3, 4, 5, 6, 7, 8, 9, 10]] [6, 10] (by kernel_rfl) (by kernel_rfl) ?_
      repeat (first | refine C.seq ?_ | refine C.region ?_ | refine R.zb ttok ?_ | refine R.zu ttok ?_ | refine R.zc ttok ?_ | refine R.za ttok ?_ | refine R.zx ?_ | refine R.zl ttok ?_ | refine R.zs ttok ?_ | refine R.z ttok ?_ | refine R.zk ?_ | refine R.zn ?_ | refine R.done ?_ | refine X.then ?_ | refine C.block ?_ | refine C.ret ?_ | refine C.skip ?_ | refine C.exit ?_ | refine X.pass_ret ?_ | refine X.pass_exit ?_ | refine X.block_normal ?_ | refine X.block_ret ?_ | refine X.block_exit ?_ | refine C.zt ?_ | refine C.zf ?_ | refine X.zo ?_)
      refine R.ix1 ttok i rfl rfl rfl rfl rfl rfl rfl hlt (⟨by omega, by omega⟩ : ob ≤ ob + i * 6 ∧ ob + i * 6 < ob + sb.length * 6) rfl ?_
      refine R.ldr1 (v := .agg (stZ (sb.getD i StZ.no))) ttok i rfl rfl rfl rfl rfl rfl rfl rfl (by decide) (by omega) ?_
      refine R.clE [3, 9] (step_spec b.s b.m (sb.getD i StZ.no) hB (by omega)) (zF a.s.l ++ rF a.s.r) (List.perm_append_comm) (Nat.le_refl _) (fun _ _ => rfl) Try.call32 (by repeat (first | exact HasIn.nil | refine HasIn.same rfl rfl ?_ | refine HasIn.c1 rfl rfl ?_ | refine HasIn.roq rfl rfl ?_ | refine HasIn.other rfl (fun e => by cases e) (fun ρ x w hh => tab_ro hh) ?_ | refine HasIn.other rfl (fun e => by cases e) (fun ρ x w hh => tab_any hh) ?_ | refine HasIn.roAp rfl rfl ?_ | refine HasIn.other rfl (fun e => by cases e) (fun ρ x w hh => cells_any hh) ?_ | refine HasIn.other rfl (fun e => by cases e) (fun ρ x w hh => ro_any hh) ?_)) rfl rfl rfl (fun _ => rfl) rfl (by kernel_rfl) fun t ht => ?_
      refine R.wkD (fun w hf => FF.sub sub1 hf) ?_
      repeat (first | refine C.seq ?_ | refine C.region ?_ | refine R.zb ttok ?_ | refine R.zu ttok ?_ | refine R.zc ttok ?_ | refine R.za ttok ?_ | refine R.zx ?_ | refine R.zl ttok ?_ | refine R.zs ttok ?_ | refine R.z ttok ?_ | refine R.zk ?_ | refine R.zn ?_ | refine R.done ?_ | refine X.then ?_ | refine C.block ?_ | refine C.ret ?_ | refine C.skip ?_ | refine C.exit ?_ | refine X.pass_ret ?_ | refine X.pass_exit ?_ | refine X.block_normal ?_ | refine X.block_ret ?_ | refine X.block_exit ?_ | refine C.zt ?_ | refine C.zf ?_ | refine X.zo ?_)
      refine X.fperm List.perm_append_comm ?_
      exact X.backG [] ⟨t.1, t.2.2⟩ ⟨ht.1, by have := ht.2.1; show t.1.l.length ≤ 201 * (i + 1); omega⟩ (by decide) rfl (by repeat (first | exact HasT.nil | refine HasT.cons rfl rfl rfl ?_)) (by repeat (first | exact HasH.nil | refine HasH.same rfl rfl rfl trivial ?_ | refine HasH.same rfl rfl rfl rfl ?_ | refine HasH.same rfl rfl rfl (fun _ _ => rfl) ?_ | refine HasH.roz rfl rfl ?_)) rfl (fun _ h => h)
    rw [decide_eq_false hlt]
    repeat (first | refine C.seq ?_ | refine C.region ?_ | refine R.zb ttok ?_ | refine R.zu ttok ?_ | refine R.zc ttok ?_ | refine R.za ttok ?_ | refine R.zx ?_ | refine R.zl ttok ?_ | refine R.zs ttok ?_ | refine R.z ttok ?_ | refine R.zk ?_ | refine R.zn ?_ | refine R.done ?_ | refine X.then ?_ | refine C.block ?_ | refine C.ret ?_ | refine C.skip ?_ | refine C.exit ?_ | refine X.pass_ret ?_ | refine X.pass_exit ?_ | refine X.block_normal ?_ | refine X.block_ret ?_ | refine X.block_exit ?_ | refine C.zt ?_ | refine C.zf ?_ | refine X.zo ?_)
    exact X.backG [(11, 9)] b ⟨hB, by omega⟩ (by decide) rfl (by repeat (first | exact HasT.nil | refine HasT.cons rfl rfl rfl ?_)) (by repeat (first | exact HasH.nil | refine HasH.same rfl rfl rfl trivial ?_ | refine HasH.same rfl rfl rfl rfl ?_ | refine HasH.same rfl rfl rfl (fun _ _ => rfl) ?_ | refine HasH.roz rfl rfl ?_)) rfl (fun _ h => h)
  clear hB h2 b
  rintro b ⟨hB, h2⟩
  repeat (first | refine C.seq ?_ | refine C.region ?_ | refine R.zb ttok ?_ | refine R.zu ttok ?_ | refine R.zc ttok ?_ | refine R.za ttok ?_ | refine R.zx ?_ | refine R.zl ttok ?_ | refine R.zs ttok ?_ | refine R.z ttok ?_ | refine R.zk ?_ | refine R.zn ?_ | refine R.done ?_ | refine X.then ?_ | refine C.block ?_ | refine C.ret ?_ | refine C.skip ?_ | refine C.exit ?_ | refine X.pass_ret ?_ | refine X.pass_exit ?_ | refine X.block_normal ?_ | refine X.block_ret ?_ | refine X.block_exit ?_ | refine C.zt ?_ | refine C.zf ?_ | refine X.zo ?_)
  exact X.backG [(8, 10), (9, 11)] (i + 1, a, b) ⟨hi2, hA, hB, h1, h2⟩ (by dsimp only; omega) rfl (by repeat (first | exact HasT.nil | refine HasT.cons rfl rfl rfl ?_)) (by repeat (first | exact HasH.nil | refine HasH.same rfl rfl rfl trivial ?_ | refine HasH.same rfl rfl rfl rfl ?_ | refine HasH.same rfl rfl rfl (fun _ _ => rfl) ?_ | refine HasH.roz rfl rfl ?_)) rfl (fun _ h => h)
end
end Go.Proofs.Yteabncomclgncaa
