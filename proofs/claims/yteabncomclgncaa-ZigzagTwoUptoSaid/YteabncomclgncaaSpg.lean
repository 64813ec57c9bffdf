/- Texts of the claim, merged: only what the theorem needs. -/
import Derived.Test.YteabncomclgncaaSpf
namespace Go.Proofs.Yteabncomclgncaa
set_option linter.unusedVariables false
set_option linter.unusedSimpArgs false
open Go.RowKit
set_option maxRecDepth 100000
set_option maxHeartbeats 8000000
/-- a Range under way -/
structure TS where
  ps : PS
  G : Fam
  j : Nat
  la : Option ByteArray
structure TS.ok (s : TS) (mk : Bool) (l0 : ZL) (m : Nat) : Prop where
  pok : s.ps.ok mk
  len : s.ps.l.length ≤ l0.length + s.j
  num : s.j ≤ m
  cov : Cov (zF l0) (zF s.ps.l ++ s.G)
  cells : ∀ p ∈ s.G, p.ob.isCells = true
abbrev tsF (s : TS) : Fam := psF (s.ps, s.G)
theorem TS.ok.fcells {s : TS} {mk : Bool} {l0 : ZL} {m : Nat} (h : s.ok mk l0 m) : ∀ p ∈ tsF s, p.ob.isCells = true := fun p hp => by
  rcases List.mem_append.1 hp with hp | hp
  · exact zF_cells p hp
  · rcases List.mem_append.1 hp with hp | hp
    · exact rF_cells h.pok.rok p hp
    · exact h.cells p hp
/-- how a Range ended -/
structure RS where
  ps : PS
  G : Fam
  at_ : ByteArray
  is_ : Bool
  ov : Bool
structure RS.ok (s : RS) (mk : Bool) (l0 : ZL) (to : ByteArray) : Prop where
  pok : s.ps.ok mk
  len : s.ps.l.length ≤ l0.length + 201
  cov : Cov (zF l0) (zF s.ps.l ++ s.G)
  cells : ∀ p ∈ s.G, p.ob.isCells = true
  fin : s.ov = true ∨ s.is_ = false ∨ past to s.at_ = true
/-- the document's list at the end -/
abbrev resP (x : StZ) (mk : Bool) (fr : ByteArray) (l : ZL) (r : PL) : PL := goP x mk 202 0 r (nxK l (plc l fr))
abbrev TI1 (x : StZ) (mk : Bool) (fr : ByteArray) (l : ZL) (r : PL) (s : TS) : Prop := s.ok mk l 200 ∧ goP x mk (202 - s.j) s.j s.ps.r.l (nxK s.ps.l (posO s.ps.l fr s.la)) = resP x mk fr l r
abbrev TI2 (x : StZ) (mk : Bool) (fr : ByteArray) (l : ZL) (r : PL) (s : TS) : Prop := s.ok mk l 201 ∧ s.ps.r.l = resP x mk fr l r
theorem perm_in {a b : Fact} {Z R G X : Fam} : (a :: b :: ((Z ++ (R ++ G)) ++ X)).Perm ((Z ++ R) ++ (a :: b :: (G ++ X))) := by
  have e : (Z ++ (R ++ G)) ++ X = (Z ++ R) ++ (G ++ X) := by simp [List.append_assoc]
  rw [e]
  exact List.perm_append_comm_assoc [a, b] (Z ++ R) (G ++ X)
theorem perm_out {a b : Fact} {Z R G1 G X : Fam} : ((Z ++ (R ++ G1)) ++ (a :: b :: (G ++ X))).Perm (a :: b :: ((Z ++ (R ++ (G1 ++ G))) ++ X)) := by
  have e : (Z ++ (R ++ (G1 ++ G))) ++ X = (Z ++ (R ++ G1)) ++ (G ++ X) := by simp [List.append_assoc]
  rw [e]
  exact (List.perm_append_comm_assoc [a, b] (Z ++ (R ++ G1)) (G ++ X)).symm
theorem cov_more {l0 l l1 : ZL} {G G1 : Fam} (h : Cov (zF l0) (zF l ++ G)) (h1 : Cov (zF l) (zF l1 ++ G1)) : Cov (zF l0) (zF l1 ++ (G1 ++ G)) := fun p hp hr => by
  obtain ⟨q, hq, e⟩ := h p hp hr
  rcases List.mem_append.1 hq with hq | hq
  · have hq2 : q.rw = true := by
      obtain ⟨z, hz, rfl⟩ := List.mem_map.1 hq
      rfl
    obtain ⟨u, hu, e2⟩ := h1 q hq hq2
    refine ⟨u, ?_, e2.trans e⟩
    rcases List.mem_append.1 hu with hu | hu
    · exact List.mem_append_left _ hu
    · exact List.mem_append_right _ (List.mem_append_left _ hu)
  · exact ⟨q, List.mem_append_right _ (List.mem_append_right _ hq), e⟩
theorem mu_step {j a b c : Nat} (hj : j + 1 ≤ 200) (h1 : a ≤ 600000) : (202 - (j + 1)) * 1000002 + (a - b) < (202 - j) * 1000002 + c := by
  have e : 202 - j = (202 - (j + 1)) + 1 := by omega
  rw [e, Nat.add_mul]
  omega
theorem facI {lb D : Nat} {Y XF : Fam} (hY : ∀ y ∈ Y, y.ob.isCells = true) (hX : ∀ p ∈ XF, p.rw = false ∧ p.b ≠ lb) : ∀ y ∈ dFact D :: (Y ++ XF), FactC lb y := fun y hy => by
  rcases List.mem_cons.1 hy with rfl | hy
  · exact .inr (.inl rfl)
  · rcases List.mem_append.1 hy with hy | hy
    · exact .inl (hY y hy)
    · exact .inr (.inr (hX y hy).2)
theorem nxF1 {h0 : List AO} {ρ0 : Env} {w0 w' : World} {fs0 Y XF : Fam} {D : Nat} (hf : FF h0 ρ0 w0 fs0 (dFact D :: (Y ++ XF)) w') : FF h0 ρ0 w0 fs0 (dFact D :: Y) w' :=
  hf.less (fun y hy => by
    rcases List.mem_cons.1 hy with rfl | hy
    · exact List.mem_cons_self
    · exact List.mem_cons_of_mem _ (List.mem_append_left _ hy)) (hf.ap.sublist ((List.sublist_append_left _ _).cons_cons _))
theorem nxF2 {lb D : Nat} {Y : Fam} (hY : ∀ y ∈ Y, y.ob.isCells = true) : ∀ y ∈ dFact D :: Y, FactC lb y := fun y hy => by
  rcases List.mem_cons.1 hy with rfl | hy
  · exact .inr (.inl rfl)
  · exact .inl (hY y hy)
theorem rgTn_spec (l : ZL) (c : Nat) (rr : Rf) (mk : Bool) (x : StZ) (fr : ByteArray) (hs : PS.ok ⟨l, c, rr⟩ mk) (hl : l.length ≤ 500000) :
    SpecF Try.prog 48 [.fn tnF [.ptr 5 0 0 0, .ptr 6 0 0 0, .ptr 7 0 0 0, .ptr 8 0 0 0, .ptr 9 0 0 0, .ptr 10 0 0 0, .ptr 11 0 0 0, .ptr 12 0 0 0], .ptr 2 0 0 0, .ptr 3 0 0 0, .ptr 4 0 0 0]
    [tbIZ 1 l.length c ((VZ l).length : Nat) mk, tIZ l c, one0 (.ptr 0 0 0 0), one0 (.raw (.string fr)), one0 (.raw (.string x.to)), .cells [.raw rr.s, .raw (.bool mk)] rST, .cells [.raw (.string (nxK l (plc l fr)).1)] strT, .cells [.raw (.bool true)] bT, .cells [.raw (.bool false)] bT, .cells [.raw (.bool (nxK l (plc l fr)).2)] bT, .ro 0 0 1 (fun _ => stZ x), .cells [.raw (.int .i64 ((0 : Nat) : Int))] intT, one0 (.ptr 0 0 0 0)] 14 (zF l ++ rF rr)
    (σ := RS) (fun t => t.ok mk l x.to ∧ t.ps.r.l = resP x mk fr l rr.l) (fun _ => .tup []) (fun t => [(0, tbIZ 13 t.ps.l.length t.ps.c ((VZ t.ps.l).length : Nat) mk), (13, tIZ t.ps.l t.ps.c), (5, .cells [.raw t.ps.r.s, .raw (.bool mk)] rST), (6, .cells [.raw (.string t.at_)] strT), (7, .cells [.raw (.bool true)] bT), (8, .cells [.raw (.bool t.ov)] bT), (9, .cells [.raw (.bool t.is_)] bT)]) (fun t => psF (t.ps, t.G)) := by
  refine SpecF.ofM Try.func48 rfl Try.ntmps48 rfl (bdl_cons rfl (bdl_cons (fun _ _ => rfl) (bdl_cons (roA_bd rfl) (bdl_cons (roA_bd rfl) (bdl_cons (roA_bd rfl) (bdl_cons rfl (bdl_cons rfl (bdl_cons rfl (bdl_cons rfl (bdl_cons rfl (bdl_cons (roA_bd rfl) (bdl_cons rfl (bdl_cons (roA_bd rfl) (bdl_nil _)))))))))))))) fun ρ w => ?_
  repeat (first | refine C.seq ?_ | refine C.region ?_ | refine R.zb ttok ?_ | refine R.zu ttok ?_ | refine R.zc ttok ?_ | refine R.za ttok ?_ | refine R.zx ?_ | refine R.zl ttok ?_ | refine R.zs ttok ?_ | refine R.z ttok ?_ | refine R.zk ?_ | refine R.zn ?_ | refine R.done ?_ | refine X.then ?_ | refine C.block ?_ | refine C.ret ?_ | refine C.skip ?_ | refine C.exit ?_ | refine X.pass_ret ?_ | refine X.pass_exit ?_ | refine X.block_normal ?_ | refine X.block_ret ?_ | refine X.block_exit ?_ | refine C.zt ?_ | refine C.zf ?_ | refine X.zo ?_)
  refine R.ldo (v := .ptr 0 0 0 0) ttok rfl rfl rfl rfl rfl (by kernel_rfl) Nat.one_pos ?_
  repeat (first | refine C.seq ?_ | refine C.region ?_ | refine R.zb ttok ?_ | refine R.zu ttok ?_ | refine R.zc ttok ?_ | refine R.za ttok ?_ | refine R.zx ?_ | refine R.zl ttok ?_ | refine R.zs ttok ?_ | refine R.z ttok ?_ | refine R.zk ?_ | refine R.zn ?_ | refine R.done ?_ | refine X.then ?_ | refine C.block ?_ | refine C.ret ?_ | refine C.skip ?_ | refine C.exit ?_ | refine X.pass_ret ?_ | refine X.pass_exit ?_ | refine X.block_normal ?_ | refine X.block_ret ?_ | refine X.block_exit ?_ | refine C.zt ?_ | refine C.zf ?_ | refine X.zo ?_)
  refine C.draw [[], [0], [0, 1], [], [], [0, 1, 2, 3, 4]] [5] (by kernel_rfl) (by kernel_rfl) ?_
  refine R.ldo (v := .ptr 0 0 0 0) ttok rfl rfl rfl rfl rfl (by kernel_rfl) Nat.one_pos ?_
  repeat (first | refine C.seq ?_ | refine C.region ?_ | refine R.zb ttok ?_ | refine R.zu ttok ?_ | refine R.zc ttok ?_ | refine R.za ttok ?_ | refine R.zx ?_ | refine R.zl ttok ?_ | refine R.zs ttok ?_ | refine R.z ttok ?_ | refine R.zk ?_ | refine R.zn ?_ | refine R.done ?_ | refine X.then ?_ | refine C.block ?_ | refine C.ret ?_ | refine C.skip ?_ | refine C.exit ?_ | refine X.pass_ret ?_ | refine X.pass_exit ?_ | refine X.block_normal ?_ | refine X.block_ret ?_ | refine X.block_exit ?_ | refine C.zt ?_ | refine C.zf ?_ | refine X.zo ?_)
  refine R.ldo (v := .raw (.string fr)) ttok rfl rfl rfl rfl rfl (by kernel_rfl) Nat.one_pos ?_
  repeat (first | refine C.seq ?_ | refine C.region ?_ | refine R.zb ttok ?_ | refine R.zu ttok ?_ | refine R.zc ttok ?_ | refine R.za ttok ?_ | refine R.zx ?_ | refine R.zl ttok ?_ | refine R.zs ttok ?_ | refine R.z ttok ?_ | refine R.zk ?_ | refine R.zn ?_ | refine R.done ?_ | refine X.then ?_ | refine C.block ?_ | refine C.ret ?_ | refine C.skip ?_ | refine C.exit ?_ | refine X.pass_ret ?_ | refine X.pass_exit ?_ | refine X.block_normal ?_ | refine X.block_ret ?_ | refine X.block_exit ?_ | refine C.zt ?_ | refine C.zf ?_ | refine X.zo ?_)
  refine R.ldo (v := .raw (.string x.to)) ttok rfl rfl rfl rfl rfl (by kernel_rfl) Nat.one_pos ?_
  refine R.cl [0] (rangeT_specZ fr x.to) Try.call49 (by repeat (first | exact HasIn.nil | refine HasIn.same rfl rfl ?_ | refine HasIn.c1 rfl rfl ?_ | refine HasIn.roq rfl rfl ?_ | refine HasIn.other rfl (fun e => by cases e) (fun ρ x w hh => tab_ro hh) ?_ | refine HasIn.other rfl (fun e => by cases e) (fun ρ x w hh => tab_any hh) ?_ | refine HasIn.roAp rfl rfl ?_ | refine HasIn.other rfl (fun e => by cases e) (fun ρ x w hh => cells_any hh) ?_ | refine HasIn.other rfl (fun e => by cases e) (fun ρ x w hh => ro_any hh) ?_)) rfl rfl rfl (fun _ => rfl) rfl (by kernel_rfl) fun _ _ => ?_
  repeat (first | refine C.seq ?_ | refine C.region ?_ | refine R.zb ttok ?_ | refine R.zu ttok ?_ | refine R.zc ttok ?_ | refine R.za ttok ?_ | refine R.zx ?_ | refine R.zl ttok ?_ | refine R.zs ttok ?_ | refine R.z ttok ?_ | refine R.zk ?_ | refine R.zn ?_ | refine R.done ?_ | refine X.then ?_ | refine C.block ?_ | refine C.ret ?_ | refine C.skip ?_ | refine C.exit ?_ | refine X.pass_ret ?_ | refine X.pass_exit ?_ | refine X.block_normal ?_ | refine X.block_ret ?_ | refine X.block_exit ?_ | refine C.zt ?_ | refine C.zf ?_ | refine X.zo ?_)
  refine C.less [(17, 1)] 18 [(0, .fn tnF [.ptr 5 0 0 0, .ptr 6 0 0 0, .ptr 7 0 0 0, .ptr 8 0 0 0, .ptr 9 0 0 0, .ptr 10 0 0 0, .ptr 11 0 0 0, .ptr 12 0 0 0]), (1, .ptr 2 0 0 0), (4, .ptr 13 0 0 0), (16, .fn rgZ [.ptr 14 0 0 0, .ptr 15 0 0 0, .ptr 16 0 0 0])] [(0, tbIZ 17 ((⟨l, c, rr⟩ : PS)).l.length ((⟨l, c, rr⟩ : PS)).c ((VZ ((⟨l, c, rr⟩ : PS)).l).length : Nat) mk), (17, tIZ ((⟨l, c, rr⟩ : PS)).l ((⟨l, c, rr⟩ : PS)).c), (2, one0 (.ptr 0 0 0 0)), (3, one0 (.raw (.string fr))), (4, one0 (.raw (.string x.to))), (5, .cells [.raw ((⟨l, c, rr⟩ : PS)).r.s, .raw (.bool mk)] rST), (6, .cells [.raw (.string (nxK l (plc l fr)).1)] strT), (7, .cells [.raw (.bool true)] bT), (8, .cells [.raw (.bool false)] bT), (9, .cells [.raw (.bool (nxK l (plc l fr)).2)] bT), (10, .ro 0 0 1 (fun _ => stZ x)), (11, .cells [.raw (.int .i64 ((0 : Nat) : Int))] intT), (12, one0 (.ptr 0 0 0 0)), (13, .cells [.fn tnF [.ptr 5 0 0 0, .ptr 6 0 0 0, .ptr 7 0 0 0, .ptr 8 0 0 0, .ptr 9 0 0 0, .ptr 10 0 0 0, .ptr 11 0 0 0, .ptr 12 0 0 0]] 52), (14, .cells [.ptr 0 0 0 0] 133), (15, .cells [.raw (.string fr)] strT), (16, .cells [.raw (.string x.to)] strT)] _ rfl (by repeat (first | exact HasT.nil | refine HasT.cons rfl rfl rfl ?_)) (by repeat (first | exact HasH.nil | refine HasH.same rfl rfl rfl trivial ?_ | refine HasH.same rfl rfl rfl rfl ?_ | refine HasH.same rfl rfl rfl (fun _ _ => rfl) ?_)) rfl (fun _ h => h) ?_
  refine C.wk (F2 := FF _ ρ w (zF l ++ rF rr) (tsF (⟨⟨l, c, rr⟩, [], 0, none⟩ : TS))) (fun w' hf => by
    show FF _ _ _ _ (zF l ++ (rF rr ++ [])) w'
    rw [List.append_nil]
    exact hf) ?_
  refine C.range (σ := TS) (α := ByteArray × Nat) (H := fun s => [(0, tbIZ 17 (s.ps).l.length (s.ps).c ((VZ (s.ps).l).length : Nat) mk), (17, tIZ (s.ps).l (s.ps).c), (2, one0 (.ptr 0 0 0 0)), (3, one0 (.raw (.string fr))), (4, one0 (.raw (.string x.to))), (5, .cells [.raw (s.ps).r.s, .raw (.bool mk)] rST), (6, .cells [.raw (.string (nxK s.ps.l (posO s.ps.l fr s.la)).1)] strT), (7, .cells [.raw (.bool true)] bT), (8, .cells [.raw (.bool false)] bT), (9, .cells [.raw (.bool (nxK s.ps.l (posO s.ps.l fr s.la)).2)] bT), (10, .ro 0 0 1 (fun _ => stZ x)), (11, .cells [.raw (.int .i64 ((s.j : Nat) : Int))] intT), (12, one0 (.ptr 0 0 0 0)), (13, .cells [.fn tnF [.ptr 5 0 0 0, .ptr 6 0 0 0, .ptr 7 0 0 0, .ptr 8 0 0 0, .ptr 9 0 0 0, .ptr 10 0 0 0, .ptr 11 0 0 0, .ptr 12 0 0 0]] 52), (14, .cells [.ptr 0 0 0 0] 133), (15, .cells [.raw (.string fr)] strT), (16, .cells [.raw (.string x.to)] strT)]) (HX := fun s => [(0, tbIZ 17 (s.ps).l.length (s.ps).c ((VZ (s.ps).l).length : Nat) mk), (17, tIZ (s.ps).l (s.ps).c), (2, one0 (.ptr 0 0 0 0)), (3, one0 (.raw (.string fr))), (4, one0 (.raw (.string x.to))), (5, .cells [.raw (s.ps).r.s, .raw (.bool mk)] rST), (6, .cells [.raw (.string (nxK s.ps.l (posO s.ps.l fr s.la)).1)] strT), (7, .cells [.raw (.bool true)] bT), (8, .cells [.raw (.bool true)] bT), (9, .cells [.raw (.bool (nxK s.ps.l (posO s.ps.l fr s.la)).2)] bT), (10, .ro 0 0 1 (fun _ => stZ x)), (11, .cells [.raw (.int .i64 ((s.j : Nat) : Int))] intT), (12, one0 (.ptr 0 0 0 0)), (13, .cells [.fn tnF [.ptr 5 0 0 0, .ptr 6 0 0 0, .ptr 7 0 0 0, .ptr 8 0 0 0, .ptr 9 0 0 0, .ptr 10 0 0 0, .ptr 11 0 0 0, .ptr 12 0 0 0]] 52), (14, .cells [.ptr 0 0 0 0] 133), (15, .cells [.raw (.string fr)] strT), (16, .cells [.raw (.string x.to)] strT)]) (fsI := tsF) (fsX := tsF) (u := fun x => .string x.1) (v := fun x => .pointer (some ⟨x.2, 0, none⟩)) 17 18 (⟨⟨l, c, rr⟩, [], 0, none⟩ : TS) (TI1 x mk fr l rr.l) (TI2 x mk fr l rr.l) _ _ _ _ _
    rfl Try.call78 ⟨⟨hs, Nat.le_refl _, Nat.zero_le _, by rw [List.append_nil]; exact Cov.refl _, fun p hp => by cases hp⟩, rfl⟩ ?hi0 rfl (fun s h => h.1.fcells) (fun s h => h.1.fcells) ?hsee (fun ρ1 _ => rng1_itc (fun s : TS => s.ps.l) (fun s => s.la) (fun s => (202 - s.j) * 1000002 + (s.ps.l.length - posO s.ps.l fr s.la)) ((ρ1 14).getD 0) ((ρ1 15).getD 0) ((ρ1 16).getD 0) ((ρ1 0).getD 0) fr x.to) ?hround ?hdone ?hstop
  case hi0 => rfl
  case hsee =>
    intro ρ1 ρ s W fs he ⟨hI, _⟩ _ gg
    have h1 := rsee_of gg (l := s.ps.l) (lt := 14) (lf := 15) (lo := 16) (ls := 0) (ll := 17) (fr := fr) (to := x.to) hI.pok.asc (by have := hI.len; have := hI.num; omega) rfl rfl rfl rfl rfl
    rw [he 14 (by decide), he 15 (by decide), he 16 (by decide), he 0 (by decide)] at h1
    exact h1
  case hround =>
    rintro ρ1 lb D r XF ⟨ps, G, j, la⟩ y hpin hr hpe hlb hX ⟨hI, hR⟩ ⟨i, hi', hlt, rfl, hpast⟩
    dsimp only at hi' hlt hpast hR ⊢
    have hln : ps.l.length ≤ l.length + j := hI.len
    have hnm : j ≤ 200 := hI.num
    have hlt : i < ps.l.length := hlt
    have hmem := zF_mem hlt
    have habove := above_at hI.pok.asc hlt
    have hfac : ∀ y ∈ dFact D :: (tsF ⟨ps, G, j, la⟩ ++ XF), FactC lb y := facI hI.fcells hX
    rw [hi'] at hR ⊢
    obtain ⟨⟨pk, pb, c0, c1, h0, h1, rd, wr⟩, hpp⟩ : ∃ p, ps.l.getD i zG = p := ⟨_, rfl⟩
    rw [hpp] at hmem habove hpast ⊢
    have habove : aboveN ps.l pk = i + 1 := habove
    have hmu0 : (202 - j) * 1000002 + (ps.l.length - aboveN ps.l pk) < (202 - j) * 1000002 + (ps.l.length - posO ps.l fr la) := by rw [habove, hi']; have : i < ps.l.length := hlt; omega
    refine CR.seq ?_
    refine CR.region ?_
    repeat (first | refine R.zb ttok ?_ | refine R.zu ttok ?_ | refine R.zc ttok ?_ | refine R.za ttok ?_ | refine R.zx ?_ | refine R.zl ttok ?_ | refine R.zs ttok ?_ | refine R.z ttok ?_ | refine R.zk ?_ | refine R.zn ?_)
    refine R.done ?_
    refine X.thenR ?_
    refine CR.region ?_
    repeat (first | refine R.zb ttok ?_ | refine R.zu ttok ?_ | refine R.zc ttok ?_ | refine R.za ttok ?_ | refine R.zx ?_ | refine R.zl ttok ?_ | refine R.zs ttok ?_ | refine R.z ttok ?_ | refine R.zk ?_ | refine R.zn ?_)
    refine R.done ?_
    refine X.begin_ hfac hlb hr ?_
    refine CR.block ?_
    refine CR.labZ 6 (pk, pb, ⟨c0, c1, h0, h1, rd, wr⟩) (List.mem_cons_of_mem _ (List.mem_cons_of_mem _ (List.mem_append_left _ (List.mem_append_left _ hmem)))) rfl ?_
    cases rd with
    | false =>
      repeat (first | refine CR.seq ?_ | refine CR.region ?_ | refine R.zb ttok ?_ | refine R.zu ttok ?_ | refine R.zc ttok ?_ | refine R.za ttok ?_ | refine R.zx ?_ | refine R.zl ttok ?_ | refine R.zs ttok ?_ | refine R.z ttok ?_ | refine R.zk ?_ | refine R.zn ?_ | refine R.done ?_ | refine X.thenR ?_ | refine CR.block ?_ | refine CR.skip ?_ | refine CR.ret ?_ | refine CR.tru (by exact rfl) ?_ | refine CR.fls (by exact rfl) ?_ | refine X.pass_ret ?_ | refine X.pass_exit ?_ | refine X.block_normal ?_ | refine X.block_ret ?_ | refine X.block_exit ?_)
      refine R.ldo (v := .raw (.int .i64 (b01 false))) ttok rfl rfl rfl rfl rfl (by kernel_rfl) Nat.one_pos ?_
      repeat (first | refine CR.seq ?_ | refine CR.region ?_ | refine R.zb ttok ?_ | refine R.zu ttok ?_ | refine R.zc ttok ?_ | refine R.za ttok ?_ | refine R.zx ?_ | refine R.zl ttok ?_ | refine R.zs ttok ?_ | refine R.z ttok ?_ | refine R.zk ?_ | refine R.zn ?_ | refine R.done ?_ | refine X.thenR ?_ | refine CR.block ?_ | refine CR.skip ?_ | refine CR.ret ?_ | refine CR.tru (by exact rfl) ?_ | refine CR.fls (by exact rfl) ?_ | refine X.pass_ret ?_ | refine X.pass_exit ?_ | refine X.block_normal ?_ | refine X.block_ret ?_ | refine X.block_exit ?_)
      refine R.cl [18] (read_specZ ⟨c0, c1, h0, h1, false, wr⟩ false) Try.call50 (by repeat (first | exact HasIn.nil | refine HasIn.same rfl rfl ?_ | refine HasIn.bro rfl ?_ | refine HasIn.ror rfl ?_ | refine HasIn.cro rfl rfl ?_)) rfl rfl rfl (fun _ => rfl) rfl (by kernel_rfl) fun _ _ => ?_
      cases h0 with
      | false =>
        have hst : nxK ps.l i = nxK ps.l (i + 1) := nxK_dead hlt (by rw [hpp]; rfl)
        rw [hst]
        repeat (first | refine CR.seq ?_ | refine CR.region ?_ | refine R.zb ttok ?_ | refine R.zu ttok ?_ | refine R.zc ttok ?_ | refine R.za ttok ?_ | refine R.zx ?_ | refine R.zl ttok ?_ | refine R.zs ttok ?_ | refine R.z ttok ?_ | refine R.zk ?_ | refine R.zn ?_ | refine R.done ?_ | refine X.thenR ?_ | refine CR.block ?_ | refine CR.skip ?_ | refine CR.ret ?_ | refine CR.tru (by exact rfl) ?_ | refine CR.fls (by exact rfl) ?_ | refine X.pass_ret ?_ | refine X.pass_exit ?_ | refine X.block_normal ?_ | refine X.block_ret ?_ | refine X.block_exit ?_)
        refine X.next [] (⟨ps, G, j, some pk⟩ : TS) ⟨⟨hI.pok, hI.len, hI.num, hI.cov, hI.cells⟩, by show goP x mk (202 - j) j ps.r.l (nxK ps.l (aboveN ps.l pk)) = _; rw [habove, ← hst]; exact hR⟩ ⟨rfl, hmu0⟩ hr hpe rfl rfl (by
          show HasH _ _ _ [(0, tbIZ 17 (ps).l.length (ps).c ((VZ (ps).l).length : Nat) mk), (17, tIZ (ps).l (ps).c), (2, one0 (.ptr 0 0 0 0)), (3, one0 (.raw (.string fr))), (4, one0 (.raw (.string x.to))), (5, .cells [.raw (ps).r.s, .raw (.bool mk)] rST), (6, .cells [.raw (.string (nxK ps.l (aboveN ps.l pk)).1)] strT), (7, .cells [.raw (.bool true)] bT), (8, .cells [.raw (.bool false)] bT), (9, .cells [.raw (.bool (nxK ps.l (aboveN ps.l pk)).2)] bT), (10, .ro 0 0 1 (fun _ => stZ x)), (11, .cells [.raw (.int .i64 ((j : Nat) : Int))] intT), (12, one0 (.ptr 0 0 0 0)), (13, .cells [.fn tnF [.ptr 5 0 0 0, .ptr 6 0 0 0, .ptr 7 0 0 0, .ptr 8 0 0 0, .ptr 9 0 0 0, .ptr 10 0 0 0, .ptr 11 0 0 0, .ptr 12 0 0 0]] 52), (14, .cells [.ptr 0 0 0 0] 133), (15, .cells [.raw (.string fr)] strT), (16, .cells [.raw (.string x.to)] strT)]
          rw [habove]
          exact (by repeat (first | exact HasH.nil | refine HasH.same rfl rfl rfl trivial ?_ | refine HasH.same rfl rfl rfl rfl ?_ | refine HasH.same rfl rfl rfl (fun _ _ => rfl) ?_))) rfl hlb hfac (fun w' hf => nxF1 hf) (nxF2 hI.fcells) (fun y hy => List.mem_cons_of_mem _ (List.mem_append_right _ hy))
      | true =>
        have hlive : (ps.l.getD i zG).2.2.live = true := by rw [hpp]; rfl
        have hst : nxK ps.l i = (pk, true) := by rw [nxK_live hlt hlive, hpp]
        have hiv : isV ps.l pk = true := by have := isV_at hI.pok.asc hlt; rw [hpp] at this; exact this
        have hgv : getV ps.l pk = c0 := by have := getV_at hI.pok.asc hlt; rw [hpp] at this; exact this
        rw [hst] at hR ⊢
        rw [goP_step hnm hpast] at hR
        repeat (first | refine R.zb ttok ?_ | refine R.zu ttok ?_ | refine R.zc ttok ?_ | refine R.za ttok ?_ | refine R.zx ?_ | refine R.zl ttok ?_ | refine R.zs ttok ?_ | refine R.z ttok ?_ | refine R.zk ?_ | refine R.zn ?_)
        refine R.done ?_
        refine X.thenR ?_
        refine CR.seq ?_
        refine CR.region ?_
        refine R.drop 18 ?_
        repeat (first | refine R.zb ttok ?_ | refine R.zu ttok ?_ | refine R.zc ttok ?_ | refine R.za ttok ?_ | refine R.zx ?_ | refine R.zl ttok ?_ | refine R.zs ttok ?_ | refine R.z ttok ?_ | refine R.zk ?_ | refine R.zn ?_)
        refine R.clE [0, 17, 5, 6, 7, 8, 9, 10, 11, 12] (tn1_spec ps mk x pk c0 j hI.pok (by omega) hiv hgv hpast (by omega)) (rFact lb { r with state := .busy } :: dFact D :: (G ++ XF)) perm_in (by show 13 ≤ 17; omega) (fun k hk => hpin k hk) tn_call (by repeat (first | exact HasIn.nil | refine HasIn.same rfl rfl ?_ | refine HasIn.c1 rfl rfl ?_ | refine HasIn.roq rfl rfl ?_ | refine HasIn.other rfl (fun e => by cases e) (fun ρ x w hh => tab_ro hh) ?_ | refine HasIn.other rfl (fun e => by cases e) (fun ρ x w hh => tab_any hh) ?_ | refine HasIn.roAp rfl rfl ?_ | refine HasIn.other rfl (fun e => by cases e) (fun ρ x w hh => cells_any hh) ?_ | refine HasIn.other rfl (fun e => by cases e) (fun ρ x w hh => ro_any hh) ?_)) rfl rfl rfl (fun _ => rfl) rfl (by kernel_rfl) fun t ht => ?_
        refine R.fperm perm_out ?_
        rw [← ht.2.2.2.2, ht.1.next] at hR
        have hT : ∀ m, j + 1 ≤ m → (⟨t.1, t.2 ++ G, j + 1, some pk⟩ : TS).ok mk l m := fun m hm => ⟨ht.1, by have h1 := ht.2.1; show t.1.l.length ≤ l.length + (j + 1); omega, hm, cov_more hI.cov ht.2.2.1, fun p hp => by
          rcases List.mem_append.1 hp with hp | hp
          · exact ht.2.2.2.1 p hp
          · exact hI.cells p hp⟩
        have hfac2 : ∀ y ∈ dFact D :: (tsF ⟨t.1, t.2 ++ G, j + 1, some pk⟩ ++ XF), FactC lb y := facI (hT (j + 1) (Nat.le_refl _)).fcells hX
        have hfac := hfac2
        cases hov : overB x (j + 1) with
        | false =>
          have hj := overB_no hov
          repeat (first | refine CR.seq ?_ | refine CR.region ?_ | refine R.zb ttok ?_ | refine R.zu ttok ?_ | refine R.zc ttok ?_ | refine R.za ttok ?_ | refine R.zx ?_ | refine R.zl ttok ?_ | refine R.zs ttok ?_ | refine R.z ttok ?_ | refine R.zk ?_ | refine R.zn ?_ | refine R.done ?_ | refine X.thenR ?_ | refine CR.block ?_ | refine CR.skip ?_ | refine CR.ret ?_ | refine CR.tru (by exact rfl) ?_ | refine CR.fls (by exact rfl) ?_ | refine X.pass_ret ?_ | refine X.pass_exit ?_ | refine X.block_normal ?_ | refine X.block_ret ?_ | refine X.block_exit ?_)
          refine X.next [(17, 19)] (⟨t.1, t.2 ++ G, j + 1, some pk⟩ : TS) ⟨hT 200 hj, by rw [hov, if_neg (by decide)] at hR; exact hR⟩ ⟨rfl, mu_step hj (a := t.1.l.length) (by have h1 := ht.2.1; omega)⟩ hr hpe rfl rfl (by repeat (first | exact HasH.nil | refine HasH.same rfl rfl rfl trivial ?_ | refine HasH.same rfl rfl rfl rfl ?_ | refine HasH.same rfl rfl rfl (fun _ _ => rfl) ?_)) rfl hlb hfac (fun w' hf => nxF1 hf) (nxF2 (hT 200 hj).fcells) (fun y hy => List.mem_cons_of_mem _ (List.mem_append_right _ hy))
        | true =>
          repeat (first | refine CR.seq ?_ | refine CR.region ?_ | refine R.zb ttok ?_ | refine R.zu ttok ?_ | refine R.zc ttok ?_ | refine R.za ttok ?_ | refine R.zx ?_ | refine R.zl ttok ?_ | refine R.zs ttok ?_ | refine R.z ttok ?_ | refine R.zk ?_ | refine R.zn ?_ | refine R.done ?_ | refine X.thenR ?_ | refine CR.block ?_ | refine CR.skip ?_ | refine CR.ret ?_ | refine CR.tru (by exact rfl) ?_ | refine CR.fls (by exact rfl) ?_ | refine X.pass_ret ?_ | refine X.pass_exit ?_ | refine X.block_normal ?_ | refine X.block_ret ?_ | refine X.block_exit ?_)
          refine X.leave [(17, 19)] (⟨t.1, t.2 ++ G, j + 1, some pk⟩ : TS) ⟨hT 201 (by omega), by rw [hov, if_pos rfl] at hR; exact hR⟩ rfl rfl (by repeat (first | exact HasH.nil | refine HasH.same rfl rfl rfl trivial ?_ | refine HasH.same rfl rfl rfl rfl ?_ | refine HasH.same rfl rfl rfl (fun _ _ => rfl) ?_)) rfl hlb hfac (fun w' hf => nxF1 hf) (nxF2 (hT 201 (by omega)).fcells)
    | true =>
      repeat (first | refine CR.seq ?_ | refine CR.region ?_ | refine R.zb ttok ?_ | refine R.zu ttok ?_ | refine R.zc ttok ?_ | refine R.za ttok ?_ | refine R.zx ?_ | refine R.zl ttok ?_ | refine R.zs ttok ?_ | refine R.z ttok ?_ | refine R.zk ?_ | refine R.zn ?_ | refine R.done ?_ | refine X.thenR ?_ | refine CR.block ?_ | refine CR.skip ?_ | refine CR.ret ?_ | refine CR.tru (by exact rfl) ?_ | refine CR.fls (by exact rfl) ?_ | refine X.pass_ret ?_ | refine X.pass_exit ?_ | refine X.block_normal ?_ | refine X.block_ret ?_ | refine X.block_exit ?_)
      refine R.ldo (v := .raw (.int .i64 (b01 true))) ttok rfl rfl rfl rfl rfl (by kernel_rfl) Nat.one_pos ?_
      repeat (first | refine CR.seq ?_ | refine CR.region ?_ | refine R.zb ttok ?_ | refine R.zu ttok ?_ | refine R.zc ttok ?_ | refine R.za ttok ?_ | refine R.zx ?_ | refine R.zl ttok ?_ | refine R.zs ttok ?_ | refine R.z ttok ?_ | refine R.zk ?_ | refine R.zn ?_ | refine R.done ?_ | refine X.thenR ?_ | refine CR.block ?_ | refine CR.skip ?_ | refine CR.ret ?_ | refine CR.tru (by exact rfl) ?_ | refine CR.fls (by exact rfl) ?_ | refine X.pass_ret ?_ | refine X.pass_exit ?_ | refine X.block_normal ?_ | refine X.block_ret ?_ | refine X.block_exit ?_)
      refine R.cl [18] (read_specZ ⟨c0, c1, h0, h1, true, wr⟩ true) Try.call50 (by repeat (first | exact HasIn.nil | refine HasIn.same rfl rfl ?_ | refine HasIn.bro rfl ?_ | refine HasIn.ror rfl ?_ | refine HasIn.cro rfl rfl ?_)) rfl rfl rfl (fun _ => rfl) rfl (by kernel_rfl) fun _ _ => ?_
      cases h1 with
      | false =>
        have hst : nxK ps.l i = nxK ps.l (i + 1) := nxK_dead hlt (by rw [hpp]; rfl)
        rw [hst]
        repeat (first | refine CR.seq ?_ | refine CR.region ?_ | refine R.zb ttok ?_ | refine R.zu ttok ?_ | refine R.zc ttok ?_ | refine R.za ttok ?_ | refine R.zx ?_ | refine R.zl ttok ?_ | refine R.zs ttok ?_ | refine R.z ttok ?_ | refine R.zk ?_ | refine R.zn ?_ | refine R.done ?_ | refine X.thenR ?_ | refine CR.block ?_ | refine CR.skip ?_ | refine CR.ret ?_ | refine CR.tru (by exact rfl) ?_ | refine CR.fls (by exact rfl) ?_ | refine X.pass_ret ?_ | refine X.pass_exit ?_ | refine X.block_normal ?_ | refine X.block_ret ?_ | refine X.block_exit ?_)
        refine X.next [] (⟨ps, G, j, some pk⟩ : TS) ⟨⟨hI.pok, hI.len, hI.num, hI.cov, hI.cells⟩, by show goP x mk (202 - j) j ps.r.l (nxK ps.l (aboveN ps.l pk)) = _; rw [habove, ← hst]; exact hR⟩ ⟨rfl, hmu0⟩ hr hpe rfl rfl (by
          show HasH _ _ _ [(0, tbIZ 17 (ps).l.length (ps).c ((VZ (ps).l).length : Nat) mk), (17, tIZ (ps).l (ps).c), (2, one0 (.ptr 0 0 0 0)), (3, one0 (.raw (.string fr))), (4, one0 (.raw (.string x.to))), (5, .cells [.raw (ps).r.s, .raw (.bool mk)] rST), (6, .cells [.raw (.string (nxK ps.l (aboveN ps.l pk)).1)] strT), (7, .cells [.raw (.bool true)] bT), (8, .cells [.raw (.bool false)] bT), (9, .cells [.raw (.bool (nxK ps.l (aboveN ps.l pk)).2)] bT), (10, .ro 0 0 1 (fun _ => stZ x)), (11, .cells [.raw (.int .i64 ((j : Nat) : Int))] intT), (12, one0 (.ptr 0 0 0 0)), (13, .cells [.fn tnF [.ptr 5 0 0 0, .ptr 6 0 0 0, .ptr 7 0 0 0, .ptr 8 0 0 0, .ptr 9 0 0 0, .ptr 10 0 0 0, .ptr 11 0 0 0, .ptr 12 0 0 0]] 52), (14, .cells [.ptr 0 0 0 0] 133), (15, .cells [.raw (.string fr)] strT), (16, .cells [.raw (.string x.to)] strT)]
          rw [habove]
          exact (by repeat (first | exact HasH.nil | refine HasH.same rfl rfl rfl trivial ?_ | refine HasH.same rfl rfl rfl rfl ?_ | refine HasH.same rfl rfl rfl (fun _ _ => rfl) ?_))) rfl hlb hfac (fun w' hf => nxF1 hf) (nxF2 hI.fcells) (fun y hy => List.mem_cons_of_mem _ (List.mem_append_right _ hy))
      | true =>
        have hlive : (ps.l.getD i zG).2.2.live = true := by rw [hpp]; rfl
        have hst : nxK ps.l i = (pk, true) := by rw [nxK_live hlt hlive, hpp]
        have hiv : isV ps.l pk = true := by have := isV_at hI.pok.asc hlt; rw [hpp] at this; exact this
        have hgv : getV ps.l pk = c1 := by have := getV_at hI.pok.asc hlt; rw [hpp] at this; exact this
        rw [hst] at hR ⊢
        rw [goP_step hnm hpast] at hR
        repeat (first | refine R.zb ttok ?_ | refine R.zu ttok ?_ | refine R.zc ttok ?_ | refine R.za ttok ?_ | refine R.zx ?_ | refine R.zl ttok ?_ | refine R.zs ttok ?_ | refine R.z ttok ?_ | refine R.zk ?_ | refine R.zn ?_)
        refine R.done ?_
        refine X.thenR ?_
        refine CR.seq ?_
        refine CR.region ?_
        refine R.drop 18 ?_
        repeat (first | refine R.zb ttok ?_ | refine R.zu ttok ?_ | refine R.zc ttok ?_ | refine R.za ttok ?_ | refine R.zx ?_ | refine R.zl ttok ?_ | refine R.zs ttok ?_ | refine R.z ttok ?_ | refine R.zk ?_ | refine R.zn ?_)
        refine R.clE [0, 17, 5, 6, 7, 8, 9, 10, 11, 12] (tn1_spec ps mk x pk c1 j hI.pok (by omega) hiv hgv hpast (by omega)) (rFact lb { r with state := .busy } :: dFact D :: (G ++ XF)) perm_in (by show 13 ≤ 17; omega) (fun k hk => hpin k hk) tn_call (by repeat (first | exact HasIn.nil | refine HasIn.same rfl rfl ?_ | refine HasIn.c1 rfl rfl ?_ | refine HasIn.roq rfl rfl ?_ | refine HasIn.other rfl (fun e => by cases e) (fun ρ x w hh => tab_ro hh) ?_ | refine HasIn.other rfl (fun e => by cases e) (fun ρ x w hh => tab_any hh) ?_ | refine HasIn.roAp rfl rfl ?_ | refine HasIn.other rfl (fun e => by cases e) (fun ρ x w hh => cells_any hh) ?_ | refine HasIn.other rfl (fun e => by cases e) (fun ρ x w hh => ro_any hh) ?_)) rfl rfl rfl (fun _ => rfl) rfl (by kernel_rfl) fun t ht => ?_
        refine R.fperm perm_out ?_
        rw [← ht.2.2.2.2, ht.1.next] at hR
        have hT : ∀ m, j + 1 ≤ m → (⟨t.1, t.2 ++ G, j + 1, some pk⟩ : TS).ok mk l m := fun m hm => ⟨ht.1, by have h1 := ht.2.1; show t.1.l.length ≤ l.length + (j + 1); omega, hm, cov_more hI.cov ht.2.2.1, fun p hp => by
          rcases List.mem_append.1 hp with hp | hp
          · exact ht.2.2.2.1 p hp
          · exact hI.cells p hp⟩
        have hfac2 : ∀ y ∈ dFact D :: (tsF ⟨t.1, t.2 ++ G, j + 1, some pk⟩ ++ XF), FactC lb y := facI (hT (j + 1) (Nat.le_refl _)).fcells hX
        have hfac := hfac2
        cases hov : overB x (j + 1) with
        | false =>
          have hj := overB_no hov
          repeat (first | refine CR.seq ?_ | refine CR.region ?_ | refine R.zb ttok ?_ | refine R.zu ttok ?_ | refine R.zc ttok ?_ | refine R.za ttok ?_ | refine R.zx ?_ | refine R.zl ttok ?_ | refine R.zs ttok ?_ | refine R.z ttok ?_ | refine R.zk ?_ | refine R.zn ?_ | refine R.done ?_ | refine X.thenR ?_ | refine CR.block ?_ | refine CR.skip ?_ | refine CR.ret ?_ | refine CR.tru (by exact rfl) ?_ | refine CR.fls (by exact rfl) ?_ | refine X.pass_ret ?_ | refine X.pass_exit ?_ | refine X.block_normal ?_ | refine X.block_ret ?_ | refine X.block_exit ?_)
          refine X.next [(17, 19)] (⟨t.1, t.2 ++ G, j + 1, some pk⟩ : TS) ⟨hT 200 hj, by rw [hov, if_neg (by decide)] at hR; exact hR⟩ ⟨rfl, mu_step hj (a := t.1.l.length) (by have h1 := ht.2.1; omega)⟩ hr hpe rfl rfl (by repeat (first | exact HasH.nil | refine HasH.same rfl rfl rfl trivial ?_ | refine HasH.same rfl rfl rfl rfl ?_ | refine HasH.same rfl rfl rfl (fun _ _ => rfl) ?_)) rfl hlb hfac (fun w' hf => nxF1 hf) (nxF2 (hT 200 hj).fcells) (fun y hy => List.mem_cons_of_mem _ (List.mem_append_right _ hy))
        | true =>
          repeat (first | refine CR.seq ?_ | refine CR.region ?_ | refine R.zb ttok ?_ | refine R.zu ttok ?_ | refine R.zc ttok ?_ | refine R.za ttok ?_ | refine R.zx ?_ | refine R.zl ttok ?_ | refine R.zs ttok ?_ | refine R.z ttok ?_ | refine R.zk ?_ | refine R.zn ?_ | refine R.done ?_ | refine X.thenR ?_ | refine CR.block ?_ | refine CR.skip ?_ | refine CR.ret ?_ | refine CR.tru (by exact rfl) ?_ | refine CR.fls (by exact rfl) ?_ | refine X.pass_ret ?_ | refine X.pass_exit ?_ | refine X.block_normal ?_ | refine X.block_ret ?_ | refine X.block_exit ?_)
          refine X.leave [(17, 19)] (⟨t.1, t.2 ++ G, j + 1, some pk⟩ : TS) ⟨hT 201 (by omega), by rw [hov, if_pos rfl] at hR; exact hR⟩ rfl rfl (by repeat (first | exact HasH.nil | refine HasH.same rfl rfl rfl trivial ?_ | refine HasH.same rfl rfl rfl rfl ?_ | refine HasH.same rfl rfl rfl (fun _ _ => rfl) ?_)) rfl hlb hfac (fun w' hf => nxF1 hf) (nxF2 (hT 201 (by omega)).fcells)
  case hdone =>
    rintro ⟨ps, G, j, la⟩ D hD ⟨hI, hR⟩ hFin
    dsimp only at hFin hR ⊢
    have hnp := nx_past hI.pok.asc (to := x.to) _ _ rfl hFin
    repeat (first | refine C.seq ?_ | refine C.region ?_ | refine R.zb ttok ?_ | refine R.zu ttok ?_ | refine R.zc ttok ?_ | refine R.za ttok ?_ | refine R.zx ?_ | refine R.zl ttok ?_ | refine R.zs ttok ?_ | refine R.z ttok ?_ | refine R.zk ?_ | refine R.zn ?_ | refine R.done ?_ | refine X.then ?_ | refine C.block ?_ | refine C.ret ?_ | refine C.skip ?_ | refine C.exit ?_ | refine X.pass_ret ?_ | refine X.pass_exit ?_ | refine X.block_normal ?_ | refine X.block_ret ?_ | refine X.block_exit ?_ | refine C.zt ?_ | refine C.zf ?_ | refine X.zo ?_)
    refine X.finM ttok (⟨ps, G, (nxK ps.l (posO ps.l fr la)).1, (nxK ps.l (posO ps.l fr la)).2, false⟩ : RS) [(13, 17)] ⟨⟨hI.pok, Nat.le_trans hI.len (by have h := hI.num; have h : j ≤ 200 := h; show l.length + j ≤ l.length + 201; omega), hI.cov, hI.cells, .inr hnp⟩, by rw [goP_end hnp] at hR; exact hR⟩ rfl rfl rfl (by repeat (first | exact HasH.nil | refine HasH.same rfl rfl rfl trivial ?_ | refine HasH.same rfl rfl rfl rfl ?_ | refine HasH.same rfl rfl rfl (fun _ _ => rfl) ?_)) _ (by first | exact .inl rfl | exact .inr rfl) hD hI.fcells ?_ ?_ ?_
    · exact fun w' hf => hf.ap
    · exact fun y hy => hy
    · exact cov_all hI.cov
  case hstop =>
    rintro ⟨ps, G, j, la⟩ D hD ⟨hI, hR⟩
    repeat (first | refine C.seq ?_ | refine C.region ?_ | refine R.zb ttok ?_ | refine R.zu ttok ?_ | refine R.zc ttok ?_ | refine R.za ttok ?_ | refine R.zx ?_ | refine R.zl ttok ?_ | refine R.zs ttok ?_ | refine R.z ttok ?_ | refine R.zk ?_ | refine R.zn ?_ | refine R.done ?_ | refine X.then ?_ | refine C.block ?_ | refine C.ret ?_ | refine C.skip ?_ | refine C.exit ?_ | refine X.pass_ret ?_ | refine X.pass_exit ?_ | refine X.block_normal ?_ | refine X.block_ret ?_ | refine X.block_exit ?_ | refine C.zt ?_ | refine C.zf ?_ | refine X.zo ?_)
    refine X.finM ttok (⟨ps, G, (nxK ps.l (posO ps.l fr la)).1, (nxK ps.l (posO ps.l fr la)).2, true⟩ : RS) [(13, 17)] ⟨⟨hI.pok, Nat.le_trans hI.len (by have h := hI.num; have h : j ≤ 201 := h; show l.length + j ≤ l.length + 201; omega), hI.cov, hI.cells, .inl rfl⟩, hR⟩ rfl rfl rfl (by repeat (first | exact HasH.nil | refine HasH.same rfl rfl rfl trivial ?_ | refine HasH.same rfl rfl rfl rfl ?_ | refine HasH.same rfl rfl rfl (fun _ _ => rfl) ?_)) _ (by first | exact .inl rfl | exact .inr rfl) hD hI.fcells ?_ ?_ ?_
    · exact fun w' hf => hf.ap
    · exact fun y hy => hy
    · exact cov_all hI.cov
end Go.Proofs.Yteabncomclgncaa
namespace Go.Proofs.Yteabncomclgncaa
set_option linter.unusedVariables false
set_option linter.unusedSimpArgs false
open Go.RowKit
set_option maxRecDepth 100000
set_option maxHeartbeats 8000000
abbrev PSM (s : PS) (mk : Bool) (r : PL) (t : PS × Fam) : Prop := t.1.ok mk ∧ t.1.l.length ≤ s.l.length + 201 ∧ Cov (zF s.l) (zF t.1.l ++ t.2) ∧ t.1.r.l = r
theorem rsZ_call (args : Array Value) (w : World) : (callFunc rsZ args).run Try.prog w = .ok (.enter rsZ args) w := Try.call48 args w
theorem ranged_spec (s : PS) (mk : Bool) (x : StZ) (hs : s.ok mk) (hl : s.l.length ≤ 500000) :
    SpecF Try.prog 64 [.ptr 0 0 0 0, s.r.v mk, .agg (stZ x)] [tbIZ 1 s.l.length s.c ((VZ s.l).length : Nat) mk, tIZ s.l s.c] 3 (zF s.l ++ rF s.r) (σ := PS × Fam) (PSM s mk (rangedP x mk s.r.l))
    (fun t => .tup [t.1.r.v mk, .raw (.bool true)]) (fun t => [(0, tbIZ 2 t.1.l.length t.1.c ((VZ t.1.l).length : Nat) mk), (2, tIZ t.1.l t.1.c)]) psF := by
  refine SpecF.of Try.func64 rfl Try.ntmps64 rfl (bdl_cons rfl (bdl_cons (fun _ _ => rfl) (bdl_nil _))) fun ρ w => ?_
  have hrl := hs.rlen
  have hrA := hs.rA
  repeat (first | refine C.seq ?_ | refine C.region ?_ | refine R.zb ttok ?_ | refine R.zu ttok ?_ | refine R.zc ttok ?_ | refine R.za ttok ?_ | refine R.zx ?_ | refine R.zl ttok ?_ | refine R.zs ttok ?_ | refine R.z ttok ?_ | refine R.zk ?_ | refine R.zn ?_ | refine R.done ?_ | refine X.then ?_ | refine C.block ?_ | refine C.ret ?_ | refine C.skip ?_ | refine C.exit ?_ | refine X.pass_ret ?_ | refine X.pass_exit ?_ | refine X.block_normal ?_ | refine X.block_ret ?_ | refine X.block_exit ?_ | refine C.zt ?_ | refine C.zf ?_ | refine X.zo ?_)
  refine R.labR 17 s.r hs.rok (fun p hp => List.mem_append_right _ hp) rfl ?_
  repeat (first | refine C.seq ?_ | refine C.region ?_ | refine R.zb ttok ?_ | refine R.zu ttok ?_ | refine R.zc ttok ?_ | refine R.za ttok ?_ | refine R.zx ?_ | refine R.zl ttok ?_ | refine R.zs ttok ?_ | refine R.z ttok ?_ | refine R.zk ?_ | refine R.zn ?_ | refine R.done ?_ | refine X.then ?_ | refine C.block ?_ | refine C.ret ?_ | refine C.skip ?_ | refine C.exit ?_ | refine X.pass_ret ?_ | refine X.pass_exit ?_ | refine X.block_normal ?_ | refine X.block_ret ?_ | refine X.block_exit ?_ | refine C.zt ?_ | refine C.zf ?_ | refine X.zo ?_)
  refine R.cl [7] (get_specR s.r.l s.r.c mk x.key hrA (by omega)) Try.call66 (by repeat (first | exact HasIn.nil | refine HasIn.same rfl rfl ?_ | refine HasIn.bro rfl ?_ | refine HasIn.ror rfl ?_ | refine HasIn.cro rfl rfl ?_)) rfl rfl rfl (fun _ => rfl) rfl (by kernel_rfl) fun _ _ => ?_
  rw [hs.get, hs.live]
  refine R.drop 7 ?_
  have hrz : rangedP x mk s.r.l = resP x mk x.key s.l s.r.l := by unfold rangedP; rw [hs.rl, plZ_plc, plZ_nx]
  cases hv : isV s.l x.key with
  | true =>
    have hnx := nx_is hv
    have sp := rgTn_spec s.l s.c s.r mk x x.key hs hl
    rw [hnx] at sp
    repeat (first | refine C.seq ?_ | refine C.region ?_ | refine R.zb ttok ?_ | refine R.zu ttok ?_ | refine R.zc ttok ?_ | refine R.za ttok ?_ | refine R.zx ?_ | refine R.zl ttok ?_ | refine R.zs ttok ?_ | refine R.z ttok ?_ | refine R.zk ?_ | refine R.zn ?_ | refine R.done ?_ | refine X.then ?_ | refine C.block ?_ | refine C.ret ?_ | refine C.skip ?_ | refine C.exit ?_ | refine X.pass_ret ?_ | refine X.pass_exit ?_ | refine X.block_normal ?_ | refine X.block_ret ?_ | refine X.block_exit ?_ | refine C.zt ?_ | refine C.zf ?_ | refine X.zo ?_)
    refine R.cl [0] (rangeS_specZ x.key x.to) Try.call19 (by repeat (first | exact HasIn.nil | refine HasIn.same rfl rfl ?_ | refine HasIn.c1 rfl rfl ?_ | refine HasIn.roq rfl rfl ?_ | refine HasIn.other rfl (fun e => by cases e) (fun ρ x w hh => tab_ro hh) ?_ | refine HasIn.other rfl (fun e => by cases e) (fun ρ x w hh => tab_any hh) ?_ | refine HasIn.roAp rfl rfl ?_ | refine HasIn.other rfl (fun e => by cases e) (fun ρ x w hh => cells_any hh) ?_ | refine HasIn.other rfl (fun e => by cases e) (fun ρ x w hh => ro_any hh) ?_)) rfl rfl rfl (fun _ => rfl) rfl (by kernel_rfl) fun _ _ => ?_
    repeat (first | refine C.seq ?_ | refine C.region ?_ | refine R.zb ttok ?_ | refine R.zu ttok ?_ | refine R.zc ttok ?_ | refine R.za ttok ?_ | refine R.zx ?_ | refine R.zl ttok ?_ | refine R.zs ttok ?_ | refine R.z ttok ?_ | refine R.zk ?_ | refine R.zn ?_ | refine R.done ?_ | refine X.then ?_ | refine C.block ?_ | refine C.ret ?_ | refine C.skip ?_ | refine C.exit ?_ | refine X.pass_ret ?_ | refine X.pass_exit ?_ | refine X.block_normal ?_ | refine X.block_ret ?_ | refine X.block_exit ?_ | refine C.zt ?_ | refine C.zf ?_ | refine X.zo ?_)
    refine R.clE [0, 1, 12, 13, 14, 3, 6, 9, 11, 8, 4, 10, 2] sp ([] : Fam) (by rw [List.append_nil]) (Nat.le_refl _) (fun _ _ => rfl) rsZ_call (by repeat (first | exact HasIn.nil | refine HasIn.same rfl rfl ?_ | refine HasIn.c1 rfl rfl ?_ | refine HasIn.roq rfl rfl ?_ | refine HasIn.other rfl (fun e => by cases e) (fun ρ x w hh => tab_ro hh) ?_ | refine HasIn.other rfl (fun e => by cases e) (fun ρ x w hh => tab_any hh) ?_ | refine HasIn.roAp rfl rfl ?_ | refine HasIn.other rfl (fun e => by cases e) (fun ρ x w hh => cells_any hh) ?_ | refine HasIn.other rfl (fun e => by cases e) (fun ρ x w hh => ro_any hh) ?_)) rfl rfl rfl (fun _ => rfl) rfl (by kernel_rfl) fun t ⟨ht, hres⟩ => ?_
    rw [← hrz] at hres
    refine R.fperm (fs2 := psF (t.ps, t.G)) (by rw [List.append_nil]) ?_
    obtain ⟨ps, G, at_, is_, ov⟩ := t
    have hfin := ht.fin
    dsimp only at hfin hres
    repeat (first | refine C.seq ?_ | refine C.region ?_ | refine R.zb ttok ?_ | refine R.zu ttok ?_ | refine R.zc ttok ?_ | refine R.za ttok ?_ | refine R.zx ?_ | refine R.zl ttok ?_ | refine R.zs ttok ?_ | refine R.z ttok ?_ | refine R.zk ?_ | refine R.zn ?_ | refine R.done ?_ | refine X.then ?_ | refine C.block ?_ | refine C.ret ?_ | refine C.skip ?_ | refine C.exit ?_ | refine X.pass_ret ?_ | refine X.pass_exit ?_ | refine X.block_normal ?_ | refine X.block_ret ?_ | refine X.block_exit ?_ | refine C.zt ?_ | refine C.zf ?_ | refine X.zo ?_)
    refine C.draw [[], [], [1], [1, 2], [1, 2, 3], [1, 2, 3, 4], [1, 2, 3, 4, 5], [1, 2, 3, 4, 5, 6], [1, 2, 3, 4, 5, 6, 7], [1, 2, 3, 4, 5, 6, 7, 8], [1, 2, 3, 4, 5, 6, 7, 8, 9], [1, 2, 3, 4, 5, 6, 7, 8, 9, 10], [1, 2, 3, 4, 5, 6, 7, 8, 9, 10, 11], [1, 2, 3, 4, 5, 6, 7, 8, 9, 10, 11, 12], [1, 2, 3, 4, 5, 6, 7, 8, 9, 10, 11, 12], [1, 2, 3, 4, 5, 6, 7, 8, 9, 10, 11, 12, 14], [1, 2, 3, 4, 5, 6, 7, 8, 9, 10, 11, 12, 13, 14, 15], [1, 2, 3, 4, 5, 6, 7, 8, 9, 10, 11, 12, 13, 14, 15, 16], [1, 2, 3, 4, 5, 6, 7, 8, 9, 10, 11, 12, 13, 14, 15, 16, 17], [1, 2, 3, 4, 5, 6, 7, 8, 9, 10, 11, 12, 13, 14, 15, 16, 17, 18], [0, 1, 2, 3, 4, 5, 6, 7, 8, 9, 10, 11, 12], [0, 1, 2, 3, 4, 5, 6, 7, 8, 9, 10, 11, 12, 13, 14, 15, 16, 17, 18, 19, 20]] [20] (by kernel_rfl) (by kernel_rfl) ?_
    cases ov with
    | true =>
      repeat (first | refine C.seq ?_ | refine C.region ?_ | refine R.zb ttok ?_ | refine R.zu ttok ?_ | refine R.zc ttok ?_ | refine R.za ttok ?_ | refine R.zx ?_ | refine R.zl ttok ?_ | refine R.zs ttok ?_ | refine R.z ttok ?_ | refine R.zk ?_ | refine R.zn ?_ | refine R.done ?_ | refine X.then ?_ | refine C.block ?_ | refine C.ret ?_ | refine C.skip ?_ | refine C.exit ?_ | refine X.pass_ret ?_ | refine X.pass_exit ?_ | refine X.block_normal ?_ | refine X.block_ret ?_ | refine X.block_exit ?_ | refine C.zt ?_ | refine C.zf ?_ | refine X.zo ?_)
      refine X.finF ttok (ps, G) [(2, 15)] ⟨ht.pok, ht.len, ht.cov, hres⟩ rfl rfl rfl (by repeat (first | exact HasH.nil | refine HasH.same rfl rfl rfl trivial ?_ | refine HasH.same rfl rfl rfl rfl ?_ | refine HasH.same rfl rfl rfl (fun _ _ => rfl) ?_ | refine HasH.ros rfl rfl ?_)) _ (by first | exact .inl rfl | exact .inr rfl) ?_ ?_ ?_
      · exact fun w' hf => hf.ap
      · exact fun p hp => hp
      · exact cov_all ht.cov
    | false =>
      cases is_ with
      | false =>
        repeat (first | refine C.seq ?_ | refine C.region ?_ | refine R.zb ttok ?_ | refine R.zu ttok ?_ | refine R.zc ttok ?_ | refine R.za ttok ?_ | refine R.zx ?_ | refine R.zl ttok ?_ | refine R.zs ttok ?_ | refine R.z ttok ?_ | refine R.zk ?_ | refine R.zn ?_ | refine R.done ?_ | refine X.then ?_ | refine C.block ?_ | refine C.ret ?_ | refine C.skip ?_ | refine C.exit ?_ | refine X.pass_ret ?_ | refine X.pass_exit ?_ | refine X.block_normal ?_ | refine X.block_ret ?_ | refine X.block_exit ?_ | refine C.zt ?_ | refine C.zf ?_ | refine X.zo ?_)
        refine X.finF ttok (ps, G) [(2, 15)] ⟨ht.pok, ht.len, ht.cov, hres⟩ rfl rfl rfl (by repeat (first | exact HasH.nil | refine HasH.same rfl rfl rfl trivial ?_ | refine HasH.same rfl rfl rfl rfl ?_ | refine HasH.same rfl rfl rfl (fun _ _ => rfl) ?_ | refine HasH.ros rfl rfl ?_)) _ (by first | exact .inl rfl | exact .inr rfl) ?_ ?_ ?_
        · exact fun w' hf => hf.ap
        · exact fun p hp => hp
        · exact cov_all ht.cov
      | true =>
        have hpa : past x.to at_ = true := by
          rcases hfin with h | h | h
          · cases h
          · cases h
          · exact h
        unfold past at hpa
        rw [Bool.and_eq_true] at hpa
        repeat (first | refine C.seq ?_ | refine C.region ?_ | refine R.zb ttok ?_ | refine R.zu ttok ?_ | refine R.zc ttok ?_ | refine R.za ttok ?_ | refine R.zx ?_ | refine R.zl ttok ?_ | refine R.zs ttok ?_ | refine R.z ttok ?_ | refine R.zk ?_ | refine R.zn ?_ | refine R.done ?_ | refine X.then ?_ | refine C.block ?_ | refine C.ret ?_ | refine C.skip ?_ | refine C.exit ?_ | refine X.pass_ret ?_ | refine X.pass_exit ?_ | refine X.block_normal ?_ | refine X.block_ret ?_ | refine X.block_exit ?_ | refine C.zt ?_ | refine C.zf ?_ | refine X.zo ?_)
        rw [show decide (x.to.toList ≠ (⟨#[]⟩ : ByteArray).toList) = true from hpa.1]
        repeat (first | refine C.seq ?_ | refine C.region ?_ | refine R.zb ttok ?_ | refine R.zu ttok ?_ | refine R.zc ttok ?_ | refine R.za ttok ?_ | refine R.zx ?_ | refine R.zl ttok ?_ | refine R.zs ttok ?_ | refine R.z ttok ?_ | refine R.zk ?_ | refine R.zn ?_ | refine R.done ?_ | refine X.then ?_ | refine C.block ?_ | refine C.ret ?_ | refine C.skip ?_ | refine C.exit ?_ | refine X.pass_ret ?_ | refine X.pass_exit ?_ | refine X.block_normal ?_ | refine X.block_ret ?_ | refine X.block_exit ?_ | refine C.zt ?_ | refine C.zf ?_ | refine X.zo ?_)
        rw [show (!(Op.bytesLess at_.toList x.to.toList || decide (at_.toList = x.to.toList))) = true from hpa.2]
        repeat (first | refine C.seq ?_ | refine C.region ?_ | refine R.zb ttok ?_ | refine R.zu ttok ?_ | refine R.zc ttok ?_ | refine R.za ttok ?_ | refine R.zx ?_ | refine R.zl ttok ?_ | refine R.zs ttok ?_ | refine R.z ttok ?_ | refine R.zk ?_ | refine R.zn ?_ | refine R.done ?_ | refine X.then ?_ | refine C.block ?_ | refine C.ret ?_ | refine C.skip ?_ | refine C.exit ?_ | refine X.pass_ret ?_ | refine X.pass_exit ?_ | refine X.block_normal ?_ | refine X.block_ret ?_ | refine X.block_exit ?_ | refine C.zt ?_ | refine C.zf ?_ | refine X.zo ?_)
        refine X.finF ttok (ps, G) [(2, 15)] ⟨ht.pok, ht.len, ht.cov, hres⟩ rfl rfl rfl (by repeat (first | exact HasH.nil | refine HasH.same rfl rfl rfl trivial ?_ | refine HasH.same rfl rfl rfl rfl ?_ | refine HasH.same rfl rfl rfl (fun _ _ => rfl) ?_ | refine HasH.ros rfl rfl ?_)) _ (by first | exact .inl rfl | exact .inr rfl) ?_ ?_ ?_
        · exact fun w' hf => hf.ap
        · exact fun p hp => hp
        · exact cov_all ht.cov
  | false =>
    have hnx := nx_no hv
    repeat (first | refine C.seq ?_ | refine C.region ?_ | refine R.zb ttok ?_ | refine R.zu ttok ?_ | refine R.zc ttok ?_ | refine R.za ttok ?_ | refine R.zx ?_ | refine R.zl ttok ?_ | refine R.zs ttok ?_ | refine R.z ttok ?_ | refine R.zk ?_ | refine R.zn ?_ | refine R.done ?_ | refine X.then ?_ | refine C.block ?_ | refine C.ret ?_ | refine C.skip ?_ | refine C.exit ?_ | refine X.pass_ret ?_ | refine X.pass_exit ?_ | refine X.block_normal ?_ | refine X.block_ret ?_ | refine X.block_exit ?_ | refine C.zt ?_ | refine C.zf ?_ | refine X.zo ?_)
    refine R.labR 25 s.r hs.rok (fun p hp => List.mem_append_right _ hp) rfl ?_
    repeat (first | refine C.seq ?_ | refine C.region ?_ | refine R.zb ttok ?_ | refine R.zu ttok ?_ | refine R.zc ttok ?_ | refine R.za ttok ?_ | refine R.zx ?_ | refine R.zl ttok ?_ | refine R.zs ttok ?_ | refine R.z ttok ?_ | refine R.zk ?_ | refine R.zn ?_ | refine R.done ?_ | refine X.then ?_ | refine C.block ?_ | refine C.ret ?_ | refine C.skip ?_ | refine C.exit ?_ | refine X.pass_ret ?_ | refine X.pass_exit ?_ | refine X.block_normal ?_ | refine X.block_ret ?_ | refine X.block_exit ?_ | refine C.zt ?_ | refine C.zf ?_ | refine X.zo ?_)
    refine R.cl [9] (next_specR s.r.l s.r.c mk x.key (by omega)) Try.call67 (by repeat (first | exact HasIn.nil | refine HasIn.same rfl rfl ?_ | refine HasIn.bro rfl ?_ | refine HasIn.ror rfl ?_ | refine HasIn.cro rfl rfl ?_)) rfl rfl rfl (fun _ => rfl) rfl (by kernel_rfl) fun _ _ => ?_
    rw [hs.next]
    refine R.drop 9 ?_
    have sp := rgTn_spec s.l s.c s.r mk x x.key hs hl
    rw [hnx] at sp
    repeat (first | refine C.seq ?_ | refine C.region ?_ | refine R.zb ttok ?_ | refine R.zu ttok ?_ | refine R.zc ttok ?_ | refine R.za ttok ?_ | refine R.zx ?_ | refine R.zl ttok ?_ | refine R.zs ttok ?_ | refine R.z ttok ?_ | refine R.zk ?_ | refine R.zn ?_ | refine R.done ?_ | refine X.then ?_ | refine C.block ?_ | refine C.ret ?_ | refine C.skip ?_ | refine C.exit ?_ | refine X.pass_ret ?_ | refine X.pass_exit ?_ | refine X.block_normal ?_ | refine X.block_ret ?_ | refine X.block_exit ?_ | refine C.zt ?_ | refine C.zf ?_ | refine X.zo ?_)
    refine R.cl [0] (rangeS_specZ x.key x.to) Try.call19 (by repeat (first | exact HasIn.nil | refine HasIn.same rfl rfl ?_ | refine HasIn.c1 rfl rfl ?_ | refine HasIn.roq rfl rfl ?_ | refine HasIn.other rfl (fun e => by cases e) (fun ρ x w hh => tab_ro hh) ?_ | refine HasIn.other rfl (fun e => by cases e) (fun ρ x w hh => tab_any hh) ?_ | refine HasIn.roAp rfl rfl ?_ | refine HasIn.other rfl (fun e => by cases e) (fun ρ x w hh => cells_any hh) ?_ | refine HasIn.other rfl (fun e => by cases e) (fun ρ x w hh => ro_any hh) ?_)) rfl rfl rfl (fun _ => rfl) rfl (by kernel_rfl) fun _ _ => ?_
    repeat (first | refine C.seq ?_ | refine C.region ?_ | refine R.zb ttok ?_ | refine R.zu ttok ?_ | refine R.zc ttok ?_ | refine R.za ttok ?_ | refine R.zx ?_ | refine R.zl ttok ?_ | refine R.zs ttok ?_ | refine R.z ttok ?_ | refine R.zk ?_ | refine R.zn ?_ | refine R.done ?_ | refine X.then ?_ | refine C.block ?_ | refine C.ret ?_ | refine C.skip ?_ | refine C.exit ?_ | refine X.pass_ret ?_ | refine X.pass_exit ?_ | refine X.block_normal ?_ | refine X.block_ret ?_ | refine X.block_exit ?_ | refine C.zt ?_ | refine C.zf ?_ | refine X.zo ?_)
    refine R.clE [0, 1, 13, 14, 15, 3, 6, 10, 12, 8, 4, 11, 2] sp ([] : Fam) (by rw [List.append_nil]) (Nat.le_refl _) (fun _ _ => rfl) rsZ_call (by repeat (first | exact HasIn.nil | refine HasIn.same rfl rfl ?_ | refine HasIn.c1 rfl rfl ?_ | refine HasIn.roq rfl rfl ?_ | refine HasIn.other rfl (fun e => by cases e) (fun ρ x w hh => tab_ro hh) ?_ | refine HasIn.other rfl (fun e => by cases e) (fun ρ x w hh => tab_any hh) ?_ | refine HasIn.roAp rfl rfl ?_ | refine HasIn.other rfl (fun e => by cases e) (fun ρ x w hh => cells_any hh) ?_ | refine HasIn.other rfl (fun e => by cases e) (fun ρ x w hh => ro_any hh) ?_)) rfl rfl rfl (fun _ => rfl) rfl (by kernel_rfl) fun t ⟨ht, hres⟩ => ?_
    rw [← hrz] at hres
    refine R.fperm (fs2 := psF (t.ps, t.G)) (by rw [List.append_nil]) ?_
    obtain ⟨ps, G, at_, is_, ov⟩ := t
    have hfin := ht.fin
    dsimp only at hfin hres
    repeat (first | refine C.seq ?_ | refine C.region ?_ | refine R.zb ttok ?_ | refine R.zu ttok ?_ | refine R.zc ttok ?_ | refine R.za ttok ?_ | refine R.zx ?_ | refine R.zl ttok ?_ | refine R.zs ttok ?_ | refine R.z ttok ?_ | refine R.zk ?_ | refine R.zn ?_ | refine R.done ?_ | refine X.then ?_ | refine C.block ?_ | refine C.ret ?_ | refine C.skip ?_ | refine C.exit ?_ | refine X.pass_ret ?_ | refine X.pass_exit ?_ | refine X.block_normal ?_ | refine X.block_ret ?_ | refine X.block_exit ?_ | refine C.zt ?_ | refine C.zf ?_ | refine X.zo ?_)
    refine C.draw [[], [], [1], [1, 2], [1, 2, 3], [1, 2, 3, 4], [1, 2, 3, 4, 5], [1, 2, 3, 4, 5, 6], [1, 2, 3, 4, 5, 6, 7], [1, 2, 3, 4, 5, 6, 7, 8], [1, 2, 3, 4, 5, 6, 7, 8, 9], [1, 2, 3, 4, 5, 6, 7, 8, 9, 10], [1, 2, 3, 4, 5, 6, 7, 8, 9, 10, 11], [1, 2, 3, 4, 5, 6, 7, 8, 9, 10, 11, 12], [1, 2, 3, 4, 5, 6, 7, 8, 9, 10, 11, 12], [1, 2, 3, 4, 5, 6, 7, 8, 9, 10, 11, 12, 14], [1, 2, 3, 4, 5, 6, 7, 8, 9, 10, 11, 12, 13, 14, 15], [1, 2, 3, 4, 5, 6, 7, 8, 9, 10, 11, 12, 13, 14, 15, 16], [1, 2, 3, 4, 5, 6, 7, 8, 9, 10, 11, 12, 13, 14, 15, 16, 17], [1, 2, 3, 4, 5, 6, 7, 8, 9, 10, 11, 12, 13, 14, 15, 16, 17, 18], [0, 1, 2, 3, 4, 5, 6, 7, 8, 9, 10, 11, 12], [0, 1, 2, 3, 4, 5, 6, 7, 8, 9, 10, 11, 12, 13, 14, 15, 16, 17, 18, 19, 20]] [20] (by kernel_rfl) (by kernel_rfl) ?_
    cases ov with
    | true =>
      repeat (first | refine C.seq ?_ | refine C.region ?_ | refine R.zb ttok ?_ | refine R.zu ttok ?_ | refine R.zc ttok ?_ | refine R.za ttok ?_ | refine R.zx ?_ | refine R.zl ttok ?_ | refine R.zs ttok ?_ | refine R.z ttok ?_ | refine R.zk ?_ | refine R.zn ?_ | refine R.done ?_ | refine X.then ?_ | refine C.block ?_ | refine C.ret ?_ | refine C.skip ?_ | refine C.exit ?_ | refine X.pass_ret ?_ | refine X.pass_exit ?_ | refine X.block_normal ?_ | refine X.block_ret ?_ | refine X.block_exit ?_ | refine C.zt ?_ | refine C.zf ?_ | refine X.zo ?_)
      refine X.finF ttok (ps, G) [(2, 16)] ⟨ht.pok, ht.len, ht.cov, hres⟩ rfl rfl rfl (by repeat (first | exact HasH.nil | refine HasH.same rfl rfl rfl trivial ?_ | refine HasH.same rfl rfl rfl rfl ?_ | refine HasH.same rfl rfl rfl (fun _ _ => rfl) ?_ | refine HasH.ros rfl rfl ?_)) _ (by first | exact .inl rfl | exact .inr rfl) ?_ ?_ ?_
      · exact fun w' hf => hf.ap
      · exact fun p hp => hp
      · exact cov_all ht.cov
    | false =>
      cases is_ with
      | false =>
        repeat (first | refine C.seq ?_ | refine C.region ?_ | refine R.zb ttok ?_ | refine R.zu ttok ?_ | refine R.zc ttok ?_ | refine R.za ttok ?_ | refine R.zx ?_ | refine R.zl ttok ?_ | refine R.zs ttok ?_ | refine R.z ttok ?_ | refine R.zk ?_ | refine R.zn ?_ | refine R.done ?_ | refine X.then ?_ | refine C.block ?_ | refine C.ret ?_ | refine C.skip ?_ | refine C.exit ?_ | refine X.pass_ret ?_ | refine X.pass_exit ?_ | refine X.block_normal ?_ | refine X.block_ret ?_ | refine X.block_exit ?_ | refine C.zt ?_ | refine C.zf ?_ | refine X.zo ?_)
        refine X.finF ttok (ps, G) [(2, 16)] ⟨ht.pok, ht.len, ht.cov, hres⟩ rfl rfl rfl (by repeat (first | exact HasH.nil | refine HasH.same rfl rfl rfl trivial ?_ | refine HasH.same rfl rfl rfl rfl ?_ | refine HasH.same rfl rfl rfl (fun _ _ => rfl) ?_ | refine HasH.ros rfl rfl ?_)) _ (by first | exact .inl rfl | exact .inr rfl) ?_ ?_ ?_
        · exact fun w' hf => hf.ap
        · exact fun p hp => hp
        · exact cov_all ht.cov
      | true =>
        have hpa : past x.to at_ = true := by
          rcases hfin with h | h | h
          · cases h
          · cases h
          · exact h
        unfold past at hpa
        rw [Bool.and_eq_true] at hpa
        repeat (first | refine C.seq ?_ | refine C.region ?_ | refine R.zb ttok ?_ | refine R.zu ttok ?_ | refine R.zc ttok ?_ | refine R.za ttok ?_ | refine R.zx ?_ | refine R.zl ttok ?_ | refine R.zs ttok ?_ | refine R.z ttok ?_ | refine R.zk ?_ | refine R.zn ?_ | refine R.done ?_ | refine X.then ?_ | refine C.block ?_ | refine C.ret ?_ | refine C.skip ?_ | refine C.exit ?_ | refine X.pass_ret ?_ | refine X.pass_exit ?_ | refine X.block_normal ?_ | refine X.block_ret ?_ | refine X.block_exit ?_ | refine C.zt ?_ | refine C.zf ?_ | refine X.zo ?_)
        rw [show decide (x.to.toList ≠ (⟨#[]⟩ : ByteArray).toList) = true from hpa.1]
        repeat (first | refine C.seq ?_ | refine C.region ?_ | refine R.zb ttok ?_ | refine R.zu ttok ?_ | refine R.zc ttok ?_ | refine R.za ttok ?_ | refine R.zx ?_ | refine R.zl ttok ?_ | refine R.zs ttok ?_ | refine R.z ttok ?_ | refine R.zk ?_ | refine R.zn ?_ | refine R.done ?_ | refine X.then ?_ | refine C.block ?_ | refine C.ret ?_ | refine C.skip ?_ | refine C.exit ?_ | refine X.pass_ret ?_ | refine X.pass_exit ?_ | refine X.block_normal ?_ | refine X.block_ret ?_ | refine X.block_exit ?_ | refine C.zt ?_ | refine C.zf ?_ | refine X.zo ?_)
        rw [show (!(Op.bytesLess at_.toList x.to.toList || decide (at_.toList = x.to.toList))) = true from hpa.2]
        repeat (first | refine C.seq ?_ | refine C.region ?_ | refine R.zb ttok ?_ | refine R.zu ttok ?_ | refine R.zc ttok ?_ | refine R.za ttok ?_ | refine R.zx ?_ | refine R.zl ttok ?_ | refine R.zs ttok ?_ | refine R.z ttok ?_ | refine R.zk ?_ | refine R.zn ?_ | refine R.done ?_ | refine X.then ?_ | refine C.block ?_ | refine C.ret ?_ | refine C.skip ?_ | refine C.exit ?_ | refine X.pass_ret ?_ | refine X.pass_exit ?_ | refine X.block_normal ?_ | refine X.block_ret ?_ | refine X.block_exit ?_ | refine C.zt ?_ | refine C.zf ?_ | refine X.zo ?_)
        refine X.finF ttok (ps, G) [(2, 16)] ⟨ht.pok, ht.len, ht.cov, hres⟩ rfl rfl rfl (by repeat (first | exact HasH.nil | refine HasH.same rfl rfl rfl trivial ?_ | refine HasH.same rfl rfl rfl rfl ?_ | refine HasH.same rfl rfl rfl (fun _ _ => rfl) ?_ | refine HasH.ros rfl rfl ?_)) _ (by first | exact .inl rfl | exact .inr rfl) ?_ ?_ ?_
        · exact fun w' hf => hf.ap
        · exact fun p hp => hp
        · exact cov_all ht.cov
end Go.Proofs.Yteabncomclgncaa
namespace Go.Proofs.Yteabncomclgncaa
set_option linter.unusedVariables false
set_option linter.unusedSimpArgs false
open Go.RowKit
set_option maxRecDepth 100000
set_option maxHeartbeats 8000000
theorem hd1_spec (s : PS) (mk : Bool) (key : ByteArray) (x : Int) (hs : s.ok mk) (hl : s.l.length ≤ 800000) :
    SpecF Try.prog 71 [.raw (.string key), .raw (.int .i64 x), .ptr 0 0 0 0, .ptr 1 0 0 0, .ptr 2 0 0 0, .ptr 3 0 0 0, .ptr 4 0 0 0] [.cells [.raw (.bool true)] bT, .cells [.raw (.bool true)] bT, .cells [.raw (.string key)] strT, .cells [.raw (.int .i64 x)] intT, .ro 0 0 1 (fun _ => [.raw s.r.s, .raw (.bool mk)])] 5 (rF s.r) (σ := Unit) (fun _ => True)
    (fun _ => .raw (.bool true)) (fun _ => [(0, .cells [.raw (.bool true)] bT), (1, .cells [.raw (.bool (abZ s.l mk key).2.2)] bT), (2, .cells [.raw (.string (abZ s.l mk key).1)] strT), (3, .cells [.raw (.int .i64 (abZ s.l mk key).2.1)] intT)]) (fun _ => rF s.r) := by
  refine SpecF.of Try.func71 rfl Try.ntmps71 rfl (bdl_cons rfl (bdl_cons rfl (bdl_cons rfl (bdl_cons rfl (bdl_cons (roA_bd rfl) (bdl_nil _)))))) fun ρ w => ?_
  have hrl := hs.rlen
  repeat (first | refine C.seq ?_ | refine C.region ?_ | refine R.zb ttok ?_ | refine R.zu ttok ?_ | refine R.zc ttok ?_ | refine R.za ttok ?_ | refine R.zx ?_ | refine R.zl ttok ?_ | refine R.zs ttok ?_ | refine R.z ttok ?_ | refine R.zk ?_ | refine R.zn ?_ | refine R.done ?_ | refine X.then ?_ | refine C.block ?_ | refine C.ret ?_ | refine C.skip ?_ | refine C.exit ?_ | refine X.pass_ret ?_ | refine X.pass_exit ?_ | refine X.block_normal ?_ | refine X.block_ret ?_ | refine X.block_exit ?_ | refine C.zt ?_ | refine C.zf ?_ | refine X.zo ?_)
  rw [decide_eq_true (rfl : key.toList = key.toList)]
  repeat (first | refine C.seq ?_ | refine C.region ?_ | refine R.zb ttok ?_ | refine R.zu ttok ?_ | refine R.zc ttok ?_ | refine R.za ttok ?_ | refine R.zx ?_ | refine R.zl ttok ?_ | refine R.zs ttok ?_ | refine R.z ttok ?_ | refine R.zk ?_ | refine R.zn ?_ | refine R.done ?_ | refine X.then ?_ | refine C.block ?_ | refine C.ret ?_ | refine C.skip ?_ | refine C.exit ?_ | refine X.pass_ret ?_ | refine X.pass_exit ?_ | refine X.block_normal ?_ | refine X.block_ret ?_ | refine X.block_exit ?_ | refine C.zt ?_ | refine C.zf ?_ | refine X.zo ?_)
  rw [decide_eq_true (rfl : x = x)]
  repeat (first | refine C.seq ?_ | refine C.region ?_ | refine R.zb ttok ?_ | refine R.zu ttok ?_ | refine R.zc ttok ?_ | refine R.za ttok ?_ | refine R.zx ?_ | refine R.zl ttok ?_ | refine R.zs ttok ?_ | refine R.z ttok ?_ | refine R.zk ?_ | refine R.zn ?_ | refine R.done ?_ | refine X.then ?_ | refine C.block ?_ | refine C.ret ?_ | refine C.skip ?_ | refine C.exit ?_ | refine X.pass_ret ?_ | refine X.pass_exit ?_ | refine X.block_normal ?_ | refine X.block_ret ?_ | refine X.block_exit ?_ | refine C.zt ?_ | refine C.zf ?_ | refine X.zo ?_)
  refine R.ldo (v := .agg [.raw s.r.s, .raw (.bool mk)]) ttok rfl rfl rfl rfl rfl (by kernel_rfl) Nat.one_pos ?_
  refine R.labR 25 s.r hs.rok (fun p hp => hp) rfl ?_
  repeat (first | refine C.seq ?_ | refine C.region ?_ | refine R.zb ttok ?_ | refine R.zu ttok ?_ | refine R.zc ttok ?_ | refine R.za ttok ?_ | refine R.zx ?_ | refine R.zl ttok ?_ | refine R.zs ttok ?_ | refine R.z ttok ?_ | refine R.zk ?_ | refine R.zn ?_ | refine R.done ?_ | refine X.then ?_ | refine C.block ?_ | refine C.ret ?_ | refine C.skip ?_ | refine C.exit ?_ | refine X.pass_ret ?_ | refine X.pass_exit ?_ | refine X.block_normal ?_ | refine X.block_ret ?_ | refine X.block_exit ?_ | refine C.zt ?_ | refine C.zf ?_ | refine X.zo ?_)
  refine R.cl [5] (above_specR s.r.l s.r.c mk key (by omega)) Try.call70 (by repeat (first | exact HasIn.nil | refine HasIn.same rfl rfl ?_ | refine HasIn.bro rfl ?_ | refine HasIn.ror rfl ?_ | refine HasIn.cro rfl rfl ?_)) rfl rfl rfl (fun _ => rfl) rfl (by kernel_rfl) fun _ _ => ?_
  rw [hs.above]
  repeat (first | refine C.seq ?_ | refine C.region ?_ | refine R.zb ttok ?_ | refine R.zu ttok ?_ | refine R.zc ttok ?_ | refine R.za ttok ?_ | refine R.zx ?_ | refine R.zl ttok ?_ | refine R.zs ttok ?_ | refine R.z ttok ?_ | refine R.zk ?_ | refine R.zn ?_ | refine R.done ?_ | refine X.then ?_ | refine C.block ?_ | refine C.ret ?_ | refine C.skip ?_ | refine C.exit ?_ | refine X.pass_ret ?_ | refine X.pass_exit ?_ | refine X.block_normal ?_ | refine X.block_ret ?_ | refine X.block_exit ?_ | refine C.zt ?_ | refine C.zf ?_ | refine X.zo ?_)
  refine X.finF ttok () [] trivial rfl rfl rfl (by repeat (first | exact HasH.nil | refine HasH.same rfl rfl rfl trivial ?_ | refine HasH.same rfl rfl rfl rfl ?_ | refine HasH.same rfl rfl rfl (fun _ _ => rfl) ?_ | refine HasH.ros rfl rfl ?_)) _ (by first | exact .inl rfl | exact .inr rfl) ?_ ?_ ?_
  · exact fun w' hf => hf.ap
  · exact fun p hp => hp
  · exact fun p hp e => ⟨p, hp, rfl⟩
abbrev hdFn : FuncId := 71
theorem hd_call (args : Array Value) (w : World) : (callFunc hdFn args).run Try.prog w = .ok (.enter hdFn args) w := Try.call71 args w
theorem snHd_spec (s : PS) (mk : Bool) (ab : ByteArray) (hs : s.ok mk) (hl : s.l.length ≤ 800000) :
    SpecF Try.prog 53 [.fn hdFn [.ptr 4 0 0 0, .ptr 5 0 0 0, .ptr 6 0 0 0, .ptr 7 0 0 0, .ptr 8 0 0 0], .ptr 2 0 0 0, .ptr 3 0 0 0] [tbAZ 1 s.l.length s.c ((VZ s.l).length : Nat) mk, roTZ s.l, one0 (.ptr 0 0 0 0), one0 (.raw (.string ab)), .cells [.raw (.bool true)] bT, .cells [.raw (.bool (abZ s.l mk ab).2.2)] bT, .cells [.raw (.string (abZ s.l mk ab).1)] strT, .cells [.raw (.int .i64 (abZ s.l mk ab).2.1)] intT, .ro 0 0 1 (fun _ => [.raw s.r.s, .raw (.bool mk)])] 9 (zF s.l ++ rF s.r) (σ := Unit) (fun _ => True)
    (fun _ => .tup []) (fun _ => [(4, .cells [.raw (.bool true)] bT), (5, .cells [.raw (.bool false)] bT)]) (fun _ => zF s.l ++ rF s.r) := by
  refine SpecF.of Try.func53 rfl Try.ntmps53 rfl (bdl_cons (roA_bd rfl) (bdl_cons (fun _ _ => rfl) (bdl_cons (roA_bd rfl) (bdl_cons (roA_bd rfl) (bdl_cons rfl (bdl_cons rfl (bdl_cons rfl (bdl_cons rfl (bdl_cons (roA_bd rfl) (bdl_nil _)))))))))) fun ρ w => ?_
  repeat (first | refine C.seq ?_ | refine C.region ?_ | refine R.zb ttok ?_ | refine R.zu ttok ?_ | refine R.zc ttok ?_ | refine R.za ttok ?_ | refine R.zx ?_ | refine R.zl ttok ?_ | refine R.zs ttok ?_ | refine R.z ttok ?_ | refine R.zk ?_ | refine R.zn ?_ | refine R.done ?_ | refine X.then ?_ | refine C.block ?_ | refine C.ret ?_ | refine C.skip ?_ | refine C.exit ?_ | refine X.pass_ret ?_ | refine X.pass_exit ?_ | refine X.block_normal ?_ | refine X.block_ret ?_ | refine X.block_exit ?_ | refine C.zt ?_ | refine C.zf ?_ | refine X.zo ?_)
  refine R.ldo (v := .ptr 0 0 0 0) ttok rfl rfl rfl rfl rfl (by kernel_rfl) Nat.one_pos ?_
  repeat (first | refine C.seq ?_ | refine C.region ?_ | refine R.zb ttok ?_ | refine R.zu ttok ?_ | refine R.zc ttok ?_ | refine R.za ttok ?_ | refine R.zx ?_ | refine R.zl ttok ?_ | refine R.zs ttok ?_ | refine R.z ttok ?_ | refine R.zk ?_ | refine R.zn ?_ | refine R.done ?_ | refine X.then ?_ | refine C.block ?_ | refine C.ret ?_ | refine C.skip ?_ | refine C.exit ?_ | refine X.pass_ret ?_ | refine X.pass_exit ?_ | refine X.block_normal ?_ | refine X.block_ret ?_ | refine X.block_exit ?_ | refine C.zt ?_ | refine C.zf ?_ | refine X.zo ?_)
  refine C.draw [[], [0], [0, 1], [], [0, 1, 2, 3], [0, 1, 2, 3, 4], [0, 1, 2, 3, 4, 5], [0, 1, 2, 3, 4, 5], [0, 1, 2, 3, 4, 5, 6], [0, 1, 2, 3, 4, 5, 6, 7, 8]] [4] (by kernel_rfl) (by kernel_rfl) ?_
  refine R.ldo (v := .ptr 0 0 0 0) ttok rfl rfl rfl rfl rfl (by kernel_rfl) Nat.one_pos ?_
  repeat (first | refine C.seq ?_ | refine C.region ?_ | refine R.zb ttok ?_ | refine R.zu ttok ?_ | refine R.zc ttok ?_ | refine R.za ttok ?_ | refine R.zx ?_ | refine R.zl ttok ?_ | refine R.zs ttok ?_ | refine R.z ttok ?_ | refine R.zk ?_ | refine R.zn ?_ | refine R.done ?_ | refine X.then ?_ | refine C.block ?_ | refine C.ret ?_ | refine C.skip ?_ | refine C.exit ?_ | refine X.pass_ret ?_ | refine X.pass_exit ?_ | refine X.block_normal ?_ | refine X.block_ret ?_ | refine X.block_exit ?_ | refine C.zt ?_ | refine C.zf ?_ | refine X.zo ?_)
  refine R.ldo (v := .raw (.string ab)) ttok rfl rfl rfl rfl rfl (by kernel_rfl) Nat.one_pos ?_
  refine R.cl [0, 1] (nextI_specZ s.l s.c ab hs.asc (by omega)) Try.call54 (by repeat (first | exact HasIn.nil | refine HasIn.same rfl rfl ?_ | refine HasIn.c1 rfl rfl ?_ | refine HasIn.roq rfl rfl ?_ | refine HasIn.other rfl (fun e => by cases e) (fun ρ x w hh => tab_ro hh) ?_ | refine HasIn.other rfl (fun e => by cases e) (fun ρ x w hh => tab_any hh) ?_ | refine HasIn.roAp rfl rfl ?_ | refine HasIn.other rfl (fun e => by cases e) (fun ρ x w hh => cells_any hh) ?_ | refine HasIn.other rfl (fun e => by cases e) (fun ρ x w hh => ro_any hh) ?_)) rfl rfl rfl (fun _ => rfl) rfl (by kernel_rfl) fun _ _ => ?_
  repeat (first | refine C.seq ?_ | refine C.region ?_ | refine R.zb ttok ?_ | refine R.zu ttok ?_ | refine R.zc ttok ?_ | refine R.za ttok ?_ | refine R.zx ?_ | refine R.zl ttok ?_ | refine R.zs ttok ?_ | refine R.z ttok ?_ | refine R.zk ?_ | refine R.zn ?_ | refine R.done ?_ | refine X.then ?_ | refine C.block ?_ | refine C.ret ?_ | refine C.skip ?_ | refine C.exit ?_ | refine X.pass_ret ?_ | refine X.pass_exit ?_ | refine X.block_normal ?_ | refine X.block_ret ?_ | refine X.block_exit ?_ | refine C.zt ?_ | refine C.zf ?_ | refine X.zo ?_)
  cases mk with
  | false =>
    obtain ⟨bb, hbb⟩ : ∃ bb, decide (aboveN s.l ab < s.l.length) = bb := ⟨_, rfl⟩
    rw [hbb]
    refine C.loop (σ := Unit) (L2 := 9) (fun _ => True) (fun _ => [(0, .fn hdFn [.ptr 4 0 0 0, .ptr 5 0 0 0, .ptr 6 0 0 0, .ptr 7 0 0 0, .ptr 8 0 0 0]), (1, .ptr 2 0 0 0), (2, .ptr 3 0 0 0), (4, .raw (.string (s.l.getD (aboveN s.l ab) zG).1)), (5, .raw (.bool bb))]) (fun _ => [(0, tbAZ 1 s.l.length s.c ((VZ s.l).length : Nat) false), (1, roTZ s.l), (2, one0 (.ptr 0 0 0 0)), (3, one0 (.raw (.string ab))), (4, .cells [.raw (.bool true)] bT), (5, .cells [.raw (.bool false)] bT)]) _ (fun _ => 0) [] () trivial rfl (by repeat (first | exact HasT.nil | refine HasT.cons rfl rfl rfl ?_)) (by repeat (first | exact HasH.nil | refine HasH.same rfl rfl rfl trivial ?_ | refine HasH.same rfl rfl rfl rfl ?_ | refine HasH.same rfl rfl rfl (fun _ _ => rfl) ?_)) rfl (fun _ h => h) ?_
    rintro _ _
    cases bb with
    | false =>
      repeat (first | refine C.seq ?_ | refine C.region ?_ | refine R.zb ttok ?_ | refine R.zu ttok ?_ | refine R.zc ttok ?_ | refine R.za ttok ?_ | refine R.zx ?_ | refine R.zl ttok ?_ | refine R.zs ttok ?_ | refine R.z ttok ?_ | refine R.zk ?_ | refine R.zn ?_ | refine R.done ?_ | refine X.then ?_ | refine C.block ?_ | refine C.ret ?_ | refine C.skip ?_ | refine C.exit ?_ | refine X.pass_ret ?_ | refine X.pass_exit ?_ | refine X.block_normal ?_ | refine X.block_ret ?_ | refine X.block_exit ?_ | refine C.zt ?_ | refine C.zf ?_ | refine X.zo ?_)
      refine X.finF ttok () [] trivial rfl rfl rfl (by repeat (first | exact HasH.nil | refine HasH.same rfl rfl rfl trivial ?_ | refine HasH.same rfl rfl rfl rfl ?_ | refine HasH.same rfl rfl rfl (fun _ _ => rfl) ?_ | refine HasH.ros rfl rfl ?_)) _ (by first | exact .inl rfl | exact .inr rfl) ?_ ?_ ?_
      · exact fun w' hf => hf.ap
      · exact fun p hp => hp
      · exact fun p hp e => ⟨p, hp, rfl⟩
    | true =>
      repeat (first | refine C.seq ?_ | refine C.region ?_ | refine R.zb ttok ?_ | refine R.zu ttok ?_ | refine R.zc ttok ?_ | refine R.za ttok ?_ | refine R.zx ?_ | refine R.zl ttok ?_ | refine R.zs ttok ?_ | refine R.z ttok ?_ | refine R.zk ?_ | refine R.zn ?_ | refine R.done ?_ | refine X.then ?_ | refine C.block ?_ | refine C.ret ?_ | refine C.skip ?_ | refine C.exit ?_ | refine X.pass_ret ?_ | refine X.pass_exit ?_ | refine X.block_normal ?_ | refine X.block_ret ?_ | refine X.block_exit ?_ | refine C.zt ?_ | refine C.zf ?_ | refine X.zo ?_)
      refine R.ldo (v := .ptr 0 0 0 0) ttok rfl rfl rfl rfl rfl (by kernel_rfl) Nat.one_pos ?_
      repeat (first | refine C.seq ?_ | refine C.region ?_ | refine R.zb ttok ?_ | refine R.zu ttok ?_ | refine R.zc ttok ?_ | refine R.za ttok ?_ | refine R.zx ?_ | refine R.zl ttok ?_ | refine R.zs ttok ?_ | refine R.z ttok ?_ | refine R.zk ?_ | refine R.zn ?_ | refine R.done ?_ | refine X.then ?_ | refine C.block ?_ | refine C.ret ?_ | refine C.skip ?_ | refine C.exit ?_ | refine X.pass_ret ?_ | refine X.pass_exit ?_ | refine X.block_normal ?_ | refine X.block_ret ?_ | refine X.block_exit ?_ | refine C.zt ?_ | refine C.zf ?_ | refine X.zo ?_)
      refine R.ldo (v := .raw (.bool false)) ttok rfl rfl rfl rfl rfl (by kernel_rfl) Nat.one_pos ?_
      repeat (first | refine C.seq ?_ | refine C.region ?_ | refine R.zb ttok ?_ | refine R.zu ttok ?_ | refine R.zc ttok ?_ | refine R.za ttok ?_ | refine R.zx ?_ | refine R.zl ttok ?_ | refine R.zs ttok ?_ | refine R.z ttok ?_ | refine R.zk ?_ | refine R.zn ?_ | refine R.done ?_ | refine X.then ?_ | refine C.block ?_ | refine C.ret ?_ | refine C.skip ?_ | refine C.exit ?_ | refine X.pass_ret ?_ | refine X.pass_exit ?_ | refine X.block_normal ?_ | refine X.block_ret ?_ | refine X.block_exit ?_ | refine C.zt ?_ | refine C.zf ?_ | refine X.zo ?_)
      refine X.finF ttok () [] trivial rfl rfl rfl (by repeat (first | exact HasH.nil | refine HasH.same rfl rfl rfl trivial ?_ | refine HasH.same rfl rfl rfl rfl ?_ | refine HasH.same rfl rfl rfl (fun _ _ => rfl) ?_ | refine HasH.ros rfl rfl ?_)) _ (by first | exact .inl rfl | exact .inr rfl) ?_ ?_ ?_
      · exact fun w' hf => hf.ap
      · exact fun p hp => hp
      · exact fun p hp e => ⟨p, hp, rfl⟩
  | true =>
  rw [show abZ s.l true ab = hdV (hdZ s.l (aboveN s.l ab)) from rfl]
  refine C.loop (σ := Nat) (L2 := 9) (fun j => j ≤ s.l.length) (fun j => [(0, .fn hdFn [.ptr 4 0 0 0, .ptr 5 0 0 0, .ptr 6 0 0 0, .ptr 7 0 0 0, .ptr 8 0 0 0]), (1, .ptr 2 0 0 0), (2, .ptr 3 0 0 0), (4, .raw (.string (s.l.getD j zG).1)), (5, .raw (.bool (decide (j < s.l.length))))]) (fun j => [(0, tbAZ 1 s.l.length s.c ((VZ s.l).length : Nat) true), (1, roTZ s.l), (2, one0 (.ptr 0 0 0 0)), (3, one0 (.raw (.string ab))), (4, .cells [.raw (.bool true)] bT), (5, .cells [.raw (.bool (hdV (hdZ s.l j)).2.2)] bT), (6, .cells [.raw (.string (hdV (hdZ s.l j)).1)] strT), (7, .cells [.raw (.int .i64 (hdV (hdZ s.l j)).2.1)] intT), (8, .ro 0 0 1 (fun _ => [.raw s.r.s, .raw (.bool true)]))]) _ (fun j => s.l.length - j) [] (aboveN s.l ab) (aboveN_le _ _) rfl (by repeat (first | exact HasT.nil | refine HasT.cons rfl rfl rfl ?_)) (by repeat (first | exact HasH.nil | refine HasH.same rfl rfl rfl trivial ?_ | refine HasH.same rfl rfl rfl rfl ?_ | refine HasH.same rfl rfl rfl (fun _ _ => rfl) ?_)) rfl (fun _ h => h) ?_
  rintro j hj
  repeat (first | refine C.seq ?_ | refine C.region ?_ | refine R.zb ttok ?_ | refine R.zu ttok ?_ | refine R.zc ttok ?_ | refine R.za ttok ?_ | refine R.zx ?_ | refine R.zl ttok ?_ | refine R.zs ttok ?_ | refine R.z ttok ?_ | refine R.zk ?_ | refine R.zn ?_ | refine R.done ?_ | refine X.then ?_ | refine C.block ?_ | refine C.ret ?_ | refine C.skip ?_ | refine C.exit ?_ | refine X.pass_ret ?_ | refine X.pass_exit ?_ | refine X.block_normal ?_ | refine X.block_ret ?_ | refine X.block_exit ?_ | refine C.zt ?_ | refine C.zf ?_ | refine X.zo ?_)
  by_cases hlt : j < s.l.length
  · rw [decide_eq_true hlt]
    have hst := hdZ_step hlt
    have hmem := zF_mem hlt
    have hgI : getIZ s.l (s.l.getD j zG).1 = .pointer (some ⟨(s.l.getD j zG).2.1, 0, none⟩) := by unfold getIZ; rw [if_pos (has_at hs.asc hlt), plc_at hs.asc hlt]
    have habove := above_at hs.asc hlt
    obtain ⟨⟨pk, pb, c0, c1, h0, h1, rd, wr⟩, hpp⟩ : ∃ p, s.l.getD j zG = p := ⟨_, rfl⟩
    rw [hpp] at hst hmem hgI habove ⊢
    refine R.ldo (v := .ptr 0 0 0 0) ttok rfl rfl rfl rfl rfl (by kernel_rfl) Nat.one_pos ?_
    repeat (first | refine C.seq ?_ | refine C.region ?_ | refine R.zb ttok ?_ | refine R.zu ttok ?_ | refine R.zc ttok ?_ | refine R.za ttok ?_ | refine R.zx ?_ | refine R.zl ttok ?_ | refine R.zs ttok ?_ | refine R.z ttok ?_ | refine R.zk ?_ | refine R.zn ?_ | refine R.done ?_ | refine X.then ?_ | refine C.block ?_ | refine C.ret ?_ | refine C.skip ?_ | refine C.exit ?_ | refine X.pass_ret ?_ | refine X.pass_exit ?_ | refine X.block_normal ?_ | refine X.block_ret ?_ | refine X.block_exit ?_ | refine C.zt ?_ | refine C.zf ?_ | refine X.zo ?_)
    refine R.ldo (v := .raw (.bool true)) ttok rfl rfl rfl rfl rfl (by kernel_rfl) Nat.one_pos ?_
    repeat (first | refine C.seq ?_ | refine C.region ?_ | refine R.zb ttok ?_ | refine R.zu ttok ?_ | refine R.zc ttok ?_ | refine R.za ttok ?_ | refine R.zx ?_ | refine R.zl ttok ?_ | refine R.zs ttok ?_ | refine R.z ttok ?_ | refine R.zk ?_ | refine R.zn ?_ | refine R.done ?_ | refine X.then ?_ | refine C.block ?_ | refine C.ret ?_ | refine C.skip ?_ | refine C.exit ?_ | refine X.pass_ret ?_ | refine X.pass_exit ?_ | refine X.block_normal ?_ | refine X.block_ret ?_ | refine X.block_exit ?_ | refine C.zt ?_ | refine C.zf ?_ | refine X.zo ?_)
    refine R.ldo (v := .ptr 0 0 0 0) ttok rfl rfl rfl rfl rfl (by kernel_rfl) Nat.one_pos ?_
    repeat (first | refine C.seq ?_ | refine C.region ?_ | refine R.zb ttok ?_ | refine R.zu ttok ?_ | refine R.zc ttok ?_ | refine R.za ttok ?_ | refine R.zx ?_ | refine R.zl ttok ?_ | refine R.zs ttok ?_ | refine R.z ttok ?_ | refine R.zk ?_ | refine R.zn ?_ | refine R.done ?_ | refine X.then ?_ | refine C.block ?_ | refine C.ret ?_ | refine C.skip ?_ | refine C.exit ?_ | refine X.pass_ret ?_ | refine X.pass_exit ?_ | refine X.block_normal ?_ | refine X.block_ret ?_ | refine X.block_exit ?_ | refine C.zt ?_ | refine C.zf ?_ | refine X.zo ?_)
    refine R.cl [0, 1] (getI_specZ s.l s.c pk hs.asc (by omega)) Try.call52 (by repeat (first | exact HasIn.nil | refine HasIn.same rfl rfl ?_ | refine HasIn.c1 rfl rfl ?_ | refine HasIn.roq rfl rfl ?_ | refine HasIn.other rfl (fun e => by cases e) (fun ρ x w hh => tab_ro hh) ?_ | refine HasIn.other rfl (fun e => by cases e) (fun ρ x w hh => tab_any hh) ?_ | refine HasIn.roAp rfl rfl ?_ | refine HasIn.other rfl (fun e => by cases e) (fun ρ x w hh => cells_any hh) ?_ | refine HasIn.other rfl (fun e => by cases e) (fun ρ x w hh => ro_any hh) ?_)) rfl rfl rfl (fun _ => rfl) rfl (by kernel_rfl) fun _ _ => ?_
    rw [hgI]
    repeat (first | refine R.zb ttok ?_ | refine R.zu ttok ?_ | refine R.zc ttok ?_ | refine R.za ttok ?_ | refine R.zx ?_ | refine R.zl ttok ?_ | refine R.zs ttok ?_ | refine R.z ttok ?_ | refine R.zk ?_ | refine R.zn ?_)
    refine R.done ?_
    refine X.then ?_
    refine C.labZ 6 (pk, pb, ⟨c0, c1, h0, h1, rd, wr⟩) (List.mem_append_left _ hmem) rfl ?_
    cases wr with
    | false =>
      repeat (first | refine C.seq ?_ | refine C.region ?_ | refine R.zb ttok ?_ | refine R.zu ttok ?_ | refine R.zc ttok ?_ | refine R.za ttok ?_ | refine R.zx ?_ | refine R.zl ttok ?_ | refine R.zs ttok ?_ | refine R.z ttok ?_ | refine R.zk ?_ | refine R.zn ?_ | refine R.done ?_ | refine X.then ?_ | refine C.block ?_ | refine C.ret ?_ | refine C.skip ?_ | refine C.exit ?_ | refine X.pass_ret ?_ | refine X.pass_exit ?_ | refine X.block_normal ?_ | refine X.block_ret ?_ | refine X.block_exit ?_ | refine C.zt ?_ | refine C.zf ?_ | refine X.zo ?_)
      refine R.ldo (v := .raw (.int .i64 (b01 false))) ttok rfl rfl rfl rfl rfl (by kernel_rfl) Nat.one_pos ?_
      repeat (first | refine C.seq ?_ | refine C.region ?_ | refine R.zb ttok ?_ | refine R.zu ttok ?_ | refine R.zc ttok ?_ | refine R.za ttok ?_ | refine R.zx ?_ | refine R.zl ttok ?_ | refine R.zs ttok ?_ | refine R.z ttok ?_ | refine R.zk ?_ | refine R.zn ?_ | refine R.done ?_ | refine X.then ?_ | refine C.block ?_ | refine C.ret ?_ | refine C.skip ?_ | refine C.exit ?_ | refine X.pass_ret ?_ | refine X.pass_exit ?_ | refine X.block_normal ?_ | refine X.block_ret ?_ | refine X.block_exit ?_ | refine C.zt ?_ | refine C.zf ?_ | refine X.zo ?_)
      refine R.cl [9] (read_specZ ⟨c0, c1, h0, h1, rd, false⟩ true) Try.call50 (by repeat (first | exact HasIn.nil | refine HasIn.same rfl rfl ?_ | refine HasIn.bro rfl ?_ | refine HasIn.ror rfl ?_ | refine HasIn.cro rfl rfl ?_)) rfl rfl rfl (fun _ => rfl) rfl (by kernel_rfl) fun _ _ => ?_
      cases h1 with
      | false =>
        have hst : hdZ s.l j = hdZ s.l (j + 1) := hst
        rw [hst]
        repeat (first | refine C.seq ?_ | refine C.region ?_ | refine R.zb ttok ?_ | refine R.zu ttok ?_ | refine R.zc ttok ?_ | refine R.za ttok ?_ | refine R.zx ?_ | refine R.zl ttok ?_ | refine R.zs ttok ?_ | refine R.z ttok ?_ | refine R.zk ?_ | refine R.zn ?_ | refine R.done ?_ | refine X.then ?_ | refine C.block ?_ | refine C.ret ?_ | refine C.skip ?_ | refine C.exit ?_ | refine X.pass_ret ?_ | refine X.pass_exit ?_ | refine X.block_normal ?_ | refine X.block_ret ?_ | refine X.block_exit ?_ | refine C.zt ?_ | refine C.zf ?_ | refine X.zo ?_)
        refine R.ldo (v := .ptr 0 0 0 0) ttok rfl rfl rfl rfl rfl (by kernel_rfl) Nat.one_pos ?_
        repeat (first | refine C.seq ?_ | refine C.region ?_ | refine R.zb ttok ?_ | refine R.zu ttok ?_ | refine R.zc ttok ?_ | refine R.za ttok ?_ | refine R.zx ?_ | refine R.zl ttok ?_ | refine R.zs ttok ?_ | refine R.z ttok ?_ | refine R.zk ?_ | refine R.zn ?_ | refine R.done ?_ | refine X.then ?_ | refine C.block ?_ | refine C.ret ?_ | refine C.skip ?_ | refine C.exit ?_ | refine X.pass_ret ?_ | refine X.pass_exit ?_ | refine X.block_normal ?_ | refine X.block_ret ?_ | refine X.block_exit ?_ | refine C.zt ?_ | refine C.zf ?_ | refine X.zo ?_)
        refine R.cl [0, 1] (nextI_specZ s.l s.c pk hs.asc (by omega)) Try.call54 (by repeat (first | exact HasIn.nil | refine HasIn.same rfl rfl ?_ | refine HasIn.c1 rfl rfl ?_ | refine HasIn.roq rfl rfl ?_ | refine HasIn.other rfl (fun e => by cases e) (fun ρ x w hh => tab_ro hh) ?_ | refine HasIn.other rfl (fun e => by cases e) (fun ρ x w hh => tab_any hh) ?_ | refine HasIn.roAp rfl rfl ?_ | refine HasIn.other rfl (fun e => by cases e) (fun ρ x w hh => cells_any hh) ?_ | refine HasIn.other rfl (fun e => by cases e) (fun ρ x w hh => ro_any hh) ?_)) rfl rfl rfl (fun _ => rfl) rfl (by kernel_rfl) fun _ _ => ?_
        rw [habove]
        repeat (first | refine C.seq ?_ | refine C.region ?_ | refine R.zb ttok ?_ | refine R.zu ttok ?_ | refine R.zc ttok ?_ | refine R.za ttok ?_ | refine R.zx ?_ | refine R.zl ttok ?_ | refine R.zs ttok ?_ | refine R.z ttok ?_ | refine R.zk ?_ | refine R.zn ?_ | refine R.done ?_ | refine X.then ?_ | refine C.block ?_ | refine C.ret ?_ | refine C.skip ?_ | refine C.exit ?_ | refine X.pass_ret ?_ | refine X.pass_exit ?_ | refine X.block_normal ?_ | refine X.block_ret ?_ | refine X.block_exit ?_ | refine C.zt ?_ | refine C.zf ?_ | refine X.zo ?_)
        exact X.back [] (j + 1) hlt (by omega) rfl (by repeat (first | exact HasT.nil | refine HasT.cons rfl rfl rfl ?_)) (by repeat (first | exact HasH.nil | refine HasH.same rfl rfl rfl trivial ?_ | refine HasH.same rfl rfl rfl rfl ?_ | refine HasH.same rfl rfl rfl (fun _ _ => rfl) ?_)) rfl (fun _ h => h)
      | true =>
        have hst : hdZ s.l j = some (pk, pb, _) := hst
        rw [hst]
        have hab : abZ s.l true pk = hdV (hdZ s.l (j + 1)) := by show hdV (hdZ s.l (aboveN s.l pk)) = _; rw [habove]
        repeat (first | refine C.seq ?_ | refine C.region ?_ | refine R.zb ttok ?_ | refine R.zu ttok ?_ | refine R.zc ttok ?_ | refine R.za ttok ?_ | refine R.zx ?_ | refine R.zl ttok ?_ | refine R.zs ttok ?_ | refine R.z ttok ?_ | refine R.zk ?_ | refine R.zn ?_ | refine R.done ?_ | refine X.then ?_ | refine C.block ?_ | refine C.ret ?_ | refine C.skip ?_ | refine C.exit ?_ | refine X.pass_ret ?_ | refine X.pass_exit ?_ | refine X.block_normal ?_ | refine X.block_ret ?_ | refine X.block_exit ?_ | refine C.zt ?_ | refine C.zf ?_ | refine X.zo ?_)
        refine R.drop 9 ?_
        refine R.clE [4, 5, 6, 7, 8] (hd1_spec s true pk c1 hs hl) (zF s.l) List.perm_append_comm (Nat.le_refl _) (fun _ _ => rfl) hd_call (by repeat (first | exact HasIn.nil | refine HasIn.same rfl rfl ?_ | refine HasIn.c1 rfl rfl ?_ | refine HasIn.roq rfl rfl ?_ | refine HasIn.other rfl (fun e => by cases e) (fun ρ x w hh => tab_ro hh) ?_ | refine HasIn.other rfl (fun e => by cases e) (fun ρ x w hh => tab_any hh) ?_ | refine HasIn.roAp rfl rfl ?_ | refine HasIn.other rfl (fun e => by cases e) (fun ρ x w hh => cells_any hh) ?_ | refine HasIn.other rfl (fun e => by cases e) (fun ρ x w hh => ro_any hh) ?_)) rfl rfl rfl (fun _ => rfl) rfl (by kernel_rfl) fun _ _ => ?_
        rw [hab]
        refine R.fperm List.perm_append_comm ?_
        repeat (first | refine C.seq ?_ | refine C.region ?_ | refine R.zb ttok ?_ | refine R.zu ttok ?_ | refine R.zc ttok ?_ | refine R.za ttok ?_ | refine R.zx ?_ | refine R.zl ttok ?_ | refine R.zs ttok ?_ | refine R.z ttok ?_ | refine R.zk ?_ | refine R.zn ?_ | refine R.done ?_ | refine X.then ?_ | refine C.block ?_ | refine C.ret ?_ | refine C.skip ?_ | refine C.exit ?_ | refine X.pass_ret ?_ | refine X.pass_exit ?_ | refine X.block_normal ?_ | refine X.block_ret ?_ | refine X.block_exit ?_ | refine C.zt ?_ | refine C.zf ?_ | refine X.zo ?_)
        refine R.ldo (v := .ptr 0 0 0 0) ttok rfl rfl rfl rfl rfl (by kernel_rfl) Nat.one_pos ?_
        repeat (first | refine C.seq ?_ | refine C.region ?_ | refine R.zb ttok ?_ | refine R.zu ttok ?_ | refine R.zc ttok ?_ | refine R.za ttok ?_ | refine R.zx ?_ | refine R.zl ttok ?_ | refine R.zs ttok ?_ | refine R.z ttok ?_ | refine R.zk ?_ | refine R.zn ?_ | refine R.done ?_ | refine X.then ?_ | refine C.block ?_ | refine C.ret ?_ | refine C.skip ?_ | refine C.exit ?_ | refine X.pass_ret ?_ | refine X.pass_exit ?_ | refine X.block_normal ?_ | refine X.block_ret ?_ | refine X.block_exit ?_ | refine C.zt ?_ | refine C.zf ?_ | refine X.zo ?_)
        refine R.cl [0, 1] (nextI_specZ s.l s.c pk hs.asc (by omega)) Try.call54 (by repeat (first | exact HasIn.nil | refine HasIn.same rfl rfl ?_ | refine HasIn.c1 rfl rfl ?_ | refine HasIn.roq rfl rfl ?_ | refine HasIn.other rfl (fun e => by cases e) (fun ρ x w hh => tab_ro hh) ?_ | refine HasIn.other rfl (fun e => by cases e) (fun ρ x w hh => tab_any hh) ?_ | refine HasIn.roAp rfl rfl ?_ | refine HasIn.other rfl (fun e => by cases e) (fun ρ x w hh => cells_any hh) ?_ | refine HasIn.other rfl (fun e => by cases e) (fun ρ x w hh => ro_any hh) ?_)) rfl rfl rfl (fun _ => rfl) rfl (by kernel_rfl) fun _ _ => ?_
        rw [habove]
        repeat (first | refine C.seq ?_ | refine C.region ?_ | refine R.zb ttok ?_ | refine R.zu ttok ?_ | refine R.zc ttok ?_ | refine R.za ttok ?_ | refine R.zx ?_ | refine R.zl ttok ?_ | refine R.zs ttok ?_ | refine R.z ttok ?_ | refine R.zk ?_ | refine R.zn ?_ | refine R.done ?_ | refine X.then ?_ | refine C.block ?_ | refine C.ret ?_ | refine C.skip ?_ | refine C.exit ?_ | refine X.pass_ret ?_ | refine X.pass_exit ?_ | refine X.block_normal ?_ | refine X.block_ret ?_ | refine X.block_exit ?_ | refine C.zt ?_ | refine C.zf ?_ | refine X.zo ?_)
        exact X.back [] (j + 1) hlt (by omega) rfl (by repeat (first | exact HasT.nil | refine HasT.cons rfl rfl rfl ?_)) (by repeat (first | exact HasH.nil | refine HasH.same rfl rfl rfl trivial ?_ | refine HasH.same rfl rfl rfl rfl ?_ | refine HasH.same rfl rfl rfl (fun _ _ => rfl) ?_)) rfl (fun _ h => h)
    | true =>
      repeat (first | refine C.seq ?_ | refine C.region ?_ | refine R.zb ttok ?_ | refine R.zu ttok ?_ | refine R.zc ttok ?_ | refine R.za ttok ?_ | refine R.zx ?_ | refine R.zl ttok ?_ | refine R.zs ttok ?_ | refine R.z ttok ?_ | refine R.zk ?_ | refine R.zn ?_ | refine R.done ?_ | refine X.then ?_ | refine C.block ?_ | refine C.ret ?_ | refine C.skip ?_ | refine C.exit ?_ | refine X.pass_ret ?_ | refine X.pass_exit ?_ | refine X.block_normal ?_ | refine X.block_ret ?_ | refine X.block_exit ?_ | refine C.zt ?_ | refine C.zf ?_ | refine X.zo ?_)
      refine R.ldo (v := .raw (.int .i64 (b01 true))) ttok rfl rfl rfl rfl rfl (by kernel_rfl) Nat.one_pos ?_
      repeat (first | refine C.seq ?_ | refine C.region ?_ | refine R.zb ttok ?_ | refine R.zu ttok ?_ | refine R.zc ttok ?_ | refine R.za ttok ?_ | refine R.zx ?_ | refine R.zl ttok ?_ | refine R.zs ttok ?_ | refine R.z ttok ?_ | refine R.zk ?_ | refine R.zn ?_ | refine R.done ?_ | refine X.then ?_ | refine C.block ?_ | refine C.ret ?_ | refine C.skip ?_ | refine C.exit ?_ | refine X.pass_ret ?_ | refine X.pass_exit ?_ | refine X.block_normal ?_ | refine X.block_ret ?_ | refine X.block_exit ?_ | refine C.zt ?_ | refine C.zf ?_ | refine X.zo ?_)
      refine R.cl [9] (read_specZ ⟨c0, c1, h0, h1, rd, true⟩ false) Try.call50 (by repeat (first | exact HasIn.nil | refine HasIn.same rfl rfl ?_ | refine HasIn.bro rfl ?_ | refine HasIn.ror rfl ?_ | refine HasIn.cro rfl rfl ?_)) rfl rfl rfl (fun _ => rfl) rfl (by kernel_rfl) fun _ _ => ?_
      cases h0 with
      | false =>
        have hst : hdZ s.l j = hdZ s.l (j + 1) := hst
        rw [hst]
        repeat (first | refine C.seq ?_ | refine C.region ?_ | refine R.zb ttok ?_ | refine R.zu ttok ?_ | refine R.zc ttok ?_ | refine R.za ttok ?_ | refine R.zx ?_ | refine R.zl ttok ?_ | refine R.zs ttok ?_ | refine R.z ttok ?_ | refine R.zk ?_ | refine R.zn ?_ | refine R.done ?_ | refine X.then ?_ | refine C.block ?_ | refine C.ret ?_ | refine C.skip ?_ | refine C.exit ?_ | refine X.pass_ret ?_ | refine X.pass_exit ?_ | refine X.block_normal ?_ | refine X.block_ret ?_ | refine X.block_exit ?_ | refine C.zt ?_ | refine C.zf ?_ | refine X.zo ?_)
        refine R.ldo (v := .ptr 0 0 0 0) ttok rfl rfl rfl rfl rfl (by kernel_rfl) Nat.one_pos ?_
        repeat (first | refine C.seq ?_ | refine C.region ?_ | refine R.zb ttok ?_ | refine R.zu ttok ?_ | refine R.zc ttok ?_ | refine R.za ttok ?_ | refine R.zx ?_ | refine R.zl ttok ?_ | refine R.zs ttok ?_ | refine R.z ttok ?_ | refine R.zk ?_ | refine R.zn ?_ | refine R.done ?_ | refine X.then ?_ | refine C.block ?_ | refine C.ret ?_ | refine C.skip ?_ | refine C.exit ?_ | refine X.pass_ret ?_ | refine X.pass_exit ?_ | refine X.block_normal ?_ | refine X.block_ret ?_ | refine X.block_exit ?_ | refine C.zt ?_ | refine C.zf ?_ | refine X.zo ?_)
        refine R.cl [0, 1] (nextI_specZ s.l s.c pk hs.asc (by omega)) Try.call54 (by repeat (first | exact HasIn.nil | refine HasIn.same rfl rfl ?_ | refine HasIn.c1 rfl rfl ?_ | refine HasIn.roq rfl rfl ?_ | refine HasIn.other rfl (fun e => by cases e) (fun ρ x w hh => tab_ro hh) ?_ | refine HasIn.other rfl (fun e => by cases e) (fun ρ x w hh => tab_any hh) ?_ | refine HasIn.roAp rfl rfl ?_ | refine HasIn.other rfl (fun e => by cases e) (fun ρ x w hh => cells_any hh) ?_ | refine HasIn.other rfl (fun e => by cases e) (fun ρ x w hh => ro_any hh) ?_)) rfl rfl rfl (fun _ => rfl) rfl (by kernel_rfl) fun _ _ => ?_
        rw [habove]
        repeat (first | refine C.seq ?_ | refine C.region ?_ | refine R.zb ttok ?_ | refine R.zu ttok ?_ | refine R.zc ttok ?_ | refine R.za ttok ?_ | refine R.zx ?_ | refine R.zl ttok ?_ | refine R.zs ttok ?_ | refine R.z ttok ?_ | refine R.zk ?_ | refine R.zn ?_ | refine R.done ?_ | refine X.then ?_ | refine C.block ?_ | refine C.ret ?_ | refine C.skip ?_ | refine C.exit ?_ | refine X.pass_ret ?_ | refine X.pass_exit ?_ | refine X.block_normal ?_ | refine X.block_ret ?_ | refine X.block_exit ?_ | refine C.zt ?_ | refine C.zf ?_ | refine X.zo ?_)
        exact X.back [] (j + 1) hlt (by omega) rfl (by repeat (first | exact HasT.nil | refine HasT.cons rfl rfl rfl ?_)) (by repeat (first | exact HasH.nil | refine HasH.same rfl rfl rfl trivial ?_ | refine HasH.same rfl rfl rfl rfl ?_ | refine HasH.same rfl rfl rfl (fun _ _ => rfl) ?_)) rfl (fun _ h => h)
      | true =>
        have hst : hdZ s.l j = some (pk, pb, _) := hst
        rw [hst]
        have hab : abZ s.l true pk = hdV (hdZ s.l (j + 1)) := by show hdV (hdZ s.l (aboveN s.l pk)) = _; rw [habove]
        repeat (first | refine C.seq ?_ | refine C.region ?_ | refine R.zb ttok ?_ | refine R.zu ttok ?_ | refine R.zc ttok ?_ | refine R.za ttok ?_ | refine R.zx ?_ | refine R.zl ttok ?_ | refine R.zs ttok ?_ | refine R.z ttok ?_ | refine R.zk ?_ | refine R.zn ?_ | refine R.done ?_ | refine X.then ?_ | refine C.block ?_ | refine C.ret ?_ | refine C.skip ?_ | refine C.exit ?_ | refine X.pass_ret ?_ | refine X.pass_exit ?_ | refine X.block_normal ?_ | refine X.block_ret ?_ | refine X.block_exit ?_ | refine C.zt ?_ | refine C.zf ?_ | refine X.zo ?_)
        refine R.drop 9 ?_
        refine R.clE [4, 5, 6, 7, 8] (hd1_spec s true pk c0 hs hl) (zF s.l) List.perm_append_comm (Nat.le_refl _) (fun _ _ => rfl) hd_call (by repeat (first | exact HasIn.nil | refine HasIn.same rfl rfl ?_ | refine HasIn.c1 rfl rfl ?_ | refine HasIn.roq rfl rfl ?_ | refine HasIn.other rfl (fun e => by cases e) (fun ρ x w hh => tab_ro hh) ?_ | refine HasIn.other rfl (fun e => by cases e) (fun ρ x w hh => tab_any hh) ?_ | refine HasIn.roAp rfl rfl ?_ | refine HasIn.other rfl (fun e => by cases e) (fun ρ x w hh => cells_any hh) ?_ | refine HasIn.other rfl (fun e => by cases e) (fun ρ x w hh => ro_any hh) ?_)) rfl rfl rfl (fun _ => rfl) rfl (by kernel_rfl) fun _ _ => ?_
        rw [hab]
        refine R.fperm List.perm_append_comm ?_
        repeat (first | refine C.seq ?_ | refine C.region ?_ | refine R.zb ttok ?_ | refine R.zu ttok ?_ | refine R.zc ttok ?_ | refine R.za ttok ?_ | refine R.zx ?_ | refine R.zl ttok ?_ | refine R.zs ttok ?_ | refine R.z ttok ?_ | refine R.zk ?_ | refine R.zn ?_ | refine R.done ?_ | refine X.then ?_ | refine C.block ?_ | refine C.ret ?_ | refine C.skip ?_ | refine C.exit ?_ | refine X.pass_ret ?_ | refine X.pass_exit ?_ | refine X.block_normal ?_ | refine X.block_ret ?_ | refine X.block_exit ?_ | refine C.zt ?_ | refine C.zf ?_ | refine X.zo ?_)
        refine R.ldo (v := .ptr 0 0 0 0) ttok rfl rfl rfl rfl rfl (by kernel_rfl) Nat.one_pos ?_
        repeat (first | refine C.seq ?_ | refine C.region ?_ | refine R.zb ttok ?_ | refine R.zu ttok ?_ | refine R.zc ttok ?_ | refine R.za ttok ?_ | refine R.zx ?_ | refine R.zl ttok ?_ | refine R.zs ttok ?_ | refine R.z ttok ?_ | refine R.zk ?_ | refine R.zn ?_ | refine R.done ?_ | refine X.then ?_ | refine C.block ?_ | refine C.ret ?_ | refine C.skip ?_ | refine C.exit ?_ | refine X.pass_ret ?_ | refine X.pass_exit ?_ | refine X.block_normal ?_ | refine X.block_ret ?_ | refine X.block_exit ?_ | refine C.zt ?_ | refine C.zf ?_ | refine X.zo ?_)
        refine R.cl [0, 1] (nextI_specZ s.l s.c pk hs.asc (by omega)) Try.call54 (by repeat (first | exact HasIn.nil | refine HasIn.same rfl rfl ?_ | refine HasIn.c1 rfl rfl ?_ | refine HasIn.roq rfl rfl ?_ | refine HasIn.other rfl (fun e => by cases e) (fun ρ x w hh => tab_ro hh) ?_ | refine HasIn.other rfl (fun e => by cases e) (fun ρ x w hh => tab_any hh) ?_ | refine HasIn.roAp rfl rfl ?_ | refine HasIn.other rfl (fun e => by cases e) (fun ρ x w hh => cells_any hh) ?_ | refine HasIn.other rfl (fun e => by cases e) (fun ρ x w hh => ro_any hh) ?_)) rfl rfl rfl (fun _ => rfl) rfl (by kernel_rfl) fun _ _ => ?_
        rw [habove]
        repeat (first | refine C.seq ?_ | refine C.region ?_ | refine R.zb ttok ?_ | refine R.zu ttok ?_ | refine R.zc ttok ?_ | refine R.za ttok ?_ | refine R.zx ?_ | refine R.zl ttok ?_ | refine R.zs ttok ?_ | refine R.z ttok ?_ | refine R.zk ?_ | refine R.zn ?_ | refine R.done ?_ | refine X.then ?_ | refine C.block ?_ | refine C.ret ?_ | refine C.skip ?_ | refine C.exit ?_ | refine X.pass_ret ?_ | refine X.pass_exit ?_ | refine X.block_normal ?_ | refine X.block_ret ?_ | refine X.block_exit ?_ | refine C.zt ?_ | refine C.zf ?_ | refine X.zo ?_)
        exact X.back [] (j + 1) hlt (by omega) rfl (by repeat (first | exact HasT.nil | refine HasT.cons rfl rfl rfl ?_)) (by repeat (first | exact HasH.nil | refine HasH.same rfl rfl rfl trivial ?_ | refine HasH.same rfl rfl rfl rfl ?_ | refine HasH.same rfl rfl rfl (fun _ _ => rfl) ?_)) rfl (fun _ h => h)
  · rw [decide_eq_false hlt]
    obtain rfl : j = s.l.length := by omega
    rw [hdZ_end (Nat.le_refl _)]
    repeat (first | refine C.seq ?_ | refine C.region ?_ | refine R.zb ttok ?_ | refine R.zu ttok ?_ | refine R.zc ttok ?_ | refine R.za ttok ?_ | refine R.zx ?_ | refine R.zl ttok ?_ | refine R.zs ttok ?_ | refine R.z ttok ?_ | refine R.zk ?_ | refine R.zn ?_ | refine R.done ?_ | refine X.then ?_ | refine C.block ?_ | refine C.ret ?_ | refine C.skip ?_ | refine C.exit ?_ | refine X.pass_ret ?_ | refine X.pass_exit ?_ | refine X.block_normal ?_ | refine X.block_ret ?_ | refine X.block_exit ?_ | refine C.zt ?_ | refine C.zf ?_ | refine X.zo ?_)
    refine X.finF ttok () [] trivial rfl rfl rfl (by repeat (first | exact HasH.nil | refine HasH.same rfl rfl rfl trivial ?_ | refine HasH.same rfl rfl rfl rfl ?_ | refine HasH.same rfl rfl rfl (fun _ _ => rfl) ?_ | refine HasH.ros rfl rfl ?_)) _ (by first | exact .inl rfl | exact .inr rfl) ?_ ?_ ?_
    · exact fun w' hf => hf.ap
    · exact fun p hp => hp
    · exact fun p hp e => ⟨p, hp, rfl⟩
theorem held_spec (s : PS) (mk : Bool) (ab : ByteArray) (hs : s.ok mk) (hl : s.l.length ≤ 800000) :
    SpecF Try.prog 34 [.ptr 0 0 0 0, s.r.v mk, .raw (.string ab)] [tbAZ 1 s.l.length s.c ((VZ s.l).length : Nat) mk, roTZ s.l] 2 (zF s.l ++ rF s.r) (σ := Unit) (fun _ => True)
    (fun _ => .raw (.bool true)) (fun _ => []) (fun _ => zF s.l ++ rF s.r) := by
  refine SpecF.of Try.func34 rfl Try.ntmps34 rfl (bdl_cons (roA_bd rfl) (bdl_cons (fun _ _ => rfl) (bdl_nil _))) fun ρ w => ?_
  have hrl := hs.rlen
  repeat (first | refine C.seq ?_ | refine C.region ?_ | refine R.zb ttok ?_ | refine R.zu ttok ?_ | refine R.zc ttok ?_ | refine R.za ttok ?_ | refine R.zx ?_ | refine R.zl ttok ?_ | refine R.zs ttok ?_ | refine R.z ttok ?_ | refine R.zk ?_ | refine R.zn ?_ | refine R.done ?_ | refine X.then ?_ | refine C.block ?_ | refine C.ret ?_ | refine C.skip ?_ | refine C.exit ?_ | refine X.pass_ret ?_ | refine X.pass_exit ?_ | refine X.block_normal ?_ | refine X.block_ret ?_ | refine X.block_exit ?_ | refine C.zt ?_ | refine C.zf ?_ | refine X.zo ?_)
  refine R.labR 12 s.r hs.rok (fun p hp => List.mem_append_right _ hp) rfl ?_
  repeat (first | refine C.seq ?_ | refine C.region ?_ | refine R.zb ttok ?_ | refine R.zu ttok ?_ | refine R.zc ttok ?_ | refine R.za ttok ?_ | refine R.zx ?_ | refine R.zl ttok ?_ | refine R.zs ttok ?_ | refine R.z ttok ?_ | refine R.zk ?_ | refine R.zn ?_ | refine R.done ?_ | refine X.then ?_ | refine C.block ?_ | refine C.ret ?_ | refine C.skip ?_ | refine C.exit ?_ | refine X.pass_ret ?_ | refine X.pass_exit ?_ | refine X.block_normal ?_ | refine X.block_ret ?_ | refine X.block_exit ?_ | refine C.zt ?_ | refine C.zf ?_ | refine X.zo ?_)
  refine R.cl [3] (above_specR s.r.l s.r.c mk ab (by omega)) Try.call70 (by repeat (first | exact HasIn.nil | refine HasIn.same rfl rfl ?_ | refine HasIn.bro rfl ?_ | refine HasIn.ror rfl ?_ | refine HasIn.cro rfl rfl ?_)) rfl rfl rfl (fun _ => rfl) rfl (by kernel_rfl) fun _ _ => ?_
  rw [hs.above]
  refine R.drop 3 ?_
  repeat (first | refine C.seq ?_ | refine C.region ?_ | refine R.zb ttok ?_ | refine R.zu ttok ?_ | refine R.zc ttok ?_ | refine R.za ttok ?_ | refine R.zx ?_ | refine R.zl ttok ?_ | refine R.zs ttok ?_ | refine R.z ttok ?_ | refine R.zk ?_ | refine R.zn ?_ | refine R.done ?_ | refine X.then ?_ | refine C.block ?_ | refine C.ret ?_ | refine C.skip ?_ | refine C.exit ?_ | refine X.pass_ret ?_ | refine X.pass_exit ?_ | refine X.block_normal ?_ | refine X.block_ret ?_ | refine X.block_exit ?_ | refine C.zt ?_ | refine C.zf ?_ | refine X.zo ?_)
  refine R.cl [0] (snap_specZ ab) Try.call24 (by repeat (first | exact HasIn.nil | refine HasIn.same rfl rfl ?_ | refine HasIn.c1 rfl rfl ?_ | refine HasIn.roq rfl rfl ?_ | refine HasIn.other rfl (fun e => by cases e) (fun ρ x w hh => tab_ro hh) ?_ | refine HasIn.other rfl (fun e => by cases e) (fun ρ x w hh => tab_any hh) ?_ | refine HasIn.roAp rfl rfl ?_ | refine HasIn.other rfl (fun e => by cases e) (fun ρ x w hh => cells_any hh) ?_ | refine HasIn.other rfl (fun e => by cases e) (fun ρ x w hh => ro_any hh) ?_)) rfl rfl rfl (fun _ => rfl) rfl (by kernel_rfl) fun _ _ => ?_
  repeat (first | refine C.seq ?_ | refine C.region ?_ | refine R.zb ttok ?_ | refine R.zu ttok ?_ | refine R.zc ttok ?_ | refine R.za ttok ?_ | refine R.zx ?_ | refine R.zl ttok ?_ | refine R.zs ttok ?_ | refine R.z ttok ?_ | refine R.zk ?_ | refine R.zn ?_ | refine R.done ?_ | refine X.then ?_ | refine C.block ?_ | refine C.ret ?_ | refine C.skip ?_ | refine C.exit ?_ | refine X.pass_ret ?_ | refine X.pass_exit ?_ | refine X.block_normal ?_ | refine X.block_ret ?_ | refine X.block_exit ?_ | refine C.zt ?_ | refine C.zf ?_ | refine X.zo ?_)
  refine R.clE [0, 1, 8, 9, 7, 6, 4, 5, 2] (snHd_spec s mk ab hs hl) (([] : Fam)) ((by rw [List.append_nil])) (Nat.le_refl _) (fun _ _ => rfl) Try.call53 (by repeat (first | exact HasIn.nil | refine HasIn.same rfl rfl ?_ | refine HasIn.c1 rfl rfl ?_ | refine HasIn.roq rfl rfl ?_ | refine HasIn.other rfl (fun e => by cases e) (fun ρ x w hh => tab_ro hh) ?_ | refine HasIn.other rfl (fun e => by cases e) (fun ρ x w hh => tab_any hh) ?_ | refine HasIn.roAp rfl rfl ?_ | refine HasIn.other rfl (fun e => by cases e) (fun ρ x w hh => cells_any hh) ?_ | refine HasIn.other rfl (fun e => by cases e) (fun ρ x w hh => ro_any hh) ?_)) rfl rfl rfl (fun _ => rfl) rfl (by kernel_rfl) fun _ _ => ?_
  refine R.fperm (fs2 := zF s.l ++ rF s.r) (by rw [List.append_nil]) ?_
  repeat (first | refine C.seq ?_ | refine C.region ?_ | refine R.zb ttok ?_ | refine R.zu ttok ?_ | refine R.zc ttok ?_ | refine R.za ttok ?_ | refine R.zx ?_ | refine R.zl ttok ?_ | refine R.zs ttok ?_ | refine R.z ttok ?_ | refine R.zk ?_ | refine R.zn ?_ | refine R.done ?_ | refine X.then ?_ | refine C.block ?_ | refine C.ret ?_ | refine C.skip ?_ | refine C.exit ?_ | refine X.pass_ret ?_ | refine X.pass_exit ?_ | refine X.block_normal ?_ | refine X.block_ret ?_ | refine X.block_exit ?_ | refine C.zt ?_ | refine C.zf ?_ | refine X.zo ?_)
  refine X.finF ttok () [] trivial rfl rfl rfl (by repeat (first | exact HasH.nil | refine HasH.same rfl rfl rfl trivial ?_ | refine HasH.same rfl rfl rfl rfl ?_ | refine HasH.same rfl rfl rfl (fun _ _ => rfl) ?_ | refine HasH.ros rfl rfl ?_)) _ (by first | exact .inl rfl | exact .inr rfl) ?_ ?_ ?_
  · exact fun w' hf => hf.ap
  · exact fun p hp => hp
  · exact fun p hp e => ⟨p, hp, rfl⟩
end Go.Proofs.Yteabncomclgncaa
namespace Go.Proofs.Yteabncomclgncaa
set_option linter.unusedVariables false
set_option linter.unusedSimpArgs false
open Go.RowKit
set_option maxRecDepth 100000
set_option maxHeartbeats 8000000
abbrev shF : FuncId := 89
theorem sh_call (args : Array Value) (w : World) : (callFunc shF args).run Try.prog w = .ok (.enter shF args) w := Try.call89 args w
theorem sh1_spec (s : PS) (mk : Bool) (x : StZ) (k : ByteArray) (v : Int) (n : Nat) (hs : s.ok mk) (hl : s.l.length ≤ 800000) (hn : n ≤ 100000) :
    SpecF Try.prog 89 [.raw (.string k), .raw (.int .i64 v), .ptr 2 0 0 0, .ptr 3 0 0 0, .ptr 4 0 0 0, .ptr 5 0 0 0, .ptr 6 0 0 0, .ptr 7 0 0 0, .ptr 8 0 0 0, .ptr 9 0 0 0, .ptr 10 0 0 0]
    [tbIZ 1 s.l.length s.c ((VZ s.l).length : Nat) mk, tIZ s.l s.c, .cells [.raw (.bool true)] bT, .cells [.raw (.bool false)] bT, .cells [.raw (.bool true)] bT, .cells [.raw (.string k)] strT, .cells [.raw (.int .i64 v)] intT, .cells [.raw (.int .i64 (n : Nat))] intT, one0 (.ptr 0 0 0 0), .cells [.raw s.r.s, .raw (.bool mk)] rST, .ro 0 0 1 (fun _ => stZ x)] 12 (zF s.l ++ rF s.r) (σ := PS × Fam) (PSG s mk x)
    (fun _ => .raw (.bool (!overB x (n + 1)))) (fun t => [(0, tbIZ 11 t.1.l.length t.1.c ((VZ t.1.l).length : Nat) mk), (11, tIZ t.1.l t.1.c), (2, .cells [.raw (.bool true)] bT), (3, .cells [.raw (.bool (overB x (n + 1)))] bT), (4, .cells [.raw (.bool (abZ t.1.l mk k).2.2)] bT), (5, .cells [.raw (.string (abZ t.1.l mk k).1)] strT), (6, .cells [.raw (.int .i64 (abZ t.1.l mk k).2.1)] intT), (7, .cells [.raw (.int .i64 ((n + 1 : Nat) : Int))] intT), (9, .cells [.raw t.1.r.s, .raw (.bool mk)] rST)]) psF := by
  refine SpecF.of Try.func89 rfl Try.ntmps89 rfl (bdl_cons rfl (bdl_cons (fun _ _ => rfl) (bdl_cons rfl (bdl_cons rfl (bdl_cons rfl (bdl_cons rfl (bdl_cons rfl (bdl_cons rfl (bdl_cons (roA_bd rfl) (bdl_cons rfl (bdl_cons (roA_bd rfl) (bdl_nil _)))))))))))) fun ρ w => ?_
  have hrl := hs.rlen
  have hrA := hs.rA
  repeat (first | refine C.seq ?_ | refine C.region ?_ | refine R.zb ttok ?_ | refine R.zu ttok ?_ | refine R.zc ttok ?_ | refine R.za ttok ?_ | refine R.zx ?_ | refine R.zl ttok ?_ | refine R.zs ttok ?_ | refine R.z ttok ?_ | refine R.zk ?_ | refine R.zn ?_ | refine R.done ?_ | refine X.then ?_ | refine C.block ?_ | refine C.ret ?_ | refine C.skip ?_ | refine C.exit ?_ | refine X.pass_ret ?_ | refine X.pass_exit ?_ | refine X.block_normal ?_ | refine X.block_ret ?_ | refine X.block_exit ?_ | refine C.zt ?_ | refine C.zf ?_ | refine X.zo ?_)
  rw [decide_eq_true (rfl : k.toList = k.toList)]
  repeat (first | refine C.seq ?_ | refine C.region ?_ | refine R.zb ttok ?_ | refine R.zu ttok ?_ | refine R.zc ttok ?_ | refine R.za ttok ?_ | refine R.zx ?_ | refine R.zl ttok ?_ | refine R.zs ttok ?_ | refine R.z ttok ?_ | refine R.zk ?_ | refine R.zn ?_ | refine R.done ?_ | refine X.then ?_ | refine C.block ?_ | refine C.ret ?_ | refine C.skip ?_ | refine C.exit ?_ | refine X.pass_ret ?_ | refine X.pass_exit ?_ | refine X.block_normal ?_ | refine X.block_ret ?_ | refine X.block_exit ?_ | refine C.zt ?_ | refine C.zf ?_ | refine X.zo ?_)
  rw [decide_eq_true (rfl : v = v)]
  repeat (first | refine C.seq ?_ | refine C.region ?_ | refine R.zb ttok ?_ | refine R.zu ttok ?_ | refine R.zc ttok ?_ | refine R.za ttok ?_ | refine R.zx ?_ | refine R.zl ttok ?_ | refine R.zs ttok ?_ | refine R.z ttok ?_ | refine R.zk ?_ | refine R.zn ?_ | refine R.done ?_ | refine X.then ?_ | refine C.block ?_ | refine C.ret ?_ | refine C.skip ?_ | refine C.exit ?_ | refine X.pass_ret ?_ | refine X.pass_exit ?_ | refine X.block_normal ?_ | refine X.block_ret ?_ | refine X.block_exit ?_ | refine C.zt ?_ | refine C.zf ?_ | refine X.zo ?_)
  refine R.ldo (v := .ptr 0 0 0 0) ttok rfl rfl rfl rfl rfl (by kernel_rfl) Nat.one_pos ?_
  repeat (first | refine C.seq ?_ | refine C.region ?_ | refine R.zb ttok ?_ | refine R.zu ttok ?_ | refine R.zc ttok ?_ | refine R.za ttok ?_ | refine R.zx ?_ | refine R.zl ttok ?_ | refine R.zs ttok ?_ | refine R.z ttok ?_ | refine R.zk ?_ | refine R.zn ?_ | refine R.done ?_ | refine X.then ?_ | refine C.block ?_ | refine C.ret ?_ | refine C.skip ?_ | refine C.exit ?_ | refine X.pass_ret ?_ | refine X.pass_exit ?_ | refine X.block_normal ?_ | refine X.block_ret ?_ | refine X.block_exit ?_ | refine C.zt ?_ | refine C.zf ?_ | refine X.zo ?_)
  refine R.ldo (v := .agg (stZ x)) ttok rfl rfl rfl rfl rfl (by kernel_rfl) Nat.one_pos ?_
  refine R.clE [0, 1] (turn_spec s mk x hs hl) (([] : Fam)) ((by rw [List.append_nil])) (Nat.le_refl _) (fun _ _ => rfl) Try.call88 (by repeat (first | exact HasIn.nil | refine HasIn.same rfl rfl ?_ | refine HasIn.c1 rfl rfl ?_ | refine HasIn.roq rfl rfl ?_ | refine HasIn.other rfl (fun e => by cases e) (fun ρ x w hh => tab_ro hh) ?_ | refine HasIn.other rfl (fun e => by cases e) (fun ρ x w hh => tab_any hh) ?_ | refine HasIn.roAp rfl rfl ?_ | refine HasIn.other rfl (fun e => by cases e) (fun ρ x w hh => cells_any hh) ?_ | refine HasIn.other rfl (fun e => by cases e) (fun ρ x w hh => ro_any hh) ?_)) rfl rfl rfl (fun _ => rfl) rfl (by kernel_rfl) fun t ht => ?_
  refine R.fperm (fs2 := psF t) (by rw [List.append_nil]) ?_
  have htl := ht.1.rlen
  repeat (first | refine C.seq ?_ | refine C.region ?_ | refine R.zb ttok ?_ | refine R.zu ttok ?_ | refine R.zc ttok ?_ | refine R.za ttok ?_ | refine R.zx ?_ | refine R.zl ttok ?_ | refine R.zs ttok ?_ | refine R.z ttok ?_ | refine R.zk ?_ | refine R.zn ?_ | refine R.done ?_ | refine X.then ?_ | refine C.block ?_ | refine C.ret ?_ | refine C.skip ?_ | refine C.exit ?_ | refine X.pass_ret ?_ | refine X.pass_exit ?_ | refine X.block_normal ?_ | refine X.block_ret ?_ | refine X.block_exit ?_ | refine C.zt ?_ | refine C.zf ?_ | refine X.zo ?_)
  refine R.labR 39 t.1.r ht.1.rok (fun p hp => List.mem_append_right _ (List.mem_append_left _ hp)) rfl ?_
  repeat (first | refine C.seq ?_ | refine C.region ?_ | refine R.zb ttok ?_ | refine R.zu ttok ?_ | refine R.zc ttok ?_ | refine R.za ttok ?_ | refine R.zx ?_ | refine R.zl ttok ?_ | refine R.zs ttok ?_ | refine R.z ttok ?_ | refine R.zk ?_ | refine R.zn ?_ | refine R.done ?_ | refine X.then ?_ | refine C.block ?_ | refine C.ret ?_ | refine C.skip ?_ | refine C.exit ?_ | refine X.pass_ret ?_ | refine X.pass_exit ?_ | refine X.block_normal ?_ | refine X.block_ret ?_ | refine X.block_exit ?_ | refine C.zt ?_ | refine C.zf ?_ | refine X.zo ?_)
  refine R.cl [12] (above_specR t.1.r.l t.1.r.c mk k (by have := ht.2.1; omega)) Try.call70 (by repeat (first | exact HasIn.nil | refine HasIn.same rfl rfl ?_ | refine HasIn.bro rfl ?_ | refine HasIn.ror rfl ?_ | refine HasIn.cro rfl rfl ?_)) rfl rfl rfl (fun _ => rfl) rfl (by kernel_rfl) fun _ _ => ?_
  rw [ht.1.above]
  refine R.drop 12 ?_
  repeat (first | refine C.seq ?_ | refine C.region ?_ | refine R.zb ttok ?_ | refine R.zu ttok ?_ | refine R.zc ttok ?_ | refine R.za ttok ?_ | refine R.zx ?_ | refine R.zl ttok ?_ | refine R.zs ttok ?_ | refine R.z ttok ?_ | refine R.zk ?_ | refine R.zn ?_ | refine R.done ?_ | refine X.then ?_ | refine C.block ?_ | refine C.ret ?_ | refine C.skip ?_ | refine C.exit ?_ | refine X.pass_ret ?_ | refine X.pass_exit ?_ | refine X.block_normal ?_ | refine X.block_ret ?_ | refine X.block_exit ?_ | refine C.zt ?_ | refine C.zf ?_ | refine X.zo ?_)
  refine R.ldo (v := .raw (.int .i64 x.n)) ttok rfl rfl rfl rfl rfl (by kernel_rfl) Nat.one_pos ?_
  repeat (first | refine C.seq ?_ | refine C.region ?_ | refine R.zb ttok ?_ | refine R.zu ttok ?_ | refine R.zc ttok ?_ | refine R.za ttok ?_ | refine R.zx ?_ | refine R.zl ttok ?_ | refine R.zs ttok ?_ | refine R.z ttok ?_ | refine R.zk ?_ | refine R.zn ?_ | refine R.done ?_ | refine X.then ?_ | refine C.block ?_ | refine C.ret ?_ | refine C.skip ?_ | refine C.exit ?_ | refine X.pass_ret ?_ | refine X.pass_exit ?_ | refine X.block_normal ?_ | refine X.block_ret ?_ | refine X.block_exit ?_ | refine C.zt ?_ | refine C.zf ?_ | refine X.zo ?_)
  by_cases hxn : (n : Int) + 1 = x.n
  · have hov : overB x (n + 1) = true := by unfold overB; rw [decide_eq_true (show ((n + 1 : Nat) : Int) = x.n from hxn)]; rfl
    rw [hov, decide_eq_true hxn]
    repeat (first | refine C.seq ?_ | refine C.region ?_ | refine R.zb ttok ?_ | refine R.zu ttok ?_ | refine R.zc ttok ?_ | refine R.za ttok ?_ | refine R.zx ?_ | refine R.zl ttok ?_ | refine R.zs ttok ?_ | refine R.z ttok ?_ | refine R.zk ?_ | refine R.zn ?_ | refine R.done ?_ | refine X.then ?_ | refine C.block ?_ | refine C.ret ?_ | refine C.skip ?_ | refine C.exit ?_ | refine X.pass_ret ?_ | refine X.pass_exit ?_ | refine X.block_normal ?_ | refine X.block_ret ?_ | refine X.block_exit ?_ | refine C.zt ?_ | refine C.zf ?_ | refine X.zo ?_)
    refine X.finF ttok t [] ht rfl rfl rfl (by repeat (first | exact HasH.nil | refine HasH.same rfl rfl rfl trivial ?_ | refine HasH.same rfl rfl rfl rfl ?_ | refine HasH.same rfl rfl rfl (fun _ _ => rfl) ?_ | refine HasH.ros rfl rfl ?_)) _ (by first | exact .inl rfl | exact .inr rfl) ?_ ?_ ?_
    · exact fun w' hf => hf.ap
    · exact fun p hp => hp
    · exact cov_all ht.2.2.1
  · have hov : overB x (n + 1) = decide ((n : Int) + 1 > 200) := by unfold overB; rw [decide_eq_false (show ¬ ((n + 1 : Nat) : Int) = x.n from hxn)]; rfl
    rw [hov, decide_eq_false hxn]
    repeat (first | refine C.seq ?_ | refine C.region ?_ | refine R.zb ttok ?_ | refine R.zu ttok ?_ | refine R.zc ttok ?_ | refine R.za ttok ?_ | refine R.zx ?_ | refine R.zl ttok ?_ | refine R.zs ttok ?_ | refine R.z ttok ?_ | refine R.zk ?_ | refine R.zn ?_ | refine R.done ?_ | refine X.then ?_ | refine C.block ?_ | refine C.ret ?_ | refine C.skip ?_ | refine C.exit ?_ | refine X.pass_ret ?_ | refine X.pass_exit ?_ | refine X.block_normal ?_ | refine X.block_ret ?_ | refine X.block_exit ?_ | refine C.zt ?_ | refine C.zf ?_ | refine X.zo ?_)
    refine X.finF ttok t [] ht rfl rfl rfl (by repeat (first | exact HasH.nil | refine HasH.same rfl rfl rfl trivial ?_ | refine HasH.same rfl rfl rfl rfl ?_ | refine HasH.same rfl rfl rfl (fun _ _ => rfl) ?_ | refine HasH.ros rfl rfl ?_)) _ (by first | exact .inl rfl | exact .inr rfl) ?_ ?_ ?_
    · exact fun w' hf => hf.ap
    · exact fun p hp => hp
    · exact cov_all ht.2.2.1
/-- a Snapshot whose loop writes, on the document's list -/
def goS (x : StZ) (mk : Bool) : Nat → Nat → PL → ByteArray × Int × Bool → PL
  | 0, _, r, _ => r
  | f + 1, j, r, a => if a.2.2 = true then (if overB x (j + 1) = true then turnP x mk r else goS x mk f (j + 1) (turnP x mk r) (abV (abF (turnP x mk r) mk a.1))) else r
theorem goS_step {x : StZ} {mk : Bool} {j : Nat} {r : PL} {k : ByteArray} {v : Int} (hj : j ≤ 200) : goS x mk (202 - j) j r (k, v, true) = if overB x (j + 1) = true then turnP x mk r else goS x mk (202 - (j + 1)) (j + 1) (turnP x mk r) (abV (abF (turnP x mk r) mk k)) := by
  have e : 202 - j = (202 - (j + 1)) + 1 := by omega
  rw [e, goS, if_pos rfl]
theorem goS_end {x : StZ} {mk : Bool} {f j : Nat} {r : PL} {a : ByteArray × Int × Bool} (h : a.2.2 = false) : goS x mk f j r a = r := by
  cases f with
  | zero => rfl
  | succ f => rw [goS, if_neg (by rw [h]; decide)]
def shotP (x : StZ) (mk : Bool) (r : PL) : PL := goS x mk 202 0 r (abV (abF r mk x.key))
abbrev resS (x : StZ) (mk : Bool) (ab : ByteArray) (l : ZL) (r : PL) : PL := goS x mk 202 0 r (abZ l mk ab)
/-- how a Snapshot ended -/
structure HS where
  ps : PS
  G : Fam
  is_ : Bool
  ov : Bool
structure HS.ok (s : HS) (mk : Bool) (l0 : ZL) : Prop where
  pok : s.ps.ok mk
  len : s.ps.l.length ≤ l0.length + 201
  cov : Cov (zF l0) (zF s.ps.l ++ s.G)
  cells : ∀ p ∈ s.G, p.ob.isCells = true
  fin : s.ov = true ∨ s.is_ = false
theorem perm_fin {Z R G : Fam} : (Z ++ (R ++ G)).Perm ((Z ++ R) ++ G) := List.Perm.of_eq (by simp [List.append_assoc])
theorem perm_fout {Z R G1 G : Fam} : ((Z ++ (R ++ G1)) ++ G).Perm (Z ++ (R ++ (G1 ++ G))) := List.Perm.of_eq (by simp [List.append_assoc])
theorem snSh_spec (l : ZL) (c : Nat) (rr : Rf) (mk : Bool) (x : StZ) (ab : ByteArray) (hs : PS.ok ⟨l, c, rr⟩ mk) (hl : l.length ≤ 500000) :
    SpecF Try.prog 53 [.fn shF [.ptr 4 0 0 0, .ptr 5 0 0 0, .ptr 6 0 0 0, .ptr 7 0 0 0, .ptr 8 0 0 0, .ptr 9 0 0 0, .ptr 10 0 0 0, .ptr 11 0 0 0, .ptr 12 0 0 0], .ptr 2 0 0 0, .ptr 3 0 0 0]
    [tbIZ 1 l.length c ((VZ l).length : Nat) mk, tIZ l c, one0 (.ptr 0 0 0 0), one0 (.raw (.string ab)), .cells [.raw (.bool true)] bT, .cells [.raw (.bool false)] bT, .cells [.raw (.bool (abZ l mk ab).2.2)] bT, .cells [.raw (.string (abZ l mk ab).1)] strT, .cells [.raw (.int .i64 (abZ l mk ab).2.1)] intT, .cells [.raw (.int .i64 ((0 : Nat) : Int))] intT, one0 (.ptr 0 0 0 0), .cells [.raw rr.s, .raw (.bool mk)] rST, .ro 0 0 1 (fun _ => stZ x)] 14 (zF l ++ rF rr)
    (σ := HS) (fun t => t.ok mk l ∧ t.ps.r.l = resS x mk ab l rr.l) (fun _ => .tup []) (fun t => [(0, tbIZ 13 t.ps.l.length t.ps.c ((VZ t.ps.l).length : Nat) mk), (13, tIZ t.ps.l t.ps.c), (4, .cells [.raw (.bool true)] bT), (5, .cells [.raw (.bool t.ov)] bT), (6, .cells [.raw (.bool t.is_)] bT), (11, .cells [.raw t.ps.r.s, .raw (.bool mk)] rST)]) (fun t => psF (t.ps, t.G)) := by
  refine SpecF.of Try.func53 rfl Try.ntmps53 rfl (bdl_cons rfl (bdl_cons (fun _ _ => rfl) (bdl_cons (roA_bd rfl) (bdl_cons (roA_bd rfl) (bdl_cons rfl (bdl_cons rfl (bdl_cons rfl (bdl_cons rfl (bdl_cons rfl (bdl_cons rfl (bdl_cons (roA_bd rfl) (bdl_cons rfl (bdl_cons (roA_bd rfl) (bdl_nil _)))))))))))))) fun ρ w => ?_
  have hnil : (zF l ++ (rF rr ++ [])) = zF l ++ rF rr := by rw [List.append_nil]
  have hcov0 : Cov (zF l) (zF l ++ []) := by rw [List.append_nil]; exact Cov.refl _
  repeat (first | refine C.seq ?_ | refine C.region ?_ | refine R.zb ttok ?_ | refine R.zu ttok ?_ | refine R.zc ttok ?_ | refine R.za ttok ?_ | refine R.zx ?_ | refine R.zl ttok ?_ | refine R.zs ttok ?_ | refine R.z ttok ?_ | refine R.zk ?_ | refine R.zn ?_ | refine R.done ?_ | refine X.then ?_ | refine C.block ?_ | refine C.ret ?_ | refine C.skip ?_ | refine C.exit ?_ | refine X.pass_ret ?_ | refine X.pass_exit ?_ | refine X.block_normal ?_ | refine X.block_ret ?_ | refine X.block_exit ?_ | refine C.zt ?_ | refine C.zf ?_ | refine X.zo ?_)
  refine R.ldo (v := .ptr 0 0 0 0) ttok rfl rfl rfl rfl rfl (by kernel_rfl) Nat.one_pos ?_
  repeat (first | refine C.seq ?_ | refine C.region ?_ | refine R.zb ttok ?_ | refine R.zu ttok ?_ | refine R.zc ttok ?_ | refine R.za ttok ?_ | refine R.zx ?_ | refine R.zl ttok ?_ | refine R.zs ttok ?_ | refine R.z ttok ?_ | refine R.zk ?_ | refine R.zn ?_ | refine R.done ?_ | refine X.then ?_ | refine C.block ?_ | refine C.ret ?_ | refine C.skip ?_ | refine C.exit ?_ | refine X.pass_ret ?_ | refine X.pass_exit ?_ | refine X.block_normal ?_ | refine X.block_ret ?_ | refine X.block_exit ?_ | refine C.zt ?_ | refine C.zf ?_ | refine X.zo ?_)
  refine C.draw [[], [0], [0, 1], [], [0, 1, 2, 3], [0, 1, 2, 3, 4], [0, 1, 2, 3, 4, 5], [0, 1, 2, 3, 4, 5], [0, 1, 2, 3, 4, 5, 6], [0, 1, 2, 3, 4, 5, 6, 7, 8]] [4] (by kernel_rfl) (by kernel_rfl) ?_
  refine R.ldo (v := .ptr 0 0 0 0) ttok rfl rfl rfl rfl rfl (by kernel_rfl) Nat.one_pos ?_
  repeat (first | refine C.seq ?_ | refine C.region ?_ | refine R.zb ttok ?_ | refine R.zu ttok ?_ | refine R.zc ttok ?_ | refine R.za ttok ?_ | refine R.zx ?_ | refine R.zl ttok ?_ | refine R.zs ttok ?_ | refine R.z ttok ?_ | refine R.zk ?_ | refine R.zn ?_ | refine R.done ?_ | refine X.then ?_ | refine C.block ?_ | refine C.ret ?_ | refine C.skip ?_ | refine C.exit ?_ | refine X.pass_ret ?_ | refine X.pass_exit ?_ | refine X.block_normal ?_ | refine X.block_ret ?_ | refine X.block_exit ?_ | refine C.zt ?_ | refine C.zf ?_ | refine X.zo ?_)
  refine R.ldo (v := .raw (.string ab)) ttok rfl rfl rfl rfl rfl (by kernel_rfl) Nat.one_pos ?_
  refine R.cl [0, 1] (nextI_specZ l c ab hs.asc (by show l.length ≤ _; omega)) Try.call54 (by repeat (first | exact HasIn.nil | refine HasIn.same rfl rfl ?_ | refine HasIn.c1 rfl rfl ?_ | refine HasIn.roq rfl rfl ?_ | refine HasIn.other rfl (fun e => by cases e) (fun ρ x w hh => tab_ro hh) ?_ | refine HasIn.other rfl (fun e => by cases e) (fun ρ x w hh => tab_any hh) ?_ | refine HasIn.roAp rfl rfl ?_ | refine HasIn.other rfl (fun e => by cases e) (fun ρ x w hh => cells_any hh) ?_ | refine HasIn.other rfl (fun e => by cases e) (fun ρ x w hh => ro_any hh) ?_)) rfl rfl rfl (fun _ => rfl) rfl (by kernel_rfl) fun _ _ => ?_
  repeat (first | refine C.seq ?_ | refine C.region ?_ | refine R.zb ttok ?_ | refine R.zu ttok ?_ | refine R.zc ttok ?_ | refine R.za ttok ?_ | refine R.zx ?_ | refine R.zl ttok ?_ | refine R.zs ttok ?_ | refine R.z ttok ?_ | refine R.zk ?_ | refine R.zn ?_ | refine R.done ?_ | refine X.then ?_ | refine C.block ?_ | refine C.ret ?_ | refine C.skip ?_ | refine C.exit ?_ | refine X.pass_ret ?_ | refine X.pass_exit ?_ | refine X.block_normal ?_ | refine X.block_ret ?_ | refine X.block_exit ?_ | refine C.zt ?_ | refine C.zf ?_ | refine X.zo ?_)
  cases mk with
  | false =>
    obtain ⟨bb, hbb⟩ : ∃ bb, decide (aboveN l ab < l.length) = bb := ⟨_, rfl⟩
    rw [hbb]
    refine C.loop (σ := Unit) (L2 := 13) (fun _ => True) (fun _ => [(0, .fn shF [.ptr 4 0 0 0, .ptr 5 0 0 0, .ptr 6 0 0 0, .ptr 7 0 0 0, .ptr 8 0 0 0, .ptr 9 0 0 0, .ptr 10 0 0 0, .ptr 11 0 0 0, .ptr 12 0 0 0]), (1, .ptr 2 0 0 0), (2, .ptr 3 0 0 0), (4, .raw (.string (l.getD (aboveN l ab) zG).1)), (5, .raw (.bool bb))]) (fun _ => [(0, tbIZ 1 l.length c ((VZ l).length : Nat) false), (1, tIZ l c), (2, one0 (.ptr 0 0 0 0)), (3, one0 (.raw (.string ab))), (4, .cells [.raw (.bool true)] bT), (5, .cells [.raw (.bool false)] bT), (6, .cells [.raw (.bool false)] bT), (11, .cells [.raw rr.s, .raw (.bool false)] rST)]) _ (fun _ => 0) [] () trivial rfl (by repeat (first | exact HasT.nil | refine HasT.cons rfl rfl rfl ?_)) (by repeat (first | exact HasH.nil | refine HasH.same rfl rfl rfl trivial ?_ | refine HasH.same rfl rfl rfl rfl ?_ | refine HasH.same rfl rfl rfl (fun _ _ => rfl) ?_)) rfl (fun _ h => h) ?_
    rintro _ _
    cases bb with
    | false =>
      repeat (first | refine C.seq ?_ | refine C.region ?_ | refine R.zb ttok ?_ | refine R.zu ttok ?_ | refine R.zc ttok ?_ | refine R.za ttok ?_ | refine R.zx ?_ | refine R.zl ttok ?_ | refine R.zs ttok ?_ | refine R.z ttok ?_ | refine R.zk ?_ | refine R.zn ?_ | refine R.done ?_ | refine X.then ?_ | refine C.block ?_ | refine C.ret ?_ | refine C.skip ?_ | refine C.exit ?_ | refine X.pass_ret ?_ | refine X.pass_exit ?_ | refine X.block_normal ?_ | refine X.block_ret ?_ | refine X.block_exit ?_ | refine C.zt ?_ | refine C.zf ?_ | refine X.zo ?_)
      refine X.fperm (List.Perm.of_eq hnil.symm) ?_
      refine X.finF ttok (⟨⟨l, c, rr⟩, [], false, false⟩ : HS) [(13, 1)] ⟨⟨hs, Nat.le_add_right _ _, hcov0, fun p hp => (by cases hp), .inr rfl⟩, (goS_end rfl).symm⟩ rfl rfl rfl (by repeat (first | exact HasH.nil | refine HasH.same rfl rfl rfl trivial ?_ | refine HasH.same rfl rfl rfl rfl ?_ | refine HasH.same rfl rfl rfl (fun _ _ => rfl) ?_)) _ (by first | exact .inl rfl | exact .inr rfl) ?_ ?_ ?_
      · exact fun w' hf => hf.ap
      · exact fun p hp => hp
      · exact cov_all hcov0
    | true =>
      repeat (first | refine C.seq ?_ | refine C.region ?_ | refine R.zb ttok ?_ | refine R.zu ttok ?_ | refine R.zc ttok ?_ | refine R.za ttok ?_ | refine R.zx ?_ | refine R.zl ttok ?_ | refine R.zs ttok ?_ | refine R.z ttok ?_ | refine R.zk ?_ | refine R.zn ?_ | refine R.done ?_ | refine X.then ?_ | refine C.block ?_ | refine C.ret ?_ | refine C.skip ?_ | refine C.exit ?_ | refine X.pass_ret ?_ | refine X.pass_exit ?_ | refine X.block_normal ?_ | refine X.block_ret ?_ | refine X.block_exit ?_ | refine C.zt ?_ | refine C.zf ?_ | refine X.zo ?_)
      refine R.ldo (v := .ptr 0 0 0 0) ttok rfl rfl rfl rfl rfl (by kernel_rfl) Nat.one_pos ?_
      repeat (first | refine C.seq ?_ | refine C.region ?_ | refine R.zb ttok ?_ | refine R.zu ttok ?_ | refine R.zc ttok ?_ | refine R.za ttok ?_ | refine R.zx ?_ | refine R.zl ttok ?_ | refine R.zs ttok ?_ | refine R.z ttok ?_ | refine R.zk ?_ | refine R.zn ?_ | refine R.done ?_ | refine X.then ?_ | refine C.block ?_ | refine C.ret ?_ | refine C.skip ?_ | refine C.exit ?_ | refine X.pass_ret ?_ | refine X.pass_exit ?_ | refine X.block_normal ?_ | refine X.block_ret ?_ | refine X.block_exit ?_ | refine C.zt ?_ | refine C.zf ?_ | refine X.zo ?_)
      refine X.fperm (List.Perm.of_eq hnil.symm) ?_
      refine X.finF ttok (⟨⟨l, c, rr⟩, [], false, false⟩ : HS) [(13, 1)] ⟨⟨hs, Nat.le_add_right _ _, hcov0, fun p hp => (by cases hp), .inr rfl⟩, (goS_end rfl).symm⟩ rfl rfl rfl (by repeat (first | exact HasH.nil | refine HasH.same rfl rfl rfl trivial ?_ | refine HasH.same rfl rfl rfl rfl ?_ | refine HasH.same rfl rfl rfl (fun _ _ => rfl) ?_)) _ (by first | exact .inl rfl | exact .inr rfl) ?_ ?_ ?_
      · exact fun w' hf => hf.ap
      · exact fun p hp => hp
      · exact cov_all hcov0
  | true =>
  rw [show abZ l true ab = hdV (hdZ l (aboveN l ab)) from rfl]
  refine C.loopG (σ := TS × Nat) (L2 := 14) (fun s => s.1.ok true l 200 ∧ s.2 ≤ s.1.ps.l.length ∧ goS x true (202 - s.1.j) s.1.j s.1.ps.r.l (hdV (hdZ s.1.ps.l s.2)) = resS x true ab l rr.l) (fun s => [(0, .fn shF [.ptr 4 0 0 0, .ptr 5 0 0 0, .ptr 6 0 0 0, .ptr 7 0 0 0, .ptr 8 0 0 0, .ptr 9 0 0 0, .ptr 10 0 0 0, .ptr 11 0 0 0, .ptr 12 0 0 0]), (1, .ptr 2 0 0 0), (2, .ptr 3 0 0 0), (4, .raw (.string (s.1.ps.l.getD s.2 zG).1)), (5, .raw (.bool (decide (s.2 < s.1.ps.l.length))))]) (fun s => [(0, tbIZ 13 (s.1.ps).l.length (s.1.ps).c ((VZ (s.1.ps).l).length : Nat) true), (13, tIZ (s.1.ps).l (s.1.ps).c), (2, one0 (.ptr 0 0 0 0)), (3, one0 (.raw (.string ab))), (4, .cells [.raw (.bool true)] bT), (5, .cells [.raw (.bool false)] bT), (6, .cells [.raw (.bool (hdV (hdZ (s.1.ps).l s.2)).2.2)] bT), (7, .cells [.raw (.string (hdV (hdZ (s.1.ps).l s.2)).1)] strT), (8, .cells [.raw (.int .i64 (hdV (hdZ (s.1.ps).l s.2)).2.1)] intT), (9, .cells [.raw (.int .i64 ((s.1.j : Nat) : Int))] intT), (10, one0 (.ptr 0 0 0 0)), (11, .cells [.raw (s.1.ps).r.s, .raw (.bool true)] rST), (12, .ro 0 0 1 (fun _ => stZ x))]) (fun s => FF _ ρ w (zF l ++ rF rr) (tsF s.1)) (fun s => (202 - s.1.j) * 1000002 + (s.1.ps.l.length - s.2)) [(13, 1)] ((⟨⟨l, c, rr⟩, [], 0, none⟩ : TS), aboveN l ab) ⟨⟨hs, Nat.le_refl _, Nat.zero_le _, hcov0, fun p hp => (by cases hp)⟩, aboveN_le _ _, rfl⟩ rfl (by repeat (first | exact HasT.nil | refine HasT.cons rfl rfl rfl ?_)) (by repeat (first | exact HasH.nil | refine HasH.same rfl rfl rfl trivial ?_ | refine HasH.same rfl rfl rfl rfl ?_ | refine HasH.same rfl rfl rfl (fun _ _ => rfl) ?_)) rfl (fun w' hf => by
    show FF _ _ _ _ (zF l ++ (rF rr ++ [])) w'
    rw [hnil]
    exact hf) ?_
  rintro ⟨⟨ps, G, j, la⟩, i⟩ ⟨hI, hi, hR⟩
  dsimp only at hi hR ⊢
  have hln : ps.l.length ≤ l.length + j := hI.len
  have hnm : j ≤ 200 := hI.num
  repeat (first | refine C.seq ?_ | refine C.region ?_ | refine R.zb ttok ?_ | refine R.zu ttok ?_ | refine R.zc ttok ?_ | refine R.za ttok ?_ | refine R.zx ?_ | refine R.zl ttok ?_ | refine R.zs ttok ?_ | refine R.z ttok ?_ | refine R.zk ?_ | refine R.zn ?_ | refine R.done ?_ | refine X.then ?_ | refine C.block ?_ | refine C.ret ?_ | refine C.skip ?_ | refine C.exit ?_ | refine X.pass_ret ?_ | refine X.pass_exit ?_ | refine X.block_normal ?_ | refine X.block_ret ?_ | refine X.block_exit ?_ | refine C.zt ?_ | refine C.zf ?_ | refine X.zo ?_)
  by_cases hlt : i < ps.l.length
  · rw [decide_eq_true hlt]
    have hst := hdZ_step hlt
    have hmem := zF_mem hlt
    have hgI : getIZ ps.l (ps.l.getD i zG).1 = .pointer (some ⟨(ps.l.getD i zG).2.1, 0, none⟩) := by unfold getIZ; rw [if_pos (has_at hI.pok.asc hlt), plc_at hI.pok.asc hlt]
    have habove := above_at hI.pok.asc hlt
    obtain ⟨⟨pk, pb, c0, c1, h0, h1, rd, wr⟩, hpp⟩ : ∃ p, ps.l.getD i zG = p := ⟨_, rfl⟩
    rw [hpp] at hst hmem hgI habove ⊢
    refine R.ldo (v := .ptr 0 0 0 0) ttok rfl rfl rfl rfl rfl (by kernel_rfl) Nat.one_pos ?_
    repeat (first | refine C.seq ?_ | refine C.region ?_ | refine R.zb ttok ?_ | refine R.zu ttok ?_ | refine R.zc ttok ?_ | refine R.za ttok ?_ | refine R.zx ?_ | refine R.zl ttok ?_ | refine R.zs ttok ?_ | refine R.z ttok ?_ | refine R.zk ?_ | refine R.zn ?_ | refine R.done ?_ | refine X.then ?_ | refine C.block ?_ | refine C.ret ?_ | refine C.skip ?_ | refine C.exit ?_ | refine X.pass_ret ?_ | refine X.pass_exit ?_ | refine X.block_normal ?_ | refine X.block_ret ?_ | refine X.block_exit ?_ | refine C.zt ?_ | refine C.zf ?_ | refine X.zo ?_)
    refine R.ldo (v := .ptr 0 0 0 0) ttok rfl rfl rfl rfl rfl (by kernel_rfl) Nat.one_pos ?_
    repeat (first | refine C.seq ?_ | refine C.region ?_ | refine R.zb ttok ?_ | refine R.zu ttok ?_ | refine R.zc ttok ?_ | refine R.za ttok ?_ | refine R.zx ?_ | refine R.zl ttok ?_ | refine R.zs ttok ?_ | refine R.z ttok ?_ | refine R.zk ?_ | refine R.zn ?_ | refine R.done ?_ | refine X.then ?_ | refine C.block ?_ | refine C.ret ?_ | refine C.skip ?_ | refine C.exit ?_ | refine X.pass_ret ?_ | refine X.pass_exit ?_ | refine X.block_normal ?_ | refine X.block_ret ?_ | refine X.block_exit ?_ | refine C.zt ?_ | refine C.zf ?_ | refine X.zo ?_)
    refine R.cl [0, 13] (getI_specZ ps.l ps.c pk hI.pok.asc (by show ps.l.length ≤ _; omega)) Try.call52 (by repeat (first | exact HasIn.nil | refine HasIn.same rfl rfl ?_ | refine HasIn.c1 rfl rfl ?_ | refine HasIn.roq rfl rfl ?_ | refine HasIn.other rfl (fun e => by cases e) (fun ρ x w hh => tab_ro hh) ?_ | refine HasIn.other rfl (fun e => by cases e) (fun ρ x w hh => tab_any hh) ?_ | refine HasIn.roAp rfl rfl ?_ | refine HasIn.other rfl (fun e => by cases e) (fun ρ x w hh => cells_any hh) ?_ | refine HasIn.other rfl (fun e => by cases e) (fun ρ x w hh => ro_any hh) ?_)) rfl rfl rfl (fun _ => rfl) rfl (by kernel_rfl) fun _ _ => ?_
    rw [hgI]
    repeat (first | refine R.zb ttok ?_ | refine R.zu ttok ?_ | refine R.zc ttok ?_ | refine R.za ttok ?_ | refine R.zx ?_ | refine R.zl ttok ?_ | refine R.zs ttok ?_ | refine R.z ttok ?_ | refine R.zk ?_ | refine R.zn ?_)
    refine R.done ?_
    refine X.then ?_
    refine C.labZ 6 (pk, pb, ⟨c0, c1, h0, h1, rd, wr⟩) (List.mem_append_left _ hmem) rfl ?_
    cases wr with
    | false =>
      repeat (first | refine C.seq ?_ | refine C.region ?_ | refine R.zb ttok ?_ | refine R.zu ttok ?_ | refine R.zc ttok ?_ | refine R.za ttok ?_ | refine R.zx ?_ | refine R.zl ttok ?_ | refine R.zs ttok ?_ | refine R.z ttok ?_ | refine R.zk ?_ | refine R.zn ?_ | refine R.done ?_ | refine X.then ?_ | refine C.block ?_ | refine C.ret ?_ | refine C.skip ?_ | refine C.exit ?_ | refine X.pass_ret ?_ | refine X.pass_exit ?_ | refine X.block_normal ?_ | refine X.block_ret ?_ | refine X.block_exit ?_ | refine C.zt ?_ | refine C.zf ?_ | refine X.zo ?_)
      refine R.ldo (v := .raw (.int .i64 (b01 false))) ttok rfl rfl rfl rfl rfl (by kernel_rfl) Nat.one_pos ?_
      repeat (first | refine C.seq ?_ | refine C.region ?_ | refine R.zb ttok ?_ | refine R.zu ttok ?_ | refine R.zc ttok ?_ | refine R.za ttok ?_ | refine R.zx ?_ | refine R.zl ttok ?_ | refine R.zs ttok ?_ | refine R.z ttok ?_ | refine R.zk ?_ | refine R.zn ?_ | refine R.done ?_ | refine X.then ?_ | refine C.block ?_ | refine C.ret ?_ | refine C.skip ?_ | refine C.exit ?_ | refine X.pass_ret ?_ | refine X.pass_exit ?_ | refine X.block_normal ?_ | refine X.block_ret ?_ | refine X.block_exit ?_ | refine C.zt ?_ | refine C.zf ?_ | refine X.zo ?_)
      refine R.cl [14] (read_specZ ⟨c0, c1, h0, h1, rd, false⟩ true) Try.call50 (by repeat (first | exact HasIn.nil | refine HasIn.same rfl rfl ?_ | refine HasIn.bro rfl ?_ | refine HasIn.ror rfl ?_ | refine HasIn.cro rfl rfl ?_)) rfl rfl rfl (fun _ => rfl) rfl (by kernel_rfl) fun _ _ => ?_
      cases h1 with
      | false =>
        have hst : hdZ ps.l i = hdZ ps.l (i + 1) := hst
        rw [hst] at hR ⊢
        repeat (first | refine C.seq ?_ | refine C.region ?_ | refine R.zb ttok ?_ | refine R.zu ttok ?_ | refine R.zc ttok ?_ | refine R.za ttok ?_ | refine R.zx ?_ | refine R.zl ttok ?_ | refine R.zs ttok ?_ | refine R.z ttok ?_ | refine R.zk ?_ | refine R.zn ?_ | refine R.done ?_ | refine X.then ?_ | refine C.block ?_ | refine C.ret ?_ | refine C.skip ?_ | refine C.exit ?_ | refine X.pass_ret ?_ | refine X.pass_exit ?_ | refine X.block_normal ?_ | refine X.block_ret ?_ | refine X.block_exit ?_ | refine C.zt ?_ | refine C.zf ?_ | refine X.zo ?_)
        refine R.ldo (v := .ptr 0 0 0 0) ttok rfl rfl rfl rfl rfl (by kernel_rfl) Nat.one_pos ?_
        repeat (first | refine C.seq ?_ | refine C.region ?_ | refine R.zb ttok ?_ | refine R.zu ttok ?_ | refine R.zc ttok ?_ | refine R.za ttok ?_ | refine R.zx ?_ | refine R.zl ttok ?_ | refine R.zs ttok ?_ | refine R.z ttok ?_ | refine R.zk ?_ | refine R.zn ?_ | refine R.done ?_ | refine X.then ?_ | refine C.block ?_ | refine C.ret ?_ | refine C.skip ?_ | refine C.exit ?_ | refine X.pass_ret ?_ | refine X.pass_exit ?_ | refine X.block_normal ?_ | refine X.block_ret ?_ | refine X.block_exit ?_ | refine C.zt ?_ | refine C.zf ?_ | refine X.zo ?_)
        refine R.cl [0, 13] (nextI_specZ ps.l ps.c pk hI.pok.asc (by omega)) Try.call54 (by repeat (first | exact HasIn.nil | refine HasIn.same rfl rfl ?_ | refine HasIn.c1 rfl rfl ?_ | refine HasIn.roq rfl rfl ?_ | refine HasIn.other rfl (fun e => by cases e) (fun ρ x w hh => tab_ro hh) ?_ | refine HasIn.other rfl (fun e => by cases e) (fun ρ x w hh => tab_any hh) ?_ | refine HasIn.roAp rfl rfl ?_ | refine HasIn.other rfl (fun e => by cases e) (fun ρ x w hh => cells_any hh) ?_ | refine HasIn.other rfl (fun e => by cases e) (fun ρ x w hh => ro_any hh) ?_)) rfl rfl rfl (fun _ => rfl) rfl (by kernel_rfl) fun _ _ => ?_
        rw [habove]
        repeat (first | refine C.seq ?_ | refine C.region ?_ | refine R.zb ttok ?_ | refine R.zu ttok ?_ | refine R.zc ttok ?_ | refine R.za ttok ?_ | refine R.zx ?_ | refine R.zl ttok ?_ | refine R.zs ttok ?_ | refine R.z ttok ?_ | refine R.zk ?_ | refine R.zn ?_ | refine R.done ?_ | refine X.then ?_ | refine C.block ?_ | refine C.ret ?_ | refine C.skip ?_ | refine C.exit ?_ | refine X.pass_ret ?_ | refine X.pass_exit ?_ | refine X.block_normal ?_ | refine X.block_ret ?_ | refine X.block_exit ?_ | refine C.zt ?_ | refine C.zf ?_ | refine X.zo ?_)
        exact X.backG [] ((⟨ps, G, j, none⟩ : TS), i + 1) ⟨⟨hI.pok, hI.len, hI.num, hI.cov, hI.cells⟩, hlt, hR⟩ (by show (202 - j) * 1000002 + (ps.l.length - (i + 1)) < (202 - j) * 1000002 + (ps.l.length - i); exact Nat.add_lt_add_left (by omega) _) rfl (by repeat (first | exact HasT.nil | refine HasT.cons rfl rfl rfl ?_)) (by repeat (first | exact HasH.nil | refine HasH.same rfl rfl rfl trivial ?_ | refine HasH.same rfl rfl rfl rfl ?_ | refine HasH.same rfl rfl rfl (fun _ _ => rfl) ?_)) rfl (fun _ h => h)
      | true =>
        have hst : hdZ ps.l i = some (pk, pb, _) := hst
        rw [hst] at hR ⊢
        have hR : goS x true (202 - j) j ps.r.l (pk, c1, true) = _ := hR
        rw [goS_step hnm] at hR
        repeat (first | refine C.seq ?_ | refine C.region ?_ | refine R.zb ttok ?_ | refine R.zu ttok ?_ | refine R.zc ttok ?_ | refine R.za ttok ?_ | refine R.zx ?_ | refine R.zl ttok ?_ | refine R.zs ttok ?_ | refine R.z ttok ?_ | refine R.zk ?_ | refine R.zn ?_ | refine R.done ?_ | refine X.then ?_ | refine C.block ?_ | refine C.ret ?_ | refine C.skip ?_ | refine C.exit ?_ | refine X.pass_ret ?_ | refine X.pass_exit ?_ | refine X.block_normal ?_ | refine X.block_ret ?_ | refine X.block_exit ?_ | refine C.zt ?_ | refine C.zf ?_ | refine X.zo ?_)
        refine R.drop 14 ?_
        refine R.clE [0, 13, 4, 5, 6, 7, 8, 9, 10, 11, 12] (sh1_spec ps true x pk c1 j hI.pok (by omega) (by omega)) G perm_fin (Nat.le_refl _) (fun _ _ => rfl) sh_call (by repeat (first | exact HasIn.nil | refine HasIn.same rfl rfl ?_ | refine HasIn.c1 rfl rfl ?_ | refine HasIn.roq rfl rfl ?_ | refine HasIn.other rfl (fun e => by cases e) (fun ρ x w hh => tab_ro hh) ?_ | refine HasIn.other rfl (fun e => by cases e) (fun ρ x w hh => tab_any hh) ?_ | refine HasIn.roAp rfl rfl ?_ | refine HasIn.other rfl (fun e => by cases e) (fun ρ x w hh => cells_any hh) ?_ | refine HasIn.other rfl (fun e => by cases e) (fun ρ x w hh => ro_any hh) ?_)) rfl rfl rfl (fun _ => rfl) rfl (by kernel_rfl) fun t ht => ?_
        refine R.fperm perm_fout ?_
        rw [← ht.2.2.2.2, ht.1.above] at hR
        have hT : ∀ m, j + 1 ≤ m → (⟨t.1, t.2 ++ G, j + 1, none⟩ : TS).ok true l m := fun m hm => ⟨ht.1, by have h1 := ht.2.1; show t.1.l.length ≤ l.length + (j + 1); omega, hm, cov_more hI.cov ht.2.2.1, fun p hp => by
          rcases List.mem_append.1 hp with hp | hp
          · exact ht.2.2.2.1 p hp
          · exact hI.cells p hp⟩
        cases hov : overB x (j + 1) with
        | false =>
          have hj := overB_no hov
          rw [show abZ t.1.l true pk = hdV (hdZ t.1.l (aboveN t.1.l pk)) from rfl]
          repeat (first | refine C.seq ?_ | refine C.region ?_ | refine R.zb ttok ?_ | refine R.zu ttok ?_ | refine R.zc ttok ?_ | refine R.za ttok ?_ | refine R.zx ?_ | refine R.zl ttok ?_ | refine R.zs ttok ?_ | refine R.z ttok ?_ | refine R.zk ?_ | refine R.zn ?_ | refine R.done ?_ | refine X.then ?_ | refine C.block ?_ | refine C.ret ?_ | refine C.skip ?_ | refine C.exit ?_ | refine X.pass_ret ?_ | refine X.pass_exit ?_ | refine X.block_normal ?_ | refine X.block_ret ?_ | refine X.block_exit ?_ | refine C.zt ?_ | refine C.zf ?_ | refine X.zo ?_)
          refine R.ldo (v := .ptr 0 0 0 0) ttok rfl rfl rfl rfl rfl (by kernel_rfl) Nat.one_pos ?_
          repeat (first | refine C.seq ?_ | refine C.region ?_ | refine R.zb ttok ?_ | refine R.zu ttok ?_ | refine R.zc ttok ?_ | refine R.za ttok ?_ | refine R.zx ?_ | refine R.zl ttok ?_ | refine R.zs ttok ?_ | refine R.z ttok ?_ | refine R.zk ?_ | refine R.zn ?_ | refine R.done ?_ | refine X.then ?_ | refine C.block ?_ | refine C.ret ?_ | refine C.skip ?_ | refine C.exit ?_ | refine X.pass_ret ?_ | refine X.pass_exit ?_ | refine X.block_normal ?_ | refine X.block_ret ?_ | refine X.block_exit ?_ | refine C.zt ?_ | refine C.zf ?_ | refine X.zo ?_)
          refine R.cl [0, 15] (nextI_specZ t.1.l t.1.c pk ht.1.asc (by have := ht.2.1; omega)) Try.call54 (by repeat (first | exact HasIn.nil | refine HasIn.same rfl rfl ?_ | refine HasIn.c1 rfl rfl ?_ | refine HasIn.roq rfl rfl ?_ | refine HasIn.other rfl (fun e => by cases e) (fun ρ x w hh => tab_ro hh) ?_ | refine HasIn.other rfl (fun e => by cases e) (fun ρ x w hh => tab_any hh) ?_ | refine HasIn.roAp rfl rfl ?_ | refine HasIn.other rfl (fun e => by cases e) (fun ρ x w hh => cells_any hh) ?_ | refine HasIn.other rfl (fun e => by cases e) (fun ρ x w hh => ro_any hh) ?_)) rfl rfl rfl (fun _ => rfl) rfl (by kernel_rfl) fun _ _ => ?_
          repeat (first | refine C.seq ?_ | refine C.region ?_ | refine R.zb ttok ?_ | refine R.zu ttok ?_ | refine R.zc ttok ?_ | refine R.za ttok ?_ | refine R.zx ?_ | refine R.zl ttok ?_ | refine R.zs ttok ?_ | refine R.z ttok ?_ | refine R.zk ?_ | refine R.zn ?_ | refine R.done ?_ | refine X.then ?_ | refine C.block ?_ | refine C.ret ?_ | refine C.skip ?_ | refine C.exit ?_ | refine X.pass_ret ?_ | refine X.pass_exit ?_ | refine X.block_normal ?_ | refine X.block_ret ?_ | refine X.block_exit ?_ | refine C.zt ?_ | refine C.zf ?_ | refine X.zo ?_)
          exact X.backG [(13, 15)] ((⟨t.1, t.2 ++ G, j + 1, none⟩ : TS), aboveN t.1.l pk) ⟨hT 200 hj, aboveN_le _ _, by rw [hov, if_neg (by decide)] at hR; exact hR⟩ (mu_step hj (a := t.1.l.length) (by have h1 := ht.2.1; omega)) rfl (by repeat (first | exact HasT.nil | refine HasT.cons rfl rfl rfl ?_)) (by repeat (first | exact HasH.nil | refine HasH.same rfl rfl rfl trivial ?_ | refine HasH.same rfl rfl rfl rfl ?_ | refine HasH.same rfl rfl rfl (fun _ _ => rfl) ?_)) rfl (fun _ h => h)
        | true =>
          have hQ := hT 201 (by omega)
          repeat (first | refine C.seq ?_ | refine C.region ?_ | refine R.zb ttok ?_ | refine R.zu ttok ?_ | refine R.zc ttok ?_ | refine R.za ttok ?_ | refine R.zx ?_ | refine R.zl ttok ?_ | refine R.zs ttok ?_ | refine R.z ttok ?_ | refine R.zk ?_ | refine R.zn ?_ | refine R.done ?_ | refine X.then ?_ | refine C.block ?_ | refine C.ret ?_ | refine C.skip ?_ | refine C.exit ?_ | refine X.pass_ret ?_ | refine X.pass_exit ?_ | refine X.block_normal ?_ | refine X.block_ret ?_ | refine X.block_exit ?_ | refine C.zt ?_ | refine C.zf ?_ | refine X.zo ?_)
          refine X.finF ttok (⟨t.1, t.2 ++ G, (abZ t.1.l true pk).2.2, true⟩ : HS) [(13, 15)] ⟨⟨hQ.pok, by have h1 := ht.2.1; show t.1.l.length ≤ l.length + 201; omega, hQ.cov, hQ.cells, .inl rfl⟩, by rw [hov, if_pos rfl] at hR; exact hR⟩ rfl rfl rfl (by repeat (first | exact HasH.nil | refine HasH.same rfl rfl rfl trivial ?_ | refine HasH.same rfl rfl rfl rfl ?_ | refine HasH.same rfl rfl rfl (fun _ _ => rfl) ?_)) _ (by first | exact .inl rfl | exact .inr rfl) ?_ ?_ ?_
          · exact fun w' hf => hf.ap
          · exact fun p hp => hp
          · exact cov_all hQ.cov
    | true =>
      repeat (first | refine C.seq ?_ | refine C.region ?_ | refine R.zb ttok ?_ | refine R.zu ttok ?_ | refine R.zc ttok ?_ | refine R.za ttok ?_ | refine R.zx ?_ | refine R.zl ttok ?_ | refine R.zs ttok ?_ | refine R.z ttok ?_ | refine R.zk ?_ | refine R.zn ?_ | refine R.done ?_ | refine X.then ?_ | refine C.block ?_ | refine C.ret ?_ | refine C.skip ?_ | refine C.exit ?_ | refine X.pass_ret ?_ | refine X.pass_exit ?_ | refine X.block_normal ?_ | refine X.block_ret ?_ | refine X.block_exit ?_ | refine C.zt ?_ | refine C.zf ?_ | refine X.zo ?_)
      refine R.ldo (v := .raw (.int .i64 (b01 true))) ttok rfl rfl rfl rfl rfl (by kernel_rfl) Nat.one_pos ?_
      repeat (first | refine C.seq ?_ | refine C.region ?_ | refine R.zb ttok ?_ | refine R.zu ttok ?_ | refine R.zc ttok ?_ | refine R.za ttok ?_ | refine R.zx ?_ | refine R.zl ttok ?_ | refine R.zs ttok ?_ | refine R.z ttok ?_ | refine R.zk ?_ | refine R.zn ?_ | refine R.done ?_ | refine X.then ?_ | refine C.block ?_ | refine C.ret ?_ | refine C.skip ?_ | refine C.exit ?_ | refine X.pass_ret ?_ | refine X.pass_exit ?_ | refine X.block_normal ?_ | refine X.block_ret ?_ | refine X.block_exit ?_ | refine C.zt ?_ | refine C.zf ?_ | refine X.zo ?_)
      refine R.cl [14] (read_specZ ⟨c0, c1, h0, h1, rd, true⟩ false) Try.call50 (by repeat (first | exact HasIn.nil | refine HasIn.same rfl rfl ?_ | refine HasIn.bro rfl ?_ | refine HasIn.ror rfl ?_ | refine HasIn.cro rfl rfl ?_)) rfl rfl rfl (fun _ => rfl) rfl (by kernel_rfl) fun _ _ => ?_
      cases h0 with
      | false =>
        have hst : hdZ ps.l i = hdZ ps.l (i + 1) := hst
        rw [hst] at hR ⊢
        repeat (first | refine C.seq ?_ | refine C.region ?_ | refine R.zb ttok ?_ | refine R.zu ttok ?_ | refine R.zc ttok ?_ | refine R.za ttok ?_ | refine R.zx ?_ | refine R.zl ttok ?_ | refine R.zs ttok ?_ | refine R.z ttok ?_ | refine R.zk ?_ | refine R.zn ?_ | refine R.done ?_ | refine X.then ?_ | refine C.block ?_ | refine C.ret ?_ | refine C.skip ?_ | refine C.exit ?_ | refine X.pass_ret ?_ | refine X.pass_exit ?_ | refine X.block_normal ?_ | refine X.block_ret ?_ | refine X.block_exit ?_ | refine C.zt ?_ | refine C.zf ?_ | refine X.zo ?_)
        refine R.ldo (v := .ptr 0 0 0 0) ttok rfl rfl rfl rfl rfl (by kernel_rfl) Nat.one_pos ?_
        repeat (first | refine C.seq ?_ | refine C.region ?_ | refine R.zb ttok ?_ | refine R.zu ttok ?_ | refine R.zc ttok ?_ | refine R.za ttok ?_ | refine R.zx ?_ | refine R.zl ttok ?_ | refine R.zs ttok ?_ | refine R.z ttok ?_ | refine R.zk ?_ | refine R.zn ?_ | refine R.done ?_ | refine X.then ?_ | refine C.block ?_ | refine C.ret ?_ | refine C.skip ?_ | refine C.exit ?_ | refine X.pass_ret ?_ | refine X.pass_exit ?_ | refine X.block_normal ?_ | refine X.block_ret ?_ | refine X.block_exit ?_ | refine C.zt ?_ | refine C.zf ?_ | refine X.zo ?_)
        refine R.cl [0, 13] (nextI_specZ ps.l ps.c pk hI.pok.asc (by omega)) Try.call54 (by repeat (first | exact HasIn.nil | refine HasIn.same rfl rfl ?_ | refine HasIn.c1 rfl rfl ?_ | refine HasIn.roq rfl rfl ?_ | refine HasIn.other rfl (fun e => by cases e) (fun ρ x w hh => tab_ro hh) ?_ | refine HasIn.other rfl (fun e => by cases e) (fun ρ x w hh => tab_any hh) ?_ | refine HasIn.roAp rfl rfl ?_ | refine HasIn.other rfl (fun e => by cases e) (fun ρ x w hh => cells_any hh) ?_ | refine HasIn.other rfl (fun e => by cases e) (fun ρ x w hh => ro_any hh) ?_)) rfl rfl rfl (fun _ => rfl) rfl (by kernel_rfl) fun _ _ => ?_
        rw [habove]
        repeat (first | refine C.seq ?_ | refine C.region ?_ | refine R.zb ttok ?_ | refine R.zu ttok ?_ | refine R.zc ttok ?_ | refine R.za ttok ?_ | refine R.zx ?_ | refine R.zl ttok ?_ | refine R.zs ttok ?_ | refine R.z ttok ?_ | refine R.zk ?_ | refine R.zn ?_ | refine R.done ?_ | refine X.then ?_ | refine C.block ?_ | refine C.ret ?_ | refine C.skip ?_ | refine C.exit ?_ | refine X.pass_ret ?_ | refine X.pass_exit ?_ | refine X.block_normal ?_ | refine X.block_ret ?_ | refine X.block_exit ?_ | refine C.zt ?_ | refine C.zf ?_ | refine X.zo ?_)
        exact X.backG [] ((⟨ps, G, j, none⟩ : TS), i + 1) ⟨⟨hI.pok, hI.len, hI.num, hI.cov, hI.cells⟩, hlt, hR⟩ (by show (202 - j) * 1000002 + (ps.l.length - (i + 1)) < (202 - j) * 1000002 + (ps.l.length - i); exact Nat.add_lt_add_left (by omega) _) rfl (by repeat (first | exact HasT.nil | refine HasT.cons rfl rfl rfl ?_)) (by repeat (first | exact HasH.nil | refine HasH.same rfl rfl rfl trivial ?_ | refine HasH.same rfl rfl rfl rfl ?_ | refine HasH.same rfl rfl rfl (fun _ _ => rfl) ?_)) rfl (fun _ h => h)
      | true =>
        have hst : hdZ ps.l i = some (pk, pb, _) := hst
        rw [hst] at hR ⊢
        have hR : goS x true (202 - j) j ps.r.l (pk, c0, true) = _ := hR
        rw [goS_step hnm] at hR
        repeat (first | refine C.seq ?_ | refine C.region ?_ | refine R.zb ttok ?_ | refine R.zu ttok ?_ | refine R.zc ttok ?_ | refine R.za ttok ?_ | refine R.zx ?_ | refine R.zl ttok ?_ | refine R.zs ttok ?_ | refine R.z ttok ?_ | refine R.zk ?_ | refine R.zn ?_ | refine R.done ?_ | refine X.then ?_ | refine C.block ?_ | refine C.ret ?_ | refine C.skip ?_ | refine C.exit ?_ | refine X.pass_ret ?_ | refine X.pass_exit ?_ | refine X.block_normal ?_ | refine X.block_ret ?_ | refine X.block_exit ?_ | refine C.zt ?_ | refine C.zf ?_ | refine X.zo ?_)
        refine R.drop 14 ?_
        refine R.clE [0, 13, 4, 5, 6, 7, 8, 9, 10, 11, 12] (sh1_spec ps true x pk c0 j hI.pok (by omega) (by omega)) G perm_fin (Nat.le_refl _) (fun _ _ => rfl) sh_call (by repeat (first | exact HasIn.nil | refine HasIn.same rfl rfl ?_ | refine HasIn.c1 rfl rfl ?_ | refine HasIn.roq rfl rfl ?_ | refine HasIn.other rfl (fun e => by cases e) (fun ρ x w hh => tab_ro hh) ?_ | refine HasIn.other rfl (fun e => by cases e) (fun ρ x w hh => tab_any hh) ?_ | refine HasIn.roAp rfl rfl ?_ | refine HasIn.other rfl (fun e => by cases e) (fun ρ x w hh => cells_any hh) ?_ | refine HasIn.other rfl (fun e => by cases e) (fun ρ x w hh => ro_any hh) ?_)) rfl rfl rfl (fun _ => rfl) rfl (by kernel_rfl) fun t ht => ?_
        refine R.fperm perm_fout ?_
        rw [← ht.2.2.2.2, ht.1.above] at hR
        have hT : ∀ m, j + 1 ≤ m → (⟨t.1, t.2 ++ G, j + 1, none⟩ : TS).ok true l m := fun m hm => ⟨ht.1, by have h1 := ht.2.1; show t.1.l.length ≤ l.length + (j + 1); omega, hm, cov_more hI.cov ht.2.2.1, fun p hp => by
          rcases List.mem_append.1 hp with hp | hp
          · exact ht.2.2.2.1 p hp
          · exact hI.cells p hp⟩
        cases hov : overB x (j + 1) with
        | false =>
          have hj := overB_no hov
          rw [show abZ t.1.l true pk = hdV (hdZ t.1.l (aboveN t.1.l pk)) from rfl]
          repeat (first | refine C.seq ?_ | refine C.region ?_ | refine R.zb ttok ?_ | refine R.zu ttok ?_ | refine R.zc ttok ?_ | refine R.za ttok ?_ | refine R.zx ?_ | refine R.zl ttok ?_ | refine R.zs ttok ?_ | refine R.z ttok ?_ | refine R.zk ?_ | refine R.zn ?_ | refine R.done ?_ | refine X.then ?_ | refine C.block ?_ | refine C.ret ?_ | refine C.skip ?_ | refine C.exit ?_ | refine X.pass_ret ?_ | refine X.pass_exit ?_ | refine X.block_normal ?_ | refine X.block_ret ?_ | refine X.block_exit ?_ | refine C.zt ?_ | refine C.zf ?_ | refine X.zo ?_)
          refine R.ldo (v := .ptr 0 0 0 0) ttok rfl rfl rfl rfl rfl (by kernel_rfl) Nat.one_pos ?_
          repeat (first | refine C.seq ?_ | refine C.region ?_ | refine R.zb ttok ?_ | refine R.zu ttok ?_ | refine R.zc ttok ?_ | refine R.za ttok ?_ | refine R.zx ?_ | refine R.zl ttok ?_ | refine R.zs ttok ?_ | refine R.z ttok ?_ | refine R.zk ?_ | refine R.zn ?_ | refine R.done ?_ | refine X.then ?_ | refine C.block ?_ | refine C.ret ?_ | refine C.skip ?_ | refine C.exit ?_ | refine X.pass_ret ?_ | refine X.pass_exit ?_ | refine X.block_normal ?_ | refine X.block_ret ?_ | refine X.block_exit ?_ | refine C.zt ?_ | refine C.zf ?_ | refine X.zo ?_)
          refine R.cl [0, 15] (nextI_specZ t.1.l t.1.c pk ht.1.asc (by have := ht.2.1; omega)) Try.call54 (by repeat (first | exact HasIn.nil | refine HasIn.same rfl rfl ?_ | refine HasIn.c1 rfl rfl ?_ | refine HasIn.roq rfl rfl ?_ | refine HasIn.other rfl (fun e => by cases e) (fun ρ x w hh => tab_ro hh) ?_ | refine HasIn.other rfl (fun e => by cases e) (fun ρ x w hh => tab_any hh) ?_ | refine HasIn.roAp rfl rfl ?_ | refine HasIn.other rfl (fun e => by cases e) (fun ρ x w hh => cells_any hh) ?_ | refine HasIn.other rfl (fun e => by cases e) (fun ρ x w hh => ro_any hh) ?_)) rfl rfl rfl (fun _ => rfl) rfl (by kernel_rfl) fun _ _ => ?_
          repeat (first | refine C.seq ?_ | refine C.region ?_ | refine R.zb ttok ?_ | refine R.zu ttok ?_ | refine R.zc ttok ?_ | refine R.za ttok ?_ | refine R.zx ?_ | refine R.zl ttok ?_ | refine R.zs ttok ?_ | refine R.z ttok ?_ | refine R.zk ?_ | refine R.zn ?_ | refine R.done ?_ | refine X.then ?_ | refine C.block ?_ | refine C.ret ?_ | refine C.skip ?_ | refine C.exit ?_ | refine X.pass_ret ?_ | refine X.pass_exit ?_ | refine X.block_normal ?_ | refine X.block_ret ?_ | refine X.block_exit ?_ | refine C.zt ?_ | refine C.zf ?_ | refine X.zo ?_)
          exact X.backG [(13, 15)] ((⟨t.1, t.2 ++ G, j + 1, none⟩ : TS), aboveN t.1.l pk) ⟨hT 200 hj, aboveN_le _ _, by rw [hov, if_neg (by decide)] at hR; exact hR⟩ (mu_step hj (a := t.1.l.length) (by have h1 := ht.2.1; omega)) rfl (by repeat (first | exact HasT.nil | refine HasT.cons rfl rfl rfl ?_)) (by repeat (first | exact HasH.nil | refine HasH.same rfl rfl rfl trivial ?_ | refine HasH.same rfl rfl rfl rfl ?_ | refine HasH.same rfl rfl rfl (fun _ _ => rfl) ?_)) rfl (fun _ h => h)
        | true =>
          have hQ := hT 201 (by omega)
          repeat (first | refine C.seq ?_ | refine C.region ?_ | refine R.zb ttok ?_ | refine R.zu ttok ?_ | refine R.zc ttok ?_ | refine R.za ttok ?_ | refine R.zx ?_ | refine R.zl ttok ?_ | refine R.zs ttok ?_ | refine R.z ttok ?_ | refine R.zk ?_ | refine R.zn ?_ | refine R.done ?_ | refine X.then ?_ | refine C.block ?_ | refine C.ret ?_ | refine C.skip ?_ | refine C.exit ?_ | refine X.pass_ret ?_ | refine X.pass_exit ?_ | refine X.block_normal ?_ | refine X.block_ret ?_ | refine X.block_exit ?_ | refine C.zt ?_ | refine C.zf ?_ | refine X.zo ?_)
          refine X.finF ttok (⟨t.1, t.2 ++ G, (abZ t.1.l true pk).2.2, true⟩ : HS) [(13, 15)] ⟨⟨hQ.pok, by have h1 := ht.2.1; show t.1.l.length ≤ l.length + 201; omega, hQ.cov, hQ.cells, .inl rfl⟩, by rw [hov, if_pos rfl] at hR; exact hR⟩ rfl rfl rfl (by repeat (first | exact HasH.nil | refine HasH.same rfl rfl rfl trivial ?_ | refine HasH.same rfl rfl rfl rfl ?_ | refine HasH.same rfl rfl rfl (fun _ _ => rfl) ?_)) _ (by first | exact .inl rfl | exact .inr rfl) ?_ ?_ ?_
          · exact fun w' hf => hf.ap
          · exact fun p hp => hp
          · exact cov_all hQ.cov
  · rw [decide_eq_false hlt]
    have hlt : ¬ i < ps.l.length := hlt
    obtain rfl : i = ps.l.length := by have : i ≤ ps.l.length := hi; omega
    rw [hdZ_end (Nat.le_refl _)] at hR ⊢
    rw [goS_end rfl] at hR
    repeat (first | refine C.seq ?_ | refine C.region ?_ | refine R.zb ttok ?_ | refine R.zu ttok ?_ | refine R.zc ttok ?_ | refine R.za ttok ?_ | refine R.zx ?_ | refine R.zl ttok ?_ | refine R.zs ttok ?_ | refine R.z ttok ?_ | refine R.zk ?_ | refine R.zn ?_ | refine R.done ?_ | refine X.then ?_ | refine C.block ?_ | refine C.ret ?_ | refine C.skip ?_ | refine C.exit ?_ | refine X.pass_ret ?_ | refine X.pass_exit ?_ | refine X.block_normal ?_ | refine X.block_ret ?_ | refine X.block_exit ?_ | refine C.zt ?_ | refine C.zf ?_ | refine X.zo ?_)
    refine X.finF ttok (⟨ps, G, false, false⟩ : HS) [] ⟨⟨hI.pok, (by show ps.l.length ≤ l.length + 201; omega), hI.cov, hI.cells, .inr rfl⟩, hR⟩ rfl rfl rfl (by repeat (first | exact HasH.nil | refine HasH.same rfl rfl rfl trivial ?_ | refine HasH.same rfl rfl rfl rfl ?_ | refine HasH.same rfl rfl rfl (fun _ _ => rfl) ?_)) _ (by first | exact .inl rfl | exact .inr rfl) ?_ ?_ ?_
    · exact fun w' hf => hf.ap
    · exact fun p hp => hp
    · exact cov_all hI.cov
end Go.Proofs.Yteabncomclgncaa
namespace Go.Proofs.Yteabncomclgncaa
set_option linter.unusedVariables false
set_option linter.unusedSimpArgs false
open Go.RowKit
set_option maxRecDepth 100000
set_option maxHeartbeats 8000000
theorem snZ_call (args : Array Value) (w : World) : (callFunc snZ args).run Try.prog w = .ok (.enter snZ args) w := Try.call53 args w
theorem shot_spec (s : PS) (mk : Bool) (x : StZ) (hs : s.ok mk) (hl : s.l.length ≤ 500000) :
    SpecF Try.prog 65 [.ptr 0 0 0 0, s.r.v mk, .agg (stZ x)] [tbIZ 1 s.l.length s.c ((VZ s.l).length : Nat) mk, tIZ s.l s.c] 3 (zF s.l ++ rF s.r) (σ := PS × Fam) (PSM s mk (shotP x mk s.r.l))
    (fun t => .tup [t.1.r.v mk, .raw (.bool true)]) (fun t => [(0, tbIZ 2 t.1.l.length t.1.c ((VZ t.1.l).length : Nat) mk), (2, tIZ t.1.l t.1.c)]) psF := by
  refine SpecF.of Try.func65 rfl Try.ntmps65 rfl (bdl_cons rfl (bdl_cons (fun _ _ => rfl) (bdl_nil _))) fun ρ w => ?_
  have hrl := hs.rlen
  have hrA := hs.rA
  have hrz : shotP x mk s.r.l = resS x mk x.key s.l s.r.l := by unfold shotP; rw [hs.above]
  repeat (first | refine C.seq ?_ | refine C.region ?_ | refine R.zb ttok ?_ | refine R.zu ttok ?_ | refine R.zc ttok ?_ | refine R.za ttok ?_ | refine R.zx ?_ | refine R.zl ttok ?_ | refine R.zs ttok ?_ | refine R.z ttok ?_ | refine R.zk ?_ | refine R.zn ?_ | refine R.done ?_ | refine X.then ?_ | refine C.block ?_ | refine C.ret ?_ | refine C.skip ?_ | refine C.exit ?_ | refine X.pass_ret ?_ | refine X.pass_exit ?_ | refine X.block_normal ?_ | refine X.block_ret ?_ | refine X.block_exit ?_ | refine C.zt ?_ | refine C.zf ?_ | refine X.zo ?_)
  refine R.labR 15 s.r hs.rok (fun p hp => List.mem_append_right _ hp) rfl ?_
  repeat (first | refine C.seq ?_ | refine C.region ?_ | refine R.zb ttok ?_ | refine R.zu ttok ?_ | refine R.zc ttok ?_ | refine R.za ttok ?_ | refine R.zx ?_ | refine R.zl ttok ?_ | refine R.zs ttok ?_ | refine R.z ttok ?_ | refine R.zk ?_ | refine R.zn ?_ | refine R.done ?_ | refine X.then ?_ | refine C.block ?_ | refine C.ret ?_ | refine C.skip ?_ | refine C.exit ?_ | refine X.pass_ret ?_ | refine X.pass_exit ?_ | refine X.block_normal ?_ | refine X.block_ret ?_ | refine X.block_exit ?_ | refine C.zt ?_ | refine C.zf ?_ | refine X.zo ?_)
  refine R.cl [6] (above_specR s.r.l s.r.c mk x.key (by omega)) Try.call70 (by repeat (first | exact HasIn.nil | refine HasIn.same rfl rfl ?_ | refine HasIn.bro rfl ?_ | refine HasIn.ror rfl ?_ | refine HasIn.cro rfl rfl ?_)) rfl rfl rfl (fun _ => rfl) rfl (by kernel_rfl) fun _ _ => ?_
  rw [hs.above]
  refine R.drop 6 ?_
  repeat (first | refine C.seq ?_ | refine C.region ?_ | refine R.zb ttok ?_ | refine R.zu ttok ?_ | refine R.zc ttok ?_ | refine R.za ttok ?_ | refine R.zx ?_ | refine R.zl ttok ?_ | refine R.zs ttok ?_ | refine R.z ttok ?_ | refine R.zk ?_ | refine R.zn ?_ | refine R.done ?_ | refine X.then ?_ | refine C.block ?_ | refine C.ret ?_ | refine C.skip ?_ | refine C.exit ?_ | refine X.pass_ret ?_ | refine X.pass_exit ?_ | refine X.block_normal ?_ | refine X.block_ret ?_ | refine X.block_exit ?_ | refine C.zt ?_ | refine C.zf ?_ | refine X.zo ?_)
  refine R.cl [0] (snap_specZ x.key) Try.call24 (by repeat (first | exact HasIn.nil | refine HasIn.same rfl rfl ?_ | refine HasIn.c1 rfl rfl ?_ | refine HasIn.roq rfl rfl ?_ | refine HasIn.other rfl (fun e => by cases e) (fun ρ x w hh => tab_ro hh) ?_ | refine HasIn.other rfl (fun e => by cases e) (fun ρ x w hh => tab_any hh) ?_ | refine HasIn.roAp rfl rfl ?_ | refine HasIn.other rfl (fun e => by cases e) (fun ρ x w hh => cells_any hh) ?_ | refine HasIn.other rfl (fun e => by cases e) (fun ρ x w hh => ro_any hh) ?_)) rfl rfl rfl (fun _ => rfl) rfl (by kernel_rfl) fun _ _ => ?_
  repeat (first | refine C.seq ?_ | refine C.region ?_ | refine R.zb ttok ?_ | refine R.zu ttok ?_ | refine R.zc ttok ?_ | refine R.za ttok ?_ | refine R.zx ?_ | refine R.zl ttok ?_ | refine R.zs ttok ?_ | refine R.z ttok ?_ | refine R.zk ?_ | refine R.zn ?_ | refine R.done ?_ | refine X.then ?_ | refine C.block ?_ | refine C.ret ?_ | refine C.skip ?_ | refine C.exit ?_ | refine X.pass_ret ?_ | refine X.pass_exit ?_ | refine X.block_normal ?_ | refine X.block_ret ?_ | refine X.block_exit ?_ | refine C.zt ?_ | refine C.zf ?_ | refine X.zo ?_)
  refine R.clE [0, 1, 13, 14, 10, 12, 9, 7, 8, 11, 2, 3, 4] (snSh_spec s.l s.c s.r mk x x.key hs hl) ([] : Fam) (by rw [List.append_nil]) (Nat.le_refl _) (fun _ _ => rfl) snZ_call (by repeat (first | exact HasIn.nil | refine HasIn.same rfl rfl ?_ | refine HasIn.c1 rfl rfl ?_ | refine HasIn.roq rfl rfl ?_ | refine HasIn.other rfl (fun e => by cases e) (fun ρ x w hh => tab_ro hh) ?_ | refine HasIn.other rfl (fun e => by cases e) (fun ρ x w hh => tab_any hh) ?_ | refine HasIn.roAp rfl rfl ?_ | refine HasIn.other rfl (fun e => by cases e) (fun ρ x w hh => cells_any hh) ?_ | refine HasIn.other rfl (fun e => by cases e) (fun ρ x w hh => ro_any hh) ?_)) rfl rfl rfl (fun _ => rfl) rfl (by kernel_rfl) fun t ⟨ht, hres⟩ => ?_
  rw [← hrz] at hres
  refine R.fperm (fs2 := psF (t.ps, t.G)) (by rw [List.append_nil]) ?_
  obtain ⟨ps, G, is_, ov⟩ := t
  have hfin := ht.fin
  dsimp only at hfin hres
  repeat (first | refine C.seq ?_ | refine C.region ?_ | refine R.zb ttok ?_ | refine R.zu ttok ?_ | refine R.zc ttok ?_ | refine R.za ttok ?_ | refine R.zx ?_ | refine R.zl ttok ?_ | refine R.zs ttok ?_ | refine R.z ttok ?_ | refine R.zk ?_ | refine R.zn ?_ | refine R.done ?_ | refine X.then ?_ | refine C.block ?_ | refine C.ret ?_ | refine C.skip ?_ | refine C.exit ?_ | refine X.pass_ret ?_ | refine X.pass_exit ?_ | refine X.block_normal ?_ | refine X.block_ret ?_ | refine X.block_exit ?_ | refine C.zt ?_ | refine C.zf ?_ | refine X.zo ?_)
  refine C.draw [[], [], [1], [1, 2], [1, 2, 3], [1, 2, 3, 4], [1, 2, 3, 4, 5], [1, 2, 3, 4, 5, 6], [1, 2, 3, 4, 5, 6, 7], [0, 1, 2, 3, 4], [0, 1, 2, 3, 4, 5, 6, 7, 8, 9]] [9] (by kernel_rfl) (by kernel_rfl) ?_
  cases ov with
  | true =>
    repeat (first | refine C.seq ?_ | refine C.region ?_ | refine R.zb ttok ?_ | refine R.zu ttok ?_ | refine R.zc ttok ?_ | refine R.za ttok ?_ | refine R.zx ?_ | refine R.zl ttok ?_ | refine R.zs ttok ?_ | refine R.z ttok ?_ | refine R.zk ?_ | refine R.zn ?_ | refine R.done ?_ | refine X.then ?_ | refine C.block ?_ | refine C.ret ?_ | refine C.skip ?_ | refine C.exit ?_ | refine X.pass_ret ?_ | refine X.pass_exit ?_ | refine X.block_normal ?_ | refine X.block_ret ?_ | refine X.block_exit ?_ | refine C.zt ?_ | refine C.zf ?_ | refine X.zo ?_)
    refine X.finF ttok (ps, G) [(2, 15)] ⟨ht.pok, ht.len, ht.cov, hres⟩ rfl rfl rfl (by repeat (first | exact HasH.nil | refine HasH.same rfl rfl rfl trivial ?_ | refine HasH.same rfl rfl rfl rfl ?_ | refine HasH.same rfl rfl rfl (fun _ _ => rfl) ?_ | refine HasH.ros rfl rfl ?_)) _ (by first | exact .inl rfl | exact .inr rfl) ?_ ?_ ?_
    · exact fun w' hf => hf.ap
    · exact fun p hp => hp
    · exact cov_all ht.cov
  | false =>
    obtain rfl : is_ = false := by
      rcases hfin with h | h
      · cases h
      · exact h
    repeat (first | refine C.seq ?_ | refine C.region ?_ | refine R.zb ttok ?_ | refine R.zu ttok ?_ | refine R.zc ttok ?_ | refine R.za ttok ?_ | refine R.zx ?_ | refine R.zl ttok ?_ | refine R.zs ttok ?_ | refine R.z ttok ?_ | refine R.zk ?_ | refine R.zn ?_ | refine R.done ?_ | refine X.then ?_ | refine C.block ?_ | refine C.ret ?_ | refine C.skip ?_ | refine C.exit ?_ | refine X.pass_ret ?_ | refine X.pass_exit ?_ | refine X.block_normal ?_ | refine X.block_ret ?_ | refine X.block_exit ?_ | refine C.zt ?_ | refine C.zf ?_ | refine X.zo ?_)
    refine X.finF ttok (ps, G) [(2, 15)] ⟨ht.pok, ht.len, ht.cov, hres⟩ rfl rfl rfl (by repeat (first | exact HasH.nil | refine HasH.same rfl rfl rfl trivial ?_ | refine HasH.same rfl rfl rfl rfl ?_ | refine HasH.same rfl rfl rfl (fun _ _ => rfl) ?_ | refine HasH.ros rfl rfl ?_)) _ (by first | exact .inl rfl | exact .inr rfl) ?_ ?_ ?_
    · exact fun w' hf => hf.ap
    · exact fun p hp => hp
    · exact cov_all ht.cov
end Go.Proofs.Yteabncomclgncaa
namespace Go.Proofs.Yteabncomclgncaa
set_option linter.unusedVariables false
set_option linter.unusedSimpArgs false
open Go.RowKit
set_option maxRecDepth 100000
set_option maxHeartbeats 8000000
/-- a call, on the document's list -/
def stepP (x : StZ) (mk : Bool) (r : PL) : PL × Bool :=
  if x.kind = 1 then (putP r x.key x.v, mk) else if x.kind = 2 then (delP r x.key mk, mk) else if x.kind = 3 then (if mk then r else markP r, true) else if x.kind = 4 then (if mk then keptP r else r, false)
  else if x.kind = 5 then (rangedP x mk r, mk) else if x.kind = 6 then (shotP x mk r, mk) else (r, mk)
abbrev PSS (s : PS) (q : PL × Bool) (t : PS × Fam × Bool) : Prop := t.1.ok t.2.2 ∧ t.1.l.length ≤ s.l.length + 201 ∧ Cov (zF s.l) (zF t.1.l ++ t.2.1) ∧ (t.1.r.l, t.2.2) = q
theorem PS.ok.mark {s : PS} {mk : Bool} (h : s.ok mk) {r' : Rf} (hr : r'.ok) (he : r'.l = if mk then s.r.l else markP s.r.l) : PS.ok ⟨if mk then s.l else zsw s.l Sl.mark, s.c, r'⟩ true := by
  have hz := zsw_len s.l Sl.mark
  have hc := h.c1
  cases mk with
  | true =>
    simp only [if_true] at he ⊢
    exact ⟨h.asc, h.dz, fun e => (by cases e), hr, he.trans h.rl, h.c1, h.c2⟩
  | false =>
    simp only [Bool.false_eq_true, if_false] at he ⊢
    refine ⟨asc_zsw h.asc _, dz_al (alz_zsw _ _), fun e => (by cases e), hr, ?_, Nat.le_trans hz hc, h.c2⟩
    rw [he, h.rl]
    exact plZ_mark _
theorem PS.ok.done {s : PS} {mk : Bool} (h : s.ok mk) {r' : Rf} (hr : r'.ok) (he : r'.l = if mk then keptP s.r.l else s.r.l) : PS.ok ⟨if mk then zsw s.l id else s.l, s.c, r'⟩ false := by
  have hz := zsw_len s.l id
  have hc := h.c1
  cases mk with
  | true =>
    simp only [if_true] at he ⊢
    refine ⟨asc_zsw h.asc _, dz_al (alz_zsw _ _), fun e => alz_zsw _ _, hr, ?_, Nat.le_trans hz hc, h.c2⟩
    rw [he, h.rl]
    exact plZ_done _
  | false =>
    simp only [Bool.false_eq_true, if_false] at he ⊢
    exact ⟨h.asc, h.dz, h.al, hr, he.trans h.rl, h.c1, h.c2⟩
theorem vl_mark (l : ZL) (mk : Bool) : (VZ (if mk then l else zsw l Sl.mark)).length = (VZ l).length := by
  cases mk with
  | true => rfl
  | false => simp only [Bool.false_eq_true, if_false]; rw [vz_sw l Sl.mark (fun s => (mark_held s).2.1) (fun s => rfl)]
theorem vl_done (l : ZL) (mk : Bool) : (VZ (if mk then zsw l id else l)).length = (VZ l).length := by
  cases mk with
  | true => simp only [if_true]; rw [vz_sw l id (fun s => rfl) (fun s => rfl)]
  | false => rfl
theorem len_mark (l : ZL) (mk : Bool) : (if mk then l else zsw l Sl.mark).length ≤ l.length := by
  cases mk with
  | true => exact Nat.le_refl _
  | false => exact zsw_len _ _
theorem len_done (l : ZL) (mk : Bool) : (if mk then zsw l id else l).length ≤ l.length := by
  cases mk with
  | true => exact zsw_len _ _
  | false => exact Nat.le_refl _
theorem perm_zr {Z G R : Fam} : ((Z ++ G) ++ R).Perm (Z ++ (R ++ G)) := by
  rw [List.append_assoc]
  exact List.Perm.append_left _ List.perm_append_comm
theorem step_spec (s : PS) (mk : Bool) (x : StZ) (hs : s.ok mk) (hl : s.l.length ≤ 500000) :
    SpecF Try.prog 32 [.ptr 0 0 0 0, s.r.v mk, .agg (stZ x)] [tbIZ 1 s.l.length s.c ((VZ s.l).length : Nat) mk, tIZ s.l s.c] 3 (zF s.l ++ rF s.r) (σ := PS × Fam × Bool) (PSS s (stepP x mk s.r.l))
    (fun t => .tup [t.1.r.v t.2.2, .raw (.bool true)]) (fun t => [(0, tbIZ 2 t.1.l.length t.1.c ((VZ t.1.l).length : Nat) t.2.2), (2, tIZ t.1.l t.1.c)]) (fun t => psF (t.1, t.2.1)) := by
  refine SpecF.of Try.func32 rfl Try.ntmps32 rfl (bdl_cons rfl (bdl_cons (fun _ _ => rfl) (bdl_nil _))) fun ρ w => ?_
  have hrl := hs.rlen
  have hrA := hs.rA
  have hvl := vz_le s.l
  unfold stepP
  repeat (first | refine C.seq ?_ | refine C.region ?_ | refine R.zb ttok ?_ | refine R.zu ttok ?_ | refine R.zc ttok ?_ | refine R.za ttok ?_ | refine R.zx ?_ | refine R.zl ttok ?_ | refine R.zs ttok ?_ | refine R.z ttok ?_ | refine R.zk ?_ | refine R.zn ?_ | refine R.done ?_ | refine X.then ?_ | refine C.block ?_ | refine C.ret ?_ | refine C.skip ?_ | refine C.exit ?_ | refine X.pass_ret ?_ | refine X.pass_exit ?_ | refine X.block_normal ?_ | refine X.block_ret ?_ | refine X.block_exit ?_ | refine C.zt ?_ | refine C.zf ?_ | refine X.zo ?_)
  by_cases h1 : x.kind = 1
  · rw [decide_eq_true h1, if_pos h1]
    repeat (first | refine C.seq ?_ | refine C.region ?_ | refine R.zb ttok ?_ | refine R.zu ttok ?_ | refine R.zc ttok ?_ | refine R.za ttok ?_ | refine R.zx ?_ | refine R.zl ttok ?_ | refine R.zs ttok ?_ | refine R.z ttok ?_ | refine R.zk ?_ | refine R.zn ?_ | refine R.done ?_ | refine X.then ?_ | refine C.block ?_ | refine C.ret ?_ | refine C.skip ?_ | refine C.exit ?_ | refine X.pass_ret ?_ | refine X.pass_exit ?_ | refine X.block_normal ?_ | refine X.block_ret ?_ | refine X.block_exit ?_ | refine C.zt ?_ | refine C.zf ?_ | refine X.zo ?_)
    refine R.clE [0, 1] (put_specZ s.l s.c x.key x.v ((VZ s.l).length : Nat) mk hs.asc (by omega) hs.c1 hs.c2 (by omega) (by omega)) (rF s.r) (.refl _) (Nat.le_refl _) (fun _ _ => rfl) Try.call36 (by repeat (first | exact HasIn.nil | refine HasIn.same rfl rfl ?_ | refine HasIn.c1 rfl rfl ?_ | refine HasIn.roq rfl rfl ?_ | refine HasIn.other rfl (fun e => by cases e) (fun ρ x w hh => tab_ro hh) ?_ | refine HasIn.other rfl (fun e => by cases e) (fun ρ x w hh => tab_any hh) ?_ | refine HasIn.roAp rfl rfl ?_ | refine HasIn.other rfl (fun e => by cases e) (fun ρ x w hh => cells_any hh) ?_ | refine HasIn.other rfl (fun e => by cases e) (fun ρ x w hh => ro_any hh) ?_)) rfl rfl rfl (fun _ => rfl) rfl (by kernel_rfl) fun q hq => ?_
    rw [vlen_put hs.asc x.key x.v q.2]
    repeat (first | refine C.seq ?_ | refine C.region ?_ | refine R.zb ttok ?_ | refine R.zu ttok ?_ | refine R.zc ttok ?_ | refine R.za ttok ?_ | refine R.zx ?_ | refine R.zl ttok ?_ | refine R.zs ttok ?_ | refine R.z ttok ?_ | refine R.zk ?_ | refine R.zn ?_ | refine R.done ?_ | refine X.then ?_ | refine C.block ?_ | refine C.ret ?_ | refine C.skip ?_ | refine C.exit ?_ | refine X.pass_ret ?_ | refine X.pass_exit ?_ | refine X.block_normal ?_ | refine X.block_ret ?_ | refine X.block_exit ?_ | refine C.zt ?_ | refine C.zf ?_ | refine X.zo ?_)
    refine R.clE [] (put_specR s.r mk x.key x.v hs.rok hrA (by omega)) (zF (zput s.l x.key x.v q.2)) (List.perm_append_comm) (Nat.le_refl _) (fun _ _ => rfl) Try.call60 (by repeat (first | exact HasIn.nil | refine HasIn.same rfl rfl ?_ | refine HasIn.c1 rfl rfl ?_ | refine HasIn.roq rfl rfl ?_ | refine HasIn.other rfl (fun e => by cases e) (fun ρ x w hh => tab_ro hh) ?_ | refine HasIn.other rfl (fun e => by cases e) (fun ρ x w hh => tab_any hh) ?_ | refine HasIn.roAp rfl rfl ?_ | refine HasIn.other rfl (fun e => by cases e) (fun ρ x w hh => cells_any hh) ?_ | refine HasIn.other rfl (fun e => by cases e) (fun ρ x w hh => ro_any hh) ?_)) rfl rfl rfl (fun _ => rfl) rfl (by kernel_rfl) fun r1 hr1 => ?_
    have hcv : Cov (zF s.l) (zF (zput s.l x.key x.v q.2) ++ []) := by rw [List.append_nil]; exact cov_put _ _ _ _
    have hpl := put_le s.l x.key x.v q.2
    repeat (first | refine C.seq ?_ | refine C.region ?_ | refine R.zb ttok ?_ | refine R.zu ttok ?_ | refine R.zc ttok ?_ | refine R.za ttok ?_ | refine R.zx ?_ | refine R.zl ttok ?_ | refine R.zs ttok ?_ | refine R.z ttok ?_ | refine R.zk ?_ | refine R.zn ?_ | refine R.done ?_ | refine X.then ?_ | refine C.block ?_ | refine C.ret ?_ | refine C.skip ?_ | refine C.exit ?_ | refine X.pass_ret ?_ | refine X.pass_exit ?_ | refine X.block_normal ?_ | refine X.block_ret ?_ | refine X.block_exit ?_ | refine C.zt ?_ | refine C.zf ?_ | refine X.zo ?_)
    refine X.fperm (fs2 := zF (zput s.l x.key x.v q.2) ++ (rF r1 ++ [])) (by rw [List.append_nil]; exact List.perm_append_comm) ?_
    refine X.finF ttok (⟨zput s.l x.key x.v q.2, q.1, r1⟩, [], mk) [(2, 5)] ⟨hs.put hr1.1 hr1.2 hq.1 hq.2, (by show (zput s.l x.key x.v q.2).length ≤ s.l.length + 201; omega), hcv, by rw [← hr1.2]⟩ rfl rfl rfl (by repeat (first | exact HasH.nil | refine HasH.same rfl rfl rfl trivial ?_ | refine HasH.same rfl rfl rfl rfl ?_ | refine HasH.same rfl rfl rfl (fun _ _ => rfl) ?_ | refine HasH.ros rfl rfl ?_)) _ (by first | exact .inl rfl | exact .inr rfl) ?_ ?_ ?_
    · exact fun w' hf => hf.ap
    · exact fun p hp => hp
    · exact cov_all hcv
  rw [decide_eq_false h1, if_neg h1]
  repeat (first | refine C.seq ?_ | refine C.region ?_ | refine R.zb ttok ?_ | refine R.zu ttok ?_ | refine R.zc ttok ?_ | refine R.za ttok ?_ | refine R.zx ?_ | refine R.zl ttok ?_ | refine R.zs ttok ?_ | refine R.z ttok ?_ | refine R.zk ?_ | refine R.zn ?_ | refine R.done ?_ | refine X.then ?_ | refine C.block ?_ | refine C.ret ?_ | refine C.skip ?_ | refine C.exit ?_ | refine X.pass_ret ?_ | refine X.pass_exit ?_ | refine X.block_normal ?_ | refine X.block_ret ?_ | refine X.block_exit ?_ | refine C.zt ?_ | refine C.zf ?_ | refine X.zo ?_)
  by_cases h2 : x.kind = 2
  · rw [decide_eq_true h2, if_pos h2]
    repeat (first | refine C.seq ?_ | refine C.region ?_ | refine R.zb ttok ?_ | refine R.zu ttok ?_ | refine R.zc ttok ?_ | refine R.za ttok ?_ | refine R.zx ?_ | refine R.zl ttok ?_ | refine R.zs ttok ?_ | refine R.z ttok ?_ | refine R.zk ?_ | refine R.zn ?_ | refine R.done ?_ | refine X.then ?_ | refine C.block ?_ | refine C.ret ?_ | refine C.skip ?_ | refine C.exit ?_ | refine X.pass_ret ?_ | refine X.pass_exit ?_ | refine X.block_normal ?_ | refine X.block_ret ?_ | refine X.block_exit ?_ | refine C.zt ?_ | refine C.zf ?_ | refine X.zo ?_)
    refine R.clE [0, 1] (del_specZ s.l s.c x.key ((VZ s.l).length : Nat) mk hs.asc (by omega) hs.c1 hs.c2 (by omega) (by omega)) (rF s.r) (.refl _) (Nat.le_refl _) (fun _ _ => rfl) Try.call30 (by repeat (first | exact HasIn.nil | refine HasIn.same rfl rfl ?_ | refine HasIn.c1 rfl rfl ?_ | refine HasIn.roq rfl rfl ?_ | refine HasIn.other rfl (fun e => by cases e) (fun ρ x w hh => tab_ro hh) ?_ | refine HasIn.other rfl (fun e => by cases e) (fun ρ x w hh => tab_any hh) ?_ | refine HasIn.roAp rfl rfl ?_ | refine HasIn.other rfl (fun e => by cases e) (fun ρ x w hh => cells_any hh) ?_ | refine HasIn.other rfl (fun e => by cases e) (fun ρ x w hh => ro_any hh) ?_)) rfl rfl rfl (fun _ => rfl) rfl (by kernel_rfl) fun G hG => ?_
    rw [vlen_del hs.asc x.key mk]
    repeat (first | refine C.seq ?_ | refine C.region ?_ | refine R.zb ttok ?_ | refine R.zu ttok ?_ | refine R.zc ttok ?_ | refine R.za ttok ?_ | refine R.zx ?_ | refine R.zl ttok ?_ | refine R.zs ttok ?_ | refine R.z ttok ?_ | refine R.zk ?_ | refine R.zn ?_ | refine R.done ?_ | refine X.then ?_ | refine C.block ?_ | refine C.ret ?_ | refine C.skip ?_ | refine C.exit ?_ | refine X.pass_ret ?_ | refine X.pass_exit ?_ | refine X.block_normal ?_ | refine X.block_ret ?_ | refine X.block_exit ?_ | refine C.zt ?_ | refine C.zf ?_ | refine X.zo ?_)
    refine R.clE [] (del_specR s.r mk x.key hs.rok hrA (by omega)) (zF (zdel s.l x.key mk) ++ G) (List.perm_append_comm) (Nat.le_refl _) (fun _ _ => rfl) Try.call61 (by repeat (first | exact HasIn.nil | refine HasIn.same rfl rfl ?_ | refine HasIn.c1 rfl rfl ?_ | refine HasIn.roq rfl rfl ?_ | refine HasIn.other rfl (fun e => by cases e) (fun ρ x w hh => tab_ro hh) ?_ | refine HasIn.other rfl (fun e => by cases e) (fun ρ x w hh => tab_any hh) ?_ | refine HasIn.roAp rfl rfl ?_ | refine HasIn.other rfl (fun e => by cases e) (fun ρ x w hh => cells_any hh) ?_ | refine HasIn.other rfl (fun e => by cases e) (fun ρ x w hh => ro_any hh) ?_)) rfl rfl rfl (fun _ => rfl) rfl (by kernel_rfl) fun r1 hr1 => ?_
    have hpl := zdel_le s.l x.key mk
    repeat (first | refine C.seq ?_ | refine C.region ?_ | refine R.zb ttok ?_ | refine R.zu ttok ?_ | refine R.zc ttok ?_ | refine R.za ttok ?_ | refine R.zx ?_ | refine R.zl ttok ?_ | refine R.zs ttok ?_ | refine R.z ttok ?_ | refine R.zk ?_ | refine R.zn ?_ | refine R.done ?_ | refine X.then ?_ | refine C.block ?_ | refine C.ret ?_ | refine C.skip ?_ | refine C.exit ?_ | refine X.pass_ret ?_ | refine X.pass_exit ?_ | refine X.block_normal ?_ | refine X.block_ret ?_ | refine X.block_exit ?_ | refine C.zt ?_ | refine C.zf ?_ | refine X.zo ?_)
    refine X.fperm (List.perm_append_comm_assoc (rF r1) (zF (zdel s.l x.key mk)) G) ?_
    refine X.finF ttok (⟨zdel s.l x.key mk, s.c, r1⟩, G, mk) [(2, 1)] ⟨hs.del hr1.1 hr1.2, (by show (zdel s.l x.key mk).length ≤ s.l.length + 201; omega), hG.1, by rw [← hr1.2]⟩ rfl rfl rfl (by repeat (first | exact HasH.nil | refine HasH.same rfl rfl rfl trivial ?_ | refine HasH.same rfl rfl rfl rfl ?_ | refine HasH.same rfl rfl rfl (fun _ _ => rfl) ?_ | refine HasH.ros rfl rfl ?_)) _ (by first | exact .inl rfl | exact .inr rfl) ?_ ?_ ?_
    · exact fun w' hf => hf.ap
    · exact fun p hp => hp
    · exact cov_all hG.1
  rw [decide_eq_false h2, if_neg h2]
  repeat (first | refine C.seq ?_ | refine C.region ?_ | refine R.zb ttok ?_ | refine R.zu ttok ?_ | refine R.zc ttok ?_ | refine R.za ttok ?_ | refine R.zx ?_ | refine R.zl ttok ?_ | refine R.zs ttok ?_ | refine R.z ttok ?_ | refine R.zk ?_ | refine R.zn ?_ | refine R.done ?_ | refine X.then ?_ | refine C.block ?_ | refine C.ret ?_ | refine C.skip ?_ | refine C.exit ?_ | refine X.pass_ret ?_ | refine X.pass_exit ?_ | refine X.block_normal ?_ | refine X.block_ret ?_ | refine X.block_exit ?_ | refine C.zt ?_ | refine C.zf ?_ | refine X.zo ?_)
  by_cases h3 : x.kind = 3
  · rw [decide_eq_true h3, if_pos h3]
    repeat (first | refine C.seq ?_ | refine C.region ?_ | refine R.zb ttok ?_ | refine R.zu ttok ?_ | refine R.zc ttok ?_ | refine R.za ttok ?_ | refine R.zx ?_ | refine R.zl ttok ?_ | refine R.zs ttok ?_ | refine R.z ttok ?_ | refine R.zk ?_ | refine R.zn ?_ | refine R.done ?_ | refine X.then ?_ | refine C.block ?_ | refine C.ret ?_ | refine C.skip ?_ | refine C.exit ?_ | refine X.pass_ret ?_ | refine X.pass_exit ?_ | refine X.block_normal ?_ | refine X.block_ret ?_ | refine X.block_exit ?_ | refine C.zt ?_ | refine C.zf ?_ | refine X.zo ?_)
    refine R.clE [] (mark_specR s.r mk hs.rok (by omega)) (zF s.l) (List.perm_append_comm) (Nat.le_refl _) (fun _ _ => rfl) Try.call62 (by repeat (first | exact HasIn.nil | refine HasIn.same rfl rfl ?_ | refine HasIn.c1 rfl rfl ?_ | refine HasIn.roq rfl rfl ?_ | refine HasIn.other rfl (fun e => by cases e) (fun ρ x w hh => tab_ro hh) ?_ | refine HasIn.other rfl (fun e => by cases e) (fun ρ x w hh => tab_any hh) ?_ | refine HasIn.roAp rfl rfl ?_ | refine HasIn.other rfl (fun e => by cases e) (fun ρ x w hh => cells_any hh) ?_ | refine HasIn.other rfl (fun e => by cases e) (fun ρ x w hh => ro_any hh) ?_)) rfl rfl rfl (fun _ => rfl) rfl (by kernel_rfl) fun r1 hr1 => ?_
    repeat (first | refine C.seq ?_ | refine C.region ?_ | refine R.zb ttok ?_ | refine R.zu ttok ?_ | refine R.zc ttok ?_ | refine R.za ttok ?_ | refine R.zx ?_ | refine R.zl ttok ?_ | refine R.zs ttok ?_ | refine R.z ttok ?_ | refine R.zk ?_ | refine R.zn ?_ | refine R.done ?_ | refine X.then ?_ | refine C.block ?_ | refine C.ret ?_ | refine C.skip ?_ | refine C.exit ?_ | refine X.pass_ret ?_ | refine X.pass_exit ?_ | refine X.block_normal ?_ | refine X.block_ret ?_ | refine X.block_exit ?_ | refine C.zt ?_ | refine C.zf ?_ | refine X.zo ?_)
    refine C.draw [[], [], [1], [], [1, 2, 3], [0, 1, 2], [0, 1, 2, 3, 4, 5]] [2, 5] (by kernel_rfl) (by kernel_rfl) ?_
    repeat (first | refine C.seq ?_ | refine C.region ?_ | refine R.zb ttok ?_ | refine R.zu ttok ?_ | refine R.zc ttok ?_ | refine R.za ttok ?_ | refine R.zx ?_ | refine R.zl ttok ?_ | refine R.zs ttok ?_ | refine R.z ttok ?_ | refine R.zk ?_ | refine R.zn ?_ | refine R.done ?_ | refine X.then ?_ | refine C.block ?_ | refine C.ret ?_ | refine C.skip ?_ | refine C.exit ?_ | refine X.pass_ret ?_ | refine X.pass_exit ?_ | refine X.block_normal ?_ | refine X.block_ret ?_ | refine X.block_exit ?_ | refine C.zt ?_ | refine C.zf ?_ | refine X.zo ?_)
    refine R.clE [0, 1] (mark_specZ s.l s.c ((VZ s.l).length : Nat) mk hs.asc (by omega) hs.c1 hs.c2) (rF r1) (List.perm_append_comm) (Nat.le_refl _) (fun _ _ => rfl) Try.call25 (by repeat (first | exact HasIn.nil | refine HasIn.same rfl rfl ?_ | refine HasIn.c1 rfl rfl ?_ | refine HasIn.roq rfl rfl ?_ | refine HasIn.other rfl (fun e => by cases e) (fun ρ x w hh => tab_ro hh) ?_ | refine HasIn.other rfl (fun e => by cases e) (fun ρ x w hh => tab_any hh) ?_ | refine HasIn.roAp rfl rfl ?_ | refine HasIn.other rfl (fun e => by cases e) (fun ρ x w hh => cells_any hh) ?_ | refine HasIn.other rfl (fun e => by cases e) (fun ρ x w hh => ro_any hh) ?_)) rfl rfl rfl (fun _ => rfl) rfl (by kernel_rfl) fun G hG => ?_
    rw [← vl_mark s.l mk]
    have hpl := len_mark s.l mk
    repeat (first | refine C.seq ?_ | refine C.region ?_ | refine R.zb ttok ?_ | refine R.zu ttok ?_ | refine R.zc ttok ?_ | refine R.za ttok ?_ | refine R.zx ?_ | refine R.zl ttok ?_ | refine R.zs ttok ?_ | refine R.z ttok ?_ | refine R.zk ?_ | refine R.zn ?_ | refine R.done ?_ | refine X.then ?_ | refine C.block ?_ | refine C.ret ?_ | refine C.skip ?_ | refine C.exit ?_ | refine X.pass_ret ?_ | refine X.pass_exit ?_ | refine X.block_normal ?_ | refine X.block_ret ?_ | refine X.block_exit ?_ | refine C.zt ?_ | refine C.zf ?_ | refine X.zo ?_)
    rw [decide_eq_true (rfl : (if mk = true then (18 : Int) else 0) = (if mk = true then (18 : Int) else 0))]
    repeat (first | refine C.seq ?_ | refine C.region ?_ | refine R.zb ttok ?_ | refine R.zu ttok ?_ | refine R.zc ttok ?_ | refine R.za ttok ?_ | refine R.zx ?_ | refine R.zl ttok ?_ | refine R.zs ttok ?_ | refine R.z ttok ?_ | refine R.zk ?_ | refine R.zn ?_ | refine R.done ?_ | refine X.then ?_ | refine C.block ?_ | refine C.ret ?_ | refine C.skip ?_ | refine C.exit ?_ | refine X.pass_ret ?_ | refine X.pass_exit ?_ | refine X.block_normal ?_ | refine X.block_ret ?_ | refine X.block_exit ?_ | refine C.zt ?_ | refine C.zf ?_ | refine X.zo ?_)
    refine X.fperm perm_zr ?_
    refine X.finF ttok (⟨if mk then s.l else zsw s.l Sl.mark, s.c, r1⟩, G, true) [(2, 6)] ⟨hs.mark hr1.1 hr1.2, Nat.le_trans hpl (Nat.le_add_right _ _), hG, by rw [← hr1.2]⟩ rfl rfl rfl (by repeat (first | exact HasH.nil | refine HasH.same rfl rfl rfl trivial ?_ | refine HasH.same rfl rfl rfl rfl ?_ | refine HasH.same rfl rfl rfl (fun _ _ => rfl) ?_ | refine HasH.ros rfl rfl ?_)) _ (by first | exact .inl rfl | exact .inr rfl) ?_ ?_ ?_
    · exact fun w' hf => hf.ap
    · exact fun p hp => hp
    · exact cov_all hG
  rw [decide_eq_false h3, if_neg h3]
  repeat (first | refine C.seq ?_ | refine C.region ?_ | refine R.zb ttok ?_ | refine R.zu ttok ?_ | refine R.zc ttok ?_ | refine R.za ttok ?_ | refine R.zx ?_ | refine R.zl ttok ?_ | refine R.zs ttok ?_ | refine R.z ttok ?_ | refine R.zk ?_ | refine R.zn ?_ | refine R.done ?_ | refine X.then ?_ | refine C.block ?_ | refine C.ret ?_ | refine C.skip ?_ | refine C.exit ?_ | refine X.pass_ret ?_ | refine X.pass_exit ?_ | refine X.block_normal ?_ | refine X.block_ret ?_ | refine X.block_exit ?_ | refine C.zt ?_ | refine C.zf ?_ | refine X.zo ?_)
  by_cases h4 : x.kind = 4
  · rw [decide_eq_true h4, if_pos h4]
    repeat (first | refine C.seq ?_ | refine C.region ?_ | refine R.zb ttok ?_ | refine R.zu ttok ?_ | refine R.zc ttok ?_ | refine R.za ttok ?_ | refine R.zx ?_ | refine R.zl ttok ?_ | refine R.zs ttok ?_ | refine R.z ttok ?_ | refine R.zk ?_ | refine R.zn ?_ | refine R.done ?_ | refine X.then ?_ | refine C.block ?_ | refine C.ret ?_ | refine C.skip ?_ | refine C.exit ?_ | refine X.pass_ret ?_ | refine X.pass_exit ?_ | refine X.block_normal ?_ | refine X.block_ret ?_ | refine X.block_exit ?_ | refine C.zt ?_ | refine C.zf ?_ | refine X.zo ?_)
    refine R.clE [] (done_specR s.r mk hs.rok (by omega)) (zF s.l) (List.perm_append_comm) (Nat.le_refl _) (fun _ _ => rfl) Try.call63 (by repeat (first | exact HasIn.nil | refine HasIn.same rfl rfl ?_ | refine HasIn.c1 rfl rfl ?_ | refine HasIn.roq rfl rfl ?_ | refine HasIn.other rfl (fun e => by cases e) (fun ρ x w hh => tab_ro hh) ?_ | refine HasIn.other rfl (fun e => by cases e) (fun ρ x w hh => tab_any hh) ?_ | refine HasIn.roAp rfl rfl ?_ | refine HasIn.other rfl (fun e => by cases e) (fun ρ x w hh => cells_any hh) ?_ | refine HasIn.other rfl (fun e => by cases e) (fun ρ x w hh => ro_any hh) ?_)) rfl rfl rfl (fun _ => rfl) rfl (by kernel_rfl) fun r1 hr1 => ?_
    repeat (first | refine C.seq ?_ | refine C.region ?_ | refine R.zb ttok ?_ | refine R.zu ttok ?_ | refine R.zc ttok ?_ | refine R.za ttok ?_ | refine R.zx ?_ | refine R.zl ttok ?_ | refine R.zs ttok ?_ | refine R.z ttok ?_ | refine R.zk ?_ | refine R.zn ?_ | refine R.done ?_ | refine X.then ?_ | refine C.block ?_ | refine C.ret ?_ | refine C.skip ?_ | refine C.exit ?_ | refine X.pass_ret ?_ | refine X.pass_exit ?_ | refine X.block_normal ?_ | refine X.block_ret ?_ | refine X.block_exit ?_ | refine C.zt ?_ | refine C.zf ?_ | refine X.zo ?_)
    refine C.draw [[], [], [1], [], [1, 2, 3], [0, 1, 2], [0, 1, 2, 3, 4, 5]] [2, 5] (by kernel_rfl) (by kernel_rfl) ?_
    repeat (first | refine C.seq ?_ | refine C.region ?_ | refine R.zb ttok ?_ | refine R.zu ttok ?_ | refine R.zc ttok ?_ | refine R.za ttok ?_ | refine R.zx ?_ | refine R.zl ttok ?_ | refine R.zs ttok ?_ | refine R.z ttok ?_ | refine R.zk ?_ | refine R.zn ?_ | refine R.done ?_ | refine X.then ?_ | refine C.block ?_ | refine C.ret ?_ | refine C.skip ?_ | refine C.exit ?_ | refine X.pass_ret ?_ | refine X.pass_exit ?_ | refine X.block_normal ?_ | refine X.block_ret ?_ | refine X.block_exit ?_ | refine C.zt ?_ | refine C.zf ?_ | refine X.zo ?_)
    refine R.clE [0, 1] (done_specZ s.l s.c ((VZ s.l).length : Nat) mk hs.asc (by omega) hs.c1 hs.c2) (rF r1) (List.perm_append_comm) (Nat.le_refl _) (fun _ _ => rfl) Try.call29 (by repeat (first | exact HasIn.nil | refine HasIn.same rfl rfl ?_ | refine HasIn.c1 rfl rfl ?_ | refine HasIn.roq rfl rfl ?_ | refine HasIn.other rfl (fun e => by cases e) (fun ρ x w hh => tab_ro hh) ?_ | refine HasIn.other rfl (fun e => by cases e) (fun ρ x w hh => tab_any hh) ?_ | refine HasIn.roAp rfl rfl ?_ | refine HasIn.other rfl (fun e => by cases e) (fun ρ x w hh => cells_any hh) ?_ | refine HasIn.other rfl (fun e => by cases e) (fun ρ x w hh => ro_any hh) ?_)) rfl rfl rfl (fun _ => rfl) rfl (by kernel_rfl) fun G hG => ?_
    rw [← vl_done s.l mk]
    have hpl := len_done s.l mk
    repeat (first | refine C.seq ?_ | refine C.region ?_ | refine R.zb ttok ?_ | refine R.zu ttok ?_ | refine R.zc ttok ?_ | refine R.za ttok ?_ | refine R.zx ?_ | refine R.zl ttok ?_ | refine R.zs ttok ?_ | refine R.z ttok ?_ | refine R.zk ?_ | refine R.zn ?_ | refine R.done ?_ | refine X.then ?_ | refine C.block ?_ | refine C.ret ?_ | refine C.skip ?_ | refine C.exit ?_ | refine X.pass_ret ?_ | refine X.pass_exit ?_ | refine X.block_normal ?_ | refine X.block_ret ?_ | refine X.block_exit ?_ | refine C.zt ?_ | refine C.zf ?_ | refine X.zo ?_)
    rw [decide_eq_true (rfl : (if mk = true then (0 : Int) else 19) = (if mk = true then (0 : Int) else 19))]
    repeat (first | refine C.seq ?_ | refine C.region ?_ | refine R.zb ttok ?_ | refine R.zu ttok ?_ | refine R.zc ttok ?_ | refine R.za ttok ?_ | refine R.zx ?_ | refine R.zl ttok ?_ | refine R.zs ttok ?_ | refine R.z ttok ?_ | refine R.zk ?_ | refine R.zn ?_ | refine R.done ?_ | refine X.then ?_ | refine C.block ?_ | refine C.ret ?_ | refine C.skip ?_ | refine C.exit ?_ | refine X.pass_ret ?_ | refine X.pass_exit ?_ | refine X.block_normal ?_ | refine X.block_ret ?_ | refine X.block_exit ?_ | refine C.zt ?_ | refine C.zf ?_ | refine X.zo ?_)
    refine X.fperm perm_zr ?_
    refine X.finF ttok (⟨if mk then zsw s.l id else s.l, s.c, r1⟩, G, false) [(2, 6)] ⟨hs.done hr1.1 hr1.2, Nat.le_trans hpl (Nat.le_add_right _ _), hG, by rw [← hr1.2]⟩ rfl rfl rfl (by repeat (first | exact HasH.nil | refine HasH.same rfl rfl rfl trivial ?_ | refine HasH.same rfl rfl rfl rfl ?_ | refine HasH.same rfl rfl rfl (fun _ _ => rfl) ?_ | refine HasH.ros rfl rfl ?_)) _ (by first | exact .inl rfl | exact .inr rfl) ?_ ?_ ?_
    · exact fun w' hf => hf.ap
    · exact fun p hp => hp
    · exact cov_all hG
  rw [decide_eq_false h4, if_neg h4]
  repeat (first | refine C.seq ?_ | refine C.region ?_ | refine R.zb ttok ?_ | refine R.zu ttok ?_ | refine R.zc ttok ?_ | refine R.za ttok ?_ | refine R.zx ?_ | refine R.zl ttok ?_ | refine R.zs ttok ?_ | refine R.z ttok ?_ | refine R.zk ?_ | refine R.zn ?_ | refine R.done ?_ | refine X.then ?_ | refine C.block ?_ | refine C.ret ?_ | refine C.skip ?_ | refine C.exit ?_ | refine X.pass_ret ?_ | refine X.pass_exit ?_ | refine X.block_normal ?_ | refine X.block_ret ?_ | refine X.block_exit ?_ | refine C.zt ?_ | refine C.zf ?_ | refine X.zo ?_)
  by_cases h5 : x.kind = 5
  · rw [decide_eq_true h5, if_pos h5]
    repeat (first | refine C.seq ?_ | refine C.region ?_ | refine R.zb ttok ?_ | refine R.zu ttok ?_ | refine R.zc ttok ?_ | refine R.za ttok ?_ | refine R.zx ?_ | refine R.zl ttok ?_ | refine R.zs ttok ?_ | refine R.z ttok ?_ | refine R.zk ?_ | refine R.zn ?_ | refine R.done ?_ | refine X.then ?_ | refine C.block ?_ | refine C.ret ?_ | refine C.skip ?_ | refine C.exit ?_ | refine X.pass_ret ?_ | refine X.pass_exit ?_ | refine X.block_normal ?_ | refine X.block_ret ?_ | refine X.block_exit ?_ | refine C.zt ?_ | refine C.zf ?_ | refine X.zo ?_)
    refine R.clE [0, 1] (ranged_spec s mk x hs hl) (([] : Fam)) ((by rw [List.append_nil])) (Nat.le_refl _) (fun _ _ => rfl) Try.call64 (by repeat (first | exact HasIn.nil | refine HasIn.same rfl rfl ?_ | refine HasIn.c1 rfl rfl ?_ | refine HasIn.roq rfl rfl ?_ | refine HasIn.other rfl (fun e => by cases e) (fun ρ x w hh => tab_ro hh) ?_ | refine HasIn.other rfl (fun e => by cases e) (fun ρ x w hh => tab_any hh) ?_ | refine HasIn.roAp rfl rfl ?_ | refine HasIn.other rfl (fun e => by cases e) (fun ρ x w hh => cells_any hh) ?_ | refine HasIn.other rfl (fun e => by cases e) (fun ρ x w hh => ro_any hh) ?_)) rfl rfl rfl (fun _ => rfl) rfl (by kernel_rfl) fun t ht => ?_
    refine R.fperm (fs2 := psF t) (by rw [List.append_nil]) ?_
    repeat (first | refine C.seq ?_ | refine C.region ?_ | refine R.zb ttok ?_ | refine R.zu ttok ?_ | refine R.zc ttok ?_ | refine R.za ttok ?_ | refine R.zx ?_ | refine R.zl ttok ?_ | refine R.zs ttok ?_ | refine R.z ttok ?_ | refine R.zk ?_ | refine R.zn ?_ | refine R.done ?_ | refine X.then ?_ | refine C.block ?_ | refine C.ret ?_ | refine C.skip ?_ | refine C.exit ?_ | refine X.pass_ret ?_ | refine X.pass_exit ?_ | refine X.block_normal ?_ | refine X.block_ret ?_ | refine X.block_exit ?_ | refine C.zt ?_ | refine C.zf ?_ | refine X.zo ?_)
    refine X.finF ttok (t.1, t.2, mk) [(2, 5)] ⟨ht.1, ht.2.1, ht.2.2.1, by rw [← ht.2.2.2]⟩ rfl rfl rfl (by repeat (first | exact HasH.nil | refine HasH.same rfl rfl rfl trivial ?_ | refine HasH.same rfl rfl rfl rfl ?_ | refine HasH.same rfl rfl rfl (fun _ _ => rfl) ?_ | refine HasH.ros rfl rfl ?_)) _ (by first | exact .inl rfl | exact .inr rfl) ?_ ?_ ?_
    · exact fun w' hf => hf.ap
    · exact fun p hp => hp
    · exact cov_all ht.2.2.1
  rw [decide_eq_false h5, if_neg h5]
  repeat (first | refine C.seq ?_ | refine C.region ?_ | refine R.zb ttok ?_ | refine R.zu ttok ?_ | refine R.zc ttok ?_ | refine R.za ttok ?_ | refine R.zx ?_ | refine R.zl ttok ?_ | refine R.zs ttok ?_ | refine R.z ttok ?_ | refine R.zk ?_ | refine R.zn ?_ | refine R.done ?_ | refine X.then ?_ | refine C.block ?_ | refine C.ret ?_ | refine C.skip ?_ | refine C.exit ?_ | refine X.pass_ret ?_ | refine X.pass_exit ?_ | refine X.block_normal ?_ | refine X.block_ret ?_ | refine X.block_exit ?_ | refine C.zt ?_ | refine C.zf ?_ | refine X.zo ?_)
  by_cases h6 : x.kind = 6
  · rw [decide_eq_true h6, if_pos h6]
    repeat (first | refine C.seq ?_ | refine C.region ?_ | refine R.zb ttok ?_ | refine R.zu ttok ?_ | refine R.zc ttok ?_ | refine R.za ttok ?_ | refine R.zx ?_ | refine R.zl ttok ?_ | refine R.zs ttok ?_ | refine R.z ttok ?_ | refine R.zk ?_ | refine R.zn ?_ | refine R.done ?_ | refine X.then ?_ | refine C.block ?_ | refine C.ret ?_ | refine C.skip ?_ | refine C.exit ?_ | refine X.pass_ret ?_ | refine X.pass_exit ?_ | refine X.block_normal ?_ | refine X.block_ret ?_ | refine X.block_exit ?_ | refine C.zt ?_ | refine C.zf ?_ | refine X.zo ?_)
    refine R.clE [0, 1] (shot_spec s mk x hs hl) (([] : Fam)) ((by rw [List.append_nil])) (Nat.le_refl _) (fun _ _ => rfl) Try.call65 (by repeat (first | exact HasIn.nil | refine HasIn.same rfl rfl ?_ | refine HasIn.c1 rfl rfl ?_ | refine HasIn.roq rfl rfl ?_ | refine HasIn.other rfl (fun e => by cases e) (fun ρ x w hh => tab_ro hh) ?_ | refine HasIn.other rfl (fun e => by cases e) (fun ρ x w hh => tab_any hh) ?_ | refine HasIn.roAp rfl rfl ?_ | refine HasIn.other rfl (fun e => by cases e) (fun ρ x w hh => cells_any hh) ?_ | refine HasIn.other rfl (fun e => by cases e) (fun ρ x w hh => ro_any hh) ?_)) rfl rfl rfl (fun _ => rfl) rfl (by kernel_rfl) fun t ht => ?_
    refine R.fperm (fs2 := psF t) (by rw [List.append_nil]) ?_
    repeat (first | refine C.seq ?_ | refine C.region ?_ | refine R.zb ttok ?_ | refine R.zu ttok ?_ | refine R.zc ttok ?_ | refine R.za ttok ?_ | refine R.zx ?_ | refine R.zl ttok ?_ | refine R.zs ttok ?_ | refine R.z ttok ?_ | refine R.zk ?_ | refine R.zn ?_ | refine R.done ?_ | refine X.then ?_ | refine C.block ?_ | refine C.ret ?_ | refine C.skip ?_ | refine C.exit ?_ | refine X.pass_ret ?_ | refine X.pass_exit ?_ | refine X.block_normal ?_ | refine X.block_ret ?_ | refine X.block_exit ?_ | refine C.zt ?_ | refine C.zf ?_ | refine X.zo ?_)
    refine X.finF ttok (t.1, t.2, mk) [(2, 5)] ⟨ht.1, ht.2.1, ht.2.2.1, by rw [← ht.2.2.2]⟩ rfl rfl rfl (by repeat (first | exact HasH.nil | refine HasH.same rfl rfl rfl trivial ?_ | refine HasH.same rfl rfl rfl rfl ?_ | refine HasH.same rfl rfl rfl (fun _ _ => rfl) ?_ | refine HasH.ros rfl rfl ?_)) _ (by first | exact .inl rfl | exact .inr rfl) ?_ ?_ ?_
    · exact fun w' hf => hf.ap
    · exact fun p hp => hp
    · exact cov_all ht.2.2.1
  rw [decide_eq_false h6, if_neg h6]
  have hcv : Cov (zF s.l) (zF s.l ++ []) := by rw [List.append_nil]; exact Cov.refl _
  repeat (first | refine C.seq ?_ | refine C.region ?_ | refine R.zb ttok ?_ | refine R.zu ttok ?_ | refine R.zc ttok ?_ | refine R.za ttok ?_ | refine R.zx ?_ | refine R.zl ttok ?_ | refine R.zs ttok ?_ | refine R.z ttok ?_ | refine R.zk ?_ | refine R.zn ?_ | refine R.done ?_ | refine X.then ?_ | refine C.block ?_ | refine C.ret ?_ | refine C.skip ?_ | refine C.exit ?_ | refine X.pass_ret ?_ | refine X.pass_exit ?_ | refine X.block_normal ?_ | refine X.block_ret ?_ | refine X.block_exit ?_ | refine C.zt ?_ | refine C.zf ?_ | refine X.zo ?_)
  refine X.fperm (fs2 := zF s.l ++ (rF s.r ++ [])) (by rw [List.append_nil]) ?_
  refine X.finF ttok (s, [], mk) [(2, 1)] ⟨hs, Nat.le_add_right _ _, hcv, rfl⟩ rfl rfl rfl (by repeat (first | exact HasH.nil | refine HasH.same rfl rfl rfl trivial ?_ | refine HasH.same rfl rfl rfl rfl ?_ | refine HasH.same rfl rfl rfl (fun _ _ => rfl) ?_ | refine HasH.ros rfl rfl ?_)) _ (by first | exact .inl rfl | exact .inr rfl) ?_ ?_ ?_
  · exact fun w' hf => hf.ap
  · exact fun p hp => hp
  · exact cov_all hcv
end Go.Proofs.Yteabncomclgncaa
namespace Go.Proofs.Yteabncomclgncaa
set_option linter.unusedVariables false
set_option linter.unusedSimpArgs false
open Go.RowKit
set_option maxRecDepth 100000
set_option maxHeartbeats 8000000
abbrev alF : FuncId := 72
theorem al_call (args : Array Value) (w : World) : (callFunc alF args).run Try.prog w = .ok (.enter alF args) w := Try.call72 args w
theorem al1_spec (s : PS) (mk : Bool) (k : ByteArray) (v : Int) (hs : s.ok mk) (hl : s.l.length ≤ 800000) (hv : isV s.l k = true) (hvv : getV s.l k = v) :
    SpecF Try.prog 72 [.raw (.string k), .raw (.int .i64 v), .ptr 0 0 0 0, .ptr 1 0 0 0, .ptr 2 0 0 0, .ptr 3 0 0 0] [.ro 0 0 1 (fun _ => [.raw s.r.s, .raw (.bool mk)]), .cells [.raw (.bool true)] bT, .cells [.raw (.bool true)] bT, .cells [.raw (.string k)] strT] 4 (rF s.r) (σ := Unit) (fun _ => True)
    (fun _ => .raw (.bool true)) (fun _ => [(1, .cells [.raw (.bool true)] bT), (2, .cells [.raw (.bool (nxK s.l (aboveN s.l k)).2)] bT), (3, .cells [.raw (.string (nxK s.l (aboveN s.l k)).1)] strT)]) (fun _ => rF s.r) := by
  refine SpecF.of Try.func72 rfl Try.ntmps72 rfl (bdl_cons (roA_bd rfl) (bdl_cons rfl (bdl_cons rfl (bdl_cons rfl (bdl_nil _))))) fun ρ w => ?_
  have hrl := hs.rlen
  have hrA := hs.rA
  repeat (first | refine C.seq ?_ | refine C.region ?_ | refine R.zb ttok ?_ | refine R.zu ttok ?_ | refine R.zc ttok ?_ | refine R.za ttok ?_ | refine R.zx ?_ | refine R.zl ttok ?_ | refine R.zs ttok ?_ | refine R.z ttok ?_ | refine R.zk ?_ | refine R.zn ?_ | refine R.done ?_ | refine X.then ?_ | refine C.block ?_ | refine C.ret ?_ | refine C.skip ?_ | refine C.exit ?_ | refine X.pass_ret ?_ | refine X.pass_exit ?_ | refine X.block_normal ?_ | refine X.block_ret ?_ | refine X.block_exit ?_ | refine C.zt ?_ | refine C.zf ?_ | refine X.zo ?_)
  refine R.ldo (v := .agg [.raw s.r.s, .raw (.bool mk)]) ttok rfl rfl rfl rfl rfl (by kernel_rfl) Nat.one_pos ?_
  refine R.labR 12 s.r hs.rok (fun p hp => hp) rfl ?_
  repeat (first | refine C.seq ?_ | refine C.region ?_ | refine R.zb ttok ?_ | refine R.zu ttok ?_ | refine R.zc ttok ?_ | refine R.za ttok ?_ | refine R.zx ?_ | refine R.zl ttok ?_ | refine R.zs ttok ?_ | refine R.z ttok ?_ | refine R.zk ?_ | refine R.zn ?_ | refine R.done ?_ | refine X.then ?_ | refine C.block ?_ | refine C.ret ?_ | refine C.skip ?_ | refine C.exit ?_ | refine X.pass_ret ?_ | refine X.pass_exit ?_ | refine X.block_normal ?_ | refine X.block_ret ?_ | refine X.block_exit ?_ | refine C.zt ?_ | refine C.zf ?_ | refine X.zo ?_)
  refine R.cl [4] (get_specR s.r.l s.r.c mk k hrA (by omega)) Try.call66 (by repeat (first | exact HasIn.nil | refine HasIn.same rfl rfl ?_ | refine HasIn.bro rfl ?_ | refine HasIn.ror rfl ?_ | refine HasIn.cro rfl rfl ?_)) rfl rfl rfl (fun _ => rfl) rfl (by kernel_rfl) fun _ _ => ?_
  rw [hs.get, hs.live, hv, hvv]
  refine R.drop 4 ?_
  repeat (first | refine C.seq ?_ | refine C.region ?_ | refine R.zb ttok ?_ | refine R.zu ttok ?_ | refine R.zc ttok ?_ | refine R.za ttok ?_ | refine R.zx ?_ | refine R.zl ttok ?_ | refine R.zs ttok ?_ | refine R.z ttok ?_ | refine R.zk ?_ | refine R.zn ?_ | refine R.done ?_ | refine X.then ?_ | refine C.block ?_ | refine C.ret ?_ | refine C.skip ?_ | refine C.exit ?_ | refine X.pass_ret ?_ | refine X.pass_exit ?_ | refine X.block_normal ?_ | refine X.block_ret ?_ | refine X.block_exit ?_ | refine C.zt ?_ | refine C.zf ?_ | refine X.zo ?_)
  rw [decide_eq_true (rfl : k.toList = k.toList)]
  repeat (first | refine C.seq ?_ | refine C.region ?_ | refine R.zb ttok ?_ | refine R.zu ttok ?_ | refine R.zc ttok ?_ | refine R.za ttok ?_ | refine R.zx ?_ | refine R.zl ttok ?_ | refine R.zs ttok ?_ | refine R.z ttok ?_ | refine R.zk ?_ | refine R.zn ?_ | refine R.done ?_ | refine X.then ?_ | refine C.block ?_ | refine C.ret ?_ | refine C.skip ?_ | refine C.exit ?_ | refine X.pass_ret ?_ | refine X.pass_exit ?_ | refine X.block_normal ?_ | refine X.block_ret ?_ | refine X.block_exit ?_ | refine C.zt ?_ | refine C.zf ?_ | refine X.zo ?_)
  rw [decide_eq_true (rfl : v = v)]
  repeat (first | refine C.seq ?_ | refine C.region ?_ | refine R.zb ttok ?_ | refine R.zu ttok ?_ | refine R.zc ttok ?_ | refine R.za ttok ?_ | refine R.zx ?_ | refine R.zl ttok ?_ | refine R.zs ttok ?_ | refine R.z ttok ?_ | refine R.zk ?_ | refine R.zn ?_ | refine R.done ?_ | refine X.then ?_ | refine C.block ?_ | refine C.ret ?_ | refine C.skip ?_ | refine C.exit ?_ | refine X.pass_ret ?_ | refine X.pass_exit ?_ | refine X.block_normal ?_ | refine X.block_ret ?_ | refine X.block_exit ?_ | refine C.zt ?_ | refine C.zf ?_ | refine X.zo ?_)
  refine R.ldo (v := .agg [.raw s.r.s, .raw (.bool mk)]) ttok rfl rfl rfl rfl rfl (by kernel_rfl) Nat.one_pos ?_
  refine R.labR 35 s.r hs.rok (fun p hp => hp) rfl ?_
  repeat (first | refine C.seq ?_ | refine C.region ?_ | refine R.zb ttok ?_ | refine R.zu ttok ?_ | refine R.zc ttok ?_ | refine R.za ttok ?_ | refine R.zx ?_ | refine R.zl ttok ?_ | refine R.zs ttok ?_ | refine R.z ttok ?_ | refine R.zk ?_ | refine R.zn ?_ | refine R.done ?_ | refine X.then ?_ | refine C.block ?_ | refine C.ret ?_ | refine C.skip ?_ | refine C.exit ?_ | refine X.pass_ret ?_ | refine X.pass_exit ?_ | refine X.block_normal ?_ | refine X.block_ret ?_ | refine X.block_exit ?_ | refine C.zt ?_ | refine C.zf ?_ | refine X.zo ?_)
  refine R.cl [5] (next_specR s.r.l s.r.c mk k (by omega)) Try.call67 (by repeat (first | exact HasIn.nil | refine HasIn.same rfl rfl ?_ | refine HasIn.bro rfl ?_ | refine HasIn.ror rfl ?_ | refine HasIn.cro rfl rfl ?_)) rfl rfl rfl (fun _ => rfl) rfl (by kernel_rfl) fun _ _ => ?_
  rw [hs.next]
  refine R.drop 5 ?_
  repeat (first | refine C.seq ?_ | refine C.region ?_ | refine R.zb ttok ?_ | refine R.zu ttok ?_ | refine R.zc ttok ?_ | refine R.za ttok ?_ | refine R.zx ?_ | refine R.zl ttok ?_ | refine R.zs ttok ?_ | refine R.z ttok ?_ | refine R.zk ?_ | refine R.zn ?_ | refine R.done ?_ | refine X.then ?_ | refine C.block ?_ | refine C.ret ?_ | refine C.skip ?_ | refine C.exit ?_ | refine X.pass_ret ?_ | refine X.pass_exit ?_ | refine X.block_normal ?_ | refine X.block_ret ?_ | refine X.block_exit ?_ | refine C.zt ?_ | refine C.zf ?_ | refine X.zo ?_)
  refine X.finF ttok () [] trivial rfl rfl rfl (by repeat (first | exact HasH.nil | refine HasH.same rfl rfl rfl trivial ?_ | refine HasH.same rfl rfl rfl rfl ?_ | refine HasH.same rfl rfl rfl (fun _ _ => rfl) ?_ | refine HasH.ros rfl rfl ?_)) _ (by first | exact .inl rfl | exact .inr rfl) ?_ ?_ ?_
  · exact fun w' hf => hf.ap
  · exact fun p hp => hp
  · exact fun p hp e => ⟨p, hp, rfl⟩
theorem perm_al {a b : Fact} {Z R X : Fam} : (a :: b :: ((Z ++ R) ++ X)).Perm (R ++ (a :: b :: (Z ++ X))) := by
  have h : ((Z ++ R) ++ X).Perm (R ++ (Z ++ X)) := by
    rw [List.append_assoc]
    exact List.perm_append_comm_assoc Z R X
  exact ((h.cons b).cons a).trans (List.perm_append_comm_assoc [a, b] R (Z ++ X))
theorem rgAl_spec (s : PS) (mk : Bool) (hs : s.ok mk) (hl : s.l.length ≤ 800000) :
    SpecF Try.prog 48 [.fn alF [.ptr 5 0 0 0, .ptr 6 0 0 0, .ptr 7 0 0 0, .ptr 8 0 0 0], .ptr 2 0 0 0, .ptr 3 0 0 0, .ptr 4 0 0 0]
    [tbAZ 1 s.l.length s.c ((VZ s.l).length : Nat) mk, roTZ s.l, one0 (.ptr 0 0 0 0), one0 (.raw (.string noT)), one0 (.raw (.string noT)), .ro 0 0 1 (fun _ => [.raw s.r.s, .raw (.bool mk)]), .cells [.raw (.bool true)] bT, .cells [.raw (.bool (nxK s.l (plc s.l noT)).2)] bT, .cells [.raw (.string (nxK s.l (plc s.l noT)).1)] strT] 9 (zF s.l ++ rF s.r)
    (σ := Unit) (fun _ => True) (fun _ => .tup []) (fun _ => [(6, .cells [.raw (.bool true)] bT), (7, .cells [.raw (.bool false)] bT)]) (fun _ => zF s.l ++ rF s.r) := by
  refine SpecF.ofM Try.func48 rfl Try.ntmps48 rfl (bdl_cons (roA_bd rfl) (bdl_cons (fun _ _ => rfl) (bdl_cons (roA_bd rfl) (bdl_cons (roA_bd rfl) (bdl_cons (roA_bd rfl) (bdl_cons (roA_bd rfl) (bdl_cons rfl (bdl_cons rfl (bdl_cons rfl (bdl_nil _)))))))))) fun ρ w => ?_
  have hcl : ∀ p ∈ zF s.l ++ rF s.r, p.ob.isCells = true := fun p hp => by
    rcases List.mem_append.1 hp with hp | hp
    · exact zF_cells p hp
    · exact rF_cells hs.rok p hp
  repeat (first | refine C.seq ?_ | refine C.region ?_ | refine R.zb ttok ?_ | refine R.zu ttok ?_ | refine R.zc ttok ?_ | refine R.za ttok ?_ | refine R.zx ?_ | refine R.zl ttok ?_ | refine R.zs ttok ?_ | refine R.z ttok ?_ | refine R.zk ?_ | refine R.zn ?_ | refine R.done ?_ | refine X.then ?_ | refine C.block ?_ | refine C.ret ?_ | refine C.skip ?_ | refine C.exit ?_ | refine X.pass_ret ?_ | refine X.pass_exit ?_ | refine X.block_normal ?_ | refine X.block_ret ?_ | refine X.block_exit ?_ | refine C.zt ?_ | refine C.zf ?_ | refine X.zo ?_)
  refine R.ldo (v := .ptr 0 0 0 0) ttok rfl rfl rfl rfl rfl (by kernel_rfl) Nat.one_pos ?_
  repeat (first | refine C.seq ?_ | refine C.region ?_ | refine R.zb ttok ?_ | refine R.zu ttok ?_ | refine R.zc ttok ?_ | refine R.za ttok ?_ | refine R.zx ?_ | refine R.zl ttok ?_ | refine R.zs ttok ?_ | refine R.z ttok ?_ | refine R.zk ?_ | refine R.zn ?_ | refine R.done ?_ | refine X.then ?_ | refine C.block ?_ | refine C.ret ?_ | refine C.skip ?_ | refine C.exit ?_ | refine X.pass_ret ?_ | refine X.pass_exit ?_ | refine X.block_normal ?_ | refine X.block_ret ?_ | refine X.block_exit ?_ | refine C.zt ?_ | refine C.zf ?_ | refine X.zo ?_)
  refine C.draw [[], [0], [0, 1], [], [], [0, 1, 2, 3, 4]] [5] (by kernel_rfl) (by kernel_rfl) ?_
  refine R.ldo (v := .ptr 0 0 0 0) ttok rfl rfl rfl rfl rfl (by kernel_rfl) Nat.one_pos ?_
  repeat (first | refine C.seq ?_ | refine C.region ?_ | refine R.zb ttok ?_ | refine R.zu ttok ?_ | refine R.zc ttok ?_ | refine R.za ttok ?_ | refine R.zx ?_ | refine R.zl ttok ?_ | refine R.zs ttok ?_ | refine R.z ttok ?_ | refine R.zk ?_ | refine R.zn ?_ | refine R.done ?_ | refine X.then ?_ | refine C.block ?_ | refine C.ret ?_ | refine C.skip ?_ | refine C.exit ?_ | refine X.pass_ret ?_ | refine X.pass_exit ?_ | refine X.block_normal ?_ | refine X.block_ret ?_ | refine X.block_exit ?_ | refine C.zt ?_ | refine C.zf ?_ | refine X.zo ?_)
  refine R.ldo (v := .raw (.string noT)) ttok rfl rfl rfl rfl rfl (by kernel_rfl) Nat.one_pos ?_
  repeat (first | refine C.seq ?_ | refine C.region ?_ | refine R.zb ttok ?_ | refine R.zu ttok ?_ | refine R.zc ttok ?_ | refine R.za ttok ?_ | refine R.zx ?_ | refine R.zl ttok ?_ | refine R.zs ttok ?_ | refine R.z ttok ?_ | refine R.zk ?_ | refine R.zn ?_ | refine R.done ?_ | refine X.then ?_ | refine C.block ?_ | refine C.ret ?_ | refine C.skip ?_ | refine C.exit ?_ | refine X.pass_ret ?_ | refine X.pass_exit ?_ | refine X.block_normal ?_ | refine X.block_ret ?_ | refine X.block_exit ?_ | refine C.zt ?_ | refine C.zf ?_ | refine X.zo ?_)
  refine R.ldo (v := .raw (.string noT)) ttok rfl rfl rfl rfl rfl (by kernel_rfl) Nat.one_pos ?_
  refine R.cl [0] (rangeT_specZ noT noT) Try.call49 (by repeat (first | exact HasIn.nil | refine HasIn.same rfl rfl ?_ | refine HasIn.c1 rfl rfl ?_ | refine HasIn.roq rfl rfl ?_ | refine HasIn.other rfl (fun e => by cases e) (fun ρ x w hh => tab_ro hh) ?_ | refine HasIn.other rfl (fun e => by cases e) (fun ρ x w hh => tab_any hh) ?_ | refine HasIn.roAp rfl rfl ?_ | refine HasIn.other rfl (fun e => by cases e) (fun ρ x w hh => cells_any hh) ?_ | refine HasIn.other rfl (fun e => by cases e) (fun ρ x w hh => ro_any hh) ?_)) rfl rfl rfl (fun _ => rfl) rfl (by kernel_rfl) fun _ _ => ?_
  repeat (first | refine C.seq ?_ | refine C.region ?_ | refine R.zb ttok ?_ | refine R.zu ttok ?_ | refine R.zc ttok ?_ | refine R.za ttok ?_ | refine R.zx ?_ | refine R.zl ttok ?_ | refine R.zs ttok ?_ | refine R.z ttok ?_ | refine R.zk ?_ | refine R.zn ?_ | refine R.done ?_ | refine X.then ?_ | refine C.block ?_ | refine C.ret ?_ | refine C.skip ?_ | refine C.exit ?_ | refine X.pass_ret ?_ | refine X.pass_exit ?_ | refine X.block_normal ?_ | refine X.block_ret ?_ | refine X.block_exit ?_ | refine C.zt ?_ | refine C.zf ?_ | refine X.zo ?_)
  refine C.less [] 13 [(0, .fn alF [.ptr 5 0 0 0, .ptr 6 0 0 0, .ptr 7 0 0 0, .ptr 8 0 0 0]), (1, .ptr 2 0 0 0), (4, .ptr 9 0 0 0), (16, .fn rgZ [.ptr 10 0 0 0, .ptr 11 0 0 0, .ptr 12 0 0 0])] [(0, tbAZ 1 s.l.length s.c ((VZ s.l).length : Nat) mk), (1, roTZ s.l), (2, one0 (.ptr 0 0 0 0)), (3, one0 (.raw (.string noT))), (4, one0 (.raw (.string noT))), (5, .ro 0 0 1 (fun _ => [.raw s.r.s, .raw (.bool mk)])), (6, .cells [.raw (.bool true)] bT), (7, .cells [.raw (.bool (nxK s.l (plc s.l noT)).2)] bT), (8, .cells [.raw (.string (nxK s.l (plc s.l noT)).1)] strT), (9, .cells [.fn alF [.ptr 5 0 0 0, .ptr 6 0 0 0, .ptr 7 0 0 0, .ptr 8 0 0 0]] 52), (10, .cells [.ptr 0 0 0 0] 133), (11, .cells [.raw (.string noT)] strT), (12, .cells [.raw (.string noT)] strT)] _ rfl (by repeat (first | exact HasT.nil | refine HasT.cons rfl rfl rfl ?_)) (by repeat (first | exact HasH.nil | refine HasH.same rfl rfl rfl trivial ?_ | refine HasH.same rfl rfl rfl rfl ?_ | refine HasH.same rfl rfl rfl (fun _ _ => rfl) ?_)) rfl (fun _ h => h) ?_
  refine C.range (σ := Nat) (α := ByteArray × Nat) (H := fun i => [(0, tbAZ 1 s.l.length s.c ((VZ s.l).length : Nat) mk), (1, roTZ s.l), (2, one0 (.ptr 0 0 0 0)), (3, one0 (.raw (.string noT))), (4, one0 (.raw (.string noT))), (5, .ro 0 0 1 (fun _ => [.raw s.r.s, .raw (.bool mk)])), (6, .cells [.raw (.bool true)] bT), (7, .cells [.raw (.bool (nxK s.l (i)).2)] bT), (8, .cells [.raw (.string (nxK s.l (i)).1)] strT), (9, .cells [.fn alF [.ptr 5 0 0 0, .ptr 6 0 0 0, .ptr 7 0 0 0, .ptr 8 0 0 0]] 52), (10, .cells [.ptr 0 0 0 0] 133), (11, .cells [.raw (.string noT)] strT), (12, .cells [.raw (.string noT)] strT)]) (HX := fun i => [(0, tbAZ 1 s.l.length s.c ((VZ s.l).length : Nat) mk), (1, roTZ s.l), (2, one0 (.ptr 0 0 0 0)), (3, one0 (.raw (.string noT))), (4, one0 (.raw (.string noT))), (5, .ro 0 0 1 (fun _ => [.raw s.r.s, .raw (.bool mk)])), (6, .cells [.raw (.bool true)] bT), (7, .cells [.raw (.bool (nxK s.l (i)).2)] bT), (8, .cells [.raw (.string (nxK s.l (i)).1)] strT), (9, .cells [.fn alF [.ptr 5 0 0 0, .ptr 6 0 0 0, .ptr 7 0 0 0, .ptr 8 0 0 0]] 52), (10, .cells [.ptr 0 0 0 0] 133), (11, .cells [.raw (.string noT)] strT), (12, .cells [.raw (.string noT)] strT)]) (fsI := fun _ => zF s.l ++ rF s.r) (fsX := fun _ => zF s.l ++ rF s.r) (u := fun x => .string x.1) (v := fun x => .pointer (some ⟨x.2, 0, none⟩)) 13 13 (plc s.l noT) (fun i => plc s.l noT ≤ i ∧ i ≤ s.l.length) (fun _ => False) _ _ _ _ _
    rfl Try.call78 ⟨Nat.le_refl _, plc_le _ _⟩ ?hi0 rfl (fun i _ => hcl) (fun i _ => hcl) ?hsee (fun ρ1 _ => rng1_itc (fun _ : Nat => s.l) (fun i => lastR s.l (plc s.l noT) i) (fun i => s.l.length - i) ((ρ1 10).getD 0) ((ρ1 11).getD 0) ((ρ1 12).getD 0) ((ρ1 0).getD 0) noT noT) ?hround ?hdone (fun s D _ h => h.elim)
  case hi0 => exact if_pos rfl
  case hsee =>
    intro ρ1 ρ i W fs he hI _ gg
    have h1 := rsee_ro gg (l := s.l) (lt := 10) (lf := 11) (lo := 12) (ls := 0) (ll := 1) (fr := noT) (to := noT) hs.asc (by omega) rfl rfl rfl rfl rfl
    rw [he 10 (by decide), he 11 (by decide), he 12 (by decide), he 0 (by decide)] at h1
    exact h1
  case hround =>
    rintro ρ1 lb D r XF i x hpin hr hpe hlb hX ⟨hi0, hi⟩ ⟨i', hi', hlt, rfl, _⟩
    dsimp only at hi' hlt ⊢
    rw [posO_r hs.asc hi0 hi] at hi'
    subst hi'
    have hmem := zF_mem hlt
    have habove := above_at hs.asc hlt
    have hla : lastR s.l (plc s.l noT) (i + 1) = some (s.l.getD i zG).1 := by unfold lastR; rw [if_neg (by omega), show i + 1 - 1 = i by omega]
    have hfac := facI (D := D) (lb := lb) hcl hX
    obtain ⟨⟨pk, pb, c0, c1, h0, h1, rd, wr⟩, hpp⟩ : ∃ p, s.l.getD i zG = p := ⟨_, rfl⟩
    rw [hpp] at hmem habove hla ⊢
    have habove : aboveN s.l pk = i + 1 := habove
    refine CR.seq ?_
    refine CR.region ?_
    repeat (first | refine R.zb ttok ?_ | refine R.zu ttok ?_ | refine R.zc ttok ?_ | refine R.za ttok ?_ | refine R.zx ?_ | refine R.zl ttok ?_ | refine R.zs ttok ?_ | refine R.z ttok ?_ | refine R.zk ?_ | refine R.zn ?_)
    refine R.done ?_
    refine X.thenR ?_
    refine CR.region ?_
    repeat (first | refine R.zb ttok ?_ | refine R.zu ttok ?_ | refine R.zc ttok ?_ | refine R.za ttok ?_ | refine R.zx ?_ | refine R.zl ttok ?_ | refine R.zs ttok ?_ | refine R.z ttok ?_ | refine R.zk ?_ | refine R.zn ?_)
    refine R.done ?_
    refine X.begin_ hfac hlb hr ?_
    refine CR.block ?_
    refine CR.labZ 6 (pk, pb, ⟨c0, c1, h0, h1, rd, wr⟩) (List.mem_cons_of_mem _ (List.mem_cons_of_mem _ (List.mem_append_left _ (List.mem_append_left _ hmem)))) rfl ?_
    cases rd with
    | false =>
      repeat (first | refine CR.seq ?_ | refine CR.region ?_ | refine R.zb ttok ?_ | refine R.zu ttok ?_ | refine R.zc ttok ?_ | refine R.za ttok ?_ | refine R.zx ?_ | refine R.zl ttok ?_ | refine R.zs ttok ?_ | refine R.z ttok ?_ | refine R.zk ?_ | refine R.zn ?_ | refine R.done ?_ | refine X.thenR ?_ | refine CR.block ?_ | refine CR.skip ?_ | refine CR.ret ?_ | refine CR.tru (by exact rfl) ?_ | refine CR.fls (by exact rfl) ?_ | refine X.pass_ret ?_ | refine X.pass_exit ?_ | refine X.block_normal ?_ | refine X.block_ret ?_ | refine X.block_exit ?_)
      refine R.ldo (v := .raw (.int .i64 (b01 false))) ttok rfl rfl rfl rfl rfl (by kernel_rfl) Nat.one_pos ?_
      repeat (first | refine CR.seq ?_ | refine CR.region ?_ | refine R.zb ttok ?_ | refine R.zu ttok ?_ | refine R.zc ttok ?_ | refine R.za ttok ?_ | refine R.zx ?_ | refine R.zl ttok ?_ | refine R.zs ttok ?_ | refine R.z ttok ?_ | refine R.zk ?_ | refine R.zn ?_ | refine R.done ?_ | refine X.thenR ?_ | refine CR.block ?_ | refine CR.skip ?_ | refine CR.ret ?_ | refine CR.tru (by exact rfl) ?_ | refine CR.fls (by exact rfl) ?_ | refine X.pass_ret ?_ | refine X.pass_exit ?_ | refine X.block_normal ?_ | refine X.block_ret ?_ | refine X.block_exit ?_)
      refine R.cl [13] (read_specZ ⟨c0, c1, h0, h1, false, wr⟩ false) Try.call50 (by repeat (first | exact HasIn.nil | refine HasIn.same rfl rfl ?_ | refine HasIn.bro rfl ?_ | refine HasIn.ror rfl ?_ | refine HasIn.cro rfl rfl ?_)) rfl rfl rfl (fun _ => rfl) rfl (by kernel_rfl) fun _ _ => ?_
      cases h0 with
      | false =>
        have hst : nxK s.l i = nxK s.l (i + 1) := nxK_dead hlt (by rw [hpp]; rfl)
        rw [hst]
        repeat (first | refine CR.seq ?_ | refine CR.region ?_ | refine R.zb ttok ?_ | refine R.zu ttok ?_ | refine R.zc ttok ?_ | refine R.za ttok ?_ | refine R.zx ?_ | refine R.zl ttok ?_ | refine R.zs ttok ?_ | refine R.z ttok ?_ | refine R.zk ?_ | refine R.zn ?_ | refine R.done ?_ | refine X.thenR ?_ | refine CR.block ?_ | refine CR.skip ?_ | refine CR.ret ?_ | refine CR.tru (by exact rfl) ?_ | refine CR.fls (by exact rfl) ?_ | refine X.pass_ret ?_ | refine X.pass_exit ?_ | refine X.block_normal ?_ | refine X.block_ret ?_ | refine X.block_exit ?_)
        refine X.next [] (i + 1) ⟨by omega, hlt⟩ ⟨hla, by omega⟩ hr hpe rfl rfl (by repeat (first | exact HasH.nil | refine HasH.same rfl rfl rfl trivial ?_ | refine HasH.same rfl rfl rfl rfl ?_ | refine HasH.same rfl rfl rfl (fun _ _ => rfl) ?_)) rfl hlb hfac (fun w' hf => nxF1 hf) (nxF2 hcl) (fun y hy => List.mem_cons_of_mem _ (List.mem_append_right _ hy))
      | true =>
        have hlive : (s.l.getD i zG).2.2.live = true := by rw [hpp]; rfl
        have hst : nxK s.l i = (pk, true) := by rw [nxK_live hlt hlive, hpp]
        have hiv : isV s.l pk = true := by have := isV_at hs.asc hlt; rw [hpp] at this; exact this
        have hgv : getV s.l pk = c0 := by have := getV_at hs.asc hlt; rw [hpp] at this; exact this
        rw [hst]
        repeat (first | refine R.zb ttok ?_ | refine R.zu ttok ?_ | refine R.zc ttok ?_ | refine R.za ttok ?_ | refine R.zx ?_ | refine R.zl ttok ?_ | refine R.zs ttok ?_ | refine R.z ttok ?_ | refine R.zk ?_ | refine R.zn ?_)
        refine R.done ?_
        refine X.thenR ?_
        refine CR.seq ?_
        refine CR.region ?_
        refine R.drop 13 ?_
        repeat (first | refine R.zb ttok ?_ | refine R.zu ttok ?_ | refine R.zc ttok ?_ | refine R.za ttok ?_ | refine R.zx ?_ | refine R.zl ttok ?_ | refine R.zs ttok ?_ | refine R.z ttok ?_ | refine R.zk ?_ | refine R.zn ?_)
        refine R.clE [5, 6, 7, 8] (al1_spec s mk pk c0 hs hl hiv hgv) (rFact lb { r with state := .busy } :: dFact D :: (zF s.l ++ XF)) perm_al (by show 9 ≤ 13; omega) (fun k hk => hpin k hk) al_call (by repeat (first | exact HasIn.nil | refine HasIn.same rfl rfl ?_ | refine HasIn.c1 rfl rfl ?_ | refine HasIn.roq rfl rfl ?_ | refine HasIn.other rfl (fun e => by cases e) (fun ρ x w hh => tab_ro hh) ?_ | refine HasIn.other rfl (fun e => by cases e) (fun ρ x w hh => tab_any hh) ?_ | refine HasIn.roAp rfl rfl ?_ | refine HasIn.other rfl (fun e => by cases e) (fun ρ x w hh => cells_any hh) ?_ | refine HasIn.other rfl (fun e => by cases e) (fun ρ x w hh => ro_any hh) ?_)) rfl rfl rfl (fun _ => rfl) rfl (by kernel_rfl) fun _ _ => ?_
        refine R.fperm perm_al.symm ?_
        rw [habove]
        repeat (first | refine CR.seq ?_ | refine CR.region ?_ | refine R.zb ttok ?_ | refine R.zu ttok ?_ | refine R.zc ttok ?_ | refine R.za ttok ?_ | refine R.zx ?_ | refine R.zl ttok ?_ | refine R.zs ttok ?_ | refine R.z ttok ?_ | refine R.zk ?_ | refine R.zn ?_ | refine R.done ?_ | refine X.thenR ?_ | refine CR.block ?_ | refine CR.skip ?_ | refine CR.ret ?_ | refine CR.tru (by exact rfl) ?_ | refine CR.fls (by exact rfl) ?_ | refine X.pass_ret ?_ | refine X.pass_exit ?_ | refine X.block_normal ?_ | refine X.block_ret ?_ | refine X.block_exit ?_)
        refine X.next [] (i + 1) ⟨by omega, hlt⟩ ⟨hla, by omega⟩ hr hpe rfl rfl (by repeat (first | exact HasH.nil | refine HasH.same rfl rfl rfl trivial ?_ | refine HasH.same rfl rfl rfl rfl ?_ | refine HasH.same rfl rfl rfl (fun _ _ => rfl) ?_)) rfl hlb hfac (fun w' hf => nxF1 hf) (nxF2 hcl) (fun y hy => List.mem_cons_of_mem _ (List.mem_append_right _ hy))
    | true =>
      repeat (first | refine CR.seq ?_ | refine CR.region ?_ | refine R.zb ttok ?_ | refine R.zu ttok ?_ | refine R.zc ttok ?_ | refine R.za ttok ?_ | refine R.zx ?_ | refine R.zl ttok ?_ | refine R.zs ttok ?_ | refine R.z ttok ?_ | refine R.zk ?_ | refine R.zn ?_ | refine R.done ?_ | refine X.thenR ?_ | refine CR.block ?_ | refine CR.skip ?_ | refine CR.ret ?_ | refine CR.tru (by exact rfl) ?_ | refine CR.fls (by exact rfl) ?_ | refine X.pass_ret ?_ | refine X.pass_exit ?_ | refine X.block_normal ?_ | refine X.block_ret ?_ | refine X.block_exit ?_)
      refine R.ldo (v := .raw (.int .i64 (b01 true))) ttok rfl rfl rfl rfl rfl (by kernel_rfl) Nat.one_pos ?_
      repeat (first | refine CR.seq ?_ | refine CR.region ?_ | refine R.zb ttok ?_ | refine R.zu ttok ?_ | refine R.zc ttok ?_ | refine R.za ttok ?_ | refine R.zx ?_ | refine R.zl ttok ?_ | refine R.zs ttok ?_ | refine R.z ttok ?_ | refine R.zk ?_ | refine R.zn ?_ | refine R.done ?_ | refine X.thenR ?_ | refine CR.block ?_ | refine CR.skip ?_ | refine CR.ret ?_ | refine CR.tru (by exact rfl) ?_ | refine CR.fls (by exact rfl) ?_ | refine X.pass_ret ?_ | refine X.pass_exit ?_ | refine X.block_normal ?_ | refine X.block_ret ?_ | refine X.block_exit ?_)
      refine R.cl [13] (read_specZ ⟨c0, c1, h0, h1, true, wr⟩ true) Try.call50 (by repeat (first | exact HasIn.nil | refine HasIn.same rfl rfl ?_ | refine HasIn.bro rfl ?_ | refine HasIn.ror rfl ?_ | refine HasIn.cro rfl rfl ?_)) rfl rfl rfl (fun _ => rfl) rfl (by kernel_rfl) fun _ _ => ?_
      cases h1 with
      | false =>
        have hst : nxK s.l i = nxK s.l (i + 1) := nxK_dead hlt (by rw [hpp]; rfl)
        rw [hst]
        repeat (first | refine CR.seq ?_ | refine CR.region ?_ | refine R.zb ttok ?_ | refine R.zu ttok ?_ | refine R.zc ttok ?_ | refine R.za ttok ?_ | refine R.zx ?_ | refine R.zl ttok ?_ | refine R.zs ttok ?_ | refine R.z ttok ?_ | refine R.zk ?_ | refine R.zn ?_ | refine R.done ?_ | refine X.thenR ?_ | refine CR.block ?_ | refine CR.skip ?_ | refine CR.ret ?_ | refine CR.tru (by exact rfl) ?_ | refine CR.fls (by exact rfl) ?_ | refine X.pass_ret ?_ | refine X.pass_exit ?_ | refine X.block_normal ?_ | refine X.block_ret ?_ | refine X.block_exit ?_)
        refine X.next [] (i + 1) ⟨by omega, hlt⟩ ⟨hla, by omega⟩ hr hpe rfl rfl (by repeat (first | exact HasH.nil | refine HasH.same rfl rfl rfl trivial ?_ | refine HasH.same rfl rfl rfl rfl ?_ | refine HasH.same rfl rfl rfl (fun _ _ => rfl) ?_)) rfl hlb hfac (fun w' hf => nxF1 hf) (nxF2 hcl) (fun y hy => List.mem_cons_of_mem _ (List.mem_append_right _ hy))
      | true =>
        have hlive : (s.l.getD i zG).2.2.live = true := by rw [hpp]; rfl
        have hst : nxK s.l i = (pk, true) := by rw [nxK_live hlt hlive, hpp]
        have hiv : isV s.l pk = true := by have := isV_at hs.asc hlt; rw [hpp] at this; exact this
        have hgv : getV s.l pk = c1 := by have := getV_at hs.asc hlt; rw [hpp] at this; exact this
        rw [hst]
        repeat (first | refine R.zb ttok ?_ | refine R.zu ttok ?_ | refine R.zc ttok ?_ | refine R.za ttok ?_ | refine R.zx ?_ | refine R.zl ttok ?_ | refine R.zs ttok ?_ | refine R.z ttok ?_ | refine R.zk ?_ | refine R.zn ?_)
        refine R.done ?_
        refine X.thenR ?_
        refine CR.seq ?_
        refine CR.region ?_
        refine R.drop 13 ?_
        repeat (first | refine R.zb ttok ?_ | refine R.zu ttok ?_ | refine R.zc ttok ?_ | refine R.za ttok ?_ | refine R.zx ?_ | refine R.zl ttok ?_ | refine R.zs ttok ?_ | refine R.z ttok ?_ | refine R.zk ?_ | refine R.zn ?_)
        refine R.clE [5, 6, 7, 8] (al1_spec s mk pk c1 hs hl hiv hgv) (rFact lb { r with state := .busy } :: dFact D :: (zF s.l ++ XF)) perm_al (by show 9 ≤ 13; omega) (fun k hk => hpin k hk) al_call (by repeat (first | exact HasIn.nil | refine HasIn.same rfl rfl ?_ | refine HasIn.c1 rfl rfl ?_ | refine HasIn.roq rfl rfl ?_ | refine HasIn.other rfl (fun e => by cases e) (fun ρ x w hh => tab_ro hh) ?_ | refine HasIn.other rfl (fun e => by cases e) (fun ρ x w hh => tab_any hh) ?_ | refine HasIn.roAp rfl rfl ?_ | refine HasIn.other rfl (fun e => by cases e) (fun ρ x w hh => cells_any hh) ?_ | refine HasIn.other rfl (fun e => by cases e) (fun ρ x w hh => ro_any hh) ?_)) rfl rfl rfl (fun _ => rfl) rfl (by kernel_rfl) fun _ _ => ?_
        refine R.fperm perm_al.symm ?_
        rw [habove]
        repeat (first | refine CR.seq ?_ | refine CR.region ?_ | refine R.zb ttok ?_ | refine R.zu ttok ?_ | refine R.zc ttok ?_ | refine R.za ttok ?_ | refine R.zx ?_ | refine R.zl ttok ?_ | refine R.zs ttok ?_ | refine R.z ttok ?_ | refine R.zk ?_ | refine R.zn ?_ | refine R.done ?_ | refine X.thenR ?_ | refine CR.block ?_ | refine CR.skip ?_ | refine CR.ret ?_ | refine CR.tru (by exact rfl) ?_ | refine CR.fls (by exact rfl) ?_ | refine X.pass_ret ?_ | refine X.pass_exit ?_ | refine X.block_normal ?_ | refine X.block_ret ?_ | refine X.block_exit ?_)
        refine X.next [] (i + 1) ⟨by omega, hlt⟩ ⟨hla, by omega⟩ hr hpe rfl rfl (by repeat (first | exact HasH.nil | refine HasH.same rfl rfl rfl trivial ?_ | refine HasH.same rfl rfl rfl rfl ?_ | refine HasH.same rfl rfl rfl (fun _ _ => rfl) ?_)) rfl hlb hfac (fun w' hf => nxF1 hf) (nxF2 hcl) (fun y hy => List.mem_cons_of_mem _ (List.mem_append_right _ hy))
  case hdone =>
    rintro i D hD ⟨hi0, hi⟩ hFin
    dsimp only at hFin ⊢
    rw [posO_r hs.asc hi0 hi, past_no] at hFin
    obtain rfl : i = s.l.length := by
      rcases Nat.lt_or_ge i s.l.length with h | h
      · cases hFin h
      · omega
    rw [nxK_end (Nat.le_refl _)]
    repeat (first | refine C.seq ?_ | refine C.region ?_ | refine R.zb ttok ?_ | refine R.zu ttok ?_ | refine R.zc ttok ?_ | refine R.za ttok ?_ | refine R.zx ?_ | refine R.zl ttok ?_ | refine R.zs ttok ?_ | refine R.z ttok ?_ | refine R.zk ?_ | refine R.zn ?_ | refine R.done ?_ | refine X.then ?_ | refine C.block ?_ | refine C.ret ?_ | refine C.skip ?_ | refine C.exit ?_ | refine X.pass_ret ?_ | refine X.pass_exit ?_ | refine X.block_normal ?_ | refine X.block_ret ?_ | refine X.block_exit ?_ | refine C.zt ?_ | refine C.zf ?_ | refine X.zo ?_)
    refine X.finM ttok () [] trivial rfl rfl rfl (by repeat (first | exact HasH.nil | refine HasH.same rfl rfl rfl trivial ?_ | refine HasH.same rfl rfl rfl rfl ?_ | refine HasH.same rfl rfl rfl (fun _ _ => rfl) ?_)) _ (by first | exact .inl rfl | exact .inr rfl) hD hcl ?_ ?_ ?_
    · exact fun w' hf => hf.ap
    · exact fun y hy => hy
    · exact fun y hy _ => ⟨y, hy, rfl⟩
theorem all_spec (s : PS) (mk : Bool) (hs : s.ok mk) (hl : s.l.length ≤ 800000) :
    SpecF Try.prog 35 [.ptr 0 0 0 0, s.r.v mk] [tbAZ 1 s.l.length s.c ((VZ s.l).length : Nat) mk, roTZ s.l] 2 (zF s.l ++ rF s.r) (σ := Unit) (fun _ => True)
    (fun _ => .raw (.bool true)) (fun _ => []) (fun _ => zF s.l ++ rF s.r) := by
  refine SpecF.of Try.func35 rfl Try.ntmps35 rfl (bdl_cons (roA_bd rfl) (bdl_cons (fun _ _ => rfl) (bdl_nil _))) fun ρ w => ?_
  have hrl := hs.rlen
  have hrA := hs.rA
  repeat (first | refine C.seq ?_ | refine C.region ?_ | refine R.zb ttok ?_ | refine R.zu ttok ?_ | refine R.zc ttok ?_ | refine R.za ttok ?_ | refine R.zx ?_ | refine R.zl ttok ?_ | refine R.zs ttok ?_ | refine R.z ttok ?_ | refine R.zk ?_ | refine R.zn ?_ | refine R.done ?_ | refine X.then ?_ | refine C.block ?_ | refine C.ret ?_ | refine C.skip ?_ | refine C.exit ?_ | refine X.pass_ret ?_ | refine X.pass_exit ?_ | refine X.block_normal ?_ | refine X.block_ret ?_ | refine X.block_exit ?_ | refine C.zt ?_ | refine C.zf ?_ | refine X.zo ?_)
  refine C.loop (σ := Nat) (L2 := 3) (fun i => i ≤ s.r.l.length) (fun i => [(0, .ptr 0 0 0 0), (3, .ptr 2 0 0 0), (5, .raw (.int .i64 (i : Nat)))]) (fun _ => [(0, tbAZ 1 s.l.length s.c ((VZ s.l).length : Nat) mk), (1, roTZ s.l), (2, .cells [.raw s.r.s, .raw (.bool mk)] rST)]) _ (fun i => s.r.l.length - i) [] 0 (Nat.zero_le _) rfl (by repeat (first | exact HasT.nil | refine HasT.cons rfl rfl rfl ?_)) (by repeat (first | exact HasH.nil | refine HasH.same rfl rfl rfl trivial ?_ | refine HasH.same rfl rfl rfl rfl ?_ | refine HasH.same rfl rfl rfl (fun _ _ => rfl) ?_)) rfl (fun _ h => h) ?_
  rintro i hi
  repeat (first | refine C.seq ?_ | refine C.region ?_ | refine R.zb ttok ?_ | refine R.zu ttok ?_ | refine R.zc ttok ?_ | refine R.za ttok ?_ | refine R.zx ?_ | refine R.zl ttok ?_ | refine R.zs ttok ?_ | refine R.z ttok ?_ | refine R.zk ?_ | refine R.zn ?_ | refine R.done ?_ | refine X.then ?_ | refine C.block ?_ | refine C.ret ?_ | refine C.skip ?_ | refine C.exit ?_ | refine X.pass_ret ?_ | refine X.pass_exit ?_ | refine X.block_normal ?_ | refine X.block_ret ?_ | refine X.block_exit ?_ | refine C.zt ?_ | refine C.zf ?_ | refine X.zo ?_)
  by_cases hlt : (i : Int) < (s.r.l.length : Nat)
  · rw [decide_eq_true hlt]
    have hlt : i < s.r.l.length := by omega
    repeat (first | refine C.seq ?_ | refine C.region ?_ | refine R.zb ttok ?_ | refine R.zu ttok ?_ | refine R.zc ttok ?_ | refine R.za ttok ?_ | refine R.zx ?_ | refine R.zl ttok ?_ | refine R.zs ttok ?_ | refine R.z ttok ?_ | refine R.zk ?_ | refine R.zn ?_ | refine R.done ?_ | refine X.then ?_ | refine C.block ?_ | refine C.ret ?_ | refine C.skip ?_ | refine C.exit ?_ | refine X.pass_ret ?_ | refine X.pass_exit ?_ | refine X.block_normal ?_ | refine X.block_ret ?_ | refine X.block_exit ?_ | refine C.zt ?_ | refine C.zf ?_ | refine X.zo ?_)
    refine C.draw [[], [], [], [2], [], [2, 3, 4], [2, 3, 4, 5], [2, 3, 4, 5, 6], [0, 1, 2, 3, 4, 5, 6, 7], [0, 1, 2, 3, 4, 5, 6, 7, 8]] [8] (by kernel_rfl) (by kernel_rfl) ?_
    repeat (first | refine C.seq ?_ | refine C.region ?_ | refine R.zb ttok ?_ | refine R.zu ttok ?_ | refine R.zc ttok ?_ | refine R.za ttok ?_ | refine R.zx ?_ | refine R.zl ttok ?_ | refine R.zs ttok ?_ | refine R.z ttok ?_ | refine R.zk ?_ | refine R.zn ?_ | refine R.done ?_ | refine X.then ?_ | refine C.block ?_ | refine C.ret ?_ | refine C.skip ?_ | refine C.exit ?_ | refine X.pass_ret ?_ | refine X.pass_exit ?_ | refine X.block_normal ?_ | refine X.block_ret ?_ | refine X.block_exit ?_ | refine C.zt ?_ | refine C.zf ?_ | refine X.zo ?_)
    refine R.labS 21 s.r hs.rok (fun p hp => List.mem_append_right _ hp) rfl ?_
    repeat (first | refine C.seq ?_ | refine C.region ?_ | refine R.zb ttok ?_ | refine R.zu ttok ?_ | refine R.zc ttok ?_ | refine R.za ttok ?_ | refine R.zx ?_ | refine R.zl ttok ?_ | refine R.zs ttok ?_ | refine R.z ttok ?_ | refine R.zk ?_ | refine R.zn ?_ | refine R.done ?_ | refine X.then ?_ | refine C.block ?_ | refine C.ret ?_ | refine C.skip ?_ | refine C.exit ?_ | refine X.pass_ret ?_ | refine X.pass_exit ?_ | refine X.block_normal ?_ | refine X.block_ret ?_ | refine X.block_exit ?_ | refine C.zt ?_ | refine C.zf ?_ | refine X.zo ?_)
    refine R.ix ttok i rfl rfl rfl rfl rfl (by kernel_rfl) rfl hlt (by show _ ≤ _ ∧ _ < _; omega) rfl ?_
    repeat (first | refine C.seq ?_ | refine C.region ?_ | refine R.zb ttok ?_ | refine R.zu ttok ?_ | refine R.zc ttok ?_ | refine R.za ttok ?_ | refine R.zx ?_ | refine R.zl ttok ?_ | refine R.zs ttok ?_ | refine R.z ttok ?_ | refine R.zk ?_ | refine R.zn ?_ | refine R.done ?_ | refine X.then ?_ | refine C.block ?_ | refine C.ret ?_ | refine C.skip ?_ | refine C.exit ?_ | refine X.pass_ret ?_ | refine X.pass_exit ?_ | refine X.block_normal ?_ | refine X.block_ret ?_ | refine X.block_exit ?_ | refine C.zt ?_ | refine C.zf ?_ | refine X.zo ?_)
    refine R.ldo (v := .raw (.string (s.r.l.getD i zG).1)) ttok rfl rfl rfl rfl rfl (by kernel_rfl) hlt ?_
    refine R.dropD 3 ?_
    refine R.clE [0, 1] (alike_spec s mk (s.r.l.getD i zG).1 hs hl) (([] : Fam)) ((by rw [List.append_nil])) (Nat.le_refl _) (fun _ _ => rfl) Try.call33 (by repeat (first | exact HasIn.nil | refine HasIn.same rfl rfl ?_ | refine HasIn.c1 rfl rfl ?_ | refine HasIn.roq rfl rfl ?_ | refine HasIn.other rfl (fun e => by cases e) (fun ρ x w hh => tab_ro hh) ?_ | refine HasIn.other rfl (fun e => by cases e) (fun ρ x w hh => tab_any hh) ?_ | refine HasIn.roAp rfl rfl ?_ | refine HasIn.other rfl (fun e => by cases e) (fun ρ x w hh => cells_any hh) ?_ | refine HasIn.other rfl (fun e => by cases e) (fun ρ x w hh => ro_any hh) ?_)) rfl rfl rfl (fun _ => rfl) rfl (by kernel_rfl) fun _ _ => ?_
    refine R.fperm (fs2 := zF s.l ++ rF s.r) (by rw [List.append_nil]) ?_
    repeat (first | refine C.seq ?_ | refine C.region ?_ | refine R.zb ttok ?_ | refine R.zu ttok ?_ | refine R.zc ttok ?_ | refine R.za ttok ?_ | refine R.zx ?_ | refine R.zl ttok ?_ | refine R.zs ttok ?_ | refine R.z ttok ?_ | refine R.zk ?_ | refine R.zn ?_ | refine R.done ?_ | refine X.then ?_ | refine C.block ?_ | refine C.ret ?_ | refine C.skip ?_ | refine C.exit ?_ | refine X.pass_ret ?_ | refine X.pass_exit ?_ | refine X.block_normal ?_ | refine X.block_ret ?_ | refine X.block_exit ?_ | refine C.zt ?_ | refine C.zf ?_ | refine X.zo ?_)
    exact X.back [] (i + 1) hlt (by omega) rfl (by repeat (first | exact HasT.nil | refine HasT.cons rfl rfl rfl ?_)) (by repeat (first | exact HasH.nil | refine HasH.same rfl rfl rfl trivial ?_ | refine HasH.same rfl rfl rfl rfl ?_ | refine HasH.same rfl rfl rfl (fun _ _ => rfl) ?_)) rfl (fun _ h => h)
  rw [decide_eq_false hlt]
  repeat (first | refine C.seq ?_ | refine C.region ?_ | refine R.zb ttok ?_ | refine R.zu ttok ?_ | refine R.zc ttok ?_ | refine R.za ttok ?_ | refine R.zx ?_ | refine R.zl ttok ?_ | refine R.zs ttok ?_ | refine R.z ttok ?_ | refine R.zk ?_ | refine R.zn ?_ | refine R.done ?_ | refine X.then ?_ | refine C.block ?_ | refine C.ret ?_ | refine C.skip ?_ | refine C.exit ?_ | refine X.pass_ret ?_ | refine X.pass_exit ?_ | refine X.block_normal ?_ | refine X.block_ret ?_ | refine X.block_exit ?_ | refine C.zt ?_ | refine C.zf ?_ | refine X.zo ?_)
  refine R.labR 29 s.r hs.rok (fun p hp => List.mem_append_right _ hp) rfl ?_
  repeat (first | refine C.seq ?_ | refine C.region ?_ | refine R.zb ttok ?_ | refine R.zu ttok ?_ | refine R.zc ttok ?_ | refine R.za ttok ?_ | refine R.zx ?_ | refine R.zl ttok ?_ | refine R.zs ttok ?_ | refine R.z ttok ?_ | refine R.zk ?_ | refine R.zn ?_ | refine R.done ?_ | refine X.then ?_ | refine C.block ?_ | refine C.ret ?_ | refine C.skip ?_ | refine C.exit ?_ | refine X.pass_ret ?_ | refine X.pass_exit ?_ | refine X.block_normal ?_ | refine X.block_ret ?_ | refine X.block_exit ?_ | refine C.zt ?_ | refine C.zf ?_ | refine X.zo ?_)
  refine R.cl [5] (get_specR s.r.l s.r.c mk noT hrA (by omega)) Try.call66 (by repeat (first | exact HasIn.nil | refine HasIn.same rfl rfl ?_ | refine HasIn.bro rfl ?_ | refine HasIn.ror rfl ?_ | refine HasIn.cro rfl rfl ?_)) rfl rfl rfl (fun _ => rfl) rfl (by kernel_rfl) fun _ _ => ?_
  rw [hs.live]
  refine R.drop 5 ?_
  cases hv : isV s.l noT with
  | true =>
    have hnx := nx_is hv
    have sp := rgAl_spec s mk hs hl
    rw [hnx] at sp
    repeat (first | refine C.seq ?_ | refine C.region ?_ | refine R.zb ttok ?_ | refine R.zu ttok ?_ | refine R.zc ttok ?_ | refine R.za ttok ?_ | refine R.zx ?_ | refine R.zl ttok ?_ | refine R.zs ttok ?_ | refine R.z ttok ?_ | refine R.zk ?_ | refine R.zn ?_ | refine R.done ?_ | refine X.then ?_ | refine C.block ?_ | refine C.ret ?_ | refine C.skip ?_ | refine C.exit ?_ | refine X.pass_ret ?_ | refine X.pass_exit ?_ | refine X.block_normal ?_ | refine X.block_ret ?_ | refine X.block_exit ?_ | refine C.zt ?_ | refine C.zf ?_ | refine X.zo ?_)
    refine R.cl [0] (rangeS_specZ noT noT) Try.call19 (by repeat (first | exact HasIn.nil | refine HasIn.same rfl rfl ?_ | refine HasIn.c1 rfl rfl ?_ | refine HasIn.roq rfl rfl ?_ | refine HasIn.other rfl (fun e => by cases e) (fun ρ x w hh => tab_ro hh) ?_ | refine HasIn.other rfl (fun e => by cases e) (fun ρ x w hh => tab_any hh) ?_ | refine HasIn.roAp rfl rfl ?_ | refine HasIn.other rfl (fun e => by cases e) (fun ρ x w hh => cells_any hh) ?_ | refine HasIn.other rfl (fun e => by cases e) (fun ρ x w hh => ro_any hh) ?_)) rfl rfl rfl (fun _ => rfl) rfl (by kernel_rfl) fun _ _ => ?_
    repeat (first | refine C.seq ?_ | refine C.region ?_ | refine R.zb ttok ?_ | refine R.zu ttok ?_ | refine R.zc ttok ?_ | refine R.za ttok ?_ | refine R.zx ?_ | refine R.zl ttok ?_ | refine R.zs ttok ?_ | refine R.z ttok ?_ | refine R.zk ?_ | refine R.zn ?_ | refine R.done ?_ | refine X.then ?_ | refine C.block ?_ | refine C.ret ?_ | refine C.skip ?_ | refine C.exit ?_ | refine X.pass_ret ?_ | refine X.pass_exit ?_ | refine X.block_normal ?_ | refine X.block_ret ?_ | refine X.block_exit ?_ | refine C.zt ?_ | refine C.zf ?_ | refine X.zo ?_)
    refine R.clE [0, 1, 7, 8, 9, 2, 6, 4, 3] sp ([] : Fam) (by rw [List.append_nil]) (Nat.le_refl _) (fun _ _ => rfl) rsZ_call (by repeat (first | exact HasIn.nil | refine HasIn.same rfl rfl ?_ | refine HasIn.c1 rfl rfl ?_ | refine HasIn.roq rfl rfl ?_ | refine HasIn.other rfl (fun e => by cases e) (fun ρ x w hh => tab_ro hh) ?_ | refine HasIn.other rfl (fun e => by cases e) (fun ρ x w hh => tab_any hh) ?_ | refine HasIn.roAp rfl rfl ?_ | refine HasIn.other rfl (fun e => by cases e) (fun ρ x w hh => cells_any hh) ?_ | refine HasIn.other rfl (fun e => by cases e) (fun ρ x w hh => ro_any hh) ?_)) rfl rfl rfl (fun _ => rfl) rfl (by kernel_rfl) fun _ _ => ?_
    refine R.fperm (fs2 := zF s.l ++ rF s.r) (by rw [List.append_nil]) ?_
    repeat (first | refine C.seq ?_ | refine C.region ?_ | refine R.zb ttok ?_ | refine R.zu ttok ?_ | refine R.zc ttok ?_ | refine R.za ttok ?_ | refine R.zx ?_ | refine R.zl ttok ?_ | refine R.zs ttok ?_ | refine R.z ttok ?_ | refine R.zk ?_ | refine R.zn ?_ | refine R.done ?_ | refine X.then ?_ | refine C.block ?_ | refine C.ret ?_ | refine C.skip ?_ | refine C.exit ?_ | refine X.pass_ret ?_ | refine X.pass_exit ?_ | refine X.block_normal ?_ | refine X.block_ret ?_ | refine X.block_exit ?_ | refine C.zt ?_ | refine C.zf ?_ | refine X.zo ?_)
    refine R.clE [0, 1] (held_spec s mk noT hs hl) (([] : Fam)) ((by rw [List.append_nil])) (Nat.le_refl _) (fun _ _ => rfl) Try.call34 (by repeat (first | exact HasIn.nil | refine HasIn.same rfl rfl ?_ | refine HasIn.c1 rfl rfl ?_ | refine HasIn.roq rfl rfl ?_ | refine HasIn.other rfl (fun e => by cases e) (fun ρ x w hh => tab_ro hh) ?_ | refine HasIn.other rfl (fun e => by cases e) (fun ρ x w hh => tab_any hh) ?_ | refine HasIn.roAp rfl rfl ?_ | refine HasIn.other rfl (fun e => by cases e) (fun ρ x w hh => cells_any hh) ?_ | refine HasIn.other rfl (fun e => by cases e) (fun ρ x w hh => ro_any hh) ?_)) rfl rfl rfl (fun _ => rfl) rfl (by kernel_rfl) fun _ _ => ?_
    refine R.fperm (fs2 := zF s.l ++ rF s.r) (by rw [List.append_nil]) ?_
    repeat (first | refine C.seq ?_ | refine C.region ?_ | refine R.zb ttok ?_ | refine R.zu ttok ?_ | refine R.zc ttok ?_ | refine R.za ttok ?_ | refine R.zx ?_ | refine R.zl ttok ?_ | refine R.zs ttok ?_ | refine R.z ttok ?_ | refine R.zk ?_ | refine R.zn ?_ | refine R.done ?_ | refine X.then ?_ | refine C.block ?_ | refine C.ret ?_ | refine C.skip ?_ | refine C.exit ?_ | refine X.pass_ret ?_ | refine X.pass_exit ?_ | refine X.block_normal ?_ | refine X.block_ret ?_ | refine X.block_exit ?_ | refine C.zt ?_ | refine C.zf ?_ | refine X.zo ?_)
    refine X.finF ttok () [] trivial rfl rfl rfl (by repeat (first | exact HasH.nil | refine HasH.same rfl rfl rfl trivial ?_ | refine HasH.same rfl rfl rfl rfl ?_ | refine HasH.same rfl rfl rfl (fun _ _ => rfl) ?_ | refine HasH.ros rfl rfl ?_)) _ (by first | exact .inl rfl | exact .inr rfl) ?_ ?_ ?_
    · exact fun w' hf => hf.ap
    · exact fun p hp => hp
    · exact fun p hp e => ⟨p, hp, rfl⟩
  | false =>
    have hnx := nx_no hv
    repeat (first | refine C.seq ?_ | refine C.region ?_ | refine R.zb ttok ?_ | refine R.zu ttok ?_ | refine R.zc ttok ?_ | refine R.za ttok ?_ | refine R.zx ?_ | refine R.zl ttok ?_ | refine R.zs ttok ?_ | refine R.z ttok ?_ | refine R.zk ?_ | refine R.zn ?_ | refine R.done ?_ | refine X.then ?_ | refine C.block ?_ | refine C.ret ?_ | refine C.skip ?_ | refine C.exit ?_ | refine X.pass_ret ?_ | refine X.pass_exit ?_ | refine X.block_normal ?_ | refine X.block_ret ?_ | refine X.block_exit ?_ | refine C.zt ?_ | refine C.zf ?_ | refine X.zo ?_)
    refine R.labR 36 s.r hs.rok (fun p hp => List.mem_append_right _ hp) rfl ?_
    repeat (first | refine C.seq ?_ | refine C.region ?_ | refine R.zb ttok ?_ | refine R.zu ttok ?_ | refine R.zc ttok ?_ | refine R.za ttok ?_ | refine R.zx ?_ | refine R.zl ttok ?_ | refine R.zs ttok ?_ | refine R.z ttok ?_ | refine R.zk ?_ | refine R.zn ?_ | refine R.done ?_ | refine X.then ?_ | refine C.block ?_ | refine C.ret ?_ | refine C.skip ?_ | refine C.exit ?_ | refine X.pass_ret ?_ | refine X.pass_exit ?_ | refine X.block_normal ?_ | refine X.block_ret ?_ | refine X.block_exit ?_ | refine C.zt ?_ | refine C.zf ?_ | refine X.zo ?_)
    refine R.cl [6] (next_specR s.r.l s.r.c mk noT (by omega)) Try.call67 (by repeat (first | exact HasIn.nil | refine HasIn.same rfl rfl ?_ | refine HasIn.bro rfl ?_ | refine HasIn.ror rfl ?_ | refine HasIn.cro rfl rfl ?_)) rfl rfl rfl (fun _ => rfl) rfl (by kernel_rfl) fun _ _ => ?_
    rw [hs.next]
    refine R.drop 6 ?_
    have sp := rgAl_spec s mk hs hl
    rw [hnx] at sp
    repeat (first | refine C.seq ?_ | refine C.region ?_ | refine R.zb ttok ?_ | refine R.zu ttok ?_ | refine R.zc ttok ?_ | refine R.za ttok ?_ | refine R.zx ?_ | refine R.zl ttok ?_ | refine R.zs ttok ?_ | refine R.z ttok ?_ | refine R.zk ?_ | refine R.zn ?_ | refine R.done ?_ | refine X.then ?_ | refine C.block ?_ | refine C.ret ?_ | refine C.skip ?_ | refine C.exit ?_ | refine X.pass_ret ?_ | refine X.pass_exit ?_ | refine X.block_normal ?_ | refine X.block_ret ?_ | refine X.block_exit ?_ | refine C.zt ?_ | refine C.zf ?_ | refine X.zo ?_)
    refine R.cl [0] (rangeS_specZ noT noT) Try.call19 (by repeat (first | exact HasIn.nil | refine HasIn.same rfl rfl ?_ | refine HasIn.c1 rfl rfl ?_ | refine HasIn.roq rfl rfl ?_ | refine HasIn.other rfl (fun e => by cases e) (fun ρ x w hh => tab_ro hh) ?_ | refine HasIn.other rfl (fun e => by cases e) (fun ρ x w hh => tab_any hh) ?_ | refine HasIn.roAp rfl rfl ?_ | refine HasIn.other rfl (fun e => by cases e) (fun ρ x w hh => cells_any hh) ?_ | refine HasIn.other rfl (fun e => by cases e) (fun ρ x w hh => ro_any hh) ?_)) rfl rfl rfl (fun _ => rfl) rfl (by kernel_rfl) fun _ _ => ?_
    repeat (first | refine C.seq ?_ | refine C.region ?_ | refine R.zb ttok ?_ | refine R.zu ttok ?_ | refine R.zc ttok ?_ | refine R.za ttok ?_ | refine R.zx ?_ | refine R.zl ttok ?_ | refine R.zs ttok ?_ | refine R.z ttok ?_ | refine R.zk ?_ | refine R.zn ?_ | refine R.done ?_ | refine X.then ?_ | refine C.block ?_ | refine C.ret ?_ | refine C.skip ?_ | refine C.exit ?_ | refine X.pass_ret ?_ | refine X.pass_exit ?_ | refine X.block_normal ?_ | refine X.block_ret ?_ | refine X.block_exit ?_ | refine C.zt ?_ | refine C.zf ?_ | refine X.zo ?_)
    refine R.clE [0, 1, 8, 9, 10, 2, 7, 4, 3] sp ([] : Fam) (by rw [List.append_nil]) (Nat.le_refl _) (fun _ _ => rfl) rsZ_call (by repeat (first | exact HasIn.nil | refine HasIn.same rfl rfl ?_ | refine HasIn.c1 rfl rfl ?_ | refine HasIn.roq rfl rfl ?_ | refine HasIn.other rfl (fun e => by cases e) (fun ρ x w hh => tab_ro hh) ?_ | refine HasIn.other rfl (fun e => by cases e) (fun ρ x w hh => tab_any hh) ?_ | refine HasIn.roAp rfl rfl ?_ | refine HasIn.other rfl (fun e => by cases e) (fun ρ x w hh => cells_any hh) ?_ | refine HasIn.other rfl (fun e => by cases e) (fun ρ x w hh => ro_any hh) ?_)) rfl rfl rfl (fun _ => rfl) rfl (by kernel_rfl) fun _ _ => ?_
    refine R.fperm (fs2 := zF s.l ++ rF s.r) (by rw [List.append_nil]) ?_
    repeat (first | refine C.seq ?_ | refine C.region ?_ | refine R.zb ttok ?_ | refine R.zu ttok ?_ | refine R.zc ttok ?_ | refine R.za ttok ?_ | refine R.zx ?_ | refine R.zl ttok ?_ | refine R.zs ttok ?_ | refine R.z ttok ?_ | refine R.zk ?_ | refine R.zn ?_ | refine R.done ?_ | refine X.then ?_ | refine C.block ?_ | refine C.ret ?_ | refine C.skip ?_ | refine C.exit ?_ | refine X.pass_ret ?_ | refine X.pass_exit ?_ | refine X.block_normal ?_ | refine X.block_ret ?_ | refine X.block_exit ?_ | refine C.zt ?_ | refine C.zf ?_ | refine X.zo ?_)
    refine R.clE [0, 1] (held_spec s mk noT hs hl) (([] : Fam)) ((by rw [List.append_nil])) (Nat.le_refl _) (fun _ _ => rfl) Try.call34 (by repeat (first | exact HasIn.nil | refine HasIn.same rfl rfl ?_ | refine HasIn.c1 rfl rfl ?_ | refine HasIn.roq rfl rfl ?_ | refine HasIn.other rfl (fun e => by cases e) (fun ρ x w hh => tab_ro hh) ?_ | refine HasIn.other rfl (fun e => by cases e) (fun ρ x w hh => tab_any hh) ?_ | refine HasIn.roAp rfl rfl ?_ | refine HasIn.other rfl (fun e => by cases e) (fun ρ x w hh => cells_any hh) ?_ | refine HasIn.other rfl (fun e => by cases e) (fun ρ x w hh => ro_any hh) ?_)) rfl rfl rfl (fun _ => rfl) rfl (by kernel_rfl) fun _ _ => ?_
    refine R.fperm (fs2 := zF s.l ++ rF s.r) (by rw [List.append_nil]) ?_
    repeat (first | refine C.seq ?_ | refine C.region ?_ | refine R.zb ttok ?_ | refine R.zu ttok ?_ | refine R.zc ttok ?_ | refine R.za ttok ?_ | refine R.zx ?_ | refine R.zl ttok ?_ | refine R.zs ttok ?_ | refine R.z ttok ?_ | refine R.zk ?_ | refine R.zn ?_ | refine R.done ?_ | refine X.then ?_ | refine C.block ?_ | refine C.ret ?_ | refine C.skip ?_ | refine C.exit ?_ | refine X.pass_ret ?_ | refine X.pass_exit ?_ | refine X.block_normal ?_ | refine X.block_ret ?_ | refine X.block_exit ?_ | refine C.zt ?_ | refine C.zf ?_ | refine X.zo ?_)
    refine X.finF ttok () [] trivial rfl rfl rfl (by repeat (first | exact HasH.nil | refine HasH.same rfl rfl rfl trivial ?_ | refine HasH.same rfl rfl rfl rfl ?_ | refine HasH.same rfl rfl rfl (fun _ _ => rfl) ?_ | refine HasH.ros rfl rfl ?_)) _ (by first | exact .inl rfl | exact .inr rfl) ?_ ?_ ?_
    · exact fun w' hf => hf.ap
    · exact fun p hp => hp
    · exact fun p hp e => ⟨p, hp, rfl⟩
end Go.Proofs.Yteabncomclgncaa
