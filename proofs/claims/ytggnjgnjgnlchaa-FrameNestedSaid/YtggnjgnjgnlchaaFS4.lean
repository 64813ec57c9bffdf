/- frame: Scan gone through as FrameScans does -/
import Derived.Test.YtggnjgnjgnlchaaFS3
namespace Go.Proofs.Ytggnjgnjgnlchaa
set_option linter.unusedVariables false
set_option linter.unusedSimpArgs false
open Go.RowKit
set_option maxRecDepth 100000
set_option maxHeartbeats 4000000
theorem part_body {p b : List UInt8} {k e : Nat} (h : nextN p k = .ok (b, e)) : PartOf b p (k + 8) := by
  obtain ⟨h1, h2, h3, h4, h5⟩ := next_ok h
  refine ⟨by omega, fun i hi => ?_⟩
  have h6 : p.getD (k + 8 + i) 0 = (p.drop k).getD (8 + i) 0 := by simp [List.getD, List.getElem?_drop, Nat.add_assoc]
  rw [h6, h5]
  have h7 : (headB b).length = 8 := rfl
  unfold sealB
  rw [List.getD_eq_getElem?_getD, List.getD_eq_getElem?_getD, List.getElem?_append_left (by rw [List.length_append, h7]; omega), List.getElem?_append_right (by omega), h7, show 8 + i - 8 = i by omega]
theorem rkeys_get {rs : List Rw} {n k : Nat} {b : List UInt8} {l : List (Nat × List UInt8)} (h : rkeys (rs.drop n) = (k, b) :: l) : n < rs.length ∧ (rs.getD n zR).a = k ∧ (rs.getD n zR).p = b ∧ rkeys (rs.drop (n + 1)) = l := by
  have hn : n < rs.length := by
    refine Nat.lt_of_not_le fun hle => ?_
    rw [List.drop_eq_nil_of_le hle] at h
    cases h
  rw [List.drop_eq_getElem_cons hn] at h
  simp only [rkeys, List.map_cons, List.cons.injEq] at h
  have hg : rs.getD n zR = rs[n] := by simp [List.getD, hn]
  rw [hg]
  have := h.1
  simp only [Rw.key, Prod.mk.injEq] at this
  exact ⟨hn, this.1, this.2, h.2⟩
theorem rkeys_end {rs : List Rw} {n : Nat} (h : rkeys (rs.drop n) = []) (hn : n ≤ rs.length) : n = rs.length := by
  have := congrArg List.length h
  simp at this
  omega
theorem fgo_spec (rs : List Rw) (c cw : Nat) (p : List UInt8) (hc : p.length ≤ c) (hl : p.length ≤ 1000000000) (hrs : rkeys rs = scanK p 0) (hok : ∀ r ∈ rs, r.ok) :
    SpecF Try.prog 38 [.fn 23 [.ptr 2 0 0 0, .ptr 3 0 0 0, .ptr 4 0 0 0], .ptr 0 0 0 0] [bxO 1 p.length c, roBo 0 p, flO true, ctO 0, wtO 5 rs.length cw, roR rs] 6 (facts rs) (σ := Unit) (fun _ => True) (fun _ => .tup [])
    (fun _ => [(0, bxO 1 p.length c), (2, flO true), (3, ctO (rs.length : Nat)), (4, wtO 5 rs.length cw)]) (fun _ => facts rs) := by
  have hrl : rs.length ≤ 1000000000 := by
    have h1 := congrArg List.length hrs
    have h2 := scanK_le (p := p) (k := 0) (Nat.zero_le _)
    simp at h1
    omega
  refine SpecF.of Try.func38 rfl Try.ntmps38 rfl (by repeat (first | exact bdl_nil _ | refine bdl_cons (roR_bd _ _) ?_ | refine bdl_cons (fun _ _ => rfl) ?_ | refine bdl_cons rfl ?_)) fun ρ w => ?_
  repeat (first | refine C.seq ?_ | refine C.region ?_ | refine R.zb ttok ?_ | refine R.zu ttok ?_ | refine R.zc ttok ?_ | refine R.za ttok ?_ | refine R.zx ?_ | refine R.zl ttok ?_ | refine R.zs ttok ?_ | refine R.z ttok ?_ | refine R.zk ?_ | refine R.zn ?_ | refine R.done ?_ | refine X.then ?_ | refine C.block ?_ | refine C.ret ?_ | refine C.skip ?_ | refine C.exit ?_ | refine X.pass_ret ?_ | refine X.pass_exit ?_ | refine X.block_normal ?_ | refine X.block_ret ?_ | refine X.block_exit ?_ | refine C.zt ?_ | refine C.zf ?_ | refine X.zo ?_)
  refine C.loop (σ := Nat × Nat) (L2 := 6) (fun s => s.1 ≤ p.length ∧ s.2 ≤ rs.length ∧ rkeys (rs.drop s.2) = scanK p s.1) (fun s => [(0, .fn 23 [.ptr 2 0 0 0, .ptr 3 0 0 0, .ptr 4 0 0 0]), (1, .ptr 0 0 0 0), (3, .raw (.int .i64 (s.1 : Nat)))]) (fun s => [(0, bxO 1 p.length c), (1, roBo 0 p), (2, flO true), (3, ctO (s.2 : Nat)), (4, wtO 5 rs.length cw), (5, roR rs)]) _ (fun s => p.length + 1 - s.1) [] (0, 0) ⟨Nat.zero_le _, Nat.zero_le _, hrs⟩ rfl (by repeat (first | exact HasT.nil | refine HasT.cons rfl rfl rfl ?_)) (by repeat (first | exact HasH.nil | refine HasH.same rfl rfl rfl trivial ?_ | refine HasH.same rfl rfl rfl rfl ?_ | refine HasH.same rfl rfl rfl (fun _ _ => rfl) ?_ | refine HasH.ros rfl rfl ?_)) rfl (fun _ h => h) ?_
  rintro ⟨k, n⟩ ⟨hk, hn, hks⟩
  dsimp only at hk hn hks ⊢
  repeat (first | refine C.seq ?_ | refine C.region ?_ | refine R.zb ttok ?_ | refine R.zu ttok ?_ | refine R.zc ttok ?_ | refine R.za ttok ?_ | refine R.zx ?_ | refine R.zl ttok ?_ | refine R.zs ttok ?_ | refine R.z ttok ?_ | refine R.zk ?_ | refine R.zn ?_ | refine R.done ?_ | refine X.then ?_ | refine C.block ?_ | refine C.ret ?_ | refine C.skip ?_ | refine C.exit ?_ | refine X.pass_ret ?_ | refine X.pass_exit ?_ | refine X.block_normal ?_ | refine X.block_ret ?_ | refine X.block_exit ?_ | refine C.zt ?_ | refine C.zf ?_ | refine X.zo ?_)
  refine R.cl [1] (next_spec 0 c p k hc hl hk) Try.call35 (by repeat (first | exact HasIn.nil | refine HasIn.same rfl rfl ?_ | refine HasIn.bro rfl ?_ | refine HasIn.ror rfl ?_ | refine HasIn.cro rfl rfl ?_)) rfl rfl rfl (fun _ => rfl) rfl (by kernel_rfl) fun _ _ => ?_
  cases hx : nextN p k with
  | error x =>
    have hx2 := next_err hx
    rw [show nxV 0 c p k = .tup [.raw (.slice none 0 0), .raw (.int .i64 0), .raw (.int .i64 (x : Nat))] by unfold nxV; rw [hx]]
    repeat (first | refine C.seq ?_ | refine C.region ?_ | refine R.zb ttok ?_ | refine R.zu ttok ?_ | refine R.zc ttok ?_ | refine R.za ttok ?_ | refine R.zx ?_ | refine R.zl ttok ?_ | refine R.zs ttok ?_ | refine R.z ttok ?_ | refine R.zk ?_ | refine R.zn ?_ | refine R.done ?_ | refine X.then ?_ | refine C.block ?_ | refine C.ret ?_ | refine C.skip ?_ | refine C.exit ?_ | refine X.pass_ret ?_ | refine X.pass_exit ?_ | refine X.block_normal ?_ | refine X.block_ret ?_ | refine X.block_exit ?_ | refine C.zt ?_ | refine C.zf ?_ | refine X.zo ?_)
    rw [decide_eq_true (show (x : Int) ≠ 0 by omega)]
    repeat (first | refine C.seq ?_ | refine C.region ?_ | refine R.zb ttok ?_ | refine R.zu ttok ?_ | refine R.zc ttok ?_ | refine R.za ttok ?_ | refine R.zx ?_ | refine R.zl ttok ?_ | refine R.zs ttok ?_ | refine R.z ttok ?_ | refine R.zk ?_ | refine R.zn ?_ | refine R.done ?_ | refine X.then ?_ | refine C.block ?_ | refine C.ret ?_ | refine C.skip ?_ | refine C.exit ?_ | refine X.pass_ret ?_ | refine X.pass_exit ?_ | refine X.block_normal ?_ | refine X.block_ret ?_ | refine X.block_exit ?_ | refine C.zt ?_ | refine C.zf ?_ | refine X.zo ?_)
    rw [scanK_err hx] at hks
    obtain rfl := rkeys_end hks hn
    refine X.finF ttok () [] trivial rfl rfl rfl (by repeat (first | exact HasH.nil | refine HasH.same rfl rfl rfl trivial ?_ | refine HasH.same rfl rfl rfl rfl ?_ | refine HasH.same rfl rfl rfl (fun _ _ => rfl) ?_ | refine HasH.ros rfl rfl ?_)) _ (by first | exact .inl rfl | exact .inr rfl) ?_ ?_ ?_
    · exact fun w hf => hf.ap
    · exact fun p hp => hp
    · exact fun p hp e => ⟨p, hp, rfl⟩
  | ok r =>
    obtain ⟨b, e⟩ := r
    have h1 := next_ok hx
    rw [scanK_ok hx] at hks
    obtain ⟨g1, g2, g3, g4⟩ := rkeys_get hks
    rw [show nxV 0 c p k = .tup [.sl 0 1 (0 + (k + 8)) b.length (c - (k + 8)), .raw (.int .i64 (e : Nat)), .raw (.int .i64 0)] by unfold nxV; rw [hx]]
    repeat (first | refine C.seq ?_ | refine C.region ?_ | refine R.zb ttok ?_ | refine R.zu ttok ?_ | refine R.zc ttok ?_ | refine R.za ttok ?_ | refine R.zx ?_ | refine R.zl ttok ?_ | refine R.zs ttok ?_ | refine R.z ttok ?_ | refine R.zk ?_ | refine R.zn ?_ | refine R.done ?_ | refine X.then ?_ | refine C.block ?_ | refine C.ret ?_ | refine C.skip ?_ | refine C.exit ?_ | refine X.pass_ret ?_ | refine X.pass_exit ?_ | refine X.block_normal ?_ | refine X.block_ret ?_ | refine X.block_exit ?_ | refine C.zt ?_ | refine C.zf ?_ | refine X.zo ?_)
    refine R.cl [1] (clone_spec (0 + (k + 8)) (c - (k + 8)) b (by omega)) Try.call36 (.pr rfl (part_body hx) .nil) rfl rfl rfl (fun _ => rfl) rfl (by kernel_rfl) fun c2 hc2 => ?_
    repeat (first | refine R.zb ttok ?_ | refine R.zu ttok ?_ | refine R.zc ttok ?_ | refine R.za ttok ?_ | refine R.zx ?_ | refine R.zl ttok ?_ | refine R.zs ttok ?_ | refine R.z ttok ?_ | refine R.zk ?_ | refine R.zn ?_)
    refine R.clR [6, 2, 3, 4, 5] (fscan1_spec rs n cw c2 k b g1 g2 g3 hok (by omega) hrl) (facts_ro rs) Try.call23 (by repeat (first | exact HasIn.nil | refine HasIn.same rfl rfl ?_ | refine HasIn.bro rfl ?_ | refine HasIn.ror rfl ?_ | refine HasIn.cro rfl rfl ?_)) rfl rfl rfl (fun _ => rfl) rfl (by kernel_rfl) fun _ _ => ?_
    repeat (first | refine C.seq ?_ | refine C.region ?_ | refine R.zb ttok ?_ | refine R.zu ttok ?_ | refine R.zc ttok ?_ | refine R.za ttok ?_ | refine R.zx ?_ | refine R.zl ttok ?_ | refine R.zs ttok ?_ | refine R.z ttok ?_ | refine R.zk ?_ | refine R.zn ?_ | refine R.done ?_ | refine X.then ?_ | refine C.block ?_ | refine C.ret ?_ | refine C.skip ?_ | refine C.exit ?_ | refine X.pass_ret ?_ | refine X.pass_exit ?_ | refine X.block_normal ?_ | refine X.block_ret ?_ | refine X.block_exit ?_ | refine C.zt ?_ | refine C.zf ?_ | refine X.zo ?_)
    refine X.back [] (e, n + 1) ⟨h1.2.1, by show n + 1 ≤ _; omega, g4⟩ (by show _ - e < _ - k; omega) rfl (by repeat (first | exact HasT.nil | refine HasT.cons rfl rfl rfl ?_)) (by repeat (first | exact HasH.nil | refine HasH.same rfl rfl rfl trivial ?_ | refine HasH.same rfl rfl rfl rfl ?_ | refine HasH.same rfl rfl rfl (fun _ _ => rfl) ?_ | refine HasH.ros rfl rfl ?_)) rfl (fun _ h => h)
/-! two lists of frames -/
theorem frows_spec (xs ys : List Rw) (o1 o2 c1 c2 : Nat) (fs : Fam) (hro : ∀ p ∈ fs, p.rw = false) (ha : ∀ r ∈ xs, r.ok ∧ r.fact ∈ fs) (hb : ∀ r ∈ ys, r.ok ∧ r.fact ∈ fs) (hk : rkeys xs = rkeys ys) (hal : xs.length ≤ 1000000000) (hpl : ∀ r ∈ xs, r.p.length ≤ 1000000000) :
    SpecF Try.prog 25 [.sl 0 2 o1 xs.length c1, .sl 1 2 o2 ys.length c2] [.ro 2 o1 xs.length (rwF xs), .ro 2 o2 ys.length (rwF ys)] 2 fs (σ := Unit) (fun _ => True) (fun _ => .raw (.bool true)) (fun _ => []) (fun _ => fs) := by
  have hlen : xs.length = ys.length := by have := congrArg List.length hk; simpa using this
  refine SpecF.of Try.func25 rfl Try.ntmps25 rfl (by repeat (first | exact bdl_nil _ | refine bdl_cons (fun _ _ => rfl) ?_)) fun ρ w => ?_
  repeat (first | refine C.seq ?_ | refine C.region ?_ | refine R.zb ttok ?_ | refine R.zu ttok ?_ | refine R.zc ttok ?_ | refine R.za ttok ?_ | refine R.zx ?_ | refine R.zl ttok ?_ | refine R.zs ttok ?_ | refine R.z ttok ?_ | refine R.zk ?_ | refine R.zn ?_ | refine R.done ?_ | refine X.then ?_ | refine C.block ?_ | refine C.ret ?_ | refine C.skip ?_ | refine C.exit ?_ | refine X.pass_ret ?_ | refine X.pass_exit ?_ | refine X.block_normal ?_ | refine X.block_ret ?_ | refine X.block_exit ?_ | refine C.zt ?_ | refine C.zf ?_ | refine X.zo ?_)
  rw [decide_eq_false (show ¬ ((xs.length : Nat) : Int) ≠ (ys.length : Nat) by omega)]
  repeat (first | refine C.seq ?_ | refine C.region ?_ | refine R.zb ttok ?_ | refine R.zu ttok ?_ | refine R.zc ttok ?_ | refine R.za ttok ?_ | refine R.zx ?_ | refine R.zl ttok ?_ | refine R.zs ttok ?_ | refine R.z ttok ?_ | refine R.zk ?_ | refine R.zn ?_ | refine R.done ?_ | refine X.then ?_ | refine C.block ?_ | refine C.ret ?_ | refine C.skip ?_ | refine C.exit ?_ | refine X.pass_ret ?_ | refine X.pass_exit ?_ | refine X.block_normal ?_ | refine X.block_ret ?_ | refine X.block_exit ?_ | refine C.zt ?_ | refine C.zf ?_ | refine X.zo ?_)
  refine C.loop (σ := Nat) (L2 := 2) (fun i => i ≤ xs.length) (fun i => [(0, .sl 0 2 o1 xs.length c1), (1, .sl 1 2 o2 ys.length c2), (5, .raw (.int .i64 (i : Nat)))]) (fun _ => [(0, .ro 2 o1 xs.length (rwF xs)), (1, .ro 2 o2 ys.length (rwF ys))]) _ (fun i => xs.length - i) [] 0 (Nat.zero_le _) rfl (by repeat (first | exact HasT.nil | refine HasT.cons rfl rfl rfl ?_)) (by repeat (first | exact HasH.nil | refine HasH.same rfl rfl rfl trivial ?_ | refine HasH.same rfl rfl rfl rfl ?_ | refine HasH.same rfl rfl rfl (fun _ _ => rfl) ?_ | refine HasH.ros rfl rfl ?_)) rfl (fun _ h => h) ?_
  rintro i hi
  repeat (first | refine C.seq ?_ | refine C.region ?_ | refine R.zb ttok ?_ | refine R.zu ttok ?_ | refine R.zc ttok ?_ | refine R.za ttok ?_ | refine R.zx ?_ | refine R.zl ttok ?_ | refine R.zs ttok ?_ | refine R.z ttok ?_ | refine R.zk ?_ | refine R.zn ?_ | refine R.done ?_ | refine X.then ?_ | refine C.block ?_ | refine C.ret ?_ | refine C.skip ?_ | refine C.exit ?_ | refine X.pass_ret ?_ | refine X.pass_exit ?_ | refine X.block_normal ?_ | refine X.block_ret ?_ | refine X.block_exit ?_ | refine C.zt ?_ | refine C.zf ?_ | refine X.zo ?_)
  by_cases hlt : (i : Int) < (xs.length : Nat)
  · rw [decide_eq_true hlt]
    have h1 : i < xs.length := by omega
    have h2 : i < ys.length := by omega
    have hkey : (xs.getD i zR).key = (ys.getD i zR).key := by
      have e1 : (rkeys xs)[i]? = (rkeys ys)[i]? := by rw [hk]
      rw [List.getElem?_map, List.getElem?_map, List.getElem?_eq_getElem h1, List.getElem?_eq_getElem h2] at e1
      simpa [List.getD, h1, h2] using e1
    have hka : (xs.getD i zR).a = (ys.getD i zR).a := (Prod.mk.inj hkey).1
    have hkp : (xs.getD i zR).p = (ys.getD i zR).p := (Prod.mk.inj hkey).2
    repeat (first | refine C.seq ?_ | refine C.region ?_ | refine R.zb ttok ?_ | refine R.zu ttok ?_ | refine R.zc ttok ?_ | refine R.za ttok ?_ | refine R.zx ?_ | refine R.zl ttok ?_ | refine R.zs ttok ?_ | refine R.z ttok ?_ | refine R.zk ?_ | refine R.zn ?_ | refine R.done ?_ | refine X.then ?_ | refine C.block ?_ | refine C.ret ?_ | refine C.skip ?_ | refine C.exit ?_ | refine X.pass_ret ?_ | refine X.pass_exit ?_ | refine X.block_normal ?_ | refine X.block_ret ?_ | refine X.block_exit ?_ | refine C.zt ?_ | refine C.zf ?_ | refine X.zo ?_)
    refine C.draw [[], [], [0, 1], [0, 1, 2], [0, 1, 2, 3], [], [], [5, 6], [5, 6, 7], [5, 6, 7, 8], [0, 1, 2, 3, 4, 5, 6, 7, 8, 9], [0, 1, 2, 3, 4, 5, 6, 7, 8, 9, 10], [0, 1, 2, 3, 4, 5, 6, 7, 8, 9, 10, 11], [0, 1, 2, 3, 4, 5, 6, 7, 8, 9, 10, 11], [0, 1, 2, 3, 4, 5, 6, 7, 8, 9, 10, 11, 12, 13], [0, 1, 2, 3, 4, 5, 6, 7, 8, 9, 10, 11, 12, 13, 14], [0, 1, 2, 3, 4, 5, 6, 7, 8, 9, 10, 11, 12, 13, 14, 15], [0, 1, 2, 3, 4, 5, 6, 7, 8, 9, 10, 11], [0, 1, 2, 3, 4, 5, 6, 7, 8, 9, 10, 11], [0, 1, 2, 3, 4, 5, 6, 7, 8, 9, 10, 11, 17, 18], [0, 1, 2, 3, 4, 5, 6, 7, 8, 9, 10, 11, 17, 18, 19], [0, 1, 2, 3, 4, 5, 6, 7, 8, 9, 10, 11, 17, 18, 19, 20], [0, 1, 2, 3, 4, 5, 6, 7, 8, 9, 10, 11, 12, 13, 14, 15, 16, 17, 18, 19, 20, 21], [0, 1, 2, 3, 4, 5, 6, 7, 8, 9, 10, 11, 12, 13, 14, 15, 16, 17, 18, 19, 20, 21, 22], [0, 1, 2, 3, 4, 5, 6, 7, 8, 9, 10, 11, 12, 13, 14, 15, 16, 17, 18, 19, 20, 21, 22, 23]] [22] (by kernel_rfl) (by kernel_rfl) ?_
    repeat (first | refine R.zb ttok ?_ | refine R.zu ttok ?_ | refine R.zc ttok ?_ | refine R.za ttok ?_ | refine R.zx ?_ | refine R.zl ttok ?_ | refine R.zs ttok ?_ | refine R.z ttok ?_ | refine R.zk ?_ | refine R.zn ?_)
    refine R.ix ttok i rfl rfl rfl rfl rfl (by kernel_rfl) rfl h1 (by show _ ≤ _ ∧ _ < _; omega) rfl ?_
    repeat (first | refine R.zb ttok ?_ | refine R.zu ttok ?_ | refine R.zc ttok ?_ | refine R.za ttok ?_ | refine R.zx ?_ | refine R.zl ttok ?_ | refine R.zs ttok ?_ | refine R.z ttok ?_ | refine R.zk ?_ | refine R.zn ?_)
    refine R.ldo (v := .raw (.int .i64 ((xs.getD i zR).a : Nat))) ttok rfl rfl rfl rfl rfl (by kernel_rfl) h1 ?_
    repeat (first | refine R.zb ttok ?_ | refine R.zu ttok ?_ | refine R.zc ttok ?_ | refine R.za ttok ?_ | refine R.zx ?_ | refine R.zl ttok ?_ | refine R.zs ttok ?_ | refine R.z ttok ?_ | refine R.zk ?_ | refine R.zn ?_)
    refine R.ix ttok i rfl rfl rfl rfl rfl (by kernel_rfl) rfl h2 (by show _ ≤ _ ∧ _ < _; omega) rfl ?_
    repeat (first | refine R.zb ttok ?_ | refine R.zu ttok ?_ | refine R.zc ttok ?_ | refine R.za ttok ?_ | refine R.zx ?_ | refine R.zl ttok ?_ | refine R.zs ttok ?_ | refine R.z ttok ?_ | refine R.zk ?_ | refine R.zn ?_)
    refine R.ldo (v := .raw (.int .i64 ((ys.getD i zR).a : Nat))) ttok rfl rfl rfl rfl rfl (by kernel_rfl) h2 ?_
    rw [hka]
    repeat (first | refine R.zb ttok ?_ | refine R.zu ttok ?_ | refine R.zc ttok ?_ | refine R.za ttok ?_ | refine R.zx ?_ | refine R.zl ttok ?_ | refine R.zs ttok ?_ | refine R.z ttok ?_ | refine R.zk ?_ | refine R.zn ?_)
    rw [decide_eq_false (show ¬ (((ys.getD i zR).a : Nat) : Int) ≠ ((ys.getD i zR).a : Nat) from fun h => h rfl)]
    repeat (first | refine R.zb ttok ?_ | refine R.zu ttok ?_ | refine R.zc ttok ?_ | refine R.za ttok ?_ | refine R.zx ?_ | refine R.zl ttok ?_ | refine R.zs ttok ?_ | refine R.z ttok ?_ | refine R.zk ?_ | refine R.zn ?_)
    refine R.ix ttok i rfl rfl rfl rfl rfl (by kernel_rfl) rfl h1 (by show _ ≤ _ ∧ _ < _; omega) rfl ?_
    repeat (first | refine R.zb ttok ?_ | refine R.zu ttok ?_ | refine R.zc ttok ?_ | refine R.za ttok ?_ | refine R.zx ?_ | refine R.zl ttok ?_ | refine R.zs ttok ?_ | refine R.z ttok ?_ | refine R.zk ?_ | refine R.zn ?_)
    refine R.ldo (v := .raw (.slice (some ⟨(xs.getD i zR).b, 0, none⟩) (xs.getD i zR).p.length (xs.getD i zR).c)) ttok rfl rfl rfl rfl rfl (by kernel_rfl) h1 ?_
    have hxi := ha _ (rw_get h1)
    have hyi := hb _ (rw_get h2)
    refine R.labB (p := (xs.getD i zR).fact) hxi.2 33 hxi.1 rfl rfl ?_
    repeat (first | refine R.zb ttok ?_ | refine R.zu ttok ?_ | refine R.zc ttok ?_ | refine R.za ttok ?_ | refine R.zx ?_ | refine R.zl ttok ?_ | refine R.zs ttok ?_ | refine R.z ttok ?_ | refine R.zk ?_ | refine R.zn ?_)
    refine R.ix ttok i rfl rfl rfl rfl rfl (by kernel_rfl) rfl h2 (by show _ ≤ _ ∧ _ < _; omega) rfl ?_
    repeat (first | refine R.zb ttok ?_ | refine R.zu ttok ?_ | refine R.zc ttok ?_ | refine R.za ttok ?_ | refine R.zx ?_ | refine R.zl ttok ?_ | refine R.zs ttok ?_ | refine R.z ttok ?_ | refine R.zk ?_ | refine R.zn ?_)
    refine R.ldo (v := .raw (.slice (some ⟨(ys.getD i zR).b, 0, none⟩) (ys.getD i zR).p.length (ys.getD i zR).c)) ttok rfl rfl rfl rfl rfl (by kernel_rfl) h2 ?_
    refine R.labB (p := (ys.getD i zR).fact) hyi.2 38 hyi.1 rfl rfl ?_
    repeat (first | refine R.zb ttok ?_ | refine R.zu ttok ?_ | refine R.zc ttok ?_ | refine R.za ttok ?_ | refine R.zx ?_ | refine R.zl ttok ?_ | refine R.zs ttok ?_ | refine R.z ttok ?_ | refine R.zk ?_ | refine R.zn ?_)
    refine R.cl [2, 3] (same_spec 0 0 _ _ (xs.getD i zR).p (ys.getD i zR).p (hpl _ (rw_get h1))) Try.call14 (by repeat (first | exact HasIn.nil | refine HasIn.same rfl rfl ?_ | refine HasIn.bro rfl ?_ | refine HasIn.ror rfl ?_ | refine HasIn.cro rfl rfl ?_)) rfl rfl rfl (fun _ => rfl) rfl (by kernel_rfl) fun _ _ => ?_
    rw [decide_eq_true hkp]
    repeat (first | refine C.seq ?_ | refine C.region ?_ | refine R.zb ttok ?_ | refine R.zu ttok ?_ | refine R.zc ttok ?_ | refine R.za ttok ?_ | refine R.zx ?_ | refine R.zl ttok ?_ | refine R.zs ttok ?_ | refine R.z ttok ?_ | refine R.zk ?_ | refine R.zn ?_ | refine R.done ?_ | refine X.then ?_ | refine C.block ?_ | refine C.ret ?_ | refine C.skip ?_ | refine C.exit ?_ | refine X.pass_ret ?_ | refine X.pass_exit ?_ | refine X.block_normal ?_ | refine X.block_ret ?_ | refine X.block_exit ?_ | refine C.zt ?_ | refine C.zf ?_ | refine X.zo ?_)
    exact X.back [] (i + 1) (by omega) (by omega) rfl (by repeat (first | exact HasT.nil | refine HasT.cons rfl rfl rfl ?_)) (by repeat (first | exact HasH.nil | refine HasH.same rfl rfl rfl trivial ?_ | refine HasH.same rfl rfl rfl rfl ?_ | refine HasH.same rfl rfl rfl (fun _ _ => rfl) ?_ | refine HasH.ros rfl rfl ?_)) rfl (fun _ h => h)
  · rw [decide_eq_false hlt]
    repeat (first | refine C.seq ?_ | refine C.region ?_ | refine R.zb ttok ?_ | refine R.zu ttok ?_ | refine R.zc ttok ?_ | refine R.za ttok ?_ | refine R.zx ?_ | refine R.zl ttok ?_ | refine R.zs ttok ?_ | refine R.z ttok ?_ | refine R.zk ?_ | refine R.zn ?_ | refine R.done ?_ | refine X.then ?_ | refine C.block ?_ | refine C.ret ?_ | refine C.skip ?_ | refine C.exit ?_ | refine X.pass_ret ?_ | refine X.pass_exit ?_ | refine X.block_normal ?_ | refine X.block_ret ?_ | refine X.block_exit ?_ | refine C.zt ?_ | refine C.zf ?_ | refine X.zo ?_)
    refine X.finF ttok () [] trivial rfl rfl rfl (by repeat (first | exact HasH.nil | refine HasH.same rfl rfl rfl trivial ?_ | refine HasH.same rfl rfl rfl rfl ?_ | refine HasH.same rfl rfl rfl (fun _ _ => rfl) ?_ | refine HasH.ros rfl rfl ?_)) _ (by first | exact .inl rfl | exact .inr rfl) ?_ ?_ ?_
    · exact fun w hf => hf.ap
    · exact fun p hp => hp
    · exact fun p hp e => ⟨p, hp, rfl⟩
end Go.Proofs.Ytggnjgnjgnlchaa
