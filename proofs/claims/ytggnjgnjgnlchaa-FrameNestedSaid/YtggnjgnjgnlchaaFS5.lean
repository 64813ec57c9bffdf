/- frame: scanned -/
import Derived.Test.YtggnjgnjgnlchaaFS4
namespace Go.Proofs.Ytggnjgnjgnlchaa
set_option linter.unusedVariables false
set_option linter.unusedSimpArgs false
open Go.RowKit
set_option maxRecDepth 100000
set_option maxHeartbeats 4000000
theorem facts_snoc {rs : List Rw} {r : Rw} {fs : Fam} (h : ∀ p ∈ facts rs, p ∈ fs) : ∀ p ∈ facts (rs ++ [r]), p ∈ r.fact :: fs := fun x hx => by
  rw [facts_app] at hx
  rcases List.mem_append.1 hx with hx | hx
  · exact List.mem_cons_of_mem _ (h x hx)
  · obtain rfl : x = r.fact := by simpa [facts] using hx
    exact List.mem_cons_self
theorem fscd1_spec (rs : List Rw) (cr cq at_ : Nat) (q : List UInt8) (st : Int) (hq : 0 < q.length) (hcr : cr ≤ 9223372036854775807) (hrl : rs.length < 200000) (hst : -9223372036854775808 ≤ st ∧ st ≤ 9223372036854775807) :
    SpecF Try.prog 39 [.raw (.int .i64 (at_ : Nat)), .sl 0 1 0 q.length cq, .ptr 1 0 0 0, .ptr 2 0 0 0, .ptr 3 0 0 0, .ptr 4 0 0 0] [.bytes q cq 5, flO true, flO false, wtO 5 rs.length cr, ctO st, tbR rs cr] 7 (facts rs) (σ := Rw × Nat) (fun s => s.1.a = at_ ∧ s.1.p = q ∧ s.1.ok ∧ rs.length + 1 ≤ s.2 ∧ s.2 ≤ 9223372036854775807)
    (fun _ => .raw (.bool (!decide ((rs.length : Int) + 1 = st)))) (fun s => [(1, flO true), (2, flO (decide ((rs.length : Int) + 1 = st))), (3, wtO 6 (rs.length + 1) s.2), (4, ctO st), (6, tbR (rs ++ [s.1]) s.2)]) (fun s => facts (rs ++ [s.1])) := by
  refine SpecF.of Try.func39 rfl Try.ntmps39 rfl (by repeat (first | exact bdl_nil _ | refine bdl_cons (fun _ _ => rfl) ?_ | refine bdl_cons trivial ?_ | refine bdl_cons rfl ?_)) fun ρ w => ?_
  refine C.seq ?_
  refine C.region ?_
  repeat (first | refine R.zb ttok ?_ | refine R.zu ttok ?_ | refine R.zc ttok ?_ | refine R.za ttok ?_ | refine R.zx ?_ | refine R.zl ttok ?_ | refine R.zs ttok ?_ | refine R.z ttok ?_ | refine R.zk ?_ | refine R.zn ?_)
  refine R.done ?_
  refine X.then ?_
  refine C.seq ?_
  refine C.region ?_
  repeat (first | refine R.zb ttok ?_ | refine R.zu ttok ?_ | refine R.zc ttok ?_ | refine R.za ttok ?_ | refine R.zx ?_ | refine R.zl ttok ?_ | refine R.zs ttok ?_ | refine R.z ttok ?_ | refine R.zk ?_ | refine R.zn ?_)
  refine R.done ?_
  refine X.then ?_
  refine C.seq ?_
  refine C.region ?_
  refine R.frzB false 1 0 (w1 := 1) rfl hq rfl fun bb ob hob hne => ?_
  repeat (first | refine R.zb ttok ?_ | refine R.zu ttok ?_ | refine R.zc ttok ?_ | refine R.za ttok ?_ | refine R.zx ?_ | refine R.zl ttok ?_ | refine R.zs ttok ?_ | refine R.z ttok ?_ | refine R.zk ?_ | refine R.zn ?_)
  obtain ⟨r, hr⟩ : ∃ r : Rw, r = ⟨at_, q, bb, ob, cq⟩ := ⟨_, rfl⟩
  have hlen : (rs ++ [r]).length = rs.length + 1 := by rw [List.length_append]; rfl
  refine R.app (xs := rws rs) (news := rws [r]) ttok (fun c => tbR (rs ++ [r]) c) rfl rfl (dstRw rfl) (SrcA.cells rfl (by rw [hr]; rfl)) (asRw _ _ _ (rws_app _ _).symm) rfl rfl rfl rfl rfl rfl (by decide) (by rw [hr]; rfl) (by rw [hr]; rfl) rfl (by kernel_rfl) hcr (by show (rs.length + 1) * 32 ≤ _; omega) (by omega) fun cA hA hA2 => ?_
  repeat (first | refine C.seq ?_ | refine C.region ?_ | refine R.zb ttok ?_ | refine R.zu ttok ?_ | refine R.zc ttok ?_ | refine R.za ttok ?_ | refine R.zx ?_ | refine R.zl ttok ?_ | refine R.zs ttok ?_ | refine R.z ttok ?_ | refine R.zk ?_ | refine R.zn ?_ | refine R.done ?_ | refine X.then ?_ | refine C.block ?_ | refine C.ret ?_ | refine C.skip ?_ | refine C.exit ?_ | refine X.pass_ret ?_ | refine X.pass_exit ?_ | refine X.block_normal ?_ | refine X.block_ret ?_ | refine X.block_exit ?_ | refine C.zt ?_ | refine C.zf ?_ | refine X.zo ?_)
  have hcast : ((rs.length + 1 : Nat) : Int) = (rs.length : Int) + 1 := by omega
  have hfin : ∀ p ∈ facts (rs ++ [r]), p ∈ (⟨false, bb, ob⟩ :: facts rs : Fam) := by
    subst hr
    exact facts_snoc (r := ⟨at_, q, bb, ob, cq⟩) fun p hp => hp
  have hG : (r, cA).1.a = at_ ∧ (r, cA).1.p = q ∧ (r, cA).1.ok ∧ rs.length + 1 ≤ (r, cA).2 ∧ (r, cA).2 ≤ 9223372036854775807 := by subst hr; exact ⟨rfl, rfl, hob, hA, hA2⟩
  rw [hcast]
  cases hd : decide ((rs.length : Int) + 1 = st) with
  | true =>
    repeat (first | refine C.seq ?_ | refine C.region ?_ | refine R.zb ttok ?_ | refine R.zu ttok ?_ | refine R.zc ttok ?_ | refine R.za ttok ?_ | refine R.zx ?_ | refine R.zl ttok ?_ | refine R.zs ttok ?_ | refine R.z ttok ?_ | refine R.zk ?_ | refine R.zn ?_ | refine R.done ?_ | refine X.then ?_ | refine C.block ?_ | refine C.ret ?_ | refine C.skip ?_ | refine C.exit ?_ | refine X.pass_ret ?_ | refine X.pass_exit ?_ | refine X.block_normal ?_ | refine X.block_ret ?_ | refine X.block_exit ?_ | refine C.zt ?_ | refine C.zf ?_ | refine X.zo ?_)
    refine X.finF ttok (r, cA) [(6, 7)] hG rfl rfl rfl (by repeat (first | exact HasH.nil | refine HasH.same rfl rfl rfl trivial ?_ | refine HasH.same rfl rfl rfl rfl ?_ | refine HasH.same rfl rfl rfl (fun _ _ => rfl) ?_ | refine HasH.ros rfl rfl ?_)) _ (by first | exact .inl rfl | exact .inr rfl) ?_ ?_ ?_
    · exact fun w hf => apf_ro (facts_ro _)
    · exact hfin
    · exact fun p hp e => absurd e (by rw [facts_ro _ p hp]; simp)
  | false =>
    repeat (first | refine C.seq ?_ | refine C.region ?_ | refine R.zb ttok ?_ | refine R.zu ttok ?_ | refine R.zc ttok ?_ | refine R.za ttok ?_ | refine R.zx ?_ | refine R.zl ttok ?_ | refine R.zs ttok ?_ | refine R.z ttok ?_ | refine R.zk ?_ | refine R.zn ?_ | refine R.done ?_ | refine X.then ?_ | refine C.block ?_ | refine C.ret ?_ | refine C.skip ?_ | refine C.exit ?_ | refine X.pass_ret ?_ | refine X.pass_exit ?_ | refine X.block_normal ?_ | refine X.block_ret ?_ | refine X.block_exit ?_ | refine C.zt ?_ | refine C.zf ?_ | refine X.zo ?_)
    rw [hcast, decide_eq_false (show ¬ 200000 < (rs.length : Int) + 1 by omega)]
    repeat (first | refine C.seq ?_ | refine C.region ?_ | refine R.zb ttok ?_ | refine R.zu ttok ?_ | refine R.zc ttok ?_ | refine R.za ttok ?_ | refine R.zx ?_ | refine R.zl ttok ?_ | refine R.zs ttok ?_ | refine R.z ttok ?_ | refine R.zk ?_ | refine R.zn ?_ | refine R.done ?_ | refine X.then ?_ | refine C.block ?_ | refine C.ret ?_ | refine C.skip ?_ | refine C.exit ?_ | refine X.pass_ret ?_ | refine X.pass_exit ?_ | refine X.block_normal ?_ | refine X.block_ret ?_ | refine X.block_exit ?_ | refine C.zt ?_ | refine C.zf ?_ | refine X.zo ?_)
    refine X.finF ttok (r, cA) [(6, 7)] hG rfl rfl rfl (by repeat (first | exact HasH.nil | refine HasH.same rfl rfl rfl trivial ?_ | refine HasH.same rfl rfl rfl rfl ?_ | refine HasH.same rfl rfl rfl (fun _ _ => rfl) ?_ | refine HasH.ros rfl rfl ?_)) _ (by first | exact .inl rfl | exact .inr rfl) ?_ ?_ ?_
    · exact fun w hf => apf_ro (facts_ro _)
    · exact hfin
    · exact fun p hp e => absurd e (by rw [facts_ro _ p hp]; simp)
/-- how far one goes -/
def stp (st : Int) (l : List (Nat × List UInt8)) : List (Nat × List UInt8) := if 1 ≤ st then l.take st.toNat else l
theorem fgo2_spec (c : Nat) (p : List UInt8) (st : Int) (hc : p.length ≤ c) (hl : p.length ≤ 200000) (hst : -9223372036854775808 ≤ st ∧ st ≤ 9223372036854775807) :
    SpecF Try.prog 38 [.fn 39 [.ptr 2 0 0 0, .ptr 3 0 0 0, .ptr 4 0 0 0, .ptr 5 0 0 0], .ptr 0 0 0 0] [bxO 1 p.length c, roBo 0 p, flO true, flO false, wtO 6 0 0, ctO st, tbR [] 0] 8 [] (σ := (List Rw × Nat) × Bool) (fun s => rkeys s.1.1 = stp st (scanK p 0) ∧ (∀ r ∈ s.1.1, r.ok) ∧ s.1.1.length ≤ s.1.2 ∧ s.1.2 ≤ 9223372036854775807) (fun _ => .tup [])
    (fun s => [(0, bxO 1 p.length c), (2, flO true), (3, flO s.2), (4, wtO 7 s.1.1.length s.1.2), (5, ctO st), (7, tbR s.1.1 s.1.2)]) (fun s => facts s.1.1) := by
  refine SpecF.of Try.func38 rfl Try.ntmps38 rfl (by repeat (first | exact bdl_nil _ | refine bdl_cons (fun _ _ => rfl) ?_ | refine bdl_cons rfl ?_)) fun ρ w => ?_
  repeat (first | refine C.seq ?_ | refine C.region ?_ | refine R.zb ttok ?_ | refine R.zu ttok ?_ | refine R.zc ttok ?_ | refine R.za ttok ?_ | refine R.zx ?_ | refine R.zl ttok ?_ | refine R.zs ttok ?_ | refine R.z ttok ?_ | refine R.zk ?_ | refine R.zn ?_ | refine R.done ?_ | refine X.then ?_ | refine C.block ?_ | refine C.ret ?_ | refine C.skip ?_ | refine C.exit ?_ | refine X.pass_ret ?_ | refine X.pass_exit ?_ | refine X.block_normal ?_ | refine X.block_ret ?_ | refine X.block_exit ?_ | refine C.zt ?_ | refine C.zf ?_ | refine X.zo ?_)
  refine C.loopG (σ := Nat × List Rw × Nat) (L2 := 8) (fun s => s.1 ≤ p.length ∧ rkeys s.2.1 ++ scanK p s.1 = scanK p 0 ∧ (1 ≤ st → (s.2.1.length : Int) < st) ∧ (∀ r ∈ s.2.1, r.ok) ∧ s.2.1.length ≤ s.2.2 ∧ s.2.2 ≤ 9223372036854775807)
    (fun s => [(0, .fn 39 [.ptr 2 0 0 0, .ptr 3 0 0 0, .ptr 4 0 0 0, .ptr 5 0 0 0]), (1, .ptr 0 0 0 0), (3, .raw (.int .i64 (s.1 : Nat)))]) (fun s => [(0, bxO 1 p.length c), (1, roBo 0 p), (2, flO true), (3, flO false), (4, wtO 7 s.2.1.length s.2.2), (5, ctO st), (7, tbR s.2.1 s.2.2)]) (fun s => FF [bxO 1 p.length c, roBo 0 p, flO true, flO false, wtO 6 0 0, ctO st, tbR [] 0] ρ w [] (facts s.2.1)) (fun s => p.length + 1 - s.1) [(7, 6)] (0, [], 0)
    ⟨Nat.zero_le _, rfl, fun h => by show ((0 : Nat) : Int) < st; omega, by simp, Nat.le_refl _, by simp⟩ rfl (by repeat (first | exact HasT.nil | refine HasT.cons rfl rfl rfl ?_)) (by repeat (first | exact HasH.nil | refine HasH.same rfl rfl rfl trivial ?_ | refine HasH.same rfl rfl rfl rfl ?_ | refine HasH.same rfl rfl rfl (fun _ _ => rfl) ?_ | refine HasH.ros rfl rfl ?_)) rfl (fun _ h => h) ?_
  rintro ⟨k, rs, cr⟩ ⟨hk, hks, hlt, hok, hrc, hcr⟩
  dsimp only at hk hks hlt hok hrc hcr ⊢
  have hrl : rs.length ≤ 200000 := by
    have h1 := congrArg List.length hks
    have h2 := scanK_le (p := p) (k := 0) (Nat.zero_le _)
    simp at h1
    omega
  repeat (first | refine C.seq ?_ | refine C.region ?_ | refine R.zb ttok ?_ | refine R.zu ttok ?_ | refine R.zc ttok ?_ | refine R.za ttok ?_ | refine R.zx ?_ | refine R.zl ttok ?_ | refine R.zs ttok ?_ | refine R.z ttok ?_ | refine R.zk ?_ | refine R.zn ?_ | refine R.done ?_ | refine X.then ?_ | refine C.block ?_ | refine C.ret ?_ | refine C.skip ?_ | refine C.exit ?_ | refine X.pass_ret ?_ | refine X.pass_exit ?_ | refine X.block_normal ?_ | refine X.block_ret ?_ | refine X.block_exit ?_ | refine C.zt ?_ | refine C.zf ?_ | refine X.zo ?_)
  refine R.cl [1] (next_spec 0 c p k hc (by omega) hk) Try.call35 (by repeat (first | exact HasIn.nil | refine HasIn.same rfl rfl ?_ | refine HasIn.bro rfl ?_ | refine HasIn.ror rfl ?_ | refine HasIn.cro rfl rfl ?_)) rfl rfl rfl (fun _ => rfl) rfl (by kernel_rfl) fun _ _ => ?_
  cases hx : nextN p k with
  | error x =>
    have hx2 := next_err hx
    rw [show nxV 0 c p k = .tup [.raw (.slice none 0 0), .raw (.int .i64 0), .raw (.int .i64 (x : Nat))] by unfold nxV; rw [hx]]
    repeat (first | refine C.seq ?_ | refine C.region ?_ | refine R.zb ttok ?_ | refine R.zu ttok ?_ | refine R.zc ttok ?_ | refine R.za ttok ?_ | refine R.zx ?_ | refine R.zl ttok ?_ | refine R.zs ttok ?_ | refine R.z ttok ?_ | refine R.zk ?_ | refine R.zn ?_ | refine R.done ?_ | refine X.then ?_ | refine C.block ?_ | refine C.ret ?_ | refine C.skip ?_ | refine C.exit ?_ | refine X.pass_ret ?_ | refine X.pass_exit ?_ | refine X.block_normal ?_ | refine X.block_ret ?_ | refine X.block_exit ?_ | refine C.zt ?_ | refine C.zf ?_ | refine X.zo ?_)
    rw [decide_eq_true (show (x : Int) ≠ 0 by omega)]
    repeat (first | refine C.seq ?_ | refine C.region ?_ | refine R.zb ttok ?_ | refine R.zu ttok ?_ | refine R.zc ttok ?_ | refine R.za ttok ?_ | refine R.zx ?_ | refine R.zl ttok ?_ | refine R.zs ttok ?_ | refine R.z ttok ?_ | refine R.zk ?_ | refine R.zn ?_ | refine R.done ?_ | refine X.then ?_ | refine C.block ?_ | refine C.ret ?_ | refine C.skip ?_ | refine C.exit ?_ | refine X.pass_ret ?_ | refine X.pass_exit ?_ | refine X.block_normal ?_ | refine X.block_ret ?_ | refine X.block_exit ?_ | refine C.zt ?_ | refine C.zf ?_ | refine X.zo ?_)
    rw [scanK_err hx, List.append_nil] at hks
    have hkst : rkeys rs = stp st (scanK p 0) := by
      unfold stp
      rw [← hks]
      split
      · rename_i h
        have := hlt h
        rw [List.take_of_length_le (by simp; omega)]
      · rfl
    refine X.finF ttok ((rs, cr), false) [] ⟨hkst, hok, hrc, hcr⟩ rfl rfl rfl (by repeat (first | exact HasH.nil | refine HasH.same rfl rfl rfl trivial ?_ | refine HasH.same rfl rfl rfl rfl ?_ | refine HasH.same rfl rfl rfl (fun _ _ => rfl) ?_ | refine HasH.ros rfl rfl ?_)) _ (by first | exact .inl rfl | exact .inr rfl) ?_ ?_ ?_
    · exact fun w hf => hf.ap
    · exact fun p hp => hp
    · exact fun p hp => by cases hp
  | ok r =>
    obtain ⟨b, e⟩ := r
    have h1 := next_ok hx
    rw [scanK_ok hx] at hks
    have hrl2 : rs.length < 200000 := by
      have h2 := congrArg List.length hks
      have h3 := scanK_le (p := p) (k := 0) (Nat.zero_le _)
      simp at h2
      omega
    rw [show nxV 0 c p k = .tup [.sl 0 1 (0 + (k + 8)) b.length (c - (k + 8)), .raw (.int .i64 (e : Nat)), .raw (.int .i64 0)] by unfold nxV; rw [hx]]
    repeat (first | refine C.seq ?_ | refine C.region ?_ | refine R.zb ttok ?_ | refine R.zu ttok ?_ | refine R.zc ttok ?_ | refine R.za ttok ?_ | refine R.zx ?_ | refine R.zl ttok ?_ | refine R.zs ttok ?_ | refine R.z ttok ?_ | refine R.zk ?_ | refine R.zn ?_ | refine R.done ?_ | refine X.then ?_ | refine C.block ?_ | refine C.ret ?_ | refine C.skip ?_ | refine C.exit ?_ | refine X.pass_ret ?_ | refine X.pass_exit ?_ | refine X.block_normal ?_ | refine X.block_ret ?_ | refine X.block_exit ?_ | refine C.zt ?_ | refine C.zf ?_ | refine X.zo ?_)
    refine R.cl [1] (clone_spec (0 + (k + 8)) (c - (k + 8)) b (by omega)) Try.call36 (.pr rfl (part_body hx) .nil) rfl rfl rfl (fun _ => rfl) rfl (by kernel_rfl) fun c2 hc2 => ?_
    repeat (first | refine R.zb ttok ?_ | refine R.zu ttok ?_ | refine R.zc ttok ?_ | refine R.za ttok ?_ | refine R.zx ?_ | refine R.zl ttok ?_ | refine R.zs ttok ?_ | refine R.z ttok ?_ | refine R.zk ?_ | refine R.zn ?_)
    refine R.clR [8, 2, 3, 4, 5, 7] (fscd1_spec rs cr c2 k b st h1.2.2.1 hcr hrl2 hst) (facts_ro rs) Try.call39 (by repeat (first | exact HasIn.nil | refine HasIn.same rfl rfl ?_ | refine HasIn.bro rfl ?_ | refine HasIn.ror rfl ?_ | refine HasIn.cro rfl rfl ?_)) rfl rfl rfl (fun _ => rfl) rfl (by kernel_rfl) fun s hs => ?_
    have hlen : (rs ++ [s.1]).length = rs.length + 1 := by rw [List.length_append]; rfl
    have hkeys : rkeys (rs ++ [s.1]) ++ scanK p e = scanK p 0 := by
      rw [← hks]
      simp [Rw.key, hs.1, hs.2.1]
    have hok2 : ∀ r ∈ rs ++ [s.1], r.ok := fun x hx => by
      rcases List.mem_append.1 hx with hx | hx
      · exact hok x hx
      · obtain rfl : x = s.1 := by simpa using hx
        exact hs.2.2.1
    cases hd : decide ((rs.length : Int) + 1 = st) with
    | true =>
      have hd := of_decide_eq_true hd
      have hkst : rkeys (rs ++ [s.1]) = stp st (scanK p 0) := by
        unfold stp
        rw [if_pos (by omega), ← hkeys, List.take_append_of_le_length (by simp; omega), List.take_of_length_le (by simp; omega)]
      repeat (first | refine C.seq ?_ | refine C.region ?_ | refine R.zb ttok ?_ | refine R.zu ttok ?_ | refine R.zc ttok ?_ | refine R.za ttok ?_ | refine R.zx ?_ | refine R.zl ttok ?_ | refine R.zs ttok ?_ | refine R.z ttok ?_ | refine R.zk ?_ | refine R.zn ?_ | refine R.done ?_ | refine X.then ?_ | refine C.block ?_ | refine C.ret ?_ | refine C.skip ?_ | refine C.exit ?_ | refine X.pass_ret ?_ | refine X.pass_exit ?_ | refine X.block_normal ?_ | refine X.block_ret ?_ | refine X.block_exit ?_ | refine C.zt ?_ | refine C.zf ?_ | refine X.zo ?_)
      rw [← hlen]
      refine X.finF ttok ((rs ++ [s.1], s.2), true) [(7, 9)] ⟨hkst, hok2, by rw [hlen]; exact hs.2.2.2.1, hs.2.2.2.2⟩ rfl rfl rfl (by repeat (first | exact HasH.nil | refine HasH.same rfl rfl rfl trivial ?_ | refine HasH.same rfl rfl rfl rfl ?_ | refine HasH.same rfl rfl rfl (fun _ _ => rfl) ?_ | refine HasH.ros rfl rfl ?_)) _ (by first | exact .inl rfl | exact .inr rfl) ?_ ?_ ?_
      · exact fun w hf => hf.ap
      · exact fun p hp => hp
      · exact fun p hp => by cases hp
    | false =>
      have hd := of_decide_eq_false hd
      repeat (first | refine C.seq ?_ | refine C.region ?_ | refine R.zb ttok ?_ | refine R.zu ttok ?_ | refine R.zc ttok ?_ | refine R.za ttok ?_ | refine R.zx ?_ | refine R.zl ttok ?_ | refine R.zs ttok ?_ | refine R.z ttok ?_ | refine R.zk ?_ | refine R.zn ?_ | refine R.done ?_ | refine X.then ?_ | refine C.block ?_ | refine C.ret ?_ | refine C.skip ?_ | refine C.exit ?_ | refine X.pass_ret ?_ | refine X.pass_exit ?_ | refine X.block_normal ?_ | refine X.block_ret ?_ | refine X.block_exit ?_ | refine C.zt ?_ | refine C.zf ?_ | refine X.zo ?_)
      rw [← hlen]
      refine X.backG [(7, 9)] (e, rs ++ [s.1], s.2) ⟨h1.2.1, hkeys, fun h => ?_, hok2, by rw [hlen]; exact hs.2.2.2.1, hs.2.2.2.2⟩ (by show _ - e < _ - k; omega) rfl (by repeat (first | exact HasT.nil | refine HasT.cons rfl rfl rfl ?_)) (by repeat (first | exact HasH.nil | refine HasH.same rfl rfl rfl trivial ?_ | refine HasH.same rfl rfl rfl rfl ?_ | refine HasH.same rfl rfl rfl (fun _ _ => rfl) ?_ | refine HasH.ros rfl rfl ?_)) rfl (fun _ h => h)
      have := hlt h
      show ((rs ++ [s.1]).length : Int) < st
      omega
end Go.Proofs.Ytggnjgnjgnlchaa
