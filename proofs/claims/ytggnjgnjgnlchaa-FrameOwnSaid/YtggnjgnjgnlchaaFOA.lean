/- frame: FrameOwn: scanned, whose bodies may be written or not; the walk -/
import Derived.Test.YtggnjgnjgnlchaaK39
import Derived.Test.YtggnjgnjgnlchaaFB3
/- frame: scanned, whose bodies may be written or not; lists of bodies that are written -/
namespace Go.Proofs.Ytggnjgnjgnlchaa
set_option linter.unusedVariables false
set_option linter.unusedSimpArgs false
open Go.RowKit
set_option maxRecDepth 100000
set_option maxHeartbeats 4000000
def Rw.factW (fw : Bool) (r : Rw) : Fact := ⟨fw, r.b, r.ob⟩
def factsW (fw : Bool) (rs : List Rw) : Fam := rs.map (Rw.factW fw)
theorem factsW_app (fw : Bool) (a b : List Rw) : factsW fw (a ++ b) = factsW fw a ++ factsW fw b := List.map_append
theorem factsW_snoc {fw : Bool} {rs : List Rw} {r : Rw} {fs : Fam} (h : ∀ p ∈ factsW fw rs, p ∈ fs) : ∀ p ∈ factsW fw (rs ++ [r]), p ∈ r.factW fw :: fs := fun x hx => by
  rw [factsW_app] at hx
  rcases List.mem_append.1 hx with hx | hx
  · exact List.mem_cons_of_mem _ (h x hx)
  · obtain rfl : x = r.factW fw := by simpa [factsW] using hx
    exact List.mem_cons_self
def Rw.okW (r : Rw) : Prop := r.ok ∧ r.c ≤ 9223372036854775807
theorem fscd1W_spec (fw : Bool) (rs : List Rw) (cr cq at_ : Nat) (q : List UInt8) (st : Int) (hcq : cq ≤ 9223372036854775807) (hq : 0 < q.length) (hcr : cr ≤ 9223372036854775807) (hrl : rs.length < 200000) (hst : -9223372036854775808 ≤ st ∧ st ≤ 9223372036854775807) :
    SpecF Try.prog 39 [.raw (.int .i64 (at_ : Nat)), .sl 0 1 0 q.length cq, .ptr 1 0 0 0, .ptr 2 0 0 0, .ptr 3 0 0 0, .ptr 4 0 0 0] [.bytes q cq 5, flO true, flO false, wtO 5 rs.length cr, ctO st, tbR rs cr] 7 (factsW fw rs) (σ := Rw × Nat) (fun s => s.1.a = at_ ∧ s.1.p = q ∧ s.1.okW ∧ rs.length + 1 ≤ s.2 ∧ s.2 ≤ 9223372036854775807)
    (fun _ => .raw (.bool (!decide ((rs.length : Int) + 1 = st)))) (fun s => [(1, flO true), (2, flO (decide ((rs.length : Int) + 1 = st))), (3, wtO 6 (rs.length + 1) s.2), (4, ctO st), (6, tbR (rs ++ [s.1]) s.2)]) (fun s => factsW fw (rs ++ [s.1])) := by
  refine SpecF.of Try.func39 rfl Try.ntmps39 rfl (by repeat (first | exact bdl_nil _ | refine bdl_cons (fun _ _ => rfl) ?_ | refine bdl_cons trivial ?_ | refine bdl_cons rfl ?_)) fun ρ w => ?_
  refine C.seq ?_
  refine C.region ?_
  repeat (first | refine R.zb ttok ?_ | refine R.zu ttok ?_ | refine R.zc ttok ?_ | refine R.za ttok ?_ | refine R.zx ?_ | refine R.zl ttok ?_ | refine R.zs ttok ?_ | refine R.z ttok ?_ | refine R.zk ?_ | refine R.zn ?_)
  refine R.done ?_
  refine X.then ?_
  refine C.seq ?_
  refine C.region ?_
  repeat (first | refine R.zb ttok ?_ | refine R.zu ttok ?_ | refine R.zc ttok ?_ | refine R.za ttok ?_ | refine R.zx ?_ | refine R.zl ttok ?_ | refine R.zs ttok ?_ | refine R.z ttok ?_ | refine R.zk ?_ | refine R.zn ?_)
  refine R.done ?_
  refine X.then ?_
  refine C.seq ?_
  refine C.region ?_
  refine R.frzB fw 1 0 (w1 := 1) rfl hq rfl fun bb ob hob hne => ?_
  repeat (first | refine R.zb ttok ?_ | refine R.zu ttok ?_ | refine R.zc ttok ?_ | refine R.za ttok ?_ | refine R.zx ?_ | refine R.zl ttok ?_ | refine R.zs ttok ?_ | refine R.z ttok ?_ | refine R.zk ?_ | refine R.zn ?_)
  obtain ⟨r, hr⟩ : ∃ r : Rw, r = ⟨at_, q, bb, ob, cq⟩ := ⟨_, rfl⟩
  have hlen : (rs ++ [r]).length = rs.length + 1 := by rw [List.length_append]; rfl
  refine R.app (xs := rws rs) (news := rws [r]) ttok (fun c => tbR (rs ++ [r]) c) rfl rfl (dstRw rfl) (SrcA.cells rfl (by rw [hr]; rfl)) (asRw _ _ _ (rws_app _ _).symm) rfl rfl rfl rfl rfl rfl (by decide) (by rw [hr]; rfl) (by rw [hr]; rfl) rfl (by kernel_rfl) hcr (by show (rs.length + 1) * 32 ≤ _; omega) (by omega) fun cA hA hA2 => ?_
  repeat (first | refine C.seq ?_ | refine C.region ?_ | refine R.zb ttok ?_ | refine R.zu ttok ?_ | refine R.zc ttok ?_ | refine R.za ttok ?_ | refine R.zx ?_ | refine R.zl ttok ?_ | refine R.zs ttok ?_ | refine R.z ttok ?_ | refine R.zk ?_ | refine R.zn ?_ | refine R.done ?_ | refine X.then ?_ | refine C.block ?_ | refine C.ret ?_ | refine C.skip ?_ | refine C.exit ?_ | refine X.pass_ret ?_ | refine X.pass_exit ?_ | refine X.block_normal ?_ | refine X.block_ret ?_ | refine X.block_exit ?_ | refine C.zt ?_ | refine C.zf ?_ | refine X.zo ?_)
  have hcast : ((rs.length + 1 : Nat) : Int) = (rs.length : Int) + 1 := by omega
  have hfin : ∀ p ∈ factsW fw (rs ++ [r]), p ∈ (⟨fw, bb, ob⟩ :: factsW fw rs : Fam) := by
    subst hr
    exact factsW_snoc (r := ⟨at_, q, bb, ob, cq⟩) fun p hp => hp
  have hapw : ∀ w', FF [.bytes q cq 5, flO true, flO false, wtO 5 rs.length cr, ctO st, tbR rs cr] ρ w (factsW fw rs) (⟨fw, bb, ob⟩ :: factsW fw rs) w' → ApF (factsW fw (rs ++ [r])) := fun w' hf => by
    subst hr
    rw [factsW_app]
    exact apf_swap hf.ap
  have hG : (r, cA).1.a = at_ ∧ (r, cA).1.p = q ∧ (r, cA).1.okW ∧ rs.length + 1 ≤ (r, cA).2 ∧ (r, cA).2 ≤ 9223372036854775807 := by subst hr; exact ⟨rfl, rfl, ⟨hob, hcq⟩, hA, hA2⟩
  rw [hcast]
  cases hd : decide ((rs.length : Int) + 1 = st) with
  | true =>
    repeat (first | refine C.seq ?_ | refine C.region ?_ | refine R.zb ttok ?_ | refine R.zu ttok ?_ | refine R.zc ttok ?_ | refine R.za ttok ?_ | refine R.zx ?_ | refine R.zl ttok ?_ | refine R.zs ttok ?_ | refine R.z ttok ?_ | refine R.zk ?_ | refine R.zn ?_ | refine R.done ?_ | refine X.then ?_ | refine C.block ?_ | refine C.ret ?_ | refine C.skip ?_ | refine C.exit ?_ | refine X.pass_ret ?_ | refine X.pass_exit ?_ | refine X.block_normal ?_ | refine X.block_ret ?_ | refine X.block_exit ?_ | refine C.zt ?_ | refine C.zf ?_ | refine X.zo ?_)
    refine X.finF ttok (r, cA) [(6, 7)] hG rfl rfl rfl (by repeat (first | exact HasH.nil | refine HasH.same rfl rfl rfl trivial ?_ | refine HasH.same rfl rfl rfl rfl ?_ | refine HasH.same rfl rfl rfl (fun _ _ => rfl) ?_ | refine HasH.ros rfl rfl ?_)) _ (by first | exact .inl rfl | exact .inr rfl) ?_ ?_ ?_
    · exact hapw
    · exact hfin
    · exact fun p hp e => ⟨p, List.mem_cons_of_mem _ hp, rfl⟩
  | false =>
    repeat (first | refine C.seq ?_ | refine C.region ?_ | refine R.zb ttok ?_ | refine R.zu ttok ?_ | refine R.zc ttok ?_ | refine R.za ttok ?_ | refine R.zx ?_ | refine R.zl ttok ?_ | refine R.zs ttok ?_ | refine R.z ttok ?_ | refine R.zk ?_ | refine R.zn ?_ | refine R.done ?_ | refine X.then ?_ | refine C.block ?_ | refine C.ret ?_ | refine C.skip ?_ | refine C.exit ?_ | refine X.pass_ret ?_ | refine X.pass_exit ?_ | refine X.block_normal ?_ | refine X.block_ret ?_ | refine X.block_exit ?_ | refine C.zt ?_ | refine C.zf ?_ | refine X.zo ?_)
    rw [hcast, decide_eq_false (show ¬ 200000 < (rs.length : Int) + 1 by omega)]
    repeat (first | refine C.seq ?_ | refine C.region ?_ | refine R.zb ttok ?_ | refine R.zu ttok ?_ | refine R.zc ttok ?_ | refine R.za ttok ?_ | refine R.zx ?_ | refine R.zl ttok ?_ | refine R.zs ttok ?_ | refine R.z ttok ?_ | refine R.zk ?_ | refine R.zn ?_ | refine R.done ?_ | refine X.then ?_ | refine C.block ?_ | refine C.ret ?_ | refine C.skip ?_ | refine C.exit ?_ | refine X.pass_ret ?_ | refine X.pass_exit ?_ | refine X.block_normal ?_ | refine X.block_ret ?_ | refine X.block_exit ?_ | refine C.zt ?_ | refine C.zf ?_ | refine X.zo ?_)
    refine X.finF ttok (r, cA) [(6, 7)] hG rfl rfl rfl (by repeat (first | exact HasH.nil | refine HasH.same rfl rfl rfl trivial ?_ | refine HasH.same rfl rfl rfl rfl ?_ | refine HasH.same rfl rfl rfl (fun _ _ => rfl) ?_ | refine HasH.ros rfl rfl ?_)) _ (by first | exact .inl rfl | exact .inr rfl) ?_ ?_ ?_
    · exact hapw
    · exact hfin
    · exact fun p hp e => ⟨p, List.mem_cons_of_mem _ hp, rfl⟩
theorem fgo2W_spec (fw : Bool) (c : Nat) (p : List UInt8) (st : Int) (hc : p.length ≤ c) (hl : p.length ≤ 200000) (hst : -9223372036854775808 ≤ st ∧ st ≤ 9223372036854775807) :
    SpecF Try.prog 38 [.fn 39 [.ptr 2 0 0 0, .ptr 3 0 0 0, .ptr 4 0 0 0, .ptr 5 0 0 0], .ptr 0 0 0 0] [bxO 1 p.length c, roBo 0 p, flO true, flO false, wtO 6 0 0, ctO st, tbR [] 0] 8 [] (σ := (List Rw × Nat) × Bool) (fun s => rkeys s.1.1 = stp st (scanK p 0) ∧ (∀ r ∈ s.1.1, r.okW) ∧ s.1.1.length ≤ s.1.2 ∧ s.1.2 ≤ 9223372036854775807) (fun _ => .tup [])
    (fun s => [(0, bxO 1 p.length c), (2, flO true), (3, flO s.2), (4, wtO 7 s.1.1.length s.1.2), (5, ctO st), (7, tbR s.1.1 s.1.2)]) (fun s => factsW fw s.1.1) := by
  refine SpecF.of Try.func38 rfl Try.ntmps38 rfl (by repeat (first | exact bdl_nil _ | refine bdl_cons (fun _ _ => rfl) ?_ | refine bdl_cons rfl ?_)) fun ρ w => ?_
  repeat (first | refine C.seq ?_ | refine C.region ?_ | refine R.zb ttok ?_ | refine R.zu ttok ?_ | refine R.zc ttok ?_ | refine R.za ttok ?_ | refine R.zx ?_ | refine R.zl ttok ?_ | refine R.zs ttok ?_ | refine R.z ttok ?_ | refine R.zk ?_ | refine R.zn ?_ | refine R.done ?_ | refine X.then ?_ | refine C.block ?_ | refine C.ret ?_ | refine C.skip ?_ | refine C.exit ?_ | refine X.pass_ret ?_ | refine X.pass_exit ?_ | refine X.block_normal ?_ | refine X.block_ret ?_ | refine X.block_exit ?_ | refine C.zt ?_ | refine C.zf ?_ | refine X.zo ?_)
  refine C.loopG (σ := Nat × List Rw × Nat) (L2 := 8) (fun s => s.1 ≤ p.length ∧ rkeys s.2.1 ++ scanK p s.1 = scanK p 0 ∧ (1 ≤ st → (s.2.1.length : Int) < st) ∧ (∀ r ∈ s.2.1, r.okW) ∧ s.2.1.length ≤ s.2.2 ∧ s.2.2 ≤ 9223372036854775807)
    (fun s => [(0, .fn 39 [.ptr 2 0 0 0, .ptr 3 0 0 0, .ptr 4 0 0 0, .ptr 5 0 0 0]), (1, .ptr 0 0 0 0), (3, .raw (.int .i64 (s.1 : Nat)))]) (fun s => [(0, bxO 1 p.length c), (1, roBo 0 p), (2, flO true), (3, flO false), (4, wtO 7 s.2.1.length s.2.2), (5, ctO st), (7, tbR s.2.1 s.2.2)]) (fun s => FF [bxO 1 p.length c, roBo 0 p, flO true, flO false, wtO 6 0 0, ctO st, tbR [] 0] ρ w [] (factsW fw s.2.1)) (fun s => p.length + 1 - s.1) [(7, 6)] (0, [], 0)
    ⟨Nat.zero_le _, rfl, fun h => by show ((0 : Nat) : Int) < st; omega, by simp, Nat.le_refl _, by simp⟩ rfl (by repeat (first | exact HasT.nil | refine HasT.cons rfl rfl rfl ?_)) (by repeat (first | exact HasH.nil | refine HasH.same rfl rfl rfl trivial ?_ | refine HasH.same rfl rfl rfl rfl ?_ | refine HasH.same rfl rfl rfl (fun _ _ => rfl) ?_ | refine HasH.ros rfl rfl ?_)) rfl (fun _ h => h) ?_
  rintro ⟨k, rs, cr⟩ ⟨hk, hks, hlt, hok, hrc, hcr⟩
  dsimp only at hk hks hlt hok hrc hcr ⊢
  have hrl : rs.length ≤ 200000 := by
    have h1 := congrArg List.length hks
    have h2 := scanK_le (p := p) (k := 0) (Nat.zero_le _)
    simp at h1
    omega
  repeat (first | refine C.seq ?_ | refine C.region ?_ | refine R.zb ttok ?_ | refine R.zu ttok ?_ | refine R.zc ttok ?_ | refine R.za ttok ?_ | refine R.zx ?_ | refine R.zl ttok ?_ | refine R.zs ttok ?_ | refine R.z ttok ?_ | refine R.zk ?_ | refine R.zn ?_ | refine R.done ?_ | refine X.then ?_ | refine C.block ?_ | refine C.ret ?_ | refine C.skip ?_ | refine C.exit ?_ | refine X.pass_ret ?_ | refine X.pass_exit ?_ | refine X.block_normal ?_ | refine X.block_ret ?_ | refine X.block_exit ?_ | refine C.zt ?_ | refine C.zf ?_ | refine X.zo ?_)
  refine R.cl [1] (next_spec 0 c p k hc (by omega) hk) Try.call35 (by repeat (first | exact HasIn.nil | refine HasIn.same rfl rfl ?_ | refine HasIn.bro rfl ?_ | refine HasIn.ror rfl ?_ | refine HasIn.cro rfl rfl ?_)) rfl rfl rfl (fun _ => rfl) rfl (by kernel_rfl) fun _ _ => ?_
  cases hx : nextN p k with
  | error x =>
    have hx2 := next_err hx
    rw [show nxV 0 c p k = .tup [.raw (.slice none 0 0), .raw (.int .i64 0), .raw (.int .i64 (x : Nat))] by unfold nxV; rw [hx]]
    repeat (first | refine C.seq ?_ | refine C.region ?_ | refine R.zb ttok ?_ | refine R.zu ttok ?_ | refine R.zc ttok ?_ | refine R.za ttok ?_ | refine R.zx ?_ | refine R.zl ttok ?_ | refine R.zs ttok ?_ | refine R.z ttok ?_ | refine R.zk ?_ | refine R.zn ?_ | refine R.done ?_ | refine X.then ?_ | refine C.block ?_ | refine C.ret ?_ | refine C.skip ?_ | refine C.exit ?_ | refine X.pass_ret ?_ | refine X.pass_exit ?_ | refine X.block_normal ?_ | refine X.block_ret ?_ | refine X.block_exit ?_ | refine C.zt ?_ | refine C.zf ?_ | refine X.zo ?_)
    rw [decide_eq_true (show (x : Int) ≠ 0 by omega)]
    repeat (first | refine C.seq ?_ | refine C.region ?_ | refine R.zb ttok ?_ | refine R.zu ttok ?_ | refine R.zc ttok ?_ | refine R.za ttok ?_ | refine R.zx ?_ | refine R.zl ttok ?_ | refine R.zs ttok ?_ | refine R.z ttok ?_ | refine R.zk ?_ | refine R.zn ?_ | refine R.done ?_ | refine X.then ?_ | refine C.block ?_ | refine C.ret ?_ | refine C.skip ?_ | refine C.exit ?_ | refine X.pass_ret ?_ | refine X.pass_exit ?_ | refine X.block_normal ?_ | refine X.block_ret ?_ | refine X.block_exit ?_ | refine C.zt ?_ | refine C.zf ?_ | refine X.zo ?_)
    rw [scanK_err hx, List.append_nil] at hks
    have hkst : rkeys rs = stp st (scanK p 0) := by
      unfold stp
      rw [← hks]
      split
      · rename_i h
        have := hlt h
        rw [List.take_of_length_le (by simp; omega)]
      · rfl
    refine X.finF ttok ((rs, cr), false) [] ⟨hkst, hok, hrc, hcr⟩ rfl rfl rfl (by repeat (first | exact HasH.nil | refine HasH.same rfl rfl rfl trivial ?_ | refine HasH.same rfl rfl rfl rfl ?_ | refine HasH.same rfl rfl rfl (fun _ _ => rfl) ?_ | refine HasH.ros rfl rfl ?_)) _ (by first | exact .inl rfl | exact .inr rfl) ?_ ?_ ?_
    · exact fun w hf => hf.ap
    · exact fun p hp => hp
    · exact fun p hp => by cases hp
  | ok r =>
    obtain ⟨b, e⟩ := r
    have h1 := next_ok hx
    rw [scanK_ok hx] at hks
    have hrl2 : rs.length < 200000 := by
      have h2 := congrArg List.length hks
      have h3 := scanK_le (p := p) (k := 0) (Nat.zero_le _)
      simp at h2
      omega
    rw [show nxV 0 c p k = .tup [.sl 0 1 (0 + (k + 8)) b.length (c - (k + 8)), .raw (.int .i64 (e : Nat)), .raw (.int .i64 0)] by unfold nxV; rw [hx]]
    repeat (first | refine C.seq ?_ | refine C.region ?_ | refine R.zb ttok ?_ | refine R.zu ttok ?_ | refine R.zc ttok ?_ | refine R.za ttok ?_ | refine R.zx ?_ | refine R.zl ttok ?_ | refine R.zs ttok ?_ | refine R.z ttok ?_ | refine R.zk ?_ | refine R.zn ?_ | refine R.done ?_ | refine X.then ?_ | refine C.block ?_ | refine C.ret ?_ | refine C.skip ?_ | refine C.exit ?_ | refine X.pass_ret ?_ | refine X.pass_exit ?_ | refine X.block_normal ?_ | refine X.block_ret ?_ | refine X.block_exit ?_ | refine C.zt ?_ | refine C.zf ?_ | refine X.zo ?_)
    refine R.cl [1] (clone_spec (0 + (k + 8)) (c - (k + 8)) b (by omega)) Try.call36 (.pr rfl (part_body hx) .nil) rfl rfl rfl (fun _ => rfl) rfl (by kernel_rfl) fun c2 hc2 => ?_
    repeat (first | refine R.zb ttok ?_ | refine R.zu ttok ?_ | refine R.zc ttok ?_ | refine R.za ttok ?_ | refine R.zx ?_ | refine R.zl ttok ?_ | refine R.zs ttok ?_ | refine R.z ttok ?_ | refine R.zk ?_ | refine R.zn ?_)
    refine R.clF [8, 2, 3, 4, 5, 7] (fscd1W_spec fw rs cr c2 k b st hc2 h1.2.2.1 hcr hrl2 hst) (Nat.le_refl _) (fun _ _ => rfl) Try.call39 (by repeat (first | exact HasIn.nil | refine HasIn.same rfl rfl ?_ | refine HasIn.bro rfl ?_ | refine HasIn.ror rfl ?_ | refine HasIn.cro rfl rfl ?_)) rfl rfl rfl (fun _ => rfl) rfl (by kernel_rfl) fun s hs => ?_
    have hlen : (rs ++ [s.1]).length = rs.length + 1 := by rw [List.length_append]; rfl
    have hkeys : rkeys (rs ++ [s.1]) ++ scanK p e = scanK p 0 := by
      rw [← hks]
      simp [Rw.key, hs.1, hs.2.1]
    have hok2 : ∀ r ∈ rs ++ [s.1], r.okW := fun x hx => by
      rcases List.mem_append.1 hx with hx | hx
      · exact hok x hx
      · obtain rfl : x = s.1 := by simpa using hx
        exact hs.2.2.1
    cases hd : decide ((rs.length : Int) + 1 = st) with
    | true =>
      have hd := of_decide_eq_true hd
      have hkst : rkeys (rs ++ [s.1]) = stp st (scanK p 0) := by
        unfold stp
        rw [if_pos (by omega), ← hkeys, List.take_append_of_le_length (by simp; omega), List.take_of_length_le (by simp; omega)]
      repeat (first | refine C.seq ?_ | refine C.region ?_ | refine R.zb ttok ?_ | refine R.zu ttok ?_ | refine R.zc ttok ?_ | refine R.za ttok ?_ | refine R.zx ?_ | refine R.zl ttok ?_ | refine R.zs ttok ?_ | refine R.z ttok ?_ | refine R.zk ?_ | refine R.zn ?_ | refine R.done ?_ | refine X.then ?_ | refine C.block ?_ | refine C.ret ?_ | refine C.skip ?_ | refine C.exit ?_ | refine X.pass_ret ?_ | refine X.pass_exit ?_ | refine X.block_normal ?_ | refine X.block_ret ?_ | refine X.block_exit ?_ | refine C.zt ?_ | refine C.zf ?_ | refine X.zo ?_)
      rw [← hlen]
      refine X.finF ttok ((rs ++ [s.1], s.2), true) [(7, 9)] ⟨hkst, hok2, by rw [hlen]; exact hs.2.2.2.1, hs.2.2.2.2⟩ rfl rfl rfl (by repeat (first | exact HasH.nil | refine HasH.same rfl rfl rfl trivial ?_ | refine HasH.same rfl rfl rfl rfl ?_ | refine HasH.same rfl rfl rfl (fun _ _ => rfl) ?_ | refine HasH.ros rfl rfl ?_)) _ (by first | exact .inl rfl | exact .inr rfl) ?_ ?_ ?_
      · exact fun w hf => hf.ap
      · exact fun p hp => hp
      · exact fun p hp => by cases hp
    | false =>
      have hd := of_decide_eq_false hd
      repeat (first | refine C.seq ?_ | refine C.region ?_ | refine R.zb ttok ?_ | refine R.zu ttok ?_ | refine R.zc ttok ?_ | refine R.za ttok ?_ | refine R.zx ?_ | refine R.zl ttok ?_ | refine R.zs ttok ?_ | refine R.z ttok ?_ | refine R.zk ?_ | refine R.zn ?_ | refine R.done ?_ | refine X.then ?_ | refine C.block ?_ | refine C.ret ?_ | refine C.skip ?_ | refine C.exit ?_ | refine X.pass_ret ?_ | refine X.pass_exit ?_ | refine X.block_normal ?_ | refine X.block_ret ?_ | refine X.block_exit ?_ | refine C.zt ?_ | refine C.zf ?_ | refine X.zo ?_)
      rw [← hlen]
      refine X.backG [(7, 9)] (e, rs ++ [s.1], s.2) ⟨h1.2.1, hkeys, fun h => ?_, hok2, by rw [hlen]; exact hs.2.2.2.1, hs.2.2.2.2⟩ (by show _ - e < _ - k; omega) rfl (by repeat (first | exact HasT.nil | refine HasT.cons rfl rfl rfl ?_)) (by repeat (first | exact HasH.nil | refine HasH.same rfl rfl rfl trivial ?_ | refine HasH.same rfl rfl rfl rfl ?_ | refine HasH.same rfl rfl rfl (fun _ _ => rfl) ?_ | refine HasH.ros rfl rfl ?_)) rfl (fun _ h => h)
      have := hlt h
      show ((rs ++ [s.1]).length : Int) < st
      omega
theorem scannedW_spec (fw : Bool) (off c : Nat) (p : List UInt8) (st : Int) (hl : p.length ≤ 200000) (hst : -9223372036854775808 ≤ st ∧ st ≤ 9223372036854775807) :
    SpecF Try.prog 24 [.sl 0 1 off p.length c, .raw (.int .i64 st)] [roBo off p] 2 [] (σ := List Rw × Nat) (fun s => rkeys s.1 = stp st (scanK p 0) ∧ (∀ r ∈ s.1, r.okW) ∧ s.1.length ≤ s.2 ∧ s.2 ≤ 9223372036854775807)
    (fun s => .tup [.sl 1 2 0 s.1.length s.2, .raw (.bool true)]) (fun s => [(1, tbR s.1 s.2)]) (fun s => factsW fw s.1) := by
  refine SpecF.of Try.func24 rfl Try.ntmps24 rfl (by repeat (first | exact bdl_nil _ | refine bdl_cons (fun _ _ => rfl) ?_ | refine bdl_cons trivial ?_ | refine bdl_cons rfl ?_ | refine bdl_cons (rowsF_bd _ _ _ _) ?_ | refine bdl_cons (rowsS_bd _ _ _ _) ?_)) fun ρ w => ?_
  repeat (first | refine C.seq ?_ | refine C.region ?_ | refine R.zb ttok ?_ | refine R.zu ttok ?_ | refine R.zc ttok ?_ | refine R.za ttok ?_ | refine R.zx ?_ | refine R.zl ttok ?_ | refine R.zs ttok ?_ | refine R.z ttok ?_ | refine R.zk ?_ | refine R.zn ?_ | refine R.done ?_ | refine X.then ?_ | refine C.block ?_ | refine C.ret ?_ | refine C.skip ?_ | refine C.exit ?_ | refine X.pass_ret ?_ | refine X.pass_exit ?_ | refine X.block_normal ?_ | refine X.block_ret ?_ | refine X.block_exit ?_ | refine C.zt ?_ | refine C.zf ?_ | refine X.zo ?_)
  refine R.cl [0] (fscan_spec off c p (by omega)) Try.call20 (by repeat (first | exact HasIn.nil | refine HasIn.same rfl rfl ?_ | refine HasIn.bro rfl ?_ | refine HasIn.ror rfl ?_ | refine HasIn.cro rfl rfl ?_)) rfl rfl rfl (fun _ => rfl) rfl (by kernel_rfl) fun c2 hc2 => ?_
  repeat (first | refine R.zb ttok ?_ | refine R.zu ttok ?_ | refine R.zc ttok ?_ | refine R.za ttok ?_ | refine R.zx ?_ | refine R.zl ttok ?_ | refine R.zs ttok ?_ | refine R.z ttok ?_ | refine R.zk ?_ | refine R.zn ?_)
  refine R.done ?_
  refine X.then ?_
  refine C.noneH 2 [.sl 7 2 0 0 0] (.tab 2 0 0 (rwF []) 42) (none_tab _ _ _ _) rfl rfl rfl (fun ρ h => by have h : ρ 7 = none := h; simp [AV.concs, AV.conc, h]) ?_
  refine C.fact (bytes_le (l := 6) rfl) fun hc3 => ?_
  repeat (first | refine C.seq ?_ | refine C.region ?_ | refine R.zb ttok ?_ | refine R.zu ttok ?_ | refine R.zc ttok ?_ | refine R.za ttok ?_ | refine R.zx ?_ | refine R.zl ttok ?_ | refine R.zs ttok ?_ | refine R.z ttok ?_ | refine R.zk ?_ | refine R.zn ?_ | refine R.done ?_ | refine X.then ?_ | refine C.block ?_ | refine C.ret ?_ | refine C.skip ?_ | refine C.exit ?_ | refine X.pass_ret ?_ | refine X.pass_exit ?_ | refine X.block_normal ?_ | refine X.block_ret ?_ | refine X.block_exit ?_ | refine C.zt ?_ | refine C.zf ?_ | refine X.zo ?_)
  refine R.clG [5, 6, 4, 3, 2, 1, 7] (fgo2W_spec fw _ p st hc3 hl hst) Try.call38 (by repeat (first | exact HasIn.nil | refine HasIn.same rfl rfl ?_ | refine HasIn.bro rfl ?_ | refine HasIn.ror rfl ?_ | refine HasIn.cro rfl rfl ?_)) rfl rfl rfl (fun _ => rfl) rfl (by kernel_rfl) fun s hs => ?_
  repeat (first | refine R.zb ttok ?_ | refine R.zu ttok ?_ | refine R.zc ttok ?_ | refine R.za ttok ?_ | refine R.zx ?_ | refine R.zl ttok ?_ | refine R.zs ttok ?_ | refine R.z ttok ?_ | refine R.zk ?_ | refine R.zn ?_)
  refine R.done ?_
  refine X.then ?_
  refine C.seq ?_
  refine C.draw [[], [], [1], [1, 2], [1, 2, 3], [1, 2, 3, 4], [1, 2, 3, 4, 5], [0, 1, 2], [0, 1, 2, 3, 4, 5, 6, 7]] [] (by kernel_rfl) (by kernel_rfl) ?_
  repeat (first | refine R.zb ttok ?_ | refine R.zu ttok ?_ | refine R.zc ttok ?_ | refine R.za ttok ?_ | refine R.zx ?_ | refine R.zl ttok ?_ | refine R.zs ttok ?_ | refine R.z ttok ?_ | refine R.zk ?_ | refine R.zn ?_)
  have hrl := stp_le hl hs.1
  rw [decide_eq_true (show (s.1.1.length : Int) ≤ 200000 by omega)]
  repeat (first | refine C.seq ?_ | refine C.region ?_ | refine R.zb ttok ?_ | refine R.zu ttok ?_ | refine R.zc ttok ?_ | refine R.za ttok ?_ | refine R.zx ?_ | refine R.zl ttok ?_ | refine R.zs ttok ?_ | refine R.z ttok ?_ | refine R.zk ?_ | refine R.zn ?_ | refine R.done ?_ | refine X.then ?_ | refine C.block ?_ | refine C.ret ?_ | refine C.skip ?_ | refine C.exit ?_ | refine X.pass_ret ?_ | refine X.pass_exit ?_ | refine X.block_normal ?_ | refine X.block_ret ?_ | refine X.block_exit ?_ | refine C.zt ?_ | refine C.zf ?_ | refine X.zo ?_)
  refine X.finF ttok s.1 [(1, 8)] hs rfl rfl rfl (by repeat (first | exact HasH.nil | refine HasH.same rfl rfl rfl trivial ?_ | refine HasH.same rfl rfl rfl rfl ?_ | refine HasH.same rfl rfl rfl (fun _ _ => rfl) ?_ | refine HasH.ros rfl rfl ?_)) _ (by first | exact .inl rfl | exact .inr rfl) ?_ ?_ ?_
  · exact fun w hf => (List.pairwise_append.1 hf.ap).1
  · exact fun p hp => List.mem_append_left _ hp
  · exact fun p hp => by cases hp
end Go.Proofs.Ytggnjgnjgnlchaa
/- frame: FrameOwn -/
namespace Go.Proofs.Ytggnjgnjgnlchaa
set_option linter.unusedVariables false
set_option linter.unusedSimpArgs false
open Go.RowKit
set_option maxRecDepth 100000
set_option maxHeartbeats 4000000
theorem apf_perm {a b : Fam} (hp : a.Perm b) (h : ApF a) : ApF b := (List.Perm.pairwise_iff (fun {x y} h e => (h e.symm).symm) hp).1 h
/-- rows of lists -/
def lsF (rs : List Rw) (i : Nat) : List AV := [.raw (.slice (some ⟨(rs.getD i zR).b, 0, none⟩) (rs.getD i zR).p.length (rs.getD i zR).c)]
def lws (rs : List Rw) : List AV := rs.map fun r => .raw (.slice (some ⟨r.b, 0, none⟩) r.p.length r.c)
theorem lws_app (a b : List Rw) : lws (a ++ b) = lws a ++ lws b := List.map_append
theorem lws_one (l : List Rw) : (lws l).all AV.oneB = true := by
  induction l with
  | nil => rfl
  | cons p l ih => exact ih
theorem flat_ls (l : List Rw) : ∀ m, m ≤ l.length → flat (lsF l) m = lws (l.take m)
  | 0, _ => by simp [flat, lws]
  | m + 1, h => by
    rw [flat_add, flat_ls l m (by omega), take_snoc l m zR (by omega), lws_app]
    simp [flat, lws, lsF]
theorem flat_ls0 (l : List Rw) : flat (lsF l) l.length = lws l := by
  have := flat_ls l l.length (Nat.le_refl _)
  simpa using this
abbrev tbL (l : List Rw) (c : Nat) : AO := .tab 1 l.length c (lsF l) 22
section
variable {E : Base} {n L : Nat} {τ : List (Nat × AV)} {h : List (Nat × AO)} {F : World → Prop}
theorem asLs (T : TypeId) (l : List Rw) (xs : List AV) (hx : xs = lws l) : AsRow (fun c => .tab 1 l.length c (lsF l) T) T 1 xs := by
  rw [hx, ← flat_ls0]
  exact AsRow.tab T (by decide) fun i _ => rfl
theorem dstLs {lab cap : Nat} {l : List Rw} {T : TypeId} (hl : hk lab h = some (.tab 1 l.length cap (lsF l) T)) : DstA E n L τ h F (.sl lab 1 0 l.length cap) T 1 l.length cap (lws l) [lab] := by
  have := DstA.tab (E := E) (n := n) (L := L) (τ := τ) (F := F) (by decide) hl fun i _ => rfl
  rwa [flat_ls0] at this
end
def Rw.roOk (r : Rw) : Prop := Is r.b r.ob (.ro 1 0 r.p.length (bytesF r.p))
def ownM (rs : List Rw) (j : Nat) : List UInt8 := List.replicate (rs.getD j zR).p.length (UInt8.ofNat (10 + j))
/-- what is told of lists that are done, and of the longer ones made of them -/
structure OwnI (rs : List Rw) (i : Nat) (dn lg : List Rw) : Prop where
  dl : dn.length = i
  gl : lg.length = i
  ro : ∀ r ∈ dn ++ lg, r.roOk
  dn : ∀ j, j < i → (dn.getD j zR).b = (rs.getD j zR).b ∧ (dn.getD j zR).p = ownM rs j
  lg : ∀ j, j < i → (lg.getD j zR).p = ownM rs j ++ List.replicate 70 (UInt8.ofNat (100 + j))
theorem snoc_get {l : List Rw} {r : Rw} {j i : Nat} (h : l.length = i) (hj : j < i + 1) : (l ++ [r]).getD j zR = if j = i then r else l.getD j zR := by
  simp only [List.getD_eq_getElem?_getD]
  by_cases e : j = i
  · rw [if_pos e, List.getElem?_append_right (by omega), h, e, Nat.sub_self]
    rfl
  · rw [if_neg e, List.getElem?_append_left (by omega)]
theorem OwnI.snoc {rs : List Rw} {i : Nat} {dn lg : List Rw} (h : OwnI rs i dn lg) (rd rg : Rw) (hd : rd.roOk) (hg : rg.roOk) (hb : rd.b = (rs.getD i zR).b) (hp : rd.p = ownM rs i) (hq : rg.p = ownM rs i ++ List.replicate 70 (UInt8.ofNat (100 + i))) : OwnI rs (i + 1) (dn ++ [rd]) (lg ++ [rg]) := by
  refine ⟨by simp [h.dl], by simp [h.gl], fun r hr => ?_, fun j hj => ?_, fun j hj => ?_⟩
  · simp only [List.mem_append, List.mem_singleton] at hr
    rcases hr with (hr | rfl) | (hr | rfl)
    · exact h.ro r (List.mem_append_left _ hr)
    · exact hd
    · exact h.ro r (List.mem_append_right _ hr)
    · exact hg
  · rw [snoc_get h.dl hj]
    by_cases e : j = i
    · rw [if_pos e, e]; exact ⟨hb, hp⟩
    · rw [if_neg e]; exact h.dn j (by omega)
  · rw [snoc_get h.gl hj]
    by_cases e : j = i
    · rw [if_pos e, e]; exact hq
    · rw [if_neg e]; exact h.lg j (by omega)
theorem factsW_ro (l : List Rw) : ∀ p ∈ factsW false l, p.rw = false := fun p hp => by
  obtain ⟨r, _, rfl⟩ := List.mem_map.1 hp; rfl
theorem apf_join {a a2 b : Fam} (hro : ∀ p ∈ a2, p.rw = false) (hs : ∀ p ∈ a2, p ∈ a) (h : ApF (a ++ b)) : ApF (a2 ++ b) := by
  have h2 := List.pairwise_append.1 h
  exact List.pairwise_append.2 ⟨apf_ro hro, h2.2.1, fun x hx y hy => h2.2.2 x (hs x hx) y hy⟩
theorem Is.pre {b : Nat} {ob : Obj} {p q : List UInt8} {c : Nat} {T : TypeId} (h : Is b ob (.bytes (p ++ q) c T)) : Is b ob (.ro 1 0 p.length (bytesF p)) := fun ρ w hw => by
  have := ro_part (PartOf.pre (p := p) (q := q)) (bytes_ro (h ρ w hw))
  simpa using this
theorem own_mark {m : Nat} (h : m < 10) : (10 : Int) + (m : Nat) = ((UInt8.ofNat (10 + m)).toNat : Int) := by
  rw [UInt8.toNat_ofNat']
  omega
theorem own_step (p : List UInt8) (v : UInt8) {k : Nat} (hk : k < p.length) : (List.replicate k v ++ p.drop k).set k v = List.replicate (k + 1) v ++ p.drop (k + 1) := by
  rw [List.drop_eq_getElem_cons hk, List.set_append_right _ _ (by simp), List.length_replicate, Nat.sub_self, List.set_cons_zero, List.replicate_succ', List.append_assoc]
  rfl
theorem own_law (o1 o2 c1 c2 : Nat) (d q : List UInt8) (hd : d.length ≤ 9223372036854775807) (hq : q.length ≤ 9223372036854775807) :
    Spec Try.prog 9 [.sl 0 1 o1 d.length c1, .sl 1 1 o2 q.length c2] [roBo o1 d, roBo o2 q] 2 (σ := Unit) (fun _ => True) (fun _ => .raw (.bool true)) (fun _ => []) := by
  refine Spec.ofF Try.func9 rfl Try.ntmps9 rfl (by repeat (first | exact bdl_nil _ | refine bdl_cons (fun _ _ => rfl) ?_ | refine bdl_cons trivial ?_ | refine bdl_cons rfl ?_ | refine bdl_cons (rowsF_bd _ _ _ _) ?_ | refine bdl_cons (rowsS_bd _ _ _ _) ?_)) fun ρ w => ?_
  repeat (first | refine C.seq ?_ | refine C.region ?_ | refine R.zb ttok ?_ | refine R.zu ttok ?_ | refine R.zc ttok ?_ | refine R.za ttok ?_ | refine R.zx ?_ | refine R.zl ttok ?_ | refine R.zs ttok ?_ | refine R.z ttok ?_ | refine R.zk ?_ | refine R.zn ?_ | refine R.done ?_ | refine X.then ?_ | refine C.block ?_ | refine C.ret ?_ | refine C.skip ?_ | refine C.exit ?_ | refine X.pass_ret ?_ | refine X.pass_exit ?_ | refine X.block_normal ?_ | refine X.block_ret ?_ | refine X.block_exit ?_ | refine C.zt ?_ | refine C.zf ?_ | refine X.zo ?_)
  by_cases h1 : (200000 : Int) < d.length
  · rw [decide_eq_true h1]
    repeat (first | refine C.seq ?_ | refine C.region ?_ | refine R.zb ttok ?_ | refine R.zu ttok ?_ | refine R.zc ttok ?_ | refine R.za ttok ?_ | refine R.zx ?_ | refine R.zl ttok ?_ | refine R.zs ttok ?_ | refine R.z ttok ?_ | refine R.zk ?_ | refine R.zn ?_ | refine R.done ?_ | refine X.then ?_ | refine C.block ?_ | refine C.ret ?_ | refine C.skip ?_ | refine C.exit ?_ | refine X.pass_ret ?_ | refine X.pass_exit ?_ | refine X.block_normal ?_ | refine X.block_ret ?_ | refine X.block_exit ?_ | refine C.zt ?_ | refine C.zf ?_ | refine X.zo ?_)
    refine X.finS ttok () [] trivial rfl rfl rfl (by repeat (first | exact HasH.nil | refine HasH.same rfl rfl rfl trivial ?_ | refine HasH.same rfl rfl rfl rfl ?_ | refine HasH.same rfl rfl rfl (fun _ _ => rfl) ?_ | refine HasH.ros rfl rfl ?_)) _ (by first | exact .inl rfl | exact .inr rfl)
  rw [decide_eq_false h1]
  repeat (first | refine C.seq ?_ | refine C.region ?_ | refine R.zb ttok ?_ | refine R.zu ttok ?_ | refine R.zc ttok ?_ | refine R.za ttok ?_ | refine R.zx ?_ | refine R.zl ttok ?_ | refine R.zs ttok ?_ | refine R.z ttok ?_ | refine R.zk ?_ | refine R.zn ?_ | refine R.done ?_ | refine X.then ?_ | refine C.block ?_ | refine C.ret ?_ | refine C.skip ?_ | refine C.exit ?_ | refine X.pass_ret ?_ | refine X.pass_exit ?_ | refine X.block_normal ?_ | refine X.block_ret ?_ | refine X.block_exit ?_ | refine C.zt ?_ | refine C.zf ?_ | refine X.zo ?_)
  by_cases h2 : (q.length : Int) = 0
  · rw [decide_eq_true h2]
    repeat (first | refine C.seq ?_ | refine C.region ?_ | refine R.zb ttok ?_ | refine R.zu ttok ?_ | refine R.zc ttok ?_ | refine R.za ttok ?_ | refine R.zx ?_ | refine R.zl ttok ?_ | refine R.zs ttok ?_ | refine R.z ttok ?_ | refine R.zk ?_ | refine R.zn ?_ | refine R.done ?_ | refine X.then ?_ | refine C.block ?_ | refine C.ret ?_ | refine C.skip ?_ | refine C.exit ?_ | refine X.pass_ret ?_ | refine X.pass_exit ?_ | refine X.block_normal ?_ | refine X.block_ret ?_ | refine X.block_exit ?_ | refine C.zt ?_ | refine C.zf ?_ | refine X.zo ?_)
    refine X.finS ttok () [] trivial rfl rfl rfl (by repeat (first | exact HasH.nil | refine HasH.same rfl rfl rfl trivial ?_ | refine HasH.same rfl rfl rfl rfl ?_ | refine HasH.same rfl rfl rfl (fun _ _ => rfl) ?_ | refine HasH.ros rfl rfl ?_)) _ (by first | exact .inl rfl | exact .inr rfl)
  rw [decide_eq_false h2]
  repeat (first | refine C.seq ?_ | refine C.region ?_ | refine R.zb ttok ?_ | refine R.zu ttok ?_ | refine R.zc ttok ?_ | refine R.za ttok ?_ | refine R.zx ?_ | refine R.zl ttok ?_ | refine R.zs ttok ?_ | refine R.z ttok ?_ | refine R.zk ?_ | refine R.zn ?_ | refine R.done ?_ | refine X.then ?_ | refine C.block ?_ | refine C.ret ?_ | refine C.skip ?_ | refine C.exit ?_ | refine X.pass_ret ?_ | refine X.pass_exit ?_ | refine X.block_normal ?_ | refine X.block_ret ?_ | refine X.block_exit ?_ | refine C.zt ?_ | refine C.zf ?_ | refine X.zo ?_)
  by_cases h3 : (5000 : Int) < q.length
  · rw [decide_eq_true h3]
    repeat (first | refine C.seq ?_ | refine C.region ?_ | refine R.zb ttok ?_ | refine R.zu ttok ?_ | refine R.zc ttok ?_ | refine R.za ttok ?_ | refine R.zx ?_ | refine R.zl ttok ?_ | refine R.zs ttok ?_ | refine R.z ttok ?_ | refine R.zk ?_ | refine R.zn ?_ | refine R.done ?_ | refine X.then ?_ | refine C.block ?_ | refine C.ret ?_ | refine C.skip ?_ | refine C.exit ?_ | refine X.pass_ret ?_ | refine X.pass_exit ?_ | refine X.block_normal ?_ | refine X.block_ret ?_ | refine X.block_exit ?_ | refine C.zt ?_ | refine C.zf ?_ | refine X.zo ?_)
    refine X.finS ttok () [] trivial rfl rfl rfl (by repeat (first | exact HasH.nil | refine HasH.same rfl rfl rfl trivial ?_ | refine HasH.same rfl rfl rfl rfl ?_ | refine HasH.same rfl rfl rfl (fun _ _ => rfl) ?_ | refine HasH.ros rfl rfl ?_)) _ (by first | exact .inl rfl | exact .inr rfl)
  rw [decide_eq_false h3]
  repeat (first | refine C.seq ?_ | refine C.region ?_ | refine R.zb ttok ?_ | refine R.zu ttok ?_ | refine R.zc ttok ?_ | refine R.za ttok ?_ | refine R.zx ?_ | refine R.zl ttok ?_ | refine R.zs ttok ?_ | refine R.z ttok ?_ | refine R.zk ?_ | refine R.zn ?_ | refine R.done ?_ | refine X.then ?_ | refine C.block ?_ | refine C.ret ?_ | refine C.skip ?_ | refine C.exit ?_ | refine X.pass_ret ?_ | refine X.pass_exit ?_ | refine X.block_normal ?_ | refine X.block_ret ?_ | refine X.block_exit ?_ | refine C.zt ?_ | refine C.zf ?_ | refine X.zo ?_)
  refine R.cl [0, 1] (seal_spec o1 o2 c1 c2 d q (by omega) (by omega)) Try.call12 (by repeat (first | exact HasIn.nil | refine HasIn.same rfl rfl ?_ | refine HasIn.bro rfl ?_ | refine HasIn.ror rfl ?_ | refine HasIn.cro rfl rfl ?_)) rfl rfl rfl (fun _ => rfl) rfl (by kernel_rfl) fun cx hcx => ?_
  rw [sealF_yes (by omega) (by omega)]
  obtain ⟨Z, hZ⟩ : ∃ Z, d ++ sealB q = Z := ⟨_, rfl⟩
  have hZl : Z.length = d.length + 8 + q.length := by rw [← hZ, List.length_append, sealB_length]; omega
  have hZd : Z.drop d.length = sealB q := by rw [← hZ, List.drop_left]
  rw [hZ]
  dsimp only
  repeat (first | refine R.zb ttok ?_ | refine R.zu ttok ?_ | refine R.zc ttok ?_ | refine R.za ttok ?_ | refine R.zx ?_ | refine R.zl ttok ?_ | refine R.zs ttok ?_ | refine R.z ttok ?_ | refine R.zk ?_ | refine R.zn ?_)
  refine R.done ?_
  refine X.then ?_
  refine C.fact (bytes_le (l := 2) rfl) fun hcx2 => ?_
  repeat (first | refine C.seq ?_ | refine C.region ?_ | refine R.zb ttok ?_ | refine R.zu ttok ?_ | refine R.zc ttok ?_ | refine R.za ttok ?_ | refine R.zx ?_ | refine R.zl ttok ?_ | refine R.zs ttok ?_ | refine R.z ttok ?_ | refine R.zk ?_ | refine R.zn ?_ | refine R.done ?_ | refine X.then ?_ | refine C.block ?_ | refine C.ret ?_ | refine C.skip ?_ | refine C.exit ?_ | refine X.pass_ret ?_ | refine X.pass_exit ?_ | refine X.block_normal ?_ | refine X.block_ret ?_ | refine X.block_exit ?_ | refine C.zt ?_ | refine C.zf ?_ | refine X.zo ?_)
  rw [decide_eq_false (show ¬ ((Z.length : Nat) : Int) ≠ (d.length : Nat) + 8 + (q.length : Nat) by omega)]
  repeat (first | refine C.seq ?_ | refine C.region ?_ | refine R.zb ttok ?_ | refine R.zu ttok ?_ | refine R.zc ttok ?_ | refine R.za ttok ?_ | refine R.zx ?_ | refine R.zl ttok ?_ | refine R.zs ttok ?_ | refine R.z ttok ?_ | refine R.zk ?_ | refine R.zn ?_ | refine R.done ?_ | refine X.then ?_ | refine C.block ?_ | refine C.ret ?_ | refine C.skip ?_ | refine C.exit ?_ | refine X.pass_ret ?_ | refine X.pass_exit ?_ | refine X.block_normal ?_ | refine X.block_ret ?_ | refine X.block_exit ?_ | refine C.zt ?_ | refine C.zf ?_ | refine X.zo ?_)
  refine R.sl ttok d.length Z.length rfl rfl rfl rfl rfl rfl (by kernel_rfl) ⟨_, _, rfl, rfl⟩ rfl (by omega) (by omega) fun o' ho' => ?_
  obtain rfl : o' = 0 + d.length := by omega
  refine R.tellB 3 [] rfl rfl ?_
  obtain ⟨Y, hY⟩ : ∃ Y, sealB q = Y := ⟨_, rfl⟩
  have hYl : Y.length = 8 + q.length := by rw [← hY]; exact sealB_length q
  rw [hY] at hZd
  refine R.apb ttok (q := Y) (r := Y) rfl rfl rfl rfl (SrcA.bytes (off := 0 + d.length) rfl (by omega)) (congrArg avB (by rw [show 0 + d.length = d.length from Nat.zero_add _, hZd, List.take_of_length_le (by omega)])) rfl rfl rfl rfl rfl rfl rfl (by omega) (by simp) (by omega) fun cl hcl hcl2 => ?_
  repeat (first | refine C.seq ?_ | refine C.region ?_ | refine R.zb ttok ?_ | refine R.zu ttok ?_ | refine R.zc ttok ?_ | refine R.za ttok ?_ | refine R.zx ?_ | refine R.zl ttok ?_ | refine R.zs ttok ?_ | refine R.z ttok ?_ | refine R.zk ?_ | refine R.zn ?_ | refine R.done ?_ | refine X.then ?_ | refine C.block ?_ | refine C.ret ?_ | refine C.skip ?_ | refine C.exit ?_ | refine X.pass_ret ?_ | refine X.pass_exit ?_ | refine X.block_normal ?_ | refine X.block_ret ?_ | refine X.block_exit ?_ | refine C.zt ?_ | refine C.zf ?_ | refine X.zo ?_)
  refine C.noneT 5 (.sl 5 1 0 0 0) (.tab 1 0 0 (lsF []) 22) (none_tab _ _ _ _) rfl rfl rfl (fun ρ h => by have h : ρ 5 = none := h; simp [AV.conc, h]) ?_
  have hnx : nextN Y 0 = .ok (q, 8 + q.length) := by
    have := next_seal [] q [] (by omega) (by omega)
    simpa [hY] using this
  have hsc : scanK Y 0 = [(0, q)] := by
    have := (back_scan (ps := [q]) 0 (fun p hp => by obtain rfl : p = q := by simpa using hp
                                                     exact ⟨by omega, by omega⟩)).1
    simpa [sAll, hY, posF] using this
  refine C.loopG (σ := Nat × List Rw × Nat) (L2 := 6) (fun s => s.1 ≤ 3 ∧ s.2.1.length = 3 * s.1 ∧ (∀ r ∈ s.2.1, r.okW) ∧ (∀ j, j < s.2.1.length → (s.2.1.getD j zR).p = if j % 3 = 0 then Z else q) ∧ s.2.2 ≤ 9223372036854775807)
    (fun s => [(0, .sl 0 1 o1 d.length c1), (1, .sl 1 1 o2 q.length c2), (5, .sl 5 1 0 s.2.1.length s.2.2), (6, .sl 2 1 0 Z.length cx), (8, .sl 4 1 0 Y.length cl), (9, .raw (.int .i64 (s.1 : Nat)))])
    (fun s => [(0, roBo o1 d), (1, roBo o2 q), (2, .bytes Z cx 5), (4, .bytes Y cl 5), (5, tbL s.2.1 s.2.2)]) (fun s => FF [roBo o1 d, roBo o2 q] ρ w [] (factsW true s.2.1)) (fun s => 3 - s.1) [] (0, [], 0) ⟨by omega, rfl, by simp, by simp, by simp⟩ rfl (by repeat (first | exact HasT.nil | refine HasT.cons rfl rfl rfl ?_)) (by repeat (first | exact HasH.nil | refine HasH.same rfl rfl rfl trivial ?_ | refine HasH.same rfl rfl rfl rfl ?_ | refine HasH.same rfl rfl rfl (fun _ _ => rfl) ?_ | refine HasH.ros rfl rfl ?_)) rfl (fun _ h => h) ?_
  rintro ⟨i, rs, cr⟩ ⟨hi, hrl, hok, hp, hcr⟩
  dsimp only at hi hrl hok hp hcr ⊢
  repeat (first | refine C.seq ?_ | refine C.region ?_ | refine R.zb ttok ?_ | refine R.zu ttok ?_ | refine R.zc ttok ?_ | refine R.za ttok ?_ | refine R.zx ?_ | refine R.zl ttok ?_ | refine R.zs ttok ?_ | refine R.z ttok ?_ | refine R.zk ?_ | refine R.zn ?_ | refine R.done ?_ | refine X.then ?_ | refine C.block ?_ | refine C.ret ?_ | refine C.skip ?_ | refine C.exit ?_ | refine X.pass_ret ?_ | refine X.pass_exit ?_ | refine X.block_normal ?_ | refine X.block_ret ?_ | refine X.block_exit ?_ | refine C.zt ?_ | refine C.zf ?_ | refine X.zo ?_)
  by_cases hlt : (i : Int) < 3
  · rw [decide_eq_true hlt]
    repeat (first | refine C.seq ?_ | refine C.region ?_ | refine R.zb ttok ?_ | refine R.zu ttok ?_ | refine R.zc ttok ?_ | refine R.za ttok ?_ | refine R.zx ?_ | refine R.zl ttok ?_ | refine R.zs ttok ?_ | refine R.z ttok ?_ | refine R.zk ?_ | refine R.zn ?_ | refine R.done ?_ | refine X.then ?_ | refine C.block ?_ | refine C.ret ?_ | refine C.skip ?_ | refine C.exit ?_ | refine X.pass_ret ?_ | refine X.pass_exit ?_ | refine X.block_normal ?_ | refine X.block_ret ?_ | refine X.block_exit ?_ | refine C.zt ?_ | refine C.zf ?_ | refine X.zo ?_)
    refine R.cl [0, 1] (seal_spec o1 o2 c1 c2 d q (by omega) (by omega)) Try.call12 (by repeat (first | exact HasIn.nil | refine HasIn.same rfl rfl ?_ | refine HasIn.bro rfl ?_ | refine HasIn.ror rfl ?_ | refine HasIn.cro rfl rfl ?_)) rfl rfl rfl (fun _ => rfl) rfl (by kernel_rfl) fun cA hcA => ?_
    rw [sealF_yes (by omega) (by omega), hZ]
    dsimp only
    repeat (first | refine C.seq ?_ | refine C.region ?_ | refine R.zb ttok ?_ | refine R.zu ttok ?_ | refine R.zc ttok ?_ | refine R.za ttok ?_ | refine R.zx ?_ | refine R.zl ttok ?_ | refine R.zs ttok ?_ | refine R.z ttok ?_ | refine R.zk ?_ | refine R.zn ?_ | refine R.done ?_ | refine X.then ?_ | refine C.block ?_ | refine C.ret ?_ | refine C.skip ?_ | refine C.exit ?_ | refine X.pass_ret ?_ | refine X.pass_exit ?_ | refine X.block_normal ?_ | refine X.block_ret ?_ | refine X.block_exit ?_ | refine C.zt ?_ | refine C.zf ?_ | refine X.zo ?_)
    have hns := nexts_spec 0 cl Y 0 (by omega) (by omega) (by omega) (by omega)
    rw [show (0 : Int) = ((0 : Nat) : Int) from rfl, nextF_nat _ _ (by omega), hnx, show nxX (.ok (q, 8 + q.length)) = 0 from rfl, show nxB (.ok (q, 8 + q.length)) = q from rfl, show nxE (.ok (q, 8 + q.length)) = ((8 + q.length : Nat) : Int) from rfl] at hns
    refine R.cl [4] hns Try.call16 (by repeat (first | exact HasIn.nil | refine HasIn.same rfl rfl ?_ | refine HasIn.bro rfl ?_ | refine HasIn.ror rfl ?_ | refine HasIn.cro rfl rfl ?_)) rfl rfl rfl (fun _ => rfl) rfl (by kernel_rfl) fun cB hcB => ?_
    repeat (first | refine C.seq ?_ | refine C.region ?_ | refine R.zb ttok ?_ | refine R.zu ttok ?_ | refine R.zc ttok ?_ | refine R.za ttok ?_ | refine R.zx ?_ | refine R.zl ttok ?_ | refine R.zs ttok ?_ | refine R.z ttok ?_ | refine R.zk ?_ | refine R.zn ?_ | refine R.done ?_ | refine X.then ?_ | refine C.block ?_ | refine C.ret ?_ | refine C.skip ?_ | refine C.exit ?_ | refine X.pass_ret ?_ | refine X.pass_exit ?_ | refine X.block_normal ?_ | refine X.block_ret ?_ | refine X.block_exit ?_ | refine C.zt ?_ | refine C.zf ?_ | refine X.zo ?_)
    refine R.clG [4] (scannedW_spec true 0 cl Y 0 (by omega) (by omega)) Try.call24 (by repeat (first | exact HasIn.nil | refine HasIn.same rfl rfl ?_ | refine HasIn.bro rfl ?_ | refine HasIn.ror rfl ?_ | refine HasIn.cro rfl rfl ?_)) rfl rfl rfl (fun _ => rfl) rfl (by kernel_rfl) fun ⟨ls, cz⟩ ⟨hls, hlok, hlc, hcz⟩ => ?_
    dsimp only at hls hlok hlc hcz ⊢
    have hls2 : rkeys ls = [(0, q)] := by
      rw [hls, hsc]
      rfl
    obtain ⟨r0, rfl, hr0⟩ : ∃ r0 : Rw, ls = [r0] ∧ r0.p = q := by
      match ls, hls2 with
      | [r0], h => exact ⟨r0, rfl, by simpa [Rw.key] using (congrArg (List.map Prod.snd) h)⟩
      | [], h => cases h
      | _ :: _ :: _, h => simp at h
    have hok0 : r0.okW := hlok r0 (by simp)
    repeat (first | refine C.seq ?_ | refine C.region ?_ | refine R.zb ttok ?_ | refine R.zu ttok ?_ | refine R.zc ttok ?_ | refine R.za ttok ?_ | refine R.zx ?_ | refine R.zl ttok ?_ | refine R.zs ttok ?_ | refine R.z ttok ?_ | refine R.zk ?_ | refine R.zn ?_ | refine R.done ?_ | refine X.then ?_ | refine C.block ?_ | refine C.ret ?_ | refine C.skip ?_ | refine C.exit ?_ | refine X.pass_ret ?_ | refine X.pass_exit ?_ | refine X.block_normal ?_ | refine X.block_ret ?_ | refine X.block_exit ?_ | refine C.zt ?_ | refine C.zf ?_ | refine X.zo ?_)
    rw [decide_eq_false (show ¬ (([r0].length : Nat) : Int) ≠ 1 from fun h => h rfl)]
    repeat (first | refine C.seq ?_ | refine C.region ?_ | refine R.zb ttok ?_ | refine R.zu ttok ?_ | refine R.zc ttok ?_ | refine R.za ttok ?_ | refine R.zx ?_ | refine R.zl ttok ?_ | refine R.zs ttok ?_ | refine R.z ttok ?_ | refine R.zk ?_ | refine R.zn ?_ | refine R.done ?_ | refine X.then ?_ | refine C.block ?_ | refine C.ret ?_ | refine C.skip ?_ | refine C.exit ?_ | refine X.pass_ret ?_ | refine X.pass_exit ?_ | refine X.block_normal ?_ | refine X.block_ret ?_ | refine X.block_exit ?_ | refine C.zt ?_ | refine C.zf ?_ | refine X.zo ?_)
    refine R.cl [6, 2] (same_spec 0 0 cA cx Z Z (by omega)) Try.call14 (by repeat (first | exact HasIn.nil | refine HasIn.same rfl rfl ?_ | refine HasIn.bro rfl ?_ | refine HasIn.ror rfl ?_ | refine HasIn.cro rfl rfl ?_)) rfl rfl rfl (fun _ => rfl) rfl (by kernel_rfl) fun _ _ => ?_
    rw [decide_eq_true (rfl : Z = Z)]
    repeat (first | refine C.seq ?_ | refine C.region ?_ | refine R.zb ttok ?_ | refine R.zu ttok ?_ | refine R.zc ttok ?_ | refine R.za ttok ?_ | refine R.zx ?_ | refine R.zl ttok ?_ | refine R.zs ttok ?_ | refine R.z ttok ?_ | refine R.zk ?_ | refine R.zn ?_ | refine R.done ?_ | refine X.then ?_ | refine C.block ?_ | refine C.ret ?_ | refine C.skip ?_ | refine C.exit ?_ | refine X.pass_ret ?_ | refine X.pass_exit ?_ | refine X.block_normal ?_ | refine X.block_ret ?_ | refine X.block_exit ?_ | refine C.zt ?_ | refine C.zf ?_ | refine X.zo ?_)
    refine R.cl [7, 1] (same_spec 0 o2 cB c2 q q (by omega)) Try.call14 (by repeat (first | exact HasIn.nil | refine HasIn.same rfl rfl ?_ | refine HasIn.bro rfl ?_ | refine HasIn.ror rfl ?_ | refine HasIn.cro rfl rfl ?_)) rfl rfl rfl (fun _ => rfl) rfl (by kernel_rfl) fun _ _ => ?_
    rw [decide_eq_true (rfl : q = q)]
    repeat (first | refine C.seq ?_ | refine C.region ?_ | refine R.zb ttok ?_ | refine R.zu ttok ?_ | refine R.zc ttok ?_ | refine R.za ttok ?_ | refine R.zx ?_ | refine R.zl ttok ?_ | refine R.zs ttok ?_ | refine R.z ttok ?_ | refine R.zk ?_ | refine R.zn ?_ | refine R.done ?_ | refine X.then ?_ | refine C.block ?_ | refine C.ret ?_ | refine C.skip ?_ | refine C.exit ?_ | refine X.pass_ret ?_ | refine X.pass_exit ?_ | refine X.block_normal ?_ | refine X.block_ret ?_ | refine X.block_exit ?_ | refine C.zt ?_ | refine C.zf ?_ | refine X.zo ?_)
    refine R.ix ttok 0 rfl rfl rfl rfl rfl (by kernel_rfl) rfl Nat.one_pos Nat.one_pos rfl ?_
    repeat (first | refine C.seq ?_ | refine C.region ?_ | refine R.zb ttok ?_ | refine R.zu ttok ?_ | refine R.zc ttok ?_ | refine R.za ttok ?_ | refine R.zx ?_ | refine R.zl ttok ?_ | refine R.zs ttok ?_ | refine R.z ttok ?_ | refine R.zk ?_ | refine R.zn ?_ | refine R.done ?_ | refine X.then ?_ | refine C.block ?_ | refine C.ret ?_ | refine C.skip ?_ | refine C.exit ?_ | refine X.pass_ret ?_ | refine X.pass_exit ?_ | refine X.block_normal ?_ | refine X.block_ret ?_ | refine X.block_exit ?_ | refine C.zt ?_ | refine C.zf ?_ | refine X.zo ?_)
    refine R.ldt (v := .raw (.slice (some ⟨r0.b, 0, none⟩) r0.p.length r0.c)) ttok rfl rfl rfl rfl rfl (by kernel_rfl) Nat.one_pos ?_
    refine R.labB (p := r0.factW true) (by simp [factsW]) 107 hok0.1 rfl rfl ?_
    repeat (first | refine C.seq ?_ | refine C.region ?_ | refine R.zb ttok ?_ | refine R.zu ttok ?_ | refine R.zc ttok ?_ | refine R.za ttok ?_ | refine R.zx ?_ | refine R.zl ttok ?_ | refine R.zs ttok ?_ | refine R.z ttok ?_ | refine R.zk ?_ | refine R.zn ?_ | refine R.done ?_ | refine X.then ?_ | refine C.block ?_ | refine C.ret ?_ | refine C.skip ?_ | refine C.exit ?_ | refine X.pass_ret ?_ | refine X.pass_exit ?_ | refine X.block_normal ?_ | refine X.block_ret ?_ | refine X.block_exit ?_ | refine C.zt ?_ | refine C.zf ?_ | refine X.zo ?_)
    refine R.cl [9, 1] (same_spec 0 o2 _ c2 r0.p q (by rw [hr0]; omega)) Try.call14 (by repeat (first | exact HasIn.nil | refine HasIn.same rfl rfl ?_ | refine HasIn.bro rfl ?_ | refine HasIn.ror rfl ?_ | refine HasIn.cro rfl rfl ?_)) rfl rfl rfl (fun _ => rfl) rfl (by kernel_rfl) fun _ _ => ?_
    rw [decide_eq_true hr0]
    repeat (first | refine R.zb ttok ?_ | refine R.zu ttok ?_ | refine R.zc ttok ?_ | refine R.za ttok ?_ | refine R.zx ?_ | refine R.zl ttok ?_ | refine R.zs ttok ?_ | refine R.z ttok ?_ | refine R.zk ?_ | refine R.zn ?_)
    refine R.done ?_
    refine X.then ?_
    refine C.fls rfl ?_
    refine C.skip ?_
    refine X.then ?_
    refine C.region ?_
    refine R.frzB true 10 6 (w1 := 1) rfl (by omega) rfl fun bx obx hobx hnex => ?_
    refine R.frzB true 12 7 (w1 := 1) rfl (by omega) rfl fun by_ oby hoby hney => ?_
    repeat (first | refine R.zb ttok ?_ | refine R.zu ttok ?_ | refine R.zc ttok ?_ | refine R.za ttok ?_ | refine R.zx ?_ | refine R.zl ttok ?_ | refine R.zs ttok ?_ | refine R.z ttok ?_ | refine R.zk ?_ | refine R.zn ?_)
    refine R.ix ttok 0 rfl rfl rfl rfl rfl (by kernel_rfl) rfl Nat.one_pos Nat.one_pos rfl ?_
    repeat (first | refine R.zb ttok ?_ | refine R.zu ttok ?_ | refine R.zc ttok ?_ | refine R.za ttok ?_ | refine R.zx ?_ | refine R.zl ttok ?_ | refine R.zs ttok ?_ | refine R.z ttok ?_ | refine R.zk ?_ | refine R.zn ?_)
    refine R.ldt (v := .raw (.slice (some ⟨r0.b, 0, none⟩) r0.p.length r0.c)) ttok rfl rfl rfl rfl rfl (by kernel_rfl) Nat.one_pos ?_
    repeat (first | refine R.zb ttok ?_ | refine R.zu ttok ?_ | refine R.zc ttok ?_ | refine R.za ttok ?_ | refine R.zx ?_ | refine R.zl ttok ?_ | refine R.zs ttok ?_ | refine R.z ttok ?_ | refine R.zk ?_ | refine R.zn ?_)
    obtain ⟨rx, hrx⟩ : ∃ r : Rw, r = ⟨0, Z, bx, obx, cA⟩ := ⟨_, rfl⟩
    obtain ⟨ry, hry⟩ : ∃ r : Rw, r = ⟨0, q, by_, oby, cB⟩ := ⟨_, rfl⟩
    have hlen : (rs ++ [rx, ry, r0]).length = rs.length + 3 := by simp
    refine R.app (xs := lws rs) (news := lws [rx, ry, r0]) ttok (fun c => tbL (rs ++ [rx, ry, r0]) c) rfl rfl (dstLs rfl) (SrcA.cells rfl (by rw [hrx, hry]; rfl)) (asLs _ _ _ (lws_app _ _).symm) rfl rfl rfl rfl rfl rfl (by decide) (lws_one _) rfl rfl (by kernel_rfl) hcr (by show (rs.length + 3) * 24 ≤ _; omega) (by omega) fun cN hcN hcN2 => ?_
    rw [← hlen] at hcN ⊢
    repeat (first | refine C.seq ?_ | refine C.region ?_ | refine R.zb ttok ?_ | refine R.zu ttok ?_ | refine R.zc ttok ?_ | refine R.za ttok ?_ | refine R.zx ?_ | refine R.zl ttok ?_ | refine R.zs ttok ?_ | refine R.z ttok ?_ | refine R.zk ?_ | refine R.zn ?_ | refine R.done ?_ | refine X.then ?_ | refine C.block ?_ | refine C.ret ?_ | refine C.skip ?_ | refine C.exit ?_ | refine X.pass_ret ?_ | refine X.pass_exit ?_ | refine X.block_normal ?_ | refine X.block_ret ?_ | refine X.block_exit ?_ | refine C.zt ?_ | refine C.zf ?_ | refine X.zo ?_)
    have hperm : (⟨true, by_, oby⟩ :: ⟨true, bx, obx⟩ :: (factsW true [r0] ++ factsW true rs) : Fam).Perm (factsW true (rs ++ [rx, ry, r0])) := by
      rw [factsW_app]
      subst hrx hry
      refine List.Perm.trans ?_ List.perm_append_comm
      exact List.Perm.swap _ _ _
    refine X.backG [(5, 11)] (i + 1, rs ++ [rx, ry, r0], cN) ⟨by show i + 1 ≤ 3; omega, by rw [hlen]; show _ = 3 * (i + 1); omega, ?_, ?_, hcN2⟩ (by show 3 - (i + 1) < 3 - i; omega) rfl (by repeat (first | exact HasT.nil | refine HasT.cons rfl rfl rfl ?_)) (by repeat (first | exact HasH.nil | refine HasH.same rfl rfl rfl trivial ?_ | refine HasH.same rfl rfl rfl rfl ?_ | refine HasH.same rfl rfl rfl (fun _ _ => rfl) ?_ | refine HasH.ros rfl rfl ?_)) rfl fun w hf => hf.less (fun p hp => hperm.symm.subset hp) (apf_perm hperm hf.ap)
    · intro r hr
      rcases List.mem_append.1 hr with hr | hr
      · exact hok r hr
      · simp only [List.mem_cons, List.not_mem_nil, or_false] at hr
        rcases hr with rfl | rfl | rfl
        · subst hrx; exact ⟨hobx, hcA⟩
        · subst hry; exact ⟨hoby, hcB⟩
        · exact hok0
    · intro j hj
      rw [hlen] at hj
      rcases Nat.lt_or_ge j rs.length with h | h
      · have := hp j h
        rw [← this]
        simp [List.getD, List.getElem?_append_left h]
      · obtain ⟨t, rfl⟩ : ∃ t, j = rs.length + t := ⟨j - rs.length, by omega⟩
        have e : (rs ++ [rx, ry, r0]).getD (rs.length + t) zR = [rx, ry, r0].getD t zR := by simp [List.getD, List.getElem?_append_right]
        show ((rs ++ [rx, ry, r0]).getD (rs.length + t) zR).p = _
        rw [e]
        have ht : t = 0 ∨ t = 1 ∨ t = 2 := by omega
        rcases ht with rfl | rfl | rfl
        · rw [if_pos (by omega), hrx]; rfl
        · rw [if_neg (by omega), hry]; rfl
        · rw [if_neg (by omega), ← hr0]; rfl
  · rw [decide_eq_false hlt]
    obtain rfl : i = 3 := by omega
    repeat (first | refine C.seq ?_ | refine C.region ?_ | refine R.zb ttok ?_ | refine R.zu ttok ?_ | refine R.zc ttok ?_ | refine R.za ttok ?_ | refine R.zx ?_ | refine R.zl ttok ?_ | refine R.zs ttok ?_ | refine R.z ttok ?_ | refine R.zk ?_ | refine R.zn ?_ | refine R.done ?_ | refine X.then ?_ | refine C.block ?_ | refine C.ret ?_ | refine C.skip ?_ | refine C.exit ?_ | refine X.pass_ret ?_ | refine X.pass_exit ?_ | refine X.block_normal ?_ | refine X.block_ret ?_ | refine X.block_exit ?_ | refine C.zt ?_ | refine C.zf ?_ | refine X.zo ?_)
    refine C.loop (σ := Nat) (L2 := 6) (fun j => j ≤ rs.length) (fun j => [(0, .sl 0 1 o1 d.length c1), (1, .sl 1 1 o2 q.length c2), (5, .sl 5 1 0 rs.length cr), (6, .sl 2 1 0 Z.length cx), (8, .sl 4 1 0 Y.length cl), (17, .raw (.int .i64 (j : Nat)))])
      (fun _ => [(0, roBo o1 d), (1, roBo o2 q), (2, .bytes Z cx 5), (4, .bytes Y cl 5), (5, tbL rs cr)]) _ (fun j => rs.length - j) [] 0 (Nat.zero_le _) rfl (by repeat (first | exact HasT.nil | refine HasT.cons rfl rfl rfl ?_)) (by repeat (first | exact HasH.nil | refine HasH.same rfl rfl rfl trivial ?_ | refine HasH.same rfl rfl rfl rfl ?_ | refine HasH.same rfl rfl rfl (fun _ _ => rfl) ?_ | refine HasH.ros rfl rfl ?_)) rfl (fun _ h => h) ?_
    rintro j hj
    repeat (first | refine C.seq ?_ | refine C.region ?_ | refine R.zb ttok ?_ | refine R.zu ttok ?_ | refine R.zc ttok ?_ | refine R.za ttok ?_ | refine R.zx ?_ | refine R.zl ttok ?_ | refine R.zs ttok ?_ | refine R.z ttok ?_ | refine R.zk ?_ | refine R.zn ?_ | refine R.done ?_ | refine X.then ?_ | refine C.block ?_ | refine C.ret ?_ | refine C.skip ?_ | refine C.exit ?_ | refine X.pass_ret ?_ | refine X.pass_exit ?_ | refine X.block_normal ?_ | refine X.block_ret ?_ | refine X.block_exit ?_ | refine C.zt ?_ | refine C.zf ?_ | refine X.zo ?_)
    by_cases hlt2 : (j : Int) < (rs.length : Nat)
    · rw [decide_eq_true hlt2]
      have hj2 : j < rs.length := by omega
      have hpj := hp j hj2
      repeat (first | refine C.seq ?_ | refine C.region ?_ | refine R.zb ttok ?_ | refine R.zu ttok ?_ | refine R.zc ttok ?_ | refine R.za ttok ?_ | refine R.zx ?_ | refine R.zl ttok ?_ | refine R.zs ttok ?_ | refine R.z ttok ?_ | refine R.zk ?_ | refine R.zn ?_ | refine R.done ?_ | refine X.then ?_ | refine C.block ?_ | refine C.ret ?_ | refine C.skip ?_ | refine C.exit ?_ | refine X.pass_ret ?_ | refine X.pass_exit ?_ | refine X.block_normal ?_ | refine X.block_ret ?_ | refine X.block_exit ?_ | refine C.zt ?_ | refine C.zf ?_ | refine X.zo ?_)
      refine R.rem ((j % 3 : Nat) : Int) rfl rfl rfl rfl (by decide) (Int.ofNat_tmod j 3) ?_
      by_cases h30 : j % 3 = 0
      · rw [h30]
        rw [if_pos h30] at hpj
        repeat (first | refine C.seq ?_ | refine C.region ?_ | refine R.zb ttok ?_ | refine R.zu ttok ?_ | refine R.zc ttok ?_ | refine R.za ttok ?_ | refine R.zx ?_ | refine R.zl ttok ?_ | refine R.zs ttok ?_ | refine R.z ttok ?_ | refine R.zk ?_ | refine R.zn ?_ | refine R.done ?_ | refine X.then ?_ | refine C.block ?_ | refine C.ret ?_ | refine C.skip ?_ | refine C.exit ?_ | refine X.pass_ret ?_ | refine X.pass_exit ?_ | refine X.block_normal ?_ | refine X.block_ret ?_ | refine X.block_exit ?_ | refine C.zt ?_ | refine C.zf ?_ | refine X.zo ?_)
        refine R.ix ttok j rfl rfl rfl rfl rfl (by kernel_rfl) rfl hj2 (by show _ < _; omega) rfl ?_
        rw [Nat.zero_add j]
        refine R.ldt (v := .raw (.slice (some ⟨(rs.getD j zR).b, 0, none⟩) (rs.getD j zR).p.length (rs.getD j zR).c)) ttok rfl rfl rfl rfl rfl (by kernel_rfl) hj2 ?_
        refine R.labB (p := (rs.getD j zR).factW true) (List.mem_map.2 ⟨_, rw_get hj2, rfl⟩) 135 (hok _ (rw_get hj2)).1 rfl rfl ?_
        repeat (first | refine R.zb ttok ?_ | refine R.zu ttok ?_ | refine R.zc ttok ?_ | refine R.za ttok ?_ | refine R.zx ?_ | refine R.zl ttok ?_ | refine R.zs ttok ?_ | refine R.z ttok ?_ | refine R.zk ?_ | refine R.zn ?_)
        refine R.cl [6, 2] (same_spec 0 0 _ cx (rs.getD j zR).p Z (by rw [hpj]; omega)) Try.call14 (by repeat (first | exact HasIn.nil | refine HasIn.same rfl rfl ?_ | refine HasIn.bro rfl ?_ | refine HasIn.ror rfl ?_ | refine HasIn.cro rfl rfl ?_)) rfl rfl rfl (fun _ => rfl) rfl (by kernel_rfl) fun _ _ => ?_
        rw [decide_eq_true hpj]
        repeat (first | refine C.seq ?_ | refine C.region ?_ | refine R.zb ttok ?_ | refine R.zu ttok ?_ | refine R.zc ttok ?_ | refine R.za ttok ?_ | refine R.zx ?_ | refine R.zl ttok ?_ | refine R.zs ttok ?_ | refine R.z ttok ?_ | refine R.zk ?_ | refine R.zn ?_ | refine R.done ?_ | refine X.then ?_ | refine C.block ?_ | refine C.ret ?_ | refine C.skip ?_ | refine C.exit ?_ | refine X.pass_ret ?_ | refine X.pass_exit ?_ | refine X.block_normal ?_ | refine X.block_ret ?_ | refine X.block_exit ?_ | refine C.zt ?_ | refine C.zf ?_ | refine X.zo ?_)
        exact X.back [] (j + 1) (by omega) (by omega) rfl (by repeat (first | exact HasT.nil | refine HasT.cons rfl rfl rfl ?_)) (by repeat (first | exact HasH.nil | refine HasH.same rfl rfl rfl trivial ?_ | refine HasH.same rfl rfl rfl rfl ?_ | refine HasH.same rfl rfl rfl (fun _ _ => rfl) ?_ | refine HasH.ros rfl rfl ?_)) rfl (fun _ h => h)
      · rw [if_neg h30] at hpj
        repeat (first | refine C.seq ?_ | refine C.region ?_ | refine R.zb ttok ?_ | refine R.zu ttok ?_ | refine R.zc ttok ?_ | refine R.za ttok ?_ | refine R.zx ?_ | refine R.zl ttok ?_ | refine R.zs ttok ?_ | refine R.z ttok ?_ | refine R.zk ?_ | refine R.zn ?_ | refine R.done ?_ | refine X.then ?_ | refine C.block ?_ | refine C.ret ?_ | refine C.skip ?_ | refine C.exit ?_ | refine X.pass_ret ?_ | refine X.pass_exit ?_ | refine X.block_normal ?_ | refine X.block_ret ?_ | refine X.block_exit ?_ | refine C.zt ?_ | refine C.zf ?_ | refine X.zo ?_)
        rw [decide_eq_false (show ¬ ((j % 3 : Nat) : Int) = 0 by omega)]
        repeat (first | refine C.seq ?_ | refine C.region ?_ | refine R.zb ttok ?_ | refine R.zu ttok ?_ | refine R.zc ttok ?_ | refine R.za ttok ?_ | refine R.zx ?_ | refine R.zl ttok ?_ | refine R.zs ttok ?_ | refine R.z ttok ?_ | refine R.zk ?_ | refine R.zn ?_ | refine R.done ?_ | refine X.then ?_ | refine C.block ?_ | refine C.ret ?_ | refine C.skip ?_ | refine C.exit ?_ | refine X.pass_ret ?_ | refine X.pass_exit ?_ | refine X.block_normal ?_ | refine X.block_ret ?_ | refine X.block_exit ?_ | refine C.zt ?_ | refine C.zf ?_ | refine X.zo ?_)
        refine R.ix ttok j rfl rfl rfl rfl rfl (by kernel_rfl) rfl hj2 (by show _ < _; omega) rfl ?_
        rw [Nat.zero_add j]
        refine R.ldt (v := .raw (.slice (some ⟨(rs.getD j zR).b, 0, none⟩) (rs.getD j zR).p.length (rs.getD j zR).c)) ttok rfl rfl rfl rfl rfl (by kernel_rfl) hj2 ?_
        refine R.labB (p := (rs.getD j zR).factW true) (List.mem_map.2 ⟨_, rw_get hj2, rfl⟩) 135 (hok _ (rw_get hj2)).1 rfl rfl ?_
        repeat (first | refine R.zb ttok ?_ | refine R.zu ttok ?_ | refine R.zc ttok ?_ | refine R.za ttok ?_ | refine R.zx ?_ | refine R.zl ttok ?_ | refine R.zs ttok ?_ | refine R.z ttok ?_ | refine R.zk ?_ | refine R.zn ?_)
        refine R.cl [6, 1] (same_spec 0 o2 _ c2 (rs.getD j zR).p q (by rw [hpj]; omega)) Try.call14 (by repeat (first | exact HasIn.nil | refine HasIn.same rfl rfl ?_ | refine HasIn.bro rfl ?_ | refine HasIn.ror rfl ?_ | refine HasIn.cro rfl rfl ?_)) rfl rfl rfl (fun _ => rfl) rfl (by kernel_rfl) fun _ _ => ?_
        rw [decide_eq_true hpj]
        repeat (first | refine C.seq ?_ | refine C.region ?_ | refine R.zb ttok ?_ | refine R.zu ttok ?_ | refine R.zc ttok ?_ | refine R.za ttok ?_ | refine R.zx ?_ | refine R.zl ttok ?_ | refine R.zs ttok ?_ | refine R.z ttok ?_ | refine R.zk ?_ | refine R.zn ?_ | refine R.done ?_ | refine X.then ?_ | refine C.block ?_ | refine C.ret ?_ | refine C.skip ?_ | refine C.exit ?_ | refine X.pass_ret ?_ | refine X.pass_exit ?_ | refine X.block_normal ?_ | refine X.block_ret ?_ | refine X.block_exit ?_ | refine C.zt ?_ | refine C.zf ?_ | refine X.zo ?_)
        exact X.back [] (j + 1) (by omega) (by omega) rfl (by repeat (first | exact HasT.nil | refine HasT.cons rfl rfl rfl ?_)) (by repeat (first | exact HasH.nil | refine HasH.same rfl rfl rfl trivial ?_ | refine HasH.same rfl rfl rfl rfl ?_ | refine HasH.same rfl rfl rfl (fun _ _ => rfl) ?_ | refine HasH.ros rfl rfl ?_)) rfl (fun _ h => h)
    rw [decide_eq_false hlt2]
    repeat (first | refine C.seq ?_ | refine C.region ?_ | refine R.zb ttok ?_ | refine R.zu ttok ?_ | refine R.zc ttok ?_ | refine R.za ttok ?_ | refine R.zx ?_ | refine R.zl ttok ?_ | refine R.zs ttok ?_ | refine R.z ttok ?_ | refine R.zk ?_ | refine R.zn ?_ | refine R.done ?_ | refine X.then ?_ | refine C.block ?_ | refine C.ret ?_ | refine C.skip ?_ | refine C.exit ?_ | refine X.pass_ret ?_ | refine X.pass_exit ?_ | refine X.block_normal ?_ | refine X.block_ret ?_ | refine X.block_exit ?_ | refine C.zt ?_ | refine C.zf ?_ | refine X.zo ?_)
    refine R.tellB 6 [] rfl rfl ?_
    refine R.apb ttok (q := Y) (r := Y) rfl rfl rfl rfl (SrcA.bytes0 rfl) rfl rfl rfl rfl rfl rfl rfl rfl rfl (by simp) (by omega) fun cw hcw hcw2 => ?_
    repeat (first | refine C.seq ?_ | refine C.region ?_ | refine R.zb ttok ?_ | refine R.zu ttok ?_ | refine R.zc ttok ?_ | refine R.za ttok ?_ | refine R.zx ?_ | refine R.zl ttok ?_ | refine R.zs ttok ?_ | refine R.z ttok ?_ | refine R.zk ?_ | refine R.zn ?_ | refine R.done ?_ | refine X.then ?_ | refine C.block ?_ | refine C.ret ?_ | refine C.skip ?_ | refine C.exit ?_ | refine X.pass_ret ?_ | refine X.pass_exit ?_ | refine X.block_normal ?_ | refine X.block_ret ?_ | refine X.block_exit ?_ | refine C.zt ?_ | refine C.zf ?_ | refine X.zo ?_)
    refine C.loopG (σ := Nat × List Rw) (L2 := 8) (fun s => s.1 ≤ 9 ∧ s.2.length = 9 ∧ (∀ r ∈ s.2, r.ok) ∧ (∀ j, j < 9 → (s.2.getD j zR).b = (rs.getD j zR).b ∧ (s.2.getD j zR).c = (rs.getD j zR).c ∧ (s.2.getD j zR).p.length = (rs.getD j zR).p.length) ∧ ∀ j, j < s.1 → (s.2.getD j zR).p = List.replicate (rs.getD j zR).p.length (UInt8.ofNat (10 + j)))
      (fun s => [(0, .sl 0 1 o1 d.length c1), (1, .sl 1 1 o2 q.length c2), (5, .sl 5 1 0 rs.length cr), (8, .sl 4 1 0 Y.length cl), (19, .sl 7 1 0 Y.length cw), (20, .raw (.int .i64 (s.1 : Nat)))])
      (fun _ => [(0, roBo o1 d), (1, roBo o2 q), (4, .bytes Y cl 5), (5, tbL rs cr), (7, .bytes Y cw 5)]) (fun s => FF [roBo o1 d, roBo o2 q] ρ w [] (factsW true s.2)) (fun s => 9 - s.1) [] (0, rs) ⟨by omega, by show rs.length = 9; omega, fun r hr => (hok r hr).1, fun _ _ => ⟨rfl, rfl, rfl⟩, fun j h => by omega⟩ rfl (by repeat (first | exact HasT.nil | refine HasT.cons rfl rfl rfl ?_)) (by repeat (first | exact HasH.nil | refine HasH.same rfl rfl rfl trivial ?_ | refine HasH.same rfl rfl rfl rfl ?_ | refine HasH.same rfl rfl rfl (fun _ _ => rfl) ?_ | refine HasH.ros rfl rfl ?_)) rfl (fun _ h => h) ?_
    rintro ⟨i, rs2⟩ ⟨hi2, hl2, hok2, hsame, hmk⟩
    dsimp only at hi2 hl2 hok2 hsame hmk ⊢
    repeat (first | refine C.seq ?_ | refine C.region ?_ | refine R.zb ttok ?_ | refine R.zu ttok ?_ | refine R.zc ttok ?_ | refine R.za ttok ?_ | refine R.zx ?_ | refine R.zl ttok ?_ | refine R.zs ttok ?_ | refine R.z ttok ?_ | refine R.zk ?_ | refine R.zn ?_ | refine R.done ?_ | refine X.then ?_ | refine C.block ?_ | refine C.ret ?_ | refine C.skip ?_ | refine C.exit ?_ | refine X.pass_ret ?_ | refine X.pass_exit ?_ | refine X.block_normal ?_ | refine X.block_ret ?_ | refine X.block_exit ?_ | refine C.zt ?_ | refine C.zf ?_ | refine X.zo ?_)
    by_cases hlt3 : (i : Int) < (rs.length : Nat)
    · rw [decide_eq_true hlt3]
      have hi9 : i < 9 := by omega
      have hi9' : i < rs2.length := by omega
      have hir : i < rs.length := by omega
      obtain ⟨sb, sc, sp⟩ := hsame i hi9
      refine C.fact (p := ApF (factsW true rs2)) (fun ρ a w g => g.ff.ap) fun hap => ?_
      obtain ⟨r, hr⟩ : ∃ r, rs2.getD i zR = r := ⟨_, rfl⟩
      have hrok : r.ok := by rw [← hr]; exact hok2 _ (rw_get hi9')
      have hsplit : rs2 = rs2.take i ++ r :: rs2.drop (i + 1) := by
        conv => lhs; rw [← List.take_append_drop i rs2]
        rw [List.drop_eq_getElem_cons hi9', ← hr]
        simp [List.getD, hi9']
      have hperm : (factsW true rs2).Perm (r.factW true :: factsW true (rs2.take i ++ rs2.drop (i + 1))) := by
        conv => lhs; rw [hsplit]
        rw [factsW_app, factsW_app]
        exact List.perm_middle
      have hap2 := apf_perm hperm hap
      unfold ApF at hap2
      rw [List.pairwise_cons] at hap2
      refine C.tru rfl ?_
      refine C.skip ?_
      refine X.then ?_
      refine C.seq ?_
      refine C.block ?_
      refine C.seq ?_
      refine C.region ?_
      repeat (first | refine R.zb ttok ?_ | refine R.zu ttok ?_ | refine R.zc ttok ?_ | refine R.za ttok ?_ | refine R.zx ?_ | refine R.zl ttok ?_ | refine R.zs ttok ?_ | refine R.z ttok ?_ | refine R.zk ?_ | refine R.zn ?_)
      refine R.done ?_
      refine X.then ?_
      refine C.thaw (H0 := [roBo o1 d, roBo o2 q]) (by exact Nat.le_refl _) (fun _ _ => rfl) (by kernel_rfl) (r.factW true) (factsW true (rs2.take i ++ rs2.drop (i + 1))) (hperm.symm.subset List.mem_cons_self) rfl (fun x hx => ⟨hperm.symm.subset (List.mem_cons_of_mem _ hx), fun e => by
        have := hap2.1 x hx e.symm
        rw [show (r.factW true).rw = true from rfl] at this
        cases this.1⟩) hap2.2 (.bytes r.p r.c 5) rfl hrok trivial (by show 2 ≤ 8; omega) fun ρ1 hρ1 hρb => ?_
      rw [hr] at sb sc sp
      have hrb : r.p.length ≤ 300000 := by rw [sp, hp i hir]; split <;> omega
      refine C.block ?_
      refine C.loop (σ := Nat) (L2 := 9) (fun k => k ≤ r.p.length) (fun k => [(0, .sl 0 1 o1 d.length c1), (1, .sl 1 1 o2 q.length c2), (5, .sl 5 1 0 rs.length cr), (8, .sl 4 1 0 Y.length cl), (19, .sl 7 1 0 Y.length cw), (20, .raw (.int .i64 (i : Nat))), (21, .raw (.int .i64 (k : Nat)))])
        (fun k => [(8, .bytes (List.replicate k (UInt8.ofNat (10 + i)) ++ r.p.drop k) r.c 5), (0, roBo o1 d), (1, roBo o2 q), (4, .bytes Y cl 5), (5, tbL rs cr), (7, .bytes Y cw 5)]) _ (fun k => r.p.length - k) [] 0 (Nat.zero_le _) rfl (by repeat (first | exact HasT.nil | refine HasT.cons rfl rfl rfl ?_)) (by repeat (first | exact HasH.nil | refine HasH.same rfl rfl rfl trivial ?_ | refine HasH.same rfl rfl rfl rfl ?_ | refine HasH.same rfl rfl rfl (fun _ _ => rfl) ?_ | refine HasH.ros rfl rfl ?_)) rfl (fun _ h => h) ?_
      rintro k hk
      repeat (first | refine C.seq ?_ | refine C.region ?_ | refine R.zb ttok ?_ | refine R.zu ttok ?_ | refine R.zc ttok ?_ | refine R.za ttok ?_ | refine R.zx ?_ | refine R.zl ttok ?_ | refine R.zs ttok ?_ | refine R.z ttok ?_ | refine R.zk ?_ | refine R.zn ?_ | refine R.done ?_ | refine X.then ?_ | refine C.block ?_ | refine C.ret ?_ | refine C.skip ?_ | refine C.exit ?_ | refine X.pass_ret ?_ | refine X.pass_exit ?_ | refine X.block_normal ?_ | refine X.block_ret ?_ | refine X.block_exit ?_ | refine C.zt ?_ | refine C.zf ?_ | refine X.zo ?_)
      refine R.ix ttok i rfl rfl rfl rfl rfl (by kernel_rfl) rfl hir (by show _ < _; omega) rfl ?_
      rw [Nat.zero_add i]
      refine R.ldt (v := .raw (.slice (some ⟨(rs.getD i zR).b, 0, none⟩) (rs.getD i zR).p.length (rs.getD i zR).c)) ttok rfl rfl rfl rfl rfl (by kernel_rfl) hir ?_
      repeat (first | refine C.seq ?_ | refine C.region ?_ | refine R.zb ttok ?_ | refine R.zu ttok ?_ | refine R.zc ttok ?_ | refine R.za ttok ?_ | refine R.zx ?_ | refine R.zl ttok ?_ | refine R.zs ttok ?_ | refine R.z ttok ?_ | refine R.zk ?_ | refine R.zn ?_ | refine R.done ?_ | refine X.then ?_ | refine C.block ?_ | refine C.ret ?_ | refine C.skip ?_ | refine C.exit ?_ | refine X.pass_ret ?_ | refine X.pass_exit ?_ | refine X.block_normal ?_ | refine X.block_ret ?_ | refine X.block_exit ?_ | refine C.zt ?_ | refine C.zf ?_ | refine X.zo ?_)
      rw [← sp, ← sc, ← sb]
      by_cases hkl : (k : Int) < (r.p.length : Nat)
      · rw [decide_eq_true hkl]
        have hkl' : k < r.p.length := by omega
        repeat (first | refine C.seq ?_ | refine C.region ?_ | refine R.zb ttok ?_ | refine R.zu ttok ?_ | refine R.zc ttok ?_ | refine R.za ttok ?_ | refine R.zx ?_ | refine R.zl ttok ?_ | refine R.zs ttok ?_ | refine R.z ttok ?_ | refine R.zk ?_ | refine R.zn ?_ | refine R.done ?_ | refine X.then ?_ | refine C.block ?_ | refine C.ret ?_ | refine C.skip ?_ | refine C.exit ?_ | refine X.pass_ret ?_ | refine X.pass_exit ?_ | refine X.block_normal ?_ | refine X.block_ret ?_ | refine X.block_exit ?_ | refine C.zt ?_ | refine C.zf ?_ | refine X.zo ?_)
        refine R.ix ttok i rfl rfl rfl rfl rfl (by kernel_rfl) rfl hir (by show _ < _; omega) rfl ?_
        rw [Nat.zero_add i]
        refine R.ldt (v := .raw (.slice (some ⟨(rs.getD i zR).b, 0, none⟩) (rs.getD i zR).p.length (rs.getD i zR).c)) ttok rfl rfl rfl rfl rfl (by kernel_rfl) hir ?_
        rw [← sp, ← sc, ← sb]
        refine R.name 160 (.sl 8 1 0 r.p.length r.c) rfl (fun ρ2 h => by
          have h8 : ρ2 8 = some r.b := (h 8 (by show 8 < 9; omega)).trans hρb
          simp [AV.conc, h8]) rfl ?_
        repeat (first | refine R.zb ttok ?_ | refine R.zu ttok ?_ | refine R.zc ttok ?_ | refine R.za ttok ?_ | refine R.zx ?_ | refine R.zl ttok ?_ | refine R.zs ttok ?_ | refine R.z ttok ?_ | refine R.zk ?_ | refine R.zn ?_)
        refine R.ix ttok k rfl rfl rfl rfl rfl (by kernel_rfl) rfl hkl' (by show _ < _; simp; omega) rfl ?_
        rw [Nat.zero_add k]
        refine R.stb ttok (UInt8.ofNat (10 + i)) rfl rfl rfl rfl rfl (by kernel_rfl) (by simp; omega) (own_mark (by omega)) ?_
        rw [own_step r.p _ hkl']
        repeat (first | refine C.seq ?_ | refine C.region ?_ | refine R.zb ttok ?_ | refine R.zu ttok ?_ | refine R.zc ttok ?_ | refine R.za ttok ?_ | refine R.zx ?_ | refine R.zl ttok ?_ | refine R.zs ttok ?_ | refine R.z ttok ?_ | refine R.zk ?_ | refine R.zn ?_ | refine R.done ?_ | refine X.then ?_ | refine C.block ?_ | refine C.ret ?_ | refine C.skip ?_ | refine C.exit ?_ | refine X.pass_ret ?_ | refine X.pass_exit ?_ | refine X.block_normal ?_ | refine X.block_ret ?_ | refine X.block_exit ?_ | refine C.zt ?_ | refine C.zf ?_ | refine X.zo ?_)
        exact X.back [] (k + 1) (by omega) (by omega) rfl (by repeat (first | exact HasT.nil | refine HasT.cons rfl rfl rfl ?_)) (by repeat (first | exact HasH.nil | refine HasH.same rfl rfl rfl trivial ?_ | refine HasH.same rfl rfl rfl rfl ?_ | refine HasH.same rfl rfl rfl (fun _ _ => rfl) ?_ | refine HasH.ros rfl rfl ?_)) rfl (fun _ h => h)
      · rw [decide_eq_false hkl]
        obtain rfl : k = r.p.length := by omega
        rw [List.drop_length, List.append_nil]
        repeat (first | refine C.seq ?_ | refine C.region ?_ | refine R.zb ttok ?_ | refine R.zu ttok ?_ | refine R.zc ttok ?_ | refine R.za ttok ?_ | refine R.zx ?_ | refine R.zl ttok ?_ | refine R.zs ttok ?_ | refine R.z ttok ?_ | refine R.zk ?_ | refine R.zn ?_ | refine R.done ?_ | refine X.then ?_ | refine C.block ?_ | refine C.ret ?_ | refine C.skip ?_ | refine C.exit ?_ | refine X.pass_ret ?_ | refine X.pass_exit ?_ | refine X.block_normal ?_ | refine X.block_ret ?_ | refine X.block_exit ?_ | refine C.zt ?_ | refine C.zf ?_ | refine X.zo ?_)
        refine X.frzP (o' := .bytes (List.replicate r.p.length (UInt8.ofNat (10 + i))) r.c 5) true 8 rfl rfl (by show 8 < 9; omega) hρb (fun ρ ob w h1 h2 => is_bytes h1 h2) fun ob hob hne => ?_
        refine X.unpin (E := ⟨[roBo o1 d, roBo o2 q].length, ρ⟩) (by show 2 ≤ 9; omega) (fun l hl => hρ1 l hl) ?_
        obtain ⟨r2, hr2⟩ : ∃ r2 : Rw, r2 = ⟨r.a, List.replicate r.p.length (UInt8.ofNat (10 + i)), r.b, ob, r.c⟩ := ⟨_, rfl⟩
        refine X.backG [] (i + 1, rs2.take i ++ r2 :: rs2.drop (i + 1)) ?_ (by show 9 - (i + 1) < 9 - i; omega) rfl (by repeat (first | exact HasT.nil | refine HasT.cons rfl rfl rfl ?_)) (by repeat (first | exact HasH.nil | refine HasH.same rfl rfl rfl trivial ?_ | refine HasH.same rfl rfl rfl rfl ?_ | refine HasH.same rfl rfl rfl (fun _ _ => rfl) ?_ | refine HasH.ros rfl rfl ?_)) rfl fun w hf => ?_
        · have hlen2 : (rs2.take i ++ r2 :: rs2.drop (i + 1)).length = 9 := by simp; omega
          have hg : ∀ j, j < 9 → (rs2.take i ++ r2 :: rs2.drop (i + 1)).getD j zR = if j = i then r2 else rs2.getD j zR := fun j hj => by
            have htl : (rs2.take i).length = i := by rw [List.length_take]; omega
            simp only [List.getD_eq_getElem?_getD]
            rcases Nat.lt_trichotomy j i with h | h | h
            · rw [if_neg (by omega), List.getElem?_append_left (by omega), List.getElem?_take, if_pos h]
            · rw [if_pos h, List.getElem?_append_right (by omega), htl, h, Nat.sub_self]
              rfl
            · rw [if_neg (by omega), List.getElem?_append_right (by omega), htl]
              obtain ⟨t, rfl⟩ : ∃ t, j = i + 1 + t := ⟨j - (i + 1), by omega⟩
              rw [show i + 1 + t - i = t + 1 by omega, List.getElem?_cons_succ, List.getElem?_drop]
          refine ⟨by show i + 1 ≤ 9; omega, hlen2, fun x hx => ?_, fun j hj => ?_, fun j hj => ?_⟩
          · rcases List.mem_append.1 hx with hx | hx
            · exact hok2 x (List.mem_of_mem_take hx)
            · rcases List.mem_cons.1 hx with rfl | hx
              · rw [hr2]
                unfold Rw.ok
                exact hob
              · exact hok2 x (List.mem_of_mem_drop hx)
          · show ((rs2.take i ++ r2 :: rs2.drop (i + 1)).getD j zR).b = _ ∧ ((rs2.take i ++ r2 :: rs2.drop (i + 1)).getD j zR).c = _ ∧ ((rs2.take i ++ r2 :: rs2.drop (i + 1)).getD j zR).p.length = _
            rw [hg j hj]
            by_cases hji : j = i
            · rw [if_pos hji, hji, hr2]
              exact ⟨sb, sc, by rw [List.length_replicate]; exact sp⟩
            · rw [if_neg hji]; exact hsame j hj
          · show ((rs2.take i ++ r2 :: rs2.drop (i + 1)).getD j zR).p = _
            have hj2 : j < i + 1 := hj
            rw [hg j (by omega)]
            by_cases hji : j = i
            · rw [if_pos hji, hji, hr2]
              show List.replicate r.p.length _ = _
              rw [sp]
            · rw [if_neg hji]; exact hmk j (by omega)
        · have hperm2 : (⟨true, r.b, ob⟩ :: factsW true (rs2.take i ++ rs2.drop (i + 1)) : Fam).Perm (factsW true (rs2.take i ++ r2 :: rs2.drop (i + 1))) := by
            rw [factsW_app, factsW_app]
            subst hr2
            exact List.perm_middle.symm
          exact hf.less (fun x hx => hperm2.symm.subset hx) (apf_perm hperm2 hf.ap)
    rw [decide_eq_false hlt3]
    obtain rfl : i = 9 := by omega
    repeat (first | refine C.seq ?_ | refine C.region ?_ | refine R.zb ttok ?_ | refine R.zu ttok ?_ | refine R.zc ttok ?_ | refine R.za ttok ?_ | refine R.zx ?_ | refine R.zl ttok ?_ | refine R.zs ttok ?_ | refine R.z ttok ?_ | refine R.zk ?_ | refine R.zn ?_ | refine R.done ?_ | refine X.then ?_ | refine C.block ?_ | refine C.ret ?_ | refine C.skip ?_ | refine C.exit ?_ | refine X.pass_ret ?_ | refine X.pass_exit ?_ | refine X.block_normal ?_ | refine X.block_ret ?_ | refine X.block_exit ?_ | refine C.zt ?_ | refine C.zf ?_ | refine X.zo ?_)
    refine C.noneT 22 (.sl 8 1 0 0 0) (.tab 1 0 0 (lsF []) 22) (none_tab _ _ _ _) rfl rfl rfl (fun ρ h => by have h : ρ 8 = none := h; simp [AV.conc, h]) ?_
    refine C.loopG (σ := Nat × List Rw × List Rw × Nat) (L2 := 9) (fun s => s.1 ≤ 9 ∧ OwnI rs s.1 s.2.1 s.2.2.1 ∧ s.2.2.2 ≤ 9223372036854775807)
      (fun s => [(1, .sl 1 1 o2 q.length c2), (5, .sl 5 1 0 rs.length cr), (8, .sl 4 1 0 Y.length cl), (19, .sl 7 1 0 Y.length cw), (22, .sl 8 1 0 s.2.2.1.length s.2.2.2), (23, .raw (.int .i64 (s.1 : Nat)))])
      (fun s => [(0, roBo o1 d), (1, roBo o2 q), (4, .bytes Y cl 5), (5, tbL rs cr), (7, .bytes Y cw 5), (8, tbL s.2.2.1 s.2.2.2)]) (fun s => FF [roBo o1 d, roBo o2 q] ρ w [] (factsW false (s.2.1 ++ s.2.2.1) ++ factsW true (rs2.drop s.1))) (fun s => 9 - s.1) [] (0, [], [], 0) ⟨by omega, ⟨rfl, rfl, by simp, fun j h => by omega, fun j h => by omega⟩, by simp⟩ rfl (by repeat (first | exact HasT.nil | refine HasT.cons rfl rfl rfl ?_)) (by repeat (first | exact HasH.nil | refine HasH.same rfl rfl rfl trivial ?_ | refine HasH.same rfl rfl rfl rfl ?_ | refine HasH.same rfl rfl rfl (fun _ _ => rfl) ?_ | refine HasH.ros rfl rfl ?_)) rfl (fun _ h => h) ?_
    rintro ⟨i, dn, lg, cg⟩ ⟨hi3, hOI, hcg⟩
    dsimp only at hi3 hOI hcg ⊢
    have hdl := hOI.dl
    have hgl := hOI.gl
    repeat (first | refine C.seq ?_ | refine C.region ?_ | refine R.zb ttok ?_ | refine R.zu ttok ?_ | refine R.zc ttok ?_ | refine R.za ttok ?_ | refine R.zx ?_ | refine R.zl ttok ?_ | refine R.zs ttok ?_ | refine R.z ttok ?_ | refine R.zk ?_ | refine R.zn ?_ | refine R.done ?_ | refine X.then ?_ | refine C.block ?_ | refine C.ret ?_ | refine C.skip ?_ | refine C.exit ?_ | refine X.pass_ret ?_ | refine X.pass_exit ?_ | refine X.block_normal ?_ | refine X.block_ret ?_ | refine X.block_exit ?_ | refine C.zt ?_ | refine C.zf ?_ | refine X.zo ?_)
    by_cases hlt4 : (i : Int) < (rs.length : Nat)
    · rw [decide_eq_true hlt4]
      have hi9 : i < 9 := by omega
      have hi9' : i < rs2.length := by omega
      have hir : i < rs.length := by omega
      obtain ⟨sb, sc, sp⟩ := hsame i hi9
      have hmi := hmk i hi9
      refine C.fact (p := ApF (factsW false (dn ++ lg) ++ factsW true (rs2.drop i))) (fun ρ a w g => g.ff.ap) fun hap => ?_
      obtain ⟨r, hr⟩ : ∃ r, rs2.getD i zR = r := ⟨_, rfl⟩
      have hrok : r.ok := by rw [← hr]; exact hok2 _ (rw_get hi9')
      have hsplit : rs2.drop i = r :: rs2.drop (i + 1) := by
        rw [List.drop_eq_getElem_cons hi9', ← hr]
        simp [List.getD, hi9']
      rw [hr] at sb sc sp hmi
      have hrb : r.p.length ≤ 300000 := by rw [sp, hp i hir]; split <;> omega
      have hperm : (factsW false (dn ++ lg) ++ factsW true (rs2.drop i)).Perm (r.factW true :: (factsW false (dn ++ lg) ++ factsW true (rs2.drop (i + 1)))) := by
        rw [hsplit]
        exact List.perm_middle
      have hap2 := apf_perm hperm hap
      unfold ApF at hap2
      rw [List.pairwise_cons] at hap2
      refine C.tru rfl ?_
      refine C.skip ?_
      refine X.then ?_
      refine C.seq ?_
      refine C.block ?_
      refine C.thaw (H0 := [roBo o1 d, roBo o2 q]) (by exact Nat.le_refl _) (fun _ _ => rfl) (by kernel_rfl) (r.factW true) (factsW false (dn ++ lg) ++ factsW true (rs2.drop (i + 1))) (hperm.symm.subset List.mem_cons_self) rfl (fun x hx => ⟨hperm.symm.subset (List.mem_cons_of_mem _ hx), fun e => by
        have := hap2.1 x hx e.symm
        rw [show (r.factW true).rw = true from rfl] at this
        cases this.1⟩) hap2.2 (.bytes (r.p ++ List.replicate 0 (UInt8.ofNat (100 + i))) r.c 5) rfl (by rw [List.replicate_zero, List.append_nil]; exact hrok) trivial (by show 2 ≤ 9; omega) fun ρ1 hρ1 hρb => ?_
      refine C.noneT 1 (.sl 1 1 o2 q.length c2) (.bytes [] 0 5) (none_bytes _ _) rfl rfl rfl (fun _ _ => rfl) ?_
      refine C.seq ?_
      refine C.region ?_
      repeat (first | refine R.zb ttok ?_ | refine R.zu ttok ?_ | refine R.zc ttok ?_ | refine R.za ttok ?_ | refine R.zx ?_ | refine R.zl ttok ?_ | refine R.zs ttok ?_ | refine R.z ttok ?_ | refine R.zk ?_ | refine R.zn ?_)
      refine R.ix ttok i rfl rfl rfl rfl rfl (by kernel_rfl) rfl hir (by show _ < _; omega) rfl ?_
      rw [Nat.zero_add i]
      refine R.ldt (v := .raw (.slice (some ⟨(rs.getD i zR).b, 0, none⟩) (rs.getD i zR).p.length (rs.getD i zR).c)) ttok rfl rfl rfl rfl rfl (by kernel_rfl) hir ?_
      rw [← sp, ← sc, ← sb]
      refine R.name 175 (.sl 9 1 0 r.p.length r.c) rfl (fun ρ2 h => by
        have h8 : ρ2 9 = some r.b := (h 9 (by show 9 < 10; omega)).trans hρb
        simp [AV.conc, h8]) rfl ?_
      repeat (first | refine C.seq ?_ | refine C.region ?_ | refine R.zb ttok ?_ | refine R.zu ttok ?_ | refine R.zc ttok ?_ | refine R.za ttok ?_ | refine R.zx ?_ | refine R.zl ttok ?_ | refine R.zs ttok ?_ | refine R.z ttok ?_ | refine R.zk ?_ | refine R.zn ?_ | refine R.done ?_ | refine X.then ?_ | refine C.block ?_ | refine C.ret ?_ | refine C.skip ?_ | refine C.exit ?_ | refine X.pass_ret ?_ | refine X.pass_exit ?_ | refine X.block_normal ?_ | refine X.block_ret ?_ | refine X.block_exit ?_ | refine C.zt ?_ | refine C.zf ?_ | refine X.zo ?_)
      obtain ⟨v, hv⟩ : ∃ v, UInt8.ofNat (100 + i) = v := ⟨_, rfl⟩
      have hvn : (100 : Int) + (i : Nat) = (v.toNat : Int) := by
        rw [← hv, UInt8.toNat_ofNat']
        omega
      rw [hv]
      refine C.loop (σ := Bool × Nat × Nat × Nat) (L2 := 11) (fun s => s.2.1 ≤ 70 ∧ s.2.2.1 ≤ 9223372036854775807) (fun s => [(1, .sl 1 1 o2 q.length c2), (5, .sl 5 1 0 rs.length cr), (8, .sl 4 1 0 Y.length cl), (19, .sl 7 1 0 Y.length cw), (22, .sl 8 1 0 lg.length cg), (23, .raw (.int .i64 (i : Nat))), (24, match s.1 with | true => .sl 9 1 0 (r.p.length + s.2.1) r.c | false => .sl 10 1 0 (r.p.length + s.2.1) s.2.2.1), (25, .raw (.int .i64 (s.2.1 : Nat)))])
        (fun s => [(9, match s.1 with | true => .bytes (r.p ++ List.replicate s.2.1 v) r.c 5 | false => .bytes (r.p ++ List.replicate s.2.2.2 v) r.c 5), (10, match s.1 with | true => .bytes [] 0 5 | false => .bytes (r.p ++ List.replicate s.2.1 v) s.2.2.1 5), (0, roBo o1 d), (1, roBo o2 q), (4, .bytes Y cl 5), (5, tbL rs cr), (7, .bytes Y cw 5), (8, tbL lg cg)]) _ (fun s => 70 - s.2.1) [] (true, 0, 0, 0) ⟨by simp, by simp⟩ rfl (by repeat (first | exact HasT.nil | refine HasT.cons rfl rfl rfl ?_)) (by repeat (first | exact HasH.nil | refine HasH.same rfl rfl rfl trivial ?_ | refine HasH.same rfl rfl rfl rfl ?_ | refine HasH.same rfl rfl rfl (fun _ _ => rfl) ?_ | refine HasH.ros rfl rfl ?_)) rfl (fun _ h => h) ?_
      rintro ⟨fl, k, cx2, k0⟩ ⟨hk, hcx3⟩
      dsimp only at hk hcx3 ⊢
      have hlk : (r.p ++ List.replicate k v).length = r.p.length + k := by simp
      have hlk1 : (r.p ++ List.replicate (k + 1) v).length = r.p.length + (k + 1) := by simp
      have happ : (r.p ++ List.replicate k v) ++ [v] = r.p ++ List.replicate (k + 1) v := by rw [List.replicate_succ', List.append_assoc]
      cases fl with
      | true =>
        repeat (first | refine C.seq ?_ | refine C.region ?_ | refine R.zb ttok ?_ | refine R.zu ttok ?_ | refine R.zc ttok ?_ | refine R.za ttok ?_ | refine R.zx ?_ | refine R.zl ttok ?_ | refine R.zs ttok ?_ | refine R.z ttok ?_ | refine R.zk ?_ | refine R.zn ?_ | refine R.done ?_ | refine X.then ?_ | refine C.block ?_ | refine C.ret ?_ | refine C.skip ?_ | refine C.exit ?_ | refine X.pass_ret ?_ | refine X.pass_exit ?_ | refine X.block_normal ?_ | refine X.block_ret ?_ | refine X.block_exit ?_ | refine C.zt ?_ | refine C.zf ?_ | refine X.zo ?_)
        by_cases hk2 : (k : Int) < 70
        · rw [decide_eq_true hk2]
          repeat (first | refine C.seq ?_ | refine C.region ?_ | refine R.zb ttok ?_ | refine R.zu ttok ?_ | refine R.zc ttok ?_ | refine R.za ttok ?_ | refine R.zx ?_ | refine R.zl ttok ?_ | refine R.zs ttok ?_ | refine R.z ttok ?_ | refine R.zk ?_ | refine R.zn ?_ | refine R.done ?_ | refine X.then ?_ | refine C.block ?_ | refine C.ret ?_ | refine C.skip ?_ | refine C.exit ?_ | refine X.pass_ret ?_ | refine X.pass_exit ?_ | refine X.block_normal ?_ | refine X.block_ret ?_ | refine X.block_exit ?_ | refine C.zt ?_ | refine C.zf ?_ | refine X.zo ?_)
          by_cases hroom : r.p.length + (k + 1) ≤ r.c
          · refine R.apr ttok (q := [v]) (r := r.p ++ List.replicate (k + 1) v) rfl rfl hlk.symm rfl (SrcA.cells rfl rfl) (by rw [hvn]; rfl) happ rfl rfl rfl rfl rfl (by kernel_rfl) rfl (by omega) ?_
            rw [hlk1]
            repeat (first | refine C.seq ?_ | refine C.region ?_ | refine R.zb ttok ?_ | refine R.zu ttok ?_ | refine R.zc ttok ?_ | refine R.za ttok ?_ | refine R.zx ?_ | refine R.zl ttok ?_ | refine R.zs ttok ?_ | refine R.z ttok ?_ | refine R.zk ?_ | refine R.zn ?_ | refine R.done ?_ | refine X.then ?_ | refine C.block ?_ | refine C.ret ?_ | refine C.skip ?_ | refine C.exit ?_ | refine X.pass_ret ?_ | refine X.pass_exit ?_ | refine X.block_normal ?_ | refine X.block_ret ?_ | refine X.block_exit ?_ | refine C.zt ?_ | refine C.zf ?_ | refine X.zo ?_)
            exact X.back [] (true, k + 1, 0, 0) ⟨by show k + 1 ≤ 70; omega, by simp⟩ (by show 70 - (k + 1) < 70 - k; omega) rfl (by repeat (first | exact HasT.nil | refine HasT.cons rfl rfl rfl ?_)) (by repeat (first | exact HasH.nil | refine HasH.same rfl rfl rfl trivial ?_ | refine HasH.same rfl rfl rfl rfl ?_ | refine HasH.same rfl rfl rfl (fun _ _ => rfl) ?_ | refine HasH.ros rfl rfl ?_)) rfl (fun _ h => h)
          · have hrc : r.c ≤ 9223372036854775807 := by rw [sc]; exact (hok _ (rw_get hir)).2
            refine R.apg ttok (q := [v]) (r := r.p ++ List.replicate (k + 1) v) rfl rfl hlk.symm rfl (SrcA.cells rfl rfl) (by rw [hvn]; rfl) happ rfl rfl rfl rfl rfl (by kernel_rfl) rfl (by omega) hrc (by omega) fun cN hcN hcN2 => ?_
            rw [hlk1]
            repeat (first | refine C.seq ?_ | refine C.region ?_ | refine R.zb ttok ?_ | refine R.zu ttok ?_ | refine R.zc ttok ?_ | refine R.za ttok ?_ | refine R.zx ?_ | refine R.zl ttok ?_ | refine R.zs ttok ?_ | refine R.z ttok ?_ | refine R.zk ?_ | refine R.zn ?_ | refine R.done ?_ | refine X.then ?_ | refine C.block ?_ | refine C.ret ?_ | refine C.skip ?_ | refine C.exit ?_ | refine X.pass_ret ?_ | refine X.pass_exit ?_ | refine X.block_normal ?_ | refine X.block_ret ?_ | refine X.block_exit ?_ | refine C.zt ?_ | refine C.zf ?_ | refine X.zo ?_)
            exact X.back [(10, 12)] (false, k + 1, cN, k) ⟨by show k + 1 ≤ 70; omega, hcN2⟩ (by show 70 - (k + 1) < 70 - k; omega) rfl (by repeat (first | exact HasT.nil | refine HasT.cons rfl rfl rfl ?_)) (by repeat (first | exact HasH.nil | refine HasH.same rfl rfl rfl trivial ?_ | refine HasH.same rfl rfl rfl rfl ?_ | refine HasH.same rfl rfl rfl (fun _ _ => rfl) ?_ | refine HasH.ros rfl rfl ?_)) rfl (fun _ h => h)
        · obtain rfl : k = 70 := by omega
          refine C.unname 24 (.slice (some ⟨r.b, 0, none⟩) (r.p.length + 70) r.c) rfl (fun ρ2 h => by
            have h8 : ρ2 9 = some r.b := (h 9 (by show 9 < 10; omega)).trans hρb
            simp [AV.conc, h8]) ?_
          refine C.frzP (o' := .bytes (r.p ++ List.replicate 70 v) r.c 5) false 9 rfl rfl (by show 9 < 10; omega) hρb (fun ρ ob w h1 h2 => is_bytes h1 h2) fun ob hob hne => ?_
          rw [decide_eq_false hk2]
          repeat (first | refine C.seq ?_ | refine C.region ?_ | refine R.zb ttok ?_ | refine R.zu ttok ?_ | refine R.zc ttok ?_ | refine R.za ttok ?_ | refine R.zx ?_ | refine R.zl ttok ?_ | refine R.zs ttok ?_ | refine R.z ttok ?_ | refine R.zk ?_ | refine R.zn ?_ | refine R.done ?_ | refine X.then ?_ | refine C.block ?_ | refine C.ret ?_ | refine C.skip ?_ | refine C.exit ?_ | refine X.pass_ret ?_ | refine X.pass_exit ?_ | refine X.block_normal ?_ | refine X.block_ret ?_ | refine X.block_exit ?_ | refine C.zt ?_ | refine C.zf ?_ | refine X.zo ?_)
          obtain ⟨rg, hrg⟩ : ∃ x : Rw, x = ⟨0, r.p ++ List.replicate 70 v, r.b, ob, r.c⟩ := ⟨_, rfl⟩
          obtain ⟨rd, hrd⟩ : ∃ x : Rw, x = ⟨0, r.p, r.b, ob, r.c⟩ := ⟨_, rfl⟩
          have hlen : (lg ++ [rg]).length = lg.length + 1 := by rw [List.length_append]; rfl
          refine R.app (xs := lws lg) (news := lws [rg]) ttok (fun c => tbL (lg ++ [rg]) c) rfl rfl (dstLs rfl) (SrcA.cells rfl (by rw [hrg]; show _ = [AV.raw _]; rw [hlk]; rfl)) (asLs _ _ _ (lws_app _ _).symm) rfl rfl rfl rfl rfl rfl (by decide) (lws_one _) rfl rfl (by kernel_rfl) hcg (by show (lg.length + 1) * 24 ≤ _; omega) (by omega) fun cN hcN hcN2 => ?_
          rw [← hlen] at hcN ⊢
          repeat (first | refine C.seq ?_ | refine C.region ?_ | refine R.zb ttok ?_ | refine R.zu ttok ?_ | refine R.zc ttok ?_ | refine R.za ttok ?_ | refine R.zx ?_ | refine R.zl ttok ?_ | refine R.zs ttok ?_ | refine R.z ttok ?_ | refine R.zk ?_ | refine R.zn ?_ | refine R.done ?_ | refine X.then ?_ | refine C.block ?_ | refine C.ret ?_ | refine C.skip ?_ | refine C.exit ?_ | refine X.pass_ret ?_ | refine X.pass_exit ?_ | refine X.block_normal ?_ | refine X.block_ret ?_ | refine X.block_exit ?_ | refine C.zt ?_ | refine C.zf ?_ | refine X.zo ?_)
          refine X.unpin (E := ⟨[roBo o1 d, roBo o2 q].length, ρ⟩) (by show 2 ≤ 10; omega) (fun l hl => hρ1 l hl) ?_
          have hOI2 := hOI.snoc rd rg (by rw [hrd]; exact hob.pre) (by rw [hrg]; exact hob.ro) (by rw [hrd]; exact sb) (by rw [hrd]; exact hmi) (by rw [hrg, hv]; show r.p ++ _ = _; rw [hmi]; rfl)
          refine X.backG [(8, 12)] (i + 1, dn ++ [rd], lg ++ [rg], cN) ⟨by show i + 1 ≤ 9; omega, hOI2, hcN2⟩ (by show 9 - (i + 1) < 9 - i; omega) rfl (by repeat (first | exact HasT.nil | refine HasT.cons rfl rfl rfl ?_)) (by repeat (first | exact HasH.nil | refine HasH.same rfl rfl rfl trivial ?_ | refine HasH.same rfl rfl rfl rfl ?_ | refine HasH.same rfl rfl rfl (fun _ _ => rfl) ?_ | refine HasH.ros rfl rfl ?_)) rfl fun w hf => ?_
          have hmem : ∀ x ∈ factsW false ((dn ++ [rd]) ++ (lg ++ [rg])), x ∈ (⟨false, r.b, ob⟩ :: factsW false (dn ++ lg) : Fam) := fun x hx => by
            obtain ⟨y, hy, rfl⟩ := List.mem_map.1 hx
            simp only [List.mem_append, List.mem_singleton] at hy
            rcases hy with (hy | rfl) | (hy | rfl)
            · exact List.mem_cons_of_mem _ (List.mem_map.2 ⟨y, List.mem_append_left _ hy, rfl⟩)
            · rw [hrd]; exact List.mem_cons_self
            · exact List.mem_cons_of_mem _ (List.mem_map.2 ⟨y, List.mem_append_right _ hy, rfl⟩)
            · rw [hrg]; exact List.mem_cons_self
          have hf : FF [roBo o1 d, roBo o2 q] _ _ [] ((⟨false, r.b, ob⟩ :: factsW false (dn ++ lg)) ++ factsW true (rs2.drop (i + 1))) w := hf
          exact hf.less (fun x hx => by
            rcases List.mem_append.1 hx with hx | hx
            · exact List.mem_append.2 (.inl (hmem x hx))
            · exact List.mem_append.2 (.inr hx)) (apf_join (factsW_ro _) hmem hf.ap)
      | false =>
        repeat (first | refine C.seq ?_ | refine C.region ?_ | refine R.zb ttok ?_ | refine R.zu ttok ?_ | refine R.zc ttok ?_ | refine R.za ttok ?_ | refine R.zx ?_ | refine R.zl ttok ?_ | refine R.zs ttok ?_ | refine R.z ttok ?_ | refine R.zk ?_ | refine R.zn ?_ | refine R.done ?_ | refine X.then ?_ | refine C.block ?_ | refine C.ret ?_ | refine C.skip ?_ | refine C.exit ?_ | refine X.pass_ret ?_ | refine X.pass_exit ?_ | refine X.block_normal ?_ | refine X.block_ret ?_ | refine X.block_exit ?_ | refine C.zt ?_ | refine C.zf ?_ | refine X.zo ?_)
        by_cases hk2 : (k : Int) < 70
        · rw [decide_eq_true hk2]
          repeat (first | refine C.seq ?_ | refine C.region ?_ | refine R.zb ttok ?_ | refine R.zu ttok ?_ | refine R.zc ttok ?_ | refine R.za ttok ?_ | refine R.zx ?_ | refine R.zl ttok ?_ | refine R.zs ttok ?_ | refine R.z ttok ?_ | refine R.zk ?_ | refine R.zn ?_ | refine R.done ?_ | refine X.then ?_ | refine C.block ?_ | refine C.ret ?_ | refine C.skip ?_ | refine C.exit ?_ | refine X.pass_ret ?_ | refine X.pass_exit ?_ | refine X.block_normal ?_ | refine X.block_ret ?_ | refine X.block_exit ?_ | refine C.zt ?_ | refine C.zf ?_ | refine X.zo ?_)
          refine R.apb ttok (q := [v]) (r := r.p ++ List.replicate (k + 1) v) rfl rfl hlk.symm rfl (SrcA.cells rfl rfl) (by rw [hvn]; rfl) happ rfl rfl rfl rfl rfl (by kernel_rfl) rfl hcx3 (by omega) fun cN hcN hcN2 => ?_
          rw [hlk1]
          repeat (first | refine C.seq ?_ | refine C.region ?_ | refine R.zb ttok ?_ | refine R.zu ttok ?_ | refine R.zc ttok ?_ | refine R.za ttok ?_ | refine R.zx ?_ | refine R.zl ttok ?_ | refine R.zs ttok ?_ | refine R.z ttok ?_ | refine R.zk ?_ | refine R.zn ?_ | refine R.done ?_ | refine X.then ?_ | refine C.block ?_ | refine C.ret ?_ | refine C.skip ?_ | refine C.exit ?_ | refine X.pass_ret ?_ | refine X.pass_exit ?_ | refine X.block_normal ?_ | refine X.block_ret ?_ | refine X.block_exit ?_ | refine C.zt ?_ | refine C.zf ?_ | refine X.zo ?_)
          exact X.back [(10, 12)] (false, k + 1, cN, k0) ⟨by show k + 1 ≤ 70; omega, hcN2⟩ (by show 70 - (k + 1) < 70 - k; omega) rfl (by repeat (first | exact HasT.nil | refine HasT.cons rfl rfl rfl ?_)) (by repeat (first | exact HasH.nil | refine HasH.same rfl rfl rfl trivial ?_ | refine HasH.same rfl rfl rfl rfl ?_ | refine HasH.same rfl rfl rfl (fun _ _ => rfl) ?_ | refine HasH.ros rfl rfl ?_)) rfl (fun _ h => h)
        · obtain rfl : k = 70 := by omega
          rw [← hlk]
          refine C.frzB false 24 10 rfl (by omega) rfl fun bg obg hobg hneg => ?_
          refine C.frzP (o' := .bytes (r.p ++ List.replicate k0 v) r.c 5) false 9 rfl rfl (by show 9 < 10; omega) hρb (fun ρ ob w h1 h2 => is_bytes h1 h2) fun ob hob hne => ?_
          rw [decide_eq_false hk2]
          repeat (first | refine C.seq ?_ | refine C.region ?_ | refine R.zb ttok ?_ | refine R.zu ttok ?_ | refine R.zc ttok ?_ | refine R.za ttok ?_ | refine R.zx ?_ | refine R.zl ttok ?_ | refine R.zs ttok ?_ | refine R.z ttok ?_ | refine R.zk ?_ | refine R.zn ?_ | refine R.done ?_ | refine X.then ?_ | refine C.block ?_ | refine C.ret ?_ | refine C.skip ?_ | refine C.exit ?_ | refine X.pass_ret ?_ | refine X.pass_exit ?_ | refine X.block_normal ?_ | refine X.block_ret ?_ | refine X.block_exit ?_ | refine C.zt ?_ | refine C.zf ?_ | refine X.zo ?_)
          obtain ⟨rg, hrg⟩ : ∃ x : Rw, x = ⟨0, r.p ++ List.replicate 70 v, bg, obg, cx2⟩ := ⟨_, rfl⟩
          obtain ⟨rd, hrd⟩ : ∃ x : Rw, x = ⟨0, r.p, r.b, ob, r.c⟩ := ⟨_, rfl⟩
          have hlen : (lg ++ [rg]).length = lg.length + 1 := by rw [List.length_append]; rfl
          refine R.app (xs := lws lg) (news := lws [rg]) ttok (fun c => tbL (lg ++ [rg]) c) rfl rfl (dstLs rfl) (SrcA.cells rfl (by rw [hrg]; show _ = [AV.raw _]; rfl)) (asLs _ _ _ (lws_app _ _).symm) rfl rfl rfl rfl rfl rfl (by decide) (lws_one _) rfl rfl (by kernel_rfl) hcg (by show (lg.length + 1) * 24 ≤ _; omega) (by omega) fun cN hcN hcN2 => ?_
          rw [← hlen] at hcN ⊢
          repeat (first | refine C.seq ?_ | refine C.region ?_ | refine R.zb ttok ?_ | refine R.zu ttok ?_ | refine R.zc ttok ?_ | refine R.za ttok ?_ | refine R.zx ?_ | refine R.zl ttok ?_ | refine R.zs ttok ?_ | refine R.z ttok ?_ | refine R.zk ?_ | refine R.zn ?_ | refine R.done ?_ | refine X.then ?_ | refine C.block ?_ | refine C.ret ?_ | refine C.skip ?_ | refine C.exit ?_ | refine X.pass_ret ?_ | refine X.pass_exit ?_ | refine X.block_normal ?_ | refine X.block_ret ?_ | refine X.block_exit ?_ | refine C.zt ?_ | refine C.zf ?_ | refine X.zo ?_)
          refine X.unpin (E := ⟨[roBo o1 d, roBo o2 q].length, ρ⟩) (by show 2 ≤ 10; omega) (fun l hl => hρ1 l hl) ?_
          have hOI2 := hOI.snoc rd rg (by rw [hrd]; exact hob.pre) (by rw [hrg]; exact hobg.ro) (by rw [hrd]; exact sb) (by rw [hrd]; exact hmi) (by rw [hrg, hv]; show r.p ++ _ = _; rw [hmi]; rfl)
          refine X.backG [(8, 12)] (i + 1, dn ++ [rd], lg ++ [rg], cN) ⟨by show i + 1 ≤ 9; omega, hOI2, hcN2⟩ (by show 9 - (i + 1) < 9 - i; omega) rfl (by repeat (first | exact HasT.nil | refine HasT.cons rfl rfl rfl ?_)) (by repeat (first | exact HasH.nil | refine HasH.same rfl rfl rfl trivial ?_ | refine HasH.same rfl rfl rfl rfl ?_ | refine HasH.same rfl rfl rfl (fun _ _ => rfl) ?_ | refine HasH.ros rfl rfl ?_)) rfl fun w hf => ?_
          have hmem : ∀ x ∈ factsW false ((dn ++ [rd]) ++ (lg ++ [rg])), x ∈ (⟨false, r.b, ob⟩ :: ⟨false, bg, obg⟩ :: factsW false (dn ++ lg) : Fam) := fun x hx => by
            obtain ⟨y, hy, rfl⟩ := List.mem_map.1 hx
            simp only [List.mem_append, List.mem_singleton] at hy
            rcases hy with (hy | rfl) | (hy | rfl)
            · exact List.mem_cons_of_mem _ <| List.mem_cons_of_mem _ (List.mem_map.2 ⟨y, List.mem_append_left _ hy, rfl⟩)
            · rw [hrd]; exact List.mem_cons_self
            · exact List.mem_cons_of_mem _ <| List.mem_cons_of_mem _ (List.mem_map.2 ⟨y, List.mem_append_right _ hy, rfl⟩)
            · rw [hrg]; exact List.mem_cons_of_mem _ List.mem_cons_self
          have hf : FF [roBo o1 d, roBo o2 q] _ _ [] ((⟨false, r.b, ob⟩ :: ⟨false, bg, obg⟩ :: factsW false (dn ++ lg)) ++ factsW true (rs2.drop (i + 1))) w := hf
          exact hf.less (fun x hx => by
            rcases List.mem_append.1 hx with hx | hx
            · exact List.mem_append.2 (.inl (hmem x hx))
            · exact List.mem_append.2 (.inr hx)) (apf_join (factsW_ro _) hmem hf.ap)
    rw [decide_eq_false hlt4]
    obtain rfl : i = 9 := by omega
    obtain ⟨fz, hfz⟩ : ∃ fz, factsW false (dn ++ lg) ++ factsW true (rs2.drop 9) = fz := ⟨_, rfl⟩
    rw [hfz]
    have hml : ∀ r ∈ dn ++ lg, r.factW false ∈ fz := fun r hr => by rw [← hfz]; exact List.mem_append_left _ (List.mem_map.2 ⟨r, hr, rfl⟩)
    repeat (first | refine C.seq ?_ | refine C.region ?_ | refine R.zb ttok ?_ | refine R.zu ttok ?_ | refine R.zc ttok ?_ | refine R.za ttok ?_ | refine R.zx ?_ | refine R.zl ttok ?_ | refine R.zs ttok ?_ | refine R.z ttok ?_ | refine R.zk ?_ | refine R.zn ?_ | refine R.done ?_ | refine X.then ?_ | refine C.block ?_ | refine C.ret ?_ | refine C.skip ?_ | refine C.exit ?_ | refine X.pass_ret ?_ | refine X.pass_exit ?_ | refine X.block_normal ?_ | refine X.block_ret ?_ | refine X.block_exit ?_ | refine C.zt ?_ | refine C.zf ?_ | refine X.zo ?_)
    refine C.loop (σ := Nat) (L2 := 9) (fun i => i ≤ 9) (fun i => [(5, .sl 5 1 0 rs.length cr), (8, .sl 4 1 0 Y.length cl), (19, .sl 7 1 0 Y.length cw), (22, .sl 8 1 0 lg.length cg), (26, .raw (.int .i64 (i : Nat)))])
      (fun _ => [(0, roBo o1 d), (1, roBo o2 q), (4, .bytes Y cl 5), (5, tbL rs cr), (7, .bytes Y cw 5), (8, tbL lg cg)]) _ (fun i => 9 - i) [] 0 (by omega) rfl (by repeat (first | exact HasT.nil | refine HasT.cons rfl rfl rfl ?_)) (by repeat (first | exact HasH.nil | refine HasH.same rfl rfl rfl trivial ?_ | refine HasH.same rfl rfl rfl rfl ?_ | refine HasH.same rfl rfl rfl (fun _ _ => rfl) ?_ | refine HasH.ros rfl rfl ?_)) rfl (fun _ h => h) ?_
    rintro i hi5
    repeat (first | refine C.seq ?_ | refine C.region ?_ | refine R.zb ttok ?_ | refine R.zu ttok ?_ | refine R.zc ttok ?_ | refine R.za ttok ?_ | refine R.zx ?_ | refine R.zl ttok ?_ | refine R.zs ttok ?_ | refine R.z ttok ?_ | refine R.zk ?_ | refine R.zn ?_ | refine R.done ?_ | refine X.then ?_ | refine C.block ?_ | refine C.ret ?_ | refine C.skip ?_ | refine C.exit ?_ | refine X.pass_ret ?_ | refine X.pass_exit ?_ | refine X.block_normal ?_ | refine X.block_ret ?_ | refine X.block_exit ?_ | refine C.zt ?_ | refine C.zf ?_ | refine X.zo ?_)
    by_cases hlt5 : (i : Int) < (rs.length : Nat)
    · rw [decide_eq_true hlt5]
      have hi9 : i < 9 := by omega
      have hir : i < rs.length := by omega
      have hig : i < lg.length := by omega
      have hid : i < dn.length := by omega
      obtain ⟨db, dp⟩ := hOI.dn i hi9
      have gp := hOI.lg i hi9
      have hdm : dn.getD i zR ∈ dn ++ lg := List.mem_append_left _ (rw_get hid)
      have hgm : lg.getD i zR ∈ dn ++ lg := List.mem_append_right _ (rw_get hig)
      obtain ⟨rd, hrd⟩ : ∃ r, dn.getD i zR = r := ⟨_, rfl⟩
      obtain ⟨rg, hrg⟩ : ∃ r, lg.getD i zR = r := ⟨_, rfl⟩
      rw [hrd] at db dp hdm
      rw [hrg] at gp hgm
      have hrb : (rs.getD i zR).p.length ≤ 300000 := by rw [hp i hir]; split <;> omega
      have hdl2 : rd.p.length = (rs.getD i zR).p.length := by rw [dp]; unfold ownM; rw [List.length_replicate]
      have hgl2 : rg.p.length = (rs.getD i zR).p.length + 70 := by rw [gp]; unfold ownM; simp
      repeat (first | refine C.seq ?_ | refine C.region ?_ | refine R.zb ttok ?_ | refine R.zu ttok ?_ | refine R.zc ttok ?_ | refine R.za ttok ?_ | refine R.zx ?_ | refine R.zl ttok ?_ | refine R.zs ttok ?_ | refine R.z ttok ?_ | refine R.zk ?_ | refine R.zn ?_ | refine R.done ?_ | refine X.then ?_ | refine C.block ?_ | refine C.ret ?_ | refine C.skip ?_ | refine C.exit ?_ | refine X.pass_ret ?_ | refine X.pass_exit ?_ | refine X.block_normal ?_ | refine X.block_ret ?_ | refine X.block_exit ?_ | refine C.zt ?_ | refine C.zf ?_ | refine X.zo ?_)
      refine C.loop (σ := Nat) (L2 := 9) (fun k => k ≤ rg.p.length) (fun k => [(5, .sl 5 1 0 rs.length cr), (8, .sl 4 1 0 Y.length cl), (19, .sl 7 1 0 Y.length cw), (22, .sl 8 1 0 lg.length cg), (26, .raw (.int .i64 (i : Nat))), (27, .raw (.int .i64 (k : Nat)))])
        (fun _ => [(0, roBo o1 d), (1, roBo o2 q), (4, .bytes Y cl 5), (5, tbL rs cr), (7, .bytes Y cw 5), (8, tbL lg cg)]) _ (fun k => rg.p.length - k) [] 0 (Nat.zero_le _) rfl (by repeat (first | exact HasT.nil | refine HasT.cons rfl rfl rfl ?_)) (by repeat (first | exact HasH.nil | refine HasH.same rfl rfl rfl trivial ?_ | refine HasH.same rfl rfl rfl rfl ?_ | refine HasH.same rfl rfl rfl (fun _ _ => rfl) ?_ | refine HasH.ros rfl rfl ?_)) rfl (fun _ h => h) ?_
      rintro k hk
      repeat (first | refine C.seq ?_ | refine C.region ?_ | refine R.zb ttok ?_ | refine R.zu ttok ?_ | refine R.zc ttok ?_ | refine R.za ttok ?_ | refine R.zx ?_ | refine R.zl ttok ?_ | refine R.zs ttok ?_ | refine R.z ttok ?_ | refine R.zk ?_ | refine R.zn ?_ | refine R.done ?_ | refine X.then ?_ | refine C.block ?_ | refine C.ret ?_ | refine C.skip ?_ | refine C.exit ?_ | refine X.pass_ret ?_ | refine X.pass_exit ?_ | refine X.block_normal ?_ | refine X.block_ret ?_ | refine X.block_exit ?_ | refine C.zt ?_ | refine C.zf ?_ | refine X.zo ?_)
      refine R.ix ttok i rfl rfl rfl rfl rfl (by kernel_rfl) rfl hig (by show _ < _; omega) rfl ?_
      rw [Nat.zero_add i]
      refine R.ldt (v := .raw (.slice (some ⟨(lg.getD i zR).b, 0, none⟩) (lg.getD i zR).p.length (lg.getD i zR).c)) ttok rfl rfl rfl rfl rfl (by kernel_rfl) hig ?_
      rw [hrg]
      repeat (first | refine C.seq ?_ | refine C.region ?_ | refine R.zb ttok ?_ | refine R.zu ttok ?_ | refine R.zc ttok ?_ | refine R.za ttok ?_ | refine R.zx ?_ | refine R.zl ttok ?_ | refine R.zs ttok ?_ | refine R.z ttok ?_ | refine R.zk ?_ | refine R.zn ?_ | refine R.done ?_ | refine X.then ?_ | refine C.block ?_ | refine C.ret ?_ | refine C.skip ?_ | refine C.exit ?_ | refine X.pass_ret ?_ | refine X.pass_exit ?_ | refine X.block_normal ?_ | refine X.block_ret ?_ | refine X.block_exit ?_ | refine C.zt ?_ | refine C.zf ?_ | refine X.zo ?_)
      by_cases hkg : (k : Int) < (rg.p.length : Nat)
      · rw [decide_eq_true hkg]
        have hkg' : k < rg.p.length := by omega
        repeat (first | refine C.seq ?_ | refine C.region ?_ | refine R.zb ttok ?_ | refine R.zu ttok ?_ | refine R.zc ttok ?_ | refine R.za ttok ?_ | refine R.zx ?_ | refine R.zl ttok ?_ | refine R.zs ttok ?_ | refine R.z ttok ?_ | refine R.zk ?_ | refine R.zn ?_ | refine R.done ?_ | refine X.then ?_ | refine C.block ?_ | refine C.ret ?_ | refine C.skip ?_ | refine C.exit ?_ | refine X.pass_ret ?_ | refine X.pass_exit ?_ | refine X.block_normal ?_ | refine X.block_ret ?_ | refine X.block_exit ?_ | refine C.zt ?_ | refine C.zf ?_ | refine X.zo ?_)
        refine R.ix ttok i rfl rfl rfl rfl rfl (by kernel_rfl) rfl hir (by show _ < _; omega) rfl ?_
        rw [Nat.zero_add i]
        refine R.ldt (v := .raw (.slice (some ⟨(rs.getD i zR).b, 0, none⟩) (rs.getD i zR).p.length (rs.getD i zR).c)) ttok rfl rfl rfl rfl rfl (by kernel_rfl) hir ?_
        repeat (first | refine C.seq ?_ | refine C.region ?_ | refine R.zb ttok ?_ | refine R.zu ttok ?_ | refine R.zc ttok ?_ | refine R.za ttok ?_ | refine R.zx ?_ | refine R.zl ttok ?_ | refine R.zs ttok ?_ | refine R.z ttok ?_ | refine R.zk ?_ | refine R.zn ?_ | refine R.done ?_ | refine X.then ?_ | refine C.block ?_ | refine C.ret ?_ | refine C.skip ?_ | refine C.exit ?_ | refine X.pass_ret ?_ | refine X.pass_exit ?_ | refine X.block_normal ?_ | refine X.block_ret ?_ | refine X.block_exit ?_ | refine C.zt ?_ | refine C.zf ?_ | refine X.zo ?_)
        by_cases hmk2 : (((rs.getD i zR).p.length : Nat) : Int) ≤ (k : Nat)
        · have hA : ((rg.p.getD k 0).toNat : Int) = 100 + (i : Nat) := by
            rw [gp, List.getD_eq_getElem?_getD, List.getElem?_append_right (by unfold ownM; rw [List.length_replicate]; omega), List.getElem?_replicate]
            rw [if_pos (by unfold ownM; rw [List.length_replicate]; omega)]
            show ((UInt8.ofNat (100 + i)).toNat : Int) = _
            rw [UInt8.toNat_ofNat']
            omega
          rw [decide_eq_true hmk2]
          repeat (first | refine C.seq ?_ | refine C.region ?_ | refine R.zb ttok ?_ | refine R.zu ttok ?_ | refine R.zc ttok ?_ | refine R.za ttok ?_ | refine R.zx ?_ | refine R.zl ttok ?_ | refine R.zs ttok ?_ | refine R.z ttok ?_ | refine R.zk ?_ | refine R.zn ?_ | refine R.done ?_ | refine X.then ?_ | refine C.block ?_ | refine C.ret ?_ | refine C.skip ?_ | refine C.exit ?_ | refine X.pass_ret ?_ | refine X.pass_exit ?_ | refine X.block_normal ?_ | refine X.block_ret ?_ | refine X.block_exit ?_ | refine C.zt ?_ | refine C.zf ?_ | refine X.zo ?_)
          refine R.ix ttok i rfl rfl rfl rfl rfl (by kernel_rfl) rfl hig (by show _ < _; omega) rfl ?_
          rw [Nat.zero_add i]
          refine R.ldt (v := .raw (.slice (some ⟨(lg.getD i zR).b, 0, none⟩) (lg.getD i zR).p.length (lg.getD i zR).c)) ttok rfl rfl rfl rfl rfl (by kernel_rfl) hig ?_
          rw [hrg]
          refine R.lab (rg.factW false) (hml _ hgm) 221 (.sl 9 1 0 rg.p.length rg.c) rfl rfl (fun ρ h => by have h : ρ 9 = some rg.b := h; simp [AV.conc, h]) (by simp [AV.bd, Nat.ble_eq]) (hOI.ro _ hgm) (bytesF_bd _ _) ?_
          repeat (first | refine R.zb ttok ?_ | refine R.zu ttok ?_ | refine R.zc ttok ?_ | refine R.za ttok ?_ | refine R.zx ?_ | refine R.zl ttok ?_ | refine R.zs ttok ?_ | refine R.z ttok ?_ | refine R.zk ?_ | refine R.zn ?_)
          refine R.ix ttok k rfl rfl rfl rfl rfl (by kernel_rfl) rfl hkg' (by show _ ≤ _ ∧ _ < _; omega) rfl ?_
          repeat (first | refine R.zb ttok ?_ | refine R.zu ttok ?_ | refine R.zc ttok ?_ | refine R.za ttok ?_ | refine R.zx ?_ | refine R.zl ttok ?_ | refine R.zs ttok ?_ | refine R.z ttok ?_ | refine R.zk ?_ | refine R.zn ?_)
          refine R.ldo (v := .raw (byteV (rg.p.getD k 0))) ttok rfl rfl rfl rfl rfl (by kernel_rfl) hkg' ?_
          repeat (first | refine R.zb ttok ?_ | refine R.zu ttok ?_ | refine R.zc ttok ?_ | refine R.za ttok ?_ | refine R.zx ?_ | refine R.zl ttok ?_ | refine R.zs ttok ?_ | refine R.z ttok ?_ | refine R.zk ?_ | refine R.zn ?_)
          rw [decide_eq_false (show ¬ ((rg.p.getD k 0).toNat : Int) ≠ 100 + (i : Nat) from fun h => h hA)]
          repeat (first | refine R.zb ttok ?_ | refine R.zu ttok ?_ | refine R.zc ttok ?_ | refine R.za ttok ?_ | refine R.zx ?_ | refine R.zl ttok ?_ | refine R.zs ttok ?_ | refine R.z ttok ?_ | refine R.zk ?_ | refine R.zn ?_)
          refine R.ix ttok i rfl rfl rfl rfl rfl (by kernel_rfl) rfl hir (by show _ < _; omega) rfl ?_
          rw [Nat.zero_add i]
          refine R.ldt (v := .raw (.slice (some ⟨(rs.getD i zR).b, 0, none⟩) (rs.getD i zR).p.length (rs.getD i zR).c)) ttok rfl rfl rfl rfl rfl (by kernel_rfl) hir ?_
          repeat (first | refine R.zb ttok ?_ | refine R.zu ttok ?_ | refine R.zc ttok ?_ | refine R.za ttok ?_ | refine R.zx ?_ | refine R.zl ttok ?_ | refine R.zs ttok ?_ | refine R.z ttok ?_ | refine R.zk ?_ | refine R.zn ?_)
          rw [decide_eq_false (show ¬ (k : Int) < (((rs.getD i zR).p.length : Nat) : Int) by omega)]
          repeat (first | refine C.seq ?_ | refine C.region ?_ | refine R.zb ttok ?_ | refine R.zu ttok ?_ | refine R.zc ttok ?_ | refine R.za ttok ?_ | refine R.zx ?_ | refine R.zl ttok ?_ | refine R.zs ttok ?_ | refine R.z ttok ?_ | refine R.zk ?_ | refine R.zn ?_ | refine R.done ?_ | refine X.then ?_ | refine C.block ?_ | refine C.ret ?_ | refine C.skip ?_ | refine C.exit ?_ | refine X.pass_ret ?_ | refine X.pass_exit ?_ | refine X.block_normal ?_ | refine X.block_ret ?_ | refine X.block_exit ?_ | refine C.zt ?_ | refine C.zf ?_ | refine X.zo ?_)
          exact X.back [] (k + 1) (by omega) (by omega) rfl (by repeat (first | exact HasT.nil | refine HasT.cons rfl rfl rfl ?_)) (by repeat (first | exact HasH.nil | refine HasH.same rfl rfl rfl trivial ?_ | refine HasH.same rfl rfl rfl rfl ?_ | refine HasH.same rfl rfl rfl (fun _ _ => rfl) ?_ | refine HasH.ros rfl rfl ?_)) rfl (fun _ h => h)
        · have hk3 : k < (rs.getD i zR).p.length := by omega
          have hB : ((rd.p.getD k 0).toNat : Int) = 10 + (i : Nat) := by
            rw [dp]
            unfold ownM
            rw [List.getD_eq_getElem?_getD, List.getElem?_replicate, if_pos hk3]
            show ((UInt8.ofNat (10 + i)).toNat : Int) = _
            rw [UInt8.toNat_ofNat']
            omega
          have hA : ((rg.p.getD k 0).toNat : Int) = 10 + (i : Nat) := by
            rw [← hB, gp, dp, List.getD_eq_getElem?_getD, List.getElem?_append_left (by unfold ownM; rw [List.length_replicate]; exact hk3), ← List.getD_eq_getElem?_getD]
          rw [decide_eq_false hmk2]
          repeat (first | refine C.seq ?_ | refine C.region ?_ | refine R.zb ttok ?_ | refine R.zu ttok ?_ | refine R.zc ttok ?_ | refine R.za ttok ?_ | refine R.zx ?_ | refine R.zl ttok ?_ | refine R.zs ttok ?_ | refine R.z ttok ?_ | refine R.zk ?_ | refine R.zn ?_ | refine R.done ?_ | refine X.then ?_ | refine C.block ?_ | refine C.ret ?_ | refine C.skip ?_ | refine C.exit ?_ | refine X.pass_ret ?_ | refine X.pass_exit ?_ | refine X.block_normal ?_ | refine X.block_ret ?_ | refine X.block_exit ?_ | refine C.zt ?_ | refine C.zf ?_ | refine X.zo ?_)
          refine R.ix ttok i rfl rfl rfl rfl rfl (by kernel_rfl) rfl hig (by show _ < _; omega) rfl ?_
          rw [Nat.zero_add i]
          refine R.ldt (v := .raw (.slice (some ⟨(lg.getD i zR).b, 0, none⟩) (lg.getD i zR).p.length (lg.getD i zR).c)) ttok rfl rfl rfl rfl rfl (by kernel_rfl) hig ?_
          rw [hrg]
          refine R.lab (rg.factW false) (hml _ hgm) 221 (.sl 9 1 0 rg.p.length rg.c) rfl rfl (fun ρ h => by have h : ρ 9 = some rg.b := h; simp [AV.conc, h]) (by simp [AV.bd, Nat.ble_eq]) (hOI.ro _ hgm) (bytesF_bd _ _) ?_
          repeat (first | refine R.zb ttok ?_ | refine R.zu ttok ?_ | refine R.zc ttok ?_ | refine R.za ttok ?_ | refine R.zx ?_ | refine R.zl ttok ?_ | refine R.zs ttok ?_ | refine R.z ttok ?_ | refine R.zk ?_ | refine R.zn ?_)
          refine R.ix ttok k rfl rfl rfl rfl rfl (by kernel_rfl) rfl hkg' (by show _ ≤ _ ∧ _ < _; omega) rfl ?_
          repeat (first | refine R.zb ttok ?_ | refine R.zu ttok ?_ | refine R.zc ttok ?_ | refine R.za ttok ?_ | refine R.zx ?_ | refine R.zl ttok ?_ | refine R.zs ttok ?_ | refine R.z ttok ?_ | refine R.zk ?_ | refine R.zn ?_)
          refine R.ldo (v := .raw (byteV (rg.p.getD k 0))) ttok rfl rfl rfl rfl rfl (by kernel_rfl) hkg' ?_
          repeat (first | refine R.zb ttok ?_ | refine R.zu ttok ?_ | refine R.zc ttok ?_ | refine R.za ttok ?_ | refine R.zx ?_ | refine R.zl ttok ?_ | refine R.zs ttok ?_ | refine R.z ttok ?_ | refine R.zk ?_ | refine R.zn ?_)
          rw [decide_eq_false (show ¬ ((rg.p.getD k 0).toNat : Int) ≠ 10 + (i : Nat) from fun h => h hA)]
          repeat (first | refine R.zb ttok ?_ | refine R.zu ttok ?_ | refine R.zc ttok ?_ | refine R.za ttok ?_ | refine R.zx ?_ | refine R.zl ttok ?_ | refine R.zs ttok ?_ | refine R.z ttok ?_ | refine R.zk ?_ | refine R.zn ?_)
          refine R.ix ttok i rfl rfl rfl rfl rfl (by kernel_rfl) rfl hir (by show _ < _; omega) rfl ?_
          rw [Nat.zero_add i]
          refine R.ldt (v := .raw (.slice (some ⟨(rs.getD i zR).b, 0, none⟩) (rs.getD i zR).p.length (rs.getD i zR).c)) ttok rfl rfl rfl rfl rfl (by kernel_rfl) hir ?_
          repeat (first | refine R.zb ttok ?_ | refine R.zu ttok ?_ | refine R.zc ttok ?_ | refine R.za ttok ?_ | refine R.zx ?_ | refine R.zl ttok ?_ | refine R.zs ttok ?_ | refine R.z ttok ?_ | refine R.zk ?_ | refine R.zn ?_)
          rw [decide_eq_true (show (k : Int) < (((rs.getD i zR).p.length : Nat) : Int) by omega)]
          repeat (first | refine R.zb ttok ?_ | refine R.zu ttok ?_ | refine R.zc ttok ?_ | refine R.za ttok ?_ | refine R.zx ?_ | refine R.zl ttok ?_ | refine R.zs ttok ?_ | refine R.z ttok ?_ | refine R.zk ?_ | refine R.zn ?_)
          refine R.ix ttok i rfl rfl rfl rfl rfl (by kernel_rfl) rfl hir (by show _ < _; omega) rfl ?_
          rw [Nat.zero_add i]
          refine R.ldt (v := .raw (.slice (some ⟨(rs.getD i zR).b, 0, none⟩) (rs.getD i zR).p.length (rs.getD i zR).c)) ttok rfl rfl rfl rfl rfl (by kernel_rfl) hir ?_
          rw [← db, ← hdl2]
          refine R.lab (rd.factW false) (hml _ hdm) 239 (.sl 10 1 0 rd.p.length (rs.getD i zR).c) rfl rfl (fun ρ h => by have h : ρ 10 = some rd.b := h; simp [AV.conc, h]) (by simp [AV.bd, Nat.ble_eq]) (hOI.ro _ hdm) (bytesF_bd _ _) ?_
          repeat (first | refine R.zb ttok ?_ | refine R.zu ttok ?_ | refine R.zc ttok ?_ | refine R.za ttok ?_ | refine R.zx ?_ | refine R.zl ttok ?_ | refine R.zs ttok ?_ | refine R.z ttok ?_ | refine R.zk ?_ | refine R.zn ?_)
          refine R.ix ttok k rfl rfl rfl rfl rfl (by kernel_rfl) rfl (by omega) (by show _ ≤ _ ∧ _ < _; omega) rfl ?_
          repeat (first | refine R.zb ttok ?_ | refine R.zu ttok ?_ | refine R.zc ttok ?_ | refine R.za ttok ?_ | refine R.zx ?_ | refine R.zl ttok ?_ | refine R.zs ttok ?_ | refine R.z ttok ?_ | refine R.zk ?_ | refine R.zn ?_)
          refine R.ldo (v := .raw (byteV (rd.p.getD k 0))) ttok rfl rfl rfl rfl rfl (by kernel_rfl) (by omega) ?_
          repeat (first | refine R.zb ttok ?_ | refine R.zu ttok ?_ | refine R.zc ttok ?_ | refine R.za ttok ?_ | refine R.zx ?_ | refine R.zl ttok ?_ | refine R.zs ttok ?_ | refine R.z ttok ?_ | refine R.zk ?_ | refine R.zn ?_)
          rw [decide_eq_false (show ¬ ((rd.p.getD k 0).toNat : Int) ≠ 10 + (i : Nat) from fun h => h hB)]
          repeat (first | refine C.seq ?_ | refine C.region ?_ | refine R.zb ttok ?_ | refine R.zu ttok ?_ | refine R.zc ttok ?_ | refine R.za ttok ?_ | refine R.zx ?_ | refine R.zl ttok ?_ | refine R.zs ttok ?_ | refine R.z ttok ?_ | refine R.zk ?_ | refine R.zn ?_ | refine R.done ?_ | refine X.then ?_ | refine C.block ?_ | refine C.ret ?_ | refine C.skip ?_ | refine C.exit ?_ | refine X.pass_ret ?_ | refine X.pass_exit ?_ | refine X.block_normal ?_ | refine X.block_ret ?_ | refine X.block_exit ?_ | refine C.zt ?_ | refine C.zf ?_ | refine X.zo ?_)
          exact X.back [] (k + 1) (by omega) (by omega) rfl (by repeat (first | exact HasT.nil | refine HasT.cons rfl rfl rfl ?_)) (by repeat (first | exact HasH.nil | refine HasH.same rfl rfl rfl trivial ?_ | refine HasH.same rfl rfl rfl rfl ?_ | refine HasH.same rfl rfl rfl (fun _ _ => rfl) ?_ | refine HasH.ros rfl rfl ?_)) rfl (fun _ h => h)
      · rw [decide_eq_false hkg]
        repeat (first | refine C.seq ?_ | refine C.region ?_ | refine R.zb ttok ?_ | refine R.zu ttok ?_ | refine R.zc ttok ?_ | refine R.za ttok ?_ | refine R.zx ?_ | refine R.zl ttok ?_ | refine R.zs ttok ?_ | refine R.z ttok ?_ | refine R.zk ?_ | refine R.zn ?_ | refine R.done ?_ | refine X.then ?_ | refine C.block ?_ | refine C.ret ?_ | refine C.skip ?_ | refine C.exit ?_ | refine X.pass_ret ?_ | refine X.pass_exit ?_ | refine X.block_normal ?_ | refine X.block_ret ?_ | refine X.block_exit ?_ | refine C.zt ?_ | refine C.zf ?_ | refine X.zo ?_)
        exact X.back [] (i + 1) (by omega) (by omega) rfl (by repeat (first | exact HasT.nil | refine HasT.cons rfl rfl rfl ?_)) (by repeat (first | exact HasH.nil | refine HasH.same rfl rfl rfl trivial ?_ | refine HasH.same rfl rfl rfl rfl ?_ | refine HasH.same rfl rfl rfl (fun _ _ => rfl) ?_ | refine HasH.ros rfl rfl ?_)) rfl (fun _ h => h)
    · rw [decide_eq_false hlt5]
      repeat (first | refine C.seq ?_ | refine C.region ?_ | refine R.zb ttok ?_ | refine R.zu ttok ?_ | refine R.zc ttok ?_ | refine R.za ttok ?_ | refine R.zx ?_ | refine R.zl ttok ?_ | refine R.zs ttok ?_ | refine R.z ttok ?_ | refine R.zk ?_ | refine R.zn ?_ | refine R.done ?_ | refine X.then ?_ | refine C.block ?_ | refine C.ret ?_ | refine C.skip ?_ | refine C.exit ?_ | refine X.pass_ret ?_ | refine X.pass_exit ?_ | refine X.block_normal ?_ | refine X.block_ret ?_ | refine X.block_exit ?_ | refine C.zt ?_ | refine C.zf ?_ | refine X.zo ?_)
      refine R.cl [4, 7] (same_spec 0 0 cl cw Y Y (by omega)) Try.call14 (by repeat (first | exact HasIn.nil | refine HasIn.same rfl rfl ?_ | refine HasIn.bro rfl ?_ | refine HasIn.ror rfl ?_ | refine HasIn.cro rfl rfl ?_)) rfl rfl rfl (fun _ => rfl) rfl (by kernel_rfl) fun _ _ => ?_
      rw [decide_eq_true (rfl : Y = Y)]
      repeat (first | refine C.seq ?_ | refine C.region ?_ | refine R.zb ttok ?_ | refine R.zu ttok ?_ | refine R.zc ttok ?_ | refine R.za ttok ?_ | refine R.zx ?_ | refine R.zl ttok ?_ | refine R.zs ttok ?_ | refine R.z ttok ?_ | refine R.zk ?_ | refine R.zn ?_ | refine R.done ?_ | refine X.then ?_ | refine C.block ?_ | refine C.ret ?_ | refine C.skip ?_ | refine C.exit ?_ | refine X.pass_ret ?_ | refine X.pass_exit ?_ | refine X.block_normal ?_ | refine X.block_ret ?_ | refine X.block_exit ?_ | refine C.zt ?_ | refine C.zf ?_ | refine X.zo ?_)
      refine R.cl [] (known_spec) Try.call17 (by repeat (first | exact HasIn.nil | refine HasIn.same rfl rfl ?_ | refine HasIn.bro rfl ?_ | refine HasIn.ror rfl ?_ | refine HasIn.cro rfl rfl ?_)) rfl rfl rfl (fun _ => rfl) rfl (by kernel_rfl) fun _ _ => ?_
      repeat (first | refine C.seq ?_ | refine C.region ?_ | refine R.zb ttok ?_ | refine R.zu ttok ?_ | refine R.zc ttok ?_ | refine R.za ttok ?_ | refine R.zx ?_ | refine R.zl ttok ?_ | refine R.zs ttok ?_ | refine R.z ttok ?_ | refine R.zk ?_ | refine R.zn ?_ | refine R.done ?_ | refine X.then ?_ | refine C.block ?_ | refine C.ret ?_ | refine C.skip ?_ | refine C.exit ?_ | refine X.pass_ret ?_ | refine X.pass_exit ?_ | refine X.block_normal ?_ | refine X.block_ret ?_ | refine X.block_exit ?_ | refine C.zt ?_ | refine C.zf ?_ | refine X.zo ?_)
      refine X.finS ttok () [] trivial rfl rfl rfl (by repeat (first | exact HasH.nil | refine HasH.same rfl rfl rfl trivial ?_ | refine HasH.same rfl rfl rfl rfl ?_ | refine HasH.same rfl rfl rfl (fun _ _ => rfl) ?_ | refine HasH.ros rfl rfl ?_)) _ (by first | exact .inl rfl | exact .inr rfl)
end Go.Proofs.Ytggnjgnjgnlchaa
