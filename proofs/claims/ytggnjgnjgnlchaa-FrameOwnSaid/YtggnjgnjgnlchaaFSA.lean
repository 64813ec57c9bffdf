/- frame: XFS1 .. XFS6 in one: rows without labels, Scan, FrameScans -/
import Derived.Test.YtggnjgnjgnlchaaFG
import Derived.Test.YtggnjgnjgnlchaaK38
import Derived.Test.YtggnjgnjgnlchaaFE
/- frame: rows of frames whose bodies lie in blocks without labels; the document's Scan and Whole -/
namespace Go.Proofs.Ytggnjgnjgnlchaa
set_option linter.unusedVariables false
set_option linter.unusedSimpArgs false
open Go.RowKit
set_option maxRecDepth 100000
set_option maxHeartbeats 4000000
/-- a row: its place, its body, where the body lies -/
structure Rw where
  a : Nat
  p : List UInt8
  b : Nat
  ob : Obj
  c : Nat
def zR : Rw := ⟨0, [], 0, .cells #[] 0 (0, 0), 0⟩
def Rw.av (r : Rw) : List AV := [.raw (.int .i64 (r.a : Nat)), .raw (.slice (some ⟨r.b, 0, none⟩) r.p.length r.c)]
def Rw.fact (r : Rw) : Fact := ⟨false, r.b, r.ob⟩
def Rw.ok (r : Rw) : Prop := Is r.b r.ob (.bytes r.p r.c 5)
def Rw.key (r : Rw) : Nat × List UInt8 := (r.a, r.p)
def rwF (rs : List Rw) (i : Nat) : List AV := (rs.getD i zR).av
abbrev rkeys (rs : List Rw) : List (Nat × List UInt8) := rs.map Rw.key
def facts (rs : List Rw) : Fam := rs.map Rw.fact
theorem facts_ro (rs : List Rw) : ∀ p ∈ facts rs, p.rw = false := fun p hp => by
  obtain ⟨r, _, rfl⟩ := List.mem_map.1 hp; rfl
theorem facts_app (a b : List Rw) : facts (a ++ b) = facts a ++ facts b := List.map_append
def rws (l : List Rw) : List AV := l.flatMap Rw.av
theorem rws_app (a b : List Rw) : rws (a ++ b) = rws a ++ rws b := List.flatMap_append
theorem flat_rw (l : List Rw) : ∀ m off, off + m ≤ l.length → flat (fun i => rwF l (off + i)) m = rws ((l.drop off).take m)
  | 0, off, _ => by simp [flat, rws]
  | m + 1, off, h => by
    rw [flat, flat_rw l m off (by omega), List.take_add_one, rws_app]
    congr 1
    have : (l.drop off)[m]? = some (l[off + m]'(by omega)) := by rw [List.getElem?_drop, List.getElem?_eq_getElem]
    rw [this]
    simp [rws, rwF, List.getD, show off + m < l.length by omega]
theorem flat_rw0 (l : List Rw) : flat (rwF l) l.length = rws l := by
  have := flat_rw l l.length 0 (by omega)
  simpa using this
abbrev tbR (l : List Rw) (c : Nat) : AO := .tab 2 l.length c (rwF l) 42
section
variable {E : Base} {n L : Nat} {τ : List (Nat × AV)} {h : List (Nat × AO)} {F : World → Prop}
theorem asRw (T : TypeId) (l : List Rw) (xs : List AV) (hx : xs = rws l) : AsRow (fun c => .tab 2 l.length c (rwF l) T) T 2 xs := by
  rw [hx, ← flat_rw0]
  exact AsRow.tab T (by decide) fun i _ => rfl
theorem dstRw {lab cap : Nat} {l : List Rw} {T : TypeId} (hl : hk lab h = some (.tab 2 l.length cap (rwF l) T)) : DstA E n L τ h F (.sl lab 2 0 l.length cap) T 2 l.length cap (rws l) [lab] := by
  have := DstA.tab (E := E) (n := n) (L := L) (τ := τ) (F := F) (by decide) hl fun i _ => rfl
  rwa [flat_rw0] at this
end
theorem scanK_le {p : List UInt8} {k : Nat} : k ≤ p.length → (scanK p k).length ≤ p.length - k := by
  refine frame_ind p (fun k => k ≤ p.length → (scanK p k).length ≤ p.length - k) (fun k x h hk => ?_) (fun k b e h ih hk => ?_) _ k (Nat.le_refl _)
  · rw [scanK_err h]; simp
  · have h1 := next_ok h
    rw [scanK_ok h]
    have := ih h1.2.1
    simp only [List.length_cons]
    omega
theorem rscan_spec (off c : Nat) (p : List UInt8) (hc : p.length ≤ c) (hl : p.length ≤ 1000000000) : SpecF Try.prog 19 [.sl 0 1 off p.length c] [roBo off p] 2 [] (σ := List Rw × Nat) (fun s => rkeys s.1 = scanK p 0 ∧ (∀ r ∈ s.1, r.ok) ∧ s.1.length ≤ s.2 ∧ s.2 ≤ 9223372036854775807)
    (fun s => .sl 1 2 0 s.1.length s.2) (fun s => [(1, tbR s.1 s.2)]) (fun s => facts s.1) := by
  refine SpecF.of Try.func19 rfl Try.ntmps19 rfl (by repeat (first | exact bdl_nil _ | refine bdl_cons (fun _ _ => rfl) ?_ | refine bdl_cons trivial ?_ | refine bdl_cons rfl ?_ | refine bdl_cons (rowsF_bd _ _ _ _) ?_ | refine bdl_cons (rowsS_bd _ _ _ _) ?_)) fun ρ w => ?_
  refine C.seq ?_
  refine C.region ?_
  repeat (first | refine R.zb ttok ?_ | refine R.zu ttok ?_ | refine R.zc ttok ?_ | refine R.za ttok ?_ | refine R.zx ?_ | refine R.zl ttok ?_ | refine R.zs ttok ?_ | refine R.z ttok ?_ | refine R.zk ?_ | refine R.zn ?_)
  refine R.done ?_
  refine X.then ?_
  refine C.seq ?_
  refine C.region ?_
  repeat (first | refine R.zb ttok ?_ | refine R.zu ttok ?_ | refine R.zc ttok ?_ | refine R.za ttok ?_ | refine R.zx ?_ | refine R.zl ttok ?_ | refine R.zs ttok ?_ | refine R.z ttok ?_ | refine R.zk ?_ | refine R.zn ?_)
  refine R.done ?_
  refine X.then ?_
  refine C.seq ?_
  refine C.region ?_
  repeat (first | refine R.zb ttok ?_ | refine R.zu ttok ?_ | refine R.zc ttok ?_ | refine R.za ttok ?_ | refine R.zx ?_ | refine R.zl ttok ?_ | refine R.zs ttok ?_ | refine R.z ttok ?_ | refine R.zk ?_ | refine R.zn ?_)
  refine R.done ?_
  refine X.then ?_
  refine C.noneT 3 (.sl 1 2 0 0 0) (.tab 2 0 0 (rwF []) 42) (none_tab _ _ _ _) rfl rfl rfl (fun ρ h => by have h : ρ 1 = none := h; simp [AV.conc, h]) ?_
  refine C.block ?_
  refine C.loopG (σ := List Rw × Nat × Nat) (L2 := 2) (fun s => s.2.1 ≤ p.length ∧ s.1.length ≤ s.2.1 ∧ rkeys s.1 ++ scanK p s.2.1 = scanK p 0 ∧ (∀ r ∈ s.1, r.ok) ∧ s.1.length ≤ s.2.2 ∧ s.2.2 ≤ 9223372036854775807)
    (fun s => [(0, .sl 0 1 off p.length c), (3, .sl 1 2 0 s.1.length s.2.2), (4, .raw (.int .i64 (s.2.1 : Nat)))]) (fun s => [(0, roBo off p), (1, tbR s.1 s.2.2)]) (fun s => FF [roBo off p] ρ w [] (facts s.1)) (fun s => p.length + 1 - s.2.1) [] ([], 0, 0) ⟨by simp, by simp, rfl, by simp, by simp, by simp⟩ rfl (by repeat (first | exact HasT.nil | refine HasT.cons rfl rfl rfl ?_)) (by repeat (first | exact HasH.nil | refine HasH.same rfl rfl rfl trivial ?_ | refine HasH.same rfl rfl rfl rfl ?_ | refine HasH.same rfl rfl rfl (fun _ _ => rfl) ?_ | refine HasH.ros rfl rfl ?_)) rfl (fun _ h => h) ?_
  rintro ⟨rs, k, cp⟩ ⟨hk, hrk, hkeys, hok, hrc, hcp⟩
  dsimp only at *
  repeat (first | refine C.seq ?_ | refine C.region ?_ | refine R.zb ttok ?_ | refine R.zu ttok ?_ | refine R.zc ttok ?_ | refine R.za ttok ?_ | refine R.zx ?_ | refine R.zl ttok ?_ | refine R.zs ttok ?_ | refine R.z ttok ?_ | refine R.zk ?_ | refine R.zn ?_ | refine R.done ?_ | refine X.then ?_ | refine C.block ?_ | refine C.ret ?_ | refine C.skip ?_ | refine C.exit ?_ | refine X.pass_ret ?_ | refine X.pass_exit ?_ | refine X.block_normal ?_ | refine X.block_ret ?_ | refine X.block_exit ?_ | refine C.zt ?_ | refine C.zf ?_ | refine X.zo ?_)
  refine R.cl [0] (rnexts_spec off c p (k : Nat) hc hl (by omega) (by omega)) Try.call18 (by repeat (first | exact HasIn.nil | refine HasIn.same rfl rfl ?_ | refine HasIn.bro rfl ?_ | refine HasIn.ror rfl ?_ | refine HasIn.cro rfl rfl ?_)) rfl rfl rfl (fun _ => rfl) rfl (by kernel_rfl) fun c2 hc2 => ?_
  rw [nextF_nat p k hk]
  cases hn : nextN p k with
  | error x =>
    have hx := next_err hn
    rw [show nxX (.error x) = (x : Int) from rfl]
    repeat (first | refine C.seq ?_ | refine C.region ?_ | refine R.zb ttok ?_ | refine R.zu ttok ?_ | refine R.zc ttok ?_ | refine R.za ttok ?_ | refine R.zx ?_ | refine R.zl ttok ?_ | refine R.zs ttok ?_ | refine R.z ttok ?_ | refine R.zk ?_ | refine R.zn ?_ | refine R.done ?_ | refine X.then ?_ | refine C.block ?_ | refine C.ret ?_ | refine C.skip ?_ | refine C.exit ?_ | refine X.pass_ret ?_ | refine X.pass_exit ?_ | refine X.block_normal ?_ | refine X.block_ret ?_ | refine X.block_exit ?_ | refine C.zt ?_ | refine C.zf ?_ | refine X.zo ?_)
    rw [decide_eq_true (show (x : Int) ≠ 0 by omega)]
    repeat (first | refine C.seq ?_ | refine C.region ?_ | refine R.zb ttok ?_ | refine R.zu ttok ?_ | refine R.zc ttok ?_ | refine R.za ttok ?_ | refine R.zx ?_ | refine R.zl ttok ?_ | refine R.zs ttok ?_ | refine R.z ttok ?_ | refine R.zk ?_ | refine R.zn ?_ | refine R.done ?_ | refine X.then ?_ | refine C.block ?_ | refine C.ret ?_ | refine C.skip ?_ | refine C.exit ?_ | refine X.pass_ret ?_ | refine X.pass_exit ?_ | refine X.block_normal ?_ | refine X.block_ret ?_ | refine X.block_exit ?_ | refine C.zt ?_ | refine C.zf ?_ | refine X.zo ?_)
    rw [scanK_err hn, List.append_nil] at hkeys
    refine X.finF ttok (rs, cp) [(1, 1)] ⟨hkeys, hok, hrc, hcp⟩ rfl rfl rfl (by repeat (first | exact HasH.nil | refine HasH.same rfl rfl rfl trivial ?_ | refine HasH.same rfl rfl rfl rfl ?_ | refine HasH.same rfl rfl rfl (fun _ _ => rfl) ?_ | refine HasH.ros rfl rfl ?_)) _ (by first | exact .inl rfl | exact .inr rfl) ?_ ?_ ?_
    · exact fun w hf => hf.ap
    · exact fun p hp => hp
    · exact fun p hp => by cases hp
  | ok r =>
    obtain ⟨b, e⟩ := r
    have h1 := next_ok hn
    rw [show nxX (.ok (b, e)) = 0 from rfl, show nxE (.ok (b, e)) = (e : Int) from rfl, show nxB (.ok (b, e)) = b from rfl]
    repeat (first | refine R.zb ttok ?_ | refine R.zu ttok ?_ | refine R.zc ttok ?_ | refine R.za ttok ?_ | refine R.zx ?_ | refine R.zl ttok ?_ | refine R.zs ttok ?_ | refine R.z ttok ?_ | refine R.zk ?_ | refine R.zn ?_)
    refine R.done ?_
    refine X.then ?_
    refine C.seq ?_
    refine C.seq ?_
    refine C.region ?_
    repeat (first | refine R.zb ttok ?_ | refine R.zu ttok ?_ | refine R.zc ttok ?_ | refine R.za ttok ?_ | refine R.zx ?_ | refine R.zl ttok ?_ | refine R.zs ttok ?_ | refine R.z ttok ?_ | refine R.zk ?_ | refine R.zn ?_)
    refine R.done ?_
    refine X.then ?_
    refine C.fls rfl ?_
    refine C.skip ?_
    refine X.then ?_
    refine C.seq ?_
    refine C.region ?_
    refine R.frzB false 5 2 (w1 := 1) rfl h1.2.2.1 rfl fun bb ob hob hne => ?_
    repeat (first | refine C.seq ?_ | refine C.region ?_ | refine R.zb ttok ?_ | refine R.zu ttok ?_ | refine R.zc ttok ?_ | refine R.za ttok ?_ | refine R.zx ?_ | refine R.zl ttok ?_ | refine R.zs ttok ?_ | refine R.z ttok ?_ | refine R.zk ?_ | refine R.zn ?_ | refine R.done ?_ | refine X.then ?_ | refine C.block ?_ | refine C.ret ?_ | refine C.skip ?_ | refine C.exit ?_ | refine X.pass_ret ?_ | refine X.pass_exit ?_ | refine X.block_normal ?_ | refine X.block_ret ?_ | refine X.block_exit ?_ | refine C.zt ?_ | refine C.zf ?_ | refine X.zo ?_)
    obtain ⟨r, hr⟩ : ∃ r : Rw, r = ⟨k, b, bb, ob, c2⟩ := ⟨_, rfl⟩
    have hlen : (rs ++ [r]).length = rs.length + 1 := by rw [List.length_append]; rfl
    refine R.app (xs := rws rs) (news := rws [r]) ttok (fun c => tbR (rs ++ [r]) c) rfl rfl (dstRw rfl) (SrcA.cells rfl (by rw [hr]; rfl)) (asRw _ _ _ (rws_app _ _).symm) rfl rfl rfl rfl rfl rfl (by decide) (by rw [hr]; rfl) (by rw [hr]; rfl) rfl (by kernel_rfl) hcp (by show (rs.length + 1) * 32 ≤ _; omega) (by omega) fun cA hA hA2 => ?_
    rw [← hlen] at hA ⊢
    repeat (first | refine C.seq ?_ | refine C.region ?_ | refine R.zb ttok ?_ | refine R.zu ttok ?_ | refine R.zc ttok ?_ | refine R.za ttok ?_ | refine R.zx ?_ | refine R.zl ttok ?_ | refine R.zs ttok ?_ | refine R.z ttok ?_ | refine R.zk ?_ | refine R.zn ?_ | refine R.done ?_ | refine X.then ?_ | refine C.block ?_ | refine C.ret ?_ | refine C.skip ?_ | refine C.exit ?_ | refine X.pass_ret ?_ | refine X.pass_exit ?_ | refine X.block_normal ?_ | refine X.block_ret ?_ | refine X.block_exit ?_ | refine C.zt ?_ | refine C.zf ?_ | refine X.zo ?_)
    refine X.backG [(1, 4)] (rs ++ [r], e, cA) ⟨h1.2.1, by rw [hlen]; show _ ≤ e; omega, ?_, ?_, hA, hA2⟩ (by show _ - e < _ - k; omega) rfl (by repeat (first | exact HasT.nil | refine HasT.cons rfl rfl rfl ?_)) (by repeat (first | exact HasH.nil | refine HasH.same rfl rfl rfl trivial ?_ | refine HasH.same rfl rfl rfl rfl ?_ | refine HasH.same rfl rfl rfl (fun _ _ => rfl) ?_ | refine HasH.ros rfl rfl ?_)) rfl fun w hf => hf.less ?_ (apf_ro (facts_ro _))
    · show rkeys (rs ++ [r]) ++ scanK p e = _
      rw [← hkeys, scanK_ok hn, hr]
      simp [Rw.key]
    · intro x hx
      rcases List.mem_append.1 hx with hx | hx
      · exact hok x hx
      · obtain rfl : x = r := by simpa using hx
        subst hr
        exact hob
    · intro x hx
      rw [facts_app] at hx
      rcases List.mem_append.1 hx with hx | hx
      · exact List.mem_cons_of_mem _ hx
      · obtain rfl : x = r.fact := by simpa [facts] using hx
        subst hr
        exact List.mem_cons_self
/-- the document's Whole -/
theorem rwhole_spec (off c : Nat) (p : List UInt8) (hc : p.length ≤ c) (hl : p.length ≤ 1000000000) : Spec Try.prog 22 [.sl 0 1 off p.length c] [roBo off p] 1 (σ := Unit) (fun _ => True) (fun _ => .raw (.int .i64 (wholeN p : Nat))) (fun _ => []) := by
  refine Spec.of Try.func22 rfl Try.ntmps22 rfl (by repeat (first | exact bdl_nil _ | refine bdl_cons (fun _ _ => rfl) ?_ | refine bdl_cons trivial ?_ | refine bdl_cons rfl ?_ | refine bdl_cons (rowsF_bd _ _ _ _) ?_ | refine bdl_cons (rowsS_bd _ _ _ _) ?_)) fun ρ w => ?_
  repeat (first | refine C.seq ?_ | refine C.region ?_ | refine R.zb ttok ?_ | refine R.zu ttok ?_ | refine R.zc ttok ?_ | refine R.za ttok ?_ | refine R.zx ?_ | refine R.zl ttok ?_ | refine R.zs ttok ?_ | refine R.z ttok ?_ | refine R.zk ?_ | refine R.zn ?_ | refine R.done ?_ | refine X.then ?_ | refine C.block ?_ | refine C.ret ?_ | refine C.skip ?_ | refine C.exit ?_ | refine X.pass_ret ?_ | refine X.pass_exit ?_ | refine X.block_normal ?_ | refine X.block_ret ?_ | refine X.block_exit ?_ | refine C.zt ?_ | refine C.zf ?_ | refine X.zo ?_)
  refine C.loop (σ := Nat) (L2 := 1) (fun k => k ≤ p.length ∧ wE p k = wE p 0) (fun k => [(0, .sl 0 1 off p.length c), (3, .raw (.int .i64 (k : Nat)))]) (fun _ => [(0, roBo off p)]) _ (fun k => p.length + 1 - k) [] 0 ⟨by simp, rfl⟩ rfl (by repeat (first | exact HasT.nil | refine HasT.cons rfl rfl rfl ?_)) (by repeat (first | exact HasH.nil | refine HasH.same rfl rfl rfl trivial ?_ | refine HasH.same rfl rfl rfl rfl ?_ | refine HasH.same rfl rfl rfl (fun _ _ => rfl) ?_ | refine HasH.ros rfl rfl ?_)) rfl (fun _ h => h) ?_
  rintro k ⟨hk, hw⟩
  repeat (first | refine C.seq ?_ | refine C.region ?_ | refine R.zb ttok ?_ | refine R.zu ttok ?_ | refine R.zc ttok ?_ | refine R.za ttok ?_ | refine R.zx ?_ | refine R.zl ttok ?_ | refine R.zs ttok ?_ | refine R.z ttok ?_ | refine R.zk ?_ | refine R.zn ?_ | refine R.done ?_ | refine X.then ?_ | refine C.block ?_ | refine C.ret ?_ | refine C.skip ?_ | refine C.exit ?_ | refine X.pass_ret ?_ | refine X.pass_exit ?_ | refine X.block_normal ?_ | refine X.block_ret ?_ | refine X.block_exit ?_ | refine C.zt ?_ | refine C.zf ?_ | refine X.zo ?_)
  refine R.cl [0] (rnexts_spec off c p (k : Nat) hc hl (by omega) (by omega)) Try.call18 (by repeat (first | exact HasIn.nil | refine HasIn.same rfl rfl ?_ | refine HasIn.bro rfl ?_ | refine HasIn.ror rfl ?_ | refine HasIn.cro rfl rfl ?_)) rfl rfl rfl (fun _ => rfl) rfl (by kernel_rfl) fun c2 hc2 => ?_
  rw [nextF_nat p k hk]
  cases hn : nextN p k with
  | error x =>
    have hx := next_err hn
    rw [show nxX (.error x) = (x : Int) from rfl]
    repeat (first | refine C.seq ?_ | refine C.region ?_ | refine R.zb ttok ?_ | refine R.zu ttok ?_ | refine R.zc ttok ?_ | refine R.za ttok ?_ | refine R.zx ?_ | refine R.zl ttok ?_ | refine R.zs ttok ?_ | refine R.z ttok ?_ | refine R.zk ?_ | refine R.zn ?_ | refine R.done ?_ | refine X.then ?_ | refine C.block ?_ | refine C.ret ?_ | refine C.skip ?_ | refine C.exit ?_ | refine X.pass_ret ?_ | refine X.pass_exit ?_ | refine X.block_normal ?_ | refine X.block_ret ?_ | refine X.block_exit ?_ | refine C.zt ?_ | refine C.zf ?_ | refine X.zo ?_)
    rw [decide_eq_true (show (x : Int) ≠ 0 by omega)]
    rw [wE_err hn] at hw
    rw [whole_wE, ← hw]
    repeat (first | refine C.seq ?_ | refine C.region ?_ | refine R.zb ttok ?_ | refine R.zu ttok ?_ | refine R.zc ttok ?_ | refine R.za ttok ?_ | refine R.zx ?_ | refine R.zl ttok ?_ | refine R.zs ttok ?_ | refine R.z ttok ?_ | refine R.zk ?_ | refine R.zn ?_ | refine R.done ?_ | refine X.then ?_ | refine C.block ?_ | refine C.ret ?_ | refine C.skip ?_ | refine C.exit ?_ | refine X.pass_ret ?_ | refine X.pass_exit ?_ | refine X.block_normal ?_ | refine X.block_ret ?_ | refine X.block_exit ?_ | refine C.zt ?_ | refine C.zf ?_ | refine X.zo ?_)
    refine X.fin ttok () [] trivial rfl rfl rfl (by repeat (first | exact HasH.nil | refine HasH.same rfl rfl rfl trivial ?_ | refine HasH.same rfl rfl rfl rfl ?_ | refine HasH.same rfl rfl rfl (fun _ _ => rfl) ?_ | refine HasH.ros rfl rfl ?_)) _ (by first | exact .inl rfl | exact .inr rfl)
  | ok r =>
    obtain ⟨b, e⟩ := r
    have h1 := next_ok hn
    rw [show nxX (.ok (b, e)) = 0 from rfl, show nxE (.ok (b, e)) = (e : Int) from rfl]
    repeat (first | refine C.seq ?_ | refine C.region ?_ | refine R.zb ttok ?_ | refine R.zu ttok ?_ | refine R.zc ttok ?_ | refine R.za ttok ?_ | refine R.zx ?_ | refine R.zl ttok ?_ | refine R.zs ttok ?_ | refine R.z ttok ?_ | refine R.zk ?_ | refine R.zn ?_ | refine R.done ?_ | refine X.then ?_ | refine C.block ?_ | refine C.ret ?_ | refine C.skip ?_ | refine C.exit ?_ | refine X.pass_ret ?_ | refine X.pass_exit ?_ | refine X.block_normal ?_ | refine X.block_ret ?_ | refine X.block_exit ?_ | refine C.zt ?_ | refine C.zf ?_ | refine X.zo ?_)
    exact X.back [] e ⟨h1.2.1, by rw [← wE_ok hn, hw]⟩ (by omega) rfl (by repeat (first | exact HasT.nil | refine HasT.cons rfl rfl rfl ?_)) (by repeat (first | exact HasH.nil | refine HasH.same rfl rfl rfl trivial ?_ | refine HasH.same rfl rfl rfl rfl ?_ | refine HasH.same rfl rfl rfl (fun _ _ => rfl) ?_ | refine HasH.ros rfl rfl ?_)) rfl (fun _ h => h)
end Go.Proofs.Ytggnjgnjgnlchaa
/- frame: next, Scan, and what goes through it -/
namespace Go.Proofs.Ytggnjgnjgnlchaa
set_option linter.unusedVariables false
set_option linter.unusedSimpArgs false
open Go.RowKit
set_option maxRecDepth 100000
set_option maxHeartbeats 4000000
theorem word_spec (off c : Nat) (p : List UInt8) (h4 : 4 ≤ p.length) (hl : p.length ≤ 1000000000) : Spec Try.prog 46 [.sl 0 1 off p.length c] [roBo off p] 1 (σ := Unit) (fun _ => True) (fun _ => .raw (.int .u32 (le4 p : Nat))) (fun _ => []) :=
  Spec.of_below (by simp) fun ρ w h => (word_any p _ c w (ro_at (h 0 _ rfl)) h4 (by omega)).mono fun e w' ⟨h1, h2⟩ => ⟨by rw [h1, v32_ofNat (le4_lt p)], by rw [h2]; exact Below.refl _ _⟩
theorem of_spec (off c : Nat) (p : List UInt8) (hl : p.length ≤ 1000000000) : Spec Try.prog 42 [.sl 0 1 off p.length c] [roBo off p] 1 (σ := Unit) (fun _ => True) (fun _ => .raw (.int .u32 (v32 (crcOf p) : Nat))) (fun _ => []) :=
  Spec.of_below (by simp) fun ρ w h => of_any p _ c w (ro_at (h 0 _ rfl)) (by omega)
theorem update_spec (off c : Nat) (s : BitVec 32) (p : List UInt8) (hl : p.length ≤ 1000000000) : Spec Try.prog 41 [.raw (.int .u32 (v32 s : Nat)), .sl 0 1 off p.length c] [roBo off p] 1 (σ := Unit) (fun _ => True) (fun _ => .raw (.int .u32 (v32 (crcUpdate s p) : Nat))) (fun _ => []) :=
  Spec.of_below (by simp) fun ρ w h => update_any s p _ c w (ro_at (h 0 _ rfl)) (by omega)
theorem PartOf.drop {p : List UInt8} {o : Nat} (h : o ≤ p.length) : PartOf (p.drop o) p o := by
  have := PartOf.sub (p := p) (o := o) (k := p.length - o) (by omega)
  rwa [List.take_of_length_le (by rw [List.length_drop]; omega)] at this
def nxV (off c : Nat) (p : List UInt8) (k : Nat) : AV := match nextN p k with
  | .ok (b, e) => .tup [.sl 0 1 (off + (k + 8)) b.length (c - (k + 8)), .raw (.int .i64 (e : Nat)), .raw (.int .i64 0)]
  | .error x => .tup [.raw (.slice none 0 0), .raw (.int .i64 0), .raw (.int .i64 (x : Nat))]
theorem next_spec (off c : Nat) (p : List UInt8) (k : Nat) (hc : p.length ≤ c) (hl : p.length ≤ 1000000000) (hk : k ≤ p.length) : Spec Try.prog 35 [.sl 0 1 off p.length c, .raw (.int .i64 (k : Nat))] [roBo off p] 1 (σ := Unit) (fun _ => True) (fun _ => nxV off c p k) (fun _ => []) := by
  have err : ∀ x : Nat, nextN p k = .error x → nxV off c p k = .tup [.raw (.slice none 0 0), .raw (.int .i64 0), .raw (.int .i64 (x : Nat))] := fun x h => by unfold nxV; rw [h]
  refine Spec.of Try.func35 rfl Try.ntmps35 rfl (by repeat (first | exact bdl_nil _ | refine bdl_cons (fun _ _ => rfl) ?_ | refine bdl_cons trivial ?_ | refine bdl_cons rfl ?_ | refine bdl_cons (rowsF_bd _ _ _ _) ?_ | refine bdl_cons (rowsS_bd _ _ _ _) ?_)) fun ρ w => ?_
  repeat (first | refine C.seq ?_ | refine C.region ?_ | refine R.zb ttok ?_ | refine R.zu ttok ?_ | refine R.zc ttok ?_ | refine R.za ttok ?_ | refine R.zx ?_ | refine R.zl ttok ?_ | refine R.zs ttok ?_ | refine R.z ttok ?_ | refine R.zk ?_ | refine R.zn ?_ | refine R.done ?_ | refine X.then ?_ | refine C.block ?_ | refine C.ret ?_ | refine C.skip ?_ | refine C.exit ?_ | refine X.pass_ret ?_ | refine X.pass_exit ?_ | refine X.block_normal ?_ | refine X.block_ret ?_ | refine X.block_exit ?_ | refine C.zt ?_ | refine C.zf ?_ | refine X.zo ?_)
  rw [decide_eq_false (show ¬ (k : Int) < 0 by omega)]
  repeat (first | refine C.seq ?_ | refine C.region ?_ | refine R.zb ttok ?_ | refine R.zu ttok ?_ | refine R.zc ttok ?_ | refine R.za ttok ?_ | refine R.zx ?_ | refine R.zl ttok ?_ | refine R.zs ttok ?_ | refine R.z ttok ?_ | refine R.zk ?_ | refine R.zn ?_ | refine R.done ?_ | refine X.then ?_ | refine C.block ?_ | refine C.ret ?_ | refine C.skip ?_ | refine C.exit ?_ | refine X.pass_ret ?_ | refine X.pass_exit ?_ | refine X.block_normal ?_ | refine X.block_ret ?_ | refine X.block_exit ?_ | refine C.zt ?_ | refine C.zf ?_ | refine X.zo ?_)
  rw [decide_eq_false (show ¬ (p.length : Int) < (k : Nat) by omega)]
  repeat (first | refine C.seq ?_ | refine C.region ?_ | refine R.zb ttok ?_ | refine R.zu ttok ?_ | refine R.zc ttok ?_ | refine R.za ttok ?_ | refine R.zx ?_ | refine R.zl ttok ?_ | refine R.zs ttok ?_ | refine R.z ttok ?_ | refine R.zk ?_ | refine R.zn ?_ | refine R.done ?_ | refine X.then ?_ | refine C.block ?_ | refine C.ret ?_ | refine C.skip ?_ | refine C.exit ?_ | refine X.pass_ret ?_ | refine X.pass_exit ?_ | refine X.block_normal ?_ | refine X.block_ret ?_ | refine X.block_exit ?_ | refine C.zt ?_ | refine C.zf ?_ | refine X.zo ?_)
  by_cases h3 : k = p.length
  · rw [err 12 (by unfold nextN; rw [if_pos h3])]
    rw [decide_eq_true (show (k : Int) = (p.length : Nat) by omega)]
    repeat (first | refine C.seq ?_ | refine C.region ?_ | refine R.zb ttok ?_ | refine R.zu ttok ?_ | refine R.zc ttok ?_ | refine R.za ttok ?_ | refine R.zx ?_ | refine R.zl ttok ?_ | refine R.zs ttok ?_ | refine R.z ttok ?_ | refine R.zk ?_ | refine R.zn ?_ | refine R.done ?_ | refine X.then ?_ | refine C.block ?_ | refine C.ret ?_ | refine C.skip ?_ | refine C.exit ?_ | refine X.pass_ret ?_ | refine X.pass_exit ?_ | refine X.block_normal ?_ | refine X.block_ret ?_ | refine X.block_exit ?_ | refine C.zt ?_ | refine C.zf ?_ | refine X.zo ?_)
    refine X.fin ttok () [] trivial rfl rfl rfl (by repeat (first | exact HasH.nil | refine HasH.same rfl rfl rfl trivial ?_ | refine HasH.same rfl rfl rfl rfl ?_ | refine HasH.same rfl rfl rfl (fun _ _ => rfl) ?_ | refine HasH.ros rfl rfl ?_)) _ (by first | exact .inl rfl | exact .inr rfl)
  rw [decide_eq_false (show ¬ (k : Int) = (p.length : Nat) by omega)]
  repeat (first | refine C.seq ?_ | refine C.region ?_ | refine R.zb ttok ?_ | refine R.zu ttok ?_ | refine R.zc ttok ?_ | refine R.za ttok ?_ | refine R.zx ?_ | refine R.zl ttok ?_ | refine R.zs ttok ?_ | refine R.z ttok ?_ | refine R.zk ?_ | refine R.zn ?_ | refine R.done ?_ | refine X.then ?_ | refine C.block ?_ | refine C.ret ?_ | refine C.skip ?_ | refine C.exit ?_ | refine X.pass_ret ?_ | refine X.pass_exit ?_ | refine X.block_normal ?_ | refine X.block_ret ?_ | refine X.block_exit ?_ | refine C.zt ?_ | refine C.zf ?_ | refine X.zo ?_)
  by_cases h4 : p.length - k < 8
  · rw [err 13 (by unfold nextN; rw [if_neg h3, if_pos h4])]
    rw [decide_eq_true (show (p.length : Int) - (k : Nat) < 8 by omega)]
    repeat (first | refine C.seq ?_ | refine C.region ?_ | refine R.zb ttok ?_ | refine R.zu ttok ?_ | refine R.zc ttok ?_ | refine R.za ttok ?_ | refine R.zx ?_ | refine R.zl ttok ?_ | refine R.zs ttok ?_ | refine R.z ttok ?_ | refine R.zk ?_ | refine R.zn ?_ | refine R.done ?_ | refine X.then ?_ | refine C.block ?_ | refine C.ret ?_ | refine C.skip ?_ | refine C.exit ?_ | refine X.pass_ret ?_ | refine X.pass_exit ?_ | refine X.block_normal ?_ | refine X.block_ret ?_ | refine X.block_exit ?_ | refine C.zt ?_ | refine C.zf ?_ | refine X.zo ?_)
    refine X.fin ttok () [] trivial rfl rfl rfl (by repeat (first | exact HasH.nil | refine HasH.same rfl rfl rfl trivial ?_ | refine HasH.same rfl rfl rfl rfl ?_ | refine HasH.same rfl rfl rfl (fun _ _ => rfl) ?_ | refine HasH.ros rfl rfl ?_)) _ (by first | exact .inl rfl | exact .inr rfl)
  rw [decide_eq_false (show ¬ (p.length : Int) - (k : Nat) < 8 by omega)]
  repeat (first | refine C.seq ?_ | refine C.region ?_ | refine R.zb ttok ?_ | refine R.zu ttok ?_ | refine R.zc ttok ?_ | refine R.za ttok ?_ | refine R.zx ?_ | refine R.zl ttok ?_ | refine R.zs ttok ?_ | refine R.z ttok ?_ | refine R.zk ?_ | refine R.zn ?_ | refine R.done ?_ | refine X.then ?_ | refine C.block ?_ | refine C.ret ?_ | refine C.skip ?_ | refine C.exit ?_ | refine X.pass_ret ?_ | refine X.pass_exit ?_ | refine X.block_normal ?_ | refine X.block_ret ?_ | refine X.block_exit ?_ | refine C.zt ?_ | refine C.zf ?_ | refine X.zo ?_)
  refine R.sl ttok k p.length rfl rfl rfl rfl rfl rfl (by kernel_rfl) ⟨_, _, rfl, rfl⟩ rfl (by omega) (by omega) fun o' ho' => ?_
  obtain rfl : o' = off + k := by omega
  have hd1 : (p.drop k).length = p.length - k := List.length_drop
  have hw := word_spec (off + k) (c - k) (p.drop k) (by omega) (by omega)
  rw [hd1] at hw
  refine R.cl [0] hw Try.call46 (.pr rfl (PartOf.drop hk) .nil) rfl rfl rfl (fun _ => rfl) rfl (by kernel_rfl) fun _ _ => ?_
  have hn4 := le4_lt (p.drop k)
  obtain ⟨n, hn⟩ : ∃ n, n = le4 (p.drop k) := ⟨_, rfl⟩
  rw [← hn] at hn4 ⊢
  repeat (first | refine C.seq ?_ | refine C.region ?_ | refine R.zb ttok ?_ | refine R.zu ttok ?_ | refine R.zc ttok ?_ | refine R.za ttok ?_ | refine R.zx ?_ | refine R.zl ttok ?_ | refine R.zs ttok ?_ | refine R.z ttok ?_ | refine R.zk ?_ | refine R.zn ?_ | refine R.done ?_ | refine X.then ?_ | refine C.block ?_ | refine C.ret ?_ | refine C.skip ?_ | refine C.exit ?_ | refine X.pass_ret ?_ | refine X.pass_exit ?_ | refine X.block_normal ?_ | refine X.block_ret ?_ | refine X.block_exit ?_ | refine C.zt ?_ | refine C.zf ?_ | refine X.zo ?_)
  by_cases b1 : n = 0
  · rw [err 13 (by unfold nextN; rw [if_neg h3, if_neg h4]; dsimp only; rw [← hn, if_pos (.inl b1)])]
    rw [decide_eq_true (show (n : Int) = 0 by omega)]
    repeat (first | refine C.seq ?_ | refine C.region ?_ | refine R.zb ttok ?_ | refine R.zu ttok ?_ | refine R.zc ttok ?_ | refine R.za ttok ?_ | refine R.zx ?_ | refine R.zl ttok ?_ | refine R.zs ttok ?_ | refine R.z ttok ?_ | refine R.zk ?_ | refine R.zn ?_ | refine R.done ?_ | refine X.then ?_ | refine C.block ?_ | refine C.ret ?_ | refine C.skip ?_ | refine C.exit ?_ | refine X.pass_ret ?_ | refine X.pass_exit ?_ | refine X.block_normal ?_ | refine X.block_ret ?_ | refine X.block_exit ?_ | refine C.zt ?_ | refine C.zf ?_ | refine X.zo ?_)
    refine X.fin ttok () [] trivial rfl rfl rfl (by repeat (first | exact HasH.nil | refine HasH.same rfl rfl rfl trivial ?_ | refine HasH.same rfl rfl rfl rfl ?_ | refine HasH.same rfl rfl rfl (fun _ _ => rfl) ?_ | refine HasH.ros rfl rfl ?_)) _ (by first | exact .inl rfl | exact .inr rfl)
  rw [decide_eq_false (show ¬ (n : Int) = 0 by omega)]
  repeat (first | refine C.seq ?_ | refine C.region ?_ | refine R.zb ttok ?_ | refine R.zu ttok ?_ | refine R.zc ttok ?_ | refine R.za ttok ?_ | refine R.zx ?_ | refine R.zl ttok ?_ | refine R.zs ttok ?_ | refine R.z ttok ?_ | refine R.zk ?_ | refine R.zn ?_ | refine R.done ?_ | refine X.then ?_ | refine C.block ?_ | refine C.ret ?_ | refine C.skip ?_ | refine C.exit ?_ | refine X.pass_ret ?_ | refine X.pass_exit ?_ | refine X.block_normal ?_ | refine X.block_ret ?_ | refine X.block_exit ?_ | refine C.zt ?_ | refine C.zf ?_ | refine X.zo ?_)
  by_cases b2 : 65536 < n
  · rw [err 13 (by unfold nextN; rw [if_neg h3, if_neg h4]; dsimp only; rw [← hn, if_pos (.inr (.inl b2))])]
    rw [decide_eq_true (show (65536 : Int) < (n : Nat) by omega)]
    repeat (first | refine C.seq ?_ | refine C.region ?_ | refine R.zb ttok ?_ | refine R.zu ttok ?_ | refine R.zc ttok ?_ | refine R.za ttok ?_ | refine R.zx ?_ | refine R.zl ttok ?_ | refine R.zs ttok ?_ | refine R.z ttok ?_ | refine R.zk ?_ | refine R.zn ?_ | refine R.done ?_ | refine X.then ?_ | refine C.block ?_ | refine C.ret ?_ | refine C.skip ?_ | refine C.exit ?_ | refine X.pass_ret ?_ | refine X.pass_exit ?_ | refine X.block_normal ?_ | refine X.block_ret ?_ | refine X.block_exit ?_ | refine C.zt ?_ | refine C.zf ?_ | refine X.zo ?_)
    refine X.fin ttok () [] trivial rfl rfl rfl (by repeat (first | exact HasH.nil | refine HasH.same rfl rfl rfl trivial ?_ | refine HasH.same rfl rfl rfl rfl ?_ | refine HasH.same rfl rfl rfl (fun _ _ => rfl) ?_ | refine HasH.ros rfl rfl ?_)) _ (by first | exact .inl rfl | exact .inr rfl)
  rw [decide_eq_false (show ¬ (65536 : Int) < (n : Nat) by omega)]
  repeat (first | refine C.seq ?_ | refine C.region ?_ | refine R.zb ttok ?_ | refine R.zu ttok ?_ | refine R.zc ttok ?_ | refine R.za ttok ?_ | refine R.zx ?_ | refine R.zl ttok ?_ | refine R.zs ttok ?_ | refine R.z ttok ?_ | refine R.zk ?_ | refine R.zn ?_ | refine R.done ?_ | refine X.then ?_ | refine C.block ?_ | refine C.ret ?_ | refine C.skip ?_ | refine C.exit ?_ | refine X.pass_ret ?_ | refine X.pass_exit ?_ | refine X.block_normal ?_ | refine X.block_ret ?_ | refine X.block_exit ?_ | refine C.zt ?_ | refine C.zf ?_ | refine X.zo ?_)
  by_cases b4 : p.length - k - 8 < n
  · rw [err 13 (by unfold nextN; rw [if_neg h3, if_neg h4]; dsimp only; rw [← hn, if_pos (.inr (.inr b4))])]
    rw [decide_eq_true (show (p.length : Int) - (k : Nat) - 8 < (n : Nat) by omega)]
    repeat (first | refine C.seq ?_ | refine C.region ?_ | refine R.zb ttok ?_ | refine R.zu ttok ?_ | refine R.zc ttok ?_ | refine R.za ttok ?_ | refine R.zx ?_ | refine R.zl ttok ?_ | refine R.zs ttok ?_ | refine R.z ttok ?_ | refine R.zk ?_ | refine R.zn ?_ | refine R.done ?_ | refine X.then ?_ | refine C.block ?_ | refine C.ret ?_ | refine C.skip ?_ | refine C.exit ?_ | refine X.pass_ret ?_ | refine X.pass_exit ?_ | refine X.block_normal ?_ | refine X.block_ret ?_ | refine X.block_exit ?_ | refine C.zt ?_ | refine C.zf ?_ | refine X.zo ?_)
    refine X.fin ttok () [] trivial rfl rfl rfl (by repeat (first | exact HasH.nil | refine HasH.same rfl rfl rfl trivial ?_ | refine HasH.same rfl rfl rfl rfl ?_ | refine HasH.same rfl rfl rfl (fun _ _ => rfl) ?_ | refine HasH.ros rfl rfl ?_)) _ (by first | exact .inl rfl | exact .inr rfl)
  rw [decide_eq_false (show ¬ (p.length : Int) - (k : Nat) - 8 < (n : Nat) by omega)]
  repeat (first | refine C.seq ?_ | refine C.region ?_ | refine R.zb ttok ?_ | refine R.zu ttok ?_ | refine R.zc ttok ?_ | refine R.za ttok ?_ | refine R.zx ?_ | refine R.zl ttok ?_ | refine R.zs ttok ?_ | refine R.z ttok ?_ | refine R.zk ?_ | refine R.zn ?_ | refine R.done ?_ | refine X.then ?_ | refine C.block ?_ | refine C.ret ?_ | refine C.skip ?_ | refine C.exit ?_ | refine X.pass_ret ?_ | refine X.pass_exit ?_ | refine X.block_normal ?_ | refine X.block_ret ?_ | refine X.block_exit ?_ | refine C.zt ?_ | refine C.zf ?_ | refine X.zo ?_)
  refine R.sl ttok (k + 8) (k + 8 + n) rfl rfl rfl rfl rfl rfl (by kernel_rfl) ⟨_, _, rfl, by omega⟩ ⟨_, _, rfl, by omega⟩ (by omega) (by omega) fun o' ho' => ?_
  obtain rfl : o' = off + (k + 8) := by omega
  rw [show k + 8 + n - (k + 8) = n by omega]
  repeat (first | refine R.zb ttok ?_ | refine R.zu ttok ?_ | refine R.zc ttok ?_ | refine R.za ttok ?_ | refine R.zx ?_ | refine R.zl ttok ?_ | refine R.zs ttok ?_ | refine R.z ttok ?_ | refine R.zk ?_ | refine R.zn ?_)
  refine R.done ?_
  refine X.then ?_
  refine C.seq ?_
  refine C.seq ?_
  refine C.draw [[], [], [1], [0, 1, 2], [0, 1, 2, 3], [], [], [], [7], [5, 6, 7, 8], [0, 1, 2, 3, 4, 5, 6, 7, 8, 9], [], [0, 1, 2, 3, 4, 5, 6, 7, 8, 9, 10, 11], [0, 1, 2, 3, 4, 5, 6, 7, 8, 9, 10, 11, 12]] [4, 10, 12] (by kernel_rfl) (by kernel_rfl) ?_
  repeat (first | refine R.zb ttok ?_ | refine R.zu ttok ?_ | refine R.zc ttok ?_ | refine R.za ttok ?_ | refine R.zx ?_ | refine R.zl ttok ?_ | refine R.zs ttok ?_ | refine R.z ttok ?_ | refine R.zk ?_ | refine R.zn ?_)
  refine R.sl ttok (k + 4) p.length rfl rfl rfl rfl rfl rfl (by kernel_rfl) ⟨_, _, rfl, by omega⟩ rfl (by omega) (by omega) fun o' ho' => ?_
  obtain rfl : o' = off + (k + 4) := by omega
  have hd2 : (p.drop (k + 4)).length = p.length - (k + 4) := List.length_drop
  have hw2 := word_spec (off + (k + 4)) (c - (k + 4)) (p.drop (k + 4)) (by omega) (by omega)
  rw [hd2] at hw2
  refine R.cl [0] hw2 Try.call46 (.pr rfl (PartOf.drop (by omega)) .nil) rfl rfl rfl (fun _ => rfl) rfl (by kernel_rfl) fun _ _ => ?_
  repeat (first | refine R.zb ttok ?_ | refine R.zu ttok ?_ | refine R.zc ttok ?_ | refine R.za ttok ?_ | refine R.zx ?_ | refine R.zl ttok ?_ | refine R.zs ttok ?_ | refine R.z ttok ?_ | refine R.zk ?_ | refine R.zn ?_)
  refine R.sl ttok k (k + 4) rfl rfl rfl rfl rfl rfl (by kernel_rfl) ⟨_, _, rfl, rfl⟩ ⟨_, _, rfl, by omega⟩ (by omega) (by omega) fun o' ho' => ?_
  obtain rfl : o' = off + k := by omega
  rw [show k + 4 - k = 4 by omega]
  have hd3 : ((p.drop k).take 4).length = 4 := by rw [List.length_take]; omega
  have hw3 := of_spec (off + k) (c - k) ((p.drop k).take 4) (by omega)
  rw [hd3] at hw3
  refine R.cl [0] hw3 Try.call42 (.pr rfl (PartOf.sub (by omega)) .nil) rfl rfl rfl (fun _ => rfl) rfl (by kernel_rfl) fun _ _ => ?_
  repeat (first | refine R.zb ttok ?_ | refine R.zu ttok ?_ | refine R.zc ttok ?_ | refine R.za ttok ?_ | refine R.zx ?_ | refine R.zl ttok ?_ | refine R.zs ttok ?_ | refine R.z ttok ?_ | refine R.zk ?_ | refine R.zn ?_)
  have hd4 : ((p.drop (k + 8)).take n).length = n := by rw [List.length_take, List.length_drop]; omega
  have hw4 := update_spec (off + (k + 8)) (c - (k + 8)) (crcOf ((p.drop k).take 4)) ((p.drop (k + 8)).take n) (by omega)
  rw [hd4] at hw4
  refine R.cl [0] hw4 Try.call41 (.pr rfl (PartOf.sub (by omega)) .nil) rfl rfl rfl (fun _ => rfl) rfl (by kernel_rfl) fun _ _ => ?_
  have hle := le4_lt (p.drop (k + 4))
  by_cases b5 : BitVec.ofNat 32 (le4 (p.drop (k + 4))) = crcUpdate (crcOf ((p.drop k).take 4)) ((p.drop (k + 8)).take n)
  · have hV : nxV off c p k = .tup [.sl 0 1 (off + (k + 8)) n (c - (k + 8)), .raw (.int .i64 ((k : Int) + 8 + (n : Nat))), .raw (.int .i64 0)] := by
      have : nextN p k = .ok ((p.drop (k + 8)).take n, k + 8 + n) := by
        unfold nextN; rw [if_neg h3, if_neg h4]; dsimp only; rw [← hn, if_neg (by omega), if_pos b5]
      unfold nxV
      rw [this]
      simp only [hd4]
      rfl
    rw [hV]
    have he : ((le4 (p.drop (k + 4)) : Nat) : Int) = (v32 (crcUpdate (crcOf ((p.drop k).take 4)) ((p.drop (k + 8)).take n)) : Nat) := by rw [← b5, v32_ofNat hle]
    repeat (first | refine R.zb ttok ?_ | refine R.zu ttok ?_ | refine R.zc ttok ?_ | refine R.za ttok ?_ | refine R.zx ?_ | refine R.zl ttok ?_ | refine R.zs ttok ?_ | refine R.z ttok ?_ | refine R.zk ?_ | refine R.zn ?_)
    rw [decide_eq_false (show ¬ ((le4 (p.drop (k + 4)) : Nat) : Int) ≠ (v32 (crcUpdate (crcOf ((p.drop k).take 4)) ((p.drop (k + 8)).take n)) : Nat) from fun h => h he)]
    repeat (first | refine C.seq ?_ | refine C.region ?_ | refine R.zb ttok ?_ | refine R.zu ttok ?_ | refine R.zc ttok ?_ | refine R.za ttok ?_ | refine R.zx ?_ | refine R.zl ttok ?_ | refine R.zs ttok ?_ | refine R.z ttok ?_ | refine R.zk ?_ | refine R.zn ?_ | refine R.done ?_ | refine X.then ?_ | refine C.block ?_ | refine C.ret ?_ | refine C.skip ?_ | refine C.exit ?_ | refine X.pass_ret ?_ | refine X.pass_exit ?_ | refine X.block_normal ?_ | refine X.block_ret ?_ | refine X.block_exit ?_ | refine C.zt ?_ | refine C.zf ?_ | refine X.zo ?_)
    refine X.fin ttok () [] trivial rfl rfl rfl (by repeat (first | exact HasH.nil | refine HasH.same rfl rfl rfl trivial ?_ | refine HasH.same rfl rfl rfl rfl ?_ | refine HasH.same rfl rfl rfl (fun _ _ => rfl) ?_ | refine HasH.ros rfl rfl ?_)) _ (by first | exact .inl rfl | exact .inr rfl)
  · rw [err 13 (by unfold nextN; rw [if_neg h3, if_neg h4]; dsimp only; rw [← hn, if_neg (by omega), if_neg b5])]
    have he : ((le4 (p.drop (k + 4)) : Nat) : Int) ≠ (v32 (crcUpdate (crcOf ((p.drop k).take 4)) ((p.drop (k + 8)).take n)) : Nat) := fun h => b5 (by
      have h2 : le4 (p.drop (k + 4)) = v32 (crcUpdate (crcOf ((p.drop k).take 4)) ((p.drop (k + 8)).take n)) := by omega
      rw [h2]; unfold v32; simp)
    repeat (first | refine R.zb ttok ?_ | refine R.zu ttok ?_ | refine R.zc ttok ?_ | refine R.za ttok ?_ | refine R.zx ?_ | refine R.zl ttok ?_ | refine R.zs ttok ?_ | refine R.z ttok ?_ | refine R.zk ?_ | refine R.zn ?_)
    rw [decide_eq_true he]
    repeat (first | refine C.seq ?_ | refine C.region ?_ | refine R.zb ttok ?_ | refine R.zu ttok ?_ | refine R.zc ttok ?_ | refine R.za ttok ?_ | refine R.zx ?_ | refine R.zl ttok ?_ | refine R.zs ttok ?_ | refine R.z ttok ?_ | refine R.zk ?_ | refine R.zn ?_ | refine R.done ?_ | refine X.then ?_ | refine C.block ?_ | refine C.ret ?_ | refine C.skip ?_ | refine C.exit ?_ | refine X.pass_ret ?_ | refine X.pass_exit ?_ | refine X.block_normal ?_ | refine X.block_ret ?_ | refine X.block_exit ?_ | refine C.zt ?_ | refine C.zf ?_ | refine X.zo ?_)
    refine X.fin ttok () [] trivial rfl rfl rfl (by repeat (first | exact HasH.nil | refine HasH.same rfl rfl rfl trivial ?_ | refine HasH.same rfl rfl rfl rfl ?_ | refine HasH.same rfl rfl rfl (fun _ _ => rfl) ?_ | refine HasH.ros rfl rfl ?_)) _ (by first | exact .inl rfl | exact .inr rfl)
end Go.Proofs.Ytggnjgnjgnlchaa
/- frame: Scan; what FrameScans does with each frame -/
namespace Go.Proofs.Ytggnjgnjgnlchaa
set_option linter.unusedVariables false
set_option linter.unusedSimpArgs false
open Go.RowKit
set_option maxRecDepth 100000
set_option maxHeartbeats 4000000
theorem tab_ro {ρ : Env} {r : Option Nat} {w : World} {wd n0 cap : Nat} {f : Nat → List AV} {T : TypeId} (h : (AO.tab wd n0 cap f T).holds ρ r w) : (AO.ro wd 0 n0 f).holds ρ r w := by
  obtain ⟨h1, _, ⟨h2, h3⟩ | ⟨b, cur, hr, hb, _, hc⟩⟩ := h
  · exact .inl ⟨h2, by omega⟩
  · exact .inr ⟨b, cur, T, _, hr, hb, fun i c x hi hx => by rw [Nat.zero_add]; exact hc i c x hi hx⟩
/-- what Scan answers goes through p: a cell, its bytes -/
abbrev bxO (l n c : Nat) : AO := .cells [.sl l 1 0 n c] 22
abbrev flO (b : Bool) : AO := .cells [.raw (.bool b)] 4
abbrev ctO (n : Int) : AO := .cells [.raw (.int .i64 n)] 3
abbrev wtO (l n c : Nat) : AO := .cells [.sl l 2 0 n c] 35
abbrev roR (rs : List Rw) : AO := .ro 2 0 rs.length (rwF rs)
theorem roR_bd (L : Nat) (rs : List Rw) : (roR rs).Bd L := fun i hi => rfl
theorem fscan_spec (off c : Nat) (p : List UInt8) (hl : p.length ≤ 1000000000) : Spec Try.prog 20 [.sl 0 1 off p.length c] [roBo off p] 3 (σ := Nat) (fun c => p.length ≤ c ∧ c ≤ 9223372036854775807) (fun _ => .fn 38 [.ptr 1 0 0 0]) (fun c => [(1, bxO 2 p.length c), (2, .bytes p c 5)]) := by
  refine Spec.of Try.func20 rfl Try.ntmps20 rfl (by repeat (first | exact bdl_nil _ | refine bdl_cons (fun _ _ => rfl) ?_ | refine bdl_cons trivial ?_ | refine bdl_cons rfl ?_ | refine bdl_cons (rowsF_bd _ _ _ _) ?_ | refine bdl_cons (rowsS_bd _ _ _ _) ?_)) fun ρ w => ?_
  repeat (first | refine C.seq ?_ | refine C.region ?_ | refine R.zb ttok ?_ | refine R.zu ttok ?_ | refine R.zc ttok ?_ | refine R.za ttok ?_ | refine R.zx ?_ | refine R.zl ttok ?_ | refine R.zs ttok ?_ | refine R.z ttok ?_ | refine R.zk ?_ | refine R.zn ?_ | refine R.done ?_ | refine X.then ?_ | refine C.block ?_ | refine C.ret ?_ | refine C.skip ?_ | refine C.exit ?_ | refine X.pass_ret ?_ | refine X.pass_exit ?_ | refine X.block_normal ?_ | refine X.block_ret ?_ | refine X.block_exit ?_ | refine C.zt ?_ | refine C.zf ?_ | refine X.zo ?_)
  refine R.cl [0] (clone_spec off c p hl) Try.call36 (by repeat (first | exact HasIn.nil | refine HasIn.same rfl rfl ?_ | refine HasIn.bro rfl ?_ | refine HasIn.ror rfl ?_ | refine HasIn.cro rfl rfl ?_)) rfl rfl rfl (fun _ => rfl) rfl (by kernel_rfl) fun c2 hc2 => ?_
  repeat (first | refine R.zb ttok ?_ | refine R.zu ttok ?_ | refine R.zc ttok ?_ | refine R.za ttok ?_ | refine R.zx ?_ | refine R.zl ttok ?_ | refine R.zs ttok ?_ | refine R.z ttok ?_ | refine R.zk ?_ | refine R.zn ?_)
  refine R.done ?_
  refine X.then ?_
  refine C.fact (bytes_le (l := 2) rfl) fun hc3 => ?_
  repeat (first | refine C.seq ?_ | refine C.region ?_ | refine R.zb ttok ?_ | refine R.zu ttok ?_ | refine R.zc ttok ?_ | refine R.za ttok ?_ | refine R.zx ?_ | refine R.zl ttok ?_ | refine R.zs ttok ?_ | refine R.z ttok ?_ | refine R.zk ?_ | refine R.zn ?_ | refine R.done ?_ | refine X.then ?_ | refine C.block ?_ | refine C.ret ?_ | refine C.skip ?_ | refine C.exit ?_ | refine X.pass_ret ?_ | refine X.pass_exit ?_ | refine X.block_normal ?_ | refine X.block_ret ?_ | refine X.block_exit ?_ | refine C.zt ?_ | refine C.zf ?_ | refine X.zo ?_)
  refine X.fin ttok c2 [(2, 2), (1, 1)] ⟨hc3, hc2⟩ rfl rfl rfl (by repeat (first | exact HasH.nil | refine HasH.same rfl rfl rfl trivial ?_ | refine HasH.same rfl rfl rfl rfl ?_ | refine HasH.same rfl rfl rfl (fun _ _ => rfl) ?_ | refine HasH.ros rfl rfl ?_)) _ (by first | exact .inl rfl | exact .inr rfl)
theorem xor255 (b : UInt8) : bitV .xor .u8 (b.toNat : Int) 255 = ((b ^^^ 255).toNat : Int) := by
  have : ∀ n : Fin 256, bitV .xor .u8 ((UInt8.ofNat n.val).toNat : Int) 255 = ((UInt8.ofNat n.val ^^^ 255).toNat : Int) := by decide
  have h := this ⟨b.toNat, b.toNat_lt⟩
  simpa using h
theorem rw_get {rs : List Rw} {n : Nat} (hn : n < rs.length) : rs.getD n zR ∈ rs := by
  rw [List.getD_eq_getElem?_getD, List.getElem?_eq_getElem hn]
  exact List.getElem_mem hn
theorem fscan1_spec (rs : List Rw) (n cw cq at_ : Nat) (q : List UInt8) (hn : n < rs.length) (hat : (rs.getD n zR).a = at_) (hq : (rs.getD n zR).p = q) (hok : ∀ r ∈ rs, r.ok) (hql : q.length ≤ 1000000000) (hrl : rs.length ≤ 1000000000) :
    SpecF Try.prog 23 [.raw (.int .i64 (at_ : Nat)), .sl 0 1 0 q.length cq, .ptr 1 0 0 0, .ptr 2 0 0 0, .ptr 3 0 0 0] [.bytes q cq 5, flO true, ctO (n : Nat), wtO 4 rs.length cw, roR rs] 5 (facts rs) (σ := Unit) (fun _ => True) (fun _ => .raw (.bool true)) (fun _ => [(1, flO true), (2, ctO ((n : Int) + 1)), (3, wtO 4 rs.length cw)]) (fun _ => facts rs) := by
  refine SpecF.of Try.func23 rfl Try.ntmps23 rfl (by repeat (first | exact bdl_nil _ | refine bdl_cons (roR_bd _ _) ?_ | refine bdl_cons trivial ?_ | refine bdl_cons rfl ?_)) fun ρ w => ?_
  repeat (first | refine C.seq ?_ | refine C.region ?_ | refine R.zb ttok ?_ | refine R.zu ttok ?_ | refine R.zc ttok ?_ | refine R.za ttok ?_ | refine R.zx ?_ | refine R.zl ttok ?_ | refine R.zs ttok ?_ | refine R.z ttok ?_ | refine R.zk ?_ | refine R.zn ?_ | refine R.done ?_ | refine X.then ?_ | refine C.block ?_ | refine C.ret ?_ | refine C.skip ?_ | refine C.exit ?_ | refine X.pass_ret ?_ | refine X.pass_exit ?_ | refine X.block_normal ?_ | refine X.block_ret ?_ | refine X.block_exit ?_ | refine C.zt ?_ | refine C.zf ?_ | refine X.zo ?_)
  rw [decide_eq_true (show (n : Int) < (rs.length : Nat) by omega)]
  repeat (first | refine C.seq ?_ | refine C.region ?_ | refine R.zb ttok ?_ | refine R.zu ttok ?_ | refine R.zc ttok ?_ | refine R.za ttok ?_ | refine R.zx ?_ | refine R.zl ttok ?_ | refine R.zs ttok ?_ | refine R.z ttok ?_ | refine R.zk ?_ | refine R.zn ?_ | refine R.done ?_ | refine X.then ?_ | refine C.block ?_ | refine C.ret ?_ | refine C.skip ?_ | refine C.exit ?_ | refine X.pass_ret ?_ | refine X.pass_exit ?_ | refine X.block_normal ?_ | refine X.block_ret ?_ | refine X.block_exit ?_ | refine C.zt ?_ | refine C.zf ?_ | refine X.zo ?_)
  refine R.ix ttok n rfl rfl rfl rfl rfl (by kernel_rfl) rfl hn (by show _ ≤ _ ∧ _ < _; omega) rfl ?_
  repeat (first | refine C.seq ?_ | refine C.region ?_ | refine R.zb ttok ?_ | refine R.zu ttok ?_ | refine R.zc ttok ?_ | refine R.za ttok ?_ | refine R.zx ?_ | refine R.zl ttok ?_ | refine R.zs ttok ?_ | refine R.z ttok ?_ | refine R.zk ?_ | refine R.zn ?_ | refine R.done ?_ | refine X.then ?_ | refine C.block ?_ | refine C.ret ?_ | refine C.skip ?_ | refine C.exit ?_ | refine X.pass_ret ?_ | refine X.pass_exit ?_ | refine X.block_normal ?_ | refine X.block_ret ?_ | refine X.block_exit ?_ | refine C.zt ?_ | refine C.zf ?_ | refine X.zo ?_)
  refine R.ldo (v := .raw (.int .i64 ((rs.getD n zR).a : Nat))) ttok rfl rfl rfl rfl rfl (by kernel_rfl) hn ?_
  rw [hat]
  repeat (first | refine C.seq ?_ | refine C.region ?_ | refine R.zb ttok ?_ | refine R.zu ttok ?_ | refine R.zc ttok ?_ | refine R.za ttok ?_ | refine R.zx ?_ | refine R.zl ttok ?_ | refine R.zs ttok ?_ | refine R.z ttok ?_ | refine R.zk ?_ | refine R.zn ?_ | refine R.done ?_ | refine X.then ?_ | refine C.block ?_ | refine C.ret ?_ | refine C.skip ?_ | refine C.exit ?_ | refine X.pass_ret ?_ | refine X.pass_exit ?_ | refine X.block_normal ?_ | refine X.block_ret ?_ | refine X.block_exit ?_ | refine C.zt ?_ | refine C.zf ?_ | refine X.zo ?_)
  rw [decide_eq_true (rfl : (at_ : Int) = at_)]
  repeat (first | refine C.seq ?_ | refine C.region ?_ | refine R.zb ttok ?_ | refine R.zu ttok ?_ | refine R.zc ttok ?_ | refine R.za ttok ?_ | refine R.zx ?_ | refine R.zl ttok ?_ | refine R.zs ttok ?_ | refine R.z ttok ?_ | refine R.zk ?_ | refine R.zn ?_ | refine R.done ?_ | refine X.then ?_ | refine C.block ?_ | refine C.ret ?_ | refine C.skip ?_ | refine C.exit ?_ | refine X.pass_ret ?_ | refine X.pass_exit ?_ | refine X.block_normal ?_ | refine X.block_ret ?_ | refine X.block_exit ?_ | refine C.zt ?_ | refine C.zf ?_ | refine X.zo ?_)
  refine R.ix ttok n rfl rfl rfl rfl rfl (by kernel_rfl) rfl hn (by show _ ≤ _ ∧ _ < _; omega) rfl ?_
  repeat (first | refine C.seq ?_ | refine C.region ?_ | refine R.zb ttok ?_ | refine R.zu ttok ?_ | refine R.zc ttok ?_ | refine R.za ttok ?_ | refine R.zx ?_ | refine R.zl ttok ?_ | refine R.zs ttok ?_ | refine R.z ttok ?_ | refine R.zk ?_ | refine R.zn ?_ | refine R.done ?_ | refine X.then ?_ | refine C.block ?_ | refine C.ret ?_ | refine C.skip ?_ | refine C.exit ?_ | refine X.pass_ret ?_ | refine X.pass_exit ?_ | refine X.block_normal ?_ | refine X.block_ret ?_ | refine X.block_exit ?_ | refine C.zt ?_ | refine C.zf ?_ | refine X.zo ?_)
  refine R.ldo (v := .raw (.slice (some ⟨(rs.getD n zR).b, 0, none⟩) (rs.getD n zR).p.length (rs.getD n zR).c)) ttok rfl rfl rfl rfl rfl (by kernel_rfl) hn ?_
  refine R.labB (p := (rs.getD n zR).fact) (List.mem_map.2 ⟨_, rw_get hn, rfl⟩) 31 (hok _ (rw_get hn)) rfl rfl ?_
  rw [hq]
  refine R.cl [0, 5] (same_spec 0 0 cq _ q q hql) Try.call14 (by repeat (first | exact HasIn.nil | refine HasIn.same rfl rfl ?_ | refine HasIn.bro rfl ?_ | refine HasIn.ror rfl ?_ | refine HasIn.cro rfl rfl ?_)) rfl rfl rfl (fun _ => rfl) rfl (by kernel_rfl) fun _ _ => ?_
  rw [decide_eq_true rfl]
  repeat (first | refine C.seq ?_ | refine C.region ?_ | refine R.zb ttok ?_ | refine R.zu ttok ?_ | refine R.zc ttok ?_ | refine R.za ttok ?_ | refine R.zx ?_ | refine R.zl ttok ?_ | refine R.zs ttok ?_ | refine R.z ttok ?_ | refine R.zk ?_ | refine R.zn ?_ | refine R.done ?_ | refine X.then ?_ | refine C.block ?_ | refine C.ret ?_ | refine C.skip ?_ | refine C.exit ?_ | refine X.pass_ret ?_ | refine X.pass_exit ?_ | refine X.block_normal ?_ | refine X.block_ret ?_ | refine X.block_exit ?_ | refine C.zt ?_ | refine C.zf ?_ | refine X.zo ?_)
  refine C.loop (σ := Nat × List UInt8) (L2 := 5) (fun s => s.1 ≤ q.length ∧ s.2.length = q.length) (fun s => [(1, .sl 0 1 0 q.length cq), (2, .ptr 1 0 0 0), (3, .ptr 2 0 0 0), (8, .raw (.int .i64 (s.1 : Nat)))]) (fun s => [(0, .bytes s.2 cq 5), (1, flO true), (2, ctO (n : Nat)), (3, wtO 4 rs.length cw)]) _ (fun s => q.length - s.1) [] (0, q) ⟨Nat.zero_le _, rfl⟩ rfl (by repeat (first | exact HasT.nil | refine HasT.cons rfl rfl rfl ?_)) (by repeat (first | exact HasH.nil | refine HasH.same rfl rfl rfl trivial ?_ | refine HasH.same rfl rfl rfl rfl ?_ | refine HasH.same rfl rfl rfl (fun _ _ => rfl) ?_ | refine HasH.ros rfl rfl ?_)) rfl (fun _ h => h) ?_
  rintro ⟨i, q2⟩ ⟨hi, hq2⟩
  dsimp only at hi hq2 ⊢
  repeat (first | refine C.seq ?_ | refine C.region ?_ | refine R.zb ttok ?_ | refine R.zu ttok ?_ | refine R.zc ttok ?_ | refine R.za ttok ?_ | refine R.zx ?_ | refine R.zl ttok ?_ | refine R.zs ttok ?_ | refine R.z ttok ?_ | refine R.zk ?_ | refine R.zn ?_ | refine R.done ?_ | refine X.then ?_ | refine C.block ?_ | refine C.ret ?_ | refine C.skip ?_ | refine C.exit ?_ | refine X.pass_ret ?_ | refine X.pass_exit ?_ | refine X.block_normal ?_ | refine X.block_ret ?_ | refine X.block_exit ?_ | refine C.zt ?_ | refine C.zf ?_ | refine X.zo ?_)
  by_cases hlt : (i : Int) < (q.length : Nat)
  · rw [decide_eq_true hlt]
    have hlt' : i < q2.length := by omega
    repeat (first | refine C.seq ?_ | refine C.region ?_ | refine R.zb ttok ?_ | refine R.zu ttok ?_ | refine R.zc ttok ?_ | refine R.za ttok ?_ | refine R.zx ?_ | refine R.zl ttok ?_ | refine R.zs ttok ?_ | refine R.z ttok ?_ | refine R.zk ?_ | refine R.zn ?_ | refine R.done ?_ | refine X.then ?_ | refine C.block ?_ | refine C.ret ?_ | refine C.skip ?_ | refine C.exit ?_ | refine X.pass_ret ?_ | refine X.pass_exit ?_ | refine X.block_normal ?_ | refine X.block_ret ?_ | refine X.block_exit ?_ | refine C.zt ?_ | refine C.zf ?_ | refine X.zo ?_)
    refine R.ix ttok i rfl rfl rfl rfl rfl (by kernel_rfl) rfl (by omega) (by show _ < _; omega) rfl ?_
    rw [Nat.zero_add]
    repeat (first | refine C.seq ?_ | refine C.region ?_ | refine R.zb ttok ?_ | refine R.zu ttok ?_ | refine R.zc ttok ?_ | refine R.za ttok ?_ | refine R.zx ?_ | refine R.zl ttok ?_ | refine R.zs ttok ?_ | refine R.z ttok ?_ | refine R.zk ?_ | refine R.zn ?_ | refine R.done ?_ | refine X.then ?_ | refine C.block ?_ | refine C.ret ?_ | refine C.skip ?_ | refine C.exit ?_ | refine X.pass_ret ?_ | refine X.pass_exit ?_ | refine X.block_normal ?_ | refine X.block_ret ?_ | refine X.block_exit ?_ | refine C.zt ?_ | refine C.zf ?_ | refine X.zo ?_)
    refine R.ldb ttok rfl rfl rfl rfl rfl (by kernel_rfl) hlt' ?_
    repeat (first | refine C.seq ?_ | refine C.region ?_ | refine R.zb ttok ?_ | refine R.zu ttok ?_ | refine R.zc ttok ?_ | refine R.za ttok ?_ | refine R.zx ?_ | refine R.zl ttok ?_ | refine R.zs ttok ?_ | refine R.z ttok ?_ | refine R.zk ?_ | refine R.zn ?_ | refine R.done ?_ | refine X.then ?_ | refine C.block ?_ | refine C.ret ?_ | refine C.skip ?_ | refine C.exit ?_ | refine X.pass_ret ?_ | refine X.pass_exit ?_ | refine X.block_normal ?_ | refine X.block_ret ?_ | refine X.block_exit ?_ | refine C.zt ?_ | refine C.zf ?_ | refine X.zo ?_)
    refine R.ix ttok i rfl rfl rfl rfl rfl (by kernel_rfl) rfl (by omega) (by show _ < _; omega) rfl ?_
    rw [Nat.zero_add]
    refine R.stb ttok (q2.getD i 0 ^^^ 255) rfl rfl rfl rfl rfl (by kernel_rfl) hlt' (xor255 _) ?_
    repeat (first | refine C.seq ?_ | refine C.region ?_ | refine R.zb ttok ?_ | refine R.zu ttok ?_ | refine R.zc ttok ?_ | refine R.za ttok ?_ | refine R.zx ?_ | refine R.zl ttok ?_ | refine R.zs ttok ?_ | refine R.z ttok ?_ | refine R.zk ?_ | refine R.zn ?_ | refine R.done ?_ | refine X.then ?_ | refine C.block ?_ | refine C.ret ?_ | refine C.skip ?_ | refine C.exit ?_ | refine X.pass_ret ?_ | refine X.pass_exit ?_ | refine X.block_normal ?_ | refine X.block_ret ?_ | refine X.block_exit ?_ | refine C.zt ?_ | refine C.zf ?_ | refine X.zo ?_)
    refine X.back [] (i + 1, q2.set i (q2.getD i 0 ^^^ 255)) ⟨by show i + 1 ≤ _; omega, by simp [hq2]⟩ (by show _ - (i + 1) < _ - i; omega) rfl (by repeat (first | exact HasT.nil | refine HasT.cons rfl rfl rfl ?_)) (by repeat (first | exact HasH.nil | refine HasH.same rfl rfl rfl trivial ?_ | refine HasH.same rfl rfl rfl rfl ?_ | refine HasH.same rfl rfl rfl (fun _ _ => rfl) ?_ | refine HasH.ros rfl rfl ?_)) rfl (fun _ h => h)
  · rw [decide_eq_false hlt]
    repeat (first | refine C.seq ?_ | refine C.region ?_ | refine R.zb ttok ?_ | refine R.zu ttok ?_ | refine R.zc ttok ?_ | refine R.za ttok ?_ | refine R.zx ?_ | refine R.zl ttok ?_ | refine R.zs ttok ?_ | refine R.z ttok ?_ | refine R.zk ?_ | refine R.zn ?_ | refine R.done ?_ | refine X.then ?_ | refine C.block ?_ | refine C.ret ?_ | refine C.skip ?_ | refine C.exit ?_ | refine X.pass_ret ?_ | refine X.pass_exit ?_ | refine X.block_normal ?_ | refine X.block_ret ?_ | refine X.block_exit ?_ | refine C.zt ?_ | refine C.zf ?_ | refine X.zo ?_)
    refine X.finF ttok () [] trivial rfl rfl rfl (by repeat (first | exact HasH.nil | refine HasH.same rfl rfl rfl trivial ?_ | refine HasH.same rfl rfl rfl rfl ?_ | refine HasH.same rfl rfl rfl (fun _ _ => rfl) ?_ | refine HasH.ros rfl rfl ?_)) _ (by first | exact .inl rfl | exact .inr rfl) ?_ ?_ ?_
    · exact fun w hf => hf.ap
    · exact fun p hp => hp
    · exact fun p hp e => ⟨p, hp, rfl⟩
end Go.Proofs.Ytggnjgnjgnlchaa
/- frame: Scan gone through as FrameScans does -/
namespace Go.Proofs.Ytggnjgnjgnlchaa
set_option linter.unusedVariables false
set_option linter.unusedSimpArgs false
open Go.RowKit
set_option maxRecDepth 100000
set_option maxHeartbeats 4000000
theorem part_body {p b : List UInt8} {k e : Nat} (h : nextN p k = .ok (b, e)) : PartOf b p (k + 8) := by
  obtain ⟨h1, h2, h3, h4, h5⟩ := next_ok h
  refine ⟨by omega, fun i hi => ?_⟩
  have h6 : p.getD (k + 8 + i) 0 = (p.drop k).getD (8 + i) 0 := by simp [List.getD, List.getElem?_drop, Nat.add_assoc]
  rw [h6, h5]
  have h7 : (headB b).length = 8 := rfl
  unfold sealB
  rw [List.getD_eq_getElem?_getD, List.getD_eq_getElem?_getD, List.getElem?_append_left (by rw [List.length_append, h7]; omega), List.getElem?_append_right (by omega), h7, show 8 + i - 8 = i by omega]
theorem rkeys_get {rs : List Rw} {n k : Nat} {b : List UInt8} {l : List (Nat × List UInt8)} (h : rkeys (rs.drop n) = (k, b) :: l) : n < rs.length ∧ (rs.getD n zR).a = k ∧ (rs.getD n zR).p = b ∧ rkeys (rs.drop (n + 1)) = l := by
  have hn : n < rs.length := by
    refine Nat.lt_of_not_le fun hle => ?_
    rw [List.drop_eq_nil_of_le hle] at h
    cases h
  rw [List.drop_eq_getElem_cons hn] at h
  simp only [rkeys, List.map_cons, List.cons.injEq] at h
  have hg : rs.getD n zR = rs[n] := by simp [List.getD, hn]
  rw [hg]
  have := h.1
  simp only [Rw.key, Prod.mk.injEq] at this
  exact ⟨hn, this.1, this.2, h.2⟩
theorem rkeys_end {rs : List Rw} {n : Nat} (h : rkeys (rs.drop n) = []) (hn : n ≤ rs.length) : n = rs.length := by
  have := congrArg List.length h
  simp at this
  omega
theorem fgo_spec (rs : List Rw) (c cw : Nat) (p : List UInt8) (hc : p.length ≤ c) (hl : p.length ≤ 1000000000) (hrs : rkeys rs = scanK p 0) (hok : ∀ r ∈ rs, r.ok) :
    SpecF Try.prog 38 [.fn 23 [.ptr 2 0 0 0, .ptr 3 0 0 0, .ptr 4 0 0 0], .ptr 0 0 0 0] [bxO 1 p.length c, roBo 0 p, flO true, ctO 0, wtO 5 rs.length cw, roR rs] 6 (facts rs) (σ := Unit) (fun _ => True) (fun _ => .tup [])
    (fun _ => [(0, bxO 1 p.length c), (2, flO true), (3, ctO (rs.length : Nat)), (4, wtO 5 rs.length cw)]) (fun _ => facts rs) := by
  have hrl : rs.length ≤ 1000000000 := by
    have h1 := congrArg List.length hrs
    have h2 := scanK_le (p := p) (k := 0) (Nat.zero_le _)
    simp at h1
    omega
  refine SpecF.of Try.func38 rfl Try.ntmps38 rfl (by repeat (first | exact bdl_nil _ | refine bdl_cons (roR_bd _ _) ?_ | refine bdl_cons (fun _ _ => rfl) ?_ | refine bdl_cons rfl ?_)) fun ρ w => ?_
  repeat (first | refine C.seq ?_ | refine C.region ?_ | refine R.zb ttok ?_ | refine R.zu ttok ?_ | refine R.zc ttok ?_ | refine R.za ttok ?_ | refine R.zx ?_ | refine R.zl ttok ?_ | refine R.zs ttok ?_ | refine R.z ttok ?_ | refine R.zk ?_ | refine R.zn ?_ | refine R.done ?_ | refine X.then ?_ | refine C.block ?_ | refine C.ret ?_ | refine C.skip ?_ | refine C.exit ?_ | refine X.pass_ret ?_ | refine X.pass_exit ?_ | refine X.block_normal ?_ | refine X.block_ret ?_ | refine X.block_exit ?_ | refine C.zt ?_ | refine C.zf ?_ | refine X.zo ?_)
  refine C.loop (σ := Nat × Nat) (L2 := 6) (fun s => s.1 ≤ p.length ∧ s.2 ≤ rs.length ∧ rkeys (rs.drop s.2) = scanK p s.1) (fun s => [(0, .fn 23 [.ptr 2 0 0 0, .ptr 3 0 0 0, .ptr 4 0 0 0]), (1, .ptr 0 0 0 0), (3, .raw (.int .i64 (s.1 : Nat)))]) (fun s => [(0, bxO 1 p.length c), (1, roBo 0 p), (2, flO true), (3, ctO (s.2 : Nat)), (4, wtO 5 rs.length cw), (5, roR rs)]) _ (fun s => p.length + 1 - s.1) [] (0, 0) ⟨Nat.zero_le _, Nat.zero_le _, hrs⟩ rfl (by repeat (first | exact HasT.nil | refine HasT.cons rfl rfl rfl ?_)) (by repeat (first | exact HasH.nil | refine HasH.same rfl rfl rfl trivial ?_ | refine HasH.same rfl rfl rfl rfl ?_ | refine HasH.same rfl rfl rfl (fun _ _ => rfl) ?_ | refine HasH.ros rfl rfl ?_)) rfl (fun _ h => h) ?_
  rintro ⟨k, n⟩ ⟨hk, hn, hks⟩
  dsimp only at hk hn hks ⊢
  repeat (first | refine C.seq ?_ | refine C.region ?_ | refine R.zb ttok ?_ | refine R.zu ttok ?_ | refine R.zc ttok ?_ | refine R.za ttok ?_ | refine R.zx ?_ | refine R.zl ttok ?_ | refine R.zs ttok ?_ | refine R.z ttok ?_ | refine R.zk ?_ | refine R.zn ?_ | refine R.done ?_ | refine X.then ?_ | refine C.block ?_ | refine C.ret ?_ | refine C.skip ?_ | refine C.exit ?_ | refine X.pass_ret ?_ | refine X.pass_exit ?_ | refine X.block_normal ?_ | refine X.block_ret ?_ | refine X.block_exit ?_ | refine C.zt ?_ | refine C.zf ?_ | refine X.zo ?_)
  refine R.cl [1] (next_spec 0 c p k hc hl hk) Try.call35 (by repeat (first | exact HasIn.nil | refine HasIn.same rfl rfl ?_ | refine HasIn.bro rfl ?_ | refine HasIn.ror rfl ?_ | refine HasIn.cro rfl rfl ?_)) rfl rfl rfl (fun _ => rfl) rfl (by kernel_rfl) fun _ _ => ?_
  cases hx : nextN p k with
  | error x =>
    have hx2 := next_err hx
    rw [show nxV 0 c p k = .tup [.raw (.slice none 0 0), .raw (.int .i64 0), .raw (.int .i64 (x : Nat))] by unfold nxV; rw [hx]]
    repeat (first | refine C.seq ?_ | refine C.region ?_ | refine R.zb ttok ?_ | refine R.zu ttok ?_ | refine R.zc ttok ?_ | refine R.za ttok ?_ | refine R.zx ?_ | refine R.zl ttok ?_ | refine R.zs ttok ?_ | refine R.z ttok ?_ | refine R.zk ?_ | refine R.zn ?_ | refine R.done ?_ | refine X.then ?_ | refine C.block ?_ | refine C.ret ?_ | refine C.skip ?_ | refine C.exit ?_ | refine X.pass_ret ?_ | refine X.pass_exit ?_ | refine X.block_normal ?_ | refine X.block_ret ?_ | refine X.block_exit ?_ | refine C.zt ?_ | refine C.zf ?_ | refine X.zo ?_)
    rw [decide_eq_true (show (x : Int) ≠ 0 by omega)]
    repeat (first | refine C.seq ?_ | refine C.region ?_ | refine R.zb ttok ?_ | refine R.zu ttok ?_ | refine R.zc ttok ?_ | refine R.za ttok ?_ | refine R.zx ?_ | refine R.zl ttok ?_ | refine R.zs ttok ?_ | refine R.z ttok ?_ | refine R.zk ?_ | refine R.zn ?_ | refine R.done ?_ | refine X.then ?_ | refine C.block ?_ | refine C.ret ?_ | refine C.skip ?_ | refine C.exit ?_ | refine X.pass_ret ?_ | refine X.pass_exit ?_ | refine X.block_normal ?_ | refine X.block_ret ?_ | refine X.block_exit ?_ | refine C.zt ?_ | refine C.zf ?_ | refine X.zo ?_)
    rw [scanK_err hx] at hks
    obtain rfl := rkeys_end hks hn
    refine X.finF ttok () [] trivial rfl rfl rfl (by repeat (first | exact HasH.nil | refine HasH.same rfl rfl rfl trivial ?_ | refine HasH.same rfl rfl rfl rfl ?_ | refine HasH.same rfl rfl rfl (fun _ _ => rfl) ?_ | refine HasH.ros rfl rfl ?_)) _ (by first | exact .inl rfl | exact .inr rfl) ?_ ?_ ?_
    · exact fun w hf => hf.ap
    · exact fun p hp => hp
    · exact fun p hp e => ⟨p, hp, rfl⟩
  | ok r =>
    obtain ⟨b, e⟩ := r
    have h1 := next_ok hx
    rw [scanK_ok hx] at hks
    obtain ⟨g1, g2, g3, g4⟩ := rkeys_get hks
    rw [show nxV 0 c p k = .tup [.sl 0 1 (0 + (k + 8)) b.length (c - (k + 8)), .raw (.int .i64 (e : Nat)), .raw (.int .i64 0)] by unfold nxV; rw [hx]]
    repeat (first | refine C.seq ?_ | refine C.region ?_ | refine R.zb ttok ?_ | refine R.zu ttok ?_ | refine R.zc ttok ?_ | refine R.za ttok ?_ | refine R.zx ?_ | refine R.zl ttok ?_ | refine R.zs ttok ?_ | refine R.z ttok ?_ | refine R.zk ?_ | refine R.zn ?_ | refine R.done ?_ | refine X.then ?_ | refine C.block ?_ | refine C.ret ?_ | refine C.skip ?_ | refine C.exit ?_ | refine X.pass_ret ?_ | refine X.pass_exit ?_ | refine X.block_normal ?_ | refine X.block_ret ?_ | refine X.block_exit ?_ | refine C.zt ?_ | refine C.zf ?_ | refine X.zo ?_)
    refine R.cl [1] (clone_spec (0 + (k + 8)) (c - (k + 8)) b (by omega)) Try.call36 (.pr rfl (part_body hx) .nil) rfl rfl rfl (fun _ => rfl) rfl (by kernel_rfl) fun c2 hc2 => ?_
    repeat (first | refine R.zb ttok ?_ | refine R.zu ttok ?_ | refine R.zc ttok ?_ | refine R.za ttok ?_ | refine R.zx ?_ | refine R.zl ttok ?_ | refine R.zs ttok ?_ | refine R.z ttok ?_ | refine R.zk ?_ | refine R.zn ?_)
    refine R.clR [6, 2, 3, 4, 5] (fscan1_spec rs n cw c2 k b g1 g2 g3 hok (by omega) hrl) (facts_ro rs) Try.call23 (by repeat (first | exact HasIn.nil | refine HasIn.same rfl rfl ?_ | refine HasIn.bro rfl ?_ | refine HasIn.ror rfl ?_ | refine HasIn.cro rfl rfl ?_)) rfl rfl rfl (fun _ => rfl) rfl (by kernel_rfl) fun _ _ => ?_
    repeat (first | refine C.seq ?_ | refine C.region ?_ | refine R.zb ttok ?_ | refine R.zu ttok ?_ | refine R.zc ttok ?_ | refine R.za ttok ?_ | refine R.zx ?_ | refine R.zl ttok ?_ | refine R.zs ttok ?_ | refine R.z ttok ?_ | refine R.zk ?_ | refine R.zn ?_ | refine R.done ?_ | refine X.then ?_ | refine C.block ?_ | refine C.ret ?_ | refine C.skip ?_ | refine C.exit ?_ | refine X.pass_ret ?_ | refine X.pass_exit ?_ | refine X.block_normal ?_ | refine X.block_ret ?_ | refine X.block_exit ?_ | refine C.zt ?_ | refine C.zf ?_ | refine X.zo ?_)
    refine X.back [] (e, n + 1) ⟨h1.2.1, by show n + 1 ≤ _; omega, g4⟩ (by show _ - e < _ - k; omega) rfl (by repeat (first | exact HasT.nil | refine HasT.cons rfl rfl rfl ?_)) (by repeat (first | exact HasH.nil | refine HasH.same rfl rfl rfl trivial ?_ | refine HasH.same rfl rfl rfl rfl ?_ | refine HasH.same rfl rfl rfl (fun _ _ => rfl) ?_ | refine HasH.ros rfl rfl ?_)) rfl (fun _ h => h)
/-! two lists of frames -/
theorem frows_spec (xs ys : List Rw) (o1 o2 c1 c2 : Nat) (fs : Fam) (hro : ∀ p ∈ fs, p.rw = false) (ha : ∀ r ∈ xs, r.ok ∧ r.fact ∈ fs) (hb : ∀ r ∈ ys, r.ok ∧ r.fact ∈ fs) (hk : rkeys xs = rkeys ys) (hal : xs.length ≤ 1000000000) (hpl : ∀ r ∈ xs, r.p.length ≤ 1000000000) :
    SpecF Try.prog 25 [.sl 0 2 o1 xs.length c1, .sl 1 2 o2 ys.length c2] [.ro 2 o1 xs.length (rwF xs), .ro 2 o2 ys.length (rwF ys)] 2 fs (σ := Unit) (fun _ => True) (fun _ => .raw (.bool true)) (fun _ => []) (fun _ => fs) := by
  have hlen : xs.length = ys.length := by have := congrArg List.length hk; simpa using this
  refine SpecF.of Try.func25 rfl Try.ntmps25 rfl (by repeat (first | exact bdl_nil _ | refine bdl_cons (fun _ _ => rfl) ?_)) fun ρ w => ?_
  repeat (first | refine C.seq ?_ | refine C.region ?_ | refine R.zb ttok ?_ | refine R.zu ttok ?_ | refine R.zc ttok ?_ | refine R.za ttok ?_ | refine R.zx ?_ | refine R.zl ttok ?_ | refine R.zs ttok ?_ | refine R.z ttok ?_ | refine R.zk ?_ | refine R.zn ?_ | refine R.done ?_ | refine X.then ?_ | refine C.block ?_ | refine C.ret ?_ | refine C.skip ?_ | refine C.exit ?_ | refine X.pass_ret ?_ | refine X.pass_exit ?_ | refine X.block_normal ?_ | refine X.block_ret ?_ | refine X.block_exit ?_ | refine C.zt ?_ | refine C.zf ?_ | refine X.zo ?_)
  rw [decide_eq_false (show ¬ ((xs.length : Nat) : Int) ≠ (ys.length : Nat) by omega)]
  repeat (first | refine C.seq ?_ | refine C.region ?_ | refine R.zb ttok ?_ | refine R.zu ttok ?_ | refine R.zc ttok ?_ | refine R.za ttok ?_ | refine R.zx ?_ | refine R.zl ttok ?_ | refine R.zs ttok ?_ | refine R.z ttok ?_ | refine R.zk ?_ | refine R.zn ?_ | refine R.done ?_ | refine X.then ?_ | refine C.block ?_ | refine C.ret ?_ | refine C.skip ?_ | refine C.exit ?_ | refine X.pass_ret ?_ | refine X.pass_exit ?_ | refine X.block_normal ?_ | refine X.block_ret ?_ | refine X.block_exit ?_ | refine C.zt ?_ | refine C.zf ?_ | refine X.zo ?_)
  refine C.loop (σ := Nat) (L2 := 2) (fun i => i ≤ xs.length) (fun i => [(0, .sl 0 2 o1 xs.length c1), (1, .sl 1 2 o2 ys.length c2), (5, .raw (.int .i64 (i : Nat)))]) (fun _ => [(0, .ro 2 o1 xs.length (rwF xs)), (1, .ro 2 o2 ys.length (rwF ys))]) _ (fun i => xs.length - i) [] 0 (Nat.zero_le _) rfl (by repeat (first | exact HasT.nil | refine HasT.cons rfl rfl rfl ?_)) (by repeat (first | exact HasH.nil | refine HasH.same rfl rfl rfl trivial ?_ | refine HasH.same rfl rfl rfl rfl ?_ | refine HasH.same rfl rfl rfl (fun _ _ => rfl) ?_ | refine HasH.ros rfl rfl ?_)) rfl (fun _ h => h) ?_
  rintro i hi
  repeat (first | refine C.seq ?_ | refine C.region ?_ | refine R.zb ttok ?_ | refine R.zu ttok ?_ | refine R.zc ttok ?_ | refine R.za ttok ?_ | refine R.zx ?_ | refine R.zl ttok ?_ | refine R.zs ttok ?_ | refine R.z ttok ?_ | refine R.zk ?_ | refine R.zn ?_ | refine R.done ?_ | refine X.then ?_ | refine C.block ?_ | refine C.ret ?_ | refine C.skip ?_ | refine C.exit ?_ | refine X.pass_ret ?_ | refine X.pass_exit ?_ | refine X.block_normal ?_ | refine X.block_ret ?_ | refine X.block_exit ?_ | refine C.zt ?_ | refine C.zf ?_ | refine X.zo ?_)
  by_cases hlt : (i : Int) < (xs.length : Nat)
  · rw [decide_eq_true hlt]
    have h1 : i < xs.length := by omega
    have h2 : i < ys.length := by omega
    have hkey : (xs.getD i zR).key = (ys.getD i zR).key := by
      have e1 : (rkeys xs)[i]? = (rkeys ys)[i]? := by rw [hk]
      rw [List.getElem?_map, List.getElem?_map, List.getElem?_eq_getElem h1, List.getElem?_eq_getElem h2] at e1
      simpa [List.getD, h1, h2] using e1
    have hka : (xs.getD i zR).a = (ys.getD i zR).a := (Prod.mk.inj hkey).1
    have hkp : (xs.getD i zR).p = (ys.getD i zR).p := (Prod.mk.inj hkey).2
    repeat (first | refine C.seq ?_ | refine C.region ?_ | refine R.zb ttok ?_ | refine R.zu ttok ?_ | refine R.zc ttok ?_ | refine R.za ttok ?_ | refine R.zx ?_ | refine R.zl ttok ?_ | refine R.zs ttok ?_ | refine R.z ttok ?_ | refine R.zk ?_ | refine R.zn ?_ | refine R.done ?_ | refine X.then ?_ | refine C.block ?_ | refine C.ret ?_ | refine C.skip ?_ | refine C.exit ?_ | refine X.pass_ret ?_ | refine X.pass_exit ?_ | refine X.block_normal ?_ | refine X.block_ret ?_ | refine X.block_exit ?_ | refine C.zt ?_ | refine C.zf ?_ | refine X.zo ?_)
    refine C.draw [[], [], [0, 1], [0, 1, 2], [0, 1, 2, 3], [], [], [5, 6], [5, 6, 7], [5, 6, 7, 8], [0, 1, 2, 3, 4, 5, 6, 7, 8, 9], [0, 1, 2, 3, 4, 5, 6, 7, 8, 9, 10], [0, 1, 2, 3, 4, 5, 6, 7, 8, 9, 10, 11], [0, 1, 2, 3, 4, 5, 6, 7, 8, 9, 10, 11], [0, 1, 2, 3, 4, 5, 6, 7, 8, 9, 10, 11, 12, 13], [0, 1, 2, 3, 4, 5, 6, 7, 8, 9, 10, 11, 12, 13, 14], [0, 1, 2, 3, 4, 5, 6, 7, 8, 9, 10, 11, 12, 13, 14, 15], [0, 1, 2, 3, 4, 5, 6, 7, 8, 9, 10, 11], [0, 1, 2, 3, 4, 5, 6, 7, 8, 9, 10, 11], [0, 1, 2, 3, 4, 5, 6, 7, 8, 9, 10, 11, 17, 18], [0, 1, 2, 3, 4, 5, 6, 7, 8, 9, 10, 11, 17, 18, 19], [0, 1, 2, 3, 4, 5, 6, 7, 8, 9, 10, 11, 17, 18, 19, 20], [0, 1, 2, 3, 4, 5, 6, 7, 8, 9, 10, 11, 12, 13, 14, 15, 16, 17, 18, 19, 20, 21], [0, 1, 2, 3, 4, 5, 6, 7, 8, 9, 10, 11, 12, 13, 14, 15, 16, 17, 18, 19, 20, 21, 22], [0, 1, 2, 3, 4, 5, 6, 7, 8, 9, 10, 11, 12, 13, 14, 15, 16, 17, 18, 19, 20, 21, 22, 23]] [22] (by kernel_rfl) (by kernel_rfl) ?_
    repeat (first | refine R.zb ttok ?_ | refine R.zu ttok ?_ | refine R.zc ttok ?_ | refine R.za ttok ?_ | refine R.zx ?_ | refine R.zl ttok ?_ | refine R.zs ttok ?_ | refine R.z ttok ?_ | refine R.zk ?_ | refine R.zn ?_)
    refine R.ix ttok i rfl rfl rfl rfl rfl (by kernel_rfl) rfl h1 (by show _ ≤ _ ∧ _ < _; omega) rfl ?_
    repeat (first | refine R.zb ttok ?_ | refine R.zu ttok ?_ | refine R.zc ttok ?_ | refine R.za ttok ?_ | refine R.zx ?_ | refine R.zl ttok ?_ | refine R.zs ttok ?_ | refine R.z ttok ?_ | refine R.zk ?_ | refine R.zn ?_)
    refine R.ldo (v := .raw (.int .i64 ((xs.getD i zR).a : Nat))) ttok rfl rfl rfl rfl rfl (by kernel_rfl) h1 ?_
    repeat (first | refine R.zb ttok ?_ | refine R.zu ttok ?_ | refine R.zc ttok ?_ | refine R.za ttok ?_ | refine R.zx ?_ | refine R.zl ttok ?_ | refine R.zs ttok ?_ | refine R.z ttok ?_ | refine R.zk ?_ | refine R.zn ?_)
    refine R.ix ttok i rfl rfl rfl rfl rfl (by kernel_rfl) rfl h2 (by show _ ≤ _ ∧ _ < _; omega) rfl ?_
    repeat (first | refine R.zb ttok ?_ | refine R.zu ttok ?_ | refine R.zc ttok ?_ | refine R.za ttok ?_ | refine R.zx ?_ | refine R.zl ttok ?_ | refine R.zs ttok ?_ | refine R.z ttok ?_ | refine R.zk ?_ | refine R.zn ?_)
    refine R.ldo (v := .raw (.int .i64 ((ys.getD i zR).a : Nat))) ttok rfl rfl rfl rfl rfl (by kernel_rfl) h2 ?_
    rw [hka]
    repeat (first | refine R.zb ttok ?_ | refine R.zu ttok ?_ | refine R.zc ttok ?_ | refine R.za ttok ?_ | refine R.zx ?_ | refine R.zl ttok ?_ | refine R.zs ttok ?_ | refine R.z ttok ?_ | refine R.zk ?_ | refine R.zn ?_)
    rw [decide_eq_false (show ¬ (((ys.getD i zR).a : Nat) : Int) ≠ ((ys.getD i zR).a : Nat) from fun h => h rfl)]
    repeat (first | refine R.zb ttok ?_ | refine R.zu ttok ?_ | refine R.zc ttok ?_ | refine R.za ttok ?_ | refine R.zx ?_ | refine R.zl ttok ?_ | refine R.zs ttok ?_ | refine R.z ttok ?_ | refine R.zk ?_ | refine R.zn ?_)
    refine R.ix ttok i rfl rfl rfl rfl rfl (by kernel_rfl) rfl h1 (by show _ ≤ _ ∧ _ < _; omega) rfl ?_
    repeat (first | refine R.zb ttok ?_ | refine R.zu ttok ?_ | refine R.zc ttok ?_ | refine R.za ttok ?_ | refine R.zx ?_ | refine R.zl ttok ?_ | refine R.zs ttok ?_ | refine R.z ttok ?_ | refine R.zk ?_ | refine R.zn ?_)
    refine R.ldo (v := .raw (.slice (some ⟨(xs.getD i zR).b, 0, none⟩) (xs.getD i zR).p.length (xs.getD i zR).c)) ttok rfl rfl rfl rfl rfl (by kernel_rfl) h1 ?_
    have hxi := ha _ (rw_get h1)
    have hyi := hb _ (rw_get h2)
    refine R.labB (p := (xs.getD i zR).fact) hxi.2 33 hxi.1 rfl rfl ?_
    repeat (first | refine R.zb ttok ?_ | refine R.zu ttok ?_ | refine R.zc ttok ?_ | refine R.za ttok ?_ | refine R.zx ?_ | refine R.zl ttok ?_ | refine R.zs ttok ?_ | refine R.z ttok ?_ | refine R.zk ?_ | refine R.zn ?_)
    refine R.ix ttok i rfl rfl rfl rfl rfl (by kernel_rfl) rfl h2 (by show _ ≤ _ ∧ _ < _; omega) rfl ?_
    repeat (first | refine R.zb ttok ?_ | refine R.zu ttok ?_ | refine R.zc ttok ?_ | refine R.za ttok ?_ | refine R.zx ?_ | refine R.zl ttok ?_ | refine R.zs ttok ?_ | refine R.z ttok ?_ | refine R.zk ?_ | refine R.zn ?_)
    refine R.ldo (v := .raw (.slice (some ⟨(ys.getD i zR).b, 0, none⟩) (ys.getD i zR).p.length (ys.getD i zR).c)) ttok rfl rfl rfl rfl rfl (by kernel_rfl) h2 ?_
    refine R.labB (p := (ys.getD i zR).fact) hyi.2 38 hyi.1 rfl rfl ?_
    repeat (first | refine R.zb ttok ?_ | refine R.zu ttok ?_ | refine R.zc ttok ?_ | refine R.za ttok ?_ | refine R.zx ?_ | refine R.zl ttok ?_ | refine R.zs ttok ?_ | refine R.z ttok ?_ | refine R.zk ?_ | refine R.zn ?_)
    refine R.cl [2, 3] (same_spec 0 0 _ _ (xs.getD i zR).p (ys.getD i zR).p (hpl _ (rw_get h1))) Try.call14 (by repeat (first | exact HasIn.nil | refine HasIn.same rfl rfl ?_ | refine HasIn.bro rfl ?_ | refine HasIn.ror rfl ?_ | refine HasIn.cro rfl rfl ?_)) rfl rfl rfl (fun _ => rfl) rfl (by kernel_rfl) fun _ _ => ?_
    rw [decide_eq_true hkp]
    repeat (first | refine C.seq ?_ | refine C.region ?_ | refine R.zb ttok ?_ | refine R.zu ttok ?_ | refine R.zc ttok ?_ | refine R.za ttok ?_ | refine R.zx ?_ | refine R.zl ttok ?_ | refine R.zs ttok ?_ | refine R.z ttok ?_ | refine R.zk ?_ | refine R.zn ?_ | refine R.done ?_ | refine X.then ?_ | refine C.block ?_ | refine C.ret ?_ | refine C.skip ?_ | refine C.exit ?_ | refine X.pass_ret ?_ | refine X.pass_exit ?_ | refine X.block_normal ?_ | refine X.block_ret ?_ | refine X.block_exit ?_ | refine C.zt ?_ | refine C.zf ?_ | refine X.zo ?_)
    exact X.back [] (i + 1) (by omega) (by omega) rfl (by repeat (first | exact HasT.nil | refine HasT.cons rfl rfl rfl ?_)) (by repeat (first | exact HasH.nil | refine HasH.same rfl rfl rfl trivial ?_ | refine HasH.same rfl rfl rfl rfl ?_ | refine HasH.same rfl rfl rfl (fun _ _ => rfl) ?_ | refine HasH.ros rfl rfl ?_)) rfl (fun _ h => h)
  · rw [decide_eq_false hlt]
    repeat (first | refine C.seq ?_ | refine C.region ?_ | refine R.zb ttok ?_ | refine R.zu ttok ?_ | refine R.zc ttok ?_ | refine R.za ttok ?_ | refine R.zx ?_ | refine R.zl ttok ?_ | refine R.zs ttok ?_ | refine R.z ttok ?_ | refine R.zk ?_ | refine R.zn ?_ | refine R.done ?_ | refine X.then ?_ | refine C.block ?_ | refine C.ret ?_ | refine C.skip ?_ | refine C.exit ?_ | refine X.pass_ret ?_ | refine X.pass_exit ?_ | refine X.block_normal ?_ | refine X.block_ret ?_ | refine X.block_exit ?_ | refine C.zt ?_ | refine C.zf ?_ | refine X.zo ?_)
    refine X.finF ttok () [] trivial rfl rfl rfl (by repeat (first | exact HasH.nil | refine HasH.same rfl rfl rfl trivial ?_ | refine HasH.same rfl rfl rfl rfl ?_ | refine HasH.same rfl rfl rfl (fun _ _ => rfl) ?_ | refine HasH.ros rfl rfl ?_)) _ (by first | exact .inl rfl | exact .inr rfl) ?_ ?_ ?_
    · exact fun w hf => hf.ap
    · exact fun p hp => hp
    · exact fun p hp e => ⟨p, hp, rfl⟩
end Go.Proofs.Ytggnjgnjgnlchaa
/- frame: scanned -/
namespace Go.Proofs.Ytggnjgnjgnlchaa
set_option linter.unusedVariables false
set_option linter.unusedSimpArgs false
open Go.RowKit
set_option maxRecDepth 100000
set_option maxHeartbeats 4000000
theorem facts_snoc {rs : List Rw} {r : Rw} {fs : Fam} (h : ∀ p ∈ facts rs, p ∈ fs) : ∀ p ∈ facts (rs ++ [r]), p ∈ r.fact :: fs := fun x hx => by
  rw [facts_app] at hx
  rcases List.mem_append.1 hx with hx | hx
  · exact List.mem_cons_of_mem _ (h x hx)
  · obtain rfl : x = r.fact := by simpa [facts] using hx
    exact List.mem_cons_self
theorem fscd1_spec (rs : List Rw) (cr cq at_ : Nat) (q : List UInt8) (st : Int) (hq : 0 < q.length) (hcr : cr ≤ 9223372036854775807) (hrl : rs.length < 200000) (hst : -9223372036854775808 ≤ st ∧ st ≤ 9223372036854775807) :
    SpecF Try.prog 39 [.raw (.int .i64 (at_ : Nat)), .sl 0 1 0 q.length cq, .ptr 1 0 0 0, .ptr 2 0 0 0, .ptr 3 0 0 0, .ptr 4 0 0 0] [.bytes q cq 5, flO true, flO false, wtO 5 rs.length cr, ctO st, tbR rs cr] 7 (facts rs) (σ := Rw × Nat) (fun s => s.1.a = at_ ∧ s.1.p = q ∧ s.1.ok ∧ rs.length + 1 ≤ s.2 ∧ s.2 ≤ 9223372036854775807)
    (fun _ => .raw (.bool (!decide ((rs.length : Int) + 1 = st)))) (fun s => [(1, flO true), (2, flO (decide ((rs.length : Int) + 1 = st))), (3, wtO 6 (rs.length + 1) s.2), (4, ctO st), (6, tbR (rs ++ [s.1]) s.2)]) (fun s => facts (rs ++ [s.1])) := by
  refine SpecF.of Try.func39 rfl Try.ntmps39 rfl (by repeat (first | exact bdl_nil _ | refine bdl_cons (fun _ _ => rfl) ?_ | refine bdl_cons trivial ?_ | refine bdl_cons rfl ?_)) fun ρ w => ?_
  refine C.seq ?_
  refine C.region ?_
  repeat (first | refine R.zb ttok ?_ | refine R.zu ttok ?_ | refine R.zc ttok ?_ | refine R.za ttok ?_ | refine R.zx ?_ | refine R.zl ttok ?_ | refine R.zs ttok ?_ | refine R.z ttok ?_ | refine R.zk ?_ | refine R.zn ?_)
  refine R.done ?_
  refine X.then ?_
  refine C.seq ?_
  refine C.region ?_
  repeat (first | refine R.zb ttok ?_ | refine R.zu ttok ?_ | refine R.zc ttok ?_ | refine R.za ttok ?_ | refine R.zx ?_ | refine R.zl ttok ?_ | refine R.zs ttok ?_ | refine R.z ttok ?_ | refine R.zk ?_ | refine R.zn ?_)
  refine R.done ?_
  refine X.then ?_
  refine C.seq ?_
  refine C.region ?_
  refine R.frzB false 1 0 (w1 := 1) rfl hq rfl fun bb ob hob hne => ?_
  repeat (first | refine R.zb ttok ?_ | refine R.zu ttok ?_ | refine R.zc ttok ?_ | refine R.za ttok ?_ | refine R.zx ?_ | refine R.zl ttok ?_ | refine R.zs ttok ?_ | refine R.z ttok ?_ | refine R.zk ?_ | refine R.zn ?_)
  obtain ⟨r, hr⟩ : ∃ r : Rw, r = ⟨at_, q, bb, ob, cq⟩ := ⟨_, rfl⟩
  have hlen : (rs ++ [r]).length = rs.length + 1 := by rw [List.length_append]; rfl
  refine R.app (xs := rws rs) (news := rws [r]) ttok (fun c => tbR (rs ++ [r]) c) rfl rfl (dstRw rfl) (SrcA.cells rfl (by rw [hr]; rfl)) (asRw _ _ _ (rws_app _ _).symm) rfl rfl rfl rfl rfl rfl (by decide) (by rw [hr]; rfl) (by rw [hr]; rfl) rfl (by kernel_rfl) hcr (by show (rs.length + 1) * 32 ≤ _; omega) (by omega) fun cA hA hA2 => ?_
  repeat (first | refine C.seq ?_ | refine C.region ?_ | refine R.zb ttok ?_ | refine R.zu ttok ?_ | refine R.zc ttok ?_ | refine R.za ttok ?_ | refine R.zx ?_ | refine R.zl ttok ?_ | refine R.zs ttok ?_ | refine R.z ttok ?_ | refine R.zk ?_ | refine R.zn ?_ | refine R.done ?_ | refine X.then ?_ | refine C.block ?_ | refine C.ret ?_ | refine C.skip ?_ | refine C.exit ?_ | refine X.pass_ret ?_ | refine X.pass_exit ?_ | refine X.block_normal ?_ | refine X.block_ret ?_ | refine X.block_exit ?_ | refine C.zt ?_ | refine C.zf ?_ | refine X.zo ?_)
  have hcast : ((rs.length + 1 : Nat) : Int) = (rs.length : Int) + 1 := by omega
  have hfin : ∀ p ∈ facts (rs ++ [r]), p ∈ (⟨false, bb, ob⟩ :: facts rs : Fam) := by
    subst hr
    exact facts_snoc (r := ⟨at_, q, bb, ob, cq⟩) fun p hp => hp
  have hG : (r, cA).1.a = at_ ∧ (r, cA).1.p = q ∧ (r, cA).1.ok ∧ rs.length + 1 ≤ (r, cA).2 ∧ (r, cA).2 ≤ 9223372036854775807 := by subst hr; exact ⟨rfl, rfl, hob, hA, hA2⟩
  rw [hcast]
  cases hd : decide ((rs.length : Int) + 1 = st) with
  | true =>
    repeat (first | refine C.seq ?_ | refine C.region ?_ | refine R.zb ttok ?_ | refine R.zu ttok ?_ | refine R.zc ttok ?_ | refine R.za ttok ?_ | refine R.zx ?_ | refine R.zl ttok ?_ | refine R.zs ttok ?_ | refine R.z ttok ?_ | refine R.zk ?_ | refine R.zn ?_ | refine R.done ?_ | refine X.then ?_ | refine C.block ?_ | refine C.ret ?_ | refine C.skip ?_ | refine C.exit ?_ | refine X.pass_ret ?_ | refine X.pass_exit ?_ | refine X.block_normal ?_ | refine X.block_ret ?_ | refine X.block_exit ?_ | refine C.zt ?_ | refine C.zf ?_ | refine X.zo ?_)
    refine X.finF ttok (r, cA) [(6, 7)] hG rfl rfl rfl (by repeat (first | exact HasH.nil | refine HasH.same rfl rfl rfl trivial ?_ | refine HasH.same rfl rfl rfl rfl ?_ | refine HasH.same rfl rfl rfl (fun _ _ => rfl) ?_ | refine HasH.ros rfl rfl ?_)) _ (by first | exact .inl rfl | exact .inr rfl) ?_ ?_ ?_
    · exact fun w hf => apf_ro (facts_ro _)
    · exact hfin
    · exact fun p hp e => absurd e (by rw [facts_ro _ p hp]; simp)
  | false =>
    repeat (first | refine C.seq ?_ | refine C.region ?_ | refine R.zb ttok ?_ | refine R.zu ttok ?_ | refine R.zc ttok ?_ | refine R.za ttok ?_ | refine R.zx ?_ | refine R.zl ttok ?_ | refine R.zs ttok ?_ | refine R.z ttok ?_ | refine R.zk ?_ | refine R.zn ?_ | refine R.done ?_ | refine X.then ?_ | refine C.block ?_ | refine C.ret ?_ | refine C.skip ?_ | refine C.exit ?_ | refine X.pass_ret ?_ | refine X.pass_exit ?_ | refine X.block_normal ?_ | refine X.block_ret ?_ | refine X.block_exit ?_ | refine C.zt ?_ | refine C.zf ?_ | refine X.zo ?_)
    rw [hcast, decide_eq_false (show ¬ 200000 < (rs.length : Int) + 1 by omega)]
    repeat (first | refine C.seq ?_ | refine C.region ?_ | refine R.zb ttok ?_ | refine R.zu ttok ?_ | refine R.zc ttok ?_ | refine R.za ttok ?_ | refine R.zx ?_ | refine R.zl ttok ?_ | refine R.zs ttok ?_ | refine R.z ttok ?_ | refine R.zk ?_ | refine R.zn ?_ | refine R.done ?_ | refine X.then ?_ | refine C.block ?_ | refine C.ret ?_ | refine C.skip ?_ | refine C.exit ?_ | refine X.pass_ret ?_ | refine X.pass_exit ?_ | refine X.block_normal ?_ | refine X.block_ret ?_ | refine X.block_exit ?_ | refine C.zt ?_ | refine C.zf ?_ | refine X.zo ?_)
    refine X.finF ttok (r, cA) [(6, 7)] hG rfl rfl rfl (by repeat (first | exact HasH.nil | refine HasH.same rfl rfl rfl trivial ?_ | refine HasH.same rfl rfl rfl rfl ?_ | refine HasH.same rfl rfl rfl (fun _ _ => rfl) ?_ | refine HasH.ros rfl rfl ?_)) _ (by first | exact .inl rfl | exact .inr rfl) ?_ ?_ ?_
    · exact fun w hf => apf_ro (facts_ro _)
    · exact hfin
    · exact fun p hp e => absurd e (by rw [facts_ro _ p hp]; simp)
/-- how far one goes -/
def stp (st : Int) (l : List (Nat × List UInt8)) : List (Nat × List UInt8) := if 1 ≤ st then l.take st.toNat else l
theorem fgo2_spec (c : Nat) (p : List UInt8) (st : Int) (hc : p.length ≤ c) (hl : p.length ≤ 200000) (hst : -9223372036854775808 ≤ st ∧ st ≤ 9223372036854775807) :
    SpecF Try.prog 38 [.fn 39 [.ptr 2 0 0 0, .ptr 3 0 0 0, .ptr 4 0 0 0, .ptr 5 0 0 0], .ptr 0 0 0 0] [bxO 1 p.length c, roBo 0 p, flO true, flO false, wtO 6 0 0, ctO st, tbR [] 0] 8 [] (σ := (List Rw × Nat) × Bool) (fun s => rkeys s.1.1 = stp st (scanK p 0) ∧ (∀ r ∈ s.1.1, r.ok) ∧ s.1.1.length ≤ s.1.2 ∧ s.1.2 ≤ 9223372036854775807) (fun _ => .tup [])
    (fun s => [(0, bxO 1 p.length c), (2, flO true), (3, flO s.2), (4, wtO 7 s.1.1.length s.1.2), (5, ctO st), (7, tbR s.1.1 s.1.2)]) (fun s => facts s.1.1) := by
  refine SpecF.of Try.func38 rfl Try.ntmps38 rfl (by repeat (first | exact bdl_nil _ | refine bdl_cons (fun _ _ => rfl) ?_ | refine bdl_cons rfl ?_)) fun ρ w => ?_
  repeat (first | refine C.seq ?_ | refine C.region ?_ | refine R.zb ttok ?_ | refine R.zu ttok ?_ | refine R.zc ttok ?_ | refine R.za ttok ?_ | refine R.zx ?_ | refine R.zl ttok ?_ | refine R.zs ttok ?_ | refine R.z ttok ?_ | refine R.zk ?_ | refine R.zn ?_ | refine R.done ?_ | refine X.then ?_ | refine C.block ?_ | refine C.ret ?_ | refine C.skip ?_ | refine C.exit ?_ | refine X.pass_ret ?_ | refine X.pass_exit ?_ | refine X.block_normal ?_ | refine X.block_ret ?_ | refine X.block_exit ?_ | refine C.zt ?_ | refine C.zf ?_ | refine X.zo ?_)
  refine C.loopG (σ := Nat × List Rw × Nat) (L2 := 8) (fun s => s.1 ≤ p.length ∧ rkeys s.2.1 ++ scanK p s.1 = scanK p 0 ∧ (1 ≤ st → (s.2.1.length : Int) < st) ∧ (∀ r ∈ s.2.1, r.ok) ∧ s.2.1.length ≤ s.2.2 ∧ s.2.2 ≤ 9223372036854775807)
    (fun s => [(0, .fn 39 [.ptr 2 0 0 0, .ptr 3 0 0 0, .ptr 4 0 0 0, .ptr 5 0 0 0]), (1, .ptr 0 0 0 0), (3, .raw (.int .i64 (s.1 : Nat)))]) (fun s => [(0, bxO 1 p.length c), (1, roBo 0 p), (2, flO true), (3, flO false), (4, wtO 7 s.2.1.length s.2.2), (5, ctO st), (7, tbR s.2.1 s.2.2)]) (fun s => FF [bxO 1 p.length c, roBo 0 p, flO true, flO false, wtO 6 0 0, ctO st, tbR [] 0] ρ w [] (facts s.2.1)) (fun s => p.length + 1 - s.1) [(7, 6)] (0, [], 0)
    ⟨Nat.zero_le _, rfl, fun h => by show ((0 : Nat) : Int) < st; omega, by simp, Nat.le_refl _, by simp⟩ rfl (by repeat (first | exact HasT.nil | refine HasT.cons rfl rfl rfl ?_)) (by repeat (first | exact HasH.nil | refine HasH.same rfl rfl rfl trivial ?_ | refine HasH.same rfl rfl rfl rfl ?_ | refine HasH.same rfl rfl rfl (fun _ _ => rfl) ?_ | refine HasH.ros rfl rfl ?_)) rfl (fun _ h => h) ?_
  rintro ⟨k, rs, cr⟩ ⟨hk, hks, hlt, hok, hrc, hcr⟩
  dsimp only at hk hks hlt hok hrc hcr ⊢
  have hrl : rs.length ≤ 200000 := by
    have h1 := congrArg List.length hks
    have h2 := scanK_le (p := p) (k := 0) (Nat.zero_le _)
    simp at h1
    omega
  repeat (first | refine C.seq ?_ | refine C.region ?_ | refine R.zb ttok ?_ | refine R.zu ttok ?_ | refine R.zc ttok ?_ | refine R.za ttok ?_ | refine R.zx ?_ | refine R.zl ttok ?_ | refine R.zs ttok ?_ | refine R.z ttok ?_ | refine R.zk ?_ | refine R.zn ?_ | refine R.done ?_ | refine X.then ?_ | refine C.block ?_ | refine C.ret ?_ | refine C.skip ?_ | refine C.exit ?_ | refine X.pass_ret ?_ | refine X.pass_exit ?_ | refine X.block_normal ?_ | refine X.block_ret ?_ | refine X.block_exit ?_ | refine C.zt ?_ | refine C.zf ?_ | refine X.zo ?_)
  refine R.cl [1] (next_spec 0 c p k hc (by omega) hk) Try.call35 (by repeat (first | exact HasIn.nil | refine HasIn.same rfl rfl ?_ | refine HasIn.bro rfl ?_ | refine HasIn.ror rfl ?_ | refine HasIn.cro rfl rfl ?_)) rfl rfl rfl (fun _ => rfl) rfl (by kernel_rfl) fun _ _ => ?_
  cases hx : nextN p k with
  | error x =>
    have hx2 := next_err hx
    rw [show nxV 0 c p k = .tup [.raw (.slice none 0 0), .raw (.int .i64 0), .raw (.int .i64 (x : Nat))] by unfold nxV; rw [hx]]
    repeat (first | refine C.seq ?_ | refine C.region ?_ | refine R.zb ttok ?_ | refine R.zu ttok ?_ | refine R.zc ttok ?_ | refine R.za ttok ?_ | refine R.zx ?_ | refine R.zl ttok ?_ | refine R.zs ttok ?_ | refine R.z ttok ?_ | refine R.zk ?_ | refine R.zn ?_ | refine R.done ?_ | refine X.then ?_ | refine C.block ?_ | refine C.ret ?_ | refine C.skip ?_ | refine C.exit ?_ | refine X.pass_ret ?_ | refine X.pass_exit ?_ | refine X.block_normal ?_ | refine X.block_ret ?_ | refine X.block_exit ?_ | refine C.zt ?_ | refine C.zf ?_ | refine X.zo ?_)
    rw [decide_eq_true (show (x : Int) ≠ 0 by omega)]
    repeat (first | refine C.seq ?_ | refine C.region ?_ | refine R.zb ttok ?_ | refine R.zu ttok ?_ | refine R.zc ttok ?_ | refine R.za ttok ?_ | refine R.zx ?_ | refine R.zl ttok ?_ | refine R.zs ttok ?_ | refine R.z ttok ?_ | refine R.zk ?_ | refine R.zn ?_ | refine R.done ?_ | refine X.then ?_ | refine C.block ?_ | refine C.ret ?_ | refine C.skip ?_ | refine C.exit ?_ | refine X.pass_ret ?_ | refine X.pass_exit ?_ | refine X.block_normal ?_ | refine X.block_ret ?_ | refine X.block_exit ?_ | refine C.zt ?_ | refine C.zf ?_ | refine X.zo ?_)
    rw [scanK_err hx, List.append_nil] at hks
    have hkst : rkeys rs = stp st (scanK p 0) := by
      unfold stp
      rw [← hks]
      split
      · rename_i h
        have := hlt h
        rw [List.take_of_length_le (by simp; omega)]
      · rfl
    refine X.finF ttok ((rs, cr), false) [] ⟨hkst, hok, hrc, hcr⟩ rfl rfl rfl (by repeat (first | exact HasH.nil | refine HasH.same rfl rfl rfl trivial ?_ | refine HasH.same rfl rfl rfl rfl ?_ | refine HasH.same rfl rfl rfl (fun _ _ => rfl) ?_ | refine HasH.ros rfl rfl ?_)) _ (by first | exact .inl rfl | exact .inr rfl) ?_ ?_ ?_
    · exact fun w hf => hf.ap
    · exact fun p hp => hp
    · exact fun p hp => by cases hp
  | ok r =>
    obtain ⟨b, e⟩ := r
    have h1 := next_ok hx
    rw [scanK_ok hx] at hks
    have hrl2 : rs.length < 200000 := by
      have h2 := congrArg List.length hks
      have h3 := scanK_le (p := p) (k := 0) (Nat.zero_le _)
      simp at h2
      omega
    rw [show nxV 0 c p k = .tup [.sl 0 1 (0 + (k + 8)) b.length (c - (k + 8)), .raw (.int .i64 (e : Nat)), .raw (.int .i64 0)] by unfold nxV; rw [hx]]
    repeat (first | refine C.seq ?_ | refine C.region ?_ | refine R.zb ttok ?_ | refine R.zu ttok ?_ | refine R.zc ttok ?_ | refine R.za ttok ?_ | refine R.zx ?_ | refine R.zl ttok ?_ | refine R.zs ttok ?_ | refine R.z ttok ?_ | refine R.zk ?_ | refine R.zn ?_ | refine R.done ?_ | refine X.then ?_ | refine C.block ?_ | refine C.ret ?_ | refine C.skip ?_ | refine C.exit ?_ | refine X.pass_ret ?_ | refine X.pass_exit ?_ | refine X.block_normal ?_ | refine X.block_ret ?_ | refine X.block_exit ?_ | refine C.zt ?_ | refine C.zf ?_ | refine X.zo ?_)
    refine R.cl [1] (clone_spec (0 + (k + 8)) (c - (k + 8)) b (by omega)) Try.call36 (.pr rfl (part_body hx) .nil) rfl rfl rfl (fun _ => rfl) rfl (by kernel_rfl) fun c2 hc2 => ?_
    repeat (first | refine R.zb ttok ?_ | refine R.zu ttok ?_ | refine R.zc ttok ?_ | refine R.za ttok ?_ | refine R.zx ?_ | refine R.zl ttok ?_ | refine R.zs ttok ?_ | refine R.z ttok ?_ | refine R.zk ?_ | refine R.zn ?_)
    refine R.clR [8, 2, 3, 4, 5, 7] (fscd1_spec rs cr c2 k b st h1.2.2.1 hcr hrl2 hst) (facts_ro rs) Try.call39 (by repeat (first | exact HasIn.nil | refine HasIn.same rfl rfl ?_ | refine HasIn.bro rfl ?_ | refine HasIn.ror rfl ?_ | refine HasIn.cro rfl rfl ?_)) rfl rfl rfl (fun _ => rfl) rfl (by kernel_rfl) fun s hs => ?_
    have hlen : (rs ++ [s.1]).length = rs.length + 1 := by rw [List.length_append]; rfl
    have hkeys : rkeys (rs ++ [s.1]) ++ scanK p e = scanK p 0 := by
      rw [← hks]
      simp [Rw.key, hs.1, hs.2.1]
    have hok2 : ∀ r ∈ rs ++ [s.1], r.ok := fun x hx => by
      rcases List.mem_append.1 hx with hx | hx
      · exact hok x hx
      · obtain rfl : x = s.1 := by simpa using hx
        exact hs.2.2.1
    cases hd : decide ((rs.length : Int) + 1 = st) with
    | true =>
      have hd := of_decide_eq_true hd
      have hkst : rkeys (rs ++ [s.1]) = stp st (scanK p 0) := by
        unfold stp
        rw [if_pos (by omega), ← hkeys, List.take_append_of_le_length (by simp; omega), List.take_of_length_le (by simp; omega)]
      repeat (first | refine C.seq ?_ | refine C.region ?_ | refine R.zb ttok ?_ | refine R.zu ttok ?_ | refine R.zc ttok ?_ | refine R.za ttok ?_ | refine R.zx ?_ | refine R.zl ttok ?_ | refine R.zs ttok ?_ | refine R.z ttok ?_ | refine R.zk ?_ | refine R.zn ?_ | refine R.done ?_ | refine X.then ?_ | refine C.block ?_ | refine C.ret ?_ | refine C.skip ?_ | refine C.exit ?_ | refine X.pass_ret ?_ | refine X.pass_exit ?_ | refine X.block_normal ?_ | refine X.block_ret ?_ | refine X.block_exit ?_ | refine C.zt ?_ | refine C.zf ?_ | refine X.zo ?_)
      rw [← hlen]
      refine X.finF ttok ((rs ++ [s.1], s.2), true) [(7, 9)] ⟨hkst, hok2, by rw [hlen]; exact hs.2.2.2.1, hs.2.2.2.2⟩ rfl rfl rfl (by repeat (first | exact HasH.nil | refine HasH.same rfl rfl rfl trivial ?_ | refine HasH.same rfl rfl rfl rfl ?_ | refine HasH.same rfl rfl rfl (fun _ _ => rfl) ?_ | refine HasH.ros rfl rfl ?_)) _ (by first | exact .inl rfl | exact .inr rfl) ?_ ?_ ?_
      · exact fun w hf => hf.ap
      · exact fun p hp => hp
      · exact fun p hp => by cases hp
    | false =>
      have hd := of_decide_eq_false hd
      repeat (first | refine C.seq ?_ | refine C.region ?_ | refine R.zb ttok ?_ | refine R.zu ttok ?_ | refine R.zc ttok ?_ | refine R.za ttok ?_ | refine R.zx ?_ | refine R.zl ttok ?_ | refine R.zs ttok ?_ | refine R.z ttok ?_ | refine R.zk ?_ | refine R.zn ?_ | refine R.done ?_ | refine X.then ?_ | refine C.block ?_ | refine C.ret ?_ | refine C.skip ?_ | refine C.exit ?_ | refine X.pass_ret ?_ | refine X.pass_exit ?_ | refine X.block_normal ?_ | refine X.block_ret ?_ | refine X.block_exit ?_ | refine C.zt ?_ | refine C.zf ?_ | refine X.zo ?_)
      rw [← hlen]
      refine X.backG [(7, 9)] (e, rs ++ [s.1], s.2) ⟨h1.2.1, hkeys, fun h => ?_, hok2, by rw [hlen]; exact hs.2.2.2.1, hs.2.2.2.2⟩ (by show _ - e < _ - k; omega) rfl (by repeat (first | exact HasT.nil | refine HasT.cons rfl rfl rfl ?_)) (by repeat (first | exact HasH.nil | refine HasH.same rfl rfl rfl trivial ?_ | refine HasH.same rfl rfl rfl rfl ?_ | refine HasH.same rfl rfl rfl (fun _ _ => rfl) ?_ | refine HasH.ros rfl rfl ?_)) rfl (fun _ h => h)
      have := hlt h
      show ((rs ++ [s.1]).length : Int) < st
      omega
end Go.Proofs.Ytggnjgnjgnlchaa
/- frame: scanned, FrameScans -/
namespace Go.Proofs.Ytggnjgnjgnlchaa
set_option linter.unusedVariables false
set_option linter.unusedSimpArgs false
open Go.RowKit
set_option maxRecDepth 100000
set_option maxHeartbeats 4000000
theorem stp_len {p : List UInt8} {st : Int} : (stp st (scanK p 0)).length ≤ p.length := by
  have h2 := scanK_le (p := p) (k := 0) (Nat.zero_le _)
  unfold stp
  split
  · rw [List.length_take]; omega
  · omega
theorem stp_le {p : List UInt8} {st : Int} {rs : List Rw} (hl : p.length ≤ 200000) (h : rkeys rs = stp st (scanK p 0)) : rs.length ≤ 200000 := by
  have h1 := congrArg List.length h
  have h2 := stp_len (p := p) (st := st)
  simp at h1
  omega
theorem scanned_spec (off c : Nat) (p : List UInt8) (st : Int) (hl : p.length ≤ 200000) (hst : -9223372036854775808 ≤ st ∧ st ≤ 9223372036854775807) :
    SpecF Try.prog 24 [.sl 0 1 off p.length c, .raw (.int .i64 st)] [roBo off p] 2 [] (σ := List Rw × Nat) (fun s => rkeys s.1 = stp st (scanK p 0) ∧ (∀ r ∈ s.1, r.ok) ∧ s.1.length ≤ s.2 ∧ s.2 ≤ 9223372036854775807)
    (fun s => .tup [.sl 1 2 0 s.1.length s.2, .raw (.bool true)]) (fun s => [(1, tbR s.1 s.2)]) (fun s => facts s.1) := by
  refine SpecF.of Try.func24 rfl Try.ntmps24 rfl (by repeat (first | exact bdl_nil _ | refine bdl_cons (fun _ _ => rfl) ?_ | refine bdl_cons trivial ?_ | refine bdl_cons rfl ?_ | refine bdl_cons (rowsF_bd _ _ _ _) ?_ | refine bdl_cons (rowsS_bd _ _ _ _) ?_)) fun ρ w => ?_
  repeat (first | refine C.seq ?_ | refine C.region ?_ | refine R.zb ttok ?_ | refine R.zu ttok ?_ | refine R.zc ttok ?_ | refine R.za ttok ?_ | refine R.zx ?_ | refine R.zl ttok ?_ | refine R.zs ttok ?_ | refine R.z ttok ?_ | refine R.zk ?_ | refine R.zn ?_ | refine R.done ?_ | refine X.then ?_ | refine C.block ?_ | refine C.ret ?_ | refine C.skip ?_ | refine C.exit ?_ | refine X.pass_ret ?_ | refine X.pass_exit ?_ | refine X.block_normal ?_ | refine X.block_ret ?_ | refine X.block_exit ?_ | refine C.zt ?_ | refine C.zf ?_ | refine X.zo ?_)
  refine R.cl [0] (fscan_spec off c p (by omega)) Try.call20 (by repeat (first | exact HasIn.nil | refine HasIn.same rfl rfl ?_ | refine HasIn.bro rfl ?_ | refine HasIn.ror rfl ?_ | refine HasIn.cro rfl rfl ?_)) rfl rfl rfl (fun _ => rfl) rfl (by kernel_rfl) fun c2 hc2 => ?_
  repeat (first | refine R.zb ttok ?_ | refine R.zu ttok ?_ | refine R.zc ttok ?_ | refine R.za ttok ?_ | refine R.zx ?_ | refine R.zl ttok ?_ | refine R.zs ttok ?_ | refine R.z ttok ?_ | refine R.zk ?_ | refine R.zn ?_)
  refine R.done ?_
  refine X.then ?_
  refine C.noneH 2 [.sl 7 2 0 0 0] (.tab 2 0 0 (rwF []) 42) (none_tab _ _ _ _) rfl rfl rfl (fun ρ h => by have h : ρ 7 = none := h; simp [AV.concs, AV.conc, h]) ?_
  refine C.fact (bytes_le (l := 6) rfl) fun hc3 => ?_
  repeat (first | refine C.seq ?_ | refine C.region ?_ | refine R.zb ttok ?_ | refine R.zu ttok ?_ | refine R.zc ttok ?_ | refine R.za ttok ?_ | refine R.zx ?_ | refine R.zl ttok ?_ | refine R.zs ttok ?_ | refine R.z ttok ?_ | refine R.zk ?_ | refine R.zn ?_ | refine R.done ?_ | refine X.then ?_ | refine C.block ?_ | refine C.ret ?_ | refine C.skip ?_ | refine C.exit ?_ | refine X.pass_ret ?_ | refine X.pass_exit ?_ | refine X.block_normal ?_ | refine X.block_ret ?_ | refine X.block_exit ?_ | refine C.zt ?_ | refine C.zf ?_ | refine X.zo ?_)
  refine R.clG [5, 6, 4, 3, 2, 1, 7] (fgo2_spec _ p st hc3 hl hst) Try.call38 (by repeat (first | exact HasIn.nil | refine HasIn.same rfl rfl ?_ | refine HasIn.bro rfl ?_ | refine HasIn.ror rfl ?_ | refine HasIn.cro rfl rfl ?_)) rfl rfl rfl (fun _ => rfl) rfl (by kernel_rfl) fun s hs => ?_
  repeat (first | refine R.zb ttok ?_ | refine R.zu ttok ?_ | refine R.zc ttok ?_ | refine R.za ttok ?_ | refine R.zx ?_ | refine R.zl ttok ?_ | refine R.zs ttok ?_ | refine R.z ttok ?_ | refine R.zk ?_ | refine R.zn ?_)
  refine R.done ?_
  refine X.then ?_
  refine C.seq ?_
  refine C.draw [[], [], [1], [1, 2], [1, 2, 3], [1, 2, 3, 4], [1, 2, 3, 4, 5], [0, 1, 2], [0, 1, 2, 3, 4, 5, 6, 7]] [] (by kernel_rfl) (by kernel_rfl) ?_
  repeat (first | refine R.zb ttok ?_ | refine R.zu ttok ?_ | refine R.zc ttok ?_ | refine R.za ttok ?_ | refine R.zx ?_ | refine R.zl ttok ?_ | refine R.zs ttok ?_ | refine R.z ttok ?_ | refine R.zk ?_ | refine R.zn ?_)
  have hrl := stp_le hl hs.1
  rw [decide_eq_true (show (s.1.1.length : Int) ≤ 200000 by omega)]
  repeat (first | refine C.seq ?_ | refine C.region ?_ | refine R.zb ttok ?_ | refine R.zu ttok ?_ | refine R.zc ttok ?_ | refine R.za ttok ?_ | refine R.zx ?_ | refine R.zl ttok ?_ | refine R.zs ttok ?_ | refine R.z ttok ?_ | refine R.zk ?_ | refine R.zn ?_ | refine R.done ?_ | refine X.then ?_ | refine C.block ?_ | refine C.ret ?_ | refine C.skip ?_ | refine C.exit ?_ | refine X.pass_ret ?_ | refine X.pass_exit ?_ | refine X.block_normal ?_ | refine X.block_ret ?_ | refine X.block_exit ?_ | refine C.zt ?_ | refine C.zf ?_ | refine X.zo ?_)
  refine X.finF ttok s.1 [(1, 8)] hs rfl rfl rfl (by repeat (first | exact HasH.nil | refine HasH.same rfl rfl rfl trivial ?_ | refine HasH.same rfl rfl rfl rfl ?_ | refine HasH.same rfl rfl rfl (fun _ _ => rfl) ?_ | refine HasH.ros rfl rfl ?_)) _ (by first | exact .inl rfl | exact .inr rfl) ?_ ?_ ?_
  · exact fun w hf => hf.less (fun p hp => List.mem_append_left _ hp) (apf_ro (facts_ro _)) |>.ap
  · exact fun p hp => List.mem_append_left _ hp
  · exact fun p hp => by cases hp
theorem rw_take {ρ : Env} {r : Option Nat} {w : World} {rs : List Rw} {m : Nat} (hm : m ≤ rs.length) (h : (AO.ro 2 0 rs.length (rwF rs)).holds ρ r w) : (AO.ro 2 0 m (rwF (rs.take m))).holds ρ r w := by
  rcases h with ⟨h1, h2⟩ | ⟨b, cur, T, fr, hr, hb, hc⟩
  · exact .inl ⟨h1, by omega⟩
  · refine .inr ⟨b, cur, T, fr, hr, hb, fun i c x hi hx => hc i c x (by omega) ?_⟩
    rw [← hx]
    unfold rwF
    simp [List.getD, List.getElem?_take, hi]
theorem scans_law (o1 c1 : Nat) (b : List UInt8) (st : Int) (hb : b.length ≤ 9223372036854775807) (hbc : b.length ≤ c1) (hst : -9223372036854775808 ≤ st ∧ st ≤ 9223372036854775807) :
    Spec Try.prog 5 [.sl 0 1 o1 b.length c1, .raw (.int .i64 st)] [roBo o1 b] 1 (σ := Unit) (fun _ => True) (fun _ => .raw (.bool true)) (fun _ => []) := by
  refine Spec.ofF Try.func5 rfl Try.ntmps5 rfl (by repeat (first | exact bdl_nil _ | refine bdl_cons (fun _ _ => rfl) ?_ | refine bdl_cons trivial ?_ | refine bdl_cons rfl ?_ | refine bdl_cons (rowsF_bd _ _ _ _) ?_ | refine bdl_cons (rowsS_bd _ _ _ _) ?_)) fun ρ w => ?_
  repeat (first | refine C.seq ?_ | refine C.region ?_ | refine R.zb ttok ?_ | refine R.zu ttok ?_ | refine R.zc ttok ?_ | refine R.za ttok ?_ | refine R.zx ?_ | refine R.zl ttok ?_ | refine R.zs ttok ?_ | refine R.z ttok ?_ | refine R.zk ?_ | refine R.zn ?_ | refine R.done ?_ | refine X.then ?_ | refine C.block ?_ | refine C.ret ?_ | refine C.skip ?_ | refine C.exit ?_ | refine X.pass_ret ?_ | refine X.pass_exit ?_ | refine X.block_normal ?_ | refine X.block_ret ?_ | refine X.block_exit ?_ | refine C.zt ?_ | refine C.zf ?_ | refine X.zo ?_)
  by_cases h1 : (200000 : Int) < b.length
  · rw [decide_eq_true h1]
    repeat (first | refine C.seq ?_ | refine C.region ?_ | refine R.zb ttok ?_ | refine R.zu ttok ?_ | refine R.zc ttok ?_ | refine R.za ttok ?_ | refine R.zx ?_ | refine R.zl ttok ?_ | refine R.zs ttok ?_ | refine R.z ttok ?_ | refine R.zk ?_ | refine R.zn ?_ | refine R.done ?_ | refine X.then ?_ | refine C.block ?_ | refine C.ret ?_ | refine C.skip ?_ | refine C.exit ?_ | refine X.pass_ret ?_ | refine X.pass_exit ?_ | refine X.block_normal ?_ | refine X.block_ret ?_ | refine X.block_exit ?_ | refine C.zt ?_ | refine C.zf ?_ | refine X.zo ?_)
    refine X.finS ttok () [] trivial rfl rfl rfl (by repeat (first | exact HasH.nil | refine HasH.same rfl rfl rfl trivial ?_ | refine HasH.same rfl rfl rfl rfl ?_ | refine HasH.same rfl rfl rfl (fun _ _ => rfl) ?_ | refine HasH.ros rfl rfl ?_)) _ (by first | exact .inl rfl | exact .inr rfl)
  rw [decide_eq_false h1]
  repeat (first | refine C.seq ?_ | refine C.region ?_ | refine R.zb ttok ?_ | refine R.zu ttok ?_ | refine R.zc ttok ?_ | refine R.za ttok ?_ | refine R.zx ?_ | refine R.zl ttok ?_ | refine R.zs ttok ?_ | refine R.z ttok ?_ | refine R.zk ?_ | refine R.zn ?_ | refine R.done ?_ | refine X.then ?_ | refine C.block ?_ | refine C.ret ?_ | refine C.skip ?_ | refine C.exit ?_ | refine X.pass_ret ?_ | refine X.pass_exit ?_ | refine X.block_normal ?_ | refine X.block_ret ?_ | refine X.block_exit ?_ | refine C.zt ?_ | refine C.zf ?_ | refine X.zo ?_)
  have hb2 : b.length ≤ 200000 := by omega
  refine R.clG [0] (rscan_spec o1 c1 b hbc (by omega)) Try.call19 (by repeat (first | exact HasIn.nil | refine HasIn.same rfl rfl ?_ | refine HasIn.bro rfl ?_ | refine HasIn.ror rfl ?_ | refine HasIn.cro rfl rfl ?_)) rfl rfl rfl (fun _ => rfl) rfl (by kernel_rfl) fun ⟨rs, cw⟩ ⟨hrs, hok, hrc, hcw⟩ => ?_
  dsimp only at hrs hok hrc hcw ⊢
  have hrl : rs.length ≤ 200000 := by
    have h1 := congrArg List.length hrs
    have h2 := scanK_le (p := b) (k := 0) (Nat.zero_le _)
    simp at h1
    omega
  refine R.wkD (F2 := FF [roBo o1 b] ρ w [] (facts rs)) (fun w hf => by rwa [List.append_nil] at hf) ?_
  repeat (first | refine C.seq ?_ | refine C.region ?_ | refine R.zb ttok ?_ | refine R.zu ttok ?_ | refine R.zc ttok ?_ | refine R.za ttok ?_ | refine R.zx ?_ | refine R.zl ttok ?_ | refine R.zs ttok ?_ | refine R.z ttok ?_ | refine R.zk ?_ | refine R.zn ?_ | refine R.done ?_ | refine X.then ?_ | refine C.block ?_ | refine C.ret ?_ | refine C.skip ?_ | refine C.exit ?_ | refine X.pass_ret ?_ | refine X.pass_exit ?_ | refine X.block_normal ?_ | refine X.block_ret ?_ | refine X.block_exit ?_ | refine C.zt ?_ | refine C.zf ?_ | refine X.zo ?_)
  refine R.cl [0] (roomy_spec o1 c1 b (by omega)) Try.call11 (by repeat (first | exact HasIn.nil | refine HasIn.same rfl rfl ?_ | refine HasIn.bro rfl ?_ | refine HasIn.ror rfl ?_ | refine HasIn.cro rfl rfl ?_)) rfl rfl rfl (fun _ => rfl) rfl (by kernel_rfl) fun c2 hc2 => ?_
  repeat (first | refine R.zb ttok ?_ | refine R.zu ttok ?_ | refine R.zc ttok ?_ | refine R.za ttok ?_ | refine R.zx ?_ | refine R.zl ttok ?_ | refine R.zs ttok ?_ | refine R.z ttok ?_ | refine R.zk ?_ | refine R.zn ?_)
  refine R.done ?_
  refine X.then ?_
  refine C.fact (bytes_le (l := 3) rfl) fun hc2b => ?_
  rw [roomL_length] at hc2b
  repeat (first | refine C.seq ?_ | refine C.region ?_ | refine R.zb ttok ?_ | refine R.zu ttok ?_ | refine R.zc ttok ?_ | refine R.za ttok ?_ | refine R.zx ?_ | refine R.zl ttok ?_ | refine R.zs ttok ?_ | refine R.z ttok ?_ | refine R.zk ?_ | refine R.zn ?_ | refine R.done ?_ | refine X.then ?_ | refine C.block ?_ | refine C.ret ?_ | refine C.skip ?_ | refine C.exit ?_ | refine X.pass_ret ?_ | refine X.pass_exit ?_ | refine X.block_normal ?_ | refine X.block_ret ?_ | refine X.block_exit ?_ | refine C.zt ?_ | refine C.zf ?_ | refine X.zo ?_)
  refine R.sl ttok 0 b.length rfl rfl rfl rfl rfl rfl (by kernel_rfl) rfl ⟨_, _, rfl, rfl⟩ (by omega) (by omega) fun o' ho' => ?_
  obtain rfl : o' = 0 := by omega
  refine R.cl [3] (fscan_spec 0 (c2 - 0) b (by omega)) Try.call20 (.pb rfl (rm_part b) .nil) rfl rfl rfl (fun _ => rfl) rfl (by kernel_rfl) fun c3 hc3 => ?_
  repeat (first | refine C.seq ?_ | refine C.region ?_ | refine R.zb ttok ?_ | refine R.zu ttok ?_ | refine R.zc ttok ?_ | refine R.za ttok ?_ | refine R.zx ?_ | refine R.zl ttok ?_ | refine R.zs ttok ?_ | refine R.z ttok ?_ | refine R.zk ?_ | refine R.zn ?_ | refine R.done ?_ | refine X.then ?_ | refine C.block ?_ | refine C.ret ?_ | refine C.skip ?_ | refine C.exit ?_ | refine X.pass_ret ?_ | refine X.pass_exit ?_ | refine X.block_normal ?_ | refine X.block_ret ?_ | refine X.block_exit ?_ | refine C.zt ?_ | refine C.zf ?_ | refine X.zo ?_)
  refine R.sl ttok 0 b.length rfl rfl rfl rfl rfl rfl (by kernel_rfl) rfl ⟨_, _, rfl, rfl⟩ (by omega) (by omega) fun o' ho' => ?_
  obtain rfl : o' = 0 := by omega
  refine R.cl [3] (whole_spec 0 (c2 - 0) b (by omega)) Try.call21 (.pb rfl (rm_part b) .nil) rfl rfl rfl (fun _ => rfl) rfl (by kernel_rfl) fun _ _ => ?_
  repeat (first | refine C.seq ?_ | refine C.region ?_ | refine R.zb ttok ?_ | refine R.zu ttok ?_ | refine R.zc ttok ?_ | refine R.za ttok ?_ | refine R.zx ?_ | refine R.zl ttok ?_ | refine R.zs ttok ?_ | refine R.z ttok ?_ | refine R.zk ?_ | refine R.zn ?_ | refine R.done ?_ | refine X.then ?_ | refine C.block ?_ | refine C.ret ?_ | refine C.skip ?_ | refine C.exit ?_ | refine X.pass_ret ?_ | refine X.pass_exit ?_ | refine X.block_normal ?_ | refine X.block_ret ?_ | refine X.block_exit ?_ | refine C.zt ?_ | refine C.zf ?_ | refine X.zo ?_)
  refine R.cl [0] (rwhole_spec o1 c1 b hbc (by omega)) Try.call22 (by repeat (first | exact HasIn.nil | refine HasIn.same rfl rfl ?_ | refine HasIn.bro rfl ?_ | refine HasIn.ror rfl ?_ | refine HasIn.cro rfl rfl ?_)) rfl rfl rfl (fun _ => rfl) rfl (by kernel_rfl) fun _ _ => ?_
  repeat (first | refine C.seq ?_ | refine C.region ?_ | refine R.zb ttok ?_ | refine R.zu ttok ?_ | refine R.zc ttok ?_ | refine R.za ttok ?_ | refine R.zx ?_ | refine R.zl ttok ?_ | refine R.zs ttok ?_ | refine R.z ttok ?_ | refine R.zk ?_ | refine R.zn ?_ | refine R.done ?_ | refine X.then ?_ | refine C.block ?_ | refine C.ret ?_ | refine C.skip ?_ | refine C.exit ?_ | refine X.pass_ret ?_ | refine X.pass_exit ?_ | refine X.block_normal ?_ | refine X.block_ret ?_ | refine X.block_exit ?_ | refine C.zt ?_ | refine C.zf ?_ | refine X.zo ?_)
  rw [decide_eq_false (show ¬ ((wholeN b : Nat) : Int) ≠ (wholeN b : Nat) from fun h => h rfl)]
  repeat (first | refine C.seq ?_ | refine C.region ?_ | refine R.zb ttok ?_ | refine R.zu ttok ?_ | refine R.zc ttok ?_ | refine R.za ttok ?_ | refine R.zx ?_ | refine R.zl ttok ?_ | refine R.zs ttok ?_ | refine R.z ttok ?_ | refine R.zk ?_ | refine R.zn ?_ | refine R.done ?_ | refine X.then ?_ | refine C.block ?_ | refine C.ret ?_ | refine C.skip ?_ | refine C.exit ?_ | refine X.pass_ret ?_ | refine X.pass_exit ?_ | refine X.block_normal ?_ | refine X.block_ret ?_ | refine X.block_exit ?_ | refine C.zt ?_ | refine C.zf ?_ | refine X.zo ?_)
  have hsd := stands_spec o1 c2 c1 b (by omega)
  rw [← roomL_length] at hsd
  refine R.cl [3, 0] hsd Try.call15 (by repeat (first | exact HasIn.nil | refine HasIn.same rfl rfl ?_ | refine HasIn.bro rfl ?_ | refine HasIn.ror rfl ?_ | refine HasIn.cro rfl rfl ?_)) rfl rfl rfl (fun _ => rfl) rfl (by kernel_rfl) fun _ _ => ?_
  repeat (first | refine C.seq ?_ | refine C.region ?_ | refine R.zb ttok ?_ | refine R.zu ttok ?_ | refine R.zc ttok ?_ | refine R.za ttok ?_ | refine R.zx ?_ | refine R.zl ttok ?_ | refine R.zs ttok ?_ | refine R.z ttok ?_ | refine R.zk ?_ | refine R.zn ?_ | refine R.done ?_ | refine X.then ?_ | refine C.block ?_ | refine C.ret ?_ | refine C.skip ?_ | refine C.exit ?_ | refine X.pass_ret ?_ | refine X.pass_exit ?_ | refine X.block_normal ?_ | refine X.block_ret ?_ | refine X.block_exit ?_ | refine C.zt ?_ | refine C.zf ?_ | refine X.zo ?_)
  refine C.loop (σ := Nat × List UInt8) (L2 := 6) (fun s => s.1 ≤ (roomL b).length ∧ s.2.length = (roomL b).length) (fun s => [(0, .sl 0 1 o1 b.length c1), (1, .raw (.int .i64 st)), (5, .ptr 2 0 0 0), (6, .sl 3 1 0 (roomL b).length c2), (7, .fn 38 [.ptr 4 0 0 0]), (8, .raw (.int .i64 (s.1 : Nat)))])
    (fun s => [(0, roBo o1 b), (1, tbR rs cw), (2, wtO 1 rs.length cw), (3, .bytes s.2 c2 5), (4, bxO 5 b.length c3), (5, .bytes b c3 5)]) _ (fun s => (roomL b).length - s.1) [] (0, roomL b) ⟨Nat.zero_le _, rfl⟩ rfl (by repeat (first | exact HasT.nil | refine HasT.cons rfl rfl rfl ?_)) (by repeat (first | exact HasH.nil | refine HasH.same rfl rfl rfl trivial ?_ | refine HasH.same rfl rfl rfl rfl ?_ | refine HasH.same rfl rfl rfl (fun _ _ => rfl) ?_ | refine HasH.ros rfl rfl ?_)) rfl (fun _ h => h) ?_
  rintro ⟨i, q⟩ ⟨hi, hq⟩
  dsimp only at hi hq ⊢
  have hrm := roomL_length b
  repeat (first | refine C.seq ?_ | refine C.region ?_ | refine R.zb ttok ?_ | refine R.zu ttok ?_ | refine R.zc ttok ?_ | refine R.za ttok ?_ | refine R.zx ?_ | refine R.zl ttok ?_ | refine R.zs ttok ?_ | refine R.z ttok ?_ | refine R.zk ?_ | refine R.zn ?_ | refine R.done ?_ | refine X.then ?_ | refine C.block ?_ | refine C.ret ?_ | refine C.skip ?_ | refine C.exit ?_ | refine X.pass_ret ?_ | refine X.pass_exit ?_ | refine X.block_normal ?_ | refine X.block_ret ?_ | refine X.block_exit ?_ | refine C.zt ?_ | refine C.zf ?_ | refine X.zo ?_)
  by_cases hlt : (i : Int) < ((roomL b).length : Nat)
  · rw [decide_eq_true hlt]
    have hlt' : i < (roomL b).length := by omega
    repeat (first | refine C.seq ?_ | refine C.region ?_ | refine R.zb ttok ?_ | refine R.zu ttok ?_ | refine R.zc ttok ?_ | refine R.za ttok ?_ | refine R.zx ?_ | refine R.zl ttok ?_ | refine R.zs ttok ?_ | refine R.z ttok ?_ | refine R.zk ?_ | refine R.zn ?_ | refine R.done ?_ | refine X.then ?_ | refine C.block ?_ | refine C.ret ?_ | refine C.skip ?_ | refine C.exit ?_ | refine X.pass_ret ?_ | refine X.pass_exit ?_ | refine X.block_normal ?_ | refine X.block_ret ?_ | refine X.block_exit ?_ | refine C.zt ?_ | refine C.zf ?_ | refine X.zo ?_)
    refine R.ix ttok i rfl rfl rfl rfl rfl (by kernel_rfl) rfl hlt' (by show _ < _; omega) rfl ?_
    rw [Nat.zero_add]
    repeat (first | refine C.seq ?_ | refine C.region ?_ | refine R.zb ttok ?_ | refine R.zu ttok ?_ | refine R.zc ttok ?_ | refine R.za ttok ?_ | refine R.zx ?_ | refine R.zl ttok ?_ | refine R.zs ttok ?_ | refine R.z ttok ?_ | refine R.zk ?_ | refine R.zn ?_ | refine R.done ?_ | refine X.then ?_ | refine C.block ?_ | refine C.ret ?_ | refine C.skip ?_ | refine C.exit ?_ | refine X.pass_ret ?_ | refine X.pass_exit ?_ | refine X.block_normal ?_ | refine X.block_ret ?_ | refine X.block_exit ?_ | refine C.zt ?_ | refine C.zf ?_ | refine X.zo ?_)
    refine R.stb ttok 153 rfl rfl rfl rfl rfl (by kernel_rfl) (by omega) rfl ?_
    repeat (first | refine C.seq ?_ | refine C.region ?_ | refine R.zb ttok ?_ | refine R.zu ttok ?_ | refine R.zc ttok ?_ | refine R.za ttok ?_ | refine R.zx ?_ | refine R.zl ttok ?_ | refine R.zs ttok ?_ | refine R.z ttok ?_ | refine R.zk ?_ | refine R.zn ?_ | refine R.done ?_ | refine X.then ?_ | refine C.block ?_ | refine C.ret ?_ | refine C.skip ?_ | refine C.exit ?_ | refine X.pass_ret ?_ | refine X.pass_exit ?_ | refine X.block_normal ?_ | refine X.block_ret ?_ | refine X.block_exit ?_ | refine C.zt ?_ | refine C.zf ?_ | refine X.zo ?_)
    refine X.back [] (i + 1, q.set i 153) ⟨by show i + 1 ≤ _; omega, by simp [hq]⟩ (by show _ - (i + 1) < _ - i; omega) rfl (by repeat (first | exact HasT.nil | refine HasT.cons rfl rfl rfl ?_)) (by repeat (first | exact HasH.nil | refine HasH.same rfl rfl rfl trivial ?_ | refine HasH.same rfl rfl rfl rfl ?_ | refine HasH.same rfl rfl rfl (fun _ _ => rfl) ?_ | refine HasH.ros rfl rfl ?_)) rfl (fun _ h => h)
  rw [decide_eq_false hlt]
  repeat (first | refine C.seq ?_ | refine C.region ?_ | refine R.zb ttok ?_ | refine R.zu ttok ?_ | refine R.zc ttok ?_ | refine R.za ttok ?_ | refine R.zx ?_ | refine R.zl ttok ?_ | refine R.zs ttok ?_ | refine R.z ttok ?_ | refine R.zk ?_ | refine R.zn ?_ | refine R.done ?_ | refine X.then ?_ | refine C.block ?_ | refine C.ret ?_ | refine C.skip ?_ | refine C.exit ?_ | refine X.pass_ret ?_ | refine X.pass_exit ?_ | refine X.block_normal ?_ | refine X.block_ret ?_ | refine X.block_exit ?_ | refine C.zt ?_ | refine C.zf ?_ | refine X.zo ?_)
  refine C.loop (σ := Nat) (L2 := 6) (fun t => t ≤ 2) (fun t => [(0, .sl 0 1 o1 b.length c1), (1, .raw (.int .i64 st)), (5, .ptr 2 0 0 0), (7, .fn 38 [.ptr 4 0 0 0]), (9, .raw (.int .i64 (t : Nat)))])
    (fun s => [(0, roBo o1 b), (1, tbR rs cw), (2, wtO 1 rs.length cw), (4, bxO 5 b.length c3), (5, .bytes b c3 5)]) _ (fun t => 2 - t) [] 0 (Nat.zero_le _) rfl (by repeat (first | exact HasT.nil | refine HasT.cons rfl rfl rfl ?_)) (by repeat (first | exact HasH.nil | refine HasH.same rfl rfl rfl trivial ?_ | refine HasH.same rfl rfl rfl rfl ?_ | refine HasH.same rfl rfl rfl (fun _ _ => rfl) ?_ | refine HasH.ros rfl rfl ?_)) rfl (fun _ h => h) ?_
  rintro t ht
  repeat (first | refine C.seq ?_ | refine C.region ?_ | refine R.zb ttok ?_ | refine R.zu ttok ?_ | refine R.zc ttok ?_ | refine R.za ttok ?_ | refine R.zx ?_ | refine R.zl ttok ?_ | refine R.zs ttok ?_ | refine R.z ttok ?_ | refine R.zk ?_ | refine R.zn ?_ | refine R.done ?_ | refine X.then ?_ | refine C.block ?_ | refine C.ret ?_ | refine C.skip ?_ | refine C.exit ?_ | refine X.pass_ret ?_ | refine X.pass_exit ?_ | refine X.block_normal ?_ | refine X.block_ret ?_ | refine X.block_exit ?_ | refine C.zt ?_ | refine C.zf ?_ | refine X.zo ?_)
  by_cases ht2 : (t : Int) < 2
  · rw [decide_eq_true ht2]
    repeat (first | refine C.seq ?_ | refine C.region ?_ | refine R.zb ttok ?_ | refine R.zu ttok ?_ | refine R.zc ttok ?_ | refine R.za ttok ?_ | refine R.zx ?_ | refine R.zl ttok ?_ | refine R.zs ttok ?_ | refine R.z ttok ?_ | refine R.zk ?_ | refine R.zn ?_ | refine R.done ?_ | refine X.then ?_ | refine C.block ?_ | refine C.ret ?_ | refine C.skip ?_ | refine C.exit ?_ | refine X.pass_ret ?_ | refine X.pass_exit ?_ | refine X.block_normal ?_ | refine X.block_ret ?_ | refine X.block_exit ?_ | refine C.zt ?_ | refine C.zf ?_ | refine X.zo ?_)
    refine R.clR [4, 5, 7, 6, 2, 1] (fgo_spec rs c3 cw b hc3.1 (by omega) hrs hok) (facts_ro rs) Try.call38 (.same rfl rfl (.bro rfl (.same rfl rfl (.same rfl rfl (.same rfl rfl (.other rfl (fun e => by cases e) (fun ρ x w hh => tab_ro hh) .nil)))))) rfl rfl rfl (fun _ => rfl) rfl (by kernel_rfl) fun _ _ => ?_
    repeat (first | refine C.seq ?_ | refine C.region ?_ | refine R.zb ttok ?_ | refine R.zu ttok ?_ | refine R.zc ttok ?_ | refine R.za ttok ?_ | refine R.zx ?_ | refine R.zl ttok ?_ | refine R.zs ttok ?_ | refine R.z ttok ?_ | refine R.zk ?_ | refine R.zn ?_ | refine R.done ?_ | refine X.then ?_ | refine C.block ?_ | refine C.ret ?_ | refine C.skip ?_ | refine C.exit ?_ | refine X.pass_ret ?_ | refine X.pass_exit ?_ | refine X.block_normal ?_ | refine X.block_ret ?_ | refine X.block_exit ?_ | refine C.zt ?_ | refine C.zf ?_ | refine X.zo ?_)
    rw [decide_eq_false (show ¬ ((rs.length : Nat) : Int) ≠ (rs.length : Nat) from fun h => h rfl)]
    repeat (first | refine C.seq ?_ | refine C.region ?_ | refine R.zb ttok ?_ | refine R.zu ttok ?_ | refine R.zc ttok ?_ | refine R.za ttok ?_ | refine R.zx ?_ | refine R.zl ttok ?_ | refine R.zs ttok ?_ | refine R.z ttok ?_ | refine R.zk ?_ | refine R.zn ?_ | refine R.done ?_ | refine X.then ?_ | refine C.block ?_ | refine C.ret ?_ | refine C.skip ?_ | refine C.exit ?_ | refine X.pass_ret ?_ | refine X.pass_exit ?_ | refine X.block_normal ?_ | refine X.block_ret ?_ | refine X.block_exit ?_ | refine C.zt ?_ | refine C.zf ?_ | refine X.zo ?_)
    exact X.back [] (t + 1) (by omega) (by omega) rfl (by repeat (first | exact HasT.nil | refine HasT.cons rfl rfl rfl ?_)) (by repeat (first | exact HasH.nil | refine HasH.same rfl rfl rfl trivial ?_ | refine HasH.same rfl rfl rfl rfl ?_ | refine HasH.same rfl rfl rfl (fun _ _ => rfl) ?_ | refine HasH.ros rfl rfl ?_)) rfl (fun _ h => h)
  rw [decide_eq_false ht2]
  repeat (first | refine C.seq ?_ | refine C.region ?_ | refine R.zb ttok ?_ | refine R.zu ttok ?_ | refine R.zc ttok ?_ | refine R.za ttok ?_ | refine R.zx ?_ | refine R.zl ttok ?_ | refine R.zs ttok ?_ | refine R.z ttok ?_ | refine R.zk ?_ | refine R.zn ?_ | refine R.done ?_ | refine X.then ?_ | refine C.block ?_ | refine C.ret ?_ | refine C.skip ?_ | refine C.exit ?_ | refine X.pass_ret ?_ | refine X.pass_exit ?_ | refine X.block_normal ?_ | refine X.block_ret ?_ | refine X.block_exit ?_ | refine C.zt ?_ | refine C.zf ?_ | refine X.zo ?_)
  by_cases h2 : st < 1
  · rw [decide_eq_true h2]
    repeat (first | refine C.seq ?_ | refine C.region ?_ | refine R.zb ttok ?_ | refine R.zu ttok ?_ | refine R.zc ttok ?_ | refine R.za ttok ?_ | refine R.zx ?_ | refine R.zl ttok ?_ | refine R.zs ttok ?_ | refine R.z ttok ?_ | refine R.zk ?_ | refine R.zn ?_ | refine R.done ?_ | refine X.then ?_ | refine C.block ?_ | refine C.ret ?_ | refine C.skip ?_ | refine C.exit ?_ | refine X.pass_ret ?_ | refine X.pass_exit ?_ | refine X.block_normal ?_ | refine X.block_ret ?_ | refine X.block_exit ?_ | refine C.zt ?_ | refine C.zf ?_ | refine X.zo ?_)
    refine R.cl [] (known_spec) Try.call17 (by repeat (first | exact HasIn.nil | refine HasIn.same rfl rfl ?_ | refine HasIn.bro rfl ?_ | refine HasIn.ror rfl ?_ | refine HasIn.cro rfl rfl ?_)) rfl rfl rfl (fun _ => rfl) rfl (by kernel_rfl) fun _ _ => ?_
    repeat (first | refine C.seq ?_ | refine C.region ?_ | refine R.zb ttok ?_ | refine R.zu ttok ?_ | refine R.zc ttok ?_ | refine R.za ttok ?_ | refine R.zx ?_ | refine R.zl ttok ?_ | refine R.zs ttok ?_ | refine R.z ttok ?_ | refine R.zk ?_ | refine R.zn ?_ | refine R.done ?_ | refine X.then ?_ | refine C.block ?_ | refine C.ret ?_ | refine C.skip ?_ | refine C.exit ?_ | refine X.pass_ret ?_ | refine X.pass_exit ?_ | refine X.block_normal ?_ | refine X.block_ret ?_ | refine X.block_exit ?_ | refine C.zt ?_ | refine C.zf ?_ | refine X.zo ?_)
    refine X.finS ttok () [] trivial rfl rfl rfl (by repeat (first | exact HasH.nil | refine HasH.same rfl rfl rfl trivial ?_ | refine HasH.same rfl rfl rfl rfl ?_ | refine HasH.same rfl rfl rfl (fun _ _ => rfl) ?_ | refine HasH.ros rfl rfl ?_)) _ (by first | exact .inl rfl | exact .inr rfl)
  rw [decide_eq_false h2]
  repeat (first | refine C.seq ?_ | refine C.region ?_ | refine R.zb ttok ?_ | refine R.zu ttok ?_ | refine R.zc ttok ?_ | refine R.za ttok ?_ | refine R.zx ?_ | refine R.zl ttok ?_ | refine R.zs ttok ?_ | refine R.z ttok ?_ | refine R.zk ?_ | refine R.zn ?_ | refine R.done ?_ | refine X.then ?_ | refine C.block ?_ | refine C.ret ?_ | refine C.skip ?_ | refine C.exit ?_ | refine X.pass_ret ?_ | refine X.pass_exit ?_ | refine X.block_normal ?_ | refine X.block_ret ?_ | refine X.block_exit ?_ | refine C.zt ?_ | refine C.zf ?_ | refine X.zo ?_)
  by_cases h3 : (rs.length : Int) < st
  · rw [decide_eq_true h3]
    repeat (first | refine C.seq ?_ | refine C.region ?_ | refine R.zb ttok ?_ | refine R.zu ttok ?_ | refine R.zc ttok ?_ | refine R.za ttok ?_ | refine R.zx ?_ | refine R.zl ttok ?_ | refine R.zs ttok ?_ | refine R.z ttok ?_ | refine R.zk ?_ | refine R.zn ?_ | refine R.done ?_ | refine X.then ?_ | refine C.block ?_ | refine C.ret ?_ | refine C.skip ?_ | refine C.exit ?_ | refine X.pass_ret ?_ | refine X.pass_exit ?_ | refine X.block_normal ?_ | refine X.block_ret ?_ | refine X.block_exit ?_ | refine C.zt ?_ | refine C.zf ?_ | refine X.zo ?_)
    refine R.cl [] (known_spec) Try.call17 (by repeat (first | exact HasIn.nil | refine HasIn.same rfl rfl ?_ | refine HasIn.bro rfl ?_ | refine HasIn.ror rfl ?_ | refine HasIn.cro rfl rfl ?_)) rfl rfl rfl (fun _ => rfl) rfl (by kernel_rfl) fun _ _ => ?_
    repeat (first | refine C.seq ?_ | refine C.region ?_ | refine R.zb ttok ?_ | refine R.zu ttok ?_ | refine R.zc ttok ?_ | refine R.za ttok ?_ | refine R.zx ?_ | refine R.zl ttok ?_ | refine R.zs ttok ?_ | refine R.z ttok ?_ | refine R.zk ?_ | refine R.zn ?_ | refine R.done ?_ | refine X.then ?_ | refine C.block ?_ | refine C.ret ?_ | refine C.skip ?_ | refine C.exit ?_ | refine X.pass_ret ?_ | refine X.pass_exit ?_ | refine X.block_normal ?_ | refine X.block_ret ?_ | refine X.block_exit ?_ | refine C.zt ?_ | refine C.zf ?_ | refine X.zo ?_)
    refine X.finS ttok () [] trivial rfl rfl rfl (by repeat (first | exact HasH.nil | refine HasH.same rfl rfl rfl trivial ?_ | refine HasH.same rfl rfl rfl rfl ?_ | refine HasH.same rfl rfl rfl (fun _ _ => rfl) ?_ | refine HasH.ros rfl rfl ?_)) _ (by first | exact .inl rfl | exact .inr rfl)
  rw [decide_eq_false h3]
  repeat (first | refine C.seq ?_ | refine C.region ?_ | refine R.zb ttok ?_ | refine R.zu ttok ?_ | refine R.zc ttok ?_ | refine R.za ttok ?_ | refine R.zx ?_ | refine R.zl ttok ?_ | refine R.zs ttok ?_ | refine R.z ttok ?_ | refine R.zk ?_ | refine R.zn ?_ | refine R.done ?_ | refine X.then ?_ | refine C.block ?_ | refine C.ret ?_ | refine C.skip ?_ | refine C.exit ?_ | refine X.pass_ret ?_ | refine X.pass_exit ?_ | refine X.block_normal ?_ | refine X.block_ret ?_ | refine X.block_exit ?_ | refine C.zt ?_ | refine C.zf ?_ | refine X.zo ?_)
  refine R.clG [0] (scanned_spec o1 c1 b st hb2 hst) Try.call24 (by repeat (first | exact HasIn.nil | refine HasIn.same rfl rfl ?_ | refine HasIn.bro rfl ?_ | refine HasIn.ror rfl ?_ | refine HasIn.cro rfl rfl ?_)) rfl rfl rfl (fun _ => rfl) rfl (by kernel_rfl) fun ⟨ls, cl⟩ ⟨hls, hlok, hlc, hcl⟩ => ?_
  dsimp only at hls hlok hlc hcl ⊢
  repeat (first | refine C.seq ?_ | refine C.region ?_ | refine R.zb ttok ?_ | refine R.zu ttok ?_ | refine R.zc ttok ?_ | refine R.za ttok ?_ | refine R.zx ?_ | refine R.zl ttok ?_ | refine R.zs ttok ?_ | refine R.z ttok ?_ | refine R.zk ?_ | refine R.zn ?_ | refine R.done ?_ | refine X.then ?_ | refine C.block ?_ | refine C.ret ?_ | refine C.skip ?_ | refine C.exit ?_ | refine X.pass_ret ?_ | refine X.pass_exit ?_ | refine X.block_normal ?_ | refine X.block_ret ?_ | refine X.block_exit ?_ | refine C.zt ?_ | refine C.zf ?_ | refine X.zo ?_)
  obtain ⟨m, rfl⟩ : ∃ m : Nat, st = (m : Int) := ⟨st.toNat, by omega⟩
  refine R.sl ttok 0 m rfl rfl rfl rfl rfl rfl (by kernel_rfl) rfl ⟨_, _, rfl, rfl⟩ (by omega) (by omega) fun o' ho' => ?_
  obtain rfl : o' = 0 := by omega
  have hmr : (rs.take m).length = m := by rw [List.length_take]; omega
  have hkk : rkeys ls = rkeys (rs.take m) := by
    rw [hls]
    unfold stp
    rw [if_pos (by omega), ← hrs]
    simp
  have hmem : ∀ r ∈ ls, r.fact ∈ facts ls ++ facts rs := fun r hr => List.mem_append_left _ (List.mem_map.2 ⟨r, hr, rfl⟩)
  have hmem2 : ∀ r ∈ rs.take m, r.fact ∈ facts ls ++ facts rs := fun r hr => List.mem_append_right _ (List.mem_map.2 ⟨r, List.mem_of_mem_take hr, rfl⟩)
  have hlsl : ls.length = m := by
    have := congrArg List.length hkk
    simp at this
    omega
  have hpl : ∀ r ∈ ls, r.p.length ≤ 1000000000 := fun r hr => by
    have h4 : r.key ∈ scanK b 0 := by
      have h5 : r.key ∈ rkeys ls := List.mem_map.2 ⟨r, hr, rfl⟩
      rw [hls] at h5
      unfold stp at h5
      rw [if_pos (by omega)] at h5
      exact List.mem_of_mem_take h5
    have := scanK_in _ _ _ h4
    simp only [Rw.key] at this
    omega
  have hro2 : ∀ p ∈ facts ls ++ facts rs, p.rw = false := fun p hp => (List.mem_append.1 hp).elim (facts_ro _ p) (facts_ro _ p)
  have hsp := frows_spec ls (rs.take m) 0 0 cl (cw - 0) (facts ls ++ facts rs) hro2 (fun r hr => ⟨hlok r hr, hmem r hr⟩) (fun r hr => ⟨hok r (List.mem_of_mem_take hr), hmem2 r hr⟩) hkk (by omega) hpl
  rw [hmr] at hsp
  refine R.clR [6, 1] hsp hro2 Try.call25 (.other rfl (fun e => by cases e) (fun ρ x w hh => tab_ro hh) (.other rfl (fun e => by cases e) (fun ρ x w hh => rw_take (by omega) (tab_ro hh)) .nil)) rfl rfl rfl (fun _ => rfl) rfl (by kernel_rfl) fun _ _ => ?_
  repeat (first | refine C.seq ?_ | refine C.region ?_ | refine R.zb ttok ?_ | refine R.zu ttok ?_ | refine R.zc ttok ?_ | refine R.za ttok ?_ | refine R.zx ?_ | refine R.zl ttok ?_ | refine R.zs ttok ?_ | refine R.z ttok ?_ | refine R.zk ?_ | refine R.zn ?_ | refine R.done ?_ | refine X.then ?_ | refine C.block ?_ | refine C.ret ?_ | refine C.skip ?_ | refine C.exit ?_ | refine X.pass_ret ?_ | refine X.pass_exit ?_ | refine X.block_normal ?_ | refine X.block_ret ?_ | refine X.block_exit ?_ | refine C.zt ?_ | refine C.zf ?_ | refine X.zo ?_)
  refine R.cl [] (known_spec) Try.call17 (by repeat (first | exact HasIn.nil | refine HasIn.same rfl rfl ?_ | refine HasIn.bro rfl ?_ | refine HasIn.ror rfl ?_ | refine HasIn.cro rfl rfl ?_)) rfl rfl rfl (fun _ => rfl) rfl (by kernel_rfl) fun _ _ => ?_
  repeat (first | refine C.seq ?_ | refine C.region ?_ | refine R.zb ttok ?_ | refine R.zu ttok ?_ | refine R.zc ttok ?_ | refine R.za ttok ?_ | refine R.zx ?_ | refine R.zl ttok ?_ | refine R.zs ttok ?_ | refine R.z ttok ?_ | refine R.zk ?_ | refine R.zn ?_ | refine R.done ?_ | refine X.then ?_ | refine C.block ?_ | refine C.ret ?_ | refine C.skip ?_ | refine C.exit ?_ | refine X.pass_ret ?_ | refine X.pass_exit ?_ | refine X.block_normal ?_ | refine X.block_ret ?_ | refine X.block_exit ?_ | refine C.zt ?_ | refine C.zf ?_ | refine X.zo ?_)
  refine X.finS ttok () [] trivial rfl rfl rfl (by repeat (first | exact HasH.nil | refine HasH.same rfl rfl rfl trivial ?_ | refine HasH.same rfl rfl rfl rfl ?_ | refine HasH.same rfl rfl rfl (fun _ _ => rfl) ?_ | refine HasH.ros rfl rfl ?_)) _ (by first | exact .inl rfl | exact .inr rfl)
end Go.Proofs.Ytggnjgnjgnlchaa
