/- frame: rows of frames whose bodies lie in blocks without labels; the document's Scan and Whole -/
import Derived.Test.YtggnjgnjgnlchaaFG
import Derived.Test.YtggnjgnjgnlchaaK38
namespace Go.Proofs.Ytggnjgnjgnlchaa
set_option linter.unusedVariables false
set_option linter.unusedSimpArgs false
open Go.RowKit
set_option maxRecDepth 100000
set_option maxHeartbeats 4000000
/-- a row: its place, its body, where the body lies -/
structure Rw where
  a : Nat
  p : List UInt8
  b : Nat
  ob : Obj
  c : Nat
def zR : Rw := ⟨0, [], 0, .cells #[] 0 (0, 0), 0⟩
def Rw.av (r : Rw) : List AV := [.raw (.int .i64 (r.a : Nat)), .raw (.slice (some ⟨r.b, 0, none⟩) r.p.length r.c)]
def Rw.fact (r : Rw) : Fact := ⟨false, r.b, r.ob⟩
def Rw.ok (r : Rw) : Prop := Is r.b r.ob (.bytes r.p r.c 5)
def Rw.key (r : Rw) : Nat × List UInt8 := (r.a, r.p)
def rwF (rs : List Rw) (i : Nat) : List AV := (rs.getD i zR).av
abbrev rkeys (rs : List Rw) : List (Nat × List UInt8) := rs.map Rw.key
def facts (rs : List Rw) : Fam := rs.map Rw.fact
theorem facts_ro (rs : List Rw) : ∀ p ∈ facts rs, p.rw = false := fun p hp => by
  obtain ⟨r, _, rfl⟩ := List.mem_map.1 hp; rfl
theorem facts_app (a b : List Rw) : facts (a ++ b) = facts a ++ facts b := List.map_append
def rws (l : List Rw) : List AV := l.flatMap Rw.av
theorem rws_app (a b : List Rw) : rws (a ++ b) = rws a ++ rws b := List.flatMap_append
theorem flat_rw (l : List Rw) : ∀ m off, off + m ≤ l.length → flat (fun i => rwF l (off + i)) m = rws ((l.drop off).take m)
  | 0, off, _ => by simp [flat, rws]
  | m + 1, off, h => by
    rw [flat, flat_rw l m off (by omega), List.take_add_one, rws_app]
    congr 1
    have : (l.drop off)[m]? = some (l[off + m]'(by omega)) := by rw [List.getElem?_drop, List.getElem?_eq_getElem]
    rw [this]
    simp [rws, rwF, List.getD, show off + m < l.length by omega]
theorem flat_rw0 (l : List Rw) : flat (rwF l) l.length = rws l := by
  have := flat_rw l l.length 0 (by omega)
  simpa using this
abbrev tbR (l : List Rw) (c : Nat) : AO := .tab 2 l.length c (rwF l) 42
section
variable {E : Base} {n L : Nat} {τ : List (Nat × AV)} {h : List (Nat × AO)} {F : World → Prop}
theorem asRw (T : TypeId) (l : List Rw) (xs : List AV) (hx : xs = rws l) : AsRow (fun c => .tab 2 l.length c (rwF l) T) T 2 xs := by
  rw [hx, ← flat_rw0]
  exact AsRow.tab T (by decide) fun i _ => rfl
theorem dstRw {lab cap : Nat} {l : List Rw} {T : TypeId} (hl : hk lab h = some (.tab 2 l.length cap (rwF l) T)) : DstA E n L τ h F (.sl lab 2 0 l.length cap) T 2 l.length cap (rws l) [lab] := by
  have := DstA.tab (E := E) (n := n) (L := L) (τ := τ) (F := F) (by decide) hl fun i _ => rfl
  rwa [flat_rw0] at this
end
theorem scanK_le {p : List UInt8} {k : Nat} : k ≤ p.length → (scanK p k).length ≤ p.length - k := by
  refine frame_ind p (fun k => k ≤ p.length → (scanK p k).length ≤ p.length - k) (fun k x h hk => ?_) (fun k b e h ih hk => ?_) _ k (Nat.le_refl _)
  · rw [scanK_err h]; simp
  · have h1 := next_ok h
    rw [scanK_ok h]
    have := ih h1.2.1
    simp only [List.length_cons]
    omega
theorem rscan_spec (off c : Nat) (p : List UInt8) (hc : p.length ≤ c) (hl : p.length ≤ 1000000000) : SpecF Try.prog 19 [.sl 0 1 off p.length c] [roBo off p] 2 [] (σ := List Rw × Nat) (fun s => rkeys s.1 = scanK p 0 ∧ (∀ r ∈ s.1, r.ok) ∧ s.1.length ≤ s.2 ∧ s.2 ≤ 9223372036854775807)
    (fun s => .sl 1 2 0 s.1.length s.2) (fun s => [(1, tbR s.1 s.2)]) (fun s => facts s.1) := by
  refine SpecF.of Try.func19 rfl Try.ntmps19 rfl (by repeat (first | exact bdl_nil _ | refine bdl_cons (fun _ _ => rfl) ?_ | refine bdl_cons trivial ?_ | refine bdl_cons rfl ?_ | refine bdl_cons (rowsF_bd _ _ _ _) ?_ | refine bdl_cons (rowsS_bd _ _ _ _) ?_)) fun ρ w => ?_
  refine C.seq ?_
  refine C.region ?_
  repeat (first | refine R.zb ttok ?_ | refine R.zu ttok ?_ | refine R.zc ttok ?_ | refine R.za ttok ?_ | refine R.zx ?_ | refine R.zl ttok ?_ | refine R.zs ttok ?_ | refine R.z ttok ?_ | refine R.zk ?_ | refine R.zn ?_)
  refine R.done ?_
  refine X.then ?_
  refine C.seq ?_
  refine C.region ?_
  repeat (first | refine R.zb ttok ?_ | refine R.zu ttok ?_ | refine R.zc ttok ?_ | refine R.za ttok ?_ | refine R.zx ?_ | refine R.zl ttok ?_ | refine R.zs ttok ?_ | refine R.z ttok ?_ | refine R.zk ?_ | refine R.zn ?_)
  refine R.done ?_
  refine X.then ?_
  refine C.seq ?_
  refine C.region ?_
  repeat (first | refine R.zb ttok ?_ | refine R.zu ttok ?_ | refine R.zc ttok ?_ | refine R.za ttok ?_ | refine R.zx ?_ | refine R.zl ttok ?_ | refine R.zs ttok ?_ | refine R.z ttok ?_ | refine R.zk ?_ | refine R.zn ?_)
  refine R.done ?_
  refine X.then ?_
  refine C.noneT 3 (.sl 1 2 0 0 0) (.tab 2 0 0 (rwF []) 42) (none_tab _ _ _ _) rfl rfl rfl (fun ρ h => by have h : ρ 1 = none := h; simp [AV.conc, h]) ?_
  refine C.block ?_
  refine C.loopG (σ := List Rw × Nat × Nat) (L2 := 2) (fun s => s.2.1 ≤ p.length ∧ s.1.length ≤ s.2.1 ∧ rkeys s.1 ++ scanK p s.2.1 = scanK p 0 ∧ (∀ r ∈ s.1, r.ok) ∧ s.1.length ≤ s.2.2 ∧ s.2.2 ≤ 9223372036854775807)
    (fun s => [(0, .sl 0 1 off p.length c), (3, .sl 1 2 0 s.1.length s.2.2), (4, .raw (.int .i64 (s.2.1 : Nat)))]) (fun s => [(0, roBo off p), (1, tbR s.1 s.2.2)]) (fun s => FF [roBo off p] ρ w [] (facts s.1)) (fun s => p.length + 1 - s.2.1) [] ([], 0, 0) ⟨by simp, by simp, rfl, by simp, by simp, by simp⟩ rfl (by repeat (first | exact HasT.nil | refine HasT.cons rfl rfl rfl ?_)) (by repeat (first | exact HasH.nil | refine HasH.same rfl rfl rfl trivial ?_ | refine HasH.same rfl rfl rfl rfl ?_ | refine HasH.same rfl rfl rfl (fun _ _ => rfl) ?_ | refine HasH.ros rfl rfl ?_)) rfl (fun _ h => h) ?_
  rintro ⟨rs, k, cp⟩ ⟨hk, hrk, hkeys, hok, hrc, hcp⟩
  dsimp only at *
  repeat (first | refine C.seq ?_ | refine C.region ?_ | refine R.zb ttok ?_ | refine R.zu ttok ?_ | refine R.zc ttok ?_ | refine R.za ttok ?_ | refine R.zx ?_ | refine R.zl ttok ?_ | refine R.zs ttok ?_ | refine R.z ttok ?_ | refine R.zk ?_ | refine R.zn ?_ | refine R.done ?_ | refine X.then ?_ | refine C.block ?_ | refine C.ret ?_ | refine C.skip ?_ | refine C.exit ?_ | refine X.pass_ret ?_ | refine X.pass_exit ?_ | refine X.block_normal ?_ | refine X.block_ret ?_ | refine X.block_exit ?_ | refine C.zt ?_ | refine C.zf ?_ | refine X.zo ?_)
  refine R.cl [0] (rnexts_spec off c p (k : Nat) hc hl (by omega) (by omega)) Try.call18 (by repeat (first | exact HasIn.nil | refine HasIn.same rfl rfl ?_ | refine HasIn.bro rfl ?_ | refine HasIn.ror rfl ?_ | refine HasIn.cro rfl rfl ?_)) rfl rfl rfl (fun _ => rfl) rfl (by kernel_rfl) fun c2 hc2 => ?_
  rw [nextF_nat p k hk]
  cases hn : nextN p k with
  | error x =>
    have hx := next_err hn
    rw [show nxX (.error x) = (x : Int) from rfl]
    repeat (first | refine C.seq ?_ | refine C.region ?_ | refine R.zb ttok ?_ | refine R.zu ttok ?_ | refine R.zc ttok ?_ | refine R.za ttok ?_ | refine R.zx ?_ | refine R.zl ttok ?_ | refine R.zs ttok ?_ | refine R.z ttok ?_ | refine R.zk ?_ | refine R.zn ?_ | refine R.done ?_ | refine X.then ?_ | refine C.block ?_ | refine C.ret ?_ | refine C.skip ?_ | refine C.exit ?_ | refine X.pass_ret ?_ | refine X.pass_exit ?_ | refine X.block_normal ?_ | refine X.block_ret ?_ | refine X.block_exit ?_ | refine C.zt ?_ | refine C.zf ?_ | refine X.zo ?_)
    rw [decide_eq_true (show (x : Int) ≠ 0 by omega)]
    repeat (first | refine C.seq ?_ | refine C.region ?_ | refine R.zb ttok ?_ | refine R.zu ttok ?_ | refine R.zc ttok ?_ | refine R.za ttok ?_ | refine R.zx ?_ | refine R.zl ttok ?_ | refine R.zs ttok ?_ | refine R.z ttok ?_ | refine R.zk ?_ | refine R.zn ?_ | refine R.done ?_ | refine X.then ?_ | refine C.block ?_ | refine C.ret ?_ | refine C.skip ?_ | refine C.exit ?_ | refine X.pass_ret ?_ | refine X.pass_exit ?_ | refine X.block_normal ?_ | refine X.block_ret ?_ | refine X.block_exit ?_ | refine C.zt ?_ | refine C.zf ?_ | refine X.zo ?_)
    rw [scanK_err hn, List.append_nil] at hkeys
    refine X.finF ttok (rs, cp) [(1, 1)] ⟨hkeys, hok, hrc, hcp⟩ rfl rfl rfl (by repeat (first | exact HasH.nil | refine HasH.same rfl rfl rfl trivial ?_ | refine HasH.same rfl rfl rfl rfl ?_ | refine HasH.same rfl rfl rfl (fun _ _ => rfl) ?_ | refine HasH.ros rfl rfl ?_)) _ (by first | exact .inl rfl | exact .inr rfl) ?_ ?_ ?_
    · exact fun w hf => hf.ap
    · exact fun p hp => hp
    · exact fun p hp => by cases hp
  | ok r =>
    obtain ⟨b, e⟩ := r
    have h1 := next_ok hn
    rw [show nxX (.ok (b, e)) = 0 from rfl, show nxE (.ok (b, e)) = (e : Int) from rfl, show nxB (.ok (b, e)) = b from rfl]
    repeat (first | refine R.zb ttok ?_ | refine R.zu ttok ?_ | refine R.zc ttok ?_ | refine R.za ttok ?_ | refine R.zx ?_ | refine R.zl ttok ?_ | refine R.zs ttok ?_ | refine R.z ttok ?_ | refine R.zk ?_ | refine R.zn ?_)
    refine R.done ?_
    refine X.then ?_
    refine C.seq ?_
    refine C.seq ?_
    refine C.region ?_
    repeat (first | refine R.zb ttok ?_ | refine R.zu ttok ?_ | refine R.zc ttok ?_ | refine R.za ttok ?_ | refine R.zx ?_ | refine R.zl ttok ?_ | refine R.zs ttok ?_ | refine R.z ttok ?_ | refine R.zk ?_ | refine R.zn ?_)
    refine R.done ?_
    refine X.then ?_
    refine C.fls rfl ?_
    refine C.skip ?_
    refine X.then ?_
    refine C.seq ?_
    refine C.region ?_
    refine R.frzB false 5 2 (w1 := 1) rfl h1.2.2.1 rfl fun bb ob hob hne => ?_
    repeat (first | refine C.seq ?_ | refine C.region ?_ | refine R.zb ttok ?_ | refine R.zu ttok ?_ | refine R.zc ttok ?_ | refine R.za ttok ?_ | refine R.zx ?_ | refine R.zl ttok ?_ | refine R.zs ttok ?_ | refine R.z ttok ?_ | refine R.zk ?_ | refine R.zn ?_ | refine R.done ?_ | refine X.then ?_ | refine C.block ?_ | refine C.ret ?_ | refine C.skip ?_ | refine C.exit ?_ | refine X.pass_ret ?_ | refine X.pass_exit ?_ | refine X.block_normal ?_ | refine X.block_ret ?_ | refine X.block_exit ?_ | refine C.zt ?_ | refine C.zf ?_ | refine X.zo ?_)
    obtain ⟨r, hr⟩ : ∃ r : Rw, r = ⟨k, b, bb, ob, c2⟩ := ⟨_, rfl⟩
    have hlen : (rs ++ [r]).length = rs.length + 1 := by rw [List.length_append]; rfl
    refine R.app (xs := rws rs) (news := rws [r]) ttok (fun c => tbR (rs ++ [r]) c) rfl rfl (dstRw rfl) (SrcA.cells rfl (by rw [hr]; rfl)) (asRw _ _ _ (rws_app _ _).symm) rfl rfl rfl rfl rfl rfl (by decide) (by rw [hr]; rfl) (by rw [hr]; rfl) rfl (by kernel_rfl) hcp (by show (rs.length + 1) * 32 ≤ _; omega) (by omega) fun cA hA hA2 => ?_
    rw [← hlen] at hA ⊢
    repeat (first | refine C.seq ?_ | refine C.region ?_ | refine R.zb ttok ?_ | refine R.zu ttok ?_ | refine R.zc ttok ?_ | refine R.za ttok ?_ | refine R.zx ?_ | refine R.zl ttok ?_ | refine R.zs ttok ?_ | refine R.z ttok ?_ | refine R.zk ?_ | refine R.zn ?_ | refine R.done ?_ | refine X.then ?_ | refine C.block ?_ | refine C.ret ?_ | refine C.skip ?_ | refine C.exit ?_ | refine X.pass_ret ?_ | refine X.pass_exit ?_ | refine X.block_normal ?_ | refine X.block_ret ?_ | refine X.block_exit ?_ | refine C.zt ?_ | refine C.zf ?_ | refine X.zo ?_)
    refine X.backG [(1, 4)] (rs ++ [r], e, cA) ⟨h1.2.1, by rw [hlen]; show _ ≤ e; omega, ?_, ?_, hA, hA2⟩ (by show _ - e < _ - k; omega) rfl (by repeat (first | exact HasT.nil | refine HasT.cons rfl rfl rfl ?_)) (by repeat (first | exact HasH.nil | refine HasH.same rfl rfl rfl trivial ?_ | refine HasH.same rfl rfl rfl rfl ?_ | refine HasH.same rfl rfl rfl (fun _ _ => rfl) ?_ | refine HasH.ros rfl rfl ?_)) rfl fun w hf => hf.less ?_ (apf_ro (facts_ro _))
    · show rkeys (rs ++ [r]) ++ scanK p e = _
      rw [← hkeys, scanK_ok hn, hr]
      simp [Rw.key]
    · intro x hx
      rcases List.mem_append.1 hx with hx | hx
      · exact hok x hx
      · obtain rfl : x = r := by simpa using hx
        subst hr
        exact hob
    · intro x hx
      rw [facts_app] at hx
      rcases List.mem_append.1 hx with hx | hx
      · exact List.mem_cons_of_mem _ hx
      · obtain rfl : x = r.fact := by simpa [facts] using hx
        subst hr
        exact List.mem_cons_self
/-- the document's Whole -/
theorem rwhole_spec (off c : Nat) (p : List UInt8) (hc : p.length ≤ c) (hl : p.length ≤ 1000000000) : Spec Try.prog 22 [.sl 0 1 off p.length c] [roBo off p] 1 (σ := Unit) (fun _ => True) (fun _ => .raw (.int .i64 (wholeN p : Nat))) (fun _ => []) := by
  refine Spec.of Try.func22 rfl Try.ntmps22 rfl (by repeat (first | exact bdl_nil _ | refine bdl_cons (fun _ _ => rfl) ?_ | refine bdl_cons trivial ?_ | refine bdl_cons rfl ?_ | refine bdl_cons (rowsF_bd _ _ _ _) ?_ | refine bdl_cons (rowsS_bd _ _ _ _) ?_)) fun ρ w => ?_
  repeat (first | refine C.seq ?_ | refine C.region ?_ | refine R.zb ttok ?_ | refine R.zu ttok ?_ | refine R.zc ttok ?_ | refine R.za ttok ?_ | refine R.zx ?_ | refine R.zl ttok ?_ | refine R.zs ttok ?_ | refine R.z ttok ?_ | refine R.zk ?_ | refine R.zn ?_ | refine R.done ?_ | refine X.then ?_ | refine C.block ?_ | refine C.ret ?_ | refine C.skip ?_ | refine C.exit ?_ | refine X.pass_ret ?_ | refine X.pass_exit ?_ | refine X.block_normal ?_ | refine X.block_ret ?_ | refine X.block_exit ?_ | refine C.zt ?_ | refine C.zf ?_ | refine X.zo ?_)
  refine C.loop (σ := Nat) (L2 := 1) (fun k => k ≤ p.length ∧ wE p k = wE p 0) (fun k => [(0, .sl 0 1 off p.length c), (3, .raw (.int .i64 (k : Nat)))]) (fun _ => [(0, roBo off p)]) _ (fun k => p.length + 1 - k) [] 0 ⟨by simp, rfl⟩ rfl (by repeat (first | exact HasT.nil | refine HasT.cons rfl rfl rfl ?_)) (by repeat (first | exact HasH.nil | refine HasH.same rfl rfl rfl trivial ?_ | refine HasH.same rfl rfl rfl rfl ?_ | refine HasH.same rfl rfl rfl (fun _ _ => rfl) ?_ | refine HasH.ros rfl rfl ?_)) rfl (fun _ h => h) ?_
  rintro k ⟨hk, hw⟩
  repeat (first | refine C.seq ?_ | refine C.region ?_ | refine R.zb ttok ?_ | refine R.zu ttok ?_ | refine R.zc ttok ?_ | refine R.za ttok ?_ | refine R.zx ?_ | refine R.zl ttok ?_ | refine R.zs ttok ?_ | refine R.z ttok ?_ | refine R.zk ?_ | refine R.zn ?_ | refine R.done ?_ | refine X.then ?_ | refine C.block ?_ | refine C.ret ?_ | refine C.skip ?_ | refine C.exit ?_ | refine X.pass_ret ?_ | refine X.pass_exit ?_ | refine X.block_normal ?_ | refine X.block_ret ?_ | refine X.block_exit ?_ | refine C.zt ?_ | refine C.zf ?_ | refine X.zo ?_)
  refine R.cl [0] (rnexts_spec off c p (k : Nat) hc hl (by omega) (by omega)) Try.call18 (by repeat (first | exact HasIn.nil | refine HasIn.same rfl rfl ?_ | refine HasIn.bro rfl ?_ | refine HasIn.ror rfl ?_ | refine HasIn.cro rfl rfl ?_)) rfl rfl rfl (fun _ => rfl) rfl (by kernel_rfl) fun c2 hc2 => ?_
  rw [nextF_nat p k hk]
  cases hn : nextN p k with
  | error x =>
    have hx := next_err hn
    rw [show nxX (.error x) = (x : Int) from rfl]
    repeat (first | refine C.seq ?_ | refine C.region ?_ | refine R.zb ttok ?_ | refine R.zu ttok ?_ | refine R.zc ttok ?_ | refine R.za ttok ?_ | refine R.zx ?_ | refine R.zl ttok ?_ | refine R.zs ttok ?_ | refine R.z ttok ?_ | refine R.zk ?_ | refine R.zn ?_ | refine R.done ?_ | refine X.then ?_ | refine C.block ?_ | refine C.ret ?_ | refine C.skip ?_ | refine C.exit ?_ | refine X.pass_ret ?_ | refine X.pass_exit ?_ | refine X.block_normal ?_ | refine X.block_ret ?_ | refine X.block_exit ?_ | refine C.zt ?_ | refine C.zf ?_ | refine X.zo ?_)
    rw [decide_eq_true (show (x : Int) ≠ 0 by omega)]
    rw [wE_err hn] at hw
    rw [whole_wE, ← hw]
    repeat (first | refine C.seq ?_ | refine C.region ?_ | refine R.zb ttok ?_ | refine R.zu ttok ?_ | refine R.zc ttok ?_ | refine R.za ttok ?_ | refine R.zx ?_ | refine R.zl ttok ?_ | refine R.zs ttok ?_ | refine R.z ttok ?_ | refine R.zk ?_ | refine R.zn ?_ | refine R.done ?_ | refine X.then ?_ | refine C.block ?_ | refine C.ret ?_ | refine C.skip ?_ | refine C.exit ?_ | refine X.pass_ret ?_ | refine X.pass_exit ?_ | refine X.block_normal ?_ | refine X.block_ret ?_ | refine X.block_exit ?_ | refine C.zt ?_ | refine C.zf ?_ | refine X.zo ?_)
    refine X.fin ttok () [] trivial rfl rfl rfl (by repeat (first | exact HasH.nil | refine HasH.same rfl rfl rfl trivial ?_ | refine HasH.same rfl rfl rfl rfl ?_ | refine HasH.same rfl rfl rfl (fun _ _ => rfl) ?_ | refine HasH.ros rfl rfl ?_)) _ (by first | exact .inl rfl | exact .inr rfl)
  | ok r =>
    obtain ⟨b, e⟩ := r
    have h1 := next_ok hn
    rw [show nxX (.ok (b, e)) = 0 from rfl, show nxE (.ok (b, e)) = (e : Int) from rfl]
    repeat (first | refine C.seq ?_ | refine C.region ?_ | refine R.zb ttok ?_ | refine R.zu ttok ?_ | refine R.zc ttok ?_ | refine R.za ttok ?_ | refine R.zx ?_ | refine R.zl ttok ?_ | refine R.zs ttok ?_ | refine R.z ttok ?_ | refine R.zk ?_ | refine R.zn ?_ | refine R.done ?_ | refine X.then ?_ | refine C.block ?_ | refine C.ret ?_ | refine C.skip ?_ | refine C.exit ?_ | refine X.pass_ret ?_ | refine X.pass_exit ?_ | refine X.block_normal ?_ | refine X.block_ret ?_ | refine X.block_exit ?_ | refine C.zt ?_ | refine C.zf ?_ | refine X.zo ?_)
    exact X.back [] e ⟨h1.2.1, by rw [← wE_ok hn, hw]⟩ (by omega) rfl (by repeat (first | exact HasT.nil | refine HasT.cons rfl rfl rfl ?_)) (by repeat (first | exact HasH.nil | refine HasH.same rfl rfl rfl trivial ?_ | refine HasH.same rfl rfl rfl rfl ?_ | refine HasH.same rfl rfl rfl (fun _ _ => rfl) ?_ | refine HasH.ros rfl rfl ?_)) rfl (fun _ h => h)
end Go.Proofs.Ytggnjgnjgnlchaa
