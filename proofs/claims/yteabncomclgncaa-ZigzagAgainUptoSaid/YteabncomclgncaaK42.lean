/- The kernel, 42: contracts of calls that hold a range over a function. No program in sight. -/
import Derived.Test.YteabncomclgncaaK41
namespace Go.Proofs.Yteabncomclgncaa
set_option linter.unusedVariables false
set_option linter.unusedSimpArgs false
set_option linter.unusedSectionVars false
open Go.RowKit
theorem gam_enter (ρ : Env) (avs : List AV) (h0 : List AO) (w : World) (n : Nat) (hlen : Nat.ble avs.length n = true) (hbd : AV.bds h0.length avs = true)
    (hbo : ∀ o ∈ h0, o.Bd h0.length) (hh : ∀ (i : Nat) (o : AO), h0[i]? = some o → o.holds ρ (ρ i) w) (hdis : ∀ i j o b, h0[i]? = some o → o.isRo = false → j < h0.length → ρ i = some b → ρ j = some b → i = j) (hal : ∀ i b, i < h0.length → ρ i = some b → b < w.heap.size) :
    Gam ⟨h0.length, ρ, []⟩ ρ n h0.length (slots 0 avs) (labels 0 h0) (fun w' => Ag (fun b => ¬ Wr0 h0 ρ b) w w') { tmps := (AV.concs ρ avs).toArray ++ Array.replicate (n - (AV.concs ρ avs).toArray.size) undef, defers := [] } w := by
  have hlen' : avs.length ≤ n := by simpa [Nat.ble_eq] using hlen
  refine ⟨rfl, by simp [concs_length]; omega, fun t v hv => ?_, fun l o ho => ?_, fun l l' b hl hl' hb1 hb2 => ?_, fun w' hw => ?_, fun _ _ => rfl, Nat.le_refl _, hal⟩
  · have := (lk_slots avs 0 t v hv).2
    rw [Nat.sub_zero] at this
    refine ⟨bdLow (bds_all hbd v (List.mem_of_getElem? this)) ρ, ?_⟩
    have hlt : t < avs.length := (List.getElem?_eq_some_iff.1 this).1
    simp only [Array.getElem?_append, List.size_toArray, concs_length, hlt, if_true]
    simpa using concs_get this
  · have := (hk_labels h0 0 l o ho).2
    rw [Nat.sub_zero] at this
    exact ⟨(List.getElem?_eq_some_iff.1 this).1, (hbo o (List.mem_of_getElem? this)).low ρ, hh l o this⟩
  · have e : ∀ l, hk l (labels 0 h0) ≠ none → l < h0.length := fun l hl => by
      cases ho : hk l (labels 0 h0) with
      | none => exact absurd ho hl
      | some o =>
        have := (hk_labels h0 0 l o ho).2
        rw [Nat.sub_zero] at this
        exact (List.getElem?_eq_some_iff.1 this).1
    obtain ⟨o, ho, hro⟩ := hl
    have := (hk_labels h0 0 l o ho).2
    rw [Nat.sub_zero] at this
    exact hdis l l' o b this hro (e l' hl') hb1 hb2
  · refine hw.mono fun b _ hd l hl hb => hd ?_
    obtain ⟨o, ho, hro⟩ := hl
    have := (hk_labels h0 0 l o ho).2
    rw [Nat.sub_zero] at this
    exact ⟨l, o, this, hro, hb⟩
theorem Gam.outcF {n L : Nat} {τ : List (Nat × AV)} {h : List (Nat × AO)} {a : Act} {w : World} {σ : Type} {h0 : List AO} {m : Nat} {ρ ρ0 : Env} {w0 : World} {fs0 fsE : Fam} {ds : List Deferred} {G : σ → Prop} {val : σ → AV} {post : σ → List (Nat × AO)} {fs' : σ → Fam} {v : AV}
    (g : Gam ⟨h0.length, ρ0, ds⟩ ρ n L τ h (FF h0 ρ0 w0 fs0 fsE) a w) (s : σ) (rl : List (Nat × Nat)) (hG : G s)
    (hv : v = (val s).ren (rnF rl)) (hb : ((val s).bd m && rnB h0.length m L rl && newB h0.length rl h (post s) && oldB h0 (post s) && nodupB (((post s).map (·.1)).map (rnF rl))) = true) (hh : HasH (rnF rl) m h (post s))
    (hfs : ∀ w, FF h0 ρ0 w0 fs0 fsE w → ApF (fs' s)) (hin : ∀ p ∈ fs' s, p ∈ fsE) (hall : ∀ p ∈ fs0, p.rw = true → BlF fsE p.b) : OutcF h0 m ρ0 w0 fs0 G val post fs' (.returned (v.conc ρ)) w := by
  simp only [Bool.and_eq_true] at hb
  obtain ⟨⟨⟨⟨h1, h2⟩, h3⟩, h4⟩, h5⟩ := hb
  obtain ⟨h6, h7, h8⟩ := rn_ok h2
  have g2 := g.imp (rnF rl) m [] (post s) _ h6 h7 h8 trivial hh h5 (fun _ h => h)
  refine ⟨s, fun l => ρ (rnF rl l), hG, fun i hi => g2.ex i hi, by rw [hv, ren_conc], bdLow h1 _, g.ff.less hin (hfs w g.ff), g2.hp, g2.dis, fun l b h1 h3 => g.al (rnF rl l) b (h7 l h1) h3, fun l b hl hlive hb => ?_, oldB_mem h4, fun l b hl hb ⟨p, hp, he⟩ => ?_⟩
  · rcases g.freF (newB_mem h3 l hlive hl) hb with h9 | h9 | ⟨p, hp, hrw, he⟩
    · exact .inl h9
    · exact .inr h9
    · obtain ⟨q, hq, hqe⟩ := hall p hp hrw
      exact absurd (by rw [hqe, he]; exact hb) (g.apF hq (newB_mem h3 l hlive hl))
  · exact g2.apF (hin p hp) hl (by rw [he]; exact hb)
section
variable {P : Program} {n L : Nat} {τ : List (Nat × AV)} {h : List (Nat × AO)}
theorem SpecF.ofM {f : FuncId} {avs : List AV} {h0 : List AO} {m : Nat} {σ : Type} {fs : Fam} {G : σ → Prop} {val : σ → AV} {post : σ → List (Nat × AO)} {fs' : σ → Fam} {fn : Func} {c : Code} (hf : P.funcs[f]? = some fn) (hb : fn.body = some c) {n : Nat} (hn : fn.ntmps = n) (hB : (Nat.ble avs.length n && AV.bds h0.length avs) = true) (hbo : ∀ o ∈ h0, o.Bd h0.length)
    (k : ∀ ρ w, C P c (bodyPostM Fence.wide 0 P fn (OutcF h0 m ρ w fs G val post fs')) ⟨h0.length, ρ, []⟩ n h0.length (slots 0 avs) (labels 0 h0) (FF h0 ρ w fs fs)) : SpecF P f avs h0 m fs G val post fs' := fun ρ w h1 h2 => by
  simp only [Bool.and_eq_true] at hB
  refine (callsIn_wide (n := 0)).1 (callsIn_of_wp_marks hf hb trivial (wpIn_wide.2 ?_) rfl)
  rw [hn]
  exact (k ρ w).out ρ _ w ((gam_enter ρ avs h0 w n hB.1 hB.2 hbo h1 h2.dis (fun i b hi hb => h2.al i b hi hb)).strong fun x hx => h2.ff ((gam_enter ρ avs h0 w n hB.1 hB.2 hbo h1 h2.dis (fun i b hi hb => h2.al i b hi hb)).fr x hx))
/-- the end, behind the loop -/
theorem X.finM {tt : List (Nat × TI)} (htt : TTok P tt) {fn : Func} {σ : Type} {h0 : List AO} {m D : Nat} {ρ0 : Env} {w0 : World} {fs0 fsE : Fam} {G : σ → Prop} {val : σ → AV} {post : σ → List (Nat × AO)} {fs' : σ → Fam} {vs : List AV} (s : σ) (rl : List (Nat × Nat)) (hG : G s) (hr : resA tt h τ fn.results.toList = some vs)
    (hv : resV vs = (val s).ren (rnF rl)) (hb : ((val s).bd m && rnB h0.length m L rl && newB h0.length rl h (post s) && oldB h0 (post s) && nodupB (((post s).map (·.1)).map (rnF rl))) = true) (hh : HasH (rnF rl) m h (post s)) (e : Exit) (he : e = .ret ∨ e = .normal) (hD : w0.heap.size ≤ D) (hcE : ∀ p ∈ fsE, p.ob.isCells = true)
    (hfs : ∀ w, FF h0 ρ0 w0 fs0 fsE w → ApF (fs' s)) (hin : ∀ p ∈ fs' s, p ∈ fsE) (hall : ∀ p ∈ fs0, p.rw = true → BlF fsE p.b) :
    X (bodyPostM Fence.wide 0 P fn (OutcF h0 m ρ0 w0 fs0 G val post fs')) e ⟨h0.length, ρ0, [markD D]⟩ n L τ h (FF h0 ρ0 w0 fs0 (dFact D :: fsE)) := by
  have key : ∀ ρ a w, Gam ⟨h0.length, ρ0, [markD D]⟩ ρ n L τ h (FF h0 ρ0 w0 fs0 (dFact D :: fsE)) a w → LeavesInM Fence.wide 0 P fn a.tmps (OutcF h0 m ρ0 w0 fs0 G val post fs') a.defers .returning w := fun ρ a w g => by
    have hat : w.heap[D]? = some (.deferred (some [])) := g.ff.at_ (dFact D) List.mem_cons_self
    have hoff : ∀ p ∈ fsE, p.b ≠ D := fun p hp e => by
      have h1 := g.ff.at_ p (List.mem_cons_of_mem _ hp)
      rw [e, hat] at h1
      have h2 := hcE p hp
      rw [← Option.some.inj h1] at h2
      cases h2
    have g2 := g.turnO (.deferred none) rfl hoff hD
    have g3 : Gam ⟨h0.length, ρ0, [markD D]⟩ ρ n L τ h (FF h0 ρ0 w0 fs0 fsE) a (w.putObj D (.deferred none)) := g2.strong fun w' hw' => (g2.fr w' hw').less (fun x hx => List.mem_cons_of_mem _ hx) (List.pairwise_cons.1 (g2.fr w' hw').ap).2
    rw [g.df]
    refine ⟨by simp, .inl ⟨D, _, rfl, run_takeDeferred hat, ?_⟩⟩
    exact ⟨_, run_results htt g3 hr, g3.outcF s rl hG hv hb hh hfs hin hall⟩
  rcases he with rfl | rfl
  · exact ⟨fun ρ a w g => key ρ a w g⟩
  · exact ⟨fun ρ a w g => key ρ a w g⟩
/-- the end, where the loop was not come to -/
theorem X.finN {tt : List (Nat × TI)} (htt : TTok P tt) {fn : Func} {σ : Type} {h0 : List AO} {m : Nat} {ρ0 : Env} {w0 : World} {fs0 fsE : Fam} {G : σ → Prop} {val : σ → AV} {post : σ → List (Nat × AO)} {fs' : σ → Fam} {vs : List AV} (s : σ) (rl : List (Nat × Nat)) (hG : G s) (hr : resA tt h τ fn.results.toList = some vs)
    (hv : resV vs = (val s).ren (rnF rl)) (hb : ((val s).bd m && rnB h0.length m L rl && newB h0.length rl h (post s) && oldB h0 (post s) && nodupB (((post s).map (·.1)).map (rnF rl))) = true) (hh : HasH (rnF rl) m h (post s)) (e : Exit) (he : e = .ret ∨ e = .normal)
    (hfs : ∀ w, FF h0 ρ0 w0 fs0 fsE w → ApF (fs' s)) (hin : ∀ p ∈ fs' s, p ∈ fsE) (hall : ∀ p ∈ fs0, p.rw = true → BlF fsE p.b) :
    X (bodyPostM Fence.wide 0 P fn (OutcF h0 m ρ0 w0 fs0 G val post fs')) e ⟨h0.length, ρ0, []⟩ n L τ h (FF h0 ρ0 w0 fs0 fsE) := by
  have key : ∀ ρ a w, Gam ⟨h0.length, ρ0, []⟩ ρ n L τ h (FF h0 ρ0 w0 fs0 fsE) a w → LeavesInM Fence.wide 0 P fn a.tmps (OutcF h0 m ρ0 w0 fs0 G val post fs') a.defers .returning w := fun ρ a w g => by
    rw [g.df]
    exact ⟨_, run_results htt g hr, g.outcF s rl hG hv hb hh hfs hin hall⟩
  rcases he with rfl | rfl
  · exact ⟨fun ρ a w g => key ρ a w g⟩
  · exact ⟨fun ρ a w g => key ρ a w g⟩
/-- a round's end: on -/
theorem X.next {σ α : Type} {lb : Nat} {E1 : Base} {L2 LX : Nat} {Inv InvX : σ → Prop} {H HX : σ → List (Nat × AO)} {H0 : List AO} {R0 : Env} {W0 : World} {FS0 fsE X0 : Fam} {fsI fsX : σ → Fam} {r : Loop} {Nx : σ → α → σ → Prop} {s : σ} {x : α} (rl : List (Nat × Nat)) (s' : σ) (hI : Inv s') (hn : Nx s x s') (hr : r.state = .ready) (hp : r.pending = none) (hE : E1.df = [])
    (hb : rnB E1.N L2 L rl = true) (hh : HasH (rnF rl) L2 h (H s')) (hnd : nodupB (((H s').map (·.1)).map (rnF rl)) = true) (hlb : W0.heap.size ≤ lb) (hfs : ∀ p ∈ fsE, FactC lb p) (hF : ∀ w, FF H0 R0 W0 FS0 fsE w → FF H0 R0 W0 FS0 (fsI s') w) (hsub : ∀ p ∈ fsI s', FactC lb p) (hX : ∀ p ∈ X0, p ∈ fsE) :
    X (roundPost P lb (rPost (Jst E1 L2 Inv H H0 R0 W0 FS0 fun s => rFact lb r :: fsI s) (Jst E1 LX InvX HX H0 R0 W0 FS0 fsX) Nx X0 s x)) .normal E1 n L τ h (FF H0 R0 W0 FS0 (rFact lb { r with state := .busy } :: fsE)) := by
  refine X.endN hfs hlb fun ρ a w g => .inl ⟨rfl, ⟨s', ⟨hI, ?_⟩, hn⟩, fun p hp => g.ff.at_ p (List.mem_cons_of_mem _ (hX p hp))⟩
  obtain ⟨h1, h2, h3⟩ := rn_ok hb
  have er : ({ ({ r with state := .busy } : Loop) with state := .ready, pending := none } : Loop) = r := by
    cases r; simp only at hr hp; subst hr hp; rfl
  rw [er] at g
  have g2 := g.imp (rnF rl) L2 [] (H s') (FF H0 R0 W0 FS0 (rFact lb r :: fsI s')) h1 h2 h3 trivial hh hnd (fun w hf => by
    have hf2 : FF H0 R0 W0 FS0 (fsI s') w := hF w (hf.less (fun p hp => List.mem_cons_of_mem _ hp) (List.pairwise_cons.1 hf.ap).2)
    have hat : w.heap[lb]? = some (.loop r) := hf.at_ (rFact lb r) List.mem_cons_self
    have hoff := factC_off hf2.at_ hat hsub
    refine ⟨fun p hp => ?_, hf2.ag, List.pairwise_cons.2 ⟨fun q hq e => absurd e.symm (hoff q hq), hf2.ap⟩, fun p hp hrw => ?_, fun p hp => ?_, hf2.pre⟩
    · rcases List.mem_cons.1 hp with rfl | hp
      · exact hat
      · exact hf2.at_ p hp
    · rcases List.mem_cons.1 hp with rfl | hp
      · cases hrw
      · exact hf2.fre p hp hrw
    · rcases List.mem_cons.1 hp with rfl | hp
      · exact .inl hlb
      · exact hf2.bl p hp)
  exact ⟨_, g2.mem h3 g2.ex hE⟩
/-- a round's end: out by a return -/
theorem X.leave {σ α : Type} {lb : Nat} {E1 : Base} {L2 LX : Nat} {Inv InvX : σ → Prop} {H HX : σ → List (Nat × AO)} {H0 : List AO} {R0 : Env} {W0 : World} {FS0 fsE X0 : Fam} {fsI fsX : σ → Fam} {r : Loop} {Nx : σ → α → σ → Prop} {s : σ} {x : α} (rl : List (Nat × Nat)) (s' : σ) (hI : InvX s') (hE : E1.df = [])
    (hb : rnB E1.N LX L rl = true) (hh : HasH (rnF rl) LX h (HX s')) (hnd : nodupB (((HX s').map (·.1)).map (rnF rl)) = true) (hlb : W0.heap.size ≤ lb) (hfs : ∀ p ∈ fsE, FactC lb p) (hF : ∀ w, FF H0 R0 W0 FS0 fsE w → FF H0 R0 W0 FS0 (fsX s') w) (hsub : ∀ p ∈ fsX s', FactC lb p) :
    X (roundPost P lb (rPost (Jst E1 L2 Inv H H0 R0 W0 FS0 fsI) (Jst E1 LX InvX HX H0 R0 W0 FS0 fun s => rFact lb { r with state := .done, pending := some .ret } :: fsX s) Nx X0 s x)) .ret E1 n L τ h (FF H0 R0 W0 FS0 (rFact lb { r with state := .busy } :: fsE)) := by
  refine X.endJ hfs hlb fun ρ a w g => .inr ⟨rfl, s', hI, ?_⟩
  obtain ⟨h1, h2, h3⟩ := rn_ok hb
  have g2 := g.imp (rnF rl) LX [] (HX s') (FF H0 R0 W0 FS0 (rFact lb { r with state := .done, pending := some .ret } :: fsX s')) h1 h2 h3 trivial hh hnd (fun w hf => by
    have hf2 : FF H0 R0 W0 FS0 (fsX s') w := hF w (hf.less (fun p hp => List.mem_cons_of_mem _ hp) (List.pairwise_cons.1 hf.ap).2)
    have hat : w.heap[lb]? = some (.loop { r with state := .done, pending := some .ret }) := hf.at_ (rFact lb { r with state := .done, pending := some .ret }) List.mem_cons_self
    have hoff := factC_off hf2.at_ hat hsub
    refine ⟨fun p hp => ?_, hf2.ag, List.pairwise_cons.2 ⟨fun q hq e => absurd e.symm (hoff q hq), hf2.ap⟩, fun p hp hrw => ?_, fun p hp => ?_, hf2.pre⟩
    · rcases List.mem_cons.1 hp with rfl | hp
      · exact hat
      · exact hf2.at_ p hp
    · rcases List.mem_cons.1 hp with rfl | hp
      · cases hrw
      · exact hf2.fre p hp hrw
    · rcases List.mem_cons.1 hp with rfl | hp
      · exact .inl hlb
      · exact hf2.bl p hp)
  exact ⟨_, g2.mem h3 g2.ex hE⟩
end
end Go.Proofs.Yteabncomclgncaa
