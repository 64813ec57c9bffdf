/- The kernel, 36: contracts that speak of blocks without labels too; loops whose facts turn. No program in sight. -/
import Derived.Test.YteabncomclgncaaK35
namespace Go.Proofs.Yteabncomclgncaa
set_option linter.unusedVariables false
set_option linter.unusedSimpArgs false
set_option linter.unusedSectionVars false
open Go.RowKit
/-! loops, ways that meet: the facts depend on s -/
def AtG {σ : Type} (E : Base) (n L : Nat) (Inv : σ → Prop) (T : σ → List (Nat × AV)) (H : σ → List (Nat × AO)) (F : σ → World → Prop) (μ : σ → Nat) (m : Nat) (a : Act) (w : World) : Prop := ∃ s, Inv s ∧ μ s < m ∧ ∃ ρ, Gam E ρ n L (T s) (H s) (F s) a w
section
variable {P : Program} {Q : Exit → Act → World → Prop} {E : Base} {n L : Nat} {τ : List (Nat × AV)} {h : List (Nat × AO)} {F : World → Prop}
theorem atG_of {σ : Type} {L2 : Nat} {Inv : σ → Prop} {T : σ → List (Nat × AV)} {H : σ → List (Nat × AO)} {F2 : σ → World → Prop} {μ : σ → Nat} {m : Nat} {ρ : Env} {a : Act} {w : World} (g : Gam E ρ n L τ h F a w) (rl : List (Nat × Nat)) (s : σ) (hI : Inv s) (hm : μ s < m) (hb : rnB E.N L2 L rl = true)
    (ht : HasT (rnF rl) L2 τ (T s)) (hh : HasH (rnF rl) L2 h (H s)) (hnd : nodupB (((H s).map (·.1)).map (rnF rl)) = true) (hF : ∀ w, F w → F2 s w) : AtG E n L2 Inv T H F2 μ m a w := by
  obtain ⟨h1, h2, h3⟩ := rn_ok hb
  exact ⟨s, hI, hm, _, g.imp (rnF rl) L2 (T s) (H s) (F2 s) h1 h2 h3 ht hh hnd hF⟩
theorem X.backG {σ : Type} {L2 : Nat} {Inv : σ → Prop} {T : σ → List (Nat × AV)} {H : σ → List (Nat × AO)} {F2 : σ → World → Prop} {μ : σ → Nat} {m : Nat} (rl : List (Nat × Nat)) (s : σ) (hI : Inv s) (hm : μ s < m) (hb : rnB E.N L2 L rl = true)
    (ht : HasT (rnF rl) L2 τ (T s)) (hh : HasH (rnF rl) L2 h (H s)) (hnd : nodupB (((H s).map (·.1)).map (rnF rl)) = true) (hF : ∀ w, F w → F2 s w) : X (Exit.then (AtG E n L2 Inv T H F2 μ m) Q) .normal E n L τ h F :=
  ⟨fun ρ a w g => atG_of g rl s hI hm hb ht hh hnd hF⟩
theorem C.loopG {σ : Type} {c : Code} {L2 : Nat} (Inv : σ → Prop) (T : σ → List (Nat × AV)) (H : σ → List (Nat × AO)) (F2 : σ → World → Prop) (μ : σ → Nat) (rl : List (Nat × Nat)) (s : σ) (hI : Inv s) (hb : rnB E.N L2 L rl = true)
    (ht : HasT (rnF rl) L2 τ (T s)) (hh : HasH (rnF rl) L2 h (H s)) (hnd : nodupB (((H s).map (·.1)).map (rnF rl)) = true) (hF : ∀ w, F w → F2 s w)
    (round : ∀ s, Inv s → C P c (Exit.then (AtG E n L2 Inv T H F2 μ (μ s)) Q) E n L2 (T s) (H s) (F2 s)) : C P (.loop c) Q E n L τ h F := ⟨fun ρ a w g => by
  obtain ⟨s0, hI0, hm0, ρ0, g0⟩ := atG_of (μ := μ) (m := μ s + 1) (F2 := F2) g rl s hI (Nat.lt_succ_self _) hb ht hh hnd hF
  refine wp_loop_ghost (fun k a w => ∃ s, Inv s ∧ μ s = k ∧ ∃ ρ, Gam E ρ n L2 (T s) (H s) (F2 s) a w) (μ s0) ⟨s0, hI0, rfl, ρ0, g0⟩ ?_
  rintro k a w ⟨s, hs, rfl, ρ, g⟩
  refine wp_mono ((round s hs).out ρ a w g) ?_
  intro e a' w' hq
  cases e with
  | normal =>
    obtain ⟨s', h1, h2, h3⟩ := hq
    exact ⟨μ s', h2, s', h1, rfl, h3⟩
  | exit id => exact hq
  | goto l => exact hq
  | ret => exact hq
  | panic ch => exact hq
  | outgrown => exact hq⟩
theorem C.cutG {σ : Type} {x y : Code} (L2 : Nat) (Inv : σ → Prop) (T : σ → List (Nat × AV)) (H : σ → List (Nat × AO)) (F2 : σ → World → Prop) (kx : C P x (Exit.then (AtG E n L2 Inv T H F2 (fun _ => 0) 1) Q) E n L τ h F) (ky : ∀ s, Inv s → C P y Q E n L2 (T s) (H s) (F2 s)) : C P (.seq x y) Q E n L τ h F :=
  ⟨fun ρ a w g => wp_seq (wp_mono (kx.out ρ a w g) fun e a' w' hq => by
    cases e with
    | normal =>
      obtain ⟨s', h1, h2, ρ', h3⟩ := hq
      exact (ky s' h1).out ρ' a' w' h3
    | exit id => exact hq
    | goto l => exact hq
    | ret => exact hq
    | panic ch => exact hq
    | outgrown => exact hq)⟩
end
/-! contracts -/
/-- what a call comes to -/
def OutcF {σ : Type} (h0 : List AO) (m : Nat) (ρ : Env) (w : World) (fs : Fam) (G : σ → Prop) (val : σ → AV) (post : σ → List (Nat × AO)) (fs' : σ → Fam) (e : Ending) (w' : World) : Prop :=
  ∃ s ρ', G s ∧ (∀ i, i < h0.length → ρ' i = ρ i) ∧ e = .returned ((val s).conc ρ') ∧ (val s).Low ρ' m ∧ FF h0 ρ w fs (fs' s) w' ∧
    (∀ l o, hk l (post s) = some o → l < m ∧ o.Low ρ' m ∧ o.holds ρ' (ρ' l) w') ∧ (∀ l l' b, wrA l (post s) → hk l' (post s) ≠ none → ρ' l = some b → ρ' l' = some b → l = l') ∧
    (∀ l b, l < m → ρ' l = some b → b < w'.heap.size) ∧ (∀ l b, h0.length ≤ l → hk l (post s) ≠ none → ρ' l = some b → w.heap.size ≤ b ∨ Wr0 h0 ρ b) ∧ (∀ i o, i < h0.length → hk i (post s) = some o → o.isRo = false → ∃ o0, h0[i]? = some o0 ∧ o0.isRo = false) ∧
    (∀ l b, wrA l (post s) → ρ' l = some b → ¬ BlF (fs' s) b)
def SpecF (P : Program) (f : FuncId) (avs : List AV) (h0 : List AO) (m : Nat) {σ : Type} (fs : Fam) (G : σ → Prop) (val : σ → AV) (post : σ → List (Nat × AO)) (fs' : σ → Fam) : Prop :=
  ∀ (ρ : Env) (w : World), (∀ (i : Nat) (o : AO), h0[i]? = some o → o.holds ρ (ρ i) w) → Pre h0 ρ w fs → Calls P f (AV.concs ρ avs).toArray w (OutcF h0 m ρ w fs G val post fs')
theorem Pre.ff {h0 : List AO} {ρ : Env} {w : World} {fs : Fam} (hp : Pre h0 ρ w fs) {w' : World} (hw : Ag (fun b => ¬ Wr0 h0 ρ b) w w') : FF h0 ρ w fs fs w' := ⟨fun p hq => by
    have := hp.at0 p hq
    rw [← this]
    exact hw.block p.b (Array.getElem?_eq_some_iff.1 this).1 fun hx => hp.wr p.b hx ⟨p, hq, rfl⟩, hw.mono fun b _ h => h.1, hp.ap0, fun p hq hrw => .inr (.inr ⟨p, hq, hrw, rfl⟩), fun p hq => .inr (.inr ⟨p, hq, rfl⟩), hp⟩
section
variable {P : Program} {Q : Exit → Act → World → Prop} {E : Base} {n L : Nat} {τ : List (Nat × AV)} {h : List (Nat × AO)} {F : World → Prop}
/-- the beginning of a call, facts told -/
theorem CL.enterF {f : FuncId} {fn : Func} {c : Code} (hf : P.funcs[f]? = some fn) (hb : fn.body = some c) (ρ : Env) (avs : List AV) (h0 : List AO) (w : World) (fs : Fam) (R : Ending → World → Prop) (n : Nat) (hn : fn.ntmps = n) (hlen : Nat.ble avs.length n = true) (hbd : AV.bds h0.length avs = true)
    (hbo : ∀ o ∈ h0, o.Bd h0.length) (hh : ∀ (i : Nat) (o : AO), h0[i]? = some o → o.holds ρ (ρ i) w) (hp : Pre h0 ρ w fs)
    (k : C P c (bodyPost P fn R) ⟨h0.length, ρ, []⟩ n h0.length (slots 0 avs) (labels 0 h0) (FF h0 ρ w fs fs)) : Calls P f (AV.concs ρ avs).toArray w R := by
  refine CL.enter hf hb ρ avs h0 w R n hn hlen hbd hbo hh hp.dis (fun i b hi hb => hp.al i b hi hb) (fun ρ' a' w' g => k.out ρ' a' w' (g.strong fun x hx => hp.ff (g.fr x hx)))
theorem SpecF.of {f : FuncId} {avs : List AV} {h0 : List AO} {m : Nat} {σ : Type} {fs : Fam} {G : σ → Prop} {val : σ → AV} {post : σ → List (Nat × AO)} {fs' : σ → Fam} {fn : Func} {c : Code} (hf : P.funcs[f]? = some fn) (hb : fn.body = some c) {n : Nat} (hn : fn.ntmps = n) (hB : (Nat.ble avs.length n && AV.bds h0.length avs) = true) (hbo : ∀ o ∈ h0, o.Bd h0.length)
    (k : ∀ ρ w, C P c (bodyPost P fn (OutcF h0 m ρ w fs G val post fs')) ⟨h0.length, ρ, []⟩ n h0.length (slots 0 avs) (labels 0 h0) (FF h0 ρ w fs fs)) : SpecF P f avs h0 m fs G val post fs' := fun ρ w h1 h2 => by
  simp only [Bool.and_eq_true] at hB
  exact CL.enterF hf hb ρ avs h0 w fs _ n hn hB.1 hB.2 hbo h1 h2 (k ρ w)
/-- a plain contract whose walk speaks of blocks without labels -/
theorem Spec.ofF {f : FuncId} {avs : List AV} {h0 : List AO} {m : Nat} {σ : Type} {G : σ → Prop} {val : σ → AV} {post : σ → List (Nat × AO)} {fn : Func} {c : Code} (hf : P.funcs[f]? = some fn) (hb : fn.body = some c) {n : Nat} (hn : fn.ntmps = n) (hB : (Nat.ble avs.length n && AV.bds h0.length avs) = true) (hbo : ∀ o ∈ h0, o.Bd h0.length)
    (k : ∀ ρ w, C P c (bodyPost P fn (Outc h0 m ρ w G val post)) ⟨h0.length, ρ, []⟩ n h0.length (slots 0 avs) (labels 0 h0) (FF h0 ρ w [] [])) : Spec P f avs h0 m G val post := fun ρ w h1 h2 h3 => by
  simp only [Bool.and_eq_true] at hB
  have hp : Pre h0 ρ w [] := ⟨h3, h2, fun p hp => (by cases hp), List.Pairwise.nil, fun i b _ _ ⟨p, hp, _⟩ => (by cases hp), fun b _ ⟨p, hp, _⟩ => (by cases hp)⟩
  exact CL.enterF hf hb ρ avs h0 w [] _ n hn hB.1 hB.2 hbo h1 hp (k ρ w)
theorem FF.ag0 {h0 : List AO} {ρ0 : Env} {w0 : World} {fs : Fam} {w : World} (hf : FF h0 ρ0 w0 [] fs w) : Ag (fun b => ¬ Wr0 h0 ρ0 b) w0 w := hf.ag.mono fun b _ h => ⟨h, fun ⟨p, hp, _⟩ => by cases hp⟩
/-- the end of such a one -/
theorem X.finS {tt : List (Nat × TI)} (htt : TTok P tt) {fn : Func} {σ : Type} {h0 : List AO} {m : Nat} {ρ0 : Env} {w0 : World} {fs : Fam} {G : σ → Prop} {val : σ → AV} {post : σ → List (Nat × AO)} {vs : List AV} (s : σ) (rl : List (Nat × Nat)) (hG : G s) (hr : resA tt h τ fn.results.toList = some vs)
    (hv : resV vs = (val s).ren (rnF rl)) (hb : ((val s).bd m && rnB h0.length m L rl && newB h0.length rl h (post s) && oldB h0 (post s) && nodupB (((post s).map (·.1)).map (rnF rl))) = true) (hh : HasH (rnF rl) m h (post s)) (e : Exit) (he : e = .ret ∨ e = .normal) :
    X (bodyPost P fn (Outc h0 m ρ0 w0 G val post)) e ⟨h0.length, ρ0, []⟩ n L τ h (FF h0 ρ0 w0 [] fs) := X.wk (fun w hw => hw.ag0) (X.fin htt s rl hG hr hv hb hh e he)
/-- the end of a call whose contract speaks of blocks without labels -/
theorem X.finF {tt : List (Nat × TI)} (htt : TTok P tt) {fn : Func} {σ : Type} {h0 : List AO} {m : Nat} {ρ0 : Env} {w0 : World} {fs0 fsE : Fam} {G : σ → Prop} {val : σ → AV} {post : σ → List (Nat × AO)} {fs' : σ → Fam} {vs : List AV} (s : σ) (rl : List (Nat × Nat)) (hG : G s) (hr : resA tt h τ fn.results.toList = some vs)
    (hv : resV vs = (val s).ren (rnF rl)) (hb : ((val s).bd m && rnB h0.length m L rl && newB h0.length rl h (post s) && oldB h0 (post s) && nodupB (((post s).map (·.1)).map (rnF rl))) = true) (hh : HasH (rnF rl) m h (post s)) (e : Exit) (he : e = .ret ∨ e = .normal)
    (hfs : ∀ w, FF h0 ρ0 w0 fs0 fsE w → ApF (fs' s)) (hin : ∀ p ∈ fs' s, p ∈ fsE) (hall : ∀ p ∈ fs0, p.rw = true → BlF fsE p.b) :
    X (bodyPost P fn (OutcF h0 m ρ0 w0 fs0 G val post fs')) e ⟨h0.length, ρ0, []⟩ n L τ h (FF h0 ρ0 w0 fs0 fsE) := by
  have key : ∀ ρ a w, Gam ⟨h0.length, ρ0, []⟩ ρ n L τ h (FF h0 ρ0 w0 fs0 fsE) a w → OutcF h0 m ρ0 w0 fs0 G val post fs' (.returned ((resV vs).conc ρ)) w := fun ρ a w g => by
    simp only [Bool.and_eq_true] at hb
    obtain ⟨⟨⟨⟨h1, h2⟩, h3⟩, h4⟩, h5⟩ := hb
    obtain ⟨h6, h7, h8⟩ := rn_ok h2
    have g2 := g.imp (rnF rl) m [] (post s) _ h6 h7 h8 trivial hh h5 (fun _ h => h)
    refine ⟨s, fun l => ρ (rnF rl l), hG, fun i hi => g2.ex i hi, by rw [hv, ren_conc], bdLow h1 _, g.ff.less hin (hfs w g.ff), g2.hp, g2.dis, fun l b h1 h3 => g.al (rnF rl l) b (h7 l h1) h3, fun l b hl hlive hb => ?_, oldB_mem h4, fun l b hl hb ⟨p, hp, he⟩ => ?_⟩
    · rcases g.freF (newB_mem h3 l hlive hl) hb with h9 | h9 | ⟨p, hp, hrw, he⟩
      · exact .inl h9
      · exact .inr h9
      · obtain ⟨q, hq, hqe⟩ := hall p hp hrw
        exact absurd (by rw [hqe, he]; exact hb) (g.apF hq (newB_mem h3 l hlive hl))
    · exact g2.apF (hin p hp) hl (by rw [he]; exact hb)
  rcases he with rfl | rfl
  · exact X.ret htt hr key
  · exact X.end_ htt hr key
end
end Go.Proofs.Yteabncomclgncaa
