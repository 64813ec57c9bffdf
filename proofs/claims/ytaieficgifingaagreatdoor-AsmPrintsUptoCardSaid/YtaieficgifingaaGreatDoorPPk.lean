/- Texts of the claim, merged: only what the theorem needs. -/
import Derived.Test.YtaieficgifingaaGreatDoorPPj
import Derived.Recover
namespace Go.Proofs.YtaieficgifingaaGreatDoor
set_option linter.unusedVariables false
set_option linter.unusedSimpArgs false
set_option linter.unusedSectionVars false
open Go.RowKit
theorem concs_raw (ρ : Env) (vs : List Value) : AV.concs ρ (vs.map .raw) = vs := by
  induction vs with
  | nil => rfl
  | cons v r ih => simp only [List.map_cons, AV.concs, AV.conc, ih]
/-- a contract that speaks of no block -/
theorem Spec.lib {P : Program} {f : FuncId} {vs : List Value} {avs : List AV} (v : AV) (ha : avs = vs.map .raw) (hb : v.bd 0 = true) (h : ∀ ρ w, Calls P f vs.toArray w fun e w' => e = .returned (v.conc ρ) ∧ Below w.heap.size w w') : Spec P f avs [] 0 (σ := Unit) (fun _ => True) (fun _ => v) (fun _ => []) := fun ρ w _ _ _ => by
  subst ha
  rw [concs_raw]
  refine (h ρ w).mono fun e w' ⟨h1, h2⟩ => ⟨(), ρ, trivial, fun _ _ => rfl, h1, bdLow hb ρ, (Ag.of_below h2).mono fun b hb' _ => hb', fun l o hl => by simp [hk, lk] at hl, fun l l' b hl => by obtain ⟨o, hl, _⟩ := hl; simp [hk, lk] at hl, fun l b hl => absurd hl (Nat.not_lt_zero l), fun l b _ hl => absurd rfl hl, fun i o hi => absurd hi (Nat.not_lt_zero i)⟩
/-- one that reads blocks that lie for good -/
theorem SpecF.lib {P : Program} {f : FuncId} {vs : List Value} {avs : List AV} {fs : Fam} (v : AV) (ha : avs = vs.map .raw) (hb : v.bd 0 = true) (h : ∀ ρ w, AtF fs w → Calls P f vs.toArray w fun e w' => e = .returned (v.conc ρ) ∧ Below w.heap.size w w') : SpecF P f avs [] 0 fs (σ := Unit) (fun _ => True) (fun _ => v) (fun _ => []) (fun _ => fs) := fun ρ w _ hp => by
  subst ha
  rw [concs_raw]
  refine (h ρ w hp.at0).mono fun e w' ⟨h1, h2⟩ => ⟨(), ρ, trivial, fun _ _ => rfl, h1, bdLow hb ρ, hp.ff ((Ag.of_below h2).mono fun b hb' _ => hb'), fun l o hl => by simp [hk, lk] at hl, fun l l' b hl => by obtain ⟨o, hl, _⟩ := hl; simp [hk, lk] at hl, fun l b hl => absurd hl (Nat.not_lt_zero l), fun l b _ hl => absurd rfl hl, fun i o hi => absurd hi (Nat.not_lt_zero i), fun l b hl => by obtain ⟨o, hl, _⟩ := hl; simp [hk, lk] at hl⟩
section
variable {P : Program} {ops : Array Oper} {Q : Exit → Act → World → Prop} {D : Option DD} {E : Base} {n L : Nat} {τ : List (Nat × AV)} {h : List (Nat × AO)} {F : World → Prop} {rest : List Oper}
  {d : Nat} {ty : TypeId} {ps : String} {af : Array Edge} {gd : Option (Nat × Bool)} {tt : List (Nat × TI)}
/-- a panic -/
theorem R.pan {x : Operand} {dst : Option Tmp} {t : TypeId} {u : Value} (hx : evA τ x = some (.raw (.iface t u))) (hg : wantA ops ⟨dst, .panic x, ty, ps, af, gd⟩ τ = some true)
    (k : X Q (.panic [{ v := .iface t u, recovered := false }]) E n L τ h F) : R P ops Q none E n L τ h F (⟨dst, .panic x, ty, ps, af, gd⟩ :: rest) := ⟨fun ρ a w g => by
  show wpList P ops Q _ a w
  simp only [wpList]
  rw [if_pos (g.want hg)]
  left
  have e : (execOp a.eval ⟨dst, .panic x, ty, ps, af, gd⟩).run P w = .halt (.panic (.iface t u)) w := by
    unfold execOp
    simp only [(g.eval x _ hx).2, AV.conc, Instr.panic, goPanic]
    simp [Sem.run_bind, Sem.run]
  unfold Oper.wp
  rw [e]
  exact k.out ρ a w g⟩
/-- a call that panics -/
theorem R.clP {f : FuncId} {xs : Array Operand} {ats : Array TypeId} {dst : Option Tmp} {vs : List Value} {ch : List PanicEntry} (sp : ∀ w, Calls P f vs.toArray w fun e w' => e = .panicked ch ∧ Below w.heap.size w w') (eg : ∀ args w, (callFunc f args).run P w = .ok (.enter f args) w)
    (hxs : evList (evA τ) xs.toList = some (vs.map .raw)) (hg : wantA ops ⟨dst, .call { callee := .value (.func f), args := xs, argTypes := ats }, ty, ps, af, gd⟩ τ = some true)
    (k : X Q (.panic ch) E n L τ h F) : R P ops Q none E n L τ h F (⟨dst, .call { callee := .value (.func f), args := xs, argTypes := ats }, ty, ps, af, gd⟩ :: rest) := ⟨fun ρ a w g => by
  show wpList P ops Q _ a w
  simp only [wpList]
  rw [if_pos (g.want hg)]
  left
  have hargs : xs.map a.eval = vs.toArray := by
    have := evList_conc (evB g) _ _ hxs
    rw [concs_raw] at this
    apply Array.ext'
    simpa using this
  have e : (execOp a.eval ⟨dst, .call { callee := .value (.func f), args := xs, argTypes := ats }, ty, ps, af, gd⟩).run P w = .ok (.enter f vs.toArray) w := by
    unfold execOp
    simp only [resolve, invoke, Act.eval, Deferred.ofValue, Sem.run_bind, Sem.run_pure, Result.andThen_ok, Array.append_empty, Array.empty_append]
    rw [eg]
    have : xs.map (fun x => a.eval x) = vs.toArray := hargs
    simp only [Act.eval] at this
    first | rw [this] | rw [hargs]
  unfold Oper.wp
  rw [e]
  refine (sp w).mono fun e' w' ⟨h1, h2⟩ => ?_
  subst h1
  exact k.out ρ a w' (g.grow h2)⟩
/-- a value in an interface -/
theorem R.mki {t : TypeId} {x : Operand} {v : AV} (u : Value) {de : TypeDesc} (hx : evA τ x = some v) (hc : ∀ ρ, v.conc ρ = u) (hu0 : P.underlying t = some de) (hd : ∀ ms, de ≠ .interface ms) (hg : wantA ops ⟨some d, .makeInterface t x, ty, ps, af, gd⟩ τ = some true) (hb : (Nat.ble (d + 1) n && lookB D []) = true)
    (k : R P ops Q (lookD D []) E n L ((d, .raw (.iface t u)) :: τ) h F rest) : R P ops Q D E n L τ h F (⟨some d, .makeInterface t x, ty, ps, af, gd⟩ :: rest) :=
  R.pure _ (fun ρ a w g => ⟨AV.Low.raw _ _ _, fun W => by
    have hu : ∀ w, (underlying t).run P w = .ok de w := run_underlying hu0
    have he := (g.eval x _ hx).2
    rw [hc] at he
    unfold execOp
    simp only [he, Instr.makeInterface, Sem.run_bind, hu, Result.andThen_ok, AV.conc]
    cases de <;> first | exact absurd rfl (hd _) | simp [Sem.run_pure, Result.andThen_ok]⟩) hg hb k
/-- what an interface holds -/
theorem R.tas {t s : TypeId} {x : Operand} {u : Value} (v : AV) {de : TypeDesc} (hx : evA τ x = some (.raw (.iface t u))) (hc : ∀ ρ, v.conc ρ = u) (hbv : v.bd L = true) (hu0 : P.underlying t = some de) (hd : ∀ ms, de ≠ .interface ms) (hg : wantA ops ⟨some d, .typeAssert x s t true, ty, ps, af, gd⟩ τ = some true) (hb : (Nat.ble (d + 1) n && lookB D []) = true)
    (k : R P ops Q (lookD D []) E n L ((d, .tup [v, .raw (.bool true)]) :: τ) h F rest) : R P ops Q D E n L τ h F (⟨some d, .typeAssert x s t true, ty, ps, af, gd⟩ :: rest) :=
  R.pure _ (fun ρ a w g => ⟨bdLow (by simp only [AV.bd, AV.bds, hbv]; rfl) ρ, fun W => by
    have hu : ∀ w, (underlying t).run P w = .ok de w := run_underlying hu0
    have he := (g.eval x _ hx).2
    unfold execOp
    simp only [he, Instr.typeAssert, Sem.run_bind, hu, Result.andThen_ok, AV.conc]
    cases de <;> first | exact absurd rfl (hd _) | simp [Sem.run_pure, Result.andThen_ok, AV.conc, AV.concs, hc]⟩) hg hb k
end
section
variable {P : Program} {n L : Nat} {τ : List (Nat × AV)} {h : List (Nat × AO)}
theorem jst_map {σ : Type} {E1 : Base} {L2 : Nat} {Inv : σ → Prop} {H : σ → List (Nat × AO)} {H0 : List AO} {R0 : Env} {W0 : World} {FS0 : Fam} {fsI fsJ : σ → Fam} {s : σ} {W : World} (hf : ∀ w, FF H0 R0 W0 FS0 (fsI s) w → FF H0 R0 W0 FS0 (fsJ s) w) (hj : Jst E1 L2 Inv H H0 R0 W0 FS0 fsI s W) : Jst E1 L2 Inv H H0 R0 W0 FS0 fsJ s W := by
  obtain ⟨h1, ρ, g⟩ := hj
  exact ⟨h1, ρ, g.strong fun w' hw' => hf w' (g.fr w' hw')⟩
/-- a round's end: on -/
theorem X.nextP {σ α : Type} {lb b0 : Nat} {ob : Obj} {E1 : Base} {L2 : Nat} {Inv : σ → Prop} {H : σ → List (Nat × AO)} {H0 : List AO} {R0 : Env} {W0 : World} {FS0 fsE : Fam} {fsI : σ → Fam} {Jp : σ → World → Prop} {ch : σ → List PanicEntry} {r : Loop} {Nx : σ → α → σ → Prop} {s : σ} {x : α} (rl : List (Nat × Nat)) (s' : σ) (hI : Inv s') (hn : Nx s x s') (hr : r.state = .ready) (hp : r.pending = none) (hE : E1.df = [])
    (hb : rnB E1.N L2 L rl = true) (hh : HasH (rnF rl) L2 h (H s')) (hnd : nodupB (((H s').map (·.1)).map (rnF rl)) = true) (hlb : W0.heap.size ≤ lb) (hfs : ∀ p ∈ fsE, FactC lb p) (hF : ∀ w, FF H0 R0 W0 FS0 fsE w → FF H0 R0 W0 FS0 (⟨true, b0, ob⟩ :: fsI s') w) (hsub : ∀ p ∈ (⟨true, b0, ob⟩ :: fsI s' : Fam), FactC lb p) :
    X (roundPostP P lb (rPostP (Jst E1 L2 Inv H H0 R0 W0 FS0 fun s => ⟨true, b0, ob⟩ :: rFact lb r :: fsI s) Jp ch Nx s x)) .normal E1 n L τ h (FF H0 R0 W0 FS0 (rFact lb { r with state := .busy } :: fsE)) := ⟨fun ρ a w g => by
  have k := (X.next (P := P) (LX := L2) (InvX := fun _ : σ => False) (HX := H) (X0 := []) (fsX := fun _ => []) (τ := τ) (n := n) (fsI := fun s => ⟨true, b0, ob⟩ :: fsI s) (x := x) rl s' hI hn hr hp hE hb hh hnd hlb hfs hF hsub (fun p hp => by cases hp)).out ρ a w g
  obtain ⟨v, w', h1, h2⟩ := k
  refine ⟨v, w', h1, ?_⟩
  rcases h2 with ⟨h3, ⟨s2, h4, h5⟩, _⟩ | ⟨_, s2, h4⟩
  · exact .inl ⟨h3, s2, jst_map (fun w hw => ff_swap hw) h4, h5⟩
  · exact h4.1.elim⟩
/-- a round's end: up by a panic -/
theorem X.upP {σ α : Type} {lb : Nat} {E1 : Base} {L2 : Nat} {Inv : σ → Prop} {H : σ → List (Nat × AO)} {H0 : List AO} {R0 : Env} {W0 : World} {FS0 fsE : Fam} {fsI : σ → Fam} {J : σ → World → Prop} {ch : σ → List PanicEntry} {Nx : σ → α → σ → Prop} {s : σ} {x : α} {c0 : List PanicEntry} (rl : List (Nat × Nat)) (s' : σ) (hI : Inv s') (hc : c0 = ch s') (hE : E1.df = [])
    (hb : rnB E1.N L2 L rl = true) (hh : HasH (rnF rl) L2 h (H s')) (hnd : nodupB (((H s').map (·.1)).map (rnF rl)) = true) (hF : ∀ w, FF H0 R0 W0 FS0 fsE w → FF H0 R0 W0 FS0 (fsI s') w) :
    X (roundPostP P lb (rPostP J (Jst E1 L2 Inv H H0 R0 W0 FS0 fsI) ch Nx s x)) (.panic c0) E1 n L τ h (FF H0 R0 W0 FS0 fsE) := ⟨fun ρ a w g => by
  refine ⟨g.df.trans hE, .inr ⟨s', by rw [hc], hI, ?_⟩⟩
  obtain ⟨h1, h2, h3⟩ := rn_ok hb
  have g2 := g.imp (rnF rl) L2 [] (H s') (FF H0 R0 W0 FS0 (fsI s')) h1 h2 h3 trivial hh hnd hF
  exact ⟨_, g2.mem h3 g2.ex hE⟩⟩
end
end Go.Proofs.YtaieficgifingaaGreatDoor
