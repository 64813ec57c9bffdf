/- The kernel, 44: a region in which a range's round is asked for (a call of yield). No program in sight. -/
import Derived.Test.YteabncomclgncaaK43
namespace Go.Proofs.Yteabncomclgncaa
set_option linter.unusedVariables false
set_option linter.unusedSimpArgs false
set_option linter.unusedSectionVars false
open Go.RowKit
theorem operW {P : Program} {o : Oper} {a : Act} {w : World} {next next' : Act → World → Prop} {Q Q' : Exit → Act → World → Prop} (hd : ∀ c, o.op ≠ .defer c) (hn : ∀ a w, next a w → next' a w) (hp : ∀ ch a w, Q (.panic ch) a w → Q' (.panic ch) a w) (hl : LetsOut Q → LetsOut Q') (h : o.wp P a w next Q) : o.wpIn Fence.wide 0 P a w next' Q' := by
  refine ⟨fun _ _ => trivial, ?_⟩
  rw [Oper.semAt_eq _ _ _ hd]
  unfold Oper.wp at h
  generalize (execOp a.eval o).run P w = r at h
  cases r with
  | ok x w' =>
    cases x <;> simp only [Oper.upon] at h <;> simp only [Oper.uponIn]
    case value v => exact hn _ _ h
    case skip => exact hn _ _ h
    case defer d => exact hn _ _ h
    case enter f args =>
      refine ⟨fun e => (by cases e), (callsIn_wide (n := 0)).2 (h.mono fun e w'' hq => ?_)⟩
      cases e with
      | returned v => exact hn _ _ hq
      | panicked ch => exact hp _ _ _ hq
      | outgrown => exact hl hq
    case row rw args =>
      refine ⟨fun e => (by cases e), fun c cs _ => ?_⟩
      obtain ⟨v, w'', h1, h2⟩ := h c cs
      exact ⟨v, w'', hn _ _ h1, stepsIn_wide.2 h2⟩
  | halt x w' => cases x <;> first | exact hp _ _ _ h | exact h.elim
/-- what is left of a region in which yield is called -/
structure RY (P : Program) (ops : Array Oper) (Q : Exit → Act → World → Prop) (E : Base) (n L : Nat) (τ : List (Nat × AV)) (h : List (Nat × AO)) (F : World → Prop) (rest : List Oper) : Prop where
  mk :: (out : ∀ ρ a w, Gam E ρ n L τ h F a w → wpListIn Fence.wide 0 P ops Q rest a w)
section
variable {P : Program} {ops : Array Oper} {Q : Exit → Act → World → Prop} {E : Base} {n L : Nat} {τ : List (Nat × AV)} {h : List (Nat × AO)} {F : World → Prop} {rest : List Oper}
theorem C.regionY {id : Nat} {l : List Oper} (k : RY P l.toArray Q E n L τ h F l) : C P (.region id l.toArray false) Q E n L τ h F := ⟨fun ρ a w g => (wpIn_wide (n := 0)).1 (wpIn_region_lit (k.out ρ a w g))⟩
theorem RY.done (k : X Q .normal E n L τ h F) : RY P ops Q E n L τ h F [] := ⟨fun ρ a w g => k.out ρ a w g⟩
theorem X.ry (k : RY P ops Q E n L τ h F rest) : X (Exit.then (wpListIn Fence.wide 0 P ops Q rest) Q) .normal E n L τ h F := ⟨fun ρ a w g => k.out ρ a w g⟩
theorem RY.one {o : Oper} (k : R P ops (Exit.then (wpListIn Fence.wide 0 P ops Q rest) Q) none E n L τ h F [o]) (hd : noDefer [o] = true := by kernel_rfl) (hQ : ¬ LetsOut Q := by first | assumption | (rintro ⟨_, _, ⟨_, h⟩, _⟩; cases h)) : RY P ops Q E n L τ h F (o :: rest) := ⟨fun ρ a w g => by
  have h := k.out ρ a w g
  have hd' := noDefer_get hd o List.mem_cons_self
  have h : wpList P ops (Exit.then (wpListIn Fence.wide 0 P ops Q rest) Q) [o] a w := h
  simp only [wpList] at h
  simp only [wpListIn]
  by_cases hw : Region.wanted o (yielded ops a.tmps) = true
  · rw [if_pos hw] at h ⊢
    rcases h with h | h
    · exact operW hd' (fun _ _ h => h) (fun _ _ _ h => h) (fun h => h) h
    · exact absurd h.2 hQ
  · rw [if_neg hw] at h ⊢
    exact ⟨fun _ _ => trivial, h⟩⟩
variable {d : Nat} {ty : TypeId} {ps : String} {af : Array Edge} {gd : Option (Nat × Bool)}
theorem RY.yield {lY : Nat} {x : Operand} {xs : Array Operand} {ats : Array TypeId} {vs : List AV} (hx : evA τ x = some (.raw (.func (.yield lY) #[] #[]))) (hxs : evList (evA τ) xs.toList = some vs) (hg : wantA ops ⟨some d, .call { callee := .value x, args := xs, argTypes := ats }, ty, ps, af, gd⟩ τ = some true)
    (hy : ∀ ρ a w, Gam E ρ n L τ h F a w → YieldAt Fence.wide 0 P lY (AV.concs ρ vs).toArray w fun e w' => ∃ v, e = .returned v ∧ wpListIn Fence.wide 0 P ops Q rest (a.put (some d) v) w') :
    RY P ops Q E n L τ h F (⟨some d, .call { callee := .value x, args := xs, argTypes := ats }, ty, ps, af, gd⟩ :: rest) := ⟨fun ρ a w g => by
  simp only [wpListIn]
  rw [if_pos (g.want hg)]
  refine ⟨fun _ _ => trivial, ?_⟩
  rw [Oper.semAt_eq _ _ _ (by intro c e; cases e)]
  obtain ⟨fn, tmps, assign, body, h1, h2⟩ := hy ρ a w g
  have hargs : xs.map a.eval = (AV.concs ρ vs).toArray := by
    have := evList_conc (evB g) _ _ hxs
    apply Array.ext'
    rw [Array.toList_map, this]
  have e : (execOp a.eval ⟨some d, .call { callee := .value x, args := xs, argTypes := ats }, ty, ps, af, gd⟩).run P w = .ok (.round lY fn tmps assign body) w := by
    unfold execOp
    simp only [resolve, (g.eval x _ hx).2, AV.conc, Deferred.ofValue, hargs, Sem.run_bind, Sem.run_pure, Result.andThen_ok, invoke, Array.append_empty, Array.empty_append]
    exact h1
  rw [e]
  refine ⟨fun e => (by cases e), RoundIn.mono h2 ?_⟩
  rintro e' w' ⟨v, rfl, hv⟩
  exact hv⟩
end
theorem YieldAt.mono {F : Fence} {m : Nat} {P : Program} {l : Nat} {args : Array Value} {W : World} {R R' : Ending → World → Prop} (h : YieldAt F m P l args W R) (hr : ∀ e w, R e w → R' e w) : YieldAt F m P l args W R' := by
  obtain ⟨fn, tmps, assign, body, h1, h2⟩ := h
  exact ⟨fn, tmps, assign, body, h1, RoundIn.mono h2 hr⟩
end Go.Proofs.Yteabncomclgncaa
