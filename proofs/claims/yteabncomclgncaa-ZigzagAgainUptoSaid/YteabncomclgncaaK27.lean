/- The kernel, 27: calls that the model answers itself. No program in sight. -/
import Derived.Test.YteabncomclgncaaK26
namespace Go.Proofs.Yteabncomclgncaa
set_option linter.unusedVariables false
set_option linter.unusedSimpArgs false
set_option linter.unusedSectionVars false
open Go.RowKit
section
variable {P : Program} {ops : Array Oper} {Q : Exit → Act → World → Prop} {D : Option DD} {E : Base} {n L : Nat} {τ : List (Nat × AV)} {h : List (Nat × AO)} {F : World → Prop} {rest : List Oper}
  {d : Nat} {ty : TypeId} {ps : String} {af : Array Edge} {gd : Option (Nat × Bool)} {tt : List (Nat × TI)}
/-- an entry of the model's own, at values that are known; it answers a value and leaves the world -/
theorem R.ext {f : FuncId} {xs : Array Operand} {ats : Array TypeId} {e : Array Value → Sem Value} (vs : List Value) (u : Value) (eg : ∀ args w, (callFunc f args).run P w = ((e args).run P w).andThen fun v w' => .ok (.value v) w')
    (hxs : evList (evA τ) xs.toList = some (vs.map .raw)) (he : ∀ w, (e vs.toArray).run P w = .ok u w)
    (hg : wantA ops ⟨some d, .call { callee := .value (.func f), args := xs, argTypes := ats }, ty, ps, af, gd⟩ τ = some true) (hb : (Nat.ble (d + 1) n && lookB D []) = true)
    (k : R P ops Q (lookD D []) E n L ((d, .raw u) :: τ) h F rest) : R P ops Q D E n L τ h F (⟨some d, .call { callee := .value (.func f), args := xs, argTypes := ats }, ty, ps, af, gd⟩ :: rest) :=
  R.pure _ (fun ρ a w g => ⟨AV.Low.raw _ _ _, fun W => by
    have hargs : xs.map a.eval = vs.toArray := by
      have := evList_conc (evB g) _ _ hxs
      have hr : ∀ vs : List Value, AV.concs ρ (vs.map .raw) = vs := fun vs => by
        induction vs with
        | nil => rfl
        | cons v r ih => simp only [List.map_cons, AV.concs, AV.conc, ih]
      rw [hr] at this
      apply Array.ext'
      simpa using this
    unfold execOp
    simp only [resolve, invoke, Act.eval, Deferred.ofValue, Sem.run_bind, Sem.run_pure, Result.andThen_ok, Array.append_empty, Array.empty_append]
    rw [eg]
    have : xs.map (fun x => a.eval x) = vs.toArray := hargs
    simp only [Act.eval] at this
    first | rw [this, he] | rw [hargs, he]
    rfl⟩) hg hb k
end
theorem bdl_nil (L : Nat) : ∀ o ∈ ([] : List AO), o.Bd L := fun o h => by cases h
theorem bdl_cons {L : Nat} {o : AO} {os : List AO} (h : o.Bd L) (k : ∀ o ∈ os, o.Bd L) : ∀ o' ∈ o :: os, o'.Bd L := fun o' h' => by
  rcases List.mem_cons.1 h' with rfl | h2
  · exact h
  · exact k o' h2
end Go.Proofs.Yteabncomclgncaa
