/- The kernel, 31: parts of rows of several cells that are only read. No program in sight. -/
import Derived.Test.YteabncomclgncaaK30
namespace Go.Proofs.Yteabncomclgncaa
set_option linter.unusedVariables false
set_option linter.unusedSimpArgs false
set_option linter.unusedSectionVars false
open Go.RowKit
section
variable {P : Program} {ops : Array Oper} {Q : Exit → Act → World → Prop} {D : Option DD} {E : Base} {n L : Nat} {τ : List (Nat × AV)} {h : List (Nat × AO)} {F : World → Prop} {rest : List Oper}
  {d : Nat} {ty : TypeId} {ps : String} {af : Array Edge} {gd : Option (Nat × Bool)} {tt : List (Nat × TI)}
/-- x[lo:hi], cells counted one by one -/
theorem R.sl1 (htt : TTok P tt) {t e : TypeId} {x : Operand} {lo hi : Option Operand} {l w0 off m cap : Nat} {ti te : TI} (l0 h1 : Nat) (hx : evA τ x = some (.sl l 1 off m cap)) (ht : lk t tt = some ti) (hkd : ti.kind = .sl e) (hte : lk e tt = some te) (hsz : te.size = w0)
    (hg : wantA ops ⟨some d, .slice t x lo hi none, ty, ps, af, gd⟩ τ = some true) (hb : (Nat.ble (d + 1) n && lookB D [] && Nat.ble (l + 1) L) = true) (hlo : boundA τ lo 0 l0) (hhi : boundA τ hi m h1) (hlh : l0 ≤ h1) (hc : h1 ≤ cap)
    (k : ∀ o', (o' = off + l0 * w0 ∨ (h1 = l0 ∧ o' = off ∧ cap = l0)) → R P ops Q (lookD D []) E n L ((d, .sl l 1 o' (h1 - l0) (cap - l0)) :: τ) h F rest) : R P ops Q D E n L τ h F (⟨some d, .slice t x lo hi none, ty, ps, af, gd⟩ :: rest) := by
  simp only [Bool.and_eq_true] at hb
  refine R.pure (.sl l 1 (if cap = l0 then off else off + l0 * w0) (h1 - l0) (cap - l0)) (fun ρ a w g => ⟨fun ρ' he => ?_, fun W => ?_⟩) hg (by simp [hb.1]) (k _ ?_)
  · have : l + 1 ≤ L := by simpa [Nat.ble_eq] using hb.2
    simp [AV.conc, he l (by omega)]
  · have hbd := run_bounds (P := P) (W := W) (b := true) g hlo hhi hlh hc
    simp only [execOp, (g.eval x _ hx).2, AV.conc, Option.map_none]
    rw [Sem.run_bind, run_sliceAt_sl (htt _ _ ht) hkd (htt _ _ hte) hbd, hsz]
    by_cases e : cap = l0
    · simp [e]
    · simp only [e, if_false]
      cases ρ l <;> simp [Addr.add]
  · by_cases e : cap = l0
    · exact .inr ⟨by omega, by rw [if_pos e], e⟩
    · exact .inl (by rw [if_neg e])
end
theorem rowsF_one {k : Nat} {f g : Nat → List AV} {i j : Nat} (hk : j < k) (h : f i = g 0) : rowsF k f (i * k + j) = rowsF k g j := by
  have e1 : (i * k + j) / k = i := by rw [Nat.mul_comm, Nat.mul_add_div (by omega), Nat.div_eq_of_lt hk, Nat.add_zero]
  have e2 : (i * k + j) % k = j := by rw [Nat.mul_comm, Nat.mul_add_mod, Nat.mod_eq_of_lt hk]
  have e3 : j / k = 0 := Nat.div_eq_of_lt hk
  have e4 : j % k = j := Nat.mod_eq_of_lt hk
  unfold rowsF
  rw [e1, e2, e3, e4, h]
end Go.Proofs.Yteabncomclgncaa
