/- The kernel, 23: structs and arrays compared. No program in sight. -/
import Derived.Test.YteabncomclgncaaK22
import Derived.Laws.StructEq
import Derived.ChangeKeysEq
namespace Go.Proofs.Yteabncomclgncaa
set_option linter.unusedVariables false
set_option linter.unusedSimpArgs false
set_option linter.unusedSectionVars false
open Go.RowKit

/-- what is asked of a type so that two of it may be compared part by part -/
def eqOk (P : Program) : Nat → TypeId → Bool
  | 0, _ => false
  | d + 1, t => match P.underlying t with
    | some (.struct fs) => !P.stoodInHeld t && fs.toList.all fun f => decide (f.name ≠ "_") && eqOk P d f.type
    | some (.array n e) => eqOk P d e
    | some (.int _) => true
    | some .string => true
    | some .bool => true
    | _ => false
/-- parts compared, each by eq -/
def eqFs (eq : Nat → AV → AV → Option Bool) (tt : List (Nat × TI)) (xs ys : List AV) : List (Nat × Nat) → Option Bool
  | [] => some true
  | (off, ft) :: r => match partA tt ft xs off, partA tt ft ys off with
    | some a, some b => match eq ft a b, eqFs eq tt xs ys r with
      | some p, some q => some (p && q)
      | _, _ => none
    | _, _ => none
def eqA (tt : List (Nat × TI)) : Nat → Nat → AV → AV → Option Bool
  | 0, _, _, _ => none
  | d + 1, t, u, v => match lk t tt with
    | some ⟨_, _, .int _, _⟩ => match u, v with
      | .raw (.int k a), .raw (.int k' b) => if k = k' then some (decide (a = b)) else none
      | _, _ => none
    | some ⟨_, _, .str, _⟩ => match u, v with
      | .raw (.string a), .raw (.string b) => some (decide (a.toList = b.toList))
      | _, _ => none
    | some ⟨_, _, .bool, _⟩ => match u, v with
      | .raw (.bool a), .raw (.bool b) => some (a == b)
      | _, _ => none
    | some ⟨_, _, .st fs, _⟩ => match u, v with
      | .agg xs, .agg ys => eqFs (eqA tt d) tt xs ys fs
      | _, _ => none
    | some ⟨_, _, .arr n e, _⟩ => match u, v, lk e tt with
      | .agg xs, .agg ys, some te => eqFs (eqA tt d) tt xs ys ((List.range n).map fun i => (i * te.size, e))
      | _, _, _ => none
    | _ => none
section
variable {P : Program} {tt : List (Nat × TI)}
theorem und_of_run {t : TypeId} {d : TypeDesc} {w : World} (h : (underlying t).run P w = .ok d w) : P.underlying t = some d := by
  cases hx : P.underlying t with
  | none => simp [underlying, hx] at h
  | some d' => simp [underlying, hx] at h; rw [h]
theorem info_size (htt : TTok P tt) {t : TypeId} {ti : TI} (h : lk t tt = some ti) : ∃ i, P.info? t = some i ∧ i.size = ti.size := by
  obtain ⟨⟨i, z, h1, h2, _⟩, _⟩ := htt _ _ h
  exact ⟨i, h1, h2⟩
theorem eqA_ok (htt : TTok P tt) (ρ : Env) (w : World) : ∀ (d D : Nat) (t : TypeId) (u v : AV) (r : Bool), d ≤ D → eqOk P d t = true → eqA tt d t u v = some r → (Op.equalIn D t (u.conc ρ) (v.conc ρ)).run P w = .ok r w
  | 0, D, t, u, v, r, _, h, _ => by simp [eqOk] at h
  | d + 1, D, t, u, v, r, hD, hok, he => by
    obtain ⟨D, rfl⟩ : ∃ m, D = m + 1 := ⟨D - 1, by omega⟩
    simp only [eqA] at he
    split at he
    · rename_i hl
      split at he
      · split at he
        · rename_i hk
          cases he
          subst hk
          have := und_of_run (und_int (htt _ _ hl) rfl w)
          simp only [AV.conc]
          rw [run_equalIn_int w D t _ _ _ _ this]
          rfl
        · cases he
      · cases he
    · rename_i hl
      split at he
      · cases he
        have := und_of_run (und_str (htt _ _ hl) rfl w)
        simp only [AV.conc]
        rw [run_equalIn_string w D t _ _ this, beq_toList]
      · cases he
    · rename_i hl
      split at he
      · cases he
        have := und_of_run (und_bool (htt _ _ hl) rfl w)
        simp only [AV.conc]
        rw [run_equalIn_bool' w D t _ _ this]
      · cases he
    · rename_i sz bt fs z hl
      split at he
      · rename_i xs ys
        obtain ⟨fields, hu, hf⟩ := und_st (htt _ _ hl) rfl
        have hu2 := und_of_run (hu w)
        have hfo : P.fieldsOf t = fields := by simp [Program.fieldsOf, hu2]
        simp only [eqOk, hu2, Bool.and_eq_true, Bool.not_eq_true'] at hok
        simp only [AV.conc]
        rw [run_equalIn_struct w D t _ _ (by rw [hfo]; exact hu2) hok.1, hfo]
        have hall := hok.2
        subst hf
        generalize fields.toList = l at he hall
        clear hu hu2 hfo hok hl
        induction l generalizing r with
        | nil => cases he; rfl
        | cons f l ih =>
          simp only [List.map_cons, eqFs] at he
          simp only [List.all_cons, Bool.and_eq_true, decide_eq_true_eq] at hall
          split at he
          · rename_i a b ha hb
            split at he
            · rename_i p q hp hq
              cases he
              have h1 := run_partA htt ρ _ _ _ _ w ha
              have h2 := run_partA htt ρ _ _ _ _ w hb
              have h3 := eqA_ok htt ρ w d D f.type a b p (by omega) hall.1.2 hp
              have h4 := ih q hq hall.2
              simp only [Op.eqFields, hall.1.1, ne_eq, not_false_eq_true, if_true, Sem.run_bind, h1, h2, h3, Result.andThen_ok]
              cases p
              · simp
              · simpa using h4
            · cases he
          · cases he
      · cases he
    · rename_i sz bt n e z hl
      split at he
      · rename_i xs ys te hte
        have hu2 := und_of_run (und_arr (htt _ _ hl) rfl w)
        obtain ⟨i, hi, his⟩ := info_size htt hte
        simp only [eqOk, hu2] at hok
        simp only [AV.conc]
        rw [run_equalIn_array w D _ _ hu2 hi]
        have hco : P.cellsOf e = te.size := by simp [Program.cellsOf, hi, his]
        rw [hco]
        generalize List.range n = l at he
        clear hu2 hl
        induction l generalizing r with
        | nil => cases he; rfl
        | cons j l ih =>
          simp only [List.map_cons, eqFs] at he
          split at he
          · rename_i a b ha hb
            split at he
            · rename_i p q hp hq
              cases he
              have h1 := run_partA htt ρ _ _ _ _ w ha
              have h2 := run_partA htt ρ _ _ _ _ w hb
              have h3 := eqA_ok htt ρ w d D e a b p (by omega) hok hp
              have h4 := ih q hq
              simp only [Op.eqItems, Sem.run_bind, h1, h2, h3, Result.andThen_ok]
              cases p
              · simp
              · simpa using h4
            · cases he
          · cases he
      · cases he
    · cases he
end
section
variable {P : Program} {ops : Array Oper} {Q : Exit → Act → World → Prop} {D : Option DD} {E : Base} {n L : Nat} {τ : List (Nat × AV)} {h : List (Nat × AO)} {F : World → Prop} {rest : List Oper}
  {d : Nat} {ty : TypeId} {ps : String} {af : Array Edge} {gd : Option (Nat × Bool)} {tt : List (Nat × TI)}
/-- x == y of structs, of arrays -/
theorem R.eqs (htt : TTok P tt) {t u : TypeId} {x y : Operand} {xs ys : List AV} (r : Bool) (hx : evA τ x = some (.agg xs)) (hy : evA τ y = some (.agg ys)) (hok : eqOk P 6 t = true) (hm : P.eqGuardType P.depth t = false) (hr : eqA tt 6 t (.agg xs) (.agg ys) = some r)
    (hg : wantA ops ⟨some d, .binOp .eql t x y u, ty, ps, af, gd⟩ τ = some true) (hb : (Nat.ble (d + 1) n && lookB D []) = true)
    (k : R P ops Q (lookD D []) E n L ((d, .raw (.bool r)) :: τ) h F rest) : R P ops Q D E n L τ h F (⟨some d, .binOp .eql t x y u, ty, ps, af, gd⟩ :: rest) :=
  R.pure _ (fun ρ a w g => ⟨AV.Low.raw _ _ _, fun W => by
    have := eqA_ok htt ρ W 6 10000 t _ _ r (by omega) hok hr
    simp only [AV.conc] at this
    simp only [execOp, (g.eval x _ hx).2, (g.eval y _ hy).2, AV.conc, Sem.run_bind, run_eqGuard_agg W _ t x y _ _ hm, Result.andThen_ok, run_eql_struct, this]
    rfl⟩) hg hb k
theorem R.nes (htt : TTok P tt) {t u : TypeId} {x y : Operand} {xs ys : List AV} (r : Bool) (hx : evA τ x = some (.agg xs)) (hy : evA τ y = some (.agg ys)) (hok : eqOk P 6 t = true) (hm : P.eqGuardType P.depth t = false) (hr : eqA tt 6 t (.agg xs) (.agg ys) = some r)
    (hg : wantA ops ⟨some d, .binOp .neq t x y u, ty, ps, af, gd⟩ τ = some true) (hb : (Nat.ble (d + 1) n && lookB D []) = true)
    (k : R P ops Q (lookD D []) E n L ((d, .raw (.bool (!r))) :: τ) h F rest) : R P ops Q D E n L τ h F (⟨some d, .binOp .neq t x y u, ty, ps, af, gd⟩ :: rest) :=
  R.pure _ (fun ρ a w g => ⟨AV.Low.raw _ _ _, fun W => by
    have := eqA_ok htt ρ W 6 10000 t _ _ r (by omega) hok hr
    simp only [AV.conc] at this
    simp only [execOp, (g.eval x _ hx).2, (g.eval y _ hy).2, AV.conc, Sem.run_bind, run_eqGuard_agg W _ t x y _ _ hm, Result.andThen_ok, run_neq_struct, this]
    rfl⟩) hg hb k
end
end Go.Proofs.Yteabncomclgncaa
