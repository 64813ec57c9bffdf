/- Texts of the claim, merged: only what the theorem needs. -/
import Derived.Test.YteabncomclgncaaSoh
import Derived.Laws.StructEq
import Derived.ChangeKeysEq
import Derived.Laws.CopyRow
namespace Go.Proofs.Yteabncomclgncaa
set_option linter.unusedVariables false
set_option linter.unusedSimpArgs false
set_option linter.unusedSectionVars false
open Go.RowKit
/-- what is asked of a type so that two of it may be compared part by part -/
def eqOk (P : Program) : Nat → TypeId → Bool
  | 0, _ => false
  | d + 1, t => match P.underlying t with
    | some (.struct fs) => !P.stoodInHeld t && fs.toList.all fun f => decide (f.name ≠ "_") && eqOk P d f.type
    | some (.array n e) => eqOk P d e
    | some (.int _) => true
    | some .string => true
    | some .bool => true
    | _ => false
/-- parts compared, each by eq -/
def eqFs (eq : Nat → AV → AV → Option Bool) (tt : List (Nat × TI)) (xs ys : List AV) : List (Nat × Nat) → Option Bool
  | [] => some true
  | (off, ft) :: r => match partA tt ft xs off, partA tt ft ys off with
    | some a, some b => match eq ft a b, eqFs eq tt xs ys r with
      | some p, some q => some (p && q)
      | _, _ => none
    | _, _ => none
def eqA (tt : List (Nat × TI)) : Nat → Nat → AV → AV → Option Bool
  | 0, _, _, _ => none
  | d + 1, t, u, v => match lk t tt with
    | some ⟨_, _, .int _, _⟩ => match u, v with
      | .raw (.int k a), .raw (.int k' b) => if k = k' then some (decide (a = b)) else none
      | _, _ => none
    | some ⟨_, _, .str, _⟩ => match u, v with
      | .raw (.string a), .raw (.string b) => some (decide (a.toList = b.toList))
      | _, _ => none
    | some ⟨_, _, .bool, _⟩ => match u, v with
      | .raw (.bool a), .raw (.bool b) => some (a == b)
      | _, _ => none
    | some ⟨_, _, .st fs, _⟩ => match u, v with
      | .agg xs, .agg ys => eqFs (eqA tt d) tt xs ys fs
      | _, _ => none
    | some ⟨_, _, .arr n e, _⟩ => match u, v, lk e tt with
      | .agg xs, .agg ys, some te => eqFs (eqA tt d) tt xs ys ((List.range n).map fun i => (i * te.size, e))
      | _, _, _ => none
    | _ => none
section
variable {P : Program} {tt : List (Nat × TI)}
theorem und_of_run {t : TypeId} {d : TypeDesc} {w : World} (h : (underlying t).run P w = .ok d w) : P.underlying t = some d := by
  cases hx : P.underlying t with
  | none => simp [underlying, hx] at h
  | some d' => simp [underlying, hx] at h; rw [h]
theorem info_size (htt : TTok P tt) {t : TypeId} {ti : TI} (h : lk t tt = some ti) : ∃ i, P.info? t = some i ∧ i.size = ti.size := by
  obtain ⟨⟨i, z, h1, h2, _⟩, _⟩ := htt _ _ h
  exact ⟨i, h1, h2⟩
theorem eqA_ok (htt : TTok P tt) (ρ : Env) (w : World) : ∀ (d D : Nat) (t : TypeId) (u v : AV) (r : Bool), d ≤ D → eqOk P d t = true → eqA tt d t u v = some r → (Op.equalIn D t (u.conc ρ) (v.conc ρ)).run P w = .ok r w
  | 0, D, t, u, v, r, _, h, _ => by simp [eqOk] at h
  | d + 1, D, t, u, v, r, hD, hok, he => by
    obtain ⟨D, rfl⟩ : ∃ m, D = m + 1 := ⟨D - 1, by omega⟩
    simp only [eqA] at he
    split at he
    · rename_i hl
      split at he
      · split at he
        · rename_i hk
          cases he
          subst hk
          have := und_of_run (und_int (htt _ _ hl) rfl w)
          simp only [AV.conc]
          rw [run_equalIn_int w D t _ _ _ _ this]
          rfl
        · cases he
      · cases he
    · rename_i hl
      split at he
      · cases he
        have := und_of_run (und_str (htt _ _ hl) rfl w)
        simp only [AV.conc]
        rw [run_equalIn_string w D t _ _ this, beq_toList]
      · cases he
    · rename_i hl
      split at he
      · cases he
        have := und_of_run (und_bool (htt _ _ hl) rfl w)
        simp only [AV.conc]
        rw [run_equalIn_bool' w D t _ _ this]
      · cases he
    · rename_i sz bt fs z hl
      split at he
      · rename_i xs ys
        obtain ⟨fields, hu, hf⟩ := und_st (htt _ _ hl) rfl
        have hu2 := und_of_run (hu w)
        have hfo : P.fieldsOf t = fields := by simp [Program.fieldsOf, hu2]
        simp only [eqOk, hu2, Bool.and_eq_true, Bool.not_eq_true'] at hok
        simp only [AV.conc]
        rw [run_equalIn_struct w D t _ _ (by rw [hfo]; exact hu2) hok.1, hfo]
        have hall := hok.2
        subst hf
        generalize fields.toList = l at he hall
        clear hu hu2 hfo hok hl
        induction l generalizing r with
        | nil => cases he; rfl
        | cons f l ih =>
          simp only [List.map_cons, eqFs] at he
          simp only [List.all_cons, Bool.and_eq_true, decide_eq_true_eq] at hall
          split at he
          · rename_i a b ha hb
            split at he
            · rename_i p q hp hq
              cases he
              have h1 := run_partA htt ρ _ _ _ _ w ha
              have h2 := run_partA htt ρ _ _ _ _ w hb
              have h3 := eqA_ok htt ρ w d D f.type a b p (by omega) hall.1.2 hp
              have h4 := ih q hq hall.2
              simp only [Op.eqFields, hall.1.1, ne_eq, not_false_eq_true, if_true, Sem.run_bind, h1, h2, h3, Result.andThen_ok]
              cases p
              · simp
              · simpa using h4
            · cases he
          · cases he
      · cases he
    · rename_i sz bt n e z hl
      split at he
      · rename_i xs ys te hte
        have hu2 := und_of_run (und_arr (htt _ _ hl) rfl w)
        obtain ⟨i, hi, his⟩ := info_size htt hte
        simp only [eqOk, hu2] at hok
        simp only [AV.conc]
        rw [run_equalIn_array w D _ _ hu2 hi]
        have hco : P.cellsOf e = te.size := by simp [Program.cellsOf, hi, his]
        rw [hco]
        generalize List.range n = l at he
        clear hu2 hl
        induction l generalizing r with
        | nil => cases he; rfl
        | cons j l ih =>
          simp only [List.map_cons, eqFs] at he
          split at he
          · rename_i a b ha hb
            split at he
            · rename_i p q hp hq
              cases he
              have h1 := run_partA htt ρ _ _ _ _ w ha
              have h2 := run_partA htt ρ _ _ _ _ w hb
              have h3 := eqA_ok htt ρ w d D e a b p (by omega) hok hp
              have h4 := ih q hq
              simp only [Op.eqItems, Sem.run_bind, h1, h2, h3, Result.andThen_ok]
              cases p
              · simp
              · simpa using h4
            · cases he
          · cases he
      · cases he
    · cases he
end
section
variable {P : Program} {ops : Array Oper} {Q : Exit → Act → World → Prop} {D : Option DD} {E : Base} {n L : Nat} {τ : List (Nat × AV)} {h : List (Nat × AO)} {F : World → Prop} {rest : List Oper}
  {d : Nat} {ty : TypeId} {ps : String} {af : Array Edge} {gd : Option (Nat × Bool)} {tt : List (Nat × TI)}
/-- x == y of structs, of arrays -/
theorem R.eqs (htt : TTok P tt) {t u : TypeId} {x y : Operand} {xs ys : List AV} (r : Bool) (hx : evA τ x = some (.agg xs)) (hy : evA τ y = some (.agg ys)) (hok : eqOk P 6 t = true) (hm : P.eqGuardType P.depth t = false) (hr : eqA tt 6 t (.agg xs) (.agg ys) = some r)
    (hg : wantA ops ⟨some d, .binOp .eql t x y u, ty, ps, af, gd⟩ τ = some true) (hb : (Nat.ble (d + 1) n && lookB D []) = true)
    (k : R P ops Q (lookD D []) E n L ((d, .raw (.bool r)) :: τ) h F rest) : R P ops Q D E n L τ h F (⟨some d, .binOp .eql t x y u, ty, ps, af, gd⟩ :: rest) :=
  R.pure _ (fun ρ a w g => ⟨AV.Low.raw _ _ _, fun W => by
    have := eqA_ok htt ρ W 6 10000 t _ _ r (by omega) hok hr
    simp only [AV.conc] at this
    simp only [execOp, (g.eval x _ hx).2, (g.eval y _ hy).2, AV.conc, Sem.run_bind, run_eqGuard_agg W _ t x y _ _ hm, Result.andThen_ok, run_eql_struct, this]
    rfl⟩) hg hb k
end
end Go.Proofs.Yteabncomclgncaa
namespace Go.Proofs.Yteabncomclgncaa
set_option linter.unusedVariables false
set_option linter.unusedSimpArgs false
set_option linter.unusedSectionVars false
open Go.RowKit
/-- rows of k cells each, told cell by cell -/
def rowsF (k : Nat) (f : Nat → List AV) (j : Nat) : List AV := match (f (j / k))[j % k]? with
  | some v => [v]
  | none => []
theorem rowsF_get {k : Nat} {f : Nat → List AV} {i c : Nat} {v : AV} (hc : c < k) (h : (f i)[c]? = some v) : rowsF k f (i * k + c) = [v] := by
  unfold rowsF
  have h1 : (i * k + c) / k = i := by rw [Nat.mul_comm, Nat.mul_add_div (by omega), Nat.div_eq_of_lt hc]; omega
  have h2 : (i * k + c) % k = c := by rw [Nat.mul_comm, Nat.mul_add_mod, Nat.mod_eq_of_lt hc]
  rw [h1, h2, h]
section
variable {P : Program} {ops : Array Oper} {Q : Exit → Act → World → Prop} {D : Option DD} {E : Base} {n L : Nat} {τ : List (Nat × AV)} {h : List (Nat × AO)} {F : World → Prop} {rest : List Oper}
  {d : Nat} {op : Op} {ty : TypeId} {ps : String} {af : Array Edge} {gd : Option (Nat × Bool)} {tt : List (Nat × TI)}
/-- a value told in another way: numbers that fit -/
inductive Nrm : AV → AV → Prop where
  | w {k : IntKind} {x : Int} (h : k.wrap x = x) : Nrm (.raw (.int k (k.wrap x))) (.raw (.int k x))
  | refl (v : AV) : Nrm v v
theorem Nrm.eq {v v' : AV} (h : Nrm v v') : v = v' := by
  cases h with
  | w h => rw [h]
  | refl => rfl
/-- sums, differences, products; numbers made into others -/
def arithB : BinOp → Bool
  | .add => true
  | .sub => true
  | .mul => true
  | _ => false
theorem R.nb (htt : TTok P tt) {b : BinOp} {t u : TypeId} {x y : Operand} {v v' : AV} (har : arithB b = true) (ha : act tt (fun l => hk l h) (evA τ) (.binOp b t x y u) = some v) (hn : Nrm v v') (hg : wantA ops ⟨some d, .binOp b t x y u, ty, ps, af, gd⟩ τ = some true)
    (hb : (Nat.ble (d + 1) n && lookB D []) = true)
    (k : R P ops Q (lookD D []) E n L ((d, v') :: τ) h F rest) : R P ops Q D E n L τ h F (⟨some d, .binOp b t x y u, ty, ps, af, gd⟩ :: rest) :=
  R.s htt (by rw [ha, hn.eq]) hg (by simpa [rdL] using hb) k
theorem R.nu (htt : TTok P tt) {t : TypeId} {x : Operand} {v v' : AV} (ha : act tt (fun l => hk l h) (evA τ) (.unOp .neg t x) = some v) (hn : Nrm v v') (hg : wantA ops ⟨some d, .unOp .neg t x, ty, ps, af, gd⟩ τ = some true)
    (hb : (Nat.ble (d + 1) n && lookB D []) = true)
    (k : R P ops Q (lookD D []) E n L ((d, v') :: τ) h F rest) : R P ops Q D E n L τ h F (⟨some d, .unOp .neg t x, ty, ps, af, gd⟩ :: rest) :=
  R.s htt (by rw [ha, hn.eq]) hg (by simpa [rdL] using hb) k
theorem R.nc (htt : TTok P tt) {s t : TypeId} {x : Operand} {v v' : AV} (ha : act tt (fun l => hk l h) (evA τ) (.convert s t x) = some v) (hn : Nrm v v') (hg : wantA ops ⟨some d, .convert s t x, ty, ps, af, gd⟩ τ = some true)
    (hb : (Nat.ble (d + 1) n && lookB D []) = true)
    (k : R P ops Q (lookD D []) E n L ((d, v') :: τ) h F rest) : R P ops Q D E n L τ h F (⟨some d, .convert s t x, ty, ps, af, gd⟩ :: rest) :=
  R.s htt (by rw [ha, hn.eq]) hg (by simpa [rdL] using hb) k
/-- &x[j] of such rows -/
theorem R.ix1 (htt : TTok P tt) {t e : TypeId} {x y : Operand} {l w0 off m cap : Nat} {k0 : IntKind} {j : Int} {sz bt : Nat} {z : List Value} (jn : Nat) (hx : evA τ x = some (.sl l 1 off m cap)) (hy : evA τ y = some (.raw (.int k0 j))) (ht : lk t tt = some ⟨sz, bt, .sl e, z⟩) (hs : szA tt e = some w0)
    (hg : wantA ops ⟨some d, .indexAddr t x y, ty, ps, af, gd⟩ τ = some true) (hb : (Nat.ble (d + 1) n && lookB D []) = true) (hj : j = (jn : Int)) (hlt : jn < m) (hne : hasAt h l (off + jn * w0)) (hlL : Nat.ble (l + 1) L = true)
    (k : R P ops Q (lookD D []) E n L ((d, .ptr l 1 (off + jn * w0) 0) :: τ) h F rest) : R P ops Q D E n L τ h F (⟨some d, .indexAddr t x y, ty, ps, af, gd⟩ :: rest) :=
  R.pure _ (fun ρ a w g => by
    obtain ⟨b, hr⟩ := g.someAt hne
    refine ⟨fun ρ' he => ?_, fun W => ?_⟩
    · have hl : l < L := by have : l + 1 ≤ L := by simpa [Nat.ble_eq] using hlL
                            omega
      simp [AV.conc, he l hl]
    have hu := und_sl (htt _ _ ht) rfl W
    obtain ⟨te, hte, hsz⟩ := Option.map_eq_some_iff.1 hs
    have e2 := (htt _ _ hte).run_size W
    rw [hsz] at e2
    subst hj
    have h0 : ¬ ((jn : Int) < 0 ∨ (m : Int) ≤ jn) := by omega
    simp only [execOp, (g.eval x _ hx).2, (g.eval y _ hy).2, AV.conc, hr, Option.map_some, Option.getD_some]
    simp [Instr.indexAt, asIntOf, hu, e2, h0, Nat.add_mul, addr_add0, hlt]) hg hb k
/-- a load out of such rows -/
theorem R.ldr1 (htt : TTok P tt) {t : TypeId} {x : Operand} {l off j c w0 n0 : Nat} {f : Nat → List AV} {ti : TI} {v : AV} (i : Nat) (hx : evA τ x = some (.ptr l 1 j c)) (hl : hk l h = some (.ro 1 off n0 (rowsF w0 f))) (ht : lk t tt = some ti) (hv : takeA ti (f i) c = some v)
    (hg : wantA ops ⟨some d, .load t x, ty, ps, af, gd⟩ τ = some true) (hb : (Nat.ble (d + 1) n && lookB D [l] && Nat.ble (l + 1) L) = true) (hj : j = off + i * w0) (hw : (f i).length = w0) (hpos : 0 < w0) (hi : i * w0 + w0 ≤ n0)
    (k : R P ops Q (lookD D [l]) E n L ((d, v) :: τ) h F rest) : R P ops Q D E n L τ h F (⟨some d, .load t x, ty, ps, af, gd⟩ :: rest) :=
  R.looks l _ (fun ρ a w g => by
    subst hj
    obtain ⟨b, cur, T, fr, hr, hbk, hcur⟩ := ro_cell (g.hp _ _ hl).2.2 (i := i * w0) (by omega)
    have hcell : ∀ c x, (f i)[c]? = some x → cur[off + i * w0 + c]? = some (x.conc ρ) := fun c x hcx => by
      have hc : c < w0 := by rw [← hw]; exact (List.getElem?_eq_some_iff.1 hcx).1
      obtain ⟨b2, cur2, T2, fr2, hr2, hbk2, hcur2⟩ := ro_cell (g.hp _ _ hl).2.2 (i := i * w0 + c) (by omega)
      rw [hr] at hr2
      cases hr2
      rw [hbk] at hbk2
      cases hbk2
      have := hcur2 0 x (by rw [rowsF_get hc hcx]; rfl)
      rw [← this]
      congr 1
      omega
    have hlow : LowS ρ L (f i) := fun x hx => by
      obtain ⟨c, hc⟩ := List.getElem?_of_mem hx
      have hc' : c < w0 := by rw [← hw]; exact (List.getElem?_eq_some_iff.1 hc).1
      exact ro_low g hl (i := i * w0 + c) (by omega) x (by rw [rowsF_get hc' hc]; simp)
    refine ⟨takeA_low hv hlow, by rw [hr]; simp, fun W hW => ?_⟩
    simp only [execOp, (g.eval x _ hx).2, AV.conc, hr, Option.getD_some, Instr.loadAt, Instr.sureAddr, Sem.run_bind, Sem.run_pure, Result.andThen_ok]
    rw [Nat.mul_one, takeA_run (htt _ _ ht) hv ((hW b hr).trans hbk) hcell]
    rfl) hg hb k
end
section
variable {E : Base} {n L : Nat} {τ : List (Nat × AV)} {h : List (Nat × AO)} {F : World → Prop}
end
end Go.Proofs.Yteabncomclgncaa
namespace Go.Proofs.Yteabncomclgncaa
set_option linter.unusedVariables false
set_option linter.unusedSimpArgs false
set_option linter.unusedSectionVars false
open Go.RowKit
/-- q lies in p from the place o on -/
def PartOf (q p : List UInt8) (o : Nat) : Prop := o + q.length ≤ p.length ∧ ∀ i, i < q.length → p.getD (o + i) 0 = q.getD i 0
theorem PartOf.take {p : List UInt8} {k : Nat} : PartOf (p.take k) p 0 := by
  refine ⟨by rw [List.length_take]; omega, fun i hi => ?_⟩
  rw [List.length_take] at hi
  simp [List.getD, List.getElem?_take, show i < k by omega]
theorem PartOf.sub {p : List UInt8} {o k : Nat} (h : o + k ≤ p.length) : PartOf ((p.drop o).take k) p o := by
  have hl : ((p.drop o).take k).length = k := by rw [List.length_take, List.length_drop]; omega
  refine ⟨by rw [hl]; omega, fun i hi => ?_⟩
  rw [hl] at hi
  simp [List.getD, List.getElem?_take, List.getElem?_drop, hi]
theorem PartOf.pre {p q : List UInt8} : PartOf p (p ++ q) 0 := ⟨by simp, fun i hi => by simp [List.getD, List.getElem?_append, hi]⟩
theorem PartOf.refl {p : List UInt8} : PartOf p p 0 := ⟨by simp, fun i hi => by simp⟩
theorem bytesF_eq {p q : List UInt8} {i j : Nat} (h : p.getD i 0 = q.getD j 0) : bytesF p i = bytesF q j := by unfold bytesF; rw [h]
theorem ro_part {ρ : Env} {r : Option Nat} {w : World} {p q : List UInt8} {o o2 : Nat} (hp : PartOf q p o) (h : (AO.ro 1 o2 p.length (bytesF p)).holds ρ r w) : (AO.ro 1 (o2 + o) q.length (bytesF q)).holds ρ r w := by
  rcases h with ⟨h1, h2⟩ | ⟨b, cur, T, fr, hr, hb, hc⟩
  · exact .inl ⟨h1, by have := hp.1; omega⟩
  · refine .inr ⟨b, cur, T, fr, hr, hb, fun i c x hi hx => ?_⟩
    rw [← bytesF_eq (hp.2 i hi)] at hx
    have := hc (o + i) c x (by have := hp.1; omega) hx
    rw [← this]
    congr 2
    omega
theorem HasIn.pr {r : Nat → Nat} {h : List (Nat × AO)} {i : Nat} {p q : List UInt8} {o o2 : Nat} {os : List AO} (h1 : hk (r i) h = some (.ro 1 o2 p.length (bytesF p))) (hp : PartOf q p o) (k : HasIn r h (i + 1) os) : HasIn r h i (.ro 1 (o2 + o) q.length (bytesF q) :: os) :=
  .other h1 (fun e => by cases e) (fun ρ x w hh => by simp only [AO.ren, bytesF_ren]; exact ro_part hp hh) k
theorem HasH.ror {r : Nat → Nat} {L : Nat} {h rest : List (Nat × AO)} {l o : Nat} {p : List UInt8} (h1 : hk (r l) h = some (.ro 1 o p.length (bytesF p))) (h3 : Nat.ble (l + 1) L = true) (k : HasH r L h rest) : HasH r L h ((l, .ro 1 o p.length (bytesF p)) :: rest) :=
  .other h1 id (fun ρ x w hh => by simp only [AO.ren, bytesF_ren]; exact hh) h3 (fun _ _ => rfl) k
section
variable {P : Program} {ops : Array Oper} {Q : Exit → Act → World → Prop} {D : Option DD} {E : Base} {n L : Nat} {τ : List (Nat × AV)} {h : List (Nat × AO)} {F : World → Prop} {rest : List Oper}
  {d : Nat} {op : Op} {ty : TypeId} {ps : String} {af : Array Edge} {gd : Option (Nat × Bool)} {tt : List (Nat × TI)}
end
theorem lk_mem {α : Type} {l : Nat} {h : List (Nat × α)} {o : α} (hl : lk l h = some o) : (l, o) ∈ h := by
  induction h with
  | nil => simp [lk] at hl
  | cons p h ih =>
    obtain ⟨s, u⟩ := p
    rw [lk_cons] at hl
    split at hl
    · rename_i e; subst e; cases hl; simp
    · simp [ih hl]
theorem hk_lk {l : Nat} {h : List (Nat × AO)} {o : AO} (hl : hk l h = some o) : lk l h = some o := by
  unfold hk at hl
  split at hl
  · cases hl
  · exact hl
section
variable {E : Base} {ρ : Env} {n L : Nat} {τ : List (Nat × AV)} {h : List (Nat × AO)} {F : World → Prop} {a : Act} {w : World}
end
section
variable {P : Program} {Q : Exit → Act → World → Prop} {E : Base} {n L : Nat} {τ : List (Nat × AV)} {h : List (Nat × AO)} {F : World → Prop}
end
section
variable {P : Program} {Q : Exit → Act → World → Prop} {E : Base} {n L : Nat} {τ : List (Nat × AV)} {h : List (Nat × AO)} {F : World → Prop}
end
end Go.Proofs.Yteabncomclgncaa
namespace Go.Proofs.Yteabncomclgncaa
set_option linter.unusedVariables false
set_option linter.unusedSimpArgs false
set_option linter.unusedSectionVars false
open Go.RowKit
/-- an order that may be drawn, from what is listed on -/
def Valid (ops : Array Oper) : Array Bool → List Nat → Prop
  | listed, [] => Region.ready .any ops listed = []
  | listed, k :: r => k ∈ Region.ready .any ops listed ∧ Valid ops (listed.setIfInBounds k true) r
section
variable {P : Program} {ops : Array Oper} {Q : Exit → Act → World → Prop}
theorem Valid.sound : ∀ {ord : List Nat} {fuel : Nat} {listed : Array Bool} {a : Act} {w : World}, wpAny P .any ops Q fuel listed a w → Valid ops listed ord → wpOps P ops Q ord a w
  | [], 0, _, _, _, h, _ => h.2
  | [], _ + 1, _, _, _, h, hv => h.1 hv
  | k :: r, 0, _, _, _, h, hv => by have := hv.1; rw [h.1] at this; cases this
  | k :: r, fuel + 1, _, _, _, h, hv => by
    rw [wpOps_cons]
    exact wpOp_mono (fun a w hh => Valid.sound hh hv.2) (h.2 k hv.1)
end
section
variable {P : Program} {Q : Exit → Act → World → Prop} {l : List Oper} {i j : Nat}
end
section
variable {P : Program} {Q : Exit → Act → World → Prop} {l : List Oper} {sg inv : List Nat}
end
/-- a region that draws, whatever order it draws -/
structure CW (P : Program) (l : List Oper) (Q : Exit → Act → World → Prop) (E : Base) (n L : Nat) (τ : List (Nat × AV)) (h : List (Nat × AO)) (F : World → Prop) : Prop where
  mk :: (out : ∀ ρ a w, Gam E ρ n L τ h F a w → ∀ ord, Valid l.toArray (Array.replicate l.length false) ord → (∀ k, k < l.length → k ∈ ord) → wpOps P l.toArray Q ord a w)
section
variable {P : Program} {Q : Exit → Act → World → Prop} {E : Base} {n L : Nat} {τ : List (Nat × AV)} {h : List (Nat × AO)} {F : World → Prop} {l : List Oper}
theorem CW.draw (pr : List (List Nat)) (ch : List Nat) (hB : edgesB l pr ch = true) (k : R P l.toArray Q (some ⟨0, pr, ch, [], []⟩) E n L τ h F l) : CW P l Q E n L τ h F := ⟨fun ρ a w g ord hv _ => by
  obtain ⟨hE, hs, hl⟩ := edges_of hB ⟨0, pr, ch, [], []⟩ rfl rfl
  have := k.out (fun i => by simp) (fun p hp => by cases hp) (fun p hp => by cases hp) ρ a _ [] g trivial
  rw [← List.range_eq_range'] at this
  refine Valid.sound (fuel := l.length) (CH.any hE hs hl _ _ _ _ [] a (by simp) ⟨by simp, fun j => ?_, List.pairwise_lt_range⟩ (fun j o ho hn => ?_) ?_ this) hv
  · simp only [List.mem_range, List.size_toArray]
    constructor
    · intro hj; exact ⟨hj, by simp [hj]⟩
    · exact fun h => h.1
  · exfalso
    apply hn
    have := (Array.getElem?_eq_some_iff.1 ho).1
    simpa using this
  · have : chCnt l.toArray (DD.chB ⟨0, pr, ch, [], []⟩) (List.range l.length) = 0 := by
      unfold chCnt
      rw [List.countP_eq_zero]
      intro i hi
      have : i < l.length := by simpa using hi
      simp [this]
    omega⟩
end
end Go.Proofs.Yteabncomclgncaa
namespace Go.Proofs.Yteabncomclgncaa
set_option linter.unusedVariables false
set_option linter.unusedSimpArgs false
set_option linter.unusedSectionVars false
open Go.RowKit
section
variable {P : Program} {ops : Array Oper} {Q : Exit → Act → World → Prop} {D : Option DD} {E : Base} {n L : Nat} {τ : List (Nat × AV)} {h : List (Nat × AO)} {F : World → Prop} {rest : List Oper}
  {d : Nat} {ty : TypeId} {ps : String} {af : Array Edge} {gd : Option (Nat × Bool)} {tt : List (Nat × TI)}
/-- an entry of the model's own, at values that are known; it answers a value and leaves the world -/
theorem R.ext {f : FuncId} {xs : Array Operand} {ats : Array TypeId} {e : Array Value → Sem Value} (vs : List Value) (u : Value) (eg : ∀ args w, (callFunc f args).run P w = ((e args).run P w).andThen fun v w' => .ok (.value v) w')
    (hxs : evList (evA τ) xs.toList = some (vs.map .raw)) (he : ∀ w, (e vs.toArray).run P w = .ok u w)
    (hg : wantA ops ⟨some d, .call { callee := .value (.func f), args := xs, argTypes := ats }, ty, ps, af, gd⟩ τ = some true) (hb : (Nat.ble (d + 1) n && lookB D []) = true)
    (k : R P ops Q (lookD D []) E n L ((d, .raw u) :: τ) h F rest) : R P ops Q D E n L τ h F (⟨some d, .call { callee := .value (.func f), args := xs, argTypes := ats }, ty, ps, af, gd⟩ :: rest) :=
  R.pure _ (fun ρ a w g => ⟨AV.Low.raw _ _ _, fun W => by
    have hargs : xs.map a.eval = vs.toArray := by
      have := evList_conc (evB g) _ _ hxs
      have hr : ∀ vs : List Value, AV.concs ρ (vs.map .raw) = vs := fun vs => by
        induction vs with
        | nil => rfl
        | cons v r ih => simp only [List.map_cons, AV.concs, AV.conc, ih]
      rw [hr] at this
      apply Array.ext'
      simpa using this
    unfold execOp
    simp only [resolve, invoke, Act.eval, Deferred.ofValue, Sem.run_bind, Sem.run_pure, Result.andThen_ok, Array.append_empty, Array.empty_append]
    rw [eg]
    have : xs.map (fun x => a.eval x) = vs.toArray := hargs
    simp only [Act.eval] at this
    first | rw [this, he] | rw [hargs, he]
    rfl⟩) hg hb k
end
theorem bdl_nil (L : Nat) : ∀ o ∈ ([] : List AO), o.Bd L := fun o h => by cases h
theorem bdl_cons {L : Nat} {o : AO} {os : List AO} (h : o.Bd L) (k : ∀ o ∈ os, o.Bd L) : ∀ o' ∈ o :: os, o'.Bd L := fun o' h' => by
  rcases List.mem_cons.1 h' with rfl | h2
  · exact h
  · exact k o' h2
end Go.Proofs.Yteabncomclgncaa
namespace Go.Proofs.Yteabncomclgncaa
set_option linter.unusedVariables false
set_option linter.unusedSimpArgs false
set_option linter.unusedSectionVars false
open Go.RowKit
theorem run_copy_rows {P : Program} (w : World) (dT sT ty elem : TypeId) (g o dLen dCap : Nat) (a : Addr) (sLen sCap wd k : Nat) (cur : Array Value) (t : TypeId) (cs : List Value)
    (hu : P.underlying dT = some (.slice elem)) (hs : (P.info? elem).map (·.size) = some wd)
    (hg : w.heap[g]? = some (.cells cur t (0, 0))) (hk : Nat.min sLen dLen = k) (hn : cs.length = k * wd)
    (hsrc : ∀ j v, cs[j]? = some v → w.cell? (a.add j) = some v) (hfit : o + cs.length ≤ cur.size) (h1 : ∀ v ∈ cs, v.oneCell' = true) :
    (Builtin.copy_ #[dT, sT] ty #[.slice (some ⟨g, o, none⟩) dLen dCap, .slice (some a) sLen sCap]).run P w =
      .ok (goInt k) (w.setRow g (cur.toList.take o ++ cs ++ cur.toList.drop (o + cs.length)).toArray) := by
  have hl := run_loadCells_list (P := P) w a cs hsrc
  have hst := run_storeCells_at P g o t cs 0 cur w hg (by simpa using hfit) h1
  cases hq : P.info? elem with
  | none => simp [hq] at hs
  | some i =>
    have hi : i.size = wd := by simpa [hq] using hs
    rw [hn] at hl
    simp [Builtin.copy_, run_underlying hu, Builtin.lenOf, Builtin.firstCells, sizeOf, typeInfo, hq, hi, hk, hl, hst]
section
variable {P : Program} {ops : Array Oper} {Q : Exit → Act → World → Prop} {D : Option DD} {E : Base} {n L : Nat} {τ : List (Nat × AV)} {h : List (Nat × AO)} {F : World → Prop} {rest : List Oper}
  {d : Nat} {ty : TypeId} {ps : String} {af : Array Edge} {gd : Option (Nat × Bool)} {tt : List (Nat × TI)}
/-- copy(x, y) into rows, at least one; what is written may lie behind the rows that are known -/
theorem R.cpt (htt : TTok P tt) {t1 t2 T : TypeId} {x y : Operand} {l wd off m c0 cap n0 k0 : Nat} (n1 cnt : Nat) {f sf : Nat → List AV} (f' : Nat → List AV) {v2 : AV} {news : List AV} {tl te : TI} (hx : evA τ x = some (.sl l wd off m c0)) (hl : hk l h = some (.tab wd n0 cap f T)) (hy : evA τ y = some v2)
    {k1 : Nat} (hs : SrcA E n L τ h F v2 k1 news) (hsf : news = flat sf k0) (hsl : ∀ i, i < k0 → (sf i).length = wd) (hone : news.all AV.oneB = true) (ht : lk t1 tt = some tl) (hkd : tl.kind = .sl T) (hte : lk T tt = some te) (hsz : te.size = wd)
    (hg : wantA ops ⟨some d, .call { callee := .builtin .copy, args := #[x, y], argTypes := #[t1, t2] }, ty, ps, af, gd⟩ τ = some true) (hb : (Nat.ble (d + 1) n && chainB h D [l]) = true)
    (hcnt : Nat.min k1 m = cnt) (hck : cnt ≤ k0) (hpos : 0 < cnt) (hoff : off + cnt ≤ cap) (hn1 : n1 ≤ cap) (hin : ∀ i, i < n1 → i < n0 ∨ (off ≤ i ∧ i < off + cnt)) (hw : 0 < wd)
    (hf : ∀ i, i < n1 → f' i = if off ≤ i ∧ i < off + cnt then sf (i - off) else f i)
    (k : R P ops Q (actD h D [l]) E n L ((d, .raw (.int .i64 cnt)) :: τ) ((l, .tab wd n1 cap f' T) :: h) F rest) :
    R P ops Q D E n L τ h F (⟨some d, .call { callee := .builtin .copy, args := #[x, y], argTypes := #[t1, t2] }, ty, ps, af, gd⟩ :: rest) := by
  simp only [Bool.and_eq_true] at hb
  refine ⟨RL.acts (σ := Unit) (fun _ => True) (fun _ => .raw (.int .i64 cnt)) (fun _ => L) (fun _ => (l, .tab wd n1 cap f' T) :: h) (fun _ => F) [l] hg hb.1 hb.2 (fun _ _ => Nat.le_refl L) (fun ρ a w g => ?_) (fun _ _ => k.out)⟩
  obtain ⟨hlow, hsrc⟩ := hs ρ a w g
  have hh := (g.hp l _ hl).2.2
  obtain ⟨dd, hu, hud⟩ := (htt _ _ ht).und
  rw [hkd] at hud
  simp only at hud
  subst hud
  obtain ⟨inf, z, e1, e2, _⟩ := (htt _ _ hte).info
  have hsize : (P.info? T).map (·.size) = some wd := by rw [e1, Option.map_some, e2, hsz]
  have hev1 : a.eval x = .slice ((ρ l).map fun b => ⟨b, off * wd, none⟩) m c0 := by rw [(g.eval x _ hx).2]; simp [AV.conc]
  have hev2 : a.eval y = v2.conc ρ := (g.eval y _ hy).2
  unfold goes execOp
  simp only [resolve, invoke, builtin, Sem.run_bind, Sem.run_pure, Result.andThen_ok, List.map_toArray, List.map_cons, List.map_nil, hev1, hev2]
  rcases hsrc with ⟨ad, c, h3, hcell⟩ | ⟨c, h3, h4, _⟩
  · rcases hh.2.2 with ⟨_, hc0⟩ | ⟨bk, cur, hr, hbk, hs2, hcur⟩
    · omega
    · have hnl : (AV.concs ρ news).length = k0 * wd := by rw [concs_length, hsf, flat_length hsl]
      obtain ⟨cs, hcs⟩ : ∃ cs, (AV.concs ρ news).take (cnt * wd) = cs := ⟨_, rfl⟩
      have hmul : cnt * wd ≤ k0 * wd := Nat.mul_le_mul_right wd hck
      have hcl : cs.length = cnt * wd := by rw [← hcs, List.length_take, hnl]; omega
      have hget : ∀ j, j < cnt * wd → cs[j]? = (AV.concs ρ news)[j]? := fun j hj => by rw [← hcs, List.getElem?_take, if_pos hj]
      have hrun := run_copy_rows (P := P) w t1 t2 ty T bk (off * wd) m c0 ad k1 c wd cnt cur T cs hu hsize hbk hcnt hcl (fun j v hj => by
        have hjl : j < cs.length := (List.getElem?_eq_some_iff.1 hj).1
        exact hcell j v (by rw [← hget j (by omega)]; exact hj)) (by rw [hcl, hs2, ← Nat.add_mul]; exact Nat.mul_le_mul_right wd hoff) (fun v hv => by
        have hv := List.mem_of_mem_take (hcs ▸ hv)
        rw [concs_map] at hv
        obtain ⟨y', hy', rfl⟩ := List.mem_map.1 hv
        exact oneB_conc (List.all_eq_true.1 hone y' hy') ρ)
      have hfl : ∀ i, i < n1 → (f' i).length = wd := fun i hi => by
        rw [hf i hi]
        split
        · rename_i hc; exact hsl _ (by omega)
        · rename_i hc
          rcases hin i hi with h5 | h5
          · exact hh.2.1 i h5
          · exact absurd h5 hc
      have htot : off * wd + cnt * wd ≤ cap * wd := by rw [← Nat.add_mul]; exact Nat.mul_le_mul_right wd hoff
      rw [h3, hr, Option.map_some, hrun]
      refine ⟨(), ρ, trivial, rfl, AV.Low.raw _ _ _, fun _ _ => rfl, g.set hl rfl hr (AO.Low.tab T fun i hi z hz => ?_) ⟨hn1, hfl, .inr ⟨bk, _, rfl, setRow_heap _ _ _ _ _ _ hbk, ?_, fun i c z hi hz => ?_⟩⟩ (fun b' hb' => setRow_other _ _ _ _ hb') (by simp) ⟨rfl, rfl, rfl⟩, fun l' b' hl' hb' hn => ?_⟩
      · rw [hf i hi] at hz
        split at hz
        · rename_i hc
          obtain ⟨q, hq⟩ := List.getElem?_of_mem hz
          have hq2 : q < wd := by rw [← hsl (i - off) (by omega)]; exact (List.getElem?_eq_some_iff.1 hq).1
          have := flat_get hsl (i - off) q (by omega) hq2
          exact hlow z (List.mem_of_getElem? (by rw [hsf, this]; exact hq))
        · rename_i hc
          rcases hin i hi with h5 | h5
          · exact tab_low g hl h5 z hz
          · exact absurd h5 hc
      · rw [List.size_toArray]
        simp only [List.length_append, List.length_take, List.length_drop, hcl, Array.length_toList]
        omega
      · have hcw : c < wd := by rw [← hfl i hi]; exact (List.getElem?_eq_some_iff.1 hz).1
        have el : (cur.toList.take (off * wd)).length = off * wd := by rw [List.length_take, Array.length_toList]; omega
        rw [List.getElem?_toArray, get3, hcl, el]
        rw [hf i hi] at hz
        by_cases a1 : i < off
        · have m1 : i * wd + wd ≤ off * wd := by rw [← Nat.succ_mul]; exact Nat.mul_le_mul_right wd a1
          rw [if_neg (by omega)] at hz
          rw [if_pos (by omega), List.getElem?_take, if_pos (by omega), Array.getElem?_toList]
          rcases hin i hi with h5 | h5
          · exact hcur i c z h5 hz
          · omega
        · have m1 : off * wd ≤ i * wd := Nat.mul_le_mul_right wd (by omega)
          rw [if_neg (by omega)]
          by_cases a2 : i < off + cnt
          · rw [if_pos ⟨by omega, a2⟩] at hz
            have m2 : i * wd + wd ≤ off * wd + cnt * wd := by rw [← Nat.succ_mul, ← Nat.add_mul]; exact Nat.mul_le_mul_right wd a2
            have m3 : i * wd + c - off * wd = (i - off) * wd + c := by rw [Nat.sub_mul]; omega
            rw [if_pos (by omega), hget _ (by omega), m3, concs_map, List.getElem?_map, hsf, flat_get hsl (i - off) c (by omega) hcw, hz]
            rfl
          · have m2 : off * wd + cnt * wd ≤ i * wd := by rw [← Nat.add_mul]; exact Nat.mul_le_mul_right wd (by omega)
            rw [if_neg (by omega)] at hz
            rw [if_neg (by omega), List.getElem?_drop, Array.getElem?_toList]
            rw [show off * wd + cnt * wd + (i * wd + c - off * wd - cnt * wd) = i * wd + c by omega]
            rcases hin i hi with h5 | h5
            · exact hcur i c z h5 hz
            · omega
      · by_cases e : b' = bk
        · subst e
          exact absurd (g.dis l l' b' ⟨_, hl, rfl⟩ hl' hr hb') (fun e => hn (by simp [e]))
        · exact (setRow_other _ _ _ _ e).symm
  · have : cnt = 0 := by rw [← hcnt, h4]; exact Nat.zero_min _
    omega
end
end Go.Proofs.Yteabncomclgncaa
