/- Texts of the claim, merged: only what the theorem needs. -/
import Derived.Test.YtaieficgifingaaGreatDoorPPh
import Derived.Laws.StructEq
import Derived.ChangeKeysEq
namespace Go.Proofs.YtaieficgifingaaGreatDoor
set_option linter.unusedVariables false
set_option linter.unusedSimpArgs false
set_option linter.unusedSectionVars false
open Go.RowKit
/-- what is asked of a type so that two of it may be compared part by part -/
def eqOk (P : Program) : Nat → TypeId → Bool
  | 0, _ => false
  | d + 1, t => match P.underlying t with
    | some (.struct fs) => !P.stoodInHeld t && fs.toList.all fun f => decide (f.name ≠ "_") && eqOk P d f.type
    | some (.array n e) => eqOk P d e
    | some (.int _) => true
    | some .string => true
    | some .bool => true
    | _ => false
/-- parts compared, each by eq -/
def eqFs (eq : Nat → AV → AV → Option Bool) (tt : List (Nat × TI)) (xs ys : List AV) : List (Nat × Nat) → Option Bool
  | [] => some true
  | (off, ft) :: r => match partA tt ft xs off, partA tt ft ys off with
    | some a, some b => match eq ft a b, eqFs eq tt xs ys r with
      | some p, some q => some (p && q)
      | _, _ => none
    | _, _ => none
def eqA (tt : List (Nat × TI)) : Nat → Nat → AV → AV → Option Bool
  | 0, _, _, _ => none
  | d + 1, t, u, v => match lk t tt with
    | some ⟨_, _, .int _, _⟩ => match u, v with
      | .raw (.int k a), .raw (.int k' b) => if k = k' then some (decide (a = b)) else none
      | _, _ => none
    | some ⟨_, _, .str, _⟩ => match u, v with
      | .raw (.string a), .raw (.string b) => some (decide (a.toList = b.toList))
      | _, _ => none
    | some ⟨_, _, .bool, _⟩ => match u, v with
      | .raw (.bool a), .raw (.bool b) => some (a == b)
      | _, _ => none
    | some ⟨_, _, .st fs, _⟩ => match u, v with
      | .agg xs, .agg ys => eqFs (eqA tt d) tt xs ys fs
      | _, _ => none
    | some ⟨_, _, .arr n e, _⟩ => match u, v, lk e tt with
      | .agg xs, .agg ys, some te => eqFs (eqA tt d) tt xs ys ((List.range n).map fun i => (i * te.size, e))
      | _, _, _ => none
    | _ => none
section
variable {P : Program} {tt : List (Nat × TI)}
theorem und_of_run {t : TypeId} {d : TypeDesc} {w : World} (h : (underlying t).run P w = .ok d w) : P.underlying t = some d := by
  cases hx : P.underlying t with
  | none => simp [underlying, hx] at h
  | some d' => simp [underlying, hx] at h; rw [h]
theorem info_size (htt : TTok P tt) {t : TypeId} {ti : TI} (h : lk t tt = some ti) : ∃ i, P.info? t = some i ∧ i.size = ti.size := by
  obtain ⟨⟨i, z, h1, h2, _⟩, _⟩ := htt _ _ h
  exact ⟨i, h1, h2⟩
theorem eqA_ok (htt : TTok P tt) (ρ : Env) (w : World) : ∀ (d D : Nat) (t : TypeId) (u v : AV) (r : Bool), d ≤ D → eqOk P d t = true → eqA tt d t u v = some r → (Op.equalIn D t (u.conc ρ) (v.conc ρ)).run P w = .ok r w
  | 0, D, t, u, v, r, _, h, _ => by simp [eqOk] at h
  | d + 1, D, t, u, v, r, hD, hok, he => by
    obtain ⟨D, rfl⟩ : ∃ m, D = m + 1 := ⟨D - 1, by omega⟩
    simp only [eqA] at he
    split at he
    · rename_i hl
      split at he
      · split at he
        · rename_i hk
          cases he
          subst hk
          have := und_of_run (und_int (htt _ _ hl) rfl w)
          simp only [AV.conc]
          rw [run_equalIn_int w D t _ _ _ _ this]
          rfl
        · cases he
      · cases he
    · rename_i hl
      split at he
      · cases he
        have := und_of_run (und_str (htt _ _ hl) rfl w)
        simp only [AV.conc]
        rw [run_equalIn_string w D t _ _ this, beq_toList]
      · cases he
    · rename_i hl
      split at he
      · cases he
        have := und_of_run (und_bool (htt _ _ hl) rfl w)
        simp only [AV.conc]
        rw [run_equalIn_bool' w D t _ _ this]
      · cases he
    · rename_i sz bt fs z hl
      split at he
      · rename_i xs ys
        obtain ⟨fields, hu, hf⟩ := und_st (htt _ _ hl) rfl
        have hu2 := und_of_run (hu w)
        have hfo : P.fieldsOf t = fields := by simp [Program.fieldsOf, hu2]
        simp only [eqOk, hu2, Bool.and_eq_true, Bool.not_eq_true'] at hok
        simp only [AV.conc]
        rw [run_equalIn_struct w D t _ _ (by rw [hfo]; exact hu2) hok.1, hfo]
        have hall := hok.2
        subst hf
        generalize fields.toList = l at he hall
        clear hu hu2 hfo hok hl
        induction l generalizing r with
        | nil => cases he; rfl
        | cons f l ih =>
          simp only [List.map_cons, eqFs] at he
          simp only [List.all_cons, Bool.and_eq_true, decide_eq_true_eq] at hall
          split at he
          · rename_i a b ha hb
            split at he
            · rename_i p q hp hq
              cases he
              have h1 := run_partA htt ρ _ _ _ _ w ha
              have h2 := run_partA htt ρ _ _ _ _ w hb
              have h3 := eqA_ok htt ρ w d D f.type a b p (by omega) hall.1.2 hp
              have h4 := ih q hq hall.2
              simp only [Op.eqFields, hall.1.1, ne_eq, not_false_eq_true, if_true, Sem.run_bind, h1, h2, h3, Result.andThen_ok]
              cases p
              · simp
              · simpa using h4
            · cases he
          · cases he
      · cases he
    · rename_i sz bt n e z hl
      split at he
      · rename_i xs ys te hte
        have hu2 := und_of_run (und_arr (htt _ _ hl) rfl w)
        obtain ⟨i, hi, his⟩ := info_size htt hte
        simp only [eqOk, hu2] at hok
        simp only [AV.conc]
        rw [run_equalIn_array w D _ _ hu2 hi]
        have hco : P.cellsOf e = te.size := by simp [Program.cellsOf, hi, his]
        rw [hco]
        generalize List.range n = l at he
        clear hu2 hl
        induction l generalizing r with
        | nil => cases he; rfl
        | cons j l ih =>
          simp only [List.map_cons, eqFs] at he
          split at he
          · rename_i a b ha hb
            split at he
            · rename_i p q hp hq
              cases he
              have h1 := run_partA htt ρ _ _ _ _ w ha
              have h2 := run_partA htt ρ _ _ _ _ w hb
              have h3 := eqA_ok htt ρ w d D e a b p (by omega) hok hp
              have h4 := ih q hq
              simp only [Op.eqItems, Sem.run_bind, h1, h2, h3, Result.andThen_ok]
              cases p
              · simp
              · simpa using h4
            · cases he
          · cases he
      · cases he
    · cases he
end
section
variable {P : Program} {ops : Array Oper} {Q : Exit → Act → World → Prop} {D : Option DD} {E : Base} {n L : Nat} {τ : List (Nat × AV)} {h : List (Nat × AO)} {F : World → Prop} {rest : List Oper}
  {d : Nat} {ty : TypeId} {ps : String} {af : Array Edge} {gd : Option (Nat × Bool)} {tt : List (Nat × TI)}
/-- x == y of structs, of arrays -/
theorem R.eqs (htt : TTok P tt) {t u : TypeId} {x y : Operand} {xs ys : List AV} (r : Bool) (hx : evA τ x = some (.agg xs)) (hy : evA τ y = some (.agg ys)) (hok : eqOk P 6 t = true) (hm : P.eqGuardType P.depth t = false) (hr : eqA tt 6 t (.agg xs) (.agg ys) = some r)
    (hg : wantA ops ⟨some d, .binOp .eql t x y u, ty, ps, af, gd⟩ τ = some true) (hb : (Nat.ble (d + 1) n && lookB D []) = true)
    (k : R P ops Q (lookD D []) E n L ((d, .raw (.bool r)) :: τ) h F rest) : R P ops Q D E n L τ h F (⟨some d, .binOp .eql t x y u, ty, ps, af, gd⟩ :: rest) :=
  R.pure _ (fun ρ a w g => ⟨AV.Low.raw _ _ _, fun W => by
    have := eqA_ok htt ρ W 6 10000 t _ _ r (by omega) hok hr
    simp only [AV.conc] at this
    simp only [execOp, (g.eval x _ hx).2, (g.eval y _ hy).2, AV.conc, Sem.run_bind, run_eqGuard_agg W _ t x y _ _ hm, Result.andThen_ok, run_eql_struct, this]
    rfl⟩) hg hb k
theorem R.nes (htt : TTok P tt) {t u : TypeId} {x y : Operand} {xs ys : List AV} (r : Bool) (hx : evA τ x = some (.agg xs)) (hy : evA τ y = some (.agg ys)) (hok : eqOk P 6 t = true) (hm : P.eqGuardType P.depth t = false) (hr : eqA tt 6 t (.agg xs) (.agg ys) = some r)
    (hg : wantA ops ⟨some d, .binOp .neq t x y u, ty, ps, af, gd⟩ τ = some true) (hb : (Nat.ble (d + 1) n && lookB D []) = true)
    (k : R P ops Q (lookD D []) E n L ((d, .raw (.bool (!r))) :: τ) h F rest) : R P ops Q D E n L τ h F (⟨some d, .binOp .neq t x y u, ty, ps, af, gd⟩ :: rest) :=
  R.pure _ (fun ρ a w g => ⟨AV.Low.raw _ _ _, fun W => by
    have := eqA_ok htt ρ W 6 10000 t _ _ r (by omega) hok hr
    simp only [AV.conc] at this
    simp only [execOp, (g.eval x _ hx).2, (g.eval y _ hy).2, AV.conc, Sem.run_bind, run_eqGuard_agg W _ t x y _ _ hm, Result.andThen_ok, run_neq_struct, this]
    rfl⟩) hg hb k
end
end Go.Proofs.YtaieficgifingaaGreatDoor
namespace Go.Proofs.YtaieficgifingaaGreatDoor
set_option linter.unusedVariables false
set_option linter.unusedSimpArgs false
set_option linter.unusedSectionVars false
open Go.RowKit
/-- rows of k cells each, told cell by cell -/
def rowsF (k : Nat) (f : Nat → List AV) (j : Nat) : List AV := match (f (j / k))[j % k]? with
  | some v => [v]
  | none => []
theorem rowsF_get {k : Nat} {f : Nat → List AV} {i c : Nat} {v : AV} (hc : c < k) (h : (f i)[c]? = some v) : rowsF k f (i * k + c) = [v] := by
  unfold rowsF
  have h1 : (i * k + c) / k = i := by rw [Nat.mul_comm, Nat.mul_add_div (by omega), Nat.div_eq_of_lt hc]; omega
  have h2 : (i * k + c) % k = c := by rw [Nat.mul_comm, Nat.mul_add_mod, Nat.mod_eq_of_lt hc]
  rw [h1, h2, h]
section
variable {P : Program} {ops : Array Oper} {Q : Exit → Act → World → Prop} {D : Option DD} {E : Base} {n L : Nat} {τ : List (Nat × AV)} {h : List (Nat × AO)} {F : World → Prop} {rest : List Oper}
  {d : Nat} {op : Op} {ty : TypeId} {ps : String} {af : Array Edge} {gd : Option (Nat × Bool)} {tt : List (Nat × TI)}
/-- a value told in another way: numbers that fit -/
inductive Nrm : AV → AV → Prop where
  | w {k : IntKind} {x : Int} (h : k.wrap x = x) : Nrm (.raw (.int k (k.wrap x))) (.raw (.int k x))
  | refl (v : AV) : Nrm v v
theorem Nrm.eq {v v' : AV} (h : Nrm v v') : v = v' := by
  cases h with
  | w h => rw [h]
  | refl => rfl
/-- sums, differences, products; numbers made into others -/
def arithB : BinOp → Bool
  | .add => true
  | .sub => true
  | .mul => true
  | _ => false
theorem R.nb (htt : TTok P tt) {b : BinOp} {t u : TypeId} {x y : Operand} {v v' : AV} (har : arithB b = true) (ha : act tt (fun l => hk l h) (evA τ) (.binOp b t x y u) = some v) (hn : Nrm v v') (hg : wantA ops ⟨some d, .binOp b t x y u, ty, ps, af, gd⟩ τ = some true)
    (hb : (Nat.ble (d + 1) n && lookB D []) = true)
    (k : R P ops Q (lookD D []) E n L ((d, v') :: τ) h F rest) : R P ops Q D E n L τ h F (⟨some d, .binOp b t x y u, ty, ps, af, gd⟩ :: rest) :=
  R.s htt (by rw [ha, hn.eq]) hg (by simpa [rdL] using hb) k
theorem R.nu (htt : TTok P tt) {t : TypeId} {x : Operand} {v v' : AV} (ha : act tt (fun l => hk l h) (evA τ) (.unOp .neg t x) = some v) (hn : Nrm v v') (hg : wantA ops ⟨some d, .unOp .neg t x, ty, ps, af, gd⟩ τ = some true)
    (hb : (Nat.ble (d + 1) n && lookB D []) = true)
    (k : R P ops Q (lookD D []) E n L ((d, v') :: τ) h F rest) : R P ops Q D E n L τ h F (⟨some d, .unOp .neg t x, ty, ps, af, gd⟩ :: rest) :=
  R.s htt (by rw [ha, hn.eq]) hg (by simpa [rdL] using hb) k
theorem R.nc (htt : TTok P tt) {s t : TypeId} {x : Operand} {v v' : AV} (ha : act tt (fun l => hk l h) (evA τ) (.convert s t x) = some v) (hn : Nrm v v') (hg : wantA ops ⟨some d, .convert s t x, ty, ps, af, gd⟩ τ = some true)
    (hb : (Nat.ble (d + 1) n && lookB D []) = true)
    (k : R P ops Q (lookD D []) E n L ((d, v') :: τ) h F rest) : R P ops Q D E n L τ h F (⟨some d, .convert s t x, ty, ps, af, gd⟩ :: rest) :=
  R.s htt (by rw [ha, hn.eq]) hg (by simpa [rdL] using hb) k
/-- &x[j] of such rows -/
theorem R.ix1 (htt : TTok P tt) {t e : TypeId} {x y : Operand} {l w0 off m cap : Nat} {k0 : IntKind} {j : Int} {sz bt : Nat} {z : List Value} (jn : Nat) (hx : evA τ x = some (.sl l 1 off m cap)) (hy : evA τ y = some (.raw (.int k0 j))) (ht : lk t tt = some ⟨sz, bt, .sl e, z⟩) (hs : szA tt e = some w0)
    (hg : wantA ops ⟨some d, .indexAddr t x y, ty, ps, af, gd⟩ τ = some true) (hb : (Nat.ble (d + 1) n && lookB D []) = true) (hj : j = (jn : Int)) (hlt : jn < m) (hne : hasAt h l (off + jn * w0)) (hlL : Nat.ble (l + 1) L = true)
    (k : R P ops Q (lookD D []) E n L ((d, .ptr l 1 (off + jn * w0) 0) :: τ) h F rest) : R P ops Q D E n L τ h F (⟨some d, .indexAddr t x y, ty, ps, af, gd⟩ :: rest) :=
  R.pure _ (fun ρ a w g => by
    obtain ⟨b, hr⟩ := g.someAt hne
    refine ⟨fun ρ' he => ?_, fun W => ?_⟩
    · have hl : l < L := by have : l + 1 ≤ L := by simpa [Nat.ble_eq] using hlL
                            omega
      simp [AV.conc, he l hl]
    have hu := und_sl (htt _ _ ht) rfl W
    obtain ⟨te, hte, hsz⟩ := Option.map_eq_some_iff.1 hs
    have e2 := (htt _ _ hte).run_size W
    rw [hsz] at e2
    subst hj
    have h0 : ¬ ((jn : Int) < 0 ∨ (m : Int) ≤ jn) := by omega
    simp only [execOp, (g.eval x _ hx).2, (g.eval y _ hy).2, AV.conc, hr, Option.map_some, Option.getD_some]
    simp [Instr.indexAt, asIntOf, hu, e2, h0, Nat.add_mul, addr_add0, hlt]) hg hb k
/-- a load out of such rows -/
theorem R.ldr1 (htt : TTok P tt) {t : TypeId} {x : Operand} {l off j c w0 n0 : Nat} {f : Nat → List AV} {ti : TI} {v : AV} (i : Nat) (hx : evA τ x = some (.ptr l 1 j c)) (hl : hk l h = some (.ro 1 off n0 (rowsF w0 f))) (ht : lk t tt = some ti) (hv : takeA ti (f i) c = some v)
    (hg : wantA ops ⟨some d, .load t x, ty, ps, af, gd⟩ τ = some true) (hb : (Nat.ble (d + 1) n && lookB D [l] && Nat.ble (l + 1) L) = true) (hj : j = off + i * w0) (hw : (f i).length = w0) (hpos : 0 < w0) (hi : i * w0 + w0 ≤ n0)
    (k : R P ops Q (lookD D [l]) E n L ((d, v) :: τ) h F rest) : R P ops Q D E n L τ h F (⟨some d, .load t x, ty, ps, af, gd⟩ :: rest) :=
  R.looks l _ (fun ρ a w g => by
    subst hj
    obtain ⟨b, cur, T, fr, hr, hbk, hcur⟩ := ro_cell (g.hp _ _ hl).2.2 (i := i * w0) (by omega)
    have hcell : ∀ c x, (f i)[c]? = some x → cur[off + i * w0 + c]? = some (x.conc ρ) := fun c x hcx => by
      have hc : c < w0 := by rw [← hw]; exact (List.getElem?_eq_some_iff.1 hcx).1
      obtain ⟨b2, cur2, T2, fr2, hr2, hbk2, hcur2⟩ := ro_cell (g.hp _ _ hl).2.2 (i := i * w0 + c) (by omega)
      rw [hr] at hr2
      cases hr2
      rw [hbk] at hbk2
      cases hbk2
      have := hcur2 0 x (by rw [rowsF_get hc hcx]; rfl)
      rw [← this]
      congr 1
      omega
    have hlow : LowS ρ L (f i) := fun x hx => by
      obtain ⟨c, hc⟩ := List.getElem?_of_mem hx
      have hc' : c < w0 := by rw [← hw]; exact (List.getElem?_eq_some_iff.1 hc).1
      exact ro_low g hl (i := i * w0 + c) (by omega) x (by rw [rowsF_get hc' hc]; simp)
    refine ⟨takeA_low hv hlow, by rw [hr]; simp, fun W hW => ?_⟩
    simp only [execOp, (g.eval x _ hx).2, AV.conc, hr, Option.getD_some, Instr.loadAt, Instr.sureAddr, Sem.run_bind, Sem.run_pure, Result.andThen_ok]
    rw [Nat.mul_one, takeA_run (htt _ _ ht) hv ((hW b hr).trans hbk) hcell]
    rfl) hg hb k
end
section
variable {E : Base} {n L : Nat} {τ : List (Nat × AV)} {h : List (Nat × AO)} {F : World → Prop}
end
end Go.Proofs.YtaieficgifingaaGreatDoor
namespace Go.Proofs.YtaieficgifingaaGreatDoor
set_option linter.unusedVariables false
set_option linter.unusedSimpArgs false
set_option linter.unusedSectionVars false
open Go.RowKit
/-- q lies in p from the place o on -/
def PartOf (q p : List UInt8) (o : Nat) : Prop := o + q.length ≤ p.length ∧ ∀ i, i < q.length → p.getD (o + i) 0 = q.getD i 0
theorem PartOf.take {p : List UInt8} {k : Nat} : PartOf (p.take k) p 0 := by
  refine ⟨by rw [List.length_take]; omega, fun i hi => ?_⟩
  rw [List.length_take] at hi
  simp [List.getD, List.getElem?_take, show i < k by omega]
theorem PartOf.sub {p : List UInt8} {o k : Nat} (h : o + k ≤ p.length) : PartOf ((p.drop o).take k) p o := by
  have hl : ((p.drop o).take k).length = k := by rw [List.length_take, List.length_drop]; omega
  refine ⟨by rw [hl]; omega, fun i hi => ?_⟩
  rw [hl] at hi
  simp [List.getD, List.getElem?_take, List.getElem?_drop, hi]
theorem PartOf.pre {p q : List UInt8} : PartOf p (p ++ q) 0 := ⟨by simp, fun i hi => by simp [List.getD, List.getElem?_append, hi]⟩
theorem PartOf.refl {p : List UInt8} : PartOf p p 0 := ⟨by simp, fun i hi => by simp⟩
theorem bytesF_eq {p q : List UInt8} {i j : Nat} (h : p.getD i 0 = q.getD j 0) : bytesF p i = bytesF q j := by unfold bytesF; rw [h]
theorem ro_part {ρ : Env} {r : Option Nat} {w : World} {p q : List UInt8} {o o2 : Nat} (hp : PartOf q p o) (h : (AO.ro 1 o2 p.length (bytesF p)).holds ρ r w) : (AO.ro 1 (o2 + o) q.length (bytesF q)).holds ρ r w := by
  rcases h with ⟨h1, h2⟩ | ⟨b, cur, T, fr, hr, hb, hc⟩
  · exact .inl ⟨h1, by have := hp.1; omega⟩
  · refine .inr ⟨b, cur, T, fr, hr, hb, fun i c x hi hx => ?_⟩
    rw [← bytesF_eq (hp.2 i hi)] at hx
    have := hc (o + i) c x (by have := hp.1; omega) hx
    rw [← this]
    congr 2
    omega
theorem HasIn.pr {r : Nat → Nat} {h : List (Nat × AO)} {i : Nat} {p q : List UInt8} {o o2 : Nat} {os : List AO} (h1 : hk (r i) h = some (.ro 1 o2 p.length (bytesF p))) (hp : PartOf q p o) (k : HasIn r h (i + 1) os) : HasIn r h i (.ro 1 (o2 + o) q.length (bytesF q) :: os) :=
  .other h1 (fun e => by cases e) (fun ρ x w hh => by simp only [AO.ren, bytesF_ren]; exact ro_part hp hh) k
theorem HasH.ror {r : Nat → Nat} {L : Nat} {h rest : List (Nat × AO)} {l o : Nat} {p : List UInt8} (h1 : hk (r l) h = some (.ro 1 o p.length (bytesF p))) (h3 : Nat.ble (l + 1) L = true) (k : HasH r L h rest) : HasH r L h ((l, .ro 1 o p.length (bytesF p)) :: rest) :=
  .other h1 id (fun ρ x w hh => by simp only [AO.ren, bytesF_ren]; exact hh) h3 (fun _ _ => rfl) k
section
variable {P : Program} {ops : Array Oper} {Q : Exit → Act → World → Prop} {D : Option DD} {E : Base} {n L : Nat} {τ : List (Nat × AV)} {h : List (Nat × AO)} {F : World → Prop} {rest : List Oper}
  {d : Nat} {op : Op} {ty : TypeId} {ps : String} {af : Array Edge} {gd : Option (Nat × Bool)} {tt : List (Nat × TI)}
end
def onceR (r : Nat → Nat) (h2 : List (Nat × AO)) : Bool := h2.all fun p => p.2.isRo || h2.all fun q => Nat.beq p.1 q.1 || !Nat.beq (r p.1) (r q.1)
theorem lk_mem {α : Type} {l : Nat} {h : List (Nat × α)} {o : α} (hl : lk l h = some o) : (l, o) ∈ h := by
  induction h with
  | nil => simp [lk] at hl
  | cons p h ih =>
    obtain ⟨s, u⟩ := p
    rw [lk_cons] at hl
    split at hl
    · rename_i e; subst e; cases hl; simp
    · simp [ih hl]
theorem hk_lk {l : Nat} {h : List (Nat × AO)} {o : AO} (hl : hk l h = some o) : lk l h = some o := by
  unfold hk at hl
  split at hl
  · cases hl
  · exact hl
section
variable {E : Base} {ρ : Env} {n L : Nat} {τ : List (Nat × AV)} {h : List (Nat × AO)} {F : World → Prop} {a : Act} {w : World}
theorem Gam.impR (g : Gam E ρ n L τ h F a w) (r : Nat → Nat) (L2 : Nat) (τ2 : List (Nat × AV)) (h2 : List (Nat × AO)) (F2 : World → Prop) (hr : ∀ l, l < E.N → r l = l) (hrL : ∀ l, l < L2 → r l < L) (hN : E.N ≤ L2) (ht : HasT r L2 τ τ2) (hh : HasH r L2 h h2) (hnd : onceR r h2 = true)
    (hF2 : ∀ w, F w → F2 w) : Gam E (fun l => ρ (r l)) n L2 τ2 h2 F2 a w := by
  have live : ∀ l, hk l h2 ≠ none → hk (r l) h ≠ none ∧ ∃ o, (l, o) ∈ h2 := fun l hl => by
    cases ho : hk l h2 with
    | none => exact absurd ho hl
    | some o =>
      obtain ⟨⟨o', h1, _⟩, _, _, h4⟩ := hk_hasH hh l o ho
      exact ⟨by rw [h1]; simp, o, lk_mem (hk_lk ho)⟩
  have wr : ∀ l, wrA l h2 → wrA (r l) h := fun l hl => by
    obtain ⟨o, ho, hro⟩ := hl
    obtain ⟨⟨o', h1, h3, _⟩, _⟩ := hk_hasH hh l o ho
    exact ⟨o', h1, h3 hro⟩
  refine ⟨g.df, g.sz, fun t v hv => ?_, fun l o ho => ?_, fun l l' b hl hl' hb hb' => ?_, fun w' hw => ?_, fun l hl => ?_, hN, fun l b hl hb => g.al (r l) b (hrL l hl) hb⟩
  · obtain ⟨h1, h2'⟩ := lk_hasT ht t v hv
    have := g.tm t _ h1
    exact ⟨bdLow h2' _, by rw [this.2, ren_conc]⟩
  · obtain ⟨⟨o', h1, _, h2'⟩, h3, h4, _⟩ := hk_hasH hh l o ho
    have := g.hp (r l) o' h1
    exact ⟨h3, h4.low _, (ren_holds r ρ o _ w).1 (h2' _ _ _ this.2.2)⟩
  · have h1 := wr l hl
    have h2' := live l' hl'
    have e := g.dis _ _ b h1 h2'.1 hb hb'
    obtain ⟨o, ho, hro⟩ := hl
    obtain ⟨o2, ho2⟩ := h2'.2
    have h3 := List.all_eq_true.1 hnd _ (lk_mem (hk_lk ho))
    simp only [hro, Bool.false_or] at h3
    have h4 := List.all_eq_true.1 h3 _ ho2
    simp only [Bool.or_eq_true, Bool.not_eq_true'] at h4
    rcases h4 with h4 | h4
    · exact Nat.eq_of_beq_eq_true h4
    · rw [e, Nat.beq_refl] at h4; cases h4
  · exact hF2 _ (g.fr w' (hw.mono fun b _ hd l hl hb => hd (r l) (wr l hl) hb))
  · simp only [hr l hl]; exact g.ex l hl
end
section
variable {P : Program} {Q : Exit → Act → World → Prop} {E : Base} {n L : Nat} {τ : List (Nat × AV)} {h : List (Nat × AO)} {F : World → Prop}
theorem at_ofR {σ : Type} {L2 : Nat} {Inv : σ → Prop} {T : σ → List (Nat × AV)} {H : σ → List (Nat × AO)} {F2 : World → Prop} {μ : σ → Nat} {m : Nat} {ρ : Env} {a : Act} {w : World} (g : Gam E ρ n L τ h F a w) (rl : List (Nat × Nat)) (s : σ) (hI : Inv s) (hm : μ s < m) (hb : rnB E.N L2 L rl = true)
    (ht : HasT (rnF rl) L2 τ (T s)) (hh : HasH (rnF rl) L2 h (H s)) (hnd : onceR (rnF rl) (H s) = true) (hF : ∀ w, F w → F2 w) : At E n L2 Inv T H F2 μ m a w := by
  obtain ⟨h1, h2, h3⟩ := rn_ok hb
  exact ⟨s, hI, hm, _, g.impR (rnF rl) L2 (T s) (H s) F2 h1 h2 h3 ht hh hnd hF⟩
theorem X.backR {σ : Type} {L2 : Nat} {Inv : σ → Prop} {T : σ → List (Nat × AV)} {H : σ → List (Nat × AO)} {F2 : World → Prop} {μ : σ → Nat} {m : Nat} (rl : List (Nat × Nat)) (s : σ) (hI : Inv s) (hm : μ s < m) (hb : rnB E.N L2 L rl = true)
    (ht : HasT (rnF rl) L2 τ (T s)) (hh : HasH (rnF rl) L2 h (H s)) (hnd : onceR (rnF rl) (H s) = true) (hF : ∀ w, F w → F2 w) : X (Exit.then (At E n L2 Inv T H F2 μ m) Q) .normal E n L τ h F :=
  ⟨fun ρ a w g => at_ofR g rl s hI hm hb ht hh hnd hF⟩
theorem C.lessR {c : Code} (rl : List (Nat × Nat)) (L2 : Nat) (τ2 : List (Nat × AV)) (h2 : List (Nat × AO)) (F2 : World → Prop) (hb : rnB E.N L2 L rl = true) (ht : HasT (rnF rl) L2 τ τ2) (hh : HasH (rnF rl) L2 h h2) (hnd : onceR (rnF rl) h2 = true) (hF : ∀ w, F w → F2 w)
    (k : C P c Q E n L2 τ2 h2 F2) : C P c Q E n L τ h F := ⟨fun ρ a w g => by
  obtain ⟨h1, h3, h4⟩ := rn_ok hb
  exact k.out _ a w (g.impR (rnF rl) L2 τ2 h2 F2 h1 h3 h4 ht hh hnd hF)⟩
end
section
variable {P : Program} {Q : Exit → Act → World → Prop} {E : Base} {n L : Nat} {τ : List (Nat × AV)} {h : List (Nat × AO)} {F : World → Prop}
end
end Go.Proofs.YtaieficgifingaaGreatDoor
namespace Go.Proofs.YtaieficgifingaaGreatDoor
set_option linter.unusedVariables false
set_option linter.unusedSimpArgs false
set_option linter.unusedSectionVars false
open Go.RowKit
/-- an order that may be drawn, from what is listed on -/
def Valid (ops : Array Oper) : Array Bool → List Nat → Prop
  | listed, [] => Region.ready .any ops listed = []
  | listed, k :: r => k ∈ Region.ready .any ops listed ∧ Valid ops (listed.setIfInBounds k true) r
section
variable {P : Program} {ops : Array Oper} {Q : Exit → Act → World → Prop}
theorem Valid.sound : ∀ {ord : List Nat} {fuel : Nat} {listed : Array Bool} {a : Act} {w : World}, wpAny P .any ops Q fuel listed a w → Valid ops listed ord → wpOps P ops Q ord a w
  | [], 0, _, _, _, h, _ => h.2
  | [], _ + 1, _, _, _, h, hv => h.1 hv
  | k :: r, 0, _, _, _, h, hv => by have := hv.1; rw [h.1] at this; cases this
  | k :: r, fuel + 1, _, _, _, h, hv => by
    rw [wpOps_cons]
    exact wpOp_mono (fun a w hh => Valid.sound hh hv.2) (h.2 k hv.1)
def unl (n : Nat) (listed : Array Bool) : Nat := (List.range n).countP fun k => !listed.getD k true
theorem unl_set {n k : Nat} {listed : Array Bool} (hk : k < n) (hl : listed.getD k true = false) : unl n (listed.setIfInBounds k true) + 1 ≤ unl n listed := by
  have hsz : k < listed.size := by
    rcases Nat.lt_or_ge k listed.size with h | h
    · exact h
    · simp [Array.getElem?_eq_none h] at hl
  unfold unl
  have h1 : ∀ m, k < m → (List.range m).countP (fun i => !(listed.setIfInBounds k true).getD i true) + 1 ≤ (List.range m).countP fun i => !listed.getD i true := by
    intro m
    induction m with
    | zero => intro h; omega
    | succ m ih =>
      intro h
      rw [List.range_succ, List.countP_append, List.countP_append]
      rcases Nat.lt_or_ge k m with h' | h'
      · have := ih h'
        have e : (listed.setIfInBounds k true).getD m true = listed.getD m true := getD_set_ne true (by omega)
        simp only [List.countP_cons, List.countP_nil, e]
        omega
      · obtain rfl : k = m := by omega
        have hle : (List.range k).countP (fun i => !(listed.setIfInBounds k true).getD i true) ≤ (List.range k).countP fun i => !listed.getD i true := by
          refine List.countP_mono_left fun i hi hh => ?_
          have hi' : i < k := by simpa using hi
          rwa [getD_set_ne true (by omega)] at hh
        have e : (listed.setIfInBounds k true).getD k true = true := by simp [hsz]
        simp only [List.countP_cons, List.countP_nil, e, hl, Bool.not_true, Bool.not_false, if_true, Bool.false_eq_true, if_false]
        omega
  exact h1 n hk
theorem lin_valid : ∀ (fuel t : Nat) (listed : Array Bool), unl ops.size listed ≤ fuel → Valid ops listed (Region.linearise.go .any ops fuel t listed []) := by
  intro fuel
  induction fuel with
  | zero =>
    intro t listed hu
    simp only [Region.linearise.go, List.reverse_nil, Valid]
    rw [List.eq_nil_iff_forall_not_mem]
    intro j hj
    obtain ⟨h0, o, ho, _⟩ := mem_ready.1 hj
    have hlt := (Array.getElem?_eq_some_iff.1 ho).1
    have := unl_set hlt h0
    omega
  | succ fuel ih =>
    intro t listed hu
    simp only [Region.linearise.go]
    change Valid ops listed (match (Region.ready .any ops listed)[t % (Region.ready .any ops listed).length]? with
      | some i => Region.linearise.go .any ops fuel (t / (Region.ready .any ops listed).length) (listed.setIfInBounds i true) [i]
      | none => [].reverse)
    cases hi : (Region.ready .any ops listed)[t % (Region.ready .any ops listed).length]? with
    | none =>
      simp only [List.reverse_nil, Valid]
      cases hr : Region.ready .any ops listed with
      | nil => rfl
      | cons x xs =>
        rw [hr] at hi
        have hlt : t % (x :: xs).length < (x :: xs).length := Nat.mod_lt _ (by simp)
        simp at hi
        simp at hlt
        omega
    | some i =>
      simp only []
      rw [linearise_go_acc, List.reverse_singleton, List.singleton_append]
      have hm := List.mem_of_getElem? hi
      refine ⟨hm, ih _ _ ?_⟩
      obtain ⟨h0, o, ho, _⟩ := mem_ready.1 hm
      have := unl_set (Array.getElem?_eq_some_iff.1 ho).1 h0
      omega
end
def edgeTo (i : Nat) (o : Oper) : Oper := match o with
  | ⟨d, op, ty, ps, af, gd⟩ => ⟨d, op, ty, ps, af.push ⟨i, .chain⟩, gd⟩
/-- j waits for i -/
def addL : List Oper → Nat → Nat → List Oper
  | [], _, _ => []
  | o :: r, i, 0 => edgeTo i o :: r
  | o :: r, i, j + 1 => o :: addL r i j
theorem addL_get : ∀ (l : List Oper) (i j k : Nat), (addL l i j)[k]? = if k = j then (l[k]?).map (edgeTo i) else l[k]?
  | [], i, j, k => by simp [addL]
  | o :: r, i, 0, 0 => by simp [addL]
  | o :: r, i, 0, k + 1 => by simp [addL]
  | o :: r, i, j + 1, 0 => by simp [addL]
  | o :: r, i, j + 1, k + 1 => by simp [addL, addL_get r i j k]
section
variable {P : Program} {Q : Exit → Act → World → Prop} {l : List Oper} {i j : Nat}
theorem addL_ready {listed : Array Bool} {k : Nat} : k ∈ Region.ready .any (addL l i j).toArray listed ↔ k ∈ Region.ready .any l.toArray listed ∧ (k = j → listed.getD i false = true) := by
  rw [mem_ready, mem_ready]
  simp only [List.getElem?_toArray, addL_get]
  by_cases hk : k = j
  · subst hk
    simp only [if_true, true_implies]
    constructor
    · rintro ⟨h0, o, ho, he⟩
      obtain ⟨o', ho', rfl⟩ := Option.map_eq_some_iff.1 ho
      refine ⟨⟨h0, o', ho', fun e hm hb => he e (Array.mem_push.2 (.inl hm)) hb⟩, he ⟨i, .chain⟩ (Array.mem_push.2 (.inr rfl)) rfl⟩
    · rintro ⟨⟨h0, o, ho, he⟩, hi⟩
      refine ⟨h0, edgeTo i o, by rw [ho]; rfl, fun e hm hb => ?_⟩
      rcases Array.mem_push.1 hm with hm | rfl
      · exact he e hm hb
      · exact hi
  · simp [hk]
theorem addL_yield (tmps : Array Value) : yielded (addL l i j).toArray tmps = yielded l.toArray tmps := by
  funext k
  have : ((addL l i j).toArray[k]?).bind (·.dst) = (l.toArray[k]?).bind (·.dst) := by
    simp only [List.getElem?_toArray, addL_get]
    split
    · cases l[k]? <;> rfl
    · rfl
  unfold yielded
  rw [this]
theorem addL_op {k : Nat} {K : Act → World → Prop} {a : Act} {w : World} (h : wpOp P (addL l i j).toArray Q k K a w) : wpOp P l.toArray Q k K a w := by
  unfold wpOp at *
  rw [addL_yield] at h
  simp only [List.getElem?_toArray, addL_get] at *
  by_cases hk : k = j
  · rw [if_pos hk] at h
    cases ho : l[k]? with
    | none => rw [ho] at h; exact h
    | some o => rw [ho] at h; exact h
  · rw [if_neg hk] at h
    exact h
theorem addL_ops : ∀ {ord : List Nat} {a : Act} {w : World}, wpOps P (addL l i j).toArray Q ord a w → wpOps P l.toArray Q ord a w
  | [], _, _, h => h
  | k :: r, a, w, h => by
    rw [wpOps_cons] at h ⊢
    exact wpOp_mono (fun a w hh => addL_ops hh) (addL_op h)
/-- once i is listed the edge asks nothing -/
theorem valid_behind : ∀ {ord : List Nat} {listed : Array Bool}, listed.getD i false = true → Valid l.toArray listed ord → Valid (addL l i j).toArray listed ord
  | [], listed, hi, h => by
    simp only [Valid, List.eq_nil_iff_forall_not_mem] at *
    exact fun k hk => h k (addL_ready.1 hk).1
  | k :: r, listed, hi, h => by
    refine ⟨addL_ready.2 ⟨h.1, fun _ => hi⟩, valid_behind ?_ h.2⟩
    by_cases hk : k = i
    · subst hk
      have hs : k < listed.size := by
        rcases Nat.lt_or_ge k listed.size with h | h
        · exact h
        · simp [Array.getElem?_eq_none h] at hi
      simp [hs]
    · rw [getD_set_ne false hk]; exact hi
theorem set_listed {n k : Nat} {listed : Array Bool} (hs : k < listed.size) : (listed.setIfInBounds k true).getD k false = true := by simp [hs]
theorem valid_either (hij : i ≠ j) : ∀ {ord : List Nat} {listed : Array Bool}, listed.size = l.length → Valid l.toArray listed ord → (∀ k, k < l.length → listed.getD k false = true ∨ k ∈ ord) → j < l.length → listed.getD i false = false → listed.getD j false = false →
    Valid (addL l i j).toArray listed ord ∨ Valid (addL l j i).toArray listed ord
  | [], listed, hs, h, hall, hj, hi0, hj0 => by
    rcases hall j hj with h1 | h1
    · rw [hj0] at h1; cases h1
    · cases h1
  | k :: r, listed, hs, h, hall, hj, hi0, hj0 => by
    have hk := h.1
    have hkl : k < listed.size := by
      obtain ⟨_, o, ho, _⟩ := mem_ready.1 hk
      have := (Array.getElem?_eq_some_iff.1 ho).1
      rw [hs]; simpa using this
    by_cases h1 : k = i
    · subst h1
      exact .inl ⟨addL_ready.2 ⟨hk, fun e => absurd e hij⟩, valid_behind (set_listed (n := 0) hkl) h.2⟩
    by_cases h2 : k = j
    · subst h2
      exact .inr ⟨addL_ready.2 ⟨hk, fun e => absurd e h1⟩, valid_behind (set_listed (n := 0) hkl) h.2⟩
    have := valid_either hij (ord := r) (listed := listed.setIfInBounds k true) (by simpa using hs) h.2 (fun m hm => by
      by_cases e : m = k
      · subst e; exact .inl (set_listed (n := 0) hkl)
      · rcases hall m hm with h3 | h3
        · left; rwa [getD_set_ne false (fun e' => e e'.symm)]
        · rcases List.mem_cons.1 h3 with h3 | h3
          · exact absurd h3 e
          · exact .inr h3) hj (by rwa [getD_set_ne false h1]) (by rwa [getD_set_ne false h2])
    rcases this with h3 | h3
    · exact .inl ⟨addL_ready.2 ⟨hk, fun e => absurd e h2⟩, h3⟩
    · exact .inr ⟨addL_ready.2 ⟨hk, fun e => absurd e h1⟩, h3⟩
end
def permO (inv : List Nat) (o : Oper) : Oper := match o with
  | ⟨d, op, ty, ps, af, gd⟩ => ⟨d, op, ty, ps, (af.toList.map fun e => Edge.mk (inv.getD e.on 0) e.ground).toArray, gd.map fun p => (inv.getD p.1 0, p.2)⟩
def permL (l : List Oper) (inv : List Nat) : List Nat → List Oper
  | [] => []
  | k :: r => match l[k]? with
    | some o => permO inv o :: permL l inv r
    | none => []
def permB (l : List Oper) (sg inv : List Nat) : Bool :=
  Nat.beq sg.length l.length && Nat.beq inv.length l.length && ((List.range l.length).all fun k => Nat.beq (sg.getD (inv.getD k 0) 0) k && Nat.beq (inv.getD (sg.getD k 0) 0) k && Nat.ble (inv.getD k 0 + 1) l.length && Nat.ble (sg.getD k 0 + 1) l.length) &&
  l.all fun o => (o.after.toList.all fun e => Nat.ble (e.on + 1) l.length) && match o.guard with
    | some p => Nat.ble (p.1 + 1) l.length
    | none => true
theorem permL_get {l : List Oper} {inv : List Nat} : ∀ (sg : List Nat) (k : Nat), (∀ x ∈ sg, x < l.length) → (permL l inv sg)[k]? = (sg[k]?).bind fun m => (l[m]?).map (permO inv)
  | [], k, _ => by simp [permL]
  | x :: r, k, hx => by
    obtain ⟨o, ho⟩ : ∃ o, l[x]? = some o := ⟨_, List.getElem?_eq_getElem (hx x (by simp))⟩
    simp only [permL, ho]
    cases k with
    | zero => simp [ho]
    | succ k => simpa using permL_get r k fun y hy => hx y (by simp [hy])
structure PermOk (l : List Oper) (sg inv : List Nat) : Prop where
  len : (permL l inv sg).length = l.length
  at_ : ∀ k, k < l.length → (permL l inv sg)[inv.getD k 0]? = (l[k]?).map (permO inv)
  lt : ∀ k, k < l.length → inv.getD k 0 < l.length
  inj : ∀ k m, k < l.length → m < l.length → inv.getD k 0 = inv.getD m 0 → k = m
  sur : ∀ k, k < l.length → ∃ m, m < l.length ∧ inv.getD m 0 = k
  edge : ∀ (k : Nat) (o : Oper), l[k]? = some o → ∀ e ∈ o.after, e.on < l.length
  guard : ∀ (k : Nat) (o : Oper) (p : Nat × Bool), l[k]? = some o → o.guard = some p → p.1 < l.length
theorem permOk {l : List Oper} {sg inv : List Nat} (h : permB l sg inv = true) : PermOk l sg inv := by
  simp only [permB, Bool.and_eq_true] at h
  obtain ⟨⟨⟨h1, h2⟩, h3⟩, h4⟩ := h
  have h1 := Nat.eq_of_beq_eq_true h1
  have h2 := Nat.eq_of_beq_eq_true h2
  have h3 : ∀ k, k < l.length → sg.getD (inv.getD k 0) 0 = k ∧ inv.getD (sg.getD k 0) 0 = k ∧ inv.getD k 0 < l.length ∧ sg.getD k 0 < l.length := fun k hk => by
    have := List.all_eq_true.1 h3 k (List.mem_range.2 hk)
    simp only [Bool.and_eq_true] at this
    obtain ⟨⟨⟨a, b⟩, c⟩, d⟩ := this
    refine ⟨Nat.eq_of_beq_eq_true a, Nat.eq_of_beq_eq_true b, ?_, ?_⟩
    · have : inv.getD k 0 + 1 ≤ l.length := by simpa [Nat.ble_eq] using c
      omega
    · have : sg.getD k 0 + 1 ≤ l.length := by simpa [Nat.ble_eq] using d
      omega
  have hsg : ∀ x ∈ sg, x < l.length := fun x hx => by
    obtain ⟨k, hk, rfl⟩ := List.mem_iff_getElem.1 hx
    have := (h3 k (by omega)).2.2.2
    simpa [List.getD_eq_getElem?_getD, List.getElem?_eq_getElem hk] using this
  have hget := fun k => permL_get (inv := inv) sg k hsg
  have hlen : (permL l inv sg).length = l.length := by
    rcases Nat.lt_trichotomy (permL l inv sg).length l.length with hh | hh | hh
    · have e1 : (permL l inv sg)[(permL l inv sg).length]? = none := List.getElem?_eq_none (Nat.le_refl _)
      rw [hget] at e1
      rw [List.getElem?_eq_getElem (show (permL l inv sg).length < sg.length by omega)] at e1
      simp only [Option.bind_some] at e1
      have := hsg _ (List.getElem_mem (show (permL l inv sg).length < sg.length by omega))
      rw [List.getElem?_eq_getElem this] at e1
      cases e1
    · exact hh
    · have e1 : (permL l inv sg)[l.length]? = none := by
        rw [hget, List.getElem?_eq_none (by omega)]; rfl
      rw [List.getElem?_eq_getElem hh] at e1
      cases e1
  refine ⟨hlen, fun k hk => ?_, fun k hk => (h3 k hk).2.2.1, fun k m hk hm e => ?_, fun k hk => ⟨sg.getD k 0, (h3 k hk).2.2.2, (h3 k hk).2.1⟩, fun k o ho e he => ?_, fun k o p ho hp => ?_⟩
  · rw [hget]
    have a := (h3 k hk).1
    have b := (h3 k hk).2.2.1
    rw [List.getD_eq_getElem?_getD, List.getElem?_eq_getElem (by omega)] at a
    rw [List.getElem?_eq_getElem (by omega)]
    simp only [Option.getD_some] at a
    simp only [Option.bind_some, a]
  · rw [← (h3 k hk).1, e, (h3 m hm).1]
  · have := List.all_eq_true.1 h4 o (List.mem_of_getElem? ho)
    simp only [Bool.and_eq_true] at this
    have := List.all_eq_true.1 this.1 e (by simpa using he)
    have : e.on + 1 ≤ l.length := by simpa [Nat.ble_eq] using this
    omega
  · have := List.all_eq_true.1 h4 o (List.mem_of_getElem? ho)
    simp only [Bool.and_eq_true, hp] at this
    have : p.1 + 1 ≤ l.length := by simpa [Nat.ble_eq] using this.2
    omega
section
variable {P : Program} {Q : Exit → Act → World → Prop} {l : List Oper} {sg inv : List Nat}
theorem perm_yield (H : PermOk l sg inv) (tmps : Array Value) {g : Nat} (hg : g < l.length) : yielded (permL l inv sg).toArray tmps (inv.getD g 0) = yielded l.toArray tmps g := by
  have : ((permL l inv sg).toArray[inv.getD g 0]?).bind (·.dst) = (l.toArray[g]?).bind (·.dst) := by
    simp only [List.getElem?_toArray, H.at_ g hg]
    cases l[g]? <;> rfl
  unfold yielded
  rw [this]
theorem perm_op (H : PermOk l sg inv) {k : Nat} (hk : k < l.length) {K : Act → World → Prop} {a : Act} {w : World} (h : wpOp P (permL l inv sg).toArray Q (inv.getD k 0) K a w) : wpOp P l.toArray Q k K a w := by
  unfold wpOp at *
  simp only [List.getElem?_toArray, H.at_ k hk] at *
  rw [List.getElem?_eq_getElem hk] at *
  simp only [Option.map_some] at h
  have hw : Region.wanted (permO inv l[k]) (yielded (permL l inv sg).toArray a.tmps) = Region.wanted l[k] (yielded l.toArray a.tmps) := by
    have hgd : (permO inv l[k]).guard = l[k].guard.map fun p => (inv.getD p.1 0, p.2) := rfl
    unfold Region.wanted
    rw [hgd]
    cases hg : l[k].guard with
    | none => rfl
    | some p =>
      simp only [Option.map_some]
      rw [perm_yield H a.tmps (H.guard k _ p (List.getElem?_eq_getElem hk) hg)]
  rw [hw] at h
  exact h
theorem perm_ops (H : PermOk l sg inv) : ∀ {ord : List Nat} {a : Act} {w : World}, (∀ k ∈ ord, k < l.length) → wpOps P (permL l inv sg).toArray Q (ord.map fun k => inv.getD k 0) a w → wpOps P l.toArray Q ord a w
  | [], _, _, _, h => h
  | k :: r, a, w, hl, h => by
    rw [List.map_cons, wpOps_cons] at h
    rw [wpOps_cons]
    exact wpOp_mono (fun a w hh => perm_ops H (fun m hm => hl m (by simp [hm])) hh) (perm_op H (hl k (by simp)) h)
theorem perm_ready (H : PermOk l sg inv) {listed listed' : Array Bool} (hl : ∀ k d, k < l.length → listed'.getD (inv.getD k 0) d = listed.getD k d) {k : Nat} (hk : k < l.length) :
    inv.getD k 0 ∈ Region.ready .any (permL l inv sg).toArray listed' ↔ k ∈ Region.ready .any l.toArray listed := by
  rw [mem_ready, mem_ready]
  simp only [List.getElem?_toArray, H.at_ k hk, hl k true hk]
  rw [List.getElem?_eq_getElem hk]
  simp only [Option.map_some, Option.some.injEq, exists_eq_left']
  have he := H.edge k l[k] (List.getElem?_eq_getElem hk)
  have ha : (permO inv l[k]).after = (l[k].after.toList.map fun e => Edge.mk (inv.getD e.on 0) e.ground).toArray := rfl
  rw [ha]
  constructor
  · rintro ⟨h0, h⟩
    refine ⟨h0, fun e hm hb => ?_⟩
    have := h ⟨inv.getD e.on 0, e.ground⟩ (by simpa using ⟨e, hm, rfl, rfl⟩) hb
    rwa [hl _ _ (he e hm)] at this
  · rintro ⟨h0, h⟩
    refine ⟨h0, fun e hm hb => ?_⟩
    simp only [List.mem_toArray, List.mem_map] at hm
    obtain ⟨e', hm', rfl⟩ := hm
    have hm' : e' ∈ l[k].after := by simpa using hm'
    rw [hl _ _ (he e' hm')]
    exact h e' hm' hb
theorem perm_valid (H : PermOk l sg inv) : ∀ {ord : List Nat} {listed listed' : Array Bool}, listed.size = l.length → listed'.size = l.length → (∀ k d, k < l.length → listed'.getD (inv.getD k 0) d = listed.getD k d) → Valid l.toArray listed ord → Valid (permL l inv sg).toArray listed' (ord.map fun k => inv.getD k 0)
  | [], listed, listed', _, _, hl, h => by
    simp only [List.map_nil, Valid, List.eq_nil_iff_forall_not_mem] at *
    intro k hk
    have hlt : k < l.length := by
      obtain ⟨_, o, ho, _⟩ := mem_ready.1 hk
      have := (Array.getElem?_eq_some_iff.1 ho).1
      rw [← H.len]; simpa using this
    obtain ⟨m, hm, rfl⟩ := H.sur k hlt
    exact h m ((perm_ready H hl hm).1 hk)
  | k :: r, listed, listed', hs, hs', hl, h => by
    have hk : k < l.length := by
      obtain ⟨_, o, ho, _⟩ := mem_ready.1 h.1
      have := (Array.getElem?_eq_some_iff.1 ho).1
      simpa using this
    rw [List.map_cons]
    refine ⟨(perm_ready H hl hk).2 h.1, perm_valid H (by simpa using hs) (by simpa using hs') (fun m d hm => ?_) h.2⟩
    by_cases e : m = k
    · subst e
      have := H.lt m hm
      generalize inv.getD m 0 = x at this ⊢
      simp [hs, hs', hm, this]
    · rw [getD_set_ne d (fun e' => e e'.symm), getD_set_ne d (fun e' => e (H.inj k m hk hm e').symm), hl m d hm]
theorem valid_lt : ∀ {ord : List Nat} {listed : Array Bool}, Valid l.toArray listed ord → ∀ k ∈ ord, k < l.length
  | [], _, _, k, hk => by cases hk
  | m :: r, listed, h, k, hk => by
    rcases List.mem_cons.1 hk with rfl | hk
    · obtain ⟨_, o, ho, _⟩ := mem_ready.1 h.1
      have := (Array.getElem?_eq_some_iff.1 ho).1
      simpa using this
    · exact valid_lt h.2 k hk
end
/-- a region that draws, whatever order it draws -/
structure CW (P : Program) (l : List Oper) (Q : Exit → Act → World → Prop) (E : Base) (n L : Nat) (τ : List (Nat × AV)) (h : List (Nat × AO)) (F : World → Prop) : Prop where
  mk :: (out : ∀ ρ a w, Gam E ρ n L τ h F a w → ∀ ord, Valid l.toArray (Array.replicate l.length false) ord → (∀ k, k < l.length → k ∈ ord) → wpOps P l.toArray Q ord a w)
/-- all are drawn where no edge leads forward -/
def backB (l : List Oper) : Bool := l.zipIdx.all fun (o, j) => o.after.toList.all fun e => !Region.binds .any e || Nat.ble (e.on + 1) j
theorem valid_all {l : List Oper} (hb : backB l = true) : ∀ {ord : List Nat} {listed : Array Bool}, listed.size = l.length → Valid l.toArray listed ord → ∀ k, k < l.length → listed.getD k false = true ∨ k ∈ ord
  | [], listed, hs, h, k, hk => by
    left
    simp only [Valid, List.eq_nil_iff_forall_not_mem] at h
    induction k using Nat.strongRecOn with
    | _ k ih =>
      cases hx : listed.getD k false with
      | true => rfl
      | false =>
        exfalso
        refine h k (mem_ready.2 ⟨?_, l[k], by simp [hk], fun e he hbi => ?_⟩)
        · have : k < listed.size := by omega
          simpa [this] using hx
        · have := List.all_eq_true.1 hb (l[k], k) (List.mem_zipIdx_iff_getElem?.2 (List.getElem?_eq_getElem hk))
          have := List.all_eq_true.1 this e (by simpa using he)
          rw [hbi] at this
          have : e.on + 1 ≤ k := by simpa [Nat.ble_eq] using this
          exact ih e.on (by omega) (by omega)
  | m :: r, listed, hs, h, k, hk => by
    have hm : m < listed.size := by
      obtain ⟨_, o, ho, _⟩ := mem_ready.1 h.1
      have := (Array.getElem?_eq_some_iff.1 ho).1
      rw [hs]; simpa using this
    rcases valid_all hb (by simpa using hs) h.2 k hk with h1 | h1
    · by_cases e : k = m
      · right; simp [e]
      · left; rwa [getD_set_ne false (fun e' => e e'.symm)] at h1
    · right; simp [h1]
section
variable {P : Program} {Q : Exit → Act → World → Prop} {E : Base} {n L : Nat} {τ : List (Nat × AV)} {h : List (Nat × AO)} {F : World → Prop} {l : List Oper}
theorem C.anyhow {id : Nat} (hm : P.follows .mixedOrders = true) (hb : backB l = true) (k : CW P l Q E n L τ h F) : C P (.region id l.toArray true) Q E n L τ h F := ⟨fun ρ a w g => by
  refine wp_region_draw fun t => ?_
  simp only [Region.schedule, hm, Bool.true_or, if_true]
  have hv : Valid l.toArray (Array.replicate l.length false) (Region.linearise .any l.toArray t) := by
    have := lin_valid (ops := l.toArray) l.toArray.size t (Array.replicate l.toArray.size false) (Nat.le_trans (List.countP_le_length) (by simp))
    simpa [Region.linearise] using this
  refine k.out ρ a _ g.drew _ hv fun j hj => ?_
  rcases valid_all hb (by simp) hv j hj with h1 | h1
  · simp [hj] at h1
  · exact h1⟩
/-- which of the two comes first? -/
theorem CW.either (i j : Nat) (hb : (Nat.ble (i + 1) l.length && Nat.ble (j + 1) l.length && !Nat.beq i j) = true) (k1 : CW P (addL l i j) Q E n L τ h F) (k2 : CW P (addL l j i) Q E n L τ h F) : CW P l Q E n L τ h F := ⟨fun ρ a w g ord hv hall => by
  simp only [Bool.and_eq_true, Bool.not_eq_true'] at hb
  obtain ⟨⟨h1, h2⟩, h3⟩ := hb
  have hij : i ≠ j := fun e => by subst e; rw [Nat.beq_refl] at h3; cases h3
  have hi : i < l.length := by have : i + 1 ≤ l.length := by simpa [Nat.ble_eq] using h1
                               omega
  have hj : j < l.length := by have : j + 1 ≤ l.length := by simpa [Nat.ble_eq] using h2
                               omega
  have hlen : ∀ i j, (addL l i j).length = l.length := fun i j => by
    have : ∀ (l : List Oper) i j, (addL l i j).length = l.length := fun l => by
      induction l with
      | nil => intro i j; rfl
      | cons o r ih => intro i j; cases j <;> simp [addL, ih]
    exact this l i j
  rcases valid_either hij (by simp) hv (fun k hk => .inr (hall k hk)) hj (by simp [hi]) (by simp [hj]) with h4 | h4
  · exact addL_ops (k1.out ρ a w g ord (by rw [hlen]; exact h4) (fun k hk => hall k (by rwa [hlen] at hk)))
  · exact addL_ops (k2.out ρ a w g ord (by rw [hlen]; exact h4) (fun k hk => hall k (by rwa [hlen] at hk)))⟩
/-- told in another order -/
theorem CW.order (sg inv : List Nat) (hB : permB l sg inv = true) (k : CW P (permL l inv sg) Q E n L τ h F) : CW P l Q E n L τ h F := ⟨fun ρ a w g ord hv hall => by
  have H := permOk hB
  refine perm_ops H (fun m hm => valid_lt hv m hm) (k.out ρ a w g _ ?_ fun m hm => ?_)
  · refine perm_valid H (by simp) (by simp [H.len]) (fun m d hm => ?_) hv
    have := H.lt m hm
    generalize inv.getD m 0 = x at this ⊢
    simp [H.len, hm, this]
  · rw [H.len] at hm
    obtain ⟨x, hx, rfl⟩ := H.sur m hm
    exact List.mem_map.2 ⟨x, hall x hx, rfl⟩⟩
theorem CW.draw (pr : List (List Nat)) (ch : List Nat) (hB : edgesB l pr ch = true) (k : R P l.toArray Q (some ⟨0, pr, ch, [], []⟩) E n L τ h F l) : CW P l Q E n L τ h F := ⟨fun ρ a w g ord hv _ => by
  obtain ⟨hE, hs, hl⟩ := edges_of hB ⟨0, pr, ch, [], []⟩ rfl rfl
  have := k.out (fun i => by simp) (fun p hp => by cases hp) (fun p hp => by cases hp) ρ a _ [] g trivial
  rw [← List.range_eq_range'] at this
  refine Valid.sound (fuel := l.length) (CH.any hE hs hl _ _ _ _ [] a (by simp) ⟨by simp, fun j => ?_, List.pairwise_lt_range⟩ (fun j o ho hn => ?_) ?_ this) hv
  · simp only [List.mem_range, List.size_toArray]
    constructor
    · intro hj; exact ⟨hj, by simp [hj]⟩
    · exact fun h => h.1
  · exfalso
    apply hn
    have := (Array.getElem?_eq_some_iff.1 ho).1
    simpa using this
  · have : chCnt l.toArray (DD.chB ⟨0, pr, ch, [], []⟩) (List.range l.length) = 0 := by
      unfold chCnt
      rw [List.countP_eq_zero]
      intro i hi
      have : i < l.length := by simpa using hi
      simp [this]
    omega⟩
end
end Go.Proofs.YtaieficgifingaaGreatDoor
namespace Go.Proofs.YtaieficgifingaaGreatDoor
set_option linter.unusedVariables false
set_option linter.unusedSimpArgs false
set_option linter.unusedSectionVars false
open Go.RowKit
section
variable {P : Program} {ops : Array Oper} {Q : Exit → Act → World → Prop} {D : Option DD} {E : Base} {n L : Nat} {τ : List (Nat × AV)} {h : List (Nat × AO)} {F : World → Prop} {rest : List Oper}
  {d : Nat} {ty : TypeId} {ps : String} {af : Array Edge} {gd : Option (Nat × Bool)} {tt : List (Nat × TI)}
/-- an entry of the model's own, at values that are known; it answers a value and leaves the world -/
theorem R.ext {f : FuncId} {xs : Array Operand} {ats : Array TypeId} {e : Array Value → Sem Value} (vs : List Value) (u : Value) (eg : ∀ args w, (callFunc f args).run P w = ((e args).run P w).andThen fun v w' => .ok (.value v) w')
    (hxs : evList (evA τ) xs.toList = some (vs.map .raw)) (he : ∀ w, (e vs.toArray).run P w = .ok u w)
    (hg : wantA ops ⟨some d, .call { callee := .value (.func f), args := xs, argTypes := ats }, ty, ps, af, gd⟩ τ = some true) (hb : (Nat.ble (d + 1) n && lookB D []) = true)
    (k : R P ops Q (lookD D []) E n L ((d, .raw u) :: τ) h F rest) : R P ops Q D E n L τ h F (⟨some d, .call { callee := .value (.func f), args := xs, argTypes := ats }, ty, ps, af, gd⟩ :: rest) :=
  R.pure _ (fun ρ a w g => ⟨AV.Low.raw _ _ _, fun W => by
    have hargs : xs.map a.eval = vs.toArray := by
      have := evList_conc (evB g) _ _ hxs
      have hr : ∀ vs : List Value, AV.concs ρ (vs.map .raw) = vs := fun vs => by
        induction vs with
        | nil => rfl
        | cons v r ih => simp only [List.map_cons, AV.concs, AV.conc, ih]
      rw [hr] at this
      apply Array.ext'
      simpa using this
    unfold execOp
    simp only [resolve, invoke, Act.eval, Deferred.ofValue, Sem.run_bind, Sem.run_pure, Result.andThen_ok, Array.append_empty, Array.empty_append]
    rw [eg]
    have : xs.map (fun x => a.eval x) = vs.toArray := hargs
    simp only [Act.eval] at this
    first | rw [this, he] | rw [hargs, he]
    rfl⟩) hg hb k
end
theorem bdl_nil (L : Nat) : ∀ o ∈ ([] : List AO), o.Bd L := fun o h => by cases h
theorem bdl_cons {L : Nat} {o : AO} {os : List AO} (h : o.Bd L) (k : ∀ o ∈ os, o.Bd L) : ∀ o' ∈ o :: os, o'.Bd L := fun o' h' => by
  rcases List.mem_cons.1 h' with rfl | h2
  · exact h
  · exact k o' h2
end Go.Proofs.YtaieficgifingaaGreatDoor
namespace Go.Proofs.YtaieficgifingaaGreatDoor
set_option linter.unusedVariables false
set_option linter.unusedSimpArgs false
set_option linter.unusedSectionVars false
open Go.RowKit
section
variable {P : Program} {ops : Array Oper} {Q : Exit → Act → World → Prop} {D : Option DD} {E : Base} {n L : Nat} {τ : List (Nat × AV)} {h : List (Nat × AO)} {F : World → Prop} {rest : List Oper}
  {d : Nat} {ty : TypeId} {ps : String} {af : Array Edge} {gd : Option (Nat × Bool)} {tt : List (Nat × TI)}
/-- x + y of texts -/
theorem R.cat {t u : TypeId} {x y : Operand} {a b : ByteArray} (hx : evA τ x = some (.raw (.string a))) (hy : evA τ y = some (.raw (.string b)))
    (hg : wantA ops ⟨some d, .binOp .add t x y u, ty, ps, af, gd⟩ τ = some true) (hb : (Nat.ble (d + 1) n && lookB D []) = true) (hle : a.size + b.size ≤ 9223372036854775807)
    (k : R P ops Q (lookD D []) E n L ((d, .raw (.string (a ++ b))) :: τ) h F rest) : R P ops Q D E n L τ h F (⟨some d, .binOp .add t x y u, ty, ps, af, gd⟩ :: rest) :=
  R.pure _ (fun ρ ac w g => ⟨AV.Low.raw _ _ _, fun W => by
    have h0 : ¬ (9223372036854775807 < (a.size : Int) + (b.size : Int)) := by omega
    simp [execOp, (g.eval x _ hx).2, (g.eval y _ hy).2, AV.conc, eqGuard, binOp, Op.stringOp, IntKind.max, IntKind.signed, IntKind.bits, h0]⟩) hg hb k
end
end Go.Proofs.YtaieficgifingaaGreatDoor
namespace Go.Proofs.YtaieficgifingaaGreatDoor
set_option linter.unusedVariables false
set_option linter.unusedSimpArgs false
set_option linter.unusedSectionVars false
open Go.RowKit
section
variable {P : Program} {ops : Array Oper} {Q : Exit → Act → World → Prop} {D : Option DD} {E : Base} {n L : Nat} {τ : List (Nat × AV)} {h : List (Nat × AO)} {F : World → Prop} {rest : List Oper}
  {d : Nat} {ty : TypeId} {ps : String} {af : Array Edge} {gd : Option (Nat × Bool)} {tt : List (Nat × TI)}
theorem run_ptr_self {t : TypeId} {el sz : Nat} {w : World} (hp : (underlying t).run P w = .ok (.pointer el) w) (hs : (sizeOf el).run P w = .ok sz w) (h0 : sz ≠ 0) (a : Addr) (x y : Operand) :
    (do eqGuard .neq t x y (.pointer (some a)) (.pointer (some a)); binOp .neq t (.pointer (some a)) (.pointer (some a)) : Sem Value).run P w = .ok (.bool false) w := by
  have e1 : binOp .neq t (.pointer (some a)) (.pointer (some a)) = (do pure (.bool (!(← Op.equal t (.pointer (some a)) (.pointer (some a)))))) := rfl
  have e2 : (Op.equalIn (9999 + 1) t (.pointer (some a)) (.pointer (some a))).run P w = .ok true w := by
    unfold Op.equalIn
    simp [hp, hs, h0, sameAddr]
  rw [e1]
  simp [eqGuard, Op.equal, Op.maxDepth, e2]
/-- p != p -/
theorem R.pns (htt : TTok P tt) {t u : TypeId} {x y : Operand} {l w0 i c e : Nat} {ti te : TI} (hx : evA τ x = some (.ptr l w0 i c)) (hy : evA τ y = some (.ptr l w0 i c)) (ht : lk t tt = some ti) (hk : ti.kind = .ptr e) (hte : lk e tt = some te) (hs : Nat.ble 1 te.size = true)
    (hg : wantA ops ⟨some d, .binOp .neq t x y u, ty, ps, af, gd⟩ τ = some true) (hb : (Nat.ble (d + 1) n && lookB D []) = true)
    (k : R P ops Q (lookD D []) E n L ((d, .raw (.bool false)) :: τ) h F rest) : R P ops Q D E n L τ h F (⟨some d, .binOp .neq t x y u, ty, ps, af, gd⟩ :: rest) :=
  R.pure _ (fun ρ ac w g => ⟨AV.Low.raw _ _ _, fun W => by
    have hp := und_ptr (htt _ _ ht) hk W
    have := run_ptr_self (P := P) hp ((htt _ _ hte).run_size W) (by rw [Nat.ble_eq] at hs; omega) ⟨(ρ l).getD 0, i * w0 + c, none⟩ x y
    simp only [Sem.run_bind] at this
    simp only [execOp, (g.eval x _ hx).2, (g.eval y _ hy).2, AV.conc, Sem.run_bind]
    simp [this]⟩) hg hb k
end
end Go.Proofs.YtaieficgifingaaGreatDoor
namespace Go.Proofs.YtaieficgifingaaGreatDoor
set_option linter.unusedVariables false
set_option linter.unusedSimpArgs false
set_option linter.unusedSectionVars false
open Go.RowKit
/-- what lies in a block; rw: it may be written -/
structure Fact where
  rw : Bool
  b : Nat
  ob : Obj
abbrev Fam := List Fact
def WrF (fs : Fam) (b : Nat) : Prop := ∃ p ∈ fs, p.rw = true ∧ p.b = b
def BlF (fs : Fam) (b : Nat) : Prop := ∃ p ∈ fs, p.b = b
theorem WrF.bl {fs : Fam} {b : Nat} (h : WrF fs b) : BlF fs b := by obtain ⟨p, h1, _, h2⟩ := h; exact ⟨p, h1, h2⟩
def ApF (fs : Fam) : Prop := fs.Pairwise fun p q => p.b = q.b → p.rw = false ∧ q.rw = false
def AtF (fs : Fam) (w : World) : Prop := ∀ p ∈ fs, w.heap[p.b]? = some p.ob
/-- what is known of the beginning of a call -/
structure Pre (h0 : List AO) (ρ0 : Env) (w0 : World) (fs0 : Fam) : Prop where
  al : ∀ i b, i < h0.length → ρ0 i = some b → b < w0.heap.size
  dis : ∀ i j o b, h0[i]? = some o → o.isRo = false → j < h0.length → ρ0 i = some b → ρ0 j = some b → i = j
  at0 : AtF fs0 w0
  ap0 : ApF fs0
  ro : ∀ i b, i < h0.length → ρ0 i = some b → ¬ WrF fs0 b
  wr : ∀ b, Wr0 h0 ρ0 b → ¬ BlF fs0 b
/-- what is told of memory without labels -/
structure FF (h0 : List AO) (ρ0 : Env) (w0 : World) (fs0 fs : Fam) (w : World) : Prop where
  at_ : AtF fs w
  ag : Ag (fun b => ¬ Wr0 h0 ρ0 b ∧ ¬ WrF fs0 b) w0 w
  ap : ApF fs
  fre : ∀ p ∈ fs, p.rw = true → w0.heap.size ≤ p.b ∨ Wr0 h0 ρ0 p.b ∨ WrF fs0 p.b
  bl : ∀ p ∈ fs, w0.heap.size ≤ p.b ∨ Wr0 h0 ρ0 p.b ∨ BlF fs0 p.b
  pre : Pre h0 ρ0 w0 fs0
section
variable {E : Base} {ρ : Env} {n L : Nat} {τ : List (Nat × AV)} {h : List (Nat × AO)} {F : World → Prop} {a : Act} {w : World} {h0 : List AO} {ρ0 : Env} {w0 : World} {fs0 fs : Fam}
/-- a state of which more, or less, is told -/
theorem Gam.strong (g : Gam E ρ n L τ h F a w) {F2 : World → Prop} (hF : ∀ w', Ag (fun b => ∀ l, wrA l h → ρ l ≠ some b) w w' → F2 w') : Gam E ρ n L τ h F2 a w := ⟨g.df, g.sz, g.tm, g.hp, g.dis, hF, g.ex, g.le, g.al⟩
theorem Gam.ff (g : Gam E ρ n L τ h (FF h0 ρ0 w0 fs0 fs) a w) : FF h0 ρ0 w0 fs0 fs w := g.fr w (Ag.refl _ _)
/-- the world with another thing in a block -/
def putB (w : World) (b : Nat) (o : Obj) : World := { w with heap := w.heap.set! b o }
theorem putB_same (w : World) {b : Nat} (o : Obj) (hb : b < w.heap.size) : (putB w b o).heap[b]? = some o := by simp [putB, hb]
theorem putB_ne (w : World) {b b' : Nat} (o : Obj) (h : b' ≠ b) : (putB w b o).heap[b']? = w.heap[b']? := by
  have e : b ≠ b' := fun e => h e.symm
  simp [putB, Array.getElem?_setIfInBounds, e]
theorem putB_ag (w : World) (b : Nat) (o : Obj) (D : Nat → Prop) (hD : ¬ D b) : Ag D w (putB w b o) := ⟨rfl, rfl, rfl, by simp [putB], fun b' _ hd => putB_ne w o fun e => hD (e ▸ hd)⟩
/-- a fact's block has no label that may be written -/
theorem Gam.apF (g : Gam E ρ n L τ h (FF h0 ρ0 w0 fs0 fs) a w) {p : Fact} (hp : p ∈ fs) {l : Nat} (hl : wrA l h) : ρ l ≠ some p.b := fun e => by
  have hlt := g.lt hl.live e
  have key : ∀ o : Obj, p.ob = o := fun o => by
    have h1 := (g.fr (putB w p.b o) (putB_ag w p.b o _ fun hd => hd l hl e)).at_ p hp
    rw [putB_same w o hlt] at h1
    exact (Option.some.inj h1).symm
  have h1 := key (.cells #[] 0 (0, 0))
  have h2 := key (.cells #[] 0 (0, 1))
  rw [h1] at h2
  simp at h2
/-- where a label that may be written lies -/
theorem Gam.freF (g : Gam E ρ n L τ h (FF h0 ρ0 w0 fs0 fs) a w) {l b : Nat} (hl : wrA l h) (hb : ρ l = some b) : w0.heap.size ≤ b ∨ Wr0 h0 ρ0 b ∨ WrF fs0 b := by
  rcases Nat.lt_or_ge b w0.heap.size with h1 | h1
  · right
    refine Classical.byContradiction fun hn => ?_
    have hn2 : ¬ Wr0 h0 ρ0 b ∧ ¬ WrF fs0 b := ⟨fun e => hn (.inl e), fun e => hn (.inr e)⟩
    have hlt := g.lt hl.live hb
    have key : ∀ o : Obj, w0.heap[b]? = some o := fun o => by
      have h2 := (g.fr (putB w b o) (putB_ag w b o _ fun hd => hd l hl hb)).ag.block b h1 hn2
      rw [← h2, putB_same w o hlt]
    have h4 := key (.cells #[] 0 (0, 0))
    have h5 := key (.cells #[] 0 (0, 1))
    rw [h4] at h5
    simp at h5
  · exact .inl h1
theorem FF.lt (hf : FF h0 ρ0 w0 fs0 fs w) {p : Fact} (hp : p ∈ fs) : p.b < w.heap.size := (Array.getElem?_eq_some_iff.1 (hf.at_ p hp)).1
/-- the same facts, fewer, in another order -/
theorem FF.less (hf : FF h0 ρ0 w0 fs0 fs w) {fs2 : Fam} (h2 : ∀ p ∈ fs2, p ∈ fs) (ha : ApF fs2) : FF h0 ρ0 w0 fs0 fs2 w := ⟨fun p hp => hf.at_ p (h2 p hp), hf.ag, ha, fun p hp => hf.fre p (h2 p hp), fun p hp => hf.bl p (h2 p hp), hf.pre⟩
/-- no label that is only read lies where a fact may be written -/
def roB (N : Nat) (h : List (Nat × AO)) : Bool := h.all fun p => !p.2.isRo || Nat.ble (p.1 + 1) N
theorem roB_lt {N : Nat} {h : List (Nat × AO)} (hr : roB N h = true) {l : Nat} {o : AO} (hl : hk l h = some o) (ho : o.isRo = true) : l < N := by
  have := List.all_eq_true.1 hr _ (lk_mem (hk_lk hl))
  simp only [ho, Bool.not_true, Bool.false_or, Nat.ble_eq] at this
  omega
theorem FF.inn (hf : FF h0 ρ0 w0 fs0 fs w) {i b : Nat} {o : AO} (hi : h0[i]? = some o) (hro : o.isRo = true) (hb : ρ0 i = some b) : ¬ WrF fs b := fun ⟨p, hp, hrw, he⟩ => by
  have hlt : i < h0.length := (List.getElem?_eq_some_iff.1 hi).1
  subst he
  rcases hf.fre p hp hrw with h1 | ⟨j, oj, h1, h2, h3⟩ | h1
  · have := hf.pre.al i _ hlt hb; omega
  · have := hf.pre.dis j i oj _ h1 h2 hlt h3 hb
    subst this
    rw [hi] at h1
    cases h1
    rw [hro] at h2; cases h2
  · exact hf.pre.ro i _ hlt hb h1
end
section
variable {P : Program} {ops : Array Oper} {Q : Exit → Act → World → Prop} {E : Base} {n L : Nat} {τ : List (Nat × AV)} {h : List (Nat × AO)} {F : World → Prop} {rest : List Oper}
theorem X.wk {e : Exit} {F2 : World → Prop} (hF : ∀ w, F w → F2 w) (k : X Q e E n L τ h F2) : X Q e E n L τ h F := ⟨fun ρ a w g => k.out ρ a w (g.strong fun w' hw => hF _ (g.fr w' hw))⟩
theorem C.wk {c : Code} {F2 : World → Prop} (hF : ∀ w, F w → F2 w) (k : C P c Q E n L τ h F2) : C P c Q E n L τ h F := ⟨fun ρ a w g => k.out ρ a w (g.strong fun w' hw => hF _ (g.fr w' hw))⟩
theorem R.wk {F2 : World → Prop} (hF : ∀ w, F w → F2 w) (k : R P ops Q none E n L τ h F2 rest) : R P ops Q none E n L τ h F rest := ⟨fun ρ a w g => k.out ρ a w (g.strong fun w' hw => hF _ (g.fr w' hw))⟩
end
/-- in this object lies what o says -/
def Is (b : Nat) (ob : Obj) (o : AO) : Prop := ∀ (ρ : Env) (w : World), w.heap[b]? = some ob → o.holds ρ (some b) w
section
variable {E : Base} {ρ : Env} {n L : Nat} {τ : List (Nat × AV)} {h : List (Nat × AO)} {a : Act} {w : World} {h0 : List AO} {ρ0 : Env} {w0 : World} {fs0 fs : Fam}
end
end Go.Proofs.YtaieficgifingaaGreatDoor
namespace Go.Proofs.YtaieficgifingaaGreatDoor
set_option linter.unusedVariables false
set_option linter.unusedSimpArgs false
set_option linter.unusedSectionVars false
open Go.RowKit
def AtG {σ : Type} (E : Base) (n L : Nat) (Inv : σ → Prop) (T : σ → List (Nat × AV)) (H : σ → List (Nat × AO)) (F : σ → World → Prop) (μ : σ → Nat) (m : Nat) (a : Act) (w : World) : Prop := ∃ s, Inv s ∧ μ s < m ∧ ∃ ρ, Gam E ρ n L (T s) (H s) (F s) a w
section
variable {P : Program} {Q : Exit → Act → World → Prop} {E : Base} {n L : Nat} {τ : List (Nat × AV)} {h : List (Nat × AO)} {F : World → Prop}
theorem atG_of {σ : Type} {L2 : Nat} {Inv : σ → Prop} {T : σ → List (Nat × AV)} {H : σ → List (Nat × AO)} {F2 : σ → World → Prop} {μ : σ → Nat} {m : Nat} {ρ : Env} {a : Act} {w : World} (g : Gam E ρ n L τ h F a w) (rl : List (Nat × Nat)) (s : σ) (hI : Inv s) (hm : μ s < m) (hb : rnB E.N L2 L rl = true)
    (ht : HasT (rnF rl) L2 τ (T s)) (hh : HasH (rnF rl) L2 h (H s)) (hnd : nodupB (((H s).map (·.1)).map (rnF rl)) = true) (hF : ∀ w, F w → F2 s w) : AtG E n L2 Inv T H F2 μ m a w := by
  obtain ⟨h1, h2, h3⟩ := rn_ok hb
  exact ⟨s, hI, hm, _, g.imp (rnF rl) L2 (T s) (H s) (F2 s) h1 h2 h3 ht hh hnd hF⟩
theorem X.backG {σ : Type} {L2 : Nat} {Inv : σ → Prop} {T : σ → List (Nat × AV)} {H : σ → List (Nat × AO)} {F2 : σ → World → Prop} {μ : σ → Nat} {m : Nat} (rl : List (Nat × Nat)) (s : σ) (hI : Inv s) (hm : μ s < m) (hb : rnB E.N L2 L rl = true)
    (ht : HasT (rnF rl) L2 τ (T s)) (hh : HasH (rnF rl) L2 h (H s)) (hnd : nodupB (((H s).map (·.1)).map (rnF rl)) = true) (hF : ∀ w, F w → F2 s w) : X (Exit.then (AtG E n L2 Inv T H F2 μ m) Q) .normal E n L τ h F :=
  ⟨fun ρ a w g => atG_of g rl s hI hm hb ht hh hnd hF⟩
theorem C.loopG {σ : Type} {c : Code} {L2 : Nat} (Inv : σ → Prop) (T : σ → List (Nat × AV)) (H : σ → List (Nat × AO)) (F2 : σ → World → Prop) (μ : σ → Nat) (rl : List (Nat × Nat)) (s : σ) (hI : Inv s) (hb : rnB E.N L2 L rl = true)
    (ht : HasT (rnF rl) L2 τ (T s)) (hh : HasH (rnF rl) L2 h (H s)) (hnd : nodupB (((H s).map (·.1)).map (rnF rl)) = true) (hF : ∀ w, F w → F2 s w)
    (round : ∀ s, Inv s → C P c (Exit.then (AtG E n L2 Inv T H F2 μ (μ s)) Q) E n L2 (T s) (H s) (F2 s)) : C P (.loop c) Q E n L τ h F := ⟨fun ρ a w g => by
  obtain ⟨s0, hI0, hm0, ρ0, g0⟩ := atG_of (μ := μ) (m := μ s + 1) (F2 := F2) g rl s hI (Nat.lt_succ_self _) hb ht hh hnd hF
  refine wp_loop_ghost (fun k a w => ∃ s, Inv s ∧ μ s = k ∧ ∃ ρ, Gam E ρ n L2 (T s) (H s) (F2 s) a w) (μ s0) ⟨s0, hI0, rfl, ρ0, g0⟩ ?_
  rintro k a w ⟨s, hs, rfl, ρ, g⟩
  refine wp_mono ((round s hs).out ρ a w g) ?_
  intro e a' w' hq
  cases e with
  | normal =>
    obtain ⟨s', h1, h2, h3⟩ := hq
    exact ⟨μ s', h2, s', h1, rfl, h3⟩
  | exit id => exact hq
  | goto l => exact hq
  | ret => exact hq
  | panic ch => exact hq
  | outgrown => exact hq⟩
end
/-- what a call comes to -/
def OutcF {σ : Type} (h0 : List AO) (m : Nat) (ρ : Env) (w : World) (fs : Fam) (G : σ → Prop) (val : σ → AV) (post : σ → List (Nat × AO)) (fs' : σ → Fam) (e : Ending) (w' : World) : Prop :=
  ∃ s ρ', G s ∧ (∀ i, i < h0.length → ρ' i = ρ i) ∧ e = .returned ((val s).conc ρ') ∧ (val s).Low ρ' m ∧ FF h0 ρ w fs (fs' s) w' ∧
    (∀ l o, hk l (post s) = some o → l < m ∧ o.Low ρ' m ∧ o.holds ρ' (ρ' l) w') ∧ (∀ l l' b, wrA l (post s) → hk l' (post s) ≠ none → ρ' l = some b → ρ' l' = some b → l = l') ∧
    (∀ l b, l < m → ρ' l = some b → b < w'.heap.size) ∧ (∀ l b, h0.length ≤ l → hk l (post s) ≠ none → ρ' l = some b → w.heap.size ≤ b ∨ Wr0 h0 ρ b) ∧ (∀ i o, i < h0.length → hk i (post s) = some o → o.isRo = false → ∃ o0, h0[i]? = some o0 ∧ o0.isRo = false) ∧
    (∀ l b, wrA l (post s) → ρ' l = some b → ¬ BlF (fs' s) b)
def SpecF (P : Program) (f : FuncId) (avs : List AV) (h0 : List AO) (m : Nat) {σ : Type} (fs : Fam) (G : σ → Prop) (val : σ → AV) (post : σ → List (Nat × AO)) (fs' : σ → Fam) : Prop :=
  ∀ (ρ : Env) (w : World), (∀ (i : Nat) (o : AO), h0[i]? = some o → o.holds ρ (ρ i) w) → Pre h0 ρ w fs → Calls P f (AV.concs ρ avs).toArray w (OutcF h0 m ρ w fs G val post fs')
theorem Pre.ff {h0 : List AO} {ρ : Env} {w : World} {fs : Fam} (hp : Pre h0 ρ w fs) {w' : World} (hw : Ag (fun b => ¬ Wr0 h0 ρ b) w w') : FF h0 ρ w fs fs w' := ⟨fun p hq => by
    have := hp.at0 p hq
    rw [← this]
    exact hw.block p.b (Array.getElem?_eq_some_iff.1 this).1 fun hx => hp.wr p.b hx ⟨p, hq, rfl⟩, hw.mono fun b _ h => h.1, hp.ap0, fun p hq hrw => .inr (.inr ⟨p, hq, hrw, rfl⟩), fun p hq => .inr (.inr ⟨p, hq, rfl⟩), hp⟩
section
variable {P : Program} {Q : Exit → Act → World → Prop} {E : Base} {n L : Nat} {τ : List (Nat × AV)} {h : List (Nat × AO)} {F : World → Prop}
/-- the beginning of a call, facts told -/
theorem CL.enterF {f : FuncId} {fn : Func} {c : Code} (hf : P.funcs[f]? = some fn) (hb : fn.body = some c) (ρ : Env) (avs : List AV) (h0 : List AO) (w : World) (fs : Fam) (R : Ending → World → Prop) (n : Nat) (hn : fn.ntmps = n) (hlen : Nat.ble avs.length n = true) (hbd : AV.bds h0.length avs = true)
    (hbo : ∀ o ∈ h0, o.Bd h0.length) (hh : ∀ (i : Nat) (o : AO), h0[i]? = some o → o.holds ρ (ρ i) w) (hp : Pre h0 ρ w fs)
    (k : C P c (bodyPost P fn R) ⟨h0.length, ρ, []⟩ n h0.length (slots 0 avs) (labels 0 h0) (FF h0 ρ w fs fs)) : Calls P f (AV.concs ρ avs).toArray w R := by
  refine CL.enter hf hb ρ avs h0 w R n hn hlen hbd hbo hh hp.dis (fun i b hi hb => hp.al i b hi hb) (fun ρ' a' w' g => k.out ρ' a' w' (g.strong fun x hx => hp.ff (g.fr x hx)))
theorem SpecF.of {f : FuncId} {avs : List AV} {h0 : List AO} {m : Nat} {σ : Type} {fs : Fam} {G : σ → Prop} {val : σ → AV} {post : σ → List (Nat × AO)} {fs' : σ → Fam} {fn : Func} {c : Code} (hf : P.funcs[f]? = some fn) (hb : fn.body = some c) {n : Nat} (hn : fn.ntmps = n) (hB : (Nat.ble avs.length n && AV.bds h0.length avs) = true) (hbo : ∀ o ∈ h0, o.Bd h0.length)
    (k : ∀ ρ w, C P c (bodyPost P fn (OutcF h0 m ρ w fs G val post fs')) ⟨h0.length, ρ, []⟩ n h0.length (slots 0 avs) (labels 0 h0) (FF h0 ρ w fs fs)) : SpecF P f avs h0 m fs G val post fs' := fun ρ w h1 h2 => by
  simp only [Bool.and_eq_true] at hB
  exact CL.enterF hf hb ρ avs h0 w fs _ n hn hB.1 hB.2 hbo h1 h2 (k ρ w)
/-- a plain contract whose walk speaks of blocks without labels -/
theorem Spec.ofF {f : FuncId} {avs : List AV} {h0 : List AO} {m : Nat} {σ : Type} {G : σ → Prop} {val : σ → AV} {post : σ → List (Nat × AO)} {fn : Func} {c : Code} (hf : P.funcs[f]? = some fn) (hb : fn.body = some c) {n : Nat} (hn : fn.ntmps = n) (hB : (Nat.ble avs.length n && AV.bds h0.length avs) = true) (hbo : ∀ o ∈ h0, o.Bd h0.length)
    (k : ∀ ρ w, C P c (bodyPost P fn (Outc h0 m ρ w G val post)) ⟨h0.length, ρ, []⟩ n h0.length (slots 0 avs) (labels 0 h0) (FF h0 ρ w [] [])) : Spec P f avs h0 m G val post := fun ρ w h1 h2 h3 => by
  simp only [Bool.and_eq_true] at hB
  have hp : Pre h0 ρ w [] := ⟨h3, h2, fun p hp => (by cases hp), List.Pairwise.nil, fun i b _ _ ⟨p, hp, _⟩ => (by cases hp), fun b _ ⟨p, hp, _⟩ => (by cases hp)⟩
  exact CL.enterF hf hb ρ avs h0 w [] _ n hn hB.1 hB.2 hbo h1 hp (k ρ w)
theorem FF.ag0 {h0 : List AO} {ρ0 : Env} {w0 : World} {fs : Fam} {w : World} (hf : FF h0 ρ0 w0 [] fs w) : Ag (fun b => ¬ Wr0 h0 ρ0 b) w0 w := hf.ag.mono fun b _ h => ⟨h, fun ⟨p, hp, _⟩ => by cases hp⟩
/-- the end of such a one -/
theorem X.finS {tt : List (Nat × TI)} (htt : TTok P tt) {fn : Func} {σ : Type} {h0 : List AO} {m : Nat} {ρ0 : Env} {w0 : World} {fs : Fam} {G : σ → Prop} {val : σ → AV} {post : σ → List (Nat × AO)} {vs : List AV} (s : σ) (rl : List (Nat × Nat)) (hG : G s) (hr : resA tt h τ fn.results.toList = some vs)
    (hv : resV vs = (val s).ren (rnF rl)) (hb : ((val s).bd m && rnB h0.length m L rl && newB h0.length rl h (post s) && oldB h0 (post s) && nodupB (((post s).map (·.1)).map (rnF rl))) = true) (hh : HasH (rnF rl) m h (post s)) (e : Exit) (he : e = .ret ∨ e = .normal) :
    X (bodyPost P fn (Outc h0 m ρ0 w0 G val post)) e ⟨h0.length, ρ0, []⟩ n L τ h (FF h0 ρ0 w0 [] fs) := X.wk (fun w hw => hw.ag0) (X.fin htt s rl hG hr hv hb hh e he)
/-- the end of a call whose contract speaks of blocks without labels -/
theorem X.finF {tt : List (Nat × TI)} (htt : TTok P tt) {fn : Func} {σ : Type} {h0 : List AO} {m : Nat} {ρ0 : Env} {w0 : World} {fs0 fsE : Fam} {G : σ → Prop} {val : σ → AV} {post : σ → List (Nat × AO)} {fs' : σ → Fam} {vs : List AV} (s : σ) (rl : List (Nat × Nat)) (hG : G s) (hr : resA tt h τ fn.results.toList = some vs)
    (hv : resV vs = (val s).ren (rnF rl)) (hb : ((val s).bd m && rnB h0.length m L rl && newB h0.length rl h (post s) && oldB h0 (post s) && nodupB (((post s).map (·.1)).map (rnF rl))) = true) (hh : HasH (rnF rl) m h (post s)) (e : Exit) (he : e = .ret ∨ e = .normal)
    (hfs : ∀ w, FF h0 ρ0 w0 fs0 fsE w → ApF (fs' s)) (hin : ∀ p ∈ fs' s, p ∈ fsE) (hall : ∀ p ∈ fs0, p.rw = true → BlF fsE p.b) :
    X (bodyPost P fn (OutcF h0 m ρ0 w0 fs0 G val post fs')) e ⟨h0.length, ρ0, []⟩ n L τ h (FF h0 ρ0 w0 fs0 fsE) := by
  have key : ∀ ρ a w, Gam ⟨h0.length, ρ0, []⟩ ρ n L τ h (FF h0 ρ0 w0 fs0 fsE) a w → OutcF h0 m ρ0 w0 fs0 G val post fs' (.returned ((resV vs).conc ρ)) w := fun ρ a w g => by
    simp only [Bool.and_eq_true] at hb
    obtain ⟨⟨⟨⟨h1, h2⟩, h3⟩, h4⟩, h5⟩ := hb
    obtain ⟨h6, h7, h8⟩ := rn_ok h2
    have g2 := g.imp (rnF rl) m [] (post s) _ h6 h7 h8 trivial hh h5 (fun _ h => h)
    refine ⟨s, fun l => ρ (rnF rl l), hG, fun i hi => g2.ex i hi, by rw [hv, ren_conc], bdLow h1 _, g.ff.less hin (hfs w g.ff), g2.hp, g2.dis, fun l b h1 h3 => g.al (rnF rl l) b (h7 l h1) h3, fun l b hl hlive hb => ?_, oldB_mem h4, fun l b hl hb ⟨p, hp, he⟩ => ?_⟩
    · rcases g.freF (newB_mem h3 l hlive hl) hb with h9 | h9 | ⟨p, hp, hrw, he⟩
      · exact .inl h9
      · exact .inr h9
      · obtain ⟨q, hq, hqe⟩ := hall p hp hrw
        exact absurd (by rw [hqe, he]; exact hb) (g.apF hq (newB_mem h3 l hlive hl))
    · exact g2.apF (hin p hp) hl (by rw [he]; exact hb)
  rcases he with rfl | rfl
  · exact X.ret htt hr key
  · exact X.end_ htt hr key
end
end Go.Proofs.YtaieficgifingaaGreatDoor
namespace Go.Proofs.YtaieficgifingaaGreatDoor
set_option linter.unusedVariables false
set_option linter.unusedSimpArgs false
set_option linter.unusedSectionVars false
open Go.RowKit
open Classical in
/-- of two worlds: in S the second's blocks -/
noncomputable def mixW (w w' : World) (S : Nat → Prop) : World := { w with heap := Array.ofFn fun i : Fin w.heap.size => if S i.1 then w'.heap.getD i.1 w.heap[i] else w.heap[i] }
theorem mixW_size (w w' : World) (S : Nat → Prop) : (mixW w w' S).heap.size = w.heap.size := by simp [mixW]
theorem mixW_in (w w' : World) {S : Nat → Prop} {b : Nat} (hb : b < w.heap.size) (hb' : b < w'.heap.size) (hS : S b) : (mixW w w' S).heap[b]? = w'.heap[b]? := by
  simp [mixW, hb, hS, hb']
theorem mixW_out (w w' : World) {S : Nat → Prop} {b : Nat} (hS : ¬ S b) : (mixW w w' S).heap[b]? = w.heap[b]? := by
  by_cases hb : b < w.heap.size
  · simp [mixW, hb, hS]
  · simp [mixW, hb]
section
variable {E : Base} {ρ : Env} {n L : Nat} {τ : List (Nat × AV)} {h : List (Nat × AO)} {F : World → Prop} {a : Act} {w : World} {H0 : List AO} {R0 : Env} {W0 : World} {FS0 fs : Fam}
/-- the same state, where blocks without labels hold other things -/
theorem Gam.bump (g : Gam E ρ n L τ h F a w) {w2 : World} (hsz : w2.heap.size = w.heap.size) (hlab : ∀ l b, hk l h ≠ none → ρ l = some b → w2.heap[b]? = w.heap[b]?) : Gam E ρ n L τ h (fun x => Ag (fun b => ∀ l, wrA l h → ρ l ≠ some b) w2 x) a w2 :=
  ⟨g.df, g.sz, g.tm, fun l o hl => by
    have hh := g.hp l o hl
    exact ⟨hh.1, hh.2.1, holds_same hh.2.2 fun b hb => hlab l b (by rw [hl]; simp) hb⟩, g.dis, fun w' hw => hw, g.ex, g.le, fun l b hl hb => by rw [hsz]; exact g.al l b hl hb⟩
/-- the labels behind a call -/
theorem hk_behind {h0 : List AO} {ms : List Nat} {L : Nat} {post : List (Nat × AO)} (hnd : nodupB ((post.map (·.1)).map (renF ms L)) = true) {l : Nat} {o : AO} (ho : hk l (renH (renF ms L) post ++ (goneL h0 ms ++ h)) = some o) :
    (∃ i oi, hk i post = some oi ∧ renF ms L i = l ∧ o = oi.ren (renF ms L)) ∨ (l ∉ (goneL h0 ms).map (·.1) ∧ hk l h = some o) := by
  have hinj := nodupB_inj hnd
  simp only [hk_append] at ho
  split at ho
  · rename_i hm
    obtain ⟨i, hi, rfl⟩ := renH_mem.1 hm
    rw [hk_renH hinj i hi] at ho
    cases hx : hk i post with
    | none => rw [hx] at ho; cases ho
    | some oi =>
      rw [hx] at ho
      simp only [Option.map_some, Option.some.injEq] at ho
      exact .inl ⟨i, oi, hx, rfl, ho.symm⟩
  · split at ho
    · rw [goneL_none] at ho; cases ho
    · rename_i hn; exact .inr ⟨hn, ho⟩
end
section
variable {P : Program} {ops : Array Oper} {Q : Exit → Act → World → Prop} {D : Option DD} {E : Base} {n L : Nat} {τ : List (Nat × AV)} {h : List (Nat × AO)} {rest : List Oper}
  {d : Nat} {op : Op} {ty : TypeId} {ps : String} {af : Array Edge} {gd : Option (Nat × Bool)} {tt : List (Nat × TI)} {H0 : List AO} {R0 : Env} {W0 : World} {FS0 : Fam}
/-- a call -/
theorem R.cfG {σ : Type} {G : σ → Prop} {val : σ → AV} {post : σ → List (Nat × AO)} {f : FuncId} {x : Operand} {cs : List AV} {xs : Array Operand} {ats : Array TypeId} {avs : List AV} {h0 : List AO} {m : Nat} {fs : Fam} {fs' : σ → Fam} (fr : Fam) (ms : List Nat) (sp : SpecF P f avs h0 m fs G val post fs') (eg : ∀ args w, (callFunc f args).run P w = .ok (.enter f args) w)
    (hapG : ∀ ρ a w, Gam E ρ n L τ h (FF H0 R0 W0 FS0 (fs ++ fr)) a w → ∀ l b, hk l h ≠ none → ρ l = some b → ¬ WrF fs b)
    (hf : evA τ x = some (.fn f cs)) {l : List AV} (hxs : evList (evA τ) xs.toList = some l) (hx : l ++ cs = AV.rens (renF ms L) avs) (hin : HasIn (renF ms L) h 0 h0) (hm : Nat.ble h0.length m = true) (hpost : ∀ s, ∀ l ∈ (post s).map (·.1), l < m) (hnd : ∀ s, nodupB (((post s).map (·.1)).map (renF ms L)) = true)
    (hg : wantA ops ⟨some d, .call { callee := .value x, args := xs, argTypes := ats }, ty, ps, af, gd⟩ τ = some true) (hb : (Nat.ble (d + 1) n && Nat.beq h0.length ms.length && onceB h0 ms && chainB h D ((goneL h0 ms).map (·.1))) = true)
    (k : ∀ s, G s → R P ops Q (actD h D ((goneL h0 ms).map (·.1))) E n (L + (m - h0.length)) ((d, (val s).ren (renF ms L)) :: τ) (renH (renF ms L) (post s) ++ (goneL h0 ms ++ h)) (FF H0 R0 W0 FS0 (fs' s ++ fr)) rest) :
    R P ops Q D E n L τ h (FF H0 R0 W0 FS0 (fs ++ fr)) (⟨some d, .call { callee := .value x, args := xs, argTypes := ats }, ty, ps, af, gd⟩ :: rest) := by
  simp only [Bool.and_eq_true] at hb
  obtain ⟨⟨⟨h1, h2⟩, h3⟩, h4⟩ := hb
  have hlen : h0.length = ms.length := Nat.eq_of_beq_eq_true h2
  have hm' : h0.length ≤ m := by simpa [Nat.ble_eq] using hm
  refine ⟨RL.acts G (fun s => (val s).ren (renF ms L)) (fun _ => L + (m - h0.length)) (fun s => renH (renF ms L) (post s) ++ (goneL h0 ms ++ h)) (fun s => FF H0 R0 W0 FS0 (fs' s ++ fr)) ((goneL h0 ms).map (·.1)) hg h1 h4 (fun _ _ => Nat.le_add_right _ _) (fun ρ a w g => ?_) (fun s hs => (k s hs).out)⟩
  refine goes_callv rfl (g.eval x _ hf).2 eg ?_
  have hargs : xs.map a.eval ++ (AV.concs ρ cs).toArray = (AV.concs (fun i => ρ (renF ms L i)) avs).toArray := by
    have := evList_conc (evB g) _ _ hxs
    have e2 := congrArg (AV.concs ρ) hx
    rw [rens_conc, concs_append, ← this] at e2
    apply Array.ext'
    rw [Array.toList_append, Array.toList_map, ← e2]
  rw [hargs]
  have hff := g.ff
  have hget := hasIn_get hin
  simp only [Nat.zero_add] at hget
  have rlive : ∀ i, i < h0.length → hk (renF ms L i) h ≠ none ∧ renF ms L i < L := fun i hi => by
    obtain ⟨o, ho⟩ : ∃ o, h0[i]? = some o := ⟨_, List.getElem?_eq_getElem hi⟩
    obtain ⟨o', h5, _⟩ := hget i o ho
    exact ⟨by rw [h5]; simp, (g.hp _ _ h5).1⟩
  have hfsL : ∀ p ∈ fs, p ∈ fs ++ fr := fun p hp => List.mem_append_left _ hp
  have hfrR : ∀ p ∈ fr, p ∈ fs ++ fr := fun p hp => List.mem_append_right _ hp
  have hwrL : ∀ b, WrF fs b → WrF (fs ++ fr) b := fun b ⟨p, hp, q⟩ => ⟨p, hfsL p hp, q⟩
  have hap3 := List.pairwise_append.1 hff.ap
  have hapR : ∀ l b, hk l h ≠ none → ρ l = some b → ¬ WrF fs b := fun l b hl hb hw => hapG ρ a w g l b hl hb hw
  -- blocks that the call may write are the caller's
  have hcw : ∀ b, Wr0 h0 (fun i => ρ (renF ms L i)) b → ∃ l, wrA l h ∧ ρ l = some b ∧ l ∈ (goneL h0 ms).map (·.1) := fun b ⟨i, o, e1, e2, e3⟩ => by
    obtain ⟨o', e4, e5, _⟩ := hget i o e1
    have hlt : i < ms.length := by rw [← hlen]; exact (List.getElem?_eq_some_iff.1 e1).1
    refine ⟨_, ⟨o', e4, e5 e2⟩, e3, (goneL_mem hlen).2 ⟨i, o, e1, e2, ?_⟩⟩
    unfold renF; rw [List.getElem?_eq_getElem hlt]
  have hpre : Pre h0 (fun i => ρ (renF ms L i)) w fs := ⟨fun i b hi hb => g.al _ b (rlive i hi).2 hb, fun i j o b ho hro hj hbi hbj => ?_, fun p hp => hff.at_ p (hfsL p hp), hap3.1, fun i b hi hb => hapR _ b (rlive i hi).1 hb, fun b hw ⟨p, hp, he⟩ => ?_⟩
  · refine (sp (fun i => ρ (renF ms L i)) w (fun i o ho => ?_) hpre).mono fun e w' ho => ?_
    · obtain ⟨o', h5, h6, h7⟩ := hget i o ho
      exact (ren_holds _ _ _ _ _).1 (h7 _ _ _ (g.hp _ _ h5).2.2)
    obtain ⟨s, ρc, hG, q1, q2, q3, q4, q5, q6, q7, q8, q9, q10⟩ := ho
    -- the world of the beginning, with what the facts' blocks hold in the end
    have hsz2 := mixW_size w w' (WrF fs)
    have hlab : ∀ l b, hk l h ≠ none → ρ l = some b → (mixW w w' (WrF fs)).heap[b]? = w.heap[b]? := fun l b hl hb => mixW_out w w' (hapR l b hl hb)
    have g2 := g.bump hsz2 hlab
    have hag2 : Ag (fun b => ¬ Wr0 h0 (fun i => ρ (renF ms L i)) b) (mixW w w' (WrF fs)) w' := ⟨q4.ag.os, q4.ag.tape, q4.ag.output, by rw [hsz2]; exact q4.ag.size, fun b hb hd => by
      rw [hsz2] at hb
      by_cases hw : WrF fs b
      · rw [mixW_in w w' hb (Nat.lt_of_lt_of_le hb q4.ag.size) hw]
      · rw [mixW_out w w' hw]
        exact q4.ag.block b hb ⟨hd, hw⟩⟩
    obtain ⟨ρ', hcomp, hval, hN⟩ := g2.calledR (val := val) (post := post) (s := s) (ρc := ρc) hlen hm' hin h3 hnd (hpost s) q1 q3 hag2 q5 q6 q7 (fun l b hl hv hb => by rw [hsz2]; exact q8 l b hl hv hb) q9
    refine ⟨_, q2, s, ρ', hG, hval.symm, ⟨hN.low, hN.same, hN.gam.strong fun y hy => ?_, fun l b hl hb hn => (hlab l b hl hb).symm.trans (hN.old l b hl hb hn)⟩⟩
    -- where labels that may be written lie behind the call
    have hbeh : ∀ l b, wrA l (renH (renF ms L) (post s) ++ (goneL h0 ms ++ h)) → ρ' l = some b → (∃ i, wrA i (post s) ∧ ρc i = some b) ∨ (l ∉ (goneL h0 ms).map (·.1) ∧ wrA l h ∧ ρ l = some b) := fun l b ⟨o, ho, hro⟩ hb => by
      rcases hk_behind (hnd s) ho with ⟨i, oi, e1, rfl, rfl⟩ | ⟨e1, e2⟩
      · rw [ren_isRo] at hro
        exact .inl ⟨i, ⟨oi, e1, hro⟩, by rw [← hcomp i (q5 i oi e1).1]; exact hb⟩
      · exact .inr ⟨e1, ⟨o, e2, hro⟩, by rw [← hN.same l (g.hp l o e2).1]; exact hb⟩
    -- a label of the call lies in a new block, or in one of the caller's
    have hcl : ∀ i b, wrA i (post s) → ρc i = some b → w.heap.size ≤ b ∨ ∃ l, wrA l h ∧ ρ l = some b := fun i b hi hb => by
      obtain ⟨o, e1, e2⟩ := hi
      rcases Nat.lt_or_ge i h0.length with e3 | e3
      · obtain ⟨o0, e4, e5⟩ := q9 i o e3 e1 e2
        obtain ⟨l2, e6, e7, _⟩ := hcw b ⟨i, o0, e4, e5, by rw [← q1 i e3]; exact hb⟩
        exact .inr ⟨l2, e6, e7⟩
      · rcases q8 i b e3 (by rw [e1]; simp) hb with e4 | e4
        · exact .inl e4
        · obtain ⟨l2, e6, e7, _⟩ := hcw b e4
          exact .inr ⟨l2, e6, e7⟩
    have hold : ∀ b, b < w.heap.size → ¬ Wr0 h0 (fun i => ρ (renF ms L i)) b → ¬ WrF fs b → w'.heap[b]? = w.heap[b]? := fun b hb h5 h6 => q4.ag.block b hb ⟨h5, h6⟩
    have hnl : ∀ p ∈ fs' s ++ fr, ∀ l, wrA l (renH (renF ms L) (post s) ++ (goneL h0 ms ++ h)) → ρ' l ≠ some p.b := fun p hp l hl hb => by
      rcases hbeh l _ hl hb with ⟨i, e1, e2⟩ | ⟨e1, e2, e3⟩
      · rcases List.mem_append.1 hp with hp | hp
        · exact q10 i _ e1 e2 ⟨p, hp, rfl⟩
        · have hlt := hff.lt (hfrR p hp)
          rcases hcl i _ e1 e2 with e3 | ⟨l2, e3, e4⟩
          · omega
          · exact g.apF (hfrR p hp) e3 e4
      · rcases List.mem_append.1 hp with hp | hp
        · rcases q4.bl p hp with e4 | e4 | ⟨q, e4, e5⟩
          · have := g.lt e2.live e3; omega
          · obtain ⟨l2, e5, e6, e7⟩ := hcw _ e4
            exact e1 (g.dis l l2 _ e2 e5.live e3 e6 ▸ e7)
          · exact g.apF (hfsL q e4) e2 (by rw [e5]; exact e3)
        · exact g.apF (hfrR p hp) e2 e3
    have hyb : ∀ b, b < w'.heap.size → (∀ l, wrA l (renH (renF ms L) (post s) ++ (goneL h0 ms ++ h)) → ρ' l ≠ some b) → y.heap[b]? = w'.heap[b]? := fun b hb hd => hy.block b hb hd
    have hfrw : ∀ p ∈ fr, w'.heap[p.b]? = w.heap[p.b]? := fun p hp => hold _ (hff.lt (hfrR p hp)) (fun hw => by
      obtain ⟨l2, e5, e6, e7⟩ := hcw _ hw
      exact g.apF (hfrR p hp) e5 e6) (fun ⟨q, e4, e5, e6⟩ => by
      have := (hap3.2.2 q e4 p hp e6).1
      rw [this] at e5; cases e5)
    refine ⟨fun p hp => ?_, ?_, ?_, fun p hp hrw => ?_, fun p hp => ?_, hff.pre⟩
    · rcases List.mem_append.1 hp with hp' | hp'
      · rw [hyb p.b (q4.lt hp') (hnl p hp)]; exact q4.at_ p hp'
      · rw [hyb p.b (Nat.lt_of_lt_of_le (hff.lt (hfrR p hp')) q4.ag.size) (hnl p hp), hfrw p hp']
        exact hff.at_ p (hfrR p hp')
    · refine ⟨hy.os.trans (q4.ag.os.trans hff.ag.os), hy.tape.trans (q4.ag.tape.trans hff.ag.tape), hy.output.trans (q4.ag.output.trans hff.ag.output), Nat.le_trans hff.ag.size (Nat.le_trans q4.ag.size hy.size), fun b hb hd => ?_⟩
      have hbw : b < w.heap.size := Nat.lt_of_lt_of_le hb hff.ag.size
      have key : ∀ l, wrA l h → ρ l ≠ some b := fun l hl e => by
        rcases g.freF hl e with e1 | e1 | e1
        · omega
        · exact hd.1 e1
        · exact hd.2 e1
      have n1 : ¬ Wr0 h0 (fun i => ρ (renF ms L i)) b := fun hw => by
        obtain ⟨l2, e5, e6, _⟩ := hcw _ hw
        exact key l2 e5 e6
      have n2 : ¬ WrF fs b := fun ⟨q, e4, e5, e6⟩ => by
        subst e6
        rcases hff.fre q (hfsL q e4) e5 with e1 | e1 | e1
        · omega
        · exact hd.1 e1
        · exact hd.2 e1
      rw [hyb b (Nat.lt_of_lt_of_le hbw q4.ag.size) fun l hl e => ?_, hold b hbw n1 n2, hff.ag.block b hb hd]
      rcases hbeh l b hl e with ⟨i, e1, e2⟩ | ⟨e1, e2, e3⟩
      · rcases hcl i b e1 e2 with e3 | ⟨l2, e3, e4⟩
        · omega
        · exact key l2 e3 e4
      · exact key l e2 e3
    · unfold ApF
      rw [List.pairwise_append]
      refine ⟨q4.ap, hap3.2.1, fun p hp q hq e => ?_⟩
      have hqlt := hff.lt (hfrR q hq)
      have hqw : ¬ Wr0 h0 (fun i => ρ (renF ms L i)) q.b := fun hw => by
        obtain ⟨l2, e5, e6, _⟩ := hcw _ hw
        exact g.apF (hfrR q hq) e5 e6
      have hqf : ∀ r ∈ fs, r.b = q.b → r.rw = false ∧ q.rw = false := fun r hr e => hap3.2.2 r hr q hq e
      constructor
      · cases hrw : p.rw with
        | false => rfl
        | true =>
          rcases q4.fre p hp hrw with e1 | e1 | ⟨r, e2, e3, e4⟩
          · omega
          · exact absurd (e ▸ e1) hqw
          · have := (hqf r e2 (e4.trans e)).1
            rw [this] at e3; cases e3
      · rcases q4.bl p hp with e1 | e1 | ⟨r, e2, e4⟩
        · omega
        · exact absurd (e ▸ e1) hqw
        · exact (hqf r e2 (e4.trans e)).2
    · rcases List.mem_append.1 hp with hp' | hp'
      · rcases q4.fre p hp' hrw with e1 | e1 | ⟨r, e2, e3, e4⟩
        · exact .inl (Nat.le_trans hff.ag.size e1)
        · obtain ⟨l2, e5, e6, _⟩ := hcw _ e1
          exact g.freF e5 e6
        · rw [← e4]; exact hff.fre r (hfsL r e2) e3
      · exact hff.fre p (hfrR p hp') hrw
    · rcases List.mem_append.1 hp with hp' | hp'
      · rcases q4.bl p hp' with e1 | e1 | ⟨r, e2, e4⟩
        · exact .inl (Nat.le_trans hff.ag.size e1)
        · obtain ⟨l2, e5, e6, _⟩ := hcw _ e1
          exact (g.freF e5 e6).imp id (Or.imp id WrF.bl)
        · rw [← e4]; exact hff.bl r (hfsL r e2)
      · exact hff.bl p (hfrR p hp')
  · obtain ⟨o', h5, h6, _⟩ := hget i o ho
    have he := g.dis _ _ b ⟨o', h5, h6 hro⟩ (rlive j hj).1 hbi hbj
    have hi : i < h0.length := (List.getElem?_eq_some_iff.1 ho).1
    have h9 := List.all_eq_true.1 h3 i (List.mem_range.2 hi)
    rw [ho] at h9
    simp only [hro, Bool.false_or] at h9
    have h10 := List.all_eq_true.1 h9 j (List.mem_range.2 hj)
    simp only [Bool.or_eq_true, Bool.not_eq_true'] at h10
    rcases h10 with h10 | h10
    · exact Nat.eq_of_beq_eq_true h10
    · exfalso
      have e1 : ∀ x, x < h0.length → renF ms L x = ms.getD x 0 := fun x hx => by
        have hx' : x < ms.length := by omega
        unfold renF
        rw [List.getD_eq_getElem?_getD, List.getElem?_eq_getElem hx']; rfl
      rw [← e1 i hi, ← e1 j hj, he, Nat.beq_refl] at h10; cases h10
  · obtain ⟨l, e5, e6, _⟩ := hcw b hw
    exact g.apF (hfsL p hp) e5 (by rw [he]; exact e6)
/-- facts that nobody writes, all of them told -/
theorem R.cfR {σ : Type} {G : σ → Prop} {val : σ → AV} {post : σ → List (Nat × AO)} {f : FuncId} {x : Operand} {cs : List AV} {xs : Array Operand} {ats : Array TypeId} {avs : List AV} {h0 : List AO} {m : Nat} {fs : Fam} {fs' : σ → Fam} (ms : List Nat) (sp : SpecF P f avs h0 m fs G val post fs') (eg : ∀ args w, (callFunc f args).run P w = .ok (.enter f args) w)
    (hfr : ∀ p ∈ fs, p.rw = false)
    (hf : evA τ x = some (.fn f cs)) {l : List AV} (hxs : evList (evA τ) xs.toList = some l) (hx : l ++ cs = AV.rens (renF ms L) avs) (hin : HasIn (renF ms L) h 0 h0) (hm : Nat.ble h0.length m = true) (hpost : ∀ s, ∀ l ∈ (post s).map (·.1), l < m) (hnd : ∀ s, nodupB (((post s).map (·.1)).map (renF ms L)) = true)
    (hg : wantA ops ⟨some d, .call { callee := .value x, args := xs, argTypes := ats }, ty, ps, af, gd⟩ τ = some true) (hb : (Nat.ble (d + 1) n && Nat.beq h0.length ms.length && onceB h0 ms && chainB h D ((goneL h0 ms).map (·.1))) = true)
    (k : ∀ s, G s → R P ops Q (actD h D ((goneL h0 ms).map (·.1))) E n (L + (m - h0.length)) ((d, (val s).ren (renF ms L)) :: τ) (renH (renF ms L) (post s) ++ (goneL h0 ms ++ h)) (FF H0 R0 W0 FS0 (fs' s)) rest) :
    R P ops Q D E n L τ h (FF H0 R0 W0 FS0 fs) (⟨some d, .call { callee := .value x, args := xs, argTypes := ats }, ty, ps, af, gd⟩ :: rest) := by
  have e : FF H0 R0 W0 FS0 fs = FF H0 R0 W0 FS0 (fs ++ []) := by rw [List.append_nil]
  rw [e]
  refine R.cfG [] ms sp eg (fun ρ a w g l b hl hb ⟨p, hp, q, _⟩ => by rw [hfr p hp] at q; cases q) hf hxs hx hin hm hpost hnd hg hb (fun s hs => ?_)
  rw [List.append_nil]
  exact k s hs
end
end Go.Proofs.YtaieficgifingaaGreatDoor
namespace Go.Proofs.YtaieficgifingaaGreatDoor
set_option linter.unusedVariables false
set_option linter.unusedSimpArgs false
set_option linter.unusedSectionVars false
open Go.RowKit
section
variable {P : Program} {ops : Array Oper} {Q : Exit → Act → World → Prop} {D : Option DD} {E : Base} {n L : Nat} {τ : List (Nat × AV)} {h : List (Nat × AO)} {F : World → Prop} {rest : List Oper}
/-- a state told anew, in a region that draws too -/
theorem R.renew {α : Type} (L' : Nat) (τ' : α → List (Nat × AV)) (h' : α → List (Nat × AO)) (F' : α → World → Prop) (I : α → Prop) (hL : L ≤ L') (hg : ∀ ρ a w, Gam E ρ n L τ h F a w → ∃ x ρ', I x ∧ (∀ l, l < L → ρ' l = ρ l) ∧ Gam E ρ' n L' (τ' x) (h' x) (F' x) a w)
    (k : ∀ x, I x → R P ops Q D E n L' (τ' x) (h' x) (F' x) rest) : R P ops Q D E n L τ h F rest := ⟨by
  cases D with
  | none =>
    intro ρ a w g
    obtain ⟨x, ρ', hI, _, g'⟩ := hg ρ a w g
    exact (k x hI).out ρ' a w g'
  | some d =>
    intro hops hpl hwl ρ a w Ws g hs
    obtain ⟨x, ρ', hI, he, g'⟩ := hg ρ a w g
    have h1 := (k x hI).out hops (fun p hp => Nat.lt_of_lt_of_le (hpl p hp) hL) (fun p hp l hl => Nat.lt_of_lt_of_le (hwl p hp l hl) hL) ρ' a w Ws g' (hs.ext he hwl)
    have e : pendC ρ' d.pend = pendC ρ d.pend := pendC_ext he _ hpl
    rw [e] at h1
    exact h1⟩
variable {h0 : List AO} {ρ0 : Env} {w0 : World} {fs0 fs : Fam}
theorem R.wkD {F2 : World → Prop} (hF : ∀ w, F w → F2 w) (k : R P ops Q D E n L τ h F2 rest) : R P ops Q D E n L τ h F rest :=
  R.renew (α := Unit) L (fun _ => τ) (fun _ => h) (fun _ => F2) (fun _ => True) (Nat.le_refl L) (fun ρ a w g => ⟨(), ρ, trivial, fun _ _ => rfl, g.strong fun w' hw => hF _ (g.fr w' hw)⟩) (fun _ _ => k)
theorem Is.ro {b : Nat} {ob : Obj} {p : List UInt8} {c : Nat} {T : TypeId} (h : Is b ob (.bytes p c T)) : Is b ob (.ro 1 0 p.length (bytesF p)) := fun ρ w hw => by
  have := h ρ w hw
  exact bytes_ro this
variable {d : Nat} {ty : TypeId} {ps : String} {af : Array Edge} {gd : Option (Nat × Bool)} {H0 : List AO} {R0 : Env} {W0 : World} {FS0 : Fam}
/-- a call by a contract that speaks of facts that nobody writes: all that are told -/
theorem R.clR {σ : Type} {G : σ → Prop} {val : σ → AV} {post : σ → List (Nat × AO)} {f : FuncId} {x : Operand} {cs : List AV} {xs : Array Operand} {ats : Array TypeId} {avs : List AV} {h1 : List AO} {m : Nat} {fs' : σ → Fam} (ms : List Nat) (sp : SpecF P f avs h1 m fs G val post fs') (hfr : ∀ p ∈ fs, p.rw = false) (eg : ∀ args w, (callFunc f args).run P w = .ok (.enter f args) w)
    (hin : HasIn (renF ms L) h 0 h1) (hf : evA τ x = some (.fn f cs)) {l : List AV} (hxs : evList (evA τ) xs.toList = some l) (hx : l ++ cs = AV.rens (renF ms L) avs) (hP : ∀ s, (bdB m (post s) && nodupB (((post s).map (·.1)).map (renF ms L))) = true)
    (hg : wantA ops ⟨some d, .call { callee := .value x, args := xs, argTypes := ats }, ty, ps, af, gd⟩ τ = some true) (hb : (Nat.ble (d + 1) n && Nat.beq h1.length ms.length && onceB h1 ms && chainB h D ((goneL h1 ms).map (·.1)) && Nat.ble h1.length m) = true)
    (k : ∀ s, G s → R P ops Q (actD h D ((goneL h1 ms).map (·.1))) E n (L + (m - h1.length)) ((d, (val s).ren (renF ms L)) :: τ) (renH (renF ms L) (post s) ++ (goneL h1 ms ++ h)) (FF H0 R0 W0 FS0 (fs' s)) rest) :
    R P ops Q D E n L τ h (FF H0 R0 W0 FS0 fs) (⟨some d, .call { callee := .value x, args := xs, argTypes := ats }, ty, ps, af, gd⟩ :: rest) := by
  rw [Bool.and_eq_true] at hb
  simp only [Bool.and_eq_true] at hP
  exact R.cfR ms sp eg hfr hf hxs hx hin hb.2 (fun s => bdB_lt (hP s).1) (fun s => (hP s).2) hg hb.1 k
theorem apf_ro {fs : Fam} (h : ∀ p ∈ fs, p.rw = false) : ApF fs := List.Pairwise.imp_of_mem (R := fun _ _ => True) (fun hp hq _ _ => ⟨h _ hp, h _ hq⟩) (List.pairwise_of_forall fun _ _ => trivial)
end
end Go.Proofs.YtaieficgifingaaGreatDoor
namespace Go.Proofs.YtaieficgifingaaGreatDoor
set_option linter.unusedVariables false
set_option linter.unusedSimpArgs false
set_option linter.unusedSectionVars false
open Go.RowKit
section
variable {E : Base} {ρ : Env} {n L : Nat} {τ : List (Nat × AV)} {h : List (Nat × AO)} {F : World → Prop} {a : Act} {w : World} {H0 : List AO} {R0 : Env} {W0 : World} {FS0 fs : Fam}
theorem Gam.pin (g : Gam E ρ n L τ h F a w) : Gam ⟨L, ρ, E.df⟩ ρ n L τ h F a w := ⟨g.df, g.sz, g.tm, g.hp, g.dis, g.fr, fun _ _ => rfl, Nat.le_refl L, g.al⟩
theorem Gam.unpin {E1 : Base} (g : Gam E1 ρ n L τ h F a w) (hN : E.N ≤ E1.N) (he : ∀ l, l < E.N → E1.ρ l = E.ρ l) (hd : E1.df = E.df := by rfl) : Gam E ρ n L τ h F a w :=
  ⟨g.df.trans hd, g.sz, g.tm, g.hp, g.dis, g.fr, fun l hl => (g.ex l (Nat.lt_of_lt_of_le hl hN)).trans (he l hl), Nat.le_trans hN g.le, g.al⟩
/-- a slot holds a block that has a label whose address is known -/
theorem Gam.name (g : Gam E ρ n L τ h F a w) (t : Nat) {v : Value} (v' : AV) (hv : lk t τ = some (.raw v)) (hc : ∀ ρ : Env, (∀ l, l < E.N → ρ l = E.ρ l) → v'.conc ρ = v) (hb : v'.bd L = true) : Gam E ρ n L ((t, v') :: τ) h F a w :=
  ⟨g.df, g.sz, fun s u hu => by
    rw [lk_cons] at hu
    split at hu
    · rename_i e
      subst e
      cases hu
      exact ⟨bdLow hb _, by rw [(g.tm t _ hv).2, hc ρ g.ex]; rfl⟩
    · exact g.tm s u hu, g.hp, g.dis, g.fr, g.ex, g.le, g.al⟩
/-- a label whose address is known becomes a fact -/
theorem Gam.frzP (g : Gam E ρ n L τ h (FF H0 R0 W0 FS0 fs) a w) (rw' : Bool) (l : Nat) {b : Nat} {o o' : AO} (hl : hk l h = some o) (hro : o.isRo = false) (hlN : l < E.N) (hb : E.ρ l = some b)
    (ho : ∀ ob w, w.heap[b]? = some ob → o.holds ρ (some b) w → Is b ob o') :
    ∃ ob, (Is b ob o' ∧ (∀ p ∈ fs, p.b ≠ b)) ∧ Gam E ρ n L τ ((l, .gone) :: h) (FF H0 R0 W0 FS0 (⟨rw', b, ob⟩ :: fs)) a w := by
  have hb : ρ l = some b := (g.ex l hlN).trans hb
  have hw : wrA l h := ⟨o, hl, hro⟩
  have hlt := g.lt hw.live hb
  have hob : w.heap[b]? = some w.heap[b] := Array.getElem?_eq_getElem hlt
  have hh := g.hp l o hl
  rw [hb] at hh
  have hap : ∀ p ∈ fs, p.b ≠ b := fun p hp e => g.apF hp hw (by rw [hb, e])
  have hwr : ∀ l', wrA l' ((l, .gone) :: h) → l' ≠ l ∧ wrA l' h := fun l' ⟨o1, h1, h2⟩ => by
    rw [hk_cons] at h1
    split at h1
    · cases h1
    · rename_i e; exact ⟨fun e2 => e e2.symm, o1, h1, h2⟩
  refine ⟨w.heap[b], ⟨ho _ w hob hh.2.2, hap⟩, ⟨g.df, g.sz, g.tm, fun l' o1 hl' => ?_, fun l1 l2 b1 h1 h2 h3 h4 => ?_, fun w' hw' => ?_, g.ex, g.le, g.al⟩⟩
  · rw [hk_cons] at hl'
    split at hl'
    · cases hl'
    · exact g.hp l' o1 hl'
  · refine g.dis l1 l2 b1 (hwr l1 h1).2 ?_ h3 h4
    rw [hk_cons] at h2
    split at h2
    · exact absurd rfl h2
    · exact h2
  · have hsz : b < w'.heap.size := Nat.lt_of_lt_of_le hlt hw'.size
    have hb' : w'.heap[b]? = w.heap[b]? := hw'.block b hlt fun l' hl' e => (hwr l' hl').1 (g.dis l' l b (hwr l' hl').2 hw.live e hb)
    have hall := g.fr w' (hw'.mono fun b2 hb2 hd l' hl' e => hd l' (hwr l' hl').2 e)
    refine ⟨fun p hp => ?_, hall.ag, ?_, fun p hp hrw => ?_, fun p hp => ?_, hall.pre⟩
    · rcases List.mem_cons.1 hp with rfl | hp
      · exact hb'.trans hob
      · exact hall.at_ p hp
    · unfold ApF
      rw [List.pairwise_cons]
      exact ⟨fun q hq e => absurd e.symm (hap q hq), hall.ap⟩
    · rcases List.mem_cons.1 hp with rfl | hp
      · exact g.freF hw hb
      · exact hall.fre p hp hrw
    · rcases List.mem_cons.1 hp with rfl | hp
      · exact (g.freF hw hb).imp id (Or.imp id WrF.bl)
      · exact hall.bl p hp
end
section
variable {P : Program} {ops : Array Oper} {Q : Exit → Act → World → Prop} {D : Option DD} {E : Base} {n L : Nat} {τ : List (Nat × AV)} {h : List (Nat × AO)} {F : World → Prop} {rest : List Oper} {H0 : List AO} {R0 : Env} {W0 : World} {FS0 fs : Fam}
theorem C.unpin {c : Code} {E1 : Base} (hN : E.N ≤ E1.N) (he : ∀ l, l < E.N → E1.ρ l = E.ρ l) (k : C P c Q E n L τ h F) (hd : E1.df = E.df := by rfl) : C P c Q E1 n L τ h F := ⟨fun ρ a w g => k.out ρ a w (g.unpin hN he hd)⟩
theorem X.unpin {e : Exit} {E1 : Base} (hN : E.N ≤ E1.N) (he : ∀ l, l < E.N → E1.ρ l = E.ρ l) (k : X Q e E n L τ h F) (hd : E1.df = E.df := by rfl) : X Q e E1 n L τ h F := ⟨fun ρ a w g => k.out ρ a w (g.unpin hN he hd)⟩
theorem R.unpin {E1 : Base} (hN : E.N ≤ E1.N) (he : ∀ l, l < E.N → E1.ρ l = E.ρ l) (k : R P ops Q none E n L τ h F rest) (hd : E1.df = E.df := by rfl) : R P ops Q none E1 n L τ h F rest := ⟨fun ρ a w g => k.out ρ a w (g.unpin hN he hd)⟩
/-- such a label becomes a fact again -/
theorem C.frzP {c : Code} (rw' : Bool) (l : Nat) {b : Nat} {o o' : AO} (hl : hk l h = some o) (hro : o.isRo = false) (hlN : l < E.N) (hb : E.ρ l = some b) (ho : ∀ (ρ : Env) ob w, w.heap[b]? = some ob → o.holds ρ (some b) w → Is b ob o')
    (k : ∀ ob, Is b ob o' → (∀ p ∈ fs, p.b ≠ b) → C P c Q E n L τ ((l, .gone) :: h) (FF H0 R0 W0 FS0 (⟨rw', b, ob⟩ :: fs))) : C P c Q E n L τ h (FF H0 R0 W0 FS0 fs) := ⟨fun ρ a w g => by
  obtain ⟨ob, h1, g'⟩ := g.frzP rw' l hl hro hlN hb (ho ρ)
  exact (k ob h1.1 h1.2).out ρ a w g'⟩
theorem X.frzP {e : Exit} (rw' : Bool) (l : Nat) {b : Nat} {o o' : AO} (hl : hk l h = some o) (hro : o.isRo = false) (hlN : l < E.N) (hb : E.ρ l = some b) (ho : ∀ (ρ : Env) ob w, w.heap[b]? = some ob → o.holds ρ (some b) w → Is b ob o')
    (k : ∀ ob, Is b ob o' → (∀ p ∈ fs, p.b ≠ b) → X Q e E n L τ ((l, .gone) :: h) (FF H0 R0 W0 FS0 (⟨rw', b, ob⟩ :: fs))) : X Q e E n L τ h (FF H0 R0 W0 FS0 fs) := ⟨fun ρ a w g => by
  obtain ⟨ob, h1, g'⟩ := g.frzP rw' l hl hro hlN hb (ho ρ)
  exact (k ob h1.1 h1.2).out ρ a w g'⟩
/-- a slot's raw address, told by the label that bears it -/
theorem R.name (t : Nat) {v : Value} (v' : AV) (hv : lk t τ = some (.raw v)) (hc : ∀ ρ : Env, (∀ l, l < E.N → ρ l = E.ρ l) → v'.conc ρ = v) (hb : v'.bd L = true) (k : R P ops Q D E n L ((t, v') :: τ) h F rest) : R P ops Q D E n L τ h F rest :=
  R.renew (α := Unit) L (fun _ => (t, v') :: τ) (fun _ => h) (fun _ => F) (fun _ => True) (Nat.le_refl L) (fun ρ a w g => ⟨(), ρ, trivial, fun _ _ => rfl, g.name t v' hv hc hb⟩) (fun _ _ => k)
variable {d : Nat} {ty : TypeId} {ps : String} {af : Array Edge} {gd : Option (Nat × Bool)}
end
end Go.Proofs.YtaieficgifingaaGreatDoor
namespace Go.Proofs.YtaieficgifingaaGreatDoor
set_option linter.unusedVariables false
set_option linter.unusedSimpArgs false
set_option linter.unusedSectionVars false
open Go.RowKit
theorem apf_perm {a b : Fam} (hp : a.Perm b) (h : ApF a) : ApF b := (List.Perm.pairwise_iff (fun {x y} h e => (h e.symm).symm) hp).1 h
section
variable {E : Base} {ρ : Env} {n L : Nat} {τ : List (Nat × AV)} {h : List (Nat × AO)} {F : World → Prop} {a : Act} {w : World} {h0 : List AO} {ρ0 : Env} {w0 : World} {fs0 fs : Fam}
theorem FF.perm (hf : FF h0 ρ0 w0 fs0 fs w) {fs2 : Fam} (hp : fs.Perm fs2) : FF h0 ρ0 w0 fs0 fs2 w := hf.less (fun p h => hp.symm.subset h) (apf_perm hp hf.ap)
/-- labels forgotten -/
theorem Gam.drop (g : Gam E ρ n L τ h F a w) {h2 : List (Nat × AO)} (hs : ∀ l o, hk l h2 = some o → hk l h = some o) : Gam E ρ n L τ h2 F a w := by
  have hw : ∀ l, wrA l h2 → wrA l h := fun l ⟨o, h1, h3⟩ => ⟨o, hs l o h1, h3⟩
  refine ⟨g.df, g.sz, g.tm, fun l o hl => g.hp l o (hs l o hl), fun l l' b h1 h3 h4 h5 => g.dis l l' b (hw l h1) ?_ h4 h5, fun w' hw' => g.fr w' (hw'.mono fun b _ hd l hl => hd l (hw l hl)), g.ex, g.le, g.al⟩
  cases hx : hk l' h2 with
  | none => exact absurd hx h3
  | some o => rw [hs l' o hx]; simp
theorem hk_dropped {l : Nat} {h : List (Nat × AO)} : ∀ l' o, hk l' ((l, .gone) :: h) = some o → hk l' h = some o := fun l' o ho => by
  rw [hk_cons] at ho
  split at ho
  · cases ho
  · exact ho
end
/-- every label that is only read (and not gone) is one of the call's own, which its contract tells as only read -/
def roL (H0 : List AO) (h : List (Nat × AO)) : Bool := h.all fun p => match hk p.1 h with
  | some o => !o.isRo || (match H0[p.1]? with | some o => o.isRo | none => false)
  | none => true
theorem roL_get {H0 : List AO} {h : List (Nat × AO)} (hr : roL H0 h = true) {l : Nat} {o : AO} (hl : hk l h = some o) (ho : o.isRo = true) : ∃ o0, H0[l]? = some o0 ∧ o0.isRo = true := by
  have := List.all_eq_true.1 hr _ (lk_mem (hk_lk hl))
  simp only [hl, ho, Bool.not_true, Bool.false_or] at this
  split at this
  · rename_i o0 h0; exact ⟨o0, h0, this⟩
  · cases this
section
variable {P : Program} {ops : Array Oper} {Q : Exit → Act → World → Prop} {D : Option DD} {E : Base} {n L : Nat} {τ : List (Nat × AV)} {h : List (Nat × AO)} {F : World → Prop} {rest : List Oper} {H0 : List AO} {R0 : Env} {W0 : World} {FS0 fs : Fam}
/-- facts in another order, fewer, or told twice -/
theorem C.fperm {c : Code} {fs2 : Fam} (hp : fs.Perm fs2) (k : C P c Q E n L τ h (FF H0 R0 W0 FS0 fs2)) : C P c Q E n L τ h (FF H0 R0 W0 FS0 fs) := C.wk (fun w hf => hf.perm hp) k
theorem X.fperm {e : Exit} {fs2 : Fam} (hp : fs.Perm fs2) (k : X Q e E n L τ h (FF H0 R0 W0 FS0 fs2)) : X Q e E n L τ h (FF H0 R0 W0 FS0 fs) := X.wk (fun w hf => hf.perm hp) k
theorem R.fperm {fs2 : Fam} (hp : fs.Perm fs2) (k : R P ops Q D E n L τ h (FF H0 R0 W0 FS0 fs2) rest) : R P ops Q D E n L τ h (FF H0 R0 W0 FS0 fs) rest := R.wkD (fun w hf => hf.perm hp) k
/-- a label forgotten -/
theorem R.drop (l : Nat) (k : R P ops Q none E n L τ ((l, .gone) :: h) F rest) : R P ops Q none E n L τ h F rest := ⟨fun ρ a w g => k.out ρ a w (g.drop hk_dropped)⟩
theorem C.drop {c : Code} (l : Nat) (k : C P c Q E n L τ ((l, .gone) :: h) F) : C P c Q E n L τ h F := ⟨fun ρ a w g => k.out ρ a w (g.drop hk_dropped)⟩
theorem X.drop {e : Exit} (l : Nat) (k : X Q e E n L τ ((l, .gone) :: h) F) : X Q e E n L τ h F := ⟨fun ρ a w g => k.out ρ a w (g.drop hk_dropped)⟩
variable {d : Nat} {ty : TypeId} {ps : String} {af : Array Edge} {gd : Option (Nat × Bool)}
/-- a call by a contract that speaks of facts, beside others -/
theorem R.clE {σ : Type} {G : σ → Prop} {val : σ → AV} {post : σ → List (Nat × AO)} {f : FuncId} {x : Operand} {cs : List AV} {xs : Array Operand} {ats : Array TypeId} {avs : List AV} {h1 : List AO} {m : Nat} {fs1 : Fam} {fs' : σ → Fam} (ms : List Nat) (sp : SpecF P f avs h1 m fs1 G val post fs') (fr : Fam) (hperm : fs.Perm (fs1 ++ fr)) (hN : H0.length ≤ E.N) (hE : ∀ l, l < H0.length → E.ρ l = R0 l) (eg : ∀ args w, (callFunc f args).run P w = .ok (.enter f args) w)
    (hin : HasIn (renF ms L) h 0 h1) (hf : evA τ x = some (.fn f cs)) {l : List AV} (hxs : evList (evA τ) xs.toList = some l) (hx : l ++ cs = AV.rens (renF ms L) avs) (hP : ∀ s, (bdB m (post s) && nodupB (((post s).map (·.1)).map (renF ms L))) = true)
    (hg : wantA ops ⟨some d, .call { callee := .value x, args := xs, argTypes := ats }, ty, ps, af, gd⟩ τ = some true) (hb : (Nat.ble (d + 1) n && Nat.beq h1.length ms.length && onceB h1 ms && chainB h D ((goneL h1 ms).map (·.1)) && Nat.ble h1.length m && roL H0 h) = true)
    (k : ∀ s, G s → R P ops Q (actD h D ((goneL h1 ms).map (·.1))) E n (L + (m - h1.length)) ((d, (val s).ren (renF ms L)) :: τ) (renH (renF ms L) (post s) ++ (goneL h1 ms ++ h)) (FF H0 R0 W0 FS0 (fs' s ++ fr)) rest) :
    R P ops Q D E n L τ h (FF H0 R0 W0 FS0 fs) (⟨some d, .call { callee := .value x, args := xs, argTypes := ats }, ty, ps, af, gd⟩ :: rest) := by
  rw [Bool.and_eq_true, Bool.and_eq_true] at hb
  obtain ⟨⟨hb1, hb2⟩, hrob⟩ := hb
  simp only [Bool.and_eq_true] at hP
  refine R.fperm hperm ?_
  refine R.cfG fr ms sp eg (fun ρ a w g l b hl hb hw => ?_) hf hxs hx hin hb2 (fun s => bdB_lt (hP s).1) (fun s => (hP s).2) hg hb1 k
  cases hx : hk l h with
  | none => exact hl hx
  | some o =>
    cases hro : o.isRo with
    | false =>
      obtain ⟨p, hp, _, he⟩ := hw
      exact g.apF (List.mem_append_left _ hp) ⟨o, hx, hro⟩ (by rw [he]; exact hb)
    | true =>
      obtain ⟨o0, h3, h4⟩ := roL_get hrob hx hro
      have hlN : l < H0.length := (List.getElem?_eq_some_iff.1 h3).1
      have : ρ l = R0 l := by rw [g.ex l (by omega), hE l hlN]
      obtain ⟨p, hp, q⟩ := hw
      exact g.ff.inn h3 h4 (this ▸ hb) ⟨p, List.mem_append_left _ hp, q⟩
end
end Go.Proofs.YtaieficgifingaaGreatDoor
