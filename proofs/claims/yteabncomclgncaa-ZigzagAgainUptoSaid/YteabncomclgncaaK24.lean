/- The kernel, 24: rows of structs that are only read, cell by cell. No program in sight. -/
import Derived.Test.YteabncomclgncaaK23
namespace Go.Proofs.Yteabncomclgncaa
set_option linter.unusedVariables false
set_option linter.unusedSimpArgs false
set_option linter.unusedSectionVars false
open Go.RowKit

/-- rows of k cells each, told cell by cell -/
def rowsF (k : Nat) (f : Nat → List AV) (j : Nat) : List AV := match (f (j / k))[j % k]? with
  | some v => [v]
  | none => []
theorem rowsF_get {k : Nat} {f : Nat → List AV} {i c : Nat} {v : AV} (hc : c < k) (h : (f i)[c]? = some v) : rowsF k f (i * k + c) = [v] := by
  unfold rowsF
  have h1 : (i * k + c) / k = i := by rw [Nat.mul_comm, Nat.mul_add_div (by omega), Nat.div_eq_of_lt hc]; omega
  have h2 : (i * k + c) % k = c := by rw [Nat.mul_comm, Nat.mul_add_mod, Nat.mod_eq_of_lt hc]
  rw [h1, h2, h]
section
variable {P : Program} {ops : Array Oper} {Q : Exit → Act → World → Prop} {D : Option DD} {E : Base} {n L : Nat} {τ : List (Nat × AV)} {h : List (Nat × AO)} {F : World → Prop} {rest : List Oper}
  {d : Nat} {op : Op} {ty : TypeId} {ps : String} {af : Array Edge} {gd : Option (Nat × Bool)} {tt : List (Nat × TI)}
/-- a value told in another way: numbers that fit -/
inductive Nrm : AV → AV → Prop where
  | w {k : IntKind} {x : Int} (h : k.wrap x = x) : Nrm (.raw (.int k (k.wrap x))) (.raw (.int k x))
  | refl (v : AV) : Nrm v v
theorem Nrm.eq {v v' : AV} (h : Nrm v v') : v = v' := by
  cases h with
  | w h => rw [h]
  | refl => rfl
theorem R.nr (htt : TTok P tt) {op : Op} {v v' : AV} (ha : act tt (fun l => hk l h) (evA τ) op = some v) (hn : Nrm v v') (hg : wantA ops ⟨some d, op, ty, ps, af, gd⟩ τ = some true)
    (hb : (Nat.ble (d + 1) n && lookB D (rdL τ op) && (rdL τ op).all (fun l => Nat.ble (l + 1) L)) = true)
    (k : R P ops Q (lookD D (rdL τ op)) E n L ((d, v') :: τ) h F rest) : R P ops Q D E n L τ h F (⟨some d, op, ty, ps, af, gd⟩ :: rest) :=
  R.s htt (by rw [ha, hn.eq]) hg hb k
/-! what kind of operation is next: each fails at once where it is another -/
theorem R.asBin {b : BinOp} {t u : TypeId} {x y : Operand} (k : R P ops Q D E n L τ h F (⟨some d, .binOp b t x y u, ty, ps, af, gd⟩ :: rest)) : R P ops Q D E n L τ h F (⟨some d, .binOp b t x y u, ty, ps, af, gd⟩ :: rest) := k
theorem R.asNeg {t : TypeId} {x : Operand} (k : R P ops Q D E n L τ h F (⟨some d, .unOp .neg t x, ty, ps, af, gd⟩ :: rest)) : R P ops Q D E n L τ h F (⟨some d, .unOp .neg t x, ty, ps, af, gd⟩ :: rest) := k
theorem R.asCon {s t : TypeId} {x : Operand} (k : R P ops Q D E n L τ h F (⟨some d, .convert s t x, ty, ps, af, gd⟩ :: rest)) : R P ops Q D E n L τ h F (⟨some d, .convert s t x, ty, ps, af, gd⟩ :: rest) := k
theorem R.asAny {op : Op} (k : R P ops Q D E n L τ h F (⟨some d, op, ty, ps, af, gd⟩ :: rest)) : R P ops Q D E n L τ h F (⟨some d, op, ty, ps, af, gd⟩ :: rest) := k
theorem R.asNo {op : Op} (k : R P ops Q D E n L τ h F (⟨none, op, ty, ps, af, gd⟩ :: rest)) : R P ops Q D E n L τ h F (⟨none, op, ty, ps, af, gd⟩ :: rest) := k
theorem R.asNew {t : TypeId} (k : R P ops Q D E n L τ h F (⟨some d, .alloc t, ty, ps, af, gd⟩ :: rest)) : R P ops Q D E n L τ h F (⟨some d, .alloc t, ty, ps, af, gd⟩ :: rest) := k
theorem R.asBox {t : TypeId} {x : Operand} (k : R P ops Q D E n L τ h F (⟨some d, .box t x, ty, ps, af, gd⟩ :: rest)) : R P ops Q D E n L τ h F (⟨some d, .box t x, ty, ps, af, gd⟩ :: rest) := k
theorem R.asLit {t len : Nat} {pts : Array (Nat × Operand)} (k : R P ops Q D E n L τ h F (⟨some d, .buildSlice t len pts, ty, ps, af, gd⟩ :: rest)) : R P ops Q D E n L τ h F (⟨some d, .buildSlice t len pts, ty, ps, af, gd⟩ :: rest) := k
theorem R.asSto {t : TypeId} {x y : Operand} (k : R P ops Q D E n L τ h F (⟨none, .store t x y, ty, ps, af, gd⟩ :: rest)) : R P ops Q D E n L τ h F (⟨none, .store t x y, ty, ps, af, gd⟩ :: rest) := k
theorem C.asCond {c : Operand} {x y : Code} (k : C P (.cond c x y) Q E n L τ h F) : C P (.cond c x y) Q E n L τ h F := k
theorem X.asOther {id id' : Nat} (k : X (Exit.inBlock id Q) (.exit id') E n L τ h F) : X (Exit.inBlock id Q) (.exit id') E n L τ h F := k
/-- sums, differences, products; numbers made into others -/
def arithB : BinOp → Bool
  | .add => true
  | .sub => true
  | .mul => true
  | _ => false
theorem R.nb (htt : TTok P tt) {b : BinOp} {t u : TypeId} {x y : Operand} {v v' : AV} (har : arithB b = true) (ha : act tt (fun l => hk l h) (evA τ) (.binOp b t x y u) = some v) (hn : Nrm v v') (hg : wantA ops ⟨some d, .binOp b t x y u, ty, ps, af, gd⟩ τ = some true)
    (hb : (Nat.ble (d + 1) n && lookB D []) = true)
    (k : R P ops Q (lookD D []) E n L ((d, v') :: τ) h F rest) : R P ops Q D E n L τ h F (⟨some d, .binOp b t x y u, ty, ps, af, gd⟩ :: rest) :=
  R.s htt (by rw [ha, hn.eq]) hg (by simpa [rdL] using hb) k
theorem R.nu (htt : TTok P tt) {t : TypeId} {x : Operand} {v v' : AV} (ha : act tt (fun l => hk l h) (evA τ) (.unOp .neg t x) = some v) (hn : Nrm v v') (hg : wantA ops ⟨some d, .unOp .neg t x, ty, ps, af, gd⟩ τ = some true)
    (hb : (Nat.ble (d + 1) n && lookB D []) = true)
    (k : R P ops Q (lookD D []) E n L ((d, v') :: τ) h F rest) : R P ops Q D E n L τ h F (⟨some d, .unOp .neg t x, ty, ps, af, gd⟩ :: rest) :=
  R.s htt (by rw [ha, hn.eq]) hg (by simpa [rdL] using hb) k
theorem R.nc (htt : TTok P tt) {s t : TypeId} {x : Operand} {v v' : AV} (ha : act tt (fun l => hk l h) (evA τ) (.convert s t x) = some v) (hn : Nrm v v') (hg : wantA ops ⟨some d, .convert s t x, ty, ps, af, gd⟩ τ = some true)
    (hb : (Nat.ble (d + 1) n && lookB D []) = true)
    (k : R P ops Q (lookD D []) E n L ((d, v') :: τ) h F rest) : R P ops Q D E n L τ h F (⟨some d, .convert s t x, ty, ps, af, gd⟩ :: rest) :=
  R.s htt (by rw [ha, hn.eq]) hg (by simpa [rdL] using hb) k
/-- moves, fields, slots alone: nothing of memory is looked at -/
theorem R.sq (htt : TTok P tt) {op : Op} {v : AV} (hq : rdL τ op = []) (ha : act tt (fun l => hk l h) (evA τ) op = some v) (hg : wantA ops ⟨some d, op, ty, ps, af, gd⟩ τ = some true)
    (hb : (Nat.ble (d + 1) n && lookB D []) = true)
    (k : R P ops Q (lookD D []) E n L ((d, v) :: τ) h F rest) : R P ops Q D E n L τ h F (⟨some d, op, ty, ps, af, gd⟩ :: rest) :=
  R.s htt ha hg (by rw [hq]; simpa using hb) (by rw [hq]; exact k)
/-- &x[j] of such rows -/
theorem R.ix1 (htt : TTok P tt) {t e : TypeId} {x y : Operand} {l w0 off m cap : Nat} {k0 : IntKind} {j : Int} {sz bt : Nat} {z : List Value} (jn : Nat) (hx : evA τ x = some (.sl l 1 off m cap)) (hy : evA τ y = some (.raw (.int k0 j))) (ht : lk t tt = some ⟨sz, bt, .sl e, z⟩) (hs : szA tt e = some w0)
    (hg : wantA ops ⟨some d, .indexAddr t x y, ty, ps, af, gd⟩ τ = some true) (hb : (Nat.ble (d + 1) n && lookB D []) = true) (hj : j = (jn : Int)) (hlt : jn < m) (hne : hasAt h l (off + jn * w0)) (hlL : Nat.ble (l + 1) L = true)
    (k : R P ops Q (lookD D []) E n L ((d, .ptr l 1 (off + jn * w0) 0) :: τ) h F rest) : R P ops Q D E n L τ h F (⟨some d, .indexAddr t x y, ty, ps, af, gd⟩ :: rest) :=
  R.pure _ (fun ρ a w g => by
    obtain ⟨b, hr⟩ := g.someAt hne
    refine ⟨fun ρ' he => ?_, fun W => ?_⟩
    · have hl : l < L := by have : l + 1 ≤ L := by simpa [Nat.ble_eq] using hlL
                            omega
      simp [AV.conc, he l hl]
    have hu := und_sl (htt _ _ ht) rfl W
    obtain ⟨te, hte, hsz⟩ := Option.map_eq_some_iff.1 hs
    have e2 := (htt _ _ hte).run_size W
    rw [hsz] at e2
    subst hj
    have h0 : ¬ ((jn : Int) < 0 ∨ (m : Int) ≤ jn) := by omega
    simp only [execOp, (g.eval x _ hx).2, (g.eval y _ hy).2, AV.conc, hr, Option.map_some, Option.getD_some]
    simp [Instr.indexAt, asIntOf, hu, e2, h0, Nat.add_mul, addr_add0, hlt]) hg hb k
/-- a load out of such rows -/
theorem R.ldr1 (htt : TTok P tt) {t : TypeId} {x : Operand} {l off j c w0 n0 : Nat} {f : Nat → List AV} {ti : TI} {v : AV} (i : Nat) (hx : evA τ x = some (.ptr l 1 j c)) (hl : hk l h = some (.ro 1 off n0 (rowsF w0 f))) (ht : lk t tt = some ti) (hv : takeA ti (f i) c = some v)
    (hg : wantA ops ⟨some d, .load t x, ty, ps, af, gd⟩ τ = some true) (hb : (Nat.ble (d + 1) n && lookB D [l] && Nat.ble (l + 1) L) = true) (hj : j = off + i * w0) (hw : (f i).length = w0) (hpos : 0 < w0) (hi : i * w0 + w0 ≤ n0)
    (k : R P ops Q (lookD D [l]) E n L ((d, v) :: τ) h F rest) : R P ops Q D E n L τ h F (⟨some d, .load t x, ty, ps, af, gd⟩ :: rest) :=
  R.looks l _ (fun ρ a w g => by
    subst hj
    obtain ⟨b, cur, T, fr, hr, hbk, hcur⟩ := ro_cell (g.hp _ _ hl).2.2 (i := i * w0) (by omega)
    have hcell : ∀ c x, (f i)[c]? = some x → cur[off + i * w0 + c]? = some (x.conc ρ) := fun c x hcx => by
      have hc : c < w0 := by rw [← hw]; exact (List.getElem?_eq_some_iff.1 hcx).1
      obtain ⟨b2, cur2, T2, fr2, hr2, hbk2, hcur2⟩ := ro_cell (g.hp _ _ hl).2.2 (i := i * w0 + c) (by omega)
      rw [hr] at hr2
      cases hr2
      rw [hbk] at hbk2
      cases hbk2
      have := hcur2 0 x (by rw [rowsF_get hc hcx]; rfl)
      rw [← this]
      congr 1
      omega
    have hlow : LowS ρ L (f i) := fun x hx => by
      obtain ⟨c, hc⟩ := List.getElem?_of_mem hx
      have hc' : c < w0 := by rw [← hw]; exact (List.getElem?_eq_some_iff.1 hc).1
      exact ro_low g hl (i := i * w0 + c) (by omega) x (by rw [rowsF_get hc' hc]; simp)
    refine ⟨takeA_low hv hlow, by rw [hr]; simp, fun W hW => ?_⟩
    simp only [execOp, (g.eval x _ hx).2, AV.conc, hr, Option.getD_some, Instr.loadAt, Instr.sureAddr, Sem.run_bind, Sem.run_pure, Result.andThen_ok]
    rw [Nat.mul_one, takeA_run (htt _ _ ht) hv ((hW b hr).trans hbk) hcell]
    rfl) hg hb k
end
section
variable {E : Base} {n L : Nat} {τ : List (Nat × AV)} {h : List (Nat × AO)} {F : World → Prop}
theorem SrcA.robo {l o c : Nat} {p : List UInt8} (hl : hk l h = some (.ro 1 o p.length (bytesF p))) : SrcA E n L τ h F (.sl l 1 o p.length c) p.length (avB p) := by
  have := SrcA.rob (E := E) (n := n) (L := L) (τ := τ) (F := F) (c := c) (off := 0) (m := p.length) hl (by omega)
  simpa using this
end
end Go.Proofs.Yteabncomclgncaa
