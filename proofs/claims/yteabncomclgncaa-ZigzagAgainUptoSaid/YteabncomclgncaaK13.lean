/- The kernel, 13: steps with a condition: places in slices, what lies there, parts, quotients, shifts. No program in sight. -/
import Derived.Test.YteabncomclgncaaK12
namespace Go.Proofs.Yteabncomclgncaa
set_option linter.unusedVariables false
set_option linter.unusedSimpArgs false
set_option linter.unusedSectionVars false
open Go.RowKit

section
variable {P : Program} {ops : Array Oper} {Q : Exit → Act → World → Prop} {D : Option DD} {E : Base} {n L : Nat} {τ : List (Nat × AV)} {h : List (Nat × AO)} {F : World → Prop} {rest : List Oper}
  {d : Nat} {op : Op} {ty : TypeId} {ps : String} {af : Array Edge} {gd : Option (Nat × Bool)} {tt : List (Nat × TI)}
/-- what gives a value of its operands alone -/
theorem R.pure {op : Op} (v : AV) (hv : ∀ ρ a w, Gam E ρ n L τ h F a w → v.Low ρ L ∧ ∀ x : World, (execOp a.eval ⟨some d, op, ty, ps, af, gd⟩).run P x = .ok (.value (v.conc ρ)) x)
    (hg : wantA ops ⟨some d, op, ty, ps, af, gd⟩ τ = some true) (hb : (Nat.ble (d + 1) n && lookB D []) = true) (k : R P ops Q (lookD D []) E n L ((d, v) :: τ) h F rest) : R P ops Q D E n L τ h F (⟨some d, op, ty, ps, af, gd⟩ :: rest) := by
  simp only [Bool.and_eq_true] at hb
  exact ⟨RL.looks [] hg hb.1 hb.2 (fun l hl => by cases hl) v (fun ρ a w g => ⟨(hv ρ a w g).1, fun l hl => (by cases hl), fun x _ => (hv ρ a w g).2 x⟩) k.out⟩
theorem R.looks {op : Op} (l : Nat) (v : AV) (hv : ∀ ρ a w, Gam E ρ n L τ h F a w → v.Low ρ L ∧ ρ l ≠ none ∧ ∀ x : World, (∀ b, ρ l = some b → x.heap[b]? = w.heap[b]?) → (execOp a.eval ⟨some d, op, ty, ps, af, gd⟩).run P x = .ok (.value (v.conc ρ)) x)
    (hg : wantA ops ⟨some d, op, ty, ps, af, gd⟩ τ = some true) (hb : (Nat.ble (d + 1) n && lookB D [l] && Nat.ble (l + 1) L) = true) (k : R P ops Q (lookD D [l]) E n L ((d, v) :: τ) h F rest) : R P ops Q D E n L τ h F (⟨some d, op, ty, ps, af, gd⟩ :: rest) := by
  simp only [Bool.and_eq_true] at hb
  have hl : l + 1 ≤ L := by simpa [Nat.ble_eq] using hb.2
  exact ⟨RL.looks [l] hg hb.1.1 hb.1.2 (fun l' hl' => by simp at hl'; omega) v (fun ρ a w g => by
    obtain ⟨h1, h2, h3⟩ := hv ρ a w g
    exact ⟨h1, fun l' hl' => by simp at hl'; subst hl'; exact h2, fun x hx => h3 x fun b hb => hx l (by simp) b hb⟩) k.out⟩
/-- is there a block behind a place? -/
def hasAt (h : List (Nat × AO)) (l i : Nat) : Prop := match hk l h with
  | some (.cells _ _) => True
  | some (.bytes p _ _) => i < p.length
  | some (.tab _ m _ _ _) => i < m
  | some (.ro _ off m _) => off ≤ i ∧ i < off + m
  | _ => False
theorem Gam.someAt {ρ : Env} {a : Act} {w : World} (g : Gam E ρ n L τ h F a w) {l i : Nat} (hi : hasAt h l i) : ∃ b, ρ l = some b := by
  unfold hasAt at hi
  split at hi
  · rename_i xs T hl; obtain ⟨b, hr, _⟩ := (g.hp _ _ hl).2.2; exact ⟨b, hr⟩
  · rename_i p c T hl
    have := (g.hp _ _ hl).2.2
    rcases this.2 with ⟨_, hc⟩ | ⟨b, cur, hr, _⟩
    · have := this.1; omega
    · exact ⟨b, hr⟩
  · rename_i wd m c f T hl
    have := (g.hp _ _ hl).2.2
    rcases this.2.2 with ⟨_, hc⟩ | ⟨b, cur, hr, _⟩
    · have := this.1; omega
    · exact ⟨b, hr⟩
  · rename_i wd off m f hl
    rcases (g.hp _ _ hl).2.2 with ⟨_, hc⟩ | ⟨b, cur, ty, fr, hr, _⟩
    · omega
    · exact ⟨b, hr⟩
  · exact hi.elim
theorem Gam.slLow {ρ : Env} {a : Act} {w : World} (g : Gam E ρ n L τ h F a w) {x : Operand} {l w0 off m cap : Nat} (hx : evA τ x = some (.sl l w0 off m cap)) : ∀ ρ' : Env, (∀ l, l < L → ρ' l = ρ l) → (ρ' l).map (fun b => (⟨b, off * w0, none⟩ : Addr)) = (ρ l).map fun b => ⟨b, off * w0, none⟩ := fun ρ' he => by
  have := (g.eval x _ hx).1 ρ' he
  simpa [AV.conc] using this
/-- &x[j] -/
theorem R.ix (htt : TTok P tt) {t e : TypeId} {x y : Operand} {l w0 off m cap : Nat} {k0 : IntKind} {j : Int} {sz bt : Nat} {z : List Value} (jn : Nat) (hx : evA τ x = some (.sl l w0 off m cap)) (hy : evA τ y = some (.raw (.int k0 j))) (ht : lk t tt = some ⟨sz, bt, .sl e, z⟩) (hs : szA tt e = some w0)
    (hg : wantA ops ⟨some d, .indexAddr t x y, ty, ps, af, gd⟩ τ = some true) (hb : (Nat.ble (d + 1) n && lookB D []) = true) (hj : j = (jn : Int)) (hlt : jn < m) (hne : hasAt h l (off + jn)) (hlL : Nat.ble (l + 1) L = true)
    (k : R P ops Q (lookD D []) E n L ((d, .ptr l w0 (off + jn) 0) :: τ) h F rest) : R P ops Q D E n L τ h F (⟨some d, .indexAddr t x y, ty, ps, af, gd⟩ :: rest) :=
  R.pure _ (fun ρ a w g => by
    obtain ⟨b, hb⟩ := g.someAt hne
    have hlL' : l + 1 ≤ L := by simpa [Nat.ble_eq] using hlL
    refine ⟨fun ρ' he => by simp [AV.conc, he l (by omega)], fun W => ?_⟩
    have hu := und_sl (htt _ _ ht) rfl W
    obtain ⟨te, hte, hsz⟩ := Option.map_eq_some_iff.1 hs
    have hse := (htt _ _ hte).run_size W
    subst hj
    rw [hsz] at hse
    have h1 : (0 : Int) ≤ (jn : Int) ∧ (jn : Int) < (m : Int) := by omega
    have h2 : (jn : Int) < (m : Int) := h1.2
    simp only [execOp, (g.eval x _ hx).2, (g.eval y _ hy).2, AV.conc, hb, Option.map_some, Option.getD_some]
    simp only [Instr.indexAt, asIntOf, Sem.run_bind, Sem.run_pure, Result.andThen_ok, hu]
    rw [if_pos h1]
    simp [hse, addr_add0, Nat.add_mul]) hg hb k
/-- &x[j] of a list that lies elsewhere -/
theorem R.ixr (htt : TTok P tt) {t e : TypeId} {x y : Operand} {b o m cap : Nat} {k0 : IntKind} {j : Int} {sz bt w0 : Nat} {z : List Value} (jn : Nat) (hx : evA τ x = some (.raw (.slice (some ⟨b, o, none⟩) m cap))) (hy : evA τ y = some (.raw (.int k0 j))) (ht : lk t tt = some ⟨sz, bt, .sl e, z⟩) (hs : szA tt e = some w0)
    (hg : wantA ops ⟨some d, .indexAddr t x y, ty, ps, af, gd⟩ τ = some true) (hb : (Nat.ble (d + 1) n && lookB D []) = true) (hj : j = (jn : Int)) (hlt : jn < m)
    (k : R P ops Q (lookD D []) E n L ((d, .raw (.pointer (some ⟨b, o + jn * w0, none⟩))) :: τ) h F rest) : R P ops Q D E n L τ h F (⟨some d, .indexAddr t x y, ty, ps, af, gd⟩ :: rest) :=
  R.pure _ (fun ρ a w g => ⟨AV.Low.raw _ _ _, fun W => by
    have hu := und_sl (htt _ _ ht) rfl W
    obtain ⟨te, hte, hsz⟩ := Option.map_eq_some_iff.1 hs
    have hse := (htt _ _ hte).run_size W
    subst hj
    rw [hsz] at hse
    have h1 : (0 : Int) ≤ (jn : Int) ∧ (jn : Int) < (m : Int) := by omega
    simp only [execOp, (g.eval x _ hx).2, (g.eval y _ hy).2, AV.conc]
    simp only [Instr.indexAt, asIntOf, Sem.run_bind, Sem.run_pure, Result.andThen_ok, hu]
    rw [if_pos h1]
    simp [hse, addr_add0]⟩) hg hb k
theorem run_load_one {t : TypeId} {ti : TI} (hti : TIok P t ti) (hk : ti.kind.isAgg = false) {W : World} {b o : Nat} {cur : Array Value} {T : TypeId} {fr : Nat × Nat} {v : Value} (hb : W.heap[b]? = some (.cells cur T fr)) (hv : cur[o]? = some v) : (loadVar t ⟨b, o, none⟩).run P W = .ok v W := by
  have e1 := hti.run_isAgg W
  rw [hk] at e1
  have hc : W.cell? ⟨b, o, none⟩ = some v := by rw [cell_of_row W b o cur T fr hb, hv]
  simp [loadVar, e1, hc]
/-- a byte of a list -/
theorem R.ldb (htt : TTok P tt) {t T : TypeId} {x : Operand} {l i cap : Nat} {p : List UInt8} {ti : TI} (hx : evA τ x = some (.ptr l 1 i 0)) (hl : hk l h = some (.bytes p cap T)) (ht : lk t tt = some ti) (hk : ti.kind.isAgg = false)
    (hg : wantA ops ⟨some d, .load t x, ty, ps, af, gd⟩ τ = some true) (hb : (Nat.ble (d + 1) n && lookB D [l] && Nat.ble (l + 1) L) = true) (hi : i < p.length)
    (k : R P ops Q (lookD D [l]) E n L ((d, .raw (byteV (p.getD i 0))) :: τ) h F rest) : R P ops Q D E n L τ h F (⟨some d, .load t x, ty, ps, af, gd⟩ :: rest) :=
  R.looks l _ (fun ρ a w g => by
    have hh := (g.hp _ _ hl).2.2
    rcases hh.2 with ⟨_, hc⟩ | ⟨b, cur, hr, hbk, hsz, hcur⟩
    · have := hh.1; omega
    refine ⟨AV.Low.raw _ _ _, by rw [hr]; simp, fun W hW => ?_⟩
    have hcell : cur[i * 1 + 0]? = some (byteV (p.getD i 0)) := by
      have := hcur i hi
      simpa [List.getD, hi] using this
    simp only [execOp, (g.eval x _ hx).2, AV.conc, hr, Option.getD_some, Instr.loadAt, Instr.sureAddr, Sem.run_bind, Sem.run_pure, Result.andThen_ok]
    rw [run_load_one (htt _ _ ht) hk ((hW b hr).trans hbk) hcell]
    rfl) hg hb k
/-- what lies in a list's element -/
theorem tab_cell {ρ : Env} {wd n0 cap : Nat} {f : Nat → List AV} {T : TypeId} {r : Option Nat} {w : World} (hh : (AO.tab wd n0 cap f T).holds ρ r w) {i : Nat} (hi : i < n0) : ∃ b cur, r = some b ∧ w.heap[b]? = some (.cells cur T (0, 0)) ∧ (f i).length = wd ∧ i * wd + wd ≤ cur.size ∧ ∀ c x, (f i)[c]? = some x → cur[i * wd + c]? = some (x.conc ρ) := by
  rcases hh.2.2 with ⟨_, hc⟩ | ⟨b, cur, hr, hbk, hsz, hcur⟩
  · have := hh.1; omega
  · refine ⟨b, cur, hr, hbk, hh.2.1 i hi, ?_, fun c x hx => hcur i c x hi hx⟩
    rw [hsz]
    have := Nat.mul_le_mul_right wd (show i + 1 ≤ cap by have := hh.1; omega)
    rwa [Nat.add_mul, Nat.one_mul] at this
theorem tab_low {ρ : Env} {a : Act} {w : World} (g : Gam E ρ n L τ h F a w) {l wd n0 cap : Nat} {f : Nat → List AV} {T : TypeId} (hl : hk l h = some (.tab wd n0 cap f T)) {i : Nat} (hi : i < n0) : LowS ρ L (f i) := fun x hx ρ' he => by
  have hp := g.hp _ _ hl
  obtain ⟨b, cur, hr, hbk, hlen, hsz, hcur⟩ := tab_cell hp.2.2 hi
  have h2 := (hp.2.1 ρ' he _ _).1 hp.2.2
  obtain ⟨b', cur', hr', hbk', _, _, hcur'⟩ := tab_cell h2 hi
  rw [hr] at hr'
  cases hr'
  rw [hbk] at hbk'
  simp only [Option.some.injEq, Obj.cells.injEq, and_true] at hbk'
  subst hbk'
  obtain ⟨c, hc⟩ := List.getElem?_of_mem hx
  have h3 := hcur c x hc
  have h4 := hcur' c x hc
  rw [h3] at h4
  exact (Option.some.inj h4).symm
theorem run_load_some {t : TypeId} {ti : TI} (hti : TIok P t ti) {W : World} {b o : Nat} {cur : Array Value} {T : TypeId} {fr : Nat × Nat} (hb : W.heap[b]? = some (.cells cur T fr)) (xs : List Value) (hxs : ∀ c v, xs[c]? = some v → cur[o + c]? = some v) (v : Value)
    (hv : if ti.kind.isAgg then xs.length = ti.size ∧ v = .agg xs.toArray else xs[0]? = some v) : (loadVar t ⟨b, o, none⟩).run P W = .ok v W := by
  have e1 := hti.run_isAgg W
  have e2 := hti.run_size W
  cases hk : ti.kind.isAgg <;> rw [hk] at hv e1
  · simp only [Bool.false_eq_true, if_false] at hv
    have hc : W.cell? ⟨b, o, none⟩ = some v := by rw [cell_of_row W b o cur T fr hb]; exact hxs 0 v hv
    simp [loadVar, e1, hc]
  · simp only [if_true] at hv
    obtain ⟨h1, rfl⟩ := hv
    have := run_loadCells_list (P := P) W ⟨b, o, none⟩ xs (fun j u hj => by rw [addr_add0, cell_of_row W b (o + j) cur T fr hb]; exact hxs j u hj)
    rw [h1] at this
    simp [loadVar, e1, e2, this]
/-- a part of an element's cells, as a load gives it -/
def takeA (ti : TI) (xs : List AV) (c : Nat) : Option AV := match ti.kind.isAgg with
  | true => match Nat.ble (c + ti.size) xs.length with
    | true => some (.agg ((xs.drop c).take ti.size))
    | false => none
  | false => xs[c]?
theorem takeA_low {ρ : Env} {ti : TI} {xs : List AV} {c : Nat} {v : AV} (h : takeA ti xs c = some v) (hl : LowS ρ L xs) : v.Low ρ L := by
  unfold takeA at h
  split at h
  · split at h
    · cases h
      intro ρ' he
      simp only [AV.conc]
      rw [concs_low (fun x hx => hl x (List.mem_of_mem_drop (List.mem_of_mem_take hx))) ρ' he]
    · cases h
  · exact hl v (List.mem_of_getElem? h)
theorem takeA_run {ρ : Env} {t : TypeId} {ti : TI} (hti : TIok P t ti) {xs : List AV} {c o : Nat} {v : AV} (h : takeA ti xs c = some v) {W : World} {b : Nat} {cur : Array Value} {T : TypeId} {fr : Nat × Nat} (hb : W.heap[b]? = some (.cells cur T fr)) (hxs : ∀ j x, xs[j]? = some x → cur[o + j]? = some (x.conc ρ)) :
    (loadVar t ⟨b, o + c, none⟩).run P W = .ok (v.conc ρ) W := by
  unfold takeA at h
  split at h
  · rename_i hk
    split at h
    · rename_i hle
      cases h
      have hle' : c + ti.size ≤ xs.length := by simpa [Nat.ble_eq] using hle
      refine run_load_some hti hb (AV.concs ρ (xs.drop c |>.take ti.size)) (fun j u hj => ?_) _ ?_
      · rw [concs_map, List.getElem?_map] at hj
        obtain ⟨x, hx, rfl⟩ := Option.map_eq_some_iff.1 hj
        rw [List.getElem?_take] at hx
        split at hx
        · rw [List.getElem?_drop] at hx
          rw [Nat.add_assoc]; exact hxs _ x hx
        · cases hx
      · rw [hk]
        simp only [if_true]
        exact ⟨by rw [concs_length]; simp; omega, by simp [AV.conc]⟩
    · cases h
  · rename_i hk
    exact run_load_one hti (by simpa using hk) hb (hxs c v h)
/-- an element of a list, or a part of it -/
theorem R.ldt (htt : TTok P tt) {t T : TypeId} {x : Operand} {l wd i c n0 cap : Nat} {f : Nat → List AV} {ti : TI} {v : AV} (hx : evA τ x = some (.ptr l wd i c)) (hl : hk l h = some (.tab wd n0 cap f T)) (ht : lk t tt = some ti) (hv : takeA ti (f i) c = some v)
    (hg : wantA ops ⟨some d, .load t x, ty, ps, af, gd⟩ τ = some true) (hb : (Nat.ble (d + 1) n && lookB D [l] && Nat.ble (l + 1) L) = true) (hi : i < n0)
    (k : R P ops Q (lookD D [l]) E n L ((d, v) :: τ) h F rest) : R P ops Q D E n L τ h F (⟨some d, .load t x, ty, ps, af, gd⟩ :: rest) :=
  R.looks l _ (fun ρ a w g => by
    obtain ⟨b, cur, hr, hbk, hlen, hsz, hcur⟩ := tab_cell (g.hp _ _ hl).2.2 hi
    refine ⟨takeA_low hv (tab_low g hl hi), by rw [hr]; simp, fun W hW => ?_⟩
    simp only [execOp, (g.eval x _ hx).2, AV.conc, hr, Option.getD_some, Instr.loadAt, Instr.sureAddr, Sem.run_bind, Sem.run_pure, Result.andThen_ok]
    rw [takeA_run (htt _ _ ht) hv ((hW b hr).trans hbk) hcur]
    rfl) hg hb k
theorem ro_cell {ρ : Env} {wd off n0 : Nat} {f : Nat → List AV} {r : Option Nat} {w : World} (hh : (AO.ro wd off n0 f).holds ρ r w) {i : Nat} (hi : i < n0) : ∃ b cur T fr, r = some b ∧ w.heap[b]? = some (.cells cur T fr) ∧ ∀ c x, (f i)[c]? = some x → cur[(off + i) * wd + c]? = some (x.conc ρ) := by
  rcases hh with ⟨_, hc⟩ | ⟨b, cur, T, fr, hr, hbk, hcur⟩
  · omega
  · exact ⟨b, cur, T, fr, hr, hbk, fun c x hx => hcur i c x hi hx⟩
theorem ro_low {ρ : Env} {a : Act} {w : World} (g : Gam E ρ n L τ h F a w) {l wd off n0 : Nat} {f : Nat → List AV} (hl : hk l h = some (.ro wd off n0 f)) {i : Nat} (hi : i < n0) : LowS ρ L (f i) := fun x hx ρ' he => by
  have hp := g.hp _ _ hl
  obtain ⟨b, cur, T, fr, hr, hbk, hcur⟩ := ro_cell hp.2.2 hi
  have h2 := (hp.2.1 ρ' he _ _).1 hp.2.2
  obtain ⟨b', cur', T', fr', hr', hbk', hcur'⟩ := ro_cell h2 hi
  rw [hr] at hr'
  cases hr'
  rw [hbk] at hbk'
  simp only [Option.some.injEq, Obj.cells.injEq] at hbk'
  obtain ⟨rfl, _⟩ := hbk'
  obtain ⟨c, hc⟩ := List.getElem?_of_mem hx
  have h3 := hcur c x hc
  have h4 := hcur' c x hc
  rw [h3] at h4
  exact (Option.some.inj h4).symm
/-- an element of a list that is only read, or a part of it -/
theorem R.ldo (htt : TTok P tt) {t : TypeId} {x : Operand} {l wd off i c n0 : Nat} {f : Nat → List AV} {ti : TI} {v : AV} (hx : evA τ x = some (.ptr l wd (off + i) c)) (hl : hk l h = some (.ro wd off n0 f)) (ht : lk t tt = some ti) (hv : takeA ti (f i) c = some v)
    (hg : wantA ops ⟨some d, .load t x, ty, ps, af, gd⟩ τ = some true) (hb : (Nat.ble (d + 1) n && lookB D [l] && Nat.ble (l + 1) L) = true) (hi : i < n0)
    (k : R P ops Q (lookD D [l]) E n L ((d, v) :: τ) h F rest) : R P ops Q D E n L τ h F (⟨some d, .load t x, ty, ps, af, gd⟩ :: rest) :=
  R.looks l _ (fun ρ a w g => by
    obtain ⟨b, cur, T, fr, hr, hbk, hcur⟩ := ro_cell (g.hp _ _ hl).2.2 hi
    refine ⟨takeA_low hv (ro_low g hl hi), by rw [hr]; simp, fun W hW => ?_⟩
    simp only [execOp, (g.eval x _ hx).2, AV.conc, hr, Option.getD_some, Instr.loadAt, Instr.sureAddr, Sem.run_bind, Sem.run_pure, Result.andThen_ok]
    rw [takeA_run (htt _ _ ht) hv ((hW b hr).trans hbk) hcur]
    rfl) hg hb k
/-- x / y -/
theorem R.quo {t u : TypeId} {x y : Operand} {k0 : IntKind} {a0 b0 : Int} (v : Int) (hx : evA τ x = some (.raw (.int k0 a0))) (hy : evA τ y = some (.raw (.int k0 b0)))
    (hg : wantA ops ⟨some d, .binOp .quo t x y u, ty, ps, af, gd⟩ τ = some true) (hb : (Nat.ble (d + 1) n && lookB D []) = true) (h0 : b0 ≠ 0) (hv : k0.wrap (a0.tdiv b0) = v)
    (k : R P ops Q (lookD D []) E n L ((d, .raw (.int k0 v)) :: τ) h F rest) : R P ops Q D E n L τ h F (⟨some d, .binOp .quo t x y u, ty, ps, af, gd⟩ :: rest) :=
  R.pure _ (fun ρ a w g => ⟨AV.Low.raw _ _ _, fun W => by
    simp [execOp, (g.eval x _ hx).2, (g.eval y _ hy).2, AV.conc, eqGuard, binOp, Op.intDiv, h0, hv]⟩) hg hb k
theorem R.rem {t u : TypeId} {x y : Operand} {k0 : IntKind} {a0 b0 : Int} (v : Int) (hx : evA τ x = some (.raw (.int k0 a0))) (hy : evA τ y = some (.raw (.int k0 b0)))
    (hg : wantA ops ⟨some d, .binOp .rem t x y u, ty, ps, af, gd⟩ τ = some true) (hb : (Nat.ble (d + 1) n && lookB D []) = true) (h0 : b0 ≠ 0) (hv : a0.tmod b0 = v)
    (k : R P ops Q (lookD D []) E n L ((d, .raw (.int k0 v)) :: τ) h F rest) : R P ops Q D E n L τ h F (⟨some d, .binOp .rem t x y u, ty, ps, af, gd⟩ :: rest) :=
  R.pure _ (fun ρ a w g => ⟨AV.Low.raw _ _ _, fun W => by
    simp [execOp, (g.eval x _ hx).2, (g.eval y _ hy).2, AV.conc, eqGuard, binOp, Op.intDiv, h0, hv]⟩) hg hb k
/-- x << y, x >> y -/
theorem R.shl {t u : TypeId} {x y : Operand} {k0 k1 : IntKind} {a0 b0 : Int} (v : Int) (hx : evA τ x = some (.raw (.int k0 a0))) (hy : evA τ y = some (.raw (.int k1 b0)))
    (hg : wantA ops ⟨some d, .binOp .shl t x y u, ty, ps, af, gd⟩ τ = some true) (hb : (Nat.ble (d + 1) n && lookB D []) = true) (h0 : 0 ≤ b0) (hv : k0.wrap (a0 * 2 ^ (min b0.toNat k0.bits)) = v)
    (k : R P ops Q (lookD D []) E n L ((d, .raw (.int k0 v)) :: τ) h F rest) : R P ops Q D E n L τ h F (⟨some d, .binOp .shl t x y u, ty, ps, af, gd⟩ :: rest) :=
  R.pure _ (fun ρ a w g => ⟨AV.Low.raw _ _ _, fun W => by
    have : ¬ b0 < 0 := by omega
    simp [execOp, (g.eval x _ hx).2, (g.eval y _ hy).2, AV.conc, eqGuard, binOp, Op.shift, this, hv]⟩) hg hb k
theorem R.shr {t u : TypeId} {x y : Operand} {k0 k1 : IntKind} {a0 b0 : Int} (v : Int) (hx : evA τ x = some (.raw (.int k0 a0))) (hy : evA τ y = some (.raw (.int k1 b0)))
    (hg : wantA ops ⟨some d, .binOp .shr t x y u, ty, ps, af, gd⟩ τ = some true) (hb : (Nat.ble (d + 1) n && lookB D []) = true) (h0 : 0 ≤ b0) (hv : a0.fdiv (2 ^ (min b0.toNat k0.bits)) = v)
    (k : R P ops Q (lookD D []) E n L ((d, .raw (.int k0 v)) :: τ) h F rest) : R P ops Q D E n L τ h F (⟨some d, .binOp .shr t x y u, ty, ps, af, gd⟩ :: rest) :=
  R.pure _ (fun ρ a w g => ⟨AV.Low.raw _ _ _, fun W => by
    have : ¬ b0 < 0 := by omega
    simp [execOp, (g.eval x _ hx).2, (g.eval y _ hy).2, AV.conc, eqGuard, binOp, Op.shift, this, hv]⟩) hg hb k
/-- s[j] of a text -/
theorem R.sx (htt : TTok P tt) {t : TypeId} {x y : Operand} {k0 : IntKind} {s : ByteArray} {j : Int} {sz bt : Nat} {z : List Value} (jn : Nat) (hx : evA τ x = some (.raw (.string s))) (hy : evA τ y = some (.raw (.int k0 j))) (ht : lk t tt = some ⟨sz, bt, .str, z⟩)
    (hg : wantA ops ⟨some d, .index t x y, ty, ps, af, gd⟩ τ = some true) (hb : (Nat.ble (d + 1) n && lookB D []) = true) (hj : j = (jn : Int)) (hlt : jn < s.data.toList.length)
    (k : R P ops Q (lookD D []) E n L ((d, .raw (byteV (s.data.toList.getD jn 0))) :: τ) h F rest) : R P ops Q D E n L τ h F (⟨some d, .index t x y, ty, ps, af, gd⟩ :: rest) :=
  R.pure _ (fun ρ a w g => ⟨AV.Low.raw _ _ _, fun W => by
    have hu := und_str (htt _ _ ht) rfl W
    subst hj
    have h0 : jn < s.size := by show jn < s.data.size; rw [← Array.length_toList]; exact hlt
    have h1 : s[jn]? = some (s.data.toList.getD jn 0) := by
      rw [getElem?_pos s jn h0]
      congr 1
      show s.data[jn] = _
      rw [List.getD_eq_getElem?_getD, List.getElem?_eq_getElem hlt]
      rfl
    simp only [execOp, (g.eval x _ hx).2, (g.eval y _ hy).2, AV.conc]
    simp [Instr.index, asIntOf, hu, h1, byteV]⟩) hg hb k
end
end Go.Proofs.Yteabncomclgncaa
