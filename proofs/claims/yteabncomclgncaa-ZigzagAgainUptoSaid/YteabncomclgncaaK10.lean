/- The kernel, 10: labels named anew, less told; the beginning and the end of a call; loops. No program in sight. -/
import Derived.Test.YteabncomclgncaaK9
namespace Go.Proofs.Yteabncomclgncaa
set_option linter.unusedVariables false
set_option linter.unusedSimpArgs false
set_option linter.unusedSectionVars false
open Go.RowKit

mutual
/-- labels named anew -/
def AV.ren (r : Nat → Nat) : AV → AV
  | .raw v => .raw v
  | .ptr l w i c => .ptr (r l) w i c
  | .sl l w off n cap => .sl (r l) w off n cap
  | .agg xs => .agg (AV.rens r xs)
  | .tup xs => .tup (AV.rens r xs)
  | .fn f cs => .fn f (AV.rens r cs)
def AV.rens (r : Nat → Nat) : List AV → List AV
  | [] => []
  | x :: xs => x.ren r :: AV.rens r xs
end
theorem rens_map (r : Nat → Nat) (xs : List AV) : AV.rens r xs = xs.map (AV.ren r) := by
  induction xs with
  | nil => rfl
  | cons x xs ih => rw [AV.rens, ih]; rfl
mutual
theorem ren_conc (r : Nat → Nat) (ρ : Env) : (v : AV) → (v.ren r).conc ρ = v.conc (fun l => ρ (r l))
  | .raw v => rfl
  | .ptr l w i c => rfl
  | .sl l w off n cap => rfl
  | .agg xs => by simp only [AV.ren, AV.conc, rens_conc r ρ xs]
  | .tup xs => by simp only [AV.ren, AV.conc, rens_conc r ρ xs]
  | .fn f cs => by simp only [AV.ren, AV.conc, rens_conc r ρ cs]
theorem rens_conc (r : Nat → Nat) (ρ : Env) : (xs : List AV) → AV.concs ρ (AV.rens r xs) = AV.concs (fun l => ρ (r l)) xs
  | [] => rfl
  | x :: xs => by simp only [AV.rens, AV.concs, ren_conc r ρ x, rens_conc r ρ xs]
end
mutual
/-- all its labels lie below L -/
def AV.bd (L : Nat) : AV → Bool
  | .raw _ => true
  | .ptr l _ _ _ => Nat.ble (l + 1) L
  | .sl l _ _ _ _ => Nat.ble (l + 1) L
  | .agg xs => AV.bds L xs
  | .tup xs => AV.bds L xs
  | .fn _ cs => AV.bds L cs
def AV.bds (L : Nat) : List AV → Bool
  | [] => true
  | x :: xs => x.bd L && AV.bds L xs
end
mutual
theorem bd_low {L : Nat} : (v : AV) → v.bd L = true → ∀ ρ ρ' : Env, (∀ l, l < L → ρ' l = ρ l) → v.conc ρ' = v.conc ρ
  | .raw v, _, _, _, _ => rfl
  | .ptr l w i c, h, ρ, ρ', he => by
    have : l + 1 ≤ L := by simpa [AV.bd, Nat.ble_eq] using h
    simp [AV.conc, he l (by omega)]
  | .sl l w off n cap, h, ρ, ρ', he => by
    have : l + 1 ≤ L := by simpa [AV.bd, Nat.ble_eq] using h
    simp [AV.conc, he l (by omega)]
  | .agg xs, h, ρ, ρ', he => by simp only [AV.conc, bds_low xs h ρ ρ' he]
  | .tup xs, h, ρ, ρ', he => by simp only [AV.conc, bds_low xs h ρ ρ' he]
  | .fn f cs, h, ρ, ρ', he => by simp only [AV.conc, bds_low cs h ρ ρ' he]
theorem bds_low {L : Nat} : (xs : List AV) → AV.bds L xs = true → ∀ ρ ρ' : Env, (∀ l, l < L → ρ' l = ρ l) → AV.concs ρ' xs = AV.concs ρ xs
  | [], _, _, _, _ => rfl
  | x :: xs, h, ρ, ρ', he => by
    simp only [AV.bds, Bool.and_eq_true] at h
    simp only [AV.concs, bd_low x h.1 ρ ρ' he, bds_low xs h.2 ρ ρ' he]
end
theorem bdLow {L : Nat} {v : AV} (h : v.bd L = true) (ρ : Env) : v.Low ρ L := fun ρ' he => bd_low v h ρ ρ' he
theorem bds_all {L : Nat} {xs : List AV} (h : AV.bds L xs = true) : ∀ x ∈ xs, x.bd L = true := by
  induction xs with
  | nil => intro x hx; cases hx
  | cons y ys ih =>
    simp only [AV.bds, Bool.and_eq_true] at h
    intro x hx
    rcases List.mem_cons.1 hx with rfl | hx
    · exact h.1
    · exact ih h.2 x hx
def AO.ren (r : Nat → Nat) : AO → AO
  | .cells xs ty => .cells (AV.rens r xs) ty
  | .bytes p cap ty => .bytes p cap ty
  | .tab w n cap f ty => .tab w n cap (fun i => AV.rens r (f i)) ty
  | .ro w off n f => .ro w off n (fun i => AV.rens r (f i))
  | .gone => .gone
def AO.Bd (L : Nat) : AO → Prop
  | .cells xs _ => AV.bds L xs = true
  | .bytes _ _ _ => True
  | .tab _ n _ f _ => ∀ i, i < n → AV.bds L (f i) = true
  | .ro _ _ n f => ∀ i, i < n → AV.bds L (f i) = true
  | .gone => True
theorem AO.Bd.low {L : Nat} {o : AO} (h : o.Bd L) (ρ : Env) : o.Low ρ L := by
  cases o with
  | cells xs ty => exact AO.Low.cells ty fun x hx => bdLow (bds_all h x hx) ρ
  | bytes p cap ty => exact AO.Low.bytes ρ L p cap ty
  | tab w n cap f ty => exact AO.Low.tab ty fun i hi x hx => bdLow (bds_all (h i hi) x hx) ρ
  | ro w off n f => exact AO.Low.ro fun i hi x hx => bdLow (bds_all (h i hi) x hx) ρ
  | gone => exact fun _ _ _ _ => Iff.rfl
theorem ren_holds (r : Nat → Nat) (ρ : Env) (o : AO) (x : Option Nat) (w : World) : (o.ren r).holds ρ x w ↔ o.holds (fun l => ρ (r l)) x w := by
  cases o with
  | cells xs ty => simp only [AO.ren, AO.holds, rens_conc]
  | bytes p cap ty => exact Iff.rfl
  | tab wd n cap f ty =>
    have e : ∀ i c (x : AV), (AV.rens r (f i))[c]? = some x ↔ ∃ y : AV, (f i)[c]? = some y ∧ x = y.ren r := fun i c x => by
      rw [rens_map, List.getElem?_map]
      cases hx : (f i)[c]? with
      | none =>
        simp only [Option.map_none]
        refine ⟨fun h => (by cases h), ?_⟩
        rintro ⟨z, hz, _⟩
        rw [hx] at hz; cases hz
      | some y =>
        simp only [Option.map_some, Option.some.injEq]
        exact ⟨fun h => ⟨y, hx, h.symm⟩, fun ⟨z, hz, he⟩ => by rw [hx] at hz; cases hz; exact he.symm⟩
    simp only [AO.ren, AO.holds, e, rens_map, List.length_map]
    constructor
    · rintro ⟨h1, h2, h3⟩
      refine ⟨h1, h2, h3.imp id ?_⟩
      rintro ⟨b, cur, hr, hb, hs, hc⟩
      exact ⟨b, cur, hr, hb, hs, fun i c y hi hy => by rw [← ren_conc]; exact hc i c _ hi (by rw [← rens_map]; exact (e i c _).2 ⟨y, hy, rfl⟩)⟩
    · rintro ⟨h1, h2, h3⟩
      refine ⟨h1, h2, h3.imp id ?_⟩
      rintro ⟨b, cur, hr, hb, hs, hc⟩
      refine ⟨b, cur, hr, hb, hs, fun i c x hi hx => ?_⟩
      rw [← rens_map] at hx
      obtain ⟨y, hy, rfl⟩ := (e i c x).1 hx
      rw [ren_conc]; exact hc i c y hi hy
  | ro wd off n f =>
    have e : ∀ i c (x : AV), (AV.rens r (f i))[c]? = some x ↔ ∃ y : AV, (f i)[c]? = some y ∧ x = y.ren r := fun i c x => by
      rw [rens_map, List.getElem?_map]
      cases hx : (f i)[c]? with
      | none =>
        simp only [Option.map_none]
        refine ⟨fun h => (by cases h), ?_⟩
        rintro ⟨z, hz, _⟩
        rw [hx] at hz; cases hz
      | some y =>
        simp only [Option.map_some, Option.some.injEq]
        exact ⟨fun h => ⟨y, hx, h.symm⟩, fun ⟨z, hz, he⟩ => by rw [hx] at hz; cases hz; exact he.symm⟩
    simp only [AO.ren, AO.holds, e]
    constructor
    · intro h3
      refine h3.imp id ?_
      rintro ⟨b, cur, ty, fr, hr, hb, hc⟩
      exact ⟨b, cur, ty, fr, hr, hb, fun i c y hi hy => by rw [← ren_conc]; exact hc i c _ hi ⟨y, hy, rfl⟩⟩
    · intro h3
      refine h3.imp id ?_
      rintro ⟨b, cur, ty, fr, hr, hb, hc⟩
      refine ⟨b, cur, ty, fr, hr, hb, fun i c x hi hx => ?_⟩
      obtain ⟨y, hy, rfl⟩ := hx
      rw [ren_conc]; exact hc i c y hi hy
  | gone => exact Iff.rfl
/-- a slot of the poorer telling -/
def HasT (r : Nat → Nat) (L : Nat) (τ : List (Nat × AV)) : List (Nat × AV) → Prop
  | [] => True
  | (t, v) :: rest => ((∃ v', lk t τ = some v' ∧ v' = v.ren r) ∧ v.bd L = true) ∧ HasT r L τ rest
/-- what lies at a label in the poorer telling -/
def HasH (r : Nat → Nat) (L : Nat) (h : List (Nat × AO)) : List (Nat × AO) → Prop
  | [] => True
  | (l, o) :: rest => ((∃ o', hk (r l) h = some o' ∧ (o.isRo = false → o'.isRo = false) ∧ ∀ ρ x w, o'.holds ρ x w → (o.ren r).holds ρ x w) ∧ Nat.ble (l + 1) L = true ∧ o.Bd L) ∧ HasH r L h rest
def nodupB : List Nat → Bool
  | [] => true
  | x :: xs => !xs.elem x && nodupB xs
theorem nodupB_inj {r : Nat → Nat} {ls : List Nat} (h : nodupB (ls.map r) = true) : ∀ l l', l ∈ ls → l' ∈ ls → r l = r l' → l = l' := by
  induction ls with
  | nil => intro l l' hl; cases hl
  | cons x xs ih =>
    simp only [List.map_cons, nodupB, Bool.and_eq_true, Bool.not_eq_true'] at h
    have hx : ∀ y ∈ xs, r y ≠ r x := fun y hy e => by
      have := h.1
      rw [List.elem_iff.2 (e ▸ List.mem_map.2 ⟨y, hy, rfl⟩)] at this
      cases this
    intro l l' hl hl' e
    rcases List.mem_cons.1 hl with h1 | h1
    · rcases List.mem_cons.1 hl' with h2 | h2
      · rw [h1, h2]
      · subst h1; exact absurd e.symm (hx l' h2)
    · rcases List.mem_cons.1 hl' with h2 | h2
      · subst h2; exact absurd e (hx l h1)
      · exact ih h.2 l l' h1 h2 e
theorem lk_hasT {r : Nat → Nat} {L : Nat} {τ : List (Nat × AV)} : ∀ {τ2 : List (Nat × AV)}, HasT r L τ τ2 → ∀ t v, lk t τ2 = some v → lk t τ = some (v.ren r) ∧ v.bd L = true
  | [], _, t, v, h => by simp [lk] at h
  | (s, u) :: rest, hh, t, v, h => by
    rw [lk_cons] at h
    split at h
    · rename_i e
      subst e
      cases h
      obtain ⟨⟨⟨v', h1, h2⟩, h3⟩, _⟩ := hh
      exact ⟨by rw [h1, h2], h3⟩
    · exact lk_hasT hh.2 t v h
theorem hk_hasH {r : Nat → Nat} {L : Nat} {h : List (Nat × AO)} : ∀ {h2 : List (Nat × AO)}, HasH r L h h2 → ∀ l o, hk l h2 = some o → (∃ o', hk (r l) h = some o' ∧ (o.isRo = false → o'.isRo = false) ∧ ∀ ρ x w, o'.holds ρ x w → (o.ren r).holds ρ x w) ∧ l < L ∧ o.Bd L ∧ l ∈ h2.map (·.1)
  | [], _, l, o, hl => by simp [hk, lk] at hl
  | (s, u) :: rest, hh, l, o, hl => by
    rw [hk_cons] at hl
    split at hl
    · rename_i e
      subst e
      have e2 : o = u := by cases u <;> simp at hl <;> exact hl.symm
      subst e2
      obtain ⟨⟨h1, h2, h3⟩, _⟩ := hh
      exact ⟨h1, by have : s + 1 ≤ L := by simpa [Nat.ble_eq] using h2
                    omega, h3, by simp⟩
    · obtain ⟨h1, h2, h3, h4⟩ := hk_hasH hh.2 l o hl
      exact ⟨h1, h2, h3, by simp only [List.map_cons, List.mem_cons]; exact .inr h4⟩
section
variable {E : Base} {ρ : Env} {n L : Nat} {τ : List (Nat × AV)} {h : List (Nat × AO)} {F : World → Prop} {a : Act} {w : World}
/-- less told, labels named anew -/
theorem Gam.imp (g : Gam E ρ n L τ h F a w) (r : Nat → Nat) (L2 : Nat) (τ2 : List (Nat × AV)) (h2 : List (Nat × AO)) (F2 : World → Prop) (hr : ∀ l, l < E.N → r l = l) (hrL : ∀ l, l < L2 → r l < L) (hN : E.N ≤ L2) (ht : HasT r L2 τ τ2) (hh : HasH r L2 h h2) (hnd : nodupB ((h2.map (·.1)).map r) = true)
    (hF2 : ∀ w, F w → F2 w) : Gam E (fun l => ρ (r l)) n L2 τ2 h2 F2 a w := by
  have live : ∀ l, hk l h2 ≠ none → hk (r l) h ≠ none ∧ l ∈ h2.map (·.1) := fun l hl => by
    cases ho : hk l h2 with
    | none => exact absurd ho hl
    | some o =>
      obtain ⟨⟨o', h1, _⟩, _, _, h4⟩ := hk_hasH hh l o ho
      exact ⟨by rw [h1]; simp, h4⟩
  have wr : ∀ l, wrA l h2 → wrA (r l) h := fun l hl => by
    obtain ⟨o, ho, hro⟩ := hl
    obtain ⟨⟨o', h1, h3, _⟩, _⟩ := hk_hasH hh l o ho
    exact ⟨o', h1, h3 hro⟩
  refine ⟨g.df, g.sz, fun t v hv => ?_, fun l o ho => ?_, fun l l' b hl hl' hb hb' => ?_, fun w' hw => ?_, fun l hl => ?_, hN, fun l b hl hb => g.al (r l) b (hrL l hl) hb⟩
  · obtain ⟨h1, h2'⟩ := lk_hasT ht t v hv
    have := g.tm t _ h1
    exact ⟨bdLow h2' _, by rw [this.2, ren_conc]⟩
  · obtain ⟨⟨o', h1, _, h2'⟩, h3, h4, _⟩ := hk_hasH hh l o ho
    have := g.hp (r l) o' h1
    exact ⟨h3, h4.low _, (ren_holds r ρ o _ w).1 (h2' _ _ _ this.2.2)⟩
  · have h1 := live l hl.live
    have h2' := live l' hl'
    exact nodupB_inj hnd l l' h1.2 h2'.2 (g.dis _ _ b (wr l hl) h2'.1 hb hb')
  · exact hF2 _ (g.fr w' (hw.mono fun b _ hd l hl hb => hd (r l) (wr l hl) hb))
  · simp only [hr l hl]; exact g.ex l hl
end

/-! the beginning and the end of a call -/
/-- blocks that a call may write -/
def Wr0 (h0 : List AO) (ρ : Env) (b : Nat) : Prop := ∃ i o, h0[i]? = some o ∧ o.isRo = false ∧ ρ i = some b
/-- what a call comes to: h0 is what came in, at the labels 0, 1 ..; G: what is known of s -/
def Outc {σ : Type} (h0 : List AO) (m : Nat) (ρ : Env) (w : World) (G : σ → Prop) (val : σ → AV) (post : σ → List (Nat × AO)) (e : Ending) (w' : World) : Prop :=
  ∃ s ρ', G s ∧ (∀ i, i < h0.length → ρ' i = ρ i) ∧ e = .returned ((val s).conc ρ') ∧ (val s).Low ρ' m ∧ Ag (fun b => ¬ Wr0 h0 ρ b) w w' ∧
    (∀ l o, hk l (post s) = some o → l < m ∧ o.Low ρ' m ∧ o.holds ρ' (ρ' l) w') ∧ (∀ l l' b, wrA l (post s) → hk l' (post s) ≠ none → ρ' l = some b → ρ' l' = some b → l = l') ∧
    (∀ l b, l < m → ρ' l = some b → b < w'.heap.size) ∧ (∀ l b, h0.length ≤ l → hk l (post s) ≠ none → ρ' l = some b → w.heap.size ≤ b ∨ Wr0 h0 ρ b) ∧ (∀ i o, i < h0.length → hk i (post s) = some o → o.isRo = false → ∃ o0, h0[i]? = some o0 ∧ o0.isRo = false)
/-- the results -/
def resA (tt : List (Nat × TI)) (h : List (Nat × AO)) (τ : List (Nat × AV)) : List ResultVar → Option (List AV)
  | [] => some []
  | .tmp t :: r => match lk t τ, resA tt h τ r with
    | some v, some l => some (v :: l)
    | _, _ => none
  | .cell a t :: r => match act tt (fun l => hk l h) (evA τ) (.load t (.tmp a)), resA tt h τ r with
    | some v, some l => some (v :: l)
    | _, _ => none
def resV : List AV → AV
  | [v] => v
  | l => .tup l
section
variable {P : Program} {Q : Exit → Act → World → Prop} {E : Base} {n L : Nat} {τ : List (Nat × AV)} {h : List (Nat × AO)} {F : World → Prop}
def resStep (tmps : Array Value) : ResultVar → Sem Value
  | .tmp t => pure (tmps.getD t undef)
  | .cell a t => do loadVar t (← asAddr (tmps.getD a undef))
theorem results_eq (fn : Func) (tmps : Array Value) : results fn tmps = (do
    let vs ← fn.results.mapM (resStep tmps)
    pure (if h : vs.size = 1 then vs[0] else .tuple vs)) := by
  unfold results
  have : (fun x : ResultVar => match x with | .tmp t => (pure (tmps.getD t undef) : Sem Value) | .cell a t => do loadVar t (← asAddr (tmps.getD a undef))) = resStep tmps := by
    funext x; cases x <;> rfl
  rw [← this]
  rfl
theorem run_resA {tt : List (Nat × TI)} (htt : TTok P tt) {ρ : Env} {a : Act} {w : World} (g : Gam E ρ n L τ h F a w) : ∀ (rs : List ResultVar) (vs : List AV), resA tt h τ rs = some vs →
    (rs.mapM (resStep a.tmps)).run P w = .ok (AV.concs ρ vs) w := by
  intro rs
  induction rs with
  | nil => intro vs h; cases h; rfl
  | cons x r ih =>
    intro vs h0
    cases x with
    | tmp t =>
      simp only [resA] at h0
      split at h0
      · rename_i v l h1 h2
        cases h0
        have := (g.tm t v h1).2
        rw [List.mapM_cons]
        simp [ih l h2, this, AV.concs, resStep]
      · cases h0
    | cell c t =>
      simp only [resA] at h0
      split at h0
      · rename_i v l h1 h2
        cases h0
        have h3 := act_load htt (hl := fun l => hk l _) g.holds (evB g) t (.tmp c) v h1
        rw [List.mapM_cons]
        obtain ⟨ad, h4⟩ : ∃ ad, a.tmps.getD c undef = .pointer (some ad) := by
          simp only [act] at h1
          split at h1
          · rename_i l' wd i cc ti h5 h6
            exact ⟨_, (g.eval (.tmp c) _ h5).2⟩
          · cases h1
        simp only [Instr.loadAt, Sem.run_bind, Act.eval, h4, Instr.sureAddr, Sem.run_pure, Result.andThen_ok] at h3
        simp only [resStep, h4, asAddr, Sem.run_bind, Sem.run_pure, Result.andThen_ok, h3, ih l h2, AV.concs]
      · cases h0
theorem run_results {tt : List (Nat × TI)} (htt : TTok P tt) {ρ : Env} {a : Act} {w : World} (g : Gam E ρ n L τ h F a w) {fn : Func} {vs : List AV} (hr : resA tt h τ fn.results.toList = some vs) : (results fn a.tmps).run P w = .ok ((resV vs).conc ρ) w := by
  have h1 := run_resA htt g _ _ hr
  have h2 : (fn.results.mapM (resStep a.tmps)).run P w = .ok (AV.concs ρ vs).toArray w := by
    rw [Array.mapM_eq_mapM_toList, ← bind_pure_comp]
    simp only [Sem.run_bind, h1, Result.andThen_ok, Sem.run_pure]
  rw [results_eq]
  simp only [Sem.run_bind, h2, Result.andThen_ok, Sem.run_pure]
  congr 1
  match vs with
  | [] => rfl
  | [v] => rfl
  | v :: u :: vs => rfl
/-- the end of a call -/
theorem EX.ret {tt : List (Nat × TI)} (htt : TTok P tt) {fn : Func} {R : Ending → World → Prop} {vs : List AV} (hr : resA tt h τ fn.results.toList = some vs) (k : ∀ ρ a w, Gam E ρ n L τ h F a w → R (.returned ((resV vs).conc ρ)) w) (hd : E.df = [] := by rfl) : EX (bodyPost P fn R) .ret E n L τ h F :=
  fun ρ a w g => ⟨g.df.trans hd, _, run_results htt g hr, k ρ a w g⟩
theorem EX.end_ {tt : List (Nat × TI)} (htt : TTok P tt) {fn : Func} {R : Ending → World → Prop} {vs : List AV} (hr : resA tt h τ fn.results.toList = some vs) (k : ∀ ρ a w, Gam E ρ n L τ h F a w → R (.returned ((resV vs).conc ρ)) w) (hd : E.df = [] := by rfl) : EX (bodyPost P fn R) .normal E n L τ h F :=
  fun ρ a w g => ⟨g.df.trans hd, _, run_results htt g hr, k ρ a w g⟩
/-- a state's telling is what a call comes to -/
theorem Gam.outc {σ : Type} {h0 : List AO} {ρ0 : Env} {w0 : World} {ρ : Env} {a : Act} {w : World} (g : Gam ⟨h0.length, ρ0, []⟩ ρ n L τ h F a w) (hF : ∀ w', F w' → Ag (fun b => ¬ Wr0 h0 ρ0 b) w0 w') {G : σ → Prop} {val : σ → AV} {post : σ → List (Nat × AO)} {m : Nat} {v : AV}
    (s : σ) (r : Nat → Nat) (hG : G s) (hv : v = (val s).ren r) (hb : (val s).bd m = true) (hm : h0.length ≤ m) (hr : ∀ l, l < h0.length → r l = l) (hrL : ∀ l, l < m → r l < L) (hh : HasH r m h (post s)) (hnd : nodupB (((post s).map (·.1)).map r) = true)
    (hnew : ∀ l b, h0.length ≤ l → hk l (post s) ≠ none → ρ (r l) = some b → w0.heap.size ≤ b ∨ Wr0 h0 ρ0 b) (hold : ∀ i o, i < h0.length → hk i (post s) = some o → o.isRo = false → ∃ o0, h0[i]? = some o0 ∧ o0.isRo = false) : Outc h0 m ρ0 w0 G val post (.returned (v.conc ρ)) w := by
  have g2 := g.imp r m [] (post s) F hr hrL hm trivial hh hnd (fun _ h => h)
  exact ⟨s, fun l => ρ (r l), hG, fun i hi => g2.ex i hi, by rw [hv, ren_conc], bdLow hb _, hF w (g.fr w (Ag.refl _ _)), g2.hp, g2.dis, fun l b h1 h3 => g.al (r l) b (hrL l h1) h3, hnew, hold⟩
/-- a number of values as slots -/
def slots (k : Nat) : List AV → List (Nat × AV)
  | [] => []
  | v :: l => (k, v) :: slots (k + 1) l
def labels (k : Nat) : List AO → List (Nat × AO)
  | [] => []
  | v :: l => (k, v) :: labels (k + 1) l
theorem lk_slots (vs : List AV) : ∀ k t v, lk t (slots k vs) = some v → k ≤ t ∧ vs[t - k]? = some v := by
  induction vs with
  | nil => intro k t v h; simp [slots, lk] at h
  | cons u us ih =>
    intro k t v h
    simp only [slots, lk_cons] at h
    split at h
    · rename_i e; subst e; cases h; simp
    · have := ih (k + 1) t v h
      refine ⟨by omega, ?_⟩
      rw [show t - k = (t - (k + 1)) + 1 by omega]
      simpa using this.2
theorem hk_labels (os : List AO) : ∀ k l o, hk l (labels k os) = some o → k ≤ l ∧ os[l - k]? = some o := by
  induction os with
  | nil => intro k t v h; simp [labels, hk, lk] at h
  | cons u us ih =>
    intro k t v h
    simp only [labels, hk_cons] at h
    split at h
    · rename_i e
      subst e
      have e2 : v = u := by cases u <;> simp at h <;> exact h.symm
      subst e2
      simp
    · have := ih (k + 1) t v h
      refine ⟨by omega, ?_⟩
      rw [show t - k = (t - (k + 1)) + 1 by omega]
      simpa using this.2
/-- the beginning of a call -/
theorem CL.enter {f : FuncId} {fn : Func} {c : Code} (hf : P.funcs[f]? = some fn) (hb : fn.body = some c) (ρ : Env) (avs : List AV) (h0 : List AO) (w : World) (R : Ending → World → Prop) (n : Nat) (hn : fn.ntmps = n) (hlen : Nat.ble avs.length n = true) (hbd : AV.bds h0.length avs = true)
    (hbo : ∀ o ∈ h0, o.Bd h0.length) (hh : ∀ (i : Nat) (o : AO), h0[i]? = some o → o.holds ρ (ρ i) w) (hdis : ∀ i j o b, h0[i]? = some o → o.isRo = false → j < h0.length → ρ i = some b → ρ j = some b → i = j) (hal : ∀ i b, i < h0.length → ρ i = some b → b < w.heap.size)
    (k : CL P c (bodyPost P fn R) ⟨h0.length, ρ, []⟩ n h0.length (slots 0 avs) (labels 0 h0) (fun w' => Ag (fun b => ¬ Wr0 h0 ρ b) w w')) : Calls P f (AV.concs ρ avs).toArray w R := by
  have hlen' : avs.length ≤ n := by simpa [Nat.ble_eq] using hlen
  refine calls_of_wp hf hb (k ρ _ w ⟨rfl, by simp [hn, concs_length]; omega, fun t v hv => ?_, fun l o ho => ?_, fun l l' b hl hl' hb1 hb2 => ?_, fun w' hw => ?_, fun _ _ => rfl, Nat.le_refl _, hal⟩)
  · have := (lk_slots avs 0 t v hv).2
    rw [Nat.sub_zero] at this
    refine ⟨bdLow (bds_all hbd v (List.mem_of_getElem? this)) ρ, ?_⟩
    have hlt : t < avs.length := (List.getElem?_eq_some_iff.1 this).1
    simp only [Array.getElem?_append, List.size_toArray, concs_length, hlt, if_true]
    simpa using concs_get this
  · have := (hk_labels h0 0 l o ho).2
    rw [Nat.sub_zero] at this
    exact ⟨(List.getElem?_eq_some_iff.1 this).1, (hbo o (List.mem_of_getElem? this)).low ρ, hh l o this⟩
  · have e : ∀ l, hk l (labels 0 h0) ≠ none → l < h0.length := fun l hl => by
      cases ho : hk l (labels 0 h0) with
      | none => exact absurd ho hl
      | some o =>
        have := (hk_labels h0 0 l o ho).2
        rw [Nat.sub_zero] at this
        exact (List.getElem?_eq_some_iff.1 this).1
    obtain ⟨o, ho, hro⟩ := hl
    have := (hk_labels h0 0 l o ho).2
    rw [Nat.sub_zero] at this
    exact hdis l l' o b this hro (e l' hl') hb1 hb2
  · refine hw.mono fun b _ hd l hl hb => hd ?_
    obtain ⟨o, ho, hro⟩ := hl
    have := (hk_labels h0 0 l o ho).2
    rw [Nat.sub_zero] at this
    exact ⟨l, o, this, hro, hb⟩
end
end Go.Proofs.Yteabncomclgncaa
