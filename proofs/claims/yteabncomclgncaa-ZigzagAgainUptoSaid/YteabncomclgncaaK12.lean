/- The kernel, 12: calls. No program in sight. -/
import Derived.Test.YteabncomclgncaaK11
namespace Go.Proofs.Yteabncomclgncaa
set_option linter.unusedVariables false
set_option linter.unusedSimpArgs false
set_option linter.unusedSectionVars false
open Go.RowKit

/-- a callee's labels in the caller's: those that came in, then new ones from L on -/
def renF (ms : List Nat) (L : Nat) (i : Nat) : Nat := match ms[i]? with
  | some m => m
  | none => L + (i - ms.length)
def renH (r : Nat → Nat) : List (Nat × AO) → List (Nat × AO)
  | [] => []
  | (l, o) :: rest => (r l, o.ren r) :: renH r rest
/-- labels that a call may write: gone, unless they are told anew -/
def goneL : List AO → List Nat → List (Nat × AO)
  | o :: os, m :: ms => match o.isRo with
    | true => goneL os ms
    | false => (m, .gone) :: goneL os ms
  | _, _ => []
/-- what may be written comes in once -/
def onceB (h0 : List AO) (ms : List Nat) : Bool := (List.range h0.length).all fun i => match h0[i]? with
  | some o => o.isRo || (List.range h0.length).all fun j => Nat.beq i j || !Nat.beq (ms.getD i 0) (ms.getD j 0)
  | none => true
theorem ren_isRo (r : Nat → Nat) (o : AO) : (o.ren r).isRo = o.isRo := by cases o <;> rfl
theorem hk_append (l : Nat) (a b : List (Nat × AO)) : hk l (a ++ b) = if l ∈ a.map (·.1) then hk l a else hk l b := by
  induction a with
  | nil => simp
  | cons p a ih =>
    obtain ⟨s, o⟩ := p
    simp only [List.cons_append, hk_cons, List.map_cons, List.mem_cons]
    by_cases h : s = l
    · simp [h]
    · have h' : ¬ l = s := fun e => h e.symm
      rw [if_neg h, if_neg h, ih]
      by_cases hm : l ∈ a.map (·.1)
      · rw [if_pos hm, if_pos (.inr hm)]
      · rw [if_neg hm, if_neg (fun e => e.elim h' hm)]
theorem hk_mem {l : Nat} {h : List (Nat × AO)} {o : AO} (hl : hk l h = some o) : l ∈ h.map (·.1) := by
  induction h with
  | nil => simp [hk, lk] at hl
  | cons p a ih =>
    obtain ⟨s, u⟩ := p
    rw [hk_cons] at hl
    split at hl
    · rename_i e; simp [e]
    · simp [ih hl]
theorem hk_renH {r : Nat → Nat} {post : List (Nat × AO)} (hinj : ∀ i j, i ∈ post.map (·.1) → j ∈ post.map (·.1) → r i = r j → i = j) (i : Nat) (hi : i ∈ post.map (·.1)) : hk (r i) (renH r post) = (hk i post).map (AO.ren r) := by
  induction post with
  | nil => simp at hi
  | cons p a ih =>
    obtain ⟨s, u⟩ := p
    simp only [renH, hk_cons]
    by_cases h : s = i
    · subst h
      simp only [if_true]
      cases u <;> rfl
    · have hne : ¬ r s = r i := fun e => h (hinj s i (by simp) hi e)
      rw [if_neg hne, if_neg h]
      refine ih (fun i j hi hj => hinj i j (by simp only [List.map_cons, List.mem_cons]; exact .inr hi) (by simp only [List.map_cons, List.mem_cons]; exact .inr hj)) ?_
      simp only [List.map_cons, List.mem_cons] at hi
      exact hi.resolve_left (Ne.symm h)
theorem renH_mem {r : Nat → Nat} {post : List (Nat × AO)} {l : Nat} : l ∈ (renH r post).map (·.1) ↔ ∃ i, i ∈ post.map (·.1) ∧ r i = l := by
  induction post with
  | nil => simp [renH]
  | cons p a ih =>
    obtain ⟨s, u⟩ := p
    simp only [renH, List.map_cons, List.mem_cons, ih]
    constructor
    · rintro (h | ⟨i, h1, h2⟩)
      · exact ⟨s, .inl rfl, h.symm⟩
      · exact ⟨i, .inr h1, h2⟩
    · rintro ⟨i, h1 | h1, h2⟩
      · subst h1; exact .inl h2.symm
      · exact .inr ⟨i, h1, h2⟩
theorem goneL_mem {l : Nat} : ∀ {h0 : List AO} {ms : List Nat}, h0.length = ms.length → (l ∈ (goneL h0 ms).map (·.1) ↔ ∃ (i : Nat) (o : AO), h0[i]? = some o ∧ o.isRo = false ∧ ms[i]? = some l)
  | [], [], _ => by simp [goneL]
  | o :: os, m :: ms, h => by
    have ih := goneL_mem (l := l) (h0 := os) (ms := ms) (by simpa using h)
    simp only [goneL]
    cases hr : o.isRo
    · simp only [List.map_cons, List.mem_cons, ih]
      constructor
      · rintro (h | ⟨i, u, h1, h2, h3⟩)
        · exact ⟨0, o, rfl, hr, by simp [h]⟩
        · exact ⟨i + 1, u, h1, h2, h3⟩
      · rintro ⟨i, u, h1, h2, h3⟩
        cases i with
        | zero => left; simpa using h3.symm
        | succ i => right; exact ⟨i, u, h1, h2, h3⟩
    · simp only [ih]
      constructor
      · rintro ⟨i, u, h1, h2, h3⟩; exact ⟨i + 1, u, h1, h2, h3⟩
      · rintro ⟨i, u, h1, h2, h3⟩
        cases i with
        | zero => simp only [List.getElem?_cons_zero, Option.some.injEq] at h1; subst h1; rw [hr] at h2; cases h2
        | succ i => exact ⟨i, u, h1, h2, h3⟩
theorem goneL_none {l : Nat} : ∀ {h0 : List AO} {ms : List Nat}, hk l (goneL h0 ms) = none
  | [], [] => rfl
  | [], _ :: _ => rfl
  | _ :: _, [] => rfl
  | o :: os, m :: ms => by
    simp only [goneL]
    cases o.isRo
    · rw [hk_cons]
      split
      · rfl
      · exact goneL_none
    · exact goneL_none
/-- what is asked of a call: what comes in lies there -/
def HasIn (r : Nat → Nat) (h : List (Nat × AO)) : Nat → List AO → Prop
  | _, [] => True
  | i, o :: os => (∃ o', hk (r i) h = some o' ∧ (o.isRo = false → o'.isRo = false) ∧ ∀ ρ x w, o'.holds ρ x w → (o.ren r).holds ρ x w) ∧ HasIn r h (i + 1) os
theorem hasIn_get {r : Nat → Nat} {h : List (Nat × AO)} : ∀ {os : List AO} {i : Nat}, HasIn r h i os → ∀ (j : Nat) (o : AO), os[j]? = some o → ∃ o', hk (r (i + j)) h = some o' ∧ (o.isRo = false → o'.isRo = false) ∧ ∀ ρ x w, o'.holds ρ x w → (o.ren r).holds ρ x w
  | [], _, _, j, o, hj => by simp at hj
  | u :: os, i, hh, 0, o, hj => by simp only [List.getElem?_cons_zero, Option.some.injEq] at hj; subst hj; exact hh.1
  | u :: os, i, hh, j + 1, o, hj => by
    have := hasIn_get hh.2 j o (by simpa using hj)
    rwa [show i + 1 + j = i + (j + 1) by omega] at this
section
variable {E : Base} {ρ : Env} {n L : Nat} {τ : List (Nat × AV)} {h : List (Nat × AO)} {F : World → Prop} {a : Act} {w : World}
/-- what a call comes to, in the caller's telling -/
theorem Gam.calledR {σ : Type} (g : Gam E ρ n L τ h F a w) {h0 : List AO} {ms : List Nat} {m : Nat} {val : σ → AV} {post : σ → List (Nat × AO)} (hlen : h0.length = ms.length) (hm : h0.length ≤ m) (hin : HasIn (renF ms L) h 0 h0) (honce : onceB h0 ms = true)
    (hnd : ∀ s, nodupB (((post s).map (·.1)).map (renF ms L)) = true) {w' : World} {s : σ} {ρc : Env} (hpost : ∀ l ∈ (post s).map (·.1), l < m)
    (hk0 : ∀ i, i < h0.length → ρc i = ρ (renF ms L i)) (hlow : (val s).Low ρc m) (hag : Ag (fun b => ¬ Wr0 h0 (fun i => ρ (renF ms L i)) b) w w')
    (hhp : ∀ l o, hk l (post s) = some o → l < m ∧ o.Low ρc m ∧ o.holds ρc (ρc l) w') (hdis : ∀ l l' b, wrA l (post s) → hk l' (post s) ≠ none → ρc l = some b → ρc l' = some b → l = l')
    (hal : ∀ l b, l < m → ρc l = some b → b < w'.heap.size) (hnew : ∀ l b, h0.length ≤ l → hk l (post s) ≠ none → ρc l = some b → w.heap.size ≤ b ∨ Wr0 h0 (fun i => ρ (renF ms L i)) b) (hold : ∀ i o, i < h0.length → hk i (post s) = some o → o.isRo = false → ∃ o0, h0[i]? = some o0 ∧ o0.isRo = false) :
    ∃ ρ', (∀ i, i < m → ρ' (renF ms L i) = ρc i) ∧ ((val s).ren (renF ms L)).conc ρ' = (val s).conc ρc ∧ Next1 E n L (L + (m - h0.length)) τ h (renH (renF ms L) (post s) ++ (goneL h0 ms ++ h)) F ((goneL h0 ms).map (·.1)) ρ a w ρ' ((val s).ren (renF ms L)) w' := by
  have hmsL : ∀ (i : Nat) (mi : Nat), ms[i]? = some mi → mi < L := fun i mi hi => by
    have hlt : i < h0.length := by rw [hlen]; exact (List.getElem?_eq_some_iff.1 hi).1
    obtain ⟨o, ho⟩ : ∃ o, h0[i]? = some o := ⟨_, List.getElem?_eq_getElem hlt⟩
    obtain ⟨o', h1, _⟩ := hasIn_get hin i o ho
    rw [Nat.zero_add] at h1
    have : renF ms L i = mi := by unfold renF; rw [hi]
    rw [this] at h1
    exact (g.hp _ _ h1).1
  have rlow : ∀ i, i < h0.length → renF ms L i < L := fun i hi => by
    have : i < ms.length := by omega
    have e : renF ms L i = ms[i] := by unfold renF; rw [List.getElem?_eq_getElem this]
    rw [e]; exact hmsL i _ (List.getElem?_eq_getElem this)
  have rhigh : ∀ i, h0.length ≤ i → renF ms L i = L + (i - h0.length) := fun i hi => by
    unfold renF; rw [List.getElem?_eq_none (by omega), hlen]
  let ρ' : Env := fun l => if l < L then ρ l else ρc (h0.length + (l - L))
  have hs : ∀ l, l < L → ρ' l = ρ l := fun l hl => by simp only [ρ', hl, if_true]
  have hcomp : ∀ i, i < m → ρ' (renF ms L i) = ρc i := fun i _ => by
    rcases Nat.lt_or_ge i h0.length with hi | hi
    · rw [hs _ (rlow i hi), hk0 i hi]
    · rw [rhigh i hi]
      have h1 : ¬ L + (i - h0.length) < L := by omega
      have h2 : h0.length + (L + (i - h0.length) - L) = i := by omega
      simp only [ρ', h1, if_false, h2]
  have hrm : ∀ i, i < m → renF ms L i < L + (m - h0.length) := fun i hi => by
    rcases Nat.lt_or_ge i h0.length with h1 | h1
    · exact Nat.lt_of_lt_of_le (rlow i h1) (Nat.le_add_right _ _)
    · rw [rhigh i h1]; omega
  have hval : ((val s).ren (renF ms L)).conc ρ' = (val s).conc ρc := by
    rw [ren_conc]; exact hlow _ hcomp
  -- writable blocks that came in are the caller's
  have hwr : ∀ b, Wr0 h0 (fun i => ρ (renF ms L i)) b → ∃ i o, h0[i]? = some o ∧ o.isRo = false ∧ ms[i]? = some (renF ms L i) ∧ wrA (renF ms L i) h ∧ ρ (renF ms L i) = some b := fun b ⟨i, o, h1, h2, h3⟩ => by
    obtain ⟨o', h4, h5, _⟩ := hasIn_get hin i o h1
    rw [Nat.zero_add] at h4
    have hlt : i < ms.length := by rw [← hlen]; exact (List.getElem?_eq_some_iff.1 h1).1
    refine ⟨i, o, h1, h2, ?_, ⟨o', h4, h5 h2⟩, h3⟩
    unfold renF; rw [List.getElem?_eq_getElem hlt]
  have hgone : ∀ l, l ∉ (goneL h0 ms).map (·.1) → hk l h ≠ none → ∀ b, ρ l = some b → ¬ Wr0 h0 (fun i => ρ (renF ms L i)) b := fun l hl hlive b hb hw => by
    obtain ⟨i, o, h1, h2, h3, h4, h5⟩ := hwr b hw
    have := g.dis _ _ b h4 hlive h5 hb
    exact hl ((goneL_mem hlen).2 ⟨i, o, h1, h2, this ▸ h3⟩)
  have hold' : ∀ l b, hk l h ≠ none → ρ l = some b → l ∉ (goneL h0 ms).map (·.1) → w.heap[b]? = w'.heap[b]? := fun l b hl hb hn => (hag.block b (g.lt hl hb) (hgone l hn hl b hb)).symm
  have hinj := nodupB_inj (hnd s)
  let h' := renH (renF ms L) (post s) ++ (goneL h0 ms ++ h)
  have hcase : ∀ l o, hk l h' = some o → (∃ i oi, hk i (post s) = some oi ∧ renF ms L i = l ∧ o = oi.ren (renF ms L) ∧ i < m) ∨ (l ∉ (goneL h0 ms).map (·.1) ∧ hk l h = some o) := fun l o ho => by
    simp only [h', hk_append] at ho
    split at ho
    · rename_i hm
      obtain ⟨i, hi, rfl⟩ := renH_mem.1 hm
      rw [hk_renH hinj i hi] at ho
      cases hx : hk i (post s) with
      | none => rw [hx] at ho; cases ho
      | some oi =>
        rw [hx] at ho
        simp only [Option.map_some, Option.some.injEq] at ho
        exact .inl ⟨i, oi, hx, rfl, ho.symm, hpost i hi⟩
    · split at ho
      · rw [goneL_none] at ho; cases ho
      · rename_i hn; exact .inr ⟨hn, ho⟩
  -- a block of a label that is told anew
  have hblk : ∀ i oi b, hk i (post s) = some oi → i < m → oi.isRo = false ∨ h0.length ≤ i → ρc i = some b → w.heap.size ≤ b ∨ Wr0 h0 (fun i => ρ (renF ms L i)) b := fun i oi b hx hi hro hb => by
    rcases Nat.lt_or_ge i h0.length with h1 | h1
    · rcases hro with hro | hro
      · obtain ⟨o0, h2, h3⟩ := hold i oi h1 hx hro
        exact .inr ⟨i, o0, h2, h3, (hk0 i h1).symm.trans hb⟩
      · omega
    · exact hnew i b h1 (by rw [hx]; simp) hb
  refine ⟨ρ', hcomp, hval, ?_, hs, ?_, hold'⟩
  · intro ρ2 h2
    rw [ren_conc, ren_conc]
    exact (hlow.ext (ρ1 := fun l => ρ' (renF ms L l)) hcomp) _ (fun l hl => h2 _ (hrm l hl))
  · refine g.turn hs (Nat.le_add_right _ _) (hag.mono fun b hb hd hw => ?_) (fun l o ho => ?_) (fun l l' b hl hl' hb hb' => ?_) (fun l b hl hb => ?_) (fun l b h1 h2 hb => ?_)
    · obtain ⟨i, o, h1, h2, h3, h4, h5⟩ := hwr b hw
      exact hd _ h4 h5
    · rcases hcase l o ho with ⟨i, oi, h1, rfl, rfl, hi⟩ | ⟨h1, h2⟩
      · have := hhp i oi h1
        have hlw : oi.Low (fun l => ρ' (renF ms L l)) m := this.2.1.ext hcomp
        refine ⟨hrm i hi, fun ρ2 h2 r x => ?_, ?_⟩
        · rw [ren_holds, ren_holds]
          exact hlw (fun l => ρ2 (renF ms L l)) (fun l hl => h2 _ (hrm l hl)) r x
        · rw [ren_holds, hcomp i hi]
          exact (this.2.1 _ hcomp _ _).1 this.2.2
      · have hh := g.hp l o h2
        refine ⟨Nat.lt_of_lt_of_le hh.1 (Nat.le_add_right _ _), (hh.2.1.ext hs).mono (Nat.le_add_right _ _), ?_⟩
        rw [hs l hh.1]
        exact holds_same ((hh.2.1 _ hs _ _).1 hh.2.2) fun b hb => (hold' l b (by rw [h2]; simp) hb h1).symm
    · obtain ⟨o, ho, hro⟩ := hl
      obtain ⟨o2, ho2⟩ : ∃ o2, hk l' h' = some o2 := by
        cases hx : hk l' h' with
        | none => exact absurd hx hl'
        | some o2 => exact ⟨o2, rfl⟩
      rcases hcase l o ho with ⟨i, oi, h1, rfl, rfl, hi⟩ | ⟨h1, h2⟩
      · rw [ren_isRo] at hro
        rw [hcomp i hi] at hb
        rcases hcase l' o2 ho2 with ⟨j, oj, h3, rfl, rfl, hj⟩ | ⟨h3, h4⟩
        · rw [hcomp j hj] at hb'
          rw [hdis i j b ⟨oi, h1, hro⟩ (by rw [h3]; simp) hb hb']
        · exfalso
          have hl'L := (g.hp l' o2 h4).1
          rw [hs l' hl'L] at hb'
          rcases hblk i oi b h1 hi (.inl hro) hb with h5 | h5
          · have := g.lt (by rw [h4]; simp) hb'; omega
          · exact hgone l' h3 (by rw [h4]; simp) b hb' h5
      · have hlL := (g.hp l o h2).1
        rw [hs l hlL] at hb
        rcases hcase l' o2 ho2 with ⟨j, oj, h3, rfl, rfl, hj⟩ | ⟨h3, h4⟩
        · rw [hcomp j hj] at hb'
          rcases Nat.lt_or_ge j h0.length with hjk | hjk
          · have hj2 : ρ (renF ms L j) = some b := (hk0 j hjk).symm.trans hb'
            obtain ⟨oj0, ho0⟩ : ∃ o, h0[j]? = some o := ⟨_, List.getElem?_eq_getElem hjk⟩
            obtain ⟨oh, h5, _⟩ := hasIn_get hin j oj0 ho0
            rw [Nat.zero_add] at h5
            exact g.dis l _ b ⟨o, h2, hro⟩ (by rw [h5]; simp) hb hj2
          · exfalso
            rcases hnew j b hjk (by rw [h3]; simp) hb' with h5 | h5
            · have := g.lt (by rw [h2]; simp) hb; omega
            · exact hgone l h1 (by rw [h2]; simp) b hb h5
        · rw [hs l' (g.hp l' o2 h4).1] at hb'
          exact g.dis l l' b ⟨o, h2, hro⟩ (by rw [h4]; simp) hb hb'
    · obtain ⟨o, ho, hro⟩ := hl
      rcases hcase l o ho with ⟨i, oi, h1, rfl, rfl, hi⟩ | ⟨h1, h2⟩
      · rw [ren_isRo] at hro
        rw [hcomp i hi] at hb
        refine (hblk i oi b h1 hi (.inl hro) hb).imp id fun hw => ?_
        obtain ⟨i', o', _, _, _, h4, h5⟩ := hwr b hw
        exact ⟨_, h4, h5⟩
      · rw [hs l (g.hp l o h2).1] at hb
        exact .inr ⟨l, ⟨o, h2, hro⟩, hb⟩
    · have h3 : ¬ l < L := by omega
      simp only [ρ', h3, if_false] at hb
      exact hal _ b (by omega) hb
theorem Gam.called {σ : Type} (g : Gam E ρ n L τ h F a w) {h0 : List AO} {ms : List Nat} {m : Nat} {G : σ → Prop} {val : σ → AV} {post : σ → List (Nat × AO)} (hlen : h0.length = ms.length) (hm : h0.length ≤ m) (hin : HasIn (renF ms L) h 0 h0) (honce : onceB h0 ms = true)
    (hpost : ∀ s, G s → ∀ l ∈ (post s).map (·.1), l < m) (hnd : ∀ s, nodupB (((post s).map (·.1)).map (renF ms L)) = true)
    {e : Ending} {w' : World} (ho : Outc h0 m (fun i => ρ (renF ms L i)) w G val post e w') :
    ∃ s ρ', G s ∧ e = .returned (((val s).ren (renF ms L)).conc ρ') ∧ Next1 E n L (L + (m - h0.length)) τ h (renH (renF ms L) (post s) ++ (goneL h0 ms ++ h)) F ((goneL h0 ms).map (·.1)) ρ a w ρ' ((val s).ren (renF ms L)) w' := by
  obtain ⟨s, ρc, hG, hk0, he, hlow, hag, hhp, hdis, hal, hnew, hold⟩ := ho
  obtain ⟨ρ', _, h2, h3⟩ := g.calledR (val := val) (post := post) (s := s) (ρc := ρc) hlen hm hin honce hnd (hpost s hG) hk0 hlow hag hhp hdis hal hnew hold
  exact ⟨s, ρ', hG, by rw [h2]; exact he, h3⟩
end
section
variable {P : Program} {ops : Array Oper} {Q : Exit → Act → World → Prop} {D : Option DD} {E : Base} {n L : Nat} {τ : List (Nat × AV)} {h : List (Nat × AO)} {F : World → Prop} {rest : List Oper}
  {d : Nat} {op : Op} {ty : TypeId} {ps : String} {af : Array Edge} {gd : Option (Nat × Bool)} {tt : List (Nat × TI)}
/-- a contract: a function called so, where such things lie, comes to this -/
def Spec (P : Program) (f : FuncId) (avs : List AV) (h0 : List AO) (m : Nat) {σ : Type} (G : σ → Prop) (val : σ → AV) (post : σ → List (Nat × AO)) : Prop :=
  ∀ (ρ : Env) (w : World), (∀ (i : Nat) (o : AO), h0[i]? = some o → o.holds ρ (ρ i) w) → (∀ i j o b, h0[i]? = some o → o.isRo = false → j < h0.length → ρ i = some b → ρ j = some b → i = j) → (∀ i b, i < h0.length → ρ i = some b → b < w.heap.size) →
    Calls P f (AV.concs ρ avs).toArray w (Outc h0 m ρ w G val post)
theorem goes_call {P : Program} {o : Oper} {a : Act} {w : World} {f : FuncId} {xs : Array Operand} {ats : Array TypeId} {R : Value → World → Prop} (ho : o.op = .call { callee := .value (.func f), args := xs, argTypes := ats }) (eg : ∀ args w, (callFunc f args).run P w = .ok (.enter f args) w)
    (hc : Calls P f (xs.map a.eval) w fun e w' => ∃ v, e = .returned v ∧ R v w') : goes P o a w R := by
  unfold goes execOp
  simp only [ho, resolve, invoke, Act.eval, Deferred.ofValue, Sem.run_bind, Sem.run_pure, Result.andThen_ok, Array.append_empty, Array.empty_append]
  rw [eg]
  exact hc
/-- a call of a function -/
theorem R.c {σ : Type} {G : σ → Prop} {val : σ → AV} {post : σ → List (Nat × AO)} {f : FuncId} {xs : Array Operand} {ats : Array TypeId} {avs : List AV} {h0 : List AO} {m : Nat} (ms : List Nat) (sp : Spec P f avs h0 m G val post) (eg : ∀ args w, (callFunc f args).run P w = .ok (.enter f args) w)
    (hx : evList (evA τ) xs.toList = some (AV.rens (renF ms L) avs)) (hin : HasIn (renF ms L) h 0 h0) (hm : Nat.ble h0.length m = true) (hpost : ∀ s, ∀ l ∈ (post s).map (·.1), l < m) (hnd : ∀ s, nodupB (((post s).map (·.1)).map (renF ms L)) = true)
    (hg : wantA ops ⟨some d, .call { callee := .value (.func f), args := xs, argTypes := ats }, ty, ps, af, gd⟩ τ = some true) (hb : (Nat.ble (d + 1) n && Nat.beq h0.length ms.length && onceB h0 ms && chainB h D ((goneL h0 ms).map (·.1))) = true)
    (k : ∀ s, G s → R P ops Q (actD h D ((goneL h0 ms).map (·.1))) E n (L + (m - h0.length)) ((d, (val s).ren (renF ms L)) :: τ) (renH (renF ms L) (post s) ++ (goneL h0 ms ++ h)) F rest) :
    R P ops Q D E n L τ h F (⟨some d, .call { callee := .value (.func f), args := xs, argTypes := ats }, ty, ps, af, gd⟩ :: rest) := by
  simp only [Bool.and_eq_true] at hb
  obtain ⟨⟨⟨h1, h2⟩, h3⟩, h4⟩ := hb
  have hlen : h0.length = ms.length := Nat.eq_of_beq_eq_true h2
  have hm' : h0.length ≤ m := by simpa [Nat.ble_eq] using hm
  refine ⟨RL.acts G (fun s => (val s).ren (renF ms L)) (fun _ => L + (m - h0.length)) (fun s => renH (renF ms L) (post s) ++ (goneL h0 ms ++ h)) (fun _ => F) ((goneL h0 ms).map (·.1)) hg h1 h4 (fun _ _ => Nat.le_add_right _ _) (fun ρ a w g => ?_) (fun s hs => (k s hs).out)⟩
  refine goes_call rfl eg ?_
  have hargs : xs.map a.eval = (AV.concs (fun i => ρ (renF ms L i)) avs).toArray := by
    have := evList_conc (evB g) _ _ hx
    rw [rens_conc] at this
    apply Array.ext'
    simpa using this
  rw [hargs]
  have hget := hasIn_get hin
  simp only [Nat.zero_add] at hget
  have rlow : ∀ i, i < h0.length → renF ms L i < L := fun i hi => by
    obtain ⟨o, ho⟩ : ∃ o, h0[i]? = some o := ⟨_, List.getElem?_eq_getElem hi⟩
    obtain ⟨o', h5, _⟩ := hget i o ho
    exact (g.hp _ _ h5).1
  refine (sp (fun i => ρ (renF ms L i)) w (fun i o ho => ?_) (fun i j o b ho hro hj hbi hbj => ?_) (fun i b hi hbi => g.al _ b (rlow i hi) hbi)).mono fun e w' ho => ?_
  · obtain ⟨o', h5, h6, h7⟩ := hget i o ho
    exact (ren_holds _ _ _ _ _).1 (h7 _ _ _ (g.hp _ _ h5).2.2)
  · obtain ⟨o', h5, h6, _⟩ := hget i o ho
    obtain ⟨oj, hoj⟩ : ∃ o, h0[j]? = some o := ⟨_, List.getElem?_eq_getElem hj⟩
    obtain ⟨oj', h8, _⟩ := hget j oj hoj
    have he := g.dis _ _ b ⟨o', h5, h6 hro⟩ (by rw [h8]; simp) hbi hbj
    have hi : i < h0.length := (List.getElem?_eq_some_iff.1 ho).1
    have h9 := List.all_eq_true.1 h3 i (List.mem_range.2 hi)
    rw [ho] at h9
    simp only [hro, Bool.false_or] at h9
    have h10 := List.all_eq_true.1 h9 j (List.mem_range.2 hj)
    simp only [Bool.or_eq_true, Bool.not_eq_true'] at h10
    rcases h10 with h10 | h10
    · exact Nat.eq_of_beq_eq_true h10
    · exfalso
      have e1 : ∀ x, x < h0.length → renF ms L x = ms.getD x 0 := fun x hx => by
        have hx' : x < ms.length := by omega
        unfold renF
        rw [List.getD_eq_getElem?_getD, List.getElem?_eq_getElem hx']; rfl
      rw [← e1 i hi, ← e1 j hj, he, Nat.beq_refl] at h10; cases h10
  · obtain ⟨s, ρ', hG, he, hN⟩ := g.called hlen hm' hin h3 (fun s _ => hpost s) hnd ho
    exact ⟨_, he, s, ρ', hG, rfl, hN⟩
end
end Go.Proofs.Yteabncomclgncaa
