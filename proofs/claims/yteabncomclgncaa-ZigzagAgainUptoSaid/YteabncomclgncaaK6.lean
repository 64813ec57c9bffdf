/- The kernel, 6: judgements on states, and the steps through a region. No program in sight. -/
import Derived.Test.YteabncomclgncaaK5
namespace Go.Proofs.Yteabncomclgncaa
set_option linter.unusedVariables false
set_option linter.unusedSimpArgs false
set_option linter.unusedSectionVars false
open Go.RowKit

/-- how far a region that draws has been gone through: the next operation's number, what comes ahead of what, the chain, labels looked at, labels turned by each of the chain so far -/
structure DD where
  j : Nat
  pr : List (List Nat)
  ch : List Nat
  pend : List (Nat × Nat)
  wl : List (List (Nat × AO) × List Nat)
def DD.prB (d : DD) (i k : Nat) : Bool := (d.pr.getD k []).elem i
def DD.chB (d : DD) (k : Nat) : Bool := d.ch.elem k
def DD.st (d : DD) (k : Nat) : Nat := (d.ch.filter fun i => (d.pr.getD k []).elem i).length
/-- does something lie at a label? -/
def liveB (l : Nat) (h : List (Nat × AO)) : Bool := match hk l h with
  | some _ => true
  | none => false
theorem liveB_iff {l : Nat} {h : List (Nat × AO)} : liveB l h = true ↔ hk l h ≠ none := by
  unfold liveB
  cases hk l h <;> simp
/-- the earlier worlds: at labels that lay then and were not turned since they read as now -/
def Stg (ρ : Env) : List (List (Nat × AO) × List Nat) → List World → World → Prop
  | [], [], _ => True
  | p :: wl, V :: Ws, W => (∀ l b, liveB l p.1 = true → ρ l = some b → l ∉ p.2 → V.heap[b]? = W.heap[b]?) ∧ Stg ρ wl Ws V
  | _, _, _ => False
theorem Stg.ext {ρ ρ' : Env} {L : Nat} (he : ∀ l, l < L → ρ' l = ρ l) : ∀ {wl : List (List (Nat × AO) × List Nat)} {Ws : List World} {W : World}, (∀ p ∈ wl, ∀ l, liveB l p.1 = true → l < L) → Stg ρ wl Ws W → Stg ρ' wl Ws W
  | [], [], _, _, h => h
  | p :: wl, V :: Ws, W, hL, h => ⟨fun l b hl hb hn => h.1 l b hl ((he l (hL p (by simp) l hl)).symm.trans hb) hn, Stg.ext he (fun q hq => hL q (by simp [hq])) h.2⟩
  | [], _ :: _, _, _, h => h.elim
  | _ :: _, [], _, _, h => h.elim
def pendC (ρ : Env) : List (Nat × Nat) → List (Nat × Nat)
  | [] => []
  | (i, l) :: r => match ρ l with
    | some b => (i, b) :: pendC ρ r
    | none => pendC ρ r
def RL (P : Program) (ops : Array Oper) (Q : Exit → Act → World → Prop) (D : Option DD) (E : Base) (n L : Nat) (τ : List (Nat × AV)) (h : List (Nat × AO)) (F : World → Prop) (rest : List Oper) : Prop :=
  match D with
  | none => ∀ ρ a w, Gam E ρ n L τ h F a w → wpList P ops Q rest a w
  | some d => (∀ i, rest[i]? = ops[d.j + i]?) → (∀ p ∈ d.pend, p.2 < L) → (∀ p ∈ d.wl, ∀ l, liveB l p.1 = true → l < L) → ∀ ρ a w Ws, Gam E ρ n L τ h F a w → Stg ρ d.wl Ws w →
      CH P ops Q d.chB d.prB d.st (List.range' d.j rest.length) (pendC ρ d.pend) w Ws a
/-- a slot of the frame -/
def dOk (n : Nat) : Option Nat → Bool
  | some d => Nat.ble (d + 1) n
  | none => true
def putA (d : Option Nat) (v : AV) (τ : List (Nat × AV)) : List (Nat × AV) := match d with
  | some d => (d, v) :: τ
  | none => τ
/-- is an operation wanted? -/
def wantA (ops : Array Oper) (o : Oper) (τ : List (Nat × AV)) : Option Bool := match o.guard with
  | none => some true
  | some (g, want) => match (ops[g]?).bind (·.dst) with
    | some t => match lk t τ with
      | some (.raw (.bool true)) => some want
      | some (.raw (.bool false)) => some (!want)
      | some (.raw (.tuple _)) => some false
      | _ => none
    | none => none
section
variable {E : Base} {ρ : Env} {n L : Nat} {τ : List (Nat × AV)} {h : List (Nat × AO)} {F : World → Prop} {a : Act} {w : World}
theorem Gam.put (g : Gam E ρ n L τ h F a w) (d : Option Nat) (v : AV) (hd : dOk n d = true) (hv : v.Low ρ L) : Gam E ρ n L (putA d v τ) h F (a.put d (v.conc ρ)) w := by
  cases d with
  | none => exact g
  | some d =>
    have hdn : d < n := by have : d + 1 ≤ n := by simpa [dOk, Nat.ble_eq] using hd
                           omega
    refine ⟨g.df, by simp [Act.put, g.sz], fun t u hu => ?_, g.hp, g.dis, g.fr, g.ex, g.le, g.al⟩
    simp only [putA, lk_cons] at hu
    split at hu
    · rename_i e
      subst e
      cases hu
      exact ⟨hv, by simp [Act.put, g.sz, hdn]⟩
    · rename_i e
      have := g.tm t u hu
      exact ⟨this.1, by simp only [Act.put]; rw [Array.getElem?_setIfInBounds_ne e]; exact this.2⟩
theorem undef_raw (ρ : Env) : (AV.raw undef).conc ρ = undef := rfl
theorem Gam.want (g : Gam E ρ n L τ h F a w) {ops : Array Oper} {o : Oper} {b : Bool} (hw : wantA ops o τ = some b) : Region.wanted o (yielded ops a.tmps) = b := by
  unfold wantA at hw
  unfold Region.wanted
  split at hw
  · rename_i hg
    cases hw
    rw [hg]
  · rename_i gg wt hg
    rw [hg]
    simp only
    split at hw
    · rename_i t ht
      have key : ∀ v, lk t τ = some (.raw v) → yielded ops a.tmps gg = match v with | .bool b => some b | _ => none := fun v hv => by
        have := (g.tm t _ hv).2
        simp only [yielded, ht, Option.bind_some, this, AV.conc]
        cases v <;> rfl
      split at hw
      · rename_i hl; cases hw; rw [key _ hl]; clear key; first | (cases wt <;> rfl) | (cases b <;> rfl) | rfl
      · rename_i hl; cases hw; rw [key _ hl]; clear key; first | (cases wt <;> rfl) | (cases b <;> rfl) | rfl
      · rename_i hl; cases hw; rw [key _ hl]; clear key; first | (cases wt <;> rfl) | (cases b <;> rfl) | rfl
      · cases hw
    · cases hw
theorem evB {τ : List (Nat × AV)} (g : Gam E ρ n L τ h F a w) : ∀ x v, evA τ x = some v → a.eval x = v.conc ρ := fun x v hv => (g.eval x v hv).2
theorem Gam.holds (g : Gam E ρ n L τ h F a w) : ∀ l o, hk l h = some o → o.holds ρ (ρ l) w := fun l o ho => (g.hp l o ho).2.2
/-- what 'act' tells, of a state -/
theorem Gam.actS {P : Program} {tt : List (Nat × TI)} (htt : TTok P tt) (g : Gam E ρ n L τ h F a w) {o : Oper} {v : AV} (ha : act tt (fun l => hk l h) (evA τ) o.op = some v) : (execOp a.eval o).run P w = .ok (.value (v.conc ρ)) w ∧ v.Low ρ L := by
  refine ⟨act_sound htt (hl := fun l => hk l h) g.holds (evB g) o v ha, fun ρ1 he => ?_⟩
  have h1 := act_sound htt (hl := fun l => hk l h) g.holds (evB g) o v ha
  have h2 := act_sound htt (ρ := ρ1) (w := w) (hl := fun l => hk l h) (fun l o ho => by
    have := g.hp l o ho
    rw [he l this.1]
    exact (this.2.1 ρ1 he _ _).1 this.2.2) (ec := a.eval) (fun x u hu => by
    have := g.eval x u hu
    rw [this.2, this.1 ρ1 he]) o v ha
  rw [h1] at h2
  simp only [Result.ok.injEq, Next.value.injEq, and_true] at h2
  exact h2.symm

end
section
variable {P : Program} {ops : Array Oper} {Q : Exit → Act → World → Prop} {D : Option DD} {E : Base} {n L : Nat} {τ : List (Nat × AV)} {h : List (Nat × AO)} {F : World → Prop} {rest : List Oper} {o : Oper}
/-- the label that a load looks at -/
def rdL (τ : List (Nat × AV)) : Op → List Nat
  | .load _ x => match evA τ x with
    | some (.ptr l _ _ _) => [l]
    | _ => []
  | _ => []
/-- what was not turned since the last of the chain that comes ahead -/
def stageB (d : DD) (ls : List Nat) : Bool := (d.wl.take (d.wl.length - d.st d.j)).all fun p => ls.all fun l => liveB l p.1 && !p.2.elem l
def lookB (D : Option DD) (ls : List Nat) : Bool := match D with
  | none => true
  | some d => !d.chB d.j && stageB d ls
def DD.look (d : DD) (ls : List Nat) : DD := { d with j := d.j + 1, pend := d.pend ++ ls.map fun l => (d.j, l) }
/-- the same region with one operation behind us that looked at labels ls -/
def lookD (D : Option DD) (ls : List Nat) : Option DD := D.map fun d => d.look ls
theorem RL.nil (k : ∀ ρ a w, Gam E ρ n L τ h F a w → Q .normal a w) : RL P ops Q D E n L τ h F [] := by
  cases D with
  | none => exact fun ρ a w g => wpList_nil (k ρ a w g)
  | some d =>
    intro _ _ _ ρ a w Ws g _
    simp only [List.length_nil, List.range'_zero, CH]
    exact k ρ a w g
theorem Stg.read {ρ : Env} : ∀ {wl : List (List (Nat × AO) × List Nat)} {Ws : List World} {W : World} (k : Nat), Stg ρ wl Ws W → ∀ l b, ρ l = some b → (∀ p ∈ wl.take k, liveB l p.1 = true ∧ l ∉ p.2) → ∀ V ∈ Ws.take k, V.heap[b]? = W.heap[b]?
  | [], [], W, k, _, l, b, _, _, V, hV => by simp at hV
  | ls :: wl, V0 :: Ws, W, 0, _, l, b, _, _, V, hV => by simp at hV
  | p :: wl, V0 :: Ws, W, k + 1, h, l, b, hl, hn, V, hV => by
    have hp := hn p (by simp)
    have h0 := h.1 l b hp.1 hl hp.2
    rw [List.take_succ_cons] at hV
    rcases List.mem_cons.1 hV with rfl | hV
    · exact h0
    · rw [Stg.read k h.2 l b hl (fun ws hws => hn ws (by simp [hws])) V hV, h0]
  | [], _ :: _, _, _, h, _, _, _, _, _, _ => h.elim
  | _ :: _, [], _, _, h, _, _, _, _, _, _ => h.elim
theorem Stg.length {ρ : Env} : ∀ {wl : List (List (Nat × AO) × List Nat)} {Ws : List World} {W : World}, Stg ρ wl Ws W → wl.length = Ws.length
  | [], [], _, _ => rfl
  | _ :: _, _ :: _, _, h => by simp [Stg.length h.2]
  | [], _ :: _, _, h => h.elim
  | _ :: _, [], _, h => h.elim
theorem pendC_append (ρ : Env) (a b : List (Nat × Nat)) : pendC ρ (a ++ b) = pendC ρ a ++ pendC ρ b := by
  induction a with
  | nil => rfl
  | cons x a ih =>
    obtain ⟨i, l⟩ := x
    simp only [List.cons_append, pendC]
    cases ρ l <;> simp [ih]
/-- an operation that looks at most at blocks, each at a label of ls -/
theorem RL.looks (ls : List Nat) (hg : wantA ops o τ = some true) (hd : dOk n o.dst = true) (hk : lookB D ls = true) (hls : ∀ l ∈ ls, l < L) (v : AV)
    (hv : ∀ ρ a w, Gam E ρ n L τ h F a w → v.Low ρ L ∧ (∀ l ∈ ls, ρ l ≠ none) ∧ ∀ x : World, (∀ l ∈ ls, ∀ b, ρ l = some b → x.heap[b]? = w.heap[b]?) → (execOp a.eval o).run P x = .ok (.value (v.conc ρ)) x)
    (k : RL P ops Q (lookD D ls) E n L (putA o.dst v τ) h F rest) : RL P ops Q D E n L τ h F (o :: rest) := by
  cases D with
  | none =>
    intro ρ a w g
    have hw := g.want hg
    obtain ⟨h1, h2, h3⟩ := hv ρ a w g
    refine wpList_step fun K hK => ?_
    rw [if_pos hw]
    unfold Oper.wp
    rw [h3 w fun _ _ _ _ => rfl]
    exact hK _ _ (k ρ _ _ (g.put o.dst v hd h1))
  | some d =>
    intro hops hpl hwl ρ a w Ws g hs
    have hw := g.want hg
    obtain ⟨h1, h2, h3⟩ := hv ρ a w g
    simp only [lookB, Bool.and_eq_true, Bool.not_eq_true'] at hk
    simp only [List.length_cons, List.range'_succ, CH]
    intro o' ho'
    have h0 := hops 0
    simp only [List.getElem?_cons_zero, Nat.add_zero] at h0
    obtain rfl : o = o' := Option.some.inj (h0.trans ho')
    rw [if_pos hw, if_neg (by rw [hk.1]; decide)]
    have hpl' : ∀ p ∈ (d.look ls).pend, p.2 < L := fun p hp => by
      rcases List.mem_append.1 hp with hp | hp
      · exact hpl p hp
      · obtain ⟨l, hl, rfl⟩ := List.mem_map.1 hp
        exact hls l hl
    have hk2 := k (fun i => by have := hops (i + 1); simpa [DD.look, Nat.add_assoc, Nat.add_comm 1 i] using this) hpl' hwl ρ _ w Ws (g.put o.dst v hd h1) hs
    refine ⟨v.conc ρ, ls.filterMap ρ, fun x hx => h3 x fun l hl b hb => hx b (List.mem_filterMap.2 ⟨l, hl, hb⟩), fun V hV b hb => ?_, ?_⟩
    · obtain ⟨l, hl, hlb⟩ := List.mem_filterMap.1 hb
      rw [← hs.length] at hV
      refine hs.read _ l b hlb (fun ws hws => ?_) V hV
      have := List.all_eq_true.1 hk.2 ws hws
      have := List.all_eq_true.1 this l hl
      simp only [Bool.and_eq_true, Bool.not_eq_true'] at this
      refine ⟨this.1, fun h => ?_⟩
      have h2 := this.2
      rw [List.elem_iff.2 h] at h2
      cases h2
    · have e : pendC ρ (d.look ls).pend = pendC ρ d.pend ++ (ls.filterMap ρ).map fun b => (d.j, b) := by
        simp only [DD.look, pendC_append]
        congr 1
        clear hls hv h2 h3 hk hk2 hpl' k
        induction ls with
        | nil => rfl
        | cons l ls ih =>
          simp only [List.map_cons, pendC, List.filterMap_cons]
          cases ρ l <;> simp [ih]
      rw [e] at hk2
      exact hk2
def DD.skip (h : List (Nat × AO)) (d : DD) : DD := match d.chB d.j with
  | true => { d with j := d.j + 1, wl := (h, []) :: d.wl }
  | false => { d with j := d.j + 1 }
theorem DD.skip_j (h : List (Nat × AO)) (d : DD) : (d.skip h).j = d.j + 1 := by unfold DD.skip; cases d.chB d.j <;> rfl
theorem DD.skip_pend (h : List (Nat × AO)) (d : DD) : (d.skip h).pend = d.pend := by unfold DD.skip; cases d.chB d.j <;> rfl
theorem DD.skip_ch (h : List (Nat × AO)) (d : DD) : (d.skip h).chB = d.chB := by unfold DD.skip; cases d.chB d.j <;> rfl
theorem DD.skip_pr (h : List (Nat × AO)) (d : DD) : (d.skip h).prB = d.prB := by unfold DD.skip; cases d.chB d.j <;> rfl
theorem DD.skip_st (h : List (Nat × AO)) (d : DD) : (d.skip h).st = d.st := by unfold DD.skip; cases d.chB d.j <;> rfl
def skipD (h : List (Nat × AO)) (D : Option DD) : Option DD := D.map (DD.skip h)
/-- an operation that is not wanted -/
theorem RL.skip (hg : wantA ops o τ = some false) (hd : dOk n o.dst = true) (k : RL P ops Q (skipD h D) E n L (putA o.dst (.raw undef) τ) h F rest) : RL P ops Q D E n L τ h F (o :: rest) := by
  cases D with
  | none =>
    intro ρ a w g
    have hw := g.want hg
    exact wpList_skip hw (k ρ _ _ (g.put o.dst (.raw undef) hd (AV.Low.raw _ _ _)))
  | some d =>
    intro hops hpl hwl ρ a w Ws g hs
    have hw := g.want hg
    simp only [List.length_cons, List.range'_succ, CH]
    intro o' ho'
    have h0 := hops 0
    simp only [List.getElem?_cons_zero, Nat.add_zero] at h0
    obtain rfl : o = o' := Option.some.inj (h0.trans ho')
    rw [if_neg (by rw [hw]; decide)]
    have hs2 : Stg ρ (d.skip h).wl (if d.chB d.j = true then w :: Ws else Ws) w := by
      unfold DD.skip
      cases d.chB d.j
      · exact hs
      · exact ⟨fun _ _ _ _ _ => rfl, hs⟩
    have hwl2 : ∀ p ∈ (d.skip h).wl, ∀ l, liveB l p.1 = true → l < L := by
      unfold DD.skip
      cases d.chB d.j
      · exact hwl
      · intro p hp
        rcases List.mem_cons.1 hp with rfl | hp
        · intro l hl
          cases ho : hk l h with
          | none => exact absurd ho (liveB_iff.1 hl)
          | some ob => exact (g.hp l ob ho).1
        · exact hwl p hp
    have := k (fun i => by have := hops (i + 1); rw [DD.skip_j]; simpa [Nat.add_assoc, Nat.add_comm 1 i] using this) (by rw [DD.skip_pend]; exact hpl) hwl2 ρ _ w _ (g.put o.dst (.raw undef) hd (AV.Low.raw _ _ _)) hs2
    rw [DD.skip_j, DD.skip_pend, DD.skip_ch, DD.skip_pr, DD.skip_st] at this
    exact this
/-- an operation of 'act' -/
theorem rdL_lt {P : Program} {tt : List (Nat × TI)} {ρ : Env} {a : Act} {w : World} (g : Gam E ρ n L τ h F a w) {v : AV} (ha : act tt (fun l => hk l h) (evA τ) o.op = some v) : ∀ l ∈ rdL τ o.op, l < L ∧ ρ l ≠ none := by
  intro l hl
  cases ho : o.op <;> rw [ho] at hl <;> simp only [rdL] at hl <;> try (simp at hl; done)
  case load t x =>
    rw [ho] at ha
    simp only [act] at ha
    split at ha
    · rename_i l' wd i c ti h1 h2
      rw [h1] at hl
      simp only [List.mem_singleton] at hl
      subst hl
      split at ha
      · rename_i xs ty h3
        have := g.hp _ _ h3
        obtain ⟨b, hr, _⟩ := this.2.2
        exact ⟨this.1, by rw [hr]; simp⟩
      · cases ha
    · cases ha
/-- 'act' over another world in which the block that is looked at is the same -/
theorem Gam.act_at {P : Program} {tt : List (Nat × TI)} (htt : TTok P tt) {ρ : Env} {a : Act} {w : World} (g : Gam E ρ n L τ h F a w) {v : AV} (ha : act tt (fun l => hk l h) (evA τ) o.op = some v)
    (x : World) (hx : ∀ l ∈ rdL τ o.op, ∀ b, ρ l = some b → x.heap[b]? = w.heap[b]?) : (execOp a.eval o).run P x = .ok (.value (v.conc ρ)) x := by
  refine act_sound htt (hl := fun l => if (rdL τ o.op).elem l = true then hk l h else none) (e := evA τ) (fun l ob ho => ?_) (evB g) o v ?_
  · split at ho
    · rename_i hm0
      have hm : l ∈ rdL τ o.op := by simpa using hm0
      have hh := g.holds l ob ho
      cases ob with
      | cells xs ty => obtain ⟨b, hr, hb⟩ := hh; exact ⟨b, hr, by rw [hx l hm b hr]; exact hb⟩
      | bytes p cap ty =>
        refine ⟨hh.1, hh.2.imp id ?_⟩
        rintro ⟨b, cur, hr, hb, h1⟩
        exact ⟨b, cur, hr, by rw [hx l hm b hr]; exact hb, h1⟩
      | tab wd m cap f ty =>
        refine ⟨hh.1, hh.2.1, hh.2.2.imp id ?_⟩
        rintro ⟨b, cur, hr, hb, h1⟩
        exact ⟨b, cur, hr, by rw [hx l hm b hr]; exact hb, h1⟩
      | ro wd off m f =>
        refine hh.imp id ?_
        rintro ⟨b, cur, ty, fr, hr, hb, h1⟩
        exact ⟨b, cur, ty, fr, hr, by rw [hx l hm b hr]; exact hb, h1⟩
      | gone => trivial
    · cases ho
  · rw [← ha]
    cases ho : o.op
    case load t x =>
      simp only [act]
      split
      · rename_i l wd i c ti h1 h2
        have hm : (rdL τ (.load t x)).elem l = true := by simp [rdL, h1]
        simp only [hm, if_true]
      · rfl
    case unOp op t x => cases op <;> rfl
    case makeFunc fn f c => cases fn <;> rfl
    all_goals rfl
theorem RL.step {tt : List (Nat × TI)} (htt : TTok P tt) (v : AV) (ha : act tt (fun l => hk l h) (evA τ) o.op = some v) (hg : wantA ops o τ = some true) (hd : dOk n o.dst = true) (hk : lookB D (rdL τ o.op) = true)
    (k : RL P ops Q (lookD D (rdL τ o.op)) E n L (putA o.dst v τ) h F rest) (hls : (rdL τ o.op).all (fun l => Nat.ble (l + 1) L) = true) : RL P ops Q D E n L τ h F (o :: rest) :=
  RL.looks (rdL τ o.op) hg hd hk (fun l hl => by
    have h2 := List.all_eq_true.1 hls l hl
    have : l + 1 ≤ L := by simpa [Nat.ble_eq] using h2
    omega) v (fun ρ a w g => ⟨(g.actS htt ha).2, fun l hl => (rdL_lt (P := P) g ha l hl).2, fun x hx => g.act_at htt ha x hx⟩) k
/-- a state in which one of the chain ends: a value, memory, labels -/
structure Next1 (E : Base) (n L L' : Nat) (τ : List (Nat × AV)) (h h' : List (Nat × AO)) (F : World → Prop) (ws : List Nat) (ρ : Env) (a : Act) (w : World) (ρ' : Env) (v : AV) (w' : World) : Prop where
  low : v.Low ρ' L'
  same : ∀ l, l < L → ρ' l = ρ l
  gam : Gam E ρ' n L' τ h' F a w'
  old : ∀ l b, hk l h ≠ none → ρ l = some b → l ∉ ws → w.heap[b]? = w'.heap[b]?
def DD.act (h : List (Nat × AO)) (d : DD) (ws : List Nat) : DD := { d with j := d.j + 1, wl := (h, ws) :: d.wl }
def actD (h : List (Nat × AO)) (D : Option DD) (ws : List Nat) : Option DD := D.map fun d => d.act h ws
/-- one of the chain; nothing that is still to be looked at is turned -/
def chainB (h : List (Nat × AO)) (D : Option DD) (ws : List Nat) : Bool := match D with
  | none => true
  | some d => d.chB d.j && d.pend.all fun p => d.prB p.1 d.j || (!ws.elem p.2 && liveB p.2 h)
theorem pendC_ext {ρ ρ' : Env} {L : Nat} (he : ∀ l, l < L → ρ' l = ρ l) : ∀ (pend : List (Nat × Nat)), (∀ p ∈ pend, p.2 < L) → pendC ρ' pend = pendC ρ pend
  | [], _ => rfl
  | (i, l) :: r, h => by
    have := he l (h (i, l) (by simp))
    simp only [pendC, this, pendC_ext he r (fun p hp => h p (by simp [hp]))]
theorem pendC_mem {ρ : Env} : ∀ {pend : List (Nat × Nat)} {q : Nat × Nat}, q ∈ pendC ρ pend → ∃ l, (q.1, l) ∈ pend ∧ ρ l = some q.2
  | [], q, h => by simp [pendC] at h
  | (i, l) :: r, q, h => by
    simp only [pendC] at h
    split at h
    · rename_i b hb
      rcases List.mem_cons.1 h with rfl | h
      · exact ⟨l, by simp, hb⟩
      · obtain ⟨l', h1, h2⟩ := pendC_mem h
        exact ⟨l', by simp [h1], h2⟩
    · obtain ⟨l', h1, h2⟩ := pendC_mem h
      exact ⟨l', by simp [h1], h2⟩
/-- one of the chain -/
theorem RL.acts {σ : Type} (G : σ → Prop) (val : σ → AV) (L' : σ → Nat) (h' : σ → List (Nat × AO)) (F' : σ → World → Prop) (ws : List Nat) (hg : wantA ops o τ = some true) (hd : dOk n o.dst = true) (hk1 : chainB h D ws = true) (hL : ∀ s, G s → L ≤ L' s)
    (hv : ∀ ρ a w, Gam E ρ n L τ h F a w → goes P o a w fun v w' => ∃ s ρ', G s ∧ v = (val s).conc ρ' ∧ Next1 E n L (L' s) τ h (h' s) (F' s) ws ρ a w ρ' (val s) w')
    (k : ∀ s, G s → RL P ops Q (actD h D ws) E n (L' s) (putA o.dst (val s) τ) (h' s) (F' s) rest) : RL P ops Q D E n L τ h F (o :: rest) := by
  cases D with
  | none =>
    intro ρ a w g
    have hw := g.want hg
    refine wpList_step fun K hK => ?_
    rw [if_pos hw]
    refine goes_wp (hv ρ a w g) ?_
    rintro v w' ⟨s, ρ', hG, rfl, hN⟩
    exact hK _ _ (k s hG ρ' _ _ (hN.gam.put o.dst (val s) hd hN.low))
  | some d =>
    intro hops hpl hwl ρ a w Ws g hs
    have hw := g.want hg
    simp only [chainB, Bool.and_eq_true] at hk1
    simp only [List.length_cons, List.range'_succ, CH]
    intro o' ho'
    have h0 := hops 0
    simp only [List.getElem?_cons_zero, Nat.add_zero] at h0
    obtain rfl : o = o' := Option.some.inj (h0.trans ho')
    rw [if_pos hw, if_pos hk1.1]
    refine goes_mono (hv ρ a w g) ?_
    rintro v w' ⟨s, ρ', hG, rfl, hN⟩
    refine ⟨fun p hp hpr => ?_, ?_⟩
    · obtain ⟨l, h1, h2⟩ := pendC_mem hp
      have h3 := List.all_eq_true.1 hk1.2 _ h1
      simp only [Bool.or_eq_true, Bool.not_eq_true', Bool.and_eq_true] at h3
      rcases h3 with h3 | h3
      · rw [h3] at hpr; cases hpr
      · exact (hN.old l p.2 (liveB_iff.1 h3.2) h2 (fun hm => by have h4 := h3.1; rw [List.elem_iff.2 hm] at h4; cases h4)).symm
    · have h1 := k s hG (fun i => by have := hops (i + 1); simpa [DD.act, Nat.add_assoc, Nat.add_comm 1 i] using this) (fun p hp => Nat.lt_of_lt_of_le (hpl p hp) (hL s hG)) (fun p hp => by
          rcases List.mem_cons.1 hp with rfl | hp
          · intro l hl
            cases ho : hk l h with
            | none => exact absurd ho (liveB_iff.1 hl)
            | some ob => exact Nat.lt_of_lt_of_le (g.hp l ob ho).1 (hL s hG)
          · exact fun l hl => Nat.lt_of_lt_of_le (hwl p hp l hl) (hL s hG)) ρ' _ w' (w :: Ws) (hN.gam.put o.dst (val s) hd hN.low)
        ⟨fun l b hl hb hn => by
          have hll : l < L := by
            cases ho : hk l h with
            | none => exact absurd ho (liveB_iff.1 hl)
            | some ob => exact (g.hp l ob ho).1
          exact hN.old l b (liveB_iff.1 hl) (by rw [← hN.same l hll]; exact hb) hn, hs.ext hN.same hwl⟩
      have e : pendC ρ' (d.act h ws).pend = pendC ρ d.pend := pendC_ext hN.same _ hpl
      rw [e] at h1
      exact h1
end
end Go.Proofs.Yteabncomclgncaa
