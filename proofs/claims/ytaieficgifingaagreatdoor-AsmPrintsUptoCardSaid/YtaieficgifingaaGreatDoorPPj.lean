/- Texts of the claim, merged: only what the theorem needs. -/
import Derived.Test.YtaieficgifingaaGreatDoorPPi
import Derived.RangeFuncRecord
import Derived.RangeFuncSeq
import Derived.RangeFuncOwn
import Derived.TacticsIn
import Derived.WalkKit
namespace Go.Proofs.YtaieficgifingaaGreatDoor
set_option linter.unusedVariables false
set_option linter.unusedSimpArgs false
set_option linter.unusedSectionVars false
open Go.RowKit
theorem callsIn_round {P : Program} {lb : Nat} {f : FuncId} {args : Array Value} {w : World} {R : Ending → World → Prop} (h : Calls P f args w R) : CallsIn (Fence.wide.inRound lb) 0 P f args w R := (callsIn_wide (n := 0)).2 h
theorem rowsIn_round {P : Program} {lb : Nat} {row : String} {args : Array Value} {w : World} {R : Value → World → Prop} (h : Rows P row args w R) : RowsIn (Fence.wide.inRound lb) 0 P row args w R := fun c cs _ => by
  obtain ⟨v, w', h1, h2⟩ := h c cs
  exact ⟨v, w', h1, stepsIn_wide.2 h2⟩
theorem operIn {P : Program} {lb : Nat} {o : Oper} {a : Act} {w : World} {next next' : Act → World → Prop} {Q : Exit → Act → World → Prop} (hd : ∀ c, o.op ≠ .defer c) (hn : ∀ a w, next a w → next' a w) (h : o.wp P a w next Q) : o.wpIn (Fence.wide.inRound lb) 0 P a w next' Q := by
  refine ⟨fun _ _ => trivial, ?_⟩
  rw [Oper.semAt_eq _ _ _ hd]
  unfold Oper.wp at h
  generalize (execOp a.eval o).run P w = r at h
  cases r with
  | ok x w' =>
    cases x <;> simp only [Oper.upon] at h <;> simp only [Oper.uponIn]
    case value v => exact hn _ _ h
    case skip => exact hn _ _ h
    case defer d => exact hn _ _ h
    case enter f args =>
      refine ⟨fun e => (by cases e), callsIn_round (h.mono fun e w'' hq => ?_)⟩
      cases e with
      | returned v => exact hn _ _ hq
      | panicked ch => exact hq
      | outgrown => exact hq
    case row rw args => exact ⟨fun e => (by cases e), rowsIn_round (h.mono fun v w'' hq => hn _ _ hq)⟩
  | halt x w' => cases x <;> first | exact h | exact h.elim
theorem listIn {P : Program} {lb : Nat} {ops : Array Oper} {Q : Exit → Act → World → Prop} (hQ : ¬ LetsOut Q) : ∀ (l : List Oper), (∀ o ∈ l, ∀ c, o.op ≠ .defer c) → ∀ a w, wpList P ops Q l a w → wpListIn (Fence.wide.inRound lb) 0 P ops Q l a w
  | [], _, a, w, h => h
  | o :: rest, hd, a, w, h => by
    have ih := listIn (P := P) (lb := lb) (ops := ops) hQ rest (fun o' ho => hd o' (List.mem_cons_of_mem _ ho))
    simp only [wpList] at h
    simp only [wpListIn]
    by_cases hw : Region.wanted o (yielded ops a.tmps) = true
    · rw [if_pos hw] at h ⊢
      rcases h with h | h
      · exact operIn (hd o List.mem_cons_self) ih h
      · exact absurd h.2 hQ
    · rw [if_neg hw] at h ⊢
      exact ⟨fun _ _ => trivial, ih _ _ h⟩
def noDefer (l : List Oper) : Bool := l.all fun o => match o.op with
  | .defer _ => false
  | _ => true
theorem noDefer_get {l : List Oper} (h : noDefer l = true) : ∀ o ∈ l, ∀ c, o.op ≠ .defer c := fun o ho c e => by
  have := List.all_eq_true.1 h o ho
  rw [e] at this
  cases this
/-- code of a round -/
structure CR (P : Program) (lb : Nat) (c : Code) (Q : Exit → Act → World → Prop) (E : Base) (n L : Nat) (τ : List (Nat × AV)) (h : List (Nat × AO)) (F : World → Prop) : Prop where
  mk :: (out : ∀ ρ a w, Gam E ρ n L τ h F a w → c.wpIn (Fence.wide.inRound lb) 0 P Q a w)
section
variable {P : Program} {lb : Nat} {Q : Exit → Act → World → Prop} {E : Base} {n L : Nat} {τ : List (Nat × AV)} {h : List (Nat × AO)} {F : World → Prop}
theorem CR.seq {x y : Code} (k : CR P lb x (Exit.then (y.wpIn (Fence.wide.inRound lb) 0 P Q) Q) E n L τ h F) : CR P lb (.seq x y) Q E n L τ h F := ⟨fun ρ a w g => wpIn_seq (k.out ρ a w g)⟩
theorem X.thenR {y : Code} (k : CR P lb y Q E n L τ h F) : X (Exit.then (y.wpIn (Fence.wide.inRound lb) 0 P Q) Q) .normal E n L τ h F := ⟨fun ρ a w g => k.out ρ a w g⟩
theorem CR.block {id : Nat} {c : Code} (k : CR P lb c (Exit.inBlock id Q) E n L τ h F) : CR P lb (.block id c) Q E n L τ h F := ⟨fun ρ a w g => wpIn_block (k.out ρ a w g)⟩
theorem CR.skip (k : X Q .normal E n L τ h F) : CR P lb .skip Q E n L τ h F := ⟨fun ρ a w g => wpIn_skip (k.out ρ a w g)⟩
theorem CR.ret (k : X Q .ret E n L τ h F) : CR P lb .ret Q E n L τ h F := ⟨fun ρ a w g => wpIn_ret (k.out ρ a w g)⟩
theorem CR.exit {id : Nat} (k : X Q (.exit id) E n L τ h F) : CR P lb (.exit id) Q E n L τ h F := ⟨fun ρ a w g => wpIn_exit (k.out ρ a w g)⟩
theorem CR.tru {c : Operand} {x y : Code} (hc : evA τ c = some (.raw (.bool true))) (k : CR P lb x Q E n L τ h F) : CR P lb (.cond c x y) Q E n L τ h F := ⟨fun ρ a w g => wpIn_cond_true (g.eval c _ hc).2 (k.out ρ a w g)⟩
theorem CR.fls {c : Operand} {x y : Code} (hc : evA τ c = some (.raw (.bool false))) (k : CR P lb y Q E n L τ h F) : CR P lb (.cond c x y) Q E n L τ h F := ⟨fun ρ a w g => wpIn_cond_false (g.eval c _ hc).2 (k.out ρ a w g)⟩
theorem CR.region {id : Nat} {l : List Oper} (k : R P l.toArray Q none E n L τ h F l) (hd : noDefer l = true := by kernel_rfl) (hQ : ¬ LetsOut Q := by rintro ⟨_, _, h⟩; exact h) : CR P lb (.region id l.toArray false) Q E n L τ h F :=
  ⟨fun ρ a w g => wpIn_region_lit (listIn hQ l (noDefer_get hd) a w (k.out ρ a w g))⟩
theorem CR.fact {c : Code} {p : Prop} (hp : ∀ ρ a w, Gam E ρ n L τ h F a w → p) (k : p → CR P lb c Q E n L τ h F) : CR P lb c Q E n L τ h F := ⟨fun ρ a w g => (k (hp ρ a w g)).out ρ a w g⟩
end
section
variable {E : Base} {ρ : Env} {n L : Nat} {τ : List (Nat × AV)} {h : List (Nat × AO)} {F : World → Prop} {a : Act} {w : World} {h0 : List AO} {ρ0 : Env} {w0 : World} {fs0 fs : Fam}
theorem Gam.mem (g : Gam E ρ n L τ h F a w) {E1 : Base} (hN : E1.N ≤ L) (he : ∀ l, l < E1.N → ρ l = E1.ρ l) (hd : E1.df = []) : Gam E1 ρ 0 L [] h F ⟨#[], []⟩ w :=
  ⟨hd.symm, rfl, fun t v hv => by simp [lk] at hv, g.hp, g.dis, g.fr, he, hN, g.al⟩
theorem Gam.join {a0 : Act} (g : Gam E ρ 0 L [] h F a0 w) {E1 : Base} {a : Act} (hN : E1.N ≤ L) (he : ∀ l, l < E1.N → ρ l = E1.ρ l) (hd : a.defers = E1.df) (hsz : a.tmps.size = n) (ht : ∀ t v, lk t τ = some v → v.Low ρ L ∧ a.tmps[t]? = some (v.conc ρ)) : Gam E1 ρ n L τ h F a w :=
  ⟨hd, hsz, ht, g.hp, g.dis, g.fr, he, hN, g.al⟩
theorem Gam.grow (g : Gam E ρ n L τ h F a w) {w' : World} (hw : Below w.heap.size w w') : Gam E ρ n L τ h F a w' :=
  ⟨g.df, g.sz, g.tm, fun l o hl => by
    have hh := g.hp l o hl
    exact ⟨hh.1, hh.2.1, holds_same hh.2.2 fun b hb => hw.block b (g.al l b hh.1 hb)⟩, g.dis, fun x hx => g.fr x (((Ag.of_below hw).mono fun b hb _ => hb).trans hx), g.ex, g.le, fun l b hl hb => Nat.lt_of_lt_of_le (g.al l b hl hb) hw.size⟩
theorem holds_cells {o : AO} {b : Nat} (hg : o ≠ .gone) (h : o.holds ρ (some b) w) : ∃ x : Obj, w.heap[b]? = some x ∧ x.isCells = true := by
  cases o with
  | cells xs ty => obtain ⟨b', e, hb⟩ := h; cases e; exact ⟨_, hb, rfl⟩
  | bytes p cap ty =>
    obtain ⟨_, ⟨e, _⟩ | ⟨b', cur, e, hb, _⟩⟩ := h
    · cases e
    · cases e; exact ⟨_, hb, rfl⟩
  | tab wd n cap f ty =>
    obtain ⟨_, _, ⟨e, _⟩ | ⟨b', cur, e, hb, _⟩⟩ := h
    · cases e
    · cases e; exact ⟨_, hb, rfl⟩
  | ro wd off n f =>
    obtain ⟨e, _⟩ | ⟨b', cur, ty, fr, e, hb, _⟩ := h
    · cases e
    · cases e; exact ⟨_, hb, rfl⟩
  | gone => exact absurd rfl hg
theorem Gam.off (g : Gam E ρ n L τ h F a w) {b : Nat} {ob : Obj} (hb : w.heap[b]? = some ob) (hc : ob.isCells = false) {l : Nat} (hl : hk l h ≠ none) : ρ l ≠ some b := fun e => by
  cases hx : hk l h with
  | none => exact hl hx
  | some o =>
    have hh := (g.hp l o hx).2.2
    rw [e] at hh
    obtain ⟨x, h1, h2⟩ := holds_cells (fun e => hk_gone hx e) hh
    rw [hb] at h1
    cases h1
    rw [hc] at h2; cases h2
theorem Gam.turnO {b : Nat} {ob : Obj} (g : Gam E ρ n L τ h (FF h0 ρ0 w0 fs0 (⟨false, b, ob⟩ :: fs)) a w) (ob' : Obj) (hc : ob.isCells = false) (hfs : ∀ p ∈ fs, p.b ≠ b) (hb : w0.heap.size ≤ b) : Gam E ρ n L τ h (FF h0 ρ0 w0 fs0 (⟨false, b, ob'⟩ :: fs)) a (w.putObj b ob') := by
  have hat : w.heap[b]? = some ob := g.ff.at_ ⟨false, b, ob⟩ List.mem_cons_self
  have hlt : b < w.heap.size := (Array.getElem?_eq_some_iff.1 hat).1
  have hoff : ∀ l, hk l h ≠ none → ρ l ≠ some b := fun l hl => g.off hat hc hl
  refine ⟨g.df, g.sz, g.tm, fun l o hl => ?_, g.dis, fun w' hw' => ?_, g.ex, g.le, fun l b' hl hb' => by rw [World.putObj_size]; exact g.al l b' hl hb'⟩
  · have hh := g.hp l o hl
    exact ⟨hh.1, hh.2.1, holds_same hh.2.2 fun b' hb' => World.putObj_heap_other fun e => hoff l (by rw [hl]; simp) (e ▸ hb')⟩
  · have hsz : b < w'.heap.size := Nat.lt_of_lt_of_le (by rw [World.putObj_size]; exact hlt) hw'.size
    have hag : Ag (fun c => ∀ l, wrA l h → ρ l ≠ some c) w (putB w' b ob) := by
      refine ⟨hw'.os, hw'.tape, hw'.output, by have := hw'.size; simpa [putB] using this, fun c hc1 hd => ?_⟩
      by_cases e : c = b
      · subst e; rw [putB_same _ _ hsz, hat]
      · rw [putB_ne _ _ e, hw'.block c (by rw [World.putObj_size]; exact hc1) hd, World.putObj_heap_other e]
    have hall := g.fr _ hag
    have hb' : w'.heap[b]? = some ob' := by
      rw [hw'.block b (by rw [World.putObj_size]; exact hlt) fun l hl => hoff l hl.live]
      exact World.putObj_heap_same hlt
    have hap := List.pairwise_cons.1 hall.ap
    refine ⟨fun p hp => ?_, ⟨hall.ag.os, hall.ag.tape, hall.ag.output, by have := hall.ag.size; simpa [putB] using this, fun c hc1 hd => ?_⟩, List.pairwise_cons.2 ⟨fun q hq e => absurd e.symm (hfs q hq), hap.2⟩, fun p hp hrw => ?_, fun p hp => ?_, hall.pre⟩
    · rcases List.mem_cons.1 hp with rfl | hp
      · exact hb'
      · have := hall.at_ p (List.mem_cons_of_mem _ hp)
        rwa [putB_ne _ _ (hfs p hp)] at this
    · have h6 := hall.ag.block c hc1 hd
      rwa [putB_ne _ _ (by omega)] at h6
    · rcases List.mem_cons.1 hp with rfl | hp
      · cases hrw
      · exact hall.fre p (List.mem_cons_of_mem _ hp) hrw
    · rcases List.mem_cons.1 hp with rfl | hp
      · exact .inl hb
      · exact hall.bl p (List.mem_cons_of_mem _ hp)
/-- a block that is no cell, told as a fact -/
theorem Gam.tellO (g : Gam E ρ n L τ h (FF h0 ρ0 w0 fs0 fs) a w) {b : Nat} {ob : Obj} (hb : w.heap[b]? = some ob) (hc : ob.isCells = false) (hfs : ∀ p ∈ fs, p.b ≠ b) (h0b : w0.heap.size ≤ b) : Gam E ρ n L τ h (FF h0 ρ0 w0 fs0 (⟨false, b, ob⟩ :: fs)) a w :=
  g.strong fun w' hw' => by
    have hall := g.fr w' hw'
    refine ⟨fun p hp => ?_, hall.ag, List.pairwise_cons.2 ⟨fun q hq e => absurd e.symm (hfs q hq), hall.ap⟩, fun p hp hrw => ?_, fun p hp => ?_, hall.pre⟩
    · rcases List.mem_cons.1 hp with rfl | hp
      · exact (hw'.block b (Array.getElem?_eq_some_iff.1 hb).1 fun l hl => g.off hb hc hl.live).trans hb
      · exact hall.at_ p hp
    · rcases List.mem_cons.1 hp with rfl | hp
      · cases hrw
      · exact hall.fre p hp hrw
    · rcases List.mem_cons.1 hp with rfl | hp
      · exact .inl h0b
      · exact hall.bl p hp
end
/-- blocks that nothing is told of, told as facts -/
theorem Gam.tellX {E : Base} {ρ : Env} {n L : Nat} {τ : List (Nat × AV)} {h : List (Nat × AO)} {a : Act} {w : World} {h0 : List AO} {ρ0 : Env} {w0 : World} {fs0 : Fam} {p q : Fact} {fs : Fam} (g : Gam E ρ n L τ h (FF h0 ρ0 w0 fs0 (p :: q :: fs)) a w) (X : Fam) (hX : ∀ x ∈ X, x.rw = false ∧ w.heap[x.b]? = some x.ob) (h0b : ∀ x ∈ X, w0.heap.size ≤ x.b) (hfs : ∀ x ∈ X, ∀ z ∈ p :: q :: fs, z.b ≠ x.b) (hoff : ∀ x ∈ X, ∀ l, hk l h ≠ none → ρ l ≠ some x.b) :
    Gam E ρ n L τ h (FF h0 ρ0 w0 fs0 (p :: q :: (fs ++ X))) a w :=
  g.strong fun w' hw' => by
    have hall := g.fr w' hw'
    have hm : ∀ z, z ∈ p :: q :: (fs ++ X) → z ∈ p :: q :: fs ∨ z ∈ X := fun z hz => by
      simp only [List.mem_cons, List.mem_append] at hz ⊢
      rcases hz with h | h | h | h
      · exact .inl (.inl h)
      · exact .inl (.inr (.inl h))
      · exact .inl (.inr (.inr h))
      · exact .inr h
    refine ⟨fun z hz => ?_, hall.ag, ?_, fun z hz hrw => ?_, fun z hz => ?_, hall.pre⟩
    · rcases hm z hz with h | h
      · exact hall.at_ z h
      · have h1 := (hX z h).2
        exact (hw'.block z.b (Array.getElem?_eq_some_iff.1 h1).1 fun l hl => hoff z h l hl.live).trans h1
    · show List.Pairwise _ ((p :: q :: fs) ++ X)
      refine List.pairwise_append.2 ⟨hall.ap, apf_ro fun x hx => (hX x hx).1, fun x hx y hy e => absurd e (hfs y hy x hx)⟩
    · rcases hm z hz with h | h
      · exact hall.fre z h hrw
      · rw [(hX z h).1] at hrw; cases hrw
    · rcases hm z hz with h | h
      · exact hall.bl z h
      · exact .inl (h0b z h)
def FactC (lb : Nat) (p : Fact) : Prop := p.ob.isCells = true ∨ p.ob = .deferred (some []) ∨ p.b ≠ lb
theorem factC_off {fs : Fam} {w : World} {b : Nat} {r : Loop} (hat : AtF fs w) (hb : w.heap[b]? = some (.loop r)) (hc : ∀ p ∈ fs, FactC b p) : ∀ p ∈ fs, p.b ≠ b := fun p hp e => by
  have h1 := hat p hp
  rw [e, hb] at h1
  have h2 : p.ob = .loop r := (Option.some.inj h1).symm
  rcases hc p hp with h | h | h
  · rw [h2] at h; cases h
  · rw [h2] at h; cases h
  · exact h e
section
variable {P : Program} {lb : Nat} {E : Base} {n L : Nat} {τ : List (Nat × AV)} {h : List (Nat × AO)} {H0 : List AO} {R0 : Env} {W0 : World} {FS0 fs : Fam}
theorem Gam.turnL {ρ : Env} {a : Act} {w : World} {r : Loop} (g : Gam E ρ n L τ h (FF H0 R0 W0 FS0 (⟨false, lb, .loop r⟩ :: fs)) a w) (r' : Loop) (hfs : ∀ p ∈ fs, FactC lb p) (hlb : W0.heap.size ≤ lb) : Gam E ρ n L τ h (FF H0 R0 W0 FS0 (⟨false, lb, .loop r'⟩ :: fs)) a (w.putObj lb (.loop r')) :=
  g.turnO _ rfl (factC_off (fun p hp => g.ff.at_ p (List.mem_cons_of_mem _ hp)) (g.ff.at_ ⟨false, lb, .loop r⟩ List.mem_cons_self) hfs) hlb
/-- the left sides are assigned: the body -/
theorem X.begin_ {r : Loop} {body : Code} {Q : Exit → Act → World → Prop} (hfs : ∀ p ∈ fs, FactC lb p) (hlb : W0.heap.size ≤ lb) (hr : r.state = .ready) (k : CR P lb body Q E n L τ h (FF H0 R0 W0 FS0 (⟨false, lb, .loop { r with state := .busy }⟩ :: fs))) :
    X (Exit.then (fun a₁ w₁ => ∃ w₂, (Instr.beginRound lb).run P w₁ = .ok () w₂ ∧ body.wpIn (Fence.wide.inRound lb) 0 P Q a₁ w₂) (fun _ _ _ => False)) .normal E n L τ h (FF H0 R0 W0 FS0 (⟨false, lb, .loop r⟩ :: fs)) := ⟨fun ρ a w g => by
  have hat : w.heap[lb]? = some (.loop r) := g.ff.at_ ⟨false, lb, .loop r⟩ List.mem_cons_self
  exact ⟨_, run_beginRound hat hr, k.out ρ a _ (g.turnL _ hfs hlb)⟩⟩
theorem X.endN {r : Loop} {R : Ending → World → Prop} (hfs : ∀ p ∈ fs, FactC lb p) (hlb : W0.heap.size ≤ lb) (k : ∀ ρ a w, Gam E ρ n L τ h (FF H0 R0 W0 FS0 (⟨false, lb, .loop { r with state := .ready, pending := none }⟩ :: fs)) a w → R (.returned (.bool true)) w) :
    X (roundPost P lb R) .normal E n L τ h (FF H0 R0 W0 FS0 (⟨false, lb, .loop r⟩ :: fs)) := ⟨fun ρ a w g => by
  have hat : w.heap[lb]? = some (.loop r) := g.ff.at_ ⟨false, lb, .loop r⟩ List.mem_cons_self
  exact ⟨_, _, run_endRound none hat, k ρ a _ (g.turnL _ hfs hlb)⟩⟩
end
/-- an iterator's contract -/
def ItC (P : Program) (gf : FuncId) (lb : Array Value) {σ α : Type} (enc : α → Array Value) (See : σ → World → Prop) (Pre : σ → α → Prop) (Nx : σ → α → σ → Prop) (Ini Fin : σ → Prop) : Prop :=
  ∀ (l : Nat) (J Jx : σ → World → Prop) (s0 : σ) (W : World), (∀ s W W', J s W → Below W.heap.size W W' → J s W') → (∀ s W W', Jx s W → Below W.heap.size W W' → Jx s W') → (∀ s W, J s W → See s W) →
    (∀ s x W1 W2, J s W1 → Below W1.heap.size W1 W2 → Pre s x → YieldAt Fence.wide 0 P l (enc x) W2 fun e W' => (e = .returned (.bool true) ∧ (∃ s', J s' W' ∧ Nx s x s') ∧ ∀ b, W1.heap.size ≤ b → b < W2.heap.size → W'.heap[b]? = W2.heap[b]?) ∨ (e = .returned (.bool false) ∧ ∃ s', Jx s' W')) →
    J s0 W → Ini s0 → CallsIn Fence.wide 0 P gf (#[.func (.yield l) #[] #[]] ++ lb) W fun e W' => (∃ v, e = .returned v) ∧ ((∃ s, J s W' ∧ Fin s) ∨ ∃ s, Jx s W')
/-- a state between two rounds; one that a round has left for good -/
def Jst {σ : Type} (E1 : Base) (L : Nat) (Inv : σ → Prop) (H : σ → List (Nat × AO)) (H0 : List AO) (R0 : Env) (W0 : World) (FS0 : Fam) (fsI : σ → Fam) (s : σ) (W : World) : Prop := Inv s ∧ ∃ ρ, Gam E1 ρ 0 L [] (H s) (FF H0 R0 W0 FS0 (fsI s)) ⟨#[], []⟩ W
abbrev markD (D : Nat) : Deferred := { target := .collected D, args := #[] }
abbrev dFact (D : Nat) : Fact := ⟨false, D, .deferred (some [])⟩
abbrev rFact (lb : Nat) (r : Loop) : Fact := ⟨false, lb, .loop r⟩
/-- a round's end: on, or out by a return -/
def rPost {σ α : Type} (J Jx : σ → World → Prop) (Nx : σ → α → σ → Prop) (X : Fam) (s : σ) (x : α) (e : Ending) (W' : World) : Prop := (e = .returned (.bool true) ∧ (∃ s', J s' W' ∧ Nx s x s') ∧ AtF X W') ∨ (e = .returned (.bool false) ∧ ∃ s', Jx s' W')
abbrev rndQ (P : Program) (lb : Nat) (body : Code) (R : Ending → World → Prop) : Exit → Act → World → Prop := Exit.then (fun a₁ w₁ => ∃ w₂, (Instr.beginRound lb).run P w₁ = .ok () w₂ ∧ body.wpIn (Fence.wide.inRound lb) 0 P (roundPost P lb R) a₁ w₂) (fun _ _ _ => False)
theorem jst_grow {σ : Type} {E1 : Base} {L : Nat} {Inv : σ → Prop} {H : σ → List (Nat × AO)} {H0 : List AO} {R0 : Env} {W0 : World} {FS0 : Fam} {fsI : σ → Fam} (s : σ) (W W' : World) (h : Jst E1 L Inv H H0 R0 W0 FS0 fsI s W) (hw : Below W.heap.size W W') : Jst E1 L Inv H H0 R0 W0 FS0 fsI s W' := by
  obtain ⟨h1, ρ, g⟩ := h
  exact ⟨h1, ρ, g.grow hw⟩
theorem zip2 (p q : Tmp) (x y : Value) (t : Array Value) : ((#[p, q] : Array Tmp).zip #[x, y]).foldl (fun t (a : Tmp × Value) => t.setIfInBounds a.1 a.2) t = (t.setIfInBounds p x).setIfInBounds q y := by
  rw [← Array.foldl_toList, Array.toList_zip]
  rfl
section
variable {P : Program} {Q : Exit → Act → World → Prop} {E : Base} {n L : Nat} {τ : List (Nat × AV)} {H0 : List AO} {R0 : Env} {W0 : World} {FS0 : Fam}
/-- A range over a function, in a call's own frame (not in a round). -/
theorem C.range {σ α : Type} {g : Operand} {p q : Tmp} {assign body : Code} {gf : FuncId} {cs : List AV} {H HX : σ → List (Nat × AO)} {fsI fsX : σ → Fam} {u v : α → Value} (N1 LX : Nat) (s0 : σ) (Inv InvX : σ → Prop) (Pre : σ → α → Prop) (Nx : σ → α → σ → Prop) (Ini Fin : σ → Prop) (See : Env → σ → World → Prop)
    (hg : evA τ g = some (.fn gf cs)) (eg : ∀ args w, (callFunc gf args).run P w = .ok (.enter gf args) w) (hI : Inv s0) (hi0 : Ini s0) (hb : (AV.bds N1 cs && (τ.all fun x => x.2.bd N1) && Nat.ble E.N N1 && Nat.ble N1 L && Nat.ble (p + 1) n && Nat.ble (q + 1) n && !Nat.beq p q && Nat.ble N1 LX) = true)
    (hcI : ∀ s, Inv s → ∀ x ∈ fsI s, x.ob.isCells = true) (hcX : ∀ s, InvX s → ∀ x ∈ fsX s, x.ob.isCells = true)
    (hsee : ∀ ρ1 ρ s W fs, (∀ l, l < N1 → ρ l = ρ1 l) → Inv s → (∀ x ∈ fsI s, x ∈ fs) → Gam ⟨N1, ρ1, []⟩ ρ 0 L [] (H s) (FF H0 R0 W0 FS0 fs) ⟨#[], []⟩ W → See ρ1 s W)
    (hit : ∀ ρ1 : Env, (∀ l, l < E.N → ρ1 l = E.ρ l) → ItC P gf (AV.concs ρ1 cs).toArray (fun x => #[u x, v x]) (See ρ1) Pre Nx Ini Fin)
    (hround : ∀ (ρ1 : Env) (lb D : Nat) (r : Loop) (X : Fam) s x, (∀ l, l < E.N → ρ1 l = E.ρ l) → r.state = .ready → r.pending = none → W0.heap.size ≤ lb → (∀ p ∈ X, p.rw = false ∧ p.b ≠ lb) → Inv s → Pre s x →
      CR P lb assign (rndQ P lb body (rPost (Jst ⟨N1, ρ1, []⟩ L Inv H H0 R0 W0 FS0 fun s => rFact lb r :: dFact D :: fsI s) (Jst ⟨N1, ρ1, []⟩ LX InvX HX H0 R0 W0 FS0 fun s => rFact lb { r with state := .done, pending := some .ret } :: dFact D :: fsX s) Nx X s x))
        ⟨N1, ρ1, []⟩ n L ((q, .raw (v x)) :: (p, .raw (u x)) :: τ) (H s) (FF H0 R0 W0 FS0 (rFact lb r :: dFact D :: (fsI s ++ X))))
    (hdone : ∀ s D, W0.heap.size ≤ D → Inv s → Fin s → X Q .normal ⟨E.N, E.ρ, markD D :: E.df⟩ n L τ (H s) (FF H0 R0 W0 FS0 (dFact D :: fsI s)))
    (hstop : ∀ s D, W0.heap.size ≤ D → InvX s → X Q .ret ⟨E.N, E.ρ, markD D :: E.df⟩ n LX τ (HX s) (FF H0 R0 W0 FS0 (dFact D :: fsX s))) :
    C P (.rangeFunc g #[p, q] assign body) Q E n L τ (H s0) (FF H0 R0 W0 FS0 (fsI s0)) := ⟨fun ρ1 a w g0 => by
  simp only [Bool.and_eq_true, Nat.ble_eq, Bool.not_eq_true', List.all_eq_true] at hb
  obtain ⟨⟨⟨⟨⟨⟨⟨hcs, hτ⟩, hN⟩, hNL⟩, hp⟩, hq⟩, hpq⟩, hNX⟩ := hb
  have hpq : p ≠ q := fun e => by subst e; rw [Nat.beq_refl] at hpq; cases hpq
  refine (wpIn_wide (n := 0)).1 (wpIn_rangeFunc ?_)
  intro fn _
  obtain ⟨rec, hrec⟩ : ∃ rec : LoopState → Option Code → Loop, rec = fun st pe => { state := st, pending := pe, fn, tmps := a.tmps, params := #[p, q], assign, body, defers := w.heap.size } := ⟨_, rfl⟩
  obtain ⟨W1, hW1⟩ : ∃ W1, (w.alloc (.deferred (some []))).alloc (.loop (rec .ready none)) = W1 := ⟨_, rfl⟩
  have hL1 : W1.heap[w.heap.size + 1]? = some (.loop (rec .ready none)) := by
    rw [← hW1]; have := World.alloc_heap_new (w.alloc (.deferred (some []))) (.loop (rec .ready none)); rwa [World.size_alloc] at this
  have hK1 : W1.heap[w.heap.size]? = some (.deferred (some [])) := by
    rw [← hW1]; exact (Below.heap_alloc _ _ _ (by simp)).trans (World.alloc_heap_new w _)
  have hb1 : Below w.heap.size w W1 := by
    rw [← hW1]; exact ((Below.refl _ w).alloc (Nat.le_refl _) _).alloc (by simp) _
  have h0w : W0.heap.size ≤ w.heap.size := g0.ff.ag.size
  have hev : a.eval g = .func (.func gf) #[] (AV.concs ρ1 cs).toArray := (g0.eval g _ hg).2
  have hpin : ∀ l, l < E.N → ρ1 l = E.ρ l := g0.ex
  -- the state without slots, with the two blocks told
  have gm : Gam ⟨N1, ρ1, []⟩ ρ1 0 L [] (H s0) (FF H0 R0 W0 FS0 (rFact (w.heap.size + 1) (rec .ready none) :: dFact w.heap.size :: fsI s0)) ⟨#[], []⟩ W1 := by
    have g1 : Gam ⟨N1, ρ1, []⟩ ρ1 0 L [] (H s0) (FF H0 R0 W0 FS0 (fsI s0)) ⟨#[], []⟩ W1 := (g0.mem (E1 := ⟨N1, ρ1, []⟩) hNL (fun _ _ => rfl) rfl).grow hb1
    have hlt : ∀ x ∈ fsI s0, x.b < w.heap.size := fun x hx => g0.ff.lt hx
    have g2 := g1.tellO hK1 rfl (fun x hx => by have := hlt x hx; omega) (by omega)
    exact g2.tellO hL1 rfl (fun x hx => by
      rcases List.mem_cons.1 hx with rfl | hx
      · show w.heap.size ≠ w.heap.size + 1; omega
      · have := hlt x hx; omega) (by omega)
  refine ⟨w.heap.size + 1, [{ target := .collected w.heap.size, args := #[] }], W1, { target := .fn (.func gf) (AV.concs ρ1 cs).toArray, args := #[.func (.yield (w.heap.size + 1)) #[] #[]] }, W1, gf,
    #[.func (.yield (w.heap.size + 1)) #[] #[]] ++ (AV.concs ρ1 cs).toArray, W1, ?_, ?_, ?_, ?_, fun e => (by cases e), ?_⟩
  · rw [← hW1, hrec]; exact run_enterLoop_outer _ _ _ _ _
  · simp only [resolve, hev]
    simp [go_sem]
  · intro f' _; trivial
  · simp [invoke, go_sem, eg]
  · have hfI : ∀ s, Inv s → ∀ x ∈ dFact w.heap.size :: fsI s, FactC (w.heap.size + 1) x := fun s hs x hx => by
      rcases List.mem_cons.1 hx with rfl | hx
      · exact .inr (.inl rfl)
      · exact .inl (hcI s hs x hx)
    have hfX : ∀ s, InvX s → ∀ x ∈ dFact w.heap.size :: fsX s, FactC (w.heap.size + 1) x := fun s hs x hx => by
      rcases List.mem_cons.1 hx with rfl | hx
      · exact .inr (.inl rfl)
      · exact .inl (hcX s hs x hx)
    -- slots behind the loop
    have htm : ∀ ρ : Env, (∀ l, l < N1 → ρ l = ρ1 l) → ∀ t y, lk t τ = some y → y.Low ρ N1 ∧ a.tmps[t]? = some (y.conc ρ) := fun ρ he t y hy => by
      have hbd := hτ _ (lk_mem hy)
      exact ⟨bdLow hbd _, by rw [(g0.tm t y hy).2, bd_low y hbd ρ1 ρ he]⟩
    refine (hit ρ1 hpin (w.heap.size + 1) (Jst ⟨N1, ρ1, []⟩ L Inv H H0 R0 W0 FS0 fun s => rFact (w.heap.size + 1) (rec .ready none) :: dFact w.heap.size :: fsI s)
      (Jst ⟨N1, ρ1, []⟩ LX InvX HX H0 R0 W0 FS0 fun s => rFact (w.heap.size + 1) { rec .ready none with state := .done, pending := some .ret } :: dFact w.heap.size :: fsX s) s0 W1 (fun s W W' h hw => jst_grow s W W' h hw) (fun s W W' h hw => jst_grow s W W' h hw)
      (fun s W ⟨h1, ρ, g⟩ => hsee ρ1 ρ s W _ g.ex h1 (fun x hx => List.mem_cons_of_mem _ (List.mem_cons_of_mem _ hx)) g) ?_ ⟨hI, ρ1, gm⟩ hi0).mono ?_
    · rintro s x Wa W ⟨hs, ρ, ga⟩ hgr hpre
      obtain ⟨X, hXe⟩ : ∃ X : Fam, X = (List.range' Wa.heap.size (W.heap.size - Wa.heap.size)).map fun b => ⟨false, b, W.heap.getD b default⟩ := ⟨_, rfl⟩
      have hXg : ∀ y ∈ X, y.rw = false ∧ Wa.heap.size ≤ y.b ∧ W.heap[y.b]? = some y.ob := fun y hy => by
        rw [hXe] at hy
        obtain ⟨b, hb, rfl⟩ := List.mem_map.1 hy
        have hb := List.mem_range'_1.1 hb
        have hlt : b < W.heap.size := by omega
        exact ⟨rfl, hb.1, by simp [Array.getD, hlt]⟩
      have hltA : ∀ y ∈ rFact (w.heap.size + 1) (rec .ready none) :: dFact w.heap.size :: fsI s, y.b < Wa.heap.size := fun y hy => ga.ff.lt hy
      have gs := (ga.grow hgr).tellX X (fun y hy => ⟨(hXg y hy).1, (hXg y hy).2.2⟩) (fun y hy => by have := ga.ff.ag.size; have := (hXg y hy).2.1; omega) (fun y hy z hz e => by have := hltA z hz; have := (hXg y hy).2.1; omega) (fun y hy l hl e => by
        have h1 := (hXg y hy).2.1
        cases hx : hk l (H s) with
        | none => exact hl hx
        | some o => have := ga.al l y.b (ga.hp l o hx).1 e; omega)
      have hat : W.heap[w.heap.size + 1]? = some (.loop (rec .ready none)) := gs.ff.at_ (rFact (w.heap.size + 1) (rec .ready none)) List.mem_cons_self
      have hy := run_yield (P := P) (args := #[u x, v x]) hat (by rw [hrec]; rfl)
      refine ⟨_, _, _, _, hy, RoundIn.mono (R := rPost (Jst ⟨N1, ρ1, []⟩ L Inv H H0 R0 W0 FS0 fun s => rFact (w.heap.size + 1) (rec .ready none) :: dFact w.heap.size :: fsI s) (Jst ⟨N1, ρ1, []⟩ LX InvX HX H0 R0 W0 FS0 fun s => rFact (w.heap.size + 1) { rec .ready none with state := .done, pending := some .ret } :: dFact w.heap.size :: fsX s) Nx X s x) (roundIn_of_wpIn trivial ?_) ?hp⟩
      case hp =>
        rintro e W' (⟨rfl, h1, h2⟩ | h)
        · refine .inl ⟨rfl, h1, fun b hb1 hb2 => ?_⟩
          have := h2 ⟨false, b, W.heap.getD b default⟩ (by rw [hXe]; exact List.mem_map.2 ⟨b, List.mem_range'_1.2 ⟨hb1, by omega⟩, rfl⟩)
          rw [this]
          simp [Array.getD, hb2]
        · exact .inr h
      have hst : (rec .ready none).state = .ready := by rw [hrec]
      have hpe : (rec .ready none).pending = none := by rw [hrec]
      have hR := hround ρ1 (w.heap.size + 1) w.heap.size (rec .ready none) X s x hpin hst hpe (by omega) (fun y hy => ⟨(hXg y hy).1, fun e => by have h1 := hltA _ List.mem_cons_self; have h2 := (hXg y hy).2.1; have h1 : w.heap.size + 1 < Wa.heap.size := h1; omega⟩) hs hpre
      have e1 : (rec .ready none).assign = assign := by rw [hrec]
      have e2 : (rec .ready none).body = body := by rw [hrec]
      have e3 : (rec .ready none).params = #[p, q] := by rw [hrec]
      have e4 : (rec .ready none).tmps = a.tmps := by rw [hrec]
      rw [e1, e2, e3, e4, zip2]
      refine hR.out ρ _ W (gs.join (E1 := ⟨N1, ρ1, []⟩) hNL gs.ex rfl (by simp [g0.sz]) fun t y hy => ?_)
      have hsz := g0.sz
      rw [lk_cons] at hy
      split at hy
      · rename_i e
        subst e
        cases hy
        refine ⟨AV.Low.raw _ _ _, ?_⟩
        rw [Array.getElem?_setIfInBounds_self]
        simp [hsz]
        exact ⟨hq, rfl⟩
      · rename_i eq
        rw [lk_cons] at hy
        split at hy
        · rename_i e
          subst e
          cases hy
          refine ⟨AV.Low.raw _ _ _, ?_⟩
          rw [Array.getElem?_setIfInBounds_ne (fun e => hpq e.symm), Array.getElem?_setIfInBounds_self]
          simp [hsz]
          exact ⟨hp, rfl⟩
        · rename_i ep
          have := htm ρ gs.ex t y hy
          exact ⟨this.1.mono hNL, by rw [Array.getElem?_setIfInBounds_ne eq, Array.getElem?_setIfInBounds_ne ep]; exact this.2⟩
    · rintro e W2 ⟨⟨val, rfl⟩, (⟨s, ⟨hs, ρ, gs⟩, hfin⟩ | ⟨s, hs, ρ, gs⟩)⟩
      · have hat : W2.heap[w.heap.size + 1]? = some (.loop (rec .ready none)) := gs.ff.at_ (rFact (w.heap.size + 1) (rec .ready none)) List.mem_cons_self
        have hst : (rec .ready none).state = .ready := by rw [hrec]
        have hpe : (rec .ready none).pending = none := by rw [hrec]
        refine ⟨none, _, (run_endLoop (P := P) hat (by rw [hst]; simp)).trans (congrArg (fun o => Result.ok o (W2.putObj (w.heap.size + 1) (.loop { rec .ready none with state := .exhausted }))) hpe), ?_⟩
        have g2 := gs.turnL { rec .ready none with state := .exhausted } (hfI s hs) (by omega)
        have g3 : Gam ⟨N1, ρ1, []⟩ ρ 0 L [] (H s) (FF H0 R0 W0 FS0 (dFact w.heap.size :: fsI s)) ⟨#[], []⟩ _ := g2.strong fun w' hw' => (g2.fr w' hw').less (fun x hx => List.mem_cons_of_mem _ hx) (List.pairwise_cons.1 (g2.fr w' hw').ap).2
        refine (hdone s w.heap.size h0w hs hfin).out ρ _ _ (g3.join (a := { a with defers := [markD w.heap.size] ++ a.defers }) (E1 := ⟨E.N, E.ρ, markD w.heap.size :: E.df⟩) (Nat.le_trans hN hNL) (fun l hl => (gs.ex l (Nat.lt_of_lt_of_le hl hN)).trans (hpin l hl)) ?_ g0.sz fun t y hy => ?_)
        · show [markD w.heap.size] ++ a.defers = _
          rw [g0.df]; rfl
        · have := htm ρ gs.ex t y hy
          exact ⟨this.1.mono hNL, this.2⟩
      · obtain ⟨r', hr'⟩ : ∃ r' : Loop, r' = { rec .ready none with state := .done, pending := some .ret } := ⟨_, rfl⟩
        rw [← hr'] at gs
        have hat : W2.heap[w.heap.size + 1]? = some (.loop r') := gs.ff.at_ (rFact (w.heap.size + 1) r') List.mem_cons_self
        refine ⟨some .ret, _, (run_endLoop (P := P) hat (by rw [hr']; simp)).trans (congrArg (fun o => Result.ok o (W2.putObj (w.heap.size + 1) (.loop { r' with state := .exhausted }))) (show r'.pending = some .ret by rw [hr'])), ?_⟩
        have g2 := gs.turnL { r' with state := .exhausted } (hfX s hs) (by omega)
        have g3 : Gam ⟨N1, ρ1, []⟩ ρ 0 LX [] (HX s) (FF H0 R0 W0 FS0 (dFact w.heap.size :: fsX s)) ⟨#[], []⟩ _ := g2.strong fun w' hw' => (g2.fr w' hw').less (fun x hx => List.mem_cons_of_mem _ hx) (List.pairwise_cons.1 (g2.fr w' hw').ap).2
        refine wpIn_ret ((hstop s w.heap.size h0w hs).out ρ _ _ (g3.join (a := { a with defers := [markD w.heap.size] ++ a.defers }) (E1 := ⟨E.N, E.ρ, markD w.heap.size :: E.df⟩) (Nat.le_trans hN hNX) (fun l hl => (gs.ex l (Nat.lt_of_lt_of_le hl hN)).trans (hpin l hl)) ?_ g0.sz fun t y hy => ?_))
        · show [markD w.heap.size] ++ a.defers = _
          rw [g0.df]; rfl
        · have := htm ρ gs.ex t y hy
          exact ⟨this.1.mono hNX, this.2⟩⟩
end
end Go.Proofs.YtaieficgifingaaGreatDoor
namespace Go.Proofs.YtaieficgifingaaGreatDoor
set_option linter.unusedVariables false
set_option linter.unusedSimpArgs false
set_option linter.unusedSectionVars false
open Go.RowKit
theorem gam_enter (ρ : Env) (avs : List AV) (h0 : List AO) (w : World) (n : Nat) (hlen : Nat.ble avs.length n = true) (hbd : AV.bds h0.length avs = true)
    (hbo : ∀ o ∈ h0, o.Bd h0.length) (hh : ∀ (i : Nat) (o : AO), h0[i]? = some o → o.holds ρ (ρ i) w) (hdis : ∀ i j o b, h0[i]? = some o → o.isRo = false → j < h0.length → ρ i = some b → ρ j = some b → i = j) (hal : ∀ i b, i < h0.length → ρ i = some b → b < w.heap.size) :
    Gam ⟨h0.length, ρ, []⟩ ρ n h0.length (slots 0 avs) (labels 0 h0) (fun w' => Ag (fun b => ¬ Wr0 h0 ρ b) w w') { tmps := (AV.concs ρ avs).toArray ++ Array.replicate (n - (AV.concs ρ avs).toArray.size) undef, defers := [] } w := by
  have hlen' : avs.length ≤ n := by simpa [Nat.ble_eq] using hlen
  refine ⟨rfl, by simp [concs_length]; omega, fun t v hv => ?_, fun l o ho => ?_, fun l l' b hl hl' hb1 hb2 => ?_, fun w' hw => ?_, fun _ _ => rfl, Nat.le_refl _, hal⟩
  · have := (lk_slots avs 0 t v hv).2
    rw [Nat.sub_zero] at this
    refine ⟨bdLow (bds_all hbd v (List.mem_of_getElem? this)) ρ, ?_⟩
    have hlt : t < avs.length := (List.getElem?_eq_some_iff.1 this).1
    simp only [Array.getElem?_append, List.size_toArray, concs_length, hlt, if_true]
    simpa using concs_get this
  · have := (hk_labels h0 0 l o ho).2
    rw [Nat.sub_zero] at this
    exact ⟨(List.getElem?_eq_some_iff.1 this).1, (hbo o (List.mem_of_getElem? this)).low ρ, hh l o this⟩
  · have e : ∀ l, hk l (labels 0 h0) ≠ none → l < h0.length := fun l hl => by
      cases ho : hk l (labels 0 h0) with
      | none => exact absurd ho hl
      | some o =>
        have := (hk_labels h0 0 l o ho).2
        rw [Nat.sub_zero] at this
        exact (List.getElem?_eq_some_iff.1 this).1
    obtain ⟨o, ho, hro⟩ := hl
    have := (hk_labels h0 0 l o ho).2
    rw [Nat.sub_zero] at this
    exact hdis l l' o b this hro (e l' hl') hb1 hb2
  · refine hw.mono fun b _ hd l hl hb => hd ?_
    obtain ⟨o, ho, hro⟩ := hl
    have := (hk_labels h0 0 l o ho).2
    rw [Nat.sub_zero] at this
    exact ⟨l, o, this, hro, hb⟩
theorem Gam.outcF {n L : Nat} {τ : List (Nat × AV)} {h : List (Nat × AO)} {a : Act} {w : World} {σ : Type} {h0 : List AO} {m : Nat} {ρ ρ0 : Env} {w0 : World} {fs0 fsE : Fam} {ds : List Deferred} {G : σ → Prop} {val : σ → AV} {post : σ → List (Nat × AO)} {fs' : σ → Fam} {v : AV}
    (g : Gam ⟨h0.length, ρ0, ds⟩ ρ n L τ h (FF h0 ρ0 w0 fs0 fsE) a w) (s : σ) (rl : List (Nat × Nat)) (hG : G s)
    (hv : v = (val s).ren (rnF rl)) (hb : ((val s).bd m && rnB h0.length m L rl && newB h0.length rl h (post s) && oldB h0 (post s) && nodupB (((post s).map (·.1)).map (rnF rl))) = true) (hh : HasH (rnF rl) m h (post s))
    (hfs : ∀ w, FF h0 ρ0 w0 fs0 fsE w → ApF (fs' s)) (hin : ∀ p ∈ fs' s, p ∈ fsE) (hall : ∀ p ∈ fs0, p.rw = true → BlF fsE p.b) : OutcF h0 m ρ0 w0 fs0 G val post fs' (.returned (v.conc ρ)) w := by
  simp only [Bool.and_eq_true] at hb
  obtain ⟨⟨⟨⟨h1, h2⟩, h3⟩, h4⟩, h5⟩ := hb
  obtain ⟨h6, h7, h8⟩ := rn_ok h2
  have g2 := g.imp (rnF rl) m [] (post s) _ h6 h7 h8 trivial hh h5 (fun _ h => h)
  refine ⟨s, fun l => ρ (rnF rl l), hG, fun i hi => g2.ex i hi, by rw [hv, ren_conc], bdLow h1 _, g.ff.less hin (hfs w g.ff), g2.hp, g2.dis, fun l b h1 h3 => g.al (rnF rl l) b (h7 l h1) h3, fun l b hl hlive hb => ?_, oldB_mem h4, fun l b hl hb ⟨p, hp, he⟩ => ?_⟩
  · rcases g.freF (newB_mem h3 l hlive hl) hb with h9 | h9 | ⟨p, hp, hrw, he⟩
    · exact .inl h9
    · exact .inr h9
    · obtain ⟨q, hq, hqe⟩ := hall p hp hrw
      exact absurd (by rw [hqe, he]; exact hb) (g.apF hq (newB_mem h3 l hlive hl))
  · exact g2.apF (hin p hp) hl (by rw [he]; exact hb)
section
variable {P : Program} {n L : Nat} {τ : List (Nat × AV)} {h : List (Nat × AO)}
/-- the end, where the loop was not come to -/
theorem X.finN {tt : List (Nat × TI)} (htt : TTok P tt) {fn : Func} {σ : Type} {h0 : List AO} {m : Nat} {ρ0 : Env} {w0 : World} {fs0 fsE : Fam} {G : σ → Prop} {val : σ → AV} {post : σ → List (Nat × AO)} {fs' : σ → Fam} {vs : List AV} (s : σ) (rl : List (Nat × Nat)) (hG : G s) (hr : resA tt h τ fn.results.toList = some vs)
    (hv : resV vs = (val s).ren (rnF rl)) (hb : ((val s).bd m && rnB h0.length m L rl && newB h0.length rl h (post s) && oldB h0 (post s) && nodupB (((post s).map (·.1)).map (rnF rl))) = true) (hh : HasH (rnF rl) m h (post s)) (e : Exit) (he : e = .ret ∨ e = .normal)
    (hfs : ∀ w, FF h0 ρ0 w0 fs0 fsE w → ApF (fs' s)) (hin : ∀ p ∈ fs' s, p ∈ fsE) (hall : ∀ p ∈ fs0, p.rw = true → BlF fsE p.b) :
    X (bodyPostM Fence.wide 0 P fn (OutcF h0 m ρ0 w0 fs0 G val post fs')) e ⟨h0.length, ρ0, []⟩ n L τ h (FF h0 ρ0 w0 fs0 fsE) := by
  have key : ∀ ρ a w, Gam ⟨h0.length, ρ0, []⟩ ρ n L τ h (FF h0 ρ0 w0 fs0 fsE) a w → LeavesInM Fence.wide 0 P fn a.tmps (OutcF h0 m ρ0 w0 fs0 G val post fs') a.defers .returning w := fun ρ a w g => by
    rw [g.df]
    exact ⟨_, run_results htt g hr, g.outcF s rl hG hv hb hh hfs hin hall⟩
  rcases he with rfl | rfl
  · exact ⟨fun ρ a w g => key ρ a w g⟩
  · exact ⟨fun ρ a w g => key ρ a w g⟩
/-- a round's end: on -/
theorem X.next {σ α : Type} {lb : Nat} {E1 : Base} {L2 LX : Nat} {Inv InvX : σ → Prop} {H HX : σ → List (Nat × AO)} {H0 : List AO} {R0 : Env} {W0 : World} {FS0 fsE X0 : Fam} {fsI fsX : σ → Fam} {r : Loop} {Nx : σ → α → σ → Prop} {s : σ} {x : α} (rl : List (Nat × Nat)) (s' : σ) (hI : Inv s') (hn : Nx s x s') (hr : r.state = .ready) (hp : r.pending = none) (hE : E1.df = [])
    (hb : rnB E1.N L2 L rl = true) (hh : HasH (rnF rl) L2 h (H s')) (hnd : nodupB (((H s').map (·.1)).map (rnF rl)) = true) (hlb : W0.heap.size ≤ lb) (hfs : ∀ p ∈ fsE, FactC lb p) (hF : ∀ w, FF H0 R0 W0 FS0 fsE w → FF H0 R0 W0 FS0 (fsI s') w) (hsub : ∀ p ∈ fsI s', FactC lb p) (hX : ∀ p ∈ X0, p ∈ fsE) :
    X (roundPost P lb (rPost (Jst E1 L2 Inv H H0 R0 W0 FS0 fun s => rFact lb r :: fsI s) (Jst E1 LX InvX HX H0 R0 W0 FS0 fsX) Nx X0 s x)) .normal E1 n L τ h (FF H0 R0 W0 FS0 (rFact lb { r with state := .busy } :: fsE)) := by
  refine X.endN hfs hlb fun ρ a w g => .inl ⟨rfl, ⟨s', ⟨hI, ?_⟩, hn⟩, fun p hp => g.ff.at_ p (List.mem_cons_of_mem _ (hX p hp))⟩
  obtain ⟨h1, h2, h3⟩ := rn_ok hb
  have er : ({ ({ r with state := .busy } : Loop) with state := .ready, pending := none } : Loop) = r := by
    cases r; simp only at hr hp; subst hr hp; rfl
  rw [er] at g
  have g2 := g.imp (rnF rl) L2 [] (H s') (FF H0 R0 W0 FS0 (rFact lb r :: fsI s')) h1 h2 h3 trivial hh hnd (fun w hf => by
    have hf2 : FF H0 R0 W0 FS0 (fsI s') w := hF w (hf.less (fun p hp => List.mem_cons_of_mem _ hp) (List.pairwise_cons.1 hf.ap).2)
    have hat : w.heap[lb]? = some (.loop r) := hf.at_ (rFact lb r) List.mem_cons_self
    have hoff := factC_off hf2.at_ hat hsub
    refine ⟨fun p hp => ?_, hf2.ag, List.pairwise_cons.2 ⟨fun q hq e => absurd e.symm (hoff q hq), hf2.ap⟩, fun p hp hrw => ?_, fun p hp => ?_, hf2.pre⟩
    · rcases List.mem_cons.1 hp with rfl | hp
      · exact hat
      · exact hf2.at_ p hp
    · rcases List.mem_cons.1 hp with rfl | hp
      · cases hrw
      · exact hf2.fre p hp hrw
    · rcases List.mem_cons.1 hp with rfl | hp
      · exact .inl hlb
      · exact hf2.bl p hp)
  exact ⟨_, g2.mem h3 g2.ex hE⟩
end
end Go.Proofs.YtaieficgifingaaGreatDoor
namespace Go.Proofs.YtaieficgifingaaGreatDoor
set_option linter.unusedVariables false
open Go.RowKit
theorem wrap_i64 {x : Int} (h1 : -9223372036854775808 ≤ x) (h2 : x ≤ 9223372036854775807) : IntKind.wrap .i64 x = x := by
  simp only [IntKind.wrap, IntKind.bits, IntKind.signed]
  simp only [Bool.true_and, decide_eq_true_eq, ge_iff_le, show (2 : Int) ^ 64 = 18446744073709551616 by decide, show (2 : Int) ^ (64 - 1) = 9223372036854775808 by decide]
  split <;> omega
theorem wrap_u64 {x : Int} (h1 : 0 ≤ x) (h2 : x < 18446744073709551616) : IntKind.wrap .u64 x = x := by
  simp only [IntKind.wrap, IntKind.bits, IntKind.signed]
  simp
  omega
theorem wrap_u8 {x : Int} (h1 : 0 ≤ x) (h2 : x < 256) : IntKind.wrap .u8 x = x := by
  simp only [IntKind.wrap, IntKind.bits, IntKind.signed]
  simp
  omega
section
variable {P : Program} {ops : Array Oper} {Q : Exit → Act → World → Prop} {D : Option DD} {E : Base} {n L : Nat} {τ : List (Nat × AV)} {h : List (Nat × AO)} {F : World → Prop} {rest : List Oper}
  {d : Nat} {ty : TypeId} {ps : String} {af : Array Edge} {gd : Option (Nat × Bool)} {tt : List (Nat × TI)}
theorem R.zb (htt : TTok P tt) {b : BinOp} {t u : TypeId} {x y : Operand} {v v' : AV} (k : R P ops Q (lookD D []) E n L ((d, v') :: τ) h F rest) (har : arithB b = true := by exact rfl) (ha : act tt (fun l => hk l h) (evA τ) (.binOp b t x y u) = some v := by exact rfl) (hn : Nrm v v' := by first | exact Nrm.w (wrap_i64 (by omega) (by omega)) | exact Nrm.w (wrap_u64 (by omega) (by omega)) | exact Nrm.w (wrap_u8 (by omega) (by omega)) | exact Nrm.refl _)
    (hg : wantA ops ⟨some d, .binOp b t x y u, ty, ps, af, gd⟩ τ = some true := by exact rfl) (hb : (Nat.ble (d + 1) n && lookB D []) = true := by kernel_rfl) : R P ops Q D E n L τ h F (⟨some d, .binOp b t x y u, ty, ps, af, gd⟩ :: rest) := R.nb htt har ha hn hg hb k
theorem R.zu (htt : TTok P tt) {t : TypeId} {x : Operand} {v v' : AV} (k : R P ops Q (lookD D []) E n L ((d, v') :: τ) h F rest) (ha : act tt (fun l => hk l h) (evA τ) (.unOp .neg t x) = some v := by exact rfl) (hn : Nrm v v' := by first | exact Nrm.w (wrap_i64 (by omega) (by omega)) | exact Nrm.w (wrap_u64 (by omega) (by omega)) | exact Nrm.w (wrap_u8 (by omega) (by omega)) | exact Nrm.refl _)
    (hg : wantA ops ⟨some d, .unOp .neg t x, ty, ps, af, gd⟩ τ = some true := by exact rfl) (hb : (Nat.ble (d + 1) n && lookB D []) = true := by kernel_rfl) : R P ops Q D E n L τ h F (⟨some d, .unOp .neg t x, ty, ps, af, gd⟩ :: rest) := R.nu htt ha hn hg hb k
theorem R.zc (htt : TTok P tt) {s t : TypeId} {x : Operand} {v v' : AV} (k : R P ops Q (lookD D []) E n L ((d, v') :: τ) h F rest) (ha : act tt (fun l => hk l h) (evA τ) (.convert s t x) = some v := by exact rfl) (hn : Nrm v v' := by first | exact Nrm.w (wrap_i64 (by omega) (by omega)) | exact Nrm.w (wrap_u64 (by omega) (by omega)) | exact Nrm.w (wrap_u8 (by omega) (by omega)) | exact Nrm.refl _)
    (hg : wantA ops ⟨some d, .convert s t x, ty, ps, af, gd⟩ τ = some true := by exact rfl) (hb : (Nat.ble (d + 1) n && lookB D []) = true := by kernel_rfl) : R P ops Q D E n L τ h F (⟨some d, .convert s t x, ty, ps, af, gd⟩ :: rest) := R.nc htt ha hn hg hb k
theorem R.za (htt : TTok P tt) {t : TypeId} {ti : TI} (k : R P ops Q (actD h D []) E n (L + 1) ((d, .ptr L 0 0 0) :: τ) ((L, .cells (ti.zero.map .raw) t) :: h) F rest) (ht : lk t tt = some ti := by exact rfl) (hg : wantA ops ⟨some d, .alloc t, ty, ps, af, gd⟩ τ = some true := by exact rfl)
    (hb : (Nat.ble (d + 1) n && chainB h D []) = true := by kernel_rfl) : R P ops Q D E n L τ h F (⟨some d, .alloc t, ty, ps, af, gd⟩ :: rest) := R.a htt ht hg hb k
theorem R.zx {t : TypeId} {x : Operand} {v : AV} {xs : List AV} (k : R P ops Q (actD h D []) E n (L + 1) ((d, .ptr L 0 0 0) :: τ) ((L, .cells xs t) :: h) F rest) (hx : evA τ x = some v := by exact rfl) (hc : v.cellsA = some xs := by exact rfl) (hg : wantA ops ⟨some d, .box t x, ty, ps, af, gd⟩ τ = some true := by exact rfl)
    (hb : (Nat.ble (d + 1) n && chainB h D []) = true := by kernel_rfl) : R P ops Q D E n L τ h F (⟨some d, .box t x, ty, ps, af, gd⟩ :: rest) := R.b hx hc hg hb k
theorem R.zl (htt : TTok P tt) {t e len : Nat} {parts : Array (Nat × Operand)} {ti te : TI} {l : List (Nat × AV)} {xs : List AV} (k : R P ops Q (actD h D []) E n (L + 1) ((d, .sl L te.size 0 len len) :: τ) ((L, .cells xs e) :: h) F rest) (ht : lk t tt = some ti := by exact rfl) (hkd : ti.kind = .sl e := by exact rfl) (hte : lk e tt = some te := by exact rfl)
    (hl : evParts (evA τ) parts.toList = some l := by exact rfl) (hx : fillA (fun i => some (i * te.size, te.size)) ((List.replicate len (te.zero.map .raw)).flatten) l = some xs := by exact rfl)
    (hg : wantA ops ⟨some d, .buildSlice t len parts, ty, ps, af, gd⟩ τ = some true := by exact rfl) (hb : (Nat.ble (d + 1) n && chainB h D [] && Nat.beq te.zero.length te.size && Nat.ble (len * te.size) 16777216) = true := by kernel_rfl) :
    R P ops Q D E n L τ h F (⟨some d, .buildSlice t len parts, ty, ps, af, gd⟩ :: rest) := R.li htt ht hkd hte hl hx hg hb k
theorem R.zs (htt : TTok P tt) {t : TypeId} {x y : Operand} {l w0 i c : Nat} {v : AV} {ti : TI} {ys xs zs : List AV} {T : TypeId} (k : R P ops Q (actD h D [l]) E n L τ ((l, .cells zs T) :: h) F rest) (hx : evA τ x = some (.ptr l w0 i c) := by exact rfl) (hy : evA τ y = some v := by exact rfl) (ht : lk t tt = some ti := by exact rfl) (hc : v.cellsA = some ys := by exact rfl)
    (hl : hk l h = some (.cells xs T) := by exact rfl) (hz : spl1 xs (i * w0 + c) ys = zs := by exact rfl) (hg : wantA ops ⟨none, .store t x y, ty, ps, af, gd⟩ τ = some true := by exact rfl) (hb : (Nat.beq ys.length ti.size && Nat.ble (i * w0 + c + ys.length) xs.length && ys.all AV.oneB && chainB h D [l]) = true := by kernel_rfl) :
    R P ops Q D E n L τ h F (⟨none, .store t x y, ty, ps, af, gd⟩ :: rest) := R.st htt hx hy ht hc hl hz hg hb k
theorem R.z (htt : TTok P tt) {op : Op} {v : AV} (k : R P ops Q (lookD D (rdL τ op)) E n L ((d, v) :: τ) h F rest) (ha : act tt (fun l => hk l h) (evA τ) op = some v := by exact rfl) (hg : wantA ops ⟨some d, op, ty, ps, af, gd⟩ τ = some true := by exact rfl)
    (hb : (Nat.ble (d + 1) n && lookB D (rdL τ op) && (rdL τ op).all (fun l => Nat.ble (l + 1) L)) = true := by kernel_rfl) : R P ops Q D E n L τ h F (⟨some d, op, ty, ps, af, gd⟩ :: rest) := R.s htt ha hg hb k
theorem R.zk {op : Op} (k : R P ops Q (skipD h D) E n L ((d, .raw undef) :: τ) h F rest) (hg : wantA ops ⟨some d, op, ty, ps, af, gd⟩ τ = some false := by exact rfl) (hd : Nat.ble (d + 1) n = true := by exact rfl) : R P ops Q D E n L τ h F (⟨some d, op, ty, ps, af, gd⟩ :: rest) := R.k hg hd k
theorem R.zn {op : Op} (k : R P ops Q (skipD h D) E n L τ h F rest) (hg : wantA ops ⟨none, op, ty, ps, af, gd⟩ τ = some false := by exact rfl) : R P ops Q D E n L τ h F (⟨none, op, ty, ps, af, gd⟩ :: rest) := R.k0 hg k
theorem C.zt {c : Operand} {x y : Code} (k : C P x Q E n L τ h F) (hc : evA τ c = some (.raw (.bool true)) := by exact rfl) : C P (.cond c x y) Q E n L τ h F := C.tru hc k
theorem C.zf {c : Operand} {x y : Code} (k : C P y Q E n L τ h F) (hc : evA τ c = some (.raw (.bool false)) := by exact rfl) : C P (.cond c x y) Q E n L τ h F := C.fls hc k
theorem X.zo {id id' : Nat} (k : X Q (.exit id') E n L τ h F) (hne : Nat.beq id' id = false := by exact rfl) : X (Exit.inBlock id Q) (.exit id') E n L τ h F := X.block_other hne k
end
end Go.Proofs.YtaieficgifingaaGreatDoor
namespace Go.Proofs.YtaieficgifingaaGreatDoor
set_option linter.unusedVariables false
set_option linter.unusedSimpArgs false
set_option linter.unusedSectionVars false
open Go.RowKit
section
variable {P : Program} {ops : Array Oper} {Q : Exit → Act → World → Prop} {D : Option DD} {E : Base} {n L : Nat} {τ : List (Nat × AV)} {h : List (Nat × AO)} {F : World → Prop} {rest : List Oper}
  {d : Nat} {ty : TypeId} {ps : String} {af : Array Edge} {gd : Option (Nat × Bool)} {tt : List (Nat × TI)}
theorem R.ixa (htt : TTok P tt) {t e : TypeId} {x y : Operand} {l w i c m : Nat} {k0 : IntKind} {j : Int} {sz bt w0 : Nat} {z : List Value} (jn : Nat) (hx : evA τ x = some (.ptr l w i c)) (hy : evA τ y = some (.raw (.int k0 j))) (ht : lk t tt = some ⟨sz, bt, .arr m e, z⟩) (hs : szA tt e = some w0)
    (hg : wantA ops ⟨some d, .indexAddr t x y, ty, ps, af, gd⟩ τ = some true) (hb : (Nat.ble (d + 1) n && lookB D [] && Nat.ble (l + 1) L) = true) (hj : j = (jn : Int)) (hlt : jn < m)
    (k : R P ops Q (lookD D []) E n L ((d, .ptr l w i (c + jn * w0)) :: τ) h F rest) : R P ops Q D E n L τ h F (⟨some d, .indexAddr t x y, ty, ps, af, gd⟩ :: rest) := by
  rw [Bool.and_eq_true] at hb
  exact R.pure _ (fun ρ a w' g => by
    have hlL' : l + 1 ≤ L := by have := hb.2; simpa [Nat.ble_eq] using this
    refine ⟨fun ρ' he => by simp [AV.conc, he l (by omega)], fun W => ?_⟩
    have hu := und_arr (htt _ _ ht) rfl W
    obtain ⟨te, hte, hsz⟩ := Option.map_eq_some_iff.1 hs
    have hse := (htt _ _ hte).run_size W
    subst hj
    rw [hsz] at hse
    have h1 : (0 : Int) ≤ (jn : Int) ∧ (jn : Int) < (m : Int) := by omega
    simp only [execOp, (g.eval x _ hx).2, (g.eval y _ hy).2, AV.conc]
    simp [Instr.indexAt, asIntOf, Instr.sureAddr, hu, hlt, hse, Addr.add, Nat.add_assoc]) hg hb.1 k
end
end Go.Proofs.YtaieficgifingaaGreatDoor
namespace Go.Proofs.YtaieficgifingaaGreatDoor
set_option linter.unusedVariables false
set_option linter.unusedSimpArgs false
set_option linter.unusedSectionVars false
open Go.RowKit
theorem operW {P : Program} {o : Oper} {a : Act} {w : World} {next next' : Act → World → Prop} {Q Q' : Exit → Act → World → Prop} (hd : ∀ c, o.op ≠ .defer c) (hn : ∀ a w, next a w → next' a w) (hp : ∀ ch a w, Q (.panic ch) a w → Q' (.panic ch) a w) (hl : LetsOut Q → LetsOut Q') (h : o.wp P a w next Q) : o.wpIn Fence.wide 0 P a w next' Q' := by
  refine ⟨fun _ _ => trivial, ?_⟩
  rw [Oper.semAt_eq _ _ _ hd]
  unfold Oper.wp at h
  generalize (execOp a.eval o).run P w = r at h
  cases r with
  | ok x w' =>
    cases x <;> simp only [Oper.upon] at h <;> simp only [Oper.uponIn]
    case value v => exact hn _ _ h
    case skip => exact hn _ _ h
    case defer d => exact hn _ _ h
    case enter f args =>
      refine ⟨fun e => (by cases e), (callsIn_wide (n := 0)).2 (h.mono fun e w'' hq => ?_)⟩
      cases e with
      | returned v => exact hn _ _ hq
      | panicked ch => exact hp _ _ _ hq
      | outgrown => exact hl hq
    case row rw args =>
      refine ⟨fun e => (by cases e), fun c cs _ => ?_⟩
      obtain ⟨v, w'', h1, h2⟩ := h c cs
      exact ⟨v, w'', hn _ _ h1, stepsIn_wide.2 h2⟩
  | halt x w' => cases x <;> first | exact hp _ _ _ h | exact h.elim
/-- what is left of a region in which yield is called -/
structure RY (P : Program) (ops : Array Oper) (Q : Exit → Act → World → Prop) (E : Base) (n L : Nat) (τ : List (Nat × AV)) (h : List (Nat × AO)) (F : World → Prop) (rest : List Oper) : Prop where
  mk :: (out : ∀ ρ a w, Gam E ρ n L τ h F a w → wpListIn Fence.wide 0 P ops Q rest a w)
section
variable {P : Program} {ops : Array Oper} {Q : Exit → Act → World → Prop} {E : Base} {n L : Nat} {τ : List (Nat × AV)} {h : List (Nat × AO)} {F : World → Prop} {rest : List Oper}
theorem C.regionY {id : Nat} {l : List Oper} (k : RY P l.toArray Q E n L τ h F l) : C P (.region id l.toArray false) Q E n L τ h F := ⟨fun ρ a w g => (wpIn_wide (n := 0)).1 (wpIn_region_lit (k.out ρ a w g))⟩
theorem RY.done (k : X Q .normal E n L τ h F) : RY P ops Q E n L τ h F [] := ⟨fun ρ a w g => k.out ρ a w g⟩
theorem X.ry (k : RY P ops Q E n L τ h F rest) : X (Exit.then (wpListIn Fence.wide 0 P ops Q rest) Q) .normal E n L τ h F := ⟨fun ρ a w g => k.out ρ a w g⟩
theorem RY.one {o : Oper} (k : R P ops (Exit.then (wpListIn Fence.wide 0 P ops Q rest) Q) none E n L τ h F [o]) (hd : noDefer [o] = true := by kernel_rfl) (hQ : ¬ LetsOut Q := by first | assumption | (rintro ⟨_, _, ⟨_, h⟩, _⟩; cases h)) : RY P ops Q E n L τ h F (o :: rest) := ⟨fun ρ a w g => by
  have h := k.out ρ a w g
  have hd' := noDefer_get hd o List.mem_cons_self
  have h : wpList P ops (Exit.then (wpListIn Fence.wide 0 P ops Q rest) Q) [o] a w := h
  simp only [wpList] at h
  simp only [wpListIn]
  by_cases hw : Region.wanted o (yielded ops a.tmps) = true
  · rw [if_pos hw] at h ⊢
    rcases h with h | h
    · exact operW hd' (fun _ _ h => h) (fun _ _ _ h => h) (fun h => h) h
    · exact absurd h.2 hQ
  · rw [if_neg hw] at h ⊢
    exact ⟨fun _ _ => trivial, h⟩⟩
variable {d : Nat} {ty : TypeId} {ps : String} {af : Array Edge} {gd : Option (Nat × Bool)}
theorem RY.yield {lY : Nat} {x : Operand} {xs : Array Operand} {ats : Array TypeId} {vs : List AV} (hx : evA τ x = some (.raw (.func (.yield lY) #[] #[]))) (hxs : evList (evA τ) xs.toList = some vs) (hg : wantA ops ⟨some d, .call { callee := .value x, args := xs, argTypes := ats }, ty, ps, af, gd⟩ τ = some true)
    (hy : ∀ ρ a w, Gam E ρ n L τ h F a w → YieldAt Fence.wide 0 P lY (AV.concs ρ vs).toArray w fun e w' => ∃ v, e = .returned v ∧ wpListIn Fence.wide 0 P ops Q rest (a.put (some d) v) w') :
    RY P ops Q E n L τ h F (⟨some d, .call { callee := .value x, args := xs, argTypes := ats }, ty, ps, af, gd⟩ :: rest) := ⟨fun ρ a w g => by
  simp only [wpListIn]
  rw [if_pos (g.want hg)]
  refine ⟨fun _ _ => trivial, ?_⟩
  rw [Oper.semAt_eq _ _ _ (by intro c e; cases e)]
  obtain ⟨fn, tmps, assign, body, h1, h2⟩ := hy ρ a w g
  have hargs : xs.map a.eval = (AV.concs ρ vs).toArray := by
    have := evList_conc (evB g) _ _ hxs
    apply Array.ext'
    rw [Array.toList_map, this]
  have e : (execOp a.eval ⟨some d, .call { callee := .value x, args := xs, argTypes := ats }, ty, ps, af, gd⟩).run P w = .ok (.round lY fn tmps assign body) w := by
    unfold execOp
    simp only [resolve, (g.eval x _ hx).2, AV.conc, Deferred.ofValue, hargs, Sem.run_bind, Sem.run_pure, Result.andThen_ok, invoke, Array.append_empty, Array.empty_append]
    exact h1
  rw [e]
  refine ⟨fun e => (by cases e), RoundIn.mono h2 ?_⟩
  rintro e' w' ⟨v, rfl, hv⟩
  exact hv⟩
end
theorem YieldAt.mono {F : Fence} {m : Nat} {P : Program} {l : Nat} {args : Array Value} {W : World} {R R' : Ending → World → Prop} (h : YieldAt F m P l args W R) (hr : ∀ e w, R e w → R' e w) : YieldAt F m P l args W R' := by
  obtain ⟨fn, tmps, assign, body, h1, h2⟩ := h
  exact ⟨fn, tmps, assign, body, h1, RoundIn.mono h2 hr⟩
end Go.Proofs.YtaieficgifingaaGreatDoor
namespace Go.Proofs.YtaieficgifingaaGreatDoor
set_option linter.unusedVariables false
set_option linter.unusedSimpArgs false
set_option linter.unusedSectionVars false
open Go.RowKit
/-- what is asked at a round's end; a panic goes up, where the round's frame has no deferred calls -/
def roundPostP (P : Program) (l : Nat) (R : Ending → World → Prop) : Exit → Act → World → Prop
  | .normal, a, w => roundPost P l R .normal a w
  | .ret, a, w => roundPost P l R .ret a w
  | .exit id, a, w => roundPost P l R (.exit id) a w
  | .goto t, a, w => roundPost P l R (.goto t) a w
  | .panic ch, a, w => a.defers = [] ∧ R (.panicked ch) w
  | .outgrown, _, _ => False
theorem step_unwind_panic {P : Program} {fr c : Frame} {cs : List Frame} {w : World} {chain : List PanicEntry} (hm : fr.mode = .panicking chain) (hd : fr.defers = []) {fn : Func} (hf : P.funcs[fr.fn]? = some fn) : step P (lone fr (c :: cs) w) = .next (lone (c.raise chain) cs w) :=
  step_lone_go (by simp [stepG, unwind, Frame.catches, hm, hd, hf])
theorem roundIn_of_wpInP {F : Fence} {n : Nat} {P : Program} {l : Nat} {f : FuncId} {fn : Func} {tmps : Array Value} {assign body : Code} {w : World} {R : Ending → World → Prop} (hF : F.fn f) (hfn : P.funcs[f]? = some fn)
    (h : assign.wpIn (F.inRound l) n P (Exit.then (fun a₁ w₁ => ∃ w₂, (Instr.beginRound l).run P w₁ = .ok () w₂ ∧ body.wpIn (F.inRound l) n P (roundPostP P l R) a₁ w₂) (fun _ _ _ => False))
      { tmps := tmps, defers := [] } w) :
    RoundIn F n P l f tmps assign body w R := by
  refine ⟨hF, fun c cs hr => ?_⟩
  let b : Frame := { (default : Frame) with fn := f, kind := .normal, roundOf := some l }
  have hb0 : Frame.round l f tmps assign body .normal = b.atR { tmps := tmps, defers := [] } [.code assign, .beginRound, .code body] := by
    simp [Frame.round, Frame.atR, b]
  have hr' : (F.inRound l).room ((c :: cs).length + 1 + n) := hr
  have hF' : (F.inRound l).fn b.fn := hF
  obtain ⟨e, a₁, w₁, hq, harr⟩ := h b [.beginRound, .code body] (c :: cs) rfl hF' hr'
  rw [← hb0] at harr
  cases e with
  | normal =>
    obtain ⟨w₂, hbr, hbody⟩ := hq
    have s1 : StepsIn (Machine.fenced P (F.inRound l)) P (lone (b.atR a₁ [.beginRound, .code body]) (c :: cs) w₁) (lone (b.atR a₁ [.code body]) (c :: cs) w₂) :=
      .one (fenced_calm (fr := b.atR a₁ [.beginRound, .code body]) hF' hr' rfl) (stepR_beginRound rfl hbr)
    obtain ⟨e₂, a₂, w₃, hq₂, harr₂⟩ := hbody b [] (c :: cs) rfl hF' hr'
    cases e₂ with
    | normal =>
      obtain ⟨v, w₄, hend, hR⟩ := hq₂
      exact ⟨.returned v, w₄, hR, (StepsIn.trans harr s1).trans (StepsIn.trans harr₂ (.one (fenced_calm (fr := b.atR a₂ []) hF' hr' rfl) (stepR_round_end rfl rfl hend)))⟩
    | ret =>
      obtain ⟨v, w₄, hend, hR⟩ := hq₂
      obtain ⟨k₁, hs⟩ := harr₂.2 rfl
      exact ⟨.returned v, w₄, hR, (StepsIn.trans harr s1).trans (StepsIn.trans hs (.one (fenced_calm (fr := b.atR a₂ (.code .ret :: k₁)) hF' hr' rfl) (stepR_round_ret rfl rfl hend)))⟩
    | exit id =>
      obtain ⟨v, w₄, hend, hR⟩ := hq₂
      obtain ⟨k₁, hk, hs⟩ := harr₂.2 rfl rfl
      exact ⟨.returned v, w₄, hR, (StepsIn.trans harr s1).trans (StepsIn.trans hs (.one (fenced_calm (fr := b.atR a₂ (.code (.exit id) :: k₁)) hF' hr' rfl) (stepR_round_exit rfl rfl hk hend)))⟩
    | goto t =>
      obtain ⟨v, w₄, hend, hR⟩ := hq₂
      obtain ⟨k₁, hk, hs⟩ := harr₂.2 rfl rfl
      exact ⟨.returned v, w₄, hR, (StepsIn.trans harr s1).trans (StepsIn.trans hs (.one (fenced_calm (fr := b.atR a₂ (.code (.goto t) :: k₁)) hF' hr' rfl) (stepR_round_goto rfl rfl hk hend)))⟩
    | panic chain =>
      obtain ⟨hd, hR⟩ := hq₂
      obtain ⟨todo, hs⟩ := harr₂
      exact ⟨.panicked chain, w₃, hR, (StepsIn.trans harr s1).trans (StepsIn.trans hs (.one (fenced_calm (fr := { b.atR a₂ todo with mode := .panicking chain }) hF' hr' (by simp [Frame.about, Frame.atR, hd])) (step_unwind_panic (fr := { b.atR a₂ todo with mode := .panicking chain }) rfl hd hfn)))⟩
    | outgrown => exact hq₂.elim
  | exit id => exact hq.elim
  | goto t => exact hq.elim
  | ret => exact hq.elim
  | panic chain => exact hq.elim
  | outgrown => exact hq.elim
def wpAt (P : Program) (f : FuncId) (c : Code) (Q : Exit → Act → World → Prop) (a : Act) (w : World) : Prop :=
  ∀ (b : Frame) (k : List Item) (cs : List Frame), b.roundOf = none → b.fn = f → Fence.wide.room (cs.length + 1 + 0) →
    ∃ e a' w', Q e a' w' ∧ ArrivesIn (Machine.fenced P Fence.wide) P (lone (b.atR a (.code c :: k)) cs w) b k cs e a' w'
section
variable {P : Program} {f : FuncId} {Q : Exit → Act → World → Prop} {a : Act} {w : World}
theorem wpAt_of {c : Code} (h : c.wp P Q a w) : wpAt P f c Q a w := fun b k cs hro hf hr => (wpIn_wide (n := 0)).2 h b k cs hro trivial hr
theorem wpAt_seq {x y : Code} (h : wpAt P f x (Exit.then (wpAt P f y Q) Q) a w) : wpAt P f (.seq x y) Q a w := by
  intro b k cs hro hf hr
  have h0 : (lone (b.atR a (.code (.seq x y) :: k)) cs w).fenced P Fence.wide := fenced_calm (n := 0) trivial hr rfl
  obtain ⟨e, a₁, w₁, hq, harr⟩ := h b (.code y :: k) cs hro hf hr
  cases e with
  | normal =>
    obtain ⟨e₂, a₂, w₂, hq₂, harr₂⟩ := hq b k cs hro hf hr
    exact ⟨e₂, a₂, w₂, hq₂, .of_steps (.head h0 stepR_seq harr) harr₂⟩
  | exit id => exact ⟨_, a₁, w₁, hq, .of_steps (.one h0 stepR_seq) (.pass (x := .code y) rfl (fun _ _ => .inl (by simp)) harr)⟩
  | goto l => exact ⟨_, a₁, w₁, hq, .of_steps (.one h0 stepR_seq) (.pass (x := .code y) rfl (fun _ _ => .inl (by simp)) harr)⟩
  | ret => exact ⟨_, a₁, w₁, hq, .of_steps (.one h0 stepR_seq) (.pass (x := .code y) rfl (fun _ _ => .inl (by simp)) harr)⟩
  | panic ch => exact ⟨_, a₁, w₁, hq, .of_steps (.one h0 stepR_seq) (.pass (x := .code y) rfl (fun _ _ => .inl (by simp)) harr)⟩
  | outgrown => exact ⟨_, a₁, w₁, hq, .of_steps (.one h0 stepR_seq) (.pass (x := .code y) rfl (fun _ _ => .inl (by simp)) harr)⟩
theorem wpAt_block {id : Nat} {c : Code} (h : wpAt P f c (Exit.inBlock id Q) a w) : wpAt P f (.block id c) Q a w := by
  intro b k cs hro hf hr
  have h0 : (lone (b.atR a (.code (.block id c) :: k)) cs w).fenced P Fence.wide := fenced_calm (n := 0) trivial hr rfl
  obtain ⟨e, a₁, w₁, hq, harr⟩ := h b (.inBlock id :: k) cs hro hf hr
  cases e with
  | normal => exact ⟨.normal, a₁, w₁, hq, .head h0 stepR_block (StepsIn.trans harr (.one (fenced_calm (n := 0) trivial hr rfl) stepR_inBlock))⟩
  | exit id' =>
    by_cases hid : id' = id
    · simp only [Exit.inBlock, hid, if_true] at hq
      exact ⟨.normal, a₁, w₁, hq, .head h0 stepR_block (harr.1 k (by simp [exitTo, hid]))⟩
    · simp only [Exit.inBlock, hid, if_false] at hq
      have this : (id == id') = false := by simp; exact fun h => hid h.symm
      have hx : exitTo id' (.inBlock id :: k) = exitTo id' k := by simp [exitTo, this]
      exact ⟨.exit id', a₁, w₁, hq, fun k' hk => .head h0 stepR_block (harr.1 k' (by rw [hx]; exact hk)),
        fun hr' hk => let ⟨k₁, h1, h2⟩ := harr.2 hr' (by rw [hx]; exact hk); ⟨k₁, h1, .head h0 stepR_block h2⟩⟩
  | goto l =>
    have hx : gotoIn l (.inBlock id :: k) = gotoIn l k := by simp [gotoIn]
    exact ⟨_, a₁, w₁, hq, fun k' hk => .head h0 stepR_block (harr.1 k' (by rw [hx]; exact hk)),
      fun hr' hk => let ⟨k₁, h1, h2⟩ := harr.2 hr' (by rw [hx]; exact hk); ⟨k₁, h1, .head h0 stepR_block h2⟩⟩
  | ret => exact ⟨_, a₁, w₁, hq, .of_steps (.one h0 stepR_block) harr⟩
  | panic ch => exact ⟨_, a₁, w₁, hq, .of_steps (.one h0 stepR_block) harr⟩
  | outgrown => exact ⟨_, a₁, w₁, hq, .of_steps (.one h0 stepR_block) harr⟩
/-- the statement, in a function's own frame -/
theorem wpAt_rangeFunc {g : Operand} {ps : Array Tmp} {assign body : Code} 
    (h : ∃ (l : Nat) (mark : List Deferred) (w₁ : World) (d : Deferred) (w₁' : World) (f' : FuncId) (args : Array Value) (w₂ : World),
      (Instr.enterLoop f a.tmps ps assign body none).run P w = .ok (l, mark) w₁ ∧
      (resolve a.eval (rangeCall g l) 0).run P w₁ = .ok d w₁' ∧
      (invoke d.target d.args).run P w₁' = .ok (.enter f' args) w₂ ∧
      CallsIn Fence.wide 0 P f' args w₂ (rangePost Fence.wide 0 P l Q { a with defers := mark ++ a.defers })) :
    wpAt P f (.rangeFunc g ps assign body) Q a w := by
  intro b k cs hro hb hr
  obtain ⟨l, mark, w₁, d, w₁', f', args, w₂, he, hres, hinv, hF, hcall⟩ := h
  rw [← hro, ← hb] at he
  have h0 : (lone (b.atR a (.code (.rangeFunc g ps assign body) :: k)) cs w).fenced P Fence.wide := fenced_lone (.inl trivial) (fun _ _ => trivial) (room_wide _)
  have henter := stepR_rangeFunc (P := P) (b := b) (a := a) (k := k) (cs := cs) (w := w) he hres hinv
  have hroom : Fence.wide.room ((b.atR { a with defers := mark ++ a.defers } (.inRangeFunc l :: k) :: cs).length + 1 + 0) := Fence.room_enter (n := 0) hr (fun e => by cases e)
  obtain ⟨e, w₃, fr, hR, hsteps, hfn, hleave⟩ := hcall (b.atR { a with defers := mark ++ a.defers } (.inRangeFunc l :: k) :: cs) hroom
  cases e with
  | outgrown =>
    obtain ⟨a₀, w₀, hq⟩ := hR
    exact ⟨.outgrown, a₀, w₀, hq, .inr (Outgrown.of_steps (.one henter) hsteps)⟩
  | returned v =>
    have hl : (lone fr (b.atR { a with defers := mark ++ a.defers } (.inRangeFunc l :: k) :: cs) w₃).fenced P Fence.wide := fenced_leaving trivial hroom hleave
    obtain ⟨jump, w₄, hend, hj⟩ := hR
    have sback : StepsIn (Machine.fenced P Fence.wide) P (lone (b.atR a (.code (.rangeFunc g ps assign body) :: k)) cs w) (lone (b.atR { a with defers := mark ++ a.defers } ((jump.map Item.code).toList ++ k)) cs w₄) := by
      refine .head h0 henter (StepsIn.trans hsteps (.head hl ?_ (.one (fenced_calm (n := 0) (fr := b.atR { a with defers := mark ++ a.defers } (.endRangeFunc l :: k)) trivial hr rfl) (stepR_endRangeFunc hend))))
      rw [← finish_atR_inRangeFunc l v]; exact step_leave_returned hleave
    cases jump with
    | none => exact ⟨.normal, _, w₄, hj, sback⟩
    | some c =>
      obtain ⟨e', a'', w₅, hq, harr⟩ := hj b k cs hro trivial hr
      exact ⟨e', a'', w₅, hq, .of_steps sback harr⟩
  | panicked chain =>
    have hl : (lone fr (b.atR { a with defers := mark ++ a.defers } (.inRangeFunc l :: k) :: cs) w₃).fenced P Fence.wide := fenced_leaving trivial hroom hleave
    refine ⟨.panic chain, _, w₃, hR, .inRangeFunc l :: k, .head h0 henter (StepsIn.trans hsteps (.one hl ?_))⟩
    rw [← Frame.raise_atR]; exact step_leave_panicked hleave
theorem callsIn_of_wpAt {fn : Func} {c : Code} {args : Array Value} {R : Ending → World → Prop}
    (hf : P.funcs[f]? = some fn) (hb : fn.body = some c)
    (h : wpAt P f c (bodyPostM Fence.wide 0 P fn R) { tmps := args ++ Array.replicate (fn.ntmps - args.size) undef, defers := [] } w) : CallsIn Fence.wide 0 P f args w R := by
  refine ⟨trivial, fun cs hr => ?_⟩
  let b : Frame := { (default : Frame) with fn := f, kind := .normal, roundOf := none }
  have henter : Frame.enter P f args .normal =
      b.atR { tmps := args ++ Array.replicate (fn.ntmps - args.size) undef, defers := [] } [.code c] := by
    simp [Frame.enter, Frame.atR, hf, hb, b]
  obtain ⟨e, a', w', hq, harr⟩ := h b [] cs rfl rfl hr
  rw [← henter] at harr
  cases e with
  | normal =>
    obtain ⟨e', w'', fr', hR, hs, hfn, hl⟩ := leaves_stepsInM a'.defers .returning w' { b.atR a' [] with mode := .returning } cs rfl rfl rfl hf rfl trivial hr hq
    exact ⟨e', w'', fr', hR, ComesIn.of_steps (StepsIn.trans harr (.one (fenced_calm (n := 0) (fr := b.atR a' []) trivial hr rfl) (stepR_end rfl))) hs, hfn, hl⟩
  | ret =>
    obtain ⟨todo, hs₀⟩ := harr.1 rfl
    obtain ⟨e', w'', fr', hR, hs, hfn, hl⟩ := leaves_stepsInM a'.defers .returning w' { b.atR a' todo with mode := .returning } cs rfl rfl rfl hf rfl trivial hr hq
    exact ⟨e', w'', fr', hR, ComesIn.of_steps hs₀ hs, hfn, hl⟩
  | panic chain =>
    obtain ⟨todo, hs₀⟩ := harr
    obtain ⟨e', w'', fr', hR, hs, hfn, hl⟩ := leaves_stepsInM a'.defers (.panicking chain) w' { b.atR a' todo with mode := .panicking chain } cs rfl rfl rfl hf rfl trivial hr hq
    exact ⟨e', w'', fr', hR, ComesIn.of_steps hs₀ hs, hfn, hl⟩
  | exit id => exact hq.elim
  | goto l => exact hq.elim
  | outgrown => exact ⟨.outgrown, w', b, hq, harr.resolve_left (by simp [b]), rfl, trivial⟩
end
/-- code of a function's own frame -/
structure CA (P : Program) (f : FuncId) (c : Code) (Q : Exit → Act → World → Prop) (E : Base) (n L : Nat) (τ : List (Nat × AV)) (h : List (Nat × AO)) (F : World → Prop) : Prop where
  mk :: (out : ∀ ρ a w, Gam E ρ n L τ h F a w → wpAt P f c Q a w)
section
variable {P : Program} {f : FuncId} {Q : Exit → Act → World → Prop} {E : Base} {n L : Nat} {τ : List (Nat × AV)} {h : List (Nat × AO)} {F : World → Prop}
theorem CA.seq {x y : Code} (k : CA P f x (Exit.then (wpAt P f y Q) Q) E n L τ h F) : CA P f (.seq x y) Q E n L τ h F := ⟨fun ρ a w g => wpAt_seq (k.out ρ a w g)⟩
theorem X.thenA {y : Code} {Q1 Q2 : Exit → Act → World → Prop} (k : CA P f y Q1 E n L τ h F) : X (Exit.then (wpAt P f y Q1) Q2) .normal E n L τ h F := ⟨fun ρ a w g => k.out ρ a w g⟩
theorem CA.block {id : Nat} {c : Code} (k : CA P f c (Exit.inBlock id Q) E n L τ h F) : CA P f (.block id c) Q E n L τ h F := ⟨fun ρ a w g => wpAt_block (k.out ρ a w g)⟩
theorem CA.of {c : Code} (k : C P c Q E n L τ h F) : CA P f c Q E n L τ h F := ⟨fun ρ a w g => wpAt_of (k.out ρ a w g)⟩
theorem X.pass_panic {next : Act → World → Prop} {ch : List PanicEntry} (k : X Q (.panic ch) E n L τ h F) : X (Exit.then next Q) (.panic ch) E n L τ h F := ⟨k.out⟩
theorem X.block_panic {id : Nat} {ch : List PanicEntry} (k : X Q (.panic ch) E n L τ h F) : X (Exit.inBlock id Q) (.panic ch) E n L τ h F := ⟨k.out⟩
end
end Go.Proofs.YtaieficgifingaaGreatDoor
namespace Go.Proofs.YtaieficgifingaaGreatDoor
set_option linter.unusedVariables false
set_option linter.unusedSimpArgs false
set_option linter.unusedSectionVars false
open Go.RowKit
section
variable {E : Base} {ρ : Env} {n L : Nat} {τ : List (Nat × AV)} {h : List (Nat × AO)} {a : Act} {w : World} {h0 : List AO} {ρ0 : Env} {w0 : World} {fs0 fs : Fam}
/-- a writable fact's block is written by somebody else, blocks come -/
theorem Gam.growX {b0 : Nat} {ob : Obj} (g : Gam E ρ n L τ h (FF h0 ρ0 w0 fs0 (⟨true, b0, ob⟩ :: fs)) a w) (hro : roB 0 h = true) {W : World} (hW : Ag (fun b => b ≠ b0) w W) {ob' : Obj} (hb : W.heap[b0]? = some ob') : Gam E ρ n L τ h (FF h0 ρ0 w0 fs0 (⟨true, b0, ob'⟩ :: fs)) a W := by
  have hat : w.heap[b0]? = some ob := g.ff.at_ ⟨true, b0, ob⟩ List.mem_cons_self
  have hwr : ∀ l, hk l h ≠ none → wrA l h := fun l hl => by
    cases hx : hk l h with
    | none => exact absurd hx hl
    | some o =>
      cases hr : o.isRo with
      | false => exact ⟨o, hx, hr⟩
      | true => exact absurd (roB_lt hro hx hr) (Nat.not_lt_zero _)
  have hoff : ∀ l, hk l h ≠ none → ρ l ≠ some b0 := fun l hl => g.apF (p := ⟨true, b0, ob⟩) List.mem_cons_self (hwr l hl)
  have hap0 := List.pairwise_cons.1 g.ff.ap
  have hne : ∀ p ∈ fs, p.b ≠ b0 := fun p hp e => by have := (hap0.1 p hp e.symm).1; cases this
  refine ⟨g.df, g.sz, g.tm, fun l o hl => ?_, g.dis, fun w2 hw2 => ?_, g.ex, g.le, fun l b hl hb' => Nat.lt_of_lt_of_le (g.al l b hl hb') hW.size⟩
  · have hh := g.hp l o hl
    exact ⟨hh.1, hh.2.1, holds_same hh.2.2 fun b hb' => hW.block b (g.al l b hh.1 hb') fun e => hoff l (by rw [hl]; simp) (e ▸ hb')⟩
  · have hbW : b0 < W.heap.size := (Array.getElem?_eq_some_iff.1 hb).1
    have hb2 : b0 < w2.heap.size := Nat.lt_of_lt_of_le hbW hw2.size
    have h2 : w2.heap[b0]? = some ob' := (hw2.block b0 hbW fun l hl => hoff l hl.live).trans hb
    have hag : Ag (fun b => ∀ l, wrA l h → ρ l ≠ some b) w (putB w2 b0 ob) := by
      refine ⟨hw2.os.trans hW.os, hw2.tape.trans hW.tape, hw2.output.trans hW.output, by have := hw2.size; have := hW.size; simp only [putB, Array.set!_eq_setIfInBounds, Array.size_setIfInBounds]; omega, fun c hc1 hd => ?_⟩
      by_cases e : c = b0
      · subst e; rw [putB_same _ _ hb2, hat]
      · rw [putB_ne _ _ e, hw2.block c (Nat.lt_of_lt_of_le hc1 hW.size) hd, hW.block c hc1 e]
    have hall := g.fr _ hag
    have hap := List.pairwise_cons.1 hall.ap
    have hfr := hall.fre ⟨true, b0, ob⟩ List.mem_cons_self rfl
    refine ⟨fun p hp => ?_, ⟨hall.ag.os, hall.ag.tape, hall.ag.output, by have := hall.ag.size; simpa [putB] using this, fun c hc1 hd => ?_⟩, List.pairwise_cons.2 ⟨fun q hq e => absurd e.symm (hne q hq), hap.2⟩, fun p hp hrw => ?_, fun p hp => ?_, hall.pre⟩
    · rcases List.mem_cons.1 hp with rfl | hp
      · exact h2
      · have := hall.at_ p (List.mem_cons_of_mem _ hp)
        rwa [putB_ne _ _ (hne p hp)] at this
    · have h6 := hall.ag.block c hc1 hd
      rwa [putB_ne _ _ (by
        rintro rfl
        rcases hfr with h | h | h
        · exact absurd hc1 (Nat.not_lt.2 h)
        · exact hd.1 h
        · exact hd.2 h)] at h6
    · rcases List.mem_cons.1 hp with rfl | hp
      · exact hfr
      · exact hall.fre p (List.mem_cons_of_mem _ hp) hrw
    · rcases List.mem_cons.1 hp with rfl | hp
      · exact hall.bl ⟨true, b0, ob⟩ List.mem_cons_self
      · exact hall.bl p (List.mem_cons_of_mem _ hp)
theorem ff_swap {p q : Fact} {w : World} (h : FF h0 ρ0 w0 fs0 (p :: q :: fs) w) : FF h0 ρ0 w0 fs0 (q :: p :: fs) w :=
  h.less (fun x hx => by simp only [List.mem_cons] at hx ⊢; rcases hx with h | h | h <;> simp [h]) (by
    have h1 := List.pairwise_cons.1 h.ap
    have h2 := List.pairwise_cons.1 h1.2
    refine List.pairwise_cons.2 ⟨fun x hx e => ?_, List.pairwise_cons.2 ⟨fun x hx e => h1.1 x (List.mem_cons_of_mem _ hx) e, h2.2⟩⟩
    rcases List.mem_cons.1 hx with rfl | hx
    · exact (h1.1 q List.mem_cons_self e.symm).symm
    · exact h2.1 x hx e)
theorem ff_rot {p q r : Fact} {w : World} (h : FF h0 ρ0 w0 fs0 (p :: q :: r :: fs) w) : FF h0 ρ0 w0 fs0 (r :: p :: q :: fs) w := by
  have h1 : FF h0 ρ0 w0 fs0 (r :: p :: q :: fs) w := h.less (fun x hx => by simp only [List.mem_cons] at hx ⊢; rcases hx with h | h | h | h <;> simp [h]) (by
    have h1 := List.pairwise_cons.1 h.ap
    have h2 := List.pairwise_cons.1 h1.2
    have h3 := List.pairwise_cons.1 h2.2
    refine List.pairwise_cons.2 ⟨fun x hx e => ?_, List.pairwise_cons.2 ⟨fun x hx e => ?_, List.pairwise_cons.2 ⟨fun x hx e => ?_, h3.2⟩⟩⟩
    · rcases List.mem_cons.1 hx with rfl | hx
      · exact (h1.1 r (by simp) e.symm).symm
      · rcases List.mem_cons.1 hx with rfl | hx
        · exact (h2.1 r (by simp) e.symm).symm
        · exact h3.1 x hx e
    · rcases List.mem_cons.1 hx with rfl | hx
      · exact h1.1 x (by simp) e
      · exact h1.1 x (by simp [hx]) e
    · exact h2.1 x (by simp [hx]) e)
  exact h1
theorem ff_rot' {p q r : Fact} {w : World} (h : FF h0 ρ0 w0 fs0 (r :: p :: q :: fs) w) : FF h0 ρ0 w0 fs0 (p :: q :: r :: fs) w := ff_rot (ff_rot h)
end
/-- the contract of an iterator that keeps a variable of its own in the block b0; its rounds go on, or panic -/
def ItP (P : Program) (gf : FuncId) (b0 : Nat) (ob0 : Obj) {σ α : Type} (enc : α → Array Value) (Pre : σ → α → Prop) (Nx : σ → α → σ → Prop) (Ini Fin : σ → Prop) : Prop :=
  ∀ (l : Nat) (J Jp : σ → World → Prop) (ch : σ → List PanicEntry) (s0 : σ) (W : World), (∀ s W W', J s W → Ag (fun b => b ≠ b0) W W' → J s W') →
    (∀ s W W', Jp s W → Ag (fun b => b ≠ b0) W W' → Jp s W') →
    (∀ s x W2, J s W2 → Pre s x → YieldAt Fence.wide 0 P l (enc x) W2 fun e W' => (e = .returned (.bool true) ∧ (∃ s', J s' W' ∧ Nx s x s') ∧ W'.heap[b0]? = W2.heap[b0]?) ∨ ∃ s', e = .panicked (ch s') ∧ Jp s' W') →
    J s0 W → Ini s0 → W.heap[b0]? = some ob0 → CallsIn Fence.wide 0 P gf #[.func (.yield l) #[] #[], .pointer (some ⟨b0, 0, none⟩)] W fun e W' => (∃ v, e = .returned v ∧ ∃ s, J s W' ∧ Fin s) ∨ ∃ s, e = .panicked (ch s) ∧ Jp s W'
/-- a round's end: on, or up by a panic -/
def rPostP {σ α : Type} (J Jp : σ → World → Prop) (ch : σ → List PanicEntry) (Nx : σ → α → σ → Prop) (s : σ) (x : α) (e : Ending) (W' : World) : Prop := (e = .returned (.bool true) ∧ ∃ s', J s' W' ∧ Nx s x s') ∨ ∃ s', e = .panicked (ch s') ∧ Jp s' W'
abbrev rndP (P : Program) (lb : Nat) (body : Code) (R : Ending → World → Prop) : Exit → Act → World → Prop := Exit.then (fun a₁ w₁ => ∃ w₂, (Instr.beginRound lb).run P w₁ = .ok () w₂ ∧ body.wpIn (Fence.wide.inRound lb) 0 P (roundPostP P lb R) a₁ w₂) (fun _ _ _ => False)
section
variable {P : Program} {Q : Exit → Act → World → Prop} {E : Base} {n L : Nat} {τ : List (Nat × AV)} {H0 : List AO} {R0 : Env} {W0 : World} {FS0 : Fam}
theorem CA.rangeP {σ α : Type} {f : FuncId} {fn : Func} {g : Operand} {p q : Tmp} {assign body : Code} {gf : FuncId} {cs : List AV} {H HP : σ → List (Nat × AO)} {fsI fsP : σ → Fam} {u v : α → Value} (hfn : P.funcs[f]? = some fn) (N1 LP b0 : Nat) (ob0 : Obj) (s0 : σ) (Inv InvP : σ → Prop) (ch : σ → List PanicEntry) (Pre : σ → α → Prop) (Nx : σ → α → σ → Prop) (Ini Fin : σ → Prop)
    (hg : evA τ g = some (.fn gf cs)) (hcs : AV.concs E.ρ cs = [.pointer (some ⟨b0, 0, none⟩)]) (eg : ∀ args w, (callFunc gf args).run P w = .ok (.enter gf args) w) (hI : Inv s0) (hi0 : Ini s0) (hb : (AV.bds E.N cs && (τ.all fun x => x.2.bd N1) && Nat.ble E.N N1 && Nat.ble N1 L && Nat.ble (p + 1) n && Nat.ble (q + 1) n && !Nat.beq p q && Nat.ble N1 LP) = true)
    (hcI : ∀ s, Inv s → ∀ x ∈ fsI s, x.ob.isCells = true) (hcP : ∀ s, InvP s → ∀ x ∈ fsP s, x.ob.isCells = true) (hob : ob0.isCells = true) (hroI : ∀ s, Inv s → roB 0 (H s) = true) (hroP : ∀ s, InvP s → roB 0 (HP s) = true)
    (hit : ItP P gf b0 ob0 (fun x => #[u x, v x]) Pre Nx Ini Fin)
    (hround : ∀ (ρ1 : Env) (lb D : Nat) (r : Loop) (ob : Obj) s x, (∀ l, l < E.N → ρ1 l = E.ρ l) → r.state = .ready → r.pending = none → W0.heap.size ≤ lb → lb ≠ b0 → Inv s → Pre s x →
      CR P lb assign (rndP P lb body (rPostP (Jst ⟨N1, ρ1, []⟩ L Inv H H0 R0 W0 FS0 fun s => ⟨true, b0, ob⟩ :: rFact lb r :: dFact D :: fsI s) (Jst ⟨N1, ρ1, []⟩ LP InvP HP H0 R0 W0 FS0 fun s => ⟨true, b0, ob⟩ :: rFact lb { r with state := .busy } :: dFact D :: fsP s) ch Nx s x))
        ⟨N1, ρ1, []⟩ n L ((q, .raw (v x)) :: (p, .raw (u x)) :: τ) (H s) (FF H0 R0 W0 FS0 (rFact lb r :: dFact D :: ⟨true, b0, ob⟩ :: fsI s)))
    (hdone : ∀ s D, W0.heap.size ≤ D → Inv s → Fin s → X Q .normal ⟨E.N, E.ρ, markD D :: E.df⟩ n L τ (H s) (FF H0 R0 W0 FS0 (dFact D :: fsI s)))
    (hpanic : ∀ s D, W0.heap.size ≤ D → InvP s → X Q (.panic (ch s)) ⟨E.N, E.ρ, markD D :: E.df⟩ n LP τ (HP s) (FF H0 R0 W0 FS0 (dFact D :: fsP s))) :
    CA P f (.rangeFunc g #[p, q] assign body) Q E n L τ (H s0) (FF H0 R0 W0 FS0 (⟨true, b0, ob0⟩ :: fsI s0)) := ⟨fun ρ1 a w g0 => by
  simp only [Bool.and_eq_true, Nat.ble_eq, Bool.not_eq_true', List.all_eq_true] at hb
  obtain ⟨⟨⟨⟨⟨⟨⟨hcs1, hτ⟩, hN⟩, hNL⟩, hp⟩, hq⟩, hpq⟩, hNP⟩ := hb
  have hpq : p ≠ q := fun e => by subst e; rw [Nat.beq_refl] at hpq; cases hpq
  have hcs2 : AV.concs ρ1 cs = [.pointer (some ⟨b0, 0, none⟩)] := (bds_low cs hcs1 _ _ g0.ex).trans hcs
  refine wpAt_rangeFunc ?_
  obtain ⟨rec, hrec⟩ : ∃ rec : LoopState → Option Code → Loop, rec = fun st pe => { state := st, pending := pe, fn := f, tmps := a.tmps, params := #[p, q], assign, body, defers := w.heap.size } := ⟨_, rfl⟩
  obtain ⟨W1, hW1⟩ : ∃ W1, (w.alloc (.deferred (some []))).alloc (.loop (rec .ready none)) = W1 := ⟨_, rfl⟩
  have hL1 : W1.heap[w.heap.size + 1]? = some (.loop (rec .ready none)) := by
    rw [← hW1]; have := World.alloc_heap_new (w.alloc (.deferred (some []))) (.loop (rec .ready none)); rwa [World.size_alloc] at this
  have hK1 : W1.heap[w.heap.size]? = some (.deferred (some [])) := by
    rw [← hW1]; exact (Below.heap_alloc _ _ _ (by simp)).trans (World.alloc_heap_new w _)
  have hb1 : Below w.heap.size w W1 := by
    rw [← hW1]; exact ((Below.refl _ w).alloc (Nat.le_refl _) _).alloc (by simp) _
  have h0w : W0.heap.size ≤ w.heap.size := g0.ff.ag.size
  have hev : a.eval g = .func (.func gf) #[] (AV.concs ρ1 cs).toArray := (g0.eval g _ hg).2
  have hpin : ∀ l, l < E.N → ρ1 l = E.ρ l := g0.ex
  have hb0 : b0 < w.heap.size := g0.ff.lt (p := ⟨true, b0, ob0⟩) List.mem_cons_self
  have hob1 : W1.heap[b0]? = some ob0 := (hb1.block b0 hb0).trans (g0.ff.at_ ⟨true, b0, ob0⟩ List.mem_cons_self)
  -- the state without slots, with the two blocks told
  have gm : Gam ⟨N1, ρ1, []⟩ ρ1 0 L [] (H s0) (FF H0 R0 W0 FS0 (rFact (w.heap.size + 1) (rec .ready none) :: dFact w.heap.size :: ⟨true, b0, ob0⟩ :: fsI s0)) ⟨#[], []⟩ W1 := by
    have g1 : Gam ⟨N1, ρ1, []⟩ ρ1 0 L [] (H s0) (FF H0 R0 W0 FS0 (⟨true, b0, ob0⟩ :: fsI s0)) ⟨#[], []⟩ W1 := (g0.mem (E1 := ⟨N1, ρ1, []⟩) hNL (fun _ _ => rfl) rfl).grow hb1
    have hlt : ∀ x ∈ (⟨true, b0, ob0⟩ :: fsI s0 : Fam), x.b < w.heap.size := fun x hx => g0.ff.lt hx
    have g2 := g1.tellO hK1 rfl (fun x hx => by have := hlt x hx; omega) (by omega)
    exact g2.tellO hL1 rfl (fun x hx => by
      rcases List.mem_cons.1 hx with rfl | hx
      · show w.heap.size ≠ w.heap.size + 1; omega
      · have := hlt x hx; omega) (by omega)
  obtain ⟨J, hJ⟩ : ∃ J : σ → World → Prop, J = fun s W => ∃ ob, Jst ⟨N1, ρ1, []⟩ L Inv H H0 R0 W0 FS0 (fun s => ⟨true, b0, ob⟩ :: rFact (w.heap.size + 1) (rec .ready none) :: dFact w.heap.size :: fsI s) s W := ⟨_, rfl⟩
  obtain ⟨Jp, hJp⟩ : ∃ Jp : σ → World → Prop, Jp = fun s W => ∃ ob, Jst ⟨N1, ρ1, []⟩ LP InvP HP H0 R0 W0 FS0 (fun s => ⟨true, b0, ob⟩ :: rFact (w.heap.size + 1) { rec .ready none with state := .busy } :: dFact w.heap.size :: fsP s) s W := ⟨_, rfl⟩
  have hst : (rec .ready none).state = .ready := by rw [hrec]
  have hpe : (rec .ready none).pending = none := by rw [hrec]
  refine ⟨w.heap.size + 1, [{ target := .collected w.heap.size, args := #[] }], W1, { target := .fn (.func gf) (AV.concs ρ1 cs).toArray, args := #[.func (.yield (w.heap.size + 1)) #[] #[]] }, W1, gf,
    #[.func (.yield (w.heap.size + 1)) #[] #[], .pointer (some ⟨b0, 0, none⟩)], W1, ?_, ?_, ?_, ?_⟩
  · rw [← hW1, hrec]; exact run_enterLoop_outer _ _ _ _ _
  · simp only [resolve, hev]
    simp [go_sem]
  · rw [hcs2]; simp [invoke, go_sem, eg]
  · have hfI : ∀ s, Inv s → ∀ x ∈ (dFact w.heap.size :: fsI s : Fam), FactC (w.heap.size + 1) x := fun s hs x hx => by
      rcases List.mem_cons.1 hx with rfl | hx
      · exact .inr (.inl rfl)
      · exact .inl (hcI s hs x hx)
    -- slots behind the loop
    have htm : ∀ ρ : Env, (∀ l, l < N1 → ρ l = ρ1 l) → ∀ t y, lk t τ = some y → y.Low ρ N1 ∧ a.tmps[t]? = some (y.conc ρ) := fun ρ he t y hy => by
      have hbd := hτ _ (lk_mem hy)
      exact ⟨bdLow hbd _, by rw [(g0.tm t y hy).2, bd_low y hbd ρ1 ρ he]⟩
    have hgrow : ∀ {H : σ → List (Nat × AO)} {L' : Nat} {s : σ} {ob : Obj} {fs : Fam} {W W' : World} {ρ : Env}, roB 0 (H s) = true → Gam ⟨N1, ρ1, []⟩ ρ 0 L' [] (H s) (FF H0 R0 W0 FS0 (⟨true, b0, ob⟩ :: fs)) ⟨#[], []⟩ W → Ag (fun b => b ≠ b0) W W' → ∃ ob', Gam ⟨N1, ρ1, []⟩ ρ 0 L' [] (H s) (FF H0 R0 W0 FS0 (⟨true, b0, ob'⟩ :: fs)) ⟨#[], []⟩ W' := fun hro gs hag => by
      rename_i s ob fs W W' ρ
      have hlt : b0 < W'.heap.size := Nat.lt_of_lt_of_le (gs.ff.lt (p := ⟨true, b0, ob⟩) List.mem_cons_self) hag.size
      exact ⟨_, gs.growX hro hag (Array.getElem?_eq_getElem hlt)⟩
    refine (hit (w.heap.size + 1) J Jp ch s0 W1 (fun s W W' h hw => ?_) (fun s W W' h hw => ?_) ?_ (by rw [hJ]; exact ⟨ob0, hI, ρ1, gm.strong fun w' hw' => ff_rot (gm.fr w' hw')⟩) hi0 hob1).mono ?_
    · rw [hJ] at h ⊢
      obtain ⟨ob, hs, ρ, gs⟩ := h
      obtain ⟨ob', gs'⟩ := hgrow (hroI s hs) gs hw
      exact ⟨ob', hs, ρ, gs'⟩
    · rw [hJp] at h ⊢
      obtain ⟨ob, hs, ρ, gs⟩ := h
      obtain ⟨ob', gs'⟩ := hgrow (hroP s hs) gs hw
      exact ⟨ob', hs, ρ, gs'⟩
    · intro s x W hJs hpre
      rw [hJ] at hJs
      obtain ⟨ob, hs, ρ, gs⟩ := hJs
      have hat : W.heap[w.heap.size + 1]? = some (.loop (rec .ready none)) := gs.ff.at_ (rFact (w.heap.size + 1) (rec .ready none)) (by simp)
      have hat0 : W.heap[b0]? = some ob := gs.ff.at_ ⟨true, b0, ob⟩ (by simp)
      have hy := run_yield (P := P) (args := #[u x, v x]) hat (by rw [hrec]; rfl)
      have hfne : (rec .ready none).fn = f := by rw [hrec]
      refine ⟨_, _, _, _, hy, RoundIn.mono (R := rPostP (Jst ⟨N1, ρ1, []⟩ L Inv H H0 R0 W0 FS0 fun s => ⟨true, b0, ob⟩ :: rFact (w.heap.size + 1) (rec .ready none) :: dFact w.heap.size :: fsI s) (Jst ⟨N1, ρ1, []⟩ LP InvP HP H0 R0 W0 FS0 fun s => ⟨true, b0, ob⟩ :: rFact (w.heap.size + 1) { rec .ready none with state := .busy } :: dFact w.heap.size :: fsP s) ch Nx s x) (roundIn_of_wpInP (fn := fn) trivial (by rw [hfne]; exact hfn) ?_) ?hp⟩
      case hp =>
        rintro e W' (⟨rfl, s', ⟨h1, ρ2, g2⟩, h2⟩ | ⟨s', rfl, h1⟩)
        · refine .inl ⟨rfl, ⟨s', by rw [hJ]; exact ⟨ob, h1, ρ2, g2⟩, h2⟩, ?_⟩
          rw [hat0]
          exact g2.ff.at_ ⟨true, b0, ob⟩ (by simp)
        · exact .inr ⟨s', rfl, by rw [hJp]; exact ⟨ob, h1⟩⟩
      have hR := hround ρ1 (w.heap.size + 1) w.heap.size (rec .ready none) ob s x hpin hst hpe (by omega) (by omega) hs hpre
      have e1 : (rec .ready none).assign = assign := by rw [hrec]
      have e2 : (rec .ready none).body = body := by rw [hrec]
      have e3 : (rec .ready none).params = #[p, q] := by rw [hrec]
      have e4 : (rec .ready none).tmps = a.tmps := by rw [hrec]
      rw [e1, e2, e3, e4, zip2]
      have gs' : Gam ⟨N1, ρ1, []⟩ ρ 0 L [] (H s) (FF H0 R0 W0 FS0 (rFact (w.heap.size + 1) (rec .ready none) :: dFact w.heap.size :: ⟨true, b0, ob⟩ :: fsI s)) ⟨#[], []⟩ W := gs.strong fun w' hw' => ff_rot' (gs.fr w' hw')
      refine hR.out ρ _ W (gs'.join (E1 := ⟨N1, ρ1, []⟩) hNL gs.ex rfl (by simp [g0.sz]) fun t y hy => ?_)
      have hsz := g0.sz
      rw [lk_cons] at hy
      split at hy
      · rename_i e
        subst e
        cases hy
        refine ⟨AV.Low.raw _ _ _, ?_⟩
        rw [Array.getElem?_setIfInBounds_self]
        simp [hsz]
        exact ⟨hq, rfl⟩
      · rename_i eq
        rw [lk_cons] at hy
        split at hy
        · rename_i e
          subst e
          cases hy
          refine ⟨AV.Low.raw _ _ _, ?_⟩
          rw [Array.getElem?_setIfInBounds_ne (fun e => hpq e.symm), Array.getElem?_setIfInBounds_self]
          simp [hsz]
          exact ⟨hp, rfl⟩
        · rename_i ep
          have := htm ρ gs.ex t y hy
          exact ⟨this.1.mono hNL, by rw [Array.getElem?_setIfInBounds_ne eq, Array.getElem?_setIfInBounds_ne ep]; exact this.2⟩
    · rintro e W2 (⟨val, rfl, s, hJs, hfin⟩ | ⟨s, rfl, hJs⟩)
      · rw [hJ] at hJs
        obtain ⟨ob, hs, ρ, gs0⟩ := hJs
        have gs : Gam ⟨N1, ρ1, []⟩ ρ 0 L [] (H s) (FF H0 R0 W0 FS0 (rFact (w.heap.size + 1) (rec .ready none) :: dFact w.heap.size :: fsI s)) ⟨#[], []⟩ W2 := gs0.strong fun w' hw' => (gs0.fr w' hw').less (fun x hx => List.mem_cons_of_mem _ hx) (List.pairwise_cons.1 (gs0.fr w' hw').ap).2
        have hat : W2.heap[w.heap.size + 1]? = some (.loop (rec .ready none)) := gs.ff.at_ (rFact (w.heap.size + 1) (rec .ready none)) List.mem_cons_self
        refine ⟨none, _, (run_endLoop (P := P) hat (by rw [hst]; simp)).trans (congrArg (fun o => Result.ok o (W2.putObj (w.heap.size + 1) (.loop { rec .ready none with state := .exhausted }))) hpe), ?_⟩
        have g2 := gs.turnL { rec .ready none with state := .exhausted } (hfI s hs) (by omega)
        have g3 : Gam ⟨N1, ρ1, []⟩ ρ 0 L [] (H s) (FF H0 R0 W0 FS0 (dFact w.heap.size :: fsI s)) ⟨#[], []⟩ _ := g2.strong fun w' hw' => (g2.fr w' hw').less (fun x hx => List.mem_cons_of_mem _ hx) (List.pairwise_cons.1 (g2.fr w' hw').ap).2
        refine (hdone s w.heap.size h0w hs hfin).out ρ _ _ (g3.join (a := { a with defers := [markD w.heap.size] ++ a.defers }) (E1 := ⟨E.N, E.ρ, markD w.heap.size :: E.df⟩) (Nat.le_trans hN hNL) (fun l hl => (gs.ex l (Nat.lt_of_lt_of_le hl hN)).trans (hpin l hl)) ?_ g0.sz fun t y hy => ?_)
        · show [markD w.heap.size] ++ a.defers = _
          rw [g0.df]; rfl
        · have := htm ρ gs.ex t y hy
          exact ⟨this.1.mono hNL, this.2⟩
      · rw [hJp] at hJs
        obtain ⟨ob, hs, ρ, gs⟩ := hJs
        have g3 : Gam ⟨N1, ρ1, []⟩ ρ 0 LP [] (HP s) (FF H0 R0 W0 FS0 (dFact w.heap.size :: fsP s)) ⟨#[], []⟩ _ := gs.strong fun w' hw' => (gs.fr w' hw').less (fun x hx => List.mem_cons_of_mem _ (List.mem_cons_of_mem _ hx)) (List.pairwise_cons.1 (List.pairwise_cons.1 (gs.fr w' hw').ap).2).2
        refine (hpanic s w.heap.size h0w hs).out ρ _ _ (g3.join (a := { a with defers := [markD w.heap.size] ++ a.defers }) (E1 := ⟨E.N, E.ρ, markD w.heap.size :: E.df⟩) (Nat.le_trans hN hNP) (fun l hl => (gs.ex l (Nat.lt_of_lt_of_le hl hN)).trans (hpin l hl)) ?_ g0.sz fun t y hy => ?_)
        · show [markD w.heap.size] ++ a.defers = _
          rw [g0.df]; rfl
        · have := htm ρ gs.ex t y hy
          exact ⟨this.1.mono hNP, this.2⟩⟩
end
end Go.Proofs.YtaieficgifingaaGreatDoor
