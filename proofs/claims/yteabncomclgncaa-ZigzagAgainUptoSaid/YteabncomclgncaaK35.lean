/- The kernel, 35: facts on blocks without labels (as many as there are); a state told anew. No program in sight. -/
import Derived.Test.YteabncomclgncaaK34
namespace Go.Proofs.Yteabncomclgncaa
set_option linter.unusedVariables false
set_option linter.unusedSimpArgs false
set_option linter.unusedSectionVars false
open Go.RowKit
/-- what lies in a block; rw: it may be written -/
structure Fact where
  rw : Bool
  b : Nat
  ob : Obj
abbrev Fam := List Fact
def WrF (fs : Fam) (b : Nat) : Prop := ∃ p ∈ fs, p.rw = true ∧ p.b = b
def BlF (fs : Fam) (b : Nat) : Prop := ∃ p ∈ fs, p.b = b
theorem WrF.bl {fs : Fam} {b : Nat} (h : WrF fs b) : BlF fs b := by obtain ⟨p, h1, _, h2⟩ := h; exact ⟨p, h1, h2⟩
def ApF (fs : Fam) : Prop := fs.Pairwise fun p q => p.b = q.b → p.rw = false ∧ q.rw = false
def AtF (fs : Fam) (w : World) : Prop := ∀ p ∈ fs, w.heap[p.b]? = some p.ob
/-- what is known of the beginning of a call -/
structure Pre (h0 : List AO) (ρ0 : Env) (w0 : World) (fs0 : Fam) : Prop where
  al : ∀ i b, i < h0.length → ρ0 i = some b → b < w0.heap.size
  dis : ∀ i j o b, h0[i]? = some o → o.isRo = false → j < h0.length → ρ0 i = some b → ρ0 j = some b → i = j
  at0 : AtF fs0 w0
  ap0 : ApF fs0
  ro : ∀ i b, i < h0.length → ρ0 i = some b → ¬ WrF fs0 b
  wr : ∀ b, Wr0 h0 ρ0 b → ¬ BlF fs0 b
/-- what is told of memory without labels -/
structure FF (h0 : List AO) (ρ0 : Env) (w0 : World) (fs0 fs : Fam) (w : World) : Prop where
  at_ : AtF fs w
  ag : Ag (fun b => ¬ Wr0 h0 ρ0 b ∧ ¬ WrF fs0 b) w0 w
  ap : ApF fs
  fre : ∀ p ∈ fs, p.rw = true → w0.heap.size ≤ p.b ∨ Wr0 h0 ρ0 p.b ∨ WrF fs0 p.b
  bl : ∀ p ∈ fs, w0.heap.size ≤ p.b ∨ Wr0 h0 ρ0 p.b ∨ BlF fs0 p.b
  pre : Pre h0 ρ0 w0 fs0
section
variable {E : Base} {ρ : Env} {n L : Nat} {τ : List (Nat × AV)} {h : List (Nat × AO)} {F : World → Prop} {a : Act} {w : World} {h0 : List AO} {ρ0 : Env} {w0 : World} {fs0 fs : Fam}
/-- a state of which more, or less, is told -/
theorem Gam.strong (g : Gam E ρ n L τ h F a w) {F2 : World → Prop} (hF : ∀ w', Ag (fun b => ∀ l, wrA l h → ρ l ≠ some b) w w' → F2 w') : Gam E ρ n L τ h F2 a w := ⟨g.df, g.sz, g.tm, g.hp, g.dis, hF, g.ex, g.le, g.al⟩
theorem Gam.ff (g : Gam E ρ n L τ h (FF h0 ρ0 w0 fs0 fs) a w) : FF h0 ρ0 w0 fs0 fs w := g.fr w (Ag.refl _ _)
/-- the world with another thing in a block -/
def putB (w : World) (b : Nat) (o : Obj) : World := { w with heap := w.heap.set! b o }
theorem putB_same (w : World) {b : Nat} (o : Obj) (hb : b < w.heap.size) : (putB w b o).heap[b]? = some o := by simp [putB, hb]
theorem putB_ne (w : World) {b b' : Nat} (o : Obj) (h : b' ≠ b) : (putB w b o).heap[b']? = w.heap[b']? := by
  have e : b ≠ b' := fun e => h e.symm
  simp [putB, Array.getElem?_setIfInBounds, e]
theorem putB_ag (w : World) (b : Nat) (o : Obj) (D : Nat → Prop) (hD : ¬ D b) : Ag D w (putB w b o) := ⟨rfl, rfl, rfl, by simp [putB], fun b' _ hd => putB_ne w o fun e => hD (e ▸ hd)⟩
/-- a fact's block has no label that may be written -/
theorem Gam.apF (g : Gam E ρ n L τ h (FF h0 ρ0 w0 fs0 fs) a w) {p : Fact} (hp : p ∈ fs) {l : Nat} (hl : wrA l h) : ρ l ≠ some p.b := fun e => by
  have hlt := g.lt hl.live e
  have key : ∀ o : Obj, p.ob = o := fun o => by
    have h1 := (g.fr (putB w p.b o) (putB_ag w p.b o _ fun hd => hd l hl e)).at_ p hp
    rw [putB_same w o hlt] at h1
    exact (Option.some.inj h1).symm
  have h1 := key (.cells #[] 0 (0, 0))
  have h2 := key (.cells #[] 0 (0, 1))
  rw [h1] at h2
  simp at h2
/-- where a label that may be written lies -/
theorem Gam.freF (g : Gam E ρ n L τ h (FF h0 ρ0 w0 fs0 fs) a w) {l b : Nat} (hl : wrA l h) (hb : ρ l = some b) : w0.heap.size ≤ b ∨ Wr0 h0 ρ0 b ∨ WrF fs0 b := by
  rcases Nat.lt_or_ge b w0.heap.size with h1 | h1
  · right
    refine Classical.byContradiction fun hn => ?_
    have hn2 : ¬ Wr0 h0 ρ0 b ∧ ¬ WrF fs0 b := ⟨fun e => hn (.inl e), fun e => hn (.inr e)⟩
    have hlt := g.lt hl.live hb
    have key : ∀ o : Obj, w0.heap[b]? = some o := fun o => by
      have h2 := (g.fr (putB w b o) (putB_ag w b o _ fun hd => hd l hl hb)).ag.block b h1 hn2
      rw [← h2, putB_same w o hlt]
    have h4 := key (.cells #[] 0 (0, 0))
    have h5 := key (.cells #[] 0 (0, 1))
    rw [h4] at h5
    simp at h5
  · exact .inl h1
theorem FF.lt (hf : FF h0 ρ0 w0 fs0 fs w) {p : Fact} (hp : p ∈ fs) : p.b < w.heap.size := (Array.getElem?_eq_some_iff.1 (hf.at_ p hp)).1
/-- the same facts, fewer, in another order -/
theorem FF.less (hf : FF h0 ρ0 w0 fs0 fs w) {fs2 : Fam} (h2 : ∀ p ∈ fs2, p ∈ fs) (ha : ApF fs2) : FF h0 ρ0 w0 fs0 fs2 w := ⟨fun p hp => hf.at_ p (h2 p hp), hf.ag, ha, fun p hp => hf.fre p (h2 p hp), fun p hp => hf.bl p (h2 p hp), hf.pre⟩
/-- no label that is only read lies where a fact may be written -/
def roB (N : Nat) (h : List (Nat × AO)) : Bool := h.all fun p => !p.2.isRo || Nat.ble (p.1 + 1) N
theorem roB_lt {N : Nat} {h : List (Nat × AO)} (hr : roB N h = true) {l : Nat} {o : AO} (hl : hk l h = some o) (ho : o.isRo = true) : l < N := by
  have := List.all_eq_true.1 hr _ (lk_mem (hk_lk hl))
  simp only [ho, Bool.not_true, Bool.false_or, Nat.ble_eq] at this
  omega
theorem FF.inn (hf : FF h0 ρ0 w0 fs0 fs w) {i b : Nat} {o : AO} (hi : h0[i]? = some o) (hro : o.isRo = true) (hb : ρ0 i = some b) : ¬ WrF fs b := fun ⟨p, hp, hrw, he⟩ => by
  have hlt : i < h0.length := (List.getElem?_eq_some_iff.1 hi).1
  subst he
  rcases hf.fre p hp hrw with h1 | ⟨j, oj, h1, h2, h3⟩ | h1
  · have := hf.pre.al i _ hlt hb; omega
  · have := hf.pre.dis j i oj _ h1 h2 hlt h3 hb
    subst this
    rw [hi] at h1
    cases h1
    rw [hro] at h2; cases h2
  · exact hf.pre.ro i _ hlt hb h1
end
section
variable {P : Program} {ops : Array Oper} {Q : Exit → Act → World → Prop} {E : Base} {n L : Nat} {τ : List (Nat × AV)} {h : List (Nat × AO)} {F : World → Prop} {rest : List Oper}
/-- a state told anew -/
theorem R.again {α : Type} (L' : Nat) (τ' : α → List (Nat × AV)) (h' : α → List (Nat × AO)) (F' : α → World → Prop) (I : α → Prop) (hg : ∀ ρ a w, Gam E ρ n L τ h F a w → ∃ x ρ', I x ∧ Gam E ρ' n L' (τ' x) (h' x) (F' x) a w)
    (k : ∀ x, I x → R P ops Q none E n L' (τ' x) (h' x) (F' x) rest) : R P ops Q none E n L τ h F rest := ⟨fun ρ a w g => by
  obtain ⟨x, ρ', hI, g'⟩ := hg ρ a w g
  exact (k x hI).out ρ' a w g'⟩
theorem C.again {c : Code} {α : Type} (L' : Nat) (τ' : α → List (Nat × AV)) (h' : α → List (Nat × AO)) (F' : α → World → Prop) (I : α → Prop) (hg : ∀ ρ a w, Gam E ρ n L τ h F a w → ∃ x ρ', I x ∧ Gam E ρ' n L' (τ' x) (h' x) (F' x) a w)
    (k : ∀ x, I x → C P c Q E n L' (τ' x) (h' x) (F' x)) : C P c Q E n L τ h F := ⟨fun ρ a w g => by
  obtain ⟨x, ρ', hI, g'⟩ := hg ρ a w g
  exact (k x hI).out ρ' a w g'⟩
theorem X.again {e : Exit} {α : Type} (L' : Nat) (τ' : α → List (Nat × AV)) (h' : α → List (Nat × AO)) (F' : α → World → Prop) (I : α → Prop) (hg : ∀ ρ a w, Gam E ρ n L τ h F a w → ∃ x ρ', I x ∧ Gam E ρ' n L' (τ' x) (h' x) (F' x) a w)
    (k : ∀ x, I x → X Q e E n L' (τ' x) (h' x) (F' x)) : X Q e E n L τ h F := ⟨fun ρ a w g => by
  obtain ⟨x, ρ', hI, g'⟩ := hg ρ a w g
  exact (k x hI).out ρ' a w g'⟩
theorem X.wk {e : Exit} {F2 : World → Prop} (hF : ∀ w, F w → F2 w) (k : X Q e E n L τ h F2) : X Q e E n L τ h F := ⟨fun ρ a w g => k.out ρ a w (g.strong fun w' hw => hF _ (g.fr w' hw))⟩
theorem C.wk {c : Code} {F2 : World → Prop} (hF : ∀ w, F w → F2 w) (k : C P c Q E n L τ h F2) : C P c Q E n L τ h F := ⟨fun ρ a w g => k.out ρ a w (g.strong fun w' hw => hF _ (g.fr w' hw))⟩
theorem R.wk {F2 : World → Prop} (hF : ∀ w, F w → F2 w) (k : R P ops Q none E n L τ h F2 rest) : R P ops Q none E n L τ h F rest := ⟨fun ρ a w g => k.out ρ a w (g.strong fun w' hw => hF _ (g.fr w' hw))⟩
end
/-! a label's block told as a fact -/
/-- in this object lies what o says -/
def Is (b : Nat) (ob : Obj) (o : AO) : Prop := ∀ (ρ : Env) (w : World), w.heap[b]? = some ob → o.holds ρ (some b) w
section
variable {E : Base} {ρ : Env} {n L : Nat} {τ : List (Nat × AV)} {h : List (Nat × AO)} {a : Act} {w : World} {h0 : List AO} {ρ0 : Env} {w0 : World} {fs0 fs : Fam}
/-- freeze: slot t held the label l, it holds the block itself now -/
theorem Gam.frz (g : Gam E ρ n L τ h (FF h0 ρ0 w0 fs0 fs) a w) (rw' : Bool) (t l : Nat) {o o' : AO} {v : AV} (v' : Nat → Value) (hl : hk l h = some o) (hro : o.isRo = false) (hv : lk t τ = some v) (hsome : ρ l ≠ none)
    (hc : ∀ (ρ : Env) b, ρ l = some b → v.conc ρ = v' b) (ho : ∀ b ob w, ρ l = some b → w.heap[b]? = some ob → o.holds ρ (some b) w → Is b ob o') :
    ∃ x : Nat × Obj, ∃ ρ', (Is x.1 x.2 o' ∧ (∀ p ∈ fs, p.b ≠ x.1)) ∧ Gam E ρ' n L ((t, .raw (v' x.1)) :: τ) ((l, .gone) :: h) (FF h0 ρ0 w0 fs0 (⟨rw', x.1, x.2⟩ :: fs)) a w := by
  obtain ⟨b, hb⟩ := Option.ne_none_iff_exists'.1 hsome
  have hw : wrA l h := ⟨o, hl, hro⟩
  have hlt := g.lt hw.live hb
  have hob : w.heap[b]? = some w.heap[b] := Array.getElem?_eq_getElem hlt
  have hh := g.hp l o hl
  rw [hb] at hh
  have hap : ∀ p ∈ fs, p.b ≠ b := fun p hp e => g.apF hp hw (by rw [hb, e])
  have hwr : ∀ l', wrA l' ((l, .gone) :: h) → l' ≠ l ∧ wrA l' h := fun l' ⟨o1, h1, h2⟩ => by
    rw [hk_cons] at h1
    split at h1
    · cases h1
    · rename_i e; exact ⟨fun e2 => e e2.symm, o1, h1, h2⟩
  refine ⟨(b, w.heap[b]), ρ, ⟨ho b _ w hb hob hh.2.2, hap⟩, ⟨g.df, g.sz, fun s u hu => ?_, fun l' o1 hl' => ?_, fun l1 l2 b1 h1 h2 h3 h4 => ?_, fun w' hw' => ?_, g.ex, g.le, g.al⟩⟩
  · rw [lk_cons] at hu
    split at hu
    · rename_i e
      subst e
      cases hu
      refine ⟨AV.Low.raw _ _ _, ?_⟩
      rw [(g.tm t v hv).2, hc ρ b hb]; rfl
    · exact g.tm s u hu
  · rw [hk_cons] at hl'
    split at hl'
    · cases hl'
    · exact g.hp l' o1 hl'
  · refine g.dis l1 l2 b1 (hwr l1 h1).2 ?_ h3 h4
    rw [hk_cons] at h2
    split at h2
    · exact absurd rfl h2
    · exact h2
  · have hff := g.ff
    -- the world with the old thing in the block
    obtain ⟨w2, hw2⟩ : ∃ w2, w2 = putB w' b w.heap[b] := ⟨_, rfl⟩
    have hsz : b < w'.heap.size := Nat.lt_of_lt_of_le hlt hw'.size
    have hb' : w'.heap[b]? = w.heap[b]? := hw'.block b hlt fun l' hl' e => (hwr l' hl').1 (g.dis l' l b (hwr l' hl').2 hw.live e hb)
    have hall := g.fr w' (hw'.mono fun b2 hb2 hd l' hl' e => hd l' (hwr l' hl').2 e)
    refine ⟨fun p hp => ?_, hall.ag, ?_, fun p hp hrw => ?_, fun p hp => ?_, hall.pre⟩
    · rcases List.mem_cons.1 hp with rfl | hp
      · exact hb'.trans hob
      · exact hall.at_ p hp
    · unfold ApF
      rw [List.pairwise_cons]
      exact ⟨fun q hq e => absurd e.symm (hap q hq), hall.ap⟩
    · rcases List.mem_cons.1 hp with rfl | hp
      · exact g.freF hw hb
      · exact hall.fre p hp hrw
    · rcases List.mem_cons.1 hp with rfl | hp
      · exact (g.freF hw hb).imp id (Or.imp id WrF.bl)
      · exact hall.bl p hp
/-- thaw: slot t held a block of which a fact is told; it holds a label now, that may be written -/
theorem Gam.thaw (g : Gam E ρ n L τ h (FF h0 ρ0 w0 fs0 fs) a w) (hE : E = ⟨h0.length, ρ0, E.df⟩) (hrob : roB E.N h = true) (hr0 : ∀ l o, hk l h = some o → o.isRo = true → ∃ o0, h0[l]? = some o0 ∧ o0.isRo = true) {p : Fact} {fs2 : Fam} (hp : p ∈ fs) (hrw : p.rw = true) (h2 : ∀ q ∈ fs2, q ∈ fs ∧ q.b ≠ p.b) (ha2 : ApF fs2) (t : Nat) {o : AO} {v : Value} (v' : AV) (hv : lk t τ = some (.raw v))
    (hro : o.isRo = false) (hc : ∀ ρ : Env, ρ L = some p.b → v'.conc ρ = v) (hb : v'.bd (L + 1) = true) (ho : Is p.b p.ob o) (hlow : o.Bd 0) :
    Gam E (updE ρ L (some p.b)) n (L + 1) ((t, v') :: τ) ((L, o) :: h) (FF h0 ρ0 w0 fs0 fs2) a w := by
  have hs : ∀ l, l < L → updE ρ L (some p.b) l = ρ l := fun l hl => updE_ne ρ _ (by omega)
  have hff := g.ff
  have hlive : ∀ l b, hk l h ≠ none → ρ l = some b → b ≠ p.b := fun l b hl hlb e => by
    subst e
    cases hx : hk l h with
    | none => exact hl hx
    | some o1 =>
      cases hro1 : o1.isRo with
      | false => exact g.apF hp ⟨o1, hx, hro1⟩ hlb
      | true =>
        have hlN := roB_lt hrob hx hro1
        obtain ⟨o0, h3, h4⟩ := hr0 l o1 hx hro1
        have : ρ l = ρ0 l := by rw [g.ex l hlN, hE]
        exact hff.inn h3 h4 (this ▸ hlb) ⟨p, hp, hrw, rfl⟩
  have hwr : ∀ l, L ≠ l → wrA l ((L, o) :: h) → wrA l h := fun l e ⟨o1, h1, h3⟩ => by
    rw [hk_cons, if_neg e] at h1
    exact ⟨o1, h1, h3⟩
  have hkL : ∀ l, L ≠ l → hk l ((L, o) :: h) = hk l h := fun l e => by rw [hk_cons, if_neg e]
  have hLL : ∀ l, hk l h ≠ none → l < L := fun l hl => by
    cases hx : hk l h with
    | none => exact absurd hx hl
    | some o1 => exact (g.hp l o1 hx).1
  refine ⟨g.df, g.sz, fun s u hu => ?_, fun l o1 hl => ?_, fun l1 l2 b1 h1 h3 h4 h5 => ?_, fun w' hw' => ?_, fun l hl => ?_, Nat.le_trans g.le (Nat.le_succ L), fun l b hl hlb => ?_⟩
  · rw [lk_cons] at hu
    split at hu
    · rename_i e
      subst e
      cases hu
      exact ⟨bdLow hb _, by rw [(g.tm t _ hv).2, hc _ (updE_same _ _ _)]; rfl⟩
    · have := g.tm s u hu
      exact ⟨(this.1.ext hs).mono (Nat.le_succ L), by rw [this.2, this.1 _ hs]⟩
  · rw [hk_cons] at hl
    split at hl
    · rename_i e
      subst e
      rw [updE_same]
      have e2 : o1 = o := by cases o <;> simp at hl <;> exact hl.symm
      subst e2
      exact ⟨Nat.lt_succ_self _, (hlow.low _).mono (Nat.zero_le _), ho _ w (hff.at_ p hp)⟩
    · have hh := g.hp l o1 hl
      refine ⟨Nat.lt_succ_of_lt hh.1, (hh.2.1.ext hs).mono (Nat.le_succ L), ?_⟩
      rw [hs l hh.1]
      exact (hh.2.1 _ hs _ _).1 hh.2.2
  · by_cases e1 : L = l1 <;> by_cases e2 : L = l2
    · omega
    · rw [hkL l2 e2] at h3
      rw [← e1, updE_same] at h4
      rw [hs l2 (hLL l2 h3)] at h5
      cases h4
      exact absurd rfl (hlive l2 _ h3 h5)
    · have h1' := hwr l1 e1 h1
      rw [← e2, updE_same] at h5
      rw [hs l1 (hLL l1 h1'.live)] at h4
      cases h5
      exact absurd rfl (hlive l1 _ h1'.live h4)
    · have h1' := hwr l1 e1 h1
      rw [hkL l2 e2] at h3
      rw [hs l1 (hLL l1 h1'.live)] at h4
      rw [hs l2 (hLL l2 h3)] at h5
      exact g.dis l1 l2 b1 h1' h3 h4 h5
  · have hlt := hff.lt hp
    obtain ⟨w2, hw2⟩ : ∃ w2, w2 = putB w' p.b p.ob := ⟨_, rfl⟩
    have hsz : p.b < w'.heap.size := Nat.lt_of_lt_of_le hlt hw'.size
    have hag : Ag (fun b => ∀ l, wrA l h → ρ l ≠ some b) w w2 := by
      subst hw2
      refine ⟨hw'.os, hw'.tape, hw'.output, by simpa [putB] using hw'.size, fun b hb1 hd => ?_⟩
      by_cases e : b = p.b
      · subst e
        rw [putB_same _ _ hsz, hff.at_ p hp]
      · rw [putB_ne _ _ e]
        refine hw'.block b hb1 fun l hl hlb => ?_
        by_cases e1 : L = l
        · rw [← e1, updE_same] at hlb
          cases hlb
          exact e rfl
        · have h1' := hwr l e1 hl
          rw [hs l (hLL l h1'.live)] at hlb
          exact hd l h1' hlb
    have hall := g.fr w2 hag
    subst hw2
    refine ⟨fun q hq => ?_, ⟨hall.ag.os, hall.ag.tape, hall.ag.output, by simpa [putB] using hall.ag.size, fun b hb1 hd => ?_⟩, ha2, fun q hq => hall.fre q (h2 q hq).1, fun q hq => hall.bl q (h2 q hq).1, hall.pre⟩
    · have := hall.at_ q (h2 q hq).1
      rwa [putB_ne _ _ (h2 q hq).2] at this
    · have h6 := hall.ag.block b hb1 hd
      rwa [putB_ne] at h6
      intro e
      subst e
      rcases hall.fre p hp hrw with h7 | h7 | h7
      · omega
      · exact hd.1 h7
      · exact hd.2 h7
  · rw [hs l (Nat.lt_of_lt_of_le hl g.le)]; exact g.ex l hl
  · rcases Nat.lt_or_ge l L with h1 | h1
    · exact g.al l b h1 ((hs l h1).symm.trans hlb)
    · obtain rfl : l = L := by omega
      rw [updE_same] at hlb
      cases hlb
      exact hff.lt hp
/-- slot t held a block of which a fact is told; it holds a label now, that is only read -/
theorem Gam.lab (g : Gam E ρ n L τ h (FF h0 ρ0 w0 fs0 fs) a w) {p : Fact} (hp : p ∈ fs) (t : Nat) {o : AO} {v : Value} (v' : AV) (hv : lk t τ = some (.raw v))
    (hro : o.isRo = true) (hc : ∀ ρ : Env, ρ L = some p.b → v'.conc ρ = v) (hb : v'.bd (L + 1) = true) (ho : Is p.b p.ob o) (hlow : o.Bd 0) :
    Gam E (updE ρ L (some p.b)) n (L + 1) ((t, v') :: τ) ((L, o) :: h) (FF h0 ρ0 w0 fs0 fs) a w := by
  have hs : ∀ l, l < L → updE ρ L (some p.b) l = ρ l := fun l hl => updE_ne ρ _ (by omega)
  have hff := g.ff
  have hwr : ∀ l, wrA l ((L, o) :: h) → L ≠ l ∧ wrA l h := fun l ⟨o1, h1, h3⟩ => by
    rw [hk_cons] at h1
    split at h1
    · have e2 : o1 = o := by cases o <;> simp at h1 <;> exact h1.symm
      subst e2
      rw [hro] at h3; cases h3
    · rename_i e; exact ⟨e, o1, h1, h3⟩
  have hLL : ∀ l, hk l h ≠ none → l < L := fun l hl => by
    cases hx : hk l h with
    | none => exact absurd hx hl
    | some o1 => exact (g.hp l o1 hx).1
  refine ⟨g.df, g.sz, fun s u hu => ?_, fun l o1 hl => ?_, fun l1 l2 b1 h1 h3 h4 h5 => ?_, fun w' hw' => ?_, fun l hl => ?_, Nat.le_trans g.le (Nat.le_succ L), fun l b hl hlb => ?_⟩
  · rw [lk_cons] at hu
    split at hu
    · rename_i e
      subst e
      cases hu
      exact ⟨bdLow hb _, by rw [(g.tm t _ hv).2, hc _ (updE_same _ _ _)]; rfl⟩
    · have := g.tm s u hu
      exact ⟨(this.1.ext hs).mono (Nat.le_succ L), by rw [this.2, this.1 _ hs]⟩
  · rw [hk_cons] at hl
    split at hl
    · rename_i e
      subst e
      rw [updE_same]
      have e2 : o1 = o := by cases o <;> simp at hl <;> exact hl.symm
      subst e2
      exact ⟨Nat.lt_succ_self _, (hlow.low _).mono (Nat.zero_le _), ho _ w (hff.at_ p hp)⟩
    · have hh := g.hp l o1 hl
      refine ⟨Nat.lt_succ_of_lt hh.1, (hh.2.1.ext hs).mono (Nat.le_succ L), ?_⟩
      rw [hs l hh.1]
      exact (hh.2.1 _ hs _ _).1 hh.2.2
  · obtain ⟨e1, h1'⟩ := hwr l1 h1
    rw [hs l1 (hLL l1 h1'.live)] at h4
    by_cases e2 : L = l2
    · rw [← e2, updE_same] at h5
      cases h5
      exact absurd h4 (g.apF hp h1')
    · rw [hk_cons, if_neg e2] at h3
      rw [hs l2 (hLL l2 h3)] at h5
      exact g.dis l1 l2 b1 h1' h3 h4 h5
  · refine g.fr w' (hw'.mono fun b _ hd l hl hlb => ?_)
    obtain ⟨e1, h1'⟩ := hwr l hl
    rw [hs l (hLL l h1'.live)] at hlb
    exact hd l h1' hlb
  · rw [hs l (Nat.lt_of_lt_of_le hl g.le)]; exact g.ex l hl
  · rcases Nat.lt_or_ge l L with h1 | h1
    · exact g.al l b h1 ((hs l h1).symm.trans hlb)
    · obtain rfl : l = L := by omega
      rw [updE_same] at hlb
      cases hlb
      exact hff.lt hp
end
end Go.Proofs.Yteabncomclgncaa
