/- The kernel, 39: labels whose block is known by its address (pinned): a fact's block is named, turned, told as a fact again. No program in sight. -/
import Derived.Test.YteabncomclgncaaK38
namespace Go.Proofs.Yteabncomclgncaa
set_option linter.unusedVariables false
set_option linter.unusedSimpArgs false
set_option linter.unusedSectionVars false
open Go.RowKit
section
variable {E : Base} {ρ : Env} {n L : Nat} {τ : List (Nat × AV)} {h : List (Nat × AO)} {F : World → Prop} {a : Act} {w : World} {H0 : List AO} {R0 : Env} {W0 : World} {FS0 fs : Fam}
theorem Gam.pin (g : Gam E ρ n L τ h F a w) : Gam ⟨L, ρ, E.df⟩ ρ n L τ h F a w := ⟨g.df, g.sz, g.tm, g.hp, g.dis, g.fr, fun _ _ => rfl, Nat.le_refl L, g.al⟩
theorem Gam.unpin {E1 : Base} (g : Gam E1 ρ n L τ h F a w) (hN : E.N ≤ E1.N) (he : ∀ l, l < E.N → E1.ρ l = E.ρ l) (hd : E1.df = E.df := by rfl) : Gam E ρ n L τ h F a w :=
  ⟨g.df.trans hd, g.sz, g.tm, g.hp, g.dis, g.fr, fun l hl => (g.ex l (Nat.lt_of_lt_of_le hl hN)).trans (he l hl), Nat.le_trans hN g.le, g.al⟩
/-- a slot holds a block that has a label whose address is known -/
theorem Gam.name (g : Gam E ρ n L τ h F a w) (t : Nat) {v : Value} (v' : AV) (hv : lk t τ = some (.raw v)) (hc : ∀ ρ : Env, (∀ l, l < E.N → ρ l = E.ρ l) → v'.conc ρ = v) (hb : v'.bd L = true) : Gam E ρ n L ((t, v') :: τ) h F a w :=
  ⟨g.df, g.sz, fun s u hu => by
    rw [lk_cons] at hu
    split at hu
    · rename_i e
      subst e
      cases hu
      exact ⟨bdLow hb _, by rw [(g.tm t _ hv).2, hc ρ g.ex]; rfl⟩
    · exact g.tm s u hu, g.hp, g.dis, g.fr, g.ex, g.le, g.al⟩
/-- a label whose address is known becomes a fact -/
theorem Gam.frzP (g : Gam E ρ n L τ h (FF H0 R0 W0 FS0 fs) a w) (rw' : Bool) (l : Nat) {b : Nat} {o o' : AO} (hl : hk l h = some o) (hro : o.isRo = false) (hlN : l < E.N) (hb : E.ρ l = some b)
    (ho : ∀ ob w, w.heap[b]? = some ob → o.holds ρ (some b) w → Is b ob o') :
    ∃ ob, (Is b ob o' ∧ (∀ p ∈ fs, p.b ≠ b)) ∧ Gam E ρ n L τ ((l, .gone) :: h) (FF H0 R0 W0 FS0 (⟨rw', b, ob⟩ :: fs)) a w := by
  have hb : ρ l = some b := (g.ex l hlN).trans hb
  have hw : wrA l h := ⟨o, hl, hro⟩
  have hlt := g.lt hw.live hb
  have hob : w.heap[b]? = some w.heap[b] := Array.getElem?_eq_getElem hlt
  have hh := g.hp l o hl
  rw [hb] at hh
  have hap : ∀ p ∈ fs, p.b ≠ b := fun p hp e => g.apF hp hw (by rw [hb, e])
  have hwr : ∀ l', wrA l' ((l, .gone) :: h) → l' ≠ l ∧ wrA l' h := fun l' ⟨o1, h1, h2⟩ => by
    rw [hk_cons] at h1
    split at h1
    · cases h1
    · rename_i e; exact ⟨fun e2 => e e2.symm, o1, h1, h2⟩
  refine ⟨w.heap[b], ⟨ho _ w hob hh.2.2, hap⟩, ⟨g.df, g.sz, g.tm, fun l' o1 hl' => ?_, fun l1 l2 b1 h1 h2 h3 h4 => ?_, fun w' hw' => ?_, g.ex, g.le, g.al⟩⟩
  · rw [hk_cons] at hl'
    split at hl'
    · cases hl'
    · exact g.hp l' o1 hl'
  · refine g.dis l1 l2 b1 (hwr l1 h1).2 ?_ h3 h4
    rw [hk_cons] at h2
    split at h2
    · exact absurd rfl h2
    · exact h2
  · have hsz : b < w'.heap.size := Nat.lt_of_lt_of_le hlt hw'.size
    have hb' : w'.heap[b]? = w.heap[b]? := hw'.block b hlt fun l' hl' e => (hwr l' hl').1 (g.dis l' l b (hwr l' hl').2 hw.live e hb)
    have hall := g.fr w' (hw'.mono fun b2 hb2 hd l' hl' e => hd l' (hwr l' hl').2 e)
    refine ⟨fun p hp => ?_, hall.ag, ?_, fun p hp hrw => ?_, fun p hp => ?_, hall.pre⟩
    · rcases List.mem_cons.1 hp with rfl | hp
      · exact hb'.trans hob
      · exact hall.at_ p hp
    · unfold ApF
      rw [List.pairwise_cons]
      exact ⟨fun q hq e => absurd e.symm (hap q hq), hall.ap⟩
    · rcases List.mem_cons.1 hp with rfl | hp
      · exact g.freF hw hb
      · exact hall.fre p hp hrw
    · rcases List.mem_cons.1 hp with rfl | hp
      · exact (g.freF hw hb).imp id (Or.imp id WrF.bl)
      · exact hall.bl p hp
/-- every label that is only read is one of the call's own, which its contract tells as only read -/
def roH (H0 : List AO) (h : List (Nat × AO)) : Bool := h.all fun p => !p.2.isRo || (match H0[p.1]? with | some o => o.isRo | none => false)
theorem roH_get {H0 : List AO} {h : List (Nat × AO)} (hr : roH H0 h = true) {l : Nat} {o : AO} (hl : hk l h = some o) (ho : o.isRo = true) : ∃ o0, H0[l]? = some o0 ∧ o0.isRo = true := by
  have := List.all_eq_true.1 hr _ (lk_mem (hk_lk hl))
  simp only [ho, Bool.not_true, Bool.false_or] at this
  split at this
  · rename_i o0 h0; exact ⟨o0, h0, this⟩
  · cases this
/-- a writable fact becomes a label, of which the address is known -/
theorem Gam.thawP (g : Gam E ρ n L τ h (FF H0 R0 W0 FS0 fs) a w) (hN : H0.length ≤ E.N) (hE : ∀ l, l < H0.length → E.ρ l = R0 l) (hrob : roH H0 h = true) {p : Fact} {fs2 : Fam} (hp : p ∈ fs) (hrw : p.rw = true) (h2 : ∀ q ∈ fs2, q ∈ fs ∧ q.b ≠ p.b) (ha2 : ApF fs2) {o : AO}
    (hro : o.isRo = false) (ho : Is p.b p.ob o) (hlow : o.Bd 0) :
    Gam ⟨L + 1, updE ρ L (some p.b), E.df⟩ (updE ρ L (some p.b)) n (L + 1) τ ((L, o) :: h) (FF H0 R0 W0 FS0 fs2) a w := by
  have hs : ∀ l, l < L → updE ρ L (some p.b) l = ρ l := fun l hl => updE_ne ρ _ (by omega)
  have hff := g.ff
  have hlive : ∀ l b, hk l h ≠ none → ρ l = some b → b ≠ p.b := fun l b hl hlb e => by
    subst e
    cases hx : hk l h with
    | none => exact hl hx
    | some o1 =>
      cases hro1 : o1.isRo with
      | false => exact g.apF hp ⟨o1, hx, hro1⟩ hlb
      | true =>
        obtain ⟨o0, h3, h4⟩ := roH_get hrob hx hro1
        have hlN : l < H0.length := (List.getElem?_eq_some_iff.1 h3).1
        have : ρ l = R0 l := by rw [g.ex l (by omega), hE l hlN]
        exact hff.inn h3 h4 (this ▸ hlb) ⟨p, hp, hrw, rfl⟩
  have hwr : ∀ l, L ≠ l → wrA l ((L, o) :: h) → wrA l h := fun l e ⟨o1, h1, h3⟩ => by
    rw [hk_cons, if_neg e] at h1
    exact ⟨o1, h1, h3⟩
  have hkL : ∀ l, L ≠ l → hk l ((L, o) :: h) = hk l h := fun l e => by rw [hk_cons, if_neg e]
  have hLL : ∀ l, hk l h ≠ none → l < L := fun l hl => by
    cases hx : hk l h with
    | none => exact absurd hx hl
    | some o1 => exact (g.hp l o1 hx).1
  refine ⟨g.df, g.sz, fun s u hu => ?_, fun l o1 hl => ?_, fun l1 l2 b1 h1 h3 h4 h5 => ?_, fun w' hw' => ?_, fun _ _ => rfl, Nat.le_refl _, fun l b hl hlb => ?_⟩
  · have := g.tm s u hu
    exact ⟨(this.1.ext hs).mono (Nat.le_succ L), by rw [this.2, this.1 _ hs]⟩
  · rw [hk_cons] at hl
    split at hl
    · rename_i e
      subst e
      rw [updE_same]
      have e2 : o1 = o := by cases o <;> simp at hl <;> exact hl.symm
      subst e2
      exact ⟨Nat.lt_succ_self _, (hlow.low _).mono (Nat.zero_le _), ho _ w (hff.at_ p hp)⟩
    · have hh := g.hp l o1 hl
      refine ⟨Nat.lt_succ_of_lt hh.1, (hh.2.1.ext hs).mono (Nat.le_succ L), ?_⟩
      rw [hs l hh.1]
      exact (hh.2.1 _ hs _ _).1 hh.2.2
  · by_cases e1 : L = l1 <;> by_cases e2 : L = l2
    · omega
    · rw [hkL l2 e2] at h3
      rw [← e1, updE_same] at h4
      rw [hs l2 (hLL l2 h3)] at h5
      cases h4
      exact absurd rfl (hlive l2 _ h3 h5)
    · have h1' := hwr l1 e1 h1
      rw [← e2, updE_same] at h5
      rw [hs l1 (hLL l1 h1'.live)] at h4
      cases h5
      exact absurd rfl (hlive l1 _ h1'.live h4)
    · have h1' := hwr l1 e1 h1
      rw [hkL l2 e2] at h3
      rw [hs l1 (hLL l1 h1'.live)] at h4
      rw [hs l2 (hLL l2 h3)] at h5
      exact g.dis l1 l2 b1 h1' h3 h4 h5
  · have hlt := hff.lt hp
    obtain ⟨w2, hw2⟩ : ∃ w2, w2 = putB w' p.b p.ob := ⟨_, rfl⟩
    have hsz : p.b < w'.heap.size := Nat.lt_of_lt_of_le hlt hw'.size
    have hag : Ag (fun b => ∀ l, wrA l h → ρ l ≠ some b) w w2 := by
      subst hw2
      refine ⟨hw'.os, hw'.tape, hw'.output, by simpa [putB] using hw'.size, fun b hb1 hd => ?_⟩
      by_cases e : b = p.b
      · subst e
        rw [putB_same _ _ hsz, hff.at_ p hp]
      · rw [putB_ne _ _ e]
        refine hw'.block b hb1 fun l hl hlb => ?_
        by_cases e1 : L = l
        · rw [← e1, updE_same] at hlb
          cases hlb
          exact e rfl
        · have h1' := hwr l e1 hl
          rw [hs l (hLL l h1'.live)] at hlb
          exact hd l h1' hlb
    have hall := g.fr w2 hag
    subst hw2
    refine ⟨fun q hq => ?_, ⟨hall.ag.os, hall.ag.tape, hall.ag.output, by simpa [putB] using hall.ag.size, fun b hb1 hd => ?_⟩, ha2, fun q hq => hall.fre q (h2 q hq).1, fun q hq => hall.bl q (h2 q hq).1, hall.pre⟩
    · have := hall.at_ q (h2 q hq).1
      rwa [putB_ne _ _ (h2 q hq).2] at this
    · have h6 := hall.ag.block b hb1 hd
      rwa [putB_ne] at h6
      intro e
      subst e
      rcases hall.fre p hp hrw with h7 | h7 | h7
      · omega
      · exact hd.1 h7
      · exact hd.2 h7
  · rcases Nat.lt_or_ge l L with h1 | h1
    · exact g.al l b h1 ((hs l h1).symm.trans hlb)
    · obtain rfl : l = L := by omega
      rw [updE_same] at hlb
      cases hlb
      exact hff.lt hp
end
section
variable {P : Program} {ops : Array Oper} {Q : Exit → Act → World → Prop} {D : Option DD} {E : Base} {n L : Nat} {τ : List (Nat × AV)} {h : List (Nat × AO)} {F : World → Prop} {rest : List Oper} {H0 : List AO} {R0 : Env} {W0 : World} {FS0 fs : Fam}
theorem C.unpin {c : Code} {E1 : Base} (hN : E.N ≤ E1.N) (he : ∀ l, l < E.N → E1.ρ l = E.ρ l) (k : C P c Q E n L τ h F) (hd : E1.df = E.df := by rfl) : C P c Q E1 n L τ h F := ⟨fun ρ a w g => k.out ρ a w (g.unpin hN he hd)⟩
theorem X.unpin {e : Exit} {E1 : Base} (hN : E.N ≤ E1.N) (he : ∀ l, l < E.N → E1.ρ l = E.ρ l) (k : X Q e E n L τ h F) (hd : E1.df = E.df := by rfl) : X Q e E1 n L τ h F := ⟨fun ρ a w g => k.out ρ a w (g.unpin hN he hd)⟩
theorem R.unpin {E1 : Base} (hN : E.N ≤ E1.N) (he : ∀ l, l < E.N → E1.ρ l = E.ρ l) (k : R P ops Q none E n L τ h F rest) (hd : E1.df = E.df := by rfl) : R P ops Q none E1 n L τ h F rest := ⟨fun ρ a w g => k.out ρ a w (g.unpin hN he hd)⟩
/-- a writable fact gets a label, whose address is known from here on -/
theorem C.thaw {c : Code} (hN : H0.length ≤ E.N) (hE : ∀ l, l < H0.length → E.ρ l = R0 l) (hrob : roH H0 h = true) (p : Fact) (fs2 : Fam) (hp : p ∈ fs) (hrw : p.rw = true) (h2 : ∀ q ∈ fs2, q ∈ fs ∧ q.b ≠ p.b) (ha2 : ApF fs2) (o : AO) (hro : o.isRo = false) (ho : Is p.b p.ob o) (hlow : o.Bd 0) (hEL : E.N ≤ L)
    (k : ∀ ρ1 : Env, (∀ l, l < E.N → ρ1 l = E.ρ l) → ρ1 L = some p.b → C P c Q ⟨L + 1, ρ1, E.df⟩ n (L + 1) τ ((L, o) :: h) (FF H0 R0 W0 FS0 fs2)) : C P c Q E n L τ h (FF H0 R0 W0 FS0 fs) :=
  ⟨fun ρ a w g => (k (updE ρ L (some p.b)) (fun l hl => (updE_ne ρ _ (by omega)).trans (g.ex l hl)) (updE_same _ _ _)).out _ a w (g.thawP hN hE hrob hp hrw h2 ha2 hro ho hlow)⟩
/-- such a label becomes a fact again -/
theorem C.frzP {c : Code} (rw' : Bool) (l : Nat) {b : Nat} {o o' : AO} (hl : hk l h = some o) (hro : o.isRo = false) (hlN : l < E.N) (hb : E.ρ l = some b) (ho : ∀ (ρ : Env) ob w, w.heap[b]? = some ob → o.holds ρ (some b) w → Is b ob o')
    (k : ∀ ob, Is b ob o' → (∀ p ∈ fs, p.b ≠ b) → C P c Q E n L τ ((l, .gone) :: h) (FF H0 R0 W0 FS0 (⟨rw', b, ob⟩ :: fs))) : C P c Q E n L τ h (FF H0 R0 W0 FS0 fs) := ⟨fun ρ a w g => by
  obtain ⟨ob, h1, g'⟩ := g.frzP rw' l hl hro hlN hb (ho ρ)
  exact (k ob h1.1 h1.2).out ρ a w g'⟩
theorem X.frzP {e : Exit} (rw' : Bool) (l : Nat) {b : Nat} {o o' : AO} (hl : hk l h = some o) (hro : o.isRo = false) (hlN : l < E.N) (hb : E.ρ l = some b) (ho : ∀ (ρ : Env) ob w, w.heap[b]? = some ob → o.holds ρ (some b) w → Is b ob o')
    (k : ∀ ob, Is b ob o' → (∀ p ∈ fs, p.b ≠ b) → X Q e E n L τ ((l, .gone) :: h) (FF H0 R0 W0 FS0 (⟨rw', b, ob⟩ :: fs))) : X Q e E n L τ h (FF H0 R0 W0 FS0 fs) := ⟨fun ρ a w g => by
  obtain ⟨ob, h1, g'⟩ := g.frzP rw' l hl hro hlN hb (ho ρ)
  exact (k ob h1.1 h1.2).out ρ a w g'⟩
/-- a slot's raw address, told by the label that bears it -/
theorem R.name (t : Nat) {v : Value} (v' : AV) (hv : lk t τ = some (.raw v)) (hc : ∀ ρ : Env, (∀ l, l < E.N → ρ l = E.ρ l) → v'.conc ρ = v) (hb : v'.bd L = true) (k : R P ops Q D E n L ((t, v') :: τ) h F rest) : R P ops Q D E n L τ h F rest :=
  R.renew (α := Unit) L (fun _ => (t, v') :: τ) (fun _ => h) (fun _ => F) (fun _ => True) (Nat.le_refl L) (fun ρ a w g => ⟨(), ρ, trivial, fun _ _ => rfl, g.name t v' hv hc hb⟩) (fun _ _ => k)
variable {d : Nat} {ty : TypeId} {ps : String} {af : Array Edge} {gd : Option (Nat × Bool)}
/-- a call by a contract that speaks of facts: all that are told -/
theorem R.clF {σ : Type} {G : σ → Prop} {val : σ → AV} {post : σ → List (Nat × AO)} {f : FuncId} {x : Operand} {cs : List AV} {xs : Array Operand} {ats : Array TypeId} {avs : List AV} {h1 : List AO} {m : Nat} {fs' : σ → Fam} (ms : List Nat) (sp : SpecF P f avs h1 m fs G val post fs') (hN : H0.length ≤ E.N) (hE : ∀ l, l < H0.length → E.ρ l = R0 l) (eg : ∀ args w, (callFunc f args).run P w = .ok (.enter f args) w)
    (hin : HasIn (renF ms L) h 0 h1) (hf : evA τ x = some (.fn f cs)) {l : List AV} (hxs : evList (evA τ) xs.toList = some l) (hx : l ++ cs = AV.rens (renF ms L) avs) (hP : ∀ s, (bdB m (post s) && nodupB (((post s).map (·.1)).map (renF ms L))) = true)
    (hg : wantA ops ⟨some d, .call { callee := .value x, args := xs, argTypes := ats }, ty, ps, af, gd⟩ τ = some true) (hb : (Nat.ble (d + 1) n && Nat.beq h1.length ms.length && onceB h1 ms && chainB h D ((goneL h1 ms).map (·.1)) && Nat.ble h1.length m && roH H0 h) = true)
    (k : ∀ s, G s → R P ops Q (actD h D ((goneL h1 ms).map (·.1))) E n (L + (m - h1.length)) ((d, (val s).ren (renF ms L)) :: τ) (renH (renF ms L) (post s) ++ (goneL h1 ms ++ h)) (FF H0 R0 W0 FS0 (fs' s)) rest) :
    R P ops Q D E n L τ h (FF H0 R0 W0 FS0 fs) (⟨some d, .call { callee := .value x, args := xs, argTypes := ats }, ty, ps, af, gd⟩ :: rest) := by
  rw [Bool.and_eq_true, Bool.and_eq_true] at hb
  obtain ⟨⟨hb1, hb2⟩, hrob⟩ := hb
  simp only [Bool.and_eq_true] at hP
  have e : FF H0 R0 W0 FS0 fs = FF H0 R0 W0 FS0 (fs ++ []) := by rw [List.append_nil]
  rw [e]
  refine R.cfG [] ms sp eg (fun ρ a w g l b hl hb hw => ?_) hf hxs hx hin hb2 (fun s => bdB_lt (hP s).1) (fun s => (hP s).2) hg hb1 (fun s hs => ?_)
  · rw [List.append_nil] at g
    cases hx : hk l h with
    | none => exact hl hx
    | some o =>
      cases hro : o.isRo with
      | false =>
        obtain ⟨p, hp, _, he⟩ := hw
        exact g.apF hp ⟨o, hx, hro⟩ (by rw [he]; exact hb)
      | true =>
        obtain ⟨o0, h3, h4⟩ := roH_get hrob hx hro
        have hlN : l < H0.length := (List.getElem?_eq_some_iff.1 h3).1
        have : ρ l = R0 l := by rw [g.ex l (by omega), hE l hlN]
        exact g.ff.inn h3 h4 (this ▸ hb) hw
  · rw [List.append_nil]
    exact k s hs
theorem apf_swap {p : Fact} {fs : Fam} (h : ApF (p :: fs)) : ApF (fs ++ [p]) := by
  unfold ApF at h ⊢
  rw [List.pairwise_cons] at h
  rw [List.pairwise_append]
  exact ⟨h.2, List.pairwise_singleton _ _, fun a ha b hb e => by
    obtain rfl : b = p := by simpa using hb
    exact (h.1 a ha e.symm).symm⟩
/-- a slot's label, told by its address -/
theorem C.unname {c : Code} (t : Nat) {v : AV} (v' : Value) (hv : lk t τ = some v) (hc : ∀ ρ : Env, (∀ l, l < E.N → ρ l = E.ρ l) → v.conc ρ = v') (k : C P c Q E n L ((t, .raw v') :: τ) h F) : C P c Q E n L τ h F := ⟨fun ρ a w g => k.out ρ a w ⟨g.df, g.sz, fun s u hu => by
    rw [lk_cons] at hu
    split at hu
    · rename_i e
      subst e
      cases hu
      exact ⟨AV.Low.raw _ _ _, by rw [(g.tm t _ hv).2, hc ρ g.ex]; rfl⟩
    · exact g.tm s u hu, g.hp, g.dis, g.fr, g.ex, g.le, g.al⟩⟩
/-- a label's block becomes a fact -/
theorem C.frzB {c : Code} (rw' : Bool) (t l : Nat) {q : List UInt8} {c0 cc : Nat} {T : TypeId} (hl : hk l h = some (.bytes q cc T)) (hpos : 0 < q.length) (hv : lk t τ = some (.sl l 1 0 q.length c0))
    (k : ∀ b ob, Is b ob (.bytes q cc T) → (∀ p ∈ fs, p.b ≠ b) → C P c Q E n L ((t, .raw (.slice (some ⟨b, 0, none⟩) q.length c0)) :: τ) ((l, .gone) :: h) (FF H0 R0 W0 FS0 (⟨rw', b, ob⟩ :: fs))) : C P c Q E n L τ h (FF H0 R0 W0 FS0 fs) :=
  C.again L (fun x : Nat × Obj => (t, .raw (.slice (some ⟨x.1, 0, none⟩) q.length c0)) :: τ) (fun _ => (l, .gone) :: h) (fun x => FF H0 R0 W0 FS0 (⟨rw', x.1, x.2⟩ :: fs)) (fun x => Is x.1 x.2 (.bytes q cc T) ∧ ∀ p ∈ fs, p.b ≠ x.1)
    (fun ρ a w g => g.frz rw' t l (fun b => .slice (some ⟨b, 0, none⟩) q.length c0) hl rfl hv (fun e => by
      have hh := (g.hp l _ hl).2.2
      rw [e] at hh
      obtain ⟨h1, ⟨_, h2⟩ | ⟨b, cur, h2, _⟩⟩ := hh
      · omega
      · cases h2) (fun ρ b hb => by simp [AV.conc, hb]) (fun b ob w hb hw h => is_bytes hw h)) (fun x hx => k x.1 x.2 hx.1 hx.2)
end
end Go.Proofs.Yteabncomclgncaa
