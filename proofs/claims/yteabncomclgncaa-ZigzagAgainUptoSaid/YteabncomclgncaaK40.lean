/- The kernel, 40: labels for what facts tell, by any slot; lists (nil too) told as facts; calls beside facts in any order. No program in sight. -/
import Derived.Test.YteabncomclgncaaK39
namespace Go.Proofs.Yteabncomclgncaa
set_option linter.unusedVariables false
set_option linter.unusedSimpArgs false
set_option linter.unusedSectionVars false
open Go.RowKit
theorem apf_perm {a b : Fam} (hp : a.Perm b) (h : ApF a) : ApF b := (List.Perm.pairwise_iff (fun {x y} h e => (h e.symm).symm) hp).1 h
/-- facts on a list's block, if it has one -/
def optF (rw' : Bool) (a : Option Nat) (ob : Obj) : Fam := match a with
  | none => []
  | some b => [⟨rw', b, ob⟩]
abbrev slV (a : Option Nat) (n c : Nat) : Value := .slice (a.map fun b => ⟨b, 0, none⟩) n c
section
variable {E : Base} {ρ : Env} {n L : Nat} {τ : List (Nat × AV)} {h : List (Nat × AO)} {F : World → Prop} {a : Act} {w : World} {h0 : List AO} {ρ0 : Env} {w0 : World} {fs0 fs : Fam}
theorem FF.perm (hf : FF h0 ρ0 w0 fs0 fs w) {fs2 : Fam} (hp : fs.Perm fs2) : FF h0 ρ0 w0 fs0 fs2 w := hf.less (fun p h => hp.symm.subset h) (apf_perm hp hf.ap)
/-- a slot's value told in another way -/
theorem Gam.retell (g : Gam E ρ n L τ h F a w) (t : Nat) {v v' : AV} (hv : lk t τ = some v) (hc : v'.conc ρ = v.conc ρ) (hb : v'.bd L = true) : Gam E ρ n L ((t, v') :: τ) h F a w :=
  ⟨g.df, g.sz, fun s u hu => by
    rw [lk_cons] at hu
    split at hu
    · rename_i e
      subst e
      cases hu
      exact ⟨bdLow hb _, by rw [(g.tm t _ hv).2, hc]⟩
    · exact g.tm s u hu, g.hp, g.dis, g.fr, g.ex, g.le, g.al⟩
/-- labels forgotten -/
theorem Gam.drop (g : Gam E ρ n L τ h F a w) {h2 : List (Nat × AO)} (hs : ∀ l o, hk l h2 = some o → hk l h = some o) : Gam E ρ n L τ h2 F a w := by
  have hw : ∀ l, wrA l h2 → wrA l h := fun l ⟨o, h1, h3⟩ => ⟨o, hs l o h1, h3⟩
  refine ⟨g.df, g.sz, g.tm, fun l o hl => g.hp l o (hs l o hl), fun l l' b h1 h3 h4 h5 => g.dis l l' b (hw l h1) ?_ h4 h5, fun w' hw' => g.fr w' (hw'.mono fun b _ hd l hl => hd l (hw l hl)), g.ex, g.le, g.al⟩
  cases hx : hk l' h2 with
  | none => exact absurd hx h3
  | some o => rw [hs l' o hx]; simp
theorem hk_dropped {l : Nat} {h : List (Nat × AO)} : ∀ l' o, hk l' ((l, .gone) :: h) = some o → hk l' h = some o := fun l' o ho => by
  rw [hk_cons] at ho
  split at ho
  · cases ho
  · exact ho
/-- a label that is only read, at a fact's block or at none -/
theorem Gam.lab0 (g : Gam E ρ n L τ h (FF h0 ρ0 w0 fs0 fs) a w) {x : Option Nat} {o : AO} (hro : o.isRo = true) (ho : o.holds (updE ρ L x) x w) (hx : ∀ b, x = some b → ∃ p ∈ fs, p.b = b) (hlow : o.Bd 0) :
    Gam E (updE ρ L x) n (L + 1) τ ((L, o) :: h) (FF h0 ρ0 w0 fs0 fs) a w := by
  have hs : ∀ l, l < L → updE ρ L x l = ρ l := fun l hl => updE_ne ρ _ (by omega)
  have hff := g.ff
  have hwr : ∀ l, wrA l ((L, o) :: h) → L ≠ l ∧ wrA l h := fun l ⟨o1, h1, h3⟩ => by
    rw [hk_cons] at h1
    split at h1
    · have e2 : o1 = o := by cases o <;> simp at h1 <;> exact h1.symm
      subst e2
      rw [hro] at h3; cases h3
    · rename_i e; exact ⟨e, o1, h1, h3⟩
  have hLL : ∀ l, hk l h ≠ none → l < L := fun l hl => by
    cases hx : hk l h with
    | none => exact absurd hx hl
    | some o1 => exact (g.hp l o1 hx).1
  refine ⟨g.df, g.sz, fun s u hu => ?_, fun l o1 hl => ?_, fun l1 l2 b1 h1 h3 h4 h5 => ?_, fun w' hw' => ?_, fun l hl => ?_, Nat.le_trans g.le (Nat.le_succ L), fun l b hl hlb => ?_⟩
  · have := g.tm s u hu
    exact ⟨(this.1.ext hs).mono (Nat.le_succ L), by rw [this.2, this.1 _ hs]⟩
  · rw [hk_cons] at hl
    split at hl
    · rename_i e
      subst e
      rw [updE_same]
      have e2 : o1 = o := by cases o <;> simp at hl <;> exact hl.symm
      subst e2
      exact ⟨Nat.lt_succ_self _, (hlow.low _).mono (Nat.zero_le _), ho⟩
    · have hh := g.hp l o1 hl
      refine ⟨Nat.lt_succ_of_lt hh.1, (hh.2.1.ext hs).mono (Nat.le_succ L), ?_⟩
      rw [hs l hh.1]
      exact (hh.2.1 _ hs _ _).1 hh.2.2
  · obtain ⟨e1, h1'⟩ := hwr l1 h1
    rw [hs l1 (hLL l1 h1'.live)] at h4
    by_cases e2 : L = l2
    · rw [← e2, updE_same] at h5
      obtain ⟨p, hp, rfl⟩ := hx _ h5
      exact absurd h4 (g.apF hp h1')
    · rw [hk_cons, if_neg e2] at h3
      rw [hs l2 (hLL l2 h3)] at h5
      exact g.dis l1 l2 b1 h1' h3 h4 h5
  · refine g.fr w' (hw'.mono fun b _ hd l hl hlb => ?_)
    obtain ⟨e1, h1'⟩ := hwr l hl
    rw [hs l (hLL l h1'.live)] at hlb
    exact hd l h1' hlb
  · rw [hs l (Nat.lt_of_lt_of_le hl g.le)]; exact g.ex l hl
  · rcases Nat.lt_or_ge l L with h1 | h1
    · exact g.al l b h1 ((hs l h1).symm.trans hlb)
    · obtain rfl : l = L := by omega
      rw [updE_same] at hlb
      obtain ⟨p, hp, rfl⟩ := hx _ hlb
      exact hff.lt hp
/-- slot t speaks of a fact's block (or of none): it speaks of a label now, that is only read -/
theorem Gam.labO (g : Gam E ρ n L τ h (FF h0 ρ0 w0 fs0 fs) a w) (t : Nat) {x : Option Nat} {ob : Obj} {o : AO} {v : AV} (v' : AV) (hv : lk t τ = some v) (hp : ∀ p ∈ optF false x ob, ∃ q ∈ fs, q.b = p.b ∧ q.ob = p.ob) (hro : o.isRo = true) (hc : ∀ ρ : Env, ρ L = x → v'.conc ρ = v.conc ρ) (hb : v'.bd (L + 1) = true)
    (ho : ∀ b, x = some b → Is b ob o) (hn : x = none → ∀ (ρ : Env) W, o.holds ρ none W) (hlow : o.Bd 0) :
    Gam E (updE ρ L x) n (L + 1) ((t, v') :: τ) ((L, o) :: h) (FF h0 ρ0 w0 fs0 fs) a w := by
  refine (g.lab0 hro ?_ (fun b hb => ?_) hlow).retell t hv (hc _ (updE_same _ _ _)) hb
  · cases x with
    | none => exact hn rfl _ _
    | some b =>
      obtain ⟨q, hq, h1, h2⟩ := hp ⟨false, b, ob⟩ (by simp [optF])
      exact ho b rfl _ _ (by have := g.ff.at_ q hq; rw [h1, h2] at this; exact this)
  · subst hb
    obtain ⟨q, hq, h1, h2⟩ := hp ⟨false, b, ob⟩ (by simp [optF])
    exact ⟨q, hq, h1⟩
/-- a list's label becomes a fact, where it has a block -/
theorem Gam.frzO (g : Gam E ρ n L τ h (FF h0 ρ0 w0 fs0 fs) a w) (rw' : Bool) (t l : Nat) {wd n0 cap c : Nat} {f : Nat → List AV} {T : TypeId} (hl : hk l h = some (.tab wd n0 cap f T)) (hv : lk t τ = some (.sl l wd 0 n0 c)) (hraw : ∀ i, i < n0 → ∀ x ∈ f i, ∀ ρ1 ρ2 : Env, x.conc ρ1 = x.conc ρ2) :
    ∃ x : Option Nat × Obj, ∃ ρ', ((x.1 = none → n0 = 0) ∧ ∀ b, x.1 = some b → Is b x.2 (.ro wd 0 n0 f) ∧ ∀ p ∈ fs, p.b ≠ b) ∧ Gam E ρ' n L ((t, .raw (slV x.1 n0 c)) :: τ) ((l, .gone) :: h) (FF h0 ρ0 w0 fs0 (optF rw' x.1 x.2 ++ fs)) a w := by
  have hh := (g.hp l _ hl).2.2
  cases hx : ρ l with
  | none =>
    refine ⟨(none, default), ρ, ⟨fun _ => ?_, fun b hb => by cases hb⟩, (g.retell t (v' := .raw (slV none n0 c)) hv (by simp [AV.conc, hx]) rfl).drop hk_dropped⟩
    obtain ⟨h1, _, ⟨_, h2⟩ | ⟨b, cur, h2, _⟩⟩ := hh
    · omega
    · rw [hx] at h2; cases h2
  | some b =>
    obtain ⟨y, ρ', ⟨h1, h2⟩, h3⟩ := g.frz rw' t l (o' := .ro wd 0 n0 f) (fun b => .slice (some ⟨b, 0, none⟩) n0 c) hl rfl hv (by rw [hx]; simp) (fun ρ b hb => by simp [AV.conc, hb]) (fun b ob w' hb hw h ρ2 w2 hw2 => by
      obtain ⟨_, _, ⟨h4, _⟩ | ⟨b', cur, h4, h5, h6, h7⟩⟩ := h
      · cases h4
      · cases h4
        rw [hw] at h5
        cases h5
        refine .inr ⟨b, cur, T, _, rfl, hw2, fun i c x hi hx => ?_⟩
        have := h7 i c x hi hx
        rw [Nat.zero_add, this, hraw i hi x (List.mem_of_getElem? hx) ρ ρ2])
    exact ⟨(some y.1, y.2), ρ', ⟨fun e => (by cases e), fun b hb => by cases hb; exact ⟨h1, h2⟩⟩, h3⟩
end
/-- every label that is only read (and not gone) is one of the call's own, which its contract tells as only read -/
def roL (H0 : List AO) (h : List (Nat × AO)) : Bool := h.all fun p => match hk p.1 h with
  | some o => !o.isRo || (match H0[p.1]? with | some o => o.isRo | none => false)
  | none => true
theorem roL_get {H0 : List AO} {h : List (Nat × AO)} (hr : roL H0 h = true) {l : Nat} {o : AO} (hl : hk l h = some o) (ho : o.isRo = true) : ∃ o0, H0[l]? = some o0 ∧ o0.isRo = true := by
  have := List.all_eq_true.1 hr _ (lk_mem (hk_lk hl))
  simp only [hl, ho, Bool.not_true, Bool.false_or] at this
  split at this
  · rename_i o0 h0; exact ⟨o0, h0, this⟩
  · cases this
section
variable {P : Program} {ops : Array Oper} {Q : Exit → Act → World → Prop} {D : Option DD} {E : Base} {n L : Nat} {τ : List (Nat × AV)} {h : List (Nat × AO)} {F : World → Prop} {rest : List Oper} {H0 : List AO} {R0 : Env} {W0 : World} {FS0 fs : Fam}
theorem C.labO {c : Code} (t : Nat) (x : Option Nat) (ob : Obj) (o : AO) {v : AV} (v' : AV) (hv : lk t τ = some v) (hp : ∀ p ∈ optF false x ob, ∃ q ∈ fs, q.b = p.b ∧ q.ob = p.ob) (hro : o.isRo = true) (hc : ∀ ρ : Env, ρ L = x → v'.conc ρ = v.conc ρ) (hb : v'.bd (L + 1) = true)
    (ho : ∀ b, x = some b → Is b ob o) (hn : x = none → ∀ (ρ : Env) W, o.holds ρ none W) (hlow : o.Bd 0)
    (k : C P c Q E n (L + 1) ((t, v') :: τ) ((L, o) :: h) (FF H0 R0 W0 FS0 fs)) : C P c Q E n L τ h (FF H0 R0 W0 FS0 fs) := ⟨fun ρ a w g => k.out _ a w (g.labO t v' hv hp hro hc hb ho hn hlow)⟩
theorem R.labO (t : Nat) (x : Option Nat) (ob : Obj) (o : AO) {v : AV} (v' : AV) (hv : lk t τ = some v) (hp : ∀ p ∈ optF false x ob, ∃ q ∈ fs, q.b = p.b ∧ q.ob = p.ob) (hro : o.isRo = true) (hc : ∀ ρ : Env, ρ L = x → v'.conc ρ = v.conc ρ) (hb : v'.bd (L + 1) = true)
    (ho : ∀ b, x = some b → Is b ob o) (hn : x = none → ∀ (ρ : Env) W, o.holds ρ none W) (hlow : o.Bd 0)
    (k : R P ops Q D E n (L + 1) ((t, v') :: τ) ((L, o) :: h) (FF H0 R0 W0 FS0 fs) rest) : R P ops Q D E n L τ h (FF H0 R0 W0 FS0 fs) rest :=
  R.renew (α := Unit) (L + 1) (fun _ => (t, v') :: τ) (fun _ => (L, o) :: h) (fun _ => FF H0 R0 W0 FS0 fs) (fun _ => True) (Nat.le_succ L) (fun ρ a w g => ⟨(), _, trivial, fun l hl => updE_ne ρ _ (by omega), g.labO t v' hv hp hro hc hb ho hn hlow⟩) (fun _ _ => k)
theorem R.frzO (rw' : Bool) (t l : Nat) {wd n0 cap c : Nat} {f : Nat → List AV} {T : TypeId} (hl : hk l h = some (.tab wd n0 cap f T)) (hv : lk t τ = some (.sl l wd 0 n0 c)) (hraw : ∀ i, i < n0 → ∀ x ∈ f i, ∀ ρ1 ρ2 : Env, x.conc ρ1 = x.conc ρ2)
    (k : ∀ x ob, (x = none → n0 = 0) → (∀ b, x = some b → Is b ob (.ro wd 0 n0 f) ∧ ∀ p ∈ fs, p.b ≠ b) → R P ops Q none E n L ((t, .raw (slV x n0 c)) :: τ) ((l, .gone) :: h) (FF H0 R0 W0 FS0 (optF rw' x ob ++ fs)) rest) : R P ops Q none E n L τ h (FF H0 R0 W0 FS0 fs) rest :=
  R.again L (fun x : Option Nat × Obj => (t, .raw (slV x.1 n0 c)) :: τ) (fun _ => (l, .gone) :: h) (fun x => FF H0 R0 W0 FS0 (optF rw' x.1 x.2 ++ fs)) (fun x => (x.1 = none → n0 = 0) ∧ ∀ b, x.1 = some b → Is b x.2 (.ro wd 0 n0 f) ∧ ∀ p ∈ fs, p.b ≠ b)
    (fun ρ a w g => g.frzO rw' t l hl hv hraw) (fun x hx => k x.1 x.2 hx.1 hx.2)
theorem C.frzO {c0 : Code} (rw' : Bool) (t l : Nat) {wd n0 cap c : Nat} {f : Nat → List AV} {T : TypeId} (hl : hk l h = some (.tab wd n0 cap f T)) (hv : lk t τ = some (.sl l wd 0 n0 c)) (hraw : ∀ i, i < n0 → ∀ x ∈ f i, ∀ ρ1 ρ2 : Env, x.conc ρ1 = x.conc ρ2)
    (k : ∀ x ob, (x = none → n0 = 0) → (∀ b, x = some b → Is b ob (.ro wd 0 n0 f) ∧ ∀ p ∈ fs, p.b ≠ b) → C P c0 Q E n L ((t, .raw (slV x n0 c)) :: τ) ((l, .gone) :: h) (FF H0 R0 W0 FS0 (optF rw' x ob ++ fs))) : C P c0 Q E n L τ h (FF H0 R0 W0 FS0 fs) :=
  C.again L (fun x : Option Nat × Obj => (t, .raw (slV x.1 n0 c)) :: τ) (fun _ => (l, .gone) :: h) (fun x => FF H0 R0 W0 FS0 (optF rw' x.1 x.2 ++ fs)) (fun x => (x.1 = none → n0 = 0) ∧ ∀ b, x.1 = some b → Is b x.2 (.ro wd 0 n0 f) ∧ ∀ p ∈ fs, p.b ≠ b)
    (fun ρ a w g => g.frzO rw' t l hl hv hraw) (fun x hx => k x.1 x.2 hx.1 hx.2)
/-- facts in another order, fewer, or told twice -/
theorem C.fperm {c : Code} {fs2 : Fam} (hp : fs.Perm fs2) (k : C P c Q E n L τ h (FF H0 R0 W0 FS0 fs2)) : C P c Q E n L τ h (FF H0 R0 W0 FS0 fs) := C.wk (fun w hf => hf.perm hp) k
theorem X.fperm {e : Exit} {fs2 : Fam} (hp : fs.Perm fs2) (k : X Q e E n L τ h (FF H0 R0 W0 FS0 fs2)) : X Q e E n L τ h (FF H0 R0 W0 FS0 fs) := X.wk (fun w hf => hf.perm hp) k
theorem R.fperm {fs2 : Fam} (hp : fs.Perm fs2) (k : R P ops Q D E n L τ h (FF H0 R0 W0 FS0 fs2) rest) : R P ops Q D E n L τ h (FF H0 R0 W0 FS0 fs) rest := R.wkD (fun w hf => hf.perm hp) k
/-- a label forgotten -/
theorem R.drop (l : Nat) (k : R P ops Q none E n L τ ((l, .gone) :: h) F rest) : R P ops Q none E n L τ h F rest := ⟨fun ρ a w g => k.out ρ a w (g.drop hk_dropped)⟩
theorem C.drop {c : Code} (l : Nat) (k : C P c Q E n L τ ((l, .gone) :: h) F) : C P c Q E n L τ h F := ⟨fun ρ a w g => k.out ρ a w (g.drop hk_dropped)⟩
theorem X.drop {e : Exit} (l : Nat) (k : X Q e E n L τ ((l, .gone) :: h) F) : X Q e E n L τ h F := ⟨fun ρ a w g => k.out ρ a w (g.drop hk_dropped)⟩
variable {d : Nat} {ty : TypeId} {ps : String} {af : Array Edge} {gd : Option (Nat × Bool)}
/-- a call by a contract that speaks of facts, beside others -/
theorem R.clE {σ : Type} {G : σ → Prop} {val : σ → AV} {post : σ → List (Nat × AO)} {f : FuncId} {x : Operand} {cs : List AV} {xs : Array Operand} {ats : Array TypeId} {avs : List AV} {h1 : List AO} {m : Nat} {fs1 : Fam} {fs' : σ → Fam} (ms : List Nat) (sp : SpecF P f avs h1 m fs1 G val post fs') (fr : Fam) (hperm : fs.Perm (fs1 ++ fr)) (hN : H0.length ≤ E.N) (hE : ∀ l, l < H0.length → E.ρ l = R0 l) (eg : ∀ args w, (callFunc f args).run P w = .ok (.enter f args) w)
    (hin : HasIn (renF ms L) h 0 h1) (hf : evA τ x = some (.fn f cs)) {l : List AV} (hxs : evList (evA τ) xs.toList = some l) (hx : l ++ cs = AV.rens (renF ms L) avs) (hP : ∀ s, (bdB m (post s) && nodupB (((post s).map (·.1)).map (renF ms L))) = true)
    (hg : wantA ops ⟨some d, .call { callee := .value x, args := xs, argTypes := ats }, ty, ps, af, gd⟩ τ = some true) (hb : (Nat.ble (d + 1) n && Nat.beq h1.length ms.length && onceB h1 ms && chainB h D ((goneL h1 ms).map (·.1)) && Nat.ble h1.length m && roL H0 h) = true)
    (k : ∀ s, G s → R P ops Q (actD h D ((goneL h1 ms).map (·.1))) E n (L + (m - h1.length)) ((d, (val s).ren (renF ms L)) :: τ) (renH (renF ms L) (post s) ++ (goneL h1 ms ++ h)) (FF H0 R0 W0 FS0 (fs' s ++ fr)) rest) :
    R P ops Q D E n L τ h (FF H0 R0 W0 FS0 fs) (⟨some d, .call { callee := .value x, args := xs, argTypes := ats }, ty, ps, af, gd⟩ :: rest) := by
  rw [Bool.and_eq_true, Bool.and_eq_true] at hb
  obtain ⟨⟨hb1, hb2⟩, hrob⟩ := hb
  simp only [Bool.and_eq_true] at hP
  refine R.fperm hperm ?_
  refine R.cfG fr ms sp eg (fun ρ a w g l b hl hb hw => ?_) hf hxs hx hin hb2 (fun s => bdB_lt (hP s).1) (fun s => (hP s).2) hg hb1 k
  cases hx : hk l h with
  | none => exact hl hx
  | some o =>
    cases hro : o.isRo with
    | false =>
      obtain ⟨p, hp, _, he⟩ := hw
      exact g.apF (List.mem_append_left _ hp) ⟨o, hx, hro⟩ (by rw [he]; exact hb)
    | true =>
      obtain ⟨o0, h3, h4⟩ := roL_get hrob hx hro
      have hlN : l < H0.length := (List.getElem?_eq_some_iff.1 h3).1
      have : ρ l = R0 l := by rw [g.ex l (by omega), hE l hlN]
      obtain ⟨p, hp, q⟩ := hw
      exact g.ff.inn h3 h4 (this ▸ hb) ⟨p, List.mem_append_left _ hp, q⟩
/-- the same, where the facts are only read -/
theorem R.clV {σ : Type} {G : σ → Prop} {val : σ → AV} {post : σ → List (Nat × AO)} {f : FuncId} {x : Operand} {cs : List AV} {xs : Array Operand} {ats : Array TypeId} {avs : List AV} {h1 : List AO} {m : Nat} {fs1 : Fam} {fs' : σ → Fam} (ms : List Nat) (sp : SpecF P f avs h1 m fs1 G val post fs') (fr : Fam) (hperm : fs.Perm (fs1 ++ fr)) (hfr : ∀ p ∈ fs1, p.rw = false) (eg : ∀ args w, (callFunc f args).run P w = .ok (.enter f args) w)
    (hin : HasIn (renF ms L) h 0 h1) (hf : evA τ x = some (.fn f cs)) {l : List AV} (hxs : evList (evA τ) xs.toList = some l) (hx : l ++ cs = AV.rens (renF ms L) avs) (hP : ∀ s, (bdB m (post s) && nodupB (((post s).map (·.1)).map (renF ms L))) = true)
    (hg : wantA ops ⟨some d, .call { callee := .value x, args := xs, argTypes := ats }, ty, ps, af, gd⟩ τ = some true) (hb : (Nat.ble (d + 1) n && Nat.beq h1.length ms.length && onceB h1 ms && chainB h D ((goneL h1 ms).map (·.1)) && Nat.ble h1.length m) = true)
    (k : ∀ s, G s → R P ops Q (actD h D ((goneL h1 ms).map (·.1))) E n (L + (m - h1.length)) ((d, (val s).ren (renF ms L)) :: τ) (renH (renF ms L) (post s) ++ (goneL h1 ms ++ h)) (FF H0 R0 W0 FS0 (fs' s ++ fr)) rest) :
    R P ops Q D E n L τ h (FF H0 R0 W0 FS0 fs) (⟨some d, .call { callee := .value x, args := xs, argTypes := ats }, ty, ps, af, gd⟩ :: rest) := by
  rw [Bool.and_eq_true] at hb
  obtain ⟨hb1, hb2⟩ := hb
  simp only [Bool.and_eq_true] at hP
  refine R.fperm hperm ?_
  exact R.cfG fr ms sp eg (fun ρ a w g l b hl hb ⟨p, hp, q, _⟩ => by rw [hfr p hp] at q; cases q) hf hxs hx hin hb2 (fun s => bdB_lt (hP s).1) (fun s => (hP s).2) hg hb1 k
end
end Go.Proofs.Yteabncomclgncaa
