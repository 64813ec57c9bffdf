/- The kernel, 38: steps between labels and blocks without labels, in regions that draw too. No program in sight. -/
import Derived.Test.YteabncomclgncaaK37
namespace Go.Proofs.Yteabncomclgncaa
set_option linter.unusedVariables false
set_option linter.unusedSimpArgs false
set_option linter.unusedSectionVars false
open Go.RowKit
section
variable {P : Program} {ops : Array Oper} {Q : Exit → Act → World → Prop} {D : Option DD} {E : Base} {n L : Nat} {τ : List (Nat × AV)} {h : List (Nat × AO)} {F : World → Prop} {rest : List Oper}
/-- a state told anew, in a region that draws too -/
theorem R.renew {α : Type} (L' : Nat) (τ' : α → List (Nat × AV)) (h' : α → List (Nat × AO)) (F' : α → World → Prop) (I : α → Prop) (hL : L ≤ L') (hg : ∀ ρ a w, Gam E ρ n L τ h F a w → ∃ x ρ', I x ∧ (∀ l, l < L → ρ' l = ρ l) ∧ Gam E ρ' n L' (τ' x) (h' x) (F' x) a w)
    (k : ∀ x, I x → R P ops Q D E n L' (τ' x) (h' x) (F' x) rest) : R P ops Q D E n L τ h F rest := ⟨by
  cases D with
  | none =>
    intro ρ a w g
    obtain ⟨x, ρ', hI, _, g'⟩ := hg ρ a w g
    exact (k x hI).out ρ' a w g'
  | some d =>
    intro hops hpl hwl ρ a w Ws g hs
    obtain ⟨x, ρ', hI, he, g'⟩ := hg ρ a w g
    have h1 := (k x hI).out hops (fun p hp => Nat.lt_of_lt_of_le (hpl p hp) hL) (fun p hp l hl => Nat.lt_of_lt_of_le (hwl p hp l hl) hL) ρ' a w Ws g' (hs.ext he hwl)
    have e : pendC ρ' d.pend = pendC ρ d.pend := pendC_ext he _ hpl
    rw [e] at h1
    exact h1⟩
variable {h0 : List AO} {ρ0 : Env} {w0 : World} {fs0 fs : Fam}
theorem R.wkD {F2 : World → Prop} (hF : ∀ w, F w → F2 w) (k : R P ops Q D E n L τ h F2 rest) : R P ops Q D E n L τ h F rest :=
  R.renew (α := Unit) L (fun _ => τ) (fun _ => h) (fun _ => F2) (fun _ => True) (Nat.le_refl L) (fun ρ a w g => ⟨(), ρ, trivial, fun _ _ => rfl, g.strong fun w' hw => hF _ (g.fr w' hw)⟩) (fun _ _ => k)
/-- a fact's block gets a label that is only read -/
theorem R.lab (p : Fact) (hp : p ∈ fs) (t : Nat) {o : AO} {v : Value} (v' : AV) (hv : lk t τ = some (.raw v)) (hro : o.isRo = true) (hc : ∀ ρ : Env, ρ L = some p.b → v'.conc ρ = v) (hb : v'.bd (L + 1) = true) (ho : Is p.b p.ob o) (hlow : o.Bd 0)
    (k : R P ops Q D E n (L + 1) ((t, v') :: τ) ((L, o) :: h) (FF h0 ρ0 w0 fs0 fs) rest) : R P ops Q D E n L τ h (FF h0 ρ0 w0 fs0 fs) rest :=
  R.renew (α := Unit) (L + 1) (fun _ => (t, v') :: τ) (fun _ => (L, o) :: h) (fun _ => FF h0 ρ0 w0 fs0 fs) (fun _ => True) (Nat.le_succ L) (fun ρ a w g => ⟨(), _, trivial, fun l hl => updE_ne ρ _ (by omega), g.lab hp t v' hv hro hc hb ho hlow⟩) (fun _ _ => k)
/-- a label's block becomes a fact -/
theorem R.frz (rw' : Bool) (t l : Nat) {o o' : AO} {v : AV} (v' : Nat → Value) (hl : hk l h = some o) (hro : o.isRo = false) (hv : lk t τ = some v) (hc : ∀ (ρ : Env) b, ρ l = some b → v.conc ρ = v' b) (ho : ∀ (ρ : Env) b ob w, ρ l = some b → w.heap[b]? = some ob → o.holds ρ (some b) w → Is b ob o')
    (hsome : ∀ (ρ : Env) w, o.holds ρ (ρ l) w → ρ l ≠ none)
    (k : ∀ b ob, Is b ob o' → (∀ p ∈ fs, p.b ≠ b) → R P ops Q none E n L ((t, .raw (v' b)) :: τ) ((l, .gone) :: h) (FF h0 ρ0 w0 fs0 (⟨rw', b, ob⟩ :: fs)) rest) : R P ops Q none E n L τ h (FF h0 ρ0 w0 fs0 fs) rest :=
  R.again L (fun x : Nat × Obj => (t, .raw (v' x.1)) :: τ) (fun _ => (l, .gone) :: h) (fun x => FF h0 ρ0 w0 fs0 (⟨rw', x.1, x.2⟩ :: fs)) (fun x => Is x.1 x.2 o' ∧ ∀ p ∈ fs, p.b ≠ x.1)
    (fun ρ a w g => g.frz rw' t l v' hl hro hv (hsome ρ w (g.hp l o hl).2.2) hc (ho ρ)) (fun x hx => k x.1 x.2 hx.1 hx.2)
/-- of bytes -/
theorem is_bytes {b : Nat} {ob : Obj} {ρ : Env} {w : World} {p : List UInt8} {c : Nat} {T : TypeId} (hw : w.heap[b]? = some ob) (h : (AO.bytes p c T).holds ρ (some b) w) : Is b ob (.bytes p c T) := fun ρ' w' hw' => by
  obtain ⟨h1, h2 | ⟨b2, cur, h2, h3, h4⟩⟩ := h
  · cases h2.1
  · cases h2
    exact ⟨h1, .inr ⟨b, cur, rfl, hw'.trans (hw.symm.trans h3), h4⟩⟩
theorem Is.ro {b : Nat} {ob : Obj} {p : List UInt8} {c : Nat} {T : TypeId} (h : Is b ob (.bytes p c T)) : Is b ob (.ro 1 0 p.length (bytesF p)) := fun ρ w hw => by
  have := h ρ w hw
  exact bytes_ro this
theorem R.labB {p : Fact} (hp : p ∈ fs) (t : Nat) {q : List UInt8} {k0 c c2 : Nat} {T : TypeId} (ho : Is p.b p.ob (.bytes q c2 T)) (hk0 : k0 = q.length) (hv : lk t τ = some (.raw (.slice (some ⟨p.b, 0, none⟩) k0 c)))
    (k : R P ops Q D E n (L + 1) ((t, .sl L 1 0 q.length c) :: τ) ((L, .ro 1 0 q.length (bytesF q)) :: h) (FF h0 ρ0 w0 fs0 fs) rest) : R P ops Q D E n L τ h (FF h0 ρ0 w0 fs0 fs) rest := by
  subst hk0
  refine R.lab p hp t (.sl L 1 0 q.length c) hv rfl (fun ρ hρ => by simp [AV.conc, hρ]) (by simp [AV.bd, Nat.ble_eq]) ho.ro (bytesF_bd _ _) k
theorem R.frzB (rw' : Bool) (t l : Nat) {q : List UInt8} {w1 c cc : Nat} {T : TypeId} (hl : hk l h = some (.bytes q cc T)) (hpos : 0 < q.length) (hv : lk t τ = some (.sl l 1 0 q.length c))
    (k : ∀ b ob, Is b ob (.bytes q cc T) → (∀ p ∈ fs, p.b ≠ b) → R P ops Q none E n L ((t, .raw (.slice (some ⟨b, 0, none⟩) q.length c)) :: τ) ((l, .gone) :: h) (FF h0 ρ0 w0 fs0 (⟨rw', b, ob⟩ :: fs)) rest) : R P ops Q none E n L τ h (FF h0 ρ0 w0 fs0 fs) rest :=
  R.frz rw' t l (fun b => .slice (some ⟨b, 0, none⟩) q.length c) hl rfl hv (fun ρ b hb => by simp [AV.conc, hb]) (fun ρ b ob w hb hw h => is_bytes hw h)
    (fun ρ w hh e => by rw [e] at hh; obtain ⟨h1, ⟨_, h2⟩ | ⟨b, cur, h2, _⟩⟩ := hh; · omega
                        · cases h2) k
variable {d : Nat} {ty : TypeId} {ps : String} {af : Array Edge} {gd : Option (Nat × Bool)} {H0 : List AO} {R0 : Env} {W0 : World} {FS0 : Fam}
/-- a call by a contract that speaks of facts that nobody writes: all that are told -/
theorem R.clR {σ : Type} {G : σ → Prop} {val : σ → AV} {post : σ → List (Nat × AO)} {f : FuncId} {x : Operand} {cs : List AV} {xs : Array Operand} {ats : Array TypeId} {avs : List AV} {h1 : List AO} {m : Nat} {fs' : σ → Fam} (ms : List Nat) (sp : SpecF P f avs h1 m fs G val post fs') (hfr : ∀ p ∈ fs, p.rw = false) (eg : ∀ args w, (callFunc f args).run P w = .ok (.enter f args) w)
    (hin : HasIn (renF ms L) h 0 h1) (hf : evA τ x = some (.fn f cs)) {l : List AV} (hxs : evList (evA τ) xs.toList = some l) (hx : l ++ cs = AV.rens (renF ms L) avs) (hP : ∀ s, (bdB m (post s) && nodupB (((post s).map (·.1)).map (renF ms L))) = true)
    (hg : wantA ops ⟨some d, .call { callee := .value x, args := xs, argTypes := ats }, ty, ps, af, gd⟩ τ = some true) (hb : (Nat.ble (d + 1) n && Nat.beq h1.length ms.length && onceB h1 ms && chainB h D ((goneL h1 ms).map (·.1)) && Nat.ble h1.length m) = true)
    (k : ∀ s, G s → R P ops Q (actD h D ((goneL h1 ms).map (·.1))) E n (L + (m - h1.length)) ((d, (val s).ren (renF ms L)) :: τ) (renH (renF ms L) (post s) ++ (goneL h1 ms ++ h)) (FF H0 R0 W0 FS0 (fs' s)) rest) :
    R P ops Q D E n L τ h (FF H0 R0 W0 FS0 fs) (⟨some d, .call { callee := .value x, args := xs, argTypes := ats }, ty, ps, af, gd⟩ :: rest) := by
  rw [Bool.and_eq_true] at hb
  simp only [Bool.and_eq_true] at hP
  exact R.cfR ms sp eg hfr hf hxs hx hin hb.2 (fun s => bdB_lt (hP s).1) (fun s => (hP s).2) hg hb.1 k
/-- the same beside facts of the caller's own -/
theorem R.clG {σ : Type} {G : σ → Prop} {val : σ → AV} {post : σ → List (Nat × AO)} {f : FuncId} {x : Operand} {cs : List AV} {xs : Array Operand} {ats : Array TypeId} {avs : List AV} {h1 : List AO} {m : Nat} {fr : Fam} {fs' : σ → Fam} (ms : List Nat) (sp : SpecF P f avs h1 m [] G val post fs') (eg : ∀ args w, (callFunc f args).run P w = .ok (.enter f args) w)
    (hin : HasIn (renF ms L) h 0 h1) (hf : evA τ x = some (.fn f cs)) {l : List AV} (hxs : evList (evA τ) xs.toList = some l) (hx : l ++ cs = AV.rens (renF ms L) avs) (hP : ∀ s, (bdB m (post s) && nodupB (((post s).map (·.1)).map (renF ms L))) = true)
    (hg : wantA ops ⟨some d, .call { callee := .value x, args := xs, argTypes := ats }, ty, ps, af, gd⟩ τ = some true) (hb : (Nat.ble (d + 1) n && Nat.beq h1.length ms.length && onceB h1 ms && chainB h D ((goneL h1 ms).map (·.1)) && Nat.ble h1.length m) = true)
    (k : ∀ s, G s → R P ops Q (actD h D ((goneL h1 ms).map (·.1))) E n (L + (m - h1.length)) ((d, (val s).ren (renF ms L)) :: τ) (renH (renF ms L) (post s) ++ (goneL h1 ms ++ h)) (FF H0 R0 W0 FS0 (fs' s ++ fr)) rest) :
    R P ops Q D E n L τ h (FF H0 R0 W0 FS0 fr) (⟨some d, .call { callee := .value x, args := xs, argTypes := ats }, ty, ps, af, gd⟩ :: rest) := by
  rw [Bool.and_eq_true] at hb
  simp only [Bool.and_eq_true] at hP
  exact R.cfG (fs := []) fr ms sp eg (fun ρ a w g l b hl hb ⟨p, hp, _⟩ => by cases hp) hf hxs hx hin hb.2 (fun s => bdB_lt (hP s).1) (fun s => (hP s).2) hg hb.1 k
theorem apf_ro {fs : Fam} (h : ∀ p ∈ fs, p.rw = false) : ApF fs := List.Pairwise.imp_of_mem (R := fun _ _ => True) (fun hp hq _ _ => ⟨h _ hp, h _ hq⟩) (List.pairwise_of_forall fun _ _ => trivial)
end
end Go.Proofs.Yteabncomclgncaa
