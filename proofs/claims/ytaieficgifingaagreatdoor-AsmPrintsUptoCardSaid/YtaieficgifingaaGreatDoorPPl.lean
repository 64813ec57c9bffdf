/- Texts of the claim, merged: only what the theorem needs. -/
import Derived.Test.YtaieficgifingaaGreatDoorPPk
import Derived.RecoverIn
namespace Go.Proofs.YtaieficgifingaaGreatDoor
set_option linter.unusedVariables false
set_option linter.unusedSimpArgs false
set_option linter.unusedSectionVars false
open Go.RowKit
/-- the contract of a deferred call: in the mode u of its caller's frame; the mode behind it is u' -/
def SpecD (P : Program) (f : FuncId) (avs : List AV) (h0 : List AO) (m : Nat) {σ : Type} (u u' : FrameMode) (G : σ → Prop) (val : σ → AV) (post : σ → List (Nat × AO)) : Prop :=
  ∀ (ρ : Env) (w : World), (∀ (i : Nat) (o : AO), h0[i]? = some o → o.holds ρ (ρ i) w) → (∀ i j o b, h0[i]? = some o → o.isRo = false → j < h0.length → ρ i = some b → ρ j = some b → i = j) → (∀ i b, i < h0.length → ρ i = some b → b < w.heap.size) →
    CallsDIn Fence.wide 0 P f (AV.concs ρ avs).toArray u w fun e u2 w' => u2 = u' ∧ Outc h0 m ρ w G val post e w'
/-- what recover answers -/
inductive Recs : FrameMode → FrameMode → Value → Prop where
  | none : Recs .returning .returning .nilIface
  | some (v : Value) (older : List PanicEntry) : Recs (.panicking ({ v, recovered := false } :: older)) (.panicking ({ v, recovered := true } :: older)) v
theorem SpecD.of {P : Program} {f : FuncId} {avs : List AV} {h0 : List AO} {m : Nat} {σ : Type} {u u' : FrameMode} {rv : Value} {G : σ → Prop} {val : σ → AV} {post : σ → List (Nat × AO)} {fn : Func} {id d : Nat} {ty : TypeId} {ps : String} {rest : Code} (hf : P.funcs[f]? = some fn)
    (hb : fn.body = some (.seq (.region id #[⟨some d, .call { callee := .builtin .recover, args := #[], argTypes := #[] }, ty, ps, #[], none⟩] false) rest)) {n : Nat} (hn : fn.ntmps = n) (hr : Recs u u' rv) (hB : (Nat.ble avs.length n && AV.bds h0.length avs && Nat.ble (d + 1) n) = true) (hbo : ∀ o ∈ h0, o.Bd h0.length)
    (k : ∀ ρ w, C P rest (bodyPost P fn (Outc h0 m ρ w G val post)) ⟨h0.length, ρ, []⟩ n h0.length ((d, .raw rv) :: slots 0 avs) (labels 0 h0) (fun w' => Ag (fun b => ¬ Wr0 h0 ρ b) w w')) : SpecD P f avs h0 m u u' G val post := fun ρ w h1 h2 h3 => by
  simp only [Bool.and_eq_true] at hB
  refine callsDIn_of_wpSIn hf hb trivial fun c₀ cs hu => ?_
  have g := gam_enter ρ avs h0 w n hB.1.1 hB.1.2 hbo h1 h2 h3
  rw [hn]
  generalize ({ tmps := (AV.concs ρ avs).toArray ++ Array.replicate (n - (AV.concs ρ avs).toArray.size) undef, defers := [] } : Act) = a at g ⊢
  have key : ∀ cs', recoverD (c₀ :: cs) = some (rv, cs') ∨ (recoverD (c₀ :: cs) = none ∧ cs' = c₀ :: cs ∧ rv = .nilIface) → cs' = { c₀ with mode := u' } :: cs →
      Code.wpSIn Fence.wide 0 P (.seq (.region id #[⟨some d, .call { callee := .builtin .recover, args := #[], argTypes := #[] }, ty, ps, #[], none⟩] false) rest) (bodyPostS P fn c₀ cs fun e u2 w' => u2 = u' ∧ Outc h0 m ρ w G val post e w') a (c₀ :: cs) w := fun cs' hrec hcs => by
    refine wpSIn_seq (wpSIn_region ?_)
    have hex : (execOp a.eval ⟨some d, .call { callee := .builtin .recover, args := #[], argTypes := #[] }, ty, ps, #[], none⟩).run P w = .ok .recover w := by
      unfold execOp
      simp only [resolve, invoke, Sem.run_bind, Sem.run_pure, Result.andThen_ok]
      rfl
    show wpOpsSIn Fence.wide 0 P _ _ [0] a (c₀ :: cs) w
    have hw : Region.wanted ⟨some d, .call { callee := .builtin .recover, args := #[], argTypes := #[] }, ty, ps, #[], none⟩ (yielded #[⟨some d, .call { callee := .builtin .recover, args := #[], argTypes := #[] }, ty, ps, #[], none⟩] a.tmps) = true := rfl
    simp only [wpOpsSIn, List.getElem?_toArray, List.getElem?_cons_zero, hw, if_true, hex]
    refine ⟨fun _ _ => trivial, ?_⟩
    have hrest : Code.wpSIn Fence.wide 0 P rest (bodyPostS P fn c₀ cs fun e u2 w' => u2 = u' ∧ Outc h0 m ρ w G val post e w') (a.put (some d) rv) cs' w := by
      refine wpSIn_of_wpIn rfl (wpIn_wide.2 ?_)
      refine wp_mono ((k ρ w).out ρ _ w (g.put (some d) (.raw rv) hB.2 (AV.Low.raw _ _ _))) fun e a' w' hq => ?_
      subst hcs
      cases e with
      | normal =>
        obtain ⟨q1, v, q2, q3⟩ := hq
        exact ⟨q1, u', rfl, v, q2, rfl, q3⟩
      | ret =>
        obtain ⟨q1, v, q2, q3⟩ := hq
        exact ⟨q1, u', rfl, v, q2, rfl, q3⟩
      | panic ch =>
        obtain ⟨q1, q3⟩ := hq
        exact ⟨q1, u', rfl, rfl, q3⟩
      | exit id => exact hq.elim
      | goto l => exact hq.elim
      | outgrown => exact ⟨u', rfl, hq⟩
    rcases hrec with hrec | ⟨hrec, rfl, rfl⟩
    · rw [hrec]; exact hrest
    · rw [hrec]; exact hrest
  cases hr with
  | none =>
    refine key (c₀ :: cs) (.inr ⟨by simp [recoverD, hu], rfl, rfl⟩) ?_
    cases c₀; simp only at hu; subst hu; rfl
  | some v older =>
    exact key ({ c₀ with mode := .panicking ({ v := rv, recovered := true } :: older) } :: cs) (.inl (by simp [recoverD, hu])) rfl
theorem CallsDIn.mono {F : Fence} {n : Nat} {P : Program} {f : FuncId} {args : Array Value} {u : FrameMode} {w : World} {R R' : Ending → FrameMode → World → Prop} (h : CallsDIn F n P f args u w R) (hr : ∀ e u w, R e u w → R' e u w) : CallsDIn F n P f args u w R' :=
  ⟨h.1, fun c cs hu hroom => let ⟨e, u', w', fr, r, s, x⟩ := h.2 c cs hu hroom; ⟨e, u', w', fr, hr _ _ _ r, s, x⟩⟩
abbrev callD (f : FuncId) (caps : List Value) : Deferred := { target := .fn (.func f) caps.toArray, args := #[] }
section
variable {P : Program} {ops : Array Oper} {Q : Exit → Act → World → Prop} {E : Base} {n L : Nat} {τ : List (Nat × AV)} {h : List (Nat × AO)} {F : World → Prop} {rest : List Oper}
  {ty : TypeId} {ps : String} {af : Array Edge} {gd : Option (Nat × Bool)}
theorem R.pin (k : ∀ ρ1 : Env, (∀ l, l < E.N → ρ1 l = E.ρ l) → R P ops Q none ⟨L, ρ1, E.df⟩ n L τ h F rest) : R P ops Q none E n L τ h F rest := ⟨fun ρ a w g => (k ρ g.ex).out ρ a w g.pin⟩
theorem CA.pin {f : FuncId} {c : Code} (k : ∀ ρ1 : Env, (∀ l, l < E.N → ρ1 l = E.ρ l) → CA P f c Q ⟨L, ρ1, E.df⟩ n L τ h F) : CA P f c Q E n L τ h F := ⟨fun ρ a w g => (k ρ g.ex).out ρ a w g.pin⟩
/-- a deferred call -/
theorem R.dfr {x : Operand} {f : FuncId} {cs : List AV} {ats : Array TypeId} (hx : evA τ x = some (.fn f cs)) (hcs : AV.bds E.N cs = true) (hg : wantA ops ⟨none, .defer { callee := .value x, args := #[], argTypes := ats }, ty, ps, af, gd⟩ τ = some true)
    (k : R P ops Q none ⟨E.N, E.ρ, callD f (AV.concs E.ρ cs) :: E.df⟩ n L τ h F rest) : R P ops Q none E n L τ h F (⟨none, .defer { callee := .value x, args := #[], argTypes := ats }, ty, ps, af, gd⟩ :: rest) := ⟨fun ρ a w g => by
  show wpList P ops Q _ a w
  simp only [wpList]
  rw [if_pos (g.want hg)]
  left
  have hev : a.eval x = .func (.func f) #[] (AV.concs E.ρ cs).toArray := by
    have := (g.eval x _ hx).2
    rw [this]
    simp only [AV.conc]
    rw [bds_low cs hcs E.ρ ρ g.ex]
  have e : (execOp a.eval ⟨none, .defer { callee := .value x, args := #[], argTypes := ats }, ty, ps, af, gd⟩).run P w = .ok (.defer (callD f (AV.concs E.ρ cs))) w := by
    unfold execOp
    simp only [resolve, hev, Deferred.ofValue, Sem.run_bind, Sem.run_pure, Result.andThen_ok]
    simp
  unfold Oper.wp
  rw [e]
  exact k.out ρ _ w ⟨by show _ :: a.defers = _; rw [g.df], g.sz, g.tm, g.hp, g.dis, g.fr, g.ex, g.le, g.al⟩⟩
end
section
variable {P : Program} {n L : Nat} {τ : List (Nat × AV)} {h : List (Nat × AO)}
theorem SpecF.ofA {f : FuncId} {avs : List AV} {h0 : List AO} {m : Nat} {σ : Type} {fs : Fam} {G : σ → Prop} {val : σ → AV} {post : σ → List (Nat × AO)} {fs' : σ → Fam} {fn : Func} {c : Code} (hf : P.funcs[f]? = some fn) (hb : fn.body = some c) {n : Nat} (hn : fn.ntmps = n) (hB : (Nat.ble avs.length n && AV.bds h0.length avs) = true) (hbo : ∀ o ∈ h0, o.Bd h0.length)
    (k : ∀ ρ w, CA P f c (bodyPostM Fence.wide 0 P fn (OutcF h0 m ρ w fs G val post fs')) ⟨h0.length, ρ, []⟩ n h0.length (slots 0 avs) (labels 0 h0) (FF h0 ρ w fs fs)) : SpecF P f avs h0 m fs G val post fs' := fun ρ w h1 h2 => by
  simp only [Bool.and_eq_true] at hB
  refine (callsIn_wide (n := 0)).1 (callsIn_of_wpAt hf hb ?_)
  rw [hn]
  exact (k ρ w).out ρ _ w ((gam_enter ρ avs h0 w n hB.1 hB.2 hbo h1 h2.dis (fun i b hi hb => h2.al i b hi hb)).strong fun x hx => h2.ff ((gam_enter ρ avs h0 w n hB.1 hB.2 hbo h1 h2.dis (fun i b hi hb => h2.al i b hi hb)).fr x hx))
/-- the end behind a loop and a deferred call: the call is made, then it is as if there had been none -/
theorem X.finD {fn : Func} {R : Ending → World → Prop} {E : Base} {H0 : List AO} {R0 : Env} {W0 : World} {FS0 fsE : Fam} {D : Nat} {fD : FuncId} {cs : List AV} {σ : Type} {u u' : FrameMode} {avs : List AV} {hD : List AO} {m : Nat} {G : σ → Prop} {val : σ → AV} {post : σ → List (Nat × AO)} {e : Exit} (ms : List Nat)
    (sp : SpecD P fD avs hD m u u' G val post) (eg : ∀ args w, (callFunc fD args).run P w = .ok (.enter fD args) w) (he : (e = .ret ∨ e = .normal) ∧ u = .returning ∨ ∃ ch, e = .panic ch ∧ u = .panicking ch) (hu : settle u' = .returning) (hdf : E.df = [markD D, callD fD (AV.concs E.ρ cs)]) (hx : cs = AV.rens (renF ms L) avs) (hcs : AV.bds E.N cs = true) (hin : HasIn (renF ms L) h 0 hD) (hm : Nat.ble hD.length m = true)
    (hP : ∀ s, (bdB m (post s) && nodupB (((post s).map (·.1)).map (renF ms L))) = true) (hb : (Nat.beq hD.length ms.length && onceB hD ms) = true) (hDs : W0.heap.size ≤ D) (hcE : ∀ p ∈ fsE, p.ob.isCells = true)
    (k : ∀ s, G s → X (bodyPostM Fence.wide 0 P fn R) .ret ⟨E.N, E.ρ, []⟩ n (L + (m - hD.length)) τ (renH (renF ms L) (post s) ++ (goneL hD ms ++ h)) (FF H0 R0 W0 FS0 fsE)) :
    X (bodyPostM Fence.wide 0 P fn R) e E n L τ h (FF H0 R0 W0 FS0 (dFact D :: fsE)) := by
  simp only [Bool.and_eq_true] at hb hP
  obtain ⟨h2, h3⟩ := hb
  have hlen : hD.length = ms.length := Nat.eq_of_beq_eq_true h2
  have hm' : hD.length ≤ m := by simpa [Nat.ble_eq] using hm
  have key : ∀ ρ a w, Gam E ρ n L τ h (FF H0 R0 W0 FS0 (dFact D :: fsE)) a w → LeavesInM Fence.wide 0 P fn a.tmps R a.defers u w := fun ρ a w g => by
    have hat : w.heap[D]? = some (.deferred (some [])) := g.ff.at_ (dFact D) List.mem_cons_self
    have hoff : ∀ p ∈ fsE, p.b ≠ D := fun p hp e => by
      have h1 := g.ff.at_ p (List.mem_cons_of_mem _ hp)
      rw [e, hat] at h1
      have h2 := hcE p hp
      rw [← Option.some.inj h1] at h2
      cases h2
    have g2 := g.turnO (.deferred none) rfl hoff hDs
    have g3 : Gam E ρ n L τ h (FF H0 R0 W0 FS0 fsE) a (w.putObj D (.deferred none)) := g2.strong fun w' hw' => (g2.fr w' hw').less (fun x hx => List.mem_cons_of_mem _ hx) (List.pairwise_cons.1 (g2.fr w' hw').ap).2
    have g4 : Gam ⟨E.N, E.ρ, []⟩ ρ n L τ h (FF H0 R0 W0 FS0 fsE) { a with defers := [] } (w.putObj D (.deferred none)) := ⟨rfl, g3.sz, g3.tm, g3.hp, g3.dis, g3.fr, g3.ex, g3.le, g3.al⟩
    have hne : u ≠ .run := by
      rcases he with ⟨_, rfl⟩ | ⟨ch, _, rfl⟩ <;> simp
    rw [g.df, hdf]
    refine ⟨hne, .inl ⟨D, _, rfl, run_takeDeferred hat, ?_⟩⟩
    refine ⟨hne, .inr ⟨fun e => (by cases e), .func fD, (AV.concs E.ρ cs).toArray, fD, (AV.concs E.ρ cs).toArray, rfl, ?_, fun _ _ => trivial, ?_⟩⟩
    · simp [invoke, go_sem, eg]
    · have hargs : (AV.concs E.ρ cs) = (AV.concs (fun i => ρ (renF ms L i)) avs) := by
        rw [← bds_low cs hcs E.ρ ρ g.ex, hx, rens_conc]
      rw [hargs]
      have hget := hasIn_get hin
      simp only [Nat.zero_add] at hget
      have rlow : ∀ i, i < hD.length → renF ms L i < L := fun i hi => by
        obtain ⟨o, ho⟩ : ∃ o, hD[i]? = some o := ⟨_, List.getElem?_eq_getElem hi⟩
        obtain ⟨o', h5, _⟩ := hget i o ho
        exact (g.hp _ _ h5).1
      refine (sp (fun i => ρ (renF ms L i)) _ (fun i o ho => ?_) (fun i j o b ho hro hj hbi hbj => ?_) (fun i b hi hbi => g4.al _ b (rlow i hi) hbi)).mono fun e u2 w' ho => ?_
      · obtain ⟨o', h5, h6, h7⟩ := hget i o ho
        exact (ren_holds _ _ _ _ _).1 (h7 _ _ _ (g4.hp _ _ h5).2.2)
      · obtain ⟨o', h5, h6, _⟩ := hget i o ho
        obtain ⟨oj, hoj⟩ : ∃ o, hD[j]? = some o := ⟨_, List.getElem?_eq_getElem hj⟩
        obtain ⟨oj', h8, _⟩ := hget j oj hoj
        have he := g4.dis _ _ b ⟨o', h5, h6 hro⟩ (by rw [h8]; simp) hbi hbj
        have hi : i < hD.length := (List.getElem?_eq_some_iff.1 ho).1
        have h9 := List.all_eq_true.1 h3 i (List.mem_range.2 hi)
        rw [ho] at h9
        simp only [hro, Bool.false_or] at h9
        have h10 := List.all_eq_true.1 h9 j (List.mem_range.2 hj)
        simp only [Bool.or_eq_true, Bool.not_eq_true'] at h10
        rcases h10 with h10 | h10
        · exact Nat.eq_of_beq_eq_true h10
        · exfalso
          have e1 : ∀ x, x < hD.length → renF ms L x = ms.getD x 0 := fun x hx => by
            have hx' : x < ms.length := by omega
            unfold renF
            rw [List.getD_eq_getElem?_getD, List.getElem?_eq_getElem hx']; rfl
          rw [← e1 i hi, ← e1 j hj, he, Nat.beq_refl] at h10; cases h10
      · obtain ⟨rfl, ho⟩ := ho
        obtain ⟨s, ρ', hG, he, hN⟩ := g4.called hlen hm' hin h3 (fun s _ => bdB_lt (hP s).1) (fun s => (hP s).2) ho
        subst he
        show LeavesInM Fence.wide 0 P fn a.tmps R [] (settle u2) w'
        rw [hu]
        exact (k s hG).out ρ' _ w' hN.gam
  rcases he with ⟨rfl | rfl, rfl⟩ | ⟨ch, rfl, rfl⟩
  · exact ⟨fun ρ a w g => key ρ a w g⟩
  · exact ⟨fun ρ a w g => key ρ a w g⟩
  · exact ⟨fun ρ a w g => key ρ a w g⟩
end
end Go.Proofs.YtaieficgifingaaGreatDoor
namespace Go.Proofs.YtaieficgifingaaGreatDoor
set_option linter.unusedVariables false
set_option linter.unusedSimpArgs false
set_option linter.unusedSectionVars false
open Go.RowKit
theorem run_getObj_iter {P : Program} {w : World} {b pos : Nat} {s : ByteArray} (h : w.heap[b]? = some (.stringIter s pos)) : (getObj b).run P w = .ok (.stringIter s pos) w := by simp [getObj, Sem.run, h]
theorem run_setObj_iter {P : Program} {w : World} {b pos : Nat} {s : ByteArray} (o : Obj) (h : w.heap[b]? = some (.stringIter s pos)) : (setObj b o).run P w = .ok () (w.putObj b o) := by simp [setObj, Sem.run, h, World.putObj]
section
variable {P : Program} {ops : Array Oper} {Q : Exit → Act → World → Prop} {E : Base} {n L : Nat} {τ : List (Nat × AV)} {h : List (Nat × AO)} {rest : List Oper} {H0 : List AO} {R0 : Env} {W0 : World} {FS0 fs : Fam}
  {d : Nat} {ty : TypeId} {ps : String} {af : Array Edge} {gd : Option (Nat × Bool)} {tt : List (Nat × TI)}
theorem R.rngS (htt : TTok P tt) {t : TypeId} {x : Operand} {s : ByteArray} {ti : TI} (hx : evA τ x = some (.raw (.string s))) (ht : lk t tt = some ti) (hkd : ti.kind = .str) (hg : wantA ops ⟨some d, .range t x, ty, ps, af, gd⟩ τ = some true) (hb : Nat.ble (d + 1) n = true)
    (k : ∀ b, W0.heap.size ≤ b → (∀ p ∈ fs, p.b ≠ b) → R P ops Q none E n L ((d, .raw (.pointer (some ⟨b, 0, none⟩))) :: τ) h (FF H0 R0 W0 FS0 (⟨false, b, .stringIter s 0⟩ :: fs)) rest) : R P ops Q none E n L τ h (FF H0 R0 W0 FS0 fs) (⟨some d, .range t x, ty, ps, af, gd⟩ :: rest) := ⟨fun ρ a w g => by
  show wpList P ops Q _ a w
  simp only [wpList]
  rw [if_pos (g.want hg)]
  left
  have e : (execOp a.eval ⟨some d, .range t x, ty, ps, af, gd⟩).run P w = .ok (.value (.pointer (some ⟨w.heap.size, 0, none⟩))) (w.alloc (.stringIter s 0)) := by
    have hu := und_str (htt _ _ ht) hkd w
    unfold execOp
    simp only [(g.eval x _ hx).2, AV.conc, Instr.range, Sem.run_bind, hu, Result.andThen_ok, Sem.run_pure]
    simp [go_sem]
  unfold Oper.wp
  rw [e]
  have g1 := g.grow ((Below.refl w.heap.size w).alloc (Nat.le_refl _) (.stringIter s 0))
  have g2 := g1.tellO (World.alloc_heap_new w (.stringIter s 0)) rfl (fun p hp => by have := g.ff.lt hp; omega) g.ff.ag.size
  exact (k w.heap.size g.ff.ag.size fun p hp => by have := g.ff.lt hp; omega).out ρ _ _ (g2.put (some d) (.raw _) hb (AV.Low.raw _ _ _))⟩
theorem R.nxtS {x : Operand} {b pos : Nat} {s : ByteArray} (hx : evA τ x = some (.raw (.pointer (some ⟨b, 0, none⟩)))) (hlt : pos < s.size) (hfs : ∀ p ∈ fs, p.b ≠ b) (hW : W0.heap.size ≤ b) (hg : wantA ops ⟨some d, .next x true, ty, ps, af, gd⟩ τ = some true) (hb : Nat.ble (d + 1) n = true)
    (k : R P ops Q none E n L ((d, .tup [.raw (.bool true), .raw (.int .i64 (pos : Nat)), .raw (.int .i32 ((Utf8.decode s pos).1 : Nat))]) :: τ) h (FF H0 R0 W0 FS0 (⟨false, b, .stringIter s (pos + (Utf8.decode s pos).2)⟩ :: fs)) rest) : R P ops Q none E n L τ h (FF H0 R0 W0 FS0 (⟨false, b, .stringIter s pos⟩ :: fs)) (⟨some d, .next x true, ty, ps, af, gd⟩ :: rest) := ⟨fun ρ a w g => by
  show wpList P ops Q _ a w
  simp only [wpList]
  rw [if_pos (g.want hg)]
  left
  have hat : w.heap[b]? = some (.stringIter s pos) := g.ff.at_ ⟨false, b, .stringIter s pos⟩ List.mem_cons_self
  have e : (execOp a.eval ⟨some d, .next x true, ty, ps, af, gd⟩).run P w = .ok (.value (.tuple #[.bool true, .int .i64 (pos : Nat), .int .i32 ((Utf8.decode s pos).1 : Nat)])) (w.putObj b (.stringIter s (pos + (Utf8.decode s pos).2))) := by
    unfold execOp
    simp only [(g.eval x _ hx).2, AV.conc, Instr.next, Sem.run_bind]
    simp only [Sem.run_bind, Sem.run_pure, Result.andThen_ok, run_getObj_iter hat, hlt, if_true, run_setObj_iter _ hat]
    rfl
  unfold Oper.wp
  rw [e]
  have g2 := g.turnO (.stringIter s (pos + (Utf8.decode s pos).2)) rfl hfs hW
  exact k.out ρ _ _ (g2.put (some d) (.tup [.raw (.bool true), .raw (.int .i64 (pos : Nat)), .raw (.int .i32 ((Utf8.decode s pos).1 : Nat))]) hb (bdLow (L := L) rfl ρ))⟩
theorem R.nxtE {x : Operand} {b pos : Nat} {s : ByteArray} (hx : evA τ x = some (.raw (.pointer (some ⟨b, 0, none⟩)))) (hlt : ¬ pos < s.size) (hg : wantA ops ⟨some d, .next x true, ty, ps, af, gd⟩ τ = some true) (hb : Nat.ble (d + 1) n = true)
    (k : R P ops Q none E n L ((d, .tup [.raw (.bool false)]) :: τ) h (FF H0 R0 W0 FS0 (⟨false, b, .stringIter s pos⟩ :: fs)) rest) : R P ops Q none E n L τ h (FF H0 R0 W0 FS0 (⟨false, b, .stringIter s pos⟩ :: fs)) (⟨some d, .next x true, ty, ps, af, gd⟩ :: rest) := ⟨fun ρ a w g => by
  show wpList P ops Q _ a w
  simp only [wpList]
  rw [if_pos (g.want hg)]
  left
  have hat : w.heap[b]? = some (.stringIter s pos) := g.ff.at_ ⟨false, b, .stringIter s pos⟩ List.mem_cons_self
  have e : (execOp a.eval ⟨some d, .next x true, ty, ps, af, gd⟩).run P w = .ok (.value (.tuple #[.bool false])) w := by
    unfold execOp
    simp only [(g.eval x _ hx).2, AV.conc, Instr.next, Sem.run_bind]
    simp only [Sem.run_bind, Sem.run_pure, Result.andThen_ok, run_getObj_iter hat, hlt, if_false]
  unfold Oper.wp
  rw [e]
  exact k.out ρ _ _ (g.put (some d) (.tup [.raw (.bool false)]) hb (bdLow (L := L) rfl ρ))⟩
end
end Go.Proofs.YtaieficgifingaaGreatDoor
namespace Go.Proofs.YtaieficgifingaaGreatDoor
set_option linter.unusedVariables false
set_option linter.unusedSimpArgs false
set_option linter.unusedSectionVars false
open Go.RowKit
theorem equal_nil {P : Program} {t : TypeId} {ms : Array (String × TypeId)} {W : World} (hu : ∀ w, (underlying t).run P w = .ok (.interface ms) w) : (Op.equal t .nilIface .nilIface).run P W = .ok true W := by
  unfold Op.equal
  rw [show Op.maxDepth = 9999 + 1 from rfl]
  unfold Op.equalIn
  rw [Sem.run_bind, hu]
  rfl
theorem equal_ifn {P : Program} {t s : TypeId} {v : Value} {ms : Array (String × TypeId)} {W : World} (hu : ∀ w, (underlying t).run P w = .ok (.interface ms) w) : (Op.equal t (.iface s v) .nilIface).run P W = .ok false W := by
  unfold Op.equal
  rw [show Op.maxDepth = 9999 + 1 from rfl]
  unfold Op.equalIn
  rw [Sem.run_bind, hu]
  rfl
section
variable {P : Program} {ops : Array Oper} {Q : Exit → Act → World → Prop} {D : Option DD} {E : Base} {n L : Nat} {τ : List (Nat × AV)} {h : List (Nat × AO)} {F : World → Prop} {rest : List Oper}
  {d : Nat} {ty : TypeId} {ps : String} {af : Array Edge} {gd : Option (Nat × Bool)} {tt : List (Nat × TI)}
theorem R.eq0 {t u : TypeId} {x : Operand} {ms : Array (String × TypeId)} (hx : evA τ x = some (.raw .nilIface)) (hu0 : P.underlying t = some (.interface ms)) (hg : wantA ops ⟨some d, .binOp .eql t x (.const .nilIface) u, ty, ps, af, gd⟩ τ = some true) (hb : (Nat.ble (d + 1) n && lookB D []) = true)
    (k : R P ops Q (lookD D []) E n L ((d, .raw (.bool true)) :: τ) h F rest) : R P ops Q D E n L τ h F (⟨some d, .binOp .eql t x (.const .nilIface) u, ty, ps, af, gd⟩ :: rest) :=
  R.pure _ (fun ρ a w g => ⟨AV.Low.raw _ _ _, fun W => by
    have hu : ∀ w, (underlying t).run P w = .ok (.interface ms) w := run_underlying hu0
    have he := (g.eval x _ hx).2
    have hc : a.eval (.const .nilIface) = .nilIface := rfl
    unfold execOp
    simp only [he, hc, AV.conc, eqGuard_nil_constR, binOp, Sem.run_bind, Sem.run_pure, Result.andThen_ok]
    simp [go_sem, equal_nil hu]⟩) hg hb k
theorem R.eq1 {t u s : TypeId} {v : Value} {x : Operand} {ms : Array (String × TypeId)} (hx : evA τ x = some (.raw (.iface s v))) (hu0 : P.underlying t = some (.interface ms)) (hg : wantA ops ⟨some d, .binOp .eql t x (.const .nilIface) u, ty, ps, af, gd⟩ τ = some true) (hb : (Nat.ble (d + 1) n && lookB D []) = true)
    (k : R P ops Q (lookD D []) E n L ((d, .raw (.bool false)) :: τ) h F rest) : R P ops Q D E n L τ h F (⟨some d, .binOp .eql t x (.const .nilIface) u, ty, ps, af, gd⟩ :: rest) :=
  R.pure _ (fun ρ a w g => ⟨AV.Low.raw _ _ _, fun W => by
    have hu : ∀ w, (underlying t).run P w = .ok (.interface ms) w := run_underlying hu0
    have he := (g.eval x _ hx).2
    have hc : a.eval (.const .nilIface) = .nilIface := rfl
    unfold execOp
    simp only [he, hc, AV.conc, eqGuard, binOp, Sem.run_bind, Sem.run_pure, Result.andThen_ok]
    simp [go_sem, equal_ifn hu]⟩) hg hb k
/-- string(r) of a number -/
theorem R.i2s (htt : TTok P tt) {t1 t2 : TypeId} {x : Operand} {k0 : IntKind} {n0 : Int} {i1 i2 : TI} (hx : evA τ x = some (.raw (.int k0 n0))) (h1 : lk t1 tt = some i1) (h2 : lk t2 tt = some i2) (hk2 : i2.kind = .str) (hg : wantA ops ⟨some d, .convert t1 t2 x, ty, ps, af, gd⟩ τ = some true) (hb : (Nat.ble (d + 1) n && lookB D []) = true)
    (k : R P ops Q (lookD D []) E n L ((d, .raw (.string (Utf8.encode n0))) :: τ) h F rest) : R P ops Q D E n L τ h F (⟨some d, .convert t1 t2 x, ty, ps, af, gd⟩ :: rest) :=
  R.pure _ (fun ρ a w g => ⟨AV.Low.raw _ _ _, fun W => by
    have hu2 := und_str (htt _ _ h2) hk2 W
    obtain ⟨d1, u1, v1⟩ := (htt _ _ h1).und
    have hu1 := run_underlying u1 W
    unfold execOp
    simp only [(g.eval x _ hx).2, AV.conc, convert, Sem.run_bind, hu1, hu2, Result.andThen_ok]
    rfl⟩) hg hb k
end
section
variable {P : Program} {ops : Array Oper} {Q : Exit → Act → World → Prop} {E : Base} {n L : Nat} {τ : List (Nat × AV)} {h : List (Nat × AO)} {F : World → Prop} {rest : List Oper} {d : Nat} {ty : TypeId} {ps : String} {af : Array Edge} {gd : Option (Nat × Bool)}
/-- yield, its round may panic -/
theorem RY.yieldP {lY : Nat} {x : Operand} {xs : Array Operand} {ats : Array TypeId} {vs : List AV} (hx : evA τ x = some (.raw (.func (.yield lY) #[] #[]))) (hxs : evList (evA τ) xs.toList = some vs) (hg : wantA ops ⟨some d, .call { callee := .value x, args := xs, argTypes := ats }, ty, ps, af, gd⟩ τ = some true)
    (hy : ∀ ρ a w, Gam E ρ n L τ h F a w → YieldAt Fence.wide 0 P lY (AV.concs ρ vs).toArray w fun e w' => (∃ v, e = .returned v ∧ wpListIn Fence.wide 0 P ops Q rest (a.put (some d) v) w') ∨ ∃ c, e = .panicked c ∧ Q (.panic c) a w') :
    RY P ops Q E n L τ h F (⟨some d, .call { callee := .value x, args := xs, argTypes := ats }, ty, ps, af, gd⟩ :: rest) := ⟨fun ρ a w g => by
  simp only [wpListIn]
  rw [if_pos (g.want hg)]
  refine ⟨fun _ _ => trivial, ?_⟩
  rw [Oper.semAt_eq _ _ _ (by intro c e; cases e)]
  obtain ⟨fn, tmps, assign, body, h1, h2⟩ := hy ρ a w g
  have hargs : xs.map a.eval = (AV.concs ρ vs).toArray := by
    have := evList_conc (evB g) _ _ hxs
    apply Array.ext'
    rw [Array.toList_map, this]
  have e : (execOp a.eval ⟨some d, .call { callee := .value x, args := xs, argTypes := ats }, ty, ps, af, gd⟩).run P w = .ok (.round lY fn tmps assign body) w := by
    unfold execOp
    simp only [resolve, (g.eval x _ hx).2, AV.conc, Deferred.ofValue, hargs, Sem.run_bind, Sem.run_pure, Result.andThen_ok, invoke, Array.append_empty, Array.empty_append]
    exact h1
  rw [e]
  refine ⟨fun e => (by cases e), RoundIn.mono h2 ?_⟩
  rintro e' w' (⟨v, rfl, hv⟩ | ⟨c, rfl, hv⟩)
  · exact hv
  · exact hv⟩
end
/-- a contract that reads blocks that lie for good, its answer not told whole -/
theorem SpecF.libX {P : Program} {f : FuncId} {vs : List Value} {avs : List AV} {fs : Fam} {σ : Type} (G : σ → Prop) (val : σ → AV) (ha : avs = vs.map .raw) (hb : ∀ s, (val s).bd 0 = true) (h : ∀ ρ w, AtF fs w → Calls P f vs.toArray w fun e w' => ∃ s, G s ∧ e = .returned ((val s).conc ρ) ∧ Below w.heap.size w w') : SpecF P f avs [] 0 fs G val (fun _ => []) (fun _ => fs) := fun ρ w _ hp => by
  subst ha
  rw [concs_raw]
  refine (h ρ w hp.at0).mono fun e w' ⟨s, h0, h1, h2⟩ => ⟨s, ρ, h0, fun _ _ => rfl, h1, bdLow (hb s) ρ, hp.ff ((Ag.of_below h2).mono fun b hb' _ => hb'), fun l o hl => by simp [hk, lk] at hl, fun l l' b hl => by obtain ⟨o, hl, _⟩ := hl; simp [hk, lk] at hl, fun l b hl => absurd hl (Nat.not_lt_zero l), fun l b _ hl => absurd rfl hl, fun i o hi => absurd hi (Nat.not_lt_zero i), fun l b hl => by obtain ⟨o, hl, _⟩ := hl; simp [hk, lk] at hl⟩
end Go.Proofs.YtaieficgifingaaGreatDoor
