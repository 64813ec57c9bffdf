/- The kernel, 37: calls by contracts that speak of blocks without labels. No program in sight. -/
import Derived.Test.YteabncomclgncaaK36
namespace Go.Proofs.Yteabncomclgncaa
set_option linter.unusedVariables false
set_option linter.unusedSimpArgs false
set_option linter.unusedSectionVars false
open Go.RowKit
open Classical in
/-- of two worlds: in S the second's blocks -/
noncomputable def mixW (w w' : World) (S : Nat → Prop) : World := { w with heap := Array.ofFn fun i : Fin w.heap.size => if S i.1 then w'.heap.getD i.1 w.heap[i] else w.heap[i] }
theorem mixW_size (w w' : World) (S : Nat → Prop) : (mixW w w' S).heap.size = w.heap.size := by simp [mixW]
theorem mixW_in (w w' : World) {S : Nat → Prop} {b : Nat} (hb : b < w.heap.size) (hb' : b < w'.heap.size) (hS : S b) : (mixW w w' S).heap[b]? = w'.heap[b]? := by
  simp [mixW, hb, hS, hb']
theorem mixW_out (w w' : World) {S : Nat → Prop} {b : Nat} (hS : ¬ S b) : (mixW w w' S).heap[b]? = w.heap[b]? := by
  by_cases hb : b < w.heap.size
  · simp [mixW, hb, hS]
  · simp [mixW, hb]
section
variable {E : Base} {ρ : Env} {n L : Nat} {τ : List (Nat × AV)} {h : List (Nat × AO)} {F : World → Prop} {a : Act} {w : World} {H0 : List AO} {R0 : Env} {W0 : World} {FS0 fs : Fam}
/-- the same state, where blocks without labels hold other things -/
theorem Gam.bump (g : Gam E ρ n L τ h F a w) {w2 : World} (hsz : w2.heap.size = w.heap.size) (hlab : ∀ l b, hk l h ≠ none → ρ l = some b → w2.heap[b]? = w.heap[b]?) : Gam E ρ n L τ h (fun x => Ag (fun b => ∀ l, wrA l h → ρ l ≠ some b) w2 x) a w2 :=
  ⟨g.df, g.sz, g.tm, fun l o hl => by
    have hh := g.hp l o hl
    exact ⟨hh.1, hh.2.1, holds_same hh.2.2 fun b hb => hlab l b (by rw [hl]; simp) hb⟩, g.dis, fun w' hw => hw, g.ex, g.le, fun l b hl hb => by rw [hsz]; exact g.al l b hl hb⟩
/-- a label lies apart from what a fact lets write -/
theorem Gam.apR (g : Gam E ρ n L τ h (FF H0 R0 W0 FS0 fs) a w) (hE : E = ⟨H0.length, R0, E.df⟩) (hrob : roB E.N h = true) (hr0 : ∀ l o, hk l h = some o → o.isRo = true → ∃ o0, H0[l]? = some o0 ∧ o0.isRo = true) {l b : Nat} (hl : hk l h ≠ none) (hb : ρ l = some b) : ¬ WrF fs b := fun hw => by
  cases hx : hk l h with
  | none => exact hl hx
  | some o =>
    cases hro : o.isRo with
    | false =>
      obtain ⟨p, hp, _, he⟩ := hw
      exact g.apF hp ⟨o, hx, hro⟩ (by rw [he]; exact hb)
    | true =>
      have hlN := roB_lt hrob hx hro
      obtain ⟨o0, h3, h4⟩ := hr0 l o hx hro
      have : ρ l = R0 l := by rw [g.ex l hlN, hE]
      exact g.ff.inn h3 h4 (this ▸ hb) hw
/-- the labels behind a call -/
theorem hk_behind {h0 : List AO} {ms : List Nat} {L : Nat} {post : List (Nat × AO)} (hnd : nodupB ((post.map (·.1)).map (renF ms L)) = true) {l : Nat} {o : AO} (ho : hk l (renH (renF ms L) post ++ (goneL h0 ms ++ h)) = some o) :
    (∃ i oi, hk i post = some oi ∧ renF ms L i = l ∧ o = oi.ren (renF ms L)) ∨ (l ∉ (goneL h0 ms).map (·.1) ∧ hk l h = some o) := by
  have hinj := nodupB_inj hnd
  simp only [hk_append] at ho
  split at ho
  · rename_i hm
    obtain ⟨i, hi, rfl⟩ := renH_mem.1 hm
    rw [hk_renH hinj i hi] at ho
    cases hx : hk i post with
    | none => rw [hx] at ho; cases ho
    | some oi =>
      rw [hx] at ho
      simp only [Option.map_some, Option.some.injEq] at ho
      exact .inl ⟨i, oi, hx, rfl, ho.symm⟩
  · split at ho
    · rw [goneL_none] at ho; cases ho
    · rename_i hn; exact .inr ⟨hn, ho⟩
end
section
variable {P : Program} {ops : Array Oper} {Q : Exit → Act → World → Prop} {D : Option DD} {E : Base} {n L : Nat} {τ : List (Nat × AV)} {h : List (Nat × AO)} {rest : List Oper}
  {d : Nat} {op : Op} {ty : TypeId} {ps : String} {af : Array Edge} {gd : Option (Nat × Bool)} {tt : List (Nat × TI)} {H0 : List AO} {R0 : Env} {W0 : World} {FS0 : Fam}
/-- a call -/
theorem R.cfG {σ : Type} {G : σ → Prop} {val : σ → AV} {post : σ → List (Nat × AO)} {f : FuncId} {x : Operand} {cs : List AV} {xs : Array Operand} {ats : Array TypeId} {avs : List AV} {h0 : List AO} {m : Nat} {fs : Fam} {fs' : σ → Fam} (fr : Fam) (ms : List Nat) (sp : SpecF P f avs h0 m fs G val post fs') (eg : ∀ args w, (callFunc f args).run P w = .ok (.enter f args) w)
    (hapG : ∀ ρ a w, Gam E ρ n L τ h (FF H0 R0 W0 FS0 (fs ++ fr)) a w → ∀ l b, hk l h ≠ none → ρ l = some b → ¬ WrF fs b)
    (hf : evA τ x = some (.fn f cs)) {l : List AV} (hxs : evList (evA τ) xs.toList = some l) (hx : l ++ cs = AV.rens (renF ms L) avs) (hin : HasIn (renF ms L) h 0 h0) (hm : Nat.ble h0.length m = true) (hpost : ∀ s, ∀ l ∈ (post s).map (·.1), l < m) (hnd : ∀ s, nodupB (((post s).map (·.1)).map (renF ms L)) = true)
    (hg : wantA ops ⟨some d, .call { callee := .value x, args := xs, argTypes := ats }, ty, ps, af, gd⟩ τ = some true) (hb : (Nat.ble (d + 1) n && Nat.beq h0.length ms.length && onceB h0 ms && chainB h D ((goneL h0 ms).map (·.1))) = true)
    (k : ∀ s, G s → R P ops Q (actD h D ((goneL h0 ms).map (·.1))) E n (L + (m - h0.length)) ((d, (val s).ren (renF ms L)) :: τ) (renH (renF ms L) (post s) ++ (goneL h0 ms ++ h)) (FF H0 R0 W0 FS0 (fs' s ++ fr)) rest) :
    R P ops Q D E n L τ h (FF H0 R0 W0 FS0 (fs ++ fr)) (⟨some d, .call { callee := .value x, args := xs, argTypes := ats }, ty, ps, af, gd⟩ :: rest) := by
  simp only [Bool.and_eq_true] at hb
  obtain ⟨⟨⟨h1, h2⟩, h3⟩, h4⟩ := hb
  have hlen : h0.length = ms.length := Nat.eq_of_beq_eq_true h2
  have hm' : h0.length ≤ m := by simpa [Nat.ble_eq] using hm
  refine ⟨RL.acts G (fun s => (val s).ren (renF ms L)) (fun _ => L + (m - h0.length)) (fun s => renH (renF ms L) (post s) ++ (goneL h0 ms ++ h)) (fun s => FF H0 R0 W0 FS0 (fs' s ++ fr)) ((goneL h0 ms).map (·.1)) hg h1 h4 (fun _ _ => Nat.le_add_right _ _) (fun ρ a w g => ?_) (fun s hs => (k s hs).out)⟩
  refine goes_callv rfl (g.eval x _ hf).2 eg ?_
  have hargs : xs.map a.eval ++ (AV.concs ρ cs).toArray = (AV.concs (fun i => ρ (renF ms L i)) avs).toArray := by
    have := evList_conc (evB g) _ _ hxs
    have e2 := congrArg (AV.concs ρ) hx
    rw [rens_conc, concs_append, ← this] at e2
    apply Array.ext'
    rw [Array.toList_append, Array.toList_map, ← e2]
  rw [hargs]
  have hff := g.ff
  have hget := hasIn_get hin
  simp only [Nat.zero_add] at hget
  have rlive : ∀ i, i < h0.length → hk (renF ms L i) h ≠ none ∧ renF ms L i < L := fun i hi => by
    obtain ⟨o, ho⟩ : ∃ o, h0[i]? = some o := ⟨_, List.getElem?_eq_getElem hi⟩
    obtain ⟨o', h5, _⟩ := hget i o ho
    exact ⟨by rw [h5]; simp, (g.hp _ _ h5).1⟩
  have hfsL : ∀ p ∈ fs, p ∈ fs ++ fr := fun p hp => List.mem_append_left _ hp
  have hfrR : ∀ p ∈ fr, p ∈ fs ++ fr := fun p hp => List.mem_append_right _ hp
  have hwrL : ∀ b, WrF fs b → WrF (fs ++ fr) b := fun b ⟨p, hp, q⟩ => ⟨p, hfsL p hp, q⟩
  have hap3 := List.pairwise_append.1 hff.ap
  have hapR : ∀ l b, hk l h ≠ none → ρ l = some b → ¬ WrF fs b := fun l b hl hb hw => hapG ρ a w g l b hl hb hw
  -- blocks that the call may write are the caller's
  have hcw : ∀ b, Wr0 h0 (fun i => ρ (renF ms L i)) b → ∃ l, wrA l h ∧ ρ l = some b ∧ l ∈ (goneL h0 ms).map (·.1) := fun b ⟨i, o, e1, e2, e3⟩ => by
    obtain ⟨o', e4, e5, _⟩ := hget i o e1
    have hlt : i < ms.length := by rw [← hlen]; exact (List.getElem?_eq_some_iff.1 e1).1
    refine ⟨_, ⟨o', e4, e5 e2⟩, e3, (goneL_mem hlen).2 ⟨i, o, e1, e2, ?_⟩⟩
    unfold renF; rw [List.getElem?_eq_getElem hlt]
  have hpre : Pre h0 (fun i => ρ (renF ms L i)) w fs := ⟨fun i b hi hb => g.al _ b (rlive i hi).2 hb, fun i j o b ho hro hj hbi hbj => ?_, fun p hp => hff.at_ p (hfsL p hp), hap3.1, fun i b hi hb => hapR _ b (rlive i hi).1 hb, fun b hw ⟨p, hp, he⟩ => ?_⟩
  · refine (sp (fun i => ρ (renF ms L i)) w (fun i o ho => ?_) hpre).mono fun e w' ho => ?_
    · obtain ⟨o', h5, h6, h7⟩ := hget i o ho
      exact (ren_holds _ _ _ _ _).1 (h7 _ _ _ (g.hp _ _ h5).2.2)
    obtain ⟨s, ρc, hG, q1, q2, q3, q4, q5, q6, q7, q8, q9, q10⟩ := ho
    -- the world of the beginning, with what the facts' blocks hold in the end
    have hsz2 := mixW_size w w' (WrF fs)
    have hlab : ∀ l b, hk l h ≠ none → ρ l = some b → (mixW w w' (WrF fs)).heap[b]? = w.heap[b]? := fun l b hl hb => mixW_out w w' (hapR l b hl hb)
    have g2 := g.bump hsz2 hlab
    have hag2 : Ag (fun b => ¬ Wr0 h0 (fun i => ρ (renF ms L i)) b) (mixW w w' (WrF fs)) w' := ⟨q4.ag.os, q4.ag.tape, q4.ag.output, by rw [hsz2]; exact q4.ag.size, fun b hb hd => by
      rw [hsz2] at hb
      by_cases hw : WrF fs b
      · rw [mixW_in w w' hb (Nat.lt_of_lt_of_le hb q4.ag.size) hw]
      · rw [mixW_out w w' hw]
        exact q4.ag.block b hb ⟨hd, hw⟩⟩
    obtain ⟨ρ', hcomp, hval, hN⟩ := g2.calledR (val := val) (post := post) (s := s) (ρc := ρc) hlen hm' hin h3 hnd (hpost s) q1 q3 hag2 q5 q6 q7 (fun l b hl hv hb => by rw [hsz2]; exact q8 l b hl hv hb) q9
    refine ⟨_, q2, s, ρ', hG, hval.symm, ⟨hN.low, hN.same, hN.gam.strong fun y hy => ?_, fun l b hl hb hn => (hlab l b hl hb).symm.trans (hN.old l b hl hb hn)⟩⟩
    -- where labels that may be written lie behind the call
    have hbeh : ∀ l b, wrA l (renH (renF ms L) (post s) ++ (goneL h0 ms ++ h)) → ρ' l = some b → (∃ i, wrA i (post s) ∧ ρc i = some b) ∨ (l ∉ (goneL h0 ms).map (·.1) ∧ wrA l h ∧ ρ l = some b) := fun l b ⟨o, ho, hro⟩ hb => by
      rcases hk_behind (hnd s) ho with ⟨i, oi, e1, rfl, rfl⟩ | ⟨e1, e2⟩
      · rw [ren_isRo] at hro
        exact .inl ⟨i, ⟨oi, e1, hro⟩, by rw [← hcomp i (q5 i oi e1).1]; exact hb⟩
      · exact .inr ⟨e1, ⟨o, e2, hro⟩, by rw [← hN.same l (g.hp l o e2).1]; exact hb⟩
    -- a label of the call lies in a new block, or in one of the caller's
    have hcl : ∀ i b, wrA i (post s) → ρc i = some b → w.heap.size ≤ b ∨ ∃ l, wrA l h ∧ ρ l = some b := fun i b hi hb => by
      obtain ⟨o, e1, e2⟩ := hi
      rcases Nat.lt_or_ge i h0.length with e3 | e3
      · obtain ⟨o0, e4, e5⟩ := q9 i o e3 e1 e2
        obtain ⟨l2, e6, e7, _⟩ := hcw b ⟨i, o0, e4, e5, by rw [← q1 i e3]; exact hb⟩
        exact .inr ⟨l2, e6, e7⟩
      · rcases q8 i b e3 (by rw [e1]; simp) hb with e4 | e4
        · exact .inl e4
        · obtain ⟨l2, e6, e7, _⟩ := hcw b e4
          exact .inr ⟨l2, e6, e7⟩
    have hold : ∀ b, b < w.heap.size → ¬ Wr0 h0 (fun i => ρ (renF ms L i)) b → ¬ WrF fs b → w'.heap[b]? = w.heap[b]? := fun b hb h5 h6 => q4.ag.block b hb ⟨h5, h6⟩
    have hnl : ∀ p ∈ fs' s ++ fr, ∀ l, wrA l (renH (renF ms L) (post s) ++ (goneL h0 ms ++ h)) → ρ' l ≠ some p.b := fun p hp l hl hb => by
      rcases hbeh l _ hl hb with ⟨i, e1, e2⟩ | ⟨e1, e2, e3⟩
      · rcases List.mem_append.1 hp with hp | hp
        · exact q10 i _ e1 e2 ⟨p, hp, rfl⟩
        · have hlt := hff.lt (hfrR p hp)
          rcases hcl i _ e1 e2 with e3 | ⟨l2, e3, e4⟩
          · omega
          · exact g.apF (hfrR p hp) e3 e4
      · rcases List.mem_append.1 hp with hp | hp
        · rcases q4.bl p hp with e4 | e4 | ⟨q, e4, e5⟩
          · have := g.lt e2.live e3; omega
          · obtain ⟨l2, e5, e6, e7⟩ := hcw _ e4
            exact e1 (g.dis l l2 _ e2 e5.live e3 e6 ▸ e7)
          · exact g.apF (hfsL q e4) e2 (by rw [e5]; exact e3)
        · exact g.apF (hfrR p hp) e2 e3
    have hyb : ∀ b, b < w'.heap.size → (∀ l, wrA l (renH (renF ms L) (post s) ++ (goneL h0 ms ++ h)) → ρ' l ≠ some b) → y.heap[b]? = w'.heap[b]? := fun b hb hd => hy.block b hb hd
    have hfrw : ∀ p ∈ fr, w'.heap[p.b]? = w.heap[p.b]? := fun p hp => hold _ (hff.lt (hfrR p hp)) (fun hw => by
      obtain ⟨l2, e5, e6, e7⟩ := hcw _ hw
      exact g.apF (hfrR p hp) e5 e6) (fun ⟨q, e4, e5, e6⟩ => by
      have := (hap3.2.2 q e4 p hp e6).1
      rw [this] at e5; cases e5)
    refine ⟨fun p hp => ?_, ?_, ?_, fun p hp hrw => ?_, fun p hp => ?_, hff.pre⟩
    · rcases List.mem_append.1 hp with hp' | hp'
      · rw [hyb p.b (q4.lt hp') (hnl p hp)]; exact q4.at_ p hp'
      · rw [hyb p.b (Nat.lt_of_lt_of_le (hff.lt (hfrR p hp')) q4.ag.size) (hnl p hp), hfrw p hp']
        exact hff.at_ p (hfrR p hp')
    · refine ⟨hy.os.trans (q4.ag.os.trans hff.ag.os), hy.tape.trans (q4.ag.tape.trans hff.ag.tape), hy.output.trans (q4.ag.output.trans hff.ag.output), Nat.le_trans hff.ag.size (Nat.le_trans q4.ag.size hy.size), fun b hb hd => ?_⟩
      have hbw : b < w.heap.size := Nat.lt_of_lt_of_le hb hff.ag.size
      have key : ∀ l, wrA l h → ρ l ≠ some b := fun l hl e => by
        rcases g.freF hl e with e1 | e1 | e1
        · omega
        · exact hd.1 e1
        · exact hd.2 e1
      have n1 : ¬ Wr0 h0 (fun i => ρ (renF ms L i)) b := fun hw => by
        obtain ⟨l2, e5, e6, _⟩ := hcw _ hw
        exact key l2 e5 e6
      have n2 : ¬ WrF fs b := fun ⟨q, e4, e5, e6⟩ => by
        subst e6
        rcases hff.fre q (hfsL q e4) e5 with e1 | e1 | e1
        · omega
        · exact hd.1 e1
        · exact hd.2 e1
      rw [hyb b (Nat.lt_of_lt_of_le hbw q4.ag.size) fun l hl e => ?_, hold b hbw n1 n2, hff.ag.block b hb hd]
      rcases hbeh l b hl e with ⟨i, e1, e2⟩ | ⟨e1, e2, e3⟩
      · rcases hcl i b e1 e2 with e3 | ⟨l2, e3, e4⟩
        · omega
        · exact key l2 e3 e4
      · exact key l e2 e3
    · unfold ApF
      rw [List.pairwise_append]
      refine ⟨q4.ap, hap3.2.1, fun p hp q hq e => ?_⟩
      have hqlt := hff.lt (hfrR q hq)
      have hqw : ¬ Wr0 h0 (fun i => ρ (renF ms L i)) q.b := fun hw => by
        obtain ⟨l2, e5, e6, _⟩ := hcw _ hw
        exact g.apF (hfrR q hq) e5 e6
      have hqf : ∀ r ∈ fs, r.b = q.b → r.rw = false ∧ q.rw = false := fun r hr e => hap3.2.2 r hr q hq e
      constructor
      · cases hrw : p.rw with
        | false => rfl
        | true =>
          rcases q4.fre p hp hrw with e1 | e1 | ⟨r, e2, e3, e4⟩
          · omega
          · exact absurd (e ▸ e1) hqw
          · have := (hqf r e2 (e4.trans e)).1
            rw [this] at e3; cases e3
      · rcases q4.bl p hp with e1 | e1 | ⟨r, e2, e4⟩
        · omega
        · exact absurd (e ▸ e1) hqw
        · exact (hqf r e2 (e4.trans e)).2
    · rcases List.mem_append.1 hp with hp' | hp'
      · rcases q4.fre p hp' hrw with e1 | e1 | ⟨r, e2, e3, e4⟩
        · exact .inl (Nat.le_trans hff.ag.size e1)
        · obtain ⟨l2, e5, e6, _⟩ := hcw _ e1
          exact g.freF e5 e6
        · rw [← e4]; exact hff.fre r (hfsL r e2) e3
      · exact hff.fre p (hfrR p hp') hrw
    · rcases List.mem_append.1 hp with hp' | hp'
      · rcases q4.bl p hp' with e1 | e1 | ⟨r, e2, e4⟩
        · exact .inl (Nat.le_trans hff.ag.size e1)
        · obtain ⟨l2, e5, e6, _⟩ := hcw _ e1
          exact (g.freF e5 e6).imp id (Or.imp id WrF.bl)
        · rw [← e4]; exact hff.bl r (hfsL r e2)
      · exact hff.bl p (hfrR p hp')
  · obtain ⟨o', h5, h6, _⟩ := hget i o ho
    have he := g.dis _ _ b ⟨o', h5, h6 hro⟩ (rlive j hj).1 hbi hbj
    have hi : i < h0.length := (List.getElem?_eq_some_iff.1 ho).1
    have h9 := List.all_eq_true.1 h3 i (List.mem_range.2 hi)
    rw [ho] at h9
    simp only [hro, Bool.false_or] at h9
    have h10 := List.all_eq_true.1 h9 j (List.mem_range.2 hj)
    simp only [Bool.or_eq_true, Bool.not_eq_true'] at h10
    rcases h10 with h10 | h10
    · exact Nat.eq_of_beq_eq_true h10
    · exfalso
      have e1 : ∀ x, x < h0.length → renF ms L x = ms.getD x 0 := fun x hx => by
        have hx' : x < ms.length := by omega
        unfold renF
        rw [List.getD_eq_getElem?_getD, List.getElem?_eq_getElem hx']; rfl
      rw [← e1 i hi, ← e1 j hj, he, Nat.beq_refl] at h10; cases h10
  · obtain ⟨l, e5, e6, _⟩ := hcw b hw
    exact g.apF (hfsL p hp) e5 (by rw [he]; exact e6)
theorem R.cfF {σ : Type} {G : σ → Prop} {val : σ → AV} {post : σ → List (Nat × AO)} {f : FuncId} {x : Operand} {cs : List AV} {xs : Array Operand} {ats : Array TypeId} {avs : List AV} {h0 : List AO} {m : Nat} {fs : Fam} {fs' : σ → Fam} (fr : Fam) (ms : List Nat) (sp : SpecF P f avs h0 m fs G val post fs') (eg : ∀ args w, (callFunc f args).run P w = .ok (.enter f args) w)
    (hE : E = ⟨H0.length, R0, E.df⟩) (hr0 : ∀ l o, hk l h = some o → o.isRo = true → ∃ o0, H0[l]? = some o0 ∧ o0.isRo = true)
    (hf : evA τ x = some (.fn f cs)) {l : List AV} (hxs : evList (evA τ) xs.toList = some l) (hx : l ++ cs = AV.rens (renF ms L) avs) (hin : HasIn (renF ms L) h 0 h0) (hm : Nat.ble h0.length m = true) (hpost : ∀ s, ∀ l ∈ (post s).map (·.1), l < m) (hnd : ∀ s, nodupB (((post s).map (·.1)).map (renF ms L)) = true)
    (hg : wantA ops ⟨some d, .call { callee := .value x, args := xs, argTypes := ats }, ty, ps, af, gd⟩ τ = some true) (hb : (Nat.ble (d + 1) n && Nat.beq h0.length ms.length && onceB h0 ms && chainB h D ((goneL h0 ms).map (·.1)) && roB E.N h) = true)
    (k : ∀ s, G s → R P ops Q (actD h D ((goneL h0 ms).map (·.1))) E n (L + (m - h0.length)) ((d, (val s).ren (renF ms L)) :: τ) (renH (renF ms L) (post s) ++ (goneL h0 ms ++ h)) (FF H0 R0 W0 FS0 (fs' s ++ fr)) rest) :
    R P ops Q D E n L τ h (FF H0 R0 W0 FS0 (fs ++ fr)) (⟨some d, .call { callee := .value x, args := xs, argTypes := ats }, ty, ps, af, gd⟩ :: rest) := by
  simp only [Bool.and_eq_true] at hb
  obtain ⟨⟨⟨⟨h1, h2⟩, h3⟩, h4⟩, hrob⟩ := hb
  exact R.cfG fr ms sp eg (fun ρ a w g l b hl hb ⟨p, hp, q⟩ => g.apR hE hrob hr0 hl hb ⟨p, List.mem_append_left _ hp, q⟩) hf hxs hx hin hm hpost hnd hg (by simp only [Bool.and_eq_true]; exact ⟨⟨⟨h1, h2⟩, h3⟩, h4⟩) k
/-- facts that nobody writes, all of them told -/
theorem R.cfR {σ : Type} {G : σ → Prop} {val : σ → AV} {post : σ → List (Nat × AO)} {f : FuncId} {x : Operand} {cs : List AV} {xs : Array Operand} {ats : Array TypeId} {avs : List AV} {h0 : List AO} {m : Nat} {fs : Fam} {fs' : σ → Fam} (ms : List Nat) (sp : SpecF P f avs h0 m fs G val post fs') (eg : ∀ args w, (callFunc f args).run P w = .ok (.enter f args) w)
    (hfr : ∀ p ∈ fs, p.rw = false)
    (hf : evA τ x = some (.fn f cs)) {l : List AV} (hxs : evList (evA τ) xs.toList = some l) (hx : l ++ cs = AV.rens (renF ms L) avs) (hin : HasIn (renF ms L) h 0 h0) (hm : Nat.ble h0.length m = true) (hpost : ∀ s, ∀ l ∈ (post s).map (·.1), l < m) (hnd : ∀ s, nodupB (((post s).map (·.1)).map (renF ms L)) = true)
    (hg : wantA ops ⟨some d, .call { callee := .value x, args := xs, argTypes := ats }, ty, ps, af, gd⟩ τ = some true) (hb : (Nat.ble (d + 1) n && Nat.beq h0.length ms.length && onceB h0 ms && chainB h D ((goneL h0 ms).map (·.1))) = true)
    (k : ∀ s, G s → R P ops Q (actD h D ((goneL h0 ms).map (·.1))) E n (L + (m - h0.length)) ((d, (val s).ren (renF ms L)) :: τ) (renH (renF ms L) (post s) ++ (goneL h0 ms ++ h)) (FF H0 R0 W0 FS0 (fs' s)) rest) :
    R P ops Q D E n L τ h (FF H0 R0 W0 FS0 fs) (⟨some d, .call { callee := .value x, args := xs, argTypes := ats }, ty, ps, af, gd⟩ :: rest) := by
  have e : FF H0 R0 W0 FS0 fs = FF H0 R0 W0 FS0 (fs ++ []) := by rw [List.append_nil]
  rw [e]
  refine R.cfG [] ms sp eg (fun ρ a w g l b hl hb ⟨p, hp, q, _⟩ => by rw [hfr p hp] at q; cases q) hf hxs hx hin hm hpost hnd hg hb (fun s hs => ?_)
  rw [List.append_nil]
  exact k s hs
end
end Go.Proofs.Yteabncomclgncaa
