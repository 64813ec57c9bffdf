/- The kernel, 20: copies, calls of closures, what comes into a call told as a list that is only read. No program in sight. -/
import Derived.Test.YteabncomclgncaaK19
namespace Go.Proofs.Yteabncomclgncaa
set_option linter.unusedVariables false
set_option linter.unusedSimpArgs false
set_option linter.unusedSectionVars false
open Go.RowKit

/-- bytes, as a list that is only read -/
theorem bytes_ro {ρ : Env} {r : Option Nat} {w : World} {p : List UInt8} {cap : Nat} {T : TypeId} (h : (AO.bytes p cap T).holds ρ r w) : (AO.ro 1 0 p.length (bytesF p)).holds ρ r w := by
  rcases h.2 with ⟨h1, h2⟩ | ⟨b, cur, hr, hb, hs, hc⟩
  · exact .inl ⟨h1, by have := h.1; omega⟩
  · refine .inr ⟨b, cur, T, (0, 0), hr, hb, fun i c x hi hx => ?_⟩
    have h0 : c = 0 := by
      have := (List.getElem?_eq_some_iff.1 hx).1
      simp [bytesF] at this; exact this
    subst h0
    simp only [bytesF, List.getElem?_cons_zero, Option.some.injEq] at hx
    subst hx
    have := hc i hi
    rw [show (0 + i) * 1 + 0 = i by omega, this]
    simp [AV.conc, hi]
theorem cells_ro {ρ : Env} {r : Option Nat} {w : World} {p : List UInt8} {T : TypeId} {xs : List AV} (hx : xs = avB p) (h : (AO.cells xs T).holds ρ r w) : (AO.ro 1 0 p.length (bytesF p)).holds ρ r w := by
  obtain ⟨b, hr, hb⟩ := h
  subst hx
  rw [avB_concs] at hb
  refine .inr ⟨b, _, T, (0, 0), hr, hb, fun i c x hi hx => ?_⟩
  have h0 : c = 0 := by
    have := (List.getElem?_eq_some_iff.1 hx).1
    simp [bytesF] at this; exact this
  subst h0
  simp only [bytesF, List.getElem?_cons_zero, Option.some.injEq] at hx
  subst hx
  rw [show (0 + i) * 1 + 0 = i by omega]
  simp [AV.conc, hi]
theorem cells_bytes {ρ : Env} {r : Option Nat} {w : World} {p : List UInt8} {T : TypeId} {xs : List AV} (hx : xs = avB p) (h : (AO.cells xs T).holds ρ r w) : (AO.bytes p p.length T).holds ρ r w := by
  obtain ⟨b, hr, hb⟩ := h
  subst hx
  rw [avB_concs] at hb
  exact ⟨Nat.le_refl _, .inr ⟨b, _, hr, hb, by simp, fun i hi => by simp [hi]⟩⟩
theorem bytesF_ren (r : Nat → Nat) (p : List UInt8) : (fun i => AV.rens r (bytesF p i)) = bytesF p := by funext i; rfl
theorem HasIn.bro {r : Nat → Nat} {h : List (Nat × AO)} {i : Nat} {p : List UInt8} {cap : Nat} {T : TypeId} {os : List AO} (h1 : hk (r i) h = some (.bytes p cap T)) (k : HasIn r h (i + 1) os) : HasIn r h i (.ro 1 0 p.length (bytesF p) :: os) :=
  .other h1 (fun e => by cases e) (fun ρ x w hh => by simp only [AO.ren, bytesF_ren]; exact bytes_ro hh) k
theorem HasIn.cro {r : Nat → Nat} {h : List (Nat × AO)} {i : Nat} {p : List UInt8} {xs : List AV} {T : TypeId} {os : List AO} (h1 : hk (r i) h = some (.cells xs T)) (hx : xs = avB p) (k : HasIn r h (i + 1) os) : HasIn r h i (.ro 1 0 p.length (bytesF p) :: os) :=
  .other h1 (fun e => by cases e) (fun ρ x w hh => by simp only [AO.ren, bytesF_ren]; exact cells_ro hx hh) k
theorem HasIn.ror {r : Nat → Nat} {h : List (Nat × AO)} {i : Nat} {p : List UInt8} {os : List AO} (h1 : hk (r i) h = some (.ro 1 0 p.length (bytesF p))) (k : HasIn r h (i + 1) os) : HasIn r h i (.ro 1 0 p.length (bytesF p) :: os) :=
  .other h1 (fun e => by cases e) (fun ρ x w hh => by simp only [AO.ren, bytesF_ren]; exact hh) k
theorem bytesF_bd (L : Nat) (p : List UInt8) : (AO.ro 1 0 p.length (bytesF p)).Bd L := fun i hi => rfl
theorem get3 {α : Type} (A B C : List α) (i : Nat) : (A ++ B ++ C)[i]? = if i < A.length then A[i]? else if i - A.length < B.length then B[i - A.length]? else C[i - A.length - B.length]? := by
  rw [List.append_assoc, List.getElem?_append, List.getElem?_append]
section
variable {P : Program} {ops : Array Oper} {Q : Exit → Act → World → Prop} {D : Option DD} {E : Base} {n L : Nat} {τ : List (Nat × AV)} {h : List (Nat × AO)} {F : World → Prop} {rest : List Oper}
  {d : Nat} {op : Op} {ty : TypeId} {ps : String} {af : Array Edge} {gd : Option (Nat × Bool)} {tt : List (Nat × TI)}
/-- copy(x, y) into a list of bytes -/
theorem R.cpb (htt : TTok P tt) {t1 t2 T : TypeId} {x y : Operand} {l off m cap n0 k0 : Nat} {p q r : List UInt8} {v2 : AV} {news : List AV} {tl te : TI} (hx : evA τ x = some (.sl l 1 off m cap)) (hl : hk l h = some (.bytes p n0 T)) (hy : evA τ y = some v2) (hs : SrcA E n L τ h F v2 k0 news) (hq : news = avB q) (hk0 : k0 = q.length)
    (ht : lk t1 tt = some tl) (hkd : tl.kind = .sl T) (hte : lk T tt = some te) (hsz : Nat.beq te.size 1 = true) (hf : off + m ≤ p.length) (hr : p.take off ++ q.take m ++ p.drop (off + min k0 m) = r)
    (hg : wantA ops ⟨some d, .call { callee := .builtin .copy, args := #[x, y], argTypes := #[t1, t2] }, ty, ps, af, gd⟩ τ = some true) (hb : (Nat.ble (d + 1) n && chainB h D [l]) = true)
    (k : R P ops Q (actD h D [l]) E n L ((d, .raw (.int .i64 (min k0 m : Nat))) :: τ) ((l, .bytes r n0 T) :: h) F rest) :
    R P ops Q D E n L τ h F (⟨some d, .call { callee := .builtin .copy, args := #[x, y], argTypes := #[t1, t2] }, ty, ps, af, gd⟩ :: rest) := by
  simp only [Bool.and_eq_true] at hb
  subst hq
  subst hr
  refine ⟨RL.acts (σ := Unit) (fun _ => True) (fun _ => .raw (.int .i64 (min k0 m : Nat))) (fun _ => L) (fun _ => (l, .bytes _ n0 T) :: h) (fun _ => F) [l] hg hb.1 hb.2 (fun _ _ => Nat.le_refl L) (fun ρ a w g => ?_) (fun _ _ => k.out)⟩
  obtain ⟨_, hsrc⟩ := hs ρ a w g
  rw [avB_concs] at hsrc
  have hh := (g.hp l _ hl).2.2
  obtain ⟨dd, hu, hud⟩ := (htt _ _ ht).und
  rw [hkd] at hud
  simp only at hud
  subst hud
  obtain ⟨inf, z, e1, e2, _⟩ := (htt _ _ hte).info
  have hsize : (P.info? T).map (·.size) = some 1 := by rw [e1, Option.map_some, e2, Nat.eq_of_beq_eq_true hsz]
  have hev1 : a.eval x = .slice ((ρ l).map fun b => ⟨b, off, none⟩) m cap := by rw [(g.eval x _ hx).2]; simp [AV.conc]
  have hev2 : a.eval y = v2.conc ρ := (g.eval y _ hy).2
  have hlen : ∀ (q' : List UInt8), q'.length = min k0 m → (p.take off ++ q' ++ p.drop (off + min k0 m)).length = p.length := fun q' hq' => by
    simp only [List.length_append, List.length_take, List.length_drop, hq']
    omega
  unfold goes execOp
  simp only [resolve, invoke, builtin, Sem.run_bind, Sem.run_pure, Result.andThen_ok, List.map_toArray, List.map_cons, List.map_nil, hev1, hev2]
  have hnone : min k0 m = 0 → (Builtin.copy_ #[t1, t2] ty #[.slice ((ρ l).map fun b => ⟨b, off, none⟩) m cap, v2.conc ρ]).run P w = .ok (.int .i64 0) w := fun h0 => by
    rcases hsrc with ⟨ad, c, h3, _⟩ | ⟨c, h3, h4, _⟩
    · rw [h3]
      have : Nat.min k0 m = 0 := h0
      cases ρ l <;> simp [Builtin.copy_, run_underlying hu, Builtin.lenOf, Builtin.firstCells, sizeOf, typeInfo, e1, this, loadCells, loadCellsFrom, storeCells, goInt]
    · rw [h3]
      subst h4
      have : Nat.min 0 m = 0 := by simp
      cases ρ l <;> simp [Builtin.copy_, run_underlying hu, Builtin.lenOf, Builtin.firstCells, sizeOf, typeInfo, e1, this, loadCells, loadCellsFrom, storeCells, goInt]
  have hsame : min k0 m = 0 → p.take off ++ q.take m ++ p.drop (off + min k0 m) = p := fun h0 => by
    rw [h0]
    have : q.take m = [] := by
      rcases Nat.eq_zero_or_pos m with h1 | h1
      · simp [h1]
      · have : q = [] := List.length_eq_zero_iff.1 (by omega)
        simp [this]
    rw [this]; simp
  by_cases h0 : min k0 m = 0
  · rw [hnone h0]
    refine ⟨(), ρ, trivial, by simp [AV.conc, h0], AV.Low.raw _ _ _, fun _ _ => rfl, ?_, fun _ _ _ _ _ => rfl⟩
    rw [hsame h0]
    rw [← hsame h0] at hl
    rw [hsame h0] at hl
    have hkl : ∀ l', hk l' ((l, AO.bytes p n0 T) :: h) = hk l' h := fun l' => by
      rw [hk_cons]
      split
      · rename_i e; subst e; exact hl.symm
      · rfl
    have hwr : ∀ l', wrA l' ((l, AO.bytes p n0 T) :: h) ↔ wrA l' h := fun l' => by unfold wrA; rw [hkl]
    exact ⟨g.df, g.sz, g.tm, fun l' o ho => g.hp l' o (by rw [← hkl]; exact ho), fun l1 l2 b h1 h2 h3 h4 => g.dis l1 l2 b ((hwr l1).1 h1) (by rw [← hkl]; exact h2) h3 h4,
      fun w' hw' => g.fr w' (hw'.mono fun b _ hd l' hl' => hd l' ((hwr l').1 hl')), g.ex, g.le, g.al⟩
  · rcases hsrc with ⟨ad, c, h3, hcell⟩ | ⟨c, h3, h4, _⟩
    · rcases hh.2 with ⟨_, hc0⟩ | ⟨bk, cur, hr, hbk, hs2, hcur⟩
      · have := hh.1; omega
      · have hcs : ((q.take m).map byteV).length = Nat.min k0 m := by simp [hk0, Nat.min_comm]
        have hcl : ((q.take m).map byteV).length = min k0 m := hcs
        have hrun := run_copy_row (P := P) w t1 t2 ty T bk off m cap ad k0 c cur T ((q.take m).map byteV) hu hsize hbk hcs (fun j v hj => by
          refine hcell j v ?_
          rw [List.map_take, List.getElem?_take] at hj
          split at hj
          · exact hj
          · cases hj) (by rw [hcl]; have := hh.1; omega) (fun v hv => by
          obtain ⟨b, _, rfl⟩ := List.mem_map.1 hv; rfl)
        rw [h3, hr, Option.map_some, hrun]
        refine ⟨(), ρ, trivial, by rw [hcl]; simp [AV.conc, goInt], AV.Low.raw _ _ _, fun _ _ => rfl, g.set hl rfl hr (AO.Low.bytes _ _ _ _ _) ⟨by rw [hlen _ (by rw [List.length_take]; omega)]; exact hh.1, .inr ⟨bk, _, rfl, setRow_heap _ _ _ _ _ _ hbk, ?_, fun i hi => ?_⟩⟩ (fun b' hb' => setRow_other _ _ _ _ hb') (by simp) ⟨rfl, rfl, rfl⟩, fun l' b' hl' hb' hn => ?_⟩
        · have e3 : (cur.toList.take off ++ (q.take m).map byteV ++ cur.toList.drop (off + ((q.take m).map byteV).length)).length = n0 := by
            simp only [List.length_append, List.length_take, List.length_drop, hcl, Array.length_toList]
            have := hh.1
            omega
          rw [List.size_toArray, e3]
        · have hq2 : (q.take m).length = min k0 m := by rw [List.length_take]; omega
          have hi2 : i < p.length := by rw [hlen _ hq2] at hi; exact hi
          have hpc : ∀ j, j < p.length → cur.toList[j]? = (p[j]?).map byteV := fun j hj => by
            rw [Array.getElem?_toList, hcur j hj, List.getElem?_eq_getElem hj, Option.map_some]
          have key : (cur.toList.take off ++ (q.take m).map byteV ++ cur.toList.drop (off + ((q.take m).map byteV).length))[i]? = ((p.take off ++ q.take m ++ p.drop (off + min k0 m))[i]?).map byteV := by
            have e1 : (cur.toList.take off).length = off := by simp; have := hh.1; omega
            have e2 : (p.take off).length = off := by simp; omega
            rw [get3, get3, hcl, e1, e2, hq2]
            by_cases a1 : i < off
            · rw [if_pos a1, if_pos a1, List.getElem?_take, if_pos a1, List.getElem?_take, if_pos a1]
              exact hpc i hi2
            · rw [if_neg a1, if_neg a1]
              by_cases a2 : i - off < min k0 m
              · rw [if_pos a2, if_pos a2, List.getElem?_map]
              · rw [if_neg a2, if_neg a2, List.getElem?_drop, List.getElem?_drop]
                rw [show off + min k0 m + (i - off - min k0 m) = i by omega]
                exact hpc i hi2
          rw [List.getElem?_toArray, key, List.getElem?_eq_getElem hi, Option.map_some]
        · by_cases e : b' = bk
          · subst e
            exact absurd (g.dis l l' b' ⟨_, hl, rfl⟩ hl' hr hb') (fun e => hn (by simp [e]))
          · exact (setRow_other _ _ _ _ e).symm
    · exact absurd (by omega) h0
theorem goes_callv {P : Program} {o : Oper} {a : Act} {w : World} {f : FuncId} {x : Operand} {xs : Array Operand} {ats : Array TypeId} {caps : Array Value} {R : Value → World → Prop} (ho : o.op = .call { callee := .value x, args := xs, argTypes := ats }) (hx : a.eval x = .func (.func f) #[] caps) (eg : ∀ args w, (callFunc f args).run P w = .ok (.enter f args) w)
    (hc : Calls P f (xs.map a.eval ++ caps) w fun e w' => ∃ v, e = .returned v ∧ R v w') : goes P o a w R := by
  unfold goes execOp
  simp only [ho, resolve, invoke, hx, Deferred.ofValue, Sem.run_bind, Sem.run_pure, Result.andThen_ok, Array.empty_append]
  rw [eg]
  exact hc
/-- a call of a function or a closure -/
theorem R.cf {σ : Type} {G : σ → Prop} {val : σ → AV} {post : σ → List (Nat × AO)} {f : FuncId} {x : Operand} {cs : List AV} {xs : Array Operand} {ats : Array TypeId} {avs : List AV} {h0 : List AO} {m : Nat} (ms : List Nat) (sp : Spec P f avs h0 m G val post) (eg : ∀ args w, (callFunc f args).run P w = .ok (.enter f args) w)
    (hf : evA τ x = some (.fn f cs)) {l : List AV} (hxs : evList (evA τ) xs.toList = some l) (hx : l ++ cs = AV.rens (renF ms L) avs) (hin : HasIn (renF ms L) h 0 h0) (hm : Nat.ble h0.length m = true) (hpost : ∀ s, ∀ l ∈ (post s).map (·.1), l < m) (hnd : ∀ s, nodupB (((post s).map (·.1)).map (renF ms L)) = true)
    (hg : wantA ops ⟨some d, .call { callee := .value x, args := xs, argTypes := ats }, ty, ps, af, gd⟩ τ = some true) (hb : (Nat.ble (d + 1) n && Nat.beq h0.length ms.length && onceB h0 ms && chainB h D ((goneL h0 ms).map (·.1))) = true)
    (k : ∀ s, G s → R P ops Q (actD h D ((goneL h0 ms).map (·.1))) E n (L + (m - h0.length)) ((d, (val s).ren (renF ms L)) :: τ) (renH (renF ms L) (post s) ++ (goneL h0 ms ++ h)) F rest) :
    R P ops Q D E n L τ h F (⟨some d, .call { callee := .value x, args := xs, argTypes := ats }, ty, ps, af, gd⟩ :: rest) := by
  simp only [Bool.and_eq_true] at hb
  obtain ⟨⟨⟨h1, h2⟩, h3⟩, h4⟩ := hb
  have hlen : h0.length = ms.length := Nat.eq_of_beq_eq_true h2
  have hm' : h0.length ≤ m := by simpa [Nat.ble_eq] using hm
  refine ⟨RL.acts G (fun s => (val s).ren (renF ms L)) (fun _ => L + (m - h0.length)) (fun s => renH (renF ms L) (post s) ++ (goneL h0 ms ++ h)) (fun _ => F) ((goneL h0 ms).map (·.1)) hg h1 h4 (fun _ _ => Nat.le_add_right _ _) (fun ρ a w g => ?_) (fun s hs => (k s hs).out)⟩
  refine goes_callv rfl (g.eval x _ hf).2 eg ?_
  have hargs : xs.map a.eval ++ (AV.concs ρ cs).toArray = (AV.concs (fun i => ρ (renF ms L i)) avs).toArray := by
    have := evList_conc (evB g) _ _ hxs
    have e2 := congrArg (AV.concs ρ) hx
    rw [rens_conc, concs_append, ← this] at e2
    apply Array.ext'
    rw [Array.toList_append, Array.toList_map, ← e2]
  rw [hargs]
  have hget := hasIn_get hin
  simp only [Nat.zero_add] at hget
  have rlow : ∀ i, i < h0.length → renF ms L i < L := fun i hi => by
    obtain ⟨o, ho⟩ : ∃ o, h0[i]? = some o := ⟨_, List.getElem?_eq_getElem hi⟩
    obtain ⟨o', h5, _⟩ := hget i o ho
    exact (g.hp _ _ h5).1
  refine (sp (fun i => ρ (renF ms L i)) w (fun i o ho => ?_) (fun i j o b ho hro hj hbi hbj => ?_) (fun i b hi hbi => g.al _ b (rlow i hi) hbi)).mono fun e w' ho => ?_
  · obtain ⟨o', h5, h6, h7⟩ := hget i o ho
    exact (ren_holds _ _ _ _ _).1 (h7 _ _ _ (g.hp _ _ h5).2.2)
  · obtain ⟨o', h5, h6, _⟩ := hget i o ho
    obtain ⟨oj, hoj⟩ : ∃ o, h0[j]? = some o := ⟨_, List.getElem?_eq_getElem hj⟩
    obtain ⟨oj', h8, _⟩ := hget j oj hoj
    have he := g.dis _ _ b ⟨o', h5, h6 hro⟩ (by rw [h8]; simp) hbi hbj
    have hi : i < h0.length := (List.getElem?_eq_some_iff.1 ho).1
    have h9 := List.all_eq_true.1 h3 i (List.mem_range.2 hi)
    rw [ho] at h9
    simp only [hro, Bool.false_or] at h9
    have h10 := List.all_eq_true.1 h9 j (List.mem_range.2 hj)
    simp only [Bool.or_eq_true, Bool.not_eq_true'] at h10
    rcases h10 with h10 | h10
    · exact Nat.eq_of_beq_eq_true h10
    · exfalso
      have e1 : ∀ x, x < h0.length → renF ms L x = ms.getD x 0 := fun x hx => by
        have hx' : x < ms.length := by omega
        unfold renF
        rw [List.getD_eq_getElem?_getD, List.getElem?_eq_getElem hx']; rfl
      rw [← e1 i hi, ← e1 j hj, he, Nat.beq_refl] at h10; cases h10
  · obtain ⟨s, ρ', hG, he, hN⟩ := g.called hlen hm' hin h3 (fun s _ => hpost s) hnd ho
    exact ⟨_, he, s, ρ', hG, rfl, hN⟩
def bdB (m : Nat) : List (Nat × AO) → Bool
  | [] => true
  | (l, _) :: r => Nat.ble (l + 1) m && bdB m r
theorem bdB_lt {m : Nat} : ∀ {p : List (Nat × AO)}, bdB m p = true → ∀ l ∈ p.map (·.1), l < m
  | [], _, l, hl => by cases hl
  | (s, o) :: r, hp, l, hl => by
    simp only [bdB, Bool.and_eq_true, Nat.ble_eq] at hp
    rcases List.mem_cons.1 hl with rfl | hl
    · exact hp.1
    · exact bdB_lt hp.2 l hl
/-- a call, its side conditions told by tests -/
theorem R.cl {σ : Type} {G : σ → Prop} {val : σ → AV} {post : σ → List (Nat × AO)} {f : FuncId} {x : Operand} {cs : List AV} {xs : Array Operand} {ats : Array TypeId} {avs : List AV} {h0 : List AO} {m : Nat} (ms : List Nat) (sp : Spec P f avs h0 m G val post) (eg : ∀ args w, (callFunc f args).run P w = .ok (.enter f args) w)
    (hin : HasIn (renF ms L) h 0 h0) (hf : evA τ x = some (.fn f cs)) {l : List AV} (hxs : evList (evA τ) xs.toList = some l) (hx : l ++ cs = AV.rens (renF ms L) avs) (hP : ∀ s, (bdB m (post s) && nodupB (((post s).map (·.1)).map (renF ms L))) = true)
    (hg : wantA ops ⟨some d, .call { callee := .value x, args := xs, argTypes := ats }, ty, ps, af, gd⟩ τ = some true) (hb : (Nat.ble (d + 1) n && Nat.beq h0.length ms.length && onceB h0 ms && chainB h D ((goneL h0 ms).map (·.1)) && Nat.ble h0.length m) = true)
    (k : ∀ s, G s → R P ops Q (actD h D ((goneL h0 ms).map (·.1))) E n (L + (m - h0.length)) ((d, (val s).ren (renF ms L)) :: τ) (renH (renF ms L) (post s) ++ (goneL h0 ms ++ h)) F rest) :
    R P ops Q D E n L τ h F (⟨some d, .call { callee := .value x, args := xs, argTypes := ats }, ty, ps, af, gd⟩ :: rest) := by
  rw [Bool.and_eq_true] at hb
  simp only [Bool.and_eq_true] at hP
  exact R.cf ms sp eg hf hxs hx hin hb.2 (fun s => bdB_lt (hP s).1) (fun s => (hP s).2) hg hb.1 k
end
section
variable {E : Base} {n L : Nat} {τ : List (Nat × AV)} {h : List (Nat × AO)} {F : World → Prop}
theorem SrcA.bytes0 {l c cap : Nat} {p : List UInt8} {T : TypeId} (hl : hk l h = some (.bytes p cap T)) : SrcA E n L τ h F (.sl l 1 0 p.length c) p.length (avB p) := by
  have := SrcA.bytes (E := E) (n := n) (L := L) (τ := τ) (F := F) (off := 0) (m := p.length) (c := c) hl (by omega)
  simpa using this
theorem SrcA.rob0 {l c : Nat} {p : List UInt8} (hl : hk l h = some (.ro 1 0 p.length (bytesF p))) : SrcA E n L τ h F (.sl l 1 0 p.length c) p.length (avB p) := by
  have := SrcA.rob (E := E) (n := n) (L := L) (τ := τ) (F := F) (off := 0) (m := p.length) (c := c) hl (by omega)
  simpa using this
end
end Go.Proofs.Yteabncomclgncaa
