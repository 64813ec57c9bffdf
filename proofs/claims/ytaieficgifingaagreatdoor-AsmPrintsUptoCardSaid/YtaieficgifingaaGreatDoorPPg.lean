/- Texts of the claim, merged: only what the theorem needs. -/
import Derived.Test.YtaieficgifingaaGreatDoorPPf
import Derived.Lib.ConvBytes
import Derived.Laws.BytesString
namespace Go.Proofs.YtaieficgifingaaGreatDoor
set_option linter.unusedVariables false
set_option linter.unusedSimpArgs false
set_option linter.unusedSectionVars false
open Go.RowKit
section
variable {E : Base} {ρ : Env} {n L : Nat} {τ : List (Nat × AV)} {h : List (Nat × AO)} {F : World → Prop} {a : Act} {w : World}
/-- a new block, at the label L; what else there is of the world is not told -/
theorem Gam.newW (g : Gam E ρ n L τ h F a w) (o : AO) {w' : World} (hag : Ag (fun _ => True) w w') (hlt : w.heap.size < w'.heap.size) (ho : ∀ ρ', (∀ l, l < L → ρ' l = ρ l) → o.Low ρ' (L + 1) ∧ o.holds ρ' (some w.heap.size) w') :
    Gam E (updE ρ L (some w.heap.size)) n (L + 1) τ ((L, o) :: h) F a w' := by
  have hs : ∀ l, l < L → updE ρ L (some w.heap.size) l = ρ l := fun l hl => updE_ne ρ _ (by omega)
  refine g.turn hs (Nat.le_succ L) (hag.mono fun _ _ _ => trivial) (fun l o' hl => ?_) (fun l l' b hl hl' hb hb' => ?_) (fun l b hl hb => ?_) (fun l b h1 h2 hb => ?_)
  · rw [hk_cons] at hl
    split at hl
    · rename_i e
      subst e
      rw [updE_same]
      have e2 : o' = o := by cases o <;> simp at hl <;> exact hl.symm
      subst e2
      exact ⟨by omega, ho _ hs⟩
    · rename_i e
      have hh := g.hp l o' hl
      refine ⟨by omega, (hh.2.1.ext hs).mono (Nat.le_succ L), ?_⟩
      rw [hs l hh.1]
      refine holds_same ((hh.2.1 _ hs _ _).1 hh.2.2) fun b hb => hag.block b (g.lt (by rw [hl]; simp) hb) trivial
  · have hw := hl
    have hl := hl.live
    rw [hk_cons] at hl hl'
    by_cases e1 : L = l <;> by_cases e2 : L = l'
    · omega
    · rw [if_neg e2] at hl'
      subst e1
      rw [updE_same] at hb
      rw [updE_ne ρ _ (fun e => e2 e.symm)] at hb'
      have := g.lt hl' hb'
      cases hb
      omega
    · rw [if_neg e1] at hl
      subst e2
      rw [updE_same] at hb'
      rw [updE_ne ρ _ (fun e => e1 e.symm)] at hb
      have := g.lt hl hb
      cases hb'
      omega
    · rw [if_neg e1] at hl
      rw [if_neg e2] at hl'
      rw [updE_ne ρ _ (fun e => e1 e.symm)] at hb
      rw [updE_ne ρ _ (fun e => e2 e.symm)] at hb'
      refine g.dis l l' b ?_ hl' hb hb'
      obtain ⟨o1, h1, h2⟩ := hw
      rw [hk_cons, if_neg e1] at h1
      exact ⟨o1, h1, h2⟩
  · have hw := hl
    obtain ⟨o1, h1, h2⟩ := hl
    by_cases e1 : L = l
    · subst e1
      rw [updE_same] at hb
      cases hb
      exact .inl (Nat.le_refl _)
    · rw [hk_cons, if_neg e1] at h1
      rw [updE_ne ρ _ (fun e => e1 e.symm)] at hb
      exact .inr ⟨l, ⟨o1, h1, h2⟩, hb⟩
  · obtain rfl : l = L := by omega
    rw [updE_same] at hb
    cases hb
    exact hlt
end
section
variable {P : Program} {ops : Array Oper} {Q : Exit → Act → World → Prop} {D : Option DD} {E : Base} {n L : Nat} {τ : List (Nat × AV)} {h : List (Nat × AO)} {F : World → Prop} {rest : List Oper}
  {d : Nat} {op : Op} {ty : TypeId} {ps : String} {af : Array Edge} {gd : Option (Nat × Bool)} {tt : List (Nat × TI)}
/-- one of the chain that turns nothing -/
theorem R.act0 {op : Op} {σ : Type} (G : σ → Prop) (val : σ → AV) (hv : ∀ ρ a w, Gam E ρ n L τ h F a w → ∃ s, G s ∧ (val s).Low ρ L ∧ (execOp a.eval ⟨some d, op, ty, ps, af, gd⟩).run P w = .ok (.value ((val s).conc ρ)) w)
    (hg : wantA ops ⟨some d, op, ty, ps, af, gd⟩ τ = some true) (hb : (Nat.ble (d + 1) n && chainB h D []) = true) (k : ∀ s, G s → R P ops Q (actD h D []) E n L ((d, val s) :: τ) h F rest) : R P ops Q D E n L τ h F (⟨some d, op, ty, ps, af, gd⟩ :: rest) := by
  simp only [Bool.and_eq_true] at hb
  refine ⟨RL.acts G val (fun _ => L) (fun _ => h) (fun _ => F) [] hg hb.1 hb.2 (fun _ _ => Nat.le_refl L) (fun ρ a w g => ?_) (fun s hs => (k s hs).out)⟩
  obtain ⟨s, h1, h2, h3⟩ := hv ρ a w g
  unfold goes
  rw [h3]
  exact ⟨s, ρ, h1, rfl, h2, fun _ _ => rfl, g, fun _ _ _ _ _ => rfl⟩
/-- one of the chain that makes a block; what else there is of the world is not told -/
theorem R.newW {op : Op} {σ : Type} (G : σ → Prop) (ao : σ → AO) (val : σ → AV) (hval : ∀ s ρ, (val s).Low ρ (L + 1))
    (hv : ∀ ρ a w, Gam E ρ n L τ h F a w → ∃ s w', G s ∧ Ag (fun _ => True) w w' ∧ w.heap.size < w'.heap.size ∧ (∀ ρ', (∀ l, l < L → ρ' l = ρ l) → (ao s).Low ρ' (L + 1) ∧ (ao s).holds ρ' (some w.heap.size) w') ∧
      (execOp a.eval ⟨some d, op, ty, ps, af, gd⟩).run P w = .ok (.value ((val s).conc (updE ρ L (some w.heap.size)))) w')
    (hg : wantA ops ⟨some d, op, ty, ps, af, gd⟩ τ = some true) (hb : (Nat.ble (d + 1) n && chainB h D []) = true) (k : ∀ s, G s → R P ops Q (actD h D []) E n (L + 1) ((d, val s) :: τ) ((L, ao s) :: h) F rest) : R P ops Q D E n L τ h F (⟨some d, op, ty, ps, af, gd⟩ :: rest) := by
  simp only [Bool.and_eq_true] at hb
  refine ⟨RL.acts G val (fun _ => L + 1) (fun s => (L, ao s) :: h) (fun _ => F) [] hg hb.1 hb.2 (fun _ _ => Nat.le_succ L) (fun ρ a w g => ?_) (fun s hs => (k s hs).out)⟩
  obtain ⟨s, w', h1, h2, h3, h4, h5⟩ := hv ρ a w g
  unfold goes
  rw [h5]
  exact ⟨s, _, h1, rfl, hval _ _, fun l hl => updE_ne ρ _ (by omega), g.newW (ao s) h2 h3 h4, fun l b hl hb _ => (h2.block b (g.lt hl hb) trivial).symm⟩
/-- the bytes of a text -/
def strB (s : ByteArray) : List UInt8 := s.data.toList
theorem strB_size (s : ByteArray) : (strB s).length = s.size := by simp [strB]
/-- []byte(s) -/
theorem R.s2b (htt : TTok P tt) {t1 t2 e : TypeId} {x : Operand} {s : ByteArray} {i1 i2 ie : TI} (hx : evA τ x = some (.raw (.string s))) (h1 : lk t1 tt = some i1) (hk1 : i1.kind = .str) (h2 : lk t2 tt = some i2) (hk2 : i2.kind = .sl e) (he : lk e tt = some ie) (hke : ie.kind = .int .u8)
    (hg : wantA ops ⟨some d, .convert t1 t2 x, ty, ps, af, gd⟩ τ = some true) (hb : (Nat.ble (d + 1) n && chainB h D []) = true)
    (k : ∀ c, R P ops Q (actD h D []) E n (L + 1) ((d, .sl L 1 0 (strB s).length c) :: τ) ((L, .ro 1 0 (strB s).length (bytesF (strB s))) :: h) F rest) : R P ops Q D E n L τ h F (⟨some d, .convert t1 t2 x, ty, ps, af, gd⟩ :: rest) :=
  R.newW (σ := Nat) (fun _ => True) (fun _ => .ro 1 0 (strB s).length (bytesF (strB s))) (fun c => .sl L 1 0 (strB s).length c) (fun c ρ => sl_low ρ L _ _ _ _) (fun ρ a w g => by
    obtain ⟨d1, u1, v1⟩ := (htt _ _ h1).und
    obtain ⟨d2, u2, v2⟩ := (htt _ _ h2).und
    obtain ⟨d3, u3, v3⟩ := (htt _ _ he).und
    rw [hk2] at v2
    rw [hke] at v3
    simp only at v2 v3
    subst v2 v3
    refine ⟨grownCap w s.size 0 e, Lib.bytesWorld w e s, trivial, ⟨rfl, rfl, rfl, by rw [Lib.bytesWorld_size]; omega, fun b hb _ => Lib.bytesWorld_at_old w e s b hb⟩, by rw [Lib.bytesWorld_size]; omega, fun ρ' he => ⟨AO.Low.ro fun i hi x hx => ?_, .inr ⟨_, _, _, _, rfl, Lib.bytesWorld_at_new w e s, fun i c x hi hx => ?_⟩⟩, ?_⟩
    · simp only [bytesF, List.mem_singleton] at hx
      subst hx; exact AV.Low.raw _ _ _
    · have hc : c = 0 := by
        have := (List.getElem?_eq_some_iff.1 hx).1
        simp [bytesF] at this; exact this
      subst hc
      simp only [bytesF, List.getElem?_cons_zero, Option.some.injEq] at hx
      subst hx
      have := Lib.bytesWorld_cell w e s i (by rw [← strB_size]; exact hi)
      rw [cell_of_row _ _ _ _ _ _ (Lib.bytesWorld_at_new w e s)] at this
      rw [show (0 + i) * 1 + 0 = i by omega, this]
      rfl
    · have := Lib.run_convert_string_bytes (P := P) w t1 t2 e s u1 u2 u3
      simp only [execOp, (g.eval x _ hx).2, AV.conc, Sem.run_bind, this, Result.andThen_ok, Sem.run_pure, updE_same, Option.map_some, Nat.zero_mul, strB_size]) hg hb (fun c _ => k c)
/-- a text of these bytes -/
def strOf (p : List UInt8) : ByteArray := ⟨p.toArray⟩
theorem run_b2s {P : Program} {W : World} {v : Value} {m : Nat} {q : List UInt8} (hs : Src W v m (q.map byteV)) (hm : m = q.length) : (Conv.bytesToString v).run P W = .ok (.string (strOf q)) W := by
  rcases hs with ⟨a, c, rfl, hc⟩ | ⟨c, rfl, rfl, hq⟩
  · have hl : (loadCells a m).run P W = .ok ((q.map fun b => (b.toNat : Int)).map (Value.int .u8)).toArray W := by
      have := run_loadCells_list (P := P) W a (q.map byteV) (fun j u hj => hc j u hj)
      rw [List.length_map, ← hm] at this
      rw [this]
      simp [byteV, Function.comp_def]
    rw [run_bytesToString W a m c _ hl]
    congr 2
    have key : ∀ (l : List UInt8) (r : ByteArray), (l.map fun b => (b.toNat : Int)).foldl (fun r n => r.push (UInt8.ofNat n.toNat)) r = ⟨r.data ++ l.toArray⟩ := fun l => by
      induction l with
      | nil => intro r; simp
      | cons b l ih =>
        intro r
        simp only [List.map_cons, List.foldl_cons, ih, Int.toNat_natCast, UInt8.ofNat_toNat]
        congr 1
        simp [ByteArray.push]
    rw [key]
    simp [strOf]
  · have : q = [] := by simpa using hq
    subst this
    simp [Conv.bytesToString, strOf]
    rfl
/-- string(b) -/
theorem R.b2s (htt : TTok P tt) {t1 t2 e : TypeId} {x : Operand} {v : AV} {m : Nat} {news : List AV} {i1 i2 ie : TI} (q : List UInt8) (hx : evA τ x = some v) (hs : SrcA E n L τ h F v m news) (hq : news = avB q) (hm : m = q.length) (h1 : lk t1 tt = some i1) (hk1 : i1.kind = .sl e) (h2 : lk t2 tt = some i2) (hk2 : i2.kind = .str) (he : lk e tt = some ie) (hke : ie.kind = .int .u8)
    (hg : wantA ops ⟨some d, .convert t1 t2 x, ty, ps, af, gd⟩ τ = some true) (hb : (Nat.ble (d + 1) n && chainB h D []) = true)
    (k : R P ops Q (actD h D []) E n L ((d, .raw (.string (strOf q))) :: τ) h F rest) : R P ops Q D E n L τ h F (⟨some d, .convert t1 t2 x, ty, ps, af, gd⟩ :: rest) :=
  R.act0 (σ := Unit) (fun _ => True) (fun _ => .raw (.string (strOf q))) (fun ρ a w g => by
    obtain ⟨d1, u1, v1⟩ := (htt _ _ h1).und
    obtain ⟨d2, u2, v2⟩ := (htt _ _ h2).und
    obtain ⟨d3, u3, v3⟩ := (htt _ _ he).und
    rw [hk1] at v1
    rw [hk2] at v2
    rw [hke] at v3
    simp only at v1 v2 v3
    subst v1 v2 v3
    obtain ⟨_, hsrc⟩ := hs ρ a w g
    rw [hq, avB_concs] at hsrc
    have hrun := run_b2s (P := P) hsrc hm
    refine ⟨(), trivial, AV.Low.raw _ _ _, ?_⟩
    have hsl : ∃ ad c, v.conc ρ = .slice ad m c := by
      rcases hsrc with ⟨ad, c, h3, _⟩ | ⟨c, h3, h4, _⟩
      · exact ⟨_, _, h3⟩
      · exact ⟨_, _, by rw [h3, h4]⟩
    obtain ⟨ad, c, h3⟩ := hsl
    have := run_convert_bytes_string (P := P) w t1 t2 e ad m c u1 u3 u2
    rw [← h3, hrun] at this
    simp only [execOp, (g.eval x _ hx).2, AV.conc, Sem.run_bind, this, Result.andThen_ok, Sem.run_pure]) hg hb (fun _ _ => k)
end
end Go.Proofs.YtaieficgifingaaGreatDoor
namespace Go.Proofs.YtaieficgifingaaGreatDoor
set_option linter.unusedVariables false
set_option linter.unusedSimpArgs false
set_option linter.unusedSectionVars false
open Go.RowKit
/-- bytes, as a list that is only read -/
theorem bytes_ro {ρ : Env} {r : Option Nat} {w : World} {p : List UInt8} {cap : Nat} {T : TypeId} (h : (AO.bytes p cap T).holds ρ r w) : (AO.ro 1 0 p.length (bytesF p)).holds ρ r w := by
  rcases h.2 with ⟨h1, h2⟩ | ⟨b, cur, hr, hb, hs, hc⟩
  · exact .inl ⟨h1, by have := h.1; omega⟩
  · refine .inr ⟨b, cur, T, (0, 0), hr, hb, fun i c x hi hx => ?_⟩
    have h0 : c = 0 := by
      have := (List.getElem?_eq_some_iff.1 hx).1
      simp [bytesF] at this; exact this
    subst h0
    simp only [bytesF, List.getElem?_cons_zero, Option.some.injEq] at hx
    subst hx
    have := hc i hi
    rw [show (0 + i) * 1 + 0 = i by omega, this]
    simp [AV.conc, hi]
theorem cells_ro {ρ : Env} {r : Option Nat} {w : World} {p : List UInt8} {T : TypeId} {xs : List AV} (hx : xs = avB p) (h : (AO.cells xs T).holds ρ r w) : (AO.ro 1 0 p.length (bytesF p)).holds ρ r w := by
  obtain ⟨b, hr, hb⟩ := h
  subst hx
  rw [avB_concs] at hb
  refine .inr ⟨b, _, T, (0, 0), hr, hb, fun i c x hi hx => ?_⟩
  have h0 : c = 0 := by
    have := (List.getElem?_eq_some_iff.1 hx).1
    simp [bytesF] at this; exact this
  subst h0
  simp only [bytesF, List.getElem?_cons_zero, Option.some.injEq] at hx
  subst hx
  rw [show (0 + i) * 1 + 0 = i by omega]
  simp [AV.conc, hi]
theorem cells_bytes {ρ : Env} {r : Option Nat} {w : World} {p : List UInt8} {T : TypeId} {xs : List AV} (hx : xs = avB p) (h : (AO.cells xs T).holds ρ r w) : (AO.bytes p p.length T).holds ρ r w := by
  obtain ⟨b, hr, hb⟩ := h
  subst hx
  rw [avB_concs] at hb
  exact ⟨Nat.le_refl _, .inr ⟨b, _, hr, hb, by simp, fun i hi => by simp [hi]⟩⟩
theorem bytesF_ren (r : Nat → Nat) (p : List UInt8) : (fun i => AV.rens r (bytesF p i)) = bytesF p := by funext i; rfl
theorem HasIn.bro {r : Nat → Nat} {h : List (Nat × AO)} {i : Nat} {p : List UInt8} {cap : Nat} {T : TypeId} {os : List AO} (h1 : hk (r i) h = some (.bytes p cap T)) (k : HasIn r h (i + 1) os) : HasIn r h i (.ro 1 0 p.length (bytesF p) :: os) :=
  .other h1 (fun e => by cases e) (fun ρ x w hh => by simp only [AO.ren, bytesF_ren]; exact bytes_ro hh) k
theorem HasIn.cro {r : Nat → Nat} {h : List (Nat × AO)} {i : Nat} {p : List UInt8} {xs : List AV} {T : TypeId} {os : List AO} (h1 : hk (r i) h = some (.cells xs T)) (hx : xs = avB p) (k : HasIn r h (i + 1) os) : HasIn r h i (.ro 1 0 p.length (bytesF p) :: os) :=
  .other h1 (fun e => by cases e) (fun ρ x w hh => by simp only [AO.ren, bytesF_ren]; exact cells_ro hx hh) k
theorem HasIn.ror {r : Nat → Nat} {h : List (Nat × AO)} {i : Nat} {p : List UInt8} {os : List AO} (h1 : hk (r i) h = some (.ro 1 0 p.length (bytesF p))) (k : HasIn r h (i + 1) os) : HasIn r h i (.ro 1 0 p.length (bytesF p) :: os) :=
  .other h1 (fun e => by cases e) (fun ρ x w hh => by simp only [AO.ren, bytesF_ren]; exact hh) k
section
variable {P : Program} {ops : Array Oper} {Q : Exit → Act → World → Prop} {D : Option DD} {E : Base} {n L : Nat} {τ : List (Nat × AV)} {h : List (Nat × AO)} {F : World → Prop} {rest : List Oper}
  {d : Nat} {op : Op} {ty : TypeId} {ps : String} {af : Array Edge} {gd : Option (Nat × Bool)} {tt : List (Nat × TI)}
theorem goes_callv {P : Program} {o : Oper} {a : Act} {w : World} {f : FuncId} {x : Operand} {xs : Array Operand} {ats : Array TypeId} {caps : Array Value} {R : Value → World → Prop} (ho : o.op = .call { callee := .value x, args := xs, argTypes := ats }) (hx : a.eval x = .func (.func f) #[] caps) (eg : ∀ args w, (callFunc f args).run P w = .ok (.enter f args) w)
    (hc : Calls P f (xs.map a.eval ++ caps) w fun e w' => ∃ v, e = .returned v ∧ R v w') : goes P o a w R := by
  unfold goes execOp
  simp only [ho, resolve, invoke, hx, Deferred.ofValue, Sem.run_bind, Sem.run_pure, Result.andThen_ok, Array.empty_append]
  rw [eg]
  exact hc
/-- a call of a function or a closure -/
theorem R.cf {σ : Type} {G : σ → Prop} {val : σ → AV} {post : σ → List (Nat × AO)} {f : FuncId} {x : Operand} {cs : List AV} {xs : Array Operand} {ats : Array TypeId} {avs : List AV} {h0 : List AO} {m : Nat} (ms : List Nat) (sp : Spec P f avs h0 m G val post) (eg : ∀ args w, (callFunc f args).run P w = .ok (.enter f args) w)
    (hf : evA τ x = some (.fn f cs)) {l : List AV} (hxs : evList (evA τ) xs.toList = some l) (hx : l ++ cs = AV.rens (renF ms L) avs) (hin : HasIn (renF ms L) h 0 h0) (hm : Nat.ble h0.length m = true) (hpost : ∀ s, ∀ l ∈ (post s).map (·.1), l < m) (hnd : ∀ s, nodupB (((post s).map (·.1)).map (renF ms L)) = true)
    (hg : wantA ops ⟨some d, .call { callee := .value x, args := xs, argTypes := ats }, ty, ps, af, gd⟩ τ = some true) (hb : (Nat.ble (d + 1) n && Nat.beq h0.length ms.length && onceB h0 ms && chainB h D ((goneL h0 ms).map (·.1))) = true)
    (k : ∀ s, G s → R P ops Q (actD h D ((goneL h0 ms).map (·.1))) E n (L + (m - h0.length)) ((d, (val s).ren (renF ms L)) :: τ) (renH (renF ms L) (post s) ++ (goneL h0 ms ++ h)) F rest) :
    R P ops Q D E n L τ h F (⟨some d, .call { callee := .value x, args := xs, argTypes := ats }, ty, ps, af, gd⟩ :: rest) := by
  simp only [Bool.and_eq_true] at hb
  obtain ⟨⟨⟨h1, h2⟩, h3⟩, h4⟩ := hb
  have hlen : h0.length = ms.length := Nat.eq_of_beq_eq_true h2
  have hm' : h0.length ≤ m := by simpa [Nat.ble_eq] using hm
  refine ⟨RL.acts G (fun s => (val s).ren (renF ms L)) (fun _ => L + (m - h0.length)) (fun s => renH (renF ms L) (post s) ++ (goneL h0 ms ++ h)) (fun _ => F) ((goneL h0 ms).map (·.1)) hg h1 h4 (fun _ _ => Nat.le_add_right _ _) (fun ρ a w g => ?_) (fun s hs => (k s hs).out)⟩
  refine goes_callv rfl (g.eval x _ hf).2 eg ?_
  have hargs : xs.map a.eval ++ (AV.concs ρ cs).toArray = (AV.concs (fun i => ρ (renF ms L i)) avs).toArray := by
    have := evList_conc (evB g) _ _ hxs
    have e2 := congrArg (AV.concs ρ) hx
    rw [rens_conc, concs_append, ← this] at e2
    apply Array.ext'
    rw [Array.toList_append, Array.toList_map, ← e2]
  rw [hargs]
  have hget := hasIn_get hin
  simp only [Nat.zero_add] at hget
  have rlow : ∀ i, i < h0.length → renF ms L i < L := fun i hi => by
    obtain ⟨o, ho⟩ : ∃ o, h0[i]? = some o := ⟨_, List.getElem?_eq_getElem hi⟩
    obtain ⟨o', h5, _⟩ := hget i o ho
    exact (g.hp _ _ h5).1
  refine (sp (fun i => ρ (renF ms L i)) w (fun i o ho => ?_) (fun i j o b ho hro hj hbi hbj => ?_) (fun i b hi hbi => g.al _ b (rlow i hi) hbi)).mono fun e w' ho => ?_
  · obtain ⟨o', h5, h6, h7⟩ := hget i o ho
    exact (ren_holds _ _ _ _ _).1 (h7 _ _ _ (g.hp _ _ h5).2.2)
  · obtain ⟨o', h5, h6, _⟩ := hget i o ho
    obtain ⟨oj, hoj⟩ : ∃ o, h0[j]? = some o := ⟨_, List.getElem?_eq_getElem hj⟩
    obtain ⟨oj', h8, _⟩ := hget j oj hoj
    have he := g.dis _ _ b ⟨o', h5, h6 hro⟩ (by rw [h8]; simp) hbi hbj
    have hi : i < h0.length := (List.getElem?_eq_some_iff.1 ho).1
    have h9 := List.all_eq_true.1 h3 i (List.mem_range.2 hi)
    rw [ho] at h9
    simp only [hro, Bool.false_or] at h9
    have h10 := List.all_eq_true.1 h9 j (List.mem_range.2 hj)
    simp only [Bool.or_eq_true, Bool.not_eq_true'] at h10
    rcases h10 with h10 | h10
    · exact Nat.eq_of_beq_eq_true h10
    · exfalso
      have e1 : ∀ x, x < h0.length → renF ms L x = ms.getD x 0 := fun x hx => by
        have hx' : x < ms.length := by omega
        unfold renF
        rw [List.getD_eq_getElem?_getD, List.getElem?_eq_getElem hx']; rfl
      rw [← e1 i hi, ← e1 j hj, he, Nat.beq_refl] at h10; cases h10
  · obtain ⟨s, ρ', hG, he, hN⟩ := g.called hlen hm' hin h3 (fun s _ => hpost s) hnd ho
    exact ⟨_, he, s, ρ', hG, rfl, hN⟩
def bdB (m : Nat) : List (Nat × AO) → Bool
  | [] => true
  | (l, _) :: r => Nat.ble (l + 1) m && bdB m r
theorem bdB_lt {m : Nat} : ∀ {p : List (Nat × AO)}, bdB m p = true → ∀ l ∈ p.map (·.1), l < m
  | [], _, l, hl => by cases hl
  | (s, o) :: r, hp, l, hl => by
    simp only [bdB, Bool.and_eq_true, Nat.ble_eq] at hp
    rcases List.mem_cons.1 hl with rfl | hl
    · exact hp.1
    · exact bdB_lt hp.2 l hl
/-- a call, its side conditions told by tests -/
theorem R.cl {σ : Type} {G : σ → Prop} {val : σ → AV} {post : σ → List (Nat × AO)} {f : FuncId} {x : Operand} {cs : List AV} {xs : Array Operand} {ats : Array TypeId} {avs : List AV} {h0 : List AO} {m : Nat} (ms : List Nat) (sp : Spec P f avs h0 m G val post) (eg : ∀ args w, (callFunc f args).run P w = .ok (.enter f args) w)
    (hin : HasIn (renF ms L) h 0 h0) (hf : evA τ x = some (.fn f cs)) {l : List AV} (hxs : evList (evA τ) xs.toList = some l) (hx : l ++ cs = AV.rens (renF ms L) avs) (hP : ∀ s, (bdB m (post s) && nodupB (((post s).map (·.1)).map (renF ms L))) = true)
    (hg : wantA ops ⟨some d, .call { callee := .value x, args := xs, argTypes := ats }, ty, ps, af, gd⟩ τ = some true) (hb : (Nat.ble (d + 1) n && Nat.beq h0.length ms.length && onceB h0 ms && chainB h D ((goneL h0 ms).map (·.1)) && Nat.ble h0.length m) = true)
    (k : ∀ s, G s → R P ops Q (actD h D ((goneL h0 ms).map (·.1))) E n (L + (m - h0.length)) ((d, (val s).ren (renF ms L)) :: τ) (renH (renF ms L) (post s) ++ (goneL h0 ms ++ h)) F rest) :
    R P ops Q D E n L τ h F (⟨some d, .call { callee := .value x, args := xs, argTypes := ats }, ty, ps, af, gd⟩ :: rest) := by
  rw [Bool.and_eq_true] at hb
  simp only [Bool.and_eq_true] at hP
  exact R.cf ms sp eg hf hxs hx hin hb.2 (fun s => bdB_lt (hP s).1) (fun s => (hP s).2) hg hb.1 k
end
section
variable {E : Base} {n L : Nat} {τ : List (Nat × AV)} {h : List (Nat × AO)} {F : World → Prop}
theorem SrcA.bytes0 {l c cap : Nat} {p : List UInt8} {T : TypeId} (hl : hk l h = some (.bytes p cap T)) : SrcA E n L τ h F (.sl l 1 0 p.length c) p.length (avB p) := by
  have := SrcA.bytes (E := E) (n := n) (L := L) (τ := τ) (F := F) (off := 0) (m := p.length) (c := c) hl (by omega)
  simpa using this
end
end Go.Proofs.YtaieficgifingaaGreatDoor
namespace Go.Proofs.YtaieficgifingaaGreatDoor
set_option linter.unusedVariables false
set_option linter.unusedSimpArgs false
set_option linter.unusedSectionVars false
open Go.RowKit
section
variable {E : Base} {n L : Nat} {τ : List (Nat × AV)} {h : List (Nat × AO)} {F : World → Prop}
theorem Gam.tell {ρ : Env} {a : Act} {w : World} (g : Gam E ρ n L τ h F a w) (l : Nat) {o o' : AO} (hl : hk l h = some o) (hro : o'.isRo = o.isRo) (hlow : o.Low ρ L → o.holds ρ (ρ l) w → o'.Low ρ L) (hh : o.holds ρ (ρ l) w → o'.holds ρ (ρ l) w) : Gam E ρ n L τ ((l, o') :: h) F a w := by
  have hlive : ∀ k, hk k ((l, o') :: h) ≠ none → hk k h ≠ none := fun k hk1 => by
    rw [hk_cons] at hk1
    split at hk1
    · rename_i e; subst e; rw [hl]; simp
    · exact hk1
  have hw : ∀ k, wrA k ((l, o') :: h) → wrA k h := fun k ⟨o1, h1, h2⟩ => by
    rw [hk_cons] at h1
    split at h1
    · rename_i e
      subst e
      have e2 : o1 = o' := by cases o' <;> simp at h1 <;> exact h1.symm
      subst e2
      exact ⟨o, hl, hro ▸ h2⟩
    · exact ⟨o1, h1, h2⟩
  refine ⟨g.df, g.sz, g.tm, fun k o1 h1 => ?_, fun k k' b h1 h2 h3 h4 => g.dis k k' b (hw k h1) (hlive k' h2) h3 h4, fun w' hw' => g.fr w' ?_, g.ex, g.le, g.al⟩
  · rw [hk_cons] at h1
    split at h1
    · rename_i e
      subst e
      have e2 : o1 = o' := by cases o' <;> simp at h1 <;> exact h1.symm
      subst e2
      have := g.hp _ _ hl
      exact ⟨this.1, hlow this.2.1 this.2.2, hh this.2.2⟩
    · exact g.hp k o1 h1
  · refine hw'.mono fun b _ hd k hk1 => hd k (hw k hk1)
/-- cells that are bytes -/
theorem Gam.tellB {ρ : Env} {a : Act} {w : World} (g : Gam E ρ n L τ h F a w) (l : Nat) {xs : List AV} {T : TypeId} (p : List UInt8) (hl : hk l h = some (.cells xs T)) (hx : xs = avB p) : Gam E ρ n L τ ((l, .bytes p p.length T) :: h) F a w :=
  g.tell l hl rfl (fun _ _ => AO.Low.bytes _ _ _ _ _) (fun hh => cells_bytes hx hh)
section
variable {P : Program} {ops : Array Oper} {Q : Exit → Act → World → Prop} {rest : List Oper}
theorem R.tellB (l : Nat) {xs : List AV} {T : TypeId} (p : List UInt8) (hl : hk l h = some (.cells xs T)) (hx : xs = avB p) (k : R P ops Q none E n L τ ((l, .bytes p p.length T) :: h) F rest) : R P ops Q none E n L τ h F rest :=
  ⟨fun ρ a w g => k.out ρ a w (g.tellB l p hl hx)⟩
theorem C.tellB {c : Code} (l : Nat) {xs : List AV} {T : TypeId} (p : List UInt8) (hl : hk l h = some (.cells xs T)) (hx : xs = avB p) (k : C P c Q E n L τ ((l, .bytes p p.length T) :: h) F) : C P c Q E n L τ h F :=
  ⟨fun ρ a w g => k.out ρ a w (g.tellB l p hl hx)⟩
theorem X.tellB {e : Exit} (l : Nat) {xs : List AV} {T : TypeId} (p : List UInt8) (hl : hk l h = some (.cells xs T)) (hx : xs = avB p) (k : X Q e E n L τ ((l, .bytes p p.length T) :: h) F) : X Q e E n L τ h F :=
  ⟨fun ρ a w g => k.out ρ a w (g.tellB l p hl hx)⟩
end
end
end Go.Proofs.YtaieficgifingaaGreatDoor
