/- The kernel, 19: new lists, copies, texts and bytes, comparisons with none, calls of closures. No program in sight. -/
import Derived.Test.YteabncomclgncaaK18
import Derived.Lib.ConvBytes
import Derived.Laws.BytesString
namespace Go.Proofs.Yteabncomclgncaa
set_option linter.unusedVariables false
set_option linter.unusedSimpArgs false
set_option linter.unusedSectionVars false
open Go.RowKit

section
variable {E : Base} {ρ : Env} {n L : Nat} {τ : List (Nat × AV)} {h : List (Nat × AO)} {F : World → Prop} {a : Act} {w : World}
/-- a new block, at the label L; what else there is of the world is not told -/
theorem Gam.newW (g : Gam E ρ n L τ h F a w) (o : AO) {w' : World} (hag : Ag (fun _ => True) w w') (hlt : w.heap.size < w'.heap.size) (ho : ∀ ρ', (∀ l, l < L → ρ' l = ρ l) → o.Low ρ' (L + 1) ∧ o.holds ρ' (some w.heap.size) w') :
    Gam E (updE ρ L (some w.heap.size)) n (L + 1) τ ((L, o) :: h) F a w' := by
  have hs : ∀ l, l < L → updE ρ L (some w.heap.size) l = ρ l := fun l hl => updE_ne ρ _ (by omega)
  refine g.turn hs (Nat.le_succ L) (hag.mono fun _ _ _ => trivial) (fun l o' hl => ?_) (fun l l' b hl hl' hb hb' => ?_) (fun l b hl hb => ?_) (fun l b h1 h2 hb => ?_)
  · rw [hk_cons] at hl
    split at hl
    · rename_i e
      subst e
      rw [updE_same]
      have e2 : o' = o := by cases o <;> simp at hl <;> exact hl.symm
      subst e2
      exact ⟨by omega, ho _ hs⟩
    · rename_i e
      have hh := g.hp l o' hl
      refine ⟨by omega, (hh.2.1.ext hs).mono (Nat.le_succ L), ?_⟩
      rw [hs l hh.1]
      refine holds_same ((hh.2.1 _ hs _ _).1 hh.2.2) fun b hb => hag.block b (g.lt (by rw [hl]; simp) hb) trivial
  · have hw := hl
    have hl := hl.live
    rw [hk_cons] at hl hl'
    by_cases e1 : L = l <;> by_cases e2 : L = l'
    · omega
    · rw [if_neg e2] at hl'
      subst e1
      rw [updE_same] at hb
      rw [updE_ne ρ _ (fun e => e2 e.symm)] at hb'
      have := g.lt hl' hb'
      cases hb
      omega
    · rw [if_neg e1] at hl
      subst e2
      rw [updE_same] at hb'
      rw [updE_ne ρ _ (fun e => e1 e.symm)] at hb
      have := g.lt hl hb
      cases hb'
      omega
    · rw [if_neg e1] at hl
      rw [if_neg e2] at hl'
      rw [updE_ne ρ _ (fun e => e1 e.symm)] at hb
      rw [updE_ne ρ _ (fun e => e2 e.symm)] at hb'
      refine g.dis l l' b ?_ hl' hb hb'
      obtain ⟨o1, h1, h2⟩ := hw
      rw [hk_cons, if_neg e1] at h1
      exact ⟨o1, h1, h2⟩
  · have hw := hl
    obtain ⟨o1, h1, h2⟩ := hl
    by_cases e1 : L = l
    · subst e1
      rw [updE_same] at hb
      cases hb
      exact .inl (Nat.le_refl _)
    · rw [hk_cons, if_neg e1] at h1
      rw [updE_ne ρ _ (fun e => e1 e.symm)] at hb
      exact .inr ⟨l, ⟨o1, h1, h2⟩, hb⟩
  · obtain rfl : l = L := by omega
    rw [updE_same] at hb
    cases hb
    exact hlt
end
section
variable {P : Program} {ops : Array Oper} {Q : Exit → Act → World → Prop} {D : Option DD} {E : Base} {n L : Nat} {τ : List (Nat × AV)} {h : List (Nat × AO)} {F : World → Prop} {rest : List Oper}
  {d : Nat} {op : Op} {ty : TypeId} {ps : String} {af : Array Edge} {gd : Option (Nat × Bool)} {tt : List (Nat × TI)}
/-- one of the chain that turns nothing -/
theorem R.act0 {op : Op} {σ : Type} (G : σ → Prop) (val : σ → AV) (hv : ∀ ρ a w, Gam E ρ n L τ h F a w → ∃ s, G s ∧ (val s).Low ρ L ∧ (execOp a.eval ⟨some d, op, ty, ps, af, gd⟩).run P w = .ok (.value ((val s).conc ρ)) w)
    (hg : wantA ops ⟨some d, op, ty, ps, af, gd⟩ τ = some true) (hb : (Nat.ble (d + 1) n && chainB h D []) = true) (k : ∀ s, G s → R P ops Q (actD h D []) E n L ((d, val s) :: τ) h F rest) : R P ops Q D E n L τ h F (⟨some d, op, ty, ps, af, gd⟩ :: rest) := by
  simp only [Bool.and_eq_true] at hb
  refine ⟨RL.acts G val (fun _ => L) (fun _ => h) (fun _ => F) [] hg hb.1 hb.2 (fun _ _ => Nat.le_refl L) (fun ρ a w g => ?_) (fun s hs => (k s hs).out)⟩
  obtain ⟨s, h1, h2, h3⟩ := hv ρ a w g
  unfold goes
  rw [h3]
  exact ⟨s, ρ, h1, rfl, h2, fun _ _ => rfl, g, fun _ _ _ _ _ => rfl⟩
/-- one of the chain that makes a block; what else there is of the world is not told -/
theorem R.newW {op : Op} {σ : Type} (G : σ → Prop) (ao : σ → AO) (val : σ → AV) (hval : ∀ s ρ, (val s).Low ρ (L + 1))
    (hv : ∀ ρ a w, Gam E ρ n L τ h F a w → ∃ s w', G s ∧ Ag (fun _ => True) w w' ∧ w.heap.size < w'.heap.size ∧ (∀ ρ', (∀ l, l < L → ρ' l = ρ l) → (ao s).Low ρ' (L + 1) ∧ (ao s).holds ρ' (some w.heap.size) w') ∧
      (execOp a.eval ⟨some d, op, ty, ps, af, gd⟩).run P w = .ok (.value ((val s).conc (updE ρ L (some w.heap.size)))) w')
    (hg : wantA ops ⟨some d, op, ty, ps, af, gd⟩ τ = some true) (hb : (Nat.ble (d + 1) n && chainB h D []) = true) (k : ∀ s, G s → R P ops Q (actD h D []) E n (L + 1) ((d, val s) :: τ) ((L, ao s) :: h) F rest) : R P ops Q D E n L τ h F (⟨some d, op, ty, ps, af, gd⟩ :: rest) := by
  simp only [Bool.and_eq_true] at hb
  refine ⟨RL.acts G val (fun _ => L + 1) (fun s => (L, ao s) :: h) (fun _ => F) [] hg hb.1 hb.2 (fun _ _ => Nat.le_succ L) (fun ρ a w g => ?_) (fun s hs => (k s hs).out)⟩
  obtain ⟨s, w', h1, h2, h3, h4, h5⟩ := hv ρ a w g
  unfold goes
  rw [h5]
  exact ⟨s, _, h1, rfl, hval _ _, fun l hl => updE_ne ρ _ (by omega), g.newW (ao s) h2 h3 h4, fun l b hl hb _ => (h2.block b (g.lt hl hb) trivial).symm⟩
/-- the bytes of a text -/
def strB (s : ByteArray) : List UInt8 := s.data.toList
theorem strB_size (s : ByteArray) : (strB s).length = s.size := by simp [strB]
/-- []byte(s) -/
theorem R.s2b (htt : TTok P tt) {t1 t2 e : TypeId} {x : Operand} {s : ByteArray} {i1 i2 ie : TI} (hx : evA τ x = some (.raw (.string s))) (h1 : lk t1 tt = some i1) (hk1 : i1.kind = .str) (h2 : lk t2 tt = some i2) (hk2 : i2.kind = .sl e) (he : lk e tt = some ie) (hke : ie.kind = .int .u8)
    (hg : wantA ops ⟨some d, .convert t1 t2 x, ty, ps, af, gd⟩ τ = some true) (hb : (Nat.ble (d + 1) n && chainB h D []) = true)
    (k : ∀ c, R P ops Q (actD h D []) E n (L + 1) ((d, .sl L 1 0 (strB s).length c) :: τ) ((L, .ro 1 0 (strB s).length (bytesF (strB s))) :: h) F rest) : R P ops Q D E n L τ h F (⟨some d, .convert t1 t2 x, ty, ps, af, gd⟩ :: rest) :=
  R.newW (σ := Nat) (fun _ => True) (fun _ => .ro 1 0 (strB s).length (bytesF (strB s))) (fun c => .sl L 1 0 (strB s).length c) (fun c ρ => sl_low ρ L _ _ _ _) (fun ρ a w g => by
    obtain ⟨d1, u1, v1⟩ := (htt _ _ h1).und
    obtain ⟨d2, u2, v2⟩ := (htt _ _ h2).und
    obtain ⟨d3, u3, v3⟩ := (htt _ _ he).und
    rw [hk2] at v2
    rw [hke] at v3
    simp only at v2 v3
    subst v2 v3
    refine ⟨grownCap w s.size 0 e, Lib.bytesWorld w e s, trivial, ⟨rfl, rfl, rfl, by rw [Lib.bytesWorld_size]; omega, fun b hb _ => Lib.bytesWorld_at_old w e s b hb⟩, by rw [Lib.bytesWorld_size]; omega, fun ρ' he => ⟨AO.Low.ro fun i hi x hx => ?_, .inr ⟨_, _, _, _, rfl, Lib.bytesWorld_at_new w e s, fun i c x hi hx => ?_⟩⟩, ?_⟩
    · simp only [bytesF, List.mem_singleton] at hx
      subst hx; exact AV.Low.raw _ _ _
    · have hc : c = 0 := by
        have := (List.getElem?_eq_some_iff.1 hx).1
        simp [bytesF] at this; exact this
      subst hc
      simp only [bytesF, List.getElem?_cons_zero, Option.some.injEq] at hx
      subst hx
      have := Lib.bytesWorld_cell w e s i (by rw [← strB_size]; exact hi)
      rw [cell_of_row _ _ _ _ _ _ (Lib.bytesWorld_at_new w e s)] at this
      rw [show (0 + i) * 1 + 0 = i by omega, this]
      rfl
    · have := Lib.run_convert_string_bytes (P := P) w t1 t2 e s u1 u2 u3
      simp only [execOp, (g.eval x _ hx).2, AV.conc, Sem.run_bind, this, Result.andThen_ok, Sem.run_pure, updE_same, Option.map_some, Nat.zero_mul, strB_size]) hg hb (fun c _ => k c)
/-- a text of these bytes -/
def strOf (p : List UInt8) : ByteArray := ⟨p.toArray⟩
theorem run_b2s {P : Program} {W : World} {v : Value} {m : Nat} {q : List UInt8} (hs : Src W v m (q.map byteV)) (hm : m = q.length) : (Conv.bytesToString v).run P W = .ok (.string (strOf q)) W := by
  rcases hs with ⟨a, c, rfl, hc⟩ | ⟨c, rfl, rfl, hq⟩
  · have hl : (loadCells a m).run P W = .ok ((q.map fun b => (b.toNat : Int)).map (Value.int .u8)).toArray W := by
      have := run_loadCells_list (P := P) W a (q.map byteV) (fun j u hj => hc j u hj)
      rw [List.length_map, ← hm] at this
      rw [this]
      simp [byteV, Function.comp_def]
    rw [run_bytesToString W a m c _ hl]
    congr 2
    have key : ∀ (l : List UInt8) (r : ByteArray), (l.map fun b => (b.toNat : Int)).foldl (fun r n => r.push (UInt8.ofNat n.toNat)) r = ⟨r.data ++ l.toArray⟩ := fun l => by
      induction l with
      | nil => intro r; simp
      | cons b l ih =>
        intro r
        simp only [List.map_cons, List.foldl_cons, ih, Int.toNat_natCast, UInt8.ofNat_toNat]
        congr 1
        simp [ByteArray.push]
    rw [key]
    simp [strOf]
  · have : q = [] := by simpa using hq
    subst this
    simp [Conv.bytesToString, strOf]
    rfl
/-- string(b) -/
theorem R.b2s (htt : TTok P tt) {t1 t2 e : TypeId} {x : Operand} {v : AV} {m : Nat} {news : List AV} {i1 i2 ie : TI} (q : List UInt8) (hx : evA τ x = some v) (hs : SrcA E n L τ h F v m news) (hq : news = avB q) (hm : m = q.length) (h1 : lk t1 tt = some i1) (hk1 : i1.kind = .sl e) (h2 : lk t2 tt = some i2) (hk2 : i2.kind = .str) (he : lk e tt = some ie) (hke : ie.kind = .int .u8)
    (hg : wantA ops ⟨some d, .convert t1 t2 x, ty, ps, af, gd⟩ τ = some true) (hb : (Nat.ble (d + 1) n && chainB h D []) = true)
    (k : R P ops Q (actD h D []) E n L ((d, .raw (.string (strOf q))) :: τ) h F rest) : R P ops Q D E n L τ h F (⟨some d, .convert t1 t2 x, ty, ps, af, gd⟩ :: rest) :=
  R.act0 (σ := Unit) (fun _ => True) (fun _ => .raw (.string (strOf q))) (fun ρ a w g => by
    obtain ⟨d1, u1, v1⟩ := (htt _ _ h1).und
    obtain ⟨d2, u2, v2⟩ := (htt _ _ h2).und
    obtain ⟨d3, u3, v3⟩ := (htt _ _ he).und
    rw [hk1] at v1
    rw [hk2] at v2
    rw [hke] at v3
    simp only at v1 v2 v3
    subst v1 v2 v3
    obtain ⟨_, hsrc⟩ := hs ρ a w g
    rw [hq, avB_concs] at hsrc
    have hrun := run_b2s (P := P) hsrc hm
    refine ⟨(), trivial, AV.Low.raw _ _ _, ?_⟩
    have hsl : ∃ ad c, v.conc ρ = .slice ad m c := by
      rcases hsrc with ⟨ad, c, h3, _⟩ | ⟨c, h3, h4, _⟩
      · exact ⟨_, _, h3⟩
      · exact ⟨_, _, by rw [h3, h4]⟩
    obtain ⟨ad, c, h3⟩ := hsl
    have := run_convert_bytes_string (P := P) w t1 t2 e ad m c u1 u3 u2
    rw [← h3, hrun] at this
    simp only [execOp, (g.eval x _ hx).2, AV.conc, Sem.run_bind, this, Result.andThen_ok, Sem.run_pure]) hg hb (fun _ _ => k)
theorem run_eql_none {P : Program} {w : World} {t e : TypeId} {x y : Operand} {m c : Nat} (hu : (underlying t).run P w = .ok (.slice e) w) : (do eqGuard .eql t x y (.slice none m c) (.slice none 0 0); binOp .eql t (.slice none m c) (.slice none 0 0) : Sem Value).run P w = .ok (.bool true) w := by
  have e1 : binOp .eql t (.slice none m c) (.slice none 0 0) = (do pure (.bool (← Op.equal t (.slice none m c) (.slice none 0 0)))) := rfl
  have e2 : (Op.equalIn (9999 + 1) t (.slice none m c) (.slice none 0 0)).run P w = .ok true w := by
    unfold Op.equalIn
    simp [hu]
  rw [e1]
  simp [eqGuard, Op.equal, Op.maxDepth, e2]
theorem run_eql_some {P : Program} {w : World} {t e : TypeId} {x y : Operand} {a : Addr} {m c : Nat} (hu : (underlying t).run P w = .ok (.slice e) w) : (do eqGuard .eql t x y (.slice (some a) m c) (.slice none 0 0); binOp .eql t (.slice (some a) m c) (.slice none 0 0) : Sem Value).run P w = .ok (.bool false) w := by
  have e1 : binOp .eql t (.slice (some a) m c) (.slice none 0 0) = (do pure (.bool (← Op.equal t (.slice (some a) m c) (.slice none 0 0)))) := rfl
  have e2 : (Op.equalIn (9999 + 1) t (.slice (some a) m c) (.slice none 0 0)).run P w = .ok false w := by
    unfold Op.equalIn
    simp [hu]
  rw [e1]
  simp [eqGuard, Op.equal, Op.maxDepth, e2]
/-- x == nil of a list -/
theorem R.nl (htt : TTok P tt) {t e u0 : TypeId} {x y : Operand} {l w0 off m cap : Nat} {ti : TI} (hx : evA τ x = some (.sl l w0 off m cap)) (hy : evA τ y = some (.raw (.slice none 0 0))) (ht : lk t tt = some ti) (hkd : ti.kind = .sl e)
    (hg : wantA ops ⟨some d, .binOp .eql t x y u0, ty, ps, af, gd⟩ τ = some true) (hb : (Nat.ble (d + 1) n && chainB h D []) = true)
    (k : ∀ b, (b = true → ∃ ρ a w, Gam E ρ n L τ h F a w ∧ ρ l = none) → R P ops Q (actD h D []) E n L ((d, .raw (.bool b)) :: τ) h F rest) : R P ops Q D E n L τ h F (⟨some d, .binOp .eql t x y u0, ty, ps, af, gd⟩ :: rest) :=
  R.act0 (σ := Bool) (fun b => b = true → ∃ ρ a w, Gam E ρ n L τ h F a w ∧ ρ l = none) (fun b => .raw (.bool b)) (fun ρ a w g => by
    have hu := und_sl (htt _ _ ht) hkd w
    refine ⟨(ρ l).isNone, fun hn => ⟨ρ, a, w, g, by simpa using hn⟩, AV.Low.raw _ _ _, ?_⟩
    simp only [execOp, (g.eval x _ hx).2, (g.eval y _ hy).2, AV.conc]
    cases hr : ρ l with
    | none => simp only [Option.map_none, run_eql_none hu, Sem.run_bind, Result.andThen_ok, Sem.run_pure, Option.isNone_none]
    | some b => simp only [Option.map_some, run_eql_some hu, Sem.run_bind, Result.andThen_ok, Sem.run_pure, Option.isNone_some]) hg hb (fun b hb => k b hb)
/-- make([]byte, m, c) -/
theorem R.mkb (htt : TTok P tt) {t e : TypeId} {x y : Operand} {k0 k1 : IntKind} {ti te : TI} (m c : Nat) {i j : Int} (hx : evA τ x = some (.raw (.int k0 i))) (hy : evA τ y = some (.raw (.int k1 j))) (ht : lk t tt = some ti) (hkd : ti.kind = .sl e) (hte : lk e tt = some te) (hok : te.size = 1 ∧ te.bytes = 1 ∧ te.zero = [byteV 0])
    (hg : wantA ops ⟨some d, .makeSlice t x y, ty, ps, af, gd⟩ τ = some true) (hb : (Nat.ble (d + 1) n && chainB h D []) = true) (hi : i = (m : Int)) (hj : j = (c : Int)) (hmc : m ≤ c) (hc : c ≤ 281474976710656)
    (k : R P ops Q (actD h D []) E n (L + 1) ((d, .sl L 1 0 m c) :: τ) ((L, .bytes (List.replicate m 0) c e) :: h) F rest) : R P ops Q D E n L τ h F (⟨some d, .makeSlice t x y, ty, ps, af, gd⟩ :: rest) :=
  R.newW (σ := Unit) (fun _ => True) (fun _ => .bytes (List.replicate m 0) c e) (fun _ => .sl L 1 0 m c) (fun _ ρ => sl_low ρ L _ _ _ _) (fun ρ a w g => by
    obtain ⟨d1, u1, v1⟩ := (htt _ _ ht).und
    rw [hkd] at v1
    simp only at v1
    subst v1 hi hj
    obtain ⟨inf, z, e1, e2, e3, e4, e5, _⟩ := (htt _ _ hte).info
    have hrun := run_make (P := P) w t e inf z u1 e1 e4 k0 k1 (m : Int) (c : Int) (by omega) (by omega) (by rw [e3, hok.2.1]; omega) (by omega)
    have hz : z.cells = #[byteV 0] := by apply Array.ext'; rw [e5, hok.2.2]
    have hcells : madeCells z.cells ((c : Int).toNat * inf.size) = Array.replicate c (byteV 0) := by
      rw [hz, e2, hok.1, Nat.mul_one, Int.toNat_natCast]
      apply Array.ext
      · simp [madeCells]
      · intro i h1 h2
        simp [madeCells, Nat.mod_one]
    rw [hcells] at hrun
    refine ⟨(), w.alloc (.cells (Array.replicate c (byteV 0)) e), trivial, ag_alloc _ w _, by simp, fun ρ' he => ⟨AO.Low.bytes _ _ _ _ _, by simpa using hmc, .inr ⟨_, _, rfl, heap_alloc_new w _, by simp, fun i hi => ?_⟩⟩, ?_⟩
    · simp only [List.length_replicate] at hi
      have : i < c := by omega
      simp [this]
    · simp only [execOp, (g.eval x _ hx).2, (g.eval y _ hy).2, AV.conc, Sem.run_bind, hrun, Result.andThen_ok, Sem.run_pure, updE_same, Option.map_some, Nat.zero_mul, Int.toNat_natCast]) hg hb (fun _ _ => k)
end
end Go.Proofs.Yteabncomclgncaa
