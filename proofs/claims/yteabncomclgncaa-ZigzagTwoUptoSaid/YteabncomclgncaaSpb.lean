/- Texts of the claim, merged: only what the theorem needs. -/
import Derived.Test.YteabncomclgncaaSpa
import Derived.Laws.MakeOwn
import Derived.Lib.ConvBytes
import Derived.Laws.BytesString
import Derived.ScopeJumps
import Derived.Laws.StructEq
import Derived.ChangeKeysEq
import Derived.Laws.CopyRow
import Derived.Lib.Overlaps
import Derived.Lib.AppendZerosOnto
import Derived.RangeFuncRecord
import Derived.RangeFuncSeq
import Derived.RangeFuncOwn
import Derived.TacticsIn
import Derived.WalkKit
import Derived.Lib.Bytealg
namespace Go.Proofs.Yteabncomclgncaa
set_option linter.unusedVariables false
set_option linter.unusedSimpArgs false
set_option linter.unusedSectionVars false
open Go.RowKit
section
variable {P : Program} {ops : Array Oper} {Q : Exit → Act → World → Prop} {D : Option DD} {E : Base} {n L : Nat} {τ : List (Nat × AV)} {h : List (Nat × AO)} {F : World → Prop} {rest : List Oper}
  {d : Nat} {op : Op} {ty : TypeId} {ps : String} {af : Array Edge} {gd : Option (Nat × Bool)} {tt : List (Nat × TI)}
/-- a list written out -/
theorem R.li (htt : TTok P tt) {t e len : Nat} {parts : Array (Nat × Operand)} {ti te : TI} {l : List (Nat × AV)} {xs : List AV} (ht : lk t tt = some ti) (hkd : ti.kind = .sl e) (hte : lk e tt = some te)
    (hl : evParts (evA τ) parts.toList = some l) (hx : fillA (fun i => some (i * te.size, te.size)) ((List.replicate len (te.zero.map .raw)).flatten) l = some xs)
    (hg : wantA ops ⟨some d, .buildSlice t len parts, ty, ps, af, gd⟩ τ = some true) (hb : (Nat.ble (d + 1) n && chainB h D [] && Nat.beq te.zero.length te.size && Nat.ble (len * te.size) 16777216) = true)
    (k : R P ops Q (actD h D []) E n (L + 1) ((d, .sl L te.size 0 len len) :: τ) ((L, .cells xs e) :: h) F rest) : R P ops Q D E n L τ h F (⟨some d, .buildSlice t len parts, ty, ps, af, gd⟩ :: rest) := by
  simp only [Bool.and_eq_true] at hb
  obtain ⟨⟨⟨h1, h2⟩, h3⟩, h4⟩ := hb
  exact ⟨RL.lit htt t e len parts ti te l xs rfl ht hkd hte hl hx (Nat.eq_of_beq_eq_true h3) h4 hg h1 h2 k.out⟩
/-- a bound of a slice expression -/
def boundA (τ : List (Nat × AV)) (o : Option Operand) (dflt r : Nat) : Prop := match o with
  | none => r = dflt
  | some y => ∃ k j, evA τ y = some (.raw (.int k j)) ∧ j = (r : Int)
theorem run_bound {P : Program} {W : World} {k : IntKind} {r y : Nat} {c : BoundsCode} (hr : r ≤ y) : (Instr.sliceBound (.int k (r : Int)) y c).run P W = .ok r W := by
  have h1 : (0 : Int) ≤ (r : Int) ∧ (r : Int) ≤ (y : Int) := by omega
  simp only [Instr.sliceBound, asIntOf, Sem.run_bind, Sem.run_pure, Result.andThen_ok]
  rw [if_pos h1]
  simp
theorem run_bounds {P : Program} {W : World} {ρ : Env} {a : Act} {w : World} (g : Gam E ρ n L τ h F a w) {b : Bool} {m cap : Nat} {lo hi : Option Operand} {l0 h1 : Nat} (hlo : boundA τ lo 0 l0) (hhi : boundA τ hi m h1) (hlh : l0 ≤ h1) (hc : h1 ≤ cap) :
    (Instr.sliceBounds b m cap (lo.map a.eval) (hi.map a.eval) none).run P W = .ok (l0, h1, cap) W := by
  cases lo with
  | none =>
    simp only [boundA] at hlo
    subst hlo
    cases hi with
    | none => simp only [boundA] at hhi; subst hhi; simp [Instr.sliceBounds]
    | some y =>
      obtain ⟨k, j, e, rfl⟩ := hhi
      have := (g.eval y _ e).2
      simp [Instr.sliceBounds, this, AV.conc, run_bound hc]
  | some x =>
    obtain ⟨k, j, e, rfl⟩ := hlo
    have hx := (g.eval x _ e).2
    cases hi with
    | none => simp only [boundA] at hhi; subst hhi; simp [Instr.sliceBounds, hx, AV.conc, run_bound hlh]
    | some y =>
      obtain ⟨k, j, e, rfl⟩ := hhi
      have := (g.eval y _ e).2
      simp [Instr.sliceBounds, this, hx, AV.conc, run_bound hc, run_bound hlh]
theorem run_sliceAt_sl {t e : TypeId} {ti te : TI} (hti : TIok P t ti) (hk : ti.kind = .sl e) (hte : TIok P e te) {W : World} {a : Option Addr} {m cap : Nat} {lo hi : Option Value} {l0 h1 : Nat} (hb : (Instr.sliceBounds true m cap lo hi none).run P W = .ok (l0, h1, cap) W) :
    (Instr.sliceAt t (.slice a m cap) lo hi none).run P W = .ok (.slice (if cap = l0 then a else a.map (·.add (l0 * te.size))) (h1 - l0) (cap - l0)) W := by
  have hu := und_sl hti hk W
  have he := hte.run_size W
  simp only [Instr.sliceAt, Instr.slice, Sem.run_bind, hu, Result.andThen_ok, hb, he, Sem.run_pure]
/-- x[lo:hi] -/
theorem R.sl (htt : TTok P tt) {t e : TypeId} {x : Operand} {lo hi : Option Operand} {l w0 off m cap : Nat} {ti te : TI} (l0 h1 : Nat) (hx : evA τ x = some (.sl l w0 off m cap)) (ht : lk t tt = some ti) (hkd : ti.kind = .sl e) (hte : lk e tt = some te) (hsz : te.size = w0)
    (hg : wantA ops ⟨some d, .slice t x lo hi none, ty, ps, af, gd⟩ τ = some true) (hb : (Nat.ble (d + 1) n && lookB D [] && Nat.ble (l + 1) L) = true) (hlo : boundA τ lo 0 l0) (hhi : boundA τ hi m h1) (hlh : l0 ≤ h1) (hc : h1 ≤ cap)
    (k : ∀ o', (o' = off + l0 ∨ (h1 = l0 ∧ o' = off ∧ cap = l0)) → R P ops Q (lookD D []) E n L ((d, .sl l w0 o' (h1 - l0) (cap - l0)) :: τ) h F rest) : R P ops Q D E n L τ h F (⟨some d, .slice t x lo hi none, ty, ps, af, gd⟩ :: rest) := by
  simp only [Bool.and_eq_true] at hb
  refine R.pure (.sl l w0 (if cap = l0 then off else off + l0) (h1 - l0) (cap - l0)) (fun ρ a w g => ⟨fun ρ' he => ?_, fun W => ?_⟩) hg (by simp [hb.1]) (k _ ?_)
  · have : l + 1 ≤ L := by simpa [Nat.ble_eq] using hb.2
    simp [AV.conc, he l (by omega)]
  · have hbd := run_bounds (P := P) (W := W) (b := true) g hlo hhi hlh hc
    simp only [execOp, (g.eval x _ hx).2, AV.conc, Option.map_none]
    rw [Sem.run_bind, run_sliceAt_sl (htt _ _ ht) hkd (htt _ _ hte) hbd, hsz]
    by_cases e : cap = l0
    · simp [e]
    · simp only [e, if_false]
      cases ρ l <;> simp [Addr.add, Nat.add_mul]
  · by_cases e : cap = l0
    · exact .inr ⟨by omega, by rw [if_pos e], e⟩
    · exact .inl (by rw [if_neg e])
/-- a store into a list: its cells are laid over -/
theorem R.sto (htt : TTok P tt) {t T : TypeId} {x y : Operand} {l w0 i c : Nat} {v : AV} {ti : TI} {o o' : AO} (ys : List AV) (hx : evA τ x = some (.ptr l w0 i c)) (hy : evA τ y = some v) (ht : lk t tt = some ti) (hc : v.cellsA = some ys)
    (hl : hk l h = some o) (hro : o.isRo = false) (hro' : o'.isRo = false) (hg : wantA ops ⟨none, .store t x y, ty, ps, af, gd⟩ τ = some true) (hb : (Nat.beq ys.length ti.size && ys.all AV.oneB && chainB h D [l]) = true)
    (hst : ∀ ρ r w, LowS ρ L ys → o.Low ρ L → o.holds ρ r w → ∃ b cur T, r = some b ∧ w.heap[b]? = some (.cells cur T (0, 0)) ∧ i * w0 + c + ys.length ≤ cur.size ∧ o'.Low ρ L ∧
      ∀ w', w'.heap[b]? = some (.cells (cur.toList.take (i * w0 + c) ++ AV.concs ρ ys ++ cur.toList.drop (i * w0 + c + ys.length)).toArray T (0, 0)) → o'.holds ρ (some b) w')
    (k : R P ops Q (actD h D [l]) E n L τ ((l, o') :: h) F rest) : R P ops Q D E n L τ h F (⟨none, .store t x y, ty, ps, af, gd⟩ :: rest) := by
  simp only [Bool.and_eq_true] at hb
  obtain ⟨⟨hlen, hone⟩, hk1⟩ := hb
  have hlen := Nat.eq_of_beq_eq_true hlen
  refine ⟨RL.acts (σ := Unit) (fun _ => True) (fun _ => .raw undef) (fun _ => L) (fun _ => (l, o') :: h) (fun _ => F) [l] hg rfl hk1 (fun _ _ => Nat.le_refl L) (fun ρ a w g => ?_) (fun _ _ => k.out)⟩
  obtain ⟨h1, h2⟩ := g.eval x _ hx
  obtain ⟨h3, h4⟩ := g.eval y _ hy
  have hh := g.hp l _ hl
  obtain ⟨b, cur, T, hr, hbk, hfit, hlow', hafter⟩ := hst ρ (ρ l) w (lowS_cells h3 hc) hh.2.1 hh.2.2
  have hcell : (v.conc ρ).cells = (AV.concs ρ ys).toArray := by rw [← cellsA_conc hc ρ]
  have hstc := run_storeCells_at (P := P) b (i * w0 + c) T (AV.concs ρ ys) 0 cur w hbk (by rw [concs_length]; simp; omega) (fun u hu => by
    rw [concs_map] at hu
    obtain ⟨y', hy', rfl⟩ := List.mem_map.1 hu
    exact oneB_conc (List.all_eq_true.1 hone y' hy') ρ)
  simp only [Nat.add_zero] at hstc
  have e2 := (htt _ _ ht).run_size w
  unfold goes execOp
  simp only [h2, h4, AV.conc, hr, Option.getD_some, Instr.storeAt, Instr.sureAddr, storeVar, Sem.run_bind, Sem.run_pure, Result.andThen_ok, hcell, e2, List.size_toArray, concs_length, hlen, ne_eq, not_true_eq_false, if_false, Sem.run_ite, hstc]
  refine ⟨(), ρ, trivial, rfl, AV.Low.raw _ _ _, fun _ _ => rfl, g.set hl hro hr hlow' (hafter _ ?_) (fun b' hb' => setRow_other _ _ _ _ hb') (by simp) ⟨rfl, rfl, rfl⟩, fun l' b' hl' hb' hn => ?_⟩
  · rw [setRow_heap _ _ _ _ _ _ hbk, hlen]
  · by_cases e : b' = b
    · subst e
      exact absurd (g.dis l l' b' ⟨_, hl, hro⟩ hl' hr hb') (fun e => hn (by simp [e]))
    · exact (setRow_other _ _ _ _ e).symm
/-- an element, or a part of one, into a list -/
def updF (f : Nat → List AV) (i : Nat) (xs : List AV) (j : Nat) : List AV := if j = i then xs else f j
theorem ao_tab_low {ρ : Env} {wd n0 cap : Nat} {f : Nat → List AV} {T : TypeId} {r : Option Nat} {w : World} (hlow : (AO.tab wd n0 cap f T).Low ρ L) (hh : (AO.tab wd n0 cap f T).holds ρ r w) {i : Nat} (hi : i < n0) : LowS ρ L (f i) := fun x hx ρ' he => by
  obtain ⟨b, cur, hr, hbk, hlen, hsz, hcur⟩ := tab_cell hh hi
  have h2 := (hlow ρ' he _ _).1 hh
  obtain ⟨b', cur', hr', hbk', _, _, hcur'⟩ := tab_cell h2 hi
  rw [hr] at hr'
  cases hr'
  rw [hbk] at hbk'
  simp only [Option.some.injEq, Obj.cells.injEq, and_true] at hbk'
  subst hbk'
  obtain ⟨c, hc⟩ := List.getElem?_of_mem hx
  have h3 := hcur c x hc
  have h4 := hcur' c x hc
  rw [h3] at h4
  exact (Option.some.inj h4).symm
theorem R.stt (htt : TTok P tt) {t T : TypeId} {x y : Operand} {l wd i c n0 cap : Nat} {v : AV} {f : Nat → List AV} {ys zs : List AV} {ti : TI} (hx : evA τ x = some (.ptr l wd i c)) (hy : evA τ y = some v) (ht : lk t tt = some ti) (hc : v.cellsA = some ys)
    (hl : hk l h = some (.tab wd n0 cap f T)) (hz : spl1 (f i) c ys = zs) (hg : wantA ops ⟨none, .store t x y, ty, ps, af, gd⟩ τ = some true) (hb : (Nat.beq ys.length ti.size && ys.all AV.oneB && chainB h D [l]) = true) (hi : i < n0) (hfit : c + ys.length ≤ wd)
    (k : R P ops Q (actD h D [l]) E n L τ ((l, .tab wd n0 cap (updF f i zs) T) :: h) F rest) : R P ops Q D E n L τ h F (⟨none, .store t x y, ty, ps, af, gd⟩ :: rest) := by
  subst hz
  refine R.sto (T := T) htt ys hx hy ht hc hl rfl rfl hg hb (fun ρ r w hyl hol hh => ?_) k
  obtain ⟨bk, cur, hr, hbk, hlen, hsz, hcur⟩ := tab_cell hh hi
  have hfl : c + ys.length ≤ (f i).length := by rw [hlen]; exact hfit
  rw [spl1_eq _ _ _ hfl]
  have hcs : cur.size = cap * wd := by
    rcases hh.2.2 with ⟨_, hc⟩ | ⟨b', cur', hr', hb', hs', _⟩
    · have := hh.1; omega
    · rw [hr] at hr'; cases hr'; rw [hbk] at hb'
      simp only [Option.some.injEq, Obj.cells.injEq, and_true] at hb'
      rw [hb']; exact hs'
  have hall : ∀ j k0 z, j < n0 → (f j)[k0]? = some z → cur[j * wd + k0]? = some (z.conc ρ) := by
    rcases hh.2.2 with ⟨_, hc⟩ | ⟨b', cur', hr', hb', hs', hc'⟩
    · have := hh.1; omega
    · rw [hr] at hr'; cases hr'; rw [hbk] at hb'
      simp only [Option.some.injEq, Obj.cells.injEq, and_true] at hb'
      subst hb'; exact hc'
  refine ⟨bk, cur, T, hr, hbk, by omega, AO.Low.tab T fun j hj z hz => ?_, fun w' hw' => ⟨hh.1, fun j hj => ?_, .inr ⟨bk, _, rfl, hw', ?_, fun j k0 z hj hz => ?_⟩⟩⟩
  · by_cases e : j = i
    · subst e
      simp only [updF, if_true, spl, List.mem_append] at hz
      have hfz : LowS ρ L (f j) := ao_tab_low hol hh hj
      rcases hz with (hz | hz) | hz
      · exact hfz z (List.mem_of_mem_take hz)
      · exact hyl z hz
      · exact hfz z (List.mem_of_mem_drop hz)
    · simp only [updF, e, if_false] at hz
      exact ao_tab_low hol hh hj z hz
  · by_cases e : j = i
    · subst e
      simp only [updF, if_true, spl, List.length_append, List.length_take, List.length_drop]
      omega
    · simp only [updF, e, if_false]; exact hh.2.1 j hj
  · simp [concs_length]; omega
  · simp only [List.getElem?_toArray]
    rw [List.append_assoc]
    have hlt : (cur.toList.take (i * wd + c)).length = i * wd + c := by simp; omega
    have hk0 : k0 < wd := by
      have := (List.getElem?_eq_some_iff.1 hz).1
      by_cases e : j = i
      · subst e
        simp only [updF, if_true, spl, List.length_append, List.length_take, List.length_drop] at this
        omega
      · simp only [updF, e, if_false] at this
        rw [hh.2.1 j hj] at this; exact this
    by_cases e : j = i
    · subst e
      simp only [updF, if_true] at hz
      unfold spl at hz
      rw [List.append_assoc] at hz
      by_cases h1 : k0 < c
      · rw [List.getElem?_append_left (by simp; omega), List.getElem?_take, if_pos h1] at hz
        rw [List.getElem?_append_left (by omega), List.getElem?_take, if_pos (by omega), Array.getElem?_toList]
        exact hall j k0 z hj hz
      · rw [List.getElem?_append_right (by simp; omega)] at hz
        rw [List.getElem?_append_right (by omega), hlt]
        have e1 : (List.take c (f j)).length = c := by simp; omega
        rw [e1] at hz
        rw [show j * wd + k0 - (j * wd + c) = k0 - c by omega]
        by_cases h2 : k0 - c < ys.length
        · rw [List.getElem?_append_left h2] at hz
          rw [List.getElem?_append_left (by rw [concs_length]; exact h2)]
          exact concs_get hz
        · rw [List.getElem?_append_right (by omega), List.getElem?_drop] at hz
          rw [List.getElem?_append_right (by rw [concs_length]; omega), concs_length, List.getElem?_drop, Array.getElem?_toList]
          rw [show c + ys.length + (k0 - c - ys.length) = k0 by omega] at hz
          rw [show j * wd + c + ys.length + (k0 - c - ys.length) = j * wd + k0 by omega]
          exact hall j k0 z hj hz
    · simp only [updF, e, if_false] at hz
      have h3 := hall j k0 z hj hz
      rcases Nat.lt_or_ge j i with h1 | h1
      · have := Nat.mul_le_mul_right wd (show j + 1 ≤ i by omega)
        rw [Nat.add_mul, Nat.one_mul] at this
        rw [List.getElem?_append_left (by omega), List.getElem?_take, if_pos (by omega), Array.getElem?_toList]
        exact h3
      · have := Nat.mul_le_mul_right wd (show i + 1 ≤ j by omega)
        rw [Nat.add_mul, Nat.one_mul] at this
        rw [List.getElem?_append_right (by omega), hlt, List.getElem?_append_right (by rw [concs_length]; omega), concs_length, List.getElem?_drop, Array.getElem?_toList]
        rw [show i * wd + c + ys.length + (j * wd + k0 - (i * wd + c) - ys.length) = j * wd + k0 by omega]
        exact h3
end
end Go.Proofs.Yteabncomclgncaa
namespace Go.Proofs.Yteabncomclgncaa
set_option linter.unusedVariables false
set_option linter.unusedSimpArgs false
set_option linter.unusedSectionVars false
open Go.RowKit
section
variable {E : Base} {ρ : Env} {n L : Nat} {τ : List (Nat × AV)} {h : List (Nat × AO)} {F : World → Prop} {a : Act} {w : World}
/-- a new block, at the label L; what else there is of the world is not told -/
theorem Gam.newW (g : Gam E ρ n L τ h F a w) (o : AO) {w' : World} (hag : Ag (fun _ => True) w w') (hlt : w.heap.size < w'.heap.size) (ho : ∀ ρ', (∀ l, l < L → ρ' l = ρ l) → o.Low ρ' (L + 1) ∧ o.holds ρ' (some w.heap.size) w') :
    Gam E (updE ρ L (some w.heap.size)) n (L + 1) τ ((L, o) :: h) F a w' := by
  have hs : ∀ l, l < L → updE ρ L (some w.heap.size) l = ρ l := fun l hl => updE_ne ρ _ (by omega)
  refine g.turn hs (Nat.le_succ L) (hag.mono fun _ _ _ => trivial) (fun l o' hl => ?_) (fun l l' b hl hl' hb hb' => ?_) (fun l b hl hb => ?_) (fun l b h1 h2 hb => ?_)
  · rw [hk_cons] at hl
    split at hl
    · rename_i e
      subst e
      rw [updE_same]
      have e2 : o' = o := by cases o <;> simp at hl <;> exact hl.symm
      subst e2
      exact ⟨by omega, ho _ hs⟩
    · rename_i e
      have hh := g.hp l o' hl
      refine ⟨by omega, (hh.2.1.ext hs).mono (Nat.le_succ L), ?_⟩
      rw [hs l hh.1]
      refine holds_same ((hh.2.1 _ hs _ _).1 hh.2.2) fun b hb => hag.block b (g.lt (by rw [hl]; simp) hb) trivial
  · have hw := hl
    have hl := hl.live
    rw [hk_cons] at hl hl'
    by_cases e1 : L = l <;> by_cases e2 : L = l'
    · omega
    · rw [if_neg e2] at hl'
      subst e1
      rw [updE_same] at hb
      rw [updE_ne ρ _ (fun e => e2 e.symm)] at hb'
      have := g.lt hl' hb'
      cases hb
      omega
    · rw [if_neg e1] at hl
      subst e2
      rw [updE_same] at hb'
      rw [updE_ne ρ _ (fun e => e1 e.symm)] at hb
      have := g.lt hl hb
      cases hb'
      omega
    · rw [if_neg e1] at hl
      rw [if_neg e2] at hl'
      rw [updE_ne ρ _ (fun e => e1 e.symm)] at hb
      rw [updE_ne ρ _ (fun e => e2 e.symm)] at hb'
      refine g.dis l l' b ?_ hl' hb hb'
      obtain ⟨o1, h1, h2⟩ := hw
      rw [hk_cons, if_neg e1] at h1
      exact ⟨o1, h1, h2⟩
  · have hw := hl
    obtain ⟨o1, h1, h2⟩ := hl
    by_cases e1 : L = l
    · subst e1
      rw [updE_same] at hb
      cases hb
      exact .inl (Nat.le_refl _)
    · rw [hk_cons, if_neg e1] at h1
      rw [updE_ne ρ _ (fun e => e1 e.symm)] at hb
      exact .inr ⟨l, ⟨o1, h1, h2⟩, hb⟩
  · obtain rfl : l = L := by omega
    rw [updE_same] at hb
    cases hb
    exact hlt
end
section
variable {P : Program} {ops : Array Oper} {Q : Exit → Act → World → Prop} {D : Option DD} {E : Base} {n L : Nat} {τ : List (Nat × AV)} {h : List (Nat × AO)} {F : World → Prop} {rest : List Oper}
  {d : Nat} {op : Op} {ty : TypeId} {ps : String} {af : Array Edge} {gd : Option (Nat × Bool)} {tt : List (Nat × TI)}
/-- one of the chain that turns nothing -/
theorem R.act0 {op : Op} {σ : Type} (G : σ → Prop) (val : σ → AV) (hv : ∀ ρ a w, Gam E ρ n L τ h F a w → ∃ s, G s ∧ (val s).Low ρ L ∧ (execOp a.eval ⟨some d, op, ty, ps, af, gd⟩).run P w = .ok (.value ((val s).conc ρ)) w)
    (hg : wantA ops ⟨some d, op, ty, ps, af, gd⟩ τ = some true) (hb : (Nat.ble (d + 1) n && chainB h D []) = true) (k : ∀ s, G s → R P ops Q (actD h D []) E n L ((d, val s) :: τ) h F rest) : R P ops Q D E n L τ h F (⟨some d, op, ty, ps, af, gd⟩ :: rest) := by
  simp only [Bool.and_eq_true] at hb
  refine ⟨RL.acts G val (fun _ => L) (fun _ => h) (fun _ => F) [] hg hb.1 hb.2 (fun _ _ => Nat.le_refl L) (fun ρ a w g => ?_) (fun s hs => (k s hs).out)⟩
  obtain ⟨s, h1, h2, h3⟩ := hv ρ a w g
  unfold goes
  rw [h3]
  exact ⟨s, ρ, h1, rfl, h2, fun _ _ => rfl, g, fun _ _ _ _ _ => rfl⟩
/-- one of the chain that makes a block; what else there is of the world is not told -/
theorem R.newW {op : Op} {σ : Type} (G : σ → Prop) (ao : σ → AO) (val : σ → AV) (hval : ∀ s ρ, (val s).Low ρ (L + 1))
    (hv : ∀ ρ a w, Gam E ρ n L τ h F a w → ∃ s w', G s ∧ Ag (fun _ => True) w w' ∧ w.heap.size < w'.heap.size ∧ (∀ ρ', (∀ l, l < L → ρ' l = ρ l) → (ao s).Low ρ' (L + 1) ∧ (ao s).holds ρ' (some w.heap.size) w') ∧
      (execOp a.eval ⟨some d, op, ty, ps, af, gd⟩).run P w = .ok (.value ((val s).conc (updE ρ L (some w.heap.size)))) w')
    (hg : wantA ops ⟨some d, op, ty, ps, af, gd⟩ τ = some true) (hb : (Nat.ble (d + 1) n && chainB h D []) = true) (k : ∀ s, G s → R P ops Q (actD h D []) E n (L + 1) ((d, val s) :: τ) ((L, ao s) :: h) F rest) : R P ops Q D E n L τ h F (⟨some d, op, ty, ps, af, gd⟩ :: rest) := by
  simp only [Bool.and_eq_true] at hb
  refine ⟨RL.acts G val (fun _ => L + 1) (fun s => (L, ao s) :: h) (fun _ => F) [] hg hb.1 hb.2 (fun _ _ => Nat.le_succ L) (fun ρ a w g => ?_) (fun s hs => (k s hs).out)⟩
  obtain ⟨s, w', h1, h2, h3, h4, h5⟩ := hv ρ a w g
  unfold goes
  rw [h5]
  exact ⟨s, _, h1, rfl, hval _ _, fun l hl => updE_ne ρ _ (by omega), g.newW (ao s) h2 h3 h4, fun l b hl hb _ => (h2.block b (g.lt hl hb) trivial).symm⟩
theorem run_eql_none {P : Program} {w : World} {t e : TypeId} {x y : Operand} {m c : Nat} (hu : (underlying t).run P w = .ok (.slice e) w) : (do eqGuard .eql t x y (.slice none m c) (.slice none 0 0); binOp .eql t (.slice none m c) (.slice none 0 0) : Sem Value).run P w = .ok (.bool true) w := by
  have e1 : binOp .eql t (.slice none m c) (.slice none 0 0) = (do pure (.bool (← Op.equal t (.slice none m c) (.slice none 0 0)))) := rfl
  have e2 : (Op.equalIn (9999 + 1) t (.slice none m c) (.slice none 0 0)).run P w = .ok true w := by
    unfold Op.equalIn
    simp [hu]
  rw [e1]
  simp [eqGuard, Op.equal, Op.maxDepth, e2]
theorem run_eql_some {P : Program} {w : World} {t e : TypeId} {x y : Operand} {a : Addr} {m c : Nat} (hu : (underlying t).run P w = .ok (.slice e) w) : (do eqGuard .eql t x y (.slice (some a) m c) (.slice none 0 0); binOp .eql t (.slice (some a) m c) (.slice none 0 0) : Sem Value).run P w = .ok (.bool false) w := by
  have e1 : binOp .eql t (.slice (some a) m c) (.slice none 0 0) = (do pure (.bool (← Op.equal t (.slice (some a) m c) (.slice none 0 0)))) := rfl
  have e2 : (Op.equalIn (9999 + 1) t (.slice (some a) m c) (.slice none 0 0)).run P w = .ok false w := by
    unfold Op.equalIn
    simp [hu]
  rw [e1]
  simp [eqGuard, Op.equal, Op.maxDepth, e2]
/-- x == nil of a list -/
theorem R.nl (htt : TTok P tt) {t e u0 : TypeId} {x y : Operand} {l w0 off m cap : Nat} {ti : TI} (hx : evA τ x = some (.sl l w0 off m cap)) (hy : evA τ y = some (.raw (.slice none 0 0))) (ht : lk t tt = some ti) (hkd : ti.kind = .sl e)
    (hg : wantA ops ⟨some d, .binOp .eql t x y u0, ty, ps, af, gd⟩ τ = some true) (hb : (Nat.ble (d + 1) n && chainB h D []) = true)
    (k : ∀ b, (b = true → ∃ ρ a w, Gam E ρ n L τ h F a w ∧ ρ l = none) → R P ops Q (actD h D []) E n L ((d, .raw (.bool b)) :: τ) h F rest) : R P ops Q D E n L τ h F (⟨some d, .binOp .eql t x y u0, ty, ps, af, gd⟩ :: rest) :=
  R.act0 (σ := Bool) (fun b => b = true → ∃ ρ a w, Gam E ρ n L τ h F a w ∧ ρ l = none) (fun b => .raw (.bool b)) (fun ρ a w g => by
    have hu := und_sl (htt _ _ ht) hkd w
    refine ⟨(ρ l).isNone, fun hn => ⟨ρ, a, w, g, by simpa using hn⟩, AV.Low.raw _ _ _, ?_⟩
    simp only [execOp, (g.eval x _ hx).2, (g.eval y _ hy).2, AV.conc]
    cases hr : ρ l with
    | none => simp only [Option.map_none, run_eql_none hu, Sem.run_bind, Result.andThen_ok, Sem.run_pure, Option.isNone_none]
    | some b => simp only [Option.map_some, run_eql_some hu, Sem.run_bind, Result.andThen_ok, Sem.run_pure, Option.isNone_some]) hg hb (fun b hb => k b hb)
end
end Go.Proofs.Yteabncomclgncaa
namespace Go.Proofs.Yteabncomclgncaa
set_option linter.unusedVariables false
set_option linter.unusedSimpArgs false
set_option linter.unusedSectionVars false
open Go.RowKit
/-- bytes, as a list that is only read -/
theorem bytes_ro {ρ : Env} {r : Option Nat} {w : World} {p : List UInt8} {cap : Nat} {T : TypeId} (h : (AO.bytes p cap T).holds ρ r w) : (AO.ro 1 0 p.length (bytesF p)).holds ρ r w := by
  rcases h.2 with ⟨h1, h2⟩ | ⟨b, cur, hr, hb, hs, hc⟩
  · exact .inl ⟨h1, by have := h.1; omega⟩
  · refine .inr ⟨b, cur, T, (0, 0), hr, hb, fun i c x hi hx => ?_⟩
    have h0 : c = 0 := by
      have := (List.getElem?_eq_some_iff.1 hx).1
      simp [bytesF] at this; exact this
    subst h0
    simp only [bytesF, List.getElem?_cons_zero, Option.some.injEq] at hx
    subst hx
    have := hc i hi
    rw [show (0 + i) * 1 + 0 = i by omega, this]
    simp [AV.conc, hi]
theorem cells_ro {ρ : Env} {r : Option Nat} {w : World} {p : List UInt8} {T : TypeId} {xs : List AV} (hx : xs = avB p) (h : (AO.cells xs T).holds ρ r w) : (AO.ro 1 0 p.length (bytesF p)).holds ρ r w := by
  obtain ⟨b, hr, hb⟩ := h
  subst hx
  rw [avB_concs] at hb
  refine .inr ⟨b, _, T, (0, 0), hr, hb, fun i c x hi hx => ?_⟩
  have h0 : c = 0 := by
    have := (List.getElem?_eq_some_iff.1 hx).1
    simp [bytesF] at this; exact this
  subst h0
  simp only [bytesF, List.getElem?_cons_zero, Option.some.injEq] at hx
  subst hx
  rw [show (0 + i) * 1 + 0 = i by omega]
  simp [AV.conc, hi]
theorem bytesF_ren (r : Nat → Nat) (p : List UInt8) : (fun i => AV.rens r (bytesF p i)) = bytesF p := by funext i; rfl
theorem HasIn.bro {r : Nat → Nat} {h : List (Nat × AO)} {i : Nat} {p : List UInt8} {cap : Nat} {T : TypeId} {os : List AO} (h1 : hk (r i) h = some (.bytes p cap T)) (k : HasIn r h (i + 1) os) : HasIn r h i (.ro 1 0 p.length (bytesF p) :: os) :=
  .other h1 (fun e => by cases e) (fun ρ x w hh => by simp only [AO.ren, bytesF_ren]; exact bytes_ro hh) k
theorem HasIn.cro {r : Nat → Nat} {h : List (Nat × AO)} {i : Nat} {p : List UInt8} {xs : List AV} {T : TypeId} {os : List AO} (h1 : hk (r i) h = some (.cells xs T)) (hx : xs = avB p) (k : HasIn r h (i + 1) os) : HasIn r h i (.ro 1 0 p.length (bytesF p) :: os) :=
  .other h1 (fun e => by cases e) (fun ρ x w hh => by simp only [AO.ren, bytesF_ren]; exact cells_ro hx hh) k
theorem HasIn.ror {r : Nat → Nat} {h : List (Nat × AO)} {i : Nat} {p : List UInt8} {os : List AO} (h1 : hk (r i) h = some (.ro 1 0 p.length (bytesF p))) (k : HasIn r h (i + 1) os) : HasIn r h i (.ro 1 0 p.length (bytesF p) :: os) :=
  .other h1 (fun e => by cases e) (fun ρ x w hh => by simp only [AO.ren, bytesF_ren]; exact hh) k
theorem get3 {α : Type} (A B C : List α) (i : Nat) : (A ++ B ++ C)[i]? = if i < A.length then A[i]? else if i - A.length < B.length then B[i - A.length]? else C[i - A.length - B.length]? := by
  rw [List.append_assoc, List.getElem?_append, List.getElem?_append]
section
variable {P : Program} {ops : Array Oper} {Q : Exit → Act → World → Prop} {D : Option DD} {E : Base} {n L : Nat} {τ : List (Nat × AV)} {h : List (Nat × AO)} {F : World → Prop} {rest : List Oper}
  {d : Nat} {op : Op} {ty : TypeId} {ps : String} {af : Array Edge} {gd : Option (Nat × Bool)} {tt : List (Nat × TI)}
theorem goes_callv {P : Program} {o : Oper} {a : Act} {w : World} {f : FuncId} {x : Operand} {xs : Array Operand} {ats : Array TypeId} {caps : Array Value} {R : Value → World → Prop} (ho : o.op = .call { callee := .value x, args := xs, argTypes := ats }) (hx : a.eval x = .func (.func f) #[] caps) (eg : ∀ args w, (callFunc f args).run P w = .ok (.enter f args) w)
    (hc : Calls P f (xs.map a.eval ++ caps) w fun e w' => ∃ v, e = .returned v ∧ R v w') : goes P o a w R := by
  unfold goes execOp
  simp only [ho, resolve, invoke, hx, Deferred.ofValue, Sem.run_bind, Sem.run_pure, Result.andThen_ok, Array.empty_append]
  rw [eg]
  exact hc
/-- a call of a function or a closure -/
theorem R.cf {σ : Type} {G : σ → Prop} {val : σ → AV} {post : σ → List (Nat × AO)} {f : FuncId} {x : Operand} {cs : List AV} {xs : Array Operand} {ats : Array TypeId} {avs : List AV} {h0 : List AO} {m : Nat} (ms : List Nat) (sp : Spec P f avs h0 m G val post) (eg : ∀ args w, (callFunc f args).run P w = .ok (.enter f args) w)
    (hf : evA τ x = some (.fn f cs)) {l : List AV} (hxs : evList (evA τ) xs.toList = some l) (hx : l ++ cs = AV.rens (renF ms L) avs) (hin : HasIn (renF ms L) h 0 h0) (hm : Nat.ble h0.length m = true) (hpost : ∀ s, ∀ l ∈ (post s).map (·.1), l < m) (hnd : ∀ s, nodupB (((post s).map (·.1)).map (renF ms L)) = true)
    (hg : wantA ops ⟨some d, .call { callee := .value x, args := xs, argTypes := ats }, ty, ps, af, gd⟩ τ = some true) (hb : (Nat.ble (d + 1) n && Nat.beq h0.length ms.length && onceB h0 ms && chainB h D ((goneL h0 ms).map (·.1))) = true)
    (k : ∀ s, G s → R P ops Q (actD h D ((goneL h0 ms).map (·.1))) E n (L + (m - h0.length)) ((d, (val s).ren (renF ms L)) :: τ) (renH (renF ms L) (post s) ++ (goneL h0 ms ++ h)) F rest) :
    R P ops Q D E n L τ h F (⟨some d, .call { callee := .value x, args := xs, argTypes := ats }, ty, ps, af, gd⟩ :: rest) := by
  simp only [Bool.and_eq_true] at hb
  obtain ⟨⟨⟨h1, h2⟩, h3⟩, h4⟩ := hb
  have hlen : h0.length = ms.length := Nat.eq_of_beq_eq_true h2
  have hm' : h0.length ≤ m := by simpa [Nat.ble_eq] using hm
  refine ⟨RL.acts G (fun s => (val s).ren (renF ms L)) (fun _ => L + (m - h0.length)) (fun s => renH (renF ms L) (post s) ++ (goneL h0 ms ++ h)) (fun _ => F) ((goneL h0 ms).map (·.1)) hg h1 h4 (fun _ _ => Nat.le_add_right _ _) (fun ρ a w g => ?_) (fun s hs => (k s hs).out)⟩
  refine goes_callv rfl (g.eval x _ hf).2 eg ?_
  have hargs : xs.map a.eval ++ (AV.concs ρ cs).toArray = (AV.concs (fun i => ρ (renF ms L i)) avs).toArray := by
    have := evList_conc (evB g) _ _ hxs
    have e2 := congrArg (AV.concs ρ) hx
    rw [rens_conc, concs_append, ← this] at e2
    apply Array.ext'
    rw [Array.toList_append, Array.toList_map, ← e2]
  rw [hargs]
  have hget := hasIn_get hin
  simp only [Nat.zero_add] at hget
  have rlow : ∀ i, i < h0.length → renF ms L i < L := fun i hi => by
    obtain ⟨o, ho⟩ : ∃ o, h0[i]? = some o := ⟨_, List.getElem?_eq_getElem hi⟩
    obtain ⟨o', h5, _⟩ := hget i o ho
    exact (g.hp _ _ h5).1
  refine (sp (fun i => ρ (renF ms L i)) w (fun i o ho => ?_) (fun i j o b ho hro hj hbi hbj => ?_) (fun i b hi hbi => g.al _ b (rlow i hi) hbi)).mono fun e w' ho => ?_
  · obtain ⟨o', h5, h6, h7⟩ := hget i o ho
    exact (ren_holds _ _ _ _ _).1 (h7 _ _ _ (g.hp _ _ h5).2.2)
  · obtain ⟨o', h5, h6, _⟩ := hget i o ho
    obtain ⟨oj, hoj⟩ : ∃ o, h0[j]? = some o := ⟨_, List.getElem?_eq_getElem hj⟩
    obtain ⟨oj', h8, _⟩ := hget j oj hoj
    have he := g.dis _ _ b ⟨o', h5, h6 hro⟩ (by rw [h8]; simp) hbi hbj
    have hi : i < h0.length := (List.getElem?_eq_some_iff.1 ho).1
    have h9 := List.all_eq_true.1 h3 i (List.mem_range.2 hi)
    rw [ho] at h9
    simp only [hro, Bool.false_or] at h9
    have h10 := List.all_eq_true.1 h9 j (List.mem_range.2 hj)
    simp only [Bool.or_eq_true, Bool.not_eq_true'] at h10
    rcases h10 with h10 | h10
    · exact Nat.eq_of_beq_eq_true h10
    · exfalso
      have e1 : ∀ x, x < h0.length → renF ms L x = ms.getD x 0 := fun x hx => by
        have hx' : x < ms.length := by omega
        unfold renF
        rw [List.getD_eq_getElem?_getD, List.getElem?_eq_getElem hx']; rfl
      rw [← e1 i hi, ← e1 j hj, he, Nat.beq_refl] at h10; cases h10
  · obtain ⟨s, ρ', hG, he, hN⟩ := g.called hlen hm' hin h3 (fun s _ => hpost s) hnd ho
    exact ⟨_, he, s, ρ', hG, rfl, hN⟩
def bdB (m : Nat) : List (Nat × AO) → Bool
  | [] => true
  | (l, _) :: r => Nat.ble (l + 1) m && bdB m r
theorem bdB_lt {m : Nat} : ∀ {p : List (Nat × AO)}, bdB m p = true → ∀ l ∈ p.map (·.1), l < m
  | [], _, l, hl => by cases hl
  | (s, o) :: r, hp, l, hl => by
    simp only [bdB, Bool.and_eq_true, Nat.ble_eq] at hp
    rcases List.mem_cons.1 hl with rfl | hl
    · exact hp.1
    · exact bdB_lt hp.2 l hl
/-- a call, its side conditions told by tests -/
theorem R.cl {σ : Type} {G : σ → Prop} {val : σ → AV} {post : σ → List (Nat × AO)} {f : FuncId} {x : Operand} {cs : List AV} {xs : Array Operand} {ats : Array TypeId} {avs : List AV} {h0 : List AO} {m : Nat} (ms : List Nat) (sp : Spec P f avs h0 m G val post) (eg : ∀ args w, (callFunc f args).run P w = .ok (.enter f args) w)
    (hin : HasIn (renF ms L) h 0 h0) (hf : evA τ x = some (.fn f cs)) {l : List AV} (hxs : evList (evA τ) xs.toList = some l) (hx : l ++ cs = AV.rens (renF ms L) avs) (hP : ∀ s, (bdB m (post s) && nodupB (((post s).map (·.1)).map (renF ms L))) = true)
    (hg : wantA ops ⟨some d, .call { callee := .value x, args := xs, argTypes := ats }, ty, ps, af, gd⟩ τ = some true) (hb : (Nat.ble (d + 1) n && Nat.beq h0.length ms.length && onceB h0 ms && chainB h D ((goneL h0 ms).map (·.1)) && Nat.ble h0.length m) = true)
    (k : ∀ s, G s → R P ops Q (actD h D ((goneL h0 ms).map (·.1))) E n (L + (m - h0.length)) ((d, (val s).ren (renF ms L)) :: τ) (renH (renF ms L) (post s) ++ (goneL h0 ms ++ h)) F rest) :
    R P ops Q D E n L τ h F (⟨some d, .call { callee := .value x, args := xs, argTypes := ats }, ty, ps, af, gd⟩ :: rest) := by
  rw [Bool.and_eq_true] at hb
  simp only [Bool.and_eq_true] at hP
  exact R.cf ms sp eg hf hxs hx hin hb.2 (fun s => bdB_lt (hP s).1) (fun s => (hP s).2) hg hb.1 k
end
section
variable {E : Base} {n L : Nat} {τ : List (Nat × AV)} {h : List (Nat × AO)} {F : World → Prop}
end
end Go.Proofs.Yteabncomclgncaa
namespace Go.Proofs.Yteabncomclgncaa
set_option linter.unusedVariables false
set_option linter.unusedSimpArgs false
set_option linter.unusedSectionVars false
open Go.RowKit
section
variable {P : Program} {Q : Exit → Act → World → Prop} {E : Base} {n L : Nat} {τ : List (Nat × AV)} {h : List (Nat × AO)} {F : World → Prop}
end
section
variable {P : Program} {ops : Array Oper} {Q : Exit → Act → World → Prop} {D : Option DD} {E : Base} {n L : Nat} {τ : List (Nat × AV)} {h : List (Nat × AO)} {F : World → Prop} {rest : List Oper}
  {d : Nat} {op : Op} {ty : TypeId} {ps : String} {af : Array Edge} {gd : Option (Nat × Bool)} {tt : List (Nat × TI)}
end
section
variable {E : Base} {n L : Nat} {τ : List (Nat × AV)} {h : List (Nat × AO)} {F : World → Prop}
theorem SrcA.none0 {l w0 j c : Nat} (hb : Nat.ble (l + 1) L = true) : SrcA E n L τ h F (.sl l w0 j 0 c) 0 [] := fun ρ a w g => by
  refine ⟨fun x hx => (by cases hx), ?_⟩
  cases hr : ρ l with
  | none => exact .inr ⟨c, by simp [AV.conc, hr], rfl, rfl⟩
  | some b => exact .inl ⟨⟨b, j * w0, none⟩, c, by simp [AV.conc, hr], fun k u hk => by simp [AV.concs] at hk⟩
end
section
variable {P : Program} {ops : Array Oper} {Q : Exit → Act → World → Prop} {E : Base} {n L : Nat} {τ : List (Nat × AV)} {h : List (Nat × AO)} {F : World → Prop} {rest : List Oper}
theorem R.noneT (t : Nat) (v' : AV) (o : AO) (ho : ∀ ρ' W, o.Low ρ' (L + 1) ∧ o.holds ρ' none W) (hro : o.isRo = false) {v : AV} (hv : lk t τ = some v) (hb : v'.bd (L + 1) = true) (hc : ∀ ρ : Env, ρ L = Option.none → v'.conc ρ = v.conc ρ)
    (k : R P ops Q none E n (L + 1) ((t, v') :: τ) ((L, o) :: h) F rest) : R P ops Q none E n L τ h F rest := ⟨fun ρ a w g => k.out _ a w (g.noneT o ho hro t v v' hv hb hc)⟩
theorem R.noneH (l0 : Nat) (xs' : List AV) (o : AO) (ho : ∀ ρ' W, o.Low ρ' (L + 1) ∧ o.holds ρ' none W) (hro : o.isRo = false) {xs : List AV} {T : TypeId} (hv : hk l0 h = some (.cells xs T)) (hb : AV.bds (L + 1) xs' = true) (hc : ∀ ρ : Env, ρ L = Option.none → AV.concs ρ xs' = AV.concs ρ xs)
    (k : R P ops Q none E n (L + 1) τ ((L, o) :: (l0, .cells xs' T) :: h) F rest) : R P ops Q none E n L τ h F rest := ⟨fun ρ a w g => k.out _ a w (g.noneH o ho hro l0 xs xs' T hv hb hc)⟩
end
section
variable {P : Program} {ops : Array Oper} {Q : Exit → Act → World → Prop} {E : Base} {n L : Nat} {τ : List (Nat × AV)} {h : List (Nat × AO)} {F : World → Prop} {rest : List Oper}
/-- what the state's telling implies -/
theorem R.fact {p : Prop} (hp : ∀ ρ a w, Gam E ρ n L τ h F a w → p) (k : p → R P ops Q none E n L τ h F rest) : R P ops Q none E n L τ h F rest := ⟨fun ρ a w g => (k (hp ρ a w g)).out ρ a w g⟩
theorem C.fact {c : Code} {p : Prop} (hp : ∀ ρ a w, Gam E ρ n L τ h F a w → p) (k : p → C P c Q E n L τ h F) : C P c Q E n L τ h F := ⟨fun ρ a w g => (k (hp ρ a w g)).out ρ a w g⟩
end
end Go.Proofs.Yteabncomclgncaa
namespace Go.Proofs.Yteabncomclgncaa
set_option linter.unusedVariables false
set_option linter.unusedSimpArgs false
set_option linter.unusedSectionVars false
open Go.RowKit
/-- what is asked of a type so that two of it may be compared part by part -/
def eqOk (P : Program) : Nat → TypeId → Bool
  | 0, _ => false
  | d + 1, t => match P.underlying t with
    | some (.struct fs) => !P.stoodInHeld t && fs.toList.all fun f => decide (f.name ≠ "_") && eqOk P d f.type
    | some (.array n e) => eqOk P d e
    | some (.int _) => true
    | some .string => true
    | some .bool => true
    | _ => false
/-- parts compared, each by eq -/
def eqFs (eq : Nat → AV → AV → Option Bool) (tt : List (Nat × TI)) (xs ys : List AV) : List (Nat × Nat) → Option Bool
  | [] => some true
  | (off, ft) :: r => match partA tt ft xs off, partA tt ft ys off with
    | some a, some b => match eq ft a b, eqFs eq tt xs ys r with
      | some p, some q => some (p && q)
      | _, _ => none
    | _, _ => none
def eqA (tt : List (Nat × TI)) : Nat → Nat → AV → AV → Option Bool
  | 0, _, _, _ => none
  | d + 1, t, u, v => match lk t tt with
    | some ⟨_, _, .int _, _⟩ => match u, v with
      | .raw (.int k a), .raw (.int k' b) => if k = k' then some (decide (a = b)) else none
      | _, _ => none
    | some ⟨_, _, .str, _⟩ => match u, v with
      | .raw (.string a), .raw (.string b) => some (decide (a.toList = b.toList))
      | _, _ => none
    | some ⟨_, _, .bool, _⟩ => match u, v with
      | .raw (.bool a), .raw (.bool b) => some (a == b)
      | _, _ => none
    | some ⟨_, _, .st fs, _⟩ => match u, v with
      | .agg xs, .agg ys => eqFs (eqA tt d) tt xs ys fs
      | _, _ => none
    | some ⟨_, _, .arr n e, _⟩ => match u, v, lk e tt with
      | .agg xs, .agg ys, some te => eqFs (eqA tt d) tt xs ys ((List.range n).map fun i => (i * te.size, e))
      | _, _, _ => none
    | _ => none
section
variable {P : Program} {tt : List (Nat × TI)}
theorem und_of_run {t : TypeId} {d : TypeDesc} {w : World} (h : (underlying t).run P w = .ok d w) : P.underlying t = some d := by
  cases hx : P.underlying t with
  | none => simp [underlying, hx] at h
  | some d' => simp [underlying, hx] at h; rw [h]
theorem info_size (htt : TTok P tt) {t : TypeId} {ti : TI} (h : lk t tt = some ti) : ∃ i, P.info? t = some i ∧ i.size = ti.size := by
  obtain ⟨⟨i, z, h1, h2, _⟩, _⟩ := htt _ _ h
  exact ⟨i, h1, h2⟩
theorem eqA_ok (htt : TTok P tt) (ρ : Env) (w : World) : ∀ (d D : Nat) (t : TypeId) (u v : AV) (r : Bool), d ≤ D → eqOk P d t = true → eqA tt d t u v = some r → (Op.equalIn D t (u.conc ρ) (v.conc ρ)).run P w = .ok r w
  | 0, D, t, u, v, r, _, h, _ => by simp [eqOk] at h
  | d + 1, D, t, u, v, r, hD, hok, he => by
    obtain ⟨D, rfl⟩ : ∃ m, D = m + 1 := ⟨D - 1, by omega⟩
    simp only [eqA] at he
    split at he
    · rename_i hl
      split at he
      · split at he
        · rename_i hk
          cases he
          subst hk
          have := und_of_run (und_int (htt _ _ hl) rfl w)
          simp only [AV.conc]
          rw [run_equalIn_int w D t _ _ _ _ this]
          rfl
        · cases he
      · cases he
    · rename_i hl
      split at he
      · cases he
        have := und_of_run (und_str (htt _ _ hl) rfl w)
        simp only [AV.conc]
        rw [run_equalIn_string w D t _ _ this, beq_toList]
      · cases he
    · rename_i hl
      split at he
      · cases he
        have := und_of_run (und_bool (htt _ _ hl) rfl w)
        simp only [AV.conc]
        rw [run_equalIn_bool' w D t _ _ this]
      · cases he
    · rename_i sz bt fs z hl
      split at he
      · rename_i xs ys
        obtain ⟨fields, hu, hf⟩ := und_st (htt _ _ hl) rfl
        have hu2 := und_of_run (hu w)
        have hfo : P.fieldsOf t = fields := by simp [Program.fieldsOf, hu2]
        simp only [eqOk, hu2, Bool.and_eq_true, Bool.not_eq_true'] at hok
        simp only [AV.conc]
        rw [run_equalIn_struct w D t _ _ (by rw [hfo]; exact hu2) hok.1, hfo]
        have hall := hok.2
        subst hf
        generalize fields.toList = l at he hall
        clear hu hu2 hfo hok hl
        induction l generalizing r with
        | nil => cases he; rfl
        | cons f l ih =>
          simp only [List.map_cons, eqFs] at he
          simp only [List.all_cons, Bool.and_eq_true, decide_eq_true_eq] at hall
          split at he
          · rename_i a b ha hb
            split at he
            · rename_i p q hp hq
              cases he
              have h1 := run_partA htt ρ _ _ _ _ w ha
              have h2 := run_partA htt ρ _ _ _ _ w hb
              have h3 := eqA_ok htt ρ w d D f.type a b p (by omega) hall.1.2 hp
              have h4 := ih q hq hall.2
              simp only [Op.eqFields, hall.1.1, ne_eq, not_false_eq_true, if_true, Sem.run_bind, h1, h2, h3, Result.andThen_ok]
              cases p
              · simp
              · simpa using h4
            · cases he
          · cases he
      · cases he
    · rename_i sz bt n e z hl
      split at he
      · rename_i xs ys te hte
        have hu2 := und_of_run (und_arr (htt _ _ hl) rfl w)
        obtain ⟨i, hi, his⟩ := info_size htt hte
        simp only [eqOk, hu2] at hok
        simp only [AV.conc]
        rw [run_equalIn_array w D _ _ hu2 hi]
        have hco : P.cellsOf e = te.size := by simp [Program.cellsOf, hi, his]
        rw [hco]
        generalize List.range n = l at he
        clear hu2 hl
        induction l generalizing r with
        | nil => cases he; rfl
        | cons j l ih =>
          simp only [List.map_cons, eqFs] at he
          split at he
          · rename_i a b ha hb
            split at he
            · rename_i p q hp hq
              cases he
              have h1 := run_partA htt ρ _ _ _ _ w ha
              have h2 := run_partA htt ρ _ _ _ _ w hb
              have h3 := eqA_ok htt ρ w d D e a b p (by omega) hok hp
              have h4 := ih q hq
              simp only [Op.eqItems, Sem.run_bind, h1, h2, h3, Result.andThen_ok]
              cases p
              · simp
              · simpa using h4
            · cases he
          · cases he
      · cases he
    · cases he
end
section
variable {P : Program} {ops : Array Oper} {Q : Exit → Act → World → Prop} {D : Option DD} {E : Base} {n L : Nat} {τ : List (Nat × AV)} {h : List (Nat × AO)} {F : World → Prop} {rest : List Oper}
  {d : Nat} {ty : TypeId} {ps : String} {af : Array Edge} {gd : Option (Nat × Bool)} {tt : List (Nat × TI)}
/-- x == y of structs, of arrays -/
theorem R.eqs (htt : TTok P tt) {t u : TypeId} {x y : Operand} {xs ys : List AV} (r : Bool) (hx : evA τ x = some (.agg xs)) (hy : evA τ y = some (.agg ys)) (hok : eqOk P 6 t = true) (hm : P.eqGuardType P.depth t = false) (hr : eqA tt 6 t (.agg xs) (.agg ys) = some r)
    (hg : wantA ops ⟨some d, .binOp .eql t x y u, ty, ps, af, gd⟩ τ = some true) (hb : (Nat.ble (d + 1) n && lookB D []) = true)
    (k : R P ops Q (lookD D []) E n L ((d, .raw (.bool r)) :: τ) h F rest) : R P ops Q D E n L τ h F (⟨some d, .binOp .eql t x y u, ty, ps, af, gd⟩ :: rest) :=
  R.pure _ (fun ρ a w g => ⟨AV.Low.raw _ _ _, fun W => by
    have := eqA_ok htt ρ W 6 10000 t _ _ r (by omega) hok hr
    simp only [AV.conc] at this
    simp only [execOp, (g.eval x _ hx).2, (g.eval y _ hy).2, AV.conc, Sem.run_bind, run_eqGuard_agg W _ t x y _ _ hm, Result.andThen_ok, run_eql_struct, this]
    rfl⟩) hg hb k
end
end Go.Proofs.Yteabncomclgncaa
namespace Go.Proofs.Yteabncomclgncaa
set_option linter.unusedVariables false
set_option linter.unusedSimpArgs false
set_option linter.unusedSectionVars false
open Go.RowKit
/-- rows of k cells each, told cell by cell -/
def rowsF (k : Nat) (f : Nat → List AV) (j : Nat) : List AV := match (f (j / k))[j % k]? with
  | some v => [v]
  | none => []
theorem rowsF_get {k : Nat} {f : Nat → List AV} {i c : Nat} {v : AV} (hc : c < k) (h : (f i)[c]? = some v) : rowsF k f (i * k + c) = [v] := by
  unfold rowsF
  have h1 : (i * k + c) / k = i := by rw [Nat.mul_comm, Nat.mul_add_div (by omega), Nat.div_eq_of_lt hc]; omega
  have h2 : (i * k + c) % k = c := by rw [Nat.mul_comm, Nat.mul_add_mod, Nat.mod_eq_of_lt hc]
  rw [h1, h2, h]
section
variable {P : Program} {ops : Array Oper} {Q : Exit → Act → World → Prop} {D : Option DD} {E : Base} {n L : Nat} {τ : List (Nat × AV)} {h : List (Nat × AO)} {F : World → Prop} {rest : List Oper}
  {d : Nat} {op : Op} {ty : TypeId} {ps : String} {af : Array Edge} {gd : Option (Nat × Bool)} {tt : List (Nat × TI)}
/-- a value told in another way: numbers that fit -/
inductive Nrm : AV → AV → Prop where
  | w {k : IntKind} {x : Int} (h : k.wrap x = x) : Nrm (.raw (.int k (k.wrap x))) (.raw (.int k x))
  | refl (v : AV) : Nrm v v
theorem Nrm.eq {v v' : AV} (h : Nrm v v') : v = v' := by
  cases h with
  | w h => rw [h]
  | refl => rfl
/-- sums, differences, products; numbers made into others -/
def arithB : BinOp → Bool
  | .add => true
  | .sub => true
  | .mul => true
  | _ => false
theorem R.nb (htt : TTok P tt) {b : BinOp} {t u : TypeId} {x y : Operand} {v v' : AV} (har : arithB b = true) (ha : act tt (fun l => hk l h) (evA τ) (.binOp b t x y u) = some v) (hn : Nrm v v') (hg : wantA ops ⟨some d, .binOp b t x y u, ty, ps, af, gd⟩ τ = some true)
    (hb : (Nat.ble (d + 1) n && lookB D []) = true)
    (k : R P ops Q (lookD D []) E n L ((d, v') :: τ) h F rest) : R P ops Q D E n L τ h F (⟨some d, .binOp b t x y u, ty, ps, af, gd⟩ :: rest) :=
  R.s htt (by rw [ha, hn.eq]) hg (by simpa [rdL] using hb) k
theorem R.nu (htt : TTok P tt) {t : TypeId} {x : Operand} {v v' : AV} (ha : act tt (fun l => hk l h) (evA τ) (.unOp .neg t x) = some v) (hn : Nrm v v') (hg : wantA ops ⟨some d, .unOp .neg t x, ty, ps, af, gd⟩ τ = some true)
    (hb : (Nat.ble (d + 1) n && lookB D []) = true)
    (k : R P ops Q (lookD D []) E n L ((d, v') :: τ) h F rest) : R P ops Q D E n L τ h F (⟨some d, .unOp .neg t x, ty, ps, af, gd⟩ :: rest) :=
  R.s htt (by rw [ha, hn.eq]) hg (by simpa [rdL] using hb) k
theorem R.nc (htt : TTok P tt) {s t : TypeId} {x : Operand} {v v' : AV} (ha : act tt (fun l => hk l h) (evA τ) (.convert s t x) = some v) (hn : Nrm v v') (hg : wantA ops ⟨some d, .convert s t x, ty, ps, af, gd⟩ τ = some true)
    (hb : (Nat.ble (d + 1) n && lookB D []) = true)
    (k : R P ops Q (lookD D []) E n L ((d, v') :: τ) h F rest) : R P ops Q D E n L τ h F (⟨some d, .convert s t x, ty, ps, af, gd⟩ :: rest) :=
  R.s htt (by rw [ha, hn.eq]) hg (by simpa [rdL] using hb) k
/-- &x[j] of such rows -/
theorem R.ix1 (htt : TTok P tt) {t e : TypeId} {x y : Operand} {l w0 off m cap : Nat} {k0 : IntKind} {j : Int} {sz bt : Nat} {z : List Value} (jn : Nat) (hx : evA τ x = some (.sl l 1 off m cap)) (hy : evA τ y = some (.raw (.int k0 j))) (ht : lk t tt = some ⟨sz, bt, .sl e, z⟩) (hs : szA tt e = some w0)
    (hg : wantA ops ⟨some d, .indexAddr t x y, ty, ps, af, gd⟩ τ = some true) (hb : (Nat.ble (d + 1) n && lookB D []) = true) (hj : j = (jn : Int)) (hlt : jn < m) (hne : hasAt h l (off + jn * w0)) (hlL : Nat.ble (l + 1) L = true)
    (k : R P ops Q (lookD D []) E n L ((d, .ptr l 1 (off + jn * w0) 0) :: τ) h F rest) : R P ops Q D E n L τ h F (⟨some d, .indexAddr t x y, ty, ps, af, gd⟩ :: rest) :=
  R.pure _ (fun ρ a w g => by
    obtain ⟨b, hr⟩ := g.someAt hne
    refine ⟨fun ρ' he => ?_, fun W => ?_⟩
    · have hl : l < L := by have : l + 1 ≤ L := by simpa [Nat.ble_eq] using hlL
                            omega
      simp [AV.conc, he l hl]
    have hu := und_sl (htt _ _ ht) rfl W
    obtain ⟨te, hte, hsz⟩ := Option.map_eq_some_iff.1 hs
    have e2 := (htt _ _ hte).run_size W
    rw [hsz] at e2
    subst hj
    have h0 : ¬ ((jn : Int) < 0 ∨ (m : Int) ≤ jn) := by omega
    simp only [execOp, (g.eval x _ hx).2, (g.eval y _ hy).2, AV.conc, hr, Option.map_some, Option.getD_some]
    simp [Instr.indexAt, asIntOf, hu, e2, h0, Nat.add_mul, addr_add0, hlt]) hg hb k
/-- a load out of such rows -/
theorem R.ldr1 (htt : TTok P tt) {t : TypeId} {x : Operand} {l off j c w0 n0 : Nat} {f : Nat → List AV} {ti : TI} {v : AV} (i : Nat) (hx : evA τ x = some (.ptr l 1 j c)) (hl : hk l h = some (.ro 1 off n0 (rowsF w0 f))) (ht : lk t tt = some ti) (hv : takeA ti (f i) c = some v)
    (hg : wantA ops ⟨some d, .load t x, ty, ps, af, gd⟩ τ = some true) (hb : (Nat.ble (d + 1) n && lookB D [l] && Nat.ble (l + 1) L) = true) (hj : j = off + i * w0) (hw : (f i).length = w0) (hpos : 0 < w0) (hi : i * w0 + w0 ≤ n0)
    (k : R P ops Q (lookD D [l]) E n L ((d, v) :: τ) h F rest) : R P ops Q D E n L τ h F (⟨some d, .load t x, ty, ps, af, gd⟩ :: rest) :=
  R.looks l _ (fun ρ a w g => by
    subst hj
    obtain ⟨b, cur, T, fr, hr, hbk, hcur⟩ := ro_cell (g.hp _ _ hl).2.2 (i := i * w0) (by omega)
    have hcell : ∀ c x, (f i)[c]? = some x → cur[off + i * w0 + c]? = some (x.conc ρ) := fun c x hcx => by
      have hc : c < w0 := by rw [← hw]; exact (List.getElem?_eq_some_iff.1 hcx).1
      obtain ⟨b2, cur2, T2, fr2, hr2, hbk2, hcur2⟩ := ro_cell (g.hp _ _ hl).2.2 (i := i * w0 + c) (by omega)
      rw [hr] at hr2
      cases hr2
      rw [hbk] at hbk2
      cases hbk2
      have := hcur2 0 x (by rw [rowsF_get hc hcx]; rfl)
      rw [← this]
      congr 1
      omega
    have hlow : LowS ρ L (f i) := fun x hx => by
      obtain ⟨c, hc⟩ := List.getElem?_of_mem hx
      have hc' : c < w0 := by rw [← hw]; exact (List.getElem?_eq_some_iff.1 hc).1
      exact ro_low g hl (i := i * w0 + c) (by omega) x (by rw [rowsF_get hc' hc]; simp)
    refine ⟨takeA_low hv hlow, by rw [hr]; simp, fun W hW => ?_⟩
    simp only [execOp, (g.eval x _ hx).2, AV.conc, hr, Option.getD_some, Instr.loadAt, Instr.sureAddr, Sem.run_bind, Sem.run_pure, Result.andThen_ok]
    rw [Nat.mul_one, takeA_run (htt _ _ ht) hv ((hW b hr).trans hbk) hcell]
    rfl) hg hb k
end
section
variable {E : Base} {n L : Nat} {τ : List (Nat × AV)} {h : List (Nat × AO)} {F : World → Prop}
end
end Go.Proofs.Yteabncomclgncaa
namespace Go.Proofs.Yteabncomclgncaa
set_option linter.unusedVariables false
set_option linter.unusedSimpArgs false
set_option linter.unusedSectionVars false
open Go.RowKit
/-- q lies in p from the place o on -/
def PartOf (q p : List UInt8) (o : Nat) : Prop := o + q.length ≤ p.length ∧ ∀ i, i < q.length → p.getD (o + i) 0 = q.getD i 0
theorem PartOf.take {p : List UInt8} {k : Nat} : PartOf (p.take k) p 0 := by
  refine ⟨by rw [List.length_take]; omega, fun i hi => ?_⟩
  rw [List.length_take] at hi
  simp [List.getD, List.getElem?_take, show i < k by omega]
theorem PartOf.sub {p : List UInt8} {o k : Nat} (h : o + k ≤ p.length) : PartOf ((p.drop o).take k) p o := by
  have hl : ((p.drop o).take k).length = k := by rw [List.length_take, List.length_drop]; omega
  refine ⟨by rw [hl]; omega, fun i hi => ?_⟩
  rw [hl] at hi
  simp [List.getD, List.getElem?_take, List.getElem?_drop, hi]
theorem PartOf.pre {p q : List UInt8} : PartOf p (p ++ q) 0 := ⟨by simp, fun i hi => by simp [List.getD, List.getElem?_append, hi]⟩
theorem PartOf.refl {p : List UInt8} : PartOf p p 0 := ⟨by simp, fun i hi => by simp⟩
theorem bytesF_eq {p q : List UInt8} {i j : Nat} (h : p.getD i 0 = q.getD j 0) : bytesF p i = bytesF q j := by unfold bytesF; rw [h]
theorem ro_part {ρ : Env} {r : Option Nat} {w : World} {p q : List UInt8} {o o2 : Nat} (hp : PartOf q p o) (h : (AO.ro 1 o2 p.length (bytesF p)).holds ρ r w) : (AO.ro 1 (o2 + o) q.length (bytesF q)).holds ρ r w := by
  rcases h with ⟨h1, h2⟩ | ⟨b, cur, T, fr, hr, hb, hc⟩
  · exact .inl ⟨h1, by have := hp.1; omega⟩
  · refine .inr ⟨b, cur, T, fr, hr, hb, fun i c x hi hx => ?_⟩
    rw [← bytesF_eq (hp.2 i hi)] at hx
    have := hc (o + i) c x (by have := hp.1; omega) hx
    rw [← this]
    congr 2
    omega
theorem HasIn.pr {r : Nat → Nat} {h : List (Nat × AO)} {i : Nat} {p q : List UInt8} {o o2 : Nat} {os : List AO} (h1 : hk (r i) h = some (.ro 1 o2 p.length (bytesF p))) (hp : PartOf q p o) (k : HasIn r h (i + 1) os) : HasIn r h i (.ro 1 (o2 + o) q.length (bytesF q) :: os) :=
  .other h1 (fun e => by cases e) (fun ρ x w hh => by simp only [AO.ren, bytesF_ren]; exact ro_part hp hh) k
theorem HasH.ror {r : Nat → Nat} {L : Nat} {h rest : List (Nat × AO)} {l o : Nat} {p : List UInt8} (h1 : hk (r l) h = some (.ro 1 o p.length (bytesF p))) (h3 : Nat.ble (l + 1) L = true) (k : HasH r L h rest) : HasH r L h ((l, .ro 1 o p.length (bytesF p)) :: rest) :=
  .other h1 id (fun ρ x w hh => by simp only [AO.ren, bytesF_ren]; exact hh) h3 (fun _ _ => rfl) k
section
variable {P : Program} {ops : Array Oper} {Q : Exit → Act → World → Prop} {D : Option DD} {E : Base} {n L : Nat} {τ : List (Nat × AV)} {h : List (Nat × AO)} {F : World → Prop} {rest : List Oper}
  {d : Nat} {op : Op} {ty : TypeId} {ps : String} {af : Array Edge} {gd : Option (Nat × Bool)} {tt : List (Nat × TI)}
end
theorem lk_mem {α : Type} {l : Nat} {h : List (Nat × α)} {o : α} (hl : lk l h = some o) : (l, o) ∈ h := by
  induction h with
  | nil => simp [lk] at hl
  | cons p h ih =>
    obtain ⟨s, u⟩ := p
    rw [lk_cons] at hl
    split at hl
    · rename_i e; subst e; cases hl; simp
    · simp [ih hl]
theorem hk_lk {l : Nat} {h : List (Nat × AO)} {o : AO} (hl : hk l h = some o) : lk l h = some o := by
  unfold hk at hl
  split at hl
  · cases hl
  · exact hl
section
variable {E : Base} {ρ : Env} {n L : Nat} {τ : List (Nat × AV)} {h : List (Nat × AO)} {F : World → Prop} {a : Act} {w : World}
end
section
variable {P : Program} {Q : Exit → Act → World → Prop} {E : Base} {n L : Nat} {τ : List (Nat × AV)} {h : List (Nat × AO)} {F : World → Prop}
end
section
variable {P : Program} {Q : Exit → Act → World → Prop} {E : Base} {n L : Nat} {τ : List (Nat × AV)} {h : List (Nat × AO)} {F : World → Prop}
end
end Go.Proofs.Yteabncomclgncaa
namespace Go.Proofs.Yteabncomclgncaa
set_option linter.unusedVariables false
set_option linter.unusedSimpArgs false
set_option linter.unusedSectionVars false
open Go.RowKit
/-- an order that may be drawn, from what is listed on -/
def Valid (ops : Array Oper) : Array Bool → List Nat → Prop
  | listed, [] => Region.ready .any ops listed = []
  | listed, k :: r => k ∈ Region.ready .any ops listed ∧ Valid ops (listed.setIfInBounds k true) r
section
variable {P : Program} {ops : Array Oper} {Q : Exit → Act → World → Prop}
theorem Valid.sound : ∀ {ord : List Nat} {fuel : Nat} {listed : Array Bool} {a : Act} {w : World}, wpAny P .any ops Q fuel listed a w → Valid ops listed ord → wpOps P ops Q ord a w
  | [], 0, _, _, _, h, _ => h.2
  | [], _ + 1, _, _, _, h, hv => h.1 hv
  | k :: r, 0, _, _, _, h, hv => by have := hv.1; rw [h.1] at this; cases this
  | k :: r, fuel + 1, _, _, _, h, hv => by
    rw [wpOps_cons]
    exact wpOp_mono (fun a w hh => Valid.sound hh hv.2) (h.2 k hv.1)
end
section
variable {P : Program} {Q : Exit → Act → World → Prop} {l : List Oper} {i j : Nat}
end
section
variable {P : Program} {Q : Exit → Act → World → Prop} {l : List Oper} {sg inv : List Nat}
end
/-- a region that draws, whatever order it draws -/
structure CW (P : Program) (l : List Oper) (Q : Exit → Act → World → Prop) (E : Base) (n L : Nat) (τ : List (Nat × AV)) (h : List (Nat × AO)) (F : World → Prop) : Prop where
  mk :: (out : ∀ ρ a w, Gam E ρ n L τ h F a w → ∀ ord, Valid l.toArray (Array.replicate l.length false) ord → (∀ k, k < l.length → k ∈ ord) → wpOps P l.toArray Q ord a w)
section
variable {P : Program} {Q : Exit → Act → World → Prop} {E : Base} {n L : Nat} {τ : List (Nat × AV)} {h : List (Nat × AO)} {F : World → Prop} {l : List Oper}
theorem CW.draw (pr : List (List Nat)) (ch : List Nat) (hB : edgesB l pr ch = true) (k : R P l.toArray Q (some ⟨0, pr, ch, [], []⟩) E n L τ h F l) : CW P l Q E n L τ h F := ⟨fun ρ a w g ord hv _ => by
  obtain ⟨hE, hs, hl⟩ := edges_of hB ⟨0, pr, ch, [], []⟩ rfl rfl
  have := k.out (fun i => by simp) (fun p hp => by cases hp) (fun p hp => by cases hp) ρ a _ [] g trivial
  rw [← List.range_eq_range'] at this
  refine Valid.sound (fuel := l.length) (CH.any hE hs hl _ _ _ _ [] a (by simp) ⟨by simp, fun j => ?_, List.pairwise_lt_range⟩ (fun j o ho hn => ?_) ?_ this) hv
  · simp only [List.mem_range, List.size_toArray]
    constructor
    · intro hj; exact ⟨hj, by simp [hj]⟩
    · exact fun h => h.1
  · exfalso
    apply hn
    have := (Array.getElem?_eq_some_iff.1 ho).1
    simpa using this
  · have : chCnt l.toArray (DD.chB ⟨0, pr, ch, [], []⟩) (List.range l.length) = 0 := by
      unfold chCnt
      rw [List.countP_eq_zero]
      intro i hi
      have : i < l.length := by simpa using hi
      simp [this]
    omega⟩
end
end Go.Proofs.Yteabncomclgncaa
namespace Go.Proofs.Yteabncomclgncaa
set_option linter.unusedVariables false
set_option linter.unusedSimpArgs false
set_option linter.unusedSectionVars false
open Go.RowKit
section
variable {P : Program} {ops : Array Oper} {Q : Exit → Act → World → Prop} {D : Option DD} {E : Base} {n L : Nat} {τ : List (Nat × AV)} {h : List (Nat × AO)} {F : World → Prop} {rest : List Oper}
  {d : Nat} {ty : TypeId} {ps : String} {af : Array Edge} {gd : Option (Nat × Bool)} {tt : List (Nat × TI)}
/-- an entry of the model's own, at values that are known; it answers a value and leaves the world -/
theorem R.ext {f : FuncId} {xs : Array Operand} {ats : Array TypeId} {e : Array Value → Sem Value} (vs : List Value) (u : Value) (eg : ∀ args w, (callFunc f args).run P w = ((e args).run P w).andThen fun v w' => .ok (.value v) w')
    (hxs : evList (evA τ) xs.toList = some (vs.map .raw)) (he : ∀ w, (e vs.toArray).run P w = .ok u w)
    (hg : wantA ops ⟨some d, .call { callee := .value (.func f), args := xs, argTypes := ats }, ty, ps, af, gd⟩ τ = some true) (hb : (Nat.ble (d + 1) n && lookB D []) = true)
    (k : R P ops Q (lookD D []) E n L ((d, .raw u) :: τ) h F rest) : R P ops Q D E n L τ h F (⟨some d, .call { callee := .value (.func f), args := xs, argTypes := ats }, ty, ps, af, gd⟩ :: rest) :=
  R.pure _ (fun ρ a w g => ⟨AV.Low.raw _ _ _, fun W => by
    have hargs : xs.map a.eval = vs.toArray := by
      have := evList_conc (evB g) _ _ hxs
      have hr : ∀ vs : List Value, AV.concs ρ (vs.map .raw) = vs := fun vs => by
        induction vs with
        | nil => rfl
        | cons v r ih => simp only [List.map_cons, AV.concs, AV.conc, ih]
      rw [hr] at this
      apply Array.ext'
      simpa using this
    unfold execOp
    simp only [resolve, invoke, Act.eval, Deferred.ofValue, Sem.run_bind, Sem.run_pure, Result.andThen_ok, Array.append_empty, Array.empty_append]
    rw [eg]
    have : xs.map (fun x => a.eval x) = vs.toArray := hargs
    simp only [Act.eval] at this
    first | rw [this, he] | rw [hargs, he]
    rfl⟩) hg hb k
end
theorem bdl_nil (L : Nat) : ∀ o ∈ ([] : List AO), o.Bd L := fun o h => by cases h
theorem bdl_cons {L : Nat} {o : AO} {os : List AO} (h : o.Bd L) (k : ∀ o ∈ os, o.Bd L) : ∀ o' ∈ o :: os, o'.Bd L := fun o' h' => by
  rcases List.mem_cons.1 h' with rfl | h2
  · exact h
  · exact k o' h2
end Go.Proofs.Yteabncomclgncaa
namespace Go.Proofs.Yteabncomclgncaa
set_option linter.unusedVariables false
set_option linter.unusedSimpArgs false
set_option linter.unusedSectionVars false
open Go.RowKit
theorem run_copy_rows {P : Program} (w : World) (dT sT ty elem : TypeId) (g o dLen dCap : Nat) (a : Addr) (sLen sCap wd k : Nat) (cur : Array Value) (t : TypeId) (cs : List Value)
    (hu : P.underlying dT = some (.slice elem)) (hs : (P.info? elem).map (·.size) = some wd)
    (hg : w.heap[g]? = some (.cells cur t (0, 0))) (hk : Nat.min sLen dLen = k) (hn : cs.length = k * wd)
    (hsrc : ∀ j v, cs[j]? = some v → w.cell? (a.add j) = some v) (hfit : o + cs.length ≤ cur.size) (h1 : ∀ v ∈ cs, v.oneCell' = true) :
    (Builtin.copy_ #[dT, sT] ty #[.slice (some ⟨g, o, none⟩) dLen dCap, .slice (some a) sLen sCap]).run P w =
      .ok (goInt k) (w.setRow g (cur.toList.take o ++ cs ++ cur.toList.drop (o + cs.length)).toArray) := by
  have hl := run_loadCells_list (P := P) w a cs hsrc
  have hst := run_storeCells_at P g o t cs 0 cur w hg (by simpa using hfit) h1
  cases hq : P.info? elem with
  | none => simp [hq] at hs
  | some i =>
    have hi : i.size = wd := by simpa [hq] using hs
    rw [hn] at hl
    simp [Builtin.copy_, run_underlying hu, Builtin.lenOf, Builtin.firstCells, sizeOf, typeInfo, hq, hi, hk, hl, hst]
section
variable {P : Program} {ops : Array Oper} {Q : Exit → Act → World → Prop} {D : Option DD} {E : Base} {n L : Nat} {τ : List (Nat × AV)} {h : List (Nat × AO)} {F : World → Prop} {rest : List Oper}
  {d : Nat} {ty : TypeId} {ps : String} {af : Array Edge} {gd : Option (Nat × Bool)} {tt : List (Nat × TI)}
/-- copy(x, y) into rows, at least one; what is written may lie behind the rows that are known -/
theorem R.cpt (htt : TTok P tt) {t1 t2 T : TypeId} {x y : Operand} {l wd off m c0 cap n0 k0 : Nat} (n1 cnt : Nat) {f sf : Nat → List AV} (f' : Nat → List AV) {v2 : AV} {news : List AV} {tl te : TI} (hx : evA τ x = some (.sl l wd off m c0)) (hl : hk l h = some (.tab wd n0 cap f T)) (hy : evA τ y = some v2)
    {k1 : Nat} (hs : SrcA E n L τ h F v2 k1 news) (hsf : news = flat sf k0) (hsl : ∀ i, i < k0 → (sf i).length = wd) (hone : news.all AV.oneB = true) (ht : lk t1 tt = some tl) (hkd : tl.kind = .sl T) (hte : lk T tt = some te) (hsz : te.size = wd)
    (hg : wantA ops ⟨some d, .call { callee := .builtin .copy, args := #[x, y], argTypes := #[t1, t2] }, ty, ps, af, gd⟩ τ = some true) (hb : (Nat.ble (d + 1) n && chainB h D [l]) = true)
    (hcnt : Nat.min k1 m = cnt) (hck : cnt ≤ k0) (hpos : 0 < cnt) (hoff : off + cnt ≤ cap) (hn1 : n1 ≤ cap) (hin : ∀ i, i < n1 → i < n0 ∨ (off ≤ i ∧ i < off + cnt)) (hw : 0 < wd)
    (hf : ∀ i, i < n1 → f' i = if off ≤ i ∧ i < off + cnt then sf (i - off) else f i)
    (k : R P ops Q (actD h D [l]) E n L ((d, .raw (.int .i64 cnt)) :: τ) ((l, .tab wd n1 cap f' T) :: h) F rest) :
    R P ops Q D E n L τ h F (⟨some d, .call { callee := .builtin .copy, args := #[x, y], argTypes := #[t1, t2] }, ty, ps, af, gd⟩ :: rest) := by
  simp only [Bool.and_eq_true] at hb
  refine ⟨RL.acts (σ := Unit) (fun _ => True) (fun _ => .raw (.int .i64 cnt)) (fun _ => L) (fun _ => (l, .tab wd n1 cap f' T) :: h) (fun _ => F) [l] hg hb.1 hb.2 (fun _ _ => Nat.le_refl L) (fun ρ a w g => ?_) (fun _ _ => k.out)⟩
  obtain ⟨hlow, hsrc⟩ := hs ρ a w g
  have hh := (g.hp l _ hl).2.2
  obtain ⟨dd, hu, hud⟩ := (htt _ _ ht).und
  rw [hkd] at hud
  simp only at hud
  subst hud
  obtain ⟨inf, z, e1, e2, _⟩ := (htt _ _ hte).info
  have hsize : (P.info? T).map (·.size) = some wd := by rw [e1, Option.map_some, e2, hsz]
  have hev1 : a.eval x = .slice ((ρ l).map fun b => ⟨b, off * wd, none⟩) m c0 := by rw [(g.eval x _ hx).2]; simp [AV.conc]
  have hev2 : a.eval y = v2.conc ρ := (g.eval y _ hy).2
  unfold goes execOp
  simp only [resolve, invoke, builtin, Sem.run_bind, Sem.run_pure, Result.andThen_ok, List.map_toArray, List.map_cons, List.map_nil, hev1, hev2]
  rcases hsrc with ⟨ad, c, h3, hcell⟩ | ⟨c, h3, h4, _⟩
  · rcases hh.2.2 with ⟨_, hc0⟩ | ⟨bk, cur, hr, hbk, hs2, hcur⟩
    · omega
    · have hnl : (AV.concs ρ news).length = k0 * wd := by rw [concs_length, hsf, flat_length hsl]
      obtain ⟨cs, hcs⟩ : ∃ cs, (AV.concs ρ news).take (cnt * wd) = cs := ⟨_, rfl⟩
      have hmul : cnt * wd ≤ k0 * wd := Nat.mul_le_mul_right wd hck
      have hcl : cs.length = cnt * wd := by rw [← hcs, List.length_take, hnl]; omega
      have hget : ∀ j, j < cnt * wd → cs[j]? = (AV.concs ρ news)[j]? := fun j hj => by rw [← hcs, List.getElem?_take, if_pos hj]
      have hrun := run_copy_rows (P := P) w t1 t2 ty T bk (off * wd) m c0 ad k1 c wd cnt cur T cs hu hsize hbk hcnt hcl (fun j v hj => by
        have hjl : j < cs.length := (List.getElem?_eq_some_iff.1 hj).1
        exact hcell j v (by rw [← hget j (by omega)]; exact hj)) (by rw [hcl, hs2, ← Nat.add_mul]; exact Nat.mul_le_mul_right wd hoff) (fun v hv => by
        have hv := List.mem_of_mem_take (hcs ▸ hv)
        rw [concs_map] at hv
        obtain ⟨y', hy', rfl⟩ := List.mem_map.1 hv
        exact oneB_conc (List.all_eq_true.1 hone y' hy') ρ)
      have hfl : ∀ i, i < n1 → (f' i).length = wd := fun i hi => by
        rw [hf i hi]
        split
        · rename_i hc; exact hsl _ (by omega)
        · rename_i hc
          rcases hin i hi with h5 | h5
          · exact hh.2.1 i h5
          · exact absurd h5 hc
      have htot : off * wd + cnt * wd ≤ cap * wd := by rw [← Nat.add_mul]; exact Nat.mul_le_mul_right wd hoff
      rw [h3, hr, Option.map_some, hrun]
      refine ⟨(), ρ, trivial, rfl, AV.Low.raw _ _ _, fun _ _ => rfl, g.set hl rfl hr (AO.Low.tab T fun i hi z hz => ?_) ⟨hn1, hfl, .inr ⟨bk, _, rfl, setRow_heap _ _ _ _ _ _ hbk, ?_, fun i c z hi hz => ?_⟩⟩ (fun b' hb' => setRow_other _ _ _ _ hb') (by simp) ⟨rfl, rfl, rfl⟩, fun l' b' hl' hb' hn => ?_⟩
      · rw [hf i hi] at hz
        split at hz
        · rename_i hc
          obtain ⟨q, hq⟩ := List.getElem?_of_mem hz
          have hq2 : q < wd := by rw [← hsl (i - off) (by omega)]; exact (List.getElem?_eq_some_iff.1 hq).1
          have := flat_get hsl (i - off) q (by omega) hq2
          exact hlow z (List.mem_of_getElem? (by rw [hsf, this]; exact hq))
        · rename_i hc
          rcases hin i hi with h5 | h5
          · exact tab_low g hl h5 z hz
          · exact absurd h5 hc
      · rw [List.size_toArray]
        simp only [List.length_append, List.length_take, List.length_drop, hcl, Array.length_toList]
        omega
      · have hcw : c < wd := by rw [← hfl i hi]; exact (List.getElem?_eq_some_iff.1 hz).1
        have el : (cur.toList.take (off * wd)).length = off * wd := by rw [List.length_take, Array.length_toList]; omega
        rw [List.getElem?_toArray, get3, hcl, el]
        rw [hf i hi] at hz
        by_cases a1 : i < off
        · have m1 : i * wd + wd ≤ off * wd := by rw [← Nat.succ_mul]; exact Nat.mul_le_mul_right wd a1
          rw [if_neg (by omega)] at hz
          rw [if_pos (by omega), List.getElem?_take, if_pos (by omega), Array.getElem?_toList]
          rcases hin i hi with h5 | h5
          · exact hcur i c z h5 hz
          · omega
        · have m1 : off * wd ≤ i * wd := Nat.mul_le_mul_right wd (by omega)
          rw [if_neg (by omega)]
          by_cases a2 : i < off + cnt
          · rw [if_pos ⟨by omega, a2⟩] at hz
            have m2 : i * wd + wd ≤ off * wd + cnt * wd := by rw [← Nat.succ_mul, ← Nat.add_mul]; exact Nat.mul_le_mul_right wd a2
            have m3 : i * wd + c - off * wd = (i - off) * wd + c := by rw [Nat.sub_mul]; omega
            rw [if_pos (by omega), hget _ (by omega), m3, concs_map, List.getElem?_map, hsf, flat_get hsl (i - off) c (by omega) hcw, hz]
            rfl
          · have m2 : off * wd + cnt * wd ≤ i * wd := by rw [← Nat.add_mul]; exact Nat.mul_le_mul_right wd (by omega)
            rw [if_neg (by omega)] at hz
            rw [if_neg (by omega), List.getElem?_drop, Array.getElem?_toList]
            rw [show off * wd + cnt * wd + (i * wd + c - off * wd - cnt * wd) = i * wd + c by omega]
            rcases hin i hi with h5 | h5
            · exact hcur i c z h5 hz
            · omega
      · by_cases e : b' = bk
        · subst e
          exact absurd (g.dis l l' b' ⟨_, hl, rfl⟩ hl' hr hb') (fun e => hn (by simp [e]))
        · exact (setRow_other _ _ _ _ e).symm
  · have : cnt = 0 := by rw [← hcnt, h4]; exact Nat.zero_min _
    omega
end
end Go.Proofs.Yteabncomclgncaa
namespace Go.Proofs.Yteabncomclgncaa
set_option linter.unusedVariables false
set_option linter.unusedSimpArgs false
set_option linter.unusedSectionVars false
open Go.RowKit
section
variable {P : Program} {ops : Array Oper} {Q : Exit → Act → World → Prop} {D : Option DD} {E : Base} {n L : Nat} {τ : List (Nat × AV)} {h : List (Nat × AO)} {F : World → Prop} {rest : List Oper}
  {d : Nat} {ty : TypeId} {ps : String} {af : Array Edge} {gd : Option (Nat × Bool)} {tt : List (Nat × TI)}
theorem R.ovl (htt : TTok P tt) {f : FuncId} {ats : Array TypeId} {t tr e T1 T2 : TypeId} {x y : Operand} {l1 w1 o1 m1 c1 l2 wd o2 m2 c2 n0 cap : Nat} {ys : List AV} {g0 : Nat → List AV} {ti te : TI}
    (eg : ∀ args w, (callFunc f args).run P w = ((Extern.SlicesOverlaps.overlaps #[t, t] #[tr] args).run P w).andThen fun v w' => .ok (.value v) w')
    (hx : evA τ x = some (.sl l1 w1 o1 m1 c1)) (hy : evA τ y = some (.sl l2 wd o2 m2 c2)) (h1 : hk l1 h = some (.cells ys T1)) (h2 : hk l2 h = some (.tab wd n0 cap g0 T2)) (ht : lk t tt = some ti) (hkd : ti.kind = .sl e) (hte : lk e tt = some te)
    (hg : wantA ops ⟨some d, .call { callee := .value (.func f), args := #[x, y], argTypes := ats }, ty, ps, af, gd⟩ τ = some true) (hb : (Nat.ble (d + 1) n && lookB D [l1, l2] && Nat.ble (l1 + 1) L && Nat.ble (l2 + 1) L && !Nat.beq l1 l2) = true) (hcap : 0 < cap * wd)
    (k : R P ops Q (lookD D [l1, l2]) E n L ((d, .raw (.bool false)) :: τ) h F rest) : R P ops Q D E n L τ h F (⟨some d, .call { callee := .value (.func f), args := #[x, y], argTypes := ats }, ty, ps, af, gd⟩ :: rest) := by
  simp only [Bool.and_eq_true, Bool.not_eq_true'] at hb
  obtain ⟨⟨⟨⟨b1, b2⟩, b3⟩, b4⟩, b5⟩ := hb
  have L1 : l1 < L := by have : l1 + 1 ≤ L := by simpa [Nat.ble_eq] using b3
                         omega
  have L2 : l2 < L := by have : l2 + 1 ≤ L := by simpa [Nat.ble_eq] using b4
                         omega
  have hne : l1 ≠ l2 := fun e => by subst e; rw [Nat.beq_refl] at b5; cases b5
  refine ⟨RL.looks [l1, l2] hg b1 b2 (fun l hl => ?_) (.raw (.bool false)) (fun ρ a w g => ?_) k.out⟩
  · simp at hl
    rcases hl with rfl | rfl
    · exact L1
    · exact L2
  · obtain ⟨k1, hr1, hb1⟩ := (g.hp _ _ h1).2.2
    rcases (g.hp _ _ h2).2.2.2.2 with ⟨_, hc0⟩ | ⟨k2, cur, hr2, hb2, hs2, _⟩
    · rw [hc0, Nat.zero_mul] at hcap; omega
    have hbne : k1 ≠ k2 := fun e => hne (g.dis l1 l2 k1 ⟨_, h1, rfl⟩ (by rw [h2]; simp) hr1 (by rw [hr2, e]))
    refine ⟨AV.Low.raw _ _ _, fun l hl => ?_, fun W hW => ?_⟩
    · simp at hl
      rcases hl with rfl | rfl
      · rw [hr1]; simp
      · rw [hr2]; simp
    have e1 := (hW l1 (by simp) k1 hr1).trans hb1
    have e2 := (hW l2 (by simp) k2 hr2).trans hb2
    obtain ⟨dd, hu, hud⟩ := (htt _ _ ht).und
    rw [hkd] at hud
    simp only at hud
    subst hud
    have hev1 : a.eval x = .slice (some ⟨k1, o1 * w1, none⟩) m1 c1 := by rw [(g.eval x _ hx).2]; simp [AV.conc, hr1]
    have hev2 : a.eval y = .slice (some ⟨k2, o2 * wd, none⟩) m2 c2 := by rw [(g.eval y _ hy).2]; simp [AV.conc, hr2]
    have hrun := Lib.run_overlaps_apart (P := P) W t tr e hu te.size (fun w => (htt _ _ hte).run_size w) ⟨k1, o1 * w1, none⟩ ⟨k2, o2 * wd, none⟩ m1 c1 m2 c2 hbne T1 T2 (AV.concs ρ ys).toArray.size cur.size
      (by simp [World.shape?, e1]) (by simp [World.shape?, e2]) (by rw [hs2]; omega) (by simp [World.frozen?, e1]) (by simp [World.frozen?, e1])
    unfold execOp
    simp only [resolve, invoke, Act.eval, Deferred.ofValue, Sem.run_bind, Sem.run_pure, Result.andThen_ok, Array.append_empty, Array.empty_append, List.map_toArray, List.map_cons, List.map_nil]
    rw [eg]
    simp only [Act.eval] at hev1 hev2
    rw [hev1, hev2, hrun]
    rfl
end
end Go.Proofs.Yteabncomclgncaa
namespace Go.Proofs.Yteabncomclgncaa
set_option linter.unusedVariables false
set_option linter.unusedSimpArgs false
set_option linter.unusedSectionVars false
open Go.RowKit
/-- rows laid over others: what lies there then -/
theorem tab_over {ρ : Env} {wd n0 n1 cap off cnt b : Nat} {f f' sf : Nat → List AV} {T : TypeId} {cur : Array Value} {w' : World} (hn1 : n1 ≤ cap) (hfl : ∀ i, i < n0 → (f i).length = wd) (hsl : ∀ i, i < cnt → (sf i).length = wd) (hin : ∀ i, i < n1 → i < n0 ∨ (off ≤ i ∧ i < off + cnt))
    (hf : ∀ i, i < n1 → f' i = if off ≤ i ∧ i < off + cnt then sf (i - off) else f i) (hoff : off + cnt ≤ cap) (hs : cur.size = cap * wd) (hcur : ∀ i c x, i < n0 → (f i)[c]? = some x → cur[i * wd + c]? = some (x.conc ρ))
    (hw' : w'.heap[b]? = some (.cells (cur.toList.take (off * wd) ++ AV.concs ρ (flat sf cnt) ++ cur.toList.drop (off * wd + (AV.concs ρ (flat sf cnt)).length)).toArray T (0, 0))) : (AO.tab wd n1 cap f' T).holds ρ (some b) w' := by
  have hcl : (AV.concs ρ (flat sf cnt)).length = cnt * wd := by rw [concs_length, flat_length hsl]
  have htot : off * wd + cnt * wd ≤ cap * wd := by rw [← Nat.add_mul]; exact Nat.mul_le_mul_right wd hoff
  have hfl' : ∀ i, i < n1 → (f' i).length = wd := fun i hi => by
    rw [hf i hi]
    split
    · rename_i hc; exact hsl _ (by omega)
    · rename_i hc
      rcases hin i hi with h5 | h5
      · exact hfl i h5
      · exact absurd h5 hc
  refine ⟨hn1, hfl', .inr ⟨b, _, rfl, hw', ?_, fun i c z hi hz => ?_⟩⟩
  · rw [List.size_toArray]
    simp only [List.length_append, List.length_take, List.length_drop, hcl, Array.length_toList]
    omega
  · have hcw : c < wd := by rw [← hfl' i hi]; exact (List.getElem?_eq_some_iff.1 hz).1
    have el : (cur.toList.take (off * wd)).length = off * wd := by rw [List.length_take, Array.length_toList]; omega
    rw [List.getElem?_toArray, get3, hcl, el]
    rw [hf i hi] at hz
    by_cases a1 : i < off
    · have m1 : i * wd + wd ≤ off * wd := by rw [← Nat.succ_mul]; exact Nat.mul_le_mul_right wd a1
      rw [if_neg (by omega)] at hz
      rw [if_pos (by omega), List.getElem?_take, if_pos (by omega), Array.getElem?_toList]
      rcases hin i hi with h5 | h5
      · exact hcur i c z h5 hz
      · omega
    · have m1 : off * wd ≤ i * wd := Nat.mul_le_mul_right wd (by omega)
      rw [if_neg (by omega)]
      by_cases a2 : i < off + cnt
      · rw [if_pos ⟨by omega, a2⟩] at hz
        have m2 : i * wd + wd ≤ off * wd + cnt * wd := by rw [← Nat.succ_mul, ← Nat.add_mul]; exact Nat.mul_le_mul_right wd a2
        have m3 : i * wd + c - off * wd = (i - off) * wd + c := by rw [Nat.sub_mul]; omega
        rw [if_pos (by omega), m3, concs_map, List.getElem?_map, flat_get hsl (i - off) c (by omega) hcw, hz]
        rfl
      · have m2 : off * wd + cnt * wd ≤ i * wd := by rw [← Nat.add_mul]; exact Nat.mul_le_mul_right wd (by omega)
        rw [if_neg (by omega)] at hz
        rw [if_neg (by omega), List.getElem?_drop, Array.getElem?_toList]
        rw [show off * wd + cnt * wd + (i * wd + c - off * wd - cnt * wd) = i * wd + c by omega]
        rcases hin i hi with h5 | h5
        · exact hcur i c z h5 hz
        · omega
theorem tab_some {ρ : Env} {wd n0 cap : Nat} {f : Nat → List AV} {T : TypeId} {r : Option Nat} {w : World} (hh : (AO.tab wd n0 cap f T).holds ρ r w) (hc : 0 < cap) : ∃ b cur, r = some b ∧ w.heap[b]? = some (.cells cur T (0, 0)) ∧ cur.size = cap * wd ∧ ∀ i c x, i < n0 → (f i)[c]? = some x → cur[i * wd + c]? = some (x.conc ρ) := by
  rcases hh.2.2 with ⟨_, h⟩ | ⟨b, cur, h1, h2, h3, h4⟩
  · omega
  · exact ⟨b, cur, h1, h2, h3, h4⟩
theorem zeroCells_get (zs : Array Value) (k i c : Nat) (hi : i < k) (hc : c < zs.size) : (Builtin.zeroCells zs k)[i * zs.size + c]? = zs[c]? := by
  have hlt : i * zs.size + c < k * zs.size := by
    have : (i + 1) * zs.size ≤ k * zs.size := Nat.mul_le_mul_right _ hi
    rw [Nat.add_mul, Nat.one_mul] at this
    omega
  have hm : (i * zs.size + c) % zs.size = c := by rw [Nat.mul_comm, Nat.mul_add_mod, Nat.mod_eq_of_lt hc]
  simp [Builtin.zeroCells, hlt, hm, hc]
theorem zeroCells_size (zs : Array Value) (k : Nat) : (Builtin.zeroCells zs k).size = k * zs.size := by simp [Builtin.zeroCells]
section
variable {P : Program} {ops : Array Oper} {Q : Exit → Act → World → Prop} {D : Option DD} {E : Base} {n L : Nat} {τ : List (Nat × AV)} {h : List (Nat × AO)} {F : World → Prop} {rest : List Oper}
  {d : Nat} {ty : TypeId} {ps : String} {af : Array Edge} {gd : Option (Nat × Bool)} {tt : List (Nat × TI)}
/-- rows to be copied, of which the first k0 are known -/
theorem SrcA.tabm {l wd off m c n0 cap : Nat} {f : Nat → List AV} {T : TypeId} (k0 : Nat) (hw : 0 < wd) (hl : hk l h = some (.tab wd n0 cap f T)) (hn : off + k0 ≤ n0) (hc : 0 < cap) : SrcA E n L τ h F (.sl l wd off m c) m (flat (fun i => f (off + i)) k0) := fun ρ a w g => by
  have hh := (g.hp _ _ hl).2.2
  refine ⟨flat_low fun i hi => tab_low g hl (by omega), ?_⟩
  obtain ⟨b, cur, hr, hb, hs, hcur⟩ := tab_some hh hc
  refine .inl ⟨⟨b, off * wd, none⟩, c, by simp [AV.conc, hr], fun j u hj => ?_⟩
  rw [flat_concs] at hj
  obtain ⟨i, k, h1, h2, rfl, h3⟩ := flat_some hw (fun i hi => by rw [concs_length]; exact hh.2.1 (off + i) (by omega)) hj
  rw [concs_map, List.getElem?_map] at h3
  obtain ⟨x, hx, rfl⟩ := Option.map_eq_some_iff.1 h3
  rw [addr_add0, cell_of_row w b _ _ T (0, 0) hb, ← Nat.add_assoc, ← Nat.add_mul]
  exact hcur _ _ _ (by omega) hx
/-- append to a part of known rows, where there is room: the same block; what comes behind is not known any more -/
theorem R.aprt (htt : TTok P tt) {t T : TypeId} {x y : Operand} {l wd m0 cap n0 k0 : Nat} {f sf : Nat → List AV} (f' : Nat → List AV) {v2 : AV} {news : List AV} {tl te : TI} (hx : evA τ x = some (.sl l wd 0 m0 cap)) (hl : hk l h = some (.tab wd n0 cap f T)) (hm0 : m0 ≤ n0) (hy : evA τ y = some v2)
    (hs : SrcA E n L τ h F v2 k0 news) (hsf : news = flat sf k0) (hsl : ∀ i, i < k0 → (sf i).length = wd) (hone : news.all AV.oneB = true) (ht : lk t tt = some tl) (hkd : tl.kind = .sl T) (hte : lk T tt = some te) (hsz : te.size = wd)
    (hg : wantA ops ⟨some d, .call { callee := .builtin .append, args := #[x, y], argTypes := #[t, t] }, ty, ps, af, gd⟩ τ = some true) (hb : (Nat.ble (d + 1) n && chainB h D [l]) = true)
    (hroom : m0 + k0 ≤ cap) (hpos : 0 < cap) (hf : ∀ i, i < m0 + k0 → f' i = if m0 ≤ i ∧ i < m0 + k0 then sf (i - m0) else f i)
    (k : R P ops Q (actD h D [l]) E n L ((d, .sl l wd 0 (m0 + k0) cap) :: τ) ((l, .tab wd (m0 + k0) cap f' T) :: h) F rest) :
    R P ops Q D E n L τ h F (⟨some d, .call { callee := .builtin .append, args := #[x, y], argTypes := #[t, t] }, ty, ps, af, gd⟩ :: rest) := by
  simp only [Bool.and_eq_true] at hb
  refine ⟨RL.acts (σ := Unit) (fun _ => True) (fun _ => .sl l wd 0 (m0 + k0) cap) (fun _ => L) (fun _ => (l, .tab wd (m0 + k0) cap f' T) :: h) (fun _ => F) [l] hg hb.1 hb.2 (fun _ _ => Nat.le_refl L) (fun ρ a w g => ?_) (fun _ _ => k.out)⟩
  obtain ⟨hlow, hsrc⟩ := hs ρ a w g
  have hgp := g.hp l _ hl
  have hh := hgp.2.2
  obtain ⟨i, z, hi, hi1, _⟩ := (htt _ _ hte).info
  rw [hsz] at hi1
  have hu := und_of_run (und_sl (htt _ _ ht) hkd w)
  have hlowR : (AV.sl l wd 0 (m0 + k0) cap).Low ρ L := fun ρ' he => by simp [AV.conc, he l hgp.1]
  have hev1 : a.eval x = .slice ((ρ l).map fun b => ⟨b, 0, none⟩) m0 cap := by rw [(g.eval x _ hx).2]; simp [AV.conc]
  have hev2 : a.eval y = v2.conc ρ := (g.eval y _ hy).2
  obtain ⟨b, cur, hr, hbk, hcs, hcur⟩ := tab_some hh hpos
  have hnl : (AV.concs ρ news).length = k0 * wd := by rw [concs_length, hsf, flat_length hsl]
  have hsub : m0 * wd + k0 * wd ≤ cap * wd := by rw [← Nat.add_mul]; exact Nat.mul_le_mul_right wd hroom
  have hlowT : (AO.tab wd (m0 + k0) cap f' T).Low ρ L := AO.Low.tab T fun i hi z hz => by
    rw [hf i hi] at hz
    split at hz
    · rename_i hc
      obtain ⟨q, hq⟩ := List.getElem?_of_mem hz
      have hq2 : q < wd := by rw [← hsl (i - m0) (by omega)]; exact (List.getElem?_eq_some_iff.1 hq).1
      have := flat_get hsl (i - m0) q (by omega) hq2
      exact hlow z (List.mem_of_getElem? (by rw [hsf, this]; exact hq))
    · rename_i hc
      exact tab_low g hl (by omega) z hz
  have after : ∀ w', w'.heap[b]? = some (.cells (cur.toList.take (m0 * wd) ++ AV.concs ρ news ++ cur.toList.drop (m0 * wd + (AV.concs ρ news).length)).toArray T (0, 0)) → (AO.tab wd (m0 + k0) cap f' T).holds ρ (some b) w' := fun w' hw' =>
    tab_over hroom hh.2.1 hsl (fun i hi => by omega) hf hroom hcs hcur (by rw [hsf] at hw'; exact hw')
  unfold goes execOp
  simp only [resolve, invoke, builtin, Sem.run_bind, Sem.run_pure, Result.andThen_ok, List.map_toArray, List.map_cons, List.map_nil, hev1, hev2]
  rcases hsrc with ⟨ad, c, e, hcell⟩ | ⟨c, e, hk0, hq⟩
  · have hrun := run_append_room (P := P) w t ty T i hu hi b m0 cap cur hbk ad k0 c (AV.concs ρ news) (by rw [hnl, hi1]) hcell (fun u hu => by
      rw [concs_map] at hu
      obtain ⟨y', hy', rfl⟩ := List.mem_map.1 hu
      exact oneB_conc (List.all_eq_true.1 hone y' hy') ρ) hroom (by rw [hi1, hnl, hcs]; exact hsub)
    rw [hi1] at hrun
    rw [hr, Option.map_some, e, hrun]
    refine ⟨(), ρ, trivial, by simp [AV.conc, hr], hlowR, fun _ _ => rfl, g.set hl rfl hr hlowT (after _ (setRow_heap _ _ _ _ _ _ hbk)) (fun b' hb' => setRow_other _ _ _ _ hb') (by simp) ⟨rfl, rfl, rfl⟩, fun l' b' hl' hb' hn => ?_⟩
    by_cases e2 : b' = b
    · subst e2
      exact absurd (g.dis l l' b' ⟨_, hl, rfl⟩ hl' hr hb') (fun e => hn (by simp [e]))
    · exact (setRow_other _ _ _ _ e2).symm
  · have hrun : (Builtin.append_ #[t, t] ty #[.slice (some ⟨b, 0, none⟩) m0 cap, v2.conc ρ]).run P w = .ok (.slice (some ⟨b, 0, none⟩) (m0 + k0) cap) w := by
      have e1 := (htt _ _ hte).run_size w
      have hu2 := und_sl (htt _ _ ht) hkd w
      rw [e]; simp [Builtin.append_, hu2, e1, Builtin.lenOf, Builtin.firstCells, storeCells, hk0, show m0 ≤ cap by omega]
    rw [hr, Option.map_some, hrun]
    refine ⟨(), ρ, trivial, by simp [AV.conc, hr], hlowR, fun _ _ => rfl, g.set hl rfl hr hlowT (after _ ?_) (fun b' hb' => rfl) rfl ⟨rfl, rfl, rfl⟩, fun _ _ _ _ _ => rfl⟩
    rw [hbk, hq]
    simp
/-- append(x, make(.., k)..) where there is no room: a new block; the old one stays -/
theorem R.apz (htt : TTok P tt) {t tn T : TypeId} {x y : Operand} {l wd m0 cap n0 : Nat} {kq kn : IntKind} {j : Int} {f : Nat → List AV} (k0 : Nat) (f' : Nat → List AV) {tl te tk : TI} (hx : evA τ x = some (.sl l wd 0 m0 cap)) (hl : hk l h = some (.tab wd n0 cap f T)) (hm0 : m0 ≤ n0) (hy : evA τ y = some (.raw (.int kq j)))
    (ht : lk t tt = some tl) (hkd : tl.kind = .sl T) (htn : lk tn tt = some tk) (hkn : tk.kind = .int kn) (hte : lk T tt = some te) (hsz : te.size = wd) (hz : Nat.beq te.zero.length te.size = true) (hw : 0 < wd)
    (hg : wantA ops ⟨some d, .call { callee := .builtin .append, args := #[x, y], argTypes := #[t, tn] }, ty, ps, af, gd⟩ τ = some true) (hb : (Nat.ble (d + 1) n && chainB h D []) = true)
    (hj : j = (k0 : Int)) (hk0 : 0 < k0) (hroom : cap < m0 + k0) (hpos : 0 < cap) (hcap : m0 + k0 ≤ 4503599627370496) (hby : (m0 + k0) * te.bytes ≤ 140737488355328)
    (hf : ∀ i, i < m0 + k0 → f' i = if i < m0 then f i else te.zero.map .raw)
    (k : ∀ c, m0 + k0 ≤ c → c ≤ 9223372036854775807 → R P ops Q (actD h D []) E n (L + 1) ((d, .sl L wd 0 (m0 + k0) c) :: τ) ((L, .tab wd (m0 + k0) c f' T) :: h) F rest) :
    R P ops Q D E n L τ h F (⟨some d, .call { callee := .builtin .append, args := #[x, y], argTypes := #[t, tn] }, ty, ps, af, gd⟩ :: rest) := by
  refine R.newW (σ := Nat) (fun c => m0 + k0 ≤ c ∧ c ≤ 9223372036854775807) (fun c => .tab wd (m0 + k0) c f' T) (fun c => .sl L wd 0 (m0 + k0) c) (fun _ ρ => sl_low ρ L _ _ _ _) (fun ρ a w g => ?_) hg hb (fun c hc => k c hc.1 hc.2)
  have hz := Nat.eq_of_beq_eq_true hz
  have hh := (g.hp l _ hl).2.2
  obtain ⟨i, z, hi, hi1, hi2, hi3, hi4, _⟩ := (htt _ _ hte).info
  rw [hsz] at hi1 hz
  have hu := und_of_run (und_sl (htt _ _ ht) hkd w)
  have hun : P.underlying tn = some (.int kn) := und_of_run (und_int (htt _ _ htn) hkn w)
  obtain ⟨b, cur, hr, hbk, hcs, hcur⟩ := tab_some hh hpos
  have hev1 : a.eval x = .slice (some ⟨b, 0, none⟩) m0 cap := by rw [(g.eval x _ hx).2]; simp [AV.conc, hr]
  have hev2 : a.eval y = .int kq (k0 : Int) := by rw [(g.eval y _ hy).2, hj]; rfl
  have hfl : ∀ q, q < m0 → (f q).length = wd := fun q hq => hh.2.1 q (by omega)
  have hol : (AV.concs ρ (flat f m0)).length = m0 * wd := by rw [concs_length, flat_length hfl]
  have hold : (Builtin.firstCells i.size m0 (.slice (some ⟨b, 0, none⟩) m0 cap)).run P w.drew = .ok (AV.concs ρ (flat f m0)).toArray w.drew := by
    have := run_loadCells_list (P := P) w.drew ⟨b, 0, none⟩ (AV.concs ρ (flat f m0)) (fun q u hq => by
      have hql : q < m0 * wd := by rw [← hol]; exact (List.getElem?_eq_some_iff.1 hq).1
      rw [concs_map, List.getElem?_map] at hq
      obtain ⟨v, hv, rfl⟩ := Option.map_eq_some_iff.1 hq
      obtain ⟨q1, c1, h1, h2, h3, h4⟩ := flat_some hw hfl hv
      rw [addr_add0, cell_of_row w.drew b _ cur T (0, 0) hbk, Nat.zero_add, h3]
      exact hcur q1 c1 v (by omega) h4)
    rw [hol] at this
    simp only [Builtin.firstCells, hi1, this]
  have hnb : k0 * i.bytes ≤ 281474976710656 := by
    rw [hi2]
    have : k0 * te.bytes ≤ (m0 + k0) * te.bytes := Nat.mul_le_mul_right _ (by omega)
    omega
  have hgl := growslice_fits (bytes := te.bytes) (old := cap) (need := m0 + k0) hroom hby
  have hrun := Lib.run_append_grow_zeros (P := P) w t tn ty T i z kq kn hu hun hi hi3 (some ⟨b, 0, none⟩) m0 cap _ hold k0 hk0 (by rw [hi1]; exact hw) hroom (by omega) hnb (by rw [hi2]; exact hgl)
  have hge := grownCap_ge w (m0 + k0) cap T
  have hzl : z.cells.size = wd := by rw [← Array.length_toList, hi4, hz]
  obtain ⟨A, hA⟩ : ∃ A, A = (AV.concs ρ (flat f m0)).toArray ++ Builtin.zeroCells z.cells k0 ++ Builtin.zeroCells z.cells (grownCap w (m0 + k0) cap T - (m0 + k0)) := ⟨_, rfl⟩
  rw [← hA] at hrun
  refine ⟨grownCap w (m0 + k0) cap T, w.drew.alloc (.cells A T), ⟨hge, by have := grownCap_le_maxLen w (m0 + k0) cap T (by simp [maxLen]; omega); simpa [maxLen] using this⟩, ⟨rfl, rfl, rfl, by simp, fun b' hb' _ => heap_alloc_old w.drew _ hb'⟩, by simp, fun ρ' he => ⟨AO.Low.tab T fun q hq v hv => ?_, hge, fun q hq => ?_, .inr ⟨w.heap.size, _, rfl, heap_alloc_new w.drew _, ?_, fun q c v hq hv => ?_⟩⟩, ?_⟩
  · rw [hf q hq] at hv
    split at hv
    · exact ((tab_low g hl (by omega) v hv).ext he).mono (Nat.le_succ L)
    · obtain ⟨u, _, rfl⟩ := List.mem_map.1 hv
      exact AV.Low.raw _ _ _
  · rw [hf q hq]
    split
    · exact hfl q (by omega)
    · rw [List.length_map, hz]
  · rw [hA, Array.size_append, Array.size_append, zeroCells_size, zeroCells_size, List.size_toArray, hol, hzl, ← Nat.add_mul, ← Nat.add_mul]
    congr 1
    omega
  · have hcw : c < wd := by
      have h1 := (List.getElem?_eq_some_iff.1 hv).1
      rw [hf q hq] at h1
      split at h1
      · rwa [hfl q (by omega)] at h1
      · rwa [List.length_map, hz] at h1
    rw [hf q hq] at hv
    rw [hA, Array.append_assoc]
    by_cases hqm : q < m0
    · rw [if_pos hqm] at hv
      have hlt : q * wd + c < m0 * wd := by
        have : (q + 1) * wd ≤ m0 * wd := Nat.mul_le_mul_right _ hqm
        rw [Nat.add_mul, Nat.one_mul] at this
        omega
      rw [Array.getElem?_append_left (by rw [List.size_toArray, hol]; exact hlt), List.getElem?_toArray, concs_map, List.getElem?_map, flat_get hfl q c hqm hcw, hv]
      have := tab_low g hl (show q < n0 by omega) v (List.mem_of_getElem? hv)
      rw [Option.map_some, this ρ' he]
    · rw [if_neg hqm] at hv
      rw [List.getElem?_map] at hv
      obtain ⟨u, hu1, rfl⟩ := Option.map_eq_some_iff.1 hv
      have hqw : m0 * wd ≤ q * wd := Nat.mul_le_mul_right _ (by omega)
      rw [Array.getElem?_append_right (by rw [List.size_toArray, hol]; omega), List.size_toArray, hol]
      have h3 : q * wd + c - m0 * wd = (q - m0) * wd + c := by rw [Nat.sub_mul]; omega
      rw [h3]
      have h4 : (q - m0) * wd + c < k0 * wd := by
        have : (q - m0 + 1) * wd ≤ k0 * wd := Nat.mul_le_mul_right _ (by omega)
        rw [Nat.add_mul, Nat.one_mul] at this
        omega
      rw [Array.getElem?_append_left (by rw [zeroCells_size, hzl]; exact h4)]
      have := zeroCells_get z.cells k0 (q - m0) c (by omega) (by omega)
      rw [hzl] at this
      rw [this, ← Array.getElem?_toList, hi4, hu1]
      rfl
  · unfold execOp
    simp only [resolve, invoke, builtin, Sem.run_bind, Sem.run_pure, Result.andThen_ok, List.map_toArray, List.map_cons, List.map_nil, hev1, hev2, hrun, AV.conc, updE_same, Option.map_some, Nat.zero_mul]
/-- clear of rows behind the known ones -/
theorem R.clt (htt : TTok P tt) {t T : TypeId} {x : Operand} {l wd off m c0 cap n0 : Nat} {f : Nat → List AV} {tl te : TI} (hx : evA τ x = some (.sl l wd off m c0)) (hl : hk l h = some (.tab wd n0 cap f T)) (ht : lk t tt = some tl) (hkd : tl.kind = .sl T) (hte : lk T tt = some te) (hsz : te.size = wd) (hz : (Nat.beq te.zero.length te.size && te.zero.all fun v => v.oneCell') = true)
    (hg : wantA ops ⟨none, .call { callee := .builtin .clear, args := #[x], argTypes := #[t] }, ty, ps, af, gd⟩ τ = some true) (hb : chainB h D [l] = true) (hm : 0 < m) (hn0 : n0 ≤ off) (hoff : off + m ≤ cap)
    (k : R P ops Q (actD h D [l]) E n L τ ((l, .tab wd n0 cap f T) :: h) F rest) : R P ops Q D E n L τ h F (⟨none, .call { callee := .builtin .clear, args := #[x], argTypes := #[t] }, ty, ps, af, gd⟩ :: rest) := by
  simp only [Bool.and_eq_true] at hz
  refine ⟨RL.acts (σ := Unit) (fun _ => True) (fun _ => .tup []) (fun _ => L) (fun _ => (l, .tab wd n0 cap f T) :: h) (fun _ => F) [l] hg rfl hb (fun _ _ => Nat.le_refl L) (fun ρ a w g => ?_) (fun _ _ => k.out)⟩
  have hz1 := Nat.eq_of_beq_eq_true hz.1
  have hgp := g.hp l _ hl
  have hh := hgp.2.2
  obtain ⟨z, hzr, hzc⟩ := (htt _ _ hte).zeroC w
  have hu := und_sl (htt _ _ ht) hkd w
  obtain ⟨b, cur, hr, hbk, hcs, hcur⟩ := tab_some hh (by omega)
  have hev1 : a.eval x = .slice (some ⟨b, off * wd, none⟩) m c0 := by rw [(g.eval x _ hx).2]; simp [AV.conc, hr]
  have hzl : z.cells.size = wd := by rw [← Array.length_toList, hzc, hz1, hsz]
  have hzs : (Builtin.zeroCells z.cells m).toList.length = m * wd := by rw [Array.length_toList, zeroCells_size, hzl]
  have hsub : off * wd + m * wd ≤ cap * wd := by rw [← Nat.add_mul]; exact Nat.mul_le_mul_right wd hoff
  have hst := run_storeCells_at P b (off * wd) T (Builtin.zeroCells z.cells m).toList 0 cur w hbk (by rw [hzs, hcs]; omega) (fun v hv => by
    obtain ⟨q, hq⟩ := List.getElem?_of_mem hv
    have : v ∈ te.zero := by
      rw [← hzc]
      simp only [Builtin.zeroCells, Array.toList_map, Array.toList_range, List.mem_map] at hv
      obtain ⟨q, _, rfl⟩ := hv
      rcases Nat.eq_zero_or_pos z.cells.size with h0 | h0
      · have hq := (List.getElem?_eq_some_iff.1 hq).1
        rw [hzs, ← hzl, h0] at hq
        omega
      · rw [getElem!_pos z.cells _ (Nat.mod_lt _ h0)]
        exact Array.getElem_mem_toList _
    exact List.all_eq_true.1 hz.2 v this)
  simp only [Nat.add_zero] at hst
  have hrun : (Builtin.clear_ #[t] ty #[.slice (some ⟨b, off * wd, none⟩) m c0]).run P w = .ok (.tuple #[]) (w.setRow b (cur.toList.take (off * wd) ++ (Builtin.zeroCells z.cells m).toList ++ cur.toList.drop (off * wd + (Builtin.zeroCells z.cells m).toList.length)).toArray) := by
    obtain ⟨m, rfl⟩ : ∃ q, m = q + 1 := ⟨m - 1, by omega⟩
    simp only [Builtin.clear_, List.getElem?_toArray, List.getElem?_cons_zero, Sem.run_bind, hu, Result.andThen_ok, hzr, hst, Sem.run_pure]
  unfold goes execOp
  simp only [resolve, invoke, builtin, Sem.run_bind, Sem.run_pure, Result.andThen_ok, List.map_toArray, List.map_cons, List.map_nil, hev1, hrun]
  refine ⟨(), ρ, trivial, rfl, fun _ _ => rfl, fun _ _ => rfl, g.set hl rfl hr hgp.2.1 ⟨hh.1, hh.2.1, .inr ⟨b, _, rfl, setRow_heap _ _ _ _ _ _ hbk, ?_, fun i c v hi hv => ?_⟩⟩ (fun b' hb' => setRow_other _ _ _ _ hb') (by simp) ⟨rfl, rfl, rfl⟩, fun l' b' hl' hb' hn => ?_⟩
  · rw [List.size_toArray]
    simp only [List.length_append, List.length_take, List.length_drop, hzs, Array.length_toList]
    omega
  · have hcw : c < wd := by rw [← hh.2.1 i hi]; exact (List.getElem?_eq_some_iff.1 hv).1
    have m1 : i * wd + wd ≤ off * wd := by rw [← Nat.succ_mul]; exact Nat.mul_le_mul_right wd (by omega)
    rw [List.getElem?_toArray, List.append_assoc, List.getElem?_append_left (by rw [List.length_take, Array.length_toList]; omega), List.getElem?_take, if_pos (by omega), Array.getElem?_toList]
    exact hcur i c v hi hv
  · by_cases e2 : b' = b
    · subst e2
      exact absurd (g.dis l l' b' ⟨_, hl, rfl⟩ hl' hr hb') (fun e => hn (by simp [e]))
    · exact (setRow_other _ _ _ _ e2).symm
/-- cap(x) -/
theorem R.cap (htt : TTok P tt) {t e : TypeId} {x : Operand} {l w0 off m cap : Nat} {ti : TI} (hx : evA τ x = some (.sl l w0 off m cap)) (ht : lk t tt = some ti) (hkd : ti.kind = .sl e)
    (hg : wantA ops ⟨some d, .call { callee := .builtin .cap, args := #[x], argTypes := #[t] }, ty, ps, af, gd⟩ τ = some true) (hb : (Nat.ble (d + 1) n && lookB D []) = true)
    (k : R P ops Q (lookD D []) E n L ((d, .raw (.int .i64 (cap : Int))) :: τ) h F rest) : R P ops Q D E n L τ h F (⟨some d, .call { callee := .builtin .cap, args := #[x], argTypes := #[t] }, ty, ps, af, gd⟩ :: rest) :=
  R.pure _ (fun ρ a w g => ⟨AV.Low.raw _ _ _, fun W => by
    have hu := und_sl (htt _ _ ht) hkd W
    unfold execOp
    simp only [resolve, invoke, builtin, Sem.run_bind, Sem.run_pure, Result.andThen_ok, List.map_toArray, List.map_cons, List.map_nil, (g.eval x _ hx).2, AV.conc]
    simp [Builtin.cap_, hu, goInt, AV.conc]⟩) hg hb k
/-- x[lo:hi:mx] -/
theorem R.sl3 (htt : TTok P tt) {t e : TypeId} {x lo hi mx : Operand} {l w0 off m cap : Nat} {k1 k2 k3 : IntKind} {j1 j2 j3 : Int} {ti te : TI} (l0 h1 m1 : Nat) (hx : evA τ x = some (.sl l w0 off m cap)) (ht : lk t tt = some ti) (hkd : ti.kind = .sl e) (hte : lk e tt = some te) (hsz : te.size = w0)
    (hlo : evA τ lo = some (.raw (.int k1 j1))) (hhi : evA τ hi = some (.raw (.int k2 j2))) (hmx : evA τ mx = some (.raw (.int k3 j3)))
    (hg : wantA ops ⟨some d, .slice t x (some lo) (some hi) (some mx), ty, ps, af, gd⟩ τ = some true) (hb : (Nat.ble (d + 1) n && lookB D [] && Nat.ble (l + 1) L) = true) (e1 : j1 = (l0 : Int)) (e2 : j2 = (h1 : Int)) (e3 : j3 = (m1 : Int)) (hlh : l0 ≤ h1) (hhm : h1 ≤ m1) (hc : m1 ≤ cap)
    (k : ∀ o', R P ops Q (lookD D []) E n L ((d, .sl l w0 o' (h1 - l0) (m1 - l0)) :: τ) h F rest) : R P ops Q D E n L τ h F (⟨some d, .slice t x (some lo) (some hi) (some mx), ty, ps, af, gd⟩ :: rest) := by
  simp only [Bool.and_eq_true] at hb
  refine R.pure (.sl l w0 (if m1 = l0 then off else off + l0) (h1 - l0) (m1 - l0)) (fun ρ a w g => ⟨fun ρ' he => ?_, fun W => ?_⟩) hg (by simp [hb.1]) (k _)
  · have : l + 1 ≤ L := by simpa [Nat.ble_eq] using hb.2
    simp [AV.conc, he l (by omega)]
  · have hu := und_sl (htt _ _ ht) hkd W
    have he := (htt _ _ hte).run_size W
    have v1 := (g.eval lo _ hlo).2
    have v2 := (g.eval hi _ hhi).2
    have v3 := (g.eval mx _ hmx).2
    simp only [AV.conc, e1, e2, e3] at v1 v2 v3
    have hbd : (Instr.sliceBounds true m cap (some (.int k1 (l0 : Int))) (some (.int k2 (h1 : Int))) (some (.int k3 (m1 : Int)))).run P W = .ok (l0, h1, m1) W := by
      simp [Instr.sliceBounds, run_bound hc, run_bound hhm, run_bound hlh]
    simp only [execOp, (g.eval x _ hx).2, AV.conc, Option.map_some, v1, v2, v3]
    rw [Sem.run_bind]
    simp only [Instr.sliceAt, Instr.slice, Sem.run_bind, hu, Result.andThen_ok, hbd, he, Sem.run_pure, hsz]
    by_cases e : m1 = l0
    · simp [e]
    · simp only [e, if_false]
      cases ρ l <;> simp [Addr.add, Nat.add_mul]
end
end Go.Proofs.Yteabncomclgncaa
namespace Go.Proofs.Yteabncomclgncaa
set_option linter.unusedVariables false
set_option linter.unusedSimpArgs false
set_option linter.unusedSectionVars false
open Go.RowKit
section
variable {P : Program} {ops : Array Oper} {Q : Exit → Act → World → Prop} {D : Option DD} {E : Base} {n L : Nat} {τ : List (Nat × AV)} {h : List (Nat × AO)} {F : World → Prop} {rest : List Oper}
  {d : Nat} {ty : TypeId} {ps : String} {af : Array Edge} {gd : Option (Nat × Bool)} {tt : List (Nat × TI)}
/-- x + y of texts -/
theorem R.cat {t u : TypeId} {x y : Operand} {a b : ByteArray} (hx : evA τ x = some (.raw (.string a))) (hy : evA τ y = some (.raw (.string b)))
    (hg : wantA ops ⟨some d, .binOp .add t x y u, ty, ps, af, gd⟩ τ = some true) (hb : (Nat.ble (d + 1) n && lookB D []) = true) (hle : a.size + b.size ≤ 9223372036854775807)
    (k : R P ops Q (lookD D []) E n L ((d, .raw (.string (a ++ b))) :: τ) h F rest) : R P ops Q D E n L τ h F (⟨some d, .binOp .add t x y u, ty, ps, af, gd⟩ :: rest) :=
  R.pure _ (fun ρ ac w g => ⟨AV.Low.raw _ _ _, fun W => by
    have h0 : ¬ (9223372036854775807 < (a.size : Int) + (b.size : Int)) := by omega
    simp [execOp, (g.eval x _ hx).2, (g.eval y _ hy).2, AV.conc, eqGuard, binOp, Op.stringOp, IntKind.max, IntKind.signed, IntKind.bits, h0]⟩) hg hb k
end
end Go.Proofs.Yteabncomclgncaa
namespace Go.Proofs.Yteabncomclgncaa
set_option linter.unusedVariables false
set_option linter.unusedSimpArgs false
set_option linter.unusedSectionVars false
open Go.RowKit
/-- what lies in a block; rw: it may be written -/
structure Fact where
  rw : Bool
  b : Nat
  ob : Obj
abbrev Fam := List Fact
def WrF (fs : Fam) (b : Nat) : Prop := ∃ p ∈ fs, p.rw = true ∧ p.b = b
def BlF (fs : Fam) (b : Nat) : Prop := ∃ p ∈ fs, p.b = b
theorem WrF.bl {fs : Fam} {b : Nat} (h : WrF fs b) : BlF fs b := by obtain ⟨p, h1, _, h2⟩ := h; exact ⟨p, h1, h2⟩
def ApF (fs : Fam) : Prop := fs.Pairwise fun p q => p.b = q.b → p.rw = false ∧ q.rw = false
def AtF (fs : Fam) (w : World) : Prop := ∀ p ∈ fs, w.heap[p.b]? = some p.ob
/-- what is known of the beginning of a call -/
structure Pre (h0 : List AO) (ρ0 : Env) (w0 : World) (fs0 : Fam) : Prop where
  al : ∀ i b, i < h0.length → ρ0 i = some b → b < w0.heap.size
  dis : ∀ i j o b, h0[i]? = some o → o.isRo = false → j < h0.length → ρ0 i = some b → ρ0 j = some b → i = j
  at0 : AtF fs0 w0
  ap0 : ApF fs0
  ro : ∀ i b, i < h0.length → ρ0 i = some b → ¬ WrF fs0 b
  wr : ∀ b, Wr0 h0 ρ0 b → ¬ BlF fs0 b
/-- what is told of memory without labels -/
structure FF (h0 : List AO) (ρ0 : Env) (w0 : World) (fs0 fs : Fam) (w : World) : Prop where
  at_ : AtF fs w
  ag : Ag (fun b => ¬ Wr0 h0 ρ0 b ∧ ¬ WrF fs0 b) w0 w
  ap : ApF fs
  fre : ∀ p ∈ fs, p.rw = true → w0.heap.size ≤ p.b ∨ Wr0 h0 ρ0 p.b ∨ WrF fs0 p.b
  bl : ∀ p ∈ fs, w0.heap.size ≤ p.b ∨ Wr0 h0 ρ0 p.b ∨ BlF fs0 p.b
  pre : Pre h0 ρ0 w0 fs0
section
variable {E : Base} {ρ : Env} {n L : Nat} {τ : List (Nat × AV)} {h : List (Nat × AO)} {F : World → Prop} {a : Act} {w : World} {h0 : List AO} {ρ0 : Env} {w0 : World} {fs0 fs : Fam}
/-- a state of which more, or less, is told -/
theorem Gam.strong (g : Gam E ρ n L τ h F a w) {F2 : World → Prop} (hF : ∀ w', Ag (fun b => ∀ l, wrA l h → ρ l ≠ some b) w w' → F2 w') : Gam E ρ n L τ h F2 a w := ⟨g.df, g.sz, g.tm, g.hp, g.dis, hF, g.ex, g.le, g.al⟩
theorem Gam.ff (g : Gam E ρ n L τ h (FF h0 ρ0 w0 fs0 fs) a w) : FF h0 ρ0 w0 fs0 fs w := g.fr w (Ag.refl _ _)
/-- the world with another thing in a block -/
def putB (w : World) (b : Nat) (o : Obj) : World := { w with heap := w.heap.set! b o }
theorem putB_same (w : World) {b : Nat} (o : Obj) (hb : b < w.heap.size) : (putB w b o).heap[b]? = some o := by simp [putB, hb]
theorem putB_ne (w : World) {b b' : Nat} (o : Obj) (h : b' ≠ b) : (putB w b o).heap[b']? = w.heap[b']? := by
  have e : b ≠ b' := fun e => h e.symm
  simp [putB, Array.getElem?_setIfInBounds, e]
theorem putB_ag (w : World) (b : Nat) (o : Obj) (D : Nat → Prop) (hD : ¬ D b) : Ag D w (putB w b o) := ⟨rfl, rfl, rfl, by simp [putB], fun b' _ hd => putB_ne w o fun e => hD (e ▸ hd)⟩
/-- a fact's block has no label that may be written -/
theorem Gam.apF (g : Gam E ρ n L τ h (FF h0 ρ0 w0 fs0 fs) a w) {p : Fact} (hp : p ∈ fs) {l : Nat} (hl : wrA l h) : ρ l ≠ some p.b := fun e => by
  have hlt := g.lt hl.live e
  have key : ∀ o : Obj, p.ob = o := fun o => by
    have h1 := (g.fr (putB w p.b o) (putB_ag w p.b o _ fun hd => hd l hl e)).at_ p hp
    rw [putB_same w o hlt] at h1
    exact (Option.some.inj h1).symm
  have h1 := key (.cells #[] 0 (0, 0))
  have h2 := key (.cells #[] 0 (0, 1))
  rw [h1] at h2
  simp at h2
/-- where a label that may be written lies -/
theorem Gam.freF (g : Gam E ρ n L τ h (FF h0 ρ0 w0 fs0 fs) a w) {l b : Nat} (hl : wrA l h) (hb : ρ l = some b) : w0.heap.size ≤ b ∨ Wr0 h0 ρ0 b ∨ WrF fs0 b := by
  rcases Nat.lt_or_ge b w0.heap.size with h1 | h1
  · right
    refine Classical.byContradiction fun hn => ?_
    have hn2 : ¬ Wr0 h0 ρ0 b ∧ ¬ WrF fs0 b := ⟨fun e => hn (.inl e), fun e => hn (.inr e)⟩
    have hlt := g.lt hl.live hb
    have key : ∀ o : Obj, w0.heap[b]? = some o := fun o => by
      have h2 := (g.fr (putB w b o) (putB_ag w b o _ fun hd => hd l hl hb)).ag.block b h1 hn2
      rw [← h2, putB_same w o hlt]
    have h4 := key (.cells #[] 0 (0, 0))
    have h5 := key (.cells #[] 0 (0, 1))
    rw [h4] at h5
    simp at h5
  · exact .inl h1
theorem FF.lt (hf : FF h0 ρ0 w0 fs0 fs w) {p : Fact} (hp : p ∈ fs) : p.b < w.heap.size := (Array.getElem?_eq_some_iff.1 (hf.at_ p hp)).1
/-- the same facts, fewer, in another order -/
theorem FF.less (hf : FF h0 ρ0 w0 fs0 fs w) {fs2 : Fam} (h2 : ∀ p ∈ fs2, p ∈ fs) (ha : ApF fs2) : FF h0 ρ0 w0 fs0 fs2 w := ⟨fun p hp => hf.at_ p (h2 p hp), hf.ag, ha, fun p hp => hf.fre p (h2 p hp), fun p hp => hf.bl p (h2 p hp), hf.pre⟩
/-- no label that is only read lies where a fact may be written -/
def roB (N : Nat) (h : List (Nat × AO)) : Bool := h.all fun p => !p.2.isRo || Nat.ble (p.1 + 1) N
theorem roB_lt {N : Nat} {h : List (Nat × AO)} (hr : roB N h = true) {l : Nat} {o : AO} (hl : hk l h = some o) (ho : o.isRo = true) : l < N := by
  have := List.all_eq_true.1 hr _ (lk_mem (hk_lk hl))
  simp only [ho, Bool.not_true, Bool.false_or, Nat.ble_eq] at this
  omega
theorem FF.inn (hf : FF h0 ρ0 w0 fs0 fs w) {i b : Nat} {o : AO} (hi : h0[i]? = some o) (hro : o.isRo = true) (hb : ρ0 i = some b) : ¬ WrF fs b := fun ⟨p, hp, hrw, he⟩ => by
  have hlt : i < h0.length := (List.getElem?_eq_some_iff.1 hi).1
  subst he
  rcases hf.fre p hp hrw with h1 | ⟨j, oj, h1, h2, h3⟩ | h1
  · have := hf.pre.al i _ hlt hb; omega
  · have := hf.pre.dis j i oj _ h1 h2 hlt h3 hb
    subst this
    rw [hi] at h1
    cases h1
    rw [hro] at h2; cases h2
  · exact hf.pre.ro i _ hlt hb h1
end
section
variable {P : Program} {ops : Array Oper} {Q : Exit → Act → World → Prop} {E : Base} {n L : Nat} {τ : List (Nat × AV)} {h : List (Nat × AO)} {F : World → Prop} {rest : List Oper}
/-- a state told anew -/
theorem R.again {α : Type} (L' : Nat) (τ' : α → List (Nat × AV)) (h' : α → List (Nat × AO)) (F' : α → World → Prop) (I : α → Prop) (hg : ∀ ρ a w, Gam E ρ n L τ h F a w → ∃ x ρ', I x ∧ Gam E ρ' n L' (τ' x) (h' x) (F' x) a w)
    (k : ∀ x, I x → R P ops Q none E n L' (τ' x) (h' x) (F' x) rest) : R P ops Q none E n L τ h F rest := ⟨fun ρ a w g => by
  obtain ⟨x, ρ', hI, g'⟩ := hg ρ a w g
  exact (k x hI).out ρ' a w g'⟩
theorem C.again {c : Code} {α : Type} (L' : Nat) (τ' : α → List (Nat × AV)) (h' : α → List (Nat × AO)) (F' : α → World → Prop) (I : α → Prop) (hg : ∀ ρ a w, Gam E ρ n L τ h F a w → ∃ x ρ', I x ∧ Gam E ρ' n L' (τ' x) (h' x) (F' x) a w)
    (k : ∀ x, I x → C P c Q E n L' (τ' x) (h' x) (F' x)) : C P c Q E n L τ h F := ⟨fun ρ a w g => by
  obtain ⟨x, ρ', hI, g'⟩ := hg ρ a w g
  exact (k x hI).out ρ' a w g'⟩
theorem X.again {e : Exit} {α : Type} (L' : Nat) (τ' : α → List (Nat × AV)) (h' : α → List (Nat × AO)) (F' : α → World → Prop) (I : α → Prop) (hg : ∀ ρ a w, Gam E ρ n L τ h F a w → ∃ x ρ', I x ∧ Gam E ρ' n L' (τ' x) (h' x) (F' x) a w)
    (k : ∀ x, I x → X Q e E n L' (τ' x) (h' x) (F' x)) : X Q e E n L τ h F := ⟨fun ρ a w g => by
  obtain ⟨x, ρ', hI, g'⟩ := hg ρ a w g
  exact (k x hI).out ρ' a w g'⟩
theorem X.wk {e : Exit} {F2 : World → Prop} (hF : ∀ w, F w → F2 w) (k : X Q e E n L τ h F2) : X Q e E n L τ h F := ⟨fun ρ a w g => k.out ρ a w (g.strong fun w' hw => hF _ (g.fr w' hw))⟩
theorem C.wk {c : Code} {F2 : World → Prop} (hF : ∀ w, F w → F2 w) (k : C P c Q E n L τ h F2) : C P c Q E n L τ h F := ⟨fun ρ a w g => k.out ρ a w (g.strong fun w' hw => hF _ (g.fr w' hw))⟩
theorem R.wk {F2 : World → Prop} (hF : ∀ w, F w → F2 w) (k : R P ops Q none E n L τ h F2 rest) : R P ops Q none E n L τ h F rest := ⟨fun ρ a w g => k.out ρ a w (g.strong fun w' hw => hF _ (g.fr w' hw))⟩
end
/-- in this object lies what o says -/
def Is (b : Nat) (ob : Obj) (o : AO) : Prop := ∀ (ρ : Env) (w : World), w.heap[b]? = some ob → o.holds ρ (some b) w
section
variable {E : Base} {ρ : Env} {n L : Nat} {τ : List (Nat × AV)} {h : List (Nat × AO)} {a : Act} {w : World} {h0 : List AO} {ρ0 : Env} {w0 : World} {fs0 fs : Fam}
/-- freeze: slot t held the label l, it holds the block itself now -/
theorem Gam.frz (g : Gam E ρ n L τ h (FF h0 ρ0 w0 fs0 fs) a w) (rw' : Bool) (t l : Nat) {o o' : AO} {v : AV} (v' : Nat → Value) (hl : hk l h = some o) (hro : o.isRo = false) (hv : lk t τ = some v) (hsome : ρ l ≠ none)
    (hc : ∀ (ρ : Env) b, ρ l = some b → v.conc ρ = v' b) (ho : ∀ b ob w, ρ l = some b → w.heap[b]? = some ob → o.holds ρ (some b) w → Is b ob o') :
    ∃ x : Nat × Obj, ∃ ρ', (Is x.1 x.2 o' ∧ (∀ p ∈ fs, p.b ≠ x.1)) ∧ Gam E ρ' n L ((t, .raw (v' x.1)) :: τ) ((l, .gone) :: h) (FF h0 ρ0 w0 fs0 (⟨rw', x.1, x.2⟩ :: fs)) a w := by
  obtain ⟨b, hb⟩ := Option.ne_none_iff_exists'.1 hsome
  have hw : wrA l h := ⟨o, hl, hro⟩
  have hlt := g.lt hw.live hb
  have hob : w.heap[b]? = some w.heap[b] := Array.getElem?_eq_getElem hlt
  have hh := g.hp l o hl
  rw [hb] at hh
  have hap : ∀ p ∈ fs, p.b ≠ b := fun p hp e => g.apF hp hw (by rw [hb, e])
  have hwr : ∀ l', wrA l' ((l, .gone) :: h) → l' ≠ l ∧ wrA l' h := fun l' ⟨o1, h1, h2⟩ => by
    rw [hk_cons] at h1
    split at h1
    · cases h1
    · rename_i e; exact ⟨fun e2 => e e2.symm, o1, h1, h2⟩
  refine ⟨(b, w.heap[b]), ρ, ⟨ho b _ w hb hob hh.2.2, hap⟩, ⟨g.df, g.sz, fun s u hu => ?_, fun l' o1 hl' => ?_, fun l1 l2 b1 h1 h2 h3 h4 => ?_, fun w' hw' => ?_, g.ex, g.le, g.al⟩⟩
  · rw [lk_cons] at hu
    split at hu
    · rename_i e
      subst e
      cases hu
      refine ⟨AV.Low.raw _ _ _, ?_⟩
      rw [(g.tm t v hv).2, hc ρ b hb]; rfl
    · exact g.tm s u hu
  · rw [hk_cons] at hl'
    split at hl'
    · cases hl'
    · exact g.hp l' o1 hl'
  · refine g.dis l1 l2 b1 (hwr l1 h1).2 ?_ h3 h4
    rw [hk_cons] at h2
    split at h2
    · exact absurd rfl h2
    · exact h2
  · have hff := g.ff
    -- the world with the old thing in the block
    obtain ⟨w2, hw2⟩ : ∃ w2, w2 = putB w' b w.heap[b] := ⟨_, rfl⟩
    have hsz : b < w'.heap.size := Nat.lt_of_lt_of_le hlt hw'.size
    have hb' : w'.heap[b]? = w.heap[b]? := hw'.block b hlt fun l' hl' e => (hwr l' hl').1 (g.dis l' l b (hwr l' hl').2 hw.live e hb)
    have hall := g.fr w' (hw'.mono fun b2 hb2 hd l' hl' e => hd l' (hwr l' hl').2 e)
    refine ⟨fun p hp => ?_, hall.ag, ?_, fun p hp hrw => ?_, fun p hp => ?_, hall.pre⟩
    · rcases List.mem_cons.1 hp with rfl | hp
      · exact hb'.trans hob
      · exact hall.at_ p hp
    · unfold ApF
      rw [List.pairwise_cons]
      exact ⟨fun q hq e => absurd e.symm (hap q hq), hall.ap⟩
    · rcases List.mem_cons.1 hp with rfl | hp
      · exact g.freF hw hb
      · exact hall.fre p hp hrw
    · rcases List.mem_cons.1 hp with rfl | hp
      · exact (g.freF hw hb).imp id (Or.imp id WrF.bl)
      · exact hall.bl p hp
/-- thaw: slot t held a block of which a fact is told; it holds a label now, that may be written -/
theorem Gam.thaw (g : Gam E ρ n L τ h (FF h0 ρ0 w0 fs0 fs) a w) (hE : E = ⟨h0.length, ρ0, E.df⟩) (hrob : roB E.N h = true) (hr0 : ∀ l o, hk l h = some o → o.isRo = true → ∃ o0, h0[l]? = some o0 ∧ o0.isRo = true) {p : Fact} {fs2 : Fam} (hp : p ∈ fs) (hrw : p.rw = true) (h2 : ∀ q ∈ fs2, q ∈ fs ∧ q.b ≠ p.b) (ha2 : ApF fs2) (t : Nat) {o : AO} {v : Value} (v' : AV) (hv : lk t τ = some (.raw v))
    (hro : o.isRo = false) (hc : ∀ ρ : Env, ρ L = some p.b → v'.conc ρ = v) (hb : v'.bd (L + 1) = true) (ho : Is p.b p.ob o) (hlow : o.Bd 0) :
    Gam E (updE ρ L (some p.b)) n (L + 1) ((t, v') :: τ) ((L, o) :: h) (FF h0 ρ0 w0 fs0 fs2) a w := by
  have hs : ∀ l, l < L → updE ρ L (some p.b) l = ρ l := fun l hl => updE_ne ρ _ (by omega)
  have hff := g.ff
  have hlive : ∀ l b, hk l h ≠ none → ρ l = some b → b ≠ p.b := fun l b hl hlb e => by
    subst e
    cases hx : hk l h with
    | none => exact hl hx
    | some o1 =>
      cases hro1 : o1.isRo with
      | false => exact g.apF hp ⟨o1, hx, hro1⟩ hlb
      | true =>
        have hlN := roB_lt hrob hx hro1
        obtain ⟨o0, h3, h4⟩ := hr0 l o1 hx hro1
        have : ρ l = ρ0 l := by rw [g.ex l hlN, hE]
        exact hff.inn h3 h4 (this ▸ hlb) ⟨p, hp, hrw, rfl⟩
  have hwr : ∀ l, L ≠ l → wrA l ((L, o) :: h) → wrA l h := fun l e ⟨o1, h1, h3⟩ => by
    rw [hk_cons, if_neg e] at h1
    exact ⟨o1, h1, h3⟩
  have hkL : ∀ l, L ≠ l → hk l ((L, o) :: h) = hk l h := fun l e => by rw [hk_cons, if_neg e]
  have hLL : ∀ l, hk l h ≠ none → l < L := fun l hl => by
    cases hx : hk l h with
    | none => exact absurd hx hl
    | some o1 => exact (g.hp l o1 hx).1
  refine ⟨g.df, g.sz, fun s u hu => ?_, fun l o1 hl => ?_, fun l1 l2 b1 h1 h3 h4 h5 => ?_, fun w' hw' => ?_, fun l hl => ?_, Nat.le_trans g.le (Nat.le_succ L), fun l b hl hlb => ?_⟩
  · rw [lk_cons] at hu
    split at hu
    · rename_i e
      subst e
      cases hu
      exact ⟨bdLow hb _, by rw [(g.tm t _ hv).2, hc _ (updE_same _ _ _)]; rfl⟩
    · have := g.tm s u hu
      exact ⟨(this.1.ext hs).mono (Nat.le_succ L), by rw [this.2, this.1 _ hs]⟩
  · rw [hk_cons] at hl
    split at hl
    · rename_i e
      subst e
      rw [updE_same]
      have e2 : o1 = o := by cases o <;> simp at hl <;> exact hl.symm
      subst e2
      exact ⟨Nat.lt_succ_self _, (hlow.low _).mono (Nat.zero_le _), ho _ w (hff.at_ p hp)⟩
    · have hh := g.hp l o1 hl
      refine ⟨Nat.lt_succ_of_lt hh.1, (hh.2.1.ext hs).mono (Nat.le_succ L), ?_⟩
      rw [hs l hh.1]
      exact (hh.2.1 _ hs _ _).1 hh.2.2
  · by_cases e1 : L = l1 <;> by_cases e2 : L = l2
    · omega
    · rw [hkL l2 e2] at h3
      rw [← e1, updE_same] at h4
      rw [hs l2 (hLL l2 h3)] at h5
      cases h4
      exact absurd rfl (hlive l2 _ h3 h5)
    · have h1' := hwr l1 e1 h1
      rw [← e2, updE_same] at h5
      rw [hs l1 (hLL l1 h1'.live)] at h4
      cases h5
      exact absurd rfl (hlive l1 _ h1'.live h4)
    · have h1' := hwr l1 e1 h1
      rw [hkL l2 e2] at h3
      rw [hs l1 (hLL l1 h1'.live)] at h4
      rw [hs l2 (hLL l2 h3)] at h5
      exact g.dis l1 l2 b1 h1' h3 h4 h5
  · have hlt := hff.lt hp
    obtain ⟨w2, hw2⟩ : ∃ w2, w2 = putB w' p.b p.ob := ⟨_, rfl⟩
    have hsz : p.b < w'.heap.size := Nat.lt_of_lt_of_le hlt hw'.size
    have hag : Ag (fun b => ∀ l, wrA l h → ρ l ≠ some b) w w2 := by
      subst hw2
      refine ⟨hw'.os, hw'.tape, hw'.output, by simpa [putB] using hw'.size, fun b hb1 hd => ?_⟩
      by_cases e : b = p.b
      · subst e
        rw [putB_same _ _ hsz, hff.at_ p hp]
      · rw [putB_ne _ _ e]
        refine hw'.block b hb1 fun l hl hlb => ?_
        by_cases e1 : L = l
        · rw [← e1, updE_same] at hlb
          cases hlb
          exact e rfl
        · have h1' := hwr l e1 hl
          rw [hs l (hLL l h1'.live)] at hlb
          exact hd l h1' hlb
    have hall := g.fr w2 hag
    subst hw2
    refine ⟨fun q hq => ?_, ⟨hall.ag.os, hall.ag.tape, hall.ag.output, by simpa [putB] using hall.ag.size, fun b hb1 hd => ?_⟩, ha2, fun q hq => hall.fre q (h2 q hq).1, fun q hq => hall.bl q (h2 q hq).1, hall.pre⟩
    · have := hall.at_ q (h2 q hq).1
      rwa [putB_ne _ _ (h2 q hq).2] at this
    · have h6 := hall.ag.block b hb1 hd
      rwa [putB_ne] at h6
      intro e
      subst e
      rcases hall.fre p hp hrw with h7 | h7 | h7
      · omega
      · exact hd.1 h7
      · exact hd.2 h7
  · rw [hs l (Nat.lt_of_lt_of_le hl g.le)]; exact g.ex l hl
  · rcases Nat.lt_or_ge l L with h1 | h1
    · exact g.al l b h1 ((hs l h1).symm.trans hlb)
    · obtain rfl : l = L := by omega
      rw [updE_same] at hlb
      cases hlb
      exact hff.lt hp
end
end Go.Proofs.Yteabncomclgncaa
namespace Go.Proofs.Yteabncomclgncaa
set_option linter.unusedVariables false
set_option linter.unusedSimpArgs false
set_option linter.unusedSectionVars false
open Go.RowKit
def AtG {σ : Type} (E : Base) (n L : Nat) (Inv : σ → Prop) (T : σ → List (Nat × AV)) (H : σ → List (Nat × AO)) (F : σ → World → Prop) (μ : σ → Nat) (m : Nat) (a : Act) (w : World) : Prop := ∃ s, Inv s ∧ μ s < m ∧ ∃ ρ, Gam E ρ n L (T s) (H s) (F s) a w
section
variable {P : Program} {Q : Exit → Act → World → Prop} {E : Base} {n L : Nat} {τ : List (Nat × AV)} {h : List (Nat × AO)} {F : World → Prop}
theorem atG_of {σ : Type} {L2 : Nat} {Inv : σ → Prop} {T : σ → List (Nat × AV)} {H : σ → List (Nat × AO)} {F2 : σ → World → Prop} {μ : σ → Nat} {m : Nat} {ρ : Env} {a : Act} {w : World} (g : Gam E ρ n L τ h F a w) (rl : List (Nat × Nat)) (s : σ) (hI : Inv s) (hm : μ s < m) (hb : rnB E.N L2 L rl = true)
    (ht : HasT (rnF rl) L2 τ (T s)) (hh : HasH (rnF rl) L2 h (H s)) (hnd : nodupB (((H s).map (·.1)).map (rnF rl)) = true) (hF : ∀ w, F w → F2 s w) : AtG E n L2 Inv T H F2 μ m a w := by
  obtain ⟨h1, h2, h3⟩ := rn_ok hb
  exact ⟨s, hI, hm, _, g.imp (rnF rl) L2 (T s) (H s) (F2 s) h1 h2 h3 ht hh hnd hF⟩
theorem X.backG {σ : Type} {L2 : Nat} {Inv : σ → Prop} {T : σ → List (Nat × AV)} {H : σ → List (Nat × AO)} {F2 : σ → World → Prop} {μ : σ → Nat} {m : Nat} (rl : List (Nat × Nat)) (s : σ) (hI : Inv s) (hm : μ s < m) (hb : rnB E.N L2 L rl = true)
    (ht : HasT (rnF rl) L2 τ (T s)) (hh : HasH (rnF rl) L2 h (H s)) (hnd : nodupB (((H s).map (·.1)).map (rnF rl)) = true) (hF : ∀ w, F w → F2 s w) : X (Exit.then (AtG E n L2 Inv T H F2 μ m) Q) .normal E n L τ h F :=
  ⟨fun ρ a w g => atG_of g rl s hI hm hb ht hh hnd hF⟩
theorem C.loopG {σ : Type} {c : Code} {L2 : Nat} (Inv : σ → Prop) (T : σ → List (Nat × AV)) (H : σ → List (Nat × AO)) (F2 : σ → World → Prop) (μ : σ → Nat) (rl : List (Nat × Nat)) (s : σ) (hI : Inv s) (hb : rnB E.N L2 L rl = true)
    (ht : HasT (rnF rl) L2 τ (T s)) (hh : HasH (rnF rl) L2 h (H s)) (hnd : nodupB (((H s).map (·.1)).map (rnF rl)) = true) (hF : ∀ w, F w → F2 s w)
    (round : ∀ s, Inv s → C P c (Exit.then (AtG E n L2 Inv T H F2 μ (μ s)) Q) E n L2 (T s) (H s) (F2 s)) : C P (.loop c) Q E n L τ h F := ⟨fun ρ a w g => by
  obtain ⟨s0, hI0, hm0, ρ0, g0⟩ := atG_of (μ := μ) (m := μ s + 1) (F2 := F2) g rl s hI (Nat.lt_succ_self _) hb ht hh hnd hF
  refine wp_loop_ghost (fun k a w => ∃ s, Inv s ∧ μ s = k ∧ ∃ ρ, Gam E ρ n L2 (T s) (H s) (F2 s) a w) (μ s0) ⟨s0, hI0, rfl, ρ0, g0⟩ ?_
  rintro k a w ⟨s, hs, rfl, ρ, g⟩
  refine wp_mono ((round s hs).out ρ a w g) ?_
  intro e a' w' hq
  cases e with
  | normal =>
    obtain ⟨s', h1, h2, h3⟩ := hq
    exact ⟨μ s', h2, s', h1, rfl, h3⟩
  | exit id => exact hq
  | goto l => exact hq
  | ret => exact hq
  | panic ch => exact hq
  | outgrown => exact hq⟩
theorem C.cutG {σ : Type} {x y : Code} (L2 : Nat) (Inv : σ → Prop) (T : σ → List (Nat × AV)) (H : σ → List (Nat × AO)) (F2 : σ → World → Prop) (kx : C P x (Exit.then (AtG E n L2 Inv T H F2 (fun _ => 0) 1) Q) E n L τ h F) (ky : ∀ s, Inv s → C P y Q E n L2 (T s) (H s) (F2 s)) : C P (.seq x y) Q E n L τ h F :=
  ⟨fun ρ a w g => wp_seq (wp_mono (kx.out ρ a w g) fun e a' w' hq => by
    cases e with
    | normal =>
      obtain ⟨s', h1, h2, ρ', h3⟩ := hq
      exact (ky s' h1).out ρ' a' w' h3
    | exit id => exact hq
    | goto l => exact hq
    | ret => exact hq
    | panic ch => exact hq
    | outgrown => exact hq)⟩
end
/-- what a call comes to -/
def OutcF {σ : Type} (h0 : List AO) (m : Nat) (ρ : Env) (w : World) (fs : Fam) (G : σ → Prop) (val : σ → AV) (post : σ → List (Nat × AO)) (fs' : σ → Fam) (e : Ending) (w' : World) : Prop :=
  ∃ s ρ', G s ∧ (∀ i, i < h0.length → ρ' i = ρ i) ∧ e = .returned ((val s).conc ρ') ∧ (val s).Low ρ' m ∧ FF h0 ρ w fs (fs' s) w' ∧
    (∀ l o, hk l (post s) = some o → l < m ∧ o.Low ρ' m ∧ o.holds ρ' (ρ' l) w') ∧ (∀ l l' b, wrA l (post s) → hk l' (post s) ≠ none → ρ' l = some b → ρ' l' = some b → l = l') ∧
    (∀ l b, l < m → ρ' l = some b → b < w'.heap.size) ∧ (∀ l b, h0.length ≤ l → hk l (post s) ≠ none → ρ' l = some b → w.heap.size ≤ b ∨ Wr0 h0 ρ b) ∧ (∀ i o, i < h0.length → hk i (post s) = some o → o.isRo = false → ∃ o0, h0[i]? = some o0 ∧ o0.isRo = false) ∧
    (∀ l b, wrA l (post s) → ρ' l = some b → ¬ BlF (fs' s) b)
def SpecF (P : Program) (f : FuncId) (avs : List AV) (h0 : List AO) (m : Nat) {σ : Type} (fs : Fam) (G : σ → Prop) (val : σ → AV) (post : σ → List (Nat × AO)) (fs' : σ → Fam) : Prop :=
  ∀ (ρ : Env) (w : World), (∀ (i : Nat) (o : AO), h0[i]? = some o → o.holds ρ (ρ i) w) → Pre h0 ρ w fs → Calls P f (AV.concs ρ avs).toArray w (OutcF h0 m ρ w fs G val post fs')
theorem Pre.ff {h0 : List AO} {ρ : Env} {w : World} {fs : Fam} (hp : Pre h0 ρ w fs) {w' : World} (hw : Ag (fun b => ¬ Wr0 h0 ρ b) w w') : FF h0 ρ w fs fs w' := ⟨fun p hq => by
    have := hp.at0 p hq
    rw [← this]
    exact hw.block p.b (Array.getElem?_eq_some_iff.1 this).1 fun hx => hp.wr p.b hx ⟨p, hq, rfl⟩, hw.mono fun b _ h => h.1, hp.ap0, fun p hq hrw => .inr (.inr ⟨p, hq, hrw, rfl⟩), fun p hq => .inr (.inr ⟨p, hq, rfl⟩), hp⟩
section
variable {P : Program} {Q : Exit → Act → World → Prop} {E : Base} {n L : Nat} {τ : List (Nat × AV)} {h : List (Nat × AO)} {F : World → Prop}
/-- the beginning of a call, facts told -/
theorem CL.enterF {f : FuncId} {fn : Func} {c : Code} (hf : P.funcs[f]? = some fn) (hb : fn.body = some c) (ρ : Env) (avs : List AV) (h0 : List AO) (w : World) (fs : Fam) (R : Ending → World → Prop) (n : Nat) (hn : fn.ntmps = n) (hlen : Nat.ble avs.length n = true) (hbd : AV.bds h0.length avs = true)
    (hbo : ∀ o ∈ h0, o.Bd h0.length) (hh : ∀ (i : Nat) (o : AO), h0[i]? = some o → o.holds ρ (ρ i) w) (hp : Pre h0 ρ w fs)
    (k : C P c (bodyPost P fn R) ⟨h0.length, ρ, []⟩ n h0.length (slots 0 avs) (labels 0 h0) (FF h0 ρ w fs fs)) : Calls P f (AV.concs ρ avs).toArray w R := by
  refine CL.enter hf hb ρ avs h0 w R n hn hlen hbd hbo hh hp.dis (fun i b hi hb => hp.al i b hi hb) (fun ρ' a' w' g => k.out ρ' a' w' (g.strong fun x hx => hp.ff (g.fr x hx)))
theorem SpecF.of {f : FuncId} {avs : List AV} {h0 : List AO} {m : Nat} {σ : Type} {fs : Fam} {G : σ → Prop} {val : σ → AV} {post : σ → List (Nat × AO)} {fs' : σ → Fam} {fn : Func} {c : Code} (hf : P.funcs[f]? = some fn) (hb : fn.body = some c) {n : Nat} (hn : fn.ntmps = n) (hB : (Nat.ble avs.length n && AV.bds h0.length avs) = true) (hbo : ∀ o ∈ h0, o.Bd h0.length)
    (k : ∀ ρ w, C P c (bodyPost P fn (OutcF h0 m ρ w fs G val post fs')) ⟨h0.length, ρ, []⟩ n h0.length (slots 0 avs) (labels 0 h0) (FF h0 ρ w fs fs)) : SpecF P f avs h0 m fs G val post fs' := fun ρ w h1 h2 => by
  simp only [Bool.and_eq_true] at hB
  exact CL.enterF hf hb ρ avs h0 w fs _ n hn hB.1 hB.2 hbo h1 h2 (k ρ w)
/-- a plain contract whose walk speaks of blocks without labels -/
theorem Spec.ofF {f : FuncId} {avs : List AV} {h0 : List AO} {m : Nat} {σ : Type} {G : σ → Prop} {val : σ → AV} {post : σ → List (Nat × AO)} {fn : Func} {c : Code} (hf : P.funcs[f]? = some fn) (hb : fn.body = some c) {n : Nat} (hn : fn.ntmps = n) (hB : (Nat.ble avs.length n && AV.bds h0.length avs) = true) (hbo : ∀ o ∈ h0, o.Bd h0.length)
    (k : ∀ ρ w, C P c (bodyPost P fn (Outc h0 m ρ w G val post)) ⟨h0.length, ρ, []⟩ n h0.length (slots 0 avs) (labels 0 h0) (FF h0 ρ w [] [])) : Spec P f avs h0 m G val post := fun ρ w h1 h2 h3 => by
  simp only [Bool.and_eq_true] at hB
  have hp : Pre h0 ρ w [] := ⟨h3, h2, fun p hp => (by cases hp), List.Pairwise.nil, fun i b _ _ ⟨p, hp, _⟩ => (by cases hp), fun b _ ⟨p, hp, _⟩ => (by cases hp)⟩
  exact CL.enterF hf hb ρ avs h0 w [] _ n hn hB.1 hB.2 hbo h1 hp (k ρ w)
theorem FF.ag0 {h0 : List AO} {ρ0 : Env} {w0 : World} {fs : Fam} {w : World} (hf : FF h0 ρ0 w0 [] fs w) : Ag (fun b => ¬ Wr0 h0 ρ0 b) w0 w := hf.ag.mono fun b _ h => ⟨h, fun ⟨p, hp, _⟩ => by cases hp⟩
/-- the end of such a one -/
theorem X.finS {tt : List (Nat × TI)} (htt : TTok P tt) {fn : Func} {σ : Type} {h0 : List AO} {m : Nat} {ρ0 : Env} {w0 : World} {fs : Fam} {G : σ → Prop} {val : σ → AV} {post : σ → List (Nat × AO)} {vs : List AV} (s : σ) (rl : List (Nat × Nat)) (hG : G s) (hr : resA tt h τ fn.results.toList = some vs)
    (hv : resV vs = (val s).ren (rnF rl)) (hb : ((val s).bd m && rnB h0.length m L rl && newB h0.length rl h (post s) && oldB h0 (post s) && nodupB (((post s).map (·.1)).map (rnF rl))) = true) (hh : HasH (rnF rl) m h (post s)) (e : Exit) (he : e = .ret ∨ e = .normal) :
    X (bodyPost P fn (Outc h0 m ρ0 w0 G val post)) e ⟨h0.length, ρ0, []⟩ n L τ h (FF h0 ρ0 w0 [] fs) := X.wk (fun w hw => hw.ag0) (X.fin htt s rl hG hr hv hb hh e he)
/-- the end of a call whose contract speaks of blocks without labels -/
theorem X.finF {tt : List (Nat × TI)} (htt : TTok P tt) {fn : Func} {σ : Type} {h0 : List AO} {m : Nat} {ρ0 : Env} {w0 : World} {fs0 fsE : Fam} {G : σ → Prop} {val : σ → AV} {post : σ → List (Nat × AO)} {fs' : σ → Fam} {vs : List AV} (s : σ) (rl : List (Nat × Nat)) (hG : G s) (hr : resA tt h τ fn.results.toList = some vs)
    (hv : resV vs = (val s).ren (rnF rl)) (hb : ((val s).bd m && rnB h0.length m L rl && newB h0.length rl h (post s) && oldB h0 (post s) && nodupB (((post s).map (·.1)).map (rnF rl))) = true) (hh : HasH (rnF rl) m h (post s)) (e : Exit) (he : e = .ret ∨ e = .normal)
    (hfs : ∀ w, FF h0 ρ0 w0 fs0 fsE w → ApF (fs' s)) (hin : ∀ p ∈ fs' s, p ∈ fsE) (hall : ∀ p ∈ fs0, p.rw = true → BlF fsE p.b) :
    X (bodyPost P fn (OutcF h0 m ρ0 w0 fs0 G val post fs')) e ⟨h0.length, ρ0, []⟩ n L τ h (FF h0 ρ0 w0 fs0 fsE) := by
  have key : ∀ ρ a w, Gam ⟨h0.length, ρ0, []⟩ ρ n L τ h (FF h0 ρ0 w0 fs0 fsE) a w → OutcF h0 m ρ0 w0 fs0 G val post fs' (.returned ((resV vs).conc ρ)) w := fun ρ a w g => by
    simp only [Bool.and_eq_true] at hb
    obtain ⟨⟨⟨⟨h1, h2⟩, h3⟩, h4⟩, h5⟩ := hb
    obtain ⟨h6, h7, h8⟩ := rn_ok h2
    have g2 := g.imp (rnF rl) m [] (post s) _ h6 h7 h8 trivial hh h5 (fun _ h => h)
    refine ⟨s, fun l => ρ (rnF rl l), hG, fun i hi => g2.ex i hi, by rw [hv, ren_conc], bdLow h1 _, g.ff.less hin (hfs w g.ff), g2.hp, g2.dis, fun l b h1 h3 => g.al (rnF rl l) b (h7 l h1) h3, fun l b hl hlive hb => ?_, oldB_mem h4, fun l b hl hb ⟨p, hp, he⟩ => ?_⟩
    · rcases g.freF (newB_mem h3 l hlive hl) hb with h9 | h9 | ⟨p, hp, hrw, he⟩
      · exact .inl h9
      · exact .inr h9
      · obtain ⟨q, hq, hqe⟩ := hall p hp hrw
        exact absurd (by rw [hqe, he]; exact hb) (g.apF hq (newB_mem h3 l hlive hl))
    · exact g2.apF (hin p hp) hl (by rw [he]; exact hb)
  rcases he with rfl | rfl
  · exact X.ret htt hr key
  · exact X.end_ htt hr key
end
end Go.Proofs.Yteabncomclgncaa
namespace Go.Proofs.Yteabncomclgncaa
set_option linter.unusedVariables false
set_option linter.unusedSimpArgs false
set_option linter.unusedSectionVars false
open Go.RowKit
open Classical in
/-- of two worlds: in S the second's blocks -/
noncomputable def mixW (w w' : World) (S : Nat → Prop) : World := { w with heap := Array.ofFn fun i : Fin w.heap.size => if S i.1 then w'.heap.getD i.1 w.heap[i] else w.heap[i] }
theorem mixW_size (w w' : World) (S : Nat → Prop) : (mixW w w' S).heap.size = w.heap.size := by simp [mixW]
theorem mixW_in (w w' : World) {S : Nat → Prop} {b : Nat} (hb : b < w.heap.size) (hb' : b < w'.heap.size) (hS : S b) : (mixW w w' S).heap[b]? = w'.heap[b]? := by
  simp [mixW, hb, hS, hb']
theorem mixW_out (w w' : World) {S : Nat → Prop} {b : Nat} (hS : ¬ S b) : (mixW w w' S).heap[b]? = w.heap[b]? := by
  by_cases hb : b < w.heap.size
  · simp [mixW, hb, hS]
  · simp [mixW, hb]
section
variable {E : Base} {ρ : Env} {n L : Nat} {τ : List (Nat × AV)} {h : List (Nat × AO)} {F : World → Prop} {a : Act} {w : World} {H0 : List AO} {R0 : Env} {W0 : World} {FS0 fs : Fam}
/-- the same state, where blocks without labels hold other things -/
theorem Gam.bump (g : Gam E ρ n L τ h F a w) {w2 : World} (hsz : w2.heap.size = w.heap.size) (hlab : ∀ l b, hk l h ≠ none → ρ l = some b → w2.heap[b]? = w.heap[b]?) : Gam E ρ n L τ h (fun x => Ag (fun b => ∀ l, wrA l h → ρ l ≠ some b) w2 x) a w2 :=
  ⟨g.df, g.sz, g.tm, fun l o hl => by
    have hh := g.hp l o hl
    exact ⟨hh.1, hh.2.1, holds_same hh.2.2 fun b hb => hlab l b (by rw [hl]; simp) hb⟩, g.dis, fun w' hw => hw, g.ex, g.le, fun l b hl hb => by rw [hsz]; exact g.al l b hl hb⟩
/-- the labels behind a call -/
theorem hk_behind {h0 : List AO} {ms : List Nat} {L : Nat} {post : List (Nat × AO)} (hnd : nodupB ((post.map (·.1)).map (renF ms L)) = true) {l : Nat} {o : AO} (ho : hk l (renH (renF ms L) post ++ (goneL h0 ms ++ h)) = some o) :
    (∃ i oi, hk i post = some oi ∧ renF ms L i = l ∧ o = oi.ren (renF ms L)) ∨ (l ∉ (goneL h0 ms).map (·.1) ∧ hk l h = some o) := by
  have hinj := nodupB_inj hnd
  simp only [hk_append] at ho
  split at ho
  · rename_i hm
    obtain ⟨i, hi, rfl⟩ := renH_mem.1 hm
    rw [hk_renH hinj i hi] at ho
    cases hx : hk i post with
    | none => rw [hx] at ho; cases ho
    | some oi =>
      rw [hx] at ho
      simp only [Option.map_some, Option.some.injEq] at ho
      exact .inl ⟨i, oi, hx, rfl, ho.symm⟩
  · split at ho
    · rw [goneL_none] at ho; cases ho
    · rename_i hn; exact .inr ⟨hn, ho⟩
end
section
variable {P : Program} {ops : Array Oper} {Q : Exit → Act → World → Prop} {D : Option DD} {E : Base} {n L : Nat} {τ : List (Nat × AV)} {h : List (Nat × AO)} {rest : List Oper}
  {d : Nat} {op : Op} {ty : TypeId} {ps : String} {af : Array Edge} {gd : Option (Nat × Bool)} {tt : List (Nat × TI)} {H0 : List AO} {R0 : Env} {W0 : World} {FS0 : Fam}
/-- a call -/
theorem R.cfG {σ : Type} {G : σ → Prop} {val : σ → AV} {post : σ → List (Nat × AO)} {f : FuncId} {x : Operand} {cs : List AV} {xs : Array Operand} {ats : Array TypeId} {avs : List AV} {h0 : List AO} {m : Nat} {fs : Fam} {fs' : σ → Fam} (fr : Fam) (ms : List Nat) (sp : SpecF P f avs h0 m fs G val post fs') (eg : ∀ args w, (callFunc f args).run P w = .ok (.enter f args) w)
    (hapG : ∀ ρ a w, Gam E ρ n L τ h (FF H0 R0 W0 FS0 (fs ++ fr)) a w → ∀ l b, hk l h ≠ none → ρ l = some b → ¬ WrF fs b)
    (hf : evA τ x = some (.fn f cs)) {l : List AV} (hxs : evList (evA τ) xs.toList = some l) (hx : l ++ cs = AV.rens (renF ms L) avs) (hin : HasIn (renF ms L) h 0 h0) (hm : Nat.ble h0.length m = true) (hpost : ∀ s, ∀ l ∈ (post s).map (·.1), l < m) (hnd : ∀ s, nodupB (((post s).map (·.1)).map (renF ms L)) = true)
    (hg : wantA ops ⟨some d, .call { callee := .value x, args := xs, argTypes := ats }, ty, ps, af, gd⟩ τ = some true) (hb : (Nat.ble (d + 1) n && Nat.beq h0.length ms.length && onceB h0 ms && chainB h D ((goneL h0 ms).map (·.1))) = true)
    (k : ∀ s, G s → R P ops Q (actD h D ((goneL h0 ms).map (·.1))) E n (L + (m - h0.length)) ((d, (val s).ren (renF ms L)) :: τ) (renH (renF ms L) (post s) ++ (goneL h0 ms ++ h)) (FF H0 R0 W0 FS0 (fs' s ++ fr)) rest) :
    R P ops Q D E n L τ h (FF H0 R0 W0 FS0 (fs ++ fr)) (⟨some d, .call { callee := .value x, args := xs, argTypes := ats }, ty, ps, af, gd⟩ :: rest) := by
  simp only [Bool.and_eq_true] at hb
  obtain ⟨⟨⟨h1, h2⟩, h3⟩, h4⟩ := hb
  have hlen : h0.length = ms.length := Nat.eq_of_beq_eq_true h2
  have hm' : h0.length ≤ m := by simpa [Nat.ble_eq] using hm
  refine ⟨RL.acts G (fun s => (val s).ren (renF ms L)) (fun _ => L + (m - h0.length)) (fun s => renH (renF ms L) (post s) ++ (goneL h0 ms ++ h)) (fun s => FF H0 R0 W0 FS0 (fs' s ++ fr)) ((goneL h0 ms).map (·.1)) hg h1 h4 (fun _ _ => Nat.le_add_right _ _) (fun ρ a w g => ?_) (fun s hs => (k s hs).out)⟩
  refine goes_callv rfl (g.eval x _ hf).2 eg ?_
  have hargs : xs.map a.eval ++ (AV.concs ρ cs).toArray = (AV.concs (fun i => ρ (renF ms L i)) avs).toArray := by
    have := evList_conc (evB g) _ _ hxs
    have e2 := congrArg (AV.concs ρ) hx
    rw [rens_conc, concs_append, ← this] at e2
    apply Array.ext'
    rw [Array.toList_append, Array.toList_map, ← e2]
  rw [hargs]
  have hff := g.ff
  have hget := hasIn_get hin
  simp only [Nat.zero_add] at hget
  have rlive : ∀ i, i < h0.length → hk (renF ms L i) h ≠ none ∧ renF ms L i < L := fun i hi => by
    obtain ⟨o, ho⟩ : ∃ o, h0[i]? = some o := ⟨_, List.getElem?_eq_getElem hi⟩
    obtain ⟨o', h5, _⟩ := hget i o ho
    exact ⟨by rw [h5]; simp, (g.hp _ _ h5).1⟩
  have hfsL : ∀ p ∈ fs, p ∈ fs ++ fr := fun p hp => List.mem_append_left _ hp
  have hfrR : ∀ p ∈ fr, p ∈ fs ++ fr := fun p hp => List.mem_append_right _ hp
  have hwrL : ∀ b, WrF fs b → WrF (fs ++ fr) b := fun b ⟨p, hp, q⟩ => ⟨p, hfsL p hp, q⟩
  have hap3 := List.pairwise_append.1 hff.ap
  have hapR : ∀ l b, hk l h ≠ none → ρ l = some b → ¬ WrF fs b := fun l b hl hb hw => hapG ρ a w g l b hl hb hw
  -- blocks that the call may write are the caller's
  have hcw : ∀ b, Wr0 h0 (fun i => ρ (renF ms L i)) b → ∃ l, wrA l h ∧ ρ l = some b ∧ l ∈ (goneL h0 ms).map (·.1) := fun b ⟨i, o, e1, e2, e3⟩ => by
    obtain ⟨o', e4, e5, _⟩ := hget i o e1
    have hlt : i < ms.length := by rw [← hlen]; exact (List.getElem?_eq_some_iff.1 e1).1
    refine ⟨_, ⟨o', e4, e5 e2⟩, e3, (goneL_mem hlen).2 ⟨i, o, e1, e2, ?_⟩⟩
    unfold renF; rw [List.getElem?_eq_getElem hlt]
  have hpre : Pre h0 (fun i => ρ (renF ms L i)) w fs := ⟨fun i b hi hb => g.al _ b (rlive i hi).2 hb, fun i j o b ho hro hj hbi hbj => ?_, fun p hp => hff.at_ p (hfsL p hp), hap3.1, fun i b hi hb => hapR _ b (rlive i hi).1 hb, fun b hw ⟨p, hp, he⟩ => ?_⟩
  · refine (sp (fun i => ρ (renF ms L i)) w (fun i o ho => ?_) hpre).mono fun e w' ho => ?_
    · obtain ⟨o', h5, h6, h7⟩ := hget i o ho
      exact (ren_holds _ _ _ _ _).1 (h7 _ _ _ (g.hp _ _ h5).2.2)
    obtain ⟨s, ρc, hG, q1, q2, q3, q4, q5, q6, q7, q8, q9, q10⟩ := ho
    -- the world of the beginning, with what the facts' blocks hold in the end
    have hsz2 := mixW_size w w' (WrF fs)
    have hlab : ∀ l b, hk l h ≠ none → ρ l = some b → (mixW w w' (WrF fs)).heap[b]? = w.heap[b]? := fun l b hl hb => mixW_out w w' (hapR l b hl hb)
    have g2 := g.bump hsz2 hlab
    have hag2 : Ag (fun b => ¬ Wr0 h0 (fun i => ρ (renF ms L i)) b) (mixW w w' (WrF fs)) w' := ⟨q4.ag.os, q4.ag.tape, q4.ag.output, by rw [hsz2]; exact q4.ag.size, fun b hb hd => by
      rw [hsz2] at hb
      by_cases hw : WrF fs b
      · rw [mixW_in w w' hb (Nat.lt_of_lt_of_le hb q4.ag.size) hw]
      · rw [mixW_out w w' hw]
        exact q4.ag.block b hb ⟨hd, hw⟩⟩
    obtain ⟨ρ', hcomp, hval, hN⟩ := g2.calledR (val := val) (post := post) (s := s) (ρc := ρc) hlen hm' hin h3 hnd (hpost s) q1 q3 hag2 q5 q6 q7 (fun l b hl hv hb => by rw [hsz2]; exact q8 l b hl hv hb) q9
    refine ⟨_, q2, s, ρ', hG, hval.symm, ⟨hN.low, hN.same, hN.gam.strong fun y hy => ?_, fun l b hl hb hn => (hlab l b hl hb).symm.trans (hN.old l b hl hb hn)⟩⟩
    -- where labels that may be written lie behind the call
    have hbeh : ∀ l b, wrA l (renH (renF ms L) (post s) ++ (goneL h0 ms ++ h)) → ρ' l = some b → (∃ i, wrA i (post s) ∧ ρc i = some b) ∨ (l ∉ (goneL h0 ms).map (·.1) ∧ wrA l h ∧ ρ l = some b) := fun l b ⟨o, ho, hro⟩ hb => by
      rcases hk_behind (hnd s) ho with ⟨i, oi, e1, rfl, rfl⟩ | ⟨e1, e2⟩
      · rw [ren_isRo] at hro
        exact .inl ⟨i, ⟨oi, e1, hro⟩, by rw [← hcomp i (q5 i oi e1).1]; exact hb⟩
      · exact .inr ⟨e1, ⟨o, e2, hro⟩, by rw [← hN.same l (g.hp l o e2).1]; exact hb⟩
    -- a label of the call lies in a new block, or in one of the caller's
    have hcl : ∀ i b, wrA i (post s) → ρc i = some b → w.heap.size ≤ b ∨ ∃ l, wrA l h ∧ ρ l = some b := fun i b hi hb => by
      obtain ⟨o, e1, e2⟩ := hi
      rcases Nat.lt_or_ge i h0.length with e3 | e3
      · obtain ⟨o0, e4, e5⟩ := q9 i o e3 e1 e2
        obtain ⟨l2, e6, e7, _⟩ := hcw b ⟨i, o0, e4, e5, by rw [← q1 i e3]; exact hb⟩
        exact .inr ⟨l2, e6, e7⟩
      · rcases q8 i b e3 (by rw [e1]; simp) hb with e4 | e4
        · exact .inl e4
        · obtain ⟨l2, e6, e7, _⟩ := hcw b e4
          exact .inr ⟨l2, e6, e7⟩
    have hold : ∀ b, b < w.heap.size → ¬ Wr0 h0 (fun i => ρ (renF ms L i)) b → ¬ WrF fs b → w'.heap[b]? = w.heap[b]? := fun b hb h5 h6 => q4.ag.block b hb ⟨h5, h6⟩
    have hnl : ∀ p ∈ fs' s ++ fr, ∀ l, wrA l (renH (renF ms L) (post s) ++ (goneL h0 ms ++ h)) → ρ' l ≠ some p.b := fun p hp l hl hb => by
      rcases hbeh l _ hl hb with ⟨i, e1, e2⟩ | ⟨e1, e2, e3⟩
      · rcases List.mem_append.1 hp with hp | hp
        · exact q10 i _ e1 e2 ⟨p, hp, rfl⟩
        · have hlt := hff.lt (hfrR p hp)
          rcases hcl i _ e1 e2 with e3 | ⟨l2, e3, e4⟩
          · omega
          · exact g.apF (hfrR p hp) e3 e4
      · rcases List.mem_append.1 hp with hp | hp
        · rcases q4.bl p hp with e4 | e4 | ⟨q, e4, e5⟩
          · have := g.lt e2.live e3; omega
          · obtain ⟨l2, e5, e6, e7⟩ := hcw _ e4
            exact e1 (g.dis l l2 _ e2 e5.live e3 e6 ▸ e7)
          · exact g.apF (hfsL q e4) e2 (by rw [e5]; exact e3)
        · exact g.apF (hfrR p hp) e2 e3
    have hyb : ∀ b, b < w'.heap.size → (∀ l, wrA l (renH (renF ms L) (post s) ++ (goneL h0 ms ++ h)) → ρ' l ≠ some b) → y.heap[b]? = w'.heap[b]? := fun b hb hd => hy.block b hb hd
    have hfrw : ∀ p ∈ fr, w'.heap[p.b]? = w.heap[p.b]? := fun p hp => hold _ (hff.lt (hfrR p hp)) (fun hw => by
      obtain ⟨l2, e5, e6, e7⟩ := hcw _ hw
      exact g.apF (hfrR p hp) e5 e6) (fun ⟨q, e4, e5, e6⟩ => by
      have := (hap3.2.2 q e4 p hp e6).1
      rw [this] at e5; cases e5)
    refine ⟨fun p hp => ?_, ?_, ?_, fun p hp hrw => ?_, fun p hp => ?_, hff.pre⟩
    · rcases List.mem_append.1 hp with hp' | hp'
      · rw [hyb p.b (q4.lt hp') (hnl p hp)]; exact q4.at_ p hp'
      · rw [hyb p.b (Nat.lt_of_lt_of_le (hff.lt (hfrR p hp')) q4.ag.size) (hnl p hp), hfrw p hp']
        exact hff.at_ p (hfrR p hp')
    · refine ⟨hy.os.trans (q4.ag.os.trans hff.ag.os), hy.tape.trans (q4.ag.tape.trans hff.ag.tape), hy.output.trans (q4.ag.output.trans hff.ag.output), Nat.le_trans hff.ag.size (Nat.le_trans q4.ag.size hy.size), fun b hb hd => ?_⟩
      have hbw : b < w.heap.size := Nat.lt_of_lt_of_le hb hff.ag.size
      have key : ∀ l, wrA l h → ρ l ≠ some b := fun l hl e => by
        rcases g.freF hl e with e1 | e1 | e1
        · omega
        · exact hd.1 e1
        · exact hd.2 e1
      have n1 : ¬ Wr0 h0 (fun i => ρ (renF ms L i)) b := fun hw => by
        obtain ⟨l2, e5, e6, _⟩ := hcw _ hw
        exact key l2 e5 e6
      have n2 : ¬ WrF fs b := fun ⟨q, e4, e5, e6⟩ => by
        subst e6
        rcases hff.fre q (hfsL q e4) e5 with e1 | e1 | e1
        · omega
        · exact hd.1 e1
        · exact hd.2 e1
      rw [hyb b (Nat.lt_of_lt_of_le hbw q4.ag.size) fun l hl e => ?_, hold b hbw n1 n2, hff.ag.block b hb hd]
      rcases hbeh l b hl e with ⟨i, e1, e2⟩ | ⟨e1, e2, e3⟩
      · rcases hcl i b e1 e2 with e3 | ⟨l2, e3, e4⟩
        · omega
        · exact key l2 e3 e4
      · exact key l e2 e3
    · unfold ApF
      rw [List.pairwise_append]
      refine ⟨q4.ap, hap3.2.1, fun p hp q hq e => ?_⟩
      have hqlt := hff.lt (hfrR q hq)
      have hqw : ¬ Wr0 h0 (fun i => ρ (renF ms L i)) q.b := fun hw => by
        obtain ⟨l2, e5, e6, _⟩ := hcw _ hw
        exact g.apF (hfrR q hq) e5 e6
      have hqf : ∀ r ∈ fs, r.b = q.b → r.rw = false ∧ q.rw = false := fun r hr e => hap3.2.2 r hr q hq e
      constructor
      · cases hrw : p.rw with
        | false => rfl
        | true =>
          rcases q4.fre p hp hrw with e1 | e1 | ⟨r, e2, e3, e4⟩
          · omega
          · exact absurd (e ▸ e1) hqw
          · have := (hqf r e2 (e4.trans e)).1
            rw [this] at e3; cases e3
      · rcases q4.bl p hp with e1 | e1 | ⟨r, e2, e4⟩
        · omega
        · exact absurd (e ▸ e1) hqw
        · exact (hqf r e2 (e4.trans e)).2
    · rcases List.mem_append.1 hp with hp' | hp'
      · rcases q4.fre p hp' hrw with e1 | e1 | ⟨r, e2, e3, e4⟩
        · exact .inl (Nat.le_trans hff.ag.size e1)
        · obtain ⟨l2, e5, e6, _⟩ := hcw _ e1
          exact g.freF e5 e6
        · rw [← e4]; exact hff.fre r (hfsL r e2) e3
      · exact hff.fre p (hfrR p hp') hrw
    · rcases List.mem_append.1 hp with hp' | hp'
      · rcases q4.bl p hp' with e1 | e1 | ⟨r, e2, e4⟩
        · exact .inl (Nat.le_trans hff.ag.size e1)
        · obtain ⟨l2, e5, e6, _⟩ := hcw _ e1
          exact (g.freF e5 e6).imp id (Or.imp id WrF.bl)
        · rw [← e4]; exact hff.bl r (hfsL r e2)
      · exact hff.bl p (hfrR p hp')
  · obtain ⟨o', h5, h6, _⟩ := hget i o ho
    have he := g.dis _ _ b ⟨o', h5, h6 hro⟩ (rlive j hj).1 hbi hbj
    have hi : i < h0.length := (List.getElem?_eq_some_iff.1 ho).1
    have h9 := List.all_eq_true.1 h3 i (List.mem_range.2 hi)
    rw [ho] at h9
    simp only [hro, Bool.false_or] at h9
    have h10 := List.all_eq_true.1 h9 j (List.mem_range.2 hj)
    simp only [Bool.or_eq_true, Bool.not_eq_true'] at h10
    rcases h10 with h10 | h10
    · exact Nat.eq_of_beq_eq_true h10
    · exfalso
      have e1 : ∀ x, x < h0.length → renF ms L x = ms.getD x 0 := fun x hx => by
        have hx' : x < ms.length := by omega
        unfold renF
        rw [List.getD_eq_getElem?_getD, List.getElem?_eq_getElem hx']; rfl
      rw [← e1 i hi, ← e1 j hj, he, Nat.beq_refl] at h10; cases h10
  · obtain ⟨l, e5, e6, _⟩ := hcw b hw
    exact g.apF (hfsL p hp) e5 (by rw [he]; exact e6)
end
end Go.Proofs.Yteabncomclgncaa
namespace Go.Proofs.Yteabncomclgncaa
set_option linter.unusedVariables false
set_option linter.unusedSimpArgs false
set_option linter.unusedSectionVars false
open Go.RowKit
section
variable {P : Program} {ops : Array Oper} {Q : Exit → Act → World → Prop} {D : Option DD} {E : Base} {n L : Nat} {τ : List (Nat × AV)} {h : List (Nat × AO)} {F : World → Prop} {rest : List Oper}
/-- a state told anew, in a region that draws too -/
theorem R.renew {α : Type} (L' : Nat) (τ' : α → List (Nat × AV)) (h' : α → List (Nat × AO)) (F' : α → World → Prop) (I : α → Prop) (hL : L ≤ L') (hg : ∀ ρ a w, Gam E ρ n L τ h F a w → ∃ x ρ', I x ∧ (∀ l, l < L → ρ' l = ρ l) ∧ Gam E ρ' n L' (τ' x) (h' x) (F' x) a w)
    (k : ∀ x, I x → R P ops Q D E n L' (τ' x) (h' x) (F' x) rest) : R P ops Q D E n L τ h F rest := ⟨by
  cases D with
  | none =>
    intro ρ a w g
    obtain ⟨x, ρ', hI, _, g'⟩ := hg ρ a w g
    exact (k x hI).out ρ' a w g'
  | some d =>
    intro hops hpl hwl ρ a w Ws g hs
    obtain ⟨x, ρ', hI, he, g'⟩ := hg ρ a w g
    have h1 := (k x hI).out hops (fun p hp => Nat.lt_of_lt_of_le (hpl p hp) hL) (fun p hp l hl => Nat.lt_of_lt_of_le (hwl p hp l hl) hL) ρ' a w Ws g' (hs.ext he hwl)
    have e : pendC ρ' d.pend = pendC ρ d.pend := pendC_ext he _ hpl
    rw [e] at h1
    exact h1⟩
variable {h0 : List AO} {ρ0 : Env} {w0 : World} {fs0 fs : Fam}
theorem R.wkD {F2 : World → Prop} (hF : ∀ w, F w → F2 w) (k : R P ops Q D E n L τ h F2 rest) : R P ops Q D E n L τ h F rest :=
  R.renew (α := Unit) L (fun _ => τ) (fun _ => h) (fun _ => F2) (fun _ => True) (Nat.le_refl L) (fun ρ a w g => ⟨(), ρ, trivial, fun _ _ => rfl, g.strong fun w' hw => hF _ (g.fr w' hw)⟩) (fun _ _ => k)
/-- a label's block becomes a fact -/
theorem R.frz (rw' : Bool) (t l : Nat) {o o' : AO} {v : AV} (v' : Nat → Value) (hl : hk l h = some o) (hro : o.isRo = false) (hv : lk t τ = some v) (hc : ∀ (ρ : Env) b, ρ l = some b → v.conc ρ = v' b) (ho : ∀ (ρ : Env) b ob w, ρ l = some b → w.heap[b]? = some ob → o.holds ρ (some b) w → Is b ob o')
    (hsome : ∀ (ρ : Env) w, o.holds ρ (ρ l) w → ρ l ≠ none)
    (k : ∀ b ob, Is b ob o' → (∀ p ∈ fs, p.b ≠ b) → R P ops Q none E n L ((t, .raw (v' b)) :: τ) ((l, .gone) :: h) (FF h0 ρ0 w0 fs0 (⟨rw', b, ob⟩ :: fs)) rest) : R P ops Q none E n L τ h (FF h0 ρ0 w0 fs0 fs) rest :=
  R.again L (fun x : Nat × Obj => (t, .raw (v' x.1)) :: τ) (fun _ => (l, .gone) :: h) (fun x => FF h0 ρ0 w0 fs0 (⟨rw', x.1, x.2⟩ :: fs)) (fun x => Is x.1 x.2 o' ∧ ∀ p ∈ fs, p.b ≠ x.1)
    (fun ρ a w g => g.frz rw' t l v' hl hro hv (hsome ρ w (g.hp l o hl).2.2) hc (ho ρ)) (fun x hx => k x.1 x.2 hx.1 hx.2)
theorem Is.ro {b : Nat} {ob : Obj} {p : List UInt8} {c : Nat} {T : TypeId} (h : Is b ob (.bytes p c T)) : Is b ob (.ro 1 0 p.length (bytesF p)) := fun ρ w hw => by
  have := h ρ w hw
  exact bytes_ro this
variable {d : Nat} {ty : TypeId} {ps : String} {af : Array Edge} {gd : Option (Nat × Bool)} {H0 : List AO} {R0 : Env} {W0 : World} {FS0 : Fam}
theorem apf_ro {fs : Fam} (h : ∀ p ∈ fs, p.rw = false) : ApF fs := List.Pairwise.imp_of_mem (R := fun _ _ => True) (fun hp hq _ _ => ⟨h _ hp, h _ hq⟩) (List.pairwise_of_forall fun _ _ => trivial)
end
end Go.Proofs.Yteabncomclgncaa
namespace Go.Proofs.Yteabncomclgncaa
set_option linter.unusedVariables false
set_option linter.unusedSimpArgs false
set_option linter.unusedSectionVars false
open Go.RowKit
section
variable {E : Base} {ρ : Env} {n L : Nat} {τ : List (Nat × AV)} {h : List (Nat × AO)} {F : World → Prop} {a : Act} {w : World} {H0 : List AO} {R0 : Env} {W0 : World} {FS0 fs : Fam}
theorem Gam.unpin {E1 : Base} (g : Gam E1 ρ n L τ h F a w) (hN : E.N ≤ E1.N) (he : ∀ l, l < E.N → E1.ρ l = E.ρ l) (hd : E1.df = E.df := by rfl) : Gam E ρ n L τ h F a w :=
  ⟨g.df.trans hd, g.sz, g.tm, g.hp, g.dis, g.fr, fun l hl => (g.ex l (Nat.lt_of_lt_of_le hl hN)).trans (he l hl), Nat.le_trans hN g.le, g.al⟩
/-- a slot holds a block that has a label whose address is known -/
theorem Gam.name (g : Gam E ρ n L τ h F a w) (t : Nat) {v : Value} (v' : AV) (hv : lk t τ = some (.raw v)) (hc : ∀ ρ : Env, (∀ l, l < E.N → ρ l = E.ρ l) → v'.conc ρ = v) (hb : v'.bd L = true) : Gam E ρ n L ((t, v') :: τ) h F a w :=
  ⟨g.df, g.sz, fun s u hu => by
    rw [lk_cons] at hu
    split at hu
    · rename_i e
      subst e
      cases hu
      exact ⟨bdLow hb _, by rw [(g.tm t _ hv).2, hc ρ g.ex]; rfl⟩
    · exact g.tm s u hu, g.hp, g.dis, g.fr, g.ex, g.le, g.al⟩
/-- a label whose address is known becomes a fact -/
theorem Gam.frzP (g : Gam E ρ n L τ h (FF H0 R0 W0 FS0 fs) a w) (rw' : Bool) (l : Nat) {b : Nat} {o o' : AO} (hl : hk l h = some o) (hro : o.isRo = false) (hlN : l < E.N) (hb : E.ρ l = some b)
    (ho : ∀ ob w, w.heap[b]? = some ob → o.holds ρ (some b) w → Is b ob o') :
    ∃ ob, (Is b ob o' ∧ (∀ p ∈ fs, p.b ≠ b)) ∧ Gam E ρ n L τ ((l, .gone) :: h) (FF H0 R0 W0 FS0 (⟨rw', b, ob⟩ :: fs)) a w := by
  have hb : ρ l = some b := (g.ex l hlN).trans hb
  have hw : wrA l h := ⟨o, hl, hro⟩
  have hlt := g.lt hw.live hb
  have hob : w.heap[b]? = some w.heap[b] := Array.getElem?_eq_getElem hlt
  have hh := g.hp l o hl
  rw [hb] at hh
  have hap : ∀ p ∈ fs, p.b ≠ b := fun p hp e => g.apF hp hw (by rw [hb, e])
  have hwr : ∀ l', wrA l' ((l, .gone) :: h) → l' ≠ l ∧ wrA l' h := fun l' ⟨o1, h1, h2⟩ => by
    rw [hk_cons] at h1
    split at h1
    · cases h1
    · rename_i e; exact ⟨fun e2 => e e2.symm, o1, h1, h2⟩
  refine ⟨w.heap[b], ⟨ho _ w hob hh.2.2, hap⟩, ⟨g.df, g.sz, g.tm, fun l' o1 hl' => ?_, fun l1 l2 b1 h1 h2 h3 h4 => ?_, fun w' hw' => ?_, g.ex, g.le, g.al⟩⟩
  · rw [hk_cons] at hl'
    split at hl'
    · cases hl'
    · exact g.hp l' o1 hl'
  · refine g.dis l1 l2 b1 (hwr l1 h1).2 ?_ h3 h4
    rw [hk_cons] at h2
    split at h2
    · exact absurd rfl h2
    · exact h2
  · have hsz : b < w'.heap.size := Nat.lt_of_lt_of_le hlt hw'.size
    have hb' : w'.heap[b]? = w.heap[b]? := hw'.block b hlt fun l' hl' e => (hwr l' hl').1 (g.dis l' l b (hwr l' hl').2 hw.live e hb)
    have hall := g.fr w' (hw'.mono fun b2 hb2 hd l' hl' e => hd l' (hwr l' hl').2 e)
    refine ⟨fun p hp => ?_, hall.ag, ?_, fun p hp hrw => ?_, fun p hp => ?_, hall.pre⟩
    · rcases List.mem_cons.1 hp with rfl | hp
      · exact hb'.trans hob
      · exact hall.at_ p hp
    · unfold ApF
      rw [List.pairwise_cons]
      exact ⟨fun q hq e => absurd e.symm (hap q hq), hall.ap⟩
    · rcases List.mem_cons.1 hp with rfl | hp
      · exact g.freF hw hb
      · exact hall.fre p hp hrw
    · rcases List.mem_cons.1 hp with rfl | hp
      · exact (g.freF hw hb).imp id (Or.imp id WrF.bl)
      · exact hall.bl p hp
/-- every label that is only read is one of the call's own, which its contract tells as only read -/
def roH (H0 : List AO) (h : List (Nat × AO)) : Bool := h.all fun p => !p.2.isRo || (match H0[p.1]? with | some o => o.isRo | none => false)
theorem roH_get {H0 : List AO} {h : List (Nat × AO)} (hr : roH H0 h = true) {l : Nat} {o : AO} (hl : hk l h = some o) (ho : o.isRo = true) : ∃ o0, H0[l]? = some o0 ∧ o0.isRo = true := by
  have := List.all_eq_true.1 hr _ (lk_mem (hk_lk hl))
  simp only [ho, Bool.not_true, Bool.false_or] at this
  split at this
  · rename_i o0 h0; exact ⟨o0, h0, this⟩
  · cases this
/-- a writable fact becomes a label, of which the address is known -/
theorem Gam.thawP (g : Gam E ρ n L τ h (FF H0 R0 W0 FS0 fs) a w) (hN : H0.length ≤ E.N) (hE : ∀ l, l < H0.length → E.ρ l = R0 l) (hrob : roH H0 h = true) {p : Fact} {fs2 : Fam} (hp : p ∈ fs) (hrw : p.rw = true) (h2 : ∀ q ∈ fs2, q ∈ fs ∧ q.b ≠ p.b) (ha2 : ApF fs2) {o : AO}
    (hro : o.isRo = false) (ho : Is p.b p.ob o) (hlow : o.Bd 0) :
    Gam ⟨L + 1, updE ρ L (some p.b), E.df⟩ (updE ρ L (some p.b)) n (L + 1) τ ((L, o) :: h) (FF H0 R0 W0 FS0 fs2) a w := by
  have hs : ∀ l, l < L → updE ρ L (some p.b) l = ρ l := fun l hl => updE_ne ρ _ (by omega)
  have hff := g.ff
  have hlive : ∀ l b, hk l h ≠ none → ρ l = some b → b ≠ p.b := fun l b hl hlb e => by
    subst e
    cases hx : hk l h with
    | none => exact hl hx
    | some o1 =>
      cases hro1 : o1.isRo with
      | false => exact g.apF hp ⟨o1, hx, hro1⟩ hlb
      | true =>
        obtain ⟨o0, h3, h4⟩ := roH_get hrob hx hro1
        have hlN : l < H0.length := (List.getElem?_eq_some_iff.1 h3).1
        have : ρ l = R0 l := by rw [g.ex l (by omega), hE l hlN]
        exact hff.inn h3 h4 (this ▸ hlb) ⟨p, hp, hrw, rfl⟩
  have hwr : ∀ l, L ≠ l → wrA l ((L, o) :: h) → wrA l h := fun l e ⟨o1, h1, h3⟩ => by
    rw [hk_cons, if_neg e] at h1
    exact ⟨o1, h1, h3⟩
  have hkL : ∀ l, L ≠ l → hk l ((L, o) :: h) = hk l h := fun l e => by rw [hk_cons, if_neg e]
  have hLL : ∀ l, hk l h ≠ none → l < L := fun l hl => by
    cases hx : hk l h with
    | none => exact absurd hx hl
    | some o1 => exact (g.hp l o1 hx).1
  refine ⟨g.df, g.sz, fun s u hu => ?_, fun l o1 hl => ?_, fun l1 l2 b1 h1 h3 h4 h5 => ?_, fun w' hw' => ?_, fun _ _ => rfl, Nat.le_refl _, fun l b hl hlb => ?_⟩
  · have := g.tm s u hu
    exact ⟨(this.1.ext hs).mono (Nat.le_succ L), by rw [this.2, this.1 _ hs]⟩
  · rw [hk_cons] at hl
    split at hl
    · rename_i e
      subst e
      rw [updE_same]
      have e2 : o1 = o := by cases o <;> simp at hl <;> exact hl.symm
      subst e2
      exact ⟨Nat.lt_succ_self _, (hlow.low _).mono (Nat.zero_le _), ho _ w (hff.at_ p hp)⟩
    · have hh := g.hp l o1 hl
      refine ⟨Nat.lt_succ_of_lt hh.1, (hh.2.1.ext hs).mono (Nat.le_succ L), ?_⟩
      rw [hs l hh.1]
      exact (hh.2.1 _ hs _ _).1 hh.2.2
  · by_cases e1 : L = l1 <;> by_cases e2 : L = l2
    · omega
    · rw [hkL l2 e2] at h3
      rw [← e1, updE_same] at h4
      rw [hs l2 (hLL l2 h3)] at h5
      cases h4
      exact absurd rfl (hlive l2 _ h3 h5)
    · have h1' := hwr l1 e1 h1
      rw [← e2, updE_same] at h5
      rw [hs l1 (hLL l1 h1'.live)] at h4
      cases h5
      exact absurd rfl (hlive l1 _ h1'.live h4)
    · have h1' := hwr l1 e1 h1
      rw [hkL l2 e2] at h3
      rw [hs l1 (hLL l1 h1'.live)] at h4
      rw [hs l2 (hLL l2 h3)] at h5
      exact g.dis l1 l2 b1 h1' h3 h4 h5
  · have hlt := hff.lt hp
    obtain ⟨w2, hw2⟩ : ∃ w2, w2 = putB w' p.b p.ob := ⟨_, rfl⟩
    have hsz : p.b < w'.heap.size := Nat.lt_of_lt_of_le hlt hw'.size
    have hag : Ag (fun b => ∀ l, wrA l h → ρ l ≠ some b) w w2 := by
      subst hw2
      refine ⟨hw'.os, hw'.tape, hw'.output, by simpa [putB] using hw'.size, fun b hb1 hd => ?_⟩
      by_cases e : b = p.b
      · subst e
        rw [putB_same _ _ hsz, hff.at_ p hp]
      · rw [putB_ne _ _ e]
        refine hw'.block b hb1 fun l hl hlb => ?_
        by_cases e1 : L = l
        · rw [← e1, updE_same] at hlb
          cases hlb
          exact e rfl
        · have h1' := hwr l e1 hl
          rw [hs l (hLL l h1'.live)] at hlb
          exact hd l h1' hlb
    have hall := g.fr w2 hag
    subst hw2
    refine ⟨fun q hq => ?_, ⟨hall.ag.os, hall.ag.tape, hall.ag.output, by simpa [putB] using hall.ag.size, fun b hb1 hd => ?_⟩, ha2, fun q hq => hall.fre q (h2 q hq).1, fun q hq => hall.bl q (h2 q hq).1, hall.pre⟩
    · have := hall.at_ q (h2 q hq).1
      rwa [putB_ne _ _ (h2 q hq).2] at this
    · have h6 := hall.ag.block b hb1 hd
      rwa [putB_ne] at h6
      intro e
      subst e
      rcases hall.fre p hp hrw with h7 | h7 | h7
      · omega
      · exact hd.1 h7
      · exact hd.2 h7
  · rcases Nat.lt_or_ge l L with h1 | h1
    · exact g.al l b h1 ((hs l h1).symm.trans hlb)
    · obtain rfl : l = L := by omega
      rw [updE_same] at hlb
      cases hlb
      exact hff.lt hp
end
section
variable {P : Program} {ops : Array Oper} {Q : Exit → Act → World → Prop} {D : Option DD} {E : Base} {n L : Nat} {τ : List (Nat × AV)} {h : List (Nat × AO)} {F : World → Prop} {rest : List Oper} {H0 : List AO} {R0 : Env} {W0 : World} {FS0 fs : Fam}
theorem C.unpin {c : Code} {E1 : Base} (hN : E.N ≤ E1.N) (he : ∀ l, l < E.N → E1.ρ l = E.ρ l) (k : C P c Q E n L τ h F) (hd : E1.df = E.df := by rfl) : C P c Q E1 n L τ h F := ⟨fun ρ a w g => k.out ρ a w (g.unpin hN he hd)⟩
theorem X.unpin {e : Exit} {E1 : Base} (hN : E.N ≤ E1.N) (he : ∀ l, l < E.N → E1.ρ l = E.ρ l) (k : X Q e E n L τ h F) (hd : E1.df = E.df := by rfl) : X Q e E1 n L τ h F := ⟨fun ρ a w g => k.out ρ a w (g.unpin hN he hd)⟩
theorem R.unpin {E1 : Base} (hN : E.N ≤ E1.N) (he : ∀ l, l < E.N → E1.ρ l = E.ρ l) (k : R P ops Q none E n L τ h F rest) (hd : E1.df = E.df := by rfl) : R P ops Q none E1 n L τ h F rest := ⟨fun ρ a w g => k.out ρ a w (g.unpin hN he hd)⟩
/-- a writable fact gets a label, whose address is known from here on -/
theorem C.thaw {c : Code} (hN : H0.length ≤ E.N) (hE : ∀ l, l < H0.length → E.ρ l = R0 l) (hrob : roH H0 h = true) (p : Fact) (fs2 : Fam) (hp : p ∈ fs) (hrw : p.rw = true) (h2 : ∀ q ∈ fs2, q ∈ fs ∧ q.b ≠ p.b) (ha2 : ApF fs2) (o : AO) (hro : o.isRo = false) (ho : Is p.b p.ob o) (hlow : o.Bd 0) (hEL : E.N ≤ L)
    (k : ∀ ρ1 : Env, (∀ l, l < E.N → ρ1 l = E.ρ l) → ρ1 L = some p.b → C P c Q ⟨L + 1, ρ1, E.df⟩ n (L + 1) τ ((L, o) :: h) (FF H0 R0 W0 FS0 fs2)) : C P c Q E n L τ h (FF H0 R0 W0 FS0 fs) :=
  ⟨fun ρ a w g => (k (updE ρ L (some p.b)) (fun l hl => (updE_ne ρ _ (by omega)).trans (g.ex l hl)) (updE_same _ _ _)).out _ a w (g.thawP hN hE hrob hp hrw h2 ha2 hro ho hlow)⟩
/-- such a label becomes a fact again -/
theorem C.frzP {c : Code} (rw' : Bool) (l : Nat) {b : Nat} {o o' : AO} (hl : hk l h = some o) (hro : o.isRo = false) (hlN : l < E.N) (hb : E.ρ l = some b) (ho : ∀ (ρ : Env) ob w, w.heap[b]? = some ob → o.holds ρ (some b) w → Is b ob o')
    (k : ∀ ob, Is b ob o' → (∀ p ∈ fs, p.b ≠ b) → C P c Q E n L τ ((l, .gone) :: h) (FF H0 R0 W0 FS0 (⟨rw', b, ob⟩ :: fs))) : C P c Q E n L τ h (FF H0 R0 W0 FS0 fs) := ⟨fun ρ a w g => by
  obtain ⟨ob, h1, g'⟩ := g.frzP rw' l hl hro hlN hb (ho ρ)
  exact (k ob h1.1 h1.2).out ρ a w g'⟩
theorem X.frzP {e : Exit} (rw' : Bool) (l : Nat) {b : Nat} {o o' : AO} (hl : hk l h = some o) (hro : o.isRo = false) (hlN : l < E.N) (hb : E.ρ l = some b) (ho : ∀ (ρ : Env) ob w, w.heap[b]? = some ob → o.holds ρ (some b) w → Is b ob o')
    (k : ∀ ob, Is b ob o' → (∀ p ∈ fs, p.b ≠ b) → X Q e E n L τ ((l, .gone) :: h) (FF H0 R0 W0 FS0 (⟨rw', b, ob⟩ :: fs))) : X Q e E n L τ h (FF H0 R0 W0 FS0 fs) := ⟨fun ρ a w g => by
  obtain ⟨ob, h1, g'⟩ := g.frzP rw' l hl hro hlN hb (ho ρ)
  exact (k ob h1.1 h1.2).out ρ a w g'⟩
/-- a slot's raw address, told by the label that bears it -/
theorem R.name (t : Nat) {v : Value} (v' : AV) (hv : lk t τ = some (.raw v)) (hc : ∀ ρ : Env, (∀ l, l < E.N → ρ l = E.ρ l) → v'.conc ρ = v) (hb : v'.bd L = true) (k : R P ops Q D E n L ((t, v') :: τ) h F rest) : R P ops Q D E n L τ h F rest :=
  R.renew (α := Unit) L (fun _ => (t, v') :: τ) (fun _ => h) (fun _ => F) (fun _ => True) (Nat.le_refl L) (fun ρ a w g => ⟨(), ρ, trivial, fun _ _ => rfl, g.name t v' hv hc hb⟩) (fun _ _ => k)
variable {d : Nat} {ty : TypeId} {ps : String} {af : Array Edge} {gd : Option (Nat × Bool)}
/-- a call by a contract that speaks of facts: all that are told -/
theorem R.clF {σ : Type} {G : σ → Prop} {val : σ → AV} {post : σ → List (Nat × AO)} {f : FuncId} {x : Operand} {cs : List AV} {xs : Array Operand} {ats : Array TypeId} {avs : List AV} {h1 : List AO} {m : Nat} {fs' : σ → Fam} (ms : List Nat) (sp : SpecF P f avs h1 m fs G val post fs') (hN : H0.length ≤ E.N) (hE : ∀ l, l < H0.length → E.ρ l = R0 l) (eg : ∀ args w, (callFunc f args).run P w = .ok (.enter f args) w)
    (hin : HasIn (renF ms L) h 0 h1) (hf : evA τ x = some (.fn f cs)) {l : List AV} (hxs : evList (evA τ) xs.toList = some l) (hx : l ++ cs = AV.rens (renF ms L) avs) (hP : ∀ s, (bdB m (post s) && nodupB (((post s).map (·.1)).map (renF ms L))) = true)
    (hg : wantA ops ⟨some d, .call { callee := .value x, args := xs, argTypes := ats }, ty, ps, af, gd⟩ τ = some true) (hb : (Nat.ble (d + 1) n && Nat.beq h1.length ms.length && onceB h1 ms && chainB h D ((goneL h1 ms).map (·.1)) && Nat.ble h1.length m && roH H0 h) = true)
    (k : ∀ s, G s → R P ops Q (actD h D ((goneL h1 ms).map (·.1))) E n (L + (m - h1.length)) ((d, (val s).ren (renF ms L)) :: τ) (renH (renF ms L) (post s) ++ (goneL h1 ms ++ h)) (FF H0 R0 W0 FS0 (fs' s)) rest) :
    R P ops Q D E n L τ h (FF H0 R0 W0 FS0 fs) (⟨some d, .call { callee := .value x, args := xs, argTypes := ats }, ty, ps, af, gd⟩ :: rest) := by
  rw [Bool.and_eq_true, Bool.and_eq_true] at hb
  obtain ⟨⟨hb1, hb2⟩, hrob⟩ := hb
  simp only [Bool.and_eq_true] at hP
  have e : FF H0 R0 W0 FS0 fs = FF H0 R0 W0 FS0 (fs ++ []) := by rw [List.append_nil]
  rw [e]
  refine R.cfG [] ms sp eg (fun ρ a w g l b hl hb hw => ?_) hf hxs hx hin hb2 (fun s => bdB_lt (hP s).1) (fun s => (hP s).2) hg hb1 (fun s hs => ?_)
  · rw [List.append_nil] at g
    cases hx : hk l h with
    | none => exact hl hx
    | some o =>
      cases hro : o.isRo with
      | false =>
        obtain ⟨p, hp, _, he⟩ := hw
        exact g.apF hp ⟨o, hx, hro⟩ (by rw [he]; exact hb)
      | true =>
        obtain ⟨o0, h3, h4⟩ := roH_get hrob hx hro
        have hlN : l < H0.length := (List.getElem?_eq_some_iff.1 h3).1
        have : ρ l = R0 l := by rw [g.ex l (by omega), hE l hlN]
        exact g.ff.inn h3 h4 (this ▸ hb) hw
  · rw [List.append_nil]
    exact k s hs
end
end Go.Proofs.Yteabncomclgncaa
namespace Go.Proofs.Yteabncomclgncaa
set_option linter.unusedVariables false
set_option linter.unusedSimpArgs false
set_option linter.unusedSectionVars false
open Go.RowKit
theorem apf_perm {a b : Fam} (hp : a.Perm b) (h : ApF a) : ApF b := (List.Perm.pairwise_iff (fun {x y} h e => (h e.symm).symm) hp).1 h
/-- facts on a list's block, if it has one -/
def optF (rw' : Bool) (a : Option Nat) (ob : Obj) : Fam := match a with
  | none => []
  | some b => [⟨rw', b, ob⟩]
abbrev slV (a : Option Nat) (n c : Nat) : Value := .slice (a.map fun b => ⟨b, 0, none⟩) n c
section
variable {E : Base} {ρ : Env} {n L : Nat} {τ : List (Nat × AV)} {h : List (Nat × AO)} {F : World → Prop} {a : Act} {w : World} {h0 : List AO} {ρ0 : Env} {w0 : World} {fs0 fs : Fam}
theorem FF.perm (hf : FF h0 ρ0 w0 fs0 fs w) {fs2 : Fam} (hp : fs.Perm fs2) : FF h0 ρ0 w0 fs0 fs2 w := hf.less (fun p h => hp.symm.subset h) (apf_perm hp hf.ap)
/-- a slot's value told in another way -/
theorem Gam.retell (g : Gam E ρ n L τ h F a w) (t : Nat) {v v' : AV} (hv : lk t τ = some v) (hc : v'.conc ρ = v.conc ρ) (hb : v'.bd L = true) : Gam E ρ n L ((t, v') :: τ) h F a w :=
  ⟨g.df, g.sz, fun s u hu => by
    rw [lk_cons] at hu
    split at hu
    · rename_i e
      subst e
      cases hu
      exact ⟨bdLow hb _, by rw [(g.tm t _ hv).2, hc]⟩
    · exact g.tm s u hu, g.hp, g.dis, g.fr, g.ex, g.le, g.al⟩
/-- labels forgotten -/
theorem Gam.drop (g : Gam E ρ n L τ h F a w) {h2 : List (Nat × AO)} (hs : ∀ l o, hk l h2 = some o → hk l h = some o) : Gam E ρ n L τ h2 F a w := by
  have hw : ∀ l, wrA l h2 → wrA l h := fun l ⟨o, h1, h3⟩ => ⟨o, hs l o h1, h3⟩
  refine ⟨g.df, g.sz, g.tm, fun l o hl => g.hp l o (hs l o hl), fun l l' b h1 h3 h4 h5 => g.dis l l' b (hw l h1) ?_ h4 h5, fun w' hw' => g.fr w' (hw'.mono fun b _ hd l hl => hd l (hw l hl)), g.ex, g.le, g.al⟩
  cases hx : hk l' h2 with
  | none => exact absurd hx h3
  | some o => rw [hs l' o hx]; simp
theorem hk_dropped {l : Nat} {h : List (Nat × AO)} : ∀ l' o, hk l' ((l, .gone) :: h) = some o → hk l' h = some o := fun l' o ho => by
  rw [hk_cons] at ho
  split at ho
  · cases ho
  · exact ho
/-- a label that is only read, at a fact's block or at none -/
theorem Gam.lab0 (g : Gam E ρ n L τ h (FF h0 ρ0 w0 fs0 fs) a w) {x : Option Nat} {o : AO} (hro : o.isRo = true) (ho : o.holds (updE ρ L x) x w) (hx : ∀ b, x = some b → ∃ p ∈ fs, p.b = b) (hlow : o.Bd 0) :
    Gam E (updE ρ L x) n (L + 1) τ ((L, o) :: h) (FF h0 ρ0 w0 fs0 fs) a w := by
  have hs : ∀ l, l < L → updE ρ L x l = ρ l := fun l hl => updE_ne ρ _ (by omega)
  have hff := g.ff
  have hwr : ∀ l, wrA l ((L, o) :: h) → L ≠ l ∧ wrA l h := fun l ⟨o1, h1, h3⟩ => by
    rw [hk_cons] at h1
    split at h1
    · have e2 : o1 = o := by cases o <;> simp at h1 <;> exact h1.symm
      subst e2
      rw [hro] at h3; cases h3
    · rename_i e; exact ⟨e, o1, h1, h3⟩
  have hLL : ∀ l, hk l h ≠ none → l < L := fun l hl => by
    cases hx : hk l h with
    | none => exact absurd hx hl
    | some o1 => exact (g.hp l o1 hx).1
  refine ⟨g.df, g.sz, fun s u hu => ?_, fun l o1 hl => ?_, fun l1 l2 b1 h1 h3 h4 h5 => ?_, fun w' hw' => ?_, fun l hl => ?_, Nat.le_trans g.le (Nat.le_succ L), fun l b hl hlb => ?_⟩
  · have := g.tm s u hu
    exact ⟨(this.1.ext hs).mono (Nat.le_succ L), by rw [this.2, this.1 _ hs]⟩
  · rw [hk_cons] at hl
    split at hl
    · rename_i e
      subst e
      rw [updE_same]
      have e2 : o1 = o := by cases o <;> simp at hl <;> exact hl.symm
      subst e2
      exact ⟨Nat.lt_succ_self _, (hlow.low _).mono (Nat.zero_le _), ho⟩
    · have hh := g.hp l o1 hl
      refine ⟨Nat.lt_succ_of_lt hh.1, (hh.2.1.ext hs).mono (Nat.le_succ L), ?_⟩
      rw [hs l hh.1]
      exact (hh.2.1 _ hs _ _).1 hh.2.2
  · obtain ⟨e1, h1'⟩ := hwr l1 h1
    rw [hs l1 (hLL l1 h1'.live)] at h4
    by_cases e2 : L = l2
    · rw [← e2, updE_same] at h5
      obtain ⟨p, hp, rfl⟩ := hx _ h5
      exact absurd h4 (g.apF hp h1')
    · rw [hk_cons, if_neg e2] at h3
      rw [hs l2 (hLL l2 h3)] at h5
      exact g.dis l1 l2 b1 h1' h3 h4 h5
  · refine g.fr w' (hw'.mono fun b _ hd l hl hlb => ?_)
    obtain ⟨e1, h1'⟩ := hwr l hl
    rw [hs l (hLL l h1'.live)] at hlb
    exact hd l h1' hlb
  · rw [hs l (Nat.lt_of_lt_of_le hl g.le)]; exact g.ex l hl
  · rcases Nat.lt_or_ge l L with h1 | h1
    · exact g.al l b h1 ((hs l h1).symm.trans hlb)
    · obtain rfl : l = L := by omega
      rw [updE_same] at hlb
      obtain ⟨p, hp, rfl⟩ := hx _ hlb
      exact hff.lt hp
/-- slot t speaks of a fact's block (or of none): it speaks of a label now, that is only read -/
theorem Gam.labO (g : Gam E ρ n L τ h (FF h0 ρ0 w0 fs0 fs) a w) (t : Nat) {x : Option Nat} {ob : Obj} {o : AO} {v : AV} (v' : AV) (hv : lk t τ = some v) (hp : ∀ p ∈ optF false x ob, ∃ q ∈ fs, q.b = p.b ∧ q.ob = p.ob) (hro : o.isRo = true) (hc : ∀ ρ : Env, ρ L = x → v'.conc ρ = v.conc ρ) (hb : v'.bd (L + 1) = true)
    (ho : ∀ b, x = some b → Is b ob o) (hn : x = none → ∀ (ρ : Env) W, o.holds ρ none W) (hlow : o.Bd 0) :
    Gam E (updE ρ L x) n (L + 1) ((t, v') :: τ) ((L, o) :: h) (FF h0 ρ0 w0 fs0 fs) a w := by
  refine (g.lab0 hro ?_ (fun b hb => ?_) hlow).retell t hv (hc _ (updE_same _ _ _)) hb
  · cases x with
    | none => exact hn rfl _ _
    | some b =>
      obtain ⟨q, hq, h1, h2⟩ := hp ⟨false, b, ob⟩ (by simp [optF])
      exact ho b rfl _ _ (by have := g.ff.at_ q hq; rw [h1, h2] at this; exact this)
  · subst hb
    obtain ⟨q, hq, h1, h2⟩ := hp ⟨false, b, ob⟩ (by simp [optF])
    exact ⟨q, hq, h1⟩
end
/-- every label that is only read (and not gone) is one of the call's own, which its contract tells as only read -/
def roL (H0 : List AO) (h : List (Nat × AO)) : Bool := h.all fun p => match hk p.1 h with
  | some o => !o.isRo || (match H0[p.1]? with | some o => o.isRo | none => false)
  | none => true
theorem roL_get {H0 : List AO} {h : List (Nat × AO)} (hr : roL H0 h = true) {l : Nat} {o : AO} (hl : hk l h = some o) (ho : o.isRo = true) : ∃ o0, H0[l]? = some o0 ∧ o0.isRo = true := by
  have := List.all_eq_true.1 hr _ (lk_mem (hk_lk hl))
  simp only [hl, ho, Bool.not_true, Bool.false_or] at this
  split at this
  · rename_i o0 h0; exact ⟨o0, h0, this⟩
  · cases this
section
variable {P : Program} {ops : Array Oper} {Q : Exit → Act → World → Prop} {D : Option DD} {E : Base} {n L : Nat} {τ : List (Nat × AV)} {h : List (Nat × AO)} {F : World → Prop} {rest : List Oper} {H0 : List AO} {R0 : Env} {W0 : World} {FS0 fs : Fam}
theorem C.labO {c : Code} (t : Nat) (x : Option Nat) (ob : Obj) (o : AO) {v : AV} (v' : AV) (hv : lk t τ = some v) (hp : ∀ p ∈ optF false x ob, ∃ q ∈ fs, q.b = p.b ∧ q.ob = p.ob) (hro : o.isRo = true) (hc : ∀ ρ : Env, ρ L = x → v'.conc ρ = v.conc ρ) (hb : v'.bd (L + 1) = true)
    (ho : ∀ b, x = some b → Is b ob o) (hn : x = none → ∀ (ρ : Env) W, o.holds ρ none W) (hlow : o.Bd 0)
    (k : C P c Q E n (L + 1) ((t, v') :: τ) ((L, o) :: h) (FF H0 R0 W0 FS0 fs)) : C P c Q E n L τ h (FF H0 R0 W0 FS0 fs) := ⟨fun ρ a w g => k.out _ a w (g.labO t v' hv hp hro hc hb ho hn hlow)⟩
theorem R.labO (t : Nat) (x : Option Nat) (ob : Obj) (o : AO) {v : AV} (v' : AV) (hv : lk t τ = some v) (hp : ∀ p ∈ optF false x ob, ∃ q ∈ fs, q.b = p.b ∧ q.ob = p.ob) (hro : o.isRo = true) (hc : ∀ ρ : Env, ρ L = x → v'.conc ρ = v.conc ρ) (hb : v'.bd (L + 1) = true)
    (ho : ∀ b, x = some b → Is b ob o) (hn : x = none → ∀ (ρ : Env) W, o.holds ρ none W) (hlow : o.Bd 0)
    (k : R P ops Q D E n (L + 1) ((t, v') :: τ) ((L, o) :: h) (FF H0 R0 W0 FS0 fs) rest) : R P ops Q D E n L τ h (FF H0 R0 W0 FS0 fs) rest :=
  R.renew (α := Unit) (L + 1) (fun _ => (t, v') :: τ) (fun _ => (L, o) :: h) (fun _ => FF H0 R0 W0 FS0 fs) (fun _ => True) (Nat.le_succ L) (fun ρ a w g => ⟨(), _, trivial, fun l hl => updE_ne ρ _ (by omega), g.labO t v' hv hp hro hc hb ho hn hlow⟩) (fun _ _ => k)
/-- facts in another order, fewer, or told twice -/
theorem C.fperm {c : Code} {fs2 : Fam} (hp : fs.Perm fs2) (k : C P c Q E n L τ h (FF H0 R0 W0 FS0 fs2)) : C P c Q E n L τ h (FF H0 R0 W0 FS0 fs) := C.wk (fun w hf => hf.perm hp) k
theorem X.fperm {e : Exit} {fs2 : Fam} (hp : fs.Perm fs2) (k : X Q e E n L τ h (FF H0 R0 W0 FS0 fs2)) : X Q e E n L τ h (FF H0 R0 W0 FS0 fs) := X.wk (fun w hf => hf.perm hp) k
theorem R.fperm {fs2 : Fam} (hp : fs.Perm fs2) (k : R P ops Q D E n L τ h (FF H0 R0 W0 FS0 fs2) rest) : R P ops Q D E n L τ h (FF H0 R0 W0 FS0 fs) rest := R.wkD (fun w hf => hf.perm hp) k
/-- a label forgotten -/
theorem R.drop (l : Nat) (k : R P ops Q none E n L τ ((l, .gone) :: h) F rest) : R P ops Q none E n L τ h F rest := ⟨fun ρ a w g => k.out ρ a w (g.drop hk_dropped)⟩
theorem C.drop {c : Code} (l : Nat) (k : C P c Q E n L τ ((l, .gone) :: h) F) : C P c Q E n L τ h F := ⟨fun ρ a w g => k.out ρ a w (g.drop hk_dropped)⟩
theorem X.drop {e : Exit} (l : Nat) (k : X Q e E n L τ ((l, .gone) :: h) F) : X Q e E n L τ h F := ⟨fun ρ a w g => k.out ρ a w (g.drop hk_dropped)⟩
variable {d : Nat} {ty : TypeId} {ps : String} {af : Array Edge} {gd : Option (Nat × Bool)}
/-- a call by a contract that speaks of facts, beside others -/
theorem R.clE {σ : Type} {G : σ → Prop} {val : σ → AV} {post : σ → List (Nat × AO)} {f : FuncId} {x : Operand} {cs : List AV} {xs : Array Operand} {ats : Array TypeId} {avs : List AV} {h1 : List AO} {m : Nat} {fs1 : Fam} {fs' : σ → Fam} (ms : List Nat) (sp : SpecF P f avs h1 m fs1 G val post fs') (fr : Fam) (hperm : fs.Perm (fs1 ++ fr)) (hN : H0.length ≤ E.N) (hE : ∀ l, l < H0.length → E.ρ l = R0 l) (eg : ∀ args w, (callFunc f args).run P w = .ok (.enter f args) w)
    (hin : HasIn (renF ms L) h 0 h1) (hf : evA τ x = some (.fn f cs)) {l : List AV} (hxs : evList (evA τ) xs.toList = some l) (hx : l ++ cs = AV.rens (renF ms L) avs) (hP : ∀ s, (bdB m (post s) && nodupB (((post s).map (·.1)).map (renF ms L))) = true)
    (hg : wantA ops ⟨some d, .call { callee := .value x, args := xs, argTypes := ats }, ty, ps, af, gd⟩ τ = some true) (hb : (Nat.ble (d + 1) n && Nat.beq h1.length ms.length && onceB h1 ms && chainB h D ((goneL h1 ms).map (·.1)) && Nat.ble h1.length m && roL H0 h) = true)
    (k : ∀ s, G s → R P ops Q (actD h D ((goneL h1 ms).map (·.1))) E n (L + (m - h1.length)) ((d, (val s).ren (renF ms L)) :: τ) (renH (renF ms L) (post s) ++ (goneL h1 ms ++ h)) (FF H0 R0 W0 FS0 (fs' s ++ fr)) rest) :
    R P ops Q D E n L τ h (FF H0 R0 W0 FS0 fs) (⟨some d, .call { callee := .value x, args := xs, argTypes := ats }, ty, ps, af, gd⟩ :: rest) := by
  rw [Bool.and_eq_true, Bool.and_eq_true] at hb
  obtain ⟨⟨hb1, hb2⟩, hrob⟩ := hb
  simp only [Bool.and_eq_true] at hP
  refine R.fperm hperm ?_
  refine R.cfG fr ms sp eg (fun ρ a w g l b hl hb hw => ?_) hf hxs hx hin hb2 (fun s => bdB_lt (hP s).1) (fun s => (hP s).2) hg hb1 k
  cases hx : hk l h with
  | none => exact hl hx
  | some o =>
    cases hro : o.isRo with
    | false =>
      obtain ⟨p, hp, _, he⟩ := hw
      exact g.apF (List.mem_append_left _ hp) ⟨o, hx, hro⟩ (by rw [he]; exact hb)
    | true =>
      obtain ⟨o0, h3, h4⟩ := roL_get hrob hx hro
      have hlN : l < H0.length := (List.getElem?_eq_some_iff.1 h3).1
      have : ρ l = R0 l := by rw [g.ex l (by omega), hE l hlN]
      obtain ⟨p, hp, q⟩ := hw
      exact g.ff.inn h3 h4 (this ▸ hb) ⟨p, List.mem_append_left _ hp, q⟩
end
end Go.Proofs.Yteabncomclgncaa
namespace Go.Proofs.Yteabncomclgncaa
set_option linter.unusedVariables false
set_option linter.unusedSimpArgs false
set_option linter.unusedSectionVars false
open Go.RowKit
theorem callsIn_round {P : Program} {lb : Nat} {f : FuncId} {args : Array Value} {w : World} {R : Ending → World → Prop} (h : Calls P f args w R) : CallsIn (Fence.wide.inRound lb) 0 P f args w R := (callsIn_wide (n := 0)).2 h
theorem rowsIn_round {P : Program} {lb : Nat} {row : String} {args : Array Value} {w : World} {R : Value → World → Prop} (h : Rows P row args w R) : RowsIn (Fence.wide.inRound lb) 0 P row args w R := fun c cs _ => by
  obtain ⟨v, w', h1, h2⟩ := h c cs
  exact ⟨v, w', h1, stepsIn_wide.2 h2⟩
theorem operIn {P : Program} {lb : Nat} {o : Oper} {a : Act} {w : World} {next next' : Act → World → Prop} {Q : Exit → Act → World → Prop} (hd : ∀ c, o.op ≠ .defer c) (hn : ∀ a w, next a w → next' a w) (h : o.wp P a w next Q) : o.wpIn (Fence.wide.inRound lb) 0 P a w next' Q := by
  refine ⟨fun _ _ => trivial, ?_⟩
  rw [Oper.semAt_eq _ _ _ hd]
  unfold Oper.wp at h
  generalize (execOp a.eval o).run P w = r at h
  cases r with
  | ok x w' =>
    cases x <;> simp only [Oper.upon] at h <;> simp only [Oper.uponIn]
    case value v => exact hn _ _ h
    case skip => exact hn _ _ h
    case defer d => exact hn _ _ h
    case enter f args =>
      refine ⟨fun e => (by cases e), callsIn_round (h.mono fun e w'' hq => ?_)⟩
      cases e with
      | returned v => exact hn _ _ hq
      | panicked ch => exact hq
      | outgrown => exact hq
    case row rw args => exact ⟨fun e => (by cases e), rowsIn_round (h.mono fun v w'' hq => hn _ _ hq)⟩
  | halt x w' => cases x <;> first | exact h | exact h.elim
theorem listIn {P : Program} {lb : Nat} {ops : Array Oper} {Q : Exit → Act → World → Prop} (hQ : ¬ LetsOut Q) : ∀ (l : List Oper), (∀ o ∈ l, ∀ c, o.op ≠ .defer c) → ∀ a w, wpList P ops Q l a w → wpListIn (Fence.wide.inRound lb) 0 P ops Q l a w
  | [], _, a, w, h => h
  | o :: rest, hd, a, w, h => by
    have ih := listIn (P := P) (lb := lb) (ops := ops) hQ rest (fun o' ho => hd o' (List.mem_cons_of_mem _ ho))
    simp only [wpList] at h
    simp only [wpListIn]
    by_cases hw : Region.wanted o (yielded ops a.tmps) = true
    · rw [if_pos hw] at h ⊢
      rcases h with h | h
      · exact operIn (hd o List.mem_cons_self) ih h
      · exact absurd h.2 hQ
    · rw [if_neg hw] at h ⊢
      exact ⟨fun _ _ => trivial, ih _ _ h⟩
def noDefer (l : List Oper) : Bool := l.all fun o => match o.op with
  | .defer _ => false
  | _ => true
theorem noDefer_get {l : List Oper} (h : noDefer l = true) : ∀ o ∈ l, ∀ c, o.op ≠ .defer c := fun o ho c e => by
  have := List.all_eq_true.1 h o ho
  rw [e] at this
  cases this
/-- code of a round -/
structure CR (P : Program) (lb : Nat) (c : Code) (Q : Exit → Act → World → Prop) (E : Base) (n L : Nat) (τ : List (Nat × AV)) (h : List (Nat × AO)) (F : World → Prop) : Prop where
  mk :: (out : ∀ ρ a w, Gam E ρ n L τ h F a w → c.wpIn (Fence.wide.inRound lb) 0 P Q a w)
section
variable {P : Program} {lb : Nat} {Q : Exit → Act → World → Prop} {E : Base} {n L : Nat} {τ : List (Nat × AV)} {h : List (Nat × AO)} {F : World → Prop}
theorem CR.seq {x y : Code} (k : CR P lb x (Exit.then (y.wpIn (Fence.wide.inRound lb) 0 P Q) Q) E n L τ h F) : CR P lb (.seq x y) Q E n L τ h F := ⟨fun ρ a w g => wpIn_seq (k.out ρ a w g)⟩
theorem X.thenR {y : Code} (k : CR P lb y Q E n L τ h F) : X (Exit.then (y.wpIn (Fence.wide.inRound lb) 0 P Q) Q) .normal E n L τ h F := ⟨fun ρ a w g => k.out ρ a w g⟩
theorem CR.block {id : Nat} {c : Code} (k : CR P lb c (Exit.inBlock id Q) E n L τ h F) : CR P lb (.block id c) Q E n L τ h F := ⟨fun ρ a w g => wpIn_block (k.out ρ a w g)⟩
theorem CR.skip (k : X Q .normal E n L τ h F) : CR P lb .skip Q E n L τ h F := ⟨fun ρ a w g => wpIn_skip (k.out ρ a w g)⟩
theorem CR.ret (k : X Q .ret E n L τ h F) : CR P lb .ret Q E n L τ h F := ⟨fun ρ a w g => wpIn_ret (k.out ρ a w g)⟩
theorem CR.exit {id : Nat} (k : X Q (.exit id) E n L τ h F) : CR P lb (.exit id) Q E n L τ h F := ⟨fun ρ a w g => wpIn_exit (k.out ρ a w g)⟩
theorem CR.tru {c : Operand} {x y : Code} (hc : evA τ c = some (.raw (.bool true))) (k : CR P lb x Q E n L τ h F) : CR P lb (.cond c x y) Q E n L τ h F := ⟨fun ρ a w g => wpIn_cond_true (g.eval c _ hc).2 (k.out ρ a w g)⟩
theorem CR.fls {c : Operand} {x y : Code} (hc : evA τ c = some (.raw (.bool false))) (k : CR P lb y Q E n L τ h F) : CR P lb (.cond c x y) Q E n L τ h F := ⟨fun ρ a w g => wpIn_cond_false (g.eval c _ hc).2 (k.out ρ a w g)⟩
theorem CR.region {id : Nat} {l : List Oper} (k : R P l.toArray Q none E n L τ h F l) (hd : noDefer l = true := by kernel_rfl) (hQ : ¬ LetsOut Q := by rintro ⟨_, _, h⟩; exact h) : CR P lb (.region id l.toArray false) Q E n L τ h F :=
  ⟨fun ρ a w g => wpIn_region_lit (listIn hQ l (noDefer_get hd) a w (k.out ρ a w g))⟩
theorem CR.fact {c : Code} {p : Prop} (hp : ∀ ρ a w, Gam E ρ n L τ h F a w → p) (k : p → CR P lb c Q E n L τ h F) : CR P lb c Q E n L τ h F := ⟨fun ρ a w g => (k (hp ρ a w g)).out ρ a w g⟩
theorem CR.again {c : Code} {α : Type} (E' : α → Base) (L' : Nat) (τ' : α → List (Nat × AV)) (h' : α → List (Nat × AO)) (F' : α → World → Prop) (I : α → Prop) (hg : ∀ ρ a w, Gam E ρ n L τ h F a w → ∃ x ρ', I x ∧ Gam (E' x) ρ' n L' (τ' x) (h' x) (F' x) a w)
    (k : ∀ x, I x → CR P lb c Q (E' x) n L' (τ' x) (h' x) (F' x)) : CR P lb c Q E n L τ h F := ⟨fun ρ a w g => by
  obtain ⟨x, ρ', hI, g'⟩ := hg ρ a w g
  exact (k x hI).out ρ' a w g'⟩
end
section
variable {E : Base} {ρ : Env} {n L : Nat} {τ : List (Nat × AV)} {h : List (Nat × AO)} {F : World → Prop} {a : Act} {w : World} {h0 : List AO} {ρ0 : Env} {w0 : World} {fs0 fs : Fam}
theorem Gam.mem (g : Gam E ρ n L τ h F a w) {E1 : Base} (hN : E1.N ≤ L) (he : ∀ l, l < E1.N → ρ l = E1.ρ l) (hd : E1.df = []) : Gam E1 ρ 0 L [] h F ⟨#[], []⟩ w :=
  ⟨hd.symm, rfl, fun t v hv => by simp [lk] at hv, g.hp, g.dis, g.fr, he, hN, g.al⟩
theorem Gam.join {a0 : Act} (g : Gam E ρ 0 L [] h F a0 w) {E1 : Base} {a : Act} (hN : E1.N ≤ L) (he : ∀ l, l < E1.N → ρ l = E1.ρ l) (hd : a.defers = E1.df) (hsz : a.tmps.size = n) (ht : ∀ t v, lk t τ = some v → v.Low ρ L ∧ a.tmps[t]? = some (v.conc ρ)) : Gam E1 ρ n L τ h F a w :=
  ⟨hd, hsz, ht, g.hp, g.dis, g.fr, he, hN, g.al⟩
theorem Gam.grow (g : Gam E ρ n L τ h F a w) {w' : World} (hw : Below w.heap.size w w') : Gam E ρ n L τ h F a w' :=
  ⟨g.df, g.sz, g.tm, fun l o hl => by
    have hh := g.hp l o hl
    exact ⟨hh.1, hh.2.1, holds_same hh.2.2 fun b hb => hw.block b (g.al l b hh.1 hb)⟩, g.dis, fun x hx => g.fr x (((Ag.of_below hw).mono fun b hb _ => hb).trans hx), g.ex, g.le, fun l b hl hb => Nat.lt_of_lt_of_le (g.al l b hl hb) hw.size⟩
theorem holds_cells {o : AO} {b : Nat} (hg : o ≠ .gone) (h : o.holds ρ (some b) w) : ∃ x : Obj, w.heap[b]? = some x ∧ x.isCells = true := by
  cases o with
  | cells xs ty => obtain ⟨b', e, hb⟩ := h; cases e; exact ⟨_, hb, rfl⟩
  | bytes p cap ty =>
    obtain ⟨_, ⟨e, _⟩ | ⟨b', cur, e, hb, _⟩⟩ := h
    · cases e
    · cases e; exact ⟨_, hb, rfl⟩
  | tab wd n cap f ty =>
    obtain ⟨_, _, ⟨e, _⟩ | ⟨b', cur, e, hb, _⟩⟩ := h
    · cases e
    · cases e; exact ⟨_, hb, rfl⟩
  | ro wd off n f =>
    obtain ⟨e, _⟩ | ⟨b', cur, ty, fr, e, hb, _⟩ := h
    · cases e
    · cases e; exact ⟨_, hb, rfl⟩
  | gone => exact absurd rfl hg
theorem Gam.off (g : Gam E ρ n L τ h F a w) {b : Nat} {ob : Obj} (hb : w.heap[b]? = some ob) (hc : ob.isCells = false) {l : Nat} (hl : hk l h ≠ none) : ρ l ≠ some b := fun e => by
  cases hx : hk l h with
  | none => exact hl hx
  | some o =>
    have hh := (g.hp l o hx).2.2
    rw [e] at hh
    obtain ⟨x, h1, h2⟩ := holds_cells (fun e => hk_gone hx e) hh
    rw [hb] at h1
    cases h1
    rw [hc] at h2; cases h2
theorem Gam.turnO {b : Nat} {ob : Obj} (g : Gam E ρ n L τ h (FF h0 ρ0 w0 fs0 (⟨false, b, ob⟩ :: fs)) a w) (ob' : Obj) (hc : ob.isCells = false) (hfs : ∀ p ∈ fs, p.b ≠ b) (hb : w0.heap.size ≤ b) : Gam E ρ n L τ h (FF h0 ρ0 w0 fs0 (⟨false, b, ob'⟩ :: fs)) a (w.putObj b ob') := by
  have hat : w.heap[b]? = some ob := g.ff.at_ ⟨false, b, ob⟩ List.mem_cons_self
  have hlt : b < w.heap.size := (Array.getElem?_eq_some_iff.1 hat).1
  have hoff : ∀ l, hk l h ≠ none → ρ l ≠ some b := fun l hl => g.off hat hc hl
  refine ⟨g.df, g.sz, g.tm, fun l o hl => ?_, g.dis, fun w' hw' => ?_, g.ex, g.le, fun l b' hl hb' => by rw [World.putObj_size]; exact g.al l b' hl hb'⟩
  · have hh := g.hp l o hl
    exact ⟨hh.1, hh.2.1, holds_same hh.2.2 fun b' hb' => World.putObj_heap_other fun e => hoff l (by rw [hl]; simp) (e ▸ hb')⟩
  · have hsz : b < w'.heap.size := Nat.lt_of_lt_of_le (by rw [World.putObj_size]; exact hlt) hw'.size
    have hag : Ag (fun c => ∀ l, wrA l h → ρ l ≠ some c) w (putB w' b ob) := by
      refine ⟨hw'.os, hw'.tape, hw'.output, by have := hw'.size; simpa [putB] using this, fun c hc1 hd => ?_⟩
      by_cases e : c = b
      · subst e; rw [putB_same _ _ hsz, hat]
      · rw [putB_ne _ _ e, hw'.block c (by rw [World.putObj_size]; exact hc1) hd, World.putObj_heap_other e]
    have hall := g.fr _ hag
    have hb' : w'.heap[b]? = some ob' := by
      rw [hw'.block b (by rw [World.putObj_size]; exact hlt) fun l hl => hoff l hl.live]
      exact World.putObj_heap_same hlt
    have hap := List.pairwise_cons.1 hall.ap
    refine ⟨fun p hp => ?_, ⟨hall.ag.os, hall.ag.tape, hall.ag.output, by have := hall.ag.size; simpa [putB] using this, fun c hc1 hd => ?_⟩, List.pairwise_cons.2 ⟨fun q hq e => absurd e.symm (hfs q hq), hap.2⟩, fun p hp hrw => ?_, fun p hp => ?_, hall.pre⟩
    · rcases List.mem_cons.1 hp with rfl | hp
      · exact hb'
      · have := hall.at_ p (List.mem_cons_of_mem _ hp)
        rwa [putB_ne _ _ (hfs p hp)] at this
    · have h6 := hall.ag.block c hc1 hd
      rwa [putB_ne _ _ (by omega)] at h6
    · rcases List.mem_cons.1 hp with rfl | hp
      · cases hrw
      · exact hall.fre p (List.mem_cons_of_mem _ hp) hrw
    · rcases List.mem_cons.1 hp with rfl | hp
      · exact .inl hb
      · exact hall.bl p (List.mem_cons_of_mem _ hp)
/-- a block that is no cell, told as a fact -/
theorem Gam.tellO (g : Gam E ρ n L τ h (FF h0 ρ0 w0 fs0 fs) a w) {b : Nat} {ob : Obj} (hb : w.heap[b]? = some ob) (hc : ob.isCells = false) (hfs : ∀ p ∈ fs, p.b ≠ b) (h0b : w0.heap.size ≤ b) : Gam E ρ n L τ h (FF h0 ρ0 w0 fs0 (⟨false, b, ob⟩ :: fs)) a w :=
  g.strong fun w' hw' => by
    have hall := g.fr w' hw'
    refine ⟨fun p hp => ?_, hall.ag, List.pairwise_cons.2 ⟨fun q hq e => absurd e.symm (hfs q hq), hall.ap⟩, fun p hp hrw => ?_, fun p hp => ?_, hall.pre⟩
    · rcases List.mem_cons.1 hp with rfl | hp
      · exact (hw'.block b (Array.getElem?_eq_some_iff.1 hb).1 fun l hl => g.off hb hc hl.live).trans hb
      · exact hall.at_ p hp
    · rcases List.mem_cons.1 hp with rfl | hp
      · cases hrw
      · exact hall.fre p hp hrw
    · rcases List.mem_cons.1 hp with rfl | hp
      · exact .inl h0b
      · exact hall.bl p hp
end
/-- blocks that nothing is told of, told as facts -/
theorem Gam.tellX {E : Base} {ρ : Env} {n L : Nat} {τ : List (Nat × AV)} {h : List (Nat × AO)} {a : Act} {w : World} {h0 : List AO} {ρ0 : Env} {w0 : World} {fs0 : Fam} {p q : Fact} {fs : Fam} (g : Gam E ρ n L τ h (FF h0 ρ0 w0 fs0 (p :: q :: fs)) a w) (X : Fam) (hX : ∀ x ∈ X, x.rw = false ∧ w.heap[x.b]? = some x.ob) (h0b : ∀ x ∈ X, w0.heap.size ≤ x.b) (hfs : ∀ x ∈ X, ∀ z ∈ p :: q :: fs, z.b ≠ x.b) (hoff : ∀ x ∈ X, ∀ l, hk l h ≠ none → ρ l ≠ some x.b) :
    Gam E ρ n L τ h (FF h0 ρ0 w0 fs0 (p :: q :: (fs ++ X))) a w :=
  g.strong fun w' hw' => by
    have hall := g.fr w' hw'
    have hm : ∀ z, z ∈ p :: q :: (fs ++ X) → z ∈ p :: q :: fs ∨ z ∈ X := fun z hz => by
      simp only [List.mem_cons, List.mem_append] at hz ⊢
      rcases hz with h | h | h | h
      · exact .inl (.inl h)
      · exact .inl (.inr (.inl h))
      · exact .inl (.inr (.inr h))
      · exact .inr h
    refine ⟨fun z hz => ?_, hall.ag, ?_, fun z hz hrw => ?_, fun z hz => ?_, hall.pre⟩
    · rcases hm z hz with h | h
      · exact hall.at_ z h
      · have h1 := (hX z h).2
        exact (hw'.block z.b (Array.getElem?_eq_some_iff.1 h1).1 fun l hl => hoff z h l hl.live).trans h1
    · show List.Pairwise _ ((p :: q :: fs) ++ X)
      refine List.pairwise_append.2 ⟨hall.ap, apf_ro fun x hx => (hX x hx).1, fun x hx y hy e => absurd e (hfs y hy x hx)⟩
    · rcases hm z hz with h | h
      · exact hall.fre z h hrw
      · rw [(hX z h).1] at hrw; cases hrw
    · rcases hm z hz with h | h
      · exact hall.bl z h
      · exact .inl (h0b z h)
def FactC (lb : Nat) (p : Fact) : Prop := p.ob.isCells = true ∨ p.ob = .deferred (some []) ∨ p.b ≠ lb
theorem factC_off {fs : Fam} {w : World} {b : Nat} {r : Loop} (hat : AtF fs w) (hb : w.heap[b]? = some (.loop r)) (hc : ∀ p ∈ fs, FactC b p) : ∀ p ∈ fs, p.b ≠ b := fun p hp e => by
  have h1 := hat p hp
  rw [e, hb] at h1
  have h2 : p.ob = .loop r := (Option.some.inj h1).symm
  rcases hc p hp with h | h | h
  · rw [h2] at h; cases h
  · rw [h2] at h; cases h
  · exact h e
section
variable {P : Program} {lb : Nat} {E : Base} {n L : Nat} {τ : List (Nat × AV)} {h : List (Nat × AO)} {H0 : List AO} {R0 : Env} {W0 : World} {FS0 fs : Fam}
theorem Gam.turnL {ρ : Env} {a : Act} {w : World} {r : Loop} (g : Gam E ρ n L τ h (FF H0 R0 W0 FS0 (⟨false, lb, .loop r⟩ :: fs)) a w) (r' : Loop) (hfs : ∀ p ∈ fs, FactC lb p) (hlb : W0.heap.size ≤ lb) : Gam E ρ n L τ h (FF H0 R0 W0 FS0 (⟨false, lb, .loop r'⟩ :: fs)) a (w.putObj lb (.loop r')) :=
  g.turnO _ rfl (factC_off (fun p hp => g.ff.at_ p (List.mem_cons_of_mem _ hp)) (g.ff.at_ ⟨false, lb, .loop r⟩ List.mem_cons_self) hfs) hlb
/-- the left sides are assigned: the body -/
theorem X.begin_ {r : Loop} {body : Code} {Q : Exit → Act → World → Prop} (hfs : ∀ p ∈ fs, FactC lb p) (hlb : W0.heap.size ≤ lb) (hr : r.state = .ready) (k : CR P lb body Q E n L τ h (FF H0 R0 W0 FS0 (⟨false, lb, .loop { r with state := .busy }⟩ :: fs))) :
    X (Exit.then (fun a₁ w₁ => ∃ w₂, (Instr.beginRound lb).run P w₁ = .ok () w₂ ∧ body.wpIn (Fence.wide.inRound lb) 0 P Q a₁ w₂) (fun _ _ _ => False)) .normal E n L τ h (FF H0 R0 W0 FS0 (⟨false, lb, .loop r⟩ :: fs)) := ⟨fun ρ a w g => by
  have hat : w.heap[lb]? = some (.loop r) := g.ff.at_ ⟨false, lb, .loop r⟩ List.mem_cons_self
  exact ⟨_, run_beginRound hat hr, k.out ρ a _ (g.turnL _ hfs hlb)⟩⟩
theorem X.endN {r : Loop} {R : Ending → World → Prop} (hfs : ∀ p ∈ fs, FactC lb p) (hlb : W0.heap.size ≤ lb) (k : ∀ ρ a w, Gam E ρ n L τ h (FF H0 R0 W0 FS0 (⟨false, lb, .loop { r with state := .ready, pending := none }⟩ :: fs)) a w → R (.returned (.bool true)) w) :
    X (roundPost P lb R) .normal E n L τ h (FF H0 R0 W0 FS0 (⟨false, lb, .loop r⟩ :: fs)) := ⟨fun ρ a w g => by
  have hat : w.heap[lb]? = some (.loop r) := g.ff.at_ ⟨false, lb, .loop r⟩ List.mem_cons_self
  exact ⟨_, _, run_endRound none hat, k ρ a _ (g.turnL _ hfs hlb)⟩⟩
theorem X.endJ {r : Loop} {R : Ending → World → Prop} (hfs : ∀ p ∈ fs, FactC lb p) (hlb : W0.heap.size ≤ lb) (k : ∀ ρ a w, Gam E ρ n L τ h (FF H0 R0 W0 FS0 (⟨false, lb, .loop { r with state := .done, pending := some .ret }⟩ :: fs)) a w → R (.returned (.bool false)) w) :
    X (roundPost P lb R) .ret E n L τ h (FF H0 R0 W0 FS0 (⟨false, lb, .loop r⟩ :: fs)) := ⟨fun ρ a w g => by
  have hat : w.heap[lb]? = some (.loop r) := g.ff.at_ ⟨false, lb, .loop r⟩ List.mem_cons_self
  exact ⟨_, _, run_endRound (some .ret) hat, k ρ a _ (g.turnL _ hfs hlb)⟩⟩
end
/-- an iterator's contract -/
def ItC (P : Program) (gf : FuncId) (lb : Array Value) {σ α : Type} (enc : α → Array Value) (See : σ → World → Prop) (Pre : σ → α → Prop) (Nx : σ → α → σ → Prop) (Ini Fin : σ → Prop) : Prop :=
  ∀ (l : Nat) (J Jx : σ → World → Prop) (s0 : σ) (W : World), (∀ s W W', J s W → Below W.heap.size W W' → J s W') → (∀ s W W', Jx s W → Below W.heap.size W W' → Jx s W') → (∀ s W, J s W → See s W) →
    (∀ s x W1 W2, J s W1 → Below W1.heap.size W1 W2 → Pre s x → YieldAt Fence.wide 0 P l (enc x) W2 fun e W' => (e = .returned (.bool true) ∧ (∃ s', J s' W' ∧ Nx s x s') ∧ ∀ b, W1.heap.size ≤ b → b < W2.heap.size → W'.heap[b]? = W2.heap[b]?) ∨ (e = .returned (.bool false) ∧ ∃ s', Jx s' W')) →
    J s0 W → Ini s0 → CallsIn Fence.wide 0 P gf (#[.func (.yield l) #[] #[]] ++ lb) W fun e W' => (∃ v, e = .returned v) ∧ ((∃ s, J s W' ∧ Fin s) ∨ ∃ s, Jx s W')
/-- a state between two rounds; one that a round has left for good -/
def Jst {σ : Type} (E1 : Base) (L : Nat) (Inv : σ → Prop) (H : σ → List (Nat × AO)) (H0 : List AO) (R0 : Env) (W0 : World) (FS0 : Fam) (fsI : σ → Fam) (s : σ) (W : World) : Prop := Inv s ∧ ∃ ρ, Gam E1 ρ 0 L [] (H s) (FF H0 R0 W0 FS0 (fsI s)) ⟨#[], []⟩ W
abbrev markD (D : Nat) : Deferred := { target := .collected D, args := #[] }
abbrev dFact (D : Nat) : Fact := ⟨false, D, .deferred (some [])⟩
abbrev rFact (lb : Nat) (r : Loop) : Fact := ⟨false, lb, .loop r⟩
/-- a round's end: on, or out by a return -/
def rPost {σ α : Type} (J Jx : σ → World → Prop) (Nx : σ → α → σ → Prop) (X : Fam) (s : σ) (x : α) (e : Ending) (W' : World) : Prop := (e = .returned (.bool true) ∧ (∃ s', J s' W' ∧ Nx s x s') ∧ AtF X W') ∨ (e = .returned (.bool false) ∧ ∃ s', Jx s' W')
abbrev rndQ (P : Program) (lb : Nat) (body : Code) (R : Ending → World → Prop) : Exit → Act → World → Prop := Exit.then (fun a₁ w₁ => ∃ w₂, (Instr.beginRound lb).run P w₁ = .ok () w₂ ∧ body.wpIn (Fence.wide.inRound lb) 0 P (roundPost P lb R) a₁ w₂) (fun _ _ _ => False)
theorem jst_grow {σ : Type} {E1 : Base} {L : Nat} {Inv : σ → Prop} {H : σ → List (Nat × AO)} {H0 : List AO} {R0 : Env} {W0 : World} {FS0 : Fam} {fsI : σ → Fam} (s : σ) (W W' : World) (h : Jst E1 L Inv H H0 R0 W0 FS0 fsI s W) (hw : Below W.heap.size W W') : Jst E1 L Inv H H0 R0 W0 FS0 fsI s W' := by
  obtain ⟨h1, ρ, g⟩ := h
  exact ⟨h1, ρ, g.grow hw⟩
theorem zip2 (p q : Tmp) (x y : Value) (t : Array Value) : ((#[p, q] : Array Tmp).zip #[x, y]).foldl (fun t (a : Tmp × Value) => t.setIfInBounds a.1 a.2) t = (t.setIfInBounds p x).setIfInBounds q y := by
  rw [← Array.foldl_toList, Array.toList_zip]
  rfl
section
variable {P : Program} {Q : Exit → Act → World → Prop} {E : Base} {n L : Nat} {τ : List (Nat × AV)} {H0 : List AO} {R0 : Env} {W0 : World} {FS0 : Fam}
/-- A range over a function, in a call's own frame (not in a round). -/
theorem C.range {σ α : Type} {g : Operand} {p q : Tmp} {assign body : Code} {gf : FuncId} {cs : List AV} {H HX : σ → List (Nat × AO)} {fsI fsX : σ → Fam} {u v : α → Value} (N1 LX : Nat) (s0 : σ) (Inv InvX : σ → Prop) (Pre : σ → α → Prop) (Nx : σ → α → σ → Prop) (Ini Fin : σ → Prop) (See : Env → σ → World → Prop)
    (hg : evA τ g = some (.fn gf cs)) (eg : ∀ args w, (callFunc gf args).run P w = .ok (.enter gf args) w) (hI : Inv s0) (hi0 : Ini s0) (hb : (AV.bds N1 cs && (τ.all fun x => x.2.bd N1) && Nat.ble E.N N1 && Nat.ble N1 L && Nat.ble (p + 1) n && Nat.ble (q + 1) n && !Nat.beq p q && Nat.ble N1 LX) = true)
    (hcI : ∀ s, Inv s → ∀ x ∈ fsI s, x.ob.isCells = true) (hcX : ∀ s, InvX s → ∀ x ∈ fsX s, x.ob.isCells = true)
    (hsee : ∀ ρ1 ρ s W fs, (∀ l, l < N1 → ρ l = ρ1 l) → Inv s → (∀ x ∈ fsI s, x ∈ fs) → Gam ⟨N1, ρ1, []⟩ ρ 0 L [] (H s) (FF H0 R0 W0 FS0 fs) ⟨#[], []⟩ W → See ρ1 s W)
    (hit : ∀ ρ1 : Env, (∀ l, l < E.N → ρ1 l = E.ρ l) → ItC P gf (AV.concs ρ1 cs).toArray (fun x => #[u x, v x]) (See ρ1) Pre Nx Ini Fin)
    (hround : ∀ (ρ1 : Env) (lb D : Nat) (r : Loop) (X : Fam) s x, (∀ l, l < E.N → ρ1 l = E.ρ l) → r.state = .ready → r.pending = none → W0.heap.size ≤ lb → (∀ p ∈ X, p.rw = false ∧ p.b ≠ lb) → Inv s → Pre s x →
      CR P lb assign (rndQ P lb body (rPost (Jst ⟨N1, ρ1, []⟩ L Inv H H0 R0 W0 FS0 fun s => rFact lb r :: dFact D :: fsI s) (Jst ⟨N1, ρ1, []⟩ LX InvX HX H0 R0 W0 FS0 fun s => rFact lb { r with state := .done, pending := some .ret } :: dFact D :: fsX s) Nx X s x))
        ⟨N1, ρ1, []⟩ n L ((q, .raw (v x)) :: (p, .raw (u x)) :: τ) (H s) (FF H0 R0 W0 FS0 (rFact lb r :: dFact D :: (fsI s ++ X))))
    (hdone : ∀ s D, W0.heap.size ≤ D → Inv s → Fin s → X Q .normal ⟨E.N, E.ρ, markD D :: E.df⟩ n L τ (H s) (FF H0 R0 W0 FS0 (dFact D :: fsI s)))
    (hstop : ∀ s D, W0.heap.size ≤ D → InvX s → X Q .ret ⟨E.N, E.ρ, markD D :: E.df⟩ n LX τ (HX s) (FF H0 R0 W0 FS0 (dFact D :: fsX s))) :
    C P (.rangeFunc g #[p, q] assign body) Q E n L τ (H s0) (FF H0 R0 W0 FS0 (fsI s0)) := ⟨fun ρ1 a w g0 => by
  simp only [Bool.and_eq_true, Nat.ble_eq, Bool.not_eq_true', List.all_eq_true] at hb
  obtain ⟨⟨⟨⟨⟨⟨⟨hcs, hτ⟩, hN⟩, hNL⟩, hp⟩, hq⟩, hpq⟩, hNX⟩ := hb
  have hpq : p ≠ q := fun e => by subst e; rw [Nat.beq_refl] at hpq; cases hpq
  refine (wpIn_wide (n := 0)).1 (wpIn_rangeFunc ?_)
  intro fn _
  obtain ⟨rec, hrec⟩ : ∃ rec : LoopState → Option Code → Loop, rec = fun st pe => { state := st, pending := pe, fn, tmps := a.tmps, params := #[p, q], assign, body, defers := w.heap.size } := ⟨_, rfl⟩
  obtain ⟨W1, hW1⟩ : ∃ W1, (w.alloc (.deferred (some []))).alloc (.loop (rec .ready none)) = W1 := ⟨_, rfl⟩
  have hL1 : W1.heap[w.heap.size + 1]? = some (.loop (rec .ready none)) := by
    rw [← hW1]; have := World.alloc_heap_new (w.alloc (.deferred (some []))) (.loop (rec .ready none)); rwa [World.size_alloc] at this
  have hK1 : W1.heap[w.heap.size]? = some (.deferred (some [])) := by
    rw [← hW1]; exact (Below.heap_alloc _ _ _ (by simp)).trans (World.alloc_heap_new w _)
  have hb1 : Below w.heap.size w W1 := by
    rw [← hW1]; exact ((Below.refl _ w).alloc (Nat.le_refl _) _).alloc (by simp) _
  have h0w : W0.heap.size ≤ w.heap.size := g0.ff.ag.size
  have hev : a.eval g = .func (.func gf) #[] (AV.concs ρ1 cs).toArray := (g0.eval g _ hg).2
  have hpin : ∀ l, l < E.N → ρ1 l = E.ρ l := g0.ex
  -- the state without slots, with the two blocks told
  have gm : Gam ⟨N1, ρ1, []⟩ ρ1 0 L [] (H s0) (FF H0 R0 W0 FS0 (rFact (w.heap.size + 1) (rec .ready none) :: dFact w.heap.size :: fsI s0)) ⟨#[], []⟩ W1 := by
    have g1 : Gam ⟨N1, ρ1, []⟩ ρ1 0 L [] (H s0) (FF H0 R0 W0 FS0 (fsI s0)) ⟨#[], []⟩ W1 := (g0.mem (E1 := ⟨N1, ρ1, []⟩) hNL (fun _ _ => rfl) rfl).grow hb1
    have hlt : ∀ x ∈ fsI s0, x.b < w.heap.size := fun x hx => g0.ff.lt hx
    have g2 := g1.tellO hK1 rfl (fun x hx => by have := hlt x hx; omega) (by omega)
    exact g2.tellO hL1 rfl (fun x hx => by
      rcases List.mem_cons.1 hx with rfl | hx
      · show w.heap.size ≠ w.heap.size + 1; omega
      · have := hlt x hx; omega) (by omega)
  refine ⟨w.heap.size + 1, [{ target := .collected w.heap.size, args := #[] }], W1, { target := .fn (.func gf) (AV.concs ρ1 cs).toArray, args := #[.func (.yield (w.heap.size + 1)) #[] #[]] }, W1, gf,
    #[.func (.yield (w.heap.size + 1)) #[] #[]] ++ (AV.concs ρ1 cs).toArray, W1, ?_, ?_, ?_, ?_, fun e => (by cases e), ?_⟩
  · rw [← hW1, hrec]; exact run_enterLoop_outer _ _ _ _ _
  · simp only [resolve, hev]
    simp [go_sem]
  · intro f' _; trivial
  · simp [invoke, go_sem, eg]
  · have hfI : ∀ s, Inv s → ∀ x ∈ dFact w.heap.size :: fsI s, FactC (w.heap.size + 1) x := fun s hs x hx => by
      rcases List.mem_cons.1 hx with rfl | hx
      · exact .inr (.inl rfl)
      · exact .inl (hcI s hs x hx)
    have hfX : ∀ s, InvX s → ∀ x ∈ dFact w.heap.size :: fsX s, FactC (w.heap.size + 1) x := fun s hs x hx => by
      rcases List.mem_cons.1 hx with rfl | hx
      · exact .inr (.inl rfl)
      · exact .inl (hcX s hs x hx)
    -- slots behind the loop
    have htm : ∀ ρ : Env, (∀ l, l < N1 → ρ l = ρ1 l) → ∀ t y, lk t τ = some y → y.Low ρ N1 ∧ a.tmps[t]? = some (y.conc ρ) := fun ρ he t y hy => by
      have hbd := hτ _ (lk_mem hy)
      exact ⟨bdLow hbd _, by rw [(g0.tm t y hy).2, bd_low y hbd ρ1 ρ he]⟩
    refine (hit ρ1 hpin (w.heap.size + 1) (Jst ⟨N1, ρ1, []⟩ L Inv H H0 R0 W0 FS0 fun s => rFact (w.heap.size + 1) (rec .ready none) :: dFact w.heap.size :: fsI s)
      (Jst ⟨N1, ρ1, []⟩ LX InvX HX H0 R0 W0 FS0 fun s => rFact (w.heap.size + 1) { rec .ready none with state := .done, pending := some .ret } :: dFact w.heap.size :: fsX s) s0 W1 (fun s W W' h hw => jst_grow s W W' h hw) (fun s W W' h hw => jst_grow s W W' h hw)
      (fun s W ⟨h1, ρ, g⟩ => hsee ρ1 ρ s W _ g.ex h1 (fun x hx => List.mem_cons_of_mem _ (List.mem_cons_of_mem _ hx)) g) ?_ ⟨hI, ρ1, gm⟩ hi0).mono ?_
    · rintro s x Wa W ⟨hs, ρ, ga⟩ hgr hpre
      obtain ⟨X, hXe⟩ : ∃ X : Fam, X = (List.range' Wa.heap.size (W.heap.size - Wa.heap.size)).map fun b => ⟨false, b, W.heap.getD b default⟩ := ⟨_, rfl⟩
      have hXg : ∀ y ∈ X, y.rw = false ∧ Wa.heap.size ≤ y.b ∧ W.heap[y.b]? = some y.ob := fun y hy => by
        rw [hXe] at hy
        obtain ⟨b, hb, rfl⟩ := List.mem_map.1 hy
        have hb := List.mem_range'_1.1 hb
        have hlt : b < W.heap.size := by omega
        exact ⟨rfl, hb.1, by simp [Array.getD, hlt]⟩
      have hltA : ∀ y ∈ rFact (w.heap.size + 1) (rec .ready none) :: dFact w.heap.size :: fsI s, y.b < Wa.heap.size := fun y hy => ga.ff.lt hy
      have gs := (ga.grow hgr).tellX X (fun y hy => ⟨(hXg y hy).1, (hXg y hy).2.2⟩) (fun y hy => by have := ga.ff.ag.size; have := (hXg y hy).2.1; omega) (fun y hy z hz e => by have := hltA z hz; have := (hXg y hy).2.1; omega) (fun y hy l hl e => by
        have h1 := (hXg y hy).2.1
        cases hx : hk l (H s) with
        | none => exact hl hx
        | some o => have := ga.al l y.b (ga.hp l o hx).1 e; omega)
      have hat : W.heap[w.heap.size + 1]? = some (.loop (rec .ready none)) := gs.ff.at_ (rFact (w.heap.size + 1) (rec .ready none)) List.mem_cons_self
      have hy := run_yield (P := P) (args := #[u x, v x]) hat (by rw [hrec]; rfl)
      refine ⟨_, _, _, _, hy, RoundIn.mono (R := rPost (Jst ⟨N1, ρ1, []⟩ L Inv H H0 R0 W0 FS0 fun s => rFact (w.heap.size + 1) (rec .ready none) :: dFact w.heap.size :: fsI s) (Jst ⟨N1, ρ1, []⟩ LX InvX HX H0 R0 W0 FS0 fun s => rFact (w.heap.size + 1) { rec .ready none with state := .done, pending := some .ret } :: dFact w.heap.size :: fsX s) Nx X s x) (roundIn_of_wpIn trivial ?_) ?hp⟩
      case hp =>
        rintro e W' (⟨rfl, h1, h2⟩ | h)
        · refine .inl ⟨rfl, h1, fun b hb1 hb2 => ?_⟩
          have := h2 ⟨false, b, W.heap.getD b default⟩ (by rw [hXe]; exact List.mem_map.2 ⟨b, List.mem_range'_1.2 ⟨hb1, by omega⟩, rfl⟩)
          rw [this]
          simp [Array.getD, hb2]
        · exact .inr h
      have hst : (rec .ready none).state = .ready := by rw [hrec]
      have hpe : (rec .ready none).pending = none := by rw [hrec]
      have hR := hround ρ1 (w.heap.size + 1) w.heap.size (rec .ready none) X s x hpin hst hpe (by omega) (fun y hy => ⟨(hXg y hy).1, fun e => by have h1 := hltA _ List.mem_cons_self; have h2 := (hXg y hy).2.1; have h1 : w.heap.size + 1 < Wa.heap.size := h1; omega⟩) hs hpre
      have e1 : (rec .ready none).assign = assign := by rw [hrec]
      have e2 : (rec .ready none).body = body := by rw [hrec]
      have e3 : (rec .ready none).params = #[p, q] := by rw [hrec]
      have e4 : (rec .ready none).tmps = a.tmps := by rw [hrec]
      rw [e1, e2, e3, e4, zip2]
      refine hR.out ρ _ W (gs.join (E1 := ⟨N1, ρ1, []⟩) hNL gs.ex rfl (by simp [g0.sz]) fun t y hy => ?_)
      have hsz := g0.sz
      rw [lk_cons] at hy
      split at hy
      · rename_i e
        subst e
        cases hy
        refine ⟨AV.Low.raw _ _ _, ?_⟩
        rw [Array.getElem?_setIfInBounds_self]
        simp [hsz]
        exact ⟨hq, rfl⟩
      · rename_i eq
        rw [lk_cons] at hy
        split at hy
        · rename_i e
          subst e
          cases hy
          refine ⟨AV.Low.raw _ _ _, ?_⟩
          rw [Array.getElem?_setIfInBounds_ne (fun e => hpq e.symm), Array.getElem?_setIfInBounds_self]
          simp [hsz]
          exact ⟨hp, rfl⟩
        · rename_i ep
          have := htm ρ gs.ex t y hy
          exact ⟨this.1.mono hNL, by rw [Array.getElem?_setIfInBounds_ne eq, Array.getElem?_setIfInBounds_ne ep]; exact this.2⟩
    · rintro e W2 ⟨⟨val, rfl⟩, (⟨s, ⟨hs, ρ, gs⟩, hfin⟩ | ⟨s, hs, ρ, gs⟩)⟩
      · have hat : W2.heap[w.heap.size + 1]? = some (.loop (rec .ready none)) := gs.ff.at_ (rFact (w.heap.size + 1) (rec .ready none)) List.mem_cons_self
        have hst : (rec .ready none).state = .ready := by rw [hrec]
        have hpe : (rec .ready none).pending = none := by rw [hrec]
        refine ⟨none, _, (run_endLoop (P := P) hat (by rw [hst]; simp)).trans (congrArg (fun o => Result.ok o (W2.putObj (w.heap.size + 1) (.loop { rec .ready none with state := .exhausted }))) hpe), ?_⟩
        have g2 := gs.turnL { rec .ready none with state := .exhausted } (hfI s hs) (by omega)
        have g3 : Gam ⟨N1, ρ1, []⟩ ρ 0 L [] (H s) (FF H0 R0 W0 FS0 (dFact w.heap.size :: fsI s)) ⟨#[], []⟩ _ := g2.strong fun w' hw' => (g2.fr w' hw').less (fun x hx => List.mem_cons_of_mem _ hx) (List.pairwise_cons.1 (g2.fr w' hw').ap).2
        refine (hdone s w.heap.size h0w hs hfin).out ρ _ _ (g3.join (a := { a with defers := [markD w.heap.size] ++ a.defers }) (E1 := ⟨E.N, E.ρ, markD w.heap.size :: E.df⟩) (Nat.le_trans hN hNL) (fun l hl => (gs.ex l (Nat.lt_of_lt_of_le hl hN)).trans (hpin l hl)) ?_ g0.sz fun t y hy => ?_)
        · show [markD w.heap.size] ++ a.defers = _
          rw [g0.df]; rfl
        · have := htm ρ gs.ex t y hy
          exact ⟨this.1.mono hNL, this.2⟩
      · obtain ⟨r', hr'⟩ : ∃ r' : Loop, r' = { rec .ready none with state := .done, pending := some .ret } := ⟨_, rfl⟩
        rw [← hr'] at gs
        have hat : W2.heap[w.heap.size + 1]? = some (.loop r') := gs.ff.at_ (rFact (w.heap.size + 1) r') List.mem_cons_self
        refine ⟨some .ret, _, (run_endLoop (P := P) hat (by rw [hr']; simp)).trans (congrArg (fun o => Result.ok o (W2.putObj (w.heap.size + 1) (.loop { r' with state := .exhausted }))) (show r'.pending = some .ret by rw [hr'])), ?_⟩
        have g2 := gs.turnL { r' with state := .exhausted } (hfX s hs) (by omega)
        have g3 : Gam ⟨N1, ρ1, []⟩ ρ 0 LX [] (HX s) (FF H0 R0 W0 FS0 (dFact w.heap.size :: fsX s)) ⟨#[], []⟩ _ := g2.strong fun w' hw' => (g2.fr w' hw').less (fun x hx => List.mem_cons_of_mem _ hx) (List.pairwise_cons.1 (g2.fr w' hw').ap).2
        refine wpIn_ret ((hstop s w.heap.size h0w hs).out ρ _ _ (g3.join (a := { a with defers := [markD w.heap.size] ++ a.defers }) (E1 := ⟨E.N, E.ρ, markD w.heap.size :: E.df⟩) (Nat.le_trans hN hNX) (fun l hl => (gs.ex l (Nat.lt_of_lt_of_le hl hN)).trans (hpin l hl)) ?_ g0.sz fun t y hy => ?_))
        · show [markD w.heap.size] ++ a.defers = _
          rw [g0.df]; rfl
        · have := htm ρ gs.ex t y hy
          exact ⟨this.1.mono hNX, this.2⟩⟩
end
end Go.Proofs.Yteabncomclgncaa
namespace Go.Proofs.Yteabncomclgncaa
set_option linter.unusedVariables false
set_option linter.unusedSimpArgs false
set_option linter.unusedSectionVars false
open Go.RowKit
theorem gam_enter (ρ : Env) (avs : List AV) (h0 : List AO) (w : World) (n : Nat) (hlen : Nat.ble avs.length n = true) (hbd : AV.bds h0.length avs = true)
    (hbo : ∀ o ∈ h0, o.Bd h0.length) (hh : ∀ (i : Nat) (o : AO), h0[i]? = some o → o.holds ρ (ρ i) w) (hdis : ∀ i j o b, h0[i]? = some o → o.isRo = false → j < h0.length → ρ i = some b → ρ j = some b → i = j) (hal : ∀ i b, i < h0.length → ρ i = some b → b < w.heap.size) :
    Gam ⟨h0.length, ρ, []⟩ ρ n h0.length (slots 0 avs) (labels 0 h0) (fun w' => Ag (fun b => ¬ Wr0 h0 ρ b) w w') { tmps := (AV.concs ρ avs).toArray ++ Array.replicate (n - (AV.concs ρ avs).toArray.size) undef, defers := [] } w := by
  have hlen' : avs.length ≤ n := by simpa [Nat.ble_eq] using hlen
  refine ⟨rfl, by simp [concs_length]; omega, fun t v hv => ?_, fun l o ho => ?_, fun l l' b hl hl' hb1 hb2 => ?_, fun w' hw => ?_, fun _ _ => rfl, Nat.le_refl _, hal⟩
  · have := (lk_slots avs 0 t v hv).2
    rw [Nat.sub_zero] at this
    refine ⟨bdLow (bds_all hbd v (List.mem_of_getElem? this)) ρ, ?_⟩
    have hlt : t < avs.length := (List.getElem?_eq_some_iff.1 this).1
    simp only [Array.getElem?_append, List.size_toArray, concs_length, hlt, if_true]
    simpa using concs_get this
  · have := (hk_labels h0 0 l o ho).2
    rw [Nat.sub_zero] at this
    exact ⟨(List.getElem?_eq_some_iff.1 this).1, (hbo o (List.mem_of_getElem? this)).low ρ, hh l o this⟩
  · have e : ∀ l, hk l (labels 0 h0) ≠ none → l < h0.length := fun l hl => by
      cases ho : hk l (labels 0 h0) with
      | none => exact absurd ho hl
      | some o =>
        have := (hk_labels h0 0 l o ho).2
        rw [Nat.sub_zero] at this
        exact (List.getElem?_eq_some_iff.1 this).1
    obtain ⟨o, ho, hro⟩ := hl
    have := (hk_labels h0 0 l o ho).2
    rw [Nat.sub_zero] at this
    exact hdis l l' o b this hro (e l' hl') hb1 hb2
  · refine hw.mono fun b _ hd l hl hb => hd ?_
    obtain ⟨o, ho, hro⟩ := hl
    have := (hk_labels h0 0 l o ho).2
    rw [Nat.sub_zero] at this
    exact ⟨l, o, this, hro, hb⟩
theorem Gam.outcF {n L : Nat} {τ : List (Nat × AV)} {h : List (Nat × AO)} {a : Act} {w : World} {σ : Type} {h0 : List AO} {m : Nat} {ρ ρ0 : Env} {w0 : World} {fs0 fsE : Fam} {ds : List Deferred} {G : σ → Prop} {val : σ → AV} {post : σ → List (Nat × AO)} {fs' : σ → Fam} {v : AV}
    (g : Gam ⟨h0.length, ρ0, ds⟩ ρ n L τ h (FF h0 ρ0 w0 fs0 fsE) a w) (s : σ) (rl : List (Nat × Nat)) (hG : G s)
    (hv : v = (val s).ren (rnF rl)) (hb : ((val s).bd m && rnB h0.length m L rl && newB h0.length rl h (post s) && oldB h0 (post s) && nodupB (((post s).map (·.1)).map (rnF rl))) = true) (hh : HasH (rnF rl) m h (post s))
    (hfs : ∀ w, FF h0 ρ0 w0 fs0 fsE w → ApF (fs' s)) (hin : ∀ p ∈ fs' s, p ∈ fsE) (hall : ∀ p ∈ fs0, p.rw = true → BlF fsE p.b) : OutcF h0 m ρ0 w0 fs0 G val post fs' (.returned (v.conc ρ)) w := by
  simp only [Bool.and_eq_true] at hb
  obtain ⟨⟨⟨⟨h1, h2⟩, h3⟩, h4⟩, h5⟩ := hb
  obtain ⟨h6, h7, h8⟩ := rn_ok h2
  have g2 := g.imp (rnF rl) m [] (post s) _ h6 h7 h8 trivial hh h5 (fun _ h => h)
  refine ⟨s, fun l => ρ (rnF rl l), hG, fun i hi => g2.ex i hi, by rw [hv, ren_conc], bdLow h1 _, g.ff.less hin (hfs w g.ff), g2.hp, g2.dis, fun l b h1 h3 => g.al (rnF rl l) b (h7 l h1) h3, fun l b hl hlive hb => ?_, oldB_mem h4, fun l b hl hb ⟨p, hp, he⟩ => ?_⟩
  · rcases g.freF (newB_mem h3 l hlive hl) hb with h9 | h9 | ⟨p, hp, hrw, he⟩
    · exact .inl h9
    · exact .inr h9
    · obtain ⟨q, hq, hqe⟩ := hall p hp hrw
      exact absurd (by rw [hqe, he]; exact hb) (g.apF hq (newB_mem h3 l hlive hl))
  · exact g2.apF (hin p hp) hl (by rw [he]; exact hb)
section
variable {P : Program} {n L : Nat} {τ : List (Nat × AV)} {h : List (Nat × AO)}
theorem SpecF.ofM {f : FuncId} {avs : List AV} {h0 : List AO} {m : Nat} {σ : Type} {fs : Fam} {G : σ → Prop} {val : σ → AV} {post : σ → List (Nat × AO)} {fs' : σ → Fam} {fn : Func} {c : Code} (hf : P.funcs[f]? = some fn) (hb : fn.body = some c) {n : Nat} (hn : fn.ntmps = n) (hB : (Nat.ble avs.length n && AV.bds h0.length avs) = true) (hbo : ∀ o ∈ h0, o.Bd h0.length)
    (k : ∀ ρ w, C P c (bodyPostM Fence.wide 0 P fn (OutcF h0 m ρ w fs G val post fs')) ⟨h0.length, ρ, []⟩ n h0.length (slots 0 avs) (labels 0 h0) (FF h0 ρ w fs fs)) : SpecF P f avs h0 m fs G val post fs' := fun ρ w h1 h2 => by
  simp only [Bool.and_eq_true] at hB
  refine (callsIn_wide (n := 0)).1 (callsIn_of_wp_marks hf hb trivial (wpIn_wide.2 ?_) rfl)
  rw [hn]
  exact (k ρ w).out ρ _ w ((gam_enter ρ avs h0 w n hB.1 hB.2 hbo h1 h2.dis (fun i b hi hb => h2.al i b hi hb)).strong fun x hx => h2.ff ((gam_enter ρ avs h0 w n hB.1 hB.2 hbo h1 h2.dis (fun i b hi hb => h2.al i b hi hb)).fr x hx))
/-- the end, behind the loop -/
theorem X.finM {tt : List (Nat × TI)} (htt : TTok P tt) {fn : Func} {σ : Type} {h0 : List AO} {m D : Nat} {ρ0 : Env} {w0 : World} {fs0 fsE : Fam} {G : σ → Prop} {val : σ → AV} {post : σ → List (Nat × AO)} {fs' : σ → Fam} {vs : List AV} (s : σ) (rl : List (Nat × Nat)) (hG : G s) (hr : resA tt h τ fn.results.toList = some vs)
    (hv : resV vs = (val s).ren (rnF rl)) (hb : ((val s).bd m && rnB h0.length m L rl && newB h0.length rl h (post s) && oldB h0 (post s) && nodupB (((post s).map (·.1)).map (rnF rl))) = true) (hh : HasH (rnF rl) m h (post s)) (e : Exit) (he : e = .ret ∨ e = .normal) (hD : w0.heap.size ≤ D) (hcE : ∀ p ∈ fsE, p.ob.isCells = true)
    (hfs : ∀ w, FF h0 ρ0 w0 fs0 fsE w → ApF (fs' s)) (hin : ∀ p ∈ fs' s, p ∈ fsE) (hall : ∀ p ∈ fs0, p.rw = true → BlF fsE p.b) :
    X (bodyPostM Fence.wide 0 P fn (OutcF h0 m ρ0 w0 fs0 G val post fs')) e ⟨h0.length, ρ0, [markD D]⟩ n L τ h (FF h0 ρ0 w0 fs0 (dFact D :: fsE)) := by
  have key : ∀ ρ a w, Gam ⟨h0.length, ρ0, [markD D]⟩ ρ n L τ h (FF h0 ρ0 w0 fs0 (dFact D :: fsE)) a w → LeavesInM Fence.wide 0 P fn a.tmps (OutcF h0 m ρ0 w0 fs0 G val post fs') a.defers .returning w := fun ρ a w g => by
    have hat : w.heap[D]? = some (.deferred (some [])) := g.ff.at_ (dFact D) List.mem_cons_self
    have hoff : ∀ p ∈ fsE, p.b ≠ D := fun p hp e => by
      have h1 := g.ff.at_ p (List.mem_cons_of_mem _ hp)
      rw [e, hat] at h1
      have h2 := hcE p hp
      rw [← Option.some.inj h1] at h2
      cases h2
    have g2 := g.turnO (.deferred none) rfl hoff hD
    have g3 : Gam ⟨h0.length, ρ0, [markD D]⟩ ρ n L τ h (FF h0 ρ0 w0 fs0 fsE) a (w.putObj D (.deferred none)) := g2.strong fun w' hw' => (g2.fr w' hw').less (fun x hx => List.mem_cons_of_mem _ hx) (List.pairwise_cons.1 (g2.fr w' hw').ap).2
    rw [g.df]
    refine ⟨by simp, .inl ⟨D, _, rfl, run_takeDeferred hat, ?_⟩⟩
    exact ⟨_, run_results htt g3 hr, g3.outcF s rl hG hv hb hh hfs hin hall⟩
  rcases he with rfl | rfl
  · exact ⟨fun ρ a w g => key ρ a w g⟩
  · exact ⟨fun ρ a w g => key ρ a w g⟩
/-- a round's end: on -/
theorem X.next {σ α : Type} {lb : Nat} {E1 : Base} {L2 LX : Nat} {Inv InvX : σ → Prop} {H HX : σ → List (Nat × AO)} {H0 : List AO} {R0 : Env} {W0 : World} {FS0 fsE X0 : Fam} {fsI fsX : σ → Fam} {r : Loop} {Nx : σ → α → σ → Prop} {s : σ} {x : α} (rl : List (Nat × Nat)) (s' : σ) (hI : Inv s') (hn : Nx s x s') (hr : r.state = .ready) (hp : r.pending = none) (hE : E1.df = [])
    (hb : rnB E1.N L2 L rl = true) (hh : HasH (rnF rl) L2 h (H s')) (hnd : nodupB (((H s').map (·.1)).map (rnF rl)) = true) (hlb : W0.heap.size ≤ lb) (hfs : ∀ p ∈ fsE, FactC lb p) (hF : ∀ w, FF H0 R0 W0 FS0 fsE w → FF H0 R0 W0 FS0 (fsI s') w) (hsub : ∀ p ∈ fsI s', FactC lb p) (hX : ∀ p ∈ X0, p ∈ fsE) :
    X (roundPost P lb (rPost (Jst E1 L2 Inv H H0 R0 W0 FS0 fun s => rFact lb r :: fsI s) (Jst E1 LX InvX HX H0 R0 W0 FS0 fsX) Nx X0 s x)) .normal E1 n L τ h (FF H0 R0 W0 FS0 (rFact lb { r with state := .busy } :: fsE)) := by
  refine X.endN hfs hlb fun ρ a w g => .inl ⟨rfl, ⟨s', ⟨hI, ?_⟩, hn⟩, fun p hp => g.ff.at_ p (List.mem_cons_of_mem _ (hX p hp))⟩
  obtain ⟨h1, h2, h3⟩ := rn_ok hb
  have er : ({ ({ r with state := .busy } : Loop) with state := .ready, pending := none } : Loop) = r := by
    cases r; simp only at hr hp; subst hr hp; rfl
  rw [er] at g
  have g2 := g.imp (rnF rl) L2 [] (H s') (FF H0 R0 W0 FS0 (rFact lb r :: fsI s')) h1 h2 h3 trivial hh hnd (fun w hf => by
    have hf2 : FF H0 R0 W0 FS0 (fsI s') w := hF w (hf.less (fun p hp => List.mem_cons_of_mem _ hp) (List.pairwise_cons.1 hf.ap).2)
    have hat : w.heap[lb]? = some (.loop r) := hf.at_ (rFact lb r) List.mem_cons_self
    have hoff := factC_off hf2.at_ hat hsub
    refine ⟨fun p hp => ?_, hf2.ag, List.pairwise_cons.2 ⟨fun q hq e => absurd e.symm (hoff q hq), hf2.ap⟩, fun p hp hrw => ?_, fun p hp => ?_, hf2.pre⟩
    · rcases List.mem_cons.1 hp with rfl | hp
      · exact hat
      · exact hf2.at_ p hp
    · rcases List.mem_cons.1 hp with rfl | hp
      · cases hrw
      · exact hf2.fre p hp hrw
    · rcases List.mem_cons.1 hp with rfl | hp
      · exact .inl hlb
      · exact hf2.bl p hp)
  exact ⟨_, g2.mem h3 g2.ex hE⟩
/-- a round's end: out by a return -/
theorem X.leave {σ α : Type} {lb : Nat} {E1 : Base} {L2 LX : Nat} {Inv InvX : σ → Prop} {H HX : σ → List (Nat × AO)} {H0 : List AO} {R0 : Env} {W0 : World} {FS0 fsE X0 : Fam} {fsI fsX : σ → Fam} {r : Loop} {Nx : σ → α → σ → Prop} {s : σ} {x : α} (rl : List (Nat × Nat)) (s' : σ) (hI : InvX s') (hE : E1.df = [])
    (hb : rnB E1.N LX L rl = true) (hh : HasH (rnF rl) LX h (HX s')) (hnd : nodupB (((HX s').map (·.1)).map (rnF rl)) = true) (hlb : W0.heap.size ≤ lb) (hfs : ∀ p ∈ fsE, FactC lb p) (hF : ∀ w, FF H0 R0 W0 FS0 fsE w → FF H0 R0 W0 FS0 (fsX s') w) (hsub : ∀ p ∈ fsX s', FactC lb p) :
    X (roundPost P lb (rPost (Jst E1 L2 Inv H H0 R0 W0 FS0 fsI) (Jst E1 LX InvX HX H0 R0 W0 FS0 fun s => rFact lb { r with state := .done, pending := some .ret } :: fsX s) Nx X0 s x)) .ret E1 n L τ h (FF H0 R0 W0 FS0 (rFact lb { r with state := .busy } :: fsE)) := by
  refine X.endJ hfs hlb fun ρ a w g => .inr ⟨rfl, s', hI, ?_⟩
  obtain ⟨h1, h2, h3⟩ := rn_ok hb
  have g2 := g.imp (rnF rl) LX [] (HX s') (FF H0 R0 W0 FS0 (rFact lb { r with state := .done, pending := some .ret } :: fsX s')) h1 h2 h3 trivial hh hnd (fun w hf => by
    have hf2 : FF H0 R0 W0 FS0 (fsX s') w := hF w (hf.less (fun p hp => List.mem_cons_of_mem _ hp) (List.pairwise_cons.1 hf.ap).2)
    have hat : w.heap[lb]? = some (.loop { r with state := .done, pending := some .ret }) := hf.at_ (rFact lb { r with state := .done, pending := some .ret }) List.mem_cons_self
    have hoff := factC_off hf2.at_ hat hsub
    refine ⟨fun p hp => ?_, hf2.ag, List.pairwise_cons.2 ⟨fun q hq e => absurd e.symm (hoff q hq), hf2.ap⟩, fun p hp hrw => ?_, fun p hp => ?_, hf2.pre⟩
    · rcases List.mem_cons.1 hp with rfl | hp
      · exact hat
      · exact hf2.at_ p hp
    · rcases List.mem_cons.1 hp with rfl | hp
      · cases hrw
      · exact hf2.fre p hp hrw
    · rcases List.mem_cons.1 hp with rfl | hp
      · exact .inl hlb
      · exact hf2.bl p hp)
  exact ⟨_, g2.mem h3 g2.ex hE⟩
end
end Go.Proofs.Yteabncomclgncaa
namespace Go.Proofs.Yteabncomclgncaa
set_option linter.unusedVariables false
open Go.RowKit
theorem wrap_i64 {x : Int} (h1 : -9223372036854775808 ≤ x) (h2 : x ≤ 9223372036854775807) : IntKind.wrap .i64 x = x := by
  simp only [IntKind.wrap, IntKind.bits, IntKind.signed]
  simp only [Bool.true_and, decide_eq_true_eq, ge_iff_le, show (2 : Int) ^ 64 = 18446744073709551616 by decide, show (2 : Int) ^ (64 - 1) = 9223372036854775808 by decide]
  split <;> omega
theorem wrap_u64 {x : Int} (h1 : 0 ≤ x) (h2 : x < 18446744073709551616) : IntKind.wrap .u64 x = x := by
  simp only [IntKind.wrap, IntKind.bits, IntKind.signed]
  simp
  omega
theorem wrap_u8 {x : Int} (h1 : 0 ≤ x) (h2 : x < 256) : IntKind.wrap .u8 x = x := by
  simp only [IntKind.wrap, IntKind.bits, IntKind.signed]
  simp
  omega
section
variable {P : Program} {ops : Array Oper} {Q : Exit → Act → World → Prop} {D : Option DD} {E : Base} {n L : Nat} {τ : List (Nat × AV)} {h : List (Nat × AO)} {F : World → Prop} {rest : List Oper}
  {d : Nat} {ty : TypeId} {ps : String} {af : Array Edge} {gd : Option (Nat × Bool)} {tt : List (Nat × TI)}
theorem R.zb (htt : TTok P tt) {b : BinOp} {t u : TypeId} {x y : Operand} {v v' : AV} (k : R P ops Q (lookD D []) E n L ((d, v') :: τ) h F rest) (har : arithB b = true := by exact rfl) (ha : act tt (fun l => hk l h) (evA τ) (.binOp b t x y u) = some v := by exact rfl) (hn : Nrm v v' := by first | exact Nrm.w (wrap_i64 (by omega) (by omega)) | exact Nrm.w (wrap_u64 (by omega) (by omega)) | exact Nrm.w (wrap_u8 (by omega) (by omega)) | exact Nrm.refl _)
    (hg : wantA ops ⟨some d, .binOp b t x y u, ty, ps, af, gd⟩ τ = some true := by exact rfl) (hb : (Nat.ble (d + 1) n && lookB D []) = true := by kernel_rfl) : R P ops Q D E n L τ h F (⟨some d, .binOp b t x y u, ty, ps, af, gd⟩ :: rest) := R.nb htt har ha hn hg hb k
theorem R.zu (htt : TTok P tt) {t : TypeId} {x : Operand} {v v' : AV} (k : R P ops Q (lookD D []) E n L ((d, v') :: τ) h F rest) (ha : act tt (fun l => hk l h) (evA τ) (.unOp .neg t x) = some v := by exact rfl) (hn : Nrm v v' := by first | exact Nrm.w (wrap_i64 (by omega) (by omega)) | exact Nrm.w (wrap_u64 (by omega) (by omega)) | exact Nrm.w (wrap_u8 (by omega) (by omega)) | exact Nrm.refl _)
    (hg : wantA ops ⟨some d, .unOp .neg t x, ty, ps, af, gd⟩ τ = some true := by exact rfl) (hb : (Nat.ble (d + 1) n && lookB D []) = true := by kernel_rfl) : R P ops Q D E n L τ h F (⟨some d, .unOp .neg t x, ty, ps, af, gd⟩ :: rest) := R.nu htt ha hn hg hb k
theorem R.zc (htt : TTok P tt) {s t : TypeId} {x : Operand} {v v' : AV} (k : R P ops Q (lookD D []) E n L ((d, v') :: τ) h F rest) (ha : act tt (fun l => hk l h) (evA τ) (.convert s t x) = some v := by exact rfl) (hn : Nrm v v' := by first | exact Nrm.w (wrap_i64 (by omega) (by omega)) | exact Nrm.w (wrap_u64 (by omega) (by omega)) | exact Nrm.w (wrap_u8 (by omega) (by omega)) | exact Nrm.refl _)
    (hg : wantA ops ⟨some d, .convert s t x, ty, ps, af, gd⟩ τ = some true := by exact rfl) (hb : (Nat.ble (d + 1) n && lookB D []) = true := by kernel_rfl) : R P ops Q D E n L τ h F (⟨some d, .convert s t x, ty, ps, af, gd⟩ :: rest) := R.nc htt ha hn hg hb k
theorem R.za (htt : TTok P tt) {t : TypeId} {ti : TI} (k : R P ops Q (actD h D []) E n (L + 1) ((d, .ptr L 0 0 0) :: τ) ((L, .cells (ti.zero.map .raw) t) :: h) F rest) (ht : lk t tt = some ti := by exact rfl) (hg : wantA ops ⟨some d, .alloc t, ty, ps, af, gd⟩ τ = some true := by exact rfl)
    (hb : (Nat.ble (d + 1) n && chainB h D []) = true := by kernel_rfl) : R P ops Q D E n L τ h F (⟨some d, .alloc t, ty, ps, af, gd⟩ :: rest) := R.a htt ht hg hb k
theorem R.zx {t : TypeId} {x : Operand} {v : AV} {xs : List AV} (k : R P ops Q (actD h D []) E n (L + 1) ((d, .ptr L 0 0 0) :: τ) ((L, .cells xs t) :: h) F rest) (hx : evA τ x = some v := by exact rfl) (hc : v.cellsA = some xs := by exact rfl) (hg : wantA ops ⟨some d, .box t x, ty, ps, af, gd⟩ τ = some true := by exact rfl)
    (hb : (Nat.ble (d + 1) n && chainB h D []) = true := by kernel_rfl) : R P ops Q D E n L τ h F (⟨some d, .box t x, ty, ps, af, gd⟩ :: rest) := R.b hx hc hg hb k
theorem R.zl (htt : TTok P tt) {t e len : Nat} {parts : Array (Nat × Operand)} {ti te : TI} {l : List (Nat × AV)} {xs : List AV} (k : R P ops Q (actD h D []) E n (L + 1) ((d, .sl L te.size 0 len len) :: τ) ((L, .cells xs e) :: h) F rest) (ht : lk t tt = some ti := by exact rfl) (hkd : ti.kind = .sl e := by exact rfl) (hte : lk e tt = some te := by exact rfl)
    (hl : evParts (evA τ) parts.toList = some l := by exact rfl) (hx : fillA (fun i => some (i * te.size, te.size)) ((List.replicate len (te.zero.map .raw)).flatten) l = some xs := by exact rfl)
    (hg : wantA ops ⟨some d, .buildSlice t len parts, ty, ps, af, gd⟩ τ = some true := by exact rfl) (hb : (Nat.ble (d + 1) n && chainB h D [] && Nat.beq te.zero.length te.size && Nat.ble (len * te.size) 16777216) = true := by kernel_rfl) :
    R P ops Q D E n L τ h F (⟨some d, .buildSlice t len parts, ty, ps, af, gd⟩ :: rest) := R.li htt ht hkd hte hl hx hg hb k
theorem R.zs (htt : TTok P tt) {t : TypeId} {x y : Operand} {l w0 i c : Nat} {v : AV} {ti : TI} {ys xs zs : List AV} {T : TypeId} (k : R P ops Q (actD h D [l]) E n L τ ((l, .cells zs T) :: h) F rest) (hx : evA τ x = some (.ptr l w0 i c) := by exact rfl) (hy : evA τ y = some v := by exact rfl) (ht : lk t tt = some ti := by exact rfl) (hc : v.cellsA = some ys := by exact rfl)
    (hl : hk l h = some (.cells xs T) := by exact rfl) (hz : spl1 xs (i * w0 + c) ys = zs := by exact rfl) (hg : wantA ops ⟨none, .store t x y, ty, ps, af, gd⟩ τ = some true := by exact rfl) (hb : (Nat.beq ys.length ti.size && Nat.ble (i * w0 + c + ys.length) xs.length && ys.all AV.oneB && chainB h D [l]) = true := by kernel_rfl) :
    R P ops Q D E n L τ h F (⟨none, .store t x y, ty, ps, af, gd⟩ :: rest) := R.st htt hx hy ht hc hl hz hg hb k
theorem R.z (htt : TTok P tt) {op : Op} {v : AV} (k : R P ops Q (lookD D (rdL τ op)) E n L ((d, v) :: τ) h F rest) (ha : act tt (fun l => hk l h) (evA τ) op = some v := by exact rfl) (hg : wantA ops ⟨some d, op, ty, ps, af, gd⟩ τ = some true := by exact rfl)
    (hb : (Nat.ble (d + 1) n && lookB D (rdL τ op) && (rdL τ op).all (fun l => Nat.ble (l + 1) L)) = true := by kernel_rfl) : R P ops Q D E n L τ h F (⟨some d, op, ty, ps, af, gd⟩ :: rest) := R.s htt ha hg hb k
theorem R.zk {op : Op} (k : R P ops Q (skipD h D) E n L ((d, .raw undef) :: τ) h F rest) (hg : wantA ops ⟨some d, op, ty, ps, af, gd⟩ τ = some false := by exact rfl) (hd : Nat.ble (d + 1) n = true := by exact rfl) : R P ops Q D E n L τ h F (⟨some d, op, ty, ps, af, gd⟩ :: rest) := R.k hg hd k
theorem R.zn {op : Op} (k : R P ops Q (skipD h D) E n L τ h F rest) (hg : wantA ops ⟨none, op, ty, ps, af, gd⟩ τ = some false := by exact rfl) : R P ops Q D E n L τ h F (⟨none, op, ty, ps, af, gd⟩ :: rest) := R.k0 hg k
theorem C.zt {c : Operand} {x y : Code} (k : C P x Q E n L τ h F) (hc : evA τ c = some (.raw (.bool true)) := by exact rfl) : C P (.cond c x y) Q E n L τ h F := C.tru hc k
theorem C.zf {c : Operand} {x y : Code} (k : C P y Q E n L τ h F) (hc : evA τ c = some (.raw (.bool false)) := by exact rfl) : C P (.cond c x y) Q E n L τ h F := C.fls hc k
theorem X.zo {id id' : Nat} (k : X Q (.exit id') E n L τ h F) (hne : Nat.beq id' id = false := by exact rfl) : X (Exit.inBlock id Q) (.exit id') E n L τ h F := X.block_other hne k
end
end Go.Proofs.Yteabncomclgncaa
namespace Go.Proofs.Yteabncomclgncaa
theorem u8_lt (a b : UInt8) : a < b ↔ a.toNat < b.toNat := UInt8.lt_iff_toNat_lt
theorem u8_eq (a b : UInt8) : a = b ↔ a.toNat = b.toNat := ⟨fun h => by rw [h], fun h => UInt8.toNat_inj.1 h⟩
open Lib (compareBytes)
theorem cb_cons (a b : UInt8) (as bs : List UInt8) : compareBytes (a :: as) (b :: bs) = if a < b then -1 else if b < a then 1 else compareBytes as bs := by rw [compareBytes]
theorem cb_zero : ∀ {a b : List UInt8}, compareBytes a b = 0 ↔ a = b
  | [], [] => by simp [compareBytes]
  | [], _ :: _ => by simp [compareBytes]
  | _ :: _, [] => by simp [compareBytes]
  | a :: as, b :: bs => by
    rw [cb_cons, List.cons.injEq, u8_eq]
    simp only [u8_lt]
    split
    · constructor
      · intro h; omega
      · intro h; omega
    · split
      · constructor
        · intro h; omega
        · intro h; omega
      · rw [cb_zero (a := as) (b := bs)]
        constructor
        · intro h; exact ⟨by omega, h⟩
        · intro h; exact h.2
theorem cb_swap : ∀ (a b : List UInt8), compareBytes a b = - compareBytes b a
  | [], [] => by simp [compareBytes]
  | [], _ :: _ => by simp [compareBytes]
  | _ :: _, [] => by simp [compareBytes]
  | a :: as, b :: bs => by
    rw [cb_cons, cb_cons]
    simp only [u8_lt]
    by_cases h1 : a.toNat < b.toNat
    · rw [if_pos h1, if_neg (by omega), if_pos h1]
    · rw [if_neg h1]
      by_cases h2 : b.toNat < a.toNat
      · rw [if_pos h2, if_pos h2]; rfl
      · rw [if_neg h2, if_neg h2, if_neg h1, cb_swap as bs]
theorem cb_trans : ∀ {a b c : List UInt8}, compareBytes a b < 0 → compareBytes b c < 0 → compareBytes a c < 0
  | [], [], _, h, _ => by simp [compareBytes] at h
  | _ :: _, [], _, h, _ => by simp [compareBytes] at h
  | _, _ :: _, [], _, h => by simp [compareBytes] at h
  | [], _ :: _, _ :: _, _, _ => by simp [compareBytes]
  | a :: as, b :: bs, c :: cs, h1, h2 => by
    rw [cb_cons] at h1 h2 ⊢
    simp only [u8_lt] at h1 h2 ⊢
    by_cases p1 : a.toNat < b.toNat
    · by_cases p2 : b.toNat < c.toNat
      · rw [if_pos (by omega)]; omega
      · rw [if_neg p2] at h2
        by_cases p3 : c.toNat < b.toNat
        · rw [if_pos p3] at h2; omega
        · rw [if_pos (by omega)]; omega
    · rw [if_neg p1] at h1
      by_cases p3 : b.toNat < a.toNat
      · rw [if_pos p3] at h1; omega
      · rw [if_neg p3] at h1
        by_cases p2 : b.toNat < c.toNat
        · rw [if_pos (by omega)]; omega
        · rw [if_neg p2] at h2
          by_cases p4 : c.toNat < b.toNat
          · rw [if_pos p4] at h2; omega
          · rw [if_neg p4] at h2
            rw [if_neg (by omega), if_neg (by omega)]
            exact cb_trans h1 h2
def cmpS (a b : ByteArray) : Int := compareBytes a.data.toList b.data.toList
theorem cmpS_zero {a b : ByteArray} : cmpS a b = 0 ↔ a = b := by
  unfold cmpS
  rw [cb_zero]
  constructor
  · intro h
    obtain ⟨⟨a⟩⟩ := a
    obtain ⟨⟨b⟩⟩ := b
    simp at h
    rw [h]
  · intro h; rw [h]
theorem cmpS_swap (a b : ByteArray) : cmpS a b = - cmpS b a := cb_swap _ _
theorem cmpS_trans {a b c : ByteArray} (h1 : cmpS a b < 0) (h2 : cmpS b c < 0) : cmpS a c < 0 := cb_trans h1 h2
section
variable {α : Type}
def key (p : ByteArray × α) : ByteArray := p.1
def Asc (l : List (ByteArray × α)) : Prop := l.Pairwise fun p q => cmpS p.1 q.1 < 0
/-- where a key stands, or would stand -/
def plc (l : List (ByteArray × α)) (k : ByteArray) : Nat := l.findIdx fun p => decide (¬ cmpS p.1 k < 0)
theorem plc_le (l : List (ByteArray × α)) (k : ByteArray) : plc l k ≤ l.length := List.findIdx_le_length
theorem plc_iff [Inhabited α] {l : List (ByteArray × α)} (h : Asc l) (k : ByteArray) (z : ByteArray × α) (i : Nat) (hi : i < l.length) : cmpS (l.getD i z).1 k < 0 ↔ i < plc l k := by
  have hg : ∀ j, j < l.length → ∀ hj : j < l.length, l.getD j z = l[j] := fun j _ hj => by simp [List.getD, hj]
  rw [hg i hi hi]
  constructor
  · intro hc
    rcases Nat.lt_or_ge i (plc l k) with h1 | h1
    · exact h1
    · exfalso
      have hp : plc l k < l.length := by omega
      have h2 : ¬ cmpS (l[plc l k]'hp).1 k < 0 := by
        have := List.findIdx_getElem (p := fun p : ByteArray × α => decide (¬ cmpS p.1 k < 0)) (xs := l) (w := hp)
        simpa [plc] using this
      rcases Nat.lt_or_ge (plc l k) i with h3 | h3
      · exact h2 (cmpS_trans (List.pairwise_iff_getElem.1 h _ _ hp hi h3) hc)
      · have : plc l k = i := by omega
        apply h2
        simp only [this]
        exact hc
  · intro h1
    have := List.not_of_lt_findIdx (p := fun p : ByteArray × α => decide (¬ cmpS p.1 k < 0)) (xs := l) h1
    simpa using this
end
end Go.Proofs.Yteabncomclgncaa
