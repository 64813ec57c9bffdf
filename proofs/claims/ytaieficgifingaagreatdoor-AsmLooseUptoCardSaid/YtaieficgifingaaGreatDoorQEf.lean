/- Texts of the claim, merged: only what the theorem needs. -/
import Derived.Test.YtaieficgifingaaGreatDoorQEe
import Derived.Laws.MakeOwn
namespace Go.Proofs.YtaieficgifingaaGreatDoor
set_option linter.unusedVariables false
set_option linter.unusedSimpArgs false
set_option linter.unusedSectionVars false
open Go.RowKit
section
variable {P : Program} {ops : Array Oper} {Q : Exit → Act → World → Prop} {D : Option DD} {E : Base} {n L : Nat} {τ : List (Nat × AV)} {h : List (Nat × AO)} {F : World → Prop} {rest : List Oper}
  {d : Nat} {op : Op} {ty : TypeId} {ps : String} {af : Array Edge} {gd : Option (Nat × Bool)} {tt : List (Nat × TI)}
/-- a list written out -/
theorem R.li (htt : TTok P tt) {t e len : Nat} {parts : Array (Nat × Operand)} {ti te : TI} {l : List (Nat × AV)} {xs : List AV} (ht : lk t tt = some ti) (hkd : ti.kind = .sl e) (hte : lk e tt = some te)
    (hl : evParts (evA τ) parts.toList = some l) (hx : fillA (fun i => some (i * te.size, te.size)) ((List.replicate len (te.zero.map .raw)).flatten) l = some xs)
    (hg : wantA ops ⟨some d, .buildSlice t len parts, ty, ps, af, gd⟩ τ = some true) (hb : (Nat.ble (d + 1) n && chainB h D [] && Nat.beq te.zero.length te.size && Nat.ble (len * te.size) 16777216) = true)
    (k : R P ops Q (actD h D []) E n (L + 1) ((d, .sl L te.size 0 len len) :: τ) ((L, .cells xs e) :: h) F rest) : R P ops Q D E n L τ h F (⟨some d, .buildSlice t len parts, ty, ps, af, gd⟩ :: rest) := by
  simp only [Bool.and_eq_true] at hb
  obtain ⟨⟨⟨h1, h2⟩, h3⟩, h4⟩ := hb
  exact ⟨RL.lit htt t e len parts ti te l xs rfl ht hkd hte hl hx (Nat.eq_of_beq_eq_true h3) h4 hg h1 h2 k.out⟩
/-- a bound of a slice expression -/
def boundA (τ : List (Nat × AV)) (o : Option Operand) (dflt r : Nat) : Prop := match o with
  | none => r = dflt
  | some y => ∃ k j, evA τ y = some (.raw (.int k j)) ∧ j = (r : Int)
theorem run_bound {P : Program} {W : World} {k : IntKind} {r y : Nat} {c : BoundsCode} (hr : r ≤ y) : (Instr.sliceBound (.int k (r : Int)) y c).run P W = .ok r W := by
  have h1 : (0 : Int) ≤ (r : Int) ∧ (r : Int) ≤ (y : Int) := by omega
  simp only [Instr.sliceBound, asIntOf, Sem.run_bind, Sem.run_pure, Result.andThen_ok]
  rw [if_pos h1]
  simp
theorem run_bounds {P : Program} {W : World} {ρ : Env} {a : Act} {w : World} (g : Gam E ρ n L τ h F a w) {b : Bool} {m cap : Nat} {lo hi : Option Operand} {l0 h1 : Nat} (hlo : boundA τ lo 0 l0) (hhi : boundA τ hi m h1) (hlh : l0 ≤ h1) (hc : h1 ≤ cap) :
    (Instr.sliceBounds b m cap (lo.map a.eval) (hi.map a.eval) none).run P W = .ok (l0, h1, cap) W := by
  cases lo with
  | none =>
    simp only [boundA] at hlo
    subst hlo
    cases hi with
    | none => simp only [boundA] at hhi; subst hhi; simp [Instr.sliceBounds]
    | some y =>
      obtain ⟨k, j, e, rfl⟩ := hhi
      have := (g.eval y _ e).2
      simp [Instr.sliceBounds, this, AV.conc, run_bound hc]
  | some x =>
    obtain ⟨k, j, e, rfl⟩ := hlo
    have hx := (g.eval x _ e).2
    cases hi with
    | none => simp only [boundA] at hhi; subst hhi; simp [Instr.sliceBounds, hx, AV.conc, run_bound hlh]
    | some y =>
      obtain ⟨k, j, e, rfl⟩ := hhi
      have := (g.eval y _ e).2
      simp [Instr.sliceBounds, this, hx, AV.conc, run_bound hc, run_bound hlh]
theorem run_sliceAt_sl {t e : TypeId} {ti te : TI} (hti : TIok P t ti) (hk : ti.kind = .sl e) (hte : TIok P e te) {W : World} {a : Option Addr} {m cap : Nat} {lo hi : Option Value} {l0 h1 : Nat} (hb : (Instr.sliceBounds true m cap lo hi none).run P W = .ok (l0, h1, cap) W) :
    (Instr.sliceAt t (.slice a m cap) lo hi none).run P W = .ok (.slice (if cap = l0 then a else a.map (·.add (l0 * te.size))) (h1 - l0) (cap - l0)) W := by
  have hu := und_sl hti hk W
  have he := hte.run_size W
  simp only [Instr.sliceAt, Instr.slice, Sem.run_bind, hu, Result.andThen_ok, hb, he, Sem.run_pure]
/-- x[lo:hi] -/
theorem R.sl (htt : TTok P tt) {t e : TypeId} {x : Operand} {lo hi : Option Operand} {l w0 off m cap : Nat} {ti te : TI} (l0 h1 : Nat) (hx : evA τ x = some (.sl l w0 off m cap)) (ht : lk t tt = some ti) (hkd : ti.kind = .sl e) (hte : lk e tt = some te) (hsz : te.size = w0)
    (hg : wantA ops ⟨some d, .slice t x lo hi none, ty, ps, af, gd⟩ τ = some true) (hb : (Nat.ble (d + 1) n && lookB D [] && Nat.ble (l + 1) L) = true) (hlo : boundA τ lo 0 l0) (hhi : boundA τ hi m h1) (hlh : l0 ≤ h1) (hc : h1 ≤ cap)
    (k : ∀ o', (o' = off + l0 ∨ (h1 = l0 ∧ o' = off ∧ cap = l0)) → R P ops Q (lookD D []) E n L ((d, .sl l w0 o' (h1 - l0) (cap - l0)) :: τ) h F rest) : R P ops Q D E n L τ h F (⟨some d, .slice t x lo hi none, ty, ps, af, gd⟩ :: rest) := by
  simp only [Bool.and_eq_true] at hb
  refine R.pure (.sl l w0 (if cap = l0 then off else off + l0) (h1 - l0) (cap - l0)) (fun ρ a w g => ⟨fun ρ' he => ?_, fun W => ?_⟩) hg (by simp [hb.1]) (k _ ?_)
  · have : l + 1 ≤ L := by simpa [Nat.ble_eq] using hb.2
    simp [AV.conc, he l (by omega)]
  · have hbd := run_bounds (P := P) (W := W) (b := true) g hlo hhi hlh hc
    simp only [execOp, (g.eval x _ hx).2, AV.conc, Option.map_none]
    rw [Sem.run_bind, run_sliceAt_sl (htt _ _ ht) hkd (htt _ _ hte) hbd, hsz]
    by_cases e : cap = l0
    · simp [e]
    · simp only [e, if_false]
      cases ρ l <;> simp [Addr.add, Nat.add_mul]
  · by_cases e : cap = l0
    · exact .inr ⟨by omega, by rw [if_pos e], e⟩
    · exact .inl (by rw [if_neg e])
/-- s[lo:hi] of a text -/
theorem R.sls (htt : TTok P tt) {t : TypeId} {x : Operand} {lo hi : Option Operand} {s : ByteArray} {ti : TI} (l0 h1 : Nat) (hx : evA τ x = some (.raw (.string s))) (ht : lk t tt = some ti) (hkd : ti.kind = .str)
    (hg : wantA ops ⟨some d, .slice t x lo hi none, ty, ps, af, gd⟩ τ = some true) (hb : (Nat.ble (d + 1) n && lookB D []) = true) (hlo : boundA τ lo 0 l0) (hhi : boundA τ hi s.size h1) (hlh : l0 ≤ h1) (hc : h1 ≤ s.size)
    (k : R P ops Q (lookD D []) E n L ((d, .raw (.string (s.extract l0 h1))) :: τ) h F rest) : R P ops Q D E n L τ h F (⟨some d, .slice t x lo hi none, ty, ps, af, gd⟩ :: rest) :=
  R.pure _ (fun ρ a w g => ⟨AV.Low.raw _ _ _, fun W => by
    have hbd := run_bounds (P := P) (W := W) (b := false) g hlo hhi hlh hc
    have hu := und_str (htt _ _ ht) hkd W
    simp only [execOp, (g.eval x _ hx).2, AV.conc, Option.map_none]
    simp only [Instr.sliceAt, Instr.slice, Sem.run_bind, hu, Result.andThen_ok, Sem.run_pure]
    simp [hbd]⟩) hg hb k
/-- a store into a list: its cells are laid over -/
theorem R.sto (htt : TTok P tt) {t T : TypeId} {x y : Operand} {l w0 i c : Nat} {v : AV} {ti : TI} {o o' : AO} (ys : List AV) (hx : evA τ x = some (.ptr l w0 i c)) (hy : evA τ y = some v) (ht : lk t tt = some ti) (hc : v.cellsA = some ys)
    (hl : hk l h = some o) (hro : o.isRo = false) (hro' : o'.isRo = false) (hg : wantA ops ⟨none, .store t x y, ty, ps, af, gd⟩ τ = some true) (hb : (Nat.beq ys.length ti.size && ys.all AV.oneB && chainB h D [l]) = true)
    (hst : ∀ ρ r w, LowS ρ L ys → o.Low ρ L → o.holds ρ r w → ∃ b cur T, r = some b ∧ w.heap[b]? = some (.cells cur T (0, 0)) ∧ i * w0 + c + ys.length ≤ cur.size ∧ o'.Low ρ L ∧
      ∀ w', w'.heap[b]? = some (.cells (cur.toList.take (i * w0 + c) ++ AV.concs ρ ys ++ cur.toList.drop (i * w0 + c + ys.length)).toArray T (0, 0)) → o'.holds ρ (some b) w')
    (k : R P ops Q (actD h D [l]) E n L τ ((l, o') :: h) F rest) : R P ops Q D E n L τ h F (⟨none, .store t x y, ty, ps, af, gd⟩ :: rest) := by
  simp only [Bool.and_eq_true] at hb
  obtain ⟨⟨hlen, hone⟩, hk1⟩ := hb
  have hlen := Nat.eq_of_beq_eq_true hlen
  refine ⟨RL.acts (σ := Unit) (fun _ => True) (fun _ => .raw undef) (fun _ => L) (fun _ => (l, o') :: h) (fun _ => F) [l] hg rfl hk1 (fun _ _ => Nat.le_refl L) (fun ρ a w g => ?_) (fun _ _ => k.out)⟩
  obtain ⟨h1, h2⟩ := g.eval x _ hx
  obtain ⟨h3, h4⟩ := g.eval y _ hy
  have hh := g.hp l _ hl
  obtain ⟨b, cur, T, hr, hbk, hfit, hlow', hafter⟩ := hst ρ (ρ l) w (lowS_cells h3 hc) hh.2.1 hh.2.2
  have hcell : (v.conc ρ).cells = (AV.concs ρ ys).toArray := by rw [← cellsA_conc hc ρ]
  have hstc := run_storeCells_at (P := P) b (i * w0 + c) T (AV.concs ρ ys) 0 cur w hbk (by rw [concs_length]; simp; omega) (fun u hu => by
    rw [concs_map] at hu
    obtain ⟨y', hy', rfl⟩ := List.mem_map.1 hu
    exact oneB_conc (List.all_eq_true.1 hone y' hy') ρ)
  simp only [Nat.add_zero] at hstc
  have e2 := (htt _ _ ht).run_size w
  unfold goes execOp
  simp only [h2, h4, AV.conc, hr, Option.getD_some, Instr.storeAt, Instr.sureAddr, storeVar, Sem.run_bind, Sem.run_pure, Result.andThen_ok, hcell, e2, List.size_toArray, concs_length, hlen, ne_eq, not_true_eq_false, if_false, Sem.run_ite, hstc]
  refine ⟨(), ρ, trivial, rfl, AV.Low.raw _ _ _, fun _ _ => rfl, g.set hl hro hr hlow' (hafter _ ?_) (fun b' hb' => setRow_other _ _ _ _ hb') (by simp) ⟨rfl, rfl, rfl⟩, fun l' b' hl' hb' hn => ?_⟩
  · rw [setRow_heap _ _ _ _ _ _ hbk, hlen]
  · by_cases e : b' = b
    · subst e
      exact absurd (g.dis l l' b' ⟨_, hl, hro⟩ hl' hr hb') (fun e => hn (by simp [e]))
    · exact (setRow_other _ _ _ _ e).symm
/-- an element, or a part of one, into a list -/
def updF (f : Nat → List AV) (i : Nat) (xs : List AV) (j : Nat) : List AV := if j = i then xs else f j
theorem ao_tab_low {ρ : Env} {wd n0 cap : Nat} {f : Nat → List AV} {T : TypeId} {r : Option Nat} {w : World} (hlow : (AO.tab wd n0 cap f T).Low ρ L) (hh : (AO.tab wd n0 cap f T).holds ρ r w) {i : Nat} (hi : i < n0) : LowS ρ L (f i) := fun x hx ρ' he => by
  obtain ⟨b, cur, hr, hbk, hlen, hsz, hcur⟩ := tab_cell hh hi
  have h2 := (hlow ρ' he _ _).1 hh
  obtain ⟨b', cur', hr', hbk', _, _, hcur'⟩ := tab_cell h2 hi
  rw [hr] at hr'
  cases hr'
  rw [hbk] at hbk'
  simp only [Option.some.injEq, Obj.cells.injEq, and_true] at hbk'
  subst hbk'
  obtain ⟨c, hc⟩ := List.getElem?_of_mem hx
  have h3 := hcur c x hc
  have h4 := hcur' c x hc
  rw [h3] at h4
  exact (Option.some.inj h4).symm
theorem R.stt (htt : TTok P tt) {t T : TypeId} {x y : Operand} {l wd i c n0 cap : Nat} {v : AV} {f : Nat → List AV} {ys zs : List AV} {ti : TI} (hx : evA τ x = some (.ptr l wd i c)) (hy : evA τ y = some v) (ht : lk t tt = some ti) (hc : v.cellsA = some ys)
    (hl : hk l h = some (.tab wd n0 cap f T)) (hz : spl1 (f i) c ys = zs) (hg : wantA ops ⟨none, .store t x y, ty, ps, af, gd⟩ τ = some true) (hb : (Nat.beq ys.length ti.size && ys.all AV.oneB && chainB h D [l]) = true) (hi : i < n0) (hfit : c + ys.length ≤ wd)
    (k : R P ops Q (actD h D [l]) E n L τ ((l, .tab wd n0 cap (updF f i zs) T) :: h) F rest) : R P ops Q D E n L τ h F (⟨none, .store t x y, ty, ps, af, gd⟩ :: rest) := by
  subst hz
  refine R.sto (T := T) htt ys hx hy ht hc hl rfl rfl hg hb (fun ρ r w hyl hol hh => ?_) k
  obtain ⟨bk, cur, hr, hbk, hlen, hsz, hcur⟩ := tab_cell hh hi
  have hfl : c + ys.length ≤ (f i).length := by rw [hlen]; exact hfit
  rw [spl1_eq _ _ _ hfl]
  have hcs : cur.size = cap * wd := by
    rcases hh.2.2 with ⟨_, hc⟩ | ⟨b', cur', hr', hb', hs', _⟩
    · have := hh.1; omega
    · rw [hr] at hr'; cases hr'; rw [hbk] at hb'
      simp only [Option.some.injEq, Obj.cells.injEq, and_true] at hb'
      rw [hb']; exact hs'
  have hall : ∀ j k0 z, j < n0 → (f j)[k0]? = some z → cur[j * wd + k0]? = some (z.conc ρ) := by
    rcases hh.2.2 with ⟨_, hc⟩ | ⟨b', cur', hr', hb', hs', hc'⟩
    · have := hh.1; omega
    · rw [hr] at hr'; cases hr'; rw [hbk] at hb'
      simp only [Option.some.injEq, Obj.cells.injEq, and_true] at hb'
      subst hb'; exact hc'
  refine ⟨bk, cur, T, hr, hbk, by omega, AO.Low.tab T fun j hj z hz => ?_, fun w' hw' => ⟨hh.1, fun j hj => ?_, .inr ⟨bk, _, rfl, hw', ?_, fun j k0 z hj hz => ?_⟩⟩⟩
  · by_cases e : j = i
    · subst e
      simp only [updF, if_true, spl, List.mem_append] at hz
      have hfz : LowS ρ L (f j) := ao_tab_low hol hh hj
      rcases hz with (hz | hz) | hz
      · exact hfz z (List.mem_of_mem_take hz)
      · exact hyl z hz
      · exact hfz z (List.mem_of_mem_drop hz)
    · simp only [updF, e, if_false] at hz
      exact ao_tab_low hol hh hj z hz
  · by_cases e : j = i
    · subst e
      simp only [updF, if_true, spl, List.length_append, List.length_take, List.length_drop]
      omega
    · simp only [updF, e, if_false]; exact hh.2.1 j hj
  · simp [concs_length]; omega
  · simp only [List.getElem?_toArray]
    rw [List.append_assoc]
    have hlt : (cur.toList.take (i * wd + c)).length = i * wd + c := by simp; omega
    have hk0 : k0 < wd := by
      have := (List.getElem?_eq_some_iff.1 hz).1
      by_cases e : j = i
      · subst e
        simp only [updF, if_true, spl, List.length_append, List.length_take, List.length_drop] at this
        omega
      · simp only [updF, e, if_false] at this
        rw [hh.2.1 j hj] at this; exact this
    by_cases e : j = i
    · subst e
      simp only [updF, if_true] at hz
      unfold spl at hz
      rw [List.append_assoc] at hz
      by_cases h1 : k0 < c
      · rw [List.getElem?_append_left (by simp; omega), List.getElem?_take, if_pos h1] at hz
        rw [List.getElem?_append_left (by omega), List.getElem?_take, if_pos (by omega), Array.getElem?_toList]
        exact hall j k0 z hj hz
      · rw [List.getElem?_append_right (by simp; omega)] at hz
        rw [List.getElem?_append_right (by omega), hlt]
        have e1 : (List.take c (f j)).length = c := by simp; omega
        rw [e1] at hz
        rw [show j * wd + k0 - (j * wd + c) = k0 - c by omega]
        by_cases h2 : k0 - c < ys.length
        · rw [List.getElem?_append_left h2] at hz
          rw [List.getElem?_append_left (by rw [concs_length]; exact h2)]
          exact concs_get hz
        · rw [List.getElem?_append_right (by omega), List.getElem?_drop] at hz
          rw [List.getElem?_append_right (by rw [concs_length]; omega), concs_length, List.getElem?_drop, Array.getElem?_toList]
          rw [show c + ys.length + (k0 - c - ys.length) = k0 by omega] at hz
          rw [show j * wd + c + ys.length + (k0 - c - ys.length) = j * wd + k0 by omega]
          exact hall j k0 z hj hz
    · simp only [updF, e, if_false] at hz
      have h3 := hall j k0 z hj hz
      rcases Nat.lt_or_ge j i with h1 | h1
      · have := Nat.mul_le_mul_right wd (show j + 1 ≤ i by omega)
        rw [Nat.add_mul, Nat.one_mul] at this
        rw [List.getElem?_append_left (by omega), List.getElem?_take, if_pos (by omega), Array.getElem?_toList]
        exact h3
      · have := Nat.mul_le_mul_right wd (show i + 1 ≤ j by omega)
        rw [Nat.add_mul, Nat.one_mul] at this
        rw [List.getElem?_append_right (by omega), hlt, List.getElem?_append_right (by rw [concs_length]; omega), concs_length, List.getElem?_drop, Array.getElem?_toList]
        rw [show i * wd + c + ys.length + (j * wd + k0 - (i * wd + c) - ys.length) = j * wd + k0 by omega]
        exact h3
end
end Go.Proofs.YtaieficgifingaaGreatDoor
