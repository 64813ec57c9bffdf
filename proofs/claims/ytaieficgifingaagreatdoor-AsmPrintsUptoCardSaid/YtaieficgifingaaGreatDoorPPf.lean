/- Texts of the claim, merged: only what the theorem needs. -/
import Derived.Test.YtaieficgifingaaGreatDoorPPe
import Derived.Laws.MakeOwn
namespace Go.Proofs.YtaieficgifingaaGreatDoor
set_option linter.unusedVariables false
set_option linter.unusedSimpArgs false
set_option linter.unusedSectionVars false
open Go.RowKit
section
variable {P : Program} {ops : Array Oper} {Q : Exit → Act → World → Prop} {D : Option DD} {E : Base} {n L : Nat} {τ : List (Nat × AV)} {h : List (Nat × AO)} {F : World → Prop} {rest : List Oper}
  {d : Nat} {op : Op} {ty : TypeId} {ps : String} {af : Array Edge} {gd : Option (Nat × Bool)} {tt : List (Nat × TI)}
/-- a list written out -/
theorem R.li (htt : TTok P tt) {t e len : Nat} {parts : Array (Nat × Operand)} {ti te : TI} {l : List (Nat × AV)} {xs : List AV} (ht : lk t tt = some ti) (hkd : ti.kind = .sl e) (hte : lk e tt = some te)
    (hl : evParts (evA τ) parts.toList = some l) (hx : fillA (fun i => some (i * te.size, te.size)) ((List.replicate len (te.zero.map .raw)).flatten) l = some xs)
    (hg : wantA ops ⟨some d, .buildSlice t len parts, ty, ps, af, gd⟩ τ = some true) (hb : (Nat.ble (d + 1) n && chainB h D [] && Nat.beq te.zero.length te.size && Nat.ble (len * te.size) 16777216) = true)
    (k : R P ops Q (actD h D []) E n (L + 1) ((d, .sl L te.size 0 len len) :: τ) ((L, .cells xs e) :: h) F rest) : R P ops Q D E n L τ h F (⟨some d, .buildSlice t len parts, ty, ps, af, gd⟩ :: rest) := by
  simp only [Bool.and_eq_true] at hb
  obtain ⟨⟨⟨h1, h2⟩, h3⟩, h4⟩ := hb
  exact ⟨RL.lit htt t e len parts ti te l xs rfl ht hkd hte hl hx (Nat.eq_of_beq_eq_true h3) h4 hg h1 h2 k.out⟩
/-- a bound of a slice expression -/
def boundA (τ : List (Nat × AV)) (o : Option Operand) (dflt r : Nat) : Prop := match o with
  | none => r = dflt
  | some y => ∃ k j, evA τ y = some (.raw (.int k j)) ∧ j = (r : Int)
theorem run_bound {P : Program} {W : World} {k : IntKind} {r y : Nat} {c : BoundsCode} (hr : r ≤ y) : (Instr.sliceBound (.int k (r : Int)) y c).run P W = .ok r W := by
  have h1 : (0 : Int) ≤ (r : Int) ∧ (r : Int) ≤ (y : Int) := by omega
  simp only [Instr.sliceBound, asIntOf, Sem.run_bind, Sem.run_pure, Result.andThen_ok]
  rw [if_pos h1]
  simp
theorem run_bounds {P : Program} {W : World} {ρ : Env} {a : Act} {w : World} (g : Gam E ρ n L τ h F a w) {b : Bool} {m cap : Nat} {lo hi : Option Operand} {l0 h1 : Nat} (hlo : boundA τ lo 0 l0) (hhi : boundA τ hi m h1) (hlh : l0 ≤ h1) (hc : h1 ≤ cap) :
    (Instr.sliceBounds b m cap (lo.map a.eval) (hi.map a.eval) none).run P W = .ok (l0, h1, cap) W := by
  cases lo with
  | none =>
    simp only [boundA] at hlo
    subst hlo
    cases hi with
    | none => simp only [boundA] at hhi; subst hhi; simp [Instr.sliceBounds]
    | some y =>
      obtain ⟨k, j, e, rfl⟩ := hhi
      have := (g.eval y _ e).2
      simp [Instr.sliceBounds, this, AV.conc, run_bound hc]
  | some x =>
    obtain ⟨k, j, e, rfl⟩ := hlo
    have hx := (g.eval x _ e).2
    cases hi with
    | none => simp only [boundA] at hhi; subst hhi; simp [Instr.sliceBounds, hx, AV.conc, run_bound hlh]
    | some y =>
      obtain ⟨k, j, e, rfl⟩ := hhi
      have := (g.eval y _ e).2
      simp [Instr.sliceBounds, this, hx, AV.conc, run_bound hc, run_bound hlh]
theorem run_sliceAt_sl {t e : TypeId} {ti te : TI} (hti : TIok P t ti) (hk : ti.kind = .sl e) (hte : TIok P e te) {W : World} {a : Option Addr} {m cap : Nat} {lo hi : Option Value} {l0 h1 : Nat} (hb : (Instr.sliceBounds true m cap lo hi none).run P W = .ok (l0, h1, cap) W) :
    (Instr.sliceAt t (.slice a m cap) lo hi none).run P W = .ok (.slice (if cap = l0 then a else a.map (·.add (l0 * te.size))) (h1 - l0) (cap - l0)) W := by
  have hu := und_sl hti hk W
  have he := hte.run_size W
  simp only [Instr.sliceAt, Instr.slice, Sem.run_bind, hu, Result.andThen_ok, hb, he, Sem.run_pure]
/-- x[lo:hi] -/
theorem R.sl (htt : TTok P tt) {t e : TypeId} {x : Operand} {lo hi : Option Operand} {l w0 off m cap : Nat} {ti te : TI} (l0 h1 : Nat) (hx : evA τ x = some (.sl l w0 off m cap)) (ht : lk t tt = some ti) (hkd : ti.kind = .sl e) (hte : lk e tt = some te) (hsz : te.size = w0)
    (hg : wantA ops ⟨some d, .slice t x lo hi none, ty, ps, af, gd⟩ τ = some true) (hb : (Nat.ble (d + 1) n && lookB D [] && Nat.ble (l + 1) L) = true) (hlo : boundA τ lo 0 l0) (hhi : boundA τ hi m h1) (hlh : l0 ≤ h1) (hc : h1 ≤ cap)
    (k : ∀ o', (o' = off + l0 ∨ (h1 = l0 ∧ o' = off ∧ cap = l0)) → R P ops Q (lookD D []) E n L ((d, .sl l w0 o' (h1 - l0) (cap - l0)) :: τ) h F rest) : R P ops Q D E n L τ h F (⟨some d, .slice t x lo hi none, ty, ps, af, gd⟩ :: rest) := by
  simp only [Bool.and_eq_true] at hb
  refine R.pure (.sl l w0 (if cap = l0 then off else off + l0) (h1 - l0) (cap - l0)) (fun ρ a w g => ⟨fun ρ' he => ?_, fun W => ?_⟩) hg (by simp [hb.1]) (k _ ?_)
  · have : l + 1 ≤ L := by simpa [Nat.ble_eq] using hb.2
    simp [AV.conc, he l (by omega)]
  · have hbd := run_bounds (P := P) (W := W) (b := true) g hlo hhi hlh hc
    simp only [execOp, (g.eval x _ hx).2, AV.conc, Option.map_none]
    rw [Sem.run_bind, run_sliceAt_sl (htt _ _ ht) hkd (htt _ _ hte) hbd, hsz]
    by_cases e : cap = l0
    · simp [e]
    · simp only [e, if_false]
      cases ρ l <;> simp [Addr.add, Nat.add_mul]
  · by_cases e : cap = l0
    · exact .inr ⟨by omega, by rw [if_pos e], e⟩
    · exact .inl (by rw [if_neg e])
/-- s[lo:hi] of a text -/
theorem R.sls (htt : TTok P tt) {t : TypeId} {x : Operand} {lo hi : Option Operand} {s : ByteArray} {ti : TI} (l0 h1 : Nat) (hx : evA τ x = some (.raw (.string s))) (ht : lk t tt = some ti) (hkd : ti.kind = .str)
    (hg : wantA ops ⟨some d, .slice t x lo hi none, ty, ps, af, gd⟩ τ = some true) (hb : (Nat.ble (d + 1) n && lookB D []) = true) (hlo : boundA τ lo 0 l0) (hhi : boundA τ hi s.size h1) (hlh : l0 ≤ h1) (hc : h1 ≤ s.size)
    (k : R P ops Q (lookD D []) E n L ((d, .raw (.string (s.extract l0 h1))) :: τ) h F rest) : R P ops Q D E n L τ h F (⟨some d, .slice t x lo hi none, ty, ps, af, gd⟩ :: rest) :=
  R.pure _ (fun ρ a w g => ⟨AV.Low.raw _ _ _, fun W => by
    have hbd := run_bounds (P := P) (W := W) (b := false) g hlo hhi hlh hc
    have hu := und_str (htt _ _ ht) hkd W
    simp only [execOp, (g.eval x _ hx).2, AV.conc, Option.map_none]
    simp only [Instr.sliceAt, Instr.slice, Sem.run_bind, hu, Result.andThen_ok, Sem.run_pure]
    simp [hbd]⟩) hg hb k
end
end Go.Proofs.YtaieficgifingaaGreatDoor
