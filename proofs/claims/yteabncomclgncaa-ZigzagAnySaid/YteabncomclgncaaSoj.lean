/- Texts of the claim, merged: only what the theorem needs. -/
import Derived.Test.YteabncomclgncaaSoi
import Derived.Lib.Overlaps
namespace Go.Proofs.Yteabncomclgncaa
set_option linter.unusedVariables false
set_option linter.unusedSimpArgs false
set_option linter.unusedSectionVars false
open Go.RowKit
section
variable {P : Program} {ops : Array Oper} {Q : Exit → Act → World → Prop} {D : Option DD} {E : Base} {n L : Nat} {τ : List (Nat × AV)} {h : List (Nat × AO)} {F : World → Prop} {rest : List Oper}
  {d : Nat} {ty : TypeId} {ps : String} {af : Array Edge} {gd : Option (Nat × Bool)} {tt : List (Nat × TI)}
theorem R.ovl (htt : TTok P tt) {f : FuncId} {ats : Array TypeId} {t tr e T1 T2 : TypeId} {x y : Operand} {l1 w1 o1 m1 c1 l2 wd o2 m2 c2 n0 cap : Nat} {ys : List AV} {g0 : Nat → List AV} {ti te : TI}
    (eg : ∀ args w, (callFunc f args).run P w = ((Extern.SlicesOverlaps.overlaps #[t, t] #[tr] args).run P w).andThen fun v w' => .ok (.value v) w')
    (hx : evA τ x = some (.sl l1 w1 o1 m1 c1)) (hy : evA τ y = some (.sl l2 wd o2 m2 c2)) (h1 : hk l1 h = some (.cells ys T1)) (h2 : hk l2 h = some (.tab wd n0 cap g0 T2)) (ht : lk t tt = some ti) (hkd : ti.kind = .sl e) (hte : lk e tt = some te)
    (hg : wantA ops ⟨some d, .call { callee := .value (.func f), args := #[x, y], argTypes := ats }, ty, ps, af, gd⟩ τ = some true) (hb : (Nat.ble (d + 1) n && lookB D [l1, l2] && Nat.ble (l1 + 1) L && Nat.ble (l2 + 1) L && !Nat.beq l1 l2) = true) (hcap : 0 < cap * wd)
    (k : R P ops Q (lookD D [l1, l2]) E n L ((d, .raw (.bool false)) :: τ) h F rest) : R P ops Q D E n L τ h F (⟨some d, .call { callee := .value (.func f), args := #[x, y], argTypes := ats }, ty, ps, af, gd⟩ :: rest) := by
  simp only [Bool.and_eq_true, Bool.not_eq_true'] at hb
  obtain ⟨⟨⟨⟨b1, b2⟩, b3⟩, b4⟩, b5⟩ := hb
  have L1 : l1 < L := by have : l1 + 1 ≤ L := by simpa [Nat.ble_eq] using b3
                         omega
  have L2 : l2 < L := by have : l2 + 1 ≤ L := by simpa [Nat.ble_eq] using b4
                         omega
  have hne : l1 ≠ l2 := fun e => by subst e; rw [Nat.beq_refl] at b5; cases b5
  refine ⟨RL.looks [l1, l2] hg b1 b2 (fun l hl => ?_) (.raw (.bool false)) (fun ρ a w g => ?_) k.out⟩
  · simp at hl
    rcases hl with rfl | rfl
    · exact L1
    · exact L2
  · obtain ⟨k1, hr1, hb1⟩ := (g.hp _ _ h1).2.2
    rcases (g.hp _ _ h2).2.2.2.2 with ⟨_, hc0⟩ | ⟨k2, cur, hr2, hb2, hs2, _⟩
    · rw [hc0, Nat.zero_mul] at hcap; omega
    have hbne : k1 ≠ k2 := fun e => hne (g.dis l1 l2 k1 ⟨_, h1, rfl⟩ (by rw [h2]; simp) hr1 (by rw [hr2, e]))
    refine ⟨AV.Low.raw _ _ _, fun l hl => ?_, fun W hW => ?_⟩
    · simp at hl
      rcases hl with rfl | rfl
      · rw [hr1]; simp
      · rw [hr2]; simp
    have e1 := (hW l1 (by simp) k1 hr1).trans hb1
    have e2 := (hW l2 (by simp) k2 hr2).trans hb2
    obtain ⟨dd, hu, hud⟩ := (htt _ _ ht).und
    rw [hkd] at hud
    simp only at hud
    subst hud
    have hev1 : a.eval x = .slice (some ⟨k1, o1 * w1, none⟩) m1 c1 := by rw [(g.eval x _ hx).2]; simp [AV.conc, hr1]
    have hev2 : a.eval y = .slice (some ⟨k2, o2 * wd, none⟩) m2 c2 := by rw [(g.eval y _ hy).2]; simp [AV.conc, hr2]
    have hrun := Lib.run_overlaps_apart (P := P) W t tr e hu te.size (fun w => (htt _ _ hte).run_size w) ⟨k1, o1 * w1, none⟩ ⟨k2, o2 * wd, none⟩ m1 c1 m2 c2 hbne T1 T2 (AV.concs ρ ys).toArray.size cur.size
      (by simp [World.shape?, e1]) (by simp [World.shape?, e2]) (by rw [hs2]; omega) (by simp [World.frozen?, e1]) (by simp [World.frozen?, e1])
    unfold execOp
    simp only [resolve, invoke, Act.eval, Deferred.ofValue, Sem.run_bind, Sem.run_pure, Result.andThen_ok, Array.append_empty, Array.empty_append, List.map_toArray, List.map_cons, List.map_nil]
    rw [eg]
    simp only [Act.eval] at hev1 hev2
    rw [hev1, hev2, hrun]
    rfl
end
end Go.Proofs.Yteabncomclgncaa
