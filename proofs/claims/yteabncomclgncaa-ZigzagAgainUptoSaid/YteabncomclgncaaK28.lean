/- The kernel, 28: copy of rows of several cells. No program in sight. -/
import Derived.Test.YteabncomclgncaaK27
import Derived.Laws.CopyRow
namespace Go.Proofs.Yteabncomclgncaa
set_option linter.unusedVariables false
set_option linter.unusedSimpArgs false
set_option linter.unusedSectionVars false
open Go.RowKit
theorem run_copy_rows {P : Program} (w : World) (dT sT ty elem : TypeId) (g o dLen dCap : Nat) (a : Addr) (sLen sCap wd k : Nat) (cur : Array Value) (t : TypeId) (cs : List Value)
    (hu : P.underlying dT = some (.slice elem)) (hs : (P.info? elem).map (·.size) = some wd)
    (hg : w.heap[g]? = some (.cells cur t (0, 0))) (hk : Nat.min sLen dLen = k) (hn : cs.length = k * wd)
    (hsrc : ∀ j v, cs[j]? = some v → w.cell? (a.add j) = some v) (hfit : o + cs.length ≤ cur.size) (h1 : ∀ v ∈ cs, v.oneCell' = true) :
    (Builtin.copy_ #[dT, sT] ty #[.slice (some ⟨g, o, none⟩) dLen dCap, .slice (some a) sLen sCap]).run P w =
      .ok (goInt k) (w.setRow g (cur.toList.take o ++ cs ++ cur.toList.drop (o + cs.length)).toArray) := by
  have hl := run_loadCells_list (P := P) w a cs hsrc
  have hst := run_storeCells_at P g o t cs 0 cur w hg (by simpa using hfit) h1
  cases hq : P.info? elem with
  | none => simp [hq] at hs
  | some i =>
    have hi : i.size = wd := by simpa [hq] using hs
    rw [hn] at hl
    simp [Builtin.copy_, run_underlying hu, Builtin.lenOf, Builtin.firstCells, sizeOf, typeInfo, hq, hi, hk, hl, hst]
section
variable {P : Program} {ops : Array Oper} {Q : Exit → Act → World → Prop} {D : Option DD} {E : Base} {n L : Nat} {τ : List (Nat × AV)} {h : List (Nat × AO)} {F : World → Prop} {rest : List Oper}
  {d : Nat} {ty : TypeId} {ps : String} {af : Array Edge} {gd : Option (Nat × Bool)} {tt : List (Nat × TI)}
/-- copy(x, y) into rows, at least one; what is written may lie behind the rows that are known -/
theorem R.cpt (htt : TTok P tt) {t1 t2 T : TypeId} {x y : Operand} {l wd off m c0 cap n0 k0 : Nat} (n1 cnt : Nat) {f sf : Nat → List AV} (f' : Nat → List AV) {v2 : AV} {news : List AV} {tl te : TI} (hx : evA τ x = some (.sl l wd off m c0)) (hl : hk l h = some (.tab wd n0 cap f T)) (hy : evA τ y = some v2)
    {k1 : Nat} (hs : SrcA E n L τ h F v2 k1 news) (hsf : news = flat sf k0) (hsl : ∀ i, i < k0 → (sf i).length = wd) (hone : news.all AV.oneB = true) (ht : lk t1 tt = some tl) (hkd : tl.kind = .sl T) (hte : lk T tt = some te) (hsz : te.size = wd)
    (hg : wantA ops ⟨some d, .call { callee := .builtin .copy, args := #[x, y], argTypes := #[t1, t2] }, ty, ps, af, gd⟩ τ = some true) (hb : (Nat.ble (d + 1) n && chainB h D [l]) = true)
    (hcnt : Nat.min k1 m = cnt) (hck : cnt ≤ k0) (hpos : 0 < cnt) (hoff : off + cnt ≤ cap) (hn1 : n1 ≤ cap) (hin : ∀ i, i < n1 → i < n0 ∨ (off ≤ i ∧ i < off + cnt)) (hw : 0 < wd)
    (hf : ∀ i, i < n1 → f' i = if off ≤ i ∧ i < off + cnt then sf (i - off) else f i)
    (k : R P ops Q (actD h D [l]) E n L ((d, .raw (.int .i64 cnt)) :: τ) ((l, .tab wd n1 cap f' T) :: h) F rest) :
    R P ops Q D E n L τ h F (⟨some d, .call { callee := .builtin .copy, args := #[x, y], argTypes := #[t1, t2] }, ty, ps, af, gd⟩ :: rest) := by
  simp only [Bool.and_eq_true] at hb
  refine ⟨RL.acts (σ := Unit) (fun _ => True) (fun _ => .raw (.int .i64 cnt)) (fun _ => L) (fun _ => (l, .tab wd n1 cap f' T) :: h) (fun _ => F) [l] hg hb.1 hb.2 (fun _ _ => Nat.le_refl L) (fun ρ a w g => ?_) (fun _ _ => k.out)⟩
  obtain ⟨hlow, hsrc⟩ := hs ρ a w g
  have hh := (g.hp l _ hl).2.2
  obtain ⟨dd, hu, hud⟩ := (htt _ _ ht).und
  rw [hkd] at hud
  simp only at hud
  subst hud
  obtain ⟨inf, z, e1, e2, _⟩ := (htt _ _ hte).info
  have hsize : (P.info? T).map (·.size) = some wd := by rw [e1, Option.map_some, e2, hsz]
  have hev1 : a.eval x = .slice ((ρ l).map fun b => ⟨b, off * wd, none⟩) m c0 := by rw [(g.eval x _ hx).2]; simp [AV.conc]
  have hev2 : a.eval y = v2.conc ρ := (g.eval y _ hy).2
  unfold goes execOp
  simp only [resolve, invoke, builtin, Sem.run_bind, Sem.run_pure, Result.andThen_ok, List.map_toArray, List.map_cons, List.map_nil, hev1, hev2]
  rcases hsrc with ⟨ad, c, h3, hcell⟩ | ⟨c, h3, h4, _⟩
  · rcases hh.2.2 with ⟨_, hc0⟩ | ⟨bk, cur, hr, hbk, hs2, hcur⟩
    · omega
    · have hnl : (AV.concs ρ news).length = k0 * wd := by rw [concs_length, hsf, flat_length hsl]
      obtain ⟨cs, hcs⟩ : ∃ cs, (AV.concs ρ news).take (cnt * wd) = cs := ⟨_, rfl⟩
      have hmul : cnt * wd ≤ k0 * wd := Nat.mul_le_mul_right wd hck
      have hcl : cs.length = cnt * wd := by rw [← hcs, List.length_take, hnl]; omega
      have hget : ∀ j, j < cnt * wd → cs[j]? = (AV.concs ρ news)[j]? := fun j hj => by rw [← hcs, List.getElem?_take, if_pos hj]
      have hrun := run_copy_rows (P := P) w t1 t2 ty T bk (off * wd) m c0 ad k1 c wd cnt cur T cs hu hsize hbk hcnt hcl (fun j v hj => by
        have hjl : j < cs.length := (List.getElem?_eq_some_iff.1 hj).1
        exact hcell j v (by rw [← hget j (by omega)]; exact hj)) (by rw [hcl, hs2, ← Nat.add_mul]; exact Nat.mul_le_mul_right wd hoff) (fun v hv => by
        have hv := List.mem_of_mem_take (hcs ▸ hv)
        rw [concs_map] at hv
        obtain ⟨y', hy', rfl⟩ := List.mem_map.1 hv
        exact oneB_conc (List.all_eq_true.1 hone y' hy') ρ)
      have hfl : ∀ i, i < n1 → (f' i).length = wd := fun i hi => by
        rw [hf i hi]
        split
        · rename_i hc; exact hsl _ (by omega)
        · rename_i hc
          rcases hin i hi with h5 | h5
          · exact hh.2.1 i h5
          · exact absurd h5 hc
      have htot : off * wd + cnt * wd ≤ cap * wd := by rw [← Nat.add_mul]; exact Nat.mul_le_mul_right wd hoff
      rw [h3, hr, Option.map_some, hrun]
      refine ⟨(), ρ, trivial, rfl, AV.Low.raw _ _ _, fun _ _ => rfl, g.set hl rfl hr (AO.Low.tab T fun i hi z hz => ?_) ⟨hn1, hfl, .inr ⟨bk, _, rfl, setRow_heap _ _ _ _ _ _ hbk, ?_, fun i c z hi hz => ?_⟩⟩ (fun b' hb' => setRow_other _ _ _ _ hb') (by simp) ⟨rfl, rfl, rfl⟩, fun l' b' hl' hb' hn => ?_⟩
      · rw [hf i hi] at hz
        split at hz
        · rename_i hc
          obtain ⟨q, hq⟩ := List.getElem?_of_mem hz
          have hq2 : q < wd := by rw [← hsl (i - off) (by omega)]; exact (List.getElem?_eq_some_iff.1 hq).1
          have := flat_get hsl (i - off) q (by omega) hq2
          exact hlow z (List.mem_of_getElem? (by rw [hsf, this]; exact hq))
        · rename_i hc
          rcases hin i hi with h5 | h5
          · exact tab_low g hl h5 z hz
          · exact absurd h5 hc
      · rw [List.size_toArray]
        simp only [List.length_append, List.length_take, List.length_drop, hcl, Array.length_toList]
        omega
      · have hcw : c < wd := by rw [← hfl i hi]; exact (List.getElem?_eq_some_iff.1 hz).1
        have el : (cur.toList.take (off * wd)).length = off * wd := by rw [List.length_take, Array.length_toList]; omega
        rw [List.getElem?_toArray, get3, hcl, el]
        rw [hf i hi] at hz
        by_cases a1 : i < off
        · have m1 : i * wd + wd ≤ off * wd := by rw [← Nat.succ_mul]; exact Nat.mul_le_mul_right wd a1
          rw [if_neg (by omega)] at hz
          rw [if_pos (by omega), List.getElem?_take, if_pos (by omega), Array.getElem?_toList]
          rcases hin i hi with h5 | h5
          · exact hcur i c z h5 hz
          · omega
        · have m1 : off * wd ≤ i * wd := Nat.mul_le_mul_right wd (by omega)
          rw [if_neg (by omega)]
          by_cases a2 : i < off + cnt
          · rw [if_pos ⟨by omega, a2⟩] at hz
            have m2 : i * wd + wd ≤ off * wd + cnt * wd := by rw [← Nat.succ_mul, ← Nat.add_mul]; exact Nat.mul_le_mul_right wd a2
            have m3 : i * wd + c - off * wd = (i - off) * wd + c := by rw [Nat.sub_mul]; omega
            rw [if_pos (by omega), hget _ (by omega), m3, concs_map, List.getElem?_map, hsf, flat_get hsl (i - off) c (by omega) hcw, hz]
            rfl
          · have m2 : off * wd + cnt * wd ≤ i * wd := by rw [← Nat.add_mul]; exact Nat.mul_le_mul_right wd (by omega)
            rw [if_neg (by omega)] at hz
            rw [if_neg (by omega), List.getElem?_drop, Array.getElem?_toList]
            rw [show off * wd + cnt * wd + (i * wd + c - off * wd - cnt * wd) = i * wd + c by omega]
            rcases hin i hi with h5 | h5
            · exact hcur i c z h5 hz
            · omega
      · by_cases e : b' = bk
        · subst e
          exact absurd (g.dis l l' b' ⟨_, hl, rfl⟩ hl' hr hb') (fun e => hn (by simp [e]))
        · exact (setRow_other _ _ _ _ e).symm
  · have : cnt = 0 := by rw [← hcnt, h4]; exact Nat.zero_min _
    omega
end
end Go.Proofs.Yteabncomclgncaa
