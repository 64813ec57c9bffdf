/- Texts of the claim, merged: only what the theorem needs. -/
import Derived.Test.YteabncomclgncaaSoj
import Derived.Lib.AppendZerosOnto
namespace Go.Proofs.Yteabncomclgncaa
set_option linter.unusedVariables false
set_option linter.unusedSimpArgs false
set_option linter.unusedSectionVars false
open Go.RowKit
/-- rows laid over others: what lies there then -/
theorem tab_over {ρ : Env} {wd n0 n1 cap off cnt b : Nat} {f f' sf : Nat → List AV} {T : TypeId} {cur : Array Value} {w' : World} (hn1 : n1 ≤ cap) (hfl : ∀ i, i < n0 → (f i).length = wd) (hsl : ∀ i, i < cnt → (sf i).length = wd) (hin : ∀ i, i < n1 → i < n0 ∨ (off ≤ i ∧ i < off + cnt))
    (hf : ∀ i, i < n1 → f' i = if off ≤ i ∧ i < off + cnt then sf (i - off) else f i) (hoff : off + cnt ≤ cap) (hs : cur.size = cap * wd) (hcur : ∀ i c x, i < n0 → (f i)[c]? = some x → cur[i * wd + c]? = some (x.conc ρ))
    (hw' : w'.heap[b]? = some (.cells (cur.toList.take (off * wd) ++ AV.concs ρ (flat sf cnt) ++ cur.toList.drop (off * wd + (AV.concs ρ (flat sf cnt)).length)).toArray T (0, 0))) : (AO.tab wd n1 cap f' T).holds ρ (some b) w' := by
  have hcl : (AV.concs ρ (flat sf cnt)).length = cnt * wd := by rw [concs_length, flat_length hsl]
  have htot : off * wd + cnt * wd ≤ cap * wd := by rw [← Nat.add_mul]; exact Nat.mul_le_mul_right wd hoff
  have hfl' : ∀ i, i < n1 → (f' i).length = wd := fun i hi => by
    rw [hf i hi]
    split
    · rename_i hc; exact hsl _ (by omega)
    · rename_i hc
      rcases hin i hi with h5 | h5
      · exact hfl i h5
      · exact absurd h5 hc
  refine ⟨hn1, hfl', .inr ⟨b, _, rfl, hw', ?_, fun i c z hi hz => ?_⟩⟩
  · rw [List.size_toArray]
    simp only [List.length_append, List.length_take, List.length_drop, hcl, Array.length_toList]
    omega
  · have hcw : c < wd := by rw [← hfl' i hi]; exact (List.getElem?_eq_some_iff.1 hz).1
    have el : (cur.toList.take (off * wd)).length = off * wd := by rw [List.length_take, Array.length_toList]; omega
    rw [List.getElem?_toArray, get3, hcl, el]
    rw [hf i hi] at hz
    by_cases a1 : i < off
    · have m1 : i * wd + wd ≤ off * wd := by rw [← Nat.succ_mul]; exact Nat.mul_le_mul_right wd a1
      rw [if_neg (by omega)] at hz
      rw [if_pos (by omega), List.getElem?_take, if_pos (by omega), Array.getElem?_toList]
      rcases hin i hi with h5 | h5
      · exact hcur i c z h5 hz
      · omega
    · have m1 : off * wd ≤ i * wd := Nat.mul_le_mul_right wd (by omega)
      rw [if_neg (by omega)]
      by_cases a2 : i < off + cnt
      · rw [if_pos ⟨by omega, a2⟩] at hz
        have m2 : i * wd + wd ≤ off * wd + cnt * wd := by rw [← Nat.succ_mul, ← Nat.add_mul]; exact Nat.mul_le_mul_right wd a2
        have m3 : i * wd + c - off * wd = (i - off) * wd + c := by rw [Nat.sub_mul]; omega
        rw [if_pos (by omega), m3, concs_map, List.getElem?_map, flat_get hsl (i - off) c (by omega) hcw, hz]
        rfl
      · have m2 : off * wd + cnt * wd ≤ i * wd := by rw [← Nat.add_mul]; exact Nat.mul_le_mul_right wd (by omega)
        rw [if_neg (by omega)] at hz
        rw [if_neg (by omega), List.getElem?_drop, Array.getElem?_toList]
        rw [show off * wd + cnt * wd + (i * wd + c - off * wd - cnt * wd) = i * wd + c by omega]
        rcases hin i hi with h5 | h5
        · exact hcur i c z h5 hz
        · omega
theorem tab_some {ρ : Env} {wd n0 cap : Nat} {f : Nat → List AV} {T : TypeId} {r : Option Nat} {w : World} (hh : (AO.tab wd n0 cap f T).holds ρ r w) (hc : 0 < cap) : ∃ b cur, r = some b ∧ w.heap[b]? = some (.cells cur T (0, 0)) ∧ cur.size = cap * wd ∧ ∀ i c x, i < n0 → (f i)[c]? = some x → cur[i * wd + c]? = some (x.conc ρ) := by
  rcases hh.2.2 with ⟨_, h⟩ | ⟨b, cur, h1, h2, h3, h4⟩
  · omega
  · exact ⟨b, cur, h1, h2, h3, h4⟩
theorem zeroCells_get (zs : Array Value) (k i c : Nat) (hi : i < k) (hc : c < zs.size) : (Builtin.zeroCells zs k)[i * zs.size + c]? = zs[c]? := by
  have hlt : i * zs.size + c < k * zs.size := by
    have : (i + 1) * zs.size ≤ k * zs.size := Nat.mul_le_mul_right _ hi
    rw [Nat.add_mul, Nat.one_mul] at this
    omega
  have hm : (i * zs.size + c) % zs.size = c := by rw [Nat.mul_comm, Nat.mul_add_mod, Nat.mod_eq_of_lt hc]
  simp [Builtin.zeroCells, hlt, hm, hc]
theorem zeroCells_size (zs : Array Value) (k : Nat) : (Builtin.zeroCells zs k).size = k * zs.size := by simp [Builtin.zeroCells]
section
variable {P : Program} {ops : Array Oper} {Q : Exit → Act → World → Prop} {D : Option DD} {E : Base} {n L : Nat} {τ : List (Nat × AV)} {h : List (Nat × AO)} {F : World → Prop} {rest : List Oper}
  {d : Nat} {ty : TypeId} {ps : String} {af : Array Edge} {gd : Option (Nat × Bool)} {tt : List (Nat × TI)}
/-- rows to be copied, of which the first k0 are known -/
theorem SrcA.tabm {l wd off m c n0 cap : Nat} {f : Nat → List AV} {T : TypeId} (k0 : Nat) (hw : 0 < wd) (hl : hk l h = some (.tab wd n0 cap f T)) (hn : off + k0 ≤ n0) (hc : 0 < cap) : SrcA E n L τ h F (.sl l wd off m c) m (flat (fun i => f (off + i)) k0) := fun ρ a w g => by
  have hh := (g.hp _ _ hl).2.2
  refine ⟨flat_low fun i hi => tab_low g hl (by omega), ?_⟩
  obtain ⟨b, cur, hr, hb, hs, hcur⟩ := tab_some hh hc
  refine .inl ⟨⟨b, off * wd, none⟩, c, by simp [AV.conc, hr], fun j u hj => ?_⟩
  rw [flat_concs] at hj
  obtain ⟨i, k, h1, h2, rfl, h3⟩ := flat_some hw (fun i hi => by rw [concs_length]; exact hh.2.1 (off + i) (by omega)) hj
  rw [concs_map, List.getElem?_map] at h3
  obtain ⟨x, hx, rfl⟩ := Option.map_eq_some_iff.1 h3
  rw [addr_add0, cell_of_row w b _ _ T (0, 0) hb, ← Nat.add_assoc, ← Nat.add_mul]
  exact hcur _ _ _ (by omega) hx
/-- append to a part of known rows, where there is room: the same block; what comes behind is not known any more -/
theorem R.aprt (htt : TTok P tt) {t T : TypeId} {x y : Operand} {l wd m0 cap n0 k0 : Nat} {f sf : Nat → List AV} (f' : Nat → List AV) {v2 : AV} {news : List AV} {tl te : TI} (hx : evA τ x = some (.sl l wd 0 m0 cap)) (hl : hk l h = some (.tab wd n0 cap f T)) (hm0 : m0 ≤ n0) (hy : evA τ y = some v2)
    (hs : SrcA E n L τ h F v2 k0 news) (hsf : news = flat sf k0) (hsl : ∀ i, i < k0 → (sf i).length = wd) (hone : news.all AV.oneB = true) (ht : lk t tt = some tl) (hkd : tl.kind = .sl T) (hte : lk T tt = some te) (hsz : te.size = wd)
    (hg : wantA ops ⟨some d, .call { callee := .builtin .append, args := #[x, y], argTypes := #[t, t] }, ty, ps, af, gd⟩ τ = some true) (hb : (Nat.ble (d + 1) n && chainB h D [l]) = true)
    (hroom : m0 + k0 ≤ cap) (hpos : 0 < cap) (hf : ∀ i, i < m0 + k0 → f' i = if m0 ≤ i ∧ i < m0 + k0 then sf (i - m0) else f i)
    (k : R P ops Q (actD h D [l]) E n L ((d, .sl l wd 0 (m0 + k0) cap) :: τ) ((l, .tab wd (m0 + k0) cap f' T) :: h) F rest) :
    R P ops Q D E n L τ h F (⟨some d, .call { callee := .builtin .append, args := #[x, y], argTypes := #[t, t] }, ty, ps, af, gd⟩ :: rest) := by
  simp only [Bool.and_eq_true] at hb
  refine ⟨RL.acts (σ := Unit) (fun _ => True) (fun _ => .sl l wd 0 (m0 + k0) cap) (fun _ => L) (fun _ => (l, .tab wd (m0 + k0) cap f' T) :: h) (fun _ => F) [l] hg hb.1 hb.2 (fun _ _ => Nat.le_refl L) (fun ρ a w g => ?_) (fun _ _ => k.out)⟩
  obtain ⟨hlow, hsrc⟩ := hs ρ a w g
  have hgp := g.hp l _ hl
  have hh := hgp.2.2
  obtain ⟨i, z, hi, hi1, _⟩ := (htt _ _ hte).info
  rw [hsz] at hi1
  have hu := und_of_run (und_sl (htt _ _ ht) hkd w)
  have hlowR : (AV.sl l wd 0 (m0 + k0) cap).Low ρ L := fun ρ' he => by simp [AV.conc, he l hgp.1]
  have hev1 : a.eval x = .slice ((ρ l).map fun b => ⟨b, 0, none⟩) m0 cap := by rw [(g.eval x _ hx).2]; simp [AV.conc]
  have hev2 : a.eval y = v2.conc ρ := (g.eval y _ hy).2
  obtain ⟨b, cur, hr, hbk, hcs, hcur⟩ := tab_some hh hpos
  have hnl : (AV.concs ρ news).length = k0 * wd := by rw [concs_length, hsf, flat_length hsl]
  have hsub : m0 * wd + k0 * wd ≤ cap * wd := by rw [← Nat.add_mul]; exact Nat.mul_le_mul_right wd hroom
  have hlowT : (AO.tab wd (m0 + k0) cap f' T).Low ρ L := AO.Low.tab T fun i hi z hz => by
    rw [hf i hi] at hz
    split at hz
    · rename_i hc
      obtain ⟨q, hq⟩ := List.getElem?_of_mem hz
      have hq2 : q < wd := by rw [← hsl (i - m0) (by omega)]; exact (List.getElem?_eq_some_iff.1 hq).1
      have := flat_get hsl (i - m0) q (by omega) hq2
      exact hlow z (List.mem_of_getElem? (by rw [hsf, this]; exact hq))
    · rename_i hc
      exact tab_low g hl (by omega) z hz
  have after : ∀ w', w'.heap[b]? = some (.cells (cur.toList.take (m0 * wd) ++ AV.concs ρ news ++ cur.toList.drop (m0 * wd + (AV.concs ρ news).length)).toArray T (0, 0)) → (AO.tab wd (m0 + k0) cap f' T).holds ρ (some b) w' := fun w' hw' =>
    tab_over hroom hh.2.1 hsl (fun i hi => by omega) hf hroom hcs hcur (by rw [hsf] at hw'; exact hw')
  unfold goes execOp
  simp only [resolve, invoke, builtin, Sem.run_bind, Sem.run_pure, Result.andThen_ok, List.map_toArray, List.map_cons, List.map_nil, hev1, hev2]
  rcases hsrc with ⟨ad, c, e, hcell⟩ | ⟨c, e, hk0, hq⟩
  · have hrun := run_append_room (P := P) w t ty T i hu hi b m0 cap cur hbk ad k0 c (AV.concs ρ news) (by rw [hnl, hi1]) hcell (fun u hu => by
      rw [concs_map] at hu
      obtain ⟨y', hy', rfl⟩ := List.mem_map.1 hu
      exact oneB_conc (List.all_eq_true.1 hone y' hy') ρ) hroom (by rw [hi1, hnl, hcs]; exact hsub)
    rw [hi1] at hrun
    rw [hr, Option.map_some, e, hrun]
    refine ⟨(), ρ, trivial, by simp [AV.conc, hr], hlowR, fun _ _ => rfl, g.set hl rfl hr hlowT (after _ (setRow_heap _ _ _ _ _ _ hbk)) (fun b' hb' => setRow_other _ _ _ _ hb') (by simp) ⟨rfl, rfl, rfl⟩, fun l' b' hl' hb' hn => ?_⟩
    by_cases e2 : b' = b
    · subst e2
      exact absurd (g.dis l l' b' ⟨_, hl, rfl⟩ hl' hr hb') (fun e => hn (by simp [e]))
    · exact (setRow_other _ _ _ _ e2).symm
  · have hrun : (Builtin.append_ #[t, t] ty #[.slice (some ⟨b, 0, none⟩) m0 cap, v2.conc ρ]).run P w = .ok (.slice (some ⟨b, 0, none⟩) (m0 + k0) cap) w := by
      have e1 := (htt _ _ hte).run_size w
      have hu2 := und_sl (htt _ _ ht) hkd w
      rw [e]; simp [Builtin.append_, hu2, e1, Builtin.lenOf, Builtin.firstCells, storeCells, hk0, show m0 ≤ cap by omega]
    rw [hr, Option.map_some, hrun]
    refine ⟨(), ρ, trivial, by simp [AV.conc, hr], hlowR, fun _ _ => rfl, g.set hl rfl hr hlowT (after _ ?_) (fun b' hb' => rfl) rfl ⟨rfl, rfl, rfl⟩, fun _ _ _ _ _ => rfl⟩
    rw [hbk, hq]
    simp
/-- append(x, make(.., k)..) where there is no room: a new block; the old one stays -/
theorem R.apz (htt : TTok P tt) {t tn T : TypeId} {x y : Operand} {l wd m0 cap n0 : Nat} {kq kn : IntKind} {j : Int} {f : Nat → List AV} (k0 : Nat) (f' : Nat → List AV) {tl te tk : TI} (hx : evA τ x = some (.sl l wd 0 m0 cap)) (hl : hk l h = some (.tab wd n0 cap f T)) (hm0 : m0 ≤ n0) (hy : evA τ y = some (.raw (.int kq j)))
    (ht : lk t tt = some tl) (hkd : tl.kind = .sl T) (htn : lk tn tt = some tk) (hkn : tk.kind = .int kn) (hte : lk T tt = some te) (hsz : te.size = wd) (hz : Nat.beq te.zero.length te.size = true) (hw : 0 < wd)
    (hg : wantA ops ⟨some d, .call { callee := .builtin .append, args := #[x, y], argTypes := #[t, tn] }, ty, ps, af, gd⟩ τ = some true) (hb : (Nat.ble (d + 1) n && chainB h D []) = true)
    (hj : j = (k0 : Int)) (hk0 : 0 < k0) (hroom : cap < m0 + k0) (hpos : 0 < cap) (hcap : m0 + k0 ≤ 4503599627370496) (hby : (m0 + k0) * te.bytes ≤ 140737488355328)
    (hf : ∀ i, i < m0 + k0 → f' i = if i < m0 then f i else te.zero.map .raw)
    (k : ∀ c, m0 + k0 ≤ c → c ≤ 9223372036854775807 → R P ops Q (actD h D []) E n (L + 1) ((d, .sl L wd 0 (m0 + k0) c) :: τ) ((L, .tab wd (m0 + k0) c f' T) :: h) F rest) :
    R P ops Q D E n L τ h F (⟨some d, .call { callee := .builtin .append, args := #[x, y], argTypes := #[t, tn] }, ty, ps, af, gd⟩ :: rest) := by
  refine R.newW (σ := Nat) (fun c => m0 + k0 ≤ c ∧ c ≤ 9223372036854775807) (fun c => .tab wd (m0 + k0) c f' T) (fun c => .sl L wd 0 (m0 + k0) c) (fun _ ρ => sl_low ρ L _ _ _ _) (fun ρ a w g => ?_) hg hb (fun c hc => k c hc.1 hc.2)
  have hz := Nat.eq_of_beq_eq_true hz
  have hh := (g.hp l _ hl).2.2
  obtain ⟨i, z, hi, hi1, hi2, hi3, hi4, _⟩ := (htt _ _ hte).info
  rw [hsz] at hi1 hz
  have hu := und_of_run (und_sl (htt _ _ ht) hkd w)
  have hun : P.underlying tn = some (.int kn) := und_of_run (und_int (htt _ _ htn) hkn w)
  obtain ⟨b, cur, hr, hbk, hcs, hcur⟩ := tab_some hh hpos
  have hev1 : a.eval x = .slice (some ⟨b, 0, none⟩) m0 cap := by rw [(g.eval x _ hx).2]; simp [AV.conc, hr]
  have hev2 : a.eval y = .int kq (k0 : Int) := by rw [(g.eval y _ hy).2, hj]; rfl
  have hfl : ∀ q, q < m0 → (f q).length = wd := fun q hq => hh.2.1 q (by omega)
  have hol : (AV.concs ρ (flat f m0)).length = m0 * wd := by rw [concs_length, flat_length hfl]
  have hold : (Builtin.firstCells i.size m0 (.slice (some ⟨b, 0, none⟩) m0 cap)).run P w.drew = .ok (AV.concs ρ (flat f m0)).toArray w.drew := by
    have := run_loadCells_list (P := P) w.drew ⟨b, 0, none⟩ (AV.concs ρ (flat f m0)) (fun q u hq => by
      have hql : q < m0 * wd := by rw [← hol]; exact (List.getElem?_eq_some_iff.1 hq).1
      rw [concs_map, List.getElem?_map] at hq
      obtain ⟨v, hv, rfl⟩ := Option.map_eq_some_iff.1 hq
      obtain ⟨q1, c1, h1, h2, h3, h4⟩ := flat_some hw hfl hv
      rw [addr_add0, cell_of_row w.drew b _ cur T (0, 0) hbk, Nat.zero_add, h3]
      exact hcur q1 c1 v (by omega) h4)
    rw [hol] at this
    simp only [Builtin.firstCells, hi1, this]
  have hnb : k0 * i.bytes ≤ 281474976710656 := by
    rw [hi2]
    have : k0 * te.bytes ≤ (m0 + k0) * te.bytes := Nat.mul_le_mul_right _ (by omega)
    omega
  have hgl := growslice_fits (bytes := te.bytes) (old := cap) (need := m0 + k0) hroom hby
  have hrun := Lib.run_append_grow_zeros (P := P) w t tn ty T i z kq kn hu hun hi hi3 (some ⟨b, 0, none⟩) m0 cap _ hold k0 hk0 (by rw [hi1]; exact hw) hroom (by omega) hnb (by rw [hi2]; exact hgl)
  have hge := grownCap_ge w (m0 + k0) cap T
  have hzl : z.cells.size = wd := by rw [← Array.length_toList, hi4, hz]
  obtain ⟨A, hA⟩ : ∃ A, A = (AV.concs ρ (flat f m0)).toArray ++ Builtin.zeroCells z.cells k0 ++ Builtin.zeroCells z.cells (grownCap w (m0 + k0) cap T - (m0 + k0)) := ⟨_, rfl⟩
  rw [← hA] at hrun
  refine ⟨grownCap w (m0 + k0) cap T, w.drew.alloc (.cells A T), ⟨hge, by have := grownCap_le_maxLen w (m0 + k0) cap T (by simp [maxLen]; omega); simpa [maxLen] using this⟩, ⟨rfl, rfl, rfl, by simp, fun b' hb' _ => heap_alloc_old w.drew _ hb'⟩, by simp, fun ρ' he => ⟨AO.Low.tab T fun q hq v hv => ?_, hge, fun q hq => ?_, .inr ⟨w.heap.size, _, rfl, heap_alloc_new w.drew _, ?_, fun q c v hq hv => ?_⟩⟩, ?_⟩
  · rw [hf q hq] at hv
    split at hv
    · exact ((tab_low g hl (by omega) v hv).ext he).mono (Nat.le_succ L)
    · obtain ⟨u, _, rfl⟩ := List.mem_map.1 hv
      exact AV.Low.raw _ _ _
  · rw [hf q hq]
    split
    · exact hfl q (by omega)
    · rw [List.length_map, hz]
  · rw [hA, Array.size_append, Array.size_append, zeroCells_size, zeroCells_size, List.size_toArray, hol, hzl, ← Nat.add_mul, ← Nat.add_mul]
    congr 1
    omega
  · have hcw : c < wd := by
      have h1 := (List.getElem?_eq_some_iff.1 hv).1
      rw [hf q hq] at h1
      split at h1
      · rwa [hfl q (by omega)] at h1
      · rwa [List.length_map, hz] at h1
    rw [hf q hq] at hv
    rw [hA, Array.append_assoc]
    by_cases hqm : q < m0
    · rw [if_pos hqm] at hv
      have hlt : q * wd + c < m0 * wd := by
        have : (q + 1) * wd ≤ m0 * wd := Nat.mul_le_mul_right _ hqm
        rw [Nat.add_mul, Nat.one_mul] at this
        omega
      rw [Array.getElem?_append_left (by rw [List.size_toArray, hol]; exact hlt), List.getElem?_toArray, concs_map, List.getElem?_map, flat_get hfl q c hqm hcw, hv]
      have := tab_low g hl (show q < n0 by omega) v (List.mem_of_getElem? hv)
      rw [Option.map_some, this ρ' he]
    · rw [if_neg hqm] at hv
      rw [List.getElem?_map] at hv
      obtain ⟨u, hu1, rfl⟩ := Option.map_eq_some_iff.1 hv
      have hqw : m0 * wd ≤ q * wd := Nat.mul_le_mul_right _ (by omega)
      rw [Array.getElem?_append_right (by rw [List.size_toArray, hol]; omega), List.size_toArray, hol]
      have h3 : q * wd + c - m0 * wd = (q - m0) * wd + c := by rw [Nat.sub_mul]; omega
      rw [h3]
      have h4 : (q - m0) * wd + c < k0 * wd := by
        have : (q - m0 + 1) * wd ≤ k0 * wd := Nat.mul_le_mul_right _ (by omega)
        rw [Nat.add_mul, Nat.one_mul] at this
        omega
      rw [Array.getElem?_append_left (by rw [zeroCells_size, hzl]; exact h4)]
      have := zeroCells_get z.cells k0 (q - m0) c (by omega) (by omega)
      rw [hzl] at this
      rw [this, ← Array.getElem?_toList, hi4, hu1]
      rfl
  · unfold execOp
    simp only [resolve, invoke, builtin, Sem.run_bind, Sem.run_pure, Result.andThen_ok, List.map_toArray, List.map_cons, List.map_nil, hev1, hev2, hrun, AV.conc, updE_same, Option.map_some, Nat.zero_mul]
/-- clear of rows behind the known ones -/
theorem R.clt (htt : TTok P tt) {t T : TypeId} {x : Operand} {l wd off m c0 cap n0 : Nat} {f : Nat → List AV} {tl te : TI} (hx : evA τ x = some (.sl l wd off m c0)) (hl : hk l h = some (.tab wd n0 cap f T)) (ht : lk t tt = some tl) (hkd : tl.kind = .sl T) (hte : lk T tt = some te) (hsz : te.size = wd) (hz : (Nat.beq te.zero.length te.size && te.zero.all fun v => v.oneCell') = true)
    (hg : wantA ops ⟨none, .call { callee := .builtin .clear, args := #[x], argTypes := #[t] }, ty, ps, af, gd⟩ τ = some true) (hb : chainB h D [l] = true) (hm : 0 < m) (hn0 : n0 ≤ off) (hoff : off + m ≤ cap)
    (k : R P ops Q (actD h D [l]) E n L τ ((l, .tab wd n0 cap f T) :: h) F rest) : R P ops Q D E n L τ h F (⟨none, .call { callee := .builtin .clear, args := #[x], argTypes := #[t] }, ty, ps, af, gd⟩ :: rest) := by
  simp only [Bool.and_eq_true] at hz
  refine ⟨RL.acts (σ := Unit) (fun _ => True) (fun _ => .tup []) (fun _ => L) (fun _ => (l, .tab wd n0 cap f T) :: h) (fun _ => F) [l] hg rfl hb (fun _ _ => Nat.le_refl L) (fun ρ a w g => ?_) (fun _ _ => k.out)⟩
  have hz1 := Nat.eq_of_beq_eq_true hz.1
  have hgp := g.hp l _ hl
  have hh := hgp.2.2
  obtain ⟨z, hzr, hzc⟩ := (htt _ _ hte).zeroC w
  have hu := und_sl (htt _ _ ht) hkd w
  obtain ⟨b, cur, hr, hbk, hcs, hcur⟩ := tab_some hh (by omega)
  have hev1 : a.eval x = .slice (some ⟨b, off * wd, none⟩) m c0 := by rw [(g.eval x _ hx).2]; simp [AV.conc, hr]
  have hzl : z.cells.size = wd := by rw [← Array.length_toList, hzc, hz1, hsz]
  have hzs : (Builtin.zeroCells z.cells m).toList.length = m * wd := by rw [Array.length_toList, zeroCells_size, hzl]
  have hsub : off * wd + m * wd ≤ cap * wd := by rw [← Nat.add_mul]; exact Nat.mul_le_mul_right wd hoff
  have hst := run_storeCells_at P b (off * wd) T (Builtin.zeroCells z.cells m).toList 0 cur w hbk (by rw [hzs, hcs]; omega) (fun v hv => by
    obtain ⟨q, hq⟩ := List.getElem?_of_mem hv
    have : v ∈ te.zero := by
      rw [← hzc]
      simp only [Builtin.zeroCells, Array.toList_map, Array.toList_range, List.mem_map] at hv
      obtain ⟨q, _, rfl⟩ := hv
      rcases Nat.eq_zero_or_pos z.cells.size with h0 | h0
      · have hq := (List.getElem?_eq_some_iff.1 hq).1
        rw [hzs, ← hzl, h0] at hq
        omega
      · rw [getElem!_pos z.cells _ (Nat.mod_lt _ h0)]
        exact Array.getElem_mem_toList _
    exact List.all_eq_true.1 hz.2 v this)
  simp only [Nat.add_zero] at hst
  have hrun : (Builtin.clear_ #[t] ty #[.slice (some ⟨b, off * wd, none⟩) m c0]).run P w = .ok (.tuple #[]) (w.setRow b (cur.toList.take (off * wd) ++ (Builtin.zeroCells z.cells m).toList ++ cur.toList.drop (off * wd + (Builtin.zeroCells z.cells m).toList.length)).toArray) := by
    obtain ⟨m, rfl⟩ : ∃ q, m = q + 1 := ⟨m - 1, by omega⟩
    simp only [Builtin.clear_, List.getElem?_toArray, List.getElem?_cons_zero, Sem.run_bind, hu, Result.andThen_ok, hzr, hst, Sem.run_pure]
  unfold goes execOp
  simp only [resolve, invoke, builtin, Sem.run_bind, Sem.run_pure, Result.andThen_ok, List.map_toArray, List.map_cons, List.map_nil, hev1, hrun]
  refine ⟨(), ρ, trivial, rfl, fun _ _ => rfl, fun _ _ => rfl, g.set hl rfl hr hgp.2.1 ⟨hh.1, hh.2.1, .inr ⟨b, _, rfl, setRow_heap _ _ _ _ _ _ hbk, ?_, fun i c v hi hv => ?_⟩⟩ (fun b' hb' => setRow_other _ _ _ _ hb') (by simp) ⟨rfl, rfl, rfl⟩, fun l' b' hl' hb' hn => ?_⟩
  · rw [List.size_toArray]
    simp only [List.length_append, List.length_take, List.length_drop, hzs, Array.length_toList]
    omega
  · have hcw : c < wd := by rw [← hh.2.1 i hi]; exact (List.getElem?_eq_some_iff.1 hv).1
    have m1 : i * wd + wd ≤ off * wd := by rw [← Nat.succ_mul]; exact Nat.mul_le_mul_right wd (by omega)
    rw [List.getElem?_toArray, List.append_assoc, List.getElem?_append_left (by rw [List.length_take, Array.length_toList]; omega), List.getElem?_take, if_pos (by omega), Array.getElem?_toList]
    exact hcur i c v hi hv
  · by_cases e2 : b' = b
    · subst e2
      exact absurd (g.dis l l' b' ⟨_, hl, rfl⟩ hl' hr hb') (fun e => hn (by simp [e]))
    · exact (setRow_other _ _ _ _ e2).symm
/-- cap(x) -/
theorem R.cap (htt : TTok P tt) {t e : TypeId} {x : Operand} {l w0 off m cap : Nat} {ti : TI} (hx : evA τ x = some (.sl l w0 off m cap)) (ht : lk t tt = some ti) (hkd : ti.kind = .sl e)
    (hg : wantA ops ⟨some d, .call { callee := .builtin .cap, args := #[x], argTypes := #[t] }, ty, ps, af, gd⟩ τ = some true) (hb : (Nat.ble (d + 1) n && lookB D []) = true)
    (k : R P ops Q (lookD D []) E n L ((d, .raw (.int .i64 (cap : Int))) :: τ) h F rest) : R P ops Q D E n L τ h F (⟨some d, .call { callee := .builtin .cap, args := #[x], argTypes := #[t] }, ty, ps, af, gd⟩ :: rest) :=
  R.pure _ (fun ρ a w g => ⟨AV.Low.raw _ _ _, fun W => by
    have hu := und_sl (htt _ _ ht) hkd W
    unfold execOp
    simp only [resolve, invoke, builtin, Sem.run_bind, Sem.run_pure, Result.andThen_ok, List.map_toArray, List.map_cons, List.map_nil, (g.eval x _ hx).2, AV.conc]
    simp [Builtin.cap_, hu, goInt, AV.conc]⟩) hg hb k
/-- x[lo:hi:mx] -/
theorem R.sl3 (htt : TTok P tt) {t e : TypeId} {x lo hi mx : Operand} {l w0 off m cap : Nat} {k1 k2 k3 : IntKind} {j1 j2 j3 : Int} {ti te : TI} (l0 h1 m1 : Nat) (hx : evA τ x = some (.sl l w0 off m cap)) (ht : lk t tt = some ti) (hkd : ti.kind = .sl e) (hte : lk e tt = some te) (hsz : te.size = w0)
    (hlo : evA τ lo = some (.raw (.int k1 j1))) (hhi : evA τ hi = some (.raw (.int k2 j2))) (hmx : evA τ mx = some (.raw (.int k3 j3)))
    (hg : wantA ops ⟨some d, .slice t x (some lo) (some hi) (some mx), ty, ps, af, gd⟩ τ = some true) (hb : (Nat.ble (d + 1) n && lookB D [] && Nat.ble (l + 1) L) = true) (e1 : j1 = (l0 : Int)) (e2 : j2 = (h1 : Int)) (e3 : j3 = (m1 : Int)) (hlh : l0 ≤ h1) (hhm : h1 ≤ m1) (hc : m1 ≤ cap)
    (k : ∀ o', R P ops Q (lookD D []) E n L ((d, .sl l w0 o' (h1 - l0) (m1 - l0)) :: τ) h F rest) : R P ops Q D E n L τ h F (⟨some d, .slice t x (some lo) (some hi) (some mx), ty, ps, af, gd⟩ :: rest) := by
  simp only [Bool.and_eq_true] at hb
  refine R.pure (.sl l w0 (if m1 = l0 then off else off + l0) (h1 - l0) (m1 - l0)) (fun ρ a w g => ⟨fun ρ' he => ?_, fun W => ?_⟩) hg (by simp [hb.1]) (k _)
  · have : l + 1 ≤ L := by simpa [Nat.ble_eq] using hb.2
    simp [AV.conc, he l (by omega)]
  · have hu := und_sl (htt _ _ ht) hkd W
    have he := (htt _ _ hte).run_size W
    have v1 := (g.eval lo _ hlo).2
    have v2 := (g.eval hi _ hhi).2
    have v3 := (g.eval mx _ hmx).2
    simp only [AV.conc, e1, e2, e3] at v1 v2 v3
    have hbd : (Instr.sliceBounds true m cap (some (.int k1 (l0 : Int))) (some (.int k2 (h1 : Int))) (some (.int k3 (m1 : Int)))).run P W = .ok (l0, h1, m1) W := by
      simp [Instr.sliceBounds, run_bound hc, run_bound hhm, run_bound hlh]
    simp only [execOp, (g.eval x _ hx).2, AV.conc, Option.map_some, v1, v2, v3]
    rw [Sem.run_bind]
    simp only [Instr.sliceAt, Instr.slice, Sem.run_bind, hu, Result.andThen_ok, hbd, he, Sem.run_pure, hsz]
    by_cases e : m1 = l0
    · simp [e]
    · simp only [e, if_false]
      cases ρ l <;> simp [Addr.add, Nat.add_mul]
end
end Go.Proofs.Yteabncomclgncaa
namespace Go.Proofs.Yteabncomclgncaa
set_option linter.unusedVariables false
set_option linter.unusedSimpArgs false
set_option linter.unusedSectionVars false
open Go.RowKit
section
variable {P : Program} {ops : Array Oper} {Q : Exit → Act → World → Prop} {D : Option DD} {E : Base} {n L : Nat} {τ : List (Nat × AV)} {h : List (Nat × AO)} {F : World → Prop} {rest : List Oper}
  {d : Nat} {ty : TypeId} {ps : String} {af : Array Edge} {gd : Option (Nat × Bool)} {tt : List (Nat × TI)}
/-- x + y of texts -/
theorem R.cat {t u : TypeId} {x y : Operand} {a b : ByteArray} (hx : evA τ x = some (.raw (.string a))) (hy : evA τ y = some (.raw (.string b)))
    (hg : wantA ops ⟨some d, .binOp .add t x y u, ty, ps, af, gd⟩ τ = some true) (hb : (Nat.ble (d + 1) n && lookB D []) = true) (hle : a.size + b.size ≤ 9223372036854775807)
    (k : R P ops Q (lookD D []) E n L ((d, .raw (.string (a ++ b))) :: τ) h F rest) : R P ops Q D E n L τ h F (⟨some d, .binOp .add t x y u, ty, ps, af, gd⟩ :: rest) :=
  R.pure _ (fun ρ ac w g => ⟨AV.Low.raw _ _ _, fun W => by
    have h0 : ¬ (9223372036854775807 < (a.size : Int) + (b.size : Int)) := by omega
    simp [execOp, (g.eval x _ hx).2, (g.eval y _ hy).2, AV.conc, eqGuard, binOp, Op.stringOp, IntKind.max, IntKind.signed, IntKind.bits, h0]⟩) hg hb k
end
end Go.Proofs.Yteabncomclgncaa
namespace Go.Proofs.Yteabncomclgncaa
set_option linter.unusedVariables false
set_option linter.unusedSimpArgs false
set_option linter.unusedSectionVars false
open Go.RowKit
/-- what lies in a block; rw: it may be written -/
structure Fact where
  rw : Bool
  b : Nat
  ob : Obj
abbrev Fam := List Fact
def WrF (fs : Fam) (b : Nat) : Prop := ∃ p ∈ fs, p.rw = true ∧ p.b = b
def BlF (fs : Fam) (b : Nat) : Prop := ∃ p ∈ fs, p.b = b
theorem WrF.bl {fs : Fam} {b : Nat} (h : WrF fs b) : BlF fs b := by obtain ⟨p, h1, _, h2⟩ := h; exact ⟨p, h1, h2⟩
def ApF (fs : Fam) : Prop := fs.Pairwise fun p q => p.b = q.b → p.rw = false ∧ q.rw = false
def AtF (fs : Fam) (w : World) : Prop := ∀ p ∈ fs, w.heap[p.b]? = some p.ob
/-- what is known of the beginning of a call -/
structure Pre (h0 : List AO) (ρ0 : Env) (w0 : World) (fs0 : Fam) : Prop where
  al : ∀ i b, i < h0.length → ρ0 i = some b → b < w0.heap.size
  dis : ∀ i j o b, h0[i]? = some o → o.isRo = false → j < h0.length → ρ0 i = some b → ρ0 j = some b → i = j
  at0 : AtF fs0 w0
  ap0 : ApF fs0
  ro : ∀ i b, i < h0.length → ρ0 i = some b → ¬ WrF fs0 b
  wr : ∀ b, Wr0 h0 ρ0 b → ¬ BlF fs0 b
/-- what is told of memory without labels -/
structure FF (h0 : List AO) (ρ0 : Env) (w0 : World) (fs0 fs : Fam) (w : World) : Prop where
  at_ : AtF fs w
  ag : Ag (fun b => ¬ Wr0 h0 ρ0 b ∧ ¬ WrF fs0 b) w0 w
  ap : ApF fs
  fre : ∀ p ∈ fs, p.rw = true → w0.heap.size ≤ p.b ∨ Wr0 h0 ρ0 p.b ∨ WrF fs0 p.b
  bl : ∀ p ∈ fs, w0.heap.size ≤ p.b ∨ Wr0 h0 ρ0 p.b ∨ BlF fs0 p.b
  pre : Pre h0 ρ0 w0 fs0
section
variable {E : Base} {ρ : Env} {n L : Nat} {τ : List (Nat × AV)} {h : List (Nat × AO)} {F : World → Prop} {a : Act} {w : World} {h0 : List AO} {ρ0 : Env} {w0 : World} {fs0 fs : Fam}
/-- a state of which more, or less, is told -/
theorem Gam.strong (g : Gam E ρ n L τ h F a w) {F2 : World → Prop} (hF : ∀ w', Ag (fun b => ∀ l, wrA l h → ρ l ≠ some b) w w' → F2 w') : Gam E ρ n L τ h F2 a w := ⟨g.df, g.sz, g.tm, g.hp, g.dis, hF, g.ex, g.le, g.al⟩
theorem Gam.ff (g : Gam E ρ n L τ h (FF h0 ρ0 w0 fs0 fs) a w) : FF h0 ρ0 w0 fs0 fs w := g.fr w (Ag.refl _ _)
/-- the world with another thing in a block -/
def putB (w : World) (b : Nat) (o : Obj) : World := { w with heap := w.heap.set! b o }
theorem putB_same (w : World) {b : Nat} (o : Obj) (hb : b < w.heap.size) : (putB w b o).heap[b]? = some o := by simp [putB, hb]
theorem putB_ne (w : World) {b b' : Nat} (o : Obj) (h : b' ≠ b) : (putB w b o).heap[b']? = w.heap[b']? := by
  have e : b ≠ b' := fun e => h e.symm
  simp [putB, Array.getElem?_setIfInBounds, e]
theorem putB_ag (w : World) (b : Nat) (o : Obj) (D : Nat → Prop) (hD : ¬ D b) : Ag D w (putB w b o) := ⟨rfl, rfl, rfl, by simp [putB], fun b' _ hd => putB_ne w o fun e => hD (e ▸ hd)⟩
/-- a fact's block has no label that may be written -/
theorem Gam.apF (g : Gam E ρ n L τ h (FF h0 ρ0 w0 fs0 fs) a w) {p : Fact} (hp : p ∈ fs) {l : Nat} (hl : wrA l h) : ρ l ≠ some p.b := fun e => by
  have hlt := g.lt hl.live e
  have key : ∀ o : Obj, p.ob = o := fun o => by
    have h1 := (g.fr (putB w p.b o) (putB_ag w p.b o _ fun hd => hd l hl e)).at_ p hp
    rw [putB_same w o hlt] at h1
    exact (Option.some.inj h1).symm
  have h1 := key (.cells #[] 0 (0, 0))
  have h2 := key (.cells #[] 0 (0, 1))
  rw [h1] at h2
  simp at h2
/-- where a label that may be written lies -/
theorem Gam.freF (g : Gam E ρ n L τ h (FF h0 ρ0 w0 fs0 fs) a w) {l b : Nat} (hl : wrA l h) (hb : ρ l = some b) : w0.heap.size ≤ b ∨ Wr0 h0 ρ0 b ∨ WrF fs0 b := by
  rcases Nat.lt_or_ge b w0.heap.size with h1 | h1
  · right
    refine Classical.byContradiction fun hn => ?_
    have hn2 : ¬ Wr0 h0 ρ0 b ∧ ¬ WrF fs0 b := ⟨fun e => hn (.inl e), fun e => hn (.inr e)⟩
    have hlt := g.lt hl.live hb
    have key : ∀ o : Obj, w0.heap[b]? = some o := fun o => by
      have h2 := (g.fr (putB w b o) (putB_ag w b o _ fun hd => hd l hl hb)).ag.block b h1 hn2
      rw [← h2, putB_same w o hlt]
    have h4 := key (.cells #[] 0 (0, 0))
    have h5 := key (.cells #[] 0 (0, 1))
    rw [h4] at h5
    simp at h5
  · exact .inl h1
theorem FF.lt (hf : FF h0 ρ0 w0 fs0 fs w) {p : Fact} (hp : p ∈ fs) : p.b < w.heap.size := (Array.getElem?_eq_some_iff.1 (hf.at_ p hp)).1
/-- the same facts, fewer, in another order -/
theorem FF.less (hf : FF h0 ρ0 w0 fs0 fs w) {fs2 : Fam} (h2 : ∀ p ∈ fs2, p ∈ fs) (ha : ApF fs2) : FF h0 ρ0 w0 fs0 fs2 w := ⟨fun p hp => hf.at_ p (h2 p hp), hf.ag, ha, fun p hp => hf.fre p (h2 p hp), fun p hp => hf.bl p (h2 p hp), hf.pre⟩
/-- no label that is only read lies where a fact may be written -/
def roB (N : Nat) (h : List (Nat × AO)) : Bool := h.all fun p => !p.2.isRo || Nat.ble (p.1 + 1) N
theorem roB_lt {N : Nat} {h : List (Nat × AO)} (hr : roB N h = true) {l : Nat} {o : AO} (hl : hk l h = some o) (ho : o.isRo = true) : l < N := by
  have := List.all_eq_true.1 hr _ (lk_mem (hk_lk hl))
  simp only [ho, Bool.not_true, Bool.false_or, Nat.ble_eq] at this
  omega
theorem FF.inn (hf : FF h0 ρ0 w0 fs0 fs w) {i b : Nat} {o : AO} (hi : h0[i]? = some o) (hro : o.isRo = true) (hb : ρ0 i = some b) : ¬ WrF fs b := fun ⟨p, hp, hrw, he⟩ => by
  have hlt : i < h0.length := (List.getElem?_eq_some_iff.1 hi).1
  subst he
  rcases hf.fre p hp hrw with h1 | ⟨j, oj, h1, h2, h3⟩ | h1
  · have := hf.pre.al i _ hlt hb; omega
  · have := hf.pre.dis j i oj _ h1 h2 hlt h3 hb
    subst this
    rw [hi] at h1
    cases h1
    rw [hro] at h2; cases h2
  · exact hf.pre.ro i _ hlt hb h1
end
section
variable {P : Program} {ops : Array Oper} {Q : Exit → Act → World → Prop} {E : Base} {n L : Nat} {τ : List (Nat × AV)} {h : List (Nat × AO)} {F : World → Prop} {rest : List Oper}
/-- a state told anew -/
theorem R.again {α : Type} (L' : Nat) (τ' : α → List (Nat × AV)) (h' : α → List (Nat × AO)) (F' : α → World → Prop) (I : α → Prop) (hg : ∀ ρ a w, Gam E ρ n L τ h F a w → ∃ x ρ', I x ∧ Gam E ρ' n L' (τ' x) (h' x) (F' x) a w)
    (k : ∀ x, I x → R P ops Q none E n L' (τ' x) (h' x) (F' x) rest) : R P ops Q none E n L τ h F rest := ⟨fun ρ a w g => by
  obtain ⟨x, ρ', hI, g'⟩ := hg ρ a w g
  exact (k x hI).out ρ' a w g'⟩
theorem C.again {c : Code} {α : Type} (L' : Nat) (τ' : α → List (Nat × AV)) (h' : α → List (Nat × AO)) (F' : α → World → Prop) (I : α → Prop) (hg : ∀ ρ a w, Gam E ρ n L τ h F a w → ∃ x ρ', I x ∧ Gam E ρ' n L' (τ' x) (h' x) (F' x) a w)
    (k : ∀ x, I x → C P c Q E n L' (τ' x) (h' x) (F' x)) : C P c Q E n L τ h F := ⟨fun ρ a w g => by
  obtain ⟨x, ρ', hI, g'⟩ := hg ρ a w g
  exact (k x hI).out ρ' a w g'⟩
theorem X.again {e : Exit} {α : Type} (L' : Nat) (τ' : α → List (Nat × AV)) (h' : α → List (Nat × AO)) (F' : α → World → Prop) (I : α → Prop) (hg : ∀ ρ a w, Gam E ρ n L τ h F a w → ∃ x ρ', I x ∧ Gam E ρ' n L' (τ' x) (h' x) (F' x) a w)
    (k : ∀ x, I x → X Q e E n L' (τ' x) (h' x) (F' x)) : X Q e E n L τ h F := ⟨fun ρ a w g => by
  obtain ⟨x, ρ', hI, g'⟩ := hg ρ a w g
  exact (k x hI).out ρ' a w g'⟩
theorem X.wk {e : Exit} {F2 : World → Prop} (hF : ∀ w, F w → F2 w) (k : X Q e E n L τ h F2) : X Q e E n L τ h F := ⟨fun ρ a w g => k.out ρ a w (g.strong fun w' hw => hF _ (g.fr w' hw))⟩
theorem C.wk {c : Code} {F2 : World → Prop} (hF : ∀ w, F w → F2 w) (k : C P c Q E n L τ h F2) : C P c Q E n L τ h F := ⟨fun ρ a w g => k.out ρ a w (g.strong fun w' hw => hF _ (g.fr w' hw))⟩
theorem R.wk {F2 : World → Prop} (hF : ∀ w, F w → F2 w) (k : R P ops Q none E n L τ h F2 rest) : R P ops Q none E n L τ h F rest := ⟨fun ρ a w g => k.out ρ a w (g.strong fun w' hw => hF _ (g.fr w' hw))⟩
end
/-- in this object lies what o says -/
def Is (b : Nat) (ob : Obj) (o : AO) : Prop := ∀ (ρ : Env) (w : World), w.heap[b]? = some ob → o.holds ρ (some b) w
section
variable {E : Base} {ρ : Env} {n L : Nat} {τ : List (Nat × AV)} {h : List (Nat × AO)} {a : Act} {w : World} {h0 : List AO} {ρ0 : Env} {w0 : World} {fs0 fs : Fam}
/-- freeze: slot t held the label l, it holds the block itself now -/
theorem Gam.frz (g : Gam E ρ n L τ h (FF h0 ρ0 w0 fs0 fs) a w) (rw' : Bool) (t l : Nat) {o o' : AO} {v : AV} (v' : Nat → Value) (hl : hk l h = some o) (hro : o.isRo = false) (hv : lk t τ = some v) (hsome : ρ l ≠ none)
    (hc : ∀ (ρ : Env) b, ρ l = some b → v.conc ρ = v' b) (ho : ∀ b ob w, ρ l = some b → w.heap[b]? = some ob → o.holds ρ (some b) w → Is b ob o') :
    ∃ x : Nat × Obj, ∃ ρ', (Is x.1 x.2 o' ∧ (∀ p ∈ fs, p.b ≠ x.1)) ∧ Gam E ρ' n L ((t, .raw (v' x.1)) :: τ) ((l, .gone) :: h) (FF h0 ρ0 w0 fs0 (⟨rw', x.1, x.2⟩ :: fs)) a w := by
  obtain ⟨b, hb⟩ := Option.ne_none_iff_exists'.1 hsome
  have hw : wrA l h := ⟨o, hl, hro⟩
  have hlt := g.lt hw.live hb
  have hob : w.heap[b]? = some w.heap[b] := Array.getElem?_eq_getElem hlt
  have hh := g.hp l o hl
  rw [hb] at hh
  have hap : ∀ p ∈ fs, p.b ≠ b := fun p hp e => g.apF hp hw (by rw [hb, e])
  have hwr : ∀ l', wrA l' ((l, .gone) :: h) → l' ≠ l ∧ wrA l' h := fun l' ⟨o1, h1, h2⟩ => by
    rw [hk_cons] at h1
    split at h1
    · cases h1
    · rename_i e; exact ⟨fun e2 => e e2.symm, o1, h1, h2⟩
  refine ⟨(b, w.heap[b]), ρ, ⟨ho b _ w hb hob hh.2.2, hap⟩, ⟨g.df, g.sz, fun s u hu => ?_, fun l' o1 hl' => ?_, fun l1 l2 b1 h1 h2 h3 h4 => ?_, fun w' hw' => ?_, g.ex, g.le, g.al⟩⟩
  · rw [lk_cons] at hu
    split at hu
    · rename_i e
      subst e
      cases hu
      refine ⟨AV.Low.raw _ _ _, ?_⟩
      rw [(g.tm t v hv).2, hc ρ b hb]; rfl
    · exact g.tm s u hu
  · rw [hk_cons] at hl'
    split at hl'
    · cases hl'
    · exact g.hp l' o1 hl'
  · refine g.dis l1 l2 b1 (hwr l1 h1).2 ?_ h3 h4
    rw [hk_cons] at h2
    split at h2
    · exact absurd rfl h2
    · exact h2
  · have hff := g.ff
    -- the world with the old thing in the block
    obtain ⟨w2, hw2⟩ : ∃ w2, w2 = putB w' b w.heap[b] := ⟨_, rfl⟩
    have hsz : b < w'.heap.size := Nat.lt_of_lt_of_le hlt hw'.size
    have hb' : w'.heap[b]? = w.heap[b]? := hw'.block b hlt fun l' hl' e => (hwr l' hl').1 (g.dis l' l b (hwr l' hl').2 hw.live e hb)
    have hall := g.fr w' (hw'.mono fun b2 hb2 hd l' hl' e => hd l' (hwr l' hl').2 e)
    refine ⟨fun p hp => ?_, hall.ag, ?_, fun p hp hrw => ?_, fun p hp => ?_, hall.pre⟩
    · rcases List.mem_cons.1 hp with rfl | hp
      · exact hb'.trans hob
      · exact hall.at_ p hp
    · unfold ApF
      rw [List.pairwise_cons]
      exact ⟨fun q hq e => absurd e.symm (hap q hq), hall.ap⟩
    · rcases List.mem_cons.1 hp with rfl | hp
      · exact g.freF hw hb
      · exact hall.fre p hp hrw
    · rcases List.mem_cons.1 hp with rfl | hp
      · exact (g.freF hw hb).imp id (Or.imp id WrF.bl)
      · exact hall.bl p hp
/-- thaw: slot t held a block of which a fact is told; it holds a label now, that may be written -/
theorem Gam.thaw (g : Gam E ρ n L τ h (FF h0 ρ0 w0 fs0 fs) a w) (hE : E = ⟨h0.length, ρ0, E.df⟩) (hrob : roB E.N h = true) (hr0 : ∀ l o, hk l h = some o → o.isRo = true → ∃ o0, h0[l]? = some o0 ∧ o0.isRo = true) {p : Fact} {fs2 : Fam} (hp : p ∈ fs) (hrw : p.rw = true) (h2 : ∀ q ∈ fs2, q ∈ fs ∧ q.b ≠ p.b) (ha2 : ApF fs2) (t : Nat) {o : AO} {v : Value} (v' : AV) (hv : lk t τ = some (.raw v))
    (hro : o.isRo = false) (hc : ∀ ρ : Env, ρ L = some p.b → v'.conc ρ = v) (hb : v'.bd (L + 1) = true) (ho : Is p.b p.ob o) (hlow : o.Bd 0) :
    Gam E (updE ρ L (some p.b)) n (L + 1) ((t, v') :: τ) ((L, o) :: h) (FF h0 ρ0 w0 fs0 fs2) a w := by
  have hs : ∀ l, l < L → updE ρ L (some p.b) l = ρ l := fun l hl => updE_ne ρ _ (by omega)
  have hff := g.ff
  have hlive : ∀ l b, hk l h ≠ none → ρ l = some b → b ≠ p.b := fun l b hl hlb e => by
    subst e
    cases hx : hk l h with
    | none => exact hl hx
    | some o1 =>
      cases hro1 : o1.isRo with
      | false => exact g.apF hp ⟨o1, hx, hro1⟩ hlb
      | true =>
        have hlN := roB_lt hrob hx hro1
        obtain ⟨o0, h3, h4⟩ := hr0 l o1 hx hro1
        have : ρ l = ρ0 l := by rw [g.ex l hlN, hE]
        exact hff.inn h3 h4 (this ▸ hlb) ⟨p, hp, hrw, rfl⟩
  have hwr : ∀ l, L ≠ l → wrA l ((L, o) :: h) → wrA l h := fun l e ⟨o1, h1, h3⟩ => by
    rw [hk_cons, if_neg e] at h1
    exact ⟨o1, h1, h3⟩
  have hkL : ∀ l, L ≠ l → hk l ((L, o) :: h) = hk l h := fun l e => by rw [hk_cons, if_neg e]
  have hLL : ∀ l, hk l h ≠ none → l < L := fun l hl => by
    cases hx : hk l h with
    | none => exact absurd hx hl
    | some o1 => exact (g.hp l o1 hx).1
  refine ⟨g.df, g.sz, fun s u hu => ?_, fun l o1 hl => ?_, fun l1 l2 b1 h1 h3 h4 h5 => ?_, fun w' hw' => ?_, fun l hl => ?_, Nat.le_trans g.le (Nat.le_succ L), fun l b hl hlb => ?_⟩
  · rw [lk_cons] at hu
    split at hu
    · rename_i e
      subst e
      cases hu
      exact ⟨bdLow hb _, by rw [(g.tm t _ hv).2, hc _ (updE_same _ _ _)]; rfl⟩
    · have := g.tm s u hu
      exact ⟨(this.1.ext hs).mono (Nat.le_succ L), by rw [this.2, this.1 _ hs]⟩
  · rw [hk_cons] at hl
    split at hl
    · rename_i e
      subst e
      rw [updE_same]
      have e2 : o1 = o := by cases o <;> simp at hl <;> exact hl.symm
      subst e2
      exact ⟨Nat.lt_succ_self _, (hlow.low _).mono (Nat.zero_le _), ho _ w (hff.at_ p hp)⟩
    · have hh := g.hp l o1 hl
      refine ⟨Nat.lt_succ_of_lt hh.1, (hh.2.1.ext hs).mono (Nat.le_succ L), ?_⟩
      rw [hs l hh.1]
      exact (hh.2.1 _ hs _ _).1 hh.2.2
  · by_cases e1 : L = l1 <;> by_cases e2 : L = l2
    · omega
    · rw [hkL l2 e2] at h3
      rw [← e1, updE_same] at h4
      rw [hs l2 (hLL l2 h3)] at h5
      cases h4
      exact absurd rfl (hlive l2 _ h3 h5)
    · have h1' := hwr l1 e1 h1
      rw [← e2, updE_same] at h5
      rw [hs l1 (hLL l1 h1'.live)] at h4
      cases h5
      exact absurd rfl (hlive l1 _ h1'.live h4)
    · have h1' := hwr l1 e1 h1
      rw [hkL l2 e2] at h3
      rw [hs l1 (hLL l1 h1'.live)] at h4
      rw [hs l2 (hLL l2 h3)] at h5
      exact g.dis l1 l2 b1 h1' h3 h4 h5
  · have hlt := hff.lt hp
    obtain ⟨w2, hw2⟩ : ∃ w2, w2 = putB w' p.b p.ob := ⟨_, rfl⟩
    have hsz : p.b < w'.heap.size := Nat.lt_of_lt_of_le hlt hw'.size
    have hag : Ag (fun b => ∀ l, wrA l h → ρ l ≠ some b) w w2 := by
      subst hw2
      refine ⟨hw'.os, hw'.tape, hw'.output, by simpa [putB] using hw'.size, fun b hb1 hd => ?_⟩
      by_cases e : b = p.b
      · subst e
        rw [putB_same _ _ hsz, hff.at_ p hp]
      · rw [putB_ne _ _ e]
        refine hw'.block b hb1 fun l hl hlb => ?_
        by_cases e1 : L = l
        · rw [← e1, updE_same] at hlb
          cases hlb
          exact e rfl
        · have h1' := hwr l e1 hl
          rw [hs l (hLL l h1'.live)] at hlb
          exact hd l h1' hlb
    have hall := g.fr w2 hag
    subst hw2
    refine ⟨fun q hq => ?_, ⟨hall.ag.os, hall.ag.tape, hall.ag.output, by simpa [putB] using hall.ag.size, fun b hb1 hd => ?_⟩, ha2, fun q hq => hall.fre q (h2 q hq).1, fun q hq => hall.bl q (h2 q hq).1, hall.pre⟩
    · have := hall.at_ q (h2 q hq).1
      rwa [putB_ne _ _ (h2 q hq).2] at this
    · have h6 := hall.ag.block b hb1 hd
      rwa [putB_ne] at h6
      intro e
      subst e
      rcases hall.fre p hp hrw with h7 | h7 | h7
      · omega
      · exact hd.1 h7
      · exact hd.2 h7
  · rw [hs l (Nat.lt_of_lt_of_le hl g.le)]; exact g.ex l hl
  · rcases Nat.lt_or_ge l L with h1 | h1
    · exact g.al l b h1 ((hs l h1).symm.trans hlb)
    · obtain rfl : l = L := by omega
      rw [updE_same] at hlb
      cases hlb
      exact hff.lt hp
end
end Go.Proofs.Yteabncomclgncaa
namespace Go.Proofs.Yteabncomclgncaa
set_option linter.unusedVariables false
set_option linter.unusedSimpArgs false
set_option linter.unusedSectionVars false
open Go.RowKit
def AtG {σ : Type} (E : Base) (n L : Nat) (Inv : σ → Prop) (T : σ → List (Nat × AV)) (H : σ → List (Nat × AO)) (F : σ → World → Prop) (μ : σ → Nat) (m : Nat) (a : Act) (w : World) : Prop := ∃ s, Inv s ∧ μ s < m ∧ ∃ ρ, Gam E ρ n L (T s) (H s) (F s) a w
section
variable {P : Program} {Q : Exit → Act → World → Prop} {E : Base} {n L : Nat} {τ : List (Nat × AV)} {h : List (Nat × AO)} {F : World → Prop}
theorem atG_of {σ : Type} {L2 : Nat} {Inv : σ → Prop} {T : σ → List (Nat × AV)} {H : σ → List (Nat × AO)} {F2 : σ → World → Prop} {μ : σ → Nat} {m : Nat} {ρ : Env} {a : Act} {w : World} (g : Gam E ρ n L τ h F a w) (rl : List (Nat × Nat)) (s : σ) (hI : Inv s) (hm : μ s < m) (hb : rnB E.N L2 L rl = true)
    (ht : HasT (rnF rl) L2 τ (T s)) (hh : HasH (rnF rl) L2 h (H s)) (hnd : nodupB (((H s).map (·.1)).map (rnF rl)) = true) (hF : ∀ w, F w → F2 s w) : AtG E n L2 Inv T H F2 μ m a w := by
  obtain ⟨h1, h2, h3⟩ := rn_ok hb
  exact ⟨s, hI, hm, _, g.imp (rnF rl) L2 (T s) (H s) (F2 s) h1 h2 h3 ht hh hnd hF⟩
theorem X.backG {σ : Type} {L2 : Nat} {Inv : σ → Prop} {T : σ → List (Nat × AV)} {H : σ → List (Nat × AO)} {F2 : σ → World → Prop} {μ : σ → Nat} {m : Nat} (rl : List (Nat × Nat)) (s : σ) (hI : Inv s) (hm : μ s < m) (hb : rnB E.N L2 L rl = true)
    (ht : HasT (rnF rl) L2 τ (T s)) (hh : HasH (rnF rl) L2 h (H s)) (hnd : nodupB (((H s).map (·.1)).map (rnF rl)) = true) (hF : ∀ w, F w → F2 s w) : X (Exit.then (AtG E n L2 Inv T H F2 μ m) Q) .normal E n L τ h F :=
  ⟨fun ρ a w g => atG_of g rl s hI hm hb ht hh hnd hF⟩
theorem C.loopG {σ : Type} {c : Code} {L2 : Nat} (Inv : σ → Prop) (T : σ → List (Nat × AV)) (H : σ → List (Nat × AO)) (F2 : σ → World → Prop) (μ : σ → Nat) (rl : List (Nat × Nat)) (s : σ) (hI : Inv s) (hb : rnB E.N L2 L rl = true)
    (ht : HasT (rnF rl) L2 τ (T s)) (hh : HasH (rnF rl) L2 h (H s)) (hnd : nodupB (((H s).map (·.1)).map (rnF rl)) = true) (hF : ∀ w, F w → F2 s w)
    (round : ∀ s, Inv s → C P c (Exit.then (AtG E n L2 Inv T H F2 μ (μ s)) Q) E n L2 (T s) (H s) (F2 s)) : C P (.loop c) Q E n L τ h F := ⟨fun ρ a w g => by
  obtain ⟨s0, hI0, hm0, ρ0, g0⟩ := atG_of (μ := μ) (m := μ s + 1) (F2 := F2) g rl s hI (Nat.lt_succ_self _) hb ht hh hnd hF
  refine wp_loop_ghost (fun k a w => ∃ s, Inv s ∧ μ s = k ∧ ∃ ρ, Gam E ρ n L2 (T s) (H s) (F2 s) a w) (μ s0) ⟨s0, hI0, rfl, ρ0, g0⟩ ?_
  rintro k a w ⟨s, hs, rfl, ρ, g⟩
  refine wp_mono ((round s hs).out ρ a w g) ?_
  intro e a' w' hq
  cases e with
  | normal =>
    obtain ⟨s', h1, h2, h3⟩ := hq
    exact ⟨μ s', h2, s', h1, rfl, h3⟩
  | exit id => exact hq
  | goto l => exact hq
  | ret => exact hq
  | panic ch => exact hq
  | outgrown => exact hq⟩
end
/-- what a call comes to -/
def OutcF {σ : Type} (h0 : List AO) (m : Nat) (ρ : Env) (w : World) (fs : Fam) (G : σ → Prop) (val : σ → AV) (post : σ → List (Nat × AO)) (fs' : σ → Fam) (e : Ending) (w' : World) : Prop :=
  ∃ s ρ', G s ∧ (∀ i, i < h0.length → ρ' i = ρ i) ∧ e = .returned ((val s).conc ρ') ∧ (val s).Low ρ' m ∧ FF h0 ρ w fs (fs' s) w' ∧
    (∀ l o, hk l (post s) = some o → l < m ∧ o.Low ρ' m ∧ o.holds ρ' (ρ' l) w') ∧ (∀ l l' b, wrA l (post s) → hk l' (post s) ≠ none → ρ' l = some b → ρ' l' = some b → l = l') ∧
    (∀ l b, l < m → ρ' l = some b → b < w'.heap.size) ∧ (∀ l b, h0.length ≤ l → hk l (post s) ≠ none → ρ' l = some b → w.heap.size ≤ b ∨ Wr0 h0 ρ b) ∧ (∀ i o, i < h0.length → hk i (post s) = some o → o.isRo = false → ∃ o0, h0[i]? = some o0 ∧ o0.isRo = false) ∧
    (∀ l b, wrA l (post s) → ρ' l = some b → ¬ BlF (fs' s) b)
def SpecF (P : Program) (f : FuncId) (avs : List AV) (h0 : List AO) (m : Nat) {σ : Type} (fs : Fam) (G : σ → Prop) (val : σ → AV) (post : σ → List (Nat × AO)) (fs' : σ → Fam) : Prop :=
  ∀ (ρ : Env) (w : World), (∀ (i : Nat) (o : AO), h0[i]? = some o → o.holds ρ (ρ i) w) → Pre h0 ρ w fs → Calls P f (AV.concs ρ avs).toArray w (OutcF h0 m ρ w fs G val post fs')
theorem Pre.ff {h0 : List AO} {ρ : Env} {w : World} {fs : Fam} (hp : Pre h0 ρ w fs) {w' : World} (hw : Ag (fun b => ¬ Wr0 h0 ρ b) w w') : FF h0 ρ w fs fs w' := ⟨fun p hq => by
    have := hp.at0 p hq
    rw [← this]
    exact hw.block p.b (Array.getElem?_eq_some_iff.1 this).1 fun hx => hp.wr p.b hx ⟨p, hq, rfl⟩, hw.mono fun b _ h => h.1, hp.ap0, fun p hq hrw => .inr (.inr ⟨p, hq, hrw, rfl⟩), fun p hq => .inr (.inr ⟨p, hq, rfl⟩), hp⟩
section
variable {P : Program} {Q : Exit → Act → World → Prop} {E : Base} {n L : Nat} {τ : List (Nat × AV)} {h : List (Nat × AO)} {F : World → Prop}
/-- the beginning of a call, facts told -/
theorem CL.enterF {f : FuncId} {fn : Func} {c : Code} (hf : P.funcs[f]? = some fn) (hb : fn.body = some c) (ρ : Env) (avs : List AV) (h0 : List AO) (w : World) (fs : Fam) (R : Ending → World → Prop) (n : Nat) (hn : fn.ntmps = n) (hlen : Nat.ble avs.length n = true) (hbd : AV.bds h0.length avs = true)
    (hbo : ∀ o ∈ h0, o.Bd h0.length) (hh : ∀ (i : Nat) (o : AO), h0[i]? = some o → o.holds ρ (ρ i) w) (hp : Pre h0 ρ w fs)
    (k : C P c (bodyPost P fn R) ⟨h0.length, ρ, []⟩ n h0.length (slots 0 avs) (labels 0 h0) (FF h0 ρ w fs fs)) : Calls P f (AV.concs ρ avs).toArray w R := by
  refine CL.enter hf hb ρ avs h0 w R n hn hlen hbd hbo hh hp.dis (fun i b hi hb => hp.al i b hi hb) (fun ρ' a' w' g => k.out ρ' a' w' (g.strong fun x hx => hp.ff (g.fr x hx)))
theorem SpecF.of {f : FuncId} {avs : List AV} {h0 : List AO} {m : Nat} {σ : Type} {fs : Fam} {G : σ → Prop} {val : σ → AV} {post : σ → List (Nat × AO)} {fs' : σ → Fam} {fn : Func} {c : Code} (hf : P.funcs[f]? = some fn) (hb : fn.body = some c) {n : Nat} (hn : fn.ntmps = n) (hB : (Nat.ble avs.length n && AV.bds h0.length avs) = true) (hbo : ∀ o ∈ h0, o.Bd h0.length)
    (k : ∀ ρ w, C P c (bodyPost P fn (OutcF h0 m ρ w fs G val post fs')) ⟨h0.length, ρ, []⟩ n h0.length (slots 0 avs) (labels 0 h0) (FF h0 ρ w fs fs)) : SpecF P f avs h0 m fs G val post fs' := fun ρ w h1 h2 => by
  simp only [Bool.and_eq_true] at hB
  exact CL.enterF hf hb ρ avs h0 w fs _ n hn hB.1 hB.2 hbo h1 h2 (k ρ w)
/-- a plain contract whose walk speaks of blocks without labels -/
theorem Spec.ofF {f : FuncId} {avs : List AV} {h0 : List AO} {m : Nat} {σ : Type} {G : σ → Prop} {val : σ → AV} {post : σ → List (Nat × AO)} {fn : Func} {c : Code} (hf : P.funcs[f]? = some fn) (hb : fn.body = some c) {n : Nat} (hn : fn.ntmps = n) (hB : (Nat.ble avs.length n && AV.bds h0.length avs) = true) (hbo : ∀ o ∈ h0, o.Bd h0.length)
    (k : ∀ ρ w, C P c (bodyPost P fn (Outc h0 m ρ w G val post)) ⟨h0.length, ρ, []⟩ n h0.length (slots 0 avs) (labels 0 h0) (FF h0 ρ w [] [])) : Spec P f avs h0 m G val post := fun ρ w h1 h2 h3 => by
  simp only [Bool.and_eq_true] at hB
  have hp : Pre h0 ρ w [] := ⟨h3, h2, fun p hp => (by cases hp), List.Pairwise.nil, fun i b _ _ ⟨p, hp, _⟩ => (by cases hp), fun b _ ⟨p, hp, _⟩ => (by cases hp)⟩
  exact CL.enterF hf hb ρ avs h0 w [] _ n hn hB.1 hB.2 hbo h1 hp (k ρ w)
theorem FF.ag0 {h0 : List AO} {ρ0 : Env} {w0 : World} {fs : Fam} {w : World} (hf : FF h0 ρ0 w0 [] fs w) : Ag (fun b => ¬ Wr0 h0 ρ0 b) w0 w := hf.ag.mono fun b _ h => ⟨h, fun ⟨p, hp, _⟩ => by cases hp⟩
/-- the end of such a one -/
theorem X.finS {tt : List (Nat × TI)} (htt : TTok P tt) {fn : Func} {σ : Type} {h0 : List AO} {m : Nat} {ρ0 : Env} {w0 : World} {fs : Fam} {G : σ → Prop} {val : σ → AV} {post : σ → List (Nat × AO)} {vs : List AV} (s : σ) (rl : List (Nat × Nat)) (hG : G s) (hr : resA tt h τ fn.results.toList = some vs)
    (hv : resV vs = (val s).ren (rnF rl)) (hb : ((val s).bd m && rnB h0.length m L rl && newB h0.length rl h (post s) && oldB h0 (post s) && nodupB (((post s).map (·.1)).map (rnF rl))) = true) (hh : HasH (rnF rl) m h (post s)) (e : Exit) (he : e = .ret ∨ e = .normal) :
    X (bodyPost P fn (Outc h0 m ρ0 w0 G val post)) e ⟨h0.length, ρ0, []⟩ n L τ h (FF h0 ρ0 w0 [] fs) := X.wk (fun w hw => hw.ag0) (X.fin htt s rl hG hr hv hb hh e he)
/-- the end of a call whose contract speaks of blocks without labels -/
theorem X.finF {tt : List (Nat × TI)} (htt : TTok P tt) {fn : Func} {σ : Type} {h0 : List AO} {m : Nat} {ρ0 : Env} {w0 : World} {fs0 fsE : Fam} {G : σ → Prop} {val : σ → AV} {post : σ → List (Nat × AO)} {fs' : σ → Fam} {vs : List AV} (s : σ) (rl : List (Nat × Nat)) (hG : G s) (hr : resA tt h τ fn.results.toList = some vs)
    (hv : resV vs = (val s).ren (rnF rl)) (hb : ((val s).bd m && rnB h0.length m L rl && newB h0.length rl h (post s) && oldB h0 (post s) && nodupB (((post s).map (·.1)).map (rnF rl))) = true) (hh : HasH (rnF rl) m h (post s)) (e : Exit) (he : e = .ret ∨ e = .normal)
    (hfs : ∀ w, FF h0 ρ0 w0 fs0 fsE w → ApF (fs' s)) (hin : ∀ p ∈ fs' s, p ∈ fsE) (hall : ∀ p ∈ fs0, p.rw = true → BlF fsE p.b) :
    X (bodyPost P fn (OutcF h0 m ρ0 w0 fs0 G val post fs')) e ⟨h0.length, ρ0, []⟩ n L τ h (FF h0 ρ0 w0 fs0 fsE) := by
  have key : ∀ ρ a w, Gam ⟨h0.length, ρ0, []⟩ ρ n L τ h (FF h0 ρ0 w0 fs0 fsE) a w → OutcF h0 m ρ0 w0 fs0 G val post fs' (.returned ((resV vs).conc ρ)) w := fun ρ a w g => by
    simp only [Bool.and_eq_true] at hb
    obtain ⟨⟨⟨⟨h1, h2⟩, h3⟩, h4⟩, h5⟩ := hb
    obtain ⟨h6, h7, h8⟩ := rn_ok h2
    have g2 := g.imp (rnF rl) m [] (post s) _ h6 h7 h8 trivial hh h5 (fun _ h => h)
    refine ⟨s, fun l => ρ (rnF rl l), hG, fun i hi => g2.ex i hi, by rw [hv, ren_conc], bdLow h1 _, g.ff.less hin (hfs w g.ff), g2.hp, g2.dis, fun l b h1 h3 => g.al (rnF rl l) b (h7 l h1) h3, fun l b hl hlive hb => ?_, oldB_mem h4, fun l b hl hb ⟨p, hp, he⟩ => ?_⟩
    · rcases g.freF (newB_mem h3 l hlive hl) hb with h9 | h9 | ⟨p, hp, hrw, he⟩
      · exact .inl h9
      · exact .inr h9
      · obtain ⟨q, hq, hqe⟩ := hall p hp hrw
        exact absurd (by rw [hqe, he]; exact hb) (g.apF hq (newB_mem h3 l hlive hl))
    · exact g2.apF (hin p hp) hl (by rw [he]; exact hb)
  rcases he with rfl | rfl
  · exact X.ret htt hr key
  · exact X.end_ htt hr key
end
end Go.Proofs.Yteabncomclgncaa
namespace Go.Proofs.Yteabncomclgncaa
set_option linter.unusedVariables false
set_option linter.unusedSimpArgs false
set_option linter.unusedSectionVars false
open Go.RowKit
open Classical in
/-- of two worlds: in S the second's blocks -/
noncomputable def mixW (w w' : World) (S : Nat → Prop) : World := { w with heap := Array.ofFn fun i : Fin w.heap.size => if S i.1 then w'.heap.getD i.1 w.heap[i] else w.heap[i] }
theorem mixW_size (w w' : World) (S : Nat → Prop) : (mixW w w' S).heap.size = w.heap.size := by simp [mixW]
theorem mixW_in (w w' : World) {S : Nat → Prop} {b : Nat} (hb : b < w.heap.size) (hb' : b < w'.heap.size) (hS : S b) : (mixW w w' S).heap[b]? = w'.heap[b]? := by
  simp [mixW, hb, hS, hb']
theorem mixW_out (w w' : World) {S : Nat → Prop} {b : Nat} (hS : ¬ S b) : (mixW w w' S).heap[b]? = w.heap[b]? := by
  by_cases hb : b < w.heap.size
  · simp [mixW, hb, hS]
  · simp [mixW, hb]
section
variable {E : Base} {ρ : Env} {n L : Nat} {τ : List (Nat × AV)} {h : List (Nat × AO)} {F : World → Prop} {a : Act} {w : World} {H0 : List AO} {R0 : Env} {W0 : World} {FS0 fs : Fam}
/-- the same state, where blocks without labels hold other things -/
theorem Gam.bump (g : Gam E ρ n L τ h F a w) {w2 : World} (hsz : w2.heap.size = w.heap.size) (hlab : ∀ l b, hk l h ≠ none → ρ l = some b → w2.heap[b]? = w.heap[b]?) : Gam E ρ n L τ h (fun x => Ag (fun b => ∀ l, wrA l h → ρ l ≠ some b) w2 x) a w2 :=
  ⟨g.df, g.sz, g.tm, fun l o hl => by
    have hh := g.hp l o hl
    exact ⟨hh.1, hh.2.1, holds_same hh.2.2 fun b hb => hlab l b (by rw [hl]; simp) hb⟩, g.dis, fun w' hw => hw, g.ex, g.le, fun l b hl hb => by rw [hsz]; exact g.al l b hl hb⟩
/-- the labels behind a call -/
theorem hk_behind {h0 : List AO} {ms : List Nat} {L : Nat} {post : List (Nat × AO)} (hnd : nodupB ((post.map (·.1)).map (renF ms L)) = true) {l : Nat} {o : AO} (ho : hk l (renH (renF ms L) post ++ (goneL h0 ms ++ h)) = some o) :
    (∃ i oi, hk i post = some oi ∧ renF ms L i = l ∧ o = oi.ren (renF ms L)) ∨ (l ∉ (goneL h0 ms).map (·.1) ∧ hk l h = some o) := by
  have hinj := nodupB_inj hnd
  simp only [hk_append] at ho
  split at ho
  · rename_i hm
    obtain ⟨i, hi, rfl⟩ := renH_mem.1 hm
    rw [hk_renH hinj i hi] at ho
    cases hx : hk i post with
    | none => rw [hx] at ho; cases ho
    | some oi =>
      rw [hx] at ho
      simp only [Option.map_some, Option.some.injEq] at ho
      exact .inl ⟨i, oi, hx, rfl, ho.symm⟩
  · split at ho
    · rw [goneL_none] at ho; cases ho
    · rename_i hn; exact .inr ⟨hn, ho⟩
end
section
variable {P : Program} {ops : Array Oper} {Q : Exit → Act → World → Prop} {D : Option DD} {E : Base} {n L : Nat} {τ : List (Nat × AV)} {h : List (Nat × AO)} {rest : List Oper}
  {d : Nat} {op : Op} {ty : TypeId} {ps : String} {af : Array Edge} {gd : Option (Nat × Bool)} {tt : List (Nat × TI)} {H0 : List AO} {R0 : Env} {W0 : World} {FS0 : Fam}
/-- a call -/
theorem R.cfG {σ : Type} {G : σ → Prop} {val : σ → AV} {post : σ → List (Nat × AO)} {f : FuncId} {x : Operand} {cs : List AV} {xs : Array Operand} {ats : Array TypeId} {avs : List AV} {h0 : List AO} {m : Nat} {fs : Fam} {fs' : σ → Fam} (fr : Fam) (ms : List Nat) (sp : SpecF P f avs h0 m fs G val post fs') (eg : ∀ args w, (callFunc f args).run P w = .ok (.enter f args) w)
    (hapG : ∀ ρ a w, Gam E ρ n L τ h (FF H0 R0 W0 FS0 (fs ++ fr)) a w → ∀ l b, hk l h ≠ none → ρ l = some b → ¬ WrF fs b)
    (hf : evA τ x = some (.fn f cs)) {l : List AV} (hxs : evList (evA τ) xs.toList = some l) (hx : l ++ cs = AV.rens (renF ms L) avs) (hin : HasIn (renF ms L) h 0 h0) (hm : Nat.ble h0.length m = true) (hpost : ∀ s, ∀ l ∈ (post s).map (·.1), l < m) (hnd : ∀ s, nodupB (((post s).map (·.1)).map (renF ms L)) = true)
    (hg : wantA ops ⟨some d, .call { callee := .value x, args := xs, argTypes := ats }, ty, ps, af, gd⟩ τ = some true) (hb : (Nat.ble (d + 1) n && Nat.beq h0.length ms.length && onceB h0 ms && chainB h D ((goneL h0 ms).map (·.1))) = true)
    (k : ∀ s, G s → R P ops Q (actD h D ((goneL h0 ms).map (·.1))) E n (L + (m - h0.length)) ((d, (val s).ren (renF ms L)) :: τ) (renH (renF ms L) (post s) ++ (goneL h0 ms ++ h)) (FF H0 R0 W0 FS0 (fs' s ++ fr)) rest) :
    R P ops Q D E n L τ h (FF H0 R0 W0 FS0 (fs ++ fr)) (⟨some d, .call { callee := .value x, args := xs, argTypes := ats }, ty, ps, af, gd⟩ :: rest) := by
  simp only [Bool.and_eq_true] at hb
  obtain ⟨⟨⟨h1, h2⟩, h3⟩, h4⟩ := hb
  have hlen : h0.length = ms.length := Nat.eq_of_beq_eq_true h2
  have hm' : h0.length ≤ m := by simpa [Nat.ble_eq] using hm
  refine ⟨RL.acts G (fun s => (val s).ren (renF ms L)) (fun _ => L + (m - h0.length)) (fun s => renH (renF ms L) (post s) ++ (goneL h0 ms ++ h)) (fun s => FF H0 R0 W0 FS0 (fs' s ++ fr)) ((goneL h0 ms).map (·.1)) hg h1 h4 (fun _ _ => Nat.le_add_right _ _) (fun ρ a w g => ?_) (fun s hs => (k s hs).out)⟩
  refine goes_callv rfl (g.eval x _ hf).2 eg ?_
  have hargs : xs.map a.eval ++ (AV.concs ρ cs).toArray = (AV.concs (fun i => ρ (renF ms L i)) avs).toArray := by
    have := evList_conc (evB g) _ _ hxs
    have e2 := congrArg (AV.concs ρ) hx
    rw [rens_conc, concs_append, ← this] at e2
    apply Array.ext'
    rw [Array.toList_append, Array.toList_map, ← e2]
  rw [hargs]
  have hff := g.ff
  have hget := hasIn_get hin
  simp only [Nat.zero_add] at hget
  have rlive : ∀ i, i < h0.length → hk (renF ms L i) h ≠ none ∧ renF ms L i < L := fun i hi => by
    obtain ⟨o, ho⟩ : ∃ o, h0[i]? = some o := ⟨_, List.getElem?_eq_getElem hi⟩
    obtain ⟨o', h5, _⟩ := hget i o ho
    exact ⟨by rw [h5]; simp, (g.hp _ _ h5).1⟩
  have hfsL : ∀ p ∈ fs, p ∈ fs ++ fr := fun p hp => List.mem_append_left _ hp
  have hfrR : ∀ p ∈ fr, p ∈ fs ++ fr := fun p hp => List.mem_append_right _ hp
  have hwrL : ∀ b, WrF fs b → WrF (fs ++ fr) b := fun b ⟨p, hp, q⟩ => ⟨p, hfsL p hp, q⟩
  have hap3 := List.pairwise_append.1 hff.ap
  have hapR : ∀ l b, hk l h ≠ none → ρ l = some b → ¬ WrF fs b := fun l b hl hb hw => hapG ρ a w g l b hl hb hw
  -- blocks that the call may write are the caller's
  have hcw : ∀ b, Wr0 h0 (fun i => ρ (renF ms L i)) b → ∃ l, wrA l h ∧ ρ l = some b ∧ l ∈ (goneL h0 ms).map (·.1) := fun b ⟨i, o, e1, e2, e3⟩ => by
    obtain ⟨o', e4, e5, _⟩ := hget i o e1
    have hlt : i < ms.length := by rw [← hlen]; exact (List.getElem?_eq_some_iff.1 e1).1
    refine ⟨_, ⟨o', e4, e5 e2⟩, e3, (goneL_mem hlen).2 ⟨i, o, e1, e2, ?_⟩⟩
    unfold renF; rw [List.getElem?_eq_getElem hlt]
  have hpre : Pre h0 (fun i => ρ (renF ms L i)) w fs := ⟨fun i b hi hb => g.al _ b (rlive i hi).2 hb, fun i j o b ho hro hj hbi hbj => ?_, fun p hp => hff.at_ p (hfsL p hp), hap3.1, fun i b hi hb => hapR _ b (rlive i hi).1 hb, fun b hw ⟨p, hp, he⟩ => ?_⟩
  · refine (sp (fun i => ρ (renF ms L i)) w (fun i o ho => ?_) hpre).mono fun e w' ho => ?_
    · obtain ⟨o', h5, h6, h7⟩ := hget i o ho
      exact (ren_holds _ _ _ _ _).1 (h7 _ _ _ (g.hp _ _ h5).2.2)
    obtain ⟨s, ρc, hG, q1, q2, q3, q4, q5, q6, q7, q8, q9, q10⟩ := ho
    -- the world of the beginning, with what the facts' blocks hold in the end
    have hsz2 := mixW_size w w' (WrF fs)
    have hlab : ∀ l b, hk l h ≠ none → ρ l = some b → (mixW w w' (WrF fs)).heap[b]? = w.heap[b]? := fun l b hl hb => mixW_out w w' (hapR l b hl hb)
    have g2 := g.bump hsz2 hlab
    have hag2 : Ag (fun b => ¬ Wr0 h0 (fun i => ρ (renF ms L i)) b) (mixW w w' (WrF fs)) w' := ⟨q4.ag.os, q4.ag.tape, q4.ag.output, by rw [hsz2]; exact q4.ag.size, fun b hb hd => by
      rw [hsz2] at hb
      by_cases hw : WrF fs b
      · rw [mixW_in w w' hb (Nat.lt_of_lt_of_le hb q4.ag.size) hw]
      · rw [mixW_out w w' hw]
        exact q4.ag.block b hb ⟨hd, hw⟩⟩
    obtain ⟨ρ', hcomp, hval, hN⟩ := g2.calledR (val := val) (post := post) (s := s) (ρc := ρc) hlen hm' hin h3 hnd (hpost s) q1 q3 hag2 q5 q6 q7 (fun l b hl hv hb => by rw [hsz2]; exact q8 l b hl hv hb) q9
    refine ⟨_, q2, s, ρ', hG, hval.symm, ⟨hN.low, hN.same, hN.gam.strong fun y hy => ?_, fun l b hl hb hn => (hlab l b hl hb).symm.trans (hN.old l b hl hb hn)⟩⟩
    -- where labels that may be written lie behind the call
    have hbeh : ∀ l b, wrA l (renH (renF ms L) (post s) ++ (goneL h0 ms ++ h)) → ρ' l = some b → (∃ i, wrA i (post s) ∧ ρc i = some b) ∨ (l ∉ (goneL h0 ms).map (·.1) ∧ wrA l h ∧ ρ l = some b) := fun l b ⟨o, ho, hro⟩ hb => by
      rcases hk_behind (hnd s) ho with ⟨i, oi, e1, rfl, rfl⟩ | ⟨e1, e2⟩
      · rw [ren_isRo] at hro
        exact .inl ⟨i, ⟨oi, e1, hro⟩, by rw [← hcomp i (q5 i oi e1).1]; exact hb⟩
      · exact .inr ⟨e1, ⟨o, e2, hro⟩, by rw [← hN.same l (g.hp l o e2).1]; exact hb⟩
    -- a label of the call lies in a new block, or in one of the caller's
    have hcl : ∀ i b, wrA i (post s) → ρc i = some b → w.heap.size ≤ b ∨ ∃ l, wrA l h ∧ ρ l = some b := fun i b hi hb => by
      obtain ⟨o, e1, e2⟩ := hi
      rcases Nat.lt_or_ge i h0.length with e3 | e3
      · obtain ⟨o0, e4, e5⟩ := q9 i o e3 e1 e2
        obtain ⟨l2, e6, e7, _⟩ := hcw b ⟨i, o0, e4, e5, by rw [← q1 i e3]; exact hb⟩
        exact .inr ⟨l2, e6, e7⟩
      · rcases q8 i b e3 (by rw [e1]; simp) hb with e4 | e4
        · exact .inl e4
        · obtain ⟨l2, e6, e7, _⟩ := hcw b e4
          exact .inr ⟨l2, e6, e7⟩
    have hold : ∀ b, b < w.heap.size → ¬ Wr0 h0 (fun i => ρ (renF ms L i)) b → ¬ WrF fs b → w'.heap[b]? = w.heap[b]? := fun b hb h5 h6 => q4.ag.block b hb ⟨h5, h6⟩
    have hnl : ∀ p ∈ fs' s ++ fr, ∀ l, wrA l (renH (renF ms L) (post s) ++ (goneL h0 ms ++ h)) → ρ' l ≠ some p.b := fun p hp l hl hb => by
      rcases hbeh l _ hl hb with ⟨i, e1, e2⟩ | ⟨e1, e2, e3⟩
      · rcases List.mem_append.1 hp with hp | hp
        · exact q10 i _ e1 e2 ⟨p, hp, rfl⟩
        · have hlt := hff.lt (hfrR p hp)
          rcases hcl i _ e1 e2 with e3 | ⟨l2, e3, e4⟩
          · omega
          · exact g.apF (hfrR p hp) e3 e4
      · rcases List.mem_append.1 hp with hp | hp
        · rcases q4.bl p hp with e4 | e4 | ⟨q, e4, e5⟩
          · have := g.lt e2.live e3; omega
          · obtain ⟨l2, e5, e6, e7⟩ := hcw _ e4
            exact e1 (g.dis l l2 _ e2 e5.live e3 e6 ▸ e7)
          · exact g.apF (hfsL q e4) e2 (by rw [e5]; exact e3)
        · exact g.apF (hfrR p hp) e2 e3
    have hyb : ∀ b, b < w'.heap.size → (∀ l, wrA l (renH (renF ms L) (post s) ++ (goneL h0 ms ++ h)) → ρ' l ≠ some b) → y.heap[b]? = w'.heap[b]? := fun b hb hd => hy.block b hb hd
    have hfrw : ∀ p ∈ fr, w'.heap[p.b]? = w.heap[p.b]? := fun p hp => hold _ (hff.lt (hfrR p hp)) (fun hw => by
      obtain ⟨l2, e5, e6, e7⟩ := hcw _ hw
      exact g.apF (hfrR p hp) e5 e6) (fun ⟨q, e4, e5, e6⟩ => by
      have := (hap3.2.2 q e4 p hp e6).1
      rw [this] at e5; cases e5)
    refine ⟨fun p hp => ?_, ?_, ?_, fun p hp hrw => ?_, fun p hp => ?_, hff.pre⟩
    · rcases List.mem_append.1 hp with hp' | hp'
      · rw [hyb p.b (q4.lt hp') (hnl p hp)]; exact q4.at_ p hp'
      · rw [hyb p.b (Nat.lt_of_lt_of_le (hff.lt (hfrR p hp')) q4.ag.size) (hnl p hp), hfrw p hp']
        exact hff.at_ p (hfrR p hp')
    · refine ⟨hy.os.trans (q4.ag.os.trans hff.ag.os), hy.tape.trans (q4.ag.tape.trans hff.ag.tape), hy.output.trans (q4.ag.output.trans hff.ag.output), Nat.le_trans hff.ag.size (Nat.le_trans q4.ag.size hy.size), fun b hb hd => ?_⟩
      have hbw : b < w.heap.size := Nat.lt_of_lt_of_le hb hff.ag.size
      have key : ∀ l, wrA l h → ρ l ≠ some b := fun l hl e => by
        rcases g.freF hl e with e1 | e1 | e1
        · omega
        · exact hd.1 e1
        · exact hd.2 e1
      have n1 : ¬ Wr0 h0 (fun i => ρ (renF ms L i)) b := fun hw => by
        obtain ⟨l2, e5, e6, _⟩ := hcw _ hw
        exact key l2 e5 e6
      have n2 : ¬ WrF fs b := fun ⟨q, e4, e5, e6⟩ => by
        subst e6
        rcases hff.fre q (hfsL q e4) e5 with e1 | e1 | e1
        · omega
        · exact hd.1 e1
        · exact hd.2 e1
      rw [hyb b (Nat.lt_of_lt_of_le hbw q4.ag.size) fun l hl e => ?_, hold b hbw n1 n2, hff.ag.block b hb hd]
      rcases hbeh l b hl e with ⟨i, e1, e2⟩ | ⟨e1, e2, e3⟩
      · rcases hcl i b e1 e2 with e3 | ⟨l2, e3, e4⟩
        · omega
        · exact key l2 e3 e4
      · exact key l e2 e3
    · unfold ApF
      rw [List.pairwise_append]
      refine ⟨q4.ap, hap3.2.1, fun p hp q hq e => ?_⟩
      have hqlt := hff.lt (hfrR q hq)
      have hqw : ¬ Wr0 h0 (fun i => ρ (renF ms L i)) q.b := fun hw => by
        obtain ⟨l2, e5, e6, _⟩ := hcw _ hw
        exact g.apF (hfrR q hq) e5 e6
      have hqf : ∀ r ∈ fs, r.b = q.b → r.rw = false ∧ q.rw = false := fun r hr e => hap3.2.2 r hr q hq e
      constructor
      · cases hrw : p.rw with
        | false => rfl
        | true =>
          rcases q4.fre p hp hrw with e1 | e1 | ⟨r, e2, e3, e4⟩
          · omega
          · exact absurd (e ▸ e1) hqw
          · have := (hqf r e2 (e4.trans e)).1
            rw [this] at e3; cases e3
      · rcases q4.bl p hp with e1 | e1 | ⟨r, e2, e4⟩
        · omega
        · exact absurd (e ▸ e1) hqw
        · exact (hqf r e2 (e4.trans e)).2
    · rcases List.mem_append.1 hp with hp' | hp'
      · rcases q4.fre p hp' hrw with e1 | e1 | ⟨r, e2, e3, e4⟩
        · exact .inl (Nat.le_trans hff.ag.size e1)
        · obtain ⟨l2, e5, e6, _⟩ := hcw _ e1
          exact g.freF e5 e6
        · rw [← e4]; exact hff.fre r (hfsL r e2) e3
      · exact hff.fre p (hfrR p hp') hrw
    · rcases List.mem_append.1 hp with hp' | hp'
      · rcases q4.bl p hp' with e1 | e1 | ⟨r, e2, e4⟩
        · exact .inl (Nat.le_trans hff.ag.size e1)
        · obtain ⟨l2, e5, e6, _⟩ := hcw _ e1
          exact (g.freF e5 e6).imp id (Or.imp id WrF.bl)
        · rw [← e4]; exact hff.bl r (hfsL r e2)
      · exact hff.bl p (hfrR p hp')
  · obtain ⟨o', h5, h6, _⟩ := hget i o ho
    have he := g.dis _ _ b ⟨o', h5, h6 hro⟩ (rlive j hj).1 hbi hbj
    have hi : i < h0.length := (List.getElem?_eq_some_iff.1 ho).1
    have h9 := List.all_eq_true.1 h3 i (List.mem_range.2 hi)
    rw [ho] at h9
    simp only [hro, Bool.false_or] at h9
    have h10 := List.all_eq_true.1 h9 j (List.mem_range.2 hj)
    simp only [Bool.or_eq_true, Bool.not_eq_true'] at h10
    rcases h10 with h10 | h10
    · exact Nat.eq_of_beq_eq_true h10
    · exfalso
      have e1 : ∀ x, x < h0.length → renF ms L x = ms.getD x 0 := fun x hx => by
        have hx' : x < ms.length := by omega
        unfold renF
        rw [List.getD_eq_getElem?_getD, List.getElem?_eq_getElem hx']; rfl
      rw [← e1 i hi, ← e1 j hj, he, Nat.beq_refl] at h10; cases h10
  · obtain ⟨l, e5, e6, _⟩ := hcw b hw
    exact g.apF (hfsL p hp) e5 (by rw [he]; exact e6)
end
end Go.Proofs.Yteabncomclgncaa
namespace Go.Proofs.Yteabncomclgncaa
set_option linter.unusedVariables false
set_option linter.unusedSimpArgs false
set_option linter.unusedSectionVars false
open Go.RowKit
section
variable {P : Program} {ops : Array Oper} {Q : Exit → Act → World → Prop} {D : Option DD} {E : Base} {n L : Nat} {τ : List (Nat × AV)} {h : List (Nat × AO)} {F : World → Prop} {rest : List Oper}
/-- a state told anew, in a region that draws too -/
theorem R.renew {α : Type} (L' : Nat) (τ' : α → List (Nat × AV)) (h' : α → List (Nat × AO)) (F' : α → World → Prop) (I : α → Prop) (hL : L ≤ L') (hg : ∀ ρ a w, Gam E ρ n L τ h F a w → ∃ x ρ', I x ∧ (∀ l, l < L → ρ' l = ρ l) ∧ Gam E ρ' n L' (τ' x) (h' x) (F' x) a w)
    (k : ∀ x, I x → R P ops Q D E n L' (τ' x) (h' x) (F' x) rest) : R P ops Q D E n L τ h F rest := ⟨by
  cases D with
  | none =>
    intro ρ a w g
    obtain ⟨x, ρ', hI, _, g'⟩ := hg ρ a w g
    exact (k x hI).out ρ' a w g'
  | some d =>
    intro hops hpl hwl ρ a w Ws g hs
    obtain ⟨x, ρ', hI, he, g'⟩ := hg ρ a w g
    have h1 := (k x hI).out hops (fun p hp => Nat.lt_of_lt_of_le (hpl p hp) hL) (fun p hp l hl => Nat.lt_of_lt_of_le (hwl p hp l hl) hL) ρ' a w Ws g' (hs.ext he hwl)
    have e : pendC ρ' d.pend = pendC ρ d.pend := pendC_ext he _ hpl
    rw [e] at h1
    exact h1⟩
variable {h0 : List AO} {ρ0 : Env} {w0 : World} {fs0 fs : Fam}
theorem R.wkD {F2 : World → Prop} (hF : ∀ w, F w → F2 w) (k : R P ops Q D E n L τ h F2 rest) : R P ops Q D E n L τ h F rest :=
  R.renew (α := Unit) L (fun _ => τ) (fun _ => h) (fun _ => F2) (fun _ => True) (Nat.le_refl L) (fun ρ a w g => ⟨(), ρ, trivial, fun _ _ => rfl, g.strong fun w' hw => hF _ (g.fr w' hw)⟩) (fun _ _ => k)
/-- a label's block becomes a fact -/
theorem R.frz (rw' : Bool) (t l : Nat) {o o' : AO} {v : AV} (v' : Nat → Value) (hl : hk l h = some o) (hro : o.isRo = false) (hv : lk t τ = some v) (hc : ∀ (ρ : Env) b, ρ l = some b → v.conc ρ = v' b) (ho : ∀ (ρ : Env) b ob w, ρ l = some b → w.heap[b]? = some ob → o.holds ρ (some b) w → Is b ob o')
    (hsome : ∀ (ρ : Env) w, o.holds ρ (ρ l) w → ρ l ≠ none)
    (k : ∀ b ob, Is b ob o' → (∀ p ∈ fs, p.b ≠ b) → R P ops Q none E n L ((t, .raw (v' b)) :: τ) ((l, .gone) :: h) (FF h0 ρ0 w0 fs0 (⟨rw', b, ob⟩ :: fs)) rest) : R P ops Q none E n L τ h (FF h0 ρ0 w0 fs0 fs) rest :=
  R.again L (fun x : Nat × Obj => (t, .raw (v' x.1)) :: τ) (fun _ => (l, .gone) :: h) (fun x => FF h0 ρ0 w0 fs0 (⟨rw', x.1, x.2⟩ :: fs)) (fun x => Is x.1 x.2 o' ∧ ∀ p ∈ fs, p.b ≠ x.1)
    (fun ρ a w g => g.frz rw' t l v' hl hro hv (hsome ρ w (g.hp l o hl).2.2) hc (ho ρ)) (fun x hx => k x.1 x.2 hx.1 hx.2)
theorem Is.ro {b : Nat} {ob : Obj} {p : List UInt8} {c : Nat} {T : TypeId} (h : Is b ob (.bytes p c T)) : Is b ob (.ro 1 0 p.length (bytesF p)) := fun ρ w hw => by
  have := h ρ w hw
  exact bytes_ro this
variable {d : Nat} {ty : TypeId} {ps : String} {af : Array Edge} {gd : Option (Nat × Bool)} {H0 : List AO} {R0 : Env} {W0 : World} {FS0 : Fam}
theorem apf_ro {fs : Fam} (h : ∀ p ∈ fs, p.rw = false) : ApF fs := List.Pairwise.imp_of_mem (R := fun _ _ => True) (fun hp hq _ _ => ⟨h _ hp, h _ hq⟩) (List.pairwise_of_forall fun _ _ => trivial)
end
end Go.Proofs.Yteabncomclgncaa
namespace Go.Proofs.Yteabncomclgncaa
set_option linter.unusedVariables false
set_option linter.unusedSimpArgs false
set_option linter.unusedSectionVars false
open Go.RowKit
section
variable {E : Base} {ρ : Env} {n L : Nat} {τ : List (Nat × AV)} {h : List (Nat × AO)} {F : World → Prop} {a : Act} {w : World} {H0 : List AO} {R0 : Env} {W0 : World} {FS0 fs : Fam}
theorem Gam.unpin {E1 : Base} (g : Gam E1 ρ n L τ h F a w) (hN : E.N ≤ E1.N) (he : ∀ l, l < E.N → E1.ρ l = E.ρ l) (hd : E1.df = E.df := by rfl) : Gam E ρ n L τ h F a w :=
  ⟨g.df.trans hd, g.sz, g.tm, g.hp, g.dis, g.fr, fun l hl => (g.ex l (Nat.lt_of_lt_of_le hl hN)).trans (he l hl), Nat.le_trans hN g.le, g.al⟩
/-- a slot holds a block that has a label whose address is known -/
theorem Gam.name (g : Gam E ρ n L τ h F a w) (t : Nat) {v : Value} (v' : AV) (hv : lk t τ = some (.raw v)) (hc : ∀ ρ : Env, (∀ l, l < E.N → ρ l = E.ρ l) → v'.conc ρ = v) (hb : v'.bd L = true) : Gam E ρ n L ((t, v') :: τ) h F a w :=
  ⟨g.df, g.sz, fun s u hu => by
    rw [lk_cons] at hu
    split at hu
    · rename_i e
      subst e
      cases hu
      exact ⟨bdLow hb _, by rw [(g.tm t _ hv).2, hc ρ g.ex]; rfl⟩
    · exact g.tm s u hu, g.hp, g.dis, g.fr, g.ex, g.le, g.al⟩
/-- a label whose address is known becomes a fact -/
theorem Gam.frzP (g : Gam E ρ n L τ h (FF H0 R0 W0 FS0 fs) a w) (rw' : Bool) (l : Nat) {b : Nat} {o o' : AO} (hl : hk l h = some o) (hro : o.isRo = false) (hlN : l < E.N) (hb : E.ρ l = some b)
    (ho : ∀ ob w, w.heap[b]? = some ob → o.holds ρ (some b) w → Is b ob o') :
    ∃ ob, (Is b ob o' ∧ (∀ p ∈ fs, p.b ≠ b)) ∧ Gam E ρ n L τ ((l, .gone) :: h) (FF H0 R0 W0 FS0 (⟨rw', b, ob⟩ :: fs)) a w := by
  have hb : ρ l = some b := (g.ex l hlN).trans hb
  have hw : wrA l h := ⟨o, hl, hro⟩
  have hlt := g.lt hw.live hb
  have hob : w.heap[b]? = some w.heap[b] := Array.getElem?_eq_getElem hlt
  have hh := g.hp l o hl
  rw [hb] at hh
  have hap : ∀ p ∈ fs, p.b ≠ b := fun p hp e => g.apF hp hw (by rw [hb, e])
  have hwr : ∀ l', wrA l' ((l, .gone) :: h) → l' ≠ l ∧ wrA l' h := fun l' ⟨o1, h1, h2⟩ => by
    rw [hk_cons] at h1
    split at h1
    · cases h1
    · rename_i e; exact ⟨fun e2 => e e2.symm, o1, h1, h2⟩
  refine ⟨w.heap[b], ⟨ho _ w hob hh.2.2, hap⟩, ⟨g.df, g.sz, g.tm, fun l' o1 hl' => ?_, fun l1 l2 b1 h1 h2 h3 h4 => ?_, fun w' hw' => ?_, g.ex, g.le, g.al⟩⟩
  · rw [hk_cons] at hl'
    split at hl'
    · cases hl'
    · exact g.hp l' o1 hl'
  · refine g.dis l1 l2 b1 (hwr l1 h1).2 ?_ h3 h4
    rw [hk_cons] at h2
    split at h2
    · exact absurd rfl h2
    · exact h2
  · have hsz : b < w'.heap.size := Nat.lt_of_lt_of_le hlt hw'.size
    have hb' : w'.heap[b]? = w.heap[b]? := hw'.block b hlt fun l' hl' e => (hwr l' hl').1 (g.dis l' l b (hwr l' hl').2 hw.live e hb)
    have hall := g.fr w' (hw'.mono fun b2 hb2 hd l' hl' e => hd l' (hwr l' hl').2 e)
    refine ⟨fun p hp => ?_, hall.ag, ?_, fun p hp hrw => ?_, fun p hp => ?_, hall.pre⟩
    · rcases List.mem_cons.1 hp with rfl | hp
      · exact hb'.trans hob
      · exact hall.at_ p hp
    · unfold ApF
      rw [List.pairwise_cons]
      exact ⟨fun q hq e => absurd e.symm (hap q hq), hall.ap⟩
    · rcases List.mem_cons.1 hp with rfl | hp
      · exact g.freF hw hb
      · exact hall.fre p hp hrw
    · rcases List.mem_cons.1 hp with rfl | hp
      · exact (g.freF hw hb).imp id (Or.imp id WrF.bl)
      · exact hall.bl p hp
/-- every label that is only read is one of the call's own, which its contract tells as only read -/
def roH (H0 : List AO) (h : List (Nat × AO)) : Bool := h.all fun p => !p.2.isRo || (match H0[p.1]? with | some o => o.isRo | none => false)
theorem roH_get {H0 : List AO} {h : List (Nat × AO)} (hr : roH H0 h = true) {l : Nat} {o : AO} (hl : hk l h = some o) (ho : o.isRo = true) : ∃ o0, H0[l]? = some o0 ∧ o0.isRo = true := by
  have := List.all_eq_true.1 hr _ (lk_mem (hk_lk hl))
  simp only [ho, Bool.not_true, Bool.false_or] at this
  split at this
  · rename_i o0 h0; exact ⟨o0, h0, this⟩
  · cases this
/-- a writable fact becomes a label, of which the address is known -/
theorem Gam.thawP (g : Gam E ρ n L τ h (FF H0 R0 W0 FS0 fs) a w) (hN : H0.length ≤ E.N) (hE : ∀ l, l < H0.length → E.ρ l = R0 l) (hrob : roH H0 h = true) {p : Fact} {fs2 : Fam} (hp : p ∈ fs) (hrw : p.rw = true) (h2 : ∀ q ∈ fs2, q ∈ fs ∧ q.b ≠ p.b) (ha2 : ApF fs2) {o : AO}
    (hro : o.isRo = false) (ho : Is p.b p.ob o) (hlow : o.Bd 0) :
    Gam ⟨L + 1, updE ρ L (some p.b), E.df⟩ (updE ρ L (some p.b)) n (L + 1) τ ((L, o) :: h) (FF H0 R0 W0 FS0 fs2) a w := by
  have hs : ∀ l, l < L → updE ρ L (some p.b) l = ρ l := fun l hl => updE_ne ρ _ (by omega)
  have hff := g.ff
  have hlive : ∀ l b, hk l h ≠ none → ρ l = some b → b ≠ p.b := fun l b hl hlb e => by
    subst e
    cases hx : hk l h with
    | none => exact hl hx
    | some o1 =>
      cases hro1 : o1.isRo with
      | false => exact g.apF hp ⟨o1, hx, hro1⟩ hlb
      | true =>
        obtain ⟨o0, h3, h4⟩ := roH_get hrob hx hro1
        have hlN : l < H0.length := (List.getElem?_eq_some_iff.1 h3).1
        have : ρ l = R0 l := by rw [g.ex l (by omega), hE l hlN]
        exact hff.inn h3 h4 (this ▸ hlb) ⟨p, hp, hrw, rfl⟩
  have hwr : ∀ l, L ≠ l → wrA l ((L, o) :: h) → wrA l h := fun l e ⟨o1, h1, h3⟩ => by
    rw [hk_cons, if_neg e] at h1
    exact ⟨o1, h1, h3⟩
  have hkL : ∀ l, L ≠ l → hk l ((L, o) :: h) = hk l h := fun l e => by rw [hk_cons, if_neg e]
  have hLL : ∀ l, hk l h ≠ none → l < L := fun l hl => by
    cases hx : hk l h with
    | none => exact absurd hx hl
    | some o1 => exact (g.hp l o1 hx).1
  refine ⟨g.df, g.sz, fun s u hu => ?_, fun l o1 hl => ?_, fun l1 l2 b1 h1 h3 h4 h5 => ?_, fun w' hw' => ?_, fun _ _ => rfl, Nat.le_refl _, fun l b hl hlb => ?_⟩
  · have := g.tm s u hu
    exact ⟨(this.1.ext hs).mono (Nat.le_succ L), by rw [this.2, this.1 _ hs]⟩
  · rw [hk_cons] at hl
    split at hl
    · rename_i e
      subst e
      rw [updE_same]
      have e2 : o1 = o := by cases o <;> simp at hl <;> exact hl.symm
      subst e2
      exact ⟨Nat.lt_succ_self _, (hlow.low _).mono (Nat.zero_le _), ho _ w (hff.at_ p hp)⟩
    · have hh := g.hp l o1 hl
      refine ⟨Nat.lt_succ_of_lt hh.1, (hh.2.1.ext hs).mono (Nat.le_succ L), ?_⟩
      rw [hs l hh.1]
      exact (hh.2.1 _ hs _ _).1 hh.2.2
  · by_cases e1 : L = l1 <;> by_cases e2 : L = l2
    · omega
    · rw [hkL l2 e2] at h3
      rw [← e1, updE_same] at h4
      rw [hs l2 (hLL l2 h3)] at h5
      cases h4
      exact absurd rfl (hlive l2 _ h3 h5)
    · have h1' := hwr l1 e1 h1
      rw [← e2, updE_same] at h5
      rw [hs l1 (hLL l1 h1'.live)] at h4
      cases h5
      exact absurd rfl (hlive l1 _ h1'.live h4)
    · have h1' := hwr l1 e1 h1
      rw [hkL l2 e2] at h3
      rw [hs l1 (hLL l1 h1'.live)] at h4
      rw [hs l2 (hLL l2 h3)] at h5
      exact g.dis l1 l2 b1 h1' h3 h4 h5
  · have hlt := hff.lt hp
    obtain ⟨w2, hw2⟩ : ∃ w2, w2 = putB w' p.b p.ob := ⟨_, rfl⟩
    have hsz : p.b < w'.heap.size := Nat.lt_of_lt_of_le hlt hw'.size
    have hag : Ag (fun b => ∀ l, wrA l h → ρ l ≠ some b) w w2 := by
      subst hw2
      refine ⟨hw'.os, hw'.tape, hw'.output, by simpa [putB] using hw'.size, fun b hb1 hd => ?_⟩
      by_cases e : b = p.b
      · subst e
        rw [putB_same _ _ hsz, hff.at_ p hp]
      · rw [putB_ne _ _ e]
        refine hw'.block b hb1 fun l hl hlb => ?_
        by_cases e1 : L = l
        · rw [← e1, updE_same] at hlb
          cases hlb
          exact e rfl
        · have h1' := hwr l e1 hl
          rw [hs l (hLL l h1'.live)] at hlb
          exact hd l h1' hlb
    have hall := g.fr w2 hag
    subst hw2
    refine ⟨fun q hq => ?_, ⟨hall.ag.os, hall.ag.tape, hall.ag.output, by simpa [putB] using hall.ag.size, fun b hb1 hd => ?_⟩, ha2, fun q hq => hall.fre q (h2 q hq).1, fun q hq => hall.bl q (h2 q hq).1, hall.pre⟩
    · have := hall.at_ q (h2 q hq).1
      rwa [putB_ne _ _ (h2 q hq).2] at this
    · have h6 := hall.ag.block b hb1 hd
      rwa [putB_ne] at h6
      intro e
      subst e
      rcases hall.fre p hp hrw with h7 | h7 | h7
      · omega
      · exact hd.1 h7
      · exact hd.2 h7
  · rcases Nat.lt_or_ge l L with h1 | h1
    · exact g.al l b h1 ((hs l h1).symm.trans hlb)
    · obtain rfl : l = L := by omega
      rw [updE_same] at hlb
      cases hlb
      exact hff.lt hp
end
section
variable {P : Program} {ops : Array Oper} {Q : Exit → Act → World → Prop} {D : Option DD} {E : Base} {n L : Nat} {τ : List (Nat × AV)} {h : List (Nat × AO)} {F : World → Prop} {rest : List Oper} {H0 : List AO} {R0 : Env} {W0 : World} {FS0 fs : Fam}
theorem C.unpin {c : Code} {E1 : Base} (hN : E.N ≤ E1.N) (he : ∀ l, l < E.N → E1.ρ l = E.ρ l) (k : C P c Q E n L τ h F) (hd : E1.df = E.df := by rfl) : C P c Q E1 n L τ h F := ⟨fun ρ a w g => k.out ρ a w (g.unpin hN he hd)⟩
theorem X.unpin {e : Exit} {E1 : Base} (hN : E.N ≤ E1.N) (he : ∀ l, l < E.N → E1.ρ l = E.ρ l) (k : X Q e E n L τ h F) (hd : E1.df = E.df := by rfl) : X Q e E1 n L τ h F := ⟨fun ρ a w g => k.out ρ a w (g.unpin hN he hd)⟩
theorem R.unpin {E1 : Base} (hN : E.N ≤ E1.N) (he : ∀ l, l < E.N → E1.ρ l = E.ρ l) (k : R P ops Q none E n L τ h F rest) (hd : E1.df = E.df := by rfl) : R P ops Q none E1 n L τ h F rest := ⟨fun ρ a w g => k.out ρ a w (g.unpin hN he hd)⟩
/-- a writable fact gets a label, whose address is known from here on -/
theorem C.thaw {c : Code} (hN : H0.length ≤ E.N) (hE : ∀ l, l < H0.length → E.ρ l = R0 l) (hrob : roH H0 h = true) (p : Fact) (fs2 : Fam) (hp : p ∈ fs) (hrw : p.rw = true) (h2 : ∀ q ∈ fs2, q ∈ fs ∧ q.b ≠ p.b) (ha2 : ApF fs2) (o : AO) (hro : o.isRo = false) (ho : Is p.b p.ob o) (hlow : o.Bd 0) (hEL : E.N ≤ L)
    (k : ∀ ρ1 : Env, (∀ l, l < E.N → ρ1 l = E.ρ l) → ρ1 L = some p.b → C P c Q ⟨L + 1, ρ1, E.df⟩ n (L + 1) τ ((L, o) :: h) (FF H0 R0 W0 FS0 fs2)) : C P c Q E n L τ h (FF H0 R0 W0 FS0 fs) :=
  ⟨fun ρ a w g => (k (updE ρ L (some p.b)) (fun l hl => (updE_ne ρ _ (by omega)).trans (g.ex l hl)) (updE_same _ _ _)).out _ a w (g.thawP hN hE hrob hp hrw h2 ha2 hro ho hlow)⟩
/-- such a label becomes a fact again -/
theorem C.frzP {c : Code} (rw' : Bool) (l : Nat) {b : Nat} {o o' : AO} (hl : hk l h = some o) (hro : o.isRo = false) (hlN : l < E.N) (hb : E.ρ l = some b) (ho : ∀ (ρ : Env) ob w, w.heap[b]? = some ob → o.holds ρ (some b) w → Is b ob o')
    (k : ∀ ob, Is b ob o' → (∀ p ∈ fs, p.b ≠ b) → C P c Q E n L τ ((l, .gone) :: h) (FF H0 R0 W0 FS0 (⟨rw', b, ob⟩ :: fs))) : C P c Q E n L τ h (FF H0 R0 W0 FS0 fs) := ⟨fun ρ a w g => by
  obtain ⟨ob, h1, g'⟩ := g.frzP rw' l hl hro hlN hb (ho ρ)
  exact (k ob h1.1 h1.2).out ρ a w g'⟩
theorem X.frzP {e : Exit} (rw' : Bool) (l : Nat) {b : Nat} {o o' : AO} (hl : hk l h = some o) (hro : o.isRo = false) (hlN : l < E.N) (hb : E.ρ l = some b) (ho : ∀ (ρ : Env) ob w, w.heap[b]? = some ob → o.holds ρ (some b) w → Is b ob o')
    (k : ∀ ob, Is b ob o' → (∀ p ∈ fs, p.b ≠ b) → X Q e E n L τ ((l, .gone) :: h) (FF H0 R0 W0 FS0 (⟨rw', b, ob⟩ :: fs))) : X Q e E n L τ h (FF H0 R0 W0 FS0 fs) := ⟨fun ρ a w g => by
  obtain ⟨ob, h1, g'⟩ := g.frzP rw' l hl hro hlN hb (ho ρ)
  exact (k ob h1.1 h1.2).out ρ a w g'⟩
/-- a slot's raw address, told by the label that bears it -/
theorem R.name (t : Nat) {v : Value} (v' : AV) (hv : lk t τ = some (.raw v)) (hc : ∀ ρ : Env, (∀ l, l < E.N → ρ l = E.ρ l) → v'.conc ρ = v) (hb : v'.bd L = true) (k : R P ops Q D E n L ((t, v') :: τ) h F rest) : R P ops Q D E n L τ h F rest :=
  R.renew (α := Unit) L (fun _ => (t, v') :: τ) (fun _ => h) (fun _ => F) (fun _ => True) (Nat.le_refl L) (fun ρ a w g => ⟨(), ρ, trivial, fun _ _ => rfl, g.name t v' hv hc hb⟩) (fun _ _ => k)
variable {d : Nat} {ty : TypeId} {ps : String} {af : Array Edge} {gd : Option (Nat × Bool)}
/-- a call by a contract that speaks of facts: all that are told -/
theorem R.clF {σ : Type} {G : σ → Prop} {val : σ → AV} {post : σ → List (Nat × AO)} {f : FuncId} {x : Operand} {cs : List AV} {xs : Array Operand} {ats : Array TypeId} {avs : List AV} {h1 : List AO} {m : Nat} {fs' : σ → Fam} (ms : List Nat) (sp : SpecF P f avs h1 m fs G val post fs') (hN : H0.length ≤ E.N) (hE : ∀ l, l < H0.length → E.ρ l = R0 l) (eg : ∀ args w, (callFunc f args).run P w = .ok (.enter f args) w)
    (hin : HasIn (renF ms L) h 0 h1) (hf : evA τ x = some (.fn f cs)) {l : List AV} (hxs : evList (evA τ) xs.toList = some l) (hx : l ++ cs = AV.rens (renF ms L) avs) (hP : ∀ s, (bdB m (post s) && nodupB (((post s).map (·.1)).map (renF ms L))) = true)
    (hg : wantA ops ⟨some d, .call { callee := .value x, args := xs, argTypes := ats }, ty, ps, af, gd⟩ τ = some true) (hb : (Nat.ble (d + 1) n && Nat.beq h1.length ms.length && onceB h1 ms && chainB h D ((goneL h1 ms).map (·.1)) && Nat.ble h1.length m && roH H0 h) = true)
    (k : ∀ s, G s → R P ops Q (actD h D ((goneL h1 ms).map (·.1))) E n (L + (m - h1.length)) ((d, (val s).ren (renF ms L)) :: τ) (renH (renF ms L) (post s) ++ (goneL h1 ms ++ h)) (FF H0 R0 W0 FS0 (fs' s)) rest) :
    R P ops Q D E n L τ h (FF H0 R0 W0 FS0 fs) (⟨some d, .call { callee := .value x, args := xs, argTypes := ats }, ty, ps, af, gd⟩ :: rest) := by
  rw [Bool.and_eq_true, Bool.and_eq_true] at hb
  obtain ⟨⟨hb1, hb2⟩, hrob⟩ := hb
  simp only [Bool.and_eq_true] at hP
  have e : FF H0 R0 W0 FS0 fs = FF H0 R0 W0 FS0 (fs ++ []) := by rw [List.append_nil]
  rw [e]
  refine R.cfG [] ms sp eg (fun ρ a w g l b hl hb hw => ?_) hf hxs hx hin hb2 (fun s => bdB_lt (hP s).1) (fun s => (hP s).2) hg hb1 (fun s hs => ?_)
  · rw [List.append_nil] at g
    cases hx : hk l h with
    | none => exact hl hx
    | some o =>
      cases hro : o.isRo with
      | false =>
        obtain ⟨p, hp, _, he⟩ := hw
        exact g.apF hp ⟨o, hx, hro⟩ (by rw [he]; exact hb)
      | true =>
        obtain ⟨o0, h3, h4⟩ := roH_get hrob hx hro
        have hlN : l < H0.length := (List.getElem?_eq_some_iff.1 h3).1
        have : ρ l = R0 l := by rw [g.ex l (by omega), hE l hlN]
        exact g.ff.inn h3 h4 (this ▸ hb) hw
  · rw [List.append_nil]
    exact k s hs
end
end Go.Proofs.Yteabncomclgncaa
namespace Go.Proofs.Yteabncomclgncaa
set_option linter.unusedVariables false
set_option linter.unusedSimpArgs false
set_option linter.unusedSectionVars false
open Go.RowKit
theorem apf_perm {a b : Fam} (hp : a.Perm b) (h : ApF a) : ApF b := (List.Perm.pairwise_iff (fun {x y} h e => (h e.symm).symm) hp).1 h
/-- facts on a list's block, if it has one -/
def optF (rw' : Bool) (a : Option Nat) (ob : Obj) : Fam := match a with
  | none => []
  | some b => [⟨rw', b, ob⟩]
section
variable {E : Base} {ρ : Env} {n L : Nat} {τ : List (Nat × AV)} {h : List (Nat × AO)} {F : World → Prop} {a : Act} {w : World} {h0 : List AO} {ρ0 : Env} {w0 : World} {fs0 fs : Fam}
theorem FF.perm (hf : FF h0 ρ0 w0 fs0 fs w) {fs2 : Fam} (hp : fs.Perm fs2) : FF h0 ρ0 w0 fs0 fs2 w := hf.less (fun p h => hp.symm.subset h) (apf_perm hp hf.ap)
/-- a slot's value told in another way -/
theorem Gam.retell (g : Gam E ρ n L τ h F a w) (t : Nat) {v v' : AV} (hv : lk t τ = some v) (hc : v'.conc ρ = v.conc ρ) (hb : v'.bd L = true) : Gam E ρ n L ((t, v') :: τ) h F a w :=
  ⟨g.df, g.sz, fun s u hu => by
    rw [lk_cons] at hu
    split at hu
    · rename_i e
      subst e
      cases hu
      exact ⟨bdLow hb _, by rw [(g.tm t _ hv).2, hc]⟩
    · exact g.tm s u hu, g.hp, g.dis, g.fr, g.ex, g.le, g.al⟩
/-- labels forgotten -/
theorem Gam.drop (g : Gam E ρ n L τ h F a w) {h2 : List (Nat × AO)} (hs : ∀ l o, hk l h2 = some o → hk l h = some o) : Gam E ρ n L τ h2 F a w := by
  have hw : ∀ l, wrA l h2 → wrA l h := fun l ⟨o, h1, h3⟩ => ⟨o, hs l o h1, h3⟩
  refine ⟨g.df, g.sz, g.tm, fun l o hl => g.hp l o (hs l o hl), fun l l' b h1 h3 h4 h5 => g.dis l l' b (hw l h1) ?_ h4 h5, fun w' hw' => g.fr w' (hw'.mono fun b _ hd l hl => hd l (hw l hl)), g.ex, g.le, g.al⟩
  cases hx : hk l' h2 with
  | none => exact absurd hx h3
  | some o => rw [hs l' o hx]; simp
theorem hk_dropped {l : Nat} {h : List (Nat × AO)} : ∀ l' o, hk l' ((l, .gone) :: h) = some o → hk l' h = some o := fun l' o ho => by
  rw [hk_cons] at ho
  split at ho
  · cases ho
  · exact ho
/-- a label that is only read, at a fact's block or at none -/
theorem Gam.lab0 (g : Gam E ρ n L τ h (FF h0 ρ0 w0 fs0 fs) a w) {x : Option Nat} {o : AO} (hro : o.isRo = true) (ho : o.holds (updE ρ L x) x w) (hx : ∀ b, x = some b → ∃ p ∈ fs, p.b = b) (hlow : o.Bd 0) :
    Gam E (updE ρ L x) n (L + 1) τ ((L, o) :: h) (FF h0 ρ0 w0 fs0 fs) a w := by
  have hs : ∀ l, l < L → updE ρ L x l = ρ l := fun l hl => updE_ne ρ _ (by omega)
  have hff := g.ff
  have hwr : ∀ l, wrA l ((L, o) :: h) → L ≠ l ∧ wrA l h := fun l ⟨o1, h1, h3⟩ => by
    rw [hk_cons] at h1
    split at h1
    · have e2 : o1 = o := by cases o <;> simp at h1 <;> exact h1.symm
      subst e2
      rw [hro] at h3; cases h3
    · rename_i e; exact ⟨e, o1, h1, h3⟩
  have hLL : ∀ l, hk l h ≠ none → l < L := fun l hl => by
    cases hx : hk l h with
    | none => exact absurd hx hl
    | some o1 => exact (g.hp l o1 hx).1
  refine ⟨g.df, g.sz, fun s u hu => ?_, fun l o1 hl => ?_, fun l1 l2 b1 h1 h3 h4 h5 => ?_, fun w' hw' => ?_, fun l hl => ?_, Nat.le_trans g.le (Nat.le_succ L), fun l b hl hlb => ?_⟩
  · have := g.tm s u hu
    exact ⟨(this.1.ext hs).mono (Nat.le_succ L), by rw [this.2, this.1 _ hs]⟩
  · rw [hk_cons] at hl
    split at hl
    · rename_i e
      subst e
      rw [updE_same]
      have e2 : o1 = o := by cases o <;> simp at hl <;> exact hl.symm
      subst e2
      exact ⟨Nat.lt_succ_self _, (hlow.low _).mono (Nat.zero_le _), ho⟩
    · have hh := g.hp l o1 hl
      refine ⟨Nat.lt_succ_of_lt hh.1, (hh.2.1.ext hs).mono (Nat.le_succ L), ?_⟩
      rw [hs l hh.1]
      exact (hh.2.1 _ hs _ _).1 hh.2.2
  · obtain ⟨e1, h1'⟩ := hwr l1 h1
    rw [hs l1 (hLL l1 h1'.live)] at h4
    by_cases e2 : L = l2
    · rw [← e2, updE_same] at h5
      obtain ⟨p, hp, rfl⟩ := hx _ h5
      exact absurd h4 (g.apF hp h1')
    · rw [hk_cons, if_neg e2] at h3
      rw [hs l2 (hLL l2 h3)] at h5
      exact g.dis l1 l2 b1 h1' h3 h4 h5
  · refine g.fr w' (hw'.mono fun b _ hd l hl hlb => ?_)
    obtain ⟨e1, h1'⟩ := hwr l hl
    rw [hs l (hLL l h1'.live)] at hlb
    exact hd l h1' hlb
  · rw [hs l (Nat.lt_of_lt_of_le hl g.le)]; exact g.ex l hl
  · rcases Nat.lt_or_ge l L with h1 | h1
    · exact g.al l b h1 ((hs l h1).symm.trans hlb)
    · obtain rfl : l = L := by omega
      rw [updE_same] at hlb
      obtain ⟨p, hp, rfl⟩ := hx _ hlb
      exact hff.lt hp
/-- slot t speaks of a fact's block (or of none): it speaks of a label now, that is only read -/
theorem Gam.labO (g : Gam E ρ n L τ h (FF h0 ρ0 w0 fs0 fs) a w) (t : Nat) {x : Option Nat} {ob : Obj} {o : AO} {v : AV} (v' : AV) (hv : lk t τ = some v) (hp : ∀ p ∈ optF false x ob, ∃ q ∈ fs, q.b = p.b ∧ q.ob = p.ob) (hro : o.isRo = true) (hc : ∀ ρ : Env, ρ L = x → v'.conc ρ = v.conc ρ) (hb : v'.bd (L + 1) = true)
    (ho : ∀ b, x = some b → Is b ob o) (hn : x = none → ∀ (ρ : Env) W, o.holds ρ none W) (hlow : o.Bd 0) :
    Gam E (updE ρ L x) n (L + 1) ((t, v') :: τ) ((L, o) :: h) (FF h0 ρ0 w0 fs0 fs) a w := by
  refine (g.lab0 hro ?_ (fun b hb => ?_) hlow).retell t hv (hc _ (updE_same _ _ _)) hb
  · cases x with
    | none => exact hn rfl _ _
    | some b =>
      obtain ⟨q, hq, h1, h2⟩ := hp ⟨false, b, ob⟩ (by simp [optF])
      exact ho b rfl _ _ (by have := g.ff.at_ q hq; rw [h1, h2] at this; exact this)
  · subst hb
    obtain ⟨q, hq, h1, h2⟩ := hp ⟨false, b, ob⟩ (by simp [optF])
    exact ⟨q, hq, h1⟩
end
/-- every label that is only read (and not gone) is one of the call's own, which its contract tells as only read -/
def roL (H0 : List AO) (h : List (Nat × AO)) : Bool := h.all fun p => match hk p.1 h with
  | some o => !o.isRo || (match H0[p.1]? with | some o => o.isRo | none => false)
  | none => true
theorem roL_get {H0 : List AO} {h : List (Nat × AO)} (hr : roL H0 h = true) {l : Nat} {o : AO} (hl : hk l h = some o) (ho : o.isRo = true) : ∃ o0, H0[l]? = some o0 ∧ o0.isRo = true := by
  have := List.all_eq_true.1 hr _ (lk_mem (hk_lk hl))
  simp only [hl, ho, Bool.not_true, Bool.false_or] at this
  split at this
  · rename_i o0 h0; exact ⟨o0, h0, this⟩
  · cases this
section
variable {P : Program} {ops : Array Oper} {Q : Exit → Act → World → Prop} {D : Option DD} {E : Base} {n L : Nat} {τ : List (Nat × AV)} {h : List (Nat × AO)} {F : World → Prop} {rest : List Oper} {H0 : List AO} {R0 : Env} {W0 : World} {FS0 fs : Fam}
theorem C.labO {c : Code} (t : Nat) (x : Option Nat) (ob : Obj) (o : AO) {v : AV} (v' : AV) (hv : lk t τ = some v) (hp : ∀ p ∈ optF false x ob, ∃ q ∈ fs, q.b = p.b ∧ q.ob = p.ob) (hro : o.isRo = true) (hc : ∀ ρ : Env, ρ L = x → v'.conc ρ = v.conc ρ) (hb : v'.bd (L + 1) = true)
    (ho : ∀ b, x = some b → Is b ob o) (hn : x = none → ∀ (ρ : Env) W, o.holds ρ none W) (hlow : o.Bd 0)
    (k : C P c Q E n (L + 1) ((t, v') :: τ) ((L, o) :: h) (FF H0 R0 W0 FS0 fs)) : C P c Q E n L τ h (FF H0 R0 W0 FS0 fs) := ⟨fun ρ a w g => k.out _ a w (g.labO t v' hv hp hro hc hb ho hn hlow)⟩
theorem R.labO (t : Nat) (x : Option Nat) (ob : Obj) (o : AO) {v : AV} (v' : AV) (hv : lk t τ = some v) (hp : ∀ p ∈ optF false x ob, ∃ q ∈ fs, q.b = p.b ∧ q.ob = p.ob) (hro : o.isRo = true) (hc : ∀ ρ : Env, ρ L = x → v'.conc ρ = v.conc ρ) (hb : v'.bd (L + 1) = true)
    (ho : ∀ b, x = some b → Is b ob o) (hn : x = none → ∀ (ρ : Env) W, o.holds ρ none W) (hlow : o.Bd 0)
    (k : R P ops Q D E n (L + 1) ((t, v') :: τ) ((L, o) :: h) (FF H0 R0 W0 FS0 fs) rest) : R P ops Q D E n L τ h (FF H0 R0 W0 FS0 fs) rest :=
  R.renew (α := Unit) (L + 1) (fun _ => (t, v') :: τ) (fun _ => (L, o) :: h) (fun _ => FF H0 R0 W0 FS0 fs) (fun _ => True) (Nat.le_succ L) (fun ρ a w g => ⟨(), _, trivial, fun l hl => updE_ne ρ _ (by omega), g.labO t v' hv hp hro hc hb ho hn hlow⟩) (fun _ _ => k)
/-- facts in another order, fewer, or told twice -/
theorem C.fperm {c : Code} {fs2 : Fam} (hp : fs.Perm fs2) (k : C P c Q E n L τ h (FF H0 R0 W0 FS0 fs2)) : C P c Q E n L τ h (FF H0 R0 W0 FS0 fs) := C.wk (fun w hf => hf.perm hp) k
theorem X.fperm {e : Exit} {fs2 : Fam} (hp : fs.Perm fs2) (k : X Q e E n L τ h (FF H0 R0 W0 FS0 fs2)) : X Q e E n L τ h (FF H0 R0 W0 FS0 fs) := X.wk (fun w hf => hf.perm hp) k
theorem R.fperm {fs2 : Fam} (hp : fs.Perm fs2) (k : R P ops Q D E n L τ h (FF H0 R0 W0 FS0 fs2) rest) : R P ops Q D E n L τ h (FF H0 R0 W0 FS0 fs) rest := R.wkD (fun w hf => hf.perm hp) k
/-- a label forgotten -/
theorem R.drop (l : Nat) (k : R P ops Q none E n L τ ((l, .gone) :: h) F rest) : R P ops Q none E n L τ h F rest := ⟨fun ρ a w g => k.out ρ a w (g.drop hk_dropped)⟩
theorem C.drop {c : Code} (l : Nat) (k : C P c Q E n L τ ((l, .gone) :: h) F) : C P c Q E n L τ h F := ⟨fun ρ a w g => k.out ρ a w (g.drop hk_dropped)⟩
theorem X.drop {e : Exit} (l : Nat) (k : X Q e E n L τ ((l, .gone) :: h) F) : X Q e E n L τ h F := ⟨fun ρ a w g => k.out ρ a w (g.drop hk_dropped)⟩
variable {d : Nat} {ty : TypeId} {ps : String} {af : Array Edge} {gd : Option (Nat × Bool)}
/-- a call by a contract that speaks of facts, beside others -/
theorem R.clE {σ : Type} {G : σ → Prop} {val : σ → AV} {post : σ → List (Nat × AO)} {f : FuncId} {x : Operand} {cs : List AV} {xs : Array Operand} {ats : Array TypeId} {avs : List AV} {h1 : List AO} {m : Nat} {fs1 : Fam} {fs' : σ → Fam} (ms : List Nat) (sp : SpecF P f avs h1 m fs1 G val post fs') (fr : Fam) (hperm : fs.Perm (fs1 ++ fr)) (hN : H0.length ≤ E.N) (hE : ∀ l, l < H0.length → E.ρ l = R0 l) (eg : ∀ args w, (callFunc f args).run P w = .ok (.enter f args) w)
    (hin : HasIn (renF ms L) h 0 h1) (hf : evA τ x = some (.fn f cs)) {l : List AV} (hxs : evList (evA τ) xs.toList = some l) (hx : l ++ cs = AV.rens (renF ms L) avs) (hP : ∀ s, (bdB m (post s) && nodupB (((post s).map (·.1)).map (renF ms L))) = true)
    (hg : wantA ops ⟨some d, .call { callee := .value x, args := xs, argTypes := ats }, ty, ps, af, gd⟩ τ = some true) (hb : (Nat.ble (d + 1) n && Nat.beq h1.length ms.length && onceB h1 ms && chainB h D ((goneL h1 ms).map (·.1)) && Nat.ble h1.length m && roL H0 h) = true)
    (k : ∀ s, G s → R P ops Q (actD h D ((goneL h1 ms).map (·.1))) E n (L + (m - h1.length)) ((d, (val s).ren (renF ms L)) :: τ) (renH (renF ms L) (post s) ++ (goneL h1 ms ++ h)) (FF H0 R0 W0 FS0 (fs' s ++ fr)) rest) :
    R P ops Q D E n L τ h (FF H0 R0 W0 FS0 fs) (⟨some d, .call { callee := .value x, args := xs, argTypes := ats }, ty, ps, af, gd⟩ :: rest) := by
  rw [Bool.and_eq_true, Bool.and_eq_true] at hb
  obtain ⟨⟨hb1, hb2⟩, hrob⟩ := hb
  simp only [Bool.and_eq_true] at hP
  refine R.fperm hperm ?_
  refine R.cfG fr ms sp eg (fun ρ a w g l b hl hb hw => ?_) hf hxs hx hin hb2 (fun s => bdB_lt (hP s).1) (fun s => (hP s).2) hg hb1 k
  cases hx : hk l h with
  | none => exact hl hx
  | some o =>
    cases hro : o.isRo with
    | false =>
      obtain ⟨p, hp, _, he⟩ := hw
      exact g.apF (List.mem_append_left _ hp) ⟨o, hx, hro⟩ (by rw [he]; exact hb)
    | true =>
      obtain ⟨o0, h3, h4⟩ := roL_get hrob hx hro
      have hlN : l < H0.length := (List.getElem?_eq_some_iff.1 h3).1
      have : ρ l = R0 l := by rw [g.ex l (by omega), hE l hlN]
      obtain ⟨p, hp, q⟩ := hw
      exact g.ff.inn h3 h4 (this ▸ hb) ⟨p, List.mem_append_left _ hp, q⟩
end
end Go.Proofs.Yteabncomclgncaa
