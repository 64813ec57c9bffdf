/- The kernel, 30: append to rows of one's own block where there is room, append of noughts, clear, slices with a limit. No program in sight. -/
import Derived.Test.YteabncomclgncaaK29
import Derived.Lib.AppendZerosOnto
namespace Go.Proofs.Yteabncomclgncaa
set_option linter.unusedVariables false
set_option linter.unusedSimpArgs false
set_option linter.unusedSectionVars false
open Go.RowKit
/-- rows laid over others: what lies there then -/
theorem tab_over {ρ : Env} {wd n0 n1 cap off cnt b : Nat} {f f' sf : Nat → List AV} {T : TypeId} {cur : Array Value} {w' : World} (hn1 : n1 ≤ cap) (hfl : ∀ i, i < n0 → (f i).length = wd) (hsl : ∀ i, i < cnt → (sf i).length = wd) (hin : ∀ i, i < n1 → i < n0 ∨ (off ≤ i ∧ i < off + cnt))
    (hf : ∀ i, i < n1 → f' i = if off ≤ i ∧ i < off + cnt then sf (i - off) else f i) (hoff : off + cnt ≤ cap) (hs : cur.size = cap * wd) (hcur : ∀ i c x, i < n0 → (f i)[c]? = some x → cur[i * wd + c]? = some (x.conc ρ))
    (hw' : w'.heap[b]? = some (.cells (cur.toList.take (off * wd) ++ AV.concs ρ (flat sf cnt) ++ cur.toList.drop (off * wd + (AV.concs ρ (flat sf cnt)).length)).toArray T (0, 0))) : (AO.tab wd n1 cap f' T).holds ρ (some b) w' := by
  have hcl : (AV.concs ρ (flat sf cnt)).length = cnt * wd := by rw [concs_length, flat_length hsl]
  have htot : off * wd + cnt * wd ≤ cap * wd := by rw [← Nat.add_mul]; exact Nat.mul_le_mul_right wd hoff
  have hfl' : ∀ i, i < n1 → (f' i).length = wd := fun i hi => by
    rw [hf i hi]
    split
    · rename_i hc; exact hsl _ (by omega)
    · rename_i hc
      rcases hin i hi with h5 | h5
      · exact hfl i h5
      · exact absurd h5 hc
  refine ⟨hn1, hfl', .inr ⟨b, _, rfl, hw', ?_, fun i c z hi hz => ?_⟩⟩
  · rw [List.size_toArray]
    simp only [List.length_append, List.length_take, List.length_drop, hcl, Array.length_toList]
    omega
  · have hcw : c < wd := by rw [← hfl' i hi]; exact (List.getElem?_eq_some_iff.1 hz).1
    have el : (cur.toList.take (off * wd)).length = off * wd := by rw [List.length_take, Array.length_toList]; omega
    rw [List.getElem?_toArray, get3, hcl, el]
    rw [hf i hi] at hz
    by_cases a1 : i < off
    · have m1 : i * wd + wd ≤ off * wd := by rw [← Nat.succ_mul]; exact Nat.mul_le_mul_right wd a1
      rw [if_neg (by omega)] at hz
      rw [if_pos (by omega), List.getElem?_take, if_pos (by omega), Array.getElem?_toList]
      rcases hin i hi with h5 | h5
      · exact hcur i c z h5 hz
      · omega
    · have m1 : off * wd ≤ i * wd := Nat.mul_le_mul_right wd (by omega)
      rw [if_neg (by omega)]
      by_cases a2 : i < off + cnt
      · rw [if_pos ⟨by omega, a2⟩] at hz
        have m2 : i * wd + wd ≤ off * wd + cnt * wd := by rw [← Nat.succ_mul, ← Nat.add_mul]; exact Nat.mul_le_mul_right wd a2
        have m3 : i * wd + c - off * wd = (i - off) * wd + c := by rw [Nat.sub_mul]; omega
        rw [if_pos (by omega), m3, concs_map, List.getElem?_map, flat_get hsl (i - off) c (by omega) hcw, hz]
        rfl
      · have m2 : off * wd + cnt * wd ≤ i * wd := by rw [← Nat.add_mul]; exact Nat.mul_le_mul_right wd (by omega)
        rw [if_neg (by omega)] at hz
        rw [if_neg (by omega), List.getElem?_drop, Array.getElem?_toList]
        rw [show off * wd + cnt * wd + (i * wd + c - off * wd - cnt * wd) = i * wd + c by omega]
        rcases hin i hi with h5 | h5
        · exact hcur i c z h5 hz
        · omega
theorem tab_some {ρ : Env} {wd n0 cap : Nat} {f : Nat → List AV} {T : TypeId} {r : Option Nat} {w : World} (hh : (AO.tab wd n0 cap f T).holds ρ r w) (hc : 0 < cap) : ∃ b cur, r = some b ∧ w.heap[b]? = some (.cells cur T (0, 0)) ∧ cur.size = cap * wd ∧ ∀ i c x, i < n0 → (f i)[c]? = some x → cur[i * wd + c]? = some (x.conc ρ) := by
  rcases hh.2.2 with ⟨_, h⟩ | ⟨b, cur, h1, h2, h3, h4⟩
  · omega
  · exact ⟨b, cur, h1, h2, h3, h4⟩
theorem zeroCells_get (zs : Array Value) (k i c : Nat) (hi : i < k) (hc : c < zs.size) : (Builtin.zeroCells zs k)[i * zs.size + c]? = zs[c]? := by
  have hlt : i * zs.size + c < k * zs.size := by
    have : (i + 1) * zs.size ≤ k * zs.size := Nat.mul_le_mul_right _ hi
    rw [Nat.add_mul, Nat.one_mul] at this
    omega
  have hm : (i * zs.size + c) % zs.size = c := by rw [Nat.mul_comm, Nat.mul_add_mod, Nat.mod_eq_of_lt hc]
  simp [Builtin.zeroCells, hlt, hm, hc]
theorem zeroCells_size (zs : Array Value) (k : Nat) : (Builtin.zeroCells zs k).size = k * zs.size := by simp [Builtin.zeroCells]
section
variable {P : Program} {ops : Array Oper} {Q : Exit → Act → World → Prop} {D : Option DD} {E : Base} {n L : Nat} {τ : List (Nat × AV)} {h : List (Nat × AO)} {F : World → Prop} {rest : List Oper}
  {d : Nat} {ty : TypeId} {ps : String} {af : Array Edge} {gd : Option (Nat × Bool)} {tt : List (Nat × TI)}
/-- rows to be copied, of which the first k0 are known -/
theorem SrcA.tabm {l wd off m c n0 cap : Nat} {f : Nat → List AV} {T : TypeId} (k0 : Nat) (hw : 0 < wd) (hl : hk l h = some (.tab wd n0 cap f T)) (hn : off + k0 ≤ n0) (hc : 0 < cap) : SrcA E n L τ h F (.sl l wd off m c) m (flat (fun i => f (off + i)) k0) := fun ρ a w g => by
  have hh := (g.hp _ _ hl).2.2
  refine ⟨flat_low fun i hi => tab_low g hl (by omega), ?_⟩
  obtain ⟨b, cur, hr, hb, hs, hcur⟩ := tab_some hh hc
  refine .inl ⟨⟨b, off * wd, none⟩, c, by simp [AV.conc, hr], fun j u hj => ?_⟩
  rw [flat_concs] at hj
  obtain ⟨i, k, h1, h2, rfl, h3⟩ := flat_some hw (fun i hi => by rw [concs_length]; exact hh.2.1 (off + i) (by omega)) hj
  rw [concs_map, List.getElem?_map] at h3
  obtain ⟨x, hx, rfl⟩ := Option.map_eq_some_iff.1 h3
  rw [addr_add0, cell_of_row w b _ _ T (0, 0) hb, ← Nat.add_assoc, ← Nat.add_mul]
  exact hcur _ _ _ (by omega) hx
/-- append to a part of known rows, where there is room: the same block; what comes behind is not known any more -/
theorem R.aprt (htt : TTok P tt) {t T : TypeId} {x y : Operand} {l wd m0 cap n0 k0 : Nat} {f sf : Nat → List AV} (f' : Nat → List AV) {v2 : AV} {news : List AV} {tl te : TI} (hx : evA τ x = some (.sl l wd 0 m0 cap)) (hl : hk l h = some (.tab wd n0 cap f T)) (hm0 : m0 ≤ n0) (hy : evA τ y = some v2)
    (hs : SrcA E n L τ h F v2 k0 news) (hsf : news = flat sf k0) (hsl : ∀ i, i < k0 → (sf i).length = wd) (hone : news.all AV.oneB = true) (ht : lk t tt = some tl) (hkd : tl.kind = .sl T) (hte : lk T tt = some te) (hsz : te.size = wd)
    (hg : wantA ops ⟨some d, .call { callee := .builtin .append, args := #[x, y], argTypes := #[t, t] }, ty, ps, af, gd⟩ τ = some true) (hb : (Nat.ble (d + 1) n && chainB h D [l]) = true)
    (hroom : m0 + k0 ≤ cap) (hpos : 0 < cap) (hf : ∀ i, i < m0 + k0 → f' i = if m0 ≤ i ∧ i < m0 + k0 then sf (i - m0) else f i)
    (k : R P ops Q (actD h D [l]) E n L ((d, .sl l wd 0 (m0 + k0) cap) :: τ) ((l, .tab wd (m0 + k0) cap f' T) :: h) F rest) :
    R P ops Q D E n L τ h F (⟨some d, .call { callee := .builtin .append, args := #[x, y], argTypes := #[t, t] }, ty, ps, af, gd⟩ :: rest) := by
  simp only [Bool.and_eq_true] at hb
  refine ⟨RL.acts (σ := Unit) (fun _ => True) (fun _ => .sl l wd 0 (m0 + k0) cap) (fun _ => L) (fun _ => (l, .tab wd (m0 + k0) cap f' T) :: h) (fun _ => F) [l] hg hb.1 hb.2 (fun _ _ => Nat.le_refl L) (fun ρ a w g => ?_) (fun _ _ => k.out)⟩
  obtain ⟨hlow, hsrc⟩ := hs ρ a w g
  have hgp := g.hp l _ hl
  have hh := hgp.2.2
  obtain ⟨i, z, hi, hi1, _⟩ := (htt _ _ hte).info
  rw [hsz] at hi1
  have hu := und_of_run (und_sl (htt _ _ ht) hkd w)
  have hlowR : (AV.sl l wd 0 (m0 + k0) cap).Low ρ L := fun ρ' he => by simp [AV.conc, he l hgp.1]
  have hev1 : a.eval x = .slice ((ρ l).map fun b => ⟨b, 0, none⟩) m0 cap := by rw [(g.eval x _ hx).2]; simp [AV.conc]
  have hev2 : a.eval y = v2.conc ρ := (g.eval y _ hy).2
  obtain ⟨b, cur, hr, hbk, hcs, hcur⟩ := tab_some hh hpos
  have hnl : (AV.concs ρ news).length = k0 * wd := by rw [concs_length, hsf, flat_length hsl]
  have hsub : m0 * wd + k0 * wd ≤ cap * wd := by rw [← Nat.add_mul]; exact Nat.mul_le_mul_right wd hroom
  have hlowT : (AO.tab wd (m0 + k0) cap f' T).Low ρ L := AO.Low.tab T fun i hi z hz => by
    rw [hf i hi] at hz
    split at hz
    · rename_i hc
      obtain ⟨q, hq⟩ := List.getElem?_of_mem hz
      have hq2 : q < wd := by rw [← hsl (i - m0) (by omega)]; exact (List.getElem?_eq_some_iff.1 hq).1
      have := flat_get hsl (i - m0) q (by omega) hq2
      exact hlow z (List.mem_of_getElem? (by rw [hsf, this]; exact hq))
    · rename_i hc
      exact tab_low g hl (by omega) z hz
  have after : ∀ w', w'.heap[b]? = some (.cells (cur.toList.take (m0 * wd) ++ AV.concs ρ news ++ cur.toList.drop (m0 * wd + (AV.concs ρ news).length)).toArray T (0, 0)) → (AO.tab wd (m0 + k0) cap f' T).holds ρ (some b) w' := fun w' hw' =>
    tab_over hroom hh.2.1 hsl (fun i hi => by omega) hf hroom hcs hcur (by rw [hsf] at hw'; exact hw')
  unfold goes execOp
  simp only [resolve, invoke, builtin, Sem.run_bind, Sem.run_pure, Result.andThen_ok, List.map_toArray, List.map_cons, List.map_nil, hev1, hev2]
  rcases hsrc with ⟨ad, c, e, hcell⟩ | ⟨c, e, hk0, hq⟩
  · have hrun := run_append_room (P := P) w t ty T i hu hi b m0 cap cur hbk ad k0 c (AV.concs ρ news) (by rw [hnl, hi1]) hcell (fun u hu => by
      rw [concs_map] at hu
      obtain ⟨y', hy', rfl⟩ := List.mem_map.1 hu
      exact oneB_conc (List.all_eq_true.1 hone y' hy') ρ) hroom (by rw [hi1, hnl, hcs]; exact hsub)
    rw [hi1] at hrun
    rw [hr, Option.map_some, e, hrun]
    refine ⟨(), ρ, trivial, by simp [AV.conc, hr], hlowR, fun _ _ => rfl, g.set hl rfl hr hlowT (after _ (setRow_heap _ _ _ _ _ _ hbk)) (fun b' hb' => setRow_other _ _ _ _ hb') (by simp) ⟨rfl, rfl, rfl⟩, fun l' b' hl' hb' hn => ?_⟩
    by_cases e2 : b' = b
    · subst e2
      exact absurd (g.dis l l' b' ⟨_, hl, rfl⟩ hl' hr hb') (fun e => hn (by simp [e]))
    · exact (setRow_other _ _ _ _ e2).symm
  · have hrun : (Builtin.append_ #[t, t] ty #[.slice (some ⟨b, 0, none⟩) m0 cap, v2.conc ρ]).run P w = .ok (.slice (some ⟨b, 0, none⟩) (m0 + k0) cap) w := by
      have e1 := (htt _ _ hte).run_size w
      have hu2 := und_sl (htt _ _ ht) hkd w
      rw [e]; simp [Builtin.append_, hu2, e1, Builtin.lenOf, Builtin.firstCells, storeCells, hk0, show m0 ≤ cap by omega]
    rw [hr, Option.map_some, hrun]
    refine ⟨(), ρ, trivial, by simp [AV.conc, hr], hlowR, fun _ _ => rfl, g.set hl rfl hr hlowT (after _ ?_) (fun b' hb' => rfl) rfl ⟨rfl, rfl, rfl⟩, fun _ _ _ _ _ => rfl⟩
    rw [hbk, hq]
    simp
/-- append(x, make(.., k)..) where there is no room: a new block; the old one stays -/
theorem R.apz (htt : TTok P tt) {t tn T : TypeId} {x y : Operand} {l wd m0 cap n0 : Nat} {kq kn : IntKind} {j : Int} {f : Nat → List AV} (k0 : Nat) (f' : Nat → List AV) {tl te tk : TI} (hx : evA τ x = some (.sl l wd 0 m0 cap)) (hl : hk l h = some (.tab wd n0 cap f T)) (hm0 : m0 ≤ n0) (hy : evA τ y = some (.raw (.int kq j)))
    (ht : lk t tt = some tl) (hkd : tl.kind = .sl T) (htn : lk tn tt = some tk) (hkn : tk.kind = .int kn) (hte : lk T tt = some te) (hsz : te.size = wd) (hz : Nat.beq te.zero.length te.size = true) (hw : 0 < wd)
    (hg : wantA ops ⟨some d, .call { callee := .builtin .append, args := #[x, y], argTypes := #[t, tn] }, ty, ps, af, gd⟩ τ = some true) (hb : (Nat.ble (d + 1) n && chainB h D []) = true)
    (hj : j = (k0 : Int)) (hk0 : 0 < k0) (hroom : cap < m0 + k0) (hpos : 0 < cap) (hcap : m0 + k0 ≤ 4503599627370496) (hby : (m0 + k0) * te.bytes ≤ 140737488355328)
    (hf : ∀ i, i < m0 + k0 → f' i = if i < m0 then f i else te.zero.map .raw)
    (k : ∀ c, m0 + k0 ≤ c → c ≤ 9223372036854775807 → R P ops Q (actD h D []) E n (L + 1) ((d, .sl L wd 0 (m0 + k0) c) :: τ) ((L, .tab wd (m0 + k0) c f' T) :: h) F rest) :
    R P ops Q D E n L τ h F (⟨some d, .call { callee := .builtin .append, args := #[x, y], argTypes := #[t, tn] }, ty, ps, af, gd⟩ :: rest) := by
  refine R.newW (σ := Nat) (fun c => m0 + k0 ≤ c ∧ c ≤ 9223372036854775807) (fun c => .tab wd (m0 + k0) c f' T) (fun c => .sl L wd 0 (m0 + k0) c) (fun _ ρ => sl_low ρ L _ _ _ _) (fun ρ a w g => ?_) hg hb (fun c hc => k c hc.1 hc.2)
  have hz := Nat.eq_of_beq_eq_true hz
  have hh := (g.hp l _ hl).2.2
  obtain ⟨i, z, hi, hi1, hi2, hi3, hi4, _⟩ := (htt _ _ hte).info
  rw [hsz] at hi1 hz
  have hu := und_of_run (und_sl (htt _ _ ht) hkd w)
  have hun : P.underlying tn = some (.int kn) := und_of_run (und_int (htt _ _ htn) hkn w)
  obtain ⟨b, cur, hr, hbk, hcs, hcur⟩ := tab_some hh hpos
  have hev1 : a.eval x = .slice (some ⟨b, 0, none⟩) m0 cap := by rw [(g.eval x _ hx).2]; simp [AV.conc, hr]
  have hev2 : a.eval y = .int kq (k0 : Int) := by rw [(g.eval y _ hy).2, hj]; rfl
  have hfl : ∀ q, q < m0 → (f q).length = wd := fun q hq => hh.2.1 q (by omega)
  have hol : (AV.concs ρ (flat f m0)).length = m0 * wd := by rw [concs_length, flat_length hfl]
  have hold : (Builtin.firstCells i.size m0 (.slice (some ⟨b, 0, none⟩) m0 cap)).run P w.drew = .ok (AV.concs ρ (flat f m0)).toArray w.drew := by
    have := run_loadCells_list (P := P) w.drew ⟨b, 0, none⟩ (AV.concs ρ (flat f m0)) (fun q u hq => by
      have hql : q < m0 * wd := by rw [← hol]; exact (List.getElem?_eq_some_iff.1 hq).1
      rw [concs_map, List.getElem?_map] at hq
      obtain ⟨v, hv, rfl⟩ := Option.map_eq_some_iff.1 hq
      obtain ⟨q1, c1, h1, h2, h3, h4⟩ := flat_some hw hfl hv
      rw [addr_add0, cell_of_row w.drew b _ cur T (0, 0) hbk, Nat.zero_add, h3]
      exact hcur q1 c1 v (by omega) h4)
    rw [hol] at this
    simp only [Builtin.firstCells, hi1, this]
  have hnb : k0 * i.bytes ≤ 281474976710656 := by
    rw [hi2]
    have : k0 * te.bytes ≤ (m0 + k0) * te.bytes := Nat.mul_le_mul_right _ (by omega)
    omega
  have hgl := growslice_fits (bytes := te.bytes) (old := cap) (need := m0 + k0) hroom hby
  have hrun := Lib.run_append_grow_zeros (P := P) w t tn ty T i z kq kn hu hun hi hi3 (some ⟨b, 0, none⟩) m0 cap _ hold k0 hk0 (by rw [hi1]; exact hw) hroom (by omega) hnb (by rw [hi2]; exact hgl)
  have hge := grownCap_ge w (m0 + k0) cap T
  have hzl : z.cells.size = wd := by rw [← Array.length_toList, hi4, hz]
  obtain ⟨A, hA⟩ : ∃ A, A = (AV.concs ρ (flat f m0)).toArray ++ Builtin.zeroCells z.cells k0 ++ Builtin.zeroCells z.cells (grownCap w (m0 + k0) cap T - (m0 + k0)) := ⟨_, rfl⟩
  rw [← hA] at hrun
  refine ⟨grownCap w (m0 + k0) cap T, w.drew.alloc (.cells A T), ⟨hge, by have := grownCap_le_maxLen w (m0 + k0) cap T (by simp [maxLen]; omega); simpa [maxLen] using this⟩, ⟨rfl, rfl, rfl, by simp, fun b' hb' _ => heap_alloc_old w.drew _ hb'⟩, by simp, fun ρ' he => ⟨AO.Low.tab T fun q hq v hv => ?_, hge, fun q hq => ?_, .inr ⟨w.heap.size, _, rfl, heap_alloc_new w.drew _, ?_, fun q c v hq hv => ?_⟩⟩, ?_⟩
  · rw [hf q hq] at hv
    split at hv
    · exact ((tab_low g hl (by omega) v hv).ext he).mono (Nat.le_succ L)
    · obtain ⟨u, _, rfl⟩ := List.mem_map.1 hv
      exact AV.Low.raw _ _ _
  · rw [hf q hq]
    split
    · exact hfl q (by omega)
    · rw [List.length_map, hz]
  · rw [hA, Array.size_append, Array.size_append, zeroCells_size, zeroCells_size, List.size_toArray, hol, hzl, ← Nat.add_mul, ← Nat.add_mul]
    congr 1
    omega
  · have hcw : c < wd := by
      have h1 := (List.getElem?_eq_some_iff.1 hv).1
      rw [hf q hq] at h1
      split at h1
      · rwa [hfl q (by omega)] at h1
      · rwa [List.length_map, hz] at h1
    rw [hf q hq] at hv
    rw [hA, Array.append_assoc]
    by_cases hqm : q < m0
    · rw [if_pos hqm] at hv
      have hlt : q * wd + c < m0 * wd := by
        have : (q + 1) * wd ≤ m0 * wd := Nat.mul_le_mul_right _ hqm
        rw [Nat.add_mul, Nat.one_mul] at this
        omega
      rw [Array.getElem?_append_left (by rw [List.size_toArray, hol]; exact hlt), List.getElem?_toArray, concs_map, List.getElem?_map, flat_get hfl q c hqm hcw, hv]
      have := tab_low g hl (show q < n0 by omega) v (List.mem_of_getElem? hv)
      rw [Option.map_some, this ρ' he]
    · rw [if_neg hqm] at hv
      rw [List.getElem?_map] at hv
      obtain ⟨u, hu1, rfl⟩ := Option.map_eq_some_iff.1 hv
      have hqw : m0 * wd ≤ q * wd := Nat.mul_le_mul_right _ (by omega)
      rw [Array.getElem?_append_right (by rw [List.size_toArray, hol]; omega), List.size_toArray, hol]
      have h3 : q * wd + c - m0 * wd = (q - m0) * wd + c := by rw [Nat.sub_mul]; omega
      rw [h3]
      have h4 : (q - m0) * wd + c < k0 * wd := by
        have : (q - m0 + 1) * wd ≤ k0 * wd := Nat.mul_le_mul_right _ (by omega)
        rw [Nat.add_mul, Nat.one_mul] at this
        omega
      rw [Array.getElem?_append_left (by rw [zeroCells_size, hzl]; exact h4)]
      have := zeroCells_get z.cells k0 (q - m0) c (by omega) (by omega)
      rw [hzl] at this
      rw [this, ← Array.getElem?_toList, hi4, hu1]
      rfl
  · unfold execOp
    simp only [resolve, invoke, builtin, Sem.run_bind, Sem.run_pure, Result.andThen_ok, List.map_toArray, List.map_cons, List.map_nil, hev1, hev2, hrun, AV.conc, updE_same, Option.map_some, Nat.zero_mul]
/-- clear of rows behind the known ones -/
theorem R.clt (htt : TTok P tt) {t T : TypeId} {x : Operand} {l wd off m c0 cap n0 : Nat} {f : Nat → List AV} {tl te : TI} (hx : evA τ x = some (.sl l wd off m c0)) (hl : hk l h = some (.tab wd n0 cap f T)) (ht : lk t tt = some tl) (hkd : tl.kind = .sl T) (hte : lk T tt = some te) (hsz : te.size = wd) (hz : (Nat.beq te.zero.length te.size && te.zero.all fun v => v.oneCell') = true)
    (hg : wantA ops ⟨none, .call { callee := .builtin .clear, args := #[x], argTypes := #[t] }, ty, ps, af, gd⟩ τ = some true) (hb : chainB h D [l] = true) (hm : 0 < m) (hn0 : n0 ≤ off) (hoff : off + m ≤ cap)
    (k : R P ops Q (actD h D [l]) E n L τ ((l, .tab wd n0 cap f T) :: h) F rest) : R P ops Q D E n L τ h F (⟨none, .call { callee := .builtin .clear, args := #[x], argTypes := #[t] }, ty, ps, af, gd⟩ :: rest) := by
  simp only [Bool.and_eq_true] at hz
  refine ⟨RL.acts (σ := Unit) (fun _ => True) (fun _ => .tup []) (fun _ => L) (fun _ => (l, .tab wd n0 cap f T) :: h) (fun _ => F) [l] hg rfl hb (fun _ _ => Nat.le_refl L) (fun ρ a w g => ?_) (fun _ _ => k.out)⟩
  have hz1 := Nat.eq_of_beq_eq_true hz.1
  have hgp := g.hp l _ hl
  have hh := hgp.2.2
  obtain ⟨z, hzr, hzc⟩ := (htt _ _ hte).zeroC w
  have hu := und_sl (htt _ _ ht) hkd w
  obtain ⟨b, cur, hr, hbk, hcs, hcur⟩ := tab_some hh (by omega)
  have hev1 : a.eval x = .slice (some ⟨b, off * wd, none⟩) m c0 := by rw [(g.eval x _ hx).2]; simp [AV.conc, hr]
  have hzl : z.cells.size = wd := by rw [← Array.length_toList, hzc, hz1, hsz]
  have hzs : (Builtin.zeroCells z.cells m).toList.length = m * wd := by rw [Array.length_toList, zeroCells_size, hzl]
  have hsub : off * wd + m * wd ≤ cap * wd := by rw [← Nat.add_mul]; exact Nat.mul_le_mul_right wd hoff
  have hst := run_storeCells_at P b (off * wd) T (Builtin.zeroCells z.cells m).toList 0 cur w hbk (by rw [hzs, hcs]; omega) (fun v hv => by
    obtain ⟨q, hq⟩ := List.getElem?_of_mem hv
    have : v ∈ te.zero := by
      rw [← hzc]
      simp only [Builtin.zeroCells, Array.toList_map, Array.toList_range, List.mem_map] at hv
      obtain ⟨q, _, rfl⟩ := hv
      rcases Nat.eq_zero_or_pos z.cells.size with h0 | h0
      · have hq := (List.getElem?_eq_some_iff.1 hq).1
        rw [hzs, ← hzl, h0] at hq
        omega
      · rw [getElem!_pos z.cells _ (Nat.mod_lt _ h0)]
        exact Array.getElem_mem_toList _
    exact List.all_eq_true.1 hz.2 v this)
  simp only [Nat.add_zero] at hst
  have hrun : (Builtin.clear_ #[t] ty #[.slice (some ⟨b, off * wd, none⟩) m c0]).run P w = .ok (.tuple #[]) (w.setRow b (cur.toList.take (off * wd) ++ (Builtin.zeroCells z.cells m).toList ++ cur.toList.drop (off * wd + (Builtin.zeroCells z.cells m).toList.length)).toArray) := by
    obtain ⟨m, rfl⟩ : ∃ q, m = q + 1 := ⟨m - 1, by omega⟩
    simp only [Builtin.clear_, List.getElem?_toArray, List.getElem?_cons_zero, Sem.run_bind, hu, Result.andThen_ok, hzr, hst, Sem.run_pure]
  unfold goes execOp
  simp only [resolve, invoke, builtin, Sem.run_bind, Sem.run_pure, Result.andThen_ok, List.map_toArray, List.map_cons, List.map_nil, hev1, hrun]
  refine ⟨(), ρ, trivial, rfl, fun _ _ => rfl, fun _ _ => rfl, g.set hl rfl hr hgp.2.1 ⟨hh.1, hh.2.1, .inr ⟨b, _, rfl, setRow_heap _ _ _ _ _ _ hbk, ?_, fun i c v hi hv => ?_⟩⟩ (fun b' hb' => setRow_other _ _ _ _ hb') (by simp) ⟨rfl, rfl, rfl⟩, fun l' b' hl' hb' hn => ?_⟩
  · rw [List.size_toArray]
    simp only [List.length_append, List.length_take, List.length_drop, hzs, Array.length_toList]
    omega
  · have hcw : c < wd := by rw [← hh.2.1 i hi]; exact (List.getElem?_eq_some_iff.1 hv).1
    have m1 : i * wd + wd ≤ off * wd := by rw [← Nat.succ_mul]; exact Nat.mul_le_mul_right wd (by omega)
    rw [List.getElem?_toArray, List.append_assoc, List.getElem?_append_left (by rw [List.length_take, Array.length_toList]; omega), List.getElem?_take, if_pos (by omega), Array.getElem?_toList]
    exact hcur i c v hi hv
  · by_cases e2 : b' = b
    · subst e2
      exact absurd (g.dis l l' b' ⟨_, hl, rfl⟩ hl' hr hb') (fun e => hn (by simp [e]))
    · exact (setRow_other _ _ _ _ e2).symm
/-- cap(x) -/
theorem R.cap (htt : TTok P tt) {t e : TypeId} {x : Operand} {l w0 off m cap : Nat} {ti : TI} (hx : evA τ x = some (.sl l w0 off m cap)) (ht : lk t tt = some ti) (hkd : ti.kind = .sl e)
    (hg : wantA ops ⟨some d, .call { callee := .builtin .cap, args := #[x], argTypes := #[t] }, ty, ps, af, gd⟩ τ = some true) (hb : (Nat.ble (d + 1) n && lookB D []) = true)
    (k : R P ops Q (lookD D []) E n L ((d, .raw (.int .i64 (cap : Int))) :: τ) h F rest) : R P ops Q D E n L τ h F (⟨some d, .call { callee := .builtin .cap, args := #[x], argTypes := #[t] }, ty, ps, af, gd⟩ :: rest) :=
  R.pure _ (fun ρ a w g => ⟨AV.Low.raw _ _ _, fun W => by
    have hu := und_sl (htt _ _ ht) hkd W
    unfold execOp
    simp only [resolve, invoke, builtin, Sem.run_bind, Sem.run_pure, Result.andThen_ok, List.map_toArray, List.map_cons, List.map_nil, (g.eval x _ hx).2, AV.conc]
    simp [Builtin.cap_, hu, goInt, AV.conc]⟩) hg hb k
/-- x[lo:hi:mx] -/
theorem R.sl3 (htt : TTok P tt) {t e : TypeId} {x lo hi mx : Operand} {l w0 off m cap : Nat} {k1 k2 k3 : IntKind} {j1 j2 j3 : Int} {ti te : TI} (l0 h1 m1 : Nat) (hx : evA τ x = some (.sl l w0 off m cap)) (ht : lk t tt = some ti) (hkd : ti.kind = .sl e) (hte : lk e tt = some te) (hsz : te.size = w0)
    (hlo : evA τ lo = some (.raw (.int k1 j1))) (hhi : evA τ hi = some (.raw (.int k2 j2))) (hmx : evA τ mx = some (.raw (.int k3 j3)))
    (hg : wantA ops ⟨some d, .slice t x (some lo) (some hi) (some mx), ty, ps, af, gd⟩ τ = some true) (hb : (Nat.ble (d + 1) n && lookB D [] && Nat.ble (l + 1) L) = true) (e1 : j1 = (l0 : Int)) (e2 : j2 = (h1 : Int)) (e3 : j3 = (m1 : Int)) (hlh : l0 ≤ h1) (hhm : h1 ≤ m1) (hc : m1 ≤ cap)
    (k : ∀ o', R P ops Q (lookD D []) E n L ((d, .sl l w0 o' (h1 - l0) (m1 - l0)) :: τ) h F rest) : R P ops Q D E n L τ h F (⟨some d, .slice t x (some lo) (some hi) (some mx), ty, ps, af, gd⟩ :: rest) := by
  simp only [Bool.and_eq_true] at hb
  refine R.pure (.sl l w0 (if m1 = l0 then off else off + l0) (h1 - l0) (m1 - l0)) (fun ρ a w g => ⟨fun ρ' he => ?_, fun W => ?_⟩) hg (by simp [hb.1]) (k _)
  · have : l + 1 ≤ L := by simpa [Nat.ble_eq] using hb.2
    simp [AV.conc, he l (by omega)]
  · have hu := und_sl (htt _ _ ht) hkd W
    have he := (htt _ _ hte).run_size W
    have v1 := (g.eval lo _ hlo).2
    have v2 := (g.eval hi _ hhi).2
    have v3 := (g.eval mx _ hmx).2
    simp only [AV.conc, e1, e2, e3] at v1 v2 v3
    have hbd : (Instr.sliceBounds true m cap (some (.int k1 (l0 : Int))) (some (.int k2 (h1 : Int))) (some (.int k3 (m1 : Int)))).run P W = .ok (l0, h1, m1) W := by
      simp [Instr.sliceBounds, run_bound hc, run_bound hhm, run_bound hlh]
    simp only [execOp, (g.eval x _ hx).2, AV.conc, Option.map_some, v1, v2, v3]
    rw [Sem.run_bind]
    simp only [Instr.sliceAt, Instr.slice, Sem.run_bind, hu, Result.andThen_ok, hbd, he, Sem.run_pure, hsz]
    by_cases e : m1 = l0
    · simp [e]
    · simp only [e, if_false]
      cases ρ l <;> simp [Addr.add, Nat.add_mul]
end
end Go.Proofs.Yteabncomclgncaa
