/- The kernel, 25: append in its two ways, both lists kept; parts of lists handed to calls. No program in sight. -/
import Derived.Test.YteabncomclgncaaK24
namespace Go.Proofs.Yteabncomclgncaa
set_option linter.unusedVariables false
set_option linter.unusedSimpArgs false
set_option linter.unusedSectionVars false
open Go.RowKit

/-! parts of lists -/
/-- q lies in p from the place o on -/
def PartOf (q p : List UInt8) (o : Nat) : Prop := o + q.length ≤ p.length ∧ ∀ i, i < q.length → p.getD (o + i) 0 = q.getD i 0
theorem PartOf.take {p : List UInt8} {k : Nat} : PartOf (p.take k) p 0 := by
  refine ⟨by rw [List.length_take]; omega, fun i hi => ?_⟩
  rw [List.length_take] at hi
  simp [List.getD, List.getElem?_take, show i < k by omega]
theorem PartOf.sub {p : List UInt8} {o k : Nat} (h : o + k ≤ p.length) : PartOf ((p.drop o).take k) p o := by
  have hl : ((p.drop o).take k).length = k := by rw [List.length_take, List.length_drop]; omega
  refine ⟨by rw [hl]; omega, fun i hi => ?_⟩
  rw [hl] at hi
  simp [List.getD, List.getElem?_take, List.getElem?_drop, hi]
theorem PartOf.pre {p q : List UInt8} : PartOf p (p ++ q) 0 := ⟨by simp, fun i hi => by simp [List.getD, List.getElem?_append, hi]⟩
theorem PartOf.refl {p : List UInt8} : PartOf p p 0 := ⟨by simp, fun i hi => by simp⟩
theorem bytesF_eq {p q : List UInt8} {i j : Nat} (h : p.getD i 0 = q.getD j 0) : bytesF p i = bytesF q j := by unfold bytesF; rw [h]
theorem ro_part {ρ : Env} {r : Option Nat} {w : World} {p q : List UInt8} {o o2 : Nat} (hp : PartOf q p o) (h : (AO.ro 1 o2 p.length (bytesF p)).holds ρ r w) : (AO.ro 1 (o2 + o) q.length (bytesF q)).holds ρ r w := by
  rcases h with ⟨h1, h2⟩ | ⟨b, cur, T, fr, hr, hb, hc⟩
  · exact .inl ⟨h1, by have := hp.1; omega⟩
  · refine .inr ⟨b, cur, T, fr, hr, hb, fun i c x hi hx => ?_⟩
    rw [← bytesF_eq (hp.2 i hi)] at hx
    have := hc (o + i) c x (by have := hp.1; omega) hx
    rw [← this]
    congr 2
    omega
theorem HasIn.pb {r : Nat → Nat} {h : List (Nat × AO)} {i : Nat} {p q : List UInt8} {o cap : Nat} {T : TypeId} {os : List AO} (h1 : hk (r i) h = some (.bytes p cap T)) (hp : PartOf q p o) (k : HasIn r h (i + 1) os) : HasIn r h i (.ro 1 o q.length (bytesF q) :: os) :=
  .other h1 (fun e => by cases e) (fun ρ x w hh => by
    simp only [AO.ren, bytesF_ren]
    have := ro_part hp (bytes_ro hh)
    rwa [Nat.zero_add] at this) k
theorem HasIn.pr {r : Nat → Nat} {h : List (Nat × AO)} {i : Nat} {p q : List UInt8} {o o2 : Nat} {os : List AO} (h1 : hk (r i) h = some (.ro 1 o2 p.length (bytesF p))) (hp : PartOf q p o) (k : HasIn r h (i + 1) os) : HasIn r h i (.ro 1 (o2 + o) q.length (bytesF q) :: os) :=
  .other h1 (fun e => by cases e) (fun ρ x w hh => by simp only [AO.ren, bytesF_ren]; exact ro_part hp hh) k
theorem HasH.b2r {r : Nat → Nat} {L : Nat} {h rest : List (Nat × AO)} {l : Nat} {p : List UInt8} {cap : Nat} {T : TypeId} (h1 : hk (r l) h = some (.bytes p cap T)) (h3 : Nat.ble (l + 1) L = true) (k : HasH r L h rest) : HasH r L h ((l, .ro 1 0 p.length (bytesF p)) :: rest) :=
  .other h1 (fun e => by cases e) (fun ρ x w hh => by simp only [AO.ren, bytesF_ren]; exact bytes_ro hh) h3 (fun _ _ => rfl) k
theorem HasH.pb {r : Nat → Nat} {L : Nat} {h rest : List (Nat × AO)} {l : Nat} {p q : List UInt8} {o cap : Nat} {T : TypeId} (h1 : hk (r l) h = some (.bytes p cap T)) (hp : PartOf q p o) (h3 : Nat.ble (l + 1) L = true) (k : HasH r L h rest) : HasH r L h ((l, .ro 1 o q.length (bytesF q)) :: rest) :=
  .other h1 (fun e => by cases e) (fun ρ x w hh => by
    simp only [AO.ren, bytesF_ren]
    have := ro_part hp (bytes_ro hh)
    rwa [Nat.zero_add] at this) h3 (fun _ _ => rfl) k
theorem HasH.ror {r : Nat → Nat} {L : Nat} {h rest : List (Nat × AO)} {l o : Nat} {p : List UInt8} (h1 : hk (r l) h = some (.ro 1 o p.length (bytesF p))) (h3 : Nat.ble (l + 1) L = true) (k : HasH r L h rest) : HasH r L h ((l, .ro 1 o p.length (bytesF p)) :: rest) :=
  .other h1 id (fun ρ x w hh => by simp only [AO.ren, bytesF_ren]; exact hh) h3 (fun _ _ => rfl) k
section
variable {P : Program} {ops : Array Oper} {Q : Exit → Act → World → Prop} {D : Option DD} {E : Base} {n L : Nat} {τ : List (Nat × AV)} {h : List (Nat × AO)} {F : World → Prop} {rest : List Oper}
  {d : Nat} {op : Op} {ty : TypeId} {ps : String} {af : Array Edge} {gd : Option (Nat × Bool)} {tt : List (Nat × TI)}
/-- append where there is room: the same block -/
theorem R.apr (htt : TTok P tt) {t T : TypeId} {x y : Operand} {v2 : AV} {l n0 cap m : Nat} {p q r : List UInt8} {news : List AV} {tl te : TI} (hx : evA τ x = some (.sl l 1 0 n0 cap)) (hl : hk l h = some (.bytes p cap T)) (hn : n0 = p.length) (hy : evA τ y = some v2) (hs : SrcA E n L τ h F v2 m news) (hq : news = avB q) (hr : p ++ q = r)
    (ht : lk t tt = some tl) (hkd : tl.kind = .sl T) (hte : lk T tt = some te) (hok : (Nat.beq te.size 1 && Nat.beq te.bytes 1 && Nat.beq te.zero.length 1) = true)
    (hg : wantA ops ⟨some d, .call { callee := .builtin .append, args := #[x, y], argTypes := #[t, t] }, ty, ps, af, gd⟩ τ = some true) (hb : (Nat.ble (d + 1) n && chainB h D [l]) = true)
    (hm : m = q.length) (hroom : r.length ≤ cap)
    (k : R P ops Q (actD h D [l]) E n L ((d, .sl l 1 0 r.length cap) :: τ) ((l, .bytes r cap T) :: h) F rest) :
    R P ops Q D E n L τ h F (⟨some d, .call { callee := .builtin .append, args := #[x, y], argTypes := #[t, t] }, ty, ps, af, gd⟩ :: rest) := by
  simp only [Bool.and_eq_true] at hok hb
  have f1 := Nat.eq_of_beq_eq_true hok.1.1
  subst hq hn hm
  have hrl : r.length = p.length + q.length := by rw [← hr, List.length_append]
  refine ⟨RL.acts (σ := Unit) (fun _ => True) (fun _ => .sl l 1 0 r.length cap) (fun _ => L) (fun _ => (l, .bytes r cap T) :: h) (fun _ => F) [l] hg hb.1 hb.2 (fun _ _ => Nat.le_refl L) (fun ρ a w g => ?_) (fun _ _ => k.out)⟩
  have hh := g.hp l _ hl
  obtain ⟨_, h6⟩ := hs ρ a w g
  rw [avB_concs] at h6
  obtain ⟨i, z, hi, hi1, _⟩ := (htt _ _ hte).info
  rw [f1] at hi1
  have hu := und_of_run (und_sl (htt _ _ ht) hkd w)
  have hlL : l < L := hh.1
  have hlow : (AV.sl l 1 0 r.length cap).Low ρ L := fun ρ' he => by simp [AV.conc, he l hlL]
  have hev1 : a.eval x = .slice ((ρ l).map fun b => ⟨b, 0, none⟩) p.length cap := by rw [(g.eval x _ hx).2]; simp [AV.conc]
  have hev2 : a.eval y = v2.conc ρ := (g.eval y _ hy).2
  have hlow2 : (AO.bytes r cap T).Low ρ L := AO.Low.bytes _ _ _ _ _
  rcases hh.2.2.2 with ⟨hr0, hc0⟩ | ⟨b, cur, hr0, hbk, hs0, hc⟩
  · -- nothing there: nothing is appended
    have hp0 : p = [] := List.length_eq_zero_iff.1 (by have := hh.2.2.1; omega)
    have hq0 : q = [] := List.length_eq_zero_iff.1 (by omega)
    subst hp0 hq0 hr hc0
    have hrun : (Builtin.append_ #[t, t] ty #[.slice none 0 0, v2.conc ρ]).run P w = .ok (.slice none 0 0) w := by
      have e1 := (htt _ _ hte).run_size w
      have hu2 := und_sl (htt _ _ ht) hkd w
      rcases h6 with ⟨ad, c, e, _⟩ | ⟨c, e, _⟩
      · have e0 := run_loadCells_list (P := P) w ad [] (fun j u hj => by simp at hj)
        simp only [List.length_nil] at e0
        rw [e]; simp [Builtin.append_, hu2, e1, Builtin.lenOf, Builtin.firstCells, storeCells, e0]
      · rw [e]; simp [Builtin.append_, hu2, e1, Builtin.lenOf, Builtin.firstCells, storeCells]
    unfold goes execOp
    simp only [resolve, invoke, builtin, Sem.run_bind, Sem.run_pure, Result.andThen_ok, List.map_toArray, List.map_cons, List.map_nil, hev1, hev2, hr0, Option.map_none, List.length_nil, hrun]
    refine ⟨(), ρ, trivial, by simp [AV.conc, hr0], hlow, fun _ _ => rfl, ?_, fun _ _ _ _ _ => rfl⟩
    refine g.turn (fun _ _ => rfl) (Nat.le_refl L) (Ag.refl _ _) (fun l' o' hl' => ?_) (fun l1 l2 b h1 h2 h3 h4 => ?_) (fun l' b hl' hb' => .inr ⟨l', ?_, hb'⟩) (fun _ _ _ _ _ => by omega)
    · rw [hk_cons] at hl'
      split at hl'
      · rename_i e; subst e; cases hl'; exact hh
      · exact g.hp l' o' hl'
    · refine g.dis l1 l2 b ?_ ?_ h3 h4
      · obtain ⟨o1, h5, h7⟩ := h1
        rw [hk_cons] at h5
        split at h5
        · rename_i e; subst e; exact ⟨_, hl, rfl⟩
        · exact ⟨o1, h5, h7⟩
      · rw [hk_cons] at h2
        split at h2
        · rename_i e; subst e; rw [hl]; simp
        · exact h2
    · obtain ⟨o1, h5, h7⟩ := hl'
      rw [hk_cons] at h5
      split at h5
      · rename_i e; subst e; exact ⟨_, hl, rfl⟩
      · exact ⟨o1, h5, h7⟩
  · have hcur : ∀ i, i < p.length → cur.toList[i]? = (p.map byteV)[i]? := fun i hi => by
      rw [Array.getElem?_toList, hc i hi]; simp [hi]
    have after : ∀ w', w'.heap[b]? = some (.cells (cur.toList.take p.length ++ q.map byteV ++ cur.toList.drop (p.length + q.length)).toArray T (0, 0)) → (AO.bytes r cap T).holds ρ (some b) w' := fun w' hw' => by
      refine ⟨hroom, .inr ⟨b, _, rfl, hw', by simp; omega, fun i hi => ?_⟩⟩
      subst hr
      have hpl : (cur.toList.take p.length).length = p.length := by simp; omega
      rw [List.getElem?_toArray, List.append_assoc]
      by_cases h1 : i < p.length
      · rw [List.getElem?_append_left (by omega), List.getElem?_take, if_pos h1, hcur i h1, List.getElem_append_left h1]
        simp [h1]
      · rw [List.getElem?_append_right (by omega), hpl, List.getElem?_append_left (by simp; omega)]
        rw [List.getElem_append_right (by omega)]
        simp [show i - p.length < q.length by omega]
    rcases h6 with ⟨ad, c, e, hcell⟩ | ⟨c, e, hq1, hq2⟩
    · have hrun := run_append_room (P := P) w t ty T i hu hi b p.length cap cur hbk ad q.length c (q.map byteV) (by simp [hi1]) hcell (fun u hu => by obtain ⟨x, _, rfl⟩ := List.mem_map.1 hu; rfl) (by omega) (by simp [hi1]; omega)
      rw [hi1, Nat.mul_one, List.length_map] at hrun
      unfold goes execOp
      simp only [resolve, invoke, builtin, Sem.run_bind, Sem.run_pure, Result.andThen_ok, List.map_toArray, List.map_cons, List.map_nil, hev1, hev2, hr0, Option.map_some, e, hrun]
      refine ⟨(), ρ, trivial, by simp [AV.conc, hr0, hrl], hlow, fun _ _ => rfl, g.set hl rfl hr0 hlow2 (after _ (setRow_heap _ _ _ _ _ _ hbk)) (fun b' hb' => setRow_other _ _ _ _ hb') (by simp) ⟨rfl, rfl, rfl⟩, fun l' b' hl' hb' hn => ?_⟩
      by_cases e2 : b' = b
      · subst e2
        exact absurd (g.dis l l' b' ⟨_, hl, rfl⟩ hl' hr0 hb') (fun e => hn (by simp [e]))
      · exact (setRow_other _ _ _ _ e2).symm
    · have hq0 : q = [] := List.length_eq_zero_iff.1 hq1
      subst hq0
      rw [List.append_nil] at hr
      subst hr
      have hrun : (Builtin.append_ #[t, t] ty #[.slice (some ⟨b, 0, none⟩) p.length cap, v2.conc ρ]).run P w = .ok (.slice (some ⟨b, 0, none⟩) p.length cap) w := by
        have e1 := (htt _ _ hte).run_size w
        have hu2 := und_sl (htt _ _ ht) hkd w
        rw [e]; simp [Builtin.append_, hu2, e1, Builtin.lenOf, Builtin.firstCells, hroom, storeCells]
      unfold goes execOp
      simp only [resolve, invoke, builtin, Sem.run_bind, Sem.run_pure, Result.andThen_ok, List.map_toArray, List.map_cons, List.map_nil, hev1, hev2, hr0, Option.map_some, hrun]
      refine ⟨(), ρ, trivial, by simp [AV.conc, hr0], hlow, fun _ _ => rfl, g.set hl rfl hr0 hlow2 ?_ (fun b' hb' => rfl) rfl ⟨rfl, rfl, rfl⟩, fun _ _ _ _ _ => rfl⟩
      rw [← hr0]; exact hh.2.2
/-- append where there is no room: a new block; the old list stays -/
theorem R.apg (htt : TTok P tt) {t T : TypeId} {x y : Operand} {v2 : AV} {l n0 cap m : Nat} {p q r : List UInt8} {news : List AV} {tl te : TI} (hx : evA τ x = some (.sl l 1 0 n0 cap)) (hl : hk l h = some (.bytes p cap T)) (hn : n0 = p.length) (hy : evA τ y = some v2) (hs : SrcA E n L τ h F v2 m news) (hq : news = avB q) (hr : p ++ q = r)
    (ht : lk t tt = some tl) (hkd : tl.kind = .sl T) (hte : lk T tt = some te) (hok : (Nat.beq te.size 1 && Nat.beq te.bytes 1 && Nat.beq te.zero.length 1) = true)
    (hg : wantA ops ⟨some d, .call { callee := .builtin .append, args := #[x, y], argTypes := #[t, t] }, ty, ps, af, gd⟩ τ = some true) (hb : (Nat.ble (d + 1) n && chainB h D []) = true)
    (hm : m = q.length) (hroom : cap < r.length) (hcap : cap ≤ 9223372036854775807) (hby : r.length ≤ 140737488355328)
    (k : ∀ c, r.length ≤ c → c ≤ 9223372036854775807 → R P ops Q (actD h D []) E n (L + 1) ((d, .sl L 1 0 r.length c) :: τ) ((L, .bytes r c T) :: h) F rest) :
    R P ops Q D E n L τ h F (⟨some d, .call { callee := .builtin .append, args := #[x, y], argTypes := #[t, t] }, ty, ps, af, gd⟩ :: rest) := by
  simp only [Bool.and_eq_true] at hok
  have f1 := Nat.eq_of_beq_eq_true hok.1.1
  have f2 := Nat.eq_of_beq_eq_true hok.1.2
  have f3 := Nat.eq_of_beq_eq_true hok.2
  subst hq hn hm
  have hrl : r.length = p.length + q.length := by rw [← hr, List.length_append]
  refine R.newW (σ := Nat) (fun c => r.length ≤ c ∧ c ≤ 9223372036854775807) (fun c => .bytes r c T) (fun c => .sl L 1 0 r.length c) (fun _ ρ => sl_low ρ L _ _ _ _) (fun ρ a w g => ?_) hg hb (fun c hc => k c hc.1 hc.2)
  have hh := g.hp l _ hl
  obtain ⟨_, h6⟩ := hs ρ a w g
  rw [avB_concs] at h6
  obtain ⟨i, z, hi, hi1, hi2, hi3, hi4, _⟩ := (htt _ _ hte).info
  rw [f1] at hi1
  rw [f2] at hi2
  have hu := und_of_run (und_sl (htt _ _ ht) hkd w)
  have hev1 : a.eval x = .slice ((ρ l).map fun b => ⟨b, 0, none⟩) p.length cap := by rw [(g.eval x _ hx).2]; simp [AV.conc]
  have hev2 : a.eval y = v2.conc ρ := (g.eval y _ hy).2
  have hrow : RowL w (ρ l) cap te.size T (p.map byteV) := by rw [f1]; exact bytes_row.1 hh.2.2
  obtain ⟨r', c, w', e1, e2, e3, e4, e5, e6⟩ := run_append_row (n0 := p.length) (htt _ _ ht) hkd (htt _ _ hte) (by rw [f1, f3]) (by omega) hrow (by simp [f1]) hcap h6 (by simp [f1]) (fun u hu => by obtain ⟨x, _, rfl⟩ := List.mem_map.1 hu; rfl) (by rw [f2]; omega) (by omega) ty
  have hnew : Ag (fun _ => True) w w' ∧ r' = some w.heap.size ∧ w.heap.size < w'.heap.size := by
    rcases h6 with ⟨ad, c2, e, hcell⟩ | ⟨c2, e, hq1, hq2⟩
    · rcases hh.2.2.2 with ⟨hr0, hc0⟩ | ⟨b, cur, hr0, hbk, hs0, hc⟩
      · have hp0 : p = [] := List.length_eq_zero_iff.1 (by have := hh.2.2.1; omega)
        subst hp0
        rw [List.length_nil, Nat.zero_add] at hrl
        have hrun := run_append_nil (P := P) w t ty T i z hu hi hi3 ad q.length c2 (q.map byteV) (by simp [hi1]) hcell (by omega) (by omega) (by rw [hi2]; omega)
        rw [hr0, hc0, e] at e1
        simp only [Option.map_none, List.length_nil, Nat.zero_add] at e1
        rw [hrun] at e1
        simp only [Result.ok.injEq, Value.slice.injEq] at e1
        obtain ⟨⟨h7, _, _⟩, rfl⟩ := e1
        refine ⟨⟨rfl, rfl, rfl, by simp, fun b hb _ => heap_alloc_old _ _ hb⟩, ?_, by simp⟩
        cases r' with
        | none => cases h7
        | some b => simp only [Option.map_some, Option.some.injEq, Addr.mk.injEq, and_true] at h7; rw [h7]
      · have hfit := growslice_fits (bytes := 1) (old := cap) (need := p.length + q.length) (by omega) (by omega)
        have hrun := run_append_grow (P := P) w t ty T i z hu hi hi3 ⟨b, 0, none⟩ p.length cap (p.map byteV) (by simp [hi1]) (fun j v hj => by
          rw [List.getElem?_map] at hj
          obtain ⟨x, hx, rfl⟩ := Option.map_eq_some_iff.1 hj
          obtain ⟨h8, h9⟩ := List.getElem?_eq_some_iff.1 hx
          rw [addr_add0, cell_of_row w b _ _ T (0, 0) hbk, Nat.zero_add, hc j h8, h9]) ad q.length c2 (q.map byteV) (by simp [hi1]) hcell (by omega) (by omega) (by rw [hi2]; exact hfit)
        rw [hr0, e] at e1
        simp only [Option.map_some] at e1
        rw [hrun] at e1
        simp only [Result.ok.injEq, Value.slice.injEq] at e1
        obtain ⟨⟨h7, _, _⟩, rfl⟩ := e1
        refine ⟨⟨rfl, rfl, rfl, by simp, fun b hb _ => heap_alloc_old _ _ hb⟩, ?_, by simp⟩
        cases r' with
        | none => cases h7
        | some b => simp only [Option.map_some, Option.some.injEq, Addr.mk.injEq, and_true] at h7; rw [h7]
    · have := hh.2.2.1
      omega
  obtain ⟨h7, rfl, h8⟩ := hnew
  refine ⟨c, w', ⟨by omega, e4⟩, h7, h8, fun ρ' _ => ⟨AO.Low.bytes _ _ _ _ _, ?_⟩, ?_⟩
  · rw [f1] at e2
    refine bytes_row.2 ?_
    rw [← hr, List.map_append]
    exact e2
  · unfold execOp
    simp only [resolve, invoke, builtin, Sem.run_bind, Sem.run_pure, Result.andThen_ok, List.map_toArray, List.map_cons, List.map_nil, hev1, hev2, e1, AV.conc, updE_same, Option.map_some, Nat.zero_mul, hrl]
end
/-! less told, labels named anew: what is only read may bear several names -/
def onceR (r : Nat → Nat) (h2 : List (Nat × AO)) : Bool := h2.all fun p => p.2.isRo || h2.all fun q => Nat.beq p.1 q.1 || !Nat.beq (r p.1) (r q.1)
theorem lk_mem {α : Type} {l : Nat} {h : List (Nat × α)} {o : α} (hl : lk l h = some o) : (l, o) ∈ h := by
  induction h with
  | nil => simp [lk] at hl
  | cons p h ih =>
    obtain ⟨s, u⟩ := p
    rw [lk_cons] at hl
    split at hl
    · rename_i e; subst e; cases hl; simp
    · simp [ih hl]
theorem hk_lk {l : Nat} {h : List (Nat × AO)} {o : AO} (hl : hk l h = some o) : lk l h = some o := by
  unfold hk at hl
  split at hl
  · cases hl
  · exact hl
section
variable {E : Base} {ρ : Env} {n L : Nat} {τ : List (Nat × AV)} {h : List (Nat × AO)} {F : World → Prop} {a : Act} {w : World}
theorem Gam.impR (g : Gam E ρ n L τ h F a w) (r : Nat → Nat) (L2 : Nat) (τ2 : List (Nat × AV)) (h2 : List (Nat × AO)) (F2 : World → Prop) (hr : ∀ l, l < E.N → r l = l) (hrL : ∀ l, l < L2 → r l < L) (hN : E.N ≤ L2) (ht : HasT r L2 τ τ2) (hh : HasH r L2 h h2) (hnd : onceR r h2 = true)
    (hF2 : ∀ w, F w → F2 w) : Gam E (fun l => ρ (r l)) n L2 τ2 h2 F2 a w := by
  have live : ∀ l, hk l h2 ≠ none → hk (r l) h ≠ none ∧ ∃ o, (l, o) ∈ h2 := fun l hl => by
    cases ho : hk l h2 with
    | none => exact absurd ho hl
    | some o =>
      obtain ⟨⟨o', h1, _⟩, _, _, h4⟩ := hk_hasH hh l o ho
      exact ⟨by rw [h1]; simp, o, lk_mem (hk_lk ho)⟩
  have wr : ∀ l, wrA l h2 → wrA (r l) h := fun l hl => by
    obtain ⟨o, ho, hro⟩ := hl
    obtain ⟨⟨o', h1, h3, _⟩, _⟩ := hk_hasH hh l o ho
    exact ⟨o', h1, h3 hro⟩
  refine ⟨g.df, g.sz, fun t v hv => ?_, fun l o ho => ?_, fun l l' b hl hl' hb hb' => ?_, fun w' hw => ?_, fun l hl => ?_, hN, fun l b hl hb => g.al (r l) b (hrL l hl) hb⟩
  · obtain ⟨h1, h2'⟩ := lk_hasT ht t v hv
    have := g.tm t _ h1
    exact ⟨bdLow h2' _, by rw [this.2, ren_conc]⟩
  · obtain ⟨⟨o', h1, _, h2'⟩, h3, h4, _⟩ := hk_hasH hh l o ho
    have := g.hp (r l) o' h1
    exact ⟨h3, h4.low _, (ren_holds r ρ o _ w).1 (h2' _ _ _ this.2.2)⟩
  · have h1 := wr l hl
    have h2' := live l' hl'
    have e := g.dis _ _ b h1 h2'.1 hb hb'
    obtain ⟨o, ho, hro⟩ := hl
    obtain ⟨o2, ho2⟩ := h2'.2
    have h3 := List.all_eq_true.1 hnd _ (lk_mem (hk_lk ho))
    simp only [hro, Bool.false_or] at h3
    have h4 := List.all_eq_true.1 h3 _ ho2
    simp only [Bool.or_eq_true, Bool.not_eq_true'] at h4
    rcases h4 with h4 | h4
    · exact Nat.eq_of_beq_eq_true h4
    · rw [e, Nat.beq_refl] at h4; cases h4
  · exact hF2 _ (g.fr w' (hw.mono fun b _ hd l hl hb => hd (r l) (wr l hl) hb))
  · simp only [hr l hl]; exact g.ex l hl
end
section
variable {P : Program} {Q : Exit → Act → World → Prop} {E : Base} {n L : Nat} {τ : List (Nat × AV)} {h : List (Nat × AO)} {F : World → Prop}
theorem at_ofR {σ : Type} {L2 : Nat} {Inv : σ → Prop} {T : σ → List (Nat × AV)} {H : σ → List (Nat × AO)} {F2 : World → Prop} {μ : σ → Nat} {m : Nat} {ρ : Env} {a : Act} {w : World} (g : Gam E ρ n L τ h F a w) (rl : List (Nat × Nat)) (s : σ) (hI : Inv s) (hm : μ s < m) (hb : rnB E.N L2 L rl = true)
    (ht : HasT (rnF rl) L2 τ (T s)) (hh : HasH (rnF rl) L2 h (H s)) (hnd : onceR (rnF rl) (H s) = true) (hF : ∀ w, F w → F2 w) : At E n L2 Inv T H F2 μ m a w := by
  obtain ⟨h1, h2, h3⟩ := rn_ok hb
  exact ⟨s, hI, hm, _, g.impR (rnF rl) L2 (T s) (H s) F2 h1 h2 h3 ht hh hnd hF⟩
theorem X.backR {σ : Type} {L2 : Nat} {Inv : σ → Prop} {T : σ → List (Nat × AV)} {H : σ → List (Nat × AO)} {F2 : World → Prop} {μ : σ → Nat} {m : Nat} (rl : List (Nat × Nat)) (s : σ) (hI : Inv s) (hm : μ s < m) (hb : rnB E.N L2 L rl = true)
    (ht : HasT (rnF rl) L2 τ (T s)) (hh : HasH (rnF rl) L2 h (H s)) (hnd : onceR (rnF rl) (H s) = true) (hF : ∀ w, F w → F2 w) : X (Exit.then (At E n L2 Inv T H F2 μ m) Q) .normal E n L τ h F :=
  ⟨fun ρ a w g => at_ofR g rl s hI hm hb ht hh hnd hF⟩
theorem C.lessR {c : Code} (rl : List (Nat × Nat)) (L2 : Nat) (τ2 : List (Nat × AV)) (h2 : List (Nat × AO)) (F2 : World → Prop) (hb : rnB E.N L2 L rl = true) (ht : HasT (rnF rl) L2 τ τ2) (hh : HasH (rnF rl) L2 h h2) (hnd : onceR (rnF rl) h2 = true) (hF : ∀ w, F w → F2 w)
    (k : C P c Q E n L2 τ2 h2 F2) : C P c Q E n L τ h F := ⟨fun ρ a w g => by
  obtain ⟨h1, h3, h4⟩ := rn_ok hb
  exact k.out _ a w (g.impR (rnF rl) L2 τ2 h2 F2 h1 h3 h4 ht hh hnd hF)⟩
end
section
variable {P : Program} {Q : Exit → Act → World → Prop} {E : Base} {n L : Nat} {τ : List (Nat × AV)} {h : List (Nat × AO)} {F : World → Prop}
theorem X.then2 {y : Code} {Q1 Q2 : Exit → Act → World → Prop} (k : C P y Q1 E n L τ h F) : X (Exit.then (y.wp P Q1) Q2) .normal E n L τ h F := ⟨fun ρ a w g => k.out ρ a w g⟩
/-- ways meet behind x -/
theorem C.cutf {σ : Type} {x y : Code} (L2 : Nat) (Inv : σ → Prop) (T : σ → List (Nat × AV)) (H : σ → List (Nat × AO)) (kx : C P x (Exit.then (At E n L2 Inv T H F (fun _ => 0) 1) Q) E n L τ h F) (ky : ∀ s, Inv s → C P y Q E n L2 (T s) (H s) F) : C P (.seq x y) Q E n L τ h F := C.cut L2 Inv T H F kx ky
/-- ways meet behind x2: in x1 and x2 they may part -/
theorem C.cut2 {σ : Type} {x1 x2 y : Code} (L2 : Nat) (Inv : σ → Prop) (T : σ → List (Nat × AV)) (H : σ → List (Nat × AO)) (F2 : World → Prop) (kx : C P x1 (Exit.then (x2.wp P (Exit.then (At E n L2 Inv T H F2 (fun _ => 0) 1) Q)) Q) E n L τ h F) (ky : ∀ s, Inv s → C P y Q E n L2 (T s) (H s) F2) :
    C P (.seq x1 (.seq x2 y)) Q E n L τ h F :=
  ⟨fun ρ a w g => wp_seq (wp_mono (kx.out ρ a w g) fun e a' w' hq => by
    cases e with
    | normal =>
      refine wp_seq (wp_mono hq fun e2 a2 w2 hq2 => ?_)
      cases e2 with
      | normal =>
        obtain ⟨s', h1, h2, ρ', h3⟩ := hq2
        exact (ky s' h1).out ρ' a2 w2 h3
      | exit id => exact hq2
      | goto l => exact hq2
      | ret => exact hq2
      | panic ch => exact hq2
      | outgrown => exact hq2
    | exit id => exact hq
    | goto l => exact hq
    | ret => exact hq
    | panic ch => exact hq
    | outgrown => exact hq)⟩
end
end Go.Proofs.Yteabncomclgncaa
