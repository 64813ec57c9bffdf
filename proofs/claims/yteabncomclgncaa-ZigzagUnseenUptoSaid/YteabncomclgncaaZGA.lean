/- zigzag: what lives, as a plain list; ZigzagUnseen (XZJ XZG merged) -/
import Derived.Test.YteabncomclgncaaZW
/- zigzag: what lives, as a plain list -/
namespace Go.Proofs.Yteabncomclgncaa
set_option linter.unusedVariables false
set_option linter.unusedSimpArgs false
open Go.RowKit
set_option maxRecDepth 100000
set_option maxHeartbeats 4000000
abbrev VL := List (ByteArray × Int)
abbrev vw (p : PIZ) : ByteArray × Int := (p.1, p.2.2.get p.2.2.rd)
def VZ (l : ZL) : VL := (liveL l).map vw
theorem vz_app (x y : ZL) : VZ (x ++ y) = VZ x ++ VZ y := by unfold VZ liveL; rw [List.filter_append, List.map_append]
theorem vz_cons (p : PIZ) (y : ZL) : VZ (p :: y) = (if p.2.2.live = true then [vw p] else []) ++ VZ y := by
  unfold VZ liveL
  rw [List.filter_cons]
  show List.map vw (if p.2.2.live = true then _ else _) = _
  cases p.2.2.live <;> rfl
theorem vz_mem {l : ZL} {q : ByteArray × Int} (h : q ∈ VZ l) : ∃ p ∈ l, q.1 = p.1 := by
  obtain ⟨p, hp, rfl⟩ := List.mem_map.1 h
  exact ⟨p, (List.mem_filter.1 hp).1, rfl⟩
abbrev ltV (k : ByteArray) (p : ByteArray × Int) : Bool := decide (cmpS p.1 k < 0)
abbrev gtV (k : ByteArray) (p : ByteArray × Int) : Bool := decide (cmpS k p.1 < 0)
abbrev eqV (k : ByteArray) (p : ByteArray × Int) : Bool := decide (cmpS p.1 k = 0)
theorem take_lt {l : ZL} (hA : Asc l) (k : ByteArray) : ∀ p ∈ l.take (plc l k), cmpS p.1 k < 0 := fun p hp => by
  obtain ⟨i, hi, rfl⟩ := List.mem_iff_getElem.1 hp
  rw [List.length_take] at hi
  have := plc_iff hA k zG i (by omega)
  rw [zG_get (by omega)] at this
  rw [List.getElem_take]
  exact this.2 (by omega)
theorem drop_ge {l : ZL} (hA : Asc l) (k : ByteArray) : ∀ p ∈ l.drop (plc l k), ¬ cmpS p.1 k < 0 := fun p hp => by
  obtain ⟨i, hi, rfl⟩ := List.mem_iff_getElem.1 hp
  rw [List.length_drop] at hi
  have := plc_iff hA k zG (plc l k + i) (by omega)
  rw [zG_get (by omega)] at this
  rw [List.getElem_drop]
  exact fun h => by have := this.1 h; omega
theorem drop_gt {l : ZL} (hA : Asc l) (k : ByteArray) : ∀ p ∈ l.drop (aboveN l k), cmpS k p.1 < 0 := fun p hp => by
  obtain ⟨i, hi, rfl⟩ := List.mem_iff_getElem.1 hp
  rw [List.length_drop] at hi
  have := above_iff hA k (i := aboveN l k + i) (by omega)
  rw [zG_get (by omega), gt_cmp] at this
  rw [List.getElem_drop]
  exact of_decide_eq_true (this.trans (decide_eq_true (by omega)))
theorem take_le {l : ZL} (hA : Asc l) (k : ByteArray) : ∀ p ∈ l.take (aboveN l k), ¬ cmpS k p.1 < 0 := fun p hp => by
  obtain ⟨i, hi, rfl⟩ := List.mem_iff_getElem.1 hp
  have hle := aboveN_le l k
  rw [List.length_take] at hi
  have := above_iff hA k (i := i) (by omega)
  rw [zG_get (by omega), gt_cmp] at this
  rw [List.getElem_take]
  exact of_decide_eq_false (this.trans (decide_eq_false (by omega)))
theorem vz_lt {l : ZL} (hA : Asc l) (k : ByteArray) : (VZ l).filter (ltV k) = VZ (l.take (plc l k)) := by
  conv => lhs; rw [← List.take_append_drop (plc l k) l, vz_app, List.filter_append]
  rw [List.filter_eq_self.2 (fun q hq => by obtain ⟨p, hp, e⟩ := vz_mem hq; exact decide_eq_true (by rw [e]; exact take_lt hA k p hp)), List.filter_eq_nil_iff.2 (fun q hq => by obtain ⟨p, hp, e⟩ := vz_mem hq; simp only [ltV, decide_eq_true_eq]; rw [e]; exact drop_ge hA k p hp), List.append_nil]
theorem vz_gt {l : ZL} (hA : Asc l) (k : ByteArray) : (VZ l).filter (gtV k) = VZ (l.drop (aboveN l k)) := by
  conv => lhs; rw [← List.take_append_drop (aboveN l k) l, vz_app, List.filter_append]
  rw [List.filter_eq_nil_iff.2 (fun q hq => by obtain ⟨p, hp, e⟩ := vz_mem hq; simp only [gtV, decide_eq_true_eq]; rw [e]; exact take_le hA k p hp), List.filter_eq_self.2 (fun q hq => by obtain ⟨p, hp, e⟩ := vz_mem hq; exact decide_eq_true (by rw [e]; exact drop_gt hA k p hp)), List.nil_append]
/-- a list about a text -/
theorem vz_split {l : ZL} (hA : Asc l) (k : ByteArray) : VZ l = (VZ l).filter (ltV k) ++ (if isV l k = true then [(k, getV l k)] else []) ++ (VZ l).filter (gtV k) := by
  rw [vz_lt hA, vz_gt hA]
  unfold aboveN isV getV
  cases hk : hasK l k with
  | false =>
    simp only [Bool.false_eq_true, if_false, List.append_nil]
    rw [← vz_app, List.take_append_drop]
  | true =>
    simp only [if_true]
    have hlt := (hasK_lt hk).1
    conv => lhs; rw [del_split hlt, vz_app, vz_cons]
    have hkey := hasK_key hk
    unfold slotV
    rw [← List.append_assoc]
    cases (l.getD (plc l k) zG).2.2.live with
    | true => simp only [if_true, vw, hkey]
    | false => simp
def vput (V : VL) (k : ByteArray) (v : Int) : VL := V.filter (ltV k) ++ [(k, v)] ++ V.filter (gtV k)
def vdel (V : VL) (k : ByteArray) : VL := V.filter (ltV k) ++ V.filter (gtV k)
theorem vz_put {l : ZL} (hA : Asc l) (k : ByteArray) (v : Int) (b : Nat) : VZ (zput l k v b) = vput (VZ l) k v := by
  unfold vput
  rw [vz_lt hA, vz_gt hA]
  have hlay : ∀ s : Sl Int, (s.lay v true).live = true ∧ (s.lay v true).get (s.lay v true).rd = v := fun s => by
    obtain ⟨c0, c1, h0, h1, rd, wr⟩ := s
    cases wr <;> exact ⟨rfl, rfl⟩
  unfold zput aboveN
  cases hk : hasK l k with
  | false =>
    simp only [Bool.false_eq_true, if_false]
    unfold insL
    rw [vz_app, vz_cons, ← List.append_assoc]
    show VZ _ ++ (if (newS.lay v true).live = true then [(k, (newS.lay v true).get (newS.lay v true).rd)] else []) ++ _ = _
    rw [(hlay newS).1, (hlay newS).2, if_pos rfl]
  | true =>
    simp only [if_true]
    have hlt := (hasK_lt hk).1
    rw [zup_split hlt, vz_app, vz_cons, ← List.append_assoc]
    show VZ _ ++ (if ((slotV l k).lay v true).live = true then [((l.getD (plc l k) zG).1, ((slotV l k).lay v true).get ((slotV l k).lay v true).rd)] else []) ++ _ = _
    rw [(hlay _).1, (hlay _).2, if_pos rfl, hasK_key hk]
theorem vz_del {l : ZL} (hA : Asc l) (k : ByteArray) (mk : Bool) : VZ (zdel l k mk) = vdel (VZ l) k := by
  unfold zdel
  cases hv : isV l k with
  | false =>
    rw [if_neg (by decide)]
    have := vz_split hA k
    rw [hv, if_neg (by decide), List.append_nil] at this
    exact this
  | true =>
    rw [if_pos rfl]
    have hk := (isV_has hv).1
    have hlt := (hasK_lt hk).1
    unfold vdel
    rw [vz_lt hA, vz_gt hA]
    unfold aboveN
    rw [if_pos hk]
    cases mk with
    | true =>
      rw [if_pos rfl, zup_split hlt, vz_app, vz_cons]
      show VZ _ ++ ((if ((slotV l k).lay 0 false).live = true then _ else []) ++ _) = _
      rw [show ((slotV l k).lay 0 false).live = false by
        generalize slotV l k = s
        obtain ⟨c0, c1, h0, h1, rd, wr⟩ := s
        cases wr <;> rfl, if_neg (by decide), List.nil_append]
    | false =>
      rw [if_neg (by decide)]
      unfold delL
      rw [vz_app]
theorem vz_sw (l : ZL) (g : Sl Int → Sl Int) (h1 : ∀ s, (g s).live = s.live) (h2 : ∀ s, (g s).get (g s).rd = s.get s.rd) : VZ (zsw l g) = VZ l := by
  unfold VZ zsw liveL
  rw [List.filter_filter, List.filter_map, List.map_map]
  have e : ((fun p : PIZ => liveZ p && p.2.2.live) ∘ gP g) = liveZ := by
    funext p
    show ((g p.2.2).live && (g p.2.2).live) = p.2.2.live
    rw [h1, Bool.and_self]
  rw [e]
  exact List.map_congr_left fun p _ => by show (p.1, (g p.2.2).get (g p.2.2).rd) = _; rw [h2]
def vwr (x : StZ) (V : VL) : VL := if x.kind = 2 then vdel V x.key else if x.kind = 1 then vput V x.key x.v else V
theorem vz_wr {l : ZL} (hA : Asc l) (x : StZ) (mk : Bool) (b : Nat) : VZ (wrZ x l mk b) = vwr x (VZ l) := by
  unfold wrZ vwr
  split
  · exact vz_del hA _ _
  · split
    · exact vz_put hA _ _ _
    · rfl
/-! how many -/
theorem vz_len {l : ZL} (hA : Asc l) (k : ByteArray) : ((VZ l).length : Int) = ((VZ l).filter (ltV k)).length + b01 (isV l k) + ((VZ l).filter (gtV k)).length := by
  conv => lhs; rw [vz_split hA k]
  rw [List.length_append, List.length_append]
  cases isV l k <;> simp [b01]
theorem wrN_len {l : ZL} (hA : Asc l) (x : StZ) (mk : Bool) (b : Nat) {hs : Int} (h : hs = (VZ l).length) : wrN x l hs = (VZ (wrZ x l mk b)).length := by
  rw [vz_wr hA]
  have h2 := vz_len hA x.key
  unfold wrN vwr
  split
  · unfold zdelN vdel
    rw [List.length_append]
    cases hv : isV l x.key with
    | true =>
      rw [if_pos rfl, layN_eq, h]
      rw [hv] at h2
      simp [b01] at h2 ⊢
      omega
    | false =>
      rw [if_neg (by decide), h]
      rw [hv] at h2
      simp [b01] at h2 ⊢
      omega
  · split
    · unfold zputN vput
      rw [layN_eq, h, List.length_append, List.length_append]
      simp [b01] at h2 ⊢
      omega
    · exact h
/-! what is told -/
/-- no number where nothing is -/
def DZ (l : ZL) : Prop := ∀ p ∈ l, p.2.2.live = false → p.2.2.get p.2.2.rd = 0
theorem getV0 {l : ZL} (hd : DZ l) {k : ByteArray} (h : isV l k = false) : getV l k = 0 := by
  unfold getV
  unfold isV at h
  split
  · rename_i hk
    rw [if_pos hk] at h
    have hlt := (hasK_lt hk).1
    have hm := List.getElem_mem hlt
    rw [← zG_get hlt] at hm
    exact hd _ hm h
  · rfl
theorem vz_mid {l : ZL} (hA : Asc l) (k : ByteArray) : (VZ l).filter (eqV k) = if isV l k = true then [(k, getV l k)] else [] := by
  have hl : ∀ q ∈ (VZ l).filter (ltV k), ¬ eqV k q = true := fun q hq => by
    have := of_decide_eq_true (List.mem_filter.1 hq).2
    simp only [eqV, decide_eq_true_eq]; omega
  have hg : ∀ q ∈ (VZ l).filter (gtV k), ¬ eqV k q = true := fun q hq => by
    have := of_decide_eq_true (List.mem_filter.1 hq).2
    simp only [eqV, decide_eq_true_eq]
    rw [cmpS_swap] at this
    omega
  conv => lhs; rw [vz_split hA k, List.filter_append, List.filter_append, List.filter_eq_nil_iff.2 hl, List.filter_eq_nil_iff.2 hg]
  cases isV l k with
  | true => simp [eqV, cmpS_self]
  | false => simp
theorem tell_get {l m : ZL} (hl : Asc l) (hm : Asc m) (dl : DZ l) (dm : DZ m) (h : VZ l = VZ m) (k : ByteArray) : isV l k = isV m k ∧ getV l k = getV m k := by
  have h1 := vz_mid hl k
  have h2 := vz_mid hm k
  rw [h, h2] at h1
  cases ha : isV l k <;> cases hb : isV m k <;> rw [ha, hb] at h1
  · exact ⟨rfl, by rw [getV0 dl ha, getV0 dm hb]⟩
  · simp at h1
  · simp at h1
  · refine ⟨rfl, ?_⟩
    simp at h1
    exact h1.symm
theorem nx_eq {l : ZL} (hA : Asc l) (k : ByteArray) : nxK l (aboveN l k) = match ((VZ l).filter (gtV k)).head? with
    | some p => (p.1, true)
    | none => (⟨#[]⟩, false) := by
  rw [vz_gt hA]
  unfold nxK VZ liveL
  rw [List.head?_map, List.head?_filter]
  show (match List.find? liveZ (l.drop (aboveN l k)) with | some p => (p.1, true) | none => _) = _
  cases List.find? liveZ (l.drop (aboveN l k)) <;> rfl
theorem tell_next {l m : ZL} (hl : Asc l) (hm : Asc m) (h : VZ l = VZ m) (k : ByteArray) : nxK l (aboveN l k) = nxK m (aboveN m k) := by
  rw [nx_eq hl, nx_eq hm, h]
abbrev inV (fr to : ByteArray) (p : ByteArray × Int) : Bool := !(ltV fr p) && !(past to p.1)
theorem rg_eq {l : ZL} (hA : Asc l) {fr to : ByteArray} {j : Nat} (h : rgOk l fr to j) : (segF liveZ l (plc l fr) j).map vw = (VZ l).filter (inV fr to) := by
  obtain ⟨h1, h2, h3, h4⟩ := h
  have e : l = l.take (plc l fr) ++ (l.take j).drop (plc l fr) ++ l.drop j := by
    conv => lhs; rw [← List.take_append_drop j l]
    congr 1
    conv => lhs; rw [← List.take_append_drop (plc l fr) (l.take j)]
    rw [List.take_take, Nat.min_eq_left h1]
  conv => rhs; rw [e, vz_app, vz_app, List.filter_append, List.filter_append]
  rw [List.filter_eq_nil_iff.2 (fun q hq => by
    obtain ⟨p, hp, e⟩ := vz_mem hq
    have := take_lt hA fr p hp
    rw [← e] at this
    simp [inV, ltV, this]), List.nil_append, List.filter_eq_self.2 (fun q hq => ?_), List.filter_eq_nil_iff.2 (fun q hq => ?_), List.append_nil]
  · rfl
  · obtain ⟨p, hp, e⟩ := vz_mem hq
    obtain ⟨i, hi, rfl⟩ := List.mem_iff_getElem.1 hp
    rw [List.length_drop] at hi
    have hlt : j + i < l.length := by omega
    rw [List.getElem_drop] at e
    have hp := h4 (by omega)
    have : past to q.1 = true := by
      rw [e]
      unfold past at hp ⊢
      rw [Bool.and_eq_true] at hp ⊢
      refine ⟨hp.1, ?_⟩
      have hp2 := hp.2
      rw [gt_cmp] at hp2 ⊢
      have hp3 := of_decide_eq_true hp2
      refine decide_eq_true ?_
      cases i with
      | zero =>
        rw [zG_get (by omega)] at hp3
        exact hp3
      | succ i =>
        have := asc_lt hA (i := j) (j := j + (i + 1)) (by omega) hlt
        rw [zG_get hlt] at this
        exact cmpS_trans hp3 this
    simp [inV, this]
  · obtain ⟨p, hp, e⟩ := vz_mem hq
    obtain ⟨i, hi, rfl⟩ := List.mem_iff_getElem.1 hp
    rw [List.length_drop, List.length_take] at hi
    rw [List.getElem_drop, List.getElem_take] at e
    have hlt : plc l fr + i < l.length := by omega
    have g1 := h3 (plc l fr + i) (by omega) (by omega)
    rw [zG_get hlt, ← e] at g1
    have g2 : ¬ cmpS q.1 fr < 0 := by
      rw [e]
      have := plc_iff hA fr zG (plc l fr + i) hlt
      rw [zG_get hlt] at this
      exact fun h => by have := this.1 h; omega
    simp [inV, ltV, g1, g2]
theorem tell_rg {l m : ZL} (hl : Asc l) (hm : Asc m) (h : VZ l = VZ m) {fr to : ByteArray} {i j : Nat} (hi : rgOk l fr to i) (hj : rgOk m fr to j) : keysZ (segF liveZ l (plc l fr) i) = keysZ (segF liveZ m (plc m fr) j) ∧ lvZ (segF liveZ l (plc l fr) i) = lvZ (segF liveZ m (plc m fr) j) := by
  have e := (rg_eq hl hi).trans ((congrArg _ h).trans (rg_eq hm hj).symm)
  have e1 := congrArg (List.map Prod.fst) e
  have e2 := congrArg (List.map Prod.snd) e
  rw [List.map_map, List.map_map] at e1 e2
  exact ⟨e1, e2⟩
end Go.Proofs.Yteabncomclgncaa
/- zigzag: ZigzagUnseen -/
namespace Go.Proofs.Yteabncomclgncaa
set_option linter.unusedVariables false
set_option linter.unusedSimpArgs false
open Go.RowKit
set_option maxRecDepth 100000
set_option maxHeartbeats 8000000
section
variable {P : Program} {ops : Array Oper} {Q : Exit → Act → World → Prop} {D : Option DD} {E : Base} {n L : Nat} {τ : List (Nat × AV)} {h : List (Nat × AO)} {rest : List Oper} {H0 : List AO} {R0 : Env} {W0 : World} {FS0 fs G fr : Fam}
theorem R.dropM (k : R P ops Q D E n L τ h (FF H0 R0 W0 FS0 (fs ++ fr)) rest) : R P ops Q D E n L τ h (FF H0 R0 W0 FS0 ((fs ++ G) ++ fr)) rest :=
  R.wkD (fun w hf => hf.less (fun x hx => by
    rcases List.mem_append.1 hx with hx | hx
    · exact List.mem_append_left _ (List.mem_append_left _ hx)
    · exact List.mem_append_right _ hx) (hf.ap.sublist ((List.sublist_append_left _ _).append (List.Sublist.refl _)))) k
end
def ALz (l : ZL) : Prop := ∀ p ∈ l, p.2.2.live = true
theorem dz_al {l : ZL} (h : ALz l) : DZ l := fun p hp hd => by rw [h p hp] at hd; cases hd
theorem alz_zsw (l : ZL) (g : Sl Int → Sl Int) : ALz (zsw l g) := fun p hp => (List.mem_filter.1 hp).2
theorem lay_liveZ (s : Sl Int) (v : Int) (h : Bool) : (s.lay v h).live = h := by
  obtain ⟨c0, c1, h0, h1, rd, wr⟩ := s
  cases wr <;> rfl
theorem alz_wr {l : ZL} (h : ALz l) (x : StZ) (b : Nat) : ALz (wrZ x l false b) := by
  unfold wrZ
  split
  · unfold zdel
    split
    · rw [if_neg (by decide)]
      exact fun p hp => h p ((del_sub l _).subset hp)
    · exact h
  · split
    · unfold zput
      split
      · intro p hp
        rcases List.mem_or_eq_of_mem_set hp with hp | rfl
        · exact h p hp
        · exact lay_liveZ _ _ _
      · intro p hp
        unfold insL at hp
        rcases List.mem_append.1 hp with hp | hp
        · exact h p (List.mem_of_mem_take hp)
        · rcases List.mem_cons.1 hp with rfl | hp
          · exact lay_liveZ _ _ _
          · exact h p (List.mem_of_mem_drop hp)
    · exact h
theorem dz_up {l : ZL} (h : DZ l) (i : Nat) {s : Sl Int} (hs : s.live = false → s.get s.rd = 0) : DZ (zup l i s) := fun p hp hd => by
  rcases List.mem_or_eq_of_mem_set hp with hp | rfl
  · exact h p hp hd
  · exact hs hd
theorem dz_wr {l : ZL} (h : DZ l) (x : StZ) (mk : Bool) (b : Nat) : DZ (wrZ x l mk b) := by
  unfold wrZ
  split
  · unfold zdel
    split
    · cases mk with
      | true =>
        rw [if_pos rfl]
        refine dz_up h _ fun _ => ?_
        generalize slotV l x.key = s
        obtain ⟨c0, c1, h0, h1, rd, wr⟩ := s
        cases wr <;> rfl
      | false =>
        rw [if_neg (by decide)]
        exact fun p hp => h p ((del_sub l _).subset hp)
    · exact h
  · split
    · unfold zput
      split
      · exact dz_up h _ fun hd => by rw [lay_liveZ] at hd; cases hd
      · intro p hp hd
        unfold insL at hp
        rcases List.mem_append.1 hp with hp | hp
        · exact h p (List.mem_of_mem_take hp) hd
        · rcases List.mem_cons.1 hp with rfl | hp
          · have := lay_liveZ newS x.v true
            rw [this] at hd; cases hd
          · exact h p (List.mem_of_mem_drop hp) hd
    · exact h
theorem has_al {l : ZL} (h : ALz l) (k : ByteArray) : isV l k = hasK l k := by
  unfold isV
  cases hk : hasK l k with
  | false => rfl
  | true =>
    rw [if_pos rfl]
    have hlt := (hasK_lt hk).1
    unfold slotV
    rw [zG_get hlt]
    exact h _ (List.getElem_mem hlt)
theorem mk_pack {l : ZL} {W : VL} {n c : Nat} (mk : Bool) (hA : Asc l) (hD : DZ l) (hV : VZ l = W) (hl : l.length ≤ n) (hc : l.length ≤ c) : Asc (if mk = true then l else zsw l Sl.mark) ∧ DZ (if mk = true then l else zsw l Sl.mark) ∧ VZ (if mk = true then l else zsw l Sl.mark) = W ∧ (if mk = true then l else zsw l Sl.mark).length ≤ n ∧ (if mk = true then l else zsw l Sl.mark).length ≤ c := by
  have hle := zsw_len l Sl.mark
  cases mk with
  | true => simp only [if_true]; exact ⟨hA, hD, hV, hl, hc⟩
  | false =>
    simp only [Bool.false_eq_true, if_false]
    exact ⟨asc_zsw hA _, dz_al (alz_zsw l _), (vz_sw l _ (fun s => (mark_held s).2.1) (fun s => rfl)).trans hV, by omega, by omega⟩
theorem dn_pack {l : ZL} {W : VL} {n c : Nat} (mk : Bool) (hA : Asc l) (hD : DZ l) (hL : mk = false → ALz l) (hV : VZ l = W) (hl : l.length ≤ n) (hc : l.length ≤ c) : Asc (if mk = true then zsw l id else l) ∧ ALz (if mk = true then zsw l id else l) ∧ VZ (if mk = true then zsw l id else l) = W ∧ (if mk = true then zsw l id else l).length ≤ n ∧ (if mk = true then zsw l id else l).length ≤ c := by
  have hle := zsw_len l id
  cases mk with
  | true => simp only [if_true]; exact ⟨asc_zsw hA _, alz_zsw l _, (vz_sw l _ (fun s => rfl) (fun s => rfl)).trans hV, by omega, by omega⟩
  | false =>
    simp only [Bool.false_eq_true, if_false]
    exact ⟨hA, hL rfl, hV, hl, hc⟩
theorem FF.nil1 {h0 : List AO} {ρ0 : Env} {w0 : World} {fs : Fam} {w : World} (h : FF h0 ρ0 w0 [] fs w) : FF h0 ρ0 w0 [] [] w := h.less (fun p hp => by cases hp) List.Pairwise.nil
theorem zigzagUnseen_law (sc : List StZ) (off cap : Nat) (hsc : sc.length ≤ 9223372036854775807) :
    Spec Try.prog 10 [.sl 0 1 off sc.length cap] [roZ off sc] 1 (σ := Unit) (fun _ => True) (fun _ => .raw (.bool true)) (fun _ => []) := by
  refine Spec.ofF Try.func10 rfl Try.ntmps10 rfl (by repeat (first | exact bdl_nil _ | refine bdl_cons (rowsZ_bd _ _ _ _) ?_ | refine bdl_cons rfl ?_ | refine bdl_cons (fun _ _ => rfl) ?_ | refine bdl_cons (roA_bd rfl) ?_)) fun ρ w => ?_
  repeat (first | refine C.seq ?_ | refine C.region ?_ | refine R.zb ttok ?_ | refine R.zu ttok ?_ | refine R.zc ttok ?_ | refine R.za ttok ?_ | refine R.zx ?_ | refine R.zl ttok ?_ | refine R.zs ttok ?_ | refine R.z ttok ?_ | refine R.zk ?_ | refine R.zn ?_ | refine R.done ?_ | refine X.then ?_ | refine C.block ?_ | refine C.ret ?_ | refine C.skip ?_ | refine C.exit ?_ | refine X.pass_ret ?_ | refine X.pass_exit ?_ | refine X.block_normal ?_ | refine X.block_ret ?_ | refine X.block_exit ?_ | refine C.zt ?_ | refine C.zf ?_ | refine X.zo ?_)
  refine R.cl [0] (much_spec sc off cap hsc) Try.call16 ((by exact .roz rfl .nil)) rfl rfl rfl (fun _ => rfl) rfl (by kernel_rfl) fun b1 hb1 => ?_
  cases b1 with
  | true =>
    repeat (first | refine C.seq ?_ | refine C.region ?_ | refine R.zb ttok ?_ | refine R.zu ttok ?_ | refine R.zc ttok ?_ | refine R.za ttok ?_ | refine R.zx ?_ | refine R.zl ttok ?_ | refine R.zs ttok ?_ | refine R.z ttok ?_ | refine R.zk ?_ | refine R.zn ?_ | refine R.done ?_ | refine X.then ?_ | refine C.block ?_ | refine C.ret ?_ | refine C.skip ?_ | refine C.exit ?_ | refine X.pass_ret ?_ | refine X.pass_exit ?_ | refine X.block_normal ?_ | refine X.block_ret ?_ | refine X.block_exit ?_ | refine C.zt ?_ | refine C.zf ?_ | refine X.zo ?_)
    refine R.clF [] (known_specZ) (Nat.le_refl _) (fun _ _ => rfl) Try.call11 (by repeat (first | exact HasIn.nil | refine HasIn.same rfl rfl ?_ | refine HasIn.bro rfl ?_ | refine HasIn.ror rfl ?_ | refine HasIn.cro rfl rfl ?_)) rfl rfl rfl (fun _ => rfl) rfl (by kernel_rfl) fun _ _ => ?_
    repeat (first | refine C.seq ?_ | refine C.region ?_ | refine R.zb ttok ?_ | refine R.zu ttok ?_ | refine R.zc ttok ?_ | refine R.za ttok ?_ | refine R.zx ?_ | refine R.zl ttok ?_ | refine R.zs ttok ?_ | refine R.z ttok ?_ | refine R.zk ?_ | refine R.zn ?_ | refine R.done ?_ | refine X.then ?_ | refine C.block ?_ | refine C.ret ?_ | refine C.skip ?_ | refine C.exit ?_ | refine X.pass_ret ?_ | refine X.pass_exit ?_ | refine X.block_normal ?_ | refine X.block_ret ?_ | refine X.block_exit ?_ | refine C.zt ?_ | refine C.zf ?_ | refine X.zo ?_)
    refine X.finS ttok () [] trivial rfl rfl rfl (by repeat (first | exact HasH.nil | refine HasH.same rfl rfl rfl trivial ?_ | refine HasH.same rfl rfl rfl rfl ?_ | refine HasH.same rfl rfl rfl (fun _ _ => rfl) ?_ | refine HasH.ros rfl rfl ?_)) _ (by first | exact .inl rfl | exact .inr rfl)
  | false =>
  have hla := hb1 rfl
  repeat (first | refine C.seq ?_ | refine C.region ?_ | refine R.zb ttok ?_ | refine R.zu ttok ?_ | refine R.zc ttok ?_ | refine R.za ttok ?_ | refine R.zx ?_ | refine R.zl ttok ?_ | refine R.zs ttok ?_ | refine R.z ttok ?_ | refine R.zk ?_ | refine R.zn ?_ | refine R.done ?_ | refine X.then ?_ | refine C.block ?_ | refine C.ret ?_ | refine C.skip ?_ | refine C.exit ?_ | refine X.pass_ret ?_ | refine X.pass_exit ?_ | refine X.block_normal ?_ | refine X.block_ret ?_ | refine X.block_exit ?_ | refine C.zt ?_ | refine C.zf ?_ | refine X.zo ?_)
  refine R.cl [] (new_specZ) Try.call17 (by repeat (first | exact HasIn.nil | refine HasIn.same rfl rfl ?_ | refine HasIn.bro rfl ?_ | refine HasIn.ror rfl ?_ | refine HasIn.cro rfl rfl ?_)) rfl rfl rfl (fun _ => rfl) rfl (by kernel_rfl) fun _ _ => ?_
  repeat (first | refine C.seq ?_ | refine C.region ?_ | refine R.zb ttok ?_ | refine R.zu ttok ?_ | refine R.zc ttok ?_ | refine R.za ttok ?_ | refine R.zx ?_ | refine R.zl ttok ?_ | refine R.zs ttok ?_ | refine R.z ttok ?_ | refine R.zk ?_ | refine R.zn ?_ | refine R.done ?_ | refine X.then ?_ | refine C.block ?_ | refine C.ret ?_ | refine C.skip ?_ | refine C.exit ?_ | refine X.pass_ret ?_ | refine X.pass_exit ?_ | refine X.block_normal ?_ | refine X.block_ret ?_ | refine X.block_exit ?_ | refine C.zt ?_ | refine C.zf ?_ | refine X.zo ?_)
  refine R.cl [] (new_specZ) Try.call17 (by repeat (first | exact HasIn.nil | refine HasIn.same rfl rfl ?_ | refine HasIn.bro rfl ?_ | refine HasIn.ror rfl ?_ | refine HasIn.cro rfl rfl ?_)) rfl rfl rfl (fun _ => rfl) rfl (by kernel_rfl) fun _ _ => ?_
  repeat (first | refine R.zb ttok ?_ | refine R.zu ttok ?_ | refine R.zc ttok ?_ | refine R.za ttok ?_ | refine R.zx ?_ | refine R.zl ttok ?_ | refine R.zs ttok ?_ | refine R.z ttok ?_ | refine R.zk ?_ | refine R.zn ?_)
  refine R.done ?_
  refine X.then ?_
  refine C.noneH 1 [.sl 3 2 0 ([] : ZL).length 0, .raw (.int .i64 0), .raw (.bool false)] (tIZ [] 0) (none_tab _ _ _ _) rfl rfl rfl (fun ρ h => by have h : ρ 3 = none := h; show [(AV.sl 3 2 0 0 0).conc ρ, _, _] = [Value.slice none 0 0, _, _]; simp [AV.conc, AV.concs, h]; exact ⟨rfl, rfl⟩) ?_
  refine C.noneH 2 [.sl 4 2 0 ([] : ZL).length 0, .raw (.int .i64 0), .raw (.bool false)] (tIZ [] 0) (none_tab _ _ _ _) rfl rfl rfl (fun ρ h => by have h : ρ 4 = none := h; show [(AV.sl 4 2 0 0 0).conc ρ, _, _] = [Value.slice none 0 0, _, _]; simp [AV.conc, AV.concs, h]; exact ⟨rfl, rfl⟩) ?_
  repeat (first | refine C.seq ?_ | refine C.region ?_ | refine R.zb ttok ?_ | refine R.zu ttok ?_ | refine R.zc ttok ?_ | refine R.za ttok ?_ | refine R.zx ?_ | refine R.zl ttok ?_ | refine R.zs ttok ?_ | refine R.z ttok ?_ | refine R.zk ?_ | refine R.zn ?_ | refine R.done ?_ | refine X.then ?_ | refine C.block ?_ | refine C.ret ?_ | refine C.skip ?_ | refine C.exit ?_ | refine X.pass_ret ?_ | refine X.pass_exit ?_ | refine X.block_normal ?_ | refine X.block_ret ?_ | refine X.block_exit ?_ | refine C.zt ?_ | refine C.zf ?_ | refine X.zo ?_)
  refine C.loopG (σ := Nat × ZL × ZL × Nat × Nat × Bool) (L2 := 7) (fun s => s.1 ≤ sc.length ∧ (Asc s.2.1 ∧ DZ s.2.1 ∧ (s.2.2.2.2.2 = false → ALz s.2.1)) ∧ (Asc s.2.2.1 ∧ ALz s.2.2.1) ∧ VZ s.2.1 = VZ s.2.2.1 ∧ (s.2.1.length ≤ s.1 ∧ s.2.2.1.length ≤ s.1) ∧ (s.2.1.length ≤ s.2.2.2.1 ∧ s.2.2.2.1 ≤ 9223372036854775807) ∧ (s.2.2.1.length ≤ s.2.2.2.2.1 ∧ s.2.2.2.2.1 ≤ 9223372036854775807)) (fun s => [(0, .sl 0 1 off sc.length cap), (3, .ptr 1 0 0 0), (4, .ptr 2 0 0 0), (5, .raw (.int .i64 (s.1 : Nat)))]) (fun s => [(0, roZ off sc), (1, tbIZ 5 (s.2.1).length s.2.2.2.1 (VZ s.2.2.1).length s.2.2.2.2.2), (5, tIZ (s.2.1) s.2.2.2.1), (2, tbIZ 6 (s.2.2.1).length s.2.2.2.2.1 (VZ s.2.2.1).length false), (6, tIZ (s.2.2.1) s.2.2.2.2.1)]) (fun s => FF _ ρ w [] (zF s.2.1 ++ zF s.2.2.1)) (fun s => sc.length - s.1) [(5, 3), (6, 4)] (0, [], [], 0, 0, false) ⟨Nat.zero_le _, ⟨asc0, (fun p hp => by cases hp), (fun _ p hp => by cases hp)⟩, ⟨asc0, (fun p hp => by cases hp)⟩, rfl, ⟨Nat.le_refl _, Nat.le_refl _⟩, ⟨Nat.le_refl _, Nat.zero_le _⟩, ⟨Nat.le_refl _, Nat.zero_le _⟩⟩ rfl (by repeat (first | exact HasT.nil | refine HasT.cons rfl rfl rfl ?_)) (by repeat (first | exact HasH.nil | refine HasH.same rfl rfl rfl trivial ?_ | refine HasH.same rfl rfl rfl rfl ?_ | refine HasH.same rfl rfl rfl (fun _ _ => rfl) ?_ | refine HasH.roz rfl rfl ?_)) rfl (fun _ h => h) ?_
  rintro ⟨i, la, lb, ca, cb, mk⟩ ⟨hi, ⟨hA, hD, hAL⟩, ⟨hB, hBL⟩, hV, ⟨hl, hlb⟩, hca, hcb⟩
  dsimp only at hi hA hD hAL hB hBL hV hl hlb hca hcb ⊢
  repeat (first | refine C.seq ?_ | refine C.region ?_ | refine R.zb ttok ?_ | refine R.zu ttok ?_ | refine R.zc ttok ?_ | refine R.za ttok ?_ | refine R.zx ?_ | refine R.zl ttok ?_ | refine R.zs ttok ?_ | refine R.z ttok ?_ | refine R.zk ?_ | refine R.zn ?_ | refine R.done ?_ | refine X.then ?_ | refine C.block ?_ | refine C.ret ?_ | refine C.skip ?_ | refine C.exit ?_ | refine X.pass_ret ?_ | refine X.pass_exit ?_ | refine X.block_normal ?_ | refine X.block_ret ?_ | refine X.block_exit ?_ | refine C.zt ?_ | refine C.zf ?_ | refine X.zo ?_)
  by_cases hlt : (i : Int) < (sc.length : Nat)
  · rw [decide_eq_true hlt]
    have hlt : i < sc.length := by omega
    obtain ⟨x, hx⟩ : ∃ x, sc.getD i StZ.no = x := ⟨_, rfl⟩
    obtain ⟨W, hW⟩ : ∃ W, VZ lb = W := ⟨_, rfl⟩
    have hWl : W.length ≤ 200 := by rw [← hW]; unfold VZ; rw [List.length_map]; exact Nat.le_trans (List.length_filter_le _ _) (by omega)
    rw [hW] at hV ⊢
    repeat (first | refine C.seq ?_ | refine C.region ?_ | refine R.zb ttok ?_ | refine R.zu ttok ?_ | refine R.zc ttok ?_ | refine R.za ttok ?_ | refine R.zx ?_ | refine R.zl ttok ?_ | refine R.zs ttok ?_ | refine R.z ttok ?_ | refine R.zk ?_ | refine R.zn ?_ | refine R.done ?_ | refine X.then ?_ | refine C.block ?_ | refine C.ret ?_ | refine C.skip ?_ | refine C.exit ?_ | refine X.pass_ret ?_ | refine X.pass_exit ?_ | refine X.block_normal ?_ | refine X.block_ret ?_ | refine X.block_exit ?_ | refine C.zt ?_ | refine C.zf ?_ | refine X.zo ?_)
    refine R.ix1 ttok i rfl rfl rfl rfl rfl rfl rfl hlt (⟨by omega, by omega⟩ : off ≤ off + i * 6 ∧ off + i * 6 < off + sc.length * 6) rfl ?_
    refine R.ldr1 (v := .agg (stZ (sc.getD i StZ.no))) ttok i rfl rfl rfl rfl rfl rfl rfl rfl (by decide) (by omega) ?_
    rw [hx]
    repeat (first | refine R.zb ttok ?_ | refine R.zu ttok ?_ | refine R.zc ttok ?_ | refine R.za ttok ?_ | refine R.zx ?_ | refine R.zl ttok ?_ | refine R.zs ttok ?_ | refine R.z ttok ?_ | refine R.zk ?_ | refine R.zn ?_)
    refine R.done ?_
    refine X.then ?_
    refine C.cutG (σ := ZL × Nat × Bool) 9 (fun s => (Asc s.1 ∧ DZ s.1 ∧ (s.2.2 = false → ALz s.1)) ∧ VZ s.1 = W ∧ s.1.length ≤ i ∧ s.1.length ≤ s.2.1 ∧ s.2.1 ≤ 9223372036854775807) (fun s => [(0, .sl 0 1 off sc.length cap), (3, .ptr 1 0 0 0), (4, .ptr 2 0 0 0), (5, .raw (.int .i64 (i : Nat))), (6, .ptr 7 0 0 0)]) (fun s => [(0, roZ off sc), (1, tbIZ 8 (s.1).length s.2.1 (W.length : Nat) s.2.2), (8, tIZ (s.1) s.2.1), (2, tbIZ 6 lb.length cb (W.length : Nat) false), (6, tIZ lb cb), (7, .cells (stZ x) 42)]) (fun s => FF [roZ off sc] ρ w [] (zF s.1 ++ zF lb)) ?_ ?_
    · repeat (first | refine C.seq ?_ | refine C.region ?_ | refine R.zb ttok ?_ | refine R.zu ttok ?_ | refine R.zc ttok ?_ | refine R.za ttok ?_ | refine R.zx ?_ | refine R.zl ttok ?_ | refine R.zs ttok ?_ | refine R.z ttok ?_ | refine R.zk ?_ | refine R.zn ?_ | refine R.done ?_ | refine X.then ?_ | refine C.block ?_ | refine C.ret ?_ | refine C.skip ?_ | refine C.exit ?_ | refine X.pass_ret ?_ | refine X.pass_exit ?_ | refine X.block_normal ?_ | refine X.block_ret ?_ | refine X.block_exit ?_ | refine C.zt ?_ | refine C.zf ?_ | refine X.zo ?_)
      by_cases hk3 : x.kind = 3
      · rw [decide_eq_true hk3]
        repeat (first | refine C.seq ?_ | refine C.region ?_ | refine R.zb ttok ?_ | refine R.zu ttok ?_ | refine R.zc ttok ?_ | refine R.za ttok ?_ | refine R.zx ?_ | refine R.zl ttok ?_ | refine R.zs ttok ?_ | refine R.z ttok ?_ | refine R.zk ?_ | refine R.zn ?_ | refine R.done ?_ | refine X.then ?_ | refine C.block ?_ | refine C.ret ?_ | refine C.skip ?_ | refine C.exit ?_ | refine X.pass_ret ?_ | refine X.pass_exit ?_ | refine X.block_normal ?_ | refine X.block_ret ?_ | refine X.block_exit ?_ | refine C.zt ?_ | refine C.zf ?_ | refine X.zo ?_)
        refine R.clE [1, 5] (mark_specZ la ca W.length mk hA (by omega) hca.1 hca.2) (zF lb) (.refl _) (Nat.le_refl _) (fun _ _ => rfl) Try.call25 (by repeat (first | exact HasIn.nil | refine HasIn.same rfl rfl ?_ | refine HasIn.c1 rfl rfl ?_ | refine HasIn.roq rfl rfl ?_ | refine HasIn.other rfl (fun e => by cases e) (fun ρ x w hh => tab_ro hh) ?_ | refine HasIn.other rfl (fun e => by cases e) (fun ρ x w hh => tab_any hh) ?_ | refine HasIn.roAp rfl rfl ?_ | refine HasIn.other rfl (fun e => by cases e) (fun ρ x w hh => cells_any hh) ?_ | refine HasIn.other rfl (fun e => by cases e) (fun ρ x w hh => ro_any hh) ?_)) rfl rfl rfl (fun _ => rfl) rfl (by kernel_rfl) fun G hG => ?_
        refine R.dropM ?_
        have hp := mk_pack mk hA hD hV hl hca.1
        obtain ⟨l2, hl2⟩ : ∃ l2, (if mk = true then la else zsw la Sl.mark) = l2 := ⟨_, rfl⟩
        rw [hl2] at hp ⊢
        obtain ⟨q1, q2, q3, q4, q5⟩ := hp
        repeat (first | refine C.seq ?_ | refine C.region ?_ | refine R.zb ttok ?_ | refine R.zu ttok ?_ | refine R.zc ttok ?_ | refine R.za ttok ?_ | refine R.zx ?_ | refine R.zl ttok ?_ | refine R.zs ttok ?_ | refine R.z ttok ?_ | refine R.zk ?_ | refine R.zn ?_ | refine R.done ?_ | refine X.then ?_ | refine C.block ?_ | refine C.ret ?_ | refine C.skip ?_ | refine C.exit ?_ | refine X.pass_ret ?_ | refine X.pass_exit ?_ | refine X.block_normal ?_ | refine X.block_ret ?_ | refine X.block_exit ?_ | refine C.zt ?_ | refine C.zf ?_ | refine X.zo ?_)
        exact X.backG [] (l2, ca, true) ⟨⟨q1, q2, fun h => by cases h⟩, q3, q4, q5, hca.2⟩ (by decide) rfl (by repeat (first | exact HasT.nil | refine HasT.cons rfl rfl rfl ?_)) (by repeat (first | exact HasH.nil | refine HasH.same rfl rfl rfl trivial ?_ | refine HasH.same rfl rfl rfl rfl ?_ | refine HasH.same rfl rfl rfl (fun _ _ => rfl) ?_ | refine HasH.roz rfl rfl ?_)) rfl (fun _ h => h)
      · rw [decide_eq_false hk3]
        repeat (first | refine C.seq ?_ | refine C.region ?_ | refine R.zb ttok ?_ | refine R.zu ttok ?_ | refine R.zc ttok ?_ | refine R.za ttok ?_ | refine R.zx ?_ | refine R.zl ttok ?_ | refine R.zs ttok ?_ | refine R.z ttok ?_ | refine R.zk ?_ | refine R.zn ?_ | refine R.done ?_ | refine X.then ?_ | refine C.block ?_ | refine C.ret ?_ | refine C.skip ?_ | refine C.exit ?_ | refine X.pass_ret ?_ | refine X.pass_exit ?_ | refine X.block_normal ?_ | refine X.block_ret ?_ | refine X.block_exit ?_ | refine C.zt ?_ | refine C.zf ?_ | refine X.zo ?_)
        exact X.backG [(8, 5)] (la, ca, mk) ⟨⟨hA, hD, hAL⟩, hV, hl, hca.1, hca.2⟩ (by decide) rfl (by repeat (first | exact HasT.nil | refine HasT.cons rfl rfl rfl ?_)) (by repeat (first | exact HasH.nil | refine HasH.same rfl rfl rfl trivial ?_ | refine HasH.same rfl rfl rfl rfl ?_ | refine HasH.same rfl rfl rfl (fun _ _ => rfl) ?_ | refine HasH.roz rfl rfl ?_)) rfl (fun _ h => h)
    clear hA hD hAL hV hl hca la ca mk
    rintro ⟨la, ca, mk⟩ ⟨⟨hA, hD, hAL⟩, hV, hl, hca⟩
    dsimp only at hA hD hAL hV hl hca ⊢
    refine C.cutG (σ := ZL × Nat × Bool) 10 (fun s => (Asc s.1 ∧ DZ s.1 ∧ (s.2.2 = false → ALz s.1)) ∧ VZ s.1 = W ∧ s.1.length ≤ i ∧ s.1.length ≤ s.2.1 ∧ s.2.1 ≤ 9223372036854775807) (fun s => [(0, .sl 0 1 off sc.length cap), (3, .ptr 1 0 0 0), (4, .ptr 2 0 0 0), (5, .raw (.int .i64 (i : Nat))), (6, .ptr 7 0 0 0)]) (fun s => [(0, roZ off sc), (1, tbIZ 9 (s.1).length s.2.1 (W.length : Nat) s.2.2), (9, tIZ (s.1) s.2.1), (2, tbIZ 6 lb.length cb (W.length : Nat) false), (6, tIZ lb cb), (7, .cells (stZ x) 42)]) (fun s => FF [roZ off sc] ρ w [] (zF s.1 ++ zF lb)) ?_ ?_
    · repeat (first | refine C.seq ?_ | refine C.region ?_ | refine R.zb ttok ?_ | refine R.zu ttok ?_ | refine R.zc ttok ?_ | refine R.za ttok ?_ | refine R.zx ?_ | refine R.zl ttok ?_ | refine R.zs ttok ?_ | refine R.z ttok ?_ | refine R.zk ?_ | refine R.zn ?_ | refine R.done ?_ | refine X.then ?_ | refine C.block ?_ | refine C.ret ?_ | refine C.skip ?_ | refine C.exit ?_ | refine X.pass_ret ?_ | refine X.pass_exit ?_ | refine X.block_normal ?_ | refine X.block_ret ?_ | refine X.block_exit ?_ | refine C.zt ?_ | refine C.zf ?_ | refine X.zo ?_)
      by_cases hk4 : x.kind = 4
      · rw [decide_eq_true hk4]
        repeat (first | refine C.seq ?_ | refine C.region ?_ | refine R.zb ttok ?_ | refine R.zu ttok ?_ | refine R.zc ttok ?_ | refine R.za ttok ?_ | refine R.zx ?_ | refine R.zl ttok ?_ | refine R.zs ttok ?_ | refine R.z ttok ?_ | refine R.zk ?_ | refine R.zn ?_ | refine R.done ?_ | refine X.then ?_ | refine C.block ?_ | refine C.ret ?_ | refine C.skip ?_ | refine C.exit ?_ | refine X.pass_ret ?_ | refine X.pass_exit ?_ | refine X.block_normal ?_ | refine X.block_ret ?_ | refine X.block_exit ?_ | refine C.zt ?_ | refine C.zf ?_ | refine X.zo ?_)
        refine R.clE [1, 8] (done_specZ la ca W.length mk hA (by omega) hca.1 hca.2) (zF lb) (.refl _) (Nat.le_refl _) (fun _ _ => rfl) Try.call29 (by repeat (first | exact HasIn.nil | refine HasIn.same rfl rfl ?_ | refine HasIn.c1 rfl rfl ?_ | refine HasIn.roq rfl rfl ?_ | refine HasIn.other rfl (fun e => by cases e) (fun ρ x w hh => tab_ro hh) ?_ | refine HasIn.other rfl (fun e => by cases e) (fun ρ x w hh => tab_any hh) ?_ | refine HasIn.roAp rfl rfl ?_ | refine HasIn.other rfl (fun e => by cases e) (fun ρ x w hh => cells_any hh) ?_ | refine HasIn.other rfl (fun e => by cases e) (fun ρ x w hh => ro_any hh) ?_)) rfl rfl rfl (fun _ => rfl) rfl (by kernel_rfl) fun G hG => ?_
        refine R.dropM ?_
        have hp := dn_pack mk hA hD hAL hV hl hca.1
        obtain ⟨l2, hl2⟩ : ∃ l2, (if mk = true then zsw la id else la) = l2 := ⟨_, rfl⟩
        rw [hl2] at hp ⊢
        obtain ⟨q1, q2, q3, q4, q5⟩ := hp
        repeat (first | refine C.seq ?_ | refine C.region ?_ | refine R.zb ttok ?_ | refine R.zu ttok ?_ | refine R.zc ttok ?_ | refine R.za ttok ?_ | refine R.zx ?_ | refine R.zl ttok ?_ | refine R.zs ttok ?_ | refine R.z ttok ?_ | refine R.zk ?_ | refine R.zn ?_ | refine R.done ?_ | refine X.then ?_ | refine C.block ?_ | refine C.ret ?_ | refine C.skip ?_ | refine C.exit ?_ | refine X.pass_ret ?_ | refine X.pass_exit ?_ | refine X.block_normal ?_ | refine X.block_ret ?_ | refine X.block_exit ?_ | refine C.zt ?_ | refine C.zf ?_ | refine X.zo ?_)
        exact X.backG [] (l2, ca, false) ⟨⟨q1, dz_al q2, fun _ => q2⟩, q3, q4, q5, hca.2⟩ (by decide) rfl (by repeat (first | exact HasT.nil | refine HasT.cons rfl rfl rfl ?_)) (by repeat (first | exact HasH.nil | refine HasH.same rfl rfl rfl trivial ?_ | refine HasH.same rfl rfl rfl rfl ?_ | refine HasH.same rfl rfl rfl (fun _ _ => rfl) ?_ | refine HasH.roz rfl rfl ?_)) rfl (fun _ h => h)
      · rw [decide_eq_false hk4]
        repeat (first | refine C.seq ?_ | refine C.region ?_ | refine R.zb ttok ?_ | refine R.zu ttok ?_ | refine R.zc ttok ?_ | refine R.za ttok ?_ | refine R.zx ?_ | refine R.zl ttok ?_ | refine R.zs ttok ?_ | refine R.z ttok ?_ | refine R.zk ?_ | refine R.zn ?_ | refine R.done ?_ | refine X.then ?_ | refine C.block ?_ | refine C.ret ?_ | refine C.skip ?_ | refine C.exit ?_ | refine X.pass_ret ?_ | refine X.pass_exit ?_ | refine X.block_normal ?_ | refine X.block_ret ?_ | refine X.block_exit ?_ | refine C.zt ?_ | refine C.zf ?_ | refine X.zo ?_)
        exact X.backG [(9, 8)] (la, ca, mk) ⟨⟨hA, hD, hAL⟩, hV, hl, hca.1, hca.2⟩ (by decide) rfl (by repeat (first | exact HasT.nil | refine HasT.cons rfl rfl rfl ?_)) (by repeat (first | exact HasH.nil | refine HasH.same rfl rfl rfl trivial ?_ | refine HasH.same rfl rfl rfl rfl ?_ | refine HasH.same rfl rfl rfl (fun _ _ => rfl) ?_ | refine HasH.roz rfl rfl ?_)) rfl (fun _ h => h)
    clear hA hD hAL hV hl hca la ca mk
    rintro ⟨la, ca, mk⟩ ⟨⟨hA, hD, hAL⟩, hV, hl, hca⟩
    dsimp only at hA hD hAL hV hl hca ⊢
    repeat (first | refine C.seq ?_ | refine C.region ?_ | refine R.zb ttok ?_ | refine R.zu ttok ?_ | refine R.zc ttok ?_ | refine R.za ttok ?_ | refine R.zx ?_ | refine R.zl ttok ?_ | refine R.zs ttok ?_ | refine R.z ttok ?_ | refine R.zk ?_ | refine R.zn ?_ | refine R.done ?_ | refine X.then ?_ | refine C.block ?_ | refine C.ret ?_ | refine C.skip ?_ | refine C.exit ?_ | refine X.pass_ret ?_ | refine X.pass_exit ?_ | refine X.block_normal ?_ | refine X.block_ret ?_ | refine X.block_exit ?_ | refine C.zt ?_ | refine C.zf ?_ | refine X.zo ?_)
    refine R.clE [1, 9] (write_spec x la ca W.length mk hA (by omega) hca.1 hca.2 (by omega) (by omega)) (zF lb) (.refl _) (Nat.le_refl _) (fun _ _ => rfl) Try.call18 (by repeat (first | exact HasIn.nil | refine HasIn.same rfl rfl ?_ | refine HasIn.c1 rfl rfl ?_ | refine HasIn.roq rfl rfl ?_ | refine HasIn.other rfl (fun e => by cases e) (fun ρ x w hh => tab_ro hh) ?_ | refine HasIn.other rfl (fun e => by cases e) (fun ρ x w hh => tab_any hh) ?_ | refine HasIn.roAp rfl rfl ?_ | refine HasIn.other rfl (fun e => by cases e) (fun ρ x w hh => cells_any hh) ?_ | refine HasIn.other rfl (fun e => by cases e) (fun ρ x w hh => ro_any hh) ?_)) rfl rfl rfl (fun _ => rfl) rfl (by kernel_rfl) fun s1 hs1 => ?_
    refine R.dropM ?_
    have hwa := wr_le x la mk s1.2.1
    have hAw := asc_wr hA x mk s1.2.1
    have hDw := dz_wr hD x mk s1.2.1
    have hNa := wrN_len hA x mk s1.2.1 (hs := (W.length : Nat)) (by rw [hV])
    have hVa := vz_wr hA x mk s1.2.1
    have hLa : mk = false → ALz (wrZ x la mk s1.2.1) := fun h => by subst h; exact alz_wr (hAL rfl) _ _
    obtain ⟨l2, hl2⟩ : ∃ l2, wrZ x la mk s1.2.1 = l2 := ⟨_, rfl⟩
    rw [hV] at hVa
    rw [hl2] at hwa hAw hDw hNa hVa hLa hs1 ⊢
    rw [hNa]
    repeat (first | refine C.seq ?_ | refine C.region ?_ | refine R.zb ttok ?_ | refine R.zu ttok ?_ | refine R.zc ttok ?_ | refine R.za ttok ?_ | refine R.zx ?_ | refine R.zl ttok ?_ | refine R.zs ttok ?_ | refine R.z ttok ?_ | refine R.zk ?_ | refine R.zn ?_ | refine R.done ?_ | refine X.then ?_ | refine C.block ?_ | refine C.ret ?_ | refine C.skip ?_ | refine C.exit ?_ | refine X.pass_ret ?_ | refine X.pass_exit ?_ | refine X.block_normal ?_ | refine X.block_ret ?_ | refine X.block_exit ?_ | refine C.zt ?_ | refine C.zf ?_ | refine X.zo ?_)
    refine R.clE [2, 6] (write_spec x lb cb W.length false hB (by omega) hcb.1 hcb.2 (by omega) (by omega)) (zF l2) (List.perm_append_comm) (Nat.le_refl _) (fun _ _ => rfl) Try.call18 (by repeat (first | exact HasIn.nil | refine HasIn.same rfl rfl ?_ | refine HasIn.c1 rfl rfl ?_ | refine HasIn.roq rfl rfl ?_ | refine HasIn.other rfl (fun e => by cases e) (fun ρ x w hh => tab_ro hh) ?_ | refine HasIn.other rfl (fun e => by cases e) (fun ρ x w hh => tab_any hh) ?_ | refine HasIn.roAp rfl rfl ?_ | refine HasIn.other rfl (fun e => by cases e) (fun ρ x w hh => cells_any hh) ?_ | refine HasIn.other rfl (fun e => by cases e) (fun ρ x w hh => ro_any hh) ?_)) rfl rfl rfl (fun _ => rfl) rfl (by kernel_rfl) fun s2 hs2 => ?_
    refine R.dropM ?_
    have hwb := wr_le x lb false s2.2.1
    have hBw := asc_wr hB x false s2.2.1
    have hEw := alz_wr hBL x s2.2.1
    have hNb := wrN_len hB x false s2.2.1 (hs := (W.length : Nat)) (by rw [hW])
    have hVb := vz_wr hB x false s2.2.1
    obtain ⟨m2, hm2⟩ : ∃ m2, wrZ x lb false s2.2.1 = m2 := ⟨_, rfl⟩
    rw [hW] at hVb
    rw [hm2] at hwb hBw hEw hNb hVb hs2 ⊢
    rw [hNb]
    have hVV : VZ l2 = VZ m2 := hVa.trans hVb.symm
    rw [hVV]
    have hget := tell_get hAw hBw hDw (dz_al hEw) hVV x.key
    have hnx := tell_next hAw hBw hVV x.to
    repeat (first | refine C.seq ?_ | refine C.region ?_ | refine R.zb ttok ?_ | refine R.zu ttok ?_ | refine R.zc ttok ?_ | refine R.za ttok ?_ | refine R.zx ?_ | refine R.zl ttok ?_ | refine R.zs ttok ?_ | refine R.z ttok ?_ | refine R.zk ?_ | refine R.zn ?_ | refine R.done ?_ | refine X.then ?_ | refine C.block ?_ | refine C.ret ?_ | refine C.skip ?_ | refine C.exit ?_ | refine X.pass_ret ?_ | refine X.pass_exit ?_ | refine X.block_normal ?_ | refine X.block_ret ?_ | refine X.block_exit ?_ | refine C.zt ?_ | refine C.zf ?_ | refine X.zo ?_)
    refine R.clE [1, 10] (get_specZ l2 s1.1 x.key hAw (by omega)) (zF m2) (List.perm_append_comm) (Nat.le_refl _) (fun _ _ => rfl) Try.call21 (by repeat (first | exact HasIn.nil | refine HasIn.same rfl rfl ?_ | refine HasIn.c1 rfl rfl ?_ | refine HasIn.roq rfl rfl ?_ | refine HasIn.other rfl (fun e => by cases e) (fun ρ x w hh => tab_ro hh) ?_ | refine HasIn.other rfl (fun e => by cases e) (fun ρ x w hh => tab_any hh) ?_ | refine HasIn.roAp rfl rfl ?_ | refine HasIn.other rfl (fun e => by cases e) (fun ρ x w hh => cells_any hh) ?_ | refine HasIn.other rfl (fun e => by cases e) (fun ρ x w hh => ro_any hh) ?_)) rfl rfl rfl (fun _ => rfl) rfl (by kernel_rfl) fun _ _ => ?_
    rw [hget.1, hget.2]
    repeat (first | refine C.seq ?_ | refine C.region ?_ | refine R.zb ttok ?_ | refine R.zu ttok ?_ | refine R.zc ttok ?_ | refine R.za ttok ?_ | refine R.zx ?_ | refine R.zl ttok ?_ | refine R.zs ttok ?_ | refine R.z ttok ?_ | refine R.zk ?_ | refine R.zn ?_ | refine R.done ?_ | refine X.then ?_ | refine C.block ?_ | refine C.ret ?_ | refine C.skip ?_ | refine C.exit ?_ | refine X.pass_ret ?_ | refine X.pass_exit ?_ | refine X.block_normal ?_ | refine X.block_ret ?_ | refine X.block_exit ?_ | refine C.zt ?_ | refine C.zf ?_ | refine X.zo ?_)
    refine R.clE [2, 11] (get_specZ m2 s2.1 x.key hBw (by omega)) (zF l2) (List.perm_append_comm) (Nat.le_refl _) (fun _ _ => rfl) Try.call21 (by repeat (first | exact HasIn.nil | refine HasIn.same rfl rfl ?_ | refine HasIn.c1 rfl rfl ?_ | refine HasIn.roq rfl rfl ?_ | refine HasIn.other rfl (fun e => by cases e) (fun ρ x w hh => tab_ro hh) ?_ | refine HasIn.other rfl (fun e => by cases e) (fun ρ x w hh => tab_any hh) ?_ | refine HasIn.roAp rfl rfl ?_ | refine HasIn.other rfl (fun e => by cases e) (fun ρ x w hh => cells_any hh) ?_ | refine HasIn.other rfl (fun e => by cases e) (fun ρ x w hh => ro_any hh) ?_)) rfl rfl rfl (fun _ => rfl) rfl (by kernel_rfl) fun _ _ => ?_
    repeat (first | refine C.seq ?_ | refine C.region ?_ | refine R.zb ttok ?_ | refine R.zu ttok ?_ | refine R.zc ttok ?_ | refine R.za ttok ?_ | refine R.zx ?_ | refine R.zl ttok ?_ | refine R.zs ttok ?_ | refine R.z ttok ?_ | refine R.zk ?_ | refine R.zn ?_ | refine R.done ?_ | refine X.then ?_ | refine C.block ?_ | refine C.ret ?_ | refine C.skip ?_ | refine C.exit ?_ | refine X.pass_ret ?_ | refine X.pass_exit ?_ | refine X.block_normal ?_ | refine X.block_ret ?_ | refine X.block_exit ?_ | refine C.zt ?_ | refine C.zf ?_ | refine X.zo ?_)
    refine R.cl [1] (rangeS_specZ x.key x.to) Try.call19 (by repeat (first | exact HasIn.nil | refine HasIn.same rfl rfl ?_ | refine HasIn.c1 rfl rfl ?_ | refine HasIn.roq rfl rfl ?_ | refine HasIn.other rfl (fun e => by cases e) (fun ρ x w hh => tab_ro hh) ?_ | refine HasIn.other rfl (fun e => by cases e) (fun ρ x w hh => tab_any hh) ?_ | refine HasIn.roAp rfl rfl ?_ | refine HasIn.other rfl (fun e => by cases e) (fun ρ x w hh => cells_any hh) ?_ | refine HasIn.other rfl (fun e => by cases e) (fun ρ x w hh => ro_any hh) ?_)) rfl rfl rfl (fun _ => rfl) rfl (by kernel_rfl) fun _ _ => ?_
    repeat (first | refine C.seq ?_ | refine C.region ?_ | refine R.zb ttok ?_ | refine R.zu ttok ?_ | refine R.zc ttok ?_ | refine R.za ttok ?_ | refine R.zx ?_ | refine R.zl ttok ?_ | refine R.zs ttok ?_ | refine R.z ttok ?_ | refine R.zk ?_ | refine R.zn ?_ | refine R.done ?_ | refine X.then ?_ | refine C.block ?_ | refine C.ret ?_ | refine C.skip ?_ | refine C.exit ?_ | refine X.pass_ret ?_ | refine X.pass_exit ?_ | refine X.block_normal ?_ | refine X.block_ret ?_ | refine X.block_exit ?_ | refine C.zt ?_ | refine C.zf ?_ | refine X.zo ?_)
    refine R.clE [1, 10, 12, 13, 14] (prsRg_spec l2 s1.1 x.key x.to (VZ m2).length mk hAw (by omega)) (zF m2) (List.perm_append_comm) (Nat.le_refl _) (fun _ _ => rfl) Try.call20 (by repeat (first | exact HasIn.nil | refine HasIn.same rfl rfl ?_ | refine HasIn.c1 rfl rfl ?_ | refine HasIn.roq rfl rfl ?_ | refine HasIn.other rfl (fun e => by cases e) (fun ρ x w hh => tab_ro hh) ?_ | refine HasIn.other rfl (fun e => by cases e) (fun ρ x w hh => tab_any hh) ?_ | refine HasIn.roAp rfl rfl ?_ | refine HasIn.other rfl (fun e => by cases e) (fun ρ x w hh => cells_any hh) ?_ | refine HasIn.other rfl (fun e => by cases e) (fun ρ x w hh => ro_any hh) ?_)) rfl rfl rfl (fun _ => rfl) rfl (by kernel_rfl) fun u hu => ?_
    repeat (first | refine C.seq ?_ | refine C.region ?_ | refine R.zb ttok ?_ | refine R.zu ttok ?_ | refine R.zc ttok ?_ | refine R.za ttok ?_ | refine R.zx ?_ | refine R.zl ttok ?_ | refine R.zs ttok ?_ | refine R.z ttok ?_ | refine R.zk ?_ | refine R.zn ?_ | refine R.done ?_ | refine X.then ?_ | refine C.block ?_ | refine C.ret ?_ | refine C.skip ?_ | refine C.exit ?_ | refine X.pass_ret ?_ | refine X.pass_exit ?_ | refine X.block_normal ?_ | refine X.block_ret ?_ | refine X.block_exit ?_ | refine C.zt ?_ | refine C.zf ?_ | refine X.zo ?_)
    refine R.cl [2] (rangeS_specZ x.key x.to) Try.call19 (by repeat (first | exact HasIn.nil | refine HasIn.same rfl rfl ?_ | refine HasIn.c1 rfl rfl ?_ | refine HasIn.roq rfl rfl ?_ | refine HasIn.other rfl (fun e => by cases e) (fun ρ x w hh => tab_ro hh) ?_ | refine HasIn.other rfl (fun e => by cases e) (fun ρ x w hh => tab_any hh) ?_ | refine HasIn.roAp rfl rfl ?_ | refine HasIn.other rfl (fun e => by cases e) (fun ρ x w hh => cells_any hh) ?_ | refine HasIn.other rfl (fun e => by cases e) (fun ρ x w hh => ro_any hh) ?_)) rfl rfl rfl (fun _ => rfl) rfl (by kernel_rfl) fun _ _ => ?_
    repeat (first | refine C.seq ?_ | refine C.region ?_ | refine R.zb ttok ?_ | refine R.zu ttok ?_ | refine R.zc ttok ?_ | refine R.za ttok ?_ | refine R.zx ?_ | refine R.zl ttok ?_ | refine R.zs ttok ?_ | refine R.z ttok ?_ | refine R.zk ?_ | refine R.zn ?_ | refine R.done ?_ | refine X.then ?_ | refine C.block ?_ | refine C.ret ?_ | refine C.skip ?_ | refine C.exit ?_ | refine X.pass_ret ?_ | refine X.pass_exit ?_ | refine X.block_normal ?_ | refine X.block_ret ?_ | refine X.block_exit ?_ | refine C.zt ?_ | refine C.zf ?_ | refine X.zo ?_)
    refine R.clE [2, 11, 17, 18, 19] (prsRg_spec m2 s2.1 x.key x.to (VZ m2).length false hBw (by omega)) (zF l2) (List.perm_append_comm) (Nat.le_refl _) (fun _ _ => rfl) Try.call20 (by repeat (first | exact HasIn.nil | refine HasIn.same rfl rfl ?_ | refine HasIn.c1 rfl rfl ?_ | refine HasIn.roq rfl rfl ?_ | refine HasIn.other rfl (fun e => by cases e) (fun ρ x w hh => tab_ro hh) ?_ | refine HasIn.other rfl (fun e => by cases e) (fun ρ x w hh => tab_any hh) ?_ | refine HasIn.roAp rfl rfl ?_ | refine HasIn.other rfl (fun e => by cases e) (fun ρ x w hh => cells_any hh) ?_ | refine HasIn.other rfl (fun e => by cases e) (fun ρ x w hh => ro_any hh) ?_)) rfl rfl rfl (fun _ => rfl) rfl (by kernel_rfl) fun v hv => ?_
    have hrg := tell_rg hAw hBw hVV hu.1 hv.1
    rw [hrg.1, hrg.2] at hu ⊢
    obtain ⟨K, hK⟩ : ∃ K, keysZ (segF liveZ m2 (plc m2 x.key) v.1) = K := ⟨_, rfl⟩
    obtain ⟨N, hN⟩ : ∃ N, lvZ (segF liveZ m2 (plc m2 x.key) v.1) = N := ⟨_, rfl⟩
    have hKN : N.length = K.length := by rw [← hK, ← hN, List.length_map, List.length_map]
    have hKl : K.length ≤ 601 := by rw [← hK, List.length_map]; exact Nat.le_trans (segF_len _ _ _ _) (by omega)
    rw [hK, hN] at hu hv ⊢
    rw [hKN]
    repeat (first | refine C.seq ?_ | refine C.region ?_ | refine R.zb ttok ?_ | refine R.zu ttok ?_ | refine R.zc ttok ?_ | refine R.za ttok ?_ | refine R.zx ?_ | refine R.zl ttok ?_ | refine R.zs ttok ?_ | refine R.z ttok ?_ | refine R.zk ?_ | refine R.zn ?_ | refine R.done ?_ | refine X.then ?_ | refine C.block ?_ | refine C.ret ?_ | refine C.skip ?_ | refine C.exit ?_ | refine X.pass_ret ?_ | refine X.pass_exit ?_ | refine X.block_normal ?_ | refine X.block_ret ?_ | refine X.block_exit ?_ | refine C.zt ?_ | refine C.zf ?_ | refine X.zo ?_)
    refine R.clE [1, 10] (next_specZ l2 s1.1 x.to hAw (by omega)) (zF m2) (List.perm_append_comm) (Nat.le_refl _) (fun _ _ => rfl) Try.call38 (by repeat (first | exact HasIn.nil | refine HasIn.same rfl rfl ?_ | refine HasIn.c1 rfl rfl ?_ | refine HasIn.roq rfl rfl ?_ | refine HasIn.other rfl (fun e => by cases e) (fun ρ x w hh => tab_ro hh) ?_ | refine HasIn.other rfl (fun e => by cases e) (fun ρ x w hh => tab_any hh) ?_ | refine HasIn.roAp rfl rfl ?_ | refine HasIn.other rfl (fun e => by cases e) (fun ρ x w hh => cells_any hh) ?_ | refine HasIn.other rfl (fun e => by cases e) (fun ρ x w hh => ro_any hh) ?_)) rfl rfl rfl (fun _ => rfl) rfl (by kernel_rfl) fun _ _ => ?_
    rw [hnx]
    repeat (first | refine C.seq ?_ | refine C.region ?_ | refine R.zb ttok ?_ | refine R.zu ttok ?_ | refine R.zc ttok ?_ | refine R.za ttok ?_ | refine R.zx ?_ | refine R.zl ttok ?_ | refine R.zs ttok ?_ | refine R.z ttok ?_ | refine R.zk ?_ | refine R.zn ?_ | refine R.done ?_ | refine X.then ?_ | refine C.block ?_ | refine C.ret ?_ | refine C.skip ?_ | refine C.exit ?_ | refine X.pass_ret ?_ | refine X.pass_exit ?_ | refine X.block_normal ?_ | refine X.block_ret ?_ | refine X.block_exit ?_ | refine C.zt ?_ | refine C.zf ?_ | refine X.zo ?_)
    refine R.clE [2, 11] (next_specZ m2 s2.1 x.to hBw (by omega)) (zF l2) (List.perm_append_comm) (Nat.le_refl _) (fun _ _ => rfl) Try.call38 (by repeat (first | exact HasIn.nil | refine HasIn.same rfl rfl ?_ | refine HasIn.c1 rfl rfl ?_ | refine HasIn.roq rfl rfl ?_ | refine HasIn.other rfl (fun e => by cases e) (fun ρ x w hh => tab_ro hh) ?_ | refine HasIn.other rfl (fun e => by cases e) (fun ρ x w hh => tab_any hh) ?_ | refine HasIn.roAp rfl rfl ?_ | refine HasIn.other rfl (fun e => by cases e) (fun ρ x w hh => cells_any hh) ?_ | refine HasIn.other rfl (fun e => by cases e) (fun ρ x w hh => ro_any hh) ?_)) rfl rfl rfl (fun _ => rfl) rfl (by kernel_rfl) fun _ _ => ?_
    repeat (first | refine C.seq ?_ | refine C.region ?_ | refine R.zb ttok ?_ | refine R.zu ttok ?_ | refine R.zc ttok ?_ | refine R.za ttok ?_ | refine R.zx ?_ | refine R.zl ttok ?_ | refine R.zs ttok ?_ | refine R.z ttok ?_ | refine R.zk ?_ | refine R.zn ?_ | refine R.done ?_ | refine X.then ?_ | refine C.block ?_ | refine C.ret ?_ | refine C.skip ?_ | refine C.exit ?_ | refine X.pass_ret ?_ | refine X.pass_exit ?_ | refine X.block_normal ?_ | refine X.block_ret ?_ | refine X.block_exit ?_ | refine C.zt ?_ | refine C.zf ?_ | refine X.zo ?_)
    rw [decide_eq_false (show ¬ getV m2 x.key ≠ getV m2 x.key from fun h => h rfl)]
    repeat (first | refine C.seq ?_ | refine C.region ?_ | refine R.zb ttok ?_ | refine R.zu ttok ?_ | refine R.zc ttok ?_ | refine R.za ttok ?_ | refine R.zx ?_ | refine R.zl ttok ?_ | refine R.zs ttok ?_ | refine R.z ttok ?_ | refine R.zk ?_ | refine R.zn ?_ | refine R.done ?_ | refine X.then ?_ | refine C.block ?_ | refine C.ret ?_ | refine C.skip ?_ | refine C.exit ?_ | refine X.pass_ret ?_ | refine X.pass_exit ?_ | refine X.block_normal ?_ | refine X.block_ret ?_ | refine X.block_exit ?_ | refine C.zt ?_ | refine C.zf ?_ | refine X.zo ?_)
    rw [beq_self_eq_true (isV m2 x.key)]
    repeat (first | refine C.seq ?_ | refine C.region ?_ | refine R.zb ttok ?_ | refine R.zu ttok ?_ | refine R.zc ttok ?_ | refine R.za ttok ?_ | refine R.zx ?_ | refine R.zl ttok ?_ | refine R.zs ttok ?_ | refine R.z ttok ?_ | refine R.zk ?_ | refine R.zn ?_ | refine R.done ?_ | refine X.then ?_ | refine C.block ?_ | refine C.ret ?_ | refine C.skip ?_ | refine C.exit ?_ | refine X.pass_ret ?_ | refine X.pass_exit ?_ | refine X.block_normal ?_ | refine X.block_ret ?_ | refine X.block_exit ?_ | refine C.zt ?_ | refine C.zf ?_ | refine X.zo ?_)
    refine R.cl [1, 10] (len_specZ s1.1 0 (VZ m2).length l2.length mk) Try.call40 (by repeat (first | exact HasIn.nil | refine HasIn.same rfl rfl ?_ | refine HasIn.c1 rfl rfl ?_ | refine HasIn.roq rfl rfl ?_ | refine HasIn.other rfl (fun e => by cases e) (fun ρ x w hh => tab_ro hh) ?_ | refine HasIn.other rfl (fun e => by cases e) (fun ρ x w hh => tab_any hh) ?_ | refine HasIn.roAp rfl rfl ?_ | refine HasIn.other rfl (fun e => by cases e) (fun ρ x w hh => cells_any hh) ?_ | refine HasIn.other rfl (fun e => by cases e) (fun ρ x w hh => ro_any hh) ?_)) rfl rfl rfl (fun _ => rfl) rfl (by kernel_rfl) fun _ _ => ?_
    repeat (first | refine C.seq ?_ | refine C.region ?_ | refine R.zb ttok ?_ | refine R.zu ttok ?_ | refine R.zc ttok ?_ | refine R.za ttok ?_ | refine R.zx ?_ | refine R.zl ttok ?_ | refine R.zs ttok ?_ | refine R.z ttok ?_ | refine R.zk ?_ | refine R.zn ?_ | refine R.done ?_ | refine X.then ?_ | refine C.block ?_ | refine C.ret ?_ | refine C.skip ?_ | refine C.exit ?_ | refine X.pass_ret ?_ | refine X.pass_exit ?_ | refine X.block_normal ?_ | refine X.block_ret ?_ | refine X.block_exit ?_ | refine C.zt ?_ | refine C.zf ?_ | refine X.zo ?_)
    refine R.cl [2, 11] (len_specZ s2.1 0 (VZ m2).length m2.length false) Try.call40 (by repeat (first | exact HasIn.nil | refine HasIn.same rfl rfl ?_ | refine HasIn.c1 rfl rfl ?_ | refine HasIn.roq rfl rfl ?_ | refine HasIn.other rfl (fun e => by cases e) (fun ρ x w hh => tab_ro hh) ?_ | refine HasIn.other rfl (fun e => by cases e) (fun ρ x w hh => tab_any hh) ?_ | refine HasIn.roAp rfl rfl ?_ | refine HasIn.other rfl (fun e => by cases e) (fun ρ x w hh => cells_any hh) ?_ | refine HasIn.other rfl (fun e => by cases e) (fun ρ x w hh => ro_any hh) ?_)) rfl rfl rfl (fun _ => rfl) rfl (by kernel_rfl) fun _ _ => ?_
    repeat (first | refine C.seq ?_ | refine C.region ?_ | refine R.zb ttok ?_ | refine R.zu ttok ?_ | refine R.zc ttok ?_ | refine R.za ttok ?_ | refine R.zx ?_ | refine R.zl ttok ?_ | refine R.zs ttok ?_ | refine R.z ttok ?_ | refine R.zk ?_ | refine R.zn ?_ | refine R.done ?_ | refine X.then ?_ | refine C.block ?_ | refine C.ret ?_ | refine C.skip ?_ | refine C.exit ?_ | refine X.pass_ret ?_ | refine X.pass_exit ?_ | refine X.block_normal ?_ | refine X.block_ret ?_ | refine X.block_exit ?_ | refine C.zt ?_ | refine C.zf ?_ | refine X.zo ?_)
    rw [decide_eq_false (show ¬ (((VZ m2).length : Nat) : Int) ≠ (((VZ m2).length : Nat) : Int) from fun h => h rfl)]
    repeat (first | refine C.seq ?_ | refine C.region ?_ | refine R.zb ttok ?_ | refine R.zu ttok ?_ | refine R.zc ttok ?_ | refine R.za ttok ?_ | refine R.zx ?_ | refine R.zl ttok ?_ | refine R.zs ttok ?_ | refine R.z ttok ?_ | refine R.zk ?_ | refine R.zn ?_ | refine R.done ?_ | refine X.then ?_ | refine C.block ?_ | refine C.ret ?_ | refine C.skip ?_ | refine C.exit ?_ | refine X.pass_ret ?_ | refine X.pass_exit ?_ | refine X.block_normal ?_ | refine X.block_ret ?_ | refine X.block_exit ?_ | refine C.zt ?_ | refine C.zf ?_ | refine X.zo ?_)
    refine R.cl [15, 16, 20, 21] (same_spec K K N N 0 0 0 0 K.length 0 _ _ _ _ (by omega) (by omega) (by omega) (by omega) (by omega) rfl rfl) Try.call23 (by repeat (first | exact HasIn.nil | refine HasIn.same rfl rfl ?_ | refine HasIn.c1 rfl rfl ?_ | refine HasIn.roq rfl rfl ?_ | refine HasIn.other rfl (fun e => by cases e) (fun ρ x w hh => tab_ro hh) ?_ | refine HasIn.other rfl (fun e => by cases e) (fun ρ x w hh => tab_any hh) ?_ | refine HasIn.roAp rfl rfl ?_ | refine HasIn.other rfl (fun e => by cases e) (fun ρ x w hh => cells_any hh) ?_ | refine HasIn.other rfl (fun e => by cases e) (fun ρ x w hh => ro_any hh) ?_)) rfl rfl rfl (fun _ => rfl) rfl (by kernel_rfl) fun _ _ => ?_
    repeat (first | refine C.seq ?_ | refine C.region ?_ | refine R.zb ttok ?_ | refine R.zu ttok ?_ | refine R.zc ttok ?_ | refine R.za ttok ?_ | refine R.zx ?_ | refine R.zl ttok ?_ | refine R.zs ttok ?_ | refine R.z ttok ?_ | refine R.zk ?_ | refine R.zn ?_ | refine R.done ?_ | refine X.then ?_ | refine C.block ?_ | refine C.ret ?_ | refine C.skip ?_ | refine C.exit ?_ | refine X.pass_ret ?_ | refine X.pass_exit ?_ | refine X.block_normal ?_ | refine X.block_ret ?_ | refine X.block_exit ?_ | refine C.zt ?_ | refine C.zf ?_ | refine X.zo ?_)
    rw [eq_dec (nxK m2 (aboveN m2 x.to)).1 (nxK m2 (aboveN m2 x.to)).1 rfl]
    repeat (first | refine C.seq ?_ | refine C.region ?_ | refine R.zb ttok ?_ | refine R.zu ttok ?_ | refine R.zc ttok ?_ | refine R.za ttok ?_ | refine R.zx ?_ | refine R.zl ttok ?_ | refine R.zs ttok ?_ | refine R.z ttok ?_ | refine R.zk ?_ | refine R.zn ?_ | refine R.done ?_ | refine X.then ?_ | refine C.block ?_ | refine C.ret ?_ | refine C.skip ?_ | refine C.exit ?_ | refine X.pass_ret ?_ | refine X.pass_exit ?_ | refine X.block_normal ?_ | refine X.block_ret ?_ | refine X.block_exit ?_ | refine C.zt ?_ | refine C.zf ?_ | refine X.zo ?_)
    rw [beq_self_eq_true (nxK m2 (aboveN m2 x.to)).2]
    repeat (first | refine C.seq ?_ | refine C.region ?_ | refine R.zb ttok ?_ | refine R.zu ttok ?_ | refine R.zc ttok ?_ | refine R.za ttok ?_ | refine R.zx ?_ | refine R.zl ttok ?_ | refine R.zs ttok ?_ | refine R.z ttok ?_ | refine R.zk ?_ | refine R.zn ?_ | refine R.done ?_ | refine X.then ?_ | refine C.block ?_ | refine C.ret ?_ | refine C.skip ?_ | refine C.exit ?_ | refine X.pass_ret ?_ | refine X.pass_exit ?_ | refine X.block_normal ?_ | refine X.block_ret ?_ | refine X.block_exit ?_ | refine C.zt ?_ | refine C.zf ?_ | refine X.zo ?_)
    refine R.clE [2, 11] (slot_specZ m2 s2.1 x.key hBw (by omega)) (zF l2) (.refl _) (Nat.le_refl _) (fun _ _ => rfl) Try.call39 (by repeat (first | exact HasIn.nil | refine HasIn.same rfl rfl ?_ | refine HasIn.c1 rfl rfl ?_ | refine HasIn.roq rfl rfl ?_ | refine HasIn.other rfl (fun e => by cases e) (fun ρ x w hh => tab_ro hh) ?_ | refine HasIn.other rfl (fun e => by cases e) (fun ρ x w hh => tab_any hh) ?_ | refine HasIn.roAp rfl rfl ?_ | refine HasIn.other rfl (fun e => by cases e) (fun ρ x w hh => cells_any hh) ?_ | refine HasIn.other rfl (fun e => by cases e) (fun ρ x w hh => ro_any hh) ?_)) rfl rfl rfl (fun _ => rfl) rfl (by kernel_rfl) fun _ _ => ?_
    repeat (first | refine C.seq ?_ | refine C.region ?_ | refine R.zb ttok ?_ | refine R.zu ttok ?_ | refine R.zc ttok ?_ | refine R.za ttok ?_ | refine R.zx ?_ | refine R.zl ttok ?_ | refine R.zs ttok ?_ | refine R.z ttok ?_ | refine R.zk ?_ | refine R.zn ?_ | refine R.done ?_ | refine X.then ?_ | refine C.block ?_ | refine C.ret ?_ | refine C.skip ?_ | refine C.exit ?_ | refine X.pass_ret ?_ | refine X.pass_exit ?_ | refine X.block_normal ?_ | refine X.block_ret ?_ | refine X.block_exit ?_ | refine C.zt ?_ | refine C.zf ?_ | refine X.zo ?_)
    refine R.clE [1, 10] (slot_specZ l2 s1.1 x.key hAw (by omega)) (zF m2) (List.perm_append_comm) (Nat.le_refl _) (fun _ _ => rfl) Try.call39 (by repeat (first | exact HasIn.nil | refine HasIn.same rfl rfl ?_ | refine HasIn.c1 rfl rfl ?_ | refine HasIn.roq rfl rfl ?_ | refine HasIn.other rfl (fun e => by cases e) (fun ρ x w hh => tab_ro hh) ?_ | refine HasIn.other rfl (fun e => by cases e) (fun ρ x w hh => tab_any hh) ?_ | refine HasIn.roAp rfl rfl ?_ | refine HasIn.other rfl (fun e => by cases e) (fun ρ x w hh => cells_any hh) ?_ | refine HasIn.other rfl (fun e => by cases e) (fun ρ x w hh => ro_any hh) ?_)) rfl rfl rfl (fun _ => rfl) rfl (by kernel_rfl) fun _ _ => ?_
    have hhb := has_al hEw x.key
    cases hv2 : isV m2 x.key with
    | false =>
      rw [hv2] at hhb
      rw [← hhb]
      repeat (first | refine C.seq ?_ | refine C.region ?_ | refine R.zb ttok ?_ | refine R.zu ttok ?_ | refine R.zc ttok ?_ | refine R.za ttok ?_ | refine R.zx ?_ | refine R.zl ttok ?_ | refine R.zs ttok ?_ | refine R.z ttok ?_ | refine R.zk ?_ | refine R.zn ?_ | refine R.done ?_ | refine X.then ?_ | refine C.block ?_ | refine C.ret ?_ | refine C.skip ?_ | refine C.exit ?_ | refine X.pass_ret ?_ | refine X.pass_exit ?_ | refine X.block_normal ?_ | refine X.block_ret ?_ | refine X.block_exit ?_ | refine C.zt ?_ | refine C.zf ?_ | refine X.zo ?_)
      refine R.cl [1, 10] (marked_specZ s1.1 (VZ m2).length l2.length mk) Try.call31 (by repeat (first | exact HasIn.nil | refine HasIn.same rfl rfl ?_ | refine HasIn.c1 rfl rfl ?_ | refine HasIn.roq rfl rfl ?_ | refine HasIn.other rfl (fun e => by cases e) (fun ρ x w hh => tab_ro hh) ?_ | refine HasIn.other rfl (fun e => by cases e) (fun ρ x w hh => tab_any hh) ?_ | refine HasIn.roAp rfl rfl ?_ | refine HasIn.other rfl (fun e => by cases e) (fun ρ x w hh => cells_any hh) ?_ | refine HasIn.other rfl (fun e => by cases e) (fun ρ x w hh => ro_any hh) ?_)) rfl rfl rfl (fun _ => rfl) rfl (by kernel_rfl) fun _ _ => ?_
      cases mk with
      | true =>
        repeat (first | refine C.seq ?_ | refine C.region ?_ | refine R.zb ttok ?_ | refine R.zu ttok ?_ | refine R.zc ttok ?_ | refine R.za ttok ?_ | refine R.zx ?_ | refine R.zl ttok ?_ | refine R.zs ttok ?_ | refine R.z ttok ?_ | refine R.zk ?_ | refine R.zn ?_ | refine R.done ?_ | refine X.then ?_ | refine C.block ?_ | refine C.ret ?_ | refine C.skip ?_ | refine C.exit ?_ | refine X.pass_ret ?_ | refine X.pass_exit ?_ | refine X.block_normal ?_ | refine X.block_ret ?_ | refine X.block_exit ?_ | refine C.zt ?_ | refine C.zf ?_ | refine X.zo ?_)
        exact X.backG [(5, 10), (6, 11)] (i + 1, l2, m2, s1.1, s2.1, true) ⟨hlt, ⟨hAw, hDw, hLa⟩, ⟨hBw, hEw⟩, hVV, ⟨by dsimp only; omega, by dsimp only; omega⟩, ⟨hs1.1, hs1.2.1⟩, ⟨hs2.1, hs2.2.1⟩⟩ (by dsimp only; omega) rfl (by repeat (first | exact HasT.nil | refine HasT.cons rfl rfl rfl ?_)) (by repeat (first | exact HasH.nil | refine HasH.same rfl rfl rfl trivial ?_ | refine HasH.same rfl rfl rfl rfl ?_ | refine HasH.same rfl rfl rfl (fun _ _ => rfl) ?_ | refine HasH.roz rfl rfl ?_)) rfl (fun _ h => h)
      | false =>
        have hha := has_al (hLa rfl) x.key
        rw [hget.1, hv2] at hha
        rw [← hha]
        repeat (first | refine C.seq ?_ | refine C.region ?_ | refine R.zb ttok ?_ | refine R.zu ttok ?_ | refine R.zc ttok ?_ | refine R.za ttok ?_ | refine R.zx ?_ | refine R.zl ttok ?_ | refine R.zs ttok ?_ | refine R.z ttok ?_ | refine R.zk ?_ | refine R.zn ?_ | refine R.done ?_ | refine X.then ?_ | refine C.block ?_ | refine C.ret ?_ | refine C.skip ?_ | refine C.exit ?_ | refine X.pass_ret ?_ | refine X.pass_exit ?_ | refine X.block_normal ?_ | refine X.block_ret ?_ | refine X.block_exit ?_ | refine C.zt ?_ | refine C.zf ?_ | refine X.zo ?_)
        exact X.backG [(5, 10), (6, 11)] (i + 1, l2, m2, s1.1, s2.1, false) ⟨hlt, ⟨hAw, hDw, hLa⟩, ⟨hBw, hEw⟩, hVV, ⟨by dsimp only; omega, by dsimp only; omega⟩, ⟨hs1.1, hs1.2.1⟩, ⟨hs2.1, hs2.2.1⟩⟩ (by dsimp only; omega) rfl (by repeat (first | exact HasT.nil | refine HasT.cons rfl rfl rfl ?_)) (by repeat (first | exact HasH.nil | refine HasH.same rfl rfl rfl trivial ?_ | refine HasH.same rfl rfl rfl rfl ?_ | refine HasH.same rfl rfl rfl (fun _ _ => rfl) ?_ | refine HasH.roz rfl rfl ?_)) rfl (fun _ h => h)
    | true =>
      rw [hv2] at hhb
      have hh2 : hasK l2 x.key = true := (isV_has (hget.1.trans hv2)).1
      have hlv := (isV_has hv2).2
      have hslo : sloV m2 x.key = slotV m2 x.key := if_pos hhb.symm
      have hgv : getV m2 x.key = (slotV m2 x.key).get (slotV m2 x.key).rd := if_pos hhb.symm
      rw [← hhb, hh2, hslo]
      obtain ⟨⟨c0, c1, g0, g1, rd, wr⟩, hsl⟩ : ∃ q, slotV m2 x.key = q := ⟨_, rfl⟩
      rw [hsl] at hlv ⊢
      cases rd with
      | false =>
        obtain rfl : g0 = true := hlv
        have hgv2 : getV m2 x.key = c0 := by rw [hgv, hsl]; rfl
        rw [hgv2]
        repeat (first | refine C.seq ?_ | refine C.region ?_ | refine R.zb ttok ?_ | refine R.zu ttok ?_ | refine R.zc ttok ?_ | refine R.za ttok ?_ | refine R.zx ?_ | refine R.zl ttok ?_ | refine R.zs ttok ?_ | refine R.z ttok ?_ | refine R.zk ?_ | refine R.zn ?_ | refine R.done ?_ | refine X.then ?_ | refine C.block ?_ | refine C.ret ?_ | refine C.skip ?_ | refine C.exit ?_ | refine X.pass_ret ?_ | refine X.pass_exit ?_ | refine X.block_normal ?_ | refine X.block_ret ?_ | refine X.block_exit ?_ | refine C.zt ?_ | refine C.zf ?_ | refine X.zo ?_)
        refine R.ixa ttok 0 rfl rfl rfl rfl rfl (by kernel_rfl) rfl (by decide) ?_
        repeat (first | refine C.seq ?_ | refine C.region ?_ | refine R.zb ttok ?_ | refine R.zu ttok ?_ | refine R.zc ttok ?_ | refine R.za ttok ?_ | refine R.zx ?_ | refine R.zl ttok ?_ | refine R.zs ttok ?_ | refine R.z ttok ?_ | refine R.zk ?_ | refine R.zn ?_ | refine R.done ?_ | refine X.then ?_ | refine C.block ?_ | refine C.ret ?_ | refine C.skip ?_ | refine C.exit ?_ | refine X.pass_ret ?_ | refine X.pass_exit ?_ | refine X.block_normal ?_ | refine X.block_ret ?_ | refine X.block_exit ?_ | refine C.zt ?_ | refine C.zf ?_ | refine X.zo ?_)
        refine R.ixa ttok 0 rfl rfl rfl rfl rfl (by kernel_rfl) rfl (by decide) ?_
        repeat (first | refine C.seq ?_ | refine C.region ?_ | refine R.zb ttok ?_ | refine R.zu ttok ?_ | refine R.zc ttok ?_ | refine R.za ttok ?_ | refine R.zx ?_ | refine R.zl ttok ?_ | refine R.zs ttok ?_ | refine R.z ttok ?_ | refine R.zk ?_ | refine R.zn ?_ | refine R.done ?_ | refine X.then ?_ | refine C.block ?_ | refine C.ret ?_ | refine C.skip ?_ | refine C.exit ?_ | refine X.pass_ret ?_ | refine X.pass_exit ?_ | refine X.block_normal ?_ | refine X.block_ret ?_ | refine X.block_exit ?_ | refine C.zt ?_ | refine C.zf ?_ | refine X.zo ?_)
        rw [decide_eq_false (show ¬ c0 ≠ c0 from fun h => h rfl)]
        repeat (first | refine C.seq ?_ | refine C.region ?_ | refine R.zb ttok ?_ | refine R.zu ttok ?_ | refine R.zc ttok ?_ | refine R.za ttok ?_ | refine R.zx ?_ | refine R.zl ttok ?_ | refine R.zs ttok ?_ | refine R.z ttok ?_ | refine R.zk ?_ | refine R.zn ?_ | refine R.done ?_ | refine X.then ?_ | refine C.block ?_ | refine C.ret ?_ | refine C.skip ?_ | refine C.exit ?_ | refine X.pass_ret ?_ | refine X.pass_exit ?_ | refine X.block_normal ?_ | refine X.block_ret ?_ | refine X.block_exit ?_ | refine C.zt ?_ | refine C.zf ?_ | refine X.zo ?_)
        refine R.cl [1, 10] (marked_specZ s1.1 (VZ m2).length l2.length mk) Try.call31 (by repeat (first | exact HasIn.nil | refine HasIn.same rfl rfl ?_ | refine HasIn.c1 rfl rfl ?_ | refine HasIn.roq rfl rfl ?_ | refine HasIn.other rfl (fun e => by cases e) (fun ρ x w hh => tab_ro hh) ?_ | refine HasIn.other rfl (fun e => by cases e) (fun ρ x w hh => tab_any hh) ?_ | refine HasIn.roAp rfl rfl ?_ | refine HasIn.other rfl (fun e => by cases e) (fun ρ x w hh => cells_any hh) ?_ | refine HasIn.other rfl (fun e => by cases e) (fun ρ x w hh => ro_any hh) ?_)) rfl rfl rfl (fun _ => rfl) rfl (by kernel_rfl) fun _ _ => ?_
        cases mk with
        | true =>
          repeat (first | refine C.seq ?_ | refine C.region ?_ | refine R.zb ttok ?_ | refine R.zu ttok ?_ | refine R.zc ttok ?_ | refine R.za ttok ?_ | refine R.zx ?_ | refine R.zl ttok ?_ | refine R.zs ttok ?_ | refine R.z ttok ?_ | refine R.zk ?_ | refine R.zn ?_ | refine R.done ?_ | refine X.then ?_ | refine C.block ?_ | refine C.ret ?_ | refine C.skip ?_ | refine C.exit ?_ | refine X.pass_ret ?_ | refine X.pass_exit ?_ | refine X.block_normal ?_ | refine X.block_ret ?_ | refine X.block_exit ?_ | refine C.zt ?_ | refine C.zf ?_ | refine X.zo ?_)
          exact X.backG [(5, 10), (6, 11)] (i + 1, l2, m2, s1.1, s2.1, true) ⟨hlt, ⟨hAw, hDw, hLa⟩, ⟨hBw, hEw⟩, hVV, ⟨by dsimp only; omega, by dsimp only; omega⟩, ⟨hs1.1, hs1.2.1⟩, ⟨hs2.1, hs2.2.1⟩⟩ (by dsimp only; omega) rfl (by repeat (first | exact HasT.nil | refine HasT.cons rfl rfl rfl ?_)) (by repeat (first | exact HasH.nil | refine HasH.same rfl rfl rfl trivial ?_ | refine HasH.same rfl rfl rfl rfl ?_ | refine HasH.same rfl rfl rfl (fun _ _ => rfl) ?_ | refine HasH.roz rfl rfl ?_)) rfl (fun _ h => h)
        | false =>
          repeat (first | refine C.seq ?_ | refine C.region ?_ | refine R.zb ttok ?_ | refine R.zu ttok ?_ | refine R.zc ttok ?_ | refine R.za ttok ?_ | refine R.zx ?_ | refine R.zl ttok ?_ | refine R.zs ttok ?_ | refine R.z ttok ?_ | refine R.zk ?_ | refine R.zn ?_ | refine R.done ?_ | refine X.then ?_ | refine C.block ?_ | refine C.ret ?_ | refine C.skip ?_ | refine C.exit ?_ | refine X.pass_ret ?_ | refine X.pass_exit ?_ | refine X.block_normal ?_ | refine X.block_ret ?_ | refine X.block_exit ?_ | refine C.zt ?_ | refine C.zf ?_ | refine X.zo ?_)
          exact X.backG [(5, 10), (6, 11)] (i + 1, l2, m2, s1.1, s2.1, false) ⟨hlt, ⟨hAw, hDw, hLa⟩, ⟨hBw, hEw⟩, hVV, ⟨by dsimp only; omega, by dsimp only; omega⟩, ⟨hs1.1, hs1.2.1⟩, ⟨hs2.1, hs2.2.1⟩⟩ (by dsimp only; omega) rfl (by repeat (first | exact HasT.nil | refine HasT.cons rfl rfl rfl ?_)) (by repeat (first | exact HasH.nil | refine HasH.same rfl rfl rfl trivial ?_ | refine HasH.same rfl rfl rfl rfl ?_ | refine HasH.same rfl rfl rfl (fun _ _ => rfl) ?_ | refine HasH.roz rfl rfl ?_)) rfl (fun _ h => h)
      | true =>
        obtain rfl : g1 = true := hlv
        have hgv2 : getV m2 x.key = c1 := by rw [hgv, hsl]; rfl
        rw [hgv2]
        repeat (first | refine C.seq ?_ | refine C.region ?_ | refine R.zb ttok ?_ | refine R.zu ttok ?_ | refine R.zc ttok ?_ | refine R.za ttok ?_ | refine R.zx ?_ | refine R.zl ttok ?_ | refine R.zs ttok ?_ | refine R.z ttok ?_ | refine R.zk ?_ | refine R.zn ?_ | refine R.done ?_ | refine X.then ?_ | refine C.block ?_ | refine C.ret ?_ | refine C.skip ?_ | refine C.exit ?_ | refine X.pass_ret ?_ | refine X.pass_exit ?_ | refine X.block_normal ?_ | refine X.block_ret ?_ | refine X.block_exit ?_ | refine C.zt ?_ | refine C.zf ?_ | refine X.zo ?_)
        refine R.ixa ttok 1 rfl rfl rfl rfl rfl (by kernel_rfl) rfl (by decide) ?_
        repeat (first | refine C.seq ?_ | refine C.region ?_ | refine R.zb ttok ?_ | refine R.zu ttok ?_ | refine R.zc ttok ?_ | refine R.za ttok ?_ | refine R.zx ?_ | refine R.zl ttok ?_ | refine R.zs ttok ?_ | refine R.z ttok ?_ | refine R.zk ?_ | refine R.zn ?_ | refine R.done ?_ | refine X.then ?_ | refine C.block ?_ | refine C.ret ?_ | refine C.skip ?_ | refine C.exit ?_ | refine X.pass_ret ?_ | refine X.pass_exit ?_ | refine X.block_normal ?_ | refine X.block_ret ?_ | refine X.block_exit ?_ | refine C.zt ?_ | refine C.zf ?_ | refine X.zo ?_)
        refine R.ixa ttok 1 rfl rfl rfl rfl rfl (by kernel_rfl) rfl (by decide) ?_
        repeat (first | refine C.seq ?_ | refine C.region ?_ | refine R.zb ttok ?_ | refine R.zu ttok ?_ | refine R.zc ttok ?_ | refine R.za ttok ?_ | refine R.zx ?_ | refine R.zl ttok ?_ | refine R.zs ttok ?_ | refine R.z ttok ?_ | refine R.zk ?_ | refine R.zn ?_ | refine R.done ?_ | refine X.then ?_ | refine C.block ?_ | refine C.ret ?_ | refine C.skip ?_ | refine C.exit ?_ | refine X.pass_ret ?_ | refine X.pass_exit ?_ | refine X.block_normal ?_ | refine X.block_ret ?_ | refine X.block_exit ?_ | refine C.zt ?_ | refine C.zf ?_ | refine X.zo ?_)
        rw [decide_eq_false (show ¬ c1 ≠ c1 from fun h => h rfl)]
        repeat (first | refine C.seq ?_ | refine C.region ?_ | refine R.zb ttok ?_ | refine R.zu ttok ?_ | refine R.zc ttok ?_ | refine R.za ttok ?_ | refine R.zx ?_ | refine R.zl ttok ?_ | refine R.zs ttok ?_ | refine R.z ttok ?_ | refine R.zk ?_ | refine R.zn ?_ | refine R.done ?_ | refine X.then ?_ | refine C.block ?_ | refine C.ret ?_ | refine C.skip ?_ | refine C.exit ?_ | refine X.pass_ret ?_ | refine X.pass_exit ?_ | refine X.block_normal ?_ | refine X.block_ret ?_ | refine X.block_exit ?_ | refine C.zt ?_ | refine C.zf ?_ | refine X.zo ?_)
        refine R.cl [1, 10] (marked_specZ s1.1 (VZ m2).length l2.length mk) Try.call31 (by repeat (first | exact HasIn.nil | refine HasIn.same rfl rfl ?_ | refine HasIn.c1 rfl rfl ?_ | refine HasIn.roq rfl rfl ?_ | refine HasIn.other rfl (fun e => by cases e) (fun ρ x w hh => tab_ro hh) ?_ | refine HasIn.other rfl (fun e => by cases e) (fun ρ x w hh => tab_any hh) ?_ | refine HasIn.roAp rfl rfl ?_ | refine HasIn.other rfl (fun e => by cases e) (fun ρ x w hh => cells_any hh) ?_ | refine HasIn.other rfl (fun e => by cases e) (fun ρ x w hh => ro_any hh) ?_)) rfl rfl rfl (fun _ => rfl) rfl (by kernel_rfl) fun _ _ => ?_
        cases mk with
        | true =>
          repeat (first | refine C.seq ?_ | refine C.region ?_ | refine R.zb ttok ?_ | refine R.zu ttok ?_ | refine R.zc ttok ?_ | refine R.za ttok ?_ | refine R.zx ?_ | refine R.zl ttok ?_ | refine R.zs ttok ?_ | refine R.z ttok ?_ | refine R.zk ?_ | refine R.zn ?_ | refine R.done ?_ | refine X.then ?_ | refine C.block ?_ | refine C.ret ?_ | refine C.skip ?_ | refine C.exit ?_ | refine X.pass_ret ?_ | refine X.pass_exit ?_ | refine X.block_normal ?_ | refine X.block_ret ?_ | refine X.block_exit ?_ | refine C.zt ?_ | refine C.zf ?_ | refine X.zo ?_)
          exact X.backG [(5, 10), (6, 11)] (i + 1, l2, m2, s1.1, s2.1, true) ⟨hlt, ⟨hAw, hDw, hLa⟩, ⟨hBw, hEw⟩, hVV, ⟨by dsimp only; omega, by dsimp only; omega⟩, ⟨hs1.1, hs1.2.1⟩, ⟨hs2.1, hs2.2.1⟩⟩ (by dsimp only; omega) rfl (by repeat (first | exact HasT.nil | refine HasT.cons rfl rfl rfl ?_)) (by repeat (first | exact HasH.nil | refine HasH.same rfl rfl rfl trivial ?_ | refine HasH.same rfl rfl rfl rfl ?_ | refine HasH.same rfl rfl rfl (fun _ _ => rfl) ?_ | refine HasH.roz rfl rfl ?_)) rfl (fun _ h => h)
        | false =>
          repeat (first | refine C.seq ?_ | refine C.region ?_ | refine R.zb ttok ?_ | refine R.zu ttok ?_ | refine R.zc ttok ?_ | refine R.za ttok ?_ | refine R.zx ?_ | refine R.zl ttok ?_ | refine R.zs ttok ?_ | refine R.z ttok ?_ | refine R.zk ?_ | refine R.zn ?_ | refine R.done ?_ | refine X.then ?_ | refine C.block ?_ | refine C.ret ?_ | refine C.skip ?_ | refine C.exit ?_ | refine X.pass_ret ?_ | refine X.pass_exit ?_ | refine X.block_normal ?_ | refine X.block_ret ?_ | refine X.block_exit ?_ | refine C.zt ?_ | refine C.zf ?_ | refine X.zo ?_)
          exact X.backG [(5, 10), (6, 11)] (i + 1, l2, m2, s1.1, s2.1, false) ⟨hlt, ⟨hAw, hDw, hLa⟩, ⟨hBw, hEw⟩, hVV, ⟨by dsimp only; omega, by dsimp only; omega⟩, ⟨hs1.1, hs1.2.1⟩, ⟨hs2.1, hs2.2.1⟩⟩ (by dsimp only; omega) rfl (by repeat (first | exact HasT.nil | refine HasT.cons rfl rfl rfl ?_)) (by repeat (first | exact HasH.nil | refine HasH.same rfl rfl rfl trivial ?_ | refine HasH.same rfl rfl rfl rfl ?_ | refine HasH.same rfl rfl rfl (fun _ _ => rfl) ?_ | refine HasH.roz rfl rfl ?_)) rfl (fun _ h => h)
  rw [decide_eq_false hlt]
  repeat (first | refine C.seq ?_ | refine C.region ?_ | refine R.zb ttok ?_ | refine R.zu ttok ?_ | refine R.zc ttok ?_ | refine R.za ttok ?_ | refine R.zx ?_ | refine R.zl ttok ?_ | refine R.zs ttok ?_ | refine R.z ttok ?_ | refine R.zk ?_ | refine R.zn ?_ | refine R.done ?_ | refine X.then ?_ | refine C.block ?_ | refine C.ret ?_ | refine C.skip ?_ | refine C.exit ?_ | refine X.pass_ret ?_ | refine X.pass_exit ?_ | refine X.block_normal ?_ | refine X.block_ret ?_ | refine X.block_exit ?_ | refine C.zt ?_ | refine C.zf ?_ | refine X.zo ?_)
  refine R.wkD (fun w hf => FF.nil1 hf) ?_
  refine R.clF [] (known_specZ) (Nat.le_refl _) (fun _ _ => rfl) Try.call11 (by repeat (first | exact HasIn.nil | refine HasIn.same rfl rfl ?_ | refine HasIn.bro rfl ?_ | refine HasIn.ror rfl ?_ | refine HasIn.cro rfl rfl ?_)) rfl rfl rfl (fun _ => rfl) rfl (by kernel_rfl) fun _ _ => ?_
  repeat (first | refine C.seq ?_ | refine C.region ?_ | refine R.zb ttok ?_ | refine R.zu ttok ?_ | refine R.zc ttok ?_ | refine R.za ttok ?_ | refine R.zx ?_ | refine R.zl ttok ?_ | refine R.zs ttok ?_ | refine R.z ttok ?_ | refine R.zk ?_ | refine R.zn ?_ | refine R.done ?_ | refine X.then ?_ | refine C.block ?_ | refine C.ret ?_ | refine C.skip ?_ | refine C.exit ?_ | refine X.pass_ret ?_ | refine X.pass_exit ?_ | refine X.block_normal ?_ | refine X.block_ret ?_ | refine X.block_exit ?_ | refine C.zt ?_ | refine C.zf ?_ | refine X.zo ?_)
  refine X.finS ttok () [] trivial rfl rfl rfl (by repeat (first | exact HasH.nil | refine HasH.same rfl rfl rfl trivial ?_ | refine HasH.same rfl rfl rfl rfl ?_ | refine HasH.same rfl rfl rfl (fun _ _ => rfl) ?_ | refine HasH.ros rfl rfl ?_)) _ (by first | exact .inl rfl | exact .inr rfl)
end Go.Proofs.Yteabncomclgncaa
