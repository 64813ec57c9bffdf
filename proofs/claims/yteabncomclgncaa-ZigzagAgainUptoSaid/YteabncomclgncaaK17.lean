/- The kernel, 17: lists of bytes; none as an empty list; the ends of calls. No program in sight. -/
import Derived.Test.YteabncomclgncaaK16
namespace Go.Proofs.Yteabncomclgncaa
set_option linter.unusedVariables false
set_option linter.unusedSimpArgs false
set_option linter.unusedSectionVars false
open Go.RowKit

section
variable {P : Program} {ops : Array Oper} {Q : Exit → Act → World → Prop} {D : Option DD} {E : Base} {n L : Nat} {τ : List (Nat × AV)} {h : List (Nat × AO)} {F : World → Prop} {rest : List Oper}
  {d : Nat} {op : Op} {ty : TypeId} {ps : String} {af : Array Edge} {gd : Option (Nat × Bool)} {tt : List (Nat × TI)}
/-- append to a list of bytes of one's own -/
theorem R.apb (htt : TTok P tt) {t T : TypeId} {x y : Operand} {v2 : AV} {l n0 cap m : Nat} {p q r : List UInt8} {news : List AV} {tl te : TI} (hx : evA τ x = some (.sl l 1 0 n0 cap)) (hl : hk l h = some (.bytes p cap T)) (hn : n0 = p.length) (hy : evA τ y = some v2) (hs : SrcA E n L τ h F v2 m news) (hq : news = avB q) (hr : p ++ q = r)
    (ht : lk t tt = some tl) (hkd : tl.kind = .sl T) (hte : lk T tt = some te) (hok : (Nat.beq te.size 1 && Nat.beq te.bytes 1 && Nat.beq te.zero.length 1) = true)
    (hg : wantA ops ⟨some d, .call { callee := .builtin .append, args := #[x, y], argTypes := #[t, t] }, ty, ps, af, gd⟩ τ = some true) (hb : (Nat.ble (d + 1) n && chainB h D [l]) = true)
    (hm : m = q.length) (hcap : cap ≤ 9223372036854775807) (hby : r.length ≤ 140737488355328)
    (k : ∀ c, r.length ≤ c → c ≤ 9223372036854775807 → R P ops Q (actD h D [l]) E n (L + 1) ((d, .sl L 1 0 r.length c) :: τ) ((L, .bytes r c T) :: (l, .gone) :: h) F rest) :
    R P ops Q D E n L τ h F (⟨some d, .call { callee := .builtin .append, args := #[x, y], argTypes := #[t, t] }, ty, ps, af, gd⟩ :: rest) := by
  simp only [Bool.and_eq_true] at hok
  have e1 := Nat.eq_of_beq_eq_true hok.1.1
  have e2 := Nat.eq_of_beq_eq_true hok.1.2
  have e3 := Nat.eq_of_beq_eq_true hok.2
  subst hq
  subst hr
  have hlen : n0 + m = (p ++ q).length := by rw [List.length_append]; omega
  refine R.app htt (fun c => .bytes (p ++ q) c T) hx hy (DstA.bytes hl hn) hs (by rw [← avB_append]; exact AsRow.bytes T _) ht hkd hte e1 e2 (by rw [e1, e3]; rfl) (by omega) (List.all_eq_true.2 fun v hv => ?_) (by rw [avB_length, Nat.mul_one, hm]) hg hb hcap (by omega) (by omega) fun c h1 h2 => ?_
  · obtain ⟨b, _, rfl⟩ := List.mem_map.1 hv; rfl
  · rw [hlen] at h1 ⊢
    exact k c h1 h2
/-- append to none -/
theorem R.apn (htt : TTok P tt) {t T : TypeId} {x y : Operand} {v2 : AV} {m : Nat} {q : List UInt8} {news : List AV} {tl te : TI} (hx : evA τ x = some (.raw (.slice none 0 0))) (hy : evA τ y = some v2) (hs : SrcA E n L τ h F v2 m news) (hq : news = avB q)
    (ht : lk t tt = some tl) (hkd : tl.kind = .sl T) (hte : lk T tt = some te) (hok : (Nat.beq te.size 1 && Nat.beq te.bytes 1 && Nat.beq te.zero.length 1) = true)
    (hg : wantA ops ⟨some d, .call { callee := .builtin .append, args := #[x, y], argTypes := #[t, t] }, ty, ps, af, gd⟩ τ = some true) (hb : (Nat.ble (d + 1) n && chainB h D []) = true)
    (hm : m = q.length) (hby : q.length ≤ 140737488355328)
    (k : ∀ c, q.length ≤ c → c ≤ 9223372036854775807 → R P ops Q (actD h D []) E n (L + 1) ((d, .sl L 1 0 q.length c) :: τ) ((L, .bytes q c T) :: h) F rest) :
    R P ops Q D E n L τ h F (⟨some d, .call { callee := .builtin .append, args := #[x, y], argTypes := #[t, t] }, ty, ps, af, gd⟩ :: rest) := by
  simp only [Bool.and_eq_true] at hok
  have e1 := Nat.eq_of_beq_eq_true hok.1.1
  have e2 := Nat.eq_of_beq_eq_true hok.1.2
  have e3 := Nat.eq_of_beq_eq_true hok.2
  subst hq
  subst hm
  refine R.app htt (fun c => .bytes q c T) hx hy (DstA.nil T 1) hs (AsRow.bytes T _) ht hkd hte e1 e2 (by rw [e1, e3]; rfl) (by omega) (List.all_eq_true.2 fun v hv => ?_) (by rw [avB_length, Nat.mul_one]) hg hb (by omega) (by omega) (by omega) fun c h1 h2 => ?_
  · obtain ⟨b, _, rfl⟩ := List.mem_map.1 hv; rfl
  · rw [Nat.zero_add] at h1 ⊢
    exact k c h1 h2

/-! none as an empty list -/
/-- a label without a block -/
theorem Gam.mkNone {ρ : Env} {a : Act} {w : World} (g : Gam E ρ n L τ h F a w) (o : AO) (ho : ∀ ρ' W, o.Low ρ' (L + 1) ∧ o.holds ρ' none W) (τ' : List (Nat × AV)) (h' : List (Nat × AO)) (hro : o.isRo = false)
    (hτ : ∀ t v', lk t τ' = some v' → v'.Low (updE ρ L none) (L + 1) ∧ ∃ v, lk t τ = some v ∧ v'.conc (updE ρ L none) = v.conc ρ)
    (hh : ∀ l o', hk l h' = some o' → ∃ o0, hk l h = some o0 ∧ o0.isRo = o'.isRo ∧ o'.Low (updE ρ L none) (L + 1) ∧ ∀ r W, o0.holds ρ r W → o'.holds (updE ρ L none) r W) : Gam E (updE ρ L none) n (L + 1) τ' ((L, o) :: h') F a w := by
  have hs : ∀ l, l < L → updE ρ L Option.none l = ρ l := fun l hl => updE_ne ρ _ (by omega)
  have hlive : ∀ l, hk l h' ≠ Option.none → hk l h ≠ Option.none ∧ l < L := fun l hl => by
    cases hx : hk l h' with
    | none => exact absurd hx hl
    | some o' =>
      obtain ⟨o0, h1, _⟩ := hh l o' hx
      exact ⟨by rw [h1]; simp, (g.hp l o0 h1).1⟩
  have hw : ∀ l, L ≠ l → wrA l ((L, o) :: h') → wrA l h := fun l e hl => by
    obtain ⟨o1, h1, h2⟩ := hl
    rw [hk_cons, if_neg e] at h1
    obtain ⟨o0, h3, h4, _⟩ := hh l o1 h1
    exact ⟨o0, h3, h4.trans h2⟩
  refine ⟨g.df, g.sz, fun t v hv => ?_, fun l o' hl => ?_, fun l l' b hl hl' hb hb' => ?_, fun w' hw' => ?_, fun l hl => ?_, Nat.le_trans g.le (Nat.le_succ L), fun l b hl hb => ?_⟩
  · obtain ⟨h1, v0, h2, h3⟩ := hτ t v hv
    exact ⟨h1, by rw [h3]; exact (g.tm t v0 h2).2⟩
  · rw [hk_cons] at hl
    split at hl
    · rename_i e
      subst e
      rw [updE_same]
      have e2 : o' = o := by cases o <;> simp at hl <;> exact hl.symm
      subst e2
      exact ⟨by omega, (ho _ w).1, (ho _ w).2⟩
    · obtain ⟨o0, h1, h2, h3, h4⟩ := hh l o' hl
      have := g.hp l o0 h1
      refine ⟨by omega, h3, ?_⟩
      rw [hs l this.1]
      exact h4 _ _ this.2.2
  · by_cases e1 : L = l
    · subst e1; rw [updE_same] at hb; cases hb
    · by_cases e2 : L = l'
      · subst e2; rw [updE_same] at hb'; cases hb'
      · rw [updE_ne ρ _ (fun e => e1 e.symm)] at hb
        rw [updE_ne ρ _ (fun e => e2 e.symm)] at hb'
        rw [hk_cons, if_neg e2] at hl'
        exact g.dis l l' b (hw l e1 hl) (hlive l' hl').1 hb hb'
  · refine g.fr w' (hw'.mono fun b _ hd l hl hb => ?_)
    by_cases e1 : L = l
    · subst e1; rw [updE_same] at hb; cases hb
    · rw [updE_ne ρ _ (fun e => e1 e.symm)] at hb
      exact hd l (hw l e1 hl) hb
  · rw [hs l (Nat.lt_of_lt_of_le hl g.le), g.ex l hl]
  · rcases Nat.lt_or_ge l L with h1 | h1
    · exact g.al l b h1 ((hs l h1).symm.trans hb)
    · obtain rfl : l = L := by omega
      rw [updE_same] at hb; cases hb
theorem none_bytes (L : Nat) (T : TypeId) (ρ : Env) (W : World) : (AO.bytes [] 0 T).Low ρ (L + 1) ∧ (AO.bytes [] 0 T).holds ρ none W := ⟨AO.Low.bytes _ _ _ _ _, by simp, .inl ⟨rfl, rfl⟩⟩
theorem none_tab (L : Nat) (T : TypeId) (wd : Nat) (f : Nat → List AV) (ρ : Env) (W : World) : (AO.tab wd 0 0 f T).Low ρ (L + 1) ∧ (AO.tab wd 0 0 f T).holds ρ none W := ⟨AO.Low.tab T (fun i hi => by omega), by simp, fun i hi => by omega, .inl ⟨rfl, rfl⟩⟩
theorem low_up {ρ : Env} {r : Option Nat} {v : AV} (hv : v.Low ρ L) : v.Low (updE ρ L r) (L + 1) ∧ v.conc (updE ρ L r) = v.conc ρ := by
  have hs : ∀ l, l < L → updE ρ L r l = ρ l := fun l hl => updE_ne ρ _ (by omega)
  exact ⟨(hv.ext hs).mono (Nat.le_succ L), hv _ hs⟩
/-- a slot that holds none, or such a thing: it holds an empty list -/
theorem Gam.noneT {ρ : Env} {a : Act} {w : World} (g : Gam E ρ n L τ h F a w) (o : AO) (ho : ∀ ρ' W, o.Low ρ' (L + 1) ∧ o.holds ρ' none W) (hro : o.isRo = false) (t : Nat) (v v' : AV) (hv : lk t τ = some v) (hb : v'.bd (L + 1) = true) (hc : ∀ ρ : Env, ρ L = Option.none → v'.conc ρ = v.conc ρ) :
    Gam E (updE ρ L none) n (L + 1) ((t, v') :: τ) ((L, o) :: h) F a w :=
  g.mkNone o ho _ _ hro (fun s u hu => by
    rw [lk_cons] at hu
    split at hu
    · rename_i e
      subst e
      cases hu
      exact ⟨bdLow hb _, v, hv, by rw [hc _ (updE_same _ _ _), (low_up (g.tm t v hv).1).2]⟩
    · exact ⟨(low_up (g.tm s u hu).1).1, u, hu, (low_up (g.tm s u hu).1).2⟩) (fun l o' hl => by
    have := g.hp l o' hl
    have hs : ∀ k, k < L → updE ρ L Option.none k = ρ k := fun l hl => updE_ne ρ _ (by omega)
    exact ⟨o', hl, rfl, (this.2.1.ext hs).mono (Nat.le_succ L), fun r W hr => (this.2.1 _ hs _ _).1 hr⟩)
/-- the same of a cell -/
theorem Gam.noneH {ρ : Env} {a : Act} {w : World} (g : Gam E ρ n L τ h F a w) (o : AO) (ho : ∀ ρ' W, o.Low ρ' (L + 1) ∧ o.holds ρ' none W) (hro : o.isRo = false) (l0 : Nat) (xs xs' : List AV) (T : TypeId) (hv : hk l0 h = some (.cells xs T)) (hb : AV.bds (L + 1) xs' = true) (hc : ∀ ρ : Env, ρ L = Option.none → AV.concs ρ xs' = AV.concs ρ xs) :
    Gam E (updE ρ L none) n (L + 1) τ ((L, o) :: (l0, .cells xs' T) :: h) F a w :=
  g.mkNone o ho _ _ hro (fun s u hu => ⟨(low_up (g.tm s u hu).1).1, u, hu, (low_up (g.tm s u hu).1).2⟩) (fun l o' hl => by
    have hs : ∀ k, k < L → updE ρ L Option.none k = ρ k := fun l hl => updE_ne ρ _ (by omega)
    rw [hk_cons] at hl
    split at hl
    · rename_i e
      subst e
      cases hl
      have hlow := g.lowCells hv
      refine ⟨_, hv, rfl, AO.Low.cells T fun x hx => bdLow (bds_all hb x hx) _, fun r W hr => ?_⟩
      simp only [AO.holds] at hr ⊢
      rw [hc _ (updE_same _ _ _), concs_low hlow _ hs]
      exact hr
    · have := g.hp l o' hl
      exact ⟨o', hl, rfl, (this.2.1.ext hs).mono (Nat.le_succ L), fun r W hr => (this.2.1 _ hs _ _).1 hr⟩)
theorem sl_none {l wd : Nat} {ρ : Env} (h : ρ l = Option.none) : (AV.sl l wd 0 0 0).conc ρ = .slice Option.none 0 0 := by simp [AV.conc, h]
theorem C.noneT {c : Code} (t : Nat) (v' : AV) (o : AO) (ho : ∀ ρ' W, o.Low ρ' (L + 1) ∧ o.holds ρ' none W) (hro : o.isRo = false) {v : AV} (hv : lk t τ = some v) (hb : v'.bd (L + 1) = true) (hc : ∀ ρ : Env, ρ L = Option.none → v'.conc ρ = v.conc ρ)
    (k : C P c Q E n (L + 1) ((t, v') :: τ) ((L, o) :: h) F) : C P c Q E n L τ h F := ⟨fun ρ a w g => k.out _ a w (g.noneT o ho hro t v v' hv hb hc)⟩
theorem C.noneH {c : Code} (l0 : Nat) (xs' : List AV) (o : AO) (ho : ∀ ρ' W, o.Low ρ' (L + 1) ∧ o.holds ρ' none W) (hro : o.isRo = false) {xs : List AV} {T : TypeId} (hv : hk l0 h = some (.cells xs T)) (hb : AV.bds (L + 1) xs' = true) (hc : ∀ ρ : Env, ρ L = Option.none → AV.concs ρ xs' = AV.concs ρ xs)
    (k : C P c Q E n (L + 1) τ ((L, o) :: (l0, .cells xs' T) :: h) F) : C P c Q E n L τ h F := ⟨fun ρ a w g => k.out _ a w (g.noneH o ho hro l0 xs xs' T hv hb hc)⟩
theorem X.noneT {e : Exit} (t : Nat) (v' : AV) (o : AO) (ho : ∀ ρ' W, o.Low ρ' (L + 1) ∧ o.holds ρ' none W) (hro : o.isRo = false) {v : AV} (hv : lk t τ = some v) (hb : v'.bd (L + 1) = true) (hc : ∀ ρ : Env, ρ L = Option.none → v'.conc ρ = v.conc ρ)
    (k : X Q e E n (L + 1) ((t, v') :: τ) ((L, o) :: h) F) : X Q e E n L τ h F := ⟨fun ρ a w g => k.out _ a w (g.noneT o ho hro t v v' hv hb hc)⟩
theorem X.noneH {e : Exit} (l0 : Nat) (xs' : List AV) (o : AO) (ho : ∀ ρ' W, o.Low ρ' (L + 1) ∧ o.holds ρ' none W) (hro : o.isRo = false) {xs : List AV} {T : TypeId} (hv : hk l0 h = some (.cells xs T)) (hb : AV.bds (L + 1) xs' = true) (hc : ∀ ρ : Env, ρ L = Option.none → AV.concs ρ xs' = AV.concs ρ xs)
    (k : X Q e E n (L + 1) τ ((L, o) :: (l0, .cells xs' T) :: h) F) : X Q e E n L τ h F := ⟨fun ρ a w g => k.out _ a w (g.noneH o ho hro l0 xs xs' T hv hb hc)⟩

/-! the ends of calls -/
/-- what may be written is new, or came in to be written -/
theorem Gam.fresh {h0 : List AO} {ρ0 : Env} {w0 : World} {ρ : Env} {a : Act} {w : World} (g : Gam E ρ n L τ h (fun w' => Ag (fun b => ¬ Wr0 h0 ρ0 b) w0 w') a w) {l b : Nat} (hl : wrA l h) (hb : ρ l = some b) : w0.heap.size ≤ b ∨ Wr0 h0 ρ0 b := by
  rcases Nat.lt_or_ge b w0.heap.size with h1 | h1
  · right
    refine Classical.byContradiction fun hn => ?_
    have hlt := g.lt hl.live hb
    have key : ∀ ob : Obj, w0.heap[b]? = some ob := fun ob => by
      have h2 : Ag (fun b => ∀ l, wrA l h → ρ l ≠ some b) w { w with heap := w.heap.set! b ob } := ⟨rfl, rfl, rfl, by simp, fun b' hb' hd => by
        have hne : b ≠ b' := fun e => hd l hl (e ▸ hb)
        simp [Array.getElem?_setIfInBounds, hne]⟩
      have h3 := (g.fr _ h2).block b h1 hn
      rw [← h3]
      simp [hlt]
    have h4 := key (.cells #[] 0 (0, 0))
    have h5 := key (.cells #[] 0 (0, 1))
    rw [h4] at h5
    simp at h5
  · exact .inl h1
def wrB (l : Nat) (h : List (Nat × AO)) : Bool := match hk l h with
  | some o => !o.isRo
  | none => false
theorem wrB_ok {l : Nat} {h : List (Nat × AO)} (hw : wrB l h = true) : wrA l h := by
  unfold wrB at hw
  split at hw
  · rename_i o ho; exact ⟨o, ho, by simpa using hw⟩
  · cases hw
def newB (N : Nat) (rl : List (Nat × Nat)) (h : List (Nat × AO)) : List (Nat × AO) → Bool
  | [] => true
  | (l, _) :: r => (Nat.ble (l + 1) N || wrB (rnF rl l) h) && newB N rl h r
def oldB (h0 : List AO) : List (Nat × AO) → Bool
  | [] => true
  | (l, o) :: r => (Nat.ble h0.length l || o.isRo || (match h0[l]? with
    | some o0 => !o0.isRo
    | none => false)) && oldB h0 r
theorem newB_mem {N : Nat} {rl : List (Nat × Nat)} {h : List (Nat × AO)} : ∀ {p : List (Nat × AO)}, newB N rl h p = true → ∀ l, hk l p ≠ none → N ≤ l → wrA (rnF rl l) h
  | [], _, l, hl, _ => by simp [hk, lk] at hl
  | (s, o) :: r, hp, l, hl, hN => by
    simp only [newB, Bool.and_eq_true, Bool.or_eq_true, Nat.ble_eq] at hp
    rw [hk_cons] at hl
    split at hl
    · rename_i e
      subst e
      rcases hp.1 with h1 | h1
      · omega
      · exact wrB_ok h1
    · exact newB_mem hp.2 l hl hN
theorem oldB_mem {h0 : List AO} : ∀ {p : List (Nat × AO)}, oldB h0 p = true → ∀ i o, i < h0.length → hk i p = some o → o.isRo = false → ∃ o0, h0[i]? = some o0 ∧ o0.isRo = false
  | [], _, i, o, _, hl, _ => by simp [hk, lk] at hl
  | (s, u) :: r, hp, i, o, hi, hl, hro => by
    simp only [oldB, Bool.and_eq_true, Bool.or_eq_true, Nat.ble_eq] at hp
    rw [hk_cons] at hl
    split at hl
    · rename_i e
      subst e
      have e2 : o = u := by cases u <;> simp at hl <;> exact hl.symm
      subst e2
      rcases hp.1 with (h1 | h1) | h1
      · omega
      · rw [hro] at h1; cases h1
      · split at h1
        · rename_i o0 ho; exact ⟨o0, ho, by simpa using h1⟩
        · cases h1
    · exact oldB_mem hp.2 i o hi hl hro
/-- the end of a call whose contract is at hand -/
theorem X.fin {tt : List (Nat × TI)} (htt : TTok P tt) {fn : Func} {σ : Type} {h0 : List AO} {m : Nat} {ρ0 : Env} {w0 : World} {G : σ → Prop} {val : σ → AV} {post : σ → List (Nat × AO)} {vs : List AV} (s : σ) (rl : List (Nat × Nat)) (hG : G s) (hr : resA tt h τ fn.results.toList = some vs)
    (hv : resV vs = (val s).ren (rnF rl)) (hb : ((val s).bd m && rnB h0.length m L rl && newB h0.length rl h (post s) && oldB h0 (post s) && nodupB (((post s).map (·.1)).map (rnF rl))) = true) (hh : HasH (rnF rl) m h (post s)) (e : Exit) (he : e = .ret ∨ e = .normal) :
    X (bodyPost P fn (Outc h0 m ρ0 w0 G val post)) e ⟨h0.length, ρ0, []⟩ n L τ h (fun w' => Ag (fun b => ¬ Wr0 h0 ρ0 b) w0 w') := by
  have key : ∀ ρ a w, Gam ⟨h0.length, ρ0, []⟩ ρ n L τ h (fun w' => Ag (fun b => ¬ Wr0 h0 ρ0 b) w0 w') a w → Outc h0 m ρ0 w0 G val post (.returned ((resV vs).conc ρ)) w := fun ρ a w g => by
    simp only [Bool.and_eq_true] at hb
    obtain ⟨⟨⟨⟨h1, h2⟩, h3⟩, h4⟩, h5⟩ := hb
    obtain ⟨h6, h7, h8⟩ := rn_ok h2
    exact g.outc (fun w' h => h) s (rnF rl) hG hv h1 h8 h6 h7 hh h5 (fun l b hl hlive hb => g.fresh (newB_mem h3 l hlive hl) hb) (oldB_mem h4)
  rcases he with rfl | rfl
  · exact X.ret htt hr key
  · exact X.end_ htt hr key
/-- a contract is proved so -/
theorem Spec.of {f : FuncId} {avs : List AV} {h0 : List AO} {m : Nat} {σ : Type} {G : σ → Prop} {val : σ → AV} {post : σ → List (Nat × AO)} {fn : Func} {c : Code} (hf : P.funcs[f]? = some fn) (hb : fn.body = some c) {n : Nat} (hn : fn.ntmps = n) (hB : (Nat.ble avs.length n && AV.bds h0.length avs) = true) (hbo : ∀ o ∈ h0, o.Bd h0.length)
    (k : ∀ ρ w, C P c (bodyPost P fn (Outc h0 m ρ w G val post)) ⟨h0.length, ρ, []⟩ n h0.length (slots 0 avs) (labels 0 h0) (fun w' => Ag (fun b => ¬ Wr0 h0 ρ b) w w')) : Spec P f avs h0 m G val post := fun ρ w h1 h2 h3 => by
  simp only [Bool.and_eq_true] at hB
  exact CL.enter hf hb ρ avs h0 w _ n hn hB.1 hB.2 hbo h1 h2 h3 (k ρ w).out
end
end Go.Proofs.Yteabncomclgncaa
