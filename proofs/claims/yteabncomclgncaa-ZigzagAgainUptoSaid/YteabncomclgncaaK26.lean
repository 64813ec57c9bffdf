/- The kernel, 26: a region that draws its order, where effects float: by cases which comes first. No program in sight. -/
import Derived.Test.YteabncomclgncaaK25
namespace Go.Proofs.Yteabncomclgncaa
set_option linter.unusedVariables false
set_option linter.unusedSimpArgs false
set_option linter.unusedSectionVars false
open Go.RowKit

/-- an order that may be drawn, from what is listed on -/
def Valid (ops : Array Oper) : Array Bool → List Nat → Prop
  | listed, [] => Region.ready .any ops listed = []
  | listed, k :: r => k ∈ Region.ready .any ops listed ∧ Valid ops (listed.setIfInBounds k true) r
section
variable {P : Program} {ops : Array Oper} {Q : Exit → Act → World → Prop}
theorem Valid.sound : ∀ {ord : List Nat} {fuel : Nat} {listed : Array Bool} {a : Act} {w : World}, wpAny P .any ops Q fuel listed a w → Valid ops listed ord → wpOps P ops Q ord a w
  | [], 0, _, _, _, h, _ => h.2
  | [], _ + 1, _, _, _, h, hv => h.1 hv
  | k :: r, 0, _, _, _, h, hv => by have := hv.1; rw [h.1] at this; cases this
  | k :: r, fuel + 1, _, _, _, h, hv => by
    rw [wpOps_cons]
    exact wpOp_mono (fun a w hh => Valid.sound hh hv.2) (h.2 k hv.1)
def unl (n : Nat) (listed : Array Bool) : Nat := (List.range n).countP fun k => !listed.getD k true
theorem unl_set {n k : Nat} {listed : Array Bool} (hk : k < n) (hl : listed.getD k true = false) : unl n (listed.setIfInBounds k true) + 1 ≤ unl n listed := by
  have hsz : k < listed.size := by
    rcases Nat.lt_or_ge k listed.size with h | h
    · exact h
    · simp [Array.getElem?_eq_none h] at hl
  unfold unl
  have h1 : ∀ m, k < m → (List.range m).countP (fun i => !(listed.setIfInBounds k true).getD i true) + 1 ≤ (List.range m).countP fun i => !listed.getD i true := by
    intro m
    induction m with
    | zero => intro h; omega
    | succ m ih =>
      intro h
      rw [List.range_succ, List.countP_append, List.countP_append]
      rcases Nat.lt_or_ge k m with h' | h'
      · have := ih h'
        have e : (listed.setIfInBounds k true).getD m true = listed.getD m true := getD_set_ne true (by omega)
        simp only [List.countP_cons, List.countP_nil, e]
        omega
      · obtain rfl : k = m := by omega
        have hle : (List.range k).countP (fun i => !(listed.setIfInBounds k true).getD i true) ≤ (List.range k).countP fun i => !listed.getD i true := by
          refine List.countP_mono_left fun i hi hh => ?_
          have hi' : i < k := by simpa using hi
          rwa [getD_set_ne true (by omega)] at hh
        have e : (listed.setIfInBounds k true).getD k true = true := by simp [hsz]
        simp only [List.countP_cons, List.countP_nil, e, hl, Bool.not_true, Bool.not_false, if_true, Bool.false_eq_true, if_false]
        omega
  exact h1 n hk
theorem lin_valid : ∀ (fuel t : Nat) (listed : Array Bool), unl ops.size listed ≤ fuel → Valid ops listed (Region.linearise.go .any ops fuel t listed []) := by
  intro fuel
  induction fuel with
  | zero =>
    intro t listed hu
    simp only [Region.linearise.go, List.reverse_nil, Valid]
    rw [List.eq_nil_iff_forall_not_mem]
    intro j hj
    obtain ⟨h0, o, ho, _⟩ := mem_ready.1 hj
    have hlt := (Array.getElem?_eq_some_iff.1 ho).1
    have := unl_set hlt h0
    omega
  | succ fuel ih =>
    intro t listed hu
    simp only [Region.linearise.go]
    change Valid ops listed (match (Region.ready .any ops listed)[t % (Region.ready .any ops listed).length]? with
      | some i => Region.linearise.go .any ops fuel (t / (Region.ready .any ops listed).length) (listed.setIfInBounds i true) [i]
      | none => [].reverse)
    cases hi : (Region.ready .any ops listed)[t % (Region.ready .any ops listed).length]? with
    | none =>
      simp only [List.reverse_nil, Valid]
      cases hr : Region.ready .any ops listed with
      | nil => rfl
      | cons x xs =>
        rw [hr] at hi
        have hlt : t % (x :: xs).length < (x :: xs).length := Nat.mod_lt _ (by simp)
        simp at hi
        simp at hlt
        omega
    | some i =>
      simp only []
      rw [linearise_go_acc, List.reverse_singleton, List.singleton_append]
      have hm := List.mem_of_getElem? hi
      refine ⟨hm, ih _ _ ?_⟩
      obtain ⟨h0, o, ho, _⟩ := mem_ready.1 hm
      have := unl_set (Array.getElem?_eq_some_iff.1 ho).1 h0
      omega
end

/-! one more edge -/
def edgeTo (i : Nat) (o : Oper) : Oper := match o with
  | ⟨d, op, ty, ps, af, gd⟩ => ⟨d, op, ty, ps, af.push ⟨i, .chain⟩, gd⟩
/-- j waits for i -/
def addL : List Oper → Nat → Nat → List Oper
  | [], _, _ => []
  | o :: r, i, 0 => edgeTo i o :: r
  | o :: r, i, j + 1 => o :: addL r i j
theorem addL_get : ∀ (l : List Oper) (i j k : Nat), (addL l i j)[k]? = if k = j then (l[k]?).map (edgeTo i) else l[k]?
  | [], i, j, k => by simp [addL]
  | o :: r, i, 0, 0 => by simp [addL]
  | o :: r, i, 0, k + 1 => by simp [addL]
  | o :: r, i, j + 1, 0 => by simp [addL]
  | o :: r, i, j + 1, k + 1 => by simp [addL, addL_get r i j k]
theorem edgeTo_dst (i : Nat) (o : Oper) : (edgeTo i o).dst = o.dst := rfl
section
variable {P : Program} {Q : Exit → Act → World → Prop} {l : List Oper} {i j : Nat}
theorem addL_ready {listed : Array Bool} {k : Nat} : k ∈ Region.ready .any (addL l i j).toArray listed ↔ k ∈ Region.ready .any l.toArray listed ∧ (k = j → listed.getD i false = true) := by
  rw [mem_ready, mem_ready]
  simp only [List.getElem?_toArray, addL_get]
  by_cases hk : k = j
  · subst hk
    simp only [if_true, true_implies]
    constructor
    · rintro ⟨h0, o, ho, he⟩
      obtain ⟨o', ho', rfl⟩ := Option.map_eq_some_iff.1 ho
      refine ⟨⟨h0, o', ho', fun e hm hb => he e (Array.mem_push.2 (.inl hm)) hb⟩, he ⟨i, .chain⟩ (Array.mem_push.2 (.inr rfl)) rfl⟩
    · rintro ⟨⟨h0, o, ho, he⟩, hi⟩
      refine ⟨h0, edgeTo i o, by rw [ho]; rfl, fun e hm hb => ?_⟩
      rcases Array.mem_push.1 hm with hm | rfl
      · exact he e hm hb
      · exact hi
  · simp [hk]
theorem addL_yield (tmps : Array Value) : yielded (addL l i j).toArray tmps = yielded l.toArray tmps := by
  funext k
  have : ((addL l i j).toArray[k]?).bind (·.dst) = (l.toArray[k]?).bind (·.dst) := by
    simp only [List.getElem?_toArray, addL_get]
    split
    · cases l[k]? <;> rfl
    · rfl
  unfold yielded
  rw [this]
theorem addL_op {k : Nat} {K : Act → World → Prop} {a : Act} {w : World} (h : wpOp P (addL l i j).toArray Q k K a w) : wpOp P l.toArray Q k K a w := by
  unfold wpOp at *
  rw [addL_yield] at h
  simp only [List.getElem?_toArray, addL_get] at *
  by_cases hk : k = j
  · rw [if_pos hk] at h
    cases ho : l[k]? with
    | none => rw [ho] at h; exact h
    | some o => rw [ho] at h; exact h
  · rw [if_neg hk] at h
    exact h
theorem addL_ops : ∀ {ord : List Nat} {a : Act} {w : World}, wpOps P (addL l i j).toArray Q ord a w → wpOps P l.toArray Q ord a w
  | [], _, _, h => h
  | k :: r, a, w, h => by
    rw [wpOps_cons] at h ⊢
    exact wpOp_mono (fun a w hh => addL_ops hh) (addL_op h)
/-- once i is listed the edge asks nothing -/
theorem valid_behind : ∀ {ord : List Nat} {listed : Array Bool}, listed.getD i false = true → Valid l.toArray listed ord → Valid (addL l i j).toArray listed ord
  | [], listed, hi, h => by
    simp only [Valid, List.eq_nil_iff_forall_not_mem] at *
    exact fun k hk => h k (addL_ready.1 hk).1
  | k :: r, listed, hi, h => by
    refine ⟨addL_ready.2 ⟨h.1, fun _ => hi⟩, valid_behind ?_ h.2⟩
    by_cases hk : k = i
    · subst hk
      have hs : k < listed.size := by
        rcases Nat.lt_or_ge k listed.size with h | h
        · exact h
        · simp [Array.getElem?_eq_none h] at hi
      simp [hs]
    · rw [getD_set_ne false hk]; exact hi
theorem set_listed {n k : Nat} {listed : Array Bool} (hs : k < listed.size) : (listed.setIfInBounds k true).getD k false = true := by simp [hs]
theorem valid_either (hij : i ≠ j) : ∀ {ord : List Nat} {listed : Array Bool}, listed.size = l.length → Valid l.toArray listed ord → (∀ k, k < l.length → listed.getD k false = true ∨ k ∈ ord) → j < l.length → listed.getD i false = false → listed.getD j false = false →
    Valid (addL l i j).toArray listed ord ∨ Valid (addL l j i).toArray listed ord
  | [], listed, hs, h, hall, hj, hi0, hj0 => by
    rcases hall j hj with h1 | h1
    · rw [hj0] at h1; cases h1
    · cases h1
  | k :: r, listed, hs, h, hall, hj, hi0, hj0 => by
    have hk := h.1
    have hkl : k < listed.size := by
      obtain ⟨_, o, ho, _⟩ := mem_ready.1 hk
      have := (Array.getElem?_eq_some_iff.1 ho).1
      rw [hs]; simpa using this
    by_cases h1 : k = i
    · subst h1
      exact .inl ⟨addL_ready.2 ⟨hk, fun e => absurd e hij⟩, valid_behind (set_listed (n := 0) hkl) h.2⟩
    by_cases h2 : k = j
    · subst h2
      exact .inr ⟨addL_ready.2 ⟨hk, fun e => absurd e h1⟩, valid_behind (set_listed (n := 0) hkl) h.2⟩
    have := valid_either hij (ord := r) (listed := listed.setIfInBounds k true) (by simpa using hs) h.2 (fun m hm => by
      by_cases e : m = k
      · subst e; exact .inl (set_listed (n := 0) hkl)
      · rcases hall m hm with h3 | h3
        · left; rwa [getD_set_ne false (fun e' => e e'.symm)]
        · rcases List.mem_cons.1 h3 with h3 | h3
          · exact absurd h3 e
          · exact .inr h3) hj (by rwa [getD_set_ne false h1]) (by rwa [getD_set_ne false h2])
    rcases this with h3 | h3
    · exact .inl ⟨addL_ready.2 ⟨hk, fun e => absurd e h2⟩, h3⟩
    · exact .inr ⟨addL_ready.2 ⟨hk, fun e => absurd e h1⟩, h3⟩
end

/-! the same operations told in another order -/
def permO (inv : List Nat) (o : Oper) : Oper := match o with
  | ⟨d, op, ty, ps, af, gd⟩ => ⟨d, op, ty, ps, (af.toList.map fun e => Edge.mk (inv.getD e.on 0) e.ground).toArray, gd.map fun p => (inv.getD p.1 0, p.2)⟩
def permL (l : List Oper) (inv : List Nat) : List Nat → List Oper
  | [] => []
  | k :: r => match l[k]? with
    | some o => permO inv o :: permL l inv r
    | none => []
def permB (l : List Oper) (sg inv : List Nat) : Bool :=
  Nat.beq sg.length l.length && Nat.beq inv.length l.length && ((List.range l.length).all fun k => Nat.beq (sg.getD (inv.getD k 0) 0) k && Nat.beq (inv.getD (sg.getD k 0) 0) k && Nat.ble (inv.getD k 0 + 1) l.length && Nat.ble (sg.getD k 0 + 1) l.length) &&
  l.all fun o => (o.after.toList.all fun e => Nat.ble (e.on + 1) l.length) && match o.guard with
    | some p => Nat.ble (p.1 + 1) l.length
    | none => true
theorem permL_get {l : List Oper} {inv : List Nat} : ∀ (sg : List Nat) (k : Nat), (∀ x ∈ sg, x < l.length) → (permL l inv sg)[k]? = (sg[k]?).bind fun m => (l[m]?).map (permO inv)
  | [], k, _ => by simp [permL]
  | x :: r, k, hx => by
    obtain ⟨o, ho⟩ : ∃ o, l[x]? = some o := ⟨_, List.getElem?_eq_getElem (hx x (by simp))⟩
    simp only [permL, ho]
    cases k with
    | zero => simp [ho]
    | succ k => simpa using permL_get r k fun y hy => hx y (by simp [hy])
structure PermOk (l : List Oper) (sg inv : List Nat) : Prop where
  len : (permL l inv sg).length = l.length
  at_ : ∀ k, k < l.length → (permL l inv sg)[inv.getD k 0]? = (l[k]?).map (permO inv)
  lt : ∀ k, k < l.length → inv.getD k 0 < l.length
  inj : ∀ k m, k < l.length → m < l.length → inv.getD k 0 = inv.getD m 0 → k = m
  sur : ∀ k, k < l.length → ∃ m, m < l.length ∧ inv.getD m 0 = k
  edge : ∀ (k : Nat) (o : Oper), l[k]? = some o → ∀ e ∈ o.after, e.on < l.length
  guard : ∀ (k : Nat) (o : Oper) (p : Nat × Bool), l[k]? = some o → o.guard = some p → p.1 < l.length
theorem permOk {l : List Oper} {sg inv : List Nat} (h : permB l sg inv = true) : PermOk l sg inv := by
  simp only [permB, Bool.and_eq_true] at h
  obtain ⟨⟨⟨h1, h2⟩, h3⟩, h4⟩ := h
  have h1 := Nat.eq_of_beq_eq_true h1
  have h2 := Nat.eq_of_beq_eq_true h2
  have h3 : ∀ k, k < l.length → sg.getD (inv.getD k 0) 0 = k ∧ inv.getD (sg.getD k 0) 0 = k ∧ inv.getD k 0 < l.length ∧ sg.getD k 0 < l.length := fun k hk => by
    have := List.all_eq_true.1 h3 k (List.mem_range.2 hk)
    simp only [Bool.and_eq_true] at this
    obtain ⟨⟨⟨a, b⟩, c⟩, d⟩ := this
    refine ⟨Nat.eq_of_beq_eq_true a, Nat.eq_of_beq_eq_true b, ?_, ?_⟩
    · have : inv.getD k 0 + 1 ≤ l.length := by simpa [Nat.ble_eq] using c
      omega
    · have : sg.getD k 0 + 1 ≤ l.length := by simpa [Nat.ble_eq] using d
      omega
  have hsg : ∀ x ∈ sg, x < l.length := fun x hx => by
    obtain ⟨k, hk, rfl⟩ := List.mem_iff_getElem.1 hx
    have := (h3 k (by omega)).2.2.2
    simpa [List.getD_eq_getElem?_getD, List.getElem?_eq_getElem hk] using this
  have hget := fun k => permL_get (inv := inv) sg k hsg
  have hlen : (permL l inv sg).length = l.length := by
    rcases Nat.lt_trichotomy (permL l inv sg).length l.length with hh | hh | hh
    · have e1 : (permL l inv sg)[(permL l inv sg).length]? = none := List.getElem?_eq_none (Nat.le_refl _)
      rw [hget] at e1
      rw [List.getElem?_eq_getElem (show (permL l inv sg).length < sg.length by omega)] at e1
      simp only [Option.bind_some] at e1
      have := hsg _ (List.getElem_mem (show (permL l inv sg).length < sg.length by omega))
      rw [List.getElem?_eq_getElem this] at e1
      cases e1
    · exact hh
    · have e1 : (permL l inv sg)[l.length]? = none := by
        rw [hget, List.getElem?_eq_none (by omega)]; rfl
      rw [List.getElem?_eq_getElem hh] at e1
      cases e1
  refine ⟨hlen, fun k hk => ?_, fun k hk => (h3 k hk).2.2.1, fun k m hk hm e => ?_, fun k hk => ⟨sg.getD k 0, (h3 k hk).2.2.2, (h3 k hk).2.1⟩, fun k o ho e he => ?_, fun k o p ho hp => ?_⟩
  · rw [hget]
    have a := (h3 k hk).1
    have b := (h3 k hk).2.2.1
    rw [List.getD_eq_getElem?_getD, List.getElem?_eq_getElem (by omega)] at a
    rw [List.getElem?_eq_getElem (by omega)]
    simp only [Option.getD_some] at a
    simp only [Option.bind_some, a]
  · rw [← (h3 k hk).1, e, (h3 m hm).1]
  · have := List.all_eq_true.1 h4 o (List.mem_of_getElem? ho)
    simp only [Bool.and_eq_true] at this
    have := List.all_eq_true.1 this.1 e (by simpa using he)
    have : e.on + 1 ≤ l.length := by simpa [Nat.ble_eq] using this
    omega
  · have := List.all_eq_true.1 h4 o (List.mem_of_getElem? ho)
    simp only [Bool.and_eq_true, hp] at this
    have : p.1 + 1 ≤ l.length := by simpa [Nat.ble_eq] using this.2
    omega
section
variable {P : Program} {Q : Exit → Act → World → Prop} {l : List Oper} {sg inv : List Nat}
theorem perm_yield (H : PermOk l sg inv) (tmps : Array Value) {g : Nat} (hg : g < l.length) : yielded (permL l inv sg).toArray tmps (inv.getD g 0) = yielded l.toArray tmps g := by
  have : ((permL l inv sg).toArray[inv.getD g 0]?).bind (·.dst) = (l.toArray[g]?).bind (·.dst) := by
    simp only [List.getElem?_toArray, H.at_ g hg]
    cases l[g]? <;> rfl
  unfold yielded
  rw [this]
theorem perm_op (H : PermOk l sg inv) {k : Nat} (hk : k < l.length) {K : Act → World → Prop} {a : Act} {w : World} (h : wpOp P (permL l inv sg).toArray Q (inv.getD k 0) K a w) : wpOp P l.toArray Q k K a w := by
  unfold wpOp at *
  simp only [List.getElem?_toArray, H.at_ k hk] at *
  rw [List.getElem?_eq_getElem hk] at *
  simp only [Option.map_some] at h
  have hw : Region.wanted (permO inv l[k]) (yielded (permL l inv sg).toArray a.tmps) = Region.wanted l[k] (yielded l.toArray a.tmps) := by
    have hgd : (permO inv l[k]).guard = l[k].guard.map fun p => (inv.getD p.1 0, p.2) := rfl
    unfold Region.wanted
    rw [hgd]
    cases hg : l[k].guard with
    | none => rfl
    | some p =>
      simp only [Option.map_some]
      rw [perm_yield H a.tmps (H.guard k _ p (List.getElem?_eq_getElem hk) hg)]
  rw [hw] at h
  exact h
theorem perm_ops (H : PermOk l sg inv) : ∀ {ord : List Nat} {a : Act} {w : World}, (∀ k ∈ ord, k < l.length) → wpOps P (permL l inv sg).toArray Q (ord.map fun k => inv.getD k 0) a w → wpOps P l.toArray Q ord a w
  | [], _, _, _, h => h
  | k :: r, a, w, hl, h => by
    rw [List.map_cons, wpOps_cons] at h
    rw [wpOps_cons]
    exact wpOp_mono (fun a w hh => perm_ops H (fun m hm => hl m (by simp [hm])) hh) (perm_op H (hl k (by simp)) h)
theorem perm_ready (H : PermOk l sg inv) {listed listed' : Array Bool} (hl : ∀ k d, k < l.length → listed'.getD (inv.getD k 0) d = listed.getD k d) {k : Nat} (hk : k < l.length) :
    inv.getD k 0 ∈ Region.ready .any (permL l inv sg).toArray listed' ↔ k ∈ Region.ready .any l.toArray listed := by
  rw [mem_ready, mem_ready]
  simp only [List.getElem?_toArray, H.at_ k hk, hl k true hk]
  rw [List.getElem?_eq_getElem hk]
  simp only [Option.map_some, Option.some.injEq, exists_eq_left']
  have he := H.edge k l[k] (List.getElem?_eq_getElem hk)
  have ha : (permO inv l[k]).after = (l[k].after.toList.map fun e => Edge.mk (inv.getD e.on 0) e.ground).toArray := rfl
  rw [ha]
  constructor
  · rintro ⟨h0, h⟩
    refine ⟨h0, fun e hm hb => ?_⟩
    have := h ⟨inv.getD e.on 0, e.ground⟩ (by simpa using ⟨e, hm, rfl, rfl⟩) hb
    rwa [hl _ _ (he e hm)] at this
  · rintro ⟨h0, h⟩
    refine ⟨h0, fun e hm hb => ?_⟩
    simp only [List.mem_toArray, List.mem_map] at hm
    obtain ⟨e', hm', rfl⟩ := hm
    have hm' : e' ∈ l[k].after := by simpa using hm'
    rw [hl _ _ (he e' hm')]
    exact h e' hm' hb
theorem perm_valid (H : PermOk l sg inv) : ∀ {ord : List Nat} {listed listed' : Array Bool}, listed.size = l.length → listed'.size = l.length → (∀ k d, k < l.length → listed'.getD (inv.getD k 0) d = listed.getD k d) → Valid l.toArray listed ord → Valid (permL l inv sg).toArray listed' (ord.map fun k => inv.getD k 0)
  | [], listed, listed', _, _, hl, h => by
    simp only [List.map_nil, Valid, List.eq_nil_iff_forall_not_mem] at *
    intro k hk
    have hlt : k < l.length := by
      obtain ⟨_, o, ho, _⟩ := mem_ready.1 hk
      have := (Array.getElem?_eq_some_iff.1 ho).1
      rw [← H.len]; simpa using this
    obtain ⟨m, hm, rfl⟩ := H.sur k hlt
    exact h m ((perm_ready H hl hm).1 hk)
  | k :: r, listed, listed', hs, hs', hl, h => by
    have hk : k < l.length := by
      obtain ⟨_, o, ho, _⟩ := mem_ready.1 h.1
      have := (Array.getElem?_eq_some_iff.1 ho).1
      simpa using this
    rw [List.map_cons]
    refine ⟨(perm_ready H hl hk).2 h.1, perm_valid H (by simpa using hs) (by simpa using hs') (fun m d hm => ?_) h.2⟩
    by_cases e : m = k
    · subst e
      have := H.lt m hm
      generalize inv.getD m 0 = x at this ⊢
      simp [hs, hs', hm, this]
    · rw [getD_set_ne d (fun e' => e e'.symm), getD_set_ne d (fun e' => e (H.inj k m hk hm e').symm), hl m d hm]
theorem valid_lt : ∀ {ord : List Nat} {listed : Array Bool}, Valid l.toArray listed ord → ∀ k ∈ ord, k < l.length
  | [], _, _, k, hk => by cases hk
  | m :: r, listed, h, k, hk => by
    rcases List.mem_cons.1 hk with rfl | hk
    · obtain ⟨_, o, ho, _⟩ := mem_ready.1 h.1
      have := (Array.getElem?_eq_some_iff.1 ho).1
      simpa using this
    · exact valid_lt h.2 k hk
end

/-- a region that draws, whatever order it draws -/
structure CW (P : Program) (l : List Oper) (Q : Exit → Act → World → Prop) (E : Base) (n L : Nat) (τ : List (Nat × AV)) (h : List (Nat × AO)) (F : World → Prop) : Prop where
  mk :: (out : ∀ ρ a w, Gam E ρ n L τ h F a w → ∀ ord, Valid l.toArray (Array.replicate l.length false) ord → (∀ k, k < l.length → k ∈ ord) → wpOps P l.toArray Q ord a w)
/-- all are drawn where no edge leads forward -/
def backB (l : List Oper) : Bool := l.zipIdx.all fun (o, j) => o.after.toList.all fun e => !Region.binds .any e || Nat.ble (e.on + 1) j
theorem valid_all {l : List Oper} (hb : backB l = true) : ∀ {ord : List Nat} {listed : Array Bool}, listed.size = l.length → Valid l.toArray listed ord → ∀ k, k < l.length → listed.getD k false = true ∨ k ∈ ord
  | [], listed, hs, h, k, hk => by
    left
    simp only [Valid, List.eq_nil_iff_forall_not_mem] at h
    induction k using Nat.strongRecOn with
    | _ k ih =>
      cases hx : listed.getD k false with
      | true => rfl
      | false =>
        exfalso
        refine h k (mem_ready.2 ⟨?_, l[k], by simp [hk], fun e he hbi => ?_⟩)
        · have : k < listed.size := by omega
          simpa [this] using hx
        · have := List.all_eq_true.1 hb (l[k], k) (List.mem_zipIdx_iff_getElem?.2 (List.getElem?_eq_getElem hk))
          have := List.all_eq_true.1 this e (by simpa using he)
          rw [hbi] at this
          have : e.on + 1 ≤ k := by simpa [Nat.ble_eq] using this
          exact ih e.on (by omega) (by omega)
  | m :: r, listed, hs, h, k, hk => by
    have hm : m < listed.size := by
      obtain ⟨_, o, ho, _⟩ := mem_ready.1 h.1
      have := (Array.getElem?_eq_some_iff.1 ho).1
      rw [hs]; simpa using this
    rcases valid_all hb (by simpa using hs) h.2 k hk with h1 | h1
    · by_cases e : k = m
      · right; simp [e]
      · left; rwa [getD_set_ne false (fun e' => e e'.symm)] at h1
    · right; simp [h1]
section
variable {P : Program} {Q : Exit → Act → World → Prop} {E : Base} {n L : Nat} {τ : List (Nat × AV)} {h : List (Nat × AO)} {F : World → Prop} {l : List Oper}
theorem C.anyhow {id : Nat} (hm : P.follows .mixedOrders = true) (hb : backB l = true) (k : CW P l Q E n L τ h F) : C P (.region id l.toArray true) Q E n L τ h F := ⟨fun ρ a w g => by
  refine wp_region_draw fun t => ?_
  simp only [Region.schedule, hm, Bool.true_or, if_true]
  have hv : Valid l.toArray (Array.replicate l.length false) (Region.linearise .any l.toArray t) := by
    have := lin_valid (ops := l.toArray) l.toArray.size t (Array.replicate l.toArray.size false) (Nat.le_trans (List.countP_le_length) (by simp))
    simpa [Region.linearise] using this
  refine k.out ρ a _ g.drew _ hv fun j hj => ?_
  rcases valid_all hb (by simp) hv j hj with h1 | h1
  · simp [hj] at h1
  · exact h1⟩
/-- which of the two comes first? -/
theorem CW.either (i j : Nat) (hb : (Nat.ble (i + 1) l.length && Nat.ble (j + 1) l.length && !Nat.beq i j) = true) (k1 : CW P (addL l i j) Q E n L τ h F) (k2 : CW P (addL l j i) Q E n L τ h F) : CW P l Q E n L τ h F := ⟨fun ρ a w g ord hv hall => by
  simp only [Bool.and_eq_true, Bool.not_eq_true'] at hb
  obtain ⟨⟨h1, h2⟩, h3⟩ := hb
  have hij : i ≠ j := fun e => by subst e; rw [Nat.beq_refl] at h3; cases h3
  have hi : i < l.length := by have : i + 1 ≤ l.length := by simpa [Nat.ble_eq] using h1
                               omega
  have hj : j < l.length := by have : j + 1 ≤ l.length := by simpa [Nat.ble_eq] using h2
                               omega
  have hlen : ∀ i j, (addL l i j).length = l.length := fun i j => by
    have : ∀ (l : List Oper) i j, (addL l i j).length = l.length := fun l => by
      induction l with
      | nil => intro i j; rfl
      | cons o r ih => intro i j; cases j <;> simp [addL, ih]
    exact this l i j
  rcases valid_either hij (by simp) hv (fun k hk => .inr (hall k hk)) hj (by simp [hi]) (by simp [hj]) with h4 | h4
  · exact addL_ops (k1.out ρ a w g ord (by rw [hlen]; exact h4) (fun k hk => hall k (by rwa [hlen] at hk)))
  · exact addL_ops (k2.out ρ a w g ord (by rw [hlen]; exact h4) (fun k hk => hall k (by rwa [hlen] at hk)))⟩
/-- told in another order -/
theorem CW.order (sg inv : List Nat) (hB : permB l sg inv = true) (k : CW P (permL l inv sg) Q E n L τ h F) : CW P l Q E n L τ h F := ⟨fun ρ a w g ord hv hall => by
  have H := permOk hB
  refine perm_ops H (fun m hm => valid_lt hv m hm) (k.out ρ a w g _ ?_ fun m hm => ?_)
  · refine perm_valid H (by simp) (by simp [H.len]) (fun m d hm => ?_) hv
    have := H.lt m hm
    generalize inv.getD m 0 = x at this ⊢
    simp [H.len, hm, this]
  · rw [H.len] at hm
    obtain ⟨x, hx, rfl⟩ := H.sur m hm
    exact List.mem_map.2 ⟨x, hall x hx, rfl⟩⟩
theorem CW.draw (pr : List (List Nat)) (ch : List Nat) (hB : edgesB l pr ch = true) (k : R P l.toArray Q (some ⟨0, pr, ch, [], []⟩) E n L τ h F l) : CW P l Q E n L τ h F := ⟨fun ρ a w g ord hv _ => by
  obtain ⟨hE, hs, hl⟩ := edges_of hB ⟨0, pr, ch, [], []⟩ rfl rfl
  have := k.out (fun i => by simp) (fun p hp => by cases hp) (fun p hp => by cases hp) ρ a _ [] g trivial
  rw [← List.range_eq_range'] at this
  refine Valid.sound (fuel := l.length) (CH.any hE hs hl _ _ _ _ [] a (by simp) ⟨by simp, fun j => ?_, List.pairwise_lt_range⟩ (fun j o ho hn => ?_) ?_ this) hv
  · simp only [List.mem_range, List.size_toArray]
    constructor
    · intro hj; exact ⟨hj, by simp [hj]⟩
    · exact fun h => h.1
  · exfalso
    apply hn
    have := (Array.getElem?_eq_some_iff.1 ho).1
    simpa using this
  · have : chCnt l.toArray (DD.chB ⟨0, pr, ch, [], []⟩) (List.range l.length) = 0 := by
      unfold chCnt
      rw [List.countP_eq_zero]
      intro i hi
      have : i < l.length := by simpa using hi
      simp [this]
    omega⟩
end
end Go.Proofs.Yteabncomclgncaa
