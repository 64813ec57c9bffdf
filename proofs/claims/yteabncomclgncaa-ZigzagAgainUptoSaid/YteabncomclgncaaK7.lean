/- The kernel, 7: judgements on code. No program in sight. -/
import Derived.Test.YteabncomclgncaaK6
namespace Go.Proofs.Yteabncomclgncaa
set_option linter.unusedVariables false
set_option linter.unusedSimpArgs false
set_option linter.unusedSectionVars false
open Go.RowKit

/-- code, from every state as told -/
def CL (P : Program) (c : Code) (Q : Exit → Act → World → Prop) (E : Base) (n L : Nat) (τ : List (Nat × AV)) (h : List (Nat × AO)) (F : World → Prop) : Prop := ∀ ρ a w, Gam E ρ n L τ h F a w → c.wp P Q a w
/-- what is asked at an exit, of every state as told -/
def EX (Q : Exit → Act → World → Prop) (e : Exit) (E : Base) (n L : Nat) (τ : List (Nat × AV)) (h : List (Nat × AO)) (F : World → Prop) : Prop := ∀ ρ a w, Gam E ρ n L τ h F a w → Q e a w
theorem Gam.drew {E : Base} {ρ : Env} {n L : Nat} {τ : List (Nat × AV)} {h : List (Nat × AO)} {F : World → Prop} {a : Act} {w : World} (g : Gam E ρ n L τ h F a w) : Gam E ρ n L τ h F a { w with drawn := w.drawn + 1 } :=
  ⟨g.df, g.sz, g.tm, fun l o ho => by
    have := g.hp l o ho
    refine ⟨this.1, this.2.1, ?_⟩
    have hh := this.2.2
    cases o with
    | cells xs ty => exact hh
    | bytes p cap ty => exact hh
    | tab wd m cap f ty => exact hh
    | ro wd off m f => exact hh
    | gone => trivial, g.dis, fun w' hw => g.fr w' ⟨hw.os, hw.tape, hw.output, hw.size, hw.block⟩, g.ex, g.le, g.al⟩
/-- what is asked of a region that draws, in one look -/
def edgesB (ops : List Oper) (pr : List (List Nat)) (ch : List Nat) : Bool :=
  let p := fun i j => (pr.getD j []).elem i
  Region.noSelect ops.toArray && ch.isSublist (List.range ops.length) &&
  (ops.zipIdx.all fun (o, j) => o.after.toList.all fun e => !Region.binds .any e || (Nat.ble (e.on + 1) j && p e.on j)) &&
  ((List.range pr.length).all fun j => (pr.getD j []).all fun i => Nat.ble (i + 1) j && match ops[j]? with
    | some o => o.after.toList.any fun e => Region.binds .any e && (Nat.beq e.on i || p i e.on)
    | none => false) &&
  (ch.all fun j => ch.all fun i => Nat.ble j i || p i j) &&
  (ops.zipIdx.all fun (oj, j) => (List.range j).all fun i => p i j || match ops[i]? with
    | some oi => oi.apart ops.toArray oj
    | none => true)
theorem getD_elem {pr : List (List Nat)} {i j : Nat} (h : (pr.getD j []).elem i = true) : j < pr.length := by
  rcases Nat.lt_or_ge j pr.length with h' | h'
  · exact h'
  · rw [List.getD_eq_getElem?_getD, List.getElem?_eq_none h'] at h
    simp at h
theorem edges_of {ops : List Oper} {pr : List (List Nat)} {ch : List Nat} (h : edgesB ops pr ch = true) (d : DD) (hp : d.pr = pr) (hc : d.ch = ch) :
    Edges ops.toArray d.chB d.prB ∧ (∀ j, d.st j ≤ (List.range ops.toArray.size).countP fun i => d.chB i && d.prB i j) ∧ (∀ i j, d.prB i j = true → i < j) := by
  subst hp hc
  simp only [edgesB, Bool.and_eq_true] at h
  obtain ⟨⟨⟨⟨⟨h1, h2⟩, h3⟩, h4⟩, h5⟩, h6⟩ := h
  have hp : ∀ i j, d.prB i j = true → i < j ∧ ∀ o, ops[j]? = some o → ∃ e ∈ o.after, Region.binds .any e = true ∧ (e.on = i ∨ d.prB i e.on = true) := fun i j hij => by
    have hlt := getD_elem hij
    have := List.all_eq_true.1 h4 j (List.mem_range.2 hlt)
    have := List.all_eq_true.1 this i (List.elem_iff.1 hij)
    simp only [Bool.and_eq_true] at this
    refine ⟨by have : i + 1 ≤ j := by simpa [Nat.ble_eq] using this.1
               omega, fun o ho => ?_⟩
    have h7 := this.2
    rw [ho] at h7
    simp only [List.any_eq_true, Bool.and_eq_true, Bool.or_eq_true] at h7
    obtain ⟨e, he, hb, hx⟩ := h7
    exact ⟨e, by simpa using he, hb, hx.imp (fun h => Nat.eq_of_beq_eq_true h) id⟩
  refine ⟨⟨fun j o cs b ho => Region.noSelect_spec h1 j o cs b ho, fun j o ho e he hb => ?_, fun i j o ho hij => ?_, fun i j hij hi hj => ?_, fun i j oi oj hij hi hj hn => ?_⟩, fun j => ?_, fun i j hij => (hp i j hij).1⟩
  · have := List.all_eq_true.1 h3 (o, j) (List.mem_zipIdx_iff_getElem?.2 (by simpa using ho))
    have := List.all_eq_true.1 this e (by simpa using he)
    simp only [Bool.or_eq_true, Bool.not_eq_true', Bool.and_eq_true] at this
    rcases this with h | h
    · rw [hb] at h; cases h
    · exact ⟨by have : e.on + 1 ≤ j := by simpa [Nat.ble_eq] using h.1
                omega, h.2⟩
  · exact (hp i j hij).2 o (by simpa using ho)
  · have := List.all_eq_true.1 h5 j (List.elem_iff.1 hj)
    have := List.all_eq_true.1 this i (List.elem_iff.1 hi)
    simp only [Bool.or_eq_true] at this
    rcases this with h | h
    · have : j ≤ i := by simpa [Nat.ble_eq] using h
      omega
    · exact h
  · have := List.all_eq_true.1 h6 (oj, j) (List.mem_zipIdx_iff_getElem?.2 (by simpa using hj))
    have := List.all_eq_true.1 this i (List.mem_range.2 hij)
    simp only [Bool.or_eq_true] at this
    rcases this with h | h
    · unfold DD.prB at hn; rw [hn] at h; cases h
    · have e : ops[i]? = some oi := by simpa using hi
      rw [e] at h
      exact h
  · have hs : d.ch.Sublist (List.range ops.toArray.size) := by
      rw [List.size_toArray]
      exact List.isSublist_iff_sublist.1 h2
    refine Nat.le_trans ?_ (hs.countP_le (p := fun i => d.chB i && d.prB i j))
    unfold DD.st
    rw [← List.countP_eq_length_filter]
    refine List.countP_mono_left fun i hi h => ?_
    simp only [Bool.and_eq_true]
    exact ⟨List.elem_iff.2 hi, h⟩
section
variable {P : Program} {Q : Exit → Act → World → Prop} {E : Base} {n L : Nat} {τ : List (Nat × AV)} {h : List (Nat × AO)} {F : World → Prop}
theorem CL.region {id : Nat} {l : List Oper} (k : RL P l.toArray Q none E n L τ h F l) : CL P (.region id l.toArray false) Q E n L τ h F := fun ρ a w g => wp_region_lit (k ρ a w g)
theorem CL.draw (pr : List (List Nat)) (ch : List Nat) {id : Nat} {l : List Oper} (hm : P.follows .mixedOrders = true) (hB : edgesB l pr ch = true) (k : RL P l.toArray Q (some ⟨0, pr, ch, [], []⟩) E n L τ h F l) :
    CL P (.region id l.toArray true) Q E n L τ h F := fun ρ a w g => by
  obtain ⟨hE, hs, hl⟩ := edges_of hB ⟨0, pr, ch, [], []⟩ rfl rfl
  refine wp_region_any hm ?_
  have := k (fun i => by simp) (fun p hp => by cases hp) (fun p hp => by cases hp) ρ a _ [] g.drew trivial
  rw [← List.range_eq_range'] at this
  refine CH.any hE hs hl _ _ _ _ [] a (by simp) ⟨by simp, fun j => ?_, List.pairwise_lt_range⟩ (fun j o ho hn => ?_) ?_ this
  · simp only [List.mem_range, List.size_toArray]
    constructor
    · intro hj; exact ⟨hj, by simp [hj]⟩
    · exact fun h => h.1
  · exfalso
    apply hn
    have := (Array.getElem?_eq_some_iff.1 ho).1
    simpa using this
  · have : chCnt l.toArray (DD.chB ⟨0, pr, ch, [], []⟩) (List.range l.length) = 0 := by
      unfold chCnt
      rw [List.countP_eq_zero]
      intro i hi
      have : i < l.length := by simpa using hi
      simp [this]
    omega
theorem CL.seq {x y : Code} (k : CL P x (Exit.then (y.wp P Q) Q) E n L τ h F) : CL P (.seq x y) Q E n L τ h F := fun ρ a w g => wp_seq (k ρ a w g)
theorem EX.then {y : Code} (k : CL P y Q E n L τ h F) : EX (Exit.then (y.wp P Q) Q) .normal E n L τ h F := fun ρ a w g => k ρ a w g
theorem EX.pass_ret {next : Act → World → Prop} (k : EX Q .ret E n L τ h F) : EX (Exit.then next Q) .ret E n L τ h F := k
theorem EX.pass_exit {next : Act → World → Prop} {id : Nat} (k : EX Q (.exit id) E n L τ h F) : EX (Exit.then next Q) (.exit id) E n L τ h F := k
theorem EX.block_normal {id : Nat} (k : EX Q .normal E n L τ h F) : EX (Exit.inBlock id Q) .normal E n L τ h F := k
theorem EX.block_ret {id : Nat} (k : EX Q .ret E n L τ h F) : EX (Exit.inBlock id Q) .ret E n L τ h F := k
theorem EX.block_exit {id : Nat} (k : EX Q .normal E n L τ h F) : EX (Exit.inBlock id Q) (.exit id) E n L τ h F := fun ρ a w g => by
  simp only [Exit.inBlock, if_true]; exact k ρ a w g
theorem EX.block_other {id id' : Nat} (hne : Nat.beq id' id = false) (k : EX Q (.exit id') E n L τ h F) : EX (Exit.inBlock id Q) (.exit id') E n L τ h F := fun ρ a w g => by
  have : id' ≠ id := fun e => by subst e; rw [Nat.beq_refl] at hne; cases hne
  simp only [Exit.inBlock, this, if_false]; exact k ρ a w g
theorem RL.done {ops : Array Oper} {D : Option DD} (k : EX Q .normal E n L τ h F) : RL P ops Q D E n L τ h F [] := RL.nil k
theorem CL.skip (k : EX Q .normal E n L τ h F) : CL P .skip Q E n L τ h F := fun ρ a w g => wp_skip (k ρ a w g)
theorem CL.ret (k : EX Q .ret E n L τ h F) : CL P .ret Q E n L τ h F := fun ρ a w g => wp_ret (k ρ a w g)
theorem CL.exit {id : Nat} (k : EX Q (.exit id) E n L τ h F) : CL P (.exit id) Q E n L τ h F := fun ρ a w g => wp_exit (k ρ a w g)
theorem CL.block {id : Nat} {c : Code} (k : CL P c (Exit.inBlock id Q) E n L τ h F) : CL P (.block id c) Q E n L τ h F := fun ρ a w g => wp_block (k ρ a w g)
theorem CL.cond {c : Operand} {x y : Code} {b : Bool} (hc : evA τ c = some (.raw (.bool b))) (kt : b = true → CL P x Q E n L τ h F) (kf : b = false → CL P y Q E n L τ h F) : CL P (.cond c x y) Q E n L τ h F := fun ρ a w g =>
  wp_cond_split (g.eval c _ hc).2 (fun hb => kt hb ρ a w g) (fun hb => kf hb ρ a w g)
theorem CL.cond_true {c : Operand} {x y : Code} (hc : evA τ c = some (.raw (.bool true))) (kt : CL P x Q E n L τ h F) : CL P (.cond c x y) Q E n L τ h F := fun ρ a w g => wp_cond_true (g.eval c _ hc).2 (kt ρ a w g)
theorem CL.cond_false {c : Operand} {x y : Code} (hc : evA τ c = some (.raw (.bool false))) (kf : CL P y Q E n L τ h F) : CL P (.cond c x y) Q E n L τ h F := fun ρ a w g => wp_cond_false (g.eval c _ hc).2 (kf ρ a w g)
/-- parts a goal by a test's outcome -/
theorem CL.cond_dec {c : Operand} {x y : Code} {p : Prop} [Decidable p] (hc : evA τ c = some (.raw (.bool (decide p)))) (kt : p → CL P x Q E n L τ h F) (kf : ¬ p → CL P y Q E n L τ h F) : CL P (.cond c x y) Q E n L τ h F :=
  CL.cond hc (fun hb => kt (of_decide_eq_true hb)) (fun hb => kf (of_decide_eq_false hb))
end
end Go.Proofs.Yteabncomclgncaa
