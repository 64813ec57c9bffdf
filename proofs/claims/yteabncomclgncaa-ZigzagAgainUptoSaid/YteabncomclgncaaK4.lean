/- The kernel, 4: 'act' tells the truth. No program in sight. -/
import Derived.Test.YteabncomclgncaaK3
namespace Go.Proofs.Yteabncomclgncaa
set_option linter.unusedVariables false
set_option linter.unusedSimpArgs false
set_option linter.unusedSectionVars false
open Go.RowKit

theorem addr_add0 (b o n : Nat) : (⟨b, o, none⟩ : Addr).add n = ⟨b, o + n, none⟩ := by
  unfold Addr.add
  split
  · rename_i h; subst h; rfl
  · rfl
theorem run_loadVar_cells {P : Program} {t : TypeId} {ti : TI} (h : TIok P t ti) {w : World} {b o : Nat} {cs : List Value} {T : TypeId} {fr : Nat × Nat} (hb : w.heap[b]? = some (.cells cs.toArray T fr)) (v : Value)
    (hv : if ti.kind.isAgg then o + ti.size ≤ cs.length ∧ v = .agg ((cs.drop o).take ti.size).toArray else cs[o]? = some v) : (loadVar t ⟨b, o, none⟩).run P w = .ok v w := by
  have e1 := h.run_isAgg w
  have e2 := h.run_size w
  cases hk : ti.kind.isAgg <;> rw [hk] at hv e1
  · simp only [Bool.false_eq_true, if_false] at hv
    have hc : w.cell? ⟨b, o, none⟩ = some v := by rw [cell_of_row w b o _ T fr hb]; simpa using hv
    simp [loadVar, e1, hc]
  · simp only [if_true] at hv
    obtain ⟨h1, rfl⟩ := hv
    have hl : ((cs.drop o).take ti.size).length = ti.size := by simp; omega
    have := run_loadCells_list (P := P) w ⟨b, o, none⟩ ((cs.drop o).take ti.size) (fun j u hj => by
      rw [addr_add0, cell_of_row w b (o + j) _ T fr hb]
      have hlt := (List.getElem?_eq_some_iff.1 hj).1
      simp at hlt
      rw [List.getElem?_take, List.getElem?_drop] at hj
      split at hj
      · simpa using hj
      · cases hj)
    rw [hl] at this
    simp [loadVar, e1, e2, this]
theorem concs_drop (ρ : Env) (xs : List AV) (n : Nat) : (AV.concs ρ xs).drop n = AV.concs ρ (xs.drop n) := by simp [concs_map, List.map_drop]
theorem concs_take (ρ : Env) (xs : List AV) (n : Nat) : (AV.concs ρ xs).take n = AV.concs ρ (xs.take n) := by simp [concs_map, List.map_take]
theorem concs_get {ρ : Env} {xs : List AV} {i : Nat} {v : AV} (h : xs[i]? = some v) : (AV.concs ρ xs)[i]? = some (v.conc ρ) := by rw [concs_map, List.getElem?_map, h]; rfl
theorem conc_raw_list (ρ : Env) (l : List Value) : AV.concs ρ (l.map .raw) = l := by
  induction l with
  | nil => rfl
  | cons x l ih => simp [AV.concs, AV.conc, ih]
/-- a field's offset -/
theorem fieldAt_st {fields : Array Field} {fs : List (Nat × Nat)} (hf : fields.toList.map (fun f => (f.offset, f.type)) = fs) {i off ft : Nat} (h : fs[i]? = some (off, ft)) : ∃ f, fields[i]? = some f ∧ f.offset = off ∧ f.type = ft := by
  subst hf
  rw [List.getElem?_map] at h
  cases hx : fields.toList[i]? with
  | none => rw [hx] at h; cases h
  | some f =>
    rw [hx] at h
    simp only [Option.map_some, Option.some.injEq, Prod.mk.injEq] at h
    exact ⟨f, by simpa using hx, h.1, h.2⟩
section
variable {P : Program} {w : World}
theorem run_ptr_eq {t : TypeId} {el : Nat} (hp : (underlying t).run P w = .ok (.pointer el) w) (a : Option Addr) (x y : Operand) :
    (do eqGuard .eql t x y (.pointer a) (.pointer none); binOp .eql t (.pointer a) (.pointer none) : Sem Value).run P w = .ok (.bool a.isNone) w := by
  have e1 : binOp .eql t (.pointer a) (.pointer none) = (do pure (.bool (← Op.equal t (.pointer a) (.pointer none)))) := rfl
  have e2 : (Op.equalIn (9999 + 1) t (.pointer a) (.pointer none)).run P w = .ok a.isNone w := by
    unfold Op.equalIn
    cases a <;> simp [hp]
  rw [e1]
  simp [eqGuard, Op.equal, Op.maxDepth, e2]
theorem run_ptr_ne {t : TypeId} {el : Nat} (hp : (underlying t).run P w = .ok (.pointer el) w) (a : Option Addr) (x y : Operand) :
    (do eqGuard .neq t x y (.pointer a) (.pointer none); binOp .neq t (.pointer a) (.pointer none) : Sem Value).run P w = .ok (.bool !a.isNone) w := by
  have e1 : binOp .neq t (.pointer a) (.pointer none) = (do pure (.bool (!(← Op.equal t (.pointer a) (.pointer none))))) := rfl
  have e2 : (Op.equalIn (9999 + 1) t (.pointer a) (.pointer none)).run P w = .ok a.isNone w := by
    unfold Op.equalIn
    cases a <;> simp [hp]
  rw [e1]
  simp [eqGuard, Op.equal, Op.maxDepth, e2]
theorem run_bool_eq {t : TypeId} (hp : (underlying t).run P w = .ok .bool w) (a b : Bool) (x y : Operand) :
    (do eqGuard .eql t x y (.bool a) (.bool b); binOp .eql t (.bool a) (.bool b) : Sem Value).run P w = .ok (.bool (a == b)) w := by
  have e1 : binOp .eql t (.bool a) (.bool b) = (do pure (.bool (← Op.equal t (.bool a) (.bool b)))) := rfl
  have e2 : (Op.equalIn (9999 + 1) t (.bool a) (.bool b)).run P w = .ok (a == b) w := by
    unfold Op.equalIn
    simp [hp]
  rw [e1]
  simp [eqGuard, Op.equal, Op.maxDepth, e2]
theorem run_bool_ne {t : TypeId} (hp : (underlying t).run P w = .ok .bool w) (a b : Bool) (x y : Operand) :
    (do eqGuard .neq t x y (.bool a) (.bool b); binOp .neq t (.bool a) (.bool b) : Sem Value).run P w = .ok (.bool (!(a == b))) w := by
  have e1 : binOp .neq t (.bool a) (.bool b) = (do pure (.bool (!(← Op.equal t (.bool a) (.bool b))))) := rfl
  have e2 : (Op.equalIn (9999 + 1) t (.bool a) (.bool b)).run P w = .ok (a == b) w := by
    unfold Op.equalIn
    simp [hp]
  rw [e1]
  simp [eqGuard, Op.equal, Op.maxDepth, e2]
theorem run_fn_eq {t : TypeId} {p q : Array TypeId} {r : Bool} (hp : (underlying t).run P w = .ok (.func p q r) w) (f : Fn) (c d : Array Value) (x y : Operand) :
    (do eqGuard .eql t x y (.func f c d) .nilFunc; binOp .eql t (.func f c d) .nilFunc : Sem Value).run P w = .ok (.bool false) w := by
  have e1 : binOp .eql t (.func f c d) .nilFunc = (do pure (.bool (← Op.equal t (.func f c d) .nilFunc))) := rfl
  have e2 : (Op.equalIn (9999 + 1) t (.func f c d) .nilFunc).run P w = .ok false w := by
    unfold Op.equalIn
    simp [hp]
  rw [e1]
  simp [eqGuard, Op.equal, Op.maxDepth, e2]
theorem run_fn_ne {t : TypeId} {p q : Array TypeId} {r : Bool} (hp : (underlying t).run P w = .ok (.func p q r) w) (f : Fn) (c d : Array Value) (x y : Operand) :
    (do eqGuard .neq t x y (.func f c d) .nilFunc; binOp .neq t (.func f c d) .nilFunc : Sem Value).run P w = .ok (.bool true) w := by
  have e1 : binOp .neq t (.func f c d) .nilFunc = (do pure (.bool (!(← Op.equal t (.func f c d) .nilFunc)))) := rfl
  have e2 : (Op.equalIn (9999 + 1) t (.func f c d) .nilFunc).run P w = .ok false w := by
    unfold Op.equalIn
    simp [hp]
  rw [e1]
  simp [eqGuard, Op.equal, Op.maxDepth, e2]
end
section
variable {P : Program} {tt : List (Nat × TI)} (htt : TTok P tt) {ρ : Env} {w : World} {hl : Nat → Option AO} (hh : ∀ l o, hl l = some o → o.holds ρ (ρ l) w)
  {e : Operand → Option AV} {ec : Operand → Value} (he : ∀ x v, e x = some v → ec x = v.conc ρ)
include htt hh he
theorem act_field (t : TypeId) (x : Operand) (f : Nat) (v : AV) (h : act tt hl e (.field t x f) = some v) : (Instr.field t (ec x) f).run P w = .ok (v.conc ρ) w := by
  simp only [act] at h
  split at h
  · rename_i xs sz bt fs z h1 h2
    split at h
    · rename_i off ft h3
      obtain ⟨fields, hu, hf⟩ := und_st (htt _ _ h2) rfl
      obtain ⟨fd, hfd, rfl, rfl⟩ := fieldAt_st hf h3
      rw [he _ _ h1]
      simp [Instr.field, hu, hfd, AV.conc, asAgg, run_partA htt ρ _ _ _ _ w h]
    · cases h
  · cases h
theorem act_fieldAddr (t : TypeId) (x : Operand) (f : Nat) (v : AV) (h : act tt hl e (.fieldAddr t x f) = some v) : (Instr.fieldAt t (ec x) f).run P w = .ok (v.conc ρ) w := by
  simp only [act] at h
  split at h
  · rename_i l wd i c sz bt fs z h1 h2
    split at h
    · rename_i off ft h3
      split at h
      · rename_i k bt2 kk zz h4
        cases h
        obtain ⟨fields, hu, hf⟩ := und_st (htt _ _ h2) rfl
        obtain ⟨fd, hfd, rfl, rfl⟩ := fieldAt_st hf h3
        have e2 := (htt _ _ h4).run_size w
        rw [he _ _ h1]
        simp [Instr.fieldAt, hu, hfd, AV.conc, Instr.sureAddr, fieldPlace, e2, addr_add0, Nat.add_assoc]
      · cases h
    · cases h
  · rename_i b o sz bt fs z h1 h2
    split at h
    · rename_i off ft h3
      split at h
      · rename_i k bt2 kk zz h4
        cases h
        obtain ⟨fields, hu, hf⟩ := und_st (htt _ _ h2) rfl
        obtain ⟨fd, hfd, rfl, rfl⟩ := fieldAt_st hf h3
        have e2 := (htt _ _ h4).run_size w
        rw [he _ _ h1]
        simp [Instr.fieldAt, hu, hfd, AV.conc, Instr.sureAddr, fieldPlace, e2, addr_add0, Nat.add_assoc]
      · cases h
    · cases h
  · cases h
theorem act_load (t : TypeId) (x : Operand) (v : AV) (h : act tt hl e (.load t x) = some v) : (Instr.loadAt t (ec x)).run P w = .ok (v.conc ρ) w := by
  simp only [act] at h
  split at h
  · rename_i l wd i c ti h1 h2
    split at h
    · rename_i xs ty h3
      obtain ⟨b, hr, hb⟩ := hh _ _ h3
      rw [he _ _ h1]
      simp only [AV.conc, hr, Option.getD_some, Instr.loadAt, Instr.sureAddr, Sem.run_bind, Sem.run_pure, Result.andThen_ok]
      refine run_loadVar_cells (htt _ _ h2) hb _ ?_
      cases hk : ti.kind.isAgg <;> rw [hk] at h <;> simp only at h
      · simp only [Bool.false_eq_true, if_false]
        exact concs_get h
      · split at h
        · rename_i hle
          cases h
          simp only [if_true]
          rw [concs_length]
          refine ⟨by simpa using hle, ?_⟩
          simp only [AV.conc]
          rw [concs_drop, concs_take]
        · cases h
    · cases h
  · cases h
theorem act_binOp (op : BinOp) (t u : TypeId) (x y : Operand) (v : AV) (h : act tt hl e (.binOp op t x y u) = some v) :
    (do eqGuard op t x y (ec x) (ec y); binOp op t (ec x) (ec y) : Sem Value).run P w = .ok (v.conc ρ) w := by
  simp only [act] at h
  split at h
  · rename_i a b h1 h2
    rw [he _ _ h1, he _ _ h2]
    simp only [AV.conc]
    split at h
    · rename_i r hr
      cases h
      exact run_binV P op t x y a b r w hr
    · split at h <;> first | cases h | skip
      · rename_i h3 _; exact run_ptr_eq (und_ptr (htt _ _ h3) rfl w) none x y
      · rename_i h3 _; exact run_ptr_ne (und_ptr (htt _ _ h3) rfl w) none x y
      · rename_i h3 _; exact run_ptr_eq (und_ptr (htt _ _ h3) rfl w) (some _) x y
      · rename_i h3 _; exact run_ptr_ne (und_ptr (htt _ _ h3) rfl w) (some _) x y
      · rename_i h3 _; exact run_bool_eq (und_bool (htt _ _ h3) rfl w) _ _ x y
      · rename_i h3 _; exact run_bool_ne (und_bool (htt _ _ h3) rfl w) _ _ x y
  · rename_i h1 h2
    rw [he _ _ h1, he _ _ h2]
    split at h <;> first | cases h | skip
    · rename_i h3; exact run_ptr_eq (und_ptr (htt _ _ h3) rfl w) (some _) x y
    · rename_i h3; exact run_ptr_ne (und_ptr (htt _ _ h3) rfl w) (some _) x y
  · rename_i h1 h2
    rw [he _ _ h1, he _ _ h2]
    split at h <;> first | cases h | skip
    · rename_i h3; obtain ⟨p, q, r, hp⟩ := und_fnc (htt _ _ h3) rfl; exact run_fn_eq (hp w) _ _ _ x y
    · rename_i h3; obtain ⟨p, q, r, hp⟩ := und_fnc (htt _ _ h3) rfl; exact run_fn_ne (hp w) _ _ _ x y
  · cases h
theorem act_build (t : TypeId) (parts : Array (Nat × Operand)) (v : AV) (h : act tt hl e (.build t parts) = some v) :
    (Instr.build t (parts.map fun p => (p.1, ec p.2))).run P w = .ok (v.conc ρ) w := by
  simp only [act] at h
  split at h
  · rename_i ti l h1 h2
    have hz := (htt _ _ h1).run_zero w
    have hp := evParts_conc he _ _ h2
    split at h
    · rename_i fs hk
      split at h
      · rename_i hall
        obtain ⟨fields, hu, hf⟩ := und_st (htt _ _ h1) hk
        have hag : ti.kind.isAgg = true := by rw [hk]; rfl
        simp only [hag, if_true] at hz
        obtain ⟨out, ho, rfl⟩ := Option.map_eq_some_iff.1 h
        have hfill := fillA_fill _ ρ _ _ _ ho
        rw [conc_raw_list] at hfill
        have hm := run_mapM_array (P := P) (fun f : Field => do pure (f.offset, ← sizeOf f.type) : Field → Sem (Nat × Nat)) (fun f => (f.offset, (szA tt f.type).getD 0)) w fields (fun f hfm => by
          have hm : (f.offset, f.type) ∈ fs := by rw [← hf]; exact List.mem_map.2 ⟨f, hfm, rfl⟩
          have hs := List.all_eq_true.1 hall _ hm
          obtain ⟨ti2, h5⟩ := Option.isSome_iff_exists.1 hs
          have e2 := (htt _ _ h5).run_size w
          simp only at h5
          simp [e2, szA, h5])
        have hpl : (fun i => (fields.map fun f => (f.offset, (szA tt f.type).getD 0))[i]?) = placeA tt ti.kind := by
          funext i
          rw [hk]
          simp only [placeA, ← hf, List.getElem?_map, Array.getElem?_map, Array.getElem?_toList]
          cases hx : fields[i]? with
          | none => simp
          | some f =>
            have hm : (f.offset, f.type) ∈ fs := by rw [← hf]; exact List.mem_map.2 ⟨f, by simpa using Array.mem_of_getElem? hx, rfl⟩
            have hs := List.all_eq_true.1 hall _ hm
            obtain ⟨ti2, h5⟩ := Option.isSome_iff_exists.1 hs
            simp only at h5
            simp [szA, h5]
        simp only [Instr.build, Sem.run_bind, hz, Result.andThen_ok, hu, hm, Value.cells, Array.toList_map, hp, AV.conc]
        rw [hpl, hfill]
        rfl
      · cases h
    · rename_i n el hk
      split at h
      · rename_i hall
        have hu := und_arr (htt _ _ h1) hk w
        have hag : ti.kind.isAgg = true := by rw [hk]; rfl
        simp only [hag, if_true] at hz
        obtain ⟨out, ho, rfl⟩ := Option.map_eq_some_iff.1 h
        have hfill := fillA_fill _ ρ _ _ _ ho
        rw [conc_raw_list] at hfill
        obtain ⟨ti2, h5⟩ := Option.isSome_iff_exists.1 hall
        have e2 := (htt _ _ h5).run_size w
        have hpl : (fun i => some (i * ti2.size, ti2.size)) = placeA tt ti.kind := by
          funext i
          rw [hk]
          simp [placeA, h5]
        simp only [Instr.build, Sem.run_bind, hz, Result.andThen_ok, hu, e2, Value.cells, Array.toList_map, hp, AV.conc]
        rw [hpl, hfill]
        rfl
      · cases h
    · cases h
  · cases h
theorem act_len (t : TypeId) (x : Operand) (ty : TypeId) (v : AV) (h : act tt hl e (.call { callee := .builtin .len, args := #[x], argTypes := #[t] }) = some v) : (Builtin.len_ #[t] ty #[ec x]).run P w = .ok (v.conc ρ) w := by
  simp only [act] at h
  split at h
  · rename_i h1 h2
    cases h
    have hu := und_sl (htt _ _ h2) rfl w
    rw [he _ _ h1]
    simp [Builtin.len_, hu, AV.conc, goInt]
  · rename_i h1 h2
    cases h
    have hu := und_sl (htt _ _ h2) rfl w
    rw [he _ _ h1]
    simp [Builtin.len_, hu, AV.conc, goInt]
  · rename_i h1 h2
    cases h
    have hu := und_str (htt _ _ h2) rfl w
    rw [he _ _ h1]
    simp [Builtin.len_, hu, AV.conc, goInt]
  · rename_i h2
    cases h
    have hu := und_arr (htt _ _ h2) rfl w
    simp [Builtin.len_, hu, AV.conc, goInt]
  · cases h
/-- 'act' tells what an operation comes to. -/
theorem act_sound (o : Oper) (v : AV) (h : act tt hl e o.op = some v) : (execOp ec o).run P w = .ok (.value (v.conc ρ)) w := by
  unfold execOp
  cases ho : o.op <;> rw [ho] at h
  case move x => simp only [act] at h; simp [he _ _ h]
  case assign x => simp only [act] at h; simp [he _ _ h]
  case pick c a b =>
    simp only [act] at h
    split at h
    · rename_i h1; simp [he _ _ h1, he _ _ h, asBool, AV.conc]
    · rename_i h1; simp [he _ _ h1, he _ _ h, asBool, AV.conc]
    · cases h
  case extract t i =>
    simp only [act] at h
    split at h
    · rename_i h1
      have := concs_get (ρ := ρ) h
      simp [he _ _ h1, Instr.extract, AV.conc, this]
    · cases h
  case field t x f => simp [act_field htt hh he t x f v h]
  case fieldAddr t x f => simp [act_fieldAddr htt hh he t x f v h]
  case load t x => simp [act_load htt hh he t x v h]
  case binOp op t x y u => 
    have := act_binOp htt hh he op t u x y v h
    simp only [Sem.run_bind] at this ⊢
    simp [this]
  case nilCheck x =>
    simp only [act] at h
    split at h
    · rename_i h1; cases h; simp [he _ _ h1, AV.conc]
    · rename_i h1; cases h; simp [he _ _ h1, AV.conc]
    · rename_i h1; cases h; simp [he _ _ h1, AV.conc]
    · cases h
  case unOp op t x =>
    cases op <;> simp only [act] at h
    case not =>
      split at h
      · rename_i h1; cases h; simp [he _ _ h1, Op.unary, AV.conc]
      · cases h
    case neg =>
      split at h
      · rename_i h1; cases h; simp [he _ _ h1, Op.unary, Op.intArith, AV.conc]
      · cases h
    all_goals cases h
  case convert s d x =>
    simp only [act] at h
    split at h
    · rename_i u h1
      obtain ⟨r, hr, rfl⟩ := Option.map_eq_some_iff.1 h
      have := run_convV htt s d u r w hr
      simp [he _ _ h1, AV.conc, this]
    · cases h
  case build t parts => simp [act_build htt hh he t parts v h]
  case makeFunc fn first cs =>
    cases fn <;> simp only [act] at h
    case func f =>
      split at h
      · rename_i h1
        obtain ⟨l, h2, rfl⟩ := Option.map_eq_some_iff.1 h
        have := evList_conc he _ _ h2
        obtain rfl : first = #[] := by cases first; simp_all
        have hc : cs.map ec = (AV.concs ρ l).toArray := by rw [← this]; apply Array.ext'; simp
        simp [Instr.makeFunc, AV.conc, hc]
      · cases h
    all_goals cases h
  case call c =>
    obtain ⟨callee, args, argTypes⟩ := c
    simp only [act] at h
    split at h
    · rename_i x t h2 h3
      obtain rfl : args = #[x] := by cases args; simp_all
      obtain rfl : argTypes = #[t] := by cases argTypes; simp_all
      have hx : act tt hl e (.call { callee := .builtin .len, args := #[x], argTypes := #[t] }) = some v := by simp only [act]; exact h
      have := act_len htt hh he t x o.type v hx
      simp [resolve, invoke, builtin, this]
    · rename_i x y h2
      obtain rfl : args = #[x, y] := by cases args; simp_all
      split at h
      · rename_i h3 h4
        cases h
        simp [resolve, invoke, builtin, he _ _ h3, he _ _ h4, AV.conc, Builtin.max_, Builtin.max2, go_sem]
        omega
      · cases h
    · rename_i x y h2
      obtain rfl : args = #[x, y] := by cases args; simp_all
      split at h
      · rename_i h3 h4
        cases h
        simp [resolve, invoke, builtin, he _ _ h3, he _ _ h4, AV.conc, Builtin.min_, Builtin.min2, go_sem]
        omega
      · cases h
    · cases h
  all_goals (simp only [act] at h; cases h)
end
end Go.Proofs.Yteabncomclgncaa
