/- The kernel, 9: the steps that make memory, and stores. No program in sight. -/
import Derived.Test.YteabncomclgncaaK8
import Derived.Laws.CopyRow
namespace Go.Proofs.Yteabncomclgncaa
set_option linter.unusedVariables false
set_option linter.unusedSimpArgs false
set_option linter.unusedSectionVars false
open Go.RowKit

/-- fits into one cell -/
def AV.oneB : AV → Bool
  | .agg _ => false
  | .tup _ => false
  | .raw (.agg _) => false
  | .raw (.tuple _) => false
  | .raw (.bool _) => true
  | .raw (.int _ _) => true
  | .raw (.string _) => true
  | .raw (.pointer _) => true
  | .raw (.slice _ _ _) => true
  | .raw .nilFunc => true
  | .raw .nilIface => true
  | .raw (.func _ _ _) => true
  | .raw (.iface _ _) => true
  | .raw _ => false
  | _ => true
theorem oneB_conc {v : AV} (h : v.oneB = true) (ρ : Env) : (v.conc ρ).oneCell' = true := by
  cases v with
  | raw u => cases u <;> simp_all [AV.oneB, AV.conc, Value.oneCell']
  | agg _ => cases h
  | tup _ => cases h
  | _ => rfl
/-- cells laid over others -/
def spl (xs : List AV) (k : Nat) (ys : List AV) : List AV := xs.take k ++ ys ++ xs.drop (k + ys.length)
theorem concs_append (ρ : Env) (xs ys : List AV) : AV.concs ρ (xs ++ ys) = AV.concs ρ xs ++ AV.concs ρ ys := by simp [concs_map]
theorem concs_spl (ρ : Env) (xs : List AV) (k : Nat) (ys : List AV) : AV.concs ρ (spl xs k ys) = (AV.concs ρ xs).take k ++ AV.concs ρ ys ++ (AV.concs ρ xs).drop (k + (AV.concs ρ ys).length) := by
  simp [spl, concs_append, concs_take, concs_drop, concs_length]
/-- all cells read the same whatever the labels from L on mean -/
def LowS (ρ : Env) (L : Nat) (xs : List AV) : Prop := ∀ x ∈ xs, x.Low ρ L
theorem lowS_of {ρ : Env} {L : Nat} {xs : List AV} (h : ∀ ρ' : Env, (∀ l, l < L → ρ' l = ρ l) → AV.concs ρ' xs = AV.concs ρ xs) : LowS ρ L xs := fun x hx ρ' he => by
  have := h ρ' he
  rw [concs_map, concs_map] at this
  exact List.map_inj_left.1 this x hx
theorem lowS_cells {ρ : Env} {L : Nat} {v : AV} (hv : v.Low ρ L) {xs : List AV} (h : v.cellsA = some xs) : LowS ρ L xs := lowS_of fun ρ' he => by
  rw [← cellsA_conc h, ← cellsA_conc h, hv ρ' he]
theorem lowS_raw (ρ : Env) (L : Nat) (l : List Value) : LowS ρ L (l.map .raw) := fun x hx => by
  obtain ⟨v, _, rfl⟩ := List.mem_map.1 hx
  exact AV.Low.raw _ _ _
theorem TIok.zeroC {P : Program} {t : TypeId} {ti : TI} (h : TIok P t ti) (w : World) : ∃ z, (zeroValue t).run P w = .ok z w ∧ z.cells.toList = ti.zero := by
  obtain ⟨i, z, h1, h2, h3, h4, h5, h6⟩ := h.run_info w
  exact ⟨z, by simp [zeroValue, h1, h4], h5⟩
/-- the cells of what lies at a label read the same -/
theorem Gam.lowCells {E : Base} {ρ : Env} {n L : Nat} {τ : List (Nat × AV)} {h : List (Nat × AO)} {F : World → Prop} {a : Act} {w : World} (g : Gam E ρ n L τ h F a w) {l : Nat} {xs : List AV} {T : TypeId} (hl : hk l h = some (.cells xs T)) : LowS ρ L xs := lowS_of fun ρ' he => by
  have := g.hp l _ hl
  obtain ⟨b, hr, hb⟩ := this.2.2
  have h2 := (this.2.1 ρ' he _ _).1 this.2.2
  obtain ⟨b', hr', hb'⟩ := h2
  rw [hr] at hr'
  cases hr'
  rw [hb] at hb'
  simp only [Option.some.injEq, Obj.cells.injEq, and_true] at hb'
  exact (List.toArray_inj hb').symm
section
variable {P : Program} {ops : Array Oper} {Q : Exit → Act → World → Prop} {D : Option DD} {E : Base} {n L : Nat} {τ : List (Nat × AV)} {h : List (Nat × AO)} {F : World → Prop} {rest : List Oper} {o : Oper}
/-- one of the chain that makes a block -/
theorem RL.makes (ao : AO) (val : AV) (hg : wantA ops o τ = some true) (hd : dOk n o.dst = true) (hk1 : chainB h D [] = true) (hval : ∀ ρ, val.Low ρ (L + 1))
    (hv : ∀ ρ a w, Gam E ρ n L τ h F a w → ∃ ob : Obj, (∀ ρ', (∀ l, l < L → ρ' l = ρ l) → ao.Low ρ' (L + 1) ∧ ao.holds ρ' (some w.heap.size) (w.alloc ob)) ∧
      (execOp a.eval o).run P w = .ok (.value (val.conc (updE ρ L (some w.heap.size)))) (w.alloc ob))
    (k : RL P ops Q (actD h D []) E n (L + 1) (putA o.dst val τ) ((L, ao) :: h) F rest) : RL P ops Q D E n L τ h F (o :: rest) :=
  RL.acts (σ := Unit) (fun _ => True) (fun _ => val) (fun _ => L + 1) (fun _ => (L, ao) :: h) (fun _ => F) [] hg hd hk1 (fun _ _ => Nat.le_succ L) (fun ρ a w g => by
    obtain ⟨ob, h1, h2⟩ := hv ρ a w g
    unfold goes
    rw [h2]
    exact ⟨(), _, trivial, rfl, hval _, fun l hl => updE_ne ρ _ (by omega), g.new ao ob h1, fun l b hl hb _ => (heap_alloc_old w ob (g.lt hl hb)).symm⟩) (fun _ _ => k)
theorem chain_low (ρ : Env) (L : Nat) (w i c : Nat) : (AV.ptr L w i c).Low ρ (L + 1) := fun ρ' he => by simp [AV.conc, he L (by omega)]
theorem sl_low (ρ : Env) (L : Nat) (w off m cap : Nat) : (AV.sl L w off m cap).Low ρ (L + 1) := fun ρ' he => by simp [AV.conc, he L (by omega)]
theorem cells_new {ρ : Env} {L : Nat} {xs : List AV} (hlow : LowS ρ L xs) (T : TypeId) (w : World) : ∀ ρ', (∀ l, l < L → ρ' l = ρ l) → (AO.cells xs T).Low ρ' (L + 1) ∧ (AO.cells xs T).holds ρ' (some w.heap.size) (w.alloc (.cells (AV.concs ρ xs).toArray T)) := fun ρ' he =>
  ⟨AO.Low.cells T fun x hx => ((hlow x hx).ext he).mono (Nat.le_succ L), ⟨_, rfl, by rw [concs_low hlow ρ' he]; exact heap_alloc_new w _⟩⟩
/-- var x T -/
theorem RL.alloc {tt : List (Nat × TI)} (htt : TTok P tt) (t : TypeId) (ti : TI) (ho : o.op = .alloc t) (ht : lk t tt = some ti) (hg : wantA ops o τ = some true) (hd : dOk n o.dst = true) (hk1 : chainB h D [] = true)
    (k : RL P ops Q (actD h D []) E n (L + 1) (putA o.dst (.ptr L 0 0 0) τ) ((L, .cells (ti.zero.map .raw) t) :: h) F rest) : RL P ops Q D E n L τ h F (o :: rest) :=
  RL.makes _ _ hg hd hk1 (fun ρ => chain_low ρ L 0 0 0) (fun ρ a w g => by
    obtain ⟨z, hz, hzc⟩ := (htt _ _ ht).zeroC w
    refine ⟨.cells (AV.concs ρ (ti.zero.map .raw)).toArray t, cells_new (lowS_raw ρ L ti.zero) t w, ?_⟩
    have hz2 : z.cells = ti.zero.toArray := by rw [← hzc]
    unfold execOp
    rw [ho]
    simp [Instr.alloc, hz, newVar, newRow, conc_raw_list, AV.conc, updE_same, hz2]) k
/-- &T{..}, a variable that is taken by its address -/
theorem RL.box (t : TypeId) (x : Operand) (v : AV) (xs : List AV) (ho : o.op = .box t x) (hx : evA τ x = some v) (hc : v.cellsA = some xs) (hg : wantA ops o τ = some true) (hd : dOk n o.dst = true) (hk1 : chainB h D [] = true)
    (k : RL P ops Q (actD h D []) E n (L + 1) (putA o.dst (.ptr L 0 0 0) τ) ((L, .cells xs t) :: h) F rest) : RL P ops Q D E n L τ h F (o :: rest) :=
  RL.makes _ _ hg hd hk1 (fun ρ => chain_low ρ L 0 0 0) (fun ρ a w g => by
    obtain ⟨h1, h2⟩ := g.eval x v hx
    refine ⟨.cells (AV.concs ρ xs).toArray t, cells_new (lowS_cells h1 hc) t w, ?_⟩
    have h3 : (v.conc ρ).cells = (AV.concs ρ xs).toArray := by rw [← cellsA_conc hc ρ]
    unfold execOp
    rw [ho]
    simp [Instr.box, h2, newVar, newRow, AV.conc, updE_same, h3]) k
theorem evParts_low {E : Base} {ρ : Env} {n L : Nat} {τ : List (Nat × AV)} {h : List (Nat × AO)} {F : World → Prop} {a : Act} {w : World} (g : Gam E ρ n L τ h F a w) : ∀ (ps : List (Nat × Operand)) (l : List (Nat × AV)), evParts (evA τ) ps = some l → ∀ p ∈ l, p.2.Low ρ L
  | [], l, hl, p, hp => by cases hl; cases hp
  | (i, x) :: r, l, hl, p, hp => by
    simp only [evParts] at hl
    split at hl
    · rename_i v l' h1 h2
      cases hl
      rcases List.mem_cons.1 hp with rfl | hp
      · exact (g.eval x v h1).1
      · exact evParts_low g r l' h2 p hp
    · cases hl
theorem rep_row (zs : List Value) : ∀ k : Nat, (List.range (k * zs.length)).map (fun i => zs.toArray[i % zs.toArray.size]!) = (List.replicate k zs).flatten
  | 0 => by simp
  | k + 1 => by
    have ih := rep_row zs k
    rw [Nat.add_mul, Nat.one_mul, List.range_add, List.map_append, ih, List.replicate_succ', List.flatten_append]
    congr 1
    simp only [List.map_map, List.flatten_cons, List.flatten_nil, List.append_nil]
    apply List.ext_getElem
    · simp
    · intro i h1 h2
      simp only [List.getElem_map, List.getElem_range, Function.comp, List.size_toArray]
      rw [Nat.mul_add_mod_self_right, Nat.mod_eq_of_lt h2]
      simp [h2]
/-- T{.., ..} of a slice -/
theorem RL.lit {tt : List (Nat × TI)} (htt : TTok P tt) (t e : TypeId) (len : Nat) (parts : Array (Nat × Operand)) (ti te : TI) (l : List (Nat × AV)) (xs : List AV) (ho : o.op = .buildSlice t len parts) (ht : lk t tt = some ti) (hkd : ti.kind = .sl e) (hte : lk e tt = some te)
    (hl : evParts (evA τ) parts.toList = some l) (hx : fillA (fun i => some (i * te.size, te.size)) ((List.replicate len (te.zero.map .raw)).flatten) l = some xs) (hsz : te.zero.length = te.size) (hsm : Nat.ble (len * te.size) 16777216 = true)
    (hg : wantA ops o τ = some true) (hd : dOk n o.dst = true) (hk1 : chainB h D [] = true)
    (k : RL P ops Q (actD h D []) E n (L + 1) (putA o.dst (.sl L te.size 0 len len) τ) ((L, .cells xs e) :: h) F rest) : RL P ops Q D E n L τ h F (o :: rest) :=
  RL.makes _ _ hg hd hk1 (fun ρ => sl_low ρ L _ 0 len len) (fun ρ a w g => by
    obtain ⟨z, hz, hzc⟩ := (htt _ _ hte).zeroC w
    have hu := und_sl (htt _ _ ht) hkd w
    have e2 := (htt _ _ hte).run_size w
    have hp := evParts_conc (ec := a.eval) (ρ := ρ) (fun x v hv => (g.eval x v hv).2) _ _ hl
    have hfill := fillA_fill _ ρ _ _ _ hx
    have hlow : LowS ρ L xs := lowS_of fun ρ' he => by
      have h2 := fillA_fill _ ρ' _ _ _ hx
      have h3 : AV.concs ρ' ((List.replicate len (te.zero.map AV.raw)).flatten) = AV.concs ρ ((List.replicate len (te.zero.map AV.raw)).flatten) := concs_low (fun x hx => by
        obtain ⟨y, hy, hx⟩ := List.mem_flatten.1 hx
        rw [List.mem_replicate] at hy
        rw [hy.2] at hx
        exact lowS_raw ρ L _ x hx) ρ' he
      have h4 : (l.map fun p => (p.1, p.2.conc ρ')) = l.map fun p => (p.1, p.2.conc ρ) := List.map_congr_left fun p hp => by
        rw [evParts_low g _ _ hl p hp ρ' he]
      rw [h3, h4, hfill] at h2
      exact (List.toArray_inj (Option.some.inj h2)).symm
    refine ⟨.cells (AV.concs ρ xs).toArray e, cells_new hlow e w, ?_⟩
    have hsm' : ¬ len * te.size > 2 ^ 24 := by
      rw [Nat.ble_eq] at hsm
      omega
    have hrow : (Array.range (len * te.size)).map (fun i => (if len * te.size = 0 then (#[] : Array Value) else te.zero.toArray)[i % (if len * te.size = 0 then (#[] : Array Value) else te.zero.toArray).size]!) = (AV.concs ρ ((List.replicate len (te.zero.map AV.raw)).flatten)).toArray := by
      by_cases h0 : len * te.size = 0
      · have h1 : (List.replicate len (te.zero.map AV.raw)).flatten = [] := by
          rcases Nat.mul_eq_zero.1 h0 with h1 | h1
          · simp [h1]
          · have : te.zero = [] := List.length_eq_zero_iff.1 (by omega)
            simp [this]
        rw [h1]
        simp [h0, AV.concs]
      · simp only [h0, if_false]
        rw [concs_map, List.map_flatten, List.map_replicate, ← concs_map, conc_raw_list]
        apply Array.ext'
        rw [Array.toList_map, Array.toList_range, ← hsz]
        exact rep_row _ _
    unfold execOp
    rw [ho]
    by_cases h0 : len * te.size = 0
    · simp only [h0, if_true] at hrow
      simp only [Instr.buildSlice, Sem.run_bind, hu, Result.andThen_ok, e2, h0, if_true, if_false, Sem.run_pure, Sem.run_ite, Array.toList_map, hp]
      rw [hrow, hfill]
      simp [newRow, AV.conc, updE_same]
    · simp only [h0, if_false] at hrow
      have hz2 : z.cells = te.zero.toArray := by rw [← hzc]
      simp only [Instr.buildSlice, Sem.run_bind, hu, Result.andThen_ok, e2, h0, hsm', if_true, if_false, Sem.run_pure, Sem.run_ite, Array.toList_map, hp, hz, hz2]
      rw [hrow, hfill]
      simp [newRow, AV.conc, updE_same]) k
/-- x = v, p.f = v -/
theorem RL.store {tt : List (Nat × TI)} (htt : TTok P tt) (t : TypeId) (x y : Operand) (l w0 i c : Nat) (v : AV) (ti : TI) (ys xs : List AV) (T : TypeId) (ho : o.op = .store t x y) (hx : evA τ x = some (.ptr l w0 i c)) (hy : evA τ y = some v) (ht : lk t tt = some ti) (hc : v.cellsA = some ys)
    (hl : hk l h = some (.cells xs T)) (hlen : ys.length = ti.size) (hfit : Nat.ble (i * w0 + c + ys.length) xs.length = true) (hone : ys.all AV.oneB = true) (hg : wantA ops o τ = some true) (hd : dOk n o.dst = true) (hk1 : chainB h D [l] = true)
    (k : RL P ops Q (actD h D [l]) E n L (putA o.dst (.raw undef) τ) ((l, .cells (spl xs (i * w0 + c) ys) T) :: h) F rest) : RL P ops Q D E n L τ h F (o :: rest) :=
  RL.acts (σ := Unit) (fun _ => True) (fun _ => .raw undef) (fun _ => L) (fun _ => (l, .cells (spl xs (i * w0 + c) ys) T) :: h) (fun _ => F) [l] hg hd hk1 (fun _ _ => Nat.le_refl L) (fun ρ a w g => by
    obtain ⟨h1, h2⟩ := g.eval x _ hx
    obtain ⟨h3, h4⟩ := g.eval y _ hy
    have hh := g.hp l _ hl
    obtain ⟨b, hr, hb⟩ := hh.2.2
    have hlow := g.lowCells hl
    have hcell : (v.conc ρ).cells = (AV.concs ρ ys).toArray := by rw [← cellsA_conc hc ρ]
    have hfit' : i * w0 + c + ys.length ≤ xs.length := by simpa [Nat.ble_eq] using hfit
    have hst := run_storeCells_at (P := P) b (i * w0 + c) T (AV.concs ρ ys) 0 (AV.concs ρ xs).toArray w hb (by simp [concs_length]; omega) (fun u hu => by
      rw [concs_map] at hu
      obtain ⟨y', hy', rfl⟩ := List.mem_map.1 hu
      exact oneB_conc (List.all_eq_true.1 hone y' hy') ρ)
    simp only [Nat.add_zero] at hst
    rw [← concs_spl] at hst
    have e2 := (htt _ _ ht).run_size w
    unfold goes execOp
    rw [ho]
    simp only [h2, h4, AV.conc, hr, Option.getD_some, Instr.storeAt, Instr.sureAddr, storeVar, Sem.run_bind, Sem.run_pure, Result.andThen_ok, hcell, e2, List.size_toArray, concs_length, hlen, ne_eq, not_true_eq_false, if_false, Sem.run_ite, hst]
    refine ⟨(), ρ, trivial, rfl, AV.Low.raw _ _ _, fun _ _ => rfl, g.set hl rfl hr (AO.Low.cells T fun z hz => ?_) ⟨b, rfl, setRow_heap _ _ _ _ _ _ hb⟩ (fun b' hb' => setRow_other _ _ _ _ hb') (by simp) ⟨rfl, rfl, rfl⟩, fun l' b' hl' hb' hn => ?_⟩
    · unfold spl at hz
      simp only [List.mem_append] at hz
      rcases hz with (hz | hz) | hz
      · exact hlow z (List.mem_of_mem_take hz)
      · exact lowS_cells h3 hc z hz
      · exact hlow z (List.mem_of_mem_drop hz)
    · by_cases e : b' = b
      · subst e
        exact absurd (g.dis l l' b' ⟨_, hl, rfl⟩ hl' hr hb') (fun e => hn (by simp [e]))
      · exact (setRow_other _ _ _ _ e).symm) (fun _ _ => k)
end
end Go.Proofs.Yteabncomclgncaa
