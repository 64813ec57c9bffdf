/- Texts of the claim, merged: only what the theorem needs. -/
import Derived.Test.YtaieficgifingaaGreatDoorPPb
import Derived.Laws.CopyRow
namespace Go.Proofs.YtaieficgifingaaGreatDoor
set_option linter.unusedVariables false
set_option linter.unusedSimpArgs false
set_option linter.unusedSectionVars false
open Go.RowKit
/-- fits into one cell -/
def AV.oneB : AV → Bool
  | .agg _ => false
  | .tup _ => false
  | .raw (.agg _) => false
  | .raw (.tuple _) => false
  | .raw (.bool _) => true
  | .raw (.int _ _) => true
  | .raw (.string _) => true
  | .raw (.pointer _) => true
  | .raw (.slice _ _ _) => true
  | .raw .nilFunc => true
  | .raw .nilIface => true
  | .raw (.func _ _ _) => true
  | .raw (.iface _ _) => true
  | .raw _ => false
  | _ => true
theorem oneB_conc {v : AV} (h : v.oneB = true) (ρ : Env) : (v.conc ρ).oneCell' = true := by
  cases v with
  | raw u => cases u <;> simp_all [AV.oneB, AV.conc, Value.oneCell']
  | agg _ => cases h
  | tup _ => cases h
  | _ => rfl
/-- cells laid over others -/
def spl (xs : List AV) (k : Nat) (ys : List AV) : List AV := xs.take k ++ ys ++ xs.drop (k + ys.length)
theorem concs_append (ρ : Env) (xs ys : List AV) : AV.concs ρ (xs ++ ys) = AV.concs ρ xs ++ AV.concs ρ ys := by simp [concs_map]
theorem concs_spl (ρ : Env) (xs : List AV) (k : Nat) (ys : List AV) : AV.concs ρ (spl xs k ys) = (AV.concs ρ xs).take k ++ AV.concs ρ ys ++ (AV.concs ρ xs).drop (k + (AV.concs ρ ys).length) := by
  simp [spl, concs_append, concs_take, concs_drop, concs_length]
/-- all cells read the same whatever the labels from L on mean -/
def LowS (ρ : Env) (L : Nat) (xs : List AV) : Prop := ∀ x ∈ xs, x.Low ρ L
theorem lowS_of {ρ : Env} {L : Nat} {xs : List AV} (h : ∀ ρ' : Env, (∀ l, l < L → ρ' l = ρ l) → AV.concs ρ' xs = AV.concs ρ xs) : LowS ρ L xs := fun x hx ρ' he => by
  have := h ρ' he
  rw [concs_map, concs_map] at this
  exact List.map_inj_left.1 this x hx
theorem lowS_cells {ρ : Env} {L : Nat} {v : AV} (hv : v.Low ρ L) {xs : List AV} (h : v.cellsA = some xs) : LowS ρ L xs := lowS_of fun ρ' he => by
  rw [← cellsA_conc h, ← cellsA_conc h, hv ρ' he]
theorem lowS_raw (ρ : Env) (L : Nat) (l : List Value) : LowS ρ L (l.map .raw) := fun x hx => by
  obtain ⟨v, _, rfl⟩ := List.mem_map.1 hx
  exact AV.Low.raw _ _ _
theorem TIok.zeroC {P : Program} {t : TypeId} {ti : TI} (h : TIok P t ti) (w : World) : ∃ z, (zeroValue t).run P w = .ok z w ∧ z.cells.toList = ti.zero := by
  obtain ⟨i, z, h1, h2, h3, h4, h5, h6⟩ := h.run_info w
  exact ⟨z, by simp [zeroValue, h1, h4], h5⟩
/-- the cells of what lies at a label read the same -/
theorem Gam.lowCells {E : Base} {ρ : Env} {n L : Nat} {τ : List (Nat × AV)} {h : List (Nat × AO)} {F : World → Prop} {a : Act} {w : World} (g : Gam E ρ n L τ h F a w) {l : Nat} {xs : List AV} {T : TypeId} (hl : hk l h = some (.cells xs T)) : LowS ρ L xs := lowS_of fun ρ' he => by
  have := g.hp l _ hl
  obtain ⟨b, hr, hb⟩ := this.2.2
  have h2 := (this.2.1 ρ' he _ _).1 this.2.2
  obtain ⟨b', hr', hb'⟩ := h2
  rw [hr] at hr'
  cases hr'
  rw [hb] at hb'
  simp only [Option.some.injEq, Obj.cells.injEq, and_true] at hb'
  exact (List.toArray_inj hb').symm
section
variable {P : Program} {ops : Array Oper} {Q : Exit → Act → World → Prop} {D : Option DD} {E : Base} {n L : Nat} {τ : List (Nat × AV)} {h : List (Nat × AO)} {F : World → Prop} {rest : List Oper} {o : Oper}
/-- one of the chain that makes a block -/
theorem RL.makes (ao : AO) (val : AV) (hg : wantA ops o τ = some true) (hd : dOk n o.dst = true) (hk1 : chainB h D [] = true) (hval : ∀ ρ, val.Low ρ (L + 1))
    (hv : ∀ ρ a w, Gam E ρ n L τ h F a w → ∃ ob : Obj, (∀ ρ', (∀ l, l < L → ρ' l = ρ l) → ao.Low ρ' (L + 1) ∧ ao.holds ρ' (some w.heap.size) (w.alloc ob)) ∧
      (execOp a.eval o).run P w = .ok (.value (val.conc (updE ρ L (some w.heap.size)))) (w.alloc ob))
    (k : RL P ops Q (actD h D []) E n (L + 1) (putA o.dst val τ) ((L, ao) :: h) F rest) : RL P ops Q D E n L τ h F (o :: rest) :=
  RL.acts (σ := Unit) (fun _ => True) (fun _ => val) (fun _ => L + 1) (fun _ => (L, ao) :: h) (fun _ => F) [] hg hd hk1 (fun _ _ => Nat.le_succ L) (fun ρ a w g => by
    obtain ⟨ob, h1, h2⟩ := hv ρ a w g
    unfold goes
    rw [h2]
    exact ⟨(), _, trivial, rfl, hval _, fun l hl => updE_ne ρ _ (by omega), g.new ao ob h1, fun l b hl hb _ => (heap_alloc_old w ob (g.lt hl hb)).symm⟩) (fun _ _ => k)
theorem chain_low (ρ : Env) (L : Nat) (w i c : Nat) : (AV.ptr L w i c).Low ρ (L + 1) := fun ρ' he => by simp [AV.conc, he L (by omega)]
theorem sl_low (ρ : Env) (L : Nat) (w off m cap : Nat) : (AV.sl L w off m cap).Low ρ (L + 1) := fun ρ' he => by simp [AV.conc, he L (by omega)]
theorem cells_new {ρ : Env} {L : Nat} {xs : List AV} (hlow : LowS ρ L xs) (T : TypeId) (w : World) : ∀ ρ', (∀ l, l < L → ρ' l = ρ l) → (AO.cells xs T).Low ρ' (L + 1) ∧ (AO.cells xs T).holds ρ' (some w.heap.size) (w.alloc (.cells (AV.concs ρ xs).toArray T)) := fun ρ' he =>
  ⟨AO.Low.cells T fun x hx => ((hlow x hx).ext he).mono (Nat.le_succ L), ⟨_, rfl, by rw [concs_low hlow ρ' he]; exact heap_alloc_new w _⟩⟩
/-- var x T -/
theorem RL.alloc {tt : List (Nat × TI)} (htt : TTok P tt) (t : TypeId) (ti : TI) (ho : o.op = .alloc t) (ht : lk t tt = some ti) (hg : wantA ops o τ = some true) (hd : dOk n o.dst = true) (hk1 : chainB h D [] = true)
    (k : RL P ops Q (actD h D []) E n (L + 1) (putA o.dst (.ptr L 0 0 0) τ) ((L, .cells (ti.zero.map .raw) t) :: h) F rest) : RL P ops Q D E n L τ h F (o :: rest) :=
  RL.makes _ _ hg hd hk1 (fun ρ => chain_low ρ L 0 0 0) (fun ρ a w g => by
    obtain ⟨z, hz, hzc⟩ := (htt _ _ ht).zeroC w
    refine ⟨.cells (AV.concs ρ (ti.zero.map .raw)).toArray t, cells_new (lowS_raw ρ L ti.zero) t w, ?_⟩
    have hz2 : z.cells = ti.zero.toArray := by rw [← hzc]
    unfold execOp
    rw [ho]
    simp [Instr.alloc, hz, newVar, newRow, conc_raw_list, AV.conc, updE_same, hz2]) k
/-- &T{..}, a variable that is taken by its address -/
theorem RL.box (t : TypeId) (x : Operand) (v : AV) (xs : List AV) (ho : o.op = .box t x) (hx : evA τ x = some v) (hc : v.cellsA = some xs) (hg : wantA ops o τ = some true) (hd : dOk n o.dst = true) (hk1 : chainB h D [] = true)
    (k : RL P ops Q (actD h D []) E n (L + 1) (putA o.dst (.ptr L 0 0 0) τ) ((L, .cells xs t) :: h) F rest) : RL P ops Q D E n L τ h F (o :: rest) :=
  RL.makes _ _ hg hd hk1 (fun ρ => chain_low ρ L 0 0 0) (fun ρ a w g => by
    obtain ⟨h1, h2⟩ := g.eval x v hx
    refine ⟨.cells (AV.concs ρ xs).toArray t, cells_new (lowS_cells h1 hc) t w, ?_⟩
    have h3 : (v.conc ρ).cells = (AV.concs ρ xs).toArray := by rw [← cellsA_conc hc ρ]
    unfold execOp
    rw [ho]
    simp [Instr.box, h2, newVar, newRow, AV.conc, updE_same, h3]) k
theorem evParts_low {E : Base} {ρ : Env} {n L : Nat} {τ : List (Nat × AV)} {h : List (Nat × AO)} {F : World → Prop} {a : Act} {w : World} (g : Gam E ρ n L τ h F a w) : ∀ (ps : List (Nat × Operand)) (l : List (Nat × AV)), evParts (evA τ) ps = some l → ∀ p ∈ l, p.2.Low ρ L
  | [], l, hl, p, hp => by cases hl; cases hp
  | (i, x) :: r, l, hl, p, hp => by
    simp only [evParts] at hl
    split at hl
    · rename_i v l' h1 h2
      cases hl
      rcases List.mem_cons.1 hp with rfl | hp
      · exact (g.eval x v h1).1
      · exact evParts_low g r l' h2 p hp
    · cases hl
theorem rep_row (zs : List Value) : ∀ k : Nat, (List.range (k * zs.length)).map (fun i => zs.toArray[i % zs.toArray.size]!) = (List.replicate k zs).flatten
  | 0 => by simp
  | k + 1 => by
    have ih := rep_row zs k
    rw [Nat.add_mul, Nat.one_mul, List.range_add, List.map_append, ih, List.replicate_succ', List.flatten_append]
    congr 1
    simp only [List.map_map, List.flatten_cons, List.flatten_nil, List.append_nil]
    apply List.ext_getElem
    · simp
    · intro i h1 h2
      simp only [List.getElem_map, List.getElem_range, Function.comp, List.size_toArray]
      rw [Nat.mul_add_mod_self_right, Nat.mod_eq_of_lt h2]
      simp [h2]
/-- T{.., ..} of a slice -/
theorem RL.lit {tt : List (Nat × TI)} (htt : TTok P tt) (t e : TypeId) (len : Nat) (parts : Array (Nat × Operand)) (ti te : TI) (l : List (Nat × AV)) (xs : List AV) (ho : o.op = .buildSlice t len parts) (ht : lk t tt = some ti) (hkd : ti.kind = .sl e) (hte : lk e tt = some te)
    (hl : evParts (evA τ) parts.toList = some l) (hx : fillA (fun i => some (i * te.size, te.size)) ((List.replicate len (te.zero.map .raw)).flatten) l = some xs) (hsz : te.zero.length = te.size) (hsm : Nat.ble (len * te.size) 16777216 = true)
    (hg : wantA ops o τ = some true) (hd : dOk n o.dst = true) (hk1 : chainB h D [] = true)
    (k : RL P ops Q (actD h D []) E n (L + 1) (putA o.dst (.sl L te.size 0 len len) τ) ((L, .cells xs e) :: h) F rest) : RL P ops Q D E n L τ h F (o :: rest) :=
  RL.makes _ _ hg hd hk1 (fun ρ => sl_low ρ L _ 0 len len) (fun ρ a w g => by
    obtain ⟨z, hz, hzc⟩ := (htt _ _ hte).zeroC w
    have hu := und_sl (htt _ _ ht) hkd w
    have e2 := (htt _ _ hte).run_size w
    have hp := evParts_conc (ec := a.eval) (ρ := ρ) (fun x v hv => (g.eval x v hv).2) _ _ hl
    have hfill := fillA_fill _ ρ _ _ _ hx
    have hlow : LowS ρ L xs := lowS_of fun ρ' he => by
      have h2 := fillA_fill _ ρ' _ _ _ hx
      have h3 : AV.concs ρ' ((List.replicate len (te.zero.map AV.raw)).flatten) = AV.concs ρ ((List.replicate len (te.zero.map AV.raw)).flatten) := concs_low (fun x hx => by
        obtain ⟨y, hy, hx⟩ := List.mem_flatten.1 hx
        rw [List.mem_replicate] at hy
        rw [hy.2] at hx
        exact lowS_raw ρ L _ x hx) ρ' he
      have h4 : (l.map fun p => (p.1, p.2.conc ρ')) = l.map fun p => (p.1, p.2.conc ρ) := List.map_congr_left fun p hp => by
        rw [evParts_low g _ _ hl p hp ρ' he]
      rw [h3, h4, hfill] at h2
      exact (List.toArray_inj (Option.some.inj h2)).symm
    refine ⟨.cells (AV.concs ρ xs).toArray e, cells_new hlow e w, ?_⟩
    have hsm' : ¬ len * te.size > 2 ^ 24 := by
      rw [Nat.ble_eq] at hsm
      omega
    have hrow : (Array.range (len * te.size)).map (fun i => (if len * te.size = 0 then (#[] : Array Value) else te.zero.toArray)[i % (if len * te.size = 0 then (#[] : Array Value) else te.zero.toArray).size]!) = (AV.concs ρ ((List.replicate len (te.zero.map AV.raw)).flatten)).toArray := by
      by_cases h0 : len * te.size = 0
      · have h1 : (List.replicate len (te.zero.map AV.raw)).flatten = [] := by
          rcases Nat.mul_eq_zero.1 h0 with h1 | h1
          · simp [h1]
          · have : te.zero = [] := List.length_eq_zero_iff.1 (by omega)
            simp [this]
        rw [h1]
        simp [h0, AV.concs]
      · simp only [h0, if_false]
        rw [concs_map, List.map_flatten, List.map_replicate, ← concs_map, conc_raw_list]
        apply Array.ext'
        rw [Array.toList_map, Array.toList_range, ← hsz]
        exact rep_row _ _
    unfold execOp
    rw [ho]
    by_cases h0 : len * te.size = 0
    · simp only [h0, if_true] at hrow
      simp only [Instr.buildSlice, Sem.run_bind, hu, Result.andThen_ok, e2, h0, if_true, if_false, Sem.run_pure, Sem.run_ite, Array.toList_map, hp]
      rw [hrow, hfill]
      simp [newRow, AV.conc, updE_same]
    · simp only [h0, if_false] at hrow
      have hz2 : z.cells = te.zero.toArray := by rw [← hzc]
      simp only [Instr.buildSlice, Sem.run_bind, hu, Result.andThen_ok, e2, h0, hsm', if_true, if_false, Sem.run_pure, Sem.run_ite, Array.toList_map, hp, hz, hz2]
      rw [hrow, hfill]
      simp [newRow, AV.conc, updE_same]) k
/-- x = v, p.f = v -/
theorem RL.store {tt : List (Nat × TI)} (htt : TTok P tt) (t : TypeId) (x y : Operand) (l w0 i c : Nat) (v : AV) (ti : TI) (ys xs : List AV) (T : TypeId) (ho : o.op = .store t x y) (hx : evA τ x = some (.ptr l w0 i c)) (hy : evA τ y = some v) (ht : lk t tt = some ti) (hc : v.cellsA = some ys)
    (hl : hk l h = some (.cells xs T)) (hlen : ys.length = ti.size) (hfit : Nat.ble (i * w0 + c + ys.length) xs.length = true) (hone : ys.all AV.oneB = true) (hg : wantA ops o τ = some true) (hd : dOk n o.dst = true) (hk1 : chainB h D [l] = true)
    (k : RL P ops Q (actD h D [l]) E n L (putA o.dst (.raw undef) τ) ((l, .cells (spl xs (i * w0 + c) ys) T) :: h) F rest) : RL P ops Q D E n L τ h F (o :: rest) :=
  RL.acts (σ := Unit) (fun _ => True) (fun _ => .raw undef) (fun _ => L) (fun _ => (l, .cells (spl xs (i * w0 + c) ys) T) :: h) (fun _ => F) [l] hg hd hk1 (fun _ _ => Nat.le_refl L) (fun ρ a w g => by
    obtain ⟨h1, h2⟩ := g.eval x _ hx
    obtain ⟨h3, h4⟩ := g.eval y _ hy
    have hh := g.hp l _ hl
    obtain ⟨b, hr, hb⟩ := hh.2.2
    have hlow := g.lowCells hl
    have hcell : (v.conc ρ).cells = (AV.concs ρ ys).toArray := by rw [← cellsA_conc hc ρ]
    have hfit' : i * w0 + c + ys.length ≤ xs.length := by simpa [Nat.ble_eq] using hfit
    have hst := run_storeCells_at (P := P) b (i * w0 + c) T (AV.concs ρ ys) 0 (AV.concs ρ xs).toArray w hb (by simp [concs_length]; omega) (fun u hu => by
      rw [concs_map] at hu
      obtain ⟨y', hy', rfl⟩ := List.mem_map.1 hu
      exact oneB_conc (List.all_eq_true.1 hone y' hy') ρ)
    simp only [Nat.add_zero] at hst
    rw [← concs_spl] at hst
    have e2 := (htt _ _ ht).run_size w
    unfold goes execOp
    rw [ho]
    simp only [h2, h4, AV.conc, hr, Option.getD_some, Instr.storeAt, Instr.sureAddr, storeVar, Sem.run_bind, Sem.run_pure, Result.andThen_ok, hcell, e2, List.size_toArray, concs_length, hlen, ne_eq, not_true_eq_false, if_false, Sem.run_ite, hst]
    refine ⟨(), ρ, trivial, rfl, AV.Low.raw _ _ _, fun _ _ => rfl, g.set hl rfl hr (AO.Low.cells T fun z hz => ?_) ⟨b, rfl, setRow_heap _ _ _ _ _ _ hb⟩ (fun b' hb' => setRow_other _ _ _ _ hb') (by simp) ⟨rfl, rfl, rfl⟩, fun l' b' hl' hb' hn => ?_⟩
    · unfold spl at hz
      simp only [List.mem_append] at hz
      rcases hz with (hz | hz) | hz
      · exact hlow z (List.mem_of_mem_take hz)
      · exact lowS_cells h3 hc z hz
      · exact hlow z (List.mem_of_mem_drop hz)
    · by_cases e : b' = b
      · subst e
        exact absurd (g.dis l l' b' ⟨_, hl, rfl⟩ hl' hr hb') (fun e => hn (by simp [e]))
      · exact (setRow_other _ _ _ _ e).symm) (fun _ _ => k)
end
end Go.Proofs.YtaieficgifingaaGreatDoor
namespace Go.Proofs.YtaieficgifingaaGreatDoor
set_option linter.unusedVariables false
set_option linter.unusedSimpArgs false
set_option linter.unusedSectionVars false
open Go.RowKit
mutual
/-- labels named anew -/
def AV.ren (r : Nat → Nat) : AV → AV
  | .raw v => .raw v
  | .ptr l w i c => .ptr (r l) w i c
  | .sl l w off n cap => .sl (r l) w off n cap
  | .agg xs => .agg (AV.rens r xs)
  | .tup xs => .tup (AV.rens r xs)
  | .fn f cs => .fn f (AV.rens r cs)
def AV.rens (r : Nat → Nat) : List AV → List AV
  | [] => []
  | x :: xs => x.ren r :: AV.rens r xs
end
theorem rens_map (r : Nat → Nat) (xs : List AV) : AV.rens r xs = xs.map (AV.ren r) := by
  induction xs with
  | nil => rfl
  | cons x xs ih => rw [AV.rens, ih]; rfl
mutual
theorem ren_conc (r : Nat → Nat) (ρ : Env) : (v : AV) → (v.ren r).conc ρ = v.conc (fun l => ρ (r l))
  | .raw v => rfl
  | .ptr l w i c => rfl
  | .sl l w off n cap => rfl
  | .agg xs => by simp only [AV.ren, AV.conc, rens_conc r ρ xs]
  | .tup xs => by simp only [AV.ren, AV.conc, rens_conc r ρ xs]
  | .fn f cs => by simp only [AV.ren, AV.conc, rens_conc r ρ cs]
theorem rens_conc (r : Nat → Nat) (ρ : Env) : (xs : List AV) → AV.concs ρ (AV.rens r xs) = AV.concs (fun l => ρ (r l)) xs
  | [] => rfl
  | x :: xs => by simp only [AV.rens, AV.concs, ren_conc r ρ x, rens_conc r ρ xs]
end
mutual
/-- all its labels lie below L -/
def AV.bd (L : Nat) : AV → Bool
  | .raw _ => true
  | .ptr l _ _ _ => Nat.ble (l + 1) L
  | .sl l _ _ _ _ => Nat.ble (l + 1) L
  | .agg xs => AV.bds L xs
  | .tup xs => AV.bds L xs
  | .fn _ cs => AV.bds L cs
def AV.bds (L : Nat) : List AV → Bool
  | [] => true
  | x :: xs => x.bd L && AV.bds L xs
end
mutual
theorem bd_low {L : Nat} : (v : AV) → v.bd L = true → ∀ ρ ρ' : Env, (∀ l, l < L → ρ' l = ρ l) → v.conc ρ' = v.conc ρ
  | .raw v, _, _, _, _ => rfl
  | .ptr l w i c, h, ρ, ρ', he => by
    have : l + 1 ≤ L := by simpa [AV.bd, Nat.ble_eq] using h
    simp [AV.conc, he l (by omega)]
  | .sl l w off n cap, h, ρ, ρ', he => by
    have : l + 1 ≤ L := by simpa [AV.bd, Nat.ble_eq] using h
    simp [AV.conc, he l (by omega)]
  | .agg xs, h, ρ, ρ', he => by simp only [AV.conc, bds_low xs h ρ ρ' he]
  | .tup xs, h, ρ, ρ', he => by simp only [AV.conc, bds_low xs h ρ ρ' he]
  | .fn f cs, h, ρ, ρ', he => by simp only [AV.conc, bds_low cs h ρ ρ' he]
theorem bds_low {L : Nat} : (xs : List AV) → AV.bds L xs = true → ∀ ρ ρ' : Env, (∀ l, l < L → ρ' l = ρ l) → AV.concs ρ' xs = AV.concs ρ xs
  | [], _, _, _, _ => rfl
  | x :: xs, h, ρ, ρ', he => by
    simp only [AV.bds, Bool.and_eq_true] at h
    simp only [AV.concs, bd_low x h.1 ρ ρ' he, bds_low xs h.2 ρ ρ' he]
end
theorem bdLow {L : Nat} {v : AV} (h : v.bd L = true) (ρ : Env) : v.Low ρ L := fun ρ' he => bd_low v h ρ ρ' he
theorem bds_all {L : Nat} {xs : List AV} (h : AV.bds L xs = true) : ∀ x ∈ xs, x.bd L = true := by
  induction xs with
  | nil => intro x hx; cases hx
  | cons y ys ih =>
    simp only [AV.bds, Bool.and_eq_true] at h
    intro x hx
    rcases List.mem_cons.1 hx with rfl | hx
    · exact h.1
    · exact ih h.2 x hx
def AO.ren (r : Nat → Nat) : AO → AO
  | .cells xs ty => .cells (AV.rens r xs) ty
  | .bytes p cap ty => .bytes p cap ty
  | .tab w n cap f ty => .tab w n cap (fun i => AV.rens r (f i)) ty
  | .ro w off n f => .ro w off n (fun i => AV.rens r (f i))
  | .gone => .gone
def AO.Bd (L : Nat) : AO → Prop
  | .cells xs _ => AV.bds L xs = true
  | .bytes _ _ _ => True
  | .tab _ n _ f _ => ∀ i, i < n → AV.bds L (f i) = true
  | .ro _ _ n f => ∀ i, i < n → AV.bds L (f i) = true
  | .gone => True
theorem AO.Bd.low {L : Nat} {o : AO} (h : o.Bd L) (ρ : Env) : o.Low ρ L := by
  cases o with
  | cells xs ty => exact AO.Low.cells ty fun x hx => bdLow (bds_all h x hx) ρ
  | bytes p cap ty => exact AO.Low.bytes ρ L p cap ty
  | tab w n cap f ty => exact AO.Low.tab ty fun i hi x hx => bdLow (bds_all (h i hi) x hx) ρ
  | ro w off n f => exact AO.Low.ro fun i hi x hx => bdLow (bds_all (h i hi) x hx) ρ
  | gone => exact fun _ _ _ _ => Iff.rfl
theorem ren_holds (r : Nat → Nat) (ρ : Env) (o : AO) (x : Option Nat) (w : World) : (o.ren r).holds ρ x w ↔ o.holds (fun l => ρ (r l)) x w := by
  cases o with
  | cells xs ty => simp only [AO.ren, AO.holds, rens_conc]
  | bytes p cap ty => exact Iff.rfl
  | tab wd n cap f ty =>
    have e : ∀ i c (x : AV), (AV.rens r (f i))[c]? = some x ↔ ∃ y : AV, (f i)[c]? = some y ∧ x = y.ren r := fun i c x => by
      rw [rens_map, List.getElem?_map]
      cases hx : (f i)[c]? with
      | none =>
        simp only [Option.map_none]
        refine ⟨fun h => (by cases h), ?_⟩
        rintro ⟨z, hz, _⟩
        rw [hx] at hz; cases hz
      | some y =>
        simp only [Option.map_some, Option.some.injEq]
        exact ⟨fun h => ⟨y, hx, h.symm⟩, fun ⟨z, hz, he⟩ => by rw [hx] at hz; cases hz; exact he.symm⟩
    simp only [AO.ren, AO.holds, e, rens_map, List.length_map]
    constructor
    · rintro ⟨h1, h2, h3⟩
      refine ⟨h1, h2, h3.imp id ?_⟩
      rintro ⟨b, cur, hr, hb, hs, hc⟩
      exact ⟨b, cur, hr, hb, hs, fun i c y hi hy => by rw [← ren_conc]; exact hc i c _ hi (by rw [← rens_map]; exact (e i c _).2 ⟨y, hy, rfl⟩)⟩
    · rintro ⟨h1, h2, h3⟩
      refine ⟨h1, h2, h3.imp id ?_⟩
      rintro ⟨b, cur, hr, hb, hs, hc⟩
      refine ⟨b, cur, hr, hb, hs, fun i c x hi hx => ?_⟩
      rw [← rens_map] at hx
      obtain ⟨y, hy, rfl⟩ := (e i c x).1 hx
      rw [ren_conc]; exact hc i c y hi hy
  | ro wd off n f =>
    have e : ∀ i c (x : AV), (AV.rens r (f i))[c]? = some x ↔ ∃ y : AV, (f i)[c]? = some y ∧ x = y.ren r := fun i c x => by
      rw [rens_map, List.getElem?_map]
      cases hx : (f i)[c]? with
      | none =>
        simp only [Option.map_none]
        refine ⟨fun h => (by cases h), ?_⟩
        rintro ⟨z, hz, _⟩
        rw [hx] at hz; cases hz
      | some y =>
        simp only [Option.map_some, Option.some.injEq]
        exact ⟨fun h => ⟨y, hx, h.symm⟩, fun ⟨z, hz, he⟩ => by rw [hx] at hz; cases hz; exact he.symm⟩
    simp only [AO.ren, AO.holds, e]
    constructor
    · intro h3
      refine h3.imp id ?_
      rintro ⟨b, cur, ty, fr, hr, hb, hc⟩
      exact ⟨b, cur, ty, fr, hr, hb, fun i c y hi hy => by rw [← ren_conc]; exact hc i c _ hi ⟨y, hy, rfl⟩⟩
    · intro h3
      refine h3.imp id ?_
      rintro ⟨b, cur, ty, fr, hr, hb, hc⟩
      refine ⟨b, cur, ty, fr, hr, hb, fun i c x hi hx => ?_⟩
      obtain ⟨y, hy, rfl⟩ := hx
      rw [ren_conc]; exact hc i c y hi hy
  | gone => exact Iff.rfl
/-- a slot of the poorer telling -/
def HasT (r : Nat → Nat) (L : Nat) (τ : List (Nat × AV)) : List (Nat × AV) → Prop
  | [] => True
  | (t, v) :: rest => ((∃ v', lk t τ = some v' ∧ v' = v.ren r) ∧ v.bd L = true) ∧ HasT r L τ rest
/-- what lies at a label in the poorer telling -/
def HasH (r : Nat → Nat) (L : Nat) (h : List (Nat × AO)) : List (Nat × AO) → Prop
  | [] => True
  | (l, o) :: rest => ((∃ o', hk (r l) h = some o' ∧ (o.isRo = false → o'.isRo = false) ∧ ∀ ρ x w, o'.holds ρ x w → (o.ren r).holds ρ x w) ∧ Nat.ble (l + 1) L = true ∧ o.Bd L) ∧ HasH r L h rest
def nodupB : List Nat → Bool
  | [] => true
  | x :: xs => !xs.elem x && nodupB xs
theorem nodupB_inj {r : Nat → Nat} {ls : List Nat} (h : nodupB (ls.map r) = true) : ∀ l l', l ∈ ls → l' ∈ ls → r l = r l' → l = l' := by
  induction ls with
  | nil => intro l l' hl; cases hl
  | cons x xs ih =>
    simp only [List.map_cons, nodupB, Bool.and_eq_true, Bool.not_eq_true'] at h
    have hx : ∀ y ∈ xs, r y ≠ r x := fun y hy e => by
      have := h.1
      rw [List.elem_iff.2 (e ▸ List.mem_map.2 ⟨y, hy, rfl⟩)] at this
      cases this
    intro l l' hl hl' e
    rcases List.mem_cons.1 hl with h1 | h1
    · rcases List.mem_cons.1 hl' with h2 | h2
      · rw [h1, h2]
      · subst h1; exact absurd e.symm (hx l' h2)
    · rcases List.mem_cons.1 hl' with h2 | h2
      · subst h2; exact absurd e (hx l h1)
      · exact ih h.2 l l' h1 h2 e
theorem lk_hasT {r : Nat → Nat} {L : Nat} {τ : List (Nat × AV)} : ∀ {τ2 : List (Nat × AV)}, HasT r L τ τ2 → ∀ t v, lk t τ2 = some v → lk t τ = some (v.ren r) ∧ v.bd L = true
  | [], _, t, v, h => by simp [lk] at h
  | (s, u) :: rest, hh, t, v, h => by
    rw [lk_cons] at h
    split at h
    · rename_i e
      subst e
      cases h
      obtain ⟨⟨⟨v', h1, h2⟩, h3⟩, _⟩ := hh
      exact ⟨by rw [h1, h2], h3⟩
    · exact lk_hasT hh.2 t v h
theorem hk_hasH {r : Nat → Nat} {L : Nat} {h : List (Nat × AO)} : ∀ {h2 : List (Nat × AO)}, HasH r L h h2 → ∀ l o, hk l h2 = some o → (∃ o', hk (r l) h = some o' ∧ (o.isRo = false → o'.isRo = false) ∧ ∀ ρ x w, o'.holds ρ x w → (o.ren r).holds ρ x w) ∧ l < L ∧ o.Bd L ∧ l ∈ h2.map (·.1)
  | [], _, l, o, hl => by simp [hk, lk] at hl
  | (s, u) :: rest, hh, l, o, hl => by
    rw [hk_cons] at hl
    split at hl
    · rename_i e
      subst e
      have e2 : o = u := by cases u <;> simp at hl <;> exact hl.symm
      subst e2
      obtain ⟨⟨h1, h2, h3⟩, _⟩ := hh
      exact ⟨h1, by have : s + 1 ≤ L := by simpa [Nat.ble_eq] using h2
                    omega, h3, by simp⟩
    · obtain ⟨h1, h2, h3, h4⟩ := hk_hasH hh.2 l o hl
      exact ⟨h1, h2, h3, by simp only [List.map_cons, List.mem_cons]; exact .inr h4⟩
section
variable {E : Base} {ρ : Env} {n L : Nat} {τ : List (Nat × AV)} {h : List (Nat × AO)} {F : World → Prop} {a : Act} {w : World}
/-- less told, labels named anew -/
theorem Gam.imp (g : Gam E ρ n L τ h F a w) (r : Nat → Nat) (L2 : Nat) (τ2 : List (Nat × AV)) (h2 : List (Nat × AO)) (F2 : World → Prop) (hr : ∀ l, l < E.N → r l = l) (hrL : ∀ l, l < L2 → r l < L) (hN : E.N ≤ L2) (ht : HasT r L2 τ τ2) (hh : HasH r L2 h h2) (hnd : nodupB ((h2.map (·.1)).map r) = true)
    (hF2 : ∀ w, F w → F2 w) : Gam E (fun l => ρ (r l)) n L2 τ2 h2 F2 a w := by
  have live : ∀ l, hk l h2 ≠ none → hk (r l) h ≠ none ∧ l ∈ h2.map (·.1) := fun l hl => by
    cases ho : hk l h2 with
    | none => exact absurd ho hl
    | some o =>
      obtain ⟨⟨o', h1, _⟩, _, _, h4⟩ := hk_hasH hh l o ho
      exact ⟨by rw [h1]; simp, h4⟩
  have wr : ∀ l, wrA l h2 → wrA (r l) h := fun l hl => by
    obtain ⟨o, ho, hro⟩ := hl
    obtain ⟨⟨o', h1, h3, _⟩, _⟩ := hk_hasH hh l o ho
    exact ⟨o', h1, h3 hro⟩
  refine ⟨g.df, g.sz, fun t v hv => ?_, fun l o ho => ?_, fun l l' b hl hl' hb hb' => ?_, fun w' hw => ?_, fun l hl => ?_, hN, fun l b hl hb => g.al (r l) b (hrL l hl) hb⟩
  · obtain ⟨h1, h2'⟩ := lk_hasT ht t v hv
    have := g.tm t _ h1
    exact ⟨bdLow h2' _, by rw [this.2, ren_conc]⟩
  · obtain ⟨⟨o', h1, _, h2'⟩, h3, h4, _⟩ := hk_hasH hh l o ho
    have := g.hp (r l) o' h1
    exact ⟨h3, h4.low _, (ren_holds r ρ o _ w).1 (h2' _ _ _ this.2.2)⟩
  · have h1 := live l hl.live
    have h2' := live l' hl'
    exact nodupB_inj hnd l l' h1.2 h2'.2 (g.dis _ _ b (wr l hl) h2'.1 hb hb')
  · exact hF2 _ (g.fr w' (hw.mono fun b _ hd l hl hb => hd (r l) (wr l hl) hb))
  · simp only [hr l hl]; exact g.ex l hl
end
/-- blocks that a call may write -/
def Wr0 (h0 : List AO) (ρ : Env) (b : Nat) : Prop := ∃ i o, h0[i]? = some o ∧ o.isRo = false ∧ ρ i = some b
/-- what a call comes to: h0 is what came in, at the labels 0, 1 ..; G: what is known of s -/
def Outc {σ : Type} (h0 : List AO) (m : Nat) (ρ : Env) (w : World) (G : σ → Prop) (val : σ → AV) (post : σ → List (Nat × AO)) (e : Ending) (w' : World) : Prop :=
  ∃ s ρ', G s ∧ (∀ i, i < h0.length → ρ' i = ρ i) ∧ e = .returned ((val s).conc ρ') ∧ (val s).Low ρ' m ∧ Ag (fun b => ¬ Wr0 h0 ρ b) w w' ∧
    (∀ l o, hk l (post s) = some o → l < m ∧ o.Low ρ' m ∧ o.holds ρ' (ρ' l) w') ∧ (∀ l l' b, wrA l (post s) → hk l' (post s) ≠ none → ρ' l = some b → ρ' l' = some b → l = l') ∧
    (∀ l b, l < m → ρ' l = some b → b < w'.heap.size) ∧ (∀ l b, h0.length ≤ l → hk l (post s) ≠ none → ρ' l = some b → w.heap.size ≤ b ∨ Wr0 h0 ρ b) ∧ (∀ i o, i < h0.length → hk i (post s) = some o → o.isRo = false → ∃ o0, h0[i]? = some o0 ∧ o0.isRo = false)
/-- the results -/
def resA (tt : List (Nat × TI)) (h : List (Nat × AO)) (τ : List (Nat × AV)) : List ResultVar → Option (List AV)
  | [] => some []
  | .tmp t :: r => match lk t τ, resA tt h τ r with
    | some v, some l => some (v :: l)
    | _, _ => none
  | .cell a t :: r => match act tt (fun l => hk l h) (evA τ) (.load t (.tmp a)), resA tt h τ r with
    | some v, some l => some (v :: l)
    | _, _ => none
def resV : List AV → AV
  | [v] => v
  | l => .tup l
section
variable {P : Program} {Q : Exit → Act → World → Prop} {E : Base} {n L : Nat} {τ : List (Nat × AV)} {h : List (Nat × AO)} {F : World → Prop}
def resStep (tmps : Array Value) : ResultVar → Sem Value
  | .tmp t => pure (tmps.getD t undef)
  | .cell a t => do loadVar t (← asAddr (tmps.getD a undef))
theorem results_eq (fn : Func) (tmps : Array Value) : results fn tmps = (do
    let vs ← fn.results.mapM (resStep tmps)
    pure (if h : vs.size = 1 then vs[0] else .tuple vs)) := by
  unfold results
  have : (fun x : ResultVar => match x with | .tmp t => (pure (tmps.getD t undef) : Sem Value) | .cell a t => do loadVar t (← asAddr (tmps.getD a undef))) = resStep tmps := by
    funext x; cases x <;> rfl
  rw [← this]
  rfl
theorem run_resA {tt : List (Nat × TI)} (htt : TTok P tt) {ρ : Env} {a : Act} {w : World} (g : Gam E ρ n L τ h F a w) : ∀ (rs : List ResultVar) (vs : List AV), resA tt h τ rs = some vs →
    (rs.mapM (resStep a.tmps)).run P w = .ok (AV.concs ρ vs) w := by
  intro rs
  induction rs with
  | nil => intro vs h; cases h; rfl
  | cons x r ih =>
    intro vs h0
    cases x with
    | tmp t =>
      simp only [resA] at h0
      split at h0
      · rename_i v l h1 h2
        cases h0
        have := (g.tm t v h1).2
        rw [List.mapM_cons]
        simp [ih l h2, this, AV.concs, resStep]
      · cases h0
    | cell c t =>
      simp only [resA] at h0
      split at h0
      · rename_i v l h1 h2
        cases h0
        have h3 := act_load htt (hl := fun l => hk l _) g.holds (evB g) t (.tmp c) v h1
        rw [List.mapM_cons]
        obtain ⟨ad, h4⟩ : ∃ ad, a.tmps.getD c undef = .pointer (some ad) := by
          simp only [act] at h1
          split at h1
          · rename_i l' wd i cc ti h5 h6
            exact ⟨_, (g.eval (.tmp c) _ h5).2⟩
          · cases h1
        simp only [Instr.loadAt, Sem.run_bind, Act.eval, h4, Instr.sureAddr, Sem.run_pure, Result.andThen_ok] at h3
        simp only [resStep, h4, asAddr, Sem.run_bind, Sem.run_pure, Result.andThen_ok, h3, ih l h2, AV.concs]
      · cases h0
theorem run_results {tt : List (Nat × TI)} (htt : TTok P tt) {ρ : Env} {a : Act} {w : World} (g : Gam E ρ n L τ h F a w) {fn : Func} {vs : List AV} (hr : resA tt h τ fn.results.toList = some vs) : (results fn a.tmps).run P w = .ok ((resV vs).conc ρ) w := by
  have h1 := run_resA htt g _ _ hr
  have h2 : (fn.results.mapM (resStep a.tmps)).run P w = .ok (AV.concs ρ vs).toArray w := by
    rw [Array.mapM_eq_mapM_toList, ← bind_pure_comp]
    simp only [Sem.run_bind, h1, Result.andThen_ok, Sem.run_pure]
  rw [results_eq]
  simp only [Sem.run_bind, h2, Result.andThen_ok, Sem.run_pure]
  congr 1
  match vs with
  | [] => rfl
  | [v] => rfl
  | v :: u :: vs => rfl
/-- the end of a call -/
theorem EX.ret {tt : List (Nat × TI)} (htt : TTok P tt) {fn : Func} {R : Ending → World → Prop} {vs : List AV} (hr : resA tt h τ fn.results.toList = some vs) (k : ∀ ρ a w, Gam E ρ n L τ h F a w → R (.returned ((resV vs).conc ρ)) w) (hd : E.df = [] := by rfl) : EX (bodyPost P fn R) .ret E n L τ h F :=
  fun ρ a w g => ⟨g.df.trans hd, _, run_results htt g hr, k ρ a w g⟩
theorem EX.end_ {tt : List (Nat × TI)} (htt : TTok P tt) {fn : Func} {R : Ending → World → Prop} {vs : List AV} (hr : resA tt h τ fn.results.toList = some vs) (k : ∀ ρ a w, Gam E ρ n L τ h F a w → R (.returned ((resV vs).conc ρ)) w) (hd : E.df = [] := by rfl) : EX (bodyPost P fn R) .normal E n L τ h F :=
  fun ρ a w g => ⟨g.df.trans hd, _, run_results htt g hr, k ρ a w g⟩
/-- a state's telling is what a call comes to -/
theorem Gam.outc {σ : Type} {h0 : List AO} {ρ0 : Env} {w0 : World} {ρ : Env} {a : Act} {w : World} (g : Gam ⟨h0.length, ρ0, []⟩ ρ n L τ h F a w) (hF : ∀ w', F w' → Ag (fun b => ¬ Wr0 h0 ρ0 b) w0 w') {G : σ → Prop} {val : σ → AV} {post : σ → List (Nat × AO)} {m : Nat} {v : AV}
    (s : σ) (r : Nat → Nat) (hG : G s) (hv : v = (val s).ren r) (hb : (val s).bd m = true) (hm : h0.length ≤ m) (hr : ∀ l, l < h0.length → r l = l) (hrL : ∀ l, l < m → r l < L) (hh : HasH r m h (post s)) (hnd : nodupB (((post s).map (·.1)).map r) = true)
    (hnew : ∀ l b, h0.length ≤ l → hk l (post s) ≠ none → ρ (r l) = some b → w0.heap.size ≤ b ∨ Wr0 h0 ρ0 b) (hold : ∀ i o, i < h0.length → hk i (post s) = some o → o.isRo = false → ∃ o0, h0[i]? = some o0 ∧ o0.isRo = false) : Outc h0 m ρ0 w0 G val post (.returned (v.conc ρ)) w := by
  have g2 := g.imp r m [] (post s) F hr hrL hm trivial hh hnd (fun _ h => h)
  exact ⟨s, fun l => ρ (r l), hG, fun i hi => g2.ex i hi, by rw [hv, ren_conc], bdLow hb _, hF w (g.fr w (Ag.refl _ _)), g2.hp, g2.dis, fun l b h1 h3 => g.al (r l) b (hrL l h1) h3, hnew, hold⟩
/-- a number of values as slots -/
def slots (k : Nat) : List AV → List (Nat × AV)
  | [] => []
  | v :: l => (k, v) :: slots (k + 1) l
def labels (k : Nat) : List AO → List (Nat × AO)
  | [] => []
  | v :: l => (k, v) :: labels (k + 1) l
theorem lk_slots (vs : List AV) : ∀ k t v, lk t (slots k vs) = some v → k ≤ t ∧ vs[t - k]? = some v := by
  induction vs with
  | nil => intro k t v h; simp [slots, lk] at h
  | cons u us ih =>
    intro k t v h
    simp only [slots, lk_cons] at h
    split at h
    · rename_i e; subst e; cases h; simp
    · have := ih (k + 1) t v h
      refine ⟨by omega, ?_⟩
      rw [show t - k = (t - (k + 1)) + 1 by omega]
      simpa using this.2
theorem hk_labels (os : List AO) : ∀ k l o, hk l (labels k os) = some o → k ≤ l ∧ os[l - k]? = some o := by
  induction os with
  | nil => intro k t v h; simp [labels, hk, lk] at h
  | cons u us ih =>
    intro k t v h
    simp only [labels, hk_cons] at h
    split at h
    · rename_i e
      subst e
      have e2 : v = u := by cases u <;> simp at h <;> exact h.symm
      subst e2
      simp
    · have := ih (k + 1) t v h
      refine ⟨by omega, ?_⟩
      rw [show t - k = (t - (k + 1)) + 1 by omega]
      simpa using this.2
/-- the beginning of a call -/
theorem CL.enter {f : FuncId} {fn : Func} {c : Code} (hf : P.funcs[f]? = some fn) (hb : fn.body = some c) (ρ : Env) (avs : List AV) (h0 : List AO) (w : World) (R : Ending → World → Prop) (n : Nat) (hn : fn.ntmps = n) (hlen : Nat.ble avs.length n = true) (hbd : AV.bds h0.length avs = true)
    (hbo : ∀ o ∈ h0, o.Bd h0.length) (hh : ∀ (i : Nat) (o : AO), h0[i]? = some o → o.holds ρ (ρ i) w) (hdis : ∀ i j o b, h0[i]? = some o → o.isRo = false → j < h0.length → ρ i = some b → ρ j = some b → i = j) (hal : ∀ i b, i < h0.length → ρ i = some b → b < w.heap.size)
    (k : CL P c (bodyPost P fn R) ⟨h0.length, ρ, []⟩ n h0.length (slots 0 avs) (labels 0 h0) (fun w' => Ag (fun b => ¬ Wr0 h0 ρ b) w w')) : Calls P f (AV.concs ρ avs).toArray w R := by
  have hlen' : avs.length ≤ n := by simpa [Nat.ble_eq] using hlen
  refine calls_of_wp hf hb (k ρ _ w ⟨rfl, by simp [hn, concs_length]; omega, fun t v hv => ?_, fun l o ho => ?_, fun l l' b hl hl' hb1 hb2 => ?_, fun w' hw => ?_, fun _ _ => rfl, Nat.le_refl _, hal⟩)
  · have := (lk_slots avs 0 t v hv).2
    rw [Nat.sub_zero] at this
    refine ⟨bdLow (bds_all hbd v (List.mem_of_getElem? this)) ρ, ?_⟩
    have hlt : t < avs.length := (List.getElem?_eq_some_iff.1 this).1
    simp only [Array.getElem?_append, List.size_toArray, concs_length, hlt, if_true]
    simpa using concs_get this
  · have := (hk_labels h0 0 l o ho).2
    rw [Nat.sub_zero] at this
    exact ⟨(List.getElem?_eq_some_iff.1 this).1, (hbo o (List.mem_of_getElem? this)).low ρ, hh l o this⟩
  · have e : ∀ l, hk l (labels 0 h0) ≠ none → l < h0.length := fun l hl => by
      cases ho : hk l (labels 0 h0) with
      | none => exact absurd ho hl
      | some o =>
        have := (hk_labels h0 0 l o ho).2
        rw [Nat.sub_zero] at this
        exact (List.getElem?_eq_some_iff.1 this).1
    obtain ⟨o, ho, hro⟩ := hl
    have := (hk_labels h0 0 l o ho).2
    rw [Nat.sub_zero] at this
    exact hdis l l' o b this hro (e l' hl') hb1 hb2
  · refine hw.mono fun b _ hd l hl hb => hd ?_
    obtain ⟨o, ho, hro⟩ := hl
    have := (hk_labels h0 0 l o ho).2
    rw [Nat.sub_zero] at this
    exact ⟨l, o, this, hro, hb⟩
end
end Go.Proofs.YtaieficgifingaaGreatDoor
namespace Go.Proofs.YtaieficgifingaaGreatDoor
set_option linter.unusedVariables false
set_option linter.unusedSimpArgs false
set_option linter.unusedSectionVars false
open Go.RowKit
structure C (P : Program) (c : Code) (Q : Exit → Act → World → Prop) (E : Base) (n L : Nat) (τ : List (Nat × AV)) (h : List (Nat × AO)) (F : World → Prop) : Prop where
  mk :: (out : CL P c Q E n L τ h F)
structure X (Q : Exit → Act → World → Prop) (e : Exit) (E : Base) (n L : Nat) (τ : List (Nat × AV)) (h : List (Nat × AO)) (F : World → Prop) : Prop where
  mk :: (out : EX Q e E n L τ h F)
structure R (P : Program) (ops : Array Oper) (Q : Exit → Act → World → Prop) (D : Option DD) (E : Base) (n L : Nat) (τ : List (Nat × AV)) (h : List (Nat × AO)) (F : World → Prop) (rest : List Oper) : Prop where
  mk :: (out : RL P ops Q D E n L τ h F rest)
section
variable {P : Program} {Q : Exit → Act → World → Prop} {E : Base} {n L : Nat} {τ : List (Nat × AV)} {h : List (Nat × AO)} {F : World → Prop}
theorem C.region {id : Nat} {l : List Oper} (k : R P l.toArray Q none E n L τ h F l) : C P (.region id l.toArray false) Q E n L τ h F := ⟨CL.region k.out⟩
theorem C.draw (pr : List (List Nat)) (ch : List Nat) {id : Nat} {l : List Oper} (hm : P.follows .mixedOrders = true) (hB : edgesB l pr ch = true) (k : R P l.toArray Q (some ⟨0, pr, ch, [], []⟩) E n L τ h F l) :
    C P (.region id l.toArray true) Q E n L τ h F := ⟨CL.draw pr ch hm hB k.out⟩
theorem C.seq {x y : Code} (k : C P x (Exit.then (y.wp P Q) Q) E n L τ h F) : C P (.seq x y) Q E n L τ h F := ⟨CL.seq k.out⟩
theorem X.then {y : Code} (k : C P y Q E n L τ h F) : X (Exit.then (y.wp P Q) Q) .normal E n L τ h F := ⟨EX.then k.out⟩
theorem X.pass_ret {next : Act → World → Prop} (k : X Q .ret E n L τ h F) : X (Exit.then next Q) .ret E n L τ h F := ⟨k.out⟩
theorem X.pass_exit {next : Act → World → Prop} {id : Nat} (k : X Q (.exit id) E n L τ h F) : X (Exit.then next Q) (.exit id) E n L τ h F := ⟨k.out⟩
theorem X.block_normal {id : Nat} (k : X Q .normal E n L τ h F) : X (Exit.inBlock id Q) .normal E n L τ h F := ⟨k.out⟩
theorem X.block_ret {id : Nat} (k : X Q .ret E n L τ h F) : X (Exit.inBlock id Q) .ret E n L τ h F := ⟨k.out⟩
theorem X.block_exit {id : Nat} (k : X Q .normal E n L τ h F) : X (Exit.inBlock id Q) (.exit id) E n L τ h F := ⟨EX.block_exit k.out⟩
theorem X.block_other {id id' : Nat} (hne : Nat.beq id' id = false) (k : X Q (.exit id') E n L τ h F) : X (Exit.inBlock id Q) (.exit id') E n L τ h F := ⟨EX.block_other hne k.out⟩
theorem R.done {ops : Array Oper} {D : Option DD} (k : X Q .normal E n L τ h F) : R P ops Q D E n L τ h F [] := ⟨RL.done k.out⟩
theorem C.skip (k : X Q .normal E n L τ h F) : C P .skip Q E n L τ h F := ⟨CL.skip k.out⟩
theorem C.ret (k : X Q .ret E n L τ h F) : C P .ret Q E n L τ h F := ⟨CL.ret k.out⟩
theorem C.exit {id : Nat} (k : X Q (.exit id) E n L τ h F) : C P (.exit id) Q E n L τ h F := ⟨CL.exit k.out⟩
theorem C.block {id : Nat} {c : Code} (k : C P c (Exit.inBlock id Q) E n L τ h F) : C P (.block id c) Q E n L τ h F := ⟨CL.block k.out⟩
theorem C.cond {c : Operand} {x y : Code} {b : Bool} (hc : evA τ c = some (.raw (.bool b))) (kt : b = true → C P x Q E n L τ h F) (kf : b = false → C P y Q E n L τ h F) : C P (.cond c x y) Q E n L τ h F := ⟨CL.cond hc (fun e => (kt e).out) (fun e => (kf e).out)⟩
theorem C.tru {c : Operand} {x y : Code} (hc : evA τ c = some (.raw (.bool true))) (kt : C P x Q E n L τ h F) : C P (.cond c x y) Q E n L τ h F := ⟨CL.cond_true hc kt.out⟩
theorem C.fls {c : Operand} {x y : Code} (hc : evA τ c = some (.raw (.bool false))) (kf : C P y Q E n L τ h F) : C P (.cond c x y) Q E n L τ h F := ⟨CL.cond_false hc kf.out⟩
theorem X.ret {tt : List (Nat × TI)} (htt : TTok P tt) {fn : Func} {R : Ending → World → Prop} {vs : List AV} (hr : resA tt h τ fn.results.toList = some vs) (k : ∀ ρ a w, Gam E ρ n L τ h F a w → R (.returned ((resV vs).conc ρ)) w) (hd : E.df = [] := by rfl) : X (bodyPost P fn R) .ret E n L τ h F := ⟨EX.ret htt hr k hd⟩
theorem X.end_ {tt : List (Nat × TI)} (htt : TTok P tt) {fn : Func} {R : Ending → World → Prop} {vs : List AV} (hr : resA tt h τ fn.results.toList = some vs) (k : ∀ ρ a w, Gam E ρ n L τ h F a w → R (.returned ((resV vs).conc ρ)) w) (hd : E.df = [] := by rfl) : X (bodyPost P fn R) .normal E n L τ h F := ⟨EX.end_ htt hr k hd⟩
end
section
variable {P : Program} {ops : Array Oper} {Q : Exit → Act → World → Prop} {D : Option DD} {E : Base} {n L : Nat} {τ : List (Nat × AV)} {h : List (Nat × AO)} {F : World → Prop} {rest : List Oper}
  {d : Nat} {op : Op} {ty : TypeId} {ps : String} {af : Array Edge} {gd : Option (Nat × Bool)} {tt : List (Nat × TI)}
/-- moves, fields, loads, sums .. -/
theorem R.s (htt : TTok P tt) {v : AV} (ha : act tt (fun l => hk l h) (evA τ) op = some v) (hg : wantA ops ⟨some d, op, ty, ps, af, gd⟩ τ = some true)
    (hb : (Nat.ble (d + 1) n && lookB D (rdL τ op) && (rdL τ op).all (fun l => Nat.ble (l + 1) L)) = true)
    (k : R P ops Q (lookD D (rdL τ op)) E n L ((d, v) :: τ) h F rest) : R P ops Q D E n L τ h F (⟨some d, op, ty, ps, af, gd⟩ :: rest) := by
  simp only [Bool.and_eq_true] at hb
  exact ⟨RL.step htt v ha hg hb.1.1 hb.1.2 k.out hb.2⟩
/-- a number that is told in another way -/
theorem R.w (htt : TTok P tt) {k0 : IntKind} {x : Int} (ha : act tt (fun l => hk l h) (evA τ) op = some (.raw (.int k0 (k0.wrap x)))) (hx : k0.wrap x = x) (hg : wantA ops ⟨some d, op, ty, ps, af, gd⟩ τ = some true)
    (hb : (Nat.ble (d + 1) n && lookB D (rdL τ op) && (rdL τ op).all (fun l => Nat.ble (l + 1) L)) = true)
    (k : R P ops Q (lookD D (rdL τ op)) E n L ((d, .raw (.int k0 x)) :: τ) h F rest) : R P ops Q D E n L τ h F (⟨some d, op, ty, ps, af, gd⟩ :: rest) :=
  R.s htt (by rw [ha, hx]) hg hb k
theorem R.v (htt : TTok P tt) {v : Value} (u : Value) (ha : act tt (fun l => hk l h) (evA τ) op = some (.raw v)) (hx : v = u) (hg : wantA ops ⟨some d, op, ty, ps, af, gd⟩ τ = some true)
    (hb : (Nat.ble (d + 1) n && lookB D (rdL τ op) && (rdL τ op).all (fun l => Nat.ble (l + 1) L)) = true)
    (k : R P ops Q (lookD D (rdL τ op)) E n L ((d, .raw u) :: τ) h F rest) : R P ops Q D E n L τ h F (⟨some d, op, ty, ps, af, gd⟩ :: rest) :=
  R.s htt (by rw [ha, hx]) hg hb k
theorem R.k {op : Op} (hg : wantA ops ⟨some d, op, ty, ps, af, gd⟩ τ = some false) (hd : Nat.ble (d + 1) n = true) (k : R P ops Q (skipD h D) E n L ((d, .raw undef) :: τ) h F rest) : R P ops Q D E n L τ h F (⟨some d, op, ty, ps, af, gd⟩ :: rest) :=
  ⟨RL.skip hg hd k.out⟩
theorem R.k0 {op : Op} (hg : wantA ops ⟨none, op, ty, ps, af, gd⟩ τ = some false) (k : R P ops Q (skipD h D) E n L τ h F rest) : R P ops Q D E n L τ h F (⟨none, op, ty, ps, af, gd⟩ :: rest) :=
  ⟨RL.skip hg rfl k.out⟩
theorem R.a (htt : TTok P tt) {t : TypeId} {ti : TI} (ht : lk t tt = some ti) (hg : wantA ops ⟨some d, .alloc t, ty, ps, af, gd⟩ τ = some true) (hb : (Nat.ble (d + 1) n && chainB h D []) = true)
    (k : R P ops Q (actD h D []) E n (L + 1) ((d, .ptr L 0 0 0) :: τ) ((L, .cells (ti.zero.map .raw) t) :: h) F rest) : R P ops Q D E n L τ h F (⟨some d, .alloc t, ty, ps, af, gd⟩ :: rest) := by
  simp only [Bool.and_eq_true] at hb
  exact ⟨RL.alloc htt t ti rfl ht hg hb.1 hb.2 k.out⟩
theorem R.b {t : TypeId} {x : Operand} {v : AV} {xs : List AV} (hx : evA τ x = some v) (hc : v.cellsA = some xs) (hg : wantA ops ⟨some d, .box t x, ty, ps, af, gd⟩ τ = some true) (hb : (Nat.ble (d + 1) n && chainB h D []) = true)
    (k : R P ops Q (actD h D []) E n (L + 1) ((d, .ptr L 0 0 0) :: τ) ((L, .cells xs t) :: h) F rest) : R P ops Q D E n L τ h F (⟨some d, .box t x, ty, ps, af, gd⟩ :: rest) := by
  simp only [Bool.and_eq_true] at hb
  exact ⟨RL.box t x v xs rfl hx hc hg hb.1 hb.2 k.out⟩
/-- a cell alone turned, others laid anew: put together at once -/
def spl1 (xs : List AV) (k : Nat) (ys : List AV) : List AV := match xs, k, ys with
  | xs, _, [] => xs
  | [], _, _ => []
  | _ :: xs, 0, y :: ys => y :: spl1 xs 0 ys
  | x :: xs, k + 1, ys => x :: spl1 xs k ys
theorem spl1_eq : ∀ (xs : List AV) (k : Nat) (ys : List AV), k + ys.length ≤ xs.length → spl1 xs k ys = spl xs k ys
  | [], k, [], _ => by simp [spl1, spl]
  | x :: xs, 0, [], _ => by simp [spl1, spl]
  | x :: xs, k + 1, [], _ => by simp [spl1, spl]
  | [], k, y :: ys, h => by simp at h
  | x :: xs, 0, y :: ys, h => by
    have := spl1_eq xs 0 ys (by simp at h; omega)
    simp only [spl1, this, spl]
    simp
  | x :: xs, k + 1, y :: ys, h => by
    have := spl1_eq xs k (y :: ys) (by simp at h ⊢; omega)
    simp only [spl1, this, spl]
    rw [show k + 1 + (y :: ys).length = k + (y :: ys).length + 1 by omega, List.drop_succ_cons]
    simp
theorem R.st (htt : TTok P tt) {t : TypeId} {x y : Operand} {l w0 i c : Nat} {v : AV} {ti : TI} {ys xs zs : List AV} {T : TypeId} (hx : evA τ x = some (.ptr l w0 i c)) (hy : evA τ y = some v) (ht : lk t tt = some ti) (hc : v.cellsA = some ys)
    (hl : hk l h = some (.cells xs T)) (hz : spl1 xs (i * w0 + c) ys = zs) (hg : wantA ops ⟨none, .store t x y, ty, ps, af, gd⟩ τ = some true) (hb : (Nat.beq ys.length ti.size && Nat.ble (i * w0 + c + ys.length) xs.length && ys.all AV.oneB && chainB h D [l]) = true)
    (k : R P ops Q (actD h D [l]) E n L τ ((l, .cells zs T) :: h) F rest) : R P ops Q D E n L τ h F (⟨none, .store t x y, ty, ps, af, gd⟩ :: rest) := by
  simp only [Bool.and_eq_true] at hb
  obtain ⟨⟨⟨h1, h2⟩, h3⟩, h4⟩ := hb
  have hfit : i * w0 + c + ys.length ≤ xs.length := by simpa [Nat.ble_eq] using h2
  rw [spl1_eq _ _ _ hfit] at hz
  subst hz
  exact ⟨RL.store htt t x y l w0 i c v ti ys xs T rfl hx hy ht hc hl (Nat.eq_of_beq_eq_true h1) h2 h3 hg rfl h4 k.out⟩
end
end Go.Proofs.YtaieficgifingaaGreatDoor
namespace Go.Proofs.YtaieficgifingaaGreatDoor
set_option linter.unusedVariables false
set_option linter.unusedSimpArgs false
set_option linter.unusedSectionVars false
open Go.RowKit
/-- a callee's labels in the caller's: those that came in, then new ones from L on -/
def renF (ms : List Nat) (L : Nat) (i : Nat) : Nat := match ms[i]? with
  | some m => m
  | none => L + (i - ms.length)
def renH (r : Nat → Nat) : List (Nat × AO) → List (Nat × AO)
  | [] => []
  | (l, o) :: rest => (r l, o.ren r) :: renH r rest
/-- labels that a call may write: gone, unless they are told anew -/
def goneL : List AO → List Nat → List (Nat × AO)
  | o :: os, m :: ms => match o.isRo with
    | true => goneL os ms
    | false => (m, .gone) :: goneL os ms
  | _, _ => []
/-- what may be written comes in once -/
def onceB (h0 : List AO) (ms : List Nat) : Bool := (List.range h0.length).all fun i => match h0[i]? with
  | some o => o.isRo || (List.range h0.length).all fun j => Nat.beq i j || !Nat.beq (ms.getD i 0) (ms.getD j 0)
  | none => true
theorem ren_isRo (r : Nat → Nat) (o : AO) : (o.ren r).isRo = o.isRo := by cases o <;> rfl
theorem hk_append (l : Nat) (a b : List (Nat × AO)) : hk l (a ++ b) = if l ∈ a.map (·.1) then hk l a else hk l b := by
  induction a with
  | nil => simp
  | cons p a ih =>
    obtain ⟨s, o⟩ := p
    simp only [List.cons_append, hk_cons, List.map_cons, List.mem_cons]
    by_cases h : s = l
    · simp [h]
    · have h' : ¬ l = s := fun e => h e.symm
      rw [if_neg h, if_neg h, ih]
      by_cases hm : l ∈ a.map (·.1)
      · rw [if_pos hm, if_pos (.inr hm)]
      · rw [if_neg hm, if_neg (fun e => e.elim h' hm)]
theorem hk_renH {r : Nat → Nat} {post : List (Nat × AO)} (hinj : ∀ i j, i ∈ post.map (·.1) → j ∈ post.map (·.1) → r i = r j → i = j) (i : Nat) (hi : i ∈ post.map (·.1)) : hk (r i) (renH r post) = (hk i post).map (AO.ren r) := by
  induction post with
  | nil => simp at hi
  | cons p a ih =>
    obtain ⟨s, u⟩ := p
    simp only [renH, hk_cons]
    by_cases h : s = i
    · subst h
      simp only [if_true]
      cases u <;> rfl
    · have hne : ¬ r s = r i := fun e => h (hinj s i (by simp) hi e)
      rw [if_neg hne, if_neg h]
      refine ih (fun i j hi hj => hinj i j (by simp only [List.map_cons, List.mem_cons]; exact .inr hi) (by simp only [List.map_cons, List.mem_cons]; exact .inr hj)) ?_
      simp only [List.map_cons, List.mem_cons] at hi
      exact hi.resolve_left (Ne.symm h)
theorem renH_mem {r : Nat → Nat} {post : List (Nat × AO)} {l : Nat} : l ∈ (renH r post).map (·.1) ↔ ∃ i, i ∈ post.map (·.1) ∧ r i = l := by
  induction post with
  | nil => simp [renH]
  | cons p a ih =>
    obtain ⟨s, u⟩ := p
    simp only [renH, List.map_cons, List.mem_cons, ih]
    constructor
    · rintro (h | ⟨i, h1, h2⟩)
      · exact ⟨s, .inl rfl, h.symm⟩
      · exact ⟨i, .inr h1, h2⟩
    · rintro ⟨i, h1 | h1, h2⟩
      · subst h1; exact .inl h2.symm
      · exact .inr ⟨i, h1, h2⟩
theorem goneL_mem {l : Nat} : ∀ {h0 : List AO} {ms : List Nat}, h0.length = ms.length → (l ∈ (goneL h0 ms).map (·.1) ↔ ∃ (i : Nat) (o : AO), h0[i]? = some o ∧ o.isRo = false ∧ ms[i]? = some l)
  | [], [], _ => by simp [goneL]
  | o :: os, m :: ms, h => by
    have ih := goneL_mem (l := l) (h0 := os) (ms := ms) (by simpa using h)
    simp only [goneL]
    cases hr : o.isRo
    · simp only [List.map_cons, List.mem_cons, ih]
      constructor
      · rintro (h | ⟨i, u, h1, h2, h3⟩)
        · exact ⟨0, o, rfl, hr, by simp [h]⟩
        · exact ⟨i + 1, u, h1, h2, h3⟩
      · rintro ⟨i, u, h1, h2, h3⟩
        cases i with
        | zero => left; simpa using h3.symm
        | succ i => right; exact ⟨i, u, h1, h2, h3⟩
    · simp only [ih]
      constructor
      · rintro ⟨i, u, h1, h2, h3⟩; exact ⟨i + 1, u, h1, h2, h3⟩
      · rintro ⟨i, u, h1, h2, h3⟩
        cases i with
        | zero => simp only [List.getElem?_cons_zero, Option.some.injEq] at h1; subst h1; rw [hr] at h2; cases h2
        | succ i => exact ⟨i, u, h1, h2, h3⟩
theorem goneL_none {l : Nat} : ∀ {h0 : List AO} {ms : List Nat}, hk l (goneL h0 ms) = none
  | [], [] => rfl
  | [], _ :: _ => rfl
  | _ :: _, [] => rfl
  | o :: os, m :: ms => by
    simp only [goneL]
    cases o.isRo
    · rw [hk_cons]
      split
      · rfl
      · exact goneL_none
    · exact goneL_none
/-- what is asked of a call: what comes in lies there -/
def HasIn (r : Nat → Nat) (h : List (Nat × AO)) : Nat → List AO → Prop
  | _, [] => True
  | i, o :: os => (∃ o', hk (r i) h = some o' ∧ (o.isRo = false → o'.isRo = false) ∧ ∀ ρ x w, o'.holds ρ x w → (o.ren r).holds ρ x w) ∧ HasIn r h (i + 1) os
theorem hasIn_get {r : Nat → Nat} {h : List (Nat × AO)} : ∀ {os : List AO} {i : Nat}, HasIn r h i os → ∀ (j : Nat) (o : AO), os[j]? = some o → ∃ o', hk (r (i + j)) h = some o' ∧ (o.isRo = false → o'.isRo = false) ∧ ∀ ρ x w, o'.holds ρ x w → (o.ren r).holds ρ x w
  | [], _, _, j, o, hj => by simp at hj
  | u :: os, i, hh, 0, o, hj => by simp only [List.getElem?_cons_zero, Option.some.injEq] at hj; subst hj; exact hh.1
  | u :: os, i, hh, j + 1, o, hj => by
    have := hasIn_get hh.2 j o (by simpa using hj)
    rwa [show i + 1 + j = i + (j + 1) by omega] at this
section
variable {E : Base} {ρ : Env} {n L : Nat} {τ : List (Nat × AV)} {h : List (Nat × AO)} {F : World → Prop} {a : Act} {w : World}
/-- what a call comes to, in the caller's telling -/
theorem Gam.calledR {σ : Type} (g : Gam E ρ n L τ h F a w) {h0 : List AO} {ms : List Nat} {m : Nat} {val : σ → AV} {post : σ → List (Nat × AO)} (hlen : h0.length = ms.length) (hm : h0.length ≤ m) (hin : HasIn (renF ms L) h 0 h0) (honce : onceB h0 ms = true)
    (hnd : ∀ s, nodupB (((post s).map (·.1)).map (renF ms L)) = true) {w' : World} {s : σ} {ρc : Env} (hpost : ∀ l ∈ (post s).map (·.1), l < m)
    (hk0 : ∀ i, i < h0.length → ρc i = ρ (renF ms L i)) (hlow : (val s).Low ρc m) (hag : Ag (fun b => ¬ Wr0 h0 (fun i => ρ (renF ms L i)) b) w w')
    (hhp : ∀ l o, hk l (post s) = some o → l < m ∧ o.Low ρc m ∧ o.holds ρc (ρc l) w') (hdis : ∀ l l' b, wrA l (post s) → hk l' (post s) ≠ none → ρc l = some b → ρc l' = some b → l = l')
    (hal : ∀ l b, l < m → ρc l = some b → b < w'.heap.size) (hnew : ∀ l b, h0.length ≤ l → hk l (post s) ≠ none → ρc l = some b → w.heap.size ≤ b ∨ Wr0 h0 (fun i => ρ (renF ms L i)) b) (hold : ∀ i o, i < h0.length → hk i (post s) = some o → o.isRo = false → ∃ o0, h0[i]? = some o0 ∧ o0.isRo = false) :
    ∃ ρ', (∀ i, i < m → ρ' (renF ms L i) = ρc i) ∧ ((val s).ren (renF ms L)).conc ρ' = (val s).conc ρc ∧ Next1 E n L (L + (m - h0.length)) τ h (renH (renF ms L) (post s) ++ (goneL h0 ms ++ h)) F ((goneL h0 ms).map (·.1)) ρ a w ρ' ((val s).ren (renF ms L)) w' := by
  have hmsL : ∀ (i : Nat) (mi : Nat), ms[i]? = some mi → mi < L := fun i mi hi => by
    have hlt : i < h0.length := by rw [hlen]; exact (List.getElem?_eq_some_iff.1 hi).1
    obtain ⟨o, ho⟩ : ∃ o, h0[i]? = some o := ⟨_, List.getElem?_eq_getElem hlt⟩
    obtain ⟨o', h1, _⟩ := hasIn_get hin i o ho
    rw [Nat.zero_add] at h1
    have : renF ms L i = mi := by unfold renF; rw [hi]
    rw [this] at h1
    exact (g.hp _ _ h1).1
  have rlow : ∀ i, i < h0.length → renF ms L i < L := fun i hi => by
    have : i < ms.length := by omega
    have e : renF ms L i = ms[i] := by unfold renF; rw [List.getElem?_eq_getElem this]
    rw [e]; exact hmsL i _ (List.getElem?_eq_getElem this)
  have rhigh : ∀ i, h0.length ≤ i → renF ms L i = L + (i - h0.length) := fun i hi => by
    unfold renF; rw [List.getElem?_eq_none (by omega), hlen]
  let ρ' : Env := fun l => if l < L then ρ l else ρc (h0.length + (l - L))
  have hs : ∀ l, l < L → ρ' l = ρ l := fun l hl => by simp only [ρ', hl, if_true]
  have hcomp : ∀ i, i < m → ρ' (renF ms L i) = ρc i := fun i _ => by
    rcases Nat.lt_or_ge i h0.length with hi | hi
    · rw [hs _ (rlow i hi), hk0 i hi]
    · rw [rhigh i hi]
      have h1 : ¬ L + (i - h0.length) < L := by omega
      have h2 : h0.length + (L + (i - h0.length) - L) = i := by omega
      simp only [ρ', h1, if_false, h2]
  have hrm : ∀ i, i < m → renF ms L i < L + (m - h0.length) := fun i hi => by
    rcases Nat.lt_or_ge i h0.length with h1 | h1
    · exact Nat.lt_of_lt_of_le (rlow i h1) (Nat.le_add_right _ _)
    · rw [rhigh i h1]; omega
  have hval : ((val s).ren (renF ms L)).conc ρ' = (val s).conc ρc := by
    rw [ren_conc]; exact hlow _ hcomp
  -- writable blocks that came in are the caller's
  have hwr : ∀ b, Wr0 h0 (fun i => ρ (renF ms L i)) b → ∃ i o, h0[i]? = some o ∧ o.isRo = false ∧ ms[i]? = some (renF ms L i) ∧ wrA (renF ms L i) h ∧ ρ (renF ms L i) = some b := fun b ⟨i, o, h1, h2, h3⟩ => by
    obtain ⟨o', h4, h5, _⟩ := hasIn_get hin i o h1
    rw [Nat.zero_add] at h4
    have hlt : i < ms.length := by rw [← hlen]; exact (List.getElem?_eq_some_iff.1 h1).1
    refine ⟨i, o, h1, h2, ?_, ⟨o', h4, h5 h2⟩, h3⟩
    unfold renF; rw [List.getElem?_eq_getElem hlt]
  have hgone : ∀ l, l ∉ (goneL h0 ms).map (·.1) → hk l h ≠ none → ∀ b, ρ l = some b → ¬ Wr0 h0 (fun i => ρ (renF ms L i)) b := fun l hl hlive b hb hw => by
    obtain ⟨i, o, h1, h2, h3, h4, h5⟩ := hwr b hw
    have := g.dis _ _ b h4 hlive h5 hb
    exact hl ((goneL_mem hlen).2 ⟨i, o, h1, h2, this ▸ h3⟩)
  have hold' : ∀ l b, hk l h ≠ none → ρ l = some b → l ∉ (goneL h0 ms).map (·.1) → w.heap[b]? = w'.heap[b]? := fun l b hl hb hn => (hag.block b (g.lt hl hb) (hgone l hn hl b hb)).symm
  have hinj := nodupB_inj (hnd s)
  let h' := renH (renF ms L) (post s) ++ (goneL h0 ms ++ h)
  have hcase : ∀ l o, hk l h' = some o → (∃ i oi, hk i (post s) = some oi ∧ renF ms L i = l ∧ o = oi.ren (renF ms L) ∧ i < m) ∨ (l ∉ (goneL h0 ms).map (·.1) ∧ hk l h = some o) := fun l o ho => by
    simp only [h', hk_append] at ho
    split at ho
    · rename_i hm
      obtain ⟨i, hi, rfl⟩ := renH_mem.1 hm
      rw [hk_renH hinj i hi] at ho
      cases hx : hk i (post s) with
      | none => rw [hx] at ho; cases ho
      | some oi =>
        rw [hx] at ho
        simp only [Option.map_some, Option.some.injEq] at ho
        exact .inl ⟨i, oi, hx, rfl, ho.symm, hpost i hi⟩
    · split at ho
      · rw [goneL_none] at ho; cases ho
      · rename_i hn; exact .inr ⟨hn, ho⟩
  -- a block of a label that is told anew
  have hblk : ∀ i oi b, hk i (post s) = some oi → i < m → oi.isRo = false ∨ h0.length ≤ i → ρc i = some b → w.heap.size ≤ b ∨ Wr0 h0 (fun i => ρ (renF ms L i)) b := fun i oi b hx hi hro hb => by
    rcases Nat.lt_or_ge i h0.length with h1 | h1
    · rcases hro with hro | hro
      · obtain ⟨o0, h2, h3⟩ := hold i oi h1 hx hro
        exact .inr ⟨i, o0, h2, h3, (hk0 i h1).symm.trans hb⟩
      · omega
    · exact hnew i b h1 (by rw [hx]; simp) hb
  refine ⟨ρ', hcomp, hval, ?_, hs, ?_, hold'⟩
  · intro ρ2 h2
    rw [ren_conc, ren_conc]
    exact (hlow.ext (ρ1 := fun l => ρ' (renF ms L l)) hcomp) _ (fun l hl => h2 _ (hrm l hl))
  · refine g.turn hs (Nat.le_add_right _ _) (hag.mono fun b hb hd hw => ?_) (fun l o ho => ?_) (fun l l' b hl hl' hb hb' => ?_) (fun l b hl hb => ?_) (fun l b h1 h2 hb => ?_)
    · obtain ⟨i, o, h1, h2, h3, h4, h5⟩ := hwr b hw
      exact hd _ h4 h5
    · rcases hcase l o ho with ⟨i, oi, h1, rfl, rfl, hi⟩ | ⟨h1, h2⟩
      · have := hhp i oi h1
        have hlw : oi.Low (fun l => ρ' (renF ms L l)) m := this.2.1.ext hcomp
        refine ⟨hrm i hi, fun ρ2 h2 r x => ?_, ?_⟩
        · rw [ren_holds, ren_holds]
          exact hlw (fun l => ρ2 (renF ms L l)) (fun l hl => h2 _ (hrm l hl)) r x
        · rw [ren_holds, hcomp i hi]
          exact (this.2.1 _ hcomp _ _).1 this.2.2
      · have hh := g.hp l o h2
        refine ⟨Nat.lt_of_lt_of_le hh.1 (Nat.le_add_right _ _), (hh.2.1.ext hs).mono (Nat.le_add_right _ _), ?_⟩
        rw [hs l hh.1]
        exact holds_same ((hh.2.1 _ hs _ _).1 hh.2.2) fun b hb => (hold' l b (by rw [h2]; simp) hb h1).symm
    · obtain ⟨o, ho, hro⟩ := hl
      obtain ⟨o2, ho2⟩ : ∃ o2, hk l' h' = some o2 := by
        cases hx : hk l' h' with
        | none => exact absurd hx hl'
        | some o2 => exact ⟨o2, rfl⟩
      rcases hcase l o ho with ⟨i, oi, h1, rfl, rfl, hi⟩ | ⟨h1, h2⟩
      · rw [ren_isRo] at hro
        rw [hcomp i hi] at hb
        rcases hcase l' o2 ho2 with ⟨j, oj, h3, rfl, rfl, hj⟩ | ⟨h3, h4⟩
        · rw [hcomp j hj] at hb'
          rw [hdis i j b ⟨oi, h1, hro⟩ (by rw [h3]; simp) hb hb']
        · exfalso
          have hl'L := (g.hp l' o2 h4).1
          rw [hs l' hl'L] at hb'
          rcases hblk i oi b h1 hi (.inl hro) hb with h5 | h5
          · have := g.lt (by rw [h4]; simp) hb'; omega
          · exact hgone l' h3 (by rw [h4]; simp) b hb' h5
      · have hlL := (g.hp l o h2).1
        rw [hs l hlL] at hb
        rcases hcase l' o2 ho2 with ⟨j, oj, h3, rfl, rfl, hj⟩ | ⟨h3, h4⟩
        · rw [hcomp j hj] at hb'
          rcases Nat.lt_or_ge j h0.length with hjk | hjk
          · have hj2 : ρ (renF ms L j) = some b := (hk0 j hjk).symm.trans hb'
            obtain ⟨oj0, ho0⟩ : ∃ o, h0[j]? = some o := ⟨_, List.getElem?_eq_getElem hjk⟩
            obtain ⟨oh, h5, _⟩ := hasIn_get hin j oj0 ho0
            rw [Nat.zero_add] at h5
            exact g.dis l _ b ⟨o, h2, hro⟩ (by rw [h5]; simp) hb hj2
          · exfalso
            rcases hnew j b hjk (by rw [h3]; simp) hb' with h5 | h5
            · have := g.lt (by rw [h2]; simp) hb; omega
            · exact hgone l h1 (by rw [h2]; simp) b hb h5
        · rw [hs l' (g.hp l' o2 h4).1] at hb'
          exact g.dis l l' b ⟨o, h2, hro⟩ (by rw [h4]; simp) hb hb'
    · obtain ⟨o, ho, hro⟩ := hl
      rcases hcase l o ho with ⟨i, oi, h1, rfl, rfl, hi⟩ | ⟨h1, h2⟩
      · rw [ren_isRo] at hro
        rw [hcomp i hi] at hb
        refine (hblk i oi b h1 hi (.inl hro) hb).imp id fun hw => ?_
        obtain ⟨i', o', _, _, _, h4, h5⟩ := hwr b hw
        exact ⟨_, h4, h5⟩
      · rw [hs l (g.hp l o h2).1] at hb
        exact .inr ⟨l, ⟨o, h2, hro⟩, hb⟩
    · have h3 : ¬ l < L := by omega
      simp only [ρ', h3, if_false] at hb
      exact hal _ b (by omega) hb
theorem Gam.called {σ : Type} (g : Gam E ρ n L τ h F a w) {h0 : List AO} {ms : List Nat} {m : Nat} {G : σ → Prop} {val : σ → AV} {post : σ → List (Nat × AO)} (hlen : h0.length = ms.length) (hm : h0.length ≤ m) (hin : HasIn (renF ms L) h 0 h0) (honce : onceB h0 ms = true)
    (hpost : ∀ s, G s → ∀ l ∈ (post s).map (·.1), l < m) (hnd : ∀ s, nodupB (((post s).map (·.1)).map (renF ms L)) = true)
    {e : Ending} {w' : World} (ho : Outc h0 m (fun i => ρ (renF ms L i)) w G val post e w') :
    ∃ s ρ', G s ∧ e = .returned (((val s).ren (renF ms L)).conc ρ') ∧ Next1 E n L (L + (m - h0.length)) τ h (renH (renF ms L) (post s) ++ (goneL h0 ms ++ h)) F ((goneL h0 ms).map (·.1)) ρ a w ρ' ((val s).ren (renF ms L)) w' := by
  obtain ⟨s, ρc, hG, hk0, he, hlow, hag, hhp, hdis, hal, hnew, hold⟩ := ho
  obtain ⟨ρ', _, h2, h3⟩ := g.calledR (val := val) (post := post) (s := s) (ρc := ρc) hlen hm hin honce hnd (hpost s hG) hk0 hlow hag hhp hdis hal hnew hold
  exact ⟨s, ρ', hG, by rw [h2]; exact he, h3⟩
end
section
variable {P : Program} {ops : Array Oper} {Q : Exit → Act → World → Prop} {D : Option DD} {E : Base} {n L : Nat} {τ : List (Nat × AV)} {h : List (Nat × AO)} {F : World → Prop} {rest : List Oper}
  {d : Nat} {op : Op} {ty : TypeId} {ps : String} {af : Array Edge} {gd : Option (Nat × Bool)} {tt : List (Nat × TI)}
/-- a contract: a function called so, where such things lie, comes to this -/
def Spec (P : Program) (f : FuncId) (avs : List AV) (h0 : List AO) (m : Nat) {σ : Type} (G : σ → Prop) (val : σ → AV) (post : σ → List (Nat × AO)) : Prop :=
  ∀ (ρ : Env) (w : World), (∀ (i : Nat) (o : AO), h0[i]? = some o → o.holds ρ (ρ i) w) → (∀ i j o b, h0[i]? = some o → o.isRo = false → j < h0.length → ρ i = some b → ρ j = some b → i = j) → (∀ i b, i < h0.length → ρ i = some b → b < w.heap.size) →
    Calls P f (AV.concs ρ avs).toArray w (Outc h0 m ρ w G val post)
theorem goes_call {P : Program} {o : Oper} {a : Act} {w : World} {f : FuncId} {xs : Array Operand} {ats : Array TypeId} {R : Value → World → Prop} (ho : o.op = .call { callee := .value (.func f), args := xs, argTypes := ats }) (eg : ∀ args w, (callFunc f args).run P w = .ok (.enter f args) w)
    (hc : Calls P f (xs.map a.eval) w fun e w' => ∃ v, e = .returned v ∧ R v w') : goes P o a w R := by
  unfold goes execOp
  simp only [ho, resolve, invoke, Act.eval, Deferred.ofValue, Sem.run_bind, Sem.run_pure, Result.andThen_ok, Array.append_empty, Array.empty_append]
  rw [eg]
  exact hc
/-- a call of a function -/
theorem R.c {σ : Type} {G : σ → Prop} {val : σ → AV} {post : σ → List (Nat × AO)} {f : FuncId} {xs : Array Operand} {ats : Array TypeId} {avs : List AV} {h0 : List AO} {m : Nat} (ms : List Nat) (sp : Spec P f avs h0 m G val post) (eg : ∀ args w, (callFunc f args).run P w = .ok (.enter f args) w)
    (hx : evList (evA τ) xs.toList = some (AV.rens (renF ms L) avs)) (hin : HasIn (renF ms L) h 0 h0) (hm : Nat.ble h0.length m = true) (hpost : ∀ s, ∀ l ∈ (post s).map (·.1), l < m) (hnd : ∀ s, nodupB (((post s).map (·.1)).map (renF ms L)) = true)
    (hg : wantA ops ⟨some d, .call { callee := .value (.func f), args := xs, argTypes := ats }, ty, ps, af, gd⟩ τ = some true) (hb : (Nat.ble (d + 1) n && Nat.beq h0.length ms.length && onceB h0 ms && chainB h D ((goneL h0 ms).map (·.1))) = true)
    (k : ∀ s, G s → R P ops Q (actD h D ((goneL h0 ms).map (·.1))) E n (L + (m - h0.length)) ((d, (val s).ren (renF ms L)) :: τ) (renH (renF ms L) (post s) ++ (goneL h0 ms ++ h)) F rest) :
    R P ops Q D E n L τ h F (⟨some d, .call { callee := .value (.func f), args := xs, argTypes := ats }, ty, ps, af, gd⟩ :: rest) := by
  simp only [Bool.and_eq_true] at hb
  obtain ⟨⟨⟨h1, h2⟩, h3⟩, h4⟩ := hb
  have hlen : h0.length = ms.length := Nat.eq_of_beq_eq_true h2
  have hm' : h0.length ≤ m := by simpa [Nat.ble_eq] using hm
  refine ⟨RL.acts G (fun s => (val s).ren (renF ms L)) (fun _ => L + (m - h0.length)) (fun s => renH (renF ms L) (post s) ++ (goneL h0 ms ++ h)) (fun _ => F) ((goneL h0 ms).map (·.1)) hg h1 h4 (fun _ _ => Nat.le_add_right _ _) (fun ρ a w g => ?_) (fun s hs => (k s hs).out)⟩
  refine goes_call rfl eg ?_
  have hargs : xs.map a.eval = (AV.concs (fun i => ρ (renF ms L i)) avs).toArray := by
    have := evList_conc (evB g) _ _ hx
    rw [rens_conc] at this
    apply Array.ext'
    simpa using this
  rw [hargs]
  have hget := hasIn_get hin
  simp only [Nat.zero_add] at hget
  have rlow : ∀ i, i < h0.length → renF ms L i < L := fun i hi => by
    obtain ⟨o, ho⟩ : ∃ o, h0[i]? = some o := ⟨_, List.getElem?_eq_getElem hi⟩
    obtain ⟨o', h5, _⟩ := hget i o ho
    exact (g.hp _ _ h5).1
  refine (sp (fun i => ρ (renF ms L i)) w (fun i o ho => ?_) (fun i j o b ho hro hj hbi hbj => ?_) (fun i b hi hbi => g.al _ b (rlow i hi) hbi)).mono fun e w' ho => ?_
  · obtain ⟨o', h5, h6, h7⟩ := hget i o ho
    exact (ren_holds _ _ _ _ _).1 (h7 _ _ _ (g.hp _ _ h5).2.2)
  · obtain ⟨o', h5, h6, _⟩ := hget i o ho
    obtain ⟨oj, hoj⟩ : ∃ o, h0[j]? = some o := ⟨_, List.getElem?_eq_getElem hj⟩
    obtain ⟨oj', h8, _⟩ := hget j oj hoj
    have he := g.dis _ _ b ⟨o', h5, h6 hro⟩ (by rw [h8]; simp) hbi hbj
    have hi : i < h0.length := (List.getElem?_eq_some_iff.1 ho).1
    have h9 := List.all_eq_true.1 h3 i (List.mem_range.2 hi)
    rw [ho] at h9
    simp only [hro, Bool.false_or] at h9
    have h10 := List.all_eq_true.1 h9 j (List.mem_range.2 hj)
    simp only [Bool.or_eq_true, Bool.not_eq_true'] at h10
    rcases h10 with h10 | h10
    · exact Nat.eq_of_beq_eq_true h10
    · exfalso
      have e1 : ∀ x, x < h0.length → renF ms L x = ms.getD x 0 := fun x hx => by
        have hx' : x < ms.length := by omega
        unfold renF
        rw [List.getD_eq_getElem?_getD, List.getElem?_eq_getElem hx']; rfl
      rw [← e1 i hi, ← e1 j hj, he, Nat.beq_refl] at h10; cases h10
  · obtain ⟨s, ρ', hG, he, hN⟩ := g.called hlen hm' hin h3 (fun s _ => hpost s) hnd ho
    exact ⟨_, he, s, ρ', hG, rfl, hN⟩
end
end Go.Proofs.YtaieficgifingaaGreatDoor
namespace Go.Proofs.YtaieficgifingaaGreatDoor
set_option linter.unusedVariables false
set_option linter.unusedSimpArgs false
set_option linter.unusedSectionVars false
open Go.RowKit
section
variable {P : Program} {ops : Array Oper} {Q : Exit → Act → World → Prop} {D : Option DD} {E : Base} {n L : Nat} {τ : List (Nat × AV)} {h : List (Nat × AO)} {F : World → Prop} {rest : List Oper}
  {d : Nat} {op : Op} {ty : TypeId} {ps : String} {af : Array Edge} {gd : Option (Nat × Bool)} {tt : List (Nat × TI)}
/-- what gives a value of its operands alone -/
theorem R.pure {op : Op} (v : AV) (hv : ∀ ρ a w, Gam E ρ n L τ h F a w → v.Low ρ L ∧ ∀ x : World, (execOp a.eval ⟨some d, op, ty, ps, af, gd⟩).run P x = .ok (.value (v.conc ρ)) x)
    (hg : wantA ops ⟨some d, op, ty, ps, af, gd⟩ τ = some true) (hb : (Nat.ble (d + 1) n && lookB D []) = true) (k : R P ops Q (lookD D []) E n L ((d, v) :: τ) h F rest) : R P ops Q D E n L τ h F (⟨some d, op, ty, ps, af, gd⟩ :: rest) := by
  simp only [Bool.and_eq_true] at hb
  exact ⟨RL.looks [] hg hb.1 hb.2 (fun l hl => by cases hl) v (fun ρ a w g => ⟨(hv ρ a w g).1, fun l hl => (by cases hl), fun x _ => (hv ρ a w g).2 x⟩) k.out⟩
theorem R.looks {op : Op} (l : Nat) (v : AV) (hv : ∀ ρ a w, Gam E ρ n L τ h F a w → v.Low ρ L ∧ ρ l ≠ none ∧ ∀ x : World, (∀ b, ρ l = some b → x.heap[b]? = w.heap[b]?) → (execOp a.eval ⟨some d, op, ty, ps, af, gd⟩).run P x = .ok (.value (v.conc ρ)) x)
    (hg : wantA ops ⟨some d, op, ty, ps, af, gd⟩ τ = some true) (hb : (Nat.ble (d + 1) n && lookB D [l] && Nat.ble (l + 1) L) = true) (k : R P ops Q (lookD D [l]) E n L ((d, v) :: τ) h F rest) : R P ops Q D E n L τ h F (⟨some d, op, ty, ps, af, gd⟩ :: rest) := by
  simp only [Bool.and_eq_true] at hb
  have hl : l + 1 ≤ L := by simpa [Nat.ble_eq] using hb.2
  exact ⟨RL.looks [l] hg hb.1.1 hb.1.2 (fun l' hl' => by simp at hl'; omega) v (fun ρ a w g => by
    obtain ⟨h1, h2, h3⟩ := hv ρ a w g
    exact ⟨h1, fun l' hl' => by simp at hl'; subst hl'; exact h2, fun x hx => h3 x fun b hb => hx l (by simp) b hb⟩) k.out⟩
/-- is there a block behind a place? -/
def hasAt (h : List (Nat × AO)) (l i : Nat) : Prop := match hk l h with
  | some (.cells _ _) => True
  | some (.bytes p _ _) => i < p.length
  | some (.tab _ m _ _ _) => i < m
  | some (.ro _ off m _) => off ≤ i ∧ i < off + m
  | _ => False
theorem Gam.someAt {ρ : Env} {a : Act} {w : World} (g : Gam E ρ n L τ h F a w) {l i : Nat} (hi : hasAt h l i) : ∃ b, ρ l = some b := by
  unfold hasAt at hi
  split at hi
  · rename_i xs T hl; obtain ⟨b, hr, _⟩ := (g.hp _ _ hl).2.2; exact ⟨b, hr⟩
  · rename_i p c T hl
    have := (g.hp _ _ hl).2.2
    rcases this.2 with ⟨_, hc⟩ | ⟨b, cur, hr, _⟩
    · have := this.1; omega
    · exact ⟨b, hr⟩
  · rename_i wd m c f T hl
    have := (g.hp _ _ hl).2.2
    rcases this.2.2 with ⟨_, hc⟩ | ⟨b, cur, hr, _⟩
    · have := this.1; omega
    · exact ⟨b, hr⟩
  · rename_i wd off m f hl
    rcases (g.hp _ _ hl).2.2 with ⟨_, hc⟩ | ⟨b, cur, ty, fr, hr, _⟩
    · omega
    · exact ⟨b, hr⟩
  · exact hi.elim
/-- &x[j] -/
theorem R.ix (htt : TTok P tt) {t e : TypeId} {x y : Operand} {l w0 off m cap : Nat} {k0 : IntKind} {j : Int} {sz bt : Nat} {z : List Value} (jn : Nat) (hx : evA τ x = some (.sl l w0 off m cap)) (hy : evA τ y = some (.raw (.int k0 j))) (ht : lk t tt = some ⟨sz, bt, .sl e, z⟩) (hs : szA tt e = some w0)
    (hg : wantA ops ⟨some d, .indexAddr t x y, ty, ps, af, gd⟩ τ = some true) (hb : (Nat.ble (d + 1) n && lookB D []) = true) (hj : j = (jn : Int)) (hlt : jn < m) (hne : hasAt h l (off + jn)) (hlL : Nat.ble (l + 1) L = true)
    (k : R P ops Q (lookD D []) E n L ((d, .ptr l w0 (off + jn) 0) :: τ) h F rest) : R P ops Q D E n L τ h F (⟨some d, .indexAddr t x y, ty, ps, af, gd⟩ :: rest) :=
  R.pure _ (fun ρ a w g => by
    obtain ⟨b, hb⟩ := g.someAt hne
    have hlL' : l + 1 ≤ L := by simpa [Nat.ble_eq] using hlL
    refine ⟨fun ρ' he => by simp [AV.conc, he l (by omega)], fun W => ?_⟩
    have hu := und_sl (htt _ _ ht) rfl W
    obtain ⟨te, hte, hsz⟩ := Option.map_eq_some_iff.1 hs
    have hse := (htt _ _ hte).run_size W
    subst hj
    rw [hsz] at hse
    have h1 : (0 : Int) ≤ (jn : Int) ∧ (jn : Int) < (m : Int) := by omega
    have h2 : (jn : Int) < (m : Int) := h1.2
    simp only [execOp, (g.eval x _ hx).2, (g.eval y _ hy).2, AV.conc, hb, Option.map_some, Option.getD_some]
    simp only [Instr.indexAt, asIntOf, Sem.run_bind, Sem.run_pure, Result.andThen_ok, hu]
    rw [if_pos h1]
    simp [hse, addr_add0, Nat.add_mul]) hg hb k
theorem run_load_one {t : TypeId} {ti : TI} (hti : TIok P t ti) (hk : ti.kind.isAgg = false) {W : World} {b o : Nat} {cur : Array Value} {T : TypeId} {fr : Nat × Nat} {v : Value} (hb : W.heap[b]? = some (.cells cur T fr)) (hv : cur[o]? = some v) : (loadVar t ⟨b, o, none⟩).run P W = .ok v W := by
  have e1 := hti.run_isAgg W
  rw [hk] at e1
  have hc : W.cell? ⟨b, o, none⟩ = some v := by rw [cell_of_row W b o cur T fr hb, hv]
  simp [loadVar, e1, hc]
/-- what lies in a list's element -/
theorem tab_cell {ρ : Env} {wd n0 cap : Nat} {f : Nat → List AV} {T : TypeId} {r : Option Nat} {w : World} (hh : (AO.tab wd n0 cap f T).holds ρ r w) {i : Nat} (hi : i < n0) : ∃ b cur, r = some b ∧ w.heap[b]? = some (.cells cur T (0, 0)) ∧ (f i).length = wd ∧ i * wd + wd ≤ cur.size ∧ ∀ c x, (f i)[c]? = some x → cur[i * wd + c]? = some (x.conc ρ) := by
  rcases hh.2.2 with ⟨_, hc⟩ | ⟨b, cur, hr, hbk, hsz, hcur⟩
  · have := hh.1; omega
  · refine ⟨b, cur, hr, hbk, hh.2.1 i hi, ?_, fun c x hx => hcur i c x hi hx⟩
    rw [hsz]
    have := Nat.mul_le_mul_right wd (show i + 1 ≤ cap by have := hh.1; omega)
    rwa [Nat.add_mul, Nat.one_mul] at this
theorem tab_low {ρ : Env} {a : Act} {w : World} (g : Gam E ρ n L τ h F a w) {l wd n0 cap : Nat} {f : Nat → List AV} {T : TypeId} (hl : hk l h = some (.tab wd n0 cap f T)) {i : Nat} (hi : i < n0) : LowS ρ L (f i) := fun x hx ρ' he => by
  have hp := g.hp _ _ hl
  obtain ⟨b, cur, hr, hbk, hlen, hsz, hcur⟩ := tab_cell hp.2.2 hi
  have h2 := (hp.2.1 ρ' he _ _).1 hp.2.2
  obtain ⟨b', cur', hr', hbk', _, _, hcur'⟩ := tab_cell h2 hi
  rw [hr] at hr'
  cases hr'
  rw [hbk] at hbk'
  simp only [Option.some.injEq, Obj.cells.injEq, and_true] at hbk'
  subst hbk'
  obtain ⟨c, hc⟩ := List.getElem?_of_mem hx
  have h3 := hcur c x hc
  have h4 := hcur' c x hc
  rw [h3] at h4
  exact (Option.some.inj h4).symm
theorem run_load_some {t : TypeId} {ti : TI} (hti : TIok P t ti) {W : World} {b o : Nat} {cur : Array Value} {T : TypeId} {fr : Nat × Nat} (hb : W.heap[b]? = some (.cells cur T fr)) (xs : List Value) (hxs : ∀ c v, xs[c]? = some v → cur[o + c]? = some v) (v : Value)
    (hv : if ti.kind.isAgg then xs.length = ti.size ∧ v = .agg xs.toArray else xs[0]? = some v) : (loadVar t ⟨b, o, none⟩).run P W = .ok v W := by
  have e1 := hti.run_isAgg W
  have e2 := hti.run_size W
  cases hk : ti.kind.isAgg <;> rw [hk] at hv e1
  · simp only [Bool.false_eq_true, if_false] at hv
    have hc : W.cell? ⟨b, o, none⟩ = some v := by rw [cell_of_row W b o cur T fr hb]; exact hxs 0 v hv
    simp [loadVar, e1, hc]
  · simp only [if_true] at hv
    obtain ⟨h1, rfl⟩ := hv
    have := run_loadCells_list (P := P) W ⟨b, o, none⟩ xs (fun j u hj => by rw [addr_add0, cell_of_row W b (o + j) cur T fr hb]; exact hxs j u hj)
    rw [h1] at this
    simp [loadVar, e1, e2, this]
/-- a part of an element's cells, as a load gives it -/
def takeA (ti : TI) (xs : List AV) (c : Nat) : Option AV := match ti.kind.isAgg with
  | true => match Nat.ble (c + ti.size) xs.length with
    | true => some (.agg ((xs.drop c).take ti.size))
    | false => none
  | false => xs[c]?
theorem takeA_low {ρ : Env} {ti : TI} {xs : List AV} {c : Nat} {v : AV} (h : takeA ti xs c = some v) (hl : LowS ρ L xs) : v.Low ρ L := by
  unfold takeA at h
  split at h
  · split at h
    · cases h
      intro ρ' he
      simp only [AV.conc]
      rw [concs_low (fun x hx => hl x (List.mem_of_mem_drop (List.mem_of_mem_take hx))) ρ' he]
    · cases h
  · exact hl v (List.mem_of_getElem? h)
theorem takeA_run {ρ : Env} {t : TypeId} {ti : TI} (hti : TIok P t ti) {xs : List AV} {c o : Nat} {v : AV} (h : takeA ti xs c = some v) {W : World} {b : Nat} {cur : Array Value} {T : TypeId} {fr : Nat × Nat} (hb : W.heap[b]? = some (.cells cur T fr)) (hxs : ∀ j x, xs[j]? = some x → cur[o + j]? = some (x.conc ρ)) :
    (loadVar t ⟨b, o + c, none⟩).run P W = .ok (v.conc ρ) W := by
  unfold takeA at h
  split at h
  · rename_i hk
    split at h
    · rename_i hle
      cases h
      have hle' : c + ti.size ≤ xs.length := by simpa [Nat.ble_eq] using hle
      refine run_load_some hti hb (AV.concs ρ (xs.drop c |>.take ti.size)) (fun j u hj => ?_) _ ?_
      · rw [concs_map, List.getElem?_map] at hj
        obtain ⟨x, hx, rfl⟩ := Option.map_eq_some_iff.1 hj
        rw [List.getElem?_take] at hx
        split at hx
        · rw [List.getElem?_drop] at hx
          rw [Nat.add_assoc]; exact hxs _ x hx
        · cases hx
      · rw [hk]
        simp only [if_true]
        exact ⟨by rw [concs_length]; simp; omega, by simp [AV.conc]⟩
    · cases h
  · rename_i hk
    exact run_load_one hti (by simpa using hk) hb (hxs c v h)
/-- an element of a list, or a part of it -/
theorem R.ldt (htt : TTok P tt) {t T : TypeId} {x : Operand} {l wd i c n0 cap : Nat} {f : Nat → List AV} {ti : TI} {v : AV} (hx : evA τ x = some (.ptr l wd i c)) (hl : hk l h = some (.tab wd n0 cap f T)) (ht : lk t tt = some ti) (hv : takeA ti (f i) c = some v)
    (hg : wantA ops ⟨some d, .load t x, ty, ps, af, gd⟩ τ = some true) (hb : (Nat.ble (d + 1) n && lookB D [l] && Nat.ble (l + 1) L) = true) (hi : i < n0)
    (k : R P ops Q (lookD D [l]) E n L ((d, v) :: τ) h F rest) : R P ops Q D E n L τ h F (⟨some d, .load t x, ty, ps, af, gd⟩ :: rest) :=
  R.looks l _ (fun ρ a w g => by
    obtain ⟨b, cur, hr, hbk, hlen, hsz, hcur⟩ := tab_cell (g.hp _ _ hl).2.2 hi
    refine ⟨takeA_low hv (tab_low g hl hi), by rw [hr]; simp, fun W hW => ?_⟩
    simp only [execOp, (g.eval x _ hx).2, AV.conc, hr, Option.getD_some, Instr.loadAt, Instr.sureAddr, Sem.run_bind, Sem.run_pure, Result.andThen_ok]
    rw [takeA_run (htt _ _ ht) hv ((hW b hr).trans hbk) hcur]
    rfl) hg hb k
theorem ro_cell {ρ : Env} {wd off n0 : Nat} {f : Nat → List AV} {r : Option Nat} {w : World} (hh : (AO.ro wd off n0 f).holds ρ r w) {i : Nat} (hi : i < n0) : ∃ b cur T fr, r = some b ∧ w.heap[b]? = some (.cells cur T fr) ∧ ∀ c x, (f i)[c]? = some x → cur[(off + i) * wd + c]? = some (x.conc ρ) := by
  rcases hh with ⟨_, hc⟩ | ⟨b, cur, T, fr, hr, hbk, hcur⟩
  · omega
  · exact ⟨b, cur, T, fr, hr, hbk, fun c x hx => hcur i c x hi hx⟩
theorem ro_low {ρ : Env} {a : Act} {w : World} (g : Gam E ρ n L τ h F a w) {l wd off n0 : Nat} {f : Nat → List AV} (hl : hk l h = some (.ro wd off n0 f)) {i : Nat} (hi : i < n0) : LowS ρ L (f i) := fun x hx ρ' he => by
  have hp := g.hp _ _ hl
  obtain ⟨b, cur, T, fr, hr, hbk, hcur⟩ := ro_cell hp.2.2 hi
  have h2 := (hp.2.1 ρ' he _ _).1 hp.2.2
  obtain ⟨b', cur', T', fr', hr', hbk', hcur'⟩ := ro_cell h2 hi
  rw [hr] at hr'
  cases hr'
  rw [hbk] at hbk'
  simp only [Option.some.injEq, Obj.cells.injEq] at hbk'
  obtain ⟨rfl, _⟩ := hbk'
  obtain ⟨c, hc⟩ := List.getElem?_of_mem hx
  have h3 := hcur c x hc
  have h4 := hcur' c x hc
  rw [h3] at h4
  exact (Option.some.inj h4).symm
/-- an element of a list that is only read, or a part of it -/
theorem R.ldo (htt : TTok P tt) {t : TypeId} {x : Operand} {l wd off i c n0 : Nat} {f : Nat → List AV} {ti : TI} {v : AV} (hx : evA τ x = some (.ptr l wd (off + i) c)) (hl : hk l h = some (.ro wd off n0 f)) (ht : lk t tt = some ti) (hv : takeA ti (f i) c = some v)
    (hg : wantA ops ⟨some d, .load t x, ty, ps, af, gd⟩ τ = some true) (hb : (Nat.ble (d + 1) n && lookB D [l] && Nat.ble (l + 1) L) = true) (hi : i < n0)
    (k : R P ops Q (lookD D [l]) E n L ((d, v) :: τ) h F rest) : R P ops Q D E n L τ h F (⟨some d, .load t x, ty, ps, af, gd⟩ :: rest) :=
  R.looks l _ (fun ρ a w g => by
    obtain ⟨b, cur, T, fr, hr, hbk, hcur⟩ := ro_cell (g.hp _ _ hl).2.2 hi
    refine ⟨takeA_low hv (ro_low g hl hi), by rw [hr]; simp, fun W hW => ?_⟩
    simp only [execOp, (g.eval x _ hx).2, AV.conc, hr, Option.getD_some, Instr.loadAt, Instr.sureAddr, Sem.run_bind, Sem.run_pure, Result.andThen_ok]
    rw [takeA_run (htt _ _ ht) hv ((hW b hr).trans hbk) hcur]
    rfl) hg hb k
/-- x / y -/
theorem R.quo {t u : TypeId} {x y : Operand} {k0 : IntKind} {a0 b0 : Int} (v : Int) (hx : evA τ x = some (.raw (.int k0 a0))) (hy : evA τ y = some (.raw (.int k0 b0)))
    (hg : wantA ops ⟨some d, .binOp .quo t x y u, ty, ps, af, gd⟩ τ = some true) (hb : (Nat.ble (d + 1) n && lookB D []) = true) (h0 : b0 ≠ 0) (hv : k0.wrap (a0.tdiv b0) = v)
    (k : R P ops Q (lookD D []) E n L ((d, .raw (.int k0 v)) :: τ) h F rest) : R P ops Q D E n L τ h F (⟨some d, .binOp .quo t x y u, ty, ps, af, gd⟩ :: rest) :=
  R.pure _ (fun ρ a w g => ⟨AV.Low.raw _ _ _, fun W => by
    simp [execOp, (g.eval x _ hx).2, (g.eval y _ hy).2, AV.conc, eqGuard, binOp, Op.intDiv, h0, hv]⟩) hg hb k
theorem R.rem {t u : TypeId} {x y : Operand} {k0 : IntKind} {a0 b0 : Int} (v : Int) (hx : evA τ x = some (.raw (.int k0 a0))) (hy : evA τ y = some (.raw (.int k0 b0)))
    (hg : wantA ops ⟨some d, .binOp .rem t x y u, ty, ps, af, gd⟩ τ = some true) (hb : (Nat.ble (d + 1) n && lookB D []) = true) (h0 : b0 ≠ 0) (hv : a0.tmod b0 = v)
    (k : R P ops Q (lookD D []) E n L ((d, .raw (.int k0 v)) :: τ) h F rest) : R P ops Q D E n L τ h F (⟨some d, .binOp .rem t x y u, ty, ps, af, gd⟩ :: rest) :=
  R.pure _ (fun ρ a w g => ⟨AV.Low.raw _ _ _, fun W => by
    simp [execOp, (g.eval x _ hx).2, (g.eval y _ hy).2, AV.conc, eqGuard, binOp, Op.intDiv, h0, hv]⟩) hg hb k
/-- x << y, x >> y -/
theorem R.shl {t u : TypeId} {x y : Operand} {k0 k1 : IntKind} {a0 b0 : Int} (v : Int) (hx : evA τ x = some (.raw (.int k0 a0))) (hy : evA τ y = some (.raw (.int k1 b0)))
    (hg : wantA ops ⟨some d, .binOp .shl t x y u, ty, ps, af, gd⟩ τ = some true) (hb : (Nat.ble (d + 1) n && lookB D []) = true) (h0 : 0 ≤ b0) (hv : k0.wrap (a0 * 2 ^ (min b0.toNat k0.bits)) = v)
    (k : R P ops Q (lookD D []) E n L ((d, .raw (.int k0 v)) :: τ) h F rest) : R P ops Q D E n L τ h F (⟨some d, .binOp .shl t x y u, ty, ps, af, gd⟩ :: rest) :=
  R.pure _ (fun ρ a w g => ⟨AV.Low.raw _ _ _, fun W => by
    have : ¬ b0 < 0 := by omega
    simp [execOp, (g.eval x _ hx).2, (g.eval y _ hy).2, AV.conc, eqGuard, binOp, Op.shift, this, hv]⟩) hg hb k
theorem R.shr {t u : TypeId} {x y : Operand} {k0 k1 : IntKind} {a0 b0 : Int} (v : Int) (hx : evA τ x = some (.raw (.int k0 a0))) (hy : evA τ y = some (.raw (.int k1 b0)))
    (hg : wantA ops ⟨some d, .binOp .shr t x y u, ty, ps, af, gd⟩ τ = some true) (hb : (Nat.ble (d + 1) n && lookB D []) = true) (h0 : 0 ≤ b0) (hv : a0.fdiv (2 ^ (min b0.toNat k0.bits)) = v)
    (k : R P ops Q (lookD D []) E n L ((d, .raw (.int k0 v)) :: τ) h F rest) : R P ops Q D E n L τ h F (⟨some d, .binOp .shr t x y u, ty, ps, af, gd⟩ :: rest) :=
  R.pure _ (fun ρ a w g => ⟨AV.Low.raw _ _ _, fun W => by
    have : ¬ b0 < 0 := by omega
    simp [execOp, (g.eval x _ hx).2, (g.eval y _ hy).2, AV.conc, eqGuard, binOp, Op.shift, this, hv]⟩) hg hb k
/-- s[j] of a text -/
theorem R.sx (htt : TTok P tt) {t : TypeId} {x y : Operand} {k0 : IntKind} {s : ByteArray} {j : Int} {sz bt : Nat} {z : List Value} (jn : Nat) (hx : evA τ x = some (.raw (.string s))) (hy : evA τ y = some (.raw (.int k0 j))) (ht : lk t tt = some ⟨sz, bt, .str, z⟩)
    (hg : wantA ops ⟨some d, .index t x y, ty, ps, af, gd⟩ τ = some true) (hb : (Nat.ble (d + 1) n && lookB D []) = true) (hj : j = (jn : Int)) (hlt : jn < s.data.toList.length)
    (k : R P ops Q (lookD D []) E n L ((d, .raw (byteV (s.data.toList.getD jn 0))) :: τ) h F rest) : R P ops Q D E n L τ h F (⟨some d, .index t x y, ty, ps, af, gd⟩ :: rest) :=
  R.pure _ (fun ρ a w g => ⟨AV.Low.raw _ _ _, fun W => by
    have hu := und_str (htt _ _ ht) rfl W
    subst hj
    have h0 : jn < s.size := by show jn < s.data.size; rw [← Array.length_toList]; exact hlt
    have h1 : s[jn]? = some (s.data.toList.getD jn 0) := by
      rw [getElem?_pos s jn h0]
      congr 1
      show s.data[jn] = _
      rw [List.getD_eq_getElem?_getD, List.getElem?_eq_getElem hlt]
      rfl
    simp only [execOp, (g.eval x _ hx).2, (g.eval y _ hy).2, AV.conc]
    simp [Instr.index, asIntOf, hu, h1, byteV]⟩) hg hb k
end
end Go.Proofs.YtaieficgifingaaGreatDoor
