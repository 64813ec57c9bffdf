/- The kernel, 2: what an operation gives that looks at most into memory. No program in sight. -/
import Derived.Test.YteabncomclgncaaK1
namespace Go.Proofs.Yteabncomclgncaa
set_option linter.unusedVariables false
set_option linter.unusedSimpArgs false
open Go.RowKit

def sameK (k k' : IntKind) (v : Value) : Option Value := if k = k' then some v else none
theorem sameK_some {k k' : IntKind} {v u : Value} (h : sameK k k' v = some u) : k = k' ∧ v = u := by
  unfold sameK at h
  split at h
  · exact ⟨‹_›, by simpa using h⟩
  · cases h
/-- bits of two numbers -/
def bitV (op : BinOp) (k : IntKind) (a b : Int) : Int :=
  match op with
  | .and => k.wrap ((BitVec.ofInt k.bits a &&& BitVec.ofInt k.bits b).toNat : Int)
  | .or => k.wrap ((BitVec.ofInt k.bits a ||| BitVec.ofInt k.bits b).toNat : Int)
  | .xor => k.wrap ((BitVec.ofInt k.bits a ^^^ BitVec.ofInt k.bits b).toNat : Int)
  | _ => k.wrap ((BitVec.ofInt k.bits a &&& ~~~ BitVec.ofInt k.bits b).toNat : Int)
/-- an operation on two values that cannot go wrong -/
def binV : BinOp → Value → Value → Option Value
  | .add, .int k a, .int k' b => sameK k k' (.int k (k.wrap (a + b)))
  | .sub, .int k a, .int k' b => sameK k k' (.int k (k.wrap (a - b)))
  | .mul, .int k a, .int k' b => sameK k k' (.int k (k.wrap (a * b)))
  | .and, .int k a, .int k' b => sameK k k' (.int k (bitV .and k a b))
  | .or, .int k a, .int k' b => sameK k k' (.int k (bitV .or k a b))
  | .xor, .int k a, .int k' b => sameK k k' (.int k (bitV .xor k a b))
  | .andNot, .int k a, .int k' b => sameK k k' (.int k (bitV .andNot k a b))
  | .eql, .int k a, .int k' b => sameK k k' (.bool (decide (a = b)))
  | .neq, .int k a, .int k' b => sameK k k' (.bool (decide (a ≠ b)))
  | .lss, .int k a, .int k' b => sameK k k' (.bool (decide (a < b)))
  | .leq, .int k a, .int k' b => sameK k k' (.bool (decide (a ≤ b)))
  | .gtr, .int k a, .int k' b => sameK k k' (.bool (decide (b < a)))
  | .geq, .int k a, .int k' b => sameK k k' (.bool (decide (b ≤ a)))
  | .eql, .string a, .string b => some (.bool (decide (a.toList = b.toList)))
  | .neq, .string a, .string b => some (.bool (decide (a.toList ≠ b.toList)))
  | .lss, .string a, .string b => some (.bool (Op.bytesLess a.toList b.toList))
  | .leq, .string a, .string b => some (.bool (Op.bytesLess a.toList b.toList || decide (a.toList = b.toList)))
  | .gtr, .string a, .string b => some (.bool !(Op.bytesLess a.toList b.toList || decide (a.toList = b.toList)))
  | .geq, .string a, .string b => some (.bool !(Op.bytesLess a.toList b.toList))
  | _, _, _ => none
theorem beq_toList (a b : List UInt8) : (a == b) = decide (a = b) := by
  by_cases h : a = b
  · subst h; simp
  · simp [h]
theorem run_binV (P : Program) (op : BinOp) (t : TypeId) (x y : Operand) (a b v : Value) (w : World) (h : binV op a b = some v) :
    (do eqGuard op t x y a b; binOp op t a b : Sem Value).run P w = .ok v w := by
  cases a <;> cases b
  case int.int k a k' b =>
    cases op <;> simp only [binV] at h
    all_goals first
      | cases h
      | (obtain ⟨rfl, rfl⟩ := sameK_some h
         simp [eqGuard, binOp, Op.intArith, Op.intBits, Op.intCmp, bitV, go_sem]
         done)
      | (obtain ⟨rfl, rfl⟩ := sameK_some h
         simp [eqGuard, binOp, Op.intArith, Op.intBits, Op.intCmp, bitV, go_sem]
         rfl)
  case string.string a b =>
    cases op <;> simp only [binV] at h
    all_goals cases h
    all_goals simp [eqGuard, binOp, Op.stringOp, beq_toList, go_sem]
  all_goals (cases op <;> simp [binV] at h)

def convV (tt : List (Nat × TI)) (s d : TypeId) : Value → Option Value
  | .int k n => match lk s tt, lk d tt with
    | some ⟨_, _, .int _, _⟩, some ⟨_, _, .int k', _⟩ => some (.int k' (k'.wrap n))
    | _, _ => none
  | .string b => match lk s tt, lk d tt with
    | some ⟨_, _, .str, _⟩, some ⟨_, _, .str, _⟩ => some (.string b)
    | _, _ => none
  | _ => none
theorem und_int {P : Program} {t : TypeId} {ti : TI} {k : IntKind} (h : TIok P t ti) (hk : ti.kind = .int k) (w : World) : (underlying t).run P w = .ok (.int k) w := by
  obtain ⟨d, h1, h2⟩ := h.und
  rw [hk] at h2
  simp only at h2
  subst h2
  simp [underlying, h1]
theorem und_str {P : Program} {t : TypeId} {ti : TI} (h : TIok P t ti) (hk : ti.kind = .str) (w : World) : (underlying t).run P w = .ok .string w := by
  obtain ⟨d, h1, h2⟩ := h.und
  rw [hk] at h2
  simp only at h2
  subst h2
  simp [underlying, h1]
theorem und_sl {P : Program} {t : TypeId} {ti : TI} {e : Nat} (h : TIok P t ti) (hk : ti.kind = .sl e) (w : World) : (underlying t).run P w = .ok (.slice e) w := by
  obtain ⟨d, h1, h2⟩ := h.und
  rw [hk] at h2
  simp only at h2
  subst h2
  simp [underlying, h1]
theorem und_ptr {P : Program} {t : TypeId} {ti : TI} {e : Nat} (h : TIok P t ti) (hk : ti.kind = .ptr e) (w : World) : (underlying t).run P w = .ok (.pointer e) w := by
  obtain ⟨d, h1, h2⟩ := h.und
  rw [hk] at h2
  simp only at h2
  subst h2
  simp [underlying, h1]
theorem und_arr {P : Program} {t : TypeId} {ti : TI} {n e : Nat} (h : TIok P t ti) (hk : ti.kind = .arr n e) (w : World) : (underlying t).run P w = .ok (.array n e) w := by
  obtain ⟨d, h1, h2⟩ := h.und
  rw [hk] at h2
  simp only at h2
  subst h2
  simp [underlying, h1]
theorem und_bool {P : Program} {t : TypeId} {ti : TI} (h : TIok P t ti) (hk : ti.kind = .bool) (w : World) : (underlying t).run P w = .ok .bool w := by
  obtain ⟨d, h1, h2⟩ := h.und
  rw [hk] at h2
  simp only at h2
  subst h2
  simp [underlying, h1]
theorem und_st {P : Program} {t : TypeId} {ti : TI} {fs : List (Nat × Nat)} (h : TIok P t ti) (hk : ti.kind = .st fs) : ∃ fields, (∀ w, (underlying t).run P w = .ok (.struct fields) w) ∧ fields.toList.map (fun f => (f.offset, f.type)) = fs := by
  obtain ⟨d, h1, h2⟩ := h.und
  rw [hk] at h2
  simp only at h2
  obtain ⟨fields, rfl, h3⟩ := h2
  exact ⟨fields, fun w => by simp [underlying, h1], h3⟩
theorem run_convV {P : Program} {tt : List (Nat × TI)} (htt : TTok P tt) (s d : TypeId) (x v : Value) (w : World) (h : convV tt s d x = some v) : (convert s d x).run P w = .ok v w := by
  cases x <;> simp only [convV] at h <;> try cases h
  case int k n =>
    split at h
    · rename_i h1 h2
      cases h
      have e1 := und_int (htt _ _ h1) rfl w
      have e2 := und_int (htt _ _ h2) rfl w
      simp [convert, e1, e2, Conv.intToInt]
    · cases h
  case string b =>
    split at h
    · rename_i h1 h2
      cases h
      have e1 := und_str (htt _ _ h1) rfl w
      have e2 := und_str (htt _ _ h2) rfl w
      simp [convert, e1, e2]
    · cases h

/-- a field of a struct's cells, an element of an array's -/
def partA (tt : List (Nat × TI)) (t : Nat) (xs : List AV) (off : Nat) : Option AV :=
  match lk t tt with
  | some ti => match ti.kind.isAgg with
    | true => some (.agg ((xs.drop off).take ti.size))
    | false => xs[off]?
  | none => none
theorem run_partA {P : Program} {tt : List (Nat × TI)} (htt : TTok P tt) (ρ : Env) (t : Nat) (xs : List AV) (off : Nat) (v : AV) (w : World) (h : partA tt t xs off = some v) :
    (part t (AV.concs ρ xs).toArray off).run P w = .ok (v.conc ρ) w := by
  unfold partA at h
  split at h
  · rename_i ti hti
    have e1 := (htt _ _ hti).run_isAgg w
    have e2 := (htt _ _ hti).run_size w
    cases hk : ti.kind.isAgg <;> rw [hk] at h e1 <;> simp only at h
    · have : (AV.concs ρ xs)[off]? = some (v.conc ρ) := by rw [concs_map, List.getElem?_map, h]; rfl
      simp [part, e1, this]
    · cases h
      simp [part, e1, e2, AV.conc, concs_map, List.map_drop, List.map_take]
  · cases h

theorem und_fnc {P : Program} {t : TypeId} {ti : TI} (h : TIok P t ti) (hk : ti.kind = .fnc) : ∃ x y z, ∀ w, (underlying t).run P w = .ok (.func x y z) w := by
  obtain ⟨d, h1, h2⟩ := h.und
  rw [hk] at h2
  simp only at h2
  obtain ⟨x, y, z, rfl⟩ := h2
  exact ⟨x, y, z, fun w => by simp [underlying, h1]⟩

/-! a struct or an array put together -/
def AV.cellsA : AV → Option (List AV)
  | .agg xs => some xs
  | .tup _ => none
  | .raw (.agg _) => none
  | .raw (.tuple _) => none
  | v => some [v]
theorem cellsA_conc {v : AV} {xs : List AV} (h : v.cellsA = some xs) (ρ : Env) : (v.conc ρ).cells.toList = AV.concs ρ xs := by
  cases v with
  | agg ys => cases h; simp [AV.conc, Value.cells]
  | tup ys => cases h
  | raw u => cases u <;> cases h <;> simp [AV.conc, Value.cells, AV.concs]
  | _ => cases h; simp [AV.conc, Value.cells, AV.concs]
/-- cells laid over others from a place on -/
def setsA {α : Type} : List α → Nat → List α → List α
  | xs, _, [] => xs
  | xs, off, y :: ys => setsA (xs.set off y) (off + 1) ys
theorem setsA_foldl {α : Type} (ys : List α) : ∀ (xs : Array α) (off k : Nat), (ys.zipIdx k).foldl (fun cs (p : α × Nat) => cs.setIfInBounds (off + p.2) p.1) xs = (setsA xs.toList (off + k) ys).toArray := by
  induction ys with
  | nil => intro xs off k; simp [setsA]
  | cons y ys ih =>
    intro xs off k
    simp only [List.zipIdx_cons, List.foldl_cons, setsA]
    rw [ih]
    congr 1
    simp [Nat.add_assoc]
theorem setsA_length {α : Type} (ys : List α) : ∀ (xs : List α) (off : Nat), (setsA xs off ys).length = xs.length := by
  induction ys with
  | nil => intro xs off; rfl
  | cons y ys ih => intro xs off; simp [setsA, ih]
theorem concs_set (ρ : Env) (xs : List AV) (i : Nat) (v : AV) : AV.concs ρ (xs.set i v) = (AV.concs ρ xs).set i (v.conc ρ) := by
  rw [concs_map, concs_map, List.map_set]
theorem concs_sets (ρ : Env) (ys : List AV) : ∀ (xs : List AV) (off : Nat), AV.concs ρ (setsA xs off ys) = setsA (AV.concs ρ xs) off (AV.concs ρ ys) := by
  induction ys with
  | nil => intro xs off; rfl
  | cons y ys ih => intro xs off; simp only [setsA, AV.concs]; rw [ih, concs_set]
/-- the parts of a struct or an array, laid over its zero -/
def fillA (pl : Nat → Option (Nat × Nat)) : List AV → List (Nat × AV) → Option (List AV)
  | cells, [] => some cells
  | cells, (i, v) :: rest => match pl i, v.cellsA with
    | some (off, size), some xs => match xs.length == size && Nat.ble (off + xs.length) cells.length with
      | true => fillA pl (setsA cells off xs) rest
      | false => none
    | _, _ => none
theorem fillA_fill (pl : Nat → Option (Nat × Nat)) (ρ : Env) (parts : List (Nat × AV)) : ∀ (cells out : List AV), fillA pl cells parts = some out →
    Instr.fill pl (AV.concs ρ cells).toArray (parts.map fun p => (p.1, p.2.conc ρ)) = some (AV.concs ρ out).toArray := by
  induction parts with
  | nil => intro cells out h; cases h; rfl
  | cons p rest ih =>
    intro cells out h
    obtain ⟨i, v⟩ := p
    simp only [fillA] at h
    split at h
    · rename_i off size xs h1 h2
      have hc := cellsA_conc h2 ρ
      have hl : (v.conc ρ).cells.size = xs.length := by rw [← Array.length_toList, hc, concs_length]
      split at h
      · rename_i hb
        simp only [Bool.and_eq_true, beq_iff_eq, Nat.ble_eq] at hb
        have := ih _ _ h
        simp only [List.map_cons, Instr.fill, h1, hl]
        rw [if_neg (by simp [concs_length]; omega)]
        rw [concs_sets] at this
        have e : (v.conc ρ).cells.zipIdx.foldl (fun cs (p : Value × Nat) => cs.setIfInBounds (off + p.2) p.1) (AV.concs ρ cells).toArray = (setsA (AV.concs ρ cells) off (AV.concs ρ xs)).toArray := by
          rw [← Array.foldl_toList, Array.toList_zipIdx, hc]
          exact setsA_foldl _ _ off 0
        rw [← this, ← e]
      · cases h
    · cases h
/-- the parts' values -/
def evParts (e : Operand → Option AV) : List (Nat × Operand) → Option (List (Nat × AV))
  | [] => some []
  | (i, x) :: r => match e x, evParts e r with
    | some v, some l => some ((i, v) :: l)
    | _, _ => none
theorem evParts_conc {e : Operand → Option AV} {ec : Operand → Value} {ρ : Env} (he : ∀ x v, e x = some v → ec x = v.conc ρ) (ps : List (Nat × Operand)) : ∀ l, evParts e ps = some l → ps.map (fun p => (p.1, ec p.2)) = l.map fun p => (p.1, p.2.conc ρ) := by
  induction ps with
  | nil => intro l h; cases h; rfl
  | cons p r ih =>
    intro l h
    obtain ⟨i, x⟩ := p
    simp only [evParts] at h
    split at h
    · rename_i v l' h1 h2
      cases h
      simp [ih _ h2, he _ _ h1]
    · cases h
/-- the operands' values -/
def evList (e : Operand → Option AV) : List Operand → Option (List AV)
  | [] => some []
  | x :: r => match e x, evList e r with
    | some v, some l => some (v :: l)
    | _, _ => none
theorem evList_conc {e : Operand → Option AV} {ec : Operand → Value} {ρ : Env} (he : ∀ x v, e x = some v → ec x = v.conc ρ) (ps : List Operand) : ∀ l, evList e ps = some l → ps.map ec = AV.concs ρ l := by
  induction ps with
  | nil => intro l h; cases h; rfl
  | cons x r ih =>
    intro l h
    simp only [evList] at h
    split at h
    · rename_i v l' h1 h2
      cases h
      simp [ih _ h2, he _ _ h1, AV.concs]
    · cases h
def szA (tt : List (Nat × TI)) (t : Nat) : Option Nat := (lk t tt).map (·.size)
/-- where parts lie -/
def placeA (tt : List (Nat × TI)) : TK → Nat → Option (Nat × Nat)
  | .st fs, i => match fs[i]? with
    | some (off, ft) => match lk ft tt with
      | some ti => some (off, ti.size)
      | none => none
    | none => none
  | .arr n e, i => match lk e tt with
    | some ti => some (i * ti.size, ti.size)
    | none => none
  | _, _ => none
end Go.Proofs.Yteabncomclgncaa
