/- Texts of the claim, merged: only what the theorem needs. -/
import Derived.WalkKit
import Derived.WalkSpells
import Derived.WalkLawsBesides
import Derived.Lib.Hide
import Derived.Deep.QuietTactic
import Derived.Laws.CopyRow
import Derived.Deep.LoopGhost
import Derived.Maps.AppendAt
import Derived.Laws.OwnMore
namespace Go.Proofs.Yteabncomclgncaa
set_option linter.unusedVariables false
set_option linter.unusedSimpArgs false
open Go.RowKit
/-- A value in which memory is named by labels. -/
inductive AV where
  | raw (v : Value)
  | ptr (l w i c : Nat)
  | sl (l w off n cap : Nat)
  | agg (xs : List AV)
  | tup (xs : List AV)
  | fn (f : FuncId) (cs : List AV)
instance : Inhabited AV := ⟨.raw default⟩
abbrev Env := Nat → Option Nat
mutual
def AV.conc (ρ : Env) : AV → Value
  | .raw v => v
  | .ptr l w i c => .pointer (some ⟨(ρ l).getD 0, i * w + c, none⟩)
  | .sl l w off n cap => .slice ((ρ l).map fun b => ⟨b, off * w, none⟩) n cap
  | .agg xs => .agg (AV.concs ρ xs).toArray
  | .tup xs => .tuple (AV.concs ρ xs).toArray
  | .fn f cs => .func (.func f) #[] (AV.concs ρ cs).toArray
def AV.concs (ρ : Env) : List AV → List Value
  | [] => []
  | x :: xs => x.conc ρ :: AV.concs ρ xs
end
theorem concs_map (ρ : Env) (xs : List AV) : AV.concs ρ xs = xs.map (AV.conc ρ) := by
  induction xs with
  | nil => rfl
  | cons x xs ih => rw [AV.concs, ih]; rfl
theorem concs_length (ρ : Env) (xs : List AV) : (AV.concs ρ xs).length = xs.length := by rw [concs_map]; simp
/-- it reads the same whatever the labels from L on mean -/
def AV.Low (ρ : Env) (L : Nat) (v : AV) : Prop := ∀ ρ' : Env, (∀ l, l < L → ρ' l = ρ l) → v.conc ρ' = v.conc ρ
theorem AV.Low.mono {ρ : Env} {L L' : Nat} {v : AV} (h : v.Low ρ L) (hl : L ≤ L') : v.Low ρ L' := fun ρ' he => h ρ' fun l hh => he l (by omega)
theorem AV.Low.ext {ρ ρ1 : Env} {L : Nat} {v : AV} (h : v.Low ρ L) (he : ∀ l, l < L → ρ1 l = ρ l) : v.Low ρ1 L := fun ρ' h' => (h ρ' fun l hl => (h' l hl).trans (he l hl)).trans (h ρ1 he).symm
theorem AV.Low.raw (ρ : Env) (L : Nat) (v : Value) : (AV.raw v).Low ρ L := fun _ _ => by simp [AV.conc]
/-- What lies at a label: cells that are known; or a slice's own block (nil too), its elements known as far as n. -/
inductive AO where
  | cells (xs : List AV) (ty : TypeId)
  | bytes (p : List UInt8) (cap : Nat) (ty : TypeId)
  | tab (w n cap : Nat) (f : Nat → List AV) (ty : TypeId)
  | ro (w off n : Nat) (f : Nat → List AV)
  | gone
def AO.isRo : AO → Bool
  | .ro .. => true
  | _ => false
def byteV (b : UInt8) : Value := .int .u8 (b.toNat : Int)
def AO.holds (ρ : Env) (r : Option Nat) (w : World) : AO → Prop
  | .cells xs ty => ∃ b, r = some b ∧ w.heap[b]? = some (.cells (AV.concs ρ xs).toArray ty (0, 0))
  | .bytes p cap ty => p.length ≤ cap ∧ ((r = none ∧ cap = 0) ∨ ∃ b cur, r = some b ∧ w.heap[b]? = some (.cells cur ty (0, 0)) ∧ cur.size = cap ∧ ∀ i (h : i < p.length), cur[i]? = some (byteV p[i]))
  | .tab wd n cap f ty => n ≤ cap ∧ (∀ i, i < n → (f i).length = wd) ∧ ((r = none ∧ cap = 0) ∨ ∃ b cur, r = some b ∧ w.heap[b]? = some (.cells cur ty (0, 0)) ∧ cur.size = cap * wd ∧ ∀ i c x, i < n → (f i)[c]? = some x → cur[i * wd + c]? = some (x.conc ρ))
  | .ro wd off n f => (r = none ∧ n = 0) ∨ ∃ b cur ty fr, r = some b ∧ w.heap[b]? = some (.cells cur ty fr) ∧ ∀ i c x, i < n → (f i)[c]? = some x → cur[(off + i) * wd + c]? = some (x.conc ρ)
  | .gone => True
def AO.Low (ρ : Env) (L : Nat) (o : AO) : Prop := ∀ ρ' : Env, (∀ l, l < L → ρ' l = ρ l) → ∀ r w, o.holds ρ r w ↔ o.holds ρ' r w
theorem AO.Low.mono {ρ : Env} {L L' : Nat} {o : AO} (h : o.Low ρ L) (hl : L ≤ L') : o.Low ρ L' := fun ρ' he => h ρ' fun l hh => he l (by omega)
theorem AO.Low.ext {ρ ρ1 : Env} {L : Nat} {o : AO} (h : o.Low ρ L) (he : ∀ l, l < L → ρ1 l = ρ l) : o.Low ρ1 L := fun ρ' h' r w => ((h ρ1 he r w).symm.trans (h ρ' (fun l hl => (h' l hl).trans (he l hl)) r w))
theorem concs_low {ρ : Env} {L : Nat} {xs : List AV} (h : ∀ x ∈ xs, x.Low ρ L) (ρ' : Env) (he : ∀ l, l < L → ρ' l = ρ l) : AV.concs ρ' xs = AV.concs ρ xs := by
  rw [concs_map, concs_map]
  exact List.map_congr_left fun x hx => h x hx ρ' he
theorem AO.Low.cells {ρ : Env} {L : Nat} {xs : List AV} (ty : TypeId) (h : ∀ x ∈ xs, x.Low ρ L) : (AO.cells xs ty).Low ρ L := fun ρ' he r w => by
  simp only [AO.holds, concs_low h ρ' he]
theorem AO.Low.bytes (ρ : Env) (L : Nat) (p : List UInt8) (cap : Nat) (ty : TypeId) : (AO.bytes p cap ty).Low ρ L := fun _ _ _ _ => Iff.rfl
theorem AO.Low.tab {ρ : Env} {L w n cap : Nat} {f : Nat → List AV} (ty : TypeId) (h : ∀ i, i < n → ∀ x ∈ f i, x.Low ρ L) : (AO.tab w n cap f ty).Low ρ L := fun ρ' he r W => by
  have key : ∀ i c (x : AV), i < n → (f i)[c]? = some x → x.conc ρ' = x.conc ρ := fun i c x hi hx => h i hi x (List.mem_of_getElem? hx) ρ' he
  constructor
  · rintro ⟨h1, h2, h3⟩
    refine ⟨h1, h2, h3.imp id ?_⟩
    rintro ⟨b, cur, hr, hb, hs, hc⟩
    exact ⟨b, cur, hr, hb, hs, fun i c x hi hx => by rw [key i c x hi hx]; exact hc i c x hi hx⟩
  · rintro ⟨h1, h2, h3⟩
    refine ⟨h1, h2, h3.imp id ?_⟩
    rintro ⟨b, cur, hr, hb, hs, hc⟩
    exact ⟨b, cur, hr, hb, hs, fun i c x hi hx => by rw [← key i c x hi hx]; exact hc i c x hi hx⟩
theorem AO.Low.ro {ρ : Env} {L w off n : Nat} {f : Nat → List AV} (h : ∀ i, i < n → ∀ x ∈ f i, x.Low ρ L) : (AO.ro w off n f).Low ρ L := fun ρ' he r W => by
  have key : ∀ i c (x : AV), i < n → (f i)[c]? = some x → x.conc ρ' = x.conc ρ := fun i c x hi hx => h i hi x (List.mem_of_getElem? hx) ρ' he
  constructor
  · intro h3
    refine h3.imp id ?_
    rintro ⟨b, cur, ty, fr, hr, hb, hc⟩
    exact ⟨b, cur, ty, fr, hr, hb, fun i c x hi hx => by rw [key i c x hi hx]; exact hc i c x hi hx⟩
  · intro h3
    refine h3.imp id ?_
    rintro ⟨b, cur, ty, fr, hr, hb, hc⟩
    exact ⟨b, cur, ty, fr, hr, hb, fun i c x hi hx => by rw [← key i c x hi hx]; exact hc i c x hi hx⟩
/-- lookup by number -/
def lk {α : Type} (t : Nat) : List (Nat × α) → Option α
  | [] => none
  | (s, v) :: r => match Nat.beq s t with
    | true => some v
    | false => lk t r
/-- what lies at a label -/
def hk (l : Nat) (h : List (Nat × AO)) : Option AO := match lk l h with
  | some .gone => none
  | r => r
theorem lk_cons {α : Type} (t s : Nat) (v : α) (r : List (Nat × α)) : lk t ((s, v) :: r) = if s = t then some v else lk t r := by
  by_cases h : s = t
  · subst h; simp [lk]
  · have : Nat.beq s t = false := by
      cases e : Nat.beq s t with
      | true => exact absurd (Nat.eq_of_beq_eq_true e) h
      | false => rfl
    simp [lk, this, h]
theorem hk_cons (l s : Nat) (o : AO) (r : List (Nat × AO)) : hk l ((s, o) :: r) = if s = l then (match o with | .gone => none | o => some o) else hk l r := by
  unfold hk
  rw [lk_cons]
  by_cases h : s = l
  · simp only [h, if_true]
    cases o <;> rfl
  · simp only [h, if_false]
inductive TK where
  | bool | int (k : IntKind) | str | ptr (e : Nat) | sl (e : Nat) | arr (n e : Nat) | st (fs : List (Nat × Nat)) | fnc | oth
structure TI where
  size : Nat
  bytes : Nat
  kind : TK
  zero : List Value
def TK.isAgg : TK → Bool
  | .arr .. | .st .. => true
  | _ => false
/-- what is told of a type is so -/
structure TIok (P : Program) (t : TypeId) (ti : TI) : Prop where
  info : ∃ i z, P.info? t = some i ∧ i.size = ti.size ∧ i.bytes = ti.bytes ∧ i.zero = some z ∧ z.cells.toList = ti.zero ∧ z = (if ti.kind.isAgg then .agg ti.zero.toArray else ti.zero.headD undef)
  und : ∃ d, P.underlying t = some d ∧ match ti.kind with
    | .bool => d = .bool
    | .int k => d = .int k
    | .str => d = .string
    | .ptr e => d = .pointer e
    | .sl e => d = .slice e
    | .arr n e => d = .array n e
    | .fnc => ∃ a b c, d = .func a b c
    | .st fs => ∃ fields, d = .struct fields ∧ fields.toList.map (fun f => (f.offset, f.type)) = fs
    | .oth => (match d with | .struct _ | .array _ _ => false | _ => true) = true
def TTok (P : Program) (tt : List (Nat × TI)) : Prop := ∀ t ti, lk t tt = some ti → TIok P t ti
theorem TTok.nil (P : Program) : TTok P [] := fun t ti h => by simp [lk] at h
theorem TTok.cons {P : Program} {t : Nat} {ti : TI} {r : List (Nat × TI)} (h : TIok P t ti) (hr : TTok P r) : TTok P ((t, ti) :: r) := fun s si hs => by
  rw [lk_cons] at hs
  split at hs
  · rename_i e; subst e; cases hs; exact h
  · exact hr s si hs
section
variable {P : Program} {t : TypeId} {ti : TI}
theorem TIok.run_info (h : TIok P t ti) (w : World) : ∃ i z, (typeInfo t).run P w = .ok i w ∧ i.size = ti.size ∧ i.bytes = ti.bytes ∧ i.zero = some z ∧ z.cells.toList = ti.zero ∧ z = (if ti.kind.isAgg then .agg ti.zero.toArray else ti.zero.headD undef) := by
  obtain ⟨i, z, h1, h2⟩ := h.info
  exact ⟨i, z, by simp [typeInfo, h1, go_sem], h2⟩
theorem TIok.run_size (h : TIok P t ti) (w : World) : (sizeOf t).run P w = .ok ti.size w := by
  obtain ⟨i, z, h1, h2, _⟩ := h.run_info w
  simp [sizeOf, h1, h2]
theorem TIok.run_zero (h : TIok P t ti) (w : World) : (zeroValue t).run P w = .ok (if ti.kind.isAgg then .agg ti.zero.toArray else ti.zero.headD undef) w := by
  obtain ⟨i, z, h1, h2, h3, h4, h5, h6⟩ := h.run_info w
  rw [← h6]
  simp [zeroValue, h1, h4]
theorem TIok.run_isAgg (h : TIok P t ti) (w : World) : (isAgg t).run P w = .ok ti.kind.isAgg w := by
  obtain ⟨d, h1, h2⟩ := h.und
  have e : (underlying t).run P w = .ok d w := by simp [underlying, h1]
  cases hk : ti.kind <;> rw [hk] at h2 <;> simp only at h2
  case oth => cases d <;> simp_all [isAgg, TK.isAgg]
  case st fs => obtain ⟨fields, rfl, _⟩ := h2; simp [isAgg, e, TK.isAgg]
  case fnc => obtain ⟨x, y, z, rfl⟩ := h2; simp [isAgg, e, TK.isAgg]
  all_goals (subst h2; simp [isAgg, e, TK.isAgg])
end
/-- outside of what may have turned, the world is as it was -/
structure Ag (D : Nat → Prop) (w w' : World) : Prop where
  os : w'.os = w.os
  tape : w'.tape = w.tape
  output : w'.output = w.output
  size : w.heap.size ≤ w'.heap.size
  block : ∀ b, b < w.heap.size → D b → w'.heap[b]? = w.heap[b]?
theorem Ag.refl (D : Nat → Prop) (w : World) : Ag D w w := ⟨rfl, rfl, rfl, Nat.le_refl _, fun _ _ _ => rfl⟩
theorem Ag.trans {D : Nat → Prop} {w1 w2 w3 : World} (h : Ag D w1 w2) (k : Ag D w2 w3) : Ag D w1 w3 :=
  ⟨k.os.trans h.os, k.tape.trans h.tape, k.output.trans h.output, Nat.le_trans h.size k.size, fun b hb hd => (k.block b (Nat.lt_of_lt_of_le hb h.size) hd).trans (h.block b hb hd)⟩
theorem Ag.trans2 {D D' : Nat → Prop} {w1 w2 w3 : World} (h : Ag D w1 w2) (k : Ag D' w2 w3) (hd : ∀ b, b < w1.heap.size → D b → D' b) : Ag D w1 w3 :=
  ⟨k.os.trans h.os, k.tape.trans h.tape, k.output.trans h.output, Nat.le_trans h.size k.size, fun b hb hb' => (k.block b (Nat.lt_of_lt_of_le hb h.size) (hd b hb hb')).trans (h.block b hb hb')⟩
theorem Ag.mono {D D' : Nat → Prop} {w w' : World} (h : Ag D w w') (hd : ∀ b, b < w.heap.size → D' b → D b) : Ag D' w w' := ⟨h.os, h.tape, h.output, h.size, fun b hb h' => h.block b hb (hd b hb h')⟩
theorem Ag.of_below {B : Nat} {w w' : World} (h : Below B w w') : Ag (fun b => b < B) w w' := ⟨h.os, h.tape, h.output, h.size, fun b _ hb => h.block b hb⟩
theorem Ag.below {B : Nat} {w w' : World} (h : Ag (fun b => b < B) w w') (hB : B ≤ w.heap.size) : Below B w w' := ⟨h.os, h.tape, h.output, h.size, fun b hb => h.block b (by omega) hb⟩
/-- a label whose block may be written -/
def wrA (l : Nat) (h : List (Nat × AO)) : Prop := ∃ o, hk l h = some o ∧ o.isRo = false
theorem wrA.live {l : Nat} {h : List (Nat × AO)} (hw : wrA l h) : hk l h ≠ none := by
  obtain ⟨o, h1, _⟩ := hw
  rw [h1]; simp
structure Base where
  N : Nat
  ρ : Env
  df : List Deferred
/-- The world and the frame are as told: slots τ, memory h at labels below L; F: what is told of all other memory. -/
structure Gam (E : Base) (ρ : Env) (n L : Nat) (τ : List (Nat × AV)) (h : List (Nat × AO)) (F : World → Prop) (a : Act) (w : World) : Prop where
  df : a.defers = E.df
  sz : a.tmps.size = n
  tm : ∀ t v, lk t τ = some v → v.Low ρ L ∧ a.tmps[t]? = some (v.conc ρ)
  hp : ∀ l o, hk l h = some o → l < L ∧ o.Low ρ L ∧ o.holds ρ (ρ l) w
  dis : ∀ l l' b, wrA l h → hk l' h ≠ none → ρ l = some b → ρ l' = some b → l = l'
  fr : ∀ w', Ag (fun b => ∀ l, wrA l h → ρ l ≠ some b) w w' → F w'
  ex : ∀ l, l < E.N → ρ l = E.ρ l
  le : E.N ≤ L
  al : ∀ l b, l < L → ρ l = some b → b < w.heap.size
/-- an operand's value -/
def evA (τ : List (Nat × AV)) : Operand → Option AV
  | .tmp t => lk t τ
  | .const v => some (.raw v)
  | .global g => some (.raw (.pointer (some ⟨g, 0, none⟩)))
  | .func f => some (.fn f [])
theorem Gam.eval {E : Base} {ρ : Env} {n L : Nat} {τ : List (Nat × AV)} {h : List (Nat × AO)} {F : World → Prop} {a : Act} {w : World} (g : Gam E ρ n L τ h F a w)
    (x : Operand) (v : AV) (hv : evA τ x = some v) : v.Low ρ L ∧ a.eval x = v.conc ρ := by
  cases x with
  | tmp t =>
    have := g.tm t v hv
    refine ⟨this.1, ?_⟩
    simp only [Act.eval, Array.getD_eq_getD_getElem?, this.2, Option.getD_some]
  | const c => cases hv; exact ⟨AV.Low.raw _ _ _, rfl⟩
  | global c => cases hv; exact ⟨AV.Low.raw _ _ _, rfl⟩
  | func c => cases hv; exact ⟨fun _ _ => rfl, rfl⟩
end Go.Proofs.Yteabncomclgncaa
namespace Go.Proofs.Yteabncomclgncaa
set_option linter.unusedVariables false
set_option linter.unusedSimpArgs false
open Go.RowKit
def sameK (k k' : IntKind) (v : Value) : Option Value := if k = k' then some v else none
theorem sameK_some {k k' : IntKind} {v u : Value} (h : sameK k k' v = some u) : k = k' ∧ v = u := by
  unfold sameK at h
  split at h
  · exact ⟨‹_›, by simpa using h⟩
  · cases h
/-- bits of two numbers -/
def bitV (op : BinOp) (k : IntKind) (a b : Int) : Int :=
  match op with
  | .and => k.wrap ((BitVec.ofInt k.bits a &&& BitVec.ofInt k.bits b).toNat : Int)
  | .or => k.wrap ((BitVec.ofInt k.bits a ||| BitVec.ofInt k.bits b).toNat : Int)
  | .xor => k.wrap ((BitVec.ofInt k.bits a ^^^ BitVec.ofInt k.bits b).toNat : Int)
  | _ => k.wrap ((BitVec.ofInt k.bits a &&& ~~~ BitVec.ofInt k.bits b).toNat : Int)
/-- an operation on two values that cannot go wrong -/
def binV : BinOp → Value → Value → Option Value
  | .add, .int k a, .int k' b => sameK k k' (.int k (k.wrap (a + b)))
  | .sub, .int k a, .int k' b => sameK k k' (.int k (k.wrap (a - b)))
  | .mul, .int k a, .int k' b => sameK k k' (.int k (k.wrap (a * b)))
  | .and, .int k a, .int k' b => sameK k k' (.int k (bitV .and k a b))
  | .or, .int k a, .int k' b => sameK k k' (.int k (bitV .or k a b))
  | .xor, .int k a, .int k' b => sameK k k' (.int k (bitV .xor k a b))
  | .andNot, .int k a, .int k' b => sameK k k' (.int k (bitV .andNot k a b))
  | .eql, .int k a, .int k' b => sameK k k' (.bool (decide (a = b)))
  | .neq, .int k a, .int k' b => sameK k k' (.bool (decide (a ≠ b)))
  | .lss, .int k a, .int k' b => sameK k k' (.bool (decide (a < b)))
  | .leq, .int k a, .int k' b => sameK k k' (.bool (decide (a ≤ b)))
  | .gtr, .int k a, .int k' b => sameK k k' (.bool (decide (b < a)))
  | .geq, .int k a, .int k' b => sameK k k' (.bool (decide (b ≤ a)))
  | .eql, .string a, .string b => some (.bool (decide (a.toList = b.toList)))
  | .neq, .string a, .string b => some (.bool (decide (a.toList ≠ b.toList)))
  | .lss, .string a, .string b => some (.bool (Op.bytesLess a.toList b.toList))
  | .leq, .string a, .string b => some (.bool (Op.bytesLess a.toList b.toList || decide (a.toList = b.toList)))
  | .gtr, .string a, .string b => some (.bool !(Op.bytesLess a.toList b.toList || decide (a.toList = b.toList)))
  | .geq, .string a, .string b => some (.bool !(Op.bytesLess a.toList b.toList))
  | _, _, _ => none
theorem beq_toList (a b : List UInt8) : (a == b) = decide (a = b) := by
  by_cases h : a = b
  · subst h; simp
  · simp [h]
theorem run_binV (P : Program) (op : BinOp) (t : TypeId) (x y : Operand) (a b v : Value) (w : World) (h : binV op a b = some v) :
    (do eqGuard op t x y a b; binOp op t a b : Sem Value).run P w = .ok v w := by
  cases a <;> cases b
  case int.int k a k' b =>
    cases op <;> simp only [binV] at h
    all_goals first
      | cases h
      | (obtain ⟨rfl, rfl⟩ := sameK_some h
         simp [eqGuard, binOp, Op.intArith, Op.intBits, Op.intCmp, bitV, go_sem]
         done)
      | (obtain ⟨rfl, rfl⟩ := sameK_some h
         simp [eqGuard, binOp, Op.intArith, Op.intBits, Op.intCmp, bitV, go_sem]
         rfl)
  case string.string a b =>
    cases op <;> simp only [binV] at h
    all_goals cases h
    all_goals simp [eqGuard, binOp, Op.stringOp, beq_toList, go_sem]
  all_goals (cases op <;> simp [binV] at h)
def convV (tt : List (Nat × TI)) (s d : TypeId) : Value → Option Value
  | .int k n => match lk s tt, lk d tt with
    | some ⟨_, _, .int _, _⟩, some ⟨_, _, .int k', _⟩ => some (.int k' (k'.wrap n))
    | _, _ => none
  | .string b => match lk s tt, lk d tt with
    | some ⟨_, _, .str, _⟩, some ⟨_, _, .str, _⟩ => some (.string b)
    | _, _ => none
  | _ => none
theorem und_int {P : Program} {t : TypeId} {ti : TI} {k : IntKind} (h : TIok P t ti) (hk : ti.kind = .int k) (w : World) : (underlying t).run P w = .ok (.int k) w := by
  obtain ⟨d, h1, h2⟩ := h.und
  rw [hk] at h2
  simp only at h2
  subst h2
  simp [underlying, h1]
theorem und_str {P : Program} {t : TypeId} {ti : TI} (h : TIok P t ti) (hk : ti.kind = .str) (w : World) : (underlying t).run P w = .ok .string w := by
  obtain ⟨d, h1, h2⟩ := h.und
  rw [hk] at h2
  simp only at h2
  subst h2
  simp [underlying, h1]
theorem und_sl {P : Program} {t : TypeId} {ti : TI} {e : Nat} (h : TIok P t ti) (hk : ti.kind = .sl e) (w : World) : (underlying t).run P w = .ok (.slice e) w := by
  obtain ⟨d, h1, h2⟩ := h.und
  rw [hk] at h2
  simp only at h2
  subst h2
  simp [underlying, h1]
theorem und_ptr {P : Program} {t : TypeId} {ti : TI} {e : Nat} (h : TIok P t ti) (hk : ti.kind = .ptr e) (w : World) : (underlying t).run P w = .ok (.pointer e) w := by
  obtain ⟨d, h1, h2⟩ := h.und
  rw [hk] at h2
  simp only at h2
  subst h2
  simp [underlying, h1]
theorem und_arr {P : Program} {t : TypeId} {ti : TI} {n e : Nat} (h : TIok P t ti) (hk : ti.kind = .arr n e) (w : World) : (underlying t).run P w = .ok (.array n e) w := by
  obtain ⟨d, h1, h2⟩ := h.und
  rw [hk] at h2
  simp only at h2
  subst h2
  simp [underlying, h1]
theorem und_bool {P : Program} {t : TypeId} {ti : TI} (h : TIok P t ti) (hk : ti.kind = .bool) (w : World) : (underlying t).run P w = .ok .bool w := by
  obtain ⟨d, h1, h2⟩ := h.und
  rw [hk] at h2
  simp only at h2
  subst h2
  simp [underlying, h1]
theorem und_st {P : Program} {t : TypeId} {ti : TI} {fs : List (Nat × Nat)} (h : TIok P t ti) (hk : ti.kind = .st fs) : ∃ fields, (∀ w, (underlying t).run P w = .ok (.struct fields) w) ∧ fields.toList.map (fun f => (f.offset, f.type)) = fs := by
  obtain ⟨d, h1, h2⟩ := h.und
  rw [hk] at h2
  simp only at h2
  obtain ⟨fields, rfl, h3⟩ := h2
  exact ⟨fields, fun w => by simp [underlying, h1], h3⟩
theorem run_convV {P : Program} {tt : List (Nat × TI)} (htt : TTok P tt) (s d : TypeId) (x v : Value) (w : World) (h : convV tt s d x = some v) : (convert s d x).run P w = .ok v w := by
  cases x <;> simp only [convV] at h <;> try cases h
  case int k n =>
    split at h
    · rename_i h1 h2
      cases h
      have e1 := und_int (htt _ _ h1) rfl w
      have e2 := und_int (htt _ _ h2) rfl w
      simp [convert, e1, e2, Conv.intToInt]
    · cases h
  case string b =>
    split at h
    · rename_i h1 h2
      cases h
      have e1 := und_str (htt _ _ h1) rfl w
      have e2 := und_str (htt _ _ h2) rfl w
      simp [convert, e1, e2]
    · cases h
/-- a field of a struct's cells, an element of an array's -/
def partA (tt : List (Nat × TI)) (t : Nat) (xs : List AV) (off : Nat) : Option AV :=
  match lk t tt with
  | some ti => match ti.kind.isAgg with
    | true => some (.agg ((xs.drop off).take ti.size))
    | false => xs[off]?
  | none => none
theorem run_partA {P : Program} {tt : List (Nat × TI)} (htt : TTok P tt) (ρ : Env) (t : Nat) (xs : List AV) (off : Nat) (v : AV) (w : World) (h : partA tt t xs off = some v) :
    (part t (AV.concs ρ xs).toArray off).run P w = .ok (v.conc ρ) w := by
  unfold partA at h
  split at h
  · rename_i ti hti
    have e1 := (htt _ _ hti).run_isAgg w
    have e2 := (htt _ _ hti).run_size w
    cases hk : ti.kind.isAgg <;> rw [hk] at h e1 <;> simp only at h
    · have : (AV.concs ρ xs)[off]? = some (v.conc ρ) := by rw [concs_map, List.getElem?_map, h]; rfl
      simp [part, e1, this]
    · cases h
      simp [part, e1, e2, AV.conc, concs_map, List.map_drop, List.map_take]
  · cases h
theorem und_fnc {P : Program} {t : TypeId} {ti : TI} (h : TIok P t ti) (hk : ti.kind = .fnc) : ∃ x y z, ∀ w, (underlying t).run P w = .ok (.func x y z) w := by
  obtain ⟨d, h1, h2⟩ := h.und
  rw [hk] at h2
  simp only at h2
  obtain ⟨x, y, z, rfl⟩ := h2
  exact ⟨x, y, z, fun w => by simp [underlying, h1]⟩
def AV.cellsA : AV → Option (List AV)
  | .agg xs => some xs
  | .tup _ => none
  | .raw (.agg _) => none
  | .raw (.tuple _) => none
  | v => some [v]
theorem cellsA_conc {v : AV} {xs : List AV} (h : v.cellsA = some xs) (ρ : Env) : (v.conc ρ).cells.toList = AV.concs ρ xs := by
  cases v with
  | agg ys => cases h; simp [AV.conc, Value.cells]
  | tup ys => cases h
  | raw u => cases u <;> cases h <;> simp [AV.conc, Value.cells, AV.concs]
  | _ => cases h; simp [AV.conc, Value.cells, AV.concs]
/-- cells laid over others from a place on -/
def setsA {α : Type} : List α → Nat → List α → List α
  | xs, _, [] => xs
  | xs, off, y :: ys => setsA (xs.set off y) (off + 1) ys
theorem setsA_foldl {α : Type} (ys : List α) : ∀ (xs : Array α) (off k : Nat), (ys.zipIdx k).foldl (fun cs (p : α × Nat) => cs.setIfInBounds (off + p.2) p.1) xs = (setsA xs.toList (off + k) ys).toArray := by
  induction ys with
  | nil => intro xs off k; simp [setsA]
  | cons y ys ih =>
    intro xs off k
    simp only [List.zipIdx_cons, List.foldl_cons, setsA]
    rw [ih]
    congr 1
    simp [Nat.add_assoc]
theorem concs_set (ρ : Env) (xs : List AV) (i : Nat) (v : AV) : AV.concs ρ (xs.set i v) = (AV.concs ρ xs).set i (v.conc ρ) := by
  rw [concs_map, concs_map, List.map_set]
theorem concs_sets (ρ : Env) (ys : List AV) : ∀ (xs : List AV) (off : Nat), AV.concs ρ (setsA xs off ys) = setsA (AV.concs ρ xs) off (AV.concs ρ ys) := by
  induction ys with
  | nil => intro xs off; rfl
  | cons y ys ih => intro xs off; simp only [setsA, AV.concs]; rw [ih, concs_set]
/-- the parts of a struct or an array, laid over its zero -/
def fillA (pl : Nat → Option (Nat × Nat)) : List AV → List (Nat × AV) → Option (List AV)
  | cells, [] => some cells
  | cells, (i, v) :: rest => match pl i, v.cellsA with
    | some (off, size), some xs => match xs.length == size && Nat.ble (off + xs.length) cells.length with
      | true => fillA pl (setsA cells off xs) rest
      | false => none
    | _, _ => none
theorem fillA_fill (pl : Nat → Option (Nat × Nat)) (ρ : Env) (parts : List (Nat × AV)) : ∀ (cells out : List AV), fillA pl cells parts = some out →
    Instr.fill pl (AV.concs ρ cells).toArray (parts.map fun p => (p.1, p.2.conc ρ)) = some (AV.concs ρ out).toArray := by
  induction parts with
  | nil => intro cells out h; cases h; rfl
  | cons p rest ih =>
    intro cells out h
    obtain ⟨i, v⟩ := p
    simp only [fillA] at h
    split at h
    · rename_i off size xs h1 h2
      have hc := cellsA_conc h2 ρ
      have hl : (v.conc ρ).cells.size = xs.length := by rw [← Array.length_toList, hc, concs_length]
      split at h
      · rename_i hb
        simp only [Bool.and_eq_true, beq_iff_eq, Nat.ble_eq] at hb
        have := ih _ _ h
        simp only [List.map_cons, Instr.fill, h1, hl]
        rw [if_neg (by simp [concs_length]; omega)]
        rw [concs_sets] at this
        have e : (v.conc ρ).cells.zipIdx.foldl (fun cs (p : Value × Nat) => cs.setIfInBounds (off + p.2) p.1) (AV.concs ρ cells).toArray = (setsA (AV.concs ρ cells) off (AV.concs ρ xs)).toArray := by
          rw [← Array.foldl_toList, Array.toList_zipIdx, hc]
          exact setsA_foldl _ _ off 0
        rw [← this, ← e]
      · cases h
    · cases h
/-- the parts' values -/
def evParts (e : Operand → Option AV) : List (Nat × Operand) → Option (List (Nat × AV))
  | [] => some []
  | (i, x) :: r => match e x, evParts e r with
    | some v, some l => some ((i, v) :: l)
    | _, _ => none
theorem evParts_conc {e : Operand → Option AV} {ec : Operand → Value} {ρ : Env} (he : ∀ x v, e x = some v → ec x = v.conc ρ) (ps : List (Nat × Operand)) : ∀ l, evParts e ps = some l → ps.map (fun p => (p.1, ec p.2)) = l.map fun p => (p.1, p.2.conc ρ) := by
  induction ps with
  | nil => intro l h; cases h; rfl
  | cons p r ih =>
    intro l h
    obtain ⟨i, x⟩ := p
    simp only [evParts] at h
    split at h
    · rename_i v l' h1 h2
      cases h
      simp [ih _ h2, he _ _ h1]
    · cases h
/-- the operands' values -/
def evList (e : Operand → Option AV) : List Operand → Option (List AV)
  | [] => some []
  | x :: r => match e x, evList e r with
    | some v, some l => some (v :: l)
    | _, _ => none
theorem evList_conc {e : Operand → Option AV} {ec : Operand → Value} {ρ : Env} (he : ∀ x v, e x = some v → ec x = v.conc ρ) (ps : List Operand) : ∀ l, evList e ps = some l → ps.map ec = AV.concs ρ l := by
  induction ps with
  | nil => intro l h; cases h; rfl
  | cons x r ih =>
    intro l h
    simp only [evList] at h
    split at h
    · rename_i v l' h1 h2
      cases h
      simp [ih _ h2, he _ _ h1, AV.concs]
    · cases h
def szA (tt : List (Nat × TI)) (t : Nat) : Option Nat := (lk t tt).map (·.size)
/-- where parts lie -/
def placeA (tt : List (Nat × TI)) : TK → Nat → Option (Nat × Nat)
  | .st fs, i => match fs[i]? with
    | some (off, ft) => match lk ft tt with
      | some ti => some (off, ti.size)
      | none => none
    | none => none
  | .arr n e, i => match lk e tt with
    | some ti => some (i * ti.size, ti.size)
    | none => none
  | _, _ => none
end Go.Proofs.Yteabncomclgncaa
namespace Go.Proofs.Yteabncomclgncaa
set_option linter.unusedVariables false
set_option linter.unusedSimpArgs false
open Go.RowKit
theorem run_mapM_list {P : Program} {α β : Type} (f : α → Sem β) (g : α → β) (w : World) : ∀ l : List α, (∀ x ∈ l, (f x).run P w = .ok (g x) w) → (l.mapM f).run P w = .ok (l.map g) w := by
  intro l
  induction l with
  | nil => intro _; rfl
  | cons x l ih =>
    intro h
    rw [List.mapM_cons]
    simp [h x (by simp), ih (fun y hy => h y (by simp [hy]))]
theorem run_mapM_array {P : Program} {α β : Type} (f : α → Sem β) (g : α → β) (w : World) (l : Array α) (h : ∀ x ∈ l.toList, (f x).run P w = .ok (g x) w) : (l.mapM f).run P w = .ok (l.map g) w := by
  rw [Array.mapM_eq_mapM_toList]
  have := run_mapM_list (P := P) f g w l.toList h
  rw [← bind_pure_comp]
  simp only [Sem.run_bind, this, Result.andThen_ok, Sem.run_pure]
  congr 1
  apply Array.ext'
  simp
/-- what an operation gives -/
def act (tt : List (Nat × TI)) (hl : Nat → Option AO) (e : Operand → Option AV) : Op → Option AV
  | .move x => e x
  | .assign x => e x
  | .pick c a b => match e c with
    | some (.raw (.bool true)) => e a
    | some (.raw (.bool false)) => e b
    | _ => none
  | .extract t i => match e t with
    | some (.tup xs) => xs[i]?
    | _ => none
  | .field t x f => match e x, lk t tt with
    | some (.agg xs), some ⟨_, _, .st fs, _⟩ => match fs[f]? with
      | some (off, ft) => partA tt ft xs off
      | none => none
    | _, _ => none
  | .fieldAddr t x f => match e x, lk t tt with
    | some (.ptr l w i c), some ⟨_, _, .st fs, _⟩ => match fs[f]? with
      | some (off, ft) => match lk ft tt with
        | some ⟨k + 1, _, _, _⟩ => some (.ptr l w i (c + off))
        | _ => none
      | none => none
    | some (.raw (.pointer (some ⟨b, o, none⟩))), some ⟨_, _, .st fs, _⟩ => match fs[f]? with
      | some (off, ft) => match lk ft tt with
        | some ⟨k + 1, _, _, _⟩ => some (.raw (.pointer (some ⟨b, o + off, none⟩)))
        | _ => none
      | none => none
    | _, _ => none
  | .nilCheck x => match e x with
    | some (.ptr l w i c) => some (.ptr l w i c)
    | some (.fn f cs) => some (.fn f cs)
    | some (.raw (.pointer (some a))) => some (.raw (.pointer (some a)))
    | _ => none
  | .load t x => match e x, lk t tt with
    | some (.ptr l w i c), some ti => match hl l with
      | some (.cells xs _) => match ti.kind.isAgg with
        | true => match Nat.ble (i * w + c + ti.size) xs.length with
          | true => some (.agg ((xs.drop (i * w + c)).take ti.size))
          | false => none
        | false => xs[i * w + c]?
      | _ => none
    | _, _ => none
  | .binOp op t x y _ => match e x, e y with
    | some (.raw a), some (.raw b) => match binV op a b with
      | some v => some (.raw v)
      | none => match op, a, b, lk t tt with
        | .eql, .pointer none, .pointer none, some ⟨_, _, .ptr _, _⟩ => some (.raw (.bool true))
        | .neq, .pointer none, .pointer none, some ⟨_, _, .ptr _, _⟩ => some (.raw (.bool false))
        | .eql, .pointer (some _), .pointer none, some ⟨_, _, .ptr _, _⟩ => some (.raw (.bool false))
        | .neq, .pointer (some _), .pointer none, some ⟨_, _, .ptr _, _⟩ => some (.raw (.bool true))
        | .eql, .bool p, .bool q, some ⟨_, _, .bool, _⟩ => some (.raw (.bool (p == q)))
        | .neq, .bool p, .bool q, some ⟨_, _, .bool, _⟩ => some (.raw (.bool (!(p == q))))
        | _, _, _, _ => none
    | some (.ptr l w i c), some (.raw (.pointer none)) => match op, lk t tt with
      | .eql, some ⟨_, _, .ptr _, _⟩ => some (.raw (.bool false))
      | .neq, some ⟨_, _, .ptr _, _⟩ => some (.raw (.bool true))
      | _, _ => none
    | some (.fn f cs), some (.raw .nilFunc) => match op, lk t tt with
      | .eql, some ⟨_, _, .fnc, _⟩ => some (.raw (.bool false))
      | .neq, some ⟨_, _, .fnc, _⟩ => some (.raw (.bool true))
      | _, _ => none
    | _, _ => none
  | .unOp .not _ x => match e x with
    | some (.raw (.bool b)) => some (.raw (.bool (!b)))
    | _ => none
  | .unOp .neg _ x => match e x with
    | some (.raw (.int k n)) => some (.raw (.int k (k.wrap (0 - n))))
    | _ => none
  | .convert s d x => match e x with
    | some (.raw v) => (convV tt s d v).map .raw
    | _ => none
  | .build t parts => match lk t tt, evParts e parts.toList with
    | some ti, some l => match ti.kind with
      | .st fs => match fs.all fun p => (lk p.2 tt).isSome with
        | true => (fillA (placeA tt ti.kind) (ti.zero.map .raw) l).map .agg
        | false => none
      | .arr n el => match (lk el tt).isSome with
        | true => (fillA (placeA tt ti.kind) (ti.zero.map .raw) l).map .agg
        | false => none
      | _ => none
    | _, _ => none
  | .makeFunc (.func f) first cs => match first.toList with
    | [] => (evList e cs.toList).map (.fn f)
    | _ => none
  | .call c => match c.callee, c.args.toList, c.argTypes.toList with
    | .builtin .len, [x], [t] => match e x, lk t tt with
      | some (.sl l w off n cap), some ⟨_, _, .sl _, _⟩ => some (.raw (.int .i64 (n : Int)))
      | some (.raw (.slice a n cap)), some ⟨_, _, .sl _, _⟩ => some (.raw (.int .i64 (n : Int)))
      | some (.raw (.string s)), some ⟨_, _, .str, _⟩ => some (.raw (.int .i64 (s.size : Int)))
      | _, some ⟨_, _, .arr n _, _⟩ => some (.raw (.int .i64 (n : Int)))
      | _, _ => none
    | .builtin .max, [x, y], _ => match e x, e y with
      | some (.raw (.int k a)), some (.raw (.int _ b)) => some (.raw (.int k (max a b)))
      | _, _ => none
    | .builtin .min, [x, y], _ => match e x, e y with
      | some (.raw (.int k a)), some (.raw (.int _ b)) => some (.raw (.int k (min a b)))
      | _, _ => none
    | _, _, _ => none
  | _ => none
end Go.Proofs.Yteabncomclgncaa
namespace Go.Proofs.Yteabncomclgncaa
set_option linter.unusedVariables false
set_option linter.unusedSimpArgs false
set_option linter.unusedSectionVars false
open Go.RowKit
theorem addr_add0 (b o n : Nat) : (⟨b, o, none⟩ : Addr).add n = ⟨b, o + n, none⟩ := by
  unfold Addr.add
  split
  · rename_i h; subst h; rfl
  · rfl
theorem run_loadVar_cells {P : Program} {t : TypeId} {ti : TI} (h : TIok P t ti) {w : World} {b o : Nat} {cs : List Value} {T : TypeId} {fr : Nat × Nat} (hb : w.heap[b]? = some (.cells cs.toArray T fr)) (v : Value)
    (hv : if ti.kind.isAgg then o + ti.size ≤ cs.length ∧ v = .agg ((cs.drop o).take ti.size).toArray else cs[o]? = some v) : (loadVar t ⟨b, o, none⟩).run P w = .ok v w := by
  have e1 := h.run_isAgg w
  have e2 := h.run_size w
  cases hk : ti.kind.isAgg <;> rw [hk] at hv e1
  · simp only [Bool.false_eq_true, if_false] at hv
    have hc : w.cell? ⟨b, o, none⟩ = some v := by rw [cell_of_row w b o _ T fr hb]; simpa using hv
    simp [loadVar, e1, hc]
  · simp only [if_true] at hv
    obtain ⟨h1, rfl⟩ := hv
    have hl : ((cs.drop o).take ti.size).length = ti.size := by simp; omega
    have := run_loadCells_list (P := P) w ⟨b, o, none⟩ ((cs.drop o).take ti.size) (fun j u hj => by
      rw [addr_add0, cell_of_row w b (o + j) _ T fr hb]
      have hlt := (List.getElem?_eq_some_iff.1 hj).1
      simp at hlt
      rw [List.getElem?_take, List.getElem?_drop] at hj
      split at hj
      · simpa using hj
      · cases hj)
    rw [hl] at this
    simp [loadVar, e1, e2, this]
theorem concs_drop (ρ : Env) (xs : List AV) (n : Nat) : (AV.concs ρ xs).drop n = AV.concs ρ (xs.drop n) := by simp [concs_map, List.map_drop]
theorem concs_take (ρ : Env) (xs : List AV) (n : Nat) : (AV.concs ρ xs).take n = AV.concs ρ (xs.take n) := by simp [concs_map, List.map_take]
theorem concs_get {ρ : Env} {xs : List AV} {i : Nat} {v : AV} (h : xs[i]? = some v) : (AV.concs ρ xs)[i]? = some (v.conc ρ) := by rw [concs_map, List.getElem?_map, h]; rfl
theorem conc_raw_list (ρ : Env) (l : List Value) : AV.concs ρ (l.map .raw) = l := by
  induction l with
  | nil => rfl
  | cons x l ih => simp [AV.concs, AV.conc, ih]
/-- a field's offset -/
theorem fieldAt_st {fields : Array Field} {fs : List (Nat × Nat)} (hf : fields.toList.map (fun f => (f.offset, f.type)) = fs) {i off ft : Nat} (h : fs[i]? = some (off, ft)) : ∃ f, fields[i]? = some f ∧ f.offset = off ∧ f.type = ft := by
  subst hf
  rw [List.getElem?_map] at h
  cases hx : fields.toList[i]? with
  | none => rw [hx] at h; cases h
  | some f =>
    rw [hx] at h
    simp only [Option.map_some, Option.some.injEq, Prod.mk.injEq] at h
    exact ⟨f, by simpa using hx, h.1, h.2⟩
section
variable {P : Program} {w : World}
theorem run_ptr_eq {t : TypeId} {el : Nat} (hp : (underlying t).run P w = .ok (.pointer el) w) (a : Option Addr) (x y : Operand) :
    (do eqGuard .eql t x y (.pointer a) (.pointer none); binOp .eql t (.pointer a) (.pointer none) : Sem Value).run P w = .ok (.bool a.isNone) w := by
  have e1 : binOp .eql t (.pointer a) (.pointer none) = (do pure (.bool (← Op.equal t (.pointer a) (.pointer none)))) := rfl
  have e2 : (Op.equalIn (9999 + 1) t (.pointer a) (.pointer none)).run P w = .ok a.isNone w := by
    unfold Op.equalIn
    cases a <;> simp [hp]
  rw [e1]
  simp [eqGuard, Op.equal, Op.maxDepth, e2]
theorem run_ptr_ne {t : TypeId} {el : Nat} (hp : (underlying t).run P w = .ok (.pointer el) w) (a : Option Addr) (x y : Operand) :
    (do eqGuard .neq t x y (.pointer a) (.pointer none); binOp .neq t (.pointer a) (.pointer none) : Sem Value).run P w = .ok (.bool !a.isNone) w := by
  have e1 : binOp .neq t (.pointer a) (.pointer none) = (do pure (.bool (!(← Op.equal t (.pointer a) (.pointer none))))) := rfl
  have e2 : (Op.equalIn (9999 + 1) t (.pointer a) (.pointer none)).run P w = .ok a.isNone w := by
    unfold Op.equalIn
    cases a <;> simp [hp]
  rw [e1]
  simp [eqGuard, Op.equal, Op.maxDepth, e2]
theorem run_bool_eq {t : TypeId} (hp : (underlying t).run P w = .ok .bool w) (a b : Bool) (x y : Operand) :
    (do eqGuard .eql t x y (.bool a) (.bool b); binOp .eql t (.bool a) (.bool b) : Sem Value).run P w = .ok (.bool (a == b)) w := by
  have e1 : binOp .eql t (.bool a) (.bool b) = (do pure (.bool (← Op.equal t (.bool a) (.bool b)))) := rfl
  have e2 : (Op.equalIn (9999 + 1) t (.bool a) (.bool b)).run P w = .ok (a == b) w := by
    unfold Op.equalIn
    simp [hp]
  rw [e1]
  simp [eqGuard, Op.equal, Op.maxDepth, e2]
theorem run_bool_ne {t : TypeId} (hp : (underlying t).run P w = .ok .bool w) (a b : Bool) (x y : Operand) :
    (do eqGuard .neq t x y (.bool a) (.bool b); binOp .neq t (.bool a) (.bool b) : Sem Value).run P w = .ok (.bool (!(a == b))) w := by
  have e1 : binOp .neq t (.bool a) (.bool b) = (do pure (.bool (!(← Op.equal t (.bool a) (.bool b))))) := rfl
  have e2 : (Op.equalIn (9999 + 1) t (.bool a) (.bool b)).run P w = .ok (a == b) w := by
    unfold Op.equalIn
    simp [hp]
  rw [e1]
  simp [eqGuard, Op.equal, Op.maxDepth, e2]
theorem run_fn_eq {t : TypeId} {p q : Array TypeId} {r : Bool} (hp : (underlying t).run P w = .ok (.func p q r) w) (f : Fn) (c d : Array Value) (x y : Operand) :
    (do eqGuard .eql t x y (.func f c d) .nilFunc; binOp .eql t (.func f c d) .nilFunc : Sem Value).run P w = .ok (.bool false) w := by
  have e1 : binOp .eql t (.func f c d) .nilFunc = (do pure (.bool (← Op.equal t (.func f c d) .nilFunc))) := rfl
  have e2 : (Op.equalIn (9999 + 1) t (.func f c d) .nilFunc).run P w = .ok false w := by
    unfold Op.equalIn
    simp [hp]
  rw [e1]
  simp [eqGuard, Op.equal, Op.maxDepth, e2]
theorem run_fn_ne {t : TypeId} {p q : Array TypeId} {r : Bool} (hp : (underlying t).run P w = .ok (.func p q r) w) (f : Fn) (c d : Array Value) (x y : Operand) :
    (do eqGuard .neq t x y (.func f c d) .nilFunc; binOp .neq t (.func f c d) .nilFunc : Sem Value).run P w = .ok (.bool true) w := by
  have e1 : binOp .neq t (.func f c d) .nilFunc = (do pure (.bool (!(← Op.equal t (.func f c d) .nilFunc)))) := rfl
  have e2 : (Op.equalIn (9999 + 1) t (.func f c d) .nilFunc).run P w = .ok false w := by
    unfold Op.equalIn
    simp [hp]
  rw [e1]
  simp [eqGuard, Op.equal, Op.maxDepth, e2]
end
section
variable {P : Program} {tt : List (Nat × TI)} (htt : TTok P tt) {ρ : Env} {w : World} {hl : Nat → Option AO} (hh : ∀ l o, hl l = some o → o.holds ρ (ρ l) w)
  {e : Operand → Option AV} {ec : Operand → Value} (he : ∀ x v, e x = some v → ec x = v.conc ρ)
include htt hh he
theorem act_field (t : TypeId) (x : Operand) (f : Nat) (v : AV) (h : act tt hl e (.field t x f) = some v) : (Instr.field t (ec x) f).run P w = .ok (v.conc ρ) w := by
  simp only [act] at h
  split at h
  · rename_i xs sz bt fs z h1 h2
    split at h
    · rename_i off ft h3
      obtain ⟨fields, hu, hf⟩ := und_st (htt _ _ h2) rfl
      obtain ⟨fd, hfd, rfl, rfl⟩ := fieldAt_st hf h3
      rw [he _ _ h1]
      simp [Instr.field, hu, hfd, AV.conc, asAgg, run_partA htt ρ _ _ _ _ w h]
    · cases h
  · cases h
theorem act_fieldAddr (t : TypeId) (x : Operand) (f : Nat) (v : AV) (h : act tt hl e (.fieldAddr t x f) = some v) : (Instr.fieldAt t (ec x) f).run P w = .ok (v.conc ρ) w := by
  simp only [act] at h
  split at h
  · rename_i l wd i c sz bt fs z h1 h2
    split at h
    · rename_i off ft h3
      split at h
      · rename_i k bt2 kk zz h4
        cases h
        obtain ⟨fields, hu, hf⟩ := und_st (htt _ _ h2) rfl
        obtain ⟨fd, hfd, rfl, rfl⟩ := fieldAt_st hf h3
        have e2 := (htt _ _ h4).run_size w
        rw [he _ _ h1]
        simp [Instr.fieldAt, hu, hfd, AV.conc, Instr.sureAddr, fieldPlace, e2, addr_add0, Nat.add_assoc]
      · cases h
    · cases h
  · rename_i b o sz bt fs z h1 h2
    split at h
    · rename_i off ft h3
      split at h
      · rename_i k bt2 kk zz h4
        cases h
        obtain ⟨fields, hu, hf⟩ := und_st (htt _ _ h2) rfl
        obtain ⟨fd, hfd, rfl, rfl⟩ := fieldAt_st hf h3
        have e2 := (htt _ _ h4).run_size w
        rw [he _ _ h1]
        simp [Instr.fieldAt, hu, hfd, AV.conc, Instr.sureAddr, fieldPlace, e2, addr_add0, Nat.add_assoc]
      · cases h
    · cases h
  · cases h
theorem act_load (t : TypeId) (x : Operand) (v : AV) (h : act tt hl e (.load t x) = some v) : (Instr.loadAt t (ec x)).run P w = .ok (v.conc ρ) w := by
  simp only [act] at h
  split at h
  · rename_i l wd i c ti h1 h2
    split at h
    · rename_i xs ty h3
      obtain ⟨b, hr, hb⟩ := hh _ _ h3
      rw [he _ _ h1]
      simp only [AV.conc, hr, Option.getD_some, Instr.loadAt, Instr.sureAddr, Sem.run_bind, Sem.run_pure, Result.andThen_ok]
      refine run_loadVar_cells (htt _ _ h2) hb _ ?_
      cases hk : ti.kind.isAgg <;> rw [hk] at h <;> simp only at h
      · simp only [Bool.false_eq_true, if_false]
        exact concs_get h
      · split at h
        · rename_i hle
          cases h
          simp only [if_true]
          rw [concs_length]
          refine ⟨by simpa using hle, ?_⟩
          simp only [AV.conc]
          rw [concs_drop, concs_take]
        · cases h
    · cases h
  · cases h
theorem act_binOp (op : BinOp) (t u : TypeId) (x y : Operand) (v : AV) (h : act tt hl e (.binOp op t x y u) = some v) :
    (do eqGuard op t x y (ec x) (ec y); binOp op t (ec x) (ec y) : Sem Value).run P w = .ok (v.conc ρ) w := by
  simp only [act] at h
  split at h
  · rename_i a b h1 h2
    rw [he _ _ h1, he _ _ h2]
    simp only [AV.conc]
    split at h
    · rename_i r hr
      cases h
      exact run_binV P op t x y a b r w hr
    · split at h <;> first | cases h | skip
      · rename_i h3 _; exact run_ptr_eq (und_ptr (htt _ _ h3) rfl w) none x y
      · rename_i h3 _; exact run_ptr_ne (und_ptr (htt _ _ h3) rfl w) none x y
      · rename_i h3 _; exact run_ptr_eq (und_ptr (htt _ _ h3) rfl w) (some _) x y
      · rename_i h3 _; exact run_ptr_ne (und_ptr (htt _ _ h3) rfl w) (some _) x y
      · rename_i h3 _; exact run_bool_eq (und_bool (htt _ _ h3) rfl w) _ _ x y
      · rename_i h3 _; exact run_bool_ne (und_bool (htt _ _ h3) rfl w) _ _ x y
  · rename_i h1 h2
    rw [he _ _ h1, he _ _ h2]
    split at h <;> first | cases h | skip
    · rename_i h3; exact run_ptr_eq (und_ptr (htt _ _ h3) rfl w) (some _) x y
    · rename_i h3; exact run_ptr_ne (und_ptr (htt _ _ h3) rfl w) (some _) x y
  · rename_i h1 h2
    rw [he _ _ h1, he _ _ h2]
    split at h <;> first | cases h | skip
    · rename_i h3; obtain ⟨p, q, r, hp⟩ := und_fnc (htt _ _ h3) rfl; exact run_fn_eq (hp w) _ _ _ x y
    · rename_i h3; obtain ⟨p, q, r, hp⟩ := und_fnc (htt _ _ h3) rfl; exact run_fn_ne (hp w) _ _ _ x y
  · cases h
theorem act_build (t : TypeId) (parts : Array (Nat × Operand)) (v : AV) (h : act tt hl e (.build t parts) = some v) :
    (Instr.build t (parts.map fun p => (p.1, ec p.2))).run P w = .ok (v.conc ρ) w := by
  simp only [act] at h
  split at h
  · rename_i ti l h1 h2
    have hz := (htt _ _ h1).run_zero w
    have hp := evParts_conc he _ _ h2
    split at h
    · rename_i fs hk
      split at h
      · rename_i hall
        obtain ⟨fields, hu, hf⟩ := und_st (htt _ _ h1) hk
        have hag : ti.kind.isAgg = true := by rw [hk]; rfl
        simp only [hag, if_true] at hz
        obtain ⟨out, ho, rfl⟩ := Option.map_eq_some_iff.1 h
        have hfill := fillA_fill _ ρ _ _ _ ho
        rw [conc_raw_list] at hfill
        have hm := run_mapM_array (P := P) (fun f : Field => do pure (f.offset, ← sizeOf f.type) : Field → Sem (Nat × Nat)) (fun f => (f.offset, (szA tt f.type).getD 0)) w fields (fun f hfm => by
          have hm : (f.offset, f.type) ∈ fs := by rw [← hf]; exact List.mem_map.2 ⟨f, hfm, rfl⟩
          have hs := List.all_eq_true.1 hall _ hm
          obtain ⟨ti2, h5⟩ := Option.isSome_iff_exists.1 hs
          have e2 := (htt _ _ h5).run_size w
          simp only at h5
          simp [e2, szA, h5])
        have hpl : (fun i => (fields.map fun f => (f.offset, (szA tt f.type).getD 0))[i]?) = placeA tt ti.kind := by
          funext i
          rw [hk]
          simp only [placeA, ← hf, List.getElem?_map, Array.getElem?_map, Array.getElem?_toList]
          cases hx : fields[i]? with
          | none => simp
          | some f =>
            have hm : (f.offset, f.type) ∈ fs := by rw [← hf]; exact List.mem_map.2 ⟨f, by simpa using Array.mem_of_getElem? hx, rfl⟩
            have hs := List.all_eq_true.1 hall _ hm
            obtain ⟨ti2, h5⟩ := Option.isSome_iff_exists.1 hs
            simp only at h5
            simp [szA, h5]
        simp only [Instr.build, Sem.run_bind, hz, Result.andThen_ok, hu, hm, Value.cells, Array.toList_map, hp, AV.conc]
        rw [hpl, hfill]
        rfl
      · cases h
    · rename_i n el hk
      split at h
      · rename_i hall
        have hu := und_arr (htt _ _ h1) hk w
        have hag : ti.kind.isAgg = true := by rw [hk]; rfl
        simp only [hag, if_true] at hz
        obtain ⟨out, ho, rfl⟩ := Option.map_eq_some_iff.1 h
        have hfill := fillA_fill _ ρ _ _ _ ho
        rw [conc_raw_list] at hfill
        obtain ⟨ti2, h5⟩ := Option.isSome_iff_exists.1 hall
        have e2 := (htt _ _ h5).run_size w
        have hpl : (fun i => some (i * ti2.size, ti2.size)) = placeA tt ti.kind := by
          funext i
          rw [hk]
          simp [placeA, h5]
        simp only [Instr.build, Sem.run_bind, hz, Result.andThen_ok, hu, e2, Value.cells, Array.toList_map, hp, AV.conc]
        rw [hpl, hfill]
        rfl
      · cases h
    · cases h
  · cases h
theorem act_len (t : TypeId) (x : Operand) (ty : TypeId) (v : AV) (h : act tt hl e (.call { callee := .builtin .len, args := #[x], argTypes := #[t] }) = some v) : (Builtin.len_ #[t] ty #[ec x]).run P w = .ok (v.conc ρ) w := by
  simp only [act] at h
  split at h
  · rename_i h1 h2
    cases h
    have hu := und_sl (htt _ _ h2) rfl w
    rw [he _ _ h1]
    simp [Builtin.len_, hu, AV.conc, goInt]
  · rename_i h1 h2
    cases h
    have hu := und_sl (htt _ _ h2) rfl w
    rw [he _ _ h1]
    simp [Builtin.len_, hu, AV.conc, goInt]
  · rename_i h1 h2
    cases h
    have hu := und_str (htt _ _ h2) rfl w
    rw [he _ _ h1]
    simp [Builtin.len_, hu, AV.conc, goInt]
  · rename_i h2
    cases h
    have hu := und_arr (htt _ _ h2) rfl w
    simp [Builtin.len_, hu, AV.conc, goInt]
  · cases h
/-- 'act' tells what an operation comes to. -/
theorem act_sound (o : Oper) (v : AV) (h : act tt hl e o.op = some v) : (execOp ec o).run P w = .ok (.value (v.conc ρ)) w := by
  unfold execOp
  cases ho : o.op <;> rw [ho] at h
  case move x => simp only [act] at h; simp [he _ _ h]
  case assign x => simp only [act] at h; simp [he _ _ h]
  case pick c a b =>
    simp only [act] at h
    split at h
    · rename_i h1; simp [he _ _ h1, he _ _ h, asBool, AV.conc]
    · rename_i h1; simp [he _ _ h1, he _ _ h, asBool, AV.conc]
    · cases h
  case extract t i =>
    simp only [act] at h
    split at h
    · rename_i h1
      have := concs_get (ρ := ρ) h
      simp [he _ _ h1, Instr.extract, AV.conc, this]
    · cases h
  case field t x f => simp [act_field htt hh he t x f v h]
  case fieldAddr t x f => simp [act_fieldAddr htt hh he t x f v h]
  case load t x => simp [act_load htt hh he t x v h]
  case binOp op t x y u => 
    have := act_binOp htt hh he op t u x y v h
    simp only [Sem.run_bind] at this ⊢
    simp [this]
  case nilCheck x =>
    simp only [act] at h
    split at h
    · rename_i h1; cases h; simp [he _ _ h1, AV.conc]
    · rename_i h1; cases h; simp [he _ _ h1, AV.conc]
    · rename_i h1; cases h; simp [he _ _ h1, AV.conc]
    · cases h
  case unOp op t x =>
    cases op <;> simp only [act] at h
    case not =>
      split at h
      · rename_i h1; cases h; simp [he _ _ h1, Op.unary, AV.conc]
      · cases h
    case neg =>
      split at h
      · rename_i h1; cases h; simp [he _ _ h1, Op.unary, Op.intArith, AV.conc]
      · cases h
    all_goals cases h
  case convert s d x =>
    simp only [act] at h
    split at h
    · rename_i u h1
      obtain ⟨r, hr, rfl⟩ := Option.map_eq_some_iff.1 h
      have := run_convV htt s d u r w hr
      simp [he _ _ h1, AV.conc, this]
    · cases h
  case build t parts => simp [act_build htt hh he t parts v h]
  case makeFunc fn first cs =>
    cases fn <;> simp only [act] at h
    case func f =>
      split at h
      · rename_i h1
        obtain ⟨l, h2, rfl⟩ := Option.map_eq_some_iff.1 h
        have := evList_conc he _ _ h2
        obtain rfl : first = #[] := by cases first; simp_all
        have hc : cs.map ec = (AV.concs ρ l).toArray := by rw [← this]; apply Array.ext'; simp
        simp [Instr.makeFunc, AV.conc, hc]
      · cases h
    all_goals cases h
  case call c =>
    obtain ⟨callee, args, argTypes⟩ := c
    simp only [act] at h
    split at h
    · rename_i x t h2 h3
      obtain rfl : args = #[x] := by cases args; simp_all
      obtain rfl : argTypes = #[t] := by cases argTypes; simp_all
      have hx : act tt hl e (.call { callee := .builtin .len, args := #[x], argTypes := #[t] }) = some v := by simp only [act]; exact h
      have := act_len htt hh he t x o.type v hx
      simp [resolve, invoke, builtin, this]
    · rename_i x y h2
      obtain rfl : args = #[x, y] := by cases args; simp_all
      split at h
      · rename_i h3 h4
        cases h
        simp [resolve, invoke, builtin, he _ _ h3, he _ _ h4, AV.conc, Builtin.max_, Builtin.max2, go_sem]
        omega
      · cases h
    · rename_i x y h2
      obtain rfl : args = #[x, y] := by cases args; simp_all
      split at h
      · rename_i h3 h4
        cases h
        simp [resolve, invoke, builtin, he _ _ h3, he _ _ h4, AV.conc, Builtin.min_, Builtin.min2, go_sem]
        omega
      · cases h
    · cases h
  all_goals (simp only [act] at h; cases h)
end
end Go.Proofs.Yteabncomclgncaa
namespace Go.Proofs.Yteabncomclgncaa
set_option linter.unusedVariables false
set_option linter.unusedSimpArgs false
set_option linter.unusedSectionVars false
open Go.RowKit
/-- an operation's outcome: a value and a world -/
def upTo (P : Program) (R : Value → World → Prop) : Result Next → Prop
  | .ok (.value v) w' => R v w'
  | .ok .skip w' => R undef w'
  | .ok (.enter f args) w' => Calls P f args w' fun e w'' => ∃ v, e = .returned v ∧ R v w''
  | _ => False
def goes (P : Program) (o : Oper) (a : Act) (w : World) (R : Value → World → Prop) : Prop := upTo P R ((execOp a.eval o).run P w)
section
variable {P : Program} {o : Oper} {a : Act} {w : World}
theorem upTo_mono {R R' : Value → World → Prop} {r : Result Next} (h : upTo P R r) (hr : ∀ v w', R v w' → R' v w') : upTo P R' r := by
  cases r with
  | ok n w' =>
    cases n <;> simp only [upTo] at h ⊢
    case value v => exact hr _ _ h
    case skip => exact hr _ _ h
    case enter f args => exact h.mono fun e w'' ⟨v, he, hv⟩ => ⟨v, he, hr _ _ hv⟩
  | halt x w' => exact h
theorem goes_mono {R R' : Value → World → Prop} (h : goes P o a w R) (hr : ∀ v w', R v w' → R' v w') : goes P o a w R' := upTo_mono h hr
theorem goes_same {R : Value → World → Prop} {a' : Act} (he : execOp a'.eval o = execOp a.eval o) (h : goes P o a w R) : goes P o a' w R := by
  unfold goes at *; rw [he]; exact h
theorem upTo_some {R : Value → World → Prop} {r : Result Next} (h : upTo P R r) : ∃ v w', R v w' := by
  cases r with
  | ok n w' =>
    cases n <;> simp only [upTo] at h
    case value v => exact ⟨_, _, h⟩
    case skip => exact ⟨_, _, h⟩
    case enter f args =>
      obtain ⟨e, w'', fr, ⟨v, _, hR⟩, _⟩ := h []
      exact ⟨_, _, hR⟩
  | halt x w' => exact h.elim
theorem goes_some {R : Value → World → Prop} (h : goes P o a w R) : ∃ v w', R v w' := upTo_some h
theorem goes_wp {R : Value → World → Prop} {K : Act → World → Prop} {Q : Exit → Act → World → Prop} (h : goes P o a w R) (hk : ∀ v w', R v w' → K (a.put o.dst v) w') : o.wp P a w K Q := by
  unfold goes at h
  unfold Oper.wp
  generalize (execOp a.eval o).run P w = r at h
  cases r with
  | ok n w' =>
    cases n <;> simp only [upTo] at h <;> simp only [Oper.upon]
    case value v => exact hk _ _ h
    case skip => exact hk _ _ h
    case enter f args =>
      refine h.mono ?_
      rintro e w'' ⟨v, rfl, hv⟩
      exact hk _ _ hv
  | halt x w' => exact h.elim
end
section
variable (P : Program) (ops : Array Oper) (Q : Exit → Act → World → Prop) (ch : Nat → Bool) (pr : Nat → Nat → Bool) (st : Nat → Nat)
/-- ch: the chain; pr: what comes ahead of what; st: how many of the chain come ahead; pend: blocks that an operation ahead in the text may look at later -/
def CH : List Nat → List (Nat × Nat) → World → List World → Act → Prop
  | [], _, W, _, a => Q .normal a W
  | j :: rest, pend, W, Ws, a => ∀ o, ops[j]? = some o →
    if Region.wanted o (yielded ops a.tmps) = true then
      if ch j = true then goes P o a W (fun v w' => (∀ p ∈ pend, pr p.1 j = false → w'.heap[p.2]? = W.heap[p.2]?) ∧ CH rest pend w' (W :: Ws) (a.put o.dst v))
      else ∃ (v : Value) (bs : List Nat), (∀ x : World, (∀ b ∈ bs, x.heap[b]? = W.heap[b]?) → (execOp a.eval o).run P x = .ok (.value v) x) ∧ (∀ V ∈ Ws.take (Ws.length - st j), ∀ b ∈ bs, V.heap[b]? = W.heap[b]?) ∧
        CH rest (pend ++ bs.map fun b => (j, b)) W Ws (a.put o.dst v)
    else CH rest pend W (if ch j = true then W :: Ws else Ws) (a.put o.dst undef)
/-- what is asked of the edges -/
structure Edges : Prop where
  sel : ∀ (j : Nat) (o : Oper) cs b, ops[j]? = some o → o.op ≠ .select cs b
  dir : ∀ j o, ops[j]? = some o → ∀ e ∈ o.after, Region.binds .any e = true → e.on < j ∧ pr e.on j = true
  back : ∀ i j o, ops[j]? = some o → pr i j = true → ∃ e ∈ o.after, Region.binds .any e = true ∧ (e.on = i ∨ pr i e.on = true)
  one : ∀ i j, i < j → ch i = true → ch j = true → pr i j = true
  far : ∀ i j oi oj, i < j → ops[i]? = some oi → ops[j]? = some oj → pr i j = false → oi.apart ops oj = true
end
section
variable {P : Program} {ops : Array Oper} {Q : Exit → Act → World → Prop} {ch : Nat → Bool} {pr : Nat → Nat → Bool} {st : Nat → Nat}
theorem CH.pend : ∀ {rem : List Nat} {pend pend' : List (Nat × Nat)} {W : World} {Ws : List World} {a : Act}, (∀ p ∈ pend', p ∈ pend) → CH P ops Q ch pr st rem pend W Ws a → CH P ops Q ch pr st rem pend' W Ws a
  | [], _, _, _, _, _, _, h => by simpa only [CH] using h
  | j :: rest, pend, pend', W, Ws, a, hp, h => by
    simp only [CH] at h ⊢
    intro o ho
    have h := h o ho
    split
    · rename_i hw
      rw [if_pos hw] at h
      split
      · rename_i hc
        rw [if_pos hc] at h
        exact goes_mono h fun v w' ⟨h1, h2⟩ => ⟨fun p hp' => h1 p (hp p hp'), CH.pend hp h2⟩
      · rename_i hc
        rw [if_neg hc] at h
        obtain ⟨v, bs, h1, h2, h3⟩ := h
        refine ⟨v, bs, h1, h2, CH.pend ?_ h3⟩
        intro p hp'
        rcases List.mem_append.1 hp' with h' | h'
        · exact List.mem_append_left _ (hp p h')
        · exact List.mem_append_right _ h'
    · rename_i hw
      rw [if_neg hw] at h
      exact CH.pend hp h
variable (E : Edges ops ch pr)
include E
/-- the next of the chain may come first -/
theorem CH.chain {c : Nat} {oc : Oper} (hoc : ops[c]? = some oc) (hcc : ch c = true) : ∀ (pre : List Nat) {post : List Nat} {pend : List (Nat × Nat)} {W : World} {Ws : List World} {a : Act},
    (∀ k ∈ pre, k < c ∧ pr k c = false ∧ k < ops.size) → (∀ k ∈ pre, st k ≤ Ws.length) → CH P ops Q ch pr st (pre ++ c :: post) pend W Ws a →
    if Region.wanted oc (yielded ops a.tmps) = true then
      goes P oc a W (fun v w' => (∀ p ∈ pend, pr p.1 c = false → w'.heap[p.2]? = W.heap[p.2]?) ∧ CH P ops Q ch pr st (pre ++ post) pend w' (W :: Ws) (a.put oc.dst v))
    else CH P ops Q ch pr st (pre ++ post) pend W (W :: Ws) (a.put oc.dst undef)
  | [], post, pend, W, Ws, a, _, _, h => by
    simp only [List.nil_append, CH] at h
    have h := h oc hoc
    split
    · rename_i hw
      rw [if_pos hw, if_pos hcc] at h
      exact h
    · rename_i hw
      rw [if_neg hw, if_pos hcc] at h
      exact h
  | k :: pre, post, pend, W, Ws, a, hpre, hst, h => by
    obtain ⟨hkc, hpk, hks⟩ := hpre k (by simp)
    obtain ⟨ok, hok⟩ : ∃ ok, ops[k]? = some ok := ⟨_, Array.getElem?_eq_getElem hks⟩
    have hnk : ch k = false := by
      cases hx : ch k with
      | false => rfl
      | true => rw [E.one k c hkc hx hcc] at hpk; cases hpk
    obtain ⟨a1, a2, a3⟩ := Oper.apart_spec (E.far k c ok oc hkc hok hoc hpk)
    simp only [List.cons_append, CH] at h
    have hh := h ok hok
    have hpre' : ∀ k ∈ pre, k < c ∧ pr k c = false ∧ k < ops.size := fun x hx => hpre x (by simp [hx])
    have hst' : ∀ k ∈ pre, st k ≤ Ws.length := fun x hx => hst x (by simp [hx])
    have wk : ∀ u, Region.wanted oc (yielded ops (a.put ok.dst u).tmps) = Region.wanted oc (yielded ops a.tmps) := fun u => wanted_put oc a ok.dst u a1
    have wc : ∀ (u : Value), Region.wanted ok (yielded ops (a.put oc.dst u).tmps) = Region.wanted ok (yielded ops a.tmps) := fun u => wanted_put ok a oc.dst u a3
    have xk : ∀ u, execOp (a.put ok.dst u).eval oc = execOp a.eval oc := fun u => execOp_put oc (fun cs b => E.sel c oc cs b hoc) a ok.dst u a1
    have xc : ∀ u, execOp (a.put oc.dst u).eval ok = execOp a.eval ok := fun u => execOp_put ok (fun cs b => E.sel k ok cs b hok) a oc.dst u a3
    by_cases hwk : Region.wanted ok (yielded ops a.tmps) = true
    · rw [if_pos hwk, if_neg (by rw [hnk]; decide)] at hh
      obtain ⟨v, bs, h1, h2, h3⟩ := hh
      have IH := CH.chain hoc hcc pre hpre' hst' h3
      rw [wk] at IH
      split
      · rename_i hw
        rw [if_pos hw] at IH
        refine goes_mono (goes_same (xk v).symm IH) fun u w' hu => ?_
        obtain ⟨hu1, hu2⟩ := hu
        have hb : ∀ b ∈ bs, w'.heap[b]? = W.heap[b]? := fun b hb => hu1 (k, b) (List.mem_append_right _ (List.mem_map.2 ⟨b, hb, rfl⟩)) hpk
        refine ⟨fun p hp => hu1 p (List.mem_append_left _ hp), ?_⟩
        simp only [List.cons_append, CH]
        intro o ho
        obtain rfl : ok = o := Option.some.inj (hok.symm.trans ho)
        rw [if_pos (by rw [wc]; exact hwk), if_neg (by rw [hnk]; decide)]
        refine ⟨v, bs, fun x hx => ?_, fun V hV b hb' => ?_, ?_⟩
        · rw [xc]; exact h1 x fun b hb' => (hx b hb').trans (hb b hb')
        · rw [hb b hb']
          rw [List.length_cons, show Ws.length + 1 - st k = Ws.length - st k + 1 by have := hst k (by simp); omega, List.take_succ_cons] at hV
          rcases List.mem_cons.1 hV with rfl | hV
          · rfl
          · exact h2 V hV b hb'
        · rw [← Act.put_comm a _ _ a2]
          exact hu2
      · rename_i hw
        rw [if_neg hw] at IH
        simp only [List.cons_append, CH]
        intro o ho
        obtain rfl : ok = o := Option.some.inj (hok.symm.trans ho)
        rw [if_pos (by rw [wc]; exact hwk), if_neg (by rw [hnk]; decide)]
        refine ⟨v, bs, fun x hx => by rw [xc]; exact h1 x hx, fun V hV b hb' => ?_, ?_⟩
        · rw [List.length_cons, show Ws.length + 1 - st k = Ws.length - st k + 1 by have := hst k (by simp); omega, List.take_succ_cons] at hV
          rcases List.mem_cons.1 hV with rfl | hV
          · rfl
          · exact h2 V hV b hb'
        · rw [← Act.put_comm a _ _ a2]
          exact IH
    · rw [if_neg hwk, if_neg (by rw [hnk]; decide)] at hh
      have IH := CH.chain hoc hcc pre hpre' hst' hh
      rw [wk] at IH
      split
      · rename_i hw
        rw [if_pos hw] at IH
        refine goes_mono (goes_same (xk _).symm IH) fun u w' hu => ⟨hu.1, ?_⟩
        simp only [List.cons_append, CH]
        intro o ho
        obtain rfl : ok = o := Option.some.inj (hok.symm.trans ho)
        rw [if_neg (by rw [wc]; exact hwk), if_neg (by rw [hnk]; decide)]
        rw [← Act.put_comm a _ _ a2]
        exact hu.2
      · rename_i hw
        rw [if_neg hw] at IH
        simp only [List.cons_append, CH]
        intro o ho
        obtain rfl : ok = o := Option.some.inj (hok.symm.trans ho)
        rw [if_neg (by rw [wc]; exact hwk), if_neg (by rw [hnk]; decide)]
        rw [← Act.put_comm a _ _ a2]
        exact IH
/-- what only looks may come first -/
theorem CH.look {j : Nat} {oj : Oper} (hoj : ops[j]? = some oj) (hcj : ch j = false) : ∀ (pre : List Nat) {post : List Nat} {pend : List (Nat × Nat)} {W : World} {Ws : List World} {a : Act},
    (∀ k ∈ pre, k < j ∧ pr k j = false ∧ k < ops.size) → st j ≤ Ws.length → CH P ops Q ch pr st (pre ++ j :: post) pend W Ws a →
    if Region.wanted oj (yielded ops a.tmps) = true then
      ∃ (v : Value) (bs : List Nat), (∀ x : World, (∀ b ∈ bs, x.heap[b]? = W.heap[b]?) → (execOp a.eval oj).run P x = .ok (.value v) x) ∧ (∀ V ∈ Ws.take (Ws.length - st j), ∀ b ∈ bs, V.heap[b]? = W.heap[b]?) ∧
        CH P ops Q ch pr st (pre ++ post) pend W Ws (a.put oj.dst v)
    else CH P ops Q ch pr st (pre ++ post) pend W Ws (a.put oj.dst undef)
  | [], post, pend, W, Ws, a, _, _, h => by
    simp only [List.nil_append, CH] at h
    have h := h oj hoj
    split
    · rename_i hw
      rw [if_pos hw, if_neg (by rw [hcj]; decide)] at h
      obtain ⟨v, bs, h1, h2, h3⟩ := h
      exact ⟨v, bs, h1, h2, CH.pend (fun p hp => List.mem_append_left _ hp) h3⟩
    · rename_i hw
      rw [if_neg hw, if_neg (by rw [hcj]; decide)] at h
      exact h
  | k :: pre, post, pend, W, Ws, a, hpre, hst, h => by
    obtain ⟨hkc, hpk, hks⟩ := hpre k (by simp)
    obtain ⟨ok, hok⟩ : ∃ ok, ops[k]? = some ok := ⟨_, Array.getElem?_eq_getElem hks⟩
    obtain ⟨a1, a2, a3⟩ := Oper.apart_spec (E.far k j ok oj hkc hok hoj hpk)
    simp only [List.cons_append, CH] at h
    have hh := h ok hok
    have hpre' : ∀ k ∈ pre, k < j ∧ pr k j = false ∧ k < ops.size := fun x hx => hpre x (by simp [hx])
    have wk : ∀ u, Region.wanted oj (yielded ops (a.put ok.dst u).tmps) = Region.wanted oj (yielded ops a.tmps) := fun u => wanted_put oj a ok.dst u a1
    have wc : ∀ (u : Value), Region.wanted ok (yielded ops (a.put oj.dst u).tmps) = Region.wanted ok (yielded ops a.tmps) := fun u => wanted_put ok a oj.dst u a3
    have xk : ∀ u, execOp (a.put ok.dst u).eval oj = execOp a.eval oj := fun u => execOp_put oj (fun cs b => E.sel j oj cs b hoj) a ok.dst u a1
    have xc : ∀ u, execOp (a.put oj.dst u).eval ok = execOp a.eval ok := fun u => execOp_put ok (fun cs b => E.sel k ok cs b hok) a oj.dst u a3
    by_cases hwk : Region.wanted ok (yielded ops a.tmps) = true
    · rw [if_pos hwk] at hh
      by_cases hck : ch k = true
      · rw [if_pos hck] at hh
        obtain ⟨u0, w0, _, hc0⟩ := goes_some hh
        have IH0 := CH.look hoj hcj pre hpre' (by rw [List.length_cons]; omega) hc0
        rw [wk] at IH0
        split
        · rename_i hw
          rw [if_pos hw] at IH0
          obtain ⟨v, bs, h1, h2, h3⟩ := IH0
          rw [xk] at h1
          have hmem : ∀ (w' : World), W ∈ (W :: Ws).take ((W :: Ws).length - st j) := fun _ => by
            rw [List.length_cons, show Ws.length + 1 - st j = Ws.length - st j + 1 by omega, List.take_succ_cons]
            exact List.mem_cons_self
          have hb0 : ∀ b ∈ bs, W.heap[b]? = w0.heap[b]? := fun b hb => h2 W (hmem w0) b hb
          refine ⟨v, bs, fun x hx => h1 x fun b hb => (hx b hb).trans (hb0 b hb), fun V hV b hb => ?_, ?_⟩
          · have := h2 V (by rw [List.length_cons, show Ws.length + 1 - st j = Ws.length - st j + 1 by omega, List.take_succ_cons]; exact List.mem_cons_of_mem _ hV) b hb
            rw [this, hb0 b hb]
          · simp only [List.cons_append, CH]
            intro o ho
            obtain rfl : ok = o := Option.some.inj (hok.symm.trans ho)
            rw [if_pos (by rw [wc]; exact hwk), if_pos hck]
            refine goes_mono (goes_same (xc v) hh) fun u w' ⟨hu1, hu2⟩ => ⟨hu1, ?_⟩
            have IH := CH.look hoj hcj pre hpre' (by rw [List.length_cons]; omega) hu2
            rw [wk, if_pos hw] at IH
            obtain ⟨v', bs', g1, g2, g3⟩ := IH
            rw [xk] at g1
            have e1 := h1 W hb0
            have e2 := g1 W fun b hb => g2 W (hmem w') b hb
            rw [e1] at e2
            simp only [Result.ok.injEq, Next.value.injEq, and_true] at e2
            subst e2
            rw [← Act.put_comm a _ _ a2]
            exact g3
        · rename_i hw
          simp only [List.cons_append, CH]
          intro o ho
          obtain rfl : ok = o := Option.some.inj (hok.symm.trans ho)
          rw [if_pos (by rw [wc]; exact hwk), if_pos hck]
          refine goes_mono (goes_same (xc _) hh) fun u w' ⟨hu1, hu2⟩ => ⟨hu1, ?_⟩
          have IH := CH.look hoj hcj pre hpre' (by rw [List.length_cons]; omega) hu2
          rw [wk, if_neg hw] at IH
          rw [← Act.put_comm a _ _ a2]
          exact IH
      · rw [if_neg hck] at hh
        obtain ⟨u, bk, h1, h2, h3⟩ := hh
        have IH := CH.look hoj hcj pre hpre' hst h3
        rw [wk] at IH
        have fin : ∀ v, CH P ops Q ch pr st (pre ++ post) (pend ++ bk.map fun b => (k, b)) W Ws ((a.put ok.dst u).put oj.dst v) → CH P ops Q ch pr st (k :: pre ++ post) pend W Ws (a.put oj.dst v) := fun v hv => by
          simp only [List.cons_append, CH]
          intro o ho
          obtain rfl : ok = o := Option.some.inj (hok.symm.trans ho)
          rw [if_pos (by rw [wc]; exact hwk), if_neg hck]
          refine ⟨u, bk, fun x hx => by rw [xc]; exact h1 x hx, h2, ?_⟩
          rw [← Act.put_comm a _ _ a2]
          exact hv
        split
        · rename_i hw
          rw [if_pos hw] at IH
          obtain ⟨v, bs, g1, g2, g3⟩ := IH
          rw [xk] at g1
          exact ⟨v, bs, g1, g2, fin v g3⟩
        · rename_i hw
          rw [if_neg hw] at IH
          exact fin _ IH
    · rw [if_neg hwk] at hh
      have hst' : st j ≤ (if ch k = true then W :: Ws else Ws).length := by
        split
        · rw [List.length_cons]; omega
        · exact hst
      have IH := CH.look hoj hcj pre hpre' hst' hh
      rw [wk] at IH
      have fin : ∀ v, CH P ops Q ch pr st (pre ++ post) pend W (if ch k = true then W :: Ws else Ws) ((a.put ok.dst undef).put oj.dst v) → CH P ops Q ch pr st (k :: pre ++ post) pend W Ws (a.put oj.dst v) := fun v hv => by
        simp only [List.cons_append, CH]
        intro o ho
        obtain rfl : ok = o := Option.some.inj (hok.symm.trans ho)
        rw [if_neg (by rw [wc]; exact hwk)]
        rw [← Act.put_comm a _ _ a2]
        exact hv
      split
      · rename_i hw
        rw [if_pos hw] at IH
        obtain ⟨v, bs, g1, g2, g3⟩ := IH
        rw [xk] at g1
        refine ⟨v, bs, g1, fun V hV b hb => g2 V ?_ b hb, fin v g3⟩
        split
        · rw [List.length_cons, show Ws.length + 1 - st j = Ws.length - st j + 1 by omega, List.take_succ_cons]
          exact List.mem_cons_of_mem _ hV
        · exact hV
      · rename_i hw
        rw [if_neg hw] at IH
        exact fin _ IH
/-- what is left, as the order's list of what has been done tells it -/
structure Left (ops : Array Oper) (rem : List Nat) (listed : Array Bool) : Prop where
  size : listed.size = ops.size
  un : ∀ j, j ∈ rem ↔ j < ops.size ∧ listed.getD j true = false
  sorted : rem.Pairwise (· < ·)
theorem Left.done {rem : List Nat} {listed : Array Bool} (h : Left ops rem listed) {j : Nat} (hj : j < ops.size) (hn : j ∉ rem) : listed.getD j false = true := by
  have hl : j < listed.size := by rw [h.size]; exact hj
  cases hx : listed.getD j true with
  | false => exact absurd ((h.un j).2 ⟨hj, hx⟩) hn
  | true =>
    simp only [Array.getD_eq_getD_getElem?, Array.getElem?_eq_getElem hl, Option.getD_some] at hx ⊢
    exact hx
/-- all that comes ahead of what may come now is done -/
theorem Left.ahead {rem : List Nat} {listed : Array Bool} (h : Left ops rem listed) (closed : ∀ j o, ops[j]? = some o → j ∉ rem → ∀ e ∈ o.after, Region.binds .any e = true → e.on ∉ rem) :
    ∀ (j : Nat) (o : Oper), ops[j]? = some o → (∀ e ∈ o.after, Region.binds .any e = true → e.on ∉ rem) → ∀ i, pr i j = true → i ∉ rem := by
  intro j
  induction j using Nat.strongRecOn with
  | _ j ih =>
    intro o ho hall i hi
    obtain ⟨e, he, hb, h1⟩ := E.back i j o ho hi
    rcases h1 with rfl | h1
    · exact hall e he hb
    · have hd := (E.dir j o ho e he hb).1
      have hlt : e.on < ops.size := by
        have := (Array.getElem?_eq_some_iff.1 ho).1
        omega
      obtain ⟨oe, hoe⟩ : ∃ oe, ops[e.on]? = some oe := ⟨_, Array.getElem?_eq_getElem hlt⟩
      exact ih e.on hd oe hoe (closed e.on oe hoe (hall e he hb)) i h1
theorem split_sorted {rem : List Nat} (hs : rem.Pairwise (· < ·)) {j : Nat} (hj : j ∈ rem) : ∃ pre post, rem = pre ++ j :: post ∧ (∀ k ∈ pre, k < j) ∧ j ∉ pre ∧ j ∉ post ∧ (pre ++ post).Pairwise (· < ·) := by
  obtain ⟨pre, post, rfl⟩ := List.append_of_mem hj
  rw [List.pairwise_append] at hs
  obtain ⟨h1, h2, h3⟩ := hs
  rw [List.pairwise_cons] at h2
  refine ⟨pre, post, rfl, fun k hk => h3 k hk j (by simp), fun h => ?_, fun h => ?_, ?_⟩
  · exact Nat.lt_irrefl _ (h3 j h j (by simp))
  · exact Nat.lt_irrefl _ (h2.1 j h)
  · rw [List.pairwise_append]
    exact ⟨h1, h2.2, fun a ha b hb => h3 a ha b (by simp [hb])⟩
theorem countP_or (p q : Nat → Bool) (l : List Nat) : l.countP (fun i => p i || q i) ≤ l.countP p + l.countP q := by
  induction l with
  | nil => simp
  | cons x l ih =>
    simp only [List.countP_cons]
    cases p x <;> cases q x <;> simp <;> omega
theorem listed_both {i : Nat} {listed : Array Bool} (h : listed.getD i true = false) : listed.getD i false = false := by
  rcases Nat.lt_or_ge i listed.size with h' | h'
  · simp [h'] at h ⊢; exact h
  · simp [Array.getElem?_eq_none h'] at h
def chCnt (ops : Array Oper) (ch : Nat → Bool) (rem : List Nat) : Nat := (List.range ops.size).countP fun i => ch i && !rem.contains i
theorem chCnt_less (rem rem' : List Nat) (c : Nat) (h : ∀ i, i ∈ rem → i ≠ c → i ∈ rem') : chCnt ops ch rem' ≤ chCnt ops ch rem + (if ch c = true then 1 else 0) := by
  unfold chCnt
  have h1 : (List.range ops.size).countP (fun i => ch i && !rem'.contains i) ≤ (List.range ops.size).countP (fun i => (ch i && !rem.contains i) || (ch c && i == c)) := by
    refine List.countP_mono_left fun i _ hi => ?_
    simp only [Bool.and_eq_true, Bool.not_eq_true', List.contains_eq_mem, decide_eq_false_iff_not, Bool.or_eq_true, beq_iff_eq] at hi ⊢
    obtain ⟨h1, h2⟩ := hi
    by_cases hc : i = c
    · subst hc; exact .inr ⟨h1, rfl⟩
    · exact .inl ⟨h1, fun hm => h2 (h i hm hc)⟩
  have h2 := countP_or E (fun i => ch i && !rem.contains i) (fun i => ch c && i == c) (List.range ops.size)
  have h3 : (List.range ops.size).countP (fun i => ch c && i == c) ≤ if ch c = true then 1 else 0 := by
    cases hc : ch c
    · simp
    · simp only [Bool.true_and, if_true]
      have : (List.range ops.size).countP (fun i => i == c) = (List.range ops.size).count c := rfl
      rw [this]
      exact List.nodup_iff_count.1 List.nodup_range c
  omega
theorem CH.any (hst : ∀ j, st j ≤ (List.range ops.size).countP fun i => ch i && pr i j) (hlow : ∀ i j, pr i j = true → i < j) : ∀ (fuel : Nat) (rem : List Nat) (listed : Array Bool) (W : World) (Ws : List World) (a : Act), rem.length = fuel → Left ops rem listed →
    (∀ j o, ops[j]? = some o → j ∉ rem → ∀ e ∈ o.after, Region.binds .any e = true → e.on ∉ rem) → chCnt ops ch rem ≤ Ws.length →
    CH P ops Q ch pr st rem [] W Ws a → wpAny P .any ops Q fuel listed a W := by
  intro fuel
  induction fuel with
  | zero =>
    intro rem listed W Ws a hf hL hcl hn h
    obtain rfl := List.eq_nil_of_length_eq_zero hf
    simp only [CH] at h
    refine ⟨?_, h⟩
    rw [List.eq_nil_iff_forall_not_mem]
    intro j hj
    obtain ⟨h0, o, ho, _⟩ := mem_ready.1 hj
    have := (hL.un j).2 ⟨(Array.getElem?_eq_some_iff.1 ho).1, h0⟩
    simp at this
  | succ fuel ih =>
    intro rem listed W Ws a hf hL hcl hn h
    refine ⟨fun h0 => ?_, fun j hj => ?_⟩
    · exfalso
      cases rem with
      | nil => simp at hf
      | cons j rest =>
        have hjr := (hL.un j).1 (by simp)
        obtain ⟨o, ho⟩ : ∃ o, ops[j]? = some o := ⟨_, Array.getElem?_eq_getElem hjr.1⟩
        have hr : j ∈ Region.ready .any ops listed := mem_ready.2 ⟨hjr.2, o, ho, fun e he hb => by
          have hd := (E.dir j o ho e he hb).1
          refine hL.done E (by omega) fun hm => ?_
          rcases List.mem_cons.1 hm with h1 | h1
          · omega
          · have := (List.pairwise_cons.1 hL.sorted).1 _ h1
            omega⟩
        rw [h0] at hr
        cases hr
    · obtain ⟨h0, o, ho, hall⟩ := mem_ready.1 hj
      have hjs := (Array.getElem?_eq_some_iff.1 ho).1
      have hjr : j ∈ rem := (hL.un j).2 ⟨hjs, h0⟩
      have hnot : ∀ e ∈ o.after, Region.binds .any e = true → e.on ∉ rem := fun e he hb hm => by
        have h1 := hall e he hb
        have h2 := ((hL.un _).1 hm).2
        rw [listed_both E h2] at h1
        cases h1
      have hah := hL.ahead E hcl j o ho hnot
      obtain ⟨pre, post, rfl, hpre, hnp, hnq, hso⟩ := split_sorted E hL.sorted hjr
      have hrem : ∀ i, i ∈ pre ++ j :: post → i ≠ j → i ∈ pre ++ post := fun i hi hne => by
        simp only [List.mem_append, List.mem_cons] at hi ⊢
        rcases hi with h | h | h
        · exact .inl h
        · exact absurd h hne
        · exact .inr h
      have hrem2 : ∀ i, i ∈ pre ++ post → i ∈ pre ++ j :: post ∧ i ≠ j := fun i hi => by
        simp only [List.mem_append, List.mem_cons] at hi ⊢
        rcases hi with h | h
        · exact ⟨.inl h, fun e => hnp (e ▸ h)⟩
        · exact ⟨.inr (.inr h), fun e => hnq (e ▸ h)⟩
      have hL2 : Left ops (pre ++ post) (listed.setIfInBounds j true) := ⟨by simp [hL.size], fun i => ⟨fun hi => by
          have ⟨h1, h2⟩ := hrem2 i hi
          have := (hL.un i).1 h1
          exact ⟨this.1, by rw [getD_set_ne true (Ne.symm h2)]; exact this.2⟩, fun ⟨h1, h2⟩ => by
          have hne : i ≠ j := by
            rintro rfl
            have hsz : i < listed.size := by rw [hL.size]; exact h1
            simp [Array.getD_eq_getD_getElem?, Array.getElem?_setIfInBounds, hsz] at h2
          rw [getD_set_ne true (Ne.symm hne)] at h2
          exact hrem i ((hL.un i).2 ⟨h1, h2⟩) hne⟩, hso⟩
      have hcl2 : ∀ k ok, ops[k]? = some ok → k ∉ pre ++ post → ∀ e ∈ ok.after, Region.binds .any e = true → e.on ∉ pre ++ post := fun k ok hk hkn e he hb hm => by
        have hm2 := (hrem2 _ hm).1
        by_cases hkj : k = j
        · subst hkj
          obtain rfl : o = ok := Option.some.inj (ho.symm.trans hk)
          exact hnot e he hb hm2
        · exact hcl k ok hk (fun h => hkn (hrem k h hkj)) e he hb hm2
      have hf2 : (pre ++ post).length = fuel := by
        simp only [List.length_append, List.length_cons] at hf ⊢
        omega
      have hcnt := chCnt_less E (pre ++ j :: post) (pre ++ post) j hrem
      have hp : ∀ k ∈ pre, k < j ∧ pr k j = false ∧ k < ops.size := fun k hk => by
        have := hpre k hk
        refine ⟨this, ?_, by omega⟩
        cases hx : pr k j with
        | false => rfl
        | true => exact absurd (List.mem_append_left _ hk) (hah k hx)
      unfold wpOp
      simp only [ho]
      have hle : ∀ k, (∀ i, i < ops.size → ch i = true → pr i k = true → i ∉ pre ++ j :: post) → st k ≤ Ws.length := fun k hk => by
        refine Nat.le_trans (hst k) (Nat.le_trans (List.countP_mono_left fun i hi h => ?_) hn)
        simp only [Bool.and_eq_true] at h
        simp only [Bool.and_eq_true, Bool.not_eq_true', List.contains_eq_mem, decide_eq_false_iff_not]
        exact ⟨h.1, hk i (List.mem_range.1 hi) h.1 h.2⟩
      by_cases hcj : ch j = true
      · have := CH.chain E ho hcj pre hp (fun k hk => hle k fun i hi hci hik hm => by
          have hkj := (hp k hk).1
          have hikl := hlow i k hik
          exact hah i (E.one i j (by omega) hci hcj) hm) h
        rw [if_pos hcj] at hcnt
        split at this
        · rename_i hw
          rw [if_pos hw]
          refine .inl (goes_wp this fun v w' hv => ?_)
          exact ih (pre ++ post) _ w' (W :: Ws) _ hf2 hL2 hcl2 (by rw [List.length_cons]; omega) hv.2
        · rename_i hw
          rw [if_neg hw]
          exact ih (pre ++ post) _ W (W :: Ws) _ hf2 hL2 hcl2 (by rw [List.length_cons]; omega) this
      · have hcj' : ch j = false := by simpa using hcj
        have := CH.look E ho hcj' pre hp (hle j fun i _ _ hik => hah i hik) h
        rw [if_neg hcj] at hcnt
        split at this
        · rename_i hw
          rw [if_pos hw]
          obtain ⟨v, bs, h1, h2, h3⟩ := this
          refine .inl ?_
          unfold Oper.wp
          rw [h1 W fun _ _ => rfl]
          exact ih (pre ++ post) _ W Ws _ hf2 hL2 hcl2 (by omega) h3
        · rename_i hw
          rw [if_neg hw]
          exact ih (pre ++ post) _ W Ws _ hf2 hL2 hcl2 (by omega) this
end
end Go.Proofs.Yteabncomclgncaa
namespace Go.Proofs.Yteabncomclgncaa
set_option linter.unusedVariables false
set_option linter.unusedSimpArgs false
set_option linter.unusedSectionVars false
open Go.RowKit
/-- how far a region that draws has been gone through: the next operation's number, what comes ahead of what, the chain, labels looked at, labels turned by each of the chain so far -/
structure DD where
  j : Nat
  pr : List (List Nat)
  ch : List Nat
  pend : List (Nat × Nat)
  wl : List (List (Nat × AO) × List Nat)
def DD.prB (d : DD) (i k : Nat) : Bool := (d.pr.getD k []).elem i
def DD.chB (d : DD) (k : Nat) : Bool := d.ch.elem k
def DD.st (d : DD) (k : Nat) : Nat := (d.ch.filter fun i => (d.pr.getD k []).elem i).length
/-- does something lie at a label? -/
def liveB (l : Nat) (h : List (Nat × AO)) : Bool := match hk l h with
  | some _ => true
  | none => false
theorem liveB_iff {l : Nat} {h : List (Nat × AO)} : liveB l h = true ↔ hk l h ≠ none := by
  unfold liveB
  cases hk l h <;> simp
/-- the earlier worlds: at labels that lay then and were not turned since they read as now -/
def Stg (ρ : Env) : List (List (Nat × AO) × List Nat) → List World → World → Prop
  | [], [], _ => True
  | p :: wl, V :: Ws, W => (∀ l b, liveB l p.1 = true → ρ l = some b → l ∉ p.2 → V.heap[b]? = W.heap[b]?) ∧ Stg ρ wl Ws V
  | _, _, _ => False
theorem Stg.ext {ρ ρ' : Env} {L : Nat} (he : ∀ l, l < L → ρ' l = ρ l) : ∀ {wl : List (List (Nat × AO) × List Nat)} {Ws : List World} {W : World}, (∀ p ∈ wl, ∀ l, liveB l p.1 = true → l < L) → Stg ρ wl Ws W → Stg ρ' wl Ws W
  | [], [], _, _, h => h
  | p :: wl, V :: Ws, W, hL, h => ⟨fun l b hl hb hn => h.1 l b hl ((he l (hL p (by simp) l hl)).symm.trans hb) hn, Stg.ext he (fun q hq => hL q (by simp [hq])) h.2⟩
  | [], _ :: _, _, _, h => h.elim
  | _ :: _, [], _, _, h => h.elim
def pendC (ρ : Env) : List (Nat × Nat) → List (Nat × Nat)
  | [] => []
  | (i, l) :: r => match ρ l with
    | some b => (i, b) :: pendC ρ r
    | none => pendC ρ r
def RL (P : Program) (ops : Array Oper) (Q : Exit → Act → World → Prop) (D : Option DD) (E : Base) (n L : Nat) (τ : List (Nat × AV)) (h : List (Nat × AO)) (F : World → Prop) (rest : List Oper) : Prop :=
  match D with
  | none => ∀ ρ a w, Gam E ρ n L τ h F a w → wpList P ops Q rest a w
  | some d => (∀ i, rest[i]? = ops[d.j + i]?) → (∀ p ∈ d.pend, p.2 < L) → (∀ p ∈ d.wl, ∀ l, liveB l p.1 = true → l < L) → ∀ ρ a w Ws, Gam E ρ n L τ h F a w → Stg ρ d.wl Ws w →
      CH P ops Q d.chB d.prB d.st (List.range' d.j rest.length) (pendC ρ d.pend) w Ws a
/-- a slot of the frame -/
def dOk (n : Nat) : Option Nat → Bool
  | some d => Nat.ble (d + 1) n
  | none => true
def putA (d : Option Nat) (v : AV) (τ : List (Nat × AV)) : List (Nat × AV) := match d with
  | some d => (d, v) :: τ
  | none => τ
/-- is an operation wanted? -/
def wantA (ops : Array Oper) (o : Oper) (τ : List (Nat × AV)) : Option Bool := match o.guard with
  | none => some true
  | some (g, want) => match (ops[g]?).bind (·.dst) with
    | some t => match lk t τ with
      | some (.raw (.bool true)) => some want
      | some (.raw (.bool false)) => some (!want)
      | some (.raw (.tuple _)) => some false
      | _ => none
    | none => none
section
variable {E : Base} {ρ : Env} {n L : Nat} {τ : List (Nat × AV)} {h : List (Nat × AO)} {F : World → Prop} {a : Act} {w : World}
theorem Gam.put (g : Gam E ρ n L τ h F a w) (d : Option Nat) (v : AV) (hd : dOk n d = true) (hv : v.Low ρ L) : Gam E ρ n L (putA d v τ) h F (a.put d (v.conc ρ)) w := by
  cases d with
  | none => exact g
  | some d =>
    have hdn : d < n := by have : d + 1 ≤ n := by simpa [dOk, Nat.ble_eq] using hd
                           omega
    refine ⟨g.df, by simp [Act.put, g.sz], fun t u hu => ?_, g.hp, g.dis, g.fr, g.ex, g.le, g.al⟩
    simp only [putA, lk_cons] at hu
    split at hu
    · rename_i e
      subst e
      cases hu
      exact ⟨hv, by simp [Act.put, g.sz, hdn]⟩
    · rename_i e
      have := g.tm t u hu
      exact ⟨this.1, by simp only [Act.put]; rw [Array.getElem?_setIfInBounds_ne e]; exact this.2⟩
theorem Gam.want (g : Gam E ρ n L τ h F a w) {ops : Array Oper} {o : Oper} {b : Bool} (hw : wantA ops o τ = some b) : Region.wanted o (yielded ops a.tmps) = b := by
  unfold wantA at hw
  unfold Region.wanted
  split at hw
  · rename_i hg
    cases hw
    rw [hg]
  · rename_i gg wt hg
    rw [hg]
    simp only
    split at hw
    · rename_i t ht
      have key : ∀ v, lk t τ = some (.raw v) → yielded ops a.tmps gg = match v with | .bool b => some b | _ => none := fun v hv => by
        have := (g.tm t _ hv).2
        simp only [yielded, ht, Option.bind_some, this, AV.conc]
        cases v <;> rfl
      split at hw
      · rename_i hl; cases hw; rw [key _ hl]; clear key; first | (cases wt <;> rfl) | (cases b <;> rfl) | rfl
      · rename_i hl; cases hw; rw [key _ hl]; clear key; first | (cases wt <;> rfl) | (cases b <;> rfl) | rfl
      · rename_i hl; cases hw; rw [key _ hl]; clear key; first | (cases wt <;> rfl) | (cases b <;> rfl) | rfl
      · cases hw
    · cases hw
theorem evB {τ : List (Nat × AV)} (g : Gam E ρ n L τ h F a w) : ∀ x v, evA τ x = some v → a.eval x = v.conc ρ := fun x v hv => (g.eval x v hv).2
theorem Gam.holds (g : Gam E ρ n L τ h F a w) : ∀ l o, hk l h = some o → o.holds ρ (ρ l) w := fun l o ho => (g.hp l o ho).2.2
/-- what 'act' tells, of a state -/
theorem Gam.actS {P : Program} {tt : List (Nat × TI)} (htt : TTok P tt) (g : Gam E ρ n L τ h F a w) {o : Oper} {v : AV} (ha : act tt (fun l => hk l h) (evA τ) o.op = some v) : (execOp a.eval o).run P w = .ok (.value (v.conc ρ)) w ∧ v.Low ρ L := by
  refine ⟨act_sound htt (hl := fun l => hk l h) g.holds (evB g) o v ha, fun ρ1 he => ?_⟩
  have h1 := act_sound htt (hl := fun l => hk l h) g.holds (evB g) o v ha
  have h2 := act_sound htt (ρ := ρ1) (w := w) (hl := fun l => hk l h) (fun l o ho => by
    have := g.hp l o ho
    rw [he l this.1]
    exact (this.2.1 ρ1 he _ _).1 this.2.2) (ec := a.eval) (fun x u hu => by
    have := g.eval x u hu
    rw [this.2, this.1 ρ1 he]) o v ha
  rw [h1] at h2
  simp only [Result.ok.injEq, Next.value.injEq, and_true] at h2
  exact h2.symm
end
section
variable {P : Program} {ops : Array Oper} {Q : Exit → Act → World → Prop} {D : Option DD} {E : Base} {n L : Nat} {τ : List (Nat × AV)} {h : List (Nat × AO)} {F : World → Prop} {rest : List Oper} {o : Oper}
/-- the label that a load looks at -/
def rdL (τ : List (Nat × AV)) : Op → List Nat
  | .load _ x => match evA τ x with
    | some (.ptr l _ _ _) => [l]
    | _ => []
  | _ => []
/-- what was not turned since the last of the chain that comes ahead -/
def stageB (d : DD) (ls : List Nat) : Bool := (d.wl.take (d.wl.length - d.st d.j)).all fun p => ls.all fun l => liveB l p.1 && !p.2.elem l
def lookB (D : Option DD) (ls : List Nat) : Bool := match D with
  | none => true
  | some d => !d.chB d.j && stageB d ls
def DD.look (d : DD) (ls : List Nat) : DD := { d with j := d.j + 1, pend := d.pend ++ ls.map fun l => (d.j, l) }
/-- the same region with one operation behind us that looked at labels ls -/
def lookD (D : Option DD) (ls : List Nat) : Option DD := D.map fun d => d.look ls
theorem RL.nil (k : ∀ ρ a w, Gam E ρ n L τ h F a w → Q .normal a w) : RL P ops Q D E n L τ h F [] := by
  cases D with
  | none => exact fun ρ a w g => wpList_nil (k ρ a w g)
  | some d =>
    intro _ _ _ ρ a w Ws g _
    simp only [List.length_nil, List.range'_zero, CH]
    exact k ρ a w g
theorem Stg.read {ρ : Env} : ∀ {wl : List (List (Nat × AO) × List Nat)} {Ws : List World} {W : World} (k : Nat), Stg ρ wl Ws W → ∀ l b, ρ l = some b → (∀ p ∈ wl.take k, liveB l p.1 = true ∧ l ∉ p.2) → ∀ V ∈ Ws.take k, V.heap[b]? = W.heap[b]?
  | [], [], W, k, _, l, b, _, _, V, hV => by simp at hV
  | ls :: wl, V0 :: Ws, W, 0, _, l, b, _, _, V, hV => by simp at hV
  | p :: wl, V0 :: Ws, W, k + 1, h, l, b, hl, hn, V, hV => by
    have hp := hn p (by simp)
    have h0 := h.1 l b hp.1 hl hp.2
    rw [List.take_succ_cons] at hV
    rcases List.mem_cons.1 hV with rfl | hV
    · exact h0
    · rw [Stg.read k h.2 l b hl (fun ws hws => hn ws (by simp [hws])) V hV, h0]
  | [], _ :: _, _, _, h, _, _, _, _, _, _ => h.elim
  | _ :: _, [], _, _, h, _, _, _, _, _, _ => h.elim
theorem Stg.length {ρ : Env} : ∀ {wl : List (List (Nat × AO) × List Nat)} {Ws : List World} {W : World}, Stg ρ wl Ws W → wl.length = Ws.length
  | [], [], _, _ => rfl
  | _ :: _, _ :: _, _, h => by simp [Stg.length h.2]
  | [], _ :: _, _, h => h.elim
  | _ :: _, [], _, h => h.elim
theorem pendC_append (ρ : Env) (a b : List (Nat × Nat)) : pendC ρ (a ++ b) = pendC ρ a ++ pendC ρ b := by
  induction a with
  | nil => rfl
  | cons x a ih =>
    obtain ⟨i, l⟩ := x
    simp only [List.cons_append, pendC]
    cases ρ l <;> simp [ih]
/-- an operation that looks at most at blocks, each at a label of ls -/
theorem RL.looks (ls : List Nat) (hg : wantA ops o τ = some true) (hd : dOk n o.dst = true) (hk : lookB D ls = true) (hls : ∀ l ∈ ls, l < L) (v : AV)
    (hv : ∀ ρ a w, Gam E ρ n L τ h F a w → v.Low ρ L ∧ (∀ l ∈ ls, ρ l ≠ none) ∧ ∀ x : World, (∀ l ∈ ls, ∀ b, ρ l = some b → x.heap[b]? = w.heap[b]?) → (execOp a.eval o).run P x = .ok (.value (v.conc ρ)) x)
    (k : RL P ops Q (lookD D ls) E n L (putA o.dst v τ) h F rest) : RL P ops Q D E n L τ h F (o :: rest) := by
  cases D with
  | none =>
    intro ρ a w g
    have hw := g.want hg
    obtain ⟨h1, h2, h3⟩ := hv ρ a w g
    refine wpList_step fun K hK => ?_
    rw [if_pos hw]
    unfold Oper.wp
    rw [h3 w fun _ _ _ _ => rfl]
    exact hK _ _ (k ρ _ _ (g.put o.dst v hd h1))
  | some d =>
    intro hops hpl hwl ρ a w Ws g hs
    have hw := g.want hg
    obtain ⟨h1, h2, h3⟩ := hv ρ a w g
    simp only [lookB, Bool.and_eq_true, Bool.not_eq_true'] at hk
    simp only [List.length_cons, List.range'_succ, CH]
    intro o' ho'
    have h0 := hops 0
    simp only [List.getElem?_cons_zero, Nat.add_zero] at h0
    obtain rfl : o = o' := Option.some.inj (h0.trans ho')
    rw [if_pos hw, if_neg (by rw [hk.1]; decide)]
    have hpl' : ∀ p ∈ (d.look ls).pend, p.2 < L := fun p hp => by
      rcases List.mem_append.1 hp with hp | hp
      · exact hpl p hp
      · obtain ⟨l, hl, rfl⟩ := List.mem_map.1 hp
        exact hls l hl
    have hk2 := k (fun i => by have := hops (i + 1); simpa [DD.look, Nat.add_assoc, Nat.add_comm 1 i] using this) hpl' hwl ρ _ w Ws (g.put o.dst v hd h1) hs
    refine ⟨v.conc ρ, ls.filterMap ρ, fun x hx => h3 x fun l hl b hb => hx b (List.mem_filterMap.2 ⟨l, hl, hb⟩), fun V hV b hb => ?_, ?_⟩
    · obtain ⟨l, hl, hlb⟩ := List.mem_filterMap.1 hb
      rw [← hs.length] at hV
      refine hs.read _ l b hlb (fun ws hws => ?_) V hV
      have := List.all_eq_true.1 hk.2 ws hws
      have := List.all_eq_true.1 this l hl
      simp only [Bool.and_eq_true, Bool.not_eq_true'] at this
      refine ⟨this.1, fun h => ?_⟩
      have h2 := this.2
      rw [List.elem_iff.2 h] at h2
      cases h2
    · have e : pendC ρ (d.look ls).pend = pendC ρ d.pend ++ (ls.filterMap ρ).map fun b => (d.j, b) := by
        simp only [DD.look, pendC_append]
        congr 1
        clear hls hv h2 h3 hk hk2 hpl' k
        induction ls with
        | nil => rfl
        | cons l ls ih =>
          simp only [List.map_cons, pendC, List.filterMap_cons]
          cases ρ l <;> simp [ih]
      rw [e] at hk2
      exact hk2
def DD.skip (h : List (Nat × AO)) (d : DD) : DD := match d.chB d.j with
  | true => { d with j := d.j + 1, wl := (h, []) :: d.wl }
  | false => { d with j := d.j + 1 }
theorem DD.skip_j (h : List (Nat × AO)) (d : DD) : (d.skip h).j = d.j + 1 := by unfold DD.skip; cases d.chB d.j <;> rfl
theorem DD.skip_pend (h : List (Nat × AO)) (d : DD) : (d.skip h).pend = d.pend := by unfold DD.skip; cases d.chB d.j <;> rfl
theorem DD.skip_ch (h : List (Nat × AO)) (d : DD) : (d.skip h).chB = d.chB := by unfold DD.skip; cases d.chB d.j <;> rfl
theorem DD.skip_pr (h : List (Nat × AO)) (d : DD) : (d.skip h).prB = d.prB := by unfold DD.skip; cases d.chB d.j <;> rfl
theorem DD.skip_st (h : List (Nat × AO)) (d : DD) : (d.skip h).st = d.st := by unfold DD.skip; cases d.chB d.j <;> rfl
def skipD (h : List (Nat × AO)) (D : Option DD) : Option DD := D.map (DD.skip h)
/-- an operation that is not wanted -/
theorem RL.skip (hg : wantA ops o τ = some false) (hd : dOk n o.dst = true) (k : RL P ops Q (skipD h D) E n L (putA o.dst (.raw undef) τ) h F rest) : RL P ops Q D E n L τ h F (o :: rest) := by
  cases D with
  | none =>
    intro ρ a w g
    have hw := g.want hg
    exact wpList_skip hw (k ρ _ _ (g.put o.dst (.raw undef) hd (AV.Low.raw _ _ _)))
  | some d =>
    intro hops hpl hwl ρ a w Ws g hs
    have hw := g.want hg
    simp only [List.length_cons, List.range'_succ, CH]
    intro o' ho'
    have h0 := hops 0
    simp only [List.getElem?_cons_zero, Nat.add_zero] at h0
    obtain rfl : o = o' := Option.some.inj (h0.trans ho')
    rw [if_neg (by rw [hw]; decide)]
    have hs2 : Stg ρ (d.skip h).wl (if d.chB d.j = true then w :: Ws else Ws) w := by
      unfold DD.skip
      cases d.chB d.j
      · exact hs
      · exact ⟨fun _ _ _ _ _ => rfl, hs⟩
    have hwl2 : ∀ p ∈ (d.skip h).wl, ∀ l, liveB l p.1 = true → l < L := by
      unfold DD.skip
      cases d.chB d.j
      · exact hwl
      · intro p hp
        rcases List.mem_cons.1 hp with rfl | hp
        · intro l hl
          cases ho : hk l h with
          | none => exact absurd ho (liveB_iff.1 hl)
          | some ob => exact (g.hp l ob ho).1
        · exact hwl p hp
    have := k (fun i => by have := hops (i + 1); rw [DD.skip_j]; simpa [Nat.add_assoc, Nat.add_comm 1 i] using this) (by rw [DD.skip_pend]; exact hpl) hwl2 ρ _ w _ (g.put o.dst (.raw undef) hd (AV.Low.raw _ _ _)) hs2
    rw [DD.skip_j, DD.skip_pend, DD.skip_ch, DD.skip_pr, DD.skip_st] at this
    exact this
/-- an operation of 'act' -/
theorem rdL_lt {P : Program} {tt : List (Nat × TI)} {ρ : Env} {a : Act} {w : World} (g : Gam E ρ n L τ h F a w) {v : AV} (ha : act tt (fun l => hk l h) (evA τ) o.op = some v) : ∀ l ∈ rdL τ o.op, l < L ∧ ρ l ≠ none := by
  intro l hl
  cases ho : o.op <;> rw [ho] at hl <;> simp only [rdL] at hl <;> try (simp at hl; done)
  case load t x =>
    rw [ho] at ha
    simp only [act] at ha
    split at ha
    · rename_i l' wd i c ti h1 h2
      rw [h1] at hl
      simp only [List.mem_singleton] at hl
      subst hl
      split at ha
      · rename_i xs ty h3
        have := g.hp _ _ h3
        obtain ⟨b, hr, _⟩ := this.2.2
        exact ⟨this.1, by rw [hr]; simp⟩
      · cases ha
    · cases ha
/-- 'act' over another world in which the block that is looked at is the same -/
theorem Gam.act_at {P : Program} {tt : List (Nat × TI)} (htt : TTok P tt) {ρ : Env} {a : Act} {w : World} (g : Gam E ρ n L τ h F a w) {v : AV} (ha : act tt (fun l => hk l h) (evA τ) o.op = some v)
    (x : World) (hx : ∀ l ∈ rdL τ o.op, ∀ b, ρ l = some b → x.heap[b]? = w.heap[b]?) : (execOp a.eval o).run P x = .ok (.value (v.conc ρ)) x := by
  refine act_sound htt (hl := fun l => if (rdL τ o.op).elem l = true then hk l h else none) (e := evA τ) (fun l ob ho => ?_) (evB g) o v ?_
  · split at ho
    · rename_i hm0
      have hm : l ∈ rdL τ o.op := by simpa using hm0
      have hh := g.holds l ob ho
      cases ob with
      | cells xs ty => obtain ⟨b, hr, hb⟩ := hh; exact ⟨b, hr, by rw [hx l hm b hr]; exact hb⟩
      | bytes p cap ty =>
        refine ⟨hh.1, hh.2.imp id ?_⟩
        rintro ⟨b, cur, hr, hb, h1⟩
        exact ⟨b, cur, hr, by rw [hx l hm b hr]; exact hb, h1⟩
      | tab wd m cap f ty =>
        refine ⟨hh.1, hh.2.1, hh.2.2.imp id ?_⟩
        rintro ⟨b, cur, hr, hb, h1⟩
        exact ⟨b, cur, hr, by rw [hx l hm b hr]; exact hb, h1⟩
      | ro wd off m f =>
        refine hh.imp id ?_
        rintro ⟨b, cur, ty, fr, hr, hb, h1⟩
        exact ⟨b, cur, ty, fr, hr, by rw [hx l hm b hr]; exact hb, h1⟩
      | gone => trivial
    · cases ho
  · rw [← ha]
    cases ho : o.op
    case load t x =>
      simp only [act]
      split
      · rename_i l wd i c ti h1 h2
        have hm : (rdL τ (.load t x)).elem l = true := by simp [rdL, h1]
        simp only [hm, if_true]
      · rfl
    case unOp op t x => cases op <;> rfl
    case makeFunc fn f c => cases fn <;> rfl
    all_goals rfl
theorem RL.step {tt : List (Nat × TI)} (htt : TTok P tt) (v : AV) (ha : act tt (fun l => hk l h) (evA τ) o.op = some v) (hg : wantA ops o τ = some true) (hd : dOk n o.dst = true) (hk : lookB D (rdL τ o.op) = true)
    (k : RL P ops Q (lookD D (rdL τ o.op)) E n L (putA o.dst v τ) h F rest) (hls : (rdL τ o.op).all (fun l => Nat.ble (l + 1) L) = true) : RL P ops Q D E n L τ h F (o :: rest) :=
  RL.looks (rdL τ o.op) hg hd hk (fun l hl => by
    have h2 := List.all_eq_true.1 hls l hl
    have : l + 1 ≤ L := by simpa [Nat.ble_eq] using h2
    omega) v (fun ρ a w g => ⟨(g.actS htt ha).2, fun l hl => (rdL_lt (P := P) g ha l hl).2, fun x hx => g.act_at htt ha x hx⟩) k
/-- a state in which one of the chain ends: a value, memory, labels -/
structure Next1 (E : Base) (n L L' : Nat) (τ : List (Nat × AV)) (h h' : List (Nat × AO)) (F : World → Prop) (ws : List Nat) (ρ : Env) (a : Act) (w : World) (ρ' : Env) (v : AV) (w' : World) : Prop where
  low : v.Low ρ' L'
  same : ∀ l, l < L → ρ' l = ρ l
  gam : Gam E ρ' n L' τ h' F a w'
  old : ∀ l b, hk l h ≠ none → ρ l = some b → l ∉ ws → w.heap[b]? = w'.heap[b]?
def DD.act (h : List (Nat × AO)) (d : DD) (ws : List Nat) : DD := { d with j := d.j + 1, wl := (h, ws) :: d.wl }
def actD (h : List (Nat × AO)) (D : Option DD) (ws : List Nat) : Option DD := D.map fun d => d.act h ws
/-- one of the chain; nothing that is still to be looked at is turned -/
def chainB (h : List (Nat × AO)) (D : Option DD) (ws : List Nat) : Bool := match D with
  | none => true
  | some d => d.chB d.j && d.pend.all fun p => d.prB p.1 d.j || (!ws.elem p.2 && liveB p.2 h)
theorem pendC_ext {ρ ρ' : Env} {L : Nat} (he : ∀ l, l < L → ρ' l = ρ l) : ∀ (pend : List (Nat × Nat)), (∀ p ∈ pend, p.2 < L) → pendC ρ' pend = pendC ρ pend
  | [], _ => rfl
  | (i, l) :: r, h => by
    have := he l (h (i, l) (by simp))
    simp only [pendC, this, pendC_ext he r (fun p hp => h p (by simp [hp]))]
theorem pendC_mem {ρ : Env} : ∀ {pend : List (Nat × Nat)} {q : Nat × Nat}, q ∈ pendC ρ pend → ∃ l, (q.1, l) ∈ pend ∧ ρ l = some q.2
  | [], q, h => by simp [pendC] at h
  | (i, l) :: r, q, h => by
    simp only [pendC] at h
    split at h
    · rename_i b hb
      rcases List.mem_cons.1 h with rfl | h
      · exact ⟨l, by simp, hb⟩
      · obtain ⟨l', h1, h2⟩ := pendC_mem h
        exact ⟨l', by simp [h1], h2⟩
    · obtain ⟨l', h1, h2⟩ := pendC_mem h
      exact ⟨l', by simp [h1], h2⟩
/-- one of the chain -/
theorem RL.acts {σ : Type} (G : σ → Prop) (val : σ → AV) (L' : σ → Nat) (h' : σ → List (Nat × AO)) (F' : σ → World → Prop) (ws : List Nat) (hg : wantA ops o τ = some true) (hd : dOk n o.dst = true) (hk1 : chainB h D ws = true) (hL : ∀ s, G s → L ≤ L' s)
    (hv : ∀ ρ a w, Gam E ρ n L τ h F a w → goes P o a w fun v w' => ∃ s ρ', G s ∧ v = (val s).conc ρ' ∧ Next1 E n L (L' s) τ h (h' s) (F' s) ws ρ a w ρ' (val s) w')
    (k : ∀ s, G s → RL P ops Q (actD h D ws) E n (L' s) (putA o.dst (val s) τ) (h' s) (F' s) rest) : RL P ops Q D E n L τ h F (o :: rest) := by
  cases D with
  | none =>
    intro ρ a w g
    have hw := g.want hg
    refine wpList_step fun K hK => ?_
    rw [if_pos hw]
    refine goes_wp (hv ρ a w g) ?_
    rintro v w' ⟨s, ρ', hG, rfl, hN⟩
    exact hK _ _ (k s hG ρ' _ _ (hN.gam.put o.dst (val s) hd hN.low))
  | some d =>
    intro hops hpl hwl ρ a w Ws g hs
    have hw := g.want hg
    simp only [chainB, Bool.and_eq_true] at hk1
    simp only [List.length_cons, List.range'_succ, CH]
    intro o' ho'
    have h0 := hops 0
    simp only [List.getElem?_cons_zero, Nat.add_zero] at h0
    obtain rfl : o = o' := Option.some.inj (h0.trans ho')
    rw [if_pos hw, if_pos hk1.1]
    refine goes_mono (hv ρ a w g) ?_
    rintro v w' ⟨s, ρ', hG, rfl, hN⟩
    refine ⟨fun p hp hpr => ?_, ?_⟩
    · obtain ⟨l, h1, h2⟩ := pendC_mem hp
      have h3 := List.all_eq_true.1 hk1.2 _ h1
      simp only [Bool.or_eq_true, Bool.not_eq_true', Bool.and_eq_true] at h3
      rcases h3 with h3 | h3
      · rw [h3] at hpr; cases hpr
      · exact (hN.old l p.2 (liveB_iff.1 h3.2) h2 (fun hm => by have h4 := h3.1; rw [List.elem_iff.2 hm] at h4; cases h4)).symm
    · have h1 := k s hG (fun i => by have := hops (i + 1); simpa [DD.act, Nat.add_assoc, Nat.add_comm 1 i] using this) (fun p hp => Nat.lt_of_lt_of_le (hpl p hp) (hL s hG)) (fun p hp => by
          rcases List.mem_cons.1 hp with rfl | hp
          · intro l hl
            cases ho : hk l h with
            | none => exact absurd ho (liveB_iff.1 hl)
            | some ob => exact Nat.lt_of_lt_of_le (g.hp l ob ho).1 (hL s hG)
          · exact fun l hl => Nat.lt_of_lt_of_le (hwl p hp l hl) (hL s hG)) ρ' _ w' (w :: Ws) (hN.gam.put o.dst (val s) hd hN.low)
        ⟨fun l b hl hb hn => by
          have hll : l < L := by
            cases ho : hk l h with
            | none => exact absurd ho (liveB_iff.1 hl)
            | some ob => exact (g.hp l ob ho).1
          exact hN.old l b (liveB_iff.1 hl) (by rw [← hN.same l hll]; exact hb) hn, hs.ext hN.same hwl⟩
      have e : pendC ρ' (d.act h ws).pend = pendC ρ d.pend := pendC_ext hN.same _ hpl
      rw [e] at h1
      exact h1
end
end Go.Proofs.Yteabncomclgncaa
namespace Go.Proofs.Yteabncomclgncaa
set_option linter.unusedVariables false
set_option linter.unusedSimpArgs false
set_option linter.unusedSectionVars false
open Go.RowKit
/-- code, from every state as told -/
def CL (P : Program) (c : Code) (Q : Exit → Act → World → Prop) (E : Base) (n L : Nat) (τ : List (Nat × AV)) (h : List (Nat × AO)) (F : World → Prop) : Prop := ∀ ρ a w, Gam E ρ n L τ h F a w → c.wp P Q a w
/-- what is asked at an exit, of every state as told -/
def EX (Q : Exit → Act → World → Prop) (e : Exit) (E : Base) (n L : Nat) (τ : List (Nat × AV)) (h : List (Nat × AO)) (F : World → Prop) : Prop := ∀ ρ a w, Gam E ρ n L τ h F a w → Q e a w
theorem Gam.drew {E : Base} {ρ : Env} {n L : Nat} {τ : List (Nat × AV)} {h : List (Nat × AO)} {F : World → Prop} {a : Act} {w : World} (g : Gam E ρ n L τ h F a w) : Gam E ρ n L τ h F a { w with drawn := w.drawn + 1 } :=
  ⟨g.df, g.sz, g.tm, fun l o ho => by
    have := g.hp l o ho
    refine ⟨this.1, this.2.1, ?_⟩
    have hh := this.2.2
    cases o with
    | cells xs ty => exact hh
    | bytes p cap ty => exact hh
    | tab wd m cap f ty => exact hh
    | ro wd off m f => exact hh
    | gone => trivial, g.dis, fun w' hw => g.fr w' ⟨hw.os, hw.tape, hw.output, hw.size, hw.block⟩, g.ex, g.le, g.al⟩
/-- what is asked of a region that draws, in one look -/
def edgesB (ops : List Oper) (pr : List (List Nat)) (ch : List Nat) : Bool :=
  let p := fun i j => (pr.getD j []).elem i
  Region.noSelect ops.toArray && ch.isSublist (List.range ops.length) &&
  (ops.zipIdx.all fun (o, j) => o.after.toList.all fun e => !Region.binds .any e || (Nat.ble (e.on + 1) j && p e.on j)) &&
  ((List.range pr.length).all fun j => (pr.getD j []).all fun i => Nat.ble (i + 1) j && match ops[j]? with
    | some o => o.after.toList.any fun e => Region.binds .any e && (Nat.beq e.on i || p i e.on)
    | none => false) &&
  (ch.all fun j => ch.all fun i => Nat.ble j i || p i j) &&
  (ops.zipIdx.all fun (oj, j) => (List.range j).all fun i => p i j || match ops[i]? with
    | some oi => oi.apart ops.toArray oj
    | none => true)
theorem getD_elem {pr : List (List Nat)} {i j : Nat} (h : (pr.getD j []).elem i = true) : j < pr.length := by
  rcases Nat.lt_or_ge j pr.length with h' | h'
  · exact h'
  · rw [List.getD_eq_getElem?_getD, List.getElem?_eq_none h'] at h
    simp at h
theorem edges_of {ops : List Oper} {pr : List (List Nat)} {ch : List Nat} (h : edgesB ops pr ch = true) (d : DD) (hp : d.pr = pr) (hc : d.ch = ch) :
    Edges ops.toArray d.chB d.prB ∧ (∀ j, d.st j ≤ (List.range ops.toArray.size).countP fun i => d.chB i && d.prB i j) ∧ (∀ i j, d.prB i j = true → i < j) := by
  subst hp hc
  simp only [edgesB, Bool.and_eq_true] at h
  obtain ⟨⟨⟨⟨⟨h1, h2⟩, h3⟩, h4⟩, h5⟩, h6⟩ := h
  have hp : ∀ i j, d.prB i j = true → i < j ∧ ∀ o, ops[j]? = some o → ∃ e ∈ o.after, Region.binds .any e = true ∧ (e.on = i ∨ d.prB i e.on = true) := fun i j hij => by
    have hlt := getD_elem hij
    have := List.all_eq_true.1 h4 j (List.mem_range.2 hlt)
    have := List.all_eq_true.1 this i (List.elem_iff.1 hij)
    simp only [Bool.and_eq_true] at this
    refine ⟨by have : i + 1 ≤ j := by simpa [Nat.ble_eq] using this.1
               omega, fun o ho => ?_⟩
    have h7 := this.2
    rw [ho] at h7
    simp only [List.any_eq_true, Bool.and_eq_true, Bool.or_eq_true] at h7
    obtain ⟨e, he, hb, hx⟩ := h7
    exact ⟨e, by simpa using he, hb, hx.imp (fun h => Nat.eq_of_beq_eq_true h) id⟩
  refine ⟨⟨fun j o cs b ho => Region.noSelect_spec h1 j o cs b ho, fun j o ho e he hb => ?_, fun i j o ho hij => ?_, fun i j hij hi hj => ?_, fun i j oi oj hij hi hj hn => ?_⟩, fun j => ?_, fun i j hij => (hp i j hij).1⟩
  · have := List.all_eq_true.1 h3 (o, j) (List.mem_zipIdx_iff_getElem?.2 (by simpa using ho))
    have := List.all_eq_true.1 this e (by simpa using he)
    simp only [Bool.or_eq_true, Bool.not_eq_true', Bool.and_eq_true] at this
    rcases this with h | h
    · rw [hb] at h; cases h
    · exact ⟨by have : e.on + 1 ≤ j := by simpa [Nat.ble_eq] using h.1
                omega, h.2⟩
  · exact (hp i j hij).2 o (by simpa using ho)
  · have := List.all_eq_true.1 h5 j (List.elem_iff.1 hj)
    have := List.all_eq_true.1 this i (List.elem_iff.1 hi)
    simp only [Bool.or_eq_true] at this
    rcases this with h | h
    · have : j ≤ i := by simpa [Nat.ble_eq] using h
      omega
    · exact h
  · have := List.all_eq_true.1 h6 (oj, j) (List.mem_zipIdx_iff_getElem?.2 (by simpa using hj))
    have := List.all_eq_true.1 this i (List.mem_range.2 hij)
    simp only [Bool.or_eq_true] at this
    rcases this with h | h
    · unfold DD.prB at hn; rw [hn] at h; cases h
    · have e : ops[i]? = some oi := by simpa using hi
      rw [e] at h
      exact h
  · have hs : d.ch.Sublist (List.range ops.toArray.size) := by
      rw [List.size_toArray]
      exact List.isSublist_iff_sublist.1 h2
    refine Nat.le_trans ?_ (hs.countP_le (p := fun i => d.chB i && d.prB i j))
    unfold DD.st
    rw [← List.countP_eq_length_filter]
    refine List.countP_mono_left fun i hi h => ?_
    simp only [Bool.and_eq_true]
    exact ⟨List.elem_iff.2 hi, h⟩
section
variable {P : Program} {Q : Exit → Act → World → Prop} {E : Base} {n L : Nat} {τ : List (Nat × AV)} {h : List (Nat × AO)} {F : World → Prop}
theorem CL.region {id : Nat} {l : List Oper} (k : RL P l.toArray Q none E n L τ h F l) : CL P (.region id l.toArray false) Q E n L τ h F := fun ρ a w g => wp_region_lit (k ρ a w g)
theorem CL.draw (pr : List (List Nat)) (ch : List Nat) {id : Nat} {l : List Oper} (hm : P.follows .mixedOrders = true) (hB : edgesB l pr ch = true) (k : RL P l.toArray Q (some ⟨0, pr, ch, [], []⟩) E n L τ h F l) :
    CL P (.region id l.toArray true) Q E n L τ h F := fun ρ a w g => by
  obtain ⟨hE, hs, hl⟩ := edges_of hB ⟨0, pr, ch, [], []⟩ rfl rfl
  refine wp_region_any hm ?_
  have := k (fun i => by simp) (fun p hp => by cases hp) (fun p hp => by cases hp) ρ a _ [] g.drew trivial
  rw [← List.range_eq_range'] at this
  refine CH.any hE hs hl _ _ _ _ [] a (by simp) ⟨by simp, fun j => ?_, List.pairwise_lt_range⟩ (fun j o ho hn => ?_) ?_ this
  · simp only [List.mem_range, List.size_toArray]
    constructor
    · intro hj; exact ⟨hj, by simp [hj]⟩
    · exact fun h => h.1
  · exfalso
    apply hn
    have := (Array.getElem?_eq_some_iff.1 ho).1
    simpa using this
  · have : chCnt l.toArray (DD.chB ⟨0, pr, ch, [], []⟩) (List.range l.length) = 0 := by
      unfold chCnt
      rw [List.countP_eq_zero]
      intro i hi
      have : i < l.length := by simpa using hi
      simp [this]
    omega
theorem CL.seq {x y : Code} (k : CL P x (Exit.then (y.wp P Q) Q) E n L τ h F) : CL P (.seq x y) Q E n L τ h F := fun ρ a w g => wp_seq (k ρ a w g)
theorem EX.then {y : Code} (k : CL P y Q E n L τ h F) : EX (Exit.then (y.wp P Q) Q) .normal E n L τ h F := fun ρ a w g => k ρ a w g
theorem EX.pass_ret {next : Act → World → Prop} (k : EX Q .ret E n L τ h F) : EX (Exit.then next Q) .ret E n L τ h F := k
theorem EX.pass_exit {next : Act → World → Prop} {id : Nat} (k : EX Q (.exit id) E n L τ h F) : EX (Exit.then next Q) (.exit id) E n L τ h F := k
theorem EX.block_normal {id : Nat} (k : EX Q .normal E n L τ h F) : EX (Exit.inBlock id Q) .normal E n L τ h F := k
theorem EX.block_ret {id : Nat} (k : EX Q .ret E n L τ h F) : EX (Exit.inBlock id Q) .ret E n L τ h F := k
theorem EX.block_exit {id : Nat} (k : EX Q .normal E n L τ h F) : EX (Exit.inBlock id Q) (.exit id) E n L τ h F := fun ρ a w g => by
  simp only [Exit.inBlock, if_true]; exact k ρ a w g
theorem EX.block_other {id id' : Nat} (hne : Nat.beq id' id = false) (k : EX Q (.exit id') E n L τ h F) : EX (Exit.inBlock id Q) (.exit id') E n L τ h F := fun ρ a w g => by
  have : id' ≠ id := fun e => by subst e; rw [Nat.beq_refl] at hne; cases hne
  simp only [Exit.inBlock, this, if_false]; exact k ρ a w g
theorem RL.done {ops : Array Oper} {D : Option DD} (k : EX Q .normal E n L τ h F) : RL P ops Q D E n L τ h F [] := RL.nil k
theorem CL.skip (k : EX Q .normal E n L τ h F) : CL P .skip Q E n L τ h F := fun ρ a w g => wp_skip (k ρ a w g)
theorem CL.ret (k : EX Q .ret E n L τ h F) : CL P .ret Q E n L τ h F := fun ρ a w g => wp_ret (k ρ a w g)
theorem CL.exit {id : Nat} (k : EX Q (.exit id) E n L τ h F) : CL P (.exit id) Q E n L τ h F := fun ρ a w g => wp_exit (k ρ a w g)
theorem CL.block {id : Nat} {c : Code} (k : CL P c (Exit.inBlock id Q) E n L τ h F) : CL P (.block id c) Q E n L τ h F := fun ρ a w g => wp_block (k ρ a w g)
theorem CL.cond {c : Operand} {x y : Code} {b : Bool} (hc : evA τ c = some (.raw (.bool b))) (kt : b = true → CL P x Q E n L τ h F) (kf : b = false → CL P y Q E n L τ h F) : CL P (.cond c x y) Q E n L τ h F := fun ρ a w g =>
  wp_cond_split (g.eval c _ hc).2 (fun hb => kt hb ρ a w g) (fun hb => kf hb ρ a w g)
theorem CL.cond_true {c : Operand} {x y : Code} (hc : evA τ c = some (.raw (.bool true))) (kt : CL P x Q E n L τ h F) : CL P (.cond c x y) Q E n L τ h F := fun ρ a w g => wp_cond_true (g.eval c _ hc).2 (kt ρ a w g)
theorem CL.cond_false {c : Operand} {x y : Code} (hc : evA τ c = some (.raw (.bool false))) (kf : CL P y Q E n L τ h F) : CL P (.cond c x y) Q E n L τ h F := fun ρ a w g => wp_cond_false (g.eval c _ hc).2 (kf ρ a w g)
/-- parts a goal by a test's outcome -/
theorem CL.cond_dec {c : Operand} {x y : Code} {p : Prop} [Decidable p] (hc : evA τ c = some (.raw (.bool (decide p)))) (kt : p → CL P x Q E n L τ h F) (kf : ¬ p → CL P y Q E n L τ h F) : CL P (.cond c x y) Q E n L τ h F :=
  CL.cond hc (fun hb => kt (of_decide_eq_true hb)) (fun hb => kf (of_decide_eq_false hb))
end
end Go.Proofs.Yteabncomclgncaa
namespace Go.Proofs.Yteabncomclgncaa
set_option linter.unusedVariables false
set_option linter.unusedSimpArgs false
set_option linter.unusedSectionVars false
open Go.RowKit
theorem holds_same {ρ : Env} {r : Option Nat} {w w' : World} {o : AO} (h : o.holds ρ r w) (hb : ∀ b, r = some b → w'.heap[b]? = w.heap[b]?) : o.holds ρ r w' := by
  cases o with
  | cells xs ty => obtain ⟨b, hr, hc⟩ := h; exact ⟨b, hr, by rw [hb b hr]; exact hc⟩
  | bytes p cap ty =>
    refine ⟨h.1, h.2.imp id ?_⟩
    rintro ⟨b, cur, hr, hc, h1⟩
    exact ⟨b, cur, hr, by rw [hb b hr]; exact hc, h1⟩
  | tab wd m cap f ty =>
    refine ⟨h.1, h.2.1, h.2.2.imp id ?_⟩
    rintro ⟨b, cur, hr, hc, h1⟩
    exact ⟨b, cur, hr, by rw [hb b hr]; exact hc, h1⟩
  | ro wd off m f =>
    refine h.imp id ?_
    rintro ⟨b, cur, ty, fr, hr, hc, h1⟩
    exact ⟨b, cur, ty, fr, hr, by rw [hb b hr]; exact hc, h1⟩
  | gone => trivial
theorem holds_lt {ρ : Env} {b : Nat} {w : World} {o : AO} (h : o.holds ρ (some b) w) (ho : o ≠ .gone) : b < w.heap.size := by
  cases o with
  | cells xs ty => obtain ⟨b', hr, hc⟩ := h; cases hr; exact (Array.getElem?_eq_some_iff.1 hc).1
  | bytes p cap ty =>
    rcases h.2 with ⟨hr, _⟩ | ⟨b', cur, hr, hc, h1⟩
    · cases hr
    · cases hr; exact (Array.getElem?_eq_some_iff.1 hc).1
  | tab wd m cap f ty =>
    rcases h.2.2 with ⟨hr, _⟩ | ⟨b', cur, hr, hc, h1⟩
    · cases hr
    · cases hr; exact (Array.getElem?_eq_some_iff.1 hc).1
  | ro wd off m f =>
    rcases h with ⟨hr, _⟩ | ⟨b', cur, ty, fr, hr, hc, h1⟩
    · cases hr
    · cases hr; exact (Array.getElem?_eq_some_iff.1 hc).1
  | gone => exact absurd rfl ho
theorem hk_gone {l : Nat} {h : List (Nat × AO)} {o : AO} (hl : hk l h = some o) : o ≠ .gone := by
  rintro rfl
  unfold hk at hl
  split at hl
  · cases hl
  · rename_i h1; exact h1 hl
section
variable {E : Base} {ρ : Env} {n L : Nat} {τ : List (Nat × AV)} {h : List (Nat × AO)} {F : World → Prop} {a : Act} {w : World}
theorem Gam.lt (g : Gam E ρ n L τ h F a w) {l b : Nat} (hl : hk l h ≠ none) (hb : ρ l = some b) : b < w.heap.size := by
  cases ho : hk l h with
  | none => exact absurd ho hl
  | some o =>
    have := (g.hp l o ho).2.2
    rw [hb] at this
    exact holds_lt this (hk_gone ho)
/-- a state behind a turn of memory -/
theorem Gam.turn (g : Gam E ρ n L τ h F a w) {ρ' : Env} {L' : Nat} {h' : List (Nat × AO)} {w' : World} (hs : ∀ l, l < L → ρ' l = ρ l) (hL : L ≤ L')
    (hag : Ag (fun b => ∀ l, wrA l h → ρ l ≠ some b) w w') (hh : ∀ l o, hk l h' = some o → l < L' ∧ o.Low ρ' L' ∧ o.holds ρ' (ρ' l) w')
    (hdis : ∀ l l' b, wrA l h' → hk l' h' ≠ none → ρ' l = some b → ρ' l' = some b → l = l')
    (hnew : ∀ l b, wrA l h' → ρ' l = some b → w.heap.size ≤ b ∨ ∃ l0, wrA l0 h ∧ ρ l0 = some b)
    (hal : ∀ l b, L ≤ l → l < L' → ρ' l = some b → b < w'.heap.size) : Gam E ρ' n L' τ h' F a w' := by
  refine ⟨g.df, g.sz, fun t v hv => ?_, hh, hdis, fun w'' hw => ?_, fun l hl => ?_, Nat.le_trans g.le hL, fun l b hl hb => ?_⟩
  · have := g.tm t v hv
    exact ⟨(this.1.ext hs).mono hL, by rw [this.1 ρ' hs]; exact this.2⟩
  · refine g.fr w'' (hag.trans2 hw fun b hb hd l hl hr => ?_)
    rcases hnew l b hl hr with h1 | ⟨l0, h1, h2⟩
    · omega
    · exact hd l0 h1 h2
  · rw [hs l (Nat.lt_of_lt_of_le hl g.le), g.ex l hl]
  · rcases Nat.lt_or_ge l L with h1 | h1
    · exact Nat.lt_of_lt_of_le (g.al l b h1 ((hs l h1).symm.trans hb)) hag.size
    · exact hal l b h1 hl hb
theorem ag_alloc (D : Nat → Prop) (w : World) (o : Obj) : Ag D w (w.alloc o) := ⟨rfl, rfl, rfl, by simp, fun b hb _ => heap_alloc_old w o hb⟩
def updE (ρ : Env) (l : Nat) (r : Option Nat) : Env := fun k => match Nat.beq k l with
  | true => r
  | false => ρ k
theorem updE_same (ρ : Env) (l : Nat) (r : Option Nat) : updE ρ l r l = r := by simp [updE]
theorem updE_ne (ρ : Env) {l k : Nat} (r : Option Nat) (h : k ≠ l) : updE ρ l r k = ρ k := by
  unfold updE
  have : Nat.beq k l = false := by
    cases e : Nat.beq k l with
    | true => exact absurd (Nat.eq_of_beq_eq_true e) h
    | false => rfl
  rw [this]
/-- a new block, at the label L -/
theorem Gam.new (g : Gam E ρ n L τ h F a w) (o : AO) (ob : Obj) (ho : ∀ ρ', (∀ l, l < L → ρ' l = ρ l) → o.Low ρ' (L + 1) ∧ o.holds ρ' (some w.heap.size) (w.alloc ob)) :
    Gam E (updE ρ L (some w.heap.size)) n (L + 1) τ ((L, o) :: h) F a (w.alloc ob) := by
  have hs : ∀ l, l < L → updE ρ L (some w.heap.size) l = ρ l := fun l hl => updE_ne ρ _ (by omega)
  refine g.turn hs (Nat.le_succ L) (ag_alloc _ w ob) (fun l o' hl => ?_) (fun l l' b hl hl' hb hb' => ?_) (fun l b hl hb => ?_) (fun l b h1 h2 hb => ?_)
  · rw [hk_cons] at hl
    split at hl
    · rename_i e
      subst e
      rw [updE_same]
      have e2 : o' = o := by cases o <;> simp at hl <;> exact hl.symm
      subst e2
      exact ⟨by omega, ho _ hs⟩
    · rename_i e
      have hh := g.hp l o' hl
      refine ⟨by omega, (hh.2.1.ext hs).mono (Nat.le_succ L), ?_⟩
      rw [hs l hh.1]
      refine holds_same ((hh.2.1 _ hs _ _).1 hh.2.2) fun b hb => heap_alloc_old w ob (g.lt (by rw [hl]; simp) hb)
  · have hw := hl
    have hl := hl.live
    rw [hk_cons] at hl hl'
    by_cases e1 : L = l <;> by_cases e2 : L = l'
    · omega
    · rw [if_neg e2] at hl'
      subst e1
      rw [updE_same] at hb
      rw [updE_ne ρ _ (fun e => e2 e.symm)] at hb'
      have := g.lt hl' hb'
      cases hb
      omega
    · rw [if_neg e1] at hl
      subst e2
      rw [updE_same] at hb'
      rw [updE_ne ρ _ (fun e => e1 e.symm)] at hb
      have := g.lt hl hb
      cases hb'
      omega
    · rw [if_neg e1] at hl
      rw [if_neg e2] at hl'
      rw [updE_ne ρ _ (fun e => e1 e.symm)] at hb
      rw [updE_ne ρ _ (fun e => e2 e.symm)] at hb'
      refine g.dis l l' b ?_ hl' hb hb'
      obtain ⟨o1, h1, h2⟩ := hw
      rw [hk_cons, if_neg e1] at h1
      exact ⟨o1, h1, h2⟩
  · have hw := hl
    obtain ⟨o1, h1, h2⟩ := hl
    by_cases e1 : L = l
    · subst e1
      rw [updE_same] at hb
      cases hb
      exact .inl (Nat.le_refl _)
    · rw [hk_cons, if_neg e1] at h1
      rw [updE_ne ρ _ (fun e => e1 e.symm)] at hb
      exact .inr ⟨l, ⟨o1, h1, h2⟩, hb⟩
  · obtain rfl : l = L := by omega
    rw [updE_same] at hb
    cases hb
    simp
/-- what lies at a label is another thing now -/
theorem Gam.set (g : Gam E ρ n L τ h F a w) {l0 b0 : Nat} {o o0 : AO} {w' : World} (hl0 : hk l0 h = some o0) (hro : o0.isRo = false) (hb0 : ρ l0 = some b0) (hlow : o.Low ρ L) (hh : o.holds ρ (some b0) w')
    (hag : ∀ b, b ≠ b0 → w'.heap[b]? = w.heap[b]?) (hsz : w'.heap.size = w.heap.size) (hos : w'.os = w.os ∧ w'.tape = w.tape ∧ w'.output = w.output) : Gam E ρ n L τ ((l0, o) :: h) F a w' := by
  have hw0 : wrA l0 h := ⟨o0, hl0, hro⟩
  have hne : ∀ l, hk l ((l0, o) :: h) ≠ none → hk l h ≠ none := fun l hl => by
    rw [hk_cons] at hl
    split at hl
    · rename_i e; subst e; rw [hl0]; simp
    · exact hl
  have hwr : ∀ l, wrA l ((l0, o) :: h) → wrA l h := fun l hl => by
    obtain ⟨o1, h1, h2⟩ := hl
    rw [hk_cons] at h1
    split at h1
    · rename_i e; subst e; exact hw0
    · exact ⟨o1, h1, h2⟩
  refine g.turn (fun l hl => rfl) (Nat.le_refl L) ⟨hos.1, hos.2.1, hos.2.2, by omega, fun b hb hd => hag b fun e => hd l0 hw0 (e ▸ hb0)⟩ (fun l o' hl => ?_)
    (fun l l' b hl hl' hb hb' => g.dis l l' b (hwr l hl) (hne l' hl') hb hb') (fun l b hl hb => .inr ⟨l, hwr l hl, hb⟩) (fun l b h1 h2 _ => by omega)
  rw [hk_cons] at hl
  split at hl
  · rename_i e
    subst e
    have e2 : o' = o := by cases o <;> simp at hl <;> exact hl.symm
    subst e2
    exact ⟨(g.hp _ _ hl0).1, hlow, by rw [hb0]; exact hh⟩
  · rename_i e
    have hx := g.hp l o' hl
    refine ⟨hx.1, hx.2.1, holds_same hx.2.2 fun b hb => hag b fun eb => e (g.dis l0 l b0 hw0 (by rw [hl]; simp) hb0 (eb ▸ hb))⟩
end
end Go.Proofs.Yteabncomclgncaa
namespace Go.Proofs.Yteabncomclgncaa
set_option linter.unusedVariables false
set_option linter.unusedSimpArgs false
set_option linter.unusedSectionVars false
open Go.RowKit
/-- fits into one cell -/
def AV.oneB : AV → Bool
  | .agg _ => false
  | .tup _ => false
  | .raw (.agg _) => false
  | .raw (.tuple _) => false
  | .raw (.bool _) => true
  | .raw (.int _ _) => true
  | .raw (.string _) => true
  | .raw (.pointer _) => true
  | .raw (.slice _ _ _) => true
  | .raw .nilFunc => true
  | .raw .nilIface => true
  | .raw (.func _ _ _) => true
  | .raw (.iface _ _) => true
  | .raw _ => false
  | _ => true
theorem oneB_conc {v : AV} (h : v.oneB = true) (ρ : Env) : (v.conc ρ).oneCell' = true := by
  cases v with
  | raw u => cases u <;> simp_all [AV.oneB, AV.conc, Value.oneCell']
  | agg _ => cases h
  | tup _ => cases h
  | _ => rfl
/-- cells laid over others -/
def spl (xs : List AV) (k : Nat) (ys : List AV) : List AV := xs.take k ++ ys ++ xs.drop (k + ys.length)
theorem concs_append (ρ : Env) (xs ys : List AV) : AV.concs ρ (xs ++ ys) = AV.concs ρ xs ++ AV.concs ρ ys := by simp [concs_map]
theorem concs_spl (ρ : Env) (xs : List AV) (k : Nat) (ys : List AV) : AV.concs ρ (spl xs k ys) = (AV.concs ρ xs).take k ++ AV.concs ρ ys ++ (AV.concs ρ xs).drop (k + (AV.concs ρ ys).length) := by
  simp [spl, concs_append, concs_take, concs_drop, concs_length]
/-- all cells read the same whatever the labels from L on mean -/
def LowS (ρ : Env) (L : Nat) (xs : List AV) : Prop := ∀ x ∈ xs, x.Low ρ L
theorem lowS_of {ρ : Env} {L : Nat} {xs : List AV} (h : ∀ ρ' : Env, (∀ l, l < L → ρ' l = ρ l) → AV.concs ρ' xs = AV.concs ρ xs) : LowS ρ L xs := fun x hx ρ' he => by
  have := h ρ' he
  rw [concs_map, concs_map] at this
  exact List.map_inj_left.1 this x hx
theorem lowS_cells {ρ : Env} {L : Nat} {v : AV} (hv : v.Low ρ L) {xs : List AV} (h : v.cellsA = some xs) : LowS ρ L xs := lowS_of fun ρ' he => by
  rw [← cellsA_conc h, ← cellsA_conc h, hv ρ' he]
theorem lowS_raw (ρ : Env) (L : Nat) (l : List Value) : LowS ρ L (l.map .raw) := fun x hx => by
  obtain ⟨v, _, rfl⟩ := List.mem_map.1 hx
  exact AV.Low.raw _ _ _
theorem TIok.zeroC {P : Program} {t : TypeId} {ti : TI} (h : TIok P t ti) (w : World) : ∃ z, (zeroValue t).run P w = .ok z w ∧ z.cells.toList = ti.zero := by
  obtain ⟨i, z, h1, h2, h3, h4, h5, h6⟩ := h.run_info w
  exact ⟨z, by simp [zeroValue, h1, h4], h5⟩
/-- the cells of what lies at a label read the same -/
theorem Gam.lowCells {E : Base} {ρ : Env} {n L : Nat} {τ : List (Nat × AV)} {h : List (Nat × AO)} {F : World → Prop} {a : Act} {w : World} (g : Gam E ρ n L τ h F a w) {l : Nat} {xs : List AV} {T : TypeId} (hl : hk l h = some (.cells xs T)) : LowS ρ L xs := lowS_of fun ρ' he => by
  have := g.hp l _ hl
  obtain ⟨b, hr, hb⟩ := this.2.2
  have h2 := (this.2.1 ρ' he _ _).1 this.2.2
  obtain ⟨b', hr', hb'⟩ := h2
  rw [hr] at hr'
  cases hr'
  rw [hb] at hb'
  simp only [Option.some.injEq, Obj.cells.injEq, and_true] at hb'
  exact (List.toArray_inj hb').symm
section
variable {P : Program} {ops : Array Oper} {Q : Exit → Act → World → Prop} {D : Option DD} {E : Base} {n L : Nat} {τ : List (Nat × AV)} {h : List (Nat × AO)} {F : World → Prop} {rest : List Oper} {o : Oper}
/-- one of the chain that makes a block -/
theorem RL.makes (ao : AO) (val : AV) (hg : wantA ops o τ = some true) (hd : dOk n o.dst = true) (hk1 : chainB h D [] = true) (hval : ∀ ρ, val.Low ρ (L + 1))
    (hv : ∀ ρ a w, Gam E ρ n L τ h F a w → ∃ ob : Obj, (∀ ρ', (∀ l, l < L → ρ' l = ρ l) → ao.Low ρ' (L + 1) ∧ ao.holds ρ' (some w.heap.size) (w.alloc ob)) ∧
      (execOp a.eval o).run P w = .ok (.value (val.conc (updE ρ L (some w.heap.size)))) (w.alloc ob))
    (k : RL P ops Q (actD h D []) E n (L + 1) (putA o.dst val τ) ((L, ao) :: h) F rest) : RL P ops Q D E n L τ h F (o :: rest) :=
  RL.acts (σ := Unit) (fun _ => True) (fun _ => val) (fun _ => L + 1) (fun _ => (L, ao) :: h) (fun _ => F) [] hg hd hk1 (fun _ _ => Nat.le_succ L) (fun ρ a w g => by
    obtain ⟨ob, h1, h2⟩ := hv ρ a w g
    unfold goes
    rw [h2]
    exact ⟨(), _, trivial, rfl, hval _, fun l hl => updE_ne ρ _ (by omega), g.new ao ob h1, fun l b hl hb _ => (heap_alloc_old w ob (g.lt hl hb)).symm⟩) (fun _ _ => k)
theorem chain_low (ρ : Env) (L : Nat) (w i c : Nat) : (AV.ptr L w i c).Low ρ (L + 1) := fun ρ' he => by simp [AV.conc, he L (by omega)]
theorem sl_low (ρ : Env) (L : Nat) (w off m cap : Nat) : (AV.sl L w off m cap).Low ρ (L + 1) := fun ρ' he => by simp [AV.conc, he L (by omega)]
theorem cells_new {ρ : Env} {L : Nat} {xs : List AV} (hlow : LowS ρ L xs) (T : TypeId) (w : World) : ∀ ρ', (∀ l, l < L → ρ' l = ρ l) → (AO.cells xs T).Low ρ' (L + 1) ∧ (AO.cells xs T).holds ρ' (some w.heap.size) (w.alloc (.cells (AV.concs ρ xs).toArray T)) := fun ρ' he =>
  ⟨AO.Low.cells T fun x hx => ((hlow x hx).ext he).mono (Nat.le_succ L), ⟨_, rfl, by rw [concs_low hlow ρ' he]; exact heap_alloc_new w _⟩⟩
/-- var x T -/
theorem RL.alloc {tt : List (Nat × TI)} (htt : TTok P tt) (t : TypeId) (ti : TI) (ho : o.op = .alloc t) (ht : lk t tt = some ti) (hg : wantA ops o τ = some true) (hd : dOk n o.dst = true) (hk1 : chainB h D [] = true)
    (k : RL P ops Q (actD h D []) E n (L + 1) (putA o.dst (.ptr L 0 0 0) τ) ((L, .cells (ti.zero.map .raw) t) :: h) F rest) : RL P ops Q D E n L τ h F (o :: rest) :=
  RL.makes _ _ hg hd hk1 (fun ρ => chain_low ρ L 0 0 0) (fun ρ a w g => by
    obtain ⟨z, hz, hzc⟩ := (htt _ _ ht).zeroC w
    refine ⟨.cells (AV.concs ρ (ti.zero.map .raw)).toArray t, cells_new (lowS_raw ρ L ti.zero) t w, ?_⟩
    have hz2 : z.cells = ti.zero.toArray := by rw [← hzc]
    unfold execOp
    rw [ho]
    simp [Instr.alloc, hz, newVar, newRow, conc_raw_list, AV.conc, updE_same, hz2]) k
/-- &T{..}, a variable that is taken by its address -/
theorem RL.box (t : TypeId) (x : Operand) (v : AV) (xs : List AV) (ho : o.op = .box t x) (hx : evA τ x = some v) (hc : v.cellsA = some xs) (hg : wantA ops o τ = some true) (hd : dOk n o.dst = true) (hk1 : chainB h D [] = true)
    (k : RL P ops Q (actD h D []) E n (L + 1) (putA o.dst (.ptr L 0 0 0) τ) ((L, .cells xs t) :: h) F rest) : RL P ops Q D E n L τ h F (o :: rest) :=
  RL.makes _ _ hg hd hk1 (fun ρ => chain_low ρ L 0 0 0) (fun ρ a w g => by
    obtain ⟨h1, h2⟩ := g.eval x v hx
    refine ⟨.cells (AV.concs ρ xs).toArray t, cells_new (lowS_cells h1 hc) t w, ?_⟩
    have h3 : (v.conc ρ).cells = (AV.concs ρ xs).toArray := by rw [← cellsA_conc hc ρ]
    unfold execOp
    rw [ho]
    simp [Instr.box, h2, newVar, newRow, AV.conc, updE_same, h3]) k
theorem evParts_low {E : Base} {ρ : Env} {n L : Nat} {τ : List (Nat × AV)} {h : List (Nat × AO)} {F : World → Prop} {a : Act} {w : World} (g : Gam E ρ n L τ h F a w) : ∀ (ps : List (Nat × Operand)) (l : List (Nat × AV)), evParts (evA τ) ps = some l → ∀ p ∈ l, p.2.Low ρ L
  | [], l, hl, p, hp => by cases hl; cases hp
  | (i, x) :: r, l, hl, p, hp => by
    simp only [evParts] at hl
    split at hl
    · rename_i v l' h1 h2
      cases hl
      rcases List.mem_cons.1 hp with rfl | hp
      · exact (g.eval x v h1).1
      · exact evParts_low g r l' h2 p hp
    · cases hl
theorem rep_row (zs : List Value) : ∀ k : Nat, (List.range (k * zs.length)).map (fun i => zs.toArray[i % zs.toArray.size]!) = (List.replicate k zs).flatten
  | 0 => by simp
  | k + 1 => by
    have ih := rep_row zs k
    rw [Nat.add_mul, Nat.one_mul, List.range_add, List.map_append, ih, List.replicate_succ', List.flatten_append]
    congr 1
    simp only [List.map_map, List.flatten_cons, List.flatten_nil, List.append_nil]
    apply List.ext_getElem
    · simp
    · intro i h1 h2
      simp only [List.getElem_map, List.getElem_range, Function.comp, List.size_toArray]
      rw [Nat.mul_add_mod_self_right, Nat.mod_eq_of_lt h2]
      simp [h2]
/-- T{.., ..} of a slice -/
theorem RL.lit {tt : List (Nat × TI)} (htt : TTok P tt) (t e : TypeId) (len : Nat) (parts : Array (Nat × Operand)) (ti te : TI) (l : List (Nat × AV)) (xs : List AV) (ho : o.op = .buildSlice t len parts) (ht : lk t tt = some ti) (hkd : ti.kind = .sl e) (hte : lk e tt = some te)
    (hl : evParts (evA τ) parts.toList = some l) (hx : fillA (fun i => some (i * te.size, te.size)) ((List.replicate len (te.zero.map .raw)).flatten) l = some xs) (hsz : te.zero.length = te.size) (hsm : Nat.ble (len * te.size) 16777216 = true)
    (hg : wantA ops o τ = some true) (hd : dOk n o.dst = true) (hk1 : chainB h D [] = true)
    (k : RL P ops Q (actD h D []) E n (L + 1) (putA o.dst (.sl L te.size 0 len len) τ) ((L, .cells xs e) :: h) F rest) : RL P ops Q D E n L τ h F (o :: rest) :=
  RL.makes _ _ hg hd hk1 (fun ρ => sl_low ρ L _ 0 len len) (fun ρ a w g => by
    obtain ⟨z, hz, hzc⟩ := (htt _ _ hte).zeroC w
    have hu := und_sl (htt _ _ ht) hkd w
    have e2 := (htt _ _ hte).run_size w
    have hp := evParts_conc (ec := a.eval) (ρ := ρ) (fun x v hv => (g.eval x v hv).2) _ _ hl
    have hfill := fillA_fill _ ρ _ _ _ hx
    have hlow : LowS ρ L xs := lowS_of fun ρ' he => by
      have h2 := fillA_fill _ ρ' _ _ _ hx
      have h3 : AV.concs ρ' ((List.replicate len (te.zero.map AV.raw)).flatten) = AV.concs ρ ((List.replicate len (te.zero.map AV.raw)).flatten) := concs_low (fun x hx => by
        obtain ⟨y, hy, hx⟩ := List.mem_flatten.1 hx
        rw [List.mem_replicate] at hy
        rw [hy.2] at hx
        exact lowS_raw ρ L _ x hx) ρ' he
      have h4 : (l.map fun p => (p.1, p.2.conc ρ')) = l.map fun p => (p.1, p.2.conc ρ) := List.map_congr_left fun p hp => by
        rw [evParts_low g _ _ hl p hp ρ' he]
      rw [h3, h4, hfill] at h2
      exact (List.toArray_inj (Option.some.inj h2)).symm
    refine ⟨.cells (AV.concs ρ xs).toArray e, cells_new hlow e w, ?_⟩
    have hsm' : ¬ len * te.size > 2 ^ 24 := by
      rw [Nat.ble_eq] at hsm
      omega
    have hrow : (Array.range (len * te.size)).map (fun i => (if len * te.size = 0 then (#[] : Array Value) else te.zero.toArray)[i % (if len * te.size = 0 then (#[] : Array Value) else te.zero.toArray).size]!) = (AV.concs ρ ((List.replicate len (te.zero.map AV.raw)).flatten)).toArray := by
      by_cases h0 : len * te.size = 0
      · have h1 : (List.replicate len (te.zero.map AV.raw)).flatten = [] := by
          rcases Nat.mul_eq_zero.1 h0 with h1 | h1
          · simp [h1]
          · have : te.zero = [] := List.length_eq_zero_iff.1 (by omega)
            simp [this]
        rw [h1]
        simp [h0, AV.concs]
      · simp only [h0, if_false]
        rw [concs_map, List.map_flatten, List.map_replicate, ← concs_map, conc_raw_list]
        apply Array.ext'
        rw [Array.toList_map, Array.toList_range, ← hsz]
        exact rep_row _ _
    unfold execOp
    rw [ho]
    by_cases h0 : len * te.size = 0
    · simp only [h0, if_true] at hrow
      simp only [Instr.buildSlice, Sem.run_bind, hu, Result.andThen_ok, e2, h0, if_true, if_false, Sem.run_pure, Sem.run_ite, Array.toList_map, hp]
      rw [hrow, hfill]
      simp [newRow, AV.conc, updE_same]
    · simp only [h0, if_false] at hrow
      have hz2 : z.cells = te.zero.toArray := by rw [← hzc]
      simp only [Instr.buildSlice, Sem.run_bind, hu, Result.andThen_ok, e2, h0, hsm', if_true, if_false, Sem.run_pure, Sem.run_ite, Array.toList_map, hp, hz, hz2]
      rw [hrow, hfill]
      simp [newRow, AV.conc, updE_same]) k
/-- x = v, p.f = v -/
theorem RL.store {tt : List (Nat × TI)} (htt : TTok P tt) (t : TypeId) (x y : Operand) (l w0 i c : Nat) (v : AV) (ti : TI) (ys xs : List AV) (T : TypeId) (ho : o.op = .store t x y) (hx : evA τ x = some (.ptr l w0 i c)) (hy : evA τ y = some v) (ht : lk t tt = some ti) (hc : v.cellsA = some ys)
    (hl : hk l h = some (.cells xs T)) (hlen : ys.length = ti.size) (hfit : Nat.ble (i * w0 + c + ys.length) xs.length = true) (hone : ys.all AV.oneB = true) (hg : wantA ops o τ = some true) (hd : dOk n o.dst = true) (hk1 : chainB h D [l] = true)
    (k : RL P ops Q (actD h D [l]) E n L (putA o.dst (.raw undef) τ) ((l, .cells (spl xs (i * w0 + c) ys) T) :: h) F rest) : RL P ops Q D E n L τ h F (o :: rest) :=
  RL.acts (σ := Unit) (fun _ => True) (fun _ => .raw undef) (fun _ => L) (fun _ => (l, .cells (spl xs (i * w0 + c) ys) T) :: h) (fun _ => F) [l] hg hd hk1 (fun _ _ => Nat.le_refl L) (fun ρ a w g => by
    obtain ⟨h1, h2⟩ := g.eval x _ hx
    obtain ⟨h3, h4⟩ := g.eval y _ hy
    have hh := g.hp l _ hl
    obtain ⟨b, hr, hb⟩ := hh.2.2
    have hlow := g.lowCells hl
    have hcell : (v.conc ρ).cells = (AV.concs ρ ys).toArray := by rw [← cellsA_conc hc ρ]
    have hfit' : i * w0 + c + ys.length ≤ xs.length := by simpa [Nat.ble_eq] using hfit
    have hst := run_storeCells_at (P := P) b (i * w0 + c) T (AV.concs ρ ys) 0 (AV.concs ρ xs).toArray w hb (by simp [concs_length]; omega) (fun u hu => by
      rw [concs_map] at hu
      obtain ⟨y', hy', rfl⟩ := List.mem_map.1 hu
      exact oneB_conc (List.all_eq_true.1 hone y' hy') ρ)
    simp only [Nat.add_zero] at hst
    rw [← concs_spl] at hst
    have e2 := (htt _ _ ht).run_size w
    unfold goes execOp
    rw [ho]
    simp only [h2, h4, AV.conc, hr, Option.getD_some, Instr.storeAt, Instr.sureAddr, storeVar, Sem.run_bind, Sem.run_pure, Result.andThen_ok, hcell, e2, List.size_toArray, concs_length, hlen, ne_eq, not_true_eq_false, if_false, Sem.run_ite, hst]
    refine ⟨(), ρ, trivial, rfl, AV.Low.raw _ _ _, fun _ _ => rfl, g.set hl rfl hr (AO.Low.cells T fun z hz => ?_) ⟨b, rfl, setRow_heap _ _ _ _ _ _ hb⟩ (fun b' hb' => setRow_other _ _ _ _ hb') (by simp) ⟨rfl, rfl, rfl⟩, fun l' b' hl' hb' hn => ?_⟩
    · unfold spl at hz
      simp only [List.mem_append] at hz
      rcases hz with (hz | hz) | hz
      · exact hlow z (List.mem_of_mem_take hz)
      · exact lowS_cells h3 hc z hz
      · exact hlow z (List.mem_of_mem_drop hz)
    · by_cases e : b' = b
      · subst e
        exact absurd (g.dis l l' b' ⟨_, hl, rfl⟩ hl' hr hb') (fun e => hn (by simp [e]))
      · exact (setRow_other _ _ _ _ e).symm) (fun _ _ => k)
end
end Go.Proofs.Yteabncomclgncaa
namespace Go.Proofs.Yteabncomclgncaa
set_option linter.unusedVariables false
set_option linter.unusedSimpArgs false
set_option linter.unusedSectionVars false
open Go.RowKit
mutual
/-- labels named anew -/
def AV.ren (r : Nat → Nat) : AV → AV
  | .raw v => .raw v
  | .ptr l w i c => .ptr (r l) w i c
  | .sl l w off n cap => .sl (r l) w off n cap
  | .agg xs => .agg (AV.rens r xs)
  | .tup xs => .tup (AV.rens r xs)
  | .fn f cs => .fn f (AV.rens r cs)
def AV.rens (r : Nat → Nat) : List AV → List AV
  | [] => []
  | x :: xs => x.ren r :: AV.rens r xs
end
theorem rens_map (r : Nat → Nat) (xs : List AV) : AV.rens r xs = xs.map (AV.ren r) := by
  induction xs with
  | nil => rfl
  | cons x xs ih => rw [AV.rens, ih]; rfl
mutual
theorem ren_conc (r : Nat → Nat) (ρ : Env) : (v : AV) → (v.ren r).conc ρ = v.conc (fun l => ρ (r l))
  | .raw v => rfl
  | .ptr l w i c => rfl
  | .sl l w off n cap => rfl
  | .agg xs => by simp only [AV.ren, AV.conc, rens_conc r ρ xs]
  | .tup xs => by simp only [AV.ren, AV.conc, rens_conc r ρ xs]
  | .fn f cs => by simp only [AV.ren, AV.conc, rens_conc r ρ cs]
theorem rens_conc (r : Nat → Nat) (ρ : Env) : (xs : List AV) → AV.concs ρ (AV.rens r xs) = AV.concs (fun l => ρ (r l)) xs
  | [] => rfl
  | x :: xs => by simp only [AV.rens, AV.concs, ren_conc r ρ x, rens_conc r ρ xs]
end
mutual
/-- all its labels lie below L -/
def AV.bd (L : Nat) : AV → Bool
  | .raw _ => true
  | .ptr l _ _ _ => Nat.ble (l + 1) L
  | .sl l _ _ _ _ => Nat.ble (l + 1) L
  | .agg xs => AV.bds L xs
  | .tup xs => AV.bds L xs
  | .fn _ cs => AV.bds L cs
def AV.bds (L : Nat) : List AV → Bool
  | [] => true
  | x :: xs => x.bd L && AV.bds L xs
end
mutual
theorem bd_low {L : Nat} : (v : AV) → v.bd L = true → ∀ ρ ρ' : Env, (∀ l, l < L → ρ' l = ρ l) → v.conc ρ' = v.conc ρ
  | .raw v, _, _, _, _ => rfl
  | .ptr l w i c, h, ρ, ρ', he => by
    have : l + 1 ≤ L := by simpa [AV.bd, Nat.ble_eq] using h
    simp [AV.conc, he l (by omega)]
  | .sl l w off n cap, h, ρ, ρ', he => by
    have : l + 1 ≤ L := by simpa [AV.bd, Nat.ble_eq] using h
    simp [AV.conc, he l (by omega)]
  | .agg xs, h, ρ, ρ', he => by simp only [AV.conc, bds_low xs h ρ ρ' he]
  | .tup xs, h, ρ, ρ', he => by simp only [AV.conc, bds_low xs h ρ ρ' he]
  | .fn f cs, h, ρ, ρ', he => by simp only [AV.conc, bds_low cs h ρ ρ' he]
theorem bds_low {L : Nat} : (xs : List AV) → AV.bds L xs = true → ∀ ρ ρ' : Env, (∀ l, l < L → ρ' l = ρ l) → AV.concs ρ' xs = AV.concs ρ xs
  | [], _, _, _, _ => rfl
  | x :: xs, h, ρ, ρ', he => by
    simp only [AV.bds, Bool.and_eq_true] at h
    simp only [AV.concs, bd_low x h.1 ρ ρ' he, bds_low xs h.2 ρ ρ' he]
end
theorem bdLow {L : Nat} {v : AV} (h : v.bd L = true) (ρ : Env) : v.Low ρ L := fun ρ' he => bd_low v h ρ ρ' he
theorem bds_all {L : Nat} {xs : List AV} (h : AV.bds L xs = true) : ∀ x ∈ xs, x.bd L = true := by
  induction xs with
  | nil => intro x hx; cases hx
  | cons y ys ih =>
    simp only [AV.bds, Bool.and_eq_true] at h
    intro x hx
    rcases List.mem_cons.1 hx with rfl | hx
    · exact h.1
    · exact ih h.2 x hx
def AO.ren (r : Nat → Nat) : AO → AO
  | .cells xs ty => .cells (AV.rens r xs) ty
  | .bytes p cap ty => .bytes p cap ty
  | .tab w n cap f ty => .tab w n cap (fun i => AV.rens r (f i)) ty
  | .ro w off n f => .ro w off n (fun i => AV.rens r (f i))
  | .gone => .gone
def AO.Bd (L : Nat) : AO → Prop
  | .cells xs _ => AV.bds L xs = true
  | .bytes _ _ _ => True
  | .tab _ n _ f _ => ∀ i, i < n → AV.bds L (f i) = true
  | .ro _ _ n f => ∀ i, i < n → AV.bds L (f i) = true
  | .gone => True
theorem AO.Bd.low {L : Nat} {o : AO} (h : o.Bd L) (ρ : Env) : o.Low ρ L := by
  cases o with
  | cells xs ty => exact AO.Low.cells ty fun x hx => bdLow (bds_all h x hx) ρ
  | bytes p cap ty => exact AO.Low.bytes ρ L p cap ty
  | tab w n cap f ty => exact AO.Low.tab ty fun i hi x hx => bdLow (bds_all (h i hi) x hx) ρ
  | ro w off n f => exact AO.Low.ro fun i hi x hx => bdLow (bds_all (h i hi) x hx) ρ
  | gone => exact fun _ _ _ _ => Iff.rfl
theorem ren_holds (r : Nat → Nat) (ρ : Env) (o : AO) (x : Option Nat) (w : World) : (o.ren r).holds ρ x w ↔ o.holds (fun l => ρ (r l)) x w := by
  cases o with
  | cells xs ty => simp only [AO.ren, AO.holds, rens_conc]
  | bytes p cap ty => exact Iff.rfl
  | tab wd n cap f ty =>
    have e : ∀ i c (x : AV), (AV.rens r (f i))[c]? = some x ↔ ∃ y : AV, (f i)[c]? = some y ∧ x = y.ren r := fun i c x => by
      rw [rens_map, List.getElem?_map]
      cases hx : (f i)[c]? with
      | none =>
        simp only [Option.map_none]
        refine ⟨fun h => (by cases h), ?_⟩
        rintro ⟨z, hz, _⟩
        rw [hx] at hz; cases hz
      | some y =>
        simp only [Option.map_some, Option.some.injEq]
        exact ⟨fun h => ⟨y, hx, h.symm⟩, fun ⟨z, hz, he⟩ => by rw [hx] at hz; cases hz; exact he.symm⟩
    simp only [AO.ren, AO.holds, e, rens_map, List.length_map]
    constructor
    · rintro ⟨h1, h2, h3⟩
      refine ⟨h1, h2, h3.imp id ?_⟩
      rintro ⟨b, cur, hr, hb, hs, hc⟩
      exact ⟨b, cur, hr, hb, hs, fun i c y hi hy => by rw [← ren_conc]; exact hc i c _ hi (by rw [← rens_map]; exact (e i c _).2 ⟨y, hy, rfl⟩)⟩
    · rintro ⟨h1, h2, h3⟩
      refine ⟨h1, h2, h3.imp id ?_⟩
      rintro ⟨b, cur, hr, hb, hs, hc⟩
      refine ⟨b, cur, hr, hb, hs, fun i c x hi hx => ?_⟩
      rw [← rens_map] at hx
      obtain ⟨y, hy, rfl⟩ := (e i c x).1 hx
      rw [ren_conc]; exact hc i c y hi hy
  | ro wd off n f =>
    have e : ∀ i c (x : AV), (AV.rens r (f i))[c]? = some x ↔ ∃ y : AV, (f i)[c]? = some y ∧ x = y.ren r := fun i c x => by
      rw [rens_map, List.getElem?_map]
      cases hx : (f i)[c]? with
      | none =>
        simp only [Option.map_none]
        refine ⟨fun h => (by cases h), ?_⟩
        rintro ⟨z, hz, _⟩
        rw [hx] at hz; cases hz
      | some y =>
        simp only [Option.map_some, Option.some.injEq]
        exact ⟨fun h => ⟨y, hx, h.symm⟩, fun ⟨z, hz, he⟩ => by rw [hx] at hz; cases hz; exact he.symm⟩
    simp only [AO.ren, AO.holds, e]
    constructor
    · intro h3
      refine h3.imp id ?_
      rintro ⟨b, cur, ty, fr, hr, hb, hc⟩
      exact ⟨b, cur, ty, fr, hr, hb, fun i c y hi hy => by rw [← ren_conc]; exact hc i c _ hi ⟨y, hy, rfl⟩⟩
    · intro h3
      refine h3.imp id ?_
      rintro ⟨b, cur, ty, fr, hr, hb, hc⟩
      refine ⟨b, cur, ty, fr, hr, hb, fun i c x hi hx => ?_⟩
      obtain ⟨y, hy, rfl⟩ := hx
      rw [ren_conc]; exact hc i c y hi hy
  | gone => exact Iff.rfl
/-- a slot of the poorer telling -/
def HasT (r : Nat → Nat) (L : Nat) (τ : List (Nat × AV)) : List (Nat × AV) → Prop
  | [] => True
  | (t, v) :: rest => ((∃ v', lk t τ = some v' ∧ v' = v.ren r) ∧ v.bd L = true) ∧ HasT r L τ rest
/-- what lies at a label in the poorer telling -/
def HasH (r : Nat → Nat) (L : Nat) (h : List (Nat × AO)) : List (Nat × AO) → Prop
  | [] => True
  | (l, o) :: rest => ((∃ o', hk (r l) h = some o' ∧ (o.isRo = false → o'.isRo = false) ∧ ∀ ρ x w, o'.holds ρ x w → (o.ren r).holds ρ x w) ∧ Nat.ble (l + 1) L = true ∧ o.Bd L) ∧ HasH r L h rest
def nodupB : List Nat → Bool
  | [] => true
  | x :: xs => !xs.elem x && nodupB xs
theorem nodupB_inj {r : Nat → Nat} {ls : List Nat} (h : nodupB (ls.map r) = true) : ∀ l l', l ∈ ls → l' ∈ ls → r l = r l' → l = l' := by
  induction ls with
  | nil => intro l l' hl; cases hl
  | cons x xs ih =>
    simp only [List.map_cons, nodupB, Bool.and_eq_true, Bool.not_eq_true'] at h
    have hx : ∀ y ∈ xs, r y ≠ r x := fun y hy e => by
      have := h.1
      rw [List.elem_iff.2 (e ▸ List.mem_map.2 ⟨y, hy, rfl⟩)] at this
      cases this
    intro l l' hl hl' e
    rcases List.mem_cons.1 hl with h1 | h1
    · rcases List.mem_cons.1 hl' with h2 | h2
      · rw [h1, h2]
      · subst h1; exact absurd e.symm (hx l' h2)
    · rcases List.mem_cons.1 hl' with h2 | h2
      · subst h2; exact absurd e (hx l h1)
      · exact ih h.2 l l' h1 h2 e
theorem lk_hasT {r : Nat → Nat} {L : Nat} {τ : List (Nat × AV)} : ∀ {τ2 : List (Nat × AV)}, HasT r L τ τ2 → ∀ t v, lk t τ2 = some v → lk t τ = some (v.ren r) ∧ v.bd L = true
  | [], _, t, v, h => by simp [lk] at h
  | (s, u) :: rest, hh, t, v, h => by
    rw [lk_cons] at h
    split at h
    · rename_i e
      subst e
      cases h
      obtain ⟨⟨⟨v', h1, h2⟩, h3⟩, _⟩ := hh
      exact ⟨by rw [h1, h2], h3⟩
    · exact lk_hasT hh.2 t v h
theorem hk_hasH {r : Nat → Nat} {L : Nat} {h : List (Nat × AO)} : ∀ {h2 : List (Nat × AO)}, HasH r L h h2 → ∀ l o, hk l h2 = some o → (∃ o', hk (r l) h = some o' ∧ (o.isRo = false → o'.isRo = false) ∧ ∀ ρ x w, o'.holds ρ x w → (o.ren r).holds ρ x w) ∧ l < L ∧ o.Bd L ∧ l ∈ h2.map (·.1)
  | [], _, l, o, hl => by simp [hk, lk] at hl
  | (s, u) :: rest, hh, l, o, hl => by
    rw [hk_cons] at hl
    split at hl
    · rename_i e
      subst e
      have e2 : o = u := by cases u <;> simp at hl <;> exact hl.symm
      subst e2
      obtain ⟨⟨h1, h2, h3⟩, _⟩ := hh
      exact ⟨h1, by have : s + 1 ≤ L := by simpa [Nat.ble_eq] using h2
                    omega, h3, by simp⟩
    · obtain ⟨h1, h2, h3, h4⟩ := hk_hasH hh.2 l o hl
      exact ⟨h1, h2, h3, by simp only [List.map_cons, List.mem_cons]; exact .inr h4⟩
section
variable {E : Base} {ρ : Env} {n L : Nat} {τ : List (Nat × AV)} {h : List (Nat × AO)} {F : World → Prop} {a : Act} {w : World}
/-- less told, labels named anew -/
theorem Gam.imp (g : Gam E ρ n L τ h F a w) (r : Nat → Nat) (L2 : Nat) (τ2 : List (Nat × AV)) (h2 : List (Nat × AO)) (F2 : World → Prop) (hr : ∀ l, l < E.N → r l = l) (hrL : ∀ l, l < L2 → r l < L) (hN : E.N ≤ L2) (ht : HasT r L2 τ τ2) (hh : HasH r L2 h h2) (hnd : nodupB ((h2.map (·.1)).map r) = true)
    (hF2 : ∀ w, F w → F2 w) : Gam E (fun l => ρ (r l)) n L2 τ2 h2 F2 a w := by
  have live : ∀ l, hk l h2 ≠ none → hk (r l) h ≠ none ∧ l ∈ h2.map (·.1) := fun l hl => by
    cases ho : hk l h2 with
    | none => exact absurd ho hl
    | some o =>
      obtain ⟨⟨o', h1, _⟩, _, _, h4⟩ := hk_hasH hh l o ho
      exact ⟨by rw [h1]; simp, h4⟩
  have wr : ∀ l, wrA l h2 → wrA (r l) h := fun l hl => by
    obtain ⟨o, ho, hro⟩ := hl
    obtain ⟨⟨o', h1, h3, _⟩, _⟩ := hk_hasH hh l o ho
    exact ⟨o', h1, h3 hro⟩
  refine ⟨g.df, g.sz, fun t v hv => ?_, fun l o ho => ?_, fun l l' b hl hl' hb hb' => ?_, fun w' hw => ?_, fun l hl => ?_, hN, fun l b hl hb => g.al (r l) b (hrL l hl) hb⟩
  · obtain ⟨h1, h2'⟩ := lk_hasT ht t v hv
    have := g.tm t _ h1
    exact ⟨bdLow h2' _, by rw [this.2, ren_conc]⟩
  · obtain ⟨⟨o', h1, _, h2'⟩, h3, h4, _⟩ := hk_hasH hh l o ho
    have := g.hp (r l) o' h1
    exact ⟨h3, h4.low _, (ren_holds r ρ o _ w).1 (h2' _ _ _ this.2.2)⟩
  · have h1 := live l hl.live
    have h2' := live l' hl'
    exact nodupB_inj hnd l l' h1.2 h2'.2 (g.dis _ _ b (wr l hl) h2'.1 hb hb')
  · exact hF2 _ (g.fr w' (hw.mono fun b _ hd l hl hb => hd (r l) (wr l hl) hb))
  · simp only [hr l hl]; exact g.ex l hl
end
/-- blocks that a call may write -/
def Wr0 (h0 : List AO) (ρ : Env) (b : Nat) : Prop := ∃ i o, h0[i]? = some o ∧ o.isRo = false ∧ ρ i = some b
/-- what a call comes to: h0 is what came in, at the labels 0, 1 ..; G: what is known of s -/
def Outc {σ : Type} (h0 : List AO) (m : Nat) (ρ : Env) (w : World) (G : σ → Prop) (val : σ → AV) (post : σ → List (Nat × AO)) (e : Ending) (w' : World) : Prop :=
  ∃ s ρ', G s ∧ (∀ i, i < h0.length → ρ' i = ρ i) ∧ e = .returned ((val s).conc ρ') ∧ (val s).Low ρ' m ∧ Ag (fun b => ¬ Wr0 h0 ρ b) w w' ∧
    (∀ l o, hk l (post s) = some o → l < m ∧ o.Low ρ' m ∧ o.holds ρ' (ρ' l) w') ∧ (∀ l l' b, wrA l (post s) → hk l' (post s) ≠ none → ρ' l = some b → ρ' l' = some b → l = l') ∧
    (∀ l b, l < m → ρ' l = some b → b < w'.heap.size) ∧ (∀ l b, h0.length ≤ l → hk l (post s) ≠ none → ρ' l = some b → w.heap.size ≤ b ∨ Wr0 h0 ρ b) ∧ (∀ i o, i < h0.length → hk i (post s) = some o → o.isRo = false → ∃ o0, h0[i]? = some o0 ∧ o0.isRo = false)
/-- the results -/
def resA (tt : List (Nat × TI)) (h : List (Nat × AO)) (τ : List (Nat × AV)) : List ResultVar → Option (List AV)
  | [] => some []
  | .tmp t :: r => match lk t τ, resA tt h τ r with
    | some v, some l => some (v :: l)
    | _, _ => none
  | .cell a t :: r => match act tt (fun l => hk l h) (evA τ) (.load t (.tmp a)), resA tt h τ r with
    | some v, some l => some (v :: l)
    | _, _ => none
def resV : List AV → AV
  | [v] => v
  | l => .tup l
section
variable {P : Program} {Q : Exit → Act → World → Prop} {E : Base} {n L : Nat} {τ : List (Nat × AV)} {h : List (Nat × AO)} {F : World → Prop}
def resStep (tmps : Array Value) : ResultVar → Sem Value
  | .tmp t => pure (tmps.getD t undef)
  | .cell a t => do loadVar t (← asAddr (tmps.getD a undef))
theorem results_eq (fn : Func) (tmps : Array Value) : results fn tmps = (do
    let vs ← fn.results.mapM (resStep tmps)
    pure (if h : vs.size = 1 then vs[0] else .tuple vs)) := by
  unfold results
  have : (fun x : ResultVar => match x with | .tmp t => (pure (tmps.getD t undef) : Sem Value) | .cell a t => do loadVar t (← asAddr (tmps.getD a undef))) = resStep tmps := by
    funext x; cases x <;> rfl
  rw [← this]
  rfl
theorem run_resA {tt : List (Nat × TI)} (htt : TTok P tt) {ρ : Env} {a : Act} {w : World} (g : Gam E ρ n L τ h F a w) : ∀ (rs : List ResultVar) (vs : List AV), resA tt h τ rs = some vs →
    (rs.mapM (resStep a.tmps)).run P w = .ok (AV.concs ρ vs) w := by
  intro rs
  induction rs with
  | nil => intro vs h; cases h; rfl
  | cons x r ih =>
    intro vs h0
    cases x with
    | tmp t =>
      simp only [resA] at h0
      split at h0
      · rename_i v l h1 h2
        cases h0
        have := (g.tm t v h1).2
        rw [List.mapM_cons]
        simp [ih l h2, this, AV.concs, resStep]
      · cases h0
    | cell c t =>
      simp only [resA] at h0
      split at h0
      · rename_i v l h1 h2
        cases h0
        have h3 := act_load htt (hl := fun l => hk l _) g.holds (evB g) t (.tmp c) v h1
        rw [List.mapM_cons]
        obtain ⟨ad, h4⟩ : ∃ ad, a.tmps.getD c undef = .pointer (some ad) := by
          simp only [act] at h1
          split at h1
          · rename_i l' wd i cc ti h5 h6
            exact ⟨_, (g.eval (.tmp c) _ h5).2⟩
          · cases h1
        simp only [Instr.loadAt, Sem.run_bind, Act.eval, h4, Instr.sureAddr, Sem.run_pure, Result.andThen_ok] at h3
        simp only [resStep, h4, asAddr, Sem.run_bind, Sem.run_pure, Result.andThen_ok, h3, ih l h2, AV.concs]
      · cases h0
theorem run_results {tt : List (Nat × TI)} (htt : TTok P tt) {ρ : Env} {a : Act} {w : World} (g : Gam E ρ n L τ h F a w) {fn : Func} {vs : List AV} (hr : resA tt h τ fn.results.toList = some vs) : (results fn a.tmps).run P w = .ok ((resV vs).conc ρ) w := by
  have h1 := run_resA htt g _ _ hr
  have h2 : (fn.results.mapM (resStep a.tmps)).run P w = .ok (AV.concs ρ vs).toArray w := by
    rw [Array.mapM_eq_mapM_toList, ← bind_pure_comp]
    simp only [Sem.run_bind, h1, Result.andThen_ok, Sem.run_pure]
  rw [results_eq]
  simp only [Sem.run_bind, h2, Result.andThen_ok, Sem.run_pure]
  congr 1
  match vs with
  | [] => rfl
  | [v] => rfl
  | v :: u :: vs => rfl
/-- the end of a call -/
theorem EX.ret {tt : List (Nat × TI)} (htt : TTok P tt) {fn : Func} {R : Ending → World → Prop} {vs : List AV} (hr : resA tt h τ fn.results.toList = some vs) (k : ∀ ρ a w, Gam E ρ n L τ h F a w → R (.returned ((resV vs).conc ρ)) w) (hd : E.df = [] := by rfl) : EX (bodyPost P fn R) .ret E n L τ h F :=
  fun ρ a w g => ⟨g.df.trans hd, _, run_results htt g hr, k ρ a w g⟩
theorem EX.end_ {tt : List (Nat × TI)} (htt : TTok P tt) {fn : Func} {R : Ending → World → Prop} {vs : List AV} (hr : resA tt h τ fn.results.toList = some vs) (k : ∀ ρ a w, Gam E ρ n L τ h F a w → R (.returned ((resV vs).conc ρ)) w) (hd : E.df = [] := by rfl) : EX (bodyPost P fn R) .normal E n L τ h F :=
  fun ρ a w g => ⟨g.df.trans hd, _, run_results htt g hr, k ρ a w g⟩
/-- a state's telling is what a call comes to -/
theorem Gam.outc {σ : Type} {h0 : List AO} {ρ0 : Env} {w0 : World} {ρ : Env} {a : Act} {w : World} (g : Gam ⟨h0.length, ρ0, []⟩ ρ n L τ h F a w) (hF : ∀ w', F w' → Ag (fun b => ¬ Wr0 h0 ρ0 b) w0 w') {G : σ → Prop} {val : σ → AV} {post : σ → List (Nat × AO)} {m : Nat} {v : AV}
    (s : σ) (r : Nat → Nat) (hG : G s) (hv : v = (val s).ren r) (hb : (val s).bd m = true) (hm : h0.length ≤ m) (hr : ∀ l, l < h0.length → r l = l) (hrL : ∀ l, l < m → r l < L) (hh : HasH r m h (post s)) (hnd : nodupB (((post s).map (·.1)).map r) = true)
    (hnew : ∀ l b, h0.length ≤ l → hk l (post s) ≠ none → ρ (r l) = some b → w0.heap.size ≤ b ∨ Wr0 h0 ρ0 b) (hold : ∀ i o, i < h0.length → hk i (post s) = some o → o.isRo = false → ∃ o0, h0[i]? = some o0 ∧ o0.isRo = false) : Outc h0 m ρ0 w0 G val post (.returned (v.conc ρ)) w := by
  have g2 := g.imp r m [] (post s) F hr hrL hm trivial hh hnd (fun _ h => h)
  exact ⟨s, fun l => ρ (r l), hG, fun i hi => g2.ex i hi, by rw [hv, ren_conc], bdLow hb _, hF w (g.fr w (Ag.refl _ _)), g2.hp, g2.dis, fun l b h1 h3 => g.al (r l) b (hrL l h1) h3, hnew, hold⟩
/-- a number of values as slots -/
def slots (k : Nat) : List AV → List (Nat × AV)
  | [] => []
  | v :: l => (k, v) :: slots (k + 1) l
def labels (k : Nat) : List AO → List (Nat × AO)
  | [] => []
  | v :: l => (k, v) :: labels (k + 1) l
theorem lk_slots (vs : List AV) : ∀ k t v, lk t (slots k vs) = some v → k ≤ t ∧ vs[t - k]? = some v := by
  induction vs with
  | nil => intro k t v h; simp [slots, lk] at h
  | cons u us ih =>
    intro k t v h
    simp only [slots, lk_cons] at h
    split at h
    · rename_i e; subst e; cases h; simp
    · have := ih (k + 1) t v h
      refine ⟨by omega, ?_⟩
      rw [show t - k = (t - (k + 1)) + 1 by omega]
      simpa using this.2
theorem hk_labels (os : List AO) : ∀ k l o, hk l (labels k os) = some o → k ≤ l ∧ os[l - k]? = some o := by
  induction os with
  | nil => intro k t v h; simp [labels, hk, lk] at h
  | cons u us ih =>
    intro k t v h
    simp only [labels, hk_cons] at h
    split at h
    · rename_i e
      subst e
      have e2 : v = u := by cases u <;> simp at h <;> exact h.symm
      subst e2
      simp
    · have := ih (k + 1) t v h
      refine ⟨by omega, ?_⟩
      rw [show t - k = (t - (k + 1)) + 1 by omega]
      simpa using this.2
/-- the beginning of a call -/
theorem CL.enter {f : FuncId} {fn : Func} {c : Code} (hf : P.funcs[f]? = some fn) (hb : fn.body = some c) (ρ : Env) (avs : List AV) (h0 : List AO) (w : World) (R : Ending → World → Prop) (n : Nat) (hn : fn.ntmps = n) (hlen : Nat.ble avs.length n = true) (hbd : AV.bds h0.length avs = true)
    (hbo : ∀ o ∈ h0, o.Bd h0.length) (hh : ∀ (i : Nat) (o : AO), h0[i]? = some o → o.holds ρ (ρ i) w) (hdis : ∀ i j o b, h0[i]? = some o → o.isRo = false → j < h0.length → ρ i = some b → ρ j = some b → i = j) (hal : ∀ i b, i < h0.length → ρ i = some b → b < w.heap.size)
    (k : CL P c (bodyPost P fn R) ⟨h0.length, ρ, []⟩ n h0.length (slots 0 avs) (labels 0 h0) (fun w' => Ag (fun b => ¬ Wr0 h0 ρ b) w w')) : Calls P f (AV.concs ρ avs).toArray w R := by
  have hlen' : avs.length ≤ n := by simpa [Nat.ble_eq] using hlen
  refine calls_of_wp hf hb (k ρ _ w ⟨rfl, by simp [hn, concs_length]; omega, fun t v hv => ?_, fun l o ho => ?_, fun l l' b hl hl' hb1 hb2 => ?_, fun w' hw => ?_, fun _ _ => rfl, Nat.le_refl _, hal⟩)
  · have := (lk_slots avs 0 t v hv).2
    rw [Nat.sub_zero] at this
    refine ⟨bdLow (bds_all hbd v (List.mem_of_getElem? this)) ρ, ?_⟩
    have hlt : t < avs.length := (List.getElem?_eq_some_iff.1 this).1
    simp only [Array.getElem?_append, List.size_toArray, concs_length, hlt, if_true]
    simpa using concs_get this
  · have := (hk_labels h0 0 l o ho).2
    rw [Nat.sub_zero] at this
    exact ⟨(List.getElem?_eq_some_iff.1 this).1, (hbo o (List.mem_of_getElem? this)).low ρ, hh l o this⟩
  · have e : ∀ l, hk l (labels 0 h0) ≠ none → l < h0.length := fun l hl => by
      cases ho : hk l (labels 0 h0) with
      | none => exact absurd ho hl
      | some o =>
        have := (hk_labels h0 0 l o ho).2
        rw [Nat.sub_zero] at this
        exact (List.getElem?_eq_some_iff.1 this).1
    obtain ⟨o, ho, hro⟩ := hl
    have := (hk_labels h0 0 l o ho).2
    rw [Nat.sub_zero] at this
    exact hdis l l' o b this hro (e l' hl') hb1 hb2
  · refine hw.mono fun b _ hd l hl hb => hd ?_
    obtain ⟨o, ho, hro⟩ := hl
    have := (hk_labels h0 0 l o ho).2
    rw [Nat.sub_zero] at this
    exact ⟨l, o, this, hro, hb⟩
end
end Go.Proofs.Yteabncomclgncaa
namespace Go.Proofs.Yteabncomclgncaa
set_option linter.unusedVariables false
set_option linter.unusedSimpArgs false
set_option linter.unusedSectionVars false
open Go.RowKit
structure C (P : Program) (c : Code) (Q : Exit → Act → World → Prop) (E : Base) (n L : Nat) (τ : List (Nat × AV)) (h : List (Nat × AO)) (F : World → Prop) : Prop where
  mk :: (out : CL P c Q E n L τ h F)
structure X (Q : Exit → Act → World → Prop) (e : Exit) (E : Base) (n L : Nat) (τ : List (Nat × AV)) (h : List (Nat × AO)) (F : World → Prop) : Prop where
  mk :: (out : EX Q e E n L τ h F)
structure R (P : Program) (ops : Array Oper) (Q : Exit → Act → World → Prop) (D : Option DD) (E : Base) (n L : Nat) (τ : List (Nat × AV)) (h : List (Nat × AO)) (F : World → Prop) (rest : List Oper) : Prop where
  mk :: (out : RL P ops Q D E n L τ h F rest)
section
variable {P : Program} {Q : Exit → Act → World → Prop} {E : Base} {n L : Nat} {τ : List (Nat × AV)} {h : List (Nat × AO)} {F : World → Prop}
theorem C.region {id : Nat} {l : List Oper} (k : R P l.toArray Q none E n L τ h F l) : C P (.region id l.toArray false) Q E n L τ h F := ⟨CL.region k.out⟩
theorem C.draw (pr : List (List Nat)) (ch : List Nat) {id : Nat} {l : List Oper} (hm : P.follows .mixedOrders = true) (hB : edgesB l pr ch = true) (k : R P l.toArray Q (some ⟨0, pr, ch, [], []⟩) E n L τ h F l) :
    C P (.region id l.toArray true) Q E n L τ h F := ⟨CL.draw pr ch hm hB k.out⟩
theorem C.seq {x y : Code} (k : C P x (Exit.then (y.wp P Q) Q) E n L τ h F) : C P (.seq x y) Q E n L τ h F := ⟨CL.seq k.out⟩
theorem X.then {y : Code} (k : C P y Q E n L τ h F) : X (Exit.then (y.wp P Q) Q) .normal E n L τ h F := ⟨EX.then k.out⟩
theorem X.pass_ret {next : Act → World → Prop} (k : X Q .ret E n L τ h F) : X (Exit.then next Q) .ret E n L τ h F := ⟨k.out⟩
theorem X.pass_exit {next : Act → World → Prop} {id : Nat} (k : X Q (.exit id) E n L τ h F) : X (Exit.then next Q) (.exit id) E n L τ h F := ⟨k.out⟩
theorem X.block_normal {id : Nat} (k : X Q .normal E n L τ h F) : X (Exit.inBlock id Q) .normal E n L τ h F := ⟨k.out⟩
theorem X.block_ret {id : Nat} (k : X Q .ret E n L τ h F) : X (Exit.inBlock id Q) .ret E n L τ h F := ⟨k.out⟩
theorem X.block_exit {id : Nat} (k : X Q .normal E n L τ h F) : X (Exit.inBlock id Q) (.exit id) E n L τ h F := ⟨EX.block_exit k.out⟩
theorem X.block_other {id id' : Nat} (hne : Nat.beq id' id = false) (k : X Q (.exit id') E n L τ h F) : X (Exit.inBlock id Q) (.exit id') E n L τ h F := ⟨EX.block_other hne k.out⟩
theorem R.done {ops : Array Oper} {D : Option DD} (k : X Q .normal E n L τ h F) : R P ops Q D E n L τ h F [] := ⟨RL.done k.out⟩
theorem C.skip (k : X Q .normal E n L τ h F) : C P .skip Q E n L τ h F := ⟨CL.skip k.out⟩
theorem C.ret (k : X Q .ret E n L τ h F) : C P .ret Q E n L τ h F := ⟨CL.ret k.out⟩
theorem C.exit {id : Nat} (k : X Q (.exit id) E n L τ h F) : C P (.exit id) Q E n L τ h F := ⟨CL.exit k.out⟩
theorem C.block {id : Nat} {c : Code} (k : C P c (Exit.inBlock id Q) E n L τ h F) : C P (.block id c) Q E n L τ h F := ⟨CL.block k.out⟩
theorem C.cond {c : Operand} {x y : Code} {b : Bool} (hc : evA τ c = some (.raw (.bool b))) (kt : b = true → C P x Q E n L τ h F) (kf : b = false → C P y Q E n L τ h F) : C P (.cond c x y) Q E n L τ h F := ⟨CL.cond hc (fun e => (kt e).out) (fun e => (kf e).out)⟩
theorem C.tru {c : Operand} {x y : Code} (hc : evA τ c = some (.raw (.bool true))) (kt : C P x Q E n L τ h F) : C P (.cond c x y) Q E n L τ h F := ⟨CL.cond_true hc kt.out⟩
theorem C.fls {c : Operand} {x y : Code} (hc : evA τ c = some (.raw (.bool false))) (kf : C P y Q E n L τ h F) : C P (.cond c x y) Q E n L τ h F := ⟨CL.cond_false hc kf.out⟩
/-- a test's outcome, told by a proposition -/
theorem C.dec {c : Operand} {x y : Code} {p : Prop} [Decidable p] (hc : evA τ c = some (.raw (.bool (decide p)))) (kt : p → C P x Q E n L τ h F) (kf : ¬ p → C P y Q E n L τ h F) : C P (.cond c x y) Q E n L τ h F :=
  ⟨CL.cond_dec hc (fun e => (kt e).out) (fun e => (kf e).out)⟩
theorem C.no {c : Operand} {x y : Code} {b : Bool} (hc : evA τ c = some (.raw (.bool b))) (hb : b = false) (kf : C P y Q E n L τ h F) : C P (.cond c x y) Q E n L τ h F := C.fls (by rw [hc, hb]) kf
theorem X.ret {tt : List (Nat × TI)} (htt : TTok P tt) {fn : Func} {R : Ending → World → Prop} {vs : List AV} (hr : resA tt h τ fn.results.toList = some vs) (k : ∀ ρ a w, Gam E ρ n L τ h F a w → R (.returned ((resV vs).conc ρ)) w) (hd : E.df = [] := by rfl) : X (bodyPost P fn R) .ret E n L τ h F := ⟨EX.ret htt hr k hd⟩
theorem X.end_ {tt : List (Nat × TI)} (htt : TTok P tt) {fn : Func} {R : Ending → World → Prop} {vs : List AV} (hr : resA tt h τ fn.results.toList = some vs) (k : ∀ ρ a w, Gam E ρ n L τ h F a w → R (.returned ((resV vs).conc ρ)) w) (hd : E.df = [] := by rfl) : X (bodyPost P fn R) .normal E n L τ h F := ⟨EX.end_ htt hr k hd⟩
end
section
variable {P : Program} {ops : Array Oper} {Q : Exit → Act → World → Prop} {D : Option DD} {E : Base} {n L : Nat} {τ : List (Nat × AV)} {h : List (Nat × AO)} {F : World → Prop} {rest : List Oper}
  {d : Nat} {op : Op} {ty : TypeId} {ps : String} {af : Array Edge} {gd : Option (Nat × Bool)} {tt : List (Nat × TI)}
/-- moves, fields, loads, sums .. -/
theorem R.s (htt : TTok P tt) {v : AV} (ha : act tt (fun l => hk l h) (evA τ) op = some v) (hg : wantA ops ⟨some d, op, ty, ps, af, gd⟩ τ = some true)
    (hb : (Nat.ble (d + 1) n && lookB D (rdL τ op) && (rdL τ op).all (fun l => Nat.ble (l + 1) L)) = true)
    (k : R P ops Q (lookD D (rdL τ op)) E n L ((d, v) :: τ) h F rest) : R P ops Q D E n L τ h F (⟨some d, op, ty, ps, af, gd⟩ :: rest) := by
  simp only [Bool.and_eq_true] at hb
  exact ⟨RL.step htt v ha hg hb.1.1 hb.1.2 k.out hb.2⟩
/-- a number that is told in another way -/
theorem R.w (htt : TTok P tt) {k0 : IntKind} {x : Int} (ha : act tt (fun l => hk l h) (evA τ) op = some (.raw (.int k0 (k0.wrap x)))) (hx : k0.wrap x = x) (hg : wantA ops ⟨some d, op, ty, ps, af, gd⟩ τ = some true)
    (hb : (Nat.ble (d + 1) n && lookB D (rdL τ op) && (rdL τ op).all (fun l => Nat.ble (l + 1) L)) = true)
    (k : R P ops Q (lookD D (rdL τ op)) E n L ((d, .raw (.int k0 x)) :: τ) h F rest) : R P ops Q D E n L τ h F (⟨some d, op, ty, ps, af, gd⟩ :: rest) :=
  R.s htt (by rw [ha, hx]) hg hb k
theorem R.v (htt : TTok P tt) {v : Value} (u : Value) (ha : act tt (fun l => hk l h) (evA τ) op = some (.raw v)) (hx : v = u) (hg : wantA ops ⟨some d, op, ty, ps, af, gd⟩ τ = some true)
    (hb : (Nat.ble (d + 1) n && lookB D (rdL τ op) && (rdL τ op).all (fun l => Nat.ble (l + 1) L)) = true)
    (k : R P ops Q (lookD D (rdL τ op)) E n L ((d, .raw u) :: τ) h F rest) : R P ops Q D E n L τ h F (⟨some d, op, ty, ps, af, gd⟩ :: rest) :=
  R.s htt (by rw [ha, hx]) hg hb k
theorem R.k {op : Op} (hg : wantA ops ⟨some d, op, ty, ps, af, gd⟩ τ = some false) (hd : Nat.ble (d + 1) n = true) (k : R P ops Q (skipD h D) E n L ((d, .raw undef) :: τ) h F rest) : R P ops Q D E n L τ h F (⟨some d, op, ty, ps, af, gd⟩ :: rest) :=
  ⟨RL.skip hg hd k.out⟩
theorem R.k0 {op : Op} (hg : wantA ops ⟨none, op, ty, ps, af, gd⟩ τ = some false) (k : R P ops Q (skipD h D) E n L τ h F rest) : R P ops Q D E n L τ h F (⟨none, op, ty, ps, af, gd⟩ :: rest) :=
  ⟨RL.skip hg rfl k.out⟩
theorem R.a (htt : TTok P tt) {t : TypeId} {ti : TI} (ht : lk t tt = some ti) (hg : wantA ops ⟨some d, .alloc t, ty, ps, af, gd⟩ τ = some true) (hb : (Nat.ble (d + 1) n && chainB h D []) = true)
    (k : R P ops Q (actD h D []) E n (L + 1) ((d, .ptr L 0 0 0) :: τ) ((L, .cells (ti.zero.map .raw) t) :: h) F rest) : R P ops Q D E n L τ h F (⟨some d, .alloc t, ty, ps, af, gd⟩ :: rest) := by
  simp only [Bool.and_eq_true] at hb
  exact ⟨RL.alloc htt t ti rfl ht hg hb.1 hb.2 k.out⟩
theorem R.b {t : TypeId} {x : Operand} {v : AV} {xs : List AV} (hx : evA τ x = some v) (hc : v.cellsA = some xs) (hg : wantA ops ⟨some d, .box t x, ty, ps, af, gd⟩ τ = some true) (hb : (Nat.ble (d + 1) n && chainB h D []) = true)
    (k : R P ops Q (actD h D []) E n (L + 1) ((d, .ptr L 0 0 0) :: τ) ((L, .cells xs t) :: h) F rest) : R P ops Q D E n L τ h F (⟨some d, .box t x, ty, ps, af, gd⟩ :: rest) := by
  simp only [Bool.and_eq_true] at hb
  exact ⟨RL.box t x v xs rfl hx hc hg hb.1 hb.2 k.out⟩
/-- a cell alone turned, others laid anew: put together at once -/
def spl1 (xs : List AV) (k : Nat) (ys : List AV) : List AV := match xs, k, ys with
  | xs, _, [] => xs
  | [], _, _ => []
  | _ :: xs, 0, y :: ys => y :: spl1 xs 0 ys
  | x :: xs, k + 1, ys => x :: spl1 xs k ys
theorem spl1_eq : ∀ (xs : List AV) (k : Nat) (ys : List AV), k + ys.length ≤ xs.length → spl1 xs k ys = spl xs k ys
  | [], k, [], _ => by simp [spl1, spl]
  | x :: xs, 0, [], _ => by simp [spl1, spl]
  | x :: xs, k + 1, [], _ => by simp [spl1, spl]
  | [], k, y :: ys, h => by simp at h
  | x :: xs, 0, y :: ys, h => by
    have := spl1_eq xs 0 ys (by simp at h; omega)
    simp only [spl1, this, spl]
    simp
  | x :: xs, k + 1, y :: ys, h => by
    have := spl1_eq xs k (y :: ys) (by simp at h ⊢; omega)
    simp only [spl1, this, spl]
    rw [show k + 1 + (y :: ys).length = k + (y :: ys).length + 1 by omega, List.drop_succ_cons]
    simp
theorem R.st (htt : TTok P tt) {t : TypeId} {x y : Operand} {l w0 i c : Nat} {v : AV} {ti : TI} {ys xs zs : List AV} {T : TypeId} (hx : evA τ x = some (.ptr l w0 i c)) (hy : evA τ y = some v) (ht : lk t tt = some ti) (hc : v.cellsA = some ys)
    (hl : hk l h = some (.cells xs T)) (hz : spl1 xs (i * w0 + c) ys = zs) (hg : wantA ops ⟨none, .store t x y, ty, ps, af, gd⟩ τ = some true) (hb : (Nat.beq ys.length ti.size && Nat.ble (i * w0 + c + ys.length) xs.length && ys.all AV.oneB && chainB h D [l]) = true)
    (k : R P ops Q (actD h D [l]) E n L τ ((l, .cells zs T) :: h) F rest) : R P ops Q D E n L τ h F (⟨none, .store t x y, ty, ps, af, gd⟩ :: rest) := by
  simp only [Bool.and_eq_true] at hb
  obtain ⟨⟨⟨h1, h2⟩, h3⟩, h4⟩ := hb
  have hfit : i * w0 + c + ys.length ≤ xs.length := by simpa [Nat.ble_eq] using h2
  rw [spl1_eq _ _ _ hfit] at hz
  subst hz
  exact ⟨RL.store htt t x y l w0 i c v ti ys xs T rfl hx hy ht hc hl (Nat.eq_of_beq_eq_true h1) h2 h3 hg rfl h4 k.out⟩
end
end Go.Proofs.Yteabncomclgncaa
namespace Go.Proofs.Yteabncomclgncaa
set_option linter.unusedVariables false
set_option linter.unusedSimpArgs false
set_option linter.unusedSectionVars false
open Go.RowKit
/-- a callee's labels in the caller's: those that came in, then new ones from L on -/
def renF (ms : List Nat) (L : Nat) (i : Nat) : Nat := match ms[i]? with
  | some m => m
  | none => L + (i - ms.length)
def renH (r : Nat → Nat) : List (Nat × AO) → List (Nat × AO)
  | [] => []
  | (l, o) :: rest => (r l, o.ren r) :: renH r rest
/-- labels that a call may write: gone, unless they are told anew -/
def goneL : List AO → List Nat → List (Nat × AO)
  | o :: os, m :: ms => match o.isRo with
    | true => goneL os ms
    | false => (m, .gone) :: goneL os ms
  | _, _ => []
/-- what may be written comes in once -/
def onceB (h0 : List AO) (ms : List Nat) : Bool := (List.range h0.length).all fun i => match h0[i]? with
  | some o => o.isRo || (List.range h0.length).all fun j => Nat.beq i j || !Nat.beq (ms.getD i 0) (ms.getD j 0)
  | none => true
theorem ren_isRo (r : Nat → Nat) (o : AO) : (o.ren r).isRo = o.isRo := by cases o <;> rfl
theorem hk_append (l : Nat) (a b : List (Nat × AO)) : hk l (a ++ b) = if l ∈ a.map (·.1) then hk l a else hk l b := by
  induction a with
  | nil => simp
  | cons p a ih =>
    obtain ⟨s, o⟩ := p
    simp only [List.cons_append, hk_cons, List.map_cons, List.mem_cons]
    by_cases h : s = l
    · simp [h]
    · have h' : ¬ l = s := fun e => h e.symm
      rw [if_neg h, if_neg h, ih]
      by_cases hm : l ∈ a.map (·.1)
      · rw [if_pos hm, if_pos (.inr hm)]
      · rw [if_neg hm, if_neg (fun e => e.elim h' hm)]
theorem hk_renH {r : Nat → Nat} {post : List (Nat × AO)} (hinj : ∀ i j, i ∈ post.map (·.1) → j ∈ post.map (·.1) → r i = r j → i = j) (i : Nat) (hi : i ∈ post.map (·.1)) : hk (r i) (renH r post) = (hk i post).map (AO.ren r) := by
  induction post with
  | nil => simp at hi
  | cons p a ih =>
    obtain ⟨s, u⟩ := p
    simp only [renH, hk_cons]
    by_cases h : s = i
    · subst h
      simp only [if_true]
      cases u <;> rfl
    · have hne : ¬ r s = r i := fun e => h (hinj s i (by simp) hi e)
      rw [if_neg hne, if_neg h]
      refine ih (fun i j hi hj => hinj i j (by simp only [List.map_cons, List.mem_cons]; exact .inr hi) (by simp only [List.map_cons, List.mem_cons]; exact .inr hj)) ?_
      simp only [List.map_cons, List.mem_cons] at hi
      exact hi.resolve_left (Ne.symm h)
theorem renH_mem {r : Nat → Nat} {post : List (Nat × AO)} {l : Nat} : l ∈ (renH r post).map (·.1) ↔ ∃ i, i ∈ post.map (·.1) ∧ r i = l := by
  induction post with
  | nil => simp [renH]
  | cons p a ih =>
    obtain ⟨s, u⟩ := p
    simp only [renH, List.map_cons, List.mem_cons, ih]
    constructor
    · rintro (h | ⟨i, h1, h2⟩)
      · exact ⟨s, .inl rfl, h.symm⟩
      · exact ⟨i, .inr h1, h2⟩
    · rintro ⟨i, h1 | h1, h2⟩
      · subst h1; exact .inl h2.symm
      · exact .inr ⟨i, h1, h2⟩
theorem goneL_mem {l : Nat} : ∀ {h0 : List AO} {ms : List Nat}, h0.length = ms.length → (l ∈ (goneL h0 ms).map (·.1) ↔ ∃ (i : Nat) (o : AO), h0[i]? = some o ∧ o.isRo = false ∧ ms[i]? = some l)
  | [], [], _ => by simp [goneL]
  | o :: os, m :: ms, h => by
    have ih := goneL_mem (l := l) (h0 := os) (ms := ms) (by simpa using h)
    simp only [goneL]
    cases hr : o.isRo
    · simp only [List.map_cons, List.mem_cons, ih]
      constructor
      · rintro (h | ⟨i, u, h1, h2, h3⟩)
        · exact ⟨0, o, rfl, hr, by simp [h]⟩
        · exact ⟨i + 1, u, h1, h2, h3⟩
      · rintro ⟨i, u, h1, h2, h3⟩
        cases i with
        | zero => left; simpa using h3.symm
        | succ i => right; exact ⟨i, u, h1, h2, h3⟩
    · simp only [ih]
      constructor
      · rintro ⟨i, u, h1, h2, h3⟩; exact ⟨i + 1, u, h1, h2, h3⟩
      · rintro ⟨i, u, h1, h2, h3⟩
        cases i with
        | zero => simp only [List.getElem?_cons_zero, Option.some.injEq] at h1; subst h1; rw [hr] at h2; cases h2
        | succ i => exact ⟨i, u, h1, h2, h3⟩
theorem goneL_none {l : Nat} : ∀ {h0 : List AO} {ms : List Nat}, hk l (goneL h0 ms) = none
  | [], [] => rfl
  | [], _ :: _ => rfl
  | _ :: _, [] => rfl
  | o :: os, m :: ms => by
    simp only [goneL]
    cases o.isRo
    · rw [hk_cons]
      split
      · rfl
      · exact goneL_none
    · exact goneL_none
/-- what is asked of a call: what comes in lies there -/
def HasIn (r : Nat → Nat) (h : List (Nat × AO)) : Nat → List AO → Prop
  | _, [] => True
  | i, o :: os => (∃ o', hk (r i) h = some o' ∧ (o.isRo = false → o'.isRo = false) ∧ ∀ ρ x w, o'.holds ρ x w → (o.ren r).holds ρ x w) ∧ HasIn r h (i + 1) os
theorem hasIn_get {r : Nat → Nat} {h : List (Nat × AO)} : ∀ {os : List AO} {i : Nat}, HasIn r h i os → ∀ (j : Nat) (o : AO), os[j]? = some o → ∃ o', hk (r (i + j)) h = some o' ∧ (o.isRo = false → o'.isRo = false) ∧ ∀ ρ x w, o'.holds ρ x w → (o.ren r).holds ρ x w
  | [], _, _, j, o, hj => by simp at hj
  | u :: os, i, hh, 0, o, hj => by simp only [List.getElem?_cons_zero, Option.some.injEq] at hj; subst hj; exact hh.1
  | u :: os, i, hh, j + 1, o, hj => by
    have := hasIn_get hh.2 j o (by simpa using hj)
    rwa [show i + 1 + j = i + (j + 1) by omega] at this
section
variable {E : Base} {ρ : Env} {n L : Nat} {τ : List (Nat × AV)} {h : List (Nat × AO)} {F : World → Prop} {a : Act} {w : World}
/-- what a call comes to, in the caller's telling -/
theorem Gam.calledR {σ : Type} (g : Gam E ρ n L τ h F a w) {h0 : List AO} {ms : List Nat} {m : Nat} {val : σ → AV} {post : σ → List (Nat × AO)} (hlen : h0.length = ms.length) (hm : h0.length ≤ m) (hin : HasIn (renF ms L) h 0 h0) (honce : onceB h0 ms = true)
    (hnd : ∀ s, nodupB (((post s).map (·.1)).map (renF ms L)) = true) {w' : World} {s : σ} {ρc : Env} (hpost : ∀ l ∈ (post s).map (·.1), l < m)
    (hk0 : ∀ i, i < h0.length → ρc i = ρ (renF ms L i)) (hlow : (val s).Low ρc m) (hag : Ag (fun b => ¬ Wr0 h0 (fun i => ρ (renF ms L i)) b) w w')
    (hhp : ∀ l o, hk l (post s) = some o → l < m ∧ o.Low ρc m ∧ o.holds ρc (ρc l) w') (hdis : ∀ l l' b, wrA l (post s) → hk l' (post s) ≠ none → ρc l = some b → ρc l' = some b → l = l')
    (hal : ∀ l b, l < m → ρc l = some b → b < w'.heap.size) (hnew : ∀ l b, h0.length ≤ l → hk l (post s) ≠ none → ρc l = some b → w.heap.size ≤ b ∨ Wr0 h0 (fun i => ρ (renF ms L i)) b) (hold : ∀ i o, i < h0.length → hk i (post s) = some o → o.isRo = false → ∃ o0, h0[i]? = some o0 ∧ o0.isRo = false) :
    ∃ ρ', (∀ i, i < m → ρ' (renF ms L i) = ρc i) ∧ ((val s).ren (renF ms L)).conc ρ' = (val s).conc ρc ∧ Next1 E n L (L + (m - h0.length)) τ h (renH (renF ms L) (post s) ++ (goneL h0 ms ++ h)) F ((goneL h0 ms).map (·.1)) ρ a w ρ' ((val s).ren (renF ms L)) w' := by
  have hmsL : ∀ (i : Nat) (mi : Nat), ms[i]? = some mi → mi < L := fun i mi hi => by
    have hlt : i < h0.length := by rw [hlen]; exact (List.getElem?_eq_some_iff.1 hi).1
    obtain ⟨o, ho⟩ : ∃ o, h0[i]? = some o := ⟨_, List.getElem?_eq_getElem hlt⟩
    obtain ⟨o', h1, _⟩ := hasIn_get hin i o ho
    rw [Nat.zero_add] at h1
    have : renF ms L i = mi := by unfold renF; rw [hi]
    rw [this] at h1
    exact (g.hp _ _ h1).1
  have rlow : ∀ i, i < h0.length → renF ms L i < L := fun i hi => by
    have : i < ms.length := by omega
    have e : renF ms L i = ms[i] := by unfold renF; rw [List.getElem?_eq_getElem this]
    rw [e]; exact hmsL i _ (List.getElem?_eq_getElem this)
  have rhigh : ∀ i, h0.length ≤ i → renF ms L i = L + (i - h0.length) := fun i hi => by
    unfold renF; rw [List.getElem?_eq_none (by omega), hlen]
  let ρ' : Env := fun l => if l < L then ρ l else ρc (h0.length + (l - L))
  have hs : ∀ l, l < L → ρ' l = ρ l := fun l hl => by simp only [ρ', hl, if_true]
  have hcomp : ∀ i, i < m → ρ' (renF ms L i) = ρc i := fun i _ => by
    rcases Nat.lt_or_ge i h0.length with hi | hi
    · rw [hs _ (rlow i hi), hk0 i hi]
    · rw [rhigh i hi]
      have h1 : ¬ L + (i - h0.length) < L := by omega
      have h2 : h0.length + (L + (i - h0.length) - L) = i := by omega
      simp only [ρ', h1, if_false, h2]
  have hrm : ∀ i, i < m → renF ms L i < L + (m - h0.length) := fun i hi => by
    rcases Nat.lt_or_ge i h0.length with h1 | h1
    · exact Nat.lt_of_lt_of_le (rlow i h1) (Nat.le_add_right _ _)
    · rw [rhigh i h1]; omega
  have hval : ((val s).ren (renF ms L)).conc ρ' = (val s).conc ρc := by
    rw [ren_conc]; exact hlow _ hcomp
  -- writable blocks that came in are the caller's
  have hwr : ∀ b, Wr0 h0 (fun i => ρ (renF ms L i)) b → ∃ i o, h0[i]? = some o ∧ o.isRo = false ∧ ms[i]? = some (renF ms L i) ∧ wrA (renF ms L i) h ∧ ρ (renF ms L i) = some b := fun b ⟨i, o, h1, h2, h3⟩ => by
    obtain ⟨o', h4, h5, _⟩ := hasIn_get hin i o h1
    rw [Nat.zero_add] at h4
    have hlt : i < ms.length := by rw [← hlen]; exact (List.getElem?_eq_some_iff.1 h1).1
    refine ⟨i, o, h1, h2, ?_, ⟨o', h4, h5 h2⟩, h3⟩
    unfold renF; rw [List.getElem?_eq_getElem hlt]
  have hgone : ∀ l, l ∉ (goneL h0 ms).map (·.1) → hk l h ≠ none → ∀ b, ρ l = some b → ¬ Wr0 h0 (fun i => ρ (renF ms L i)) b := fun l hl hlive b hb hw => by
    obtain ⟨i, o, h1, h2, h3, h4, h5⟩ := hwr b hw
    have := g.dis _ _ b h4 hlive h5 hb
    exact hl ((goneL_mem hlen).2 ⟨i, o, h1, h2, this ▸ h3⟩)
  have hold' : ∀ l b, hk l h ≠ none → ρ l = some b → l ∉ (goneL h0 ms).map (·.1) → w.heap[b]? = w'.heap[b]? := fun l b hl hb hn => (hag.block b (g.lt hl hb) (hgone l hn hl b hb)).symm
  have hinj := nodupB_inj (hnd s)
  let h' := renH (renF ms L) (post s) ++ (goneL h0 ms ++ h)
  have hcase : ∀ l o, hk l h' = some o → (∃ i oi, hk i (post s) = some oi ∧ renF ms L i = l ∧ o = oi.ren (renF ms L) ∧ i < m) ∨ (l ∉ (goneL h0 ms).map (·.1) ∧ hk l h = some o) := fun l o ho => by
    simp only [h', hk_append] at ho
    split at ho
    · rename_i hm
      obtain ⟨i, hi, rfl⟩ := renH_mem.1 hm
      rw [hk_renH hinj i hi] at ho
      cases hx : hk i (post s) with
      | none => rw [hx] at ho; cases ho
      | some oi =>
        rw [hx] at ho
        simp only [Option.map_some, Option.some.injEq] at ho
        exact .inl ⟨i, oi, hx, rfl, ho.symm, hpost i hi⟩
    · split at ho
      · rw [goneL_none] at ho; cases ho
      · rename_i hn; exact .inr ⟨hn, ho⟩
  -- a block of a label that is told anew
  have hblk : ∀ i oi b, hk i (post s) = some oi → i < m → oi.isRo = false ∨ h0.length ≤ i → ρc i = some b → w.heap.size ≤ b ∨ Wr0 h0 (fun i => ρ (renF ms L i)) b := fun i oi b hx hi hro hb => by
    rcases Nat.lt_or_ge i h0.length with h1 | h1
    · rcases hro with hro | hro
      · obtain ⟨o0, h2, h3⟩ := hold i oi h1 hx hro
        exact .inr ⟨i, o0, h2, h3, (hk0 i h1).symm.trans hb⟩
      · omega
    · exact hnew i b h1 (by rw [hx]; simp) hb
  refine ⟨ρ', hcomp, hval, ?_, hs, ?_, hold'⟩
  · intro ρ2 h2
    rw [ren_conc, ren_conc]
    exact (hlow.ext (ρ1 := fun l => ρ' (renF ms L l)) hcomp) _ (fun l hl => h2 _ (hrm l hl))
  · refine g.turn hs (Nat.le_add_right _ _) (hag.mono fun b hb hd hw => ?_) (fun l o ho => ?_) (fun l l' b hl hl' hb hb' => ?_) (fun l b hl hb => ?_) (fun l b h1 h2 hb => ?_)
    · obtain ⟨i, o, h1, h2, h3, h4, h5⟩ := hwr b hw
      exact hd _ h4 h5
    · rcases hcase l o ho with ⟨i, oi, h1, rfl, rfl, hi⟩ | ⟨h1, h2⟩
      · have := hhp i oi h1
        have hlw : oi.Low (fun l => ρ' (renF ms L l)) m := this.2.1.ext hcomp
        refine ⟨hrm i hi, fun ρ2 h2 r x => ?_, ?_⟩
        · rw [ren_holds, ren_holds]
          exact hlw (fun l => ρ2 (renF ms L l)) (fun l hl => h2 _ (hrm l hl)) r x
        · rw [ren_holds, hcomp i hi]
          exact (this.2.1 _ hcomp _ _).1 this.2.2
      · have hh := g.hp l o h2
        refine ⟨Nat.lt_of_lt_of_le hh.1 (Nat.le_add_right _ _), (hh.2.1.ext hs).mono (Nat.le_add_right _ _), ?_⟩
        rw [hs l hh.1]
        exact holds_same ((hh.2.1 _ hs _ _).1 hh.2.2) fun b hb => (hold' l b (by rw [h2]; simp) hb h1).symm
    · obtain ⟨o, ho, hro⟩ := hl
      obtain ⟨o2, ho2⟩ : ∃ o2, hk l' h' = some o2 := by
        cases hx : hk l' h' with
        | none => exact absurd hx hl'
        | some o2 => exact ⟨o2, rfl⟩
      rcases hcase l o ho with ⟨i, oi, h1, rfl, rfl, hi⟩ | ⟨h1, h2⟩
      · rw [ren_isRo] at hro
        rw [hcomp i hi] at hb
        rcases hcase l' o2 ho2 with ⟨j, oj, h3, rfl, rfl, hj⟩ | ⟨h3, h4⟩
        · rw [hcomp j hj] at hb'
          rw [hdis i j b ⟨oi, h1, hro⟩ (by rw [h3]; simp) hb hb']
        · exfalso
          have hl'L := (g.hp l' o2 h4).1
          rw [hs l' hl'L] at hb'
          rcases hblk i oi b h1 hi (.inl hro) hb with h5 | h5
          · have := g.lt (by rw [h4]; simp) hb'; omega
          · exact hgone l' h3 (by rw [h4]; simp) b hb' h5
      · have hlL := (g.hp l o h2).1
        rw [hs l hlL] at hb
        rcases hcase l' o2 ho2 with ⟨j, oj, h3, rfl, rfl, hj⟩ | ⟨h3, h4⟩
        · rw [hcomp j hj] at hb'
          rcases Nat.lt_or_ge j h0.length with hjk | hjk
          · have hj2 : ρ (renF ms L j) = some b := (hk0 j hjk).symm.trans hb'
            obtain ⟨oj0, ho0⟩ : ∃ o, h0[j]? = some o := ⟨_, List.getElem?_eq_getElem hjk⟩
            obtain ⟨oh, h5, _⟩ := hasIn_get hin j oj0 ho0
            rw [Nat.zero_add] at h5
            exact g.dis l _ b ⟨o, h2, hro⟩ (by rw [h5]; simp) hb hj2
          · exfalso
            rcases hnew j b hjk (by rw [h3]; simp) hb' with h5 | h5
            · have := g.lt (by rw [h2]; simp) hb; omega
            · exact hgone l h1 (by rw [h2]; simp) b hb h5
        · rw [hs l' (g.hp l' o2 h4).1] at hb'
          exact g.dis l l' b ⟨o, h2, hro⟩ (by rw [h4]; simp) hb hb'
    · obtain ⟨o, ho, hro⟩ := hl
      rcases hcase l o ho with ⟨i, oi, h1, rfl, rfl, hi⟩ | ⟨h1, h2⟩
      · rw [ren_isRo] at hro
        rw [hcomp i hi] at hb
        refine (hblk i oi b h1 hi (.inl hro) hb).imp id fun hw => ?_
        obtain ⟨i', o', _, _, _, h4, h5⟩ := hwr b hw
        exact ⟨_, h4, h5⟩
      · rw [hs l (g.hp l o h2).1] at hb
        exact .inr ⟨l, ⟨o, h2, hro⟩, hb⟩
    · have h3 : ¬ l < L := by omega
      simp only [ρ', h3, if_false] at hb
      exact hal _ b (by omega) hb
theorem Gam.called {σ : Type} (g : Gam E ρ n L τ h F a w) {h0 : List AO} {ms : List Nat} {m : Nat} {G : σ → Prop} {val : σ → AV} {post : σ → List (Nat × AO)} (hlen : h0.length = ms.length) (hm : h0.length ≤ m) (hin : HasIn (renF ms L) h 0 h0) (honce : onceB h0 ms = true)
    (hpost : ∀ s, G s → ∀ l ∈ (post s).map (·.1), l < m) (hnd : ∀ s, nodupB (((post s).map (·.1)).map (renF ms L)) = true)
    {e : Ending} {w' : World} (ho : Outc h0 m (fun i => ρ (renF ms L i)) w G val post e w') :
    ∃ s ρ', G s ∧ e = .returned (((val s).ren (renF ms L)).conc ρ') ∧ Next1 E n L (L + (m - h0.length)) τ h (renH (renF ms L) (post s) ++ (goneL h0 ms ++ h)) F ((goneL h0 ms).map (·.1)) ρ a w ρ' ((val s).ren (renF ms L)) w' := by
  obtain ⟨s, ρc, hG, hk0, he, hlow, hag, hhp, hdis, hal, hnew, hold⟩ := ho
  obtain ⟨ρ', _, h2, h3⟩ := g.calledR (val := val) (post := post) (s := s) (ρc := ρc) hlen hm hin honce hnd (hpost s hG) hk0 hlow hag hhp hdis hal hnew hold
  exact ⟨s, ρ', hG, by rw [h2]; exact he, h3⟩
end
section
variable {P : Program} {ops : Array Oper} {Q : Exit → Act → World → Prop} {D : Option DD} {E : Base} {n L : Nat} {τ : List (Nat × AV)} {h : List (Nat × AO)} {F : World → Prop} {rest : List Oper}
  {d : Nat} {op : Op} {ty : TypeId} {ps : String} {af : Array Edge} {gd : Option (Nat × Bool)} {tt : List (Nat × TI)}
/-- a contract: a function called so, where such things lie, comes to this -/
def Spec (P : Program) (f : FuncId) (avs : List AV) (h0 : List AO) (m : Nat) {σ : Type} (G : σ → Prop) (val : σ → AV) (post : σ → List (Nat × AO)) : Prop :=
  ∀ (ρ : Env) (w : World), (∀ (i : Nat) (o : AO), h0[i]? = some o → o.holds ρ (ρ i) w) → (∀ i j o b, h0[i]? = some o → o.isRo = false → j < h0.length → ρ i = some b → ρ j = some b → i = j) → (∀ i b, i < h0.length → ρ i = some b → b < w.heap.size) →
    Calls P f (AV.concs ρ avs).toArray w (Outc h0 m ρ w G val post)
theorem goes_call {P : Program} {o : Oper} {a : Act} {w : World} {f : FuncId} {xs : Array Operand} {ats : Array TypeId} {R : Value → World → Prop} (ho : o.op = .call { callee := .value (.func f), args := xs, argTypes := ats }) (eg : ∀ args w, (callFunc f args).run P w = .ok (.enter f args) w)
    (hc : Calls P f (xs.map a.eval) w fun e w' => ∃ v, e = .returned v ∧ R v w') : goes P o a w R := by
  unfold goes execOp
  simp only [ho, resolve, invoke, Act.eval, Deferred.ofValue, Sem.run_bind, Sem.run_pure, Result.andThen_ok, Array.append_empty, Array.empty_append]
  rw [eg]
  exact hc
/-- a call of a function -/
theorem R.c {σ : Type} {G : σ → Prop} {val : σ → AV} {post : σ → List (Nat × AO)} {f : FuncId} {xs : Array Operand} {ats : Array TypeId} {avs : List AV} {h0 : List AO} {m : Nat} (ms : List Nat) (sp : Spec P f avs h0 m G val post) (eg : ∀ args w, (callFunc f args).run P w = .ok (.enter f args) w)
    (hx : evList (evA τ) xs.toList = some (AV.rens (renF ms L) avs)) (hin : HasIn (renF ms L) h 0 h0) (hm : Nat.ble h0.length m = true) (hpost : ∀ s, ∀ l ∈ (post s).map (·.1), l < m) (hnd : ∀ s, nodupB (((post s).map (·.1)).map (renF ms L)) = true)
    (hg : wantA ops ⟨some d, .call { callee := .value (.func f), args := xs, argTypes := ats }, ty, ps, af, gd⟩ τ = some true) (hb : (Nat.ble (d + 1) n && Nat.beq h0.length ms.length && onceB h0 ms && chainB h D ((goneL h0 ms).map (·.1))) = true)
    (k : ∀ s, G s → R P ops Q (actD h D ((goneL h0 ms).map (·.1))) E n (L + (m - h0.length)) ((d, (val s).ren (renF ms L)) :: τ) (renH (renF ms L) (post s) ++ (goneL h0 ms ++ h)) F rest) :
    R P ops Q D E n L τ h F (⟨some d, .call { callee := .value (.func f), args := xs, argTypes := ats }, ty, ps, af, gd⟩ :: rest) := by
  simp only [Bool.and_eq_true] at hb
  obtain ⟨⟨⟨h1, h2⟩, h3⟩, h4⟩ := hb
  have hlen : h0.length = ms.length := Nat.eq_of_beq_eq_true h2
  have hm' : h0.length ≤ m := by simpa [Nat.ble_eq] using hm
  refine ⟨RL.acts G (fun s => (val s).ren (renF ms L)) (fun _ => L + (m - h0.length)) (fun s => renH (renF ms L) (post s) ++ (goneL h0 ms ++ h)) (fun _ => F) ((goneL h0 ms).map (·.1)) hg h1 h4 (fun _ _ => Nat.le_add_right _ _) (fun ρ a w g => ?_) (fun s hs => (k s hs).out)⟩
  refine goes_call rfl eg ?_
  have hargs : xs.map a.eval = (AV.concs (fun i => ρ (renF ms L i)) avs).toArray := by
    have := evList_conc (evB g) _ _ hx
    rw [rens_conc] at this
    apply Array.ext'
    simpa using this
  rw [hargs]
  have hget := hasIn_get hin
  simp only [Nat.zero_add] at hget
  have rlow : ∀ i, i < h0.length → renF ms L i < L := fun i hi => by
    obtain ⟨o, ho⟩ : ∃ o, h0[i]? = some o := ⟨_, List.getElem?_eq_getElem hi⟩
    obtain ⟨o', h5, _⟩ := hget i o ho
    exact (g.hp _ _ h5).1
  refine (sp (fun i => ρ (renF ms L i)) w (fun i o ho => ?_) (fun i j o b ho hro hj hbi hbj => ?_) (fun i b hi hbi => g.al _ b (rlow i hi) hbi)).mono fun e w' ho => ?_
  · obtain ⟨o', h5, h6, h7⟩ := hget i o ho
    exact (ren_holds _ _ _ _ _).1 (h7 _ _ _ (g.hp _ _ h5).2.2)
  · obtain ⟨o', h5, h6, _⟩ := hget i o ho
    obtain ⟨oj, hoj⟩ : ∃ o, h0[j]? = some o := ⟨_, List.getElem?_eq_getElem hj⟩
    obtain ⟨oj', h8, _⟩ := hget j oj hoj
    have he := g.dis _ _ b ⟨o', h5, h6 hro⟩ (by rw [h8]; simp) hbi hbj
    have hi : i < h0.length := (List.getElem?_eq_some_iff.1 ho).1
    have h9 := List.all_eq_true.1 h3 i (List.mem_range.2 hi)
    rw [ho] at h9
    simp only [hro, Bool.false_or] at h9
    have h10 := List.all_eq_true.1 h9 j (List.mem_range.2 hj)
    simp only [Bool.or_eq_true, Bool.not_eq_true'] at h10
    rcases h10 with h10 | h10
    · exact Nat.eq_of_beq_eq_true h10
    · exfalso
      have e1 : ∀ x, x < h0.length → renF ms L x = ms.getD x 0 := fun x hx => by
        have hx' : x < ms.length := by omega
        unfold renF
        rw [List.getD_eq_getElem?_getD, List.getElem?_eq_getElem hx']; rfl
      rw [← e1 i hi, ← e1 j hj, he, Nat.beq_refl] at h10; cases h10
  · obtain ⟨s, ρ', hG, he, hN⟩ := g.called hlen hm' hin h3 (fun s _ => hpost s) hnd ho
    exact ⟨_, he, s, ρ', hG, rfl, hN⟩
end
end Go.Proofs.Yteabncomclgncaa
namespace Go.Proofs.Yteabncomclgncaa
set_option linter.unusedVariables false
set_option linter.unusedSimpArgs false
set_option linter.unusedSectionVars false
open Go.RowKit
section
variable {P : Program} {ops : Array Oper} {Q : Exit → Act → World → Prop} {D : Option DD} {E : Base} {n L : Nat} {τ : List (Nat × AV)} {h : List (Nat × AO)} {F : World → Prop} {rest : List Oper}
  {d : Nat} {op : Op} {ty : TypeId} {ps : String} {af : Array Edge} {gd : Option (Nat × Bool)} {tt : List (Nat × TI)}
/-- what gives a value of its operands alone -/
theorem R.pure {op : Op} (v : AV) (hv : ∀ ρ a w, Gam E ρ n L τ h F a w → v.Low ρ L ∧ ∀ x : World, (execOp a.eval ⟨some d, op, ty, ps, af, gd⟩).run P x = .ok (.value (v.conc ρ)) x)
    (hg : wantA ops ⟨some d, op, ty, ps, af, gd⟩ τ = some true) (hb : (Nat.ble (d + 1) n && lookB D []) = true) (k : R P ops Q (lookD D []) E n L ((d, v) :: τ) h F rest) : R P ops Q D E n L τ h F (⟨some d, op, ty, ps, af, gd⟩ :: rest) := by
  simp only [Bool.and_eq_true] at hb
  exact ⟨RL.looks [] hg hb.1 hb.2 (fun l hl => by cases hl) v (fun ρ a w g => ⟨(hv ρ a w g).1, fun l hl => (by cases hl), fun x _ => (hv ρ a w g).2 x⟩) k.out⟩
theorem R.looks {op : Op} (l : Nat) (v : AV) (hv : ∀ ρ a w, Gam E ρ n L τ h F a w → v.Low ρ L ∧ ρ l ≠ none ∧ ∀ x : World, (∀ b, ρ l = some b → x.heap[b]? = w.heap[b]?) → (execOp a.eval ⟨some d, op, ty, ps, af, gd⟩).run P x = .ok (.value (v.conc ρ)) x)
    (hg : wantA ops ⟨some d, op, ty, ps, af, gd⟩ τ = some true) (hb : (Nat.ble (d + 1) n && lookB D [l] && Nat.ble (l + 1) L) = true) (k : R P ops Q (lookD D [l]) E n L ((d, v) :: τ) h F rest) : R P ops Q D E n L τ h F (⟨some d, op, ty, ps, af, gd⟩ :: rest) := by
  simp only [Bool.and_eq_true] at hb
  have hl : l + 1 ≤ L := by simpa [Nat.ble_eq] using hb.2
  exact ⟨RL.looks [l] hg hb.1.1 hb.1.2 (fun l' hl' => by simp at hl'; omega) v (fun ρ a w g => by
    obtain ⟨h1, h2, h3⟩ := hv ρ a w g
    exact ⟨h1, fun l' hl' => by simp at hl'; subst hl'; exact h2, fun x hx => h3 x fun b hb => hx l (by simp) b hb⟩) k.out⟩
/-- is there a block behind a place? -/
def hasAt (h : List (Nat × AO)) (l i : Nat) : Prop := match hk l h with
  | some (.cells _ _) => True
  | some (.bytes p _ _) => i < p.length
  | some (.tab _ m _ _ _) => i < m
  | some (.ro _ off m _) => off ≤ i ∧ i < off + m
  | _ => False
theorem Gam.someAt {ρ : Env} {a : Act} {w : World} (g : Gam E ρ n L τ h F a w) {l i : Nat} (hi : hasAt h l i) : ∃ b, ρ l = some b := by
  unfold hasAt at hi
  split at hi
  · rename_i xs T hl; obtain ⟨b, hr, _⟩ := (g.hp _ _ hl).2.2; exact ⟨b, hr⟩
  · rename_i p c T hl
    have := (g.hp _ _ hl).2.2
    rcases this.2 with ⟨_, hc⟩ | ⟨b, cur, hr, _⟩
    · have := this.1; omega
    · exact ⟨b, hr⟩
  · rename_i wd m c f T hl
    have := (g.hp _ _ hl).2.2
    rcases this.2.2 with ⟨_, hc⟩ | ⟨b, cur, hr, _⟩
    · have := this.1; omega
    · exact ⟨b, hr⟩
  · rename_i wd off m f hl
    rcases (g.hp _ _ hl).2.2 with ⟨_, hc⟩ | ⟨b, cur, ty, fr, hr, _⟩
    · omega
    · exact ⟨b, hr⟩
  · exact hi.elim
/-- &x[j] -/
theorem R.ix (htt : TTok P tt) {t e : TypeId} {x y : Operand} {l w0 off m cap : Nat} {k0 : IntKind} {j : Int} {sz bt : Nat} {z : List Value} (jn : Nat) (hx : evA τ x = some (.sl l w0 off m cap)) (hy : evA τ y = some (.raw (.int k0 j))) (ht : lk t tt = some ⟨sz, bt, .sl e, z⟩) (hs : szA tt e = some w0)
    (hg : wantA ops ⟨some d, .indexAddr t x y, ty, ps, af, gd⟩ τ = some true) (hb : (Nat.ble (d + 1) n && lookB D []) = true) (hj : j = (jn : Int)) (hlt : jn < m) (hne : hasAt h l (off + jn)) (hlL : Nat.ble (l + 1) L = true)
    (k : R P ops Q (lookD D []) E n L ((d, .ptr l w0 (off + jn) 0) :: τ) h F rest) : R P ops Q D E n L τ h F (⟨some d, .indexAddr t x y, ty, ps, af, gd⟩ :: rest) :=
  R.pure _ (fun ρ a w g => by
    obtain ⟨b, hb⟩ := g.someAt hne
    have hlL' : l + 1 ≤ L := by simpa [Nat.ble_eq] using hlL
    refine ⟨fun ρ' he => by simp [AV.conc, he l (by omega)], fun W => ?_⟩
    have hu := und_sl (htt _ _ ht) rfl W
    obtain ⟨te, hte, hsz⟩ := Option.map_eq_some_iff.1 hs
    have hse := (htt _ _ hte).run_size W
    subst hj
    rw [hsz] at hse
    have h1 : (0 : Int) ≤ (jn : Int) ∧ (jn : Int) < (m : Int) := by omega
    have h2 : (jn : Int) < (m : Int) := h1.2
    simp only [execOp, (g.eval x _ hx).2, (g.eval y _ hy).2, AV.conc, hb, Option.map_some, Option.getD_some]
    simp only [Instr.indexAt, asIntOf, Sem.run_bind, Sem.run_pure, Result.andThen_ok, hu]
    rw [if_pos h1]
    simp [hse, addr_add0, Nat.add_mul]) hg hb k
theorem run_load_one {t : TypeId} {ti : TI} (hti : TIok P t ti) (hk : ti.kind.isAgg = false) {W : World} {b o : Nat} {cur : Array Value} {T : TypeId} {fr : Nat × Nat} {v : Value} (hb : W.heap[b]? = some (.cells cur T fr)) (hv : cur[o]? = some v) : (loadVar t ⟨b, o, none⟩).run P W = .ok v W := by
  have e1 := hti.run_isAgg W
  rw [hk] at e1
  have hc : W.cell? ⟨b, o, none⟩ = some v := by rw [cell_of_row W b o cur T fr hb, hv]
  simp [loadVar, e1, hc]
/-- what lies in a list's element -/
theorem tab_cell {ρ : Env} {wd n0 cap : Nat} {f : Nat → List AV} {T : TypeId} {r : Option Nat} {w : World} (hh : (AO.tab wd n0 cap f T).holds ρ r w) {i : Nat} (hi : i < n0) : ∃ b cur, r = some b ∧ w.heap[b]? = some (.cells cur T (0, 0)) ∧ (f i).length = wd ∧ i * wd + wd ≤ cur.size ∧ ∀ c x, (f i)[c]? = some x → cur[i * wd + c]? = some (x.conc ρ) := by
  rcases hh.2.2 with ⟨_, hc⟩ | ⟨b, cur, hr, hbk, hsz, hcur⟩
  · have := hh.1; omega
  · refine ⟨b, cur, hr, hbk, hh.2.1 i hi, ?_, fun c x hx => hcur i c x hi hx⟩
    rw [hsz]
    have := Nat.mul_le_mul_right wd (show i + 1 ≤ cap by have := hh.1; omega)
    rwa [Nat.add_mul, Nat.one_mul] at this
theorem tab_low {ρ : Env} {a : Act} {w : World} (g : Gam E ρ n L τ h F a w) {l wd n0 cap : Nat} {f : Nat → List AV} {T : TypeId} (hl : hk l h = some (.tab wd n0 cap f T)) {i : Nat} (hi : i < n0) : LowS ρ L (f i) := fun x hx ρ' he => by
  have hp := g.hp _ _ hl
  obtain ⟨b, cur, hr, hbk, hlen, hsz, hcur⟩ := tab_cell hp.2.2 hi
  have h2 := (hp.2.1 ρ' he _ _).1 hp.2.2
  obtain ⟨b', cur', hr', hbk', _, _, hcur'⟩ := tab_cell h2 hi
  rw [hr] at hr'
  cases hr'
  rw [hbk] at hbk'
  simp only [Option.some.injEq, Obj.cells.injEq, and_true] at hbk'
  subst hbk'
  obtain ⟨c, hc⟩ := List.getElem?_of_mem hx
  have h3 := hcur c x hc
  have h4 := hcur' c x hc
  rw [h3] at h4
  exact (Option.some.inj h4).symm
theorem run_load_some {t : TypeId} {ti : TI} (hti : TIok P t ti) {W : World} {b o : Nat} {cur : Array Value} {T : TypeId} {fr : Nat × Nat} (hb : W.heap[b]? = some (.cells cur T fr)) (xs : List Value) (hxs : ∀ c v, xs[c]? = some v → cur[o + c]? = some v) (v : Value)
    (hv : if ti.kind.isAgg then xs.length = ti.size ∧ v = .agg xs.toArray else xs[0]? = some v) : (loadVar t ⟨b, o, none⟩).run P W = .ok v W := by
  have e1 := hti.run_isAgg W
  have e2 := hti.run_size W
  cases hk : ti.kind.isAgg <;> rw [hk] at hv e1
  · simp only [Bool.false_eq_true, if_false] at hv
    have hc : W.cell? ⟨b, o, none⟩ = some v := by rw [cell_of_row W b o cur T fr hb]; exact hxs 0 v hv
    simp [loadVar, e1, hc]
  · simp only [if_true] at hv
    obtain ⟨h1, rfl⟩ := hv
    have := run_loadCells_list (P := P) W ⟨b, o, none⟩ xs (fun j u hj => by rw [addr_add0, cell_of_row W b (o + j) cur T fr hb]; exact hxs j u hj)
    rw [h1] at this
    simp [loadVar, e1, e2, this]
/-- a part of an element's cells, as a load gives it -/
def takeA (ti : TI) (xs : List AV) (c : Nat) : Option AV := match ti.kind.isAgg with
  | true => match Nat.ble (c + ti.size) xs.length with
    | true => some (.agg ((xs.drop c).take ti.size))
    | false => none
  | false => xs[c]?
theorem takeA_low {ρ : Env} {ti : TI} {xs : List AV} {c : Nat} {v : AV} (h : takeA ti xs c = some v) (hl : LowS ρ L xs) : v.Low ρ L := by
  unfold takeA at h
  split at h
  · split at h
    · cases h
      intro ρ' he
      simp only [AV.conc]
      rw [concs_low (fun x hx => hl x (List.mem_of_mem_drop (List.mem_of_mem_take hx))) ρ' he]
    · cases h
  · exact hl v (List.mem_of_getElem? h)
theorem takeA_run {ρ : Env} {t : TypeId} {ti : TI} (hti : TIok P t ti) {xs : List AV} {c o : Nat} {v : AV} (h : takeA ti xs c = some v) {W : World} {b : Nat} {cur : Array Value} {T : TypeId} {fr : Nat × Nat} (hb : W.heap[b]? = some (.cells cur T fr)) (hxs : ∀ j x, xs[j]? = some x → cur[o + j]? = some (x.conc ρ)) :
    (loadVar t ⟨b, o + c, none⟩).run P W = .ok (v.conc ρ) W := by
  unfold takeA at h
  split at h
  · rename_i hk
    split at h
    · rename_i hle
      cases h
      have hle' : c + ti.size ≤ xs.length := by simpa [Nat.ble_eq] using hle
      refine run_load_some hti hb (AV.concs ρ (xs.drop c |>.take ti.size)) (fun j u hj => ?_) _ ?_
      · rw [concs_map, List.getElem?_map] at hj
        obtain ⟨x, hx, rfl⟩ := Option.map_eq_some_iff.1 hj
        rw [List.getElem?_take] at hx
        split at hx
        · rw [List.getElem?_drop] at hx
          rw [Nat.add_assoc]; exact hxs _ x hx
        · cases hx
      · rw [hk]
        simp only [if_true]
        exact ⟨by rw [concs_length]; simp; omega, by simp [AV.conc]⟩
    · cases h
  · rename_i hk
    exact run_load_one hti (by simpa using hk) hb (hxs c v h)
/-- an element of a list, or a part of it -/
theorem R.ldt (htt : TTok P tt) {t T : TypeId} {x : Operand} {l wd i c n0 cap : Nat} {f : Nat → List AV} {ti : TI} {v : AV} (hx : evA τ x = some (.ptr l wd i c)) (hl : hk l h = some (.tab wd n0 cap f T)) (ht : lk t tt = some ti) (hv : takeA ti (f i) c = some v)
    (hg : wantA ops ⟨some d, .load t x, ty, ps, af, gd⟩ τ = some true) (hb : (Nat.ble (d + 1) n && lookB D [l] && Nat.ble (l + 1) L) = true) (hi : i < n0)
    (k : R P ops Q (lookD D [l]) E n L ((d, v) :: τ) h F rest) : R P ops Q D E n L τ h F (⟨some d, .load t x, ty, ps, af, gd⟩ :: rest) :=
  R.looks l _ (fun ρ a w g => by
    obtain ⟨b, cur, hr, hbk, hlen, hsz, hcur⟩ := tab_cell (g.hp _ _ hl).2.2 hi
    refine ⟨takeA_low hv (tab_low g hl hi), by rw [hr]; simp, fun W hW => ?_⟩
    simp only [execOp, (g.eval x _ hx).2, AV.conc, hr, Option.getD_some, Instr.loadAt, Instr.sureAddr, Sem.run_bind, Sem.run_pure, Result.andThen_ok]
    rw [takeA_run (htt _ _ ht) hv ((hW b hr).trans hbk) hcur]
    rfl) hg hb k
theorem ro_cell {ρ : Env} {wd off n0 : Nat} {f : Nat → List AV} {r : Option Nat} {w : World} (hh : (AO.ro wd off n0 f).holds ρ r w) {i : Nat} (hi : i < n0) : ∃ b cur T fr, r = some b ∧ w.heap[b]? = some (.cells cur T fr) ∧ ∀ c x, (f i)[c]? = some x → cur[(off + i) * wd + c]? = some (x.conc ρ) := by
  rcases hh with ⟨_, hc⟩ | ⟨b, cur, T, fr, hr, hbk, hcur⟩
  · omega
  · exact ⟨b, cur, T, fr, hr, hbk, fun c x hx => hcur i c x hi hx⟩
theorem ro_low {ρ : Env} {a : Act} {w : World} (g : Gam E ρ n L τ h F a w) {l wd off n0 : Nat} {f : Nat → List AV} (hl : hk l h = some (.ro wd off n0 f)) {i : Nat} (hi : i < n0) : LowS ρ L (f i) := fun x hx ρ' he => by
  have hp := g.hp _ _ hl
  obtain ⟨b, cur, T, fr, hr, hbk, hcur⟩ := ro_cell hp.2.2 hi
  have h2 := (hp.2.1 ρ' he _ _).1 hp.2.2
  obtain ⟨b', cur', T', fr', hr', hbk', hcur'⟩ := ro_cell h2 hi
  rw [hr] at hr'
  cases hr'
  rw [hbk] at hbk'
  simp only [Option.some.injEq, Obj.cells.injEq] at hbk'
  obtain ⟨rfl, _⟩ := hbk'
  obtain ⟨c, hc⟩ := List.getElem?_of_mem hx
  have h3 := hcur c x hc
  have h4 := hcur' c x hc
  rw [h3] at h4
  exact (Option.some.inj h4).symm
/-- an element of a list that is only read, or a part of it -/
theorem R.ldo (htt : TTok P tt) {t : TypeId} {x : Operand} {l wd off i c n0 : Nat} {f : Nat → List AV} {ti : TI} {v : AV} (hx : evA τ x = some (.ptr l wd (off + i) c)) (hl : hk l h = some (.ro wd off n0 f)) (ht : lk t tt = some ti) (hv : takeA ti (f i) c = some v)
    (hg : wantA ops ⟨some d, .load t x, ty, ps, af, gd⟩ τ = some true) (hb : (Nat.ble (d + 1) n && lookB D [l] && Nat.ble (l + 1) L) = true) (hi : i < n0)
    (k : R P ops Q (lookD D [l]) E n L ((d, v) :: τ) h F rest) : R P ops Q D E n L τ h F (⟨some d, .load t x, ty, ps, af, gd⟩ :: rest) :=
  R.looks l _ (fun ρ a w g => by
    obtain ⟨b, cur, T, fr, hr, hbk, hcur⟩ := ro_cell (g.hp _ _ hl).2.2 hi
    refine ⟨takeA_low hv (ro_low g hl hi), by rw [hr]; simp, fun W hW => ?_⟩
    simp only [execOp, (g.eval x _ hx).2, AV.conc, hr, Option.getD_some, Instr.loadAt, Instr.sureAddr, Sem.run_bind, Sem.run_pure, Result.andThen_ok]
    rw [takeA_run (htt _ _ ht) hv ((hW b hr).trans hbk) hcur]
    rfl) hg hb k
theorem R.shr {t u : TypeId} {x y : Operand} {k0 k1 : IntKind} {a0 b0 : Int} (v : Int) (hx : evA τ x = some (.raw (.int k0 a0))) (hy : evA τ y = some (.raw (.int k1 b0)))
    (hg : wantA ops ⟨some d, .binOp .shr t x y u, ty, ps, af, gd⟩ τ = some true) (hb : (Nat.ble (d + 1) n && lookB D []) = true) (h0 : 0 ≤ b0) (hv : a0.fdiv (2 ^ (min b0.toNat k0.bits)) = v)
    (k : R P ops Q (lookD D []) E n L ((d, .raw (.int k0 v)) :: τ) h F rest) : R P ops Q D E n L τ h F (⟨some d, .binOp .shr t x y u, ty, ps, af, gd⟩ :: rest) :=
  R.pure _ (fun ρ a w g => ⟨AV.Low.raw _ _ _, fun W => by
    have : ¬ b0 < 0 := by omega
    simp [execOp, (g.eval x _ hx).2, (g.eval y _ hy).2, AV.conc, eqGuard, binOp, Op.shift, this, hv]⟩) hg hb k
end
end Go.Proofs.Yteabncomclgncaa
namespace Go.Proofs.Yteabncomclgncaa
set_option linter.unusedVariables false
set_option linter.unusedSimpArgs false
set_option linter.unusedSectionVars false
open Go.RowKit
/-- labels named anew, by a list: (new name, old name) -/
def rnF (rl : List (Nat × Nat)) (l : Nat) : Nat := match lk l rl with
  | some m => m
  | none => l
def rnB (N L2 L : Nat) (rl : List (Nat × Nat)) : Bool := Nat.ble N L2 && (rl.all fun p => Nat.ble N p.1) && (List.range L2).all fun l => Nat.ble (rnF rl l + 1) L
theorem rn_ok {N L2 L : Nat} {rl : List (Nat × Nat)} (h : rnB N L2 L rl = true) : (∀ l, l < N → rnF rl l = l) ∧ (∀ l, l < L2 → rnF rl l < L) ∧ N ≤ L2 := by
  simp only [rnB, Bool.and_eq_true, Nat.ble_eq, List.all_eq_true, List.mem_range] at h
  obtain ⟨⟨h1, h2⟩, h3⟩ := h
  have key : ∀ l m, lk l rl = some m → (l, m) ∈ rl := fun l m hl => by
    clear h2 h3
    induction rl with
    | nil => simp [lk] at hl
    | cons p rl ih =>
      obtain ⟨s, u⟩ := p
      rw [lk_cons] at hl
      split at hl
      · rename_i e; subst e; cases hl; simp
      · simp [ih hl]
  refine ⟨fun l hl => ?_, fun l hl => h3 l hl, h1⟩
  unfold rnF
  cases hx : lk l rl with
  | none => rfl
  | some m => have := h2 _ (key l m hx); simp only at this; omega
/-- a state that is told by s -/
def At {σ : Type} (E : Base) (n L : Nat) (Inv : σ → Prop) (T : σ → List (Nat × AV)) (H : σ → List (Nat × AO)) (F : World → Prop) (μ : σ → Nat) (m : Nat) (a : Act) (w : World) : Prop := ∃ s, Inv s ∧ μ s < m ∧ ∃ ρ, Gam E ρ n L (T s) (H s) F a w
section
variable {P : Program} {Q : Exit → Act → World → Prop} {E : Base} {n L : Nat} {τ : List (Nat × AV)} {h : List (Nat × AO)} {F : World → Prop}
theorem at_of {σ : Type} {L2 : Nat} {Inv : σ → Prop} {T : σ → List (Nat × AV)} {H : σ → List (Nat × AO)} {F2 : World → Prop} {μ : σ → Nat} {m : Nat} {ρ : Env} {a : Act} {w : World} (g : Gam E ρ n L τ h F a w) (rl : List (Nat × Nat)) (s : σ) (hI : Inv s) (hm : μ s < m) (hb : rnB E.N L2 L rl = true)
    (ht : HasT (rnF rl) L2 τ (T s)) (hh : HasH (rnF rl) L2 h (H s)) (hnd : nodupB (((H s).map (·.1)).map (rnF rl)) = true) (hF : ∀ w, F w → F2 w) : At E n L2 Inv T H F2 μ m a w := by
  obtain ⟨h1, h2, h3⟩ := rn_ok hb
  exact ⟨s, hI, hm, _, g.imp (rnF rl) L2 (T s) (H s) F2 h1 h2 h3 ht hh hnd hF⟩
/-- the end of a round; where ways meet -/
theorem X.back {σ : Type} {L2 : Nat} {Inv : σ → Prop} {T : σ → List (Nat × AV)} {H : σ → List (Nat × AO)} {F2 : World → Prop} {μ : σ → Nat} {m : Nat} (rl : List (Nat × Nat)) (s : σ) (hI : Inv s) (hm : μ s < m) (hb : rnB E.N L2 L rl = true)
    (ht : HasT (rnF rl) L2 τ (T s)) (hh : HasH (rnF rl) L2 h (H s)) (hnd : nodupB (((H s).map (·.1)).map (rnF rl)) = true) (hF : ∀ w, F w → F2 w) : X (Exit.then (At E n L2 Inv T H F2 μ m) Q) .normal E n L τ h F :=
  ⟨fun ρ a w g => at_of g rl s hI hm hb ht hh hnd hF⟩
/-- a loop -/
theorem C.loop {σ : Type} {c : Code} {L2 : Nat} (Inv : σ → Prop) (T : σ → List (Nat × AV)) (H : σ → List (Nat × AO)) (F2 : World → Prop) (μ : σ → Nat) (rl : List (Nat × Nat)) (s : σ) (hI : Inv s) (hb : rnB E.N L2 L rl = true)
    (ht : HasT (rnF rl) L2 τ (T s)) (hh : HasH (rnF rl) L2 h (H s)) (hnd : nodupB (((H s).map (·.1)).map (rnF rl)) = true) (hF : ∀ w, F w → F2 w)
    (round : ∀ s, Inv s → C P c (Exit.then (At E n L2 Inv T H F2 μ (μ s)) Q) E n L2 (T s) (H s) F2) : C P (.loop c) Q E n L τ h F := ⟨fun ρ a w g => by
  obtain ⟨s0, hI0, hm0, ρ0, g0⟩ := at_of (μ := μ) (m := μ s + 1) (F2 := F2) g rl s hI (Nat.lt_succ_self _) hb ht hh hnd hF
  refine wp_loop_ghost (fun k a w => ∃ s, Inv s ∧ μ s = k ∧ ∃ ρ, Gam E ρ n L2 (T s) (H s) F2 a w) (μ s0) ⟨s0, hI0, rfl, ρ0, g0⟩ ?_
  rintro k a w ⟨s, hs, rfl, ρ, g⟩
  refine wp_mono ((round s hs).out ρ a w g) ?_
  intro e a' w' hq
  cases e with
  | normal =>
    obtain ⟨s', h1, h2, h3⟩ := hq
    exact ⟨μ s', h2, s', h1, rfl, h3⟩
  | exit id => exact hq
  | goto l => exact hq
  | ret => exact hq
  | panic ch => exact hq
  | outgrown => exact hq⟩
/-- less is told -/
theorem C.less {c : Code} (rl : List (Nat × Nat)) (L2 : Nat) (τ2 : List (Nat × AV)) (h2 : List (Nat × AO)) (F2 : World → Prop) (hb : rnB E.N L2 L rl = true) (ht : HasT (rnF rl) L2 τ τ2) (hh : HasH (rnF rl) L2 h h2) (hnd : nodupB ((h2.map (·.1)).map (rnF rl)) = true) (hF : ∀ w, F w → F2 w)
    (k : C P c Q E n L2 τ2 h2 F2) : C P c Q E n L τ h F := ⟨fun ρ a w g => by
  obtain ⟨h1, h3, h4⟩ := rn_ok hb
  exact k.out _ a w (g.imp (rnF rl) L2 τ2 h2 F2 h1 h3 h4 ht hh hnd hF)⟩
theorem X.less {e : Exit} (rl : List (Nat × Nat)) (L2 : Nat) (τ2 : List (Nat × AV)) (h2 : List (Nat × AO)) (F2 : World → Prop) (hb : rnB E.N L2 L rl = true) (ht : HasT (rnF rl) L2 τ τ2) (hh : HasH (rnF rl) L2 h h2) (hnd : nodupB ((h2.map (·.1)).map (rnF rl)) = true) (hF : ∀ w, F w → F2 w)
    (k : X Q e E n L2 τ2 h2 F2) : X Q e E n L τ h F := ⟨fun ρ a w g => by
  obtain ⟨h1, h3, h4⟩ := rn_ok hb
  exact k.out _ a w (g.imp (rnF rl) L2 τ2 h2 F2 h1 h3 h4 ht hh hnd hF)⟩
/-- what lies at labels is told in another way -/
theorem HasT.nil {r : Nat → Nat} {L : Nat} {τ : List (Nat × AV)} : HasT r L τ [] := trivial
theorem HasT.cons {r : Nat → Nat} {L : Nat} {τ rest : List (Nat × AV)} {t : Nat} {v v' : AV} (h1 : lk t τ = some v') (h2 : v' = v.ren r) (h3 : v.bd L = true) (k : HasT r L τ rest) : HasT r L τ ((t, v) :: rest) := ⟨⟨⟨v', h1, h2⟩, h3⟩, k⟩
theorem HasH.nil {r : Nat → Nat} {L : Nat} {h : List (Nat × AO)} : HasH r L h [] := trivial
/-- the same lies there -/
theorem HasH.same {r : Nat → Nat} {L : Nat} {h rest : List (Nat × AO)} {l : Nat} {o o' : AO} (h1 : hk (r l) h = some o') (h2 : o' = o.ren r) (h3 : Nat.ble (l + 1) L = true) (h4 : o.Bd L) (k : HasH r L h rest) : HasH r L h ((l, o) :: rest) :=
  ⟨⟨⟨o', h1, by rw [h2]; cases o <;> exact id, fun ρ x w hh => h2 ▸ hh⟩, h3, h4⟩, k⟩
theorem HasH.other {r : Nat → Nat} {L : Nat} {h rest : List (Nat × AO)} {l : Nat} {o o' : AO} (h1 : hk (r l) h = some o') (h5 : (o.isRo = false → o'.isRo = false)) (h2 : ∀ ρ x w, o'.holds ρ x w → (o.ren r).holds ρ x w) (h3 : Nat.ble (l + 1) L = true) (h4 : o.Bd L) (k : HasH r L h rest) : HasH r L h ((l, o) :: rest) :=
  ⟨⟨⟨o', h1, h5, h2⟩, h3, h4⟩, k⟩
theorem HasIn.nil {r : Nat → Nat} {h : List (Nat × AO)} {i : Nat} : HasIn r h i [] := trivial
theorem HasIn.same {r : Nat → Nat} {h : List (Nat × AO)} {i : Nat} {o o' : AO} {os : List AO} (h1 : hk (r i) h = some o') (h2 : o' = o.ren r) (k : HasIn r h (i + 1) os) : HasIn r h i (o :: os) :=
  ⟨⟨o', h1, by rw [h2]; cases o <;> exact id, fun ρ x w hh => h2 ▸ hh⟩, k⟩
theorem HasIn.other {r : Nat → Nat} {h : List (Nat × AO)} {i : Nat} {o o' : AO} {os : List AO} (h1 : hk (r i) h = some o') (h5 : (o.isRo = false → o'.isRo = false)) (h2 : ∀ ρ x w, o'.holds ρ x w → (o.ren r).holds ρ x w) (k : HasIn r h (i + 1) os) : HasIn r h i (o :: os) :=
  ⟨⟨o', h1, h5, h2⟩, k⟩
end
end Go.Proofs.Yteabncomclgncaa
namespace Go.Proofs.Yteabncomclgncaa
set_option linter.unusedVariables false
set_option linter.unusedSimpArgs false
set_option linter.unusedSectionVars false
open Go.RowKit
/-- the elements' cells, one behind the other -/
def flat {α : Type} (f : Nat → List α) : Nat → List α
  | 0 => []
  | n + 1 => flat f n ++ f n
theorem flat_length {α : Type} {f : Nat → List α} {wd : Nat} : ∀ {n : Nat}, (∀ i, i < n → (f i).length = wd) → (flat f n).length = n * wd
  | 0, _ => by simp [flat]
  | n + 1, h => by
    have := flat_length (n := n) (f := f) (wd := wd) fun i hi => h i (by omega)
    simp [flat, this, h n (by omega), Nat.add_mul]
theorem flat_get {α : Type} {f : Nat → List α} {wd : Nat} : ∀ {n : Nat}, (∀ i, i < n → (f i).length = wd) → ∀ i c, i < n → c < wd → (flat f n)[i * wd + c]? = (f i)[c]?
  | 0, _, i, c, hi, _ => by omega
  | n + 1, h, i, c, hi, hc => by
    have hl := flat_length (n := n) (f := f) (wd := wd) fun i hi => h i (by omega)
    simp only [flat]
    by_cases e : i < n
    · have h1 := Nat.mul_le_mul_right wd (show i + 1 ≤ n by omega)
      rw [Nat.add_mul, Nat.one_mul] at h1
      rw [List.getElem?_append_left (by omega)]
      exact flat_get (fun i hi => h i (by omega)) i c e hc
    · obtain rfl : i = n := by omega
      rw [List.getElem?_append_right (by omega), hl]
      congr 1
      omega
/-- a row of cells whose first are known -/
def RowL (w : World) (r : Option Nat) (cap sz : Nat) (T : TypeId) (xs : List Value) : Prop :=
  xs.length ≤ cap * sz ∧ ((r = none ∧ cap = 0) ∨ ∃ b cur, r = some b ∧ w.heap[b]? = some (.cells cur T (0, 0)) ∧ cur.size = cap * sz ∧ cur.toList.take xs.length = xs)
theorem take_iff {cur xs : List Value} (hl : xs.length ≤ cur.length) : cur.take xs.length = xs ↔ ∀ (j : Nat) (u : Value), xs[j]? = some u → cur[j]? = some u := by
  constructor
  · intro h j u hj
    have hlt := (List.getElem?_eq_some_iff.1 hj).1
    rw [← h, List.getElem?_take, if_pos hlt] at hj
    exact hj
  · intro h
    apply List.ext_getElem?
    intro j
    rw [List.getElem?_take]
    split
    · rename_i hlt
      rw [h j _ (List.getElem?_eq_getElem hlt), List.getElem?_eq_getElem hlt]
    · rename_i hge
      rw [List.getElem?_eq_none (by omega)]
theorem bytes_row {ρ : Env} {r : Option Nat} {w : World} {p : List UInt8} {cap : Nat} {T : TypeId} : (AO.bytes p cap T).holds ρ r w ↔ RowL w r cap 1 T (p.map byteV) := by
  simp only [AO.holds, RowL, List.length_map, Nat.mul_one]
  constructor
  · rintro ⟨h1, h2⟩
    refine ⟨h1, h2.imp id ?_⟩
    rintro ⟨b, cur, hr, hb, hs, hc⟩
    refine ⟨b, cur, hr, hb, hs, ?_⟩
    have := (take_iff (cur := cur.toList) (xs := p.map byteV) (by simp; omega)).2 fun j u hj => by
      rw [List.getElem?_map] at hj
      obtain ⟨x, hx, rfl⟩ := Option.map_eq_some_iff.1 hj
      have hlt := (List.getElem?_eq_some_iff.1 hx).1
      rw [Array.getElem?_toList, hc j hlt, (List.getElem?_eq_some_iff.1 hx).2]
    rwa [List.length_map] at this
  · rintro ⟨h1, h2⟩
    refine ⟨h1, h2.imp id ?_⟩
    rintro ⟨b, cur, hr, hb, hs, hc⟩
    refine ⟨b, cur, hr, hb, hs, fun i hi => ?_⟩
    have := (take_iff (cur := cur.toList) (xs := p.map byteV) (by simp; omega)).1 (by rw [List.length_map]; exact hc) i (byteV p[i]) (by simp [hi])
    rwa [Array.getElem?_toList] at this
theorem tab_row {ρ : Env} {r : Option Nat} {w : World} {wd n0 cap : Nat} {f : Nat → List AV} {T : TypeId} (hw : 0 < wd) : (AO.tab wd n0 cap f T).holds ρ r w ↔ (n0 ≤ cap ∧ (∀ i, i < n0 → (f i).length = wd) ∧ RowL w r cap wd T (flat (fun i => AV.concs ρ (f i)) n0)) := by
  have key : (∀ i, i < n0 → (f i).length = wd) → n0 ≤ cap → ∀ cur : Array Value, cur.size = cap * wd → ((∀ i c x, i < n0 → (f i)[c]? = some x → cur[i * wd + c]? = some (x.conc ρ)) ↔ cur.toList.take (flat (fun i => AV.concs ρ (f i)) n0).length = flat (fun i => AV.concs ρ (f i)) n0) := fun hl hn cur hs => by
    have hl' : ∀ i, i < n0 → (AV.concs ρ (f i)).length = wd := fun i hi => by rw [concs_length, hl i hi]
    have hlen := flat_length hl'
    have hle := Nat.mul_le_mul_right wd hn
    rw [take_iff (by rw [hlen, Array.length_toList]; omega)]
    constructor
    · intro h j u hj
      have hlt := (List.getElem?_eq_some_iff.1 hj).1
      rw [hlen] at hlt
      have hi : j / wd < n0 := (Nat.div_lt_iff_lt_mul hw).2 hlt
      have hc : j % wd < wd := Nat.mod_lt _ hw
      have e : j / wd * wd + j % wd = j := by rw [Nat.mul_comm]; exact Nat.div_add_mod j wd
      have := flat_get hl' (j / wd) (j % wd) hi hc
      rw [e, hj] at this
      rw [concs_map, List.getElem?_map] at this
      obtain ⟨x, hx, hu⟩ := Option.map_eq_some_iff.1 this.symm
      have := h (j / wd) (j % wd) x hi hx
      rw [e] at this
      rw [Array.getElem?_toList, this, hu]
    · intro h i c x hi hx
      have hc : c < wd := by rw [← hl i hi]; exact (List.getElem?_eq_some_iff.1 hx).1
      have := flat_get hl' i c hi hc
      rw [concs_get hx] at this
      have := h _ _ this
      rwa [Array.getElem?_toList] at this
  simp only [AO.holds, RowL]
  constructor
  · rintro ⟨h1, h2, h3⟩
    have hlen := flat_length (f := fun i => AV.concs ρ (f i)) (n := n0) (wd := wd) fun i hi => by rw [concs_length, h2 i hi]
    refine ⟨h1, h2, by rw [hlen]; exact Nat.mul_le_mul_right wd h1, h3.imp id ?_⟩
    rintro ⟨b, cur, hr, hb, hs, hc⟩
    exact ⟨b, cur, hr, hb, hs, (key h2 h1 cur hs).1 hc⟩
  · rintro ⟨h1, h2, _, h3⟩
    refine ⟨h1, h2, h3.imp id ?_⟩
    rintro ⟨b, cur, hr, hb, hs, hc⟩
    exact ⟨b, cur, hr, hb, hs, (key h2 h1 cur hs).2 hc⟩
/-- where appended elements lie -/
def Src (w : World) (v : Value) (m : Nat) (news : List Value) : Prop :=
  (∃ a c, v = .slice (some a) m c ∧ ∀ j u, news[j]? = some u → w.cell? (a.add j) = some u) ∨ (∃ c, v = .slice none m c ∧ m = 0 ∧ news = [])
theorem row_owns {w : World} {r : Option Nat} {cap sz : Nat} {T : TypeId} {xs : List Value} {n0 : Nat} (h : RowL w r cap sz T xs) (hl : xs.length = n0 * sz) (hsz : 0 < sz) (hcap : cap ≤ 9223372036854775807) : w.ownsRow 0 T sz (.slice (r.map fun b => ⟨b, 0, none⟩) n0 cap) n0 xs := by
  refine ⟨hl, ?_⟩
  have hn : n0 ≤ cap := by have := h.1; rw [hl] at this; exact Nat.le_of_mul_le_mul_right this hsz
  rcases h.2 with ⟨rfl, hc⟩ | ⟨b, cur, rfl, hb, hs, ht⟩
  · left
    have : n0 = 0 := by omega
    exact ⟨by rw [this, hc]; rfl, this⟩
  · right
    exact ⟨b, cap, cur, rfl, Nat.zero_le _, hb, hn, by simpa [maxLen] using hcap, hs, by rw [← hl]; exact ht⟩
theorem owns_row {w : World} {sz : Nat} {T : TypeId} {xs : List Value} {n0 : Nat} {v : Value} (h : w.ownsRow 0 T sz v n0 xs) : ∃ r cap, v = .slice (r.map fun b => ⟨b, 0, none⟩) n0 cap ∧ RowL w r cap sz T xs ∧ n0 ≤ cap ∧ cap ≤ 9223372036854775807 := by
  obtain ⟨hl, h⟩ := h
  rcases h with ⟨rfl, rfl⟩ | ⟨g, cap, cur, rfl, _, hb, hn, hm, hs, ht⟩
  · exact ⟨none, 0, rfl, ⟨by rw [hl]; simp, .inl ⟨rfl, rfl⟩⟩, Nat.le_refl _, by omega⟩
  · exact ⟨some g, cap, rfl, ⟨by rw [hl]; exact Nat.mul_le_mul_right sz hn, .inr ⟨g, cur, rfl, hb, hs, by rw [hl]; exact ht⟩⟩, hn, by simpa [maxLen] using hm⟩
/-- APPEND, to a row of the call's own -/
theorem run_append_row {P : Program} {t T : TypeId} {tl te : TI} (hl : TIok P t tl) (hk : tl.kind = .sl T) (he : TIok P T te) (hz : te.zero.length = te.size) (hs : 0 < te.size) {w : World} {r : Option Nat} {cap n0 : Nat} {xs : List Value} (hrow : RowL w r cap te.size T xs) (hlen : xs.length = n0 * te.size) (hcap : cap ≤ 9223372036854775807)
    {v2 : Value} {m : Nat} {news : List Value} (hsrc : Src w v2 m news) (hnl : news.length = m * te.size) (hone : ∀ u ∈ news, u.oneCell' = true) (hbytes : (n0 + m) * te.bytes ≤ 140737488355328) (h63 : n0 + m ≤ 9223372036854775807) (ty : TypeId) :
    ∃ r' cap' w', (Builtin.append_ #[t, t] ty #[.slice (r.map fun b => ⟨b, 0, none⟩) n0 cap, v2]).run P w = .ok (.slice (r'.map fun b => ⟨b, 0, none⟩) (n0 + m) cap') w' ∧ RowL w' r' cap' te.size T (xs ++ news) ∧ n0 + m ≤ cap' ∧ cap' ≤ 9223372036854775807 ∧
      w.grownBy w' r ∧ (r' = r ∨ r' = some w.heap.size) := by
  obtain ⟨d, hd1, hd2⟩ := hl.und
  rw [hk] at hd2
  simp only at hd2
  subst hd2
  obtain ⟨i, z, hi, hi1, hi2, hi3, hi4, _⟩ := he.info
  have hown := row_owns hrow hlen hs hcap
  have hob : ∀ (r : Option Nat) (a b : Nat), (Value.slice (r.map fun b => ⟨b, 0, none⟩) a b).ownBlock = r := fun r a b => by cases r <;> rfl
  rcases hsrc with ⟨a, c, rfl, hc⟩ | ⟨c, rfl, rfl, rfl⟩
  · obtain ⟨v', w', h1, h2, h3, h4, h5⟩ := run_append_own_at (P := P) w 0 t ty T i z te.size te.bytes hd1 hi hi3 hi1 hi2 (by rw [← Array.length_toList, hi4, hz]) hs _ n0 xs hown a m c news hnl hc hone (by simpa [maxLen] using h63) hbytes (Nat.zero_le _)
    obtain ⟨r', cap', rfl, h6, h7, h8⟩ := owns_row h2
    rw [hob] at h3
    rw [hob, hob] at h5
    exact ⟨r', cap', w', h1, h6, h7, h8, h3, h5⟩
  · refine ⟨r, cap, w, ?_, by simpa using hrow, by have := hrow.1; rw [hlen] at this; simpa using Nat.le_of_mul_le_mul_right this hs, hcap, ⟨rfl, rfl, rfl, Nat.le_refl _, fun _ _ _ => rfl⟩, .inl rfl⟩
    have hn : n0 ≤ cap := by have := hrow.1; rw [hlen] at this; exact Nat.le_of_mul_le_mul_right this hs
    have e1 := hl.run_size w
    have hu := und_sl hl hk w
    have hse := he.run_size w
    cases r <;> simp [Builtin.append_, hu, hse, Builtin.lenOf, Builtin.firstCells, hn, storeCells]
end Go.Proofs.Yteabncomclgncaa
namespace Go.Proofs.Yteabncomclgncaa
set_option linter.unusedVariables false
set_option linter.unusedSimpArgs false
set_option linter.unusedSectionVars false
open Go.RowKit
section
variable {P : Program} {ops : Array Oper} {Q : Exit → Act → World → Prop} {D : Option DD} {E : Base} {n L : Nat} {τ : List (Nat × AV)} {h : List (Nat × AO)} {F : World → Prop} {rest : List Oper}
  {d : Nat} {op : Op} {ty : TypeId} {ps : String} {af : Array Edge} {gd : Option (Nat × Bool)} {tt : List (Nat × TI)}
/-- what is appended -/
def SrcA (E : Base) (n L : Nat) (τ : List (Nat × AV)) (h : List (Nat × AO)) (F : World → Prop) (v : AV) (m : Nat) (news : List AV) : Prop :=
  ∀ ρ a w, Gam E ρ n L τ h F a w → LowS ρ L news ∧ Src w (v.conc ρ) m (AV.concs ρ news)
def avB (p : List UInt8) : List AV := p.map fun b => .raw (byteV b)
theorem avB_concs (ρ : Env) (p : List UInt8) : AV.concs ρ (avB p) = p.map byteV := by simp [avB, concs_map, AV.conc, Function.comp_def]
theorem avB_low (ρ : Env) (L : Nat) (p : List UInt8) : LowS ρ L (avB p) := fun x hx => by
  obtain ⟨b, _, rfl⟩ := List.mem_map.1 hx
  exact AV.Low.raw _ _ _
theorem avB_length (p : List UInt8) : (avB p).length = p.length := by simp [avB]
/-- a list of bytes as a list that is only read -/
def bytesF (p : List UInt8) (i : Nat) : List AV := [.raw (byteV (p.getD i 0))]
theorem SrcA.nil (c : Nat) : SrcA E n L τ h F (.raw (.slice none 0 c)) 0 [] := fun ρ a w g => ⟨fun x hx => (by cases hx), .inr ⟨c, rfl, rfl, rfl⟩⟩
theorem SrcA.cells {l w0 off m c : Nat} {xs news : List AV} {T : TypeId} (hl : hk l h = some (.cells xs T)) (hn : (xs.drop (off * w0)).take (m * w0) = news) : SrcA E n L τ h F (.sl l w0 off m c) m news := fun ρ a w g => by
  obtain ⟨b, hr, hb⟩ := (g.hp _ _ hl).2.2
  subst hn
  refine ⟨fun x hx => g.lowCells hl x (List.mem_of_mem_drop (List.mem_of_mem_take hx)), .inl ⟨⟨b, off * w0, none⟩, c, by simp [AV.conc, hr], fun j u hj => ?_⟩⟩
  rw [concs_map, List.getElem?_map, List.getElem?_take] at hj
  split at hj
  · rw [List.getElem?_drop] at hj
    rw [addr_add0, cell_of_row w b _ _ T (0, 0) hb, List.getElem?_toArray, concs_map, List.getElem?_map]
    exact hj
  · cases hj
theorem SrcA.bytes {l off m c cap : Nat} {p : List UInt8} {T : TypeId} (hl : hk l h = some (.bytes p cap T)) (hn : off + m ≤ p.length) : SrcA E n L τ h F (.sl l 1 off m c) m (avB ((p.drop off).take m)) := fun ρ a w g => by
  have hh := (g.hp _ _ hl).2.2
  refine ⟨avB_low _ _ _, ?_⟩
  rw [avB_concs]
  rcases hh.2 with ⟨hr, hc⟩ | ⟨b, cur, hr, hb, hs, hc⟩
  · have := hh.1
    have h1 : m = 0 := by omega
    subst h1
    exact .inr ⟨c, by simp [AV.conc, hr], rfl, by simp⟩
  · refine .inl ⟨⟨b, off * 1, none⟩, c, by simp [AV.conc, hr], fun j u hj => ?_⟩
    rw [List.getElem?_map, List.getElem?_take] at hj
    split at hj
    · rw [List.getElem?_drop] at hj
      obtain ⟨x, hx, rfl⟩ := Option.map_eq_some_iff.1 hj
      obtain ⟨h1, h2⟩ := List.getElem?_eq_some_iff.1 hx
      rw [addr_add0, cell_of_row w b _ _ T (0, 0) hb, Nat.mul_one, hc _ h1, h2]
    · cases hj
theorem flat_low {ρ : Env} {L m : Nat} {f : Nat → List AV} (hf : ∀ i, i < m → LowS ρ L (f i)) : LowS ρ L (flat f m) := by
  induction m with
  | zero => intro x hx; cases hx
  | succ m ih =>
    intro x hx
    simp only [flat, List.mem_append] at hx
    rcases hx with hx | hx
    · exact ih (fun i hi => hf i (by omega)) x hx
    · exact hf m (by omega) x hx
theorem flat_concs (ρ : Env) (f : Nat → List AV) : ∀ m, AV.concs ρ (flat f m) = flat (fun i => AV.concs ρ (f i)) m
  | 0 => rfl
  | m + 1 => by simp only [flat, concs_append, flat_concs ρ f m]
theorem flat_some {α : Type} {f : Nat → List α} {wd m : Nat} (hw : 0 < wd) (hf : ∀ i, i < m → (f i).length = wd) {j : Nat} {u : α} (hj : (flat f m)[j]? = some u) : ∃ i c, i < m ∧ c < wd ∧ j = i * wd + c ∧ (f i)[c]? = some u := by
  have hlt := (List.getElem?_eq_some_iff.1 hj).1
  rw [flat_length hf] at hlt
  have h1 : j / wd < m := (Nat.div_lt_iff_lt_mul hw).2 hlt
  have h2 : j % wd < wd := Nat.mod_lt _ hw
  have e : j / wd * wd + j % wd = j := by rw [Nat.mul_comm]; exact Nat.div_add_mod j wd
  have := flat_get hf (j / wd) (j % wd) h1 h2
  rw [e, hj] at this
  exact ⟨_, _, h1, h2, e.symm, this.symm⟩
theorem SrcA.tab {l wd off m c n0 cap : Nat} {f : Nat → List AV} {T : TypeId} (hw : 0 < wd) (hl : hk l h = some (.tab wd n0 cap f T)) (hn : off + m ≤ n0) : SrcA E n L τ h F (.sl l wd off m c) m (flat (fun i => f (off + i)) m) := fun ρ a w g => by
  have hh := (g.hp _ _ hl).2.2
  refine ⟨flat_low fun i hi => tab_low g hl (by omega), ?_⟩
  rcases hh.2.2 with ⟨hr, hc⟩ | ⟨b, cur, hr, hb, hs, hc⟩
  · have := hh.1
    have h1 : m = 0 := by omega
    subst h1
    exact .inr ⟨c, by simp [AV.conc, hr], rfl, rfl⟩
  · refine .inl ⟨⟨b, off * wd, none⟩, c, by simp [AV.conc, hr], fun j u hj => ?_⟩
    rw [flat_concs] at hj
    obtain ⟨i, k, h1, h2, rfl, h3⟩ := flat_some hw (fun i hi => by rw [concs_length]; exact hh.2.1 (off + i) (by omega)) hj
    rw [concs_map, List.getElem?_map] at h3
    obtain ⟨x, hx, rfl⟩ := Option.map_eq_some_iff.1 h3
    rw [addr_add0, cell_of_row w b _ _ T (0, 0) hb, ← Nat.add_assoc, ← Nat.add_mul]
    exact hc _ _ _ (by omega) hx
theorem SrcA.ro {l wd o2 off m c n0 : Nat} {f : Nat → List AV} (hw : 0 < wd) (hf : ∀ i, i < n0 → (f i).length = wd) (hl : hk l h = some (.ro wd o2 n0 f)) (hn : off + m ≤ n0) : SrcA E n L τ h F (.sl l wd (o2 + off) m c) m (flat (fun i => f (off + i)) m) := fun ρ a w g => by
  refine ⟨flat_low fun i hi => ro_low g hl (by omega), ?_⟩
  rcases (g.hp _ _ hl).2.2 with ⟨hr, hc⟩ | ⟨b, cur, T, fr, hr, hb, hc⟩
  · have h1 : m = 0 := by omega
    subst h1
    exact .inr ⟨c, by simp [AV.conc, hr], rfl, rfl⟩
  · refine .inl ⟨⟨b, (o2 + off) * wd, none⟩, c, by simp [AV.conc, hr], fun j u hj => ?_⟩
    rw [flat_concs] at hj
    obtain ⟨i, k, h1, h2, rfl, h3⟩ := flat_some hw (fun i hi => by rw [concs_length]; exact hf (off + i) (by omega)) hj
    rw [concs_map, List.getElem?_map] at h3
    obtain ⟨x, hx, rfl⟩ := Option.map_eq_some_iff.1 h3
    rw [addr_add0, cell_of_row w b _ _ T fr hb, ← Nat.add_assoc, ← Nat.add_mul, Nat.add_assoc]
    exact hc _ _ _ (by omega) hx
/-- what is appended to -/
def DstA (E : Base) (n L : Nat) (τ : List (Nat × AV)) (h : List (Nat × AO)) (F : World → Prop) (v : AV) (T : TypeId) (wd n0 cap : Nat) (xs : List AV) (gl : List Nat) : Prop :=
  xs.length = n0 * wd ∧ ∀ ρ a w, Gam E ρ n L τ h F a w → ∃ r : Option Nat, v.conc ρ = .slice (r.map fun b => ⟨b, 0, none⟩) n0 cap ∧ RowL w r cap wd T (AV.concs ρ xs) ∧ LowS ρ L xs ∧ (r = none ∨ ∃ l ∈ gl, wrA l h ∧ ρ l = r)
theorem DstA.nil (T : TypeId) (wd : Nat) : DstA E n L τ h F (.raw (.slice none 0 0)) T wd 0 0 [] [] :=
  ⟨by simp, fun ρ a w g => ⟨none, rfl, ⟨by simp [AV.concs], .inl ⟨rfl, rfl⟩⟩, fun x hx => (by cases hx), .inl rfl⟩⟩
theorem DstA.bytes {l n0 cap : Nat} {p : List UInt8} {T : TypeId} (hl : hk l h = some (.bytes p cap T)) (hn : n0 = p.length) : DstA E n L τ h F (.sl l 1 0 n0 cap) T 1 n0 cap (avB p) [l] :=
  ⟨by rw [avB_length, hn, Nat.mul_one], fun ρ a w g => ⟨ρ l, by simp [AV.conc], by rw [avB_concs]; exact bytes_row.1 (g.hp _ _ hl).2.2, avB_low _ _ _, .inr ⟨l, by simp, ⟨_, hl, rfl⟩, rfl⟩⟩⟩
theorem DstA.tab {l wd n0 cap : Nat} {f : Nat → List AV} {T : TypeId} (hw : 0 < wd) (hl : hk l h = some (.tab wd n0 cap f T)) (hf : ∀ i, i < n0 → (f i).length = wd) : DstA E n L τ h F (.sl l wd 0 n0 cap) T wd n0 cap (flat f n0) [l] :=
  ⟨flat_length hf, fun ρ a w g => ⟨ρ l, by simp [AV.conc], by rw [flat_concs]; exact ((tab_row hw).1 (g.hp _ _ hl).2.2).2.2, flat_low fun i hi => tab_low g hl hi, .inr ⟨l, by simp, ⟨_, hl, rfl⟩, rfl⟩⟩⟩
def goneK (gl : List Nat) : List (Nat × AO) := gl.map fun l => (l, .gone)
theorem hk_goneK (gl : List Nat) (h : List (Nat × AO)) (l : Nat) : hk l (goneK gl ++ h) = if l ∈ gl then none else hk l h := by
  induction gl with
  | nil => simp [goneK]
  | cons s gl ih =>
    simp only [goneK, List.map_cons, List.cons_append, hk_cons, List.mem_cons]
    by_cases e : s = l
    · simp [e]
    · have e' : ¬ l = s := fun x => e x.symm
      simp only [e, if_false, e', false_or]
      exact ih
/-- what a row's cells are, told as an object -/
def AsRow (ao : Nat → AO) (T : TypeId) (wd : Nat) (xs : List AV) : Prop := (∀ c, (ao c).isRo = false ∧ ao c ≠ .gone) ∧ ∀ c ρ L, LowS ρ L xs → (ao c).Low ρ L ∧ ∀ r w, RowL w r c wd T (AV.concs ρ xs) → (ao c).holds ρ r w
theorem AsRow.bytes (T : TypeId) (p : List UInt8) : AsRow (fun c => .bytes p c T) T 1 (avB p) :=
  ⟨fun c => ⟨rfl, by simp⟩, fun c ρ L hl => ⟨AO.Low.bytes _ _ _ _ _, fun r w hr => bytes_row.2 (by rw [avB_concs] at hr; exact hr)⟩⟩
theorem AsRow.tab (T : TypeId) {wd n0 : Nat} {f : Nat → List AV} (hw : 0 < wd) (hf : ∀ i, i < n0 → (f i).length = wd) : AsRow (fun c => .tab wd n0 c f T) T wd (flat f n0) :=
  ⟨fun c => ⟨rfl, by simp⟩, fun c ρ L hl => ⟨AO.Low.tab T fun i hi x hx => hl x (by
    obtain ⟨k, hk⟩ := List.getElem?_of_mem hx
    have hk2 : k < wd := by rw [← hf i hi]; exact (List.getElem?_eq_some_iff.1 hk).1
    have := flat_get hf i k hi hk2
    exact List.mem_of_getElem? (this.trans hk)), fun r w hr => by
      have hle := hr.1
      rw [concs_length, flat_length hf] at hle
      exact (tab_row hw).2 ⟨Nat.le_of_mul_le_mul_right hle hw, hf, by rw [flat_concs] at hr; exact hr⟩⟩⟩
/-- append: the old list is not used any more -/
theorem R.app (htt : TTok P tt) {t T : TypeId} {x y : Operand} {v1 v2 : AV} {wd bt n0 cap m : Nat} {xs news : List AV} {gl : List Nat} {tl te : TI} (ao : Nat → AO) (hx : evA τ x = some v1) (hy : evA τ y = some v2) (hd : DstA E n L τ h F v1 T wd n0 cap xs gl) (hs : SrcA E n L τ h F v2 m news) (hao : AsRow ao T wd (xs ++ news))
    (ht : lk t tt = some tl) (hkd : tl.kind = .sl T) (hte : lk T tt = some te) (hsz : te.size = wd) (hb2 : te.bytes = bt) (hz : Nat.beq te.zero.length te.size = true) (hw : 0 < wd) (hone : news.all AV.oneB = true) (hnl : news.length = m * wd)
    (hg : wantA ops ⟨some d, .call { callee := .builtin .append, args := #[x, y], argTypes := #[t, t] }, ty, ps, af, gd⟩ τ = some true) (hb : (Nat.ble (d + 1) n && chainB h D gl) = true)
    (hcap : cap ≤ 9223372036854775807) (hby : (n0 + m) * bt ≤ 140737488355328) (h63 : n0 + m ≤ 9223372036854775807)
    (k : ∀ c, n0 + m ≤ c → c ≤ 9223372036854775807 → R P ops Q (actD h D gl) E n (L + 1) ((d, .sl L wd 0 (n0 + m) c) :: τ) ((L, ao c) :: (goneK gl ++ h)) F rest) :
    R P ops Q D E n L τ h F (⟨some d, .call { callee := .builtin .append, args := #[x, y], argTypes := #[t, t] }, ty, ps, af, gd⟩ :: rest) := by
  simp only [Bool.and_eq_true] at hb
  refine ⟨RL.acts (σ := Nat) (fun c => n0 + m ≤ c ∧ c ≤ 9223372036854775807) (fun c => .sl L wd 0 (n0 + m) c) (fun _ => L + 1) (fun c => (L, ao c) :: (goneK gl ++ h)) (fun _ => F) gl hg hb.1 hb.2 (fun _ _ => Nat.le_succ L) (fun ρ a w g => ?_) (fun c hc => (k c hc.1 hc.2).out)⟩
  obtain ⟨hxl, hd⟩ := hd
  obtain ⟨r, h1, h2, h3, h4⟩ := hd ρ a w g
  obtain ⟨h5, h6⟩ := hs ρ a w g
  subst hsz
  have hoc : ∀ u ∈ AV.concs ρ news, u.oneCell' = true := fun u hu => by
    rw [concs_map] at hu
    obtain ⟨y', hy', rfl⟩ := List.mem_map.1 hu
    exact oneB_conc (List.all_eq_true.1 hone y' hy') ρ
  obtain ⟨r', c, w', e1, e2, e3, e4, e5, e6⟩ := run_append_row (htt _ _ ht) hkd (htt _ _ hte) (Nat.eq_of_beq_eq_true hz) hw h2 (by rw [concs_length]; exact hxl) hcap h6 (by rw [concs_length]; exact hnl) hoc (by rw [hb2]; exact hby) h63 ty
  have hev1 : a.eval x = .slice (r.map fun b => ⟨b, 0, none⟩) n0 cap := by rw [(g.eval x _ hx).2, h1]
  have hev2 : a.eval y = v2.conc ρ := (g.eval y _ hy).2
  unfold goes execOp
  simp only [resolve, invoke, builtin, Sem.run_bind, Sem.run_pure, Result.andThen_ok, List.map_toArray, List.map_cons, List.map_nil, hev1, hev2, e1]
  rw [← concs_append] at e2
  have hrlt : ∀ b, r = some b → b < w.heap.size := fun b hb => by
    rcases h2.2 with ⟨h7, _⟩ | ⟨b', cur, h7, h8, _⟩
    · rw [h7] at hb; cases hb
    · rw [h7] at hb; cases hb; exact (Array.getElem?_eq_some_iff.1 h8).1
  have hs' : ∀ l, l < L → updE ρ L r' l = ρ l := fun l hl => updE_ne ρ _ (by omega)
  have hlowx : LowS ρ L (xs ++ news) := fun z hz => by
    rcases List.mem_append.1 hz with hz | hz
    · exact h3 z hz
    · exact h5 z hz
  have hL1 : ∀ l, hk l h ≠ none → l < L := fun l hl => by
    cases ho : hk l h with
    | none => exact absurd ho hl
    | some o => exact (g.hp l o ho).1
  have hr' : ∀ b, r' = some b → w.heap.size ≤ b ∨ ∃ l0, l0 ∈ gl ∧ wrA l0 h ∧ ρ l0 = some b := fun b hb => by
    rcases e6 with e6 | e6
    · rcases h4 with h4 | ⟨l0, h7, h8, h9⟩
      · rw [e6, h4] at hb; cases hb
      · exact .inr ⟨l0, h7, h8, by rw [h9, ← e6, hb]⟩
    · rw [e6] at hb; cases hb; exact .inl (Nat.le_refl _)
  have hkL : ∀ l, hk l ((L, ao c) :: (goneK gl ++ h)) = if L = l then some (ao c) else if l ∈ gl then none else hk l h := fun l => by
    rw [hk_cons, hk_goneK]
    split
    · have := (hao.1 c).2
      cases hx : ao c <;> simp_all
    · rfl
  have hrow : ∀ l b, hk l h ≠ none → l ∉ gl → ρ l = some b → r ≠ some b := fun l b hl hn hb e => by
    rcases h4 with h4 | ⟨l0, h7, h8, h9⟩
    · rw [h4] at e; cases e
    · exact hn (g.dis l0 l b h8 hl (h9.trans e) hb ▸ h7)
  have hsame : ∀ l b, hk l h ≠ none → l ∉ gl → ρ l = some b → w'.heap[b]? = w.heap[b]? := fun l b hl hn hb => e5.block b (g.lt hl hb) fun e => hrow l b hl hn hb e.symm
  have hne : ∀ l, L ≠ l → hk l ((L, ao c) :: (goneK gl ++ h)) ≠ none → hk l h ≠ none ∧ l ∉ gl := fun l e hl => by
    rw [hkL, if_neg e] at hl
    split at hl
    · exact absurd rfl hl
    · rename_i h7; exact ⟨hl, h7⟩
  have hnw : ∀ l, L ≠ l → wrA l ((L, ao c) :: (goneK gl ++ h)) → wrA l h := fun l e hl => by
    obtain ⟨o1, h7, h8⟩ := hl
    rw [hkL, if_neg e] at h7
    split at h7
    · cases h7
    · exact ⟨o1, h7, h8⟩
  have hclash : ∀ l b, L ≠ l → hk l ((L, ao c) :: (goneK gl ++ h)) ≠ none → ρ l = some b → r' = some b → False := fun l b e hl hb hb' => by
    obtain ⟨h7, h8⟩ := hne l e hl
    rcases hr' b hb' with h9 | ⟨l0, h9, h10, h11⟩
    · have := g.lt h7 hb; omega
    · exact h8 (g.dis l0 l b h10 h7 h11 hb ▸ h9)
  refine ⟨c, updE ρ L r', ⟨e3, e4⟩, by simp [AV.conc, updE_same], sl_low (updE ρ L r') L _ 0 (n0 + m) c, hs', ?_, fun l b hl hb hn => (hsame l b hl hn hb).symm⟩
  refine g.turn hs' (Nat.le_succ L) ⟨e5.os, e5.tape, e5.output, e5.size, fun b hb hd => e5.block b hb fun e => ?_⟩ (fun l o ho => ?_) (fun l l' b hl hl' hb hb' => ?_) (fun l b hl hb => ?_) (fun l b h7 h8 hb => ?_)
  · rcases h4 with h4 | ⟨l0, h7, h8, h9⟩
    · rw [h4] at e; cases e
    · exact hd l0 h8 (h9.trans e.symm)
  · by_cases e : L = l
    · subst e
      rw [hkL, if_pos rfl] at ho
      cases ho
      have hlx : LowS (updE ρ L r') (L + 1) (xs ++ news) := fun z hz => ((hlowx z hz).ext hs').mono (Nat.le_succ L)
      obtain ⟨h7, h8⟩ := hao.2 c (updE ρ L r') (L + 1) hlx
      refine ⟨by omega, h7, h8 _ _ ?_⟩
      rw [updE_same, concs_low hlowx _ hs']
      exact e2
    · have h7 := hne l e (by rw [ho]; simp)
      rw [hkL, if_neg e, if_neg h7.2] at ho
      have hh := g.hp l o ho
      refine ⟨by omega, (hh.2.1.ext hs').mono (Nat.le_succ L), ?_⟩
      rw [hs' l hh.1]
      exact holds_same ((hh.2.1 _ hs' _ _).1 hh.2.2) fun b hb => hsame l b h7.1 h7.2 hb
  · by_cases e1 : L = l <;> by_cases e2 : L = l'
    · omega
    · exfalso
      subst e1
      rw [updE_same] at hb
      rw [updE_ne ρ _ (fun e => e2 e.symm)] at hb'
      exact hclash l' b e2 hl' hb' hb
    · exfalso
      subst e2
      rw [updE_same] at hb'
      rw [updE_ne ρ _ (fun e => e1 e.symm)] at hb
      exact hclash l b e1 hl.live hb hb'
    · rw [updE_ne ρ _ (fun e => e1 e.symm)] at hb
      rw [updE_ne ρ _ (fun e => e2 e.symm)] at hb'
      exact g.dis l l' b (hnw l e1 hl) (hne l' e2 hl').1 hb hb'
  · by_cases e1 : L = l
    · subst e1
      rw [updE_same] at hb
      exact (hr' b hb).imp id fun ⟨l0, h7, h8, h9⟩ => ⟨l0, h8, h9⟩
    · rw [updE_ne ρ _ (fun e => e1 e.symm)] at hb
      exact .inr ⟨l, hnw l e1 hl, hb⟩
  · obtain rfl : l = L := by omega
    rw [updE_same] at hb
    rcases e2.2 with ⟨h9, _⟩ | ⟨b', cur, h9, h10, _⟩
    · rw [h9] at hb; cases hb
    · rw [h9] at hb; cases hb; exact (Array.getElem?_eq_some_iff.1 h10).1
end
end Go.Proofs.Yteabncomclgncaa
namespace Go.Proofs.Yteabncomclgncaa
set_option linter.unusedVariables false
set_option linter.unusedSimpArgs false
set_option linter.unusedSectionVars false
open Go.RowKit
section
variable {P : Program} {ops : Array Oper} {Q : Exit → Act → World → Prop} {D : Option DD} {E : Base} {n L : Nat} {τ : List (Nat × AV)} {h : List (Nat × AO)} {F : World → Prop} {rest : List Oper}
  {d : Nat} {op : Op} {ty : TypeId} {ps : String} {af : Array Edge} {gd : Option (Nat × Bool)} {tt : List (Nat × TI)}
/-- a label without a block -/
theorem Gam.mkNone {ρ : Env} {a : Act} {w : World} (g : Gam E ρ n L τ h F a w) (o : AO) (ho : ∀ ρ' W, o.Low ρ' (L + 1) ∧ o.holds ρ' none W) (τ' : List (Nat × AV)) (h' : List (Nat × AO)) (hro : o.isRo = false)
    (hτ : ∀ t v', lk t τ' = some v' → v'.Low (updE ρ L none) (L + 1) ∧ ∃ v, lk t τ = some v ∧ v'.conc (updE ρ L none) = v.conc ρ)
    (hh : ∀ l o', hk l h' = some o' → ∃ o0, hk l h = some o0 ∧ o0.isRo = o'.isRo ∧ o'.Low (updE ρ L none) (L + 1) ∧ ∀ r W, o0.holds ρ r W → o'.holds (updE ρ L none) r W) : Gam E (updE ρ L none) n (L + 1) τ' ((L, o) :: h') F a w := by
  have hs : ∀ l, l < L → updE ρ L Option.none l = ρ l := fun l hl => updE_ne ρ _ (by omega)
  have hlive : ∀ l, hk l h' ≠ Option.none → hk l h ≠ Option.none ∧ l < L := fun l hl => by
    cases hx : hk l h' with
    | none => exact absurd hx hl
    | some o' =>
      obtain ⟨o0, h1, _⟩ := hh l o' hx
      exact ⟨by rw [h1]; simp, (g.hp l o0 h1).1⟩
  have hw : ∀ l, L ≠ l → wrA l ((L, o) :: h') → wrA l h := fun l e hl => by
    obtain ⟨o1, h1, h2⟩ := hl
    rw [hk_cons, if_neg e] at h1
    obtain ⟨o0, h3, h4, _⟩ := hh l o1 h1
    exact ⟨o0, h3, h4.trans h2⟩
  refine ⟨g.df, g.sz, fun t v hv => ?_, fun l o' hl => ?_, fun l l' b hl hl' hb hb' => ?_, fun w' hw' => ?_, fun l hl => ?_, Nat.le_trans g.le (Nat.le_succ L), fun l b hl hb => ?_⟩
  · obtain ⟨h1, v0, h2, h3⟩ := hτ t v hv
    exact ⟨h1, by rw [h3]; exact (g.tm t v0 h2).2⟩
  · rw [hk_cons] at hl
    split at hl
    · rename_i e
      subst e
      rw [updE_same]
      have e2 : o' = o := by cases o <;> simp at hl <;> exact hl.symm
      subst e2
      exact ⟨by omega, (ho _ w).1, (ho _ w).2⟩
    · obtain ⟨o0, h1, h2, h3, h4⟩ := hh l o' hl
      have := g.hp l o0 h1
      refine ⟨by omega, h3, ?_⟩
      rw [hs l this.1]
      exact h4 _ _ this.2.2
  · by_cases e1 : L = l
    · subst e1; rw [updE_same] at hb; cases hb
    · by_cases e2 : L = l'
      · subst e2; rw [updE_same] at hb'; cases hb'
      · rw [updE_ne ρ _ (fun e => e1 e.symm)] at hb
        rw [updE_ne ρ _ (fun e => e2 e.symm)] at hb'
        rw [hk_cons, if_neg e2] at hl'
        exact g.dis l l' b (hw l e1 hl) (hlive l' hl').1 hb hb'
  · refine g.fr w' (hw'.mono fun b _ hd l hl hb => ?_)
    by_cases e1 : L = l
    · subst e1; rw [updE_same] at hb; cases hb
    · rw [updE_ne ρ _ (fun e => e1 e.symm)] at hb
      exact hd l (hw l e1 hl) hb
  · rw [hs l (Nat.lt_of_lt_of_le hl g.le), g.ex l hl]
  · rcases Nat.lt_or_ge l L with h1 | h1
    · exact g.al l b h1 ((hs l h1).symm.trans hb)
    · obtain rfl : l = L := by omega
      rw [updE_same] at hb; cases hb
theorem none_tab (L : Nat) (T : TypeId) (wd : Nat) (f : Nat → List AV) (ρ : Env) (W : World) : (AO.tab wd 0 0 f T).Low ρ (L + 1) ∧ (AO.tab wd 0 0 f T).holds ρ none W := ⟨AO.Low.tab T (fun i hi => by omega), by simp, fun i hi => by omega, .inl ⟨rfl, rfl⟩⟩
theorem low_up {ρ : Env} {r : Option Nat} {v : AV} (hv : v.Low ρ L) : v.Low (updE ρ L r) (L + 1) ∧ v.conc (updE ρ L r) = v.conc ρ := by
  have hs : ∀ l, l < L → updE ρ L r l = ρ l := fun l hl => updE_ne ρ _ (by omega)
  exact ⟨(hv.ext hs).mono (Nat.le_succ L), hv _ hs⟩
/-- a slot that holds none, or such a thing: it holds an empty list -/
theorem Gam.noneT {ρ : Env} {a : Act} {w : World} (g : Gam E ρ n L τ h F a w) (o : AO) (ho : ∀ ρ' W, o.Low ρ' (L + 1) ∧ o.holds ρ' none W) (hro : o.isRo = false) (t : Nat) (v v' : AV) (hv : lk t τ = some v) (hb : v'.bd (L + 1) = true) (hc : ∀ ρ : Env, ρ L = Option.none → v'.conc ρ = v.conc ρ) :
    Gam E (updE ρ L none) n (L + 1) ((t, v') :: τ) ((L, o) :: h) F a w :=
  g.mkNone o ho _ _ hro (fun s u hu => by
    rw [lk_cons] at hu
    split at hu
    · rename_i e
      subst e
      cases hu
      exact ⟨bdLow hb _, v, hv, by rw [hc _ (updE_same _ _ _), (low_up (g.tm t v hv).1).2]⟩
    · exact ⟨(low_up (g.tm s u hu).1).1, u, hu, (low_up (g.tm s u hu).1).2⟩) (fun l o' hl => by
    have := g.hp l o' hl
    have hs : ∀ k, k < L → updE ρ L Option.none k = ρ k := fun l hl => updE_ne ρ _ (by omega)
    exact ⟨o', hl, rfl, (this.2.1.ext hs).mono (Nat.le_succ L), fun r W hr => (this.2.1 _ hs _ _).1 hr⟩)
/-- the same of a cell -/
theorem Gam.noneH {ρ : Env} {a : Act} {w : World} (g : Gam E ρ n L τ h F a w) (o : AO) (ho : ∀ ρ' W, o.Low ρ' (L + 1) ∧ o.holds ρ' none W) (hro : o.isRo = false) (l0 : Nat) (xs xs' : List AV) (T : TypeId) (hv : hk l0 h = some (.cells xs T)) (hb : AV.bds (L + 1) xs' = true) (hc : ∀ ρ : Env, ρ L = Option.none → AV.concs ρ xs' = AV.concs ρ xs) :
    Gam E (updE ρ L none) n (L + 1) τ ((L, o) :: (l0, .cells xs' T) :: h) F a w :=
  g.mkNone o ho _ _ hro (fun s u hu => ⟨(low_up (g.tm s u hu).1).1, u, hu, (low_up (g.tm s u hu).1).2⟩) (fun l o' hl => by
    have hs : ∀ k, k < L → updE ρ L Option.none k = ρ k := fun l hl => updE_ne ρ _ (by omega)
    rw [hk_cons] at hl
    split at hl
    · rename_i e
      subst e
      cases hl
      have hlow := g.lowCells hv
      refine ⟨_, hv, rfl, AO.Low.cells T fun x hx => bdLow (bds_all hb x hx) _, fun r W hr => ?_⟩
      simp only [AO.holds] at hr ⊢
      rw [hc _ (updE_same _ _ _), concs_low hlow _ hs]
      exact hr
    · have := g.hp l o' hl
      exact ⟨o', hl, rfl, (this.2.1.ext hs).mono (Nat.le_succ L), fun r W hr => (this.2.1 _ hs _ _).1 hr⟩)
theorem C.noneT {c : Code} (t : Nat) (v' : AV) (o : AO) (ho : ∀ ρ' W, o.Low ρ' (L + 1) ∧ o.holds ρ' none W) (hro : o.isRo = false) {v : AV} (hv : lk t τ = some v) (hb : v'.bd (L + 1) = true) (hc : ∀ ρ : Env, ρ L = Option.none → v'.conc ρ = v.conc ρ)
    (k : C P c Q E n (L + 1) ((t, v') :: τ) ((L, o) :: h) F) : C P c Q E n L τ h F := ⟨fun ρ a w g => k.out _ a w (g.noneT o ho hro t v v' hv hb hc)⟩
theorem C.noneH {c : Code} (l0 : Nat) (xs' : List AV) (o : AO) (ho : ∀ ρ' W, o.Low ρ' (L + 1) ∧ o.holds ρ' none W) (hro : o.isRo = false) {xs : List AV} {T : TypeId} (hv : hk l0 h = some (.cells xs T)) (hb : AV.bds (L + 1) xs' = true) (hc : ∀ ρ : Env, ρ L = Option.none → AV.concs ρ xs' = AV.concs ρ xs)
    (k : C P c Q E n (L + 1) τ ((L, o) :: (l0, .cells xs' T) :: h) F) : C P c Q E n L τ h F := ⟨fun ρ a w g => k.out _ a w (g.noneH o ho hro l0 xs xs' T hv hb hc)⟩
theorem X.noneT {e : Exit} (t : Nat) (v' : AV) (o : AO) (ho : ∀ ρ' W, o.Low ρ' (L + 1) ∧ o.holds ρ' none W) (hro : o.isRo = false) {v : AV} (hv : lk t τ = some v) (hb : v'.bd (L + 1) = true) (hc : ∀ ρ : Env, ρ L = Option.none → v'.conc ρ = v.conc ρ)
    (k : X Q e E n (L + 1) ((t, v') :: τ) ((L, o) :: h) F) : X Q e E n L τ h F := ⟨fun ρ a w g => k.out _ a w (g.noneT o ho hro t v v' hv hb hc)⟩
theorem X.noneH {e : Exit} (l0 : Nat) (xs' : List AV) (o : AO) (ho : ∀ ρ' W, o.Low ρ' (L + 1) ∧ o.holds ρ' none W) (hro : o.isRo = false) {xs : List AV} {T : TypeId} (hv : hk l0 h = some (.cells xs T)) (hb : AV.bds (L + 1) xs' = true) (hc : ∀ ρ : Env, ρ L = Option.none → AV.concs ρ xs' = AV.concs ρ xs)
    (k : X Q e E n (L + 1) τ ((L, o) :: (l0, .cells xs' T) :: h) F) : X Q e E n L τ h F := ⟨fun ρ a w g => k.out _ a w (g.noneH o ho hro l0 xs xs' T hv hb hc)⟩
/-- what may be written is new, or came in to be written -/
theorem Gam.fresh {h0 : List AO} {ρ0 : Env} {w0 : World} {ρ : Env} {a : Act} {w : World} (g : Gam E ρ n L τ h (fun w' => Ag (fun b => ¬ Wr0 h0 ρ0 b) w0 w') a w) {l b : Nat} (hl : wrA l h) (hb : ρ l = some b) : w0.heap.size ≤ b ∨ Wr0 h0 ρ0 b := by
  rcases Nat.lt_or_ge b w0.heap.size with h1 | h1
  · right
    refine Classical.byContradiction fun hn => ?_
    have hlt := g.lt hl.live hb
    have key : ∀ ob : Obj, w0.heap[b]? = some ob := fun ob => by
      have h2 : Ag (fun b => ∀ l, wrA l h → ρ l ≠ some b) w { w with heap := w.heap.set! b ob } := ⟨rfl, rfl, rfl, by simp, fun b' hb' hd => by
        have hne : b ≠ b' := fun e => hd l hl (e ▸ hb)
        simp [Array.getElem?_setIfInBounds, hne]⟩
      have h3 := (g.fr _ h2).block b h1 hn
      rw [← h3]
      simp [hlt]
    have h4 := key (.cells #[] 0 (0, 0))
    have h5 := key (.cells #[] 0 (0, 1))
    rw [h4] at h5
    simp at h5
  · exact .inl h1
def wrB (l : Nat) (h : List (Nat × AO)) : Bool := match hk l h with
  | some o => !o.isRo
  | none => false
theorem wrB_ok {l : Nat} {h : List (Nat × AO)} (hw : wrB l h = true) : wrA l h := by
  unfold wrB at hw
  split at hw
  · rename_i o ho; exact ⟨o, ho, by simpa using hw⟩
  · cases hw
def newB (N : Nat) (rl : List (Nat × Nat)) (h : List (Nat × AO)) : List (Nat × AO) → Bool
  | [] => true
  | (l, _) :: r => (Nat.ble (l + 1) N || wrB (rnF rl l) h) && newB N rl h r
def oldB (h0 : List AO) : List (Nat × AO) → Bool
  | [] => true
  | (l, o) :: r => (Nat.ble h0.length l || o.isRo || (match h0[l]? with
    | some o0 => !o0.isRo
    | none => false)) && oldB h0 r
theorem newB_mem {N : Nat} {rl : List (Nat × Nat)} {h : List (Nat × AO)} : ∀ {p : List (Nat × AO)}, newB N rl h p = true → ∀ l, hk l p ≠ none → N ≤ l → wrA (rnF rl l) h
  | [], _, l, hl, _ => by simp [hk, lk] at hl
  | (s, o) :: r, hp, l, hl, hN => by
    simp only [newB, Bool.and_eq_true, Bool.or_eq_true, Nat.ble_eq] at hp
    rw [hk_cons] at hl
    split at hl
    · rename_i e
      subst e
      rcases hp.1 with h1 | h1
      · omega
      · exact wrB_ok h1
    · exact newB_mem hp.2 l hl hN
theorem oldB_mem {h0 : List AO} : ∀ {p : List (Nat × AO)}, oldB h0 p = true → ∀ i o, i < h0.length → hk i p = some o → o.isRo = false → ∃ o0, h0[i]? = some o0 ∧ o0.isRo = false
  | [], _, i, o, _, hl, _ => by simp [hk, lk] at hl
  | (s, u) :: r, hp, i, o, hi, hl, hro => by
    simp only [oldB, Bool.and_eq_true, Bool.or_eq_true, Nat.ble_eq] at hp
    rw [hk_cons] at hl
    split at hl
    · rename_i e
      subst e
      have e2 : o = u := by cases u <;> simp at hl <;> exact hl.symm
      subst e2
      rcases hp.1 with (h1 | h1) | h1
      · omega
      · rw [hro] at h1; cases h1
      · split at h1
        · rename_i o0 ho; exact ⟨o0, ho, by simpa using h1⟩
        · cases h1
    · exact oldB_mem hp.2 i o hi hl hro
/-- the end of a call whose contract is at hand -/
theorem X.fin {tt : List (Nat × TI)} (htt : TTok P tt) {fn : Func} {σ : Type} {h0 : List AO} {m : Nat} {ρ0 : Env} {w0 : World} {G : σ → Prop} {val : σ → AV} {post : σ → List (Nat × AO)} {vs : List AV} (s : σ) (rl : List (Nat × Nat)) (hG : G s) (hr : resA tt h τ fn.results.toList = some vs)
    (hv : resV vs = (val s).ren (rnF rl)) (hb : ((val s).bd m && rnB h0.length m L rl && newB h0.length rl h (post s) && oldB h0 (post s) && nodupB (((post s).map (·.1)).map (rnF rl))) = true) (hh : HasH (rnF rl) m h (post s)) (e : Exit) (he : e = .ret ∨ e = .normal) :
    X (bodyPost P fn (Outc h0 m ρ0 w0 G val post)) e ⟨h0.length, ρ0, []⟩ n L τ h (fun w' => Ag (fun b => ¬ Wr0 h0 ρ0 b) w0 w') := by
  have key : ∀ ρ a w, Gam ⟨h0.length, ρ0, []⟩ ρ n L τ h (fun w' => Ag (fun b => ¬ Wr0 h0 ρ0 b) w0 w') a w → Outc h0 m ρ0 w0 G val post (.returned ((resV vs).conc ρ)) w := fun ρ a w g => by
    simp only [Bool.and_eq_true] at hb
    obtain ⟨⟨⟨⟨h1, h2⟩, h3⟩, h4⟩, h5⟩ := hb
    obtain ⟨h6, h7, h8⟩ := rn_ok h2
    exact g.outc (fun w' h => h) s (rnF rl) hG hv h1 h8 h6 h7 hh h5 (fun l b hl hlive hb => g.fresh (newB_mem h3 l hlive hl) hb) (oldB_mem h4)
  rcases he with rfl | rfl
  · exact X.ret htt hr key
  · exact X.end_ htt hr key
/-- a contract is proved so -/
theorem Spec.of {f : FuncId} {avs : List AV} {h0 : List AO} {m : Nat} {σ : Type} {G : σ → Prop} {val : σ → AV} {post : σ → List (Nat × AO)} {fn : Func} {c : Code} (hf : P.funcs[f]? = some fn) (hb : fn.body = some c) {n : Nat} (hn : fn.ntmps = n) (hB : (Nat.ble avs.length n && AV.bds h0.length avs) = true) (hbo : ∀ o ∈ h0, o.Bd h0.length)
    (k : ∀ ρ w, C P c (bodyPost P fn (Outc h0 m ρ w G val post)) ⟨h0.length, ρ, []⟩ n h0.length (slots 0 avs) (labels 0 h0) (fun w' => Ag (fun b => ¬ Wr0 h0 ρ b) w w')) : Spec P f avs h0 m G val post := fun ρ w h1 h2 h3 => by
  simp only [Bool.and_eq_true] at hB
  exact CL.enter hf hb ρ avs h0 w _ n hn hB.1 hB.2 hbo h1 h2 h3 (k ρ w).out
end
end Go.Proofs.Yteabncomclgncaa
