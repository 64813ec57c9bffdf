/- Texts of the claim, merged: only what the theorem needs. -/
import Derived.WalkKit
import Derived.WalkSpells
import Derived.WalkLawsBesides
import Derived.Lib.Hide
namespace Go.Proofs.YtaieficgifingaaGreatDoor
set_option linter.unusedVariables false
set_option linter.unusedSimpArgs false
open Go.RowKit
/-- A value in which memory is named by labels. -/
inductive AV where
  | raw (v : Value)
  | ptr (l w i c : Nat)
  | sl (l w off n cap : Nat)
  | agg (xs : List AV)
  | tup (xs : List AV)
  | fn (f : FuncId) (cs : List AV)
instance : Inhabited AV := ⟨.raw default⟩
abbrev Env := Nat → Option Nat
mutual
def AV.conc (ρ : Env) : AV → Value
  | .raw v => v
  | .ptr l w i c => .pointer (some ⟨(ρ l).getD 0, i * w + c, none⟩)
  | .sl l w off n cap => .slice ((ρ l).map fun b => ⟨b, off * w, none⟩) n cap
  | .agg xs => .agg (AV.concs ρ xs).toArray
  | .tup xs => .tuple (AV.concs ρ xs).toArray
  | .fn f cs => .func (.func f) #[] (AV.concs ρ cs).toArray
def AV.concs (ρ : Env) : List AV → List Value
  | [] => []
  | x :: xs => x.conc ρ :: AV.concs ρ xs
end
theorem concs_map (ρ : Env) (xs : List AV) : AV.concs ρ xs = xs.map (AV.conc ρ) := by
  induction xs with
  | nil => rfl
  | cons x xs ih => rw [AV.concs, ih]; rfl
theorem concs_length (ρ : Env) (xs : List AV) : (AV.concs ρ xs).length = xs.length := by rw [concs_map]; simp
/-- it reads the same whatever the labels from L on mean -/
def AV.Low (ρ : Env) (L : Nat) (v : AV) : Prop := ∀ ρ' : Env, (∀ l, l < L → ρ' l = ρ l) → v.conc ρ' = v.conc ρ
theorem AV.Low.mono {ρ : Env} {L L' : Nat} {v : AV} (h : v.Low ρ L) (hl : L ≤ L') : v.Low ρ L' := fun ρ' he => h ρ' fun l hh => he l (by omega)
theorem AV.Low.ext {ρ ρ1 : Env} {L : Nat} {v : AV} (h : v.Low ρ L) (he : ∀ l, l < L → ρ1 l = ρ l) : v.Low ρ1 L := fun ρ' h' => (h ρ' fun l hl => (h' l hl).trans (he l hl)).trans (h ρ1 he).symm
theorem AV.Low.raw (ρ : Env) (L : Nat) (v : Value) : (AV.raw v).Low ρ L := fun _ _ => by simp [AV.conc]
/-- What lies at a label: cells that are known; or a slice's own block (nil too), its elements known as far as n. -/
inductive AO where
  | cells (xs : List AV) (ty : TypeId)
  | bytes (p : List UInt8) (cap : Nat) (ty : TypeId)
  | tab (w n cap : Nat) (f : Nat → List AV) (ty : TypeId)
  | ro (w off n : Nat) (f : Nat → List AV)
  | gone
def AO.isRo : AO → Bool
  | .ro .. => true
  | _ => false
def byteV (b : UInt8) : Value := .int .u8 (b.toNat : Int)
def AO.holds (ρ : Env) (r : Option Nat) (w : World) : AO → Prop
  | .cells xs ty => ∃ b, r = some b ∧ w.heap[b]? = some (.cells (AV.concs ρ xs).toArray ty (0, 0))
  | .bytes p cap ty => p.length ≤ cap ∧ ((r = none ∧ cap = 0) ∨ ∃ b cur, r = some b ∧ w.heap[b]? = some (.cells cur ty (0, 0)) ∧ cur.size = cap ∧ ∀ i (h : i < p.length), cur[i]? = some (byteV p[i]))
  | .tab wd n cap f ty => n ≤ cap ∧ (∀ i, i < n → (f i).length = wd) ∧ ((r = none ∧ cap = 0) ∨ ∃ b cur, r = some b ∧ w.heap[b]? = some (.cells cur ty (0, 0)) ∧ cur.size = cap * wd ∧ ∀ i c x, i < n → (f i)[c]? = some x → cur[i * wd + c]? = some (x.conc ρ))
  | .ro wd off n f => (r = none ∧ n = 0) ∨ ∃ b cur ty fr, r = some b ∧ w.heap[b]? = some (.cells cur ty fr) ∧ ∀ i c x, i < n → (f i)[c]? = some x → cur[(off + i) * wd + c]? = some (x.conc ρ)
  | .gone => True
def AO.Low (ρ : Env) (L : Nat) (o : AO) : Prop := ∀ ρ' : Env, (∀ l, l < L → ρ' l = ρ l) → ∀ r w, o.holds ρ r w ↔ o.holds ρ' r w
theorem AO.Low.mono {ρ : Env} {L L' : Nat} {o : AO} (h : o.Low ρ L) (hl : L ≤ L') : o.Low ρ L' := fun ρ' he => h ρ' fun l hh => he l (by omega)
theorem AO.Low.ext {ρ ρ1 : Env} {L : Nat} {o : AO} (h : o.Low ρ L) (he : ∀ l, l < L → ρ1 l = ρ l) : o.Low ρ1 L := fun ρ' h' r w => ((h ρ1 he r w).symm.trans (h ρ' (fun l hl => (h' l hl).trans (he l hl)) r w))
theorem concs_low {ρ : Env} {L : Nat} {xs : List AV} (h : ∀ x ∈ xs, x.Low ρ L) (ρ' : Env) (he : ∀ l, l < L → ρ' l = ρ l) : AV.concs ρ' xs = AV.concs ρ xs := by
  rw [concs_map, concs_map]
  exact List.map_congr_left fun x hx => h x hx ρ' he
theorem AO.Low.cells {ρ : Env} {L : Nat} {xs : List AV} (ty : TypeId) (h : ∀ x ∈ xs, x.Low ρ L) : (AO.cells xs ty).Low ρ L := fun ρ' he r w => by
  simp only [AO.holds, concs_low h ρ' he]
theorem AO.Low.bytes (ρ : Env) (L : Nat) (p : List UInt8) (cap : Nat) (ty : TypeId) : (AO.bytes p cap ty).Low ρ L := fun _ _ _ _ => Iff.rfl
theorem AO.Low.tab {ρ : Env} {L w n cap : Nat} {f : Nat → List AV} (ty : TypeId) (h : ∀ i, i < n → ∀ x ∈ f i, x.Low ρ L) : (AO.tab w n cap f ty).Low ρ L := fun ρ' he r W => by
  have key : ∀ i c (x : AV), i < n → (f i)[c]? = some x → x.conc ρ' = x.conc ρ := fun i c x hi hx => h i hi x (List.mem_of_getElem? hx) ρ' he
  constructor
  · rintro ⟨h1, h2, h3⟩
    refine ⟨h1, h2, h3.imp id ?_⟩
    rintro ⟨b, cur, hr, hb, hs, hc⟩
    exact ⟨b, cur, hr, hb, hs, fun i c x hi hx => by rw [key i c x hi hx]; exact hc i c x hi hx⟩
  · rintro ⟨h1, h2, h3⟩
    refine ⟨h1, h2, h3.imp id ?_⟩
    rintro ⟨b, cur, hr, hb, hs, hc⟩
    exact ⟨b, cur, hr, hb, hs, fun i c x hi hx => by rw [← key i c x hi hx]; exact hc i c x hi hx⟩
theorem AO.Low.ro {ρ : Env} {L w off n : Nat} {f : Nat → List AV} (h : ∀ i, i < n → ∀ x ∈ f i, x.Low ρ L) : (AO.ro w off n f).Low ρ L := fun ρ' he r W => by
  have key : ∀ i c (x : AV), i < n → (f i)[c]? = some x → x.conc ρ' = x.conc ρ := fun i c x hi hx => h i hi x (List.mem_of_getElem? hx) ρ' he
  constructor
  · intro h3
    refine h3.imp id ?_
    rintro ⟨b, cur, ty, fr, hr, hb, hc⟩
    exact ⟨b, cur, ty, fr, hr, hb, fun i c x hi hx => by rw [key i c x hi hx]; exact hc i c x hi hx⟩
  · intro h3
    refine h3.imp id ?_
    rintro ⟨b, cur, ty, fr, hr, hb, hc⟩
    exact ⟨b, cur, ty, fr, hr, hb, fun i c x hi hx => by rw [← key i c x hi hx]; exact hc i c x hi hx⟩
/-- lookup by number -/
def lk {α : Type} (t : Nat) : List (Nat × α) → Option α
  | [] => none
  | (s, v) :: r => match Nat.beq s t with
    | true => some v
    | false => lk t r
/-- what lies at a label -/
def hk (l : Nat) (h : List (Nat × AO)) : Option AO := match lk l h with
  | some .gone => none
  | r => r
theorem lk_cons {α : Type} (t s : Nat) (v : α) (r : List (Nat × α)) : lk t ((s, v) :: r) = if s = t then some v else lk t r := by
  by_cases h : s = t
  · subst h; simp [lk]
  · have : Nat.beq s t = false := by
      cases e : Nat.beq s t with
      | true => exact absurd (Nat.eq_of_beq_eq_true e) h
      | false => rfl
    simp [lk, this, h]
theorem hk_cons (l s : Nat) (o : AO) (r : List (Nat × AO)) : hk l ((s, o) :: r) = if s = l then (match o with | .gone => none | o => some o) else hk l r := by
  unfold hk
  rw [lk_cons]
  by_cases h : s = l
  · simp only [h, if_true]
    cases o <;> rfl
  · simp only [h, if_false]
inductive TK where
  | bool | int (k : IntKind) | str | ptr (e : Nat) | sl (e : Nat) | arr (n e : Nat) | st (fs : List (Nat × Nat)) | fnc | oth
structure TI where
  size : Nat
  bytes : Nat
  kind : TK
  zero : List Value
def TK.isAgg : TK → Bool
  | .arr .. | .st .. => true
  | _ => false
/-- what is told of a type is so -/
structure TIok (P : Program) (t : TypeId) (ti : TI) : Prop where
  info : ∃ i z, P.info? t = some i ∧ i.size = ti.size ∧ i.bytes = ti.bytes ∧ i.zero = some z ∧ z.cells.toList = ti.zero ∧ z = (if ti.kind.isAgg then .agg ti.zero.toArray else ti.zero.headD undef)
  und : ∃ d, P.underlying t = some d ∧ match ti.kind with
    | .bool => d = .bool
    | .int k => d = .int k
    | .str => d = .string
    | .ptr e => d = .pointer e
    | .sl e => d = .slice e
    | .arr n e => d = .array n e
    | .fnc => ∃ a b c, d = .func a b c
    | .st fs => ∃ fields, d = .struct fields ∧ fields.toList.map (fun f => (f.offset, f.type)) = fs
    | .oth => (match d with | .struct _ | .array _ _ => false | _ => true) = true
def TTok (P : Program) (tt : List (Nat × TI)) : Prop := ∀ t ti, lk t tt = some ti → TIok P t ti
theorem TTok.nil (P : Program) : TTok P [] := fun t ti h => by simp [lk] at h
theorem TTok.cons {P : Program} {t : Nat} {ti : TI} {r : List (Nat × TI)} (h : TIok P t ti) (hr : TTok P r) : TTok P ((t, ti) :: r) := fun s si hs => by
  rw [lk_cons] at hs
  split at hs
  · rename_i e; subst e; cases hs; exact h
  · exact hr s si hs
section
variable {P : Program} {t : TypeId} {ti : TI}
theorem TIok.run_info (h : TIok P t ti) (w : World) : ∃ i z, (typeInfo t).run P w = .ok i w ∧ i.size = ti.size ∧ i.bytes = ti.bytes ∧ i.zero = some z ∧ z.cells.toList = ti.zero ∧ z = (if ti.kind.isAgg then .agg ti.zero.toArray else ti.zero.headD undef) := by
  obtain ⟨i, z, h1, h2⟩ := h.info
  exact ⟨i, z, by simp [typeInfo, h1, go_sem], h2⟩
theorem TIok.run_size (h : TIok P t ti) (w : World) : (sizeOf t).run P w = .ok ti.size w := by
  obtain ⟨i, z, h1, h2, _⟩ := h.run_info w
  simp [sizeOf, h1, h2]
theorem TIok.run_zero (h : TIok P t ti) (w : World) : (zeroValue t).run P w = .ok (if ti.kind.isAgg then .agg ti.zero.toArray else ti.zero.headD undef) w := by
  obtain ⟨i, z, h1, h2, h3, h4, h5, h6⟩ := h.run_info w
  rw [← h6]
  simp [zeroValue, h1, h4]
theorem TIok.run_isAgg (h : TIok P t ti) (w : World) : (isAgg t).run P w = .ok ti.kind.isAgg w := by
  obtain ⟨d, h1, h2⟩ := h.und
  have e : (underlying t).run P w = .ok d w := by simp [underlying, h1]
  cases hk : ti.kind <;> rw [hk] at h2 <;> simp only at h2
  case oth => cases d <;> simp_all [isAgg, TK.isAgg]
  case st fs => obtain ⟨fields, rfl, _⟩ := h2; simp [isAgg, e, TK.isAgg]
  case fnc => obtain ⟨x, y, z, rfl⟩ := h2; simp [isAgg, e, TK.isAgg]
  all_goals (subst h2; simp [isAgg, e, TK.isAgg])
end
/-- outside of what may have turned, the world is as it was -/
structure Ag (D : Nat → Prop) (w w' : World) : Prop where
  os : w'.os = w.os
  tape : w'.tape = w.tape
  output : w'.output = w.output
  size : w.heap.size ≤ w'.heap.size
  block : ∀ b, b < w.heap.size → D b → w'.heap[b]? = w.heap[b]?
theorem Ag.refl (D : Nat → Prop) (w : World) : Ag D w w := ⟨rfl, rfl, rfl, Nat.le_refl _, fun _ _ _ => rfl⟩
theorem Ag.trans {D : Nat → Prop} {w1 w2 w3 : World} (h : Ag D w1 w2) (k : Ag D w2 w3) : Ag D w1 w3 :=
  ⟨k.os.trans h.os, k.tape.trans h.tape, k.output.trans h.output, Nat.le_trans h.size k.size, fun b hb hd => (k.block b (Nat.lt_of_lt_of_le hb h.size) hd).trans (h.block b hb hd)⟩
theorem Ag.trans2 {D D' : Nat → Prop} {w1 w2 w3 : World} (h : Ag D w1 w2) (k : Ag D' w2 w3) (hd : ∀ b, b < w1.heap.size → D b → D' b) : Ag D w1 w3 :=
  ⟨k.os.trans h.os, k.tape.trans h.tape, k.output.trans h.output, Nat.le_trans h.size k.size, fun b hb hb' => (k.block b (Nat.lt_of_lt_of_le hb h.size) (hd b hb hb')).trans (h.block b hb hb')⟩
theorem Ag.mono {D D' : Nat → Prop} {w w' : World} (h : Ag D w w') (hd : ∀ b, b < w.heap.size → D' b → D b) : Ag D' w w' := ⟨h.os, h.tape, h.output, h.size, fun b hb h' => h.block b hb (hd b hb h')⟩
theorem Ag.of_below {B : Nat} {w w' : World} (h : Below B w w') : Ag (fun b => b < B) w w' := ⟨h.os, h.tape, h.output, h.size, fun b _ hb => h.block b hb⟩
theorem Ag.below {B : Nat} {w w' : World} (h : Ag (fun b => b < B) w w') (hB : B ≤ w.heap.size) : Below B w w' := ⟨h.os, h.tape, h.output, h.size, fun b hb => h.block b (by omega) hb⟩
/-- a label whose block may be written -/
def wrA (l : Nat) (h : List (Nat × AO)) : Prop := ∃ o, hk l h = some o ∧ o.isRo = false
theorem wrA.live {l : Nat} {h : List (Nat × AO)} (hw : wrA l h) : hk l h ≠ none := by
  obtain ⟨o, h1, _⟩ := hw
  rw [h1]; simp
structure Base where
  N : Nat
  ρ : Env
  df : List Deferred
/-- The world and the frame are as told: slots τ, memory h at labels below L; F: what is told of all other memory. -/
structure Gam (E : Base) (ρ : Env) (n L : Nat) (τ : List (Nat × AV)) (h : List (Nat × AO)) (F : World → Prop) (a : Act) (w : World) : Prop where
  df : a.defers = E.df
  sz : a.tmps.size = n
  tm : ∀ t v, lk t τ = some v → v.Low ρ L ∧ a.tmps[t]? = some (v.conc ρ)
  hp : ∀ l o, hk l h = some o → l < L ∧ o.Low ρ L ∧ o.holds ρ (ρ l) w
  dis : ∀ l l' b, wrA l h → hk l' h ≠ none → ρ l = some b → ρ l' = some b → l = l'
  fr : ∀ w', Ag (fun b => ∀ l, wrA l h → ρ l ≠ some b) w w' → F w'
  ex : ∀ l, l < E.N → ρ l = E.ρ l
  le : E.N ≤ L
  al : ∀ l b, l < L → ρ l = some b → b < w.heap.size
/-- an operand's value -/
def evA (τ : List (Nat × AV)) : Operand → Option AV
  | .tmp t => lk t τ
  | .const v => some (.raw v)
  | .global g => some (.raw (.pointer (some ⟨g, 0, none⟩)))
  | .func f => some (.fn f [])
theorem Gam.eval {E : Base} {ρ : Env} {n L : Nat} {τ : List (Nat × AV)} {h : List (Nat × AO)} {F : World → Prop} {a : Act} {w : World} (g : Gam E ρ n L τ h F a w)
    (x : Operand) (v : AV) (hv : evA τ x = some v) : v.Low ρ L ∧ a.eval x = v.conc ρ := by
  cases x with
  | tmp t =>
    have := g.tm t v hv
    refine ⟨this.1, ?_⟩
    simp only [Act.eval, Array.getD_eq_getD_getElem?, this.2, Option.getD_some]
  | const c => cases hv; exact ⟨AV.Low.raw _ _ _, rfl⟩
  | global c => cases hv; exact ⟨AV.Low.raw _ _ _, rfl⟩
  | func c => cases hv; exact ⟨fun _ _ => rfl, rfl⟩
end Go.Proofs.YtaieficgifingaaGreatDoor
namespace Go.Proofs.YtaieficgifingaaGreatDoor
set_option linter.unusedVariables false
set_option linter.unusedSimpArgs false
open Go.RowKit
def sameK (k k' : IntKind) (v : Value) : Option Value := if k = k' then some v else none
theorem sameK_some {k k' : IntKind} {v u : Value} (h : sameK k k' v = some u) : k = k' ∧ v = u := by
  unfold sameK at h
  split at h
  · exact ⟨‹_›, by simpa using h⟩
  · cases h
/-- bits of two numbers -/
def bitV (op : BinOp) (k : IntKind) (a b : Int) : Int :=
  match op with
  | .and => k.wrap ((BitVec.ofInt k.bits a &&& BitVec.ofInt k.bits b).toNat : Int)
  | .or => k.wrap ((BitVec.ofInt k.bits a ||| BitVec.ofInt k.bits b).toNat : Int)
  | .xor => k.wrap ((BitVec.ofInt k.bits a ^^^ BitVec.ofInt k.bits b).toNat : Int)
  | _ => k.wrap ((BitVec.ofInt k.bits a &&& ~~~ BitVec.ofInt k.bits b).toNat : Int)
/-- an operation on two values that cannot go wrong -/
def binV : BinOp → Value → Value → Option Value
  | .add, .int k a, .int k' b => sameK k k' (.int k (k.wrap (a + b)))
  | .sub, .int k a, .int k' b => sameK k k' (.int k (k.wrap (a - b)))
  | .mul, .int k a, .int k' b => sameK k k' (.int k (k.wrap (a * b)))
  | .and, .int k a, .int k' b => sameK k k' (.int k (bitV .and k a b))
  | .or, .int k a, .int k' b => sameK k k' (.int k (bitV .or k a b))
  | .xor, .int k a, .int k' b => sameK k k' (.int k (bitV .xor k a b))
  | .andNot, .int k a, .int k' b => sameK k k' (.int k (bitV .andNot k a b))
  | .eql, .int k a, .int k' b => sameK k k' (.bool (decide (a = b)))
  | .neq, .int k a, .int k' b => sameK k k' (.bool (decide (a ≠ b)))
  | .lss, .int k a, .int k' b => sameK k k' (.bool (decide (a < b)))
  | .leq, .int k a, .int k' b => sameK k k' (.bool (decide (a ≤ b)))
  | .gtr, .int k a, .int k' b => sameK k k' (.bool (decide (b < a)))
  | .geq, .int k a, .int k' b => sameK k k' (.bool (decide (b ≤ a)))
  | .eql, .string a, .string b => some (.bool (decide (a.toList = b.toList)))
  | .neq, .string a, .string b => some (.bool (decide (a.toList ≠ b.toList)))
  | .lss, .string a, .string b => some (.bool (Op.bytesLess a.toList b.toList))
  | .leq, .string a, .string b => some (.bool (Op.bytesLess a.toList b.toList || decide (a.toList = b.toList)))
  | .gtr, .string a, .string b => some (.bool !(Op.bytesLess a.toList b.toList || decide (a.toList = b.toList)))
  | .geq, .string a, .string b => some (.bool !(Op.bytesLess a.toList b.toList))
  | _, _, _ => none
theorem beq_toList (a b : List UInt8) : (a == b) = decide (a = b) := by
  by_cases h : a = b
  · subst h; simp
  · simp [h]
theorem run_binV (P : Program) (op : BinOp) (t : TypeId) (x y : Operand) (a b v : Value) (w : World) (h : binV op a b = some v) :
    (do eqGuard op t x y a b; binOp op t a b : Sem Value).run P w = .ok v w := by
  cases a <;> cases b
  case int.int k a k' b =>
    cases op <;> simp only [binV] at h
    all_goals first
      | cases h
      | (obtain ⟨rfl, rfl⟩ := sameK_some h
         simp [eqGuard, binOp, Op.intArith, Op.intBits, Op.intCmp, bitV, go_sem]
         done)
      | (obtain ⟨rfl, rfl⟩ := sameK_some h
         simp [eqGuard, binOp, Op.intArith, Op.intBits, Op.intCmp, bitV, go_sem]
         rfl)
  case string.string a b =>
    cases op <;> simp only [binV] at h
    all_goals cases h
    all_goals simp [eqGuard, binOp, Op.stringOp, beq_toList, go_sem]
  all_goals (cases op <;> simp [binV] at h)
def convV (tt : List (Nat × TI)) (s d : TypeId) : Value → Option Value
  | .int k n => match lk s tt, lk d tt with
    | some ⟨_, _, .int _, _⟩, some ⟨_, _, .int k', _⟩ => some (.int k' (k'.wrap n))
    | _, _ => none
  | .string b => match lk s tt, lk d tt with
    | some ⟨_, _, .str, _⟩, some ⟨_, _, .str, _⟩ => some (.string b)
    | _, _ => none
  | _ => none
theorem und_int {P : Program} {t : TypeId} {ti : TI} {k : IntKind} (h : TIok P t ti) (hk : ti.kind = .int k) (w : World) : (underlying t).run P w = .ok (.int k) w := by
  obtain ⟨d, h1, h2⟩ := h.und
  rw [hk] at h2
  simp only at h2
  subst h2
  simp [underlying, h1]
theorem und_str {P : Program} {t : TypeId} {ti : TI} (h : TIok P t ti) (hk : ti.kind = .str) (w : World) : (underlying t).run P w = .ok .string w := by
  obtain ⟨d, h1, h2⟩ := h.und
  rw [hk] at h2
  simp only at h2
  subst h2
  simp [underlying, h1]
theorem und_sl {P : Program} {t : TypeId} {ti : TI} {e : Nat} (h : TIok P t ti) (hk : ti.kind = .sl e) (w : World) : (underlying t).run P w = .ok (.slice e) w := by
  obtain ⟨d, h1, h2⟩ := h.und
  rw [hk] at h2
  simp only at h2
  subst h2
  simp [underlying, h1]
theorem und_ptr {P : Program} {t : TypeId} {ti : TI} {e : Nat} (h : TIok P t ti) (hk : ti.kind = .ptr e) (w : World) : (underlying t).run P w = .ok (.pointer e) w := by
  obtain ⟨d, h1, h2⟩ := h.und
  rw [hk] at h2
  simp only at h2
  subst h2
  simp [underlying, h1]
theorem und_arr {P : Program} {t : TypeId} {ti : TI} {n e : Nat} (h : TIok P t ti) (hk : ti.kind = .arr n e) (w : World) : (underlying t).run P w = .ok (.array n e) w := by
  obtain ⟨d, h1, h2⟩ := h.und
  rw [hk] at h2
  simp only at h2
  subst h2
  simp [underlying, h1]
theorem und_bool {P : Program} {t : TypeId} {ti : TI} (h : TIok P t ti) (hk : ti.kind = .bool) (w : World) : (underlying t).run P w = .ok .bool w := by
  obtain ⟨d, h1, h2⟩ := h.und
  rw [hk] at h2
  simp only at h2
  subst h2
  simp [underlying, h1]
theorem und_st {P : Program} {t : TypeId} {ti : TI} {fs : List (Nat × Nat)} (h : TIok P t ti) (hk : ti.kind = .st fs) : ∃ fields, (∀ w, (underlying t).run P w = .ok (.struct fields) w) ∧ fields.toList.map (fun f => (f.offset, f.type)) = fs := by
  obtain ⟨d, h1, h2⟩ := h.und
  rw [hk] at h2
  simp only at h2
  obtain ⟨fields, rfl, h3⟩ := h2
  exact ⟨fields, fun w => by simp [underlying, h1], h3⟩
theorem run_convV {P : Program} {tt : List (Nat × TI)} (htt : TTok P tt) (s d : TypeId) (x v : Value) (w : World) (h : convV tt s d x = some v) : (convert s d x).run P w = .ok v w := by
  cases x <;> simp only [convV] at h <;> try cases h
  case int k n =>
    split at h
    · rename_i h1 h2
      cases h
      have e1 := und_int (htt _ _ h1) rfl w
      have e2 := und_int (htt _ _ h2) rfl w
      simp [convert, e1, e2, Conv.intToInt]
    · cases h
  case string b =>
    split at h
    · rename_i h1 h2
      cases h
      have e1 := und_str (htt _ _ h1) rfl w
      have e2 := und_str (htt _ _ h2) rfl w
      simp [convert, e1, e2]
    · cases h
/-- a field of a struct's cells, an element of an array's -/
def partA (tt : List (Nat × TI)) (t : Nat) (xs : List AV) (off : Nat) : Option AV :=
  match lk t tt with
  | some ti => match ti.kind.isAgg with
    | true => some (.agg ((xs.drop off).take ti.size))
    | false => xs[off]?
  | none => none
theorem run_partA {P : Program} {tt : List (Nat × TI)} (htt : TTok P tt) (ρ : Env) (t : Nat) (xs : List AV) (off : Nat) (v : AV) (w : World) (h : partA tt t xs off = some v) :
    (part t (AV.concs ρ xs).toArray off).run P w = .ok (v.conc ρ) w := by
  unfold partA at h
  split at h
  · rename_i ti hti
    have e1 := (htt _ _ hti).run_isAgg w
    have e2 := (htt _ _ hti).run_size w
    cases hk : ti.kind.isAgg <;> rw [hk] at h e1 <;> simp only at h
    · have : (AV.concs ρ xs)[off]? = some (v.conc ρ) := by rw [concs_map, List.getElem?_map, h]; rfl
      simp [part, e1, this]
    · cases h
      simp [part, e1, e2, AV.conc, concs_map, List.map_drop, List.map_take]
  · cases h
theorem und_fnc {P : Program} {t : TypeId} {ti : TI} (h : TIok P t ti) (hk : ti.kind = .fnc) : ∃ x y z, ∀ w, (underlying t).run P w = .ok (.func x y z) w := by
  obtain ⟨d, h1, h2⟩ := h.und
  rw [hk] at h2
  simp only at h2
  obtain ⟨x, y, z, rfl⟩ := h2
  exact ⟨x, y, z, fun w => by simp [underlying, h1]⟩
def AV.cellsA : AV → Option (List AV)
  | .agg xs => some xs
  | .tup _ => none
  | .raw (.agg _) => none
  | .raw (.tuple _) => none
  | v => some [v]
theorem cellsA_conc {v : AV} {xs : List AV} (h : v.cellsA = some xs) (ρ : Env) : (v.conc ρ).cells.toList = AV.concs ρ xs := by
  cases v with
  | agg ys => cases h; simp [AV.conc, Value.cells]
  | tup ys => cases h
  | raw u => cases u <;> cases h <;> simp [AV.conc, Value.cells, AV.concs]
  | _ => cases h; simp [AV.conc, Value.cells, AV.concs]
/-- cells laid over others from a place on -/
def setsA {α : Type} : List α → Nat → List α → List α
  | xs, _, [] => xs
  | xs, off, y :: ys => setsA (xs.set off y) (off + 1) ys
theorem setsA_foldl {α : Type} (ys : List α) : ∀ (xs : Array α) (off k : Nat), (ys.zipIdx k).foldl (fun cs (p : α × Nat) => cs.setIfInBounds (off + p.2) p.1) xs = (setsA xs.toList (off + k) ys).toArray := by
  induction ys with
  | nil => intro xs off k; simp [setsA]
  | cons y ys ih =>
    intro xs off k
    simp only [List.zipIdx_cons, List.foldl_cons, setsA]
    rw [ih]
    congr 1
    simp [Nat.add_assoc]
theorem concs_set (ρ : Env) (xs : List AV) (i : Nat) (v : AV) : AV.concs ρ (xs.set i v) = (AV.concs ρ xs).set i (v.conc ρ) := by
  rw [concs_map, concs_map, List.map_set]
theorem concs_sets (ρ : Env) (ys : List AV) : ∀ (xs : List AV) (off : Nat), AV.concs ρ (setsA xs off ys) = setsA (AV.concs ρ xs) off (AV.concs ρ ys) := by
  induction ys with
  | nil => intro xs off; rfl
  | cons y ys ih => intro xs off; simp only [setsA, AV.concs]; rw [ih, concs_set]
/-- the parts of a struct or an array, laid over its zero -/
def fillA (pl : Nat → Option (Nat × Nat)) : List AV → List (Nat × AV) → Option (List AV)
  | cells, [] => some cells
  | cells, (i, v) :: rest => match pl i, v.cellsA with
    | some (off, size), some xs => match xs.length == size && Nat.ble (off + xs.length) cells.length with
      | true => fillA pl (setsA cells off xs) rest
      | false => none
    | _, _ => none
theorem fillA_fill (pl : Nat → Option (Nat × Nat)) (ρ : Env) (parts : List (Nat × AV)) : ∀ (cells out : List AV), fillA pl cells parts = some out →
    Instr.fill pl (AV.concs ρ cells).toArray (parts.map fun p => (p.1, p.2.conc ρ)) = some (AV.concs ρ out).toArray := by
  induction parts with
  | nil => intro cells out h; cases h; rfl
  | cons p rest ih =>
    intro cells out h
    obtain ⟨i, v⟩ := p
    simp only [fillA] at h
    split at h
    · rename_i off size xs h1 h2
      have hc := cellsA_conc h2 ρ
      have hl : (v.conc ρ).cells.size = xs.length := by rw [← Array.length_toList, hc, concs_length]
      split at h
      · rename_i hb
        simp only [Bool.and_eq_true, beq_iff_eq, Nat.ble_eq] at hb
        have := ih _ _ h
        simp only [List.map_cons, Instr.fill, h1, hl]
        rw [if_neg (by simp [concs_length]; omega)]
        rw [concs_sets] at this
        have e : (v.conc ρ).cells.zipIdx.foldl (fun cs (p : Value × Nat) => cs.setIfInBounds (off + p.2) p.1) (AV.concs ρ cells).toArray = (setsA (AV.concs ρ cells) off (AV.concs ρ xs)).toArray := by
          rw [← Array.foldl_toList, Array.toList_zipIdx, hc]
          exact setsA_foldl _ _ off 0
        rw [← this, ← e]
      · cases h
    · cases h
/-- the parts' values -/
def evParts (e : Operand → Option AV) : List (Nat × Operand) → Option (List (Nat × AV))
  | [] => some []
  | (i, x) :: r => match e x, evParts e r with
    | some v, some l => some ((i, v) :: l)
    | _, _ => none
theorem evParts_conc {e : Operand → Option AV} {ec : Operand → Value} {ρ : Env} (he : ∀ x v, e x = some v → ec x = v.conc ρ) (ps : List (Nat × Operand)) : ∀ l, evParts e ps = some l → ps.map (fun p => (p.1, ec p.2)) = l.map fun p => (p.1, p.2.conc ρ) := by
  induction ps with
  | nil => intro l h; cases h; rfl
  | cons p r ih =>
    intro l h
    obtain ⟨i, x⟩ := p
    simp only [evParts] at h
    split at h
    · rename_i v l' h1 h2
      cases h
      simp [ih _ h2, he _ _ h1]
    · cases h
/-- the operands' values -/
def evList (e : Operand → Option AV) : List Operand → Option (List AV)
  | [] => some []
  | x :: r => match e x, evList e r with
    | some v, some l => some (v :: l)
    | _, _ => none
theorem evList_conc {e : Operand → Option AV} {ec : Operand → Value} {ρ : Env} (he : ∀ x v, e x = some v → ec x = v.conc ρ) (ps : List Operand) : ∀ l, evList e ps = some l → ps.map ec = AV.concs ρ l := by
  induction ps with
  | nil => intro l h; cases h; rfl
  | cons x r ih =>
    intro l h
    simp only [evList] at h
    split at h
    · rename_i v l' h1 h2
      cases h
      simp [ih _ h2, he _ _ h1, AV.concs]
    · cases h
def szA (tt : List (Nat × TI)) (t : Nat) : Option Nat := (lk t tt).map (·.size)
/-- where parts lie -/
def placeA (tt : List (Nat × TI)) : TK → Nat → Option (Nat × Nat)
  | .st fs, i => match fs[i]? with
    | some (off, ft) => match lk ft tt with
      | some ti => some (off, ti.size)
      | none => none
    | none => none
  | .arr n e, i => match lk e tt with
    | some ti => some (i * ti.size, ti.size)
    | none => none
  | _, _ => none
end Go.Proofs.YtaieficgifingaaGreatDoor
namespace Go.Proofs.YtaieficgifingaaGreatDoor
set_option linter.unusedVariables false
set_option linter.unusedSimpArgs false
open Go.RowKit
theorem run_mapM_list {P : Program} {α β : Type} (f : α → Sem β) (g : α → β) (w : World) : ∀ l : List α, (∀ x ∈ l, (f x).run P w = .ok (g x) w) → (l.mapM f).run P w = .ok (l.map g) w := by
  intro l
  induction l with
  | nil => intro _; rfl
  | cons x l ih =>
    intro h
    rw [List.mapM_cons]
    simp [h x (by simp), ih (fun y hy => h y (by simp [hy]))]
theorem run_mapM_array {P : Program} {α β : Type} (f : α → Sem β) (g : α → β) (w : World) (l : Array α) (h : ∀ x ∈ l.toList, (f x).run P w = .ok (g x) w) : (l.mapM f).run P w = .ok (l.map g) w := by
  rw [Array.mapM_eq_mapM_toList]
  have := run_mapM_list (P := P) f g w l.toList h
  rw [← bind_pure_comp]
  simp only [Sem.run_bind, this, Result.andThen_ok, Sem.run_pure]
  congr 1
  apply Array.ext'
  simp
/-- what an operation gives -/
def act (tt : List (Nat × TI)) (hl : Nat → Option AO) (e : Operand → Option AV) : Op → Option AV
  | .move x => e x
  | .assign x => e x
  | .pick c a b => match e c with
    | some (.raw (.bool true)) => e a
    | some (.raw (.bool false)) => e b
    | _ => none
  | .extract t i => match e t with
    | some (.tup xs) => xs[i]?
    | _ => none
  | .field t x f => match e x, lk t tt with
    | some (.agg xs), some ⟨_, _, .st fs, _⟩ => match fs[f]? with
      | some (off, ft) => partA tt ft xs off
      | none => none
    | _, _ => none
  | .fieldAddr t x f => match e x, lk t tt with
    | some (.ptr l w i c), some ⟨_, _, .st fs, _⟩ => match fs[f]? with
      | some (off, ft) => match lk ft tt with
        | some ⟨k + 1, _, _, _⟩ => some (.ptr l w i (c + off))
        | _ => none
      | none => none
    | some (.raw (.pointer (some ⟨b, o, none⟩))), some ⟨_, _, .st fs, _⟩ => match fs[f]? with
      | some (off, ft) => match lk ft tt with
        | some ⟨k + 1, _, _, _⟩ => some (.raw (.pointer (some ⟨b, o + off, none⟩)))
        | _ => none
      | none => none
    | _, _ => none
  | .nilCheck x => match e x with
    | some (.ptr l w i c) => some (.ptr l w i c)
    | some (.fn f cs) => some (.fn f cs)
    | some (.raw (.pointer (some a))) => some (.raw (.pointer (some a)))
    | _ => none
  | .load t x => match e x, lk t tt with
    | some (.ptr l w i c), some ti => match hl l with
      | some (.cells xs _) => match ti.kind.isAgg with
        | true => match Nat.ble (i * w + c + ti.size) xs.length with
          | true => some (.agg ((xs.drop (i * w + c)).take ti.size))
          | false => none
        | false => xs[i * w + c]?
      | _ => none
    | _, _ => none
  | .binOp op t x y _ => match e x, e y with
    | some (.raw a), some (.raw b) => match binV op a b with
      | some v => some (.raw v)
      | none => match op, a, b, lk t tt with
        | .eql, .pointer none, .pointer none, some ⟨_, _, .ptr _, _⟩ => some (.raw (.bool true))
        | .neq, .pointer none, .pointer none, some ⟨_, _, .ptr _, _⟩ => some (.raw (.bool false))
        | .eql, .pointer (some _), .pointer none, some ⟨_, _, .ptr _, _⟩ => some (.raw (.bool false))
        | .neq, .pointer (some _), .pointer none, some ⟨_, _, .ptr _, _⟩ => some (.raw (.bool true))
        | .eql, .bool p, .bool q, some ⟨_, _, .bool, _⟩ => some (.raw (.bool (p == q)))
        | .neq, .bool p, .bool q, some ⟨_, _, .bool, _⟩ => some (.raw (.bool (!(p == q))))
        | _, _, _, _ => none
    | some (.ptr l w i c), some (.raw (.pointer none)) => match op, lk t tt with
      | .eql, some ⟨_, _, .ptr _, _⟩ => some (.raw (.bool false))
      | .neq, some ⟨_, _, .ptr _, _⟩ => some (.raw (.bool true))
      | _, _ => none
    | some (.fn f cs), some (.raw .nilFunc) => match op, lk t tt with
      | .eql, some ⟨_, _, .fnc, _⟩ => some (.raw (.bool false))
      | .neq, some ⟨_, _, .fnc, _⟩ => some (.raw (.bool true))
      | _, _ => none
    | _, _ => none
  | .unOp .not _ x => match e x with
    | some (.raw (.bool b)) => some (.raw (.bool (!b)))
    | _ => none
  | .unOp .neg _ x => match e x with
    | some (.raw (.int k n)) => some (.raw (.int k (k.wrap (0 - n))))
    | _ => none
  | .convert s d x => match e x with
    | some (.raw v) => (convV tt s d v).map .raw
    | _ => none
  | .build t parts => match lk t tt, evParts e parts.toList with
    | some ti, some l => match ti.kind with
      | .st fs => match fs.all fun p => (lk p.2 tt).isSome with
        | true => (fillA (placeA tt ti.kind) (ti.zero.map .raw) l).map .agg
        | false => none
      | .arr n el => match (lk el tt).isSome with
        | true => (fillA (placeA tt ti.kind) (ti.zero.map .raw) l).map .agg
        | false => none
      | _ => none
    | _, _ => none
  | .makeFunc (.func f) first cs => match first.toList with
    | [] => (evList e cs.toList).map (.fn f)
    | _ => none
  | .call c => match c.callee, c.args.toList, c.argTypes.toList with
    | .builtin .len, [x], [t] => match e x, lk t tt with
      | some (.sl l w off n cap), some ⟨_, _, .sl _, _⟩ => some (.raw (.int .i64 (n : Int)))
      | some (.raw (.slice a n cap)), some ⟨_, _, .sl _, _⟩ => some (.raw (.int .i64 (n : Int)))
      | some (.raw (.string s)), some ⟨_, _, .str, _⟩ => some (.raw (.int .i64 (s.size : Int)))
      | _, some ⟨_, _, .arr n _, _⟩ => some (.raw (.int .i64 (n : Int)))
      | _, _ => none
    | .builtin .max, [x, y], _ => match e x, e y with
      | some (.raw (.int k a)), some (.raw (.int _ b)) => some (.raw (.int k (max a b)))
      | _, _ => none
    | .builtin .min, [x, y], _ => match e x, e y with
      | some (.raw (.int k a)), some (.raw (.int _ b)) => some (.raw (.int k (min a b)))
      | _, _ => none
    | _, _, _ => none
  | _ => none
end Go.Proofs.YtaieficgifingaaGreatDoor
namespace Go.Proofs.YtaieficgifingaaGreatDoor
set_option linter.unusedVariables false
set_option linter.unusedSimpArgs false
set_option linter.unusedSectionVars false
open Go.RowKit
theorem addr_add0 (b o n : Nat) : (⟨b, o, none⟩ : Addr).add n = ⟨b, o + n, none⟩ := by
  unfold Addr.add
  split
  · rename_i h; subst h; rfl
  · rfl
theorem run_loadVar_cells {P : Program} {t : TypeId} {ti : TI} (h : TIok P t ti) {w : World} {b o : Nat} {cs : List Value} {T : TypeId} {fr : Nat × Nat} (hb : w.heap[b]? = some (.cells cs.toArray T fr)) (v : Value)
    (hv : if ti.kind.isAgg then o + ti.size ≤ cs.length ∧ v = .agg ((cs.drop o).take ti.size).toArray else cs[o]? = some v) : (loadVar t ⟨b, o, none⟩).run P w = .ok v w := by
  have e1 := h.run_isAgg w
  have e2 := h.run_size w
  cases hk : ti.kind.isAgg <;> rw [hk] at hv e1
  · simp only [Bool.false_eq_true, if_false] at hv
    have hc : w.cell? ⟨b, o, none⟩ = some v := by rw [cell_of_row w b o _ T fr hb]; simpa using hv
    simp [loadVar, e1, hc]
  · simp only [if_true] at hv
    obtain ⟨h1, rfl⟩ := hv
    have hl : ((cs.drop o).take ti.size).length = ti.size := by simp; omega
    have := run_loadCells_list (P := P) w ⟨b, o, none⟩ ((cs.drop o).take ti.size) (fun j u hj => by
      rw [addr_add0, cell_of_row w b (o + j) _ T fr hb]
      have hlt := (List.getElem?_eq_some_iff.1 hj).1
      simp at hlt
      rw [List.getElem?_take, List.getElem?_drop] at hj
      split at hj
      · simpa using hj
      · cases hj)
    rw [hl] at this
    simp [loadVar, e1, e2, this]
theorem concs_drop (ρ : Env) (xs : List AV) (n : Nat) : (AV.concs ρ xs).drop n = AV.concs ρ (xs.drop n) := by simp [concs_map, List.map_drop]
theorem concs_take (ρ : Env) (xs : List AV) (n : Nat) : (AV.concs ρ xs).take n = AV.concs ρ (xs.take n) := by simp [concs_map, List.map_take]
theorem concs_get {ρ : Env} {xs : List AV} {i : Nat} {v : AV} (h : xs[i]? = some v) : (AV.concs ρ xs)[i]? = some (v.conc ρ) := by rw [concs_map, List.getElem?_map, h]; rfl
theorem conc_raw_list (ρ : Env) (l : List Value) : AV.concs ρ (l.map .raw) = l := by
  induction l with
  | nil => rfl
  | cons x l ih => simp [AV.concs, AV.conc, ih]
/-- a field's offset -/
theorem fieldAt_st {fields : Array Field} {fs : List (Nat × Nat)} (hf : fields.toList.map (fun f => (f.offset, f.type)) = fs) {i off ft : Nat} (h : fs[i]? = some (off, ft)) : ∃ f, fields[i]? = some f ∧ f.offset = off ∧ f.type = ft := by
  subst hf
  rw [List.getElem?_map] at h
  cases hx : fields.toList[i]? with
  | none => rw [hx] at h; cases h
  | some f =>
    rw [hx] at h
    simp only [Option.map_some, Option.some.injEq, Prod.mk.injEq] at h
    exact ⟨f, by simpa using hx, h.1, h.2⟩
section
variable {P : Program} {w : World}
theorem run_ptr_eq {t : TypeId} {el : Nat} (hp : (underlying t).run P w = .ok (.pointer el) w) (a : Option Addr) (x y : Operand) :
    (do eqGuard .eql t x y (.pointer a) (.pointer none); binOp .eql t (.pointer a) (.pointer none) : Sem Value).run P w = .ok (.bool a.isNone) w := by
  have e1 : binOp .eql t (.pointer a) (.pointer none) = (do pure (.bool (← Op.equal t (.pointer a) (.pointer none)))) := rfl
  have e2 : (Op.equalIn (9999 + 1) t (.pointer a) (.pointer none)).run P w = .ok a.isNone w := by
    unfold Op.equalIn
    cases a <;> simp [hp]
  rw [e1]
  simp [eqGuard, Op.equal, Op.maxDepth, e2]
theorem run_ptr_ne {t : TypeId} {el : Nat} (hp : (underlying t).run P w = .ok (.pointer el) w) (a : Option Addr) (x y : Operand) :
    (do eqGuard .neq t x y (.pointer a) (.pointer none); binOp .neq t (.pointer a) (.pointer none) : Sem Value).run P w = .ok (.bool !a.isNone) w := by
  have e1 : binOp .neq t (.pointer a) (.pointer none) = (do pure (.bool (!(← Op.equal t (.pointer a) (.pointer none))))) := rfl
  have e2 : (Op.equalIn (9999 + 1) t (.pointer a) (.pointer none)).run P w = .ok a.isNone w := by
    unfold Op.equalIn
    cases a <;> simp [hp]
  rw [e1]
  simp [eqGuard, Op.equal, Op.maxDepth, e2]
theorem run_bool_eq {t : TypeId} (hp : (underlying t).run P w = .ok .bool w) (a b : Bool) (x y : Operand) :
    (do eqGuard .eql t x y (.bool a) (.bool b); binOp .eql t (.bool a) (.bool b) : Sem Value).run P w = .ok (.bool (a == b)) w := by
  have e1 : binOp .eql t (.bool a) (.bool b) = (do pure (.bool (← Op.equal t (.bool a) (.bool b)))) := rfl
  have e2 : (Op.equalIn (9999 + 1) t (.bool a) (.bool b)).run P w = .ok (a == b) w := by
    unfold Op.equalIn
    simp [hp]
  rw [e1]
  simp [eqGuard, Op.equal, Op.maxDepth, e2]
theorem run_bool_ne {t : TypeId} (hp : (underlying t).run P w = .ok .bool w) (a b : Bool) (x y : Operand) :
    (do eqGuard .neq t x y (.bool a) (.bool b); binOp .neq t (.bool a) (.bool b) : Sem Value).run P w = .ok (.bool (!(a == b))) w := by
  have e1 : binOp .neq t (.bool a) (.bool b) = (do pure (.bool (!(← Op.equal t (.bool a) (.bool b))))) := rfl
  have e2 : (Op.equalIn (9999 + 1) t (.bool a) (.bool b)).run P w = .ok (a == b) w := by
    unfold Op.equalIn
    simp [hp]
  rw [e1]
  simp [eqGuard, Op.equal, Op.maxDepth, e2]
theorem run_fn_eq {t : TypeId} {p q : Array TypeId} {r : Bool} (hp : (underlying t).run P w = .ok (.func p q r) w) (f : Fn) (c d : Array Value) (x y : Operand) :
    (do eqGuard .eql t x y (.func f c d) .nilFunc; binOp .eql t (.func f c d) .nilFunc : Sem Value).run P w = .ok (.bool false) w := by
  have e1 : binOp .eql t (.func f c d) .nilFunc = (do pure (.bool (← Op.equal t (.func f c d) .nilFunc))) := rfl
  have e2 : (Op.equalIn (9999 + 1) t (.func f c d) .nilFunc).run P w = .ok false w := by
    unfold Op.equalIn
    simp [hp]
  rw [e1]
  simp [eqGuard, Op.equal, Op.maxDepth, e2]
theorem run_fn_ne {t : TypeId} {p q : Array TypeId} {r : Bool} (hp : (underlying t).run P w = .ok (.func p q r) w) (f : Fn) (c d : Array Value) (x y : Operand) :
    (do eqGuard .neq t x y (.func f c d) .nilFunc; binOp .neq t (.func f c d) .nilFunc : Sem Value).run P w = .ok (.bool true) w := by
  have e1 : binOp .neq t (.func f c d) .nilFunc = (do pure (.bool (!(← Op.equal t (.func f c d) .nilFunc)))) := rfl
  have e2 : (Op.equalIn (9999 + 1) t (.func f c d) .nilFunc).run P w = .ok false w := by
    unfold Op.equalIn
    simp [hp]
  rw [e1]
  simp [eqGuard, Op.equal, Op.maxDepth, e2]
end
section
variable {P : Program} {tt : List (Nat × TI)} (htt : TTok P tt) {ρ : Env} {w : World} {hl : Nat → Option AO} (hh : ∀ l o, hl l = some o → o.holds ρ (ρ l) w)
  {e : Operand → Option AV} {ec : Operand → Value} (he : ∀ x v, e x = some v → ec x = v.conc ρ)
include htt hh he
theorem act_field (t : TypeId) (x : Operand) (f : Nat) (v : AV) (h : act tt hl e (.field t x f) = some v) : (Instr.field t (ec x) f).run P w = .ok (v.conc ρ) w := by
  simp only [act] at h
  split at h
  · rename_i xs sz bt fs z h1 h2
    split at h
    · rename_i off ft h3
      obtain ⟨fields, hu, hf⟩ := und_st (htt _ _ h2) rfl
      obtain ⟨fd, hfd, rfl, rfl⟩ := fieldAt_st hf h3
      rw [he _ _ h1]
      simp [Instr.field, hu, hfd, AV.conc, asAgg, run_partA htt ρ _ _ _ _ w h]
    · cases h
  · cases h
theorem act_fieldAddr (t : TypeId) (x : Operand) (f : Nat) (v : AV) (h : act tt hl e (.fieldAddr t x f) = some v) : (Instr.fieldAt t (ec x) f).run P w = .ok (v.conc ρ) w := by
  simp only [act] at h
  split at h
  · rename_i l wd i c sz bt fs z h1 h2
    split at h
    · rename_i off ft h3
      split at h
      · rename_i k bt2 kk zz h4
        cases h
        obtain ⟨fields, hu, hf⟩ := und_st (htt _ _ h2) rfl
        obtain ⟨fd, hfd, rfl, rfl⟩ := fieldAt_st hf h3
        have e2 := (htt _ _ h4).run_size w
        rw [he _ _ h1]
        simp [Instr.fieldAt, hu, hfd, AV.conc, Instr.sureAddr, fieldPlace, e2, addr_add0, Nat.add_assoc]
      · cases h
    · cases h
  · rename_i b o sz bt fs z h1 h2
    split at h
    · rename_i off ft h3
      split at h
      · rename_i k bt2 kk zz h4
        cases h
        obtain ⟨fields, hu, hf⟩ := und_st (htt _ _ h2) rfl
        obtain ⟨fd, hfd, rfl, rfl⟩ := fieldAt_st hf h3
        have e2 := (htt _ _ h4).run_size w
        rw [he _ _ h1]
        simp [Instr.fieldAt, hu, hfd, AV.conc, Instr.sureAddr, fieldPlace, e2, addr_add0, Nat.add_assoc]
      · cases h
    · cases h
  · cases h
theorem act_load (t : TypeId) (x : Operand) (v : AV) (h : act tt hl e (.load t x) = some v) : (Instr.loadAt t (ec x)).run P w = .ok (v.conc ρ) w := by
  simp only [act] at h
  split at h
  · rename_i l wd i c ti h1 h2
    split at h
    · rename_i xs ty h3
      obtain ⟨b, hr, hb⟩ := hh _ _ h3
      rw [he _ _ h1]
      simp only [AV.conc, hr, Option.getD_some, Instr.loadAt, Instr.sureAddr, Sem.run_bind, Sem.run_pure, Result.andThen_ok]
      refine run_loadVar_cells (htt _ _ h2) hb _ ?_
      cases hk : ti.kind.isAgg <;> rw [hk] at h <;> simp only at h
      · simp only [Bool.false_eq_true, if_false]
        exact concs_get h
      · split at h
        · rename_i hle
          cases h
          simp only [if_true]
          rw [concs_length]
          refine ⟨by simpa using hle, ?_⟩
          simp only [AV.conc]
          rw [concs_drop, concs_take]
        · cases h
    · cases h
  · cases h
theorem act_binOp (op : BinOp) (t u : TypeId) (x y : Operand) (v : AV) (h : act tt hl e (.binOp op t x y u) = some v) :
    (do eqGuard op t x y (ec x) (ec y); binOp op t (ec x) (ec y) : Sem Value).run P w = .ok (v.conc ρ) w := by
  simp only [act] at h
  split at h
  · rename_i a b h1 h2
    rw [he _ _ h1, he _ _ h2]
    simp only [AV.conc]
    split at h
    · rename_i r hr
      cases h
      exact run_binV P op t x y a b r w hr
    · split at h <;> first | cases h | skip
      · rename_i h3 _; exact run_ptr_eq (und_ptr (htt _ _ h3) rfl w) none x y
      · rename_i h3 _; exact run_ptr_ne (und_ptr (htt _ _ h3) rfl w) none x y
      · rename_i h3 _; exact run_ptr_eq (und_ptr (htt _ _ h3) rfl w) (some _) x y
      · rename_i h3 _; exact run_ptr_ne (und_ptr (htt _ _ h3) rfl w) (some _) x y
      · rename_i h3 _; exact run_bool_eq (und_bool (htt _ _ h3) rfl w) _ _ x y
      · rename_i h3 _; exact run_bool_ne (und_bool (htt _ _ h3) rfl w) _ _ x y
  · rename_i h1 h2
    rw [he _ _ h1, he _ _ h2]
    split at h <;> first | cases h | skip
    · rename_i h3; exact run_ptr_eq (und_ptr (htt _ _ h3) rfl w) (some _) x y
    · rename_i h3; exact run_ptr_ne (und_ptr (htt _ _ h3) rfl w) (some _) x y
  · rename_i h1 h2
    rw [he _ _ h1, he _ _ h2]
    split at h <;> first | cases h | skip
    · rename_i h3; obtain ⟨p, q, r, hp⟩ := und_fnc (htt _ _ h3) rfl; exact run_fn_eq (hp w) _ _ _ x y
    · rename_i h3; obtain ⟨p, q, r, hp⟩ := und_fnc (htt _ _ h3) rfl; exact run_fn_ne (hp w) _ _ _ x y
  · cases h
theorem act_build (t : TypeId) (parts : Array (Nat × Operand)) (v : AV) (h : act tt hl e (.build t parts) = some v) :
    (Instr.build t (parts.map fun p => (p.1, ec p.2))).run P w = .ok (v.conc ρ) w := by
  simp only [act] at h
  split at h
  · rename_i ti l h1 h2
    have hz := (htt _ _ h1).run_zero w
    have hp := evParts_conc he _ _ h2
    split at h
    · rename_i fs hk
      split at h
      · rename_i hall
        obtain ⟨fields, hu, hf⟩ := und_st (htt _ _ h1) hk
        have hag : ti.kind.isAgg = true := by rw [hk]; rfl
        simp only [hag, if_true] at hz
        obtain ⟨out, ho, rfl⟩ := Option.map_eq_some_iff.1 h
        have hfill := fillA_fill _ ρ _ _ _ ho
        rw [conc_raw_list] at hfill
        have hm := run_mapM_array (P := P) (fun f : Field => do pure (f.offset, ← sizeOf f.type) : Field → Sem (Nat × Nat)) (fun f => (f.offset, (szA tt f.type).getD 0)) w fields (fun f hfm => by
          have hm : (f.offset, f.type) ∈ fs := by rw [← hf]; exact List.mem_map.2 ⟨f, hfm, rfl⟩
          have hs := List.all_eq_true.1 hall _ hm
          obtain ⟨ti2, h5⟩ := Option.isSome_iff_exists.1 hs
          have e2 := (htt _ _ h5).run_size w
          simp only at h5
          simp [e2, szA, h5])
        have hpl : (fun i => (fields.map fun f => (f.offset, (szA tt f.type).getD 0))[i]?) = placeA tt ti.kind := by
          funext i
          rw [hk]
          simp only [placeA, ← hf, List.getElem?_map, Array.getElem?_map, Array.getElem?_toList]
          cases hx : fields[i]? with
          | none => simp
          | some f =>
            have hm : (f.offset, f.type) ∈ fs := by rw [← hf]; exact List.mem_map.2 ⟨f, by simpa using Array.mem_of_getElem? hx, rfl⟩
            have hs := List.all_eq_true.1 hall _ hm
            obtain ⟨ti2, h5⟩ := Option.isSome_iff_exists.1 hs
            simp only at h5
            simp [szA, h5]
        simp only [Instr.build, Sem.run_bind, hz, Result.andThen_ok, hu, hm, Value.cells, Array.toList_map, hp, AV.conc]
        rw [hpl, hfill]
        rfl
      · cases h
    · rename_i n el hk
      split at h
      · rename_i hall
        have hu := und_arr (htt _ _ h1) hk w
        have hag : ti.kind.isAgg = true := by rw [hk]; rfl
        simp only [hag, if_true] at hz
        obtain ⟨out, ho, rfl⟩ := Option.map_eq_some_iff.1 h
        have hfill := fillA_fill _ ρ _ _ _ ho
        rw [conc_raw_list] at hfill
        obtain ⟨ti2, h5⟩ := Option.isSome_iff_exists.1 hall
        have e2 := (htt _ _ h5).run_size w
        have hpl : (fun i => some (i * ti2.size, ti2.size)) = placeA tt ti.kind := by
          funext i
          rw [hk]
          simp [placeA, h5]
        simp only [Instr.build, Sem.run_bind, hz, Result.andThen_ok, hu, e2, Value.cells, Array.toList_map, hp, AV.conc]
        rw [hpl, hfill]
        rfl
      · cases h
    · cases h
  · cases h
theorem act_len (t : TypeId) (x : Operand) (ty : TypeId) (v : AV) (h : act tt hl e (.call { callee := .builtin .len, args := #[x], argTypes := #[t] }) = some v) : (Builtin.len_ #[t] ty #[ec x]).run P w = .ok (v.conc ρ) w := by
  simp only [act] at h
  split at h
  · rename_i h1 h2
    cases h
    have hu := und_sl (htt _ _ h2) rfl w
    rw [he _ _ h1]
    simp [Builtin.len_, hu, AV.conc, goInt]
  · rename_i h1 h2
    cases h
    have hu := und_sl (htt _ _ h2) rfl w
    rw [he _ _ h1]
    simp [Builtin.len_, hu, AV.conc, goInt]
  · rename_i h1 h2
    cases h
    have hu := und_str (htt _ _ h2) rfl w
    rw [he _ _ h1]
    simp [Builtin.len_, hu, AV.conc, goInt]
  · rename_i h2
    cases h
    have hu := und_arr (htt _ _ h2) rfl w
    simp [Builtin.len_, hu, AV.conc, goInt]
  · cases h
/-- 'act' tells what an operation comes to. -/
theorem act_sound (o : Oper) (v : AV) (h : act tt hl e o.op = some v) : (execOp ec o).run P w = .ok (.value (v.conc ρ)) w := by
  unfold execOp
  cases ho : o.op <;> rw [ho] at h
  case move x => simp only [act] at h; simp [he _ _ h]
  case assign x => simp only [act] at h; simp [he _ _ h]
  case pick c a b =>
    simp only [act] at h
    split at h
    · rename_i h1; simp [he _ _ h1, he _ _ h, asBool, AV.conc]
    · rename_i h1; simp [he _ _ h1, he _ _ h, asBool, AV.conc]
    · cases h
  case extract t i =>
    simp only [act] at h
    split at h
    · rename_i h1
      have := concs_get (ρ := ρ) h
      simp [he _ _ h1, Instr.extract, AV.conc, this]
    · cases h
  case field t x f => simp [act_field htt hh he t x f v h]
  case fieldAddr t x f => simp [act_fieldAddr htt hh he t x f v h]
  case load t x => simp [act_load htt hh he t x v h]
  case binOp op t x y u => 
    have := act_binOp htt hh he op t u x y v h
    simp only [Sem.run_bind] at this ⊢
    simp [this]
  case nilCheck x =>
    simp only [act] at h
    split at h
    · rename_i h1; cases h; simp [he _ _ h1, AV.conc]
    · rename_i h1; cases h; simp [he _ _ h1, AV.conc]
    · rename_i h1; cases h; simp [he _ _ h1, AV.conc]
    · cases h
  case unOp op t x =>
    cases op <;> simp only [act] at h
    case not =>
      split at h
      · rename_i h1; cases h; simp [he _ _ h1, Op.unary, AV.conc]
      · cases h
    case neg =>
      split at h
      · rename_i h1; cases h; simp [he _ _ h1, Op.unary, Op.intArith, AV.conc]
      · cases h
    all_goals cases h
  case convert s d x =>
    simp only [act] at h
    split at h
    · rename_i u h1
      obtain ⟨r, hr, rfl⟩ := Option.map_eq_some_iff.1 h
      have := run_convV htt s d u r w hr
      simp [he _ _ h1, AV.conc, this]
    · cases h
  case build t parts => simp [act_build htt hh he t parts v h]
  case makeFunc fn first cs =>
    cases fn <;> simp only [act] at h
    case func f =>
      split at h
      · rename_i h1
        obtain ⟨l, h2, rfl⟩ := Option.map_eq_some_iff.1 h
        have := evList_conc he _ _ h2
        obtain rfl : first = #[] := by cases first; simp_all
        have hc : cs.map ec = (AV.concs ρ l).toArray := by rw [← this]; apply Array.ext'; simp
        simp [Instr.makeFunc, AV.conc, hc]
      · cases h
    all_goals cases h
  case call c =>
    obtain ⟨callee, args, argTypes⟩ := c
    simp only [act] at h
    split at h
    · rename_i x t h2 h3
      obtain rfl : args = #[x] := by cases args; simp_all
      obtain rfl : argTypes = #[t] := by cases argTypes; simp_all
      have hx : act tt hl e (.call { callee := .builtin .len, args := #[x], argTypes := #[t] }) = some v := by simp only [act]; exact h
      have := act_len htt hh he t x o.type v hx
      simp [resolve, invoke, builtin, this]
    · rename_i x y h2
      obtain rfl : args = #[x, y] := by cases args; simp_all
      split at h
      · rename_i h3 h4
        cases h
        simp [resolve, invoke, builtin, he _ _ h3, he _ _ h4, AV.conc, Builtin.max_, Builtin.max2, go_sem]
        omega
      · cases h
    · rename_i x y h2
      obtain rfl : args = #[x, y] := by cases args; simp_all
      split at h
      · rename_i h3 h4
        cases h
        simp [resolve, invoke, builtin, he _ _ h3, he _ _ h4, AV.conc, Builtin.min_, Builtin.min2, go_sem]
        omega
      · cases h
    · cases h
  all_goals (simp only [act] at h; cases h)
end
end Go.Proofs.YtaieficgifingaaGreatDoor
