/- The kernel, 1: abstract values (blocks by labels), abstract memory, what an operation gives of them. No program in sight. -/
import Derived.WalkKit
import Derived.WalkSpells
import Derived.WalkLawsBesides
import Derived.Lib.Hide
namespace Go.Proofs.Yteabncomclgncaa
set_option linter.unusedVariables false
set_option linter.unusedSimpArgs false
open Go.RowKit

/-- A value in which memory is named by labels. -/
inductive AV where
  | raw (v : Value)
  | ptr (l w i c : Nat)
  | sl (l w off n cap : Nat)
  | agg (xs : List AV)
  | tup (xs : List AV)
  | fn (f : FuncId) (cs : List AV)
instance : Inhabited AV := ⟨.raw default⟩
abbrev Env := Nat → Option Nat
mutual
def AV.conc (ρ : Env) : AV → Value
  | .raw v => v
  | .ptr l w i c => .pointer (some ⟨(ρ l).getD 0, i * w + c, none⟩)
  | .sl l w off n cap => .slice ((ρ l).map fun b => ⟨b, off * w, none⟩) n cap
  | .agg xs => .agg (AV.concs ρ xs).toArray
  | .tup xs => .tuple (AV.concs ρ xs).toArray
  | .fn f cs => .func (.func f) #[] (AV.concs ρ cs).toArray
def AV.concs (ρ : Env) : List AV → List Value
  | [] => []
  | x :: xs => x.conc ρ :: AV.concs ρ xs
end
theorem concs_map (ρ : Env) (xs : List AV) : AV.concs ρ xs = xs.map (AV.conc ρ) := by
  induction xs with
  | nil => rfl
  | cons x xs ih => rw [AV.concs, ih]; rfl
theorem concs_length (ρ : Env) (xs : List AV) : (AV.concs ρ xs).length = xs.length := by rw [concs_map]; simp
/-- it reads the same whatever the labels from L on mean -/
def AV.Low (ρ : Env) (L : Nat) (v : AV) : Prop := ∀ ρ' : Env, (∀ l, l < L → ρ' l = ρ l) → v.conc ρ' = v.conc ρ
theorem AV.Low.mono {ρ : Env} {L L' : Nat} {v : AV} (h : v.Low ρ L) (hl : L ≤ L') : v.Low ρ L' := fun ρ' he => h ρ' fun l hh => he l (by omega)
theorem AV.Low.ext {ρ ρ1 : Env} {L : Nat} {v : AV} (h : v.Low ρ L) (he : ∀ l, l < L → ρ1 l = ρ l) : v.Low ρ1 L := fun ρ' h' => (h ρ' fun l hl => (h' l hl).trans (he l hl)).trans (h ρ1 he).symm
theorem AV.Low.raw (ρ : Env) (L : Nat) (v : Value) : (AV.raw v).Low ρ L := fun _ _ => by simp [AV.conc]

/-- What lies at a label: cells that are known; or a slice's own block (nil too), its elements known as far as n. -/
inductive AO where
  | cells (xs : List AV) (ty : TypeId)
  | bytes (p : List UInt8) (cap : Nat) (ty : TypeId)
  | tab (w n cap : Nat) (f : Nat → List AV) (ty : TypeId)
  | ro (w off n : Nat) (f : Nat → List AV)
  | gone
def AO.isRo : AO → Bool
  | .ro .. => true
  | _ => false
def byteV (b : UInt8) : Value := .int .u8 (b.toNat : Int)
def AO.holds (ρ : Env) (r : Option Nat) (w : World) : AO → Prop
  | .cells xs ty => ∃ b, r = some b ∧ w.heap[b]? = some (.cells (AV.concs ρ xs).toArray ty (0, 0))
  | .bytes p cap ty => p.length ≤ cap ∧ ((r = none ∧ cap = 0) ∨ ∃ b cur, r = some b ∧ w.heap[b]? = some (.cells cur ty (0, 0)) ∧ cur.size = cap ∧ ∀ i (h : i < p.length), cur[i]? = some (byteV p[i]))
  | .tab wd n cap f ty => n ≤ cap ∧ (∀ i, i < n → (f i).length = wd) ∧ ((r = none ∧ cap = 0) ∨ ∃ b cur, r = some b ∧ w.heap[b]? = some (.cells cur ty (0, 0)) ∧ cur.size = cap * wd ∧ ∀ i c x, i < n → (f i)[c]? = some x → cur[i * wd + c]? = some (x.conc ρ))
  | .ro wd off n f => (r = none ∧ n = 0) ∨ ∃ b cur ty fr, r = some b ∧ w.heap[b]? = some (.cells cur ty fr) ∧ ∀ i c x, i < n → (f i)[c]? = some x → cur[(off + i) * wd + c]? = some (x.conc ρ)
  | .gone => True
def AO.Low (ρ : Env) (L : Nat) (o : AO) : Prop := ∀ ρ' : Env, (∀ l, l < L → ρ' l = ρ l) → ∀ r w, o.holds ρ r w ↔ o.holds ρ' r w
theorem AO.Low.mono {ρ : Env} {L L' : Nat} {o : AO} (h : o.Low ρ L) (hl : L ≤ L') : o.Low ρ L' := fun ρ' he => h ρ' fun l hh => he l (by omega)
theorem AO.Low.ext {ρ ρ1 : Env} {L : Nat} {o : AO} (h : o.Low ρ L) (he : ∀ l, l < L → ρ1 l = ρ l) : o.Low ρ1 L := fun ρ' h' r w => ((h ρ1 he r w).symm.trans (h ρ' (fun l hl => (h' l hl).trans (he l hl)) r w))
theorem concs_low {ρ : Env} {L : Nat} {xs : List AV} (h : ∀ x ∈ xs, x.Low ρ L) (ρ' : Env) (he : ∀ l, l < L → ρ' l = ρ l) : AV.concs ρ' xs = AV.concs ρ xs := by
  rw [concs_map, concs_map]
  exact List.map_congr_left fun x hx => h x hx ρ' he
theorem AO.Low.cells {ρ : Env} {L : Nat} {xs : List AV} (ty : TypeId) (h : ∀ x ∈ xs, x.Low ρ L) : (AO.cells xs ty).Low ρ L := fun ρ' he r w => by
  simp only [AO.holds, concs_low h ρ' he]
theorem AO.Low.bytes (ρ : Env) (L : Nat) (p : List UInt8) (cap : Nat) (ty : TypeId) : (AO.bytes p cap ty).Low ρ L := fun _ _ _ _ => Iff.rfl
theorem AO.Low.tab {ρ : Env} {L w n cap : Nat} {f : Nat → List AV} (ty : TypeId) (h : ∀ i, i < n → ∀ x ∈ f i, x.Low ρ L) : (AO.tab w n cap f ty).Low ρ L := fun ρ' he r W => by
  have key : ∀ i c (x : AV), i < n → (f i)[c]? = some x → x.conc ρ' = x.conc ρ := fun i c x hi hx => h i hi x (List.mem_of_getElem? hx) ρ' he
  constructor
  · rintro ⟨h1, h2, h3⟩
    refine ⟨h1, h2, h3.imp id ?_⟩
    rintro ⟨b, cur, hr, hb, hs, hc⟩
    exact ⟨b, cur, hr, hb, hs, fun i c x hi hx => by rw [key i c x hi hx]; exact hc i c x hi hx⟩
  · rintro ⟨h1, h2, h3⟩
    refine ⟨h1, h2, h3.imp id ?_⟩
    rintro ⟨b, cur, hr, hb, hs, hc⟩
    exact ⟨b, cur, hr, hb, hs, fun i c x hi hx => by rw [← key i c x hi hx]; exact hc i c x hi hx⟩

theorem AO.Low.ro {ρ : Env} {L w off n : Nat} {f : Nat → List AV} (h : ∀ i, i < n → ∀ x ∈ f i, x.Low ρ L) : (AO.ro w off n f).Low ρ L := fun ρ' he r W => by
  have key : ∀ i c (x : AV), i < n → (f i)[c]? = some x → x.conc ρ' = x.conc ρ := fun i c x hi hx => h i hi x (List.mem_of_getElem? hx) ρ' he
  constructor
  · intro h3
    refine h3.imp id ?_
    rintro ⟨b, cur, ty, fr, hr, hb, hc⟩
    exact ⟨b, cur, ty, fr, hr, hb, fun i c x hi hx => by rw [key i c x hi hx]; exact hc i c x hi hx⟩
  · intro h3
    refine h3.imp id ?_
    rintro ⟨b, cur, ty, fr, hr, hb, hc⟩
    exact ⟨b, cur, ty, fr, hr, hb, fun i c x hi hx => by rw [← key i c x hi hx]; exact hc i c x hi hx⟩

/-- lookup by number -/
def lk {α : Type} (t : Nat) : List (Nat × α) → Option α
  | [] => none
  | (s, v) :: r => match Nat.beq s t with
    | true => some v
    | false => lk t r
/-- what lies at a label -/
def hk (l : Nat) (h : List (Nat × AO)) : Option AO := match lk l h with
  | some .gone => none
  | r => r
theorem lk_cons {α : Type} (t s : Nat) (v : α) (r : List (Nat × α)) : lk t ((s, v) :: r) = if s = t then some v else lk t r := by
  by_cases h : s = t
  · subst h; simp [lk]
  · have : Nat.beq s t = false := by
      cases e : Nat.beq s t with
      | true => exact absurd (Nat.eq_of_beq_eq_true e) h
      | false => rfl
    simp [lk, this, h]

theorem hk_cons (l s : Nat) (o : AO) (r : List (Nat × AO)) : hk l ((s, o) :: r) = if s = l then (match o with | .gone => none | o => some o) else hk l r := by
  unfold hk
  rw [lk_cons]
  by_cases h : s = l
  · simp only [h, if_true]
    cases o <;> rfl
  · simp only [h, if_false]
/-! types -/
inductive TK where
  | bool | int (k : IntKind) | str | ptr (e : Nat) | sl (e : Nat) | arr (n e : Nat) | st (fs : List (Nat × Nat)) | fnc | oth
structure TI where
  size : Nat
  bytes : Nat
  kind : TK
  zero : List Value
def TK.isAgg : TK → Bool
  | .arr .. | .st .. => true
  | _ => false
/-- what is told of a type is so -/
structure TIok (P : Program) (t : TypeId) (ti : TI) : Prop where
  info : ∃ i z, P.info? t = some i ∧ i.size = ti.size ∧ i.bytes = ti.bytes ∧ i.zero = some z ∧ z.cells.toList = ti.zero ∧ z = (if ti.kind.isAgg then .agg ti.zero.toArray else ti.zero.headD undef)
  und : ∃ d, P.underlying t = some d ∧ match ti.kind with
    | .bool => d = .bool
    | .int k => d = .int k
    | .str => d = .string
    | .ptr e => d = .pointer e
    | .sl e => d = .slice e
    | .arr n e => d = .array n e
    | .fnc => ∃ a b c, d = .func a b c
    | .st fs => ∃ fields, d = .struct fields ∧ fields.toList.map (fun f => (f.offset, f.type)) = fs
    | .oth => (match d with | .struct _ | .array _ _ => false | _ => true) = true
def TTok (P : Program) (tt : List (Nat × TI)) : Prop := ∀ t ti, lk t tt = some ti → TIok P t ti
theorem TTok.nil (P : Program) : TTok P [] := fun t ti h => by simp [lk] at h
theorem TTok.cons {P : Program} {t : Nat} {ti : TI} {r : List (Nat × TI)} (h : TIok P t ti) (hr : TTok P r) : TTok P ((t, ti) :: r) := fun s si hs => by
  rw [lk_cons] at hs
  split at hs
  · rename_i e; subst e; cases hs; exact h
  · exact hr s si hs
section
variable {P : Program} {t : TypeId} {ti : TI}
theorem TIok.run_info (h : TIok P t ti) (w : World) : ∃ i z, (typeInfo t).run P w = .ok i w ∧ i.size = ti.size ∧ i.bytes = ti.bytes ∧ i.zero = some z ∧ z.cells.toList = ti.zero ∧ z = (if ti.kind.isAgg then .agg ti.zero.toArray else ti.zero.headD undef) := by
  obtain ⟨i, z, h1, h2⟩ := h.info
  exact ⟨i, z, by simp [typeInfo, h1, go_sem], h2⟩
theorem TIok.run_size (h : TIok P t ti) (w : World) : (sizeOf t).run P w = .ok ti.size w := by
  obtain ⟨i, z, h1, h2, _⟩ := h.run_info w
  simp [sizeOf, h1, h2]
theorem TIok.run_zero (h : TIok P t ti) (w : World) : (zeroValue t).run P w = .ok (if ti.kind.isAgg then .agg ti.zero.toArray else ti.zero.headD undef) w := by
  obtain ⟨i, z, h1, h2, h3, h4, h5, h6⟩ := h.run_info w
  rw [← h6]
  simp [zeroValue, h1, h4]
theorem TIok.run_isAgg (h : TIok P t ti) (w : World) : (isAgg t).run P w = .ok ti.kind.isAgg w := by
  obtain ⟨d, h1, h2⟩ := h.und
  have e : (underlying t).run P w = .ok d w := by simp [underlying, h1]
  cases hk : ti.kind <;> rw [hk] at h2 <;> simp only at h2
  case oth => cases d <;> simp_all [isAgg, TK.isAgg]
  case st fs => obtain ⟨fields, rfl, _⟩ := h2; simp [isAgg, e, TK.isAgg]
  case fnc => obtain ⟨x, y, z, rfl⟩ := h2; simp [isAgg, e, TK.isAgg]
  all_goals (subst h2; simp [isAgg, e, TK.isAgg])
end

/-! states -/
/-- outside of what may have turned, the world is as it was -/
structure Ag (D : Nat → Prop) (w w' : World) : Prop where
  os : w'.os = w.os
  tape : w'.tape = w.tape
  output : w'.output = w.output
  size : w.heap.size ≤ w'.heap.size
  block : ∀ b, b < w.heap.size → D b → w'.heap[b]? = w.heap[b]?
theorem Ag.refl (D : Nat → Prop) (w : World) : Ag D w w := ⟨rfl, rfl, rfl, Nat.le_refl _, fun _ _ _ => rfl⟩
theorem Ag.trans {D : Nat → Prop} {w1 w2 w3 : World} (h : Ag D w1 w2) (k : Ag D w2 w3) : Ag D w1 w3 :=
  ⟨k.os.trans h.os, k.tape.trans h.tape, k.output.trans h.output, Nat.le_trans h.size k.size, fun b hb hd => (k.block b (Nat.lt_of_lt_of_le hb h.size) hd).trans (h.block b hb hd)⟩
theorem Ag.trans2 {D D' : Nat → Prop} {w1 w2 w3 : World} (h : Ag D w1 w2) (k : Ag D' w2 w3) (hd : ∀ b, b < w1.heap.size → D b → D' b) : Ag D w1 w3 :=
  ⟨k.os.trans h.os, k.tape.trans h.tape, k.output.trans h.output, Nat.le_trans h.size k.size, fun b hb hb' => (k.block b (Nat.lt_of_lt_of_le hb h.size) (hd b hb hb')).trans (h.block b hb hb')⟩
theorem Ag.mono {D D' : Nat → Prop} {w w' : World} (h : Ag D w w') (hd : ∀ b, b < w.heap.size → D' b → D b) : Ag D' w w' := ⟨h.os, h.tape, h.output, h.size, fun b hb h' => h.block b hb (hd b hb h')⟩
theorem Ag.of_below {B : Nat} {w w' : World} (h : Below B w w') : Ag (fun b => b < B) w w' := ⟨h.os, h.tape, h.output, h.size, fun b _ hb => h.block b hb⟩
theorem Ag.below {B : Nat} {w w' : World} (h : Ag (fun b => b < B) w w') (hB : B ≤ w.heap.size) : Below B w w' := ⟨h.os, h.tape, h.output, h.size, fun b hb => h.block b (by omega) hb⟩

/-- a label whose block may be written -/
def wrA (l : Nat) (h : List (Nat × AO)) : Prop := ∃ o, hk l h = some o ∧ o.isRo = false
theorem wrA.live {l : Nat} {h : List (Nat × AO)} (hw : wrA l h) : hk l h ≠ none := by
  obtain ⟨o, h1, _⟩ := hw
  rw [h1]; simp
structure Base where
  N : Nat
  ρ : Env
  df : List Deferred
/-- The world and the frame are as told: slots τ, memory h at labels below L; F: what is told of all other memory. -/
structure Gam (E : Base) (ρ : Env) (n L : Nat) (τ : List (Nat × AV)) (h : List (Nat × AO)) (F : World → Prop) (a : Act) (w : World) : Prop where
  df : a.defers = E.df
  sz : a.tmps.size = n
  tm : ∀ t v, lk t τ = some v → v.Low ρ L ∧ a.tmps[t]? = some (v.conc ρ)
  hp : ∀ l o, hk l h = some o → l < L ∧ o.Low ρ L ∧ o.holds ρ (ρ l) w
  dis : ∀ l l' b, wrA l h → hk l' h ≠ none → ρ l = some b → ρ l' = some b → l = l'
  fr : ∀ w', Ag (fun b => ∀ l, wrA l h → ρ l ≠ some b) w w' → F w'
  ex : ∀ l, l < E.N → ρ l = E.ρ l
  le : E.N ≤ L
  al : ∀ l b, l < L → ρ l = some b → b < w.heap.size

/-- an operand's value -/
def evA (τ : List (Nat × AV)) : Operand → Option AV
  | .tmp t => lk t τ
  | .const v => some (.raw v)
  | .global g => some (.raw (.pointer (some ⟨g, 0, none⟩)))
  | .func f => some (.fn f [])
theorem Gam.eval {E : Base} {ρ : Env} {n L : Nat} {τ : List (Nat × AV)} {h : List (Nat × AO)} {F : World → Prop} {a : Act} {w : World} (g : Gam E ρ n L τ h F a w)
    (x : Operand) (v : AV) (hv : evA τ x = some v) : v.Low ρ L ∧ a.eval x = v.conc ρ := by
  cases x with
  | tmp t =>
    have := g.tm t v hv
    refine ⟨this.1, ?_⟩
    simp only [Act.eval, Array.getD_eq_getD_getElem?, this.2, Option.getD_some]
  | const c => cases hv; exact ⟨AV.Low.raw _ _ _, rfl⟩
  | global c => cases hv; exact ⟨AV.Low.raw _ _ _, rfl⟩
  | func c => cases hv; exact ⟨fun _ _ => rfl, rfl⟩
end Go.Proofs.Yteabncomclgncaa
