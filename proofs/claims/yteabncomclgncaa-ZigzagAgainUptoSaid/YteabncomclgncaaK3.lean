/- The kernel, 3: what an operation gives that looks at most into memory, in one function. No program in sight. -/
import Derived.Test.YteabncomclgncaaK2
namespace Go.Proofs.Yteabncomclgncaa
set_option linter.unusedVariables false
set_option linter.unusedSimpArgs false
open Go.RowKit

theorem run_mapM_list {P : Program} {α β : Type} (f : α → Sem β) (g : α → β) (w : World) : ∀ l : List α, (∀ x ∈ l, (f x).run P w = .ok (g x) w) → (l.mapM f).run P w = .ok (l.map g) w := by
  intro l
  induction l with
  | nil => intro _; rfl
  | cons x l ih =>
    intro h
    rw [List.mapM_cons]
    simp [h x (by simp), ih (fun y hy => h y (by simp [hy]))]
theorem run_mapM_array {P : Program} {α β : Type} (f : α → Sem β) (g : α → β) (w : World) (l : Array α) (h : ∀ x ∈ l.toList, (f x).run P w = .ok (g x) w) : (l.mapM f).run P w = .ok (l.map g) w := by
  rw [Array.mapM_eq_mapM_toList]
  have := run_mapM_list (P := P) f g w l.toList h
  rw [← bind_pure_comp]
  simp only [Sem.run_bind, this, Result.andThen_ok, Sem.run_pure]
  congr 1
  apply Array.ext'
  simp

/-- what an operation gives -/
def act (tt : List (Nat × TI)) (hl : Nat → Option AO) (e : Operand → Option AV) : Op → Option AV
  | .move x => e x
  | .assign x => e x
  | .pick c a b => match e c with
    | some (.raw (.bool true)) => e a
    | some (.raw (.bool false)) => e b
    | _ => none
  | .extract t i => match e t with
    | some (.tup xs) => xs[i]?
    | _ => none
  | .field t x f => match e x, lk t tt with
    | some (.agg xs), some ⟨_, _, .st fs, _⟩ => match fs[f]? with
      | some (off, ft) => partA tt ft xs off
      | none => none
    | _, _ => none
  | .fieldAddr t x f => match e x, lk t tt with
    | some (.ptr l w i c), some ⟨_, _, .st fs, _⟩ => match fs[f]? with
      | some (off, ft) => match lk ft tt with
        | some ⟨k + 1, _, _, _⟩ => some (.ptr l w i (c + off))
        | _ => none
      | none => none
    | some (.raw (.pointer (some ⟨b, o, none⟩))), some ⟨_, _, .st fs, _⟩ => match fs[f]? with
      | some (off, ft) => match lk ft tt with
        | some ⟨k + 1, _, _, _⟩ => some (.raw (.pointer (some ⟨b, o + off, none⟩)))
        | _ => none
      | none => none
    | _, _ => none
  | .nilCheck x => match e x with
    | some (.ptr l w i c) => some (.ptr l w i c)
    | some (.fn f cs) => some (.fn f cs)
    | some (.raw (.pointer (some a))) => some (.raw (.pointer (some a)))
    | _ => none
  | .load t x => match e x, lk t tt with
    | some (.ptr l w i c), some ti => match hl l with
      | some (.cells xs _) => match ti.kind.isAgg with
        | true => match Nat.ble (i * w + c + ti.size) xs.length with
          | true => some (.agg ((xs.drop (i * w + c)).take ti.size))
          | false => none
        | false => xs[i * w + c]?
      | _ => none
    | _, _ => none
  | .binOp op t x y _ => match e x, e y with
    | some (.raw a), some (.raw b) => match binV op a b with
      | some v => some (.raw v)
      | none => match op, a, b, lk t tt with
        | .eql, .pointer none, .pointer none, some ⟨_, _, .ptr _, _⟩ => some (.raw (.bool true))
        | .neq, .pointer none, .pointer none, some ⟨_, _, .ptr _, _⟩ => some (.raw (.bool false))
        | .eql, .pointer (some _), .pointer none, some ⟨_, _, .ptr _, _⟩ => some (.raw (.bool false))
        | .neq, .pointer (some _), .pointer none, some ⟨_, _, .ptr _, _⟩ => some (.raw (.bool true))
        | .eql, .bool p, .bool q, some ⟨_, _, .bool, _⟩ => some (.raw (.bool (p == q)))
        | .neq, .bool p, .bool q, some ⟨_, _, .bool, _⟩ => some (.raw (.bool (!(p == q))))
        | _, _, _, _ => none
    | some (.ptr l w i c), some (.raw (.pointer none)) => match op, lk t tt with
      | .eql, some ⟨_, _, .ptr _, _⟩ => some (.raw (.bool false))
      | .neq, some ⟨_, _, .ptr _, _⟩ => some (.raw (.bool true))
      | _, _ => none
    | some (.fn f cs), some (.raw .nilFunc) => match op, lk t tt with
      | .eql, some ⟨_, _, .fnc, _⟩ => some (.raw (.bool false))
      | .neq, some ⟨_, _, .fnc, _⟩ => some (.raw (.bool true))
      | _, _ => none
    | _, _ => none
  | .unOp .not _ x => match e x with
    | some (.raw (.bool b)) => some (.raw (.bool (!b)))
    | _ => none
  | .unOp .neg _ x => match e x with
    | some (.raw (.int k n)) => some (.raw (.int k (k.wrap (0 - n))))
    | _ => none
  | .convert s d x => match e x with
    | some (.raw v) => (convV tt s d v).map .raw
    | _ => none
  | .build t parts => match lk t tt, evParts e parts.toList with
    | some ti, some l => match ti.kind with
      | .st fs => match fs.all fun p => (lk p.2 tt).isSome with
        | true => (fillA (placeA tt ti.kind) (ti.zero.map .raw) l).map .agg
        | false => none
      | .arr n el => match (lk el tt).isSome with
        | true => (fillA (placeA tt ti.kind) (ti.zero.map .raw) l).map .agg
        | false => none
      | _ => none
    | _, _ => none
  | .makeFunc (.func f) first cs => match first.toList with
    | [] => (evList e cs.toList).map (.fn f)
    | _ => none
  | .call c => match c.callee, c.args.toList, c.argTypes.toList with
    | .builtin .len, [x], [t] => match e x, lk t tt with
      | some (.sl l w off n cap), some ⟨_, _, .sl _, _⟩ => some (.raw (.int .i64 (n : Int)))
      | some (.raw (.slice a n cap)), some ⟨_, _, .sl _, _⟩ => some (.raw (.int .i64 (n : Int)))
      | some (.raw (.string s)), some ⟨_, _, .str, _⟩ => some (.raw (.int .i64 (s.size : Int)))
      | _, some ⟨_, _, .arr n _, _⟩ => some (.raw (.int .i64 (n : Int)))
      | _, _ => none
    | .builtin .max, [x, y], _ => match e x, e y with
      | some (.raw (.int k a)), some (.raw (.int _ b)) => some (.raw (.int k (max a b)))
      | _, _ => none
    | .builtin .min, [x, y], _ => match e x, e y with
      | some (.raw (.int k a)), some (.raw (.int _ b)) => some (.raw (.int k (min a b)))
      | _, _ => none
    | _, _, _ => none
  | _ => none
end Go.Proofs.Yteabncomclgncaa
