/- The kernel, 11: the steps in the form in which they are taken. No program in sight. -/
import Derived.Test.YteabncomclgncaaK10
namespace Go.Proofs.Yteabncomclgncaa
set_option linter.unusedVariables false
set_option linter.unusedSimpArgs false
set_option linter.unusedSectionVars false
open Go.RowKit

/-! the judgements behind names of their own, so that one is never taken for another -/
structure C (P : Program) (c : Code) (Q : Exit → Act → World → Prop) (E : Base) (n L : Nat) (τ : List (Nat × AV)) (h : List (Nat × AO)) (F : World → Prop) : Prop where
  mk :: (out : CL P c Q E n L τ h F)
structure X (Q : Exit → Act → World → Prop) (e : Exit) (E : Base) (n L : Nat) (τ : List (Nat × AV)) (h : List (Nat × AO)) (F : World → Prop) : Prop where
  mk :: (out : EX Q e E n L τ h F)
structure R (P : Program) (ops : Array Oper) (Q : Exit → Act → World → Prop) (D : Option DD) (E : Base) (n L : Nat) (τ : List (Nat × AV)) (h : List (Nat × AO)) (F : World → Prop) (rest : List Oper) : Prop where
  mk :: (out : RL P ops Q D E n L τ h F rest)

section
variable {P : Program} {Q : Exit → Act → World → Prop} {E : Base} {n L : Nat} {τ : List (Nat × AV)} {h : List (Nat × AO)} {F : World → Prop}
theorem C.region {id : Nat} {l : List Oper} (k : R P l.toArray Q none E n L τ h F l) : C P (.region id l.toArray false) Q E n L τ h F := ⟨CL.region k.out⟩
theorem C.draw (pr : List (List Nat)) (ch : List Nat) {id : Nat} {l : List Oper} (hm : P.follows .mixedOrders = true) (hB : edgesB l pr ch = true) (k : R P l.toArray Q (some ⟨0, pr, ch, [], []⟩) E n L τ h F l) :
    C P (.region id l.toArray true) Q E n L τ h F := ⟨CL.draw pr ch hm hB k.out⟩
theorem C.seq {x y : Code} (k : C P x (Exit.then (y.wp P Q) Q) E n L τ h F) : C P (.seq x y) Q E n L τ h F := ⟨CL.seq k.out⟩
theorem X.then {y : Code} (k : C P y Q E n L τ h F) : X (Exit.then (y.wp P Q) Q) .normal E n L τ h F := ⟨EX.then k.out⟩
theorem X.pass_ret {next : Act → World → Prop} (k : X Q .ret E n L τ h F) : X (Exit.then next Q) .ret E n L τ h F := ⟨k.out⟩
theorem X.pass_exit {next : Act → World → Prop} {id : Nat} (k : X Q (.exit id) E n L τ h F) : X (Exit.then next Q) (.exit id) E n L τ h F := ⟨k.out⟩
theorem X.block_normal {id : Nat} (k : X Q .normal E n L τ h F) : X (Exit.inBlock id Q) .normal E n L τ h F := ⟨k.out⟩
theorem X.block_ret {id : Nat} (k : X Q .ret E n L τ h F) : X (Exit.inBlock id Q) .ret E n L τ h F := ⟨k.out⟩
theorem X.block_exit {id : Nat} (k : X Q .normal E n L τ h F) : X (Exit.inBlock id Q) (.exit id) E n L τ h F := ⟨EX.block_exit k.out⟩
theorem X.block_other {id id' : Nat} (hne : Nat.beq id' id = false) (k : X Q (.exit id') E n L τ h F) : X (Exit.inBlock id Q) (.exit id') E n L τ h F := ⟨EX.block_other hne k.out⟩
theorem R.done {ops : Array Oper} {D : Option DD} (k : X Q .normal E n L τ h F) : R P ops Q D E n L τ h F [] := ⟨RL.done k.out⟩
theorem C.skip (k : X Q .normal E n L τ h F) : C P .skip Q E n L τ h F := ⟨CL.skip k.out⟩
theorem C.ret (k : X Q .ret E n L τ h F) : C P .ret Q E n L τ h F := ⟨CL.ret k.out⟩
theorem C.exit {id : Nat} (k : X Q (.exit id) E n L τ h F) : C P (.exit id) Q E n L τ h F := ⟨CL.exit k.out⟩
theorem C.block {id : Nat} {c : Code} (k : C P c (Exit.inBlock id Q) E n L τ h F) : C P (.block id c) Q E n L τ h F := ⟨CL.block k.out⟩
theorem C.cond {c : Operand} {x y : Code} {b : Bool} (hc : evA τ c = some (.raw (.bool b))) (kt : b = true → C P x Q E n L τ h F) (kf : b = false → C P y Q E n L τ h F) : C P (.cond c x y) Q E n L τ h F := ⟨CL.cond hc (fun e => (kt e).out) (fun e => (kf e).out)⟩
theorem C.tru {c : Operand} {x y : Code} (hc : evA τ c = some (.raw (.bool true))) (kt : C P x Q E n L τ h F) : C P (.cond c x y) Q E n L τ h F := ⟨CL.cond_true hc kt.out⟩
theorem C.fls {c : Operand} {x y : Code} (hc : evA τ c = some (.raw (.bool false))) (kf : C P y Q E n L τ h F) : C P (.cond c x y) Q E n L τ h F := ⟨CL.cond_false hc kf.out⟩
/-- a test's outcome, told by a proposition -/
theorem C.dec {c : Operand} {x y : Code} {p : Prop} [Decidable p] (hc : evA τ c = some (.raw (.bool (decide p)))) (kt : p → C P x Q E n L τ h F) (kf : ¬ p → C P y Q E n L τ h F) : C P (.cond c x y) Q E n L τ h F :=
  ⟨CL.cond_dec hc (fun e => (kt e).out) (fun e => (kf e).out)⟩
theorem C.yes {c : Operand} {x y : Code} {b : Bool} (hc : evA τ c = some (.raw (.bool b))) (hb : b = true) (kt : C P x Q E n L τ h F) : C P (.cond c x y) Q E n L τ h F := C.tru (by rw [hc, hb]) kt
theorem C.no {c : Operand} {x y : Code} {b : Bool} (hc : evA τ c = some (.raw (.bool b))) (hb : b = false) (kf : C P y Q E n L τ h F) : C P (.cond c x y) Q E n L τ h F := C.fls (by rw [hc, hb]) kf
theorem X.ret {tt : List (Nat × TI)} (htt : TTok P tt) {fn : Func} {R : Ending → World → Prop} {vs : List AV} (hr : resA tt h τ fn.results.toList = some vs) (k : ∀ ρ a w, Gam E ρ n L τ h F a w → R (.returned ((resV vs).conc ρ)) w) (hd : E.df = [] := by rfl) : X (bodyPost P fn R) .ret E n L τ h F := ⟨EX.ret htt hr k hd⟩
theorem X.end_ {tt : List (Nat × TI)} (htt : TTok P tt) {fn : Func} {R : Ending → World → Prop} {vs : List AV} (hr : resA tt h τ fn.results.toList = some vs) (k : ∀ ρ a w, Gam E ρ n L τ h F a w → R (.returned ((resV vs).conc ρ)) w) (hd : E.df = [] := by rfl) : X (bodyPost P fn R) .normal E n L τ h F := ⟨EX.end_ htt hr k hd⟩
end
section
variable {P : Program} {ops : Array Oper} {Q : Exit → Act → World → Prop} {D : Option DD} {E : Base} {n L : Nat} {τ : List (Nat × AV)} {h : List (Nat × AO)} {F : World → Prop} {rest : List Oper}
  {d : Nat} {op : Op} {ty : TypeId} {ps : String} {af : Array Edge} {gd : Option (Nat × Bool)} {tt : List (Nat × TI)}
/-- moves, fields, loads, sums .. -/
theorem R.s (htt : TTok P tt) {v : AV} (ha : act tt (fun l => hk l h) (evA τ) op = some v) (hg : wantA ops ⟨some d, op, ty, ps, af, gd⟩ τ = some true)
    (hb : (Nat.ble (d + 1) n && lookB D (rdL τ op) && (rdL τ op).all (fun l => Nat.ble (l + 1) L)) = true)
    (k : R P ops Q (lookD D (rdL τ op)) E n L ((d, v) :: τ) h F rest) : R P ops Q D E n L τ h F (⟨some d, op, ty, ps, af, gd⟩ :: rest) := by
  simp only [Bool.and_eq_true] at hb
  exact ⟨RL.step htt v ha hg hb.1.1 hb.1.2 k.out hb.2⟩
/-- a number that is told in another way -/
theorem R.w (htt : TTok P tt) {k0 : IntKind} {x : Int} (ha : act tt (fun l => hk l h) (evA τ) op = some (.raw (.int k0 (k0.wrap x)))) (hx : k0.wrap x = x) (hg : wantA ops ⟨some d, op, ty, ps, af, gd⟩ τ = some true)
    (hb : (Nat.ble (d + 1) n && lookB D (rdL τ op) && (rdL τ op).all (fun l => Nat.ble (l + 1) L)) = true)
    (k : R P ops Q (lookD D (rdL τ op)) E n L ((d, .raw (.int k0 x)) :: τ) h F rest) : R P ops Q D E n L τ h F (⟨some d, op, ty, ps, af, gd⟩ :: rest) :=
  R.s htt (by rw [ha, hx]) hg hb k
theorem R.v (htt : TTok P tt) {v : Value} (u : Value) (ha : act tt (fun l => hk l h) (evA τ) op = some (.raw v)) (hx : v = u) (hg : wantA ops ⟨some d, op, ty, ps, af, gd⟩ τ = some true)
    (hb : (Nat.ble (d + 1) n && lookB D (rdL τ op) && (rdL τ op).all (fun l => Nat.ble (l + 1) L)) = true)
    (k : R P ops Q (lookD D (rdL τ op)) E n L ((d, .raw u) :: τ) h F rest) : R P ops Q D E n L τ h F (⟨some d, op, ty, ps, af, gd⟩ :: rest) :=
  R.s htt (by rw [ha, hx]) hg hb k
theorem R.k {op : Op} (hg : wantA ops ⟨some d, op, ty, ps, af, gd⟩ τ = some false) (hd : Nat.ble (d + 1) n = true) (k : R P ops Q (skipD h D) E n L ((d, .raw undef) :: τ) h F rest) : R P ops Q D E n L τ h F (⟨some d, op, ty, ps, af, gd⟩ :: rest) :=
  ⟨RL.skip hg hd k.out⟩
theorem R.k0 {op : Op} (hg : wantA ops ⟨none, op, ty, ps, af, gd⟩ τ = some false) (k : R P ops Q (skipD h D) E n L τ h F rest) : R P ops Q D E n L τ h F (⟨none, op, ty, ps, af, gd⟩ :: rest) :=
  ⟨RL.skip hg rfl k.out⟩
theorem R.a (htt : TTok P tt) {t : TypeId} {ti : TI} (ht : lk t tt = some ti) (hg : wantA ops ⟨some d, .alloc t, ty, ps, af, gd⟩ τ = some true) (hb : (Nat.ble (d + 1) n && chainB h D []) = true)
    (k : R P ops Q (actD h D []) E n (L + 1) ((d, .ptr L 0 0 0) :: τ) ((L, .cells (ti.zero.map .raw) t) :: h) F rest) : R P ops Q D E n L τ h F (⟨some d, .alloc t, ty, ps, af, gd⟩ :: rest) := by
  simp only [Bool.and_eq_true] at hb
  exact ⟨RL.alloc htt t ti rfl ht hg hb.1 hb.2 k.out⟩
theorem R.b {t : TypeId} {x : Operand} {v : AV} {xs : List AV} (hx : evA τ x = some v) (hc : v.cellsA = some xs) (hg : wantA ops ⟨some d, .box t x, ty, ps, af, gd⟩ τ = some true) (hb : (Nat.ble (d + 1) n && chainB h D []) = true)
    (k : R P ops Q (actD h D []) E n (L + 1) ((d, .ptr L 0 0 0) :: τ) ((L, .cells xs t) :: h) F rest) : R P ops Q D E n L τ h F (⟨some d, .box t x, ty, ps, af, gd⟩ :: rest) := by
  simp only [Bool.and_eq_true] at hb
  exact ⟨RL.box t x v xs rfl hx hc hg hb.1 hb.2 k.out⟩
/-- a cell alone turned, others laid anew: put together at once -/
def spl1 (xs : List AV) (k : Nat) (ys : List AV) : List AV := match xs, k, ys with
  | xs, _, [] => xs
  | [], _, _ => []
  | _ :: xs, 0, y :: ys => y :: spl1 xs 0 ys
  | x :: xs, k + 1, ys => x :: spl1 xs k ys
theorem spl1_eq : ∀ (xs : List AV) (k : Nat) (ys : List AV), k + ys.length ≤ xs.length → spl1 xs k ys = spl xs k ys
  | [], k, [], _ => by simp [spl1, spl]
  | x :: xs, 0, [], _ => by simp [spl1, spl]
  | x :: xs, k + 1, [], _ => by simp [spl1, spl]
  | [], k, y :: ys, h => by simp at h
  | x :: xs, 0, y :: ys, h => by
    have := spl1_eq xs 0 ys (by simp at h; omega)
    simp only [spl1, this, spl]
    simp
  | x :: xs, k + 1, y :: ys, h => by
    have := spl1_eq xs k (y :: ys) (by simp at h ⊢; omega)
    simp only [spl1, this, spl]
    rw [show k + 1 + (y :: ys).length = k + (y :: ys).length + 1 by omega, List.drop_succ_cons]
    simp
theorem R.st (htt : TTok P tt) {t : TypeId} {x y : Operand} {l w0 i c : Nat} {v : AV} {ti : TI} {ys xs zs : List AV} {T : TypeId} (hx : evA τ x = some (.ptr l w0 i c)) (hy : evA τ y = some v) (ht : lk t tt = some ti) (hc : v.cellsA = some ys)
    (hl : hk l h = some (.cells xs T)) (hz : spl1 xs (i * w0 + c) ys = zs) (hg : wantA ops ⟨none, .store t x y, ty, ps, af, gd⟩ τ = some true) (hb : (Nat.beq ys.length ti.size && Nat.ble (i * w0 + c + ys.length) xs.length && ys.all AV.oneB && chainB h D [l]) = true)
    (k : R P ops Q (actD h D [l]) E n L τ ((l, .cells zs T) :: h) F rest) : R P ops Q D E n L τ h F (⟨none, .store t x y, ty, ps, af, gd⟩ :: rest) := by
  simp only [Bool.and_eq_true] at hb
  obtain ⟨⟨⟨h1, h2⟩, h3⟩, h4⟩ := hb
  have hfit : i * w0 + c + ys.length ≤ xs.length := by simpa [Nat.ble_eq] using h2
  rw [spl1_eq _ _ _ hfit] at hz
  subst hz
  exact ⟨RL.store htt t x y l w0 i c v ti ys xs T rfl hx hy ht hc hl (Nat.eq_of_beq_eq_true h1) h2 h3 hg rfl h4 k.out⟩
end
end Go.Proofs.Yteabncomclgncaa
