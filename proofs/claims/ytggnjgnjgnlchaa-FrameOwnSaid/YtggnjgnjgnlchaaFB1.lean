/- frame: lists of bodies; fit, sealed -/
import Derived.Test.YtggnjgnjgnlchaaFB0
import Derived.Test.YtggnjgnjgnlchaaFSA
namespace Go.Proofs.Ytggnjgnjgnlchaa
set_option linter.unusedVariables false
set_option linter.unusedSimpArgs false
set_option linter.unusedSectionVars false
open Go.RowKit
set_option maxRecDepth 100000
set_option maxHeartbeats 4000000
/-- a body that is handed in: its bytes, where they lie -/
structure By where
  p : List UInt8
  a : Option Addr
  c : Nat
def zB : By := ⟨[], none, 0⟩
def By.ok (fs : Fam) (r : By) : Prop := r.p = [] ∨ ∃ b off ob, r.a = some ⟨b, off, none⟩ ∧ (⟨false, b, ob⟩ : Fact) ∈ fs ∧ Is b ob (.ro 1 off r.p.length (bytesF r.p))
def byF (ys : List By) (i : Nat) : List AV := [.raw (.slice (ys.getD i zB).a (ys.getD i zB).p.length (ys.getD i zB).c)]
abbrev roY (off : Nat) (ys : List By) : AO := .ro 1 off ys.length (byF ys)
abbrev pY (ys : List By) : List (List UInt8) := ys.map By.p
theorem roBy_bd (N o : Nat) (q : List UInt8) : (AO.ro 1 o q.length (bytesF q)).Bd N := fun i hi => rfl
section
variable {P : Program} {ops : Array Oper} {Q : Exit → Act → World → Prop} {D : Option DD} {E : Base} {n L : Nat} {τ : List (Nat × AV)} {h : List (Nat × AO)} {rest : List Oper} {h0 : List AO} {ρ0 : Env} {w0 : World} {fs0 fs : Fam}
theorem R.labY {r : By} (hr : r.ok fs) (hne : 0 < r.p.length) (t : Nat) (hv : lk t τ = some (.raw (.slice r.a r.p.length r.c)))
    (k : ∀ off, R P ops Q D E n (L + 1) ((t, .sl L 1 off r.p.length r.c) :: τ) ((L, .ro 1 off r.p.length (bytesF r.p)) :: h) (FF h0 ρ0 w0 fs0 fs) rest) : R P ops Q D E n L τ h (FF h0 ρ0 w0 fs0 fs) rest := by
  rcases hr with hr | ⟨b, off, ob, ha, hf, ho⟩
  · rw [hr] at hne; simp at hne
  · refine R.lab ⟨false, b, ob⟩ hf t (.sl L 1 off r.p.length r.c) hv rfl (fun ρ hρ => ?_) (by simp [AV.bd, Nat.ble_eq]) ho (roBy_bd _ _ _) (k off)
    simp [AV.conc, hρ, ha]
end
def total (ps : List (List UInt8)) : Nat := (ps.map List.length).sum
theorem sAll_length (ps : List (List UInt8)) : (sAll ps).length = total ps + 8 * ps.length := by
  induction ps with
  | nil => rfl
  | cons p ps ih =>
    rw [sAll_cons, List.length_append, sealB_length, ih]
    simp only [total, List.map_cons, List.sum_cons, List.length_cons]
    omega
structure FitP (ps : List (List UInt8)) : Prop where
  len : ps.length ≤ 200
  ok : OkB ps
  sum : total ps ≤ 100000
theorem take_snoc {α : Type} (l : List α) (i : Nat) (d : α) (h : i < l.length) : l.take (i + 1) = l.take i ++ [l.getD i d] := by
  rw [List.take_add_one, List.getElem?_eq_getElem h]
  simp [List.getD, h]
theorem total_snoc (ps : List (List UInt8)) (p : List UInt8) : total (ps ++ [p]) = total ps + p.length := by simp [total]
theorem pY_get (ys : List By) (i : Nat) (h : i < ys.length) : (pY ys).getD i [] = (ys.getD i zB).p := by simp [List.getD, h]
theorem total_take (ps : List (List UInt8)) : ∀ i, total (ps.take i) ≤ total ps := by
  induction ps with
  | nil => intro i; simp
  | cons p ps ih =>
    intro i
    cases i with
    | zero => simp [total]
    | succ i =>
      have := ih i
      simp only [List.take_succ_cons, total, List.map_cons, List.sum_cons] at *
      omega
theorem fit_spec (off c : Nat) (ys : List By) (hl : ys.length ≤ 9223372036854775807) (hpl : ∀ r ∈ ys, r.p.length ≤ 9223372036854775807) : Spec Try.prog 26 [.sl 0 1 off ys.length c] [roY off ys] 1 (σ := Bool) (fun b => b = true → FitP (pY ys)) (fun b => .raw (.bool b)) (fun _ => []) := by
  refine Spec.of Try.func26 rfl Try.ntmps26 rfl (by repeat (first | exact bdl_nil _ | refine bdl_cons (fun _ _ => rfl) ?_ | refine bdl_cons trivial ?_ | refine bdl_cons rfl ?_ | refine bdl_cons (rowsF_bd _ _ _ _) ?_ | refine bdl_cons (rowsS_bd _ _ _ _) ?_)) fun ρ w => ?_
  repeat (first | refine C.seq ?_ | refine C.region ?_ | refine R.zb ttok ?_ | refine R.zu ttok ?_ | refine R.zc ttok ?_ | refine R.za ttok ?_ | refine R.zx ?_ | refine R.zl ttok ?_ | refine R.zs ttok ?_ | refine R.z ttok ?_ | refine R.zk ?_ | refine R.zn ?_ | refine R.done ?_ | refine X.then ?_ | refine C.block ?_ | refine C.ret ?_ | refine C.skip ?_ | refine C.exit ?_ | refine X.pass_ret ?_ | refine X.pass_exit ?_ | refine X.block_normal ?_ | refine X.block_ret ?_ | refine X.block_exit ?_ | refine C.zt ?_ | refine C.zf ?_ | refine X.zo ?_)
  by_cases h1 : (200 : Int) < ys.length
  · rw [decide_eq_true h1]
    repeat (first | refine C.seq ?_ | refine C.region ?_ | refine R.zb ttok ?_ | refine R.zu ttok ?_ | refine R.zc ttok ?_ | refine R.za ttok ?_ | refine R.zx ?_ | refine R.zl ttok ?_ | refine R.zs ttok ?_ | refine R.z ttok ?_ | refine R.zk ?_ | refine R.zn ?_ | refine R.done ?_ | refine X.then ?_ | refine C.block ?_ | refine C.ret ?_ | refine C.skip ?_ | refine C.exit ?_ | refine X.pass_ret ?_ | refine X.pass_exit ?_ | refine X.block_normal ?_ | refine X.block_ret ?_ | refine X.block_exit ?_ | refine C.zt ?_ | refine C.zf ?_ | refine X.zo ?_)
    refine X.fin ttok false [] (fun h => by cases h) rfl rfl rfl (by repeat (first | exact HasH.nil | refine HasH.same rfl rfl rfl trivial ?_ | refine HasH.same rfl rfl rfl rfl ?_ | refine HasH.same rfl rfl rfl (fun _ _ => rfl) ?_ | refine HasH.ros rfl rfl ?_)) _ (by first | exact .inl rfl | exact .inr rfl)
  rw [decide_eq_false h1]
  repeat (first | refine C.seq ?_ | refine C.region ?_ | refine R.zb ttok ?_ | refine R.zu ttok ?_ | refine R.zc ttok ?_ | refine R.za ttok ?_ | refine R.zx ?_ | refine R.zl ttok ?_ | refine R.zs ttok ?_ | refine R.z ttok ?_ | refine R.zk ?_ | refine R.zn ?_ | refine R.done ?_ | refine X.then ?_ | refine C.block ?_ | refine C.ret ?_ | refine C.skip ?_ | refine C.exit ?_ | refine X.pass_ret ?_ | refine X.pass_exit ?_ | refine X.block_normal ?_ | refine X.block_ret ?_ | refine X.block_exit ?_ | refine C.zt ?_ | refine C.zf ?_ | refine X.zo ?_)
  refine C.loop (σ := Nat) (L2 := 1) (fun i => i ≤ ys.length ∧ OkB ((pY ys).take i) ∧ total ((pY ys).take i) ≤ 100000) (fun i => [(0, .sl 0 1 off ys.length c), (3, .raw (.int .i64 (total ((pY ys).take i) : Nat))), (4, .raw (.int .i64 (i : Nat)))]) (fun _ => [(0, roY off ys)]) _ (fun i => ys.length - i) [] 0 ⟨Nat.zero_le _, fun p hp => by simp at hp, by simp [total]⟩ rfl (by repeat (first | exact HasT.nil | refine HasT.cons rfl rfl rfl ?_)) (by repeat (first | exact HasH.nil | refine HasH.same rfl rfl rfl trivial ?_ | refine HasH.same rfl rfl rfl rfl ?_ | refine HasH.same rfl rfl rfl (fun _ _ => rfl) ?_ | refine HasH.ros rfl rfl ?_)) rfl (fun _ h => h) ?_
  rintro i ⟨hi, hok, hs⟩
  repeat (first | refine C.seq ?_ | refine C.region ?_ | refine R.zb ttok ?_ | refine R.zu ttok ?_ | refine R.zc ttok ?_ | refine R.za ttok ?_ | refine R.zx ?_ | refine R.zl ttok ?_ | refine R.zs ttok ?_ | refine R.z ttok ?_ | refine R.zk ?_ | refine R.zn ?_ | refine R.done ?_ | refine X.then ?_ | refine C.block ?_ | refine C.ret ?_ | refine C.skip ?_ | refine C.exit ?_ | refine X.pass_ret ?_ | refine X.pass_exit ?_ | refine X.block_normal ?_ | refine X.block_ret ?_ | refine X.block_exit ?_ | refine C.zt ?_ | refine C.zf ?_ | refine X.zo ?_)
  by_cases hlt : (i : Int) < (ys.length : Nat)
  · rw [decide_eq_true hlt]
    have hlt' : i < ys.length := by omega
    have hmem : ys.getD i zB ∈ ys := by
      rw [List.getD_eq_getElem?_getD, List.getElem?_eq_getElem hlt']
      exact List.getElem_mem hlt'
    have hp2 := hpl _ hmem
    have htk : (pY ys).take (i + 1) = (pY ys).take i ++ [(ys.getD i zB).p] := by rw [take_snoc _ _ [] (by simpa using hlt'), pY_get _ _ hlt']
    repeat (first | refine C.seq ?_ | refine C.region ?_ | refine R.zb ttok ?_ | refine R.zu ttok ?_ | refine R.zc ttok ?_ | refine R.za ttok ?_ | refine R.zx ?_ | refine R.zl ttok ?_ | refine R.zs ttok ?_ | refine R.z ttok ?_ | refine R.zk ?_ | refine R.zn ?_ | refine R.done ?_ | refine X.then ?_ | refine C.block ?_ | refine C.ret ?_ | refine C.skip ?_ | refine C.exit ?_ | refine X.pass_ret ?_ | refine X.pass_exit ?_ | refine X.block_normal ?_ | refine X.block_ret ?_ | refine X.block_exit ?_ | refine C.zt ?_ | refine C.zf ?_ | refine X.zo ?_)
    refine R.ix ttok i rfl rfl rfl rfl rfl (by kernel_rfl) rfl hlt' (by show _ ≤ _ ∧ _ < _; omega) rfl ?_
    refine R.ldo (v := .raw (.slice (ys.getD i zB).a (ys.getD i zB).p.length (ys.getD i zB).c)) ttok rfl rfl rfl rfl rfl (by kernel_rfl) hlt' ?_
    repeat (first | refine C.seq ?_ | refine C.region ?_ | refine R.zb ttok ?_ | refine R.zu ttok ?_ | refine R.zc ttok ?_ | refine R.za ttok ?_ | refine R.zx ?_ | refine R.zl ttok ?_ | refine R.zs ttok ?_ | refine R.z ttok ?_ | refine R.zk ?_ | refine R.zn ?_ | refine R.done ?_ | refine X.then ?_ | refine C.block ?_ | refine C.ret ?_ | refine C.skip ?_ | refine C.exit ?_ | refine X.pass_ret ?_ | refine X.pass_exit ?_ | refine X.block_normal ?_ | refine X.block_ret ?_ | refine X.block_exit ?_ | refine C.zt ?_ | refine C.zf ?_ | refine X.zo ?_)
    by_cases hz : ((ys.getD i zB).p.length : Int) = 0
    · rw [decide_eq_true hz]
      repeat (first | refine C.seq ?_ | refine C.region ?_ | refine R.zb ttok ?_ | refine R.zu ttok ?_ | refine R.zc ttok ?_ | refine R.za ttok ?_ | refine R.zx ?_ | refine R.zl ttok ?_ | refine R.zs ttok ?_ | refine R.z ttok ?_ | refine R.zk ?_ | refine R.zn ?_ | refine R.done ?_ | refine X.then ?_ | refine C.block ?_ | refine C.ret ?_ | refine C.skip ?_ | refine C.exit ?_ | refine X.pass_ret ?_ | refine X.pass_exit ?_ | refine X.block_normal ?_ | refine X.block_ret ?_ | refine X.block_exit ?_ | refine C.zt ?_ | refine C.zf ?_ | refine X.zo ?_)
      refine X.fin ttok false [] (fun h => by cases h) rfl rfl rfl (by repeat (first | exact HasH.nil | refine HasH.same rfl rfl rfl trivial ?_ | refine HasH.same rfl rfl rfl rfl ?_ | refine HasH.same rfl rfl rfl (fun _ _ => rfl) ?_ | refine HasH.ros rfl rfl ?_)) _ (by first | exact .inl rfl | exact .inr rfl)
    rw [decide_eq_false hz]
    repeat (first | refine C.seq ?_ | refine C.region ?_ | refine R.zb ttok ?_ | refine R.zu ttok ?_ | refine R.zc ttok ?_ | refine R.za ttok ?_ | refine R.zx ?_ | refine R.zl ttok ?_ | refine R.zs ttok ?_ | refine R.z ttok ?_ | refine R.zk ?_ | refine R.zn ?_ | refine R.done ?_ | refine X.then ?_ | refine C.block ?_ | refine C.ret ?_ | refine C.skip ?_ | refine C.exit ?_ | refine X.pass_ret ?_ | refine X.pass_exit ?_ | refine X.block_normal ?_ | refine X.block_ret ?_ | refine X.block_exit ?_ | refine C.zt ?_ | refine C.zf ?_ | refine X.zo ?_)
    refine R.ix ttok i rfl rfl rfl rfl rfl (by kernel_rfl) rfl hlt' (by show _ ≤ _ ∧ _ < _; omega) rfl ?_
    refine R.ldo (v := .raw (.slice (ys.getD i zB).a (ys.getD i zB).p.length (ys.getD i zB).c)) ttok rfl rfl rfl rfl rfl (by kernel_rfl) hlt' ?_
    repeat (first | refine C.seq ?_ | refine C.region ?_ | refine R.zb ttok ?_ | refine R.zu ttok ?_ | refine R.zc ttok ?_ | refine R.za ttok ?_ | refine R.zx ?_ | refine R.zl ttok ?_ | refine R.zs ttok ?_ | refine R.z ttok ?_ | refine R.zk ?_ | refine R.zn ?_ | refine R.done ?_ | refine X.then ?_ | refine C.block ?_ | refine C.ret ?_ | refine C.skip ?_ | refine C.exit ?_ | refine X.pass_ret ?_ | refine X.pass_exit ?_ | refine X.block_normal ?_ | refine X.block_ret ?_ | refine X.block_exit ?_ | refine C.zt ?_ | refine C.zf ?_ | refine X.zo ?_)
    by_cases hg : (65536 : Int) < ((ys.getD i zB).p.length : Nat)
    · rw [decide_eq_true hg]
      repeat (first | refine C.seq ?_ | refine C.region ?_ | refine R.zb ttok ?_ | refine R.zu ttok ?_ | refine R.zc ttok ?_ | refine R.za ttok ?_ | refine R.zx ?_ | refine R.zl ttok ?_ | refine R.zs ttok ?_ | refine R.z ttok ?_ | refine R.zk ?_ | refine R.zn ?_ | refine R.done ?_ | refine X.then ?_ | refine C.block ?_ | refine C.ret ?_ | refine C.skip ?_ | refine C.exit ?_ | refine X.pass_ret ?_ | refine X.pass_exit ?_ | refine X.block_normal ?_ | refine X.block_ret ?_ | refine X.block_exit ?_ | refine C.zt ?_ | refine C.zf ?_ | refine X.zo ?_)
      refine X.fin ttok false [] (fun h => by cases h) rfl rfl rfl (by repeat (first | exact HasH.nil | refine HasH.same rfl rfl rfl trivial ?_ | refine HasH.same rfl rfl rfl rfl ?_ | refine HasH.same rfl rfl rfl (fun _ _ => rfl) ?_ | refine HasH.ros rfl rfl ?_)) _ (by first | exact .inl rfl | exact .inr rfl)
    rw [decide_eq_false hg]
    repeat (first | refine C.seq ?_ | refine C.region ?_ | refine R.zb ttok ?_ | refine R.zu ttok ?_ | refine R.zc ttok ?_ | refine R.za ttok ?_ | refine R.zx ?_ | refine R.zl ttok ?_ | refine R.zs ttok ?_ | refine R.z ttok ?_ | refine R.zk ?_ | refine R.zn ?_ | refine R.done ?_ | refine X.then ?_ | refine C.block ?_ | refine C.ret ?_ | refine C.skip ?_ | refine C.exit ?_ | refine X.pass_ret ?_ | refine X.pass_exit ?_ | refine X.block_normal ?_ | refine X.block_ret ?_ | refine X.block_exit ?_ | refine C.zt ?_ | refine C.zf ?_ | refine X.zo ?_)
    refine R.ix ttok i rfl rfl rfl rfl rfl (by kernel_rfl) rfl hlt' (by show _ ≤ _ ∧ _ < _; omega) rfl ?_
    refine R.ldo (v := .raw (.slice (ys.getD i zB).a (ys.getD i zB).p.length (ys.getD i zB).c)) ttok rfl rfl rfl rfl rfl (by kernel_rfl) hlt' ?_
    repeat (first | refine C.seq ?_ | refine C.region ?_ | refine R.zb ttok ?_ | refine R.zu ttok ?_ | refine R.zc ttok ?_ | refine R.za ttok ?_ | refine R.zx ?_ | refine R.zl ttok ?_ | refine R.zs ttok ?_ | refine R.z ttok ?_ | refine R.zk ?_ | refine R.zn ?_ | refine R.done ?_ | refine X.then ?_ | refine C.block ?_ | refine C.ret ?_ | refine C.skip ?_ | refine C.exit ?_ | refine X.pass_ret ?_ | refine X.pass_exit ?_ | refine X.block_normal ?_ | refine X.block_ret ?_ | refine X.block_exit ?_ | refine C.zt ?_ | refine C.zf ?_ | refine X.zo ?_)
    by_cases hb : (100000 : Int) < (total ((pY ys).take i) : Nat) + ((ys.getD i zB).p.length : Nat)
    · rw [decide_eq_true hb]
      repeat (first | refine C.seq ?_ | refine C.region ?_ | refine R.zb ttok ?_ | refine R.zu ttok ?_ | refine R.zc ttok ?_ | refine R.za ttok ?_ | refine R.zx ?_ | refine R.zl ttok ?_ | refine R.zs ttok ?_ | refine R.z ttok ?_ | refine R.zk ?_ | refine R.zn ?_ | refine R.done ?_ | refine X.then ?_ | refine C.block ?_ | refine C.ret ?_ | refine C.skip ?_ | refine C.exit ?_ | refine X.pass_ret ?_ | refine X.pass_exit ?_ | refine X.block_normal ?_ | refine X.block_ret ?_ | refine X.block_exit ?_ | refine C.zt ?_ | refine C.zf ?_ | refine X.zo ?_)
      refine X.fin ttok false [] (fun h => by cases h) rfl rfl rfl (by repeat (first | exact HasH.nil | refine HasH.same rfl rfl rfl trivial ?_ | refine HasH.same rfl rfl rfl rfl ?_ | refine HasH.same rfl rfl rfl (fun _ _ => rfl) ?_ | refine HasH.ros rfl rfl ?_)) _ (by first | exact .inl rfl | exact .inr rfl)
    rw [decide_eq_false hb]
    repeat (first | refine C.seq ?_ | refine C.region ?_ | refine R.zb ttok ?_ | refine R.zu ttok ?_ | refine R.zc ttok ?_ | refine R.za ttok ?_ | refine R.zx ?_ | refine R.zl ttok ?_ | refine R.zs ttok ?_ | refine R.z ttok ?_ | refine R.zk ?_ | refine R.zn ?_ | refine R.done ?_ | refine X.then ?_ | refine C.block ?_ | refine C.ret ?_ | refine C.skip ?_ | refine C.exit ?_ | refine X.pass_ret ?_ | refine X.pass_exit ?_ | refine X.block_normal ?_ | refine X.block_ret ?_ | refine X.block_exit ?_ | refine C.zt ?_ | refine C.zf ?_ | refine X.zo ?_)
    have htot : total ((pY ys).take (i + 1)) = total ((pY ys).take i) + (ys.getD i zB).p.length := by rw [htk, total_snoc]
    refine X.back [] (i + 1) ⟨by omega, fun p hp => ?_, by omega⟩ (by omega) rfl (.cons rfl rfl rfl (.cons rfl (by rw [htot, Int.natCast_add]; rfl) rfl (.cons rfl rfl rfl .nil))) (by repeat (first | exact HasH.nil | refine HasH.same rfl rfl rfl trivial ?_ | refine HasH.same rfl rfl rfl rfl ?_ | refine HasH.same rfl rfl rfl (fun _ _ => rfl) ?_ | refine HasH.ros rfl rfl ?_)) rfl (fun _ h => h)
    rw [htk] at hp
    rcases List.mem_append.1 hp with hp | hp
    · exact hok p hp
    · obtain rfl : p = (ys.getD i zB).p := by simpa using hp
      exact ⟨by omega, by omega⟩
  · rw [decide_eq_false hlt]
    repeat (first | refine C.seq ?_ | refine C.region ?_ | refine R.zb ttok ?_ | refine R.zu ttok ?_ | refine R.zc ttok ?_ | refine R.za ttok ?_ | refine R.zx ?_ | refine R.zl ttok ?_ | refine R.zs ttok ?_ | refine R.z ttok ?_ | refine R.zk ?_ | refine R.zn ?_ | refine R.done ?_ | refine X.then ?_ | refine C.block ?_ | refine C.ret ?_ | refine C.skip ?_ | refine C.exit ?_ | refine X.pass_ret ?_ | refine X.pass_exit ?_ | refine X.block_normal ?_ | refine X.block_ret ?_ | refine X.block_exit ?_ | refine C.zt ?_ | refine C.zf ?_ | refine X.zo ?_)
    have : (pY ys).take i = pY ys := List.take_of_length_le (by simp; omega)
    rw [this] at hok hs
    refine X.fin ttok true [] (fun _ => ⟨by simp; omega, hok, hs⟩) rfl rfl rfl (by repeat (first | exact HasH.nil | refine HasH.same rfl rfl rfl trivial ?_ | refine HasH.same rfl rfl rfl rfl ?_ | refine HasH.same rfl rfl rfl (fun _ _ => rfl) ?_ | refine HasH.ros rfl rfl ?_)) _ (by first | exact .inl rfl | exact .inr rfl)
/-! numbers in rows -/
def inF (l : List Nat) (i : Nat) : List AV := [.raw (.int .i64 (l.getD i 0 : Nat))]
def ins (l : List Nat) : List AV := l.map fun x => .raw (.int .i64 (x : Nat))
theorem ins_app (a b : List Nat) : ins (a ++ b) = ins a ++ ins b := List.map_append
theorem flat_in (l : List Nat) : ∀ m, m ≤ l.length → flat (inF l) m = ins (l.take m)
  | 0, _ => by simp [flat, ins]
  | m + 1, h => by
    rw [flat_add, flat_in l m (by omega), take_snoc l m 0 (by omega), ins_app]
    simp [flat, ins, inF]
theorem flat_in0 (l : List Nat) : flat (inF l) l.length = ins l := by
  have := flat_in l l.length (Nat.le_refl _)
  simpa using this
abbrev tbN (l : List Nat) (c : Nat) : AO := .tab 1 l.length c (inF l) 3
section
variable {E : Base} {n L : Nat} {τ : List (Nat × AV)} {h : List (Nat × AO)} {F : World → Prop}
theorem asIn (T : TypeId) (l : List Nat) (xs : List AV) (hx : xs = ins l) : AsRow (fun c => .tab 1 l.length c (inF l) T) T 1 xs := by
  rw [hx, ← flat_in0]
  exact AsRow.tab T (by decide) fun i _ => rfl
theorem dstIn {lab cap : Nat} {l : List Nat} {T : TypeId} (hl : hk lab h = some (.tab 1 l.length cap (inF l) T)) : DstA E n L τ h F (.sl lab 1 0 l.length cap) T 1 l.length cap (ins l) [lab] := by
  have := DstA.tab (E := E) (n := n) (L := L) (τ := τ) (F := F) (by decide) hl fun i _ => rfl
  rwa [flat_in0] at this
end
theorem sealed_spec (off c : Nat) (ys : List By) (fs : Fam) (hro : ∀ p ∈ fs, p.rw = false) (hok : ∀ r ∈ ys, r.ok fs) (hP : FitP (pY ys)) :
    SpecF Try.prog 27 [.sl 0 1 off ys.length c] [roY off ys] 3 fs (σ := Nat × Nat) (fun s => s.1 ≤ 9223372036854775807 ∧ s.2 ≤ 9223372036854775807) (fun s => .tup [.sl 1 1 0 (sAll (pY ys)).length s.1, .sl 2 1 0 (endsF (pY ys) 0).length s.2, .raw (.bool true)])
    (fun s => [(1, .bytes (sAll (pY ys)) s.1 5), (2, tbN (endsF (pY ys) 0) s.2)]) (fun _ => fs) := by
  have hyl : ys.length ≤ 200 := by have := hP.len; simpa using this
  refine SpecF.of Try.func27 rfl Try.ntmps27 rfl (by repeat (first | exact bdl_nil _ | refine bdl_cons (fun _ _ => rfl) ?_ | refine bdl_cons trivial ?_ | refine bdl_cons rfl ?_ | refine bdl_cons (rowsF_bd _ _ _ _) ?_ | refine bdl_cons (rowsS_bd _ _ _ _) ?_)) fun ρ w => ?_
  repeat (first | refine C.seq ?_ | refine C.region ?_ | refine R.zb ttok ?_ | refine R.zu ttok ?_ | refine R.zc ttok ?_ | refine R.za ttok ?_ | refine R.zx ?_ | refine R.zl ttok ?_ | refine R.zs ttok ?_ | refine R.z ttok ?_ | refine R.zk ?_ | refine R.zn ?_ | refine R.done ?_ | refine X.then ?_ | refine C.block ?_ | refine C.ret ?_ | refine C.skip ?_ | refine C.exit ?_ | refine X.pass_ret ?_ | refine X.pass_exit ?_ | refine X.block_normal ?_ | refine X.block_ret ?_ | refine X.block_exit ?_ | refine C.zt ?_ | refine C.zf ?_ | refine X.zo ?_)
  rw [decide_eq_false (show ¬ (200 : Int) < ys.length by omega)]
  repeat (first | refine C.seq ?_ | refine C.region ?_ | refine R.zb ttok ?_ | refine R.zu ttok ?_ | refine R.zc ttok ?_ | refine R.za ttok ?_ | refine R.zx ?_ | refine R.zl ttok ?_ | refine R.zs ttok ?_ | refine R.z ttok ?_ | refine R.zk ?_ | refine R.zn ?_ | refine R.done ?_ | refine X.then ?_ | refine C.block ?_ | refine C.ret ?_ | refine C.skip ?_ | refine C.exit ?_ | refine X.pass_ret ?_ | refine X.pass_exit ?_ | refine X.block_normal ?_ | refine X.block_ret ?_ | refine X.block_exit ?_ | refine C.zt ?_ | refine C.zf ?_ | refine X.zo ?_)
  refine C.noneT 5 (.sl 1 1 0 0 0) (.bytes [] 0 5) (none_bytes _ _) rfl rfl rfl (fun ρ h => by have h : ρ 1 = none := h; simp [AV.conc, h]) ?_
  refine C.noneT 6 (.sl 2 1 0 0 0) (.tab 1 0 0 (inF []) 3) (none_tab _ _ _ _) rfl rfl rfl (fun ρ h => by have h : ρ 2 = none := h; simp [AV.conc, h]) ?_
  refine C.loop (σ := Nat × Nat × Nat) (L2 := 3) (fun s => s.1 ≤ ys.length ∧ s.2.1 ≤ 9223372036854775807 ∧ s.2.2 ≤ 9223372036854775807) (fun s => [(0, .sl 0 1 off ys.length c), (5, .sl 1 1 0 (sAll ((pY ys).take s.1)).length s.2.1), (6, .sl 2 1 0 (endsF ((pY ys).take s.1) 0).length s.2.2), (7, .raw (.int .i64 (s.1 : Nat)))])
    (fun s => [(0, roY off ys), (1, .bytes (sAll ((pY ys).take s.1)) s.2.1 5), (2, tbN (endsF ((pY ys).take s.1) 0) s.2.2)]) _ (fun s => ys.length - s.1) [] (0, 0, 0) ⟨Nat.zero_le _, by simp, by simp⟩ rfl (by repeat (first | exact HasT.nil | refine HasT.cons rfl rfl rfl ?_)) (by repeat (first | exact HasH.nil | refine HasH.same rfl rfl rfl trivial ?_ | refine HasH.same rfl rfl rfl rfl ?_ | refine HasH.same rfl rfl rfl (fun _ _ => rfl) ?_ | refine HasH.ros rfl rfl ?_)) rfl (fun _ h => h) ?_
  rintro ⟨i, cb, ce⟩ ⟨hi, hcb, hce⟩
  dsimp only at hi hcb hce ⊢
  repeat (first | refine C.seq ?_ | refine C.region ?_ | refine R.zb ttok ?_ | refine R.zu ttok ?_ | refine R.zc ttok ?_ | refine R.za ttok ?_ | refine R.zx ?_ | refine R.zl ttok ?_ | refine R.zs ttok ?_ | refine R.z ttok ?_ | refine R.zk ?_ | refine R.zn ?_ | refine R.done ?_ | refine X.then ?_ | refine C.block ?_ | refine C.ret ?_ | refine C.skip ?_ | refine C.exit ?_ | refine X.pass_ret ?_ | refine X.pass_exit ?_ | refine X.block_normal ?_ | refine X.block_ret ?_ | refine X.block_exit ?_ | refine C.zt ?_ | refine C.zf ?_ | refine X.zo ?_)
  by_cases hlt : (i : Int) < (ys.length : Nat)
  · rw [decide_eq_true hlt]
    have hlt' : i < ys.length := by omega
    have hmem : ys.getD i zB ∈ ys := by
      rw [List.getD_eq_getElem?_getD, List.getElem?_eq_getElem hlt']
      exact List.getElem_mem hlt'
    have htk : (pY ys).take (i + 1) = (pY ys).take i ++ [(ys.getD i zB).p] := by rw [take_snoc _ _ [] (by simpa using hlt'), pY_get _ _ hlt']
    have hpp := hP.ok (ys.getD i zB).p (List.mem_map.2 ⟨_, hmem, rfl⟩)
    have htl : ((pY ys).take i).length = i := by rw [List.length_take]; simp; omega
    have hsl := sAll_length ((pY ys).take i)
    have htt := total_take (pY ys) i
    have hsum := hP.sum
    rw [htl] at hsl
    have hends : endsF ((pY ys).take (i + 1)) 0 = endsF ((pY ys).take i) 0 ++ [(sAll ((pY ys).take (i + 1))).length] := by
      rw [htk, endsF_snoc, sAll_snoc, List.length_append, sealB_length]
      congr 2
      omega
    have hel := endsF_length ((pY ys).take i) 0
    rw [htl] at hel
    repeat (first | refine C.seq ?_ | refine C.region ?_ | refine R.zb ttok ?_ | refine R.zu ttok ?_ | refine R.zc ttok ?_ | refine R.za ttok ?_ | refine R.zx ?_ | refine R.zl ttok ?_ | refine R.zs ttok ?_ | refine R.z ttok ?_ | refine R.zk ?_ | refine R.zn ?_ | refine R.done ?_ | refine X.then ?_ | refine C.block ?_ | refine C.ret ?_ | refine C.skip ?_ | refine C.exit ?_ | refine X.pass_ret ?_ | refine X.pass_exit ?_ | refine X.block_normal ?_ | refine X.block_ret ?_ | refine X.block_exit ?_ | refine C.zt ?_ | refine C.zf ?_ | refine X.zo ?_)
    refine R.ix ttok i rfl rfl rfl rfl rfl (by kernel_rfl) rfl hlt' (by show _ ≤ _ ∧ _ < _; omega) rfl ?_
    refine R.ldo (v := .raw (.slice (ys.getD i zB).a (ys.getD i zB).p.length (ys.getD i zB).c)) ttok rfl rfl rfl rfl rfl (by kernel_rfl) hlt' ?_
    repeat (first | refine C.seq ?_ | refine C.region ?_ | refine R.zb ttok ?_ | refine R.zu ttok ?_ | refine R.zc ttok ?_ | refine R.za ttok ?_ | refine R.zx ?_ | refine R.zl ttok ?_ | refine R.zs ttok ?_ | refine R.z ttok ?_ | refine R.zk ?_ | refine R.zn ?_ | refine R.done ?_ | refine X.then ?_ | refine C.block ?_ | refine C.ret ?_ | refine C.skip ?_ | refine C.exit ?_ | refine X.pass_ret ?_ | refine X.pass_exit ?_ | refine X.block_normal ?_ | refine X.block_ret ?_ | refine X.block_exit ?_ | refine C.zt ?_ | refine C.zf ?_ | refine X.zo ?_)
    rw [decide_eq_false (show ¬ ((ys.getD i zB).p.length : Int) = 0 by omega)]
    repeat (first | refine C.seq ?_ | refine C.region ?_ | refine R.zb ttok ?_ | refine R.zu ttok ?_ | refine R.zc ttok ?_ | refine R.za ttok ?_ | refine R.zx ?_ | refine R.zl ttok ?_ | refine R.zs ttok ?_ | refine R.z ttok ?_ | refine R.zk ?_ | refine R.zn ?_ | refine R.done ?_ | refine X.then ?_ | refine C.block ?_ | refine C.ret ?_ | refine C.skip ?_ | refine C.exit ?_ | refine X.pass_ret ?_ | refine X.pass_exit ?_ | refine X.block_normal ?_ | refine X.block_ret ?_ | refine X.block_exit ?_ | refine C.zt ?_ | refine C.zf ?_ | refine X.zo ?_)
    refine R.ix ttok i rfl rfl rfl rfl rfl (by kernel_rfl) rfl hlt' (by show _ ≤ _ ∧ _ < _; omega) rfl ?_
    refine R.ldo (v := .raw (.slice (ys.getD i zB).a (ys.getD i zB).p.length (ys.getD i zB).c)) ttok rfl rfl rfl rfl rfl (by kernel_rfl) hlt' ?_
    repeat (first | refine C.seq ?_ | refine C.region ?_ | refine R.zb ttok ?_ | refine R.zu ttok ?_ | refine R.zc ttok ?_ | refine R.za ttok ?_ | refine R.zx ?_ | refine R.zl ttok ?_ | refine R.zs ttok ?_ | refine R.z ttok ?_ | refine R.zk ?_ | refine R.zn ?_ | refine R.done ?_ | refine X.then ?_ | refine C.block ?_ | refine C.ret ?_ | refine C.skip ?_ | refine C.exit ?_ | refine X.pass_ret ?_ | refine X.pass_exit ?_ | refine X.block_normal ?_ | refine X.block_ret ?_ | refine X.block_exit ?_ | refine C.zt ?_ | refine C.zf ?_ | refine X.zo ?_)
    rw [decide_eq_false (show ¬ (65536 : Int) < ((ys.getD i zB).p.length : Nat) by omega)]
    repeat (first | refine C.seq ?_ | refine C.region ?_ | refine R.zb ttok ?_ | refine R.zu ttok ?_ | refine R.zc ttok ?_ | refine R.za ttok ?_ | refine R.zx ?_ | refine R.zl ttok ?_ | refine R.zs ttok ?_ | refine R.z ttok ?_ | refine R.zk ?_ | refine R.zn ?_ | refine R.done ?_ | refine X.then ?_ | refine C.block ?_ | refine C.ret ?_ | refine C.skip ?_ | refine C.exit ?_ | refine X.pass_ret ?_ | refine X.pass_exit ?_ | refine X.block_normal ?_ | refine X.block_ret ?_ | refine X.block_exit ?_ | refine C.zt ?_ | refine C.zf ?_ | refine X.zo ?_)
    rw [decide_eq_false (show ¬ (200000 : Int) < ((sAll ((pY ys).take i)).length : Nat) by omega)]
    repeat (first | refine C.seq ?_ | refine C.region ?_ | refine R.zb ttok ?_ | refine R.zu ttok ?_ | refine R.zc ttok ?_ | refine R.za ttok ?_ | refine R.zx ?_ | refine R.zl ttok ?_ | refine R.zs ttok ?_ | refine R.z ttok ?_ | refine R.zk ?_ | refine R.zn ?_ | refine R.done ?_ | refine X.then ?_ | refine C.block ?_ | refine C.ret ?_ | refine C.skip ?_ | refine C.exit ?_ | refine X.pass_ret ?_ | refine X.pass_exit ?_ | refine X.block_normal ?_ | refine X.block_ret ?_ | refine X.block_exit ?_ | refine C.zt ?_ | refine C.zf ?_ | refine X.zo ?_)
    refine R.ix ttok i rfl rfl rfl rfl rfl (by kernel_rfl) rfl hlt' (by show _ ≤ _ ∧ _ < _; omega) rfl ?_
    refine R.ldo (v := .raw (.slice (ys.getD i zB).a (ys.getD i zB).p.length (ys.getD i zB).c)) ttok rfl rfl rfl rfl rfl (by kernel_rfl) hlt' ?_
    refine R.labY (hok _ hmem) hpp.1 43 rfl fun o3 => ?_
    refine R.cl [1, 3] (seal_spec 0 o3 cb (ys.getD i zB).c (sAll ((pY ys).take i)) (ys.getD i zB).p (by omega) (by omega)) Try.call12 (by repeat (first | exact HasIn.nil | refine HasIn.same rfl rfl ?_ | refine HasIn.bro rfl ?_ | refine HasIn.ror rfl ?_ | refine HasIn.cro rfl rfl ?_)) rfl rfl rfl (fun _ => rfl) rfl (by kernel_rfl) fun c2 hc2 => ?_
    rw [sealF_yes (by omega) hpp.2, ← sAll_snoc, ← htk]
    dsimp only
    repeat (first | refine C.seq ?_ | refine C.region ?_ | refine R.zb ttok ?_ | refine R.zu ttok ?_ | refine R.zc ttok ?_ | refine R.za ttok ?_ | refine R.zx ?_ | refine R.zl ttok ?_ | refine R.zs ttok ?_ | refine R.z ttok ?_ | refine R.zk ?_ | refine R.zn ?_ | refine R.done ?_ | refine X.then ?_ | refine C.block ?_ | refine C.ret ?_ | refine C.skip ?_ | refine C.exit ?_ | refine X.pass_ret ?_ | refine X.pass_exit ?_ | refine X.block_normal ?_ | refine X.block_ret ?_ | refine X.block_exit ?_ | refine C.zt ?_ | refine C.zf ?_ | refine X.zo ?_)
    have hel2 : (endsF ((pY ys).take (i + 1)) 0).length = i + 1 := by rw [hends, List.length_append, hel]; rfl
    refine R.app (xs := ins (endsF ((pY ys).take i) 0)) (news := ins [(sAll ((pY ys).take (i + 1))).length]) ttok (fun c => tbN (endsF ((pY ys).take (i + 1)) 0) c) rfl rfl (dstIn rfl) (SrcA.cells rfl rfl) (asIn _ _ _ (by rw [hends, ins_app])) rfl rfl rfl rfl rfl rfl (by decide) rfl rfl rfl (by kernel_rfl) hce (by show ((endsF ((pY ys).take i) 0).length + 1) * 8 ≤ _; omega) (by omega) fun cA hA hA2 => ?_
    rw [show (endsF ((pY ys).take i) 0).length + 1 = (endsF ((pY ys).take (i + 1)) 0).length by omega]
    repeat (first | refine C.seq ?_ | refine C.region ?_ | refine R.zb ttok ?_ | refine R.zu ttok ?_ | refine R.zc ttok ?_ | refine R.za ttok ?_ | refine R.zx ?_ | refine R.zl ttok ?_ | refine R.zs ttok ?_ | refine R.z ttok ?_ | refine R.zk ?_ | refine R.zn ?_ | refine R.done ?_ | refine X.then ?_ | refine C.block ?_ | refine C.ret ?_ | refine C.skip ?_ | refine C.exit ?_ | refine X.pass_ret ?_ | refine X.pass_exit ?_ | refine X.block_normal ?_ | refine X.block_ret ?_ | refine X.block_exit ?_ | refine C.zt ?_ | refine C.zf ?_ | refine X.zo ?_)
    exact X.back [(1, 4), (2, 6)] (i + 1, c2, cA) ⟨by show i + 1 ≤ _; omega, hc2, hA2⟩ (by show _ - (i + 1) < _ - i; omega) rfl (by repeat (first | exact HasT.nil | refine HasT.cons rfl rfl rfl ?_)) (by repeat (first | exact HasH.nil | refine HasH.same rfl rfl rfl trivial ?_ | refine HasH.same rfl rfl rfl rfl ?_ | refine HasH.same rfl rfl rfl (fun _ _ => rfl) ?_ | refine HasH.ros rfl rfl ?_)) rfl (fun _ h => h)
  · rw [decide_eq_false hlt]
    repeat (first | refine C.seq ?_ | refine C.region ?_ | refine R.zb ttok ?_ | refine R.zu ttok ?_ | refine R.zc ttok ?_ | refine R.za ttok ?_ | refine R.zx ?_ | refine R.zl ttok ?_ | refine R.zs ttok ?_ | refine R.z ttok ?_ | refine R.zk ?_ | refine R.zn ?_ | refine R.done ?_ | refine X.then ?_ | refine C.block ?_ | refine C.ret ?_ | refine C.skip ?_ | refine C.exit ?_ | refine X.pass_ret ?_ | refine X.pass_exit ?_ | refine X.block_normal ?_ | refine X.block_ret ?_ | refine X.block_exit ?_ | refine C.zt ?_ | refine C.zf ?_ | refine X.zo ?_)
    have : (pY ys).take i = pY ys := List.take_of_length_le (by simp; omega)
    rw [this]
    refine X.finF ttok (cb, ce) [] ⟨hcb, hce⟩ rfl rfl rfl (by repeat (first | exact HasH.nil | refine HasH.same rfl rfl rfl trivial ?_ | refine HasH.same rfl rfl rfl rfl ?_ | refine HasH.same rfl rfl rfl (fun _ _ => rfl) ?_ | refine HasH.ros rfl rfl ?_)) _ (by first | exact .inl rfl | exact .inr rfl) ?_ ?_ ?_
    · exact fun w hf => hf.ap
    · exact fun p hp => hp
    · exact fun p hp e => ⟨p, hp, rfl⟩
end Go.Proofs.Ytggnjgnjgnlchaa
