/- Texts of the claim, merged: only what the theorem needs. -/
import Derived.Test.YteabncomclgncaaSon
namespace Go.Proofs.Yteabncomclgncaa
set_option linter.unusedVariables false
set_option linter.unusedSimpArgs false
set_option linter.unusedSectionVars false
open Go.RowKit
set_option maxRecDepth 100000
set_option maxHeartbeats 4000000
section
variable {α : Type} [Inhabited α]
def zG : ByteArray × α := (⟨#[]⟩, default)
def hasK (l : List (ByteArray × α)) (k : ByteArray) : Bool := decide (plc l k < l.length ∧ cmpS (l.getD (plc l k) zG).1 k = 0)
def aboveN (l : List (ByteArray × α)) (k : ByteArray) : Nat := if hasK l k = true then plc l k + 1 else plc l k
theorem aboveN_le (l : List (ByteArray × α)) (k : ByteArray) : aboveN l k ≤ l.length := by
  unfold aboveN
  split
  · rename_i h
    unfold hasK at h
    exact (of_decide_eq_true h).1
  · exact plc_le l k
theorem hasK_lt {l : List (ByteArray × α)} {k : ByteArray} (h : hasK l k = true) : plc l k < l.length ∧ cmpS (l.getD (plc l k) zG).1 k = 0 := by unfold hasK at h; exact of_decide_eq_true h
def insL (l : List (ByteArray × α)) (i : Nat) (p : (ByteArray × α)) : List (ByteArray × α) := l.take i ++ p :: l.drop i
def delL (l : List (ByteArray × α)) (i : Nat) : List (ByteArray × α) := l.take i ++ l.drop (i + 1)
theorem insL_len (l : List (ByteArray × α)) (i : Nat) (p : (ByteArray × α)) : (insL l i p).length = l.length + 1 := by
  unfold insL
  rw [List.length_append, List.length_cons, List.length_take, List.length_drop]
  omega
theorem delL_len (l : List (ByteArray × α)) (i : Nat) (h : i < l.length) : (delL l i).length = l.length - 1 := by
  unfold delL
  rw [List.length_append, List.length_take, List.length_drop]
  omega
theorem hasK_key {l : List (ByteArray × α)} {k : ByteArray} (h : hasK l k = true) : (l.getD (plc l k) zG).1 = k := cmpS_zero.1 (hasK_lt h).2
theorem plc_lt {l : List (ByteArray × α)} (hA : Asc l) (k : ByteArray) {i : Nat} (hi : i < l.length) : cmpS (l[i]).1 k < 0 ↔ i < plc l k := by
  have := plc_iff hA k zG i hi
  rwa [List.getD_eq_getElem?_getD, List.getElem?_eq_getElem hi] at this
theorem asc_ins {l : List (ByteArray × α)} (hA : Asc l) (k : ByteArray) (v : α) (h : hasK l k = false) : Asc (insL l (plc l k) (k, v)) := by
  have hlo : ∀ q ∈ l.take (plc l k), cmpS q.1 k < 0 := fun q hq => by
    obtain ⟨i, hi, rfl⟩ := List.mem_iff_getElem.1 hq
    rw [List.length_take] at hi
    rw [List.getElem_take]
    exact (plc_lt hA k (by omega)).2 (by omega)
  have hhi : ∀ q ∈ l.drop (plc l k), cmpS k q.1 < 0 := fun q hq => by
    obtain ⟨i, hi, rfl⟩ := List.mem_iff_getElem.1 hq
    rw [List.length_drop] at hi
    rw [List.getElem_drop]
    have hlt : plc l k + i < l.length := by omega
    have h1 : ¬ cmpS (l[plc l k + i]).1 k < 0 := fun e => by have := (plc_lt hA k hlt).1 e; omega
    have h2 : cmpS (l[plc l k + i]).1 k ≠ 0 := fun e => by
      rcases Nat.eq_zero_or_pos i with h0 | h0
      · subst h0
        have : hasK l k = true := decide_eq_true ⟨by omega, by rw [List.getD_eq_getElem?_getD, List.getElem?_eq_getElem (by omega)]; exact e⟩
        rw [this] at h; cases h
      · have h3 := List.pairwise_iff_getElem.1 hA (plc l k) (plc l k + i) (by omega) hlt (by omega)
        rw [cmpS_zero.1 e] at h3
        have := (plc_lt hA k (show plc l k < l.length by omega)).1 h3
        omega
    rw [cmpS_swap]
    omega
  unfold Asc insL
  rw [List.pairwise_append, List.pairwise_cons]
  refine ⟨hA.sublist (List.take_sublist _ _), ⟨hhi, hA.sublist (List.drop_sublist _ _)⟩, fun a ha b hb => ?_⟩
  rcases List.mem_cons.1 hb with rfl | hb
  · exact hlo a ha
  · exact cmpS_trans (hlo a ha) (hhi b hb)
theorem del_sub (l : List (ByteArray × α)) (i : Nat) : (delL l i).Sublist l := by
  unfold delL
  conv => rhs; rw [← List.take_append_drop i l]
  exact List.Sublist.append (List.Sublist.refl _) (List.drop_sublist_drop_left l (Nat.le_succ i))
theorem cmpS_self (k : ByteArray) : cmpS k k = 0 := cmpS_zero.2 rfl
theorem plc_at {l : List (ByteArray × α)} (hA : Asc l) {i : Nat} (hi : i < l.length) : plc l (l.getD i zG).1 = i := by
  have h1 := plc_iff hA (l.getD i zG).1 zG i hi
  rw [cmpS_self] at h1
  have h2 : ¬ i < plc l (l.getD i zG).1 := fun e => by have := h1.2 e; omega
  rcases Nat.lt_or_ge (plc l (l.getD i zG).1) i with h3 | h3
  · exfalso
    have hlt : plc l (l.getD i zG).1 < l.length := by omega
    have h4 := List.pairwise_iff_getElem.1 hA _ _ hlt hi h3
    have e : l.getD i zG = l[i] := by rw [List.getD_eq_getElem?_getD, List.getElem?_eq_getElem hi]; rfl
    have e2 : (l[i]).1 = (l.getD i zG).1 := by rw [e]
    rw [e2] at h4
    have h5 := (plc_lt hA (l.getD i zG).1 hlt).1 h4
    omega
  · omega
theorem has_at {l : List (ByteArray × α)} (hA : Asc l) {i : Nat} (hi : i < l.length) : hasK l (l.getD i zG).1 = true := by
  unfold hasK
  rw [plc_at hA hi]
  exact decide_eq_true ⟨hi, cmpS_self _⟩
theorem above_at {l : List (ByteArray × α)} (hA : Asc l) {i : Nat} (hi : i < l.length) : aboveN l (l.getD i zG).1 = i + 1 := by
  unfold aboveN
  rw [if_pos (has_at hA hi), plc_at hA hi]
abbrev noT : ByteArray := ⟨#[]⟩
abbrev gtB (a b : ByteArray) : Bool := !(Op.bytesLess a.toList b.toList || decide (a.toList = b.toList))
abbrev neB (a b : ByteArray) : Bool := decide (a.toList ≠ b.toList)
theorem neB_self (a : ByteArray) : neB a a = false := by simp [neB]
def past (to key : ByteArray) : Bool := neB to noT && gtB key to
theorem less_cb : ∀ (a b : List UInt8), Op.bytesLess a b = decide (Lib.compareBytes a b < 0)
  | [], [] => by simp [Op.bytesLess, Lib.compareBytes]
  | _ :: _, [] => by simp [Op.bytesLess, Lib.compareBytes]
  | [], _ :: _ => by simp [Op.bytesLess, Lib.compareBytes]
  | a :: ar, b :: br => by
    rw [Op.bytesLess, cb_cons, less_cb ar br]
    simp only [u8_lt]
    by_cases h1 : a.toNat < b.toNat
    · simp [h1]
    · by_cases h2 : b.toNat < a.toNat
      · have : a ≠ b := fun e => by subst e; omega
        simp [h1, h2, this]
      · have : a = b := (u8_eq a b).2 (by omega)
        simp [h1, h2, this]
theorem less_cmp (a b : ByteArray) : Op.bytesLess a.toList b.toList = decide (cmpS a b < 0) := by
  rw [less_cb]
  unfold cmpS
  rw [Lib.toList_data, Lib.toList_data]
theorem same_cmp (a b : ByteArray) : decide (a.toList = b.toList) = decide (cmpS a b = 0) := by
  unfold cmpS
  rw [Lib.toList_data, Lib.toList_data]
  by_cases h : a.data.toList = b.data.toList
  · rw [decide_eq_true h, decide_eq_true (cb_zero.2 h)]
  · rw [decide_eq_false h, decide_eq_false (fun e => h (cb_zero.1 e))]
theorem cb_nil (a : List UInt8) : ¬ Lib.compareBytes a [] < 0 := by cases a <;> simp [Lib.compareBytes]
theorem cmpS_no (k : ByteArray) : ¬ cmpS k noT < 0 := cb_nil _
theorem plc_no (l : List (ByteArray × α)) : plc l noT = 0 := by
  unfold plc
  cases l with
  | nil => rfl
  | cons p l => rw [List.findIdx_cons, decide_eq_true (cmpS_no p.1)]; rfl
theorem gt_cmp (a b : ByteArray) : gtB a b = decide (cmpS b a < 0) := by
  unfold gtB
  rw [less_cmp, same_cmp, cmpS_swap b a]
  by_cases h1 : cmpS a b < 0
  · rw [decide_eq_true h1, decide_eq_false (show ¬ -cmpS a b < 0 by omega)]; rfl
  · by_cases h2 : cmpS a b = 0
    · rw [decide_eq_true h2, decide_eq_false h1, decide_eq_false (show ¬ -cmpS a b < 0 by omega)]; rfl
    · rw [decide_eq_false h1, decide_eq_false h2, decide_eq_true (show -cmpS a b < 0 by omega)]; rfl
theorem asc_lt {l : List (ByteArray × α)} (hA : Asc l) {i j : Nat} (hij : i < j) (hj : j < l.length) : cmpS (l.getD i zG).1 (l.getD j zG).1 < 0 := by
  have := List.pairwise_iff_getElem.1 hA i j (by omega) hj hij
  rw [List.getD_eq_getElem?_getD, List.getD_eq_getElem?_getD, List.getElem?_eq_getElem (by omega), List.getElem?_eq_getElem hj]
  exact this
end
end Go.Proofs.Yteabncomclgncaa
namespace Go.Proofs.Yteabncomclgncaa
set_option linter.unusedVariables false
set_option linter.unusedSimpArgs false
open Go.RowKit
/-- a slot: two copies, whether they are there, which is read, which is written (false: the first) -/
structure Sl (α : Type) where
  c0 : α
  c1 : α
  h0 : Bool
  h1 : Bool
  rd : Bool
  wr : Bool
instance {α : Type} [Inhabited α] : Inhabited (Sl α) := ⟨⟨default, default, false, false, false, false⟩⟩
/-- a procedure: its name, its arguments, its code's slice -/
structure PrV where
  name : ByteArray
  args : Int
  code : Value
instance : Inhabited PrV := ⟨⟨⟨#[]⟩, 0, .slice none 0 0⟩⟩
abbrev b01 (b : Bool) : Int := if b then 1 else 0
namespace Sl
variable {α : Type}
def get (s : Sl α) (b : Bool) : α := if b then s.c1 else s.c0
def has (s : Sl α) (b : Bool) : Bool := if b then s.h1 else s.h0
/-- something laid into the copy that is written, which is read then -/
def lay (s : Sl α) (v : α) (h : Bool) : Sl α := if s.wr then ⟨s.c0, v, s.h0, h, true, true⟩ else ⟨v, s.c1, h, s.h1, false, false⟩
def live (s : Sl α) : Bool := s.has s.rd
def mark (s : Sl α) : Sl α := { s with wr := !s.rd }
end Sl
end Go.Proofs.Yteabncomclgncaa
namespace Go.Proofs.Yteabncomclgncaa
set_option linter.unusedVariables false
set_option linter.unusedSimpArgs false
set_option linter.unusedSectionVars false
open Go.RowKit
set_option maxRecDepth 100000
set_option maxHeartbeats 4000000
theorem compareString_spec (a b : ByteArray) : Spec Try.prog 104 [.raw (.string a), .raw (.string b)] [] 0 (σ := Unit) (fun _ => True) (fun _ => .raw (.int .i64 (cmpS a b))) (fun _ => []) := by
  refine Spec.of Try.func104 rfl Try.ntmps104 rfl (by simp [AO.Bd, bytesF, AV.bds, AV.bd]) fun ρ w => ?_
  repeat (first | refine C.seq ?_ | refine C.region ?_ | refine R.zb ttok ?_ | refine R.zu ttok ?_ | refine R.zc ttok ?_ | refine R.za ttok ?_ | refine R.zx ?_ | refine R.zl ttok ?_ | refine R.zs ttok ?_ | refine R.z ttok ?_ | refine R.zk ?_ | refine R.zn ?_ | refine R.done ?_ | refine X.then ?_ | refine C.block ?_ | refine C.ret ?_ | refine C.skip ?_ | refine C.exit ?_ | refine X.pass_ret ?_ | refine X.pass_exit ?_ | refine X.block_normal ?_ | refine X.block_ret ?_ | refine X.block_exit ?_ | refine C.zt ?_ | refine C.zf ?_ | refine X.zo ?_)
  refine R.ext [.string a, .string b] (.int .i64 (cmpS a b)) (run_callFunc_extern Try.func107 (by kernel_rfl) (by kernel_rfl) (by kernel_rfl) (e := Extern.BytealgCompare.compare) (by kernel_rfl)) rfl (fun w => Lib.run_compareString a b w) rfl (by kernel_rfl) ?_
  repeat (first | refine C.seq ?_ | refine C.region ?_ | refine R.zb ttok ?_ | refine R.zu ttok ?_ | refine R.zc ttok ?_ | refine R.za ttok ?_ | refine R.zx ?_ | refine R.zl ttok ?_ | refine R.zs ttok ?_ | refine R.z ttok ?_ | refine R.zk ?_ | refine R.zn ?_ | refine R.done ?_ | refine X.then ?_ | refine C.block ?_ | refine C.ret ?_ | refine C.skip ?_ | refine C.exit ?_ | refine X.pass_ret ?_ | refine X.pass_exit ?_ | refine X.block_normal ?_ | refine X.block_ret ?_ | refine X.block_exit ?_ | refine C.zt ?_ | refine C.zf ?_ | refine X.zo ?_)
  refine X.fin ttok () [] trivial rfl rfl rfl (by repeat (first | exact HasH.nil | refine HasH.same rfl rfl rfl trivial ?_ | refine HasH.same rfl rfl rfl rfl ?_ | refine HasH.same rfl rfl rfl (fun _ _ => rfl) ?_ | refine HasH.ros rfl rfl ?_)) _ (by first | exact .inl rfl | exact .inr rfl)
theorem compare_spec (a b : ByteArray) : Spec Try.prog 93 [.raw (.string a), .raw (.string b)] [] 0 (σ := Unit) (fun _ => True) (fun _ => .raw (.int .i64 (cmpS a b))) (fun _ => []) := by
  refine Spec.of Try.func93 rfl Try.ntmps93 rfl (by simp [AO.Bd, bytesF, AV.bds, AV.bd]) fun ρ w => ?_
  repeat (first | refine C.seq ?_ | refine C.region ?_ | refine R.zb ttok ?_ | refine R.zu ttok ?_ | refine R.zc ttok ?_ | refine R.za ttok ?_ | refine R.zx ?_ | refine R.zl ttok ?_ | refine R.zs ttok ?_ | refine R.z ttok ?_ | refine R.zk ?_ | refine R.zn ?_ | refine R.done ?_ | refine X.then ?_ | refine C.block ?_ | refine C.ret ?_ | refine C.skip ?_ | refine C.exit ?_ | refine X.pass_ret ?_ | refine X.pass_exit ?_ | refine X.block_normal ?_ | refine X.block_ret ?_ | refine X.block_exit ?_ | refine C.zt ?_ | refine C.zf ?_ | refine X.zo ?_)
  refine R.cl [] (compareString_spec a b) Try.call104 (by repeat (first | exact HasIn.nil | refine HasIn.same rfl rfl ?_ | refine HasIn.bro rfl ?_ | refine HasIn.ror rfl ?_ | refine HasIn.cro rfl rfl ?_)) rfl rfl rfl (fun _ => rfl) rfl (by kernel_rfl) fun _ _ => ?_
  repeat (first | refine C.seq ?_ | refine C.region ?_ | refine R.zb ttok ?_ | refine R.zu ttok ?_ | refine R.zc ttok ?_ | refine R.za ttok ?_ | refine R.zx ?_ | refine R.zl ttok ?_ | refine R.zs ttok ?_ | refine R.z ttok ?_ | refine R.zk ?_ | refine R.zn ?_ | refine R.done ?_ | refine X.then ?_ | refine C.block ?_ | refine C.ret ?_ | refine C.skip ?_ | refine C.exit ?_ | refine X.pass_ret ?_ | refine X.pass_exit ?_ | refine X.block_normal ?_ | refine X.block_ret ?_ | refine X.block_exit ?_ | refine C.zt ?_ | refine C.zf ?_ | refine X.zo ?_)
  refine X.fin ttok () [] trivial rfl rfl rfl (by repeat (first | exact HasH.nil | refine HasH.same rfl rfl rfl trivial ?_ | refine HasH.same rfl rfl rfl rfl ?_ | refine HasH.same rfl rfl rfl (fun _ _ => rfl) ?_ | refine HasH.ros rfl rfl ?_)) _ (by first | exact .inl rfl | exact .inr rfl)
theorem shr1u (u : Nat) : (u : Int).fdiv (2 ^ min (1 : Int).toNat (IntKind.bits .u64)) = ((u / 2 : Nat) : Int) := by
  have : (2 : Int) ^ min (1 : Int).toNat (IntKind.bits .u64) = 2 := by decide
  rw [this, Int.fdiv_eq_ediv_of_nonneg _ (by omega)]
  omega
abbrev PIZ := ByteArray × Nat × Sl Int
abbrev piAZ (p : PIZ) : List AV := [.raw (.string p.1), .raw (.pointer (some ⟨p.2.1, 0, none⟩))]
def piFZ (l : List PIZ) (i : Nat) : List AV := piAZ (l.getD i zG)
theorem findI1_specZ (p : PIZ) (k : ByteArray) : Spec Try.prog 101 [.agg (piAZ p), .raw (.string k)] [] 0 (σ := Unit) (fun _ => True) (fun _ => .raw (.int .i64 (cmpS p.1 k))) (fun _ => []) := by
  refine Spec.of Try.func101 rfl Try.ntmps101 rfl (by simp [AO.Bd, bytesF, AV.bds, AV.bd]) fun ρ w => ?_
  repeat (first | refine C.seq ?_ | refine C.region ?_ | refine R.zb ttok ?_ | refine R.zu ttok ?_ | refine R.zc ttok ?_ | refine R.za ttok ?_ | refine R.zx ?_ | refine R.zl ttok ?_ | refine R.zs ttok ?_ | refine R.z ttok ?_ | refine R.zk ?_ | refine R.zn ?_ | refine R.done ?_ | refine X.then ?_ | refine C.block ?_ | refine C.ret ?_ | refine C.skip ?_ | refine C.exit ?_ | refine X.pass_ret ?_ | refine X.pass_exit ?_ | refine X.block_normal ?_ | refine X.block_ret ?_ | refine X.block_exit ?_ | refine C.zt ?_ | refine C.zf ?_ | refine X.zo ?_)
  refine R.cl [] (compare_spec p.1 k) Try.call93 (by repeat (first | exact HasIn.nil | refine HasIn.same rfl rfl ?_ | refine HasIn.bro rfl ?_ | refine HasIn.ror rfl ?_ | refine HasIn.cro rfl rfl ?_)) rfl rfl rfl (fun _ => rfl) rfl (by kernel_rfl) fun _ _ => ?_
  repeat (first | refine C.seq ?_ | refine C.region ?_ | refine R.zb ttok ?_ | refine R.zu ttok ?_ | refine R.zc ttok ?_ | refine R.za ttok ?_ | refine R.zx ?_ | refine R.zl ttok ?_ | refine R.zs ttok ?_ | refine R.z ttok ?_ | refine R.zk ?_ | refine R.zn ?_ | refine R.done ?_ | refine X.then ?_ | refine C.block ?_ | refine C.ret ?_ | refine C.skip ?_ | refine C.exit ?_ | refine X.pass_ret ?_ | refine X.pass_exit ?_ | refine X.block_normal ?_ | refine X.block_ret ?_ | refine X.block_exit ?_ | refine C.zt ?_ | refine C.zf ?_ | refine X.zo ?_)
  refine X.fin ttok () [] trivial rfl rfl rfl (by repeat (first | exact HasH.nil | refine HasH.same rfl rfl rfl trivial ?_ | refine HasH.same rfl rfl rfl rfl ?_ | refine HasH.same rfl rfl rfl (fun _ _ => rfl) ?_ | refine HasH.ros rfl rfl ?_)) _ (by first | exact .inl rfl | exact .inr rfl)
theorem searchI_specZ (l : List PIZ) (k : ByteArray) (c p0 : Nat) (hl : l.length ≤ 1000000000) (hp : p0 ≤ l.length) (hm : ∀ i, i < l.length → (cmpS (l.getD i zG).1 k < 0 ↔ i < p0)) :
    Spec Try.prog 100 [.sl 0 2 0 l.length c, .raw (.string k), .fn 101 []] [.ro 2 0 l.length (piFZ l)] 1 (σ := Unit) (fun _ => True)
    (fun _ => .tup [.raw (.int .i64 p0), .raw (.bool (decide (p0 < l.length ∧ cmpS (l.getD p0 zG).1 k = 0)))]) (fun _ => []) := by
  refine Spec.of Try.func100 rfl Try.ntmps100 rfl (by repeat (first | exact bdl_nil _ | refine bdl_cons (fun _ _ => rfl) ?_)) fun ρ w => ?_
  repeat (first | refine C.seq ?_ | refine C.region ?_ | refine R.zb ttok ?_ | refine R.zu ttok ?_ | refine R.zc ttok ?_ | refine R.za ttok ?_ | refine R.zx ?_ | refine R.zl ttok ?_ | refine R.zs ttok ?_ | refine R.z ttok ?_ | refine R.zk ?_ | refine R.zn ?_ | refine R.done ?_ | refine X.then ?_ | refine C.block ?_ | refine C.ret ?_ | refine C.skip ?_ | refine C.exit ?_ | refine X.pass_ret ?_ | refine X.pass_exit ?_ | refine X.block_normal ?_ | refine X.block_ret ?_ | refine X.block_exit ?_ | refine C.zt ?_ | refine C.zf ?_ | refine X.zo ?_)
  refine C.loop (σ := Nat × Nat) (L2 := 1) (fun s => s.1 ≤ p0 ∧ p0 ≤ s.2 ∧ s.2 ≤ l.length)
    (fun s => [(0, .sl 0 2 0 l.length c), (1, .raw (.string k)), (2, .fn 101 []), (8, .raw (.int .i64 l.length)), (9, .raw (.int .i64 s.1)), (10, .raw (.int .i64 s.2))])
    (fun _ => [(0, .ro 2 0 l.length (piFZ l))]) _ (fun s => s.2 - s.1) [] (0, l.length) ⟨Nat.zero_le _, hp, Nat.le_refl _⟩ rfl (by repeat (first | exact HasT.nil | refine HasT.cons rfl rfl rfl ?_)) (by repeat (first | exact HasH.nil | refine HasH.same rfl rfl rfl trivial ?_ | refine HasH.same rfl rfl rfl rfl ?_ | refine HasH.same rfl rfl rfl (fun _ _ => rfl) ?_ | refine HasH.ros rfl rfl ?_)) rfl (fun _ h => h) ?_
  rintro ⟨i, j⟩ ⟨h1, h2, h3⟩
  dsimp only at h1 h2 h3 ⊢
  repeat (first | refine C.seq ?_ | refine C.region ?_ | refine R.zb ttok ?_ | refine R.zu ttok ?_ | refine R.zc ttok ?_ | refine R.za ttok ?_ | refine R.zx ?_ | refine R.zl ttok ?_ | refine R.zs ttok ?_ | refine R.z ttok ?_ | refine R.zk ?_ | refine R.zn ?_ | refine R.done ?_ | refine X.then ?_ | refine C.block ?_ | refine C.ret ?_ | refine C.skip ?_ | refine C.exit ?_ | refine X.pass_ret ?_ | refine X.pass_exit ?_ | refine X.block_normal ?_ | refine X.block_ret ?_ | refine X.block_exit ?_ | refine C.zt ?_ | refine C.zf ?_ | refine X.zo ?_)
  refine C.dec rfl (fun hlt => ?_) (fun hge => ?_)
  · have hlt : i < j := by omega
    repeat (first | refine C.seq ?_ | refine C.region ?_ | refine R.zb ttok ?_ | refine R.zu ttok ?_ | refine R.zc ttok ?_ | refine R.za ttok ?_ | refine R.zx ?_ | refine R.zl ttok ?_ | refine R.zs ttok ?_ | refine R.z ttok ?_ | refine R.zk ?_ | refine R.zn ?_ | refine R.done ?_ | refine X.then ?_ | refine C.block ?_ | refine C.ret ?_ | refine C.skip ?_ | refine C.exit ?_ | refine X.pass_ret ?_ | refine X.pass_exit ?_ | refine X.block_normal ?_ | refine X.block_ret ?_ | refine X.block_exit ?_ | refine C.zt ?_ | refine C.zf ?_ | refine X.zo ?_)
    refine R.shr (((i + j) / 2 : Nat) : Int) rfl rfl rfl rfl (by omega) (by rw [show (i : Int) + (j : Int) = ((i + j : Nat) : Int) by omega]; exact shr1u (i + j)) ?_
    repeat (first | refine C.seq ?_ | refine C.region ?_ | refine R.zb ttok ?_ | refine R.zu ttok ?_ | refine R.zc ttok ?_ | refine R.za ttok ?_ | refine R.zx ?_ | refine R.zl ttok ?_ | refine R.zs ttok ?_ | refine R.z ttok ?_ | refine R.zk ?_ | refine R.zn ?_ | refine R.done ?_ | refine X.then ?_ | refine C.block ?_ | refine C.ret ?_ | refine C.skip ?_ | refine C.exit ?_ | refine X.pass_ret ?_ | refine X.pass_exit ?_ | refine X.block_normal ?_ | refine X.block_ret ?_ | refine X.block_exit ?_ | refine C.zt ?_ | refine C.zf ?_ | refine X.zo ?_)
    generalize hh : (i + j) / 2 = m
    have hm1 : i ≤ m ∧ m < j := by omega
    refine R.ix ttok m rfl rfl rfl rfl rfl (by kernel_rfl) rfl (by omega) (⟨Nat.zero_le _, by omega⟩ : 0 ≤ 0 + m ∧ 0 + m < 0 + l.length) rfl ?_
    refine R.ldo (v := .agg (piAZ (l.getD m zG))) ttok rfl rfl rfl rfl rfl (by kernel_rfl) (by omega) ?_
    repeat (first | refine C.seq ?_ | refine C.region ?_ | refine R.zb ttok ?_ | refine R.zu ttok ?_ | refine R.zc ttok ?_ | refine R.za ttok ?_ | refine R.zx ?_ | refine R.zl ttok ?_ | refine R.zs ttok ?_ | refine R.z ttok ?_ | refine R.zk ?_ | refine R.zn ?_ | refine R.done ?_ | refine X.then ?_ | refine C.block ?_ | refine C.ret ?_ | refine C.skip ?_ | refine C.exit ?_ | refine X.pass_ret ?_ | refine X.pass_exit ?_ | refine X.block_normal ?_ | refine X.block_ret ?_ | refine X.block_exit ?_ | refine C.zt ?_ | refine C.zf ?_ | refine X.zo ?_)
    refine R.cl [] (findI1_specZ (l.getD m zG) k) Try.call101 (by repeat (first | exact HasIn.nil | refine HasIn.same rfl rfl ?_ | refine HasIn.bro rfl ?_ | refine HasIn.ror rfl ?_ | refine HasIn.cro rfl rfl ?_)) rfl rfl rfl (fun _ => rfl) rfl (by kernel_rfl) fun _ _ => ?_
    repeat (first | refine C.seq ?_ | refine C.region ?_ | refine R.zb ttok ?_ | refine R.zu ttok ?_ | refine R.zc ttok ?_ | refine R.za ttok ?_ | refine R.zx ?_ | refine R.zl ttok ?_ | refine R.zs ttok ?_ | refine R.z ttok ?_ | refine R.zk ?_ | refine R.zn ?_ | refine R.done ?_ | refine X.then ?_ | refine C.block ?_ | refine C.ret ?_ | refine C.skip ?_ | refine C.exit ?_ | refine X.pass_ret ?_ | refine X.pass_exit ?_ | refine X.block_normal ?_ | refine X.block_ret ?_ | refine X.block_exit ?_ | refine C.zt ?_ | refine C.zf ?_ | refine X.zo ?_)
    have hk := hm m (by omega)
    refine C.dec rfl (fun hc => ?_) (fun hc => ?_)
    · have := hk.1 hc
      repeat (first | refine C.seq ?_ | refine C.region ?_ | refine R.zb ttok ?_ | refine R.zu ttok ?_ | refine R.zc ttok ?_ | refine R.za ttok ?_ | refine R.zx ?_ | refine R.zl ttok ?_ | refine R.zs ttok ?_ | refine R.z ttok ?_ | refine R.zk ?_ | refine R.zn ?_ | refine R.done ?_ | refine X.then ?_ | refine C.block ?_ | refine C.ret ?_ | refine C.skip ?_ | refine C.exit ?_ | refine X.pass_ret ?_ | refine X.pass_exit ?_ | refine X.block_normal ?_ | refine X.block_ret ?_ | refine X.block_exit ?_ | refine C.zt ?_ | refine C.zf ?_ | refine X.zo ?_)
      exact X.back [] (m + 1, j) ⟨by dsimp only; omega, h2, h3⟩ (by show j - (m + 1) < j - i; omega) rfl (by repeat (first | exact HasT.nil | refine HasT.cons rfl rfl rfl ?_)) (by repeat (first | exact HasH.nil | refine HasH.same rfl rfl rfl trivial ?_ | refine HasH.same rfl rfl rfl rfl ?_ | refine HasH.same rfl rfl rfl (fun _ _ => rfl) ?_ | refine HasH.ros rfl rfl ?_)) rfl (fun _ h => h)
    · have : ¬ m < p0 := fun h => hc (hk.2 h)
      repeat (first | refine C.seq ?_ | refine C.region ?_ | refine R.zb ttok ?_ | refine R.zu ttok ?_ | refine R.zc ttok ?_ | refine R.za ttok ?_ | refine R.zx ?_ | refine R.zl ttok ?_ | refine R.zs ttok ?_ | refine R.z ttok ?_ | refine R.zk ?_ | refine R.zn ?_ | refine R.done ?_ | refine X.then ?_ | refine C.block ?_ | refine C.ret ?_ | refine C.skip ?_ | refine C.exit ?_ | refine X.pass_ret ?_ | refine X.pass_exit ?_ | refine X.block_normal ?_ | refine X.block_ret ?_ | refine X.block_exit ?_ | refine C.zt ?_ | refine C.zf ?_ | refine X.zo ?_)
      exact X.back [] (i, m) ⟨h1, by dsimp only; omega, by dsimp only; omega⟩ (by show m - i < j - i; omega) rfl (by repeat (first | exact HasT.nil | refine HasT.cons rfl rfl rfl ?_)) (by repeat (first | exact HasH.nil | refine HasH.same rfl rfl rfl trivial ?_ | refine HasH.same rfl rfl rfl rfl ?_ | refine HasH.same rfl rfl rfl (fun _ _ => rfl) ?_ | refine HasH.ros rfl rfl ?_)) rfl (fun _ h => h)
  · obtain rfl : i = p0 := by omega
    repeat (first | refine C.seq ?_ | refine C.region ?_ | refine R.zb ttok ?_ | refine R.zu ttok ?_ | refine R.zc ttok ?_ | refine R.za ttok ?_ | refine R.zx ?_ | refine R.zl ttok ?_ | refine R.zs ttok ?_ | refine R.z ttok ?_ | refine R.zk ?_ | refine R.zn ?_ | refine R.done ?_ | refine X.then ?_ | refine C.block ?_ | refine C.ret ?_ | refine C.skip ?_ | refine C.exit ?_ | refine X.pass_ret ?_ | refine X.pass_exit ?_ | refine X.block_normal ?_ | refine X.block_ret ?_ | refine X.block_exit ?_ | refine C.zt ?_ | refine C.zf ?_ | refine X.zo ?_)
    by_cases hi : (i : Int) < (l.length : Nat)
    · rw [decide_eq_true hi]
      have hi : i < l.length := by omega
      repeat (first | refine C.seq ?_ | refine C.region ?_ | refine R.zb ttok ?_ | refine R.zu ttok ?_ | refine R.zc ttok ?_ | refine R.za ttok ?_ | refine R.zx ?_ | refine R.zl ttok ?_ | refine R.zs ttok ?_ | refine R.z ttok ?_ | refine R.zk ?_ | refine R.zn ?_ | refine R.done ?_ | refine X.then ?_ | refine C.block ?_ | refine C.ret ?_ | refine C.skip ?_ | refine C.exit ?_ | refine X.pass_ret ?_ | refine X.pass_exit ?_ | refine X.block_normal ?_ | refine X.block_ret ?_ | refine X.block_exit ?_ | refine C.zt ?_ | refine C.zf ?_ | refine X.zo ?_)
      refine R.ix ttok i rfl rfl rfl rfl rfl (by kernel_rfl) rfl (by omega) (⟨Nat.zero_le _, by omega⟩ : 0 ≤ 0 + i ∧ 0 + i < 0 + l.length) rfl ?_
      refine R.ldo (v := .agg (piAZ (l.getD i zG))) ttok rfl rfl rfl rfl rfl (by kernel_rfl) (by omega) ?_
      repeat (first | refine C.seq ?_ | refine C.region ?_ | refine R.zb ttok ?_ | refine R.zu ttok ?_ | refine R.zc ttok ?_ | refine R.za ttok ?_ | refine R.zx ?_ | refine R.zl ttok ?_ | refine R.zs ttok ?_ | refine R.z ttok ?_ | refine R.zk ?_ | refine R.zn ?_ | refine R.done ?_ | refine X.then ?_ | refine C.block ?_ | refine C.ret ?_ | refine C.skip ?_ | refine C.exit ?_ | refine X.pass_ret ?_ | refine X.pass_exit ?_ | refine X.block_normal ?_ | refine X.block_ret ?_ | refine X.block_exit ?_ | refine C.zt ?_ | refine C.zf ?_ | refine X.zo ?_)
      refine R.cl [] (findI1_specZ (l.getD i zG) k) Try.call101 (by repeat (first | exact HasIn.nil | refine HasIn.same rfl rfl ?_ | refine HasIn.bro rfl ?_ | refine HasIn.ror rfl ?_ | refine HasIn.cro rfl rfl ?_)) rfl rfl rfl (fun _ => rfl) rfl (by kernel_rfl) fun _ _ => ?_
      rw [show decide (i < l.length ∧ cmpS (l.getD i zG).1 k = 0) = decide (cmpS (l.getD i zG).1 k = 0) by simp [hi]]
      repeat (first | refine C.seq ?_ | refine C.region ?_ | refine R.zb ttok ?_ | refine R.zu ttok ?_ | refine R.zc ttok ?_ | refine R.za ttok ?_ | refine R.zx ?_ | refine R.zl ttok ?_ | refine R.zs ttok ?_ | refine R.z ttok ?_ | refine R.zk ?_ | refine R.zn ?_ | refine R.done ?_ | refine X.then ?_ | refine C.block ?_ | refine C.ret ?_ | refine C.skip ?_ | refine C.exit ?_ | refine X.pass_ret ?_ | refine X.pass_exit ?_ | refine X.block_normal ?_ | refine X.block_ret ?_ | refine X.block_exit ?_ | refine C.zt ?_ | refine C.zf ?_ | refine X.zo ?_)
      refine X.fin ttok () [] trivial rfl rfl rfl (by repeat (first | exact HasH.nil | refine HasH.same rfl rfl rfl trivial ?_ | refine HasH.same rfl rfl rfl rfl ?_ | refine HasH.same rfl rfl rfl (fun _ _ => rfl) ?_ | refine HasH.ros rfl rfl ?_)) _ (by first | exact .inl rfl | exact .inr rfl)
    · rw [decide_eq_false hi]
      rw [show decide (i < l.length ∧ cmpS (l.getD i zG).1 k = 0) = false from decide_eq_false (fun h => hi (by omega))]
      repeat (first | refine C.seq ?_ | refine C.region ?_ | refine R.zb ttok ?_ | refine R.zu ttok ?_ | refine R.zc ttok ?_ | refine R.za ttok ?_ | refine R.zx ?_ | refine R.zl ttok ?_ | refine R.zs ttok ?_ | refine R.z ttok ?_ | refine R.zk ?_ | refine R.zn ?_ | refine R.done ?_ | refine X.then ?_ | refine C.block ?_ | refine C.ret ?_ | refine C.skip ?_ | refine C.exit ?_ | refine X.pass_ret ?_ | refine X.pass_exit ?_ | refine X.block_normal ?_ | refine X.block_ret ?_ | refine X.block_exit ?_ | refine C.zt ?_ | refine C.zf ?_ | refine X.zo ?_)
      refine X.fin ttok () [] trivial rfl rfl rfl (by repeat (first | exact HasH.nil | refine HasH.same rfl rfl rfl trivial ?_ | refine HasH.same rfl rfl rfl rfl ?_ | refine HasH.same rfl rfl rfl (fun _ _ => rfl) ?_ | refine HasH.ros rfl rfl ?_)) _ (by first | exact .inl rfl | exact .inr rfl)
abbrev tbIZ (l : Nat) (n c : Nat) (has : Int) (mk : Bool) : AO := .cells [.sl l 2 0 n c, .raw (.int .i64 has), .raw (.bool mk)] 64
abbrev tbRZ (l : Nat) (n c : Nat) : AO := .ro 0 0 1 (fun _ => [.sl l 2 0 n c])
abbrev roTZ (l : List PIZ) : AO := .ro 2 0 l.length (piFZ l)
theorem cells_c1 {ρ : Env} {r : Option Nat} {w : World} {x : AV} {xs : List AV} {T : TypeId} (h : (AO.cells (x :: xs) T).holds ρ r w) : (AO.ro 0 0 1 (fun _ => [x])).holds ρ r w := by
  obtain ⟨b, hr, hb⟩ := h
  refine .inr ⟨b, _, T, _, hr, hb, fun i c y hi hy => ?_⟩
  cases c with
  | zero =>
    simp at hy
    subst hy
    simp [AV.concs]
  | succ c => simp at hy
theorem HasIn.c1 {r : Nat → Nat} {h : List (Nat × AO)} {i : Nat} {os : List AO} {x x' : AV} {xs : List AV} {T : TypeId} (h1 : hk (r i) h = some (.cells (x' :: xs) T)) (hx : x' = x.ren r) (k : HasIn r h (i + 1) os) : HasIn r h i (.ro 0 0 1 (fun _ => [x]) :: os) :=
  .other h1 (fun e => by cases e) (fun ρ x w hh => by
    subst hx
    have := cells_c1 hh
    simpa [AO.ren, AV.rens] using this) k
theorem c1_bd {x : AV} {L : Nat} (h : x.bd L = true) : AO.Bd L (.ro 0 0 1 (fun _ => [x])) := fun i _ => by
  show AV.bds L [x] = true
  simp [AV.bds, h]
theorem tab_ro {ρ : Env} {r : Option Nat} {w : World} {wd n0 cap : Nat} {f : Nat → List AV} {T : TypeId} (h : (AO.tab wd n0 cap f T).holds ρ r w) : (AO.ro wd 0 n0 f).holds ρ r w := by
  obtain ⟨h1, _, ⟨h2, h3⟩ | ⟨b, cur, hr, hb, _, hc⟩⟩ := h
  · exact .inl ⟨h2, by omega⟩
  · exact .inr ⟨b, cur, T, _, hr, hb, fun i c x hi hx => by rw [Nat.zero_add]; exact hc i c x hi hx⟩
section
variable (l : List PIZ) (c : Nat) (k : ByteArray)
theorem findI_specZ (hA : Asc l) (hl : l.length ≤ 1000000000) : Spec Try.prog 79 [.ptr 0 0 0 0, .raw (.string k)] [tbRZ 1 l.length c, roTZ l] 2 (σ := Unit) (fun _ => True)
    (fun _ => .tup [.raw (.int .i64 (plc l k)), .raw (.bool (hasK l k))]) (fun _ => []) := by
  refine Spec.of Try.func79 rfl Try.ntmps79 rfl (bdl_cons (c1_bd rfl) (bdl_cons (fun _ _ => rfl) (bdl_nil _))) fun ρ w => ?_
  repeat (first | refine C.seq ?_ | refine C.region ?_ | refine R.zb ttok ?_ | refine R.zu ttok ?_ | refine R.zc ttok ?_ | refine R.za ttok ?_ | refine R.zx ?_ | refine R.zl ttok ?_ | refine R.zs ttok ?_ | refine R.z ttok ?_ | refine R.zk ?_ | refine R.zn ?_ | refine R.done ?_ | refine X.then ?_ | refine C.block ?_ | refine C.ret ?_ | refine C.skip ?_ | refine C.exit ?_ | refine X.pass_ret ?_ | refine X.pass_exit ?_ | refine X.block_normal ?_ | refine X.block_ret ?_ | refine X.block_exit ?_ | refine C.zt ?_ | refine C.zf ?_ | refine X.zo ?_)
  refine R.ldo (v := .sl 1 2 0 l.length c) ttok rfl rfl rfl rfl rfl (by kernel_rfl) Nat.one_pos ?_
  repeat (first | refine C.seq ?_ | refine C.region ?_ | refine R.zb ttok ?_ | refine R.zu ttok ?_ | refine R.zc ttok ?_ | refine R.za ttok ?_ | refine R.zx ?_ | refine R.zl ttok ?_ | refine R.zs ttok ?_ | refine R.z ttok ?_ | refine R.zk ?_ | refine R.zn ?_ | refine R.done ?_ | refine X.then ?_ | refine C.block ?_ | refine C.ret ?_ | refine C.skip ?_ | refine C.exit ?_ | refine X.pass_ret ?_ | refine X.pass_exit ?_ | refine X.block_normal ?_ | refine X.block_ret ?_ | refine X.block_exit ?_ | refine C.zt ?_ | refine C.zf ?_ | refine X.zo ?_)
  refine R.cl [1] (searchI_specZ l k c (plc l k) hl (plc_le l k) (fun i hi => plc_iff hA k _ i hi)) Try.call100 (by repeat (first | exact HasIn.nil | refine HasIn.same rfl rfl ?_ | refine HasIn.bro rfl ?_ | refine HasIn.ror rfl ?_ | refine HasIn.cro rfl rfl ?_)) rfl rfl rfl (fun _ => rfl) rfl (by kernel_rfl) fun _ _ => ?_
  repeat (first | refine C.seq ?_ | refine C.region ?_ | refine R.zb ttok ?_ | refine R.zu ttok ?_ | refine R.zc ttok ?_ | refine R.za ttok ?_ | refine R.zx ?_ | refine R.zl ttok ?_ | refine R.zs ttok ?_ | refine R.z ttok ?_ | refine R.zk ?_ | refine R.zn ?_ | refine R.done ?_ | refine X.then ?_ | refine C.block ?_ | refine C.ret ?_ | refine C.skip ?_ | refine C.exit ?_ | refine X.pass_ret ?_ | refine X.pass_exit ?_ | refine X.block_normal ?_ | refine X.block_ret ?_ | refine X.block_exit ?_ | refine C.zt ?_ | refine C.zf ?_ | refine X.zo ?_)
  refine X.fin ttok () [] trivial rfl rfl rfl (by repeat (first | exact HasH.nil | refine HasH.same rfl rfl rfl trivial ?_ | refine HasH.same rfl rfl rfl rfl ?_ | refine HasH.same rfl rfl rfl (fun _ _ => rfl) ?_ | refine HasH.ros rfl rfl ?_)) _ (by first | exact .inl rfl | exact .inr rfl)
theorem lenI_specZ : Spec Try.prog 80 [.ptr 0 0 0 0] [tbRZ 1 l.length c, roTZ l] 2 (σ := Unit) (fun _ => True) (fun _ => .raw (.int .i64 l.length)) (fun _ => []) := by
  refine Spec.of Try.func80 rfl Try.ntmps80 rfl (bdl_cons (c1_bd rfl) (bdl_cons (fun _ _ => rfl) (bdl_nil _))) fun ρ w => ?_
  repeat (first | refine C.seq ?_ | refine C.region ?_ | refine R.zb ttok ?_ | refine R.zu ttok ?_ | refine R.zc ttok ?_ | refine R.za ttok ?_ | refine R.zx ?_ | refine R.zl ttok ?_ | refine R.zs ttok ?_ | refine R.z ttok ?_ | refine R.zk ?_ | refine R.zn ?_ | refine R.done ?_ | refine X.then ?_ | refine C.block ?_ | refine C.ret ?_ | refine C.skip ?_ | refine C.exit ?_ | refine X.pass_ret ?_ | refine X.pass_exit ?_ | refine X.block_normal ?_ | refine X.block_ret ?_ | refine X.block_exit ?_ | refine C.zt ?_ | refine C.zf ?_ | refine X.zo ?_)
  refine R.ldo (v := .sl 1 2 0 l.length c) ttok rfl rfl rfl rfl rfl (by kernel_rfl) Nat.one_pos ?_
  repeat (first | refine C.seq ?_ | refine C.region ?_ | refine R.zb ttok ?_ | refine R.zu ttok ?_ | refine R.zc ttok ?_ | refine R.za ttok ?_ | refine R.zx ?_ | refine R.zl ttok ?_ | refine R.zs ttok ?_ | refine R.z ttok ?_ | refine R.zk ?_ | refine R.zn ?_ | refine R.done ?_ | refine X.then ?_ | refine C.block ?_ | refine C.ret ?_ | refine C.skip ?_ | refine C.exit ?_ | refine X.pass_ret ?_ | refine X.pass_exit ?_ | refine X.block_normal ?_ | refine X.block_ret ?_ | refine X.block_exit ?_ | refine C.zt ?_ | refine C.zf ?_ | refine X.zo ?_)
  refine X.fin ttok () [] trivial rfl rfl rfl (by repeat (first | exact HasH.nil | refine HasH.same rfl rfl rfl trivial ?_ | refine HasH.same rfl rfl rfl rfl ?_ | refine HasH.same rfl rfl rfl (fun _ _ => rfl) ?_ | refine HasH.ros rfl rfl ?_)) _ (by first | exact .inl rfl | exact .inr rfl)
theorem aboveI_specZ (hA : Asc l) (hl : l.length ≤ 1000000000) : Spec Try.prog 81 [.ptr 0 0 0 0, .raw (.string k)] [tbRZ 1 l.length c, roTZ l] 2 (σ := Unit) (fun _ => True)
    (fun _ => .raw (.int .i64 (aboveN l k))) (fun _ => []) := by
  refine Spec.of Try.func81 rfl Try.ntmps81 rfl (bdl_cons (c1_bd rfl) (bdl_cons (fun _ _ => rfl) (bdl_nil _))) fun ρ w => ?_
  have hp := plc_le l k
  repeat (first | refine C.seq ?_ | refine C.region ?_ | refine R.zb ttok ?_ | refine R.zu ttok ?_ | refine R.zc ttok ?_ | refine R.za ttok ?_ | refine R.zx ?_ | refine R.zl ttok ?_ | refine R.zs ttok ?_ | refine R.z ttok ?_ | refine R.zk ?_ | refine R.zn ?_ | refine R.done ?_ | refine X.then ?_ | refine C.block ?_ | refine C.ret ?_ | refine C.skip ?_ | refine C.exit ?_ | refine X.pass_ret ?_ | refine X.pass_exit ?_ | refine X.block_normal ?_ | refine X.block_ret ?_ | refine X.block_exit ?_ | refine C.zt ?_ | refine C.zf ?_ | refine X.zo ?_)
  refine R.cl [0, 1] (findI_specZ l c k hA hl) Try.call79 (by repeat (first | exact HasIn.nil | refine HasIn.same rfl rfl ?_ | refine HasIn.bro rfl ?_ | refine HasIn.ror rfl ?_ | refine HasIn.cro rfl rfl ?_)) rfl rfl rfl (fun _ => rfl) rfl (by kernel_rfl) fun _ _ => ?_
  cases h : hasK l k with
  | true =>
    rw [show aboveN l k = plc l k + 1 from if_pos h]
    repeat (first | refine C.seq ?_ | refine C.region ?_ | refine R.zb ttok ?_ | refine R.zu ttok ?_ | refine R.zc ttok ?_ | refine R.za ttok ?_ | refine R.zx ?_ | refine R.zl ttok ?_ | refine R.zs ttok ?_ | refine R.z ttok ?_ | refine R.zk ?_ | refine R.zn ?_ | refine R.done ?_ | refine X.then ?_ | refine C.block ?_ | refine C.ret ?_ | refine C.skip ?_ | refine C.exit ?_ | refine X.pass_ret ?_ | refine X.pass_exit ?_ | refine X.block_normal ?_ | refine X.block_ret ?_ | refine X.block_exit ?_ | refine C.zt ?_ | refine C.zf ?_ | refine X.zo ?_)
    refine X.fin ttok () [] trivial rfl rfl rfl (by repeat (first | exact HasH.nil | refine HasH.same rfl rfl rfl trivial ?_ | refine HasH.same rfl rfl rfl rfl ?_ | refine HasH.same rfl rfl rfl (fun _ _ => rfl) ?_ | refine HasH.ros rfl rfl ?_)) _ (by first | exact .inl rfl | exact .inr rfl)
  | false =>
    rw [show aboveN l k = plc l k from if_neg (by rw [h]; decide)]
    repeat (first | refine C.seq ?_ | refine C.region ?_ | refine R.zb ttok ?_ | refine R.zu ttok ?_ | refine R.zc ttok ?_ | refine R.za ttok ?_ | refine R.zx ?_ | refine R.zl ttok ?_ | refine R.zs ttok ?_ | refine R.z ttok ?_ | refine R.zk ?_ | refine R.zn ?_ | refine R.done ?_ | refine X.then ?_ | refine C.block ?_ | refine C.ret ?_ | refine C.skip ?_ | refine C.exit ?_ | refine X.pass_ret ?_ | refine X.pass_exit ?_ | refine X.block_normal ?_ | refine X.block_ret ?_ | refine X.block_exit ?_ | refine C.zt ?_ | refine C.zf ?_ | refine X.zo ?_)
    refine X.fin ttok () [] trivial rfl rfl rfl (by repeat (first | exact HasH.nil | refine HasH.same rfl rfl rfl trivial ?_ | refine HasH.same rfl rfl rfl rfl ?_ | refine HasH.same rfl rfl rfl (fun _ _ => rfl) ?_ | refine HasH.ros rfl rfl ?_)) _ (by first | exact .inl rfl | exact .inr rfl)
def getIZ (l : List PIZ) (k : ByteArray) : Value := if hasK l k = true then .pointer (some ⟨(l.getD (plc l k) zG).2.1, 0, none⟩) else .pointer none
theorem getI_specZ (hA : Asc l) (hl : l.length ≤ 1000000000) : Spec Try.prog 52 [.ptr 0 0 0 0, .raw (.string k)] [tbRZ 1 l.length c, roTZ l] 2 (σ := Unit) (fun _ => True)
    (fun _ => .tup [.raw (getIZ l k), .raw (.bool (hasK l k))]) (fun _ => []) := by
  refine Spec.of Try.func52 rfl Try.ntmps52 rfl (bdl_cons (c1_bd rfl) (bdl_cons (fun _ _ => rfl) (bdl_nil _))) fun ρ w => ?_
  repeat (first | refine C.seq ?_ | refine C.region ?_ | refine R.zb ttok ?_ | refine R.zu ttok ?_ | refine R.zc ttok ?_ | refine R.za ttok ?_ | refine R.zx ?_ | refine R.zl ttok ?_ | refine R.zs ttok ?_ | refine R.z ttok ?_ | refine R.zk ?_ | refine R.zn ?_ | refine R.done ?_ | refine X.then ?_ | refine C.block ?_ | refine C.ret ?_ | refine C.skip ?_ | refine C.exit ?_ | refine X.pass_ret ?_ | refine X.pass_exit ?_ | refine X.block_normal ?_ | refine X.block_ret ?_ | refine X.block_exit ?_ | refine C.zt ?_ | refine C.zf ?_ | refine X.zo ?_)
  refine R.cl [0, 1] (findI_specZ l c k hA hl) Try.call79 (by repeat (first | exact HasIn.nil | refine HasIn.same rfl rfl ?_ | refine HasIn.bro rfl ?_ | refine HasIn.ror rfl ?_ | refine HasIn.cro rfl rfl ?_)) rfl rfl rfl (fun _ => rfl) rfl (by kernel_rfl) fun _ _ => ?_
  cases h : hasK l k with
  | true =>
    have hlt : plc l k < l.length := by unfold hasK at h; exact (of_decide_eq_true h).1
    rw [show getIZ l k = .pointer (some ⟨(l.getD (plc l k) zG).2.1, 0, none⟩) from if_pos h]
    repeat (first | refine C.seq ?_ | refine C.region ?_ | refine R.zb ttok ?_ | refine R.zu ttok ?_ | refine R.zc ttok ?_ | refine R.za ttok ?_ | refine R.zx ?_ | refine R.zl ttok ?_ | refine R.zs ttok ?_ | refine R.z ttok ?_ | refine R.zk ?_ | refine R.zn ?_ | refine R.done ?_ | refine X.then ?_ | refine C.block ?_ | refine C.ret ?_ | refine C.skip ?_ | refine C.exit ?_ | refine X.pass_ret ?_ | refine X.pass_exit ?_ | refine X.block_normal ?_ | refine X.block_ret ?_ | refine X.block_exit ?_ | refine C.zt ?_ | refine C.zf ?_ | refine X.zo ?_)
    refine R.ldo (v := .sl 1 2 0 l.length c) ttok rfl rfl rfl rfl rfl (by kernel_rfl) Nat.one_pos ?_
    repeat (first | refine C.seq ?_ | refine C.region ?_ | refine R.zb ttok ?_ | refine R.zu ttok ?_ | refine R.zc ttok ?_ | refine R.za ttok ?_ | refine R.zx ?_ | refine R.zl ttok ?_ | refine R.zs ttok ?_ | refine R.z ttok ?_ | refine R.zk ?_ | refine R.zn ?_ | refine R.done ?_ | refine X.then ?_ | refine C.block ?_ | refine C.ret ?_ | refine C.skip ?_ | refine C.exit ?_ | refine X.pass_ret ?_ | refine X.pass_exit ?_ | refine X.block_normal ?_ | refine X.block_ret ?_ | refine X.block_exit ?_ | refine C.zt ?_ | refine C.zf ?_ | refine X.zo ?_)
    refine R.ix ttok (plc l k) rfl rfl rfl rfl rfl (by kernel_rfl) rfl hlt (⟨Nat.zero_le _, by omega⟩ : 0 ≤ 0 + plc l k ∧ 0 + plc l k < 0 + l.length) rfl ?_
    repeat (first | refine C.seq ?_ | refine C.region ?_ | refine R.zb ttok ?_ | refine R.zu ttok ?_ | refine R.zc ttok ?_ | refine R.za ttok ?_ | refine R.zx ?_ | refine R.zl ttok ?_ | refine R.zs ttok ?_ | refine R.z ttok ?_ | refine R.zk ?_ | refine R.zn ?_ | refine R.done ?_ | refine X.then ?_ | refine C.block ?_ | refine C.ret ?_ | refine C.skip ?_ | refine C.exit ?_ | refine X.pass_ret ?_ | refine X.pass_exit ?_ | refine X.block_normal ?_ | refine X.block_ret ?_ | refine X.block_exit ?_ | refine C.zt ?_ | refine C.zf ?_ | refine X.zo ?_)
    refine R.ldo (v := .raw (.pointer (some ⟨(l.getD (plc l k) zG).2.1, 0, none⟩))) ttok rfl rfl rfl rfl rfl (by kernel_rfl) hlt ?_
    repeat (first | refine C.seq ?_ | refine C.region ?_ | refine R.zb ttok ?_ | refine R.zu ttok ?_ | refine R.zc ttok ?_ | refine R.za ttok ?_ | refine R.zx ?_ | refine R.zl ttok ?_ | refine R.zs ttok ?_ | refine R.z ttok ?_ | refine R.zk ?_ | refine R.zn ?_ | refine R.done ?_ | refine X.then ?_ | refine C.block ?_ | refine C.ret ?_ | refine C.skip ?_ | refine C.exit ?_ | refine X.pass_ret ?_ | refine X.pass_exit ?_ | refine X.block_normal ?_ | refine X.block_ret ?_ | refine X.block_exit ?_ | refine C.zt ?_ | refine C.zf ?_ | refine X.zo ?_)
    refine X.fin ttok () [] trivial rfl rfl rfl (by repeat (first | exact HasH.nil | refine HasH.same rfl rfl rfl trivial ?_ | refine HasH.same rfl rfl rfl rfl ?_ | refine HasH.same rfl rfl rfl (fun _ _ => rfl) ?_ | refine HasH.ros rfl rfl ?_)) _ (by first | exact .inl rfl | exact .inr rfl)
  | false =>
    rw [show getIZ l k = .pointer none from if_neg (by rw [h]; decide)]
    repeat (first | refine C.seq ?_ | refine C.region ?_ | refine R.zb ttok ?_ | refine R.zu ttok ?_ | refine R.zc ttok ?_ | refine R.za ttok ?_ | refine R.zx ?_ | refine R.zl ttok ?_ | refine R.zs ttok ?_ | refine R.z ttok ?_ | refine R.zk ?_ | refine R.zn ?_ | refine R.done ?_ | refine X.then ?_ | refine C.block ?_ | refine C.ret ?_ | refine C.skip ?_ | refine C.exit ?_ | refine X.pass_ret ?_ | refine X.pass_exit ?_ | refine X.block_normal ?_ | refine X.block_ret ?_ | refine X.block_exit ?_ | refine C.zt ?_ | refine C.zf ?_ | refine X.zo ?_)
    refine X.fin ttok () [] trivial rfl rfl rfl (by repeat (first | exact HasH.nil | refine HasH.same rfl rfl rfl trivial ?_ | refine HasH.same rfl rfl rfl rfl ?_ | refine HasH.same rfl rfl rfl (fun _ _ => rfl) ?_ | refine HasH.ros rfl rfl ?_)) _ (by first | exact .inl rfl | exact .inr rfl)
theorem nextI_specZ (hA : Asc l) (hl : l.length ≤ 1000000000) : Spec Try.prog 54 [.ptr 0 0 0 0, .raw (.string k)] [tbRZ 1 l.length c, roTZ l] 2 (σ := Unit) (fun _ => True)
    (fun _ => .tup [.raw (.string (l.getD (aboveN l k) zG).1), .raw (.bool (decide (aboveN l k < l.length)))]) (fun _ => []) := by
  refine Spec.of Try.func54 rfl Try.ntmps54 rfl (bdl_cons (c1_bd rfl) (bdl_cons (fun _ _ => rfl) (bdl_nil _))) fun ρ w => ?_
  have hp := aboveN_le l k
  repeat (first | refine C.seq ?_ | refine C.region ?_ | refine R.zb ttok ?_ | refine R.zu ttok ?_ | refine R.zc ttok ?_ | refine R.za ttok ?_ | refine R.zx ?_ | refine R.zl ttok ?_ | refine R.zs ttok ?_ | refine R.z ttok ?_ | refine R.zk ?_ | refine R.zn ?_ | refine R.done ?_ | refine X.then ?_ | refine C.block ?_ | refine C.ret ?_ | refine C.skip ?_ | refine C.exit ?_ | refine X.pass_ret ?_ | refine X.pass_exit ?_ | refine X.block_normal ?_ | refine X.block_ret ?_ | refine X.block_exit ?_ | refine C.zt ?_ | refine C.zf ?_ | refine X.zo ?_)
  refine R.cl [0, 1] (aboveI_specZ l c k hA hl) Try.call81 (by repeat (first | exact HasIn.nil | refine HasIn.same rfl rfl ?_ | refine HasIn.bro rfl ?_ | refine HasIn.ror rfl ?_ | refine HasIn.cro rfl rfl ?_)) rfl rfl rfl (fun _ => rfl) rfl (by kernel_rfl) fun _ _ => ?_
  repeat (first | refine C.seq ?_ | refine C.region ?_ | refine R.zb ttok ?_ | refine R.zu ttok ?_ | refine R.zc ttok ?_ | refine R.za ttok ?_ | refine R.zx ?_ | refine R.zl ttok ?_ | refine R.zs ttok ?_ | refine R.z ttok ?_ | refine R.zk ?_ | refine R.zn ?_ | refine R.done ?_ | refine X.then ?_ | refine C.block ?_ | refine C.ret ?_ | refine C.skip ?_ | refine C.exit ?_ | refine X.pass_ret ?_ | refine X.pass_exit ?_ | refine X.block_normal ?_ | refine X.block_ret ?_ | refine X.block_exit ?_ | refine C.zt ?_ | refine C.zf ?_ | refine X.zo ?_)
  refine R.cl [0, 1] (lenI_specZ l c) Try.call80 (by repeat (first | exact HasIn.nil | refine HasIn.same rfl rfl ?_ | refine HasIn.bro rfl ?_ | refine HasIn.ror rfl ?_ | refine HasIn.cro rfl rfl ?_)) rfl rfl rfl (fun _ => rfl) rfl (by kernel_rfl) fun _ _ => ?_
  repeat (first | refine C.seq ?_ | refine C.region ?_ | refine R.zb ttok ?_ | refine R.zu ttok ?_ | refine R.zc ttok ?_ | refine R.za ttok ?_ | refine R.zx ?_ | refine R.zl ttok ?_ | refine R.zs ttok ?_ | refine R.z ttok ?_ | refine R.zk ?_ | refine R.zn ?_ | refine R.done ?_ | refine X.then ?_ | refine C.block ?_ | refine C.ret ?_ | refine C.skip ?_ | refine C.exit ?_ | refine X.pass_ret ?_ | refine X.pass_exit ?_ | refine X.block_normal ?_ | refine X.block_ret ?_ | refine X.block_exit ?_ | refine C.zt ?_ | refine C.zf ?_ | refine X.zo ?_)
  refine C.dec rfl (fun h => ?_) (fun h => ?_)
  · rw [decide_eq_false (show ¬ aboveN l k < l.length by omega), show l.getD (aboveN l k) zG = zG by rw [List.getD_eq_getElem?_getD, List.getElem?_eq_none (by omega)]; rfl]
    repeat (first | refine C.seq ?_ | refine C.region ?_ | refine R.zb ttok ?_ | refine R.zu ttok ?_ | refine R.zc ttok ?_ | refine R.za ttok ?_ | refine R.zx ?_ | refine R.zl ttok ?_ | refine R.zs ttok ?_ | refine R.z ttok ?_ | refine R.zk ?_ | refine R.zn ?_ | refine R.done ?_ | refine X.then ?_ | refine C.block ?_ | refine C.ret ?_ | refine C.skip ?_ | refine C.exit ?_ | refine X.pass_ret ?_ | refine X.pass_exit ?_ | refine X.block_normal ?_ | refine X.block_ret ?_ | refine X.block_exit ?_ | refine C.zt ?_ | refine C.zf ?_ | refine X.zo ?_)
    refine X.fin ttok () [] trivial rfl rfl rfl (by repeat (first | exact HasH.nil | refine HasH.same rfl rfl rfl trivial ?_ | refine HasH.same rfl rfl rfl rfl ?_ | refine HasH.same rfl rfl rfl (fun _ _ => rfl) ?_ | refine HasH.ros rfl rfl ?_)) _ (by first | exact .inl rfl | exact .inr rfl)
  · have hlt : aboveN l k < l.length := by omega
    rw [decide_eq_true hlt]
    repeat (first | refine C.seq ?_ | refine C.region ?_ | refine R.zb ttok ?_ | refine R.zu ttok ?_ | refine R.zc ttok ?_ | refine R.za ttok ?_ | refine R.zx ?_ | refine R.zl ttok ?_ | refine R.zs ttok ?_ | refine R.z ttok ?_ | refine R.zk ?_ | refine R.zn ?_ | refine R.done ?_ | refine X.then ?_ | refine C.block ?_ | refine C.ret ?_ | refine C.skip ?_ | refine C.exit ?_ | refine X.pass_ret ?_ | refine X.pass_exit ?_ | refine X.block_normal ?_ | refine X.block_ret ?_ | refine X.block_exit ?_ | refine C.zt ?_ | refine C.zf ?_ | refine X.zo ?_)
    refine R.ldo (v := .sl 1 2 0 l.length c) ttok rfl rfl rfl rfl rfl (by kernel_rfl) Nat.one_pos ?_
    repeat (first | refine C.seq ?_ | refine C.region ?_ | refine R.zb ttok ?_ | refine R.zu ttok ?_ | refine R.zc ttok ?_ | refine R.za ttok ?_ | refine R.zx ?_ | refine R.zl ttok ?_ | refine R.zs ttok ?_ | refine R.z ttok ?_ | refine R.zk ?_ | refine R.zn ?_ | refine R.done ?_ | refine X.then ?_ | refine C.block ?_ | refine C.ret ?_ | refine C.skip ?_ | refine C.exit ?_ | refine X.pass_ret ?_ | refine X.pass_exit ?_ | refine X.block_normal ?_ | refine X.block_ret ?_ | refine X.block_exit ?_ | refine C.zt ?_ | refine C.zf ?_ | refine X.zo ?_)
    refine R.ix ttok (aboveN l k) rfl rfl rfl rfl rfl (by kernel_rfl) rfl hlt (⟨Nat.zero_le _, by omega⟩ : 0 ≤ 0 + aboveN l k ∧ 0 + aboveN l k < 0 + l.length) rfl ?_
    repeat (first | refine C.seq ?_ | refine C.region ?_ | refine R.zb ttok ?_ | refine R.zu ttok ?_ | refine R.zc ttok ?_ | refine R.za ttok ?_ | refine R.zx ?_ | refine R.zl ttok ?_ | refine R.zs ttok ?_ | refine R.z ttok ?_ | refine R.zk ?_ | refine R.zn ?_ | refine R.done ?_ | refine X.then ?_ | refine C.block ?_ | refine C.ret ?_ | refine C.skip ?_ | refine C.exit ?_ | refine X.pass_ret ?_ | refine X.pass_exit ?_ | refine X.block_normal ?_ | refine X.block_ret ?_ | refine X.block_exit ?_ | refine C.zt ?_ | refine C.zf ?_ | refine X.zo ?_)
    refine R.ldo (v := .raw (.string (l.getD (aboveN l k) zG).1)) ttok rfl rfl rfl rfl rfl (by kernel_rfl) hlt ?_
    repeat (first | refine C.seq ?_ | refine C.region ?_ | refine R.zb ttok ?_ | refine R.zu ttok ?_ | refine R.zc ttok ?_ | refine R.za ttok ?_ | refine R.zx ?_ | refine R.zl ttok ?_ | refine R.zs ttok ?_ | refine R.z ttok ?_ | refine R.zk ?_ | refine R.zn ?_ | refine R.done ?_ | refine X.then ?_ | refine C.block ?_ | refine C.ret ?_ | refine C.skip ?_ | refine C.exit ?_ | refine X.pass_ret ?_ | refine X.pass_exit ?_ | refine X.block_normal ?_ | refine X.block_ret ?_ | refine X.block_exit ?_ | refine C.zt ?_ | refine C.zf ?_ | refine X.zo ?_)
    refine X.fin ttok () [] trivial rfl rfl rfl (by repeat (first | exact HasH.nil | refine HasH.same rfl rfl rfl trivial ?_ | refine HasH.same rfl rfl rfl rfl ?_ | refine HasH.same rfl rfl rfl (fun _ _ => rfl) ?_ | refine HasH.ros rfl rfl ?_)) _ (by first | exact .inl rfl | exact .inr rfl)
end
abbrev tIZ (l : List PIZ) (c : Nat) : AO := .tab 2 l.length c (piFZ l) 136
def pisZ (l : List PIZ) : List AV := l.flatMap piAZ
theorem pis_appZ (a b : List PIZ) : pisZ (a ++ b) = pisZ a ++ pisZ b := List.flatMap_append
theorem pis_oneZ (l : List PIZ) : (pisZ l).all AV.oneB = true := by
  induction l with
  | nil => rfl
  | cons p l ih =>
    have : pisZ (p :: l) = piAZ p ++ pisZ l := rfl
    rw [this, List.all_append, ih]
    rfl
theorem flat_piZ (l : List PIZ) : ∀ m off, off + m ≤ l.length → flat (fun i => piFZ l (off + i)) m = pisZ ((l.drop off).take m)
  | 0, off, _ => by simp [flat, pisZ]
  | m + 1, off, h => by
    rw [flat, flat_piZ l m off (by omega), List.take_add_one, pis_appZ]
    congr 1
    have : (l.drop off)[m]? = some (l[off + m]'(by omega)) := by rw [List.getElem?_drop, List.getElem?_eq_getElem]
    rw [this]
    simp [pisZ, piFZ, List.getD, show off + m < l.length by omega]
theorem flat_pi0Z (l : List PIZ) : flat (piFZ l) l.length = pisZ l := by
  have := flat_piZ l l.length 0 (by omega)
  simpa using this
section
variable {E : Base} {n L : Nat} {τ : List (Nat × AV)} {h : List (Nat × AO)} {F : World → Prop}
theorem srcPiZ {lab off m c cap : Nat} {l : List PIZ} {T : TypeId} (hl : hk lab h = some (.tab 2 l.length cap (piFZ l) T)) (hn : off + m ≤ l.length) : SrcA E n L τ h F (.sl lab 2 off m c) m (pisZ ((l.drop off).take m)) := by
  have := SrcA.tab (E := E) (n := n) (L := L) (τ := τ) (F := F) (off := off) (m := m) (c := c) (by decide) hl hn
  rwa [flat_piZ l m off hn] at this
theorem srcPiDZ {lab p j c cap cc : Nat} {l : List PIZ} {T : TypeId} (hl : hk lab h = some (.tab 2 l.length cap (piFZ l) T)) (hp : p ≤ l.length) (hj : j = 0 + p ∨ l.length = p ∧ j = 0 ∧ cc = p) : SrcA E n L τ h F (.sl lab 2 j (l.length - p) c) (l.length - p) (pisZ (l.drop p)) := by
  have hd : (l.drop p).take (l.length - p) = l.drop p := List.take_of_length_le (by rw [List.length_drop]; omega)
  rcases hj with rfl | ⟨h1, rfl, _⟩
  · have := srcPiZ (E := E) (n := n) (L := L) (τ := τ) (F := F) (off := p) (m := l.length - p) (c := c) hl (by omega)
    rw [hd] at this
    rwa [Nat.zero_add]
  · have := srcPiZ (E := E) (n := n) (L := L) (τ := τ) (F := F) (off := 0) (m := l.length - p) (c := c) hl (by omega)
    have e : (l.drop 0).take (l.length - p) = l.drop p := by rw [← h1, Nat.sub_self, List.drop_length]; rfl
    rwa [e] at this
theorem asPiZ (T : TypeId) (l : List PIZ) (xs : List AV) (hx : xs = pisZ l) : AsRow (fun c => .tab 2 l.length c (piFZ l) T) T 2 xs := by
  rw [hx, ← flat_pi0Z]
  exact AsRow.tab T (by decide) fun i _ => rfl
theorem dstPiZ {lab cap : Nat} {l : List PIZ} {T : TypeId} (hl : hk lab h = some (.tab 2 l.length cap (piFZ l) T)) : DstA E n L τ h F (.sl lab 2 0 l.length cap) T 2 l.length cap (pisZ l) [lab] := by
  have := DstA.tab (E := E) (n := n) (L := L) (τ := τ) (F := F) (by decide) hl fun i _ => rfl
  rwa [flat_pi0Z] at this
theorem srcPiFZ {lab p j c cap cc : Nat} {l : List PIZ} {T : TypeId} (hl : hk lab h = some (.tab 2 l.length cap (piFZ l) T)) (hp : p ≤ l.length) (hj : j = 0 + p ∨ l.length = p ∧ j = 0 ∧ cc = p) : SrcA E n L τ h F (.sl lab 2 j (l.length - p) c) (l.length - p) (flat (fun j => piFZ l (p + j)) (l.length - p)) := by
  rw [flat_piZ l _ _ (by omega), List.take_of_length_le (by rw [List.length_drop]; omega)]
  exact srcPiDZ hl hp hj
end
theorem piF_insZ (l : List PIZ) (i : Nat) (p : PIZ) (hi : i ≤ l.length) (j : Nat) : piFZ (insL l i p) j = if j < i then piFZ l j else if j = i then piAZ p else piFZ l (j - 1) := by
  have ht : (l.take i).length = i := by rw [List.length_take]; omega
  unfold piFZ insL
  by_cases h1 : j < i
  · rw [if_pos h1, List.getD_eq_getElem?_getD, List.getElem?_append_left (by omega), List.getElem?_take, if_pos h1, ← List.getD_eq_getElem?_getD]
  · rw [if_neg h1]
    by_cases h2 : j = i
    · rw [if_pos h2, List.getD_eq_getElem?_getD, List.getElem?_append_right (by omega), ht, h2, Nat.sub_self, List.getElem?_cons_zero]
      rfl
    · rw [if_neg h2, List.getD_eq_getElem?_getD, List.getElem?_append_right (by omega), ht, show j - i = (j - 1 - i) + 1 by omega, List.getElem?_cons_succ, List.getElem?_drop, show i + (j - 1 - i) = j - 1 by omega, ← List.getD_eq_getElem?_getD]
theorem piF_delZ (l : List PIZ) (i : Nat) (hi : i < l.length) (j : Nat) : piFZ (delL l i) j = if j < i then piFZ l j else piFZ l (j + 1) := by
  have ht : (l.take i).length = i := by rw [List.length_take]; omega
  unfold piFZ delL
  by_cases h1 : j < i
  · rw [if_pos h1, List.getD_eq_getElem?_getD, List.getElem?_append_left (by omega), List.getElem?_take, if_pos h1, ← List.getD_eq_getElem?_getD]
  · rw [if_neg h1, List.getD_eq_getElem?_getD, List.getElem?_append_right (by omega), ht, List.getElem?_drop, show i + 1 + (j - i) = j + 1 by omega, ← List.getD_eq_getElem?_getD]
theorem insertI_specZ (l : List PIZ) (i c : Nat) (p : PIZ) (hl : l.length ≤ 1000000) (hi : i ≤ l.length) (hc : l.length ≤ c) (hc2 : c ≤ 9223372036854775807) :
    Spec Try.prog 90 [.sl 0 2 0 l.length c, .raw (.int .i64 i), .sl 1 2 0 1 1] [tIZ l c, .cells (piAZ p) 136] 3 (σ := Nat) (fun c' => l.length + 1 ≤ c' ∧ c' ≤ 9223372036854775807)
    (fun c' => .sl 2 2 0 (l.length + 1) c') (fun c' => [(2, .tab 2 (l.length + 1) c' (piFZ (insL l i p)) 136)]) := by
  refine Spec.of Try.func90 rfl Try.ntmps90 rfl (by repeat (first | exact bdl_nil _ | refine bdl_cons (fun _ _ => rfl) ?_ | refine bdl_cons trivial ?_ | refine bdl_cons rfl ?_ | refine bdl_cons (rowsF_bd _ _ _ _) ?_ | refine bdl_cons (rowsS_bd _ _ _ _) ?_)) fun ρ w => ?_
  repeat (first | refine C.seq ?_ | refine C.region ?_ | refine R.zb ttok ?_ | refine R.zu ttok ?_ | refine R.zc ttok ?_ | refine R.za ttok ?_ | refine R.zx ?_ | refine R.zl ttok ?_ | refine R.zs ttok ?_ | refine R.z ttok ?_ | refine R.zk ?_ | refine R.zn ?_ | refine R.done ?_ | refine X.then ?_ | refine C.block ?_ | refine C.ret ?_ | refine C.skip ?_ | refine C.exit ?_ | refine X.pass_ret ?_ | refine X.pass_exit ?_ | refine X.block_normal ?_ | refine X.block_ret ?_ | refine X.block_exit ?_ | refine C.zt ?_ | refine C.zf ?_ | refine X.zo ?_)
  refine R.sl ttok i l.length rfl rfl rfl rfl rfl rfl (by kernel_rfl) ⟨_, _, rfl, rfl⟩ rfl (by omega) (by omega) fun o' ho' => ?_
  repeat (first | refine C.seq ?_ | refine C.region ?_ | refine R.zb ttok ?_ | refine R.zu ttok ?_ | refine R.zc ttok ?_ | refine R.za ttok ?_ | refine R.zx ?_ | refine R.zl ttok ?_ | refine R.zs ttok ?_ | refine R.z ttok ?_ | refine R.zk ?_ | refine R.zn ?_ | refine R.done ?_ | refine X.then ?_ | refine C.block ?_ | refine C.ret ?_ | refine C.skip ?_ | refine C.exit ?_ | refine X.pass_ret ?_ | refine X.pass_exit ?_ | refine X.block_normal ?_ | refine X.block_ret ?_ | refine X.block_exit ?_ | refine C.zt ?_ | refine C.zf ?_ | refine X.zo ?_)
  by_cases hn : (i : Int) = (l.length : Nat)
  · obtain rfl : i = l.length := by omega
    rw [decide_eq_true hn]
    repeat (first | refine C.seq ?_ | refine C.region ?_ | refine R.zb ttok ?_ | refine R.zu ttok ?_ | refine R.zc ttok ?_ | refine R.za ttok ?_ | refine R.zx ?_ | refine R.zl ttok ?_ | refine R.zs ttok ?_ | refine R.z ttok ?_ | refine R.zk ?_ | refine R.zn ?_ | refine R.done ?_ | refine X.then ?_ | refine C.block ?_ | refine C.ret ?_ | refine C.skip ?_ | refine C.exit ?_ | refine X.pass_ret ?_ | refine X.pass_exit ?_ | refine X.block_normal ?_ | refine X.block_ret ?_ | refine X.block_exit ?_ | refine C.zt ?_ | refine C.zf ?_ | refine X.zo ?_)
    have hins : insL l l.length p = l ++ [p] := by unfold insL; rw [List.take_length, List.drop_length]
    rw [hins]
    refine R.app (xs := pisZ l) (news := pisZ [p]) ttok (fun c => .tab 2 (l ++ [p]).length c (piFZ (l ++ [p])) 136) rfl rfl (dstPiZ rfl) (SrcA.cells rfl rfl) (asPiZ _ _ _ (pis_appZ _ _).symm) rfl rfl rfl rfl rfl rfl (by decide) rfl rfl rfl (by kernel_rfl) hc2 (by show (l.length + 1) * 24 ≤ _; omega) (by omega) fun cB hB hB2 => ?_
    rw [show (l ++ [p]).length = l.length + 1 by rw [List.length_append]; rfl]
    repeat (first | refine C.seq ?_ | refine C.region ?_ | refine R.zb ttok ?_ | refine R.zu ttok ?_ | refine R.zc ttok ?_ | refine R.za ttok ?_ | refine R.zx ?_ | refine R.zl ttok ?_ | refine R.zs ttok ?_ | refine R.z ttok ?_ | refine R.zk ?_ | refine R.zn ?_ | refine R.done ?_ | refine X.then ?_ | refine C.block ?_ | refine C.ret ?_ | refine C.skip ?_ | refine C.exit ?_ | refine X.pass_ret ?_ | refine X.pass_exit ?_ | refine X.block_normal ?_ | refine X.block_ret ?_ | refine X.block_exit ?_ | refine C.zt ?_ | refine C.zf ?_ | refine X.zo ?_)
    refine X.fin ttok cB [] ⟨hB, hB2⟩ rfl rfl rfl (by exact .same rfl rfl rfl (fun _ _ => rfl) .nil) _ (by first | exact .inl rfl | exact .inr rfl)
  · have hlt : i < l.length := by omega
    rw [decide_eq_false hn]
    repeat (first | refine C.seq ?_ | refine C.region ?_ | refine R.zb ttok ?_ | refine R.zu ttok ?_ | refine R.zc ttok ?_ | refine R.za ttok ?_ | refine R.zx ?_ | refine R.zl ttok ?_ | refine R.zs ttok ?_ | refine R.z ttok ?_ | refine R.zk ?_ | refine R.zn ?_ | refine R.done ?_ | refine X.then ?_ | refine C.block ?_ | refine C.ret ?_ | refine C.skip ?_ | refine C.exit ?_ | refine X.pass_ret ?_ | refine X.pass_exit ?_ | refine X.block_normal ?_ | refine X.block_ret ?_ | refine X.block_exit ?_ | refine C.zt ?_ | refine C.zf ?_ | refine X.zo ?_)
    refine R.cap ttok rfl rfl rfl rfl (by kernel_rfl) ?_
    repeat (first | refine C.seq ?_ | refine C.region ?_ | refine R.zb ttok ?_ | refine R.zu ttok ?_ | refine R.zc ttok ?_ | refine R.za ttok ?_ | refine R.zx ?_ | refine R.zl ttok ?_ | refine R.zs ttok ?_ | refine R.z ttok ?_ | refine R.zk ?_ | refine R.zn ?_ | refine R.done ?_ | refine X.then ?_ | refine C.block ?_ | refine C.ret ?_ | refine C.skip ?_ | refine C.exit ?_ | refine X.pass_ret ?_ | refine X.pass_exit ?_ | refine X.block_normal ?_ | refine X.block_ret ?_ | refine X.block_exit ?_ | refine C.zt ?_ | refine C.zf ?_ | refine X.zo ?_)
    refine C.dec rfl (fun hg => ?_) (fun hg => ?_)
    · have hcl : c = l.length := by omega
      subst hcl
      repeat (first | refine C.seq ?_ | refine C.region ?_ | refine R.zb ttok ?_ | refine R.zu ttok ?_ | refine R.zc ttok ?_ | refine R.za ttok ?_ | refine R.zx ?_ | refine R.zl ttok ?_ | refine R.zs ttok ?_ | refine R.z ttok ?_ | refine R.zk ?_ | refine R.zn ?_ | refine R.done ?_ | refine X.then ?_ | refine C.block ?_ | refine C.ret ?_ | refine C.skip ?_ | refine C.exit ?_ | refine X.pass_ret ?_ | refine X.pass_exit ?_ | refine X.block_normal ?_ | refine X.block_ret ?_ | refine X.block_exit ?_ | refine C.zt ?_ | refine C.zf ?_ | refine X.zo ?_)
      refine R.sl ttok 0 i rfl rfl rfl rfl rfl rfl (by kernel_rfl) rfl ⟨_, _, rfl, rfl⟩ (by omega) (by omega) fun o1 ho1 => ?_
      obtain rfl : o1 = 0 := by omega
      repeat (first | refine C.seq ?_ | refine C.region ?_ | refine R.zb ttok ?_ | refine R.zu ttok ?_ | refine R.zc ttok ?_ | refine R.za ttok ?_ | refine R.zx ?_ | refine R.zl ttok ?_ | refine R.zs ttok ?_ | refine R.z ttok ?_ | refine R.zk ?_ | refine R.zn ?_ | refine R.done ?_ | refine X.then ?_ | refine C.block ?_ | refine C.ret ?_ | refine C.skip ?_ | refine C.exit ?_ | refine X.pass_ret ?_ | refine X.pass_exit ?_ | refine X.block_normal ?_ | refine X.block_ret ?_ | refine X.block_exit ?_ | refine C.zt ?_ | refine C.zf ?_ | refine X.zo ?_)
      refine R.apz ttok (l.length + 1 - i) _ rfl rfl (show i - 0 ≤ l.length by omega) rfl rfl rfl rfl rfl rfl rfl rfl (by decide) rfl (by kernel_rfl) (by omega) (by omega) (by omega) (by omega) (by omega) (by show _ * 24 ≤ _; omega) (fun j _ => rfl) fun cB hB hB2 => ?_
      rw [show i - 0 + (l.length + 1 - i) = l.length + 1 by omega] at hB ⊢
      repeat (first | refine C.seq ?_ | refine C.region ?_ | refine R.zb ttok ?_ | refine R.zu ttok ?_ | refine R.zc ttok ?_ | refine R.za ttok ?_ | refine R.zx ?_ | refine R.zl ttok ?_ | refine R.zs ttok ?_ | refine R.z ttok ?_ | refine R.zk ?_ | refine R.zn ?_ | refine R.done ?_ | refine X.then ?_ | refine C.block ?_ | refine C.ret ?_ | refine C.skip ?_ | refine C.exit ?_ | refine X.pass_ret ?_ | refine X.pass_exit ?_ | refine X.block_normal ?_ | refine X.block_ret ?_ | refine X.block_exit ?_ | refine C.zt ?_ | refine C.zf ?_ | refine X.zo ?_)
      refine R.sl ttok i (l.length + 1) rfl rfl rfl rfl rfl rfl (by kernel_rfl) ⟨_, _, rfl, rfl⟩ rfl (by omega) hB fun o2 ho2 => ?_
      obtain rfl : o2 = 0 + i := by omega
      repeat (first | refine C.seq ?_ | refine C.region ?_ | refine R.zb ttok ?_ | refine R.zu ttok ?_ | refine R.zc ttok ?_ | refine R.za ttok ?_ | refine R.zx ?_ | refine R.zl ttok ?_ | refine R.zs ttok ?_ | refine R.z ttok ?_ | refine R.zk ?_ | refine R.zn ?_ | refine R.done ?_ | refine X.then ?_ | refine C.block ?_ | refine C.ret ?_ | refine C.skip ?_ | refine C.exit ?_ | refine X.pass_ret ?_ | refine X.pass_exit ?_ | refine X.block_normal ?_ | refine X.block_ret ?_ | refine X.block_exit ?_ | refine C.zt ?_ | refine C.zf ?_ | refine X.zo ?_)
      refine R.cpt ttok (l.length + 1) 1 (k0 := 1) (sf := fun _ => piAZ p) _ rfl rfl rfl (SrcA.cells rfl rfl) rfl (fun _ _ => rfl) rfl rfl rfl rfl rfl rfl (by kernel_rfl) (by show min _ _ = _; omega) (by omega) (by omega) (by omega) hB (fun j hj => .inl hj) (by decide) (fun j _ => rfl) ?_
      repeat (first | refine C.seq ?_ | refine C.region ?_ | refine R.zb ttok ?_ | refine R.zu ttok ?_ | refine R.zc ttok ?_ | refine R.za ttok ?_ | refine R.zx ?_ | refine R.zl ttok ?_ | refine R.zs ttok ?_ | refine R.z ttok ?_ | refine R.zk ?_ | refine R.zn ?_ | refine R.done ?_ | refine X.then ?_ | refine C.block ?_ | refine C.ret ?_ | refine C.skip ?_ | refine C.exit ?_ | refine X.pass_ret ?_ | refine X.pass_exit ?_ | refine X.block_normal ?_ | refine X.block_ret ?_ | refine X.block_exit ?_ | refine C.zt ?_ | refine C.zf ?_ | refine X.zo ?_)
      refine C.draw [[], [], [], [1, 2], [0, 1, 2, 3], [], [], [5, 6], [0, 1, 2, 3, 4, 5, 6, 7]] [8] (by kernel_rfl) (by kernel_rfl) ?_
      repeat (first | refine C.seq ?_ | refine C.region ?_ | refine R.zb ttok ?_ | refine R.zu ttok ?_ | refine R.zc ttok ?_ | refine R.za ttok ?_ | refine R.zx ?_ | refine R.zl ttok ?_ | refine R.zs ttok ?_ | refine R.z ttok ?_ | refine R.zk ?_ | refine R.zn ?_ | refine R.done ?_ | refine X.then ?_ | refine C.block ?_ | refine C.ret ?_ | refine C.skip ?_ | refine C.exit ?_ | refine X.pass_ret ?_ | refine X.pass_exit ?_ | refine X.block_normal ?_ | refine X.block_ret ?_ | refine X.block_exit ?_ | refine C.zt ?_ | refine C.zf ?_ | refine X.zo ?_)
      refine R.sl ttok (i + 1) (l.length + 1) rfl rfl rfl rfl rfl rfl (by kernel_rfl) ⟨_, _, rfl, by omega⟩ rfl (by omega) hB fun o3 ho3 => ?_
      obtain rfl : o3 = 0 + (i + 1) := by omega
      repeat (first | refine C.seq ?_ | refine C.region ?_ | refine R.zb ttok ?_ | refine R.zu ttok ?_ | refine R.zc ttok ?_ | refine R.za ttok ?_ | refine R.zx ?_ | refine R.zl ttok ?_ | refine R.zs ttok ?_ | refine R.z ttok ?_ | refine R.zk ?_ | refine R.zn ?_ | refine R.done ?_ | refine X.then ?_ | refine C.block ?_ | refine C.ret ?_ | refine C.skip ?_ | refine C.exit ?_ | refine X.pass_ret ?_ | refine X.pass_exit ?_ | refine X.block_normal ?_ | refine X.block_ret ?_ | refine X.block_exit ?_ | refine C.zt ?_ | refine C.zf ?_ | refine X.zo ?_)
      refine R.sl ttok i l.length rfl rfl rfl rfl rfl rfl (by kernel_rfl) ⟨_, _, rfl, rfl⟩ rfl (by omega) (by omega) fun o4 ho4 => ?_
      obtain rfl : o4 = 0 + i := by omega
      refine R.cpt ttok (l.length + 1) (l.length - i) (k0 := l.length - i) (piFZ (insL l i p)) rfl rfl rfl (SrcA.tab (by decide) rfl (by omega)) rfl (fun _ _ => rfl) (by rw [flat_piZ l _ _ (by omega)]; exact pis_oneZ _) rfl rfl rfl rfl rfl (by kernel_rfl) (by show min _ _ = _; omega) (by omega) (by omega) (by omega) hB (fun j hj => .inl hj) (by decide) (fun j hj => ?_) ?_
      · rw [piF_insZ l i p (by omega)]
        by_cases h1 : j < i
        · rw [if_pos h1, if_neg (by omega), if_neg (by omega), if_pos (by omega)]
        · rw [if_neg h1]
          by_cases h2 : j = i
          · rw [if_pos h2, if_neg (by omega), if_pos (by omega)]
          · rw [if_neg h2, if_pos (by omega)]
            congr 1
            omega
      repeat (first | refine C.seq ?_ | refine C.region ?_ | refine R.zb ttok ?_ | refine R.zu ttok ?_ | refine R.zc ttok ?_ | refine R.za ttok ?_ | refine R.zx ?_ | refine R.zl ttok ?_ | refine R.zs ttok ?_ | refine R.z ttok ?_ | refine R.zk ?_ | refine R.zn ?_ | refine R.done ?_ | refine X.then ?_ | refine C.block ?_ | refine C.ret ?_ | refine C.skip ?_ | refine C.exit ?_ | refine X.pass_ret ?_ | refine X.pass_exit ?_ | refine X.block_normal ?_ | refine X.block_ret ?_ | refine X.block_exit ?_ | refine C.zt ?_ | refine C.zf ?_ | refine X.zo ?_)
      refine X.fin ttok cB [] ⟨hB, hB2⟩ rfl rfl rfl (by exact .same rfl rfl rfl (fun _ _ => rfl) .nil) _ (by first | exact .inl rfl | exact .inr rfl)
    · have hroom : l.length + 1 ≤ c := by omega
      repeat (first | refine C.seq ?_ | refine C.region ?_ | refine R.zb ttok ?_ | refine R.zu ttok ?_ | refine R.zc ttok ?_ | refine R.za ttok ?_ | refine R.zx ?_ | refine R.zl ttok ?_ | refine R.zs ttok ?_ | refine R.z ttok ?_ | refine R.zk ?_ | refine R.zn ?_ | refine R.done ?_ | refine X.then ?_ | refine C.block ?_ | refine C.ret ?_ | refine C.skip ?_ | refine C.exit ?_ | refine X.pass_ret ?_ | refine X.pass_exit ?_ | refine X.block_normal ?_ | refine X.block_ret ?_ | refine X.block_exit ?_ | refine C.zt ?_ | refine C.zf ?_ | refine X.zo ?_)
      refine R.sl ttok 0 (l.length + 1) rfl rfl rfl rfl rfl rfl (by kernel_rfl) rfl ⟨_, _, rfl, by omega⟩ (by omega) (by omega) fun o1 ho1 => ?_
      obtain rfl : o1 = 0 := by omega
      repeat (first | refine C.seq ?_ | refine C.region ?_ | refine R.zb ttok ?_ | refine R.zu ttok ?_ | refine R.zc ttok ?_ | refine R.za ttok ?_ | refine R.zx ?_ | refine R.zl ttok ?_ | refine R.zs ttok ?_ | refine R.z ttok ?_ | refine R.zk ?_ | refine R.zn ?_ | refine R.done ?_ | refine X.then ?_ | refine C.block ?_ | refine C.ret ?_ | refine C.skip ?_ | refine C.exit ?_ | refine X.pass_ret ?_ | refine X.pass_exit ?_ | refine X.block_normal ?_ | refine X.block_ret ?_ | refine X.block_exit ?_ | refine C.zt ?_ | refine C.zf ?_ | refine X.zo ?_)
      refine R.sl ttok (i + 1) (l.length + 1) rfl rfl rfl rfl rfl rfl (by kernel_rfl) ⟨_, _, rfl, by omega⟩ (by show _ = _; omega) (by omega) (by omega) fun o2 ho2 => ?_
      obtain rfl : o2 = 0 + (i + 1) := by omega
      refine R.ovl ttok (t := 60) (tr := 4) (run_callFunc_extern Try.func102 (by kernel_rfl) (by kernel_rfl) (by kernel_rfl) (e := Extern.SlicesOverlaps.overlaps #[60, 60] #[4]) (by kernel_rfl)) rfl rfl rfl rfl rfl rfl rfl rfl (by kernel_rfl) (by omega) ?_
      repeat (first | refine C.seq ?_ | refine C.region ?_ | refine R.zb ttok ?_ | refine R.zu ttok ?_ | refine R.zc ttok ?_ | refine R.za ttok ?_ | refine R.zx ?_ | refine R.zl ttok ?_ | refine R.zs ttok ?_ | refine R.z ttok ?_ | refine R.zk ?_ | refine R.zn ?_ | refine R.done ?_ | refine X.then ?_ | refine C.block ?_ | refine C.ret ?_ | refine C.skip ?_ | refine C.exit ?_ | refine X.pass_ret ?_ | refine X.pass_exit ?_ | refine X.block_normal ?_ | refine X.block_ret ?_ | refine X.block_exit ?_ | refine C.zt ?_ | refine C.zf ?_ | refine X.zo ?_)
      refine C.draw [[], [], [], [1, 2], [0, 1, 2, 3], [], [], [5, 6], [0, 1, 2, 3, 4, 5, 6, 7]] [8] (by kernel_rfl) (by kernel_rfl) ?_
      repeat (first | refine C.seq ?_ | refine C.region ?_ | refine R.zb ttok ?_ | refine R.zu ttok ?_ | refine R.zc ttok ?_ | refine R.za ttok ?_ | refine R.zx ?_ | refine R.zl ttok ?_ | refine R.zs ttok ?_ | refine R.z ttok ?_ | refine R.zk ?_ | refine R.zn ?_ | refine R.done ?_ | refine X.then ?_ | refine C.block ?_ | refine C.ret ?_ | refine C.skip ?_ | refine C.exit ?_ | refine X.pass_ret ?_ | refine X.pass_exit ?_ | refine X.block_normal ?_ | refine X.block_ret ?_ | refine X.block_exit ?_ | refine C.zt ?_ | refine C.zf ?_ | refine X.zo ?_)
      refine R.sl ttok (i + 1) (l.length + 1) rfl rfl rfl rfl rfl rfl (by kernel_rfl) ⟨_, _, rfl, by omega⟩ (by show _ = _; omega) (by omega) (by omega) fun o3 ho3 => ?_
      obtain rfl : o3 = 0 + (i + 1) := by omega
      repeat (first | refine C.seq ?_ | refine C.region ?_ | refine R.zb ttok ?_ | refine R.zu ttok ?_ | refine R.zc ttok ?_ | refine R.za ttok ?_ | refine R.zx ?_ | refine R.zl ttok ?_ | refine R.zs ttok ?_ | refine R.z ttok ?_ | refine R.zk ?_ | refine R.zn ?_ | refine R.done ?_ | refine X.then ?_ | refine C.block ?_ | refine C.ret ?_ | refine C.skip ?_ | refine C.exit ?_ | refine X.pass_ret ?_ | refine X.pass_exit ?_ | refine X.block_normal ?_ | refine X.block_ret ?_ | refine X.block_exit ?_ | refine C.zt ?_ | refine C.zf ?_ | refine X.zo ?_)
      refine R.sl ttok i (l.length + 1) rfl rfl rfl rfl rfl rfl (by kernel_rfl) ⟨_, _, rfl, rfl⟩ (by show _ = _; omega) (by omega) (by omega) fun o4 ho4 => ?_
      obtain rfl : o4 = 0 + i := by omega
      refine R.cpt ttok (l.length + 1) (l.length - i) (k0 := l.length - i) (fun j => if i + 1 ≤ j then piFZ l (j - 1) else piFZ l j) rfl rfl rfl (SrcA.tabm (l.length - i) (by decide) rfl (by omega) (by omega)) rfl (fun _ _ => rfl) (by rw [flat_piZ l _ _ (by omega)]; exact pis_oneZ _) rfl rfl rfl rfl rfl (by kernel_rfl) (by show min _ _ = _; omega) (by omega) (by omega) (by omega) hroom (fun j hj => by omega) (by decide) (fun j hj => ?_) ?_
      · by_cases h1 : i + 1 ≤ j
        · rw [if_pos h1, if_pos (by omega)]
          congr 1
          omega
        · rw [if_neg h1, if_neg (by omega)]
      repeat (first | refine C.seq ?_ | refine C.region ?_ | refine R.zb ttok ?_ | refine R.zu ttok ?_ | refine R.zc ttok ?_ | refine R.za ttok ?_ | refine R.zx ?_ | refine R.zl ttok ?_ | refine R.zs ttok ?_ | refine R.z ttok ?_ | refine R.zk ?_ | refine R.zn ?_ | refine R.done ?_ | refine X.then ?_ | refine C.block ?_ | refine C.ret ?_ | refine C.skip ?_ | refine C.exit ?_ | refine X.pass_ret ?_ | refine X.pass_exit ?_ | refine X.block_normal ?_ | refine X.block_ret ?_ | refine X.block_exit ?_ | refine C.zt ?_ | refine C.zf ?_ | refine X.zo ?_)
      refine R.sl ttok i (l.length + 1) rfl rfl rfl rfl rfl rfl (by kernel_rfl) ⟨_, _, rfl, rfl⟩ (by show _ = _; omega) (by omega) (by omega) fun o5 ho5 => ?_
      obtain rfl : o5 = 0 + i := by omega
      repeat (first | refine C.seq ?_ | refine C.region ?_ | refine R.zb ttok ?_ | refine R.zu ttok ?_ | refine R.zc ttok ?_ | refine R.za ttok ?_ | refine R.zx ?_ | refine R.zl ttok ?_ | refine R.zs ttok ?_ | refine R.z ttok ?_ | refine R.zk ?_ | refine R.zn ?_ | refine R.done ?_ | refine X.then ?_ | refine C.block ?_ | refine C.ret ?_ | refine C.skip ?_ | refine C.exit ?_ | refine X.pass_ret ?_ | refine X.pass_exit ?_ | refine X.block_normal ?_ | refine X.block_ret ?_ | refine X.block_exit ?_ | refine C.zt ?_ | refine C.zf ?_ | refine X.zo ?_)
      refine R.cpt ttok (l.length + 1) 1 (k0 := 1) (sf := fun _ => piAZ p) (piFZ (insL l i p)) rfl rfl rfl (SrcA.cells rfl rfl) rfl (fun _ _ => rfl) rfl rfl rfl rfl rfl rfl (by kernel_rfl) (by show min _ _ = _; omega) (by omega) (by omega) (by omega) hroom (fun j hj => .inl hj) (by decide) (fun j hj => ?_) ?_
      · rw [piF_insZ l i p (by omega)]
        by_cases h1 : j < i
        · rw [if_pos h1, if_neg (by omega), if_neg (by omega)]
        · rw [if_neg h1]
          by_cases h2 : j = i
          · rw [if_pos h2, if_pos (by omega)]
          · rw [if_neg h2, if_neg (by omega), if_pos (by omega)]
      repeat (first | refine C.seq ?_ | refine C.region ?_ | refine R.zb ttok ?_ | refine R.zu ttok ?_ | refine R.zc ttok ?_ | refine R.za ttok ?_ | refine R.zx ?_ | refine R.zl ttok ?_ | refine R.zs ttok ?_ | refine R.z ttok ?_ | refine R.zk ?_ | refine R.zn ?_ | refine R.done ?_ | refine X.then ?_ | refine C.block ?_ | refine C.ret ?_ | refine C.skip ?_ | refine C.exit ?_ | refine X.pass_ret ?_ | refine X.pass_exit ?_ | refine X.block_normal ?_ | refine X.block_ret ?_ | refine X.block_exit ?_ | refine C.zt ?_ | refine C.zf ?_ | refine X.zo ?_)
      refine X.fin ttok c [(2, 0)] ⟨hroom, hc2⟩ rfl rfl rfl (by exact .same rfl rfl rfl (fun _ _ => rfl) .nil) _ (by first | exact .inl rfl | exact .inr rfl)
theorem deleteI_specZ (l : List PIZ) (i c : Nat) (hl : l.length ≤ 1000000) (hi : i < l.length) (hc : l.length ≤ c) (hc2 : c ≤ 9223372036854775807) :
    Spec Try.prog 82 [.sl 0 2 0 l.length c, .raw (.int .i64 i), .raw (.int .i64 ((i : Int) + 1))] [tIZ l c] 1 (σ := Unit) (fun _ => True)
    (fun _ => .sl 0 2 0 (l.length - 1) c) (fun _ => [(0, .tab 2 (l.length - 1) c (piFZ (delL l i)) 136)]) := by
  refine Spec.of Try.func82 rfl Try.ntmps82 rfl (by repeat (first | exact bdl_nil _ | refine bdl_cons (fun _ _ => rfl) ?_ | refine bdl_cons trivial ?_ | refine bdl_cons rfl ?_ | refine bdl_cons (rowsF_bd _ _ _ _) ?_ | refine bdl_cons (rowsS_bd _ _ _ _) ?_)) fun ρ w => ?_
  repeat (first | refine C.seq ?_ | refine C.region ?_ | refine R.zb ttok ?_ | refine R.zu ttok ?_ | refine R.zc ttok ?_ | refine R.za ttok ?_ | refine R.zx ?_ | refine R.zl ttok ?_ | refine R.zs ttok ?_ | refine R.z ttok ?_ | refine R.zk ?_ | refine R.zn ?_ | refine R.done ?_ | refine X.then ?_ | refine C.block ?_ | refine C.ret ?_ | refine C.skip ?_ | refine C.exit ?_ | refine X.pass_ret ?_ | refine X.pass_exit ?_ | refine X.block_normal ?_ | refine X.block_ret ?_ | refine X.block_exit ?_ | refine C.zt ?_ | refine C.zf ?_ | refine X.zo ?_)
  refine R.sl3 ttok i (i + 1) l.length rfl rfl rfl rfl rfl rfl rfl rfl rfl (by kernel_rfl) rfl (by omega) rfl (by omega) (by omega) (by omega) fun o0 => ?_
  repeat (first | refine C.seq ?_ | refine C.region ?_ | refine R.zb ttok ?_ | refine R.zu ttok ?_ | refine R.zc ttok ?_ | refine R.za ttok ?_ | refine R.zx ?_ | refine R.zl ttok ?_ | refine R.zs ttok ?_ | refine R.z ttok ?_ | refine R.zk ?_ | refine R.zn ?_ | refine R.done ?_ | refine X.then ?_ | refine C.block ?_ | refine C.ret ?_ | refine C.skip ?_ | refine C.exit ?_ | refine X.pass_ret ?_ | refine X.pass_exit ?_ | refine X.block_normal ?_ | refine X.block_ret ?_ | refine X.block_exit ?_ | refine C.zt ?_ | refine C.zf ?_ | refine X.zo ?_)
  rw [decide_eq_false (show ¬ (i : Int) = (i : Int) + 1 by omega)]
  repeat (first | refine C.seq ?_ | refine C.region ?_ | refine R.zb ttok ?_ | refine R.zu ttok ?_ | refine R.zc ttok ?_ | refine R.za ttok ?_ | refine R.zx ?_ | refine R.zl ttok ?_ | refine R.zs ttok ?_ | refine R.z ttok ?_ | refine R.zk ?_ | refine R.zn ?_ | refine R.done ?_ | refine X.then ?_ | refine C.block ?_ | refine C.ret ?_ | refine C.skip ?_ | refine C.exit ?_ | refine X.pass_ret ?_ | refine X.pass_exit ?_ | refine X.block_normal ?_ | refine X.block_ret ?_ | refine X.block_exit ?_ | refine C.zt ?_ | refine C.zf ?_ | refine X.zo ?_)
  refine C.draw [[], [], [0, 1], [], [], [3, 4], [0, 1, 2, 3, 4, 5], [0, 1, 2, 3, 4, 5, 6]] [6] (by kernel_rfl) (by kernel_rfl) ?_
  repeat (first | refine C.seq ?_ | refine C.region ?_ | refine R.zb ttok ?_ | refine R.zu ttok ?_ | refine R.zc ttok ?_ | refine R.za ttok ?_ | refine R.zx ?_ | refine R.zl ttok ?_ | refine R.zs ttok ?_ | refine R.z ttok ?_ | refine R.zk ?_ | refine R.zn ?_ | refine R.done ?_ | refine X.then ?_ | refine C.block ?_ | refine C.ret ?_ | refine C.skip ?_ | refine C.exit ?_ | refine X.pass_ret ?_ | refine X.pass_exit ?_ | refine X.block_normal ?_ | refine X.block_ret ?_ | refine X.block_exit ?_ | refine C.zt ?_ | refine C.zf ?_ | refine X.zo ?_)
  refine R.sl ttok 0 i rfl rfl rfl rfl rfl rfl (by kernel_rfl) rfl ⟨_, _, rfl, rfl⟩ (by omega) (by omega) fun o1 ho1 => ?_
  obtain rfl : o1 = 0 := by omega
  repeat (first | refine C.seq ?_ | refine C.region ?_ | refine R.zb ttok ?_ | refine R.zu ttok ?_ | refine R.zc ttok ?_ | refine R.za ttok ?_ | refine R.zx ?_ | refine R.zl ttok ?_ | refine R.zs ttok ?_ | refine R.z ttok ?_ | refine R.zk ?_ | refine R.zn ?_ | refine R.done ?_ | refine X.then ?_ | refine C.block ?_ | refine C.ret ?_ | refine C.skip ?_ | refine C.exit ?_ | refine X.pass_ret ?_ | refine X.pass_exit ?_ | refine X.block_normal ?_ | refine X.block_ret ?_ | refine X.block_exit ?_ | refine C.zt ?_ | refine C.zf ?_ | refine X.zo ?_)
  refine R.sl ttok (i + 1) l.length rfl rfl rfl rfl rfl rfl (by kernel_rfl) ⟨_, _, rfl, by omega⟩ rfl (by omega) (by omega) fun o2 ho2 => ?_
  refine R.aprt ttok (piFZ (delL l i)) rfl rfl (show i - 0 ≤ l.length by omega) rfl (srcPiFZ rfl (by omega) ho2) rfl (fun _ _ => rfl) (by rw [flat_piZ l _ _ (by omega)]; exact pis_oneZ _) rfl rfl rfl rfl rfl (by kernel_rfl) (by omega) (by omega) (fun j hj => ?_) ?_
  · rw [piF_delZ l i hi]
    by_cases h1 : j < i
    · rw [if_pos h1, if_neg (by omega)]
    · rw [if_neg h1, if_pos (by omega)]
      congr 1
      omega
  rw [show i - 0 + (l.length - (i + 1)) = l.length - 1 by omega]
  repeat (first | refine C.seq ?_ | refine C.region ?_ | refine R.zb ttok ?_ | refine R.zu ttok ?_ | refine R.zc ttok ?_ | refine R.za ttok ?_ | refine R.zx ?_ | refine R.zl ttok ?_ | refine R.zs ttok ?_ | refine R.z ttok ?_ | refine R.zk ?_ | refine R.zn ?_ | refine R.done ?_ | refine X.then ?_ | refine C.block ?_ | refine C.ret ?_ | refine C.skip ?_ | refine C.exit ?_ | refine X.pass_ret ?_ | refine X.pass_exit ?_ | refine X.block_normal ?_ | refine X.block_ret ?_ | refine X.block_exit ?_ | refine C.zt ?_ | refine C.zf ?_ | refine X.zo ?_)
  refine R.sl ttok (l.length - 1) l.length rfl rfl rfl rfl rfl rfl (by kernel_rfl) ⟨_, _, rfl, rfl⟩ ⟨_, _, rfl, rfl⟩ (by omega) (by omega) fun o3 ho3 => ?_
  obtain rfl : o3 = 0 + (l.length - 1) := by omega
  refine R.clt ttok rfl rfl rfl rfl rfl rfl rfl rfl (by kernel_rfl) (by omega) (by omega) (by omega) ?_
  repeat (first | refine C.seq ?_ | refine C.region ?_ | refine R.zb ttok ?_ | refine R.zu ttok ?_ | refine R.zc ttok ?_ | refine R.za ttok ?_ | refine R.zx ?_ | refine R.zl ttok ?_ | refine R.zs ttok ?_ | refine R.z ttok ?_ | refine R.zk ?_ | refine R.zn ?_ | refine R.done ?_ | refine X.then ?_ | refine C.block ?_ | refine C.ret ?_ | refine C.skip ?_ | refine C.exit ?_ | refine X.pass_ret ?_ | refine X.pass_exit ?_ | refine X.block_normal ?_ | refine X.block_ret ?_ | refine X.block_exit ?_ | refine C.zt ?_ | refine C.zf ?_ | refine X.zo ?_)
  refine X.fin ttok () [] trivial rfl rfl rfl (by exact .same rfl rfl rfl (fun _ _ => rfl) .nil) _ (by first | exact .inl rfl | exact .inr rfl)
section
variable (l : List PIZ) (c : Nat) (k : ByteArray)
theorem putI_specZ (has : Int) (mk : Bool) (b : Nat) (sl : Sl Int) (hA : Asc l) (hl : l.length ≤ 1000000) (hc : l.length ≤ c) (hc2 : c ≤ 9223372036854775807) (hk : hasK l k = false) :
    Spec Try.prog 73 [.ptr 0 0 0 0, .raw (.string k), .raw (.pointer (some ⟨b, 0, none⟩))] [tbIZ 1 l.length c has mk, tIZ l c] 3 (σ := Nat) (fun c' => l.length + 1 ≤ c' ∧ c' ≤ 9223372036854775807)
    (fun _ => .tup [.raw (.pointer none), .raw (.bool false)]) (fun c' => [(0, tbIZ 2 (l.length + 1) c' has mk), (2, .tab 2 (l.length + 1) c' (piFZ (insL l (plc l k) (k, b, sl))) 136)]) := by
  refine Spec.of Try.func73 rfl Try.ntmps73 rfl (by repeat (first | exact bdl_nil _ | refine bdl_cons (fun _ _ => rfl) ?_ | refine bdl_cons trivial ?_ | refine bdl_cons rfl ?_ | refine bdl_cons (rowsF_bd _ _ _ _) ?_ | refine bdl_cons (rowsS_bd _ _ _ _) ?_)) fun ρ w => ?_
  have hp := plc_le l k
  repeat (first | refine C.seq ?_ | refine C.region ?_ | refine R.zb ttok ?_ | refine R.zu ttok ?_ | refine R.zc ttok ?_ | refine R.za ttok ?_ | refine R.zx ?_ | refine R.zl ttok ?_ | refine R.zs ttok ?_ | refine R.z ttok ?_ | refine R.zk ?_ | refine R.zn ?_ | refine R.done ?_ | refine X.then ?_ | refine C.block ?_ | refine C.ret ?_ | refine C.skip ?_ | refine C.exit ?_ | refine X.pass_ret ?_ | refine X.pass_exit ?_ | refine X.block_normal ?_ | refine X.block_ret ?_ | refine X.block_exit ?_ | refine C.zt ?_ | refine C.zf ?_ | refine X.zo ?_)
  refine R.cl [0, 1] (findI_specZ l c k hA (by omega)) Try.call79 (.c1 rfl rfl (.other rfl (fun e => by cases e) (fun ρ x w hh => tab_ro hh) .nil)) rfl rfl rfl (fun _ => rfl) rfl (by kernel_rfl) fun _ _ => ?_
  rw [hk]
  repeat (first | refine C.seq ?_ | refine C.region ?_ | refine R.zb ttok ?_ | refine R.zu ttok ?_ | refine R.zc ttok ?_ | refine R.za ttok ?_ | refine R.zx ?_ | refine R.zl ttok ?_ | refine R.zs ttok ?_ | refine R.z ttok ?_ | refine R.zk ?_ | refine R.zn ?_ | refine R.done ?_ | refine X.then ?_ | refine C.block ?_ | refine C.ret ?_ | refine C.skip ?_ | refine C.exit ?_ | refine X.pass_ret ?_ | refine X.pass_exit ?_ | refine X.block_normal ?_ | refine X.block_ret ?_ | refine X.block_exit ?_ | refine C.zt ?_ | refine C.zf ?_ | refine X.zo ?_)
  refine R.cl [1, 2] (insertI_specZ l (plc l k) c (k, b, sl) hl hp hc hc2) Try.call90 (.same rfl rfl (.same rfl rfl .nil)) rfl rfl rfl (fun _ => rfl) rfl (by kernel_rfl) fun c' hc' => ?_
  repeat (first | refine C.seq ?_ | refine C.region ?_ | refine R.zb ttok ?_ | refine R.zu ttok ?_ | refine R.zc ttok ?_ | refine R.za ttok ?_ | refine R.zx ?_ | refine R.zl ttok ?_ | refine R.zs ttok ?_ | refine R.z ttok ?_ | refine R.zk ?_ | refine R.zn ?_ | refine R.done ?_ | refine X.then ?_ | refine C.block ?_ | refine C.ret ?_ | refine C.skip ?_ | refine C.exit ?_ | refine X.pass_ret ?_ | refine X.pass_exit ?_ | refine X.block_normal ?_ | refine X.block_ret ?_ | refine X.block_exit ?_ | refine C.zt ?_ | refine C.zf ?_ | refine X.zo ?_)
  refine X.fin ttok c' [(2, 3)] hc' rfl rfl rfl (by exact .same rfl rfl rfl rfl (.same rfl rfl rfl (fun _ _ => rfl) .nil)) _ (by first | exact .inl rfl | exact .inr rfl)
theorem delI_specZ (has : Int) (mk : Bool) (hA : Asc l) (hl : l.length ≤ 1000000) (hc : l.length ≤ c) (hc2 : c ≤ 9223372036854775807) (hk : hasK l k = true) :
    Spec Try.prog 59 [.ptr 0 0 0 0, .raw (.string k)] [tbIZ 1 l.length c has mk, tIZ l c] 2 (σ := Unit) (fun _ => True)
    (fun _ => .tup [.raw (.pointer (some ⟨(l.getD (plc l k) zG).2.1, 0, none⟩)), .raw (.bool true)]) (fun _ => [(0, tbIZ 1 (l.length - 1) c has mk), (1, .tab 2 (l.length - 1) c (piFZ (delL l (plc l k))) 136)]) := by
  refine Spec.of Try.func59 rfl Try.ntmps59 rfl (by repeat (first | exact bdl_nil _ | refine bdl_cons (fun _ _ => rfl) ?_ | refine bdl_cons trivial ?_ | refine bdl_cons rfl ?_ | refine bdl_cons (rowsF_bd _ _ _ _) ?_ | refine bdl_cons (rowsS_bd _ _ _ _) ?_)) fun ρ w => ?_
  have hp := plc_le l k
  repeat (first | refine C.seq ?_ | refine C.region ?_ | refine R.zb ttok ?_ | refine R.zu ttok ?_ | refine R.zc ttok ?_ | refine R.za ttok ?_ | refine R.zx ?_ | refine R.zl ttok ?_ | refine R.zs ttok ?_ | refine R.z ttok ?_ | refine R.zk ?_ | refine R.zn ?_ | refine R.done ?_ | refine X.then ?_ | refine C.block ?_ | refine C.ret ?_ | refine C.skip ?_ | refine C.exit ?_ | refine X.pass_ret ?_ | refine X.pass_exit ?_ | refine X.block_normal ?_ | refine X.block_ret ?_ | refine X.block_exit ?_ | refine C.zt ?_ | refine C.zf ?_ | refine X.zo ?_)
  refine R.cl [0, 1] (findI_specZ l c k hA (by omega)) Try.call79 (.c1 rfl rfl (.other rfl (fun e => by cases e) (fun ρ x w hh => tab_ro hh) .nil)) rfl rfl rfl (fun _ => rfl) rfl (by kernel_rfl) fun _ _ => ?_
  have hlt := (hasK_lt hk).1
  rw [hk]
  repeat (first | refine C.seq ?_ | refine C.region ?_ | refine R.zb ttok ?_ | refine R.zu ttok ?_ | refine R.zc ttok ?_ | refine R.za ttok ?_ | refine R.zx ?_ | refine R.zl ttok ?_ | refine R.zs ttok ?_ | refine R.z ttok ?_ | refine R.zk ?_ | refine R.zn ?_ | refine R.done ?_ | refine X.then ?_ | refine C.block ?_ | refine C.ret ?_ | refine C.skip ?_ | refine C.exit ?_ | refine X.pass_ret ?_ | refine X.pass_exit ?_ | refine X.block_normal ?_ | refine X.block_ret ?_ | refine X.block_exit ?_ | refine C.zt ?_ | refine C.zf ?_ | refine X.zo ?_)
  refine R.ix ttok (plc l k) rfl rfl rfl rfl rfl (by kernel_rfl) rfl hlt (by show _ < _; omega) rfl ?_
  repeat (first | refine C.seq ?_ | refine C.region ?_ | refine R.zb ttok ?_ | refine R.zu ttok ?_ | refine R.zc ttok ?_ | refine R.za ttok ?_ | refine R.zx ?_ | refine R.zl ttok ?_ | refine R.zs ttok ?_ | refine R.z ttok ?_ | refine R.zk ?_ | refine R.zn ?_ | refine R.done ?_ | refine X.then ?_ | refine C.block ?_ | refine C.ret ?_ | refine C.skip ?_ | refine C.exit ?_ | refine X.pass_ret ?_ | refine X.pass_exit ?_ | refine X.block_normal ?_ | refine X.block_ret ?_ | refine X.block_exit ?_ | refine C.zt ?_ | refine C.zf ?_ | refine X.zo ?_)
  refine R.ldt (v := .raw (.pointer (some ⟨(l.getD (plc l k) zG).2.1, 0, none⟩))) ttok rfl rfl rfl (by rw [Nat.zero_add]; rfl) rfl (by kernel_rfl) (by omega) ?_
  repeat (first | refine C.seq ?_ | refine C.region ?_ | refine R.zb ttok ?_ | refine R.zu ttok ?_ | refine R.zc ttok ?_ | refine R.za ttok ?_ | refine R.zx ?_ | refine R.zl ttok ?_ | refine R.zs ttok ?_ | refine R.z ttok ?_ | refine R.zk ?_ | refine R.zn ?_ | refine R.done ?_ | refine X.then ?_ | refine C.block ?_ | refine C.ret ?_ | refine C.skip ?_ | refine C.exit ?_ | refine X.pass_ret ?_ | refine X.pass_exit ?_ | refine X.block_normal ?_ | refine X.block_ret ?_ | refine X.block_exit ?_ | refine C.zt ?_ | refine C.zf ?_ | refine X.zo ?_)
  refine R.cl [1] (deleteI_specZ l (plc l k) c hl hlt hc hc2) Try.call82 (.same rfl rfl .nil) rfl rfl rfl (fun _ => rfl) rfl (by kernel_rfl) fun _ _ => ?_
  repeat (first | refine C.seq ?_ | refine C.region ?_ | refine R.zb ttok ?_ | refine R.zu ttok ?_ | refine R.zc ttok ?_ | refine R.za ttok ?_ | refine R.zx ?_ | refine R.zl ttok ?_ | refine R.zs ttok ?_ | refine R.z ttok ?_ | refine R.zk ?_ | refine R.zn ?_ | refine R.done ?_ | refine X.then ?_ | refine C.block ?_ | refine C.ret ?_ | refine C.skip ?_ | refine C.exit ?_ | refine X.pass_ret ?_ | refine X.pass_exit ?_ | refine X.block_normal ?_ | refine X.block_ret ?_ | refine X.block_exit ?_ | refine C.zt ?_ | refine C.zf ?_ | refine X.zo ?_)
  refine X.fin ttok () [] trivial rfl rfl rfl (by exact .same rfl rfl rfl rfl (.same rfl rfl rfl (fun _ _ => rfl) .nil)) _ (by first | exact .inl rfl | exact .inr rfl)
end
end Go.Proofs.Yteabncomclgncaa
namespace Go.Proofs.Yteabncomclgncaa
set_option linter.unusedVariables false
set_option linter.unusedSimpArgs false
open Go.RowKit
set_option maxRecDepth 100000
set_option maxHeartbeats 4000000
abbrev rgZ : FuncId := 78
abbrev ZL := List PIZ
/-- where a Range stands: behind the key that it gave last -/
def posO (l : ZL) (fr : ByteArray) (o : Option ByteArray) : Nat := match o with
  | none => plc l fr
  | some k => aboveN l k
theorem posO_le (l : ZL) (fr : ByteArray) (o : Option ByteArray) : posO l fr o ≤ l.length := by
  cases o with
  | none => exact plc_le _ _
  | some k => exact aboveN_le _ _
def envR (tb fb ob bs : Nat) (r : Option Nat) : Env := fun i => match i with
  | 0 => some tb
  | 1 => some fb
  | 2 => some ob
  | 3 => some bs
  | 4 => r
  | _ => none
abbrev one0 (v : AV) : AO := .ro 0 0 1 (fun _ => [v])
abbrev rgH (fr to : ByteArray) (l : ZL) (c : Nat) : List (Nat × AO) := [(0, one0 (.ptr 3 0 0 0)), (1, one0 (.raw (.string fr))), (2, one0 (.raw (.string to))), (3, tbRZ 4 l.length c), (4, roTZ l)]
mutual
theorem bd_up {L : Nat} : (v : AV) → v.bd L = true → v.bd (L + 1) = true
  | .raw v, _ => rfl
  | .ptr l w i c, h => by
    have : l + 1 ≤ L := by simpa [AV.bd, Nat.ble_eq] using h
    simp [AV.bd, Nat.ble_eq]; omega
  | .sl l w off n cap, h => by
    have : l + 1 ≤ L := by simpa [AV.bd, Nat.ble_eq] using h
    simp [AV.bd, Nat.ble_eq]; omega
  | .agg xs, h => bds_up xs h
  | .tup xs, h => bds_up xs h
  | .fn f cs, h => bds_up cs h
theorem bds_up {L : Nat} : (xs : List AV) → AV.bds L xs = true → AV.bds (L + 1) xs = true
  | [], _ => rfl
  | x :: xs, h => by
    simp only [AV.bds, Bool.and_eq_true] at h ⊢
    exact ⟨bd_up x h.1, bds_up xs h.2⟩
end
/-- what a Range sees of memory -/
structure RSee (tb fb ob bs : Nat) (fr to : ByteArray) (l : ZL) (W : World) : Prop where
  asc : Asc l
  len : l.length ≤ 1000000
  mem : ∃ r c, (∀ i o, hk i (rgH fr to l c) = some o → o.holds (envR tb fb ob bs r) (envR tb fb ob bs r i) W) ∧ ∀ i b, i < 5 → envR tb fb ob bs r i = some b → b < W.heap.size
theorem rgH_bd {fr to : ByteArray} {l : ZL} {c i : Nat} {o : AO} (h : hk i (rgH fr to l c) = some o) : i < 5 ∧ o.Bd 5 := by
  simp only [rgH, hk_cons] at h
  repeat (split at h; · (rename_i e; subst e; cases h; exact ⟨by omega, fun _ _ => rfl⟩))
  simp [hk, lk] at h
theorem see_gam {tb fb ob bs : Nat} {fr to : ByteArray} {l : ZL} {W : World} {F : World → Prop} {n : Nat} {τ : List (Nat × AV)} {a : Act} (h : RSee tb fb ob bs fr to l W) (hdf : a.defers = []) (hsz : a.tmps.size = n) (htm : ∀ t v, lk t τ = some v → v.bd 4 = true ∧ a.tmps[t]? = some (v.conc (envR tb fb ob bs none))) (hF : ∀ w', Below W.heap.size W w' → F w') :
    ∃ ρ c, Gam ⟨4, envR tb fb ob bs none, []⟩ ρ n 5 τ (rgH fr to l c) F a W := by
  obtain ⟨r, c, h1, h2⟩ := h.mem
  have he : ∀ i, i < 4 → envR tb fb ob bs r i = envR tb fb ob bs none i := fun i hi => by
    match i, hi with
    | 0, _ => rfl
    | 1, _ => rfl
    | 2, _ => rfl
    | 3, _ => rfl
  refine ⟨envR tb fb ob bs r, c, gam_ro hdf hsz (fun t v hv => ?_) rfl (fun i o ho => ⟨(rgH_bd ho).1, (rgH_bd ho).2, h1 i o ho⟩) hF he (Nat.le_succ 4) h2⟩
  have := htm t v hv
  exact ⟨bd_up v this.1, by rw [this.2, bd_low v this.1 _ _ he]⟩
theorem see_enter {tb fb ob bs : Nat} {fr to : ByteArray} {l : ZL} {W : World} {F : World → Prop} (n : Nat) (avs : List AV) (h : RSee tb fb ob bs fr to l W) (hlen : avs.length ≤ n) (hbd : AV.bds 4 avs = true) (hF : ∀ w', Below W.heap.size W w' → F w') {args : Array Value} (ha : (AV.concs (envR tb fb ob bs none) avs).toArray = args) :
    ∃ ρ c, Gam ⟨4, envR tb fb ob bs none, []⟩ ρ n 5 (slots 0 avs) (rgH fr to l c) F { tmps := args ++ Array.replicate (n - args.size) undef, defers := [] } W := by
  subst ha
  refine see_gam h rfl (by simp [concs_length]; omega) (fun t v hv => ?_) hF
  have := (lk_slots avs 0 t v hv).2
  rw [Nat.sub_zero] at this
  refine ⟨bds_all hbd v (List.mem_of_getElem? this), ?_⟩
  have hlt : t < avs.length := (List.getElem?_eq_some_iff.1 this).1
  simp only [Array.getElem?_append, List.size_toArray, concs_length, hlt, if_true]
  simpa using concs_get this
def env5 (b7 : Nat) (ρ : Env) : Env := fun i => match i with
  | 5 => some b7
  | i => ρ i
abbrev rgH7 (xs : List AV) (fr to : ByteArray) (l : ZL) (c : Nat) : List (Nat × AO) := (5, .ro 0 0 1 (fun _ => xs)) :: rgH fr to l c
theorem see_gam7 {tb fb ob bs n L d : Nat} {fr to : ByteArray} {l : ZL} {w w' : World} {F F' : World → Prop} {τ τ2 : List (Nat × AV)} {h : List (Nat × AO)} {a : Act} {ρ : Env} {xs : List AV} {T : TypeId} {y : Value} (g : Gam ⟨4, envR tb fb ob bs none, []⟩ ρ n L τ h F a w) (hs : RSee tb fb ob bs fr to l w') (hl : hk 5 h = some (.cells xs T)) (hraw : ∀ x ∈ xs, ∀ ρ1 ρ2 : Env, x.conc ρ1 = x.conc ρ2) (hxb : AV.bds 6 xs = true) (hkeep : ∀ b, ρ 5 = some b → w'.heap[b]? = w.heap[b]?) (hd : d < n)
    (hτ : ∀ t v, lk t τ2 = some v → lk t τ = some v ∧ (v.bd 4 = true ∨ v = .ptr 5 0 0 0)) (hF : ∀ x, Below w'.heap.size w' x → F' x) : ∃ ρ' c, Gam ⟨4, envR tb fb ob bs none, []⟩ ρ' n 6 ((d, .raw y) :: τ2) (rgH7 xs fr to l c) F' (a.put (some d) y) w' := by
  obtain ⟨r, c, h1, h2⟩ := hs.mem
  obtain ⟨b7, hb7, hc7⟩ := (g.hp 5 _ hl).2.2
  have hc7' := (hkeep b7 hb7).trans hc7
  have hlow : ∀ i, i < 5 → env5 b7 (envR tb fb ob bs r) i = envR tb fb ob bs r i := fun i hi => by
    match i, hi with
    | 0, _ => rfl
    | 1, _ => rfl
    | 2, _ => rfl
    | 3, _ => rfl
    | 4, _ => rfl
  have he : ∀ i, i < 4 → env5 b7 (envR tb fb ob bs r) i = envR tb fb ob bs none i := fun i hi => by
    match i, hi with
    | 0, _ => rfl
    | 1, _ => rfl
    | 2, _ => rfl
    | 3, _ => rfl
  refine ⟨env5 b7 (envR tb fb ob bs r), c, gam_ro g.df (by simp [Act.put, g.sz]) (fun t v hv => ?_) rfl (fun i o ho => ?_) hF he (by show 4 ≤ 6; omega) (fun i b hi hb => ?_)⟩
  · rw [lk_cons] at hv
    split at hv
    · rename_i e
      subst e
      cases hv
      exact ⟨rfl, by simp [Act.put, g.sz, hd, AV.conc]⟩
    · rename_i e
      obtain ⟨h3, h4⟩ := hτ t v hv
      have h5 := (g.tm t v h3).2
      have h6 : (a.put (some d) y).tmps[t]? = a.tmps[t]? := by simp only [Act.put]; rw [Array.getElem?_setIfInBounds_ne e]
      rw [h6, h5]
      rcases h4 with h4 | rfl
      · exact ⟨bd_up _ (bd_up _ h4), by rw [bd_low v h4 _ _ g.ex, bd_low v h4 _ _ he]⟩
      · exact ⟨rfl, by simp [AV.conc, hb7, env5]⟩
  · rw [hk_cons] at ho
    split at ho
    · rename_i e
      subst e
      cases ho
      refine ⟨by omega, fun _ _ => hxb, .inr ⟨b7, _, T, _, rfl, hc7', fun i c x hi hx => ?_⟩⟩
      rw [concs_map]
      simp only [Nat.mul_zero, Nat.zero_add, List.getElem?_toArray, List.getElem?_map, hx, Option.map_some]
      rw [hraw x (List.mem_of_getElem? hx) ρ _]
    · obtain ⟨h3, h4⟩ := rgH_bd ho
      refine ⟨by omega, ?_, ?_⟩
      · cases o with
        | cells xs ty => exact bds_up _ h4
        | bytes p cap ty => trivial
        | tab w n cap f ty => exact fun i hi => bds_up _ (h4 i hi)
        | ro w off n f => exact fun i hi => bds_up _ (h4 i hi)
        | gone => trivial
      · rw [hlow i h3]
        exact (h4.low (envR tb fb ob bs r) _ hlow _ _).1 (h1 i o ho)
  · match i, hi with
    | 5, _ => cases hb; exact (Array.getElem?_eq_some_iff.1 hc7').1
    | 0, _ => exact h2 0 b (by omega) hb
    | 1, _ => exact h2 1 b (by omega) hb
    | 2, _ => exact h2 2 b (by omega) hb
    | 3, _ => exact h2 3 b (by omega) hb
    | 4, _ => exact h2 4 b (by omega) hb
section
variable {σ : Type} (zl : σ → ZL) (la : σ → Option ByteArray) (μ : σ → Nat) (tb fb ob bs : Nat) (fr to : ByteArray)
theorem rng1_itc : ItC Try.prog rgZ #[.pointer (some ⟨tb, 0, none⟩), .pointer (some ⟨fb, 0, none⟩), .pointer (some ⟨ob, 0, none⟩)] (fun x : ByteArray × Nat => #[.string x.1, .pointer (some ⟨x.2, 0, none⟩)]) (fun s W => RSee tb fb ob bs fr to (zl s) W)
    (fun s x => ∃ i, posO (zl s) fr (la s) = i ∧ i < (zl s).length ∧ x = (((zl s).getD i zG).1, ((zl s).getD i zG).2.1) ∧ past to x.1 = false) (fun s x s' => la s' = some x.1 ∧ μ s' < μ s) (fun s => la s = none) (fun s => posO (zl s) fr (la s) < (zl s).length → past to ((zl s).getD (posO (zl s) fr (la s)) zG).1 = true) := by
  intro lY J Jx s0 W0 hgrow hgrowx hsee hy hJ hini
  refine (callsIn_wide (n := 0)).2 ?_
  refine calls_of_wp Try.func78 rfl ?_
  rw [Try.ntmps78]
  obtain ⟨ρ, c, g⟩ := see_enter (F := J s0) 46 [.raw (.func (.yield lY) #[] #[]), .ptr 0 0 0 0, .ptr 1 0 0 0, .ptr 2 0 0 0] (hsee s0 W0 hJ) (by simp) rfl (fun w' hw => hgrow s0 W0 w' hJ hw) rfl
  refine C.out ?_ ρ _ W0 g
  have hA0 := (hsee s0 W0 hJ).asc
  have hl0 := (hsee s0 W0 hJ).len
  clear g hJ
  repeat (first | refine C.seq ?_ | refine C.region ?_ | refine R.zb ttok ?_ | refine R.zu ttok ?_ | refine R.zc ttok ?_ | refine R.za ttok ?_ | refine R.zx ?_ | refine R.zl ttok ?_ | refine R.zs ttok ?_ | refine R.z ttok ?_ | refine R.zk ?_ | refine R.zn ?_ | refine R.done ?_ | refine X.then ?_ | refine C.block ?_ | refine C.ret ?_ | refine C.skip ?_ | refine C.exit ?_ | refine X.pass_ret ?_ | refine X.pass_exit ?_ | refine X.block_normal ?_ | refine X.block_ret ?_ | refine X.block_exit ?_ | refine C.zt ?_ | refine C.zf ?_ | refine X.zo ?_)
  refine R.ldo (v := .ptr 3 0 0 0) ttok rfl rfl rfl rfl rfl (by kernel_rfl) Nat.one_pos ?_
  refine R.ldo (v := .raw (.string fr)) ttok rfl rfl rfl rfl rfl (by kernel_rfl) Nat.one_pos ?_
  refine R.cl [3, 4] (findI_specZ (zl s0) c fr hA0 (by omega)) Try.call79 (by repeat (first | exact HasIn.nil | refine HasIn.same rfl rfl ?_ | refine HasIn.bro rfl ?_ | refine HasIn.ror rfl ?_ | refine HasIn.cro rfl rfl ?_)) rfl rfl rfl (fun _ => rfl) rfl (by kernel_rfl) fun _ _ => ?_
  have hp0 : posO (zl s0) fr (la s0) = plc (zl s0) fr := by rw [hini]; rfl
  rw [← hp0]
  repeat (first | refine C.seq ?_ | refine C.region ?_ | refine R.zb ttok ?_ | refine R.zu ttok ?_ | refine R.zc ttok ?_ | refine R.za ttok ?_ | refine R.zx ?_ | refine R.zl ttok ?_ | refine R.zs ttok ?_ | refine R.z ttok ?_ | refine R.zk ?_ | refine R.zn ?_ | refine R.done ?_ | refine X.then ?_ | refine C.block ?_ | refine C.ret ?_ | refine C.skip ?_ | refine C.exit ?_ | refine X.pass_ret ?_ | refine X.pass_exit ?_ | refine X.block_normal ?_ | refine X.block_ret ?_ | refine X.block_exit ?_ | refine C.zt ?_ | refine C.zf ?_ | refine X.zo ?_)
  refine C.loopG (σ := σ × Nat) (L2 := 5) (fun s => Asc (zl s.1) ∧ (zl s.1).length ≤ 1000000) (fun s => [(0, .raw (.func (.yield lY) #[] #[])), (1, .ptr 0 0 0 0), (2, .ptr 1 0 0 0), (3, .ptr 2 0 0 0), (5, .raw (.int .i64 (posO (zl s.1) fr (la s.1))))]) (fun s => rgH fr to (zl s.1) s.2) (fun s => J s.1) (fun s => μ s.1) [] (s0, c) ⟨hA0, hl0⟩ rfl (by repeat (first | exact HasT.nil | refine HasT.cons rfl rfl rfl ?_)) (by repeat (first | exact HasH.nil | refine HasH.same rfl rfl rfl trivial ?_ | refine HasH.same rfl rfl rfl rfl ?_ | refine HasH.same rfl rfl rfl (fun _ _ => rfl) ?_ | refine HasH.ros rfl rfl ?_)) rfl (fun _ h => h) ?_
  rintro ⟨s, c⟩ ⟨hA, hl⟩
  dsimp only at hA hl ⊢
  have hple := posO_le (zl s) fr (la s)
  refine C.here rfl fun W1 hJ1 => ?_
  repeat (first | refine C.seq ?_ | refine C.region ?_ | refine R.zb ttok ?_ | refine R.zu ttok ?_ | refine R.zc ttok ?_ | refine R.za ttok ?_ | refine R.zx ?_ | refine R.zl ttok ?_ | refine R.zs ttok ?_ | refine R.z ttok ?_ | refine R.zk ?_ | refine R.zn ?_ | refine R.done ?_ | refine X.then ?_ | refine C.block ?_ | refine C.ret ?_ | refine C.skip ?_ | refine C.exit ?_ | refine X.pass_ret ?_ | refine X.pass_exit ?_ | refine X.block_normal ?_ | refine X.block_ret ?_ | refine X.block_exit ?_ | refine C.zt ?_ | refine C.zf ?_ | refine X.zo ?_)
  refine R.ldo (v := .ptr 3 0 0 0) ttok rfl rfl rfl rfl rfl (by kernel_rfl) Nat.one_pos ?_
  refine R.cl [3, 4] (lenI_specZ (zl s) c) Try.call80 (by repeat (first | exact HasIn.nil | refine HasIn.same rfl rfl ?_ | refine HasIn.bro rfl ?_ | refine HasIn.ror rfl ?_ | refine HasIn.cro rfl rfl ?_)) rfl rfl rfl (fun _ => rfl) rfl (by kernel_rfl) fun _ _ => ?_
  repeat (first | refine C.seq ?_ | refine C.region ?_ | refine R.zb ttok ?_ | refine R.zu ttok ?_ | refine R.zc ttok ?_ | refine R.za ttok ?_ | refine R.zx ?_ | refine R.zl ttok ?_ | refine R.zs ttok ?_ | refine R.z ttok ?_ | refine R.zk ?_ | refine R.zn ?_ | refine R.done ?_ | refine X.then ?_ | refine C.block ?_ | refine C.ret ?_ | refine C.skip ?_ | refine C.exit ?_ | refine X.pass_ret ?_ | refine X.pass_exit ?_ | refine X.block_normal ?_ | refine X.block_ret ?_ | refine X.block_exit ?_ | refine C.zt ?_ | refine C.zf ?_ | refine X.zo ?_)
  obtain ⟨i, hpi⟩ : ∃ i, posO (zl s) fr (la s) = i := ⟨_, rfl⟩
  rw [hpi] at hple ⊢
  refine C.dec rfl (fun hi => ?_) (fun hi => ?_)
  · have hi : i < (zl s).length := by omega
    obtain ⟨p, hp⟩ : ∃ p, (zl s).getD i zG = p := ⟨_, rfl⟩
    repeat (first | refine C.seq ?_ | refine C.region ?_ | refine R.zb ttok ?_ | refine R.zu ttok ?_ | refine R.zc ttok ?_ | refine R.za ttok ?_ | refine R.zx ?_ | refine R.zl ttok ?_ | refine R.zs ttok ?_ | refine R.z ttok ?_ | refine R.zk ?_ | refine R.zn ?_ | refine R.done ?_ | refine X.then ?_ | refine C.block ?_ | refine C.ret ?_ | refine C.skip ?_ | refine C.exit ?_ | refine X.pass_ret ?_ | refine X.pass_exit ?_ | refine X.block_normal ?_ | refine X.block_ret ?_ | refine X.block_exit ?_ | refine C.zt ?_ | refine C.zf ?_ | refine X.zo ?_)
    refine R.ldo (v := .ptr 3 0 0 0) ttok rfl rfl rfl rfl rfl (by kernel_rfl) Nat.one_pos ?_
    repeat (first | refine C.seq ?_ | refine C.region ?_ | refine R.zb ttok ?_ | refine R.zu ttok ?_ | refine R.zc ttok ?_ | refine R.za ttok ?_ | refine R.zx ?_ | refine R.zl ttok ?_ | refine R.zs ttok ?_ | refine R.z ttok ?_ | refine R.zk ?_ | refine R.zn ?_ | refine R.done ?_ | refine X.then ?_ | refine C.block ?_ | refine C.ret ?_ | refine C.skip ?_ | refine C.exit ?_ | refine X.pass_ret ?_ | refine X.pass_exit ?_ | refine X.block_normal ?_ | refine X.block_ret ?_ | refine X.block_exit ?_ | refine C.zt ?_ | refine C.zf ?_ | refine X.zo ?_)
    refine R.ldo (v := .sl 4 2 0 (zl s).length c) ttok rfl rfl rfl rfl rfl (by kernel_rfl) Nat.one_pos ?_
    repeat (first | refine C.seq ?_ | refine C.region ?_ | refine R.zb ttok ?_ | refine R.zu ttok ?_ | refine R.zc ttok ?_ | refine R.za ttok ?_ | refine R.zx ?_ | refine R.zl ttok ?_ | refine R.zs ttok ?_ | refine R.z ttok ?_ | refine R.zk ?_ | refine R.zn ?_ | refine R.done ?_ | refine X.then ?_ | refine C.block ?_ | refine C.ret ?_ | refine C.skip ?_ | refine C.exit ?_ | refine X.pass_ret ?_ | refine X.pass_exit ?_ | refine X.block_normal ?_ | refine X.block_ret ?_ | refine X.block_exit ?_ | refine C.zt ?_ | refine C.zf ?_ | refine X.zo ?_)
    refine R.ix ttok i rfl rfl rfl rfl rfl (by kernel_rfl) rfl hi (by show _ ≤ _ ∧ _ < _; omega) rfl ?_
    refine R.ldo (v := .agg (piAZ ((zl s).getD i zG))) ttok rfl rfl rfl rfl rfl (by kernel_rfl) hi ?_
    rw [hp]
    repeat (first | refine R.zb ttok ?_ | refine R.zu ttok ?_ | refine R.zc ttok ?_ | refine R.za ttok ?_ | refine R.zx ?_ | refine R.zl ttok ?_ | refine R.zs ttok ?_ | refine R.z ttok ?_ | refine R.zk ?_ | refine R.zn ?_)
    refine R.done ?_
    refine X.then ?_
    refine C.less [] 6 [(0, .raw (.func (.yield lY) #[] #[])), (1, .ptr 0 0 0 0), (2, .ptr 1 0 0 0), (3, .ptr 2 0 0 0), (5, .raw (.int .i64 i)), (7, .ptr 5 0 0 0)] ((5, .cells (piAZ p) 136) :: rgH fr to (zl s) c) _ rfl (by repeat (first | exact HasT.nil | refine HasT.cons rfl rfl rfl ?_)) (by repeat (first | exact HasH.nil | refine HasH.same rfl rfl rfl trivial ?_ | refine HasH.same rfl rfl rfl rfl ?_ | refine HasH.same rfl rfl rfl (fun _ _ => rfl) ?_ | refine HasH.ros rfl rfl ?_)) rfl (fun _ h => h) ?_
    refine C.seq ?_
    refine C.seq ?_
    cases hpast : past to p.1 with
    | true =>
      have hpast2 := hpast
      unfold past at hpast2
      rw [Bool.and_eq_true] at hpast2
      refine C.region ?_
      refine R.ldo (v := .raw (.string to)) ttok rfl rfl rfl rfl rfl (by kernel_rfl) Nat.one_pos ?_
      repeat (first | refine R.zb ttok ?_ | refine R.zu ttok ?_ | refine R.zc ttok ?_ | refine R.za ttok ?_ | refine R.zx ?_ | refine R.zl ttok ?_ | refine R.zs ttok ?_ | refine R.z ttok ?_ | refine R.zk ?_ | refine R.zn ?_)
      rw [show decide (to.toList ≠ (⟨#[]⟩ : ByteArray).toList) = true from hpast2.1]
      repeat (first | refine R.zb ttok ?_ | refine R.zu ttok ?_ | refine R.zc ttok ?_ | refine R.za ttok ?_ | refine R.zx ?_ | refine R.zl ttok ?_ | refine R.zs ttok ?_ | refine R.z ttok ?_ | refine R.zk ?_ | refine R.zn ?_)
      refine R.ldo (v := .raw (.string to)) ttok rfl rfl rfl rfl rfl (by kernel_rfl) Nat.one_pos ?_
      repeat (first | refine R.zb ttok ?_ | refine R.zu ttok ?_ | refine R.zc ttok ?_ | refine R.za ttok ?_ | refine R.zx ?_ | refine R.zl ttok ?_ | refine R.zs ttok ?_ | refine R.z ttok ?_ | refine R.zk ?_ | refine R.zn ?_)
      rw [show (!(Op.bytesLess p.1.toList to.toList || decide (p.1.toList = to.toList))) = true from hpast2.2]
      repeat (first | refine C.seq ?_ | refine C.region ?_ | refine R.zb ttok ?_ | refine R.zu ttok ?_ | refine R.zc ttok ?_ | refine R.za ttok ?_ | refine R.zx ?_ | refine R.zl ttok ?_ | refine R.zs ttok ?_ | refine R.z ttok ?_ | refine R.zk ?_ | refine R.zn ?_ | refine R.done ?_ | refine X.then ?_ | refine C.block ?_ | refine C.ret ?_ | refine C.skip ?_ | refine C.exit ?_ | refine X.pass_ret ?_ | refine X.pass_exit ?_ | refine X.block_normal ?_ | refine X.block_ret ?_ | refine X.block_exit ?_ | refine C.zt ?_ | refine C.zf ?_ | refine X.zo ?_)
      refine X.ret ttok rfl fun ρ a w g => ⟨⟨_, rfl⟩, .inl ⟨s, hgrow s W1 w hJ1 (g.fr w (Ag.refl _ _)), fun _ => by rw [hpi, hp]; exact hpast⟩⟩
    | false =>
      refine C.regionY ?_
      refine RY.one ?_
      refine R.ldo (v := .raw (.string to)) ttok rfl rfl rfl rfl rfl (by kernel_rfl) Nat.one_pos ?_
      refine R.done ?_
      refine X.ry ?_
      repeat (refine RY.one ?_; (first | refine R.zb ttok ?_ | refine R.zu ttok ?_ | refine R.zc ttok ?_ | refine R.za ttok ?_ | refine R.zx ?_ | refine R.zl ttok ?_ | refine R.zs ttok ?_ | refine R.z ttok ?_ | refine R.zk ?_ | refine R.zn ?_); refine R.done ?_; refine X.ry ?_)
      cases hne : neB to noT with
      | false =>
        rw [show decide (to.toList ≠ (⟨#[]⟩ : ByteArray).toList) = false from hne]
        repeat (refine RY.one ?_; (first | refine R.zb ttok ?_ | refine R.zu ttok ?_ | refine R.zc ttok ?_ | refine R.za ttok ?_ | refine R.zx ?_ | refine R.zl ttok ?_ | refine R.zs ttok ?_ | refine R.z ttok ?_ | refine R.zk ?_ | refine R.zn ?_); refine R.done ?_; refine X.ry ?_)
        refine RY.yield rfl rfl rfl fun ρ a w g => ?_
        refine YieldAt.mono (hy s (p.1, p.2.1) W1 w hJ1 (g.fr w (Ag.refl _ _)) ⟨i, hpi, hi, by rw [hp], hpast⟩) ?_
        rintro e w' (⟨rfl, ⟨s', hJ', hla, hmu⟩, hkeep⟩ | ⟨rfl, s', hJx'⟩)
        · refine ⟨_, rfl, ?_⟩
          have hsee' := hsee s' w' hJ'
          obtain ⟨ρ', c', g'⟩ := see_gam7 (F' := J s') (d := 39) (y := .bool true) (τ2 := [(0, .raw (.func (.yield lY) #[] #[])), (1, .ptr 0 0 0 0), (2, .ptr 1 0 0 0), (3, .ptr 2 0 0 0), (7, .ptr 5 0 0 0), (33, .raw (.bool false))]) g hsee' rfl (by simp [AV.conc]) rfl (fun b hb => hkeep b (g.newB ⟨_, rfl, rfl⟩ hb) (g.lt (by intro e; cases e) hb)) (by decide) (fun t v hv => by
            simp only [lk_cons] at hv
            repeat (split at hv; · (rename_i e; subst e; cases hv; exact ⟨rfl, by first | exact .inl rfl | exact .inr rfl⟩))
            simp [lk] at hv) (fun x hx => hgrow s' w' x hJ' hx)
          refine RY.out ?_ ρ' _ w' g'
          have hA' := hsee'.asc
          have hl' := hsee'.len
          have hp' : posO (zl s') fr (la s') = aboveN (zl s') p.1 := by rw [hla]; rfl
          repeat (refine RY.one ?_; (first | refine R.zb ttok ?_ | refine R.zu ttok ?_ | refine R.zc ttok ?_ | refine R.za ttok ?_ | refine R.zx ?_ | refine R.zl ttok ?_ | refine R.zs ttok ?_ | refine R.z ttok ?_ | refine R.zk ?_ | refine R.zn ?_); refine R.done ?_; refine X.ry ?_)
          refine RY.done ?_
          repeat (first | refine C.seq ?_ | refine C.region ?_ | refine R.zb ttok ?_ | refine R.zu ttok ?_ | refine R.zc ttok ?_ | refine R.za ttok ?_ | refine R.zx ?_ | refine R.zl ttok ?_ | refine R.zs ttok ?_ | refine R.z ttok ?_ | refine R.zk ?_ | refine R.zn ?_ | refine R.done ?_ | refine X.then ?_ | refine C.block ?_ | refine C.ret ?_ | refine C.skip ?_ | refine C.exit ?_ | refine X.pass_ret ?_ | refine X.pass_exit ?_ | refine X.block_normal ?_ | refine X.block_ret ?_ | refine X.block_exit ?_ | refine C.zt ?_ | refine C.zf ?_ | refine X.zo ?_)
          refine R.ldo (v := .ptr 3 0 0 0) ttok rfl rfl rfl rfl rfl (by kernel_rfl) Nat.one_pos ?_
          repeat (first | refine C.seq ?_ | refine C.region ?_ | refine R.zb ttok ?_ | refine R.zu ttok ?_ | refine R.zc ttok ?_ | refine R.za ttok ?_ | refine R.zx ?_ | refine R.zl ttok ?_ | refine R.zs ttok ?_ | refine R.z ttok ?_ | refine R.zk ?_ | refine R.zn ?_ | refine R.done ?_ | refine X.then ?_ | refine C.block ?_ | refine C.ret ?_ | refine C.skip ?_ | refine C.exit ?_ | refine X.pass_ret ?_ | refine X.pass_exit ?_ | refine X.block_normal ?_ | refine X.block_ret ?_ | refine X.block_exit ?_ | refine C.zt ?_ | refine C.zf ?_ | refine X.zo ?_)
          refine R.ldo (v := .raw (.string p.1)) ttok rfl rfl rfl rfl rfl (by kernel_rfl) Nat.one_pos ?_
          refine R.cl [3, 4] (aboveI_specZ (zl s') c' p.1 hA' (by omega)) Try.call81 (by repeat (first | exact HasIn.nil | refine HasIn.same rfl rfl ?_ | refine HasIn.bro rfl ?_ | refine HasIn.ror rfl ?_ | refine HasIn.cro rfl rfl ?_)) rfl rfl rfl (fun _ => rfl) rfl (by kernel_rfl) fun _ _ => ?_
          rw [← hp']
          repeat (first | refine C.seq ?_ | refine C.region ?_ | refine R.zb ttok ?_ | refine R.zu ttok ?_ | refine R.zc ttok ?_ | refine R.za ttok ?_ | refine R.zx ?_ | refine R.zl ttok ?_ | refine R.zs ttok ?_ | refine R.z ttok ?_ | refine R.zk ?_ | refine R.zn ?_ | refine R.done ?_ | refine X.then ?_ | refine C.block ?_ | refine C.ret ?_ | refine C.skip ?_ | refine C.exit ?_ | refine X.pass_ret ?_ | refine X.pass_exit ?_ | refine X.block_normal ?_ | refine X.block_ret ?_ | refine X.block_exit ?_ | refine C.zt ?_ | refine C.zf ?_ | refine X.zo ?_)
          exact X.backG [] (s', c') ⟨hA', hl'⟩ hmu rfl (by repeat (first | exact HasT.nil | refine HasT.cons rfl rfl rfl ?_)) (by repeat (first | exact HasH.nil | refine HasH.same rfl rfl rfl trivial ?_ | refine HasH.same rfl rfl rfl rfl ?_ | refine HasH.same rfl rfl rfl (fun _ _ => rfl) ?_ | refine HasH.ros rfl rfl ?_)) rfl (fun _ h => h)
        · refine ⟨_, rfl, ?_⟩
          have g0 : Gam ⟨0, fun _ => none, []⟩ (fun _ => none) 46 0 [(39, .raw (.bool false)), (33, .raw (.bool false))] [] (Jx s') (a.put (some 39) (.bool false)) w' := gam_ro g.df (by simp [Act.put, g.sz]) (fun t v hv => by
            rw [lk_cons] at hv
            split at hv
            · rename_i e; subst e; cases hv; exact ⟨rfl, by simp [Act.put, g.sz, AV.conc]⟩
            · rename_i e
              rw [lk_cons] at hv
              split at hv
              · rename_i e; subst e; cases hv
                refine ⟨rfl, ?_⟩
                have := (g.tm 33 _ rfl).2
                simp only [Act.put]
                rw [Array.getElem?_setIfInBounds_ne (by decide)]
                exact this
              · simp [lk] at hv) rfl (fun l o hl => by simp [hk, lk] at hl) (fun x hx => hgrowx s' w' x hJx' hx) (fun l hl => absurd hl (Nat.not_lt_zero l)) (Nat.le_refl 0) (fun l b hl => absurd hl (Nat.not_lt_zero l))
          refine RY.out ?_ _ _ w' g0
          repeat (refine RY.one ?_; (first | refine R.zb ttok ?_ | refine R.zu ttok ?_ | refine R.zc ttok ?_ | refine R.za ttok ?_ | refine R.zx ?_ | refine R.zl ttok ?_ | refine R.zs ttok ?_ | refine R.z ttok ?_ | refine R.zk ?_ | refine R.zn ?_); refine R.done ?_; refine X.ry ?_)
          refine RY.done ?_
          repeat (first | refine C.seq ?_ | refine C.region ?_ | refine R.zb ttok ?_ | refine R.zu ttok ?_ | refine R.zc ttok ?_ | refine R.za ttok ?_ | refine R.zx ?_ | refine R.zl ttok ?_ | refine R.zs ttok ?_ | refine R.z ttok ?_ | refine R.zk ?_ | refine R.zn ?_ | refine R.done ?_ | refine X.then ?_ | refine C.block ?_ | refine C.ret ?_ | refine C.skip ?_ | refine C.exit ?_ | refine X.pass_ret ?_ | refine X.pass_exit ?_ | refine X.block_normal ?_ | refine X.block_ret ?_ | refine X.block_exit ?_ | refine C.zt ?_ | refine C.zf ?_ | refine X.zo ?_)
          refine X.ret ttok rfl fun ρ a w g => ⟨⟨_, rfl⟩, .inr ⟨s', g.fr w (Ag.refl _ _)⟩⟩
      | true =>
        have hgt : gtB p.1 to = false := by
          unfold past at hpast
          rw [hne, Bool.true_and] at hpast
          exact hpast
        rw [show decide (to.toList ≠ (⟨#[]⟩ : ByteArray).toList) = true from hne]
        repeat (refine RY.one ?_; (first | refine R.zb ttok ?_ | refine R.zu ttok ?_ | refine R.zc ttok ?_ | refine R.za ttok ?_ | refine R.zx ?_ | refine R.zl ttok ?_ | refine R.zs ttok ?_ | refine R.z ttok ?_ | refine R.zk ?_ | refine R.zn ?_); refine R.done ?_; refine X.ry ?_)
        refine RY.one ?_
        refine R.ldo (v := .raw (.string to)) ttok rfl rfl rfl rfl rfl (by kernel_rfl) Nat.one_pos ?_
        refine R.done ?_
        refine X.ry ?_
        repeat (refine RY.one ?_; (first | refine R.zb ttok ?_ | refine R.zu ttok ?_ | refine R.zc ttok ?_ | refine R.za ttok ?_ | refine R.zx ?_ | refine R.zl ttok ?_ | refine R.zs ttok ?_ | refine R.z ttok ?_ | refine R.zk ?_ | refine R.zn ?_); refine R.done ?_; refine X.ry ?_)
        rw [show (!(Op.bytesLess p.1.toList to.toList || decide (p.1.toList = to.toList))) = false from hgt]
        repeat (refine RY.one ?_; (first | refine R.zb ttok ?_ | refine R.zu ttok ?_ | refine R.zc ttok ?_ | refine R.za ttok ?_ | refine R.zx ?_ | refine R.zl ttok ?_ | refine R.zs ttok ?_ | refine R.z ttok ?_ | refine R.zk ?_ | refine R.zn ?_); refine R.done ?_; refine X.ry ?_)
        refine RY.yield rfl rfl rfl fun ρ a w g => ?_
        refine YieldAt.mono (hy s (p.1, p.2.1) W1 w hJ1 (g.fr w (Ag.refl _ _)) ⟨i, hpi, hi, by rw [hp], hpast⟩) ?_
        rintro e w' (⟨rfl, ⟨s', hJ', hla, hmu⟩, hkeep⟩ | ⟨rfl, s', hJx'⟩)
        · refine ⟨_, rfl, ?_⟩
          have hsee' := hsee s' w' hJ'
          obtain ⟨ρ', c', g'⟩ := see_gam7 (F' := J s') (d := 39) (y := .bool true) (τ2 := [(0, .raw (.func (.yield lY) #[] #[])), (1, .ptr 0 0 0 0), (2, .ptr 1 0 0 0), (3, .ptr 2 0 0 0), (7, .ptr 5 0 0 0), (33, .raw (.bool false))]) g hsee' rfl (by simp [AV.conc]) rfl (fun b hb => hkeep b (g.newB ⟨_, rfl, rfl⟩ hb) (g.lt (by intro e; cases e) hb)) (by decide) (fun t v hv => by
            simp only [lk_cons] at hv
            repeat (split at hv; · (rename_i e; subst e; cases hv; exact ⟨rfl, by first | exact .inl rfl | exact .inr rfl⟩))
            simp [lk] at hv) (fun x hx => hgrow s' w' x hJ' hx)
          refine RY.out ?_ ρ' _ w' g'
          have hA' := hsee'.asc
          have hl' := hsee'.len
          have hp' : posO (zl s') fr (la s') = aboveN (zl s') p.1 := by rw [hla]; rfl
          repeat (refine RY.one ?_; (first | refine R.zb ttok ?_ | refine R.zu ttok ?_ | refine R.zc ttok ?_ | refine R.za ttok ?_ | refine R.zx ?_ | refine R.zl ttok ?_ | refine R.zs ttok ?_ | refine R.z ttok ?_ | refine R.zk ?_ | refine R.zn ?_); refine R.done ?_; refine X.ry ?_)
          refine RY.done ?_
          repeat (first | refine C.seq ?_ | refine C.region ?_ | refine R.zb ttok ?_ | refine R.zu ttok ?_ | refine R.zc ttok ?_ | refine R.za ttok ?_ | refine R.zx ?_ | refine R.zl ttok ?_ | refine R.zs ttok ?_ | refine R.z ttok ?_ | refine R.zk ?_ | refine R.zn ?_ | refine R.done ?_ | refine X.then ?_ | refine C.block ?_ | refine C.ret ?_ | refine C.skip ?_ | refine C.exit ?_ | refine X.pass_ret ?_ | refine X.pass_exit ?_ | refine X.block_normal ?_ | refine X.block_ret ?_ | refine X.block_exit ?_ | refine C.zt ?_ | refine C.zf ?_ | refine X.zo ?_)
          refine R.ldo (v := .ptr 3 0 0 0) ttok rfl rfl rfl rfl rfl (by kernel_rfl) Nat.one_pos ?_
          repeat (first | refine C.seq ?_ | refine C.region ?_ | refine R.zb ttok ?_ | refine R.zu ttok ?_ | refine R.zc ttok ?_ | refine R.za ttok ?_ | refine R.zx ?_ | refine R.zl ttok ?_ | refine R.zs ttok ?_ | refine R.z ttok ?_ | refine R.zk ?_ | refine R.zn ?_ | refine R.done ?_ | refine X.then ?_ | refine C.block ?_ | refine C.ret ?_ | refine C.skip ?_ | refine C.exit ?_ | refine X.pass_ret ?_ | refine X.pass_exit ?_ | refine X.block_normal ?_ | refine X.block_ret ?_ | refine X.block_exit ?_ | refine C.zt ?_ | refine C.zf ?_ | refine X.zo ?_)
          refine R.ldo (v := .raw (.string p.1)) ttok rfl rfl rfl rfl rfl (by kernel_rfl) Nat.one_pos ?_
          refine R.cl [3, 4] (aboveI_specZ (zl s') c' p.1 hA' (by omega)) Try.call81 (by repeat (first | exact HasIn.nil | refine HasIn.same rfl rfl ?_ | refine HasIn.bro rfl ?_ | refine HasIn.ror rfl ?_ | refine HasIn.cro rfl rfl ?_)) rfl rfl rfl (fun _ => rfl) rfl (by kernel_rfl) fun _ _ => ?_
          rw [← hp']
          repeat (first | refine C.seq ?_ | refine C.region ?_ | refine R.zb ttok ?_ | refine R.zu ttok ?_ | refine R.zc ttok ?_ | refine R.za ttok ?_ | refine R.zx ?_ | refine R.zl ttok ?_ | refine R.zs ttok ?_ | refine R.z ttok ?_ | refine R.zk ?_ | refine R.zn ?_ | refine R.done ?_ | refine X.then ?_ | refine C.block ?_ | refine C.ret ?_ | refine C.skip ?_ | refine C.exit ?_ | refine X.pass_ret ?_ | refine X.pass_exit ?_ | refine X.block_normal ?_ | refine X.block_ret ?_ | refine X.block_exit ?_ | refine C.zt ?_ | refine C.zf ?_ | refine X.zo ?_)
          exact X.backG [] (s', c') ⟨hA', hl'⟩ hmu rfl (by repeat (first | exact HasT.nil | refine HasT.cons rfl rfl rfl ?_)) (by repeat (first | exact HasH.nil | refine HasH.same rfl rfl rfl trivial ?_ | refine HasH.same rfl rfl rfl rfl ?_ | refine HasH.same rfl rfl rfl (fun _ _ => rfl) ?_ | refine HasH.ros rfl rfl ?_)) rfl (fun _ h => h)
        · refine ⟨_, rfl, ?_⟩
          have g0 : Gam ⟨0, fun _ => none, []⟩ (fun _ => none) 46 0 [(39, .raw (.bool false)), (33, .raw (.bool false))] [] (Jx s') (a.put (some 39) (.bool false)) w' := gam_ro g.df (by simp [Act.put, g.sz]) (fun t v hv => by
            rw [lk_cons] at hv
            split at hv
            · rename_i e; subst e; cases hv; exact ⟨rfl, by simp [Act.put, g.sz, AV.conc]⟩
            · rename_i e
              rw [lk_cons] at hv
              split at hv
              · rename_i e; subst e; cases hv
                refine ⟨rfl, ?_⟩
                have := (g.tm 33 _ rfl).2
                simp only [Act.put]
                rw [Array.getElem?_setIfInBounds_ne (by decide)]
                exact this
              · simp [lk] at hv) rfl (fun l o hl => by simp [hk, lk] at hl) (fun x hx => hgrowx s' w' x hJx' hx) (fun l hl => absurd hl (Nat.not_lt_zero l)) (Nat.le_refl 0) (fun l b hl => absurd hl (Nat.not_lt_zero l))
          refine RY.out ?_ _ _ w' g0
          repeat (refine RY.one ?_; (first | refine R.zb ttok ?_ | refine R.zu ttok ?_ | refine R.zc ttok ?_ | refine R.za ttok ?_ | refine R.zx ?_ | refine R.zl ttok ?_ | refine R.zs ttok ?_ | refine R.z ttok ?_ | refine R.zk ?_ | refine R.zn ?_); refine R.done ?_; refine X.ry ?_)
          refine RY.done ?_
          repeat (first | refine C.seq ?_ | refine C.region ?_ | refine R.zb ttok ?_ | refine R.zu ttok ?_ | refine R.zc ttok ?_ | refine R.za ttok ?_ | refine R.zx ?_ | refine R.zl ttok ?_ | refine R.zs ttok ?_ | refine R.z ttok ?_ | refine R.zk ?_ | refine R.zn ?_ | refine R.done ?_ | refine X.then ?_ | refine C.block ?_ | refine C.ret ?_ | refine C.skip ?_ | refine C.exit ?_ | refine X.pass_ret ?_ | refine X.pass_exit ?_ | refine X.block_normal ?_ | refine X.block_ret ?_ | refine X.block_exit ?_ | refine C.zt ?_ | refine C.zf ?_ | refine X.zo ?_)
          refine X.ret ttok rfl fun ρ a w g => ⟨⟨_, rfl⟩, .inr ⟨s', g.fr w (Ag.refl _ _)⟩⟩
  · repeat (first | refine C.seq ?_ | refine C.region ?_ | refine R.zb ttok ?_ | refine R.zu ttok ?_ | refine R.zc ttok ?_ | refine R.za ttok ?_ | refine R.zx ?_ | refine R.zl ttok ?_ | refine R.zs ttok ?_ | refine R.z ttok ?_ | refine R.zk ?_ | refine R.zn ?_ | refine R.done ?_ | refine X.then ?_ | refine C.block ?_ | refine C.ret ?_ | refine C.skip ?_ | refine C.exit ?_ | refine X.pass_ret ?_ | refine X.pass_exit ?_ | refine X.block_normal ?_ | refine X.block_ret ?_ | refine X.block_exit ?_ | refine C.zt ?_ | refine C.zf ?_ | refine X.zo ?_)
    refine X.end_ ttok rfl fun ρ a w g => ⟨⟨_, rfl⟩, .inl ⟨s, hgrow s W1 w hJ1 (g.fr w (Ag.refl _ _)), fun h => by omega⟩⟩
end
end Go.Proofs.Yteabncomclgncaa
namespace Go.Proofs.Yteabncomclgncaa
set_option linter.unusedVariables false
set_option linter.unusedSimpArgs false
open Go.RowKit
set_option maxRecDepth 100000
set_option maxHeartbeats 4000000
abbrev slT : TypeId := 79
abbrev slA (s : Sl Int) : List AV := [.raw (.int .i64 s.c0), .raw (.int .i64 s.c1), .raw (.bool s.h0), .raw (.bool s.h1), .raw (.int .i64 (b01 s.rd)), .raw (.int .i64 (b01 s.wr))]
def slOb (s : Sl Int) : Obj := .cells #[.int .i64 s.c0, .int .i64 s.c1, .bool s.h0, .bool s.h1, .int .i64 (b01 s.rd), .int .i64 (b01 s.wr)] slT (0, 0)
abbrev slRo (s : Sl Int) : AO := .ro 0 0 1 (fun _ => slA s)
abbrev slC (s : Sl Int) : AO := .cells (slA s) slT
theorem is_slC (b : Nat) (s : Sl Int) : Is b (slOb s) (slC s) := fun ρ w hw => ⟨b, rfl, hw⟩
theorem cells_roA {ρ : Env} {r : Option Nat} {w : World} {xs : List AV} {T : TypeId} (h : (AO.cells xs T).holds ρ r w) : (AO.ro 0 0 1 (fun _ => xs)).holds ρ r w := by
  obtain ⟨b, hr, hb⟩ := h
  refine .inr ⟨b, _, T, _, hr, hb, fun i c y hi hy => ?_⟩
  have hy : xs[c]? = some y := hy
  simp [concs_map, List.getElem?_map, hy]
theorem is_slRo (b : Nat) (s : Sl Int) : Is b (slOb s) (slRo s) := fun ρ w hw => cells_roA (is_slC b s ρ w hw)
theorem slC_is {b : Nat} {ob : Obj} {s : Sl Int} (h : Is b ob (slC s)) : ob = slOb s := by
  obtain ⟨w, hw⟩ : ∃ w : World, w.heap[b]? = some ob := ⟨{ (default : World) with heap := Array.replicate (b + 1) ob }, by simp⟩
  obtain ⟨b', e, hb⟩ := h (fun _ => none) w hw
  cases e
  rw [hw] at hb
  exact Option.some.inj hb
theorem HasIn.roA {r : Nat → Nat} {h : List (Nat × AO)} {i : Nat} {os : List AO} {xs xs' : List AV} {T : TypeId} (h1 : hk (r i) h = some (.cells xs' T)) (hx : xs' = AV.rens r xs) (k : HasIn r h (i + 1) os) : HasIn r h i (.ro 0 0 1 (fun _ => xs) :: os) :=
  .other h1 (fun e => by cases e) (fun ρ x w hh => by
    subst hx
    exact cells_roA hh) k
theorem roA_bd {xs : List AV} {L : Nat} (h : AV.bds L xs = true) : AO.Bd L (.ro 0 0 1 (fun _ => xs)) := fun i _ => h
theorem read_specZ (s : Sl Int) (b : Bool) : Spec Try.prog 50 [.ptr 0 0 0 0, .raw (.int .i64 (b01 b))] [slRo s] 1 (σ := Unit) (fun _ => True) (fun _ => .tup [.raw (.int .i64 (s.get b)), .raw (.bool (s.has b))]) (fun _ => []) := by
  refine Spec.of Try.func50 rfl Try.ntmps50 rfl (bdl_cons (roA_bd rfl) (bdl_nil _)) fun ρ w => ?_
  cases b with
  | false =>
    repeat (first | refine C.seq ?_ | refine C.region ?_ | refine R.zb ttok ?_ | refine R.zu ttok ?_ | refine R.zc ttok ?_ | refine R.za ttok ?_ | refine R.zx ?_ | refine R.zl ttok ?_ | refine R.zs ttok ?_ | refine R.z ttok ?_ | refine R.zk ?_ | refine R.zn ?_ | refine R.done ?_ | refine X.then ?_ | refine C.block ?_ | refine C.ret ?_ | refine C.skip ?_ | refine C.exit ?_ | refine X.pass_ret ?_ | refine X.pass_exit ?_ | refine X.block_normal ?_ | refine X.block_ret ?_ | refine X.block_exit ?_ | refine C.zt ?_ | refine C.zf ?_ | refine X.zo ?_)
    refine C.draw [[], [], [0], [0, 2], [0, 1, 2, 3], [0, 1, 2, 3, 4], [], [], [6], [6, 8], [6, 7, 8, 9], [6, 7, 8, 9, 10], [0, 1, 2, 3, 4, 5], [0, 1, 2, 3, 4, 5, 6, 7, 8, 9, 10, 11, 12]] [] (by kernel_rfl) (by kernel_rfl) ?_
    repeat (first | refine C.seq ?_ | refine C.region ?_ | refine R.zb ttok ?_ | refine R.zu ttok ?_ | refine R.zc ttok ?_ | refine R.za ttok ?_ | refine R.zx ?_ | refine R.zl ttok ?_ | refine R.zs ttok ?_ | refine R.z ttok ?_ | refine R.zk ?_ | refine R.zn ?_ | refine R.done ?_ | refine X.then ?_ | refine C.block ?_ | refine C.ret ?_ | refine C.skip ?_ | refine C.exit ?_ | refine X.pass_ret ?_ | refine X.pass_exit ?_ | refine X.block_normal ?_ | refine X.block_ret ?_ | refine X.block_exit ?_ | refine C.zt ?_ | refine C.zf ?_ | refine X.zo ?_)
    refine R.ixa ttok 0 rfl rfl rfl rfl rfl (by kernel_rfl) rfl (by decide) ?_
    refine R.ldo (v := .raw (.int .i64 s.c0)) ttok rfl rfl rfl rfl rfl (by kernel_rfl) Nat.one_pos ?_
    repeat (first | refine C.seq ?_ | refine C.region ?_ | refine R.zb ttok ?_ | refine R.zu ttok ?_ | refine R.zc ttok ?_ | refine R.za ttok ?_ | refine R.zx ?_ | refine R.zl ttok ?_ | refine R.zs ttok ?_ | refine R.z ttok ?_ | refine R.zk ?_ | refine R.zn ?_ | refine R.done ?_ | refine X.then ?_ | refine C.block ?_ | refine C.ret ?_ | refine C.skip ?_ | refine C.exit ?_ | refine X.pass_ret ?_ | refine X.pass_exit ?_ | refine X.block_normal ?_ | refine X.block_ret ?_ | refine X.block_exit ?_ | refine C.zt ?_ | refine C.zf ?_ | refine X.zo ?_)
    refine R.ixa ttok 0 rfl rfl rfl rfl rfl (by kernel_rfl) rfl (by decide) ?_
    refine R.ldo (v := .raw (.bool s.h0)) ttok rfl rfl rfl rfl rfl (by kernel_rfl) Nat.one_pos ?_
    repeat (first | refine C.seq ?_ | refine C.region ?_ | refine R.zb ttok ?_ | refine R.zu ttok ?_ | refine R.zc ttok ?_ | refine R.za ttok ?_ | refine R.zx ?_ | refine R.zl ttok ?_ | refine R.zs ttok ?_ | refine R.z ttok ?_ | refine R.zk ?_ | refine R.zn ?_ | refine R.done ?_ | refine X.then ?_ | refine C.block ?_ | refine C.ret ?_ | refine C.skip ?_ | refine C.exit ?_ | refine X.pass_ret ?_ | refine X.pass_exit ?_ | refine X.block_normal ?_ | refine X.block_ret ?_ | refine X.block_exit ?_ | refine C.zt ?_ | refine C.zf ?_ | refine X.zo ?_)
    refine X.fin ttok () [] trivial rfl rfl rfl (by repeat (first | exact HasH.nil | refine HasH.same rfl rfl rfl trivial ?_ | refine HasH.same rfl rfl rfl rfl ?_ | refine HasH.same rfl rfl rfl (fun _ _ => rfl) ?_ | refine HasH.ros rfl rfl ?_)) _ (by first | exact .inl rfl | exact .inr rfl)
  | true =>
    repeat (first | refine C.seq ?_ | refine C.region ?_ | refine R.zb ttok ?_ | refine R.zu ttok ?_ | refine R.zc ttok ?_ | refine R.za ttok ?_ | refine R.zx ?_ | refine R.zl ttok ?_ | refine R.zs ttok ?_ | refine R.z ttok ?_ | refine R.zk ?_ | refine R.zn ?_ | refine R.done ?_ | refine X.then ?_ | refine C.block ?_ | refine C.ret ?_ | refine C.skip ?_ | refine C.exit ?_ | refine X.pass_ret ?_ | refine X.pass_exit ?_ | refine X.block_normal ?_ | refine X.block_ret ?_ | refine X.block_exit ?_ | refine C.zt ?_ | refine C.zf ?_ | refine X.zo ?_)
    refine C.draw [[], [], [0], [0, 2], [0, 1, 2, 3], [0, 1, 2, 3, 4], [], [], [6], [6, 8], [6, 7, 8, 9], [6, 7, 8, 9, 10], [0, 1, 2, 3, 4, 5], [0, 1, 2, 3, 4, 5, 6, 7, 8, 9, 10, 11, 12]] [] (by kernel_rfl) (by kernel_rfl) ?_
    repeat (first | refine C.seq ?_ | refine C.region ?_ | refine R.zb ttok ?_ | refine R.zu ttok ?_ | refine R.zc ttok ?_ | refine R.za ttok ?_ | refine R.zx ?_ | refine R.zl ttok ?_ | refine R.zs ttok ?_ | refine R.z ttok ?_ | refine R.zk ?_ | refine R.zn ?_ | refine R.done ?_ | refine X.then ?_ | refine C.block ?_ | refine C.ret ?_ | refine C.skip ?_ | refine C.exit ?_ | refine X.pass_ret ?_ | refine X.pass_exit ?_ | refine X.block_normal ?_ | refine X.block_ret ?_ | refine X.block_exit ?_ | refine C.zt ?_ | refine C.zf ?_ | refine X.zo ?_)
    refine R.ixa ttok 1 rfl rfl rfl rfl rfl (by kernel_rfl) rfl (by decide) ?_
    refine R.ldo (v := .raw (.int .i64 s.c1)) ttok rfl rfl rfl rfl rfl (by kernel_rfl) Nat.one_pos ?_
    repeat (first | refine C.seq ?_ | refine C.region ?_ | refine R.zb ttok ?_ | refine R.zu ttok ?_ | refine R.zc ttok ?_ | refine R.za ttok ?_ | refine R.zx ?_ | refine R.zl ttok ?_ | refine R.zs ttok ?_ | refine R.z ttok ?_ | refine R.zk ?_ | refine R.zn ?_ | refine R.done ?_ | refine X.then ?_ | refine C.block ?_ | refine C.ret ?_ | refine C.skip ?_ | refine C.exit ?_ | refine X.pass_ret ?_ | refine X.pass_exit ?_ | refine X.block_normal ?_ | refine X.block_ret ?_ | refine X.block_exit ?_ | refine C.zt ?_ | refine C.zf ?_ | refine X.zo ?_)
    refine R.ixa ttok 1 rfl rfl rfl rfl rfl (by kernel_rfl) rfl (by decide) ?_
    refine R.ldo (v := .raw (.bool s.h1)) ttok rfl rfl rfl rfl rfl (by kernel_rfl) Nat.one_pos ?_
    repeat (first | refine C.seq ?_ | refine C.region ?_ | refine R.zb ttok ?_ | refine R.zu ttok ?_ | refine R.zc ttok ?_ | refine R.za ttok ?_ | refine R.zx ?_ | refine R.zl ttok ?_ | refine R.zs ttok ?_ | refine R.z ttok ?_ | refine R.zk ?_ | refine R.zn ?_ | refine R.done ?_ | refine X.then ?_ | refine C.block ?_ | refine C.ret ?_ | refine C.skip ?_ | refine C.exit ?_ | refine X.pass_ret ?_ | refine X.pass_exit ?_ | refine X.block_normal ?_ | refine X.block_ret ?_ | refine X.block_exit ?_ | refine C.zt ?_ | refine C.zf ?_ | refine X.zo ?_)
    refine X.fin ttok () [] trivial rfl rfl rfl (by repeat (first | exact HasH.nil | refine HasH.same rfl rfl rfl trivial ?_ | refine HasH.same rfl rfl rfl rfl ?_ | refine HasH.same rfl rfl rfl (fun _ _ => rfl) ?_ | refine HasH.ros rfl rfl ?_)) _ (by first | exact .inl rfl | exact .inr rfl)
theorem done1_specZ (s : Sl Int) : Spec Try.prog 57 [.ptr 0 0 0 0] [slC s] 1 (σ := Unit) (fun _ => True) (fun _ => .raw (.bool (!s.live))) (fun _ => [(0, slC s)]) := by
  refine Spec.of Try.func57 rfl Try.ntmps57 rfl (by simp [AO.Bd, bytesF, AV.bds, AV.bd]) fun ρ w => ?_
  obtain ⟨c0, c1, h0, h1, rd, wr⟩ := s
  cases rd with
  | false =>
    repeat (first | refine C.seq ?_ | refine C.region ?_ | refine R.zb ttok ?_ | refine R.zu ttok ?_ | refine R.zc ttok ?_ | refine R.za ttok ?_ | refine R.zx ?_ | refine R.zl ttok ?_ | refine R.zs ttok ?_ | refine R.z ttok ?_ | refine R.zk ?_ | refine R.zn ?_ | refine R.done ?_ | refine X.then ?_ | refine C.block ?_ | refine C.ret ?_ | refine C.skip ?_ | refine C.exit ?_ | refine X.pass_ret ?_ | refine X.pass_exit ?_ | refine X.block_normal ?_ | refine X.block_ret ?_ | refine X.block_exit ?_ | refine C.zt ?_ | refine C.zf ?_ | refine X.zo ?_)
    refine C.draw [[], [], [1], [1, 2], [1, 2, 3], [0], [0, 5], [0, 1, 2, 3, 4, 5, 6], [0, 1, 2, 3, 4, 5, 6, 7], [0, 1, 2, 3, 4, 5, 6, 7, 8], [0, 1, 2, 3, 4, 5, 6, 7, 8, 9]] [] (by kernel_rfl) (by kernel_rfl) ?_
    repeat (first | refine C.seq ?_ | refine C.region ?_ | refine R.zb ttok ?_ | refine R.zu ttok ?_ | refine R.zc ttok ?_ | refine R.za ttok ?_ | refine R.zx ?_ | refine R.zl ttok ?_ | refine R.zs ttok ?_ | refine R.z ttok ?_ | refine R.zk ?_ | refine R.zn ?_ | refine R.done ?_ | refine X.then ?_ | refine C.block ?_ | refine C.ret ?_ | refine C.skip ?_ | refine C.exit ?_ | refine X.pass_ret ?_ | refine X.pass_exit ?_ | refine X.block_normal ?_ | refine X.block_ret ?_ | refine X.block_exit ?_ | refine C.zt ?_ | refine C.zf ?_ | refine X.zo ?_)
    refine R.ixa ttok 0 rfl rfl rfl rfl rfl (by kernel_rfl) rfl (by decide) ?_
    repeat (first | refine C.seq ?_ | refine C.region ?_ | refine R.zb ttok ?_ | refine R.zu ttok ?_ | refine R.zc ttok ?_ | refine R.za ttok ?_ | refine R.zx ?_ | refine R.zl ttok ?_ | refine R.zs ttok ?_ | refine R.z ttok ?_ | refine R.zk ?_ | refine R.zn ?_ | refine R.done ?_ | refine X.then ?_ | refine C.block ?_ | refine C.ret ?_ | refine C.skip ?_ | refine C.exit ?_ | refine X.pass_ret ?_ | refine X.pass_exit ?_ | refine X.block_normal ?_ | refine X.block_ret ?_ | refine X.block_exit ?_ | refine C.zt ?_ | refine C.zf ?_ | refine X.zo ?_)
    refine X.fin ttok () [] trivial rfl rfl rfl (by repeat (first | exact HasH.nil | refine HasH.same rfl rfl rfl trivial ?_ | refine HasH.same rfl rfl rfl rfl ?_ | refine HasH.same rfl rfl rfl (fun _ _ => rfl) ?_ | refine HasH.ros rfl rfl ?_)) _ (by first | exact .inl rfl | exact .inr rfl)
  | true =>
    repeat (first | refine C.seq ?_ | refine C.region ?_ | refine R.zb ttok ?_ | refine R.zu ttok ?_ | refine R.zc ttok ?_ | refine R.za ttok ?_ | refine R.zx ?_ | refine R.zl ttok ?_ | refine R.zs ttok ?_ | refine R.z ttok ?_ | refine R.zk ?_ | refine R.zn ?_ | refine R.done ?_ | refine X.then ?_ | refine C.block ?_ | refine C.ret ?_ | refine C.skip ?_ | refine C.exit ?_ | refine X.pass_ret ?_ | refine X.pass_exit ?_ | refine X.block_normal ?_ | refine X.block_ret ?_ | refine X.block_exit ?_ | refine C.zt ?_ | refine C.zf ?_ | refine X.zo ?_)
    refine C.draw [[], [], [1], [1, 2], [1, 2, 3], [0], [0, 5], [0, 1, 2, 3, 4, 5, 6], [0, 1, 2, 3, 4, 5, 6, 7], [0, 1, 2, 3, 4, 5, 6, 7, 8], [0, 1, 2, 3, 4, 5, 6, 7, 8, 9]] [] (by kernel_rfl) (by kernel_rfl) ?_
    repeat (first | refine C.seq ?_ | refine C.region ?_ | refine R.zb ttok ?_ | refine R.zu ttok ?_ | refine R.zc ttok ?_ | refine R.za ttok ?_ | refine R.zx ?_ | refine R.zl ttok ?_ | refine R.zs ttok ?_ | refine R.z ttok ?_ | refine R.zk ?_ | refine R.zn ?_ | refine R.done ?_ | refine X.then ?_ | refine C.block ?_ | refine C.ret ?_ | refine C.skip ?_ | refine C.exit ?_ | refine X.pass_ret ?_ | refine X.pass_exit ?_ | refine X.block_normal ?_ | refine X.block_ret ?_ | refine X.block_exit ?_ | refine C.zt ?_ | refine C.zf ?_ | refine X.zo ?_)
    refine R.ixa ttok 1 rfl rfl rfl rfl rfl (by kernel_rfl) rfl (by decide) ?_
    repeat (first | refine C.seq ?_ | refine C.region ?_ | refine R.zb ttok ?_ | refine R.zu ttok ?_ | refine R.zc ttok ?_ | refine R.za ttok ?_ | refine R.zx ?_ | refine R.zl ttok ?_ | refine R.zs ttok ?_ | refine R.z ttok ?_ | refine R.zk ?_ | refine R.zn ?_ | refine R.done ?_ | refine X.then ?_ | refine C.block ?_ | refine C.ret ?_ | refine C.skip ?_ | refine C.exit ?_ | refine X.pass_ret ?_ | refine X.pass_exit ?_ | refine X.block_normal ?_ | refine X.block_ret ?_ | refine X.block_exit ?_ | refine C.zt ?_ | refine C.zf ?_ | refine X.zo ?_)
    refine X.fin ttok () [] trivial rfl rfl rfl (by repeat (first | exact HasH.nil | refine HasH.same rfl rfl rfl trivial ?_ | refine HasH.same rfl rfl rfl rfl ?_ | refine HasH.same rfl rfl rfl (fun _ _ => rfl) ?_ | refine HasH.ros rfl rfl ?_)) _ (by first | exact .inl rfl | exact .inr rfl)
theorem mark1_specZ (s : Sl Int) : Spec Try.prog 56 [.ptr 0 0 0 0] [slC s] 1 (σ := Unit) (fun _ => True) (fun _ => .raw (.bool (!s.live))) (fun _ => [(0, slC s.mark)]) := by
  refine Spec.of Try.func56 rfl Try.ntmps56 rfl (by simp [AO.Bd, bytesF, AV.bds, AV.bd]) fun ρ w => ?_
  obtain ⟨c0, c1, h0, h1, rd, wr⟩ := s
  cases rd with
  | false =>
    repeat (first | refine C.seq ?_ | refine C.region ?_ | refine R.zb ttok ?_ | refine R.zu ttok ?_ | refine R.zc ttok ?_ | refine R.za ttok ?_ | refine R.zx ?_ | refine R.zl ttok ?_ | refine R.zs ttok ?_ | refine R.z ttok ?_ | refine R.zk ?_ | refine R.zn ?_ | refine R.done ?_ | refine X.then ?_ | refine C.block ?_ | refine C.ret ?_ | refine C.skip ?_ | refine C.exit ?_ | refine X.pass_ret ?_ | refine X.pass_exit ?_ | refine X.block_normal ?_ | refine X.block_ret ?_ | refine X.block_exit ?_ | refine C.zt ?_ | refine C.zf ?_ | refine X.zo ?_)
    refine C.draw [[], [], [1], [1, 2], [1, 2, 3], [0], [0, 5], [0, 1, 2, 3, 4, 5, 6], [0, 1, 2, 3, 4, 5, 6, 7], [0, 1, 2, 3, 4, 5, 6, 7, 8], [0, 1, 2, 3, 4, 5, 6, 7, 8, 9]] [] (by kernel_rfl) (by kernel_rfl) ?_
    repeat (first | refine C.seq ?_ | refine C.region ?_ | refine R.zb ttok ?_ | refine R.zu ttok ?_ | refine R.zc ttok ?_ | refine R.za ttok ?_ | refine R.zx ?_ | refine R.zl ttok ?_ | refine R.zs ttok ?_ | refine R.z ttok ?_ | refine R.zk ?_ | refine R.zn ?_ | refine R.done ?_ | refine X.then ?_ | refine C.block ?_ | refine C.ret ?_ | refine C.skip ?_ | refine C.exit ?_ | refine X.pass_ret ?_ | refine X.pass_exit ?_ | refine X.block_normal ?_ | refine X.block_ret ?_ | refine X.block_exit ?_ | refine C.zt ?_ | refine C.zf ?_ | refine X.zo ?_)
    refine R.ixa ttok 0 rfl rfl rfl rfl rfl (by kernel_rfl) rfl (by decide) ?_
    repeat (first | refine C.seq ?_ | refine C.region ?_ | refine R.zb ttok ?_ | refine R.zu ttok ?_ | refine R.zc ttok ?_ | refine R.za ttok ?_ | refine R.zx ?_ | refine R.zl ttok ?_ | refine R.zs ttok ?_ | refine R.z ttok ?_ | refine R.zk ?_ | refine R.zn ?_ | refine R.done ?_ | refine X.then ?_ | refine C.block ?_ | refine C.ret ?_ | refine C.skip ?_ | refine C.exit ?_ | refine X.pass_ret ?_ | refine X.pass_exit ?_ | refine X.block_normal ?_ | refine X.block_ret ?_ | refine X.block_exit ?_ | refine C.zt ?_ | refine C.zf ?_ | refine X.zo ?_)
    refine X.fin ttok () [] trivial rfl rfl rfl (by repeat (first | exact HasH.nil | refine HasH.same rfl rfl rfl trivial ?_ | refine HasH.same rfl rfl rfl rfl ?_ | refine HasH.same rfl rfl rfl (fun _ _ => rfl) ?_ | refine HasH.ros rfl rfl ?_)) _ (by first | exact .inl rfl | exact .inr rfl)
  | true =>
    repeat (first | refine C.seq ?_ | refine C.region ?_ | refine R.zb ttok ?_ | refine R.zu ttok ?_ | refine R.zc ttok ?_ | refine R.za ttok ?_ | refine R.zx ?_ | refine R.zl ttok ?_ | refine R.zs ttok ?_ | refine R.z ttok ?_ | refine R.zk ?_ | refine R.zn ?_ | refine R.done ?_ | refine X.then ?_ | refine C.block ?_ | refine C.ret ?_ | refine C.skip ?_ | refine C.exit ?_ | refine X.pass_ret ?_ | refine X.pass_exit ?_ | refine X.block_normal ?_ | refine X.block_ret ?_ | refine X.block_exit ?_ | refine C.zt ?_ | refine C.zf ?_ | refine X.zo ?_)
    refine C.draw [[], [], [1], [1, 2], [1, 2, 3], [0], [0, 5], [0, 1, 2, 3, 4, 5, 6], [0, 1, 2, 3, 4, 5, 6, 7], [0, 1, 2, 3, 4, 5, 6, 7, 8], [0, 1, 2, 3, 4, 5, 6, 7, 8, 9]] [] (by kernel_rfl) (by kernel_rfl) ?_
    repeat (first | refine C.seq ?_ | refine C.region ?_ | refine R.zb ttok ?_ | refine R.zu ttok ?_ | refine R.zc ttok ?_ | refine R.za ttok ?_ | refine R.zx ?_ | refine R.zl ttok ?_ | refine R.zs ttok ?_ | refine R.z ttok ?_ | refine R.zk ?_ | refine R.zn ?_ | refine R.done ?_ | refine X.then ?_ | refine C.block ?_ | refine C.ret ?_ | refine C.skip ?_ | refine C.exit ?_ | refine X.pass_ret ?_ | refine X.pass_exit ?_ | refine X.block_normal ?_ | refine X.block_ret ?_ | refine X.block_exit ?_ | refine C.zt ?_ | refine C.zf ?_ | refine X.zo ?_)
    refine R.ixa ttok 1 rfl rfl rfl rfl rfl (by kernel_rfl) rfl (by decide) ?_
    repeat (first | refine C.seq ?_ | refine C.region ?_ | refine R.zb ttok ?_ | refine R.zu ttok ?_ | refine R.zc ttok ?_ | refine R.za ttok ?_ | refine R.zx ?_ | refine R.zl ttok ?_ | refine R.zs ttok ?_ | refine R.z ttok ?_ | refine R.zk ?_ | refine R.zn ?_ | refine R.done ?_ | refine X.then ?_ | refine C.block ?_ | refine C.ret ?_ | refine C.skip ?_ | refine C.exit ?_ | refine X.pass_ret ?_ | refine X.pass_exit ?_ | refine X.block_normal ?_ | refine X.block_ret ?_ | refine X.block_exit ?_ | refine C.zt ?_ | refine C.zf ?_ | refine X.zo ?_)
    refine X.fin ttok () [] trivial rfl rfl rfl (by repeat (first | exact HasH.nil | refine HasH.same rfl rfl rfl trivial ?_ | refine HasH.same rfl rfl rfl rfl ?_ | refine HasH.same rfl rfl rfl (fun _ _ => rfl) ?_ | refine HasH.ros rfl rfl ?_)) _ (by first | exact .inl rfl | exact .inr rfl)
/-- how many are there behind a lay -/
def layN (hs : Int) : Bool → Bool → Int
  | false, false => hs
  | true, false => hs - 1
  | false, true => hs + 1
  | true, true => hs - 1 + 1
theorem layN_eq (hs : Int) (a b : Bool) : layN hs a b = hs - b01 a + b01 b := by cases a <;> cases b <;> simp [layN, b01]
abbrev anyO : AO := .ro 0 0 0 (fun _ => [])
theorem any_bd (L : Nat) : AO.Bd L anyO := fun i hi => by omega
theorem tab_any {ρ : Env} {r : Option Nat} {w : World} {wd n0 cap : Nat} {f : Nat → List AV} {T : TypeId} (h : (AO.tab wd n0 cap f T).holds ρ r w) : anyO.holds ρ r w := by
  obtain ⟨h1, _, ⟨h2, h3⟩ | ⟨b, cur, hr, hb, _, hc⟩⟩ := h
  · exact .inl ⟨h2, rfl⟩
  · exact .inr ⟨b, cur, T, _, hr, hb, fun i c x hi hx => by omega⟩
theorem cells_any {ρ : Env} {r : Option Nat} {w : World} {xs : List AV} {T : TypeId} (h : (AO.cells xs T).holds ρ r w) : anyO.holds ρ r w := by
  obtain ⟨b, hr, hb⟩ := h
  exact .inr ⟨b, _, _, _, hr, hb, fun i c x hi => by omega⟩
theorem lay_specZ (s : Sl Int) (n c : Nat) (hs v : Int) (mk has : Bool) (h1 : -1000000 ≤ hs) (h2 : hs ≤ 1000000000) :
    Spec Try.prog 58 [.ptr 0 0 0 0, .ptr 1 0 0 0, .raw (.int .i64 v), .raw (.bool has)] [tbIZ 2 n c hs mk, slC s, anyO] 3 (σ := Unit) (fun _ => True) (fun _ => .tup []) (fun _ => [(0, tbIZ 2 n c (layN hs s.live has) mk), (1, slC (s.lay v has))]) := by
  refine Spec.of Try.func58 rfl Try.ntmps58 rfl (bdl_cons rfl (bdl_cons rfl (bdl_cons (any_bd _) (bdl_nil _)))) fun ρ w => ?_
  obtain ⟨c0, c1, h0, h1, rd, wr⟩ := s
  cases rd with
  | false =>
    cases h0 with
    | false =>
      repeat (first | refine C.seq ?_ | refine C.region ?_ | refine R.zb ttok ?_ | refine R.zu ttok ?_ | refine R.zc ttok ?_ | refine R.za ttok ?_ | refine R.zx ?_ | refine R.zl ttok ?_ | refine R.zs ttok ?_ | refine R.z ttok ?_ | refine R.zk ?_ | refine R.zn ?_ | refine R.done ?_ | refine X.then ?_ | refine C.block ?_ | refine C.ret ?_ | refine C.skip ?_ | refine C.exit ?_ | refine X.pass_ret ?_ | refine X.pass_exit ?_ | refine X.block_normal ?_ | refine X.block_ret ?_ | refine X.block_exit ?_ | refine C.zt ?_ | refine C.zf ?_ | refine X.zo ?_)
      refine C.draw [[], [], [1], [1, 2], [1, 2, 3], [0], [0, 5], [0, 1, 2, 3, 4, 5, 6], [0, 1, 2, 3, 4, 5, 6, 7]] [] (by kernel_rfl) (by kernel_rfl) ?_
      repeat (first | refine C.seq ?_ | refine C.region ?_ | refine R.zb ttok ?_ | refine R.zu ttok ?_ | refine R.zc ttok ?_ | refine R.za ttok ?_ | refine R.zx ?_ | refine R.zl ttok ?_ | refine R.zs ttok ?_ | refine R.z ttok ?_ | refine R.zk ?_ | refine R.zn ?_ | refine R.done ?_ | refine X.then ?_ | refine C.block ?_ | refine C.ret ?_ | refine C.skip ?_ | refine C.exit ?_ | refine X.pass_ret ?_ | refine X.pass_exit ?_ | refine X.block_normal ?_ | refine X.block_ret ?_ | refine X.block_exit ?_ | refine C.zt ?_ | refine C.zf ?_ | refine X.zo ?_)
      refine R.ixa ttok 0 rfl rfl rfl rfl rfl (by kernel_rfl) rfl (by decide) ?_
      repeat (first | refine C.seq ?_ | refine C.region ?_ | refine R.zb ttok ?_ | refine R.zu ttok ?_ | refine R.zc ttok ?_ | refine R.za ttok ?_ | refine R.zx ?_ | refine R.zl ttok ?_ | refine R.zs ttok ?_ | refine R.z ttok ?_ | refine R.zk ?_ | refine R.zn ?_ | refine R.done ?_ | refine X.then ?_ | refine C.block ?_ | refine C.ret ?_ | refine C.skip ?_ | refine C.exit ?_ | refine X.pass_ret ?_ | refine X.pass_exit ?_ | refine X.block_normal ?_ | refine X.block_ret ?_ | refine X.block_exit ?_ | refine C.zt ?_ | refine C.zf ?_ | refine X.zo ?_)
      cases has with
      | false =>
        cases wr with
        | false =>
          repeat (first | refine C.seq ?_ | refine C.region ?_ | refine R.zb ttok ?_ | refine R.zu ttok ?_ | refine R.zc ttok ?_ | refine R.za ttok ?_ | refine R.zx ?_ | refine R.zl ttok ?_ | refine R.zs ttok ?_ | refine R.z ttok ?_ | refine R.zk ?_ | refine R.zn ?_ | refine R.done ?_ | refine X.then ?_ | refine C.block ?_ | refine C.ret ?_ | refine C.skip ?_ | refine C.exit ?_ | refine X.pass_ret ?_ | refine X.pass_exit ?_ | refine X.block_normal ?_ | refine X.block_ret ?_ | refine X.block_exit ?_ | refine C.zt ?_ | refine C.zf ?_ | refine X.zo ?_)
          refine C.draw [[], [], [1], [1, 2], [1, 2, 3], [], [], [6], [6, 7], [6, 7, 8], [], [], [0], [0, 12], [0, 1, 2, 3, 4, 6, 7, 8, 9, 10, 12, 13], [0, 1, 2, 3, 4, 6, 7, 8, 9, 10, 12, 13, 14], [5], [5, 16], [0, 1, 2, 3, 4, 5, 6, 7, 8, 9, 10, 11, 12, 13, 14, 15, 16, 17], [0, 1, 2, 3, 4, 5, 6, 7, 8, 9, 10, 11, 12, 13, 14, 15, 16, 17, 18]] [15, 19] (by kernel_rfl) (by kernel_rfl) ?_
          repeat (first | refine C.seq ?_ | refine C.region ?_ | refine R.zb ttok ?_ | refine R.zu ttok ?_ | refine R.zc ttok ?_ | refine R.za ttok ?_ | refine R.zx ?_ | refine R.zl ttok ?_ | refine R.zs ttok ?_ | refine R.z ttok ?_ | refine R.zk ?_ | refine R.zn ?_ | refine R.done ?_ | refine X.then ?_ | refine C.block ?_ | refine C.ret ?_ | refine C.skip ?_ | refine C.exit ?_ | refine X.pass_ret ?_ | refine X.pass_exit ?_ | refine X.block_normal ?_ | refine X.block_ret ?_ | refine X.block_exit ?_ | refine C.zt ?_ | refine C.zf ?_ | refine X.zo ?_)
          refine R.ixa ttok 0 rfl rfl rfl rfl rfl (by kernel_rfl) rfl (by decide) ?_
          repeat (first | refine C.seq ?_ | refine C.region ?_ | refine R.zb ttok ?_ | refine R.zu ttok ?_ | refine R.zc ttok ?_ | refine R.za ttok ?_ | refine R.zx ?_ | refine R.zl ttok ?_ | refine R.zs ttok ?_ | refine R.z ttok ?_ | refine R.zk ?_ | refine R.zn ?_ | refine R.done ?_ | refine X.then ?_ | refine C.block ?_ | refine C.ret ?_ | refine C.skip ?_ | refine C.exit ?_ | refine X.pass_ret ?_ | refine X.pass_exit ?_ | refine X.block_normal ?_ | refine X.block_ret ?_ | refine X.block_exit ?_ | refine C.zt ?_ | refine C.zf ?_ | refine X.zo ?_)
          refine R.ixa ttok 0 rfl rfl rfl rfl rfl (by kernel_rfl) rfl (by decide) ?_
          repeat (first | refine C.seq ?_ | refine C.region ?_ | refine R.zb ttok ?_ | refine R.zu ttok ?_ | refine R.zc ttok ?_ | refine R.za ttok ?_ | refine R.zx ?_ | refine R.zl ttok ?_ | refine R.zs ttok ?_ | refine R.z ttok ?_ | refine R.zk ?_ | refine R.zn ?_ | refine R.done ?_ | refine X.then ?_ | refine C.block ?_ | refine C.ret ?_ | refine C.skip ?_ | refine C.exit ?_ | refine X.pass_ret ?_ | refine X.pass_exit ?_ | refine X.block_normal ?_ | refine X.block_ret ?_ | refine X.block_exit ?_ | refine C.zt ?_ | refine C.zf ?_ | refine X.zo ?_)
          refine X.fin ttok () [] trivial rfl rfl rfl (by repeat (first | exact HasH.nil | refine HasH.same rfl rfl rfl trivial ?_ | refine HasH.same rfl rfl rfl rfl ?_ | refine HasH.same rfl rfl rfl (fun _ _ => rfl) ?_ | refine HasH.ros rfl rfl ?_)) _ (by first | exact .inl rfl | exact .inr rfl)
        | true =>
          repeat (first | refine C.seq ?_ | refine C.region ?_ | refine R.zb ttok ?_ | refine R.zu ttok ?_ | refine R.zc ttok ?_ | refine R.za ttok ?_ | refine R.zx ?_ | refine R.zl ttok ?_ | refine R.zs ttok ?_ | refine R.z ttok ?_ | refine R.zk ?_ | refine R.zn ?_ | refine R.done ?_ | refine X.then ?_ | refine C.block ?_ | refine C.ret ?_ | refine C.skip ?_ | refine C.exit ?_ | refine X.pass_ret ?_ | refine X.pass_exit ?_ | refine X.block_normal ?_ | refine X.block_ret ?_ | refine X.block_exit ?_ | refine C.zt ?_ | refine C.zf ?_ | refine X.zo ?_)
          refine C.draw [[], [], [1], [1, 2], [1, 2, 3], [], [], [6], [6, 7], [6, 7, 8], [], [], [0], [0, 12], [0, 1, 2, 3, 4, 6, 7, 8, 9, 10, 12, 13], [0, 1, 2, 3, 4, 6, 7, 8, 9, 10, 12, 13, 14], [5], [5, 16], [0, 1, 2, 3, 4, 5, 6, 7, 8, 9, 10, 11, 12, 13, 14, 15, 16, 17], [0, 1, 2, 3, 4, 5, 6, 7, 8, 9, 10, 11, 12, 13, 14, 15, 16, 17, 18]] [15, 19] (by kernel_rfl) (by kernel_rfl) ?_
          repeat (first | refine C.seq ?_ | refine C.region ?_ | refine R.zb ttok ?_ | refine R.zu ttok ?_ | refine R.zc ttok ?_ | refine R.za ttok ?_ | refine R.zx ?_ | refine R.zl ttok ?_ | refine R.zs ttok ?_ | refine R.z ttok ?_ | refine R.zk ?_ | refine R.zn ?_ | refine R.done ?_ | refine X.then ?_ | refine C.block ?_ | refine C.ret ?_ | refine C.skip ?_ | refine C.exit ?_ | refine X.pass_ret ?_ | refine X.pass_exit ?_ | refine X.block_normal ?_ | refine X.block_ret ?_ | refine X.block_exit ?_ | refine C.zt ?_ | refine C.zf ?_ | refine X.zo ?_)
          refine R.ixa ttok 1 rfl rfl rfl rfl rfl (by kernel_rfl) rfl (by decide) ?_
          repeat (first | refine C.seq ?_ | refine C.region ?_ | refine R.zb ttok ?_ | refine R.zu ttok ?_ | refine R.zc ttok ?_ | refine R.za ttok ?_ | refine R.zx ?_ | refine R.zl ttok ?_ | refine R.zs ttok ?_ | refine R.z ttok ?_ | refine R.zk ?_ | refine R.zn ?_ | refine R.done ?_ | refine X.then ?_ | refine C.block ?_ | refine C.ret ?_ | refine C.skip ?_ | refine C.exit ?_ | refine X.pass_ret ?_ | refine X.pass_exit ?_ | refine X.block_normal ?_ | refine X.block_ret ?_ | refine X.block_exit ?_ | refine C.zt ?_ | refine C.zf ?_ | refine X.zo ?_)
          refine R.ixa ttok 1 rfl rfl rfl rfl rfl (by kernel_rfl) rfl (by decide) ?_
          repeat (first | refine C.seq ?_ | refine C.region ?_ | refine R.zb ttok ?_ | refine R.zu ttok ?_ | refine R.zc ttok ?_ | refine R.za ttok ?_ | refine R.zx ?_ | refine R.zl ttok ?_ | refine R.zs ttok ?_ | refine R.z ttok ?_ | refine R.zk ?_ | refine R.zn ?_ | refine R.done ?_ | refine X.then ?_ | refine C.block ?_ | refine C.ret ?_ | refine C.skip ?_ | refine C.exit ?_ | refine X.pass_ret ?_ | refine X.pass_exit ?_ | refine X.block_normal ?_ | refine X.block_ret ?_ | refine X.block_exit ?_ | refine C.zt ?_ | refine C.zf ?_ | refine X.zo ?_)
          refine X.fin ttok () [] trivial rfl rfl rfl (by repeat (first | exact HasH.nil | refine HasH.same rfl rfl rfl trivial ?_ | refine HasH.same rfl rfl rfl rfl ?_ | refine HasH.same rfl rfl rfl (fun _ _ => rfl) ?_ | refine HasH.ros rfl rfl ?_)) _ (by first | exact .inl rfl | exact .inr rfl)
      | true =>
        cases wr with
        | false =>
          repeat (first | refine C.seq ?_ | refine C.region ?_ | refine R.zb ttok ?_ | refine R.zu ttok ?_ | refine R.zc ttok ?_ | refine R.za ttok ?_ | refine R.zx ?_ | refine R.zl ttok ?_ | refine R.zs ttok ?_ | refine R.z ttok ?_ | refine R.zk ?_ | refine R.zn ?_ | refine R.done ?_ | refine X.then ?_ | refine C.block ?_ | refine C.ret ?_ | refine C.skip ?_ | refine C.exit ?_ | refine X.pass_ret ?_ | refine X.pass_exit ?_ | refine X.block_normal ?_ | refine X.block_ret ?_ | refine X.block_exit ?_ | refine C.zt ?_ | refine C.zf ?_ | refine X.zo ?_)
          refine C.draw [[], [], [1], [1, 2], [1, 2, 3], [], [], [6], [6, 7], [6, 7, 8], [], [], [0], [0, 12], [0, 1, 2, 3, 4, 6, 7, 8, 9, 10, 12, 13], [0, 1, 2, 3, 4, 6, 7, 8, 9, 10, 12, 13, 14], [5], [5, 16], [0, 1, 2, 3, 4, 5, 6, 7, 8, 9, 10, 11, 12, 13, 14, 15, 16, 17], [0, 1, 2, 3, 4, 5, 6, 7, 8, 9, 10, 11, 12, 13, 14, 15, 16, 17, 18]] [15, 19] (by kernel_rfl) (by kernel_rfl) ?_
          repeat (first | refine C.seq ?_ | refine C.region ?_ | refine R.zb ttok ?_ | refine R.zu ttok ?_ | refine R.zc ttok ?_ | refine R.za ttok ?_ | refine R.zx ?_ | refine R.zl ttok ?_ | refine R.zs ttok ?_ | refine R.z ttok ?_ | refine R.zk ?_ | refine R.zn ?_ | refine R.done ?_ | refine X.then ?_ | refine C.block ?_ | refine C.ret ?_ | refine C.skip ?_ | refine C.exit ?_ | refine X.pass_ret ?_ | refine X.pass_exit ?_ | refine X.block_normal ?_ | refine X.block_ret ?_ | refine X.block_exit ?_ | refine C.zt ?_ | refine C.zf ?_ | refine X.zo ?_)
          refine R.ixa ttok 0 rfl rfl rfl rfl rfl (by kernel_rfl) rfl (by decide) ?_
          repeat (first | refine C.seq ?_ | refine C.region ?_ | refine R.zb ttok ?_ | refine R.zu ttok ?_ | refine R.zc ttok ?_ | refine R.za ttok ?_ | refine R.zx ?_ | refine R.zl ttok ?_ | refine R.zs ttok ?_ | refine R.z ttok ?_ | refine R.zk ?_ | refine R.zn ?_ | refine R.done ?_ | refine X.then ?_ | refine C.block ?_ | refine C.ret ?_ | refine C.skip ?_ | refine C.exit ?_ | refine X.pass_ret ?_ | refine X.pass_exit ?_ | refine X.block_normal ?_ | refine X.block_ret ?_ | refine X.block_exit ?_ | refine C.zt ?_ | refine C.zf ?_ | refine X.zo ?_)
          refine R.ixa ttok 0 rfl rfl rfl rfl rfl (by kernel_rfl) rfl (by decide) ?_
          repeat (first | refine C.seq ?_ | refine C.region ?_ | refine R.zb ttok ?_ | refine R.zu ttok ?_ | refine R.zc ttok ?_ | refine R.za ttok ?_ | refine R.zx ?_ | refine R.zl ttok ?_ | refine R.zs ttok ?_ | refine R.z ttok ?_ | refine R.zk ?_ | refine R.zn ?_ | refine R.done ?_ | refine X.then ?_ | refine C.block ?_ | refine C.ret ?_ | refine C.skip ?_ | refine C.exit ?_ | refine X.pass_ret ?_ | refine X.pass_exit ?_ | refine X.block_normal ?_ | refine X.block_ret ?_ | refine X.block_exit ?_ | refine C.zt ?_ | refine C.zf ?_ | refine X.zo ?_)
          refine X.fin ttok () [] trivial rfl rfl rfl (by repeat (first | exact HasH.nil | refine HasH.same rfl rfl rfl trivial ?_ | refine HasH.same rfl rfl rfl rfl ?_ | refine HasH.same rfl rfl rfl (fun _ _ => rfl) ?_ | refine HasH.ros rfl rfl ?_)) _ (by first | exact .inl rfl | exact .inr rfl)
        | true =>
          repeat (first | refine C.seq ?_ | refine C.region ?_ | refine R.zb ttok ?_ | refine R.zu ttok ?_ | refine R.zc ttok ?_ | refine R.za ttok ?_ | refine R.zx ?_ | refine R.zl ttok ?_ | refine R.zs ttok ?_ | refine R.z ttok ?_ | refine R.zk ?_ | refine R.zn ?_ | refine R.done ?_ | refine X.then ?_ | refine C.block ?_ | refine C.ret ?_ | refine C.skip ?_ | refine C.exit ?_ | refine X.pass_ret ?_ | refine X.pass_exit ?_ | refine X.block_normal ?_ | refine X.block_ret ?_ | refine X.block_exit ?_ | refine C.zt ?_ | refine C.zf ?_ | refine X.zo ?_)
          refine C.draw [[], [], [1], [1, 2], [1, 2, 3], [], [], [6], [6, 7], [6, 7, 8], [], [], [0], [0, 12], [0, 1, 2, 3, 4, 6, 7, 8, 9, 10, 12, 13], [0, 1, 2, 3, 4, 6, 7, 8, 9, 10, 12, 13, 14], [5], [5, 16], [0, 1, 2, 3, 4, 5, 6, 7, 8, 9, 10, 11, 12, 13, 14, 15, 16, 17], [0, 1, 2, 3, 4, 5, 6, 7, 8, 9, 10, 11, 12, 13, 14, 15, 16, 17, 18]] [15, 19] (by kernel_rfl) (by kernel_rfl) ?_
          repeat (first | refine C.seq ?_ | refine C.region ?_ | refine R.zb ttok ?_ | refine R.zu ttok ?_ | refine R.zc ttok ?_ | refine R.za ttok ?_ | refine R.zx ?_ | refine R.zl ttok ?_ | refine R.zs ttok ?_ | refine R.z ttok ?_ | refine R.zk ?_ | refine R.zn ?_ | refine R.done ?_ | refine X.then ?_ | refine C.block ?_ | refine C.ret ?_ | refine C.skip ?_ | refine C.exit ?_ | refine X.pass_ret ?_ | refine X.pass_exit ?_ | refine X.block_normal ?_ | refine X.block_ret ?_ | refine X.block_exit ?_ | refine C.zt ?_ | refine C.zf ?_ | refine X.zo ?_)
          refine R.ixa ttok 1 rfl rfl rfl rfl rfl (by kernel_rfl) rfl (by decide) ?_
          repeat (first | refine C.seq ?_ | refine C.region ?_ | refine R.zb ttok ?_ | refine R.zu ttok ?_ | refine R.zc ttok ?_ | refine R.za ttok ?_ | refine R.zx ?_ | refine R.zl ttok ?_ | refine R.zs ttok ?_ | refine R.z ttok ?_ | refine R.zk ?_ | refine R.zn ?_ | refine R.done ?_ | refine X.then ?_ | refine C.block ?_ | refine C.ret ?_ | refine C.skip ?_ | refine C.exit ?_ | refine X.pass_ret ?_ | refine X.pass_exit ?_ | refine X.block_normal ?_ | refine X.block_ret ?_ | refine X.block_exit ?_ | refine C.zt ?_ | refine C.zf ?_ | refine X.zo ?_)
          refine R.ixa ttok 1 rfl rfl rfl rfl rfl (by kernel_rfl) rfl (by decide) ?_
          repeat (first | refine C.seq ?_ | refine C.region ?_ | refine R.zb ttok ?_ | refine R.zu ttok ?_ | refine R.zc ttok ?_ | refine R.za ttok ?_ | refine R.zx ?_ | refine R.zl ttok ?_ | refine R.zs ttok ?_ | refine R.z ttok ?_ | refine R.zk ?_ | refine R.zn ?_ | refine R.done ?_ | refine X.then ?_ | refine C.block ?_ | refine C.ret ?_ | refine C.skip ?_ | refine C.exit ?_ | refine X.pass_ret ?_ | refine X.pass_exit ?_ | refine X.block_normal ?_ | refine X.block_ret ?_ | refine X.block_exit ?_ | refine C.zt ?_ | refine C.zf ?_ | refine X.zo ?_)
          refine X.fin ttok () [] trivial rfl rfl rfl (by repeat (first | exact HasH.nil | refine HasH.same rfl rfl rfl trivial ?_ | refine HasH.same rfl rfl rfl rfl ?_ | refine HasH.same rfl rfl rfl (fun _ _ => rfl) ?_ | refine HasH.ros rfl rfl ?_)) _ (by first | exact .inl rfl | exact .inr rfl)
    | true =>
      repeat (first | refine C.seq ?_ | refine C.region ?_ | refine R.zb ttok ?_ | refine R.zu ttok ?_ | refine R.zc ttok ?_ | refine R.za ttok ?_ | refine R.zx ?_ | refine R.zl ttok ?_ | refine R.zs ttok ?_ | refine R.z ttok ?_ | refine R.zk ?_ | refine R.zn ?_ | refine R.done ?_ | refine X.then ?_ | refine C.block ?_ | refine C.ret ?_ | refine C.skip ?_ | refine C.exit ?_ | refine X.pass_ret ?_ | refine X.pass_exit ?_ | refine X.block_normal ?_ | refine X.block_ret ?_ | refine X.block_exit ?_ | refine C.zt ?_ | refine C.zf ?_ | refine X.zo ?_)
      refine C.draw [[], [], [1], [1, 2], [1, 2, 3], [0], [0, 5], [0, 1, 2, 3, 4, 5, 6], [0, 1, 2, 3, 4, 5, 6, 7]] [] (by kernel_rfl) (by kernel_rfl) ?_
      repeat (first | refine C.seq ?_ | refine C.region ?_ | refine R.zb ttok ?_ | refine R.zu ttok ?_ | refine R.zc ttok ?_ | refine R.za ttok ?_ | refine R.zx ?_ | refine R.zl ttok ?_ | refine R.zs ttok ?_ | refine R.z ttok ?_ | refine R.zk ?_ | refine R.zn ?_ | refine R.done ?_ | refine X.then ?_ | refine C.block ?_ | refine C.ret ?_ | refine C.skip ?_ | refine C.exit ?_ | refine X.pass_ret ?_ | refine X.pass_exit ?_ | refine X.block_normal ?_ | refine X.block_ret ?_ | refine X.block_exit ?_ | refine C.zt ?_ | refine C.zf ?_ | refine X.zo ?_)
      refine R.ixa ttok 0 rfl rfl rfl rfl rfl (by kernel_rfl) rfl (by decide) ?_
      repeat (first | refine C.seq ?_ | refine C.region ?_ | refine R.zb ttok ?_ | refine R.zu ttok ?_ | refine R.zc ttok ?_ | refine R.za ttok ?_ | refine R.zx ?_ | refine R.zl ttok ?_ | refine R.zs ttok ?_ | refine R.z ttok ?_ | refine R.zk ?_ | refine R.zn ?_ | refine R.done ?_ | refine X.then ?_ | refine C.block ?_ | refine C.ret ?_ | refine C.skip ?_ | refine C.exit ?_ | refine X.pass_ret ?_ | refine X.pass_exit ?_ | refine X.block_normal ?_ | refine X.block_ret ?_ | refine X.block_exit ?_ | refine C.zt ?_ | refine C.zf ?_ | refine X.zo ?_)
      cases has with
      | false =>
        cases wr with
        | false =>
          repeat (first | refine C.seq ?_ | refine C.region ?_ | refine R.zb ttok ?_ | refine R.zu ttok ?_ | refine R.zc ttok ?_ | refine R.za ttok ?_ | refine R.zx ?_ | refine R.zl ttok ?_ | refine R.zs ttok ?_ | refine R.z ttok ?_ | refine R.zk ?_ | refine R.zn ?_ | refine R.done ?_ | refine X.then ?_ | refine C.block ?_ | refine C.ret ?_ | refine C.skip ?_ | refine C.exit ?_ | refine X.pass_ret ?_ | refine X.pass_exit ?_ | refine X.block_normal ?_ | refine X.block_ret ?_ | refine X.block_exit ?_ | refine C.zt ?_ | refine C.zf ?_ | refine X.zo ?_)
          refine C.draw [[], [], [1], [1, 2], [1, 2, 3], [], [], [6], [6, 7], [6, 7, 8], [], [], [0], [0, 12], [0, 1, 2, 3, 4, 6, 7, 8, 9, 10, 12, 13], [0, 1, 2, 3, 4, 6, 7, 8, 9, 10, 12, 13, 14], [5], [5, 16], [0, 1, 2, 3, 4, 5, 6, 7, 8, 9, 10, 11, 12, 13, 14, 15, 16, 17], [0, 1, 2, 3, 4, 5, 6, 7, 8, 9, 10, 11, 12, 13, 14, 15, 16, 17, 18]] [15, 19] (by kernel_rfl) (by kernel_rfl) ?_
          repeat (first | refine C.seq ?_ | refine C.region ?_ | refine R.zb ttok ?_ | refine R.zu ttok ?_ | refine R.zc ttok ?_ | refine R.za ttok ?_ | refine R.zx ?_ | refine R.zl ttok ?_ | refine R.zs ttok ?_ | refine R.z ttok ?_ | refine R.zk ?_ | refine R.zn ?_ | refine R.done ?_ | refine X.then ?_ | refine C.block ?_ | refine C.ret ?_ | refine C.skip ?_ | refine C.exit ?_ | refine X.pass_ret ?_ | refine X.pass_exit ?_ | refine X.block_normal ?_ | refine X.block_ret ?_ | refine X.block_exit ?_ | refine C.zt ?_ | refine C.zf ?_ | refine X.zo ?_)
          refine R.ixa ttok 0 rfl rfl rfl rfl rfl (by kernel_rfl) rfl (by decide) ?_
          repeat (first | refine C.seq ?_ | refine C.region ?_ | refine R.zb ttok ?_ | refine R.zu ttok ?_ | refine R.zc ttok ?_ | refine R.za ttok ?_ | refine R.zx ?_ | refine R.zl ttok ?_ | refine R.zs ttok ?_ | refine R.z ttok ?_ | refine R.zk ?_ | refine R.zn ?_ | refine R.done ?_ | refine X.then ?_ | refine C.block ?_ | refine C.ret ?_ | refine C.skip ?_ | refine C.exit ?_ | refine X.pass_ret ?_ | refine X.pass_exit ?_ | refine X.block_normal ?_ | refine X.block_ret ?_ | refine X.block_exit ?_ | refine C.zt ?_ | refine C.zf ?_ | refine X.zo ?_)
          refine R.ixa ttok 0 rfl rfl rfl rfl rfl (by kernel_rfl) rfl (by decide) ?_
          repeat (first | refine C.seq ?_ | refine C.region ?_ | refine R.zb ttok ?_ | refine R.zu ttok ?_ | refine R.zc ttok ?_ | refine R.za ttok ?_ | refine R.zx ?_ | refine R.zl ttok ?_ | refine R.zs ttok ?_ | refine R.z ttok ?_ | refine R.zk ?_ | refine R.zn ?_ | refine R.done ?_ | refine X.then ?_ | refine C.block ?_ | refine C.ret ?_ | refine C.skip ?_ | refine C.exit ?_ | refine X.pass_ret ?_ | refine X.pass_exit ?_ | refine X.block_normal ?_ | refine X.block_ret ?_ | refine X.block_exit ?_ | refine C.zt ?_ | refine C.zf ?_ | refine X.zo ?_)
          refine X.fin ttok () [] trivial rfl rfl rfl (by repeat (first | exact HasH.nil | refine HasH.same rfl rfl rfl trivial ?_ | refine HasH.same rfl rfl rfl rfl ?_ | refine HasH.same rfl rfl rfl (fun _ _ => rfl) ?_ | refine HasH.ros rfl rfl ?_)) _ (by first | exact .inl rfl | exact .inr rfl)
        | true =>
          repeat (first | refine C.seq ?_ | refine C.region ?_ | refine R.zb ttok ?_ | refine R.zu ttok ?_ | refine R.zc ttok ?_ | refine R.za ttok ?_ | refine R.zx ?_ | refine R.zl ttok ?_ | refine R.zs ttok ?_ | refine R.z ttok ?_ | refine R.zk ?_ | refine R.zn ?_ | refine R.done ?_ | refine X.then ?_ | refine C.block ?_ | refine C.ret ?_ | refine C.skip ?_ | refine C.exit ?_ | refine X.pass_ret ?_ | refine X.pass_exit ?_ | refine X.block_normal ?_ | refine X.block_ret ?_ | refine X.block_exit ?_ | refine C.zt ?_ | refine C.zf ?_ | refine X.zo ?_)
          refine C.draw [[], [], [1], [1, 2], [1, 2, 3], [], [], [6], [6, 7], [6, 7, 8], [], [], [0], [0, 12], [0, 1, 2, 3, 4, 6, 7, 8, 9, 10, 12, 13], [0, 1, 2, 3, 4, 6, 7, 8, 9, 10, 12, 13, 14], [5], [5, 16], [0, 1, 2, 3, 4, 5, 6, 7, 8, 9, 10, 11, 12, 13, 14, 15, 16, 17], [0, 1, 2, 3, 4, 5, 6, 7, 8, 9, 10, 11, 12, 13, 14, 15, 16, 17, 18]] [15, 19] (by kernel_rfl) (by kernel_rfl) ?_
          repeat (first | refine C.seq ?_ | refine C.region ?_ | refine R.zb ttok ?_ | refine R.zu ttok ?_ | refine R.zc ttok ?_ | refine R.za ttok ?_ | refine R.zx ?_ | refine R.zl ttok ?_ | refine R.zs ttok ?_ | refine R.z ttok ?_ | refine R.zk ?_ | refine R.zn ?_ | refine R.done ?_ | refine X.then ?_ | refine C.block ?_ | refine C.ret ?_ | refine C.skip ?_ | refine C.exit ?_ | refine X.pass_ret ?_ | refine X.pass_exit ?_ | refine X.block_normal ?_ | refine X.block_ret ?_ | refine X.block_exit ?_ | refine C.zt ?_ | refine C.zf ?_ | refine X.zo ?_)
          refine R.ixa ttok 1 rfl rfl rfl rfl rfl (by kernel_rfl) rfl (by decide) ?_
          repeat (first | refine C.seq ?_ | refine C.region ?_ | refine R.zb ttok ?_ | refine R.zu ttok ?_ | refine R.zc ttok ?_ | refine R.za ttok ?_ | refine R.zx ?_ | refine R.zl ttok ?_ | refine R.zs ttok ?_ | refine R.z ttok ?_ | refine R.zk ?_ | refine R.zn ?_ | refine R.done ?_ | refine X.then ?_ | refine C.block ?_ | refine C.ret ?_ | refine C.skip ?_ | refine C.exit ?_ | refine X.pass_ret ?_ | refine X.pass_exit ?_ | refine X.block_normal ?_ | refine X.block_ret ?_ | refine X.block_exit ?_ | refine C.zt ?_ | refine C.zf ?_ | refine X.zo ?_)
          refine R.ixa ttok 1 rfl rfl rfl rfl rfl (by kernel_rfl) rfl (by decide) ?_
          repeat (first | refine C.seq ?_ | refine C.region ?_ | refine R.zb ttok ?_ | refine R.zu ttok ?_ | refine R.zc ttok ?_ | refine R.za ttok ?_ | refine R.zx ?_ | refine R.zl ttok ?_ | refine R.zs ttok ?_ | refine R.z ttok ?_ | refine R.zk ?_ | refine R.zn ?_ | refine R.done ?_ | refine X.then ?_ | refine C.block ?_ | refine C.ret ?_ | refine C.skip ?_ | refine C.exit ?_ | refine X.pass_ret ?_ | refine X.pass_exit ?_ | refine X.block_normal ?_ | refine X.block_ret ?_ | refine X.block_exit ?_ | refine C.zt ?_ | refine C.zf ?_ | refine X.zo ?_)
          refine X.fin ttok () [] trivial rfl rfl rfl (by repeat (first | exact HasH.nil | refine HasH.same rfl rfl rfl trivial ?_ | refine HasH.same rfl rfl rfl rfl ?_ | refine HasH.same rfl rfl rfl (fun _ _ => rfl) ?_ | refine HasH.ros rfl rfl ?_)) _ (by first | exact .inl rfl | exact .inr rfl)
      | true =>
        cases wr with
        | false =>
          repeat (first | refine C.seq ?_ | refine C.region ?_ | refine R.zb ttok ?_ | refine R.zu ttok ?_ | refine R.zc ttok ?_ | refine R.za ttok ?_ | refine R.zx ?_ | refine R.zl ttok ?_ | refine R.zs ttok ?_ | refine R.z ttok ?_ | refine R.zk ?_ | refine R.zn ?_ | refine R.done ?_ | refine X.then ?_ | refine C.block ?_ | refine C.ret ?_ | refine C.skip ?_ | refine C.exit ?_ | refine X.pass_ret ?_ | refine X.pass_exit ?_ | refine X.block_normal ?_ | refine X.block_ret ?_ | refine X.block_exit ?_ | refine C.zt ?_ | refine C.zf ?_ | refine X.zo ?_)
          refine C.draw [[], [], [1], [1, 2], [1, 2, 3], [], [], [6], [6, 7], [6, 7, 8], [], [], [0], [0, 12], [0, 1, 2, 3, 4, 6, 7, 8, 9, 10, 12, 13], [0, 1, 2, 3, 4, 6, 7, 8, 9, 10, 12, 13, 14], [5], [5, 16], [0, 1, 2, 3, 4, 5, 6, 7, 8, 9, 10, 11, 12, 13, 14, 15, 16, 17], [0, 1, 2, 3, 4, 5, 6, 7, 8, 9, 10, 11, 12, 13, 14, 15, 16, 17, 18]] [15, 19] (by kernel_rfl) (by kernel_rfl) ?_
          repeat (first | refine C.seq ?_ | refine C.region ?_ | refine R.zb ttok ?_ | refine R.zu ttok ?_ | refine R.zc ttok ?_ | refine R.za ttok ?_ | refine R.zx ?_ | refine R.zl ttok ?_ | refine R.zs ttok ?_ | refine R.z ttok ?_ | refine R.zk ?_ | refine R.zn ?_ | refine R.done ?_ | refine X.then ?_ | refine C.block ?_ | refine C.ret ?_ | refine C.skip ?_ | refine C.exit ?_ | refine X.pass_ret ?_ | refine X.pass_exit ?_ | refine X.block_normal ?_ | refine X.block_ret ?_ | refine X.block_exit ?_ | refine C.zt ?_ | refine C.zf ?_ | refine X.zo ?_)
          refine R.ixa ttok 0 rfl rfl rfl rfl rfl (by kernel_rfl) rfl (by decide) ?_
          repeat (first | refine C.seq ?_ | refine C.region ?_ | refine R.zb ttok ?_ | refine R.zu ttok ?_ | refine R.zc ttok ?_ | refine R.za ttok ?_ | refine R.zx ?_ | refine R.zl ttok ?_ | refine R.zs ttok ?_ | refine R.z ttok ?_ | refine R.zk ?_ | refine R.zn ?_ | refine R.done ?_ | refine X.then ?_ | refine C.block ?_ | refine C.ret ?_ | refine C.skip ?_ | refine C.exit ?_ | refine X.pass_ret ?_ | refine X.pass_exit ?_ | refine X.block_normal ?_ | refine X.block_ret ?_ | refine X.block_exit ?_ | refine C.zt ?_ | refine C.zf ?_ | refine X.zo ?_)
          refine R.ixa ttok 0 rfl rfl rfl rfl rfl (by kernel_rfl) rfl (by decide) ?_
          repeat (first | refine C.seq ?_ | refine C.region ?_ | refine R.zb ttok ?_ | refine R.zu ttok ?_ | refine R.zc ttok ?_ | refine R.za ttok ?_ | refine R.zx ?_ | refine R.zl ttok ?_ | refine R.zs ttok ?_ | refine R.z ttok ?_ | refine R.zk ?_ | refine R.zn ?_ | refine R.done ?_ | refine X.then ?_ | refine C.block ?_ | refine C.ret ?_ | refine C.skip ?_ | refine C.exit ?_ | refine X.pass_ret ?_ | refine X.pass_exit ?_ | refine X.block_normal ?_ | refine X.block_ret ?_ | refine X.block_exit ?_ | refine C.zt ?_ | refine C.zf ?_ | refine X.zo ?_)
          refine X.fin ttok () [] trivial rfl rfl rfl (by repeat (first | exact HasH.nil | refine HasH.same rfl rfl rfl trivial ?_ | refine HasH.same rfl rfl rfl rfl ?_ | refine HasH.same rfl rfl rfl (fun _ _ => rfl) ?_ | refine HasH.ros rfl rfl ?_)) _ (by first | exact .inl rfl | exact .inr rfl)
        | true =>
          repeat (first | refine C.seq ?_ | refine C.region ?_ | refine R.zb ttok ?_ | refine R.zu ttok ?_ | refine R.zc ttok ?_ | refine R.za ttok ?_ | refine R.zx ?_ | refine R.zl ttok ?_ | refine R.zs ttok ?_ | refine R.z ttok ?_ | refine R.zk ?_ | refine R.zn ?_ | refine R.done ?_ | refine X.then ?_ | refine C.block ?_ | refine C.ret ?_ | refine C.skip ?_ | refine C.exit ?_ | refine X.pass_ret ?_ | refine X.pass_exit ?_ | refine X.block_normal ?_ | refine X.block_ret ?_ | refine X.block_exit ?_ | refine C.zt ?_ | refine C.zf ?_ | refine X.zo ?_)
          refine C.draw [[], [], [1], [1, 2], [1, 2, 3], [], [], [6], [6, 7], [6, 7, 8], [], [], [0], [0, 12], [0, 1, 2, 3, 4, 6, 7, 8, 9, 10, 12, 13], [0, 1, 2, 3, 4, 6, 7, 8, 9, 10, 12, 13, 14], [5], [5, 16], [0, 1, 2, 3, 4, 5, 6, 7, 8, 9, 10, 11, 12, 13, 14, 15, 16, 17], [0, 1, 2, 3, 4, 5, 6, 7, 8, 9, 10, 11, 12, 13, 14, 15, 16, 17, 18]] [15, 19] (by kernel_rfl) (by kernel_rfl) ?_
          repeat (first | refine C.seq ?_ | refine C.region ?_ | refine R.zb ttok ?_ | refine R.zu ttok ?_ | refine R.zc ttok ?_ | refine R.za ttok ?_ | refine R.zx ?_ | refine R.zl ttok ?_ | refine R.zs ttok ?_ | refine R.z ttok ?_ | refine R.zk ?_ | refine R.zn ?_ | refine R.done ?_ | refine X.then ?_ | refine C.block ?_ | refine C.ret ?_ | refine C.skip ?_ | refine C.exit ?_ | refine X.pass_ret ?_ | refine X.pass_exit ?_ | refine X.block_normal ?_ | refine X.block_ret ?_ | refine X.block_exit ?_ | refine C.zt ?_ | refine C.zf ?_ | refine X.zo ?_)
          refine R.ixa ttok 1 rfl rfl rfl rfl rfl (by kernel_rfl) rfl (by decide) ?_
          repeat (first | refine C.seq ?_ | refine C.region ?_ | refine R.zb ttok ?_ | refine R.zu ttok ?_ | refine R.zc ttok ?_ | refine R.za ttok ?_ | refine R.zx ?_ | refine R.zl ttok ?_ | refine R.zs ttok ?_ | refine R.z ttok ?_ | refine R.zk ?_ | refine R.zn ?_ | refine R.done ?_ | refine X.then ?_ | refine C.block ?_ | refine C.ret ?_ | refine C.skip ?_ | refine C.exit ?_ | refine X.pass_ret ?_ | refine X.pass_exit ?_ | refine X.block_normal ?_ | refine X.block_ret ?_ | refine X.block_exit ?_ | refine C.zt ?_ | refine C.zf ?_ | refine X.zo ?_)
          refine R.ixa ttok 1 rfl rfl rfl rfl rfl (by kernel_rfl) rfl (by decide) ?_
          repeat (first | refine C.seq ?_ | refine C.region ?_ | refine R.zb ttok ?_ | refine R.zu ttok ?_ | refine R.zc ttok ?_ | refine R.za ttok ?_ | refine R.zx ?_ | refine R.zl ttok ?_ | refine R.zs ttok ?_ | refine R.z ttok ?_ | refine R.zk ?_ | refine R.zn ?_ | refine R.done ?_ | refine X.then ?_ | refine C.block ?_ | refine C.ret ?_ | refine C.skip ?_ | refine C.exit ?_ | refine X.pass_ret ?_ | refine X.pass_exit ?_ | refine X.block_normal ?_ | refine X.block_ret ?_ | refine X.block_exit ?_ | refine C.zt ?_ | refine C.zf ?_ | refine X.zo ?_)
          refine X.fin ttok () [] trivial rfl rfl rfl (by repeat (first | exact HasH.nil | refine HasH.same rfl rfl rfl trivial ?_ | refine HasH.same rfl rfl rfl rfl ?_ | refine HasH.same rfl rfl rfl (fun _ _ => rfl) ?_ | refine HasH.ros rfl rfl ?_)) _ (by first | exact .inl rfl | exact .inr rfl)
  | true =>
    cases h1 with
    | false =>
      repeat (first | refine C.seq ?_ | refine C.region ?_ | refine R.zb ttok ?_ | refine R.zu ttok ?_ | refine R.zc ttok ?_ | refine R.za ttok ?_ | refine R.zx ?_ | refine R.zl ttok ?_ | refine R.zs ttok ?_ | refine R.z ttok ?_ | refine R.zk ?_ | refine R.zn ?_ | refine R.done ?_ | refine X.then ?_ | refine C.block ?_ | refine C.ret ?_ | refine C.skip ?_ | refine C.exit ?_ | refine X.pass_ret ?_ | refine X.pass_exit ?_ | refine X.block_normal ?_ | refine X.block_ret ?_ | refine X.block_exit ?_ | refine C.zt ?_ | refine C.zf ?_ | refine X.zo ?_)
      refine C.draw [[], [], [1], [1, 2], [1, 2, 3], [0], [0, 5], [0, 1, 2, 3, 4, 5, 6], [0, 1, 2, 3, 4, 5, 6, 7]] [] (by kernel_rfl) (by kernel_rfl) ?_
      repeat (first | refine C.seq ?_ | refine C.region ?_ | refine R.zb ttok ?_ | refine R.zu ttok ?_ | refine R.zc ttok ?_ | refine R.za ttok ?_ | refine R.zx ?_ | refine R.zl ttok ?_ | refine R.zs ttok ?_ | refine R.z ttok ?_ | refine R.zk ?_ | refine R.zn ?_ | refine R.done ?_ | refine X.then ?_ | refine C.block ?_ | refine C.ret ?_ | refine C.skip ?_ | refine C.exit ?_ | refine X.pass_ret ?_ | refine X.pass_exit ?_ | refine X.block_normal ?_ | refine X.block_ret ?_ | refine X.block_exit ?_ | refine C.zt ?_ | refine C.zf ?_ | refine X.zo ?_)
      refine R.ixa ttok 1 rfl rfl rfl rfl rfl (by kernel_rfl) rfl (by decide) ?_
      repeat (first | refine C.seq ?_ | refine C.region ?_ | refine R.zb ttok ?_ | refine R.zu ttok ?_ | refine R.zc ttok ?_ | refine R.za ttok ?_ | refine R.zx ?_ | refine R.zl ttok ?_ | refine R.zs ttok ?_ | refine R.z ttok ?_ | refine R.zk ?_ | refine R.zn ?_ | refine R.done ?_ | refine X.then ?_ | refine C.block ?_ | refine C.ret ?_ | refine C.skip ?_ | refine C.exit ?_ | refine X.pass_ret ?_ | refine X.pass_exit ?_ | refine X.block_normal ?_ | refine X.block_ret ?_ | refine X.block_exit ?_ | refine C.zt ?_ | refine C.zf ?_ | refine X.zo ?_)
      cases has with
      | false =>
        cases wr with
        | false =>
          repeat (first | refine C.seq ?_ | refine C.region ?_ | refine R.zb ttok ?_ | refine R.zu ttok ?_ | refine R.zc ttok ?_ | refine R.za ttok ?_ | refine R.zx ?_ | refine R.zl ttok ?_ | refine R.zs ttok ?_ | refine R.z ttok ?_ | refine R.zk ?_ | refine R.zn ?_ | refine R.done ?_ | refine X.then ?_ | refine C.block ?_ | refine C.ret ?_ | refine C.skip ?_ | refine C.exit ?_ | refine X.pass_ret ?_ | refine X.pass_exit ?_ | refine X.block_normal ?_ | refine X.block_ret ?_ | refine X.block_exit ?_ | refine C.zt ?_ | refine C.zf ?_ | refine X.zo ?_)
          refine C.draw [[], [], [1], [1, 2], [1, 2, 3], [], [], [6], [6, 7], [6, 7, 8], [], [], [0], [0, 12], [0, 1, 2, 3, 4, 6, 7, 8, 9, 10, 12, 13], [0, 1, 2, 3, 4, 6, 7, 8, 9, 10, 12, 13, 14], [5], [5, 16], [0, 1, 2, 3, 4, 5, 6, 7, 8, 9, 10, 11, 12, 13, 14, 15, 16, 17], [0, 1, 2, 3, 4, 5, 6, 7, 8, 9, 10, 11, 12, 13, 14, 15, 16, 17, 18]] [15, 19] (by kernel_rfl) (by kernel_rfl) ?_
          repeat (first | refine C.seq ?_ | refine C.region ?_ | refine R.zb ttok ?_ | refine R.zu ttok ?_ | refine R.zc ttok ?_ | refine R.za ttok ?_ | refine R.zx ?_ | refine R.zl ttok ?_ | refine R.zs ttok ?_ | refine R.z ttok ?_ | refine R.zk ?_ | refine R.zn ?_ | refine R.done ?_ | refine X.then ?_ | refine C.block ?_ | refine C.ret ?_ | refine C.skip ?_ | refine C.exit ?_ | refine X.pass_ret ?_ | refine X.pass_exit ?_ | refine X.block_normal ?_ | refine X.block_ret ?_ | refine X.block_exit ?_ | refine C.zt ?_ | refine C.zf ?_ | refine X.zo ?_)
          refine R.ixa ttok 0 rfl rfl rfl rfl rfl (by kernel_rfl) rfl (by decide) ?_
          repeat (first | refine C.seq ?_ | refine C.region ?_ | refine R.zb ttok ?_ | refine R.zu ttok ?_ | refine R.zc ttok ?_ | refine R.za ttok ?_ | refine R.zx ?_ | refine R.zl ttok ?_ | refine R.zs ttok ?_ | refine R.z ttok ?_ | refine R.zk ?_ | refine R.zn ?_ | refine R.done ?_ | refine X.then ?_ | refine C.block ?_ | refine C.ret ?_ | refine C.skip ?_ | refine C.exit ?_ | refine X.pass_ret ?_ | refine X.pass_exit ?_ | refine X.block_normal ?_ | refine X.block_ret ?_ | refine X.block_exit ?_ | refine C.zt ?_ | refine C.zf ?_ | refine X.zo ?_)
          refine R.ixa ttok 0 rfl rfl rfl rfl rfl (by kernel_rfl) rfl (by decide) ?_
          repeat (first | refine C.seq ?_ | refine C.region ?_ | refine R.zb ttok ?_ | refine R.zu ttok ?_ | refine R.zc ttok ?_ | refine R.za ttok ?_ | refine R.zx ?_ | refine R.zl ttok ?_ | refine R.zs ttok ?_ | refine R.z ttok ?_ | refine R.zk ?_ | refine R.zn ?_ | refine R.done ?_ | refine X.then ?_ | refine C.block ?_ | refine C.ret ?_ | refine C.skip ?_ | refine C.exit ?_ | refine X.pass_ret ?_ | refine X.pass_exit ?_ | refine X.block_normal ?_ | refine X.block_ret ?_ | refine X.block_exit ?_ | refine C.zt ?_ | refine C.zf ?_ | refine X.zo ?_)
          refine X.fin ttok () [] trivial rfl rfl rfl (by repeat (first | exact HasH.nil | refine HasH.same rfl rfl rfl trivial ?_ | refine HasH.same rfl rfl rfl rfl ?_ | refine HasH.same rfl rfl rfl (fun _ _ => rfl) ?_ | refine HasH.ros rfl rfl ?_)) _ (by first | exact .inl rfl | exact .inr rfl)
        | true =>
          repeat (first | refine C.seq ?_ | refine C.region ?_ | refine R.zb ttok ?_ | refine R.zu ttok ?_ | refine R.zc ttok ?_ | refine R.za ttok ?_ | refine R.zx ?_ | refine R.zl ttok ?_ | refine R.zs ttok ?_ | refine R.z ttok ?_ | refine R.zk ?_ | refine R.zn ?_ | refine R.done ?_ | refine X.then ?_ | refine C.block ?_ | refine C.ret ?_ | refine C.skip ?_ | refine C.exit ?_ | refine X.pass_ret ?_ | refine X.pass_exit ?_ | refine X.block_normal ?_ | refine X.block_ret ?_ | refine X.block_exit ?_ | refine C.zt ?_ | refine C.zf ?_ | refine X.zo ?_)
          refine C.draw [[], [], [1], [1, 2], [1, 2, 3], [], [], [6], [6, 7], [6, 7, 8], [], [], [0], [0, 12], [0, 1, 2, 3, 4, 6, 7, 8, 9, 10, 12, 13], [0, 1, 2, 3, 4, 6, 7, 8, 9, 10, 12, 13, 14], [5], [5, 16], [0, 1, 2, 3, 4, 5, 6, 7, 8, 9, 10, 11, 12, 13, 14, 15, 16, 17], [0, 1, 2, 3, 4, 5, 6, 7, 8, 9, 10, 11, 12, 13, 14, 15, 16, 17, 18]] [15, 19] (by kernel_rfl) (by kernel_rfl) ?_
          repeat (first | refine C.seq ?_ | refine C.region ?_ | refine R.zb ttok ?_ | refine R.zu ttok ?_ | refine R.zc ttok ?_ | refine R.za ttok ?_ | refine R.zx ?_ | refine R.zl ttok ?_ | refine R.zs ttok ?_ | refine R.z ttok ?_ | refine R.zk ?_ | refine R.zn ?_ | refine R.done ?_ | refine X.then ?_ | refine C.block ?_ | refine C.ret ?_ | refine C.skip ?_ | refine C.exit ?_ | refine X.pass_ret ?_ | refine X.pass_exit ?_ | refine X.block_normal ?_ | refine X.block_ret ?_ | refine X.block_exit ?_ | refine C.zt ?_ | refine C.zf ?_ | refine X.zo ?_)
          refine R.ixa ttok 1 rfl rfl rfl rfl rfl (by kernel_rfl) rfl (by decide) ?_
          repeat (first | refine C.seq ?_ | refine C.region ?_ | refine R.zb ttok ?_ | refine R.zu ttok ?_ | refine R.zc ttok ?_ | refine R.za ttok ?_ | refine R.zx ?_ | refine R.zl ttok ?_ | refine R.zs ttok ?_ | refine R.z ttok ?_ | refine R.zk ?_ | refine R.zn ?_ | refine R.done ?_ | refine X.then ?_ | refine C.block ?_ | refine C.ret ?_ | refine C.skip ?_ | refine C.exit ?_ | refine X.pass_ret ?_ | refine X.pass_exit ?_ | refine X.block_normal ?_ | refine X.block_ret ?_ | refine X.block_exit ?_ | refine C.zt ?_ | refine C.zf ?_ | refine X.zo ?_)
          refine R.ixa ttok 1 rfl rfl rfl rfl rfl (by kernel_rfl) rfl (by decide) ?_
          repeat (first | refine C.seq ?_ | refine C.region ?_ | refine R.zb ttok ?_ | refine R.zu ttok ?_ | refine R.zc ttok ?_ | refine R.za ttok ?_ | refine R.zx ?_ | refine R.zl ttok ?_ | refine R.zs ttok ?_ | refine R.z ttok ?_ | refine R.zk ?_ | refine R.zn ?_ | refine R.done ?_ | refine X.then ?_ | refine C.block ?_ | refine C.ret ?_ | refine C.skip ?_ | refine C.exit ?_ | refine X.pass_ret ?_ | refine X.pass_exit ?_ | refine X.block_normal ?_ | refine X.block_ret ?_ | refine X.block_exit ?_ | refine C.zt ?_ | refine C.zf ?_ | refine X.zo ?_)
          refine X.fin ttok () [] trivial rfl rfl rfl (by repeat (first | exact HasH.nil | refine HasH.same rfl rfl rfl trivial ?_ | refine HasH.same rfl rfl rfl rfl ?_ | refine HasH.same rfl rfl rfl (fun _ _ => rfl) ?_ | refine HasH.ros rfl rfl ?_)) _ (by first | exact .inl rfl | exact .inr rfl)
      | true =>
        cases wr with
        | false =>
          repeat (first | refine C.seq ?_ | refine C.region ?_ | refine R.zb ttok ?_ | refine R.zu ttok ?_ | refine R.zc ttok ?_ | refine R.za ttok ?_ | refine R.zx ?_ | refine R.zl ttok ?_ | refine R.zs ttok ?_ | refine R.z ttok ?_ | refine R.zk ?_ | refine R.zn ?_ | refine R.done ?_ | refine X.then ?_ | refine C.block ?_ | refine C.ret ?_ | refine C.skip ?_ | refine C.exit ?_ | refine X.pass_ret ?_ | refine X.pass_exit ?_ | refine X.block_normal ?_ | refine X.block_ret ?_ | refine X.block_exit ?_ | refine C.zt ?_ | refine C.zf ?_ | refine X.zo ?_)
          refine C.draw [[], [], [1], [1, 2], [1, 2, 3], [], [], [6], [6, 7], [6, 7, 8], [], [], [0], [0, 12], [0, 1, 2, 3, 4, 6, 7, 8, 9, 10, 12, 13], [0, 1, 2, 3, 4, 6, 7, 8, 9, 10, 12, 13, 14], [5], [5, 16], [0, 1, 2, 3, 4, 5, 6, 7, 8, 9, 10, 11, 12, 13, 14, 15, 16, 17], [0, 1, 2, 3, 4, 5, 6, 7, 8, 9, 10, 11, 12, 13, 14, 15, 16, 17, 18]] [15, 19] (by kernel_rfl) (by kernel_rfl) ?_
          repeat (first | refine C.seq ?_ | refine C.region ?_ | refine R.zb ttok ?_ | refine R.zu ttok ?_ | refine R.zc ttok ?_ | refine R.za ttok ?_ | refine R.zx ?_ | refine R.zl ttok ?_ | refine R.zs ttok ?_ | refine R.z ttok ?_ | refine R.zk ?_ | refine R.zn ?_ | refine R.done ?_ | refine X.then ?_ | refine C.block ?_ | refine C.ret ?_ | refine C.skip ?_ | refine C.exit ?_ | refine X.pass_ret ?_ | refine X.pass_exit ?_ | refine X.block_normal ?_ | refine X.block_ret ?_ | refine X.block_exit ?_ | refine C.zt ?_ | refine C.zf ?_ | refine X.zo ?_)
          refine R.ixa ttok 0 rfl rfl rfl rfl rfl (by kernel_rfl) rfl (by decide) ?_
          repeat (first | refine C.seq ?_ | refine C.region ?_ | refine R.zb ttok ?_ | refine R.zu ttok ?_ | refine R.zc ttok ?_ | refine R.za ttok ?_ | refine R.zx ?_ | refine R.zl ttok ?_ | refine R.zs ttok ?_ | refine R.z ttok ?_ | refine R.zk ?_ | refine R.zn ?_ | refine R.done ?_ | refine X.then ?_ | refine C.block ?_ | refine C.ret ?_ | refine C.skip ?_ | refine C.exit ?_ | refine X.pass_ret ?_ | refine X.pass_exit ?_ | refine X.block_normal ?_ | refine X.block_ret ?_ | refine X.block_exit ?_ | refine C.zt ?_ | refine C.zf ?_ | refine X.zo ?_)
          refine R.ixa ttok 0 rfl rfl rfl rfl rfl (by kernel_rfl) rfl (by decide) ?_
          repeat (first | refine C.seq ?_ | refine C.region ?_ | refine R.zb ttok ?_ | refine R.zu ttok ?_ | refine R.zc ttok ?_ | refine R.za ttok ?_ | refine R.zx ?_ | refine R.zl ttok ?_ | refine R.zs ttok ?_ | refine R.z ttok ?_ | refine R.zk ?_ | refine R.zn ?_ | refine R.done ?_ | refine X.then ?_ | refine C.block ?_ | refine C.ret ?_ | refine C.skip ?_ | refine C.exit ?_ | refine X.pass_ret ?_ | refine X.pass_exit ?_ | refine X.block_normal ?_ | refine X.block_ret ?_ | refine X.block_exit ?_ | refine C.zt ?_ | refine C.zf ?_ | refine X.zo ?_)
          refine X.fin ttok () [] trivial rfl rfl rfl (by repeat (first | exact HasH.nil | refine HasH.same rfl rfl rfl trivial ?_ | refine HasH.same rfl rfl rfl rfl ?_ | refine HasH.same rfl rfl rfl (fun _ _ => rfl) ?_ | refine HasH.ros rfl rfl ?_)) _ (by first | exact .inl rfl | exact .inr rfl)
        | true =>
          repeat (first | refine C.seq ?_ | refine C.region ?_ | refine R.zb ttok ?_ | refine R.zu ttok ?_ | refine R.zc ttok ?_ | refine R.za ttok ?_ | refine R.zx ?_ | refine R.zl ttok ?_ | refine R.zs ttok ?_ | refine R.z ttok ?_ | refine R.zk ?_ | refine R.zn ?_ | refine R.done ?_ | refine X.then ?_ | refine C.block ?_ | refine C.ret ?_ | refine C.skip ?_ | refine C.exit ?_ | refine X.pass_ret ?_ | refine X.pass_exit ?_ | refine X.block_normal ?_ | refine X.block_ret ?_ | refine X.block_exit ?_ | refine C.zt ?_ | refine C.zf ?_ | refine X.zo ?_)
          refine C.draw [[], [], [1], [1, 2], [1, 2, 3], [], [], [6], [6, 7], [6, 7, 8], [], [], [0], [0, 12], [0, 1, 2, 3, 4, 6, 7, 8, 9, 10, 12, 13], [0, 1, 2, 3, 4, 6, 7, 8, 9, 10, 12, 13, 14], [5], [5, 16], [0, 1, 2, 3, 4, 5, 6, 7, 8, 9, 10, 11, 12, 13, 14, 15, 16, 17], [0, 1, 2, 3, 4, 5, 6, 7, 8, 9, 10, 11, 12, 13, 14, 15, 16, 17, 18]] [15, 19] (by kernel_rfl) (by kernel_rfl) ?_
          repeat (first | refine C.seq ?_ | refine C.region ?_ | refine R.zb ttok ?_ | refine R.zu ttok ?_ | refine R.zc ttok ?_ | refine R.za ttok ?_ | refine R.zx ?_ | refine R.zl ttok ?_ | refine R.zs ttok ?_ | refine R.z ttok ?_ | refine R.zk ?_ | refine R.zn ?_ | refine R.done ?_ | refine X.then ?_ | refine C.block ?_ | refine C.ret ?_ | refine C.skip ?_ | refine C.exit ?_ | refine X.pass_ret ?_ | refine X.pass_exit ?_ | refine X.block_normal ?_ | refine X.block_ret ?_ | refine X.block_exit ?_ | refine C.zt ?_ | refine C.zf ?_ | refine X.zo ?_)
          refine R.ixa ttok 1 rfl rfl rfl rfl rfl (by kernel_rfl) rfl (by decide) ?_
          repeat (first | refine C.seq ?_ | refine C.region ?_ | refine R.zb ttok ?_ | refine R.zu ttok ?_ | refine R.zc ttok ?_ | refine R.za ttok ?_ | refine R.zx ?_ | refine R.zl ttok ?_ | refine R.zs ttok ?_ | refine R.z ttok ?_ | refine R.zk ?_ | refine R.zn ?_ | refine R.done ?_ | refine X.then ?_ | refine C.block ?_ | refine C.ret ?_ | refine C.skip ?_ | refine C.exit ?_ | refine X.pass_ret ?_ | refine X.pass_exit ?_ | refine X.block_normal ?_ | refine X.block_ret ?_ | refine X.block_exit ?_ | refine C.zt ?_ | refine C.zf ?_ | refine X.zo ?_)
          refine R.ixa ttok 1 rfl rfl rfl rfl rfl (by kernel_rfl) rfl (by decide) ?_
          repeat (first | refine C.seq ?_ | refine C.region ?_ | refine R.zb ttok ?_ | refine R.zu ttok ?_ | refine R.zc ttok ?_ | refine R.za ttok ?_ | refine R.zx ?_ | refine R.zl ttok ?_ | refine R.zs ttok ?_ | refine R.z ttok ?_ | refine R.zk ?_ | refine R.zn ?_ | refine R.done ?_ | refine X.then ?_ | refine C.block ?_ | refine C.ret ?_ | refine C.skip ?_ | refine C.exit ?_ | refine X.pass_ret ?_ | refine X.pass_exit ?_ | refine X.block_normal ?_ | refine X.block_ret ?_ | refine X.block_exit ?_ | refine C.zt ?_ | refine C.zf ?_ | refine X.zo ?_)
          refine X.fin ttok () [] trivial rfl rfl rfl (by repeat (first | exact HasH.nil | refine HasH.same rfl rfl rfl trivial ?_ | refine HasH.same rfl rfl rfl rfl ?_ | refine HasH.same rfl rfl rfl (fun _ _ => rfl) ?_ | refine HasH.ros rfl rfl ?_)) _ (by first | exact .inl rfl | exact .inr rfl)
    | true =>
      repeat (first | refine C.seq ?_ | refine C.region ?_ | refine R.zb ttok ?_ | refine R.zu ttok ?_ | refine R.zc ttok ?_ | refine R.za ttok ?_ | refine R.zx ?_ | refine R.zl ttok ?_ | refine R.zs ttok ?_ | refine R.z ttok ?_ | refine R.zk ?_ | refine R.zn ?_ | refine R.done ?_ | refine X.then ?_ | refine C.block ?_ | refine C.ret ?_ | refine C.skip ?_ | refine C.exit ?_ | refine X.pass_ret ?_ | refine X.pass_exit ?_ | refine X.block_normal ?_ | refine X.block_ret ?_ | refine X.block_exit ?_ | refine C.zt ?_ | refine C.zf ?_ | refine X.zo ?_)
      refine C.draw [[], [], [1], [1, 2], [1, 2, 3], [0], [0, 5], [0, 1, 2, 3, 4, 5, 6], [0, 1, 2, 3, 4, 5, 6, 7]] [] (by kernel_rfl) (by kernel_rfl) ?_
      repeat (first | refine C.seq ?_ | refine C.region ?_ | refine R.zb ttok ?_ | refine R.zu ttok ?_ | refine R.zc ttok ?_ | refine R.za ttok ?_ | refine R.zx ?_ | refine R.zl ttok ?_ | refine R.zs ttok ?_ | refine R.z ttok ?_ | refine R.zk ?_ | refine R.zn ?_ | refine R.done ?_ | refine X.then ?_ | refine C.block ?_ | refine C.ret ?_ | refine C.skip ?_ | refine C.exit ?_ | refine X.pass_ret ?_ | refine X.pass_exit ?_ | refine X.block_normal ?_ | refine X.block_ret ?_ | refine X.block_exit ?_ | refine C.zt ?_ | refine C.zf ?_ | refine X.zo ?_)
      refine R.ixa ttok 1 rfl rfl rfl rfl rfl (by kernel_rfl) rfl (by decide) ?_
      repeat (first | refine C.seq ?_ | refine C.region ?_ | refine R.zb ttok ?_ | refine R.zu ttok ?_ | refine R.zc ttok ?_ | refine R.za ttok ?_ | refine R.zx ?_ | refine R.zl ttok ?_ | refine R.zs ttok ?_ | refine R.z ttok ?_ | refine R.zk ?_ | refine R.zn ?_ | refine R.done ?_ | refine X.then ?_ | refine C.block ?_ | refine C.ret ?_ | refine C.skip ?_ | refine C.exit ?_ | refine X.pass_ret ?_ | refine X.pass_exit ?_ | refine X.block_normal ?_ | refine X.block_ret ?_ | refine X.block_exit ?_ | refine C.zt ?_ | refine C.zf ?_ | refine X.zo ?_)
      cases has with
      | false =>
        cases wr with
        | false =>
          repeat (first | refine C.seq ?_ | refine C.region ?_ | refine R.zb ttok ?_ | refine R.zu ttok ?_ | refine R.zc ttok ?_ | refine R.za ttok ?_ | refine R.zx ?_ | refine R.zl ttok ?_ | refine R.zs ttok ?_ | refine R.z ttok ?_ | refine R.zk ?_ | refine R.zn ?_ | refine R.done ?_ | refine X.then ?_ | refine C.block ?_ | refine C.ret ?_ | refine C.skip ?_ | refine C.exit ?_ | refine X.pass_ret ?_ | refine X.pass_exit ?_ | refine X.block_normal ?_ | refine X.block_ret ?_ | refine X.block_exit ?_ | refine C.zt ?_ | refine C.zf ?_ | refine X.zo ?_)
          refine C.draw [[], [], [1], [1, 2], [1, 2, 3], [], [], [6], [6, 7], [6, 7, 8], [], [], [0], [0, 12], [0, 1, 2, 3, 4, 6, 7, 8, 9, 10, 12, 13], [0, 1, 2, 3, 4, 6, 7, 8, 9, 10, 12, 13, 14], [5], [5, 16], [0, 1, 2, 3, 4, 5, 6, 7, 8, 9, 10, 11, 12, 13, 14, 15, 16, 17], [0, 1, 2, 3, 4, 5, 6, 7, 8, 9, 10, 11, 12, 13, 14, 15, 16, 17, 18]] [15, 19] (by kernel_rfl) (by kernel_rfl) ?_
          repeat (first | refine C.seq ?_ | refine C.region ?_ | refine R.zb ttok ?_ | refine R.zu ttok ?_ | refine R.zc ttok ?_ | refine R.za ttok ?_ | refine R.zx ?_ | refine R.zl ttok ?_ | refine R.zs ttok ?_ | refine R.z ttok ?_ | refine R.zk ?_ | refine R.zn ?_ | refine R.done ?_ | refine X.then ?_ | refine C.block ?_ | refine C.ret ?_ | refine C.skip ?_ | refine C.exit ?_ | refine X.pass_ret ?_ | refine X.pass_exit ?_ | refine X.block_normal ?_ | refine X.block_ret ?_ | refine X.block_exit ?_ | refine C.zt ?_ | refine C.zf ?_ | refine X.zo ?_)
          refine R.ixa ttok 0 rfl rfl rfl rfl rfl (by kernel_rfl) rfl (by decide) ?_
          repeat (first | refine C.seq ?_ | refine C.region ?_ | refine R.zb ttok ?_ | refine R.zu ttok ?_ | refine R.zc ttok ?_ | refine R.za ttok ?_ | refine R.zx ?_ | refine R.zl ttok ?_ | refine R.zs ttok ?_ | refine R.z ttok ?_ | refine R.zk ?_ | refine R.zn ?_ | refine R.done ?_ | refine X.then ?_ | refine C.block ?_ | refine C.ret ?_ | refine C.skip ?_ | refine C.exit ?_ | refine X.pass_ret ?_ | refine X.pass_exit ?_ | refine X.block_normal ?_ | refine X.block_ret ?_ | refine X.block_exit ?_ | refine C.zt ?_ | refine C.zf ?_ | refine X.zo ?_)
          refine R.ixa ttok 0 rfl rfl rfl rfl rfl (by kernel_rfl) rfl (by decide) ?_
          repeat (first | refine C.seq ?_ | refine C.region ?_ | refine R.zb ttok ?_ | refine R.zu ttok ?_ | refine R.zc ttok ?_ | refine R.za ttok ?_ | refine R.zx ?_ | refine R.zl ttok ?_ | refine R.zs ttok ?_ | refine R.z ttok ?_ | refine R.zk ?_ | refine R.zn ?_ | refine R.done ?_ | refine X.then ?_ | refine C.block ?_ | refine C.ret ?_ | refine C.skip ?_ | refine C.exit ?_ | refine X.pass_ret ?_ | refine X.pass_exit ?_ | refine X.block_normal ?_ | refine X.block_ret ?_ | refine X.block_exit ?_ | refine C.zt ?_ | refine C.zf ?_ | refine X.zo ?_)
          refine X.fin ttok () [] trivial rfl rfl rfl (by repeat (first | exact HasH.nil | refine HasH.same rfl rfl rfl trivial ?_ | refine HasH.same rfl rfl rfl rfl ?_ | refine HasH.same rfl rfl rfl (fun _ _ => rfl) ?_ | refine HasH.ros rfl rfl ?_)) _ (by first | exact .inl rfl | exact .inr rfl)
        | true =>
          repeat (first | refine C.seq ?_ | refine C.region ?_ | refine R.zb ttok ?_ | refine R.zu ttok ?_ | refine R.zc ttok ?_ | refine R.za ttok ?_ | refine R.zx ?_ | refine R.zl ttok ?_ | refine R.zs ttok ?_ | refine R.z ttok ?_ | refine R.zk ?_ | refine R.zn ?_ | refine R.done ?_ | refine X.then ?_ | refine C.block ?_ | refine C.ret ?_ | refine C.skip ?_ | refine C.exit ?_ | refine X.pass_ret ?_ | refine X.pass_exit ?_ | refine X.block_normal ?_ | refine X.block_ret ?_ | refine X.block_exit ?_ | refine C.zt ?_ | refine C.zf ?_ | refine X.zo ?_)
          refine C.draw [[], [], [1], [1, 2], [1, 2, 3], [], [], [6], [6, 7], [6, 7, 8], [], [], [0], [0, 12], [0, 1, 2, 3, 4, 6, 7, 8, 9, 10, 12, 13], [0, 1, 2, 3, 4, 6, 7, 8, 9, 10, 12, 13, 14], [5], [5, 16], [0, 1, 2, 3, 4, 5, 6, 7, 8, 9, 10, 11, 12, 13, 14, 15, 16, 17], [0, 1, 2, 3, 4, 5, 6, 7, 8, 9, 10, 11, 12, 13, 14, 15, 16, 17, 18]] [15, 19] (by kernel_rfl) (by kernel_rfl) ?_
          repeat (first | refine C.seq ?_ | refine C.region ?_ | refine R.zb ttok ?_ | refine R.zu ttok ?_ | refine R.zc ttok ?_ | refine R.za ttok ?_ | refine R.zx ?_ | refine R.zl ttok ?_ | refine R.zs ttok ?_ | refine R.z ttok ?_ | refine R.zk ?_ | refine R.zn ?_ | refine R.done ?_ | refine X.then ?_ | refine C.block ?_ | refine C.ret ?_ | refine C.skip ?_ | refine C.exit ?_ | refine X.pass_ret ?_ | refine X.pass_exit ?_ | refine X.block_normal ?_ | refine X.block_ret ?_ | refine X.block_exit ?_ | refine C.zt ?_ | refine C.zf ?_ | refine X.zo ?_)
          refine R.ixa ttok 1 rfl rfl rfl rfl rfl (by kernel_rfl) rfl (by decide) ?_
          repeat (first | refine C.seq ?_ | refine C.region ?_ | refine R.zb ttok ?_ | refine R.zu ttok ?_ | refine R.zc ttok ?_ | refine R.za ttok ?_ | refine R.zx ?_ | refine R.zl ttok ?_ | refine R.zs ttok ?_ | refine R.z ttok ?_ | refine R.zk ?_ | refine R.zn ?_ | refine R.done ?_ | refine X.then ?_ | refine C.block ?_ | refine C.ret ?_ | refine C.skip ?_ | refine C.exit ?_ | refine X.pass_ret ?_ | refine X.pass_exit ?_ | refine X.block_normal ?_ | refine X.block_ret ?_ | refine X.block_exit ?_ | refine C.zt ?_ | refine C.zf ?_ | refine X.zo ?_)
          refine R.ixa ttok 1 rfl rfl rfl rfl rfl (by kernel_rfl) rfl (by decide) ?_
          repeat (first | refine C.seq ?_ | refine C.region ?_ | refine R.zb ttok ?_ | refine R.zu ttok ?_ | refine R.zc ttok ?_ | refine R.za ttok ?_ | refine R.zx ?_ | refine R.zl ttok ?_ | refine R.zs ttok ?_ | refine R.z ttok ?_ | refine R.zk ?_ | refine R.zn ?_ | refine R.done ?_ | refine X.then ?_ | refine C.block ?_ | refine C.ret ?_ | refine C.skip ?_ | refine C.exit ?_ | refine X.pass_ret ?_ | refine X.pass_exit ?_ | refine X.block_normal ?_ | refine X.block_ret ?_ | refine X.block_exit ?_ | refine C.zt ?_ | refine C.zf ?_ | refine X.zo ?_)
          refine X.fin ttok () [] trivial rfl rfl rfl (by repeat (first | exact HasH.nil | refine HasH.same rfl rfl rfl trivial ?_ | refine HasH.same rfl rfl rfl rfl ?_ | refine HasH.same rfl rfl rfl (fun _ _ => rfl) ?_ | refine HasH.ros rfl rfl ?_)) _ (by first | exact .inl rfl | exact .inr rfl)
      | true =>
        cases wr with
        | false =>
          repeat (first | refine C.seq ?_ | refine C.region ?_ | refine R.zb ttok ?_ | refine R.zu ttok ?_ | refine R.zc ttok ?_ | refine R.za ttok ?_ | refine R.zx ?_ | refine R.zl ttok ?_ | refine R.zs ttok ?_ | refine R.z ttok ?_ | refine R.zk ?_ | refine R.zn ?_ | refine R.done ?_ | refine X.then ?_ | refine C.block ?_ | refine C.ret ?_ | refine C.skip ?_ | refine C.exit ?_ | refine X.pass_ret ?_ | refine X.pass_exit ?_ | refine X.block_normal ?_ | refine X.block_ret ?_ | refine X.block_exit ?_ | refine C.zt ?_ | refine C.zf ?_ | refine X.zo ?_)
          refine C.draw [[], [], [1], [1, 2], [1, 2, 3], [], [], [6], [6, 7], [6, 7, 8], [], [], [0], [0, 12], [0, 1, 2, 3, 4, 6, 7, 8, 9, 10, 12, 13], [0, 1, 2, 3, 4, 6, 7, 8, 9, 10, 12, 13, 14], [5], [5, 16], [0, 1, 2, 3, 4, 5, 6, 7, 8, 9, 10, 11, 12, 13, 14, 15, 16, 17], [0, 1, 2, 3, 4, 5, 6, 7, 8, 9, 10, 11, 12, 13, 14, 15, 16, 17, 18]] [15, 19] (by kernel_rfl) (by kernel_rfl) ?_
          repeat (first | refine C.seq ?_ | refine C.region ?_ | refine R.zb ttok ?_ | refine R.zu ttok ?_ | refine R.zc ttok ?_ | refine R.za ttok ?_ | refine R.zx ?_ | refine R.zl ttok ?_ | refine R.zs ttok ?_ | refine R.z ttok ?_ | refine R.zk ?_ | refine R.zn ?_ | refine R.done ?_ | refine X.then ?_ | refine C.block ?_ | refine C.ret ?_ | refine C.skip ?_ | refine C.exit ?_ | refine X.pass_ret ?_ | refine X.pass_exit ?_ | refine X.block_normal ?_ | refine X.block_ret ?_ | refine X.block_exit ?_ | refine C.zt ?_ | refine C.zf ?_ | refine X.zo ?_)
          refine R.ixa ttok 0 rfl rfl rfl rfl rfl (by kernel_rfl) rfl (by decide) ?_
          repeat (first | refine C.seq ?_ | refine C.region ?_ | refine R.zb ttok ?_ | refine R.zu ttok ?_ | refine R.zc ttok ?_ | refine R.za ttok ?_ | refine R.zx ?_ | refine R.zl ttok ?_ | refine R.zs ttok ?_ | refine R.z ttok ?_ | refine R.zk ?_ | refine R.zn ?_ | refine R.done ?_ | refine X.then ?_ | refine C.block ?_ | refine C.ret ?_ | refine C.skip ?_ | refine C.exit ?_ | refine X.pass_ret ?_ | refine X.pass_exit ?_ | refine X.block_normal ?_ | refine X.block_ret ?_ | refine X.block_exit ?_ | refine C.zt ?_ | refine C.zf ?_ | refine X.zo ?_)
          refine R.ixa ttok 0 rfl rfl rfl rfl rfl (by kernel_rfl) rfl (by decide) ?_
          repeat (first | refine C.seq ?_ | refine C.region ?_ | refine R.zb ttok ?_ | refine R.zu ttok ?_ | refine R.zc ttok ?_ | refine R.za ttok ?_ | refine R.zx ?_ | refine R.zl ttok ?_ | refine R.zs ttok ?_ | refine R.z ttok ?_ | refine R.zk ?_ | refine R.zn ?_ | refine R.done ?_ | refine X.then ?_ | refine C.block ?_ | refine C.ret ?_ | refine C.skip ?_ | refine C.exit ?_ | refine X.pass_ret ?_ | refine X.pass_exit ?_ | refine X.block_normal ?_ | refine X.block_ret ?_ | refine X.block_exit ?_ | refine C.zt ?_ | refine C.zf ?_ | refine X.zo ?_)
          refine X.fin ttok () [] trivial rfl rfl rfl (by repeat (first | exact HasH.nil | refine HasH.same rfl rfl rfl trivial ?_ | refine HasH.same rfl rfl rfl rfl ?_ | refine HasH.same rfl rfl rfl (fun _ _ => rfl) ?_ | refine HasH.ros rfl rfl ?_)) _ (by first | exact .inl rfl | exact .inr rfl)
        | true =>
          repeat (first | refine C.seq ?_ | refine C.region ?_ | refine R.zb ttok ?_ | refine R.zu ttok ?_ | refine R.zc ttok ?_ | refine R.za ttok ?_ | refine R.zx ?_ | refine R.zl ttok ?_ | refine R.zs ttok ?_ | refine R.z ttok ?_ | refine R.zk ?_ | refine R.zn ?_ | refine R.done ?_ | refine X.then ?_ | refine C.block ?_ | refine C.ret ?_ | refine C.skip ?_ | refine C.exit ?_ | refine X.pass_ret ?_ | refine X.pass_exit ?_ | refine X.block_normal ?_ | refine X.block_ret ?_ | refine X.block_exit ?_ | refine C.zt ?_ | refine C.zf ?_ | refine X.zo ?_)
          refine C.draw [[], [], [1], [1, 2], [1, 2, 3], [], [], [6], [6, 7], [6, 7, 8], [], [], [0], [0, 12], [0, 1, 2, 3, 4, 6, 7, 8, 9, 10, 12, 13], [0, 1, 2, 3, 4, 6, 7, 8, 9, 10, 12, 13, 14], [5], [5, 16], [0, 1, 2, 3, 4, 5, 6, 7, 8, 9, 10, 11, 12, 13, 14, 15, 16, 17], [0, 1, 2, 3, 4, 5, 6, 7, 8, 9, 10, 11, 12, 13, 14, 15, 16, 17, 18]] [15, 19] (by kernel_rfl) (by kernel_rfl) ?_
          repeat (first | refine C.seq ?_ | refine C.region ?_ | refine R.zb ttok ?_ | refine R.zu ttok ?_ | refine R.zc ttok ?_ | refine R.za ttok ?_ | refine R.zx ?_ | refine R.zl ttok ?_ | refine R.zs ttok ?_ | refine R.z ttok ?_ | refine R.zk ?_ | refine R.zn ?_ | refine R.done ?_ | refine X.then ?_ | refine C.block ?_ | refine C.ret ?_ | refine C.skip ?_ | refine C.exit ?_ | refine X.pass_ret ?_ | refine X.pass_exit ?_ | refine X.block_normal ?_ | refine X.block_ret ?_ | refine X.block_exit ?_ | refine C.zt ?_ | refine C.zf ?_ | refine X.zo ?_)
          refine R.ixa ttok 1 rfl rfl rfl rfl rfl (by kernel_rfl) rfl (by decide) ?_
          repeat (first | refine C.seq ?_ | refine C.region ?_ | refine R.zb ttok ?_ | refine R.zu ttok ?_ | refine R.zc ttok ?_ | refine R.za ttok ?_ | refine R.zx ?_ | refine R.zl ttok ?_ | refine R.zs ttok ?_ | refine R.z ttok ?_ | refine R.zk ?_ | refine R.zn ?_ | refine R.done ?_ | refine X.then ?_ | refine C.block ?_ | refine C.ret ?_ | refine C.skip ?_ | refine C.exit ?_ | refine X.pass_ret ?_ | refine X.pass_exit ?_ | refine X.block_normal ?_ | refine X.block_ret ?_ | refine X.block_exit ?_ | refine C.zt ?_ | refine C.zf ?_ | refine X.zo ?_)
          refine R.ixa ttok 1 rfl rfl rfl rfl rfl (by kernel_rfl) rfl (by decide) ?_
          repeat (first | refine C.seq ?_ | refine C.region ?_ | refine R.zb ttok ?_ | refine R.zu ttok ?_ | refine R.zc ttok ?_ | refine R.za ttok ?_ | refine R.zx ?_ | refine R.zl ttok ?_ | refine R.zs ttok ?_ | refine R.z ttok ?_ | refine R.zk ?_ | refine R.zn ?_ | refine R.done ?_ | refine X.then ?_ | refine C.block ?_ | refine C.ret ?_ | refine C.skip ?_ | refine C.exit ?_ | refine X.pass_ret ?_ | refine X.pass_exit ?_ | refine X.block_normal ?_ | refine X.block_ret ?_ | refine X.block_exit ?_ | refine C.zt ?_ | refine C.zf ?_ | refine X.zo ?_)
          refine X.fin ttok () [] trivial rfl rfl rfl (by repeat (first | exact HasH.nil | refine HasH.same rfl rfl rfl trivial ?_ | refine HasH.same rfl rfl rfl rfl ?_ | refine HasH.same rfl rfl rfl (fun _ _ => rfl) ?_ | refine HasH.ros rfl rfl ?_)) _ (by first | exact .inl rfl | exact .inr rfl)
end Go.Proofs.Yteabncomclgncaa
namespace Go.Proofs.Yteabncomclgncaa
set_option linter.unusedVariables false
set_option linter.unusedSimpArgs false
open Go.RowKit
set_option maxRecDepth 100000
set_option maxHeartbeats 4000000
def zfact (p : PIZ) : Fact := ⟨true, p.2.1, slOb p.2.2⟩
def zF (l : ZL) : Fam := l.map zfact
theorem zF_cells {l : ZL} : ∀ x ∈ zF l, x.ob.isCells = true := fun x hx => by
  obtain ⟨p, _, rfl⟩ := List.mem_map.1 hx; rfl
theorem zG_get {l : ZL} {i : Nat} (h : i < l.length) : l.getD i zG = l[i] := by rw [List.getD_eq_getElem?_getD, List.getElem?_eq_getElem h]; rfl
theorem zF_mem {l : ZL} {i : Nat} (h : i < l.length) : zfact (l.getD i zG) ∈ zF l := by rw [zG_get h]; exact List.mem_map.2 ⟨_, List.getElem_mem h, rfl⟩
def zup (l : ZL) (i : Nat) (s : Sl Int) : ZL := l.set i ((l.getD i zG).1, (l.getD i zG).2.1, s)
theorem zup_len (l : ZL) (i : Nat) (s : Sl Int) : (zup l i s).length = l.length := List.length_set
theorem zF_ins (l : ZL) (i : Nat) (p : PIZ) : (zF (insL l i p)).Perm (zfact p :: zF l) := by
  unfold zF insL
  rw [List.map_append, List.map_cons]
  refine List.perm_middle.trans ?_
  rw [← List.map_append, List.take_append_drop]
theorem del_split {l : ZL} {i : Nat} (h : i < l.length) : l = l.take i ++ l.getD i zG :: l.drop (i + 1) := by
  rw [zG_get h, List.getElem_cons_drop, List.take_append_drop]
theorem zF_del {l : ZL} {i : Nat} (h : i < l.length) : (zF l).Perm (zfact (l.getD i zG) :: zF (delL l i)) := by
  conv => lhs; rw [del_split h]
  unfold zF delL
  rw [List.map_append, List.map_cons, List.map_append]
  exact List.perm_middle
theorem zup_split {l : ZL} {i : Nat} (h : i < l.length) (s : Sl Int) : zup l i s = l.take i ++ ((l.getD i zG).1, (l.getD i zG).2.1, s) :: l.drop (i + 1) := by
  unfold zup
  rw [List.set_eq_take_append_cons_drop, if_pos h]
theorem zF_up {l : ZL} {i : Nat} (h : i < l.length) (s : Sl Int) : (zF (zup l i s)).Perm (⟨true, (l.getD i zG).2.1, slOb s⟩ :: zF (delL l i)) := by
  rw [zup_split h]
  unfold zF delL
  rw [List.map_append, List.map_cons, List.map_append]
  exact List.perm_middle
theorem zup_get {l : ZL} {i : Nat} (h : i < l.length) (s : Sl Int) (j : Nat) : (zup l i s).getD j zG = if j = i then ((l.getD i zG).1, (l.getD i zG).2.1, s) else l.getD j zG := by
  unfold zup
  simp only [List.getD_eq_getElem?_getD, List.getElem?_set]
  by_cases e : i = j
  · subst e; simp [h]
  · have e' : ¬ j = i := fun x => e x.symm
    simp [e, e']
theorem piF_up {l : ZL} {i : Nat} (h : i < l.length) (s : Sl Int) : piFZ (zup l i s) = piFZ l := by
  funext j
  unfold piFZ
  rw [zup_get h]
  split
  · rename_i e; subst e; rfl
  · rfl
theorem zup_keys (l : ZL) (i : Nat) (s : Sl Int) (h : i < l.length) : (zup l i s).map (·.1) = l.map (·.1) := by
  unfold zup
  rw [List.map_set]
  apply List.ext_getElem?
  intro j
  rw [List.getElem?_set]
  split
  · rename_i e; subst e
    simp [zG_get h, h]
  · rfl
theorem asc_keys {l m : ZL} (h : l.map (·.1) = m.map (·.1)) (hA : Asc m) : Asc l := by
  have hm : ∀ l : ZL, Asc l ↔ (l.map (·.1)).Pairwise fun a b => cmpS a b < 0 := fun l => by unfold Asc; rw [List.pairwise_map]
  rw [hm] at hA ⊢
  rwa [h]
theorem plc_keys {l m : ZL} (h : l.map (·.1) = m.map (·.1)) (k : ByteArray) : plc l k = plc m k := by
  have key : ∀ l : ZL, plc l k = (l.map (·.1)).findIdx fun a => decide (¬ cmpS a k < 0) := fun l => by unfold plc; rw [List.findIdx_map]; rfl
  rw [key, key, h]
theorem len_keys {l m : ZL} (h : l.map (·.1) = m.map (·.1)) : l.length = m.length := by simpa using congrArg List.length h
theorem get_keys {l m : ZL} (h : l.map (·.1) = m.map (·.1)) (i : Nat) : (l.getD i zG).1 = (m.getD i zG).1 := by
  have key : ∀ l : ZL, (l.getD i zG).1 = (l.map (·.1)).getD i (⟨#[]⟩ : ByteArray) := fun l => by
    simp only [List.getD_eq_getElem?_getD, List.getElem?_map]
    cases l[i]? <;> rfl
  rw [key, key, h]
theorem has_keys {l m : ZL} (h : l.map (·.1) = m.map (·.1)) (k : ByteArray) : hasK l k = hasK m k := by
  unfold hasK
  rw [plc_keys h, len_keys h, get_keys h]
theorem above_keys {l m : ZL} (h : l.map (·.1) = m.map (·.1)) (k : ByteArray) : aboveN l k = aboveN m k := by
  unfold aboveN
  rw [plc_keys h, has_keys h]
section
variable {P : Program} {ops : Array Oper} {Q : Exit → Act → World → Prop} {D : Option DD} {E : Base} {n L : Nat} {τ : List (Nat × AV)} {h : List (Nat × AO)} {rest : List Oper} {H0 : List AO} {R0 : Env} {W0 : World} {FS0 fs : Fam}
/-- a slot's pointer told by a label that is only read -/
theorem C.labZ {c : Code} (t : Nat) (p : PIZ) (hm : zfact p ∈ fs) (hv : lk t τ = some (.raw (.pointer (some ⟨p.2.1, 0, none⟩)))) (k : C P c Q E n (L + 1) ((t, .ptr L 0 0 0) :: τ) ((L, slRo p.2.2) :: h) (FF H0 R0 W0 FS0 fs)) : C P c Q E n L τ h (FF H0 R0 W0 FS0 fs) :=
  C.labO t (some p.2.1) (slOb p.2.2) (slRo p.2.2) (.ptr L 0 0 0) hv (fun q hq => by
    obtain rfl : q = ⟨false, p.2.1, slOb p.2.2⟩ := by simpa [optF] using hq
    exact ⟨zfact p, hm, rfl, rfl⟩) rfl (fun ρ h => by simp [AV.conc, h]) (by simp [AV.bd, Nat.ble_eq]) (fun b hb => by cases hb; exact is_slRo _ _) (fun e => by cases e) (roA_bd rfl) k
end
def slotV (l : ZL) (k : ByteArray) : Sl Int := (l.getD (plc l k) zG).2.2
def getV (l : ZL) (k : ByteArray) : Int := if hasK l k = true then (slotV l k).get (slotV l k).rd else 0
def isV (l : ZL) (k : ByteArray) : Bool := if hasK l k = true then (slotV l k).live else false
def sloV (l : ZL) (k : ByteArray) : Sl Int := if hasK l k = true then slotV l k else default
section
variable (l : ZL) (c : Nat) (k : ByteArray)
theorem get_specZ (hA : Asc l) (hl : l.length ≤ 1000000) : SpecF Try.prog 21 [.ptr 0 0 0 0, .raw (.string k)] [tbRZ 1 l.length c, roTZ l] 2 (zF l) (σ := Unit) (fun _ => True)
    (fun _ => .tup [.raw (.int .i64 (getV l k)), .raw (.bool (isV l k))]) (fun _ => []) (fun _ => zF l) := by
  refine SpecF.of Try.func21 rfl Try.ntmps21 rfl (bdl_cons (c1_bd rfl) (bdl_cons (fun _ _ => rfl) (bdl_nil _))) fun ρ w => ?_
  repeat (first | refine C.seq ?_ | refine C.region ?_ | refine R.zb ttok ?_ | refine R.zu ttok ?_ | refine R.zc ttok ?_ | refine R.za ttok ?_ | refine R.zx ?_ | refine R.zl ttok ?_ | refine R.zs ttok ?_ | refine R.z ttok ?_ | refine R.zk ?_ | refine R.zn ?_ | refine R.done ?_ | refine X.then ?_ | refine C.block ?_ | refine C.ret ?_ | refine C.skip ?_ | refine C.exit ?_ | refine X.pass_ret ?_ | refine X.pass_exit ?_ | refine X.block_normal ?_ | refine X.block_ret ?_ | refine X.block_exit ?_ | refine C.zt ?_ | refine C.zf ?_ | refine X.zo ?_)
  refine R.cl [0, 1] (getI_specZ l c k hA (by omega)) Try.call52 (by repeat (first | exact HasIn.nil | refine HasIn.same rfl rfl ?_ | refine HasIn.bro rfl ?_ | refine HasIn.ror rfl ?_ | refine HasIn.cro rfl rfl ?_)) rfl rfl rfl (fun _ => rfl) rfl (by kernel_rfl) fun _ _ => ?_
  cases hk : hasK l k with
  | false =>
    rw [show getIZ l k = .pointer none by unfold getIZ; rw [if_neg (by rw [hk]; decide)], show getV l k = 0 by unfold getV; rw [if_neg (by rw [hk]; decide)], show isV l k = false by unfold isV; rw [if_neg (by rw [hk]; decide)]]
    repeat (first | refine C.seq ?_ | refine C.region ?_ | refine R.zb ttok ?_ | refine R.zu ttok ?_ | refine R.zc ttok ?_ | refine R.za ttok ?_ | refine R.zx ?_ | refine R.zl ttok ?_ | refine R.zs ttok ?_ | refine R.z ttok ?_ | refine R.zk ?_ | refine R.zn ?_ | refine R.done ?_ | refine X.then ?_ | refine C.block ?_ | refine C.ret ?_ | refine C.skip ?_ | refine C.exit ?_ | refine X.pass_ret ?_ | refine X.pass_exit ?_ | refine X.block_normal ?_ | refine X.block_ret ?_ | refine X.block_exit ?_ | refine C.zt ?_ | refine C.zf ?_ | refine X.zo ?_)
    refine X.finF ttok () [] trivial rfl rfl rfl (by repeat (first | exact HasH.nil | refine HasH.same rfl rfl rfl trivial ?_ | refine HasH.same rfl rfl rfl rfl ?_ | refine HasH.same rfl rfl rfl (fun _ _ => rfl) ?_ | refine HasH.ros rfl rfl ?_)) _ (by first | exact .inl rfl | exact .inr rfl) ?_ ?_ ?_
    · exact fun w' hf => hf.ap
    · exact fun p hp => hp
    · exact fun p hp e => ⟨p, hp, rfl⟩
  | true =>
    have hlt := (hasK_lt hk).1
    obtain ⟨p, hp⟩ : ∃ p, l.getD (plc l k) zG = p := ⟨_, rfl⟩
    rw [show getIZ l k = .pointer (some ⟨p.2.1, 0, none⟩) by unfold getIZ; rw [if_pos hk, hp], show getV l k = p.2.2.get p.2.2.rd by unfold getV slotV; rw [if_pos hk, hp], show isV l k = p.2.2.live by unfold isV slotV; rw [if_pos hk, hp]]
    repeat (first | refine R.zb ttok ?_ | refine R.zu ttok ?_ | refine R.zc ttok ?_ | refine R.za ttok ?_ | refine R.zx ?_ | refine R.zl ttok ?_ | refine R.zs ttok ?_ | refine R.z ttok ?_ | refine R.zk ?_ | refine R.zn ?_)
    refine R.done ?_
    refine X.then ?_
    refine C.labZ 6 p (by rw [← hp]; exact zF_mem hlt) rfl ?_
    repeat (first | refine C.seq ?_ | refine C.region ?_ | refine R.zb ttok ?_ | refine R.zu ttok ?_ | refine R.zc ttok ?_ | refine R.za ttok ?_ | refine R.zx ?_ | refine R.zl ttok ?_ | refine R.zs ttok ?_ | refine R.z ttok ?_ | refine R.zk ?_ | refine R.zn ?_ | refine R.done ?_ | refine X.then ?_ | refine C.block ?_ | refine C.ret ?_ | refine C.skip ?_ | refine C.exit ?_ | refine X.pass_ret ?_ | refine X.pass_exit ?_ | refine X.block_normal ?_ | refine X.block_ret ?_ | refine X.block_exit ?_ | refine C.zt ?_ | refine C.zf ?_ | refine X.zo ?_)
    refine R.ldo (v := .raw (.int .i64 (b01 p.2.2.rd))) ttok rfl rfl rfl rfl rfl (by kernel_rfl) Nat.one_pos ?_
    refine R.cl [2] (read_specZ p.2.2 p.2.2.rd) Try.call50 (by repeat (first | exact HasIn.nil | refine HasIn.same rfl rfl ?_ | refine HasIn.bro rfl ?_ | refine HasIn.ror rfl ?_ | refine HasIn.cro rfl rfl ?_)) rfl rfl rfl (fun _ => rfl) rfl (by kernel_rfl) fun _ _ => ?_
    repeat (first | refine C.seq ?_ | refine C.region ?_ | refine R.zb ttok ?_ | refine R.zu ttok ?_ | refine R.zc ttok ?_ | refine R.za ttok ?_ | refine R.zx ?_ | refine R.zl ttok ?_ | refine R.zs ttok ?_ | refine R.z ttok ?_ | refine R.zk ?_ | refine R.zn ?_ | refine R.done ?_ | refine X.then ?_ | refine C.block ?_ | refine C.ret ?_ | refine C.skip ?_ | refine C.exit ?_ | refine X.pass_ret ?_ | refine X.pass_exit ?_ | refine X.block_normal ?_ | refine X.block_ret ?_ | refine X.block_exit ?_ | refine C.zt ?_ | refine C.zf ?_ | refine X.zo ?_)
    refine X.finF ttok () [] trivial rfl rfl rfl (by repeat (first | exact HasH.nil | refine HasH.same rfl rfl rfl trivial ?_ | refine HasH.same rfl rfl rfl rfl ?_ | refine HasH.same rfl rfl rfl (fun _ _ => rfl) ?_ | refine HasH.ros rfl rfl ?_)) _ (by first | exact .inl rfl | exact .inr rfl) ?_ ?_ ?_
    · exact fun w' hf => hf.ap
    · exact fun p hp => hp
    · exact fun p hp e => ⟨p, hp, rfl⟩
theorem slot_specZ (hA : Asc l) (hl : l.length ≤ 1000000) : SpecF Try.prog 39 [.ptr 0 0 0 0, .raw (.string k)] [tbRZ 1 l.length c, roTZ l] 2 (zF l) (σ := Unit) (fun _ => True)
    (fun _ => .tup [.agg (slA (sloV l k)), .raw (.bool (hasK l k))]) (fun _ => []) (fun _ => zF l) := by
  refine SpecF.of Try.func39 rfl Try.ntmps39 rfl (bdl_cons (c1_bd rfl) (bdl_cons (fun _ _ => rfl) (bdl_nil _))) fun ρ w => ?_
  repeat (first | refine C.seq ?_ | refine C.region ?_ | refine R.zb ttok ?_ | refine R.zu ttok ?_ | refine R.zc ttok ?_ | refine R.za ttok ?_ | refine R.zx ?_ | refine R.zl ttok ?_ | refine R.zs ttok ?_ | refine R.z ttok ?_ | refine R.zk ?_ | refine R.zn ?_ | refine R.done ?_ | refine X.then ?_ | refine C.block ?_ | refine C.ret ?_ | refine C.skip ?_ | refine C.exit ?_ | refine X.pass_ret ?_ | refine X.pass_exit ?_ | refine X.block_normal ?_ | refine X.block_ret ?_ | refine X.block_exit ?_ | refine C.zt ?_ | refine C.zf ?_ | refine X.zo ?_)
  refine R.cl [0, 1] (getI_specZ l c k hA (by omega)) Try.call52 (by repeat (first | exact HasIn.nil | refine HasIn.same rfl rfl ?_ | refine HasIn.bro rfl ?_ | refine HasIn.ror rfl ?_ | refine HasIn.cro rfl rfl ?_)) rfl rfl rfl (fun _ => rfl) rfl (by kernel_rfl) fun _ _ => ?_
  cases hk : hasK l k with
  | false =>
    rw [show getIZ l k = .pointer none by unfold getIZ; rw [if_neg (by rw [hk]; decide)], show sloV l k = default by unfold sloV; rw [if_neg (by rw [hk]; decide)]]
    repeat (first | refine C.seq ?_ | refine C.region ?_ | refine R.zb ttok ?_ | refine R.zu ttok ?_ | refine R.zc ttok ?_ | refine R.za ttok ?_ | refine R.zx ?_ | refine R.zl ttok ?_ | refine R.zs ttok ?_ | refine R.z ttok ?_ | refine R.zk ?_ | refine R.zn ?_ | refine R.done ?_ | refine X.then ?_ | refine C.block ?_ | refine C.ret ?_ | refine C.skip ?_ | refine C.exit ?_ | refine X.pass_ret ?_ | refine X.pass_exit ?_ | refine X.block_normal ?_ | refine X.block_ret ?_ | refine X.block_exit ?_ | refine C.zt ?_ | refine C.zf ?_ | refine X.zo ?_)
    refine X.finF ttok () [] trivial rfl rfl rfl (by repeat (first | exact HasH.nil | refine HasH.same rfl rfl rfl trivial ?_ | refine HasH.same rfl rfl rfl rfl ?_ | refine HasH.same rfl rfl rfl (fun _ _ => rfl) ?_ | refine HasH.ros rfl rfl ?_)) _ (by first | exact .inl rfl | exact .inr rfl) ?_ ?_ ?_
    · exact fun w' hf => hf.ap
    · exact fun p hp => hp
    · exact fun p hp e => ⟨p, hp, rfl⟩
  | true =>
    have hlt := (hasK_lt hk).1
    obtain ⟨p, hp⟩ : ∃ p, l.getD (plc l k) zG = p := ⟨_, rfl⟩
    rw [show getIZ l k = .pointer (some ⟨p.2.1, 0, none⟩) by unfold getIZ; rw [if_pos hk, hp], show sloV l k = p.2.2 by unfold sloV slotV; rw [if_pos hk, hp]]
    repeat (first | refine R.zb ttok ?_ | refine R.zu ttok ?_ | refine R.zc ttok ?_ | refine R.za ttok ?_ | refine R.zx ?_ | refine R.zl ttok ?_ | refine R.zs ttok ?_ | refine R.z ttok ?_ | refine R.zk ?_ | refine R.zn ?_)
    refine R.done ?_
    refine X.then ?_
    refine C.labZ 6 p (by rw [← hp]; exact zF_mem hlt) rfl ?_
    repeat (first | refine C.seq ?_ | refine C.region ?_ | refine R.zb ttok ?_ | refine R.zu ttok ?_ | refine R.zc ttok ?_ | refine R.za ttok ?_ | refine R.zx ?_ | refine R.zl ttok ?_ | refine R.zs ttok ?_ | refine R.z ttok ?_ | refine R.zk ?_ | refine R.zn ?_ | refine R.done ?_ | refine X.then ?_ | refine C.block ?_ | refine C.ret ?_ | refine C.skip ?_ | refine C.exit ?_ | refine X.pass_ret ?_ | refine X.pass_exit ?_ | refine X.block_normal ?_ | refine X.block_ret ?_ | refine X.block_exit ?_ | refine C.zt ?_ | refine C.zf ?_ | refine X.zo ?_)
    refine R.ldo (v := .agg (slA p.2.2)) ttok rfl rfl rfl rfl rfl (by kernel_rfl) Nat.one_pos ?_
    repeat (first | refine C.seq ?_ | refine C.region ?_ | refine R.zb ttok ?_ | refine R.zu ttok ?_ | refine R.zc ttok ?_ | refine R.za ttok ?_ | refine R.zx ?_ | refine R.zl ttok ?_ | refine R.zs ttok ?_ | refine R.z ttok ?_ | refine R.zk ?_ | refine R.zn ?_ | refine R.done ?_ | refine X.then ?_ | refine C.block ?_ | refine C.ret ?_ | refine C.skip ?_ | refine C.exit ?_ | refine X.pass_ret ?_ | refine X.pass_exit ?_ | refine X.block_normal ?_ | refine X.block_ret ?_ | refine X.block_exit ?_ | refine C.zt ?_ | refine C.zf ?_ | refine X.zo ?_)
    refine X.finF ttok () [] trivial rfl rfl rfl (by repeat (first | exact HasH.nil | refine HasH.same rfl rfl rfl trivial ?_ | refine HasH.same rfl rfl rfl rfl ?_ | refine HasH.same rfl rfl rfl (fun _ _ => rfl) ?_ | refine HasH.ros rfl rfl ?_)) _ (by first | exact .inl rfl | exact .inr rfl) ?_ ?_ ?_
    · exact fun w' hf => hf.ap
    · exact fun p hp => hp
    · exact fun p hp e => ⟨p, hp, rfl⟩
theorem len_specZ (n has : Int) (m : Nat) (mk : Bool) : Spec Try.prog 40 [.ptr 0 0 0 0] [.ro 0 0 1 (fun _ => [.sl 1 2 0 m c, .raw (.int .i64 has)]), anyO] 2 (σ := Unit) (fun _ => True) (fun _ => .raw (.int .i64 has)) (fun _ => []) := by
  refine Spec.of Try.func40 rfl Try.ntmps40 rfl (bdl_cons (roA_bd rfl) (bdl_cons (any_bd _) (bdl_nil _))) fun ρ w => ?_
  repeat (first | refine C.seq ?_ | refine C.region ?_ | refine R.zb ttok ?_ | refine R.zu ttok ?_ | refine R.zc ttok ?_ | refine R.za ttok ?_ | refine R.zx ?_ | refine R.zl ttok ?_ | refine R.zs ttok ?_ | refine R.z ttok ?_ | refine R.zk ?_ | refine R.zn ?_ | refine R.done ?_ | refine X.then ?_ | refine C.block ?_ | refine C.ret ?_ | refine C.skip ?_ | refine C.exit ?_ | refine X.pass_ret ?_ | refine X.pass_exit ?_ | refine X.block_normal ?_ | refine X.block_ret ?_ | refine X.block_exit ?_ | refine C.zt ?_ | refine C.zf ?_ | refine X.zo ?_)
  refine R.ldo (v := .raw (.int .i64 has)) ttok rfl rfl rfl rfl rfl (by kernel_rfl) Nat.one_pos ?_
  repeat (first | refine C.seq ?_ | refine C.region ?_ | refine R.zb ttok ?_ | refine R.zu ttok ?_ | refine R.zc ttok ?_ | refine R.za ttok ?_ | refine R.zx ?_ | refine R.zl ttok ?_ | refine R.zs ttok ?_ | refine R.z ttok ?_ | refine R.zk ?_ | refine R.zn ?_ | refine R.done ?_ | refine X.then ?_ | refine C.block ?_ | refine C.ret ?_ | refine C.skip ?_ | refine C.exit ?_ | refine X.pass_ret ?_ | refine X.pass_exit ?_ | refine X.block_normal ?_ | refine X.block_ret ?_ | refine X.block_exit ?_ | refine C.zt ?_ | refine C.zf ?_ | refine X.zo ?_)
  refine X.fin ttok () [] trivial rfl rfl rfl (by repeat (first | exact HasH.nil | refine HasH.same rfl rfl rfl trivial ?_ | refine HasH.same rfl rfl rfl rfl ?_ | refine HasH.same rfl rfl rfl (fun _ _ => rfl) ?_ | refine HasH.ros rfl rfl ?_)) _ (by first | exact .inl rfl | exact .inr rfl)
end
abbrev zeroZ : AO := .cells [.raw (.slice none 0 0), .raw (.int .i64 0), .raw (.bool false)] 64
theorem new_specZ : Spec Try.prog 17 [] [] 1 (σ := Unit) (fun _ => True) (fun _ => .ptr 0 0 0 0) (fun _ => [(0, zeroZ)]) := by
  refine Spec.of Try.func17 rfl Try.ntmps17 rfl (by simp [AO.Bd, bytesF, AV.bds, AV.bd]) fun ρ w => ?_
  repeat (first | refine C.seq ?_ | refine C.region ?_ | refine R.zb ttok ?_ | refine R.zu ttok ?_ | refine R.zc ttok ?_ | refine R.za ttok ?_ | refine R.zx ?_ | refine R.zl ttok ?_ | refine R.zs ttok ?_ | refine R.z ttok ?_ | refine R.zk ?_ | refine R.zn ?_ | refine R.done ?_ | refine X.then ?_ | refine C.block ?_ | refine C.ret ?_ | refine C.skip ?_ | refine C.exit ?_ | refine X.pass_ret ?_ | refine X.pass_exit ?_ | refine X.block_normal ?_ | refine X.block_ret ?_ | refine X.block_exit ?_ | refine C.zt ?_ | refine C.zf ?_ | refine X.zo ?_)
  refine X.fin ttok () [] trivial rfl rfl rfl (by repeat (first | exact HasH.nil | refine HasH.same rfl rfl rfl trivial ?_ | refine HasH.same rfl rfl rfl rfl ?_ | refine HasH.same rfl rfl rfl (fun _ _ => rfl) ?_ | refine HasH.ros rfl rfl ?_)) _ (by first | exact .inl rfl | exact .inr rfl)
end Go.Proofs.Yteabncomclgncaa
