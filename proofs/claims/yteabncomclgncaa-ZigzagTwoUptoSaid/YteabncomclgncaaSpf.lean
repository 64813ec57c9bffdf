/- Texts of the claim, merged: only what the theorem needs. -/
import Derived.Test.YteabncomclgncaaSpe
namespace Go.Proofs.Yteabncomclgncaa
set_option linter.unusedVariables false
set_option linter.unusedSimpArgs false
open Go.RowKit
set_option maxRecDepth 100000
set_option maxHeartbeats 4000000
abbrev PL := List (ByteArray × Sl Int)
abbrev plA (p : ByteArray × Sl Int) : List AV := .raw (.string p.1) :: slA p.2
def plF (l : PL) (i : Nat) : List AV := plA (l.getD i zG)
abbrev roP (l : PL) : AO := .ro 7 0 l.length (plF l)
abbrev tP (l : PL) (c : Nat) : AO := .tab 7 l.length c (plF l) 123
def pls (l : PL) : List AV := l.flatMap plA
theorem pls_app (a b : PL) : pls (a ++ b) = pls a ++ pls b := List.flatMap_append
theorem pls_len (l : PL) : (pls l).length = l.length * 7 := by
  induction l with
  | nil => rfl
  | cons p l ih =>
    have : pls (p :: l) = plA p ++ pls l := rfl
    rw [this, List.length_append, ih]
    simp
    omega
theorem pls_one (l : PL) : (pls l).all AV.oneB = true := by
  induction l with
  | nil => rfl
  | cons p l ih =>
    have : pls (p :: l) = plA p ++ pls l := rfl
    rw [this, List.all_append, ih]
    rfl
theorem flat_pl (l : PL) : ∀ m off, off + m ≤ l.length → flat (fun i => plF l (off + i)) m = pls ((l.drop off).take m)
  | 0, off, _ => by simp [flat, pls]
  | m + 1, off, h => by
    rw [flat, flat_pl l m off (by omega), List.take_add_one, pls_app]
    congr 1
    have : (l.drop off)[m]? = some (l[off + m]'(by omega)) := by rw [List.getElem?_drop, List.getElem?_eq_getElem]
    rw [this]
    simp [pls, plF, List.getD, show off + m < l.length by omega]
theorem flat_pl0 (l : PL) : flat (plF l) l.length = pls l := by
  have := flat_pl l l.length 0 (by omega)
  simpa using this
section
variable {E : Base} {n L : Nat} {τ : List (Nat × AV)} {h : List (Nat × AO)} {F : World → Prop}
theorem asPl (T : TypeId) (l : PL) (xs : List AV) (hx : xs = pls l) : AsRow (fun c => .tab 7 l.length c (plF l) T) T 7 xs := by
  rw [hx, ← flat_pl0]
  exact AsRow.tab T (by decide) fun i _ => rfl
theorem dstPl {lab cap : Nat} {l : PL} {T : TypeId} (hl : hk lab h = some (.tab 7 l.length cap (plF l) T)) : DstA E n L τ h F (.sl lab 7 0 l.length cap) T 7 l.length cap (pls l) [lab] := by
  have := DstA.tab (E := E) (n := n) (L := L) (τ := τ) (F := F) (by decide) hl fun i _ => rfl
  rwa [flat_pl0] at this
end
section
variable {E : Base} {n L : Nat} {τ : List (Nat × AV)} {h : List (Nat × AO)} {F : World → Prop}
theorem srcPlR {lab off m c : Nat} {l : PL} (hl : hk lab h = some (roP l)) (hn : off + m ≤ l.length) : SrcA E n L τ h F (.sl lab 7 (0 + off) m c) m (pls ((l.drop off).take m)) := by
  have := SrcA.ro (E := E) (n := n) (L := L) (τ := τ) (F := F) (wd := 7) (f := plF l) (off := off) (m := m) (c := c) (by decide) (fun i _ => rfl) hl hn
  rwa [flat_pl l m off hn] at this
end
theorem has_specR (s : Sl Int) : Spec Try.prog 85 [.agg (slA s)] [] 0 (σ := Unit) (fun _ => True) (fun _ => .raw (.bool s.live)) (fun _ => []) := by
  refine Spec.of Try.func85 rfl Try.ntmps85 rfl (by simp [AO.Bd, bytesF, AV.bds, AV.bd]) fun ρ w => ?_
  obtain ⟨c0, c1, h0, h1, rd, wr⟩ := s
  cases rd with
  | false =>
    repeat (first | refine C.seq ?_ | refine C.region ?_ | refine R.zb ttok ?_ | refine R.zu ttok ?_ | refine R.zc ttok ?_ | refine R.za ttok ?_ | refine R.zx ?_ | refine R.zl ttok ?_ | refine R.zs ttok ?_ | refine R.z ttok ?_ | refine R.zk ?_ | refine R.zn ?_ | refine R.done ?_ | refine X.then ?_ | refine C.block ?_ | refine C.ret ?_ | refine C.skip ?_ | refine C.exit ?_ | refine X.pass_ret ?_ | refine X.pass_exit ?_ | refine X.block_normal ?_ | refine X.block_ret ?_ | refine X.block_exit ?_ | refine C.zt ?_ | refine C.zf ?_ | refine X.zo ?_)
    refine R.ixa ttok 0 rfl rfl rfl rfl rfl (by kernel_rfl) rfl (by decide) ?_
    repeat (first | refine C.seq ?_ | refine C.region ?_ | refine R.zb ttok ?_ | refine R.zu ttok ?_ | refine R.zc ttok ?_ | refine R.za ttok ?_ | refine R.zx ?_ | refine R.zl ttok ?_ | refine R.zs ttok ?_ | refine R.z ttok ?_ | refine R.zk ?_ | refine R.zn ?_ | refine R.done ?_ | refine X.then ?_ | refine C.block ?_ | refine C.ret ?_ | refine C.skip ?_ | refine C.exit ?_ | refine X.pass_ret ?_ | refine X.pass_exit ?_ | refine X.block_normal ?_ | refine X.block_ret ?_ | refine X.block_exit ?_ | refine C.zt ?_ | refine C.zf ?_ | refine X.zo ?_)
    refine X.fin ttok () [] trivial rfl rfl rfl (by repeat (first | exact HasH.nil | refine HasH.same rfl rfl rfl trivial ?_ | refine HasH.same rfl rfl rfl rfl ?_ | refine HasH.same rfl rfl rfl (fun _ _ => rfl) ?_ | refine HasH.ros rfl rfl ?_)) _ (by first | exact .inl rfl | exact .inr rfl)
  | true =>
    repeat (first | refine C.seq ?_ | refine C.region ?_ | refine R.zb ttok ?_ | refine R.zu ttok ?_ | refine R.zc ttok ?_ | refine R.za ttok ?_ | refine R.zx ?_ | refine R.zl ttok ?_ | refine R.zs ttok ?_ | refine R.z ttok ?_ | refine R.zk ?_ | refine R.zn ?_ | refine R.done ?_ | refine X.then ?_ | refine C.block ?_ | refine C.ret ?_ | refine C.skip ?_ | refine C.exit ?_ | refine X.pass_ret ?_ | refine X.pass_exit ?_ | refine X.block_normal ?_ | refine X.block_ret ?_ | refine X.block_exit ?_ | refine C.zt ?_ | refine C.zf ?_ | refine X.zo ?_)
    refine R.ixa ttok 1 rfl rfl rfl rfl rfl (by kernel_rfl) rfl (by decide) ?_
    repeat (first | refine C.seq ?_ | refine C.region ?_ | refine R.zb ttok ?_ | refine R.zu ttok ?_ | refine R.zc ttok ?_ | refine R.za ttok ?_ | refine R.zx ?_ | refine R.zl ttok ?_ | refine R.zs ttok ?_ | refine R.z ttok ?_ | refine R.zk ?_ | refine R.zn ?_ | refine R.done ?_ | refine X.then ?_ | refine C.block ?_ | refine C.ret ?_ | refine C.skip ?_ | refine C.exit ?_ | refine X.pass_ret ?_ | refine X.pass_exit ?_ | refine X.block_normal ?_ | refine X.block_ret ?_ | refine X.block_exit ?_ | refine C.zt ?_ | refine C.zf ?_ | refine X.zo ?_)
    refine X.fin ttok () [] trivial rfl rfl rfl (by repeat (first | exact HasH.nil | refine HasH.same rfl rfl rfl trivial ?_ | refine HasH.same rfl rfl rfl rfl ?_ | refine HasH.same rfl rfl rfl (fun _ _ => rfl) ?_ | refine HasH.ros rfl rfl ?_)) _ (by first | exact .inl rfl | exact .inr rfl)
section
variable (l : PL) (c : Nat) (mk : Bool) (k : ByteArray)
theorem at_specR (hA : Asc l) (hl : l.length ≤ 1000000) : Spec Try.prog 83 [.agg [.sl 0 7 0 l.length c, .raw (.bool mk)], .raw (.string k)] [roP l] 1 (σ := Unit) (fun _ => True) (fun _ => .tup [.raw (.int .i64 (plc l k)), .raw (.bool (hasK l k))]) (fun _ => []) := by
  refine Spec.of Try.func83 rfl Try.ntmps83 rfl (bdl_cons (fun _ _ => rfl) (bdl_nil _)) fun ρ w => ?_
  have hp := plc_le l k
  repeat (first | refine C.seq ?_ | refine C.region ?_ | refine R.zb ttok ?_ | refine R.zu ttok ?_ | refine R.zc ttok ?_ | refine R.za ttok ?_ | refine R.zx ?_ | refine R.zl ttok ?_ | refine R.zs ttok ?_ | refine R.z ttok ?_ | refine R.zk ?_ | refine R.zn ?_ | refine R.done ?_ | refine X.then ?_ | refine C.block ?_ | refine C.ret ?_ | refine C.skip ?_ | refine C.exit ?_ | refine X.pass_ret ?_ | refine X.pass_exit ?_ | refine X.block_normal ?_ | refine X.block_ret ?_ | refine X.block_exit ?_ | refine C.zt ?_ | refine C.zf ?_ | refine X.zo ?_)
  refine C.loop (σ := Nat) (L2 := 2) (fun i => i ≤ plc l k) (fun i => [(1, .raw (.string k)), (2, .ptr 1 0 0 0), (6, .raw (.int .i64 (i : Nat)))]) (fun _ => [(0, roP l), (1, .cells [.sl 0 7 0 l.length c, .raw (.bool mk)] 67)]) _ (fun i => l.length - i) [] 0 (Nat.zero_le _) rfl (by repeat (first | exact HasT.nil | refine HasT.cons rfl rfl rfl ?_)) (by repeat (first | exact HasH.nil | refine HasH.same rfl rfl rfl trivial ?_ | refine HasH.same rfl rfl rfl rfl ?_ | refine HasH.same rfl rfl rfl (fun _ _ => rfl) ?_ | refine HasH.ros rfl rfl ?_)) rfl (fun _ h => h) ?_
  rintro i hi
  repeat (first | refine C.seq ?_ | refine C.region ?_ | refine R.zb ttok ?_ | refine R.zu ttok ?_ | refine R.zc ttok ?_ | refine R.za ttok ?_ | refine R.zx ?_ | refine R.zl ttok ?_ | refine R.zs ttok ?_ | refine R.z ttok ?_ | refine R.zk ?_ | refine R.zn ?_ | refine R.done ?_ | refine X.then ?_ | refine C.block ?_ | refine C.ret ?_ | refine C.skip ?_ | refine C.exit ?_ | refine X.pass_ret ?_ | refine X.pass_exit ?_ | refine X.block_normal ?_ | refine X.block_ret ?_ | refine X.block_exit ?_ | refine C.zt ?_ | refine C.zf ?_ | refine X.zo ?_)
  by_cases hlt : (i : Int) < (l.length : Nat)
  · rw [decide_eq_true hlt]
    have hlt : i < l.length := by omega
    have hiff := plc_iff hA k zG i hlt
    repeat (first | refine C.seq ?_ | refine C.region ?_ | refine R.zb ttok ?_ | refine R.zu ttok ?_ | refine R.zc ttok ?_ | refine R.za ttok ?_ | refine R.zx ?_ | refine R.zl ttok ?_ | refine R.zs ttok ?_ | refine R.z ttok ?_ | refine R.zk ?_ | refine R.zn ?_ | refine R.done ?_ | refine X.then ?_ | refine C.block ?_ | refine C.ret ?_ | refine C.skip ?_ | refine C.exit ?_ | refine X.pass_ret ?_ | refine X.pass_exit ?_ | refine X.block_normal ?_ | refine X.block_ret ?_ | refine X.block_exit ?_ | refine C.zt ?_ | refine C.zf ?_ | refine X.zo ?_)
    refine R.ix ttok i rfl rfl rfl rfl rfl (by kernel_rfl) rfl hlt (by show _ ≤ _ ∧ _ < _; omega) rfl ?_
    repeat (first | refine C.seq ?_ | refine C.region ?_ | refine R.zb ttok ?_ | refine R.zu ttok ?_ | refine R.zc ttok ?_ | refine R.za ttok ?_ | refine R.zx ?_ | refine R.zl ttok ?_ | refine R.zs ttok ?_ | refine R.z ttok ?_ | refine R.zk ?_ | refine R.zn ?_ | refine R.done ?_ | refine X.then ?_ | refine C.block ?_ | refine C.ret ?_ | refine C.skip ?_ | refine C.exit ?_ | refine X.pass_ret ?_ | refine X.pass_exit ?_ | refine X.block_normal ?_ | refine X.block_ret ?_ | refine X.block_exit ?_ | refine C.zt ?_ | refine C.zf ?_ | refine X.zo ?_)
    refine R.ldo (v := .raw (.string (l.getD i zG).1)) ttok rfl rfl rfl rfl rfl (by kernel_rfl) hlt ?_
    repeat (first | refine C.seq ?_ | refine C.region ?_ | refine R.zb ttok ?_ | refine R.zu ttok ?_ | refine R.zc ttok ?_ | refine R.za ttok ?_ | refine R.zx ?_ | refine R.zl ttok ?_ | refine R.zs ttok ?_ | refine R.z ttok ?_ | refine R.zk ?_ | refine R.zn ?_ | refine R.done ?_ | refine X.then ?_ | refine C.block ?_ | refine C.ret ?_ | refine C.skip ?_ | refine C.exit ?_ | refine X.pass_ret ?_ | refine X.pass_exit ?_ | refine X.block_normal ?_ | refine X.block_ret ?_ | refine X.block_exit ?_ | refine C.zt ?_ | refine C.zf ?_ | refine X.zo ?_)
    rw [same_cmp]
    by_cases he : cmpS (l.getD i zG).1 k = 0
    · rw [decide_eq_true he]
      obtain rfl : i = plc l k := by
        have : ¬ i < plc l k := fun h => by have := hiff.2 h; omega
        omega
      rw [show hasK l k = true from decide_eq_true ⟨hlt, he⟩]
      repeat (first | refine C.seq ?_ | refine C.region ?_ | refine R.zb ttok ?_ | refine R.zu ttok ?_ | refine R.zc ttok ?_ | refine R.za ttok ?_ | refine R.zx ?_ | refine R.zl ttok ?_ | refine R.zs ttok ?_ | refine R.z ttok ?_ | refine R.zk ?_ | refine R.zn ?_ | refine R.done ?_ | refine X.then ?_ | refine C.block ?_ | refine C.ret ?_ | refine C.skip ?_ | refine C.exit ?_ | refine X.pass_ret ?_ | refine X.pass_exit ?_ | refine X.block_normal ?_ | refine X.block_ret ?_ | refine X.block_exit ?_ | refine C.zt ?_ | refine C.zf ?_ | refine X.zo ?_)
      refine X.fin ttok () [] trivial rfl rfl rfl (by repeat (first | exact HasH.nil | refine HasH.same rfl rfl rfl trivial ?_ | refine HasH.same rfl rfl rfl rfl ?_ | refine HasH.same rfl rfl rfl (fun _ _ => rfl) ?_ | refine HasH.ros rfl rfl ?_)) _ (by first | exact .inl rfl | exact .inr rfl)
    · rw [decide_eq_false he]
      repeat (first | refine C.seq ?_ | refine C.region ?_ | refine R.zb ttok ?_ | refine R.zu ttok ?_ | refine R.zc ttok ?_ | refine R.za ttok ?_ | refine R.zx ?_ | refine R.zl ttok ?_ | refine R.zs ttok ?_ | refine R.z ttok ?_ | refine R.zk ?_ | refine R.zn ?_ | refine R.done ?_ | refine X.then ?_ | refine C.block ?_ | refine C.ret ?_ | refine C.skip ?_ | refine C.exit ?_ | refine X.pass_ret ?_ | refine X.pass_exit ?_ | refine X.block_normal ?_ | refine X.block_ret ?_ | refine X.block_exit ?_ | refine C.zt ?_ | refine C.zf ?_ | refine X.zo ?_)
      refine R.ix ttok i rfl rfl rfl rfl rfl (by kernel_rfl) rfl hlt (by show _ ≤ _ ∧ _ < _; omega) rfl ?_
      repeat (first | refine C.seq ?_ | refine C.region ?_ | refine R.zb ttok ?_ | refine R.zu ttok ?_ | refine R.zc ttok ?_ | refine R.za ttok ?_ | refine R.zx ?_ | refine R.zl ttok ?_ | refine R.zs ttok ?_ | refine R.z ttok ?_ | refine R.zk ?_ | refine R.zn ?_ | refine R.done ?_ | refine X.then ?_ | refine C.block ?_ | refine C.ret ?_ | refine C.skip ?_ | refine C.exit ?_ | refine X.pass_ret ?_ | refine X.pass_exit ?_ | refine X.block_normal ?_ | refine X.block_ret ?_ | refine X.block_exit ?_ | refine C.zt ?_ | refine C.zf ?_ | refine X.zo ?_)
      refine R.ldo (v := .raw (.string (l.getD i zG).1)) ttok rfl rfl rfl rfl rfl (by kernel_rfl) hlt ?_
      repeat (first | refine C.seq ?_ | refine C.region ?_ | refine R.zb ttok ?_ | refine R.zu ttok ?_ | refine R.zc ttok ?_ | refine R.za ttok ?_ | refine R.zx ?_ | refine R.zl ttok ?_ | refine R.zs ttok ?_ | refine R.z ttok ?_ | refine R.zk ?_ | refine R.zn ?_ | refine R.done ?_ | refine X.then ?_ | refine C.block ?_ | refine C.ret ?_ | refine C.skip ?_ | refine C.exit ?_ | refine X.pass_ret ?_ | refine X.pass_exit ?_ | refine X.block_normal ?_ | refine X.block_ret ?_ | refine X.block_exit ?_ | refine C.zt ?_ | refine C.zf ?_ | refine X.zo ?_)
      rw [show (!(Op.bytesLess (l.getD i zG).1.toList k.toList || decide ((l.getD i zG).1.toList = k.toList))) = decide (cmpS k (l.getD i zG).1 < 0) from gt_cmp _ _]
      by_cases hg : cmpS k (l.getD i zG).1 < 0
      · rw [decide_eq_true hg]
        obtain rfl : i = plc l k := by
          have h1 : ¬ cmpS (l.getD i zG).1 k < 0 := by rw [cmpS_swap]; omega
          have : ¬ i < plc l k := fun h => h1 (hiff.2 h)
          omega
        rw [show hasK l k = false from decide_eq_false fun h => he h.2]
        repeat (first | refine C.seq ?_ | refine C.region ?_ | refine R.zb ttok ?_ | refine R.zu ttok ?_ | refine R.zc ttok ?_ | refine R.za ttok ?_ | refine R.zx ?_ | refine R.zl ttok ?_ | refine R.zs ttok ?_ | refine R.z ttok ?_ | refine R.zk ?_ | refine R.zn ?_ | refine R.done ?_ | refine X.then ?_ | refine C.block ?_ | refine C.ret ?_ | refine C.skip ?_ | refine C.exit ?_ | refine X.pass_ret ?_ | refine X.pass_exit ?_ | refine X.block_normal ?_ | refine X.block_ret ?_ | refine X.block_exit ?_ | refine C.zt ?_ | refine C.zf ?_ | refine X.zo ?_)
        refine X.fin ttok () [] trivial rfl rfl rfl (by repeat (first | exact HasH.nil | refine HasH.same rfl rfl rfl trivial ?_ | refine HasH.same rfl rfl rfl rfl ?_ | refine HasH.same rfl rfl rfl (fun _ _ => rfl) ?_ | refine HasH.ros rfl rfl ?_)) _ (by first | exact .inl rfl | exact .inr rfl)
      · rw [decide_eq_false hg]
        have h1 : cmpS (l.getD i zG).1 k < 0 := by rw [cmpS_swap] at hg; omega
        repeat (first | refine C.seq ?_ | refine C.region ?_ | refine R.zb ttok ?_ | refine R.zu ttok ?_ | refine R.zc ttok ?_ | refine R.za ttok ?_ | refine R.zx ?_ | refine R.zl ttok ?_ | refine R.zs ttok ?_ | refine R.z ttok ?_ | refine R.zk ?_ | refine R.zn ?_ | refine R.done ?_ | refine X.then ?_ | refine C.block ?_ | refine C.ret ?_ | refine C.skip ?_ | refine C.exit ?_ | refine X.pass_ret ?_ | refine X.pass_exit ?_ | refine X.block_normal ?_ | refine X.block_ret ?_ | refine X.block_exit ?_ | refine C.zt ?_ | refine C.zf ?_ | refine X.zo ?_)
        exact X.back [] (i + 1) (hiff.1 h1) (by omega) rfl (by repeat (first | exact HasT.nil | refine HasT.cons rfl rfl rfl ?_)) (by repeat (first | exact HasH.nil | refine HasH.same rfl rfl rfl trivial ?_ | refine HasH.same rfl rfl rfl rfl ?_ | refine HasH.same rfl rfl rfl (fun _ _ => rfl) ?_ | refine HasH.ros rfl rfl ?_)) rfl (fun _ h => h)
  · rw [decide_eq_false hlt]
    obtain rfl : i = plc l k := by omega
    rw [show hasK l k = false from decide_eq_false fun h => by omega, show plc l k = l.length by omega]
    repeat (first | refine C.seq ?_ | refine C.region ?_ | refine R.zb ttok ?_ | refine R.zu ttok ?_ | refine R.zc ttok ?_ | refine R.za ttok ?_ | refine R.zx ?_ | refine R.zl ttok ?_ | refine R.zs ttok ?_ | refine R.z ttok ?_ | refine R.zk ?_ | refine R.zn ?_ | refine R.done ?_ | refine X.then ?_ | refine C.block ?_ | refine C.ret ?_ | refine C.skip ?_ | refine C.exit ?_ | refine X.pass_ret ?_ | refine X.pass_exit ?_ | refine X.block_normal ?_ | refine X.block_ret ?_ | refine X.block_exit ?_ | refine C.zt ?_ | refine C.zf ?_ | refine X.zo ?_)
    refine X.fin ttok () [] trivial rfl rfl rfl (by repeat (first | exact HasH.nil | refine HasH.same rfl rfl rfl trivial ?_ | refine HasH.same rfl rfl rfl rfl ?_ | refine HasH.same rfl rfl rfl (fun _ _ => rfl) ?_ | refine HasH.ros rfl rfl ?_)) _ (by first | exact .inl rfl | exact .inr rfl)
def slotR (l : PL) (k : ByteArray) : Sl Int := (l.getD (plc l k) zG).2
def liveR (l : PL) (k : ByteArray) : Bool := if hasK l k = true then (slotR l k).live else false
def getR (l : PL) (k : ByteArray) : Int := if liveR l k = true then (slotR l k).get (slotR l k).rd else 0
def sloR (l : PL) (k : ByteArray) : Sl Int := if hasK l k = true then slotR l k else default
theorem get_specR (hA : Asc l) (hl : l.length ≤ 1000000) : Spec Try.prog 66 [.agg [.sl 0 7 0 l.length c, .raw (.bool mk)], .raw (.string k)] [roP l] 1 (σ := Unit) (fun _ => True) (fun _ => .tup [.raw (.int .i64 (getR l k)), .raw (.bool (liveR l k))]) (fun _ => []) := by
  refine Spec.of Try.func66 rfl Try.ntmps66 rfl (bdl_cons (fun _ _ => rfl) (bdl_nil _)) fun ρ w => ?_
  have hp := plc_le l k
  repeat (first | refine C.seq ?_ | refine C.region ?_ | refine R.zb ttok ?_ | refine R.zu ttok ?_ | refine R.zc ttok ?_ | refine R.za ttok ?_ | refine R.zx ?_ | refine R.zl ttok ?_ | refine R.zs ttok ?_ | refine R.z ttok ?_ | refine R.zk ?_ | refine R.zn ?_ | refine R.done ?_ | refine X.then ?_ | refine C.block ?_ | refine C.ret ?_ | refine C.skip ?_ | refine C.exit ?_ | refine X.pass_ret ?_ | refine X.pass_exit ?_ | refine X.block_normal ?_ | refine X.block_ret ?_ | refine X.block_exit ?_ | refine C.zt ?_ | refine C.zf ?_ | refine X.zo ?_)
  refine R.cl [0] (at_specR l c mk k hA hl) Try.call83 (by repeat (first | exact HasIn.nil | refine HasIn.same rfl rfl ?_ | refine HasIn.bro rfl ?_ | refine HasIn.ror rfl ?_ | refine HasIn.cro rfl rfl ?_)) rfl rfl rfl (fun _ => rfl) rfl (by kernel_rfl) fun _ _ => ?_
  cases hk : hasK l k with
  | false =>
    rw [show getR l k = 0 by unfold getR liveR; rw [hk]; rfl, show liveR l k = false by unfold liveR; rw [hk]; rfl]
    repeat (first | refine C.seq ?_ | refine C.region ?_ | refine R.zb ttok ?_ | refine R.zu ttok ?_ | refine R.zc ttok ?_ | refine R.za ttok ?_ | refine R.zx ?_ | refine R.zl ttok ?_ | refine R.zs ttok ?_ | refine R.z ttok ?_ | refine R.zk ?_ | refine R.zn ?_ | refine R.done ?_ | refine X.then ?_ | refine C.block ?_ | refine C.ret ?_ | refine C.skip ?_ | refine C.exit ?_ | refine X.pass_ret ?_ | refine X.pass_exit ?_ | refine X.block_normal ?_ | refine X.block_ret ?_ | refine X.block_exit ?_ | refine C.zt ?_ | refine C.zf ?_ | refine X.zo ?_)
    refine X.fin ttok () [] trivial rfl rfl rfl (by repeat (first | exact HasH.nil | refine HasH.same rfl rfl rfl trivial ?_ | refine HasH.same rfl rfl rfl rfl ?_ | refine HasH.same rfl rfl rfl (fun _ _ => rfl) ?_ | refine HasH.ros rfl rfl ?_)) _ (by first | exact .inl rfl | exact .inr rfl)
  | true =>
    have hlt := (hasK_lt hk).1
    obtain ⟨p, hpp⟩ : ∃ p, l.getD (plc l k) zG = p := ⟨_, rfl⟩
    have hs : slotR l k = p.2 := by unfold slotR; rw [hpp]
    have e1 : liveR l k = p.2.live := by unfold liveR; rw [if_pos hk, hs]
    have e2 : getR l k = if p.2.live = true then p.2.get p.2.rd else 0 := by unfold getR; rw [e1, hs]
    repeat (first | refine C.seq ?_ | refine C.region ?_ | refine R.zb ttok ?_ | refine R.zu ttok ?_ | refine R.zc ttok ?_ | refine R.za ttok ?_ | refine R.zx ?_ | refine R.zl ttok ?_ | refine R.zs ttok ?_ | refine R.z ttok ?_ | refine R.zk ?_ | refine R.zn ?_ | refine R.done ?_ | refine X.then ?_ | refine C.block ?_ | refine C.ret ?_ | refine C.skip ?_ | refine C.exit ?_ | refine X.pass_ret ?_ | refine X.pass_exit ?_ | refine X.block_normal ?_ | refine X.block_ret ?_ | refine X.block_exit ?_ | refine C.zt ?_ | refine C.zf ?_ | refine X.zo ?_)
    refine R.ix ttok (plc l k) rfl rfl rfl rfl rfl (by kernel_rfl) rfl hlt (by show _ ≤ _ ∧ _ < _; omega) rfl ?_
    repeat (first | refine C.seq ?_ | refine C.region ?_ | refine R.zb ttok ?_ | refine R.zu ttok ?_ | refine R.zc ttok ?_ | refine R.za ttok ?_ | refine R.zx ?_ | refine R.zl ttok ?_ | refine R.zs ttok ?_ | refine R.z ttok ?_ | refine R.zk ?_ | refine R.zn ?_ | refine R.done ?_ | refine X.then ?_ | refine C.block ?_ | refine C.ret ?_ | refine C.skip ?_ | refine C.exit ?_ | refine X.pass_ret ?_ | refine X.pass_exit ?_ | refine X.block_normal ?_ | refine X.block_ret ?_ | refine X.block_exit ?_ | refine C.zt ?_ | refine C.zf ?_ | refine X.zo ?_)
    refine R.ldo (v := .agg (slA (l.getD (plc l k) zG).2)) ttok rfl rfl rfl rfl rfl (by kernel_rfl) hlt ?_
    rw [hpp]
    refine R.cl [] (has_specR p.2) Try.call85 (by repeat (first | exact HasIn.nil | refine HasIn.same rfl rfl ?_ | refine HasIn.bro rfl ?_ | refine HasIn.ror rfl ?_ | refine HasIn.cro rfl rfl ?_)) rfl rfl rfl (fun _ => rfl) rfl (by kernel_rfl) fun _ _ => ?_
    rw [e1, e2]
    cases hv : p.2.live with
    | false =>
      repeat (first | refine C.seq ?_ | refine C.region ?_ | refine R.zb ttok ?_ | refine R.zu ttok ?_ | refine R.zc ttok ?_ | refine R.za ttok ?_ | refine R.zx ?_ | refine R.zl ttok ?_ | refine R.zs ttok ?_ | refine R.z ttok ?_ | refine R.zk ?_ | refine R.zn ?_ | refine R.done ?_ | refine X.then ?_ | refine C.block ?_ | refine C.ret ?_ | refine C.skip ?_ | refine C.exit ?_ | refine X.pass_ret ?_ | refine X.pass_exit ?_ | refine X.block_normal ?_ | refine X.block_ret ?_ | refine X.block_exit ?_ | refine C.zt ?_ | refine C.zf ?_ | refine X.zo ?_)
      refine X.fin ttok () [] trivial rfl rfl rfl (by repeat (first | exact HasH.nil | refine HasH.same rfl rfl rfl trivial ?_ | refine HasH.same rfl rfl rfl rfl ?_ | refine HasH.same rfl rfl rfl (fun _ _ => rfl) ?_ | refine HasH.ros rfl rfl ?_)) _ (by first | exact .inl rfl | exact .inr rfl)
    | true =>
      rw [if_pos rfl]
      cases hrd : p.2.rd with
      | false =>
        repeat (first | refine C.seq ?_ | refine C.region ?_ | refine R.zb ttok ?_ | refine R.zu ttok ?_ | refine R.zc ttok ?_ | refine R.za ttok ?_ | refine R.zx ?_ | refine R.zl ttok ?_ | refine R.zs ttok ?_ | refine R.z ttok ?_ | refine R.zk ?_ | refine R.zn ?_ | refine R.done ?_ | refine X.then ?_ | refine C.block ?_ | refine C.ret ?_ | refine C.skip ?_ | refine C.exit ?_ | refine X.pass_ret ?_ | refine X.pass_exit ?_ | refine X.block_normal ?_ | refine X.block_ret ?_ | refine X.block_exit ?_ | refine C.zt ?_ | refine C.zf ?_ | refine X.zo ?_)
        refine C.draw [[], [0], [], [], [3], [], [3, 4, 5], [3, 4, 5, 6], [3, 4, 5, 6, 7], [3, 4, 5, 6, 7, 8], [0, 1, 2], [0, 1, 2, 10], [0, 1, 2, 10, 11], [0, 1, 2, 3, 4, 5, 6, 7, 8, 9, 10, 11, 12], [0, 1, 2, 3, 4, 5, 6, 7, 8, 9, 10, 11, 12, 13], [0, 1, 2, 3, 4, 5, 6, 7, 8, 9, 10, 11, 12, 13, 14], [0, 1, 2, 3, 4, 5, 6, 7, 8, 9, 10, 11, 12, 13, 14, 15]] [] (by kernel_rfl) (by kernel_rfl) ?_
        repeat (first | refine C.seq ?_ | refine C.region ?_ | refine R.zb ttok ?_ | refine R.zu ttok ?_ | refine R.zc ttok ?_ | refine R.za ttok ?_ | refine R.zx ?_ | refine R.zl ttok ?_ | refine R.zs ttok ?_ | refine R.z ttok ?_ | refine R.zk ?_ | refine R.zn ?_ | refine R.done ?_ | refine X.then ?_ | refine C.block ?_ | refine C.ret ?_ | refine C.skip ?_ | refine C.exit ?_ | refine X.pass_ret ?_ | refine X.pass_exit ?_ | refine X.block_normal ?_ | refine X.block_ret ?_ | refine X.block_exit ?_ | refine C.zt ?_ | refine C.zf ?_ | refine X.zo ?_)
        refine R.ix ttok (plc l k) rfl rfl rfl rfl rfl (by kernel_rfl) rfl hlt (by show _ ≤ _ ∧ _ < _; omega) rfl ?_
        repeat (first | refine C.seq ?_ | refine C.region ?_ | refine R.zb ttok ?_ | refine R.zu ttok ?_ | refine R.zc ttok ?_ | refine R.za ttok ?_ | refine R.zx ?_ | refine R.zl ttok ?_ | refine R.zs ttok ?_ | refine R.z ttok ?_ | refine R.zk ?_ | refine R.zn ?_ | refine R.done ?_ | refine X.then ?_ | refine C.block ?_ | refine C.ret ?_ | refine C.skip ?_ | refine C.exit ?_ | refine X.pass_ret ?_ | refine X.pass_exit ?_ | refine X.block_normal ?_ | refine X.block_ret ?_ | refine X.block_exit ?_ | refine C.zt ?_ | refine C.zf ?_ | refine X.zo ?_)
        refine R.ldo (v := .raw (.int .i64 (b01 (l.getD (plc l k) zG).2.rd))) ttok rfl rfl rfl rfl rfl (by kernel_rfl) hlt ?_
        rw [hpp, hrd]
        repeat (first | refine C.seq ?_ | refine C.region ?_ | refine R.zb ttok ?_ | refine R.zu ttok ?_ | refine R.zc ttok ?_ | refine R.za ttok ?_ | refine R.zx ?_ | refine R.zl ttok ?_ | refine R.zs ttok ?_ | refine R.z ttok ?_ | refine R.zk ?_ | refine R.zn ?_ | refine R.done ?_ | refine X.then ?_ | refine C.block ?_ | refine C.ret ?_ | refine C.skip ?_ | refine C.exit ?_ | refine X.pass_ret ?_ | refine X.pass_exit ?_ | refine X.block_normal ?_ | refine X.block_ret ?_ | refine X.block_exit ?_ | refine C.zt ?_ | refine C.zf ?_ | refine X.zo ?_)
        refine R.ix ttok (plc l k) rfl rfl rfl rfl rfl (by kernel_rfl) rfl hlt (by show _ ≤ _ ∧ _ < _; omega) rfl ?_
        repeat (first | refine C.seq ?_ | refine C.region ?_ | refine R.zb ttok ?_ | refine R.zu ttok ?_ | refine R.zc ttok ?_ | refine R.za ttok ?_ | refine R.zx ?_ | refine R.zl ttok ?_ | refine R.zs ttok ?_ | refine R.z ttok ?_ | refine R.zk ?_ | refine R.zn ?_ | refine R.done ?_ | refine X.then ?_ | refine C.block ?_ | refine C.ret ?_ | refine C.skip ?_ | refine C.exit ?_ | refine X.pass_ret ?_ | refine X.pass_exit ?_ | refine X.block_normal ?_ | refine X.block_ret ?_ | refine X.block_exit ?_ | refine C.zt ?_ | refine C.zf ?_ | refine X.zo ?_)
        refine R.ixa ttok 0 rfl rfl rfl rfl rfl (by kernel_rfl) rfl (by decide) ?_
        refine R.ldo (v := .raw (.int .i64 (l.getD (plc l k) zG).2.c0)) ttok rfl rfl rfl rfl rfl (by kernel_rfl) hlt ?_
        rw [hpp]
        repeat (first | refine C.seq ?_ | refine C.region ?_ | refine R.zb ttok ?_ | refine R.zu ttok ?_ | refine R.zc ttok ?_ | refine R.za ttok ?_ | refine R.zx ?_ | refine R.zl ttok ?_ | refine R.zs ttok ?_ | refine R.z ttok ?_ | refine R.zk ?_ | refine R.zn ?_ | refine R.done ?_ | refine X.then ?_ | refine C.block ?_ | refine C.ret ?_ | refine C.skip ?_ | refine C.exit ?_ | refine X.pass_ret ?_ | refine X.pass_exit ?_ | refine X.block_normal ?_ | refine X.block_ret ?_ | refine X.block_exit ?_ | refine C.zt ?_ | refine C.zf ?_ | refine X.zo ?_)
        refine X.fin ttok () [] trivial rfl rfl rfl (by repeat (first | exact HasH.nil | refine HasH.same rfl rfl rfl trivial ?_ | refine HasH.same rfl rfl rfl rfl ?_ | refine HasH.same rfl rfl rfl (fun _ _ => rfl) ?_ | refine HasH.ros rfl rfl ?_)) _ (by first | exact .inl rfl | exact .inr rfl)
      | true =>
        repeat (first | refine C.seq ?_ | refine C.region ?_ | refine R.zb ttok ?_ | refine R.zu ttok ?_ | refine R.zc ttok ?_ | refine R.za ttok ?_ | refine R.zx ?_ | refine R.zl ttok ?_ | refine R.zs ttok ?_ | refine R.z ttok ?_ | refine R.zk ?_ | refine R.zn ?_ | refine R.done ?_ | refine X.then ?_ | refine C.block ?_ | refine C.ret ?_ | refine C.skip ?_ | refine C.exit ?_ | refine X.pass_ret ?_ | refine X.pass_exit ?_ | refine X.block_normal ?_ | refine X.block_ret ?_ | refine X.block_exit ?_ | refine C.zt ?_ | refine C.zf ?_ | refine X.zo ?_)
        refine C.draw [[], [0], [], [], [3], [], [3, 4, 5], [3, 4, 5, 6], [3, 4, 5, 6, 7], [3, 4, 5, 6, 7, 8], [0, 1, 2], [0, 1, 2, 10], [0, 1, 2, 10, 11], [0, 1, 2, 3, 4, 5, 6, 7, 8, 9, 10, 11, 12], [0, 1, 2, 3, 4, 5, 6, 7, 8, 9, 10, 11, 12, 13], [0, 1, 2, 3, 4, 5, 6, 7, 8, 9, 10, 11, 12, 13, 14], [0, 1, 2, 3, 4, 5, 6, 7, 8, 9, 10, 11, 12, 13, 14, 15]] [] (by kernel_rfl) (by kernel_rfl) ?_
        repeat (first | refine C.seq ?_ | refine C.region ?_ | refine R.zb ttok ?_ | refine R.zu ttok ?_ | refine R.zc ttok ?_ | refine R.za ttok ?_ | refine R.zx ?_ | refine R.zl ttok ?_ | refine R.zs ttok ?_ | refine R.z ttok ?_ | refine R.zk ?_ | refine R.zn ?_ | refine R.done ?_ | refine X.then ?_ | refine C.block ?_ | refine C.ret ?_ | refine C.skip ?_ | refine C.exit ?_ | refine X.pass_ret ?_ | refine X.pass_exit ?_ | refine X.block_normal ?_ | refine X.block_ret ?_ | refine X.block_exit ?_ | refine C.zt ?_ | refine C.zf ?_ | refine X.zo ?_)
        refine R.ix ttok (plc l k) rfl rfl rfl rfl rfl (by kernel_rfl) rfl hlt (by show _ ≤ _ ∧ _ < _; omega) rfl ?_
        repeat (first | refine C.seq ?_ | refine C.region ?_ | refine R.zb ttok ?_ | refine R.zu ttok ?_ | refine R.zc ttok ?_ | refine R.za ttok ?_ | refine R.zx ?_ | refine R.zl ttok ?_ | refine R.zs ttok ?_ | refine R.z ttok ?_ | refine R.zk ?_ | refine R.zn ?_ | refine R.done ?_ | refine X.then ?_ | refine C.block ?_ | refine C.ret ?_ | refine C.skip ?_ | refine C.exit ?_ | refine X.pass_ret ?_ | refine X.pass_exit ?_ | refine X.block_normal ?_ | refine X.block_ret ?_ | refine X.block_exit ?_ | refine C.zt ?_ | refine C.zf ?_ | refine X.zo ?_)
        refine R.ldo (v := .raw (.int .i64 (b01 (l.getD (plc l k) zG).2.rd))) ttok rfl rfl rfl rfl rfl (by kernel_rfl) hlt ?_
        rw [hpp, hrd]
        repeat (first | refine C.seq ?_ | refine C.region ?_ | refine R.zb ttok ?_ | refine R.zu ttok ?_ | refine R.zc ttok ?_ | refine R.za ttok ?_ | refine R.zx ?_ | refine R.zl ttok ?_ | refine R.zs ttok ?_ | refine R.z ttok ?_ | refine R.zk ?_ | refine R.zn ?_ | refine R.done ?_ | refine X.then ?_ | refine C.block ?_ | refine C.ret ?_ | refine C.skip ?_ | refine C.exit ?_ | refine X.pass_ret ?_ | refine X.pass_exit ?_ | refine X.block_normal ?_ | refine X.block_ret ?_ | refine X.block_exit ?_ | refine C.zt ?_ | refine C.zf ?_ | refine X.zo ?_)
        refine R.ix ttok (plc l k) rfl rfl rfl rfl rfl (by kernel_rfl) rfl hlt (by show _ ≤ _ ∧ _ < _; omega) rfl ?_
        repeat (first | refine C.seq ?_ | refine C.region ?_ | refine R.zb ttok ?_ | refine R.zu ttok ?_ | refine R.zc ttok ?_ | refine R.za ttok ?_ | refine R.zx ?_ | refine R.zl ttok ?_ | refine R.zs ttok ?_ | refine R.z ttok ?_ | refine R.zk ?_ | refine R.zn ?_ | refine R.done ?_ | refine X.then ?_ | refine C.block ?_ | refine C.ret ?_ | refine C.skip ?_ | refine C.exit ?_ | refine X.pass_ret ?_ | refine X.pass_exit ?_ | refine X.block_normal ?_ | refine X.block_ret ?_ | refine X.block_exit ?_ | refine C.zt ?_ | refine C.zf ?_ | refine X.zo ?_)
        refine R.ixa ttok 1 rfl rfl rfl rfl rfl (by kernel_rfl) rfl (by decide) ?_
        refine R.ldo (v := .raw (.int .i64 (l.getD (plc l k) zG).2.c1)) ttok rfl rfl rfl rfl rfl (by kernel_rfl) hlt ?_
        rw [hpp]
        repeat (first | refine C.seq ?_ | refine C.region ?_ | refine R.zb ttok ?_ | refine R.zu ttok ?_ | refine R.zc ttok ?_ | refine R.za ttok ?_ | refine R.zx ?_ | refine R.zl ttok ?_ | refine R.zs ttok ?_ | refine R.z ttok ?_ | refine R.zk ?_ | refine R.zn ?_ | refine R.done ?_ | refine X.then ?_ | refine C.block ?_ | refine C.ret ?_ | refine C.skip ?_ | refine C.exit ?_ | refine X.pass_ret ?_ | refine X.pass_exit ?_ | refine X.block_normal ?_ | refine X.block_ret ?_ | refine X.block_exit ?_ | refine C.zt ?_ | refine C.zf ?_ | refine X.zo ?_)
        refine X.fin ttok () [] trivial rfl rfl rfl (by repeat (first | exact HasH.nil | refine HasH.same rfl rfl rfl trivial ?_ | refine HasH.same rfl rfl rfl rfl ?_ | refine HasH.same rfl rfl rfl (fun _ _ => rfl) ?_ | refine HasH.ros rfl rfl ?_)) _ (by first | exact .inl rfl | exact .inr rfl)
theorem slot_specR (hA : Asc l) (hl : l.length ≤ 1000000) : Spec Try.prog 68 [.agg [.sl 0 7 0 l.length c, .raw (.bool mk)], .raw (.string k)] [roP l] 1 (σ := Unit) (fun _ => True) (fun _ => .tup [.agg (slA (sloR l k)), .raw (.bool (hasK l k))]) (fun _ => []) := by
  refine Spec.of Try.func68 rfl Try.ntmps68 rfl (bdl_cons (fun _ _ => rfl) (bdl_nil _)) fun ρ w => ?_
  have hp := plc_le l k
  repeat (first | refine C.seq ?_ | refine C.region ?_ | refine R.zb ttok ?_ | refine R.zu ttok ?_ | refine R.zc ttok ?_ | refine R.za ttok ?_ | refine R.zx ?_ | refine R.zl ttok ?_ | refine R.zs ttok ?_ | refine R.z ttok ?_ | refine R.zk ?_ | refine R.zn ?_ | refine R.done ?_ | refine X.then ?_ | refine C.block ?_ | refine C.ret ?_ | refine C.skip ?_ | refine C.exit ?_ | refine X.pass_ret ?_ | refine X.pass_exit ?_ | refine X.block_normal ?_ | refine X.block_ret ?_ | refine X.block_exit ?_ | refine C.zt ?_ | refine C.zf ?_ | refine X.zo ?_)
  refine R.cl [0] (at_specR l c mk k hA hl) Try.call83 (by repeat (first | exact HasIn.nil | refine HasIn.same rfl rfl ?_ | refine HasIn.bro rfl ?_ | refine HasIn.ror rfl ?_ | refine HasIn.cro rfl rfl ?_)) rfl rfl rfl (fun _ => rfl) rfl (by kernel_rfl) fun _ _ => ?_
  cases hk : hasK l k with
  | false =>
    rw [show sloR l k = default by unfold sloR; rw [hk]; rfl]
    repeat (first | refine C.seq ?_ | refine C.region ?_ | refine R.zb ttok ?_ | refine R.zu ttok ?_ | refine R.zc ttok ?_ | refine R.za ttok ?_ | refine R.zx ?_ | refine R.zl ttok ?_ | refine R.zs ttok ?_ | refine R.z ttok ?_ | refine R.zk ?_ | refine R.zn ?_ | refine R.done ?_ | refine X.then ?_ | refine C.block ?_ | refine C.ret ?_ | refine C.skip ?_ | refine C.exit ?_ | refine X.pass_ret ?_ | refine X.pass_exit ?_ | refine X.block_normal ?_ | refine X.block_ret ?_ | refine X.block_exit ?_ | refine C.zt ?_ | refine C.zf ?_ | refine X.zo ?_)
    refine X.fin ttok () [] trivial rfl rfl rfl (by repeat (first | exact HasH.nil | refine HasH.same rfl rfl rfl trivial ?_ | refine HasH.same rfl rfl rfl rfl ?_ | refine HasH.same rfl rfl rfl (fun _ _ => rfl) ?_ | refine HasH.ros rfl rfl ?_)) _ (by first | exact .inl rfl | exact .inr rfl)
  | true =>
    have hlt := (hasK_lt hk).1
    obtain ⟨p, hpp⟩ : ∃ p, l.getD (plc l k) zG = p := ⟨_, rfl⟩
    rw [show sloR l k = p.2 by unfold sloR slotR; rw [if_pos hk, hpp]]
    repeat (first | refine C.seq ?_ | refine C.region ?_ | refine R.zb ttok ?_ | refine R.zu ttok ?_ | refine R.zc ttok ?_ | refine R.za ttok ?_ | refine R.zx ?_ | refine R.zl ttok ?_ | refine R.zs ttok ?_ | refine R.z ttok ?_ | refine R.zk ?_ | refine R.zn ?_ | refine R.done ?_ | refine X.then ?_ | refine C.block ?_ | refine C.ret ?_ | refine C.skip ?_ | refine C.exit ?_ | refine X.pass_ret ?_ | refine X.pass_exit ?_ | refine X.block_normal ?_ | refine X.block_ret ?_ | refine X.block_exit ?_ | refine C.zt ?_ | refine C.zf ?_ | refine X.zo ?_)
    refine R.ix ttok (plc l k) rfl rfl rfl rfl rfl (by kernel_rfl) rfl hlt (by show _ ≤ _ ∧ _ < _; omega) rfl ?_
    repeat (first | refine C.seq ?_ | refine C.region ?_ | refine R.zb ttok ?_ | refine R.zu ttok ?_ | refine R.zc ttok ?_ | refine R.za ttok ?_ | refine R.zx ?_ | refine R.zl ttok ?_ | refine R.zs ttok ?_ | refine R.z ttok ?_ | refine R.zk ?_ | refine R.zn ?_ | refine R.done ?_ | refine X.then ?_ | refine C.block ?_ | refine C.ret ?_ | refine C.skip ?_ | refine C.exit ?_ | refine X.pass_ret ?_ | refine X.pass_exit ?_ | refine X.block_normal ?_ | refine X.block_ret ?_ | refine X.block_exit ?_ | refine C.zt ?_ | refine C.zf ?_ | refine X.zo ?_)
    refine R.ldo (v := .agg (slA (l.getD (plc l k) zG).2)) ttok rfl rfl rfl rfl rfl (by kernel_rfl) hlt ?_
    rw [hpp]
    repeat (first | refine C.seq ?_ | refine C.region ?_ | refine R.zb ttok ?_ | refine R.zu ttok ?_ | refine R.zc ttok ?_ | refine R.za ttok ?_ | refine R.zx ?_ | refine R.zl ttok ?_ | refine R.zs ttok ?_ | refine R.z ttok ?_ | refine R.zk ?_ | refine R.zn ?_ | refine R.done ?_ | refine X.then ?_ | refine C.block ?_ | refine C.ret ?_ | refine C.skip ?_ | refine C.exit ?_ | refine X.pass_ret ?_ | refine X.pass_exit ?_ | refine X.block_normal ?_ | refine X.block_ret ?_ | refine X.block_exit ?_ | refine C.zt ?_ | refine C.zf ?_ | refine X.zo ?_)
    refine X.fin ttok () [] trivial rfl rfl rfl (by repeat (first | exact HasH.nil | refine HasH.same rfl rfl rfl trivial ?_ | refine HasH.same rfl rfl rfl rfl ?_ | refine HasH.same rfl rfl rfl (fun _ _ => rfl) ?_ | refine HasH.ros rfl rfl ?_)) _ (by first | exact .inl rfl | exact .inr rfl)
end
end Go.Proofs.Yteabncomclgncaa
namespace Go.Proofs.Yteabncomclgncaa
set_option linter.unusedVariables false
set_option linter.unusedSimpArgs false
open Go.RowKit
set_option maxRecDepth 100000
set_option maxHeartbeats 4000000
/-- the first from a place on that is such -/
def fdP (l : PL) (pr : ByteArray × Sl Int → Bool) (i : Nat) : Option (ByteArray × Sl Int) := (l.drop i).find? pr
theorem fdP_step {l : PL} {pr : ByteArray × Sl Int → Bool} {i : Nat} (h : i < l.length) : fdP l pr i = if pr (l.getD i zG) = true then some (l.getD i zG) else fdP l pr (i + 1) := by
  unfold fdP
  have e : l.getD i zG = l[i] := by rw [List.getD_eq_getElem?_getD, List.getElem?_eq_getElem h]; rfl
  rw [List.drop_eq_getElem_cons h, List.find?_cons, e]
  cases pr l[i] <;> rfl
theorem fdP_end {l : PL} {pr : ByteArray × Sl Int → Bool} {i : Nat} (h : l.length ≤ i) : fdP l pr i = none := by
  unfold fdP
  rw [List.drop_eq_nil_of_le h]
  rfl
def nxP (k : ByteArray) (p : ByteArray × Sl Int) : Bool := gtB p.1 k && p.2.live
def abP (k : ByteArray) (p : ByteArray × Sl Int) : Bool := gtB p.1 k && p.2.has (!p.2.wr)
def nxV (o : Option (ByteArray × Sl Int)) : ByteArray × Bool := match o with
  | some p => (p.1, true)
  | none => (noT, false)
def abV (o : Option (ByteArray × Sl Int)) : ByteArray × Int × Bool := match o with
  | some p => (p.1, p.2.get (!p.2.wr), true)
  | none => (noT, 0, false)
section
variable (l : PL) (c : Nat) (mk : Bool) (k : ByteArray)
theorem next_specR (hl : l.length ≤ 1000000) : Spec Try.prog 67 [.agg [.sl 0 7 0 l.length c, .raw (.bool mk)], .raw (.string k)] [roP l] 1 (σ := Unit) (fun _ => True) (fun _ => .tup [.raw (.string (nxV (fdP l (nxP k) 0)).1), .raw (.bool (nxV (fdP l (nxP k) 0)).2)]) (fun _ => []) := by
  refine Spec.of Try.func67 rfl Try.ntmps67 rfl (bdl_cons (fun _ _ => rfl) (bdl_nil _)) fun ρ w => ?_
  repeat (first | refine C.seq ?_ | refine C.region ?_ | refine R.zb ttok ?_ | refine R.zu ttok ?_ | refine R.zc ttok ?_ | refine R.za ttok ?_ | refine R.zx ?_ | refine R.zl ttok ?_ | refine R.zs ttok ?_ | refine R.z ttok ?_ | refine R.zk ?_ | refine R.zn ?_ | refine R.done ?_ | refine X.then ?_ | refine C.block ?_ | refine C.ret ?_ | refine C.skip ?_ | refine C.exit ?_ | refine X.pass_ret ?_ | refine X.pass_exit ?_ | refine X.block_normal ?_ | refine X.block_ret ?_ | refine X.block_exit ?_ | refine C.zt ?_ | refine C.zf ?_ | refine X.zo ?_)
  refine C.loop (σ := Nat) (L2 := 2) (fun i => i ≤ l.length ∧ fdP l (nxP k) i = fdP l (nxP k) 0) (fun i => [(1, .raw (.string k)), (2, .ptr 1 0 0 0), (6, .raw (.int .i64 (i : Nat)))]) (fun _ => [(0, roP l), (1, .cells [.sl 0 7 0 l.length c, .raw (.bool mk)] 67)]) _ (fun i => l.length - i) [] 0 ⟨Nat.zero_le _, rfl⟩ rfl (by repeat (first | exact HasT.nil | refine HasT.cons rfl rfl rfl ?_)) (by repeat (first | exact HasH.nil | refine HasH.same rfl rfl rfl trivial ?_ | refine HasH.same rfl rfl rfl rfl ?_ | refine HasH.same rfl rfl rfl (fun _ _ => rfl) ?_ | refine HasH.ros rfl rfl ?_)) rfl (fun _ h => h) ?_
  rintro i ⟨hi, hf⟩
  repeat (first | refine C.seq ?_ | refine C.region ?_ | refine R.zb ttok ?_ | refine R.zu ttok ?_ | refine R.zc ttok ?_ | refine R.za ttok ?_ | refine R.zx ?_ | refine R.zl ttok ?_ | refine R.zs ttok ?_ | refine R.z ttok ?_ | refine R.zk ?_ | refine R.zn ?_ | refine R.done ?_ | refine X.then ?_ | refine C.block ?_ | refine C.ret ?_ | refine C.skip ?_ | refine C.exit ?_ | refine X.pass_ret ?_ | refine X.pass_exit ?_ | refine X.block_normal ?_ | refine X.block_ret ?_ | refine X.block_exit ?_ | refine C.zt ?_ | refine C.zf ?_ | refine X.zo ?_)
  by_cases hlt : (i : Int) < (l.length : Nat)
  · rw [decide_eq_true hlt]
    have hlt : i < l.length := by omega
    rw [fdP_step hlt] at hf
    unfold nxP at hf
    repeat (first | refine C.seq ?_ | refine C.region ?_ | refine R.zb ttok ?_ | refine R.zu ttok ?_ | refine R.zc ttok ?_ | refine R.za ttok ?_ | refine R.zx ?_ | refine R.zl ttok ?_ | refine R.zs ttok ?_ | refine R.z ttok ?_ | refine R.zk ?_ | refine R.zn ?_ | refine R.done ?_ | refine X.then ?_ | refine C.block ?_ | refine C.ret ?_ | refine C.skip ?_ | refine C.exit ?_ | refine X.pass_ret ?_ | refine X.pass_exit ?_ | refine X.block_normal ?_ | refine X.block_ret ?_ | refine X.block_exit ?_ | refine C.zt ?_ | refine C.zf ?_ | refine X.zo ?_)
    refine R.ix ttok i rfl rfl rfl rfl rfl (by kernel_rfl) rfl hlt (by show _ ≤ _ ∧ _ < _; omega) rfl ?_
    repeat (first | refine C.seq ?_ | refine C.region ?_ | refine R.zb ttok ?_ | refine R.zu ttok ?_ | refine R.zc ttok ?_ | refine R.za ttok ?_ | refine R.zx ?_ | refine R.zl ttok ?_ | refine R.zs ttok ?_ | refine R.z ttok ?_ | refine R.zk ?_ | refine R.zn ?_ | refine R.done ?_ | refine X.then ?_ | refine C.block ?_ | refine C.ret ?_ | refine C.skip ?_ | refine C.exit ?_ | refine X.pass_ret ?_ | refine X.pass_exit ?_ | refine X.block_normal ?_ | refine X.block_ret ?_ | refine X.block_exit ?_ | refine C.zt ?_ | refine C.zf ?_ | refine X.zo ?_)
    refine R.ldo (v := .raw (.string (l.getD i zG).1)) ttok rfl rfl rfl rfl rfl (by kernel_rfl) hlt ?_
    repeat (first | refine C.seq ?_ | refine C.region ?_ | refine R.zb ttok ?_ | refine R.zu ttok ?_ | refine R.zc ttok ?_ | refine R.za ttok ?_ | refine R.zx ?_ | refine R.zl ttok ?_ | refine R.zs ttok ?_ | refine R.z ttok ?_ | refine R.zk ?_ | refine R.zn ?_ | refine R.done ?_ | refine X.then ?_ | refine C.block ?_ | refine C.ret ?_ | refine C.skip ?_ | refine C.exit ?_ | refine X.pass_ret ?_ | refine X.pass_exit ?_ | refine X.block_normal ?_ | refine X.block_ret ?_ | refine X.block_exit ?_ | refine C.zt ?_ | refine C.zf ?_ | refine X.zo ?_)
    rw [show (!(Op.bytesLess (l.getD i zG).1.toList k.toList || decide ((l.getD i zG).1.toList = k.toList))) = gtB (l.getD i zG).1 k from rfl]
    cases hg : gtB (l.getD i zG).1 k with
    | false =>
      rw [hg, Bool.false_and, if_neg (by decide)] at hf
      repeat (first | refine C.seq ?_ | refine C.region ?_ | refine R.zb ttok ?_ | refine R.zu ttok ?_ | refine R.zc ttok ?_ | refine R.za ttok ?_ | refine R.zx ?_ | refine R.zl ttok ?_ | refine R.zs ttok ?_ | refine R.z ttok ?_ | refine R.zk ?_ | refine R.zn ?_ | refine R.done ?_ | refine X.then ?_ | refine C.block ?_ | refine C.ret ?_ | refine C.skip ?_ | refine C.exit ?_ | refine X.pass_ret ?_ | refine X.pass_exit ?_ | refine X.block_normal ?_ | refine X.block_ret ?_ | refine X.block_exit ?_ | refine C.zt ?_ | refine C.zf ?_ | refine X.zo ?_)
      exact X.back [] (i + 1) ⟨hlt, hf⟩ (by omega) rfl (by repeat (first | exact HasT.nil | refine HasT.cons rfl rfl rfl ?_)) (by repeat (first | exact HasH.nil | refine HasH.same rfl rfl rfl trivial ?_ | refine HasH.same rfl rfl rfl rfl ?_ | refine HasH.same rfl rfl rfl (fun _ _ => rfl) ?_ | refine HasH.ros rfl rfl ?_)) rfl (fun _ h => h)
    | true =>
      rw [hg, Bool.true_and] at hf
      repeat (first | refine C.seq ?_ | refine C.region ?_ | refine R.zb ttok ?_ | refine R.zu ttok ?_ | refine R.zc ttok ?_ | refine R.za ttok ?_ | refine R.zx ?_ | refine R.zl ttok ?_ | refine R.zs ttok ?_ | refine R.z ttok ?_ | refine R.zk ?_ | refine R.zn ?_ | refine R.done ?_ | refine X.then ?_ | refine C.block ?_ | refine C.ret ?_ | refine C.skip ?_ | refine C.exit ?_ | refine X.pass_ret ?_ | refine X.pass_exit ?_ | refine X.block_normal ?_ | refine X.block_ret ?_ | refine X.block_exit ?_ | refine C.zt ?_ | refine C.zf ?_ | refine X.zo ?_)
      refine R.ix ttok i rfl rfl rfl rfl rfl (by kernel_rfl) rfl hlt (by show _ ≤ _ ∧ _ < _; omega) rfl ?_
      repeat (first | refine C.seq ?_ | refine C.region ?_ | refine R.zb ttok ?_ | refine R.zu ttok ?_ | refine R.zc ttok ?_ | refine R.za ttok ?_ | refine R.zx ?_ | refine R.zl ttok ?_ | refine R.zs ttok ?_ | refine R.z ttok ?_ | refine R.zk ?_ | refine R.zn ?_ | refine R.done ?_ | refine X.then ?_ | refine C.block ?_ | refine C.ret ?_ | refine C.skip ?_ | refine C.exit ?_ | refine X.pass_ret ?_ | refine X.pass_exit ?_ | refine X.block_normal ?_ | refine X.block_ret ?_ | refine X.block_exit ?_ | refine C.zt ?_ | refine C.zf ?_ | refine X.zo ?_)
      refine R.ldo (v := .agg (slA (l.getD i zG).2)) ttok rfl rfl rfl rfl rfl (by kernel_rfl) hlt ?_
      refine R.cl [] (has_specR (l.getD i zG).2) Try.call85 (by repeat (first | exact HasIn.nil | refine HasIn.same rfl rfl ?_ | refine HasIn.bro rfl ?_ | refine HasIn.ror rfl ?_ | refine HasIn.cro rfl rfl ?_)) rfl rfl rfl (fun _ => rfl) rfl (by kernel_rfl) fun _ _ => ?_
      cases hv : (l.getD i zG).2.live with
      | false =>
        rw [hv, if_neg (by decide)] at hf
        repeat (first | refine C.seq ?_ | refine C.region ?_ | refine R.zb ttok ?_ | refine R.zu ttok ?_ | refine R.zc ttok ?_ | refine R.za ttok ?_ | refine R.zx ?_ | refine R.zl ttok ?_ | refine R.zs ttok ?_ | refine R.z ttok ?_ | refine R.zk ?_ | refine R.zn ?_ | refine R.done ?_ | refine X.then ?_ | refine C.block ?_ | refine C.ret ?_ | refine C.skip ?_ | refine C.exit ?_ | refine X.pass_ret ?_ | refine X.pass_exit ?_ | refine X.block_normal ?_ | refine X.block_ret ?_ | refine X.block_exit ?_ | refine C.zt ?_ | refine C.zf ?_ | refine X.zo ?_)
        exact X.back [] (i + 1) ⟨hlt, hf⟩ (by omega) rfl (by repeat (first | exact HasT.nil | refine HasT.cons rfl rfl rfl ?_)) (by repeat (first | exact HasH.nil | refine HasH.same rfl rfl rfl trivial ?_ | refine HasH.same rfl rfl rfl rfl ?_ | refine HasH.same rfl rfl rfl (fun _ _ => rfl) ?_ | refine HasH.ros rfl rfl ?_)) rfl (fun _ h => h)
      | true =>
        rw [hv, if_pos rfl] at hf
        rw [show fdP l (nxP k) 0 = some (l.getD i zG) from hf.symm]
        repeat (first | refine C.seq ?_ | refine C.region ?_ | refine R.zb ttok ?_ | refine R.zu ttok ?_ | refine R.zc ttok ?_ | refine R.za ttok ?_ | refine R.zx ?_ | refine R.zl ttok ?_ | refine R.zs ttok ?_ | refine R.z ttok ?_ | refine R.zk ?_ | refine R.zn ?_ | refine R.done ?_ | refine X.then ?_ | refine C.block ?_ | refine C.ret ?_ | refine C.skip ?_ | refine C.exit ?_ | refine X.pass_ret ?_ | refine X.pass_exit ?_ | refine X.block_normal ?_ | refine X.block_ret ?_ | refine X.block_exit ?_ | refine C.zt ?_ | refine C.zf ?_ | refine X.zo ?_)
        refine R.ix ttok i rfl rfl rfl rfl rfl (by kernel_rfl) rfl hlt (by show _ ≤ _ ∧ _ < _; omega) rfl ?_
        repeat (first | refine C.seq ?_ | refine C.region ?_ | refine R.zb ttok ?_ | refine R.zu ttok ?_ | refine R.zc ttok ?_ | refine R.za ttok ?_ | refine R.zx ?_ | refine R.zl ttok ?_ | refine R.zs ttok ?_ | refine R.z ttok ?_ | refine R.zk ?_ | refine R.zn ?_ | refine R.done ?_ | refine X.then ?_ | refine C.block ?_ | refine C.ret ?_ | refine C.skip ?_ | refine C.exit ?_ | refine X.pass_ret ?_ | refine X.pass_exit ?_ | refine X.block_normal ?_ | refine X.block_ret ?_ | refine X.block_exit ?_ | refine C.zt ?_ | refine C.zf ?_ | refine X.zo ?_)
        refine R.ldo (v := .raw (.string (l.getD i zG).1)) ttok rfl rfl rfl rfl rfl (by kernel_rfl) hlt ?_
        repeat (first | refine C.seq ?_ | refine C.region ?_ | refine R.zb ttok ?_ | refine R.zu ttok ?_ | refine R.zc ttok ?_ | refine R.za ttok ?_ | refine R.zx ?_ | refine R.zl ttok ?_ | refine R.zs ttok ?_ | refine R.z ttok ?_ | refine R.zk ?_ | refine R.zn ?_ | refine R.done ?_ | refine X.then ?_ | refine C.block ?_ | refine C.ret ?_ | refine C.skip ?_ | refine C.exit ?_ | refine X.pass_ret ?_ | refine X.pass_exit ?_ | refine X.block_normal ?_ | refine X.block_ret ?_ | refine X.block_exit ?_ | refine C.zt ?_ | refine C.zf ?_ | refine X.zo ?_)
        refine X.fin ttok () [] trivial rfl rfl rfl (by repeat (first | exact HasH.nil | refine HasH.same rfl rfl rfl trivial ?_ | refine HasH.same rfl rfl rfl rfl ?_ | refine HasH.same rfl rfl rfl (fun _ _ => rfl) ?_ | refine HasH.ros rfl rfl ?_)) _ (by first | exact .inl rfl | exact .inr rfl)
  · rw [decide_eq_false hlt]
    rw [fdP_end (by omega)] at hf
    rw [← hf]
    repeat (first | refine C.seq ?_ | refine C.region ?_ | refine R.zb ttok ?_ | refine R.zu ttok ?_ | refine R.zc ttok ?_ | refine R.za ttok ?_ | refine R.zx ?_ | refine R.zl ttok ?_ | refine R.zs ttok ?_ | refine R.z ttok ?_ | refine R.zk ?_ | refine R.zn ?_ | refine R.done ?_ | refine X.then ?_ | refine C.block ?_ | refine C.ret ?_ | refine C.skip ?_ | refine C.exit ?_ | refine X.pass_ret ?_ | refine X.pass_exit ?_ | refine X.block_normal ?_ | refine X.block_ret ?_ | refine X.block_exit ?_ | refine C.zt ?_ | refine C.zf ?_ | refine X.zo ?_)
    refine X.fin ttok () [] trivial rfl rfl rfl (by repeat (first | exact HasH.nil | refine HasH.same rfl rfl rfl trivial ?_ | refine HasH.same rfl rfl rfl rfl ?_ | refine HasH.same rfl rfl rfl (fun _ _ => rfl) ?_ | refine HasH.ros rfl rfl ?_)) _ (by first | exact .inl rfl | exact .inr rfl)
def abF (l : PL) (mk : Bool) (k : ByteArray) : Option (ByteArray × Sl Int) := if mk then fdP l (abP k) 0 else none
theorem above_specR (hl : l.length ≤ 1000000) : Spec Try.prog 70 [.agg [.sl 0 7 0 l.length c, .raw (.bool mk)], .raw (.string k)] [roP l] 1 (σ := Unit) (fun _ => True) (fun _ => .tup [.raw (.string (abV (abF l mk k)).1), .raw (.int .i64 (abV (abF l mk k)).2.1), .raw (.bool (abV (abF l mk k)).2.2)]) (fun _ => []) := by
  refine Spec.of Try.func70 rfl Try.ntmps70 rfl (bdl_cons (fun _ _ => rfl) (bdl_nil _)) fun ρ w => ?_
  repeat (first | refine C.seq ?_ | refine C.region ?_ | refine R.zb ttok ?_ | refine R.zu ttok ?_ | refine R.zc ttok ?_ | refine R.za ttok ?_ | refine R.zx ?_ | refine R.zl ttok ?_ | refine R.zs ttok ?_ | refine R.z ttok ?_ | refine R.zk ?_ | refine R.zn ?_ | refine R.done ?_ | refine X.then ?_ | refine C.block ?_ | refine C.ret ?_ | refine C.skip ?_ | refine C.exit ?_ | refine X.pass_ret ?_ | refine X.pass_exit ?_ | refine X.block_normal ?_ | refine X.block_ret ?_ | refine X.block_exit ?_ | refine C.zt ?_ | refine C.zf ?_ | refine X.zo ?_)
  refine C.loop (σ := Nat) (L2 := 2) (fun i => i ≤ l.length ∧ (if mk then fdP l (abP k) i else none) = abF l mk k) (fun i => [(1, .raw (.string k)), (2, .ptr 1 0 0 0), (7, .raw (.int .i64 (i : Nat)))]) (fun _ => [(0, roP l), (1, .cells [.sl 0 7 0 l.length c, .raw (.bool mk)] 67)]) _ (fun i => l.length - i) [] 0 ⟨Nat.zero_le _, rfl⟩ rfl (by repeat (first | exact HasT.nil | refine HasT.cons rfl rfl rfl ?_)) (by repeat (first | exact HasH.nil | refine HasH.same rfl rfl rfl trivial ?_ | refine HasH.same rfl rfl rfl rfl ?_ | refine HasH.same rfl rfl rfl (fun _ _ => rfl) ?_ | refine HasH.ros rfl rfl ?_)) rfl (fun _ h => h) ?_
  rintro i ⟨hi, hf⟩
  repeat (first | refine C.seq ?_ | refine C.region ?_ | refine R.zb ttok ?_ | refine R.zu ttok ?_ | refine R.zc ttok ?_ | refine R.za ttok ?_ | refine R.zx ?_ | refine R.zl ttok ?_ | refine R.zs ttok ?_ | refine R.z ttok ?_ | refine R.zk ?_ | refine R.zn ?_ | refine R.done ?_ | refine X.then ?_ | refine C.block ?_ | refine C.ret ?_ | refine C.skip ?_ | refine C.exit ?_ | refine X.pass_ret ?_ | refine X.pass_exit ?_ | refine X.block_normal ?_ | refine X.block_ret ?_ | refine X.block_exit ?_ | refine C.zt ?_ | refine C.zf ?_ | refine X.zo ?_)
  by_cases hlt : (i : Int) < (l.length : Nat)
  · rw [decide_eq_true hlt]
    have hlt : i < l.length := by omega
    cases mk with
    | false =>
      rw [if_neg (by decide)] at hf
      rw [← hf]
      repeat (first | refine C.seq ?_ | refine C.region ?_ | refine R.zb ttok ?_ | refine R.zu ttok ?_ | refine R.zc ttok ?_ | refine R.za ttok ?_ | refine R.zx ?_ | refine R.zl ttok ?_ | refine R.zs ttok ?_ | refine R.z ttok ?_ | refine R.zk ?_ | refine R.zn ?_ | refine R.done ?_ | refine X.then ?_ | refine C.block ?_ | refine C.ret ?_ | refine C.skip ?_ | refine C.exit ?_ | refine X.pass_ret ?_ | refine X.pass_exit ?_ | refine X.block_normal ?_ | refine X.block_ret ?_ | refine X.block_exit ?_ | refine C.zt ?_ | refine C.zf ?_ | refine X.zo ?_)
      refine X.fin ttok () [] trivial rfl rfl rfl (by repeat (first | exact HasH.nil | refine HasH.same rfl rfl rfl trivial ?_ | refine HasH.same rfl rfl rfl rfl ?_ | refine HasH.same rfl rfl rfl (fun _ _ => rfl) ?_ | refine HasH.ros rfl rfl ?_)) _ (by first | exact .inl rfl | exact .inr rfl)
    | true =>
      rw [if_pos rfl, fdP_step hlt] at hf
      unfold abP at hf
      obtain ⟨⟨pk, c0, c1, h0, h1, rd, wr⟩, hpp⟩ : ∃ p, l.getD i zG = p := ⟨_, rfl⟩
      rw [hpp] at hf
      repeat (first | refine C.seq ?_ | refine C.region ?_ | refine R.zb ttok ?_ | refine R.zu ttok ?_ | refine R.zc ttok ?_ | refine R.za ttok ?_ | refine R.zx ?_ | refine R.zl ttok ?_ | refine R.zs ttok ?_ | refine R.z ttok ?_ | refine R.zk ?_ | refine R.zn ?_ | refine R.done ?_ | refine X.then ?_ | refine C.block ?_ | refine C.ret ?_ | refine C.skip ?_ | refine C.exit ?_ | refine X.pass_ret ?_ | refine X.pass_exit ?_ | refine X.block_normal ?_ | refine X.block_ret ?_ | refine X.block_exit ?_ | refine C.zt ?_ | refine C.zf ?_ | refine X.zo ?_)
      refine R.ix ttok i rfl rfl rfl rfl rfl (by kernel_rfl) rfl hlt (by show _ ≤ _ ∧ _ < _; omega) rfl ?_
      repeat (first | refine C.seq ?_ | refine C.region ?_ | refine R.zb ttok ?_ | refine R.zu ttok ?_ | refine R.zc ttok ?_ | refine R.za ttok ?_ | refine R.zx ?_ | refine R.zl ttok ?_ | refine R.zs ttok ?_ | refine R.z ttok ?_ | refine R.zk ?_ | refine R.zn ?_ | refine R.done ?_ | refine X.then ?_ | refine C.block ?_ | refine C.ret ?_ | refine C.skip ?_ | refine C.exit ?_ | refine X.pass_ret ?_ | refine X.pass_exit ?_ | refine X.block_normal ?_ | refine X.block_ret ?_ | refine X.block_exit ?_ | refine C.zt ?_ | refine C.zf ?_ | refine X.zo ?_)
      refine R.ldo (v := .agg (slA (l.getD i zG).2)) ttok rfl rfl rfl rfl rfl (by kernel_rfl) hlt ?_
      rw [hpp]
      repeat (first | refine C.seq ?_ | refine C.region ?_ | refine R.zb ttok ?_ | refine R.zu ttok ?_ | refine R.zc ttok ?_ | refine R.za ttok ?_ | refine R.zx ?_ | refine R.zl ttok ?_ | refine R.zs ttok ?_ | refine R.z ttok ?_ | refine R.zk ?_ | refine R.zn ?_ | refine R.done ?_ | refine X.then ?_ | refine C.block ?_ | refine C.ret ?_ | refine C.skip ?_ | refine C.exit ?_ | refine X.pass_ret ?_ | refine X.pass_exit ?_ | refine X.block_normal ?_ | refine X.block_ret ?_ | refine X.block_exit ?_ | refine C.zt ?_ | refine C.zf ?_ | refine X.zo ?_)
      refine R.ix ttok i rfl rfl rfl rfl rfl (by kernel_rfl) rfl hlt (by show _ ≤ _ ∧ _ < _; omega) rfl ?_
      repeat (first | refine C.seq ?_ | refine C.region ?_ | refine R.zb ttok ?_ | refine R.zu ttok ?_ | refine R.zc ttok ?_ | refine R.za ttok ?_ | refine R.zx ?_ | refine R.zl ttok ?_ | refine R.zs ttok ?_ | refine R.z ttok ?_ | refine R.zk ?_ | refine R.zn ?_ | refine R.done ?_ | refine X.then ?_ | refine C.block ?_ | refine C.ret ?_ | refine C.skip ?_ | refine C.exit ?_ | refine X.pass_ret ?_ | refine X.pass_exit ?_ | refine X.block_normal ?_ | refine X.block_ret ?_ | refine X.block_exit ?_ | refine C.zt ?_ | refine C.zf ?_ | refine X.zo ?_)
      refine R.ldo (v := .raw (.string (l.getD i zG).1)) ttok rfl rfl rfl rfl rfl (by kernel_rfl) hlt ?_
      rw [hpp]
      repeat (first | refine C.seq ?_ | refine C.region ?_ | refine R.zb ttok ?_ | refine R.zu ttok ?_ | refine R.zc ttok ?_ | refine R.za ttok ?_ | refine R.zx ?_ | refine R.zl ttok ?_ | refine R.zs ttok ?_ | refine R.z ttok ?_ | refine R.zk ?_ | refine R.zn ?_ | refine R.done ?_ | refine X.then ?_ | refine C.block ?_ | refine C.ret ?_ | refine C.skip ?_ | refine C.exit ?_ | refine X.pass_ret ?_ | refine X.pass_exit ?_ | refine X.block_normal ?_ | refine X.block_ret ?_ | refine X.block_exit ?_ | refine C.zt ?_ | refine C.zf ?_ | refine X.zo ?_)
      rw [show (!(Op.bytesLess pk.toList k.toList || decide (pk.toList = k.toList))) = gtB pk k from rfl]
      cases hg : gtB pk k with
      | false =>
        rw [hg, Bool.false_and, if_neg (by decide)] at hf
        repeat (first | refine C.seq ?_ | refine C.region ?_ | refine R.zb ttok ?_ | refine R.zu ttok ?_ | refine R.zc ttok ?_ | refine R.za ttok ?_ | refine R.zx ?_ | refine R.zl ttok ?_ | refine R.zs ttok ?_ | refine R.z ttok ?_ | refine R.zk ?_ | refine R.zn ?_ | refine R.done ?_ | refine X.then ?_ | refine C.block ?_ | refine C.ret ?_ | refine C.skip ?_ | refine C.exit ?_ | refine X.pass_ret ?_ | refine X.pass_exit ?_ | refine X.block_normal ?_ | refine X.block_ret ?_ | refine X.block_exit ?_ | refine C.zt ?_ | refine C.zf ?_ | refine X.zo ?_)
        exact X.back [] (i + 1) ⟨hlt, hf⟩ (by omega) rfl (by repeat (first | exact HasT.nil | refine HasT.cons rfl rfl rfl ?_)) (by repeat (first | exact HasH.nil | refine HasH.same rfl rfl rfl trivial ?_ | refine HasH.same rfl rfl rfl rfl ?_ | refine HasH.same rfl rfl rfl (fun _ _ => rfl) ?_ | refine HasH.ros rfl rfl ?_)) rfl (fun _ h => h)
      | true =>
        rw [hg, Bool.true_and] at hf
        cases wr with
        | false =>
          cases h1 with
          | false =>
            repeat (first | refine C.seq ?_ | refine C.region ?_ | refine R.zb ttok ?_ | refine R.zu ttok ?_ | refine R.zc ttok ?_ | refine R.za ttok ?_ | refine R.zx ?_ | refine R.zl ttok ?_ | refine R.zs ttok ?_ | refine R.z ttok ?_ | refine R.zk ?_ | refine R.zn ?_ | refine R.done ?_ | refine X.then ?_ | refine C.block ?_ | refine C.ret ?_ | refine C.skip ?_ | refine C.exit ?_ | refine X.pass_ret ?_ | refine X.pass_exit ?_ | refine X.block_normal ?_ | refine X.block_ret ?_ | refine X.block_exit ?_ | refine C.zt ?_ | refine C.zf ?_ | refine X.zo ?_)
            refine R.ixa ttok 1 rfl rfl rfl rfl rfl (by kernel_rfl) rfl (by decide) ?_
            repeat (first | refine C.seq ?_ | refine C.region ?_ | refine R.zb ttok ?_ | refine R.zu ttok ?_ | refine R.zc ttok ?_ | refine R.za ttok ?_ | refine R.zx ?_ | refine R.zl ttok ?_ | refine R.zs ttok ?_ | refine R.z ttok ?_ | refine R.zk ?_ | refine R.zn ?_ | refine R.done ?_ | refine X.then ?_ | refine C.block ?_ | refine C.ret ?_ | refine C.skip ?_ | refine C.exit ?_ | refine X.pass_ret ?_ | refine X.pass_exit ?_ | refine X.block_normal ?_ | refine X.block_ret ?_ | refine X.block_exit ?_ | refine C.zt ?_ | refine C.zf ?_ | refine X.zo ?_)
            exact X.back [] (i + 1) ⟨hlt, hf⟩ (by omega) rfl (by repeat (first | exact HasT.nil | refine HasT.cons rfl rfl rfl ?_)) (by repeat (first | exact HasH.nil | refine HasH.same rfl rfl rfl trivial ?_ | refine HasH.same rfl rfl rfl rfl ?_ | refine HasH.same rfl rfl rfl (fun _ _ => rfl) ?_ | refine HasH.ros rfl rfl ?_)) rfl (fun _ h => h)
          | true =>
            repeat (first | refine C.seq ?_ | refine C.region ?_ | refine R.zb ttok ?_ | refine R.zu ttok ?_ | refine R.zc ttok ?_ | refine R.za ttok ?_ | refine R.zx ?_ | refine R.zl ttok ?_ | refine R.zs ttok ?_ | refine R.z ttok ?_ | refine R.zk ?_ | refine R.zn ?_ | refine R.done ?_ | refine X.then ?_ | refine C.block ?_ | refine C.ret ?_ | refine C.skip ?_ | refine C.exit ?_ | refine X.pass_ret ?_ | refine X.pass_exit ?_ | refine X.block_normal ?_ | refine X.block_ret ?_ | refine X.block_exit ?_ | refine C.zt ?_ | refine C.zf ?_ | refine X.zo ?_)
            refine R.ixa ttok 1 rfl rfl rfl rfl rfl (by kernel_rfl) rfl (by decide) ?_
            rw [show abF l true k = some (pk, ⟨c0, c1, h0, true, rd, false⟩) from hf.symm]
            repeat (first | refine C.seq ?_ | refine C.region ?_ | refine R.zb ttok ?_ | refine R.zu ttok ?_ | refine R.zc ttok ?_ | refine R.za ttok ?_ | refine R.zx ?_ | refine R.zl ttok ?_ | refine R.zs ttok ?_ | refine R.z ttok ?_ | refine R.zk ?_ | refine R.zn ?_ | refine R.done ?_ | refine X.then ?_ | refine C.block ?_ | refine C.ret ?_ | refine C.skip ?_ | refine C.exit ?_ | refine X.pass_ret ?_ | refine X.pass_exit ?_ | refine X.block_normal ?_ | refine X.block_ret ?_ | refine X.block_exit ?_ | refine C.zt ?_ | refine C.zf ?_ | refine X.zo ?_)
            refine C.draw [[], [0], [], [0, 1, 2], [0, 1, 2, 3], [0, 1, 2, 3, 4], [], [6], [6, 7], [], [6, 7, 8, 9], [6, 7, 8, 9, 10], [0, 1, 2, 3, 4, 5], [0, 1, 2, 3, 4, 5, 6, 7, 8, 9, 10, 11, 12], [0, 1, 2, 3, 4, 5, 6, 7, 8, 9, 10, 11, 12, 13]] [] (by kernel_rfl) (by kernel_rfl) ?_
            repeat (first | refine C.seq ?_ | refine C.region ?_ | refine R.zb ttok ?_ | refine R.zu ttok ?_ | refine R.zc ttok ?_ | refine R.za ttok ?_ | refine R.zx ?_ | refine R.zl ttok ?_ | refine R.zs ttok ?_ | refine R.z ttok ?_ | refine R.zk ?_ | refine R.zn ?_ | refine R.done ?_ | refine X.then ?_ | refine C.block ?_ | refine C.ret ?_ | refine C.skip ?_ | refine C.exit ?_ | refine X.pass_ret ?_ | refine X.pass_exit ?_ | refine X.block_normal ?_ | refine X.block_ret ?_ | refine X.block_exit ?_ | refine C.zt ?_ | refine C.zf ?_ | refine X.zo ?_)
            refine R.ix ttok i rfl rfl rfl rfl rfl (by kernel_rfl) rfl hlt (by show _ ≤ _ ∧ _ < _; omega) rfl ?_
            repeat (first | refine C.seq ?_ | refine C.region ?_ | refine R.zb ttok ?_ | refine R.zu ttok ?_ | refine R.zc ttok ?_ | refine R.za ttok ?_ | refine R.zx ?_ | refine R.zl ttok ?_ | refine R.zs ttok ?_ | refine R.z ttok ?_ | refine R.zk ?_ | refine R.zn ?_ | refine R.done ?_ | refine X.then ?_ | refine C.block ?_ | refine C.ret ?_ | refine C.skip ?_ | refine C.exit ?_ | refine X.pass_ret ?_ | refine X.pass_exit ?_ | refine X.block_normal ?_ | refine X.block_ret ?_ | refine X.block_exit ?_ | refine C.zt ?_ | refine C.zf ?_ | refine X.zo ?_)
            refine R.ldo (v := .raw (.string (l.getD i zG).1)) ttok rfl rfl rfl rfl rfl (by kernel_rfl) hlt ?_
            rw [hpp]
            repeat (first | refine C.seq ?_ | refine C.region ?_ | refine R.zb ttok ?_ | refine R.zu ttok ?_ | refine R.zc ttok ?_ | refine R.za ttok ?_ | refine R.zx ?_ | refine R.zl ttok ?_ | refine R.zs ttok ?_ | refine R.z ttok ?_ | refine R.zk ?_ | refine R.zn ?_ | refine R.done ?_ | refine X.then ?_ | refine C.block ?_ | refine C.ret ?_ | refine C.skip ?_ | refine C.exit ?_ | refine X.pass_ret ?_ | refine X.pass_exit ?_ | refine X.block_normal ?_ | refine X.block_ret ?_ | refine X.block_exit ?_ | refine C.zt ?_ | refine C.zf ?_ | refine X.zo ?_)
            refine R.ixa ttok 1 rfl rfl rfl rfl rfl (by kernel_rfl) rfl (by decide) ?_
            repeat (first | refine C.seq ?_ | refine C.region ?_ | refine R.zb ttok ?_ | refine R.zu ttok ?_ | refine R.zc ttok ?_ | refine R.za ttok ?_ | refine R.zx ?_ | refine R.zl ttok ?_ | refine R.zs ttok ?_ | refine R.z ttok ?_ | refine R.zk ?_ | refine R.zn ?_ | refine R.done ?_ | refine X.then ?_ | refine C.block ?_ | refine C.ret ?_ | refine C.skip ?_ | refine C.exit ?_ | refine X.pass_ret ?_ | refine X.pass_exit ?_ | refine X.block_normal ?_ | refine X.block_ret ?_ | refine X.block_exit ?_ | refine C.zt ?_ | refine C.zf ?_ | refine X.zo ?_)
            refine X.fin ttok () [] trivial rfl rfl rfl (by repeat (first | exact HasH.nil | refine HasH.same rfl rfl rfl trivial ?_ | refine HasH.same rfl rfl rfl rfl ?_ | refine HasH.same rfl rfl rfl (fun _ _ => rfl) ?_ | refine HasH.ros rfl rfl ?_)) _ (by first | exact .inl rfl | exact .inr rfl)
        | true =>
          cases h0 with
          | false =>
            repeat (first | refine C.seq ?_ | refine C.region ?_ | refine R.zb ttok ?_ | refine R.zu ttok ?_ | refine R.zc ttok ?_ | refine R.za ttok ?_ | refine R.zx ?_ | refine R.zl ttok ?_ | refine R.zs ttok ?_ | refine R.z ttok ?_ | refine R.zk ?_ | refine R.zn ?_ | refine R.done ?_ | refine X.then ?_ | refine C.block ?_ | refine C.ret ?_ | refine C.skip ?_ | refine C.exit ?_ | refine X.pass_ret ?_ | refine X.pass_exit ?_ | refine X.block_normal ?_ | refine X.block_ret ?_ | refine X.block_exit ?_ | refine C.zt ?_ | refine C.zf ?_ | refine X.zo ?_)
            refine R.ixa ttok 0 rfl rfl rfl rfl rfl (by kernel_rfl) rfl (by decide) ?_
            repeat (first | refine C.seq ?_ | refine C.region ?_ | refine R.zb ttok ?_ | refine R.zu ttok ?_ | refine R.zc ttok ?_ | refine R.za ttok ?_ | refine R.zx ?_ | refine R.zl ttok ?_ | refine R.zs ttok ?_ | refine R.z ttok ?_ | refine R.zk ?_ | refine R.zn ?_ | refine R.done ?_ | refine X.then ?_ | refine C.block ?_ | refine C.ret ?_ | refine C.skip ?_ | refine C.exit ?_ | refine X.pass_ret ?_ | refine X.pass_exit ?_ | refine X.block_normal ?_ | refine X.block_ret ?_ | refine X.block_exit ?_ | refine C.zt ?_ | refine C.zf ?_ | refine X.zo ?_)
            exact X.back [] (i + 1) ⟨hlt, hf⟩ (by omega) rfl (by repeat (first | exact HasT.nil | refine HasT.cons rfl rfl rfl ?_)) (by repeat (first | exact HasH.nil | refine HasH.same rfl rfl rfl trivial ?_ | refine HasH.same rfl rfl rfl rfl ?_ | refine HasH.same rfl rfl rfl (fun _ _ => rfl) ?_ | refine HasH.ros rfl rfl ?_)) rfl (fun _ h => h)
          | true =>
            repeat (first | refine C.seq ?_ | refine C.region ?_ | refine R.zb ttok ?_ | refine R.zu ttok ?_ | refine R.zc ttok ?_ | refine R.za ttok ?_ | refine R.zx ?_ | refine R.zl ttok ?_ | refine R.zs ttok ?_ | refine R.z ttok ?_ | refine R.zk ?_ | refine R.zn ?_ | refine R.done ?_ | refine X.then ?_ | refine C.block ?_ | refine C.ret ?_ | refine C.skip ?_ | refine C.exit ?_ | refine X.pass_ret ?_ | refine X.pass_exit ?_ | refine X.block_normal ?_ | refine X.block_ret ?_ | refine X.block_exit ?_ | refine C.zt ?_ | refine C.zf ?_ | refine X.zo ?_)
            refine R.ixa ttok 0 rfl rfl rfl rfl rfl (by kernel_rfl) rfl (by decide) ?_
            rw [show abF l true k = some (pk, ⟨c0, c1, true, h1, rd, true⟩) from hf.symm]
            repeat (first | refine C.seq ?_ | refine C.region ?_ | refine R.zb ttok ?_ | refine R.zu ttok ?_ | refine R.zc ttok ?_ | refine R.za ttok ?_ | refine R.zx ?_ | refine R.zl ttok ?_ | refine R.zs ttok ?_ | refine R.z ttok ?_ | refine R.zk ?_ | refine R.zn ?_ | refine R.done ?_ | refine X.then ?_ | refine C.block ?_ | refine C.ret ?_ | refine C.skip ?_ | refine C.exit ?_ | refine X.pass_ret ?_ | refine X.pass_exit ?_ | refine X.block_normal ?_ | refine X.block_ret ?_ | refine X.block_exit ?_ | refine C.zt ?_ | refine C.zf ?_ | refine X.zo ?_)
            refine C.draw [[], [0], [], [0, 1, 2], [0, 1, 2, 3], [0, 1, 2, 3, 4], [], [6], [6, 7], [], [6, 7, 8, 9], [6, 7, 8, 9, 10], [0, 1, 2, 3, 4, 5], [0, 1, 2, 3, 4, 5, 6, 7, 8, 9, 10, 11, 12], [0, 1, 2, 3, 4, 5, 6, 7, 8, 9, 10, 11, 12, 13]] [] (by kernel_rfl) (by kernel_rfl) ?_
            repeat (first | refine C.seq ?_ | refine C.region ?_ | refine R.zb ttok ?_ | refine R.zu ttok ?_ | refine R.zc ttok ?_ | refine R.za ttok ?_ | refine R.zx ?_ | refine R.zl ttok ?_ | refine R.zs ttok ?_ | refine R.z ttok ?_ | refine R.zk ?_ | refine R.zn ?_ | refine R.done ?_ | refine X.then ?_ | refine C.block ?_ | refine C.ret ?_ | refine C.skip ?_ | refine C.exit ?_ | refine X.pass_ret ?_ | refine X.pass_exit ?_ | refine X.block_normal ?_ | refine X.block_ret ?_ | refine X.block_exit ?_ | refine C.zt ?_ | refine C.zf ?_ | refine X.zo ?_)
            refine R.ix ttok i rfl rfl rfl rfl rfl (by kernel_rfl) rfl hlt (by show _ ≤ _ ∧ _ < _; omega) rfl ?_
            repeat (first | refine C.seq ?_ | refine C.region ?_ | refine R.zb ttok ?_ | refine R.zu ttok ?_ | refine R.zc ttok ?_ | refine R.za ttok ?_ | refine R.zx ?_ | refine R.zl ttok ?_ | refine R.zs ttok ?_ | refine R.z ttok ?_ | refine R.zk ?_ | refine R.zn ?_ | refine R.done ?_ | refine X.then ?_ | refine C.block ?_ | refine C.ret ?_ | refine C.skip ?_ | refine C.exit ?_ | refine X.pass_ret ?_ | refine X.pass_exit ?_ | refine X.block_normal ?_ | refine X.block_ret ?_ | refine X.block_exit ?_ | refine C.zt ?_ | refine C.zf ?_ | refine X.zo ?_)
            refine R.ldo (v := .raw (.string (l.getD i zG).1)) ttok rfl rfl rfl rfl rfl (by kernel_rfl) hlt ?_
            rw [hpp]
            repeat (first | refine C.seq ?_ | refine C.region ?_ | refine R.zb ttok ?_ | refine R.zu ttok ?_ | refine R.zc ttok ?_ | refine R.za ttok ?_ | refine R.zx ?_ | refine R.zl ttok ?_ | refine R.zs ttok ?_ | refine R.z ttok ?_ | refine R.zk ?_ | refine R.zn ?_ | refine R.done ?_ | refine X.then ?_ | refine C.block ?_ | refine C.ret ?_ | refine C.skip ?_ | refine C.exit ?_ | refine X.pass_ret ?_ | refine X.pass_exit ?_ | refine X.block_normal ?_ | refine X.block_ret ?_ | refine X.block_exit ?_ | refine C.zt ?_ | refine C.zf ?_ | refine X.zo ?_)
            refine R.ixa ttok 0 rfl rfl rfl rfl rfl (by kernel_rfl) rfl (by decide) ?_
            repeat (first | refine C.seq ?_ | refine C.region ?_ | refine R.zb ttok ?_ | refine R.zu ttok ?_ | refine R.zc ttok ?_ | refine R.za ttok ?_ | refine R.zx ?_ | refine R.zl ttok ?_ | refine R.zs ttok ?_ | refine R.z ttok ?_ | refine R.zk ?_ | refine R.zn ?_ | refine R.done ?_ | refine X.then ?_ | refine C.block ?_ | refine C.ret ?_ | refine C.skip ?_ | refine C.exit ?_ | refine X.pass_ret ?_ | refine X.pass_exit ?_ | refine X.block_normal ?_ | refine X.block_ret ?_ | refine X.block_exit ?_ | refine C.zt ?_ | refine C.zf ?_ | refine X.zo ?_)
            refine X.fin ttok () [] trivial rfl rfl rfl (by repeat (first | exact HasH.nil | refine HasH.same rfl rfl rfl trivial ?_ | refine HasH.same rfl rfl rfl rfl ?_ | refine HasH.same rfl rfl rfl (fun _ _ => rfl) ?_ | refine HasH.ros rfl rfl ?_)) _ (by first | exact .inl rfl | exact .inr rfl)
  · rw [decide_eq_false hlt]
    have hf2 : abF l mk k = none := by
      rw [← hf, fdP_end (by omega)]
      cases mk <;> rfl
    rw [hf2]
    repeat (first | refine C.seq ?_ | refine C.region ?_ | refine R.zb ttok ?_ | refine R.zu ttok ?_ | refine R.zc ttok ?_ | refine R.za ttok ?_ | refine R.zx ?_ | refine R.zl ttok ?_ | refine R.zs ttok ?_ | refine R.z ttok ?_ | refine R.zk ?_ | refine R.zn ?_ | refine R.done ?_ | refine X.then ?_ | refine C.block ?_ | refine C.ret ?_ | refine C.skip ?_ | refine C.exit ?_ | refine X.pass_ret ?_ | refine X.pass_exit ?_ | refine X.block_normal ?_ | refine X.block_ret ?_ | refine X.block_exit ?_ | refine C.zt ?_ | refine C.zf ?_ | refine X.zo ?_)
    refine X.fin ttok () [] trivial rfl rfl rfl (by repeat (first | exact HasH.nil | refine HasH.same rfl rfl rfl trivial ?_ | refine HasH.same rfl rfl rfl rfl ?_ | refine HasH.same rfl rfl rfl (fun _ _ => rfl) ?_ | refine HasH.ros rfl rfl ?_)) _ (by first | exact .inl rfl | exact .inr rfl)
end
def keptP (l : PL) : PL := l.filter fun p => p.2.live
theorem keptP_step {l : PL} {i : Nat} (h : i < l.length) : keptP (l.take (i + 1)) = if (l.getD i zG).2.live = true then keptP (l.take i) ++ [l.getD i zG] else keptP (l.take i) := by
  unfold keptP
  have e : l.getD i zG = l[i] := by rw [List.getD_eq_getElem?_getD, List.getElem?_eq_getElem h]; rfl
  rw [List.take_succ_eq_append_getElem h, List.filter_append, e]
  cases hl : (l[i]).2.live <;> simp [hl]
theorem keptP_len (l : PL) (i : Nat) : (keptP (l.take i)).length ≤ l.length := Nat.le_trans (List.length_filter_le _ _) (by rw [List.length_take]; omega)
theorem pl_none (l : PL) (L : Nat) (T : TypeId) (ρ : Env) (W : World) : (AO.tab 7 ([] : PL).length 0 (plF []) T).Low ρ (L + 1) ∧ (AO.tab 7 ([] : PL).length 0 (plF []) T).holds ρ none W := none_tab _ _ _ _ ρ W
section
variable (l : PL) (c : Nat) (mk : Bool)
theorem kept_specR (hl : l.length ≤ 1000000) : Spec Try.prog 86 [.agg [.sl 0 7 0 l.length c, .raw (.bool mk)]] [roP l] 2 (σ := Nat) (fun c' => (keptP l).length ≤ c' ∧ c' ≤ 9223372036854775807) (fun c' => .agg [.sl 1 7 0 (keptP l).length c', .raw (.bool mk)]) (fun c' => [(1, tP (keptP l) c')]) := by
  refine Spec.of Try.func86 rfl Try.ntmps86 rfl (bdl_cons (fun _ _ => rfl) (bdl_nil _)) fun ρ w => ?_
  repeat (first | refine C.seq ?_ | refine C.region ?_ | refine R.zb ttok ?_ | refine R.zu ttok ?_ | refine R.zc ttok ?_ | refine R.za ttok ?_ | refine R.zx ?_ | refine R.zl ttok ?_ | refine R.zs ttok ?_ | refine R.z ttok ?_ | refine R.zk ?_ | refine R.zn ?_ | refine R.done ?_ | refine X.then ?_ | refine C.block ?_ | refine C.ret ?_ | refine C.skip ?_ | refine C.exit ?_ | refine X.pass_ret ?_ | refine X.pass_exit ?_ | refine X.block_normal ?_ | refine X.block_ret ?_ | refine X.block_exit ?_ | refine C.zt ?_ | refine C.zf ?_ | refine X.zo ?_)
  refine C.noneT 3 (.sl 3 7 0 ([] : PL).length 0) (tP [] 0) (pl_none [] _ _) rfl rfl rfl (fun ρ h => by have h : ρ 3 = none := h; simp [AV.conc, h]) ?_
  refine C.loop (σ := Nat × Nat) (L2 := 4) (fun s => s.1 ≤ l.length ∧ (keptP (l.take s.1)).length ≤ s.2 ∧ s.2 ≤ 9223372036854775807) (fun s => [(1, .ptr 1 0 0 0), (2, .ptr 2 0 0 0), (3, .sl 3 7 0 (keptP (l.take s.1)).length s.2), (4, .raw (.int .i64 (s.1 : Nat)))]) (fun s => [(0, roP l), (1, .cells [.sl 0 7 0 l.length c, .raw (.bool mk)] 67), (2, .cells [.raw (.slice none 0 0), .raw (.bool false)] 67), (3, tP (keptP (l.take s.1)) s.2)]) _ (fun s => l.length - s.1) [] (0, 0) ⟨Nat.zero_le _, Nat.le_refl _, by simp⟩ rfl (by repeat (first | exact HasT.nil | refine HasT.cons rfl rfl rfl ?_)) (by repeat (first | exact HasH.nil | refine HasH.same rfl rfl rfl trivial ?_ | refine HasH.same rfl rfl rfl rfl ?_ | refine HasH.same rfl rfl rfl (fun _ _ => rfl) ?_ | refine HasH.ros rfl rfl ?_)) rfl (fun _ h => h) ?_
  rintro ⟨i, cg⟩ ⟨hi, hcg, hcg2⟩
  dsimp only at hi hcg hcg2 ⊢
  repeat (first | refine C.seq ?_ | refine C.region ?_ | refine R.zb ttok ?_ | refine R.zu ttok ?_ | refine R.zc ttok ?_ | refine R.za ttok ?_ | refine R.zx ?_ | refine R.zl ttok ?_ | refine R.zs ttok ?_ | refine R.z ttok ?_ | refine R.zk ?_ | refine R.zn ?_ | refine R.done ?_ | refine X.then ?_ | refine C.block ?_ | refine C.ret ?_ | refine C.skip ?_ | refine C.exit ?_ | refine X.pass_ret ?_ | refine X.pass_exit ?_ | refine X.block_normal ?_ | refine X.block_ret ?_ | refine X.block_exit ?_ | refine C.zt ?_ | refine C.zf ?_ | refine X.zo ?_)
  by_cases hlt : (i : Int) < (l.length : Nat)
  · rw [decide_eq_true hlt]
    have hlt : i < l.length := by omega
    have hst := keptP_step hlt
    have hkl := keptP_len l i
    repeat (first | refine C.seq ?_ | refine C.region ?_ | refine R.zb ttok ?_ | refine R.zu ttok ?_ | refine R.zc ttok ?_ | refine R.za ttok ?_ | refine R.zx ?_ | refine R.zl ttok ?_ | refine R.zs ttok ?_ | refine R.z ttok ?_ | refine R.zk ?_ | refine R.zn ?_ | refine R.done ?_ | refine X.then ?_ | refine C.block ?_ | refine C.ret ?_ | refine C.skip ?_ | refine C.exit ?_ | refine X.pass_ret ?_ | refine X.pass_exit ?_ | refine X.block_normal ?_ | refine X.block_ret ?_ | refine X.block_exit ?_ | refine C.zt ?_ | refine C.zf ?_ | refine X.zo ?_)
    refine R.ix ttok i rfl rfl rfl rfl rfl (by kernel_rfl) rfl hlt (by show _ ≤ _ ∧ _ < _; omega) rfl ?_
    repeat (first | refine C.seq ?_ | refine C.region ?_ | refine R.zb ttok ?_ | refine R.zu ttok ?_ | refine R.zc ttok ?_ | refine R.za ttok ?_ | refine R.zx ?_ | refine R.zl ttok ?_ | refine R.zs ttok ?_ | refine R.z ttok ?_ | refine R.zk ?_ | refine R.zn ?_ | refine R.done ?_ | refine X.then ?_ | refine C.block ?_ | refine C.ret ?_ | refine C.skip ?_ | refine C.exit ?_ | refine X.pass_ret ?_ | refine X.pass_exit ?_ | refine X.block_normal ?_ | refine X.block_ret ?_ | refine X.block_exit ?_ | refine C.zt ?_ | refine C.zf ?_ | refine X.zo ?_)
    refine R.ldo (v := .agg (slA (l.getD i zG).2)) ttok rfl rfl rfl rfl rfl (by kernel_rfl) hlt ?_
    refine R.cl [] (has_specR (l.getD i zG).2) Try.call85 (by repeat (first | exact HasIn.nil | refine HasIn.same rfl rfl ?_ | refine HasIn.bro rfl ?_ | refine HasIn.ror rfl ?_ | refine HasIn.cro rfl rfl ?_)) rfl rfl rfl (fun _ => rfl) rfl (by kernel_rfl) fun _ _ => ?_
    cases hv : (l.getD i zG).2.live with
    | false =>
      rw [hv, if_neg (by decide)] at hst
      repeat (first | refine C.seq ?_ | refine C.region ?_ | refine R.zb ttok ?_ | refine R.zu ttok ?_ | refine R.zc ttok ?_ | refine R.za ttok ?_ | refine R.zx ?_ | refine R.zl ttok ?_ | refine R.zs ttok ?_ | refine R.z ttok ?_ | refine R.zk ?_ | refine R.zn ?_ | refine R.done ?_ | refine X.then ?_ | refine C.block ?_ | refine C.ret ?_ | refine C.skip ?_ | refine C.exit ?_ | refine X.pass_ret ?_ | refine X.pass_exit ?_ | refine X.block_normal ?_ | refine X.block_ret ?_ | refine X.block_exit ?_ | refine C.zt ?_ | refine C.zf ?_ | refine X.zo ?_)
      refine X.back [] (i + 1, cg) ⟨hlt, by rw [hst]; exact hcg, hcg2⟩ (by dsimp only; omega) rfl (by
        show HasT _ _ _ [(1, .ptr 1 0 0 0), (2, .ptr 2 0 0 0), (3, .sl 3 7 0 (keptP (l.take (i + 1))).length cg), (4, .raw (.int .i64 ((i + 1 : Nat) : Int)))]
        rw [hst]
        exact (by repeat (first | exact HasT.nil | refine HasT.cons rfl rfl rfl ?_))) (by
        show HasH _ _ _ [(0, roP l), (1, .cells [.sl 0 7 0 l.length c, .raw (.bool mk)] 67), (2, .cells [.raw (.slice none 0 0), .raw (.bool false)] 67), (3, tP (keptP (l.take (i + 1))) cg)]
        rw [hst]
        exact (by repeat (first | exact HasH.nil | refine HasH.same rfl rfl rfl trivial ?_ | refine HasH.same rfl rfl rfl rfl ?_ | refine HasH.same rfl rfl rfl (fun _ _ => rfl) ?_ | refine HasH.ros rfl rfl ?_))) rfl (fun _ h => h)
    | true =>
      rw [hv, if_pos rfl] at hst
      have hlen : (keptP (l.take i) ++ [l.getD i zG]).length = (keptP (l.take i)).length + 1 := by rw [List.length_append]; rfl
      repeat (first | refine C.seq ?_ | refine C.region ?_ | refine R.zb ttok ?_ | refine R.zu ttok ?_ | refine R.zc ttok ?_ | refine R.za ttok ?_ | refine R.zx ?_ | refine R.zl ttok ?_ | refine R.zs ttok ?_ | refine R.z ttok ?_ | refine R.zk ?_ | refine R.zn ?_ | refine R.done ?_ | refine X.then ?_ | refine C.block ?_ | refine C.ret ?_ | refine C.skip ?_ | refine C.exit ?_ | refine X.pass_ret ?_ | refine X.pass_exit ?_ | refine X.block_normal ?_ | refine X.block_ret ?_ | refine X.block_exit ?_ | refine C.zt ?_ | refine C.zf ?_ | refine X.zo ?_)
      refine R.ix ttok i rfl rfl rfl rfl rfl (by kernel_rfl) rfl hlt (by show _ ≤ _ ∧ _ < _; omega) rfl ?_
      repeat (first | refine C.seq ?_ | refine C.region ?_ | refine R.zb ttok ?_ | refine R.zu ttok ?_ | refine R.zc ttok ?_ | refine R.za ttok ?_ | refine R.zx ?_ | refine R.zl ttok ?_ | refine R.zs ttok ?_ | refine R.z ttok ?_ | refine R.zk ?_ | refine R.zn ?_ | refine R.done ?_ | refine X.then ?_ | refine C.block ?_ | refine C.ret ?_ | refine C.skip ?_ | refine C.exit ?_ | refine X.pass_ret ?_ | refine X.pass_exit ?_ | refine X.block_normal ?_ | refine X.block_ret ?_ | refine X.block_exit ?_ | refine C.zt ?_ | refine C.zf ?_ | refine X.zo ?_)
      refine R.ldo (v := .agg (plA (l.getD i zG))) ttok rfl rfl rfl rfl rfl (by kernel_rfl) hlt ?_
      repeat (first | refine C.seq ?_ | refine C.region ?_ | refine R.zb ttok ?_ | refine R.zu ttok ?_ | refine R.zc ttok ?_ | refine R.za ttok ?_ | refine R.zx ?_ | refine R.zl ttok ?_ | refine R.zs ttok ?_ | refine R.z ttok ?_ | refine R.zk ?_ | refine R.zn ?_ | refine R.done ?_ | refine X.then ?_ | refine C.block ?_ | refine C.ret ?_ | refine C.skip ?_ | refine C.exit ?_ | refine X.pass_ret ?_ | refine X.pass_exit ?_ | refine X.block_normal ?_ | refine X.block_ret ?_ | refine X.block_exit ?_ | refine C.zt ?_ | refine C.zf ?_ | refine X.zo ?_)
      refine R.app (xs := pls (keptP (l.take i))) (news := pls [l.getD i zG]) ttok (fun c => tP (keptP (l.take i) ++ [l.getD i zG]) c) rfl rfl (dstPl rfl) (SrcA.cells rfl rfl) (asPl _ _ _ (pls_app _ _).symm) rfl rfl rfl rfl rfl rfl (by decide) rfl rfl rfl (by kernel_rfl) hcg2 (by show ((keptP (l.take i)).length + 1) * 56 ≤ _; omega) (by omega) fun cN hcN hcN2 => ?_
      rw [← hlen] at hcN ⊢
      repeat (first | refine C.seq ?_ | refine C.region ?_ | refine R.zb ttok ?_ | refine R.zu ttok ?_ | refine R.zc ttok ?_ | refine R.za ttok ?_ | refine R.zx ?_ | refine R.zl ttok ?_ | refine R.zs ttok ?_ | refine R.z ttok ?_ | refine R.zk ?_ | refine R.zn ?_ | refine R.done ?_ | refine X.then ?_ | refine C.block ?_ | refine C.ret ?_ | refine C.skip ?_ | refine C.exit ?_ | refine X.pass_ret ?_ | refine X.pass_exit ?_ | refine X.block_normal ?_ | refine X.block_ret ?_ | refine X.block_exit ?_ | refine C.zt ?_ | refine C.zf ?_ | refine X.zo ?_)
      refine X.back [(3, 5)] (i + 1, cN) ⟨hlt, by rw [hst]; exact hcN, hcN2⟩ (by dsimp only; omega) rfl (by
        show HasT _ _ _ [(1, .ptr 1 0 0 0), (2, .ptr 2 0 0 0), (3, .sl 3 7 0 (keptP (l.take (i + 1))).length cN), (4, .raw (.int .i64 ((i + 1 : Nat) : Int)))]
        rw [hst]
        exact (by repeat (first | exact HasT.nil | refine HasT.cons rfl rfl rfl ?_))) (by
        show HasH _ _ _ [(0, roP l), (1, .cells [.sl 0 7 0 l.length c, .raw (.bool mk)] 67), (2, .cells [.raw (.slice none 0 0), .raw (.bool false)] 67), (3, tP (keptP (l.take (i + 1))) cN)]
        rw [hst]
        exact (by repeat (first | exact HasH.nil | refine HasH.same rfl rfl rfl trivial ?_ | refine HasH.same rfl rfl rfl rfl ?_ | refine HasH.same rfl rfl rfl (fun _ _ => rfl) ?_ | refine HasH.ros rfl rfl ?_))) rfl (fun _ h => h)
  · rw [decide_eq_false hlt]
    obtain rfl : i = l.length := by omega
    rw [List.take_length] at hcg ⊢
    repeat (first | refine C.seq ?_ | refine C.region ?_ | refine R.zb ttok ?_ | refine R.zu ttok ?_ | refine R.zc ttok ?_ | refine R.za ttok ?_ | refine R.zx ?_ | refine R.zl ttok ?_ | refine R.zs ttok ?_ | refine R.z ttok ?_ | refine R.zk ?_ | refine R.zn ?_ | refine R.done ?_ | refine X.then ?_ | refine C.block ?_ | refine C.ret ?_ | refine C.skip ?_ | refine C.exit ?_ | refine X.pass_ret ?_ | refine X.pass_exit ?_ | refine X.block_normal ?_ | refine X.block_ret ?_ | refine X.block_exit ?_ | refine C.zt ?_ | refine C.zf ?_ | refine X.zo ?_)
    refine X.fin ttok cg [(1, 3)] ⟨hcg, hcg2⟩ rfl rfl rfl (by repeat (first | exact HasH.nil | refine HasH.same rfl rfl rfl trivial ?_ | refine HasH.same rfl rfl rfl rfl ?_ | refine HasH.same rfl rfl rfl (fun _ _ => rfl) ?_ | refine HasH.ros rfl rfl ?_)) _ (by first | exact .inl rfl | exact .inr rfl)
end
end Go.Proofs.Yteabncomclgncaa
namespace Go.Proofs.Yteabncomclgncaa
set_option linter.unusedVariables false
set_option linter.unusedSimpArgs false
open Go.RowKit
set_option maxRecDepth 100000
set_option maxHeartbeats 4000000
section
variable {E : Base} {n L : Nat} {τ : List (Nat × AV)} {h : List (Nat × AO)} {F : World → Prop}
theorem srcPlRj {lab p j c cc : Nat} {l : PL} (hl : hk lab h = some (roP l)) (hp : p ≤ l.length) (hb : Nat.ble (lab + 1) L = true) (hj : j = 0 + p ∨ l.length = p ∧ j = 0 ∧ cc = p) : SrcA E n L τ h F (.sl lab 7 j (l.length - p) c) (l.length - p) (pls (l.drop p)) := by
  rcases hj with rfl | ⟨h1, rfl, _⟩
  · have := srcPlR (E := E) (n := n) (L := L) (τ := τ) (F := F) (off := p) (m := l.length - p) (c := c) hl (by omega)
    rwa [List.take_of_length_le (by rw [List.length_drop]; omega)] at this
  · have := SrcA.none0 (E := E) (n := n) (τ := τ) (h := h) (F := F) (w0 := 7) (j := 0) (c := c) hb
    rw [h1, Nat.sub_self, List.drop_eq_nil_of_le (by omega)]
    exact this
end
section
variable (l : PL) (c : Nat) (mk : Bool)
theorem len_specR (hl : l.length ≤ 1000000) : Spec Try.prog 69 [.agg [.sl 0 7 0 l.length c, .raw (.bool mk)]] [roP l] 1 (σ := Unit) (fun _ => True) (fun _ => .raw (.int .i64 (keptP l).length)) (fun _ => []) := by
  refine Spec.of Try.func69 rfl Try.ntmps69 rfl (bdl_cons (fun _ _ => rfl) (bdl_nil _)) fun ρ w => ?_
  repeat (first | refine C.seq ?_ | refine C.region ?_ | refine R.zb ttok ?_ | refine R.zu ttok ?_ | refine R.zc ttok ?_ | refine R.za ttok ?_ | refine R.zx ?_ | refine R.zl ttok ?_ | refine R.zs ttok ?_ | refine R.z ttok ?_ | refine R.zk ?_ | refine R.zn ?_ | refine R.done ?_ | refine X.then ?_ | refine C.block ?_ | refine C.ret ?_ | refine C.skip ?_ | refine C.exit ?_ | refine X.pass_ret ?_ | refine X.pass_exit ?_ | refine X.block_normal ?_ | refine X.block_ret ?_ | refine X.block_exit ?_ | refine C.zt ?_ | refine C.zf ?_ | refine X.zo ?_)
  refine R.cl [0] (kept_specR l c mk hl) Try.call86 (by repeat (first | exact HasIn.nil | refine HasIn.same rfl rfl ?_ | refine HasIn.bro rfl ?_ | refine HasIn.ror rfl ?_ | refine HasIn.cro rfl rfl ?_)) rfl rfl rfl (fun _ => rfl) rfl (by kernel_rfl) fun c' hc' => ?_
  repeat (first | refine C.seq ?_ | refine C.region ?_ | refine R.zb ttok ?_ | refine R.zu ttok ?_ | refine R.zc ttok ?_ | refine R.za ttok ?_ | refine R.zx ?_ | refine R.zl ttok ?_ | refine R.zs ttok ?_ | refine R.z ttok ?_ | refine R.zk ?_ | refine R.zn ?_ | refine R.done ?_ | refine X.then ?_ | refine C.block ?_ | refine C.ret ?_ | refine C.skip ?_ | refine C.exit ?_ | refine X.pass_ret ?_ | refine X.pass_exit ?_ | refine X.block_normal ?_ | refine X.block_ret ?_ | refine X.block_exit ?_ | refine C.zt ?_ | refine C.zf ?_ | refine X.zo ?_)
  refine X.fin ttok () [] trivial rfl rfl rfl (by repeat (first | exact HasH.nil | refine HasH.same rfl rfl rfl trivial ?_ | refine HasH.same rfl rfl rfl rfl ?_ | refine HasH.same rfl rfl rfl (fun _ _ => rfl) ?_ | refine HasH.ros rfl rfl ?_)) _ (by first | exact .inl rfl | exact .inr rfl)
def withP (l : PL) (i ins : Nat) (p : ByteArray × Sl Int) : PL := l.take i ++ p :: l.drop (i + ins)
theorem withP_len {l : PL} {i ins : Nat} {p : ByteArray × Sl Int} (h : i + ins ≤ l.length) : (withP l i ins p).length = l.length + 1 - ins := by
  unfold withP
  rw [List.length_append, List.length_cons, List.length_take, List.length_drop]
  omega
theorem with_specR (i ins : Nat) (p : ByteArray × Sl Int) (hi : i + ins ≤ l.length) (hl : l.length ≤ 1000000) (hc : l.length ≤ c) (hc2 : c ≤ 9223372036854775807) : Spec Try.prog 84 [.agg [.sl 0 7 0 l.length c, .raw (.bool mk)], .raw (.int .i64 i), .raw (.int .i64 ins), .agg (plA p)] [roP l] 2 (σ := Nat) (fun c' => (withP l i ins p).length ≤ c' ∧ c' ≤ 9223372036854775807)
    (fun c' => .agg [.sl 1 7 0 (withP l i ins p).length c', .raw (.bool mk)]) (fun c' => [(1, tP (withP l i ins p) c')]) := by
  refine Spec.of Try.func84 rfl Try.ntmps84 rfl (bdl_cons (fun _ _ => rfl) (bdl_nil _)) fun ρ w => ?_
  repeat (first | refine C.seq ?_ | refine C.region ?_ | refine R.zb ttok ?_ | refine R.zu ttok ?_ | refine R.zc ttok ?_ | refine R.za ttok ?_ | refine R.zx ?_ | refine R.zl ttok ?_ | refine R.zs ttok ?_ | refine R.z ttok ?_ | refine R.zk ?_ | refine R.zn ?_ | refine R.done ?_ | refine X.then ?_ | refine C.block ?_ | refine C.ret ?_ | refine C.skip ?_ | refine C.exit ?_ | refine X.pass_ret ?_ | refine X.pass_exit ?_ | refine X.block_normal ?_ | refine X.block_ret ?_ | refine X.block_exit ?_ | refine C.zt ?_ | refine C.zf ?_ | refine X.zo ?_)
  refine R.sl ttok 0 i rfl rfl rfl rfl rfl rfl (by kernel_rfl) rfl ⟨_, _, rfl, rfl⟩ (by omega) (by omega) fun o1 ho1 => ?_
  obtain rfl : o1 = 0 := by omega
  have ht : (l.take i).length = i := by rw [List.length_take]; omega
  refine R.noneT 10 (.sl 4 7 0 ([] : PL).length 0) (tP [] 0) (pl_none [] _ _) rfl rfl rfl (fun ρ h => by have h : ρ 4 = none := h; simp [AV.conc, h]) ?_
  have hsrc : ∀ {E : Base} {n L : Nat} {τ : List (Nat × AV)} {h : List (Nat × AO)} {F : World → Prop}, hk 0 h = some (roP l) → SrcA E n L τ h F (.sl 0 7 0 (i - 0) (c - 0)) (i - 0) (pls (l.take i)) := fun {E n L τ h F} hl => by
    have := srcPlR (E := E) (n := n) (L := L) (τ := τ) (F := F) (off := 0) (m := i) (c := c) hl (by omega)
    simpa using this
  refine R.app (xs := pls []) (news := pls (l.take i)) ttok (fun c => tP (l.take i) c) rfl rfl (dstPl (l := []) rfl) (hsrc rfl) (asPl _ _ _ rfl) rfl rfl rfl rfl rfl rfl (by decide) (pls_one _) (by rw [pls_len, ht]; rfl) rfl (by kernel_rfl) (by omega) (by show (0 + (i - 0)) * 56 ≤ _; omega) (by show 0 + (i - 0) ≤ _; omega) fun cA hA hA2 => ?_
  rw [show ([] : PL).length + (i - 0) = (l.take i).length by rw [ht]; simp] at hA ⊢
  repeat (first | refine C.seq ?_ | refine C.region ?_ | refine R.zb ttok ?_ | refine R.zu ttok ?_ | refine R.zc ttok ?_ | refine R.za ttok ?_ | refine R.zx ?_ | refine R.zl ttok ?_ | refine R.zs ttok ?_ | refine R.z ttok ?_ | refine R.zk ?_ | refine R.zn ?_ | refine R.done ?_ | refine X.then ?_ | refine C.block ?_ | refine C.ret ?_ | refine C.skip ?_ | refine C.exit ?_ | refine X.pass_ret ?_ | refine X.pass_exit ?_ | refine X.block_normal ?_ | refine X.block_ret ?_ | refine X.block_exit ?_ | refine C.zt ?_ | refine C.zf ?_ | refine X.zo ?_)
  have hlen1 : (l.take i ++ [p]).length = (l.take i).length + 1 := by rw [List.length_append]; rfl
  refine R.app (xs := pls (l.take i)) (news := pls [p]) ttok (fun c => tP (l.take i ++ [p]) c) rfl rfl (dstPl rfl) (SrcA.cells rfl rfl) (asPl _ _ _ (pls_app _ _).symm) rfl rfl rfl rfl rfl rfl (by decide) rfl rfl rfl (by kernel_rfl) hA2 (by show ((l.take i).length + 1) * 56 ≤ _; omega) (by omega) fun cB hB hB2 => ?_
  rw [← hlen1] at hB ⊢
  repeat (first | refine C.seq ?_ | refine C.region ?_ | refine R.zb ttok ?_ | refine R.zu ttok ?_ | refine R.zc ttok ?_ | refine R.za ttok ?_ | refine R.zx ?_ | refine R.zl ttok ?_ | refine R.zs ttok ?_ | refine R.z ttok ?_ | refine R.zk ?_ | refine R.zn ?_ | refine R.done ?_ | refine X.then ?_ | refine C.block ?_ | refine C.ret ?_ | refine C.skip ?_ | refine C.exit ?_ | refine X.pass_ret ?_ | refine X.pass_exit ?_ | refine X.block_normal ?_ | refine X.block_ret ?_ | refine X.block_exit ?_ | refine C.zt ?_ | refine C.zf ?_ | refine X.zo ?_)
  refine R.sl ttok (i + ins) l.length rfl rfl rfl rfl rfl rfl (by kernel_rfl) ⟨_, _, rfl, by omega⟩ rfl (by omega) (by omega) fun o2 ho2 => ?_
  have hw : withP l i ins p = (l.take i ++ [p]) ++ l.drop (i + ins) := by unfold withP; rw [List.append_assoc]; rfl
  have hdl : (l.drop (i + ins)).length = l.length - (i + ins) := List.length_drop
  have hlen2 : (withP l i ins p).length = (l.take i ++ [p]).length + (l.length - (i + ins)) := by rw [hw, List.length_append, hdl]
  refine R.app (xs := pls (l.take i ++ [p])) (news := pls (l.drop (i + ins))) ttok (fun c => tP (withP l i ins p) c) rfl rfl (dstPl rfl) (srcPlRj rfl hi (by kernel_rfl) ho2) (asPl _ _ _ (by rw [hw]; exact (pls_app _ _).symm)) rfl rfl rfl rfl rfl rfl (by decide) (pls_one _) (by rw [pls_len, hdl]) rfl (by kernel_rfl) hB2 (by show ((l.take i ++ [p]).length + (l.length - (i + ins))) * 56 ≤ _; omega) (by omega) fun cC hC hC2 => ?_
  rw [← hlen2] at hC ⊢
  repeat (first | refine C.seq ?_ | refine C.region ?_ | refine R.zb ttok ?_ | refine R.zu ttok ?_ | refine R.zc ttok ?_ | refine R.za ttok ?_ | refine R.zx ?_ | refine R.zl ttok ?_ | refine R.zs ttok ?_ | refine R.z ttok ?_ | refine R.zk ?_ | refine R.zn ?_ | refine R.done ?_ | refine X.then ?_ | refine C.block ?_ | refine C.ret ?_ | refine C.skip ?_ | refine C.exit ?_ | refine X.pass_ret ?_ | refine X.pass_exit ?_ | refine X.block_normal ?_ | refine X.block_ret ?_ | refine X.block_exit ?_ | refine C.zt ?_ | refine C.zf ?_ | refine X.zo ?_)
  refine X.fin ttok cC [(1, 8)] ⟨hC, hC2⟩ rfl rfl rfl (by repeat (first | exact HasH.nil | refine HasH.same rfl rfl rfl trivial ?_ | refine HasH.same rfl rfl rfl rfl ?_ | refine HasH.same rfl rfl rfl (fun _ _ => rfl) ?_ | refine HasH.ros rfl rfl ?_)) _ (by first | exact .inl rfl | exact .inr rfl)
end
structure Rf where
  a : Option Nat
  c : Nat
  ob : Obj
  l : PL
structure Rf.ok (r : Rf) : Prop where
  nl : r.a = none → r.l = []
  is : ∀ b, r.a = some b → Is b r.ob (roP r.l)
  le : r.l.length ≤ r.c
  cap : r.c ≤ 9223372036854775807
def rF (r : Rf) : Fam := optF false r.a r.ob
theorem rF_ro (r : Rf) : ∀ p ∈ rF r, p.rw = false := fun p hp => by
  unfold rF optF at hp
  split at hp
  · cases hp
  · obtain rfl : p = _ := by simpa using hp
    rfl
abbrev Rf.s (r : Rf) : Value := slV r.a r.l.length r.c
abbrev Rf.v (r : Rf) (mk : Bool) : AV := .agg [.raw r.s, .raw (.bool mk)]
def Rf.nil : Rf := ⟨none, 0, default, []⟩
theorem Rf.nil_ok : Rf.nil.ok := ⟨fun _ => rfl, fun b h => (by cases h), Nat.le_refl _, (by decide)⟩
theorem plF_bd (l : PL) (L m : Nat) : ∀ i, i < m → AV.bds L (plF l i) = true := fun _ _ => rfl
section
variable {E : Base} {ρ : Env} {n L : Nat} {τ : List (Nat × AV)} {h : List (Nat × AO)} {F : World → Prop} {a : Act} {w : World} {h0 : List AO} {ρ0 : Env} {w0 : World} {fs0 fs : Fam}
theorem Gam.twice {t : Nat} {u v : AV} (g : Gam E ρ n L ((t, v) :: (t, u) :: τ) h F a w) : Gam E ρ n L ((t, v) :: τ) h F a w :=
  ⟨g.df, g.sz, fun s y hy => g.tm s y (by
    rw [lk_cons] at hy ⊢
    split at hy
    · rename_i e; rw [if_pos e]; exact hy
    · rename_i e; rw [if_neg e, lk_cons, if_neg e]; exact hy), g.hp, g.dis, g.fr, g.ex, g.le, g.al⟩
/-- a list's label becomes a fact; slot t holds the list and more -/
theorem Gam.frzR (g : Gam E ρ n L τ h (FF h0 ρ0 w0 fs0 fs) a w) (t l : Nat) {cap c : Nat} {p : PL} {T : TypeId} {x : Value} (hl : hk l h = some (.tab 7 p.length cap (plF p) T)) (hv : lk t τ = some (.agg [.sl l 7 0 p.length c, .raw x])) :
    ∃ y : Option Nat × Obj, ∃ ρ', ((y.1 = none → p = []) ∧ ∀ b, y.1 = some b → Is b y.2 (roP p)) ∧ Gam E ρ' n L ((t, .agg [.raw (slV y.1 p.length c), .raw x]) :: τ) ((l, .gone) :: h) (FF h0 ρ0 w0 fs0 (optF false y.1 y.2 ++ fs)) a w := by
  have hh := (g.hp l _ hl).2.2
  cases hx : ρ l with
  | none =>
    refine ⟨(none, default), ρ, ⟨fun _ => ?_, fun b hb => by cases hb⟩, (g.retell t (v' := .agg [.raw (slV none p.length c), .raw x]) hv (by simp [AV.conc, AV.concs, hx]) rfl).drop hk_dropped⟩
    obtain ⟨h1, _, ⟨_, h2⟩ | ⟨b, cur, h2, _⟩⟩ := hh
    · exact List.length_eq_zero_iff.1 (by omega)
    · rw [hx] at h2; cases h2
  | some b =>
    obtain ⟨y, ρ', ⟨h1, h2⟩, h3⟩ := g.frz false t l (o' := roP p) (fun b => .agg #[.slice (some ⟨b, 0, none⟩) p.length c, x]) hl rfl hv (by rw [hx]; simp) (fun ρ b hb => by simp [AV.conc, AV.concs, hb]) (fun b ob w' hb hw h ρ2 w2 hw2 => by
      obtain ⟨_, _, ⟨h4, _⟩ | ⟨b', cur, h4, h5, h6, h7⟩⟩ := h
      · cases h4
      · cases h4
        rw [hw] at h5
        cases h5
        refine .inr ⟨b, cur, T, _, rfl, hw2, fun i c x hi hx => ?_⟩
        have := h7 i c x hi hx
        rw [Nat.zero_add, this]
        have hx2 : x ∈ plF p i := List.mem_of_getElem? hx
        unfold plF plA slA at hx2
        simp only [List.mem_cons, List.not_mem_nil, or_false] at hx2
        rcases hx2 with rfl | rfl | rfl | rfl | rfl | rfl | rfl <;> rfl)
    refine ⟨(some y.1, y.2), ρ', ⟨fun e => (by cases e), fun b hb => by cases hb; exact h1⟩, ?_⟩
    exact (h3.retell t (v := .raw (.agg #[.slice (some ⟨y.1, 0, none⟩) p.length c, x])) (v' := .agg [.raw (slV (some y.1) p.length c), .raw x]) (by rw [lk_cons, if_pos rfl]) rfl rfl).twice
end
section
variable {P : Program} {ops : Array Oper} {Q : Exit → Act → World → Prop} {D : Option DD} {E : Base} {n L : Nat} {τ : List (Nat × AV)} {h : List (Nat × AO)} {rest : List Oper} {H0 : List AO} {R0 : Env} {W0 : World} {FS0 fs : Fam}
theorem R.frzR (t l : Nat) {cap c : Nat} {p : PL} {T : TypeId} {mk : Bool} (hl : hk l h = some (.tab 7 p.length cap (plF p) T)) (hv : lk t τ = some (.agg [.sl l 7 0 p.length c, .raw (.bool mk)])) (hc : p.length ≤ c) (hc2 : c ≤ 9223372036854775807)
    (k : ∀ r : Rf, r.ok → r.l = p → R P ops Q none E n L ((t, r.v mk) :: τ) ((l, .gone) :: h) (FF H0 R0 W0 FS0 (rF r ++ fs)) rest) : R P ops Q none E n L τ h (FF H0 R0 W0 FS0 fs) rest :=
  R.again L (fun x : Option Nat × Obj => (t, .agg [.raw (slV x.1 p.length c), .raw (.bool mk)]) :: τ) (fun _ => (l, .gone) :: h) (fun x => FF H0 R0 W0 FS0 (optF false x.1 x.2 ++ fs)) (fun x => (x.1 = none → p = []) ∧ ∀ b, x.1 = some b → Is b x.2 (roP p))
    (fun ρ a w g => g.frzR t l hl hv) (fun x hx => k ⟨x.1, c, x.2, p⟩ ⟨hx.1, hx.2, hc, hc2⟩ rfl)
theorem rF_mem {r : Rf} (hm : ∀ p ∈ rF r, p ∈ fs) : ∀ p ∈ optF false r.a r.ob, ∃ q ∈ fs, q.b = p.b ∧ q.ob = p.ob := fun p hp => ⟨p, hm p hp, rfl, rfl⟩
theorem roP_none {r : Rf} (hr : r.ok) (e : r.a = none) (ρ : Env) (W : World) : (roP r.l).holds ρ none W := by
  rw [hr.nl e]
  exact .inl ⟨rfl, rfl⟩
/-- a store's list gets a label that is only read -/
theorem R.labR (t : Nat) (r : Rf) {x : Value} (hr : r.ok) (hm : ∀ p ∈ rF r, p ∈ fs) (hv : lk t τ = some (.agg [.raw r.s, .raw x])) (k : R P ops Q D E n (L + 1) ((t, .agg [.sl L 7 0 r.l.length r.c, .raw x]) :: τ) ((L, roP r.l) :: h) (FF H0 R0 W0 FS0 fs) rest) : R P ops Q D E n L τ h (FF H0 R0 W0 FS0 fs) rest :=
  R.labO t r.a r.ob (roP r.l) (.agg [.sl L 7 0 r.l.length r.c, .raw x]) hv (rF_mem hm) rfl (fun ρ h => by simp [AV.conc, AV.concs, h]) (by simp [AV.bd, AV.bds, Nat.ble_eq]) hr.is (roP_none hr) (plF_bd _ _ _) k
theorem R.labS (t : Nat) (r : Rf) (hr : r.ok) (hm : ∀ p ∈ rF r, p ∈ fs) (hv : lk t τ = some (.raw r.s)) (k : R P ops Q D E n (L + 1) ((t, .sl L 7 0 r.l.length r.c) :: τ) ((L, roP r.l) :: h) (FF H0 R0 W0 FS0 fs) rest) : R P ops Q D E n L τ h (FF H0 R0 W0 FS0 fs) rest :=
  R.labO t r.a r.ob (roP r.l) (.sl L 7 0 r.l.length r.c) hv (rF_mem hm) rfl (fun ρ h => by simp [AV.conc, h]) (by simp [AV.bd, Nat.ble_eq]) hr.is (roP_none hr) (plF_bd _ _ _) k
end
end Go.Proofs.Yteabncomclgncaa
namespace Go.Proofs.Yteabncomclgncaa
set_option linter.unusedVariables false
set_option linter.unusedSimpArgs false
open Go.RowKit
set_option maxRecDepth 100000
set_option maxHeartbeats 4000000
def putP (l : PL) (k : ByteArray) (v : Int) : PL := withP l (plc l k) (if hasK l k = true then 1 else 0) (k, (if hasK l k = true then slotR l k else newS).lay v true)
def delP (l : PL) (k : ByteArray) (mk : Bool) : PL := if liveR l k = true then (if mk then withP l (plc l k) 1 (k, (slotR l k).lay 0 false) else keptP (withP l (plc l k) 1 (k, (slotR l k).lay 0 false))) else l
section
variable (r : Rf) (mk : Bool) (k : ByteArray)
theorem put_specR (v : Int) (hr : r.ok) (hA : Asc r.l) (hl : r.l.length ≤ 900000) : SpecF Try.prog 60 [r.v mk, .raw (.string k), .raw (.int .i64 v)] [] 0 (rF r) (σ := Rf) (fun r' => r'.ok ∧ r'.l = putP r.l k v) (fun r' => r'.v mk) (fun _ => []) (fun r' => rF r') := by
  refine SpecF.of Try.func60 rfl Try.ntmps60 rfl (bdl_nil _) fun ρ w => ?_
  have hp := plc_le r.l k
  have hle := hr.le
  have hcap := hr.cap
  repeat (first | refine C.seq ?_ | refine C.region ?_ | refine R.zb ttok ?_ | refine R.zu ttok ?_ | refine R.zc ttok ?_ | refine R.za ttok ?_ | refine R.zx ?_ | refine R.zl ttok ?_ | refine R.zs ttok ?_ | refine R.z ttok ?_ | refine R.zk ?_ | refine R.zn ?_ | refine R.done ?_ | refine X.then ?_ | refine C.block ?_ | refine C.ret ?_ | refine C.skip ?_ | refine C.exit ?_ | refine X.pass_ret ?_ | refine X.pass_exit ?_ | refine X.block_normal ?_ | refine X.block_ret ?_ | refine X.block_exit ?_ | refine C.zt ?_ | refine C.zf ?_ | refine X.zo ?_)
  refine R.labR 12 r hr (fun p h => h) rfl ?_
  repeat (first | refine C.seq ?_ | refine C.region ?_ | refine R.zb ttok ?_ | refine R.zu ttok ?_ | refine R.zc ttok ?_ | refine R.za ttok ?_ | refine R.zx ?_ | refine R.zl ttok ?_ | refine R.zs ttok ?_ | refine R.z ttok ?_ | refine R.zk ?_ | refine R.zn ?_ | refine R.done ?_ | refine X.then ?_ | refine C.block ?_ | refine C.ret ?_ | refine C.skip ?_ | refine C.exit ?_ | refine X.pass_ret ?_ | refine X.pass_exit ?_ | refine X.block_normal ?_ | refine X.block_ret ?_ | refine X.block_exit ?_ | refine C.zt ?_ | refine C.zf ?_ | refine X.zo ?_)
  refine R.cl [2] (at_specR r.l r.c mk k hA (by omega)) Try.call83 (by repeat (first | exact HasIn.nil | refine HasIn.same rfl rfl ?_ | refine HasIn.bro rfl ?_ | refine HasIn.ror rfl ?_ | refine HasIn.cro rfl rfl ?_)) rfl rfl rfl (fun _ => rfl) rfl (by kernel_rfl) fun _ _ => ?_
  cases hk : hasK r.l k with
  | false =>
    have e1 : putP r.l k v = withP r.l (plc r.l k) 0 (k, newS.lay v true) := by unfold putP; rw [hk]; rfl
    repeat (first | refine C.seq ?_ | refine C.region ?_ | refine R.zb ttok ?_ | refine R.zu ttok ?_ | refine R.zc ttok ?_ | refine R.za ttok ?_ | refine R.zx ?_ | refine R.zl ttok ?_ | refine R.zs ttok ?_ | refine R.z ttok ?_ | refine R.zk ?_ | refine R.zn ?_ | refine R.done ?_ | refine X.then ?_ | refine C.block ?_ | refine C.ret ?_ | refine C.skip ?_ | refine C.exit ?_ | refine X.pass_ret ?_ | refine X.pass_exit ?_ | refine X.block_normal ?_ | refine X.block_ret ?_ | refine X.block_exit ?_ | refine C.zt ?_ | refine C.zf ?_ | refine X.zo ?_)
    refine R.ixa ttok 1 rfl rfl rfl rfl rfl (by kernel_rfl) rfl (by decide) ?_
    repeat (first | refine C.seq ?_ | refine C.region ?_ | refine R.zb ttok ?_ | refine R.zu ttok ?_ | refine R.zc ttok ?_ | refine R.za ttok ?_ | refine R.zx ?_ | refine R.zl ttok ?_ | refine R.zs ttok ?_ | refine R.z ttok ?_ | refine R.zk ?_ | refine R.zn ?_ | refine R.done ?_ | refine X.then ?_ | refine C.block ?_ | refine C.ret ?_ | refine C.skip ?_ | refine C.exit ?_ | refine X.pass_ret ?_ | refine X.pass_exit ?_ | refine X.block_normal ?_ | refine X.block_ret ?_ | refine X.block_exit ?_ | refine C.zt ?_ | refine C.zf ?_ | refine X.zo ?_)
    refine R.ixa ttok 1 rfl rfl rfl rfl rfl (by kernel_rfl) rfl (by decide) ?_
    repeat (first | refine C.seq ?_ | refine C.region ?_ | refine R.zb ttok ?_ | refine R.zu ttok ?_ | refine R.zc ttok ?_ | refine R.za ttok ?_ | refine R.zx ?_ | refine R.zl ttok ?_ | refine R.zs ttok ?_ | refine R.z ttok ?_ | refine R.zk ?_ | refine R.zn ?_ | refine R.done ?_ | refine X.then ?_ | refine C.block ?_ | refine C.ret ?_ | refine C.skip ?_ | refine C.exit ?_ | refine X.pass_ret ?_ | refine X.pass_exit ?_ | refine X.block_normal ?_ | refine X.block_ret ?_ | refine X.block_exit ?_ | refine C.zt ?_ | refine C.zf ?_ | refine X.zo ?_)
    refine R.labR 37 r hr (fun p h => h) rfl ?_
    refine R.cl [4] (with_specR r.l r.c mk (plc r.l k) 0 (k, newS.lay v true) (by omega) (by omega) hle hcap) Try.call84 (by repeat (first | exact HasIn.nil | refine HasIn.same rfl rfl ?_ | refine HasIn.bro rfl ?_ | refine HasIn.ror rfl ?_ | refine HasIn.cro rfl rfl ?_)) rfl rfl rfl (fun _ => rfl) rfl (by kernel_rfl) fun c' hc' => ?_
    rw [← e1] at hc' ⊢
    refine R.frzR 43 5 rfl rfl hc'.1 hc'.2 fun r' hr' hl' => ?_
    repeat (first | refine C.seq ?_ | refine C.region ?_ | refine R.zb ttok ?_ | refine R.zu ttok ?_ | refine R.zc ttok ?_ | refine R.za ttok ?_ | refine R.zx ?_ | refine R.zl ttok ?_ | refine R.zs ttok ?_ | refine R.z ttok ?_ | refine R.zk ?_ | refine R.zn ?_ | refine R.done ?_ | refine X.then ?_ | refine C.block ?_ | refine C.ret ?_ | refine C.skip ?_ | refine C.exit ?_ | refine X.pass_ret ?_ | refine X.pass_exit ?_ | refine X.block_normal ?_ | refine X.block_ret ?_ | refine X.block_exit ?_ | refine C.zt ?_ | refine C.zf ?_ | refine X.zo ?_)
    refine X.finF ttok r' [] ⟨hr', hl'⟩ rfl rfl rfl (by repeat (first | exact HasH.nil | refine HasH.same rfl rfl rfl trivial ?_ | refine HasH.same rfl rfl rfl rfl ?_ | refine HasH.same rfl rfl rfl (fun _ _ => rfl) ?_ | refine HasH.ros rfl rfl ?_)) _ (by first | exact .inl rfl | exact .inr rfl) ?_ ?_ ?_
    · exact fun w' hf => apf_ro (rF_ro r')
    · exact fun p hp => List.mem_append_left _ hp
    · exact fun p hp e => by rw [rF_ro r p hp] at e; cases e
  | true =>
    have hlt := (hasK_lt hk).1
    obtain ⟨⟨pk, c0, c1, h0, h1, rd, wr⟩, hpp⟩ : ∃ p, r.l.getD (plc r.l k) zG = p := ⟨_, rfl⟩
    have e1 : putP r.l k v = withP r.l (plc r.l k) 1 (k, (⟨c0, c1, h0, h1, rd, wr⟩ : Sl Int).lay v true) := by unfold putP slotR; rw [hk, hpp]; rfl
    repeat (first | refine C.seq ?_ | refine C.region ?_ | refine R.zb ttok ?_ | refine R.zu ttok ?_ | refine R.zc ttok ?_ | refine R.za ttok ?_ | refine R.zx ?_ | refine R.zl ttok ?_ | refine R.zs ttok ?_ | refine R.z ttok ?_ | refine R.zk ?_ | refine R.zn ?_ | refine R.done ?_ | refine X.then ?_ | refine C.block ?_ | refine C.ret ?_ | refine C.skip ?_ | refine C.exit ?_ | refine X.pass_ret ?_ | refine X.pass_exit ?_ | refine X.block_normal ?_ | refine X.block_ret ?_ | refine X.block_exit ?_ | refine C.zt ?_ | refine C.zf ?_ | refine X.zo ?_)
    refine R.labS 20 r hr (fun p h => h) rfl ?_
    refine R.ix ttok (plc r.l k) rfl rfl rfl rfl rfl (by kernel_rfl) rfl hlt (by show _ ≤ _ ∧ _ < _; omega) rfl ?_
    repeat (first | refine C.seq ?_ | refine C.region ?_ | refine R.zb ttok ?_ | refine R.zu ttok ?_ | refine R.zc ttok ?_ | refine R.za ttok ?_ | refine R.zx ?_ | refine R.zl ttok ?_ | refine R.zs ttok ?_ | refine R.z ttok ?_ | refine R.zk ?_ | refine R.zn ?_ | refine R.done ?_ | refine X.then ?_ | refine C.block ?_ | refine C.ret ?_ | refine C.skip ?_ | refine C.exit ?_ | refine X.pass_ret ?_ | refine X.pass_exit ?_ | refine X.block_normal ?_ | refine X.block_ret ?_ | refine X.block_exit ?_ | refine C.zt ?_ | refine C.zf ?_ | refine X.zo ?_)
    refine R.ldo (v := .agg (slA (r.l.getD (plc r.l k) zG).2)) ttok rfl rfl rfl rfl rfl (by kernel_rfl) hlt ?_
    rw [hpp]
    cases wr with
    | false =>
      repeat (first | refine C.seq ?_ | refine C.region ?_ | refine R.zb ttok ?_ | refine R.zu ttok ?_ | refine R.zc ttok ?_ | refine R.za ttok ?_ | refine R.zx ?_ | refine R.zl ttok ?_ | refine R.zs ttok ?_ | refine R.z ttok ?_ | refine R.zk ?_ | refine R.zn ?_ | refine R.done ?_ | refine X.then ?_ | refine C.block ?_ | refine C.ret ?_ | refine C.skip ?_ | refine C.exit ?_ | refine X.pass_ret ?_ | refine X.pass_exit ?_ | refine X.block_normal ?_ | refine X.block_ret ?_ | refine X.block_exit ?_ | refine C.zt ?_ | refine C.zf ?_ | refine X.zo ?_)
      refine R.ixa ttok 0 rfl rfl rfl rfl rfl (by kernel_rfl) rfl (by decide) ?_
      repeat (first | refine C.seq ?_ | refine C.region ?_ | refine R.zb ttok ?_ | refine R.zu ttok ?_ | refine R.zc ttok ?_ | refine R.za ttok ?_ | refine R.zx ?_ | refine R.zl ttok ?_ | refine R.zs ttok ?_ | refine R.z ttok ?_ | refine R.zk ?_ | refine R.zn ?_ | refine R.done ?_ | refine X.then ?_ | refine C.block ?_ | refine C.ret ?_ | refine C.skip ?_ | refine C.exit ?_ | refine X.pass_ret ?_ | refine X.pass_exit ?_ | refine X.block_normal ?_ | refine X.block_ret ?_ | refine X.block_exit ?_ | refine C.zt ?_ | refine C.zf ?_ | refine X.zo ?_)
      refine R.ixa ttok 0 rfl rfl rfl rfl rfl (by kernel_rfl) rfl (by decide) ?_
      repeat (first | refine C.seq ?_ | refine C.region ?_ | refine R.zb ttok ?_ | refine R.zu ttok ?_ | refine R.zc ttok ?_ | refine R.za ttok ?_ | refine R.zx ?_ | refine R.zl ttok ?_ | refine R.zs ttok ?_ | refine R.z ttok ?_ | refine R.zk ?_ | refine R.zn ?_ | refine R.done ?_ | refine X.then ?_ | refine C.block ?_ | refine C.ret ?_ | refine C.skip ?_ | refine C.exit ?_ | refine X.pass_ret ?_ | refine X.pass_exit ?_ | refine X.block_normal ?_ | refine X.block_ret ?_ | refine X.block_exit ?_ | refine C.zt ?_ | refine C.zf ?_ | refine X.zo ?_)
      refine R.labR 37 r hr (fun p h => h) rfl ?_
      refine R.cl [5] (with_specR r.l r.c mk (plc r.l k) 1 (k, (⟨c0, c1, h0, h1, rd, false⟩ : Sl Int).lay v true) (by omega) (by omega) hle hcap) Try.call84 (by repeat (first | exact HasIn.nil | refine HasIn.same rfl rfl ?_ | refine HasIn.bro rfl ?_ | refine HasIn.ror rfl ?_ | refine HasIn.cro rfl rfl ?_)) rfl rfl rfl (fun _ => rfl) rfl (by kernel_rfl) fun c' hc' => ?_
      rw [← e1] at hc' ⊢
      refine R.frzR 43 6 rfl rfl hc'.1 hc'.2 fun r' hr' hl' => ?_
      repeat (first | refine C.seq ?_ | refine C.region ?_ | refine R.zb ttok ?_ | refine R.zu ttok ?_ | refine R.zc ttok ?_ | refine R.za ttok ?_ | refine R.zx ?_ | refine R.zl ttok ?_ | refine R.zs ttok ?_ | refine R.z ttok ?_ | refine R.zk ?_ | refine R.zn ?_ | refine R.done ?_ | refine X.then ?_ | refine C.block ?_ | refine C.ret ?_ | refine C.skip ?_ | refine C.exit ?_ | refine X.pass_ret ?_ | refine X.pass_exit ?_ | refine X.block_normal ?_ | refine X.block_ret ?_ | refine X.block_exit ?_ | refine C.zt ?_ | refine C.zf ?_ | refine X.zo ?_)
      refine X.finF ttok r' [] ⟨hr', hl'⟩ rfl rfl rfl (by repeat (first | exact HasH.nil | refine HasH.same rfl rfl rfl trivial ?_ | refine HasH.same rfl rfl rfl rfl ?_ | refine HasH.same rfl rfl rfl (fun _ _ => rfl) ?_ | refine HasH.ros rfl rfl ?_)) _ (by first | exact .inl rfl | exact .inr rfl) ?_ ?_ ?_
      · exact fun w' hf => apf_ro (rF_ro r')
      · exact fun p hp => List.mem_append_left _ hp
      · exact fun p hp e => by rw [rF_ro r p hp] at e; cases e
    | true =>
      repeat (first | refine C.seq ?_ | refine C.region ?_ | refine R.zb ttok ?_ | refine R.zu ttok ?_ | refine R.zc ttok ?_ | refine R.za ttok ?_ | refine R.zx ?_ | refine R.zl ttok ?_ | refine R.zs ttok ?_ | refine R.z ttok ?_ | refine R.zk ?_ | refine R.zn ?_ | refine R.done ?_ | refine X.then ?_ | refine C.block ?_ | refine C.ret ?_ | refine C.skip ?_ | refine C.exit ?_ | refine X.pass_ret ?_ | refine X.pass_exit ?_ | refine X.block_normal ?_ | refine X.block_ret ?_ | refine X.block_exit ?_ | refine C.zt ?_ | refine C.zf ?_ | refine X.zo ?_)
      refine R.ixa ttok 1 rfl rfl rfl rfl rfl (by kernel_rfl) rfl (by decide) ?_
      repeat (first | refine C.seq ?_ | refine C.region ?_ | refine R.zb ttok ?_ | refine R.zu ttok ?_ | refine R.zc ttok ?_ | refine R.za ttok ?_ | refine R.zx ?_ | refine R.zl ttok ?_ | refine R.zs ttok ?_ | refine R.z ttok ?_ | refine R.zk ?_ | refine R.zn ?_ | refine R.done ?_ | refine X.then ?_ | refine C.block ?_ | refine C.ret ?_ | refine C.skip ?_ | refine C.exit ?_ | refine X.pass_ret ?_ | refine X.pass_exit ?_ | refine X.block_normal ?_ | refine X.block_ret ?_ | refine X.block_exit ?_ | refine C.zt ?_ | refine C.zf ?_ | refine X.zo ?_)
      refine R.ixa ttok 1 rfl rfl rfl rfl rfl (by kernel_rfl) rfl (by decide) ?_
      repeat (first | refine C.seq ?_ | refine C.region ?_ | refine R.zb ttok ?_ | refine R.zu ttok ?_ | refine R.zc ttok ?_ | refine R.za ttok ?_ | refine R.zx ?_ | refine R.zl ttok ?_ | refine R.zs ttok ?_ | refine R.z ttok ?_ | refine R.zk ?_ | refine R.zn ?_ | refine R.done ?_ | refine X.then ?_ | refine C.block ?_ | refine C.ret ?_ | refine C.skip ?_ | refine C.exit ?_ | refine X.pass_ret ?_ | refine X.pass_exit ?_ | refine X.block_normal ?_ | refine X.block_ret ?_ | refine X.block_exit ?_ | refine C.zt ?_ | refine C.zf ?_ | refine X.zo ?_)
      refine R.labR 37 r hr (fun p h => h) rfl ?_
      refine R.cl [5] (with_specR r.l r.c mk (plc r.l k) 1 (k, (⟨c0, c1, h0, h1, rd, true⟩ : Sl Int).lay v true) (by omega) (by omega) hle hcap) Try.call84 (by repeat (first | exact HasIn.nil | refine HasIn.same rfl rfl ?_ | refine HasIn.bro rfl ?_ | refine HasIn.ror rfl ?_ | refine HasIn.cro rfl rfl ?_)) rfl rfl rfl (fun _ => rfl) rfl (by kernel_rfl) fun c' hc' => ?_
      rw [← e1] at hc' ⊢
      refine R.frzR 43 6 rfl rfl hc'.1 hc'.2 fun r' hr' hl' => ?_
      repeat (first | refine C.seq ?_ | refine C.region ?_ | refine R.zb ttok ?_ | refine R.zu ttok ?_ | refine R.zc ttok ?_ | refine R.za ttok ?_ | refine R.zx ?_ | refine R.zl ttok ?_ | refine R.zs ttok ?_ | refine R.z ttok ?_ | refine R.zk ?_ | refine R.zn ?_ | refine R.done ?_ | refine X.then ?_ | refine C.block ?_ | refine C.ret ?_ | refine C.skip ?_ | refine C.exit ?_ | refine X.pass_ret ?_ | refine X.pass_exit ?_ | refine X.block_normal ?_ | refine X.block_ret ?_ | refine X.block_exit ?_ | refine C.zt ?_ | refine C.zf ?_ | refine X.zo ?_)
      refine X.finF ttok r' [] ⟨hr', hl'⟩ rfl rfl rfl (by repeat (first | exact HasH.nil | refine HasH.same rfl rfl rfl trivial ?_ | refine HasH.same rfl rfl rfl rfl ?_ | refine HasH.same rfl rfl rfl (fun _ _ => rfl) ?_ | refine HasH.ros rfl rfl ?_)) _ (by first | exact .inl rfl | exact .inr rfl) ?_ ?_ ?_
      · exact fun w' hf => apf_ro (rF_ro r')
      · exact fun p hp => List.mem_append_left _ hp
      · exact fun p hp e => by rw [rF_ro r p hp] at e; cases e
theorem del_specR (hr : r.ok) (hA : Asc r.l) (hl : r.l.length ≤ 900000) : SpecF Try.prog 61 [r.v mk, .raw (.string k)] [] 0 (rF r) (σ := Rf) (fun r' => r'.ok ∧ r'.l = delP r.l k mk) (fun r' => r'.v mk) (fun _ => []) (fun r' => rF r') := by
  refine SpecF.of Try.func61 rfl Try.ntmps61 rfl (bdl_nil _) fun ρ w => ?_
  have hp := plc_le r.l k
  have hle := hr.le
  have hcap := hr.cap
  repeat (first | refine C.seq ?_ | refine C.region ?_ | refine R.zb ttok ?_ | refine R.zu ttok ?_ | refine R.zc ttok ?_ | refine R.za ttok ?_ | refine R.zx ?_ | refine R.zl ttok ?_ | refine R.zs ttok ?_ | refine R.z ttok ?_ | refine R.zk ?_ | refine R.zn ?_ | refine R.done ?_ | refine X.then ?_ | refine C.block ?_ | refine C.ret ?_ | refine C.skip ?_ | refine C.exit ?_ | refine X.pass_ret ?_ | refine X.pass_exit ?_ | refine X.block_normal ?_ | refine X.block_ret ?_ | refine X.block_exit ?_ | refine C.zt ?_ | refine C.zf ?_ | refine X.zo ?_)
  refine R.labR 9 r hr (fun p h => h) rfl ?_
  repeat (first | refine C.seq ?_ | refine C.region ?_ | refine R.zb ttok ?_ | refine R.zu ttok ?_ | refine R.zc ttok ?_ | refine R.za ttok ?_ | refine R.zx ?_ | refine R.zl ttok ?_ | refine R.zs ttok ?_ | refine R.z ttok ?_ | refine R.zk ?_ | refine R.zn ?_ | refine R.done ?_ | refine X.then ?_ | refine C.block ?_ | refine C.ret ?_ | refine C.skip ?_ | refine C.exit ?_ | refine X.pass_ret ?_ | refine X.pass_exit ?_ | refine X.block_normal ?_ | refine X.block_ret ?_ | refine X.block_exit ?_ | refine C.zt ?_ | refine C.zf ?_ | refine X.zo ?_)
  refine R.cl [2] (at_specR r.l r.c mk k hA (by omega)) Try.call83 (by repeat (first | exact HasIn.nil | refine HasIn.same rfl rfl ?_ | refine HasIn.bro rfl ?_ | refine HasIn.ror rfl ?_ | refine HasIn.cro rfl rfl ?_)) rfl rfl rfl (fun _ => rfl) rfl (by kernel_rfl) fun _ _ => ?_
  cases hk : hasK r.l k with
  | false =>
    have e1 : delP r.l k mk = r.l := by unfold delP liveR; rw [hk]; rfl
    repeat (first | refine C.seq ?_ | refine C.region ?_ | refine R.zb ttok ?_ | refine R.zu ttok ?_ | refine R.zc ttok ?_ | refine R.za ttok ?_ | refine R.zx ?_ | refine R.zl ttok ?_ | refine R.zs ttok ?_ | refine R.z ttok ?_ | refine R.zk ?_ | refine R.zn ?_ | refine R.done ?_ | refine X.then ?_ | refine C.block ?_ | refine C.ret ?_ | refine C.skip ?_ | refine C.exit ?_ | refine X.pass_ret ?_ | refine X.pass_exit ?_ | refine X.block_normal ?_ | refine X.block_ret ?_ | refine X.block_exit ?_ | refine C.zt ?_ | refine C.zf ?_ | refine X.zo ?_)
    refine X.finF ttok r [] ⟨hr, e1.symm⟩ rfl rfl rfl (by repeat (first | exact HasH.nil | refine HasH.same rfl rfl rfl trivial ?_ | refine HasH.same rfl rfl rfl rfl ?_ | refine HasH.same rfl rfl rfl (fun _ _ => rfl) ?_ | refine HasH.ros rfl rfl ?_)) _ (by first | exact .inl rfl | exact .inr rfl) ?_ ?_ ?_
    · exact fun w' hf => apf_ro (rF_ro r)
    · exact fun p hp => by first | exact hp | exact List.mem_append_left _ hp
    · exact fun p hp e => by rw [rF_ro r p hp] at e; cases e
  | true =>
    have hlt := (hasK_lt hk).1
    obtain ⟨⟨pk, c0, c1, h0, h1, rd, wr⟩, hpp⟩ : ∃ p, r.l.getD (plc r.l k) zG = p := ⟨_, rfl⟩
    have hsl : slotR r.l k = ⟨c0, c1, h0, h1, rd, wr⟩ := by unfold slotR; rw [hpp]
    have hlv : liveR r.l k = (⟨c0, c1, h0, h1, rd, wr⟩ : Sl Int).live := by unfold liveR; rw [if_pos hk, hsl]
    repeat (first | refine C.seq ?_ | refine C.region ?_ | refine R.zb ttok ?_ | refine R.zu ttok ?_ | refine R.zc ttok ?_ | refine R.za ttok ?_ | refine R.zx ?_ | refine R.zl ttok ?_ | refine R.zs ttok ?_ | refine R.z ttok ?_ | refine R.zk ?_ | refine R.zn ?_ | refine R.done ?_ | refine X.then ?_ | refine C.block ?_ | refine C.ret ?_ | refine C.skip ?_ | refine C.exit ?_ | refine X.pass_ret ?_ | refine X.pass_exit ?_ | refine X.block_normal ?_ | refine X.block_ret ?_ | refine X.block_exit ?_ | refine C.zt ?_ | refine C.zf ?_ | refine X.zo ?_)
    refine R.labS 18 r hr (fun p h => h) rfl ?_
    repeat (first | refine C.seq ?_ | refine C.region ?_ | refine R.zb ttok ?_ | refine R.zu ttok ?_ | refine R.zc ttok ?_ | refine R.za ttok ?_ | refine R.zx ?_ | refine R.zl ttok ?_ | refine R.zs ttok ?_ | refine R.z ttok ?_ | refine R.zk ?_ | refine R.zn ?_ | refine R.done ?_ | refine X.then ?_ | refine C.block ?_ | refine C.ret ?_ | refine C.skip ?_ | refine C.exit ?_ | refine X.pass_ret ?_ | refine X.pass_exit ?_ | refine X.block_normal ?_ | refine X.block_ret ?_ | refine X.block_exit ?_ | refine C.zt ?_ | refine C.zf ?_ | refine X.zo ?_)
    refine R.ix ttok (plc r.l k) rfl rfl rfl rfl rfl (by kernel_rfl) rfl hlt (by show _ ≤ _ ∧ _ < _; omega) rfl ?_
    repeat (first | refine C.seq ?_ | refine C.region ?_ | refine R.zb ttok ?_ | refine R.zu ttok ?_ | refine R.zc ttok ?_ | refine R.za ttok ?_ | refine R.zx ?_ | refine R.zl ttok ?_ | refine R.zs ttok ?_ | refine R.z ttok ?_ | refine R.zk ?_ | refine R.zn ?_ | refine R.done ?_ | refine X.then ?_ | refine C.block ?_ | refine C.ret ?_ | refine C.skip ?_ | refine C.exit ?_ | refine X.pass_ret ?_ | refine X.pass_exit ?_ | refine X.block_normal ?_ | refine X.block_ret ?_ | refine X.block_exit ?_ | refine C.zt ?_ | refine C.zf ?_ | refine X.zo ?_)
    refine R.ldo (v := .agg (slA (r.l.getD (plc r.l k) zG).2)) ttok rfl rfl rfl rfl rfl (by kernel_rfl) hlt ?_
    rw [hpp]
    refine R.cl [] (has_specR ⟨c0, c1, h0, h1, rd, wr⟩) Try.call85 (by repeat (first | exact HasIn.nil | refine HasIn.same rfl rfl ?_ | refine HasIn.bro rfl ?_ | refine HasIn.ror rfl ?_ | refine HasIn.cro rfl rfl ?_)) rfl rfl rfl (fun _ => rfl) rfl (by kernel_rfl) fun _ _ => ?_
    cases hv : (⟨c0, c1, h0, h1, rd, wr⟩ : Sl Int).live with
    | false =>
      rw [hv] at hlv
      have e1 : delP r.l k mk = r.l := by unfold delP; rw [hlv]; rfl
      repeat (first | refine C.seq ?_ | refine C.region ?_ | refine R.zb ttok ?_ | refine R.zu ttok ?_ | refine R.zc ttok ?_ | refine R.za ttok ?_ | refine R.zx ?_ | refine R.zl ttok ?_ | refine R.zs ttok ?_ | refine R.z ttok ?_ | refine R.zk ?_ | refine R.zn ?_ | refine R.done ?_ | refine X.then ?_ | refine C.block ?_ | refine C.ret ?_ | refine C.skip ?_ | refine C.exit ?_ | refine X.pass_ret ?_ | refine X.pass_exit ?_ | refine X.block_normal ?_ | refine X.block_ret ?_ | refine X.block_exit ?_ | refine C.zt ?_ | refine C.zf ?_ | refine X.zo ?_)
      refine X.finF ttok r [] ⟨hr, e1.symm⟩ rfl rfl rfl (by repeat (first | exact HasH.nil | refine HasH.same rfl rfl rfl trivial ?_ | refine HasH.same rfl rfl rfl rfl ?_ | refine HasH.same rfl rfl rfl (fun _ _ => rfl) ?_ | refine HasH.ros rfl rfl ?_)) _ (by first | exact .inl rfl | exact .inr rfl) ?_ ?_ ?_
      · exact fun w' hf => apf_ro (rF_ro r)
      · exact fun p hp => by first | exact hp | exact List.mem_append_left _ hp
      · exact fun p hp e => by rw [rF_ro r p hp] at e; cases e
    | true =>
      rw [hv] at hlv
      have e1 : delP r.l k mk = if mk then withP r.l (plc r.l k) 1 (k, (⟨c0, c1, h0, h1, rd, wr⟩ : Sl Int).lay 0 false) else keptP (withP r.l (plc r.l k) 1 (k, (⟨c0, c1, h0, h1, rd, wr⟩ : Sl Int).lay 0 false)) := by unfold delP; rw [if_pos hlv, hsl]
      repeat (first | refine C.seq ?_ | refine C.region ?_ | refine R.zb ttok ?_ | refine R.zu ttok ?_ | refine R.zc ttok ?_ | refine R.za ttok ?_ | refine R.zx ?_ | refine R.zl ttok ?_ | refine R.zs ttok ?_ | refine R.z ttok ?_ | refine R.zk ?_ | refine R.zn ?_ | refine R.done ?_ | refine X.then ?_ | refine C.block ?_ | refine C.ret ?_ | refine C.skip ?_ | refine C.exit ?_ | refine X.pass_ret ?_ | refine X.pass_exit ?_ | refine X.block_normal ?_ | refine X.block_ret ?_ | refine X.block_exit ?_ | refine C.zt ?_ | refine C.zf ?_ | refine X.zo ?_)
      refine R.labS 28 r hr (fun p h => h) rfl ?_
      repeat (first | refine C.seq ?_ | refine C.region ?_ | refine R.zb ttok ?_ | refine R.zu ttok ?_ | refine R.zc ttok ?_ | refine R.za ttok ?_ | refine R.zx ?_ | refine R.zl ttok ?_ | refine R.zs ttok ?_ | refine R.z ttok ?_ | refine R.zk ?_ | refine R.zn ?_ | refine R.done ?_ | refine X.then ?_ | refine C.block ?_ | refine C.ret ?_ | refine C.skip ?_ | refine C.exit ?_ | refine X.pass_ret ?_ | refine X.pass_exit ?_ | refine X.block_normal ?_ | refine X.block_ret ?_ | refine X.block_exit ?_ | refine C.zt ?_ | refine C.zf ?_ | refine X.zo ?_)
      refine R.ix ttok (plc r.l k) rfl rfl rfl rfl rfl (by kernel_rfl) rfl hlt (by show _ ≤ _ ∧ _ < _; omega) rfl ?_
      repeat (first | refine C.seq ?_ | refine C.region ?_ | refine R.zb ttok ?_ | refine R.zu ttok ?_ | refine R.zc ttok ?_ | refine R.za ttok ?_ | refine R.zx ?_ | refine R.zl ttok ?_ | refine R.zs ttok ?_ | refine R.z ttok ?_ | refine R.zk ?_ | refine R.zn ?_ | refine R.done ?_ | refine X.then ?_ | refine C.block ?_ | refine C.ret ?_ | refine C.skip ?_ | refine C.exit ?_ | refine X.pass_ret ?_ | refine X.pass_exit ?_ | refine X.block_normal ?_ | refine X.block_ret ?_ | refine X.block_exit ?_ | refine C.zt ?_ | refine C.zf ?_ | refine X.zo ?_)
      refine R.ldo (v := .agg (slA (r.l.getD (plc r.l k) zG).2)) ttok rfl rfl rfl rfl rfl (by kernel_rfl) hlt ?_
      rw [hpp]
      cases wr with
      | false =>
        repeat (first | refine C.seq ?_ | refine C.region ?_ | refine R.zb ttok ?_ | refine R.zu ttok ?_ | refine R.zc ttok ?_ | refine R.za ttok ?_ | refine R.zx ?_ | refine R.zl ttok ?_ | refine R.zs ttok ?_ | refine R.z ttok ?_ | refine R.zk ?_ | refine R.zn ?_ | refine R.done ?_ | refine X.then ?_ | refine C.block ?_ | refine C.ret ?_ | refine C.skip ?_ | refine C.exit ?_ | refine X.pass_ret ?_ | refine X.pass_exit ?_ | refine X.block_normal ?_ | refine X.block_ret ?_ | refine X.block_exit ?_ | refine C.zt ?_ | refine C.zf ?_ | refine X.zo ?_)
        refine R.ixa ttok 0 rfl rfl rfl rfl rfl (by kernel_rfl) rfl (by decide) ?_
        repeat (first | refine C.seq ?_ | refine C.region ?_ | refine R.zb ttok ?_ | refine R.zu ttok ?_ | refine R.zc ttok ?_ | refine R.za ttok ?_ | refine R.zx ?_ | refine R.zl ttok ?_ | refine R.zs ttok ?_ | refine R.z ttok ?_ | refine R.zk ?_ | refine R.zn ?_ | refine R.done ?_ | refine X.then ?_ | refine C.block ?_ | refine C.ret ?_ | refine C.skip ?_ | refine C.exit ?_ | refine X.pass_ret ?_ | refine X.pass_exit ?_ | refine X.block_normal ?_ | refine X.block_ret ?_ | refine X.block_exit ?_ | refine C.zt ?_ | refine C.zf ?_ | refine X.zo ?_)
        refine R.ixa ttok 0 rfl rfl rfl rfl rfl (by kernel_rfl) rfl (by decide) ?_
        repeat (first | refine C.seq ?_ | refine C.region ?_ | refine R.zb ttok ?_ | refine R.zu ttok ?_ | refine R.zc ttok ?_ | refine R.za ttok ?_ | refine R.zx ?_ | refine R.zl ttok ?_ | refine R.zs ttok ?_ | refine R.z ttok ?_ | refine R.zk ?_ | refine R.zn ?_ | refine R.done ?_ | refine X.then ?_ | refine C.block ?_ | refine C.ret ?_ | refine C.skip ?_ | refine C.exit ?_ | refine X.pass_ret ?_ | refine X.pass_exit ?_ | refine X.block_normal ?_ | refine X.block_ret ?_ | refine X.block_exit ?_ | refine C.zt ?_ | refine C.zf ?_ | refine X.zo ?_)
        refine R.labR 44 r hr (fun p h => h) rfl ?_
        refine R.cl [6] (with_specR r.l r.c mk (plc r.l k) 1 (k, (⟨c0, c1, h0, h1, rd, false⟩ : Sl Int).lay 0 false) (by omega) (by omega) hle hcap) Try.call84 (by repeat (first | exact HasIn.nil | refine HasIn.same rfl rfl ?_ | refine HasIn.bro rfl ?_ | refine HasIn.ror rfl ?_ | refine HasIn.cro rfl rfl ?_)) rfl rfl rfl (fun _ => rfl) rfl (by kernel_rfl) fun c' hc' => ?_
        refine R.frzR 49 7 rfl rfl hc'.1 hc'.2 fun r1 hr1 hl1 => ?_
        have hwl := withP_len (p := (k, (⟨c0, c1, h0, h1, rd, false⟩ : Sl Int).lay 0 false)) (show plc r.l k + 1 ≤ r.l.length by omega)
        rw [← hl1] at hwl e1
        cases mk with
        | true =>
          rw [if_pos rfl] at e1
          repeat (first | refine C.seq ?_ | refine C.region ?_ | refine R.zb ttok ?_ | refine R.zu ttok ?_ | refine R.zc ttok ?_ | refine R.za ttok ?_ | refine R.zx ?_ | refine R.zl ttok ?_ | refine R.zs ttok ?_ | refine R.z ttok ?_ | refine R.zk ?_ | refine R.zn ?_ | refine R.done ?_ | refine X.then ?_ | refine C.block ?_ | refine C.ret ?_ | refine C.skip ?_ | refine C.exit ?_ | refine X.pass_ret ?_ | refine X.pass_exit ?_ | refine X.block_normal ?_ | refine X.block_ret ?_ | refine X.block_exit ?_ | refine C.zt ?_ | refine C.zf ?_ | refine X.zo ?_)
          refine X.finF ttok r1 [] ⟨hr1, e1.symm⟩ rfl rfl rfl (by repeat (first | exact HasH.nil | refine HasH.same rfl rfl rfl trivial ?_ | refine HasH.same rfl rfl rfl rfl ?_ | refine HasH.same rfl rfl rfl (fun _ _ => rfl) ?_ | refine HasH.ros rfl rfl ?_)) _ (by first | exact .inl rfl | exact .inr rfl) ?_ ?_ ?_
          · exact fun w' hf => apf_ro (rF_ro r1)
          · exact fun p hp => by first | exact hp | exact List.mem_append_left _ hp
          · exact fun p hp e => by rw [rF_ro r p hp] at e; cases e
        | false =>
          rw [if_neg (by decide)] at e1
          repeat (first | refine C.seq ?_ | refine C.region ?_ | refine R.zb ttok ?_ | refine R.zu ttok ?_ | refine R.zc ttok ?_ | refine R.za ttok ?_ | refine R.zx ?_ | refine R.zl ttok ?_ | refine R.zs ttok ?_ | refine R.z ttok ?_ | refine R.zk ?_ | refine R.zn ?_ | refine R.done ?_ | refine X.then ?_ | refine C.block ?_ | refine C.ret ?_ | refine C.skip ?_ | refine C.exit ?_ | refine X.pass_ret ?_ | refine X.pass_exit ?_ | refine X.block_normal ?_ | refine X.block_ret ?_ | refine X.block_exit ?_ | refine C.zt ?_ | refine C.zf ?_ | refine X.zo ?_)
          refine R.labR 53 r1 hr1 (fun p h => List.mem_append_left _ h) rfl ?_
          refine R.cl [8] (kept_specR r1.l r1.c false (by omega)) Try.call86 (by repeat (first | exact HasIn.nil | refine HasIn.same rfl rfl ?_ | refine HasIn.bro rfl ?_ | refine HasIn.ror rfl ?_ | refine HasIn.cro rfl rfl ?_)) rfl rfl rfl (fun _ => rfl) rfl (by kernel_rfl) fun c2 hc2 => ?_
          refine R.frzR 54 9 rfl rfl hc2.1 hc2.2 fun r2 hr2 hl2 => ?_
          repeat (first | refine C.seq ?_ | refine C.region ?_ | refine R.zb ttok ?_ | refine R.zu ttok ?_ | refine R.zc ttok ?_ | refine R.za ttok ?_ | refine R.zx ?_ | refine R.zl ttok ?_ | refine R.zs ttok ?_ | refine R.z ttok ?_ | refine R.zk ?_ | refine R.zn ?_ | refine R.done ?_ | refine X.then ?_ | refine C.block ?_ | refine C.ret ?_ | refine C.skip ?_ | refine C.exit ?_ | refine X.pass_ret ?_ | refine X.pass_exit ?_ | refine X.block_normal ?_ | refine X.block_ret ?_ | refine X.block_exit ?_ | refine C.zt ?_ | refine C.zf ?_ | refine X.zo ?_)
          refine X.finF ttok r2 [] ⟨hr2, by rw [hl2]; exact e1.symm⟩ rfl rfl rfl (by repeat (first | exact HasH.nil | refine HasH.same rfl rfl rfl trivial ?_ | refine HasH.same rfl rfl rfl rfl ?_ | refine HasH.same rfl rfl rfl (fun _ _ => rfl) ?_ | refine HasH.ros rfl rfl ?_)) _ (by first | exact .inl rfl | exact .inr rfl) ?_ ?_ ?_
          · exact fun w' hf => apf_ro (rF_ro r2)
          · exact fun p hp => by first | exact hp | exact List.mem_append_left _ hp
          · exact fun p hp e => by rw [rF_ro r p hp] at e; cases e
      | true =>
        repeat (first | refine C.seq ?_ | refine C.region ?_ | refine R.zb ttok ?_ | refine R.zu ttok ?_ | refine R.zc ttok ?_ | refine R.za ttok ?_ | refine R.zx ?_ | refine R.zl ttok ?_ | refine R.zs ttok ?_ | refine R.z ttok ?_ | refine R.zk ?_ | refine R.zn ?_ | refine R.done ?_ | refine X.then ?_ | refine C.block ?_ | refine C.ret ?_ | refine C.skip ?_ | refine C.exit ?_ | refine X.pass_ret ?_ | refine X.pass_exit ?_ | refine X.block_normal ?_ | refine X.block_ret ?_ | refine X.block_exit ?_ | refine C.zt ?_ | refine C.zf ?_ | refine X.zo ?_)
        refine R.ixa ttok 1 rfl rfl rfl rfl rfl (by kernel_rfl) rfl (by decide) ?_
        repeat (first | refine C.seq ?_ | refine C.region ?_ | refine R.zb ttok ?_ | refine R.zu ttok ?_ | refine R.zc ttok ?_ | refine R.za ttok ?_ | refine R.zx ?_ | refine R.zl ttok ?_ | refine R.zs ttok ?_ | refine R.z ttok ?_ | refine R.zk ?_ | refine R.zn ?_ | refine R.done ?_ | refine X.then ?_ | refine C.block ?_ | refine C.ret ?_ | refine C.skip ?_ | refine C.exit ?_ | refine X.pass_ret ?_ | refine X.pass_exit ?_ | refine X.block_normal ?_ | refine X.block_ret ?_ | refine X.block_exit ?_ | refine C.zt ?_ | refine C.zf ?_ | refine X.zo ?_)
        refine R.ixa ttok 1 rfl rfl rfl rfl rfl (by kernel_rfl) rfl (by decide) ?_
        repeat (first | refine C.seq ?_ | refine C.region ?_ | refine R.zb ttok ?_ | refine R.zu ttok ?_ | refine R.zc ttok ?_ | refine R.za ttok ?_ | refine R.zx ?_ | refine R.zl ttok ?_ | refine R.zs ttok ?_ | refine R.z ttok ?_ | refine R.zk ?_ | refine R.zn ?_ | refine R.done ?_ | refine X.then ?_ | refine C.block ?_ | refine C.ret ?_ | refine C.skip ?_ | refine C.exit ?_ | refine X.pass_ret ?_ | refine X.pass_exit ?_ | refine X.block_normal ?_ | refine X.block_ret ?_ | refine X.block_exit ?_ | refine C.zt ?_ | refine C.zf ?_ | refine X.zo ?_)
        refine R.labR 44 r hr (fun p h => h) rfl ?_
        refine R.cl [6] (with_specR r.l r.c mk (plc r.l k) 1 (k, (⟨c0, c1, h0, h1, rd, true⟩ : Sl Int).lay 0 false) (by omega) (by omega) hle hcap) Try.call84 (by repeat (first | exact HasIn.nil | refine HasIn.same rfl rfl ?_ | refine HasIn.bro rfl ?_ | refine HasIn.ror rfl ?_ | refine HasIn.cro rfl rfl ?_)) rfl rfl rfl (fun _ => rfl) rfl (by kernel_rfl) fun c' hc' => ?_
        refine R.frzR 49 7 rfl rfl hc'.1 hc'.2 fun r1 hr1 hl1 => ?_
        have hwl := withP_len (p := (k, (⟨c0, c1, h0, h1, rd, true⟩ : Sl Int).lay 0 false)) (show plc r.l k + 1 ≤ r.l.length by omega)
        rw [← hl1] at hwl e1
        cases mk with
        | true =>
          rw [if_pos rfl] at e1
          repeat (first | refine C.seq ?_ | refine C.region ?_ | refine R.zb ttok ?_ | refine R.zu ttok ?_ | refine R.zc ttok ?_ | refine R.za ttok ?_ | refine R.zx ?_ | refine R.zl ttok ?_ | refine R.zs ttok ?_ | refine R.z ttok ?_ | refine R.zk ?_ | refine R.zn ?_ | refine R.done ?_ | refine X.then ?_ | refine C.block ?_ | refine C.ret ?_ | refine C.skip ?_ | refine C.exit ?_ | refine X.pass_ret ?_ | refine X.pass_exit ?_ | refine X.block_normal ?_ | refine X.block_ret ?_ | refine X.block_exit ?_ | refine C.zt ?_ | refine C.zf ?_ | refine X.zo ?_)
          refine X.finF ttok r1 [] ⟨hr1, e1.symm⟩ rfl rfl rfl (by repeat (first | exact HasH.nil | refine HasH.same rfl rfl rfl trivial ?_ | refine HasH.same rfl rfl rfl rfl ?_ | refine HasH.same rfl rfl rfl (fun _ _ => rfl) ?_ | refine HasH.ros rfl rfl ?_)) _ (by first | exact .inl rfl | exact .inr rfl) ?_ ?_ ?_
          · exact fun w' hf => apf_ro (rF_ro r1)
          · exact fun p hp => by first | exact hp | exact List.mem_append_left _ hp
          · exact fun p hp e => by rw [rF_ro r p hp] at e; cases e
        | false =>
          rw [if_neg (by decide)] at e1
          repeat (first | refine C.seq ?_ | refine C.region ?_ | refine R.zb ttok ?_ | refine R.zu ttok ?_ | refine R.zc ttok ?_ | refine R.za ttok ?_ | refine R.zx ?_ | refine R.zl ttok ?_ | refine R.zs ttok ?_ | refine R.z ttok ?_ | refine R.zk ?_ | refine R.zn ?_ | refine R.done ?_ | refine X.then ?_ | refine C.block ?_ | refine C.ret ?_ | refine C.skip ?_ | refine C.exit ?_ | refine X.pass_ret ?_ | refine X.pass_exit ?_ | refine X.block_normal ?_ | refine X.block_ret ?_ | refine X.block_exit ?_ | refine C.zt ?_ | refine C.zf ?_ | refine X.zo ?_)
          refine R.labR 53 r1 hr1 (fun p h => List.mem_append_left _ h) rfl ?_
          refine R.cl [8] (kept_specR r1.l r1.c false (by omega)) Try.call86 (by repeat (first | exact HasIn.nil | refine HasIn.same rfl rfl ?_ | refine HasIn.bro rfl ?_ | refine HasIn.ror rfl ?_ | refine HasIn.cro rfl rfl ?_)) rfl rfl rfl (fun _ => rfl) rfl (by kernel_rfl) fun c2 hc2 => ?_
          refine R.frzR 54 9 rfl rfl hc2.1 hc2.2 fun r2 hr2 hl2 => ?_
          repeat (first | refine C.seq ?_ | refine C.region ?_ | refine R.zb ttok ?_ | refine R.zu ttok ?_ | refine R.zc ttok ?_ | refine R.za ttok ?_ | refine R.zx ?_ | refine R.zl ttok ?_ | refine R.zs ttok ?_ | refine R.z ttok ?_ | refine R.zk ?_ | refine R.zn ?_ | refine R.done ?_ | refine X.then ?_ | refine C.block ?_ | refine C.ret ?_ | refine C.skip ?_ | refine C.exit ?_ | refine X.pass_ret ?_ | refine X.pass_exit ?_ | refine X.block_normal ?_ | refine X.block_ret ?_ | refine X.block_exit ?_ | refine C.zt ?_ | refine C.zf ?_ | refine X.zo ?_)
          refine X.finF ttok r2 [] ⟨hr2, by rw [hl2]; exact e1.symm⟩ rfl rfl rfl (by repeat (first | exact HasH.nil | refine HasH.same rfl rfl rfl trivial ?_ | refine HasH.same rfl rfl rfl rfl ?_ | refine HasH.same rfl rfl rfl (fun _ _ => rfl) ?_ | refine HasH.ros rfl rfl ?_)) _ (by first | exact .inl rfl | exact .inr rfl) ?_ ?_ ?_
          · exact fun w' hf => apf_ro (rF_ro r2)
          · exact fun p hp => by first | exact hp | exact List.mem_append_left _ hp
          · exact fun p hp e => by rw [rF_ro r p hp] at e; cases e
theorem done_specR (hr : r.ok) (hl : r.l.length ≤ 900000) : SpecF Try.prog 63 [r.v mk] [] 0 (rF r) (σ := Rf) (fun r' => r'.ok ∧ r'.l = if mk then keptP r.l else r.l) (fun r' => .tup [r'.v false, .raw (.int .i64 (if mk then 0 else 19))]) (fun _ => []) (fun r' => rF r') := by
  refine SpecF.of Try.func63 rfl Try.ntmps63 rfl (bdl_nil _) fun ρ w => ?_
  have hle := hr.le
  have hcap := hr.cap
  cases mk with
  | false =>
    repeat (first | refine C.seq ?_ | refine C.region ?_ | refine R.zb ttok ?_ | refine R.zu ttok ?_ | refine R.zc ttok ?_ | refine R.za ttok ?_ | refine R.zx ?_ | refine R.zl ttok ?_ | refine R.zs ttok ?_ | refine R.z ttok ?_ | refine R.zk ?_ | refine R.zn ?_ | refine R.done ?_ | refine X.then ?_ | refine C.block ?_ | refine C.ret ?_ | refine C.skip ?_ | refine C.exit ?_ | refine X.pass_ret ?_ | refine X.pass_exit ?_ | refine X.block_normal ?_ | refine X.block_ret ?_ | refine X.block_exit ?_ | refine C.zt ?_ | refine C.zf ?_ | refine X.zo ?_)
    refine X.finF ttok r [] ⟨hr, rfl⟩ rfl rfl rfl (by repeat (first | exact HasH.nil | refine HasH.same rfl rfl rfl trivial ?_ | refine HasH.same rfl rfl rfl rfl ?_ | refine HasH.same rfl rfl rfl (fun _ _ => rfl) ?_ | refine HasH.ros rfl rfl ?_)) _ (by first | exact .inl rfl | exact .inr rfl) ?_ ?_ ?_
    · exact fun w' hf => apf_ro (rF_ro r)
    · exact fun p hp => by first | exact hp | exact List.mem_append_left _ hp
    · exact fun p hp e => by rw [rF_ro r p hp] at e; cases e
  | true =>
    repeat (first | refine C.seq ?_ | refine C.region ?_ | refine R.zb ttok ?_ | refine R.zu ttok ?_ | refine R.zc ttok ?_ | refine R.za ttok ?_ | refine R.zx ?_ | refine R.zl ttok ?_ | refine R.zs ttok ?_ | refine R.z ttok ?_ | refine R.zk ?_ | refine R.zn ?_ | refine R.done ?_ | refine X.then ?_ | refine C.block ?_ | refine C.ret ?_ | refine C.skip ?_ | refine C.exit ?_ | refine X.pass_ret ?_ | refine X.pass_exit ?_ | refine X.block_normal ?_ | refine X.block_ret ?_ | refine X.block_exit ?_ | refine C.zt ?_ | refine C.zf ?_ | refine X.zo ?_)
    refine R.labR 9 r hr (fun p h => h) rfl ?_
    refine R.cl [2] (kept_specR r.l r.c false (by omega)) Try.call86 (by repeat (first | exact HasIn.nil | refine HasIn.same rfl rfl ?_ | refine HasIn.bro rfl ?_ | refine HasIn.ror rfl ?_ | refine HasIn.cro rfl rfl ?_)) rfl rfl rfl (fun _ => rfl) rfl (by kernel_rfl) fun c2 hc2 => ?_
    refine R.frzR 10 3 rfl rfl hc2.1 hc2.2 fun r2 hr2 hl2 => ?_
    repeat (first | refine C.seq ?_ | refine C.region ?_ | refine R.zb ttok ?_ | refine R.zu ttok ?_ | refine R.zc ttok ?_ | refine R.za ttok ?_ | refine R.zx ?_ | refine R.zl ttok ?_ | refine R.zs ttok ?_ | refine R.z ttok ?_ | refine R.zk ?_ | refine R.zn ?_ | refine R.done ?_ | refine X.then ?_ | refine C.block ?_ | refine C.ret ?_ | refine C.skip ?_ | refine C.exit ?_ | refine X.pass_ret ?_ | refine X.pass_exit ?_ | refine X.block_normal ?_ | refine X.block_ret ?_ | refine X.block_exit ?_ | refine C.zt ?_ | refine C.zf ?_ | refine X.zo ?_)
    refine X.finF ttok r2 [] ⟨hr2, hl2⟩ rfl rfl rfl (by repeat (first | exact HasH.nil | refine HasH.same rfl rfl rfl trivial ?_ | refine HasH.same rfl rfl rfl rfl ?_ | refine HasH.same rfl rfl rfl (fun _ _ => rfl) ?_ | refine HasH.ros rfl rfl ?_)) _ (by first | exact .inl rfl | exact .inr rfl) ?_ ?_ ?_
    · exact fun w' hf => apf_ro (rF_ro r2)
    · exact fun p hp => by first | exact hp | exact List.mem_append_left _ hp
    · exact fun p hp e => by rw [rF_ro r p hp] at e; cases e
end
end Go.Proofs.Yteabncomclgncaa
namespace Go.Proofs.Yteabncomclgncaa
set_option linter.unusedVariables false
set_option linter.unusedSimpArgs false
open Go.RowKit
set_option maxRecDepth 100000
set_option maxHeartbeats 4000000
abbrev mkP (p : ByteArray × Sl Int) : ByteArray × Sl Int := (p.1, p.2.mark)
def pmid (l : PL) (i : Nat) : PL := (l.take i).map mkP ++ l.drop i
theorem pmid_len (l : PL) (i : Nat) : (pmid l i).length = l.length := by
  unfold pmid; rw [List.length_append, List.length_map, List.length_take, List.length_drop]; omega
theorem pmid_get {l : PL} {i : Nat} (h : i < l.length) : (pmid l i).getD i zG = l.getD i zG := by
  unfold pmid
  rw [List.getD_eq_getElem?_getD, List.getElem?_append_right (by simp; omega), List.length_map, List.length_take, Nat.min_eq_left (by omega), Nat.sub_self, List.getElem?_drop, Nat.add_zero, ← List.getD_eq_getElem?_getD]
theorem pl_get {l : PL} {i : Nat} (h : i < l.length) : l.getD i zG = l[i] := by rw [List.getD_eq_getElem?_getD, List.getElem?_eq_getElem h]; rfl
theorem pmid_step {l : PL} {i : Nat} (h : i < l.length) : pmid l (i + 1) = (pmid l i).set i (mkP (l.getD i zG)) := by
  have hl : ((l.take i).map mkP).length = i := by simp; omega
  unfold pmid
  rw [List.drop_eq_getElem_cons h, List.set_append_right _ _ (by omega), hl, Nat.sub_self, List.set_cons_zero, List.take_succ_eq_append_getElem h, List.map_append, List.append_assoc, pl_get h]
  rfl
theorem pmid_zero (l : PL) : pmid l 0 = l := by simp [pmid]
theorem pmid_end (l : PL) : pmid l l.length = l.map mkP := by simp [pmid]
theorem upd_pl (l : PL) (i : Nat) (p : ByteArray × Sl Int) (h : i < l.length) : updF (plF l) i (plA p) = plF (l.set i p) := by
  funext j
  unfold updF plF
  simp only [List.getD_eq_getElem?_getD, List.getElem?_set]
  by_cases e : j = i
  · subst e; simp [h]
  · have e' : ¬ i = j := fun x => e x.symm
    simp [e, e']
section
variable (r : Rf)
def markP (l : PL) : PL := (keptP l).map mkP
theorem mark_specR (mk : Bool) (hr : r.ok) (hl : r.l.length ≤ 900000) : SpecF Try.prog 62 [r.v mk] [] 0 (rF r) (σ := Rf) (fun r' => r'.ok ∧ r'.l = if mk then r.l else markP r.l) (fun r' => .tup [r'.v true, .raw (.int .i64 (if mk then 18 else 0))]) (fun _ => []) (fun r' => rF r') := by
  refine SpecF.of Try.func62 rfl Try.ntmps62 rfl (bdl_nil _) fun ρ w => ?_
  have hle := hr.le
  have hcap := hr.cap
  cases mk with
  | true =>
    repeat (first | refine C.seq ?_ | refine C.region ?_ | refine R.zb ttok ?_ | refine R.zu ttok ?_ | refine R.zc ttok ?_ | refine R.za ttok ?_ | refine R.zx ?_ | refine R.zl ttok ?_ | refine R.zs ttok ?_ | refine R.z ttok ?_ | refine R.zk ?_ | refine R.zn ?_ | refine R.done ?_ | refine X.then ?_ | refine C.block ?_ | refine C.ret ?_ | refine C.skip ?_ | refine C.exit ?_ | refine X.pass_ret ?_ | refine X.pass_exit ?_ | refine X.block_normal ?_ | refine X.block_ret ?_ | refine X.block_exit ?_ | refine C.zt ?_ | refine C.zf ?_ | refine X.zo ?_)
    refine X.finF ttok r [] ⟨hr, rfl⟩ rfl rfl rfl (by repeat (first | exact HasH.nil | refine HasH.same rfl rfl rfl trivial ?_ | refine HasH.same rfl rfl rfl rfl ?_ | refine HasH.same rfl rfl rfl (fun _ _ => rfl) ?_ | refine HasH.ros rfl rfl ?_)) _ (by first | exact .inl rfl | exact .inr rfl) ?_ ?_ ?_
    · exact fun w' hf => apf_ro (rF_ro r)
    · exact fun p hp => by first | exact hp | exact List.mem_append_left _ hp
    · exact fun p hp e => by rw [rF_ro r p hp] at e; cases e
  | false =>
    repeat (first | refine C.seq ?_ | refine C.region ?_ | refine R.zb ttok ?_ | refine R.zu ttok ?_ | refine R.zc ttok ?_ | refine R.za ttok ?_ | refine R.zx ?_ | refine R.zl ttok ?_ | refine R.zs ttok ?_ | refine R.z ttok ?_ | refine R.zk ?_ | refine R.zn ?_ | refine R.done ?_ | refine X.then ?_ | refine C.block ?_ | refine C.ret ?_ | refine C.skip ?_ | refine C.exit ?_ | refine X.pass_ret ?_ | refine X.pass_exit ?_ | refine X.block_normal ?_ | refine X.block_ret ?_ | refine X.block_exit ?_ | refine C.zt ?_ | refine C.zf ?_ | refine X.zo ?_)
    refine R.labR 8 r hr (fun p h => h) rfl ?_
    refine R.cl [2] (kept_specR r.l r.c false (by omega)) Try.call86 (by repeat (first | exact HasIn.nil | refine HasIn.same rfl rfl ?_ | refine HasIn.bro rfl ?_ | refine HasIn.ror rfl ?_ | refine HasIn.cro rfl rfl ?_)) rfl rfl rfl (fun _ => rfl) rfl (by kernel_rfl) fun c2 hc2 => ?_
    obtain ⟨K, hK⟩ : ∃ K, keptP r.l = K := ⟨_, rfl⟩
    have hKl : K.length ≤ r.l.length := by rw [← hK]; exact List.length_filter_le _ _
    rw [hK] at hc2 ⊢
    repeat (first | refine C.seq ?_ | refine C.region ?_ | refine R.zb ttok ?_ | refine R.zu ttok ?_ | refine R.zc ttok ?_ | refine R.za ttok ?_ | refine R.zx ?_ | refine R.zl ttok ?_ | refine R.zs ttok ?_ | refine R.z ttok ?_ | refine R.zk ?_ | refine R.zn ?_ | refine R.done ?_ | refine X.then ?_ | refine C.block ?_ | refine C.ret ?_ | refine C.skip ?_ | refine C.exit ?_ | refine X.pass_ret ?_ | refine X.pass_exit ?_ | refine X.block_normal ?_ | refine X.block_ret ?_ | refine X.block_exit ?_ | refine C.zt ?_ | refine C.zf ?_ | refine X.zo ?_)
    refine C.loop (σ := Nat) (L2 := 4) (fun i => i ≤ K.length) (fun i => [(1, .ptr 0 0 0 0), (2, .ptr 1 0 0 0), (3, .raw (.int .i64 0)), (4, .raw (.int .i64 (i : Nat)))]) (fun i => [(0, .cells [.sl 3 7 0 K.length c2, .raw (.bool false)] 67), (1, .cells [.raw (.slice none 0 0), .raw (.bool false)] 67), (3, .tab 7 K.length c2 (plF (pmid K i)) 123)]) _ (fun i => K.length - i) [] 0 (Nat.zero_le _) rfl (by repeat (first | exact HasT.nil | refine HasT.cons rfl rfl rfl ?_)) (by
      rw [pmid_zero]
      exact (by repeat (first | exact HasH.nil | refine HasH.same rfl rfl rfl trivial ?_ | refine HasH.same rfl rfl rfl rfl ?_ | refine HasH.same rfl rfl rfl (fun _ _ => rfl) ?_))) rfl (fun _ h => h) ?_
    rintro i hi
    repeat (first | refine C.seq ?_ | refine C.region ?_ | refine R.zb ttok ?_ | refine R.zu ttok ?_ | refine R.zc ttok ?_ | refine R.za ttok ?_ | refine R.zx ?_ | refine R.zl ttok ?_ | refine R.zs ttok ?_ | refine R.z ttok ?_ | refine R.zk ?_ | refine R.zn ?_ | refine R.done ?_ | refine X.then ?_ | refine C.block ?_ | refine C.ret ?_ | refine C.skip ?_ | refine C.exit ?_ | refine X.pass_ret ?_ | refine X.pass_exit ?_ | refine X.block_normal ?_ | refine X.block_ret ?_ | refine X.block_exit ?_ | refine C.zt ?_ | refine C.zf ?_ | refine X.zo ?_)
    by_cases hlt : (i : Int) < (K.length : Nat)
    · rw [decide_eq_true hlt]
      have hlt : i < K.length := by omega
      have hst := pmid_step hlt
      have hpl := pmid_len K i
      repeat (first | refine C.seq ?_ | refine C.region ?_ | refine R.zb ttok ?_ | refine R.zu ttok ?_ | refine R.zc ttok ?_ | refine R.za ttok ?_ | refine R.zx ?_ | refine R.zl ttok ?_ | refine R.zs ttok ?_ | refine R.z ttok ?_ | refine R.zk ?_ | refine R.zn ?_ | refine R.done ?_ | refine X.then ?_ | refine C.block ?_ | refine C.ret ?_ | refine C.skip ?_ | refine C.exit ?_ | refine X.pass_ret ?_ | refine X.pass_exit ?_ | refine X.block_normal ?_ | refine X.block_ret ?_ | refine X.block_exit ?_ | refine C.zt ?_ | refine C.zf ?_ | refine X.zo ?_)
      refine C.draw [[], [0], [], [], [3], [], [3, 4, 5], [3, 4, 5, 6], [3, 4, 5, 6, 7], [3, 4, 5, 6, 7, 8], [3, 4, 5, 6, 7, 8, 9], [0, 1, 2, 3, 4, 5, 6, 7, 8, 9, 10], [0, 1, 2, 3, 4, 5, 6, 7, 8, 9, 10, 11], [0, 1, 2, 3, 4, 5, 6, 7, 8, 9, 10, 11, 12], [0, 1, 2, 3, 4, 5, 6, 7, 8, 9, 10, 11, 12, 13]] [14] (by kernel_rfl) (by kernel_rfl) ?_
      repeat (first | refine C.seq ?_ | refine C.region ?_ | refine R.zb ttok ?_ | refine R.zu ttok ?_ | refine R.zc ttok ?_ | refine R.za ttok ?_ | refine R.zx ?_ | refine R.zl ttok ?_ | refine R.zs ttok ?_ | refine R.z ttok ?_ | refine R.zk ?_ | refine R.zn ?_ | refine R.done ?_ | refine X.then ?_ | refine C.block ?_ | refine C.ret ?_ | refine C.skip ?_ | refine C.exit ?_ | refine X.pass_ret ?_ | refine X.pass_exit ?_ | refine X.block_normal ?_ | refine X.block_ret ?_ | refine X.block_exit ?_ | refine C.zt ?_ | refine C.zf ?_ | refine X.zo ?_)
      refine R.ix ttok i rfl rfl rfl rfl rfl (by kernel_rfl) rfl hlt (by show _ < _; omega) rfl ?_
      rw [Nat.zero_add i]
      repeat (first | refine C.seq ?_ | refine C.region ?_ | refine R.zb ttok ?_ | refine R.zu ttok ?_ | refine R.zc ttok ?_ | refine R.za ttok ?_ | refine R.zx ?_ | refine R.zl ttok ?_ | refine R.zs ttok ?_ | refine R.z ttok ?_ | refine R.zk ?_ | refine R.zn ?_ | refine R.done ?_ | refine X.then ?_ | refine C.block ?_ | refine C.ret ?_ | refine C.skip ?_ | refine C.exit ?_ | refine X.pass_ret ?_ | refine X.pass_exit ?_ | refine X.block_normal ?_ | refine X.block_ret ?_ | refine X.block_exit ?_ | refine C.zt ?_ | refine C.zf ?_ | refine X.zo ?_)
      refine R.ldt (v := .raw (.int .i64 (b01 ((pmid K i).getD i zG).2.rd))) ttok rfl rfl rfl rfl rfl (by kernel_rfl) hlt ?_
      rw [pmid_get hlt]
      have hup := upd_pl (pmid K i) i (mkP (K.getD i zG)) (by omega)
      rw [← hst] at hup
      have hpg := pmid_get hlt
      obtain ⟨⟨pk, d0, d1, g0, g1, rd, wr⟩, hpp⟩ : ∃ p, K.getD i zG = p := ⟨_, rfl⟩
      rw [hpp] at hup hpg ⊢
      cases rd with
      | false =>
        repeat (first | refine C.seq ?_ | refine C.region ?_ | refine R.zb ttok ?_ | refine R.zu ttok ?_ | refine R.zc ttok ?_ | refine R.za ttok ?_ | refine R.zx ?_ | refine R.zl ttok ?_ | refine R.zs ttok ?_ | refine R.z ttok ?_ | refine R.zk ?_ | refine R.zn ?_ | refine R.done ?_ | refine X.then ?_ | refine C.block ?_ | refine C.ret ?_ | refine C.skip ?_ | refine C.exit ?_ | refine X.pass_ret ?_ | refine X.pass_exit ?_ | refine X.block_normal ?_ | refine X.block_ret ?_ | refine X.block_exit ?_ | refine C.zt ?_ | refine C.zf ?_ | refine X.zo ?_)
        refine R.ix ttok i rfl rfl rfl rfl rfl (by kernel_rfl) rfl hlt (by show _ < _; omega) rfl ?_
        rw [Nat.zero_add i]
        repeat (first | refine C.seq ?_ | refine C.region ?_ | refine R.zb ttok ?_ | refine R.zu ttok ?_ | refine R.zc ttok ?_ | refine R.za ttok ?_ | refine R.zx ?_ | refine R.zl ttok ?_ | refine R.zs ttok ?_ | refine R.z ttok ?_ | refine R.zk ?_ | refine R.zn ?_ | refine R.done ?_ | refine X.then ?_ | refine C.block ?_ | refine C.ret ?_ | refine C.skip ?_ | refine C.exit ?_ | refine X.pass_ret ?_ | refine X.pass_exit ?_ | refine X.block_normal ?_ | refine X.block_ret ?_ | refine X.block_exit ?_ | refine C.zt ?_ | refine C.zf ?_ | refine X.zo ?_)
        refine R.stt (zs := plA (mkP (pk, ⟨d0, d1, g0, g1, false, wr⟩))) ttok rfl rfl rfl rfl rfl (by show spl1 (plA ((pmid K i).getD i zG)) _ _ = _; rw [hpg]; rfl) rfl (by kernel_rfl) hlt (by show 0 + 1 + 5 + 1 ≤ 7; omega) ?_
        rw [hup]
        repeat (first | refine C.seq ?_ | refine C.region ?_ | refine R.zb ttok ?_ | refine R.zu ttok ?_ | refine R.zc ttok ?_ | refine R.za ttok ?_ | refine R.zx ?_ | refine R.zl ttok ?_ | refine R.zs ttok ?_ | refine R.z ttok ?_ | refine R.zk ?_ | refine R.zn ?_ | refine R.done ?_ | refine X.then ?_ | refine C.block ?_ | refine C.ret ?_ | refine C.skip ?_ | refine C.exit ?_ | refine X.pass_ret ?_ | refine X.pass_exit ?_ | refine X.block_normal ?_ | refine X.block_ret ?_ | refine X.block_exit ?_ | refine C.zt ?_ | refine C.zf ?_ | refine X.zo ?_)
        exact X.back [] (i + 1) hlt (by omega) rfl (by repeat (first | exact HasT.nil | refine HasT.cons rfl rfl rfl ?_)) (by repeat (first | exact HasH.nil | refine HasH.same rfl rfl rfl trivial ?_ | refine HasH.same rfl rfl rfl rfl ?_ | refine HasH.same rfl rfl rfl (fun _ _ => rfl) ?_)) rfl (fun _ h => h)
      | true =>
        repeat (first | refine C.seq ?_ | refine C.region ?_ | refine R.zb ttok ?_ | refine R.zu ttok ?_ | refine R.zc ttok ?_ | refine R.za ttok ?_ | refine R.zx ?_ | refine R.zl ttok ?_ | refine R.zs ttok ?_ | refine R.z ttok ?_ | refine R.zk ?_ | refine R.zn ?_ | refine R.done ?_ | refine X.then ?_ | refine C.block ?_ | refine C.ret ?_ | refine C.skip ?_ | refine C.exit ?_ | refine X.pass_ret ?_ | refine X.pass_exit ?_ | refine X.block_normal ?_ | refine X.block_ret ?_ | refine X.block_exit ?_ | refine C.zt ?_ | refine C.zf ?_ | refine X.zo ?_)
        refine R.ix ttok i rfl rfl rfl rfl rfl (by kernel_rfl) rfl hlt (by show _ < _; omega) rfl ?_
        rw [Nat.zero_add i]
        repeat (first | refine C.seq ?_ | refine C.region ?_ | refine R.zb ttok ?_ | refine R.zu ttok ?_ | refine R.zc ttok ?_ | refine R.za ttok ?_ | refine R.zx ?_ | refine R.zl ttok ?_ | refine R.zs ttok ?_ | refine R.z ttok ?_ | refine R.zk ?_ | refine R.zn ?_ | refine R.done ?_ | refine X.then ?_ | refine C.block ?_ | refine C.ret ?_ | refine C.skip ?_ | refine C.exit ?_ | refine X.pass_ret ?_ | refine X.pass_exit ?_ | refine X.block_normal ?_ | refine X.block_ret ?_ | refine X.block_exit ?_ | refine C.zt ?_ | refine C.zf ?_ | refine X.zo ?_)
        refine R.stt (zs := plA (mkP (pk, ⟨d0, d1, g0, g1, true, wr⟩))) ttok rfl rfl rfl rfl rfl (by show spl1 (plA ((pmid K i).getD i zG)) _ _ = _; rw [hpg]; rfl) rfl (by kernel_rfl) hlt (by show 0 + 1 + 5 + 1 ≤ 7; omega) ?_
        rw [hup]
        repeat (first | refine C.seq ?_ | refine C.region ?_ | refine R.zb ttok ?_ | refine R.zu ttok ?_ | refine R.zc ttok ?_ | refine R.za ttok ?_ | refine R.zx ?_ | refine R.zl ttok ?_ | refine R.zs ttok ?_ | refine R.z ttok ?_ | refine R.zk ?_ | refine R.zn ?_ | refine R.done ?_ | refine X.then ?_ | refine C.block ?_ | refine C.ret ?_ | refine C.skip ?_ | refine C.exit ?_ | refine X.pass_ret ?_ | refine X.pass_exit ?_ | refine X.block_normal ?_ | refine X.block_ret ?_ | refine X.block_exit ?_ | refine C.zt ?_ | refine C.zf ?_ | refine X.zo ?_)
        exact X.back [] (i + 1) hlt (by omega) rfl (by repeat (first | exact HasT.nil | refine HasT.cons rfl rfl rfl ?_)) (by repeat (first | exact HasH.nil | refine HasH.same rfl rfl rfl trivial ?_ | refine HasH.same rfl rfl rfl rfl ?_ | refine HasH.same rfl rfl rfl (fun _ _ => rfl) ?_)) rfl (fun _ h => h)
    · rw [decide_eq_false hlt]
      obtain rfl : i = K.length := by omega
      rw [pmid_end]
      have hml : K.length = (K.map mkP).length := by simp
      rw [hml] at hc2 ⊢
      repeat (first | refine C.seq ?_ | refine R.zb ttok ?_ | refine R.zu ttok ?_ | refine R.zc ttok ?_ | refine R.za ttok ?_ | refine R.zx ?_ | refine R.zl ttok ?_ | refine R.zs ttok ?_ | refine R.z ttok ?_ | refine R.zk ?_ | refine R.zn ?_ | refine R.done ?_ | refine X.then ?_ | refine C.block ?_ | refine C.ret ?_ | refine C.skip ?_ | refine C.exit ?_ | refine X.pass_ret ?_ | refine X.pass_exit ?_ | refine X.block_normal ?_ | refine X.block_ret ?_ | refine X.block_exit ?_ | refine C.zt ?_ | refine C.zf ?_ | refine X.zo ?_)
      refine C.region ?_
      repeat (first | refine C.seq ?_ | refine R.zb ttok ?_ | refine R.zu ttok ?_ | refine R.zc ttok ?_ | refine R.za ttok ?_ | refine R.zx ?_ | refine R.zl ttok ?_ | refine R.zs ttok ?_ | refine R.z ttok ?_ | refine R.zk ?_ | refine R.zn ?_ | refine R.done ?_ | refine X.then ?_ | refine C.block ?_ | refine C.ret ?_ | refine C.skip ?_ | refine C.exit ?_ | refine X.pass_ret ?_ | refine X.pass_exit ?_ | refine X.block_normal ?_ | refine X.block_ret ?_ | refine X.block_exit ?_ | refine C.zt ?_ | refine C.zf ?_ | refine X.zo ?_)
      refine C.region ?_
      first | refine C.seq ?_ | refine C.region ?_ | refine R.zb ttok ?_ | refine R.zu ttok ?_ | refine R.zc ttok ?_ | refine R.za ttok ?_ | refine R.zx ?_ | refine R.zl ttok ?_ | refine R.zs ttok ?_ | refine R.z ttok ?_ | refine R.zk ?_ | refine R.zn ?_ | refine R.done ?_ | refine X.then ?_ | refine C.block ?_ | refine C.ret ?_ | refine C.skip ?_ | refine C.exit ?_ | refine X.pass_ret ?_ | refine X.pass_exit ?_ | refine X.block_normal ?_ | refine X.block_ret ?_ | refine X.block_exit ?_ | refine C.zt ?_ | refine C.zf ?_ | refine X.zo ?_
      refine R.frzR 32 3 rfl rfl hc2.1 hc2.2 fun r2 hr2 hl2 => ?_
      repeat (first | refine C.seq ?_ | refine C.region ?_ | refine R.zb ttok ?_ | refine R.zu ttok ?_ | refine R.zc ttok ?_ | refine R.za ttok ?_ | refine R.zx ?_ | refine R.zl ttok ?_ | refine R.zs ttok ?_ | refine R.z ttok ?_ | refine R.zk ?_ | refine R.zn ?_ | refine R.done ?_ | refine X.then ?_ | refine C.block ?_ | refine C.ret ?_ | refine C.skip ?_ | refine C.exit ?_ | refine X.pass_ret ?_ | refine X.pass_exit ?_ | refine X.block_normal ?_ | refine X.block_ret ?_ | refine X.block_exit ?_ | refine C.zt ?_ | refine C.zf ?_ | refine X.zo ?_)
      refine X.finF ttok r2 [] ⟨hr2, by rw [hl2, ← hK]; rfl⟩ rfl rfl rfl (by repeat (first | exact HasH.nil | refine HasH.same rfl rfl rfl trivial ?_ | refine HasH.same rfl rfl rfl rfl ?_ | refine HasH.same rfl rfl rfl (fun _ _ => rfl) ?_ | refine HasH.ros rfl rfl ?_)) _ (by first | exact .inl rfl | exact .inr rfl) ?_ ?_ ?_
      · exact fun w' hf => apf_ro (rF_ro r2)
      · exact fun p hp => by first | exact hp | exact List.mem_append_left _ hp
      · exact fun p hp e => by rw [rF_ro r p hp] at e; cases e
end
end Go.Proofs.Yteabncomclgncaa
namespace Go.Proofs.Yteabncomclgncaa
set_option linter.unusedVariables false
set_option linter.unusedSimpArgs false
open Go.RowKit
set_option maxRecDepth 100000
abbrev plP (p : PIZ) : ByteArray × Sl Int := (p.1, p.2.2)
/-- the document's list of a store -/
def plZ (l : ZL) : PL := l.map plP
theorem plZ_len (l : ZL) : (plZ l).length = l.length := List.length_map _
theorem plZ_get (l : ZL) (i : Nat) : (plZ l).getD i zG = plP (l.getD i zG) := by
  unfold plZ
  rw [List.getD_eq_getElem?_getD, List.getD_eq_getElem?_getD, List.getElem?_map]
  cases l[i]? <;> rfl
theorem plZ_plc (l : ZL) (k : ByteArray) : plc (plZ l) k = plc l k := by
  unfold plc plZ
  rw [List.findIdx_map]
  rfl
theorem plZ_asc {l : ZL} (h : Asc l) : Asc (plZ l) := by
  unfold Asc plZ
  rw [List.pairwise_map]
  exact h
theorem plZ_has (l : ZL) (k : ByteArray) : hasK (plZ l) k = hasK l k := by
  unfold hasK
  rw [plZ_plc, plZ_len, plZ_get]
theorem plZ_slot (l : ZL) (k : ByteArray) : slotR (plZ l) k = slotV l k := by
  unfold slotR slotV
  rw [plZ_plc, plZ_get]
theorem plZ_live (l : ZL) (k : ByteArray) : liveR (plZ l) k = isV l k := by
  unfold liveR isV
  rw [plZ_has, plZ_slot]
theorem plZ_getR {l : ZL} (hd : DZ l) (k : ByteArray) : getR (plZ l) k = getV l k := by
  unfold getR
  rw [plZ_live, plZ_slot]
  cases h : isV l k with
  | false => rw [if_neg (by decide), getV0 hd h]
  | true =>
    rw [if_pos rfl]
    unfold getV
    rw [if_pos (isV_has h).1]
theorem plZ_slo (l : ZL) (k : ByteArray) : sloR (plZ l) k = sloV l k := by
  unfold sloR sloV
  rw [plZ_has, plZ_slot]
theorem plZ_kept (l : ZL) : keptP (plZ l) = plZ (liveL l) := by
  unfold keptP plZ liveL
  rw [List.filter_map]
  rfl
theorem plZ_keptL (l : ZL) : (keptP (plZ l)).length = (VZ l).length := by
  rw [plZ_kept, plZ_len]
  unfold VZ
  rw [List.length_map]
theorem plZ_up {l : ZL} {i : Nat} (h : i < l.length) (s : Sl Int) : withP (plZ l) i 1 ((l.getD i zG).1, s) = plZ (zup l i s) := by
  rw [zup_split h]
  unfold withP plZ
  rw [List.map_append, List.map_cons, List.map_take, List.map_drop]
theorem plZ_ins (l : ZL) (i : Nat) (k : ByteArray) (b : Nat) (s : Sl Int) : withP (plZ l) i 0 (k, s) = plZ (insL l i (k, b, s)) := by
  unfold withP insL plZ
  rw [List.map_append, List.map_cons, List.map_take, List.map_drop]
  rfl
theorem plZ_put (l : ZL) (k : ByteArray) (v : Int) (b : Nat) : putP (plZ l) k v = plZ (zput l k v b) := by
  unfold putP zput
  rw [plZ_has, plZ_slot, plZ_plc]
  cases h : hasK l k with
  | false =>
    simp only [Bool.false_eq_true, if_false]
    exact plZ_ins l _ k b _
  | true =>
    simp only [if_true]
    have := plZ_up (hasK_lt h).1 ((slotV l k).lay v true)
    rw [hasK_key h] at this
    exact this
theorem plZ_del {l : ZL} (hA : Asc l) (mk : Bool) (hL : mk = false → ALz l) (k : ByteArray) : delP (plZ l) k mk = plZ (zdel l k mk) := by
  unfold delP zdel
  rw [plZ_live, plZ_slot, plZ_plc]
  cases hv : isV l k with
  | false => rw [if_neg (by decide), if_neg (by decide)]
  | true =>
    rw [if_pos rfl, if_pos rfl]
    have hk := (isV_has hv).1
    have hlt := (hasK_lt hk).1
    have hu := plZ_up hlt ((slotV l k).lay 0 false)
    rw [hasK_key hk] at hu
    rw [hu]
    cases mk with
    | true => rfl
    | false =>
      rw [if_neg (by decide), if_neg (by decide), plZ_kept]
      congr 1
      have hal := hL rfl
      rw [zup_split hlt]
      unfold liveL delL
      rw [List.filter_append, List.filter_cons, if_neg (by show ¬ ((slotV l k).lay 0 false).live = true; rw [lay_liveZ]; decide), ← List.filter_append]
      exact List.filter_eq_self.2 fun p hp => by
        rcases List.mem_append.1 hp with hp | hp
        · exact hal p (List.mem_of_mem_take hp)
        · exact hal p (List.mem_of_mem_drop hp)
theorem plZ_mark (l : ZL) : markP (plZ l) = plZ (zsw l Sl.mark) := by
  unfold markP
  rw [plZ_kept]
  unfold zsw plZ liveL
  rw [List.filter_map, List.map_map, List.map_map]
  rfl
theorem plZ_done (l : ZL) : keptP (plZ l) = plZ (zsw l id) := by
  rw [plZ_kept]
  unfold zsw liveL
  congr 1
  rw [show l.map (gP id) = l from (List.map_congr_left (g := id) fun p _ => rfl).trans (List.map_id _)]
theorem find_skip {α : Type} (l : List α) (i : Nat) (p q : α → Bool) (h1 : ∀ x ∈ l.take i, p x = false) (h2 : ∀ x ∈ l.drop i, p x = q x) : l.find? p = (l.drop i).find? q := by
  conv => lhs; rw [← List.take_append_drop i l, List.find?_append]
  rw [List.find?_eq_none.2 (fun x hx => by rw [h1 x hx]; decide), Option.none_or]
  generalize l.drop i = m at h2
  induction m with
  | nil => rfl
  | cons a m ih =>
    rw [List.find?_cons, List.find?_cons, h2 a List.mem_cons_self, ih fun x hx => h2 x (List.mem_cons_of_mem _ hx)]
theorem plZ_fd {l : ZL} (hA : Asc l) (k : ByteArray) (f : Sl Int → Bool) : fdP (plZ l) (fun p => gtB p.1 k && f p.2) 0 = ((l.drop (aboveN l k)).find? fun p => f p.2.2).map plP := by
  unfold fdP plZ
  rw [List.drop_zero, List.find?_map]
  congr 1
  refine find_skip l (aboveN l k) _ _ (fun p hp => ?_) (fun p hp => ?_)
  · show (gtB p.1 k && f p.2.2) = false
    rw [gt_cmp, decide_eq_false (take_le hA k p hp), Bool.false_and]
  · show (gtB p.1 k && f p.2.2) = f p.2.2
    rw [gt_cmp, decide_eq_true (drop_gt hA k p hp), Bool.true_and]
theorem plZ_next {l : ZL} (hA : Asc l) (k : ByteArray) : nxV (fdP (plZ l) (nxP k) 0) = nxK l (aboveN l k) := by
  have h := plZ_fd hA k Sl.live
  show nxV (fdP (plZ l) (fun p => gtB p.1 k && p.2.live) 0) = _
  rw [h]
  unfold nxK
  show _ = match (l.drop (aboveN l k)).find? liveZ with | some p => (p.1, true) | none => (⟨#[]⟩, false)
  show nxV (((l.drop (aboveN l k)).find? liveZ).map plP) = _
  cases (l.drop (aboveN l k)).find? liveZ <;> rfl
/-- the first that is held, from a place on -/
def hdZ (l : ZL) (i : Nat) : Option PIZ := (l.drop i).find? heldZ
def hdV (o : Option PIZ) : ByteArray × Int × Bool := match o with
  | some p => (p.1, heldV p.2.2, true)
  | none => (noT, 0, false)
theorem hdZ_step {l : ZL} {i : Nat} (h : i < l.length) : hdZ l i = if heldZ (l.getD i zG) = true then some (l.getD i zG) else hdZ l (i + 1) := by
  unfold hdZ
  rw [List.drop_eq_getElem_cons h, List.find?_cons, zG_get h]
  cases heldZ l[i] <;> rfl
theorem hdZ_end {l : ZL} {i : Nat} (h : l.length ≤ i) : hdZ l i = none := by
  unfold hdZ
  rw [List.drop_eq_nil_of_le h]
  rfl
theorem plZ_above {l : ZL} (hA : Asc l) (k : ByteArray) : abV (fdP (plZ l) (abP k) 0) = hdV (hdZ l (aboveN l k)) := by
  have h := plZ_fd hA k fun s => s.has (!s.wr)
  show abV (fdP (plZ l) (fun p => gtB p.1 k && p.2.has (!p.2.wr)) 0) = _
  rw [h]
  unfold hdZ
  show abV (((l.drop (aboveN l k)).find? heldZ).map plP) = _
  cases (l.drop (aboveN l k)).find? heldZ <;> rfl
end Go.Proofs.Yteabncomclgncaa
namespace Go.Proofs.Yteabncomclgncaa
set_option linter.unusedVariables false
set_option linter.unusedSimpArgs false
open Go.RowKit
set_option maxRecDepth 100000
set_option maxHeartbeats 8000000
theorem rF_cells {r : Rf} (hr : r.ok) : ∀ p ∈ rF r, p.ob.isCells = true := fun p hp => by
  unfold rF optF at hp
  cases ha : r.a with
  | none => rw [ha] at hp; cases hp
  | some b =>
    rw [ha] at hp
    obtain rfl : p = ⟨false, b, r.ob⟩ := by simpa using hp
    obtain ⟨w, hw⟩ : ∃ w : World, w.heap[b]? = some r.ob := ⟨{ (default : World) with heap := Array.replicate (b + 1) r.ob }, by simp⟩
    rcases hr.is b ha (fun _ => none) w hw with ⟨e, _⟩ | ⟨b', cur, ty, fr, e, hb, _⟩
    · cases e
    · cases e
      rw [hw] at hb
      have hb := Option.some.inj hb
      show r.ob.isCells = true
      rw [hb]
      rfl
theorem vz_le (l : ZL) : (VZ l).length ≤ l.length := by
  unfold VZ
  rw [List.length_map]
  exact List.length_filter_le _ _
abbrev xPut (k : ByteArray) (v : Int) : StZ := ⟨1, v, 0, k, noT, noT⟩
abbrev xDel (k : ByteArray) : StZ := ⟨2, 0, 0, k, noT, noT⟩
theorem wr_xput (l : ZL) (k : ByteArray) (v : Int) (mk : Bool) (b : Nat) : wrZ (xPut k v) l mk b = zput l k v b := (if_neg (show ¬ ((1 : Int) = 2) by decide)).trans (if_pos rfl)
theorem wr_xdel (l : ZL) (k : ByteArray) (mk : Bool) (b : Nat) : wrZ (xDel k) l mk b = zdel l k mk := if_pos rfl
theorem vlen_put {l : ZL} (hA : Asc l) (k : ByteArray) (v : Int) (b : Nat) : zputN l k ((VZ l).length : Nat) = ((VZ (zput l k v b)).length : Nat) := by
  have := wrN_len hA (xPut k v) false b (hs := ((VZ l).length : Nat)) rfl
  rw [wr_xput] at this
  rw [← this]
  exact ((if_neg (show ¬ ((1 : Int) = 2) by decide)).trans (if_pos rfl)).symm
theorem vlen_del {l : ZL} (hA : Asc l) (k : ByteArray) (mk : Bool) : zdelN l k ((VZ l).length : Nat) = ((VZ (zdel l k mk)).length : Nat) := by
  have := wrN_len hA (xDel k) mk 0 (hs := ((VZ l).length : Nat)) rfl
  rw [wr_xdel] at this
  rw [← this]
  exact (if_pos rfl).symm
theorem dz_put {l : ZL} (h : DZ l) (k : ByteArray) (v : Int) (b : Nat) : DZ (zput l k v b) := by
  have := dz_wr h (xPut k v) false b
  rwa [wr_xput] at this
theorem dz_del {l : ZL} (h : DZ l) (k : ByteArray) (mk : Bool) : DZ (zdel l k mk) := by
  have := dz_wr h (xDel k) mk 0
  rwa [wr_xdel] at this
theorem alz_put {l : ZL} (h : ALz l) (k : ByteArray) (v : Int) (b : Nat) : ALz (zput l k v b) := by
  have := alz_wr h (xPut k v) b
  rwa [wr_xput] at this
theorem alz_del {l : ZL} (h : ALz l) (k : ByteArray) : ALz (zdel l k false) := by
  have := alz_wr h (xDel k) 0
  rwa [wr_xdel] at this
/-- both stores -/
structure PS where
  l : ZL
  c : Nat
  r : Rf
structure PS.ok (s : PS) (mk : Bool) : Prop where
  asc : Asc s.l
  dz : DZ s.l
  al : mk = false → ALz s.l
  rok : s.r.ok
  rl : s.r.l = plZ s.l
  c1 : s.l.length ≤ s.c
  c2 : s.c ≤ 9223372036854775807
theorem PS.ok.rA {s : PS} {mk : Bool} (h : s.ok mk) : Asc s.r.l := by rw [h.rl]; exact plZ_asc h.asc
theorem PS.ok.rlen {s : PS} {mk : Bool} (h : s.ok mk) : s.r.l.length = s.l.length := by rw [h.rl, plZ_len]
theorem PS.ok.put {s : PS} {mk : Bool} (h : s.ok mk) {k : ByteArray} {v : Int} {b c' : Nat} {r' : Rf} (hr : r'.ok) (he : r'.l = putP s.r.l k v) (h1 : (zput s.l k v b).length ≤ c') (h2 : c' ≤ 9223372036854775807) : PS.ok ⟨zput s.l k v b, c', r'⟩ mk :=
  ⟨asc_put h.asc _ _ _, dz_put h.dz _ _ _, fun e => alz_put (h.al e) _ _ _, hr, by rw [he, h.rl]; exact plZ_put _ _ _ _, h1, h2⟩
theorem PS.ok.del {s : PS} {mk : Bool} (h : s.ok mk) {k : ByteArray} {r' : Rf} (hr : r'.ok) (he : r'.l = delP s.r.l k mk) : PS.ok ⟨zdel s.l k mk, s.c, r'⟩ mk :=
  ⟨asc_zdel h.asc _ _, dz_del h.dz _ _, fun e => by subst e; exact alz_del (h.al rfl) _, hr, by rw [he, h.rl]; exact plZ_del h.asc mk h.al k, Nat.le_trans (zdel_le _ _ _) h.c1, h.c2⟩
theorem cov_all {l l' : ZL} {r r' : Rf} {G : Fam} (h : Cov (zF l) (zF l' ++ G)) : ∀ p ∈ zF l ++ rF r, p.rw = true → BlF (zF l' ++ (rF r' ++ G)) p.b := fun p hp hr => by
  rcases List.mem_append.1 hp with hp | hp
  · obtain ⟨q, hq, e⟩ := h p hp hr
    rcases List.mem_append.1 hq with hq | hq
    · exact ⟨q, List.mem_append_left _ hq, e⟩
    · exact ⟨q, List.mem_append_right _ (List.mem_append_right _ hq), e⟩
  · rw [rF_ro r p hp] at hr; cases hr
/-- what a loop's body does, on the document's list -/
def turnP (x : StZ) (mk : Bool) (r : PL) : PL := if x.v = 0 then delP r x.other mk else putP r x.other x.v
abbrev PSG (s : PS) (mk : Bool) (x : StZ) (t : PS × Fam) : Prop := t.1.ok mk ∧ t.1.l.length ≤ s.l.length + 1 ∧ Cov (zF s.l) (zF t.1.l ++ t.2) ∧ (∀ p ∈ t.2, p.ob.isCells = true) ∧ t.1.r.l = turnP x mk s.r.l
abbrev rST : TypeId := 67
abbrev psF (t : PS × Fam) : Fam := zF t.1.l ++ (rF t.1.r ++ t.2)
theorem turn_spec (s : PS) (mk : Bool) (x : StZ) (hs : s.ok mk) (hl : s.l.length ≤ 800000) :
    SpecF Try.prog 88 [.ptr 0 0 0 0, s.r.v mk, .agg (stZ x)] [tbIZ 1 s.l.length s.c ((VZ s.l).length : Nat) mk, tIZ s.l s.c] 3 (zF s.l ++ rF s.r) (σ := PS × Fam) (PSG s mk x)
    (fun t => t.1.r.v mk) (fun t => [(0, tbIZ 2 t.1.l.length t.1.c ((VZ t.1.l).length : Nat) mk), (2, tIZ t.1.l t.1.c)]) psF := by
  refine SpecF.of Try.func88 rfl Try.ntmps88 rfl (bdl_cons rfl (bdl_cons (fun _ _ => rfl) (bdl_nil _))) fun ρ w => ?_
  have hvl := vz_le s.l
  have hrl := hs.rlen
  have hrA := hs.rA
  repeat (first | refine C.seq ?_ | refine C.region ?_ | refine R.zb ttok ?_ | refine R.zu ttok ?_ | refine R.zc ttok ?_ | refine R.za ttok ?_ | refine R.zx ?_ | refine R.zl ttok ?_ | refine R.zs ttok ?_ | refine R.z ttok ?_ | refine R.zk ?_ | refine R.zn ?_ | refine R.done ?_ | refine X.then ?_ | refine C.block ?_ | refine C.ret ?_ | refine C.skip ?_ | refine C.exit ?_ | refine X.pass_ret ?_ | refine X.pass_exit ?_ | refine X.block_normal ?_ | refine X.block_ret ?_ | refine X.block_exit ?_ | refine C.zt ?_ | refine C.zf ?_ | refine X.zo ?_)
  by_cases hv : x.v = 0
  · rw [decide_eq_true hv]
    repeat (first | refine C.seq ?_ | refine C.region ?_ | refine R.zb ttok ?_ | refine R.zu ttok ?_ | refine R.zc ttok ?_ | refine R.za ttok ?_ | refine R.zx ?_ | refine R.zl ttok ?_ | refine R.zs ttok ?_ | refine R.z ttok ?_ | refine R.zk ?_ | refine R.zn ?_ | refine R.done ?_ | refine X.then ?_ | refine C.block ?_ | refine C.ret ?_ | refine C.skip ?_ | refine C.exit ?_ | refine X.pass_ret ?_ | refine X.pass_exit ?_ | refine X.block_normal ?_ | refine X.block_ret ?_ | refine X.block_exit ?_ | refine C.zt ?_ | refine C.zf ?_ | refine X.zo ?_)
    refine R.clE [0, 1] (del_specZ s.l s.c x.other ((VZ s.l).length : Nat) mk hs.asc (by omega) hs.c1 hs.c2 (by omega) (by omega)) (rF s.r) (.refl _) (Nat.le_refl _) (fun _ _ => rfl) Try.call30 (by repeat (first | exact HasIn.nil | refine HasIn.same rfl rfl ?_ | refine HasIn.c1 rfl rfl ?_ | refine HasIn.roq rfl rfl ?_ | refine HasIn.other rfl (fun e => by cases e) (fun ρ x w hh => tab_ro hh) ?_ | refine HasIn.other rfl (fun e => by cases e) (fun ρ x w hh => tab_any hh) ?_ | refine HasIn.roAp rfl rfl ?_ | refine HasIn.other rfl (fun e => by cases e) (fun ρ x w hh => cells_any hh) ?_ | refine HasIn.other rfl (fun e => by cases e) (fun ρ x w hh => ro_any hh) ?_)) rfl rfl rfl (fun _ => rfl) rfl (by kernel_rfl) fun G hG => ?_
    rw [vlen_del hs.asc x.other mk]
    repeat (first | refine C.seq ?_ | refine C.region ?_ | refine R.zb ttok ?_ | refine R.zu ttok ?_ | refine R.zc ttok ?_ | refine R.za ttok ?_ | refine R.zx ?_ | refine R.zl ttok ?_ | refine R.zs ttok ?_ | refine R.z ttok ?_ | refine R.zk ?_ | refine R.zn ?_ | refine R.done ?_ | refine X.then ?_ | refine C.block ?_ | refine C.ret ?_ | refine C.skip ?_ | refine C.exit ?_ | refine X.pass_ret ?_ | refine X.pass_exit ?_ | refine X.block_normal ?_ | refine X.block_ret ?_ | refine X.block_exit ?_ | refine C.zt ?_ | refine C.zf ?_ | refine X.zo ?_)
    refine R.clE [] (del_specR s.r mk x.other hs.rok hrA (by omega)) (zF (zdel s.l x.other mk) ++ G) (List.perm_append_comm) (Nat.le_refl _) (fun _ _ => rfl) Try.call61 (by repeat (first | exact HasIn.nil | refine HasIn.same rfl rfl ?_ | refine HasIn.c1 rfl rfl ?_ | refine HasIn.roq rfl rfl ?_ | refine HasIn.other rfl (fun e => by cases e) (fun ρ x w hh => tab_ro hh) ?_ | refine HasIn.other rfl (fun e => by cases e) (fun ρ x w hh => tab_any hh) ?_ | refine HasIn.roAp rfl rfl ?_ | refine HasIn.other rfl (fun e => by cases e) (fun ρ x w hh => cells_any hh) ?_ | refine HasIn.other rfl (fun e => by cases e) (fun ρ x w hh => ro_any hh) ?_)) rfl rfl rfl (fun _ => rfl) rfl (by kernel_rfl) fun r1 hr1 => ?_
    repeat (first | refine C.seq ?_ | refine C.region ?_ | refine R.zb ttok ?_ | refine R.zu ttok ?_ | refine R.zc ttok ?_ | refine R.za ttok ?_ | refine R.zx ?_ | refine R.zl ttok ?_ | refine R.zs ttok ?_ | refine R.z ttok ?_ | refine R.zk ?_ | refine R.zn ?_ | refine R.done ?_ | refine X.then ?_ | refine C.block ?_ | refine C.ret ?_ | refine C.skip ?_ | refine C.exit ?_ | refine X.pass_ret ?_ | refine X.pass_exit ?_ | refine X.block_normal ?_ | refine X.block_ret ?_ | refine X.block_exit ?_ | refine C.zt ?_ | refine C.zf ?_ | refine X.zo ?_)
    refine X.fperm (List.perm_append_comm_assoc (rF r1) (zF (zdel s.l x.other mk)) G) ?_
    refine X.finF ttok (⟨zdel s.l x.other mk, s.c, r1⟩, G) [(2, 1)] ⟨hs.del hr1.1 hr1.2, Nat.le_succ_of_le (zdel_le _ _ _), hG.1, hG.2, hr1.2.trans (if_pos hv).symm⟩ rfl rfl rfl (by repeat (first | exact HasH.nil | refine HasH.same rfl rfl rfl trivial ?_ | refine HasH.same rfl rfl rfl rfl ?_ | refine HasH.same rfl rfl rfl (fun _ _ => rfl) ?_ | refine HasH.ros rfl rfl ?_)) _ (by first | exact .inl rfl | exact .inr rfl) ?_ ?_ ?_
    · exact fun w' hf => hf.ap
    · exact fun p hp => hp
    · exact cov_all hG.1
  · rw [decide_eq_false hv]
    repeat (first | refine C.seq ?_ | refine C.region ?_ | refine R.zb ttok ?_ | refine R.zu ttok ?_ | refine R.zc ttok ?_ | refine R.za ttok ?_ | refine R.zx ?_ | refine R.zl ttok ?_ | refine R.zs ttok ?_ | refine R.z ttok ?_ | refine R.zk ?_ | refine R.zn ?_ | refine R.done ?_ | refine X.then ?_ | refine C.block ?_ | refine C.ret ?_ | refine C.skip ?_ | refine C.exit ?_ | refine X.pass_ret ?_ | refine X.pass_exit ?_ | refine X.block_normal ?_ | refine X.block_ret ?_ | refine X.block_exit ?_ | refine C.zt ?_ | refine C.zf ?_ | refine X.zo ?_)
    refine R.clE [0, 1] (put_specZ s.l s.c x.other x.v ((VZ s.l).length : Nat) mk hs.asc (by omega) hs.c1 hs.c2 (by omega) (by omega)) (rF s.r) (.refl _) (Nat.le_refl _) (fun _ _ => rfl) Try.call36 (by repeat (first | exact HasIn.nil | refine HasIn.same rfl rfl ?_ | refine HasIn.c1 rfl rfl ?_ | refine HasIn.roq rfl rfl ?_ | refine HasIn.other rfl (fun e => by cases e) (fun ρ x w hh => tab_ro hh) ?_ | refine HasIn.other rfl (fun e => by cases e) (fun ρ x w hh => tab_any hh) ?_ | refine HasIn.roAp rfl rfl ?_ | refine HasIn.other rfl (fun e => by cases e) (fun ρ x w hh => cells_any hh) ?_ | refine HasIn.other rfl (fun e => by cases e) (fun ρ x w hh => ro_any hh) ?_)) rfl rfl rfl (fun _ => rfl) rfl (by kernel_rfl) fun q hq => ?_
    rw [vlen_put hs.asc x.other x.v q.2]
    repeat (first | refine C.seq ?_ | refine C.region ?_ | refine R.zb ttok ?_ | refine R.zu ttok ?_ | refine R.zc ttok ?_ | refine R.za ttok ?_ | refine R.zx ?_ | refine R.zl ttok ?_ | refine R.zs ttok ?_ | refine R.z ttok ?_ | refine R.zk ?_ | refine R.zn ?_ | refine R.done ?_ | refine X.then ?_ | refine C.block ?_ | refine C.ret ?_ | refine C.skip ?_ | refine C.exit ?_ | refine X.pass_ret ?_ | refine X.pass_exit ?_ | refine X.block_normal ?_ | refine X.block_ret ?_ | refine X.block_exit ?_ | refine C.zt ?_ | refine C.zf ?_ | refine X.zo ?_)
    refine R.clE [] (put_specR s.r mk x.other x.v hs.rok hrA (by omega)) (zF (zput s.l x.other x.v q.2)) (List.perm_append_comm) (Nat.le_refl _) (fun _ _ => rfl) Try.call60 (by repeat (first | exact HasIn.nil | refine HasIn.same rfl rfl ?_ | refine HasIn.c1 rfl rfl ?_ | refine HasIn.roq rfl rfl ?_ | refine HasIn.other rfl (fun e => by cases e) (fun ρ x w hh => tab_ro hh) ?_ | refine HasIn.other rfl (fun e => by cases e) (fun ρ x w hh => tab_any hh) ?_ | refine HasIn.roAp rfl rfl ?_ | refine HasIn.other rfl (fun e => by cases e) (fun ρ x w hh => cells_any hh) ?_ | refine HasIn.other rfl (fun e => by cases e) (fun ρ x w hh => ro_any hh) ?_)) rfl rfl rfl (fun _ => rfl) rfl (by kernel_rfl) fun r1 hr1 => ?_
    have hcv : Cov (zF s.l) (zF (zput s.l x.other x.v q.2) ++ []) := by rw [List.append_nil]; exact cov_put _ _ _ _
    repeat (first | refine C.seq ?_ | refine C.region ?_ | refine R.zb ttok ?_ | refine R.zu ttok ?_ | refine R.zc ttok ?_ | refine R.za ttok ?_ | refine R.zx ?_ | refine R.zl ttok ?_ | refine R.zs ttok ?_ | refine R.z ttok ?_ | refine R.zk ?_ | refine R.zn ?_ | refine R.done ?_ | refine X.then ?_ | refine C.block ?_ | refine C.ret ?_ | refine C.skip ?_ | refine C.exit ?_ | refine X.pass_ret ?_ | refine X.pass_exit ?_ | refine X.block_normal ?_ | refine X.block_ret ?_ | refine X.block_exit ?_ | refine C.zt ?_ | refine C.zf ?_ | refine X.zo ?_)
    refine X.fperm (fs2 := zF (zput s.l x.other x.v q.2) ++ (rF r1 ++ [])) (by rw [List.append_nil]; exact List.perm_append_comm) ?_
    refine X.finF ttok (⟨zput s.l x.other x.v q.2, q.1, r1⟩, []) [(2, 5)] ⟨hs.put hr1.1 hr1.2 hq.1 hq.2, put_le _ _ _ _, hcv, (fun p hp => by cases hp), hr1.2.trans (if_neg hv).symm⟩ rfl rfl rfl (by repeat (first | exact HasH.nil | refine HasH.same rfl rfl rfl trivial ?_ | refine HasH.same rfl rfl rfl rfl ?_ | refine HasH.same rfl rfl rfl (fun _ _ => rfl) ?_ | refine HasH.ros rfl rfl ?_)) _ (by first | exact .inl rfl | exact .inr rfl) ?_ ?_ ?_
    · exact fun w' hf => hf.ap
    · exact fun p hp => hp
    · exact cov_all hcv
end Go.Proofs.Yteabncomclgncaa
namespace Go.Proofs.Yteabncomclgncaa
set_option linter.unusedVariables false
set_option linter.unusedSimpArgs false
open Go.RowKit
set_option maxRecDepth 100000
set_option maxHeartbeats 8000000
abbrev bT : TypeId := 4
theorem slA_eq (s : Sl Int) : eqA tt 6 slT (.agg (slA s)) (.agg (slA s)) = some true := by
  show some ((decide (s.c0 = s.c0) && (decide (s.c1 = s.c1) && true)) && (((s.h0 == s.h0) && ((s.h1 == s.h1) && true)) && (decide (b01 s.rd = b01 s.rd) && (decide (b01 s.wr = b01 s.wr) && true)))) = some true
  simp
section
variable {P : Program} {ops : Array Oper} {Q : Exit → Act → World → Prop} {D : Option DD} {E : Base} {n L : Nat} {τ : List (Nat × AV)} {h : List (Nat × AO)} {F : World → Prop} {rest : List Oper}
theorem R.dropD (l : Nat) (k : R P ops Q D E n L τ ((l, .gone) :: h) F rest) : R P ops Q D E n L τ h F rest :=
  R.renew (α := Unit) L (fun _ => τ) (fun _ => (l, .gone) :: h) (fun _ => F) (fun _ => True) (Nat.le_refl L) (fun ρ a w g => ⟨(), ρ, trivial, fun _ _ => rfl, g.drop hk_dropped⟩) (fun _ _ => k)
end
/-- what is held above a text -/
def abZ (l : ZL) (mk : Bool) (k : ByteArray) : ByteArray × Int × Bool := if mk then hdV (hdZ l (aboveN l k)) else (noT, 0, false)
section
variable {s : PS} {mk : Bool} (hs : s.ok mk)
include hs
theorem PS.ok.get (k : ByteArray) : getR s.r.l k = getV s.l k := by rw [hs.rl]; exact plZ_getR hs.dz k
theorem PS.ok.live (k : ByteArray) : liveR s.r.l k = isV s.l k := by rw [hs.rl]; exact plZ_live _ k
theorem PS.ok.next (k : ByteArray) : nxV (fdP s.r.l (nxP k) 0) = nxK s.l (aboveN s.l k) := by rw [hs.rl]; exact plZ_next hs.asc k
theorem PS.ok.slo (k : ByteArray) : sloR s.r.l k = sloV s.l k := by rw [hs.rl]; exact plZ_slo _ k
theorem PS.ok.has (k : ByteArray) : hasK s.r.l k = hasK s.l k := by rw [hs.rl]; exact plZ_has _ k
theorem PS.ok.len : (keptP s.r.l).length = (VZ s.l).length := by rw [hs.rl]; exact plZ_keptL _
theorem PS.ok.above (k : ByteArray) : abV (abF s.r.l mk k) = abZ s.l mk k := by
  rw [hs.rl]
  unfold abF abZ
  cases mk with
  | true => exact plZ_above hs.asc k
  | false => rfl
end
theorem alike_spec (s : PS) (mk : Bool) (k : ByteArray) (hs : s.ok mk) (hl : s.l.length ≤ 800000) :
    SpecF Try.prog 33 [.ptr 0 0 0 0, s.r.v mk, .raw (.string k)] [tbAZ 1 s.l.length s.c ((VZ s.l).length : Nat) mk, roTZ s.l] 2 (zF s.l ++ rF s.r) (σ := Unit) (fun _ => True)
    (fun _ => .raw (.bool true)) (fun _ => []) (fun _ => zF s.l ++ rF s.r) := by
  refine SpecF.of Try.func33 rfl Try.ntmps33 rfl (bdl_cons (roA_bd rfl) (bdl_cons (fun _ _ => rfl) (bdl_nil _))) fun ρ w => ?_
  have hrl := hs.rlen
  have hrA := hs.rA
  repeat (first | refine C.seq ?_ | refine C.region ?_ | refine R.zb ttok ?_ | refine R.zu ttok ?_ | refine R.zc ttok ?_ | refine R.za ttok ?_ | refine R.zx ?_ | refine R.zl ttok ?_ | refine R.zs ttok ?_ | refine R.z ttok ?_ | refine R.zk ?_ | refine R.zn ?_ | refine R.done ?_ | refine X.then ?_ | refine C.block ?_ | refine C.ret ?_ | refine C.skip ?_ | refine C.exit ?_ | refine X.pass_ret ?_ | refine X.pass_exit ?_ | refine X.block_normal ?_ | refine X.block_ret ?_ | refine X.block_exit ?_ | refine C.zt ?_ | refine C.zf ?_ | refine X.zo ?_)
  refine R.clE [0, 1] (get_specZ s.l s.c k hs.asc (by omega)) (rF s.r) (.refl _) (Nat.le_refl _) (fun _ _ => rfl) Try.call21 (by repeat (first | exact HasIn.nil | refine HasIn.same rfl rfl ?_ | refine HasIn.c1 rfl rfl ?_ | refine HasIn.roq rfl rfl ?_ | refine HasIn.other rfl (fun e => by cases e) (fun ρ x w hh => tab_ro hh) ?_ | refine HasIn.other rfl (fun e => by cases e) (fun ρ x w hh => tab_any hh) ?_ | refine HasIn.roAp rfl rfl ?_ | refine HasIn.other rfl (fun e => by cases e) (fun ρ x w hh => cells_any hh) ?_ | refine HasIn.other rfl (fun e => by cases e) (fun ρ x w hh => ro_any hh) ?_)) rfl rfl rfl (fun _ => rfl) rfl (by kernel_rfl) fun _ _ => ?_
  repeat (first | refine C.seq ?_ | refine C.region ?_ | refine R.zb ttok ?_ | refine R.zu ttok ?_ | refine R.zc ttok ?_ | refine R.za ttok ?_ | refine R.zx ?_ | refine R.zl ttok ?_ | refine R.zs ttok ?_ | refine R.z ttok ?_ | refine R.zk ?_ | refine R.zn ?_ | refine R.done ?_ | refine X.then ?_ | refine C.block ?_ | refine C.ret ?_ | refine C.skip ?_ | refine C.exit ?_ | refine X.pass_ret ?_ | refine X.pass_exit ?_ | refine X.block_normal ?_ | refine X.block_ret ?_ | refine X.block_exit ?_ | refine C.zt ?_ | refine C.zf ?_ | refine X.zo ?_)
  refine R.labR 26 s.r hs.rok (fun p hp => List.mem_append_right _ hp) rfl ?_
  repeat (first | refine C.seq ?_ | refine C.region ?_ | refine R.zb ttok ?_ | refine R.zu ttok ?_ | refine R.zc ttok ?_ | refine R.za ttok ?_ | refine R.zx ?_ | refine R.zl ttok ?_ | refine R.zs ttok ?_ | refine R.z ttok ?_ | refine R.zk ?_ | refine R.zn ?_ | refine R.done ?_ | refine X.then ?_ | refine C.block ?_ | refine C.ret ?_ | refine C.skip ?_ | refine C.exit ?_ | refine X.pass_ret ?_ | refine X.pass_exit ?_ | refine X.block_normal ?_ | refine X.block_ret ?_ | refine X.block_exit ?_ | refine C.zt ?_ | refine C.zf ?_ | refine X.zo ?_)
  refine R.cl [3] (get_specR s.r.l s.r.c mk k hrA (by omega)) Try.call66 (by repeat (first | exact HasIn.nil | refine HasIn.same rfl rfl ?_ | refine HasIn.bro rfl ?_ | refine HasIn.ror rfl ?_ | refine HasIn.cro rfl rfl ?_)) rfl rfl rfl (fun _ => rfl) rfl (by kernel_rfl) fun _ _ => ?_
  rw [hs.get, hs.live]
  refine R.drop 3 ?_
  repeat (first | refine C.seq ?_ | refine C.region ?_ | refine R.zb ttok ?_ | refine R.zu ttok ?_ | refine R.zc ttok ?_ | refine R.za ttok ?_ | refine R.zx ?_ | refine R.zl ttok ?_ | refine R.zs ttok ?_ | refine R.z ttok ?_ | refine R.zk ?_ | refine R.zn ?_ | refine R.done ?_ | refine X.then ?_ | refine C.block ?_ | refine C.ret ?_ | refine C.skip ?_ | refine C.exit ?_ | refine X.pass_ret ?_ | refine X.pass_exit ?_ | refine X.block_normal ?_ | refine X.block_ret ?_ | refine X.block_exit ?_ | refine C.zt ?_ | refine C.zf ?_ | refine X.zo ?_)
  refine R.clE [0, 1] (next_specZ s.l s.c k hs.asc (by omega)) (rF s.r) (.refl _) (Nat.le_refl _) (fun _ _ => rfl) Try.call38 (by repeat (first | exact HasIn.nil | refine HasIn.same rfl rfl ?_ | refine HasIn.c1 rfl rfl ?_ | refine HasIn.roq rfl rfl ?_ | refine HasIn.other rfl (fun e => by cases e) (fun ρ x w hh => tab_ro hh) ?_ | refine HasIn.other rfl (fun e => by cases e) (fun ρ x w hh => tab_any hh) ?_ | refine HasIn.roAp rfl rfl ?_ | refine HasIn.other rfl (fun e => by cases e) (fun ρ x w hh => cells_any hh) ?_ | refine HasIn.other rfl (fun e => by cases e) (fun ρ x w hh => ro_any hh) ?_)) rfl rfl rfl (fun _ => rfl) rfl (by kernel_rfl) fun _ _ => ?_
  repeat (first | refine C.seq ?_ | refine C.region ?_ | refine R.zb ttok ?_ | refine R.zu ttok ?_ | refine R.zc ttok ?_ | refine R.za ttok ?_ | refine R.zx ?_ | refine R.zl ttok ?_ | refine R.zs ttok ?_ | refine R.z ttok ?_ | refine R.zk ?_ | refine R.zn ?_ | refine R.done ?_ | refine X.then ?_ | refine C.block ?_ | refine C.ret ?_ | refine C.skip ?_ | refine C.exit ?_ | refine X.pass_ret ?_ | refine X.pass_exit ?_ | refine X.block_normal ?_ | refine X.block_ret ?_ | refine X.block_exit ?_ | refine C.zt ?_ | refine C.zf ?_ | refine X.zo ?_)
  refine R.labR 38 s.r hs.rok (fun p hp => List.mem_append_right _ hp) rfl ?_
  repeat (first | refine C.seq ?_ | refine C.region ?_ | refine R.zb ttok ?_ | refine R.zu ttok ?_ | refine R.zc ttok ?_ | refine R.za ttok ?_ | refine R.zx ?_ | refine R.zl ttok ?_ | refine R.zs ttok ?_ | refine R.z ttok ?_ | refine R.zk ?_ | refine R.zn ?_ | refine R.done ?_ | refine X.then ?_ | refine C.block ?_ | refine C.ret ?_ | refine C.skip ?_ | refine C.exit ?_ | refine X.pass_ret ?_ | refine X.pass_exit ?_ | refine X.block_normal ?_ | refine X.block_ret ?_ | refine X.block_exit ?_ | refine C.zt ?_ | refine C.zf ?_ | refine X.zo ?_)
  refine R.cl [4] (next_specR s.r.l s.r.c mk k (by omega)) Try.call67 (by repeat (first | exact HasIn.nil | refine HasIn.same rfl rfl ?_ | refine HasIn.bro rfl ?_ | refine HasIn.ror rfl ?_ | refine HasIn.cro rfl rfl ?_)) rfl rfl rfl (fun _ => rfl) rfl (by kernel_rfl) fun _ _ => ?_
  rw [hs.next]
  refine R.drop 4 ?_
  repeat (first | refine C.seq ?_ | refine C.region ?_ | refine R.zb ttok ?_ | refine R.zu ttok ?_ | refine R.zc ttok ?_ | refine R.za ttok ?_ | refine R.zx ?_ | refine R.zl ttok ?_ | refine R.zs ttok ?_ | refine R.z ttok ?_ | refine R.zk ?_ | refine R.zn ?_ | refine R.done ?_ | refine X.then ?_ | refine C.block ?_ | refine C.ret ?_ | refine C.skip ?_ | refine C.exit ?_ | refine X.pass_ret ?_ | refine X.pass_exit ?_ | refine X.block_normal ?_ | refine X.block_ret ?_ | refine X.block_exit ?_ | refine C.zt ?_ | refine C.zf ?_ | refine X.zo ?_)
  refine R.clE [0, 1] (slot_specZ s.l s.c k hs.asc (by omega)) (rF s.r) (.refl _) (Nat.le_refl _) (fun _ _ => rfl) Try.call39 (by repeat (first | exact HasIn.nil | refine HasIn.same rfl rfl ?_ | refine HasIn.c1 rfl rfl ?_ | refine HasIn.roq rfl rfl ?_ | refine HasIn.other rfl (fun e => by cases e) (fun ρ x w hh => tab_ro hh) ?_ | refine HasIn.other rfl (fun e => by cases e) (fun ρ x w hh => tab_any hh) ?_ | refine HasIn.roAp rfl rfl ?_ | refine HasIn.other rfl (fun e => by cases e) (fun ρ x w hh => cells_any hh) ?_ | refine HasIn.other rfl (fun e => by cases e) (fun ρ x w hh => ro_any hh) ?_)) rfl rfl rfl (fun _ => rfl) rfl (by kernel_rfl) fun _ _ => ?_
  repeat (first | refine C.seq ?_ | refine C.region ?_ | refine R.zb ttok ?_ | refine R.zu ttok ?_ | refine R.zc ttok ?_ | refine R.za ttok ?_ | refine R.zx ?_ | refine R.zl ttok ?_ | refine R.zs ttok ?_ | refine R.z ttok ?_ | refine R.zk ?_ | refine R.zn ?_ | refine R.done ?_ | refine X.then ?_ | refine C.block ?_ | refine C.ret ?_ | refine C.skip ?_ | refine C.exit ?_ | refine X.pass_ret ?_ | refine X.pass_exit ?_ | refine X.block_normal ?_ | refine X.block_ret ?_ | refine X.block_exit ?_ | refine C.zt ?_ | refine C.zf ?_ | refine X.zo ?_)
  refine R.labR 50 s.r hs.rok (fun p hp => List.mem_append_right _ hp) rfl ?_
  repeat (first | refine C.seq ?_ | refine C.region ?_ | refine R.zb ttok ?_ | refine R.zu ttok ?_ | refine R.zc ttok ?_ | refine R.za ttok ?_ | refine R.zx ?_ | refine R.zl ttok ?_ | refine R.zs ttok ?_ | refine R.z ttok ?_ | refine R.zk ?_ | refine R.zn ?_ | refine R.done ?_ | refine X.then ?_ | refine C.block ?_ | refine C.ret ?_ | refine C.skip ?_ | refine C.exit ?_ | refine X.pass_ret ?_ | refine X.pass_exit ?_ | refine X.block_normal ?_ | refine X.block_ret ?_ | refine X.block_exit ?_ | refine C.zt ?_ | refine C.zf ?_ | refine X.zo ?_)
  refine R.cl [6] (slot_specR s.r.l s.r.c mk k hrA (by omega)) Try.call68 (by repeat (first | exact HasIn.nil | refine HasIn.same rfl rfl ?_ | refine HasIn.bro rfl ?_ | refine HasIn.ror rfl ?_ | refine HasIn.cro rfl rfl ?_)) rfl rfl rfl (fun _ => rfl) rfl (by kernel_rfl) fun _ _ => ?_
  rw [hs.slo, hs.has]
  refine R.drop 6 ?_
  repeat (first | refine C.seq ?_ | refine C.region ?_ | refine R.zb ttok ?_ | refine R.zu ttok ?_ | refine R.zc ttok ?_ | refine R.za ttok ?_ | refine R.zx ?_ | refine R.zl ttok ?_ | refine R.zs ttok ?_ | refine R.z ttok ?_ | refine R.zk ?_ | refine R.zn ?_ | refine R.done ?_ | refine X.then ?_ | refine C.block ?_ | refine C.ret ?_ | refine C.skip ?_ | refine C.exit ?_ | refine X.pass_ret ?_ | refine X.pass_exit ?_ | refine X.block_normal ?_ | refine X.block_ret ?_ | refine X.block_exit ?_ | refine C.zt ?_ | refine C.zf ?_ | refine X.zo ?_)
  refine C.draw [[], [], [0, 1], [0, 1, 2], [0, 1, 2, 3], [0, 1, 2, 3], [0, 1, 2, 3, 4, 5], [0, 1, 2, 3, 4, 5, 6], [0, 1, 2, 3, 4, 5, 6, 7], [0, 1, 2, 3, 4, 5, 6, 7, 8], [0, 1, 2, 3, 4, 5, 6, 7, 8], [0, 1, 2, 3, 4, 5, 6, 7, 8, 9, 10], [0, 1, 2, 3, 4, 5, 6, 7, 8, 9, 10, 11], [0, 1, 2, 3, 4, 5, 6, 7, 8, 9, 10, 11, 12], [0, 1, 2, 3, 4, 5, 6, 7, 8, 9, 10, 11, 12, 13], [0, 1, 2, 3, 4, 5, 6, 7, 8, 9, 10, 11, 12, 13], [0, 1, 2, 3, 4, 5, 6, 7, 8, 9, 10, 11, 12, 13, 14, 15], [0, 1, 2, 3, 4, 5, 6, 7, 8, 9, 10, 11, 12, 13, 14, 15, 16], [0, 1, 2, 3, 4, 5, 6, 7, 8, 9, 10, 11, 12, 13, 14, 15, 16, 17], [0, 1, 2, 3, 4, 5, 6, 7, 8, 9, 10, 11, 12, 13, 14, 15, 16, 17, 18], [0, 1, 2, 3, 4, 5, 6, 7, 8, 9, 10, 11, 12, 13, 14, 15, 16, 17, 18], [0, 1, 2, 3, 4, 5, 6, 7, 8, 9, 10, 11, 12, 13, 14, 15, 16, 17, 18, 19, 20], [0, 1, 2, 3, 4, 5, 6, 7, 8, 9, 10, 11, 12, 13, 14, 15, 16, 17, 18, 19, 20, 21], [0, 1, 2, 3, 4, 5, 6, 7, 8, 9, 10, 11, 12, 13, 14, 15, 16, 17, 18, 19, 20, 21, 22], [0, 1, 2, 3, 4, 5, 6, 7, 8, 9, 10, 11, 12, 13, 14, 15, 16, 17, 18, 19, 20, 21, 22, 23], [0, 1, 2, 3, 4, 5, 6, 7, 8, 9, 10, 11, 12, 13, 14, 15, 16, 17, 18, 19, 20, 21, 22, 23], [0, 1, 2, 3, 4, 5, 6, 7, 8, 9, 10, 11, 12, 13, 14, 15, 16, 17, 18, 19, 20, 21, 22, 23, 24, 25], [0, 1, 2, 3, 4, 5, 6, 7, 8, 9, 10, 11, 12, 13, 14, 15, 16, 17, 18, 19, 20, 21, 22, 23, 24, 25, 26], [0, 1, 2, 3, 4, 5, 6, 7, 8, 9, 10, 11, 12, 13, 14, 15, 16, 17, 18, 19, 20, 21, 22, 23, 24, 25, 26, 27], [0, 1, 2, 3, 4, 5, 6, 7, 8, 9, 10, 11, 12, 13, 14, 15, 16, 17, 18, 19, 20, 21, 22, 23, 24, 25, 26, 27, 28], [0, 1, 2, 3, 4, 5, 6, 7, 8, 9, 10, 11, 12, 13, 14, 15, 16, 17, 18, 19, 20, 21, 22, 23, 24, 25, 26, 27, 28, 29], [0, 1, 2, 3, 4, 5, 6, 7, 8, 9, 10, 11, 12, 13, 14, 15, 16, 17, 18, 19, 20, 21, 22, 23, 24, 25, 26, 27, 28], [0, 1, 2, 3, 4, 5, 6, 7, 8, 9, 10, 11, 12, 13, 14, 15, 16, 17, 18, 19, 20, 21, 22, 23, 24, 25, 26, 27, 28, 29, 30, 31], [0, 1, 2, 3, 4, 5, 6, 7, 8, 9, 10, 11, 12, 13, 14, 15, 16, 17, 18, 19, 20, 21, 22, 23, 24, 25, 26, 27, 28, 29, 30, 31, 32], [0, 1, 2, 3, 4, 5, 6, 7, 8, 9, 10, 11, 12, 13, 14, 15, 16, 17, 18, 19, 20, 21, 22, 23, 24, 25, 26, 27, 28, 29, 30, 31, 32, 33], [0, 1, 2, 3, 4, 5, 6, 7, 8, 9, 10, 11, 12, 13, 14, 15, 16, 17, 18, 19, 20, 21, 22, 23, 24, 25, 26, 27, 28, 29, 30, 31, 32, 33, 34], [0, 1, 2, 3, 4, 5, 6, 7, 8, 9, 10, 11, 12, 13, 14, 15, 16, 17, 18, 19, 20, 21, 22, 23, 24, 25, 26, 27, 28, 29, 30, 31, 32, 33, 34, 35], [0, 1, 2, 3, 4, 5, 6, 7, 8, 9, 10, 11, 12, 13, 14, 15, 16, 17, 18, 19, 20, 21, 22, 23, 24, 25, 26, 27, 28, 29, 30, 31, 32, 33, 34, 35, 36], [0, 1, 2, 3, 4, 5, 6, 7, 8, 9, 10, 11, 12, 13, 14, 15, 16, 17, 18, 19, 20, 21, 22, 23, 24, 25, 26, 27, 28, 29, 30, 31, 32, 33, 34, 35], [0, 1, 2, 3, 4, 5, 6, 7, 8, 9, 10, 11, 12, 13, 14, 15, 16, 17, 18, 19, 20, 21, 22, 23, 24, 25, 26, 27, 28, 29, 30, 31, 32, 33, 34, 35, 38], [0, 1, 2, 3, 4, 5, 6, 7, 8, 9, 10, 11, 12, 13, 14, 15, 16, 17, 18, 19, 20, 21, 22, 23, 24, 25, 26, 27, 28, 29, 30, 31, 32, 33, 34, 35, 36, 37, 38, 39], [0, 1, 2, 3, 4, 5, 6, 7, 8, 9, 10, 11, 12, 13, 14, 15, 16, 17, 18, 19, 20, 21, 22, 23, 24, 25, 26, 27, 28, 29, 30, 31, 32, 33, 34, 35, 36, 37, 38, 39, 40], [0, 1, 2, 3, 4, 5, 6, 7, 8, 9, 10, 11, 12, 13, 14, 15, 16, 17, 18, 19, 20, 21, 22, 23, 24, 25, 26, 27, 28, 29, 30, 31, 32, 33, 34, 35, 36, 37, 38, 39, 40, 41]] [30, 32, 37] (by kernel_rfl) (by kernel_rfl) ?_
  repeat (first | refine C.seq ?_ | refine C.region ?_ | refine R.zb ttok ?_ | refine R.zu ttok ?_ | refine R.zc ttok ?_ | refine R.za ttok ?_ | refine R.zx ?_ | refine R.zl ttok ?_ | refine R.zs ttok ?_ | refine R.z ttok ?_ | refine R.zk ?_ | refine R.zn ?_ | refine R.done ?_ | refine X.then ?_ | refine C.block ?_ | refine C.ret ?_ | refine C.skip ?_ | refine C.exit ?_ | refine X.pass_ret ?_ | refine X.pass_exit ?_ | refine X.block_normal ?_ | refine X.block_ret ?_ | refine X.block_exit ?_ | refine C.zt ?_ | refine C.zf ?_ | refine X.zo ?_)
  rw [decide_eq_true (rfl : getV s.l k = getV s.l k)]
  repeat (first | refine C.seq ?_ | refine C.region ?_ | refine R.zb ttok ?_ | refine R.zu ttok ?_ | refine R.zc ttok ?_ | refine R.za ttok ?_ | refine R.zx ?_ | refine R.zl ttok ?_ | refine R.zs ttok ?_ | refine R.z ttok ?_ | refine R.zk ?_ | refine R.zn ?_ | refine R.done ?_ | refine X.then ?_ | refine C.block ?_ | refine C.ret ?_ | refine C.skip ?_ | refine C.exit ?_ | refine X.pass_ret ?_ | refine X.pass_exit ?_ | refine X.block_normal ?_ | refine X.block_ret ?_ | refine X.block_exit ?_ | refine C.zt ?_ | refine C.zf ?_ | refine X.zo ?_)
  rw [beq_self_eq_true (isV s.l k)]
  repeat (first | refine C.seq ?_ | refine C.region ?_ | refine R.zb ttok ?_ | refine R.zu ttok ?_ | refine R.zc ttok ?_ | refine R.za ttok ?_ | refine R.zx ?_ | refine R.zl ttok ?_ | refine R.zs ttok ?_ | refine R.z ttok ?_ | refine R.zk ?_ | refine R.zn ?_ | refine R.done ?_ | refine X.then ?_ | refine C.block ?_ | refine C.ret ?_ | refine C.skip ?_ | refine C.exit ?_ | refine X.pass_ret ?_ | refine X.pass_exit ?_ | refine X.block_normal ?_ | refine X.block_ret ?_ | refine X.block_exit ?_ | refine C.zt ?_ | refine C.zf ?_ | refine X.zo ?_)
  rw [decide_eq_true (rfl : (nxK s.l (aboveN s.l k)).1.toList = (nxK s.l (aboveN s.l k)).1.toList)]
  repeat (first | refine C.seq ?_ | refine C.region ?_ | refine R.zb ttok ?_ | refine R.zu ttok ?_ | refine R.zc ttok ?_ | refine R.za ttok ?_ | refine R.zx ?_ | refine R.zl ttok ?_ | refine R.zs ttok ?_ | refine R.z ttok ?_ | refine R.zk ?_ | refine R.zn ?_ | refine R.done ?_ | refine X.then ?_ | refine C.block ?_ | refine C.ret ?_ | refine C.skip ?_ | refine C.exit ?_ | refine X.pass_ret ?_ | refine X.pass_exit ?_ | refine X.block_normal ?_ | refine X.block_ret ?_ | refine X.block_exit ?_ | refine C.zt ?_ | refine C.zf ?_ | refine X.zo ?_)
  rw [beq_self_eq_true (nxK s.l (aboveN s.l k)).2]
  repeat (first | refine C.seq ?_ | refine C.region ?_ | refine R.zb ttok ?_ | refine R.zu ttok ?_ | refine R.zc ttok ?_ | refine R.za ttok ?_ | refine R.zx ?_ | refine R.zl ttok ?_ | refine R.zs ttok ?_ | refine R.z ttok ?_ | refine R.zk ?_ | refine R.zn ?_ | refine R.done ?_ | refine X.then ?_ | refine C.block ?_ | refine C.ret ?_ | refine C.skip ?_ | refine C.exit ?_ | refine X.pass_ret ?_ | refine X.pass_exit ?_ | refine X.block_normal ?_ | refine X.block_ret ?_ | refine X.block_exit ?_ | refine C.zt ?_ | refine C.zf ?_ | refine X.zo ?_)
  refine R.eqs ttok true rfl rfl (by kernel_rfl) (by kernel_rfl) (slA_eq _) rfl (by kernel_rfl) ?_
  repeat (first | refine C.seq ?_ | refine C.region ?_ | refine R.zb ttok ?_ | refine R.zu ttok ?_ | refine R.zc ttok ?_ | refine R.za ttok ?_ | refine R.zx ?_ | refine R.zl ttok ?_ | refine R.zs ttok ?_ | refine R.z ttok ?_ | refine R.zk ?_ | refine R.zn ?_ | refine R.done ?_ | refine X.then ?_ | refine C.block ?_ | refine C.ret ?_ | refine C.skip ?_ | refine C.exit ?_ | refine X.pass_ret ?_ | refine X.pass_exit ?_ | refine X.block_normal ?_ | refine X.block_ret ?_ | refine X.block_exit ?_ | refine C.zt ?_ | refine C.zf ?_ | refine X.zo ?_)
  rw [beq_self_eq_true (hasK s.l k)]
  repeat (first | refine C.seq ?_ | refine C.region ?_ | refine R.zb ttok ?_ | refine R.zu ttok ?_ | refine R.zc ttok ?_ | refine R.za ttok ?_ | refine R.zx ?_ | refine R.zl ttok ?_ | refine R.zs ttok ?_ | refine R.z ttok ?_ | refine R.zk ?_ | refine R.zn ?_ | refine R.done ?_ | refine X.then ?_ | refine C.block ?_ | refine C.ret ?_ | refine C.skip ?_ | refine C.exit ?_ | refine X.pass_ret ?_ | refine X.pass_exit ?_ | refine X.block_normal ?_ | refine X.block_ret ?_ | refine X.block_exit ?_ | refine C.zt ?_ | refine C.zf ?_ | refine X.zo ?_)
  refine R.cl [0, 1] (len_specZ s.c 0 ((VZ s.l).length : Nat) s.l.length mk) Try.call40 (by repeat (first | exact HasIn.nil | refine HasIn.same rfl rfl ?_ | refine HasIn.c1 rfl rfl ?_ | refine HasIn.roq rfl rfl ?_ | refine HasIn.other rfl (fun e => by cases e) (fun ρ x w hh => tab_ro hh) ?_ | refine HasIn.other rfl (fun e => by cases e) (fun ρ x w hh => tab_any hh) ?_ | refine HasIn.roAp rfl rfl ?_ | refine HasIn.other rfl (fun e => by cases e) (fun ρ x w hh => cells_any hh) ?_ | refine HasIn.other rfl (fun e => by cases e) (fun ρ x w hh => ro_any hh) ?_)) rfl rfl rfl (fun _ => rfl) rfl (by kernel_rfl) fun _ _ => ?_
  repeat (first | refine C.seq ?_ | refine C.region ?_ | refine R.zb ttok ?_ | refine R.zu ttok ?_ | refine R.zc ttok ?_ | refine R.za ttok ?_ | refine R.zx ?_ | refine R.zl ttok ?_ | refine R.zs ttok ?_ | refine R.z ttok ?_ | refine R.zk ?_ | refine R.zn ?_ | refine R.done ?_ | refine X.then ?_ | refine C.block ?_ | refine C.ret ?_ | refine C.skip ?_ | refine C.exit ?_ | refine X.pass_ret ?_ | refine X.pass_exit ?_ | refine X.block_normal ?_ | refine X.block_ret ?_ | refine X.block_exit ?_ | refine C.zt ?_ | refine C.zf ?_ | refine X.zo ?_)
  refine R.labR 86 s.r hs.rok (fun p hp => List.mem_append_right _ hp) rfl ?_
  refine R.cl [8] (len_specR s.r.l s.r.c mk (by omega)) Try.call69 (by repeat (first | exact HasIn.nil | refine HasIn.same rfl rfl ?_ | refine HasIn.bro rfl ?_ | refine HasIn.ror rfl ?_ | refine HasIn.cro rfl rfl ?_)) rfl rfl rfl (fun _ => rfl) rfl (by kernel_rfl) fun _ _ => ?_
  rw [hs.len]
  repeat (first | refine C.seq ?_ | refine C.region ?_ | refine R.zb ttok ?_ | refine R.zu ttok ?_ | refine R.zc ttok ?_ | refine R.za ttok ?_ | refine R.zx ?_ | refine R.zl ttok ?_ | refine R.zs ttok ?_ | refine R.z ttok ?_ | refine R.zk ?_ | refine R.zn ?_ | refine R.done ?_ | refine X.then ?_ | refine C.block ?_ | refine C.ret ?_ | refine C.skip ?_ | refine C.exit ?_ | refine X.pass_ret ?_ | refine X.pass_exit ?_ | refine X.block_normal ?_ | refine X.block_ret ?_ | refine X.block_exit ?_ | refine C.zt ?_ | refine C.zf ?_ | refine X.zo ?_)
  rw [decide_eq_true (rfl : (((VZ s.l).length : Nat) : Int) = (((VZ s.l).length : Nat) : Int))]
  repeat (first | refine C.seq ?_ | refine C.region ?_ | refine R.zb ttok ?_ | refine R.zu ttok ?_ | refine R.zc ttok ?_ | refine R.za ttok ?_ | refine R.zx ?_ | refine R.zl ttok ?_ | refine R.zs ttok ?_ | refine R.z ttok ?_ | refine R.zk ?_ | refine R.zn ?_ | refine R.done ?_ | refine X.then ?_ | refine C.block ?_ | refine C.ret ?_ | refine C.skip ?_ | refine C.exit ?_ | refine X.pass_ret ?_ | refine X.pass_exit ?_ | refine X.block_normal ?_ | refine X.block_ret ?_ | refine X.block_exit ?_ | refine C.zt ?_ | refine C.zf ?_ | refine X.zo ?_)
  refine R.cl [0, 1] (marked_specZ s.c ((VZ s.l).length : Nat) s.l.length mk) Try.call31 (by repeat (first | exact HasIn.nil | refine HasIn.same rfl rfl ?_ | refine HasIn.c1 rfl rfl ?_ | refine HasIn.roq rfl rfl ?_ | refine HasIn.other rfl (fun e => by cases e) (fun ρ x w hh => tab_ro hh) ?_ | refine HasIn.other rfl (fun e => by cases e) (fun ρ x w hh => tab_any hh) ?_ | refine HasIn.roAp rfl rfl ?_ | refine HasIn.other rfl (fun e => by cases e) (fun ρ x w hh => cells_any hh) ?_ | refine HasIn.other rfl (fun e => by cases e) (fun ρ x w hh => ro_any hh) ?_)) rfl rfl rfl (fun _ => rfl) rfl (by kernel_rfl) fun _ _ => ?_
  repeat (first | refine C.seq ?_ | refine C.region ?_ | refine R.zb ttok ?_ | refine R.zu ttok ?_ | refine R.zc ttok ?_ | refine R.za ttok ?_ | refine R.zx ?_ | refine R.zl ttok ?_ | refine R.zs ttok ?_ | refine R.z ttok ?_ | refine R.zk ?_ | refine R.zn ?_ | refine R.done ?_ | refine X.then ?_ | refine C.block ?_ | refine C.ret ?_ | refine C.skip ?_ | refine C.exit ?_ | refine X.pass_ret ?_ | refine X.pass_exit ?_ | refine X.block_normal ?_ | refine X.block_ret ?_ | refine X.block_exit ?_ | refine C.zt ?_ | refine C.zf ?_ | refine X.zo ?_)
  rw [beq_self_eq_true mk]
  repeat (first | refine C.seq ?_ | refine C.region ?_ | refine R.zb ttok ?_ | refine R.zu ttok ?_ | refine R.zc ttok ?_ | refine R.za ttok ?_ | refine R.zx ?_ | refine R.zl ttok ?_ | refine R.zs ttok ?_ | refine R.z ttok ?_ | refine R.zk ?_ | refine R.zn ?_ | refine R.done ?_ | refine X.then ?_ | refine C.block ?_ | refine C.ret ?_ | refine C.skip ?_ | refine C.exit ?_ | refine X.pass_ret ?_ | refine X.pass_exit ?_ | refine X.block_normal ?_ | refine X.block_ret ?_ | refine X.block_exit ?_ | refine C.zt ?_ | refine C.zf ?_ | refine X.zo ?_)
  refine X.finF ttok () [] trivial rfl rfl rfl (by repeat (first | exact HasH.nil | refine HasH.same rfl rfl rfl trivial ?_ | refine HasH.same rfl rfl rfl rfl ?_ | refine HasH.same rfl rfl rfl (fun _ _ => rfl) ?_ | refine HasH.ros rfl rfl ?_)) _ (by first | exact .inl rfl | exact .inr rfl) ?_ ?_ ?_
  · exact fun w' hf => hf.ap
  · exact fun p hp => hp
  · exact fun p hp e => ⟨p, hp, rfl⟩
end Go.Proofs.Yteabncomclgncaa
namespace Go.Proofs.Yteabncomclgncaa
set_option linter.unusedVariables false
set_option linter.unusedSimpArgs false
open Go.RowKit
set_option maxRecDepth 100000
set_option maxHeartbeats 8000000
theorem nxK_live {l : ZL} {i : Nat} (h : i < l.length) (hv : (l.getD i zG).2.2.live = true) : nxK l i = ((l.getD i zG).1, true) := by rw [nxK_step h, if_pos hv]
theorem nxK_dead {l : ZL} {i : Nat} (h : i < l.length) (hv : (l.getD i zG).2.2.live = false) : nxK l i = nxK l (i + 1) := by rw [nxK_step h, if_neg (by rw [hv]; decide)]
theorem nx_is {l : ZL} {k : ByteArray} (h : isV l k = true) : nxK l (plc l k) = (k, true) := by
  obtain ⟨hk, hv⟩ := isV_has h
  rw [nxK_live (hasK_lt hk).1 hv, hasK_key hk]
theorem nx_no {l : ZL} {k : ByteArray} (h : isV l k = false) : nxK l (plc l k) = nxK l (aboveN l k) := by
  unfold aboveN
  cases hk : hasK l k with
  | false => rfl
  | true =>
    rw [if_pos rfl]
    refine nxK_dead (hasK_lt hk).1 ?_
    unfold isV at h
    rw [if_pos hk] at h
    exact h
theorem past_up {to a b : ByteArray} (h : past to a = true) (hab : cmpS a b < 0) : past to b = true := by
  unfold past at h ⊢
  rw [Bool.and_eq_true] at h ⊢
  refine ⟨h.1, ?_⟩
  rw [gt_cmp] at h ⊢
  exact decide_eq_true (cmpS_trans (of_decide_eq_true h.2) hab)
theorem nx_past {l : ZL} (hA : Asc l) {to : ByteArray} : ∀ (m i : Nat), l.length - i = m → (i < l.length → past to (l.getD i zG).1 = true) → (nxK l i).2 = false ∨ past to (nxK l i).1 = true
  | 0, i, hm, _ => .inl (by rw [nxK_end (by omega)])
  | m + 1, i, hm, h => by
    have hlt : i < l.length := by omega
    cases hv : (l.getD i zG).2.2.live with
    | true => rw [nxK_live hlt hv]; exact .inr (h hlt)
    | false =>
      rw [nxK_dead hlt hv]
      exact nx_past hA m (i + 1) (by omega) fun h2 => past_up (h hlt) (asc_lt hA (by omega) h2)
theorem getV_at {l : ZL} (hA : Asc l) {i : Nat} (h : i < l.length) : getV l (l.getD i zG).1 = (l.getD i zG).2.2.get (l.getD i zG).2.2.rd := by
  unfold getV slotV
  rw [if_pos (has_at hA h), plc_at hA h]
def overB (x : StZ) (n : Nat) : Bool := decide ((n : Int) = x.n) || decide ((n : Int) > 200)
theorem overB_no {x : StZ} {n : Nat} (h : overB x n = false) : n ≤ 200 := by
  unfold overB at h
  rw [Bool.or_eq_false_iff] at h
  have := of_decide_eq_false h.2
  omega
/-- the first that lives, from a place on -/
def nxQ (r : PL) (i : Nat) : ByteArray × Bool := nxV ((r.drop i).find? fun p => p.2.live)
theorem plZ_nx (l : ZL) (i : Nat) : nxQ (plZ l) i = nxK l i := by
  unfold nxQ plZ nxK
  rw [← List.map_drop, List.find?_map]
  show nxV (((l.drop i).find? liveZ).map plP) = match (l.drop i).find? liveZ with | some p => (p.1, true) | none => (⟨#[]⟩, false)
  cases (l.drop i).find? liveZ <;> rfl
/-- a Range whose loop writes, on the document's list -/
def goP (x : StZ) (mk : Bool) : Nat → Nat → PL → ByteArray × Bool → PL
  | 0, _, r, _ => r
  | f + 1, j, r, a => if a.2 = true ∧ past x.to a.1 = false then (if overB x (j + 1) = true then turnP x mk r else goP x mk f (j + 1) (turnP x mk r) (nxV (fdP (turnP x mk r) (nxP a.1) 0))) else r
theorem goP_step {x : StZ} {mk : Bool} {j : Nat} {r : PL} {k : ByteArray} (hj : j ≤ 200) (hp : past x.to k = false) : goP x mk (202 - j) j r (k, true) = if overB x (j + 1) = true then turnP x mk r else goP x mk (202 - (j + 1)) (j + 1) (turnP x mk r) (nxV (fdP (turnP x mk r) (nxP k) 0)) := by
  have e : 202 - j = (202 - (j + 1)) + 1 := by omega
  rw [e, goP, if_pos ⟨rfl, hp⟩]
theorem goP_end {x : StZ} {mk : Bool} {f j : Nat} {r : PL} {a : ByteArray × Bool} (h : a.2 = false ∨ past x.to a.1 = true) : goP x mk f j r a = r := by
  cases f with
  | zero => rfl
  | succ f =>
    rw [goP, if_neg (fun e => by rcases h with h | h; · rw [h] at e; cases e.1
                                 · rw [h] at e; cases e.2)]
def rangedP (x : StZ) (mk : Bool) (r : PL) : PL := goP x mk 202 0 r (nxQ r (plc r x.key))
abbrev tnF : FuncId := 87
theorem tn_call (args : Array Value) (w : World) : (callFunc tnF args).run Try.prog w = .ok (.enter tnF args) w := Try.call87 args w
theorem tn1_spec (s : PS) (mk : Bool) (x : StZ) (k : ByteArray) (v : Int) (n : Nat) (hs : s.ok mk) (hl : s.l.length ≤ 800000) (hv : isV s.l k = true) (hvv : getV s.l k = v) (hp : past x.to k = false) (hn : n ≤ 100000) :
    SpecF Try.prog 87 [.raw (.string k), .raw (.int .i64 v), .ptr 2 0 0 0, .ptr 3 0 0 0, .ptr 4 0 0 0, .ptr 5 0 0 0, .ptr 6 0 0 0, .ptr 7 0 0 0, .ptr 8 0 0 0, .ptr 9 0 0 0]
    [tbIZ 1 s.l.length s.c ((VZ s.l).length : Nat) mk, tIZ s.l s.c, .cells [.raw s.r.s, .raw (.bool mk)] rST, .cells [.raw (.string k)] strT, .cells [.raw (.bool true)] bT, .cells [.raw (.bool false)] bT, .cells [.raw (.bool true)] bT, .ro 0 0 1 (fun _ => stZ x), .cells [.raw (.int .i64 (n : Nat))] intT, one0 (.ptr 0 0 0 0)] 11 (zF s.l ++ rF s.r) (σ := PS × Fam) (PSG s mk x)
    (fun _ => .raw (.bool (!overB x (n + 1)))) (fun t => [(0, tbIZ 10 t.1.l.length t.1.c ((VZ t.1.l).length : Nat) mk), (10, tIZ t.1.l t.1.c), (2, .cells [.raw t.1.r.s, .raw (.bool mk)] rST), (3, .cells [.raw (.string (nxK t.1.l (aboveN t.1.l k)).1)] strT), (4, .cells [.raw (.bool true)] bT), (5, .cells [.raw (.bool (overB x (n + 1)))] bT), (6, .cells [.raw (.bool (nxK t.1.l (aboveN t.1.l k)).2)] bT), (8, .cells [.raw (.int .i64 ((n + 1 : Nat) : Int))] intT)]) psF := by
  refine SpecF.of Try.func87 rfl Try.ntmps87 rfl (bdl_cons rfl (bdl_cons (fun _ _ => rfl) (bdl_cons rfl (bdl_cons rfl (bdl_cons rfl (bdl_cons rfl (bdl_cons rfl (bdl_cons (roA_bd rfl) (bdl_cons rfl (bdl_cons (roA_bd rfl) (bdl_nil _))))))))))) fun ρ w => ?_
  have hrl := hs.rlen
  have hrA := hs.rA
  repeat (first | refine C.seq ?_ | refine C.region ?_ | refine R.zb ttok ?_ | refine R.zu ttok ?_ | refine R.zc ttok ?_ | refine R.za ttok ?_ | refine R.zx ?_ | refine R.zl ttok ?_ | refine R.zs ttok ?_ | refine R.z ttok ?_ | refine R.zk ?_ | refine R.zn ?_ | refine R.done ?_ | refine X.then ?_ | refine C.block ?_ | refine C.ret ?_ | refine C.skip ?_ | refine C.exit ?_ | refine X.pass_ret ?_ | refine X.pass_exit ?_ | refine X.block_normal ?_ | refine X.block_ret ?_ | refine X.block_exit ?_ | refine C.zt ?_ | refine C.zf ?_ | refine X.zo ?_)
  refine R.labR 16 s.r hs.rok (fun p hp => List.mem_append_right _ hp) rfl ?_
  repeat (first | refine C.seq ?_ | refine C.region ?_ | refine R.zb ttok ?_ | refine R.zu ttok ?_ | refine R.zc ttok ?_ | refine R.za ttok ?_ | refine R.zx ?_ | refine R.zl ttok ?_ | refine R.zs ttok ?_ | refine R.z ttok ?_ | refine R.zk ?_ | refine R.zn ?_ | refine R.done ?_ | refine X.then ?_ | refine C.block ?_ | refine C.ret ?_ | refine C.skip ?_ | refine C.exit ?_ | refine X.pass_ret ?_ | refine X.pass_exit ?_ | refine X.block_normal ?_ | refine X.block_ret ?_ | refine X.block_exit ?_ | refine C.zt ?_ | refine C.zf ?_ | refine X.zo ?_)
  refine R.cl [10] (get_specR s.r.l s.r.c mk k hrA (by omega)) Try.call66 (by repeat (first | exact HasIn.nil | refine HasIn.same rfl rfl ?_ | refine HasIn.bro rfl ?_ | refine HasIn.ror rfl ?_ | refine HasIn.cro rfl rfl ?_)) rfl rfl rfl (fun _ => rfl) rfl (by kernel_rfl) fun _ _ => ?_
  rw [hs.get, hs.live, hv, hvv]
  refine R.drop 10 ?_
  repeat (first | refine C.seq ?_ | refine C.region ?_ | refine R.zb ttok ?_ | refine R.zu ttok ?_ | refine R.zc ttok ?_ | refine R.za ttok ?_ | refine R.zx ?_ | refine R.zl ttok ?_ | refine R.zs ttok ?_ | refine R.z ttok ?_ | refine R.zk ?_ | refine R.zn ?_ | refine R.done ?_ | refine X.then ?_ | refine C.block ?_ | refine C.ret ?_ | refine C.skip ?_ | refine C.exit ?_ | refine X.pass_ret ?_ | refine X.pass_exit ?_ | refine X.block_normal ?_ | refine X.block_ret ?_ | refine X.block_exit ?_ | refine C.zt ?_ | refine C.zf ?_ | refine X.zo ?_)
  rw [decide_eq_true (rfl : k.toList = k.toList)]
  repeat (first | refine C.seq ?_ | refine C.region ?_ | refine R.zb ttok ?_ | refine R.zu ttok ?_ | refine R.zc ttok ?_ | refine R.za ttok ?_ | refine R.zx ?_ | refine R.zl ttok ?_ | refine R.zs ttok ?_ | refine R.z ttok ?_ | refine R.zk ?_ | refine R.zn ?_ | refine R.done ?_ | refine X.then ?_ | refine C.block ?_ | refine C.ret ?_ | refine C.skip ?_ | refine C.exit ?_ | refine X.pass_ret ?_ | refine X.pass_exit ?_ | refine X.block_normal ?_ | refine X.block_ret ?_ | refine X.block_exit ?_ | refine C.zt ?_ | refine C.zf ?_ | refine X.zo ?_)
  rw [decide_eq_true (rfl : v = v)]
  repeat (first | refine C.seq ?_ | refine C.region ?_ | refine R.zb ttok ?_ | refine R.zu ttok ?_ | refine R.zc ttok ?_ | refine R.za ttok ?_ | refine R.zx ?_ | refine R.zl ttok ?_ | refine R.zs ttok ?_ | refine R.z ttok ?_ | refine R.zk ?_ | refine R.zn ?_ | refine R.done ?_ | refine X.then ?_ | refine C.block ?_ | refine C.ret ?_ | refine C.skip ?_ | refine C.exit ?_ | refine X.pass_ret ?_ | refine X.pass_exit ?_ | refine X.block_normal ?_ | refine X.block_ret ?_ | refine X.block_exit ?_ | refine C.zt ?_ | refine C.zf ?_ | refine X.zo ?_)
  refine R.ldo (v := .raw (.string x.to)) ttok rfl rfl rfl rfl rfl (by kernel_rfl) Nat.one_pos ?_
  repeat (first | refine C.seq ?_ | refine C.region ?_ | refine R.zb ttok ?_ | refine R.zu ttok ?_ | refine R.zc ttok ?_ | refine R.za ttok ?_ | refine R.zx ?_ | refine R.zl ttok ?_ | refine R.zs ttok ?_ | refine R.z ttok ?_ | refine R.zk ?_ | refine R.zn ?_ | refine R.done ?_ | refine X.then ?_ | refine C.block ?_ | refine C.ret ?_ | refine C.skip ?_ | refine C.exit ?_ | refine X.pass_ret ?_ | refine X.pass_exit ?_ | refine X.block_normal ?_ | refine X.block_ret ?_ | refine X.block_exit ?_ | refine C.zt ?_ | refine C.zf ?_ | refine X.zo ?_)
  cases hne : neB x.to noT with
  | false =>
    rw [show decide (x.to.toList = (⟨#[]⟩ : ByteArray).toList) = true from decide_eq_true (by have := of_decide_eq_false hne; simpa using this)]
    repeat (first | refine C.seq ?_ | refine C.region ?_ | refine R.zb ttok ?_ | refine R.zu ttok ?_ | refine R.zc ttok ?_ | refine R.za ttok ?_ | refine R.zx ?_ | refine R.zl ttok ?_ | refine R.zs ttok ?_ | refine R.z ttok ?_ | refine R.zk ?_ | refine R.zn ?_ | refine R.done ?_ | refine X.then ?_ | refine C.block ?_ | refine C.ret ?_ | refine C.skip ?_ | refine C.exit ?_ | refine X.pass_ret ?_ | refine X.pass_exit ?_ | refine X.block_normal ?_ | refine X.block_ret ?_ | refine X.block_exit ?_ | refine C.zt ?_ | refine C.zf ?_ | refine X.zo ?_)
    refine R.ldo (v := .ptr 0 0 0 0) ttok rfl rfl rfl rfl rfl (by kernel_rfl) Nat.one_pos ?_
    repeat (first | refine C.seq ?_ | refine C.region ?_ | refine R.zb ttok ?_ | refine R.zu ttok ?_ | refine R.zc ttok ?_ | refine R.za ttok ?_ | refine R.zx ?_ | refine R.zl ttok ?_ | refine R.zs ttok ?_ | refine R.z ttok ?_ | refine R.zk ?_ | refine R.zn ?_ | refine R.done ?_ | refine X.then ?_ | refine C.block ?_ | refine C.ret ?_ | refine C.skip ?_ | refine C.exit ?_ | refine X.pass_ret ?_ | refine X.pass_exit ?_ | refine X.block_normal ?_ | refine X.block_ret ?_ | refine X.block_exit ?_ | refine C.zt ?_ | refine C.zf ?_ | refine X.zo ?_)
    refine R.ldo (v := .agg (stZ x)) ttok rfl rfl rfl rfl rfl (by kernel_rfl) Nat.one_pos ?_
    refine R.clE [0, 1] (turn_spec s mk x hs hl) (([] : Fam)) ((by rw [List.append_nil])) (Nat.le_refl _) (fun _ _ => rfl) Try.call88 (by repeat (first | exact HasIn.nil | refine HasIn.same rfl rfl ?_ | refine HasIn.c1 rfl rfl ?_ | refine HasIn.roq rfl rfl ?_ | refine HasIn.other rfl (fun e => by cases e) (fun ρ x w hh => tab_ro hh) ?_ | refine HasIn.other rfl (fun e => by cases e) (fun ρ x w hh => tab_any hh) ?_ | refine HasIn.roAp rfl rfl ?_ | refine HasIn.other rfl (fun e => by cases e) (fun ρ x w hh => cells_any hh) ?_ | refine HasIn.other rfl (fun e => by cases e) (fun ρ x w hh => ro_any hh) ?_)) rfl rfl rfl (fun _ => rfl) rfl (by kernel_rfl) fun t ht => ?_
    refine R.fperm (fs2 := psF t) (by rw [List.append_nil]) ?_
    have htl := ht.1.rlen
    repeat (first | refine C.seq ?_ | refine C.region ?_ | refine R.zb ttok ?_ | refine R.zu ttok ?_ | refine R.zc ttok ?_ | refine R.za ttok ?_ | refine R.zx ?_ | refine R.zl ttok ?_ | refine R.zs ttok ?_ | refine R.z ttok ?_ | refine R.zk ?_ | refine R.zn ?_ | refine R.done ?_ | refine X.then ?_ | refine C.block ?_ | refine C.ret ?_ | refine C.skip ?_ | refine C.exit ?_ | refine X.pass_ret ?_ | refine X.pass_exit ?_ | refine X.block_normal ?_ | refine X.block_ret ?_ | refine X.block_exit ?_ | refine C.zt ?_ | refine C.zf ?_ | refine X.zo ?_)
    refine R.labR 60 t.1.r ht.1.rok (fun p hp => List.mem_append_right _ (List.mem_append_left _ hp)) rfl ?_
    repeat (first | refine C.seq ?_ | refine C.region ?_ | refine R.zb ttok ?_ | refine R.zu ttok ?_ | refine R.zc ttok ?_ | refine R.za ttok ?_ | refine R.zx ?_ | refine R.zl ttok ?_ | refine R.zs ttok ?_ | refine R.z ttok ?_ | refine R.zk ?_ | refine R.zn ?_ | refine R.done ?_ | refine X.then ?_ | refine C.block ?_ | refine C.ret ?_ | refine C.skip ?_ | refine C.exit ?_ | refine X.pass_ret ?_ | refine X.pass_exit ?_ | refine X.block_normal ?_ | refine X.block_ret ?_ | refine X.block_exit ?_ | refine C.zt ?_ | refine C.zf ?_ | refine X.zo ?_)
    refine R.cl [12] (next_specR t.1.r.l t.1.r.c mk k (by have := ht.2.1; omega)) Try.call67 (by repeat (first | exact HasIn.nil | refine HasIn.same rfl rfl ?_ | refine HasIn.bro rfl ?_ | refine HasIn.ror rfl ?_ | refine HasIn.cro rfl rfl ?_)) rfl rfl rfl (fun _ => rfl) rfl (by kernel_rfl) fun _ _ => ?_
    rw [ht.1.next]
    refine R.drop 12 ?_
    repeat (first | refine C.seq ?_ | refine C.region ?_ | refine R.zb ttok ?_ | refine R.zu ttok ?_ | refine R.zc ttok ?_ | refine R.za ttok ?_ | refine R.zx ?_ | refine R.zl ttok ?_ | refine R.zs ttok ?_ | refine R.z ttok ?_ | refine R.zk ?_ | refine R.zn ?_ | refine R.done ?_ | refine X.then ?_ | refine C.block ?_ | refine C.ret ?_ | refine C.skip ?_ | refine C.exit ?_ | refine X.pass_ret ?_ | refine X.pass_exit ?_ | refine X.block_normal ?_ | refine X.block_ret ?_ | refine X.block_exit ?_ | refine C.zt ?_ | refine C.zf ?_ | refine X.zo ?_)
    refine R.ldo (v := .raw (.int .i64 x.n)) ttok rfl rfl rfl rfl rfl (by kernel_rfl) Nat.one_pos ?_
    repeat (first | refine C.seq ?_ | refine C.region ?_ | refine R.zb ttok ?_ | refine R.zu ttok ?_ | refine R.zc ttok ?_ | refine R.za ttok ?_ | refine R.zx ?_ | refine R.zl ttok ?_ | refine R.zs ttok ?_ | refine R.z ttok ?_ | refine R.zk ?_ | refine R.zn ?_ | refine R.done ?_ | refine X.then ?_ | refine C.block ?_ | refine C.ret ?_ | refine C.skip ?_ | refine C.exit ?_ | refine X.pass_ret ?_ | refine X.pass_exit ?_ | refine X.block_normal ?_ | refine X.block_ret ?_ | refine X.block_exit ?_ | refine C.zt ?_ | refine C.zf ?_ | refine X.zo ?_)
    by_cases hxn : (n : Int) + 1 = x.n
    · have hov : overB x (n + 1) = true := by unfold overB; rw [decide_eq_true (show ((n + 1 : Nat) : Int) = x.n from hxn)]; rfl
      rw [hov, decide_eq_true hxn]
      repeat (first | refine C.seq ?_ | refine C.region ?_ | refine R.zb ttok ?_ | refine R.zu ttok ?_ | refine R.zc ttok ?_ | refine R.za ttok ?_ | refine R.zx ?_ | refine R.zl ttok ?_ | refine R.zs ttok ?_ | refine R.z ttok ?_ | refine R.zk ?_ | refine R.zn ?_ | refine R.done ?_ | refine X.then ?_ | refine C.block ?_ | refine C.ret ?_ | refine C.skip ?_ | refine C.exit ?_ | refine X.pass_ret ?_ | refine X.pass_exit ?_ | refine X.block_normal ?_ | refine X.block_ret ?_ | refine X.block_exit ?_ | refine C.zt ?_ | refine C.zf ?_ | refine X.zo ?_)
      refine X.finF ttok t [(10, 11)] ht rfl rfl rfl (by repeat (first | exact HasH.nil | refine HasH.same rfl rfl rfl trivial ?_ | refine HasH.same rfl rfl rfl rfl ?_ | refine HasH.same rfl rfl rfl (fun _ _ => rfl) ?_ | refine HasH.ros rfl rfl ?_)) _ (by first | exact .inl rfl | exact .inr rfl) ?_ ?_ ?_
      · exact fun w' hf => hf.ap
      · exact fun p hp => hp
      · exact cov_all ht.2.2.1
    · have hov : overB x (n + 1) = decide ((n : Int) + 1 > 200) := by unfold overB; rw [decide_eq_false (show ¬ ((n + 1 : Nat) : Int) = x.n from hxn)]; rfl
      rw [hov, decide_eq_false hxn]
      repeat (first | refine C.seq ?_ | refine C.region ?_ | refine R.zb ttok ?_ | refine R.zu ttok ?_ | refine R.zc ttok ?_ | refine R.za ttok ?_ | refine R.zx ?_ | refine R.zl ttok ?_ | refine R.zs ttok ?_ | refine R.z ttok ?_ | refine R.zk ?_ | refine R.zn ?_ | refine R.done ?_ | refine X.then ?_ | refine C.block ?_ | refine C.ret ?_ | refine C.skip ?_ | refine C.exit ?_ | refine X.pass_ret ?_ | refine X.pass_exit ?_ | refine X.block_normal ?_ | refine X.block_ret ?_ | refine X.block_exit ?_ | refine C.zt ?_ | refine C.zf ?_ | refine X.zo ?_)
      refine X.finF ttok t [(10, 11)] ht rfl rfl rfl (by repeat (first | exact HasH.nil | refine HasH.same rfl rfl rfl trivial ?_ | refine HasH.same rfl rfl rfl rfl ?_ | refine HasH.same rfl rfl rfl (fun _ _ => rfl) ?_ | refine HasH.ros rfl rfl ?_)) _ (by first | exact .inl rfl | exact .inr rfl) ?_ ?_ ?_
      · exact fun w' hf => hf.ap
      · exact fun p hp => hp
      · exact cov_all ht.2.2.1
  | true =>
    rw [show decide (x.to.toList = (⟨#[]⟩ : ByteArray).toList) = false from decide_eq_false (by have := of_decide_eq_true hne; exact this)]
    repeat (first | refine C.seq ?_ | refine C.region ?_ | refine R.zb ttok ?_ | refine R.zu ttok ?_ | refine R.zc ttok ?_ | refine R.za ttok ?_ | refine R.zx ?_ | refine R.zl ttok ?_ | refine R.zs ttok ?_ | refine R.z ttok ?_ | refine R.zk ?_ | refine R.zn ?_ | refine R.done ?_ | refine X.then ?_ | refine C.block ?_ | refine C.ret ?_ | refine C.skip ?_ | refine C.exit ?_ | refine X.pass_ret ?_ | refine X.pass_exit ?_ | refine X.block_normal ?_ | refine X.block_ret ?_ | refine X.block_exit ?_ | refine C.zt ?_ | refine C.zf ?_ | refine X.zo ?_)
    refine R.ldo (v := .raw (.string x.to)) ttok rfl rfl rfl rfl rfl (by kernel_rfl) Nat.one_pos ?_
    repeat (first | refine C.seq ?_ | refine C.region ?_ | refine R.zb ttok ?_ | refine R.zu ttok ?_ | refine R.zc ttok ?_ | refine R.za ttok ?_ | refine R.zx ?_ | refine R.zl ttok ?_ | refine R.zs ttok ?_ | refine R.z ttok ?_ | refine R.zk ?_ | refine R.zn ?_ | refine R.done ?_ | refine X.then ?_ | refine C.block ?_ | refine C.ret ?_ | refine C.skip ?_ | refine C.exit ?_ | refine X.pass_ret ?_ | refine X.pass_exit ?_ | refine X.block_normal ?_ | refine X.block_ret ?_ | refine X.block_exit ?_ | refine C.zt ?_ | refine C.zf ?_ | refine X.zo ?_)
    rw [show (Op.bytesLess k.toList x.to.toList || decide (k.toList = x.to.toList)) = true by
      unfold past at hp
      rw [hne, Bool.true_and] at hp
      unfold gtB at hp
      rw [Bool.not_eq_false'] at hp
      exact hp]
    repeat (first | refine C.seq ?_ | refine C.region ?_ | refine R.zb ttok ?_ | refine R.zu ttok ?_ | refine R.zc ttok ?_ | refine R.za ttok ?_ | refine R.zx ?_ | refine R.zl ttok ?_ | refine R.zs ttok ?_ | refine R.z ttok ?_ | refine R.zk ?_ | refine R.zn ?_ | refine R.done ?_ | refine X.then ?_ | refine C.block ?_ | refine C.ret ?_ | refine C.skip ?_ | refine C.exit ?_ | refine X.pass_ret ?_ | refine X.pass_exit ?_ | refine X.block_normal ?_ | refine X.block_ret ?_ | refine X.block_exit ?_ | refine C.zt ?_ | refine C.zf ?_ | refine X.zo ?_)
    refine R.ldo (v := .ptr 0 0 0 0) ttok rfl rfl rfl rfl rfl (by kernel_rfl) Nat.one_pos ?_
    repeat (first | refine C.seq ?_ | refine C.region ?_ | refine R.zb ttok ?_ | refine R.zu ttok ?_ | refine R.zc ttok ?_ | refine R.za ttok ?_ | refine R.zx ?_ | refine R.zl ttok ?_ | refine R.zs ttok ?_ | refine R.z ttok ?_ | refine R.zk ?_ | refine R.zn ?_ | refine R.done ?_ | refine X.then ?_ | refine C.block ?_ | refine C.ret ?_ | refine C.skip ?_ | refine C.exit ?_ | refine X.pass_ret ?_ | refine X.pass_exit ?_ | refine X.block_normal ?_ | refine X.block_ret ?_ | refine X.block_exit ?_ | refine C.zt ?_ | refine C.zf ?_ | refine X.zo ?_)
    refine R.ldo (v := .agg (stZ x)) ttok rfl rfl rfl rfl rfl (by kernel_rfl) Nat.one_pos ?_
    refine R.clE [0, 1] (turn_spec s mk x hs hl) (([] : Fam)) ((by rw [List.append_nil])) (Nat.le_refl _) (fun _ _ => rfl) Try.call88 (by repeat (first | exact HasIn.nil | refine HasIn.same rfl rfl ?_ | refine HasIn.c1 rfl rfl ?_ | refine HasIn.roq rfl rfl ?_ | refine HasIn.other rfl (fun e => by cases e) (fun ρ x w hh => tab_ro hh) ?_ | refine HasIn.other rfl (fun e => by cases e) (fun ρ x w hh => tab_any hh) ?_ | refine HasIn.roAp rfl rfl ?_ | refine HasIn.other rfl (fun e => by cases e) (fun ρ x w hh => cells_any hh) ?_ | refine HasIn.other rfl (fun e => by cases e) (fun ρ x w hh => ro_any hh) ?_)) rfl rfl rfl (fun _ => rfl) rfl (by kernel_rfl) fun t ht => ?_
    refine R.fperm (fs2 := psF t) (by rw [List.append_nil]) ?_
    have htl := ht.1.rlen
    repeat (first | refine C.seq ?_ | refine C.region ?_ | refine R.zb ttok ?_ | refine R.zu ttok ?_ | refine R.zc ttok ?_ | refine R.za ttok ?_ | refine R.zx ?_ | refine R.zl ttok ?_ | refine R.zs ttok ?_ | refine R.z ttok ?_ | refine R.zk ?_ | refine R.zn ?_ | refine R.done ?_ | refine X.then ?_ | refine C.block ?_ | refine C.ret ?_ | refine C.skip ?_ | refine C.exit ?_ | refine X.pass_ret ?_ | refine X.pass_exit ?_ | refine X.block_normal ?_ | refine X.block_ret ?_ | refine X.block_exit ?_ | refine C.zt ?_ | refine C.zf ?_ | refine X.zo ?_)
    refine R.labR 60 t.1.r ht.1.rok (fun p hp => List.mem_append_right _ (List.mem_append_left _ hp)) rfl ?_
    repeat (first | refine C.seq ?_ | refine C.region ?_ | refine R.zb ttok ?_ | refine R.zu ttok ?_ | refine R.zc ttok ?_ | refine R.za ttok ?_ | refine R.zx ?_ | refine R.zl ttok ?_ | refine R.zs ttok ?_ | refine R.z ttok ?_ | refine R.zk ?_ | refine R.zn ?_ | refine R.done ?_ | refine X.then ?_ | refine C.block ?_ | refine C.ret ?_ | refine C.skip ?_ | refine C.exit ?_ | refine X.pass_ret ?_ | refine X.pass_exit ?_ | refine X.block_normal ?_ | refine X.block_ret ?_ | refine X.block_exit ?_ | refine C.zt ?_ | refine C.zf ?_ | refine X.zo ?_)
    refine R.cl [12] (next_specR t.1.r.l t.1.r.c mk k (by have := ht.2.1; omega)) Try.call67 (by repeat (first | exact HasIn.nil | refine HasIn.same rfl rfl ?_ | refine HasIn.bro rfl ?_ | refine HasIn.ror rfl ?_ | refine HasIn.cro rfl rfl ?_)) rfl rfl rfl (fun _ => rfl) rfl (by kernel_rfl) fun _ _ => ?_
    rw [ht.1.next]
    refine R.drop 12 ?_
    repeat (first | refine C.seq ?_ | refine C.region ?_ | refine R.zb ttok ?_ | refine R.zu ttok ?_ | refine R.zc ttok ?_ | refine R.za ttok ?_ | refine R.zx ?_ | refine R.zl ttok ?_ | refine R.zs ttok ?_ | refine R.z ttok ?_ | refine R.zk ?_ | refine R.zn ?_ | refine R.done ?_ | refine X.then ?_ | refine C.block ?_ | refine C.ret ?_ | refine C.skip ?_ | refine C.exit ?_ | refine X.pass_ret ?_ | refine X.pass_exit ?_ | refine X.block_normal ?_ | refine X.block_ret ?_ | refine X.block_exit ?_ | refine C.zt ?_ | refine C.zf ?_ | refine X.zo ?_)
    refine R.ldo (v := .raw (.int .i64 x.n)) ttok rfl rfl rfl rfl rfl (by kernel_rfl) Nat.one_pos ?_
    repeat (first | refine C.seq ?_ | refine C.region ?_ | refine R.zb ttok ?_ | refine R.zu ttok ?_ | refine R.zc ttok ?_ | refine R.za ttok ?_ | refine R.zx ?_ | refine R.zl ttok ?_ | refine R.zs ttok ?_ | refine R.z ttok ?_ | refine R.zk ?_ | refine R.zn ?_ | refine R.done ?_ | refine X.then ?_ | refine C.block ?_ | refine C.ret ?_ | refine C.skip ?_ | refine C.exit ?_ | refine X.pass_ret ?_ | refine X.pass_exit ?_ | refine X.block_normal ?_ | refine X.block_ret ?_ | refine X.block_exit ?_ | refine C.zt ?_ | refine C.zf ?_ | refine X.zo ?_)
    by_cases hxn : (n : Int) + 1 = x.n
    · have hov : overB x (n + 1) = true := by unfold overB; rw [decide_eq_true (show ((n + 1 : Nat) : Int) = x.n from hxn)]; rfl
      rw [hov, decide_eq_true hxn]
      repeat (first | refine C.seq ?_ | refine C.region ?_ | refine R.zb ttok ?_ | refine R.zu ttok ?_ | refine R.zc ttok ?_ | refine R.za ttok ?_ | refine R.zx ?_ | refine R.zl ttok ?_ | refine R.zs ttok ?_ | refine R.z ttok ?_ | refine R.zk ?_ | refine R.zn ?_ | refine R.done ?_ | refine X.then ?_ | refine C.block ?_ | refine C.ret ?_ | refine C.skip ?_ | refine C.exit ?_ | refine X.pass_ret ?_ | refine X.pass_exit ?_ | refine X.block_normal ?_ | refine X.block_ret ?_ | refine X.block_exit ?_ | refine C.zt ?_ | refine C.zf ?_ | refine X.zo ?_)
      refine X.finF ttok t [(10, 11)] ht rfl rfl rfl (by repeat (first | exact HasH.nil | refine HasH.same rfl rfl rfl trivial ?_ | refine HasH.same rfl rfl rfl rfl ?_ | refine HasH.same rfl rfl rfl (fun _ _ => rfl) ?_ | refine HasH.ros rfl rfl ?_)) _ (by first | exact .inl rfl | exact .inr rfl) ?_ ?_ ?_
      · exact fun w' hf => hf.ap
      · exact fun p hp => hp
      · exact cov_all ht.2.2.1
    · have hov : overB x (n + 1) = decide ((n : Int) + 1 > 200) := by unfold overB; rw [decide_eq_false (show ¬ ((n + 1 : Nat) : Int) = x.n from hxn)]; rfl
      rw [hov, decide_eq_false hxn]
      repeat (first | refine C.seq ?_ | refine C.region ?_ | refine R.zb ttok ?_ | refine R.zu ttok ?_ | refine R.zc ttok ?_ | refine R.za ttok ?_ | refine R.zx ?_ | refine R.zl ttok ?_ | refine R.zs ttok ?_ | refine R.z ttok ?_ | refine R.zk ?_ | refine R.zn ?_ | refine R.done ?_ | refine X.then ?_ | refine C.block ?_ | refine C.ret ?_ | refine C.skip ?_ | refine C.exit ?_ | refine X.pass_ret ?_ | refine X.pass_exit ?_ | refine X.block_normal ?_ | refine X.block_ret ?_ | refine X.block_exit ?_ | refine C.zt ?_ | refine C.zf ?_ | refine X.zo ?_)
      refine X.finF ttok t [(10, 11)] ht rfl rfl rfl (by repeat (first | exact HasH.nil | refine HasH.same rfl rfl rfl trivial ?_ | refine HasH.same rfl rfl rfl rfl ?_ | refine HasH.same rfl rfl rfl (fun _ _ => rfl) ?_ | refine HasH.ros rfl rfl ?_)) _ (by first | exact .inl rfl | exact .inr rfl) ?_ ?_ ?_
      · exact fun w' hf => hf.ap
      · exact fun p hp => hp
      · exact cov_all ht.2.2.1
end Go.Proofs.Yteabncomclgncaa
