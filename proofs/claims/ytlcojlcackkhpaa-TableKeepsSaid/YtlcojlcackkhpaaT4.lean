/- table: the document's book: put -/
import Derived.Test.YtlcojlcackkhpaaT3
namespace Go.Proofs.Ytlcojlcackkhpaa
set_option linter.unusedVariables false
set_option linter.unusedSimpArgs false
open Go.RowKit
set_option maxRecDepth 100000
set_option maxHeartbeats 4000000
def pis (l : List PI) : List AV := l.flatMap piA
theorem pis_app (a b : List PI) : pis (a ++ b) = pis a ++ pis b := List.flatMap_append
theorem pis_len (l : List PI) : (pis l).length = l.length * 2 := by
  induction l with
  | nil => rfl
  | cons p l ih =>
    have : pis (p :: l) = piA p ++ pis l := rfl
    rw [this, List.length_append, ih]
    simp
    omega
theorem pis_one (l : List PI) : (pis l).all AV.oneB = true := by
  induction l with
  | nil => rfl
  | cons p l ih =>
    have : pis (p :: l) = piA p ++ pis l := rfl
    rw [this, List.all_append, ih]
    rfl
theorem flat_pi (l : List PI) : ∀ m off, off + m ≤ l.length → flat (fun i => piF l (off + i)) m = pis ((l.drop off).take m)
  | 0, off, _ => by simp [flat, pis]
  | m + 1, off, h => by
    rw [flat, flat_pi l m off (by omega), List.take_add_one, pis_app]
    congr 1
    have : (l.drop off)[m]? = some (l[off + m]'(by omega)) := by rw [List.getElem?_drop, List.getElem?_eq_getElem]
    rw [this]
    simp [pis, piF, List.getD, show off + m < l.length by omega]
theorem flat_pi0 (l : List PI) : flat (piF l) l.length = pis l := by
  have := flat_pi l l.length 0 (by omega)
  simpa using this
abbrev tbT (l : List PI) (c : Nat) : AO := .tab 2 l.length c (piF l) 103
section
variable {E : Base} {n L : Nat} {τ : List (Nat × AV)} {h : List (Nat × AO)} {F : World → Prop}
theorem srcPi {lab off m c cap : Nat} {l : List PI} {T : TypeId} (hl : hk lab h = some (.tab 2 l.length cap (piF l) T)) (hn : off + m ≤ l.length) : SrcA E n L τ h F (.sl lab 2 off m c) m (pis ((l.drop off).take m)) := by
  have := SrcA.tab (E := E) (n := n) (L := L) (τ := τ) (F := F) (off := off) (m := m) (c := c) (by decide) hl hn
  rwa [flat_pi l m off hn] at this
theorem srcPiD {lab p j c cap cc : Nat} {l : List PI} {T : TypeId} (hl : hk lab h = some (.tab 2 l.length cap (piF l) T)) (hp : p ≤ l.length) (hj : j = 0 + p ∨ l.length = p ∧ j = 0 ∧ cc = p) : SrcA E n L τ h F (.sl lab 2 j (l.length - p) c) (l.length - p) (pis (l.drop p)) := by
  have hd : (l.drop p).take (l.length - p) = l.drop p := List.take_of_length_le (by rw [List.length_drop]; omega)
  rcases hj with rfl | ⟨h1, rfl, _⟩
  · have := srcPi (E := E) (n := n) (L := L) (τ := τ) (F := F) (off := p) (m := l.length - p) (c := c) hl (by omega)
    rw [hd] at this
    rwa [Nat.zero_add]
  · have := srcPi (E := E) (n := n) (L := L) (τ := τ) (F := F) (off := 0) (m := l.length - p) (c := c) hl (by omega)
    have e : (l.drop 0).take (l.length - p) = l.drop p := by rw [← h1, Nat.sub_self, List.drop_length]; rfl
    rwa [e] at this
theorem asPi (T : TypeId) (l : List PI) (xs : List AV) (hx : xs = pis l) : AsRow (fun c => .tab 2 l.length c (piF l) T) T 2 xs := by
  rw [hx, ← flat_pi0]
  exact AsRow.tab T (by decide) fun i _ => rfl
theorem dstPi {lab cap : Nat} {l : List PI} {T : TypeId} (hl : hk lab h = some (.tab 2 l.length cap (piF l) T)) : DstA E n L τ h F (.sl lab 2 0 l.length cap) T 2 l.length cap (pis l) [lab] := by
  have := DstA.tab (E := E) (n := n) (L := L) (τ := τ) (F := F) (by decide) hl fun i _ => rfl
  rwa [flat_pi0] at this
end
theorem tab_ro {ρ : Env} {r : Option Nat} {w : World} {wd n0 cap : Nat} {f : Nat → List AV} {T : TypeId} (h : (AO.tab wd n0 cap f T).holds ρ r w) : (AO.ro wd 0 n0 f).holds ρ r w := by
  obtain ⟨h1, _, ⟨h2, h3⟩ | ⟨b, cur, hr, hb, _, hc⟩⟩ := h
  · exact .inl ⟨h2, by omega⟩
  · exact .inr ⟨b, cur, T, _, hr, hb, fun i c x hi hx => by rw [Nat.zero_add]; exact hc i c x hi hx⟩
def putI (l : List PI) (k : ByteArray) (v : Int) : List PI := if hasK l k = true then l.set (plc l k) (k, v) else l.take (plc l k) ++ (k, v) :: l.drop (plc l k)
theorem bput_new (l : List PI) (c : Nat) (k : ByteArray) (v : Int) (hl : l.length ≤ 1000000) (hc : l.length ≤ c) (hc2 : c ≤ 9223372036854775807) (hk : hasK l k = false) :
    Spec Try.prog 56 [.ptr 0 0 0 0, .raw (.string k), .raw (.int .i64 v)] [bkO 1 l.length c, tbT l c] 3 (σ := Nat) (fun c => l.length + 1 ≤ c ∧ c ≤ 9223372036854775807)
    (fun _ => .tup [.raw (.int .i64 0), .raw (.bool false)]) (fun c => [(0, bkO 2 (l.length + 1) c), (2, .tab 2 (l.length + 1) c (piF (l.take (plc l k) ++ (k, v) :: l.drop (plc l k))) 103)]) := by
  refine Spec.of Try.func56 rfl Try.ntmps56 rfl (by repeat (first | exact bdl_nil _ | refine bdl_cons (fun _ _ => rfl) ?_ | refine bdl_cons trivial ?_ | refine bdl_cons rfl ?_ | refine bdl_cons (rowsF_bd _ _ _ _) ?_)) fun ρ w => ?_
  have hp := plc_le l k
  repeat (first | refine C.seq ?_ | refine C.region ?_ | refine R.zb ttok ?_ | refine R.zu ttok ?_ | refine R.zc ttok ?_ | refine R.za ttok ?_ | refine R.zx ?_ | refine R.zl ttok ?_ | refine R.zs ttok ?_ | refine R.z ttok ?_ | refine R.zk ?_ | refine R.zn ?_ | refine R.done ?_ | refine X.then ?_ | refine C.block ?_ | refine C.ret ?_ | refine C.skip ?_ | refine C.exit ?_ | refine X.pass_ret ?_ | refine X.pass_exit ?_ | refine X.block_normal ?_ | refine X.block_ret ?_ | refine X.block_exit ?_ | refine C.zt ?_ | refine C.zf ?_ | refine X.zo ?_)
  refine R.cl [0, 1] (place_spec l c k (by omega)) Try.call55 (.same rfl rfl (.other rfl (fun e => by cases e) (fun ρ x w hh => tab_ro hh) .nil)) rfl rfl rfl (fun _ => rfl) rfl (by kernel_rfl) fun _ _ => ?_
  repeat (first | refine R.zb ttok ?_ | refine R.zu ttok ?_ | refine R.zc ttok ?_ | refine R.za ttok ?_ | refine R.zx ?_ | refine R.zl ttok ?_ | refine R.zs ttok ?_ | refine R.z ttok ?_ | refine R.zk ?_ | refine R.zn ?_)
  refine R.done ?_
  refine X.then ?_
  refine C.cutf (σ := Unit) 2 (fun _ => True) (fun _ => [(0, .ptr 0 0 0 0), (1, .raw (.string k)), (2, .raw (.int .i64 v)), (8, .raw (.int .i64 (plc l k)))]) (fun _ => [(0, bkO 1 l.length c), (1, tbT l c)]) ?_ ?_
  · repeat (first | refine C.seq ?_ | refine C.region ?_ | refine R.zb ttok ?_ | refine R.zu ttok ?_ | refine R.zc ttok ?_ | refine R.za ttok ?_ | refine R.zx ?_ | refine R.zl ttok ?_ | refine R.zs ttok ?_ | refine R.z ttok ?_ | refine R.zk ?_ | refine R.zn ?_ | refine R.done ?_ | refine X.then ?_ | refine C.block ?_ | refine C.ret ?_ | refine C.skip ?_ | refine C.exit ?_ | refine X.pass_ret ?_ | refine X.pass_exit ?_ | refine X.block_normal ?_ | refine X.block_ret ?_ | refine X.block_exit ?_ | refine C.zt ?_ | refine C.zf ?_ | refine X.zo ?_)
    by_cases hlt : (plc l k : Int) < (l.length : Nat)
    · have hlt' : plc l k < l.length := by omega
      rw [decide_eq_true hlt]
      repeat (first | refine C.seq ?_ | refine C.region ?_ | refine R.zb ttok ?_ | refine R.zu ttok ?_ | refine R.zc ttok ?_ | refine R.za ttok ?_ | refine R.zx ?_ | refine R.zl ttok ?_ | refine R.zs ttok ?_ | refine R.z ttok ?_ | refine R.zk ?_ | refine R.zn ?_ | refine R.done ?_ | refine X.then ?_ | refine C.block ?_ | refine C.ret ?_ | refine C.skip ?_ | refine C.exit ?_ | refine X.pass_ret ?_ | refine X.pass_exit ?_ | refine X.block_normal ?_ | refine X.block_ret ?_ | refine X.block_exit ?_ | refine C.zt ?_ | refine C.zf ?_ | refine X.zo ?_)
      refine R.ix ttok (plc l k) rfl rfl rfl rfl rfl (by kernel_rfl) rfl hlt' (by show _ < _; omega) rfl ?_
      repeat (first | refine C.seq ?_ | refine C.region ?_ | refine R.zb ttok ?_ | refine R.zu ttok ?_ | refine R.zc ttok ?_ | refine R.za ttok ?_ | refine R.zx ?_ | refine R.zl ttok ?_ | refine R.zs ttok ?_ | refine R.z ttok ?_ | refine R.zk ?_ | refine R.zn ?_ | refine R.done ?_ | refine X.then ?_ | refine C.block ?_ | refine C.ret ?_ | refine C.skip ?_ | refine C.exit ?_ | refine X.pass_ret ?_ | refine X.pass_exit ?_ | refine X.block_normal ?_ | refine X.block_ret ?_ | refine X.block_exit ?_ | refine C.zt ?_ | refine C.zf ?_ | refine X.zo ?_)
      refine R.ldt (v := .raw (.string (l.getD (plc l k) zI).1)) ttok rfl rfl rfl (by rw [Nat.zero_add]; rfl) rfl (by kernel_rfl) (by omega) ?_
      repeat (first | refine C.seq ?_ | refine C.region ?_ | refine R.zb ttok ?_ | refine R.zu ttok ?_ | refine R.zc ttok ?_ | refine R.za ttok ?_ | refine R.zx ?_ | refine R.zl ttok ?_ | refine R.zs ttok ?_ | refine R.z ttok ?_ | refine R.zk ?_ | refine R.zn ?_ | refine R.done ?_ | refine X.then ?_ | refine C.block ?_ | refine C.ret ?_ | refine C.skip ?_ | refine C.exit ?_ | refine X.pass_ret ?_ | refine X.pass_exit ?_ | refine X.block_normal ?_ | refine X.block_ret ?_ | refine X.block_exit ?_ | refine C.zt ?_ | refine C.zf ?_ | refine X.zo ?_)
      rw [same_cmp, decide_eq_false (fun h => by rw [show hasK l k = true from decide_eq_true ⟨hlt', h⟩] at hk; cases hk)]
      repeat (first | refine C.seq ?_ | refine C.region ?_ | refine R.zb ttok ?_ | refine R.zu ttok ?_ | refine R.zc ttok ?_ | refine R.za ttok ?_ | refine R.zx ?_ | refine R.zl ttok ?_ | refine R.zs ttok ?_ | refine R.z ttok ?_ | refine R.zk ?_ | refine R.zn ?_ | refine R.done ?_ | refine X.then ?_ | refine C.block ?_ | refine C.ret ?_ | refine C.skip ?_ | refine C.exit ?_ | refine X.pass_ret ?_ | refine X.pass_exit ?_ | refine X.block_normal ?_ | refine X.block_ret ?_ | refine X.block_exit ?_ | refine C.zt ?_ | refine C.zf ?_ | refine X.zo ?_)
      exact X.back [] () trivial (by decide) rfl (by repeat (first | exact HasT.nil | refine HasT.cons rfl rfl rfl ?_)) (.same rfl rfl rfl rfl (.same rfl rfl rfl (fun _ _ => rfl) .nil)) rfl (fun _ h => h)
    · rw [decide_eq_false hlt]
      repeat (first | refine C.seq ?_ | refine C.region ?_ | refine R.zb ttok ?_ | refine R.zu ttok ?_ | refine R.zc ttok ?_ | refine R.za ttok ?_ | refine R.zx ?_ | refine R.zl ttok ?_ | refine R.zs ttok ?_ | refine R.z ttok ?_ | refine R.zk ?_ | refine R.zn ?_ | refine R.done ?_ | refine X.then ?_ | refine C.block ?_ | refine C.ret ?_ | refine C.skip ?_ | refine C.exit ?_ | refine X.pass_ret ?_ | refine X.pass_exit ?_ | refine X.block_normal ?_ | refine X.block_ret ?_ | refine X.block_exit ?_ | refine C.zt ?_ | refine C.zf ?_ | refine X.zo ?_)
      exact X.back [] () trivial (by decide) rfl (by repeat (first | exact HasT.nil | refine HasT.cons rfl rfl rfl ?_)) (.same rfl rfl rfl rfl (.same rfl rfl rfl (fun _ _ => rfl) .nil)) rfl (fun _ h => h)
  rintro _ _
  have ht1 : (l.take (plc l k)).length = plc l k := by rw [List.length_take]; omega
  have hn1 : (l.take (plc l k) ++ [(k, v)]).length = plc l k + 1 := by rw [List.length_append, ht1]; rfl
  have hn2 : (l.take (plc l k) ++ (k, v) :: l.drop (plc l k)).length = l.length + 1 := by rw [List.length_append, ht1, List.length_cons, List.length_drop]; omega
  repeat (first | refine C.seq ?_ | refine C.region ?_ | refine R.zb ttok ?_ | refine R.zu ttok ?_ | refine R.zc ttok ?_ | refine R.za ttok ?_ | refine R.zx ?_ | refine R.zl ttok ?_ | refine R.zs ttok ?_ | refine R.z ttok ?_ | refine R.zk ?_ | refine R.zn ?_ | refine R.done ?_ | refine X.then ?_ | refine C.block ?_ | refine C.ret ?_ | refine C.skip ?_ | refine C.exit ?_ | refine X.pass_ret ?_ | refine X.pass_exit ?_ | refine X.block_normal ?_ | refine X.block_ret ?_ | refine X.block_exit ?_ | refine C.zt ?_ | refine C.zf ?_ | refine X.zo ?_)
  refine R.sl ttok 0 (plc l k) rfl rfl rfl rfl rfl rfl (by kernel_rfl) rfl ⟨_, _, rfl, rfl⟩ (by omega) (by omega) fun o' ho' => ?_
  obtain rfl : o' = 0 := by omega
  refine R.app (xs := []) (news := pis (l.take (plc l k))) ttok (fun c => .tab 2 (l.take (plc l k)).length c (piF (l.take (plc l k))) 103) rfl rfl (DstA.nil _ 2) (srcPi rfl (by omega)) (asPi _ _ _ rfl) rfl rfl rfl rfl rfl rfl (by decide) (pis_one _) (by rw [pis_len, ht1]; rfl) rfl (by kernel_rfl) (by omega) (by show (0 + (plc l k - 0)) * 24 ≤ _; omega) (by omega) fun cA hA hA2 => ?_
  rw [show 0 + (plc l k - 0) = (l.take (plc l k)).length by omega] at hA ⊢
  repeat (first | refine C.seq ?_ | refine C.region ?_ | refine R.zb ttok ?_ | refine R.zu ttok ?_ | refine R.zc ttok ?_ | refine R.za ttok ?_ | refine R.zx ?_ | refine R.zl ttok ?_ | refine R.zs ttok ?_ | refine R.z ttok ?_ | refine R.zk ?_ | refine R.zn ?_ | refine R.done ?_ | refine X.then ?_ | refine C.block ?_ | refine C.ret ?_ | refine C.skip ?_ | refine C.exit ?_ | refine X.pass_ret ?_ | refine X.pass_exit ?_ | refine X.block_normal ?_ | refine X.block_ret ?_ | refine X.block_exit ?_ | refine C.zt ?_ | refine C.zf ?_ | refine X.zo ?_)
  refine R.app (xs := pis (l.take (plc l k))) (news := pis [(k, v)]) ttok (fun c => .tab 2 (l.take (plc l k) ++ [(k, v)]).length c (piF (l.take (plc l k) ++ [(k, v)])) 103) rfl rfl (dstPi rfl) (SrcA.cells rfl rfl) (asPi _ _ _ (pis_app _ _).symm) rfl rfl rfl rfl rfl rfl (by decide) rfl rfl rfl (by kernel_rfl) hA2 (by show ((l.take (plc l k)).length + 1) * 24 ≤ _; omega) (by omega) fun cB hB hB2 => ?_
  rw [show (l.take (plc l k)).length + 1 = (l.take (plc l k) ++ [(k, v)]).length by omega] at hB ⊢
  repeat (first | refine C.seq ?_ | refine C.region ?_ | refine R.zb ttok ?_ | refine R.zu ttok ?_ | refine R.zc ttok ?_ | refine R.za ttok ?_ | refine R.zx ?_ | refine R.zl ttok ?_ | refine R.zs ttok ?_ | refine R.z ttok ?_ | refine R.zk ?_ | refine R.zn ?_ | refine R.done ?_ | refine X.then ?_ | refine C.block ?_ | refine C.ret ?_ | refine C.skip ?_ | refine C.exit ?_ | refine X.pass_ret ?_ | refine X.pass_exit ?_ | refine X.block_normal ?_ | refine X.block_ret ?_ | refine X.block_exit ?_ | refine C.zt ?_ | refine C.zf ?_ | refine X.zo ?_)
  refine R.sl ttok (plc l k) l.length rfl rfl rfl rfl rfl rfl (by kernel_rfl) ⟨_, _, rfl, rfl⟩ rfl (by omega) (by omega) fun o' ho' => ?_
  refine R.app (xs := pis (l.take (plc l k) ++ [(k, v)])) (news := pis (l.drop (plc l k))) ttok (fun c => .tab 2 (l.take (plc l k) ++ (k, v) :: l.drop (plc l k)).length c (piF (l.take (plc l k) ++ (k, v) :: l.drop (plc l k))) 103) rfl rfl (dstPi rfl)
    (srcPiD rfl hp ho')
    (asPi _ _ _ (by rw [← pis_app, List.append_assoc]; rfl)) rfl rfl rfl rfl rfl rfl (by decide) (pis_one _) (by rw [pis_len, List.length_drop]) rfl (by kernel_rfl) hB2 (by show ((l.take (plc l k) ++ [(k, v)]).length + (l.length - plc l k)) * 24 ≤ _; omega) (by omega) fun cC hC hC2 => ?_
  rw [hn2, show (l.take (plc l k) ++ [(k, v)]).length + (l.length - plc l k) = l.length + 1 by omega] at *
  repeat (first | refine C.seq ?_ | refine C.region ?_ | refine R.zb ttok ?_ | refine R.zu ttok ?_ | refine R.zc ttok ?_ | refine R.za ttok ?_ | refine R.zx ?_ | refine R.zl ttok ?_ | refine R.zs ttok ?_ | refine R.z ttok ?_ | refine R.zk ?_ | refine R.zn ?_ | refine R.done ?_ | refine X.then ?_ | refine C.block ?_ | refine C.ret ?_ | refine C.skip ?_ | refine C.exit ?_ | refine X.pass_ret ?_ | refine X.pass_exit ?_ | refine X.block_normal ?_ | refine X.block_ret ?_ | refine X.block_exit ?_ | refine C.zt ?_ | refine C.zf ?_ | refine X.zo ?_)
  refine X.fin ttok cC [(2, 5)] ⟨hC, hC2⟩ rfl rfl rfl (by exact .same rfl rfl rfl rfl (.same rfl rfl rfl (fun _ _ => rfl) .nil)) _ (by first | exact .inl rfl | exact .inr rfl)
end Go.Proofs.Ytlcojlcackkhpaa
