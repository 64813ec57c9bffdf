/- table: rising keys stay rising; known; one -/
import Derived.Test.YtlcojlcackkhpaaT8
namespace Go.Proofs.Ytlcojlcackkhpaa
set_option linter.unusedVariables false
set_option linter.unusedSimpArgs false
open Go.RowKit
set_option maxRecDepth 100000
set_option maxHeartbeats 4000000
/-! plain facts -/
theorem plc_lt {l : List PI} (hA : Asc l) (k : ByteArray) {i : Nat} (hi : i < l.length) : cmpS (l[i]).1 k < 0 ↔ i < plc l k := by
  have := plc_iff hA k zI i hi
  rwa [List.getD_eq_getElem?_getD, List.getElem?_eq_getElem hi] at this
theorem asc_ins {l : List PI} (hA : Asc l) (k : ByteArray) (v : Int) (h : hasK l k = false) : Asc (insL l (plc l k) (k, v)) := by
  have hlo : ∀ q ∈ l.take (plc l k), cmpS q.1 k < 0 := fun q hq => by
    obtain ⟨i, hi, rfl⟩ := List.mem_iff_getElem.1 hq
    rw [List.length_take] at hi
    rw [List.getElem_take]
    exact (plc_lt hA k (by omega)).2 (by omega)
  have hhi : ∀ q ∈ l.drop (plc l k), cmpS k q.1 < 0 := fun q hq => by
    obtain ⟨i, hi, rfl⟩ := List.mem_iff_getElem.1 hq
    rw [List.length_drop] at hi
    rw [List.getElem_drop]
    have hlt : plc l k + i < l.length := by omega
    have h1 : ¬ cmpS (l[plc l k + i]).1 k < 0 := fun e => by have := (plc_lt hA k hlt).1 e; omega
    have h2 : cmpS (l[plc l k + i]).1 k ≠ 0 := fun e => by
      rcases Nat.eq_zero_or_pos i with h0 | h0
      · subst h0
        have : hasK l k = true := decide_eq_true ⟨by omega, by rw [List.getD_eq_getElem?_getD, List.getElem?_eq_getElem (by omega)]; exact e⟩
        rw [this] at h; cases h
      · have h3 := List.pairwise_iff_getElem.1 hA (plc l k) (plc l k + i) (by omega) hlt (by omega)
        rw [cmpS_zero.1 e] at h3
        have := (plc_lt hA k (show plc l k < l.length by omega)).1 h3
        omega
    rw [cmpS_swap]
    omega
  unfold Asc insL
  rw [List.pairwise_append, List.pairwise_cons]
  refine ⟨hA.sublist (List.take_sublist _ _), ⟨hhi, hA.sublist (List.drop_sublist _ _)⟩, fun a ha b hb => ?_⟩
  rcases List.mem_cons.1 hb with rfl | hb
  · exact hlo a ha
  · exact cmpS_trans (hlo a ha) (hhi b hb)
theorem asc_put {l : List PI} (hA : Asc l) (k : ByteArray) (v : Int) : Asc (putI l k v) := by
  cases h : hasK l k with
  | false => rw [putI_new v h]; exact asc_ins hA k v h
  | true =>
    rw [putI_old v h]
    have hm : ∀ m : List PI, Asc m ↔ (m.map (·.1)).Pairwise fun a b => cmpS a b < 0 := fun m => by unfold Asc; rw [List.pairwise_map]
    rw [hm] at hA ⊢
    rw [List.map_set]
    have : (l.map (·.1)).set (plc l k) (l.getD (plc l k) zI).1 = l.map (·.1) := by
      have hlt := (hasK_lt h).1
      apply List.ext_getElem?
      intro j
      rw [List.getElem?_set]
      split
      · rename_i e; subst e
        simp [hlt]
      · rfl
    rwa [this]
theorem del_sub (l : List PI) (i : Nat) : (delL l i).Sublist l := by
  unfold delL
  conv => rhs; rw [← List.take_append_drop i l]
  exact List.Sublist.append (List.Sublist.refl _) (List.drop_sublist_drop_left l (Nat.le_succ i))
theorem del_subl (l : List PI) (k : ByteArray) : (delI l k).Sublist l := by
  unfold delI
  split
  · exact del_sub l _
  · exact List.Sublist.refl _
theorem asc_del {l : List PI} (hA : Asc l) (k : ByteArray) : Asc (delI l k) := hA.sublist (del_subl l k)
theorem put_len (l : List PI) (k : ByteArray) (v : Int) : (putI l k v).length ≤ l.length + 1 := by
  cases h : hasK l k with
  | false => rw [putI_new v h, insL_len]; omega
  | true => rw [putI_old v h, List.length_set]; omega
theorem del_len (l : List PI) (k : ByteArray) : (delI l k).length ≤ l.length := (del_subl l k).length_le
/-! steps -/
structure Stp where
  kind : Int
  key : ByteArray
  to : ByteArray
  v : Int
  stop : Int
def Stp.no : Stp := ⟨0, ⟨#[]⟩, ⟨#[]⟩, 0, 0⟩
abbrev stA (x : Stp) : List AV := [.raw (.int .i64 x.kind), .raw (.string x.key), .raw (.string x.to), .raw (.int .i64 x.v), .raw (.int .i64 x.stop)]
def stF (l : List Stp) (i : Nat) : List AV := stA (l.getD i Stp.no)
abbrev roS (off : Nat) (l : List Stp) : AO := .ro 1 off (l.length * 5) (rowsF 5 (stF l))
theorem rowsS_bd (L k : Nat) (l : List Stp) (m : Nat) : ∀ i, i < m → AV.bds L (rowsF k (stF l) i) = true := fun i _ => by
  unfold rowsF stF
  split
  · rename_i v hv
    have : v ∈ stA (l.getD (i / k) Stp.no) := List.mem_of_getElem? hv
    simp only [stA, List.mem_cons, List.not_mem_nil, or_false] at this
    rcases this with rfl | rfl | rfl | rfl | rfl <;> rfl
  · rfl
theorem rowsS_ren (r : Nat → Nat) (k : Nat) (l : List Stp) : (fun i => AV.rens r (rowsF k (stF l) i)) = rowsF k (stF l) := by
  funext i
  unfold rowsF stF
  split
  · rename_i v hv
    have : v ∈ stA (l.getD (i / k) Stp.no) := List.mem_of_getElem? hv
    simp only [stA, List.mem_cons, List.not_mem_nil, or_false] at this
    rcases this with rfl | rfl | rfl | rfl | rfl <;> rfl
  · rfl
theorem HasH.ros {r : Nat → Nat} {L : Nat} {h rest : List (Nat × AO)} {l off : Nat} {s : List Stp} (h1 : hk (r l) h = some (roS off s)) (h3 : Nat.ble (l + 1) L = true) (k : HasH r L h rest) : HasH r L h ((l, roS off s) :: rest) :=
  .other h1 id (fun ρ x w hh => by simp only [AO.ren, rowsS_ren]; exact hh) h3 (rowsS_bd _ _ _ _) k
theorem HasIn.ros {r : Nat → Nat} {h : List (Nat × AO)} {i off : Nat} {s : List Stp} {os : List AO} (h1 : hk (r i) h = some (roS off s)) (k : HasIn r h (i + 1) os) : HasIn r h i (roS off s :: os) :=
  .other h1 id (fun ρ x w hh => by simp only [AO.ren, rowsS_ren]; exact hh) k
/-- a table and the document's have the same -/
structure Duo (l : List PI) (c c' : Nat) : Prop where
  asc : Asc l
  len1 : l.length ≤ c
  cap1 : c ≤ 9223372036854775807
  len2 : l.length ≤ c'
  cap2 : c' ≤ 9223372036854775807
/-! new, known -/
abbrev zeroT : AO := .cells [.raw (.slice none 0 0)] 44
theorem newI_spec : Spec Try.prog 22 [] [] 1 (σ := Unit) (fun _ => True) (fun _ => .ptr 0 0 0 0) (fun _ => [(0, zeroT)]) := by
  refine Spec.of Try.func22 rfl Try.ntmps22 rfl (by simp [AO.Bd, bytesF, AV.bds, AV.bd]) fun ρ w => ?_
  repeat (first | refine C.seq ?_ | refine C.region ?_ | refine R.zb ttok ?_ | refine R.zu ttok ?_ | refine R.zc ttok ?_ | refine R.za ttok ?_ | refine R.zx ?_ | refine R.zl ttok ?_ | refine R.zs ttok ?_ | refine R.z ttok ?_ | refine R.zk ?_ | refine R.zn ?_ | refine R.done ?_ | refine X.then ?_ | refine C.block ?_ | refine C.ret ?_ | refine C.skip ?_ | refine C.exit ?_ | refine X.pass_ret ?_ | refine X.pass_exit ?_ | refine X.block_normal ?_ | refine X.block_ret ?_ | refine X.block_exit ?_ | refine C.zt ?_ | refine C.zf ?_ | refine X.zo ?_)
  refine X.fin ttok () [] trivial rfl rfl rfl (by repeat (first | exact HasH.nil | refine HasH.same rfl rfl rfl trivial ?_ | refine HasH.same rfl rfl rfl rfl ?_ | refine HasH.same rfl rfl rfl (fun _ _ => rfl) ?_)) _ (by first | exact .inl rfl | exact .inr rfl)
abbrev kA : ByteArray := ⟨#[97]⟩
abbrev kB : ByteArray := ⟨#[98]⟩
theorem as1 : Asc ([(kB, 2)] : List PI) := by unfold Asc; exact List.pairwise_singleton _ _
theorem kn1 : putI [] kB 2 = [(kB, 2)] := by kernel_rfl
theorem kn2 : putI [(kB, 2)] kA 1 = [(kA, 1), (kB, 2)] := by kernel_rfl
theorem kn3 : getI [(kA, 1), (kB, 2)] kB = 2 ∧ hasK [(kA, 1), (kB, 2)] kB = true ∧ aboveN [(kA, 1), (kB, 2)] kA = 1 ∧ delI [(kA, 1), (kB, 2)] kA = [(kB, 2)] ∧ getI [(kA, 1), (kB, 2)] kA = 1 ∧ hasK [(kA, 1), (kB, 2)] kA = true := by
  refine ⟨by kernel_rfl, by kernel_rfl, by kernel_rfl, by kernel_rfl, by kernel_rfl, by kernel_rfl⟩
theorem known_spec : Spec Try.prog 21 [] [] 0 (σ := Unit) (fun _ => True) (fun _ => .raw (.bool true)) (fun _ => []) := by
  refine Spec.of Try.func21 rfl Try.ntmps21 rfl (by simp [AO.Bd, bytesF, AV.bds, AV.bd]) fun ρ w => ?_
  repeat (first | refine C.seq ?_ | refine C.region ?_ | refine R.zb ttok ?_ | refine R.zu ttok ?_ | refine R.zc ttok ?_ | refine R.za ttok ?_ | refine R.zx ?_ | refine R.zl ttok ?_ | refine R.zs ttok ?_ | refine R.z ttok ?_ | refine R.zk ?_ | refine R.zn ?_ | refine R.done ?_ | refine X.then ?_ | refine C.block ?_ | refine C.ret ?_ | refine C.skip ?_ | refine C.exit ?_ | refine X.pass_ret ?_ | refine X.pass_exit ?_ | refine X.block_normal ?_ | refine X.block_ret ?_ | refine X.block_exit ?_ | refine C.zt ?_ | refine C.zf ?_ | refine X.zo ?_)
  refine R.cl [] (newI_spec) Try.call22 (by repeat (first | exact HasIn.nil | refine HasIn.same rfl rfl ?_ | refine HasIn.bro rfl ?_ | refine HasIn.ror rfl ?_ | refine HasIn.cro rfl rfl ?_)) rfl rfl rfl (fun _ => rfl) rfl (by kernel_rfl) fun _ _ => ?_
  refine R.noneH 0 [.sl 1 2 0 ([] : List PI).length 0] (.tab 2 ([] : List PI).length 0 (piF []) 100) (none_tab _ _ _ _) rfl rfl rfl (fun ρ h => by have h : ρ 1 = none := h; show [(AV.sl 1 2 0 0 0).conc ρ] = [Value.slice none 0 0]; simp [AV.conc, h]) ?_
  repeat (first | refine C.seq ?_ | refine C.region ?_ | refine R.zb ttok ?_ | refine R.zu ttok ?_ | refine R.zc ttok ?_ | refine R.za ttok ?_ | refine R.zx ?_ | refine R.zl ttok ?_ | refine R.zs ttok ?_ | refine R.z ttok ?_ | refine R.zk ?_ | refine R.zn ?_ | refine R.done ?_ | refine X.then ?_ | refine C.block ?_ | refine C.ret ?_ | refine C.skip ?_ | refine C.exit ?_ | refine X.pass_ret ?_ | refine X.pass_exit ?_ | refine X.block_normal ?_ | refine X.block_ret ?_ | refine X.block_exit ?_ | refine C.zt ?_ | refine C.zf ?_ | refine X.zo ?_)
  refine R.cl [0, 1] (putI_spec [] 0 kB 2 List.Pairwise.nil (by simp) (by simp) (by omega)) Try.call33 (by repeat (first | exact HasIn.nil | refine HasIn.same rfl rfl ?_ | refine HasIn.bro rfl ?_ | refine HasIn.ror rfl ?_ | refine HasIn.cro rfl rfl ?_)) rfl rfl rfl (fun _ => rfl) rfl (by kernel_rfl) fun c1 hc1 => ?_
  rw [kn1] at hc1 ⊢
  repeat (first | refine C.seq ?_ | refine C.region ?_ | refine R.zb ttok ?_ | refine R.zu ttok ?_ | refine R.zc ttok ?_ | refine R.za ttok ?_ | refine R.zx ?_ | refine R.zl ttok ?_ | refine R.zs ttok ?_ | refine R.z ttok ?_ | refine R.zk ?_ | refine R.zn ?_ | refine R.done ?_ | refine X.then ?_ | refine C.block ?_ | refine C.ret ?_ | refine C.skip ?_ | refine C.exit ?_ | refine X.pass_ret ?_ | refine X.pass_exit ?_ | refine X.block_normal ?_ | refine X.block_ret ?_ | refine X.block_exit ?_ | refine C.zt ?_ | refine C.zf ?_ | refine X.zo ?_)
  refine R.cl [0, 2] (putI_spec [(kB, 2)] c1 kA 1 as1 (by simp) hc1.1 hc1.2) Try.call33 (by repeat (first | exact HasIn.nil | refine HasIn.same rfl rfl ?_ | refine HasIn.bro rfl ?_ | refine HasIn.ror rfl ?_ | refine HasIn.cro rfl rfl ?_)) rfl rfl rfl (fun _ => rfl) rfl (by kernel_rfl) fun c2 hc2 => ?_
  rw [kn2] at hc2 ⊢
  have hA : Asc ([(kA, 1), (kB, 2)] : List PI) := by have := asc_put as1 kA 1; rwa [kn2] at this
  repeat (first | refine C.seq ?_ | refine C.region ?_ | refine R.zb ttok ?_ | refine R.zu ttok ?_ | refine R.zc ttok ?_ | refine R.za ttok ?_ | refine R.zx ?_ | refine R.zl ttok ?_ | refine R.zs ttok ?_ | refine R.z ttok ?_ | refine R.zk ?_ | refine R.zn ?_ | refine R.done ?_ | refine X.then ?_ | refine C.block ?_ | refine C.ret ?_ | refine C.skip ?_ | refine C.exit ?_ | refine X.pass_ret ?_ | refine X.pass_exit ?_ | refine X.block_normal ?_ | refine X.block_ret ?_ | refine X.block_exit ?_ | refine C.zt ?_ | refine C.zf ?_ | refine X.zo ?_)
  refine R.cl [0, 3] (getI_spec [(kA, 1), (kB, 2)] c2 kB hA (by simp)) Try.call41 (by repeat (first | exact HasIn.nil | refine HasIn.same rfl rfl ?_ | refine HasIn.ros rfl ?_ | refine HasIn.other rfl (fun e => by cases e) (fun ρ x w hh => tab_ro hh) ?_)) rfl rfl rfl (fun _ => rfl) rfl (by kernel_rfl) fun _ _ => ?_
  rw [kn3.1, kn3.2.1]
  repeat (first | refine C.seq ?_ | refine C.region ?_ | refine R.zb ttok ?_ | refine R.zu ttok ?_ | refine R.zc ttok ?_ | refine R.za ttok ?_ | refine R.zx ?_ | refine R.zl ttok ?_ | refine R.zs ttok ?_ | refine R.z ttok ?_ | refine R.zk ?_ | refine R.zn ?_ | refine R.done ?_ | refine X.then ?_ | refine C.block ?_ | refine C.ret ?_ | refine C.skip ?_ | refine C.exit ?_ | refine X.pass_ret ?_ | refine X.pass_exit ?_ | refine X.block_normal ?_ | refine X.block_ret ?_ | refine X.block_exit ?_ | refine C.zt ?_ | refine C.zf ?_ | refine X.zo ?_)
  refine R.cl [0, 3] (nextI_spec [(kA, 1), (kB, 2)] c2 kA hA (by simp)) Try.call35 (by repeat (first | exact HasIn.nil | refine HasIn.same rfl rfl ?_ | refine HasIn.ros rfl ?_ | refine HasIn.other rfl (fun e => by cases e) (fun ρ x w hh => tab_ro hh) ?_)) rfl rfl rfl (fun _ => rfl) rfl (by kernel_rfl) fun _ _ => ?_
  rw [kn3.2.2.1]
  repeat (first | refine C.seq ?_ | refine C.region ?_ | refine R.zb ttok ?_ | refine R.zu ttok ?_ | refine R.zc ttok ?_ | refine R.za ttok ?_ | refine R.zx ?_ | refine R.zl ttok ?_ | refine R.zs ttok ?_ | refine R.z ttok ?_ | refine R.zk ?_ | refine R.zn ?_ | refine R.done ?_ | refine X.then ?_ | refine C.block ?_ | refine C.ret ?_ | refine C.skip ?_ | refine C.exit ?_ | refine X.pass_ret ?_ | refine X.pass_exit ?_ | refine X.block_normal ?_ | refine X.block_ret ?_ | refine X.block_exit ?_ | refine C.zt ?_ | refine C.zf ?_ | refine X.zo ?_)
  refine R.cl [0, 3] (delI_spec [(kA, 1), (kB, 2)] c2 kA hA (by simp) hc2.1 hc2.2) Try.call43 (by repeat (first | exact HasIn.nil | refine HasIn.same rfl rfl ?_ | refine HasIn.bro rfl ?_ | refine HasIn.ror rfl ?_ | refine HasIn.cro rfl rfl ?_)) rfl rfl rfl (fun _ => rfl) rfl (by kernel_rfl) fun c3 hc3 => ?_
  rw [kn3.2.2.2.1, kn3.2.2.2.2.1, kn3.2.2.2.2.2]
  repeat (first | refine C.seq ?_ | refine C.region ?_ | refine R.zb ttok ?_ | refine R.zu ttok ?_ | refine R.zc ttok ?_ | refine R.za ttok ?_ | refine R.zx ?_ | refine R.zl ttok ?_ | refine R.zs ttok ?_ | refine R.z ttok ?_ | refine R.zk ?_ | refine R.zn ?_ | refine R.done ?_ | refine X.then ?_ | refine C.block ?_ | refine C.ret ?_ | refine C.skip ?_ | refine C.exit ?_ | refine X.pass_ret ?_ | refine X.pass_exit ?_ | refine X.block_normal ?_ | refine X.block_ret ?_ | refine X.block_exit ?_ | refine C.zt ?_ | refine C.zf ?_ | refine X.zo ?_)
  rw [same_cmp, decide_eq_true (show cmpS (([(kA, 1), (kB, 2)] : List PI).getD 1 zI).1 kB = 0 by kernel_rfl)]
  repeat (first | refine C.seq ?_ | refine C.region ?_ | refine R.zb ttok ?_ | refine R.zu ttok ?_ | refine R.zc ttok ?_ | refine R.za ttok ?_ | refine R.zx ?_ | refine R.zl ttok ?_ | refine R.zs ttok ?_ | refine R.z ttok ?_ | refine R.zk ?_ | refine R.zn ?_ | refine R.done ?_ | refine X.then ?_ | refine C.block ?_ | refine C.ret ?_ | refine C.skip ?_ | refine C.exit ?_ | refine X.pass_ret ?_ | refine X.pass_exit ?_ | refine X.block_normal ?_ | refine X.block_ret ?_ | refine X.block_exit ?_ | refine C.zt ?_ | refine C.zf ?_ | refine X.zo ?_)
  refine R.cl [0, 4] (lenI_spec [(kB, 2)] c3) Try.call31 (by repeat (first | exact HasIn.nil | refine HasIn.same rfl rfl ?_ | refine HasIn.ros rfl ?_ | refine HasIn.other rfl (fun e => by cases e) (fun ρ x w hh => tab_ro hh) ?_)) rfl rfl rfl (fun _ => rfl) rfl (by kernel_rfl) fun _ _ => ?_
  repeat (first | refine C.seq ?_ | refine C.region ?_ | refine R.zb ttok ?_ | refine R.zu ttok ?_ | refine R.zc ttok ?_ | refine R.za ttok ?_ | refine R.zx ?_ | refine R.zl ttok ?_ | refine R.zs ttok ?_ | refine R.z ttok ?_ | refine R.zk ?_ | refine R.zn ?_ | refine R.done ?_ | refine X.then ?_ | refine C.block ?_ | refine C.ret ?_ | refine C.skip ?_ | refine C.exit ?_ | refine X.pass_ret ?_ | refine X.pass_exit ?_ | refine X.block_normal ?_ | refine X.block_ret ?_ | refine X.block_exit ?_ | refine C.zt ?_ | refine C.zf ?_ | refine X.zo ?_)
  refine X.fin ttok () [] trivial rfl rfl rfl (by repeat (first | exact HasH.nil | refine HasH.same rfl rfl rfl trivial ?_ | refine HasH.same rfl rfl rfl rfl ?_ | refine HasH.same rfl rfl rfl (fun _ _ => rfl) ?_)) _ (by first | exact .inl rfl | exact .inr rfl)
end Go.Proofs.Ytlcojlcackkhpaa
