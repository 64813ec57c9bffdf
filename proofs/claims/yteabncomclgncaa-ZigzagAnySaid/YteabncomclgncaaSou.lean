/- The row of ZigzagAny: for every input the law returns true, and each argument reads behind the call as it read before. No condition. -/
import Derived.Test.YteabncomclgncaaSos
import Derived.Test.YteabncomclgncaaRows
import Derived.OpenShut
import Derived.ShutString
import Derived.ChangeOld
namespace Go.Proofs.Yteabncomclgncaa.zigzagAny
open Go.ChangeShapes Go.WideShapes Go.ChangeAt Go.RowKit
open Go.ChangeMaps (open_string shut_string)
set_option linter.unusedVariables false
set_option linter.unusedSimpArgs false
theorem own : ownKnob Try.prog.godebug = none := by kernel_rfl
theorem laidOut : laidOutB Try.prog = true := by kernel_rfl
set_option maxRecDepth 100000 in
theorem lifted (os : Os) (started : os.Started) (H : Type) (enc : TypeId × Value → H) :
    ReturnsInHanded {} Try.checked os 3 .any (Rows.zigzagAnySpec.pre6 enc Try.prog Try.f3 Rows.zigzagAnyRow.domain false) (Rows.zigzagAnySpec.post enc Try.prog Try.f3 false true false false) := by
  refine returnsInHanded_of_change_sized (C := Try.checked) own started (by kernel_rfl) Try.func3
    (ChangeSpec.witness6 (enc := enc) (C := Try.checked) false ⟨#[], #[.slice none 0 0, .slice none 0 0], []⟩ 8 (by kernel_rfl) (by kernel_rfl) (by kernel_rfl) (by kernel_rfl)) ?_
  intro W base args ds gs before hval0 hW hcnd hsz0 _
  have hsz : (DataW.weightsEach Try.prog (Try.f3.params.toList ++ Rows.zigzagAnySpec.plain.varTypes Try.prog) (ds ++ gs)).all (· ≤ reachBytes) = true := hsz0
  have hval : ∀ (j : Nat) t v, Try.f3.params[j]? = some t → args[j]? = some v → Value.okWide Try.prog W .any base t v := hval0
  have hW' : DataW.Whole enc Try.prog Try.f3.params.toList Rows.zigzagAnySpec.vars false W args.toList ds gs before := hW
  obtain ⟨p, q, hA0, hV, rfl, hfz, hnd⟩ := hW
  have hA : DataW.TrodAll enc Try.prog W 0 (fun _ => true) true Try.f3.params.toList args.toList ds p := hA0
  rw [Try.params3] at hA hval hsz
  obtain ⟨v0, vs0, d0, ds0, p0, q0, hargs, rfl, rfl, h0, r0⟩ := trodAll_cons hA
  obtain ⟨v1, vs1, d1, ds1, p1, q1, rfl, rfl, rfl, h1, r1⟩ := trodAll_cons r0
  obtain ⟨rfl, rfl, rfl⟩ := trodAll_nil r1
  obtain rfl : args = #[v0, v1] := by cases args; simp_all
  obtain ⟨rfl, rfl⟩ := trodVars_none hV
  have k0 := h0
  have lt0 : ∀ x ∈ p0, x.block < W.heap.size := by obtain ⟨m, hm⟩ := k0; exact DataW.trod_lt m _ _ _ hm
  have hv0 := (hval 0 22 v0 rfl rfl)
  obtain ⟨x0, len0, cap0, rfl⟩ := okWide_slice Try.underlying22 hv0
  obtain ⟨bk0, o0, z0, rfl, rfl, ok0, hl0, hc0, hb0, hh0⟩ := read_texts Try.underlying22 hv0 h0
  have k1 := h1
  have lt1 : ∀ x ∈ p1, x.block < W.heap.size := by obtain ⟨m, hm⟩ := k1; exact DataW.trod_lt m _ _ _ hm
  have hv1 := (hval 1 23 v1 rfl rfl)
  obtain ⟨x1, len1, cap1, rfl⟩ := okWide_slice Try.underlying23 hv1
  obtain ⟨bk1, o1, z1, rfl, rfl, ok1, hl1, hc1, hb1, hh1⟩ := read_procs Try.underlying23 hv1 h1
  clear hA0 hval0 hsz0
  let ρ : Env := fun i => match i with | 0 => bk0 | 1 => bk1 | _ => none
  have hal : ∀ i b, ρ i = some b → b < W.heap.size := fun i b h => match i, h with
    | 0, h => hb0 b h
    | 1, h => hb1 b h
    | (_ + 2), h => by cases h
  have sp := Pq.zigzagAny_law z0 z1 o0 o1 cap0 cap1 (by omega) (by omega)
  have hc := sp.law (by rfl) ρ W (fun i o h => match i, h with
    | 0, h => by cases h; exact hh0 _
    | 1, h => by cases h; exact hh1 _
    | (_ + 2), h => by simp at h) hal _ rfl
  simp only [AV.concs, AV.conc, Nat.mul_one, Option.getD_some] at hc
  refine hc.mono fun e W' ⟨he, bel⟩ => ?_
  subst he
  exact ⟨_, rfl, _, _, _, [], _, [], hW', trodAll_mk1 (shut_bool Try.underlying4 _), (trodAll_cons_mk (Below.trod laidOut (by kernel_rfl) (of_decide_eq_true (by kernel_rfl)) k0 bel lt0) (trodAll_cons_mk (Below.trod laidOut (by kernel_rfl) (of_decide_eq_true (by kernel_rfl)) k1 bel lt1) trodAll_mk0)), rfl, bel.frame _, fun h => by cases h⟩
theorem over : Rows.zigzagAnyRow.holds Try.pinned (OpenSpec.ofChange Rows.zigzagAnySpec) :=
  OpenClaim.holds_of_wide 3 Try.f3 rfl rfl rfl rfl rfl rfl rfl ⟨rfl, rfl, rfl, rfl, rfl⟩ rfl rfl rfl rfl rfl (by kernel_rfl) Try.func3 (by kernel_rfl)
    (of_decide_eq_true (by kernel_rfl)) (by unfold Func.isWrapper; first | (rw [if_pos (by decide +kernel)]; kernel_rfl) | (rw [if_neg (by decide +kernel)]; exact ⟨rfl, rfl⟩))
    (fun os started H enc _ => lifted os started H enc)
end Go.Proofs.Yteabncomclgncaa.zigzagAny
namespace Go.Proofs.Yteabncomclgncaa
/-- The row. -/
theorem zigzagAny_holds : Rows.ZigzagAnySaid := zigzagAny.over
#print axioms zigzagAny_holds
end Go.Proofs.Yteabncomclgncaa
