/- The row of AsmPrints and its card: for every input the law returns true, and each argument reads behind the call as it read before. -/
import Derived.Test.YtaieficgifingaaGreatDoorPPv
import Derived.Test.YtaieficgifingaaGreatDoorCards
import Derived.Test.YtaieficgifingaaGreatDoorTie
import Derived.OpenShut
import Derived.ShutString
import Derived.ChangeOld
import Derived.SizedLaws
namespace Go.Proofs.YtaieficgifingaaGreatDoor.asmPrints
open Go.ChangeShapes Go.WideShapes Go.ChangeAt Go.RowKit
open Go.ChangeMaps (open_string shut_string)
set_option linter.unusedVariables false
set_option linter.unusedSimpArgs false
theorem own : ownKnob Tryz.prog.godebug = none := by kernel_rfl
theorem laidOut : laidOutB Tryz.prog = true := by kernel_rfl
theorem reads (os : Os) {H : Type} (enc : TypeId × Value → H) : ∃ places, DataW.whole enc Tryz.prog ((laidW os).forCall (fun _ _ => 0) ⟨#[], #[.agg #[.string ByteArray.empty, .int .i64 0, .slice none 0 0]], []⟩).memory Tryz.f4.params.toList Rows.asmPrintsSpec.vars false #[Value.agg #[.string ByteArray.empty, .int .i64 0, .slice none 0 0]].toList 8 = some ([.agg [.lit (.string []), .lit (.int .i64 0), .nil]], [], places) :=
  ⟨[], by kernel_rfl⟩
set_option maxRecDepth 100000 in
theorem lifted (os : Os) (started : os.Started) (H : Type) (enc : TypeId × Value → H) (F : Stop.Interp) :
    ReturnsInHanded {} Tryz.checked os 4 .any ((Rows.OpenSpec.upto Rows.asmPrintsSpec).preRow enc Tryz.prog Tryz.f4 Rows.asmPrintsUptoRow.domain false Rows.asmPrintsUptoRow.laid) (((Rows.OpenSpec.upto Rows.asmPrintsSpec).at F).post enc Tryz.prog Tryz.f4 false true false false) := by
  obtain ⟨places, hx⟩ := reads os enc
  refine returnsInHanded_of_row (C := Tryz.checked) (s := Rows.OpenSpec.upto Rows.asmPrintsSpec) own started (by kernel_rfl) Tryz.func4
    (witness_row_atRef (enc := enc) (C := Tryz.checked) false (laidW os) #[.agg #[.string ByteArray.empty, .int .i64 0, .slice none 0 0]] (World.laidAll_os _ _ _) (by kernel_rfl) (by kernel_rfl) (by kernel_rfl)
      (OpenSpec.preRow_of_cond 8 hx (by kernel_rfl) (fun k hk => by cases hk; kernel_rfl) (by kernel_rfl) (laidW_met os _))) ?_
  intro W base args ds gs before hval0 hW _ _ hsz0 hL _ _
  have hsz : (DataW.weightsEach Tryz.prog (Tryz.f4.params.toList ++ Rows.asmPrintsSpec.plain.varTypes Tryz.prog) (ds ++ gs)).all (· ≤ reachBytes) = true := hsz0
  have hval : ∀ (j : Nat) t v, Tryz.f4.params[j]? = some t → args[j]? = some v → Value.okWide Tryz.prog W .any base t v := hval0
  have hW' : DataW.Whole enc Tryz.prog Tryz.f4.params.toList Rows.asmPrintsSpec.vars false W args.toList ds gs before := hW
  obtain ⟨p, q, hA0, hV, rfl, hfz, hnd⟩ := hW
  have hA : DataW.TrodAll enc Tryz.prog W 0 (fun _ => true) true Tryz.f4.params.toList args.toList ds p := hA0
  rw [Tryz.params4] at hA hval hsz
  obtain ⟨v0, vs0, d0, ds0, p0, q0, hargs, rfl, rfl, h0, r0⟩ := trodAll_cons hA
  obtain ⟨rfl, rfl, rfl⟩ := trodAll_nil r0
  obtain rfl : args = #[v0] := by cases args; simp_all
  obtain ⟨rfl, rfl⟩ := trodVars_none hV
  have k0 := h0
  have lt0 : ∀ x ∈ p0, x.block < W.heap.size := by obtain ⟨m, hm⟩ := k0; exact DataW.trod_lt m _ _ _ hm
  obtain ⟨nm, ar, r, off, l, cap, rfl, hI, hl1, hl2, hb, hh⟩ := read_proc (hval 0 25 v0 rfl rfl) h0
  clear hA0 hval0 hsz0
  obtain ⟨fs, hG, hfc, hat⟩ := glob_of hL
  let ρ : Env := fun i => match i with | 0 => r | _ => none
  have hal : ∀ i b, ρ i = some b → b < W.heap.size := fun i b h => match i, h with
    | 0, h => hb b h
    | (_ + 1), h => by cases h
  have sp := asmPrints1_law nm ar l off cap (by omega) hI fs hG hfc
  have hc := sp.law (by rfl) ρ W ⟨hat, hG.ro⟩ (fun i o h => match i, h with
    | 0, h => by cases h; exact hh _
    | (_ + 1), h => by simp at h) hal _ rfl
  simp only [AV.concs, AV.conc, Nat.mul_one, Option.getD_some] at hc
  refine hc.mono fun e W' ⟨he, bel⟩ => ?_
  subst he
  exact ⟨_, rfl, _, _, _, [], _, [], hW', trodAll_mk1 (shut_bool Tryz.underlying4 _), (trodAll_cons_mk (Below.trod laidOut (by kernel_rfl) (of_decide_eq_true (by kernel_rfl)) k0 bel lt0) trodAll_mk0), rfl, bel.frame _, fun h => by cases h⟩
theorem over : Rows.asmPrintsUptoRow.holds Tryz.pinned (Rows.OpenSpec.upto Rows.asmPrintsSpec) :=
  OpenClaim.holds_of_cond 4 Tryz.f4 rfl rfl rfl rfl rfl rfl rfl ⟨rfl, rfl, rfl, rfl, rfl⟩ rfl rfl rfl rfl rfl (by kernel_rfl) Tryz.func4 (by kernel_rfl)
    (of_decide_eq_true (by kernel_rfl)) (by unfold Func.isWrapper; first | (rw [if_pos (by decide +kernel)]; kernel_rfl) | (rw [if_neg (by decide +kernel)]; exact ⟨rfl, rfl⟩))
    (fun os started H enc _ F => by rw [OpenClaim.pre_eq_preRow]; exact lifted os started H enc F)
theorem said : Rows.AsmPrintsUptoSaid := over
theorem plain (f : FuncId) (fn : Func) (hf : Tryz.pinned.checked.prog.funcNamed "treadle/treadlelaw7.AsmPrints" = some f) (hfn : Tryz.pinned.checked.prog.funcs[f]? = some fn) :
    true = Tryz.pinned.checked.prog.looks [] ∧ ∀ (j : Nat) t, fn.params[j]? = some t → Tryz.pinned.checked.prog.wantsStandIn t = false := by
  obtain rfl : f = 4 := Option.some.inj ((show Tryz.prog.funcNamed "treadle/treadlelaw7.AsmPrints" = some 4 by kernel_rfl).symm.trans hf) |>.symm
  obtain rfl : fn = Tryz.f4 := (Option.some.inj (Tryz.func4.symm.trans hfn)).symm
  refine ⟨by kernel_rfl, fun j t ht => ?_⟩
  rw [Tryz.params4] at ht
  obtain rfl : t = 25 := by simpa using Array.mem_of_getElem? ht
  exact (show Tryz.prog.wantsStandIn 25 = false by kernel_rfl)
end Go.Proofs.YtaieficgifingaaGreatDoor.asmPrints
namespace Go.Proofs.YtaieficgifingaaGreatDoor
/-- The card. -/
theorem asmPrints_holds : Rows.AsmPrintsUptoCardSaid :=
  Claim7.holds_tied_plain_at .later [] _ _ _ _ asmPrints.said (fun _ h => by cases h) (by kernel_rfl) (fun _ h => by cases h) asmPrintsUpto_row_tie rfl ⟨rfl, rfl⟩ (by kernel_rfl) rfl asmPrints.plain (by kernel_rfl)
#print axioms asmPrints_holds
end Go.Proofs.YtaieficgifingaaGreatDoor
