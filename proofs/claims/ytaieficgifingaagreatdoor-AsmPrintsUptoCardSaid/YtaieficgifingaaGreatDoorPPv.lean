/- Texts of the claim, merged: only what the theorem needs. -/
import Derived.Test.YtaieficgifingaaGreatDoorPPu
import Derived.Test.YtaieficgifingaaGreatDoorRows
import Derived.LaidSub
import Derived.Lay
import Derived.Lib.LaidTab
import Derived.Deep.DeepHandedRow
import Derived.Deep.DeepWitnessRowRef
namespace Go.Proofs.YtaieficgifingaaGreatDoor
set_option linter.unusedVariables false
set_option linter.unusedSimpArgs false
open Go.ChangeShapes Go.WideShapes Go.ChangeAt Go.RowKit
set_option maxRecDepth 100000
theorem SpecF.law {P : Program} {f : FuncId} {avs : List AV} {h0 : List AO} {post : Unit → List (Nat × AO)} {m : Nat} {fs : Fam} {fs' : Unit → Fam} (sp : SpecF P f avs h0 m fs (σ := Unit) (fun _ => True) (fun _ => .raw (.bool true)) post fs') (hro : h0.all AO.isRo = true) (ρ : Env) (w : World) (hfs : AtF fs w ∧ ∀ p ∈ fs, p.rw = false)
    (hh : ∀ (i : Nat) (o : AO), h0[i]? = some o → o.holds ρ (ρ i) w) (hal : ∀ i b, ρ i = some b → b < w.heap.size) (vs : Array Value) (hv : (AV.concs ρ avs).toArray = vs) :
    Calls P f vs w fun e w' => e = .returned (.bool true) ∧ Below w.heap.size w w' := by
  have hr : ∀ (i : Nat) (o : AO), h0[i]? = some o → o.isRo = true := fun i o h => List.all_eq_true.1 hro o (List.mem_of_getElem? h)
  have hW : ∀ b, ¬ Wr0 h0 ρ b := fun b ⟨i, o, h, hn, _⟩ => by rw [hr i o h] at hn; cases hn
  have hF : ∀ b, ¬ WrF fs b := fun b ⟨p, hp, hn, _⟩ => by rw [hfs.2 p hp] at hn; cases hn
  have := sp ρ w hh ⟨fun i b _ h => hal i b h, fun i j o b h hn => (by rw [hr i o h] at hn; cases hn), hfs.1, apf_ro hfs.2, fun i b _ _ => hF b, fun b hb => absurd hb (hW b)⟩
  rw [hv] at this
  refine this.mono ?_
  rintro e w' ⟨s, ρ', _, _, he, _, hf, _⟩
  exact ⟨he, hf.ag.os, hf.ag.tape, hf.ag.output, hf.ag.size, fun b hb => hf.ag.block b hb ⟨hW b, hF b⟩⟩
theorem gPow : Tryz.prog.globalNamed "internal/strconv.uint64pow10" = some 0 := by kernel_rfl
theorem gErr : Tryz.prog.globalNamed "strconv.ErrRange" = some 3 := by kernel_rfl
theorem tPow : (Tryz.prog.globals[0]?).map (·.type) = some 180 := by kernel_rfl
theorem tErr : (Tryz.prog.globals[3]?).map (·.type) = some 84 := by kernel_rfl
theorem cPow : Tryz.prog.cellsOf 180 = 20 := by kernel_rfl
theorem c64 : Tryz.prog.cellsOf 162 = 1 := by kernel_rfl
theorem uErr : ∃ m, Tryz.prog.underlying 84 = some (.interface m) := ⟨_, Tryz.underlying84⟩
theorem trod_iface {H : Type} {enc : TypeId × Value → H} {P : Program} {w : World} {base : Nat} {sp : Nat → Bool} {held : Bool} {fuel : Nat} {t : TypeId} {m : Array (String × TypeId)} {cs : List Value} {y : DataW H × List MemPlace} (hu : P.underlying t = some (.interface m))
    (h : DataW.trod enc P w base sp held fuel t cs = some y) : cs = [.nilIface] ∨ ∃ u v, cs = [.iface u v] := by
  cases fuel with
  | zero => simp [DataW.trod] at h
  | succ n =>
    unfold DataW.trod at h
    rw [hu] at h
    split at h <;> first | contradiction | exact .inl rfl | exact .inr ⟨_, _, rfl⟩ | simp_all
theorem pow_of {W : World} (h : laidMetH Tryz.prog Rows.asmParsesRow.laid W) : Lib.TabIs Tryz.prog W "internal/strconv.uint64pow10" .u64 Lib.pow10Tab := by
  have h1 := h.filter (fun x => x.1 == "internal/strconv.uint64pow10")
  have e : (Rows.asmParsesRow.laid.filter fun x => x.1 == "internal/strconv.uint64pow10") = [("internal/strconv.uint64pow10", Lib.tabData .u64 Lib.pow10Tab)] := by kernel_rfl
  rw [e] at h1
  exact Lib.tabIs_of_head (rest := []) gPow tPow Tryz.underlying180 Tryz.underlying162 c64 cPow h1
theorem er_of {W : World} (h : laidMetH Tryz.prog Rows.asmParsesRow.laid W) : ∃ ev T f, W.heap[3]? = some (.cells #[ev] T f) ∧ (ev = .nilIface ∨ ∃ te pe, ev = .iface te pe) := by
  have h1 := h.filter (fun x => x.1 == "strconv.ErrRange")
  have e : (Rows.asmParsesRow.laid.filter fun x => x.1 == "strconv.ErrRange") = [("strconv.ErrRange", Rows.laid_strconv_ErrRange)] := by kernel_rfl
  rw [e] at h1
  obtain ⟨ps, ⟨g, t, cs, fuel, p, q, hg, ht, hvar, hd, _, _⟩, _⟩ := h1
  obtain rfl := Option.some.inj (gErr.symm.trans hg)
  obtain rfl := Option.some.inj (tErr.symm.trans ht)
  obtain ⟨m, hm⟩ := uErr
  have hc := trod_iface hm hd
  unfold World.var? at hvar
  rw [gErr] at hvar
  simp only [Option.bind_some] at hvar
  split at hvar
  · rename_i cs' T f hh
    have e2 : cs' = cs := by simpa using hvar
    subst e2
    have e3 : ∀ v, cs'.toList = [v] → cs' = #[v] := fun v hv => by cases cs'; simp_all
    rcases hc with hc | ⟨u, v, hc⟩
    · exact ⟨_, T, f, by rw [hh, e3 _ hc], .inl rfl⟩
    · exact ⟨_, T, f, by rw [hh, e3 _ hc], .inr ⟨u, v, rfl⟩⟩
  · cases hvar
/-- the tables laid for good, as facts that are only read -/
theorem glob_of {W : World} (h : laidMetH Tryz.prog Rows.asmParsesRow.laid W) : ∃ fs : Fam, Glob fs ∧ (∀ x ∈ fs, x.ob.isCells = true) ∧ AtF fs W := by
  obtain ⟨ev, T, f, h3, hev⟩ := er_of h
  have hp := pow_of h
  have h0 : ∃ cs T f, W.heap[0]? = some (.cells cs T f) := by
    have := hp
    unfold Lib.TabIs World.var? at this
    rw [gPow] at this
    simp only [Option.bind_some] at this
    split at this
    · rename_i cs T f hh
      exact ⟨cs, T, f, hh⟩
    · cases this
  obtain ⟨cs, T0, f0, h0⟩ := h0
  have hcs : cs = (Lib.pow10Tab.map fun z => Value.int .u64 z).toArray := by
    unfold Lib.TabIs World.var? at hp
    rw [gPow] at hp
    simp only [Option.bind_some, h0, Option.some.injEq] at hp
    exact hp
  refine ⟨[⟨false, 0, .cells cs T0 f0⟩, ⟨false, 3, .cells #[ev] T f⟩], ⟨?_, ⟨ev, T, f, by simp, hev⟩, ?_⟩, ?_, ?_⟩
  · intro p hp
    simp only [List.mem_cons, List.mem_nil_iff, or_false] at hp
    rcases hp with rfl | rfl <;> rfl
  · intro w hw
    have := hw _ (List.mem_cons_self ..)
    unfold Lib.TabIs World.var?
    rw [gPow]
    simp only [Option.bind_some] at this ⊢
    rw [this]
    simp only [hcs]
  · intro p hp
    simp only [List.mem_cons, List.mem_nil_iff, or_false] at hp
    rcases hp with rfl | rfl <;> rfl
  · intro p hp
    simp only [List.mem_cons, List.mem_nil_iff, or_false] at hp
    rcases hp with rfl | rfl
    · exact h0
    · exact h3
/-- a world for the witness -/
noncomputable def laidW (os : Os) : World := World.laidAll Tryz.prog os Rows.asmParsesRow.laid
theorem laidW_met (os : Os) (args : Array Value) : laidMet Tryz.prog Rows.asmParsesRow.laid ((laidW os).forCall (fun _ _ => 0) ⟨#[], args, []⟩).memory :=
  laidMet_laidAll args (by kernel_rfl) (by kernel_rfl)
end Go.Proofs.YtaieficgifingaaGreatDoor
