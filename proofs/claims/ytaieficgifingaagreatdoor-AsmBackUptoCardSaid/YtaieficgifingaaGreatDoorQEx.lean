/- Texts of the claim, merged: only what the theorem needs. -/
import Derived.Test.YtaieficgifingaaGreatDoorQEw
import Derived.Test.YtaieficgifingaaGreatDoorRows
import Derived.LaidSub
import Derived.Lay
import Derived.Lib.LaidTab
import Derived.Deep.DeepHandedRow
import Derived.Deep.DeepWitnessRowRef
namespace Go.Proofs.YtaieficgifingaaGreatDoor
set_option linter.unusedVariables false
set_option linter.unusedSimpArgs false
open Go.ChangeShapes Go.WideShapes Go.ChangeAt Go.RowKit
set_option maxRecDepth 100000
theorem SpecF.law {P : Program} {f : FuncId} {avs : List AV} {h0 : List AO} {post : Unit → List (Nat × AO)} {m : Nat} {fs : Fam} {fs' : Unit → Fam} (sp : SpecF P f avs h0 m fs (σ := Unit) (fun _ => True) (fun _ => .raw (.bool true)) post fs') (hro : h0.all AO.isRo = true) (ρ : Env) (w : World) (hfs : AtF fs w ∧ ∀ p ∈ fs, p.rw = false)
    (hh : ∀ (i : Nat) (o : AO), h0[i]? = some o → o.holds ρ (ρ i) w) (hal : ∀ i b, ρ i = some b → b < w.heap.size) (vs : Array Value) (hv : (AV.concs ρ avs).toArray = vs) :
    Calls P f vs w fun e w' => e = .returned (.bool true) ∧ Below w.heap.size w w' := by
  have hr : ∀ (i : Nat) (o : AO), h0[i]? = some o → o.isRo = true := fun i o h => List.all_eq_true.1 hro o (List.mem_of_getElem? h)
  have hW : ∀ b, ¬ Wr0 h0 ρ b := fun b ⟨i, o, h, hn, _⟩ => by rw [hr i o h] at hn; cases hn
  have hF : ∀ b, ¬ WrF fs b := fun b ⟨p, hp, hn, _⟩ => by rw [hfs.2 p hp] at hn; cases hn
  have := sp ρ w hh ⟨fun i b _ h => hal i b h, fun i j o b h hn => (by rw [hr i o h] at hn; cases hn), hfs.1, apf_ro hfs.2, fun i b _ _ => hF b, fun b hb => absurd hb (hW b)⟩
  rw [hv] at this
  refine this.mono ?_
  rintro e w' ⟨s, ρ', _, _, he, _, hf, _⟩
  exact ⟨he, hf.ag.os, hf.ag.tape, hf.ag.output, hf.ag.size, fun b hb => hf.ag.block b hb ⟨hW b, hF b⟩⟩
theorem gPow : Tryz.prog.globalNamed "internal/strconv.uint64pow10" = some 0 := by kernel_rfl
theorem gErr : Tryz.prog.globalNamed "strconv.ErrRange" = some 3 := by kernel_rfl
theorem tPow : (Tryz.prog.globals[0]?).map (·.type) = some 180 := by kernel_rfl
theorem tErr : (Tryz.prog.globals[3]?).map (·.type) = some 84 := by kernel_rfl
theorem cPow : Tryz.prog.cellsOf 180 = 20 := by kernel_rfl
theorem c64 : Tryz.prog.cellsOf 162 = 1 := by kernel_rfl
theorem uErr : ∃ m, Tryz.prog.underlying 84 = some (.interface m) := ⟨_, Tryz.underlying84⟩
theorem trod_iface {H : Type} {enc : TypeId × Value → H} {P : Program} {w : World} {base : Nat} {sp : Nat → Bool} {held : Bool} {fuel : Nat} {t : TypeId} {m : Array (String × TypeId)} {cs : List Value} {y : DataW H × List MemPlace} (hu : P.underlying t = some (.interface m))
    (h : DataW.trod enc P w base sp held fuel t cs = some y) : cs = [.nilIface] ∨ ∃ u v, cs = [.iface u v] := by
  cases fuel with
  | zero => simp [DataW.trod] at h
  | succ n =>
    unfold DataW.trod at h
    rw [hu] at h
    split at h <;> first | contradiction | exact .inl rfl | exact .inr ⟨_, _, rfl⟩ | simp_all
theorem pow_of {W : World} (h : laidMetH Tryz.prog Rows.asmParsesRow.laid W) : Lib.TabIs Tryz.prog W "internal/strconv.uint64pow10" .u64 Lib.pow10Tab := by
  have h1 := h.filter (fun x => x.1 == "internal/strconv.uint64pow10")
  have e : (Rows.asmParsesRow.laid.filter fun x => x.1 == "internal/strconv.uint64pow10") = [("internal/strconv.uint64pow10", Lib.tabData .u64 Lib.pow10Tab)] := by kernel_rfl
  rw [e] at h1
  exact Lib.tabIs_of_head (rest := []) gPow tPow Tryz.underlying180 Tryz.underlying162 c64 cPow h1
theorem er_of {W : World} (h : laidMetH Tryz.prog Rows.asmParsesRow.laid W) : ∃ ev T f, W.heap[3]? = some (.cells #[ev] T f) ∧ (ev = .nilIface ∨ ∃ te pe, ev = .iface te pe) := by
  have h1 := h.filter (fun x => x.1 == "strconv.ErrRange")
  have e : (Rows.asmParsesRow.laid.filter fun x => x.1 == "strconv.ErrRange") = [("strconv.ErrRange", Rows.laid_strconv_ErrRange)] := by kernel_rfl
  rw [e] at h1
  obtain ⟨ps, ⟨g, t, cs, fuel, p, q, hg, ht, hvar, hd, _, _⟩, _⟩ := h1
  obtain rfl := Option.some.inj (gErr.symm.trans hg)
  obtain rfl := Option.some.inj (tErr.symm.trans ht)
  obtain ⟨m, hm⟩ := uErr
  have hc := trod_iface hm hd
  unfold World.var? at hvar
  rw [gErr] at hvar
  simp only [Option.bind_some] at hvar
  split at hvar
  · rename_i cs' T f hh
    have e2 : cs' = cs := by simpa using hvar
    subst e2
    have e3 : ∀ v, cs'.toList = [v] → cs' = #[v] := fun v hv => by cases cs'; simp_all
    rcases hc with hc | ⟨u, v, hc⟩
    · exact ⟨_, T, f, by rw [hh, e3 _ hc], .inl rfl⟩
    · exact ⟨_, T, f, by rw [hh, e3 _ hc], .inr ⟨u, v, rfl⟩⟩
  · cases hvar
/-- the tables laid for good, as facts that are only read -/
theorem glob_of {W : World} (h : laidMetH Tryz.prog Rows.asmParsesRow.laid W) : ∃ fs : Fam, Glob fs ∧ (∀ x ∈ fs, x.ob.isCells = true) ∧ AtF fs W := by
  obtain ⟨ev, T, f, h3, hev⟩ := er_of h
  have hp := pow_of h
  have h0 : ∃ cs T f, W.heap[0]? = some (.cells cs T f) := by
    have := hp
    unfold Lib.TabIs World.var? at this
    rw [gPow] at this
    simp only [Option.bind_some] at this
    split at this
    · rename_i cs T f hh
      exact ⟨cs, T, f, hh⟩
    · cases this
  obtain ⟨cs, T0, f0, h0⟩ := h0
  have hcs : cs = (Lib.pow10Tab.map fun z => Value.int .u64 z).toArray := by
    unfold Lib.TabIs World.var? at hp
    rw [gPow] at hp
    simp only [Option.bind_some, h0, Option.some.injEq] at hp
    exact hp
  refine ⟨[⟨false, 0, .cells cs T0 f0⟩, ⟨false, 3, .cells #[ev] T f⟩], ⟨?_, ⟨ev, T, f, by simp, hev⟩, ?_⟩, ?_, ?_⟩
  · intro p hp
    simp only [List.mem_cons, List.mem_nil_iff, or_false] at hp
    rcases hp with rfl | rfl <;> rfl
  · intro w hw
    have := hw _ (List.mem_cons_self ..)
    unfold Lib.TabIs World.var?
    rw [gPow]
    simp only [Option.bind_some] at this ⊢
    rw [this]
    simp only [hcs]
  · intro p hp
    simp only [List.mem_cons, List.mem_nil_iff, or_false] at hp
    rcases hp with rfl | rfl <;> rfl
  · intro p hp
    simp only [List.mem_cons, List.mem_nil_iff, or_false] at hp
    rcases hp with rfl | rfl
    · exact h0
    · exact h3
/-- a world for the witness -/
noncomputable def laidW (os : Os) : World := World.laidAll Tryz.prog os Rows.asmParsesRow.laid
theorem laidW_met (os : Os) (args : Array Value) : laidMet Tryz.prog Rows.asmParsesRow.laid ((laidW os).forCall (fun _ _ => 0) ⟨#[], args, []⟩).memory :=
  laidMet_laidAll args (by kernel_rfl) (by kernel_rfl)
end Go.Proofs.YtaieficgifingaaGreatDoor
namespace Go.Proofs.YtaieficgifingaaGreatDoor
set_option linter.unusedVariables false
set_option linter.unusedSimpArgs false
open Go.RowKit
set_option maxRecDepth 100000
set_option maxHeartbeats 8000000
/-- a number's rest by five, not below nought -/
theorem rem5 (n : Int) : ∃ m, n.tmod 5 = m ∧ -5 < m ∧ m < 5 := ⟨_, rfl, Int.lt_tmod_of_pos n (by decide), Int.tmod_lt_of_pos n (by decide)⟩
def blL : List ByteArray := [⟨#[]⟩, ⟨#[32]⟩, ⟨#[9]⟩, ⟨#[32, 32]⟩, ⟨#[32, 9, 32]⟩]
/-- what blanks are -/
def blankG (must : Bool) (t : ByteArray) : Prop := isBlank (strB t) ∧ (must = true → strB t ≠ []) ∧ t.size ≤ 3
theorem blank_at {k : Nat} (hk : k < 5) (must : Bool) (h : must = true → k ≠ 0) : blankG must (blL.getD k ⟨#[]⟩) := by
  have key : ∀ a : Fin 5, (∀ c ∈ strB (blL.getD a.val ⟨#[]⟩), c = 32 ∨ c = 9) ∧ (a.val ≠ 0 → strB (blL.getD a.val ⟨#[]⟩) ≠ []) ∧ (blL.getD a.val ⟨#[]⟩).size ≤ 3 := by decide
  obtain ⟨h1, h2, h3⟩ := key ⟨k, hk⟩
  exact ⟨h1, fun e => h2 (h e), h3⟩
theorem blank_spec (n : Int) (must : Bool) : Spec Tryz.prog 38 [.raw (.int .i64 n), .raw (.bool must)] [] 0 (σ := ByteArray) (blankG must) (fun t => .raw (.string t)) (fun _ => []) := by
  refine Spec.of Tryz.func38 rfl Tryz.ntmps38 rfl (bdl_nil _) fun ρ w => ?_
  obtain ⟨m, hm, hm1, hm2⟩ := rem5 n
  refine sS_ ?_
  refine R.rem m rfl rfl rfl (by kernel_rfl) (by decide) hm ?_
  refine sS_ ?_
  by_cases h0 : m < 0
  · rw [decide_eq_true h0]
    refine C.zt ?_
    refine C.region ?_
    repeat (first | refine R.zb ttok ?_ | refine R.zu ttok ?_ | refine R.zc ttok ?_ | refine R.za ttok ?_ | refine R.zx ?_ | refine R.zl ttok ?_ | refine R.zs ttok ?_ | refine R.z ttok ?_ | refine R.zk ?_ | refine R.zn ?_)
    obtain ⟨m', hm'⟩ : ∃ m', m + 5 = m' := ⟨_, rfl⟩
    rw [hm']
    repeat (first | refine R.zb ttok ?_ | refine R.zu ttok ?_ | refine R.zc ttok ?_ | refine R.za ttok ?_ | refine R.zx ?_ | refine R.zl ttok ?_ | refine R.zs ttok ?_ | refine R.z ttok ?_ | refine R.zk ?_ | refine R.zn ?_)
    refine R.done ?_
    refine X.then ?_
    have hk5 : m' = 0 ∨ m' = 1 ∨ m' = 2 ∨ m' = 3 ∨ m' = 4 := by omega
    clear hm hm1 hm2
    rcases hk5 with rfl | rfl | rfl | rfl | rfl
    · cases must with
      | true =>
        refine sS_ ?_
        refine R.ix ttok 1 rfl rfl rfl rfl rfl (by kernel_rfl) rfl (by decide) trivial rfl ?_
        refine sS_ ?_
        refine X.fin ttok (blL.getD 1 ⟨#[]⟩) [] (blank_at (by decide) _ (by decide)) rfl rfl rfl hS7_ _ (by first | exact .inl rfl | exact .inr rfl)
      | false =>
        refine sS_ ?_
        refine R.ix ttok 0 rfl rfl rfl rfl rfl (by kernel_rfl) rfl (by decide) trivial rfl ?_
        refine sS_ ?_
        refine X.fin ttok (blL.getD 0 ⟨#[]⟩) [] (blank_at (by decide) _ (by decide)) rfl rfl rfl hS7_ _ (by first | exact .inl rfl | exact .inr rfl)
    · cases must with
      | true =>
        refine sS_ ?_
        refine R.ix ttok 1 rfl rfl rfl rfl rfl (by kernel_rfl) rfl (by decide) trivial rfl ?_
        refine sS_ ?_
        refine X.fin ttok (blL.getD 1 ⟨#[]⟩) [] (blank_at (by decide) _ (by decide)) rfl rfl rfl hS7_ _ (by first | exact .inl rfl | exact .inr rfl)
      | false =>
        refine sS_ ?_
        refine R.ix ttok 1 rfl rfl rfl rfl rfl (by kernel_rfl) rfl (by decide) trivial rfl ?_
        refine sS_ ?_
        refine X.fin ttok (blL.getD 1 ⟨#[]⟩) [] (blank_at (by decide) _ (by decide)) rfl rfl rfl hS7_ _ (by first | exact .inl rfl | exact .inr rfl)
    · cases must with
      | true =>
        refine sS_ ?_
        refine R.ix ttok 2 rfl rfl rfl rfl rfl (by kernel_rfl) rfl (by decide) trivial rfl ?_
        refine sS_ ?_
        refine X.fin ttok (blL.getD 2 ⟨#[]⟩) [] (blank_at (by decide) _ (by decide)) rfl rfl rfl hS7_ _ (by first | exact .inl rfl | exact .inr rfl)
      | false =>
        refine sS_ ?_
        refine R.ix ttok 2 rfl rfl rfl rfl rfl (by kernel_rfl) rfl (by decide) trivial rfl ?_
        refine sS_ ?_
        refine X.fin ttok (blL.getD 2 ⟨#[]⟩) [] (blank_at (by decide) _ (by decide)) rfl rfl rfl hS7_ _ (by first | exact .inl rfl | exact .inr rfl)
    · cases must with
      | true =>
        refine sS_ ?_
        refine R.ix ttok 3 rfl rfl rfl rfl rfl (by kernel_rfl) rfl (by decide) trivial rfl ?_
        refine sS_ ?_
        refine X.fin ttok (blL.getD 3 ⟨#[]⟩) [] (blank_at (by decide) _ (by decide)) rfl rfl rfl hS7_ _ (by first | exact .inl rfl | exact .inr rfl)
      | false =>
        refine sS_ ?_
        refine R.ix ttok 3 rfl rfl rfl rfl rfl (by kernel_rfl) rfl (by decide) trivial rfl ?_
        refine sS_ ?_
        refine X.fin ttok (blL.getD 3 ⟨#[]⟩) [] (blank_at (by decide) _ (by decide)) rfl rfl rfl hS7_ _ (by first | exact .inl rfl | exact .inr rfl)
    · cases must with
      | true =>
        refine sS_ ?_
        refine R.ix ttok 4 rfl rfl rfl rfl rfl (by kernel_rfl) rfl (by decide) trivial rfl ?_
        refine sS_ ?_
        refine X.fin ttok (blL.getD 4 ⟨#[]⟩) [] (blank_at (by decide) _ (by decide)) rfl rfl rfl hS7_ _ (by first | exact .inl rfl | exact .inr rfl)
      | false =>
        refine sS_ ?_
        refine R.ix ttok 4 rfl rfl rfl rfl rfl (by kernel_rfl) rfl (by decide) trivial rfl ?_
        refine sS_ ?_
        refine X.fin ttok (blL.getD 4 ⟨#[]⟩) [] (blank_at (by decide) _ (by decide)) rfl rfl rfl hS7_ _ (by first | exact .inl rfl | exact .inr rfl)
  · rw [decide_eq_false h0]
    obtain ⟨m', hm'⟩ : ∃ m', m = m' := ⟨_, rfl⟩
    rw [hm']
    have hk5 : m' = 0 ∨ m' = 1 ∨ m' = 2 ∨ m' = 3 ∨ m' = 4 := by omega
    clear hm hm1 hm2
    rcases hk5 with rfl | rfl | rfl | rfl | rfl
    · cases must with
      | true =>
        refine sS_ ?_
        refine R.ix ttok 1 rfl rfl rfl rfl rfl (by kernel_rfl) rfl (by decide) trivial rfl ?_
        refine sS_ ?_
        refine X.fin ttok (blL.getD 1 ⟨#[]⟩) [] (blank_at (by decide) _ (by decide)) rfl rfl rfl hS7_ _ (by first | exact .inl rfl | exact .inr rfl)
      | false =>
        refine sS_ ?_
        refine R.ix ttok 0 rfl rfl rfl rfl rfl (by kernel_rfl) rfl (by decide) trivial rfl ?_
        refine sS_ ?_
        refine X.fin ttok (blL.getD 0 ⟨#[]⟩) [] (blank_at (by decide) _ (by decide)) rfl rfl rfl hS7_ _ (by first | exact .inl rfl | exact .inr rfl)
    · cases must with
      | true =>
        refine sS_ ?_
        refine R.ix ttok 1 rfl rfl rfl rfl rfl (by kernel_rfl) rfl (by decide) trivial rfl ?_
        refine sS_ ?_
        refine X.fin ttok (blL.getD 1 ⟨#[]⟩) [] (blank_at (by decide) _ (by decide)) rfl rfl rfl hS7_ _ (by first | exact .inl rfl | exact .inr rfl)
      | false =>
        refine sS_ ?_
        refine R.ix ttok 1 rfl rfl rfl rfl rfl (by kernel_rfl) rfl (by decide) trivial rfl ?_
        refine sS_ ?_
        refine X.fin ttok (blL.getD 1 ⟨#[]⟩) [] (blank_at (by decide) _ (by decide)) rfl rfl rfl hS7_ _ (by first | exact .inl rfl | exact .inr rfl)
    · cases must with
      | true =>
        refine sS_ ?_
        refine R.ix ttok 2 rfl rfl rfl rfl rfl (by kernel_rfl) rfl (by decide) trivial rfl ?_
        refine sS_ ?_
        refine X.fin ttok (blL.getD 2 ⟨#[]⟩) [] (blank_at (by decide) _ (by decide)) rfl rfl rfl hS7_ _ (by first | exact .inl rfl | exact .inr rfl)
      | false =>
        refine sS_ ?_
        refine R.ix ttok 2 rfl rfl rfl rfl rfl (by kernel_rfl) rfl (by decide) trivial rfl ?_
        refine sS_ ?_
        refine X.fin ttok (blL.getD 2 ⟨#[]⟩) [] (blank_at (by decide) _ (by decide)) rfl rfl rfl hS7_ _ (by first | exact .inl rfl | exact .inr rfl)
    · cases must with
      | true =>
        refine sS_ ?_
        refine R.ix ttok 3 rfl rfl rfl rfl rfl (by kernel_rfl) rfl (by decide) trivial rfl ?_
        refine sS_ ?_
        refine X.fin ttok (blL.getD 3 ⟨#[]⟩) [] (blank_at (by decide) _ (by decide)) rfl rfl rfl hS7_ _ (by first | exact .inl rfl | exact .inr rfl)
      | false =>
        refine sS_ ?_
        refine R.ix ttok 3 rfl rfl rfl rfl rfl (by kernel_rfl) rfl (by decide) trivial rfl ?_
        refine sS_ ?_
        refine X.fin ttok (blL.getD 3 ⟨#[]⟩) [] (blank_at (by decide) _ (by decide)) rfl rfl rfl hS7_ _ (by first | exact .inl rfl | exact .inr rfl)
    · cases must with
      | true =>
        refine sS_ ?_
        refine R.ix ttok 4 rfl rfl rfl rfl rfl (by kernel_rfl) rfl (by decide) trivial rfl ?_
        refine sS_ ?_
        refine X.fin ttok (blL.getD 4 ⟨#[]⟩) [] (blank_at (by decide) _ (by decide)) rfl rfl rfl hS7_ _ (by first | exact .inl rfl | exact .inr rfl)
      | false =>
        refine sS_ ?_
        refine R.ix ttok 4 rfl rfl rfl rfl rfl (by kernel_rfl) rfl (by decide) trivial rfl ?_
        refine sS_ ?_
        refine X.fin ttok (blL.getD 4 ⟨#[]⟩) [] (blank_at (by decide) _ (by decide)) rfl rfl rfl hS7_ _ (by first | exact .inl rfl | exact .inr rfl)
def reL : List ByteArray := [⟨#[]⟩, ⟨#[35]⟩, ⟨#[32, 35, 32, 120]⟩, ⟨#[9, 35, 34]⟩, ⟨#[32, 35, 112, 114, 111, 99, 32, 101, 110, 100]⟩]
/-- what a remark is -/
def remG (t : ByteArray) : Prop := brk (strB t) ∧ wordsP (strB t) = some [] ∧ noNL (strB t) ∧ t.size ≤ 10
theorem rem_at {k : Nat} (hk : k < 5) : remG (reL.getD k ⟨#[]⟩) := by
  have key : ∀ a : Fin 5, noNL (strB (reL.getD a.val ⟨#[]⟩)) ∧ (reL.getD a.val ⟨#[]⟩).size ≤ 10 := by decide
  obtain ⟨h1, h2⟩ := key ⟨k, hk⟩
  refine ⟨?_, ?_, h1, h2⟩
  · have hk5 : k = 0 ∨ k = 1 ∨ k = 2 ∨ k = 3 ∨ k = 4 := by omega
    rcases hk5 with rfl | rfl | rfl | rfl | rfl
    · exact brk_nil
    · exact .inr ⟨35, [], rfl, rfl⟩
    · exact .inr ⟨32, _, rfl, rfl⟩
    · exact .inr ⟨9, _, rfl, rfl⟩
    · exact .inr ⟨32, _, rfl, rfl⟩
  · have hk5 : k = 0 ∨ k = 1 ∨ k = 2 ∨ k = 3 ∨ k = 4 := by omega
    rcases hk5 with rfl | rfl | rfl | rfl | rfl
    · exact words_nil
    · exact words_rem []
    · exact (words_blank [32] _ (by decide)).trans (words_rem _)
    · exact (words_blank [9] _ (by decide)).trans (words_rem _)
    · exact (words_blank [32] _ (by decide)).trans (words_rem _)
theorem remark_spec (n : Int) : Spec Tryz.prog 39 [.raw (.int .i64 n)] [] 0 (σ := ByteArray) remG (fun t => .raw (.string t)) (fun _ => []) := by
  refine Spec.of Tryz.func39 rfl Tryz.ntmps39 rfl (bdl_nil _) fun ρ w => ?_
  obtain ⟨m, hm, hm1, hm2⟩ := rem5 n
  refine sS_ ?_
  refine R.rem m rfl rfl rfl (by kernel_rfl) (by decide) hm ?_
  refine sS_ ?_
  by_cases h0 : m < 0
  · rw [decide_eq_true h0]
    refine C.zt ?_
    refine C.region ?_
    repeat (first | refine R.zb ttok ?_ | refine R.zu ttok ?_ | refine R.zc ttok ?_ | refine R.za ttok ?_ | refine R.zx ?_ | refine R.zl ttok ?_ | refine R.zs ttok ?_ | refine R.z ttok ?_ | refine R.zk ?_ | refine R.zn ?_)
    obtain ⟨m', hm'⟩ : ∃ m', m + 5 = m' := ⟨_, rfl⟩
    rw [hm']
    repeat (first | refine R.zb ttok ?_ | refine R.zu ttok ?_ | refine R.zc ttok ?_ | refine R.za ttok ?_ | refine R.zx ?_ | refine R.zl ttok ?_ | refine R.zs ttok ?_ | refine R.z ttok ?_ | refine R.zk ?_ | refine R.zn ?_)
    refine R.done ?_
    refine X.then ?_
    have hk5 : m' = 0 ∨ m' = 1 ∨ m' = 2 ∨ m' = 3 ∨ m' = 4 := by omega
    clear hm hm1 hm2
    rcases hk5 with rfl | rfl | rfl | rfl | rfl
    · refine sS_ ?_
      refine R.ix ttok 0 rfl rfl rfl rfl rfl (by kernel_rfl) rfl (by decide) trivial rfl ?_
      refine sS_ ?_
      refine X.fin ttok (reL.getD 0 ⟨#[]⟩) [] (rem_at (by decide)) rfl rfl rfl hS7_ _ (by first | exact .inl rfl | exact .inr rfl)
    · refine sS_ ?_
      refine R.ix ttok 1 rfl rfl rfl rfl rfl (by kernel_rfl) rfl (by decide) trivial rfl ?_
      refine sS_ ?_
      refine X.fin ttok (reL.getD 1 ⟨#[]⟩) [] (rem_at (by decide)) rfl rfl rfl hS7_ _ (by first | exact .inl rfl | exact .inr rfl)
    · refine sS_ ?_
      refine R.ix ttok 2 rfl rfl rfl rfl rfl (by kernel_rfl) rfl (by decide) trivial rfl ?_
      refine sS_ ?_
      refine X.fin ttok (reL.getD 2 ⟨#[]⟩) [] (rem_at (by decide)) rfl rfl rfl hS7_ _ (by first | exact .inl rfl | exact .inr rfl)
    · refine sS_ ?_
      refine R.ix ttok 3 rfl rfl rfl rfl rfl (by kernel_rfl) rfl (by decide) trivial rfl ?_
      refine sS_ ?_
      refine X.fin ttok (reL.getD 3 ⟨#[]⟩) [] (rem_at (by decide)) rfl rfl rfl hS7_ _ (by first | exact .inl rfl | exact .inr rfl)
    · refine sS_ ?_
      refine R.ix ttok 4 rfl rfl rfl rfl rfl (by kernel_rfl) rfl (by decide) trivial rfl ?_
      refine sS_ ?_
      refine X.fin ttok (reL.getD 4 ⟨#[]⟩) [] (rem_at (by decide)) rfl rfl rfl hS7_ _ (by first | exact .inl rfl | exact .inr rfl)
  · rw [decide_eq_false h0]
    obtain ⟨m', hm'⟩ : ∃ m', m = m' := ⟨_, rfl⟩
    rw [hm']
    have hk5 : m' = 0 ∨ m' = 1 ∨ m' = 2 ∨ m' = 3 ∨ m' = 4 := by omega
    clear hm hm1 hm2
    rcases hk5 with rfl | rfl | rfl | rfl | rfl
    · refine sS_ ?_
      refine R.ix ttok 0 rfl rfl rfl rfl rfl (by kernel_rfl) rfl (by decide) trivial rfl ?_
      refine sS_ ?_
      refine X.fin ttok (reL.getD 0 ⟨#[]⟩) [] (rem_at (by decide)) rfl rfl rfl hS7_ _ (by first | exact .inl rfl | exact .inr rfl)
    · refine sS_ ?_
      refine R.ix ttok 1 rfl rfl rfl rfl rfl (by kernel_rfl) rfl (by decide) trivial rfl ?_
      refine sS_ ?_
      refine X.fin ttok (reL.getD 1 ⟨#[]⟩) [] (rem_at (by decide)) rfl rfl rfl hS7_ _ (by first | exact .inl rfl | exact .inr rfl)
    · refine sS_ ?_
      refine R.ix ttok 2 rfl rfl rfl rfl rfl (by kernel_rfl) rfl (by decide) trivial rfl ?_
      refine sS_ ?_
      refine X.fin ttok (reL.getD 2 ⟨#[]⟩) [] (rem_at (by decide)) rfl rfl rfl hS7_ _ (by first | exact .inl rfl | exact .inr rfl)
    · refine sS_ ?_
      refine R.ix ttok 3 rfl rfl rfl rfl rfl (by kernel_rfl) rfl (by decide) trivial rfl ?_
      refine sS_ ?_
      refine X.fin ttok (reL.getD 3 ⟨#[]⟩) [] (rem_at (by decide)) rfl rfl rfl hS7_ _ (by first | exact .inl rfl | exact .inr rfl)
    · refine sS_ ?_
      refine R.ix ttok 4 rfl rfl rfl rfl rfl (by kernel_rfl) rfl (by decide) trivial rfl ?_
      refine sS_ ?_
      refine X.fin ttok (reL.getD 4 ⟨#[]⟩) [] (rem_at (by decide)) rfl rfl rfl hS7_ _ (by first | exact .inl rfl | exact .inr rfl)
end Go.Proofs.YtaieficgifingaaGreatDoor
namespace Go.Proofs.YtaieficgifingaaGreatDoor
set_option linter.unusedVariables false
set_option linter.unusedSimpArgs false
open Go.RowKit
set_option maxRecDepth 100000
set_option maxHeartbeats 8000000
structure Gp where
  ah : Int
  bt : Int
  bh : Int
  ln : Int
abbrev gapA (g : Gp) : List AV := [.raw (.int .i64 g.ah), .raw (.int .i64 g.bt), .raw (.int .i64 g.bh), .raw (.int .i64 g.ln)]
def gapD : Gp := ⟨0, 0, 0, 0⟩
def gapF (G : List Gp) (i : Nat) : List AV := gapA (G.getD i gapD)
abbrev gapT : TypeId := 105
abbrev roG (o : Nat) (G : List Gp) : AO := .ro 1 o (G.length * 4) (rowsF 4 (gapF G))
theorem rowsG_bd (K k : Nat) (l : List Gp) (m : Nat) : ∀ i, i < m → AV.bds K (rowsF k (gapF l) i) = true := fun i _ => by
  unfold rowsF gapF
  split
  · rename_i v hv
    have : v ∈ gapA (l.getD (i / k) gapD) := List.mem_of_getElem? hv
    simp only [gapA, List.mem_cons, List.not_mem_nil, or_false] at this
    rcases this with rfl | rfl | rfl | rfl <;> rfl
  · rfl
theorem rowsG_ren (r : Nat → Nat) (k : Nat) (l : List Gp) : (fun i => AV.rens r (rowsF k (gapF l) i)) = rowsF k (gapF l) := by
  funext i
  unfold rowsF gapF
  split
  · rename_i v hv
    have : v ∈ gapA (l.getD (i / k) gapD) := List.mem_of_getElem? hv
    simp only [gapA, List.mem_cons, List.not_mem_nil, or_false] at this
    rcases this with rfl | rfl | rfl | rfl <;> rfl
  · rfl
theorem HasH.rog {r : Nat → Nat} {L : Nat} {h rest : List (Nat × AO)} {l off : Nat} {s : List Gp} (h1 : hk (r l) h = some (roG off s)) (h3 : Nat.ble (l + 1) L = true) (k : HasH r L h rest) : HasH r L h ((l, roG off s) :: rest) :=
  .other h1 id (fun ρ x w hh => by simp only [AO.ren, rowsG_ren]; exact hh) h3 (rowsG_bd _ _ _ _) k
theorem HasIn.rog {r : Nat → Nat} {h : List (Nat × AO)} {i off : Nat} {s : List Gp} {os : List AO} (h1 : hk (r i) h = some (roG off s)) (k : HasIn r h (i + 1) os) : HasIn r h i (roG off s :: os) :=
  .other h1 id (fun ρ x w hh => by simp only [AO.ren, rowsG_ren]; exact hh) k
theorem Sq.app {T1 T2 : List (List UInt8)} {a b : List (List (List UInt8 × Bool))} (h : Sq T1 a) (k : Sq T2 b) : Sq (T1 ++ T2) (a ++ b) := by
  induction h with
  | nil => exact k
  | skip h _ ih => exact .skip h ih
  | word h _ ih => exact .word h ih
theorem LWs.len {T : List (List UInt8)} {WS : List (List (List UInt8 × Bool))} (h : LWs T WS) : WS.length = T.length := by
  induction h with
  | nil => rfl
  | cons _ _ ih => rw [List.length_cons, List.length_cons, ih]
theorem LWs.at {T : List (List UInt8)} {WS : List (List (List UInt8 × Bool))} (h : LWs T WS) : ∀ i, i < T.length → ∃ l w, T[i]? = some l ∧ WS[i]? = some w ∧ LW l w := by
  induction h with
  | nil => intro i hi; exact absurd hi (Nat.not_lt_zero i)
  | cons h _ ih =>
    intro i hi
    cases i with
    | zero => exact ⟨_, _, rfl, rfl, h⟩
    | succ i =>
      obtain ⟨l, w, h1, h2, h3⟩ := ih i (by rw [List.length_cons] at hi; omega)
      exact ⟨l, w, by simpa using h1, by simpa using h2, h3⟩
theorem lineT_app (a b : List (List UInt8 × (List UInt8 × Bool))) : lineT (a ++ b) = lineT a ++ lineT b := List.flatMap_append
theorem lineT_one (b : List UInt8) (w : List UInt8 × Bool) : lineT [(b, w)] = b ++ txW w := by
  unfold lineT
  rw [List.flatMap_cons, List.flatMap_nil, List.append_nil]
theorem textL_app (a b : List (List UInt8)) : textL (a ++ b) = textL a ++ textL b := List.flatMap_append
theorem textL_one (l : List UInt8) : textL [l] = l ++ [10] := by
  unfold textL
  rw [List.flatMap_cons, List.flatMap_nil, List.append_nil]
theorem txN_le {w : List UInt8 × Bool} : ∀ {ws : List (List UInt8 × Bool)}, w ∈ ws → (txW w).length ≤ txN ws
  | v :: ws, h => by
    rw [txN_cons]
    rcases List.mem_cons.1 h with rfl | h
    · omega
    · have := txN_le h
      omega
theorem txN_take : ∀ (ws : List (List UInt8 × Bool)) (k : Nat), txN (ws.take k) ≤ txN ws
  | [], k => by rw [List.take_nil]; exact Nat.le_refl _
  | w :: ws, 0 => Nat.zero_le _
  | w :: ws, k + 1 => by
    have := txN_take ws k
    rw [List.take_succ_cons, txN_cons, txN_cons]
    omega
/-- blanks, a remark: what stands behind a line, or alone -/
theorem tail_of {b r : ByteArray} (hb : blankG false b) (hr : remG r) : brk (strB b ++ strB r) ∧ wordsP (strB b ++ strB r) = some [] ∧ noNL (strB b ++ strB r) ∧ (strB b ++ strB r).length ≤ 13 := by
  obtain ⟨h1, _, h2⟩ := hb
  obtain ⟨g1, g2, g3, g4⟩ := hr
  have e1 := strB_size b
  have e2 := strB_size r
  refine ⟨?_, ?_, noNL_app (blank_nl h1) g3, by rw [List.length_append]; omega⟩
  · by_cases h0 : strB b = []
    · rw [h0]; exact g1
    · exact brk_blank h1 h0
  · rw [words_blank _ _ h1]; exact g2
/-- what has been written of a line -/
structure LkS (ws : List (List UInt8 × Bool)) (k : Nat) (ps : List (List UInt8 × (List UInt8 × Bool))) : Prop where
  le : k ≤ ws.length
  sn : ps.map Prod.snd = ws.take k
  hd : ∀ p ∈ ps.take 1, p.1 = []
  tl : ∀ p ∈ ps.drop 1, isBlank p.1 ∧ p.1 ≠ []
  sz : ∀ p ∈ ps, p.1.length ≤ 3
theorem LkS.len {ws : List (List UInt8 × Bool)} {k : Nat} {ps : List (List UInt8 × (List UInt8 × Bool))} (h : LkS ws k ps) : ps.length = k := by
  have := congrArg List.length h.sn
  rw [List.length_map, List.length_take] at this
  have := h.le
  omega
theorem LkS.tx {ws : List (List UInt8 × Bool)} {k : Nat} {ps : List (List UInt8 × (List UInt8 × Bool))} (h : LkS ws k ps) (h5 : ws.length ≤ 5) (hN : txN ws ≤ 1100) : (lineT ps).length ≤ 1115 := by
  have h1 := lineT_len ps h.sz
  have h2 := txN_take ws k
  have h3 := h.len
  have h4 := h.le
  rw [h.sn] at h1
  omega
theorem LkS.snoc {ws : List (List UInt8 × Bool)} {k : Nat} {ps : List (List UInt8 × (List UInt8 × Bool))} {b : List UInt8} {w : List UInt8 × Bool} (h : LkS ws k ps) (hw : ws[k]? = some w) (hb : isBlank b) (hb3 : b.length ≤ 3) (h0 : k = 0 → b = []) (h1 : k ≠ 0 → b ≠ []) : LkS ws (k + 1) (ps ++ [(b, w)]) := by
  have hl := h.len
  have hlt : k < ws.length := (List.getElem?_eq_some_iff.1 hw).1
  refine ⟨hlt, ?_, fun p hp => ?_, fun p hp => ?_, fun p hp => ?_⟩
  · rw [List.map_append, h.sn, List.take_add_one, hw]
    rfl
  · by_cases hk : k = 0
    · subst hk
      obtain rfl : ps = [] := List.length_eq_zero_iff.1 hl
      have hp : p ∈ [(b, w)] := hp
      rw [List.mem_singleton.1 hp]
      exact h0 rfl
    · rw [List.take_append_of_le_length (by omega)] at hp
      exact h.hd p hp
  · by_cases hk : k = 0
    · subst hk
      obtain rfl : ps = [] := List.length_eq_zero_iff.1 hl
      cases hp
    · rw [List.drop_append_of_le_length (by omega)] at hp
      rcases List.mem_append.1 hp with hp | hp
      · exact h.tl p hp
      · rw [List.mem_singleton.1 hp]
        exact ⟨hb, h1 hk⟩
  · rcases List.mem_append.1 hp with hp | hp
    · exact h.sz p hp
    · rw [List.mem_singleton.1 hp]
      exact hb3
/-- a line written anew says its words -/
theorem LkS.line {l : List UInt8} {ws : List (List UInt8 × Bool)} {ps : List (List UInt8 × (List UInt8 × Bool))} (hL : LW l ws) (h : LkS ws ws.length ps) {b t : List UInt8} (hb : isBlank b) (ht : brk t) (hw : wordsP t = some []) : wordsP (b ++ lineT ps ++ t) = some ws ∧ noNL (lineT ps) := by
  have hsn := h.sn
  rw [List.take_length] at hsn
  have hmem : ∀ p ∈ ps, p.2 ∈ ws := fun p hp => by rw [← hsn]; exact List.mem_map_of_mem hp
  match ps, h, hsn, hmem with
  | [], h, hsn, _ =>
    have := hL.ne.1
    rw [← hsn] at this
    exact absurd this (by decide)
  | p :: ps, h, hsn, hmem =>
    have h1 : p.1 = [] := h.hd p (List.mem_cons_self ..)
    have h2 : ∀ q ∈ ps, isBlank q.1 ∧ q.1 ≠ [] := h.tl
    have e : lineT (p :: ps) = txW p.2 ++ lineT ps := by
      unfold lineT
      rw [List.flatMap_cons, h1]
      rfl
    constructor
    · rw [e, ← List.append_assoc, words_line ht hw hb (hL.ok _ (hmem p (List.mem_cons_self ..))).1 fun q hq => ⟨(h2 q hq).1, (h2 q hq).2, (hL.ok _ (hmem q (List.mem_cons_of_mem _ hq))).1⟩]
      rw [← hsn]
      rfl
    · refine lineT_nl _ fun q hq => ⟨?_, (hL.ok _ (hmem q hq)).2⟩
      rcases List.mem_cons.1 hq with rfl | hq
      · rw [h1]; exact fun c hc => by cases hc
      · exact blank_nl (h2 q hq).1
end Go.Proofs.YtaieficgifingaaGreatDoor
namespace Go.Proofs.YtaieficgifingaaGreatDoor
set_option linter.unusedVariables false
set_option linter.unusedSimpArgs false
open Go.RowKit
set_option maxRecDepth 100000
set_option maxHeartbeats 8000000
theorem quotW_ge (l : List UInt8) : l.length ≤ (quotW l).length := by
  have : ∀ l : List UInt8, l.length ≤ (l.flatMap quotC).length := fun l => by
    induction l with
    | nil => exact Nat.le_refl _
    | cons c r ih =>
      have h1 : 1 ≤ (quotC c).length := by
        unfold quotC
        split
        · exact Nat.le_succ _
        · split
          · show 1 ≤ 4
            omega
          · exact Nat.le_refl _
      rw [List.flatMap_cons, List.length_append, List.length_cons]
      omega
  have := this l
  unfold quotW
  simp only [List.length_append, List.length_cons, List.length_nil]
  omega
theorem hS9_ {P : Prop} (h : P := by repeat (first | exact HasH.nil | refine HasH.rog rfl rfl ?_ | refine HasH.same rfl rfl rfl trivial ?_ | refine HasH.same rfl rfl rfl rfl ?_ | refine HasH.same rfl rfl rfl (fun _ _ => rfl) ?_)) : P := h
theorem loose_spec (s : ByteArray) (T : List (List UInt8)) (WS : List (List (List UInt8 × Bool))) (hs : s.size ≤ 1000000) (hT : linesL (strB s) = T) (hW : LWs T WS) (h66 : T.length ≤ 66) (G : List Gp) (off cp : Nat) (hG : 0 < G.length) (hG4 : G.length ≤ 400) : Spec Tryz.prog 16 [.raw (.string s), .sl 0 1 off G.length cp] [roG off G] 1 (σ := List UInt8) (fun t => Sq (linesL t) WS ∧ t.length ≤ 100000) (fun t => .raw (.string (strOf t))) (fun _ => []) := by
  refine Spec.of Tryz.func16 rfl Tryz.ntmps16 rfl (bdl_cons (rowsG_bd _ _ _ _) (bdl_nil _)) fun ρ w => ?_
  refine sS_ ?_
  refine R.cl [] (linesR_spec s hs) Tryz.call25 hS11_ rfl rfl rfl (fun _ => rfl) rfl (by kernel_rfl) fun c hc => ?_
  obtain ⟨hc1, hc2⟩ := hc
  rw [hT] at hc1 ⊢
  obtain ⟨TX, hTX⟩ : ∃ X, T.map strOf = X := ⟨_, rfl⟩
  have hTXl : TX.length = T.length := by rw [← hTX, List.length_map]
  rw [hTX]
  refine sS_ ?_
  refine C.loop (σ := Nat × List UInt8 × List (List UInt8)) (L2 := 2) (fun x => x.1 ≤ T.length ∧ x.2.1 = textL x.2.2 ∧ Sq x.2.2 (WS.take x.1) ∧ (∀ l ∈ x.2.2, noNL l) ∧ x.2.1.length ≤ x.1 * 1200)
    (fun x => [(1, .sl 0 1 off G.length cp), (5, .raw (.string (strOf x.2.1))), (6, .sl 1 1 0 TX.length c), (7, .raw (.int .i64 (x.1 : Nat)))]) (fun _ => [(0, roG off G), (1, tTx TX c)]) _ (fun x => T.length - x.1) [] (0, [], []) ⟨Nat.zero_le _, rfl, .nil, fun l h => (by cases h), Nat.zero_le _⟩ rfl (by
    show HasT _ _ _ [_, (5, .raw (.string (strOf []))), _, _]
    rw [show strOf [] = (⟨#[]⟩ : ByteArray) from rfl]
    exact hS12_) hS9_ rfl (fun _ h => h) ?_
  rintro ⟨i, out, T'⟩ ⟨hi, hT', hsq, hnl, hsz⟩
  dsimp only at hi hT' hsq hnl hsz ⊢
  refine sS_ ?_
  by_cases hlt : i < T.length
  · rw [decide_eq_true (show ((i : Nat) : Int) < (TX.length : Nat) by omega)]
    obtain ⟨l, ws, hl, hws, hLW⟩ := hW.at i hlt
    have hTXi : TX.getD i noT0 = strOf l := by
      rw [List.getD_eq_getElem?_getD, ← hTX, List.getElem?_map, hl]
      rfl
    have hwi : WS.take (i + 1) = WS.take i ++ [ws] := by rw [List.take_add_one, hws]; rfl
    refine sS_ ?_
    refine R.rem ((i % G.length : Nat) : Int) rfl rfl rfl (by kernel_rfl) (by omega) (Int.ofNat_tmod i G.length) ?_
    have hj : i % G.length < G.length := Nat.mod_lt _ hG
    obtain ⟨j, hje⟩ : ∃ j, i % G.length = j := ⟨_, rfl⟩
    rw [hje] at hj ⊢
    obtain ⟨g, hg⟩ : ∃ g, G.getD j gapD = g := ⟨_, rfl⟩
    have hA : gapF G j = gapA g := by unfold gapF; rw [hg]
    refine sS_ ?_
    refine R.ix1 ttok j rfl rfl rfl rfl rfl (by kernel_rfl) rfl hj (⟨by omega, by omega⟩ : off ≤ off + j * 4 ∧ off + j * 4 < off + G.length * 4) rfl ?_
    refine R.ldr1 (v := .agg (gapA g)) ttok j rfl rfl rfl (by rw [hA]; rfl) rfl (by kernel_rfl) rfl rfl (by decide) (by omega) ?_
    repeat (first | refine R.zb ttok ?_ | refine R.zu ttok ?_ | refine R.zc ttok ?_ | refine R.za ttok ?_ | refine R.zx ?_ | refine R.zl ttok ?_ | refine R.zs ttok ?_ | refine R.z ttok ?_ | refine R.zk ?_ | refine R.zn ?_)
    refine R.done ?_
    refine X.then ?_
    refine C.cutf (σ := List UInt8 × List (List UInt8)) 3 (fun x => x.1 = textL x.2 ∧ Sq x.2 (WS.take i) ∧ (∀ l ∈ x.2, noNL l) ∧ x.1.length ≤ i * 1200 + 14)
      (fun x => [(1, .sl 0 1 off G.length cp), (5, .raw (.string (strOf x.1))), (6, .sl 1 1 0 TX.length c), (7, .raw (.int .i64 (i : Nat))), (8, .ptr 2 0 0 0)]) (fun _ => [(0, roG off G), (1, tTx TX c), (2, .cells (gapA g) gapT)]) ?_ ?_
    · refine sS_ ?_
      obtain ⟨q, hq⟩ : ∃ q, g.ln.tmod 3 = q := ⟨_, rfl⟩
      refine R.rem q rfl rfl rfl (by kernel_rfl) (by decide) hq ?_
      refine sS_ ?_
      by_cases h1 : q = 1
      · rw [decide_eq_true h1]
        refine sS_ ?_
        refine C.draw [[], [], [1], [1, 2], [0, 1, 2, 3], [], [5], [1, 2, 3, 5, 6], [0, 1, 2, 3, 4, 5, 6, 7], [0, 1, 2, 3, 4, 5, 6, 7, 8], [0, 1, 2, 3, 4, 5, 6, 7, 8, 9]] [3, 7] (by kernel_rfl) (by kernel_rfl) ?_
        refine sS_ ?_
        refine R.cl [] (blank_spec g.ln false) Tryz.call38 hS11_ rfl rfl rfl (fun _ => rfl) rfl (by kernel_rfl) fun b hb => ?_
        refine R.cat rfl rfl rfl (by kernel_rfl) (by rw [strOf_size]; have := hb.2.2; omega) ?_
        rw [cat1]
        refine sS_ ?_
        refine R.cl [] (remark_spec g.ln) Tryz.call39 hS11_ rfl rfl rfl (fun _ => rfl) rfl (by kernel_rfl) fun r hr => ?_
        obtain ⟨t1, t2, t3, t4⟩ := tail_of hb hr
        have hbl := strB_size b
        have hrl := strB_size r
        rw [List.length_append] at t4
        refine R.cat rfl rfl rfl (by kernel_rfl) (by rw [strOf_size, List.length_append]; omega) ?_
        rw [cat1]
        refine R.cat rfl rfl rfl (by kernel_rfl) (by rw [strOf_size, List.length_append, List.length_append]; show _ + 1 ≤ _; omega) ?_
        rw [cat1, show strB (⟨#[10]⟩ : ByteArray) = [10] from rfl]
        refine sS_ ?_
        exact X.back [] (out ++ strB b ++ strB r ++ [10], T' ++ [strB b ++ strB r]) ⟨by
          rw [textL_app, textL_one, hT']
          simp, by
          have := hsq.app (.skip t2 .nil)
          rwa [List.append_nil] at this, fun l hl => (by
          rcases List.mem_append.1 hl with hl | hl
          · exact hnl l hl
          · rw [List.mem_singleton.1 hl]
            exact t3), by
          simp only [List.length_append, List.length_cons, List.length_nil]
          omega⟩ Nat.zero_lt_one rfl hS12_ hS9_ rfl (fun _ h => h)
      · rw [decide_eq_false h1]
        refine sS_ ?_
        exact X.back [] (out, T') ⟨hT', hsq, hnl, by dsimp only; omega⟩ Nat.zero_lt_one rfl hS12_ hS9_ rfl (fun _ h => h)
    · clear hT' hsq hnl hsz
      rintro ⟨out, T'⟩ ⟨hT', hsq, hnl, hsz⟩
      dsimp only at hT' hsq hnl hsz ⊢
      have hll := hLW.ln
      refine sS_ ?_
      refine R.ix ttok i rfl rfl rfl rfl rfl (by kernel_rfl) rfl (by omega) (by show 0 + i < TX.length; omega) rfl ?_
      refine sS_ ?_
      refine R.ldt (v := .raw (.string (strOf l))) ttok rfl rfl rfl (by rw [Nat.zero_add]; show some (AV.raw (.string (TX.getD i noT0))) = _; rw [hTXi]) rfl (by kernel_rfl) (by omega) ?_
      refine sS_ ?_
      refine R.cl [] (wordsR_spec (strOf l) (by rw [strOf_size]; omega)) Tryz.call26 hS11_ rfl rfl rfl (fun _ => rfl) rfl (by kernel_rfl) fun r hr => ?_
      obtain ⟨W, c2, ok⟩ := r
      obtain ⟨hr, hc3, hc4, -⟩ := hr
      rw [show strB (strOf l) = l from rfl, hLW.wd] at hr
      obtain ⟨hWe, -⟩ := hr
      dsimp only at hWe hc3 hc4
      have hWl : W.length = ws.length := by rw [hWe]; exact List.length_map ..
      have h5 := hLW.ne.2
      have hN := hLW.sz
      refine sS_ ?_
      refine R.cl [] (blank_spec g.ah false) Tryz.call38 hS11_ rfl rfl rfl (fun _ => rfl) rfl (by kernel_rfl) fun b hb => ?_
      have hbl := strB_size b
      refine R.cat rfl rfl rfl (by kernel_rfl) (by rw [strOf_size]; have := hb.2.2; omega) ?_
      rw [cat1]
      obtain ⟨o2, ho2⟩ : ∃ o2, out ++ strB b = o2 := ⟨_, rfl⟩
      rw [ho2]
      refine sS_ ?_
      refine C.loop (σ := Nat × List (List UInt8 × (List UInt8 × Bool))) (L2 := 4) (fun x => LkS ws x.1 x.2)
        (fun x => [(1, .sl 0 1 off G.length cp), (5, .raw (.string (strOf (o2 ++ lineT x.2)))), (6, .sl 1 1 0 TX.length c), (7, .raw (.int .i64 (i : Nat))), (8, .ptr 2 0 0 0), (9, .sl 3 2 0 W.length c2), (11, .raw (.int .i64 (x.1 : Nat)))]) (fun _ => [(0, roG off G), (1, tTx TX c), (2, .cells (gapA g) gapT), (3, tWR W c2)]) _ (fun x => ws.length - x.1) [] (0, []) ⟨Nat.zero_le _, rfl, fun p hp => (by cases hp), fun p hp => (by cases hp), fun p hp => (by cases hp)⟩ rfl (by
        show HasT _ _ _ [_, (5, .raw (.string (strOf (o2 ++ lineT [])))), _, _, _, _, _]
        rw [show o2 ++ lineT [] = o2 from List.append_nil _]
        exact hS12_) hS9_ rfl (fun _ h => h) ?_
      rintro ⟨k, ps⟩ hk
      dsimp only at hk ⊢
      have hkl := hk.len
      have hkt := hk.tx h5 hN
      have ho2l : o2.length ≤ i * 1200 + 17 := by rw [← ho2, List.length_append]; have := hb.2.2; omega
      refine sS_ ?_
      by_cases hkw : k < ws.length
      · rw [decide_eq_true (show ((k : Nat) : Int) < (W.length : Nat) by omega)]
        obtain ⟨w, hw⟩ : ∃ w, ws[k]? = some w := ⟨_, List.getElem?_eq_getElem hkw⟩
        have hB : rdF W (0 + k) = [.raw (.bool w.2), .raw (.string (strOf w.1))] := by
          rw [Nat.zero_add]
          unfold rdF rdX
          rw [hWe, List.getD_eq_getElem?_getD, wsOf, List.getElem?_map, hw]
          rfl
        have htx : (txW w).length ≤ 1100 := Nat.le_trans (txN_le (List.mem_of_getElem? hw)) hN
        refine sS_ ?_
        refine C.cuts (σ := List UInt8) 4 (fun b => isBlank b ∧ b.length ≤ 3 ∧ (k = 0 → b = []) ∧ (k ≠ 0 → b ≠ []))
          (fun b => [(1, .sl 0 1 off G.length cp), (5, .raw (.string (strOf (o2 ++ lineT ps ++ b)))), (6, .sl 1 1 0 TX.length c), (7, .raw (.int .i64 (i : Nat))), (8, .ptr 2 0 0 0), (9, .sl 3 2 0 W.length c2), (11, .raw (.int .i64 (k : Nat)))]) (fun _ => [(0, roG off G), (1, tTx TX c), (2, .cells (gapA g) gapT), (3, tWR W c2)]) ?_ ?_
        · by_cases h0 : k = 0
          · rw [decide_eq_false (show ¬ ((k : Nat) : Int) > 0 by omega)]
            refine sS_ ?_
            exact X.back [] [] ⟨fun c hc => (by cases hc), Nat.zero_le _, fun _ => rfl, fun h => absurd h0 h⟩ Nat.zero_lt_one rfl (by
              show HasT _ _ _ [_, (5, .raw (.string (strOf (o2 ++ lineT ps ++ [])))), _, _, _, _, _]
              rw [List.append_nil]
              exact hS12_) hS9_ rfl (fun _ h => h)
          · rw [decide_eq_true (show ((k : Nat) : Int) > 0 by omega)]
            refine sS_ ?_
            refine R.cl [] (blank_spec _ true) Tryz.call38 hS11_ rfl rfl rfl (fun _ => rfl) rfl (by kernel_rfl) fun b2 hb2 => ?_
            obtain ⟨g1, g2, g3⟩ := hb2
            have hbl2 := strB_size b2
            refine R.cat rfl rfl rfl (by kernel_rfl) (by rw [strOf_size, List.length_append]; omega) ?_
            rw [cat1]
            refine sS_ ?_
            exact X.back [] (strB b2) ⟨g1, by omega, fun h => absurd h h0, fun _ => g2 rfl⟩ Nat.zero_lt_one rfl hS12_ hS9_ rfl (fun _ h => h)
        · rintro b2 ⟨hb1, hb2, hb3, hb4⟩
          have hnew := hk.snoc hw hb1 hb2 hb3 hb4
          have hout : o2 ++ lineT ps ++ b2 ++ txW w = o2 ++ lineT (ps ++ [(b2, w)]) := by
            rw [lineT_app, lineT_one]
            simp
          refine sS_ ?_
          refine R.ix ttok k rfl rfl rfl rfl rfl (by kernel_rfl) rfl (by omega) (by show 0 + k < W.length; omega) rfl ?_
          refine sS_ ?_
          refine R.ldt (v := .raw (.bool w.2)) ttok rfl rfl rfl (by rw [hB]; rfl) rfl (by kernel_rfl) (by omega) ?_
          obtain ⟨wt, wq⟩ := w
          cases wq with
          | true =>
            rw [show txW (wt, true) = quotW wt from rfl] at hout htx
            refine sS_ ?_
            refine R.ix ttok k rfl rfl rfl rfl rfl (by kernel_rfl) rfl (by omega) (by show 0 + k < W.length; omega) rfl ?_
            refine sS_ ?_
            refine R.ldt (v := .raw (.string (strOf wt))) ttok rfl rfl rfl (by rw [hB]; rfl) rfl (by kernel_rfl) (by omega) ?_
            refine sS_ ?_
            refine R.cl [] (quoteR_spec (strOf wt) (by rw [strOf_size]; have := quotW_ge wt; omega)) Tryz.call40 hS11_ rfl rfl rfl (fun _ => rfl) rfl (by kernel_rfl) fun _ _ => ?_
            rw [show strB (strOf wt) = wt from rfl]
            refine R.cat rfl rfl rfl (by kernel_rfl) (by rw [strOf_size, strOf_size, List.length_append, List.length_append]; omega) ?_
            rw [strOf_app, hout]
            refine sS_ ?_
            exact X.back [] (k + 1, ps ++ [(b2, (wt, true))]) hnew (by dsimp only; omega) rfl hS12_ hS9_ rfl (fun _ h => h)
          | false =>
            rw [show txW (wt, false) = wt from rfl] at hout htx
            refine sS_ ?_
            refine R.ix ttok k rfl rfl rfl rfl rfl (by kernel_rfl) rfl (by omega) (by show 0 + k < W.length; omega) rfl ?_
            refine sS_ ?_
            refine R.ldt (v := .raw (.string (strOf wt))) ttok rfl rfl rfl (by rw [hB]; rfl) rfl (by kernel_rfl) (by omega) ?_
            refine sS_ ?_
            refine R.cat rfl rfl rfl (by kernel_rfl) (by rw [strOf_size, strOf_size, List.length_append, List.length_append]; omega) ?_
            rw [strOf_app, hout]
            refine sS_ ?_
            exact X.back [] (k + 1, ps ++ [(b2, (wt, false))]) hnew (by dsimp only; omega) rfl hS12_ hS9_ rfl (fun _ h => h)
      · rw [decide_eq_false (show ¬ ((k : Nat) : Int) < (W.length : Nat) by omega)]
        have hkw : k = ws.length := by have := hk.le; omega
        subst hkw
        refine sS_ ?_
        refine C.draw [[], [], [1], [1, 2], [0, 1, 2, 3], [], [5], [1, 2, 3, 5, 6], [0, 1, 2, 3, 4, 5, 6, 7], [0, 1, 2, 3, 4, 5, 6, 7, 8], [0, 1, 2, 3, 4, 5, 6, 7, 8, 9]] [3, 7] (by kernel_rfl) (by kernel_rfl) ?_
        refine sS_ ?_
        refine R.cl [] (blank_spec g.bh false) Tryz.call38 hS11_ rfl rfl rfl (fun _ => rfl) rfl (by kernel_rfl) fun b2 hb2 => ?_
        refine R.cat rfl rfl rfl (by kernel_rfl) (by rw [strOf_size, List.length_append]; have := hb2.2.2; omega) ?_
        rw [cat1]
        refine sS_ ?_
        refine R.cl [] (remark_spec g.bh) Tryz.call39 hS11_ rfl rfl rfl (fun _ => rfl) rfl (by kernel_rfl) fun r hr => ?_
        obtain ⟨t1, t2, t3, t4⟩ := tail_of hb2 hr
        have hbl2 := strB_size b2
        have hrl := strB_size r
        rw [List.length_append] at t4
        refine R.cat rfl rfl rfl (by kernel_rfl) (by rw [strOf_size, List.length_append, List.length_append]; omega) ?_
        rw [cat1]
        refine R.cat rfl rfl rfl (by kernel_rfl) (by rw [strOf_size, List.length_append, List.length_append, List.length_append]; show _ + 1 ≤ _; omega) ?_
        rw [cat1, show strB (⟨#[10]⟩ : ByteArray) = [10] from rfl]
        obtain ⟨hwd, hln⟩ := LkS.line hLW hk hb.1 t1 t2
        refine sS_ ?_
        exact X.back [] (i + 1, o2 ++ lineT ps ++ strB b2 ++ strB r ++ [10], T' ++ [strB b ++ lineT ps ++ (strB b2 ++ strB r)]) ⟨hlt, by
          rw [textL_app, textL_one, ← hT', ← ho2]
          simp, by
          show Sq _ (WS.take (i + 1))
          rw [hwi]
          exact hsq.app (.word hwd .nil), fun l hl => (by
          rcases List.mem_append.1 hl with hl | hl
          · exact hnl l hl
          · rw [List.mem_singleton.1 hl]
            exact noNL_app (noNL_app (blank_nl hb.1) hln) t3), by
          simp only [List.length_append, List.length_cons, List.length_nil]
          omega⟩ (by dsimp only; omega) rfl hS12_ hS9_ rfl (fun _ h => h)
  · rw [decide_eq_false (show ¬ ((i : Nat) : Int) < (TX.length : Nat) by omega)]
    obtain rfl : i = T.length := by omega
    rw [List.take_of_length_le (by rw [hW.len]; exact Nat.le_refl _)] at hsq
    refine sS_ ?_
    refine X.fin ttok out [] ⟨by rw [hT', lines_text _ hnl]; exact hsq, by omega⟩ rfl rfl rfl hS9_ _ (by first | exact .inl rfl | exact .inr rfl)
end Go.Proofs.YtaieficgifingaaGreatDoor
namespace Go.Proofs.YtaieficgifingaaGreatDoor
set_option linter.unusedVariables false
set_option linter.unusedSimpArgs false
open Go.RowKit
set_option maxRecDepth 100000
set_option maxHeartbeats 8000000
theorem asmLoose1_law (nm : ByteArray) (ar : Int) (L : List Ins) (o cp : Nat) (hL : L.length ≤ 9223372036854775807) (hI : ∀ x ∈ L, insI x) (G : List Gp) (off gc : Nat) (hGl : G.length ≤ 9223372036854775807) (fs : Fam) (hG : Glob fs) (hfc : ∀ x ∈ fs, x.ob.isCells = true) : SpecF Tryz.prog 6 [.agg (prA nm ar (.sl 0 1 o L.length cp)), .sl 1 1 off G.length gc] [roJ o L, roG off G] 2 fs (σ := Unit) (fun _ => True) (fun _ => .raw (.bool true)) (fun _ => []) (fun _ => fs) := by
  refine SpecF.of Tryz.func6 rfl Tryz.ntmps6 rfl (bdl_cons (rowsJ_bd _ _ _ _) (bdl_cons (rowsG_bd _ _ _ _) (bdl_nil _))) fun ρ w => ?_
  refine sS_ ?_
  refine R.cl [0] (long1_spec nm ar L o cp hL) Tryz.call11 hS4_ rfl rfl rfl (fun _ => rfl) rfl (by kernel_rfl) fun b hb => ?_
  cases b with
  | true =>
    refine sS_ ?_
    refine R.clR [] (known_spec fs hG hfc) hG.ro Tryz.call7 hS11_ rfl rfl rfl (fun _ => rfl) rfl (by kernel_rfl) fun _ _ => ?_
    refine sS_ ?_
    refine X.finF ttok () [] trivial rfl rfl rfl hS7_ _ (by first | exact .inl rfl | exact .inr rfl) ?_ ?_ ?_
    · exact fun w' hf => hf.ap
    · exact fun p hp => hp
    · exact fun p hp e => ⟨p, hp, rfl⟩
  | false =>
    obtain ⟨hL4, hnm, htx⟩ := hb rfl
    refine sS_ ?_
    by_cases hg4 : 400 < G.length
    · rw [decide_eq_true (show ((G.length : Nat) : Int) > 400 by omega)]
      refine sS_ ?_
      refine R.clR [] (known_spec fs hG hfc) hG.ro Tryz.call7 hS11_ rfl rfl rfl (fun _ => rfl) rfl (by kernel_rfl) fun _ _ => ?_
      refine sS_ ?_
      refine X.finF ttok () [] trivial rfl rfl rfl hS7_ _ (by first | exact .inl rfl | exact .inr rfl) ?_ ?_ ?_
      · exact fun w' hf => hf.ap
      · exact fun p hp => hp
      · exact fun p hp e => ⟨p, hp, rfl⟩
    rw [decide_eq_false (show ¬ ((G.length : Nat) : Int) > 400 by omega)]
    refine sS_ ?_
    by_cases hg0 : G.length = 0
    · rw [decide_eq_true (show ((G.length : Nat) : Int) = 0 by omega)]
      refine sS_ ?_
      refine R.clR [] (known_spec fs hG hfc) hG.ro Tryz.call7 hS11_ rfl rfl rfl (fun _ => rfl) rfl (by kernel_rfl) fun _ _ => ?_
      refine sS_ ?_
      refine X.finF ttok () [] trivial rfl rfl rfl hS7_ _ (by first | exact .inl rfl | exact .inr rfl) ?_ ?_ ?_
      · exact fun w' hf => hf.ap
      · exact fun p hp => hp
      · exact fun p hp e => ⟨p, hp, rfl⟩
    rw [decide_eq_false (show ¬ ((G.length : Nat) : Int) = 0 by omega)]
    refine sS_ ?_
    refine R.clR [0] (print1_spec nm ar L o cp (by omega) hI fs hG) hG.ro Tryz.call13 hS4_ rfl rfl rfl (fun _ => rfl) rfl (by kernel_rfl) fun _ _ => ?_
    obtain ⟨e, he⟩ : ∃ e, (chkP nm ar L).2 = e := ⟨_, rfl⟩
    rw [he]
    refine sS_ ?_
    by_cases h0 : e = 0
    · subst h0
      obtain ⟨_, har0, har1, hl64, _⟩ := chkP_ok he
      obtain ⟨ar, rfl⟩ := Int.eq_ofNat_of_zero_le har0
      have hpl := print_len hI he
      obtain ⟨_, hln, h66, hWS⟩ := print_lines hI he
      have hsay : ∀ t, Sq (linesL t) (headW (strB nm) (ar : Int) :: (L.map wdsI ++ [endW])) → _ := fun t h => parse_says hI he h
      rw [show printO nm (ar : Int) L = printP nm (ar : Int) L from if_pos he]
      obtain ⟨pt, hpt⟩ : ∃ pt, printP nm (ar : Int) L = pt := ⟨_, rfl⟩
      rw [hpt] at hpl hln ⊢
      refine sS_ ?_
      refine R.cl [1] (loose_spec (strOf pt) (linesP nm (ar : Int) L) (headW (strB nm) (ar : Int) :: (L.map wdsI ++ [endW])) (by rw [strOf_size]; omega) hln hWS h66 G off gc (by omega) (by omega)) Tryz.call16 ((by exact HasIn.rog rfl .nil)) rfl rfl rfl (fun _ => rfl) rfl (by kernel_rfl) fun t ht => ?_
      obtain ⟨hsq, htl⟩ := ht
      obtain ⟨hd, ln, hp⟩ := hsay t hsq
      refine R.clR [] (parse_spec (strOf t) (by rw [strOf_size]; exact htl) fs hG hfc) hG.ro Tryz.call8 hS11_ rfl rfl rfl (fun _ => rfl) rfl (by kernel_rfl) fun r hr => ?_
      obtain ⟨nm1, ar1, cd1, c1, line1, e1⟩ := r
      obtain ⟨hr, hc1, hc1'⟩ := hr
      rw [show strB (strOf t) = t from rfl, hp] at hr
      obtain ⟨hp1, hp2, hp3, hp4, hp5⟩ := hr
      dsimp only at hp1 hp2 hp3 hp4 hp5 hc1 hc1'
      subst nm1 ar1 cd1 line1 e1
      refine sS_ ?_
      refine R.cl [0, 3] (procs1_spec nm ar L o cp 0 c1 (by omega)) Tryz.call10 ((by exact HasIn.roj rfl (HasIn.other rfl (fun e => by cases e) (fun ρ x w hh => tab_ro hh) .nil))) rfl rfl rfl (fun _ => rfl) rfl (by kernel_rfl) fun _ _ => ?_
      refine sS_ ?_
      refine R.clR [] (known_spec fs hG hfc) hG.ro Tryz.call7 hS11_ rfl rfl rfl (fun _ => rfl) rfl (by kernel_rfl) fun _ _ => ?_
      refine sS_ ?_
      refine X.finF ttok () [] trivial rfl rfl rfl hS7_ _ (by first | exact .inl rfl | exact .inr rfl) ?_ ?_ ?_
      · exact fun w' hf => hf.ap
      · exact fun p hp => hp
      · exact fun p hp e => ⟨p, hp, rfl⟩
    · rw [decide_eq_true (show e ≠ 0 from h0)]
      refine sS_ ?_
      refine R.clR [] (known_spec fs hG hfc) hG.ro Tryz.call7 hS11_ rfl rfl rfl (fun _ => rfl) rfl (by kernel_rfl) fun _ _ => ?_
      refine sS_ ?_
      refine X.finF ttok () [] trivial rfl rfl rfl hS7_ _ (by first | exact .inl rfl | exact .inr rfl) ?_ ?_ ?_
      · exact fun w' hf => hf.ap
      · exact fun p hp => hp
      · exact fun p hp e => ⟨p, hp, rfl⟩
end Go.Proofs.YtaieficgifingaaGreatDoor
namespace Go.Proofs.YtaieficgifingaaGreatDoor
set_option linter.unusedVariables false
set_option linter.unusedSimpArgs false
open Go.ChangeShapes Go.WideShapes Go.ChangeAt Go.RowKit
set_option maxRecDepth 100000
set_option maxHeartbeats 4000000
section
variable {H : Type} {enc : TypeId × Value → H} {W : World}
theorem cGap : Tryz.prog.cellsOf gapT = 4 := by kernel_rfl
theorem read_gap {fuel : Nat} {cs : List Value} {y : DataW H × List MemPlace} (hl : cs.length = 4) (h : DataW.trod enc Tryz.prog W 0 (fun _ => true) true fuel 105 cs = some y) : ∃ x : Gp, cs = AV.concs (fun _ => none) (gapA x) := by
  match cs, hl with
  | [c0, c1, c2, c3], _ =>
    have hI := Tryz.underlying3
    obtain ⟨_, _, g0⟩ := fld Tryz.underlying105 h 0 rfl 3 0 1 rfl rfl cInt
    obtain ⟨_, _, g1⟩ := fld Tryz.underlying105 h 1 rfl 3 1 1 rfl rfl cInt
    obtain ⟨_, _, g2⟩ := fld Tryz.underlying105 h 2 rfl 3 2 1 rfl rfl cInt
    obtain ⟨_, _, g3⟩ := fld Tryz.underlying105 h 3 rfl 3 3 1 rfl rfl cInt
    obtain ⟨z0, rfl, w0⟩ := one_int hI g0
    obtain ⟨z1, rfl, w1⟩ := one_int hI g1
    obtain ⟨z2, rfl, w2⟩ := one_int hI g2
    obtain ⟨z3, rfl, w3⟩ := one_int hI g3
    exact ⟨⟨z0, z1, z2, z3⟩, rfl⟩
theorem read_gaps {b0 : Nat} {a : Option Addr} {len cap : Nat} {d : DataW H} {ps : List MemPlace}
    (hval : Value.okWide Tryz.prog W .any b0 46 (.slice a len cap)) (h : DataW.Trod enc Tryz.prog W 0 (fun _ => true) true 46 (.slice a len cap) d ps) :
    ∃ (r : Option Nat) (off : Nat) (l : List Gp), a = r.map (fun b => ⟨b, off, none⟩) ∧ l.length = len ∧ len ≤ cap ∧ cap ≤ 9223372036854775807 ∧ (∀ b, r = some b → b < W.heap.size) ∧ ∀ ρ, (roG off l).holds ρ r W := by
  obtain ⟨r, off, rows, ha, h1, h2, h3, h4, h5⟩ := read_rows Tryz.underlying46 cGap hval h
  have each : ∀ i, i < len → ∃ x : Gp, rows i = AV.concs (fun _ => none) (gapA x) := fun i hi => by
    obtain ⟨hl, fuel, y, hy⟩ := h5 i hi
    exact read_gap hl hy
  let g : Nat → Gp := fun i => if hi : i < len then Classical.choose (each i hi) else gapD
  have hg : ∀ i, i < len → rows i = AV.concs (fun _ => none) (gapA (g i)) := fun i hi => by
    have := Classical.choose_spec (each i hi)
    simp only [g, hi, dif_pos]
    exact this
  have hlen : ((List.range len).map g).length = len := by simp
  have hget : ∀ i, i < len → gapF ((List.range len).map g) i = gapA (g i) := fun i hi => by
    unfold gapF
    congr 1
    simp [List.getD, hi]
  refine ⟨r, off, (List.range len).map g, ha, hlen, h1, h2, fun b hb => ?_, fun ρ => ?_⟩
  · obtain ⟨cur, ty, fr, h6, _⟩ := h4 b hb
    exact (Array.getElem?_eq_some_iff.1 h6).1
  · show (AO.ro 1 off (((List.range len).map g).length * 4) (rowsF 4 (gapF ((List.range len).map g)))).holds ρ r W
    rw [hlen]
    exact rows_ro (by omega) ρ (fun i hi => (h5 i hi).1) (fun i hi => by rw [hget i hi, hg i hi]; rfl) (fun h => (h3 h).1) h4
end
end Go.Proofs.YtaieficgifingaaGreatDoor
