/- Out of the row's reading: a list of lists of bytes. -/
import Derived.Test.YtggnjgnjgnlchaaFB1
import Derived.Test.YtggnjgnjgnlchaaRowP
namespace Go.Proofs.Ytggnjgnjgnlchaa
set_option linter.unusedVariables false
set_option linter.unusedSimpArgs false
open Go.ChangeShapes Go.WideShapes Go.ChangeAt Go.RowKit
set_option maxRecDepth 100000
/-- a body that is handed in, in a world -/
def By.at (W : World) (r : By) : Prop := r.p = [] ∨ ∃ b off ob, r.a = some ⟨b, off, none⟩ ∧ W.heap[b]? = some ob ∧ Is b ob (.ro 1 off r.p.length (bytesF r.p))
theorem read_body {H : Type} {enc : TypeId × Value → H} {P : Program} {W : World} {t e : TypeId} {cs : List Value} {fuel : Nat} {y : DataW H × List MemPlace} (hu : P.underlying t = some (.slice e)) (he : P.underlying e = some (.int .u8)) (hk : P.cellsOf e = 1)
    (hf : DataW.trod enc P W 0 (fun _ => true) true fuel t cs = some y) : ∃ r : By, cs = [.slice r.a r.p.length r.c] ∧ r.p.length ≤ 9223372036854775807 ∧ r.at W := by
  rcases DataW.trod_slice hu hf with ⟨rfl, _⟩ | ⟨x, l, c, elems, rest, n, _, rfl, _, hb, hl, hm, hlen, hel, _, _⟩
  · exact ⟨⟨[], none, 0⟩, rfl, by simp, .inl rfl⟩
  · have each : ∀ i, i < l → ∃ b : UInt8, W.cell? (x.add i) = some (byteV b) := fun i hi => by
      have h1 := hel i hi
      have h2 : i < elems.length := by omega
      rw [List.getElem?_eq_getElem h2, Option.bind_eq_some_iff] at h1
      obtain ⟨cs, h3, h4⟩ := h1
      rw [hk, Nat.mul_one] at h3
      obtain ⟨_, h5, h6⟩ := World.cells?_some h3
      obtain ⟨n, hn, _, hw⟩ := DataW.trod_int he h4
      obtain ⟨z, rfl⟩ := wf_byte hw
      have h7 := h6 0 (by omega)
      rw [hn] at h7
      refine ⟨z, ?_⟩
      rw [show (x.add i).add 0 = x.add i by simp [Addr.add]] at h7
      exact h7
    let g : Nat → UInt8 := fun i => if hi : i < l then Classical.choose (each i hi) else 0
    have hg : ∀ i, i < l → W.cell? (x.add i) = some (byteV (g i)) := fun i hi => by
      have := Classical.choose_spec (each i hi)
      simp only [g, hi, dif_pos]
      exact this
    have hlen2 : ((List.range l).map g).length = l := by simp
    refine ⟨⟨(List.range l).map g, some x, c⟩, by rw [hlen2], by rw [hlen2]; unfold maxLen at hm; omega, ?_⟩
    by_cases hz : l = 0
    · left; subst hz; rfl
    · right
      obtain ⟨xb, xo, xs⟩ := x
      have h0 := hg 0 (by omega)
      unfold World.cell? at h0
      cases hh : W.heap[xb]? with
      | none => simp [Addr.add, hh] at h0
      | some ob =>
        cases ob with
        | cells cur ty fr =>
          cases xs with
          | some z => simp [Addr.add, hh] at h0
          | none =>
            refine ⟨xb, xo, .cells cur ty fr, rfl, hh, fun ρ w hw => .inr ⟨xb, cur, ty, fr, rfl, hw, fun i k v hi hv => ?_⟩⟩
            rw [hlen2] at hi
            have h1 := hg i hi
            rw [addr_add] at h1
            unfold World.cell? at h1
            simp only [hh, Option.isSome_none, Bool.false_eq_true, if_false] at h1
            unfold bytesF at hv
            have hk0 : k = 0 := by
              have := (List.getElem?_eq_some_iff.1 hv).1
              simp at this
              exact this
            subst hk0
            simp only [List.getElem?_cons_zero, Option.some.injEq] at hv
            subst hv
            rw [Nat.mul_one, Nat.add_zero, h1]
            simp [AV.conc, List.getD, hi]
        | _ => simp [Addr.add, hh] at h0
def factsY (W : World) (ys : List By) : Fam := ys.filterMap fun r => r.a.bind fun x => (W.heap[x.block]?).map fun ob => ⟨false, x.block, ob⟩
theorem factsY_at (W : World) (ys : List By) : AtF (factsY W ys) W ∧ ∀ p ∈ factsY W ys, p.rw = false := by
  have key : ∀ p ∈ factsY W ys, W.heap[p.b]? = some p.ob ∧ p.rw = false := fun p hp => by
    obtain ⟨r, _, h⟩ := List.mem_filterMap.1 hp
    obtain ⟨x, _, h⟩ := Option.bind_eq_some_iff.1 h
    obtain ⟨ob, h1, rfl⟩ := Option.map_eq_some_iff.1 h
    exact ⟨h1, rfl⟩
  exact ⟨fun p hp => (key p hp).1, fun p hp => (key p hp).2⟩
theorem By.at.ok {W : World} {ys : List By} {r : By} (h : r.at W) (hr : r ∈ ys) : r.ok (factsY W ys) := by
  rcases h with h | ⟨b, off, ob, ha, hb, hI⟩
  · exact .inl h
  · exact .inr ⟨b, off, ob, ha, List.mem_filterMap.2 ⟨r, hr, by rw [ha]; simp [hb]⟩, hI⟩
theorem read_bodies {H : Type} {enc : TypeId × Value → H} {W : World} {b0 : Nat} {a : Option Addr} {len cap : Nat} {d : DataW H} {ps : List MemPlace} (hu : Try.prog.underlying 47 = some (.slice 22))
    (hval : Value.okWide Try.prog W .any b0 47 (.slice a len cap)) (h : DataW.Trod enc Try.prog W 0 (fun _ => true) true 47 (.slice a len cap) d ps) :
    ∃ (r : Option Nat) (off : Nat) (l : List By), a = r.map (fun b => ⟨b, off, none⟩) ∧ l.length = len ∧ (∀ x ∈ l, x.p.length ≤ 9223372036854775807 ∧ x.at W) ∧ len ≤ cap ∧ cap ≤ 9223372036854775807 ∧ (∀ b, r = some b → b < W.heap.size) ∧ ∀ ρ, (roY off l).holds ρ r W := by
  obtain ⟨r, off, rows, ha, h1, h2, h3, h4, h5⟩ := read_rows hu (k := 1) (by kernel_rfl) hval h
  have each : ∀ i, i < len → ∃ x : By, rows i = [.slice x.a x.p.length x.c] ∧ x.p.length ≤ 9223372036854775807 ∧ x.at W := fun i hi => by
    obtain ⟨hl, fuel, y, hy⟩ := h5 i hi
    exact read_body Try.underlying22 Try.underlying5 (by kernel_rfl) hy
  let g : Nat → By := fun i => if hi : i < len then Classical.choose (each i hi) else zB
  have hg : ∀ i, i < len → rows i = [.slice (g i).a (g i).p.length (g i).c] ∧ (g i).p.length ≤ 9223372036854775807 ∧ (g i).at W := fun i hi => by
    have := Classical.choose_spec (each i hi)
    simp only [g, hi, dif_pos]
    exact this
  have hlen : ((List.range len).map g).length = len := by simp
  have hget : ∀ i, i < len → byF ((List.range len).map g) i = [.raw (.slice (g i).a (g i).p.length (g i).c)] := fun i hi => by
    unfold byF
    simp [List.getD, hi]
  refine ⟨r, off, (List.range len).map g, ha, hlen, fun x hx => by
    obtain ⟨i, hi, rfl⟩ := List.mem_map.1 hx
    exact (hg i (List.mem_range.1 hi)).2, h1, h2, fun b hb => ?_, fun ρ => ?_⟩
  · obtain ⟨cur, ty, fr, h6, _⟩ := h4 b hb
    exact (Array.getElem?_eq_some_iff.1 h6).1
  · have := rows_ro (W := W) (k := 1) (off := off) (len := len) (r := r) (rows := rows) (f := byF ((List.range len).map g)) (by omega) ρ (fun i hi => (h5 i hi).1) (fun i hi => by rw [hget i hi, (hg i hi).1]; rfl) (fun h => (h3 h).1) h4
    rw [show rowsF 1 (byF ((List.range len).map g)) = byF ((List.range len).map g) from funext fun i => by
      have h0 := rowsF_get (k := 1) (f := byF ((List.range len).map g)) (i := i) (c := 0) (v := .raw (.slice (((List.range len).map g).getD i zB).a (((List.range len).map g).getD i zB).p.length (((List.range len).map g).getD i zB).c)) (by omega) rfl
      rw [Nat.mul_one, Nat.add_zero] at h0
      exact h0, Nat.mul_one] at this
    rw [show roY off ((List.range len).map g) = .ro 1 off len (byF ((List.range len).map g)) by unfold roY; rw [hlen]]
    exact this
theorem SpecF.law {P : Program} {f : FuncId} {avs : List AV} {h0 : List AO} {post : Unit → List (Nat × AO)} {m : Nat} {fs : Fam} {fs' : Unit → Fam} (sp : SpecF P f avs h0 m fs (σ := Unit) (fun _ => True) (fun _ => .raw (.bool true)) post fs') (hro : h0.all AO.isRo = true) (ρ : Env) (w : World) (hfs : AtF fs w ∧ ∀ p ∈ fs, p.rw = false)
    (hh : ∀ (i : Nat) (o : AO), h0[i]? = some o → o.holds ρ (ρ i) w) (hal : ∀ i b, ρ i = some b → b < w.heap.size) (vs : Array Value) (hv : (AV.concs ρ avs).toArray = vs) :
    Calls P f vs w fun e w' => e = .returned (.bool true) ∧ Below w.heap.size w w' := by
  have hr : ∀ (i : Nat) (o : AO), h0[i]? = some o → o.isRo = true := fun i o h => List.all_eq_true.1 hro o (List.mem_of_getElem? h)
  have hW : ∀ b, ¬ Wr0 h0 ρ b := fun b ⟨i, o, h, hn, _⟩ => by rw [hr i o h] at hn; cases hn
  have hF : ∀ b, ¬ WrF fs b := fun b ⟨p, hp, hn, _⟩ => by rw [hfs.2 p hp] at hn; cases hn
  have := sp ρ w hh ⟨fun i b _ h => hal i b h, fun i j o b h hn => (by rw [hr i o h] at hn; cases hn), hfs.1, apf_ro hfs.2, fun i b _ _ => hF b, fun b hb => absurd hb (hW b)⟩
  rw [hv] at this
  refine this.mono ?_
  rintro e w' ⟨s, ρ', _, _, he, _, hf, _⟩
  exact ⟨he, hf.ag.os, hf.ag.tape, hf.ag.output, hf.ag.size, fun b hb => hf.ag.block b hb ⟨hW b, hF b⟩⟩
end Go.Proofs.Ytggnjgnjgnlchaa
