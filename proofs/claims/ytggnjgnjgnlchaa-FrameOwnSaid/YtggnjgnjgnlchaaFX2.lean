/- Walks of package frame -/
import Derived.Test.YtggnjgnjgnlchaaProg
import Derived.Test.YtggnjgnjgnlchaaFX1
import Derived.Test.YtggnjgnjgnlchaaRowK
import Derived.Maps.AppendAt
import Derived.Laws.OwnMore
import Derived.Deep.DeepCutAuto
import Derived.Deep.CutBlock
/- Lists of bytes that a call owns; append onto them. -/
namespace Go.Proofs.Ytggnjgnjgnlchaa
set_option linter.unusedVariables false
set_option linter.unusedSimpArgs false
open Go.RowKit

/-- a list of bytes in a row of its own -/
def OwnB (base : Nat) (w : World) (a : Option Addr) (c : Nat) (p : List UInt8) : Prop := w.ownsRow base 5 1 (.slice a p.length c) p.length (bV p).toList
def blkOf (a : Option Addr) : Option Nat := a.map (·.block)
theorem ownBlock_slice (a : Option Addr) (n c : Nat) : (Value.slice a n c).ownBlock = blkOf a := by cases a <;> rfl
theorem bV_append (p q : List UInt8) : (bV (p ++ q)).toList = (bV p).toList ++ (bV q).toList := by simp [bV]
theorem bV_toList_length (p : List UInt8) : (bV p).toList.length = p.length := by simp [bV]
theorem OwnB.nil (base : Nat) (w : World) : OwnB base w none 0 [] := World.ownsRow_nil w base _ 1
theorem OwnB.form {base : Nat} {w : World} {a : Option Addr} {c : Nat} {p : List UInt8} (h : OwnB base w a c p) :
    (a = none ∧ c = 0 ∧ p = []) ∨ ∃ g cur, a = some ⟨g, 0, none⟩ ∧ base ≤ g ∧ w.heap[g]? = some (.cells cur 5 (0, 0)) ∧ p.length ≤ c ∧ c ≤ maxLen ∧ cur.size = c ∧ cur.toList.take p.length = (bV p).toList := by
  rcases h.2 with ⟨hv, hn⟩ | ⟨g, cap, cur, hv, hb, hg, hnc, hcm, hcs, ht⟩
  · simp only [Value.slice.injEq] at hv
    exact .inl ⟨hv.1, hv.2.2, List.eq_nil_of_length_eq_zero hn⟩
  · simp only [Value.slice.injEq] at hv
    obtain ⟨ha, _, rfl⟩ := hv
    exact .inr ⟨g, cur, ha, hb, hg, hnc, hcm, by simpa using hcs, by simpa using ht⟩
theorem OwnB.at {base : Nat} {w : World} {a : Option Addr} {c : Nat} {p : List UInt8} (h : OwnB base w a c p) : BytesAt w a p := by
  rcases h.form with ⟨_, _, rfl⟩ | ⟨g, cur, rfl, hb, hg, _, _, hcs, ht⟩
  · exact BytesAt.nil _ _
  · by_cases hp : p = []
    · subst hp; exact BytesAt.nil _ _
    · refine .inr ⟨g, 0, rfl, (Array.getElem?_eq_some_iff.1 hg).1, fun i hi => ?_⟩
      rw [Nat.zero_add, cell_of_row w g i cur _ (0, 0) hg]
      have h1 : (bV p).toList[i]? = some (.int .u8 (p[i].toNat : Int)) := by
        rw [Array.getElem?_toList]; exact bV_get p i hi
      rw [← ht, List.getElem?_take] at h1
      simpa [hi] using h1
theorem OwnB.le {base : Nat} {w : World} {a : Option Addr} {c : Nat} {p : List UInt8} (h : OwnB base w a c p) : p.length ≤ c := by
  rcases h.form with ⟨_, _, rfl⟩ | ⟨g, cur, rfl, hb, hg, h1, _⟩
  · exact Nat.zero_le _
  · exact h1
theorem OwnB.max {base : Nat} {w : World} {a : Option Addr} {c : Nat} {p : List UInt8} (h : OwnB base w a c p) : c ≤ 9223372036854775807 := by
  rcases h.form with ⟨_, rfl, rfl⟩ | ⟨g, cur, rfl, hb, hg, _, h1, _⟩
  · exact Nat.zero_le _
  · exact h1
theorem OwnB.lt {base : Nat} {w : World} {a : Option Addr} {c : Nat} {p : List UInt8} (h : OwnB base w a c p) : ∀ k, blkOf a = some k → base ≤ k ∧ k < w.heap.size := by
  have := World.ownsRow.lt h
  rwa [ownBlock_slice] at this
theorem OwnB.below {base B : Nat} {w w' : World} {a : Option Addr} {c : Nat} {p : List UInt8} (h : OwnB base w a c p) (hB : w.heap.size ≤ B) (hb : Below B w w') : OwnB base w' a c p := by
  refine ⟨h.1, ?_⟩
  rcases h.2 with hn | ⟨g, cap, cur, hv, hbg, hg, rest⟩
  · exact .inl hn
  · exact .inr ⟨g, cap, cur, hv, hbg, by rw [hb.block g (by have := (Array.getElem?_eq_some_iff.1 hg).1; omega)]; exact hg, rest⟩
theorem OwnB.mono {base b2 : Nat} {w : World} {a : Option Addr} {c : Nat} {p : List UInt8} (h : OwnB base w a c p) (hb : b2 ≤ base) : OwnB b2 w a c p := by
  refine ⟨h.1, ?_⟩
  rcases h.2 with hn | ⟨g, cap, cur, hv, hbg, rest⟩
  · exact .inl hn
  · exact .inr ⟨g, cap, cur, hv, by omega, rest⟩
theorem OwnB.take {base : Nat} {w : World} {a : Option Addr} {c : Nat} {p : List UInt8} (h : OwnB base w a c p) (k : Nat) : OwnB base w a c (p.take k) := by
  refine ⟨by rw [bV_toList_length, Nat.mul_one], ?_⟩
  rcases h.form with ⟨rfl, rfl, rfl⟩ | ⟨g, cur, rfl, hb, hg, h1, h2, h3, h4⟩
  · exact .inl ⟨by simp, by simp⟩
  · refine .inr ⟨g, c, cur, rfl, hb, hg, Nat.le_trans (by simp; omega) h1, h2, by omega, ?_⟩
    have e : (bV (p.take k)).toList = (bV p).toList.take k := by simp [bV]
    rw [e, ← h4, List.take_take, Nat.mul_one, List.length_take]
/-- its row alone is other than it was -/
theorem OwnB.kept {base : Nat} {w w' : World} {a : Option Addr} {c : Nat} {p : List UInt8} {row : Option Nat} (h : OwnB base w a c p) (hg : w.grownBy w' row) (hne : ∀ k, blkOf a = some k → row ≠ some k) : OwnB base w' a c p := by
  refine World.ownsRow.kept h hg ?_
  rw [ownBlock_slice]
  cases e : blkOf a with
  | none => exact .inl rfl
  | some k => exact .inr fun e2 => hne k e e2.symm
theorem BytesAt.kept {w w' : World} {a : Option Addr} {p : List UInt8} {row : Option Nat} (h : BytesAt w a p) (hg : w.grownBy w' row) (hne : ∀ k, blkOf a = some k → row ≠ some k) : BytesAt w' a p := by
  rcases h with h | ⟨b, off, rfl, hb, hc⟩
  · exact .inl h
  · refine .inr ⟨b, off, rfl, Nat.lt_of_lt_of_le hb hg.size, fun i hi => ?_⟩
    rw [← hc i hi]
    exact World.cell?_of_block (hg.block b hb (fun e => hne b rfl e.symm))
theorem BytesAt.nil_or {w : World} {a : Option Addr} {p : List UInt8} (h : BytesAt w a p) : (a = none ∧ p = []) ∨ ∃ ad, a = some ad := by
  cases a with
  | some ad => exact .inr ⟨ad, rfl⟩
  | none =>
    rcases h with h | ⟨b, off, ha, _⟩
    · exact .inl ⟨rfl, h⟩
    · cases ha
theorem below_grown {B : Nat} {w0 w w' : World} {row : Option Nat} (h : Below B w0 w) (hg : w.grownBy w' row) (hrow : ∀ k, row = some k → B ≤ k) (hB : B ≤ w0.heap.size) : Below B w0 w' :=
  h.trans ⟨hg.os, hg.tape, hg.output, hg.size, fun k hk => hg.block k (by have := h.size; omega) (fun e => by have := hrow k e.symm; omega)⟩
/-- a literal's block -/
theorem ownB_lit (w : World) (p : List UInt8) (base : Nat) (hb : base ≤ w.heap.size) (hm : p.length ≤ 9223372036854775807) : OwnB base (w.alloc (.cells (bV p) 5)) (some ⟨w.heap.size, 0, none⟩) p.length p :=
  World.ownsRow_lit w (bV p) p.length hb hm (by rw [bV_size, Nat.mul_one])
theorem ownB_of_block {w : World} {g base : Nat} {p : List UInt8} (hg : w.heap[g]? = some (.cells (bV p) 5 (0, 0))) (hb : base ≤ g) (hm : p.length ≤ 9223372036854775807) : OwnB base w (some ⟨g, 0, none⟩) p.length p :=
  ⟨by rw [bV_toList_length, Nat.mul_one], .inr ⟨g, p.length, bV p, rfl, hb, hg, Nat.le_refl _, hm, by rw [bV_size, Nat.mul_one], List.take_of_length_le (by rw [bV_toList_length, Nat.mul_one]; exact Nat.le_refl _)⟩⟩

theorem info_byteA : (Try.prog.info? 5).map (fun i => (i.zero, i.size, i.bytes)) = some (some (.int .u8 0), 1, 1) := by kernel_rfl

theorem own_form {base e size : Nat} {w : World} {v : Value} {n : Nat} {xs : List Value} (h : w.ownsRow base e size v n xs) : ∃ a c, v = .slice a n c := by
  rcases h.2 with ⟨rfl, rfl⟩ | ⟨g, cap, cur, rfl, _⟩
  · exact ⟨_, _, rfl⟩
  · exact ⟨_, _, rfl⟩
/-- APPEND. -/
theorem run_append_bytes (w : World) (base : Nat) (a1 : Option Addr) (c1 : Nat) (p : List UInt8) (hown : OwnB base w a1 c1 p) (a2 : Option Addr) (c2 : Nat) (q : List UInt8) (hq : BytesAt w a2 q)
    (hlen : p.length + q.length ≤ 140737488355328) (hbase : base ≤ w.heap.size) (ty : TypeId) :
    ∃ a' c' w', (Builtin.append_ #[22, 22] ty #[.slice a1 p.length c1, .slice a2 q.length c2]).run Try.prog w = .ok (.slice a' (p.length + q.length) c') w' ∧
      OwnB base w' a' c' (p ++ q) ∧ w.grownBy w' (blkOf a1) ∧ (blkOf a' = blkOf a1 ∨ blkOf a' = some w.heap.size) := by
  obtain ⟨i, hi, hz0, hz1, hz2⟩ := info_parts info_byteA
  have main : ∀ ad : Addr, a2 = some ad → (∀ j u, (bV q).toList[j]? = some u → w.cell? (ad.add j) = some u) → _ := fun ad ha hc =>
    run_append_own_at (P := Try.prog) w base 22 ty 5 i (.int .u8 0) 1 1 Try.underlying22 hi hz0 hz1 hz2 rfl (by decide) _ _ _ hown ad q.length c2 (bV q).toList (by rw [bV_toList_length, Nat.mul_one]) hc (by intro u hu; simp only [bV, List.mem_map] at hu; obtain ⟨x, _, rfl⟩ := hu; rfl) (by simp only [maxLen]; omega) (by simpa using hlen) hbase
  have close : ∀ ad : Addr, a2 = some ad → (∀ j u, (bV q).toList[j]? = some u → w.cell? (ad.add j) = some u) → ∃ a' c' w', (Builtin.append_ #[22, 22] ty #[.slice a1 p.length c1, .slice a2 q.length c2]).run Try.prog w = .ok (.slice a' (p.length + q.length) c') w' ∧
      OwnB base w' a' c' (p ++ q) ∧ w.grownBy w' (blkOf a1) ∧ (blkOf a' = blkOf a1 ∨ blkOf a' = some w.heap.size) := fun ad ha hc => by
    obtain ⟨v', w', hr, h1, h2, h3, h4⟩ := main ad ha hc
    obtain ⟨a', c', rfl⟩ : ∃ a c, v' = .slice a (p.length + q.length) c := own_form h1
    subst ha
    rw [← bV_append] at h1
    rw [ownBlock_slice] at h2
    rw [ownBlock_slice, ownBlock_slice] at h4
    exact ⟨a', c', w', hr, by unfold OwnB; rw [List.length_append]; exact h1, h2, h4⟩
  rcases hq with rfl | ⟨b, off, rfl, hb, hc⟩
  · cases a2 with
    | some ad => exact close ad rfl (by intro j u h; simp [bV] at h)
    | none =>
      refine ⟨a1, c1, w, ?_, by simpa using hown, ⟨rfl, rfl, rfl, Nat.le_refl _, fun _ _ _ => rfl⟩, .inl rfl⟩
      rcases hown.form with ⟨rfl, rfl, rfl⟩ | ⟨g, cur, rfl, _, _, hnc, _⟩
      · simp [Builtin.append_, run_underlying Try.underlying22, sizeOf, typeInfo, hi, Builtin.lenOf, Builtin.firstCells]
      · simp [Builtin.append_, run_underlying Try.underlying22, sizeOf, typeInfo, hi, Builtin.lenOf, Builtin.firstCells, hnc, storeCells]
  · refine close _ rfl fun j u hj => ?_
    rw [addr_add]
    have hj2 : j < q.length := by
      rcases Nat.lt_or_ge j q.length with h | h
      · exact h
      · rw [List.getElem?_eq_none (by rw [bV_toList_length]; exact h)] at hj; cases hj
    rw [hc j hj2, ← hj, Array.getElem?_toList]
    exact (bV_get q j hj2).symm

/-- append at an operation of the walk -/
theorem wpList_append_bytes {w : World} {ops : Array Oper} {rest : List Oper} {o : Oper} {a : Act} {Q : Exit → Act → World → Prop} (hgd : o.guard = none) (s x : Operand)
    (ho : o.op = .call { callee := .builtin .append, args := #[s, x], argTypes := #[22, 22] })
    (base : Nat) (a1 : Option Addr) (n1 c1 : Nat) (p : List UInt8) (hs : a.eval s = .slice a1 n1 c1) (hn1 : n1 = p.length) (hown : OwnB base w a1 c1 p)
    (a2 : Option Addr) (n2 c2 : Nat) (q : List UInt8) (hx : a.eval x = .slice a2 n2 c2) (hn2 : n2 = q.length) (hq : BytesAt w a2 q)
    (hlen : p.length + q.length ≤ 140737488355328) (hbase : base ≤ w.heap.size)
    (h : ∀ a' c' w', OwnB base w' a' c' (p ++ q) → w.grownBy w' (blkOf a1) → (blkOf a' = blkOf a1 ∨ blkOf a' = some w.heap.size) → wpList Try.prog ops Q rest (a.put o.dst (.slice a' (p.length + q.length) c')) w') :
    wpList Try.prog ops Q (o :: rest) a w := by
  subst hn1
  subst hn2
  refine wpList_plain hgd fun K hK => ?_
  obtain ⟨a', c', w', hr, h2, h3, h4⟩ := run_append_bytes w base a1 c1 p hown a2 c2 q hq hlen hbase o.type
  unfold Oper.wp execOp
  simp only [ho, resolve, invoke, builtin, Sem.run_bind, Sem.run_pure, Result.andThen_ok, List.map_toArray, List.map_cons, List.map_nil, hs, hx, hr]
  exact hK _ _ (h a' c' w' h2 h3 h4)
theorem zeroCells_bytes (n : Nat) : Builtin.zeroCells (Value.int .u8 0).cells n = bV (List.replicate n 0) := by
  rw [← madeCells_bytes]
  unfold Builtin.zeroCells madeCells
  simp [Value.cells]
theorem eqn_bytes (w : World) (a : Option Addr) (n c n' c' : Nat) : (binOp .eql 22 (.slice a n c) (.slice none n' c')).run Try.prog w = .ok (.bool a.isNone) w :=
  Lib.run_eql_slice_nil w _ _ a n c n' c' Try.underlying22
/-- APPEND, of noughts. -/
theorem run_append_zeros (w : World) (base : Nat) (a1 : Option Addr) (c1 : Nat) (p : List UInt8) (hown : OwnB base w a1 c1 p) (m : Nat) (kx : IntKind)
    (hlen : p.length + m ≤ 140737488355328) (hbase : base ≤ w.heap.size) (ty : TypeId) :
    ∃ a' c' w', (Builtin.append_ #[22, 3] ty #[.slice a1 p.length c1, .int kx (m : Int)]).run Try.prog w = .ok (.slice a' (p.length + m) c') w' ∧
      OwnB base w' a' c' (p ++ List.replicate m 0) ∧ w.grownBy w' (blkOf a1) ∧ (blkOf a' = blkOf a1 ∨ blkOf a' = some w.heap.size) := by
  obtain ⟨i, hi, hz0, hz1, hz2⟩ := info_parts info_byteA
  have ht := Try.underlying22
  have hti := Try.underlying3
  have hw : IntKind.i64.wrap (m : Int) = m := by rw [IntKind.wrap_i64]; omega
  have hneg : ¬ ((m : Int) < 0) := by omega
  have hbig : ¬ (281474976710656 < (m : Int)) := by omega
  have hL : (p ++ List.replicate m (0 : UInt8)).length = p.length + m := by simp
  have grown : ∀ (old : Nat), old < p.length + m →
      OwnB base (w.drew.alloc (.cells (bV p ++ bV (List.replicate m 0) ++ Builtin.zeroCells (Value.int .u8 0).cells (grownCap w (p.length + m) old 5 - (p.length + m))) 5)) (some ⟨w.heap.size, 0, none⟩) (grownCap w (p.length + m) old 5) (p ++ List.replicate m 0) ∧
      w.grownBy (w.drew.alloc (.cells (bV p ++ bV (List.replicate m 0) ++ Builtin.zeroCells (Value.int .u8 0).cells (grownCap w (p.length + m) old 5 - (p.length + m))) 5)) (blkOf a1) := by
    intro old ho
    have hge := grownCap_ge w (p.length + m) old 5
    have hcm : grownCap w (p.length + m) old 5 ≤ maxLen := grownCap_le_maxLen w (p.length + m) old _ (by simp only [maxLen]; omega)
    refine ⟨⟨by rw [bV_toList_length, Nat.mul_one], .inr ⟨w.heap.size, _, _, rfl, hbase, heap_alloc_new w.drew _, by rw [hL]; exact hge, hcm, ?_, ?_⟩⟩, ⟨rfl, rfl, rfl, by simp, fun k hk _ => heap_alloc_old w.drew _ hk⟩⟩
    · rw [zeroCells_bytes]
      simp only [Array.size_append, bV_size, List.length_replicate]
      omega
    · rw [Nat.mul_one, hL, bV_append]
      simp only [Array.toList_append]
      have h2 : ((bV p).toList ++ (bV (List.replicate m 0)).toList).length = p.length + m := by simp [bV]
      rw [← h2]
      exact List.take_left
  have runs : ∀ (A : Option Addr) (cap : Nat), cap < p.length + m → (Builtin.firstCells 1 p.length (.slice A p.length cap)).run Try.prog w.drew = .ok (bV p) w.drew → (Builtin.append_ #[22, 3] ty #[.slice A p.length cap, .int kx m]).run Try.prog w =
      .ok (.slice (some ⟨w.heap.size, 0, none⟩) (p.length + m) (grownCap w (p.length + m) cap 5)) (w.drew.alloc (.cells (bV p ++ bV (List.replicate m 0) ++ Builtin.zeroCells (Value.int .u8 0).cells (grownCap w (p.length + m) cap 5 - (p.length + m))) 5)) := by
    intro A cap hcap hfo
    have hn : ¬ (p.length + m ≤ cap) := by omega
    have h63' : ¬ (9223372036854775807 < ((p.length : Int) + (m : Int))) := by omega
    have hfit := growslice_fits (bytes := 1) hcap (by omega)
    have h48' : ¬ (281474976710656 < Builtin.nextslicecap (p.length + m) cap) := by omega
    by_cases hm : m = 0
    · subst hm
      have hw0 : IntKind.i64.wrap 0 = 0 := by rw [IntKind.wrap_i64]; rfl
      have h0 : bV (List.replicate 0 0) = #[] := rfl
      rw [h0]
      simp only [Nat.add_zero, Int.natCast_zero, Int.add_zero] at hn h63' h48' ⊢
      simp [Builtin.append_, run_underlying ht, run_underlying hti, sizeOf, typeInfo, zeroValue, hi, hz0, hz1, hz2, asInt, asIntOf, hw0, hn, h63', h48', Question.forced, hfo, newRow, grownCap]
    · have hz := zeroCells_bytes m
      simp [Builtin.append_, run_underlying ht, run_underlying hti, sizeOf, typeInfo, zeroValue, hi, hz0, hz1, hz2, asInt, asIntOf, hw, hneg, hbig, hn, h63', h48', Question.forced, hfo, newRow, grownCap, hm, hz]
  rcases hown.form with ⟨rfl, rfl, rfl⟩ | ⟨g, cur, rfl, hbg, hg, hnc, hcm, hcs, htake⟩
  · by_cases hm : m = 0
    · subst hm
      have hw0 : IntKind.i64.wrap 0 = 0 := by rw [IntKind.wrap_i64]; rfl
      refine ⟨none, 0, w, ?_, OwnB.nil _ _, ⟨rfl, rfl, rfl, Nat.le_refl _, fun _ _ _ => rfl⟩, .inl rfl⟩
      simp [Builtin.append_, run_underlying ht, run_underlying hti, sizeOf, typeInfo, hi, asInt, asIntOf, hw0, hz1]
    · have hgr := grown 0 (by simp; omega)
      exact ⟨_, _, _, runs none 0 (by simp; omega) (by simp [Builtin.firstCells, bV]), hgr.1, hgr.2, .inr rfl⟩
  · by_cases hroom : p.length + m ≤ c1
    · have hst := run_storeCells_at Try.prog g p.length 5 (bV (List.replicate m 0)).toList 0 cur w hg (by rw [bV_toList_length, List.length_replicate]; omega) (by intro u hu; simp only [bV, List.mem_map] at hu; obtain ⟨x, _, rfl⟩ := hu; rfl)
      simp only [Nat.add_zero] at hst
      refine ⟨some ⟨g, 0, none⟩, c1, _, ?_, ⟨by rw [bV_toList_length, Nat.mul_one], .inr ⟨g, c1, _, rfl, hbg, setRow_heap w g cur (cur.toList.take p.length ++ (bV (List.replicate m 0)).toList ++ cur.toList.drop (p.length + (bV (List.replicate m 0)).toList.length)).toArray 5 _ hg, by rw [hL]; exact hroom, hcm, ?_, ?_⟩⟩, ⟨rfl, rfl, rfl, by simp, fun k _ hk => setRow_other w g k _ (fun e => hk (by simp [blkOf, e]))⟩, .inl rfl⟩
      · by_cases hm : m = 0
        · subst hm
          have hw0 : IntKind.i64.wrap 0 = 0 := by rw [IntKind.wrap_i64]; rfl
          have h0 : (bV (List.replicate 0 0)).toList = [] := rfl
          rw [h0] at hst ⊢
          simp [Builtin.append_, run_underlying ht, run_underlying hti, sizeOf, typeInfo, hi, asInt, asIntOf, hw0, hnc, Addr.add_lit, hst, hz1]
        · have hz := zeroCells_bytes m
          simp [Builtin.append_, run_underlying ht, run_underlying hti, sizeOf, typeInfo, zeroValue, hi, hz0, hz1, hz2, asInt, asIntOf, hw, hneg, hbig, hroom, hm, hz, Addr.add_lit, hst]
      · simp only [List.size_toArray, List.length_append, List.length_take, List.length_drop, Array.length_toList, bV_size, List.length_replicate]
        omega
      · rw [htake, Nat.mul_one, hL, bV_append]
        simp only [List.append_assoc]
        rw [← List.append_assoc]
        have h2 : ((bV p).toList ++ (bV (List.replicate m 0)).toList).length = p.length + m := by simp [bV]
        rw [← h2]
        exact List.take_left
    · have hgr := grown c1 (by omega)
      have holds : ∀ j u, (bV p).toList[j]? = some u → w.cell? ((⟨g, 0, none⟩ : Addr).add j) = some u := World.ownsRow.cells (g := g) hown rfl
      have hfc := run_firstCells_some (P := Try.prog) w.drew 1 p.length _ p.length c1 (bV p).toList (by rw [bV_toList_length, Nat.mul_one]) (by simpa using holds)
      exact ⟨_, _, _, runs (some ⟨g, 0, none⟩) c1 (by omega) (by simpa using hfc), hgr.1, hgr.2, .inr rfl⟩
theorem wpList_append_zeros8 {w : World} {ops : Array Oper} {rest : List Oper} {o : Oper} {a : Act} {Q : Exit → Act → World → Prop} (hgd : o.guard = none) (s x : Operand)
    (ho : o.op = .call { callee := .builtin .append, args := #[s, x], argTypes := #[22, 3] })
    (base : Nat) (a1 : Option Addr) (n1 c1 : Nat) (p : List UInt8) (hs : a.eval s = .slice a1 n1 c1) (hn1 : n1 = p.length) (hown : OwnB base w a1 c1 p)
    (m : Nat) (kx : IntKind) (hx : a.eval x = .int kx (m : Int))
    (hlen : p.length + m ≤ 140737488355328) (hbase : base ≤ w.heap.size)
    (h : ∀ a' c' w', OwnB base w' a' c' (p ++ List.replicate m 0) → w.grownBy w' (blkOf a1) → (blkOf a' = blkOf a1 ∨ blkOf a' = some w.heap.size) → wpList Try.prog ops Q rest (a.put o.dst (.slice a' (p.length + m) c')) w') :
    wpList Try.prog ops Q (o :: rest) a w := by
  subst hn1
  refine wpList_plain hgd fun K hK => ?_
  obtain ⟨a', c', w', hr, h2, h3, h4⟩ := run_append_zeros w base a1 c1 p hown m kx hlen hbase o.type
  unfold Oper.wp execOp
  simp only [ho, resolve, invoke, builtin, Sem.run_bind, Sem.run_pure, Result.andThen_ok, List.map_toArray, List.map_cons, List.map_nil, hs, hx, hr]
  exact hK _ _ (h a' c' w' h2 h3 h4)
theorem size8 (w : World) : (sizeOf (Try.prog.elem 22)).run Try.prog w = .ok 1 w := by
  have he : Try.prog.elem 22 = 5 := by kernel_rfl
  rw [he]
  obtain ⟨i, hi, hz0, hz1, hz2⟩ := info_parts info_byteA
  simp [sizeOf, typeInfo, hi, hz1]
theorem slice8 (w : World) (a : Option Addr) (len cap : Nat) (l h : Int) (h0 : 0 ≤ l) (h1 : l ≤ h) (h2 : h ≤ cap) :
    (Instr.slice 22 (.slice a len cap) (some (.int .i64 l)) (some (.int .i64 h)) none).run Try.prog w = .ok (.slice (subA a cap l.toNat) (h.toNat - l.toNat) (cap - l.toNat)) w := by
  rw [run_slice_lh w 22 a len cap (by kernel_rfl) .i64 .i64 l h h0 h1 h2, size8]
  simp [Result.andThen, sliced_sub]
theorem slice8l (w : World) (a : Option Addr) (len cap : Nat) (l : Int) (h0 : 0 ≤ l) (h1 : l ≤ len) :
    (Instr.slice 22 (.slice a len cap) (some (.int .i64 l)) none none).run Try.prog w = .ok (.slice (subA a cap l.toNat) (len - l.toNat) (cap - l.toNat)) w := by
  rw [run_slice_l w 22 a len cap (by kernel_rfl) .i64 l h0 h1, size8]
  simp [Result.andThen, sliced_sub]
theorem slice8h (w : World) (a : Option Addr) (len cap : Nat) (h : Int) (h0 : 0 ≤ h) (h2 : h ≤ cap) :
    (Instr.slice 22 (.slice a len cap) none (some (.int .i64 h)) none).run Try.prog w = .ok (.slice a h.toNat cap) w := by
  rw [run_slice_h w 22 a len cap (by kernel_rfl) .i64 h h0 h2, size8]
  simp [Result.andThen, sliced_sub, subA_zero]
theorem acc_call {B : Nat} {w wc w' : World} (h : Below B w wc) (hb : Below wc.heap.size wc w') (hB : B ≤ w.heap.size) : Below B w w' := h.trans (hb.mono (by have := h.size; omega))
theorem acc_new {B : Nat} {w wc w' : World} {o : Obj} (h : Below B w wc) (hb : Below (wc.alloc o).heap.size (wc.alloc o) w') (hB : B ≤ w.heap.size) : Below B w w' :=
  (h.alloc (by have := h.size; omega) o).trans (hb.mono (by have := h.size; simp; omega))
/-- behind a new block and a call -/
theorem below_new {w wc w' : World} {o : Obj} (hb : Below (wc.alloc o).heap.size (wc.alloc o) w') : Below wc.heap.size wc w' := ((Below.refl wc.heap.size wc).alloc (Nat.le_refl _) o).trans (hb.mono (by simp))
end Go.Proofs.Ytggnjgnjgnlchaa
/- Plain mathematics of frames: a number in four bytes, a frame's bytes, what stands at a place. No program in sight. -/
namespace Go.Proofs.Ytggnjgnjgnlchaa
set_option linter.unusedVariables false
set_option linter.unusedSimpArgs false

/-- the number that the first k bytes say, the lowest first -/
def pre (p : List UInt8) : Nat → Nat
  | 0 => 0
  | k + 1 => pre p k + (p.getD k 0).toNat * 256 ^ k
def le4 (p : List UInt8) : Nat := pre p 4
def byteOf (n i : Nat) : UInt8 := UInt8.ofNat (n / 256 ^ i % 256)
def leB (n : Nat) : List UInt8 := [byteOf n 0, byteOf n 1, byteOf n 2, byteOf n 3]
theorem byteOf_toNat (n i : Nat) : (byteOf n i).toNat = n / 256 ^ i % 256 := by
  unfold byteOf; rw [UInt8.toNat_ofNat']; omega
theorem pre_lt (p : List UInt8) (k : Nat) : pre p k < 256 ^ k := by
  induction k with
  | zero => simp [pre]
  | succ k ih =>
    have hb := (p.getD k 0).toNat_lt
    unfold pre
    rw [Nat.pow_succ]
    have : (p.getD k 0).toNat * 256 ^ k ≤ 255 * 256 ^ k := Nat.mul_le_mul_right _ (by omega)
    omega
theorem le4_lt (p : List UInt8) : le4 p < 4294967296 := pre_lt p 4
theorem pre_append (p q : List UInt8) (k : Nat) (h : k ≤ p.length) : pre (p ++ q) k = pre p k := by
  induction k with
  | zero => rfl
  | succ k ih =>
    unfold pre
    rw [ih (by omega)]
    congr 2
    simp [List.getD, List.getElem?_append, show k < p.length by omega]
theorem le4_leB (n : Nat) (h : n < 4294967296) : le4 (leB n) = n := by
  simp only [le4, pre, leB, List.getD, List.getElem?_cons_zero, List.getElem?_cons_succ, Option.getD_some, byteOf_toNat]
  omega
theorem le4_append (p q : List UInt8) (h : 4 ≤ p.length) : le4 (p ++ q) = le4 p := pre_append p q 4 h
theorem le4_take (p : List UInt8) (h : 4 ≤ p.length) : le4 (p.take 4) = le4 p := by
  conv => rhs; rw [← List.take_append_drop 4 p]
  rw [le4_append _ _ (by simp; omega)]
theorem leB_le4 (a b c d : UInt8) : leB (le4 [a, b, c, d]) = [a, b, c, d] := by
  have ha := a.toNat_lt
  have hb := b.toNat_lt
  have hc := c.toNat_lt
  have hd := d.toNat_lt
  simp only [leB, List.cons.injEq, and_true]
  refine ⟨?_, ?_, ?_, ?_⟩ <;>
    (apply UInt8.toNat_inj.1
     rw [byteOf_toNat]
     simp only [le4, pre, List.getD, List.getElem?_cons_zero, List.getElem?_cons_succ, Option.getD_some]
     omega)
theorem leB_of_le4 (p : List UInt8) (h : 4 ≤ p.length) : leB (le4 p) = p.take 4 := by
  match p, h with
  | a :: b :: c :: d :: q, _ =>
    have := le4_append [a, b, c, d] q (by simp)
    rw [show a :: b :: c :: d :: q = [a, b, c, d] ++ q from rfl, this, leB_le4]
    rfl

/-- the sum that a frame bears -/
def sumOf (body : List UInt8) : BitVec 32 := crcUpdate (crcOf (leB body.length)) body
def headB (body : List UInt8) : List UInt8 := leB body.length ++ leB (sumOf body).toNat
/-- a frame -/
def sealB (body : List UInt8) : List UInt8 := headB body ++ body
theorem leB_length (n : Nat) : (leB n).length = 4 := rfl
theorem headB_length (body : List UInt8) : (headB body).length = 8 := rfl
theorem sealB_length (body : List UInt8) : (sealB body).length = 8 + body.length := by simp [sealB, headB_length]

/-- what stands at a place: an error's number, or a body and the place behind it -/
def nextN (p : List UInt8) (at_ : Nat) : Except Nat (List UInt8 × Nat) :=
  if at_ = p.length then .error 12
  else if p.length - at_ < 8 then .error 13
  else
    let n := le4 (p.drop at_)
    if n = 0 ∨ 65536 < n ∨ p.length - at_ - 8 < n then .error 13
    else if (BitVec.ofNat 32 (le4 (p.drop (at_ + 4)))) = crcUpdate (crcOf ((p.drop at_).take 4)) ((p.drop (at_ + 8)).take n) then .ok ((p.drop (at_ + 8)).take n, at_ + 8 + n)
    else .error 13
def nextF (p : List UInt8) (at_ : Int) : Except Nat (List UInt8 × Nat) :=
  if at_ < 0 ∨ (p.length : Int) < at_ then .error 1 else nextN p at_.toNat

theorem next_ok {p : List UInt8} {at_ : Nat} {b : List UInt8} {e : Nat} (h : nextN p at_ = .ok (b, e)) :
    at_ + 8 + b.length = e ∧ e ≤ p.length ∧ 0 < b.length ∧ b.length ≤ 65536 ∧ p.drop at_ = sealB b ++ p.drop e := by
  unfold nextN at h
  split at h
  · cases h
  split at h
  · cases h
  dsimp only at h
  split at h
  · cases h
  split at h
  · rename_i h1 h2 h3 h4
    simp only [Except.ok.injEq, Prod.mk.injEq] at h
    obtain ⟨rfl, rfl⟩ := h
    have hlen : ((p.drop (at_ + 8)).take (le4 (p.drop at_))).length = le4 (p.drop at_) := by simp; omega
    refine ⟨by rw [hlen], by omega, by rw [hlen]; omega, by rw [hlen]; omega, ?_⟩
    have d1 : leB (le4 (p.drop at_)) = (p.drop at_).take 4 := leB_of_le4 _ (by simp; omega)
    have d2 : leB (le4 (p.drop (at_ + 4))) = (p.drop (at_ + 4)).take 4 := leB_of_le4 _ (by simp; omega)
    have hs : (sumOf ((p.drop (at_ + 8)).take (le4 (p.drop at_)))).toNat = le4 (p.drop (at_ + 4)) := by
      unfold sumOf
      rw [hlen, d1, ← h4, BitVec.toNat_ofNat]
      exact Nat.mod_eq_of_lt (le4_lt _)
    unfold sealB headB
    rw [hs, hlen, d1, d2]
    have e1 : p.drop at_ = (p.drop at_).take 4 ++ p.drop (at_ + 4) := by
      have := (List.take_append_drop 4 (p.drop at_)).symm
      rwa [List.drop_drop] at this
    have e2 : p.drop (at_ + 4) = (p.drop (at_ + 4)).take 4 ++ p.drop (at_ + 8) := by
      have := (List.take_append_drop 4 (p.drop (at_ + 4))).symm
      rwa [List.drop_drop] at this
    have e3 : p.drop (at_ + 8) = (p.drop (at_ + 8)).take (le4 (p.drop at_)) ++ p.drop (at_ + 8 + le4 (p.drop at_)) := by
      have := (List.take_append_drop (le4 (p.drop at_)) (p.drop (at_ + 8))).symm
      rwa [List.drop_drop] at this
    conv => lhs; rw [e1, e2, e3]
    simp [List.append_assoc]
  · cases h
theorem next_seal (q body r : List UInt8) (h0 : 0 < body.length) (h1 : body.length ≤ 65536) : nextN (q ++ sealB body ++ r) q.length = .ok (body, q.length + 8 + body.length) := by
  have hl := sealB_length body
  have ed : (q ++ sealB body ++ r).drop q.length = sealB body ++ r := by rw [List.append_assoc, List.drop_left' rfl]
  have es : sealB body ++ r = leB body.length ++ (leB (sumOf body).toNat ++ (body ++ r)) := by simp [sealB, headB, List.append_assoc]
  have ed4 : (q ++ sealB body ++ r).drop (q.length + 4) = leB (sumOf body).toNat ++ (body ++ r) := by
    rw [← List.drop_drop, ed, es]; rfl
  have ed8 : (q ++ sealB body ++ r).drop (q.length + 8) = body ++ r := by
    rw [show q.length + 8 = q.length + 4 + 4 from rfl, ← List.drop_drop, ed4]; rfl
  have n1 : le4 (sealB body ++ r) = body.length := by rw [es, le4_append _ _ (by simp [leB_length]), le4_leB _ (by omega)]
  have n2 : le4 (leB (sumOf body).toNat ++ (body ++ r)) = (sumOf body).toNat := by rw [le4_append _ _ (by simp [leB_length]), le4_leB _ (sumOf body).isLt]
  have t4 : (sealB body ++ r).take 4 = leB body.length := by rw [es]; rfl
  have L : (q ++ sealB body ++ r).length = q.length + (8 + body.length) + r.length := by simp only [List.length_append, hl]
  unfold nextN
  rw [L, if_neg (by omega), if_neg (by omega)]
  simp only [ed, ed4, ed8, n1, n2, t4]
  rw [if_neg (by omega), List.take_left' rfl, if_pos (by rw [BitVec.ofNat_toNat, BitVec.setWidth_eq]; rfl)]

/-- the frames from a place on, till one is not whole -/
def scanF (p : List UInt8) : Nat → Nat → List (Nat × List UInt8)
  | 0, _ => []
  | f + 1, at_ => match nextN p at_ with
    | .ok (b, e) => (at_, b) :: scanF p f e
    | .error _ => []
def scanL (p : List UInt8) : List (Nat × List UInt8) := scanF p (p.length + 1) 0
end Go.Proofs.Ytggnjgnjgnlchaa
/- Walks of package frame: a number in four bytes, read and laid. -/
namespace Go.Proofs.Ytggnjgnjgnlchaa
set_option linter.unusedVariables false
set_option linter.unusedSimpArgs false
open Go.RowKit

theorem or_pre (p : List UInt8) (k : Nat) (hk : k < 4) (hp : k < p.length) :
    bits .or .u32 (pre p k : Int) ((p[k].toNat : Int) * (2 : Int) ^ (8 * k) % (4294967296 : Int)) = (pre p (k + 1) : Int) := by
  have hb := p[k].toNat_lt
  have hlt := pre_lt p k
  have hlt2 := pre_lt p (k + 1)
  have h256 : (256 : Nat) ^ k = 2 ^ (8 * k) := by rw [Nat.pow_mul]
  have hpow : (256 : Nat) ^ (k + 1) ≤ 256 ^ 4 := Nat.pow_le_pow_right (by decide) hk
  have hg : p.getD k 0 = p[k] := by simp [List.getD, hp]
  have hsum : pre p (k + 1) = pre p k + p[k].toNat * 2 ^ (8 * k) := by
    show pre p k + (p.getD k 0).toNat * 256 ^ k = _
    rw [hg, h256]
  have hm : (p[k].toNat : Int) * (2 : Int) ^ (8 * k) % (4294967296 : Int) = ((p[k].toNat * 2 ^ (8 * k) : Nat) : Int) := by
    rw [Int.natCast_mul, Int.natCast_pow]
    have : ((p[k].toNat * 2 ^ (8 * k) : Nat) : Int) < 4294967296 := by omega
    rw [Int.natCast_mul, Int.natCast_pow] at this
    exact Int.emod_eq_of_lt (Int.mul_nonneg (by omega) (Int.pow_nonneg (by decide))) this
  rw [hm]
  have hor := (bits_nat .u32 32 (by decide) (fun n h0 h1 => by rw [IntKind.wrap_u32]; omega) (pre p k) (p[k].toNat * 2 ^ (8 * k)) (by omega) (by omega)).2
  rw [hor, hsum]
  congr 1
  rw [Nat.or_comm, Nat.mul_comm, Nat.add_comm, Nat.two_pow_add_eq_or_of_lt (by rw [← h256]; exact hlt)]
set_option maxHeartbeats 1000000 in
theorem word_any (p : List UInt8) (a : Option Addr) (cap : Nat) (w : World) (hp : BytesAt w a p) (h4 : 4 ≤ p.length) (hl : p.length ≤ 9223372036854775807) :
    Calls Try.prog 46 #[.slice a p.length cap] w fun e w' => e = .returned (.int .u32 (v32 (BitVec.ofNat 32 (le4 p)) : Int)) ∧ w' = w := by
  obtain ⟨b, off, rfl, hb, hc⟩ := hp.split (by intro e; subst e; simp at h4)
  go_enter Try.func46, Try.ntmps46
  go_wp2
  go_loop [3, 5] (fun x i => ∃ k : Nat, k ≤ 4 ∧ i = .int .i64 k ∧ x = .int .u32 (pre p k : Int)) (fun _ i => 4 - (intOf i).toNat)
  case atStart => exact ⟨0, by omega, rfl, rfl⟩
  case round =>
    obtain ⟨k, hk, rfl, rfl⟩ := hrel
    by_cases hlt : k < 4
    · have hck := hc k (by omega)
      have hb8 : p[k].toNat < 256 := p[k].toNat_lt
      clear hc
      go_wp2
      go_round
      case rel => exact ⟨k + 1, by omega, by go_num, by rw [or_pre p k hlt (by omega)]⟩
      case measure => simp [intOf]; omega
    · obtain rfl : k = 4 := by omega
      go_wp2
      go_ret
      refine ⟨?_, rfl⟩
      rw [v32_ofNat (le4_lt p)]
      rfl

/-- a block of bytes in which q stands, its first byte at off -/
theorem over_bV (q : List UInt8) (i : Nat) (x : UInt8) : (bV q).setIfInBounds i (.int .u8 (x.toNat : Int)) = bV (q.set i x) := bV_set q i x
/-- the first k bytes of a number laid over a list from off on -/
def laid (q : List UInt8) (off n : Nat) : Nat → List UInt8
  | 0 => q
  | k + 1 => (laid q off n k).set (off + k) (byteOf n k)
theorem laid_length (q : List UInt8) (off n k : Nat) : (laid q off n k).length = q.length := by
  induction k with
  | zero => rfl
  | succ k ih => simp [laid, ih]
theorem byte_shift (v : BitVec 32) (k : Nat) : (v32 v : Int) / (2 : Int) ^ (8 * k) % (256 : Int) = ((byteOf v.toNat k).toNat : Int) := by
  rw [byteOf_toNat]
  have h256 : (256 : Nat) ^ k = 2 ^ (8 * k) := by rw [Nat.pow_mul]
  unfold v32
  rw [h256]
  simp
/-- nothing but block g has turned -/
structure OnlyAt (g : Nat) (w w' : World) : Prop where
  os : w'.os = w.os
  tape : w'.tape = w.tape
  output : w'.output = w.output
  size : w.heap.size ≤ w'.heap.size
  block : ∀ k, k < w.heap.size → k ≠ g → w'.heap[k]? = w.heap[k]?
theorem OnlyAt.refl (g : Nat) (w : World) : OnlyAt g w w := ⟨rfl, rfl, rfl, Nat.le_refl _, fun _ _ _ => rfl⟩
theorem OnlyAt.set {g : Nat} {w w' : World} (h : OnlyAt g w w') (i : Nat) (v : Value) : OnlyAt g w (w'.setCell ⟨g, i, none⟩ v) :=
  ⟨h.os, h.tape, h.output, by simp [World.setCell]; exact h.size, fun k hk hg => by rw [blk_ne hg]; exact h.block k hk hg⟩
theorem OnlyAt.drew {g : Nat} {w w' : World} (h : OnlyAt g w w') : OnlyAt g w w'.drew := ⟨h.os, h.tape, h.output, h.size, h.block⟩
theorem OnlyAt.below {g B : Nat} {w0 w w' : World} (hb : Below B w0 w) (h : OnlyAt g w w') (hg : B ≤ g) (hB : B ≤ w0.heap.size) : Below B w0 w' :=
  hb.trans ⟨h.os, h.tape, h.output, h.size, fun k hk => h.block k (by have := hb.size; omega) (by omega)⟩

set_option maxHeartbeats 1000000 in
theorem four_any (q : List UInt8) (T : TypeId) (g off cap : Nat) (v : BitVec 32) (w : World) (hg : w.heap[g]? = some (.cells (bV q) T (0, 0))) (h4 : off + 4 ≤ q.length) :
    Calls Try.prog 40 #[.slice (some ⟨g, off, none⟩) 4 cap, .int .u32 (v32 v : Int)] w fun e w' => e = .returned (.tuple #[]) ∧ w'.heap[g]? = some (.cells (bV (laid q off v.toNat 4)) T (0, 0)) ∧ OnlyAt g w w' := by
  go_enter Try.func40, Try.ntmps40
  go_wp2
  go_loopw [5] (fun i wr => ∃ k : Nat, k ≤ 4 ∧ i = .int .i64 k ∧ wr.heap[g]? = some (.cells (bV (laid q off v.toNat k)) T (0, 0)) ∧ OnlyAt g w wr) (fun i _ => 4 - (intOf i).toNat)
  case atStart => exact ⟨0, by omega, rfl, hg, OnlyAt.refl _ _⟩
  case round =>
    clear hg
    obtain ⟨k, hk, rfl, hg, ho⟩ := hrel
    by_cases hlt : k < 4
    · obtain ⟨v0, c2⟩ : ∃ v, wr.cell? ⟨g, off + k, none⟩ = some v := ⟨_, blk_cell hg (bV_get _ (off + k) (by rw [laid_length]; omega))⟩
      have f2 : wr.frozen? ⟨g, off + k, none⟩ = false := blk_free hg
      have G := Lib.hid hg
      clear hg
      go_wp2
      go_roundw
      case rel => exact ⟨k + 1, by omega, by go_num, by rw [blk_set G.out, byte_shift, bV_set]; rfl, ho.set _ _⟩
      case measure => simp [intOf]; omega
    · obtain rfl : k = 4 := by omega
      go_wp2
      go_end0
      exact ⟨rfl, hg, ho⟩
end Go.Proofs.Ytggnjgnjgnlchaa
/- Walks of package frame: the head of a frame. -/
namespace Go.Proofs.Ytggnjgnjgnlchaa
set_option linter.unusedVariables false
set_option linter.unusedSimpArgs false
open Go.RowKit

theorem len32 (n : Nat) (h : n < 4294967296) : (n : Int) = (v32 (BitVec.ofNat 32 n) : Int) := by rw [v32_ofNat h]
theorem zero8 : bV [0, 0, 0, 0, 0, 0, 0, 0] = #[.int .u8 0, .int .u8 0, .int .u8 0, .int .u8 0, .int .u8 0, .int .u8 0, .int .u8 0, .int .u8 0] := rfl
theorem laid_head (n m : Nat) : laid (laid [0, 0, 0, 0, 0, 0, 0, 0] 0 n 4) 4 m 4 = leB n ++ leB m := rfl
theorem laid_half (n : Nat) : laid [0, 0, 0, 0, 0, 0, 0, 0] 0 n 4 = leB n ++ [0, 0, 0, 0] := rfl
theorem oneCell_bV (p : List UInt8) : (bV p).all (·.oneCell') = true := by
  rw [Array.all_eq_true_iff_forall_mem]
  intro x hx
  unfold bV at hx
  simp only [List.mem_toArray, List.mem_map] at hx
  obtain ⟨i, _, rfl⟩ := hx
  rfl
theorem size_head (p : List UInt8) (h : p.length = 8) : (Try.prog.info? 54).map (·.size) = some (bV p).size := by rw [bV_size, h]; kernel_rfl

set_option maxHeartbeats 1000000 in
theorem headOf_any (p : List UInt8) (a : Option Addr) (cap : Nat) (w : World) (hp : BytesAt w a p) (hl : p.length ≤ 65536) :
    Calls Try.prog 31 #[.slice a p.length cap] w fun e w' => e = .returned (.agg (bV (headB p))) ∧ Below w.heap.size w w' := by
  have HP : Hid (∀ x, Below w.heap.size w x → BytesAt x a p) := fun x hx => hp.below (Nat.le_refl _) hx
  have hn := len32 p.length (by omega)
  have Hn := Lib.hid hn
  clear hp hn
  go_enter Try.func31, Try.ntmps31
  go_wp2_with fail
  rw [← zero8]
  have hg0 : ((w.alloc (.cells (bV [0, 0, 0, 0, 0, 0, 0, 0]) 54)).alloc (.cells (bV [0, 0, 0, 0, 0, 0, 0, 0]) 54)).heap[w.heap.size]? = some (.cells (bV [0, 0, 0, 0, 0, 0, 0, 0]) 54 (0, 0)) := heap_alloc2_old _ _ _
  have hg1 : ((w.alloc (.cells (bV [0, 0, 0, 0, 0, 0, 0, 0]) 54)).alloc (.cells (bV [0, 0, 0, 0, 0, 0, 0, 0]) 54)).heap[w.heap.size + 1]? = some (.cells (bV [0, 0, 0, 0, 0, 0, 0, 0]) 54 (0, 0)) := heap_alloc2_new _ _ _
  have hb0 : Below w.heap.size w ((w.alloc (.cells (bV [0, 0, 0, 0, 0, 0, 0, 0]) 54)).alloc (.cells (bV [0, 0, 0, 0, 0, 0, 0, 0]) 54)) := ((Below.refl _ _).alloc (Nat.le_refl _) _).alloc (by simp) _
  generalize ((w.alloc (.cells (bV [0, 0, 0, 0, 0, 0, 0, 0]) 54)).alloc (.cells (bV [0, 0, 0, 0, 0, 0, 0, 0]) 54)) = w1 at hg0 hg1 hb0
  have hF := four_any [0, 0, 0, 0, 0, 0, 0, 0] 54 (w.heap.size + 1) 0 8 (BitVec.ofNat 32 p.length) w1 hg1 (by decide)
  rw [← Hn.out] at hF
  have HF := Lib.hid hF
  clear hF
  have hs0 := blk_lt hg1
  go_wp2_with (go_at_call 40; with_reducible refine HF.out.mono ?_; rintro e w2 ⟨rfl, hg2, ho2⟩)
  have hnn : (BitVec.ofNat 32 p.length).toNat = p.length := by rw [BitVec.toNat_ofNat]; omega
  rw [hnn] at hg2
  have hg20 : w2.heap[w.heap.size]? = some (.cells (bV [0, 0, 0, 0, 0, 0, 0, 0]) 54 (0, 0)) := by rw [ho2.block _ (by omega) (by omega)]; exact hg0
  have hb2 : Below w.heap.size w w2 := ho2.below hb0 (by omega) (Nat.le_refl _)
  have hs2 := blk_lt hg2
  have hlaid := bytesAt_bV hg2
  rw [laid_half] at hlaid
  have h4 := hlaid.take 4
  have e4 : (leB p.length ++ ([0, 0, 0, 0] : List UInt8)).take 4 = leB p.length := rfl
  rw [e4] at h4
  have q1 : ∀ u : InC (Below w2.heap.size w2), Calls Try.prog 42 #[.slice (some ⟨w.heap.size + 1, 0, none⟩) 4 8] u.val fun e w'' => e = .returned (.int .u32 (v32 (crcOf (leB p.length)) : Int)) ∧ ∃ y : InC (Below w2.heap.size w2), w'' = y.val := fun u =>
    cls_call ((of_any (leB p.length) (some ⟨w.heap.size + 1, 0, none⟩) 8 u.val (h4.below (Nat.le_refl _) u.property) (by simp [leB_length])).mono fun e w' ⟨he, hb'⟩ => ⟨he, u.property.trans (hb'.mono u.property.size)⟩)
  have q2 : ∀ u : InC (Below w2.heap.size w2), Calls Try.prog 41 #[.int .u32 (v32 (crcOf (leB p.length)) : Int), .slice a p.length cap] u.val fun e w'' => e = .returned (.int .u32 (v32 (sumOf p) : Int)) ∧ ∃ y : InC (Below w2.heap.size w2), w'' = y.val := fun u =>
    cls_call ((update_any (crcOf (leB p.length)) p a cap u.val (HP.out _ (hb2.trans (u.property.mono hb2.size))) (by omega)).mono fun e w' ⟨he, hb'⟩ => ⟨he, u.property.trans (hb'.mono u.property.size)⟩)
  have hne : Nonempty (InC (Below w2.heap.size w2)) := ⟨⟨w2, Below.refl _ _⟩⟩
  clear hlaid h4 hnn ho2 hb0 hg0 hg1 HF hs0
  refine region_tail (Cls (Below w2.heap.size w2)) 5 (by kernel_rfl) (by kernel_rfl) (cls_in (Below.refl _ _).drew) ?_
  simp only [List.take_succ_cons, List.take_zero, List.drop_succ_cons, List.drop_zero]
  repeat quiet_step ((first | exact q1 _ | exact q2 _))
  refine wpQuiet_nil ?_
  rintro w3 ⟨⟨w4, hb3⟩, hw⟩
  obtain rfl : w3 = w4 := hw
  clear q1 q2 hne
  have hg3 : w3.heap[w.heap.size + 1]? = some (.cells (bV (laid [0, 0, 0, 0, 0, 0, 0, 0] 0 p.length 4)) 54 (0, 0)) := by rw [hb3.block _ hs2]; exact hg2
  have hg30 : w3.heap[w.heap.size]? = some (.cells (bV [0, 0, 0, 0, 0, 0, 0, 0]) 54 (0, 0)) := by rw [hb3.block _ (by omega)]; exact hg20
  have hb4 := hb2.trans (hb3.mono hb2.size)
  have hF : Calls Try.prog 40 #[.slice (some ⟨w.heap.size + 1, 4, none⟩) 4 4, .int .u32 (v32 (sumOf p) : Int)] w3 fun e w' => e = .returned (.tuple #[]) ∧ w'.heap[w.heap.size + 1]? = some (.cells (bV (headB p)) 54 (0, 0)) ∧ w'.heap[w.heap.size]? = some (.cells (bV [0, 0, 0, 0, 0, 0, 0, 0]) 54 (0, 0)) ∧ Below w.heap.size w w' :=
    (four_any (laid [0, 0, 0, 0, 0, 0, 0, 0] 0 p.length 4) 54 (w.heap.size + 1) 4 4 (sumOf p) w3 hg3 (by simp [laid_length])).mono fun e w' ⟨he, hg, ho⟩ =>
      ⟨he, by rw [hg, laid_head]; rfl, by rw [ho.block _ (by have := blk_lt hg3; omega) (by omega)]; exact hg30, ho.below hb4 (by omega) (Nat.le_refl _)⟩
  have HF := Lib.hid hF
  clear hF
  have hi := size_head (headB p) (headB_length p)
  have Hold : Hid ((bV [0, 0, 0, 0, 0, 0, 0, 0]).size = (bV (headB p)).size) := by rw [bV_size, bV_size, headB_length]; rfl
  go_wp2_with (first
    | (go_at_call 40; with_reducible refine HF.out.mono ?_; rintro e w5 ⟨rfl, hg5, hg50, hb5⟩)
    | (with_reducible refine wpList_load_row rfl 54 (.tmp 3) rfl (w.heap.size + 1) rfl 54 (bV (headB p)) (0, 0) _ hg5 Try.underlying54 rfl hi ?_)
    | (with_reducible refine wpList_store_row rfl 54 (.tmp 2) (.tmp 15) rfl w.heap.size (bV (headB p)) rfl rfl 54 (bV [0, 0, 0, 0, 0, 0, 0, 0]) hg50 hi Hold.out (oneCell_bV _) ?_))
  have hg6 := setRow_heap w5 w.heap.size (bV [0, 0, 0, 0, 0, 0, 0, 0]) (bV (headB p)) 54 (0, 0) hg50
  exact bodyPost_ret (results_cell_row rfl _ _ w.heap.size 54 (bV (headB p)) (0, 0) _ rfl hg6 Try.underlying54 rfl hi) rfl ⟨rfl, below_setRow hb5 (Nat.le_refl _) _⟩
end Go.Proofs.Ytggnjgnjgnlchaa
/- Walks of the library's Clone, Grow, Concat at lists of bytes. -/
namespace Go.Proofs.Ytggnjgnjgnlchaa
set_option linter.unusedVariables false
set_option linter.unusedSimpArgs false
open Go.RowKit

def RetB (w : World) (p : List UInt8) (e : Ending) (w' : World) : Prop := ∃ a c, e = .returned (.slice a p.length c) ∧ OwnB w.heap.size w' a c p ∧ Below w.heap.size w w'

set_option maxHeartbeats 400000 in
theorem clone_any (p : List UInt8) (a : Option Addr) (cap : Nat) (w : World) (hp : BytesAt w a p) (hl : p.length ≤ 140737488355328) :
    Calls Try.prog 36 #[.slice a p.length cap] w (RetB w p) := by
  have hq := eqn_bytes w a p.length cap 0 0
  go_enter Try.func36, Try.ntmps36
  rcases hp.nil_or with ⟨rfl, rfl⟩ | ⟨ad, rfl⟩
  · simp only [List.length_nil, Option.isNone_none] at hq
    go_wp2
    go_ret
    exact ⟨none, 0, rfl, OwnB.nil _ _, Below.refl _ _⟩
  · have h1 := ownB_lit w [] w.heap.size (Nat.le_refl _) (by simp)
    have hb : Below w.heap.size w (w.alloc (.cells (bV []) 5)) := (Below.refl _ _).alloc (Nat.le_refl _) _
    have hp2 : BytesAt (w.alloc (.cells (bV []) 5)) (some ad) p := hp.below (Nat.le_refl _) hb
    have e0 : bV [] = #[] := rfl
    rw [e0] at h1 hb hp2
    have hs : w.heap.size ≤ (w.alloc (.cells #[] 5)).heap.size := by simp
    go_wp2_with (with_reducible refine wpList_append_bytes rfl (.tmp 5) (.tmp 6) rfl w.heap.size _ _ _ [] rfl rfl h1 _ _ _ p rfl rfl hp2 (by simpa using hl) hs ?_; intro a' c' w' ho hg hat)
    go_ret
    exact ⟨a', c', rfl, ho, below_grown hb hg (by intro k hk; simp [blkOf] at hk; omega) (Nat.le_refl _)⟩

set_option maxHeartbeats 400000 in
theorem grow_nil (n : Nat) (w : World) (hl : n ≤ 140737488355328) :
    Calls Try.prog 43 #[.slice none 0 0, .int .i64 n] w (RetB w []) := by
  go_enter Try.func43, Try.ntmps43
  by_cases h0 : n = 0
  · subst h0
    go_wp2
    go_ret
    exact ⟨none, 0, rfl, OwnB.nil _ _, Below.refl _ _⟩
  · have h1 : (0 : Int) < (n : Int) := by omega
    have ho := OwnB.nil w.heap.size w
    have hs : w.heap.size ≤ w.heap.size := Nat.le_refl _
    have hl2 : ([] : List UInt8).length + n ≤ 140737488355328 := by simpa using hl
    go_wp2_with (with_reducible refine wpList_append_zeros8 rfl (.tmp 20) (.tmp 21) rfl w.heap.size _ _ _ [] rfl rfl ho n .i64 rfl hl2 hs ?_; intro a' c' w' ho' hg hat)
    go_ret
    have := ho'.take 0
    rw [List.take_zero] at this
    exact ⟨a', c', rfl, this, below_grown (Below.refl _ _) hg (by intro k hk; simp [blkOf] at hk) (Nat.le_refl _)⟩

/-- a list of lists of bytes, as it lies -/
def slV (x : Option Addr × Nat × List UInt8) : Value := .slice x.1 x.2.2.length x.2.1
def lenK (ps : List (Option Addr × Nat × List UInt8)) (k : Nat) : Nat := ((ps.take k).map (·.2.2.length)).sum
def catK (ps : List (Option Addr × Nat × List UInt8)) (k : Nat) : List UInt8 := (ps.take k).flatMap (·.2.2)
theorem catK_length (ps : List (Option Addr × Nat × List UInt8)) (k : Nat) : (catK ps k).length = lenK ps k := by
  unfold catK lenK; rw [List.length_flatMap]
theorem catK_succ (ps : List (Option Addr × Nat × List UInt8)) (k : Nat) (h : k < ps.length) : catK ps (k + 1) = catK ps k ++ ps[k].2.2 := by
  unfold catK; rw [List.take_succ_eq_append_getElem h, List.flatMap_append]; simp
theorem lenK_succ (ps : List (Option Addr × Nat × List UInt8)) (k : Nat) (h : k < ps.length) : lenK ps (k + 1) = lenK ps k + ps[k].2.2.length := by
  rw [← catK_length, ← catK_length, catK_succ ps k h, List.length_append]
theorem lenK_mono (ps : List (Option Addr × Nat × List UInt8)) (k : Nat) (h : k ≤ ps.length) : lenK ps k ≤ lenK ps ps.length := by
  have : lenK ps ps.length = lenK ps k + ((ps.drop k).map (·.2.2.length)).sum := by
    unfold lenK; rw [List.take_length, ← List.sum_append, ← List.map_append, List.take_append_drop]
  omega
set_option maxHeartbeats 400000 in
theorem concat_any (ps : List (Option Addr × Nat × List UInt8)) (g : Nat) (w : World) (hg : w.heap[g]? = some (.cells (ps.map slV).toArray 22 (0, 0))) (hp : ∀ x ∈ ps, BytesAt w x.1 x.2.2)
    (hl : lenK ps ps.length ≤ 140737488355328) (hn : ps.length ≤ 1000000) :
    Calls Try.prog 32 #[.slice (some ⟨g, 0, none⟩) ps.length ps.length] w (RetB w (catK ps ps.length)) := by
  go_enter Try.func32, Try.ntmps32
  have hcell : ∀ W : World, W.heap[g]? = w.heap[g]? → ∀ k (h : k < ps.length), W.cell? ⟨g, k, none⟩ = some (.slice ps[k].1 ps[k].2.2.length ps[k].2.1) := fun W hW k h =>
    blk_cell (hW.trans hg) (by simp [h, slV])
  have Hcell := Lib.hid hcell
  have Hg := Lib.hid hg
  have Hp := Lib.hid hp
  have Hl := Lib.hid hl
  clear hcell hg hp hl
  go_wp2
  go_loop [3, 11] (fun x i => ∃ k : Nat, k ≤ ps.length ∧ i = .int .i64 k ∧ x = .int .i64 (lenK ps k : Int)) (fun _ i => ps.length - (intOf i).toNat)
  case atStart => exact ⟨0, by omega, rfl, rfl⟩
  case round =>
    obtain ⟨k, hk, rfl, rfl⟩ := hrel
    by_cases hlt : k < ps.length
    · have hck := Hcell.out w rfl k hlt
      have h1 := lenK_succ ps k hlt
      have h2 := lenK_mono ps (k + 1) (by omega)
      have h3 := Hl.out
      have e1 : IntKind.i64.wrap ((lenK ps k : Int) + (ps[k].2.2.length : Int)) = (lenK ps (k + 1) : Int) := by rw [h1, IntKind.wrap_i64]; omega
      have e2 : ¬ ((lenK ps (k + 1) : Int) < 0) := by omega
      clear h1 h2 h3
      go_wp2
      go_round
      case rel => exact ⟨k + 1, by omega, by go_num, rfl⟩
      case measure => simp [intOf]; omega
    · obtain rfl : k = ps.length := by omega
      have hgn := grow_nil (lenK ps ps.length) w Hl.out
      go_wp2_with (go_at_call 43; (with_reducible refine hgn.mono ?_); rintro e w1 ⟨a1, c1, rfl, ho1, hb1⟩)
      go_loopw [6, 27] (fun s i wr => ∃ (k : Nat) (a : Option Addr) (c : Nat), k ≤ ps.length ∧ i = .int .i64 k ∧ s = .slice a (catK ps k).length c ∧ OwnB w.heap.size wr a c (catK ps k) ∧ Below w.heap.size w wr) (fun _ i _ => ps.length - (intOf i).toNat)
      case atStart => exact ⟨0, a1, c1, by omega, rfl, rfl, ho1, hb1⟩
      case round =>
        clear hgn ho1 hb1
        obtain ⟨k, a, c, hk, rfl, rfl, ho, hb⟩ := hrel
        have hgl := blk_lt Hg.out
        by_cases hlt : k < ps.length
        · have hck := Hcell.out wr (hb.block g hgl) k hlt
          have hsrc := (Hp.out ps[k] (by simp)).below (Nat.le_refl _) hb
          have h1 := catK_succ ps k hlt
          have h2 : (catK ps k).length + ps[k].2.2.length ≤ 140737488355328 := by
            rw [← List.length_append, ← h1, catK_length]; exact Nat.le_trans (lenK_mono ps (k + 1) (by omega)) Hl.out
          have hbase := hb.size
          go_wp2_with (with_reducible refine wpList_append_bytes rfl (.tmp 31) (.tmp 32) rfl w.heap.size a _ c (catK ps k) rfl rfl ho _ _ _ ps[k].2.2 rfl rfl hsrc h2 hbase ?_; intro a' c' w' ho' hg' hat)
          go_roundw
          case rel =>
            rw [← h1] at ho'
            refine ⟨k + 1, a', c', by omega, by go_num, by rw [h1, List.length_append], ho', below_grown hb hg' (fun j hj => (ho.lt j hj).1) (Nat.le_refl _)⟩
          case measure => simp [intOf]; omega
        · obtain rfl : k = ps.length := by omega
          go_wp2
          go_ret
          exact ⟨a, c, rfl, ho, hb⟩
end Go.Proofs.Ytggnjgnjgnlchaa
/- Walks of package frame: Seal. -/
namespace Go.Proofs.Ytggnjgnjgnlchaa
set_option linter.unusedVariables false
set_option linter.unusedSimpArgs false
open Go.RowKit

/-- what Seal answers -/
def sealF (d p : List UInt8) : Int × List UInt8 := if p.length = 0 then (2, []) else if 65536 < p.length then (4, []) else (0, d ++ sealB p)
def RetS (w : World) (d p : List UInt8) (e : Ending) (w' : World) : Prop :=
  ∃ a n c, e = .returned (.tuple #[.slice a n c, .int .i64 (sealF d p).1]) ∧ n = (sealF d p).2.length ∧ OwnB w.heap.size w' a c (sealF d p).2 ∧ Below w.heap.size w w'

set_option maxHeartbeats 1000000 in
theorem seal_any (d p : List UInt8) (ad ap : Option Addr) (cd cp : Nat) (w : World) (hd : BytesAt w ad d) (hp : BytesAt w ap p) (hl : p.length ≤ 1000000) (hl2 : d.length ≤ 1000000000) :
    Calls Try.prog 12 #[.slice ad d.length cd, .slice ap p.length cp] w (RetS w d p) := by
  go_enter Try.func12, Try.ntmps12
  by_cases h0 : p.length = 0
  · have hs : sealF d p = (2, []) := by simp [sealF, h0]
    go_wp2
    go_ret2
    exact ⟨none, 0, 0, by rw [hs]; rfl, by rw [hs]; rfl, by rw [hs]; exact OwnB.nil _ _, Below.refl _ _⟩
  by_cases h1 : 65536 < p.length
  · have hs : sealF d p = (4, []) := by simp [sealF, h0, h1]
    have h2 : (65536 : Int) < (p.length : Int) := by omega
    go_wp2
    go_ret2
    exact ⟨none, 0, 0, by rw [hs]; rfl, by rw [hs]; rfl, by rw [hs]; exact OwnB.nil _ _, Below.refl _ _⟩
  · have hs : sealF d p = (0, d ++ sealB p) := by simp [sealF, h0, h1]
    have h2 : ¬ (65536 : Int) < (p.length : Int) := by omega
    have hh := headOf_any p ap cp w hp (by omega)
    have hi := size_head (headB p) (headB_length p)
    have Hold : Hid ((bV [0, 0, 0, 0, 0, 0, 0, 0]).size = (bV (headB p)).size) := by rw [bV_size, bV_size, headB_length]; rfl
    have o8 := oneCell_bV (headB p)
    rw [zero8] at Hold
    go_wp2_with (first
      | (go_at_call 31; (with_reducible refine hh.mono ?_); rintro e w1 ⟨rfl, hb1⟩; have hg1 := heap_alloc_new w1 (.cells (bV [0, 0, 0, 0, 0, 0, 0, 0]) 54); rw [zero8] at hg1)
      | (with_reducible refine wpList_store_row rfl 54 (.tmp 6) (.tmp 14) rfl w1.heap.size (bV (headB p)) rfl rfl 54 _ hg1 hi Hold.out o8 ?_))
    have hb2 : Below w.heap.size w (w1.alloc (.cells #[.int .u8 0, .int .u8 0, .int .u8 0, .int .u8 0, .int .u8 0, .int .u8 0, .int .u8 0, .int .u8 0] 54)) := hb1.alloc hb1.size _
    have hb3 := below_setRow hb2 hb1.size (bV (headB p))
    have hg3 := setRow_heap _ w1.heap.size _ (bV (headB p)) 54 (0, 0) hg1
    have hs3 := setRow_size (w1.alloc (.cells #[.int .u8 0, .int .u8 0, .int .u8 0, .int .u8 0, .int .u8 0, .int .u8 0, .int .u8 0, .int .u8 0] 54)) w1.heap.size (bV (headB p))
    have hs4 : w1.heap.size + 1 = (w1.alloc (.cells #[.int .u8 0, .int .u8 0, .int .u8 0, .int .u8 0, .int .u8 0, .int .u8 0, .int .u8 0, .int .u8 0] 54)).heap.size := by simp
    rw [← hs4] at hs3
    rw [← hs3]
    generalize (w1.alloc (.cells #[.int .u8 0, .int .u8 0, .int .u8 0, .int .u8 0, .int .u8 0, .int .u8 0, .int .u8 0, .int .u8 0] 54)).setRow w1.heap.size (bV (headB p)) = w3 at *
    have hL : [(ad, cd, d), (some ⟨w1.heap.size, 0, none⟩, 8, headB p), (ap, cp, p)].length = 3 := rfl
    have hsum : lenK [(ad, cd, d), (some ⟨w1.heap.size, 0, none⟩, 8, headB p), (ap, cp, p)] 3 = d.length + 8 + p.length := by simp [lenK, headB_length]; omega
    have hcat : catK [(ad, cd, d), (some ⟨w1.heap.size, 0, none⟩, 8, headB p), (ap, cp, p)] 3 = d ++ sealB p := by simp [catK, sealB]
    have hw := hb3.alloc (o := .cells #[.slice ad d.length cd, .slice (some ⟨w1.heap.size, 0, none⟩) 8 8, .slice ap p.length cp] 22) hb3.size
    have hc := concat_any [(ad, cd, d), (some ⟨w1.heap.size, 0, none⟩, 8, headB p), (ap, cp, p)] w3.heap.size (w3.alloc (.cells #[.slice ad d.length cd, .slice (some ⟨w1.heap.size, 0, none⟩) 8 8, .slice ap p.length cp] 22))
      (heap_alloc_new _ _) (by
        intro x hx
        simp only [List.mem_cons, List.not_mem_nil, or_false] at hx
        rcases hx with rfl | rfl | rfl
        · exact hd.below (Nat.le_refl _) hw
        · exact bytesAt_bV ((heap_alloc_old _ _ (blk_lt hg3)).trans hg3)
        · exact hp.below (Nat.le_refl _) hw) (by rw [hL, hsum]; omega) (by rw [hL]; decide)
    rw [hL, hcat] at hc
    refine hc.mono ?_
    rintro e w4 ⟨a4, c4, rfl, ho4, hb4⟩
    have hsz : w.heap.size ≤ (w3.alloc (.cells #[.slice ad d.length cd, .slice (some ⟨w1.heap.size, 0, none⟩) 8 8, .slice ap p.length cp] 22)).heap.size := hw.size
    have hb5 := hw.trans (hb4.mono hsz)
    have ho5 := ho4.mono hsz
    dsimp only
    go_at_K
    go_wp2
    go_ret2
    exact ⟨a4, _, c4, by rw [hs]; rfl, by rw [hs], by rw [hs]; exact ho5, hb5⟩
end Go.Proofs.Ytggnjgnjgnlchaa
/- Walks of package frame: next, Next. -/
namespace Go.Proofs.Ytggnjgnjgnlchaa
set_option linter.unusedVariables false
set_option linter.unusedSimpArgs false
open Go.RowKit

def nxB (r : Except Nat (List UInt8 × Nat)) : List UInt8 := match r with | .ok (b, _) => b | .error _ => []
def nxE (r : Except Nat (List UInt8 × Nat)) : Int := match r with | .ok (_, e) => e | .error _ => 0
def nxX (r : Except Nat (List UInt8 × Nat)) : Int := match r with | .ok _ => 0 | .error x => x
def RetN (r : Except Nat (List UInt8 × Nat)) (w : World) (e : Ending) (w' : World) : Prop :=
  ∃ a n c, e = .returned (.tuple #[.slice a n c, .int .i64 (nxE r), .int .i64 (nxX r)]) ∧ n = (nxB r).length ∧ BytesAt w' a (nxB r) ∧ n ≤ c ∧ Below w.heap.size w w'
attribute [local go_sem high] slice8 slice8l slice8h

set_option maxHeartbeats 1000000 in
theorem next_any (p : List UInt8) (a : Option Addr) (cap : Nat) (k : Int) (w : World) (hp : BytesAt w a p) (hc : p.length ≤ cap) (hl : p.length ≤ 1000000000) (hk0 : -9223372036854775808 ≤ k) (hk1 : k ≤ 9223372036854775807) :
    Calls Try.prog 35 #[.slice a p.length cap, .int .i64 k] w (RetN (nextF p k) w) := by
  have err : ∀ x : Nat, nextF p k = .error x → RetN (nextF p k) w (.returned (.tuple #[.slice none 0 0, .int .i64 0, .int .i64 (x : Int)])) w := fun x h =>
    ⟨none, 0, 0, by rw [h]; rfl, by rw [h]; rfl, by rw [h]; exact BytesAt.nil _ _, Nat.le_refl _, Below.refl _ _⟩
  go_enter Try.func35, Try.ntmps35
  by_cases h1 : k < 0
  · have E := err 1 (by unfold nextF; rw [if_pos (.inl h1)])
    go_wp2
    go_ret3
    exact E
  have hk2 : 0 ≤ k := by omega
  by_cases h2 : (p.length : Int) < k
  · have E := err 1 (by unfold nextF; rw [if_pos (.inr h2)])
    go_wp2
    go_ret3
    exact E
  obtain ⟨m, rfl⟩ := Int.eq_ofNat_of_zero_le hk2
  have hN : nextF p (m : Int) = nextN p m := by unfold nextF; rw [if_neg (by omega)]; rfl
  rw [hN] at err ⊢
  clear hN hk0 hk1 hk2 h1
  by_cases h3 : m = p.length
  · have E := err 12 (by unfold nextN; rw [if_pos h3])
    subst h3
    go_wp2
    go_ret3
    exact E
  by_cases h4 : p.length - m < 8
  · have E := err 13 (by unfold nextN; rw [if_neg h3, if_pos h4])
    have h5 : (p.length : Int) - (m : Int) < 8 := by omega
    go_wp2
    go_ret3
    exact E
  have h5 : ¬ (p.length : Int) - (m : Int) < 8 := by omega
  have hn4 := le4_lt (p.drop m)
  have hsub := hp.sub cap m (p.length - m) (by omega) hc
  have htk : (p.drop m).take (p.length - m) = p.drop m := List.take_of_length_le (by simp)
  rw [htk] at hsub
  have hw1 := word_any (p.drop m) (subA a cap m) (cap - m) w hsub (by simp; omega) (by simp; omega)
  rw [v32_ofNat hn4, List.length_drop] at hw1
  obtain ⟨n, hn⟩ : ∃ n, n = le4 (p.drop m) := ⟨_, rfl⟩
  rw [← hn] at hw1 hn4
  have Hn := Lib.hid hn
  have HP := Lib.hid hp
  clear hn hsub htk hp
  have hm1 : (0 : Int) ≤ (m : Int) := by omega
  have hm2 : (m : Int) ≤ (p.length : Int) := by omega
  by_cases b1 : n = 0
  · have E := err 13 (by unfold nextN; rw [if_neg h3, if_neg h4]; dsimp only; rw [← Hn.out, if_pos (.inl b1)])
    subst b1
    go_wp2_with (go_at_call 46; with_reducible refine hw1.mono ?_; rintro e w1 ⟨rfl, rfl⟩)
    go_ret3
    exact E
  by_cases b2 : 65536 < n
  · have E := err 13 (by unfold nextN; rw [if_neg h3, if_neg h4]; dsimp only; rw [← Hn.out, if_pos (.inr (.inl b2))])
    have b3 : (65536 : Int) < (n : Int) := by omega
    go_wp2_with (go_at_call 46; with_reducible refine hw1.mono ?_; rintro e w1 ⟨rfl, rfl⟩)
    go_ret3
    exact E
  have b3 : ¬ (65536 : Int) < (n : Int) := by omega
  by_cases b4 : p.length - m - 8 < n
  · have E := err 13 (by unfold nextN; rw [if_neg h3, if_neg h4]; dsimp only; rw [← Hn.out, if_pos (.inr (.inr b4))])
    have b5 : (p.length : Int) - (m : Int) - 8 < (n : Int) := by omega
    go_wp2_with (go_at_call 46; with_reducible refine hw1.mono ?_; rintro e w1 ⟨rfl, rfl⟩)
    go_ret3
    exact E
  have b5 : ¬ (p.length : Int) - (m : Int) - 8 < (n : Int) := by omega
  have c1 : (0 : Int) ≤ (m : Int) + 8 := by omega
  have c2 : (m : Int) + 8 ≤ (m : Int) + 8 + (n : Int) := by omega
  have c3 : (m : Int) + 8 + (n : Int) ≤ (cap : Int) := by omega
  have b9 : (((n : Int) == 0) = false ∧ (n : Int) ≤ 65536) ∧ (n : Int) ≤ (p.length : Int) - (m : Int) - 8 := ⟨⟨by simp; omega, by omega⟩, by omega⟩
  go_wp2_with (go_at_call 46; with_reducible refine hw1.mono ?_; rintro e w1 ⟨rfl, rfl⟩)
  clear c1 c2 c3 b9
  have e1 : m + 8 + n - (m + 8) = n := by omega
  rw [e1]
  have c1 : (0 : Int) ≤ (m : Int) + 4 := by omega
  have c2 : (m : Int) ≤ (m : Int) + 4 := by omega
  have c3 : (m : Int) + 4 ≤ (cap : Int) := by omega
  have c4 : (m : Int) + 4 ≤ (p.length : Int) := by omega
  have hp := HP.out
  have s1 := hp.sub cap (m + 4) (p.length - (m + 4)) (by omega) hc
  have htk : (p.drop (m + 4)).take (p.length - (m + 4)) = p.drop (m + 4) := List.take_of_length_le (by simp)
  rw [htk] at s1
  have s2 := hp.sub cap m 4 (by omega) hc
  have s3 := hp.sub cap (m + 8) n (by omega) hc
  have l2 : ((p.drop m).take 4).length = 4 := by simp; omega
  have l3 : ((p.drop (m + 8)).take n).length = n := by simp; omega
  have l1 : (p.drop (m + 4)).length = p.length - (m + 4) := by simp
  obtain ⟨x1, hx1⟩ : ∃ x, x = BitVec.ofNat 32 (le4 (p.drop (m + 4))) := ⟨_, rfl⟩
  obtain ⟨y1, hy1⟩ : ∃ x, x = crcOf ((p.drop m).take 4) := ⟨_, rfl⟩
  obtain ⟨y2, hy2⟩ : ∃ x, x = crcUpdate y1 ((p.drop (m + 8)).take n) := ⟨_, rfl⟩
  have q1 : ∀ u : InC (Below w1.heap.size w1), Calls Try.prog 46 #[.slice (subA a cap (m + 4)) (p.length - (m + 4)) (cap - (m + 4))] u.val fun e w'' => e = .returned (.int .u32 (v32 x1 : Int)) ∧ ∃ y : InC (Below w1.heap.size w1), w'' = y.val := fun u => by
    have := word_any (p.drop (m + 4)) (subA a cap (m + 4)) (cap - (m + 4)) u.val (s1.below (Nat.le_refl _) u.property) (by rw [l1]; omega) (by rw [l1]; omega)
    rw [l1, ← hx1] at this
    exact cls_call (this.mono fun e w' ⟨he, hb'⟩ => ⟨he, by rw [hb']; exact u.property⟩)
  have q2 : ∀ u : InC (Below w1.heap.size w1), Calls Try.prog 42 #[.slice (subA a cap m) (m + 4 - m) (cap - m)] u.val fun e w'' => e = .returned (.int .u32 (v32 y1 : Int)) ∧ ∃ y : InC (Below w1.heap.size w1), w'' = y.val := fun u => by
    have := of_any ((p.drop m).take 4) (subA a cap m) (cap - m) u.val (s2.below (Nat.le_refl _) u.property) (by rw [l2]; omega)
    rw [l2, ← hy1] at this
    rw [show m + 4 - m = 4 by omega]
    exact cls_call (this.mono fun e w' ⟨he, hb'⟩ => ⟨he, u.property.trans (hb'.mono u.property.size)⟩)
  have q3 : ∀ u : InC (Below w1.heap.size w1), Calls Try.prog 41 #[.int .u32 (v32 y1 : Int), .slice (subA a cap (m + 8)) n (cap - (m + 8))] u.val fun e w'' => e = .returned (.int .u32 (v32 y2 : Int)) ∧ ∃ y : InC (Below w1.heap.size w1), w'' = y.val := fun u => by
    have := update_any y1 ((p.drop (m + 8)).take n) (subA a cap (m + 8)) (cap - (m + 8)) u.val (s3.below (Nat.le_refl _) u.property) (by rw [l3]; omega)
    rw [l3, ← hy2] at this
    exact cls_call (this.mono fun e w' ⟨he, hb'⟩ => ⟨he, u.property.trans (hb'.mono u.property.size)⟩)
  have Hx1 := Lib.hid hx1
  have Hy1 := Lib.hid hy1
  have Hy2 := Lib.hid hy2
  have hne : Nonempty (InC (Below w1.heap.size w1)) := ⟨⟨w1, Below.refl _ _⟩⟩
  have w4 : IntKind.i64.wrap ((m : Int) + 4) = (m : Int) + 4 := by rw [IntKind.wrap_i64]; omega
  have c5 : (0 : Int) ≤ (m : Int) := by omega
  clear hw1 s1 s2 htk l1 l2 hx1 hy1 hy2 hp
  refine region_quiet (Cls (Below w1.heap.size w1)) (by kernel_rfl) (by kernel_rfl) (cls_in (Below.refl _ _).drew) ?_
  repeat quiet_step ((first | exact q1 _ | exact q2 _ | exact q3 _))
  refine wpQuiet_nil ?_
  rintro w2 ⟨⟨w3, hb3⟩, hw⟩
  obtain rfl : w2 = w3 := hw
  clear q1 q2 q3 hne w4 c1 c2 c3 c4 c5
  have hkey : (BitVec.ofNat 32 (le4 (p.drop (m + 4))) = crcUpdate (crcOf ((p.drop m).take 4)) ((p.drop (m + 8)).take n)) ↔ x1 = y2 := by
    rw [Hx1.out, Hy2.out, Hy1.out]
  by_cases hxy : x1 = y2
  · have hN : nextN p m = .ok ((p.drop (m + 8)).take n, m + 8 + n) := by
      unfold nextN; rw [if_neg h3, if_neg h4]; dsimp only; rw [← Hn.out, if_neg (by omega), if_pos (hkey.mpr hxy)]
    have E : ∀ c, n ≤ c → RetN (nextN p m) w1 (.returned (.tuple #[.slice (subA a cap (m + 8)) n c, .int .i64 ((m : Int) + 8 + (n : Int)), .int .i64 0])) w2 := fun c hcc =>
      ⟨subA a cap (m + 8), n, c, by rw [hN]; simp [nxE, nxX], by rw [hN]; exact l3.symm, by rw [hN]; exact s3.below (Nat.le_refl _) hb3, hcc, hb3⟩
    have E := E (cap - (m + 8)) (by omega)
    clear hkey hN Hx1 Hy1 Hy2 s3 l3 err
    have hf : ((v32 x1 : Int) != (v32 y2 : Int)) = false := by rw [ne32, hxy]; simp
    go_wp2
    go_ret3
    exact E
  · have E := err 13 (by unfold nextN; rw [if_neg h3, if_neg h4]; dsimp only; rw [← Hn.out, if_neg (by omega), if_neg (fun h => hxy (hkey.mp h))])
    have E2 : RetN (nextN p m) w1 (.returned (.tuple #[.slice none 0 0, .int .i64 0, .int .i64 (13 : Nat)])) w2 := by
      obtain ⟨a', n', c', he, h1, h2, h3, h4⟩ := E
      exact ⟨a', n', c', he, h1, h2.below (Nat.le_refl _) hb3, h3, hb3⟩
    clear hkey Hx1 Hy1 Hy2 s3 l3 err E
    have hf : ((v32 x1 : Int) != (v32 y2 : Int)) = true := by rw [ne32]; simp [hxy]
    go_wp2
    go_ret3
    exact E2
end Go.Proofs.Ytggnjgnjgnlchaa
/- Walks: frame.Next, same, low, number, sum. -/
namespace Go.Proofs.Ytggnjgnjgnlchaa
set_option linter.unusedVariables false
set_option linter.unusedSimpArgs false
open Go.RowKit

def RetNx (r : Except Nat (List UInt8 × Nat)) (w : World) (e : Ending) (w' : World) : Prop :=
  ∃ a n c, e = .returned (.tuple #[.slice a n c, .int .i64 (nxE r), .int .i64 (nxX r)]) ∧ n = (nxB r).length ∧ OwnB w.heap.size w' a c (nxB r) ∧ Below w.heap.size w w'
theorem nxB_le (p : List UInt8) (k : Int) : (nxB (nextF p k)).length ≤ p.length := by
  cases h : nextF p k with
  | error x => simp [nxB]
  | ok r =>
    obtain ⟨b, e⟩ := r
    unfold nextF at h
    split at h
    · cases h
    · have := next_ok h
      simp only [nxB]; omega

set_option maxHeartbeats 1000000 in
theorem Next_any (p : List UInt8) (a : Option Addr) (cap : Nat) (k : Int) (w : World) (hp : BytesAt w a p) (hc : p.length ≤ cap) (hl : p.length ≤ 1000000000) (hk0 : -9223372036854775808 ≤ k) (hk1 : k ≤ 9223372036854775807) :
    Calls Try.prog 16 #[.slice a p.length cap, .int .i64 k] w (RetNx (nextF p k) w) := by
  have h1 := next_any p a cap k w hp hc hl hk0 hk1
  have hle := nxB_le p k
  generalize hr : nextF p k = r at h1 hle ⊢
  clear hr hk0 hk1
  go_enter Try.func16, Try.ntmps16
  go_wp2_with (first
    | (go_at_call 35; (with_reducible refine h1.mono ?_); rintro e w1 ⟨a1, n1, c1, rfl, rfl, hb1, hc1, hw1⟩; have h2 := clone_any (nxB r) a1 c1 w1 hb1 (by omega))
    | (go_at_call 36; (with_reducible refine h2.mono ?_); rintro e w2 ⟨a2, c2, rfl, ho2, hw2⟩))
  go_ret3
  exact ⟨a2, _, c2, rfl, rfl, ho2.mono hw1.size, hw1.trans (hw2.mono hw1.size)⟩

theorem take_ext_succ {p q : List UInt8} {k : Nat} (h : p.take k = q.take k) (hp : k < p.length) (hq : k < q.length) (he : p[k] = q[k]) : p.take (k + 1) = q.take (k + 1) := by
  rw [List.take_succ_eq_append_getElem hp, List.take_succ_eq_append_getElem hq, h, he]
set_option maxHeartbeats 400000 in
theorem same_any (p q : List UInt8) (a b : Option Addr) (ca cb : Nat) (w : World) (hp : BytesAt w a p) (hq : BytesAt w b q) (hl : p.length ≤ 1000000000) :
    Calls Try.prog 14 #[.slice a p.length ca, .slice b q.length cb] w fun e w' => e = .returned (.bool (decide (p = q))) ∧ Below w.heap.size w w' := by
  go_enter Try.func14, Try.ntmps14
  by_cases hn : p.length = q.length
  · go_wp2
    go_loopw [5] (fun i wr => ∃ k : Nat, k ≤ p.length ∧ i = .int .i64 k ∧ p.take k = q.take k ∧ Below w.heap.size w wr) (fun i _ => p.length - (intOf i).toNat)
    case atStart => exact ⟨0, by omega, rfl, by simp, Below.refl _ _⟩
    case round =>
      obtain ⟨k, hk, rfl, ht, hb⟩ := hrel
      have Ht := Lib.hid ht
      clear ht
      by_cases hlt : k < p.length
      · obtain ⟨b1, o1, rfl, hbs1, hcc1⟩ := hp.split (by intro e; subst e; simp at hlt)
        obtain ⟨b2, o2, rfl, hbs2, hcc2⟩ := hq.split (by intro e; rw [e] at hn; simp at hn; rw [hn] at hlt; simp at hlt)
        have hk1 := (hb.cell (p := ⟨b1, o1 + k, none⟩) hbs1).trans (hcc1 k hlt)
        have hk2 := (hb.cell (p := ⟨b2, o2 + k, none⟩) hbs2).trans (hcc2 k (by omega))
        have hi0 : (0 : Int) ≤ (k : Int) := by omega
        have hi1 : (k : Int) < (p.length : Int) := by omega
        have hi2 : (k : Int) < (q.length : Int) := by omega
        have hq2 : k < q.length := by omega
        by_cases he : p[k] = q[k]
        · have hne : ((p[k].toNat : Int) != (q[k].toNat : Int)) = false := by rw [he]; simp
          have hnx : p.take (k + 1) = q.take (k + 1) := take_ext_succ Ht.out hlt hq2 he
          have Hnx := Lib.hid hnx
          clear hcc1 hcc2 he hnx
          go_wp2_with fail
          go_quiet (fail)
          go_wp2
          go_roundw
          case rel => exact ⟨k + 1, by omega, by go_num, Hnx.out, hb.drewN _⟩
          case measure => simp [intOf]; omega
        · have hne : ((p[k].toNat : Int) != (q[k].toNat : Int)) = true := by
            simp only [bne_iff_ne, ne_eq, Int.natCast_inj]
            exact fun h => he (UInt8.toNat_inj.mp h)
          have hd : decide (p = q) = false := by
            simp only [decide_eq_false_iff_not]
            intro h
            subst h
            exact he rfl
          have Hd := Lib.hid hd
          clear hcc1 hcc2 he hd
          go_wp2_with fail
          go_quiet (fail)
          go_wp2
          go_ret
          exact ⟨by rw [Hd.out]; rfl, hb.drewN _⟩
      · obtain rfl : k = p.length := by omega
        have hd : decide (p = q) = true := by
          have := Ht.out
          rw [List.take_length, hn, List.take_length] at this
          simpa using this
        go_wp2
        go_ret
        exact ⟨by rw [hd]; rfl, hb⟩
  · have hd : decide (p = q) = false := by simp; intro h; exact hn (by rw [h])
    rw [hd]
    go_wp2
    go_ret
    exact ⟨rfl, Below.refl _ _⟩
end Go.Proofs.Ytggnjgnjgnlchaa
