/- Lists of bytes that a call owns; append onto them. -/
import Derived.Test.YtggnjgnjgnlchaaProg
import Derived.Test.YtggnjgnjgnlchaaW
import Derived.Test.YtggnjgnjgnlchaaQ
import Derived.Test.YtggnjgnjgnlchaaRowW
import Derived.Maps.AppendAt
import Derived.Laws.OwnMore
namespace Go.Proofs.Ytggnjgnjgnlchaa
set_option linter.unusedVariables false
set_option linter.unusedSimpArgs false
open Go.RowKit

/-- a list of bytes in a row of its own -/
def OwnB (base : Nat) (w : World) (a : Option Addr) (c : Nat) (p : List UInt8) : Prop := w.ownsRow base 5 1 (.slice a p.length c) p.length (bV p).toList
def blkOf (a : Option Addr) : Option Nat := a.map (·.block)
theorem ownBlock_slice (a : Option Addr) (n c : Nat) : (Value.slice a n c).ownBlock = blkOf a := by cases a <;> rfl
theorem bV_append (p q : List UInt8) : (bV (p ++ q)).toList = (bV p).toList ++ (bV q).toList := by simp [bV]
theorem bV_toList_length (p : List UInt8) : (bV p).toList.length = p.length := by simp [bV]
theorem OwnB.nil (base : Nat) (w : World) : OwnB base w none 0 [] := World.ownsRow_nil w base _ 1
theorem OwnB.form {base : Nat} {w : World} {a : Option Addr} {c : Nat} {p : List UInt8} (h : OwnB base w a c p) :
    (a = none ∧ c = 0 ∧ p = []) ∨ ∃ g cur, a = some ⟨g, 0, none⟩ ∧ base ≤ g ∧ w.heap[g]? = some (.cells cur 5 (0, 0)) ∧ p.length ≤ c ∧ c ≤ maxLen ∧ cur.size = c ∧ cur.toList.take p.length = (bV p).toList := by
  rcases h.2 with ⟨hv, hn⟩ | ⟨g, cap, cur, hv, hb, hg, hnc, hcm, hcs, ht⟩
  · simp only [Value.slice.injEq] at hv
    exact .inl ⟨hv.1, hv.2.2, List.eq_nil_of_length_eq_zero hn⟩
  · simp only [Value.slice.injEq] at hv
    obtain ⟨ha, _, rfl⟩ := hv
    exact .inr ⟨g, cur, ha, hb, hg, hnc, hcm, by simpa using hcs, by simpa using ht⟩
theorem OwnB.at {base : Nat} {w : World} {a : Option Addr} {c : Nat} {p : List UInt8} (h : OwnB base w a c p) : BytesAt w a p := by
  rcases h.form with ⟨_, _, rfl⟩ | ⟨g, cur, rfl, hb, hg, _, _, hcs, ht⟩
  · exact BytesAt.nil _ _
  · by_cases hp : p = []
    · subst hp; exact BytesAt.nil _ _
    · refine .inr ⟨g, 0, rfl, (Array.getElem?_eq_some_iff.1 hg).1, fun i hi => ?_⟩
      rw [Nat.zero_add, cell_of_row w g i cur _ (0, 0) hg]
      have h1 : (bV p).toList[i]? = some (.int .u8 (p[i].toNat : Int)) := by
        rw [Array.getElem?_toList]; exact bV_get p i hi
      rw [← ht, List.getElem?_take] at h1
      simpa [hi] using h1
theorem OwnB.le {base : Nat} {w : World} {a : Option Addr} {c : Nat} {p : List UInt8} (h : OwnB base w a c p) : p.length ≤ c := by
  rcases h.form with ⟨_, _, rfl⟩ | ⟨g, cur, rfl, hb, hg, h1, _⟩
  · exact Nat.zero_le _
  · exact h1
theorem OwnB.max {base : Nat} {w : World} {a : Option Addr} {c : Nat} {p : List UInt8} (h : OwnB base w a c p) : c ≤ 9223372036854775807 := by
  rcases h.form with ⟨_, rfl, rfl⟩ | ⟨g, cur, rfl, hb, hg, _, h1, _⟩
  · exact Nat.zero_le _
  · exact h1
theorem OwnB.lt {base : Nat} {w : World} {a : Option Addr} {c : Nat} {p : List UInt8} (h : OwnB base w a c p) : ∀ k, blkOf a = some k → base ≤ k ∧ k < w.heap.size := by
  have := World.ownsRow.lt h
  rwa [ownBlock_slice] at this
theorem OwnB.below {base B : Nat} {w w' : World} {a : Option Addr} {c : Nat} {p : List UInt8} (h : OwnB base w a c p) (hB : w.heap.size ≤ B) (hb : Below B w w') : OwnB base w' a c p := by
  refine ⟨h.1, ?_⟩
  rcases h.2 with hn | ⟨g, cap, cur, hv, hbg, hg, rest⟩
  · exact .inl hn
  · exact .inr ⟨g, cap, cur, hv, hbg, by rw [hb.block g (by have := (Array.getElem?_eq_some_iff.1 hg).1; omega)]; exact hg, rest⟩
theorem OwnB.mono {base b2 : Nat} {w : World} {a : Option Addr} {c : Nat} {p : List UInt8} (h : OwnB base w a c p) (hb : b2 ≤ base) : OwnB b2 w a c p := by
  refine ⟨h.1, ?_⟩
  rcases h.2 with hn | ⟨g, cap, cur, hv, hbg, rest⟩
  · exact .inl hn
  · exact .inr ⟨g, cap, cur, hv, by omega, rest⟩
theorem OwnB.take {base : Nat} {w : World} {a : Option Addr} {c : Nat} {p : List UInt8} (h : OwnB base w a c p) (k : Nat) : OwnB base w a c (p.take k) := by
  refine ⟨by rw [bV_toList_length, Nat.mul_one], ?_⟩
  rcases h.form with ⟨rfl, rfl, rfl⟩ | ⟨g, cur, rfl, hb, hg, h1, h2, h3, h4⟩
  · exact .inl ⟨by simp, by simp⟩
  · refine .inr ⟨g, c, cur, rfl, hb, hg, Nat.le_trans (by simp; omega) h1, h2, by omega, ?_⟩
    have e : (bV (p.take k)).toList = (bV p).toList.take k := by simp [bV]
    rw [e, ← h4, List.take_take, Nat.mul_one, List.length_take]
/-- its row alone is other than it was -/
theorem OwnB.kept {base : Nat} {w w' : World} {a : Option Addr} {c : Nat} {p : List UInt8} {row : Option Nat} (h : OwnB base w a c p) (hg : w.grownBy w' row) (hne : ∀ k, blkOf a = some k → row ≠ some k) : OwnB base w' a c p := by
  refine World.ownsRow.kept h hg ?_
  rw [ownBlock_slice]
  cases e : blkOf a with
  | none => exact .inl rfl
  | some k => exact .inr fun e2 => hne k e e2.symm
theorem BytesAt.kept {w w' : World} {a : Option Addr} {p : List UInt8} {row : Option Nat} (h : BytesAt w a p) (hg : w.grownBy w' row) (hne : ∀ k, blkOf a = some k → row ≠ some k) : BytesAt w' a p := by
  rcases h with h | ⟨b, off, rfl, hb, hc⟩
  · exact .inl h
  · refine .inr ⟨b, off, rfl, Nat.lt_of_lt_of_le hb hg.size, fun i hi => ?_⟩
    rw [← hc i hi]
    exact World.cell?_of_block (hg.block b hb (fun e => hne b rfl e.symm))
theorem BytesAt.nil_or {w : World} {a : Option Addr} {p : List UInt8} (h : BytesAt w a p) : (a = none ∧ p = []) ∨ ∃ ad, a = some ad := by
  cases a with
  | some ad => exact .inr ⟨ad, rfl⟩
  | none =>
    rcases h with h | ⟨b, off, ha, _⟩
    · exact .inl ⟨rfl, h⟩
    · cases ha
theorem below_grown {B : Nat} {w0 w w' : World} {row : Option Nat} (h : Below B w0 w) (hg : w.grownBy w' row) (hrow : ∀ k, row = some k → B ≤ k) (hB : B ≤ w0.heap.size) : Below B w0 w' :=
  h.trans ⟨hg.os, hg.tape, hg.output, hg.size, fun k hk => hg.block k (by have := h.size; omega) (fun e => by have := hrow k e.symm; omega)⟩
/-- a literal's block -/
theorem ownB_lit (w : World) (p : List UInt8) (base : Nat) (hb : base ≤ w.heap.size) (hm : p.length ≤ 9223372036854775807) : OwnB base (w.alloc (.cells (bV p) 5)) (some ⟨w.heap.size, 0, none⟩) p.length p :=
  World.ownsRow_lit w (bV p) p.length hb hm (by rw [bV_size, Nat.mul_one])
theorem ownB_of_block {w : World} {g base : Nat} {p : List UInt8} (hg : w.heap[g]? = some (.cells (bV p) 5 (0, 0))) (hb : base ≤ g) (hm : p.length ≤ 9223372036854775807) : OwnB base w (some ⟨g, 0, none⟩) p.length p :=
  ⟨by rw [bV_toList_length, Nat.mul_one], .inr ⟨g, p.length, bV p, rfl, hb, hg, Nat.le_refl _, hm, by rw [bV_size, Nat.mul_one], List.take_of_length_le (by rw [bV_toList_length, Nat.mul_one]; exact Nat.le_refl _)⟩⟩

theorem info_byteA : (Try.prog.info? 5).map (fun i => (i.zero, i.size, i.bytes)) = some (some (.int .u8 0), 1, 1) := by kernel_rfl

theorem own_form {base e size : Nat} {w : World} {v : Value} {n : Nat} {xs : List Value} (h : w.ownsRow base e size v n xs) : ∃ a c, v = .slice a n c := by
  rcases h.2 with ⟨rfl, rfl⟩ | ⟨g, cap, cur, rfl, _⟩
  · exact ⟨_, _, rfl⟩
  · exact ⟨_, _, rfl⟩
/-- APPEND. -/
theorem run_append_bytes (w : World) (base : Nat) (a1 : Option Addr) (c1 : Nat) (p : List UInt8) (hown : OwnB base w a1 c1 p) (a2 : Option Addr) (c2 : Nat) (q : List UInt8) (hq : BytesAt w a2 q)
    (hlen : p.length + q.length ≤ 140737488355328) (hbase : base ≤ w.heap.size) (ty : TypeId) :
    ∃ a' c' w', (Builtin.append_ #[22, 22] ty #[.slice a1 p.length c1, .slice a2 q.length c2]).run Try.prog w = .ok (.slice a' (p.length + q.length) c') w' ∧
      OwnB base w' a' c' (p ++ q) ∧ w.grownBy w' (blkOf a1) ∧ (blkOf a' = blkOf a1 ∨ blkOf a' = some w.heap.size) := by
  obtain ⟨i, hi, hz0, hz1, hz2⟩ := info_parts info_byteA
  have main : ∀ ad : Addr, a2 = some ad → (∀ j u, (bV q).toList[j]? = some u → w.cell? (ad.add j) = some u) → _ := fun ad ha hc =>
    run_append_own_at (P := Try.prog) w base 22 ty 5 i (.int .u8 0) 1 1 Try.underlying22 hi hz0 hz1 hz2 rfl (by decide) _ _ _ hown ad q.length c2 (bV q).toList (by rw [bV_toList_length, Nat.mul_one]) hc (by intro u hu; simp only [bV, List.mem_map] at hu; obtain ⟨x, _, rfl⟩ := hu; rfl) (by simp only [maxLen]; omega) (by simpa using hlen) hbase
  have close : ∀ ad : Addr, a2 = some ad → (∀ j u, (bV q).toList[j]? = some u → w.cell? (ad.add j) = some u) → ∃ a' c' w', (Builtin.append_ #[22, 22] ty #[.slice a1 p.length c1, .slice a2 q.length c2]).run Try.prog w = .ok (.slice a' (p.length + q.length) c') w' ∧
      OwnB base w' a' c' (p ++ q) ∧ w.grownBy w' (blkOf a1) ∧ (blkOf a' = blkOf a1 ∨ blkOf a' = some w.heap.size) := fun ad ha hc => by
    obtain ⟨v', w', hr, h1, h2, h3, h4⟩ := main ad ha hc
    obtain ⟨a', c', rfl⟩ : ∃ a c, v' = .slice a (p.length + q.length) c := own_form h1
    subst ha
    rw [← bV_append] at h1
    rw [ownBlock_slice] at h2
    rw [ownBlock_slice, ownBlock_slice] at h4
    exact ⟨a', c', w', hr, by unfold OwnB; rw [List.length_append]; exact h1, h2, h4⟩
  rcases hq with rfl | ⟨b, off, rfl, hb, hc⟩
  · cases a2 with
    | some ad => exact close ad rfl (by intro j u h; simp [bV] at h)
    | none =>
      refine ⟨a1, c1, w, ?_, by simpa using hown, ⟨rfl, rfl, rfl, Nat.le_refl _, fun _ _ _ => rfl⟩, .inl rfl⟩
      rcases hown.form with ⟨rfl, rfl, rfl⟩ | ⟨g, cur, rfl, _, _, hnc, _⟩
      · simp [Builtin.append_, run_underlying Try.underlying22, sizeOf, typeInfo, hi, Builtin.lenOf, Builtin.firstCells]
      · simp [Builtin.append_, run_underlying Try.underlying22, sizeOf, typeInfo, hi, Builtin.lenOf, Builtin.firstCells, hnc, storeCells]
  · refine close _ rfl fun j u hj => ?_
    rw [addr_add]
    have hj2 : j < q.length := by
      rcases Nat.lt_or_ge j q.length with h | h
      · exact h
      · rw [List.getElem?_eq_none (by rw [bV_toList_length]; exact h)] at hj; cases hj
    rw [hc j hj2, ← hj, Array.getElem?_toList]
    exact (bV_get q j hj2).symm

/-- append at an operation of the walk -/
theorem wpList_append_bytes {w : World} {ops : Array Oper} {rest : List Oper} {o : Oper} {a : Act} {Q : Exit → Act → World → Prop} (hgd : o.guard = none) (s x : Operand)
    (ho : o.op = .call { callee := .builtin .append, args := #[s, x], argTypes := #[22, 22] })
    (base : Nat) (a1 : Option Addr) (n1 c1 : Nat) (p : List UInt8) (hs : a.eval s = .slice a1 n1 c1) (hn1 : n1 = p.length) (hown : OwnB base w a1 c1 p)
    (a2 : Option Addr) (n2 c2 : Nat) (q : List UInt8) (hx : a.eval x = .slice a2 n2 c2) (hn2 : n2 = q.length) (hq : BytesAt w a2 q)
    (hlen : p.length + q.length ≤ 140737488355328) (hbase : base ≤ w.heap.size)
    (h : ∀ a' c' w', OwnB base w' a' c' (p ++ q) → w.grownBy w' (blkOf a1) → (blkOf a' = blkOf a1 ∨ blkOf a' = some w.heap.size) → wpList Try.prog ops Q rest (a.put o.dst (.slice a' (p.length + q.length) c')) w') :
    wpList Try.prog ops Q (o :: rest) a w := by
  subst hn1
  subst hn2
  refine wpList_plain hgd fun K hK => ?_
  obtain ⟨a', c', w', hr, h2, h3, h4⟩ := run_append_bytes w base a1 c1 p hown a2 c2 q hq hlen hbase o.type
  unfold Oper.wp execOp
  simp only [ho, resolve, invoke, builtin, Sem.run_bind, Sem.run_pure, Result.andThen_ok, List.map_toArray, List.map_cons, List.map_nil, hs, hx, hr]
  exact hK _ _ (h a' c' w' h2 h3 h4)
theorem zeroCells_bytes (n : Nat) : Builtin.zeroCells (Value.int .u8 0).cells n = bV (List.replicate n 0) := by
  rw [← madeCells_bytes]
  unfold Builtin.zeroCells madeCells
  simp [Value.cells]
theorem eqn_bytes (w : World) (a : Option Addr) (n c n' c' : Nat) : (binOp .eql 22 (.slice a n c) (.slice none n' c')).run Try.prog w = .ok (.bool a.isNone) w :=
  Lib.run_eql_slice_nil w _ _ a n c n' c' Try.underlying22
/-- APPEND, of noughts. -/
theorem run_append_zeros (w : World) (base : Nat) (a1 : Option Addr) (c1 : Nat) (p : List UInt8) (hown : OwnB base w a1 c1 p) (m : Nat) (kx : IntKind)
    (hlen : p.length + m ≤ 140737488355328) (hbase : base ≤ w.heap.size) (ty : TypeId) :
    ∃ a' c' w', (Builtin.append_ #[22, 3] ty #[.slice a1 p.length c1, .int kx (m : Int)]).run Try.prog w = .ok (.slice a' (p.length + m) c') w' ∧
      OwnB base w' a' c' (p ++ List.replicate m 0) ∧ w.grownBy w' (blkOf a1) ∧ (blkOf a' = blkOf a1 ∨ blkOf a' = some w.heap.size) := by
  obtain ⟨i, hi, hz0, hz1, hz2⟩ := info_parts info_byteA
  have ht := Try.underlying22
  have hti := Try.underlying3
  have hw : IntKind.i64.wrap (m : Int) = m := by rw [IntKind.wrap_i64]; omega
  have hneg : ¬ ((m : Int) < 0) := by omega
  have hbig : ¬ (281474976710656 < (m : Int)) := by omega
  have hL : (p ++ List.replicate m (0 : UInt8)).length = p.length + m := by simp
  have grown : ∀ (old : Nat), old < p.length + m →
      OwnB base (w.drew.alloc (.cells (bV p ++ bV (List.replicate m 0) ++ Builtin.zeroCells (Value.int .u8 0).cells (grownCap w (p.length + m) old 5 - (p.length + m))) 5)) (some ⟨w.heap.size, 0, none⟩) (grownCap w (p.length + m) old 5) (p ++ List.replicate m 0) ∧
      w.grownBy (w.drew.alloc (.cells (bV p ++ bV (List.replicate m 0) ++ Builtin.zeroCells (Value.int .u8 0).cells (grownCap w (p.length + m) old 5 - (p.length + m))) 5)) (blkOf a1) := by
    intro old ho
    have hge := grownCap_ge w (p.length + m) old 5
    have hcm : grownCap w (p.length + m) old 5 ≤ maxLen := grownCap_le_maxLen w (p.length + m) old _ (by simp only [maxLen]; omega)
    refine ⟨⟨by rw [bV_toList_length, Nat.mul_one], .inr ⟨w.heap.size, _, _, rfl, hbase, heap_alloc_new w.drew _, by rw [hL]; exact hge, hcm, ?_, ?_⟩⟩, ⟨rfl, rfl, rfl, by simp, fun k hk _ => heap_alloc_old w.drew _ hk⟩⟩
    · rw [zeroCells_bytes]
      simp only [Array.size_append, bV_size, List.length_replicate]
      omega
    · rw [Nat.mul_one, hL, bV_append]
      simp only [Array.toList_append]
      have h2 : ((bV p).toList ++ (bV (List.replicate m 0)).toList).length = p.length + m := by simp [bV]
      rw [← h2]
      exact List.take_left
  have runs : ∀ (A : Option Addr) (cap : Nat), cap < p.length + m → (Builtin.firstCells 1 p.length (.slice A p.length cap)).run Try.prog w.drew = .ok (bV p) w.drew → (Builtin.append_ #[22, 3] ty #[.slice A p.length cap, .int kx m]).run Try.prog w =
      .ok (.slice (some ⟨w.heap.size, 0, none⟩) (p.length + m) (grownCap w (p.length + m) cap 5)) (w.drew.alloc (.cells (bV p ++ bV (List.replicate m 0) ++ Builtin.zeroCells (Value.int .u8 0).cells (grownCap w (p.length + m) cap 5 - (p.length + m))) 5)) := by
    intro A cap hcap hfo
    have hn : ¬ (p.length + m ≤ cap) := by omega
    have h63' : ¬ (9223372036854775807 < ((p.length : Int) + (m : Int))) := by omega
    have hfit := growslice_fits (bytes := 1) hcap (by omega)
    have h48' : ¬ (281474976710656 < Builtin.nextslicecap (p.length + m) cap) := by omega
    by_cases hm : m = 0
    · subst hm
      have hw0 : IntKind.i64.wrap 0 = 0 := by rw [IntKind.wrap_i64]; rfl
      have h0 : bV (List.replicate 0 0) = #[] := rfl
      rw [h0]
      simp only [Nat.add_zero, Int.natCast_zero, Int.add_zero] at hn h63' h48' ⊢
      simp [Builtin.append_, run_underlying ht, run_underlying hti, sizeOf, typeInfo, zeroValue, hi, hz0, hz1, hz2, asInt, asIntOf, hw0, hn, h63', h48', Question.forced, hfo, newRow, grownCap]
    · have hz := zeroCells_bytes m
      simp [Builtin.append_, run_underlying ht, run_underlying hti, sizeOf, typeInfo, zeroValue, hi, hz0, hz1, hz2, asInt, asIntOf, hw, hneg, hbig, hn, h63', h48', Question.forced, hfo, newRow, grownCap, hm, hz]
  rcases hown.form with ⟨rfl, rfl, rfl⟩ | ⟨g, cur, rfl, hbg, hg, hnc, hcm, hcs, htake⟩
  · by_cases hm : m = 0
    · subst hm
      have hw0 : IntKind.i64.wrap 0 = 0 := by rw [IntKind.wrap_i64]; rfl
      refine ⟨none, 0, w, ?_, OwnB.nil _ _, ⟨rfl, rfl, rfl, Nat.le_refl _, fun _ _ _ => rfl⟩, .inl rfl⟩
      simp [Builtin.append_, run_underlying ht, run_underlying hti, sizeOf, typeInfo, hi, asInt, asIntOf, hw0, hz1]
    · have hgr := grown 0 (by simp; omega)
      exact ⟨_, _, _, runs none 0 (by simp; omega) (by simp [Builtin.firstCells, bV]), hgr.1, hgr.2, .inr rfl⟩
  · by_cases hroom : p.length + m ≤ c1
    · have hst := run_storeCells_at Try.prog g p.length 5 (bV (List.replicate m 0)).toList 0 cur w hg (by rw [bV_toList_length, List.length_replicate]; omega) (by intro u hu; simp only [bV, List.mem_map] at hu; obtain ⟨x, _, rfl⟩ := hu; rfl)
      simp only [Nat.add_zero] at hst
      refine ⟨some ⟨g, 0, none⟩, c1, _, ?_, ⟨by rw [bV_toList_length, Nat.mul_one], .inr ⟨g, c1, _, rfl, hbg, setRow_heap w g cur (cur.toList.take p.length ++ (bV (List.replicate m 0)).toList ++ cur.toList.drop (p.length + (bV (List.replicate m 0)).toList.length)).toArray 5 _ hg, by rw [hL]; exact hroom, hcm, ?_, ?_⟩⟩, ⟨rfl, rfl, rfl, by simp, fun k _ hk => setRow_other w g k _ (fun e => hk (by simp [blkOf, e]))⟩, .inl rfl⟩
      · by_cases hm : m = 0
        · subst hm
          have hw0 : IntKind.i64.wrap 0 = 0 := by rw [IntKind.wrap_i64]; rfl
          have h0 : (bV (List.replicate 0 0)).toList = [] := rfl
          rw [h0] at hst ⊢
          simp [Builtin.append_, run_underlying ht, run_underlying hti, sizeOf, typeInfo, hi, asInt, asIntOf, hw0, hnc, Addr.add_lit, hst, hz1]
        · have hz := zeroCells_bytes m
          simp [Builtin.append_, run_underlying ht, run_underlying hti, sizeOf, typeInfo, zeroValue, hi, hz0, hz1, hz2, asInt, asIntOf, hw, hneg, hbig, hroom, hm, hz, Addr.add_lit, hst]
      · simp only [List.size_toArray, List.length_append, List.length_take, List.length_drop, Array.length_toList, bV_size, List.length_replicate]
        omega
      · rw [htake, Nat.mul_one, hL, bV_append]
        simp only [List.append_assoc]
        rw [← List.append_assoc]
        have h2 : ((bV p).toList ++ (bV (List.replicate m 0)).toList).length = p.length + m := by simp [bV]
        rw [← h2]
        exact List.take_left
    · have hgr := grown c1 (by omega)
      have holds : ∀ j u, (bV p).toList[j]? = some u → w.cell? ((⟨g, 0, none⟩ : Addr).add j) = some u := World.ownsRow.cells (g := g) hown rfl
      have hfc := run_firstCells_some (P := Try.prog) w.drew 1 p.length _ p.length c1 (bV p).toList (by rw [bV_toList_length, Nat.mul_one]) (by simpa using holds)
      exact ⟨_, _, _, runs (some ⟨g, 0, none⟩) c1 (by omega) (by simpa using hfc), hgr.1, hgr.2, .inr rfl⟩
theorem wpList_append_zeros8 {w : World} {ops : Array Oper} {rest : List Oper} {o : Oper} {a : Act} {Q : Exit → Act → World → Prop} (hgd : o.guard = none) (s x : Operand)
    (ho : o.op = .call { callee := .builtin .append, args := #[s, x], argTypes := #[22, 3] })
    (base : Nat) (a1 : Option Addr) (n1 c1 : Nat) (p : List UInt8) (hs : a.eval s = .slice a1 n1 c1) (hn1 : n1 = p.length) (hown : OwnB base w a1 c1 p)
    (m : Nat) (kx : IntKind) (hx : a.eval x = .int kx (m : Int))
    (hlen : p.length + m ≤ 140737488355328) (hbase : base ≤ w.heap.size)
    (h : ∀ a' c' w', OwnB base w' a' c' (p ++ List.replicate m 0) → w.grownBy w' (blkOf a1) → (blkOf a' = blkOf a1 ∨ blkOf a' = some w.heap.size) → wpList Try.prog ops Q rest (a.put o.dst (.slice a' (p.length + m) c')) w') :
    wpList Try.prog ops Q (o :: rest) a w := by
  subst hn1
  refine wpList_plain hgd fun K hK => ?_
  obtain ⟨a', c', w', hr, h2, h3, h4⟩ := run_append_zeros w base a1 c1 p hown m kx hlen hbase o.type
  unfold Oper.wp execOp
  simp only [ho, resolve, invoke, builtin, Sem.run_bind, Sem.run_pure, Result.andThen_ok, List.map_toArray, List.map_cons, List.map_nil, hs, hx, hr]
  exact hK _ _ (h a' c' w' h2 h3 h4)
theorem size8 (w : World) : (sizeOf (Try.prog.elem 22)).run Try.prog w = .ok 1 w := by
  have he : Try.prog.elem 22 = 5 := by kernel_rfl
  rw [he]
  obtain ⟨i, hi, hz0, hz1, hz2⟩ := info_parts info_byteA
  simp [sizeOf, typeInfo, hi, hz1]
theorem slice8 (w : World) (a : Option Addr) (len cap : Nat) (l h : Int) (h0 : 0 ≤ l) (h1 : l ≤ h) (h2 : h ≤ cap) :
    (Instr.slice 22 (.slice a len cap) (some (.int .i64 l)) (some (.int .i64 h)) none).run Try.prog w = .ok (.slice (subA a cap l.toNat) (h.toNat - l.toNat) (cap - l.toNat)) w := by
  rw [run_slice_lh w 22 a len cap (by kernel_rfl) .i64 .i64 l h h0 h1 h2, size8]
  simp [Result.andThen, sliced_sub]
theorem slice8l (w : World) (a : Option Addr) (len cap : Nat) (l : Int) (h0 : 0 ≤ l) (h1 : l ≤ len) :
    (Instr.slice 22 (.slice a len cap) (some (.int .i64 l)) none none).run Try.prog w = .ok (.slice (subA a cap l.toNat) (len - l.toNat) (cap - l.toNat)) w := by
  rw [run_slice_l w 22 a len cap (by kernel_rfl) .i64 l h0 h1, size8]
  simp [Result.andThen, sliced_sub]
theorem slice8h (w : World) (a : Option Addr) (len cap : Nat) (h : Int) (h0 : 0 ≤ h) (h2 : h ≤ cap) :
    (Instr.slice 22 (.slice a len cap) none (some (.int .i64 h)) none).run Try.prog w = .ok (.slice a h.toNat cap) w := by
  rw [run_slice_h w 22 a len cap (by kernel_rfl) .i64 h h0 h2, size8]
  simp [Result.andThen, sliced_sub, subA_zero]
theorem acc_call {B : Nat} {w wc w' : World} (h : Below B w wc) (hb : Below wc.heap.size wc w') (hB : B ≤ w.heap.size) : Below B w w' := h.trans (hb.mono (by have := h.size; omega))
theorem acc_new {B : Nat} {w wc w' : World} {o : Obj} (h : Below B w wc) (hb : Below (wc.alloc o).heap.size (wc.alloc o) w') (hB : B ≤ w.heap.size) : Below B w w' :=
  (h.alloc (by have := h.size; omega) o).trans (hb.mono (by have := h.size; simp; omega))
/-- behind a new block and a call -/
theorem below_new {w wc w' : World} {o : Obj} (hb : Below (wc.alloc o).heap.size (wc.alloc o) w') : Below wc.heap.size wc w' := ((Below.refl wc.heap.size wc).alloc (Nat.le_refl _) o).trans (hb.mono (by simp))
end Go.Proofs.Ytggnjgnjgnlchaa
