/- Walks: Scan's closure, at a loop's rounds. -/
import Derived.RangeFuncBox
import Derived.RangeFuncLeaves
import Derived.RangeFuncNested
import Derived.RangeFuncBound
import Derived.RangeFuncCalls
import Derived.Shelf.Abstract
import Derived.Shelf.RegionOpen
import Derived.WalkKit
import Derived.OwnWalkIn
import Derived.TacticsInMore
import Derived.LoopNIn
import Derived.LoopIn
import Derived.Test.YtggnjgnjgnlchaaFrF
namespace Go.Proofs.Ytggnjgnjgnlchaa
set_option linter.unusedVariables false
set_option linter.unusedSimpArgs false
open Go.RowKit Go.Shelf
attribute [local go_sem] Oper.semAt_some

theorem scanF_fuel (p : List UInt8) : ∀ (f1 f2 k : Nat), p.length < f1 + k → p.length < f2 + k → scanF p f1 k = scanF p f2 k
  | 0, 0, _, _, _ => rfl
  | 0, f2 + 1, k, h1, h2 => by
    have : nextN p k = .error 13 ∨ ∃ x, nextN p k = .error x := by
      cases h : nextN p k with
      | error x => exact .inr ⟨x, rfl⟩
      | ok r => obtain ⟨b, e⟩ := r; have := next_ok h; omega
    rcases this with h | ⟨x, h⟩ <;> simp [scanF, h]
  | f1 + 1, 0, k, h1, h2 => by
    have : ∃ x, nextN p k = .error x := by
      cases h : nextN p k with
      | error x => exact ⟨x, rfl⟩
      | ok r => obtain ⟨b, e⟩ := r; have := next_ok h; omega
    obtain ⟨x, h⟩ := this
    simp [scanF, h]
  | f1 + 1, f2 + 1, k, h1, h2 => by
    cases h : nextN p k with
    | error x => simp [scanF, h]
    | ok r =>
      obtain ⟨b, e⟩ := r
      have hk := next_ok h
      simp only [scanF, h]
      rw [scanF_fuel p f1 f2 e (by omega) (by omega)]
/-- the frames from a place on -/
def scanK (p : List UInt8) (k : Nat) : List (Nat × List UInt8) := scanF p (p.length + 1) k
theorem scanL_eq (p : List UInt8) : scanL p = scanK p 0 := rfl
theorem scanK_ok {p : List UInt8} {k : Nat} {b : List UInt8} {e : Nat} (h : nextN p k = .ok (b, e)) : scanK p k = (k, b) :: scanK p e := by
  have hk := next_ok h
  unfold scanK
  conv => lhs; unfold scanF
  rw [h]
  simp only
  rw [scanF_fuel p p.length (p.length + 1) e (by omega) (by omega)]
theorem scanK_err {p : List UInt8} {k : Nat} {x : Nat} (h : nextN p k = .error x) : scanK p k = [] := by
  unfold scanK scanF; rw [h]
theorem nextF_nat (p : List UInt8) (k : Nat) (h : k ≤ p.length) : nextF p (k : Int) = nextN p k := by
  unfold nextF; rw [if_neg (by omega)]; rfl

theorem next_err {p : List UInt8} {k : Nat} {x : Nat} (h : nextN p k = .error x) : x = 12 ∨ x = 13 := by
  unfold nextN at h
  split at h
  · cases h; exact .inl rfl
  split at h
  · cases h; exact .inr rfl
  dsimp only at h
  split at h
  · cases h; exact .inr rfl
  split at h
  · cases h
  · cases h; exact .inr rfl
theorem retN_err {x : Nat} {w w' : World} {e : Ending} (h : RetN (.error x) w e w') : ∃ a c, e = .returned (.tuple #[.slice a 0 c, .int .i64 0, .int .i64 (x : Int)]) ∧ Below w.heap.size w w' := by
  obtain ⟨a, n, c, he, rfl, _, _, hw⟩ := h
  exact ⟨a, c, he, hw⟩
theorem retN_ok {b : List UInt8} {k : Nat} {w w' : World} {e : Ending} (h : RetN (.ok (b, k)) w e w') : ∃ a c, e = .returned (.tuple #[.slice a b.length c, .int .i64 (k : Int), .int .i64 0]) ∧ BytesAt w' a b ∧ Below w.heap.size w w' := by
  obtain ⟨a, n, c, he, rfl, hb, _, hw⟩ := h
  exact ⟨a, c, he, hb, hw⟩
theorem grownBy_below {w w' : World} (h : Below w.heap.size w w') : w.grownBy w' none := ⟨h.os, h.tape, h.output, h.size, fun k hk _ => h.block k hk⟩
structure Fr where
  at_ : Nat
  a : Option Addr
  n : Nat
  c : Nat
def encF (x : Fr) : Array Value := #[.int .i64 (x.at_ : Int), .slice x.a x.n x.c]
def Fr.key (x : Fr) : Nat × Nat := (x.at_, x.n)
def keyL (x : Nat × List UInt8) : Nat × Nat := (x.1, x.2.length)
/-- so much has come, the rest from k on is yet to come -/
def Came (p : List UInt8) (pre : List Fr) (k : Nat) : Prop := pre.map Fr.key ++ (scanK p k).map keyL = (scanK p 0).map keyL ∧ pre.length ≤ k ∧ k ≤ p.length

theorem came_step {p : List UInt8} {pre : List Fr} {k : Nat} {b : List UInt8} {e : Nat} (h : Came p pre k) (hr : nextN p k = .ok (b, e)) (a : Option Addr) (c : Nat) : Came p (pre ++ [⟨k, a, b.length, c⟩]) e := by
  have hk := next_ok hr
  obtain ⟨h1, h2, h3⟩ := h
  refine ⟨?_, ?_, hk.2.1⟩
  · rw [scanK_ok hr] at h1
    simpa [Fr.key, keyL] using h1
  · simp; omega
theorem came_pre {p : List UInt8} {pre : List Fr} {k : Nat} (h : Came p pre k) : pre.map Fr.key <+: (scanK p 0).map keyL := ⟨_, h.1⟩
/-- the blocks of a range are as they were -/
structure Keep (lo hi : Nat) (W W' : World) : Prop where
  size : W.heap.size ≤ W'.heap.size
  block : ∀ k, lo ≤ k → k < hi → W'.heap[k]? = W.heap[k]?
theorem Keep.refl (lo hi : Nat) (W : World) : Keep lo hi W W := ⟨Nat.le_refl _, fun _ _ _ => rfl⟩
theorem Keep.trans {lo hi : Nat} {A B C : World} (h : Keep lo hi A B) (k : Keep lo hi B C) : Keep lo hi A C := ⟨Nat.le_trans h.size k.size, fun i h1 h2 => (k.block i h1 h2).trans (h.block i h1 h2)⟩
theorem Keep.below {lo hi B : Nat} {A C : World} (h : Below B A C) (hB : hi ≤ B) : Keep lo hi A C := ⟨h.size, fun i _ h2 => h.block i (by omega)⟩
theorem Keep.bytes {lo hi : Nat} {W W' : World} {a : Option Addr} {p : List UInt8} (h : Keep lo hi W W') (hp : BytesAt W a p) (hb : ∀ k, blkOf a = some k → lo ≤ k ∧ k < hi) : BytesAt W' a p := by
  rcases hp with hp | ⟨b, off, rfl, hbs, hc⟩
  · exact .inl hp
  · have := hb b rfl
    exact .inr ⟨b, off, rfl, Nat.lt_of_lt_of_le hbs h.size, fun i hi => by rw [← hc i hi]; exact World.cell?_of_block (h.block b this.1 this.2)⟩
set_option maxRecDepth 100000 in
set_option maxHeartbeats 2000000 in
theorem scan1_round (n : Nat) (hn : 1 ≤ n) (l Bs lo hi : Nat) (a : Option Addr) (c : Nat) (p : List UInt8) (hl : p.length ≤ 1000000000) (hpc : p.length ≤ c) (hBl : lo ≤ Bs) (hBn : Bs < hi) (J Jx : List Fr → World → Prop) (W : World) (hn0 : hi ≤ W.heap.size)
    (hJ : AbidesFrom W.heap.size J)
    (hY : ∀ pre x W1, J pre W1 → pre.length < p.length + 1 → YieldAt Fence.wide (n - 1) Try.prog l (encF x) W1 fun e W' =>
      (e = .returned (.bool true) ∧ J (pre ++ [x]) W' ∧ Keep lo hi W1 W') ∨ (e = .returned (.bool false) ∧ Jx (pre ++ [x]) W'))
    (hBs : W.cell? ⟨Bs, 0, none⟩ = some (.slice a p.length c)) (hp : BytesAt W a p) (hpb : ∀ k, blkOf a = some k → lo ≤ k ∧ k < hi) (h0 : J [] W) :
    CallsIn Fence.wide n Try.prog 38 #[.func (.yield l) #[] #[], .pointer (some ⟨Bs, 0, none⟩)] W fun e W' => (∃ v, e = .returned v) ∧
      ((∃ ys : List Fr, ys.map Fr.key = (scanK p 0).map keyL ∧ J ys W') ∨ (∃ pre : List Fr, pre.map Fr.key <+: (scanK p 0).map keyL ∧ Jx pre W')) := by
  refine callsIn_of_wp Try.func38 rfl trivial ?_ rfl
  simp only [Try.ntmps38, List.size_toArray, List.length_cons, List.length_nil, Nat.reduceAdd, Nat.reduceSub, Array.replicate_succ, Array.replicate_zero, List.push_toArray, List.append_toArray, List.nil_append, List.cons_append]
  gi_wp2
  gi_loopw [3] (fun i wr => ∃ (k : Nat) (pre : List Fr), i = .int .i64 k ∧ Came p pre k ∧ J pre wr ∧ Keep lo hi W wr)
    (fun i _ => p.length + 1 - (intOf i).toNat)
  case atStart => exact ⟨0, [], rfl, ⟨by simp, by simp, by simp⟩, h0, Keep.refl _ _ _⟩
  case round =>
    obtain ⟨k, pre, rfl, hcm, hJs, hb⟩ := hrel
    have hcx : wr.cell? ⟨Bs, 0, none⟩ = some (.slice a p.length c) := (World.cell?_of_block (hb.block Bs hBl hBn)).trans hBs
    have h1 := next_any p a c k wr (hb.bytes hp hpb) hpc hl (by omega) (by have := hcm.2.2; omega)
    rw [nextF_nat p k hcm.2.2] at h1
    cases hr : nextN p k with
    | error x =>
      rw [hr] at h1
      have hx := next_err hr
      have hx0 : ((x : Int) == 0) = false := by rcases hx with rfl | rfl <;> rfl
      have hx1 : ((x : Int) != 0) = true := by rcases hx with rfl | rfl <;> rfl
      have hx2 : ¬ ((x : Int) = 0) := by rcases hx with rfl | rfl <;> omega
      have h2 := h1.mono fun e w' h => retN_err h
      clear hx h1
      gi_wp2_with (refine ⟨trivial, ?_⟩; gi_at_call 35; refine (callsIn_wide.2 h2).mono ?_; rintro e w1 ⟨a1, c1, rfl, hw1⟩)
      have hJ1 : J pre w1 := hJ pre wr w1 none hJs (grownBy_below hw1) (by intro r h; cases h)
      have hfin : pre.map Fr.key = (scanK p 0).map keyL := by
        have := hcm.1; rw [scanK_err hr] at this; simpa using this
      refine ⟨trivial, ?_⟩
      go_at_K
      gi_wp2
      refine ⟨fun _ h => (by cases h), ?_⟩
      go_at_K
      gi_wp2
      all_goals
        refine bodyPost_ret (results_none rfl _ _ _) rfl ?_
        exact ⟨⟨_, rfl⟩, .inl ⟨pre, hfin, hJ1⟩⟩
    | ok r =>
      obtain ⟨b, e⟩ := r
      rw [hr] at h1
      have h2 := h1.mono fun e w' h => retN_ok h
      clear h1
      have hk := next_ok hr
      have hpl := hcm.2.1
      have hpk := hcm.2.2
      have hlen : pre.length < p.length + 1 := by omega
      gi_wp2_with (first
        | (refine ⟨trivial, ?_⟩; gi_at_call 35; refine (callsIn_wide.2 h2).mono ?_; rintro e w1 ⟨a1, c1, rfl, hb1, hw1⟩; have h3 := clone_any b a1 c1 w1 hb1 (by omega))
        | (refine ⟨trivial, ?_⟩; gi_at_call 36; refine (callsIn_wide.2 h3).mono ?_; rintro e w2 ⟨a2, c2, rfl, ho2, hw2⟩; have hJ2 : J pre w2 := hJ pre _ w2 none (hJ pre wr w1 none hJs (grownBy_below hw1) (by intro r h; cases h)) (grownBy_below hw2) (by intro r h; cases h); obtain ⟨fn, tmps, assign, body, hy, hR⟩ := hY pre ⟨k, a2, b.length, c2⟩ w2 hJ2 hlen; dsimp only [encF] at hy))
      refine hR.mono ?_
      have hcm2 := came_step hcm hr a2 c2
      rintro e' W3 (⟨rfl, hJ3, hk3⟩ | ⟨rfl, hJx3⟩)
      · have hb3 : Keep lo hi W W3 := ((hb.trans (Keep.below hw1 (by have := hb.size; omega))).trans (Keep.below hw2 (by have := hb.size; have := hw1.size; omega))).trans hk3
        gi_wp2
        go_roundw
        case rel => exact ⟨e, _, rfl, hcm2, hJ3, hb3⟩
        case measure => simp [intOf]; omega
      · gi_wp2
        refine bodyPost_ret (results_none rfl _ _ _) rfl ?_
        exact ⟨⟨_, rfl⟩, .inr ⟨_, came_pre hcm2, hJx3⟩⟩

/-- Scan: a clone in a box. -/
def RetScan (w : World) (p : List UInt8) (e : Ending) (w' : World) : Prop :=
  ∃ a c, e = .returned (.func (.func 38) #[] #[.pointer (some ⟨w.heap.size, 0, none⟩)]) ∧ OwnB (w.heap.size + 1) w' a c p ∧ w'.heap[w.heap.size]? = some (.cells #[.slice a p.length c] 22 (0, 0)) ∧ Below w.heap.size w w'
set_option maxHeartbeats 1000000 in
theorem scan_any (p : List UInt8) (a : Option Addr) (cap : Nat) (w : World) (hp : BytesAt w a p) (hl : p.length ≤ 1000000000) :
    Calls Try.prog 20 #[.slice a p.length cap] w (RetScan w p) := by
  have hb0 : Below w.heap.size w (w.alloc (.cells #[.slice a p.length cap] 22)) := (Below.refl _ _).alloc (Nat.le_refl _) _
  have h1 := clone_any p a cap (w.alloc (.cells #[.slice a p.length cap] 22)) (hp.below (Nat.le_refl _) hb0) (by omega)
  have hn := heap_alloc_new w (.cells #[.slice a p.length cap] 22)
  go_enter Try.func20, Try.ntmps20
  go_wp2_with (go_at_call 36; (with_reducible refine h1.mono ?_); rintro e w1 ⟨a1, c1, rfl, ho1, hb1⟩; have hn1 := (hb1.block w.heap.size (by simp)).trans hn; have hc1 := blk_cell hn1 (i := 0) rfl; have hf1 : w1.frozen? ⟨w.heap.size, 0, none⟩ = false := blk_free hn1)
  go_ret
  have hg : w1.grownBy (w1.setCell ⟨w.heap.size, 0, none⟩ (.slice a1 p.length c1)) (some w.heap.size) := ⟨rfl, rfl, rfl, by simp [World.setCell], fun k hk hne => blk_ne (fun e => hne (by rw [e])) _⟩
  have ho2 : OwnB (w.heap.size + 1) w1 a1 c1 p := ho1.mono (by simp)
  exact ⟨a1, c1, rfl, ho2.kept hg (fun k hk => by have := ho2.lt k hk; intro e; cases e; omega), blk_set hn1 _, (hb0.trans (hb1.mono (by simp))).setCell (p := ⟨w.heap.size, 0, none⟩) (Nat.le_refl _) _⟩
end Go.Proofs.Ytggnjgnjgnlchaa
