/- Walks of the library's Clone, Grow, Concat at lists of bytes. -/
import Derived.Test.YtggnjgnjgnlchaaOwn
namespace Go.Proofs.Ytggnjgnjgnlchaa
set_option linter.unusedVariables false
set_option linter.unusedSimpArgs false
open Go.RowKit

def RetB (w : World) (p : List UInt8) (e : Ending) (w' : World) : Prop := ∃ a c, e = .returned (.slice a p.length c) ∧ OwnB w.heap.size w' a c p ∧ Below w.heap.size w w'

set_option maxHeartbeats 400000 in
theorem clone_any (p : List UInt8) (a : Option Addr) (cap : Nat) (w : World) (hp : BytesAt w a p) (hl : p.length ≤ 140737488355328) :
    Calls Try.prog 36 #[.slice a p.length cap] w (RetB w p) := by
  have hq := eqn_bytes w a p.length cap 0 0
  go_enter Try.func36, Try.ntmps36
  rcases hp.nil_or with ⟨rfl, rfl⟩ | ⟨ad, rfl⟩
  · simp only [List.length_nil, Option.isNone_none] at hq
    go_wp2
    go_ret
    exact ⟨none, 0, rfl, OwnB.nil _ _, Below.refl _ _⟩
  · have h1 := ownB_lit w [] w.heap.size (Nat.le_refl _) (by simp)
    have hb : Below w.heap.size w (w.alloc (.cells (bV []) 5)) := (Below.refl _ _).alloc (Nat.le_refl _) _
    have hp2 : BytesAt (w.alloc (.cells (bV []) 5)) (some ad) p := hp.below (Nat.le_refl _) hb
    have e0 : bV [] = #[] := rfl
    rw [e0] at h1 hb hp2
    have hs : w.heap.size ≤ (w.alloc (.cells #[] 5)).heap.size := by simp
    go_wp2_with (with_reducible refine wpList_append_bytes rfl (.tmp 5) (.tmp 6) rfl w.heap.size _ _ _ [] rfl rfl h1 _ _ _ p rfl rfl hp2 (by simpa using hl) hs ?_; intro a' c' w' ho hg hat)
    go_ret
    exact ⟨a', c', rfl, ho, below_grown hb hg (by intro k hk; simp [blkOf] at hk; omega) (Nat.le_refl _)⟩

set_option maxHeartbeats 400000 in
theorem grow_nil (n : Nat) (w : World) (hl : n ≤ 140737488355328) :
    Calls Try.prog 43 #[.slice none 0 0, .int .i64 n] w (RetB w []) := by
  go_enter Try.func43, Try.ntmps43
  by_cases h0 : n = 0
  · subst h0
    go_wp2
    go_ret
    exact ⟨none, 0, rfl, OwnB.nil _ _, Below.refl _ _⟩
  · have h1 : (0 : Int) < (n : Int) := by omega
    have ho := OwnB.nil w.heap.size w
    have hs : w.heap.size ≤ w.heap.size := Nat.le_refl _
    have hl2 : ([] : List UInt8).length + n ≤ 140737488355328 := by simpa using hl
    go_wp2_with (with_reducible refine wpList_append_zeros8 rfl (.tmp 20) (.tmp 21) rfl w.heap.size _ _ _ [] rfl rfl ho n .i64 rfl hl2 hs ?_; intro a' c' w' ho' hg hat)
    go_ret
    have := ho'.take 0
    rw [List.take_zero] at this
    exact ⟨a', c', rfl, this, below_grown (Below.refl _ _) hg (by intro k hk; simp [blkOf] at hk) (Nat.le_refl _)⟩

/-- a list of lists of bytes, as it lies -/
def slV (x : Option Addr × Nat × List UInt8) : Value := .slice x.1 x.2.2.length x.2.1
def lenK (ps : List (Option Addr × Nat × List UInt8)) (k : Nat) : Nat := ((ps.take k).map (·.2.2.length)).sum
def catK (ps : List (Option Addr × Nat × List UInt8)) (k : Nat) : List UInt8 := (ps.take k).flatMap (·.2.2)
theorem catK_length (ps : List (Option Addr × Nat × List UInt8)) (k : Nat) : (catK ps k).length = lenK ps k := by
  unfold catK lenK; rw [List.length_flatMap]
theorem catK_succ (ps : List (Option Addr × Nat × List UInt8)) (k : Nat) (h : k < ps.length) : catK ps (k + 1) = catK ps k ++ ps[k].2.2 := by
  unfold catK; rw [List.take_succ_eq_append_getElem h, List.flatMap_append]; simp
theorem lenK_succ (ps : List (Option Addr × Nat × List UInt8)) (k : Nat) (h : k < ps.length) : lenK ps (k + 1) = lenK ps k + ps[k].2.2.length := by
  rw [← catK_length, ← catK_length, catK_succ ps k h, List.length_append]
theorem lenK_mono (ps : List (Option Addr × Nat × List UInt8)) (k : Nat) (h : k ≤ ps.length) : lenK ps k ≤ lenK ps ps.length := by
  have : lenK ps ps.length = lenK ps k + ((ps.drop k).map (·.2.2.length)).sum := by
    unfold lenK; rw [List.take_length, ← List.sum_append, ← List.map_append, List.take_append_drop]
  omega
set_option maxHeartbeats 400000 in
theorem concat_any (ps : List (Option Addr × Nat × List UInt8)) (g : Nat) (w : World) (hg : w.heap[g]? = some (.cells (ps.map slV).toArray 22 (0, 0))) (hp : ∀ x ∈ ps, BytesAt w x.1 x.2.2)
    (hl : lenK ps ps.length ≤ 140737488355328) (hn : ps.length ≤ 1000000) :
    Calls Try.prog 32 #[.slice (some ⟨g, 0, none⟩) ps.length ps.length] w (RetB w (catK ps ps.length)) := by
  go_enter Try.func32, Try.ntmps32
  have hcell : ∀ W : World, W.heap[g]? = w.heap[g]? → ∀ k (h : k < ps.length), W.cell? ⟨g, k, none⟩ = some (.slice ps[k].1 ps[k].2.2.length ps[k].2.1) := fun W hW k h =>
    blk_cell (hW.trans hg) (by simp [h, slV])
  have Hcell := Lib.hid hcell
  have Hg := Lib.hid hg
  have Hp := Lib.hid hp
  have Hl := Lib.hid hl
  clear hcell hg hp hl
  go_wp2
  go_loop [3, 11] (fun x i => ∃ k : Nat, k ≤ ps.length ∧ i = .int .i64 k ∧ x = .int .i64 (lenK ps k : Int)) (fun _ i => ps.length - (intOf i).toNat)
  case atStart => exact ⟨0, by omega, rfl, rfl⟩
  case round =>
    obtain ⟨k, hk, rfl, rfl⟩ := hrel
    by_cases hlt : k < ps.length
    · have hck := Hcell.out w rfl k hlt
      have h1 := lenK_succ ps k hlt
      have h2 := lenK_mono ps (k + 1) (by omega)
      have h3 := Hl.out
      have e1 : IntKind.i64.wrap ((lenK ps k : Int) + (ps[k].2.2.length : Int)) = (lenK ps (k + 1) : Int) := by rw [h1, IntKind.wrap_i64]; omega
      have e2 : ¬ ((lenK ps (k + 1) : Int) < 0) := by omega
      clear h1 h2 h3
      go_wp2
      go_round
      case rel => exact ⟨k + 1, by omega, by go_num, rfl⟩
      case measure => simp [intOf]; omega
    · obtain rfl : k = ps.length := by omega
      have hgn := grow_nil (lenK ps ps.length) w Hl.out
      go_wp2_with (go_at_call 43; (with_reducible refine hgn.mono ?_); rintro e w1 ⟨a1, c1, rfl, ho1, hb1⟩)
      go_loopw [6, 27] (fun s i wr => ∃ (k : Nat) (a : Option Addr) (c : Nat), k ≤ ps.length ∧ i = .int .i64 k ∧ s = .slice a (catK ps k).length c ∧ OwnB w.heap.size wr a c (catK ps k) ∧ Below w.heap.size w wr) (fun _ i _ => ps.length - (intOf i).toNat)
      case atStart => exact ⟨0, a1, c1, by omega, rfl, rfl, ho1, hb1⟩
      case round =>
        clear hgn ho1 hb1
        obtain ⟨k, a, c, hk, rfl, rfl, ho, hb⟩ := hrel
        have hgl := blk_lt Hg.out
        by_cases hlt : k < ps.length
        · have hck := Hcell.out wr (hb.block g hgl) k hlt
          have hsrc := (Hp.out ps[k] (by simp)).below (Nat.le_refl _) hb
          have h1 := catK_succ ps k hlt
          have h2 : (catK ps k).length + ps[k].2.2.length ≤ 140737488355328 := by
            rw [← List.length_append, ← h1, catK_length]; exact Nat.le_trans (lenK_mono ps (k + 1) (by omega)) Hl.out
          have hbase := hb.size
          go_wp2_with (with_reducible refine wpList_append_bytes rfl (.tmp 31) (.tmp 32) rfl w.heap.size a _ c (catK ps k) rfl rfl ho _ _ _ ps[k].2.2 rfl rfl hsrc h2 hbase ?_; intro a' c' w' ho' hg' hat)
          go_roundw
          case rel =>
            rw [← h1] at ho'
            refine ⟨k + 1, a', c', by omega, by go_num, by rw [h1, List.length_append], ho', below_grown hb hg' (fun j hj => (ho.lt j hj).1) (Nat.le_refl _)⟩
          case measure => simp [intOf]; omega
        · obtain rfl : k = ps.length := by omega
          go_wp2
          go_ret
          exact ⟨a, c, rfl, ho, hb⟩
end Go.Proofs.Ytggnjgnjgnlchaa
