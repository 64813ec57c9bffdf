/- Walks of the program's own sums of bytes (package crc): the table, the eight steps of a byte. -/
import Derived.Test.YtggnjgnjgnlchaaProg
import Derived.Test.YtggnjgnjgnlchaaM
namespace Go.Proofs.Ytggnjgnjgnlchaa
set_option linter.unusedVariables false
set_option linter.unusedSimpArgs false
open Go.RowKit
theorem xP (x : BitVec 32) : bits .xor .u32 (v32 x : Int) (2197175160 : Int) = (v32 (x ^^^ 2197175160#32) : Int) := by
  have h : (2197175160 : Int) = (v32 (2197175160#32) : Int) := by decide
  rw [h, x32]
attribute [local go_sem] x32 n32 a32_15 a32_1 a32_1b s32_4 s32_1 xP

/-- the four-step table -/
def tab (i : Nat) : BitVec 32 := step4 (BitVec.ofNat 32 i)
theorem tab_and (x : BitVec 32) : tab (v32 (x &&& 15#32)) = step4 (x &&& 15#32) := by
  unfold tab v32
  rw [BitVec.ofNat_toNat, BitVec.setWidth_eq]
theorem and15 (x : BitVec 32) : v32 (x &&& 15#32) < 16 := by
  unfold v32
  rw [BitVec.toNat_and]
  have := Nat.and_le_right (n := x.toNat) (m := (15#32).toNat)
  have e : (15#32).toNat = 15 := rfl
  omega

set_option maxHeartbeats 400000 in
theorem steps_any (b : Nat) (s : BitVec 32) (w : World)
    (hc : ∀ i : Nat, i < 16 → w.cell? ⟨b, i, none⟩ = some (.int .u32 (v32 (tab i) : Int))) :
    Calls Try.prog 48 #[.pointer (some ⟨b, 0, none⟩), .int .u32 (v32 s : Int)] w fun e w' => e = .returned (.int .u32 (v32 (step8 s) : Int)) ∧ w' = w := by
  have g1 := hc _ (and15 s)
  have b1 := and15 s
  have g2 := hc _ (and15 (step4 s))
  have b2 := and15 (step4 s)
  rw [tab_and] at g1 g2
  have H1 : (step4 (s &&& 15#32) ^^^ s >>> 4) = step4 s := (step4_split s).symm
  have H2 : (step4 (step4 s &&& 15#32) ^^^ step4 s >>> 4) = step8 s := (step4_split (step4 s)).symm
  clear hc
  go_enter Try.func48, Try.ntmps48
  go_wp2
  go_ret
  exact ⟨rfl, rfl⟩

/-- the table while it is filled -/
def mix (k : Nat) : Array Value := ((List.range 16).map fun i => if i < k then Value.int .u32 (v32 (tab i) : Int) else Value.int .u32 0).toArray
theorem mix_size (k : Nat) : (mix k).size = 16 := by simp [mix]
theorem mix_zero : mix 0 = #[.int .u32 0, .int .u32 0, .int .u32 0, .int .u32 0, .int .u32 0, .int .u32 0, .int .u32 0, .int .u32 0, .int .u32 0, .int .u32 0, .int .u32 0, .int .u32 0, .int .u32 0, .int .u32 0, .int .u32 0, .int .u32 0] := rfl
theorem mix_one (k : Nat) : (mix k).all (·.oneCell') = true := by
  rw [Array.all_eq_true_iff_forall_mem]
  intro x hx
  unfold mix at hx
  simp only [List.mem_toArray, List.mem_map] at hx
  obtain ⟨i, _, rfl⟩ := hx
  split <;> rfl
theorem mix_set (k : Nat) : (mix k).setIfInBounds k (.int .u32 (v32 (tab k) : Int)) = mix (k + 1) := by
  apply Array.ext
  · simp [mix_size]
  · intro i h1 h2
    simp only [mix_size] at h2
    rw [Array.getElem_setIfInBounds (by simpa [mix_size] using h2)]
    by_cases e : k = i
    · subst e; simp [mix]
    · have : (i < k + 1) = (i < k) := by simp; omega
      simp [e, this, mix]
/-- s, stepped so often -/
def stepN (s : BitVec 32) : Nat → BitVec 32
  | 0 => s
  | j + 1 => step1 (stepN s j)
theorem stepN4 (k : Nat) : stepN (BitVec.ofNat 32 k) 4 = tab k := rfl
theorem stepN_yes (s : BitVec 32) (j : Nat) (h : odd32 (stepN s j) = true) : stepN s j >>> 1 ^^^ 2197175160#32 = stepN s (j + 1) := by
  show _ = step1 (stepN s j)
  unfold odd32 at h; unfold step1; rw [h]; rfl
theorem stepN_no (s : BitVec 32) (j : Nat) (h : odd32 (stepN s j) = false) : stepN s j >>> 1 = stepN s (j + 1) := by
  show _ = step1 (stepN s j)
  unfold odd32 at h; unfold step1; rw [h]; simp
theorem word_nat {k : Nat} (h : k < 16) : (k : Int) = (v32 (stepN (BitVec.ofNat 32 k) 0) : Int) := by
  show _ = ((BitVec.ofNat 32 k).toNat : Int)
  rw [BitVec.toNat_ofNat]; omega
abbrev Z16 : Obj := .cells (mix 0) 64

set_option maxHeartbeats 400000 in
theorem halves_any (w : World)  :
    Calls Try.prog 47 #[] w fun e w' => e = .returned (.agg (mix 16)) ∧ Below w.heap.size w w' := by
  go_enter Try.func47, Try.ntmps47
  go_wp2
  rw [← mix_zero]
  go_loopw [4] (fun i wr => ∃ k : Nat, k ≤ 16 ∧ i = .int .i64 k ∧ wr = (w.alloc Z16).alloc (.cells (mix k) 64)) (fun i _ => 16 - (intOf i).toNat)
  case atStart => exact ⟨0, by omega, rfl, rfl⟩
  case round =>
    obtain ⟨k, hk, rfl, rfl⟩ := hrel
    by_cases hlt : k < 16
    · go_wp2
      go_loop [3, 9] (fun s j => ∃ q : Nat, q ≤ 4 ∧ j = .int .i64 q ∧ s = .int .u32 (v32 (stepN (BitVec.ofNat 32 k) q) : Int)) (fun _ j => 4 - (intOf j).toNat)
      case atStart => exact ⟨0, by omega, rfl, by rw [word_nat hlt]⟩
      case round =>
        obtain ⟨q, hq, rfl, rfl⟩ := hrel
        by_cases hqt : q < 4
        · cases hb : odd32 (stepN (BitVec.ofNat 32 k) q)
          · have H := stepN_no _ q hb
            go_wp2
            go_round
            case rel => exact ⟨q + 1, by omega, by go_num, rfl⟩
            case measure => simp [intOf]; omega
          · have H := stepN_yes _ q hb
            go_wp2
            go_round
            case rel => exact ⟨q + 1, by omega, by go_num, rfl⟩
            case measure => simp [intOf]; omega
        · obtain rfl : q = 4 := by omega
          have ht := stepN4 k
          have hset := mix_set k
          have hs := mix_size k
          go_wp2
          go_roundw
          case rel => exact ⟨k + 1, by omega, by go_num, rfl⟩
          case measure => simp [intOf]; omega
    · obtain rfl : k = 16 := by omega
      have hall : (mix 16).all (·.oneCell') = true := mix_one 16
      have hi : (Try.prog.info? 64).map (·.size) = some (mix 16).size := by rw [mix_size]; kernel_rfl
      have hg1 : ((w.alloc Z16).alloc (.cells (mix 16) 64)).heap[w.heap.size + 1]? = some (.cells (mix 16) 64 (0, 0)) := heap_alloc2_new w _ _
      have hg0 : ((w.alloc Z16).alloc (.cells (mix 16) 64)).heap[w.heap.size]? = some (.cells (mix 0) 64 (0, 0)) := heap_alloc2_old w _ _
      have hb : Below w.heap.size w ((w.alloc Z16).alloc (.cells (mix 16) 64)) := ((Below.refl _ _).alloc (Nat.le_refl _) _).alloc (by simp) _
      have hs : w.heap.size + 1 < ((w.alloc Z16).alloc (.cells (mix 16) 64)).heap.size := by simp
      generalize ((w.alloc Z16).alloc (.cells (mix 16) 64)) = W at hg1 hg0 hb hs
      go_wp2_with (first
        | (with_reducible refine wpList_load_row rfl 64 (.tmp 1) rfl (w.heap.size + 1) rfl 64 (mix 16) (0, 0) _ hg1 Try.underlying64 rfl hi ?_)
        | (with_reducible refine wpList_store_row rfl 64 (.tmp 0) (.tmp 24) rfl w.heap.size (mix 16) rfl rfl 64 (mix 0) hg0 hi (by rw [mix_size, mix_size]) hall ?_))
      have hg2 := setRow_heap W w.heap.size (mix 0) (mix 16) 64 (0, 0) hg0
      exact bodyPost_ret (results_cell_row rfl _ _ w.heap.size 64 (mix 16) (0, 0) _ rfl hg2 Try.underlying64 rfl hi) rfl ⟨rfl, below_setRow hb (Nat.le_refl _) _⟩
end Go.Proofs.Ytggnjgnjgnlchaa
