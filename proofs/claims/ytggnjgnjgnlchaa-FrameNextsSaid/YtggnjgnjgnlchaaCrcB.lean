/- Walks of the program's own sums of bytes: Update and Of. -/
import Derived.Test.YtggnjgnjgnlchaaCrcA
namespace Go.Proofs.Ytggnjgnjgnlchaa
set_option linter.unusedVariables false
set_option linter.unusedSimpArgs false
open Go.RowKit
attribute [local go_sem] x32 n32 m8

theorem upd_take (s : BitVec 32) (p : List UInt8) (k : Nat) (h : k < p.length) : step8 (upd s (p.take k) ^^^ bw p[k]) = upd s (p.take (k + 1)) := by
  rw [List.take_succ_eq_append_getElem h, upd_append]
  rfl
theorem tab_cells (w : World) (g i : Nat) (T : TypeId) (fr : Nat × Nat) (hg : w.heap[g]? = some (.cells (mix 16) T fr)) (hi : i < 16) :
    w.cell? ⟨g, i, none⟩ = some (.int .u32 (v32 (tab i) : Int)) := by
  rw [cell_of_row w g i (mix 16) T fr hg]
  unfold mix
  simp [hi]

set_option maxHeartbeats 400000 in
theorem update_any (s : BitVec 32) (p : List UInt8) (a : Option Addr) (cap : Nat) (w : World) (hp : BytesAt w a p) (hl : p.length ≤ 9223372036854775807) :
    Calls Try.prog 41 #[.int .u32 (v32 s : Int), .slice a p.length cap] w fun e w' => e = .returned (.int .u32 (v32 (crcUpdate s p) : Int)) ∧ Below w.heap.size w w' := by
  have hi : (Try.prog.info? 64).map (·.size) = some (mix 16).size := by rw [mix_size]; kernel_rfl
  have hall : (mix 16).all (·.oneCell') = true := mix_one 16
  go_enter Try.func41, Try.ntmps41
  go_wp2_with (first
    | (go_at_call 47; refine (halves_any _).mono ?_; rintro e w1 ⟨rfl, hb⟩)
    | (with_reducible refine wpList_store_row rfl 64 (.tmp 5) (.tmp 9) rfl _ (mix 16) rfl rfl 64 (mix 0) (heap_alloc_new _ _) hi (by rw [mix_size, mix_size]) hall ?_))
  have hg : ((w1.alloc (.cells (mix 0) 64)).setRow w1.heap.size (mix 16)).heap[w1.heap.size]? = some (.cells (mix 16) 64 (0, 0)) :=
    setRow_heap _ _ (mix 0) (mix 16) 64 (0, 0) (heap_alloc_new _ _)
  have hb1 : Below w.heap.size w ((w1.alloc (.cells (mix 0) 64)).setRow w1.heap.size (mix 16)) := below_setRow (hb.alloc hb.size _) hb.size _
  rw [← mix_zero]
  generalize ((w1.alloc (.cells (mix 0) 64)).setRow w1.heap.size (mix 16)) = W at hg hb1
  have hp1 : BytesAt W a p := hp.below (Nat.le_refl _) hb1
  have ht : ∀ i : Nat, i < 16 → W.cell? ⟨w1.heap.size, i, none⟩ = some (.int .u32 (v32 (tab i) : Int)) := fun i hi => tab_cells W _ i _ _ hg hi
  have Ht : Hid (∀ i : Nat, i < 16 → W.cell? ⟨w1.heap.size, i, none⟩ = some (.int .u32 (v32 (tab i) : Int))) := ht
  clear ht hg hall hi
  go_loop [6, 14] (fun x i => ∃ k : Nat, k ≤ p.length ∧ i = .int .i64 k ∧ x = .int .u32 (v32 (upd (~~~ s) (p.take k)) : Int)) (fun _ i => p.length - (intOf i).toNat)
  case atStart => exact ⟨0, by omega, rfl, rfl⟩
  case round =>
    obtain ⟨k, hk, rfl, rfl⟩ := hrel
    by_cases hlt : k < p.length
    · obtain ⟨b, off, rfl, hbs, hc⟩ := hp1.split (by intro e; subst e; simp at hlt)
      have hck := hc k hlt
      have hu := upd_take (~~~ s) p k hlt
      clear hc
      go_wp2_with (go_at_call 48; with_reducible refine (steps_any _ _ _ Ht.out).mono ?_; rintro e w' ⟨rfl, rfl⟩)
      go_round
      case rel => exact ⟨k + 1, by omega, by go_num, by with_reducible rfl⟩
      case measure => simp [intOf]; omega
    · obtain rfl : k = p.length := by omega
      go_wp2
      go_ret
      exact ⟨rfl, hb1⟩

set_option maxHeartbeats 400000 in
theorem of_any (p : List UInt8) (a : Option Addr) (cap : Nat) (w : World) (hp : BytesAt w a p) (hl : p.length ≤ 9223372036854775807) :
    Calls Try.prog 42 #[.slice a p.length cap] w fun e w' => e = .returned (.int .u32 (v32 (crcOf p) : Int)) ∧ Below w.heap.size w w' := by
  have h0 : (0 : Int) = (v32 0#32 : Int) := rfl
  have hu := update_any 0#32 p a cap w hp hl
  rw [← h0] at hu
  go_enter Try.func42, Try.ntmps42
  go_wp2_with (go_at_call 41; refine hu.mono ?_; rintro e w' ⟨rfl, hb⟩)
  go_ret
  exact ⟨rfl, hb⟩

end Go.Proofs.Ytggnjgnjgnlchaa
