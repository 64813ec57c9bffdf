/- Walks of the document's own sums of bytes (package treadleref2). -/
import Derived.Test.YtggnjgnjgnlchaaCrcB
namespace Go.Proofs.Ytggnjgnjgnlchaa
set_option linter.unusedVariables false
set_option linter.unusedSimpArgs false
open Go.RowKit

theorem xP64 (x : BitVec 32) : bits .xor .i64 (v32 x : Int) (2197175160 : Int) = (v32 (x ^^^ 2197175160#32) : Int) := by
  have h : (2197175160 : Int) = (v32 (2197175160#32) : Int) := by decide
  rw [h, x64]
theorem w64 (x : BitVec 32) : wrap64 (v32 x : Int) = (v32 x : Int) := by have := v32_lt x; unfold wrap64; omega
theorem c6432 (x : BitVec 32) : (v32 x : Int) % (4294967296 : Int) = (v32 x : Int) := by have := v32_lt x; omega
theorem x64_0 (x : BitVec 32) : bits .xor .i64 (0 : Int) (v32 x : Int) = (v32 x : Int) := by
  have h : (0 : Int) = (v32 (0#32) : Int) := by decide
  rw [h, x64]; simp
attribute [local go_sem] x64 n64 b64 xP64 m32_2 a32_1b s32_1 w64 c6432 x64_0

def stepM (s : BitVec 32) : Nat → BitVec 32
  | 0 => s
  | j + 1 => step1 (stepM s j)
theorem stepM8 (s : BitVec 32) : stepM s 8 = step8 s := rfl
theorem stepM_yes (s : BitVec 32) (j : Nat) (h : odd32 (stepM s j) = true) : stepM s j >>> 1 ^^^ 2197175160#32 = stepM s (j + 1) := by
  show _ = step1 (stepM s j)
  unfold odd32 at h; unfold step1; rw [h]; rfl
theorem stepM_no (s : BitVec 32) (j : Nat) (h : odd32 (stepM s j) = false) : stepM s j >>> 1 = stepM s (j + 1) := by
  show _ = step1 (stepM s j)
  unfold odd32 at h; unfold step1; rw [h]; simp

set_option maxHeartbeats 400000 in
theorem rstep_any (s : BitVec 32) (w : World) :
    Calls Try.prog 49 #[.int .i64 (v32 s : Int)] w fun e w' => e = .returned (.int .i64 (v32 (step8 s) : Int)) ∧ w' = w := by
  go_enter Try.func49, Try.ntmps49
  go_wp2
  go_loop [0, 3] (fun x i => ∃ k : Nat, k ≤ 8 ∧ i = .int .i64 k ∧ x = .int .i64 (v32 (stepM s k) : Int)) (fun _ i => 8 - (intOf i).toNat)
  case atStart => exact ⟨0, by omega, rfl, rfl⟩
  case round =>
    obtain ⟨k, hk, rfl, rfl⟩ := hrel
    by_cases hlt : k < 8
    · cases hb : odd32 (stepM s k)
      · have H := stepM_no s k hb
        go_wp2
        go_round
        case rel => exact ⟨k + 1, by omega, by go_num, by first | with_reducible rfl | rw [w64]⟩
        case measure => simp [intOf]; omega
      · have H := stepM_yes s k hb
        go_wp2
        go_round
        case rel => exact ⟨k + 1, by omega, by go_num, by first | with_reducible rfl | rw [w64]⟩
        case measure => simp [intOf]; omega
    · obtain rfl : k = 8 := by omega
      go_wp2
      go_ret
      exact ⟨by rw [← stepM8]; rfl, rfl⟩

set_option maxHeartbeats 400000 in
theorem rupdate_any (s : BitVec 32) (p : List UInt8) (a : Option Addr) (cap : Nat) (w : World) (hp : BytesAt w a p) (hl : p.length ≤ 9223372036854775807) :
    Calls Try.prog 44 #[.int .u32 (v32 s : Int), .slice a p.length cap] w fun e w' => e = .returned (.int .u32 (v32 (crcUpdate s p) : Int)) ∧ w' = w := by
  have hs0 := v32_lt s
  go_enter Try.func44, Try.ntmps44
  go_wp2
  go_loop [5, 6] (fun x i => ∃ k : Nat, k ≤ p.length ∧ i = .int .i64 k ∧ x = .int .i64 (v32 (upd (~~~ s) (p.take k)) : Int)) (fun _ i => p.length - (intOf i).toNat)
  case atStart => exact ⟨0, by omega, rfl, rfl⟩
  case round =>
    obtain ⟨k, hk, rfl, rfl⟩ := hrel
    by_cases hlt : k < p.length
    · obtain ⟨b, off, rfl, hbs, hc⟩ := hp.split (by intro e; subst e; simp at hlt)
      have hck := hc k hlt
      have hu := upd_take (~~~ s) p k hlt
      have hb8 : p[k].toNat < 256 := p[k].toNat_lt
      clear hc
      go_wp2_with (go_at_call 49; with_reducible refine (rstep_any _ _).mono ?_; rintro e w' ⟨rfl, rfl⟩)
      go_round
      case rel => exact ⟨k + 1, by omega, by go_num, by first | with_reducible rfl | rw [w64]⟩
      case measure => simp [intOf]; omega
    · obtain rfl : k = p.length := by omega
      go_wp2
      go_ret
      exact ⟨rfl, rfl⟩

set_option maxHeartbeats 400000 in
theorem rof_any (p : List UInt8) (a : Option Addr) (cap : Nat) (w : World) (hp : BytesAt w a p) (hl : p.length ≤ 9223372036854775807) :
    Calls Try.prog 45 #[.slice a p.length cap] w fun e w' => e = .returned (.int .u32 (v32 (crcOf p) : Int)) ∧ w' = w := by
  have h0 : (0 : Int) = (v32 0#32 : Int) := rfl
  have hu := rupdate_any 0#32 p a cap w hp hl
  rw [← h0] at hu
  go_enter Try.func45, Try.ntmps45
  go_wp2_with (go_at_call 44; refine hu.mono ?_; rintro e w' ⟨rfl, rfl⟩)
  go_ret
  exact ⟨rfl, rfl⟩

end Go.Proofs.Ytggnjgnjgnlchaa
