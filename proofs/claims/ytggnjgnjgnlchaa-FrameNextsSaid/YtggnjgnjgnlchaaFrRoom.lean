/- The walks of 'roomy' and 'stands': a list's bytes with marks behind them; whether such a list is what it was. -/
import Derived.Test.YtggnjgnjgnlchaaProg
import Derived.Test.YtggnjgnjgnlchaaQ
import Derived.Test.YtggnjgnjgnlchaaW
namespace Go.Proofs.Ytggnjgnjgnlchaa
set_option linter.unusedVariables false
set_option linter.unusedSimpArgs false
open Go.RowKit

/-- the byte at a place of a roomy list -/
def rb (p : List UInt8) (i : Nat) : UInt8 := if h : i < p.length then p[i] else UInt8.ofNat (161 + i % 7)
def roomL (p : List UInt8) : List UInt8 := (List.range (p.length + 70)).map (rb p)
/-- while it is filled -/
def roomK (p : List UInt8) (k : Nat) : List UInt8 := (List.range (p.length + 70)).map fun i => if i < k then rb p i else 0
theorem roomL_length (p : List UInt8) : (roomL p).length = p.length + 70 := by simp [roomL]
theorem roomK_length (p : List UInt8) (k : Nat) : (roomK p k).length = p.length + 70 := by simp [roomK]
theorem roomK_zero (p : List UInt8) : roomK p 0 = List.replicate (p.length + 70) 0 := by
  unfold roomK
  apply List.ext_getElem
  · simp
  · intro i h1 h2; simp
theorem roomK_full (p : List UInt8) : roomK p (p.length + 70) = roomL p := by
  unfold roomK roomL
  apply List.ext_getElem
  · simp
  · intro i h1 h2; simp at h1; simp [h1]
theorem mark_nat (k : Nat) : (161 + (k : Int) % 7) = ((UInt8.ofNat (161 + k % 7)).toNat : Int) := by
  rw [UInt8.toNat_ofNat']
  have : (161 + k % 7) % 2 ^ 8 = 161 + k % 7 := Nat.mod_eq_of_lt (by omega)
  rw [this]
  omega
theorem roomK_far (p : List UInt8) (k : Nat) (h : p.length ≤ k) : (bV (roomK p k)).setIfInBounds k (.int .u8 (161 + (k : Int) % 7)) = bV (roomK p (k + 1)) := by
  rw [mark_nat, bV_set]
  congr 1
  apply List.ext_getElem
  · simp [roomK_length]
  · intro i h1 h2
    rw [List.getElem_set]
    by_cases e : k = i
    · subst e; simp [roomK, rb, show ¬ k < p.length by omega]
    · have : (i < k + 1) = (i < k) := by simp; omega
      simp [e, roomK, this]
theorem roomK_near (p : List UInt8) (k : Nat) (h : k < p.length) (x : Int) : ((bV (roomK p k)).setIfInBounds k (.int .u8 x)).setIfInBounds k (.int .u8 (p[k].toNat : Int)) = bV (roomK p (k + 1)) := by
  rw [Array.setIfInBounds_setIfInBounds, bV_set]
  congr 1
  apply List.ext_getElem
  · simp [roomK_length]
  · intro i h1 h2
    rw [List.getElem_set]
    by_cases e : k = i
    · subst e; simp [roomK, rb, h]
    · have : (i < k + 1) = (i < k) := by simp; omega
      simp [e, roomK, this]
theorem room_near (p : List UInt8) (i : Nat) (h : i < p.length) : (roomL p)[i]? = some p[i] := by simp [roomL, rb, h, show i < p.length + 70 by omega]
theorem room_far (p : List UInt8) (i : Nat) (h : p.length ≤ i) (h2 : i < p.length + 70) : (roomL p)[i]? = some (UInt8.ofNat (161 + i % 7)) := by simp [roomL, rb, h2, show ¬ i < p.length by omega]
theorem room_take (p : List UInt8) : (roomL p).take p.length = p := by
  apply List.ext_getElem
  · simp [roomL_length]
  · intro i h1 h2; simp [roomL, rb, h2]

theorem info_byte : (Try.prog.info? 5).map (fun i => (i.zero, i.size, i.bytes)) = some (some (.int .u8 0), 1, 1) := by kernel_rfl
theorem make_bytes (w : World) (n : Nat) (hn : n ≤ 281474976710656) :
    (Instr.makeSlice 22 (.int .i64 (n : Int)) (.int .i64 (n : Int))).run Try.prog w = .ok (.slice (some ⟨w.heap.size, 0, none⟩) n n) (w.alloc (.cells (bV (List.replicate n 0)) 5)) := by
  obtain ⟨i, hi, hz0, hz1, hz2⟩ := info_parts info_byte
  have h := run_make (P := Try.prog) w 22 5 i (.int .u8 0) Try.underlying22 hi hz0 .i64 .i64 n n (by omega) (by omega) (by rw [hz2]; omega) (by omega)
  rw [hz1, Nat.mul_one, Int.toNat_natCast, madeCells_bytes] at h
  exact h

set_option maxHeartbeats 400000 in
theorem roomy_any (p : List UInt8) (a : Option Addr) (cap : Nat) (w : World) (hp : BytesAt w a p) (hl : p.length ≤ 1000000) :
    Calls Try.prog 11 #[.slice a p.length cap] w fun e w' => e = .returned (.slice (some ⟨w.heap.size, 0, none⟩) (p.length + 70) (p.length + 70)) ∧ w' = w.alloc (.cells (bV (roomL p)) 5) := by
  have hmk := make_bytes w (p.length + 70) (by omega)
  rw [show ((p.length + 70 : Nat) : Int) = (p.length : Int) + 70 by omega, ← roomK_zero] at hmk
  have hsz := bV_size (roomK p 0)
  go_enter Try.func11, Try.ntmps11
  go_wp2
  clear hmk
  go_loopw [4] (fun i wr => ∃ k : Nat, k ≤ p.length + 70 ∧ i = .int .i64 k ∧ wr = w.alloc (.cells (bV (roomK p k)) 5)) (fun i _ => p.length + 70 - (intOf i).toNat)
  case atStart => exact ⟨0, by omega, rfl, rfl⟩
  case round =>
    obtain ⟨k, hk, rfl, rfl⟩ := hrel
    have hsz := bV_size (roomK p k)
    rw [roomK_length] at hsz
    by_cases hlt : k < p.length + 70
    · by_cases hn : k < p.length
      · obtain ⟨b, off, rfl, hbs, hc⟩ := hp.split (by intro e; subst e; simp at hn)
        have hck := hc k hn
        have hnear := roomK_near p k hn
        clear hc
        go_wp2
        go_roundw
        case rel => exact ⟨k + 1, by omega, by go_num, rfl⟩
        case measure => simp [intOf]; omega
      · have hfar := roomK_far p k (by omega)
        go_wp2
        go_roundw
        case rel => exact ⟨k + 1, by omega, by go_num, rfl⟩
        case measure => simp [intOf]; omega
    · obtain rfl : k = p.length + 70 := by omega
      rw [roomK_full]
      go_wp2
      go_ret
      exact ⟨rfl, rfl⟩

/-- 'stands' says yes of a roomy list that is as it was. -/
theorem stands_any (p : List UInt8) (a : Option Addr) (cap g c2 : Nat) (w : World) (hp : BytesAt w a p) (hl : p.length ≤ 1000000) (hg : BytesAt w (some ⟨g, 0, none⟩) (roomL p)) :
    Calls Try.prog 15 #[.slice (some ⟨g, 0, none⟩) (p.length + 70) c2, .slice a p.length cap] w fun e w' => e = .returned (.bool true) ∧ Below w.heap.size w w' := by
  obtain ⟨b2, o2, he, hb2, hr⟩ := hg.split (by intro e; have := roomL_length p; rw [e] at this; simp at this)
  simp only [Option.some.injEq, Addr.mk.injEq] at he
  obtain ⟨rfl, rfl, -⟩ := he
  have Hr := Lib.hid hr
  clear hr
  go_enter Try.func15, Try.ntmps15
  go_wp2
  go_loopw [5] (fun i wr => ∃ k : Nat, k ≤ p.length + 70 ∧ i = .int .i64 k ∧ Below w.heap.size w wr) (fun i _ => p.length + 70 - (intOf i).toNat)
  case atStart => exact ⟨0, by omega, rfl, Below.refl _ _⟩
  case round =>
    obtain ⟨k, hk, rfl, hb⟩ := hrel
    by_cases hlt : k < p.length + 70
    · have hw := Hr.out k (by rw [roomL_length]; exact hlt)
      rw [Nat.zero_add] at hw
      have hw2 : wr.cell? ⟨g, k, none⟩ = some (.int .u8 (((roomL p)[k]'(by rw [roomL_length]; exact hlt)).toNat : Int)) := by rw [← hw]; exact hb.cell hb2
      by_cases hn : k < p.length
      · obtain ⟨b, off, rfl, hbs, hc⟩ := hp.split (by intro e; subst e; simp at hn)
        have hck := (hb.cell (p := ⟨b, off + k, none⟩) hbs).trans (hc k hn)
        have he : (roomL p)[k]'(by rw [roomL_length]; exact hlt) = p[k] := by
          have := room_near p k hn
          rw [List.getElem?_eq_getElem (by rw [roomL_length]; exact hlt)] at this
          simpa using this
        rw [he] at hw2
        clear he hw hc Hr
        have hi1 : (k : Int) < (p.length : Int) := by omega
        have hi2 : decide (p.length ≤ k) = false := by simp; omega
        have hi3 : (k : Int) < (p.length : Int) + 70 := by omega
        have hi0 : (0 : Int) ≤ (k : Int) := by omega
        go_wp2_with fail
        go_quiet (fail)
        go_wp2
        go_roundw
        case rel => exact ⟨k + 1, by omega, by go_num, hb.drewN _⟩
        case measure => simp [intOf]; omega
      · have he : (roomL p)[k]'(by rw [roomL_length]; exact hlt) = UInt8.ofNat (161 + k % 7) := by
          have := room_far p k (by omega) hlt
          rw [List.getElem?_eq_getElem (by rw [roomL_length]; exact hlt)] at this
          simpa using this
        rw [he, ← mark_nat] at hw2
        clear he hw Hr
        have hi1 : decide (k < p.length) = false := by simp; omega
        have hi4 : decide (p.length ≤ k) = true := by simp; omega
        have hi2 : (p.length : Int) ≤ (k : Int) := by omega
        have hi3 : (k : Int) < (p.length : Int) + 70 := by omega
        have hi0 : (0 : Int) ≤ (k : Int) := by omega
        have q1 : (k : Int).tmod 7 = (k : Int) % 7 := Int.tmod_eq_emod_of_nonneg hi0
        have q2 : IntKind.i64.wrap (161 + (k : Int) % 7) = 161 + (k : Int) % 7 := by rw [IntKind.wrap_i64]; omega
        have q3 : IntKind.u8.wrap (161 + (k : Int) % 7) = 161 + (k : Int) % 7 := by rw [IntKind.wrap_u8]; omega
        go_wp2_with fail
        go_quiet (fail)
        clear q1 q2 q3
        go_wp2
        go_roundw
        case rel => exact ⟨k + 1, by omega, by go_num, hb.drewN _⟩
        case measure => simp [intOf]; omega
    · obtain rfl : k = p.length + 70 := by omega
      go_wp2
      go_ret
      exact ⟨rfl, hb⟩
end Go.Proofs.Ytggnjgnjgnlchaa
