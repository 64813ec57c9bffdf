/- Walks: frame.Next, same, low, number, sum. -/
import Derived.Test.YtggnjgnjgnlchaaFrE
import Derived.Test.YtggnjgnjgnlchaaCrcR
namespace Go.Proofs.Ytggnjgnjgnlchaa
set_option linter.unusedVariables false
set_option linter.unusedSimpArgs false
open Go.RowKit

def RetNx (r : Except Nat (List UInt8 × Nat)) (w : World) (e : Ending) (w' : World) : Prop :=
  ∃ a n c, e = .returned (.tuple #[.slice a n c, .int .i64 (nxE r), .int .i64 (nxX r)]) ∧ n = (nxB r).length ∧ OwnB w.heap.size w' a c (nxB r) ∧ Below w.heap.size w w'
theorem nxB_le (p : List UInt8) (k : Int) : (nxB (nextF p k)).length ≤ p.length := by
  cases h : nextF p k with
  | error x => simp [nxB]
  | ok r =>
    obtain ⟨b, e⟩ := r
    unfold nextF at h
    split at h
    · cases h
    · have := next_ok h
      simp only [nxB]; omega

set_option maxHeartbeats 1000000 in
theorem Next_any (p : List UInt8) (a : Option Addr) (cap : Nat) (k : Int) (w : World) (hp : BytesAt w a p) (hc : p.length ≤ cap) (hl : p.length ≤ 1000000000) (hk0 : -9223372036854775808 ≤ k) (hk1 : k ≤ 9223372036854775807) :
    Calls Try.prog 16 #[.slice a p.length cap, .int .i64 k] w (RetNx (nextF p k) w) := by
  have h1 := next_any p a cap k w hp hc hl hk0 hk1
  have hle := nxB_le p k
  generalize hr : nextF p k = r at h1 hle ⊢
  clear hr hk0 hk1
  go_enter Try.func16, Try.ntmps16
  go_wp2_with (first
    | (go_at_call 35; (with_reducible refine h1.mono ?_); rintro e w1 ⟨a1, n1, c1, rfl, rfl, hb1, hc1, hw1⟩; have h2 := clone_any (nxB r) a1 c1 w1 hb1 (by omega))
    | (go_at_call 36; (with_reducible refine h2.mono ?_); rintro e w2 ⟨a2, c2, rfl, ho2, hw2⟩))
  go_ret3
  exact ⟨a2, _, c2, rfl, rfl, ho2.mono hw1.size, hw1.trans (hw2.mono hw1.size)⟩

theorem take_ext_succ {p q : List UInt8} {k : Nat} (h : p.take k = q.take k) (hp : k < p.length) (hq : k < q.length) (he : p[k] = q[k]) : p.take (k + 1) = q.take (k + 1) := by
  rw [List.take_succ_eq_append_getElem hp, List.take_succ_eq_append_getElem hq, h, he]
set_option maxHeartbeats 400000 in
theorem same_any (p q : List UInt8) (a b : Option Addr) (ca cb : Nat) (w : World) (hp : BytesAt w a p) (hq : BytesAt w b q) (hl : p.length ≤ 1000000000) :
    Calls Try.prog 14 #[.slice a p.length ca, .slice b q.length cb] w fun e w' => e = .returned (.bool (decide (p = q))) ∧ Below w.heap.size w w' := by
  go_enter Try.func14, Try.ntmps14
  by_cases hn : p.length = q.length
  · go_wp2
    go_loopw [5] (fun i wr => ∃ k : Nat, k ≤ p.length ∧ i = .int .i64 k ∧ p.take k = q.take k ∧ Below w.heap.size w wr) (fun i _ => p.length - (intOf i).toNat)
    case atStart => exact ⟨0, by omega, rfl, by simp, Below.refl _ _⟩
    case round =>
      obtain ⟨k, hk, rfl, ht, hb⟩ := hrel
      have Ht := Lib.hid ht
      clear ht
      by_cases hlt : k < p.length
      · obtain ⟨b1, o1, rfl, hbs1, hcc1⟩ := hp.split (by intro e; subst e; simp at hlt)
        obtain ⟨b2, o2, rfl, hbs2, hcc2⟩ := hq.split (by intro e; rw [e] at hn; simp at hn; rw [hn] at hlt; simp at hlt)
        have hk1 := (hb.cell (p := ⟨b1, o1 + k, none⟩) hbs1).trans (hcc1 k hlt)
        have hk2 := (hb.cell (p := ⟨b2, o2 + k, none⟩) hbs2).trans (hcc2 k (by omega))
        have hi0 : (0 : Int) ≤ (k : Int) := by omega
        have hi1 : (k : Int) < (p.length : Int) := by omega
        have hi2 : (k : Int) < (q.length : Int) := by omega
        have hq2 : k < q.length := by omega
        by_cases he : p[k] = q[k]
        · have hne : ((p[k].toNat : Int) != (q[k].toNat : Int)) = false := by rw [he]; simp
          have hnx : p.take (k + 1) = q.take (k + 1) := take_ext_succ Ht.out hlt hq2 he
          have Hnx := Lib.hid hnx
          clear hcc1 hcc2 he hnx
          go_wp2_with fail
          go_quiet (fail)
          go_wp2
          go_roundw
          case rel => exact ⟨k + 1, by omega, by go_num, Hnx.out, hb.drewN _⟩
          case measure => simp [intOf]; omega
        · have hne : ((p[k].toNat : Int) != (q[k].toNat : Int)) = true := by
            simp only [bne_iff_ne, ne_eq, Int.natCast_inj]
            exact fun h => he (UInt8.toNat_inj.mp h)
          have hd : decide (p = q) = false := by
            simp only [decide_eq_false_iff_not]
            intro h
            subst h
            exact he rfl
          have Hd := Lib.hid hd
          clear hcc1 hcc2 he hd
          go_wp2_with fail
          go_quiet (fail)
          go_wp2
          go_ret
          exact ⟨by rw [Hd.out]; rfl, hb.drewN _⟩
      · obtain rfl : k = p.length := by omega
        have hd : decide (p = q) = true := by
          have := Ht.out
          rw [List.take_length, hn, List.take_length] at this
          simpa using this
        go_wp2
        go_ret
        exact ⟨by rw [hd]; rfl, hb⟩
  · have hd : decide (p = q) = false := by simp; intro h; exact hn (by rw [h])
    rw [hd]
    go_wp2
    go_ret
    exact ⟨rfl, Below.refl _ _⟩
end Go.Proofs.Ytggnjgnjgnlchaa
