/- Walks: the reference's low, number, sum, Seal, Next. -/
import Derived.Test.YtggnjgnjgnlchaaFrF
namespace Go.Proofs.Ytggnjgnjgnlchaa
set_option linter.unusedVariables false
set_option linter.unusedSimpArgs false
open Go.RowKit
attribute [local go_sem high] slice8 slice8l slice8h

theorem low_cells (n : Nat) : bV (leB n) = #[.int .u8 ((n : Int) % 256), .int .u8 ((n : Int) / 256 % 256), .int .u8 ((n : Int) / 65536 % 256), .int .u8 ((n : Int) / 16777216 % 256)] := by
  unfold bV leB
  simp only [List.map_cons, List.map_nil, byteOf_toNat]
  congr 1
  simp
def RetL (w : World) (n : Nat) (e : Ending) (w' : World) : Prop := ∃ a c, e = .returned (.slice a 4 c) ∧ OwnB w.heap.size w' a c (leB n) ∧ Below w.heap.size w w'
theorem low_any (n : Nat) (hn : n < 4294967296) (w : World) :
    Calls Try.prog 33 #[.int .i64 (n : Int)] w (RetL w n) := by
  have hc := low_cells n
  go_enter Try.func33, Try.ntmps33
  clear hc
  go_wp2
  go_ret
  rw [← low_cells]
  exact ⟨_, _, rfl, ownB_lit w (leB n) w.heap.size (Nat.le_refl _) (by simp [leB_length]), (Below.refl _ _).alloc (Nat.le_refl _) _⟩
theorem le4_four (a b c d : UInt8) : (le4 [a, b, c, d] : Int) = (a.toNat : Int) + 256 * (b.toNat : Int) + 65536 * (c.toNat : Int) + 16777216 * (d.toNat : Int) := by
  simp [le4, pre]; omega
theorem number_any (p : List UInt8) (a : Option Addr) (cap : Nat) (w : World) (hp : BytesAt w a p) (h4 : p.length = 4) :
    Calls Try.prog 37 #[.slice a 4 cap] w fun e w' => e = .returned (.int .i64 (le4 p : Int)) ∧ Below w.heap.size w w' := by
  obtain ⟨b, off, rfl, hb, hc⟩ := hp.split (by intro e; subst e; simp at h4)
  obtain ⟨x0, x1, x2, x3, rfl⟩ : ∃ x0 x1 x2 x3, p = [x0, x1, x2, x3] := by
    match p, h4 with
    | [x0, x1, x2, x3], _ => exact ⟨x0, x1, x2, x3, rfl⟩
  have c0 := hc 0 (by simp)
  have c1 := hc 1 (by simp)
  have c2 := hc 2 (by simp)
  have c3 := hc 3 (by simp)
  rw [Nat.add_zero] at c0
  simp only [List.getElem_cons_zero, List.getElem_cons_succ] at c0 c1 c2 c3
  have b0 := x0.toNat_lt
  have b1 := x1.toNat_lt
  have b2 := x2.toNat_lt
  have b3 := x3.toNat_lt
  have e1 : IntKind.i64.wrap (256 * (x1.toNat : Int)) = 256 * (x1.toNat : Int) := by rw [IntKind.wrap_i64]; omega
  have e2 : IntKind.i64.wrap ((x0.toNat : Int) + 256 * (x1.toNat : Int)) = (x0.toNat : Int) + 256 * (x1.toNat : Int) := by rw [IntKind.wrap_i64]; omega
  have e3 : IntKind.i64.wrap (65536 * (x2.toNat : Int)) = 65536 * (x2.toNat : Int) := by rw [IntKind.wrap_i64]; omega
  have e4 : IntKind.i64.wrap ((x0.toNat : Int) + 256 * (x1.toNat : Int) + 65536 * (x2.toNat : Int)) = (x0.toNat : Int) + 256 * (x1.toNat : Int) + 65536 * (x2.toNat : Int) := by rw [IntKind.wrap_i64]; omega
  have e5 : IntKind.i64.wrap (16777216 * (x3.toNat : Int)) = 16777216 * (x3.toNat : Int) := by rw [IntKind.wrap_i64]; omega
  have e6 : IntKind.i64.wrap ((x0.toNat : Int) + 256 * (x1.toNat : Int) + 65536 * (x2.toNat : Int) + 16777216 * (x3.toNat : Int)) = (x0.toNat : Int) + 256 * (x1.toNat : Int) + 65536 * (x2.toNat : Int) + 16777216 * (x3.toNat : Int) := by rw [IntKind.wrap_i64]; omega
  rw [le4_four]
  clear hc hp
  go_enter Try.func37, Try.ntmps37
  go_wp2_with fail
  go_quiet (fail)
  go_wp2
  go_ret
  exact ⟨rfl, (Below.refl _ _).drewN _⟩
theorem sum_any (n p : List UInt8) (a b : Option Addr) (ca cb : Nat) (w : World) (hn : BytesAt w a n) (hp : BytesAt w b p) (hl : p.length ≤ 1000000000) (hl2 : n.length ≤ 1000000000) :
    Calls Try.prog 34 #[.slice a n.length ca, .slice b p.length cb] w fun e w' => e = .returned (.int .i64 (v32 (crcUpdate (crcOf n) p) : Int)) ∧ w' = w := by
  have h1 := rof_any n a ca w hn (by omega)
  have h2 := rupdate_any (crcOf n) p b cb w hp (by omega)
  have h3 := v32_lt (crcUpdate (crcOf n) p)
  generalize crcUpdate (crcOf n) p = x at h2 h3 ⊢
  generalize crcOf n = y at h1 h2
  go_enter Try.func34, Try.ntmps34
  go_wp2_with (first
    | (go_at_call 45; with_reducible refine h1.mono ?_; rintro e w1 ⟨rfl, rfl⟩)
    | (go_at_call 44; with_reducible refine h2.mono ?_; rintro e w2 ⟨rfl, rfl⟩))
  go_ret
  exact ⟨rfl, rfl⟩
end Go.Proofs.Ytggnjgnjgnlchaa
