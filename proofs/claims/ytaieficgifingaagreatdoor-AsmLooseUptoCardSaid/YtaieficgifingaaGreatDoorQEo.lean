/- Texts of the claim, merged: only what the theorem needs. -/
import Derived.Test.YtaieficgifingaaGreatDoorQEn
import Derived.Shelf.Strings.SlTrimAscii
namespace Go.Proofs.YtaieficgifingaaGreatDoor
set_option linter.unusedVariables false
set_option linter.unusedSimpArgs false
open Go.RowKit
set_option maxRecDepth 100000
set_option maxHeartbeats 4000000
theorem trimLeft_spec (s : ByteArray) : Spec Tryz.prog 56 [.raw (.string s), .raw (.string ⟨#[32, 9]⟩)] [] 0 (σ := Unit) (fun _ => True) (fun _ => .raw (.string (strOf (Lib.trimLeftS (strB s) [32, 9])))) (fun _ => []) :=
  Spec.lib (vs := [.string s, .string ⟨#[32, 9]⟩]) _ rfl rfl fun ρ w => Any.strings_TrimLeft_laid Tryz.lays161 (by kernel_rfl) s ⟨#[32, 9]⟩ w (by decide) (ascii_of_all (by decide))
end Go.Proofs.YtaieficgifingaaGreatDoor
namespace Go.Proofs.YtaieficgifingaaGreatDoor
set_option linter.unusedVariables false
set_option linter.unusedSimpArgs false
open Go.RowKit
set_option maxRecDepth 100000
set_option maxHeartbeats 4000000
abbrev gapS : ByteArray := ⟨#[32, 9, 35]⟩
theorem enc_hi (r : Int) (h : 128 ≤ r) : 2 ≤ (strB (Utf8.encode r)).length ∧ (strB (Utf8.encode r)).length ≤ 4 ∧ ∀ x ∈ strB (Utf8.encode r), 128 ≤ x.toNat := by
  unfold Utf8.encode
  dsimp only
  obtain ⟨c, hc⟩ : ∃ c, (if Utf8.valid r = true then r.toNat else Utf8.runeError) = c := ⟨_, rfl⟩
  have h128 : 128 ≤ c := by
    rw [← hc]
    split
    · omega
    · decide
  have hmax : c ≤ 1114111 := by
    rw [← hc]
    split
    · rename_i hv
      unfold Utf8.valid at hv
      simp only [Bool.or_eq_true, Bool.and_eq_true, decide_eq_true_eq] at hv
      omega
    · decide
  rw [hc, if_neg (by omega)]
  split
  · refine ⟨by simp [strB], by simp [strB], fun x hx => ?_⟩
    simp only [strB, List.mem_cons, List.not_mem_nil, or_false] at hx
    rcases hx with rfl | rfl <;> (rw [UInt8.toNat_ofNat']; omega)
  · split
    · refine ⟨by simp [strB], by simp [strB], fun x hx => ?_⟩
      simp only [strB, List.mem_cons, List.not_mem_nil, or_false] at hx
      rcases hx with rfl | rfl | rfl <;> (rw [UInt8.toNat_ofNat']; omega)
    · refine ⟨by simp [strB], by simp [strB], fun x hx => ?_⟩
      simp only [strB, List.mem_cons, List.not_mem_nil, or_false] at hx
      rcases hx with rfl | rfl | rfl | rfl <;> (rw [UInt8.toNat_ofNat']; omega)
theorem validRune_spec (r : Int) : Spec Tryz.prog 124 [.raw (.int .i32 r)] [] 0 (σ := Unit) (fun _ => True) (fun _ => .raw (.bool (Lib.validRune r))) (fun _ => []) :=
  Spec.lib (vs := [.int .i32 r]) _ rfl rfl fun ρ w => (Tryz.utf8_ValidRune r w).mono fun e w' ⟨h1, h2⟩ => ⟨h1, by rw [h2]; exact Below.refl _ _⟩
theorem indexByte_no {l : List UInt8} {c : UInt8} (h : ∀ x ∈ l, x ≠ c) : Lib.indexByte l c = -1 := by
  induction l with
  | nil => rfl
  | cons a r ih =>
    unfold Lib.indexByte
    have e : (a == c) = false := beq_eq_false_iff_ne.2 (h a List.mem_cons_self)
    rw [e, ih fun x hx => h x (List.mem_cons_of_mem _ hx)]
    rfl
theorem gap_lt {k : Nat} (h : k < 3) : ((strB gapS).getD k 0).toNat < 128 := by
  match k, h with
  | 0, _ => decide
  | 1, _ => decide
  | 2, _ => decide
theorem indexRune_hi (r : Nat) (hr : 128 ≤ r) (hr2 : r ≤ 2147483647) : Spec Tryz.prog 100 [.raw (.string gapS), .raw (.int .i32 (r : Nat))] [] 0 (σ := Unit) (fun _ => True) (fun _ => .raw (.int .i64 (-1))) (fun _ => []) := by
  refine Spec.ofF Tryz.func100 rfl Tryz.ntmps100 rfl (bdl_nil _) fun ρ w => ?_
  refine sS_ ?_
  rw [decide_eq_true (show (0 : Int) ≤ ((r : Nat) : Int) by omega)]
  refine sS_ ?_
  rw [decide_eq_false (show ¬ ((r : Nat) : Int) < 128 by omega)]
  refine sS_ ?_
  by_cases hf : r = 65533
  · subst hf
    rw [show decide (((65533 : Nat) : Int) = 65533) = true from rfl]
    refine sS_ ?_
    refine R.rngS ttok rfl rfl rfl rfl rfl fun b hW hfs => ?_
    refine sS_ ?_
    refine C.loopG (σ := Nat) (L2 := 0) (fun i => i ≤ 3) (fun _ => [(175, .raw (.pointer (some ⟨b, 0, none⟩)))]) (fun _ => []) (fun i => FF [] ρ w [] [⟨false, b, .stringIter gapS i⟩]) (fun i => 3 - i) [] 0 (Nat.zero_le _) rfl hS12_ hS10_ rfl (fun _ h => h) ?_
    intro i hi
    refine sS_ ?_
    by_cases hlt : i < 3
    · refine R.nxtS rfl (show i < gapS.size from hlt) hfs hW rfl rfl ?_
      rw [decode_ascii (show i < gapS.size from hlt) (gap_lt hlt)]
      have hg := gap_lt hlt
      refine sS_ ?_
      rw [decide_eq_false (show ¬ ((((strB gapS).getD i 0).toNat : Nat) : Int) = 65533 by omega)]
      refine sS_ ?_
      exact X.backG [] (i + 1) (by omega) (by omega) rfl hS12_ hS10_ rfl (fun _ h => h)
    · refine R.nxtE rfl (show ¬ i < gapS.size from hlt) rfl rfl ?_
      refine sS_ ?_
      refine X.finS ttok () [] trivial rfl rfl rfl hS7_ _ (by first | exact .inl rfl | exact .inr rfl)
  · rw [decide_eq_false (show ¬ ((r : Nat) : Int) = 65533 by omega)]
    refine sS_ ?_
    refine R.cl [] (validRune_spec (r : Nat)) Tryz.call124 hS11_ rfl rfl rfl (fun _ => rfl) rfl (by kernel_rfl) fun _ _ => ?_
    cases hv : Lib.validRune ((r : Nat) : Int) with
    | false =>
      refine sS_ ?_
      refine X.finS ttok () [] trivial rfl rfl rfl hS7_ _ (by first | exact .inl rfl | exact .inr rfl)
    | true =>
      have he := enc_hi (r : Nat) (by omega)
      refine sS_ ?_
      refine C.scope 1 0 (fun _ : Unit => False) (fun _ => []) (fun _ => []) rfl ?_ (fun _ h => h.elim)
      refine sS_ ?_
      refine R.i2s ttok rfl rfl rfl rfl rfl (by kernel_rfl) ?_
      obtain ⟨e, hee⟩ : ∃ e, Utf8.encode ((r : Nat) : Int) = e := ⟨_, rfl⟩
      rw [hee] at he ⊢
      obtain ⟨he1, he2, he3⟩ := he
      rw [strB_size] at he1 he2
      obtain ⟨m, hm⟩ : ∃ m, e.size = m + 1 := ⟨e.size - 1, by omega⟩
      have hin : 128 ≤ ((strB e).getD m 0).toNat := he3 _ (by
        rw [List.getD_eq_getElem?_getD, List.getElem?_eq_getElem (by rw [strB_size]; omega)]
        exact List.getElem_mem _)
      refine sS_ ?_
      rw [hm, show (((m + 1 : Nat) : Nat) : Int) - 1 = (m : Nat) by omega]
      refine C.loopG (σ := Unit) (L2 := 0) (fun _ => True) (fun _ => [(0, .raw (.string gapS)), (1, .raw (.int .i32 (r : Nat))), (7, .raw (.string e)), (8, .raw (.int .i64 (m : Nat))), (9, .raw (.int .i64 (m : Nat))), (10, .raw (.int .i64 0))]) (fun _ => []) (fun _ => FF [] ρ w [] []) (fun _ => 0) [] () trivial rfl hS12_ hS10_ rfl (fun _ h => h) ?_
      rintro ⟨⟩ -
      refine sS_ ?_
      by_cases h3 : m < 3
      · rw [decide_eq_true (show ((m : Nat) : Int) < (gapS.size : Nat) by show ((m : Nat) : Int) < 3; omega)]
        have hg := gap_lt h3
        refine sS_ ?_
        refine C.scope 0 0 (fun _ : Unit => False) (fun _ => []) (fun _ => []) rfl ?_ (fun _ h => h.elim)
        refine sS_ ?_
        refine C.draw [[], [], [0, 1], [], [], [3, 4], [0, 1, 2, 3, 4, 5]] [] (by kernel_rfl) (by kernel_rfl) ?_
        refine sS_ ?_
        refine R.sx ttok m rfl rfl rfl rfl (by kernel_rfl) rfl (by show m < 3; exact h3) ?_
        refine sS_ ?_
        refine R.sx ttok m rfl rfl rfl rfl (by kernel_rfl) rfl (by show m < (strB e).length; rw [strB_size]; omega) ?_
        rw [show gapS.data.toList.getD m 0 = (strB gapS).getD m 0 from rfl, show e.data.toList.getD m 0 = (strB e).getD m 0 from rfl]
        refine sS_ ?_
        rw [decide_eq_true (show ((((strB gapS).getD m 0).toNat : Nat) : Int) ≠ (((strB e).getD m 0).toNat : Nat) by omega)]
        refine sS_ ?_
        refine C.draw [[], [], [1], [0, 1, 2], [], [], [4, 5], [0, 1, 2, 3, 4, 5, 6], [0, 1, 2, 3, 4, 5, 6, 7]] [7] (by kernel_rfl) (by kernel_rfl) ?_
        refine sS_ ?_
        refine R.sls ttok (m + 1) 3 rfl rfl rfl rfl (by kernel_rfl) ⟨_, _, rfl, by omega⟩ rfl (by omega) (by decide) ?_
        refine sS_ ?_
        refine R.sx ttok m rfl rfl rfl rfl (by kernel_rfl) rfl (by show m < (strB e).length; rw [strB_size]; omega) ?_
        rw [show e.data.toList.getD m 0 = (strB e).getD m 0 from rfl]
        refine R.cl [] (indexByte_spec (gapS.extract (m + 1) 3) ((strB e).getD m 0)) Tryz.call98 hS11_ rfl rfl rfl (fun _ => rfl) rfl (by kernel_rfl) fun _ _ => ?_
        have hno : Lib.indexByte (strB (gapS.extract (m + 1) 3)) ((strB e).getD m 0) = -1 := by
          rw [show gapS.extract (m + 1) 3 = gapS.extract (m + 1) gapS.size from rfl, extract_drop]
          refine indexByte_no fun x hx => ?_
          have hx2 := List.mem_of_mem_drop hx
          have hx3 : x.toNat < 128 := by
            have : x ∈ ([32, 9, 35] : List UInt8) := hx2
            simp only [List.mem_cons, List.not_mem_nil, or_false] at this
            rcases this with rfl | rfl | rfl <;> decide
          rintro rfl
          omega
        rw [hno]
        refine sS_ ?_
        repeat (first | refine X.jump_ret ?_ | refine X.block_ret ?_ | refine X.pass_ret ?_)
        refine X.finS ttok () [] trivial rfl rfl rfl hS7_ _ (by first | exact .inl rfl | exact .inr rfl)
      · rw [decide_eq_false (show ¬ ((m : Nat) : Int) < (gapS.size : Nat) by show ¬ ((m : Nat) : Int) < 3; omega)]
        refine sS_ ?_
        repeat (first | refine X.jump_ret ?_ | refine X.block_ret ?_ | refine X.pass_ret ?_)
        refine X.finS ttok () [] trivial rfl rfl rfl hS7_ _ (by first | exact .inl rfl | exact .inr rfl)
end Go.Proofs.YtaieficgifingaaGreatDoor
namespace Go.Proofs.YtaieficgifingaaGreatDoor
set_option linter.unusedVariables false
set_option linter.unusedSimpArgs false
open Go.RowKit
set_option maxRecDepth 100000
set_option maxHeartbeats 4000000
def gapC (c : UInt8) : Bool := ([32, 9, 35] : List UInt8).contains c
theorem anyNo {l : List UInt8} (h : ∀ x ∈ l, gapC x = false) : Lib.indexAny l [32, 9, 35] = -1 := by
  induction l with
  | nil => rfl
  | cons a r ih =>
    unfold Lib.indexAny
    rw [show ([32, 9, 35] : List UInt8).contains a = false from h a List.mem_cons_self, ih fun x hx => h x (List.mem_cons_of_mem _ hx)]
    rfl
theorem anyAt {l : List UInt8} : ∀ {i : Nat}, i < l.length → (∀ j, j < i → gapC (l.getD j 0) = false) → gapC (l.getD i 0) = true → Lib.indexAny l [32, 9, 35] = (i : Nat) := by
  induction l with
  | nil => intro i h; simp at h
  | cons a r ih =>
    intro i h h1 h2
    unfold Lib.indexAny
    cases i with
    | zero =>
      rw [show ([32, 9, 35] : List UInt8).contains a = true from h2]
      rfl
    | succ i =>
      rw [show ([32, 9, 35] : List UInt8).contains a = false from h1 0 (Nat.zero_lt_succ _)]
      have := ih (i := i) (by simpa using h) (fun j hj => h1 (j + 1) (by omega)) h2
      rw [this]
      rw [show (((i : Nat) : Int) == -1) = false from beq_eq_false_iff_ne.2 (by omega)]
      simp
theorem gapC_hi {c : UInt8} (h : 128 ≤ c.toNat) : gapC c = false := by
  cases hg : gapC c with
  | false => rfl
  | true =>
    have : c ∈ ([32, 9, 35] : List UInt8) := by simpa [gapC] using hg
    simp only [List.mem_cons, List.not_mem_nil, or_false] at this
    rcases this with rfl | rfl | rfl <;> exact absurd h (by decide)
theorem get_bang (s : ByteArray) (i : Nat) (h : i < s.size) : s.get! i = (strB s).getD i 0 := by
  show s.data[i]! = _
  unfold strB
  have h2 : i < s.data.size := h
  rw [List.getD_eq_getElem?_getD, getElem!_pos s.data i h2]
  simp only [Array.getElem?_toList]
  rw [Array.getElem?_eq_getElem h2]
  rfl
theorem dec_hi {s : ByteArray} {i : Nat} (hlt : i < s.size) (h : 128 ≤ ((strB s).getD i 0).toNat) :
    128 ≤ (Utf8.decode s i).1 ∧ (Utf8.decode s i).1 ≤ 2147483647 ∧ 1 ≤ (Utf8.decode s i).2 ∧ i + (Utf8.decode s i).2 ≤ s.size ∧ ∀ j, i ≤ j → j < i + (Utf8.decode s i).2 → 128 ≤ ((strB s).getD j 0).toNat := by
  have e0 : (s.get! (i + 0)) = (strB s).getD i 0 := get_bang s i hlt
  have h256 : ∀ k, (s.get! (i + k)).toNat < 256 := fun k => UInt8.toNat_lt _
  have hb0 : 128 ≤ (s.get! (i + 0)).toNat := by rw [e0]; exact h
  have one : ∀ j, i ≤ j → j < i + 1 → 128 ≤ ((strB s).getD j 0).toNat := fun j h1 h2 => by
    obtain rfl : j = i := by omega
    exact h
  have hcont : ∀ k, (decide (i + k < s.size) && (s.get! (i + k)).toNat / 64 == 2) = true → i + k < s.size ∧ 128 ≤ ((strB s).getD (i + k) 0).toNat := fun k hk => by
    simp only [Bool.and_eq_true, decide_eq_true_eq, beq_iff_eq] at hk
    refine ⟨hk.1, ?_⟩
    rw [← get_bang s (i + k) hk.1]
    omega
  have hre : (Utf8.runeError : Nat) = 65533 := rfl
  unfold Utf8.decode
  dsimp only
  rw [if_neg (by omega)]
  have g0 := h256 0
  have g1 := h256 1
  have g2 := h256 2
  have g3 := h256 3
  split
  · rename_i hc
    simp only [Bool.and_eq_true] at hc
    have h1 := hcont 1 (by simpa using hc.2)
    split
    · rename_i hv
      refine ⟨hv, by dsimp only; omega, by dsimp only; omega, by dsimp only; omega, fun j hj1 hj2 => ?_⟩
      dsimp only at hj2
      rcases (by omega : j = i ∨ j = i + 1) with rfl | rfl
      · exact h
      · exact h1.2
    · exact ⟨by decide, by decide, by decide, by dsimp only; omega, one⟩
  · split
    · rename_i hc
      simp only [Bool.and_eq_true] at hc
      have h1 := hcont 1 (by simpa using hc.1.2)
      have h2 := hcont 2 (by simpa using hc.2)
      split
      · rename_i hv
        simp only [Bool.and_eq_true, decide_eq_true_eq] at hv
        refine ⟨by dsimp only; omega, by dsimp only; omega, by dsimp only; omega, by dsimp only; omega, fun j hj1 hj2 => ?_⟩
        dsimp only at hj2
        rcases (by omega : j = i ∨ j = i + 1 ∨ j = i + 2) with rfl | rfl | rfl
        · exact h
        · exact h1.2
        · exact h2.2
      · exact ⟨by decide, by decide, by decide, by dsimp only; omega, one⟩
    · split
      · rename_i hc
        simp only [Bool.and_eq_true] at hc
        have h1 := hcont 1 (by simpa using hc.1.1.2)
        have h2 := hcont 2 (by simpa using hc.1.2)
        have h3 := hcont 3 (by simpa using hc.2)
        split
        · rename_i hv
          simp only [Bool.and_eq_true, decide_eq_true_eq] at hv
          refine ⟨by dsimp only; omega, by dsimp only; omega, by dsimp only; omega, by dsimp only; omega, fun j hj1 hj2 => ?_⟩
          dsimp only at hj2
          rcases (by omega : j = i ∨ j = i + 1 ∨ j = i + 2 ∨ j = i + 3) with rfl | rfl | rfl | rfl
          · exact h
          · exact h1.2
          · exact h2.2
          · exact h3.2
        · exact ⟨by decide, by decide, by decide, by dsimp only; omega, one⟩
      · exact ⟨by decide, by decide, by decide, by dsimp only; omega, one⟩
theorem indexRune_lo (c : UInt8) (hc : c.toNat < 128) : Spec Tryz.prog 100 [.raw (.string gapS), .raw (.int .i32 (c.toNat : Nat))] [] 0 (σ := Unit) (fun _ => True) (fun _ => .raw (.int .i64 (Lib.indexByte [32, 9, 35] c))) (fun _ => []) :=
  Spec.lib (vs := [.string gapS, .int .i32 (c.toNat : Nat)]) _ rfl rfl fun ρ w => (Tryz.strings_IndexRune_ascii gapS (c.toNat : Nat) w (by omega) (by omega)).mono fun e w' ⟨h1, h2⟩ => ⟨by
    rw [h1]
    show Ending.returned (.int .i64 (Lib.indexByte gapS.data.toList ((c.toNat : Nat) : Int).toNat.toUInt8)) = .returned (.int .i64 (Lib.indexByte [32, 9, 35] c))
    rw [show (((c.toNat : Nat) : Int).toNat).toUInt8 = c by rw [Int.toNat_natCast]; exact UInt8.ofNat_toNat], by rw [h2]; exact Below.refl _ _⟩
theorem useSet_spec (n : Int) : Spec Tryz.prog 101 [.raw (.int .i64 n)] [] 0 (σ := Unit) (fun _ => True) (fun _ => .raw (.bool (decide (8 < n)))) (fun _ => []) :=
  Spec.lib (vs := [.int .i64 n]) _ rfl rfl fun ρ w => (Tryz.strings_shouldUseASCIISet n w).mono fun e w' ⟨h1, h2⟩ => ⟨h1, by rw [h2]; exact Below.refl _ _⟩
theorem indexAny_long (s : ByteArray) (h8 : 8 < s.size) (hs : s.size ≤ 1000000) : Spec Tryz.prog 58 [.raw (.string s), .raw (.string gapS)] [] 0 (σ := Unit) (fun _ => True) (fun _ => .raw (.int .i64 (Lib.indexAny (strB s) [32, 9, 35]))) (fun _ => []) :=
  Spec.lib (vs := [.string s, .string gapS]) _ rfl rfl fun ρ w => (Tryz.strings_IndexAny_long (zero_of_info (n := 256) (by kernel_rfl)).1 s gapS w (by decide) h8 (by omega) (by decide) (ascii_of_all (by decide))).mono fun e w' ⟨h1, h2⟩ => ⟨h1, by rw [h2]; exact ((Below.refl _ _).alloc (Nat.le_refl _) _).alloc (by simp) _⟩
theorem indexAny_short (s : ByteArray) (h8 : ¬ 8 < s.size) : Spec Tryz.prog 58 [.raw (.string s), .raw (.string gapS)] [] 0 (σ := Unit) (fun _ => True) (fun _ => .raw (.int .i64 (Lib.indexAny (strB s) [32, 9, 35]))) (fun _ => []) := by
  refine Spec.ofF Tryz.func58 rfl Tryz.ntmps58 rfl (bdl_nil _) fun ρ w => ?_
  have hlen := strB_size s
  refine sS_ ?_
  rw [eqE]
  refine sS_ ?_
  refine R.cl [] (useSet_spec (s.size : Nat)) Tryz.call101 hS11_ rfl rfl rfl (fun _ => rfl) rfl (by kernel_rfl) fun _ _ => ?_
  rw [decide_eq_false (show ¬ (8 : Int) < (s.size : Nat) by omega)]
  refine sS_ ?_
  refine R.rngS ttok rfl rfl rfl rfl rfl fun b hW hfs => ?_
  refine sS_ ?_
  refine C.loopG (σ := Nat) (L2 := 0) (fun i => i ≤ s.size ∧ ∀ j, j < i → gapC ((strB s).getD j 0) = false) (fun _ => [(0, .raw (.string s)), (1, .raw (.string gapS)), (45, .raw (.pointer (some ⟨b, 0, none⟩)))]) (fun _ => []) (fun i => FF [] ρ w [] [⟨false, b, .stringIter s i⟩]) (fun i => s.size - i) [] 0 ⟨Nat.zero_le _, fun j h => absurd h (Nat.not_lt_zero j)⟩ rfl hS12_ hS10_ rfl (fun _ h => h) ?_
  rintro i ⟨hi, hd⟩
  refine sS_ ?_
  by_cases hlt : i < s.size
  · have hlt' : i < (strB s).length := by omega
    refine R.nxtS rfl hlt hfs hW rfl rfl ?_
    by_cases hb : ((strB s).getD i 0).toNat < 128
    · rw [decode_ascii hlt hb]
      refine sS_ ?_
      refine R.cl [] (indexRune_lo ((strB s).getD i 0) hb) Tryz.call100 hS11_ rfl rfl rfl (fun _ => rfl) rfl (by kernel_rfl) fun _ _ => ?_
      refine sS_ ?_
      rw [show decide (Lib.indexByte [32, 9, 35] ((strB s).getD i 0) ≥ 0) = gapC ((strB s).getD i 0) from gap3 _]
      cases hg : gapC ((strB s).getD i 0) with
      | true =>
        refine sS_ ?_
        rw [anyAt hlt' hd hg]
        refine X.finS ttok () [] trivial rfl rfl rfl hS7_ _ (by first | exact .inl rfl | exact .inr rfl)
      | false =>
        refine sS_ ?_
        exact X.backG [] (i + 1) ⟨by omega, fun j hj => (by
          rcases Nat.lt_or_ge j i with h | h
          · exact hd j h
          · obtain rfl : j = i := by omega
            exact hg)⟩ (by omega) rfl hS12_ hS10_ rfl (fun _ h => h)
    · have hh := dec_hi hlt (by omega)
      obtain ⟨dc, hdc⟩ : ∃ dc, Utf8.decode s i = dc := ⟨_, rfl⟩
      rw [hdc] at hh ⊢
      obtain ⟨k1, k2, k3, k4, k5⟩ := hh
      refine sS_ ?_
      refine R.cl [] (indexRune_hi dc.1 k1 k2) Tryz.call100 hS11_ rfl rfl rfl (fun _ => rfl) rfl (by kernel_rfl) fun _ _ => ?_
      refine sS_ ?_
      exact X.backG [] (i + dc.2) ⟨k4, fun j hj => (by
        rcases Nat.lt_or_ge j i with h | h
        · exact hd j h
        · exact gapC_hi (k5 j h hj))⟩ (by omega) rfl hS12_ hS10_ rfl (fun _ h => h)
  · refine R.nxtE rfl hlt rfl rfl ?_
    refine sS_ ?_
    rw [anyNo (l := strB s) fun x hx => (by
      obtain ⟨j, hj, rfl⟩ := List.mem_iff_getElem.1 hx
      have := hd j (by omega)
      rwa [List.getD_eq_getElem?_getD, List.getElem?_eq_getElem hj] at this)]
    refine X.finS ttok () [] trivial rfl rfl rfl hS7_ _ (by first | exact .inl rfl | exact .inr rfl)
theorem indexAny_spec (s : ByteArray) (hs : s.size ≤ 1000000) : Spec Tryz.prog 58 [.raw (.string s), .raw (.string gapS)] [] 0 (σ := Unit) (fun _ => True) (fun _ => .raw (.int .i64 (Lib.indexAny (strB s) [32, 9, 35]))) (fun _ => []) := by
  by_cases h8 : 8 < s.size
  · exact indexAny_long s h8 hs
  · exact indexAny_short s h8
end Go.Proofs.YtaieficgifingaaGreatDoor
namespace Go.Proofs.YtaieficgifingaaGreatDoor
set_option linter.unusedVariables false
set_option linter.unusedSimpArgs false
open Go.RowKit
theorem quoteP_lt : ∀ (l acc : List UInt8) (p : List UInt8 × List UInt8), quoteP acc l = some p → p.2.length < l.length := fun l => by
  induction hl : l.length using Nat.strongRecOn generalizing l with
  | _ k ih =>
    intro acc p h
    match l, hl, h with
    | [], _, h => rw [quoteP_nil] at h; cases h
    | c :: r, hl, h =>
      rw [List.length_cons] at hl
      by_cases h1 : c = 34
      · subst h1
        rw [quoteP_end] at h
        split at h
        · cases h; show r.length < k; omega
        · cases h
      · by_cases h2 : c.toNat < 32 ∨ 126 < c.toNat
        · rw [quoteP_bad h1 h2] at h; cases h
        · by_cases h3 : c = 92
          · subst h3
            match r, hl, h with
            | [], _, h => rw [quoteP_esc0] at h; cases h
            | d :: r2, hl, h =>
              rw [List.length_cons] at hl
              by_cases h4 : d = 34 ∨ d = 92
              · rw [quoteP_esc h4] at h
                have := ih r2.length (by omega) r2 rfl _ _ h
                omega
              · by_cases h5 : d ≠ 120 ∨ r2.length < 2
                · rw [quoteP_no h4 h5] at h; cases h
                · match r2, hl, h, h5 with
                  | [], _, _, h5 => exact absurd (.inr (by decide)) h5
                  | [_], _, _, h5 => exact absurd (.inr (by simp)) h5
                  | x1 :: x2 :: r3, hl, h, h5 =>
                    have hd : d = 120 := Classical.byContradiction fun e => h5 (.inl e)
                    rw [hd, quoteP_hex] at h
                    rw [List.length_cons, List.length_cons] at hl
                    split at h
                    · have := ih r3.length (by omega) r3 rfl _ _ h
                      omega
                    · cases h
          · rw [quoteP_one h1 h2 h3] at h
            have := ih r.length (by omega) r rfl _ _ h
            omega
theorem trim_le (l : List UInt8) : (Lib.trimLeftS l [32, 9]).length ≤ l.length := by
  unfold Lib.trimLeftS
  exact (List.dropWhile_sublist _).length_le
/-- a plain word ahead, what is behind it -/
def wordN (l : List UInt8) : Nat := if Lib.indexAny l [32, 9, 35] < 0 then l.length else (Lib.indexAny l [32, 9, 35]).toNat
/-- the words of a line -/
def wordsP (l0 : List UInt8) : Option (List (List UInt8 × Bool)) :=
  match h0 : Lib.trimLeftS l0 [32, 9] with
  | [] => some []
  | c :: r =>
    if c = 35 then some []
    else if c = 34 then
      match h : quoteP [] r with
      | none => none
      | some p => (wordsP p.2).map ((p.1, true) :: ·)
    else if h : 0 < wordN (c :: r) then (wordsP ((c :: r).drop (wordN (c :: r)))).map (((c :: r).take (wordN (c :: r)), false) :: ·)
    else none
termination_by l0.length
decreasing_by
  · have h1 := quoteP_lt r [] p h
    have h2 := trim_le l0
    rw [h0, List.length_cons] at h2
    omega
  · have h2 := trim_le l0
    rw [h0] at h2
    rw [List.length_drop]
    rw [List.length_cons] at h2 ⊢
    omega
end Go.Proofs.YtaieficgifingaaGreatDoor
namespace Go.Proofs.YtaieficgifingaaGreatDoor
set_option linter.unusedVariables false
set_option linter.unusedSimpArgs false
open Go.RowKit
set_option maxRecDepth 100000
set_option maxHeartbeats 4000000
abbrev WD := ByteArray × Bool
def wdX (p : WD) : List AV := [.raw (.string p.1), .raw (.bool p.2)]
def wds (l : List WD) : List AV := l.flatMap wdX
def wdD : WD := (⟨#[]⟩, false)
def wdF (l : List WD) (i : Nat) : List AV := wdX (l.getD i wdD)
theorem wds_app (a b : List WD) : wds (a ++ b) = wds a ++ wds b := List.flatMap_append
theorem flat_wd (l : List WD) : ∀ m off, off + m ≤ l.length → flat (fun i => wdF l (off + i)) m = wds ((l.drop off).take m)
  | 0, off, _ => by simp [flat, wds]
  | m + 1, off, h => by
    rw [flat, flat_wd l m off (by omega), List.take_add_one, wds_app]
    congr 1
    have : (l.drop off)[m]? = some (l[off + m]'(by omega)) := by rw [List.getElem?_drop, List.getElem?_eq_getElem]
    rw [this]
    simp [wds, wdF, List.getD, show off + m < l.length by omega]
theorem flat_wd0 (l : List WD) : flat (wdF l) l.length = wds l := by
  have := flat_wd l l.length 0 (by omega)
  simpa using this
abbrev tW (l : List WD) (c : Nat) : AO := .tab 2 l.length c (wdF l) 62
section
variable {E : Base} {n L : Nat} {τ : List (Nat × AV)} {h : List (Nat × AO)} {F : World → Prop}
theorem asWd (T : TypeId) (l : List WD) (xs : List AV) (hx : xs = wds l) : AsRow (fun c => .tab 2 l.length c (wdF l) T) T 2 xs := by
  rw [hx, ← flat_wd0]
  exact AsRow.tab T (by decide) fun i _ => rfl
theorem dstWd {lab cap : Nat} {l : List WD} {T : TypeId} (hl : hk lab h = some (.tab 2 l.length cap (wdF l) T)) : DstA E n L τ h F (.sl lab 2 0 l.length cap) T 2 l.length cap (wds l) [lab] := by
  have := DstA.tab (E := E) (n := n) (L := L) (τ := τ) (F := F) (by decide) hl fun i _ => rfl
  rwa [flat_wd0] at this
end
theorem strB_inj {a b : ByteArray} (h : strB a = strB b) : a = b := by
  cases a; cases b
  congr 1
  exact Array.toList_inj.1 h
/-- words as they come out of texts -/
def wsOf (l : List (List UInt8 × Bool)) : List WD := l.map fun p => (strOf p.1, p.2)
theorem wordsP_end {l0 : List UInt8} (h : Lib.trimLeftS l0 [32, 9] = [] ∨ ∃ r, Lib.trimLeftS l0 [32, 9] = 35 :: r) : wordsP l0 = some [] := by
  rw [wordsP]
  rcases h with h | ⟨r, h⟩
  · split
    · rfl
    · rename_i e; rw [h] at e; cases e
  · split
    · rfl
    · rename_i e
      rw [h] at e
      cases e
      rw [if_pos rfl]
theorem wordsP_q {l0 r : List UInt8} (h : Lib.trimLeftS l0 [32, 9] = 34 :: r) : wordsP l0 = match quoteP [] r with
    | none => none
    | some p => (wordsP p.2).map ((p.1, true) :: ·) := by
  rw [wordsP]
  split
  · rename_i e; rw [h] at e; cases e
  · rename_i e
    rw [h] at e
    cases e
    rw [if_neg (by decide), if_pos rfl]
    split <;> rename_i e <;> rw [e]
theorem trim_head {l0 r : List UInt8} {c : UInt8} (h : Lib.trimLeftS l0 [32, 9] = c :: r) : ([32, 9] : List UInt8).contains c = false := by
  unfold Lib.trimLeftS at h
  have := List.head?_dropWhile_not (fun x => ([32, 9] : List UInt8).contains x) l0
  rw [h] at this
  simpa using this
theorem wordN_pos {r : List UInt8} {c : UInt8} (h1 : ([32, 9] : List UInt8).contains c = false) (h2 : c ≠ 35) : 0 < wordN (c :: r) := by
  unfold wordN
  have hc : gapC c = false := by
    unfold gapC
    simp only [List.contains_cons, Bool.or_eq_false_iff, List.contains_nil, and_true] at h1 ⊢
    simp only [beq_eq_false_iff_ne] at h1 ⊢
    exact ⟨h1.1, h1.2, h2⟩
  split
  · simp
  · rename_i hn
    have : Lib.indexAny (c :: r) [32, 9, 35] ≠ 0 := by
      unfold Lib.indexAny
      rw [show ([32, 9, 35] : List UInt8).contains c = false from hc]
      have hge := Lib.indexAny_ge [32, 9, 35] r
      simp only [Bool.false_eq_true, if_false]
      split
      · decide
      · rename_i he
        have : Lib.indexAny r [32, 9, 35] ≠ -1 := by simpa using he
        omega
    omega
theorem wordsP_w {l0 r : List UInt8} {c : UInt8} (h : Lib.trimLeftS l0 [32, 9] = c :: r) (h1 : c ≠ 35) (h2 : c ≠ 34) : wordsP l0 = (wordsP ((c :: r).drop (wordN (c :: r)))).map (((c :: r).take (wordN (c :: r)), false) :: ·) := by
  rw [wordsP]
  split
  · rename_i e; rw [h] at e; cases e
  · rename_i e
    rw [h] at e
    cases e
    rw [if_neg h1, if_neg h2, dif_pos (wordN_pos (trim_head h) h1)]
end Go.Proofs.YtaieficgifingaaGreatDoor
namespace Go.Proofs.YtaieficgifingaaGreatDoor
set_option linter.unusedVariables false
set_option linter.unusedSimpArgs false
open Go.RowKit
set_option maxRecDepth 100000
set_option maxHeartbeats 4000000
structure WS where
  l : List WD
  c : Nat
  ok : Bool
def wordsG (l0 : List UInt8) (s : WS) : Prop := (match wordsP l0 with
  | some ws => s.l = wsOf ws ∧ s.ok = true
  | none => s.l = [] ∧ s.ok = false) ∧ s.l.length ≤ s.c ∧ s.c ≤ 9223372036854775807 ∧ s.l.length ≤ l0.length
structure WL where
  ln : ByteArray
  w : List WD
  c : Nat
def WL.ok (l0 : List UInt8) (s : WL) : Prop := s.w.length + s.ln.size ≤ l0.length ∧ s.w.length ≤ s.c ∧ s.c ≤ 9223372036854775807 ∧ (wordsP l0).map wsOf = (wordsP (strB s.ln)).map (fun ws => s.w ++ wsOf ws)
theorem endG {l0 : List UInt8} {W : List WD} {c : Nat} (h4 : (wordsP l0).map wsOf = some (W ++ wsOf [])) (h2 : W.length ≤ c) (h3 : c ≤ 9223372036854775807) (h1 : W.length ≤ l0.length) : wordsG l0 ⟨W, c, true⟩ := by
  refine ⟨?_, h2, h3, h1⟩
  cases hw : wordsP l0 with
  | none => rw [hw] at h4; cases h4
  | some ws =>
    rw [hw] at h4
    have h5 := Option.some.inj h4
    rw [show wsOf [] = [] from rfl, List.append_nil] at h5
    exact ⟨h5.symm, rfl⟩
theorem noG {l0 : List UInt8} (h4 : (wordsP l0).map wsOf = none) : wordsG l0 ⟨[], 0, false⟩ := by
  refine ⟨?_, Nat.le_refl _, Nat.zero_le _, Nat.zero_le _⟩
  cases hw : wordsP l0 with
  | none => exact ⟨rfl, rfl⟩
  | some ws => rw [hw] at h4; cases h4
theorem extract_take (s : ByteArray) (i : Nat) : strB (s.extract 0 i) = (strB s).take i := by
  unfold strB
  rw [ByteArray.data_extract, Array.toList_extract, List.extract_eq_take_drop]
  rfl
theorem any_lt : ∀ (l : List UInt8), l ≠ [] → Lib.indexAny l [32, 9, 35] < (l.length : Nat)
  | [], h => absurd rfl h
  | c :: r, _ => by
    unfold Lib.indexAny
    rw [List.length_cons]
    split
    · omega
    · split
      · omega
      · cases r with
        | nil => unfold Lib.indexAny; omega
        | cons d r2 =>
          have := any_lt (d :: r2) (by simp)
          omega
theorem words_spec (s : ByteArray) (hs : s.size ≤ 1000000) : Spec Tryz.prog 20 [.raw (.string s)] [] 1 (σ := WS) (wordsG (strB s)) (fun r => .tup [.sl 0 2 0 r.l.length r.c, .raw (.bool r.ok)]) (fun r => [(0, tW r.l r.c)]) := by
  refine Spec.of Tryz.func20 rfl Tryz.ntmps20 rfl (bdl_nil _) fun ρ w => ?_
  have hlen := strB_size s
  refine C.seq ?_
  refine C.region ?_
  repeat (first | refine R.zb ttok ?_ | refine R.zu ttok ?_ | refine R.zc ttok ?_ | refine R.za ttok ?_ | refine R.zx ?_ | refine R.zl ttok ?_ | refine R.zs ttok ?_ | refine R.z ttok ?_ | refine R.zk ?_ | refine R.zn ?_)
  refine R.done ?_
  refine X.then ?_
  refine C.seq ?_
  refine C.region ?_
  repeat (first | refine R.zb ttok ?_ | refine R.zu ttok ?_ | refine R.zc ttok ?_ | refine R.za ttok ?_ | refine R.zx ?_ | refine R.zl ttok ?_ | refine R.zs ttok ?_ | refine R.z ttok ?_ | refine R.zk ?_ | refine R.zn ?_)
  refine R.done ?_
  refine X.then ?_
  refine C.noneT 4 (.sl 0 2 0 0 0) (.tab 2 0 0 (wdF []) 62) (none_tab _ _ _ _) rfl rfl rfl (fun ρ h => sl_none h) ?_
  refine sS_ ?_
  refine C.loop (σ := WL) (L2 := 1) (WL.ok (strB s)) (fun x => [(0, .raw (.string x.ln)), (4, .sl 0 2 0 x.w.length x.c)]) (fun x => [(0, tW x.w x.c)]) _ (fun x => x.ln.size) [] ⟨s, [], 0⟩ ⟨by show 0 + s.size ≤ _; omega, Nat.le_refl _, Nat.zero_le _, by simp⟩ rfl hS12_ hS10_ rfl (fun _ h => h) ?_
  rintro ⟨ln, W, c⟩ ⟨h1, h2, h3, h4⟩
  dsimp only at h1 h2 h3 h4 ⊢
  refine sS_ ?_
  refine R.cl [] (trimLeft_spec ln) Tryz.call56 hS11_ rfl rfl rfl (fun _ => rfl) rfl (by kernel_rfl) fun _ _ => ?_
  obtain ⟨l1, hl1⟩ : ∃ l1, Lib.trimLeftS (strB ln) [32, 9] = l1 := ⟨_, rfl⟩
  have htl := trim_le (strB ln)
  rw [strB_size] at htl
  rw [hl1] at htl ⊢
  refine sS_ ?_
  rw [eqE, show strB (strOf l1) = l1 from rfl]
  cases l1 with
  | nil =>
    rw [wordsP_end (.inl hl1)] at h4
    refine sS_ ?_
    refine X.fin ttok ⟨W, c, true⟩ [] (endG h4 h2 h3 (by omega)) rfl rfl rfl hS7_ _ (by first | exact .inl rfl | exact .inr rfl)
  | cons b r =>
    have hbN : b.toNat < 256 := b.toNat_lt
    have hcv : ∀ k : UInt8, ((((b.toNat : Nat) : Int) = (k.toNat : Nat)) ↔ b = k) := fun k => ⟨fun e => UInt8.toNat_inj.1 (by omega), fun e => by rw [e]⟩
    have hsz : (strOf (b :: r)).size = r.length + 1 := by simp [strOf]; rfl
    refine sS_ ?_
    refine R.sx ttok 0 rfl rfl rfl rfl rfl rfl (by show 0 < (b :: r).length; simp) ?_
    rw [show (strOf (b :: r)).data.toList.getD 0 0 = b from rfl]
    refine sS_ ?_
    by_cases h35 : b = 35
    · rw [decide_eq_true (show (((b.toNat : Nat) : Int) = 35) from (hcv 35).2 h35)]
      rw [wordsP_end (l0 := strB ln) (.inr ⟨r, by rw [hl1, h35]⟩)] at h4
      refine sS_ ?_
      refine X.fin ttok ⟨W, c, true⟩ [] (endG h4 h2 h3 (by omega)) rfl rfl rfl hS7_ _ (by first | exact .inl rfl | exact .inr rfl)
    · rw [decide_eq_false (show ¬ (((b.toNat : Nat) : Int) = 35) from fun e => h35 ((hcv 35).1 e))]
      refine sS_ ?_
      refine R.sx ttok 0 rfl rfl rfl rfl rfl rfl (by show 0 < (b :: r).length; simp) ?_
      rw [show (strOf (b :: r)).data.toList.getD 0 0 = b from rfl]
      refine sS_ ?_
      by_cases h34 : b = 34
      · rw [decide_eq_true (show (((b.toNat : Nat) : Int) = 34) from (hcv 34).2 h34)]
        rw [wordsP_q (l0 := strB ln) (r := r) (by rw [hl1, h34])] at h4
        simp only [List.length_cons] at htl
        refine sS_ ?_
        refine R.cl [] (quoted_spec (strOf (b :: r)) (by omega)) Tryz.call57 hS11_ rfl rfl rfl (fun _ => rfl) rfl (by kernel_rfl) fun q hq => ?_
        have hq : match quoteP [] r with
          | some p => strB q.1 = p.1 ∧ strB q.2.1 = p.2 ∧ q.2.2 = true
          | none => q.2.2 = false := hq
        obtain ⟨q1, q2, q3⟩ := q
        cases hqp : quoteP [] r with
        | none =>
          rw [hqp] at hq h4
          dsimp only at hq h4
          subst hq
          refine sS_ ?_
          refine X.noneT 2 (.sl 1 2 0 0 0) (.tab 2 0 0 (wdF []) 62) (none_tab _ _ _ _) rfl rfl rfl (fun ρ h => sl_none h) ?_
          refine X.fin ttok ⟨[], 0, false⟩ [(0, 1)] (noG h4) rfl rfl rfl hS7_ _ (by first | exact .inl rfl | exact .inr rfl)
        | some p =>
          rw [hqp] at hq h4
          have hlt := quoteP_lt r [] p hqp
          obtain ⟨p1, p2⟩ := p
          dsimp only at hq h4 hlt
          obtain ⟨e1, e2, rfl⟩ := hq
          have e1' : q1 = strOf p1 := strB_inj e1
          have hq2 : q2.size = p2.length := by rw [← strB_size, e2]
          refine sS_ ?_
          refine R.app (xs := wds W) (news := wds [(q1, true)]) ttok (fun c => tW (W ++ [(q1, true)]) c) rfl rfl (dstWd rfl) (SrcA.cells rfl rfl) (asWd _ _ _ (wds_app _ _).symm) rfl rfl rfl rfl rfl rfl (by decide) rfl rfl rfl (by kernel_rfl) h3 (by show (W.length + 1) * 24 ≤ _; omega) (by omega) fun cB hB hB2 => ?_
          have hlW : (W ++ [(q1, true)]).length = W.length + 1 := by simp
          rw [← hlW] at hB ⊢
          refine sS_ ?_
          exact X.back [(0, 2)] ⟨q2, W ++ [(q1, true)], cB⟩ ⟨by show (W ++ [(q1, true)]).length + q2.size ≤ _; omega, hB, hB2, by
            rw [h4, Option.map_map]
            show _ = Option.map _ (wordsP (strB q2))
            rw [e2]
            congr 1
            funext ws
            show W ++ wsOf ((p1, true) :: ws) = W ++ [(q1, true)] ++ wsOf ws
            rw [List.append_assoc, e1']
            rfl⟩ (by show q2.size < ln.size; omega) rfl hS12_ hS10_ rfl (fun _ h => h)
      · rw [decide_eq_false (show ¬ (((b.toNat : Nat) : Int) = 34) from fun e => h34 ((hcv 34).1 e))]
        rw [wordsP_w (l0 := strB ln) hl1 h35 h34] at h4
        have hpos := wordN_pos (r := r) (trim_head hl1) h35
        simp only [List.length_cons] at htl
        refine sS_ ?_
        refine R.cl [] (indexAny_spec (strOf (b :: r)) (by omega)) Tryz.call58 hS11_ rfl rfl rfl (fun _ => rfl) rfl (by kernel_rfl) fun _ _ => ?_
        rw [show strB (strOf (b :: r)) = b :: r from rfl]
        obtain ⟨k, hk⟩ : ∃ k, Lib.indexAny (b :: r) [32, 9, 35] = k := ⟨_, rfl⟩
        obtain ⟨N, hN⟩ : ∃ N, wordN (b :: r) = N := ⟨_, rfl⟩
        have hNd : N = if k < 0 then r.length + 1 else k.toNat := by rw [← hN, ← hk]; rfl
        have hle : k < r.length + 1 := by rw [← hk]; exact any_lt (b :: r) (by simp)
        rw [hk]
        rw [hN] at hpos h4
        have hNl : N ≤ r.length + 1 := by rw [hNd]; split <;> omega
        refine sS_ ?_
        by_cases hk0 : k < 0
        · rw [decide_eq_true hk0]
          have hNe : N = r.length + 1 := by rw [hNd, if_pos hk0]
          refine sS_ ?_
          rw [hsz, ← hNe]
          refine sS_ ?_
          refine C.draw [[], [], [], [1, 2], [1, 2, 3], [1, 2, 3, 4], [0, 1, 2, 3, 4, 5], [], [], [7, 8], [0, 1, 2, 3, 4, 5, 6], [0, 1, 2, 3, 4, 5, 6, 7, 8, 9, 10]] [5, 6] (by kernel_rfl) (by kernel_rfl) ?_
          refine sS_ ?_
          refine R.sls ttok 0 N rfl rfl rfl rfl (by kernel_rfl) rfl ⟨_, _, rfl, rfl⟩ (Nat.zero_le _) (by rw [hsz]; exact hNl) ?_
          obtain ⟨q1, hq1⟩ : ∃ q, (strOf (b :: r)).extract 0 N = q := ⟨_, rfl⟩
          have e1 : strB q1 = (b :: r).take N := by rw [← hq1]; exact extract_take _ _
          have e1' : q1 = strOf ((b :: r).take N) := strB_inj e1
          rw [hq1]
          refine sS_ ?_
          refine R.app (xs := wds W) (news := wds [(q1, false)]) ttok (fun c => tW (W ++ [(q1, false)]) c) rfl rfl (dstWd rfl) (SrcA.cells rfl rfl) (asWd _ _ _ (wds_app _ _).symm) rfl rfl rfl rfl rfl rfl (by decide) rfl rfl rfl (by kernel_rfl) h3 (by show (W.length + 1) * 24 ≤ _; omega) (by omega) fun cB hB hB2 => ?_
          have hlW : (W ++ [(q1, false)]).length = W.length + 1 := by simp
          rw [← hlW] at hB ⊢
          refine sS_ ?_
          refine R.sls ttok N (r.length + 1) rfl rfl rfl rfl (by kernel_rfl) ⟨_, _, rfl, rfl⟩ hsz.symm hNl (by rw [hsz]; exact Nat.le_refl _) ?_
          obtain ⟨q2, hq2⟩ : ∃ q, (strOf (b :: r)).extract N (r.length + 1) = q := ⟨_, rfl⟩
          have e2 : strB q2 = (b :: r).drop N := by rw [← hq2, ← hsz]; exact extract_drop _ _
          have hq2s : q2.size = r.length + 1 - N := by rw [← strB_size, e2, List.length_drop]; rfl
          rw [hq2]
          refine sS_ ?_
          exact X.back [(0, 2)] ⟨q2, W ++ [(q1, false)], cB⟩ ⟨by show (W ++ [(q1, false)]).length + q2.size ≤ _; omega, hB, hB2, by
            rw [h4, Option.map_map]
            show _ = Option.map _ (wordsP (strB q2))
            rw [e2]
            congr 1
            funext ws
            show W ++ wsOf (((b :: r).take N, false) :: ws) = W ++ [(q1, false)] ++ wsOf ws
            rw [List.append_assoc, e1']
            rfl⟩ (by show q2.size < ln.size; omega) rfl hS12_ hS10_ rfl (fun _ h => h)
        · rw [decide_eq_false hk0]
          have hNe : k = (N : Nat) := by rw [hNd, if_neg hk0]; omega
          rw [hNe]
          refine sS_ ?_
          refine C.draw [[], [], [], [1, 2], [1, 2, 3], [1, 2, 3, 4], [0, 1, 2, 3, 4, 5], [], [], [7, 8], [0, 1, 2, 3, 4, 5, 6], [0, 1, 2, 3, 4, 5, 6, 7, 8, 9, 10]] [5, 6] (by kernel_rfl) (by kernel_rfl) ?_
          refine sS_ ?_
          refine R.sls ttok 0 N rfl rfl rfl rfl (by kernel_rfl) rfl ⟨_, _, rfl, rfl⟩ (Nat.zero_le _) (by rw [hsz]; exact hNl) ?_
          obtain ⟨q1, hq1⟩ : ∃ q, (strOf (b :: r)).extract 0 N = q := ⟨_, rfl⟩
          have e1 : strB q1 = (b :: r).take N := by rw [← hq1]; exact extract_take _ _
          have e1' : q1 = strOf ((b :: r).take N) := strB_inj e1
          rw [hq1]
          refine sS_ ?_
          refine R.app (xs := wds W) (news := wds [(q1, false)]) ttok (fun c => tW (W ++ [(q1, false)]) c) rfl rfl (dstWd rfl) (SrcA.cells rfl rfl) (asWd _ _ _ (wds_app _ _).symm) rfl rfl rfl rfl rfl rfl (by decide) rfl rfl rfl (by kernel_rfl) h3 (by show (W.length + 1) * 24 ≤ _; omega) (by omega) fun cB hB hB2 => ?_
          have hlW : (W ++ [(q1, false)]).length = W.length + 1 := by simp
          rw [← hlW] at hB ⊢
          refine sS_ ?_
          refine R.sls ttok N (r.length + 1) rfl rfl rfl rfl (by kernel_rfl) ⟨_, _, rfl, rfl⟩ hsz.symm hNl (by rw [hsz]; exact Nat.le_refl _) ?_
          obtain ⟨q2, hq2⟩ : ∃ q, (strOf (b :: r)).extract N (r.length + 1) = q := ⟨_, rfl⟩
          have e2 : strB q2 = (b :: r).drop N := by rw [← hq2, ← hsz]; exact extract_drop _ _
          have hq2s : q2.size = r.length + 1 - N := by rw [← strB_size, e2, List.length_drop]; rfl
          rw [hq2]
          refine sS_ ?_
          exact X.back [(0, 2)] ⟨q2, W ++ [(q1, false)], cB⟩ ⟨by show (W ++ [(q1, false)]).length + q2.size ≤ _; omega, hB, hB2, by
            rw [h4, Option.map_map]
            show _ = Option.map _ (wordsP (strB q2))
            rw [e2]
            congr 1
            funext ws
            show W ++ wsOf (((b :: r).take N, false) :: ws) = W ++ [(q1, false)] ++ wsOf ws
            rw [List.append_assoc, e1']
            rfl⟩ (by show q2.size < ln.size; omega) rfl hS12_ hS10_ rfl (fun _ h => h)
end Go.Proofs.YtaieficgifingaaGreatDoor
namespace Go.Proofs.YtaieficgifingaaGreatDoor
set_option linter.unusedVariables false
set_option linter.unusedSimpArgs false
open Go.RowKit
set_option maxRecDepth 100000
set_option maxHeartbeats 4000000
/-- the first line, what is behind its end -/
def lineN (l : List UInt8) : Nat := if Lib.indexByte l 10 < 0 then l.length else (Lib.indexByte l 10).toNat
def lineA (l : List UInt8) : List UInt8 := l.take (lineN l)
def lineB (l : List UInt8) : List UInt8 := l.drop (lineN l + 1)
theorem index1_spec (s : ByteArray) : Spec Tryz.prog 120 [.raw (.string s), .raw (.string ⟨#[10]⟩)] [] 0 (σ := Unit) (fun _ => True) (fun _ => .raw (.int .i64 (Lib.indexByte (strB s) 10))) (fun _ => []) :=
  Spec.lib (vs := [.string s, .string ⟨#[10]⟩]) _ rfl rfl fun ρ w => (Tryz.stringslite_Index_one s 10 w).mono fun e w' ⟨h1, h2⟩ => ⟨h1, by rw [h2]; exact Below.refl _ _⟩
theorem byte_lt : ∀ (l : List UInt8), 0 ≤ Lib.indexByte l 10 → Lib.indexByte l 10 < (l.length : Nat)
  | [], h => by simp [Lib.indexByte] at h
  | c :: r, h => by
    unfold Lib.indexByte at h ⊢
    rw [List.length_cons]
    have hge := Lib.indexByte_ge r 10
    split
    · omega
    · rename_i h1
      rw [if_neg h1] at h
      split
      · omega
      · rename_i h2
        have h2' : Lib.indexByte r 10 ≠ -1 := by simpa using h2
        have := byte_lt r (by omega)
        omega
theorem cut1_spec (s : ByteArray) (hs : s.size ≤ 1000000) : Spec Tryz.prog 93 [.raw (.string s), .raw (.string ⟨#[10]⟩)] [] 0 (σ := Bool) (fun _ => True) (fun b => .tup [.raw (.string (strOf (lineA (strB s)))), .raw (.string (strOf (lineB (strB s)))), .raw (.bool b)]) (fun _ => []) := by
  refine Spec.of Tryz.func93 rfl Tryz.ntmps93 rfl (bdl_nil _) fun ρ w => ?_
  have hlen := strB_size s
  refine sS_ ?_
  refine R.cl [] (index1_spec s) Tryz.call120 hS11_ rfl rfl rfl (fun _ => rfl) rfl (by kernel_rfl) fun _ _ => ?_
  obtain ⟨k, hk⟩ : ∃ k, Lib.indexByte (strB s) 10 = k := ⟨_, rfl⟩
  obtain ⟨N, hN⟩ : ∃ N, lineN (strB s) = N := ⟨_, rfl⟩
  have hNd : N = if k < 0 then (strB s).length else k.toNat := by rw [← hN, ← hk]; rfl
  have hlt := byte_lt (strB s)
  rw [hk] at hlt
  rw [hk]
  unfold lineA lineB
  rw [hN]
  refine sS_ ?_
  by_cases h0 : 0 ≤ k
  · rw [decide_eq_true h0]
    have hlt := hlt h0
    have hNe : k = (N : Nat) := by rw [hNd, if_neg (by omega)]; omega
    subst hNe
    have hN2 : N + 1 ≤ s.size := by omega
    refine sS_ ?_
    refine C.draw [[], [], [0, 1], [], [], [], [5], [4, 5, 6], [3, 4, 5, 6, 7], [0, 1, 2], [0, 1, 2, 3, 4, 5, 6, 7, 8, 9], [0, 1, 2, 3, 4, 5, 6, 7, 8, 9, 10]] [] (by kernel_rfl) (by kernel_rfl) ?_
    refine sS_ ?_
    refine R.sls ttok 0 N rfl rfl rfl rfl (by kernel_rfl) rfl ⟨_, _, rfl, rfl⟩ (Nat.zero_le _) (by omega) ?_
    rw [show s.extract 0 N = strOf ((strB s).take N) from strB_inj (extract_take _ _)]
    refine sS_ ?_
    refine R.sls ttok (N + 1) s.size rfl rfl rfl rfl (by kernel_rfl) ⟨_, _, rfl, by
      rw [show ((⟨#[10]⟩ : ByteArray).size) = 1 from rfl]
      exact (wrap_i64 (by omega) (by omega)).trans (by omega)⟩ rfl hN2 (Nat.le_refl _) ?_
    rw [show s.extract (N + 1) s.size = strOf ((strB s).drop (N + 1)) from strB_inj (extract_drop _ _)]
    refine sS_ ?_
    refine X.fin ttok true [] trivial rfl rfl rfl hS7_ _ (by first | exact .inl rfl | exact .inr rfl)
  · rw [decide_eq_false h0]
    have hNe : N = (strB s).length := by rw [hNd, if_pos (by omega)]
    refine sS_ ?_
    rw [hNe, List.take_length, List.drop_eq_nil_of_le (by omega)]
    rw [show s = strOf (strB s) from strB_inj rfl]
    refine X.fin ttok false [] trivial rfl rfl rfl hS7_ _ (by first | exact .inl rfl | exact .inr rfl)
theorem cut_spec (s : ByteArray) (hs : s.size ≤ 1000000) : Spec Tryz.prog 55 [.raw (.string s), .raw (.string ⟨#[10]⟩)] [] 0 (σ := Bool) (fun _ => True) (fun b => .tup [.raw (.string (strOf (lineA (strB s)))), .raw (.string (strOf (lineB (strB s)))), .raw (.bool b)]) (fun _ => []) := by
  refine Spec.of Tryz.func55 rfl Tryz.ntmps55 rfl (bdl_nil _) fun ρ w => ?_
  refine sS_ ?_
  refine R.cl [] (cut1_spec s hs) Tryz.call93 hS11_ rfl rfl rfl (fun _ => rfl) rfl (by kernel_rfl) fun b _ => ?_
  refine sS_ ?_
  refine X.fin ttok b [] trivial rfl rfl rfl hS7_ _ (by first | exact .inl rfl | exact .inr rfl)
end Go.Proofs.YtaieficgifingaaGreatDoor
namespace Go.Proofs.YtaieficgifingaaGreatDoor
set_option linter.unusedVariables false
set_option linter.unusedSimpArgs false
open Go.RowKit
set_option maxRecDepth 100000
set_option maxHeartbeats 4000000
def env1 (b : Nat) : Env := fun l => if l = 0 then some b else none
theorem gam_one {b0 n : Nat} {τ : List (Nat × AV)} {v : Value} {T : TypeId} {F : World → Prop} {a : Act} {w : World} (hdf : a.defers = []) (hsz : a.tmps.size = n) (htm : ∀ t v, lk t τ = some v → v.bd 1 = true ∧ a.tmps[t]? = some (v.conc (env1 b0))) (hat : w.heap[b0]? = some (.cells #[v] T (0, 0))) (hF : ∀ w', Ag (fun b => b ≠ b0) w w' → F w') :
    Gam ⟨1, env1 b0, []⟩ (env1 b0) n 1 τ [(0, .cells [.raw v] T)] F a w := by
  have h0 : ∀ l o, hk l [(0, AO.cells [.raw v] T)] = some o → l = 0 ∧ o = .cells [.raw v] T := fun l o h => by
    rw [hk_cons] at h
    split at h
    · rename_i e; subst e; exact ⟨rfl, (Option.some.inj h).symm⟩
    · simp [hk, lk] at h
  refine ⟨hdf, hsz, fun t v hv => ⟨bdLow (htm t v hv).1 _, (htm t v hv).2⟩, fun l o hl => ?_, fun l l' b hl hl' hb hb' => ?_, fun w' hw' => hF w' (hw'.mono fun b hb hd l hl e => ?_), fun _ _ => rfl, Nat.le_refl _, fun l b hl hb => ?_⟩
  · obtain ⟨rfl, rfl⟩ := h0 l o hl
    exact ⟨Nat.zero_lt_one, AO.Low.cells _ fun x hx => (by rw [List.mem_singleton] at hx; subst hx; exact AV.Low.raw _ _ _), b0, rfl, hat⟩
  · obtain ⟨o, ho, _⟩ := hl
    cases hx : hk l' [(0, AO.cells [.raw v] T)] with
    | none => exact absurd hx hl'
    | some o' => rw [(h0 l o ho).1, (h0 l' o' hx).1]
  · obtain ⟨o, ho, _⟩ := hl
    obtain ⟨rfl, _⟩ := h0 l o ho
    exact hd (Option.some.inj e).symm
  · obtain rfl : l = 0 := by omega
    cases hb
    exact (Array.getElem?_eq_some_iff.1 hat).1
section
variable {σ : Type} (rem : σ → ByteArray) (num : σ → Nat)
theorem lines_itp (b0 : Nat) (text : ByteArray) (hsz : text.size ≤ 1000000) : ItP Tryz.prog 54 b0 (.cells #[.string text] 9 (0, 0)) (fun x : Nat × ByteArray => #[.int .i64 (x.1 : Nat), .string x.2])
    (fun s x => strB (rem s) ≠ [] ∧ x = (num s, strOf (lineA (strB (rem s))))) (fun s x s' => rem s' = strOf (lineB (strB (rem s))) ∧ num s' = num s + 1) (fun s => rem s = text ∧ num s = 1) (fun s => strB (rem s) = []) := by
  intro lY J Jp ch s0 W0 hgrow hgrowP hy hJ hini hat
  refine (callsIn_wide (n := 0)).2 ?_
  refine calls_of_wp Tryz.func54 rfl ?_
  rw [Tryz.ntmps54]
  have g := gam_one (b0 := b0) (n := 23) (τ := [(0, .raw (.func (.yield lY) #[] #[])), (1, .ptr 0 0 0 0)]) (v := .string text) (T := 9) (F := J s0) (w := W0) (a := { tmps := #[.func (.yield lY) #[] #[], .pointer (some ⟨b0, 0, none⟩)] ++ Array.replicate (23 - 2) undef, defers := [] }) rfl (by simp) (fun t v hv => by
    simp only [lk_cons] at hv
    repeat (split at hv; · (rename_i e; subst e; cases hv; exact ⟨rfl, by simp [AV.conc, env1]⟩))
    simp [lk] at hv) hat (fun w' hw => hgrow s0 W0 w' hJ hw)
  rw [← hini.1] at g
  refine C.out ?_ _ _ W0 g
  clear g
  refine sS_ ?_
  refine C.loopG (σ := σ) (L2 := 1) (fun s => (rem s).size ≤ 1000000 ∧ num s + (rem s).size ≤ 2000000) (fun s => [(0, .raw (.func (.yield lY) #[] #[])), (1, .ptr 0 0 0 0), (3, .raw (.int .i64 (num s : Nat)))]) (fun s => [(0, .cells [.raw (.string (rem s))] 9)]) (fun s => J s) (fun s => (rem s).size) [] s0 ⟨by rw [hini.1]; exact hsz, by rw [hini.1, hini.2]; omega⟩ rfl (by show HasT _ _ _ [_, _, (3, .raw (.int .i64 ((num s0 : Nat) : Int)))]; rw [hini.2]; exact hS12_) hS10_ rfl (fun _ h => h) ?_
  rintro s ⟨h1, h2⟩
  refine sS_ ?_
  rw [neE]
  cases hl : strB (rem s) with
  | nil =>
    refine sS_ ?_
    refine X.end_ ttok rfl fun ρ a w g => .inl ⟨_, rfl, s, g.fr w (Ag.refl _ _), hl⟩
  | cons x r =>
    refine sS_ ?_
    refine R.cl [] (cut_spec (rem s) h1) Tryz.call55 hS11_ rfl rfl rfl (fun _ => rfl) rfl (by kernel_rfl) fun fb _ => ?_
    repeat (first | refine R.zb ttok ?_ | refine R.zu ttok ?_ | refine R.zc ttok ?_ | refine R.za ttok ?_ | refine R.zx ?_ | refine R.zl ttok ?_ | refine R.zs ttok ?_ | refine R.z ttok ?_ | refine R.zk ?_ | refine R.zn ?_)
    refine R.done ?_
    refine X.then ?_
    refine C.seq ?_
    refine C.seq ?_
    refine C.regionY ?_
    repeat (refine RY.one (hQ := by rintro ⟨_, _, ⟨_, h, _⟩ | ⟨_, h, _⟩⟩ <;> cases h) ?_; (first | refine R.z ttok ?_); refine R.done ?_; refine X.ry ?_)
    refine RY.yieldP rfl rfl rfl fun ρ a w g => ?_
    refine YieldAt.mono (hy s (num s, strOf (lineA (strB (rem s)))) w (g.fr w (Ag.refl _ _)) ⟨by rw [hl]; simp, rfl⟩) ?_
    rintro e w' (⟨rfl, ⟨s', hJ', hr', hn'⟩, hkeep⟩ | ⟨s', rfl, hJp'⟩)
    · refine .inl ⟨_, rfl, ?_⟩
      have hρ : ρ 0 = some b0 := g.ex 0 Nat.zero_lt_one
      have hbw : w.heap[b0]? = some (.cells #[.string (rem s)] 9 (0, 0)) := by
        obtain ⟨b, hb, hc⟩ := (g.hp 0 _ rfl).2.2
        rw [hρ] at hb
        cases hb
        exact hc
      have hsl : ∀ t v, lk t [(0, AV.raw (.func (.yield lY) #[] #[])), (1, .ptr 0 0 0 0), (3, .raw (.int .i64 (num s : Nat))), (5, .raw (.string (strOf (lineB (strB (rem s))))))] = some v → v.bd 1 = true ∧ t ≠ 20 ∧ a.tmps[t]? = some (v.conc (env1 b0)) := fun t v hv => by
        simp only [lk_cons] at hv
        split at hv
        · rename_i e; subst e; cases hv; exact ⟨rfl, by decide, (g.tm 0 _ rfl).2⟩
        split at hv
        · rename_i e; subst e; cases hv
          refine ⟨rfl, by decide, (g.tm 1 _ rfl).2.trans ?_⟩
          simp [AV.ren, AV.conc, hρ, env1]
        split at hv
        · rename_i e; subst e; cases hv; exact ⟨rfl, by decide, (g.tm 3 _ rfl).2⟩
        split at hv
        · rename_i e; subst e; cases hv; exact ⟨rfl, by decide, (g.tm 5 _ rfl).2⟩
        simp [lk] at hv
      have g' := gam_one (b0 := b0) (n := 23) (τ := [(20, .raw (.bool true)), (0, .raw (.func (.yield lY) #[] #[])), (1, .ptr 0 0 0 0), (3, .raw (.int .i64 (num s : Nat))), (5, .raw (.string (strOf (lineB (strB (rem s))))))]) (v := .string (rem s)) (T := 9) (F := J s') (w := w') (a := a.put (some 20) (.bool true)) g.df (by simp [Act.put, g.sz]) (fun t v hv => by
        rw [lk_cons] at hv
        split at hv
        · rename_i e; subst e; cases hv; exact ⟨rfl, by simp [Act.put, g.sz, AV.conc]⟩
        · obtain ⟨k1, k2, k3⟩ := hsl t v hv
          refine ⟨k1, ?_⟩
          simp only [Act.put]
          rw [Array.getElem?_setIfInBounds_ne (fun e => k2 e.symm)]
          exact k3) (hkeep.trans hbw) (fun x hx => hgrow s' w' x hJ' hx)
      refine RY.out ?_ _ _ w' g'
      have hsz' : (rem s').size = (strB (rem s)).length - (lineN (strB (rem s)) + 1) := by
        rw [hr', ← strB_size]
        show ((strB (rem s)).drop _).length = _
        rw [List.length_drop]
      have hlen := strB_size (rem s)
      have hpos : 0 < (strB (rem s)).length := by rw [hl]; simp
      repeat (refine RY.one (hQ := by rintro ⟨_, _, ⟨_, h, _⟩ | ⟨_, h, _⟩⟩ <;> cases h) ?_; (first | refine R.z ttok ?_); refine R.done ?_; refine X.ry ?_)
      refine RY.done ?_
      refine sS_ ?_
      rw [← hr']
      exact X.backG [] s' ⟨by omega, by omega⟩ (by omega) rfl (by
        show HasT _ _ _ [_, _, (3, .raw (.int .i64 ((num s' : Nat) : Int)))]
        rw [hn', show (((num s + 1 : Nat)) : Int) = (num s : Nat) + 1 by omega]
        exact hS12_) hS10_ rfl (fun _ h => h)
    · exact .inr ⟨_, rfl, g.df, .inr ⟨s', rfl, hJp'⟩⟩
end
end Go.Proofs.YtaieficgifingaaGreatDoor
namespace Go.Proofs.YtaieficgifingaaGreatDoor
set_option linter.unusedVariables false
set_option linter.unusedSimpArgs false
open Go.RowKit
set_option maxRecDepth 100000
set_option maxHeartbeats 4000000
/-- what is given up with -/
def refE (n : Int) (e : Int) : PanicEntry := { v := .iface 50 (.agg #[.int .i64 n, .int .i64 e]), recovered := false }
theorem refuse_panics (n : Int) (w : World) : Calls Tryz.prog 21 #[.int .i64 n] w fun e w' => e = .panicked [refE n 17] ∧ Below w.heap.size w w' := by
  refine CL.enter (f := 21) (h0 := []) (avs := [.raw (.int .i64 n)]) Tryz.func21 rfl (fun _ => none) w _ _ Tryz.ntmps21 rfl rfl (bdl_nil _) (fun i o h => by simp at h) (fun i j o b h => by simp at h) (fun i b h => absurd h (Nat.not_lt_zero i)) (C.out ?_)
  refine sS_ ?_
  refine R.mki (.agg #[.int .i64 n, .int .i64 17]) rfl (fun ρ => rfl) (Tryz.underlying50) (fun ms h => by cases h) rfl (by kernel_rfl) ?_
  refine sS_ ?_
  refine R.pan rfl rfl ?_
  exact ⟨fun ρ a w' g => ⟨g.df, rfl, ((g.fr w' (Ag.refl _ _)).mono fun b _ _ ⟨i, o, h, _⟩ => by simp at h).below (Nat.le_refl _)⟩⟩
/-- a procedure -/
abbrev prA (nm : ByteArray) (ar : Int) (cd : AV) : List AV := [.raw (.string nm), .raw (.int .i64 ar), cd]
abbrev anyO : AO := .ro 0 0 0 (fun _ => [])
theorem cells_any {ρ : Env} {r : Option Nat} {w : World} {xs : List AV} {T : TypeId} (h : (AO.cells xs T).holds ρ r w) : (anyO).holds ρ r w := by
  obtain ⟨b, hr, hb⟩ := h
  exact .inr ⟨b, _, _, _, hr, hb, fun i c x hi => by omega⟩
theorem HasIn.any {r : Nat → Nat} {h : List (Nat × AO)} {i : Nat} {os : List AO} {xs : List AV} {T : TypeId} (h1 : hk (r i) h = some (.cells xs T)) (k : HasIn r h (i + 1) os) : HasIn r h i (anyO :: os) :=
  .other h1 (fun e => by cases e) (fun ρ x w hh => cells_any hh) k
theorem any_bd (L : Nat) : AO.Bd L anyO := fun i hi => by omega
theorem parse1_ret : SpecD Tryz.prog 17 [.ptr 0 0 0 0, .ptr 1 0 0 0, .ptr 2 0 0 0] [anyO, anyO, anyO] 3 (σ := Unit) .returning .returning (fun _ => True) (fun _ => .tup []) (fun _ => []) := by
  refine SpecD.of Tryz.func17 rfl Tryz.ntmps17 .none rfl (bdl_cons (any_bd _) (bdl_cons (any_bd _) (bdl_cons (any_bd _) (bdl_nil _)))) fun ρ w => ?_
  refine sS_ ?_
  refine R.eq0 rfl (Tryz.underlying20) rfl (by kernel_rfl) ?_
  refine sS_ ?_
  refine X.fin ttok () [] trivial rfl rfl rfl hS7_ _ (by first | exact .inl rfl | exact .inr rfl)
theorem parse1_panic (n e : Int) (nm : ByteArray) (ar y z : Int) (cd : AV) (hcd : cd.bd 4 = true) : SpecD Tryz.prog 17 [.ptr 0 0 0 0, .ptr 1 0 0 0, .ptr 2 0 0 0] [.cells (prA nm ar cd) 25, .cells [.raw (.int .i64 y)] 3, .cells [.raw (.int .i64 z)] 26, anyO] 4 (σ := Unit) (.panicking [refE n e]) (.panicking [{ refE n e with recovered := true }]) (fun _ => True) (fun _ => .tup [])
    (fun _ => [(0, .cells (prA ⟨#[]⟩ 0 (.raw (.slice none 0 0))) 25), (1, .cells [.raw (.int .i64 n)] 3), (2, .cells [.raw (.int .i64 e)] 26)]) := by
  refine SpecD.of Tryz.func17 rfl Tryz.ntmps17 (.some _ _) rfl (bdl_cons (by show AV.bds 4 [_, _, cd] = true; simp [AV.bds, AV.bd, hcd]) (bdl_cons rfl (bdl_cons rfl (bdl_cons (any_bd _) (bdl_nil _))))) fun ρ w => ?_
  refine sS_ ?_
  refine R.eq1 rfl (Tryz.underlying20) rfl (by kernel_rfl) ?_
  refine sS_ ?_
  refine R.tas (.agg [.raw (.int .i64 n), .raw (.int .i64 e)]) rfl (fun ρ => rfl) rfl (Tryz.underlying50) (fun ms h => by cases h) rfl (by kernel_rfl) ?_
  refine sS_ ?_
  refine C.draw [[], [], [1], [], [3], [0], [0, 1, 2, 5], [0, 1, 2, 3, 4, 5, 6]] [5, 6, 7] (by kernel_rfl) (by kernel_rfl) ?_
  refine sS_ ?_
  refine X.fin ttok () [] trivial rfl rfl rfl hS7_ _ (by first | exact .inl rfl | exact .inr rfl)
end Go.Proofs.YtaieficgifingaaGreatDoor
namespace Go.Proofs.YtaieficgifingaaGreatDoor
set_option linter.unusedVariables false
set_option linter.unusedSimpArgs false
open Go.RowKit
set_option maxRecDepth 100000
set_option maxHeartbeats 4000000
theorem cells_roA {ρ : Env} {r : Option Nat} {w : World} {xs : List AV} {T : TypeId} (h : (AO.cells xs T).holds ρ r w) : (AO.ro 0 0 1 (fun _ => xs)).holds ρ r w := by
  obtain ⟨b, hr, hb⟩ := h
  refine .inr ⟨b, _, T, _, hr, hb, fun i c y hi hy => ?_⟩
  have hy : xs[c]? = some y := hy
  simp [concs_map, List.getElem?_map, hy]
theorem HasIn.roA {r : Nat → Nat} {h : List (Nat × AO)} {i : Nat} {os : List AO} {xs xs' : List AV} {T : TypeId} (h1 : hk (r i) h = some (.cells xs' T)) (hx : xs' = AV.rens r xs) (k : HasIn r h (i + 1) os) : HasIn r h i (.ro 0 0 1 (fun _ => xs) :: os) :=
  .other h1 (fun e => by cases e) (fun ρ x w hh => by
    subst hx
    exact cells_roA hh) k
theorem roA_bd {xs : List AV} {L : Nat} (h : AV.bds L xs = true) : AO.Bd L (.ro 0 0 1 (fun _ => xs)) := fun i _ => h
theorem HasIn.roq {r : Nat → Nat} {h : List (Nat × AO)} {i : Nat} {os : List AO} {xs xs' : List AV} (h1 : hk (r i) h = some (.ro 0 0 1 (fun _ => xs'))) (hx : AV.rens r xs = xs'.take xs.length) (k : HasIn r h (i + 1) os) : HasIn r h i (.ro 0 0 1 (fun _ => xs) :: os) :=
  .other h1 id (fun ρ x w hh => by
    rcases hh with ⟨e, h2⟩ | ⟨b, cur, T, fr, hr, hb, h3⟩
    · cases h2
    · refine .inr ⟨b, cur, T, fr, hr, hb, fun j k y hj hy => h3 j k y hj ?_⟩
      have hy : (AV.rens r xs)[k]? = some y := hy
      rw [hx, List.getElem?_take] at hy
      split at hy
      · exact hy
      · cases hy) k
theorem HasIn.roAp {r : Nat → Nat} {h : List (Nat × AO)} {i : Nat} {os : List AO} {xs xs' : List AV} {T : TypeId} (h1 : hk (r i) h = some (.cells xs' T)) (hx : AV.rens r xs = xs'.take xs.length) (k : HasIn r h (i + 1) os) : HasIn r h i (.ro 0 0 1 (fun _ => xs) :: os) :=
  .other h1 (fun e => by cases e) (fun ρ x w hh => by
    rcases cells_roA hh with ⟨e, h2⟩ | ⟨b, cur, T, fr, hr, hb, h3⟩
    · cases h2
    · refine .inr ⟨b, cur, T, fr, hr, hb, fun j k y hj hy => h3 j k y hj ?_⟩
      have hy : (AV.rens r xs)[k]? = some y := hy
      rw [hx, List.getElem?_take] at hy
      split at hy
      · exact hy
      · cases hy) k
theorem ro_any {ρ : Env} {r : Option Nat} {w : World} {wd off n0 : Nat} {f : Nat → List AV} (h : (AO.ro wd off n0 f).holds ρ r w) : anyO.holds ρ r w := by
  rcases h with ⟨e, h2⟩ | ⟨b, cur, T, fr, hr, hb, h3⟩
  · exact .inl ⟨e, rfl⟩
  · exact .inr ⟨b, cur, T, fr, hr, hb, fun i c x hi => by omega⟩
abbrev one0 (v : AV) : AO := .ro 0 0 1 (fun _ => [v])
/-- words, read only -/
abbrev roW (W : List WD) : AO := .ro 2 0 W.length (wdF W)
theorem roW_bd (L : Nat) (W : List WD) : (roW W).Bd L := fun i hi => rfl
def isP (W : List WD) (t : ByteArray) : Bool := match W with
  | [p] => !p.2 && decide (strB p.1 = strB t)
  | _ => false
theorem is_spec (W : List WD) (c : Nat) (t : ByteArray) (hW : W.length ≤ 1000000) : Spec Tryz.prog 23 [.sl 0 2 0 W.length c, .raw (.string t)] [roW W] 1 (σ := Unit) (fun _ => True) (fun _ => .raw (.bool (isP W t))) (fun _ => []) := by
  refine Spec.of Tryz.func23 rfl Tryz.ntmps23 rfl (bdl_cons (roW_bd _ _) (bdl_nil _)) fun ρ w => ?_
  refine sS_ ?_
  match W with
  | [] =>
    refine sS_ ?_
    refine X.fin ttok () [] trivial rfl rfl rfl hS7_ _ (by first | exact .inl rfl | exact .inr rfl)
  | p :: q :: r =>
    rw [decide_eq_false (show ¬ (((p :: q :: r).length : Nat) : Int) = 1 by simp only [List.length_cons]; omega)]
    refine sS_ ?_
    refine X.fin ttok () [] trivial rfl rfl rfl hS7_ _ (by first | exact .inl rfl | exact .inr rfl)
  | [(t1, q1)] =>
    refine sS_ ?_
    refine R.ix ttok 0 rfl rfl rfl rfl rfl (by kernel_rfl) rfl (Nat.zero_lt_one) ⟨Nat.le_refl 0, Nat.zero_lt_one⟩ rfl ?_
    refine sS_ ?_
    refine R.ldo (v := .raw (.bool q1)) ttok rfl rfl rfl rfl rfl (by kernel_rfl) Nat.zero_lt_one ?_
    cases q1 with
    | true =>
      refine sS_ ?_
      refine X.fin ttok () [] trivial rfl rfl rfl hS7_ _ (by first | exact .inl rfl | exact .inr rfl)
    | false =>
      refine sS_ ?_
      refine R.ix ttok 0 rfl rfl rfl rfl rfl (by kernel_rfl) rfl (Nat.zero_lt_one) ⟨Nat.le_refl 0, Nat.zero_lt_one⟩ rfl ?_
      refine sS_ ?_
      refine R.ldo (v := .raw (.string t1)) ttok rfl rfl rfl rfl rfl (by kernel_rfl) Nat.zero_lt_one ?_
      refine sS_ ?_
      rw [eqS]
      refine sS_ ?_
      refine X.fin ttok () [] trivial rfl rfl rfl hS7_ _ (by first | exact .inl rfl | exact .inr rfl)
end Go.Proofs.YtaieficgifingaaGreatDoor
namespace Go.Proofs.YtaieficgifingaaGreatDoor
set_option linter.unusedVariables false
set_option linter.unusedSimpArgs false
open Go.RowKit
set_option maxRecDepth 100000
set_option maxHeartbeats 4000000
structure Ins where
  o : Int
  a : Int
  b : Int
  c : Int
  n : Int
  k : Int
  i : Int
  t : ByteArray
abbrev insA (x : Ins) : List AV := [.raw (.int .i64 x.o), .raw (.int .i64 x.a), .raw (.int .i64 x.b), .raw (.int .i64 x.c), .raw (.int .i64 x.n), .raw (.int .i64 x.k), .raw (.int .i64 x.i), .raw (.string x.t)]
abbrev insO (x : Ins) : AO := .cells (insA x) 42
abbrev fnA : Nat := 41
abbrev fnB : Nat := 44
abbrev fnC : Nat := 45
abbrev ofT : TypeId := 110
/-- a register that a word is -/
def regW (t : ByteArray) : ByteArray := strOf (Lib.trimPrefix (strB t) [114])
def regQ (t : ByteArray) (q : Bool) : Bool := q || !Lib.hasPrefix (strB t) [114]
def regV (t : ByteArray) (q : Bool) : Nat := numV (regW t) (regQ t q)
def regB (t : ByteArray) (q : Bool) : Bool := numB (regW t) (regQ t q) && decide (regV t q < 16)
theorem inA_spec : Spec Tryz.prog 41 [.ptr 0 0 0 0] [anyO] 1 (σ := Unit) (fun _ => True) (fun _ => .ptr 0 0 0 1) (fun _ => []) := by
  refine Spec.of Tryz.func41 rfl Tryz.ntmps41 rfl (bdl_cons (any_bd _) (bdl_nil _)) fun ρ w => ?_
  refine sS_ ?_
  refine X.fin ttok () [] trivial rfl rfl rfl hS7_ _ (by first | exact .inl rfl | exact .inr rfl)
theorem inN_spec : Spec Tryz.prog 42 [.ptr 0 0 0 0] [anyO] 1 (σ := Unit) (fun _ => True) (fun _ => .ptr 0 0 0 4) (fun _ => []) := by
  refine Spec.of Tryz.func42 rfl Tryz.ntmps42 rfl (bdl_cons (any_bd _) (bdl_nil _)) fun ρ w => ?_
  refine sS_ ?_
  refine X.fin ttok () [] trivial rfl rfl rfl hS7_ _ (by first | exact .inl rfl | exact .inr rfl)
theorem inB_spec : Spec Tryz.prog 44 [.ptr 0 0 0 0] [anyO] 1 (σ := Unit) (fun _ => True) (fun _ => .ptr 0 0 0 2) (fun _ => []) := by
  refine Spec.of Tryz.func44 rfl Tryz.ntmps44 rfl (bdl_cons (any_bd _) (bdl_nil _)) fun ρ w => ?_
  refine sS_ ?_
  refine X.fin ttok () [] trivial rfl rfl rfl hS7_ _ (by first | exact .inl rfl | exact .inr rfl)
theorem inC_spec : Spec Tryz.prog 45 [.ptr 0 0 0 0] [anyO] 1 (σ := Unit) (fun _ => True) (fun _ => .ptr 0 0 0 3) (fun _ => []) := by
  refine Spec.of Tryz.func45 rfl Tryz.ntmps45 rfl (bdl_cons (any_bd _) (bdl_nil _)) fun ρ w => ?_
  refine sS_ ?_
  refine X.fin ttok () [] trivial rfl rfl rfl hS7_ _ (by first | exact .inl rfl | exact .inr rfl)
theorem regA_read (x : Ins) (t : ByteArray) (q : Bool) (ht : t.size ≤ 9223372036854775807) : Spec Tryz.prog 86 [wdA t q, .ptr 0 0 0 0, .ptr 1 0 0 0] [insO x, one0 (.fn 41 [])] 2 (σ := Unit) (fun _ => True) (fun _ => .raw (.bool (regB t q))) (fun _ => [(0, insO { x with a := (regV t q : Nat) })]) := by
  refine Spec.of Tryz.func86 rfl Tryz.ntmps86 rfl (bdl_cons rfl (bdl_cons (roA_bd rfl) (bdl_nil _))) fun ρ w => ?_
  refine sS_ ?_
  refine R.cl [] (cutPrefix_spec t 114) Tryz.call87 hS11_ rfl rfl rfl (fun _ => rfl) rfl (by kernel_rfl) fun _ _ => ?_
  refine sS_ ?_
  obtain ⟨hp, hhp⟩ : ∃ b, Lib.hasPrefix (strB t) [114] = b := ⟨_, rfl⟩
  have hq1 : regQ t q = (q || !hp) := by unfold regQ; rw [hhp]
  have hsz : (strOf (Lib.trimPrefix (strB t) [114])).size ≤ t.size := by
    rw [← strB_size, ← strB_size]
    show (Lib.trimPrefix (strB t) [114]).length ≤ _
    unfold Lib.trimPrefix
    split
    · rw [List.length_drop]; omega
    · exact Nat.le_refl _
  have key : ∀ qq, regQ t q = qq → ∀ v b, numV (regW t) qq = v → numB (regW t) qq = b → regV t q = v ∧ regB t q = (b && decide (v < 16)) := fun qq h1 v b h2 h3 => by
    unfold regB regV
    rw [h1, h2, h3]
    exact ⟨rfl, rfl⟩
  rw [hhp]
  cases q with
  | true =>
    have hk := key true (by rw [hq1]; rfl) _ _ rfl rfl
    refine sS_ ?_
    refine R.cl [] (number_spec (strOf (Lib.trimPrefix (strB t) [114])) true (by omega)) Tryz.call22 hS11_ rfl rfl rfl (fun _ => rfl) rfl (by kernel_rfl) fun _ _ => ?_
    rw [hk.1, hk.2]
    rw [show numV (strOf (Lib.trimPrefix (strB t) [114])) true = numV (regW t) true from rfl, show numB (strOf (Lib.trimPrefix (strB t) [114])) true = numB (regW t) true from rfl]
    refine sS_ ?_
    refine R.ldo (v := .fn fnA []) ttok rfl rfl rfl rfl rfl (by kernel_rfl) Nat.one_pos ?_
    refine sS_ ?_
    refine R.cl [0] (inA_spec) Tryz.call41 ((by exact HasIn.any rfl .nil)) rfl rfl rfl (fun _ => rfl) rfl (by kernel_rfl) fun _ _ => ?_
    refine sS_ ?_
    refine X.fin ttok () [] trivial rfl rfl rfl hS7_ _ (by first | exact .inl rfl | exact .inr rfl)
  | false =>
    cases hp with
    | false =>
      have hk := key true (by rw [hq1]; rfl) _ _ rfl rfl
      refine sS_ ?_
      refine R.cl [] (number_spec (strOf (Lib.trimPrefix (strB t) [114])) true (by omega)) Tryz.call22 hS11_ rfl rfl rfl (fun _ => rfl) rfl (by kernel_rfl) fun _ _ => ?_
      rw [hk.1, hk.2]
      rw [show numV (strOf (Lib.trimPrefix (strB t) [114])) true = numV (regW t) true from rfl, show numB (strOf (Lib.trimPrefix (strB t) [114])) true = numB (regW t) true from rfl]
      refine sS_ ?_
      refine R.ldo (v := .fn fnA []) ttok rfl rfl rfl rfl rfl (by kernel_rfl) Nat.one_pos ?_
      refine sS_ ?_
      refine R.cl [0] (inA_spec) Tryz.call41 ((by exact HasIn.any rfl .nil)) rfl rfl rfl (fun _ => rfl) rfl (by kernel_rfl) fun _ _ => ?_
      refine sS_ ?_
      refine X.fin ttok () [] trivial rfl rfl rfl hS7_ _ (by first | exact .inl rfl | exact .inr rfl)
    | true =>
      have hk := key false (by rw [hq1]; rfl) _ _ rfl rfl
      refine sS_ ?_
      refine R.cl [] (number_spec (strOf (Lib.trimPrefix (strB t) [114])) false (by omega)) Tryz.call22 hS11_ rfl rfl rfl (fun _ => rfl) rfl (by kernel_rfl) fun _ _ => ?_
      rw [hk.1, hk.2]
      rw [show numV (strOf (Lib.trimPrefix (strB t) [114])) false = numV (regW t) false from rfl, show numB (strOf (Lib.trimPrefix (strB t) [114])) false = numB (regW t) false from rfl]
      refine sS_ ?_
      refine R.ldo (v := .fn fnA []) ttok rfl rfl rfl rfl rfl (by kernel_rfl) Nat.one_pos ?_
      refine sS_ ?_
      refine R.cl [0] (inA_spec) Tryz.call41 ((by exact HasIn.any rfl .nil)) rfl rfl rfl (fun _ => rfl) rfl (by kernel_rfl) fun _ _ => ?_
      refine sS_ ?_
      cases hnb : numB (regW t) false with
      | false =>
        refine sS_ ?_
        refine X.fin ttok () [] trivial rfl rfl rfl hS7_ _ (by first | exact .inl rfl | exact .inr rfl)
      | true =>
        refine sS_ ?_
        rw [show decide (((numV (regW t) false : Nat) : Int) < 16) = decide (numV (regW t) false < 16) from decide_eq_decide.2 (by omega)]
        refine sS_ ?_
        refine X.fin ttok () [] trivial rfl rfl rfl hS7_ _ (by first | exact .inl rfl | exact .inr rfl)
theorem regB_read (x : Ins) (t : ByteArray) (q : Bool) (ht : t.size ≤ 9223372036854775807) : Spec Tryz.prog 86 [wdA t q, .ptr 0 0 0 0, .ptr 1 0 0 0] [insO x, one0 (.fn 44 [])] 2 (σ := Unit) (fun _ => True) (fun _ => .raw (.bool (regB t q))) (fun _ => [(0, insO { x with b := (regV t q : Nat) })]) := by
  refine Spec.of Tryz.func86 rfl Tryz.ntmps86 rfl (bdl_cons rfl (bdl_cons (roA_bd rfl) (bdl_nil _))) fun ρ w => ?_
  refine sS_ ?_
  refine R.cl [] (cutPrefix_spec t 114) Tryz.call87 hS11_ rfl rfl rfl (fun _ => rfl) rfl (by kernel_rfl) fun _ _ => ?_
  refine sS_ ?_
  obtain ⟨hp, hhp⟩ : ∃ b, Lib.hasPrefix (strB t) [114] = b := ⟨_, rfl⟩
  have hq1 : regQ t q = (q || !hp) := by unfold regQ; rw [hhp]
  have hsz : (strOf (Lib.trimPrefix (strB t) [114])).size ≤ t.size := by
    rw [← strB_size, ← strB_size]
    show (Lib.trimPrefix (strB t) [114]).length ≤ _
    unfold Lib.trimPrefix
    split
    · rw [List.length_drop]; omega
    · exact Nat.le_refl _
  have key : ∀ qq, regQ t q = qq → ∀ v b, numV (regW t) qq = v → numB (regW t) qq = b → regV t q = v ∧ regB t q = (b && decide (v < 16)) := fun qq h1 v b h2 h3 => by
    unfold regB regV
    rw [h1, h2, h3]
    exact ⟨rfl, rfl⟩
  rw [hhp]
  cases q with
  | true =>
    have hk := key true (by rw [hq1]; rfl) _ _ rfl rfl
    refine sS_ ?_
    refine R.cl [] (number_spec (strOf (Lib.trimPrefix (strB t) [114])) true (by omega)) Tryz.call22 hS11_ rfl rfl rfl (fun _ => rfl) rfl (by kernel_rfl) fun _ _ => ?_
    rw [hk.1, hk.2]
    rw [show numV (strOf (Lib.trimPrefix (strB t) [114])) true = numV (regW t) true from rfl, show numB (strOf (Lib.trimPrefix (strB t) [114])) true = numB (regW t) true from rfl]
    refine sS_ ?_
    refine R.ldo (v := .fn fnB []) ttok rfl rfl rfl rfl rfl (by kernel_rfl) Nat.one_pos ?_
    refine sS_ ?_
    refine R.cl [0] (inB_spec) Tryz.call44 ((by exact HasIn.any rfl .nil)) rfl rfl rfl (fun _ => rfl) rfl (by kernel_rfl) fun _ _ => ?_
    refine sS_ ?_
    refine X.fin ttok () [] trivial rfl rfl rfl hS7_ _ (by first | exact .inl rfl | exact .inr rfl)
  | false =>
    cases hp with
    | false =>
      have hk := key true (by rw [hq1]; rfl) _ _ rfl rfl
      refine sS_ ?_
      refine R.cl [] (number_spec (strOf (Lib.trimPrefix (strB t) [114])) true (by omega)) Tryz.call22 hS11_ rfl rfl rfl (fun _ => rfl) rfl (by kernel_rfl) fun _ _ => ?_
      rw [hk.1, hk.2]
      rw [show numV (strOf (Lib.trimPrefix (strB t) [114])) true = numV (regW t) true from rfl, show numB (strOf (Lib.trimPrefix (strB t) [114])) true = numB (regW t) true from rfl]
      refine sS_ ?_
      refine R.ldo (v := .fn fnB []) ttok rfl rfl rfl rfl rfl (by kernel_rfl) Nat.one_pos ?_
      refine sS_ ?_
      refine R.cl [0] (inB_spec) Tryz.call44 ((by exact HasIn.any rfl .nil)) rfl rfl rfl (fun _ => rfl) rfl (by kernel_rfl) fun _ _ => ?_
      refine sS_ ?_
      refine X.fin ttok () [] trivial rfl rfl rfl hS7_ _ (by first | exact .inl rfl | exact .inr rfl)
    | true =>
      have hk := key false (by rw [hq1]; rfl) _ _ rfl rfl
      refine sS_ ?_
      refine R.cl [] (number_spec (strOf (Lib.trimPrefix (strB t) [114])) false (by omega)) Tryz.call22 hS11_ rfl rfl rfl (fun _ => rfl) rfl (by kernel_rfl) fun _ _ => ?_
      rw [hk.1, hk.2]
      rw [show numV (strOf (Lib.trimPrefix (strB t) [114])) false = numV (regW t) false from rfl, show numB (strOf (Lib.trimPrefix (strB t) [114])) false = numB (regW t) false from rfl]
      refine sS_ ?_
      refine R.ldo (v := .fn fnB []) ttok rfl rfl rfl rfl rfl (by kernel_rfl) Nat.one_pos ?_
      refine sS_ ?_
      refine R.cl [0] (inB_spec) Tryz.call44 ((by exact HasIn.any rfl .nil)) rfl rfl rfl (fun _ => rfl) rfl (by kernel_rfl) fun _ _ => ?_
      refine sS_ ?_
      cases hnb : numB (regW t) false with
      | false =>
        refine sS_ ?_
        refine X.fin ttok () [] trivial rfl rfl rfl hS7_ _ (by first | exact .inl rfl | exact .inr rfl)
      | true =>
        refine sS_ ?_
        rw [show decide (((numV (regW t) false : Nat) : Int) < 16) = decide (numV (regW t) false < 16) from decide_eq_decide.2 (by omega)]
        refine sS_ ?_
        refine X.fin ttok () [] trivial rfl rfl rfl hS7_ _ (by first | exact .inl rfl | exact .inr rfl)
theorem regC_read (x : Ins) (t : ByteArray) (q : Bool) (ht : t.size ≤ 9223372036854775807) : Spec Tryz.prog 86 [wdA t q, .ptr 0 0 0 0, .ptr 1 0 0 0] [insO x, one0 (.fn 45 [])] 2 (σ := Unit) (fun _ => True) (fun _ => .raw (.bool (regB t q))) (fun _ => [(0, insO { x with c := (regV t q : Nat) })]) := by
  refine Spec.of Tryz.func86 rfl Tryz.ntmps86 rfl (bdl_cons rfl (bdl_cons (roA_bd rfl) (bdl_nil _))) fun ρ w => ?_
  refine sS_ ?_
  refine R.cl [] (cutPrefix_spec t 114) Tryz.call87 hS11_ rfl rfl rfl (fun _ => rfl) rfl (by kernel_rfl) fun _ _ => ?_
  refine sS_ ?_
  obtain ⟨hp, hhp⟩ : ∃ b, Lib.hasPrefix (strB t) [114] = b := ⟨_, rfl⟩
  have hq1 : regQ t q = (q || !hp) := by unfold regQ; rw [hhp]
  have hsz : (strOf (Lib.trimPrefix (strB t) [114])).size ≤ t.size := by
    rw [← strB_size, ← strB_size]
    show (Lib.trimPrefix (strB t) [114]).length ≤ _
    unfold Lib.trimPrefix
    split
    · rw [List.length_drop]; omega
    · exact Nat.le_refl _
  have key : ∀ qq, regQ t q = qq → ∀ v b, numV (regW t) qq = v → numB (regW t) qq = b → regV t q = v ∧ regB t q = (b && decide (v < 16)) := fun qq h1 v b h2 h3 => by
    unfold regB regV
    rw [h1, h2, h3]
    exact ⟨rfl, rfl⟩
  rw [hhp]
  cases q with
  | true =>
    have hk := key true (by rw [hq1]; rfl) _ _ rfl rfl
    refine sS_ ?_
    refine R.cl [] (number_spec (strOf (Lib.trimPrefix (strB t) [114])) true (by omega)) Tryz.call22 hS11_ rfl rfl rfl (fun _ => rfl) rfl (by kernel_rfl) fun _ _ => ?_
    rw [hk.1, hk.2]
    rw [show numV (strOf (Lib.trimPrefix (strB t) [114])) true = numV (regW t) true from rfl, show numB (strOf (Lib.trimPrefix (strB t) [114])) true = numB (regW t) true from rfl]
    refine sS_ ?_
    refine R.ldo (v := .fn fnC []) ttok rfl rfl rfl rfl rfl (by kernel_rfl) Nat.one_pos ?_
    refine sS_ ?_
    refine R.cl [0] (inC_spec) Tryz.call45 ((by exact HasIn.any rfl .nil)) rfl rfl rfl (fun _ => rfl) rfl (by kernel_rfl) fun _ _ => ?_
    refine sS_ ?_
    refine X.fin ttok () [] trivial rfl rfl rfl hS7_ _ (by first | exact .inl rfl | exact .inr rfl)
  | false =>
    cases hp with
    | false =>
      have hk := key true (by rw [hq1]; rfl) _ _ rfl rfl
      refine sS_ ?_
      refine R.cl [] (number_spec (strOf (Lib.trimPrefix (strB t) [114])) true (by omega)) Tryz.call22 hS11_ rfl rfl rfl (fun _ => rfl) rfl (by kernel_rfl) fun _ _ => ?_
      rw [hk.1, hk.2]
      rw [show numV (strOf (Lib.trimPrefix (strB t) [114])) true = numV (regW t) true from rfl, show numB (strOf (Lib.trimPrefix (strB t) [114])) true = numB (regW t) true from rfl]
      refine sS_ ?_
      refine R.ldo (v := .fn fnC []) ttok rfl rfl rfl rfl rfl (by kernel_rfl) Nat.one_pos ?_
      refine sS_ ?_
      refine R.cl [0] (inC_spec) Tryz.call45 ((by exact HasIn.any rfl .nil)) rfl rfl rfl (fun _ => rfl) rfl (by kernel_rfl) fun _ _ => ?_
      refine sS_ ?_
      refine X.fin ttok () [] trivial rfl rfl rfl hS7_ _ (by first | exact .inl rfl | exact .inr rfl)
    | true =>
      have hk := key false (by rw [hq1]; rfl) _ _ rfl rfl
      refine sS_ ?_
      refine R.cl [] (number_spec (strOf (Lib.trimPrefix (strB t) [114])) false (by omega)) Tryz.call22 hS11_ rfl rfl rfl (fun _ => rfl) rfl (by kernel_rfl) fun _ _ => ?_
      rw [hk.1, hk.2]
      rw [show numV (strOf (Lib.trimPrefix (strB t) [114])) false = numV (regW t) false from rfl, show numB (strOf (Lib.trimPrefix (strB t) [114])) false = numB (regW t) false from rfl]
      refine sS_ ?_
      refine R.ldo (v := .fn fnC []) ttok rfl rfl rfl rfl rfl (by kernel_rfl) Nat.one_pos ?_
      refine sS_ ?_
      refine R.cl [0] (inC_spec) Tryz.call45 ((by exact HasIn.any rfl .nil)) rfl rfl rfl (fun _ => rfl) rfl (by kernel_rfl) fun _ _ => ?_
      refine sS_ ?_
      cases hnb : numB (regW t) false with
      | false =>
        refine sS_ ?_
        refine X.fin ttok () [] trivial rfl rfl rfl hS7_ _ (by first | exact .inl rfl | exact .inr rfl)
      | true =>
        refine sS_ ?_
        rw [show decide (((numV (regW t) false : Nat) : Int) < 16) = decide (numV (regW t) false < 16) from decide_eq_decide.2 (by omega)]
        refine sS_ ?_
        refine X.fin ttok () [] trivial rfl rfl rfl hS7_ _ (by first | exact .inl rfl | exact .inr rfl)
end Go.Proofs.YtaieficgifingaaGreatDoor
namespace Go.Proofs.YtaieficgifingaaGreatDoor
set_option linter.unusedVariables false
set_option linter.unusedSimpArgs false
open Go.RowKit
set_option maxRecDepth 100000
set_option maxHeartbeats 4000000
theorem plainA_read (x : Ins) (t : ByteArray) (q : Bool) (ht : t.size ≤ 9223372036854775807) : Spec Tryz.prog 89 [wdA t q, .ptr 0 0 0 0, .ptr 1 0 0 0] [insO x, one0 (.fn 41 [])] 2 (σ := Unit) (fun _ => True) (fun _ => .raw (.bool (numB t q))) (fun _ => [(0, insO { x with a := (numV t q : Nat) })]) := by
  refine Spec.of Tryz.func89 rfl Tryz.ntmps89 rfl (bdl_cons rfl (bdl_cons (roA_bd rfl) (bdl_nil _))) fun ρ w => ?_
  refine sS_ ?_
  refine C.draw [[], [], [0, 1], [], [0, 1, 2, 3], [0, 1, 2, 3, 4], [0, 1, 2, 3, 4, 5], [0, 1, 2, 3, 4, 5], [0, 1, 2, 3, 4, 5, 6], [0, 1, 2, 3, 4, 5, 6, 8], [0, 1, 2, 3, 4, 5, 6, 7, 8, 9]] [2, 4, 9] (by kernel_rfl) (by kernel_rfl) ?_
  refine sS_ ?_
  refine R.ldo (v := .fn 41 []) ttok rfl rfl rfl rfl rfl (by kernel_rfl) Nat.one_pos ?_
  refine sS_ ?_
  refine R.cl [0] (inA_spec) Tryz.call41 ((by exact HasIn.any rfl .nil)) rfl rfl rfl (fun _ => rfl) rfl (by kernel_rfl) fun _ _ => ?_
  refine sS_ ?_
  refine R.cl [] (number_spec t q ht) Tryz.call22 hS11_ rfl rfl rfl (fun _ => rfl) rfl (by kernel_rfl) fun _ _ => ?_
  refine sS_ ?_
  refine X.fin ttok () [] trivial rfl rfl rfl hS7_ _ (by first | exact .inl rfl | exact .inr rfl)
theorem plainN_read (x : Ins) (t : ByteArray) (q : Bool) (ht : t.size ≤ 9223372036854775807) : Spec Tryz.prog 89 [wdA t q, .ptr 0 0 0 0, .ptr 1 0 0 0] [insO x, one0 (.fn 42 [])] 2 (σ := Unit) (fun _ => True) (fun _ => .raw (.bool (numB t q))) (fun _ => [(0, insO { x with n := (numV t q : Nat) })]) := by
  refine Spec.of Tryz.func89 rfl Tryz.ntmps89 rfl (bdl_cons rfl (bdl_cons (roA_bd rfl) (bdl_nil _))) fun ρ w => ?_
  refine sS_ ?_
  refine C.draw [[], [], [0, 1], [], [0, 1, 2, 3], [0, 1, 2, 3, 4], [0, 1, 2, 3, 4, 5], [0, 1, 2, 3, 4, 5], [0, 1, 2, 3, 4, 5, 6], [0, 1, 2, 3, 4, 5, 6, 8], [0, 1, 2, 3, 4, 5, 6, 7, 8, 9]] [2, 4, 9] (by kernel_rfl) (by kernel_rfl) ?_
  refine sS_ ?_
  refine R.ldo (v := .fn 42 []) ttok rfl rfl rfl rfl rfl (by kernel_rfl) Nat.one_pos ?_
  refine sS_ ?_
  refine R.cl [0] (inN_spec) Tryz.call42 ((by exact HasIn.any rfl .nil)) rfl rfl rfl (fun _ => rfl) rfl (by kernel_rfl) fun _ _ => ?_
  refine sS_ ?_
  refine R.cl [] (number_spec t q ht) Tryz.call22 hS11_ rfl rfl rfl (fun _ => rfl) rfl (by kernel_rfl) fun _ _ => ?_
  refine sS_ ?_
  refine X.fin ttok () [] trivial rfl rfl rfl hS7_ _ (by first | exact .inl rfl | exact .inr rfl)
theorem value_read (x : Ins) (t : ByteArray) (q : Bool) (ht : t.size ≤ 281474976710656) (fs : Fam) (hG : Glob fs) : SpecF Tryz.prog 49 [wdA t q, .ptr 0 0 0 0] [insO x] 1 fs (σ := Unit) (fun _ => True) (fun _ => .raw (.bool (valP t q).ok)) (fun _ => [(0, insO { x with k := ((valP t q).k : Nat), i := (valP t q).i, t := (valP t q).t })]) (fun _ => fs) := by
  refine SpecF.of Tryz.func49 rfl Tryz.ntmps49 rfl (bdl_cons rfl (bdl_nil _)) fun ρ w => ?_
  refine sS_ ?_
  refine R.clR [] (value_spec t q ht fs hG) hG.ro Tryz.call50 hS11_ rfl rfl rfl (fun _ => rfl) rfl (by kernel_rfl) fun _ _ => ?_
  refine sS_ ?_
  refine X.finF ttok () [] trivial rfl rfl rfl hS7_ _ (by first | exact .inl rfl | exact .inr rfl) ?_ ?_ ?_
  · exact fun w' hf => hf.ap
  · exact fun p hp => hp
  · exact fun p hp e => ⟨p, hp, rfl⟩
end Go.Proofs.YtaieficgifingaaGreatDoor
namespace Go.Proofs.YtaieficgifingaaGreatDoor
set_option linter.unusedVariables false
set_option linter.unusedSimpArgs false
open Go.RowKit
set_option maxRecDepth 100000
set_option maxHeartbeats 4000000
def sgL : List ByteArray := [⟨#[]⟩, ⟨#[61]⟩, ⟨#[33, 61]⟩, ⟨#[60]⟩, ⟨#[60, 61]⟩, ⟨#[62]⟩, ⟨#[62, 61]⟩]
def sgF (i : Nat) : List AV := [.raw (.string (sgL.getD i ⟨#[]⟩))]
abbrev roSg : AO := .ro 1 0 7 sgF
def sgB (t : ByteArray) (q : Bool) (i : Nat) : Bool := decide (0 < i) && decide (strB (sgL.getD i ⟨#[]⟩) = strB t) && !q
def signP (t : ByteArray) (q : Bool) : Option Nat := (List.range 7).find? (sgB t q)
theorem sign_at {t : ByteArray} {q : Bool} {i : Nat} (hi : i < 7) (h1 : ∀ j, j < i → sgB t q j = false) (h2 : sgB t q i = true) : signP t q = some i := by
  unfold signP
  rw [List.find?_range_eq_some]
  exact ⟨h2, List.mem_range.2 hi, fun j hj => by rw [h1 j hj]; rfl⟩
theorem sign_no {t : ByteArray} {q : Bool} (h1 : ∀ j, j < 7 → sgB t q j = false) : signP t q = none := by
  unfold signP
  rw [List.find?_eq_none]
  intro j hj
  rw [h1 j (List.mem_range.1 hj)]
  decide
theorem sign_read (x : Ins) (t : ByteArray) (q : Bool) : Spec Tryz.prog 47 [wdA t q, .ptr 0 0 0 0, .ptr 1 0 0 0] [insO x, one0 (.sl 2 1 0 7 7), roSg] 3 (σ := Unit) (fun _ => True) (fun _ => .raw (.bool (signP t q).isSome)) (fun _ => [(0, insO { x with n := match signP t q with | some i => (i : Nat) | none => x.n })]) := by
  refine Spec.of Tryz.func47 rfl Tryz.ntmps47 rfl (bdl_cons rfl (bdl_cons (roA_bd rfl) (bdl_cons (fun i hi => rfl) (bdl_nil _)))) fun ρ w => ?_
  refine sS_ ?_
  refine R.ldo (v := .sl 2 1 0 7 7) ttok rfl rfl rfl rfl rfl (by kernel_rfl) Nat.one_pos ?_
  refine sS_ ?_
  refine C.loop (σ := Nat) (L2 := 4) (fun i => i ≤ 7 ∧ ∀ j, j < i → sgB t q j = false) (fun i => [(1, .ptr 0 0 0 0), (3, .ptr 3 0 0 0), (8, .sl 2 1 0 7 7), (9, .raw (.int .i64 7)), (10, .raw (.int .i64 (i : Nat)))]) (fun _ => [(0, insO x), (2, roSg), (3, .cells [.raw (.string t), .raw (.bool q)] 62)]) _ (fun i => 7 - i) [] 0 ⟨Nat.zero_le _, fun j h => absurd h (Nat.not_lt_zero j)⟩ rfl hS12_ hS10_ rfl (fun _ h => h) ?_
  rintro i ⟨hi, hd⟩
  refine sS_ ?_
  by_cases hlt : i < 7
  · rw [decide_eq_true (show ((i : Nat) : Int) < 7 by omega)]
    refine sS_ ?_
    refine R.ix ttok i rfl rfl rfl rfl rfl (by kernel_rfl) rfl hlt (by show _ ≤ _ ∧ _ < _; omega) rfl ?_
    refine R.ldo (v := .raw (.string (sgL.getD i ⟨#[]⟩))) ttok rfl rfl rfl rfl rfl (by kernel_rfl) hlt ?_
    obtain ⟨sg, hsg⟩ : ∃ sg, sgL.getD i ⟨#[]⟩ = sg := ⟨_, rfl⟩
    have hB : sgB t q i = (decide (0 < i) && decide (strB sg = strB t) && !q) := by unfold sgB; rw [hsg]
    rw [hsg]
    refine sS_ ?_
    by_cases h0 : 0 < i
    · rw [decide_eq_true (show ((i : Nat) : Int) > 0 by omega)]
      refine sS_ ?_
      rw [eqS]
      by_cases he : strB sg = strB t
      · rw [decide_eq_true he]
        refine sS_ ?_
        cases q with
        | false =>
          have hs := sign_at hlt hd (by rw [hB, decide_eq_true h0, decide_eq_true he]; rfl)
          rw [hs]
          refine sS_ ?_
          refine X.fin ttok () [] trivial rfl rfl rfl hS7_ _ (by first | exact .inl rfl | exact .inr rfl)
        | true =>
          have hno : sgB t true i = false := by rw [hB]; simp
          refine sS_ ?_
          exact X.back [] (i + 1) ⟨hlt, fun j hj => (by
            rcases Nat.lt_or_ge j i with h | h
            · exact hd j h
            · obtain rfl : j = i := by omega
              exact hno)⟩ (by omega) rfl hS12_ hS10_ rfl (fun _ h => h)
      · rw [decide_eq_false he]
        have hno : sgB t q i = false := by rw [hB, decide_eq_false he]; simp
        refine sS_ ?_
        exact X.back [] (i + 1) ⟨hlt, fun j hj => (by
          rcases Nat.lt_or_ge j i with h | h
          · exact hd j h
          · obtain rfl : j = i := by omega
            exact hno)⟩ (by omega) rfl hS12_ hS10_ rfl (fun _ h => h)
    · rw [decide_eq_false (show ¬ ((i : Nat) : Int) > 0 by omega)]
      have hno : sgB t q i = false := by rw [hB, decide_eq_false h0]; simp
      refine sS_ ?_
      exact X.back [] (i + 1) ⟨hlt, fun j hj => (by
        rcases Nat.lt_or_ge j i with h | h
        · exact hd j h
        · obtain rfl : j = i := by omega
          exact hno)⟩ (by omega) rfl hS12_ hS10_ rfl (fun _ h => h)
  · rw [decide_eq_false (show ¬ ((i : Nat) : Int) < 7 by omega)]
    obtain rfl : i = 7 := by omega
    rw [sign_no hd]
    refine sS_ ?_
    refine X.fin ttok () [] trivial rfl rfl rfl hS7_ _ (by first | exact .inl rfl | exact .inr rfl)
end Go.Proofs.YtaieficgifingaaGreatDoor
namespace Go.Proofs.YtaieficgifingaaGreatDoor
set_option linter.unusedVariables false
set_option linter.unusedSimpArgs false
open Go.RowKit
set_option maxRecDepth 100000
set_option maxHeartbeats 4000000
theorem regt_spec (f : Nat) : Spec Tryz.prog 43 [.fn f []] [] 1 (σ := Unit) (fun _ => True) (fun _ => .agg [.fn 86 [.ptr 0 0 0 0], .fn 88 [.ptr 0 0 0 0]]) (fun _ => [(0, .cells [.fn f []] ofT)]) := by
  refine Spec.of Tryz.func43 rfl Tryz.ntmps43 rfl (bdl_nil _) fun ρ w => ?_
  refine sS_ ?_
  refine X.fin ttok () [] trivial rfl rfl rfl hS7_ _ (by first | exact .inl rfl | exact .inr rfl)
theorem plain_spec (f : Nat) : Spec Tryz.prog 46 [.fn f []] [] 1 (σ := Unit) (fun _ => True) (fun _ => .agg [.fn 89 [.ptr 0 0 0 0], .fn 90 [.ptr 0 0 0 0]]) (fun _ => [(0, .cells [.fn f []] ofT)]) := by
  refine Spec.of Tryz.func46 rfl Tryz.ntmps46 rfl (bdl_nil _) fun ρ w => ?_
  refine sS_ ?_
  refine X.fin ttok () [] trivial rfl rfl rfl hS7_ _ (by first | exact .inl rfl | exact .inr rfl)
theorem linesF_spec (t : ByteArray) : Spec Tryz.prog 19 [.raw (.string t)] [] 1 (σ := Unit) (fun _ => True) (fun _ => .fn 54 [.ptr 0 0 0 0]) (fun _ => [(0, .cells [.raw (.string t)] 9)]) := by
  refine Spec.of Tryz.func19 rfl Tryz.ntmps19 rfl (bdl_nil _) fun ρ w => ?_
  refine sS_ ?_
  refine X.fin ttok () [] trivial rfl rfl rfl hS7_ _ (by first | exact .inl rfl | exact .inr rfl)
end Go.Proofs.YtaieficgifingaaGreatDoor
namespace Go.Proofs.YtaieficgifingaaGreatDoor
set_option linter.unusedVariables false
set_option linter.unusedSimpArgs false
open Go.RowKit
set_option maxRecDepth 100000
set_option maxHeartbeats 8000000
/-- the kinds of fields -/
inductive FK where
  | a | b | c | n | k | s | v
abbrev FK.av : FK → List AV
  | .a => [.fn 86 [.ptr 0 0 0 0], .fn 88 [.ptr 0 0 0 0]]
  | .b => [.fn 86 [.ptr 1 0 0 0], .fn 88 [.ptr 1 0 0 0]]
  | .c => [.fn 86 [.ptr 2 0 0 0], .fn 88 [.ptr 2 0 0 0]]
  | .n => [.fn 89 [.ptr 3 0 0 0], .fn 90 [.ptr 3 0 0 0]]
  | .k => [.fn 89 [.ptr 4 0 0 0], .fn 90 [.ptr 4 0 0 0]]
  | .s => [.fn 47 [.ptr 6 0 0 0], .fn 48 [.ptr 6 0 0 0]]
  | .v => [.fn 49 [], .fn 51 []]
structure Sh where
  w : ByteArray
  op : Nat
  f : List FK
def shL : List Sh := [⟨⟨#[115, 101, 116]⟩, 1, [.a, .v]⟩, ⟨⟨#[97, 114, 103]⟩, 2, [.a, .n]⟩, ⟨⟨#[103, 101, 116]⟩, 3, [.a, .b]⟩, ⟨⟨#[110, 101, 120, 116]⟩, 14, [.a, .b]⟩, ⟨⟨#[112, 117, 116]⟩, 4, [.a, .b]⟩, ⟨⟨#[100, 101, 108]⟩, 5, [.a]⟩, ⟨⟨#[116, 101, 108, 108]⟩, 15, [.a]⟩, ⟨⟨#[97, 100, 100]⟩, 6, [.a, .b, .c]⟩, ⟨⟨#[115, 117, 98]⟩, 7, [.a, .b, .c]⟩, ⟨⟨#[109, 117, 108]⟩, 8, [.a, .b, .c]⟩, ⟨⟨#[106, 111, 105, 110]⟩, 9, [.a, .b, .c]⟩, ⟨⟨#[110, 101, 101, 100]⟩, 10, [.b, .s, .c]⟩, ⟨⟨#[115, 107, 105, 112]⟩, 11, [.k, .b, .s, .c]⟩, ⟨⟨#[115, 117, 109]⟩, 12, [.a, .b, .c, .n]⟩, ⟨⟨#[99, 111, 117, 110, 116]⟩, 13, [.a, .b, .c, .n]⟩, ⟨⟨#[115, 116, 111, 112]⟩, 16, []⟩]
abbrev fldT : TypeId := 94
abbrev shpT : TypeId := 90
def shRows : List AV := [.raw (.string ⟨#[115, 101, 116]⟩), .raw (.int .i64 1), .sl 7 2 0 2 2, .raw (.string ⟨#[97, 114, 103]⟩), .raw (.int .i64 2), .sl 8 2 0 2 2, .raw (.string ⟨#[103, 101, 116]⟩), .raw (.int .i64 3), .sl 9 2 0 2 2, .raw (.string ⟨#[110, 101, 120, 116]⟩), .raw (.int .i64 14), .sl 10 2 0 2 2, .raw (.string ⟨#[112, 117, 116]⟩), .raw (.int .i64 4), .sl 11 2 0 2 2, .raw (.string ⟨#[100, 101, 108]⟩), .raw (.int .i64 5), .sl 12 2 0 1 1, .raw (.string ⟨#[116, 101, 108, 108]⟩), .raw (.int .i64 15), .sl 13 2 0 1 1, .raw (.string ⟨#[97, 100, 100]⟩), .raw (.int .i64 6), .sl 14 2 0 3 3, .raw (.string ⟨#[115, 117, 98]⟩), .raw (.int .i64 7), .sl 15 2 0 3 3, .raw (.string ⟨#[109, 117, 108]⟩), .raw (.int .i64 8), .sl 16 2 0 3 3, .raw (.string ⟨#[106, 111, 105, 110]⟩), .raw (.int .i64 9), .sl 17 2 0 3 3, .raw (.string ⟨#[110, 101, 101, 100]⟩), .raw (.int .i64 10), .sl 18 2 0 3 3, .raw (.string ⟨#[115, 107, 105, 112]⟩), .raw (.int .i64 11), .sl 19 2 0 4 4, .raw (.string ⟨#[115, 117, 109]⟩), .raw (.int .i64 12), .sl 20 2 0 4 4, .raw (.string ⟨#[99, 111, 117, 110, 116]⟩), .raw (.int .i64 13), .sl 21 2 0 4 4, .raw (.string ⟨#[115, 116, 111, 112]⟩), .raw (.int .i64 16), .raw (.slice none 0 0)]
abbrev shH : List (Nat × AO) := [(0, .cells [.fn 41 []] ofT), (1, .cells [.fn 44 []] ofT), (2, .cells [.fn 45 []] ofT), (3, .cells [.fn 42 []] ofT), (4, .cells [.fn 41 []] ofT), (5, .cells [.raw (.string ⟨#[]⟩), .raw (.string ⟨#[61]⟩), .raw (.string ⟨#[33, 61]⟩), .raw (.string ⟨#[60]⟩), .raw (.string ⟨#[60, 61]⟩), .raw (.string ⟨#[62]⟩), .raw (.string ⟨#[62, 61]⟩)] 9), (6, .cells [.sl 5 1 0 7 7] 68), (7, .cells (FK.av .a ++ FK.av .v) fldT), (8, .cells (FK.av .a ++ FK.av .n) fldT), (9, .cells (FK.av .a ++ FK.av .b) fldT), (10, .cells (FK.av .a ++ FK.av .b) fldT), (11, .cells (FK.av .a ++ FK.av .b) fldT), (12, .cells (FK.av .a) fldT), (13, .cells (FK.av .a) fldT), (14, .cells (FK.av .a ++ FK.av .b ++ FK.av .c) fldT), (15, .cells (FK.av .a ++ FK.av .b ++ FK.av .c) fldT), (16, .cells (FK.av .a ++ FK.av .b ++ FK.av .c) fldT), (17, .cells (FK.av .a ++ FK.av .b ++ FK.av .c) fldT), (18, .cells (FK.av .b ++ FK.av .s ++ FK.av .c) fldT), (19, .cells (FK.av .k ++ FK.av .b ++ FK.av .s ++ FK.av .c) fldT), (20, .cells (FK.av .a ++ FK.av .b ++ FK.av .c ++ FK.av .n) fldT), (21, .cells (FK.av .a ++ FK.av .b ++ FK.av .c ++ FK.av .n) fldT), (22, .cells shRows shpT)]
theorem shapes_spec : Spec Tryz.prog 18 [] [] 23 (σ := Unit) (fun _ => True) (fun _ => .sl 22 3 0 16 16) (fun _ => shH) := by
  refine Spec.of Tryz.func18 rfl Tryz.ntmps18 rfl (bdl_nil _) fun ρ w => ?_
  refine sS_ ?_
  refine R.cl [] (regt_spec 41) Tryz.call43 hS11_ rfl rfl rfl (fun _ => rfl) rfl (by kernel_rfl) fun _ _ => ?_
  refine sS_ ?_
  refine R.cl [] (regt_spec 44) Tryz.call43 hS11_ rfl rfl rfl (fun _ => rfl) rfl (by kernel_rfl) fun _ _ => ?_
  refine sS_ ?_
  refine R.cl [] (regt_spec 45) Tryz.call43 hS11_ rfl rfl rfl (fun _ => rfl) rfl (by kernel_rfl) fun _ _ => ?_
  refine sS_ ?_
  refine R.cl [] (plain_spec 42) Tryz.call46 hS11_ rfl rfl rfl (fun _ => rfl) rfl (by kernel_rfl) fun _ _ => ?_
  refine sS_ ?_
  refine R.cl [] (plain_spec 41) Tryz.call46 hS11_ rfl rfl rfl (fun _ => rfl) rfl (by kernel_rfl) fun _ _ => ?_
  refine sS_ ?_
  refine X.fin ttok () [(3, 6), (4, 7), (5, 10), (6, 11), (7, 14), (8, 15), (9, 16), (10, 17), (11, 18), (12, 19), (13, 20), (14, 21), (15, 22), (16, 23), (17, 24), (18, 25), (19, 26), (20, 27), (21, 28), (22, 29)] trivial rfl rfl rfl hS7_ _ (by first | exact .inl rfl | exact .inr rfl)
end Go.Proofs.YtaieficgifingaaGreatDoor
namespace Go.Proofs.YtaieficgifingaaGreatDoor
set_option linter.unusedVariables false
set_option linter.constructorNameAsVariable false
set_option linter.unusedSimpArgs false
open Go.RowKit
set_option maxRecDepth 100000
set_option maxHeartbeats 4000000
/-- cells as rows -/
theorem cells_row {ρ : Env} {r : Option Nat} {w : World} {k n : Nat} {xs : List AV} {T : TypeId} (h : (AO.cells xs T).holds ρ r w) : (AO.ro k 0 n (fun i => (xs.drop (i * k)).take k)).holds ρ r w := by
  obtain ⟨b, hr, hb⟩ := h
  refine .inr ⟨b, _, T, _, hr, hb, fun i c y hi hy => ?_⟩
  have hy : ((xs.drop (i * k)).take k)[c]? = some y := hy
  rw [List.getElem?_take] at hy
  split at hy
  · rw [List.getElem?_drop] at hy
    rw [Nat.zero_add]
    simp [concs_map, List.getElem?_map, hy]
  · cases hy
theorem HasIn.row {r : Nat → Nat} {h : List (Nat × AO)} {i k n : Nat} {os : List AO} {xs xs' : List AV} {T : TypeId} {f : Nat → List AV} (h1 : hk (r i) h = some (.cells xs' T)) (hf : ∀ j, f j = (xs.drop (j * k)).take k) (hx : AV.rens r xs = xs') (kk : HasIn r h (i + 1) os) : HasIn r h i (.ro k 0 n f :: os) :=
  .other h1 (fun e => by cases e) (fun ρ x w hh => by
    have e : AO.ren r (.ro k 0 n f) = .ro k 0 n (fun j => (xs'.drop (j * k)).take k) := by
      show AO.ro k 0 n (fun j => AV.rens r (f j)) = _
      congr 1
      funext j
      rw [hf, ← hx, rens_map, rens_map, List.map_take, List.map_drop]
    rw [e]
    exact cells_row hh) kk
/-- a field's value -/
def FK.rd (k : FK) (x : Ins) (p : WD) : Ins × Bool := match k with
  | .a => ({ x with a := (regV p.1 p.2 : Nat) }, regB p.1 p.2)
  | .b => ({ x with b := (regV p.1 p.2 : Nat) }, regB p.1 p.2)
  | .c => ({ x with c := (regV p.1 p.2 : Nat) }, regB p.1 p.2)
  | .n => ({ x with n := (numV p.1 p.2 : Nat) }, numB p.1 p.2)
  | .k => ({ x with a := (numV p.1 p.2 : Nat) }, numB p.1 p.2)
  | .s => ({ x with n := match signP p.1 p.2 with | some i => (i : Nat) | none => x.n }, (signP p.1 p.2).isSome)
  | .v => ({ x with k := ((valP p.1 p.2).k : Nat), i := (valP p.1 p.2).i, t := (valP p.1 p.2).t }, (valP p.1 p.2).ok)
/-- an instruction's fields out of the words behind its first -/
def rdP : List FK → Ins → List WD → Option Ins
  | [], x, _ => some x
  | k :: r, x, p :: W => if (k.rd x p).2 = true then rdP r (k.rd x p).1 W else none
  | _ :: _, _, [] => none
def insZ (op : Nat) : Ins := ⟨(op : Nat), 0, 0, 0, 0, 0, 0, noT0⟩
/-- the instruction that words say -/
def insFrom : List Sh → List WD → Option Ins
  | [], _ => none
  | s :: r, W => if (W.headD wdD).2 = false ∧ strB (W.headD wdD).1 = strB s.w ∧ W.length = 1 + s.f.length then
      (match rdP s.f (insZ s.op) (W.drop 1) with
      | some x => some x
      | none => insFrom r W)
    else insFrom r W
def insP (W : List WD) : Option Ins := insFrom shL W
end Go.Proofs.YtaieficgifingaaGreatDoor
