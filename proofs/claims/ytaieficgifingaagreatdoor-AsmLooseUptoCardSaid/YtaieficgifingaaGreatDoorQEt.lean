/- Texts of the claim, merged: only what the theorem needs. -/
import Derived.Test.YtaieficgifingaaGreatDoorQEs
namespace Go.Proofs.YtaieficgifingaaGreatDoor
set_option linter.unusedVariables false
set_option linter.unusedSimpArgs false
set_option linter.constructorNameAsVariable false
open Go.RowKit
set_option maxRecDepth 100000
/-- a field as a word -/
def FK.wd (x : Ins) : FK → List UInt8 × Bool
  | .v => if x.k = 2 then (strB x.t, true) else (sayP x.k x.i x.t, false)
  | q => (q.wr x, false)
def txW (p : List UInt8 × Bool) : List UInt8 := if p.2 = true then quotW p.1 else p.1
theorem wd_tx (x : Ins) (q : FK) : txW (q.wd x) = q.wr x := by
  cases q <;> try rfl
  unfold FK.wd FK.wr txW
  dsimp only
  by_cases h : x.k = 2
  · rw [if_pos h, if_pos rfl]
    unfold sayP
    rw [if_neg (by omega), if_pos h]
  · rw [if_neg h]
    exact if_neg Bool.false_ne_true
def FK.set (x y : Ins) : FK → Ins
  | .a => { y with a := x.a }
  | .b => { y with b := x.b }
  | .c => { y with c := x.c }
  | .n => { y with n := x.n }
  | .k => { y with a := x.a }
  | .s => { y with n := x.n }
  | .v => { y with k := x.k, i := x.i, t := x.t }
/-- what a field has to be, to be read again -/
def FK.fit (x : Ins) : FK → Prop
  | .a => 0 ≤ x.a ∧ x.a < 16
  | .b => 0 ≤ x.b ∧ x.b < 16
  | .c => 0 ≤ x.c ∧ x.c < 16
  | .n => 0 ≤ x.n ∧ x.n < 1000
  | .k => 0 ≤ x.a ∧ x.a < 1000
  | .s => 1 ≤ x.n ∧ x.n ≤ 6
  | .v => vchk x.k x.i x.t = 0 ∧ i64 x.i
theorem fit_rd {x : Ins} {q : FK} (h : q.fit x) (y : Ins) : q.rd y (strOf (q.wd x).1, (q.wd x).2) = (q.set x y, true) := by
  cases q with
  | a =>
    obtain ⟨m, hm⟩ := Int.eq_ofNat_of_zero_le h.1
    obtain ⟨h1, h2⟩ := reg_back (n := m) (by have := h.2; omega)
    show ({ y with a := (regV (strOf (114 :: Lib.itoa x.a)) false : Nat) }, regB (strOf (114 :: Lib.itoa x.a)) false) = ({ y with a := x.a }, true)
    rw [hm]
    rw [h1, h2]
  | b =>
    obtain ⟨m, hm⟩ := Int.eq_ofNat_of_zero_le h.1
    obtain ⟨h1, h2⟩ := reg_back (n := m) (by have := h.2; omega)
    show ({ y with b := (regV (strOf (114 :: Lib.itoa x.b)) false : Nat) }, regB (strOf (114 :: Lib.itoa x.b)) false) = ({ y with b := x.b }, true)
    rw [hm]
    rw [h1, h2]
  | c =>
    obtain ⟨m, hm⟩ := Int.eq_ofNat_of_zero_le h.1
    obtain ⟨h1, h2⟩ := reg_back (n := m) (by have := h.2; omega)
    show ({ y with c := (regV (strOf (114 :: Lib.itoa x.c)) false : Nat) }, regB (strOf (114 :: Lib.itoa x.c)) false) = ({ y with c := x.c }, true)
    rw [hm]
    rw [h1, h2]
  | n =>
    obtain ⟨m, hm⟩ := Int.eq_ofNat_of_zero_le h.1
    obtain ⟨h1, h2⟩ := num_back (n := m) (by have := h.2; omega)
    show ({ y with n := (numV (strOf (Lib.itoa x.n)) false : Nat) }, numB (strOf (Lib.itoa x.n)) false) = ({ y with n := x.n }, true)
    rw [hm]
    rw [h1, h2]
  | k =>
    obtain ⟨m, hm⟩ := Int.eq_ofNat_of_zero_le h.1
    obtain ⟨h1, h2⟩ := num_back (n := m) (by have := h.2; omega)
    show ({ y with a := (numV (strOf (Lib.itoa x.a)) false : Nat) }, numB (strOf (Lib.itoa x.a)) false) = ({ y with a := x.a }, true)
    rw [hm]
    rw [h1, h2]
  | s =>
    have h0 := h.1
    obtain ⟨m, hm⟩ := Int.eq_ofNat_of_zero_le (show 0 ≤ x.n by omega)
    have hs := sign_back (n := m) (by have := h.1; omega) (by have := h.2; omega)
    show ({ y with n := match signP (strOf (strB (sgL.getD x.n.toNat ⟨#[]⟩))) false with | some i => (i : Nat) | none => y.n }, (signP (strOf (strB (sgL.getD x.n.toNat ⟨#[]⟩))) false).isSome) = ({ y with n := x.n }, true)
    rw [hm, show strOf (strB (sgL.getD ((m : Nat) : Int).toNat ⟨#[]⟩)) = sgL.getD m ⟨#[]⟩ from strB_inj rfl, hs]
    rfl
  | v =>
    obtain ⟨hv, hi⟩ := h
    have hv' : ¬ (x.k < 0 ∨ 2 < x.k ∨ (x.k ≠ 1 ∧ x.i ≠ 0) ∨ (x.k ≠ 2 ∧ strB x.t ≠ [])) := fun e => by unfold vchk at hv; rw [if_pos e] at hv; cases hv
    have ht : x.k ≠ 2 → x.t = noT0 := fun e => strB_inj (Classical.not_not.1 fun h => hv' (.inr (.inr (.inr ⟨e, h⟩))))
    have hi0 : x.k ≠ 1 → x.i = 0 := fun e => Classical.not_not.1 fun h => hv' (.inr (.inr (.inl ⟨e, h⟩)))
    have hk : x.k = 0 ∨ x.k = 1 ∨ x.k = 2 := by omega
    unfold FK.rd FK.wd FK.set
    dsimp only
    rcases hk with hk | hk | hk
    · rw [hi0 (by omega), ht (by omega), hk]
      rfl
    · have hw : sayP x.k x.i x.t = Lib.itoa x.i := if_pos hk
      rw [if_neg (by omega), hw]
      dsimp only
      rw [val_int hi, ht (by omega), hk]
      rfl
    · rw [if_pos hk]
      dsimp only
      rw [val_text, hi0 (by omega), hk, show strOf (strB x.t) = x.t from strB_inj rfl]
      rfl
theorem rd_all {x : Ins} : ∀ (l : List FK) (y : Ins), (∀ q ∈ l, q.fit x) → rdP l y (wsOf (l.map (FK.wd x))) = some (l.foldl (fun y q => q.set x y) y)
  | [], y, _ => rfl
  | q :: l, y, h => by
    have h1 := fit_rd (h q (List.mem_cons_self ..)) y
    have h2 := rd_all l (q.set x y) fun p hp => h p (List.mem_cons_of_mem _ hp)
    show (if (q.rd y (strOf (q.wd x).1, (q.wd x).2)).2 = true then rdP l (q.rd y (strOf (q.wd x).1, (q.wd x).2)).1 (wsOf (l.map (FK.wd x))) else none) = _
    rw [h1, if_pos rfl]
    exact h2
/-- the words of an instruction -/
def wdsI (x : Ins) : List (List UInt8 × Bool) := (strB (nmL.getD x.o.toNat ⟨#[]⟩), false) :: (fks x.o.toNat).map (FK.wd x)
theorem ins_back {ar : Int} {n i : Nat} {x : Ins} (har : ar ≤ 16) (hn : n ≤ 64) (hI : insI x) (h : insE ar n i x = 0) : (∀ q ∈ fks x.o.toNat, q.fit x) ∧ insP (wsOf (wdsI x)) = some x := by
  have ho := insE_op h
  unfold insE at h
  rw [if_neg (by omega)] at h
  unfold insL at h
  by_cases hall : ((pfs x.o.toNat).all fun p => p.ok ar n i (p.val x)) = true
  rotate_left
  · rw [if_neg hall] at h; cases h
  rw [if_pos hall] at h
  by_cases hnil : nilI (insV0 (decide (x.o = 1)) (zeroN (pfs x.o.toNat) { x with o := 0 })) = true
  rotate_left
  · rw [if_neg hnil] at h; cases h
  rw [if_pos hnil] at h
  obtain ⟨o, hoN⟩ : ∃ o : Nat, x.o = (o : Nat) := Int.eq_ofNat_of_zero_le (by omega)
  have hoT : x.o.toNat = o := by omega
  have hnm : nmB ((wsOf (wdsI x)).headD wdD) o = true := by
    show (!false && decide (strB (strOf (strB (nmL.getD x.o.toNat ⟨#[]⟩))) = strB (nmL.getD o ⟨#[]⟩))) = true
    rw [hoT, show strB (strOf (strB (nmL.getD o ⟨#[]⟩))) = strB (nmL.getD o ⟨#[]⟩) from rfl]
    simp
  have hat := insP_at (W := wsOf (wdsI x)) (o := o) (by omega) (by omega) hnm
  have key : (∀ q ∈ fks o, q.fit x) ∧ (fks o).foldl (fun y q => q.set x y) (insZ o) = x := by
    clear hat hnm
    rw [hoT] at hall hnil
    have hcases : o = 1 ∨ o = 2 ∨ o = 3 ∨ o = 4 ∨ o = 5 ∨ o = 6 ∨ o = 7 ∨ o = 8 ∨ o = 9 ∨ o = 10 ∨ o = 11 ∨ o = 12 ∨ o = 13 ∨ o = 14 ∨ o = 15 ∨ o = 16 := by omega
    obtain ⟨xo, xa, xb, xc, xn, xk, xi, xt⟩ := x
    obtain ⟨i1, i2, i3, i4, i5⟩ := hI
    have e0 : strB xt = [] → xt = noT0 := fun e => strB_inj e
    dsimp only at hoN hall hnil h i1 i2 i3 i4 i5
    subst hoN
    rcases hcases with rfl | rfl | rfl | rfl | rfl | rfl | rfl | rfl | rfl | rfl | rfl | rfl | rfl | rfl | rfl | rfl
    all_goals
      simp only [pfs, List.all_cons, List.all_nil, Bool.and_true, PF.ok, regK, Bool.and_eq_true, decide_eq_true_eq] at hall
      try dsimp only [PF.val] at hall
      simp [pfs, zeroN, PF.zero, insV0, nilI] at hnil h
      refine ⟨fun q hq => ?_, ?_⟩
      · cases q <;> simp [fks] at hq <;> first | exact ⟨h, i5⟩ | (unfold FK.fit; dsimp only; clear h hnil; omega)
      · simp [fks, FK.set, insZ]
        try (simp_all; done)
        done
  obtain ⟨hfit, hfold⟩ := key
  rw [hoT]
  refine ⟨hfit, ?_⟩
  rw [hat, if_pos (by unfold wsOf wdsI; rw [hoT]; simp; omega), show (wsOf (wdsI x)).drop 1 = wsOf ((fks o).map (FK.wd x)) by unfold wdsI; rw [hoT]; rfl, rd_all _ _ hfit, hfold]
end Go.Proofs.YtaieficgifingaaGreatDoor
namespace Go.Proofs.YtaieficgifingaaGreatDoor
set_option linter.unusedVariables false
set_option linter.unusedSimpArgs false
set_option linter.constructorNameAsVariable false
open Go.RowKit
set_option maxRecDepth 100000
def okW (p : List UInt8 × Bool) : Prop := p.2 = false → Plain p.1
def isBlank (b : List UInt8) : Prop := ∀ c ∈ b, c = 32 ∨ c = 9
/-- words, each with the blanks ahead of it -/
def lineT (ps : List (List UInt8 × (List UInt8 × Bool))) : List UInt8 := ps.flatMap fun p => p.1 ++ txW p.2
theorem brk_blank {b s : List UInt8} (hb : isBlank b) (h : b ≠ []) : brk (b ++ s) := by
  match b, h with
  | c :: r, _ =>
    refine .inr ⟨c, r ++ s, rfl, ?_⟩
    rcases hb c (List.mem_cons_self ..) with h | h <;> rw [h] <;> rfl
theorem words_tx {p : List UInt8 × Bool} {s : List UInt8} (hp : okW p) (hs : brk s) : wordsP (txW p ++ s) = (wordsP s).map (p :: ·) := by
  obtain ⟨w, q⟩ := p
  cases q with
  | true => exact words_quote hs
  | false => exact words_plain (hp rfl) hs
theorem words_chain {tail : List UInt8} (ht : brk tail) (hw : wordsP tail = some []) : ∀ ps : List (List UInt8 × (List UInt8 × Bool)), (∀ p ∈ ps, isBlank p.1 ∧ p.1 ≠ [] ∧ okW p.2) → brk (lineT ps ++ tail) ∧ wordsP (lineT ps ++ tail) = some (ps.map Prod.snd)
  | [], _ => ⟨ht, hw⟩
  | p :: ps, h => by
    obtain ⟨h1, h2, h3⟩ := h p (List.mem_cons_self ..)
    obtain ⟨g1, g2⟩ := words_chain ht hw ps fun q hq => h q (List.mem_cons_of_mem _ hq)
    have e : lineT (p :: ps) ++ tail = p.1 ++ (txW p.2 ++ (lineT ps ++ tail)) := by
      unfold lineT
      rw [List.flatMap_cons, List.append_assoc, List.append_assoc]
    rw [e]
    refine ⟨brk_blank h1 h2, ?_⟩
    rw [words_blank _ _ h1, words_tx h3 g1, g2]
    rfl
/-- a line: the first word may stand without a blank ahead -/
theorem words_line {tail b : List UInt8} {w : List UInt8 × Bool} {ps : List (List UInt8 × (List UInt8 × Bool))} (ht : brk tail) (hw : wordsP tail = some []) (hb : isBlank b) (hw0 : okW w) (h : ∀ p ∈ ps, isBlank p.1 ∧ p.1 ≠ [] ∧ okW p.2) : wordsP (b ++ txW w ++ lineT ps ++ tail) = some (w :: ps.map Prod.snd) := by
  obtain ⟨g1, g2⟩ := words_chain ht hw ps h
  rw [List.append_assoc, List.append_assoc, words_blank _ _ hb, words_tx hw0 g1, g2]
  rfl
theorem plain_hi {w : List UInt8} (h1 : w ≠ []) (h2 : ∀ c ∈ w, 35 < c.toNat) : Plain w := by
  refine ⟨h1, fun c hc => ?_, ?_⟩
  · have := h2 c hc
    exact gapC_ne (fun e => by rw [e] at this; revert this; decide) (fun e => by rw [e] at this; revert this; decide) (fun e => by rw [e] at this; revert this; decide)
  · match w, h1 with
    | c :: r, _ =>
      have := h2 c (List.mem_cons_self ..)
      intro e
      have e' : c = 34 := e
      rw [e'] at this
      revert this
      decide
theorem dd_hi (n : Nat) : ∀ c ∈ Lib.decDigits n, 35 < c.toNat := fun c hc => by
  have := List.all_eq_true.1 (dd_all n) c hc
  unfold digB at this
  simp only [Bool.and_eq_true, decide_eq_true_eq] at this
  omega
theorem itoa_hi (i : Int) : ∀ c ∈ Lib.itoa i, 35 < c.toNat := fun c hc => by
  unfold Lib.itoa at hc
  split at hc
  · rcases List.mem_cons.1 hc with rfl | h
    · decide
    · exact dd_hi _ c h
  · exact dd_hi _ c hc
theorem itoa_ne (i : Int) : Lib.itoa i ≠ [] := by
  obtain ⟨c, r, h, _⟩ := itoa_head (i := i)
  rw [h]
  simp
theorem plain_itoa (i : Int) : Plain (Lib.itoa i) := plain_hi (itoa_ne i) (itoa_hi i)
theorem plain_reg (i : Int) : Plain (114 :: Lib.itoa i) := plain_hi (by simp) fun c hc => by
  rcases List.mem_cons.1 hc with rfl | h
  · decide
  · exact itoa_hi i c h
theorem plain_sign {n : Nat} (h1 : 1 ≤ n) (h6 : n ≤ 6) : Plain (strB (sgL.getD n ⟨#[]⟩)) := by
  have key : ∀ a : Fin 7, 1 ≤ a.val → strB (sgL.getD a.val ⟨#[]⟩) ≠ [] ∧ (∀ c ∈ strB (sgL.getD a.val ⟨#[]⟩), gapC c = false) ∧ (strB (sgL.getD a.val ⟨#[]⟩)).headD 0 ≠ 34 := by decide
  obtain ⟨g1, g2, g3⟩ := key ⟨n, by omega⟩ h1
  exact ⟨g1, g2, g3⟩
theorem plain_name {o : Nat} (h1 : 1 ≤ o) (h2 : o ≤ 16) : Plain (strB (nmL.getD o ⟨#[]⟩)) := by
  have key : ∀ a : Fin 17, 1 ≤ a.val → strB (nmL.getD a.val ⟨#[]⟩) ≠ [] ∧ (∀ c ∈ strB (nmL.getD a.val ⟨#[]⟩), 35 < c.toNat) := by decide
  obtain ⟨g1, g2⟩ := key ⟨o, by omega⟩ h1
  exact plain_hi g1 g2
theorem ok_wd {x : Ins} {q : FK} (h : q.fit x) : okW (q.wd x) := by
  cases q with
  | a => exact fun _ => plain_reg _
  | b => exact fun _ => plain_reg _
  | c => exact fun _ => plain_reg _
  | n => exact fun _ => plain_itoa _
  | k => exact fun _ => plain_itoa _
  | s =>
    intro _
    have h1 := h.1
    have h2 := h.2
    exact plain_sign (by omega) (by omega)
  | v =>
    intro hq
    unfold FK.wd at hq ⊢
    dsimp only at hq ⊢
    by_cases hk : x.k = 2
    · rw [if_pos hk] at hq; cases hq
    · rw [if_neg hk]
      unfold sayP
      by_cases h1 : x.k = 1
      · rw [if_pos h1]; exact plain_itoa _
      · rw [if_neg h1, if_neg hk]
        exact plain_hi (by simp) (by decide)
/-- an instruction with blanks anywhere -/
theorem words_ins {x : Ins} {b tail : List UInt8} {gs : List (List UInt8)} (ho : 1 ≤ x.o ∧ x.o ≤ 16) (hf : ∀ q ∈ fks x.o.toNat, q.fit x) (hb : isBlank b) (hg : ∀ g ∈ gs, isBlank g ∧ g ≠ []) (hl : gs.length = (fks x.o.toNat).length) (ht : brk tail) (hw : wordsP tail = some []) :
    wordsP (b ++ strB (nmL.getD x.o.toNat ⟨#[]⟩) ++ lineT (gs.zip ((fks x.o.toNat).map (FK.wd x))) ++ tail) = some (wdsI x) := by
  have h1 := words_line (w := (strB (nmL.getD x.o.toNat ⟨#[]⟩), false)) (ps := gs.zip ((fks x.o.toNat).map (FK.wd x))) ht hw hb (fun _ => plain_name (by omega) (by omega)) (fun p hp => by
    obtain ⟨g1, g2⟩ := List.of_mem_zip (a := p.1) (b := p.2) hp
    obtain ⟨q, hq, e⟩ := List.mem_map.1 g2
    exact ⟨(hg _ g1).1, (hg _ g1).2, by rw [← e]; exact ok_wd (hf q hq)⟩)
  rw [show txW (strB (nmL.getD x.o.toNat ⟨#[]⟩), false) = strB (nmL.getD x.o.toNat ⟨#[]⟩) from rfl] at h1
  rw [h1]
  unfold wdsI
  congr 2
  rw [List.map_snd_zip]
  rw [List.length_map, hl]
  exact Nat.le_refl _
end Go.Proofs.YtaieficgifingaaGreatDoor
namespace Go.Proofs.YtaieficgifingaaGreatDoor
set_option linter.unusedVariables false
set_option linter.unusedSimpArgs false
set_option linter.constructorNameAsVariable false
open Go.RowKit
set_option maxRecDepth 100000
theorem ix_app : ∀ (l r : List UInt8), (∀ c ∈ l, c ≠ 10) → Lib.indexByte (l ++ 10 :: r) 10 = (l.length : Nat)
  | [], r, _ => rfl
  | c :: l, r, h => by
    have hc := h c (List.mem_cons_self ..)
    have ih := ix_app l r fun d hd => h d (List.mem_cons_of_mem _ hd)
    rw [List.cons_append]
    unfold Lib.indexByte
    rw [if_neg (by simpa using hc), ih, if_neg (by simp), List.length_cons]
    omega
theorem lineN_app (l r : List UInt8) (h : ∀ c ∈ l, c ≠ 10) : lineN (l ++ 10 :: r) = l.length := by
  unfold lineN
  rw [ix_app l r h, if_neg (by omega)]
  rfl
/-- lines, each with its end -/
def textL (T : List (List UInt8)) : List UInt8 := T.flatMap fun l => l ++ [10]
theorem lines_text_drop {l r : List UInt8} : (l ++ 10 :: r).drop (l.length + 1) = r := by
  rw [show l ++ 10 :: r = (l ++ [10]) ++ r by simp]
  exact List.drop_left' (by simp)
theorem lines_text : ∀ T : List (List UInt8), (∀ l ∈ T, ∀ c ∈ l, c ≠ 10) → linesL (textL T) = T
  | [], _ => linesL_nil
  | l :: T, h => by
    have e : textL (l :: T) = l ++ 10 :: textL T := by
      unfold textL
      rw [List.flatMap_cons, List.append_assoc]
      rfl
    have hN := lineN_app l (textL T) (h l (List.mem_cons_self ..))
    rw [e, linesL_cons (by simp)]
    unfold lineA lineB
    rw [hN, List.take_left, lines_text_drop]
    congr 1
    exact lines_text T fun x hx => h x (List.mem_cons_of_mem _ hx)
/-- lines that say these words, one line after the other, others saying nothing between them -/
inductive Sq : List (List UInt8) → List (List (List UInt8 × Bool)) → Prop where
  | nil : Sq [] []
  | skip {l T ws} (h : wordsP l = some []) (k : Sq T ws) : Sq (l :: T) ws
  | word {l T w ws} (h : wordsP l = some w) (k : Sq T ws) : Sq (l :: T) (w :: ws)
theorem step_nil {p : PR} {n : Nat} {l : List UInt8} (h : wordsP l = some []) : stepL p n l = some p := by
  unfold stepL
  rw [h]
  rfl
theorem step_w {p : PR} {n : Nat} {l : List UInt8} {w : List (List UInt8 × Bool)} (h : wordsP l = some w) : stepL p n l = stepW p n (wsOf w) := by
  unfold stepL
  rw [h]
theorem run_none {T : List (List UInt8)} (h : Sq T []) : ∀ (n : Nat) (p : PR), runL T n p = .ok p := by
  generalize hw : ([] : List (List (List UInt8 × Bool))) = ws at h
  induction h with
  | nil => intro n p; rfl
  | skip h k ih => intro n p; rw [run_on (step_nil h)]; exact ih hw _ _
  | word h k ih => cases hw
abbrev endW : List (List UInt8 × Bool) := [(strB endT, false)]
theorem name_end {o : Nat} (h : o ≤ 16) : strB (nmL.getD o ⟨#[]⟩) ≠ strB endT := by
  have key : ∀ a : Fin 17, strB (nmL.getD a.val ⟨#[]⟩) ≠ strB endT := by decide
  exact key ⟨o, by omega⟩
theorem ins_end {x : Ins} (h : x.o ≤ 16) : isP (wsOf (wdsI x)) endT = false := by
  unfold wdsI
  cases hm : (fks x.o.toNat).map (FK.wd x) with
  | nil =>
    show (!false && decide (strB (strOf (strB (nmL.getD x.o.toNat ⟨#[]⟩))) = strB endT)) = false
    rw [show strB (strOf (strB (nmL.getD x.o.toNat ⟨#[]⟩))) = strB (nmL.getD x.o.toNat ⟨#[]⟩) from rfl, decide_eq_false (name_end (by omega))]
    rfl
  | cons a b => rfl
theorem run_ins : ∀ (L : List Ins) {T : List (List UInt8)} {ws : List (List (List UInt8 × Bool))}, Sq T ws → ws = L.map wdsI ++ [endW] → (∀ x ∈ L, x.o ≤ 16 ∧ insP (wsOf (wdsI x)) = some x) → ∀ (n : Nat) (p : PR), p.head ≠ 0 → p.ended = false → ∃ ln, runL T n p = .ok { p with ended := true, cd := p.cd ++ L, ln := ln } := fun L T ws h => by
  induction h generalizing L with
  | nil => intro e; cases L <;> cases e
  | skip h k ih =>
    intro e hL n p h1 h2
    rw [run_on (step_nil h)]
    exact ih L e hL _ p h1 h2
  | word h k ih =>
    intro e hL n p h1 h2
    cases L with
    | nil =>
      obtain ⟨rfl, rfl⟩ := List.cons.inj e
      have hs : stepW p n (wsOf endW) = some { p with ended := true } := by
        unfold stepW
        rw [if_neg (by intro e; cases e), if_neg (by rw [h2]; exact Bool.false_ne_true), if_neg h1, if_pos (by rfl)]
      rw [run_on ((step_w h).trans hs), run_none k]
      exact ⟨p.ln, by rw [List.append_nil]⟩
    | cons x L =>
      obtain ⟨rfl, e2⟩ := List.cons.inj e
      obtain ⟨hx1, hx2⟩ := hL x (List.mem_cons_self ..)
      have hs : stepW p n (wsOf (wdsI x)) = some { p with cd := p.cd ++ [x], ln := p.ln ++ [n] } := by
        unfold stepW
        rw [if_neg (by intro e; cases e), if_neg (by rw [h2]; exact Bool.false_ne_true), if_neg h1, if_neg (by rw [ins_end hx1]; exact Bool.false_ne_true), hx2]
      rw [run_on ((step_w h).trans hs)]
      obtain ⟨ln, hl⟩ := ih L e2 (fun y hy => hL y (List.mem_cons_of_mem _ hy)) (n + 1) { p with cd := p.cd ++ [x], ln := p.ln ++ [n] } h1 h2
      exact ⟨ln, by rw [hl]; simp⟩
abbrev headW (nm : List UInt8) (ar : Int) : List (List UInt8 × Bool) := [(strB procT, false), (nm, false), (Lib.itoa ar, false)]
theorem run_head {nm : ByteArray} {ar : Nat} {L : List Ins} (har : ar < 1000) : ∀ {T : List (List UInt8)} {ws : List (List (List UInt8 × Bool))}, Sq T ws → ws = headW (strB nm) (ar : Int) :: (L.map wdsI ++ [endW]) → (∀ x ∈ L, x.o ≤ 16 ∧ insP (wsOf (wdsI x)) = some x) → ∀ (n : Nat), 0 < n → ∃ hd ln, runL T n pr0 = .ok ⟨hd, true, nm, ar, L, ln⟩ := fun {T ws} h => by
  induction h with
  | nil => intro e; cases e
  | skip h k ih =>
    intro e hL n hn
    rw [run_on (step_nil h)]
    exact ih e hL _ (Nat.succ_pos _)
  | word h k ih =>
    intro e hL n hn
    obtain ⟨rfl, rfl⟩ := List.cons.inj e
    obtain ⟨h1, h2⟩ := num_back har
    have hs : stepW pr0 n (wsOf (headW (strB nm) (ar : Int))) = some { pr0 with nm := nm, ar := ar, head := n } := by
      unfold stepW
      rw [if_neg (by intro e; cases e), if_neg (by exact Bool.false_ne_true), if_pos (show pr0.head = 0 from rfl), if_pos (by rfl)]
      show (if numB (strOf (Lib.itoa (ar : Int))) false = true then some { pr0 with nm := strOf (strB nm), ar := numV (strOf (Lib.itoa (ar : Int))) false, head := n } else none) = _
      rw [if_pos h1, h2, show strOf (strB nm) = nm from strB_inj rfl]
    rw [run_on ((step_w h).trans hs)]
    obtain ⟨ln, hl⟩ := run_ins L k rfl hL (n + 1) { pr0 with nm := nm, ar := ar, head := n } (show n ≠ 0 by omega) rfl
    exact ⟨n, ln, by rw [hl]; rfl⟩
/-- a text that says a procedure that Check takes is read as it -/
theorem parse_says {t : List UInt8} {nm : ByteArray} {ar : Nat} {L : List Ins} (hI : ∀ x ∈ L, insI x) (hc : (chkP nm (ar : Int) L).2 = 0) (h : Sq (linesL t) (headW (strB nm) (ar : Int) :: (L.map wdsI ++ [endW]))) : ∃ hd ln, parseP t = .ok ⟨hd, true, nm, ar, L, ln⟩ := by
  obtain ⟨_, _, har, hl, hok⟩ := chkP_ok hc
  have hL : ∀ x ∈ L, x.o ≤ 16 ∧ insP (wsOf (wdsI x)) = some x := fun x hx => by
    obtain ⟨i, hi, rfl⟩ := List.getElem_of_mem hx
    have h1 := hok i hi
    rw [List.getD_eq_getElem?_getD, List.getElem?_eq_getElem hi] at h1
    exact ⟨(insE_op h1).2, (ins_back har hl (hI _ hx) h1).2⟩
  obtain ⟨hd, ln, hr⟩ := run_head (nm := nm) (ar := ar) (by omega) h rfl hL 1 (by omega)
  refine ⟨hd, ln, ?_⟩
  unfold parseP
  rw [hr]
  show endP ⟨hd, true, nm, ar, L, ln⟩ _ = _
  unfold endP
  rw [if_neg (by exact Bool.noConfusion), if_pos hc]
end Go.Proofs.YtaieficgifingaaGreatDoor
namespace Go.Proofs.YtaieficgifingaaGreatDoor
set_option linter.unusedVariables false
set_option linter.unusedSimpArgs false
set_option linter.constructorNameAsVariable false
open Go.RowKit
set_option maxRecDepth 100000
abbrev noNL (l : List UInt8) : Prop := ∀ c ∈ l, c ≠ 10
theorem noNL_hi {l : List UInt8} (h : ∀ c ∈ l, 35 < c.toNat) : noNL l := fun c hc e => by
  have := h c hc
  rw [e] at this
  revert this
  decide
theorem noNL_app {a b : List UInt8} (ha : noNL a) (hb : noNL b) : noNL (a ++ b) := fun c hc => (List.mem_append.1 hc).elim (ha c) (hb c)
theorem quotC_nl (c : UInt8) : noNL (quotC c) := by
  have key : ∀ a : Fin 256, ∀ d ∈ quotC (UInt8.ofNat a.val), d ≠ 10 := by decide +kernel
  have := key ⟨c.toNat, c.toNat_lt⟩
  rwa [show UInt8.ofNat c.toNat = c from UInt8.ofNat_toNat] at this
theorem quotW_nl (t : List UInt8) : noNL (quotW t) := by
  unfold quotW
  refine noNL_app (noNL_app (by intro c hc; simp at hc; rw [hc]; decide) fun c hc => ?_) (by intro c hc; simp at hc; rw [hc]; decide)
  obtain ⟨d, _, h⟩ := List.mem_flatMap.1 hc
  exact quotC_nl d c h
theorem reg_nl (i : Int) : noNL (114 :: Lib.itoa i) := noNL_hi (l := 114 :: Lib.itoa i) (fun c hc => (List.mem_cons.1 hc).elim (fun e => by rw [e]; decide) (itoa_hi i c))
theorem wr_nl {x : Ins} {q : FK} (h : q.fit x) : noNL (q.wr x) := by
  cases q with
  | a => exact reg_nl _
  | b => exact reg_nl _
  | c => exact reg_nl _
  | n => exact noNL_hi (itoa_hi _)
  | k => exact noNL_hi (itoa_hi _)
  | s =>
    have h1 := h.1
    have h2 := h.2
    have key : ∀ a : Fin 7, ∀ d ∈ strB (sgL.getD a.val ⟨#[]⟩), d ≠ 10 := by decide
    exact key ⟨x.n.toNat, by omega⟩
  | v =>
    show noNL (sayP x.k x.i x.t)
    unfold sayP
    split
    · exact noNL_hi (itoa_hi _)
    · split
      · exact quotW_nl _
      · exact noNL_hi (by decide)
theorem wrF_tok (x : Ins) : ∀ l : List FK, wrF x l = lineT ((List.replicate l.length [32]).zip (l.map (FK.wd x)))
  | [] => rfl
  | q :: l => by
    have ih := wrF_tok x l
    unfold wrF lineT at ih ⊢
    rw [List.flatMap_cons, ih, List.length_cons, List.replicate_succ, List.map_cons, List.zip_cons_cons, List.flatMap_cons]
    show 32 :: q.wr x ++ _ = [32] ++ txW (q.wd x) ++ _
    rw [wd_tx]
    rfl
theorem brk_nil : brk [] := .inl rfl
theorem blank2 : isBlank [32, 32] := fun c hc => by simp at hc; exact .inl hc
theorem name_hi {l : List UInt8} (h : nameP l = true) : l ≠ [] ∧ ∀ c ∈ l, 35 < c.toNat := by
  unfold nameP at h
  simp only [Bool.and_eq_true, decide_eq_true_eq] at h
  obtain ⟨⟨⟨h1, h2⟩, h3⟩, h4⟩ := h
  refine ⟨fun e => by rw [e] at h1; simp at h1, fun c hc => ?_⟩
  have := List.all_eq_true.1 h4 c hc
  unfold chrB letB at this
  simp only [Bool.or_eq_true, Bool.and_eq_true, decide_eq_true_eq] at this
  rcases this with (((h | h) | h) | h) | h
  · rcases h with h | h <;> omega
  · omega
  · rw [h]; decide
  · rw [h]; decide
  · rw [h]; decide
/-- the lines that Print writes -/
def headL (nm : ByteArray) (ar : Int) : List UInt8 := [112, 114, 111, 99] ++ lineT [([32], (strB nm, false)), ([32], (Lib.itoa ar, false))]
def linesP (nm : ByteArray) (ar : Int) (L : List Ins) : List (List UInt8) := headL nm ar :: (L.map (fun x => [32, 32] ++ lnR x) ++ [[101, 110, 100]])
theorem text_print {nm : ByteArray} {ar : Int} {L : List Ins} (h : ∀ x ∈ L, 1 ≤ x.o ∧ x.o ≤ 16) : printP nm ar L = textL (linesP nm ar L) := by
  have hb : ∀ L : List Ins, (∀ x ∈ L, 1 ≤ x.o ∧ x.o ≤ 16) → L.flatMap lnP = textL (L.map fun x => [32, 32] ++ lnR x) := fun L h => by
    induction L with
    | nil => rfl
    | cons x L ih =>
      unfold textL at ih ⊢
      rw [List.flatMap_cons, ih fun y hy => h y (List.mem_cons_of_mem _ hy), lnP_eq (h x (List.mem_cons_self ..)), List.map_cons, List.flatMap_cons]
  unfold printP linesP
  rw [hb L h]
  unfold textL headP headL lineT txW
  simp
theorem parse_print {nm : ByteArray} {ar : Nat} {L : List Ins} (hI : ∀ x ∈ L, insI x) (hc : (chkP nm (ar : Int) L).2 = 0) : ∃ hd ln, parseP (printP nm (ar : Int) L) = .ok ⟨hd, true, nm, ar, L, ln⟩ := by
  refine parse_says hI hc ?_
  obtain ⟨_, _, har, hl, hok⟩ := chkP_ok hc
  have hnm : nameP (strB nm) = true := by
    unfold chkP at hc
    cases h : nameP (strB nm) with
    | true => rfl
    | false => rw [h, if_pos rfl] at hc; cases hc
  obtain ⟨hn1, hn2⟩ := name_hi hnm
  have hx : ∀ x ∈ L, (1 ≤ x.o ∧ x.o ≤ 16) ∧ ∀ q ∈ fks x.o.toNat, q.fit x := fun x hx => by
    obtain ⟨i, hi, rfl⟩ := List.getElem_of_mem hx
    have h1 := hok i hi
    rw [List.getD_eq_getElem?_getD, List.getElem?_eq_getElem hi] at h1
    exact ⟨insE_op h1, (ins_back har hl (hI _ hx) h1).1⟩
  have hnl : ∀ l ∈ linesP nm (ar : Int) L, ∀ c ∈ l, c ≠ 10 := fun l hl => by
    rcases List.mem_cons.1 hl with rfl | hl
    · unfold headL lineT txW
      simp only [List.flatMap_cons, List.flatMap_nil, List.append_nil]
      exact noNL_app (by decide) (noNL_app (noNL_app (by decide) (show noNL (strB nm) from noNL_hi hn2)) (noNL_app (by decide) (show noNL (Lib.itoa (ar : Int)) from noNL_hi (itoa_hi _))))
    · rcases List.mem_append.1 hl with hl | hl
      · obtain ⟨x, hx1, rfl⟩ := List.mem_map.1 hl
        obtain ⟨ho, hf⟩ := hx x hx1
        unfold lnR wrF
        refine noNL_app (by decide) (noNL_app ?_ fun c hc => ?_)
        · exact noNL_hi (by
            have key : ∀ a : Fin 17, ∀ c ∈ strB (nmL.getD a.val ⟨#[]⟩), 35 < c.toNat := by decide
            exact key ⟨x.o.toNat, by omega⟩)
        · obtain ⟨q, hq, hc⟩ := List.mem_flatMap.1 hc
          rcases List.mem_cons.1 hc with rfl | hc
          · decide
          · exact wr_nl (hf q hq) c hc
      · simp only [List.mem_cons, List.not_mem_nil, or_false] at hl
        rw [hl]
        decide
  rw [text_print fun x h => (hx x h).1, lines_text _ hnl]
  have hw0 := words_line (tail := []) (b := []) (w := (strB procT, false)) (ps := [([32], (strB nm, false)), ([32], (Lib.itoa (ar : Int), false))]) brk_nil words_nil (fun c hc => by cases hc) (fun _ => plain_hi (by decide) (by decide)) (fun p hp => by
    simp only [List.mem_cons, List.not_mem_nil, or_false] at hp
    rcases hp with rfl | rfl
    · exact ⟨fun c hc => by simp at hc; exact .inl hc, by simp, fun _ => plain_hi hn1 hn2⟩
    · exact ⟨fun c hc => by simp at hc; exact .inl hc, by simp, fun _ => show Plain (Lib.itoa (ar : Int)) from plain_itoa _⟩)
  rw [List.append_nil, List.nil_append] at hw0
  refine .word hw0 ?_
  have hend : Sq [[101, 110, 100]] [endW] := .word (by
    have := words_line (tail := []) (b := []) (w := (strB endT, false)) (ps := []) brk_nil words_nil (fun c hc => by cases hc) (fun _ => plain_hi (by decide) (by decide)) (fun p hp => by cases hp)
    exact this) .nil
  clear hnl hok hc hl
  induction L with
  | nil => exact hend
  | cons x L ih =>
    obtain ⟨ho, hf⟩ := hx x (List.mem_cons_self ..)
    refine .word (l := [32, 32] ++ lnR x) (w := wdsI x) ?_ (ih (fun y hy => hI y (List.mem_cons_of_mem _ hy)) (fun y hy => hx y (List.mem_cons_of_mem _ hy)))
    have := words_ins (b := [32, 32]) (tail := []) (gs := List.replicate (fks x.o.toNat).length [32]) ho hf blank2 (fun g hg => by
      rw [(List.mem_replicate.1 hg).2]
      exact ⟨fun c hc => by simp at hc; exact .inl hc, by simp⟩) (by rw [List.length_replicate]) brk_nil words_nil
    rw [List.append_nil, ← wrF_tok, List.append_assoc] at this
    exact this
end Go.Proofs.YtaieficgifingaaGreatDoor
