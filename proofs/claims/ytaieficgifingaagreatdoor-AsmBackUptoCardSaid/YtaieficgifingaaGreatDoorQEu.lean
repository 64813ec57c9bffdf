/- Texts of the claim, merged: only what the theorem needs. -/
import Derived.Test.YtaieficgifingaaGreatDoorQEt
import Derived.Lib.ParseIntBTie
namespace Go.Proofs.YtaieficgifingaaGreatDoor
set_option linter.unusedVariables false
set_option linter.unusedSimpArgs false
set_option linter.constructorNameAsVariable false
open Go.RowKit
set_option maxRecDepth 100000
theorem i64_0 : i64 0 := ⟨by decide, by decide⟩
theorem numV_le (t : ByteArray) (q : Bool) : numV t q ≤ 999999999 := by
  unfold numV
  split
  · rename_i h
    unfold numB at h
    simp only [Bool.and_eq_true, decide_eq_true_eq] at h
    obtain ⟨⟨_, h1⟩, h2⟩ := h
    have h3 := natFrom_lt (digS_all h1).1 0
    have h4 : natFrom 0 (strB t) = natS (strB t) := rfl
    rw [h4] at h3
    have h5 : (strB t).length ≤ 9 := by rw [strB_size]; exact h2
    have h6 : 10 ^ (strB t).length ≤ 10 ^ 9 := Nat.pow_le_pow_right (by decide) h5
    omega
  · omega
theorem num_i64 (t : ByteArray) (q : Bool) : i64 ((numV t q : Nat) : Int) := by
  have := numV_le t q
  exact ⟨by omega, by omega⟩
theorem sign_i64 (t : ByteArray) (q : Bool) {i : Nat} (h : signP t q = some i) : i64 ((i : Nat) : Int) := by
  have := List.mem_of_find?_eq_some h
  have := List.mem_range.1 this
  exact ⟨by omega, by omega⟩
theorem val_i64 {t : ByteArray} {q : Bool} (h : (valP t q).ok = true) : i64 (valP t q).i := by
  unfold valP at h ⊢
  by_cases h1 : q = true
  · rw [if_pos h1]; exact i64_0
  · rw [if_neg h1] at h ⊢
    by_cases h2 : strB t = [110, 111, 110, 101]
    · rw [if_pos h2]; exact i64_0
    · rw [if_neg h2] at h ⊢
      split at h
      · cases h
      · rename_i h3
        rw [if_neg h3]
        show i64 (intP (strB t))
        have h : okP (strB t) = true := h
        unfold okP at h
        unfold intP
        cases hp : Lib.parseIntB 64 (strB t) with
        | ok v =>
          obtain ⟨g1, g2⟩ := Lib.parseIntB_bounds hp
          have e : ((2 ^ (64 - 1) : Nat) : Int) = 9223372036854775808 := by decide
          rw [e] at g1 g2
          show i64 v
          exact ⟨g1, by omega⟩
        | _ => rw [hp] at h; cases h
theorem rd_I {k : FK} {x : Ins} {p : WD} (hx : insI x) (h : (k.rd x p).2 = true) : insI (k.rd x p).1 := by
  obtain ⟨h1, h2, h3, h4, h5⟩ := hx
  cases k with
  | a => exact ⟨num_i64 _ _, h2, h3, h4, h5⟩
  | b => exact ⟨h1, num_i64 _ _, h3, h4, h5⟩
  | c => exact ⟨h1, h2, num_i64 _ _, h4, h5⟩
  | n => exact ⟨h1, h2, h3, num_i64 _ _, h5⟩
  | k => exact ⟨num_i64 _ _, h2, h3, h4, h5⟩
  | s =>
    refine ⟨h1, h2, h3, ?_, h5⟩
    show i64 (match signP p.1 p.2 with | some i => ((i : Nat) : Int) | none => x.n)
    cases hs : signP p.1 p.2 with
    | none => exact h4
    | some i => exact sign_i64 _ _ hs
  | v => exact ⟨h1, h2, h3, h4, val_i64 h⟩
theorem rdP_I : ∀ (l : List FK) (x : Ins) (W : List WD) (y : Ins), insI x → rdP l x W = some y → insI y
  | [], x, W, y, hx, h => by
    unfold rdP at h
    cases h
    exact hx
  | k :: r, x, [], y, hx, h => by
    unfold rdP at h
    cases h
  | k :: r, x, p :: W, y, hx, h => by
    unfold rdP at h
    split at h
    · rename_i hk
      exact rdP_I r _ W y (rd_I hx hk) h
    · cases h
theorem insZ_I (op : Nat) : insI (insZ op) := ⟨i64_0, i64_0, i64_0, i64_0, i64_0⟩
theorem insFrom_I : ∀ (l : List Sh) (W : List WD) (y : Ins), insFrom l W = some y → insI y
  | [], W, y, h => by
    unfold insFrom at h
    cases h
  | s :: r, W, y, h => by
    unfold insFrom at h
    split at h
    · cases hr : rdP s.f (insZ s.op) (W.drop 1) with
      | none =>
        rw [hr] at h
        exact insFrom_I r W y h
      | some x =>
        rw [hr] at h
        cases h
        exact rdP_I _ _ _ _ (insZ_I _) hr
    · exact insFrom_I r W y h
theorem step_I {p p' : PR} {n : Nat} {l : List UInt8} (hp : ∀ x ∈ p.cd, insI x) (h : stepL p n l = some p') : ∀ x ∈ p'.cd, insI x := by
  unfold stepL at h
  cases hw : wordsP l with
  | none => rw [hw] at h; cases h
  | some ws =>
    rw [hw] at h
    have h : stepW p n (wsOf ws) = some p' := h
    unfold stepW at h
    split at h
    · cases h; exact hp
    split at h
    · cases h
    split at h
    · split at h
      · split at h
        · cases h; exact hp
        · cases h
      · cases h
    split at h
    · cases h; exact hp
    cases hi : insP (wsOf ws) with
    | none => rw [hi] at h; cases h
    | some x =>
      rw [hi] at h
      cases h
      intro y hy
      rcases List.mem_append.1 hy with hy | hy
      · exact hp y hy
      · rw [List.mem_singleton.1 hy]
        exact insFrom_I _ _ _ hi
theorem run_I : ∀ (T : List (List UInt8)) (n : Nat) (p p' : PR), (∀ x ∈ p.cd, insI x) → runL T n p = .ok p' → ∀ x ∈ p'.cd, insI x
  | [], n, p, p', hp, h => by
    unfold runL at h
    cases h
    exact hp
  | l :: T, n, p, p', hp, h => by
    unfold runL at h
    cases hs : stepL p n l with
    | none => rw [hs] at h; cases h
    | some q =>
      rw [hs] at h
      exact run_I T (n + 1) q p' (step_I hp hs) h
theorem parse_ok {t : List UInt8} {p : PR} (h : parseP t = .ok p) : (∀ x ∈ p.cd, insI x) ∧ (chkP p.nm (p.ar : Nat) p.cd).2 = 0 := by
  unfold parseP at h
  cases hr : runL (linesL t) 1 pr0 with
  | error n => rw [hr] at h; cases h
  | ok q =>
    rw [hr] at h
    have h : endP q (linesL t).length = .ok p := h
    have hq := run_I _ _ _ _ (fun x hx => by cases hx) hr
    unfold endP at h
    split at h
    · cases h
    · split at h
      · rename_i hc
        cases h
        exact ⟨hq, hc⟩
      · cases h
theorem wr_short {x : Ins} (hx : insI x) (q : FK) (hq : q ≠ .v) : (q.wr x).length ≤ 22 := by
  obtain ⟨h1, h2, h3, h4, h5⟩ := hx
  have l1 := itoa_le h1
  have l2 := itoa_le h2
  have l3 := itoa_le h3
  have l4 := itoa_le h4
  cases q with
  | a => show (114 :: Lib.itoa x.a).length ≤ _; rw [List.length_cons]; omega
  | b => show (114 :: Lib.itoa x.b).length ≤ _; rw [List.length_cons]; omega
  | c => show (114 :: Lib.itoa x.c).length ≤ _; rw [List.length_cons]; omega
  | n => show (Lib.itoa x.n).length ≤ _; omega
  | k => show (Lib.itoa x.a).length ≤ _; omega
  | s =>
    show (strB (sgL.getD x.n.toNat ⟨#[]⟩)).length ≤ _
    have : ∀ k : Nat, (strB (sgL.getD k ⟨#[]⟩)).length ≤ 2 := fun k => by
      match k with
      | 0 | 1 | 2 | 3 | 4 | 5 | 6 => decide
      | k + 7 => simp [sgL, strB]
    have := this x.n.toNat
    omega
  | v => exact absurd rfl hq
/-- words as they are written: how many bytes -/
def txN (ws : List (List UInt8 × Bool)) : Nat := (ws.map fun w => (txW w).length).sum
theorem txN_cons (w : List UInt8 × Bool) (ws : List (List UInt8 × Bool)) : txN (w :: ws) = (txW w).length + txN ws := by
  unfold txN
  rw [List.map_cons, List.sum_cons]
theorem txN_short {x : Ins} (hx : insI x) : ∀ l : List FK, FK.v ∉ l → txN (l.map (FK.wd x)) ≤ 22 * l.length
  | [], _ => Nat.zero_le _
  | q :: l, h => by
    have h1 := wr_short hx q fun e => h (e ▸ List.mem_cons_self ..)
    have h2 := txN_short hx l fun e => h (List.mem_cons_of_mem _ e)
    rw [List.map_cons, txN_cons, wd_tx, List.length_cons]
    omega
theorem fks_vv : ∀ o : Nat, o ≤ 16 → (o = 1 ∧ fks o = [.a, .v]) ∨ (FK.v ∉ fks o ∧ (fks o).length ≤ 4) := fun o ho => by
  have hcases : o = 0 ∨ o = 1 ∨ o = 2 ∨ o = 3 ∨ o = 4 ∨ o = 5 ∨ o = 6 ∨ o = 7 ∨ o = 8 ∨ o = 9 ∨ o = 10 ∨ o = 11 ∨ o = 12 ∨ o = 13 ∨ o = 14 ∨ o = 15 ∨ o = 16 := by omega
  rcases hcases with rfl | rfl | rfl | rfl | rfl | rfl | rfl | rfl | rfl | rfl | rfl | rfl | rfl | rfl | rfl | rfl | rfl
  all_goals first | exact .inl ⟨rfl, rfl⟩ | exact .inr ⟨by simp [fks], by decide⟩
theorem nm_short {o : Nat} (h : o ≤ 16) : (strB (nmL.getD o ⟨#[]⟩)).length ≤ 5 := by
  have key : ∀ a : Fin 17, (strB (nmL.getD a.val ⟨#[]⟩)).length ≤ 5 := by decide
  exact key ⟨o, by omega⟩
/-- a line of words that is written -/
structure LW (l : List UInt8) (ws : List (List UInt8 × Bool)) : Prop where
  wd : wordsP l = some ws
  ne : 1 ≤ ws.length ∧ ws.length ≤ 5
  ok : ∀ w ∈ ws, okW w ∧ noNL (txW w)
  sz : txN ws ≤ 1100
  nl : noNL l
  ln : l.length ≤ 1200
inductive LWs : List (List UInt8) → List (List (List UInt8 × Bool)) → Prop where
  | nil : LWs [] []
  | cons {l T w ws} (h : LW l w) (k : LWs T ws) : LWs (l :: T) (w :: ws)
theorem lineT_len : ∀ ps : List (List UInt8 × (List UInt8 × Bool)), (∀ p ∈ ps, p.1.length ≤ 3) → (lineT ps).length ≤ 3 * ps.length + txN (ps.map Prod.snd)
  | [], _ => Nat.zero_le _
  | p :: ps, h => by
    have h1 := h p (List.mem_cons_self ..)
    have h2 := lineT_len ps fun q hq => h q (List.mem_cons_of_mem _ hq)
    rw [List.map_cons, txN_cons, List.length_cons]
    unfold lineT at h2 ⊢
    rw [List.flatMap_cons, List.length_append, List.length_append]
    omega
theorem lineT_nl : ∀ ps : List (List UInt8 × (List UInt8 × Bool)), (∀ p ∈ ps, noNL p.1 ∧ noNL (txW p.2)) → noNL (lineT ps)
  | [], _ => fun c hc => by cases hc
  | p :: ps, h => by
    obtain ⟨h1, h2⟩ := h p (List.mem_cons_self ..)
    have h3 := lineT_nl ps fun q hq => h q (List.mem_cons_of_mem _ hq)
    unfold lineT at h3 ⊢
    rw [List.flatMap_cons]
    exact noNL_app (noNL_app h1 h2) h3
theorem blank_nl {b : List UInt8} (h : isBlank b) : noNL b := fun c hc => by
  rcases h c hc with rfl | rfl <;> decide
/-- the lines of a procedure that Check takes -/
theorem print_lines {nm : ByteArray} {ar : Nat} {L : List Ins} (hI : ∀ x ∈ L, insI x) (hc : (chkP nm (ar : Int) L).2 = 0) :
    printP nm (ar : Int) L = textL (linesP nm (ar : Int) L) ∧ linesL (printP nm (ar : Int) L) = linesP nm (ar : Int) L ∧ (linesP nm (ar : Int) L).length ≤ 66 ∧
    LWs (linesP nm (ar : Int) L) (headW (strB nm) (ar : Int) :: (L.map wdsI ++ [endW])) := by
  obtain ⟨hnl, har0, har, hl, hok⟩ := chkP_ok hc
  have hnm : nameP (strB nm) = true := by
    unfold chkP at hc
    cases h : nameP (strB nm) with
    | true => rfl
    | false => rw [h, if_pos rfl] at hc; cases hc
  obtain ⟨hn1, hn2⟩ := name_hi hnm
  have hx : ∀ x ∈ L, (1 ≤ x.o ∧ x.o ≤ 16) ∧ (∀ q ∈ fks x.o.toNat, q.fit x) ∧ (x.o = 1 → x.t.size ≤ 256) := fun x hx => by
    obtain ⟨i, hi, rfl⟩ := List.getElem_of_mem hx
    have h1 := hok i hi
    rw [List.getD_eq_getElem?_getD, List.getElem?_eq_getElem hi] at h1
    exact ⟨insE_op h1, (ins_back har hl (hI _ hx) h1).1, (insE_ok h1).tx⟩
  have hin : ∀ x ∈ L, LW ([32, 32] ++ lnR x) (wdsI x) := fun x hxm => by
    obtain ⟨ho, hf, ht⟩ := hx x hxm
    have hxI := hI x hxm
    have hw : wordsP ([32, 32] ++ lnR x) = some (wdsI x) := by
      have := words_ins (b := [32, 32]) (tail := []) (gs := List.replicate (fks x.o.toNat).length [32]) ho hf blank2 (fun g hg => by
        rw [(List.mem_replicate.1 hg).2]
        exact ⟨fun c hc => by simp at hc; exact .inl hc, by simp⟩) (by rw [List.length_replicate]) brk_nil words_nil
      rw [List.append_nil, ← wrF_tok, List.append_assoc] at this
      exact this
    have hlen : (fks x.o.toNat).length ≤ 4 ∧ txN ((fks x.o.toNat).map (FK.wd x)) ≤ 1052 := by
      rcases fks_vv x.o.toNat (by omega) with ⟨h1, h2⟩ | ⟨h1, h2⟩
      · rw [h2]
        refine ⟨by decide, ?_⟩
        have g1 := wr_short hxI .a (fun e => by cases e)
        have g2 := wr_len hxI .v fun _ => ht (by omega)
        rw [List.map_cons, List.map_cons, txN_cons, txN_cons, wd_tx, wd_tx]
        show _ + (_ + 0) ≤ _
        omega
      · have := txN_short hxI _ h1
        exact ⟨h2, by omega⟩
    have hnms := nm_short (o := x.o.toNat) (by omega)
    have hhi : noNL (strB (nmL.getD x.o.toNat ⟨#[]⟩)) := noNL_hi (by
      have key : ∀ a : Fin 17, ∀ c ∈ strB (nmL.getD a.val ⟨#[]⟩), 35 < c.toNat := by decide
      exact key ⟨x.o.toNat, by omega⟩)
    have hokw : ∀ w ∈ wdsI x, okW w ∧ noNL (txW w) := fun w hw => by
      unfold wdsI at hw
      rcases List.mem_cons.1 hw with rfl | hw
      · exact ⟨fun _ => plain_name (by omega) (by omega), hhi⟩
      · obtain ⟨q, hq, rfl⟩ := List.mem_map.1 hw
        exact ⟨ok_wd (hf q hq), by rw [wd_tx]; exact wr_nl (hf q hq)⟩
    refine ⟨hw, ?_, hokw, ?_, ?_, ?_⟩
    · unfold wdsI
      rw [List.length_cons, List.length_map]
      omega
    · unfold wdsI
      rw [txN_cons]
      show (strB (nmL.getD x.o.toNat ⟨#[]⟩)).length + _ ≤ _
      omega
    · unfold lnR wrF
      refine noNL_app (by decide) (noNL_app hhi fun c hc => ?_)
      obtain ⟨q, hq, hc⟩ := List.mem_flatMap.1 hc
      rcases List.mem_cons.1 hc with rfl | hc
      · decide
      · exact wr_nl (hf q hq) c hc
    · have h1 := lineT_len ((List.replicate (fks x.o.toNat).length [32]).zip ((fks x.o.toNat).map (FK.wd x))) fun p hp => by
        obtain ⟨g1, _⟩ := List.of_mem_zip (a := p.1) (b := p.2) hp
        rw [(List.mem_replicate.1 g1).2]
        decide
      rw [List.map_snd_zip (by rw [List.length_map, List.length_replicate]; exact Nat.le_refl _), List.length_zip, List.length_map, List.length_replicate, Nat.min_self] at h1
      unfold lnR
      rw [wrF_tok, List.length_append, List.length_append]
      show 2 + (_ + _) ≤ _
      omega
  have hhead : LW (headL nm (ar : Int)) (headW (strB nm) (ar : Int)) := by
    have hari : i64 (ar : Int) := ⟨by omega, by omega⟩
    have hil := itoa_le hari
    have hnmn : noNL (strB nm) := noNL_hi hn2
    have hitn : noNL (Lib.itoa (ar : Int)) := noNL_hi (itoa_hi _)
    have hps : ∀ p ∈ [([32], (strB nm, false)), ([32], (Lib.itoa (ar : Int), false))], isBlank p.1 ∧ p.1 ≠ [] ∧ okW p.2 := fun p hp => by
      simp only [List.mem_cons, List.not_mem_nil, or_false] at hp
      rcases hp with rfl | rfl
      · exact ⟨fun c hc => by simp at hc; exact .inl hc, by simp, fun _ => plain_hi hn1 hn2⟩
      · exact ⟨fun c hc => by simp at hc; exact .inl hc, by simp, fun _ => show Plain (Lib.itoa (ar : Int)) from plain_itoa _⟩
    have hw0 := words_line (tail := []) (b := []) (w := (strB procT, false)) (ps := [([32], (strB nm, false)), ([32], (Lib.itoa (ar : Int), false))]) brk_nil words_nil (fun c hc => by cases hc) (fun _ => plain_hi (by decide) (by decide)) hps
    rw [List.append_nil, List.nil_append] at hw0
    refine ⟨hw0, ⟨by show 1 ≤ 3; decide, by show 3 ≤ 5; decide⟩, fun w hw => ?_, ?_, ?_, ?_⟩
    · simp only [headW, List.mem_cons, List.not_mem_nil, or_false] at hw
      rcases hw with rfl | rfl | rfl
      · exact ⟨fun _ => plain_hi (by decide) (by decide), by decide⟩
      · exact ⟨fun _ => plain_hi hn1 hn2, hnmn⟩
      · exact ⟨fun _ => show Plain (Lib.itoa (ar : Int)) from plain_itoa _, hitn⟩
    · unfold headW
      rw [txN_cons, txN_cons, txN_cons]
      show 4 + ((strB nm).length + ((Lib.itoa (ar : Int)).length + 0)) ≤ _
      omega
    · unfold headL
      exact noNL_app (by decide) (lineT_nl _ fun p hp => by
        simp only [List.mem_cons, List.not_mem_nil, or_false] at hp
        rcases hp with rfl | rfl
        · exact ⟨show noNL [32] by decide, hnmn⟩
        · exact ⟨show noNL [32] by decide, hitn⟩)
    · unfold headL lineT txW
      simp only [List.flatMap_cons, List.flatMap_nil, List.append_nil, List.length_append, List.length_cons, List.length_nil]
      simp only [Bool.false_eq_true, if_false]
      omega
  have hend : LW [101, 110, 100] endW := by
    refine ⟨?_, by decide, fun w hw => ?_, by decide, by decide, by decide⟩
    · have := words_line (tail := []) (b := []) (w := (strB endT, false)) (ps := []) brk_nil words_nil (fun c hc => by cases hc) (fun _ => plain_hi (by decide) (by decide)) (fun p hp => by cases hp)
      exact this
    · rw [List.mem_singleton.1 hw]
      exact ⟨fun _ => plain_hi (by decide) (by decide), by decide⟩
  have hall : LWs (linesP nm (ar : Int) L) (headW (strB nm) (ar : Int) :: (L.map wdsI ++ [endW])) := by
    unfold linesP
    refine .cons hhead ?_
    clear hok hc hl hx hI
    induction L with
    | nil => exact .cons hend .nil
    | cons x L ih =>
      exact .cons (hin x (List.mem_cons_self ..)) (ih fun y hy => hin y (List.mem_cons_of_mem _ hy))
  refine ⟨text_print fun x h => (hx x h).1, ?_, ?_, hall⟩
  · rw [text_print fun x h => (hx x h).1]
    refine lines_text _ fun l hl => ?_
    have key : ∀ {T : List (List UInt8)} {ws : List (List (List UInt8 × Bool))}, LWs T ws → ∀ l ∈ T, noNL l := fun {T ws} h => by
      induction h with
      | nil => intro l hl; cases hl
      | cons h k ih =>
        intro l hl
        rcases List.mem_cons.1 hl with rfl | hl
        · exact h.nl
        · exact ih l hl
    exact key hall l hl
  · unfold linesP
    rw [List.length_cons, List.length_append, List.length_map, List.length_cons, List.length_nil]
    omega
theorem textL_len : ∀ T : List (List UInt8), (∀ l ∈ T, l.length ≤ 1200) → (textL T).length ≤ 1201 * T.length
  | [], _ => Nat.zero_le _
  | l :: T, h => by
    have h1 := h l (List.mem_cons_self ..)
    have h2 := textL_len T fun x hx => h x (List.mem_cons_of_mem _ hx)
    unfold textL at h2 ⊢
    rw [List.flatMap_cons, List.length_append, List.length_append, List.length_cons, List.length_cons, List.length_nil]
    omega
theorem print_len {nm : ByteArray} {ar : Nat} {L : List Ins} (hI : ∀ x ∈ L, insI x) (hc : (chkP nm (ar : Int) L).2 = 0) : (printP nm (ar : Int) L).length ≤ 100000 := by
  obtain ⟨h1, _, h3, h4⟩ := print_lines hI hc
  rw [h1]
  have key : ∀ {T : List (List UInt8)} {ws : List (List (List UInt8 × Bool))}, LWs T ws → ∀ l ∈ T, l.length ≤ 1200 := fun {T ws} h => by
    induction h with
    | nil => intro l hl; cases hl
    | cons h k ih =>
      intro l hl
      rcases List.mem_cons.1 hl with rfl | hl
      · exact h.ln
      · exact ih l hl
  have := textL_len _ (key h4)
  omega
end Go.Proofs.YtaieficgifingaaGreatDoor
namespace Go.Proofs.YtaieficgifingaaGreatDoor
set_option linter.unusedVariables false
set_option linter.unusedSimpArgs false
open Go.RowKit
set_option maxRecDepth 100000
set_option maxHeartbeats 8000000
theorem parseG_ok {nm : ByteArray} {ar : Nat} {L : List Ins} (hI : ∀ x ∈ L, insI x) (hc : (chkP nm (ar : Int) L).2 = 0) {r : PV} (h : parseG (printP nm (ar : Int) L) r) : r.nm = nm ∧ r.ar = (ar : Int) ∧ r.cd = L ∧ r.line = 0 ∧ r.e = 0 := by
  obtain ⟨hd, ln, hp⟩ := parse_print hI hc
  have h := h.1
  rw [hp] at h
  exact h
theorem parse_err {t : List UInt8} {x : Int × Int} (h : parseP t = .error x) : x.2 ≠ 0 := by
  unfold parseP at h
  cases hr : runL (linesL t) 1 pr0 with
  | error n =>
    rw [hr] at h
    cases h
    exact fun e => by cases e
  | ok q =>
    rw [hr] at h
    have h : endP q (linesL t).length = .error x := h
    unfold endP at h
    split at h
    · cases h
      exact fun e => by cases e
    · split at h
      · cases h
      · rename_i hc
        cases h
        exact hc
def i99 : Ins := { insD with o := 99 }
def i98 : Ins := { insD with o := 98 }
/-- the code with its first instructions overwritten -/
def overI (L : List Ins) (i : Nat) : List Ins := List.replicate i i99 ++ L.drop i
theorem overI_len {L : List Ins} {i : Nat} (h : i ≤ L.length) : (overI L i).length = L.length := by
  unfold overI
  rw [List.length_append, List.length_replicate, List.length_drop]
  omega
theorem overI_get (L : List Ins) (i j : Nat) : (overI L i).getD j insD = if j < i then i99 else L.getD j insD := by
  unfold overI
  rw [List.getD_eq_getElem?_getD]
  split
  · rename_i h
    rw [List.getElem?_append_left (by rw [List.length_replicate]; exact h), List.getElem?_replicate, if_pos h]
    rfl
  · rename_i h
    rw [List.getElem?_append_right (by rw [List.length_replicate]; omega), List.length_replicate, List.getElem?_drop, show i + (j - i) = j by omega, List.getD_eq_getElem?_getD]
theorem overI_upd (L : List Ins) (i : Nat) : updF (insF (overI L i)) i (insA i99) = insF (overI L (i + 1)) := by
  funext j
  unfold updF insF
  rw [overI_get, overI_get]
  by_cases h : j = i
  · rw [if_pos h, if_pos (by omega)]
  · rw [if_neg h]
    by_cases h2 : j < i
    · rw [if_pos h2, if_pos (by omega)]
    · rw [if_neg h2, if_neg (by omega)]
section
variable {E : Base} {n L : Nat} {τ : List (Nat × AV)} {h : List (Nat × AO)} {F : World → Prop}
theorem dstInsM {lab cap m : Nat} {l : List Ins} {T : TypeId} (hm : l.length = m) (hl : hk lab h = some (.tab 8 m cap (insF l) T)) : DstA E n L τ h F (.sl lab 8 0 m cap) T 8 m cap (inss l) [lab] := by
  subst hm
  exact dstIns hl
end
theorem asmBack1_law (nm : ByteArray) (ar : Int) (L : List Ins) (o cp : Nat) (text : ByteArray) (hs : text.size ≤ 9223372036854775807) (hL : L.length ≤ 9223372036854775807) (hI : ∀ x ∈ L, insI x) (fs : Fam) (hG : Glob fs) (hfc : ∀ x ∈ fs, x.ob.isCells = true) : SpecF Tryz.prog 5 [.agg (prA nm ar (.sl 0 1 o L.length cp)), .raw (.string text)] [roJ o L] 1 fs (σ := Unit) (fun _ => True) (fun _ => .raw (.bool true)) (fun _ => []) (fun _ => fs) := by
  refine SpecF.of Tryz.func5 rfl Tryz.ntmps5 rfl (bdl_cons (rowsJ_bd _ _ _ _) (bdl_nil _)) fun ρ w => ?_
  refine sS_ ?_
  refine R.cl [0] (long1_spec nm ar L o cp hL) Tryz.call11 hS4_ rfl rfl rfl (fun _ => rfl) rfl (by kernel_rfl) fun b hb => ?_
  cases b with
  | true =>
    refine sS_ ?_
    refine R.clR [] (known_spec fs hG hfc) hG.ro Tryz.call7 hS11_ rfl rfl rfl (fun _ => rfl) rfl (by kernel_rfl) fun _ _ => ?_
    refine sS_ ?_
    refine X.finF ttok () [] trivial rfl rfl rfl hS7_ _ (by first | exact .inl rfl | exact .inr rfl) ?_ ?_ ?_
    · exact fun w' hf => hf.ap
    · exact fun p hp => hp
    · exact fun p hp e => ⟨p, hp, rfl⟩
  | false =>
    obtain ⟨hL4, hnm, htx⟩ := hb rfl
    refine sS_ ?_
    by_cases hb : 60000 < text.size
    · rw [decide_eq_true (show ((text.size : Nat) : Int) > 60000 by omega)]
      refine sS_ ?_
      refine R.clR [] (known_spec fs hG hfc) hG.ro Tryz.call7 hS11_ rfl rfl rfl (fun _ => rfl) rfl (by kernel_rfl) fun _ _ => ?_
      refine sS_ ?_
      refine X.finF ttok () [] trivial rfl rfl rfl hS7_ _ (by first | exact .inl rfl | exact .inr rfl) ?_ ?_ ?_
      · exact fun w' hf => hf.ap
      · exact fun p hp => hp
      · exact fun p hp e => ⟨p, hp, rfl⟩
    rw [decide_eq_false (show ¬ ((text.size : Nat) : Int) > 60000 by omega)]
    refine sS_ ?_
    refine R.clR [0] (print1_spec nm ar L o cp (by omega) hI fs hG) hG.ro Tryz.call13 hS4_ rfl rfl rfl (fun _ => rfl) rfl (by kernel_rfl) fun _ _ => ?_
    refine sS_ ?_
    refine R.cl [0] (checkP1_spec nm ar L o cp (by omega)) Tryz.call15 hS4_ rfl rfl rfl (fun _ => rfl) rfl (by kernel_rfl) fun _ _ => ?_
    obtain ⟨e, he⟩ : ∃ e, (chkP nm ar L).2 = e := ⟨_, rfl⟩
    rw [he]
    refine sS_ ?_
    rw [show decide (e ≠ e) = false from decide_eq_false (fun h => h rfl)]
    refine sS_ ?_
    refine C.cuts (σ := Unit) 1 (fun _ => True) (fun _ => [(1, .raw (.string text))]) (fun _ => [(0, roJ o L)]) ?_ ?_
    · by_cases h0 : e = 0
      · subst h0
        obtain ⟨_, har0, har1, hl64, _⟩ := chkP_ok he
        obtain ⟨ar, rfl⟩ := Int.eq_ofNat_of_zero_le har0
        have hpl := print_len hI he
        have hpg : ∀ r, parseG (printP nm (ar : Int) L) r → _ := fun r h => parseG_ok hI he h
        rw [show printO nm (ar : Int) L = printP nm (ar : Int) L from if_pos he]
        obtain ⟨pt, hpt⟩ : ∃ pt, printP nm (ar : Int) L = pt := ⟨_, rfl⟩
        rw [hpt] at hpl hpg ⊢
        refine sS_ ?_
        refine R.clR [] (parse_spec (strOf pt) (by rw [strOf_size]; exact hpl) fs hG hfc) hG.ro Tryz.call8 hS11_ rfl rfl rfl (fun _ => rfl) rfl (by kernel_rfl) fun r hr => ?_
        obtain ⟨hp1, hp2, hp3, hp4, hp5⟩ := hpg _ hr
        obtain ⟨-, hc1, hc1'⟩ := hr
        obtain ⟨nm1, ar1, cd1, c1, line1, e1⟩ := r
        dsimp only at hp1 hp2 hp3 hp4 hp5 hc1 hc1'
        subst nm1 ar1 cd1 line1 e1
        refine sS_ ?_
        refine R.clR [] (parse_spec (strOf pt) (by rw [strOf_size]; exact hpl) fs hG hfc) hG.ro Tryz.call8 hS11_ rfl rfl rfl (fun _ => rfl) rfl (by kernel_rfl) fun r hr => ?_
        obtain ⟨hp1, hp2, hp3, hp4, hp5⟩ := hpg _ hr
        obtain ⟨-, hc2, hc2'⟩ := hr
        obtain ⟨nm1, ar1, cd1, c2, line1, e1⟩ := r
        dsimp only at hp1 hp2 hp3 hp4 hp5 hc2 hc2'
        subst nm1 ar1 cd1 line1 e1
        refine sS_ ?_
        refine R.cl [2, 0] (procs2_spec nm ar L 0 c1 o cp (by omega)) Tryz.call10 ((by exact HasIn.other rfl (fun e => by cases e) (fun ρ x w hh => tab_ro hh) (HasIn.roj rfl .nil))) rfl rfl rfl (fun _ => rfl) rfl (by kernel_rfl) fun _ _ => ?_
        refine sS_ ?_
        refine R.cl [4, 0] (procs2_spec nm ar L 0 c2 o cp (by omega)) Tryz.call10 ((by exact HasIn.other rfl (fun e => by cases e) (fun ρ x w hh => tab_ro hh) (HasIn.roj rfl .nil))) rfl rfl rfl (fun _ => rfl) rfl (by kernel_rfl) fun _ _ => ?_
        refine sS_ ?_
        refine C.loop (σ := Nat) (L2 := 6) (fun i => i ≤ L.length) (fun i => [(1, .raw (.string text)), (2, .ptr 1 0 0 0), (9, .ptr 3 0 0 0), (12, .ptr 5 0 0 0), (15, .raw (.int .i64 (i : Nat)))]) (fun i => [(0, roJ o L), (1, .cells (prA nm (ar : Int) (.sl 0 1 o L.length cp)) 25), (2, .tab 8 L.length c1 (insF (overI L i)) inT), (3, .cells (prA nm (ar : Int) (.sl 2 8 0 L.length c1)) 25), (4, tI L c2), (5, .cells (prA nm (ar : Int) (.sl 4 8 0 L.length c2)) 25)]) _ (fun i => L.length - i) [] 0 (Nat.zero_le _) rfl hS12_ hS8_ rfl (fun _ h => h) ?_
        intro i hi
        refine sS_ ?_
        by_cases hlt : i < L.length
        · rw [decide_eq_true (show ((i : Nat) : Int) < (L.length : Nat) by omega)]
          refine sS_ ?_
          refine R.ix ttok i rfl rfl rfl rfl rfl (by kernel_rfl) rfl hlt (by show 0 + i < L.length; omega) rfl ?_
          refine R.stt (zs := insA i99) ttok rfl rfl rfl rfl rfl rfl rfl (by kernel_rfl) (by show 0 + i < L.length; omega) (by show 0 + 8 ≤ 8; omega) ?_
          rw [show updF (insF (overI L i)) (0 + i) (insA i99) = insF (overI L (i + 1)) by rw [Nat.zero_add]; exact overI_upd L i]
          refine sS_ ?_
          exact X.back [] (i + 1) hlt (by omega) rfl hS12_ hS8_ rfl (fun _ h => h)
        · rw [decide_eq_false (show ¬ ((i : Nat) : Int) < (L.length : Nat) by omega)]
          obtain rfl : i = L.length := by omega
          have hML := overI_len (Nat.le_refl L.length)
          obtain ⟨M, hM⟩ : ∃ M, overI L L.length = M := ⟨_, rfl⟩
          rw [hM] at hML ⊢
          refine sS_ ?_
          refine R.app (xs := inss M) (news := inss [i98]) ttok (fun c => tI (M ++ [i98]) c) rfl rfl (dstInsM hML rfl) (SrcA.cells rfl rfl) (asIns _ _ _ (inss_app _ _).symm) rfl rfl rfl rfl rfl rfl (by decide) rfl rfl rfl (by kernel_rfl) hc1' (by show (L.length + 1) * 72 ≤ _; omega) (by show L.length + 1 ≤ _; omega) fun cB hB hB2 => ?_
          refine sS_ ?_
          refine R.cl [4, 0] (procs2_spec nm ar L 0 c2 o cp (by omega)) Tryz.call10 ((by exact HasIn.other rfl (fun e => by cases e) (fun ρ x w hh => tab_ro hh) (HasIn.roj rfl .nil))) rfl rfl rfl (fun _ => rfl) rfl (by kernel_rfl) fun _ _ => ?_
          refine sS_ ?_
          exact X.back [] () trivial Nat.zero_lt_one rfl hS12_ hS8_ rfl (fun _ h => h)
      · rw [decide_eq_false h0]
        refine sS_ ?_
        exact X.back [] () trivial Nat.zero_lt_one rfl hS12_ hS8_ rfl (fun _ h => h)
    · rintro ⟨⟩ -
      clear he
      refine sS_ ?_
      refine R.clR [] (parse_spec text (by omega) fs hG hfc) hG.ro Tryz.call8 hS11_ rfl rfl rfl (fun _ => rfl) rfl (by kernel_rfl) fun r hr => ?_
      obtain ⟨nm1, ar1, cd1, c1, line1, e1⟩ := r
      obtain ⟨hr, hc1, hc1'⟩ := hr
      dsimp only at hr hc1 hc1'
      refine sS_ ?_
      by_cases h1 : e1 = 0
      · rw [decide_eq_false (show ¬ e1 ≠ 0 from fun h => h h1)]
        cases hp : parseP (strB text) with
        | error x =>
          rw [hp] at hr
          exact absurd (hr.2.2.2.2.symm.trans h1) (parse_err hp)
        | ok p =>
          rw [hp] at hr
          obtain ⟨hp1, hp2, hp3, hp4, hp5⟩ := hr
          obtain ⟨hI1, he1⟩ := parse_ok hp
          rw [← hp1, ← hp3] at he1
          rw [← hp3] at hI1
          obtain ⟨ar1', har1'⟩ : ∃ a, p.ar = a := ⟨_, rfl⟩
          rw [har1'] at hp2 he1
          subst ar1
          obtain ⟨_, _, _, hl64, _⟩ := chkP_ok he1
          clear hp1 hp3 hp4 hp5 hp
          have hpl := print_len hI1 he1
          have hpg : ∀ r, parseG (printP nm1 (ar1' : Int) cd1) r → _ := fun r h => parseG_ok hI1 he1 h
          have hpo : printO nm1 (ar1' : Int) cd1 = printP nm1 (ar1' : Int) cd1 := if_pos he1
          refine sS_ ?_
          refine R.cl [1] (checkP_spec nm1 ar1' cd1 0 c1 (by omega)) Tryz.call15 (by repeat (first | exact HasIn.nil | refine HasIn.same rfl rfl ?_ | refine HasIn.ros rfl ?_ | refine HasIn.other rfl (fun e => by cases e) (fun ρ x w hh => tab_ro hh) ?_)) rfl rfl rfl (fun _ => rfl) rfl (by kernel_rfl) fun _ _ => ?_
          rw [he1]
          refine sS_ ?_
          refine R.clR [1] (print_spec nm1 ar1' cd1 0 c1 (by omega) hI1 fs hG) hG.ro Tryz.call13 (by repeat (first | exact HasIn.nil | refine HasIn.same rfl rfl ?_ | refine HasIn.ros rfl ?_ | refine HasIn.other rfl (fun e => by cases e) (fun ρ x w hh => tab_ro hh) ?_)) rfl rfl rfl (fun _ => rfl) rfl (by kernel_rfl) fun _ _ => ?_
          rw [he1, hpo]
          obtain ⟨pt, hpt⟩ : ∃ pt, printP nm1 (ar1' : Int) cd1 = pt := ⟨_, rfl⟩
          rw [hpt] at hpl hpg hpo ⊢
          refine sS_ ?_
          refine R.clR [] (parse_spec (strOf pt) (by rw [strOf_size]; exact hpl) fs hG hfc) hG.ro Tryz.call8 hS11_ rfl rfl rfl (fun _ => rfl) rfl (by kernel_rfl) fun r hr => ?_
          obtain ⟨hp1, hp2, hp3, hp4, hp5⟩ := hpg _ hr
          obtain ⟨-, hc2, hc2'⟩ := hr
          obtain ⟨nm2, ar2, cd2, c2, line2, e2⟩ := r
          dsimp only at hp1 hp2 hp3 hp4 hp5 hc2 hc2'
          subst nm2 ar2 cd2 line2 e2
          refine sS_ ?_
          refine R.clR [3] (print_spec nm1 ar1' cd1 0 c2 (by omega) hI1 fs hG) hG.ro Tryz.call13 (by repeat (first | exact HasIn.nil | refine HasIn.same rfl rfl ?_ | refine HasIn.ros rfl ?_ | refine HasIn.other rfl (fun e => by cases e) (fun ρ x w hh => tab_ro hh) ?_)) rfl rfl rfl (fun _ => rfl) rfl (by kernel_rfl) fun _ _ => ?_
          rw [he1, hpo]
          refine sS_ ?_
          refine R.cl [1, 3] (procs_spec nm1 ar1' cd1 0 c1 0 c2 (by omega)) Tryz.call10 (by repeat (first | exact HasIn.nil | refine HasIn.same rfl rfl ?_ | refine HasIn.ros rfl ?_ | refine HasIn.other rfl (fun e => by cases e) (fun ρ x w hh => tab_ro hh) ?_)) rfl rfl rfl (fun _ => rfl) rfl (by kernel_rfl) fun _ _ => ?_
          refine sS_ ?_
          rw [show decide ((strOf pt).toList = (strOf pt).toList) = true from decide_eq_true rfl]
          refine sS_ ?_
          refine R.clR [] (known_spec fs hG hfc) hG.ro Tryz.call7 hS11_ rfl rfl rfl (fun _ => rfl) rfl (by kernel_rfl) fun _ _ => ?_
          refine sS_ ?_
          refine X.finF ttok () [] trivial rfl rfl rfl hS7_ _ (by first | exact .inl rfl | exact .inr rfl) ?_ ?_ ?_
          · exact fun w' hf => hf.ap
          · exact fun p hp => hp
          · exact fun p hp e => ⟨p, hp, rfl⟩
      · rw [decide_eq_true (show e1 ≠ 0 from h1)]
        refine sS_ ?_
        refine R.clR [] (known_spec fs hG hfc) hG.ro Tryz.call7 hS11_ rfl rfl rfl (fun _ => rfl) rfl (by kernel_rfl) fun _ _ => ?_
        refine sS_ ?_
        refine X.finF ttok () [] trivial rfl rfl rfl hS7_ _ (by first | exact .inl rfl | exact .inr rfl) ?_ ?_ ?_
        · exact fun w' hf => hf.ap
        · exact fun p hp => hp
        · exact fun p hp e => ⟨p, hp, rfl⟩
end Go.Proofs.YtaieficgifingaaGreatDoor
