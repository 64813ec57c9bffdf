/- Texts of the claim, merged: only what the theorem needs. -/
import Derived.Test.YtaieficgifingaaGreatDoorPRp
import Derived.OrdersIn
namespace Go.Proofs.YtaieficgifingaaGreatDoor
set_option linter.unusedVariables false
set_option linter.unusedSimpArgs false
set_option linter.unusedSectionVars false
open Go.RowKit
theorem opsIn {P : Program} {lb : Nat} {l : List Oper} {Q : Exit → Act → World → Prop} (hQ : ¬ LetsOut Q) (hd : ∀ o ∈ l, ∀ c, o.op ≠ .defer c) : ∀ (ord : List Nat) (a : Act) (w : World), wpOps P l.toArray Q ord a w → wpOpsIn (Fence.wide.inRound lb) 0 P l.toArray Q ord a w
  | [], _, _, h => h
  | k :: r, a, w, h => by
    have ih := opsIn (P := P) (lb := lb) hQ hd r
    rw [wpOps_cons] at h
    rw [wpOpsIn_cons]
    unfold wpOp at h
    unfold wpOpIn
    cases ho : l.toArray[k]? with
    | none => rw [ho] at h; exact ih _ _ h
    | some o =>
      rw [ho] at h
      dsimp only at h ⊢
      have hm : o ∈ l := List.mem_of_getElem? (i := k) (by simpa using ho)
      by_cases hw : Region.wanted o (yielded l.toArray a.tmps) = true
      · rw [if_pos hw] at h ⊢
        rcases h with h | h
        · exact operIn (hd o hm) ih h
        · exact absurd h.2 hQ
      · rw [if_neg hw] at h ⊢
        exact ⟨fun _ _ => trivial, ih _ _ h⟩
section
variable {P : Program} {lb : Nat} {f : FuncId} {Q : Exit → Act → World → Prop} {E : Base} {n L : Nat} {τ : List (Nat × AV)} {h : List (Nat × AO)} {F : World → Prop} {l : List Oper}
theorem CR.anyhow {id : Nat} (hm : P.follows .mixedOrders = true) (hb : backB l = true) (k : CW P l Q E n L τ h F) (hd : noDefer l = true := by kernel_rfl) (hQ : ¬ LetsOut Q := by rintro ⟨_, _, h⟩; exact h) : CR P lb (.region id l.toArray true) Q E n L τ h F := ⟨fun ρ a w g => by
  refine wpIn_region_draw fun t => ?_
  simp only [Region.schedule, hm, Bool.true_or, if_true]
  have hv : Valid l.toArray (Array.replicate l.length false) (Region.linearise .any l.toArray t) := by
    have := lin_valid (ops := l.toArray) l.toArray.size t (Array.replicate l.toArray.size false) (Nat.le_trans (List.countP_le_length) (by simp))
    simpa [Region.linearise] using this
  refine opsIn hQ (noDefer_get hd) _ _ _ (k.out ρ a _ g.drew _ hv fun j hj => ?_)
  rcases valid_all hb (by simp) hv j hj with h1 | h1
  · simp [hj] at h1
  · exact h1⟩
theorem CA.fact {c : Code} {p : Prop} (hp : ∀ ρ a w, Gam E ρ n L τ h F a w → p) (k : p → CA P f c Q E n L τ h F) : CA P f c Q E n L τ h F := ⟨fun ρ a w g => (k (hp ρ a w g)).out ρ a w g⟩
theorem CA.noneH {c : Code} (l0 : Nat) (xs' : List AV) (o : AO) (ho : ∀ ρ' W, o.Low ρ' (L + 1) ∧ o.holds ρ' none W) (hro : o.isRo = false) {xs : List AV} {T : TypeId} (hv : hk l0 h = some (.cells xs T)) (hb : AV.bds (L + 1) xs' = true) (hc : ∀ ρ : Env, ρ L = Option.none → AV.concs ρ xs' = AV.concs ρ xs)
    (k : CA P f c Q E n (L + 1) τ ((L, o) :: (l0, .cells xs' T) :: h) F) : CA P f c Q E n L τ h F := ⟨fun ρ a w g => k.out _ a w (g.noneH o ho hro l0 xs xs' T hv hb hc)⟩
theorem CA.less {c : Code} (rl : List (Nat × Nat)) (L2 : Nat) (τ2 : List (Nat × AV)) (h2 : List (Nat × AO)) (F2 : World → Prop) (hb : rnB E.N L2 L rl = true) (ht : HasT (rnF rl) L2 τ τ2) (hh : HasH (rnF rl) L2 h h2) (hnd : nodupB ((h2.map (·.1)).map (rnF rl)) = true) (hF : ∀ w, F w → F2 w)
    (k : CA P f c Q E n L2 τ2 h2 F2) : CA P f c Q E n L τ h F := ⟨fun ρ a w g => by
  obtain ⟨h1, h3, h4⟩ := rn_ok hb
  exact k.out _ a w (g.imp (rnF rl) L2 τ2 h2 F2 h1 h3 h4 ht hh hnd hF)⟩
theorem CA.frzP {c : Code} {H0 : List AO} {R0 : Env} {W0 : World} {FS0 fs : Fam} (rw' : Bool) (l : Nat) {b : Nat} {o o' : AO} (hl : hk l h = some o) (hro : o.isRo = false) (hlN : l < E.N) (hb : E.ρ l = some b) (ho : ∀ (ρ : Env) ob w, w.heap[b]? = some ob → o.holds ρ (some b) w → Is b ob o')
    (k : ∀ ob, Is b ob o' → (∀ p ∈ fs, p.b ≠ b) → CA P f c Q E n L τ ((l, .gone) :: h) (FF H0 R0 W0 FS0 (⟨rw', b, ob⟩ :: fs))) : CA P f c Q E n L τ h (FF H0 R0 W0 FS0 fs) := ⟨fun ρ a w g => by
  obtain ⟨ob, h1, g'⟩ := g.frzP rw' l hl hro hlN hb (ho ρ)
  exact (k ob h1.1 h1.2).out ρ a w g'⟩
end
end Go.Proofs.YtaieficgifingaaGreatDoor
namespace Go.Proofs.YtaieficgifingaaGreatDoor
set_option linter.unusedVariables false
set_option linter.unusedSimpArgs false
open Go.RowKit
set_option maxRecDepth 100000
set_option maxHeartbeats 4000000
structure PR where
  head : Nat
  ended : Bool
  nm : ByteArray
  ar : Nat
  cd : List Ins
  ln : List Nat
def pr0 : PR := ⟨0, false, noT0, 0, [], []⟩
def procT : ByteArray := ⟨#[112, 114, 111, 99]⟩
def endT : ByteArray := ⟨#[101, 110, 100]⟩
/-- the words of a procedure's first line -/
def isProc (W : List WD) : Bool := decide (W.length = 3) && (decide (strB (W.getD 0 wdD).1 = strB procT) && !(W.getD 0 wdD).2) && !(W.getD 1 wdD).2
/-- what words of line n say -/
def stepW (p : PR) (n : Nat) (W : List WD) : Option PR :=
  if W = [] then some p
  else if p.ended = true then none
  else if p.head = 0 then
    if isProc W = true then
      if numB (W.getD 2 wdD).1 (W.getD 2 wdD).2 = true then some { p with nm := (W.getD 1 wdD).1, ar := numV (W.getD 2 wdD).1 (W.getD 2 wdD).2, head := n } else none
    else none
  else if isP W endT = true then some { p with ended := true }
  else match insP W with
    | some x => some { p with cd := p.cd ++ [x], ln := p.ln ++ [n] }
    | none => none
def stepL (p : PR) (n : Nat) (l : List UInt8) : Option PR := match wordsP l with
  | none => none
  | some ws => stepW p n (wsOf ws)
theorem lineB_lt {l : List UInt8} (h : l ≠ []) : (lineB l).length < l.length := by
  unfold lineB
  rw [List.length_drop]
  have := List.length_pos_iff.2 h
  omega
def linesL (l : List UInt8) : List (List UInt8) := if h : l = [] then [] else lineA l :: linesL (lineB l)
termination_by l.length
decreasing_by exact lineB_lt h
theorem linesL_nil : linesL [] = [] := by rw [linesL]; exact dif_pos rfl
theorem linesL_cons {l : List UInt8} (h : l ≠ []) : linesL l = lineA l :: linesL (lineB l) := by rw [linesL]; exact dif_neg h
theorem linesL_len : ∀ (k : Nat) (l : List UInt8), l.length ≤ k → (linesL l).length ≤ l.length
  | 0, l, h => by
    obtain rfl : l = [] := List.length_eq_zero_iff.1 (by omega)
    rw [linesL_nil]
    exact Nat.le_refl _
  | k + 1, l, h => by
    by_cases h0 : l = []
    · subst h0; rw [linesL_nil]; exact Nat.le_refl _
    · rw [linesL_cons h0, List.length_cons]
      have h1 := lineB_lt h0
      have := linesL_len k (lineB l) (by omega)
      omega
/-- lines from number n on; .error: the line that says nothing -/
def runL : List (List UInt8) → Nat → PR → Except Nat PR
  | [], _, p => .ok p
  | l :: r, n, p => match stepL p n l with
    | none => .error n
    | some p' => runL r (n + 1) p'
def endP (p : PR) (k : Nat) : Except (Int × Int) PR :=
  if p.ended = false then .error (((max k 1 : Nat) : Int), 17)
  else if (chkP p.nm p.ar p.cd).2 = 0 then .ok p
  else .error (if 0 ≤ (chkP p.nm p.ar p.cd).1 then ((p.ln.getD (chkP p.nm p.ar p.cd).1.toNat 0 : Nat) : Int) else ((p.head : Nat) : Int), (chkP p.nm p.ar p.cd).2)
/-- a text: the procedure, or the line and the error -/
def parseP (t : List UInt8) : Except (Int × Int) PR := match runL (linesL t) 1 pr0 with
  | .error n => .error (((n : Nat) : Int), 17)
  | .ok p => endP p (linesL t).length
theorem run_err {l : List UInt8} {r : List (List UInt8)} {n : Nat} {p : PR} (h : stepL p n l = none) : runL (l :: r) n p = .error n := by
  unfold runL
  rw [h]
theorem run_on {l : List UInt8} {r : List (List UInt8)} {n : Nat} {p p' : PR} (h : stepL p n l = some p') : runL (l :: r) n p = runL r (n + 1) p' := by
  rw [runL, h]
theorem chkL_lt {ar : Int} {L : List Ins} : (chkL ar L).2 ≠ 0 → 0 ≤ (chkL ar L).1 ∧ (chkL ar L).1.toNat < L.length := by
  unfold chkL
  split
  · rename_i i h
    intro _
    have := List.mem_range.1 (List.find?_range_eq_some.1 h).2.1
    exact ⟨by simp, by simpa using this⟩
  · intro h; exact absurd rfl h
theorem chkP_lt {nm : ByteArray} {ar : Int} {L : List Ins} : (chkP nm ar L).2 ≠ 0 → 0 ≤ (chkP nm ar L).1 → (chkP nm ar L).1.toNat < L.length := by
  unfold chkP
  repeat' split
  · intro _ h; exact absurd h (by decide)
  · intro _ h; exact absurd h (by decide)
  · intro _ h; exact absurd h (by decide)
  · intro h _; exact (chkL_lt h).2
theorem quoteP_sz : ∀ (l acc : List UInt8) (p : List UInt8 × List UInt8), quoteP acc l = some p → p.1.length + p.2.length ≤ acc.length + l.length := fun l => by
  induction hl : l.length using Nat.strongRecOn generalizing l with
  | _ k ih =>
    intro acc p h
    match l, hl, h with
    | [], _, h => rw [quoteP_nil] at h; cases h
    | c :: r, hl, h =>
      rw [List.length_cons] at hl
      by_cases h1 : c = 34
      · subst h1
        rw [quoteP_end] at h
        split at h
        · cases h; show acc.length + r.length ≤ acc.length + k; omega
        · cases h
      · by_cases h2 : c.toNat < 32 ∨ 126 < c.toNat
        · rw [quoteP_bad h1 h2] at h; cases h
        · by_cases h3 : c = 92
          · subst h3
            match r, hl, h with
            | [], _, h => rw [quoteP_esc0] at h; cases h
            | d :: r2, hl, h =>
              rw [List.length_cons] at hl
              by_cases h4 : d = 34 ∨ d = 92
              · rw [quoteP_esc h4] at h
                have := ih r2.length (by omega) r2 rfl _ _ h
                simp only [List.length_append, List.length_cons, List.length_nil] at this
                omega
              · by_cases h5 : d ≠ 120 ∨ r2.length < 2
                · rw [quoteP_no h4 h5] at h; cases h
                · match r2, hl, h, h5 with
                  | [], _, _, h5 => exact absurd (.inr (by decide)) h5
                  | [_], _, _, h5 => exact absurd (.inr (by simp)) h5
                  | x1 :: x2 :: r3, hl, h, h5 =>
                    have hd : d = 120 := Classical.byContradiction fun e => h5 (.inl e)
                    rw [hd, quoteP_hex] at h
                    rw [List.length_cons, List.length_cons] at hl
                    split at h
                    · have := ih r3.length (by omega) r3 rfl _ _ h
                      simp only [List.length_append, List.length_cons, List.length_nil] at this
                      omega
                    · cases h
          · rw [quoteP_one h1 h2 h3] at h
            have := ih r.length (by omega) r rfl _ _ h
            simp only [List.length_append, List.length_cons, List.length_nil] at this
            omega
theorem wordsP_sz : ∀ (k : Nat) (l : List UInt8), l.length ≤ k → ∀ ws, wordsP l = some ws → ∀ p ∈ ws, p.1.length ≤ l.length := fun k => by
  induction k with
  | zero =>
    intro l hl ws h p hp
    obtain rfl : l = [] := List.length_eq_zero_iff.1 (by omega)
    rw [wordsP_end (.inl rfl)] at h
    cases h
    cases hp
  | succ k ih =>
    intro l hl ws h p hp
    have htl := trim_le l
    cases ht : Lib.trimLeftS l [32, 9] with
    | nil =>
      rw [wordsP_end (.inl ht)] at h
      cases h
      cases hp
    | cons b r =>
      rw [ht, List.length_cons] at htl
      by_cases h35 : b = 35
      · rw [wordsP_end (.inr ⟨r, by rw [ht, h35]⟩)] at h
        cases h
        cases hp
      · by_cases h34 : b = 34
        · rw [wordsP_q (r := r) (by rw [ht, h34])] at h
          cases hq : quoteP [] r with
          | none => rw [hq] at h; cases h
          | some q =>
            rw [hq] at h
            have hs := quoteP_sz r [] q hq
            rw [List.length_nil, Nat.zero_add] at hs
            obtain ⟨ws', h1, rfl⟩ := Option.map_eq_some_iff.1 h
            rcases List.mem_cons.1 hp with rfl | hp
            · show q.1.length ≤ _; omega
            · have := ih q.2 (by omega) ws' h1 p hp
              omega
        · rw [wordsP_w ht h35 h34] at h
          have hpos := wordN_pos (r := r) (trim_head ht) h35
          obtain ⟨ws', h1, rfl⟩ := Option.map_eq_some_iff.1 h
          rcases List.mem_cons.1 hp with rfl | hp
          · show ((b :: r).take _).length ≤ _
            rw [List.length_take, List.length_cons]
            omega
          · have hd : ((b :: r).drop (wordN (b :: r))).length ≤ r.length := by rw [List.length_drop, List.length_cons]; omega
            have := ih _ (by omega) ws' h1 p hp
            omega
theorem wsOf_sz {l : List UInt8} {ws : List (List UInt8 × Bool)} (h : wordsP l = some ws) : ∀ p ∈ wsOf ws, p.1.size ≤ l.length := fun p hp => by
  obtain ⟨q, hq, rfl⟩ := List.mem_map.1 hp
  have := wordsP_sz l.length l (Nat.le_refl _) ws h q hq
  show (strOf q.1).size ≤ _
  rw [← strB_size]
  exact this
end Go.Proofs.YtaieficgifingaaGreatDoor
namespace Go.Proofs.YtaieficgifingaaGreatDoor
set_option linter.unusedVariables false
set_option linter.unusedSimpArgs false
open Go.RowKit
set_option maxRecDepth 100000
set_option maxHeartbeats 4000000
def hexI (c : UInt8) : Int := if hexB c = true then (hexV c : Nat) else -1
theorem hexR_spec (c : UInt8) : Spec Tryz.prog 105 [.raw (byteV c)] [] 0 (σ := Unit) (fun _ => True) (fun _ => .raw (.int .i64 (hexI c))) (fun _ => []) := by
  refine Spec.of Tryz.func105 rfl Tryz.ntmps105 rfl (bdl_nil _) fun ρ w => ?_
  have hc : c.toNat < 256 := c.toNat_lt
  unfold hexI byteV hexV hexB
  generalize c.toNat = m at hc ⊢
  refine sS_ ?_
  by_cases h1 : 48 ≤ m
  · rw [decide_eq_true (show (48 : Int) ≤ (m : Nat) by omega)]
    refine sS_ ?_
    by_cases h2 : m ≤ 57
    · rw [decide_eq_true (show ((m : Nat) : Int) ≤ 57 by omega)]
      refine sS_ ?_
      rw [decide_eq_true (show 48 ≤ m ∧ m ≤ 57 from ⟨h1, h2⟩), Bool.true_or, if_pos rfl, if_pos (show 48 ≤ m ∧ m ≤ 57 from ⟨h1, h2⟩), show (((m - 48 : Nat)) : Int) = (m : Int) - 48 by omega]
      refine X.fin ttok () [] trivial rfl rfl rfl hS4_ _ (by first | exact .inl rfl | exact .inr rfl)
    · rw [decide_eq_false (show ¬ ((m : Nat) : Int) ≤ 57 by omega)]
      have hn : ¬ (48 ≤ m ∧ m ≤ 57) := by omega
      rw [decide_eq_false hn]
      refine sS_ ?_
      by_cases h3 : 97 ≤ m
      · rw [decide_eq_true (show (97 : Int) ≤ (m : Nat) by omega)]
        refine sS_ ?_
        by_cases h4 : m ≤ 102
        · rw [decide_eq_true (show ((m : Nat) : Int) ≤ 102 by omega)]
          refine sS_ ?_
          rw [decide_eq_true (show 97 ≤ m ∧ m ≤ 102 from ⟨h3, h4⟩), Bool.false_or, if_pos rfl, if_neg hn, if_pos (show 97 ≤ m ∧ m ≤ 102 from ⟨h3, h4⟩), show (((m - 87 : Nat)) : Int) = (m : Int) - 97 + 10 by omega]
          refine X.fin ttok () [] trivial rfl rfl rfl hS4_ _ (by first | exact .inl rfl | exact .inr rfl)
        · rw [decide_eq_false (show ¬ ((m : Nat) : Int) ≤ 102 by omega)]
          refine sS_ ?_
          rw [decide_eq_false (show ¬ (97 ≤ m ∧ m ≤ 102) by omega), Bool.false_or, if_neg (by decide)]
          refine X.fin ttok () [] trivial rfl rfl rfl hS4_ _ (by first | exact .inl rfl | exact .inr rfl)
      · rw [decide_eq_false (show ¬ (97 : Int) ≤ (m : Nat) by omega)]
        refine sS_ ?_
        rw [decide_eq_false (show ¬ (97 ≤ m ∧ m ≤ 102) by omega), Bool.false_or, if_neg (by decide)]
        refine X.fin ttok () [] trivial rfl rfl rfl hS4_ _ (by first | exact .inl rfl | exact .inr rfl)
  · rw [decide_eq_false (show ¬ (48 : Int) ≤ (m : Nat) by omega)]
    have hn : ¬ (48 ≤ m ∧ m ≤ 57) := by omega
    rw [decide_eq_false hn]
    refine sS_ ?_
    by_cases h3 : 97 ≤ m
    · rw [decide_eq_true (show (97 : Int) ≤ (m : Nat) by omega)]
      refine sS_ ?_
      by_cases h4 : m ≤ 102
      · rw [decide_eq_true (show ((m : Nat) : Int) ≤ 102 by omega)]
        refine sS_ ?_
        rw [decide_eq_true (show 97 ≤ m ∧ m ≤ 102 from ⟨h3, h4⟩), Bool.false_or, if_pos rfl, if_neg hn, if_pos (show 97 ≤ m ∧ m ≤ 102 from ⟨h3, h4⟩), show (((m - 87 : Nat)) : Int) = (m : Int) - 97 + 10 by omega]
        refine X.fin ttok () [] trivial rfl rfl rfl hS4_ _ (by first | exact .inl rfl | exact .inr rfl)
      · rw [decide_eq_false (show ¬ ((m : Nat) : Int) ≤ 102 by omega)]
        refine sS_ ?_
        rw [decide_eq_false (show ¬ (97 ≤ m ∧ m ≤ 102) by omega), Bool.false_or, if_neg (by decide)]
        refine X.fin ttok () [] trivial rfl rfl rfl hS4_ _ (by first | exact .inl rfl | exact .inr rfl)
    · rw [decide_eq_false (show ¬ (97 : Int) ≤ (m : Nat) by omega)]
      refine sS_ ?_
      rw [decide_eq_false (show ¬ (97 ≤ m ∧ m ≤ 102) by omega), Bool.false_or, if_neg (by decide)]
      refine X.fin ttok () [] trivial rfl rfl rfl hS4_ _ (by first | exact .inl rfl | exact .inr rfl)
theorem digS_eq (l : List UInt8) : digS l = (!l.isEmpty && !(decide (1 < l.length) && decide (l.getD 0 0 = 48)) && l.all digB) := by
  unfold digS
  cases l with
  | nil => rfl
  | cons a r =>
    cases r with
    | nil =>
      by_cases h : a = 48
      · subst h; rfl
      · simp [h, Bool.and_comm]
    | cons b r2 =>
      by_cases h : a = 48
      · subst h; simp
      · simp [h, Bool.and_comm]
theorem plainR_spec (s : ByteArray) (hs : s.size ≤ 9223372036854775800) : Spec Tryz.prog 62 [.raw (.string s)] [] 0 (σ := Unit) (fun _ => True) (fun _ => .raw (.bool (digS (strB s)))) (fun _ => []) := by
  refine Spec.of Tryz.func62 rfl Tryz.ntmps62 rfl (bdl_nil _) fun ρ w => ?_
  have hlen := strB_size s
  refine sS_ ?_
  rw [eqE]
  cases hl : strB s with
  | nil =>
    refine sS_ ?_
    refine X.fin ttok () [] trivial rfl rfl rfl hS4_ _ (by first | exact .inl rfl | exact .inr rfl)
  | cons x r =>
    have hsz : s.size = r.length + 1 := by rw [← hlen, hl]; rfl
    refine sS_ ?_
    by_cases h1 : 1 < s.size
    · rw [decide_eq_true (show ((s.size : Nat) : Int) > 1 by omega)]
      refine sS_ ?_
      refine R.sx ttok 0 rfl rfl rfl rfl rfl rfl (by show 0 < (strB s).length; omega) ?_
      rw [show s.data.toList.getD 0 0 = x by show (strB s).getD 0 0 = x; rw [hl]; rfl]
      refine sS_ ?_
      by_cases h48 : x = 48
      · subst h48
        rw [show decide ((((48 : UInt8).toNat : Nat) : Int) = 48) = true from rfl]
        refine sS_ ?_
        rw [show digS (48 :: r) = false by rw [digS_eq, decide_eq_true (show 1 < (48 :: r : List UInt8).length by rw [List.length_cons]; omega)]; simp]
        refine X.fin ttok () [] trivial rfl rfl rfl hS4_ _ (by first | exact .inl rfl | exact .inr rfl)
      · have hx : ¬ (((x.toNat : Nat) : Int) = 48) := fun h => h48 (UInt8.toNat_inj.1 (show x.toNat = 48 by omega))
        rw [decide_eq_false hx]
        have hfin : decide ((x :: r : List UInt8).getD 0 0 = 48) = false := decide_eq_false h48
        refine sS_ ?_
        refine C.loop (σ := Nat) (L2 := 0) (fun i => i ≤ s.size ∧ ∀ j, j < i → digB ((strB s).getD j 0) = true) (fun i => [(0, .raw (.string s)), (3, .raw (.int .i64 (i : Nat)))]) (fun _ => []) _ (fun i => s.size - i) [] 0 ⟨Nat.zero_le _, fun j h => absurd h (Nat.not_lt_zero j)⟩ rfl hS7_ hS5_ rfl (fun _ h => h) ?_
        rintro i ⟨hi, hd⟩
        refine sS_ ?_
        by_cases hlt : i < s.size
        · rw [decide_eq_true (show ((i : Nat) : Int) < (s.size : Nat) by omega)]
          have hlt' : i < (strB s).length := by omega
          refine sS_ ?_
          refine R.sx ttok i rfl rfl rfl rfl rfl rfl hlt' ?_
          rw [show s.data.toList.getD i 0 = (strB s).getD i 0 from rfl]
          refine sS_ ?_
          by_cases h1 : ((strB s).getD i 0).toNat < 48
          · have hno : digS (strB s) = false := not_all hlt' (by unfold digB; rw [decide_eq_false (by omega)]; rfl)
            rw [hl] at hno
            rw [decide_eq_true (show ((((strB s).getD i 0).toNat : Nat) : Int) < 48 by omega)]
            refine sS_ ?_
            rw [hno]
            refine X.fin ttok () [] trivial rfl rfl rfl hS4_ _ (by first | exact .inl rfl | exact .inr rfl)
          · rw [decide_eq_false (show ¬ ((((strB s).getD i 0).toNat : Nat) : Int) < 48 by omega)]
            refine sS_ ?_
            refine R.sx ttok i rfl rfl rfl rfl rfl rfl hlt' ?_
            rw [show s.data.toList.getD i 0 = (strB s).getD i 0 from rfl]
            refine sS_ ?_
            by_cases h2 : ((strB s).getD i 0).toNat ≤ 57
            · rw [decide_eq_false (show ¬ ((((strB s).getD i 0).toNat : Nat) : Int) > 57 by omega)]
              refine sS_ ?_
              exact X.back [] (i + 1) ⟨by omega, fun j hj => (by
                rcases Nat.lt_or_ge j i with h | h
                · exact hd j h
                · obtain rfl : j = i := by omega
                  unfold digB
                  rw [decide_eq_true h2, decide_eq_true (show 48 ≤ ((strB s).getD j 0).toNat by omega)]; rfl)⟩ (by omega) rfl hS7_ hS5_ rfl (fun _ h => h)
            · have hno : digS (strB s) = false := not_all hlt' (by unfold digB; rw [decide_eq_false h2, Bool.and_false])
              rw [hl] at hno
              rw [decide_eq_true (show ((((strB s).getD i 0).toNat : Nat) : Int) > 57 by omega)]
              refine sS_ ?_
              rw [hno]
              refine X.fin ttok () [] trivial rfl rfl rfl hS4_ _ (by first | exact .inl rfl | exact .inr rfl)
        · rw [decide_eq_false (show ¬ ((i : Nat) : Int) < (s.size : Nat) by omega)]
          have hall := all_take (l := strB s) (by omega) hd
          rw [hl] at hall
          refine sS_ ?_
          rw [digS_eq, hall, hfin, Bool.and_false]
          refine X.fin ttok () [] trivial rfl rfl rfl hS4_ _ (by first | exact .inl rfl | exact .inr rfl)
    · rw [decide_eq_false (show ¬ ((s.size : Nat) : Int) > 1 by omega)]
      have hfin : decide (1 < (x :: r : List UInt8).length) = false := decide_eq_false (by rw [List.length_cons]; omega)
      refine sS_ ?_
      refine C.loop (σ := Nat) (L2 := 0) (fun i => i ≤ s.size ∧ ∀ j, j < i → digB ((strB s).getD j 0) = true) (fun i => [(0, .raw (.string s)), (3, .raw (.int .i64 (i : Nat)))]) (fun _ => []) _ (fun i => s.size - i) [] 0 ⟨Nat.zero_le _, fun j h => absurd h (Nat.not_lt_zero j)⟩ rfl hS7_ hS5_ rfl (fun _ h => h) ?_
      rintro i ⟨hi, hd⟩
      refine sS_ ?_
      by_cases hlt : i < s.size
      · rw [decide_eq_true (show ((i : Nat) : Int) < (s.size : Nat) by omega)]
        have hlt' : i < (strB s).length := by omega
        refine sS_ ?_
        refine R.sx ttok i rfl rfl rfl rfl rfl rfl hlt' ?_
        rw [show s.data.toList.getD i 0 = (strB s).getD i 0 from rfl]
        refine sS_ ?_
        by_cases h1 : ((strB s).getD i 0).toNat < 48
        · have hno : digS (strB s) = false := not_all hlt' (by unfold digB; rw [decide_eq_false (by omega)]; rfl)
          rw [hl] at hno
          rw [decide_eq_true (show ((((strB s).getD i 0).toNat : Nat) : Int) < 48 by omega)]
          refine sS_ ?_
          rw [hno]
          refine X.fin ttok () [] trivial rfl rfl rfl hS4_ _ (by first | exact .inl rfl | exact .inr rfl)
        · rw [decide_eq_false (show ¬ ((((strB s).getD i 0).toNat : Nat) : Int) < 48 by omega)]
          refine sS_ ?_
          refine R.sx ttok i rfl rfl rfl rfl rfl rfl hlt' ?_
          rw [show s.data.toList.getD i 0 = (strB s).getD i 0 from rfl]
          refine sS_ ?_
          by_cases h2 : ((strB s).getD i 0).toNat ≤ 57
          · rw [decide_eq_false (show ¬ ((((strB s).getD i 0).toNat : Nat) : Int) > 57 by omega)]
            refine sS_ ?_
            exact X.back [] (i + 1) ⟨by omega, fun j hj => (by
              rcases Nat.lt_or_ge j i with h | h
              · exact hd j h
              · obtain rfl : j = i := by omega
                unfold digB
                rw [decide_eq_true h2, decide_eq_true (show 48 ≤ ((strB s).getD j 0).toNat by omega)]; rfl)⟩ (by omega) rfl hS7_ hS5_ rfl (fun _ h => h)
          · have hno : digS (strB s) = false := not_all hlt' (by unfold digB; rw [decide_eq_false h2, Bool.and_false])
            rw [hl] at hno
            rw [decide_eq_true (show ((((strB s).getD i 0).toNat : Nat) : Int) > 57 by omega)]
            refine sS_ ?_
            rw [hno]
            refine X.fin ttok () [] trivial rfl rfl rfl hS4_ _ (by first | exact .inl rfl | exact .inr rfl)
      · rw [decide_eq_false (show ¬ ((i : Nat) : Int) < (s.size : Nat) by omega)]
        have hall := all_take (l := strB s) (by omega) hd
        rw [hl] at hall
        refine sS_ ?_
        rw [digS_eq, hall, hfin, Bool.false_and]
        refine X.fin ttok () [] trivial rfl rfl rfl hS4_ _ (by first | exact .inl rfl | exact .inr rfl)
end Go.Proofs.YtaieficgifingaaGreatDoor
namespace Go.Proofs.YtaieficgifingaaGreatDoor
set_option linter.unusedVariables false
set_option linter.unusedSimpArgs false
open Go.RowKit
set_option maxRecDepth 100000
set_option maxHeartbeats 4000000
abbrev wdRA (t : ByteArray) (q : Bool) : AV := .agg [.raw (.bool q), .raw (.string t)]
theorem natS_snoc (l : List UInt8) (c : UInt8) : natS (l ++ [c]) = natS l * 10 + (c.toNat - 48) := by
  unfold natS
  rw [List.foldl_append]
  rfl
theorem takeS {l : List UInt8} {i : Nat} (h : i < l.length) : l.take (i + 1) = l.take i ++ [l.getD i 0] := by
  rw [List.take_succ_eq_append_getElem h, List.getD_eq_getElem?_getD, List.getElem?_eq_getElem h]; rfl
theorem natS_lt {l : List UInt8} (h : l.all digB = true) (h9 : l.length ≤ 9) : natS l < 1000000000 := by
  have := natFrom_lt h 0
  have h2 : 10 ^ l.length ≤ 10 ^ 9 := Nat.pow_le_pow_right (by decide) h9
  have h3 : natS l < (0 + 1) * 10 ^ l.length := this
  omega
theorem all_takeN {l : List UInt8} (h : l.all digB = true) (i : Nat) : (l.take i).all digB = true := List.all_eq_true.2 fun x hx => List.all_eq_true.1 h x (List.mem_of_mem_take hx)
theorem numberR_spec (t : ByteArray) (q : Bool) (ht : t.size ≤ 9223372036854775800) : Spec Tryz.prog 27 [wdRA t q] [] 0 (σ := Unit) (fun _ => True) (fun _ => .tup [.raw (.int .i64 (numV t q : Nat)), .raw (.bool (numB t q))]) (fun _ => []) := by
  refine Spec.of Tryz.func27 rfl Tryz.ntmps27 rfl (bdl_nil _) fun ρ w => ?_
  have hlen := strB_size t
  unfold numV
  refine sS_ ?_
  cases q with
  | true =>
    rw [show numB t true = false from rfl]
    refine sS_ ?_
    refine X.fin ttok () [] trivial rfl rfl rfl hS4_ _ (by first | exact .inl rfl | exact .inr rfl)
  | false =>
    refine sS_ ?_
    refine R.cl [] (plainR_spec t ht) Tryz.call62 hS6_ rfl rfl rfl (fun _ => rfl) rfl (by kernel_rfl) fun _ _ => ?_
    cases hd : digS (strB t) with
    | false =>
      rw [show numB t false = false by unfold numB; rw [hd]; rfl]
      refine sS_ ?_
      refine X.fin ttok () [] trivial rfl rfl rfl hS4_ _ (by first | exact .inl rfl | exact .inr rfl)
    | true =>
      refine sS_ ?_
      by_cases h9 : t.size ≤ 9
      · have hall := (digS_all hd).1
        rw [show numB t false = true by unfold numB; rw [hd, decide_eq_true h9]; rfl]
        rw [decide_eq_false (show ¬ (t.size : Int) > 9 by omega), if_pos rfl]
        refine sS_ ?_
        refine C.loop (σ := Nat) (L2 := 1) (fun i => i ≤ t.size) (fun i => [(1, .ptr 0 0 0 0), (4, .raw (.int .i64 (natS ((strB t).take i) : Nat))), (5, .raw (.int .i64 (i : Nat)))]) (fun _ => [(0, .cells [.raw (.bool false), .raw (.string t)] 74)]) _ (fun i => t.size - i) [] 0 (Nat.zero_le _) rfl hS7_ hS5_ rfl (fun _ h => h) ?_
        intro i hi
        have hN := natS_lt (all_takeN hall i) (by rw [List.length_take]; omega)
        refine sS_ ?_
        by_cases hlt : i < t.size
        · rw [decide_eq_true (show ((i : Nat) : Int) < (t.size : Nat) by omega)]
          have hlt' : i < (strB t).length := by omega
          have hsn : natS ((strB t).take (i + 1)) = natS ((strB t).take i) * 10 + (((strB t).getD i 0).toNat - 48) := by rw [takeS hlt', natS_snoc]
          have hdg : digB ((strB t).getD i 0) = true := by
            have := List.all_eq_true.1 hall _ (List.getElem_mem hlt')
            rw [List.getD_eq_getElem?_getD, List.getElem?_eq_getElem hlt']
            exact this
          unfold digB at hdg
          simp only [Bool.and_eq_true, decide_eq_true_eq] at hdg
          obtain ⟨k, hk⟩ : ∃ k, natS ((strB t).take i) = k := ⟨_, rfl⟩
          rw [hk] at hN hsn ⊢
          refine sS_ ?_
          refine R.sx ttok i rfl rfl rfl rfl rfl rfl hlt' ?_
          rw [show t.data.toList.getD i 0 = (strB t).getD i 0 from rfl]
          obtain ⟨b, hb⟩ : ∃ b, (strB t).getD i 0 = b := ⟨_, rfl⟩
          rw [hb] at hsn hdg ⊢
          have hbN : b.toNat < 256 := b.toNat_lt
          refine sS_ ?_
          exact X.back [] (i + 1) (by omega) (by omega) rfl (by
            show HasT _ _ _ [_, (4, .raw (.int .i64 ((natS ((strB t).take (i + 1)) : Nat) : Int))), _]
            rw [hsn, show (((k * 10 + (b.toNat - 48) : Nat)) : Int) = 10 * (k : Nat) + (b.toNat : Nat) - 48 by omega]
            exact hS7_) hS5_ rfl (fun _ h => h)
        · rw [decide_eq_false (show ¬ ((i : Nat) : Int) < (t.size : Nat) by omega)]
          rw [List.take_of_length_le (by omega : (strB t).length ≤ i)]
          refine sS_ ?_
          refine X.fin ttok () [] trivial rfl rfl rfl hS4_ _ (by first | exact .inl rfl | exact .inr rfl)
      · rw [show numB t false = false by unfold numB; rw [decide_eq_false h9, Bool.and_false]]
        rw [decide_eq_true (show (t.size : Int) > 9 by omega)]
        refine sS_ ?_
        refine X.fin ttok () [] trivial rfl rfl rfl hS4_ _ (by first | exact .inl rfl | exact .inr rfl)
end Go.Proofs.YtaieficgifingaaGreatDoor
namespace Go.Proofs.YtaieficgifingaaGreatDoor
set_option linter.unusedVariables false
set_option linter.unusedSimpArgs false
open Go.RowKit
set_option maxRecDepth 100000
set_option maxHeartbeats 4000000
def quotRV (l : List UInt8) (k : Nat) : ByteArray × Int := match quoteP [] (l.drop (k + 1)) with
  | some p => (strOf p.1, (l.length - p.2.length : Nat))
  | none => (⟨#[]⟩, -1)
theorem of16 {a b : Nat} (ha : a ≤ 15) (hb : b ≤ 15) : (16 * (a : Nat) + (b : Nat) : Int) = ((UInt8.ofNat (a * 16 + b)).toNat : Nat) := by
  rw [UInt8.toNat_ofNat']
  have : (a * 16 + b) % 2 ^ 8 = a * 16 + b := Nat.mod_eq_of_lt (by omega)
  rw [this]
  omega
theorem quotedR_spec (s : ByteArray) (k : Nat) (hk : k < s.size) (hs : s.size ≤ 1000000) : Spec Tryz.prog 61 [.raw (.string s), .raw (.int .i64 (k : Nat))] [] 0 (σ := Unit) (fun _ => True) (fun _ => .tup [.raw (.string (quotRV (strB s) k).1), .raw (.int .i64 (quotRV (strB s) k).2)]) (fun _ => []) := by
  refine Spec.of Tryz.func61 rfl Tryz.ntmps61 rfl (bdl_nil _) fun ρ w => ?_
  have hlen := strB_size s
  refine C.seq ?_
  refine C.region ?_
  repeat (first | refine R.zb ttok ?_ | refine R.zu ttok ?_ | refine R.zc ttok ?_ | refine R.za ttok ?_ | refine R.zx ?_ | refine R.zl ttok ?_ | refine R.zs ttok ?_ | refine R.z ttok ?_ | refine R.zk ?_ | refine R.zn ?_)
  refine R.done ?_
  refine X.then ?_
  refine C.seq ?_
  refine C.region ?_
  repeat (first | refine R.zb ttok ?_ | refine R.zu ttok ?_ | refine R.zc ttok ?_ | refine R.za ttok ?_ | refine R.zx ?_ | refine R.zl ttok ?_ | refine R.zs ttok ?_ | refine R.z ttok ?_ | refine R.zk ?_ | refine R.zn ?_)
  refine R.done ?_
  refine X.then ?_
  refine C.noneT 6 (.sl 0 1 0 0 0) (.bytes [] 0 5) (none_bytes _ _) rfl rfl rfl (fun ρ h => sl_none h) ?_
  refine sS_ ?_
  refine C.loop (σ := Nat × List UInt8 × Nat) (L2 := 1) (fun x => x.1 ≤ s.size ∧ x.2.1.length ≤ x.1 ∧ x.2.2 ≤ 9223372036854775807 ∧ quoteP [] ((strB s).drop (k + 1)) = quoteP x.2.1 ((strB s).drop x.1)) (fun x => [(0, .raw (.string s)), (6, .sl 0 1 0 x.2.1.length x.2.2), (7, .raw (.int .i64 (x.1 : Nat)))]) (fun x => [(0, .bytes x.2.1 x.2.2 5)]) _ (fun x => s.size - x.1) [] (k + 1, [], 0) ⟨hk, Nat.zero_le _, Nat.zero_le _, rfl⟩ rfl (by
    show HasT _ _ _ [_, _, (7, .raw (.int .i64 (((k + 1 : Nat) : Nat) : Int)))]
    rw [show (((k + 1 : Nat) : Nat) : Int) = (k : Nat) + 1 by omega]
    exact hS7_) hS5_ rfl (fun _ h => h) ?_
  rintro ⟨i, p, c⟩ ⟨h1, hp, hc, hq⟩
  dsimp only at h1 hp hc hq ⊢
  refine sS_ ?_
  by_cases hlt : i < s.size
  · have hlt' : i < (strB s).length := by omega
    rw [decide_eq_true (show ((i : Nat) : Int) < (s.size : Nat) by omega)]
    rw [drop_get hlt'] at hq
    obtain ⟨b, hb⟩ : ∃ b, (strB s).getD i 0 = b := ⟨_, rfl⟩
    rw [hb] at hq
    have hbN : b.toNat < 256 := b.toNat_lt
    have hbv : ∀ k : UInt8, ((((b.toNat : Nat) : Int) = (k.toNat : Nat)) ↔ b = k) := fun k => ⟨fun e => UInt8.toNat_inj.1 (by omega), fun e => by rw [e]⟩
    refine sS_ ?_
    refine R.sx ttok (i) rfl rfl rfl rfl (by kernel_rfl) (by omega) (by show _ < (strB s).length; omega) ?_
    rw [show s.data.toList.getD (i) 0 = b from hb]
    refine sS_ ?_
    by_cases h34 : b = 34
    · rw [decide_eq_false (show ¬ (((b.toNat : Nat) : Int) ≠ 34) from fun h => h ((hbv 34).2 h34))]
      rw [h34, quoteP_end] at hq
      refine sS_ ?_
      rw [decide_eq_false (show ¬ (((i : Nat) : Int) ≥ (s.size : Nat)) by omega)]
      refine sS_ ?_
      by_cases h2 : i + 1 < s.size
      · rw [decide_eq_true (show (i : Int) + 1 < (s.size : Nat) by omega)]
        have h2' : i + 1 < (strB s).length := by omega
        obtain ⟨d, hd⟩ : ∃ d, (strB s).getD (i + 1) 0 = d := ⟨_, rfl⟩
        have hdd : (strB s).drop (i + 1) = d :: (strB s).drop (i + 1 + 1) := by rw [drop_get h2', hd]
        have hdN : d.toNat < 256 := d.toNat_lt
        have hcv : ∀ k : UInt8, ((((d.toNat : Nat) : Int) = (k.toNat : Nat)) ↔ d = k) := fun k => ⟨fun e => UInt8.toNat_inj.1 (by omega), fun e => by rw [e]⟩
        refine sS_ ?_
        refine R.sx ttok (i + 1) rfl rfl rfl rfl (by kernel_rfl) (by omega) (by show _ < (strB s).length; omega) ?_
        rw [show s.data.toList.getD (i + 1) 0 = d from hd]
        refine sS_ ?_
        by_cases g1 : d = 32
        · have hg : gapB ((strB s).drop (i + 1)) = true := by rw [hdd, g1]; rfl
          rw [decide_eq_false (show ¬ (((d.toNat : Nat) : Int) ≠ 32) from fun h => h ((hcv 32).2 g1))]
          have hv : quotRV (strB s) k = (strOf p, ((i : Nat) : Int) + 1) := by
            unfold quotRV
            rw [hq, if_pos hg]
            show (strOf p, (((strB s).length - ((strB s).drop (i + 1)).length : Nat) : Int)) = _
            rw [List.length_drop, show (strB s).length - ((strB s).length - (i + 1)) = i + 1 by omega]
            rfl
          rw [hv]
          refine sS_ ?_
          refine R.b2s ttok p rfl (SrcA.bytes0 rfl) rfl rfl rfl rfl rfl rfl rfl rfl rfl (by kernel_rfl) ?_
          refine sS_ ?_
          refine X.fin ttok () [] trivial rfl rfl rfl hS4_ _ (by first | exact .inl rfl | exact .inr rfl)
        · rw [decide_eq_true (show (((d.toNat : Nat) : Int) ≠ 32) from fun h => g1 ((hcv 32).1 h))]
          refine sS_ ?_
          refine R.sx ttok (i + 1) rfl rfl rfl rfl (by kernel_rfl) (by omega) (by show _ < (strB s).length; omega) ?_
          rw [show s.data.toList.getD (i + 1) 0 = d from hd]
          refine sS_ ?_
          by_cases g2 : d = 9
          · have hg : gapB ((strB s).drop (i + 1)) = true := by rw [hdd, g2]; rfl
            rw [decide_eq_false (show ¬ (((d.toNat : Nat) : Int) ≠ 9) from fun h => h ((hcv 9).2 g2))]
            have hv : quotRV (strB s) k = (strOf p, ((i : Nat) : Int) + 1) := by
              unfold quotRV
              rw [hq, if_pos hg]
              show (strOf p, (((strB s).length - ((strB s).drop (i + 1)).length : Nat) : Int)) = _
              rw [List.length_drop, show (strB s).length - ((strB s).length - (i + 1)) = i + 1 by omega]
              rfl
            rw [hv]
            refine sS_ ?_
            refine R.b2s ttok p rfl (SrcA.bytes0 rfl) rfl rfl rfl rfl rfl rfl rfl rfl rfl (by kernel_rfl) ?_
            refine sS_ ?_
            refine X.fin ttok () [] trivial rfl rfl rfl hS4_ _ (by first | exact .inl rfl | exact .inr rfl)
          · rw [decide_eq_true (show (((d.toNat : Nat) : Int) ≠ 9) from fun h => g2 ((hcv 9).1 h))]
            refine sS_ ?_
            refine R.sx ttok (i + 1) rfl rfl rfl rfl (by kernel_rfl) (by omega) (by show _ < (strB s).length; omega) ?_
            rw [show s.data.toList.getD (i + 1) 0 = d from hd]
            refine sS_ ?_
            by_cases g3 : d = 35
            · have hg : gapB ((strB s).drop (i + 1)) = true := by rw [hdd, g3]; rfl
              rw [decide_eq_false (show ¬ (((d.toNat : Nat) : Int) ≠ 35) from fun h => h ((hcv 35).2 g3))]
              have hv : quotRV (strB s) k = (strOf p, ((i : Nat) : Int) + 1) := by
                unfold quotRV
                rw [hq, if_pos hg]
                show (strOf p, (((strB s).length - ((strB s).drop (i + 1)).length : Nat) : Int)) = _
                rw [List.length_drop, show (strB s).length - ((strB s).length - (i + 1)) = i + 1 by omega]
                rfl
              rw [hv]
              refine sS_ ?_
              refine R.b2s ttok p rfl (SrcA.bytes0 rfl) rfl rfl rfl rfl rfl rfl rfl rfl rfl (by kernel_rfl) ?_
              refine sS_ ?_
              refine X.fin ttok () [] trivial rfl rfl rfl hS4_ _ (by first | exact .inl rfl | exact .inr rfl)
            · rw [decide_eq_true (show (((d.toNat : Nat) : Int) ≠ 35) from fun h => g3 ((hcv 35).1 h))]
              have hg : gapB ((strB s).drop (i + 1)) = false := by
                rw [hdd]
                show (false || ([32, 9, 35] : List UInt8).contains d) = false
                simp [g1, g2, g3]
              rw [hg, if_neg (by decide)] at hq
              have hv : quotRV (strB s) k = (⟨#[]⟩, -1) := by unfold quotRV; rw [hq]
              rw [hv]
              refine sS_ ?_
              refine X.fin ttok () [] trivial rfl rfl rfl hS4_ _ (by first | exact .inl rfl | exact .inr rfl)
      · rw [decide_eq_false (show ¬ ((i : Int) + 1 < (s.size : Nat)) by omega)]
        have hg : gapB ((strB s).drop (i + 1)) = true := by rw [List.drop_eq_nil_of_le (by omega)]; rfl
        have hv : quotRV (strB s) k = (strOf p, ((i : Nat) : Int) + 1) := by
          unfold quotRV
          rw [hq, if_pos hg]
          show (strOf p, (((strB s).length - ((strB s).drop (i + 1)).length : Nat) : Int)) = _
          rw [List.length_drop, show (strB s).length - ((strB s).length - (i + 1)) = i + 1 by omega]
          rfl
        rw [hv]
        refine sS_ ?_
        refine R.b2s ttok p rfl (SrcA.bytes0 rfl) rfl rfl rfl rfl rfl rfl rfl rfl rfl (by kernel_rfl) ?_
        refine sS_ ?_
        refine X.fin ttok () [] trivial rfl rfl rfl hS4_ _ (by first | exact .inl rfl | exact .inr rfl)
    · rw [decide_eq_true (show (((b.toNat : Nat) : Int) ≠ 34) from fun h => h34 ((hbv 34).1 h))]
      refine sS_ ?_
      refine R.sx ttok (i) rfl rfl rfl rfl (by kernel_rfl) (by omega) (by show _ < (strB s).length; omega) ?_
      rw [show s.data.toList.getD (i) 0 = b from hb]
      refine sS_ ?_
      by_cases hlo : b.toNat < 32
      · rw [decide_eq_true (show ((b.toNat : Nat) : Int) < 32 by omega)]
        rw [quoteP_bad h34 (.inl hlo)] at hq
        have hv : quotRV (strB s) k = (⟨#[]⟩, -1) := by unfold quotRV; rw [hq]
        rw [hv]
        refine sS_ ?_
        refine X.fin ttok () [] trivial rfl rfl rfl hS4_ _ (by first | exact .inl rfl | exact .inr rfl)
      · rw [decide_eq_false (show ¬ ((b.toNat : Nat) : Int) < 32 by omega)]
        refine sS_ ?_
        refine R.sx ttok (i) rfl rfl rfl rfl (by kernel_rfl) (by omega) (by show _ < (strB s).length; omega) ?_
        rw [show s.data.toList.getD (i) 0 = b from hb]
        refine sS_ ?_
        by_cases hhi : 126 < b.toNat
        · rw [decide_eq_true (show ((b.toNat : Nat) : Int) > 126 by omega)]
          rw [quoteP_bad h34 (.inr hhi)] at hq
          have hv : quotRV (strB s) k = (⟨#[]⟩, -1) := by unfold quotRV; rw [hq]
          rw [hv]
          refine sS_ ?_
          refine X.fin ttok () [] trivial rfl rfl rfl hS4_ _ (by first | exact .inl rfl | exact .inr rfl)
        · rw [decide_eq_false (show ¬ ((b.toNat : Nat) : Int) > 126 by omega)]
          refine sS_ ?_
          refine R.sx ttok (i) rfl rfl rfl rfl (by kernel_rfl) (by omega) (by show _ < (strB s).length; omega) ?_
          rw [show s.data.toList.getD (i) 0 = b from hb]
          refine sS_ ?_
          by_cases h92 : b = 92
          · rw [decide_eq_false (show ¬ (((b.toNat : Nat) : Int) ≠ 92) from fun h => h ((hbv 92).2 h92))]
            rw [h92] at hq
            refine sS_ ?_
            by_cases h2 : i + 1 < s.size
            · rw [decide_eq_false (show ¬ ((s.size : Nat) : Int) ≤ (i : Nat) + 1 by omega)]
              have h2' : i + 1 < (strB s).length := by omega
              rw [drop_get h2'] at hq
              obtain ⟨d, hd⟩ : ∃ d, (strB s).getD (i + 1) 0 = d := ⟨_, rfl⟩
              rw [hd] at hq
              have hdN : d.toNat < 256 := d.toNat_lt
              have hcv : ∀ k : UInt8, ((((d.toNat : Nat) : Int) = (k.toNat : Nat)) ↔ d = k) := fun k => ⟨fun e => UInt8.toNat_inj.1 (by omega), fun e => by rw [e]⟩
              refine sS_ ?_
              refine R.sx ttok (i + 1) rfl rfl rfl rfl (by kernel_rfl) (by omega) (by show _ < (strB s).length; omega) ?_
              rw [show s.data.toList.getD (i + 1) 0 = d from hd]
              refine sS_ ?_
              by_cases hd34 : d = 34
              · rw [decide_eq_true (show (((d.toNat : Nat) : Int) = 34) from (hcv 34).2 hd34)]
                rw [quoteP_esc (.inl hd34)] at hq
                refine sS_ ?_
                refine R.sx ttok (i + 1) rfl rfl rfl rfl (by kernel_rfl) (by omega) (by show _ < (strB s).length; omega) ?_
                rw [show s.data.toList.getD (i + 1) 0 = d from hd]
                refine sS_ ?_
                refine R.apb ttok (q := [d]) rfl rfl rfl rfl (SrcA.cells rfl rfl) (rfl) rfl rfl rfl rfl rfl rfl rfl (by kernel_rfl) hc (by simp; omega) fun c' h5 h6 => ?_
                refine sS_ ?_
                exact X.back [(0, 2)] (i + 1 + 1, p ++ [d], c') ⟨by omega, by simp only [List.length_append, List.length_cons, List.length_nil]; omega, h6, hq⟩ (by dsimp only; omega) rfl hS7_ hS5_ rfl (fun _ h => h)
              · rw [decide_eq_false (show ¬ (((d.toNat : Nat) : Int) = 34) from fun e => hd34 ((hcv 34).1 e))]
                refine sS_ ?_
                refine R.sx ttok (i + 1) rfl rfl rfl rfl (by kernel_rfl) (by omega) (by show _ < (strB s).length; omega) ?_
                rw [show s.data.toList.getD (i + 1) 0 = d from hd]
                refine sS_ ?_
                by_cases hd92 : d = 92
                · rw [decide_eq_true (show (((d.toNat : Nat) : Int) = 92) from (hcv 92).2 hd92)]
                  rw [quoteP_esc (.inr hd92)] at hq
                  refine sS_ ?_
                  refine R.sx ttok (i + 1) rfl rfl rfl rfl (by kernel_rfl) (by omega) (by show _ < (strB s).length; omega) ?_
                  rw [show s.data.toList.getD (i + 1) 0 = d from hd]
                  refine sS_ ?_
                  refine R.apb ttok (q := [d]) rfl rfl rfl rfl (SrcA.cells rfl rfl) (rfl) rfl rfl rfl rfl rfl rfl rfl (by kernel_rfl) hc (by simp; omega) fun c' h5 h6 => ?_
                  refine sS_ ?_
                  exact X.back [(0, 2)] (i + 1 + 1, p ++ [d], c') ⟨by omega, by simp only [List.length_append, List.length_cons, List.length_nil]; omega, h6, hq⟩ (by dsimp only; omega) rfl hS7_ hS5_ rfl (fun _ h => h)
                · rw [decide_eq_false (show ¬ (((d.toNat : Nat) : Int) = 92) from fun e => hd92 ((hcv 92).1 e))]
                  have hdn : ¬ (d = 34 ∨ d = 92) := fun h => h.elim hd34 hd92
                  refine sS_ ?_
                  refine R.sx ttok (i + 1) rfl rfl rfl rfl (by kernel_rfl) (by omega) (by show _ < (strB s).length; omega) ?_
                  rw [show s.data.toList.getD (i + 1) 0 = d from hd]
                  refine sS_ ?_
                  by_cases hdx : d = 120
                  · rw [decide_eq_false (show ¬ (((d.toNat : Nat) : Int) ≠ 120) from fun h => h ((hcv 120).2 hdx))]
                    refine sS_ ?_
                    by_cases h3 : i + 3 < s.size
                    · rw [decide_eq_false (show ¬ ((s.size : Nat) : Int) ≤ (i : Nat) + 3 by omega)]
                      have g2 : i + 1 + 1 < (strB s).length := by omega
                      have g3 : i + 1 + 1 + 1 < (strB s).length := by omega
                      rw [drop_get g2, drop_get g3] at hq
                      obtain ⟨x1, hx1⟩ : ∃ x, (strB s).getD (i + 1 + 1) 0 = x := ⟨_, rfl⟩
                      obtain ⟨x2, hx2⟩ : ∃ x, (strB s).getD (i + 1 + 1 + 1) 0 = x := ⟨_, rfl⟩
                      rw [hx1, hx2, hdx, quoteP_hex] at hq
                      have l1 := hexV_le x1
                      have l2 := hexV_le x2
                      refine sS_ ?_
                      refine R.sx ttok (i + 1 + 1) rfl rfl rfl rfl (by kernel_rfl) (by omega) (by show _ < (strB s).length; omega) ?_
                      rw [show s.data.toList.getD (i + 1 + 1) 0 = x1 from hx1]
                      refine R.cl [] (hexR_spec x1) Tryz.call105 hS6_ rfl rfl rfl (fun _ => rfl) rfl (by kernel_rfl) fun _ _ => ?_
                      cases e1 : hexB x1 with
                      | false =>
                        rw [if_neg (by rw [e1]; rintro ⟨h, _⟩; cases h)] at hq
                        rw [show hexI x1 = -1 by unfold hexI; rw [e1]; rfl]
                        have hv : quotRV (strB s) k = (⟨#[]⟩, -1) := by unfold quotRV; rw [hq]
                        rw [hv]
                        refine sS_ ?_
                        refine X.fin ttok () [] trivial rfl rfl rfl hS4_ _ (by first | exact .inl rfl | exact .inr rfl)
                      | true =>
                        rw [show hexI x1 = (hexV x1 : Nat) by unfold hexI; rw [e1]; rfl]
                        refine sS_ ?_
                        rw [decide_eq_false (show ¬ ((hexV x1 : Nat) : Int) < 0 by omega)]
                        refine sS_ ?_
                        refine R.sx ttok (i + 1 + 1 + 1) rfl rfl rfl rfl (by kernel_rfl) (by omega) (by show _ < (strB s).length; omega) ?_
                        rw [show s.data.toList.getD (i + 1 + 1 + 1) 0 = x2 from hx2]
                        refine R.cl [] (hexR_spec x2) Tryz.call105 hS6_ rfl rfl rfl (fun _ => rfl) rfl (by kernel_rfl) fun _ _ => ?_
                        cases e2 : hexB x2 with
                        | false =>
                          rw [if_neg (by rw [e2]; rintro ⟨_, h⟩; cases h)] at hq
                          rw [show hexI x2 = -1 by unfold hexI; rw [e2]; rfl]
                          have hv : quotRV (strB s) k = (⟨#[]⟩, -1) := by unfold quotRV; rw [hq]
                          rw [hv]
                          refine sS_ ?_
                          refine X.fin ttok () [] trivial rfl rfl rfl hS4_ _ (by first | exact .inl rfl | exact .inr rfl)
                        | true =>
                          rw [if_pos ⟨e1, e2⟩] at hq
                          have v1 : hexI x1 = (hexV x1 : Nat) := by unfold hexI; rw [e1]; rfl
                          have v2 : hexI x2 = (hexV x2 : Nat) := by unfold hexI; rw [e2]; rfl
                          rw [v2]
                          refine sS_ ?_
                          rw [decide_eq_false (show ¬ ((hexV x2 : Nat) : Int) < 0 by omega)]
                          refine sS_ ?_
                          refine C.draw [[], [], [], [2], [1, 2, 3], [1, 2, 3, 4], [1, 2, 3, 4, 5], [], [], [8], [7, 8, 9], [1, 2, 3, 4, 5, 7, 8, 9, 10], [1, 2, 3, 4, 5, 6, 7, 8, 9, 10, 11], [1, 2, 3, 4, 5, 6, 7, 8, 9, 10, 11, 12], [1, 2, 3, 4, 5, 6, 7, 8, 9, 10, 11, 12, 13], [0, 1, 2, 3, 4, 5, 6, 7, 8, 9, 10, 11, 12, 13, 14], [0, 1, 2, 3, 4, 5, 6, 7, 8, 9, 10, 11, 12, 13, 14, 15]] [5, 11, 14, 15] (by kernel_rfl) (by kernel_rfl) ?_
                          refine sS_ ?_
                          refine R.sx ttok (i + 1 + 1) rfl rfl rfl rfl (by kernel_rfl) (by omega) (by show _ < (strB s).length; omega) ?_
                          rw [show s.data.toList.getD (i + 1 + 1) 0 = x1 from hx1]
                          refine R.cl [] (hexR_spec x1) Tryz.call105 hS6_ rfl rfl rfl (fun _ => rfl) rfl (by kernel_rfl) fun _ _ => ?_
                          rw [v1]
                          refine sS_ ?_
                          refine R.sx ttok (i + 1 + 1 + 1) rfl rfl rfl rfl (by kernel_rfl) (by omega) (by show _ < (strB s).length; omega) ?_
                          rw [show s.data.toList.getD (i + 1 + 1 + 1) 0 = x2 from hx2]
                          refine R.cl [] (hexR_spec x2) Tryz.call105 hS6_ rfl rfl rfl (fun _ => rfl) rfl (by kernel_rfl) fun _ _ => ?_
                          rw [v2]
                          refine sS_ ?_
                          refine R.apb ttok (q := [UInt8.ofNat (hexV x1 * 16 + hexV x2)]) rfl rfl rfl rfl (SrcA.cells rfl rfl) (avB_one (of16 l1 l2)) rfl rfl rfl rfl rfl rfl rfl (by kernel_rfl) hc (by simp; omega) fun c' h5 h6 => ?_
                          refine sS_ ?_
                          exact X.back [(0, 2)] (i + 1 + 1 + 1 + 1, p ++ [UInt8.ofNat (hexV x1 * 16 + hexV x2)], c') ⟨by omega, by simp only [List.length_append, List.length_cons, List.length_nil]; omega, h6, hq⟩ (by dsimp only; omega) rfl hS7_ hS5_ rfl (fun _ h => h)
                    · rw [decide_eq_true (show ((s.size : Nat) : Int) ≤ (i : Nat) + 3 by omega)]
                      rw [quoteP_no hdn (.inr (by rw [List.length_drop]; omega))] at hq
                      have hv : quotRV (strB s) k = (⟨#[]⟩, -1) := by unfold quotRV; rw [hq]
                      rw [hv]
                      refine sS_ ?_
                      refine X.fin ttok () [] trivial rfl rfl rfl hS4_ _ (by first | exact .inl rfl | exact .inr rfl)
                  · rw [decide_eq_true (show (((d.toNat : Nat) : Int) ≠ 120) from fun h => hdx ((hcv 120).1 h))]
                    rw [quoteP_no hdn (.inl hdx)] at hq
                    have hv : quotRV (strB s) k = (⟨#[]⟩, -1) := by unfold quotRV; rw [hq]
                    rw [hv]
                    refine sS_ ?_
                    refine X.fin ttok () [] trivial rfl rfl rfl hS4_ _ (by first | exact .inl rfl | exact .inr rfl)
            · rw [decide_eq_true (show ((s.size : Nat) : Int) ≤ (i : Nat) + 1 by omega)]
              rw [List.drop_eq_nil_of_le (by omega : (strB s).length ≤ i + 1), quoteP_esc0] at hq
              have hv : quotRV (strB s) k = (⟨#[]⟩, -1) := by unfold quotRV; rw [hq]
              rw [hv]
              refine sS_ ?_
              refine X.fin ttok () [] trivial rfl rfl rfl hS4_ _ (by first | exact .inl rfl | exact .inr rfl)
          · rw [decide_eq_true (show (((b.toNat : Nat) : Int) ≠ 92) from fun h => h92 ((hbv 92).1 h))]
            rw [quoteP_one h34 (by omega) h92] at hq
            refine sS_ ?_
            refine R.sx ttok (i) rfl rfl rfl rfl (by kernel_rfl) (by omega) (by show _ < (strB s).length; omega) ?_
            rw [show s.data.toList.getD (i) 0 = b from hb]
            refine sS_ ?_
            refine R.apb ttok (q := [b]) rfl rfl rfl rfl (SrcA.cells rfl rfl) (rfl) rfl rfl rfl rfl rfl rfl rfl (by kernel_rfl) hc (by simp; omega) fun c' h5 h6 => ?_
            refine sS_ ?_
            exact X.back [(0, 2)] (i + 1, p ++ [b], c') ⟨by omega, by simp only [List.length_append, List.length_cons, List.length_nil]; omega, h6, hq⟩ (by dsimp only; omega) rfl hS7_ hS5_ rfl (fun _ h => h)
  · rw [decide_eq_false (show ¬ ((i : Nat) : Int) < (s.size : Nat) by omega)]
    rw [List.drop_eq_nil_of_le (by omega : (strB s).length ≤ i), quoteP_nil] at hq
    refine sS_ ?_
    rw [decide_eq_true (show (((i : Nat) : Int) ≥ (s.size : Nat)) by omega)]
    have hv : quotRV (strB s) k = (⟨#[]⟩, -1) := by unfold quotRV; rw [hq]
    rw [hv]
    refine sS_ ?_
    refine X.fin ttok () [] trivial rfl rfl rfl hS4_ _ (by first | exact .inl rfl | exact .inr rfl)
end Go.Proofs.YtaieficgifingaaGreatDoor
namespace Go.Proofs.YtaieficgifingaaGreatDoor
set_option linter.unusedVariables false
set_option linter.unusedSimpArgs false
open Go.RowKit
set_option maxRecDepth 100000
set_option maxHeartbeats 4000000
abbrev TX := ByteArray
def txF (l : List TX) (i : Nat) : List AV := [.raw (.string (l.getD i noT0))]
abbrev tTx (l : List TX) (c : Nat) : AO := .tab 1 l.length c (txF l) 9
abbrev roTx (l : List TX) : AO := .ro 1 0 l.length (txF l)
def txs (l : List TX) : List AV := l.flatMap fun t => [.raw (.string t)]
theorem txs_app (a b : List TX) : txs (a ++ b) = txs a ++ txs b := List.flatMap_append
theorem flat_tx (l : List TX) : ∀ m off, off + m ≤ l.length → flat (fun i => txF l (off + i)) m = txs ((l.drop off).take m)
  | 0, off, _ => by simp [flat, txs]
  | m + 1, off, h => by
    rw [flat, flat_tx l m off (by omega), List.take_add_one, txs_app]
    congr 1
    have : (l.drop off)[m]? = some (l[off + m]'(by omega)) := by rw [List.getElem?_drop, List.getElem?_eq_getElem]
    rw [this]
    simp [txs, txF, List.getD, show off + m < l.length by omega]
theorem flat_tx0 (l : List TX) : flat (txF l) l.length = txs l := by
  have := flat_tx l l.length 0 (by omega)
  simpa using this
section
variable {E : Base} {n L : Nat} {τ : List (Nat × AV)} {h : List (Nat × AO)} {F : World → Prop}
theorem asTx (T : TypeId) (l : List TX) (xs : List AV) (hx : xs = txs l) : AsRow (fun c => .tab 1 l.length c (txF l) T) T 1 xs := by
  rw [hx, ← flat_tx0]
  exact AsRow.tab T (by decide) fun i _ => rfl
theorem dstTx {lab cap : Nat} {l : List TX} {T : TypeId} (hl : hk lab h = some (.tab 1 l.length cap (txF l) T)) : DstA E n L τ h F (.sl lab 1 0 l.length cap) T 1 l.length cap (txs l) [lab] := by
  have := DstA.tab (E := E) (n := n) (L := L) (τ := τ) (F := F) (by decide) hl fun i _ => rfl
  rwa [flat_tx0] at this
end
theorem extract_mid (s : ByteArray) (i j : Nat) : strB (s.extract i j) = ((strB s).drop i).take (j - i) := by
  unfold strB
  rw [ByteArray.data_extract, Array.toList_extract, List.extract_eq_take_drop]
theorem index_at : ∀ (l : List UInt8) (k : Nat), (∀ j, j < k → l.getD j 0 ≠ 10) → k < l.length → l.getD k 0 = 10 → Lib.indexByte l 10 = (k : Nat)
  | [], k, _, h, _ => absurd h (Nat.not_lt_zero _)
  | c :: r, 0, _, _, h => by
    unfold Lib.indexByte
    rw [if_pos (show (c == 10) = true from by rw [show c = 10 from h]; rfl)]
    rfl
  | c :: r, k + 1, h1, h2, h3 => by
    unfold Lib.indexByte
    have h0 : c ≠ 10 := h1 0 (Nat.succ_pos k)
    have ih := index_at r k (fun j hj => h1 (j + 1) (by omega)) (by simpa using h2) h3
    rw [if_neg (show ¬ (c == 10) = true from fun e => h0 (by simpa using e)), ih, show (((k : Nat) : Int) == -1) = false from beq_eq_false_iff_ne.2 (by omega), if_neg Bool.false_ne_true]
    omega
theorem lineN_at {l : List UInt8} {k : Nat} (h1 : ∀ j, j < k → l.getD j 0 ≠ 10) (h2 : k < l.length) (h3 : l.getD k 0 = 10) : lineN l = k := by
  unfold lineN
  rw [index_at l k h1 h2 h3, if_neg (by omega)]
  rfl
theorem lineN_no {l : List UInt8} (h : ∀ j, j < l.length → l.getD j 0 ≠ 10) : lineN l = l.length := by
  unfold lineN
  rw [indexByte_no fun x hx e => ?_]
  · rfl
  · obtain ⟨j, hj, he⟩ := List.mem_iff_getElem.1 hx
    have := h j hj
    rw [List.getD_eq_getElem?_getD, List.getElem?_eq_getElem hj] at this
    exact this (he.trans e)
theorem linesR_spec (s : ByteArray) (hs : s.size ≤ 1000000) : Spec Tryz.prog 25 [.raw (.string s)] [] 1 (σ := Nat) (fun c => (linesL (strB s)).length ≤ c ∧ c ≤ 9223372036854775807) (fun c => .sl 0 1 0 ((linesL (strB s)).map strOf).length c) (fun c => [(0, tTx ((linesL (strB s)).map strOf) c)]) := by
  refine Spec.of Tryz.func25 rfl Tryz.ntmps25 rfl (bdl_nil _) fun ρ w => ?_
  have hlen := strB_size s
  obtain ⟨t, ht⟩ : ∃ t, strB s = t := ⟨_, rfl⟩
  rw [ht] at hlen ⊢
  refine C.seq ?_
  refine C.region ?_
  repeat (first | refine R.zb ttok ?_ | refine R.zu ttok ?_ | refine R.zc ttok ?_ | refine R.za ttok ?_ | refine R.zx ?_ | refine R.zl ttok ?_ | refine R.zs ttok ?_ | refine R.z ttok ?_ | refine R.zk ?_ | refine R.zn ?_)
  refine R.done ?_
  refine X.then ?_
  refine C.seq ?_
  refine C.region ?_
  repeat (first | refine R.zb ttok ?_ | refine R.zu ttok ?_ | refine R.zc ttok ?_ | refine R.za ttok ?_ | refine R.zx ?_ | refine R.zl ttok ?_ | refine R.zs ttok ?_ | refine R.z ttok ?_ | refine R.zk ?_ | refine R.zn ?_)
  refine R.done ?_
  refine X.then ?_
  refine C.noneT 3 (.sl 0 1 0 0 0) (tTx [] 0) (none_tab _ _ _ _) rfl rfl rfl (fun ρ h => sl_none h) ?_
  refine sS_ ?_
  refine C.loop (σ := Nat × Nat × List TX × Nat) (L2 := 1) (fun x => x.1 ≤ s.size ∧ x.2.1 ≤ x.1 ∧ (linesL t).map strOf = x.2.2.1 ++ (linesL (t.drop x.2.1)).map strOf ∧ (∀ j, x.2.1 ≤ j → j < x.1 → t.getD j 0 ≠ 10) ∧ x.2.2.1.length ≤ x.2.1 ∧ x.2.2.1.length ≤ x.2.2.2 ∧ x.2.2.2 ≤ 9223372036854775807)
    (fun x => [(0, .raw (.string s)), (3, .sl 0 1 0 x.2.2.1.length x.2.2.2), (4, .raw (.int .i64 (x.2.1 : Nat))), (5, .raw (.int .i64 (x.1 : Nat)))]) (fun x => [(0, tTx x.2.2.1 x.2.2.2)]) _ (fun x => s.size - x.1) [] (0, 0, [], 0) ⟨Nat.zero_le _, Nat.le_refl _, rfl, fun j _ h => absurd h (Nat.not_lt_zero j), Nat.le_refl _, Nat.le_refl _, Nat.zero_le _⟩ rfl hS7_ hS5_ rfl (fun _ h => h) ?_
  rintro ⟨i, a, l, c⟩ ⟨hi, ha, hl, hno, hla, hc, hc'⟩
  dsimp only at hi ha hl hno hla hc hc' ⊢
  have hdl : ∀ j, (t.drop a).getD j 0 = t.getD (a + j) 0 := fun j => by rw [List.getD_eq_getElem?_getD, List.getElem?_drop, ← List.getD_eq_getElem?_getD]
  refine sS_ ?_
  by_cases hlt : i < s.size
  · rw [decide_eq_true (show ((i : Nat) : Int) < (s.size : Nat) by omega)]
    refine sS_ ?_
    refine R.sx ttok i rfl rfl rfl rfl rfl rfl (by show i < (strB s).length; rw [ht]; omega) ?_
    obtain ⟨b, hb⟩ : ∃ b, t.getD i 0 = b := ⟨_, rfl⟩
    rw [show s.data.toList.getD i 0 = b by rw [← hb, ← ht]; rfl]
    have hbN : b.toNat < 256 := b.toNat_lt
    have hbv : ((((b.toNat : Nat) : Int) = 10) ↔ b = 10) := ⟨fun e => UInt8.toNat_inj.1 (show b.toNat = 10 by omega), fun e => by rw [e]; rfl⟩
    refine sS_ ?_
    by_cases h10 : b = 10
    · rw [decide_eq_true (hbv.2 h10)]
      have hne : t.drop a ≠ [] := fun h => by
        have := congrArg List.length h
        rw [List.length_drop, List.length_nil] at this
        omega
      have hN : lineN (t.drop a) = i - a := lineN_at (fun j hj => by rw [hdl]; exact hno (a + j) (by omega) (by omega)) (by rw [List.length_drop]; omega) (by rw [hdl, show a + (i - a) = i by omega, hb, h10])
      rw [linesL_cons hne] at hl
      unfold lineA lineB at hl
      rw [hN, List.drop_drop, show a + (i - a + 1) = i + 1 by omega] at hl
      refine sS_ ?_
      refine R.sls ttok a i rfl rfl rfl rfl (by kernel_rfl) ⟨_, _, rfl, rfl⟩ ⟨_, _, rfl, rfl⟩ ha (by omega) ?_
      obtain ⟨q, hq⟩ : ∃ q, s.extract a i = q := ⟨_, rfl⟩
      have hq2 : q = strOf ((t.drop a).take (i - a)) := strB_inj (by rw [← hq, extract_mid, ht]; rfl)
      rw [hq]
      refine sS_ ?_
      refine R.app (xs := txs l) (news := txs [q]) ttok (fun c => tTx (l ++ [q]) c) rfl rfl (dstTx rfl) (SrcA.cells rfl rfl) (asTx _ _ _ (txs_app _ _).symm) rfl rfl rfl rfl rfl rfl (by decide) rfl rfl rfl (by kernel_rfl) hc' (by show (l.length + 1) * 16 ≤ _; omega) (by show l.length + 1 ≤ _; omega) fun cB hB hB2 => ?_
      have hlX : (l ++ [q]).length = l.length + 1 := by simp
      rw [← hlX] at hB ⊢
      refine sS_ ?_
      exact X.back [(0, 2)] (i + 1, i + 1, l ++ [q], cB) ⟨by dsimp only; omega, Nat.le_refl _, by
        rw [hl, hq2]
        simp, fun j h1 h2 => by dsimp only at h1 h2; omega, by dsimp only; omega, hB, hB2⟩ (by dsimp only; omega) rfl hS7_ hS5_ rfl (fun _ h => h)
    · rw [decide_eq_false (show ¬ (((b.toNat : Nat) : Int) = 10) from fun e => h10 (hbv.1 e))]
      refine sS_ ?_
      exact X.back [] (i + 1, a, l, c) ⟨by dsimp only; omega, by dsimp only; omega, hl, fun j h1 h2 => (by
        dsimp only at h1 h2
        rcases Nat.lt_or_ge j i with h | h
        · exact hno j h1 h
        · obtain rfl : j = i := by omega
          rw [hb]; exact h10), hla, hc, hc'⟩ (by dsimp only; omega) rfl hS7_ hS5_ rfl (fun _ h => h)
  · rw [decide_eq_false (show ¬ ((i : Nat) : Int) < (s.size : Nat) by omega)]
    obtain rfl : i = s.size := by omega
    refine sS_ ?_
    by_cases hal : a < s.size
    · rw [decide_eq_true (show ((a : Nat) : Int) < (s.size : Nat) by omega)]
      have hne : t.drop a ≠ [] := fun h => by
        have := congrArg List.length h
        rw [List.length_drop, List.length_nil] at this
        omega
      have hN : lineN (t.drop a) = (t.drop a).length := lineN_no (fun j hj => by rw [List.length_drop] at hj; rw [hdl]; exact hno (a + j) (by omega) (by omega))
      rw [linesL_cons hne] at hl
      unfold lineA lineB at hl
      rw [hN, List.take_length, show (t.drop a).drop ((t.drop a).length + 1) = [] from List.drop_eq_nil_of_le (by omega), linesL_nil] at hl
      refine sS_ ?_
      refine R.sls ttok a s.size rfl rfl rfl rfl (by kernel_rfl) ⟨_, _, rfl, rfl⟩ rfl ha (Nat.le_refl _) ?_
      obtain ⟨q, hq⟩ : ∃ q, s.extract a s.size = q := ⟨_, rfl⟩
      have hq2 : q = strOf (t.drop a) := strB_inj (by rw [← hq, extract_drop, ht]; rfl)
      rw [hq]
      refine sS_ ?_
      refine R.app (xs := txs l) (news := txs [q]) ttok (fun c => tTx (l ++ [q]) c) rfl rfl (dstTx rfl) (SrcA.cells rfl rfl) (asTx _ _ _ (txs_app _ _).symm) rfl rfl rfl rfl rfl rfl (by decide) rfl rfl rfl (by kernel_rfl) hc' (by show (l.length + 1) * 16 ≤ _; omega) (by show l.length + 1 ≤ _; omega) fun cB hB hB2 => ?_
      have hlX : (l ++ [q]).length = l.length + 1 := by simp
      rw [← hlX] at hB ⊢
      have hfin : (linesL t).map strOf = l ++ [q] := by rw [hl, hq2]; rfl
      have hll : (linesL t).length = (l ++ [q]).length := by rw [← hfin, List.length_map]
      rw [hfin, hll]
      refine sS_ ?_
      refine X.fin ttok cB [(0, 2)] ⟨hB, hB2⟩ rfl rfl rfl hS4_ _ (by first | exact .inl rfl | exact .inr rfl)
    · rw [decide_eq_false (show ¬ ((a : Nat) : Int) < (s.size : Nat) by omega)]
      rw [List.drop_eq_nil_of_le (by omega), linesL_nil, List.map_nil, List.append_nil] at hl
      have hll : (linesL t).length = l.length := by rw [← hl, List.length_map]
      rw [hl, hll]
      refine sS_ ?_
      refine X.fin ttok c [] ⟨hc, hc'⟩ rfl rfl rfl hS4_ _ (by first | exact .inl rfl | exact .inr rfl)
end Go.Proofs.YtaieficgifingaaGreatDoor
namespace Go.Proofs.YtaieficgifingaaGreatDoor
set_option linter.unusedVariables false
set_option linter.unusedSimpArgs false
open Go.RowKit
set_option maxRecDepth 100000
set_option maxHeartbeats 8000000
def rdX (p : WD) : List AV := [.raw (.bool p.2), .raw (.string p.1)]
def rds (l : List WD) : List AV := l.flatMap rdX
def rdF (l : List WD) (i : Nat) : List AV := rdX (l.getD i wdD)
abbrev wrT : TypeId := 74
abbrev tWR (l : List WD) (c : Nat) : AO := .tab 2 l.length c (rdF l) wrT
abbrev roWR (l : List WD) : AO := .ro 2 0 l.length (rdF l)
theorem rds_app (a b : List WD) : rds (a ++ b) = rds a ++ rds b := List.flatMap_append
theorem flat_rd (l : List WD) : ∀ m off, off + m ≤ l.length → flat (fun i => rdF l (off + i)) m = rds ((l.drop off).take m)
  | 0, off, _ => by simp [flat, rds]
  | m + 1, off, h => by
    rw [flat, flat_rd l m off (by omega), List.take_add_one, rds_app]
    congr 1
    have : (l.drop off)[m]? = some (l[off + m]'(by omega)) := by rw [List.getElem?_drop, List.getElem?_eq_getElem]
    rw [this]
    simp [rds, rdF, List.getD, show off + m < l.length by omega]
theorem flat_rd0 (l : List WD) : flat (rdF l) l.length = rds l := by
  have := flat_rd l l.length 0 (by omega)
  simpa using this
section
variable {E : Base} {n L : Nat} {τ : List (Nat × AV)} {h : List (Nat × AO)} {F : World → Prop}
theorem asRd (T : TypeId) (l : List WD) (xs : List AV) (hx : xs = rds l) : AsRow (fun c => .tab 2 l.length c (rdF l) T) T 2 xs := by
  rw [hx, ← flat_rd0]
  exact AsRow.tab T (by decide) fun i _ => rfl
theorem dstRd {lab cap : Nat} {l : List WD} {T : TypeId} (hl : hk lab h = some (.tab 2 l.length cap (rdF l) T)) : DstA E n L τ h F (.sl lab 2 0 l.length cap) T 2 l.length cap (rds l) [lab] := by
  have := DstA.tab (E := E) (n := n) (L := L) (τ := τ) (F := F) (by decide) hl fun i _ => rfl
  rwa [flat_rd0] at this
end
theorem wordsP_congr {a b : List UInt8} (h : Lib.trimLeftS a [32, 9] = Lib.trimLeftS b [32, 9]) : wordsP a = wordsP b := by
  cases hb : Lib.trimLeftS b [32, 9] with
  | nil => rw [wordsP_end (l0 := a) (.inl (h.trans hb)), wordsP_end (l0 := b) (.inl hb)]
  | cons c r =>
    by_cases h35 : c = 35
    · rw [wordsP_end (l0 := a) (.inr ⟨r, by rw [h, hb, h35]⟩), wordsP_end (l0 := b) (.inr ⟨r, by rw [hb, h35]⟩)]
    · by_cases h34 : c = 34
      · rw [wordsP_q (l0 := a) (r := r) (by rw [h, hb, h34]), wordsP_q (l0 := b) (r := r) (by rw [hb, h34])]
      · rw [wordsP_w (l0 := a) (h.trans hb) h35 h34, wordsP_w (l0 := b) hb h35 h34]
theorem trim_skip {c : UInt8} {r : List UInt8} (h : c = 32 ∨ c = 9) : Lib.trimLeftS (c :: r) [32, 9] = Lib.trimLeftS r [32, 9] := by
  unfold Lib.trimLeftS
  rw [List.dropWhile_cons_of_pos]
  rcases h with rfl | rfl <;> rfl
theorem trim_id {c : UInt8} {r : List UInt8} (h1 : c ≠ 32) (h2 : c ≠ 9) : Lib.trimLeftS (c :: r) [32, 9] = c :: r := by
  unfold Lib.trimLeftS
  rw [List.dropWhile_cons_of_neg]
  simp [h1, h2]
theorem gapC_ne {c : UInt8} (h1 : c ≠ 32) (h2 : c ≠ 9) (h3 : c ≠ 35) : gapC c = false := by
  unfold gapC
  simp [h1, h2, h3]
theorem wordN_at {l : List UInt8} {k : Nat} (hk : k ≤ l.length) (h1 : ∀ j, j < k → gapC (l.getD j 0) = false) (h2 : k = l.length ∨ gapC (l.getD k 0) = true) : wordN l = k := by
  unfold wordN
  rcases Nat.lt_or_ge k l.length with h | h
  · rw [anyAt h h1 (h2.resolve_left (by omega)), if_neg (by omega)]
    rfl
  · have he : k = l.length := by omega
    rw [anyNo fun x hx => ?_]
    · exact he.symm
    · obtain ⟨j, hj, e⟩ := List.mem_iff_getElem.1 hx
      have := h1 j (by omega)
      rw [List.getD_eq_getElem?_getD, List.getElem?_eq_getElem hj] at this
      rw [← e]; exact this
theorem quoteP_suf : ∀ (l acc : List UInt8) (p : List UInt8 × List UInt8), quoteP acc l = some p → p.2 <:+ l := fun l => by
  induction hl : l.length using Nat.strongRecOn generalizing l with
  | _ k ih =>
    intro acc p h
    match l, hl, h with
    | [], _, h => rw [quoteP_nil] at h; cases h
    | c :: r, hl, h =>
      rw [List.length_cons] at hl
      have up : p.2 <:+ r → p.2 <:+ c :: r := fun h => h.trans (List.suffix_cons _ _)
      by_cases h1 : c = 34
      · subst h1
        rw [quoteP_end] at h
        split at h
        · cases h; exact List.suffix_cons _ _
        · cases h
      · by_cases h2 : c.toNat < 32 ∨ 126 < c.toNat
        · rw [quoteP_bad h1 h2] at h; cases h
        · by_cases h3 : c = 92
          · subst h3
            match r, hl, h, up with
            | [], _, h, _ => rw [quoteP_esc0] at h; cases h
            | d :: r2, hl, h, up =>
              rw [List.length_cons] at hl
              have up2 : p.2 <:+ r2 → p.2 <:+ 92 :: d :: r2 := fun h => up (h.trans (List.suffix_cons _ _))
              by_cases h4 : d = 34 ∨ d = 92
              · rw [quoteP_esc h4] at h
                exact up2 (ih r2.length (by omega) r2 rfl _ _ h)
              · by_cases h5 : d ≠ 120 ∨ r2.length < 2
                · rw [quoteP_no h4 h5] at h; cases h
                · match r2, hl, h, h5, up2 with
                  | [], _, _, h5, _ => exact absurd (.inr (by decide)) h5
                  | [_], _, _, h5, _ => exact absurd (.inr (by simp)) h5
                  | x1 :: x2 :: r3, hl, h, h5, up2 =>
                    have hd : d = 120 := Classical.byContradiction fun e => h5 (.inl e)
                    rw [hd, quoteP_hex] at h
                    rw [List.length_cons, List.length_cons] at hl
                    split at h
                    · exact up2 (((ih r3.length (by omega) r3 rfl _ _ h).trans (List.suffix_cons _ _)).trans (List.suffix_cons _ _))
                    · cases h
          · rw [quoteP_one h1 h2 h3] at h
            exact up (ih r.length (by omega) r rfl _ _ h)
theorem suf_drop {a b : List UInt8} (h : a <:+ b) : b.drop (b.length - a.length) = a := by
  obtain ⟨t, rfl⟩ := h
  rw [List.length_append, Nat.add_sub_cancel]
  exact List.drop_left
theorem wordsR_spec (s : ByteArray) (hs : s.size ≤ 1000000) : Spec Tryz.prog 26 [.raw (.string s)] [] 1 (σ := WS) (wordsG (strB s)) (fun r => .tup [.sl 0 2 0 r.l.length r.c, .raw (.bool r.ok)]) (fun r => [(0, tWR r.l r.c)]) := by
  refine Spec.of Tryz.func26 rfl Tryz.ntmps26 rfl (bdl_nil _) fun ρ w => ?_
  have hlen := strB_size s
  obtain ⟨t, ht⟩ : ∃ t, strB s = t := ⟨_, rfl⟩
  rw [ht] at hlen ⊢
  refine C.seq ?_
  refine C.region ?_
  repeat (first | refine R.zb ttok ?_ | refine R.zu ttok ?_ | refine R.zc ttok ?_ | refine R.za ttok ?_ | refine R.zx ?_ | refine R.zl ttok ?_ | refine R.zs ttok ?_ | refine R.z ttok ?_ | refine R.zk ?_ | refine R.zn ?_)
  refine R.done ?_
  refine X.then ?_
  refine C.seq ?_
  refine C.region ?_
  repeat (first | refine R.zb ttok ?_ | refine R.zu ttok ?_ | refine R.zc ttok ?_ | refine R.za ttok ?_ | refine R.zx ?_ | refine R.zl ttok ?_ | refine R.zs ttok ?_ | refine R.z ttok ?_ | refine R.zk ?_ | refine R.zn ?_)
  refine R.done ?_
  refine X.then ?_
  refine C.noneT 4 (.sl 0 2 0 0 0) (tWR [] 0) (none_tab _ _ _ _) rfl rfl rfl (fun ρ h => sl_none h) ?_
  refine sS_ ?_
  refine C.loop (σ := Nat × List WD × Nat) (L2 := 1) (fun x => x.1 ≤ s.size ∧ x.2.1.length ≤ x.1 ∧ x.2.1.length ≤ x.2.2 ∧ x.2.2 ≤ 9223372036854775807 ∧ (wordsP t).map wsOf = (wordsP (t.drop x.1)).map (fun ws => x.2.1 ++ wsOf ws))
    (fun x => [(0, .raw (.string s)), (4, .sl 0 2 0 x.2.1.length x.2.2), (5, .raw (.int .i64 (x.1 : Nat)))]) (fun x => [(0, tWR x.2.1 x.2.2)]) _ (fun x => s.size - x.1) [] (0, [], 0) ⟨Nat.zero_le _, Nat.le_refl _, Nat.le_refl _, Nat.zero_le _, by simp⟩ rfl hS7_ hS5_ rfl (fun _ h => h) ?_
  rintro ⟨i, W, c⟩ ⟨hi, hWi, hc, hc', h4⟩
  dsimp only at hi hWi hc hc' h4 ⊢
  refine sS_ ?_
  by_cases hlt : i < s.size
  · rw [decide_eq_true (show ((i : Nat) : Int) < (s.size : Nat) by omega)]
    have hlt' : i < t.length := by omega
    have hdg := drop_get hlt'
    obtain ⟨b, hb⟩ : ∃ b, t.getD i 0 = b := ⟨_, rfl⟩
    rw [hb] at hdg
    have hbN : b.toNat < 256 := b.toNat_lt
    have hbv : ∀ k : UInt8, ((((b.toNat : Nat) : Int) = (k.toNat : Nat)) ↔ b = k) := fun k => ⟨fun e => UInt8.toNat_inj.1 (by omega), fun e => by rw [e]⟩
    refine sS_ ?_
    refine R.sx ttok (i) rfl rfl rfl rfl (by kernel_rfl) (by omega) (by show _ < (strB s).length; rw [ht]; omega) ?_
    rw [show s.data.toList.getD (i) 0 = b by rw [← hb, ← ht]; rfl]
    refine sS_ ?_
    by_cases h35 : b = 35
    · rw [decide_eq_false (show ¬ (((b.toNat : Nat) : Int) ≠ 35) from fun h => h ((hbv 35).2 h35))]
      have hG : wordsG t ⟨W, c, true⟩ := endG (by
        rw [h4, hdg, wordsP_end (.inr ⟨_, by rw [h35]; exact trim_id (by decide) (by decide)⟩)]
        rfl) hc hc' (by omega)
      refine sS_ ?_
      refine X.fin ttok ⟨W, c, true⟩ [] hG rfl rfl rfl hS4_ _ (by first | exact .inl rfl | exact .inr rfl)
    · rw [decide_eq_true (show (((b.toNat : Nat) : Int) ≠ 35) from fun h => h35 ((hbv 35).1 h))]
      refine sS_ ?_
      refine R.sx ttok (i) rfl rfl rfl rfl (by kernel_rfl) (by omega) (by show _ < (strB s).length; rw [ht]; omega) ?_
      rw [show s.data.toList.getD (i) 0 = b by rw [← hb, ← ht]; rfl]
      refine sS_ ?_
      by_cases h32 : b = 32
      · rw [decide_eq_true (show (((b.toNat : Nat) : Int) = 32) from (hbv 32).2 h32)]
        refine sS_ ?_
        exact X.back [] (i + 1, W, c) ⟨hlt, by dsimp only; omega, hc, hc', by
          rw [h4, hdg, wordsP_congr (trim_skip (.inl h32))]⟩ (by dsimp only; omega) rfl hS7_ hS5_ rfl (fun _ h => h)
      · rw [decide_eq_false (show ¬ (((b.toNat : Nat) : Int) = 32) from fun h => h32 ((hbv 32).1 h))]
        refine sS_ ?_
        refine R.sx ttok (i) rfl rfl rfl rfl (by kernel_rfl) (by omega) (by show _ < (strB s).length; rw [ht]; omega) ?_
        rw [show s.data.toList.getD (i) 0 = b by rw [← hb, ← ht]; rfl]
        refine sS_ ?_
        by_cases h9 : b = 9
        · rw [decide_eq_true (show (((b.toNat : Nat) : Int) = 9) from (hbv 9).2 h9)]
          refine sS_ ?_
          exact X.back [] (i + 1, W, c) ⟨hlt, by dsimp only; omega, hc, hc', by
            rw [h4, hdg, wordsP_congr (trim_skip (.inr h9))]⟩ (by dsimp only; omega) rfl hS7_ hS5_ rfl (fun _ h => h)
        · rw [decide_eq_false (show ¬ (((b.toNat : Nat) : Int) = 9) from fun h => h9 ((hbv 9).1 h))]
          have htr : Lib.trimLeftS (t.drop i) [32, 9] = b :: t.drop (i + 1) := by rw [hdg]; exact trim_id h32 h9
          refine sS_ ?_
          refine R.sx ttok (i) rfl rfl rfl rfl (by kernel_rfl) (by omega) (by show _ < (strB s).length; rw [ht]; omega) ?_
          rw [show s.data.toList.getD (i) 0 = b by rw [← hb, ← ht]; rfl]
          refine sS_ ?_
          by_cases h34 : b = 34
          · rw [decide_eq_true (show (((b.toNat : Nat) : Int) = 34) from (hbv 34).2 h34)]
            rw [wordsP_q (l0 := t.drop i) (r := t.drop (i + 1)) (by rw [htr, h34])] at h4
            refine sS_ ?_
            refine R.cl [] (quotedR_spec s i hlt hs) Tryz.call61 hS6_ rfl rfl rfl (fun _ => rfl) rfl (by kernel_rfl) fun _ _ => ?_
            rw [ht]
            have hqv : quotRV t i = match quoteP [] (t.drop (i + 1)) with
              | some p => (strOf p.1, (t.length - p.2.length : Nat))
              | none => (⟨#[]⟩, -1) := rfl
            cases hq : quoteP [] (t.drop (i + 1)) with
            | none =>
              rw [hq] at h4 hqv
              dsimp only at h4 hqv
              rw [hqv]
              refine sS_ ?_
              refine X.noneT 2 (.sl 1 2 0 0 0) (tWR [] 0) (none_tab _ _ _ _) rfl rfl rfl (fun ρ h => sl_none h) ?_
              refine X.fin ttok ⟨[], 0, false⟩ [(0, 1)] (noG h4) rfl rfl rfl hS4_ _ (by first | exact .inl rfl | exact .inr rfl)
            | some p =>
              rw [hq] at h4 hqv
              have hsf := quoteP_suf _ _ _ hq
              have hlt2 := quoteP_lt _ _ _ hq
              rw [List.length_drop] at hlt2
              obtain ⟨p1, p2⟩ := p
              dsimp only at h4 hqv hsf hlt2
              rw [hqv]
              dsimp only
              have hsf2 : p2 <:+ t := hsf.trans (List.drop_suffix _ _)
              have hd2 := suf_drop hsf2
              obtain ⟨k, hk⟩ : ∃ k, t.length - p2.length = k := ⟨_, rfl⟩
              rw [hk] at hd2 ⊢
              have hp2 := hsf2.length_le
              refine sS_ ?_
              rw [decide_eq_false (show ¬ ((k : Nat) : Int) < 0 by omega)]
              obtain ⟨q, hqq⟩ : ∃ q, strOf p1 = q := ⟨_, rfl⟩
              rw [hqq]
              refine sS_ ?_
              refine R.app (xs := rds W) (news := rds [(q, true)]) ttok (fun c => tWR (W ++ [(q, true)]) c) rfl rfl (dstRd rfl) (SrcA.cells rfl rfl) (asRd _ _ _ (rds_app _ _).symm) rfl rfl rfl rfl rfl rfl (by decide) rfl rfl rfl (by kernel_rfl) hc' (by show (W.length + 1) * 24 ≤ _; omega) (by show W.length + 1 ≤ _; omega) fun cB hB hB2 => ?_
              have hlW : (W ++ [(q, true)]).length = W.length + 1 := by simp
              rw [← hlW] at hB ⊢
              refine sS_ ?_
              exact X.back [(0, 2)] (k, W ++ [(q, true)], cB) ⟨by dsimp only; omega, by dsimp only; omega, hB, hB2, by
                rw [h4, Option.map_map]
                show _ = Option.map _ (wordsP (t.drop k))
                rw [hd2]
                congr 1
                funext ws
                show W ++ wsOf ((p1, true) :: ws) = W ++ [(q, true)] ++ wsOf ws
                rw [List.append_assoc, ← hqq]
                rfl⟩ (by dsimp only; omega) rfl hS7_ hS5_ rfl (fun _ h => h)
          · rw [decide_eq_false (show ¬ (((b.toNat : Nat) : Int) = 34) from fun h => h34 ((hbv 34).1 h))]
            rw [wordsP_w (l0 := t.drop i) htr h35 h34] at h4
            rw [← hdg] at h4
            have hg0 : gapC (t.getD i 0) = false := by rw [hb]; exact gapC_ne h32 h9 h35
            have hdl : ∀ j, (t.drop i).getD j 0 = t.getD (i + j) 0 := fun j => by rw [List.getD_eq_getElem?_getD, List.getElem?_drop, ← List.getD_eq_getElem?_getD]
            refine sS_ ?_
            refine C.loop (σ := Nat) (L2 := 1) (fun k => i ≤ k ∧ k ≤ s.size ∧ ∀ j, i ≤ j → j < k → gapC (t.getD j 0) = false) (fun k => [(0, .raw (.string s)), (4, .sl 0 2 0 W.length c), (5, .raw (.int .i64 (k : Nat))), (8, .raw (.int .i64 (i : Nat)))]) (fun _ => [(0, tWR W c)]) _ (fun k => s.size - k) [] i ⟨Nat.le_refl _, by omega, fun j h1 h2 => by omega⟩ rfl hS7_ hS5_ rfl (fun _ h => h) ?_
            rintro k ⟨hik, hks, hgk⟩
            refine sS_ ?_
            by_cases hkl : k < s.size
            · rw [decide_eq_true (show ((k : Nat) : Int) < (s.size : Nat) by omega)]
              obtain ⟨d, hd⟩ : ∃ d, t.getD k 0 = d := ⟨_, rfl⟩
              have hdN : d.toNat < 256 := d.toNat_lt
              have hdv : ∀ k : UInt8, ((((d.toNat : Nat) : Int) = (k.toNat : Nat)) ↔ d = k) := fun k => ⟨fun e => UInt8.toNat_inj.1 (by omega), fun e => by rw [e]⟩
              refine sS_ ?_
              refine R.sx ttok (k) rfl rfl rfl rfl (by kernel_rfl) (by omega) (by show _ < (strB s).length; rw [ht]; omega) ?_
              rw [show s.data.toList.getD (k) 0 = d by rw [← hd, ← ht]; rfl]
              refine sS_ ?_
              by_cases k32 : d = 32
              · rw [decide_eq_false (show ¬ (((d.toNat : Nat) : Int) ≠ 32) from fun h => h ((hdv 32).2 k32))]
                have hgd : gapC (t.getD k 0) = true := by rw [hd, k32]; rfl
                have hw2 : k - i = (t.drop i).length ∨ gapC ((t.drop i).getD (k - i) 0) = true := .inr (by rw [hdl, show i + (k - i) = k by omega]; exact hgd)
                have hN : wordN (t.drop i) = k - i := wordN_at (by rw [List.length_drop]; omega) (fun j hj => by rw [hdl]; exact hgk (i + j) (by omega) (by omega)) hw2
                have hki : i < k := by
                  rcases Nat.lt_or_ge i k with h | h
                  · exact h
                  · exfalso
                    obtain rfl : k = i := by omega
                    (rw [hgd] at hg0; cases hg0)
                rw [hN, List.drop_drop, show i + (k - i) = k by omega] at h4
                refine sS_ ?_
                refine R.sls ttok i k rfl rfl rfl rfl (by kernel_rfl) ⟨_, _, rfl, rfl⟩ ⟨_, _, rfl, rfl⟩ hik (by omega) ?_
                obtain ⟨q, hqq⟩ : ∃ q, s.extract i k = q := ⟨_, rfl⟩
                have hq2 : q = strOf ((t.drop i).take (k - i)) := strB_inj (by rw [← hqq, extract_mid, ht]; rfl)
                rw [hqq]
                refine sS_ ?_
                refine R.app (xs := rds W) (news := rds [(q, false)]) ttok (fun c => tWR (W ++ [(q, false)]) c) rfl rfl (dstRd rfl) (SrcA.cells rfl rfl) (asRd _ _ _ (rds_app _ _).symm) rfl rfl rfl rfl rfl rfl (by decide) rfl rfl rfl (by kernel_rfl) hc' (by show (W.length + 1) * 24 ≤ _; omega) (by show W.length + 1 ≤ _; omega) fun cB hB hB2 => ?_
                have hlW : (W ++ [(q, false)]).length = W.length + 1 := by simp
                rw [← hlW] at hB ⊢
                refine sS_ ?_
                exact X.back [(0, 2)] (k, W ++ [(q, false)], cB) ⟨hks, by dsimp only; omega, hB, hB2, by
                  rw [h4, Option.map_map]
                  congr 1
                  funext ws
                  show W ++ wsOf (((t.drop i).take (k - i), false) :: ws) = W ++ [(q, false)] ++ wsOf ws
                  rw [List.append_assoc, hq2]
                  rfl⟩ (by dsimp only; omega) rfl hS7_ hS5_ rfl (fun _ h => h)
              · rw [decide_eq_true (show (((d.toNat : Nat) : Int) ≠ 32) from fun h => k32 ((hdv 32).1 h))]
                refine sS_ ?_
                refine R.sx ttok (k) rfl rfl rfl rfl (by kernel_rfl) (by omega) (by show _ < (strB s).length; rw [ht]; omega) ?_
                rw [show s.data.toList.getD (k) 0 = d by rw [← hd, ← ht]; rfl]
                refine sS_ ?_
                by_cases k9 : d = 9
                · rw [decide_eq_false (show ¬ (((d.toNat : Nat) : Int) ≠ 9) from fun h => h ((hdv 9).2 k9))]
                  have hgd : gapC (t.getD k 0) = true := by rw [hd, k9]; rfl
                  have hw2 : k - i = (t.drop i).length ∨ gapC ((t.drop i).getD (k - i) 0) = true := .inr (by rw [hdl, show i + (k - i) = k by omega]; exact hgd)
                  have hN : wordN (t.drop i) = k - i := wordN_at (by rw [List.length_drop]; omega) (fun j hj => by rw [hdl]; exact hgk (i + j) (by omega) (by omega)) hw2
                  have hki : i < k := by
                    rcases Nat.lt_or_ge i k with h | h
                    · exact h
                    · exfalso
                      obtain rfl : k = i := by omega
                      (rw [hgd] at hg0; cases hg0)
                  rw [hN, List.drop_drop, show i + (k - i) = k by omega] at h4
                  refine sS_ ?_
                  refine R.sls ttok i k rfl rfl rfl rfl (by kernel_rfl) ⟨_, _, rfl, rfl⟩ ⟨_, _, rfl, rfl⟩ hik (by omega) ?_
                  obtain ⟨q, hqq⟩ : ∃ q, s.extract i k = q := ⟨_, rfl⟩
                  have hq2 : q = strOf ((t.drop i).take (k - i)) := strB_inj (by rw [← hqq, extract_mid, ht]; rfl)
                  rw [hqq]
                  refine sS_ ?_
                  refine R.app (xs := rds W) (news := rds [(q, false)]) ttok (fun c => tWR (W ++ [(q, false)]) c) rfl rfl (dstRd rfl) (SrcA.cells rfl rfl) (asRd _ _ _ (rds_app _ _).symm) rfl rfl rfl rfl rfl rfl (by decide) rfl rfl rfl (by kernel_rfl) hc' (by show (W.length + 1) * 24 ≤ _; omega) (by show W.length + 1 ≤ _; omega) fun cB hB hB2 => ?_
                  have hlW : (W ++ [(q, false)]).length = W.length + 1 := by simp
                  rw [← hlW] at hB ⊢
                  refine sS_ ?_
                  exact X.back [(0, 2)] (k, W ++ [(q, false)], cB) ⟨hks, by dsimp only; omega, hB, hB2, by
                    rw [h4, Option.map_map]
                    congr 1
                    funext ws
                    show W ++ wsOf (((t.drop i).take (k - i), false) :: ws) = W ++ [(q, false)] ++ wsOf ws
                    rw [List.append_assoc, hq2]
                    rfl⟩ (by dsimp only; omega) rfl hS7_ hS5_ rfl (fun _ h => h)
                · rw [decide_eq_true (show (((d.toNat : Nat) : Int) ≠ 9) from fun h => k9 ((hdv 9).1 h))]
                  refine sS_ ?_
                  refine R.sx ttok (k) rfl rfl rfl rfl (by kernel_rfl) (by omega) (by show _ < (strB s).length; rw [ht]; omega) ?_
                  rw [show s.data.toList.getD (k) 0 = d by rw [← hd, ← ht]; rfl]
                  refine sS_ ?_
                  by_cases k35 : d = 35
                  · rw [decide_eq_false (show ¬ (((d.toNat : Nat) : Int) ≠ 35) from fun h => h ((hdv 35).2 k35))]
                    have hgd : gapC (t.getD k 0) = true := by rw [hd, k35]; rfl
                    have hw2 : k - i = (t.drop i).length ∨ gapC ((t.drop i).getD (k - i) 0) = true := .inr (by rw [hdl, show i + (k - i) = k by omega]; exact hgd)
                    have hN : wordN (t.drop i) = k - i := wordN_at (by rw [List.length_drop]; omega) (fun j hj => by rw [hdl]; exact hgk (i + j) (by omega) (by omega)) hw2
                    have hki : i < k := by
                      rcases Nat.lt_or_ge i k with h | h
                      · exact h
                      · exfalso
                        obtain rfl : k = i := by omega
                        (rw [hgd] at hg0; cases hg0)
                    rw [hN, List.drop_drop, show i + (k - i) = k by omega] at h4
                    refine sS_ ?_
                    refine R.sls ttok i k rfl rfl rfl rfl (by kernel_rfl) ⟨_, _, rfl, rfl⟩ ⟨_, _, rfl, rfl⟩ hik (by omega) ?_
                    obtain ⟨q, hqq⟩ : ∃ q, s.extract i k = q := ⟨_, rfl⟩
                    have hq2 : q = strOf ((t.drop i).take (k - i)) := strB_inj (by rw [← hqq, extract_mid, ht]; rfl)
                    rw [hqq]
                    refine sS_ ?_
                    refine R.app (xs := rds W) (news := rds [(q, false)]) ttok (fun c => tWR (W ++ [(q, false)]) c) rfl rfl (dstRd rfl) (SrcA.cells rfl rfl) (asRd _ _ _ (rds_app _ _).symm) rfl rfl rfl rfl rfl rfl (by decide) rfl rfl rfl (by kernel_rfl) hc' (by show (W.length + 1) * 24 ≤ _; omega) (by show W.length + 1 ≤ _; omega) fun cB hB hB2 => ?_
                    have hlW : (W ++ [(q, false)]).length = W.length + 1 := by simp
                    rw [← hlW] at hB ⊢
                    refine sS_ ?_
                    exact X.back [(0, 2)] (k, W ++ [(q, false)], cB) ⟨hks, by dsimp only; omega, hB, hB2, by
                      rw [h4, Option.map_map]
                      congr 1
                      funext ws
                      show W ++ wsOf (((t.drop i).take (k - i), false) :: ws) = W ++ [(q, false)] ++ wsOf ws
                      rw [List.append_assoc, hq2]
                      rfl⟩ (by dsimp only; omega) rfl hS7_ hS5_ rfl (fun _ h => h)
                  · rw [decide_eq_true (show (((d.toNat : Nat) : Int) ≠ 35) from fun h => k35 ((hdv 35).1 h))]
                    refine sS_ ?_
                    exact X.back [] (k + 1) ⟨by omega, hkl, fun j h1 h2 => (by
                      rcases Nat.lt_or_ge j k with h | h
                      · exact hgk j h1 h
                      · obtain rfl : j = k := by omega
                        rw [hd]; exact gapC_ne k32 k9 k35)⟩ (by omega) rfl hS7_ hS5_ rfl (fun _ h => h)
            · rw [decide_eq_false (show ¬ ((k : Nat) : Int) < (s.size : Nat) by omega)]
              have hw2 : k - i = (t.drop i).length ∨ gapC ((t.drop i).getD (k - i) 0) = true := .inl (by rw [List.length_drop]; omega)
              have hN : wordN (t.drop i) = k - i := wordN_at (by rw [List.length_drop]; omega) (fun j hj => by rw [hdl]; exact hgk (i + j) (by omega) (by omega)) hw2
              have hki : i < k := by
                rcases Nat.lt_or_ge i k with h | h
                · exact h
                · exfalso
                  obtain rfl : k = i := by omega
                  omega
              rw [hN, List.drop_drop, show i + (k - i) = k by omega] at h4
              refine sS_ ?_
              refine R.sls ttok i k rfl rfl rfl rfl (by kernel_rfl) ⟨_, _, rfl, rfl⟩ ⟨_, _, rfl, rfl⟩ hik (by omega) ?_
              obtain ⟨q, hqq⟩ : ∃ q, s.extract i k = q := ⟨_, rfl⟩
              have hq2 : q = strOf ((t.drop i).take (k - i)) := strB_inj (by rw [← hqq, extract_mid, ht]; rfl)
              rw [hqq]
              refine sS_ ?_
              refine R.app (xs := rds W) (news := rds [(q, false)]) ttok (fun c => tWR (W ++ [(q, false)]) c) rfl rfl (dstRd rfl) (SrcA.cells rfl rfl) (asRd _ _ _ (rds_app _ _).symm) rfl rfl rfl rfl rfl rfl (by decide) rfl rfl rfl (by kernel_rfl) hc' (by show (W.length + 1) * 24 ≤ _; omega) (by show W.length + 1 ≤ _; omega) fun cB hB hB2 => ?_
              have hlW : (W ++ [(q, false)]).length = W.length + 1 := by simp
              rw [← hlW] at hB ⊢
              refine sS_ ?_
              exact X.back [(0, 2)] (k, W ++ [(q, false)], cB) ⟨hks, by dsimp only; omega, hB, hB2, by
                rw [h4, Option.map_map]
                congr 1
                funext ws
                show W ++ wsOf (((t.drop i).take (k - i), false) :: ws) = W ++ [(q, false)] ++ wsOf ws
                rw [List.append_assoc, hq2]
                rfl⟩ (by dsimp only; omega) rfl hS7_ hS5_ rfl (fun _ h => h)
  · rw [decide_eq_false (show ¬ ((i : Nat) : Int) < (s.size : Nat) by omega)]
    have hG : wordsG t ⟨W, c, true⟩ := endG (by
      rw [h4, List.drop_eq_nil_of_le (by omega), wordsP_end (.inl rfl)]
      rfl) hc hc' (by omega)
    refine sS_ ?_
    refine X.fin ttok ⟨W, c, true⟩ [] hG rfl rfl rfl hS4_ _ (by first | exact .inl rfl | exact .inr rfl)
end Go.Proofs.YtaieficgifingaaGreatDoor
namespace Go.Proofs.YtaieficgifingaaGreatDoor
set_option linter.unusedVariables false
set_option linter.unusedSimpArgs false
open Go.RowKit
set_option maxRecDepth 100000
set_option maxHeartbeats 8000000
theorem natFrom_ge (l : List UInt8) : ∀ a, a * 10 ^ l.length ≤ natFrom a l := by
  induction l with
  | nil => intro a; simp [natFrom]
  | cons c r ih =>
    intro a
    have h := ih (a * 10 + (c.toNat - 48))
    have e : natFrom a (c :: r) = natFrom (a * 10 + (c.toNat - 48)) r := rfl
    rw [e, List.length_cons, Nat.pow_succ]
    refine Nat.le_trans ?_ h
    rw [Nat.add_mul, show a * (10 ^ r.length * 10) = a * 10 * 10 ^ r.length by rw [Nat.mul_assoc, Nat.mul_comm 10]]
    omega
theorem natFrom_le (l : List UInt8) (a : Nat) : a ≤ natFrom a l := by
  have := natFrom_ge l a
  have h1 : 1 ≤ 10 ^ l.length := Nat.one_le_pow _ _ (by decide)
  have : a * 1 ≤ a * 10 ^ l.length := Nat.mul_le_mul_left a h1
  omega
theorem uintM {l : List UInt8} (h : l.all digB = true) : ∀ a, a ≤ 18446744073709551615 → Lib.parseUintM (2 ^ 64 - 1) a l = if natFrom a l ≤ 18446744073709551615 then .ok (natFrom a l) else .range := by
  induction l with
  | nil => intro a ha; unfold Lib.parseUintM; rw [if_pos (show natFrom a [] ≤ _ from ha)]; rfl
  | cons c r ih =>
    intro a ha
    simp only [List.all_cons, Bool.and_eq_true] at h
    have hc := h.1
    unfold digB at hc
    simp only [Bool.and_eq_true, decide_eq_true_eq] at hc
    unfold Lib.parseUintM
    have e : natFrom a (c :: r) = natFrom (a * 10 + (c.toNat - 48)) r := rfl
    have hge := natFrom_le r (a * 10 + (c.toNat - 48))
    rw [if_pos hc, e]
    split
    · rw [if_neg (by omega)]
    · split
      · rename_i h2
        rw [if_neg (by omega)]
      · exact ih h.2 _ (by omega)
theorem int_dig {l : List UInt8} (h : digS (tailM l) = true) : Lib.parseIntB 64 l = if minB l = true then (if natS (tailM l) ≤ 9223372036854775808 then .ok (-(natS (tailM l) : Nat)) else .range) else (if natS (tailM l) ≤ 9223372036854775807 then .ok (natS (tailM l) : Nat) else .range) := by
  obtain ⟨h1, h2⟩ := digS_all h
  cases l with
  | nil => exact absurd rfl h2
  | cons c r =>
    unfold Lib.parseIntB
    by_cases hc : c = 45
    · subst hc
      have ht : tailM (45 :: r) = r := rfl
      have hm : minB (45 :: r) = true := rfl
      rw [ht] at h1 h2 ⊢
      rw [hm, if_pos rfl]
      dsimp only
      rw [if_pos (.inr rfl)]
      unfold Lib.parseUintB
      rw [if_neg h2, uintM h1 0 (Nat.zero_le _), show natFrom 0 r = natS r from rfl]
      by_cases g : natS r ≤ 18446744073709551615
      · rw [if_pos g]
        dsimp only
        by_cases g2 : natS r ≤ 9223372036854775808
        · rw [if_pos g2, if_neg (by simp), if_neg (by omega), if_pos (show UInt8.toNat 45 = 45 from rfl)]
        · rw [if_neg g2, if_neg (by simp), if_pos ⟨rfl, by omega⟩]
      · rw [if_neg g, if_neg (by omega)]
    · have hm : minB (c :: r) = false := by
        unfold minB
        simp [hc]
      have ht : tailM (c :: r) = c :: r := by
        unfold tailM
        rw [hm, if_neg Bool.false_ne_true]
      rw [ht] at h1 h2 ⊢
      have hd : digB c = true := by
        simp only [List.all_cons, Bool.and_eq_true] at h1
        exact h1.1
      unfold digB at hd
      simp only [Bool.and_eq_true, decide_eq_true_eq] at hd
      rw [hm, if_neg Bool.false_ne_true]
      dsimp only
      rw [if_neg (by omega)]
      unfold Lib.parseUintB
      rw [if_neg h2, uintM h1 0 (Nat.zero_le _), show natFrom 0 (c :: r) = natS (c :: r) from rfl]
      have hn : ¬ (c.toNat = 45) := by omega
      by_cases g : natS (c :: r) ≤ 18446744073709551615
      · rw [if_pos g]
        dsimp only
        by_cases g2 : natS (c :: r) ≤ 9223372036854775807
        · rw [if_pos g2, if_neg (by omega), if_neg (fun h => hn h.1), if_neg hn]
        · rw [if_neg g2, if_pos ⟨hn, by omega⟩]
      · rw [if_neg g, if_neg (by omega)]
/-- is a word an integer? -/
def irB (t : ByteArray) (q : Bool) : Bool := !q && digS (tailM (strB t)) && !(minB (strB t) && decide (tailM (strB t) = [48])) && okP (strB t)
theorem digS_len {l : List UInt8} (h : digS l = true) (hl : 19 < l.length) : 9223372036854775808 < natS l := by
  unfold digS at h
  simp only [Bool.and_eq_true, Bool.or_eq_true, decide_eq_true_eq] at h
  obtain ⟨⟨h1, h2⟩, h3⟩ := h
  cases l with
  | nil => simp at hl
  | cons c r =>
    have hc : c ≠ 48 := by
      rcases h3 with h3 | h3
      · exact h3
      · rw [h3] at hl; simp at hl
    simp only [List.all_cons, Bool.and_eq_true] at h1
    have hd := h1.1
    unfold digB at hd
    simp only [Bool.and_eq_true, decide_eq_true_eq] at hd
    have hc' : c.toNat ≠ 48 := fun e => hc (UInt8.toNat_inj.1 e)
    have e : natS (c :: r) = natFrom (0 * 10 + (c.toNat - 48)) r := rfl
    have hg := natFrom_ge r (0 * 10 + (c.toNat - 48))
    rw [← e] at hg
    have hp : 10 ^ 19 ≤ 10 ^ r.length := Nat.pow_le_pow_right (by decide) (by rw [List.length_cons] at hl; omega)
    have hm : 1 * 10 ^ r.length ≤ (0 * 10 + (c.toNat - 48)) * 10 ^ r.length := Nat.mul_le_mul_right _ (by omega)
    omega
theorem digS_pos {l : List UInt8} (h : digS l = true) (hl : l ≠ [48]) : 1 ≤ natS l := by
  unfold digS at h
  simp only [Bool.and_eq_true, Bool.or_eq_true, decide_eq_true_eq] at h
  obtain ⟨⟨h1, h2⟩, h3⟩ := h
  cases l with
  | nil => simp at h2
  | cons c r =>
    have hc : c ≠ 48 := h3.resolve_right hl
    simp only [List.all_cons, Bool.and_eq_true] at h1
    have hd := h1.1
    unfold digB at hd
    simp only [Bool.and_eq_true, decide_eq_true_eq] at hd
    have hc' : c.toNat ≠ 48 := fun e => hc (UInt8.toNat_inj.1 e)
    have e : natS (c :: r) = natFrom (0 * 10 + (c.toNat - 48)) r := rfl
    have := natFrom_le r (0 * 10 + (c.toNat - 48))
    omega
theorem natS_lt19 {l : List UInt8} (h : l.all digB = true) (h9 : l.length ≤ 19) : natS l < 10000000000000000000 := by
  have := natFrom_lt h 0
  have h2 : 10 ^ l.length ≤ 10 ^ 19 := Nat.pow_le_pow_right (by decide) h9
  have h3 : natS l < (0 + 1) * 10 ^ l.length := this
  omega
end Go.Proofs.YtaieficgifingaaGreatDoor
