/- Texts of the claim, merged: only what the theorem needs. -/
import Derived.Test.YtaieficgifingaaGreatDoorPPp
import Derived.OrdersIn
namespace Go.Proofs.YtaieficgifingaaGreatDoor
set_option linter.unusedVariables false
set_option linter.unusedSimpArgs false
set_option linter.unusedSectionVars false
open Go.RowKit
theorem opsIn {P : Program} {lb : Nat} {l : List Oper} {Q : Exit → Act → World → Prop} (hQ : ¬ LetsOut Q) (hd : ∀ o ∈ l, ∀ c, o.op ≠ .defer c) : ∀ (ord : List Nat) (a : Act) (w : World), wpOps P l.toArray Q ord a w → wpOpsIn (Fence.wide.inRound lb) 0 P l.toArray Q ord a w
  | [], _, _, h => h
  | k :: r, a, w, h => by
    have ih := opsIn (P := P) (lb := lb) hQ hd r
    rw [wpOps_cons] at h
    rw [wpOpsIn_cons]
    unfold wpOp at h
    unfold wpOpIn
    cases ho : l.toArray[k]? with
    | none => rw [ho] at h; exact ih _ _ h
    | some o =>
      rw [ho] at h
      dsimp only at h ⊢
      have hm : o ∈ l := List.mem_of_getElem? (i := k) (by simpa using ho)
      by_cases hw : Region.wanted o (yielded l.toArray a.tmps) = true
      · rw [if_pos hw] at h ⊢
        rcases h with h | h
        · exact operIn (hd o hm) ih h
        · exact absurd h.2 hQ
      · rw [if_neg hw] at h ⊢
        exact ⟨fun _ _ => trivial, ih _ _ h⟩
section
variable {P : Program} {lb : Nat} {f : FuncId} {Q : Exit → Act → World → Prop} {E : Base} {n L : Nat} {τ : List (Nat × AV)} {h : List (Nat × AO)} {F : World → Prop} {l : List Oper}
theorem CR.anyhow {id : Nat} (hm : P.follows .mixedOrders = true) (hb : backB l = true) (k : CW P l Q E n L τ h F) (hd : noDefer l = true := by kernel_rfl) (hQ : ¬ LetsOut Q := by rintro ⟨_, _, h⟩; exact h) : CR P lb (.region id l.toArray true) Q E n L τ h F := ⟨fun ρ a w g => by
  refine wpIn_region_draw fun t => ?_
  simp only [Region.schedule, hm, Bool.true_or, if_true]
  have hv : Valid l.toArray (Array.replicate l.length false) (Region.linearise .any l.toArray t) := by
    have := lin_valid (ops := l.toArray) l.toArray.size t (Array.replicate l.toArray.size false) (Nat.le_trans (List.countP_le_length) (by simp))
    simpa [Region.linearise] using this
  refine opsIn hQ (noDefer_get hd) _ _ _ (k.out ρ a _ g.drew _ hv fun j hj => ?_)
  rcases valid_all hb (by simp) hv j hj with h1 | h1
  · simp [hj] at h1
  · exact h1⟩
theorem CA.fact {c : Code} {p : Prop} (hp : ∀ ρ a w, Gam E ρ n L τ h F a w → p) (k : p → CA P f c Q E n L τ h F) : CA P f c Q E n L τ h F := ⟨fun ρ a w g => (k (hp ρ a w g)).out ρ a w g⟩
theorem CA.noneH {c : Code} (l0 : Nat) (xs' : List AV) (o : AO) (ho : ∀ ρ' W, o.Low ρ' (L + 1) ∧ o.holds ρ' none W) (hro : o.isRo = false) {xs : List AV} {T : TypeId} (hv : hk l0 h = some (.cells xs T)) (hb : AV.bds (L + 1) xs' = true) (hc : ∀ ρ : Env, ρ L = Option.none → AV.concs ρ xs' = AV.concs ρ xs)
    (k : CA P f c Q E n (L + 1) τ ((L, o) :: (l0, .cells xs' T) :: h) F) : CA P f c Q E n L τ h F := ⟨fun ρ a w g => k.out _ a w (g.noneH o ho hro l0 xs xs' T hv hb hc)⟩
theorem CA.less {c : Code} (rl : List (Nat × Nat)) (L2 : Nat) (τ2 : List (Nat × AV)) (h2 : List (Nat × AO)) (F2 : World → Prop) (hb : rnB E.N L2 L rl = true) (ht : HasT (rnF rl) L2 τ τ2) (hh : HasH (rnF rl) L2 h h2) (hnd : nodupB ((h2.map (·.1)).map (rnF rl)) = true) (hF : ∀ w, F w → F2 w)
    (k : CA P f c Q E n L2 τ2 h2 F2) : CA P f c Q E n L τ h F := ⟨fun ρ a w g => by
  obtain ⟨h1, h3, h4⟩ := rn_ok hb
  exact k.out _ a w (g.imp (rnF rl) L2 τ2 h2 F2 h1 h3 h4 ht hh hnd hF)⟩
theorem CA.frzP {c : Code} {H0 : List AO} {R0 : Env} {W0 : World} {FS0 fs : Fam} (rw' : Bool) (l : Nat) {b : Nat} {o o' : AO} (hl : hk l h = some o) (hro : o.isRo = false) (hlN : l < E.N) (hb : E.ρ l = some b) (ho : ∀ (ρ : Env) ob w, w.heap[b]? = some ob → o.holds ρ (some b) w → Is b ob o')
    (k : ∀ ob, Is b ob o' → (∀ p ∈ fs, p.b ≠ b) → CA P f c Q E n L τ ((l, .gone) :: h) (FF H0 R0 W0 FS0 (⟨rw', b, ob⟩ :: fs))) : CA P f c Q E n L τ h (FF H0 R0 W0 FS0 fs) := ⟨fun ρ a w g => by
  obtain ⟨ob, h1, g'⟩ := g.frzP rw' l hl hro hlN hb (ho ρ)
  exact (k ob h1.1 h1.2).out ρ a w g'⟩
end
end Go.Proofs.YtaieficgifingaaGreatDoor
namespace Go.Proofs.YtaieficgifingaaGreatDoor
set_option linter.unusedVariables false
set_option linter.unusedSimpArgs false
open Go.RowKit
set_option maxRecDepth 100000
set_option maxHeartbeats 4000000
structure PR where
  head : Nat
  ended : Bool
  nm : ByteArray
  ar : Nat
  cd : List Ins
  ln : List Nat
def pr0 : PR := ⟨0, false, noT0, 0, [], []⟩
def procT : ByteArray := ⟨#[112, 114, 111, 99]⟩
def endT : ByteArray := ⟨#[101, 110, 100]⟩
/-- the words of a procedure's first line -/
def isProc (W : List WD) : Bool := decide (W.length = 3) && (decide (strB (W.getD 0 wdD).1 = strB procT) && !(W.getD 0 wdD).2) && !(W.getD 1 wdD).2
/-- what words of line n say -/
def stepW (p : PR) (n : Nat) (W : List WD) : Option PR :=
  if W = [] then some p
  else if p.ended = true then none
  else if p.head = 0 then
    if isProc W = true then
      if numB (W.getD 2 wdD).1 (W.getD 2 wdD).2 = true then some { p with nm := (W.getD 1 wdD).1, ar := numV (W.getD 2 wdD).1 (W.getD 2 wdD).2, head := n } else none
    else none
  else if isP W endT = true then some { p with ended := true }
  else match insP W with
    | some x => some { p with cd := p.cd ++ [x], ln := p.ln ++ [n] }
    | none => none
def stepL (p : PR) (n : Nat) (l : List UInt8) : Option PR := match wordsP l with
  | none => none
  | some ws => stepW p n (wsOf ws)
theorem lineB_lt {l : List UInt8} (h : l ≠ []) : (lineB l).length < l.length := by
  unfold lineB
  rw [List.length_drop]
  have := List.length_pos_iff.2 h
  omega
def linesL (l : List UInt8) : List (List UInt8) := if h : l = [] then [] else lineA l :: linesL (lineB l)
termination_by l.length
decreasing_by exact lineB_lt h
theorem linesL_nil : linesL [] = [] := by rw [linesL]; exact dif_pos rfl
theorem linesL_cons {l : List UInt8} (h : l ≠ []) : linesL l = lineA l :: linesL (lineB l) := by rw [linesL]; exact dif_neg h
/-- lines from number n on; .error: the line that says nothing -/
def runL : List (List UInt8) → Nat → PR → Except Nat PR
  | [], _, p => .ok p
  | l :: r, n, p => match stepL p n l with
    | none => .error n
    | some p' => runL r (n + 1) p'
def endP (p : PR) (k : Nat) : Except (Int × Int) PR :=
  if p.ended = false then .error (((max k 1 : Nat) : Int), 17)
  else if (chkP p.nm p.ar p.cd).2 = 0 then .ok p
  else .error (if 0 ≤ (chkP p.nm p.ar p.cd).1 then ((p.ln.getD (chkP p.nm p.ar p.cd).1.toNat 0 : Nat) : Int) else ((p.head : Nat) : Int), (chkP p.nm p.ar p.cd).2)
/-- a text: the procedure, or the line and the error -/
def parseP (t : List UInt8) : Except (Int × Int) PR := match runL (linesL t) 1 pr0 with
  | .error n => .error (((n : Nat) : Int), 17)
  | .ok p => endP p (linesL t).length
theorem run_err {l : List UInt8} {r : List (List UInt8)} {n : Nat} {p : PR} (h : stepL p n l = none) : runL (l :: r) n p = .error n := by
  unfold runL
  rw [h]
theorem run_on {l : List UInt8} {r : List (List UInt8)} {n : Nat} {p p' : PR} (h : stepL p n l = some p') : runL (l :: r) n p = runL r (n + 1) p' := by
  rw [runL, h]
theorem chkL_lt {ar : Int} {L : List Ins} : (chkL ar L).2 ≠ 0 → 0 ≤ (chkL ar L).1 ∧ (chkL ar L).1.toNat < L.length := by
  unfold chkL
  split
  · rename_i i h
    intro _
    have := List.mem_range.1 (List.find?_range_eq_some.1 h).2.1
    exact ⟨by simp, by simpa using this⟩
  · intro h; exact absurd rfl h
theorem chkP_lt {nm : ByteArray} {ar : Int} {L : List Ins} : (chkP nm ar L).2 ≠ 0 → 0 ≤ (chkP nm ar L).1 → (chkP nm ar L).1.toNat < L.length := by
  unfold chkP
  repeat' split
  · intro _ h; exact absurd h (by decide)
  · intro _ h; exact absurd h (by decide)
  · intro _ h; exact absurd h (by decide)
  · intro h _; exact (chkL_lt h).2
theorem quoteP_sz : ∀ (l acc : List UInt8) (p : List UInt8 × List UInt8), quoteP acc l = some p → p.1.length + p.2.length ≤ acc.length + l.length := fun l => by
  induction hl : l.length using Nat.strongRecOn generalizing l with
  | _ k ih =>
    intro acc p h
    match l, hl, h with
    | [], _, h => rw [quoteP_nil] at h; cases h
    | c :: r, hl, h =>
      rw [List.length_cons] at hl
      by_cases h1 : c = 34
      · subst h1
        rw [quoteP_end] at h
        split at h
        · cases h; show acc.length + r.length ≤ acc.length + k; omega
        · cases h
      · by_cases h2 : c.toNat < 32 ∨ 126 < c.toNat
        · rw [quoteP_bad h1 h2] at h; cases h
        · by_cases h3 : c = 92
          · subst h3
            match r, hl, h with
            | [], _, h => rw [quoteP_esc0] at h; cases h
            | d :: r2, hl, h =>
              rw [List.length_cons] at hl
              by_cases h4 : d = 34 ∨ d = 92
              · rw [quoteP_esc h4] at h
                have := ih r2.length (by omega) r2 rfl _ _ h
                simp only [List.length_append, List.length_cons, List.length_nil] at this
                omega
              · by_cases h5 : d ≠ 120 ∨ r2.length < 2
                · rw [quoteP_no h4 h5] at h; cases h
                · match r2, hl, h, h5 with
                  | [], _, _, h5 => exact absurd (.inr (by decide)) h5
                  | [_], _, _, h5 => exact absurd (.inr (by simp)) h5
                  | x1 :: x2 :: r3, hl, h, h5 =>
                    have hd : d = 120 := Classical.byContradiction fun e => h5 (.inl e)
                    rw [hd, quoteP_hex] at h
                    rw [List.length_cons, List.length_cons] at hl
                    split at h
                    · have := ih r3.length (by omega) r3 rfl _ _ h
                      simp only [List.length_append, List.length_cons, List.length_nil] at this
                      omega
                    · cases h
          · rw [quoteP_one h1 h2 h3] at h
            have := ih r.length (by omega) r rfl _ _ h
            simp only [List.length_append, List.length_cons, List.length_nil] at this
            omega
theorem wordsP_sz : ∀ (k : Nat) (l : List UInt8), l.length ≤ k → ∀ ws, wordsP l = some ws → ∀ p ∈ ws, p.1.length ≤ l.length := fun k => by
  induction k with
  | zero =>
    intro l hl ws h p hp
    obtain rfl : l = [] := List.length_eq_zero_iff.1 (by omega)
    rw [wordsP_end (.inl rfl)] at h
    cases h
    cases hp
  | succ k ih =>
    intro l hl ws h p hp
    have htl := trim_le l
    cases ht : Lib.trimLeftS l [32, 9] with
    | nil =>
      rw [wordsP_end (.inl ht)] at h
      cases h
      cases hp
    | cons b r =>
      rw [ht, List.length_cons] at htl
      by_cases h35 : b = 35
      · rw [wordsP_end (.inr ⟨r, by rw [ht, h35]⟩)] at h
        cases h
        cases hp
      · by_cases h34 : b = 34
        · rw [wordsP_q (r := r) (by rw [ht, h34])] at h
          cases hq : quoteP [] r with
          | none => rw [hq] at h; cases h
          | some q =>
            rw [hq] at h
            have hs := quoteP_sz r [] q hq
            rw [List.length_nil, Nat.zero_add] at hs
            obtain ⟨ws', h1, rfl⟩ := Option.map_eq_some_iff.1 h
            rcases List.mem_cons.1 hp with rfl | hp
            · show q.1.length ≤ _; omega
            · have := ih q.2 (by omega) ws' h1 p hp
              omega
        · rw [wordsP_w ht h35 h34] at h
          have hpos := wordN_pos (r := r) (trim_head ht) h35
          obtain ⟨ws', h1, rfl⟩ := Option.map_eq_some_iff.1 h
          rcases List.mem_cons.1 hp with rfl | hp
          · show ((b :: r).take _).length ≤ _
            rw [List.length_take, List.length_cons]
            omega
          · have hd : ((b :: r).drop (wordN (b :: r))).length ≤ r.length := by rw [List.length_drop, List.length_cons]; omega
            have := ih _ (by omega) ws' h1 p hp
            omega
theorem wsOf_sz {l : List UInt8} {ws : List (List UInt8 × Bool)} (h : wordsP l = some ws) : ∀ p ∈ wsOf ws, p.1.size ≤ l.length := fun p hp => by
  obtain ⟨q, hq, rfl⟩ := List.mem_map.1 hp
  have := wordsP_sz l.length l (Nat.le_refl _) ws h q hq
  show (strOf q.1).size ≤ _
  rw [← strB_size]
  exact this
end Go.Proofs.YtaieficgifingaaGreatDoor
namespace Go.Proofs.YtaieficgifingaaGreatDoor
set_option linter.unusedVariables false
set_option linter.unusedSimpArgs false
open Go.RowKit
set_option maxRecDepth 100000
set_option maxHeartbeats 8000000
abbrev FK.av3 : FK → List AV
  | .a => [.fn 86 [.ptr 3 0 0 0], .fn 88 [.ptr 3 0 0 0]]
  | .b => [.fn 86 [.ptr 4 0 0 0], .fn 88 [.ptr 4 0 0 0]]
  | .c => [.fn 86 [.ptr 5 0 0 0], .fn 88 [.ptr 5 0 0 0]]
  | .n => [.fn 89 [.ptr 6 0 0 0], .fn 90 [.ptr 6 0 0 0]]
  | .k => [.fn 89 [.ptr 7 0 0 0], .fn 90 [.ptr 7 0 0 0]]
  | .s => [.fn 47 [.ptr 9 0 0 0], .fn 48 [.ptr 9 0 0 0]]
  | .v => [.fn 49 [], .fn 51 []]
def shRows3 : List AV := [.raw (.string ⟨#[115, 101, 116]⟩), .raw (.int .i64 1), .sl 10 2 0 2 2, .raw (.string ⟨#[97, 114, 103]⟩), .raw (.int .i64 2), .sl 11 2 0 2 2, .raw (.string ⟨#[103, 101, 116]⟩), .raw (.int .i64 3), .sl 12 2 0 2 2, .raw (.string ⟨#[110, 101, 120, 116]⟩), .raw (.int .i64 14), .sl 13 2 0 2 2, .raw (.string ⟨#[112, 117, 116]⟩), .raw (.int .i64 4), .sl 14 2 0 2 2, .raw (.string ⟨#[100, 101, 108]⟩), .raw (.int .i64 5), .sl 15 2 0 1 1, .raw (.string ⟨#[116, 101, 108, 108]⟩), .raw (.int .i64 15), .sl 16 2 0 1 1, .raw (.string ⟨#[97, 100, 100]⟩), .raw (.int .i64 6), .sl 17 2 0 3 3, .raw (.string ⟨#[115, 117, 98]⟩), .raw (.int .i64 7), .sl 18 2 0 3 3, .raw (.string ⟨#[109, 117, 108]⟩), .raw (.int .i64 8), .sl 19 2 0 3 3, .raw (.string ⟨#[106, 111, 105, 110]⟩), .raw (.int .i64 9), .sl 20 2 0 3 3, .raw (.string ⟨#[110, 101, 101, 100]⟩), .raw (.int .i64 10), .sl 21 2 0 3 3, .raw (.string ⟨#[115, 107, 105, 112]⟩), .raw (.int .i64 11), .sl 22 2 0 4 4, .raw (.string ⟨#[115, 117, 109]⟩), .raw (.int .i64 12), .sl 23 2 0 4 4, .raw (.string ⟨#[99, 111, 117, 110, 116]⟩), .raw (.int .i64 13), .sl 24 2 0 4 4, .raw (.string ⟨#[115, 116, 111, 112]⟩), .raw (.int .i64 16), .raw (.slice none 0 0)]
abbrev tI (l : List Ins) (c : Nat) : AO := .tab 8 l.length c (insF l) inT
def inN (l : List Nat) (i : Nat) : List AV := [.raw (.int .i64 (l.getD i 0 : Nat))]
abbrev tN (l : List Nat) (c : Nat) : AO := .tab 1 l.length c (inN l) 3
structure PS where
  rem : ByteArray
  num : Nat
  p : PR
  last : Nat
  c : Nat
  c2 : Nat
  x : Int
abbrev hsP (s : PS) : List (Nat × AO) := [(0, .cells (prA s.p.nm (s.p.ar : Nat) (.sl 32 8 0 s.p.cd.length s.c)) 25), (1, .cells [.raw (.int .i64 0)] 3), (2, .cells [.raw (.int .i64 0)] 26), (3, .cells [.fn 41 []] ofT), (4, .cells [.fn 44 []] ofT), (5, .cells [.fn 45 []] ofT), (6, .cells [.fn 42 []] ofT), (7, .cells [.fn 41 []] ofT), (8, .cells [.raw (.string ⟨#[]⟩), .raw (.string ⟨#[61]⟩), .raw (.string ⟨#[33, 61]⟩), .raw (.string ⟨#[60]⟩), .raw (.string ⟨#[60, 61]⟩), .raw (.string ⟨#[62]⟩), .raw (.string ⟨#[62, 61]⟩)] 9), (9, .cells [.sl 8 1 0 7 7] 68), (10, .cells (FK.av3 .a ++ FK.av3 .v) fldT), (11, .cells (FK.av3 .a ++ FK.av3 .n) fldT), (12, .cells (FK.av3 .a ++ FK.av3 .b) fldT), (13, .cells (FK.av3 .a ++ FK.av3 .b) fldT), (14, .cells (FK.av3 .a ++ FK.av3 .b) fldT), (15, .cells (FK.av3 .a) fldT), (16, .cells (FK.av3 .a) fldT), (17, .cells (FK.av3 .a ++ FK.av3 .b ++ FK.av3 .c) fldT), (18, .cells (FK.av3 .a ++ FK.av3 .b ++ FK.av3 .c) fldT), (19, .cells (FK.av3 .a ++ FK.av3 .b ++ FK.av3 .c) fldT), (20, .cells (FK.av3 .a ++ FK.av3 .b ++ FK.av3 .c) fldT), (21, .cells (FK.av3 .b ++ FK.av3 .s ++ FK.av3 .c) fldT), (22, .cells (FK.av3 .k ++ FK.av3 .b ++ FK.av3 .s ++ FK.av3 .c) fldT), (23, .cells (FK.av3 .a ++ FK.av3 .b ++ FK.av3 .c ++ FK.av3 .n) fldT), (24, .cells (FK.av3 .a ++ FK.av3 .b ++ FK.av3 .c ++ FK.av3 .n) fldT), (25, .cells shRows3 shpT), (26, .cells [.sl 25 3 0 16 16] 51), (27, .cells [.raw (.int .i64 (s.last : Nat))] 3), (28, .cells [.raw (.int .i64 (s.p.head : Nat))] 3), (29, .cells [.raw (.bool s.p.ended)] 4), (30, .cells [.sl 33 1 0 s.p.ln.length s.c2] 53), (32, tI s.p.cd s.c), (33, tN s.p.ln s.c2)]
abbrev hpP (s : PS) : List (Nat × AO) := [(0, .cells (prA s.p.nm (s.x : Int) (.sl 32 8 0 s.p.cd.length s.c)) 25), (1, .cells [.raw (.int .i64 0)] 3), (2, .cells [.raw (.int .i64 0)] 26), (32, tI s.p.cd s.c)]
def inss (l : List Ins) : List AV := l.flatMap insA
theorem inss_app (a b : List Ins) : inss (a ++ b) = inss a ++ inss b := List.flatMap_append
theorem flat_ins (l : List Ins) : ∀ m off, off + m ≤ l.length → flat (fun i => insF l (off + i)) m = inss ((l.drop off).take m)
  | 0, off, _ => by simp [flat, inss]
  | m + 1, off, h => by
    rw [flat, flat_ins l m off (by omega), List.take_add_one, inss_app]
    congr 1
    have : (l.drop off)[m]? = some (l[off + m]'(by omega)) := by rw [List.getElem?_drop, List.getElem?_eq_getElem]
    rw [this]
    simp [inss, insF, List.getD, show off + m < l.length by omega]
theorem flat_ins0 (l : List Ins) : flat (insF l) l.length = inss l := by
  have := flat_ins l l.length 0 (by omega)
  simpa using this
def nats (l : List Nat) : List AV := l.flatMap fun n => [.raw (.int .i64 (n : Nat))]
theorem nats_app (a b : List Nat) : nats (a ++ b) = nats a ++ nats b := List.flatMap_append
theorem flat_nats (l : List Nat) : ∀ m off, off + m ≤ l.length → flat (fun i => inN l (off + i)) m = nats ((l.drop off).take m)
  | 0, off, _ => by simp [flat, nats]
  | m + 1, off, h => by
    rw [flat, flat_nats l m off (by omega), List.take_add_one, nats_app]
    congr 1
    have : (l.drop off)[m]? = some (l[off + m]'(by omega)) := by rw [List.getElem?_drop, List.getElem?_eq_getElem]
    rw [this]
    simp [nats, inN, List.getD, show off + m < l.length by omega]
theorem flat_nats0 (l : List Nat) : flat (inN l) l.length = nats l := by
  have := flat_nats l l.length 0 (by omega)
  simpa using this
section
variable {E : Base} {n L : Nat} {τ : List (Nat × AV)} {h : List (Nat × AO)} {F : World → Prop}
theorem asIns (T : TypeId) (l : List Ins) (xs : List AV) (hx : xs = inss l) : AsRow (fun c => .tab 8 l.length c (insF l) T) T 8 xs := by
  rw [hx, ← flat_ins0]
  exact AsRow.tab T (by decide) fun i _ => rfl
theorem dstIns {lab cap : Nat} {l : List Ins} {T : TypeId} (hl : hk lab h = some (.tab 8 l.length cap (insF l) T)) : DstA E n L τ h F (.sl lab 8 0 l.length cap) T 8 l.length cap (inss l) [lab] := by
  have := DstA.tab (E := E) (n := n) (L := L) (τ := τ) (F := F) (by decide) hl fun i _ => rfl
  rwa [flat_ins0] at this
theorem asNats (T : TypeId) (l : List Nat) (xs : List AV) (hx : xs = nats l) : AsRow (fun c => .tab 1 l.length c (inN l) T) T 1 xs := by
  rw [hx, ← flat_nats0]
  exact AsRow.tab T (by decide) fun i _ => rfl
theorem dstNats {lab cap : Nat} {l : List Nat} {T : TypeId} (hl : hk lab h = some (.tab 1 l.length cap (inN l) T)) : DstA E n L τ h F (.sl lab 1 0 l.length cap) T 1 l.length cap (nats l) [lab] := by
  have := DstA.tab (E := E) (n := n) (L := L) (τ := τ) (F := F) (by decide) hl fun i _ => rfl
  rwa [flat_nats0] at this
end
abbrev wdT : TypeId := 62
theorem wd_eq (t u : ByteArray) (q b : Bool) : eqA tt 6 wdT (.agg [.raw (.string t), .raw (.bool q)]) (.agg [.raw (.string u), .raw (.bool b)]) = some (decide (strB t = strB u) && ((q == b) && true)) := by
  rw [← eqS]
  rfl
/-- what Parse answers -/
structure PV where
  nm : ByteArray
  ar : Int
  cd : List Ins
  c : Nat
  line : Int
  e : Int
def parseG (t : List UInt8) (r : PV) : Prop := (match parseP t with
  | .ok p => r.nm = p.nm ∧ r.ar = (p.ar : Nat) ∧ r.cd = p.cd ∧ r.line = 0 ∧ r.e = 0
  | .error x => r.nm = noT0 ∧ r.ar = 0 ∧ r.cd = [] ∧ r.line = x.1 ∧ r.e = x.2) ∧ r.cd.length ≤ r.c ∧ r.c ≤ 9223372036854775807
/-- the loop's states -/
structure PS.ok (t : List UInt8) (s : PS) : Prop where
  run : runL (linesL t) 1 pr0 = runL (linesL (strB s.rem)) s.num s.p
  num : 1 ≤ s.num
  cnt : s.num - 1 + (linesL (strB s.rem)).length = (linesL t).length
  sz : s.num + s.rem.size ≤ 100001
  last : s.last = max (s.num - 1) 1
  cd : s.p.cd.length ≤ s.num
  ln : s.p.ln.length = s.p.cd.length
  hd : s.p.head ≤ s.num
  ls : ∀ n ∈ s.p.ln, n ≤ s.num
  c1 : s.p.cd.length ≤ s.c ∧ s.c ≤ 9223372036854775807
  c2 : s.p.ln.length ≤ s.c2 ∧ s.c2 ≤ 9223372036854775807
theorem tab_any {ρ : Env} {r : Option Nat} {w : World} {wd n0 cap : Nat} {f : Nat → List AV} {T : TypeId} (h : (AO.tab wd n0 cap f T).holds ρ r w) : anyO.holds ρ r w := ro_any (tab_ro h)
theorem callParse1 : ∀ args w, (callFunc 17 args).run Tryz.prog w = .ok (.enter 17 args) w := Tryz.call17
theorem parse_spec (text : ByteArray) (hsz : text.size ≤ 100000) (fs : Fam) (hG : Glob fs) (hfc : ∀ x ∈ fs, x.ob.isCells = true) : SpecF Tryz.prog 8 [.raw (.string text)] [] 1 fs (σ := PV) (parseG (strB text)) (fun r => .tup [.agg (prA r.nm r.ar (.sl 0 8 0 r.cd.length r.c)), .raw (.int .i64 r.line), .raw (.int .i64 r.e)]) (fun r => [(0, tI r.cd r.c)]) (fun _ => fs) := by
  refine SpecF.ofA Tryz.func8 rfl Tryz.ntmps8 rfl (bdl_nil _) fun ρ w => ?_
  repeat (first | refine CA.seq ?_ | refine CA.of (C.region ?_) | refine R.zb ttok ?_ | refine R.zu ttok ?_ | refine R.zc ttok ?_ | refine R.za ttok ?_ | refine R.zx ?_ | refine R.zl ttok ?_ | refine R.zs ttok ?_ | refine R.z ttok ?_ | refine R.zk ?_ | refine R.zn ?_ | refine R.done ?_ | refine X.thenA ?_ | refine CA.block ?_)
  refine R.pin fun ρ1 h1 => ?_
  refine R.dfr rfl rfl rfl ?_
  repeat (first | refine CA.seq ?_ | refine CA.of (C.region ?_) | refine R.zb ttok ?_ | refine R.zu ttok ?_ | refine R.zc ttok ?_ | refine R.za ttok ?_ | refine R.zx ?_ | refine R.zl ttok ?_ | refine R.zs ttok ?_ | refine R.z ttok ?_ | refine R.zk ?_ | refine R.zn ?_ | refine R.done ?_ | refine X.thenA ?_ | refine CA.block ?_)
  refine R.cl [] (shapes_spec) Tryz.call18 hS8_ rfl rfl rfl (fun _ => rfl) rfl (by kernel_rfl) fun _ _ => ?_
  repeat (first | refine CA.seq ?_ | refine CA.of (C.region ?_) | refine R.zb ttok ?_ | refine R.zu ttok ?_ | refine R.zc ttok ?_ | refine R.za ttok ?_ | refine R.zx ?_ | refine R.zl ttok ?_ | refine R.zs ttok ?_ | refine R.z ttok ?_ | refine R.zk ?_ | refine R.zn ?_ | refine R.done ?_ | refine X.thenA ?_ | refine CA.block ?_)
  refine R.cl [] (linesF_spec text) Tryz.call19 hS8_ rfl rfl rfl (fun _ => rfl) rfl (by kernel_rfl) fun _ _ => ?_
  repeat (first | refine CA.seq ?_ | refine CA.of (C.region ?_) | refine R.zb ttok ?_ | refine R.zu ttok ?_ | refine R.zc ttok ?_ | refine R.za ttok ?_ | refine R.zx ?_ | refine R.zl ttok ?_ | refine R.zs ttok ?_ | refine R.z ttok ?_ | refine R.zk ?_ | refine R.zn ?_ | refine R.done ?_ | refine X.thenA ?_ | refine CA.block ?_)
  refine CA.pin fun ρ2 h2 => ?_
  change CA Tryz.prog _ _ _ ⟨32, ρ2, [callD 17 (AV.concs ρ1 [.ptr 0 0 0 0, .ptr 1 0 0 0, .ptr 2 0 0 0])]⟩ _ 32 _ _ _
  have hdf : AV.concs ρ1 [.ptr 0 0 0 0, .ptr 1 0 0 0, .ptr 2 0 0 0] = AV.concs ρ2 [.ptr 0 0 0 0, .ptr 1 0 0 0, .ptr 2 0 0 0] := bds_low (L := 3) _ rfl _ _ fun l hl => (h2 l hl).symm
  rw [hdf]
  clear h1 h2 hdf
  refine CA.fact (p := ∃ b, ρ2 31 = some b) (fun ρ a w g => ?_) ?_
  · obtain ⟨b, hb, _⟩ := (g.hp 31 _ rfl).2.2
    exact ⟨b, (g.ex 31 (Nat.le_of_ble_eq_true rfl)).symm.trans hb⟩
  rintro ⟨b0, hb0⟩
  refine CA.noneH 0 [.raw (.string ⟨#[]⟩), .raw (.int .i64 0), .sl 32 8 0 0 0] (tI [] 0) (none_tab _ _ _ _) rfl rfl rfl (fun ρ h => by have h : ρ 32 = none := h; show _ = AV.concs ρ [.raw (.string ⟨#[]⟩), .raw (.int .i64 0), .raw (.slice none 0 0)]; simp [AV.concs, AV.conc, h]) ?_
  refine CA.noneH 30 [.sl 33 1 0 0 0] (tN [] 0) (none_tab _ _ _ _) rfl rfl rfl (fun ρ h => by have h : ρ 33 = none := h; show _ = AV.concs ρ [.raw (.slice none 0 0)]; simp [AV.concs, AV.conc, h]) ?_
  refine CA.frzP (o' := .cells [.raw (.string text)] 9) true 31 rfl rfl (Nat.le_of_ble_eq_true rfl) hb0 (fun ρ ob w h1 h2 ρ' w' h3 => ?_) fun ob hob hne => ?_
  · obtain ⟨b', hb', hc⟩ := h2
    cases hb'
    exact ⟨b0, rfl, by rw [h3, ← h1]; exact hc⟩
  obtain rfl : ob = .cells #[.string text] 9 (0, 0) := by
    obtain ⟨b', hb', hc⟩ := hob ρ { w with heap := Array.replicate (b0 + 1) ob } (by simp)
    cases hb'
    simpa [AV.concs, AV.conc] using hc
  refine CA.less [] 34 [(2, .ptr 0 0 0 0), (3, .ptr 1 0 0 0), (4, .ptr 2 0 0 0), (5, .ptr 26 0 0 0), (6, .ptr 27 0 0 0), (7, .ptr 28 0 0 0), (8, .ptr 29 0 0 0), (9, .ptr 30 0 0 0), (21, .fn 54 [.ptr 31 0 0 0])] (hsP ⟨text, 1, pr0, 1, 0, 0, 0⟩) _ rfl hS9_ hS7_ rfl (fun _ h => h) ?_
  refine CA.rangeP (σ := PS) (α := Nat × ByteArray) (H := hsP) (HP := hpP) (fsI := fun _ => fs) (fsP := fun _ => fs) (u := fun x => .int .i64 (x.1 : Nat)) (v := fun x => .string x.2) Tryz.func8 32 34 b0 (.cells #[.string text] 9 (0, 0)) ⟨text, 1, pr0, 1, 0, 0, 0⟩ (PS.ok (strB text)) (fun s => runL (linesL (strB text)) 1 pr0 = .error s.num) (fun s => [refE ((s.num : Nat) : Int) 17]) _ _ _ _
    rfl (by simp [AV.concs, AV.conc, hb0]) Tryz.call54 ?hI ?hi0 rfl (fun s _ => hfc) (fun s _ => hfc) rfl (fun s _ => rfl) (fun s _ => rfl) (lines_itp (fun s : PS => s.rem) (fun s => s.num) b0 text (by omega)) ?hround ?hdone ?hpanic
  case hI => exact ⟨rfl, Nat.le_refl _, by simp, by show 1 + text.size ≤ _; omega, rfl, Nat.zero_le _, rfl, Nat.zero_le _, fun n hn => by simp [pr0] at hn, ⟨Nat.zero_le _, Nat.zero_le _⟩, ⟨Nat.zero_le _, Nat.zero_le _⟩⟩
  case hi0 => exact ⟨rfl, rfl⟩
  case hround =>
    rintro ρ3 lb D r ob ⟨rem, num, ⟨head, ended, nm, ar, cd, ln⟩, last, c, c2, x0⟩ x hpin hr hpe hlb hlb0 hI ⟨hne0, rfl⟩
    obtain ⟨hrun, hnum, hcnt, hszN, hlast, hcd, hln, hhd, hls, ⟨hc1, hc1'⟩, ⟨hc2, hc2'⟩⟩ := hI
    dsimp only at hne0 hrun hnum hcnt hszN hlast hcd hln hhd hls hc1 hc1' hc2 hc2' ⊢
    rw [linesL_cons hne0] at hrun hcnt
    rw [List.length_cons] at hcnt
    have hblt := lineB_lt hne0
    have hrs := strB_size rem
    obtain ⟨l, hl⟩ : ∃ l, lineA (strB rem) = l := ⟨_, rfl⟩
    have hll : l.length ≤ rem.size := by rw [← hl, ← hrs]; unfold lineA; rw [List.length_take]; omega
    obtain ⟨rem', hrem'⟩ : ∃ rem', strOf (lineB (strB rem)) = rem' := ⟨_, rfl⟩
    have hr' : lineB (strB rem) = strB rem' := by rw [← hrem']; rfl
    have hrs' := strB_size rem'
    rw [hr'] at hrun hcnt hblt
    rw [hl] at hrun ⊢
    have hfac : ∀ y ∈ (dFact D :: ⟨true, b0, ob⟩ :: fs : Fam), FactC lb y := fun y hy => by
      rcases List.mem_cons.1 hy with rfl | hy
      · exact .inr (.inl rfl)
      · rcases List.mem_cons.1 hy with rfl | hy
        · exact .inr (.inr (Ne.symm hlb0))
        · exact .inl (hfc y hy)
    have hfac2 : ∀ y ∈ (⟨true, b0, ob⟩ :: dFact D :: fs : Fam), FactC lb y := fun y hy => hfac y (by simp only [List.mem_cons] at hy ⊢; rcases hy with h | h | h <;> simp [h])
    have hstop : stepL ⟨head, ended, nm, ar, cd, ln⟩ num l = none → runL (linesL (strB text)) 1 pr0 = .error num := fun h => hrun.trans (run_err h)
    have hgo : ∀ (p' : PR) (c' c2' : Nat), stepL ⟨head, ended, nm, ar, cd, ln⟩ num l = some p' → p'.cd.length ≤ num + 1 → p'.ln.length = p'.cd.length → p'.head ≤ num + 1 → (∀ n ∈ p'.ln, n ≤ num + 1) → p'.cd.length ≤ c' → c' ≤ 9223372036854775807 → p'.ln.length ≤ c2' → c2' ≤ 9223372036854775807 → PS.ok (strB text) ⟨rem', num + 1, p', num, c', c2', 0⟩ := fun p' c' c2' h g1 g2 g3 g4 g5 g6 g7 g8 =>
      ⟨hrun.trans (run_on h), Nat.succ_le_succ (Nat.zero_le _), by show num + 1 - 1 + (linesL (strB rem')).length = (linesL (strB text)).length; omega, by show num + 1 + rem'.size ≤ 100001; omega, by show num = max (num + 1 - 1) 1; omega, g1, g2, g3, g4, ⟨g5, g6⟩, ⟨g7, g8⟩⟩
    repeat (first | refine CR.seq ?_ | refine CR.region ?_ | refine R.zb ttok ?_ | refine R.zu ttok ?_ | refine R.zc ttok ?_ | refine R.za ttok ?_ | refine R.zx ?_ | refine R.zl ttok ?_ | refine R.zs ttok ?_ | refine R.z ttok ?_ | refine R.zk ?_ | refine R.zn ?_ | refine R.done ?_ | refine X.thenR ?_ | refine CR.block ?_ | refine CR.skip ?_ | refine CR.ret ?_ | refine CR.tru (by exact rfl) ?_ | refine CR.fls (by exact rfl) ?_ | refine X.pass_ret ?_ | refine X.pass_exit ?_ | refine X.block_normal ?_ | refine X.block_ret ?_ | refine X.block_exit ?_)
    refine X.begin_ hfac hlb hr ?_
    repeat (first | refine CR.seq ?_ | refine CR.region ?_ | refine R.zb ttok ?_ | refine R.zu ttok ?_ | refine R.zc ttok ?_ | refine R.za ttok ?_ | refine R.zx ?_ | refine R.zl ttok ?_ | refine R.zs ttok ?_ | refine R.z ttok ?_ | refine R.zk ?_ | refine R.zn ?_ | refine R.done ?_ | refine X.thenR ?_ | refine CR.block ?_ | refine CR.skip ?_ | refine CR.ret ?_ | refine CR.tru (by exact rfl) ?_ | refine CR.fls (by exact rfl) ?_ | refine X.pass_ret ?_ | refine X.pass_exit ?_ | refine X.block_normal ?_ | refine X.block_ret ?_ | refine X.block_exit ?_)
    refine R.cl [] (words_spec (strOf l) (by rw [← strB_size]; show l.length ≤ _; omega)) Tryz.call20 hS8_ rfl rfl rfl (fun _ => rfl) rfl (by kernel_rfl) fun rw hrw => ?_
    have hrw : wordsG l rw := hrw
    obtain ⟨W, cw, okw⟩ := rw
    obtain ⟨hw1, hw2, hw3, hw4⟩ := hrw
    dsimp only at hw1 hw2 hw3 hw4 ⊢
    cases hwl : wordsP l with
    | none =>
      rw [hwl] at hw1
      obtain ⟨rfl, rfl⟩ := hw1
      repeat (first | refine CR.seq ?_ | refine CR.region ?_ | refine R.zb ttok ?_ | refine R.zu ttok ?_ | refine R.zc ttok ?_ | refine R.za ttok ?_ | refine R.zx ?_ | refine R.zl ttok ?_ | refine R.zs ttok ?_ | refine R.z ttok ?_ | refine R.zk ?_ | refine R.zn ?_ | refine R.done ?_ | refine X.thenR ?_ | refine CR.block ?_ | refine CR.skip ?_ | refine CR.ret ?_ | refine CR.tru (by exact rfl) ?_ | refine CR.fls (by exact rfl) ?_ | refine X.pass_ret ?_ | refine X.pass_exit ?_ | refine X.block_normal ?_ | refine X.block_ret ?_ | refine X.block_exit ?_)
      refine R.clP (refuse_panics (num : Nat)) Tryz.call21 rfl rfl ?_
      repeat (first | refine X.pass_panic ?_ | refine X.block_panic ?_)
      exact X.upP [] ⟨rem', num, ⟨head, ended, nm, ar, cd, ln⟩, num, c, c2, ar⟩ (hstop (by unfold stepL; rw [hwl])) rfl rfl rfl hS7_ rfl (fun w hf => ff_rot hf)
    | some ws =>
      rw [hwl] at hw1
      obtain ⟨hW, rfl⟩ := hw1
      have hst : stepL ⟨head, ended, nm, ar, cd, ln⟩ num l = stepW ⟨head, ended, nm, ar, cd, ln⟩ num W := by unfold stepL; rw [hwl, hW]
      rw [hst] at hstop
      simp only [hst] at hgo
      by_cases hW0 : W = []
      · have hl0 : W.length = 0 := by rw [hW0]; rfl
        repeat (first | refine CR.seq ?_ | refine CR.region ?_ | refine R.zb ttok ?_ | refine R.zu ttok ?_ | refine R.zc ttok ?_ | refine R.za ttok ?_ | refine R.zx ?_ | refine R.zl ttok ?_ | refine R.zs ttok ?_ | refine R.z ttok ?_ | refine R.zk ?_ | refine R.zn ?_ | refine R.done ?_ | refine X.thenR ?_ | refine CR.block ?_ | refine CR.skip ?_ | refine CR.ret ?_ | refine CR.tru (by exact rfl) ?_ | refine CR.fls (by exact rfl) ?_ | refine X.pass_ret ?_ | refine X.pass_exit ?_ | refine X.block_normal ?_ | refine X.block_ret ?_ | refine X.block_exit ?_)
        rw [decide_eq_true (show ((W.length : Nat) : Int) = 0 by omega)]
        repeat (first | refine CR.seq ?_ | refine CR.region ?_ | refine R.zb ttok ?_ | refine R.zu ttok ?_ | refine R.zc ttok ?_ | refine R.za ttok ?_ | refine R.zx ?_ | refine R.zl ttok ?_ | refine R.zs ttok ?_ | refine R.z ttok ?_ | refine R.zk ?_ | refine R.zn ?_ | refine R.done ?_ | refine X.thenR ?_ | refine CR.block ?_ | refine CR.skip ?_ | refine CR.ret ?_ | refine CR.tru (by exact rfl) ?_ | refine CR.fls (by exact rfl) ?_ | refine X.pass_ret ?_ | refine X.pass_exit ?_ | refine X.block_normal ?_ | refine X.block_ret ?_ | refine X.block_exit ?_)
        exact X.nextP (fsI := fun _ => dFact D :: fs) [] ⟨rem', num + 1, ⟨head, ended, nm, ar, cd, ln⟩, num, c, c2, 0⟩ (hgo _ c c2 (by unfold stepW; rw [if_pos hW0]) (by dsimp only; omega) hln (by dsimp only; omega) (fun n hn => Nat.le_succ_of_le (hls n hn)) hc1 hc1' hc2 hc2') ⟨hrem'.symm, rfl⟩ hr hpe rfl rfl hS7_ rfl hlb hfac (fun w hf => ff_swap hf) hfac2
      have hWp := List.length_pos_iff.2 hW0
      have hszW : ∀ p ∈ W, p.1.size ≤ 1000000 := fun p hp => by
        have := wsOf_sz hwl p (by rw [← hW]; exact hp)
        omega
      repeat (first | refine CR.seq ?_ | refine CR.region ?_ | refine R.zb ttok ?_ | refine R.zu ttok ?_ | refine R.zc ttok ?_ | refine R.za ttok ?_ | refine R.zx ?_ | refine R.zl ttok ?_ | refine R.zs ttok ?_ | refine R.z ttok ?_ | refine R.zk ?_ | refine R.zn ?_ | refine R.done ?_ | refine X.thenR ?_ | refine CR.block ?_ | refine CR.skip ?_ | refine CR.ret ?_ | refine CR.tru (by exact rfl) ?_ | refine CR.fls (by exact rfl) ?_ | refine X.pass_ret ?_ | refine X.pass_exit ?_ | refine X.block_normal ?_ | refine X.block_ret ?_ | refine X.block_exit ?_)
      rw [decide_eq_false (show ¬ ((W.length : Nat) : Int) = 0 by omega)]
      cases ended with
      | true =>
        repeat (first | refine CR.seq ?_ | refine CR.region ?_ | refine R.zb ttok ?_ | refine R.zu ttok ?_ | refine R.zc ttok ?_ | refine R.za ttok ?_ | refine R.zx ?_ | refine R.zl ttok ?_ | refine R.zs ttok ?_ | refine R.z ttok ?_ | refine R.zk ?_ | refine R.zn ?_ | refine R.done ?_ | refine X.thenR ?_ | refine CR.block ?_ | refine CR.skip ?_ | refine CR.ret ?_ | refine CR.tru (by exact rfl) ?_ | refine CR.fls (by exact rfl) ?_ | refine X.pass_ret ?_ | refine X.pass_exit ?_ | refine X.block_normal ?_ | refine X.block_ret ?_ | refine X.block_exit ?_)
        refine R.clP (refuse_panics (num : Nat)) Tryz.call21 rfl rfl ?_
        repeat (first | refine X.pass_panic ?_ | refine X.block_panic ?_)
        exact X.upP [] ⟨rem', num, ⟨head, true, nm, ar, cd, ln⟩, num, c, c2, ar⟩ (hstop (by unfold stepW; rw [if_neg hW0, if_pos rfl])) rfl rfl rfl hS7_ rfl (fun w hf => ff_rot hf)
      | false =>
        have hs1 : stepW ⟨head, false, nm, ar, cd, ln⟩ num W = if head = 0 then (if isProc W = true then (if numB (W.getD 2 wdD).1 (W.getD 2 wdD).2 = true then some { (⟨head, false, nm, ar, cd, ln⟩ : PR) with nm := (W.getD 1 wdD).1, ar := numV (W.getD 2 wdD).1 (W.getD 2 wdD).2, head := num } else none) else none) else (if isP W endT = true then some ⟨head, true, nm, ar, cd, ln⟩ else match insP W with
            | some x => some ⟨head, false, nm, ar, cd ++ [x], ln ++ [num]⟩
            | none => none) := by
          unfold stepW
          rw [if_neg hW0, if_neg (show ¬ (false = true) from Bool.false_ne_true)]
          all_goals first | rfl | (dsimp only; cases insP W <;> rfl)
        rw [hs1] at hstop
        simp only [hs1] at hgo
        clear hs1
        repeat (first | refine CR.seq ?_ | refine CR.region ?_ | refine R.zb ttok ?_ | refine R.zu ttok ?_ | refine R.zc ttok ?_ | refine R.za ttok ?_ | refine R.zx ?_ | refine R.zl ttok ?_ | refine R.zs ttok ?_ | refine R.z ttok ?_ | refine R.zk ?_ | refine R.zn ?_ | refine R.done ?_ | refine X.thenR ?_ | refine CR.block ?_ | refine CR.skip ?_ | refine CR.ret ?_ | refine CR.tru (by exact rfl) ?_ | refine CR.fls (by exact rfl) ?_ | refine X.pass_ret ?_ | refine X.pass_exit ?_ | refine X.block_normal ?_ | refine X.block_ret ?_ | refine X.block_exit ?_)
        by_cases hh0 : head = 0
        · rw [decide_eq_true (show ((head : Nat) : Int) = 0 by omega)]
          rw [if_pos hh0] at hstop
          simp only [if_pos hh0] at hgo
          repeat (first | refine CR.seq ?_ | refine CR.region ?_ | refine R.zb ttok ?_ | refine R.zu ttok ?_ | refine R.zc ttok ?_ | refine R.za ttok ?_ | refine R.zx ?_ | refine R.zl ttok ?_ | refine R.zs ttok ?_ | refine R.z ttok ?_ | refine R.zk ?_ | refine R.zn ?_ | refine R.done ?_ | refine X.thenR ?_ | refine CR.block ?_ | refine CR.skip ?_ | refine CR.ret ?_ | refine CR.tru (by exact rfl) ?_ | refine CR.fls (by exact rfl) ?_ | refine X.pass_ret ?_ | refine X.pass_exit ?_ | refine X.block_normal ?_ | refine X.block_ret ?_ | refine X.block_exit ?_)
          by_cases h3 : W.length = 3
          · rw [decide_eq_false (show ¬ ((W.length : Nat) : Int) ≠ 3 by omega)]
            obtain ⟨p0, p1, p2, rfl⟩ : ∃ p0 p1 p2, W = [p0, p1, p2] := by
              match W, h3 with
              | [a, b, c], _ => exact ⟨a, b, c, rfl⟩
            obtain ⟨t0, q0⟩ := p0
            obtain ⟨t1, q1⟩ := p1
            obtain ⟨t2, q2⟩ := p2
            have hip : isProc [(t0, q0), (t1, q1), (t2, q2)] = ((decide (strB t0 = strB procT) && !q0) && !q1) := by
              unfold isProc
              simp
            rw [hip] at hstop
            simp only [hip] at hgo
            have ht2 : t2.size ≤ 1000000 := hszW (t2, q2) (by simp)
            repeat (first | refine CR.seq ?_ | refine CR.region ?_ | refine R.zb ttok ?_ | refine R.zu ttok ?_ | refine R.zc ttok ?_ | refine R.za ttok ?_ | refine R.zx ?_ | refine R.zl ttok ?_ | refine R.zs ttok ?_ | refine R.z ttok ?_ | refine R.zk ?_ | refine R.zn ?_ | refine R.done ?_ | refine X.thenR ?_ | refine CR.block ?_ | refine CR.skip ?_ | refine CR.ret ?_ | refine CR.tru (by exact rfl) ?_ | refine CR.fls (by exact rfl) ?_ | refine X.pass_ret ?_ | refine X.pass_exit ?_ | refine X.block_normal ?_ | refine X.block_ret ?_ | refine X.block_exit ?_)
            refine R.ix ttok 0 rfl rfl rfl rfl rfl (by kernel_rfl) rfl (by show 0 < 3; decide) (by show 0 < 3; decide) rfl ?_
            refine R.ldt (v := .agg [.raw (.string t0), .raw (.bool q0)]) ttok rfl rfl rfl rfl rfl (by kernel_rfl) (by show 0 < 3; decide) ?_
            repeat (first | refine CR.seq ?_ | refine CR.region ?_ | refine R.zb ttok ?_ | refine R.zu ttok ?_ | refine R.zc ttok ?_ | refine R.za ttok ?_ | refine R.zx ?_ | refine R.zl ttok ?_ | refine R.zs ttok ?_ | refine R.z ttok ?_ | refine R.zk ?_ | refine R.zn ?_ | refine R.done ?_ | refine X.thenR ?_ | refine CR.block ?_ | refine CR.skip ?_ | refine CR.ret ?_ | refine CR.tru (by exact rfl) ?_ | refine CR.fls (by exact rfl) ?_ | refine X.pass_ret ?_ | refine X.pass_exit ?_ | refine X.block_normal ?_ | refine X.block_ret ?_ | refine X.block_exit ?_)
            refine R.nes ttok _ rfl rfl (by kernel_rfl) (by kernel_rfl) (wd_eq _ _ _ _) rfl (by kernel_rfl) ?_
            rw [Bool.and_true, show (q0 == false) = !q0 by cases q0 <;> rfl, show strB ⟨#[112, 114, 111, 99]⟩ = strB procT from rfl]
            cases hc0 : (decide (strB t0 = strB procT) && !q0) with
            | false =>
              rw [hc0, Bool.false_and, if_neg Bool.false_ne_true] at hstop
              repeat (first | refine CR.seq ?_ | refine CR.region ?_ | refine R.zb ttok ?_ | refine R.zu ttok ?_ | refine R.zc ttok ?_ | refine R.za ttok ?_ | refine R.zx ?_ | refine R.zl ttok ?_ | refine R.zs ttok ?_ | refine R.z ttok ?_ | refine R.zk ?_ | refine R.zn ?_ | refine R.done ?_ | refine X.thenR ?_ | refine CR.block ?_ | refine CR.skip ?_ | refine CR.ret ?_ | refine CR.tru (by exact rfl) ?_ | refine CR.fls (by exact rfl) ?_ | refine X.pass_ret ?_ | refine X.pass_exit ?_ | refine X.block_normal ?_ | refine X.block_ret ?_ | refine X.block_exit ?_)
              refine R.clP (refuse_panics (num : Nat)) Tryz.call21 rfl rfl ?_
              repeat (first | refine X.pass_panic ?_ | refine X.block_panic ?_)
              exact X.upP [] ⟨rem', num, ⟨head, false, nm, ar, cd, ln⟩, num, c, c2, ar⟩ (hstop rfl) rfl rfl rfl hS7_ rfl (fun w hf => ff_rot hf)
            | true =>
              rw [hc0, Bool.true_and] at hstop
              simp only [hc0, Bool.true_and] at hgo
              repeat (first | refine CR.seq ?_ | refine CR.region ?_ | refine R.zb ttok ?_ | refine R.zu ttok ?_ | refine R.zc ttok ?_ | refine R.za ttok ?_ | refine R.zx ?_ | refine R.zl ttok ?_ | refine R.zs ttok ?_ | refine R.z ttok ?_ | refine R.zk ?_ | refine R.zn ?_ | refine R.done ?_ | refine X.thenR ?_ | refine CR.block ?_ | refine CR.skip ?_ | refine CR.ret ?_ | refine CR.tru (by exact rfl) ?_ | refine CR.fls (by exact rfl) ?_ | refine X.pass_ret ?_ | refine X.pass_exit ?_ | refine X.block_normal ?_ | refine X.block_ret ?_ | refine X.block_exit ?_)
              refine R.ix ttok 1 rfl rfl rfl rfl rfl (by kernel_rfl) rfl (by show 1 < 3; decide) (by show 1 < 3; decide) rfl ?_
              repeat (first | refine CR.seq ?_ | refine CR.region ?_ | refine R.zb ttok ?_ | refine R.zu ttok ?_ | refine R.zc ttok ?_ | refine R.za ttok ?_ | refine R.zx ?_ | refine R.zl ttok ?_ | refine R.zs ttok ?_ | refine R.z ttok ?_ | refine R.zk ?_ | refine R.zn ?_ | refine R.done ?_ | refine X.thenR ?_ | refine CR.block ?_ | refine CR.skip ?_ | refine CR.ret ?_ | refine CR.tru (by exact rfl) ?_ | refine CR.fls (by exact rfl) ?_ | refine X.pass_ret ?_ | refine X.pass_exit ?_ | refine X.block_normal ?_ | refine X.block_ret ?_ | refine X.block_exit ?_)
              refine R.ldt (v := .raw (.bool q1)) ttok rfl rfl rfl rfl rfl (by kernel_rfl) (by show 1 < 3; decide) ?_
              cases q1 with
              | true =>
                rw [if_neg (show ¬ ((!true) = true) from Bool.false_ne_true)] at hstop
                repeat (first | refine CR.seq ?_ | refine CR.region ?_ | refine R.zb ttok ?_ | refine R.zu ttok ?_ | refine R.zc ttok ?_ | refine R.za ttok ?_ | refine R.zx ?_ | refine R.zl ttok ?_ | refine R.zs ttok ?_ | refine R.z ttok ?_ | refine R.zk ?_ | refine R.zn ?_ | refine R.done ?_ | refine X.thenR ?_ | refine CR.block ?_ | refine CR.skip ?_ | refine CR.ret ?_ | refine CR.tru (by exact rfl) ?_ | refine CR.fls (by exact rfl) ?_ | refine X.pass_ret ?_ | refine X.pass_exit ?_ | refine X.block_normal ?_ | refine X.block_ret ?_ | refine X.block_exit ?_)
                refine R.clP (refuse_panics (num : Nat)) Tryz.call21 rfl rfl ?_
                repeat (first | refine X.pass_panic ?_ | refine X.block_panic ?_)
                exact X.upP [] ⟨rem', num, ⟨head, false, nm, ar, cd, ln⟩, num, c, c2, ar⟩ (hstop rfl) rfl rfl rfl hS7_ rfl (fun w hf => ff_rot hf)
              | false =>
                simp only [Bool.not_false, if_true] at hstop hgo
                repeat (first | refine CR.seq ?_ | refine CR.region ?_ | refine R.zb ttok ?_ | refine R.zu ttok ?_ | refine R.zc ttok ?_ | refine R.za ttok ?_ | refine R.zx ?_ | refine R.zl ttok ?_ | refine R.zs ttok ?_ | refine R.z ttok ?_ | refine R.zk ?_ | refine R.zn ?_ | refine R.done ?_ | refine X.thenR ?_ | refine CR.block ?_ | refine CR.skip ?_ | refine CR.ret ?_ | refine CR.tru (by exact rfl) ?_ | refine CR.fls (by exact rfl) ?_ | refine X.pass_ret ?_ | refine X.pass_exit ?_ | refine X.block_normal ?_ | refine X.block_ret ?_ | refine X.block_exit ?_)
                refine R.ix ttok 2 rfl rfl rfl rfl rfl (by kernel_rfl) rfl (by show 2 < 3; decide) (by show 2 < 3; decide) rfl ?_
                refine R.ldt (v := .agg [.raw (.string t2), .raw (.bool q2)]) ttok rfl rfl rfl rfl rfl (by kernel_rfl) (by show 2 < 3; decide) ?_
                repeat (first | refine CR.seq ?_ | refine CR.region ?_ | refine R.zb ttok ?_ | refine R.zu ttok ?_ | refine R.zc ttok ?_ | refine R.za ttok ?_ | refine R.zx ?_ | refine R.zl ttok ?_ | refine R.zs ttok ?_ | refine R.z ttok ?_ | refine R.zk ?_ | refine R.zn ?_ | refine R.done ?_ | refine X.thenR ?_ | refine CR.block ?_ | refine CR.skip ?_ | refine CR.ret ?_ | refine CR.tru (by exact rfl) ?_ | refine CR.fls (by exact rfl) ?_ | refine X.pass_ret ?_ | refine X.pass_exit ?_ | refine X.block_normal ?_ | refine X.block_ret ?_ | refine X.block_exit ?_)
                refine R.cl [] (number_spec t2 q2 (by omega)) Tryz.call22 hS8_ rfl rfl rfl (fun _ => rfl) rfl (by kernel_rfl) fun _ _ => ?_
                repeat (first | refine CR.seq ?_ | refine CR.region ?_ | refine R.zb ttok ?_ | refine R.zu ttok ?_ | refine R.zc ttok ?_ | refine R.za ttok ?_ | refine R.zx ?_ | refine R.zl ttok ?_ | refine R.zs ttok ?_ | refine R.z ttok ?_ | refine R.zk ?_ | refine R.zn ?_ | refine R.done ?_ | refine X.thenR ?_ | refine CR.block ?_ | refine CR.skip ?_ | refine CR.ret ?_ | refine CR.tru (by exact rfl) ?_ | refine CR.fls (by exact rfl) ?_ | refine X.pass_ret ?_ | refine X.pass_exit ?_ | refine X.block_normal ?_ | refine X.block_ret ?_ | refine X.block_exit ?_)
                cases hnb : numB t2 q2 with
                | false =>
                  rw [if_neg (by show ¬ numB t2 q2 = true; rw [hnb]; decide)] at hstop
                  repeat (first | refine CR.seq ?_ | refine CR.region ?_ | refine R.zb ttok ?_ | refine R.zu ttok ?_ | refine R.zc ttok ?_ | refine R.za ttok ?_ | refine R.zx ?_ | refine R.zl ttok ?_ | refine R.zs ttok ?_ | refine R.z ttok ?_ | refine R.zk ?_ | refine R.zn ?_ | refine R.done ?_ | refine X.thenR ?_ | refine CR.block ?_ | refine CR.skip ?_ | refine CR.ret ?_ | refine CR.tru (by exact rfl) ?_ | refine CR.fls (by exact rfl) ?_ | refine X.pass_ret ?_ | refine X.pass_exit ?_ | refine X.block_normal ?_ | refine X.block_ret ?_ | refine X.block_exit ?_)
                  refine R.clP (refuse_panics (num : Nat)) Tryz.call21 rfl rfl ?_
                  repeat (first | refine X.pass_panic ?_ | refine X.block_panic ?_)
                  exact X.upP [] ⟨rem', num, ⟨head, false, nm, ar, cd, ln⟩, num, c, c2, (numV t2 q2 : Nat)⟩ (hstop rfl) rfl rfl rfl hS7_ rfl (fun w hf => ff_rot hf)
                | true =>
                  repeat (first | refine CR.seq ?_ | refine CR.region ?_ | refine R.zb ttok ?_ | refine R.zu ttok ?_ | refine R.zc ttok ?_ | refine R.za ttok ?_ | refine R.zx ?_ | refine R.zl ttok ?_ | refine R.zs ttok ?_ | refine R.z ttok ?_ | refine R.zk ?_ | refine R.zn ?_ | refine R.done ?_ | refine X.thenR ?_ | refine CR.block ?_ | refine CR.skip ?_ | refine CR.ret ?_ | refine CR.tru (by exact rfl) ?_ | refine CR.fls (by exact rfl) ?_ | refine X.pass_ret ?_ | refine X.pass_exit ?_ | refine X.block_normal ?_ | refine X.block_ret ?_ | refine X.block_exit ?_)
                  refine R.ix ttok 1 rfl rfl rfl rfl rfl (by kernel_rfl) rfl (by show 1 < 3; decide) (by show 1 < 3; decide) rfl ?_
                  repeat (first | refine CR.seq ?_ | refine CR.region ?_ | refine R.zb ttok ?_ | refine R.zu ttok ?_ | refine R.zc ttok ?_ | refine R.za ttok ?_ | refine R.zx ?_ | refine R.zl ttok ?_ | refine R.zs ttok ?_ | refine R.z ttok ?_ | refine R.zk ?_ | refine R.zn ?_ | refine R.done ?_ | refine X.thenR ?_ | refine CR.block ?_ | refine CR.skip ?_ | refine CR.ret ?_ | refine CR.tru (by exact rfl) ?_ | refine CR.fls (by exact rfl) ?_ | refine X.pass_ret ?_ | refine X.pass_exit ?_ | refine X.block_normal ?_ | refine X.block_ret ?_ | refine X.block_exit ?_)
                  refine R.ldt (v := .raw (.string t1)) ttok rfl rfl rfl rfl rfl (by kernel_rfl) (by show 1 < 3; decide) ?_
                  repeat (first | refine CR.seq ?_ | refine CR.region ?_ | refine R.zb ttok ?_ | refine R.zu ttok ?_ | refine R.zc ttok ?_ | refine R.za ttok ?_ | refine R.zx ?_ | refine R.zl ttok ?_ | refine R.zs ttok ?_ | refine R.z ttok ?_ | refine R.zk ?_ | refine R.zn ?_ | refine R.done ?_ | refine X.thenR ?_ | refine CR.block ?_ | refine CR.skip ?_ | refine CR.ret ?_ | refine CR.tru (by exact rfl) ?_ | refine CR.fls (by exact rfl) ?_ | refine X.pass_ret ?_ | refine X.pass_exit ?_ | refine X.block_normal ?_ | refine X.block_ret ?_ | refine X.block_exit ?_)
                  exact X.nextP (fsI := fun _ => dFact D :: fs) [] ⟨rem', num + 1, ⟨num, false, t1, numV t2 q2, cd, ln⟩, num, c, c2, 0⟩ (hgo _ c c2 (if_pos hnb) (by dsimp only; omega) hln (by dsimp only; omega) (fun n hn => Nat.le_succ_of_le (hls n hn)) hc1 hc1' hc2 hc2') ⟨hrem'.symm, rfl⟩ hr hpe rfl rfl hS7_ rfl hlb hfac (fun w hf => ff_swap hf) hfac2
          · rw [decide_eq_true (show ((W.length : Nat) : Int) ≠ 3 by omega)]
            rw [if_neg (by unfold isProc; rw [decide_eq_false h3]; simp)] at hstop
            repeat (first | refine CR.seq ?_ | refine CR.region ?_ | refine R.zb ttok ?_ | refine R.zu ttok ?_ | refine R.zc ttok ?_ | refine R.za ttok ?_ | refine R.zx ?_ | refine R.zl ttok ?_ | refine R.zs ttok ?_ | refine R.z ttok ?_ | refine R.zk ?_ | refine R.zn ?_ | refine R.done ?_ | refine X.thenR ?_ | refine CR.block ?_ | refine CR.skip ?_ | refine CR.ret ?_ | refine CR.tru (by exact rfl) ?_ | refine CR.fls (by exact rfl) ?_ | refine X.pass_ret ?_ | refine X.pass_exit ?_ | refine X.block_normal ?_ | refine X.block_ret ?_ | refine X.block_exit ?_)
            refine R.clP (refuse_panics (num : Nat)) Tryz.call21 rfl rfl ?_
            repeat (first | refine X.pass_panic ?_ | refine X.block_panic ?_)
            exact X.upP [] ⟨rem', num, ⟨head, false, nm, ar, cd, ln⟩, num, c, c2, ar⟩ (hstop rfl) rfl rfl rfl hS7_ rfl (fun w hf => ff_rot hf)
        · rw [decide_eq_false (show ¬ ((head : Nat) : Int) = 0 by omega)]
          rw [if_neg hh0] at hstop
          simp only [if_neg hh0] at hgo
          repeat (first | refine CR.seq ?_ | refine CR.region ?_ | refine R.zb ttok ?_ | refine R.zu ttok ?_ | refine R.zc ttok ?_ | refine R.za ttok ?_ | refine R.zx ?_ | refine R.zl ttok ?_ | refine R.zs ttok ?_ | refine R.z ttok ?_ | refine R.zk ?_ | refine R.zn ?_ | refine R.done ?_ | refine X.thenR ?_ | refine CR.block ?_ | refine CR.skip ?_ | refine CR.ret ?_ | refine CR.tru (by exact rfl) ?_ | refine CR.fls (by exact rfl) ?_ | refine X.pass_ret ?_ | refine X.pass_exit ?_ | refine X.block_normal ?_ | refine X.block_ret ?_ | refine X.block_exit ?_)
          refine R.cl [34] (is_spec W cw endT (by omega)) Tryz.call23 ((by exact HasIn.other rfl (fun e => by cases e) (fun ρ x w hh => tab_ro hh) .nil)) rfl rfl rfl (fun _ => rfl) rfl (by kernel_rfl) fun _ _ => ?_
          cases hend : isP W endT with
          | true =>
            repeat (first | refine CR.seq ?_ | refine CR.region ?_ | refine R.zb ttok ?_ | refine R.zu ttok ?_ | refine R.zc ttok ?_ | refine R.za ttok ?_ | refine R.zx ?_ | refine R.zl ttok ?_ | refine R.zs ttok ?_ | refine R.z ttok ?_ | refine R.zk ?_ | refine R.zn ?_ | refine R.done ?_ | refine X.thenR ?_ | refine CR.block ?_ | refine CR.skip ?_ | refine CR.ret ?_ | refine CR.tru (by exact rfl) ?_ | refine CR.fls (by exact rfl) ?_ | refine X.pass_ret ?_ | refine X.pass_exit ?_ | refine X.block_normal ?_ | refine X.block_ret ?_ | refine X.block_exit ?_)
            exact X.nextP (fsI := fun _ => dFact D :: fs) [] ⟨rem', num + 1, ⟨head, true, nm, ar, cd, ln⟩, num, c, c2, 0⟩ (hgo _ c c2 (if_pos hend) (by dsimp only; omega) hln (by dsimp only; omega) (fun n hn => Nat.le_succ_of_le (hls n hn)) hc1 hc1' hc2 hc2') ⟨hrem'.symm, rfl⟩ hr hpe rfl rfl hS7_ rfl hlb hfac (fun w hf => ff_swap hf) hfac2
          | false =>
            rw [if_neg (by rw [hend]; decide)] at hstop
            simp only [hend, Bool.false_eq_true, if_false] at hgo
            repeat (first | refine CR.seq ?_ | refine CR.region ?_ | refine R.zb ttok ?_ | refine R.zu ttok ?_ | refine R.zc ttok ?_ | refine R.za ttok ?_ | refine R.zx ?_ | refine R.zl ttok ?_ | refine R.zs ttok ?_ | refine R.z ttok ?_ | refine R.zk ?_ | refine R.zn ?_ | refine R.done ?_ | refine X.thenR ?_ | refine CR.block ?_ | refine CR.skip ?_ | refine CR.ret ?_ | refine CR.tru (by exact rfl) ?_ | refine CR.fls (by exact rfl) ?_ | refine X.pass_ret ?_ | refine X.pass_exit ?_ | refine X.block_normal ?_ | refine X.block_ret ?_ | refine X.block_exit ?_)
            refine R.clE [3, 4, 5, 6, 7, 8, 9, 10, 11, 12, 13, 14, 15, 16, 17, 18, 19, 20, 21, 22, 23, 24, 25, 34] (instr_spec W cw hW0 (by omega) hszW fs hG) [rFact lb { r with state := .busy }, dFact D, ⟨true, b0, ob⟩] (List.perm_append_comm (l₁ := [rFact lb { r with state := .busy }, dFact D, ⟨true, b0, ob⟩])) (Nat.zero_le _) (fun l hl => absurd hl (Nat.not_lt_zero l)) Tryz.call24 (by repeat (first | exact HasIn.nil | refine HasIn.roA rfl rfl ?_ | refine HasIn.row rfl (fun _ => rfl) rfl ?_ | refine HasIn.other rfl (fun e => by cases e) (fun ρ x w hh => cells_sg hh) ?_ | refine HasIn.other rfl (fun e => by cases e) (fun ρ x w hh => tab_ro hh) ?_)) rfl rfl rfl (fun _ => rfl) rfl (by kernel_rfl) fun xr hxr => ?_
            refine R.fperm (List.perm_append_comm (l₂ := [rFact lb { r with state := .busy }, dFact D, ⟨true, b0, ob⟩])) ?_
            obtain ⟨x, xo⟩ := xr
            have hxr : insG W (x, xo) := hxr
            unfold insG at hxr
            cases hip : insP W with
            | none =>
              rw [hip] at hxr hstop
              cases hxr
              repeat (first | refine CR.seq ?_ | refine CR.region ?_ | refine R.zb ttok ?_ | refine R.zu ttok ?_ | refine R.zc ttok ?_ | refine R.za ttok ?_ | refine R.zx ?_ | refine R.zl ttok ?_ | refine R.zs ttok ?_ | refine R.z ttok ?_ | refine R.zk ?_ | refine R.zn ?_ | refine R.done ?_ | refine X.thenR ?_ | refine CR.block ?_ | refine CR.skip ?_ | refine CR.ret ?_ | refine CR.tru (by exact rfl) ?_ | refine CR.fls (by exact rfl) ?_ | refine X.pass_ret ?_ | refine X.pass_exit ?_ | refine X.block_normal ?_ | refine X.block_ret ?_ | refine X.block_exit ?_)
              refine R.clP (refuse_panics (num : Nat)) Tryz.call21 rfl rfl ?_
              repeat (first | refine X.pass_panic ?_ | refine X.block_panic ?_)
              exact X.upP [] ⟨rem', num, ⟨head, false, nm, ar, cd, ln⟩, num, c, c2, ar⟩ (hstop rfl) rfl rfl rfl hS7_ rfl (fun w hf => ff_rot hf)
            | some y =>
              rw [hip] at hxr
              cases hxr
              simp only [hip] at hgo
              have hgo := fun c' c2' => hgo _ c' c2' rfl (by simp only [List.length_append, List.length_cons, List.length_nil]; omega) (by simp only [List.length_append, List.length_cons, List.length_nil]; omega) (by dsimp only; omega) (fun n hn => by
                rcases List.mem_append.1 hn with h | h
                · exact Nat.le_succ_of_le (hls n h)
                · rw [List.mem_singleton] at h; omega)
              have hlX : (cd ++ [x]).length = cd.length + 1 := by simp
              have hlN : (ln ++ [num]).length = ln.length + 1 := by simp
              repeat (first | refine CR.seq ?_ | refine CR.region ?_ | refine R.zb ttok ?_ | refine R.zu ttok ?_ | refine R.zc ttok ?_ | refine R.za ttok ?_ | refine R.zx ?_ | refine R.zl ttok ?_ | refine R.zs ttok ?_ | refine R.z ttok ?_ | refine R.zk ?_ | refine R.zn ?_ | refine R.done ?_ | refine X.thenR ?_ | refine CR.block ?_ | refine CR.skip ?_ | refine CR.ret ?_ | refine CR.tru (by exact rfl) ?_ | refine CR.fls (by exact rfl) ?_ | refine X.pass_ret ?_ | refine X.pass_exit ?_ | refine X.block_normal ?_ | refine X.block_ret ?_ | refine X.block_exit ?_)
              refine CR.anyhow (by kernel_rfl) (by kernel_rfl) ?_
              refine CW.either 4 7 (by kernel_rfl) ?_ ?_
              · refine CW.draw [[], [0], [], [2], [0, 1, 2, 3], [], [], [0, 1, 2, 3, 4, 6], [0, 1, 2, 3, 4, 5, 6, 7], [0, 1, 2, 3, 4], [0, 1, 2, 3, 4, 5, 6, 7, 8, 9], [0, 1, 2, 3, 4, 5, 6, 7, 8, 9, 10]] [3, 4, 7, 8, 10, 11] (by kernel_rfl) ?_
                repeat (first | refine CR.seq ?_ | refine CR.region ?_ | refine R.zb ttok ?_ | refine R.zu ttok ?_ | refine R.zc ttok ?_ | refine R.za ttok ?_ | refine R.zx ?_ | refine R.zl ttok ?_ | refine R.zs ttok ?_ | refine R.z ttok ?_ | refine R.zk ?_ | refine R.zn ?_ | refine R.done ?_ | refine X.thenR ?_ | refine CR.block ?_ | refine CR.skip ?_ | refine CR.ret ?_ | refine CR.tru (by exact rfl) ?_ | refine CR.fls (by exact rfl) ?_ | refine X.pass_ret ?_ | refine X.pass_exit ?_ | refine X.block_normal ?_ | refine X.block_ret ?_ | refine X.block_exit ?_)
                refine R.app (xs := inss cd) (news := inss [x]) ttok (fun c => tI (cd ++ [x]) c) rfl rfl (dstIns rfl) (SrcA.cells rfl rfl) (asIns _ _ _ (inss_app _ _).symm) rfl rfl rfl rfl rfl rfl (by decide) rfl rfl rfl (by kernel_rfl) hc1' (by show (cd.length + 1) * 72 ≤ _; omega) (by show cd.length + 1 ≤ _; omega) fun cB hB hB2 => ?_
                rw [← hlX] at hB ⊢
                repeat (first | refine CR.seq ?_ | refine CR.region ?_ | refine R.zb ttok ?_ | refine R.zu ttok ?_ | refine R.zc ttok ?_ | refine R.za ttok ?_ | refine R.zx ?_ | refine R.zl ttok ?_ | refine R.zs ttok ?_ | refine R.z ttok ?_ | refine R.zk ?_ | refine R.zn ?_ | refine R.done ?_ | refine X.thenR ?_ | refine CR.block ?_ | refine CR.skip ?_ | refine CR.ret ?_ | refine CR.tru (by exact rfl) ?_ | refine CR.fls (by exact rfl) ?_ | refine X.pass_ret ?_ | refine X.pass_exit ?_ | refine X.block_normal ?_ | refine X.block_ret ?_ | refine X.block_exit ?_)
                refine R.app (xs := nats ln) (news := nats [num]) ttok (fun c => tN (ln ++ [num]) c) rfl rfl (dstNats rfl) (SrcA.cells rfl rfl) (asNats _ _ _ (nats_app _ _).symm) rfl rfl rfl rfl rfl rfl (by decide) rfl rfl rfl (by kernel_rfl) hc2' (by show (ln.length + 1) * 8 ≤ _; omega) (by show ln.length + 1 ≤ _; omega) fun cC hC hC2 => ?_
                rw [← hlN] at hC ⊢
                repeat (first | refine CR.seq ?_ | refine CR.region ?_ | refine R.zb ttok ?_ | refine R.zu ttok ?_ | refine R.zc ttok ?_ | refine R.za ttok ?_ | refine R.zx ?_ | refine R.zl ttok ?_ | refine R.zs ttok ?_ | refine R.z ttok ?_ | refine R.zk ?_ | refine R.zn ?_ | refine R.done ?_ | refine X.thenR ?_ | refine CR.block ?_ | refine CR.skip ?_ | refine CR.ret ?_ | refine CR.tru (by exact rfl) ?_ | refine CR.fls (by exact rfl) ?_ | refine X.pass_ret ?_ | refine X.pass_exit ?_ | refine X.block_normal ?_ | refine X.block_ret ?_ | refine X.block_exit ?_)
                exact X.nextP (fsI := fun _ => dFact D :: fs) [(32, 37), (33, 39)] ⟨rem', num + 1, ⟨head, false, nm, ar, cd ++ [x], ln ++ [num]⟩, num, cB, cC, 0⟩ (hgo cB cC hB hB2 hC hC2) ⟨hrem'.symm, rfl⟩ hr hpe rfl rfl hS7_ rfl hlb hfac (fun w hf => ff_swap hf) hfac2
              · refine CW.either 3 7 (by kernel_rfl) ?_ ?_
                · refine CW.order [0, 1, 2, 3, 5, 6, 7, 4, 8, 9, 10, 11] [0, 1, 2, 3, 7, 4, 5, 6, 8, 9, 10, 11] (by kernel_rfl) ?_
                  refine CW.draw [[], [0], [], [2], [], [], [2, 3, 5], [0, 1, 2, 3, 5, 6], [0, 1, 2, 3, 4, 5, 6, 7], [0, 1, 2, 3, 5, 6, 7], [0, 1, 2, 3, 4, 5, 6, 7, 8, 9], [0, 1, 2, 3, 4, 5, 6, 7, 8, 9, 10]] [3, 6, 7, 8, 10, 11] (by kernel_rfl) ?_
                  repeat (first | refine CR.seq ?_ | refine CR.region ?_ | refine R.zb ttok ?_ | refine R.zu ttok ?_ | refine R.zc ttok ?_ | refine R.za ttok ?_ | refine R.zx ?_ | refine R.zl ttok ?_ | refine R.zs ttok ?_ | refine R.z ttok ?_ | refine R.zk ?_ | refine R.zn ?_ | refine R.done ?_ | refine X.thenR ?_ | refine CR.block ?_ | refine CR.skip ?_ | refine CR.ret ?_ | refine CR.tru (by exact rfl) ?_ | refine CR.fls (by exact rfl) ?_ | refine X.pass_ret ?_ | refine X.pass_exit ?_ | refine X.block_normal ?_ | refine X.block_ret ?_ | refine X.block_exit ?_)
                  refine R.app (xs := inss cd) (news := inss [x]) ttok (fun c => tI (cd ++ [x]) c) rfl rfl (dstIns rfl) (SrcA.cells rfl rfl) (asIns _ _ _ (inss_app _ _).symm) rfl rfl rfl rfl rfl rfl (by decide) rfl rfl rfl (by kernel_rfl) hc1' (by show (cd.length + 1) * 72 ≤ _; omega) (by show cd.length + 1 ≤ _; omega) fun cB hB hB2 => ?_
                  rw [← hlX] at hB ⊢
                  repeat (first | refine CR.seq ?_ | refine CR.region ?_ | refine R.zb ttok ?_ | refine R.zu ttok ?_ | refine R.zc ttok ?_ | refine R.za ttok ?_ | refine R.zx ?_ | refine R.zl ttok ?_ | refine R.zs ttok ?_ | refine R.z ttok ?_ | refine R.zk ?_ | refine R.zn ?_ | refine R.done ?_ | refine X.thenR ?_ | refine CR.block ?_ | refine CR.skip ?_ | refine CR.ret ?_ | refine CR.tru (by exact rfl) ?_ | refine CR.fls (by exact rfl) ?_ | refine X.pass_ret ?_ | refine X.pass_exit ?_ | refine X.block_normal ?_ | refine X.block_ret ?_ | refine X.block_exit ?_)
                  refine R.app (xs := nats ln) (news := nats [num]) ttok (fun c => tN (ln ++ [num]) c) rfl rfl (dstNats rfl) (SrcA.cells rfl rfl) (asNats _ _ _ (nats_app _ _).symm) rfl rfl rfl rfl rfl rfl (by decide) rfl rfl rfl (by kernel_rfl) hc2' (by show (ln.length + 1) * 8 ≤ _; omega) (by show ln.length + 1 ≤ _; omega) fun cC hC hC2 => ?_
                  rw [← hlN] at hC ⊢
                  repeat (first | refine CR.seq ?_ | refine CR.region ?_ | refine R.zb ttok ?_ | refine R.zu ttok ?_ | refine R.zc ttok ?_ | refine R.za ttok ?_ | refine R.zx ?_ | refine R.zl ttok ?_ | refine R.zs ttok ?_ | refine R.z ttok ?_ | refine R.zk ?_ | refine R.zn ?_ | refine R.done ?_ | refine X.thenR ?_ | refine CR.block ?_ | refine CR.skip ?_ | refine CR.ret ?_ | refine CR.tru (by exact rfl) ?_ | refine CR.fls (by exact rfl) ?_ | refine X.pass_ret ?_ | refine X.pass_exit ?_ | refine X.block_normal ?_ | refine X.block_ret ?_ | refine X.block_exit ?_)
                  exact X.nextP (fsI := fun _ => dFact D :: fs) [(32, 38), (33, 39)] ⟨rem', num + 1, ⟨head, false, nm, ar, cd ++ [x], ln ++ [num]⟩, num, cB, cC, 0⟩ (hgo cB cC hB hB2 hC hC2) ⟨hrem'.symm, rfl⟩ hr hpe rfl rfl hS7_ rfl hlb hfac (fun w hf => ff_swap hf) hfac2
                · refine CW.order [0, 1, 2, 5, 6, 7, 3, 4, 8, 9, 10, 11] [0, 1, 2, 6, 7, 3, 4, 5, 8, 9, 10, 11] (by kernel_rfl) ?_
                  refine CW.draw [[], [0], [], [], [], [4], [2, 4, 5], [0, 1, 2, 4, 5, 6], [0, 1, 2, 3, 4, 5, 6, 7], [0, 1, 2, 4, 5, 6, 7], [0, 1, 2, 3, 4, 5, 6, 7, 8, 9], [0, 1, 2, 3, 4, 5, 6, 7, 8, 9, 10]] [5, 6, 7, 8, 10, 11] (by kernel_rfl) ?_
                  repeat (first | refine CR.seq ?_ | refine CR.region ?_ | refine R.zb ttok ?_ | refine R.zu ttok ?_ | refine R.zc ttok ?_ | refine R.za ttok ?_ | refine R.zx ?_ | refine R.zl ttok ?_ | refine R.zs ttok ?_ | refine R.z ttok ?_ | refine R.zk ?_ | refine R.zn ?_ | refine R.done ?_ | refine X.thenR ?_ | refine CR.block ?_ | refine CR.skip ?_ | refine CR.ret ?_ | refine CR.tru (by exact rfl) ?_ | refine CR.fls (by exact rfl) ?_ | refine X.pass_ret ?_ | refine X.pass_exit ?_ | refine X.block_normal ?_ | refine X.block_ret ?_ | refine X.block_exit ?_)
                  refine R.app (xs := inss cd) (news := inss [x]) ttok (fun c => tI (cd ++ [x]) c) rfl rfl (dstIns rfl) (SrcA.cells rfl rfl) (asIns _ _ _ (inss_app _ _).symm) rfl rfl rfl rfl rfl rfl (by decide) rfl rfl rfl (by kernel_rfl) hc1' (by show (cd.length + 1) * 72 ≤ _; omega) (by show cd.length + 1 ≤ _; omega) fun cB hB hB2 => ?_
                  rw [← hlX] at hB ⊢
                  repeat (first | refine CR.seq ?_ | refine CR.region ?_ | refine R.zb ttok ?_ | refine R.zu ttok ?_ | refine R.zc ttok ?_ | refine R.za ttok ?_ | refine R.zx ?_ | refine R.zl ttok ?_ | refine R.zs ttok ?_ | refine R.z ttok ?_ | refine R.zk ?_ | refine R.zn ?_ | refine R.done ?_ | refine X.thenR ?_ | refine CR.block ?_ | refine CR.skip ?_ | refine CR.ret ?_ | refine CR.tru (by exact rfl) ?_ | refine CR.fls (by exact rfl) ?_ | refine X.pass_ret ?_ | refine X.pass_exit ?_ | refine X.block_normal ?_ | refine X.block_ret ?_ | refine X.block_exit ?_)
                  refine R.app (xs := nats ln) (news := nats [num]) ttok (fun c => tN (ln ++ [num]) c) rfl rfl (dstNats rfl) (SrcA.cells rfl rfl) (asNats _ _ _ (nats_app _ _).symm) rfl rfl rfl rfl rfl rfl (by decide) rfl rfl rfl (by kernel_rfl) hc2' (by show (ln.length + 1) * 8 ≤ _; omega) (by show ln.length + 1 ≤ _; omega) fun cC hC hC2 => ?_
                  rw [← hlN] at hC ⊢
                  repeat (first | refine CR.seq ?_ | refine CR.region ?_ | refine R.zb ttok ?_ | refine R.zu ttok ?_ | refine R.zc ttok ?_ | refine R.za ttok ?_ | refine R.zx ?_ | refine R.zl ttok ?_ | refine R.zs ttok ?_ | refine R.z ttok ?_ | refine R.zk ?_ | refine R.zn ?_ | refine R.done ?_ | refine X.thenR ?_ | refine CR.block ?_ | refine CR.skip ?_ | refine CR.ret ?_ | refine CR.tru (by exact rfl) ?_ | refine CR.fls (by exact rfl) ?_ | refine X.pass_ret ?_ | refine X.pass_exit ?_ | refine X.block_normal ?_ | refine X.block_ret ?_ | refine X.block_exit ?_)
                  exact X.nextP (fsI := fun _ => dFact D :: fs) [(32, 38), (33, 39)] ⟨rem', num + 1, ⟨head, false, nm, ar, cd ++ [x], ln ++ [num]⟩, num, cB, cC, 0⟩ (hgo cB cC hB hB2 hC hC2) ⟨hrem'.symm, rfl⟩ hr hpe rfl rfl hS7_ rfl hlb hfac (fun w hf => ff_swap hf) hfac2
  case hpanic =>
    rintro ⟨rem, num, p, last, c, c2, x0⟩ D hD hI
    dsimp only at hI ⊢
    repeat (first | refine X.pass_panic ?_ | refine X.block_panic ?_)
    have hpar : parseP (strB text) = .error (((num : Nat) : Int), 17) := by unfold parseP; rw [hI]
    refine X.finD [0, 1, 2, 32] (parse1_panic (num : Nat) 17 (p).nm x0 0 0 (.sl 3 8 0 (p).cd.length c) rfl) callParse1 (.inr ⟨_, rfl, rfl⟩) rfl rfl rfl rfl (by repeat (first | exact HasIn.nil | refine HasIn.same rfl rfl ?_ | refine HasIn.any rfl ?_ | refine HasIn.other rfl (fun e => by cases e) (fun ρ x w hh => tab_any hh) ?_)) rfl (fun _ => rfl) rfl hD hfc fun _ _ => ?_
    refine X.unpin (E := ⟨0, ρ, []⟩) (Nat.zero_le _) (fun l hl => absurd hl (Nat.not_lt_zero l)) ?_
    refine X.noneH 0 [.raw (.string ⟨#[]⟩), .raw (.int .i64 0), .sl 34 8 0 0 0] (tI [] 0) (none_tab _ _ _ _) rfl rfl rfl (fun ρ h => by have h : ρ 34 = none := h; show _ = AV.concs ρ [.raw (.string ⟨#[]⟩), .raw (.int .i64 0), .raw (.slice none 0 0)]; simp [AV.concs, AV.conc, h]) ?_
    refine X.finN ttok (⟨noT0, 0, [], 0, (num : Nat), 17⟩ : PV) [(0, 34)] ⟨by rw [hpar]; exact ⟨rfl, rfl, rfl, rfl, rfl⟩, Nat.le_refl _, Nat.zero_le _⟩ rfl rfl (by kernel_rfl) hS7_ _ (.inl rfl) (fun w hf => hf.ap) (fun p hp => hp) ?_
    exact fun p hp e => absurd e (by rw [hG.ro p hp]; decide)
  case hdone =>
    rintro ⟨rem, num, ⟨head, ended, nm, ar, cd, ln⟩, last, c, c2, x0⟩ D hD ⟨hrun, hnum, hcnt, hszN, hlast, hcd, hln, hhd, hls, ⟨hc1, hc1'⟩, ⟨hc2, hc2'⟩⟩ hfin
    dsimp only at hrun hnum hcnt hszN hlast hcd hln hhd hls hc1 hc1' hc2 hc2' hfin ⊢
    rw [hfin, linesL_nil] at hrun hcnt
    rw [List.length_nil, Nat.add_zero] at hcnt
    have hpar : parseP (strB text) = endP ⟨head, ended, nm, ar, cd, ln⟩ (linesL (strB text)).length := by unfold parseP; rw [hrun]; rfl
    rw [← hcnt] at hpar
    unfold endP at hpar
    dsimp only at hpar
    rw [← hlast] at hpar
    refine X.block_normal ?_
    refine X.thenA (CA.of ?_)
    cases ended with
    | false =>
      rw [if_pos rfl] at hpar
      refine sS_ ?_
      refine R.clP (refuse_panics (last : Nat)) Tryz.call21 rfl rfl ?_
      repeat (first | refine X.pass_panic ?_ | refine X.block_panic ?_)
      refine X.finD [0, 1, 2, 32] (parse1_panic (last : Nat) 17 ((⟨head, false, nm, ar, cd, ln⟩ : PR)).nm (ar : Nat) 0 0 (.sl 3 8 0 ((⟨head, false, nm, ar, cd, ln⟩ : PR)).cd.length c) rfl) callParse1 (.inr ⟨_, rfl, rfl⟩) rfl rfl rfl rfl (by repeat (first | exact HasIn.nil | refine HasIn.same rfl rfl ?_ | refine HasIn.any rfl ?_ | refine HasIn.other rfl (fun e => by cases e) (fun ρ x w hh => tab_any hh) ?_)) rfl (fun _ => rfl) rfl hD hfc fun _ _ => ?_
      refine X.unpin (E := ⟨0, ρ, []⟩) (Nat.zero_le _) (fun l hl => absurd hl (Nat.not_lt_zero l)) ?_
      refine X.noneH 0 [.raw (.string ⟨#[]⟩), .raw (.int .i64 0), .sl 34 8 0 0 0] (tI [] 0) (none_tab _ _ _ _) rfl rfl rfl (fun ρ h => by have h : ρ 34 = none := h; show _ = AV.concs ρ [.raw (.string ⟨#[]⟩), .raw (.int .i64 0), .raw (.slice none 0 0)]; simp [AV.concs, AV.conc, h]) ?_
      refine X.finN ttok (⟨noT0, 0, [], 0, (last : Nat), 17⟩ : PV) [(0, 34)] ⟨by rw [hpar]; exact ⟨rfl, rfl, rfl, rfl, rfl⟩, Nat.le_refl _, Nat.zero_le _⟩ rfl rfl (by kernel_rfl) hS7_ _ (.inl rfl) (fun w hf => hf.ap) (fun p hp => hp) ?_
      exact fun p hp e => absurd e (by rw [hG.ro p hp]; decide)
    | true =>
      rw [if_neg (show ¬ (true = false) from fun h => by cases h)] at hpar
      have hlt := @chkP_lt nm (ar : Nat) cd
      refine sS_ ?_
      refine R.cl [32] (checkP_spec nm (ar : Nat) cd 0 c (by omega)) Tryz.call15 ((by exact HasIn.other rfl (fun e => by cases e) (fun ρ x w hh => tab_ro hh) .nil)) rfl rfl rfl (fun _ => rfl) rfl (by kernel_rfl) fun _ _ => ?_
      obtain ⟨k, hk⟩ : ∃ k, chkP nm (ar : Nat) cd = k := ⟨_, rfl⟩
      rw [hk] at hpar hlt ⊢
      obtain ⟨i, e⟩ := k
      dsimp only at hpar hlt ⊢
      refine sS_ ?_
      by_cases he : e = 0
      · subst he
        rw [if_pos rfl] at hpar
        rw [show decide ((0 : Int) ≠ 0) = false from rfl]
        refine sS_ ?_
        refine X.finD [0, 1, 2] parse1_ret callParse1 (.inl ⟨.inl rfl, rfl⟩) rfl rfl rfl rfl (by repeat (first | exact HasIn.nil | refine HasIn.same rfl rfl ?_ | refine HasIn.any rfl ?_ | refine HasIn.other rfl (fun e => by cases e) (fun ρ x w hh => tab_any hh) ?_)) rfl (fun _ => rfl) rfl hD hfc fun _ _ => ?_
        refine X.unpin (E := ⟨0, ρ, []⟩) (Nat.zero_le _) (fun l hl => absurd hl (Nat.not_lt_zero l)) ?_
        refine X.finN ttok (⟨nm, (ar : Nat), cd, c, 0, 0⟩ : PV) [(0, 32)] ⟨by rw [hpar]; exact ⟨rfl, rfl, rfl, rfl, rfl⟩, hc1, hc1'⟩ rfl rfl (by kernel_rfl) hS7_ _ (.inl rfl) (fun w hf => hf.ap) (fun p hp => hp) ?_
        exact fun p hp e => absurd e (by rw [hG.ro p hp]; decide)
      · rw [if_neg he] at hpar
        rw [decide_eq_true (show e ≠ 0 from he)]
        refine sS_ ?_
        by_cases hi : 0 ≤ i
        · rw [decide_eq_true (show i ≥ 0 from hi)]
          rw [if_pos hi] at hpar
          have hlt := hlt he hi
          rw [← hln] at hlt
          refine sS_ ?_
          refine R.ix ttok i.toNat rfl rfl rfl rfl rfl (by kernel_rfl) (by omega) hlt (by show 0 + i.toNat < ln.length; omega) rfl ?_
          refine R.ldt (v := .raw (.int .i64 (ln.getD (0 + i.toNat) 0 : Nat))) ttok rfl rfl rfl rfl rfl (by kernel_rfl) (by show 0 + i.toNat < ln.length; omega) ?_
          rw [show ln.getD (0 + i.toNat) 0 = ln.getD i.toNat 0 by rw [Nat.zero_add]]
          refine sS_ ?_
          refine R.mki (.agg #[.int .i64 (ln.getD i.toNat 0 : Nat), .int .i64 e]) rfl (fun ρ => rfl) (Tryz.underlying50) (fun ms h => by cases h) rfl (by kernel_rfl) ?_
          refine sS_ ?_
          refine R.pan rfl rfl ?_
          repeat (first | refine X.pass_panic ?_ | refine X.block_panic ?_)
          refine X.finD [0, 1, 2, 32] (parse1_panic (ln.getD i.toNat 0 : Nat) e ((⟨head, true, nm, ar, cd, ln⟩ : PR)).nm (ar : Nat) 0 0 (.sl 3 8 0 ((⟨head, true, nm, ar, cd, ln⟩ : PR)).cd.length c) rfl) callParse1 (.inr ⟨_, rfl, rfl⟩) rfl rfl rfl rfl (by repeat (first | exact HasIn.nil | refine HasIn.same rfl rfl ?_ | refine HasIn.any rfl ?_ | refine HasIn.other rfl (fun e => by cases e) (fun ρ x w hh => tab_any hh) ?_)) rfl (fun _ => rfl) rfl hD hfc fun _ _ => ?_
          refine X.unpin (E := ⟨0, ρ, []⟩) (Nat.zero_le _) (fun l hl => absurd hl (Nat.not_lt_zero l)) ?_
          refine X.noneH 0 [.raw (.string ⟨#[]⟩), .raw (.int .i64 0), .sl 34 8 0 0 0] (tI [] 0) (none_tab _ _ _ _) rfl rfl rfl (fun ρ h => by have h : ρ 34 = none := h; show _ = AV.concs ρ [.raw (.string ⟨#[]⟩), .raw (.int .i64 0), .raw (.slice none 0 0)]; simp [AV.concs, AV.conc, h]) ?_
          refine X.finN ttok (⟨noT0, 0, [], 0, (ln.getD i.toNat 0 : Nat), e⟩ : PV) [(0, 34)] ⟨by rw [hpar]; exact ⟨rfl, rfl, rfl, rfl, rfl⟩, Nat.le_refl _, Nat.zero_le _⟩ rfl rfl (by kernel_rfl) hS7_ _ (.inl rfl) (fun w hf => hf.ap) (fun p hp => hp) ?_
          exact fun p hp e => absurd e (by rw [hG.ro p hp]; decide)
        · rw [decide_eq_false (show ¬ i ≥ 0 from hi)]
          rw [if_neg hi] at hpar
          refine sS_ ?_
          refine R.mki (.agg #[.int .i64 (head : Nat), .int .i64 e]) rfl (fun ρ => rfl) (Tryz.underlying50) (fun ms h => by cases h) rfl (by kernel_rfl) ?_
          refine sS_ ?_
          refine R.pan rfl rfl ?_
          repeat (first | refine X.pass_panic ?_ | refine X.block_panic ?_)
          refine X.finD [0, 1, 2, 32] (parse1_panic (head : Nat) e ((⟨head, true, nm, ar, cd, ln⟩ : PR)).nm (ar : Nat) 0 0 (.sl 3 8 0 ((⟨head, true, nm, ar, cd, ln⟩ : PR)).cd.length c) rfl) callParse1 (.inr ⟨_, rfl, rfl⟩) rfl rfl rfl rfl (by repeat (first | exact HasIn.nil | refine HasIn.same rfl rfl ?_ | refine HasIn.any rfl ?_ | refine HasIn.other rfl (fun e => by cases e) (fun ρ x w hh => tab_any hh) ?_)) rfl (fun _ => rfl) rfl hD hfc fun _ _ => ?_
          refine X.unpin (E := ⟨0, ρ, []⟩) (Nat.zero_le _) (fun l hl => absurd hl (Nat.not_lt_zero l)) ?_
          refine X.noneH 0 [.raw (.string ⟨#[]⟩), .raw (.int .i64 0), .sl 34 8 0 0 0] (tI [] 0) (none_tab _ _ _ _) rfl rfl rfl (fun ρ h => by have h : ρ 34 = none := h; show _ = AV.concs ρ [.raw (.string ⟨#[]⟩), .raw (.int .i64 0), .raw (.slice none 0 0)]; simp [AV.concs, AV.conc, h]) ?_
          refine X.finN ttok (⟨noT0, 0, [], 0, (head : Nat), e⟩ : PV) [(0, 34)] ⟨by rw [hpar]; exact ⟨rfl, rfl, rfl, rfl, rfl⟩, Nat.le_refl _, Nat.zero_le _⟩ rfl rfl (by kernel_rfl) hS7_ _ (.inl rfl) (fun w hf => hf.ap) (fun p hp => hp) ?_
          exact fun p hp e => absurd e (by rw [hG.ro p hp]; decide)
end Go.Proofs.YtaieficgifingaaGreatDoor
