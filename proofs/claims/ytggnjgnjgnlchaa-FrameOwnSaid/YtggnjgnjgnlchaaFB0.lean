/- frame: many frames one behind the other. Plain mathematics. -/
import Derived.Test.YtggnjgnjgnlchaaFG0
namespace Go.Proofs.Ytggnjgnjgnlchaa
set_option linter.unusedVariables false
set_option linter.unusedSimpArgs false
def sAll (ps : List (List UInt8)) : List UInt8 := ps.flatMap sealB
def OkB (ps : List (List UInt8)) : Prop := ∀ p ∈ ps, 0 < p.length ∧ p.length ≤ 65536
def endsF : List (List UInt8) → Nat → List Nat
  | [], _ => []
  | p :: ps, a => (a + 8 + p.length) :: endsF ps (a + 8 + p.length)
def posF : List (List UInt8) → Nat → List (Nat × List UInt8)
  | [], _ => []
  | p :: ps, a => (a, p) :: posF ps (a + 8 + p.length)
theorem sAll_cons (p : List UInt8) (ps : List (List UInt8)) : sAll (p :: ps) = sealB p ++ sAll ps := rfl
theorem sAll_snoc (ps : List (List UInt8)) (p : List UInt8) : sAll (ps ++ [p]) = sAll ps ++ sealB p := by simp [sAll]
theorem sAll_ge (ps : List (List UInt8)) : ps.length * 8 ≤ (sAll ps).length := by
  induction ps with
  | nil => simp [sAll]
  | cons p ps ih =>
    rw [sAll_cons, List.length_append, List.length_cons, sealB_length]
    omega
theorem endsF_length (ps : List (List UInt8)) : ∀ a, (endsF ps a).length = ps.length := by
  induction ps with
  | nil => intro a; rfl
  | cons p ps ih => intro a; simp [endsF, ih]
theorem endsF_snoc (ps : List (List UInt8)) (p : List UInt8) : ∀ a, endsF (ps ++ [p]) a = endsF ps a ++ [a + (sAll ps).length + 8 + p.length] := by
  induction ps with
  | nil => intro a; simp [endsF, sAll]
  | cons x ps ih =>
    intro a
    rw [List.cons_append, endsF, ih, endsF, List.cons_append, sAll_cons, List.length_append, sealB_length]
    congr 3
    omega
theorem posF_length (ps : List (List UInt8)) : ∀ a, (posF ps a).length = ps.length := by
  induction ps with
  | nil => intro a; rfl
  | cons p ps ih => intro a; simp [posF, ih]
theorem endsF_get (ps : List (List UInt8)) : ∀ (a i : Nat), i < ps.length → (endsF ps a).getD i 0 = a + (sAll (ps.take (i + 1))).length := by
  induction ps with
  | nil => intro a i h; simp at h
  | cons p ps ih =>
    intro a i h
    cases i with
    | zero => simp [endsF, sAll, sealB_length]; omega
    | succ i =>
      have := ih (a + 8 + p.length) i (by simpa using h)
      rw [List.take_succ_cons, sAll_cons, List.length_append, sealB_length]
      simp only [endsF, List.getD_cons_succ, this]
      omega
theorem posF_get (ps : List (List UInt8)) : ∀ (a i : Nat), i < ps.length → (posF ps a)[i]? = some (a + (sAll (ps.take i)).length, ps.getD i []) := by
  induction ps with
  | nil => intro a i h; simp at h
  | cons p ps ih =>
    intro a i h
    cases i with
    | zero => simp [posF, sAll]
    | succ i =>
      have := ih (a + 8 + p.length) i (by simpa using h)
      rw [List.take_succ_cons, sAll_cons, List.length_append, sealB_length]
      simp only [posF, List.getElem?_cons_succ, this, List.getD_cons_succ]
      congr 2
      omega
theorem next_all {q r : List UInt8} {p : List UInt8} {ps : List (List UInt8)} (hp : 0 < p.length ∧ p.length ≤ 65536) : nextN (q ++ sAll (p :: ps) ++ r) q.length = .ok (p, q.length + 8 + p.length) := by
  have := next_seal q p (sAll ps ++ r) hp.1 hp.2
  rw [sAll_cons]
  simpa [List.append_assoc] using this
theorem scan_all (ps : List (List UInt8)) (r : List UInt8) : ∀ q : List UInt8, OkB ps → scanK (q ++ sAll ps ++ r) q.length = posF ps q.length ++ scanK (q ++ sAll ps ++ r) (q.length + (sAll ps).length) := by
  induction ps with
  | nil => intro q _; simp [sAll, posF]
  | cons p ps ih =>
    intro q h
    have hp := h p (by simp)
    have h2 := ih (q ++ sealB p) (fun x hx => h x (by simp [hx]))
    have hl : (q ++ sealB p).length = q.length + 8 + p.length := by rw [List.length_append, sealB_length]; omega
    have e : q ++ sealB p ++ sAll ps ++ r = q ++ sAll (p :: ps) ++ r := by rw [sAll_cons]; simp [List.append_assoc]
    rw [scanK_ok (next_all hp), posF, List.cons_append]
    rw [hl, e] at h2
    rw [h2, sAll_cons, List.length_append, sealB_length]
    congr 3
    omega
theorem wE_all (ps : List (List UInt8)) (r : List UInt8) : ∀ q : List UInt8, OkB ps → wE (q ++ sAll ps ++ r) q.length = wE (q ++ sAll ps ++ r) (q.length + (sAll ps).length) := by
  induction ps with
  | nil => intro q _; simp [sAll]
  | cons p ps ih =>
    intro q h
    have hp := h p (by simp)
    have h2 := ih (q ++ sealB p) (fun x hx => h x (by simp [hx]))
    have hl : (q ++ sealB p).length = q.length + 8 + p.length := by rw [List.length_append, sealB_length]; omega
    have e : q ++ sealB p ++ sAll ps ++ r = q ++ sAll (p :: ps) ++ r := by rw [sAll_cons]; simp [List.append_assoc]
    rw [wE_ok (next_all hp)]
    rw [hl, e] at h2
    rw [h2, sAll_cons, List.length_append, sealB_length]
    congr 1
    omega
theorem le4_zero (r : List UInt8) : le4 (0 :: 0 :: 0 :: 0 :: r) = 0 := by
  simp [le4, pre]
theorem next_zero (b : List UInt8) (z : Nat) : nextN (b ++ List.replicate z 0) b.length = .error (if z = 0 then 12 else 13) := by
  by_cases hz : z = 0
  · subst hz
    simp [next_end]
  rw [if_neg hz]
  unfold nextN
  rw [if_neg (by simp; omega)]
  split
  · rfl
  · rename_i h
    simp at h
    have : le4 ((b ++ List.replicate z 0).drop b.length) = 0 := by
      rw [List.drop_left]
      obtain ⟨y, rfl⟩ : ∃ y, z = y + 4 := ⟨z - 4, by omega⟩
      have e : List.replicate (y + 4) (0 : UInt8) = 0 :: 0 :: 0 :: 0 :: List.replicate y 0 := by rw [List.replicate_succ, List.replicate_succ, List.replicate_succ, List.replicate_succ]
      rw [e]
      exact le4_zero _
    dsimp only
    rw [this, if_pos (.inl rfl)]
theorem next_ext {p : List UInt8} {n k e : Nat} {b : List UInt8} (h : nextN (p.take n) k = .ok (b, e)) : nextN p k = .ok (b, e) ∧ e ≤ n := by
  obtain ⟨h1, h2, h3, h4, h5⟩ := next_ok h
  have hl : (p.take n).length ≤ n := by rw [List.length_take]; omega
  have hlp : (p.take n).length ≤ p.length := by rw [List.length_take]; omega
  have e1 : p = p.take k ++ sealB b ++ p.drop e := by
    have e2 : p = p.take n ++ p.drop n := (List.take_append_drop n p).symm
    have e3 : p.take n = (p.take n).take k ++ (sealB b ++ (p.take n).drop e) := by rw [← h5, List.take_append_drop]
    have e4 : (p.take n).take k = p.take k := by rw [List.take_take, Nat.min_eq_left (by omega)]
    have e5 : (p.take n).drop e ++ p.drop n = p.drop e := by
      conv => rhs; rw [e2]
      rw [List.drop_append_of_le_length (by omega)]
    conv => lhs; rw [e2, e3, e4]
    rw [List.append_assoc, List.append_assoc, e5, List.append_assoc]
  have hk : (p.take k).length = k := by rw [List.length_take]; omega
  have := next_seal (p.take k) b (p.drop e) h3 h4
  rw [← e1, hk, h1] at this
  exact ⟨this, by omega⟩
/-- the place behind the last whole one ahead of a cut -/
def whF (cut : Nat) (w : Nat) (l : List Nat) : Nat := l.foldl (fun w e => if e ≤ cut then e else w) w
theorem endsF_ge (ps : List (List UInt8)) : ∀ a, ∀ e ∈ endsF ps a, a ≤ e := by
  induction ps with
  | nil => intro a e h; simp [endsF] at h
  | cons p ps ih =>
    intro a e h
    simp only [endsF, List.mem_cons] at h
    rcases h with rfl | h
    · omega
    · have := ih _ e h; omega
theorem whF_none (cut : Nat) : ∀ (l : List Nat) (w : Nat), (∀ e ∈ l, cut < e) → whF cut w l = w
  | [], _, _ => rfl
  | x :: l, w, h => by
    unfold whF
    rw [List.foldl_cons, if_neg (by have := h x (by simp); omega)]
    exact whF_none cut l w fun e he => h e (by simp [he])
theorem wE_cut (ps : List (List UInt8)) (cut : Nat) : ∀ q : List UInt8, OkB ps → q.length ≤ cut → wE ((q ++ sAll ps).take cut) q.length = whF cut q.length (endsF ps q.length) := by
  induction ps with
  | nil =>
    intro q _ hc
    have e : (q ++ sAll []).take cut = q := by rw [show sAll [] = [] from rfl, List.append_nil, List.take_of_length_le hc]
    rw [e, wE_err (next_end q)]
    rfl
  | cons p ps ih =>
    intro q h hc
    have hp := h p (by simp)
    have hn : nextN (q ++ sAll (p :: ps)) q.length = .ok (p, q.length + 8 + p.length) := by
      have := next_all (q := q) (r := []) (ps := ps) hp
      simpa using this
    have hl : (q ++ sealB p).length = q.length + 8 + p.length := by rw [List.length_append, sealB_length]; omega
    have e : q ++ sealB p ++ sAll ps = q ++ sAll (p :: ps) := by rw [sAll_cons]; simp [List.append_assoc]
    have hlen : q.length + 8 + p.length ≤ (q ++ sAll (p :: ps)).length := by rw [← e, List.length_append, hl]; omega
    simp only [endsF, whF, List.foldl_cons]
    by_cases hle : q.length + 8 + p.length ≤ cut
    · rw [if_pos hle]
      have h2 := ih (q ++ sealB p) (fun x hx => h x (by simp [hx])) (by omega)
      rw [hl, e] at h2
      have h3 : nextN ((q ++ sAll (p :: ps)).take cut) q.length = .ok (p, q.length + 8 + p.length) := by
        rcases Nat.le_total cut (q ++ sAll (p :: ps)).length with h4 | h4
        · exact next_take hn hle h4
        · rw [List.take_of_length_le h4]; exact hn
      rw [wE_ok h3, h2]
      rfl
    · rw [if_neg hle]
      have h3 : ∃ x, nextN ((q ++ sAll (p :: ps)).take cut) q.length = .error x := by
        cases hx : nextN ((q ++ sAll (p :: ps)).take cut) q.length with
        | error x => exact ⟨x, rfl⟩
        | ok r =>
          obtain ⟨b, e2⟩ := r
          have := next_ext hx
          rw [hn] at this
          obtain ⟨h5, h6⟩ := this
          cases h5
          omega
      obtain ⟨x, hx⟩ := h3
      rw [wE_err hx]
      have := whF_none cut (endsF ps (q.length + 8 + p.length)) q.length fun e he => by have := endsF_ge _ _ e he; omega
      exact this.symm
end Go.Proofs.Ytggnjgnjgnlchaa
