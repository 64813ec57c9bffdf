/- frame: how many bytes at the beginning are whole frames. Plain mathematics. -/
import Derived.Test.YtggnjgnjgnlchaaFX3
namespace Go.Proofs.Ytggnjgnjgnlchaa
set_option linter.unusedVariables false
set_option linter.unusedSimpArgs false
def wEnd (p : List UInt8) : Nat → Nat → Nat
  | 0, k => k
  | f + 1, k => match nextN p k with
    | .ok (_, e) => wEnd p f e
    | .error _ => k
def wE (p : List UInt8) (k : Nat) : Nat := wEnd p (p.length + 1) k
theorem wEnd_fuel (p : List UInt8) : ∀ (f1 f2 k : Nat), p.length < f1 + k → p.length < f2 + k → k ≤ p.length → wEnd p f1 k = wEnd p f2 k
  | 0, _, k, h1, _, h3 => by omega
  | f1 + 1, 0, k, _, h2, h3 => by omega
  | f1 + 1, f2 + 1, k, h1, h2, h3 => by
    simp only [wEnd]
    cases h : nextN p k with
    | error x => rfl
    | ok r =>
      obtain ⟨b, e⟩ := r
      have hk := next_ok h
      exact wEnd_fuel p f1 f2 e (by omega) (by omega) hk.2.1
theorem wE_ok {p : List UInt8} {k : Nat} {b : List UInt8} {e : Nat} (h : nextN p k = .ok (b, e)) : wE p k = wE p e := by
  have hk := next_ok h
  unfold wE
  conv => lhs; unfold wEnd
  rw [h]
  exact wEnd_fuel p _ _ e (by omega) (by omega) hk.2.1
theorem wE_err {p : List UInt8} {k x : Nat} (h : nextN p k = .error x) : wE p k = k := by
  unfold wE wEnd
  rw [h]
theorem frame_ind (p : List UInt8) (M : Nat → Prop) (herr : ∀ k x, nextN p k = .error x → M k) (hok : ∀ k b e, nextN p k = .ok (b, e) → M e → M k) : ∀ (m k : Nat), p.length + 1 - k ≤ m → M k := by
  intro m
  induction m with
  | zero =>
    intro k hm
    cases h : nextN p k with
    | error x => exact herr k x h
    | ok r =>
      obtain ⟨b, e⟩ := r
      have := next_ok h
      omega
  | succ m ih =>
    intro k hm
    cases h : nextN p k with
    | error x => exact herr k x h
    | ok r =>
      obtain ⟨b, e⟩ := r
      have := next_ok h
      exact hok k b e h (ih e (by omega))
theorem wE_ge (p : List UInt8) (k : Nat) : k ≤ p.length → k ≤ wE p k ∧ wE p k ≤ p.length := by
  refine frame_ind p (fun k => k ≤ p.length → k ≤ wE p k ∧ wE p k ≤ p.length) (fun k x h hk => ?_) (fun k b e h ih hk => ?_) _ k (Nat.le_refl _)
  · rw [wE_err h]; exact ⟨Nat.le_refl _, hk⟩
  · have h1 := next_ok h
    rw [wE_ok h]
    have := ih h1.2.1
    omega
theorem wE_stop (p : List UInt8) (k : Nat) : ∃ x, nextN p (wE p k) = .error x :=
  frame_ind p (fun k => ∃ x, nextN p (wE p k) = .error x) (fun k x h => by rw [wE_err h]; exact ⟨x, h⟩) (fun k b e h ih => by rw [wE_ok h]; exact ih) _ k (Nat.le_refl _)
theorem next_take {p : List UInt8} {k n e : Nat} {b : List UInt8} (h : nextN p k = .ok (b, e)) (he : e ≤ n) (hn : n ≤ p.length) : nextN (p.take n) k = .ok (b, e) := by
  obtain ⟨h1, h2, h3, h4, h5⟩ := next_ok h
  have hs := sealB_length b
  have e1 : p.take n = p.take k ++ sealB b ++ (p.drop e).take (n - e) := by
    have h6 : p = p.take k ++ (sealB b ++ p.drop e) := by rw [← h5, List.take_append_drop]
    conv => lhs; rw [h6]
    have hk : (p.take k).length = k := by rw [List.length_take]; omega
    rw [List.take_append, hk, List.take_of_length_le (show (p.take k).length ≤ n by omega), List.take_append, List.take_of_length_le (show (sealB b).length ≤ n - k by omega), hs, List.append_assoc]
    congr 3
    omega
  have hk : (p.take k).length = k := by rw [List.length_take]; omega
  have := next_seal (p.take k) b ((p.drop e).take (n - e)) h3 h4
  rw [← e1, hk, h1] at this
  exact this
theorem next_end (p : List UInt8) : nextN p p.length = .error 12 := by unfold nextN; rw [if_pos rfl]
theorem err13 {p : List UInt8} {k x : Nat} (h : nextN p k = .error x) (hk : k ≠ p.length) : x = 13 := by
  unfold nextN at h
  rw [if_neg hk] at h
  split at h
  · simpa using h.symm
  dsimp only at h
  split at h
  · simpa using h.symm
  split at h
  · cases h
  · simpa using h.symm
theorem wE_take (p : List UInt8) (n : Nat) (hn : n ≤ p.length) (k : Nat) : k ≤ p.length → wE p k = n → wE (p.take n) k = n := by
  refine frame_ind p (fun k => k ≤ p.length → wE p k = n → wE (p.take n) k = n) (fun k x h hk he => ?_) (fun k b e h ih hk he => ?_) _ k (Nat.le_refl _)
  · rw [wE_err h] at he
    subst he
    have hl : (p.take k).length = k := by rw [List.length_take]; omega
    have := next_end (p.take k)
    rw [hl] at this
    exact wE_err this
  · have h1 := next_ok h
    rw [wE_ok h] at he
    have h2 := wE_ge p e h1.2.1
    rw [wE_ok (next_take h (by omega) hn)]
    exact ih h1.2.1 he
theorem next_app {p : List UInt8} (q : List UInt8) {k e : Nat} {b : List UInt8} (h : nextN p k = .ok (b, e)) : nextN (q ++ p) (q.length + k) = .ok (b, q.length + e) := by
  obtain ⟨h1, h2, h3, h4, h5⟩ := next_ok h
  have h6 : p = p.take k ++ sealB b ++ p.drop e := by rw [List.append_assoc, ← h5, List.take_append_drop]
  have := next_seal (q ++ p.take k) b (p.drop e) h3 h4
  have hk : (q ++ p.take k).length = q.length + k := by rw [List.length_append, List.length_take]; omega
  rw [hk, List.append_assoc, List.append_assoc] at this
  rw [List.append_assoc] at h6
  rw [← h6] at this
  rw [this]
  congr 2
  omega
theorem next_app_err {p : List UInt8} (q : List UInt8) {k x : Nat} (h : nextN p k = .error x) (hk : k ≤ p.length) : ∃ y, nextN (q ++ p) (q.length + k) = .error y := by
  cases hc : nextN (q ++ p) (q.length + k) with
  | error y => exact ⟨y, rfl⟩
  | ok r =>
    exfalso
    obtain ⟨b, e⟩ := r
    obtain ⟨h1, h2, h3, h4, h5⟩ := next_ok hc
    have hd : (q ++ p).drop (q.length + k) = p.drop k := by rw [← List.drop_drop, List.drop_left]
    rw [hd] at h5
    have h6 : p = p.take k ++ sealB b ++ (q ++ p).drop e := by rw [List.append_assoc, ← h5, List.take_append_drop]
    have := next_seal (p.take k) b ((q ++ p).drop e) h3 h4
    have hl : (p.take k).length = k := by rw [List.length_take]; omega
    rw [← h6, hl, h] at this
    cases this
theorem wE_app (q p : List UInt8) (k : Nat) : k ≤ p.length → wE (q ++ p) (q.length + k) = q.length + wE p k := by
  refine frame_ind p (fun k => k ≤ p.length → wE (q ++ p) (q.length + k) = q.length + wE p k) (fun k x h hk => ?_) (fun k b e h ih hk => ?_) _ k (Nat.le_refl _)
  · obtain ⟨y, hy⟩ := next_app_err q h hk
    rw [wE_err h, wE_err hy]
  · have h1 := next_ok h
    rw [wE_ok h, wE_ok (next_app q h)]
    exact ih h1.2.1
theorem lastE_cons (x : Nat × Nat) (l : List (Nat × Nat)) : lastE (x :: l) = if l = [] then x.1 + 8 + x.2 else lastE l := by
  unfold lastE
  cases l with
  | nil => rfl
  | cons y l => simp [List.getLast?_cons_cons]
theorem scan_end (p : List UInt8) : ∀ (f k : Nat), (scanF p f k = [] → wEnd p f k = k) ∧ (scanF p f k ≠ [] → lastE ((scanF p f k).map keyL) = wEnd p f k)
  | 0, k => ⟨fun _ => rfl, fun h => absurd rfl h⟩
  | f + 1, k => by
    cases h : nextN p k with
    | error x => simp [scanF, wEnd, h]
    | ok r =>
      obtain ⟨b, e⟩ := r
      have ih := scan_end p f e
      have hk := next_ok h
      simp only [scanF, wEnd, h]
      refine ⟨fun hx => (by cases hx), fun _ => ?_⟩
      rw [List.map_cons, lastE_cons]
      by_cases hs : scanF p f e = []
      · rw [hs, List.map_nil, if_pos rfl, ih.1 hs]
        exact hk.1
      · rw [if_neg (by simpa using hs)]
        exact ih.2 hs
theorem whole_wE (p : List UInt8) : wholeN p = wE p 0 := by
  have h := scan_end p (p.length + 1) 0
  unfold wholeN scanK wE
  by_cases hs : scanF p (p.length + 1) 0 = []
  · rw [hs, h.1 hs]; rfl
  · exact h.2 hs
theorem whole_seal (b p : List UInt8) (h0 : 0 < b.length) (h1 : b.length ≤ 65536) : wholeN (sealB b ++ p) = (sealB b).length + wholeN p := by
  have h := next_seal [] b p h0 h1
  simp only [List.nil_append, List.length_nil, Nat.zero_add] at h
  rw [whole_wE, whole_wE, wE_ok h, ← wE_app (sealB b) p 0 (Nat.zero_le _), sealB_length, Nat.add_zero]
end Go.Proofs.Ytggnjgnjgnlchaa
