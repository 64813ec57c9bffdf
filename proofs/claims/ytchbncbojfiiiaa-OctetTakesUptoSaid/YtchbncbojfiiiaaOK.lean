/- octet: what is laid is taken again; what is taken, laid again, is what was there. Plain mathematics. -/
import Derived.Test.YtchbncbojfiiiaaOI
namespace Go.Proofs.Ytchbncbojfiiiaa
set_option linter.unusedVariables false
set_option linter.unusedSimpArgs false
open Go.RowKit
set_option maxRecDepth 100000
theorem u8_small {u : Nat} (h : u < 256) : (UInt8.ofNat u).toNat = u := by rw [UInt8.toNat_ofNat']; omega
theorem row_sev {most last : Nat} (r : List UInt8) : ∀ (u i acc : Nat), i + (sevN u).length ≤ most → (0 < i → 0 < u) → (∀ j, i + j + 1 = most → u / 128 ^ j ≤ last) → rowA most last i acc (sevN u ++ r) = (0, acc + u * 128 ^ i, i + (sevN u).length) := by
  intro u
  induction u using Nat.strongRecOn with
  | _ u ih =>
    intro i acc hm hi hl
    by_cases h : u < 128
    · have hl0 := hl 0
      rw [sevN_lt h] at hm ⊢
      simp only [List.length_cons, List.length_nil] at hm ⊢
      have hu : (UInt8.ofNat u).toNat = u := u8_small (by omega)
      rw [List.singleton_append, rowA_end (by rw [hu]; intro ⟨h1, h2⟩; have := hl0 (by omega); simp at this; omega) (by rw [hu]; exact h) (by rw [hu]; intro ⟨h1, h2⟩; have := hi h1; omega), hu, Nat.mod_eq_of_lt h]
    · have h := Nat.le_of_not_lt h
      rw [sevN_ge h] at hm ⊢
      simp only [List.length_cons] at hm ⊢
      have hp := sevN_pos (u / 128)
      have hu : (UInt8.ofNat (u % 128 + 128)).toNat = u % 128 + 128 := u8_small (by omega)
      have hq : 0 < u / 128 := Nat.div_pos h (by omega)
      have hlt : u / 128 < u := Nat.div_lt_self (by omega) (by omega)
      rw [List.cons_append, rowA_on (by rw [hu]; intro ⟨h1, h2⟩; omega) (by rw [hu]; omega), hu, ih (u / 128) hlt (i + 1) _ (by omega) (fun _ => hq) (fun j hj => by
        have := hl (j + 1) (by omega)
        rwa [Nat.pow_succ', ← Nat.div_div_eq_div_mul] at this)]
      have e1 : (u % 128 + 128) % 128 = u % 128 := by omega
      have e2 : u % 128 * 128 ^ i + u / 128 * 128 ^ (i + 1) = u * 128 ^ i := by
        rw [Nat.pow_succ', ← Nat.mul_assoc, ← Nat.add_mul]
        congr 1
        omega
      rw [e1]
      simp only [Prod.mk.injEq, true_and]
      exact ⟨by omega, by omega⟩
theorem rd_sev9 (pre r : List UInt8) (u : Nat) (h : u < 9223372036854775808) : rdRow (pre ++ (sevN u ++ r)) pre.length 0 9 127 = (u, pre.length + (sevN u).length, 0) := by
  have hl := sevN_len 9 u (by rw [pow128_9]; exact h) (by omega)
  have := row_sev (most := 9) (last := 127) r u 0 0 (by omega) (fun h => by omega) (fun j hj => by
    have : u / 128 ^ j < 128 := by rw [Nat.div_lt_iff_lt_mul (Nat.pow_pos (by omega))]; obtain rfl : j = 8 := by omega
                                   omega
    omega)
  unfold rdRow
  rw [if_neg (by simp), List.drop_left, this]
  simp
theorem rd_sev10 (pre r : List UInt8) (u : Nat) (h : u < 18446744073709551616) : rdRow (pre ++ (sevN u ++ r)) pre.length 0 10 1 = (u, pre.length + (sevN u).length, 0) := by
  have hl := sevN_len10 h
  have := row_sev (most := 10) (last := 1) r u 0 0 (by omega) (fun h => by omega) (fun j hj => by
    have : u / 128 ^ j < 2 := by rw [Nat.div_lt_iff_lt_mul (Nat.pow_pos (by omega))]; obtain rfl : j = 9 := by omega
                                 omega
    omega)
  unfold rdRow
  rw [if_neg (by simp), List.drop_left, this]
  simp
theorem unzig_zig {v : Int} : unzig (zigN v) = v := by
  unfold unzig zigN
  by_cases h : 0 ≤ v
  · rw [if_pos h, if_pos (by omega)]; omega
  · rw [if_neg h, if_neg (by omega)]; omega
theorem leV_leN : ∀ (k v : Nat), leV (leN k v) = v % 256 ^ k
  | 0, v => by simp [leN, leV, Nat.mod_one]
  | k + 1, v => by
    have : (UInt8.ofNat (v % 256)).toNat = v % 256 := u8_small (by omega)
    simp only [leN, leV, this, leV_leN k (v / 256)]
    rw [Nat.pow_succ', Nat.mod_mul]
theorem strOf_strB (s : ByteArray) : strOf (strB s) = s := by
  cases s; rfl
/-- an item's bytes, if it may be laid -/
def encI (x : It) : List UInt8 :=
  if x.k = 1 then [UInt8.ofNat (x.u % 256)] else if x.k = 2 then leN x.n.toNat x.u else if x.k = 3 then sevN x.n.toNat else if x.k = 4 then sevN (zigN x.i) else if x.k = 5 then sevN x.s.size ++ strB x.s else []
def OkI (x : It) : Prop := ¬ (x.k = 2 ∧ (x.n < 0 ∨ 8 < x.n)) ∧ ¬ (x.k = 3 ∧ x.n < 0)
theorem enc_1 {x : It} (h : x.k = 1) : encI x = [UInt8.ofNat (x.u % 256)] := if_pos h
theorem enc_2 {x : It} (h : x.k = 2) : encI x = leN x.n.toNat x.u := by unfold encI; rw [if_neg (by omega), if_pos h]
theorem enc_3 {x : It} (h : x.k = 3) : encI x = sevN x.n.toNat := by unfold encI; rw [if_neg (by omega), if_neg (by omega), if_pos h]
theorem enc_4 {x : It} (h : x.k = 4) : encI x = sevN (zigN x.i) := by unfold encI; rw [if_neg (by omega), if_neg (by omega), if_neg (by omega), if_pos h]
theorem enc_5 {x : It} (h : x.k = 5) : encI x = sevN x.s.size ++ strB x.s := by unfold encI; rw [if_neg (by omega), if_neg (by omega), if_neg (by omega), if_neg (by omega), if_pos h]
theorem enc_no {x : It} (h1 : x.k ≠ 1) (h2 : x.k ≠ 2) (h3 : x.k ≠ 3) (h4 : x.k ≠ 4) (h5 : x.k ≠ 5) : encI x = [] := by unfold encI; rw [if_neg h1, if_neg h2, if_neg h3, if_neg h4, if_neg h5]
theorem lay_ok {x : It} (p : List UInt8) (h : OkI x) : layP p 0 x = p ++ encI x ∧ layE 0 x = 0 := by
  by_cases h1 : x.k = 1
  · rw [(layP_1 p 0 h1).1, (layP_1 p 0 h1).2, enc_1 h1, layF_ok]; exact ⟨rfl, rfl⟩
  by_cases h2 : x.k = 2
  · have := h.1
    rw [(layP_2 p 0 h2).1, (layP_2 p 0 h2).2, enc_2 h2]
    unfold fixP fixE
    rw [if_neg (fun e => this ⟨h2, e⟩), if_neg (fun e => this ⟨h2, e⟩), layF_ok]
    exact ⟨rfl, rfl⟩
  by_cases h3 : x.k = 3
  · have := h.2
    rw [(layP_3 p 0 h3).1, (layP_3 p 0 h3).2, enc_3 h3]
    unfold numP numE
    rw [if_neg (fun e => this ⟨h3, e⟩), if_neg (fun e => this ⟨h3, e⟩), layF_ok]
    exact ⟨rfl, rfl⟩
  by_cases h4 : x.k = 4
  · rw [(layP_4 p 0 h4).1, (layP_4 p 0 h4).2, enc_4 h4, layF_ok]; exact ⟨rfl, rfl⟩
  by_cases h5 : x.k = 5
  · rw [(layP_5 p 0 h5).1, (layP_5 p 0 h5).2, enc_5 h5]; unfold textP; rw [layF_ok]; exact ⟨rfl, rfl⟩
  rw [(layP_no p 0 h1 h2 h3 h4 h5).1, (layP_no p 0 h1 h2 h3 h4 h5).2, enc_no h1 h2 h3 h4 h5, List.append_nil]
  exact ⟨rfl, rfl⟩
theorem lay_bad {x : It} (p : List UInt8) (h : ¬ OkI x) : layP p 0 x = p ∧ layE 0 x ≠ 0 := by
  have : (x.k = 2 ∧ (x.n < 0 ∨ 8 < x.n)) ∨ (x.k = 3 ∧ x.n < 0) := by
    unfold OkI at h
    by_cases h1 : x.k = 2 ∧ (x.n < 0 ∨ 8 < x.n)
    · exact .inl h1
    · exact .inr (Decidable.byContradiction fun h2 => h ⟨h1, h2⟩)
  rcases this with ⟨h2, hn⟩ | ⟨h3, hn⟩
  · rw [(layP_2 p 0 h2).1, (layP_2 p 0 h2).2]
    unfold fixP fixE stopE
    rw [if_pos hn, if_pos hn]
    exact ⟨rfl, by simp⟩
  · rw [(layP_3 p 0 h3).1, (layP_3 p 0 h3).2]
    unfold numP numE stopE
    rw [if_pos hn, if_pos hn]
    exact ⟨rfl, by simp⟩
/-- as OctetBack asks for it -/
def askI (x : It) : It := if x.k = 5 then { x with n := x.s.size } else x
theorem tk_enc {x : It} (hx : x.Ok) (hs : x.s.size ≤ 100000) (ho : OkI x) (pre r : List UInt8) :
    tk (pre ++ (encI x ++ r)) pre.length 0 (askI x) = ⟨if x.k = 1 then x.u % 256 else if x.k = 2 then x.u % 256 ^ x.n.toNat else 0, if x.k = 3 then x.n else if x.k = 4 then x.i else 0, if x.k = 5 then strB x.s else [], pre.length + (encI x).length, 0⟩ := by
  by_cases h1 : x.k = 1
  · have e : askI x = x := if_neg (by omega)
    rw [e, tk_1 h1, enc_1 h1, if_pos h1, if_neg (by omega), if_neg (by omega), if_neg (by omega)]
    unfold rdByte
    rw [if_neg (by simp), if_neg (by simp)]
    have : (UInt8.ofNat (x.u % 256)).toNat = x.u % 256 := u8_small (by omega)
    simp [List.getD, this]
  by_cases h2 : x.k = 2
  · have e : askI x = x := if_neg (by omega)
    have hn := ho.1
    have hn2 : ¬ (x.n < 0 ∨ 8 < x.n) := fun h => hn ⟨h2, h⟩
    rw [e, tk_2 h2, enc_2 h2, if_neg h1, if_pos h2, if_neg (by omega), if_neg (by omega), if_neg (by omega)]
    unfold rdFixed
    have hl : ((pre ++ (leN x.n.toNat x.u ++ r)).length : Nat) - pre.length = x.n.toNat + r.length := by simp [leN_len]
    rw [if_neg (by simp), if_neg hn2, hl, if_neg (by omega), List.drop_left]
    have e2 : (leN x.n.toNat x.u ++ r).take x.n.toNat = leN x.n.toNat x.u := List.take_left' (leN_len _ _)
    rw [e2, leV_leN, leN_len]
  by_cases h3 : x.k = 3
  · have e : askI x = x := if_neg (by omega)
    have hn := ho.2
    have hn2 : ¬ x.n < 0 := fun h => hn ⟨h3, h⟩
    have hx2 := hx.n2
    rw [e, tk_3 h3, enc_3 h3, if_neg h1, if_neg h2, if_pos h3, if_neg (by omega), rd_sev9 _ _ _ (by omega)]
    simp only [Tk.mk.injEq, true_and, and_true]
    omega
  by_cases h4 : x.k = 4
  · have e : askI x = x := if_neg (by omega)
    rw [e, tk_4 h4, enc_4 h4, if_neg h1, if_neg h2, if_neg h3, if_pos h4, if_neg (by omega), rd_sev10 _ _ _ (zigN_lt hx.i1 hx.i2), unzig_zig]
  by_cases h5 : x.k = 5
  · have e : askI x = { x with n := x.s.size } := if_pos h5
    have hk : (askI x).k = 5 := by rw [e]; exact h5
    rw [tk_5 hk, e, enc_5 h5, if_neg h1, if_neg h2, if_neg h3, if_neg h4, if_pos h5]
    have hr := rd_sev9 pre (strB x.s ++ r) x.s.size (by omega)
    have hsz := strB_size x.s
    unfold rdText
    rw [if_neg (by simp), List.append_assoc]
    have hd : (pre ++ (sevN x.s.size ++ (strB x.s ++ r))).drop (pre.length + (sevN x.s.size).length) = strB x.s ++ r := by
      rw [← List.append_assoc]
      exact List.drop_left' (by rw [List.length_append])
    have hl : (pre ++ (sevN x.s.size ++ (strB x.s ++ r))).length - (pre.length + (sevN x.s.size).length) = x.s.size + r.length := by
      simp only [List.length_append, hsz]; omega
    simp only [hr, hd, hl]
    rw [if_neg (by simp), if_neg (by omega), if_neg (by omega), List.take_left' hsz]
    simp only [List.length_append, hsz, Tk.mk.injEq, true_and, and_true]
    omega
  have e : askI x = x := if_neg h5
  rw [e, tk_no h1 h2 h3 h4 h5, enc_no h1 h2 h3 h4 h5, if_neg h1, if_neg h2, if_neg h3, if_neg h4, if_neg h5]
  rfl
/-- what stands there is what is laid of it -/
theorem row_back {most last : Nat} (hl2 : last < 128) : ∀ (l : List UInt8) (i acc v k : Nat), rowA most last i acc l = (0, v, k) → ∃ u, v = acc + u * 128 ^ i ∧ k = i + (sevN u).length ∧ l.take (sevN u).length = sevN u ∧ (0 < i → 0 < u) := by
  intro l
  induction l with
  | nil => intro i acc v k h; rw [rowA_nil rfl] at h; simp at h
  | cons c r ih =>
    intro i acc v k h
    by_cases h1 : i + 1 = most ∧ last < c.toNat
    · rw [rowA_range h1.1 h1.2] at h; simp at h
    by_cases h2 : c.toNat < 128
    · by_cases h3 : 0 < i ∧ c.toNat = 0
      · rw [rowA_form h1 h3.1 h3.2] at h; simp at h
      rw [rowA_end h1 h2 h3] at h
      simp only [Prod.mk.injEq, true_and] at h
      obtain ⟨rfl, rfl⟩ := h
      have e : sevN c.toNat = [c] := by rw [sevN_lt h2]; simp
      refine ⟨c.toNat, by rw [Nat.mod_eq_of_lt h2], by rw [e]; rfl, by rw [e]; rfl, fun hi => by omega⟩
    · rw [rowA_on h1 h2] at h
      obtain ⟨u, h3, h4, h5, h6⟩ := ih _ _ _ _ h
      have hc := c.toNat_lt
      have hu := h6 (by omega)
      have hge : 128 ≤ c.toNat % 128 + 128 * u := by omega
      have e1 : (c.toNat % 128 + 128 * u) % 128 = c.toNat % 128 := by omega
      have e2 : (c.toNat % 128 + 128 * u) / 128 = u := by omega
      have e3 : UInt8.ofNat (c.toNat % 128 + 128) = c := by
        rw [show c.toNat % 128 + 128 = c.toNat by omega]; simp
      have e : sevN (c.toNat % 128 + 128 * u) = c :: sevN u := by rw [sevN_ge hge, e1, e2, e3]
      refine ⟨c.toNat % 128 + 128 * u, ?_, by rw [e, h4, List.length_cons]; omega, by rw [e, List.length_cons, List.take_succ_cons, h5], fun _ => by omega⟩
      rw [h3, Nat.pow_succ', Nat.add_mul, Nat.mul_comm 128 u, Nat.mul_assoc, Nat.add_assoc]
theorem rd_back {B : List UInt8} {at_ most last v a : Nat} (hl2 : last < 128) (h : rdRow B at_ 0 most last = (v, a, 0)) : a = at_ + (sevN v).length ∧ (B.drop at_).take (sevN v).length = sevN v := by
  unfold rdRow at h
  rw [if_neg (by simp)] at h
  simp only [Prod.mk.injEq] at h
  obtain ⟨h1, h2, h3⟩ := h
  obtain ⟨u, h4, h5, h6, _⟩ := row_back hl2 (B.drop at_) 0 0 v (rowA most last 0 0 (B.drop at_)).2.2 (by rw [← h1, ← h3])
  have : v = u := by simpa using h4
  subst this
  exact ⟨by rw [← h2, h5]; omega, h6⟩
theorem zig_unzig {u : Nat} : zigN (unzig u) = u := by
  unfold unzig zigN
  by_cases h : u % 2 = 0
  · rw [if_pos h, if_pos (by omega)]; omega
  · rw [if_neg h, if_neg (by omega)]; omega
theorem unzig_bd {u : Nat} (h : u < 18446744073709551616) : -9223372036854775808 ≤ unzig u ∧ unzig u ≤ 9223372036854775807 := by
  unfold unzig
  split <;> omega
theorem leN_leV : ∀ p : List UInt8, leN p.length (leV p) = p
  | [] => rfl
  | b :: p => by
    have hb := b.toNat_lt
    have e1 : (b.toNat + 256 * leV p) % 256 = b.toNat := by omega
    have e2 : (b.toNat + 256 * leV p) / 256 = leV p := by omega
    simp only [leV, List.length_cons, leN, e1, e2, leN_leV p]
    simp
/-- what was taken as an item that is laid again -/
def backI (x : It) (t : Tk) : It := ⟨x.k, if x.k = 3 then t.i else x.n, t.u, t.i, strOf t.s⟩
theorem strOf_len (p : List UInt8) : (strOf p).size = p.length := by
  rw [← strB_size]; rfl
theorem strB_strOf (p : List UInt8) : strB (strOf p) = p := rfl
/-- what is asked of what was taken -/
def BackOk (B : List UInt8) (at_ : Nat) (x : It) (t : Tk) : Prop :=
  at_ ≤ t.a ∧ t.a ≤ B.length ∧ (t.e ≠ 0 → t.a = at_) ∧
    (t.e = 0 → (backI x t).Ok ∧ (strOf t.s).size ≤ 100000 ∧ OkI (backI x t) ∧ at_ + (encI (backI x t)).length = t.a ∧ (B.drop at_).take (encI (backI x t)).length = encI (backI x t))
theorem backOk_err {B : List UInt8} {at_ : Nat} {x : It} {u : Nat} {i : Int} {s : List UInt8} {e : Int} (hat : at_ ≤ B.length) (he : e ≠ 0) : BackOk B at_ x ⟨u, i, s, at_, e⟩ := ⟨Nat.le_refl _, hat, fun _ => rfl, fun h => absurd h he⟩
theorem backOk_ok {B : List UInt8} {at_ : Nat} {x : It} {u : Nat} {i : Int} {s : List UInt8} {a : Nat} (hx : x.Ok) (hu : u < 18446744073709551616) (hi1 : -9223372036854775808 ≤ i) (hi2 : i ≤ 9223372036854775807) (hs : s.length ≤ 100000)
    (ho : OkI (backI x ⟨u, i, s, a, 0⟩)) (ha : at_ + (encI (backI x ⟨u, i, s, a, 0⟩)).length = a) (hab : a ≤ B.length) (ht : (B.drop at_).take (encI (backI x ⟨u, i, s, a, 0⟩)).length = encI (backI x ⟨u, i, s, a, 0⟩)) : BackOk B at_ x ⟨u, i, s, a, 0⟩ := by
  refine ⟨by dsimp only; omega, hab, fun h => absurd rfl h, fun _ => ⟨⟨hx.k1, hx.k2, ?_, ?_, hu, hi1, hi2⟩, by rw [strOf_len]; exact hs, ho, ha, ht⟩⟩
  · show _ ≤ (if x.k = 3 then i else x.n)
    split
    · exact hi1
    · exact hx.n1
  · show (if x.k = 3 then i else x.n) ≤ _
    split
    · exact hi2
    · exact hx.n2
theorem okI_of {x : It} (h2 : x.k = 2 → 0 ≤ x.n ∧ x.n ≤ 8) (h3 : x.k = 3 → 0 ≤ x.n) : OkI x := ⟨fun ⟨h, h'⟩ => by have := h2 h; omega, fun ⟨h, h'⟩ => by have := h3 h; omega⟩
theorem tk_back {B : List UInt8} {at_ : Nat} {x : It} (hx : x.Ok) (hat : at_ ≤ B.length) (hB : B.length ≤ 100000) : BackOk B at_ x (tk B at_ 0 x) := by
  by_cases h1 : x.k = 1
  · rw [tk_1 h1]
    unfold rdByte
    rw [if_neg (by simp)]
    by_cases hb : B.length ≤ at_
    · rw [if_pos hb]
      exact backOk_err hat (by simp)
    · rw [if_neg hb]
      dsimp only
      have hu := (B.getD at_ 0).toNat_lt
      have e : encI (backI x ⟨(B.getD at_ 0).toNat, 0, [], at_ + 1, 0⟩) = [B.getD at_ 0] := by
        rw [enc_1 (show (backI x _).k = 1 from h1)]
        simp only [backI]
        rw [Nat.mod_eq_of_lt hu]
        simp
      exact backOk_ok hx (by omega) (by omega) (by omega) (by simp) (okI_of (fun h => by simp only [backI] at h; omega) (fun h => by simp only [backI] at h; omega)) (by rw [e]; rfl) (by omega) (by rw [e, drop_get (by omega)]; rfl)
  by_cases h2 : x.k = 2
  · rw [tk_2 h2]
    unfold rdFixed
    rw [if_neg (by simp)]
    by_cases hn : x.n < 0 ∨ 8 < x.n
    · rw [if_pos hn]; exact backOk_err hat (by simp)
    rw [if_neg hn]
    by_cases hb : ((B.length - at_ : Nat) : Int) < x.n
    · rw [if_pos hb]; exact backOk_err hat (by simp)
    rw [if_neg hb]
    dsimp only
    have hl : ((B.drop at_).take x.n.toNat).length = x.n.toNat := by rw [List.length_take, List.length_drop]; omega
    have hv := leV_lt ((B.drop at_).take x.n.toNat)
    rw [hl] at hv
    have hp : 256 ^ x.n.toNat ≤ 18446744073709551616 := Nat.le_trans (Nat.pow_le_pow_right (by omega) (show x.n.toNat ≤ 8 by omega)) (by decide)
    have e : encI (backI x ⟨leV ((B.drop at_).take x.n.toNat), 0, [], at_ + x.n.toNat, 0⟩) = (B.drop at_).take x.n.toNat := by
      rw [enc_2 (show (backI x _).k = 2 from h2)]
      simp only [backI]
      rw [if_neg (by omega)]
      conv => lhs; arg 1; rw [← hl]
      exact leN_leV _
    exact backOk_ok hx (by omega) (by omega) (by omega) (by simp) (okI_of (fun h => by simp only [backI]; rw [if_neg (by omega)]; omega) (fun h => by simp only [backI] at h; omega)) (by rw [e, hl]) (by omega) (by rw [e, hl])
  by_cases h3 : x.k = 3
  · rw [tk_3 h3]
    obtain ⟨hv, h5, h6⟩ := rdRow_ok B at_ 0 (most := 9) (last := 127) hat (by omega) (by omega)
    by_cases he : (rdRow B at_ 0 9 127).2.2 = 0
    · obtain ⟨v, a, e0, hr⟩ : ∃ v a e0, rdRow B at_ 0 9 127 = (v, a, e0) := ⟨_, _, _, rfl⟩
      rw [hr] at he hv h5 h6 ⊢
      dsimp only at he hv h5 h6 ⊢
      subst he
      obtain ⟨h7, h8⟩ := rd_back (by omega) hr
      rw [pow128_9] at hv
      have e : encI (backI x ⟨0, v, [], a, 0⟩) = sevN v := by
        rw [enc_3 (show (backI x _).k = 3 from h3)]
        simp only [backI]
        rw [if_pos h3, Int.toNat_natCast]
      exact backOk_ok hx (by omega) (by omega) (by omega) (by simp) (okI_of (fun h => by simp only [backI] at h; omega) (fun h => by simp only [backI]; rw [if_pos h3]; omega)) (by rw [e]; omega) h6 (by rw [e]; exact h8)
    · obtain ⟨h7, h8⟩ := rdRow_err B at_ he
      rw [h8]
      exact backOk_err hat he
  by_cases h4 : x.k = 4
  · rw [tk_4 h4]
    obtain ⟨_, h5, h6⟩ := rdRow_ok B at_ 0 (most := 10) (last := 1) hat (by omega) (by omega)
    have hv := rdRow_lt64 B at_ 0
    by_cases he : (rdRow B at_ 0 10 1).2.2 = 0
    · obtain ⟨v, a, e0, hr⟩ : ∃ v a e0, rdRow B at_ 0 10 1 = (v, a, e0) := ⟨_, _, _, rfl⟩
      rw [hr] at he hv h5 h6 ⊢
      dsimp only at he hv h5 h6 ⊢
      subst he
      obtain ⟨h7, h8⟩ := rd_back (by omega) hr
      have hz := unzig_bd hv
      have e : encI (backI x ⟨0, unzig v, [], a, 0⟩) = sevN v := by
        rw [enc_4 (show (backI x _).k = 4 from h4)]
        simp only [backI]
        rw [zig_unzig]
      exact backOk_ok hx (by omega) hz.1 hz.2 (by simp) (okI_of (fun h => by simp only [backI] at h; omega) (fun h => by simp only [backI] at h; omega)) (by rw [e]; omega) h6 (by rw [e]; exact h8)
    · obtain ⟨h7, h8⟩ := rdRow_err B at_ he
      rw [h8]
      exact backOk_err hat he
  by_cases h5 : x.k = 5
  · rw [tk_5 h5]
    unfold rdText
    rw [if_neg (by simp)]
    obtain ⟨hv, h6, h7⟩ := rdRow_ok B at_ 0 (most := 9) (last := 127) hat (by omega) (by omega)
    obtain ⟨v, a, e0, hr⟩ : ∃ v a e0, rdRow B at_ 0 9 127 = (v, a, e0) := ⟨_, _, _, rfl⟩
    rw [hr] at hv h6 h7 ⊢
    dsimp only at hv h6 h7 ⊢
    by_cases he : e0 = 0
    · subst he
      rw [if_neg (by simp)]
      by_cases hm : max x.n 0 < (v : Int)
      · rw [if_pos hm]; exact backOk_err hat (by simp)
      rw [if_neg hm]
      by_cases hb : B.length - a < v
      · rw [if_pos hb]; exact backOk_err hat (by simp)
      rw [if_neg hb]
      dsimp only
      obtain ⟨h8, h9⟩ := rd_back (by omega) hr
      have hl : ((B.drop a).take v).length = v := by rw [List.length_take, List.length_drop]; omega
      have e : encI (backI x ⟨0, 0, (B.drop a).take v, a + v, 0⟩) = sevN v ++ (B.drop a).take v := by
        rw [enc_5 (show (backI x _).k = 5 from h5)]
        simp only [backI]
        rw [strOf_len, hl, strB_strOf]
      refine backOk_ok hx (by omega) (by omega) (by omega) (by rw [hl]; omega) (okI_of (fun h => by simp only [backI] at h; omega) (fun h => by simp only [backI] at h; omega)) (by rw [e, List.length_append, hl]; omega) (by omega) ?_
      rw [e, List.length_append, hl, List.take_add, h9, List.drop_drop, ← h8]
    · rw [if_pos he]
      exact backOk_err hat he
  rw [tk_no h1 h2 h3 h4 h5]
  have e : encI (backI x ⟨0, 0, [], at_, 0⟩) = [] := enc_no h1 h2 h3 h4 h5
  exact backOk_ok hx (by omega) (by omega) (by omega) (by simp) (okI_of (fun h => absurd h h2) (fun h => absurd h h3)) (by rw [e]; rfl) hat (by rw [e]; rfl)
end Go.Proofs.Ytchbncbojfiiiaa
