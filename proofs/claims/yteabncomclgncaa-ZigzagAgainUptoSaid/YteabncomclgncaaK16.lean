/- The kernel, 16: append as a step. No program in sight. -/
import Derived.Test.YteabncomclgncaaK15
namespace Go.Proofs.Yteabncomclgncaa
set_option linter.unusedVariables false
set_option linter.unusedSimpArgs false
set_option linter.unusedSectionVars false
open Go.RowKit

section
variable {P : Program} {ops : Array Oper} {Q : Exit → Act → World → Prop} {D : Option DD} {E : Base} {n L : Nat} {τ : List (Nat × AV)} {h : List (Nat × AO)} {F : World → Prop} {rest : List Oper}
  {d : Nat} {op : Op} {ty : TypeId} {ps : String} {af : Array Edge} {gd : Option (Nat × Bool)} {tt : List (Nat × TI)}
/-- what is appended -/
def SrcA (E : Base) (n L : Nat) (τ : List (Nat × AV)) (h : List (Nat × AO)) (F : World → Prop) (v : AV) (m : Nat) (news : List AV) : Prop :=
  ∀ ρ a w, Gam E ρ n L τ h F a w → LowS ρ L news ∧ Src w (v.conc ρ) m (AV.concs ρ news)
def avB (p : List UInt8) : List AV := p.map fun b => .raw (byteV b)
theorem avB_concs (ρ : Env) (p : List UInt8) : AV.concs ρ (avB p) = p.map byteV := by simp [avB, concs_map, AV.conc, Function.comp_def]
theorem avB_low (ρ : Env) (L : Nat) (p : List UInt8) : LowS ρ L (avB p) := fun x hx => by
  obtain ⟨b, _, rfl⟩ := List.mem_map.1 hx
  exact AV.Low.raw _ _ _
theorem avB_append (p q : List UInt8) : avB (p ++ q) = avB p ++ avB q := by simp [avB]
theorem avB_length (p : List UInt8) : (avB p).length = p.length := by simp [avB]
/-- a list of bytes as a list that is only read -/
def bytesF (p : List UInt8) (i : Nat) : List AV := [.raw (byteV (p.getD i 0))]
theorem SrcA.nil (c : Nat) : SrcA E n L τ h F (.raw (.slice none 0 c)) 0 [] := fun ρ a w g => ⟨fun x hx => (by cases hx), .inr ⟨c, rfl, rfl, rfl⟩⟩
theorem SrcA.cells {l w0 off m c : Nat} {xs news : List AV} {T : TypeId} (hl : hk l h = some (.cells xs T)) (hn : (xs.drop (off * w0)).take (m * w0) = news) : SrcA E n L τ h F (.sl l w0 off m c) m news := fun ρ a w g => by
  obtain ⟨b, hr, hb⟩ := (g.hp _ _ hl).2.2
  subst hn
  refine ⟨fun x hx => g.lowCells hl x (List.mem_of_mem_drop (List.mem_of_mem_take hx)), .inl ⟨⟨b, off * w0, none⟩, c, by simp [AV.conc, hr], fun j u hj => ?_⟩⟩
  rw [concs_map, List.getElem?_map, List.getElem?_take] at hj
  split at hj
  · rw [List.getElem?_drop] at hj
    rw [addr_add0, cell_of_row w b _ _ T (0, 0) hb, List.getElem?_toArray, concs_map, List.getElem?_map]
    exact hj
  · cases hj
theorem SrcA.bytes {l off m c cap : Nat} {p : List UInt8} {T : TypeId} (hl : hk l h = some (.bytes p cap T)) (hn : off + m ≤ p.length) : SrcA E n L τ h F (.sl l 1 off m c) m (avB ((p.drop off).take m)) := fun ρ a w g => by
  have hh := (g.hp _ _ hl).2.2
  refine ⟨avB_low _ _ _, ?_⟩
  rw [avB_concs]
  rcases hh.2 with ⟨hr, hc⟩ | ⟨b, cur, hr, hb, hs, hc⟩
  · have := hh.1
    have h1 : m = 0 := by omega
    subst h1
    exact .inr ⟨c, by simp [AV.conc, hr], rfl, by simp⟩
  · refine .inl ⟨⟨b, off * 1, none⟩, c, by simp [AV.conc, hr], fun j u hj => ?_⟩
    rw [List.getElem?_map, List.getElem?_take] at hj
    split at hj
    · rw [List.getElem?_drop] at hj
      obtain ⟨x, hx, rfl⟩ := Option.map_eq_some_iff.1 hj
      obtain ⟨h1, h2⟩ := List.getElem?_eq_some_iff.1 hx
      rw [addr_add0, cell_of_row w b _ _ T (0, 0) hb, Nat.mul_one, hc _ h1, h2]
    · cases hj
theorem SrcA.rob {l o2 off m c : Nat} {p : List UInt8} (hl : hk l h = some (.ro 1 o2 p.length (bytesF p))) (hn : off + m ≤ p.length) : SrcA E n L τ h F (.sl l 1 (o2 + off) m c) m (avB ((p.drop off).take m)) := fun ρ a w g => by
  refine ⟨avB_low _ _ _, ?_⟩
  rw [avB_concs]
  rcases (g.hp _ _ hl).2.2 with ⟨hr, hc⟩ | ⟨b, cur, T, fr, hr, hb, hc⟩
  · have h1 : m = 0 := by omega
    subst h1
    exact .inr ⟨c, by simp [AV.conc, hr], rfl, by simp⟩
  · refine .inl ⟨⟨b, (o2 + off) * 1, none⟩, c, by simp [AV.conc, hr], fun j u hj => ?_⟩
    rw [List.getElem?_map, List.getElem?_take] at hj
    split at hj
    · rw [List.getElem?_drop] at hj
      obtain ⟨x, hx, rfl⟩ := Option.map_eq_some_iff.1 hj
      obtain ⟨h1, h2⟩ := List.getElem?_eq_some_iff.1 hx
      rw [addr_add0, cell_of_row w b _ _ T fr hb, Nat.mul_one]
      have := hc (off + j) 0 (.raw (byteV (p.getD (off + j) 0))) h1 rfl
      rw [show o2 + off + j = (o2 + (off + j)) * 1 + 0 by omega, this]
      simp [AV.conc, List.getD_eq_getElem?_getD, hx]
    · cases hj
theorem flat_low {ρ : Env} {L m : Nat} {f : Nat → List AV} (hf : ∀ i, i < m → LowS ρ L (f i)) : LowS ρ L (flat f m) := by
  induction m with
  | zero => intro x hx; cases hx
  | succ m ih =>
    intro x hx
    simp only [flat, List.mem_append] at hx
    rcases hx with hx | hx
    · exact ih (fun i hi => hf i (by omega)) x hx
    · exact hf m (by omega) x hx
theorem flat_concs (ρ : Env) (f : Nat → List AV) : ∀ m, AV.concs ρ (flat f m) = flat (fun i => AV.concs ρ (f i)) m
  | 0 => rfl
  | m + 1 => by simp only [flat, concs_append, flat_concs ρ f m]
theorem flat_some {α : Type} {f : Nat → List α} {wd m : Nat} (hw : 0 < wd) (hf : ∀ i, i < m → (f i).length = wd) {j : Nat} {u : α} (hj : (flat f m)[j]? = some u) : ∃ i c, i < m ∧ c < wd ∧ j = i * wd + c ∧ (f i)[c]? = some u := by
  have hlt := (List.getElem?_eq_some_iff.1 hj).1
  rw [flat_length hf] at hlt
  have h1 : j / wd < m := (Nat.div_lt_iff_lt_mul hw).2 hlt
  have h2 : j % wd < wd := Nat.mod_lt _ hw
  have e : j / wd * wd + j % wd = j := by rw [Nat.mul_comm]; exact Nat.div_add_mod j wd
  have := flat_get hf (j / wd) (j % wd) h1 h2
  rw [e, hj] at this
  exact ⟨_, _, h1, h2, e.symm, this.symm⟩
theorem SrcA.tab {l wd off m c n0 cap : Nat} {f : Nat → List AV} {T : TypeId} (hw : 0 < wd) (hl : hk l h = some (.tab wd n0 cap f T)) (hn : off + m ≤ n0) : SrcA E n L τ h F (.sl l wd off m c) m (flat (fun i => f (off + i)) m) := fun ρ a w g => by
  have hh := (g.hp _ _ hl).2.2
  refine ⟨flat_low fun i hi => tab_low g hl (by omega), ?_⟩
  rcases hh.2.2 with ⟨hr, hc⟩ | ⟨b, cur, hr, hb, hs, hc⟩
  · have := hh.1
    have h1 : m = 0 := by omega
    subst h1
    exact .inr ⟨c, by simp [AV.conc, hr], rfl, rfl⟩
  · refine .inl ⟨⟨b, off * wd, none⟩, c, by simp [AV.conc, hr], fun j u hj => ?_⟩
    rw [flat_concs] at hj
    obtain ⟨i, k, h1, h2, rfl, h3⟩ := flat_some hw (fun i hi => by rw [concs_length]; exact hh.2.1 (off + i) (by omega)) hj
    rw [concs_map, List.getElem?_map] at h3
    obtain ⟨x, hx, rfl⟩ := Option.map_eq_some_iff.1 h3
    rw [addr_add0, cell_of_row w b _ _ T (0, 0) hb, ← Nat.add_assoc, ← Nat.add_mul]
    exact hc _ _ _ (by omega) hx
theorem SrcA.ro {l wd o2 off m c n0 : Nat} {f : Nat → List AV} (hw : 0 < wd) (hf : ∀ i, i < n0 → (f i).length = wd) (hl : hk l h = some (.ro wd o2 n0 f)) (hn : off + m ≤ n0) : SrcA E n L τ h F (.sl l wd (o2 + off) m c) m (flat (fun i => f (off + i)) m) := fun ρ a w g => by
  refine ⟨flat_low fun i hi => ro_low g hl (by omega), ?_⟩
  rcases (g.hp _ _ hl).2.2 with ⟨hr, hc⟩ | ⟨b, cur, T, fr, hr, hb, hc⟩
  · have h1 : m = 0 := by omega
    subst h1
    exact .inr ⟨c, by simp [AV.conc, hr], rfl, rfl⟩
  · refine .inl ⟨⟨b, (o2 + off) * wd, none⟩, c, by simp [AV.conc, hr], fun j u hj => ?_⟩
    rw [flat_concs] at hj
    obtain ⟨i, k, h1, h2, rfl, h3⟩ := flat_some hw (fun i hi => by rw [concs_length]; exact hf (off + i) (by omega)) hj
    rw [concs_map, List.getElem?_map] at h3
    obtain ⟨x, hx, rfl⟩ := Option.map_eq_some_iff.1 h3
    rw [addr_add0, cell_of_row w b _ _ T fr hb, ← Nat.add_assoc, ← Nat.add_mul, Nat.add_assoc]
    exact hc _ _ _ (by omega) hx
/-- what is appended to -/
def DstA (E : Base) (n L : Nat) (τ : List (Nat × AV)) (h : List (Nat × AO)) (F : World → Prop) (v : AV) (T : TypeId) (wd n0 cap : Nat) (xs : List AV) (gl : List Nat) : Prop :=
  xs.length = n0 * wd ∧ ∀ ρ a w, Gam E ρ n L τ h F a w → ∃ r : Option Nat, v.conc ρ = .slice (r.map fun b => ⟨b, 0, none⟩) n0 cap ∧ RowL w r cap wd T (AV.concs ρ xs) ∧ LowS ρ L xs ∧ (r = none ∨ ∃ l ∈ gl, wrA l h ∧ ρ l = r)
theorem DstA.nil (T : TypeId) (wd : Nat) : DstA E n L τ h F (.raw (.slice none 0 0)) T wd 0 0 [] [] :=
  ⟨by simp, fun ρ a w g => ⟨none, rfl, ⟨by simp [AV.concs], .inl ⟨rfl, rfl⟩⟩, fun x hx => (by cases hx), .inl rfl⟩⟩
theorem DstA.bytes {l n0 cap : Nat} {p : List UInt8} {T : TypeId} (hl : hk l h = some (.bytes p cap T)) (hn : n0 = p.length) : DstA E n L τ h F (.sl l 1 0 n0 cap) T 1 n0 cap (avB p) [l] :=
  ⟨by rw [avB_length, hn, Nat.mul_one], fun ρ a w g => ⟨ρ l, by simp [AV.conc], by rw [avB_concs]; exact bytes_row.1 (g.hp _ _ hl).2.2, avB_low _ _ _, .inr ⟨l, by simp, ⟨_, hl, rfl⟩, rfl⟩⟩⟩
theorem DstA.tab {l wd n0 cap : Nat} {f : Nat → List AV} {T : TypeId} (hw : 0 < wd) (hl : hk l h = some (.tab wd n0 cap f T)) (hf : ∀ i, i < n0 → (f i).length = wd) : DstA E n L τ h F (.sl l wd 0 n0 cap) T wd n0 cap (flat f n0) [l] :=
  ⟨flat_length hf, fun ρ a w g => ⟨ρ l, by simp [AV.conc], by rw [flat_concs]; exact ((tab_row hw).1 (g.hp _ _ hl).2.2).2.2, flat_low fun i hi => tab_low g hl hi, .inr ⟨l, by simp, ⟨_, hl, rfl⟩, rfl⟩⟩⟩
def goneK (gl : List Nat) : List (Nat × AO) := gl.map fun l => (l, .gone)
theorem hk_goneK (gl : List Nat) (h : List (Nat × AO)) (l : Nat) : hk l (goneK gl ++ h) = if l ∈ gl then none else hk l h := by
  induction gl with
  | nil => simp [goneK]
  | cons s gl ih =>
    simp only [goneK, List.map_cons, List.cons_append, hk_cons, List.mem_cons]
    by_cases e : s = l
    · simp [e]
    · have e' : ¬ l = s := fun x => e x.symm
      simp only [e, if_false, e', false_or]
      exact ih
/-- what a row's cells are, told as an object -/
def AsRow (ao : Nat → AO) (T : TypeId) (wd : Nat) (xs : List AV) : Prop := (∀ c, (ao c).isRo = false ∧ ao c ≠ .gone) ∧ ∀ c ρ L, LowS ρ L xs → (ao c).Low ρ L ∧ ∀ r w, RowL w r c wd T (AV.concs ρ xs) → (ao c).holds ρ r w
theorem AsRow.bytes (T : TypeId) (p : List UInt8) : AsRow (fun c => .bytes p c T) T 1 (avB p) :=
  ⟨fun c => ⟨rfl, by simp⟩, fun c ρ L hl => ⟨AO.Low.bytes _ _ _ _ _, fun r w hr => bytes_row.2 (by rw [avB_concs] at hr; exact hr)⟩⟩
theorem AsRow.tab (T : TypeId) {wd n0 : Nat} {f : Nat → List AV} (hw : 0 < wd) (hf : ∀ i, i < n0 → (f i).length = wd) : AsRow (fun c => .tab wd n0 c f T) T wd (flat f n0) :=
  ⟨fun c => ⟨rfl, by simp⟩, fun c ρ L hl => ⟨AO.Low.tab T fun i hi x hx => hl x (by
    obtain ⟨k, hk⟩ := List.getElem?_of_mem hx
    have hk2 : k < wd := by rw [← hf i hi]; exact (List.getElem?_eq_some_iff.1 hk).1
    have := flat_get hf i k hi hk2
    exact List.mem_of_getElem? (this.trans hk)), fun r w hr => by
      have hle := hr.1
      rw [concs_length, flat_length hf] at hle
      exact (tab_row hw).2 ⟨Nat.le_of_mul_le_mul_right hle hw, hf, by rw [flat_concs] at hr; exact hr⟩⟩⟩
/-- append: the old list is not used any more -/
theorem R.app (htt : TTok P tt) {t T : TypeId} {x y : Operand} {v1 v2 : AV} {wd bt n0 cap m : Nat} {xs news : List AV} {gl : List Nat} {tl te : TI} (ao : Nat → AO) (hx : evA τ x = some v1) (hy : evA τ y = some v2) (hd : DstA E n L τ h F v1 T wd n0 cap xs gl) (hs : SrcA E n L τ h F v2 m news) (hao : AsRow ao T wd (xs ++ news))
    (ht : lk t tt = some tl) (hkd : tl.kind = .sl T) (hte : lk T tt = some te) (hsz : te.size = wd) (hb2 : te.bytes = bt) (hz : Nat.beq te.zero.length te.size = true) (hw : 0 < wd) (hone : news.all AV.oneB = true) (hnl : news.length = m * wd)
    (hg : wantA ops ⟨some d, .call { callee := .builtin .append, args := #[x, y], argTypes := #[t, t] }, ty, ps, af, gd⟩ τ = some true) (hb : (Nat.ble (d + 1) n && chainB h D gl) = true)
    (hcap : cap ≤ 9223372036854775807) (hby : (n0 + m) * bt ≤ 140737488355328) (h63 : n0 + m ≤ 9223372036854775807)
    (k : ∀ c, n0 + m ≤ c → c ≤ 9223372036854775807 → R P ops Q (actD h D gl) E n (L + 1) ((d, .sl L wd 0 (n0 + m) c) :: τ) ((L, ao c) :: (goneK gl ++ h)) F rest) :
    R P ops Q D E n L τ h F (⟨some d, .call { callee := .builtin .append, args := #[x, y], argTypes := #[t, t] }, ty, ps, af, gd⟩ :: rest) := by
  simp only [Bool.and_eq_true] at hb
  refine ⟨RL.acts (σ := Nat) (fun c => n0 + m ≤ c ∧ c ≤ 9223372036854775807) (fun c => .sl L wd 0 (n0 + m) c) (fun _ => L + 1) (fun c => (L, ao c) :: (goneK gl ++ h)) (fun _ => F) gl hg hb.1 hb.2 (fun _ _ => Nat.le_succ L) (fun ρ a w g => ?_) (fun c hc => (k c hc.1 hc.2).out)⟩
  obtain ⟨hxl, hd⟩ := hd
  obtain ⟨r, h1, h2, h3, h4⟩ := hd ρ a w g
  obtain ⟨h5, h6⟩ := hs ρ a w g
  subst hsz
  have hoc : ∀ u ∈ AV.concs ρ news, u.oneCell' = true := fun u hu => by
    rw [concs_map] at hu
    obtain ⟨y', hy', rfl⟩ := List.mem_map.1 hu
    exact oneB_conc (List.all_eq_true.1 hone y' hy') ρ
  obtain ⟨r', c, w', e1, e2, e3, e4, e5, e6⟩ := run_append_row (htt _ _ ht) hkd (htt _ _ hte) (Nat.eq_of_beq_eq_true hz) hw h2 (by rw [concs_length]; exact hxl) hcap h6 (by rw [concs_length]; exact hnl) hoc (by rw [hb2]; exact hby) h63 ty
  have hev1 : a.eval x = .slice (r.map fun b => ⟨b, 0, none⟩) n0 cap := by rw [(g.eval x _ hx).2, h1]
  have hev2 : a.eval y = v2.conc ρ := (g.eval y _ hy).2
  unfold goes execOp
  simp only [resolve, invoke, builtin, Sem.run_bind, Sem.run_pure, Result.andThen_ok, List.map_toArray, List.map_cons, List.map_nil, hev1, hev2, e1]
  rw [← concs_append] at e2
  have hrlt : ∀ b, r = some b → b < w.heap.size := fun b hb => by
    rcases h2.2 with ⟨h7, _⟩ | ⟨b', cur, h7, h8, _⟩
    · rw [h7] at hb; cases hb
    · rw [h7] at hb; cases hb; exact (Array.getElem?_eq_some_iff.1 h8).1
  have hs' : ∀ l, l < L → updE ρ L r' l = ρ l := fun l hl => updE_ne ρ _ (by omega)
  have hlowx : LowS ρ L (xs ++ news) := fun z hz => by
    rcases List.mem_append.1 hz with hz | hz
    · exact h3 z hz
    · exact h5 z hz
  have hL1 : ∀ l, hk l h ≠ none → l < L := fun l hl => by
    cases ho : hk l h with
    | none => exact absurd ho hl
    | some o => exact (g.hp l o ho).1
  have hr' : ∀ b, r' = some b → w.heap.size ≤ b ∨ ∃ l0, l0 ∈ gl ∧ wrA l0 h ∧ ρ l0 = some b := fun b hb => by
    rcases e6 with e6 | e6
    · rcases h4 with h4 | ⟨l0, h7, h8, h9⟩
      · rw [e6, h4] at hb; cases hb
      · exact .inr ⟨l0, h7, h8, by rw [h9, ← e6, hb]⟩
    · rw [e6] at hb; cases hb; exact .inl (Nat.le_refl _)
  have hkL : ∀ l, hk l ((L, ao c) :: (goneK gl ++ h)) = if L = l then some (ao c) else if l ∈ gl then none else hk l h := fun l => by
    rw [hk_cons, hk_goneK]
    split
    · have := (hao.1 c).2
      cases hx : ao c <;> simp_all
    · rfl
  have hrow : ∀ l b, hk l h ≠ none → l ∉ gl → ρ l = some b → r ≠ some b := fun l b hl hn hb e => by
    rcases h4 with h4 | ⟨l0, h7, h8, h9⟩
    · rw [h4] at e; cases e
    · exact hn (g.dis l0 l b h8 hl (h9.trans e) hb ▸ h7)
  have hsame : ∀ l b, hk l h ≠ none → l ∉ gl → ρ l = some b → w'.heap[b]? = w.heap[b]? := fun l b hl hn hb => e5.block b (g.lt hl hb) fun e => hrow l b hl hn hb e.symm
  have hne : ∀ l, L ≠ l → hk l ((L, ao c) :: (goneK gl ++ h)) ≠ none → hk l h ≠ none ∧ l ∉ gl := fun l e hl => by
    rw [hkL, if_neg e] at hl
    split at hl
    · exact absurd rfl hl
    · rename_i h7; exact ⟨hl, h7⟩
  have hnw : ∀ l, L ≠ l → wrA l ((L, ao c) :: (goneK gl ++ h)) → wrA l h := fun l e hl => by
    obtain ⟨o1, h7, h8⟩ := hl
    rw [hkL, if_neg e] at h7
    split at h7
    · cases h7
    · exact ⟨o1, h7, h8⟩
  have hclash : ∀ l b, L ≠ l → hk l ((L, ao c) :: (goneK gl ++ h)) ≠ none → ρ l = some b → r' = some b → False := fun l b e hl hb hb' => by
    obtain ⟨h7, h8⟩ := hne l e hl
    rcases hr' b hb' with h9 | ⟨l0, h9, h10, h11⟩
    · have := g.lt h7 hb; omega
    · exact h8 (g.dis l0 l b h10 h7 h11 hb ▸ h9)
  refine ⟨c, updE ρ L r', ⟨e3, e4⟩, by simp [AV.conc, updE_same], sl_low (updE ρ L r') L _ 0 (n0 + m) c, hs', ?_, fun l b hl hb hn => (hsame l b hl hn hb).symm⟩
  refine g.turn hs' (Nat.le_succ L) ⟨e5.os, e5.tape, e5.output, e5.size, fun b hb hd => e5.block b hb fun e => ?_⟩ (fun l o ho => ?_) (fun l l' b hl hl' hb hb' => ?_) (fun l b hl hb => ?_) (fun l b h7 h8 hb => ?_)
  · rcases h4 with h4 | ⟨l0, h7, h8, h9⟩
    · rw [h4] at e; cases e
    · exact hd l0 h8 (h9.trans e.symm)
  · by_cases e : L = l
    · subst e
      rw [hkL, if_pos rfl] at ho
      cases ho
      have hlx : LowS (updE ρ L r') (L + 1) (xs ++ news) := fun z hz => ((hlowx z hz).ext hs').mono (Nat.le_succ L)
      obtain ⟨h7, h8⟩ := hao.2 c (updE ρ L r') (L + 1) hlx
      refine ⟨by omega, h7, h8 _ _ ?_⟩
      rw [updE_same, concs_low hlowx _ hs']
      exact e2
    · have h7 := hne l e (by rw [ho]; simp)
      rw [hkL, if_neg e, if_neg h7.2] at ho
      have hh := g.hp l o ho
      refine ⟨by omega, (hh.2.1.ext hs').mono (Nat.le_succ L), ?_⟩
      rw [hs' l hh.1]
      exact holds_same ((hh.2.1 _ hs' _ _).1 hh.2.2) fun b hb => hsame l b h7.1 h7.2 hb
  · by_cases e1 : L = l <;> by_cases e2 : L = l'
    · omega
    · exfalso
      subst e1
      rw [updE_same] at hb
      rw [updE_ne ρ _ (fun e => e2 e.symm)] at hb'
      exact hclash l' b e2 hl' hb' hb
    · exfalso
      subst e2
      rw [updE_same] at hb'
      rw [updE_ne ρ _ (fun e => e1 e.symm)] at hb
      exact hclash l b e1 hl.live hb hb'
    · rw [updE_ne ρ _ (fun e => e1 e.symm)] at hb
      rw [updE_ne ρ _ (fun e => e2 e.symm)] at hb'
      exact g.dis l l' b (hnw l e1 hl) (hne l' e2 hl').1 hb hb'
  · by_cases e1 : L = l
    · subst e1
      rw [updE_same] at hb
      exact (hr' b hb).imp id fun ⟨l0, h7, h8, h9⟩ => ⟨l0, h8, h9⟩
    · rw [updE_ne ρ _ (fun e => e1 e.symm)] at hb
      exact .inr ⟨l, hnw l e1 hl, hb⟩
  · obtain rfl : l = L := by omega
    rw [updE_same] at hb
    rcases e2.2 with ⟨h9, _⟩ | ⟨b', cur, h9, h10, _⟩
    · rw [h9] at hb; cases hb
    · rw [h9] at hb; cases hb; exact (Array.getElem?_eq_some_iff.1 h10).1
end
end Go.Proofs.Yteabncomclgncaa
