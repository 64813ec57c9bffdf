/- Texts of the claim, merged: only what the theorem needs. -/
import Derived.Test.YtaieficgifingaaGreatDoorPRq
import Derived.Lib.AppendStr
import Derived.Lib.UnsafeStr
import Derived.Lib.Builder
namespace Go.Proofs.YtaieficgifingaaGreatDoor
set_option linter.unusedVariables false
set_option linter.unusedSimpArgs false
set_option linter.unusedSectionVars false
open Go.RowKit
theorem byteZ {P : Program} {T : TypeId} (hi0 : (P.info? T).map (fun i => (i.size, i.bytes, i.zero)) = some (1, 1, some (.int .u8 0))) : ∃ i, P.info? T = some i ∧ i.size = 1 ∧ i.bytes = 1 ∧ i.zero = some (.int .u8 0) := by
  obtain ⟨i, h1, h2⟩ := Option.map_eq_some_iff.1 hi0
  cases h2' : i with
  | mk => exact ⟨i, h1, by rw [Prod.ext_iff, Prod.ext_iff] at h2; exact h2.1, by rw [Prod.ext_iff, Prod.ext_iff] at h2; exact h2.2.1, by rw [Prod.ext_iff, Prod.ext_iff] at h2; exact h2.2.2⟩
theorem strCells_avB (ρ : Env) (s : ByteArray) : AV.concs ρ (avB (strB s)) = Lib.strCells s := by
  rw [avB_concs]
  rfl
theorem run_append_rowS {P : Program} {t u T : TypeId} {tl : TI} (hl : TIok P t tl) (hk : tl.kind = .sl T) (hu : P.underlying u = some .string) (hi0 : (P.info? T).map (fun i => (i.size, i.bytes, i.zero)) = some (1, 1, some (.int .u8 0))) {w : World} {r : Option Nat} {cap n0 : Nat} {xs : List Value} (hrow : RowL w r cap 1 T xs) (hlen : xs.length = n0 * 1) (hcap : cap ≤ 9223372036854775807)
    (s : ByteArray) (h63 : n0 + s.size ≤ 140737488355328) (ty : TypeId) :
    ∃ r' cap' w', (Builtin.append_ #[t, u] ty #[.slice (r.map fun b => ⟨b, 0, none⟩) n0 cap, .string s]).run P w = .ok (.slice (r'.map fun b => ⟨b, 0, none⟩) (n0 + s.size) cap') w' ∧ RowL w' r' cap' 1 T (xs ++ Lib.strCells s) ∧ n0 + s.size ≤ cap' ∧ cap' ≤ 9223372036854775807 ∧
      w.grownBy w' r ∧ (r' = r ∨ r' = some w.heap.size) := by
  obtain ⟨d, hd1, hd2⟩ := hl.und
  rw [hk] at hd2
  simp only at hd2
  subst hd2
  obtain ⟨i, hi, hi1, hi2, hi3⟩ := byteZ hi0
  have hown := row_owns hrow hlen Nat.zero_lt_one hcap
  have hob : ∀ (r : Option Nat) (a b : Nat), (Value.slice (r.map fun b => ⟨b, 0, none⟩) a b).ownBlock = r := fun r a b => by cases r <;> rfl
  obtain ⟨v', w', h1, h2, h3, h4⟩ := Lib.run_append_own_string (P := P) w 0 t u ty T i hd1 hu hi hi3 hi1 hi2 _ n0 xs hown s (by simp only [maxLen]; omega) h63 (Nat.zero_le _)
  obtain ⟨r', cap', rfl, h6, h7, h8⟩ := owns_row h2
  rw [hob] at h3
  refine ⟨r', cap', w', h1, h6, h7, h8, h3, ?_⟩
  have hinj : ∀ {v : Value} {w2 : World}, (Builtin.append_ #[t, u] ty #[.slice (r.map fun b => ⟨b, 0, none⟩) n0 cap, .string s]).run P w = .ok v w2 → r' = v.ownBlock := fun {v w2} hr => by
    rw [h1] at hr
    injection hr with hr _
    rw [← hr, hob]
  rcases hrow.2 with ⟨rfl, hc⟩ | ⟨g, cur, rfl, hg, hcs, htake⟩
  · have hn0 : n0 = 0 := by have := hrow.1; omega
    subst hn0
    subst hc
    by_cases hm : s.size = 0
    · left
      have := (h4.2 ⟨rfl, hm⟩)
      cases r' with
      | none => rfl
      | some b => simp at this
    · right
      exact hinj (run_append_nil_string (P := P) w t u ty T i (.int .u8 0) hd1 hu hi hi3 s (by omega) (by omega) (by rw [hi2]; omega))
  · by_cases hroom : n0 + s.size ≤ cap
    · left
      exact hinj (Lib.run_append_room_string (P := P) w t u ty T i hd1 hu hi hi1 g n0 cap cur hg s hroom (by omega))
    · right
      exact hinj (Lib.run_append_grow_string (P := P) w t u ty T i (.int .u8 0) hd1 hu hi hi3 ⟨g, 0, none⟩ n0 cap xs (by rw [hi1]; exact hlen) (hown.cells (g := g) rfl) s (by omega) (by omega) (by rw [hi2]; exact growslice_fits (by omega) (by omega)))
section
variable {P : Program} {ops : Array Oper} {Q : Exit → Act → World → Prop} {D : Option DD} {E : Base} {n L : Nat} {τ : List (Nat × AV)} {h : List (Nat × AO)} {F : World → Prop} {rest : List Oper}
  {d : Nat} {op : Op} {ty : TypeId} {ps : String} {af : Array Edge} {gd : Option (Nat × Bool)} {tt : List (Nat × TI)}
theorem R.apS (htt : TTok P tt) {t u T : TypeId} {x y : Operand} {v1 : AV} {n0 cap : Nat} {xs : List AV} {gl : List Nat} {tl : TI} {s : ByteArray} (ao : Nat → AO) (hx : evA τ x = some v1) (hy : evA τ y = some (.raw (.string s))) (hd : DstA E n L τ h F v1 T 1 n0 cap xs gl) (hao : AsRow ao T 1 (xs ++ avB (strB s)))
    (ht : lk t tt = some tl) (hkd : tl.kind = .sl T) (hu0 : P.underlying u = some .string) (hi0 : (P.info? T).map (fun i => (i.size, i.bytes, i.zero)) = some (1, 1, some (.int .u8 0)))
    (hg : wantA ops ⟨some d, .call { callee := .builtin .append, args := #[x, y], argTypes := #[t, u] }, ty, ps, af, gd⟩ τ = some true) (hb : (Nat.ble (d + 1) n && chainB h D gl) = true)
    (hcap : cap ≤ 9223372036854775807) (h63 : n0 + s.size ≤ 140737488355328)
    (k : ∀ c, n0 + s.size ≤ c → c ≤ 9223372036854775807 → R P ops Q (actD h D gl) E n (L + 1) ((d, .sl L 1 0 (n0 + s.size) c) :: τ) ((L, ao c) :: (goneK gl ++ h)) F rest) :
    R P ops Q D E n L τ h F (⟨some d, .call { callee := .builtin .append, args := #[x, y], argTypes := #[t, u] }, ty, ps, af, gd⟩ :: rest) := by
  simp only [Bool.and_eq_true] at hb
  refine ⟨RL.acts (σ := Nat) (fun c => n0 + s.size ≤ c ∧ c ≤ 9223372036854775807) (fun c => .sl L 1 0 (n0 + s.size) c) (fun _ => L + 1) (fun c => (L, ao c) :: (goneK gl ++ h)) (fun _ => F) gl hg hb.1 hb.2 (fun _ _ => Nat.le_succ L) (fun ρ a w g => ?_) (fun c hc => (k c hc.1 hc.2).out)⟩
  obtain ⟨hxl, hd⟩ := hd
  obtain ⟨r, h1, h2, h3, h4⟩ := hd ρ a w g
  have h5 : LowS ρ L (avB (strB s)) := avB_low _ _ _
  obtain ⟨r', c, w', e1, e2, e3, e4, e5, e6⟩ := run_append_rowS (htt _ _ ht) hkd hu0 hi0 h2 (by rw [concs_length]; exact hxl) hcap s h63 ty
  have hev1 : a.eval x = .slice (r.map fun b => ⟨b, 0, none⟩) n0 cap := by rw [(g.eval x _ hx).2, h1]
  have hev2 : a.eval y = .string s := (g.eval y _ hy).2
  unfold goes execOp
  simp only [resolve, invoke, builtin, Sem.run_bind, Sem.run_pure, Result.andThen_ok, List.map_toArray, List.map_cons, List.map_nil, hev1, hev2, e1]
  rw [← strCells_avB ρ] at e2
  rw [← concs_append] at e2
  have hrlt : ∀ b, r = some b → b < w.heap.size := fun b hb => by
    rcases h2.2 with ⟨h7, _⟩ | ⟨b', cur, h7, h8, _⟩
    · rw [h7] at hb; cases hb
    · rw [h7] at hb; cases hb; exact (Array.getElem?_eq_some_iff.1 h8).1
  have hs' : ∀ l, l < L → updE ρ L r' l = ρ l := fun l hl => updE_ne ρ _ (by omega)
  have hlowx : LowS ρ L (xs ++ avB (strB s)) := fun z hz => by
    rcases List.mem_append.1 hz with hz | hz
    · exact h3 z hz
    · exact h5 z hz
  have hL1 : ∀ l, hk l h ≠ none → l < L := fun l hl => by
    cases ho : hk l h with
    | none => exact absurd ho hl
    | some o => exact (g.hp l o ho).1
  have hr' : ∀ b, r' = some b → w.heap.size ≤ b ∨ ∃ l0, l0 ∈ gl ∧ wrA l0 h ∧ ρ l0 = some b := fun b hb => by
    rcases e6 with e6 | e6
    · rcases h4 with h4 | ⟨l0, h7, h8, h9⟩
      · rw [e6, h4] at hb; cases hb
      · exact .inr ⟨l0, h7, h8, by rw [h9, ← e6, hb]⟩
    · rw [e6] at hb; cases hb; exact .inl (Nat.le_refl _)
  have hkL : ∀ l, hk l ((L, ao c) :: (goneK gl ++ h)) = if L = l then some (ao c) else if l ∈ gl then none else hk l h := fun l => by
    rw [hk_cons, hk_goneK]
    split
    · have := (hao.1 c).2
      cases hx : ao c <;> simp_all
    · rfl
  have hrow : ∀ l b, hk l h ≠ none → l ∉ gl → ρ l = some b → r ≠ some b := fun l b hl hn hb e => by
    rcases h4 with h4 | ⟨l0, h7, h8, h9⟩
    · rw [h4] at e; cases e
    · exact hn (g.dis l0 l b h8 hl (h9.trans e) hb ▸ h7)
  have hsame : ∀ l b, hk l h ≠ none → l ∉ gl → ρ l = some b → w'.heap[b]? = w.heap[b]? := fun l b hl hn hb => e5.block b (g.lt hl hb) fun e => hrow l b hl hn hb e.symm
  have hne : ∀ l, L ≠ l → hk l ((L, ao c) :: (goneK gl ++ h)) ≠ none → hk l h ≠ none ∧ l ∉ gl := fun l e hl => by
    rw [hkL, if_neg e] at hl
    split at hl
    · exact absurd rfl hl
    · rename_i h7; exact ⟨hl, h7⟩
  have hnw : ∀ l, L ≠ l → wrA l ((L, ao c) :: (goneK gl ++ h)) → wrA l h := fun l e hl => by
    obtain ⟨o1, h7, h8⟩ := hl
    rw [hkL, if_neg e] at h7
    split at h7
    · cases h7
    · exact ⟨o1, h7, h8⟩
  have hclash : ∀ l b, L ≠ l → hk l ((L, ao c) :: (goneK gl ++ h)) ≠ none → ρ l = some b → r' = some b → False := fun l b e hl hb hb' => by
    obtain ⟨h7, h8⟩ := hne l e hl
    rcases hr' b hb' with h9 | ⟨l0, h9, h10, h11⟩
    · have := g.lt h7 hb; omega
    · exact h8 (g.dis l0 l b h10 h7 h11 hb ▸ h9)
  refine ⟨c, updE ρ L r', ⟨e3, e4⟩, by simp [AV.conc, updE_same], sl_low (updE ρ L r') L _ 0 (n0 + s.size) c, hs', ?_, fun l b hl hb hn => (hsame l b hl hn hb).symm⟩
  refine g.turn hs' (Nat.le_succ L) ⟨e5.os, e5.tape, e5.output, e5.size, fun b hb hd => e5.block b hb fun e => ?_⟩ (fun l o ho => ?_) (fun l l' b hl hl' hb hb' => ?_) (fun l b hl hb => ?_) (fun l b h7 h8 hb => ?_)
  · rcases h4 with h4 | ⟨l0, h7, h8, h9⟩
    · rw [h4] at e; cases e
    · exact hd l0 h8 (h9.trans e.symm)
  · by_cases e : L = l
    · subst e
      rw [hkL, if_pos rfl] at ho
      cases ho
      have hlx : LowS (updE ρ L r') (L + 1) (xs ++ avB (strB s)) := fun z hz => ((hlowx z hz).ext hs').mono (Nat.le_succ L)
      obtain ⟨h7, h8⟩ := hao.2 c (updE ρ L r') (L + 1) hlx
      refine ⟨by omega, h7, h8 _ _ ?_⟩
      rw [updE_same, concs_low hlowx _ hs']
      exact e2
    · have h7 := hne l e (by rw [ho]; simp)
      rw [hkL, if_neg e, if_neg h7.2] at ho
      have hh := g.hp l o ho
      refine ⟨by omega, (hh.2.1.ext hs').mono (Nat.le_succ L), ?_⟩
      rw [hs' l hh.1]
      exact holds_same ((hh.2.1 _ hs' _ _).1 hh.2.2) fun b hb => hsame l b h7.1 h7.2 hb
  · by_cases e1 : L = l <;> by_cases e2 : L = l'
    · omega
    · exfalso
      subst e1
      rw [updE_same] at hb
      rw [updE_ne ρ _ (fun e => e2 e.symm)] at hb'
      exact hclash l' b e2 hl' hb' hb
    · exfalso
      subst e2
      rw [updE_same] at hb'
      rw [updE_ne ρ _ (fun e => e1 e.symm)] at hb
      exact hclash l b e1 hl.live hb hb'
    · rw [updE_ne ρ _ (fun e => e1 e.symm)] at hb
      rw [updE_ne ρ _ (fun e => e2 e.symm)] at hb'
      exact g.dis l l' b (hnw l e1 hl) (hne l' e2 hl').1 hb hb'
  · by_cases e1 : L = l
    · subst e1
      rw [updE_same] at hb
      exact (hr' b hb).imp id fun ⟨l0, h7, h8, h9⟩ => ⟨l0, h8, h9⟩
    · rw [updE_ne ρ _ (fun e => e1 e.symm)] at hb
      exact .inr ⟨l, hnw l e1 hl, hb⟩
  · obtain rfl : l = L := by omega
    rw [updE_same] at hb
    rcases e2.2 with ⟨h9, _⟩ | ⟨b', cur, h9, h10, _⟩
    · rw [h9] at hb; cases hb
    · rw [h9] at hb; cases hb; exact (Array.getElem?_eq_some_iff.1 h10).1
/-- a text behind bytes of one's own -/
theorem R.apt (htt : TTok P tt) {t u T : TypeId} {x y : Operand} {l n0 cap : Nat} {p q : List UInt8} {tl : TI} {s : ByteArray} (hx : evA τ x = some (.sl l 1 0 n0 cap)) (hl : hk l h = some (.bytes p cap T)) (hn : n0 = p.length) (hy : evA τ y = some (.raw (.string s))) (hr : p ++ strB s = q)
    (ht : lk t tt = some tl) (hkd : tl.kind = .sl T) (hu0 : P.underlying u = some .string) (hi0 : (P.info? T).map (fun i => (i.size, i.bytes, i.zero)) = some (1, 1, some (.int .u8 0)))
    (hg : wantA ops ⟨some d, .call { callee := .builtin .append, args := #[x, y], argTypes := #[t, u] }, ty, ps, af, gd⟩ τ = some true) (hb : (Nat.ble (d + 1) n && chainB h D [l]) = true)
    (hcap : cap ≤ 9223372036854775807) (hby : q.length ≤ 140737488355328)
    (k : ∀ c, q.length ≤ c → c ≤ 9223372036854775807 → R P ops Q (actD h D [l]) E n (L + 1) ((d, .sl L 1 0 q.length c) :: τ) ((L, .bytes q c T) :: (l, .gone) :: h) F rest) :
    R P ops Q D E n L τ h F (⟨some d, .call { callee := .builtin .append, args := #[x, y], argTypes := #[t, u] }, ty, ps, af, gd⟩ :: rest) := by
  subst hr
  have hlen : n0 + s.size = (p ++ strB s).length := by rw [List.length_append, strB_size]; omega
  refine R.apS htt (fun c => .bytes (p ++ strB s) c T) hx hy (DstA.bytes hl hn) (by rw [← avB_append]; exact AsRow.bytes T _) ht hkd hu0 hi0 hg hb hcap (by omega) fun c h1 h2 => ?_
  rw [hlen] at h1 ⊢
  exact k c h1 h2
/-- an entry of the model's own that hands on what it is handed -/
theorem R.same {f : FuncId} {x : Operand} {ats : Array TypeId} {v : AV} {e : Array Value → Sem Value} (eg : ∀ args w, (callFunc f args).run P w = ((e args).run P w).andThen fun v w' => .ok (.value v) w') (he : ∀ v w, (e #[v]).run P w = .ok v w)
    (hx : evA τ x = some v) (hg : wantA ops ⟨some d, .call { callee := .value (.func f), args := #[x], argTypes := ats }, ty, ps, af, gd⟩ τ = some true) (hb : (Nat.ble (d + 1) n && lookB D []) = true)
    (k : R P ops Q (lookD D []) E n L ((d, v) :: τ) h F rest) : R P ops Q D E n L τ h F (⟨some d, .call { callee := .value (.func f), args := #[x], argTypes := ats }, ty, ps, af, gd⟩ :: rest) :=
  R.pure _ (fun ρ a w g => ⟨(g.eval x _ hx).1, fun W => by
    have hev := (g.eval x _ hx).2
    unfold execOp
    simp only [resolve, invoke, Act.eval, Deferred.ofValue, Sem.run_bind, Sem.run_pure, Result.andThen_ok, Array.append_empty, Array.empty_append, List.map_toArray, List.map_cons, List.map_nil]
    have hev' : Act.eval a x = v.conc ρ := hev
    simp only [Act.eval] at hev'
    first | rw [hev'] | rw [hev] | skip
    rw [eg, he]
    rfl⟩) hg hb k
/-- a pointer to a variable as a plain address -/
theorem R.cvu {s0 t0 t : TypeId} {x : Operand} {l w0 i c k : Nat} {xs : List AV} {T : TypeId} (hx : evA τ x = some (.ptr l w0 i c)) (hl : hk l h = some (.cells xs T)) (hs : P.underlying s0 = some (.pointer t)) (hd : P.underlying t0 = some .unsafePointer) (hj : (P.info? t).map (fun j => j.size) = some (k + 1)) (hlen : i * w0 + c < xs.length)
    (hg : wantA ops ⟨some d, .convert s0 t0 x, ty, ps, af, gd⟩ τ = some true) (hb : (Nat.ble (d + 1) n && chainB h D []) = true) (k : R P ops Q (actD h D []) E n L ((d, .ptr l w0 i c) :: τ) h F rest) : R P ops Q D E n L τ h F (⟨some d, .convert s0 t0 x, ty, ps, af, gd⟩ :: rest) := by
  obtain ⟨j, hj1, hj2⟩ := Option.map_eq_some_iff.1 hj
  refine R.act0 (σ := Unit) (fun _ => True) (fun _ => .ptr l w0 i c) (fun ρ a w g => ⟨(), trivial, (g.eval x _ hx).1, ?_⟩) hg hb (fun _ _ => k)
  obtain ⟨b, hr, hbk⟩ := (g.hp l _ hl).2.2
  have hsh : w.shape? b = some (T, xs.length) := by simp [World.shape?, hbk, concs_length]
  have hrun := Lib.run_to_unsafe (P := P) w ⟨b, i * w0 + c, none⟩ hs hd hj1 (by rw [hj2]; omega) hsh hlen
  unfold execOp
  simp only [(g.eval x _ hx).2, AV.conc, hr, Option.getD_some, Sem.run_bind, hrun, Result.andThen_ok]
  rfl
/-- and back -/
theorem R.cvf {s0 t0 u : TypeId} {x : Operand} {l w0 i c : Nat} {xs : List AV} {T : TypeId} (hx : evA τ x = some (.ptr l w0 i c)) (hl : hk l h = some (.cells xs T)) (hs : P.underlying s0 = some .unsafePointer) (hd : P.underlying t0 = some (.pointer u)) (hj : (P.info? u).isSome = true) (hlies : liesAt P P.depth T (xs.length / P.cellsOf T) (i * w0 + c) u 1 = true)
    (hg : wantA ops ⟨some d, .convert s0 t0 x, ty, ps, af, gd⟩ τ = some true) (hb : (Nat.ble (d + 1) n && chainB h D []) = true) (k : R P ops Q (actD h D []) E n L ((d, .ptr l w0 i c) :: τ) h F rest) : R P ops Q D E n L τ h F (⟨some d, .convert s0 t0 x, ty, ps, af, gd⟩ :: rest) := by
  obtain ⟨j, hj1⟩ := Option.isSome_iff_exists.1 hj
  refine R.act0 (σ := Unit) (fun _ => True) (fun _ => .ptr l w0 i c) (fun ρ a w g => ⟨(), trivial, (g.eval x _ hx).1, ?_⟩) hg hb (fun _ _ => k)
  obtain ⟨b, hr, hbk⟩ := (g.hp l _ hl).2.2
  have hsh : w.shape? b = some (T, xs.length) := by simp [World.shape?, hbk, concs_length]
  have hrun := Lib.run_from_unsafe (P := P) w ⟨b, i * w0 + c, none⟩ hs hd hj1 hsh hlies
  unfold execOp
  simp only [(g.eval x _ hx).2, AV.conc, hr, Option.getD_some, Sem.run_bind, hrun, Result.andThen_ok]
  rfl
/-- where a list of bytes lies -/
theorem R.usd {x : Operand} {ts : Array TypeId} {l n0 cap c : Nat} {p : List UInt8} {T : TypeId} (hx : evA τ x = some (.sl l 1 0 n0 cap)) (hl : hk l h = some (.bytes p c T)) (hc : 0 < c) (hc2 : 0 < cap)
    (hg : wantA ops ⟨some d, .call { callee := .builtin .unsafeSliceData, args := #[x], argTypes := ts }, ty, ps, af, gd⟩ τ = some true) (hb : (Nat.ble (d + 1) n && chainB h D []) = true) (k : R P ops Q (actD h D []) E n L ((d, .ptr l 1 0 0) :: τ) h F rest) :
    R P ops Q D E n L τ h F (⟨some d, .call { callee := .builtin .unsafeSliceData, args := #[x], argTypes := ts }, ty, ps, af, gd⟩ :: rest) := by
  refine R.act0 (σ := Unit) (fun _ => True) (fun _ => .ptr l 1 0 0) (fun ρ a w g => ⟨(), trivial, ?_, ?_⟩) hg hb (fun _ _ => k)
  · have hlL := (g.hp l _ hl).1
    exact fun ρ' he => by simp [AV.conc, he l hlL]
  · have hh := (g.hp l _ hl).2.2
    rcases hh.2 with ⟨_, h0⟩ | ⟨b, cur, hr, _⟩
    · omega
    · have hev : a.eval x = .slice (some ⟨b, 0, none⟩) n0 cap := by rw [(g.eval x _ hx).2]; simp [AV.conc, hr]
      have hrun := Lib.run_unsafeSliceData_row (P := P) w ts ty ⟨b, 0, none⟩ n0 cap (by omega)
      unfold execOp
      simp only [resolve, invoke, builtin, Sem.run_bind, Sem.run_pure, Result.andThen_ok, List.map_toArray, List.map_cons, List.map_nil, hev, hrun, AV.conc, hr, Option.getD_some]
theorem freeze_other {w : World} {g m b : Nat} (hb : b ≠ g) : (w.freeze ⟨g, 0, none⟩ m).heap[b]? = w.heap[b]? := by
  unfold World.freeze
  split
  · rfl
  · simp only [Array.getElem?_modify]
    rw [if_neg (fun e => hb e.symm)]
theorem freeze_size {w : World} {g m : Nat} : (w.freeze ⟨g, 0, none⟩ m).heap.size = w.heap.size ∧ (w.freeze ⟨g, 0, none⟩ m).os = w.os ∧ (w.freeze ⟨g, 0, none⟩ m).tape = w.tape ∧ (w.freeze ⟨g, 0, none⟩ m).output = w.output := by
  unfold World.freeze
  split
  · exact ⟨rfl, rfl, rfl, rfl⟩
  · simp
/-- bytes as a text; they are not told any more -/
theorem R.ust {x y : Operand} {pt it : TypeId} {l cap : Nat} {j : Int} {p : List UInt8} {T : TypeId} (hx : evA τ x = some (.ptr l 1 0 0)) (hy : evA τ y = some (.raw (.int .i64 j))) (hj : j = (p.length : Nat)) (hl : hk l h = some (.bytes p cap T)) (h0 : p ≠ []) (h63 : p.length ≤ 9223372036854775807) (hp : P.underlying pt = some (.pointer T)) (hc : P.cellsOf T = 1)
    (hg : wantA ops ⟨some d, .call { callee := .builtin .unsafeString, args := #[x, y], argTypes := #[pt, it] }, ty, ps, af, gd⟩ τ = some true) (hb : (Nat.ble (d + 1) n && chainB h D [l]) = true) (k : R P ops Q (actD h D [l]) E n L ((d, .raw (.string (strOf p))) :: τ) ((l, .gone) :: h) F rest) :
    R P ops Q D E n L τ h F (⟨some d, .call { callee := .builtin .unsafeString, args := #[x, y], argTypes := #[pt, it] }, ty, ps, af, gd⟩ :: rest) := by
  simp only [Bool.and_eq_true] at hb
  refine ⟨RL.acts (σ := Unit) (fun _ => True) (fun _ => .raw (.string (strOf p))) (fun _ => L) (fun _ => (l, .gone) :: h) (fun _ => F) [l] hg hb.1 hb.2 (fun _ _ => Nat.le_refl L) (fun ρ a w g => ?_) (fun _ _ => k.out)⟩
  subst hj
  have hh := (g.hp l _ hl).2.2
  have hpl : 0 < p.length := List.length_pos_iff.2 h0
  rcases hh.2 with ⟨_, hc0⟩ | ⟨b, cur, hr, hbk, hs, hcur⟩
  · have := hh.1; omega
  have hevx : a.eval x = .pointer (some ⟨b, 0, none⟩) := by rw [(g.eval x _ hx).2]; simp [AV.conc, hr]
  have hevy : a.eval y = .int .i64 (p.length : Nat) := (g.eval y _ hy).2
  have hrun := Lib.run_unsafeString_row (P := P) w pt it ty T hp hc b cur.size (by simp [World.shape?, hbk]) p h0 (by have := hh.1; omega) h63 (fun j x hj => by
    obtain ⟨hjl, he⟩ := List.getElem?_eq_some_iff.1 hj
    have := hcur j hjl
    rw [he] at this
    have hadd : ((⟨b, 0, none⟩ : Addr).add j) = ⟨b, j, none⟩ := by unfold Addr.add; split <;> simp_all
    rw [hadd]
    simp [World.cell?, hbk, this, byteV])
  unfold goes execOp
  simp only [resolve, invoke, builtin, Sem.run_bind, Sem.run_pure, Result.andThen_ok, List.map_toArray, List.map_cons, List.map_nil, hevx, hevy, hrun]
  have hfs := freeze_size (w := w) (g := b) (m := p.length)
  refine ⟨(), ρ, trivial, rfl, AV.Low.raw _ _ _, fun _ _ => rfl, g.set hl rfl hr (fun _ _ _ _ => Iff.rfl) trivial (fun b' hb' => freeze_other hb') hfs.1 hfs.2, fun l' b' hl' hb' hn => ?_⟩
  by_cases e : b' = b
  · subst e
    exact absurd (g.dis l l' b' ⟨_, hl, rfl⟩ hl' hr hb') (fun e => hn (by simp [e]))
  · exact (freeze_other e).symm
end
end Go.Proofs.YtaieficgifingaaGreatDoor
namespace Go.Proofs.YtaieficgifingaaGreatDoor
set_option linter.unusedVariables false
set_option linter.unusedSimpArgs false
open Go.RowKit
set_option maxRecDepth 100000
set_option maxHeartbeats 8000000
theorem okP_eq {l : List UInt8} (h : digS (tailM l) = true) : okP l = if minB l = true then decide (natS (tailM l) ≤ 9223372036854775808) else decide (natS (tailM l) ≤ 9223372036854775807) := by
  unfold okP
  rw [int_dig h]
  cases minB l with
  | true =>
    rw [if_pos rfl, if_pos rfl]
    by_cases g : natS (tailM l) ≤ 9223372036854775808
    · rw [if_pos g, decide_eq_true g]
    · rw [if_neg g, decide_eq_false g]
  | false =>
    rw [if_neg Bool.false_ne_true, if_neg Bool.false_ne_true]
    by_cases g : natS (tailM l) ≤ 9223372036854775807
    · rw [if_pos g, decide_eq_true g]
    · rw [if_neg g, decide_eq_false g]
theorem intP_neg {l : List UInt8} (h : digS (tailM l) = true) (hm : minB l = true) (hn : natS (tailM l) ≤ 9223372036854775808) : intP l = -(natS (tailM l) : Nat) := by
  unfold intP
  rw [int_dig h, if_pos hm, if_pos hn]
theorem intP_pos {l : List UInt8} (h : digS (tailM l) = true) (hm : minB l = false) (hn : natS (tailM l) ≤ 9223372036854775807) : intP l = (natS (tailM l) : Nat) := by
  unfold intP
  rw [int_dig h, if_neg (by rw [hm]; decide), if_pos hn]
theorem intR_spec (t : ByteArray) (q : Bool) (ht : t.size ≤ 1000000) : Spec Tryz.prog 106 [wdRA t q] [] 0 (σ := Int) (fun v => irB t q = true → v = intP (strB t)) (fun v => .tup [.raw (.int .i64 v), .raw (.bool (irB t q))]) (fun _ => []) := by
  refine Spec.of Tryz.func106 rfl Tryz.ntmps106 rfl (bdl_nil _) fun ρ w => ?_
  have hlen := strB_size t
  obtain ⟨l, hl⟩ : ∃ l, strB t = l := ⟨_, rfl⟩
  unfold irB
  rw [hl] at hlen ⊢
  refine sS_ ?_
  cases l with
  | nil =>
    have h0 : t.size = 0 := by rw [← hlen]; rfl
    rw [decide_eq_false (show ¬ ((t.size : Nat) : Int) > 0 by omega)]
    refine sS_ ?_
    cases q with
    | true =>
      refine sS_ ?_
      refine X.fin ttok 0 [] (fun h => by cases h) rfl rfl rfl hS4_ _ (by first | exact .inl rfl | exact .inr rfl)
    | false =>
      refine sS_ ?_
      refine R.cl [] (plainR_spec t (by omega)) Tryz.call62 hS6_ rfl rfl rfl (fun _ => rfl) rfl (by kernel_rfl) fun _ _ => ?_
      rw [hl, show digS [] = false from rfl, show digS (tailM []) = false from rfl]
      refine sS_ ?_
      refine X.fin ttok 0 [] (fun h => by cases h) rfl rfl rfl hS4_ _ (by first | exact .inl rfl | exact .inr rfl)
  | cons a r =>
    have h0 : t.size = r.length + 1 := by rw [← hlen]; rfl
    rw [decide_eq_true (show ((t.size : Nat) : Int) > 0 by omega)]
    refine sS_ ?_
    refine R.sx ttok 0 rfl rfl rfl rfl rfl rfl (by show 0 < (strB t).length; rw [hl]; simp) ?_
    rw [show t.data.toList.getD 0 0 = a by show (strB t).getD 0 0 = a; rw [hl]; rfl]
    have haN : a.toNat < 256 := a.toNat_lt
    have hav : ((((a.toNat : Nat) : Int) = 45) ↔ a = 45) := ⟨fun e => UInt8.toNat_inj.1 (show a.toNat = 45 by omega), fun e => by rw [e]; rfl⟩
    refine sS_ ?_
    by_cases h45 : a = 45
    · rw [decide_eq_true (hav.2 h45)]
      have hmin : minB (a :: r) = true := by rw [h45]; rfl
      have htl : tailM (a :: r) = r := by rw [h45]; rfl
      refine sS_ ?_
      refine R.sls ttok 1 t.size rfl rfl rfl rfl (by kernel_rfl) ⟨_, _, rfl, rfl⟩ rfl (by omega) (Nat.le_refl _) ?_
      obtain ⟨s, hse⟩ : ∃ s, t.extract 1 t.size = s := ⟨_, rfl⟩
      have hs : strB s = tailM (a :: r) := by rw [← hse, extract_drop, hl, htl]; rfl
      have hss : s.size = (tailM (a :: r)).length := by rw [← hs, strB_size]
      have hrl : (tailM (a :: r)).length ≤ 1000000 := by rw [htl]; omega
      rw [hse]
      generalize a :: r = l at hmin hs hss hrl ⊢
      rw [hmin, Bool.true_and]
      refine sS_ ?_
      cases q with
      | true =>
        refine sS_ ?_
        refine X.fin ttok 0 [] (fun h => by cases h) rfl rfl rfl hS4_ _ (by first | exact .inl rfl | exact .inr rfl)
      | false =>
        refine sS_ ?_
        refine R.cl [] (plainR_spec s (by omega)) Tryz.call62 hS6_ rfl rfl rfl (fun _ => rfl) rfl (by kernel_rfl) fun _ _ => ?_
        rw [hs]
        cases hd : digS (tailM l) with
        | false =>
          refine sS_ ?_
          refine X.fin ttok 0 [] (fun h => by cases h) rfl rfl rfl hS4_ _ (by first | exact .inl rfl | exact .inr rfl)
        | true =>
          have hall := (digS_all hd).1
          refine sS_ ?_
          by_cases h19 : (tailM l).length ≤ 19
          · rw [decide_eq_false (show ¬ ((s.size : Nat) : Int) > 19 by omega)]
            have hlt19 := natS_lt19 hall h19
            refine sS_ ?_
            by_cases h48 : tailM l = [48]
            · rw [decide_eq_true h48]
              rw [eqL, hs, decide_eq_true (show tailM l = _ from h48)]
              refine sS_ ?_
              refine X.fin ttok 0 [] (fun h => by cases h) rfl rfl rfl hS4_ _ (by first | exact .inl rfl | exact .inr rfl)
            · rw [decide_eq_false h48]
              rw [eqL, hs, decide_eq_false (show ¬ tailM l = _ from h48)]
              have hpos := digS_pos hd h48
              refine sS_ ?_
              refine C.loop (σ := Nat) (L2 := 1) (fun i => i ≤ s.size) (fun i => [(4, .raw (.string s)), (5, .raw (.bool true)), (6, .raw (.int .u64 (natS ((tailM l).take i) : Nat))), (7, .raw (.int .i64 (i : Nat)))]) (fun _ => []) _ (fun i => s.size - i) [] 0 (Nat.zero_le _) rfl hS7_ hS5_ rfl (fun _ h => h) ?_
              intro i hi
              have hN := natS_lt19 (all_takeN hall i) (by rw [List.length_take]; omega)
              refine sS_ ?_
              by_cases hlt : i < s.size
              · rw [decide_eq_true (show ((i : Nat) : Int) < (s.size : Nat) by omega)]
                have hlt' : i < (tailM l).length := by omega
                have hsn : natS ((tailM l).take (i + 1)) = natS ((tailM l).take i) * 10 + (((tailM l).getD i 0).toNat - 48) := by rw [takeS hlt', natS_snoc]
                have hN2 := natS_lt19 (all_takeN hall (i + 1)) (by rw [List.length_take]; omega)
                have hdg : digB ((tailM l).getD i 0) = true := by
                  have := List.all_eq_true.1 hall _ (List.getElem_mem hlt')
                  rw [List.getD_eq_getElem?_getD, List.getElem?_eq_getElem hlt']
                  exact this
                unfold digB at hdg
                simp only [Bool.and_eq_true, decide_eq_true_eq] at hdg
                obtain ⟨k, hk⟩ : ∃ k, natS ((tailM l).take i) = k := ⟨_, rfl⟩
                rw [hk] at hN hsn ⊢
                rw [hsn] at hN2
                obtain ⟨b, hb⟩ : ∃ b, (tailM l).getD i 0 = b := ⟨_, rfl⟩
                rw [hb] at hsn hdg hN2
                have hbN : b.toNat < 256 := b.toNat_lt
                have hk10 : k * 10 < 10000000000000000000 := by omega
                refine sS_ ?_
                refine R.sx ttok i rfl rfl rfl rfl rfl rfl (by show i < (strB s).length; rw [hs]; omega) ?_
                rw [show s.data.toList.getD i 0 = b by rw [← hb, ← hs]; rfl]
                refine sS_ ?_
                exact X.back [] (i + 1) (by omega) (by omega) rfl (by
                  show HasT _ _ _ [_, _, (6, .raw (.int .u64 ((natS ((tailM l).take (i + 1)) : Nat) : Int))), _]
                  rw [hsn, show (((k * 10 + (b.toNat - 48) : Nat)) : Int) = 10 * (k : Nat) + (b.toNat : Nat) - 48 by omega]
                  exact hS7_) hS5_ rfl (fun _ h => h)
              · rw [decide_eq_false (show ¬ ((i : Nat) : Int) < (s.size : Nat) by omega)]
                rw [List.take_of_length_le (by omega : (tailM l).length ≤ i)]
                refine sS_ ?_
                obtain ⟨m, hm⟩ : ∃ m, natS (tailM l) = m := ⟨_, rfl⟩
                rw [hm] at hlt19 ⊢
                rw [hm] at hpos
                have hok : okP l = decide (m ≤ 9223372036854775808) := by rw [okP_eq hd, hmin, if_pos rfl, hm]
                rw [hok]
                by_cases hle : m ≤ 9223372036854775808
                · rw [decide_eq_true hle, decide_eq_true (show ((m : Nat) : Int) ≤ 9223372036854775808 by omega)]
                  have hv := intP_neg hd hmin (by rw [hm]; exact hle)
                  have hvv : IntKind.i64.wrap (IntKind.i64.wrap (0 - IntKind.i64.wrap ((m : Nat) - 1)) - 1) = intP l := by
                    have w1 : IntKind.i64.wrap ((m : Nat) - 1) = (m : Nat) - 1 := wrap_i64 (by omega) (by omega)
                    have w2 : IntKind.i64.wrap (0 - ((m : Nat) - 1)) = 0 - ((m : Nat) - 1 : Int) := wrap_i64 (by omega) (by omega)
                    have w3 : IntKind.i64.wrap (0 - ((m : Nat) - 1) - 1) = 0 - ((m : Nat) - 1) - 1 := wrap_i64 (by omega) (by omega)
                    rw [hv, hm, w1, w2, w3]
                    omega
                  refine sS_ ?_
                  refine X.fin ttok _ [] (fun _ => hvv) rfl rfl rfl hS4_ _ (by first | exact .inl rfl | exact .inr rfl)
                · rw [decide_eq_false hle, decide_eq_false (show ¬ ((m : Nat) : Int) ≤ 9223372036854775808 by omega)]
                  refine sS_ ?_
                  refine X.fin ttok _ [] (fun h => by cases h) rfl rfl rfl hS4_ _ (by first | exact .inl rfl | exact .inr rfl)
          · rw [decide_eq_true (show ((s.size : Nat) : Int) > 19 by omega)]
            have hbig := digS_len hd (by omega)
            have hok : okP l = false := by
              rw [okP_eq hd]
              split <;> exact decide_eq_false (by omega)
            rw [hok, Bool.and_false]
            refine sS_ ?_
            refine X.fin ttok 0 [] (fun h => by cases h) rfl rfl rfl hS4_ _ (by first | exact .inl rfl | exact .inr rfl)
    · rw [decide_eq_false (fun e => h45 (hav.1 e))]
      have hmin : minB (a :: r) = false := by unfold minB; simp [h45]
      have htl : tailM (a :: r) = a :: r := by unfold tailM; rw [hmin, if_neg Bool.false_ne_true]
      have hs : strB t = tailM (a :: r) := by rw [htl]; exact hl
      have hss : t.size = (tailM (a :: r)).length := by rw [← hs, strB_size]
      have hrl : (tailM (a :: r)).length ≤ 1000000 := by rw [htl, List.length_cons]; omega
      generalize a :: r = l at hmin hs hss hrl ⊢
      rw [hmin, Bool.false_and]
      obtain ⟨s, hse⟩ : ∃ s, t = s := ⟨_, rfl⟩
      rw [hse] at hs hss ⊢
      refine sS_ ?_
      cases q with
      | true =>
        refine sS_ ?_
        refine X.fin ttok 0 [] (fun h => by cases h) rfl rfl rfl hS4_ _ (by first | exact .inl rfl | exact .inr rfl)
      | false =>
        refine sS_ ?_
        refine R.cl [] (plainR_spec s (by omega)) Tryz.call62 hS6_ rfl rfl rfl (fun _ => rfl) rfl (by kernel_rfl) fun _ _ => ?_
        rw [hs]
        cases hd : digS (tailM l) with
        | false =>
          refine sS_ ?_
          refine X.fin ttok 0 [] (fun h => by cases h) rfl rfl rfl hS4_ _ (by first | exact .inl rfl | exact .inr rfl)
        | true =>
          have hall := (digS_all hd).1
          refine sS_ ?_
          by_cases h19 : (tailM l).length ≤ 19
          · rw [decide_eq_false (show ¬ ((s.size : Nat) : Int) > 19 by omega)]
            have hlt19 := natS_lt19 hall h19
            refine sS_ ?_
            refine C.loop (σ := Nat) (L2 := 1) (fun i => i ≤ s.size) (fun i => [(4, .raw (.string s)), (5, .raw (.bool false)), (6, .raw (.int .u64 (natS ((tailM l).take i) : Nat))), (7, .raw (.int .i64 (i : Nat)))]) (fun _ => []) _ (fun i => s.size - i) [] 0 (Nat.zero_le _) rfl hS7_ hS5_ rfl (fun _ h => h) ?_
            intro i hi
            have hN := natS_lt19 (all_takeN hall i) (by rw [List.length_take]; omega)
            refine sS_ ?_
            by_cases hlt : i < s.size
            · rw [decide_eq_true (show ((i : Nat) : Int) < (s.size : Nat) by omega)]
              have hlt' : i < (tailM l).length := by omega
              have hsn : natS ((tailM l).take (i + 1)) = natS ((tailM l).take i) * 10 + (((tailM l).getD i 0).toNat - 48) := by rw [takeS hlt', natS_snoc]
              have hN2 := natS_lt19 (all_takeN hall (i + 1)) (by rw [List.length_take]; omega)
              have hdg : digB ((tailM l).getD i 0) = true := by
                have := List.all_eq_true.1 hall _ (List.getElem_mem hlt')
                rw [List.getD_eq_getElem?_getD, List.getElem?_eq_getElem hlt']
                exact this
              unfold digB at hdg
              simp only [Bool.and_eq_true, decide_eq_true_eq] at hdg
              obtain ⟨k, hk⟩ : ∃ k, natS ((tailM l).take i) = k := ⟨_, rfl⟩
              rw [hk] at hN hsn ⊢
              rw [hsn] at hN2
              obtain ⟨b, hb⟩ : ∃ b, (tailM l).getD i 0 = b := ⟨_, rfl⟩
              rw [hb] at hsn hdg hN2
              have hbN : b.toNat < 256 := b.toNat_lt
              have hk10 : k * 10 < 10000000000000000000 := by omega
              refine sS_ ?_
              refine R.sx ttok i rfl rfl rfl rfl rfl rfl (by show i < (strB s).length; rw [hs]; omega) ?_
              rw [show s.data.toList.getD i 0 = b by rw [← hb, ← hs]; rfl]
              refine sS_ ?_
              exact X.back [] (i + 1) (by omega) (by omega) rfl (by
                show HasT _ _ _ [_, _, (6, .raw (.int .u64 ((natS ((tailM l).take (i + 1)) : Nat) : Int))), _]
                rw [hsn, show (((k * 10 + (b.toNat - 48) : Nat)) : Int) = 10 * (k : Nat) + (b.toNat : Nat) - 48 by omega]
                exact hS7_) hS5_ rfl (fun _ h => h)
            · rw [decide_eq_false (show ¬ ((i : Nat) : Int) < (s.size : Nat) by omega)]
              rw [List.take_of_length_le (by omega : (tailM l).length ≤ i)]
              refine sS_ ?_
              obtain ⟨m, hm⟩ : ∃ m, natS (tailM l) = m := ⟨_, rfl⟩
              rw [hm] at hlt19 ⊢
              have hok : okP l = decide (m ≤ 9223372036854775807) := by rw [okP_eq hd, hmin, if_neg (by decide), hm]
              rw [hok]
              by_cases hle : m ≤ 9223372036854775807
              · rw [decide_eq_true hle, decide_eq_true (show ((m : Nat) : Int) ≤ 9223372036854775807 by omega)]
                have hv := intP_pos hd hmin (by rw [hm]; exact hle)
                refine sS_ ?_
                refine X.fin ttok _ [] (fun _ => by rw [hv, hm]; exact wrap_i64 (by omega) (by omega)) rfl rfl rfl hS4_ _ (by first | exact .inl rfl | exact .inr rfl)
              · rw [decide_eq_false hle, decide_eq_false (show ¬ ((m : Nat) : Int) ≤ 9223372036854775807 by omega)]
                refine sS_ ?_
                refine X.fin ttok _ [] (fun h => by cases h) rfl rfl rfl hS4_ _ (by first | exact .inl rfl | exact .inr rfl)
          · rw [decide_eq_true (show ((s.size : Nat) : Int) > 19 by omega)]
            have hbig := digS_len hd (by omega)
            have hok : okP l = false := by
              rw [okP_eq hd]
              split <;> exact decide_eq_false (by omega)
            rw [hok, Bool.and_false]
            refine sS_ ?_
            refine X.fin ttok 0 [] (fun h => by cases h) rfl rfl rfl hS4_ _ (by first | exact .inl rfl | exact .inr rfl)
end Go.Proofs.YtaieficgifingaaGreatDoor
namespace Go.Proofs.YtaieficgifingaaGreatDoor
set_option linter.unusedVariables false
set_option linter.unusedSimpArgs false
open Go.RowKit
set_option maxRecDepth 100000
set_option maxHeartbeats 8000000
def vR (t : ByteArray) (q : Bool) : VP := if (valP t q).ok = true then valP t q else ⟨0, 0, noT0, false⟩
theorem valueR_spec (t : ByteArray) (q : Bool) (ht : t.size ≤ 1000000) : Spec Tryz.prog 67 [wdRA t q] [] 0 (σ := Unit) (fun _ => True) (fun _ => .tup [.agg [.raw (.int .i64 ((vR t q).k : Nat)), .raw (.int .i64 (vR t q).i), .raw (.string (vR t q).t)], .raw (.bool (vR t q).ok)]) (fun _ => []) := by
  refine Spec.of Tryz.func67 rfl Tryz.ntmps67 rfl (bdl_nil _) fun ρ w => ?_
  refine sS_ ?_
  cases q with
  | true =>
    have hv : vR t true = ⟨2, 0, t, true⟩ := rfl
    rw [hv]
    refine sS_ ?_
    refine X.fin ttok () [] trivial rfl rfl rfl hS4_ _ (by first | exact .inl rfl | exact .inr rfl)
  | false =>
    refine sS_ ?_
    rw [eqL]
    by_cases hn : strB t = [110, 111, 110, 101]
    · have hv : vR t false = ⟨0, 0, noT0, true⟩ := by
        unfold vR valP
        rw [if_neg Bool.false_ne_true, if_pos hn]
        rfl
      rw [hv, decide_eq_true hn]
      refine sS_ ?_
      refine X.fin ttok () [] trivial rfl rfl rfl hS4_ _ (by first | exact .inl rfl | exact .inr rfl)
    · rw [decide_eq_false hn]
      have hvp : (valP t false).ok = irB t false ∧ (irB t false = true → valP t false = ⟨1, intP (strB t), noT0, true⟩) := by
        unfold valP irB
        rw [if_neg Bool.false_ne_true, if_neg hn]
        cases hd : digS (tailM (strB t)) with
        | false =>
          rw [if_pos (.inl rfl)]
          exact ⟨rfl, fun h => by cases h⟩
        | true =>
          cases hm : minB (strB t) with
          | false =>
            rw [if_neg (by rintro (h | h); cases h; cases h.1)]
            exact ⟨rfl, fun h => by
              have : okP (strB t) = true := h
              rw [this]⟩
          | true =>
            by_cases h48 : tailM (strB t) = [48]
            · rw [if_pos (.inr ⟨rfl, h48⟩), decide_eq_true h48]
              exact ⟨rfl, fun h => by cases h⟩
            · rw [if_neg (by rintro (h | h); cases h; exact h48 h.2), decide_eq_false h48]
              exact ⟨rfl, fun h => by
                have : okP (strB t) = true := h
                rw [this]⟩
      refine sS_ ?_
      refine R.cl [] (intR_spec t false ht) Tryz.call106 hS6_ rfl rfl rfl (fun _ => rfl) rfl (by kernel_rfl) fun v hv => ?_
      cases hi : irB t false with
      | false =>
        rw [hi] at hvp
        have hv2 : vR t false = ⟨0, 0, noT0, false⟩ := by
          unfold vR
          rw [if_neg (by rw [hvp.1]; decide)]
        rw [hv2]
        refine sS_ ?_
        refine X.fin ttok () [] trivial rfl rfl rfl hS4_ _ (by first | exact .inl rfl | exact .inr rfl)
      | true =>
        rw [hi] at hvp
        have hv2 : vR t false = ⟨1, intP (strB t), noT0, true⟩ := by
          unfold vR
          rw [if_pos hvp.1]
          exact hvp.2 rfl
        rw [hv2, hv hi]
        refine sS_ ?_
        refine X.fin ttok () [] trivial rfl rfl rfl hS4_ _ (by first | exact .inl rfl | exact .inr rfl)
theorem registerR_spec (t : ByteArray) (q : Bool) (ht : t.size ≤ 1000000) : Spec Tryz.prog 65 [wdRA t q] [] 0 (σ := Unit) (fun _ => True) (fun _ => .tup [.raw (.int .i64 (regV t q : Nat)), .raw (.bool (regB t q))]) (fun _ => []) := by
  refine Spec.of Tryz.func65 rfl Tryz.ntmps65 rfl (bdl_nil _) fun ρ w => ?_
  have hlen := strB_size t
  have hz : ∀ u q', numB u q' = false → numV u q' = 0 := fun u q' h => by unfold numV; rw [h]; rfl
  have hno : numB (regW t) (regQ t q) = false → regV t q = 0 ∧ regB t q = false := fun h => ⟨hz _ _ h, by unfold regB; rw [h]; rfl⟩
  have hnq : ∀ u, numB u true = false := fun u => rfl
  refine sS_ ?_
  cases q with
  | true =>
    obtain ⟨hv, hb⟩ := hno (by unfold regQ; exact hnq _)
    rw [hv, hb]
    refine sS_ ?_
    refine X.fin ttok () [] trivial rfl rfl rfl hS4_ _ (by first | exact .inl rfl | exact .inr rfl)
  | false =>
    refine sS_ ?_
    cases hl : strB t with
    | nil =>
      have h0 : t.size = 0 := by rw [← hlen, hl]; rfl
      rw [decide_eq_true (show ((t.size : Nat) : Int) < 2 by omega)]
      have hq : regQ t false = true := by unfold regQ; rw [hl]; rfl
      obtain ⟨hv, hb⟩ := hno (by rw [hq]; exact hnq _)
      rw [hv, hb]
      refine sS_ ?_
      refine X.fin ttok () [] trivial rfl rfl rfl hS4_ _ (by first | exact .inl rfl | exact .inr rfl)
    | cons a r =>
      have h0 : t.size = r.length + 1 := by rw [← hlen, hl]; rfl
      have haN : a.toNat < 256 := a.toNat_lt
      have hav : ((((a.toNat : Nat) : Int) = 114) ↔ a = 114) := ⟨fun e => UInt8.toNat_inj.1 (show a.toNat = 114 by omega), fun e => by rw [e]; rfl⟩
      have hnr : a ≠ 114 → regQ t false = true := fun h => by
        unfold regQ
        rw [hl]
        have : Lib.hasPrefix (a :: r) [114] = false := by
          unfold Lib.hasPrefix
          simp [List.isPrefixOf]
          exact fun e => h e.symm
        rw [this]; rfl
      have hr : a = 114 → regQ t false = false ∧ regW t = strOf r := fun h => by
        subst h
        unfold regQ regW
        rw [hl]
        exact ⟨by simp [Lib.hasPrefix], by simp [Lib.trimPrefix, Lib.hasPrefix]⟩
      by_cases h2 : r = []
      · have hs1 : t.size = 1 := by rw [h0, h2]; rfl
        rw [decide_eq_true (show ((t.size : Nat) : Int) < 2 by omega)]
        have hnb : numB (regW t) (regQ t false) = false := by
          by_cases ha : a = 114
          · rw [(hr ha).1, (hr ha).2, h2]; rfl
          · rw [hnr ha]; exact hnq _
        obtain ⟨hv, hb⟩ := hno hnb
        rw [hv, hb]
        refine sS_ ?_
        refine X.fin ttok () [] trivial rfl rfl rfl hS4_ _ (by first | exact .inl rfl | exact .inr rfl)
      · have hrp := List.length_pos_iff.2 h2
        rw [decide_eq_false (show ¬ ((t.size : Nat) : Int) < 2 by omega)]
        refine sS_ ?_
        refine R.sx ttok 0 rfl rfl rfl rfl rfl rfl (by show 0 < (strB t).length; omega) ?_
        rw [show t.data.toList.getD 0 0 = a by show (strB t).getD 0 0 = a; rw [hl]; rfl]
        refine sS_ ?_
        by_cases ha : a = 114
        · rw [decide_eq_false (show ¬ (((a.toNat : Nat) : Int) ≠ 114) from fun h => h (hav.2 ha))]
          obtain ⟨e1, e2⟩ := hr ha
          have hV : regV t false = numV (strOf r) false := by unfold regV; rw [e1, e2]
          have hB : regB t false = (numB (strOf r) false && decide (numV (strOf r) false < 16)) := by unfold regB; rw [hV, e1, e2]
          rw [hV, hB]
          refine sS_ ?_
          refine R.sls ttok 1 t.size rfl rfl rfl rfl (by kernel_rfl) ⟨_, _, rfl, rfl⟩ rfl (by omega) (Nat.le_refl _) ?_
          rw [show t.extract 1 t.size = strOf r from strB_inj (by rw [extract_drop, hl]; rfl)]
          refine sS_ ?_
          refine R.cl [] (numberR_spec (strOf r) false (by rw [← strB_size]; show r.length ≤ _; omega)) Tryz.call27 hS6_ rfl rfl rfl (fun _ => rfl) rfl (by kernel_rfl) fun _ _ => ?_
          refine sS_ ?_
          cases hnb : numB (strOf r) false with
          | false =>
            refine sS_ ?_
            refine X.fin ttok () [] trivial rfl rfl rfl hS4_ _ (by first | exact .inl rfl | exact .inr rfl)
          | true =>
            refine sS_ ?_
            rw [show decide (((numV (strOf r) false : Nat) : Int) < 16) = decide (numV (strOf r) false < 16) from decide_eq_decide.2 (by omega)]
            refine sS_ ?_
            refine X.fin ttok () [] trivial rfl rfl rfl hS4_ _ (by first | exact .inl rfl | exact .inr rfl)
        · rw [decide_eq_true (show (((a.toNat : Nat) : Int) ≠ 114) from fun h => ha (hav.1 h))]
          obtain ⟨hv, hb⟩ := hno (by rw [hnr ha]; exact hnq _)
          rw [hv, hb]
          refine sS_ ?_
          refine X.fin ttok () [] trivial rfl rfl rfl hS4_ _ (by first | exact .inl rfl | exact .inr rfl)
theorem signsR_spec : Spec Tryz.prog 73 [] [] 1 (σ := Unit) (fun _ => True) (fun _ => .sl 0 1 0 7 7) (fun _ => [(0, .cells [.raw (.string ⟨#[]⟩), .raw (.string ⟨#[61]⟩), .raw (.string ⟨#[33, 61]⟩), .raw (.string ⟨#[60]⟩), .raw (.string ⟨#[60, 61]⟩), .raw (.string ⟨#[62]⟩), .raw (.string ⟨#[62, 61]⟩)] 9)]) := by
  refine Spec.of Tryz.func73 rfl Tryz.ntmps73 rfl (bdl_nil _) fun ρ w => ?_
  refine sS_ ?_
  refine X.fin ttok () [] trivial rfl rfl rfl hS4_ _ (by first | exact .inl rfl | exact .inr rfl)
def sgN (t : ByteArray) (q : Bool) : Nat := (signP t q).getD 0
theorem signR_spec (t : ByteArray) (q : Bool) : Spec Tryz.prog 66 [wdRA t q] [] 0 (σ := Unit) (fun _ => True) (fun _ => .raw (.int .i64 (sgN t q : Nat))) (fun _ => []) := by
  refine Spec.of Tryz.func66 rfl Tryz.ntmps66 rfl (bdl_nil _) fun ρ w => ?_
  refine sS_ ?_
  refine R.cl [] (signsR_spec) Tryz.call73 hS6_ rfl rfl rfl (fun _ => rfl) rfl (by kernel_rfl) fun _ _ => ?_
  refine sS_ ?_
  have hb0 : sgB t q 0 = false := rfl
  have hd0 : ∀ j, j < 1 → sgB t q j = false := fun j h => by
    obtain rfl : j = 0 := by omega
    exact hb0
  refine C.loop (σ := Nat) (L2 := 2) (fun i => 1 ≤ i ∧ i ≤ 7 ∧ ∀ j, j < i → sgB t q j = false) (fun i => [(1, .ptr 0 0 0 0), (3, .sl 1 1 0 7 7), (4, .raw (.int .i64 (i : Nat)))]) (fun _ => [(0, .cells [.raw (.bool q), .raw (.string t)] 74), (1, roSg)]) _ (fun i => 7 - i) [] 1 ⟨Nat.le_refl _, by decide, hd0⟩ rfl hS7_ (.same rfl rfl rfl rfl (.other rfl (fun e => by cases e) (fun ρ x w hh => cells_sg hh) rfl (fun _ _ => rfl) .nil)) rfl (fun _ h => h) ?_
  rintro i ⟨h1, hi, hd⟩
  refine sS_ ?_
  by_cases hlt : i < 7
  · rw [decide_eq_true (show ((i : Nat) : Int) < ((7 : Nat) : Int) by omega)]
    have hB : sgB t q i = (decide (strB (sgL.getD i ⟨#[]⟩) = strB t) && !q) := by unfold sgB; rw [decide_eq_true (show 0 < i by omega)]; rfl
    refine sS_ ?_
    refine C.draw [[], [0], [0, 1], [0, 1, 2], [0, 1, 2, 3], [0, 1, 2, 3, 4], [0, 1, 2, 3], [0, 1, 2, 3], [0, 1, 2, 3, 6, 7], [0, 1, 2, 3, 6, 7, 8], [0, 1, 2, 3, 4, 5, 6, 7, 8, 9], [0, 1, 2, 3, 4, 5, 6, 7, 8, 9, 10]] [] (by kernel_rfl) (by kernel_rfl) ?_
    refine sS_ ?_
    cases q with
    | true =>
      have hno : sgB t true i = false := by rw [hB]; simp
      refine sS_ ?_
      exact X.back [] (i + 1) ⟨by omega, hlt, fun j hj => (by
        rcases Nat.lt_or_ge j i with h | h
        · exact hd j h
        · obtain rfl : j = i := by omega
          exact hno)⟩ (by omega) rfl hS7_ hS5_ rfl (fun _ h => h)
    | false =>
      refine sS_ ?_
      refine R.ix ttok i rfl rfl rfl rfl rfl (by kernel_rfl) rfl hlt (by show _ ≤ _ ∧ _ < _; omega) rfl ?_
      refine R.ldo (v := .raw (.string (sgL.getD i ⟨#[]⟩))) ttok rfl rfl rfl rfl rfl (by kernel_rfl) hlt ?_
      obtain ⟨sg, hsg⟩ : ∃ sg, sgL.getD i ⟨#[]⟩ = sg := ⟨_, rfl⟩
      rw [hsg] at hB ⊢
      refine sS_ ?_
      rw [eqS]
      by_cases he : strB t = strB sg
      · rw [decide_eq_true he]
        have hs := sign_at hlt hd (by rw [hB, decide_eq_true he.symm]; rfl)
        rw [show sgN t false = i by unfold sgN; rw [hs]; rfl]
        refine sS_ ?_
        refine X.fin ttok () [] trivial rfl rfl rfl hS4_ _ (by first | exact .inl rfl | exact .inr rfl)
      · rw [decide_eq_false he]
        have hno : sgB t false i = false := by rw [hB, decide_eq_false (fun e => he e.symm)]; rfl
        refine sS_ ?_
        exact X.back [] (i + 1) ⟨by omega, hlt, fun j hj => (by
          rcases Nat.lt_or_ge j i with h | h
          · exact hd j h
          · obtain rfl : j = i := by omega
            exact hno)⟩ (by omega) rfl hS7_ hS5_ rfl (fun _ h => h)
  · rw [decide_eq_false (show ¬ ((i : Nat) : Int) < ((7 : Nat) : Int) by omega)]
    obtain rfl : i = 7 := by omega
    rw [show sgN t q = 0 by unfold sgN; rw [sign_no hd]; rfl]
    refine sS_ ?_
    refine X.fin ttok () [] trivial rfl rfl rfl hS4_ _ (by first | exact .inl rfl | exact .inr rfl)
end Go.Proofs.YtaieficgifingaaGreatDoor
namespace Go.Proofs.YtaieficgifingaaGreatDoor
set_option linter.unusedVariables false
set_option linter.constructorNameAsVariable false
set_option linter.unusedSimpArgs false
open Go.RowKit
set_option maxRecDepth 100000
set_option maxHeartbeats 8000000
def nmL : List ByteArray := [⟨#[]⟩, ⟨#[115, 101, 116]⟩, ⟨#[97, 114, 103]⟩, ⟨#[103, 101, 116]⟩, ⟨#[112, 117, 116]⟩, ⟨#[100, 101, 108]⟩, ⟨#[97, 100, 100]⟩, ⟨#[115, 117, 98]⟩, ⟨#[109, 117, 108]⟩, ⟨#[106, 111, 105, 110]⟩, ⟨#[110, 101, 101, 100]⟩, ⟨#[115, 107, 105, 112]⟩, ⟨#[115, 117, 109]⟩, ⟨#[99, 111, 117, 110, 116]⟩, ⟨#[110, 101, 120, 116]⟩, ⟨#[116, 101, 108, 108]⟩, ⟨#[115, 116, 111, 112]⟩]
def nmF (i : Nat) : List AV := [.raw (.string (nmL.getD i ⟨#[]⟩))]
abbrev roNm : AO := .ro 1 0 17 nmF
abbrev nmC : List AV := [.raw (.string ⟨#[]⟩), .raw (.string ⟨#[115, 101, 116]⟩), .raw (.string ⟨#[97, 114, 103]⟩), .raw (.string ⟨#[103, 101, 116]⟩), .raw (.string ⟨#[112, 117, 116]⟩), .raw (.string ⟨#[100, 101, 108]⟩), .raw (.string ⟨#[97, 100, 100]⟩), .raw (.string ⟨#[115, 117, 98]⟩), .raw (.string ⟨#[109, 117, 108]⟩), .raw (.string ⟨#[106, 111, 105, 110]⟩), .raw (.string ⟨#[110, 101, 101, 100]⟩), .raw (.string ⟨#[115, 107, 105, 112]⟩), .raw (.string ⟨#[115, 117, 109]⟩), .raw (.string ⟨#[99, 111, 117, 110, 116]⟩), .raw (.string ⟨#[110, 101, 120, 116]⟩), .raw (.string ⟨#[116, 101, 108, 108]⟩), .raw (.string ⟨#[115, 116, 111, 112]⟩)]
theorem cells_nm {ρ : Env} {r : Option Nat} {w : World} {T : TypeId} (h : (AO.cells nmC T).holds ρ r w) : roNm.holds ρ r w := by
  obtain ⟨b, hr, hb⟩ := h
  refine .inr ⟨b, _, T, _, hr, hb, fun i c y hi hy => ?_⟩
  match i, hi with
  | 0, _ | 1, _ | 2, _ | 3, _ | 4, _ | 5, _ | 6, _ | 7, _ | 8, _ | 9, _ | 10, _ | 11, _ | 12, _ | 13, _ | 14, _ | 15, _ | 16, _ =>
    match c, hy with
    | 0, hy => cases hy; rfl
    | c + 1, hy => simp [nmF] at hy
  | i + 17, hi => omega
theorem namesR_spec : Spec Tryz.prog 63 [] [] 1 (σ := Unit) (fun _ => True) (fun _ => .sl 0 1 0 17 17) (fun _ => [(0, .cells nmC 9)]) := by
  refine Spec.of Tryz.func63 rfl Tryz.ntmps63 rfl (bdl_nil _) fun ρ w => ?_
  refine sS_ ?_
  refine X.fin ttok () [] trivial rfl rfl rfl hS4_ _ (by first | exact .inl rfl | exact .inr rfl)
def fks : Nat → List FK
  | 1 => [.a, .v]
  | 2 => [.a, .n]
  | 3 => [.a, .b]
  | 4 => [.a, .b]
  | 5 => [.a]
  | 6 => [.a, .b, .c]
  | 7 => [.a, .b, .c]
  | 8 => [.a, .b, .c]
  | 9 => [.a, .b, .c]
  | 10 => [.b, .s, .c]
  | 11 => [.k, .b, .s, .c]
  | 12 => [.a, .b, .c, .n]
  | 13 => [.a, .b, .c, .n]
  | 14 => [.a, .b]
  | 15 => [.a]
  | _ => []
def FK.lt : FK → UInt8
  | .a => 97
  | .b => 98
  | .c => 99
  | .n => 110
  | .k => 107
  | .s => 115
  | .v => 118
theorem fks_len (o : Nat) : (fks o).length ≤ 4 := by
  unfold fks
  split <;> simp
theorem shapeR_spec (o : Nat) (ho : o ≤ 16) : Spec Tryz.prog 64 [.raw (.int .i64 (o : Nat))] [] 0 (σ := Unit) (fun _ => True) (fun _ => .raw (.string (strOf ((fks o).map FK.lt)))) (fun _ => []) := by
  refine Spec.of Tryz.func64 rfl Tryz.ntmps64 rfl (bdl_nil _) fun ρ w => ?_
  match o, ho with
  | 0, _ =>
    refine sS_ ?_
    refine X.fin ttok () [] trivial rfl rfl rfl hS4_ _ (by first | exact .inl rfl | exact .inr rfl)
  | 1, _ =>
    refine sS_ ?_
    refine X.fin ttok () [] trivial rfl rfl rfl hS4_ _ (by first | exact .inl rfl | exact .inr rfl)
  | 2, _ =>
    refine sS_ ?_
    refine X.fin ttok () [] trivial rfl rfl rfl hS4_ _ (by first | exact .inl rfl | exact .inr rfl)
  | 3, _ =>
    refine sS_ ?_
    refine X.fin ttok () [] trivial rfl rfl rfl hS4_ _ (by first | exact .inl rfl | exact .inr rfl)
  | 4, _ =>
    refine sS_ ?_
    refine X.fin ttok () [] trivial rfl rfl rfl hS4_ _ (by first | exact .inl rfl | exact .inr rfl)
  | 5, _ =>
    refine sS_ ?_
    refine X.fin ttok () [] trivial rfl rfl rfl hS4_ _ (by first | exact .inl rfl | exact .inr rfl)
  | 6, _ =>
    refine sS_ ?_
    refine X.fin ttok () [] trivial rfl rfl rfl hS4_ _ (by first | exact .inl rfl | exact .inr rfl)
  | 7, _ =>
    refine sS_ ?_
    refine X.fin ttok () [] trivial rfl rfl rfl hS4_ _ (by first | exact .inl rfl | exact .inr rfl)
  | 8, _ =>
    refine sS_ ?_
    refine X.fin ttok () [] trivial rfl rfl rfl hS4_ _ (by first | exact .inl rfl | exact .inr rfl)
  | 9, _ =>
    refine sS_ ?_
    refine X.fin ttok () [] trivial rfl rfl rfl hS4_ _ (by first | exact .inl rfl | exact .inr rfl)
  | 10, _ =>
    refine sS_ ?_
    refine X.fin ttok () [] trivial rfl rfl rfl hS4_ _ (by first | exact .inl rfl | exact .inr rfl)
  | 11, _ =>
    refine sS_ ?_
    refine X.fin ttok () [] trivial rfl rfl rfl hS4_ _ (by first | exact .inl rfl | exact .inr rfl)
  | 12, _ =>
    refine sS_ ?_
    refine X.fin ttok () [] trivial rfl rfl rfl hS4_ _ (by first | exact .inl rfl | exact .inr rfl)
  | 13, _ =>
    refine sS_ ?_
    refine X.fin ttok () [] trivial rfl rfl rfl hS4_ _ (by first | exact .inl rfl | exact .inr rfl)
  | 14, _ =>
    refine sS_ ?_
    refine X.fin ttok () [] trivial rfl rfl rfl hS4_ _ (by first | exact .inl rfl | exact .inr rfl)
  | 15, _ =>
    refine sS_ ?_
    refine X.fin ttok () [] trivial rfl rfl rfl hS4_ _ (by first | exact .inl rfl | exact .inr rfl)
  | 16, _ =>
    refine sS_ ?_
    refine X.fin ttok () [] trivial rfl rfl rfl hS4_ _ (by first | exact .inl rfl | exact .inr rfl)
  | o + 17, ho => omega
/-- the operation that a word names -/
def nmB (p : WD) (i : Nat) : Bool := !p.2 && decide (strB p.1 = strB (nmL.getD i ⟨#[]⟩))
theorem insFrom_none {W : List WD} : ∀ (l : List Sh), (∀ s ∈ l, ¬ ((W.headD wdD).2 = false ∧ strB (W.headD wdD).1 = strB s.w)) → insFrom l W = none
  | [], _ => rfl
  | s :: r, h => by
    rw [ins_skip fun hh => h s (by simp) ⟨hh.1, hh.2.1⟩]
    exact insFrom_none r fun x hx => h x (by simp [hx])
theorem ins_pick {W : List WD} {s : Sh} : ∀ (a b : List Sh), (∀ x ∈ a, strB s.w ≠ strB x.w) → (∀ x ∈ b, strB s.w ≠ strB x.w) → (W.headD wdD).2 = false → strB (W.headD wdD).1 = strB s.w → insFrom (a ++ s :: b) W = if W.length = 1 + s.f.length then rdP s.f (insZ s.op) (W.drop 1) else none
  | [], b, _, hb, h2, hw => by
    have hnb : insFrom b W = none := insFrom_none b fun x hx hh => hb x hx (hw.symm.trans hh.2)
    show insFrom (s :: b) W = _
    by_cases hl : W.length = 1 + s.f.length
    · rw [if_pos hl]
      cases hr : rdP s.f (insZ s.op) (W.drop 1) with
      | none => rw [ins_none ⟨h2, hw, hl⟩ hr, hnb]
      | some x => rw [ins_some ⟨h2, hw, hl⟩ hr]
    · rw [if_neg hl, ins_skip fun hh => hl hh.2.2, hnb]
  | x :: a, b, ha, hb, h2, hw => by
    show insFrom (x :: (a ++ s :: b)) W = _
    rw [ins_skip fun hh => ha x (by simp) (hw.symm.trans hh.2.1)]
    exact ins_pick a b (fun y hy => ha y (by simp [hy])) hb h2 hw
theorem insP_no {W : List WD} (h : ∀ i, 1 ≤ i → i < 17 → nmB (W.headD wdD) i = false) : insP W = none := by
  refine insFrom_none shL fun s hs hh => ?_
  have key : ∀ s ∈ shL, ∃ i, 1 ≤ i ∧ i < 17 ∧ strB (nmL.getD i ⟨#[]⟩) = strB s.w := by
    intro s hs
    simp only [shL, List.mem_cons, List.not_mem_nil, or_false] at hs
    repeat' (first | (rcases hs with rfl | hs) | subst hs)
    · exact ⟨1, by decide, by decide, rfl⟩
    · exact ⟨2, by decide, by decide, rfl⟩
    · exact ⟨3, by decide, by decide, rfl⟩
    · exact ⟨14, by decide, by decide, rfl⟩
    · exact ⟨4, by decide, by decide, rfl⟩
    · exact ⟨5, by decide, by decide, rfl⟩
    · exact ⟨15, by decide, by decide, rfl⟩
    · exact ⟨6, by decide, by decide, rfl⟩
    · exact ⟨7, by decide, by decide, rfl⟩
    · exact ⟨8, by decide, by decide, rfl⟩
    · exact ⟨9, by decide, by decide, rfl⟩
    · exact ⟨10, by decide, by decide, rfl⟩
    · exact ⟨11, by decide, by decide, rfl⟩
    · exact ⟨12, by decide, by decide, rfl⟩
    · exact ⟨13, by decide, by decide, rfl⟩
    · exact ⟨16, by decide, by decide, rfl⟩
  obtain ⟨i, h1, h2, h3⟩ := key s hs
  have := h i h1 h2
  unfold nmB at this
  rw [hh.1, hh.2, h3, decide_eq_true rfl] at this
  cases this
theorem insP_at {W : List WD} {o : Nat} (h1 : 1 ≤ o) (h2 : o < 17) (h : nmB (W.headD wdD) o = true) : insP W = if W.length = 1 + (fks o).length then rdP (fks o) (insZ o) (W.drop 1) else none := by
  unfold nmB at h
  simp only [Bool.and_eq_true, decide_eq_true_eq, Bool.not_eq_true'] at h
  obtain ⟨hq, hw⟩ := h
  unfold insP
  match o, h1, h2 with
  | 1, _, _ => exact ins_pick (s := ⟨⟨#[115, 101, 116]⟩, 1, [.a, .v]⟩) (shL.take 0) (shL.drop 1) (by decide) (by decide) hq hw
  | 2, _, _ => exact ins_pick (s := ⟨⟨#[97, 114, 103]⟩, 2, [.a, .n]⟩) (shL.take 1) (shL.drop 2) (by decide) (by decide) hq hw
  | 3, _, _ => exact ins_pick (s := ⟨⟨#[103, 101, 116]⟩, 3, [.a, .b]⟩) (shL.take 2) (shL.drop 3) (by decide) (by decide) hq hw
  | 4, _, _ => exact ins_pick (s := ⟨⟨#[112, 117, 116]⟩, 4, [.a, .b]⟩) (shL.take 4) (shL.drop 5) (by decide) (by decide) hq hw
  | 5, _, _ => exact ins_pick (s := ⟨⟨#[100, 101, 108]⟩, 5, [.a]⟩) (shL.take 5) (shL.drop 6) (by decide) (by decide) hq hw
  | 6, _, _ => exact ins_pick (s := ⟨⟨#[97, 100, 100]⟩, 6, [.a, .b, .c]⟩) (shL.take 7) (shL.drop 8) (by decide) (by decide) hq hw
  | 7, _, _ => exact ins_pick (s := ⟨⟨#[115, 117, 98]⟩, 7, [.a, .b, .c]⟩) (shL.take 8) (shL.drop 9) (by decide) (by decide) hq hw
  | 8, _, _ => exact ins_pick (s := ⟨⟨#[109, 117, 108]⟩, 8, [.a, .b, .c]⟩) (shL.take 9) (shL.drop 10) (by decide) (by decide) hq hw
  | 9, _, _ => exact ins_pick (s := ⟨⟨#[106, 111, 105, 110]⟩, 9, [.a, .b, .c]⟩) (shL.take 10) (shL.drop 11) (by decide) (by decide) hq hw
  | 10, _, _ => exact ins_pick (s := ⟨⟨#[110, 101, 101, 100]⟩, 10, [.b, .s, .c]⟩) (shL.take 11) (shL.drop 12) (by decide) (by decide) hq hw
  | 11, _, _ => exact ins_pick (s := ⟨⟨#[115, 107, 105, 112]⟩, 11, [.k, .b, .s, .c]⟩) (shL.take 12) (shL.drop 13) (by decide) (by decide) hq hw
  | 12, _, _ => exact ins_pick (s := ⟨⟨#[115, 117, 109]⟩, 12, [.a, .b, .c, .n]⟩) (shL.take 13) (shL.drop 14) (by decide) (by decide) hq hw
  | 13, _, _ => exact ins_pick (s := ⟨⟨#[99, 111, 117, 110, 116]⟩, 13, [.a, .b, .c, .n]⟩) (shL.take 14) (shL.drop 15) (by decide) (by decide) hq hw
  | 14, _, _ => exact ins_pick (s := ⟨⟨#[110, 101, 120, 116]⟩, 14, [.a, .b]⟩) (shL.take 3) (shL.drop 4) (by decide) (by decide) hq hw
  | 15, _, _ => exact ins_pick (s := ⟨⟨#[116, 101, 108, 108]⟩, 15, [.a]⟩) (shL.take 6) (shL.drop 7) (by decide) (by decide) hq hw
  | 16, _, _ => exact ins_pick (s := ⟨⟨#[115, 116, 111, 112]⟩, 16, []⟩) (shL.take 15) (shL.drop 16) (by decide) (by decide) hq hw
  | o + 17, _, h2 => omega
theorem sign_pos {t : ByteArray} {q : Bool} {i : Nat} (h : signP t q = some i) : 0 < i := by
  unfold signP at h
  have := (List.find?_range_eq_some.1 h).1
  unfold sgB at this
  simp only [Bool.and_eq_true, decide_eq_true_eq] at this
  exact this.1.1
theorem instrR_spec (W : List WD) (c : Nat) (hW0 : W ≠ []) (hW : W.length ≤ 1000000) (hsz : ∀ p ∈ W, p.1.size ≤ 1000000) : Spec Tryz.prog 28 [.sl 0 2 0 W.length c] [roWR W] 1 (σ := Ins × Bool) (insG W) (fun r => .tup [.agg (insA r.1), .raw (.bool r.2)]) (fun _ => []) := by
  refine Spec.of Tryz.func28 rfl Tryz.ntmps28 rfl (bdl_cons (fun _ _ => rfl) (bdl_nil _)) fun ρ w => ?_
  have hWp : 0 < W.length := List.length_pos_iff.2 hW0
  obtain ⟨p0, hp0⟩ : ∃ p, W.headD wdD = p := ⟨_, rfl⟩
  have hF0 : rdF W 0 = rdX p0 := by
    unfold rdF
    rw [← hp0]
    cases W with
    | nil => rfl
    | cons a r => rfl
  have hpno := @insP_no W
  have hpat := @insP_at W
  rw [hp0] at hpno hpat
  refine sS_ ?_
  refine R.cl [] (namesR_spec) Tryz.call63 hS6_ rfl rfl rfl (fun _ => rfl) rfl (by kernel_rfl) fun _ _ => ?_
  refine sS_ ?_
  refine C.loop (σ := Nat × Nat) (L2 := 3) (fun s => 1 ≤ s.1 ∧ s.1 ≤ 17 ∧ s.2 < 17 ∧ ((s.2 = 0 ∧ ∀ j, 1 ≤ j → j < s.1 → nmB p0 j = false) ∨ (1 ≤ s.2 ∧ s.2 < s.1 ∧ nmB p0 s.2 = true))) (fun s => [(0, .sl 0 2 0 W.length c), (2, .ptr 1 0 0 0), (4, .raw (.int .i64 (s.2 : Nat))), (5, .sl 2 1 0 17 17), (6, .raw (.int .i64 (s.1 : Nat)))]) (fun _ => [(0, roWR W), (1, insO insD), (2, roNm)]) _ (fun s => 17 - s.1) [] (1, 0) ⟨Nat.le_refl _, by decide, by decide, .inl ⟨rfl, fun j h1 h2 => by dsimp only at h2; omega⟩⟩ rfl hS7_ (.same rfl rfl rfl (fun _ _ => rfl) (.same rfl rfl rfl rfl (.other rfl (fun e => by cases e) (fun ρ x w hh => cells_nm hh) rfl (fun _ _ => rfl) .nil))) rfl (fun _ h => h) ?_
  rintro ⟨i, o⟩ ⟨hi1, hi, ho17, hor⟩
  dsimp only at hi1 hi ho17 hor ⊢
  refine sS_ ?_
  by_cases hlt : i < 17
  · rw [decide_eq_true (show ((i : Nat) : Int) < ((17 : Nat) : Int) by omega)]
    have hB : nmB p0 i = (!p0.2 && decide (strB p0.1 = strB (nmL.getD i ⟨#[]⟩))) := rfl
    obtain ⟨t0, q0⟩ := p0
    refine sS_ ?_
    refine C.draw [[], [0], [0, 1], [0, 1, 2], [0, 1, 2, 3], [0, 1, 2, 3, 4], [0, 1, 2, 3, 4, 5], [0, 1, 2, 3, 4, 5, 6], [0, 1, 2, 3, 4, 5, 6, 7], [0, 1, 2, 3, 4, 5, 6, 7, 8], [0, 1, 2, 3, 4, 5], [0, 1, 2, 3, 4, 5], [0, 1, 2, 3, 4, 5, 10, 11], [0, 1, 2, 3, 4, 5, 10, 11, 12], [0, 1, 2, 3, 4, 5, 6, 7, 8, 9, 10, 11, 12, 13], [0, 1, 2, 3, 4, 5, 6, 7, 8, 9, 10, 11, 12, 13, 14]] [] (by kernel_rfl) (by kernel_rfl) ?_
    refine sS_ ?_
    refine R.ix ttok 0 rfl rfl rfl rfl rfl (by kernel_rfl) rfl hWp ⟨Nat.le_refl 0, by omega⟩ rfl ?_
    refine sS_ ?_
    refine R.ldo (v := .raw (.bool q0)) ttok rfl rfl rfl (by rw [hF0]; rfl) rfl (by kernel_rfl) hWp ?_
    dsimp only at hB
    cases q0 with
    | true =>
      have hno : nmB (t0, true) i = false := hB
      refine sS_ ?_
      exact X.back [] (i + 1, o) ⟨Nat.le_succ_of_le hi1, hlt, ho17, (by
        rcases hor with ⟨h1, h2⟩ | ⟨h1, h2, h3⟩
        · exact .inl ⟨h1, fun j g1 g2 => (by
            dsimp only at g2
            rcases Nat.lt_or_ge j i with g | g
            · exact h2 j g1 g
            · obtain rfl : j = i := by omega
              exact hno)⟩
        · exact .inr ⟨h1, Nat.lt_succ_of_lt h2, h3⟩)⟩ (by dsimp only; omega) rfl hS7_ hS5_ rfl (fun _ h => h)
    | false =>
      refine sS_ ?_
      refine R.ix ttok 0 rfl rfl rfl rfl rfl (by kernel_rfl) rfl hWp ⟨Nat.le_refl 0, by omega⟩ rfl ?_
      refine sS_ ?_
      refine R.ldo (v := .raw (.string t0)) ttok rfl rfl rfl (by rw [hF0]; rfl) rfl (by kernel_rfl) hWp ?_
      refine sS_ ?_
      refine R.ix ttok i rfl rfl rfl rfl rfl (by kernel_rfl) rfl hlt ⟨Nat.zero_le _, by omega⟩ rfl ?_
      refine R.ldo (v := .raw (.string (nmL.getD i ⟨#[]⟩))) ttok rfl rfl rfl rfl rfl (by kernel_rfl) hlt ?_
      obtain ⟨sg, hsg⟩ : ∃ sg, nmL.getD i ⟨#[]⟩ = sg := ⟨_, rfl⟩
      rw [hsg] at hB ⊢
      refine sS_ ?_
      rw [eqS]
      by_cases he : strB t0 = strB sg
      · rw [decide_eq_true he]
        have hyes : nmB (t0, false) i = true := by rw [hB, decide_eq_true he]; rfl
        refine sS_ ?_
        exact X.back [] (i + 1, i) ⟨Nat.le_succ_of_le hi1, hlt, hlt, .inr ⟨hi1, Nat.lt_succ_self _, hyes⟩⟩ (by dsimp only; omega) rfl hS7_ hS5_ rfl (fun _ h => h)
      · rw [decide_eq_false he]
        have hno : nmB (t0, false) i = false := by rw [hB, decide_eq_false he]; rfl
        refine sS_ ?_
        exact X.back [] (i + 1, o) ⟨Nat.le_succ_of_le hi1, hlt, ho17, (by
          rcases hor with ⟨h1, h2⟩ | ⟨h1, h2, h3⟩
          · exact .inl ⟨h1, fun j g1 g2 => (by
              dsimp only at g2
              rcases Nat.lt_or_ge j i with g | g
              · exact h2 j g1 g
              · obtain rfl : j = i := by omega
                exact hno)⟩
          · exact .inr ⟨h1, Nat.lt_succ_of_lt h2, h3⟩)⟩ (by dsimp only; omega) rfl hS7_ hS5_ rfl (fun _ h => h)
  · rw [decide_eq_false (show ¬ ((i : Nat) : Int) < ((17 : Nat) : Int) by omega)]
    obtain rfl : i = 17 := by omega
    refine sS_ ?_
    rcases hor with ⟨rfl, hall⟩ | ⟨ho1, _, hyes⟩
    · have hnone := hpno hall
      rw [show decide (((0 : Nat) : Int) = 0) = true from rfl]
      refine sS_ ?_
      refine X.fin ttok (insD, false) [] (by unfold insG; rw [hnone]) rfl rfl rfl hS4_ _ (by first | exact .inl rfl | exact .inr rfl)
    · have hins := hpat ho1 ho17 hyes
      rw [decide_eq_false (show ¬ ((o : Nat) : Int) = 0 by omega)]
      have hf4 := fks_len o
      refine sS_ ?_
      refine R.cl [] (shapeR_spec o (by omega)) Tryz.call64 hS6_ rfl rfl rfl (fun _ => rfl) rfl (by kernel_rfl) fun _ _ => ?_
      rw [show (strOf ((fks o).map FK.lt)) = strOf ((fks o).map FK.lt) from rfl]
      have hsl : (strOf ((fks o).map FK.lt)).size = (fks o).length := by rw [← strB_size]; show ((fks o).map FK.lt).length = _; rw [List.length_map]
      refine sS_ ?_
      rw [hsl]
      by_cases hl : W.length = 1 + (fks o).length
      · rw [decide_eq_false (show ¬ ((W.length : Nat) : Int) ≠ 1 + ((fks o).length : Nat) by omega)]
        rw [if_pos hl] at hins
        refine sS_ ?_
        refine C.loop (σ := Nat × Ins) (L2 := 4) (fun s => s.1 ≤ (fks o).length ∧ insP W = rdP ((fks o).drop s.1) s.2 (W.drop (1 + s.1))) (fun s => [(0, .sl 0 2 0 W.length c), (2, .ptr 1 0 0 0), (4, .raw (.int .i64 (o : Nat))), (7, .ptr 3 0 0 0), (8, .raw (.int .i64 (s.1 + 1 : Nat)))]) (fun s => [(0, roWR W), (1, insO insD), (3, insO s.2)]) _ (fun s => (fks o).length - s.1) [] (0, insZ o) ⟨Nat.zero_le _, hins⟩ rfl hS7_ hS5_ rfl (fun _ h => h) ?_
        rintro ⟨j, x⟩ ⟨hj, hrd⟩
        dsimp only at hj hrd ⊢
        refine sS_ ?_
        by_cases hjl : j < (fks o).length
        · rw [decide_eq_true (show ((j + 1 : Nat) : Int) < (W.length : Nat) by omega)]
          obtain ⟨k, hk⟩ : ∃ k, (fks o)[j]? = some k := ⟨_, List.getElem?_eq_getElem hjl⟩
          rw [rd_go hk (by omega)] at hrd
          obtain ⟨p, hp⟩ : ∃ p, W.getD (1 + j) wdD = p := ⟨_, rfl⟩
          have hC : rdF W (j + 1) = rdX p := by unfold rdF; rw [← hp, Nat.add_comm]
          have hps : p.1.size ≤ 1000000 := hsz p (by
            rw [← hp, List.getD_eq_getElem?_getD, List.getElem?_eq_getElem (show 1 + j < W.length by omega)]
            exact List.getElem_mem _)
          rw [hp] at hrd
          obtain ⟨t, q⟩ := p
          dsimp only at hps
          have hlt' : ((fks o).map FK.lt).getD j 0 = k.lt := by
            rw [List.getD_eq_getElem?_getD, List.getElem?_map, hk]
            rfl
          have hgo : ∀ y, k.rd x (t, q) = (y, true) → j + 1 ≤ (fks o).length ∧ insP W = rdP ((fks o).drop (j + 1)) y (W.drop (1 + (j + 1))) := fun y h => ⟨hjl, by rw [h] at hrd; exact hrd⟩
          have hno : (k.rd x (t, q)).2 = false → insP W = none := fun h => by rw [h] at hrd; exact hrd
          clear hrd
          refine sS_ ?_
          refine R.cl [] (shapeR_spec o (by omega)) Tryz.call64 hS6_ rfl rfl rfl (fun _ => rfl) rfl (by kernel_rfl) fun _ _ => ?_
          refine sS_ ?_
          rw [show (((j + 1 : Nat) : Nat) : Int) - 1 = (j : Nat) by omega]
          refine R.sx ttok j rfl rfl rfl rfl (by kernel_rfl) rfl (by show j < ((fks o).map FK.lt).length; rw [List.length_map]; exact hjl) ?_
          rw [show (strOf ((fks o).map FK.lt)).data.toList.getD j 0 = k.lt from hlt']
          cases k with
          | a =>
            refine sS_ ?_
            refine R.ix ttok (j + 1) rfl rfl rfl rfl rfl (by kernel_rfl) rfl (by omega) ⟨by omega, by omega⟩ rfl ?_
            refine R.ldo (v := wdRA t q) ttok rfl rfl rfl (by rw [hC]; rfl) rfl (by kernel_rfl) (by omega) ?_
            refine sS_ ?_
            refine R.cl [] (registerR_spec t q hps) Tryz.call65 hS6_ rfl rfl rfl (fun _ => rfl) rfl (by kernel_rfl) fun _ _ => ?_
            refine sS_ ?_
            cases hb : regB t q with
            | false =>
              have hnone := hno hb
              refine sS_ ?_
              refine X.fin ttok (insD, false) [] (by unfold insG; rw [hnone]) rfl rfl rfl hS4_ _ (by first | exact .inl rfl | exact .inr rfl)
            | true =>
              refine sS_ ?_
              exact X.back [] (j + 1, _) (hgo _ (Prod.ext rfl hb)) (by dsimp only; omega) rfl hS7_ hS5_ rfl (fun _ h => h)
          | b =>
            refine sS_ ?_
            refine R.ix ttok (j + 1) rfl rfl rfl rfl rfl (by kernel_rfl) rfl (by omega) ⟨by omega, by omega⟩ rfl ?_
            refine R.ldo (v := wdRA t q) ttok rfl rfl rfl (by rw [hC]; rfl) rfl (by kernel_rfl) (by omega) ?_
            refine sS_ ?_
            refine R.cl [] (registerR_spec t q hps) Tryz.call65 hS6_ rfl rfl rfl (fun _ => rfl) rfl (by kernel_rfl) fun _ _ => ?_
            refine sS_ ?_
            cases hb : regB t q with
            | false =>
              have hnone := hno hb
              refine sS_ ?_
              refine X.fin ttok (insD, false) [] (by unfold insG; rw [hnone]) rfl rfl rfl hS4_ _ (by first | exact .inl rfl | exact .inr rfl)
            | true =>
              refine sS_ ?_
              exact X.back [] (j + 1, _) (hgo _ (Prod.ext rfl hb)) (by dsimp only; omega) rfl hS7_ hS5_ rfl (fun _ h => h)
          | c =>
            refine sS_ ?_
            refine R.ix ttok (j + 1) rfl rfl rfl rfl rfl (by kernel_rfl) rfl (by omega) ⟨by omega, by omega⟩ rfl ?_
            refine R.ldo (v := wdRA t q) ttok rfl rfl rfl (by rw [hC]; rfl) rfl (by kernel_rfl) (by omega) ?_
            refine sS_ ?_
            refine R.cl [] (registerR_spec t q hps) Tryz.call65 hS6_ rfl rfl rfl (fun _ => rfl) rfl (by kernel_rfl) fun _ _ => ?_
            refine sS_ ?_
            cases hb : regB t q with
            | false =>
              have hnone := hno hb
              refine sS_ ?_
              refine X.fin ttok (insD, false) [] (by unfold insG; rw [hnone]) rfl rfl rfl hS4_ _ (by first | exact .inl rfl | exact .inr rfl)
            | true =>
              refine sS_ ?_
              exact X.back [] (j + 1, _) (hgo _ (Prod.ext rfl hb)) (by dsimp only; omega) rfl hS7_ hS5_ rfl (fun _ h => h)
          | n =>
            refine sS_ ?_
            refine R.ix ttok (j + 1) rfl rfl rfl rfl rfl (by kernel_rfl) rfl (by omega) ⟨by omega, by omega⟩ rfl ?_
            refine R.ldo (v := wdRA t q) ttok rfl rfl rfl (by rw [hC]; rfl) rfl (by kernel_rfl) (by omega) ?_
            refine sS_ ?_
            refine R.cl [] (numberR_spec t q (by omega)) Tryz.call27 hS6_ rfl rfl rfl (fun _ => rfl) rfl (by kernel_rfl) fun _ _ => ?_
            refine sS_ ?_
            cases hb : numB t q with
            | false =>
              have hnone := hno hb
              refine sS_ ?_
              refine X.fin ttok (insD, false) [] (by unfold insG; rw [hnone]) rfl rfl rfl hS4_ _ (by first | exact .inl rfl | exact .inr rfl)
            | true =>
              refine sS_ ?_
              exact X.back [] (j + 1, _) (hgo _ (Prod.ext rfl hb)) (by dsimp only; omega) rfl hS7_ hS5_ rfl (fun _ h => h)
          | k =>
            refine sS_ ?_
            refine R.ix ttok (j + 1) rfl rfl rfl rfl rfl (by kernel_rfl) rfl (by omega) ⟨by omega, by omega⟩ rfl ?_
            refine R.ldo (v := wdRA t q) ttok rfl rfl rfl (by rw [hC]; rfl) rfl (by kernel_rfl) (by omega) ?_
            refine sS_ ?_
            refine R.cl [] (numberR_spec t q (by omega)) Tryz.call27 hS6_ rfl rfl rfl (fun _ => rfl) rfl (by kernel_rfl) fun _ _ => ?_
            refine sS_ ?_
            cases hb : numB t q with
            | false =>
              have hnone := hno hb
              refine sS_ ?_
              refine X.fin ttok (insD, false) [] (by unfold insG; rw [hnone]) rfl rfl rfl hS4_ _ (by first | exact .inl rfl | exact .inr rfl)
            | true =>
              refine sS_ ?_
              exact X.back [] (j + 1, _) (hgo _ (Prod.ext rfl hb)) (by dsimp only; omega) rfl hS7_ hS5_ rfl (fun _ h => h)
          | s =>
            refine sS_ ?_
            refine R.ix ttok (j + 1) rfl rfl rfl rfl rfl (by kernel_rfl) rfl (by omega) ⟨by omega, by omega⟩ rfl ?_
            refine R.ldo (v := wdRA t q) ttok rfl rfl rfl (by rw [hC]; rfl) rfl (by kernel_rfl) (by omega) ?_
            refine sS_ ?_
            refine R.cl [] (signR_spec t q) Tryz.call66 hS6_ rfl rfl rfl (fun _ => rfl) rfl (by kernel_rfl) fun _ _ => ?_
            refine sS_ ?_
            cases hsp : signP t q with
            | none =>
              rw [show sgN t q = 0 by unfold sgN; rw [hsp]; rfl]
              have hnone := hno (by show (signP t q).isSome = false; rw [hsp]; rfl)
              rw [show decide ((((0 : Nat) : Nat) : Int) > 0) = false from rfl]
              refine sS_ ?_
              refine X.fin ttok (insD, false) [] (by unfold insG; rw [hnone]) rfl rfl rfl hS4_ _ (by first | exact .inl rfl | exact .inr rfl)
            | some i =>
              have hip := sign_pos hsp
              rw [show sgN t q = i by unfold sgN; rw [hsp]; rfl]
              rw [decide_eq_true (show ((i : Nat) : Int) > 0 by omega)]
              refine sS_ ?_
              exact X.back [] (j + 1, { x with n := (i : Nat) }) (hgo _ (by unfold FK.rd; rw [hsp]; rfl)) (by dsimp only; omega) rfl hS7_ hS5_ rfl (fun _ h => h)
          | v =>
            refine sS_ ?_
            refine R.ix ttok (j + 1) rfl rfl rfl rfl rfl (by kernel_rfl) rfl (by omega) ⟨by omega, by omega⟩ rfl ?_
            refine R.ldo (v := wdRA t q) ttok rfl rfl rfl (by rw [hC]; rfl) rfl (by kernel_rfl) (by omega) ?_
            refine sS_ ?_
            refine R.cl [] (valueR_spec t q hps) Tryz.call67 hS6_ rfl rfl rfl (fun _ => rfl) rfl (by kernel_rfl) fun _ _ => ?_
            cases hb : (valP t q).ok with
            | false =>
              have hv : vR t q = ⟨0, 0, noT0, false⟩ := by unfold vR; rw [if_neg (by rw [hb]; decide)]
              have hnone := hno hb
              rw [hv]
              refine sS_ ?_
              refine X.fin ttok (insD, false) [] (by unfold insG; rw [hnone]) rfl rfl rfl hS4_ _ (by first | exact .inl rfl | exact .inr rfl)
            | true =>
              have hv : vR t q = valP t q := by unfold vR; rw [if_pos hb]
              rw [hv, hb]
              refine sS_ ?_
              exact X.back [] (j + 1, _) (hgo _ (Prod.ext rfl hb)) (by dsimp only; omega) rfl hS7_ hS5_ rfl (fun _ h => h)
        · rw [decide_eq_false (show ¬ ((j + 1 : Nat) : Int) < (W.length : Nat) by omega)]
          obtain rfl : j = (fks o).length := by omega
          rw [List.drop_length] at hrd
          have hsome : insP W = some x := hrd
          refine sS_ ?_
          refine X.fin ttok (x, true) [] (by unfold insG; rw [hsome]) rfl rfl rfl hS4_ _ (by first | exact .inl rfl | exact .inr rfl)
      · rw [decide_eq_true (show ((W.length : Nat) : Int) ≠ 1 + ((fks o).length : Nat) by omega)]
        rw [if_neg hl] at hins
        refine sS_ ?_
        refine X.fin ttok (insD, false) [] (by unfold insG; rw [hins]) rfl rfl rfl hS4_ _ (by first | exact .inl rfl | exact .inr rfl)
end Go.Proofs.YtaieficgifingaaGreatDoor
namespace Go.Proofs.YtaieficgifingaaGreatDoor
set_option linter.unusedVariables false
set_option linter.unusedSimpArgs false
open Go.RowKit
set_option maxRecDepth 100000
set_option maxHeartbeats 8000000
theorem neE2 (s : ByteArray) : decide (s.toList ≠ (⟨#[]⟩ : ByteArray).toList) = decide (strB s ≠ []) := by
  rw [ByteArray.toList_eq, ByteArray.toList_eq]
  rfl
theorem datumR_spec (k i : Int) (t : ByteArray) : Spec Tryz.prog 112 [.agg [.raw (.int .i64 k), .raw (.int .i64 i), .raw (.string t)]] [] 0 (σ := Unit) (fun _ => True) (fun _ => .raw (.int .i64 (vchk k i t))) (fun _ => []) := by
  refine Spec.of Tryz.func112 rfl Tryz.ntmps112 rfl (bdl_nil _) fun ρ w => ?_
  refine sS_ ?_
  by_cases h0 : k < 0
  · rw [decide_eq_true h0]
    rw [show vchk k i t = 14 from if_pos (.inl h0)]
    refine sS_ ?_
    refine X.fin ttok () [] trivial rfl rfl rfl hS4_ _ (by first | exact .inl rfl | exact .inr rfl)
  · rw [decide_eq_false h0]
    refine sS_ ?_
    by_cases h22 : 2 < k
    · rw [decide_eq_true (show k > 2 from h22)]
      rw [show vchk k i t = 14 from if_pos (.inr (.inl h22))]
      refine sS_ ?_
      refine X.fin ttok () [] trivial rfl rfl rfl hS4_ _ (by first | exact .inl rfl | exact .inr rfl)
    · rw [decide_eq_false (show ¬ k > 2 from h22)]
      refine sS_ ?_
      by_cases h1 : k = 1
      · rw [decide_eq_false (show ¬ k ≠ 1 from fun h => h h1)]
        have hi : ¬ (k ≠ 1 ∧ i ≠ 0) := fun h => h.1 h1
        refine sS_ ?_
        by_cases h2 : k = 2
        · rw [decide_eq_false (show ¬ k ≠ 2 from fun h => h h2)]
          refine sS_ ?_
          have hno : ¬ (k < 0 ∨ 2 < k ∨ (k ≠ 1 ∧ i ≠ 0) ∨ (k ≠ 2 ∧ strB t ≠ [])) := by
            rintro (h | h | g | ⟨g1, g2⟩)
            · omega
            · omega
            · exact hi g
            · exact g1 h2
          have hv : vchk k i t = if 256 < t.size then 4 else 0 := if_neg hno
          rw [hv]
          refine sS_ ?_
          by_cases h3 : 256 < t.size
          · rw [decide_eq_true (show (t.size : Int) > 256 by omega), if_pos h3]
            refine sS_ ?_
            refine X.fin ttok () [] trivial rfl rfl rfl hS4_ _ (by first | exact .inl rfl | exact .inr rfl)
          · rw [decide_eq_false (show ¬ (t.size : Int) > 256 by omega), if_neg h3]
            refine sS_ ?_
            refine X.fin ttok () [] trivial rfl rfl rfl hS4_ _ (by first | exact .inl rfl | exact .inr rfl)
        · rw [decide_eq_true (show k ≠ 2 from h2)]
          refine sS_ ?_
          rw [neE2]
          by_cases ht : strB t = []
          · rw [decide_eq_false (show ¬ strB t ≠ [] from fun h => h ht)]
            refine sS_ ?_
            have hno : ¬ (k < 0 ∨ 2 < k ∨ (k ≠ 1 ∧ i ≠ 0) ∨ (k ≠ 2 ∧ strB t ≠ [])) := by
              rintro (h | h | g | ⟨g1, g2⟩)
              · omega
              · omega
              · exact hi g
              · exact g2 ht
            have hv : vchk k i t = if 256 < t.size then 4 else 0 := if_neg hno
            rw [hv]
            refine sS_ ?_
            by_cases h3 : 256 < t.size
            · rw [decide_eq_true (show (t.size : Int) > 256 by omega), if_pos h3]
              refine sS_ ?_
              refine X.fin ttok () [] trivial rfl rfl rfl hS4_ _ (by first | exact .inl rfl | exact .inr rfl)
            · rw [decide_eq_false (show ¬ (t.size : Int) > 256 by omega), if_neg h3]
              refine sS_ ?_
              refine X.fin ttok () [] trivial rfl rfl rfl hS4_ _ (by first | exact .inl rfl | exact .inr rfl)
          · rw [decide_eq_true (show strB t ≠ [] from ht)]
            rw [show vchk k i t = 14 from if_pos (.inr (.inr (.inr ⟨h2, ht⟩)))]
            refine sS_ ?_
            refine X.fin ttok () [] trivial rfl rfl rfl hS4_ _ (by first | exact .inl rfl | exact .inr rfl)
      · rw [decide_eq_true (show k ≠ 1 from h1)]
        refine sS_ ?_
        by_cases hi0 : i = 0
        · rw [decide_eq_false (show ¬ i ≠ 0 from fun h => h hi0)]
          have hi : ¬ (k ≠ 1 ∧ i ≠ 0) := fun h => h.2 hi0
          refine sS_ ?_
          by_cases h2 : k = 2
          · rw [decide_eq_false (show ¬ k ≠ 2 from fun h => h h2)]
            refine sS_ ?_
            have hno : ¬ (k < 0 ∨ 2 < k ∨ (k ≠ 1 ∧ i ≠ 0) ∨ (k ≠ 2 ∧ strB t ≠ [])) := by
              rintro (h | h | g | ⟨g1, g2⟩)
              · omega
              · omega
              · exact hi g
              · exact g1 h2
            have hv : vchk k i t = if 256 < t.size then 4 else 0 := if_neg hno
            rw [hv]
            refine sS_ ?_
            by_cases h3 : 256 < t.size
            · rw [decide_eq_true (show (t.size : Int) > 256 by omega), if_pos h3]
              refine sS_ ?_
              refine X.fin ttok () [] trivial rfl rfl rfl hS4_ _ (by first | exact .inl rfl | exact .inr rfl)
            · rw [decide_eq_false (show ¬ (t.size : Int) > 256 by omega), if_neg h3]
              refine sS_ ?_
              refine X.fin ttok () [] trivial rfl rfl rfl hS4_ _ (by first | exact .inl rfl | exact .inr rfl)
          · rw [decide_eq_true (show k ≠ 2 from h2)]
            refine sS_ ?_
            rw [neE2]
            by_cases ht : strB t = []
            · rw [decide_eq_false (show ¬ strB t ≠ [] from fun h => h ht)]
              refine sS_ ?_
              have hno : ¬ (k < 0 ∨ 2 < k ∨ (k ≠ 1 ∧ i ≠ 0) ∨ (k ≠ 2 ∧ strB t ≠ [])) := by
                rintro (h | h | g | ⟨g1, g2⟩)
                · omega
                · omega
                · exact hi g
                · exact g2 ht
              have hv : vchk k i t = if 256 < t.size then 4 else 0 := if_neg hno
              rw [hv]
              refine sS_ ?_
              by_cases h3 : 256 < t.size
              · rw [decide_eq_true (show (t.size : Int) > 256 by omega), if_pos h3]
                refine sS_ ?_
                refine X.fin ttok () [] trivial rfl rfl rfl hS4_ _ (by first | exact .inl rfl | exact .inr rfl)
              · rw [decide_eq_false (show ¬ (t.size : Int) > 256 by omega), if_neg h3]
                refine sS_ ?_
                refine X.fin ttok () [] trivial rfl rfl rfl hS4_ _ (by first | exact .inl rfl | exact .inr rfl)
            · rw [decide_eq_true (show strB t ≠ [] from ht)]
              rw [show vchk k i t = 14 from if_pos (.inr (.inr (.inr ⟨h2, ht⟩)))]
              refine sS_ ?_
              refine X.fin ttok () [] trivial rfl rfl rfl hS4_ _ (by first | exact .inl rfl | exact .inr rfl)
        · rw [decide_eq_true (show i ≠ 0 from hi0)]
          rw [show vchk k i t = 14 from if_pos (.inr (.inr (.inl ⟨h1, hi0⟩)))]
          refine sS_ ?_
          refine X.fin ttok () [] trivial rfl rfl rfl hS4_ _ (by first | exact .inl rfl | exact .inr rfl)
def fLn : Nat → List UInt8
  | 1 => [65, 86]
  | 2 => [65, 78]
  | 3 => [65, 66]
  | 4 => [65, 66]
  | 5 => [65]
  | 6 => [65, 66, 67]
  | 7 => [65, 66, 67]
  | 8 => [65, 66, 67]
  | 9 => [65, 66, 67]
  | 10 => [66, 67, 78]
  | 11 => [97, 66, 67, 78]
  | 12 => [65, 66, 67, 78]
  | 13 => [65, 66, 67, 78]
  | 14 => [65, 66]
  | 15 => [65]
  | 16 => []
  | _ => []
def fL (o : Int) : List UInt8 := if o < 1 ∨ 16 < o then [63] else fLn o.toNat
theorem fieldsR_spec (o : Int) : Spec Tryz.prog 108 [.raw (.int .i64 o)] [] 0 (σ := Unit) (fun _ => True) (fun _ => .raw (.string (strOf (fL o)))) (fun _ => []) := by
  refine Spec.of Tryz.func108 rfl Tryz.ntmps108 rfl (bdl_nil _) fun ρ w => ?_
  by_cases h : 1 ≤ o ∧ o ≤ 16
  · obtain ⟨m, rfl⟩ : ∃ m : Nat, o = (m : Nat) := ⟨o.toNat, by omega⟩
    match m, h with
    | 1, _ =>
      refine sS_ ?_
      refine X.fin ttok () [] trivial rfl rfl rfl hS4_ _ (by first | exact .inl rfl | exact .inr rfl)
    | 2, _ =>
      refine sS_ ?_
      refine X.fin ttok () [] trivial rfl rfl rfl hS4_ _ (by first | exact .inl rfl | exact .inr rfl)
    | 3, _ =>
      refine sS_ ?_
      refine X.fin ttok () [] trivial rfl rfl rfl hS4_ _ (by first | exact .inl rfl | exact .inr rfl)
    | 4, _ =>
      refine sS_ ?_
      refine X.fin ttok () [] trivial rfl rfl rfl hS4_ _ (by first | exact .inl rfl | exact .inr rfl)
    | 5, _ =>
      refine sS_ ?_
      refine X.fin ttok () [] trivial rfl rfl rfl hS4_ _ (by first | exact .inl rfl | exact .inr rfl)
    | 6, _ =>
      refine sS_ ?_
      refine X.fin ttok () [] trivial rfl rfl rfl hS4_ _ (by first | exact .inl rfl | exact .inr rfl)
    | 7, _ =>
      refine sS_ ?_
      refine X.fin ttok () [] trivial rfl rfl rfl hS4_ _ (by first | exact .inl rfl | exact .inr rfl)
    | 8, _ =>
      refine sS_ ?_
      refine X.fin ttok () [] trivial rfl rfl rfl hS4_ _ (by first | exact .inl rfl | exact .inr rfl)
    | 9, _ =>
      refine sS_ ?_
      refine X.fin ttok () [] trivial rfl rfl rfl hS4_ _ (by first | exact .inl rfl | exact .inr rfl)
    | 10, _ =>
      refine sS_ ?_
      refine X.fin ttok () [] trivial rfl rfl rfl hS4_ _ (by first | exact .inl rfl | exact .inr rfl)
    | 11, _ =>
      refine sS_ ?_
      refine X.fin ttok () [] trivial rfl rfl rfl hS4_ _ (by first | exact .inl rfl | exact .inr rfl)
    | 12, _ =>
      refine sS_ ?_
      refine X.fin ttok () [] trivial rfl rfl rfl hS4_ _ (by first | exact .inl rfl | exact .inr rfl)
    | 13, _ =>
      refine sS_ ?_
      refine X.fin ttok () [] trivial rfl rfl rfl hS4_ _ (by first | exact .inl rfl | exact .inr rfl)
    | 14, _ =>
      refine sS_ ?_
      refine X.fin ttok () [] trivial rfl rfl rfl hS4_ _ (by first | exact .inl rfl | exact .inr rfl)
    | 15, _ =>
      refine sS_ ?_
      refine X.fin ttok () [] trivial rfl rfl rfl hS4_ _ (by first | exact .inl rfl | exact .inr rfl)
    | 16, _ =>
      refine sS_ ?_
      refine X.fin ttok () [] trivial rfl rfl rfl hS4_ _ (by first | exact .inl rfl | exact .inr rfl)
    | 0, h => omega
    | m + 17, h => omega
  · rw [show fL o = [63] from if_pos (by omega)]
    refine sS_ ?_
    rw [decide_eq_false (show ¬ o = 1 by omega)]
    refine sS_ ?_
    rw [decide_eq_false (show ¬ o = 2 by omega)]
    refine sS_ ?_
    rw [decide_eq_false (show ¬ o = 3 by omega)]
    refine sS_ ?_
    rw [decide_eq_false (show ¬ o = 14 by omega)]
    refine sS_ ?_
    rw [decide_eq_false (show ¬ o = 4 by omega)]
    refine sS_ ?_
    rw [decide_eq_false (show ¬ o = 5 by omega)]
    refine sS_ ?_
    rw [decide_eq_false (show ¬ o = 15 by omega)]
    refine sS_ ?_
    rw [decide_eq_false (show ¬ o = 6 by omega)]
    refine sS_ ?_
    rw [decide_eq_false (show ¬ o = 7 by omega)]
    refine sS_ ?_
    rw [decide_eq_false (show ¬ o = 8 by omega)]
    refine sS_ ?_
    rw [decide_eq_false (show ¬ o = 9 by omega)]
    refine sS_ ?_
    rw [decide_eq_false (show ¬ o = 10 by omega)]
    refine sS_ ?_
    rw [decide_eq_false (show ¬ o = 11 by omega)]
    refine sS_ ?_
    rw [decide_eq_false (show ¬ o = 12 by omega)]
    refine sS_ ?_
    rw [decide_eq_false (show ¬ o = 13 by omega)]
    refine sS_ ?_
    rw [decide_eq_false (show ¬ o = 16 by omega)]
    refine sS_ ?_
    refine X.fin ttok () [] trivial rfl rfl rfl hS4_ _ (by first | exact .inl rfl | exact .inr rfl)
theorem hasR_spec (s : ByteArray) (f : UInt8) (hs : s.size ≤ 1000000) : Spec Tryz.prog 110 [.raw (.string s), .raw (byteV f)] [] 0 (σ := Unit) (fun _ => True) (fun _ => .raw (.bool ((strB s).contains f))) (fun _ => []) := by
  refine Spec.of Tryz.func110 rfl Tryz.ntmps110 rfl (bdl_nil _) fun ρ w => ?_
  have hlen := strB_size s
  obtain ⟨t, ht⟩ : ∃ t, strB s = t := ⟨_, rfl⟩
  rw [ht] at hlen ⊢
  refine sS_ ?_
  refine C.loop (σ := Nat) (L2 := 0) (fun i => i ≤ s.size ∧ ∀ j, j < i → t.getD j 0 ≠ f) (fun i => [(0, .raw (.string s)), (1, .raw (byteV f)), (5, .raw (.int .i64 (i : Nat)))]) (fun _ => []) _ (fun i => s.size - i) [] 0 ⟨Nat.zero_le _, fun j h => absurd h (Nat.not_lt_zero j)⟩ rfl hS7_ hS5_ rfl (fun _ h => h) ?_
  rintro i ⟨hi, hd⟩
  refine sS_ ?_
  by_cases hlt : i < s.size
  · rw [decide_eq_true (show ((i : Nat) : Int) < (s.size : Nat) by omega)]
    have hlt' : i < t.length := by omega
    refine sS_ ?_
    refine R.sx ttok i rfl rfl rfl rfl rfl rfl (by show i < (strB s).length; rw [ht]; exact hlt') ?_
    obtain ⟨b, hb⟩ : ∃ b, t.getD i 0 = b := ⟨_, rfl⟩
    rw [show s.data.toList.getD i 0 = b by rw [← hb, ← ht]; rfl]
    have hbN : b.toNat < 256 := b.toNat_lt
    have hbf : ((((b.toNat : Nat) : Int) = (f.toNat : Nat)) ↔ b = f) := ⟨fun e => UInt8.toNat_inj.1 (by omega), fun e => by rw [e]⟩
    refine sS_ ?_
    by_cases he : b = f
    · rw [decide_eq_true (hbf.2 he)]
      rw [show t.contains f = true by
        rw [List.contains_iff_mem]
        rw [← he, ← hb, List.getD_eq_getElem?_getD, List.getElem?_eq_getElem hlt']
        exact List.getElem_mem _]
      refine sS_ ?_
      refine X.fin ttok () [] trivial rfl rfl rfl hS4_ _ (by first | exact .inl rfl | exact .inr rfl)
    · rw [decide_eq_false (fun e => he (hbf.1 e))]
      refine sS_ ?_
      exact X.back [] (i + 1) ⟨hlt, fun j hj => (by
        rcases Nat.lt_or_ge j i with h | h
        · exact hd j h
        · obtain rfl : j = i := by omega
          rw [hb]; exact he)⟩ (by omega) rfl hS7_ hS5_ rfl (fun _ h => h)
  · rw [decide_eq_false (show ¬ ((i : Nat) : Int) < (s.size : Nat) by omega)]
    rw [show t.contains f = false by
      cases hc : t.contains f with
      | false => rfl
      | true =>
        rw [List.contains_iff_mem] at hc
        obtain ⟨j, hj, e⟩ := List.mem_iff_getElem.1 hc
        have := hd j (by omega)
        rw [List.getD_eq_getElem?_getD, List.getElem?_eq_getElem hj] at this
        exact absurd e this]
    refine sS_ ?_
    refine X.fin ttok () [] trivial rfl rfl rfl hS4_ _ (by first | exact .inl rfl | exact .inr rfl)
def rgK (l : List UInt8) (f : UInt8) (v : Int) : Bool := if l.contains f = true then regK v else decide (v = 0)
theorem reg6_spec (s : ByteArray) (f : UInt8) (v : Int) (hs : s.size ≤ 1000000) : Spec Tryz.prog 109 [.raw (.string s), .raw (byteV f), .raw (.int .i64 v)] [] 0 (σ := Unit) (fun _ => True) (fun _ => .raw (.bool (rgK (strB s) f v))) (fun _ => []) := by
  refine Spec.of Tryz.func109 rfl Tryz.ntmps109 rfl (bdl_nil _) fun ρ w => ?_
  unfold rgK
  refine sS_ ?_
  refine R.cl [] (hasR_spec s f hs) Tryz.call110 hS6_ rfl rfl rfl (fun _ => rfl) rfl (by kernel_rfl) fun _ _ => ?_
  cases (strB s).contains f with
  | false =>
    rw [if_neg Bool.false_ne_true]
    refine sS_ ?_
    refine X.fin ttok () [] trivial rfl rfl rfl hS4_ _ (by first | exact .inl rfl | exact .inr rfl)
  | true =>
    rw [if_pos rfl]
    unfold regK
    refine sS_ ?_
    cases h1 : decide ((0 : Int) ≤ v) with
    | false =>
      refine sS_ ?_
      refine X.fin ttok () [] trivial rfl rfl rfl hS4_ _ (by first | exact .inl rfl | exact .inr rfl)
    | true =>
      refine sS_ ?_
      refine X.fin ttok () [] trivial rfl rfl rfl hS4_ _ (by first | exact .inl rfl | exact .inr rfl)
def numK (ar : Int) (o n : Int) : Bool :=
  if o = 2 then decide (0 ≤ n) && decide (n < ar)
  else if o = 10 ∨ o = 11 then decide (1 ≤ n) && decide (n ≤ 6)
  else if o = 12 ∨ o = 13 then decide (1 ≤ n) && decide (n ≤ 64)
  else decide (n = 0)
theorem num6_spec (nm : ByteArray) (ar : Int) (o c n : Nat) (x : Ins) : Spec Tryz.prog 111 [.agg (prA nm ar (.sl 0 8 o n c)), .agg (insA x)] [anyO] 1 (σ := Unit) (fun _ => True) (fun _ => .raw (.bool (numK ar x.o x.n))) (fun _ => []) := by
  refine Spec.of Tryz.func111 rfl Tryz.ntmps111 rfl (bdl_cons (any_bd _) (bdl_nil _)) fun ρ w => ?_
  refine sS_ ?_
  by_cases h2 : x.o = 2
  · rw [show numK ar x.o x.n = (decide (0 ≤ x.n) && decide (x.n < ar)) from if_pos h2, decide_eq_true h2]
    refine sS_ ?_
    cases hr : decide (0 ≤ x.n) with
    | false =>
      refine sS_ ?_
      refine X.fin ttok () [] trivial rfl rfl rfl hS4_ _ (by first | exact .inl rfl | exact .inr rfl)
    | true =>
      refine sS_ ?_
      refine X.fin ttok () [] trivial rfl rfl rfl hS4_ _ (by first | exact .inl rfl | exact .inr rfl)
  · rw [decide_eq_false h2]
    refine sS_ ?_
    by_cases h10 : x.o = 10
    · rw [show numK ar x.o x.n = (decide (1 ≤ x.n) && decide (x.n ≤ 6)) from (if_neg h2).trans (if_pos (.inl h10)), decide_eq_true h10]
      refine sS_ ?_
      cases hr : decide (1 ≤ x.n) with
      | false =>
        refine sS_ ?_
        refine X.fin ttok () [] trivial rfl rfl rfl hS4_ _ (by first | exact .inl rfl | exact .inr rfl)
      | true =>
        refine sS_ ?_
        refine X.fin ttok () [] trivial rfl rfl rfl hS4_ _ (by first | exact .inl rfl | exact .inr rfl)
    · rw [decide_eq_false h10]
      refine sS_ ?_
      by_cases h11 : x.o = 11
      · rw [show numK ar x.o x.n = (decide (1 ≤ x.n) && decide (x.n ≤ 6)) from (if_neg h2).trans (if_pos (.inr h11)), decide_eq_true h11]
        refine sS_ ?_
        cases hr : decide (1 ≤ x.n) with
        | false =>
          refine sS_ ?_
          refine X.fin ttok () [] trivial rfl rfl rfl hS4_ _ (by first | exact .inl rfl | exact .inr rfl)
        | true =>
          refine sS_ ?_
          refine X.fin ttok () [] trivial rfl rfl rfl hS4_ _ (by first | exact .inl rfl | exact .inr rfl)
      · rw [decide_eq_false h11]
        refine sS_ ?_
        by_cases h12 : x.o = 12
        · rw [show numK ar x.o x.n = (decide (1 ≤ x.n) && decide (x.n ≤ 64)) from ((if_neg h2).trans (if_neg (by omega))).trans (if_pos (.inl h12)), decide_eq_true h12]
          refine sS_ ?_
          cases hr : decide (1 ≤ x.n) with
          | false =>
            refine sS_ ?_
            refine X.fin ttok () [] trivial rfl rfl rfl hS4_ _ (by first | exact .inl rfl | exact .inr rfl)
          | true =>
            refine sS_ ?_
            refine X.fin ttok () [] trivial rfl rfl rfl hS4_ _ (by first | exact .inl rfl | exact .inr rfl)
        · rw [decide_eq_false h12]
          refine sS_ ?_
          by_cases h13 : x.o = 13
          · rw [show numK ar x.o x.n = (decide (1 ≤ x.n) && decide (x.n ≤ 64)) from ((if_neg h2).trans (if_neg (by omega))).trans (if_pos (.inr h13)), decide_eq_true h13]
            refine sS_ ?_
            cases hr : decide (1 ≤ x.n) with
            | false =>
              refine sS_ ?_
              refine X.fin ttok () [] trivial rfl rfl rfl hS4_ _ (by first | exact .inl rfl | exact .inr rfl)
            | true =>
              refine sS_ ?_
              refine X.fin ttok () [] trivial rfl rfl rfl hS4_ _ (by first | exact .inl rfl | exact .inr rfl)
          · rw [show numK ar x.o x.n = decide (x.n = 0) from ((if_neg h2).trans (if_neg (by omega))).trans (if_neg (by omega)), decide_eq_false h13]
            refine sS_ ?_
            refine X.fin ttok () [] trivial rfl rfl rfl hS4_ _ (by first | exact .inl rfl | exact .inr rfl)
/-- why an instruction may not stand at a place, as the document has it -/
def dA (o a : Int) (n i : Nat) : Bool := if (fL o).contains 97 = true then decide (1 ≤ a) && decide (a ≤ (n : Nat) - 1 - (i : Nat)) else rgK (fL o) 65 a
def vz (x : Ins) : Bool := decide (x.k = 0) && decide (x.i = 0) && decide (strB x.t = [])
def docE (ar : Int) (n i : Nat) (x : Ins) : Int := if x.o < 1 ∨ 16 < x.o then 16 else
  if (dA x.o x.a n i && rgK (fL x.o) 66 x.b && rgK (fL x.o) 67 x.c && numK ar x.o x.n) = true then (if (fL x.o).contains 86 = true then vchk x.k x.i x.t else if vz x = true then 0 else 16) else 16
theorem eqB_1 (A B C N K I T : Bool) (V : Int) : (if (A && B && C && N) = true then V else 16) = ((if (A && true) = true then (if (true && (true && (B && (C && (N && (true && (true && true))))))) = true then V else 16) else 16) : Int) := by
  cases A <;> cases B <;> cases C <;> cases N <;> first | rfl | (cases K <;> cases I <;> cases T <;> rfl)
theorem eq_1 (a b c m k j : Int) (t : ByteArray) (ar : Int) (n i : Nat) : (if ((if (fL ((1 : Nat) : Int)).contains 97 = true then decide (1 ≤ a) && decide (a < (n : Nat) - (i : Nat)) else rgK (fL ((1 : Nat) : Int)) 65 a) && rgK (fL ((1 : Nat) : Int)) 66 b && rgK (fL ((1 : Nat) : Int)) 67 c && numK ar ((1 : Nat) : Int) m) = true then (if (fL ((1 : Nat) : Int)).contains 86 = true then vchk k j t else if vz ⟨((1 : Nat) : Int), a, b, c, m, k, j, t⟩ = true then 0 else 16) else 16) = insL ar n i (pfs (((1 : Nat) : Int)).toNat) (decide (((1 : Nat) : Int) = 1)) ⟨((1 : Nat) : Int), a, b, c, m, k, j, t⟩ :=
  eqB_1 (regK a) (decide (b = 0)) (decide (c = 0)) (decide (m = 0)) (decide (k = 0)) (decide (j = 0)) (decide (strB t = [])) (vchk k j t)
theorem eqB_2 (A B C N K I T : Bool) (V : Int) : (if (A && B && C && N) = true then (if (K && I && T) = true then 0 else 16) else 16) = ((if (A && (N && true)) = true then (if (true && (true && (B && (C && (true && (K && (I && T))))))) = true then 0 else 16) else 16) : Int) := by
  cases A <;> cases B <;> cases C <;> cases N <;> first | rfl | (cases K <;> cases I <;> cases T <;> rfl)
theorem eq_2 (a b c m k j : Int) (t : ByteArray) (ar : Int) (n i : Nat) : (if ((if (fL ((2 : Nat) : Int)).contains 97 = true then decide (1 ≤ a) && decide (a < (n : Nat) - (i : Nat)) else rgK (fL ((2 : Nat) : Int)) 65 a) && rgK (fL ((2 : Nat) : Int)) 66 b && rgK (fL ((2 : Nat) : Int)) 67 c && numK ar ((2 : Nat) : Int) m) = true then (if (fL ((2 : Nat) : Int)).contains 86 = true then vchk k j t else if vz ⟨((2 : Nat) : Int), a, b, c, m, k, j, t⟩ = true then 0 else 16) else 16) = insL ar n i (pfs (((2 : Nat) : Int)).toNat) (decide (((2 : Nat) : Int) = 1)) ⟨((2 : Nat) : Int), a, b, c, m, k, j, t⟩ :=
  eqB_2 (regK a) (decide (b = 0)) (decide (c = 0)) ((decide (0 ≤ m) && decide (m < ar))) (decide (k = 0)) (decide (j = 0)) (decide (strB t = [])) (vchk k j t)
theorem eqB_3 (A B C N K I T : Bool) (V : Int) : (if (A && B && C && N) = true then (if (K && I && T) = true then 0 else 16) else 16) = ((if (A && (B && true)) = true then (if (true && (true && (true && (C && (N && (K && (I && T))))))) = true then 0 else 16) else 16) : Int) := by
  cases A <;> cases B <;> cases C <;> cases N <;> first | rfl | (cases K <;> cases I <;> cases T <;> rfl)
theorem eq_3 (a b c m k j : Int) (t : ByteArray) (ar : Int) (n i : Nat) : (if ((if (fL ((3 : Nat) : Int)).contains 97 = true then decide (1 ≤ a) && decide (a < (n : Nat) - (i : Nat)) else rgK (fL ((3 : Nat) : Int)) 65 a) && rgK (fL ((3 : Nat) : Int)) 66 b && rgK (fL ((3 : Nat) : Int)) 67 c && numK ar ((3 : Nat) : Int) m) = true then (if (fL ((3 : Nat) : Int)).contains 86 = true then vchk k j t else if vz ⟨((3 : Nat) : Int), a, b, c, m, k, j, t⟩ = true then 0 else 16) else 16) = insL ar n i (pfs (((3 : Nat) : Int)).toNat) (decide (((3 : Nat) : Int) = 1)) ⟨((3 : Nat) : Int), a, b, c, m, k, j, t⟩ :=
  eqB_3 (regK a) (regK b) (decide (c = 0)) (decide (m = 0)) (decide (k = 0)) (decide (j = 0)) (decide (strB t = [])) (vchk k j t)
theorem eqB_4 (A B C N K I T : Bool) (V : Int) : (if (A && B && C && N) = true then (if (K && I && T) = true then 0 else 16) else 16) = ((if (A && (B && true)) = true then (if (true && (true && (true && (C && (N && (K && (I && T))))))) = true then 0 else 16) else 16) : Int) := by
  cases A <;> cases B <;> cases C <;> cases N <;> first | rfl | (cases K <;> cases I <;> cases T <;> rfl)
theorem eq_4 (a b c m k j : Int) (t : ByteArray) (ar : Int) (n i : Nat) : (if ((if (fL ((4 : Nat) : Int)).contains 97 = true then decide (1 ≤ a) && decide (a < (n : Nat) - (i : Nat)) else rgK (fL ((4 : Nat) : Int)) 65 a) && rgK (fL ((4 : Nat) : Int)) 66 b && rgK (fL ((4 : Nat) : Int)) 67 c && numK ar ((4 : Nat) : Int) m) = true then (if (fL ((4 : Nat) : Int)).contains 86 = true then vchk k j t else if vz ⟨((4 : Nat) : Int), a, b, c, m, k, j, t⟩ = true then 0 else 16) else 16) = insL ar n i (pfs (((4 : Nat) : Int)).toNat) (decide (((4 : Nat) : Int) = 1)) ⟨((4 : Nat) : Int), a, b, c, m, k, j, t⟩ :=
  eqB_4 (regK a) (regK b) (decide (c = 0)) (decide (m = 0)) (decide (k = 0)) (decide (j = 0)) (decide (strB t = [])) (vchk k j t)
theorem eqB_5 (A B C N K I T : Bool) (V : Int) : (if (A && B && C && N) = true then (if (K && I && T) = true then 0 else 16) else 16) = ((if (A && true) = true then (if (true && (true && (B && (C && (N && (K && (I && T))))))) = true then 0 else 16) else 16) : Int) := by
  cases A <;> cases B <;> cases C <;> cases N <;> first | rfl | (cases K <;> cases I <;> cases T <;> rfl)
theorem eq_5 (a b c m k j : Int) (t : ByteArray) (ar : Int) (n i : Nat) : (if ((if (fL ((5 : Nat) : Int)).contains 97 = true then decide (1 ≤ a) && decide (a < (n : Nat) - (i : Nat)) else rgK (fL ((5 : Nat) : Int)) 65 a) && rgK (fL ((5 : Nat) : Int)) 66 b && rgK (fL ((5 : Nat) : Int)) 67 c && numK ar ((5 : Nat) : Int) m) = true then (if (fL ((5 : Nat) : Int)).contains 86 = true then vchk k j t else if vz ⟨((5 : Nat) : Int), a, b, c, m, k, j, t⟩ = true then 0 else 16) else 16) = insL ar n i (pfs (((5 : Nat) : Int)).toNat) (decide (((5 : Nat) : Int) = 1)) ⟨((5 : Nat) : Int), a, b, c, m, k, j, t⟩ :=
  eqB_5 (regK a) (decide (b = 0)) (decide (c = 0)) (decide (m = 0)) (decide (k = 0)) (decide (j = 0)) (decide (strB t = [])) (vchk k j t)
theorem eqB_6 (A B C N K I T : Bool) (V : Int) : (if (A && B && C && N) = true then (if (K && I && T) = true then 0 else 16) else 16) = ((if (A && (B && (C && true))) = true then (if (true && (true && (true && (true && (N && (K && (I && T))))))) = true then 0 else 16) else 16) : Int) := by
  cases A <;> cases B <;> cases C <;> cases N <;> first | rfl | (cases K <;> cases I <;> cases T <;> rfl)
theorem eq_6 (a b c m k j : Int) (t : ByteArray) (ar : Int) (n i : Nat) : (if ((if (fL ((6 : Nat) : Int)).contains 97 = true then decide (1 ≤ a) && decide (a < (n : Nat) - (i : Nat)) else rgK (fL ((6 : Nat) : Int)) 65 a) && rgK (fL ((6 : Nat) : Int)) 66 b && rgK (fL ((6 : Nat) : Int)) 67 c && numK ar ((6 : Nat) : Int) m) = true then (if (fL ((6 : Nat) : Int)).contains 86 = true then vchk k j t else if vz ⟨((6 : Nat) : Int), a, b, c, m, k, j, t⟩ = true then 0 else 16) else 16) = insL ar n i (pfs (((6 : Nat) : Int)).toNat) (decide (((6 : Nat) : Int) = 1)) ⟨((6 : Nat) : Int), a, b, c, m, k, j, t⟩ :=
  eqB_6 (regK a) (regK b) (regK c) (decide (m = 0)) (decide (k = 0)) (decide (j = 0)) (decide (strB t = [])) (vchk k j t)
theorem eqB_7 (A B C N K I T : Bool) (V : Int) : (if (A && B && C && N) = true then (if (K && I && T) = true then 0 else 16) else 16) = ((if (A && (B && (C && true))) = true then (if (true && (true && (true && (true && (N && (K && (I && T))))))) = true then 0 else 16) else 16) : Int) := by
  cases A <;> cases B <;> cases C <;> cases N <;> first | rfl | (cases K <;> cases I <;> cases T <;> rfl)
theorem eq_7 (a b c m k j : Int) (t : ByteArray) (ar : Int) (n i : Nat) : (if ((if (fL ((7 : Nat) : Int)).contains 97 = true then decide (1 ≤ a) && decide (a < (n : Nat) - (i : Nat)) else rgK (fL ((7 : Nat) : Int)) 65 a) && rgK (fL ((7 : Nat) : Int)) 66 b && rgK (fL ((7 : Nat) : Int)) 67 c && numK ar ((7 : Nat) : Int) m) = true then (if (fL ((7 : Nat) : Int)).contains 86 = true then vchk k j t else if vz ⟨((7 : Nat) : Int), a, b, c, m, k, j, t⟩ = true then 0 else 16) else 16) = insL ar n i (pfs (((7 : Nat) : Int)).toNat) (decide (((7 : Nat) : Int) = 1)) ⟨((7 : Nat) : Int), a, b, c, m, k, j, t⟩ :=
  eqB_7 (regK a) (regK b) (regK c) (decide (m = 0)) (decide (k = 0)) (decide (j = 0)) (decide (strB t = [])) (vchk k j t)
theorem eqB_8 (A B C N K I T : Bool) (V : Int) : (if (A && B && C && N) = true then (if (K && I && T) = true then 0 else 16) else 16) = ((if (A && (B && (C && true))) = true then (if (true && (true && (true && (true && (N && (K && (I && T))))))) = true then 0 else 16) else 16) : Int) := by
  cases A <;> cases B <;> cases C <;> cases N <;> first | rfl | (cases K <;> cases I <;> cases T <;> rfl)
theorem eq_8 (a b c m k j : Int) (t : ByteArray) (ar : Int) (n i : Nat) : (if ((if (fL ((8 : Nat) : Int)).contains 97 = true then decide (1 ≤ a) && decide (a < (n : Nat) - (i : Nat)) else rgK (fL ((8 : Nat) : Int)) 65 a) && rgK (fL ((8 : Nat) : Int)) 66 b && rgK (fL ((8 : Nat) : Int)) 67 c && numK ar ((8 : Nat) : Int) m) = true then (if (fL ((8 : Nat) : Int)).contains 86 = true then vchk k j t else if vz ⟨((8 : Nat) : Int), a, b, c, m, k, j, t⟩ = true then 0 else 16) else 16) = insL ar n i (pfs (((8 : Nat) : Int)).toNat) (decide (((8 : Nat) : Int) = 1)) ⟨((8 : Nat) : Int), a, b, c, m, k, j, t⟩ :=
  eqB_8 (regK a) (regK b) (regK c) (decide (m = 0)) (decide (k = 0)) (decide (j = 0)) (decide (strB t = [])) (vchk k j t)
theorem eqB_9 (A B C N K I T : Bool) (V : Int) : (if (A && B && C && N) = true then (if (K && I && T) = true then 0 else 16) else 16) = ((if (A && (B && (C && true))) = true then (if (true && (true && (true && (true && (N && (K && (I && T))))))) = true then 0 else 16) else 16) : Int) := by
  cases A <;> cases B <;> cases C <;> cases N <;> first | rfl | (cases K <;> cases I <;> cases T <;> rfl)
theorem eq_9 (a b c m k j : Int) (t : ByteArray) (ar : Int) (n i : Nat) : (if ((if (fL ((9 : Nat) : Int)).contains 97 = true then decide (1 ≤ a) && decide (a < (n : Nat) - (i : Nat)) else rgK (fL ((9 : Nat) : Int)) 65 a) && rgK (fL ((9 : Nat) : Int)) 66 b && rgK (fL ((9 : Nat) : Int)) 67 c && numK ar ((9 : Nat) : Int) m) = true then (if (fL ((9 : Nat) : Int)).contains 86 = true then vchk k j t else if vz ⟨((9 : Nat) : Int), a, b, c, m, k, j, t⟩ = true then 0 else 16) else 16) = insL ar n i (pfs (((9 : Nat) : Int)).toNat) (decide (((9 : Nat) : Int) = 1)) ⟨((9 : Nat) : Int), a, b, c, m, k, j, t⟩ :=
  eqB_9 (regK a) (regK b) (regK c) (decide (m = 0)) (decide (k = 0)) (decide (j = 0)) (decide (strB t = [])) (vchk k j t)
theorem eqB_10 (A B C N K I T : Bool) (V : Int) : (if (A && B && C && N) = true then (if (K && I && T) = true then 0 else 16) else 16) = ((if (B && (C && (N && true))) = true then (if (true && (A && (true && (true && (true && (K && (I && T))))))) = true then 0 else 16) else 16) : Int) := by
  cases A <;> cases B <;> cases C <;> cases N <;> first | rfl | (cases K <;> cases I <;> cases T <;> rfl)
theorem eq_10 (a b c m k j : Int) (t : ByteArray) (ar : Int) (n i : Nat) : (if ((if (fL ((10 : Nat) : Int)).contains 97 = true then decide (1 ≤ a) && decide (a < (n : Nat) - (i : Nat)) else rgK (fL ((10 : Nat) : Int)) 65 a) && rgK (fL ((10 : Nat) : Int)) 66 b && rgK (fL ((10 : Nat) : Int)) 67 c && numK ar ((10 : Nat) : Int) m) = true then (if (fL ((10 : Nat) : Int)).contains 86 = true then vchk k j t else if vz ⟨((10 : Nat) : Int), a, b, c, m, k, j, t⟩ = true then 0 else 16) else 16) = insL ar n i (pfs (((10 : Nat) : Int)).toNat) (decide (((10 : Nat) : Int) = 1)) ⟨((10 : Nat) : Int), a, b, c, m, k, j, t⟩ :=
  eqB_10 (decide (a = 0)) (regK b) (regK c) ((decide (1 ≤ m) && decide (m ≤ 6))) (decide (k = 0)) (decide (j = 0)) (decide (strB t = [])) (vchk k j t)
theorem eqB_11 (A B C N K I T : Bool) (V : Int) : (if (A && B && C && N) = true then (if (K && I && T) = true then 0 else 16) else 16) = ((if (A && (B && (C && (N && true)))) = true then (if (true && (true && (true && (true && (true && (K && (I && T))))))) = true then 0 else 16) else 16) : Int) := by
  cases A <;> cases B <;> cases C <;> cases N <;> first | rfl | (cases K <;> cases I <;> cases T <;> rfl)
theorem eq_11 (a b c m k j : Int) (t : ByteArray) (ar : Int) (n i : Nat) : (if ((if (fL ((11 : Nat) : Int)).contains 97 = true then decide (1 ≤ a) && decide (a < (n : Nat) - (i : Nat)) else rgK (fL ((11 : Nat) : Int)) 65 a) && rgK (fL ((11 : Nat) : Int)) 66 b && rgK (fL ((11 : Nat) : Int)) 67 c && numK ar ((11 : Nat) : Int) m) = true then (if (fL ((11 : Nat) : Int)).contains 86 = true then vchk k j t else if vz ⟨((11 : Nat) : Int), a, b, c, m, k, j, t⟩ = true then 0 else 16) else 16) = insL ar n i (pfs (((11 : Nat) : Int)).toNat) (decide (((11 : Nat) : Int) = 1)) ⟨((11 : Nat) : Int), a, b, c, m, k, j, t⟩ :=
  eqB_11 ((decide (1 ≤ a) && decide (a < (n : Nat) - (i : Nat)))) (regK b) (regK c) ((decide (1 ≤ m) && decide (m ≤ 6))) (decide (k = 0)) (decide (j = 0)) (decide (strB t = [])) (vchk k j t)
theorem eqB_12 (A B C N K I T : Bool) (V : Int) : (if (A && B && C && N) = true then (if (K && I && T) = true then 0 else 16) else 16) = ((if (A && (B && (C && (N && true)))) = true then (if (true && (true && (true && (true && (true && (K && (I && T))))))) = true then 0 else 16) else 16) : Int) := by
  cases A <;> cases B <;> cases C <;> cases N <;> first | rfl | (cases K <;> cases I <;> cases T <;> rfl)
theorem eq_12 (a b c m k j : Int) (t : ByteArray) (ar : Int) (n i : Nat) : (if ((if (fL ((12 : Nat) : Int)).contains 97 = true then decide (1 ≤ a) && decide (a < (n : Nat) - (i : Nat)) else rgK (fL ((12 : Nat) : Int)) 65 a) && rgK (fL ((12 : Nat) : Int)) 66 b && rgK (fL ((12 : Nat) : Int)) 67 c && numK ar ((12 : Nat) : Int) m) = true then (if (fL ((12 : Nat) : Int)).contains 86 = true then vchk k j t else if vz ⟨((12 : Nat) : Int), a, b, c, m, k, j, t⟩ = true then 0 else 16) else 16) = insL ar n i (pfs (((12 : Nat) : Int)).toNat) (decide (((12 : Nat) : Int) = 1)) ⟨((12 : Nat) : Int), a, b, c, m, k, j, t⟩ :=
  eqB_12 (regK a) (regK b) (regK c) ((decide (1 ≤ m) && decide (m ≤ 64))) (decide (k = 0)) (decide (j = 0)) (decide (strB t = [])) (vchk k j t)
theorem eqB_13 (A B C N K I T : Bool) (V : Int) : (if (A && B && C && N) = true then (if (K && I && T) = true then 0 else 16) else 16) = ((if (A && (B && (C && (N && true)))) = true then (if (true && (true && (true && (true && (true && (K && (I && T))))))) = true then 0 else 16) else 16) : Int) := by
  cases A <;> cases B <;> cases C <;> cases N <;> first | rfl | (cases K <;> cases I <;> cases T <;> rfl)
theorem eq_13 (a b c m k j : Int) (t : ByteArray) (ar : Int) (n i : Nat) : (if ((if (fL ((13 : Nat) : Int)).contains 97 = true then decide (1 ≤ a) && decide (a < (n : Nat) - (i : Nat)) else rgK (fL ((13 : Nat) : Int)) 65 a) && rgK (fL ((13 : Nat) : Int)) 66 b && rgK (fL ((13 : Nat) : Int)) 67 c && numK ar ((13 : Nat) : Int) m) = true then (if (fL ((13 : Nat) : Int)).contains 86 = true then vchk k j t else if vz ⟨((13 : Nat) : Int), a, b, c, m, k, j, t⟩ = true then 0 else 16) else 16) = insL ar n i (pfs (((13 : Nat) : Int)).toNat) (decide (((13 : Nat) : Int) = 1)) ⟨((13 : Nat) : Int), a, b, c, m, k, j, t⟩ :=
  eqB_13 (regK a) (regK b) (regK c) ((decide (1 ≤ m) && decide (m ≤ 64))) (decide (k = 0)) (decide (j = 0)) (decide (strB t = [])) (vchk k j t)
theorem eqB_14 (A B C N K I T : Bool) (V : Int) : (if (A && B && C && N) = true then (if (K && I && T) = true then 0 else 16) else 16) = ((if (A && (B && true)) = true then (if (true && (true && (true && (C && (N && (K && (I && T))))))) = true then 0 else 16) else 16) : Int) := by
  cases A <;> cases B <;> cases C <;> cases N <;> first | rfl | (cases K <;> cases I <;> cases T <;> rfl)
theorem eq_14 (a b c m k j : Int) (t : ByteArray) (ar : Int) (n i : Nat) : (if ((if (fL ((14 : Nat) : Int)).contains 97 = true then decide (1 ≤ a) && decide (a < (n : Nat) - (i : Nat)) else rgK (fL ((14 : Nat) : Int)) 65 a) && rgK (fL ((14 : Nat) : Int)) 66 b && rgK (fL ((14 : Nat) : Int)) 67 c && numK ar ((14 : Nat) : Int) m) = true then (if (fL ((14 : Nat) : Int)).contains 86 = true then vchk k j t else if vz ⟨((14 : Nat) : Int), a, b, c, m, k, j, t⟩ = true then 0 else 16) else 16) = insL ar n i (pfs (((14 : Nat) : Int)).toNat) (decide (((14 : Nat) : Int) = 1)) ⟨((14 : Nat) : Int), a, b, c, m, k, j, t⟩ :=
  eqB_14 (regK a) (regK b) (decide (c = 0)) (decide (m = 0)) (decide (k = 0)) (decide (j = 0)) (decide (strB t = [])) (vchk k j t)
theorem eqB_15 (A B C N K I T : Bool) (V : Int) : (if (A && B && C && N) = true then (if (K && I && T) = true then 0 else 16) else 16) = ((if (A && true) = true then (if (true && (true && (B && (C && (N && (K && (I && T))))))) = true then 0 else 16) else 16) : Int) := by
  cases A <;> cases B <;> cases C <;> cases N <;> first | rfl | (cases K <;> cases I <;> cases T <;> rfl)
theorem eq_15 (a b c m k j : Int) (t : ByteArray) (ar : Int) (n i : Nat) : (if ((if (fL ((15 : Nat) : Int)).contains 97 = true then decide (1 ≤ a) && decide (a < (n : Nat) - (i : Nat)) else rgK (fL ((15 : Nat) : Int)) 65 a) && rgK (fL ((15 : Nat) : Int)) 66 b && rgK (fL ((15 : Nat) : Int)) 67 c && numK ar ((15 : Nat) : Int) m) = true then (if (fL ((15 : Nat) : Int)).contains 86 = true then vchk k j t else if vz ⟨((15 : Nat) : Int), a, b, c, m, k, j, t⟩ = true then 0 else 16) else 16) = insL ar n i (pfs (((15 : Nat) : Int)).toNat) (decide (((15 : Nat) : Int) = 1)) ⟨((15 : Nat) : Int), a, b, c, m, k, j, t⟩ :=
  eqB_15 (regK a) (decide (b = 0)) (decide (c = 0)) (decide (m = 0)) (decide (k = 0)) (decide (j = 0)) (decide (strB t = [])) (vchk k j t)
theorem eqB_16 (A B C N K I T : Bool) (V : Int) : (if (A && B && C && N) = true then (if (K && I && T) = true then 0 else 16) else 16) = ((if (true) = true then (if (true && (A && (B && (C && (N && (K && (I && T))))))) = true then 0 else 16) else 16) : Int) := by
  cases A <;> cases B <;> cases C <;> cases N <;> first | rfl | (cases K <;> cases I <;> cases T <;> rfl)
theorem eq_16 (a b c m k j : Int) (t : ByteArray) (ar : Int) (n i : Nat) : (if ((if (fL ((16 : Nat) : Int)).contains 97 = true then decide (1 ≤ a) && decide (a < (n : Nat) - (i : Nat)) else rgK (fL ((16 : Nat) : Int)) 65 a) && rgK (fL ((16 : Nat) : Int)) 66 b && rgK (fL ((16 : Nat) : Int)) 67 c && numK ar ((16 : Nat) : Int) m) = true then (if (fL ((16 : Nat) : Int)).contains 86 = true then vchk k j t else if vz ⟨((16 : Nat) : Int), a, b, c, m, k, j, t⟩ = true then 0 else 16) else 16) = insL ar n i (pfs (((16 : Nat) : Int)).toNat) (decide (((16 : Nat) : Int) = 1)) ⟨((16 : Nat) : Int), a, b, c, m, k, j, t⟩ :=
  eqB_16 (decide (a = 0)) (decide (b = 0)) (decide (c = 0)) (decide (m = 0)) (decide (k = 0)) (decide (j = 0)) (decide (strB t = [])) (vchk k j t)
theorem fL_ne {o : Int} (h : ¬ (o < 1 ∨ 16 < o)) : fL o ≠ [63] := by
  obtain ⟨m, rfl⟩ : ∃ m : Nat, o = (m : Nat) := ⟨o.toNat, by omega⟩
  have key : ∀ m < 17, 1 ≤ m → fL ((m : Nat) : Int) ≠ [63] := by decide
  exact key m (by omega) (by omega)
theorem fL_len (o : Int) : (fL o).length ≤ 4 := by
  unfold fL
  split
  · decide
  · unfold fLn
    split <;> simp
theorem docE_eq (ar : Int) (n i : Nat) (x : Ins) : docE ar n i x = insE ar n i x := by
  unfold docE insE
  by_cases h : x.o < 1 ∨ 16 < x.o
  · rw [if_pos h, if_pos h]
  · rw [if_neg h, if_neg h]
    obtain ⟨xo, a, b, c, m, k, j, t⟩ := x
    dsimp only at h ⊢
    obtain ⟨o, rfl⟩ : ∃ o : Nat, xo = (o : Nat) := ⟨xo.toNat, by omega⟩
    have hle : (decide (a ≤ (n : Nat) - 1 - (i : Nat)) : Bool) = decide (a < (n : Nat) - (i : Nat)) := decide_eq_decide.2 (by omega)
    have ho : 1 ≤ o ∧ o ≤ 16 := by omega
    unfold dA
    rw [hle]
    match o, ho with
    | 1, _ => exact eq_1 a b c m k j t ar n i
    | 2, _ => exact eq_2 a b c m k j t ar n i
    | 3, _ => exact eq_3 a b c m k j t ar n i
    | 4, _ => exact eq_4 a b c m k j t ar n i
    | 5, _ => exact eq_5 a b c m k j t ar n i
    | 6, _ => exact eq_6 a b c m k j t ar n i
    | 7, _ => exact eq_7 a b c m k j t ar n i
    | 8, _ => exact eq_8 a b c m k j t ar n i
    | 9, _ => exact eq_9 a b c m k j t ar n i
    | 10, _ => exact eq_10 a b c m k j t ar n i
    | 11, _ => exact eq_11 a b c m k j t ar n i
    | 12, _ => exact eq_12 a b c m k j t ar n i
    | 13, _ => exact eq_13 a b c m k j t ar n i
    | 14, _ => exact eq_14 a b c m k j t ar n i
    | 15, _ => exact eq_15 a b c m k j t ar n i
    | 16, _ => exact eq_16 a b c m k j t ar n i
    | 0, h => omega
    | o + 17, h => omega
theorem instr6_spec (nm : ByteArray) (ar : Int) (L : List Ins) (o c i : Nat) (hL : L.length ≤ 1000000) (hi : i < L.length) (hsz : ∀ x ∈ L, True) : Spec Tryz.prog 69 [.agg (prA nm ar (.sl 0 8 o L.length c)), .raw (.int .i64 (i : Nat))] [roI o L] 1 (σ := Unit) (fun _ => True) (fun _ => .raw (.int .i64 (insE ar L.length i (L.getD i insD)))) (fun _ => []) := by
  refine Spec.of Tryz.func69 rfl Tryz.ntmps69 rfl (bdl_cons (fun _ _ => rfl) (bdl_nil _)) fun ρ w => ?_
  obtain ⟨x, hx⟩ : ∃ x, L.getD i insD = x := ⟨_, rfl⟩
  have hA : insF L i = insA x := by unfold insF; rw [hx]
  rw [hx, ← docE_eq]
  refine sS_ ?_
  refine R.ix ttok i rfl rfl rfl rfl rfl (by kernel_rfl) rfl hi ⟨by omega, by omega⟩ rfl ?_
  refine R.ldo (v := .agg (insA x)) ttok rfl rfl rfl (by rw [hA]; rfl) rfl (by kernel_rfl) hi ?_
  refine sS_ ?_
  refine R.cl [] (fieldsR_spec x.o) Tryz.call108 hS6_ rfl rfl rfl (fun _ => rfl) rfl (by kernel_rfl) fun _ _ => ?_
  refine sS_ ?_
  rw [eqL, show strB (strOf (fL x.o)) = fL x.o from rfl]
  by_cases ho : x.o < 1 ∨ 16 < x.o
  · rw [show docE ar L.length i x = 16 from if_pos ho]
    have hf : fL x.o = [63] := if_pos ho
    rw [hf, show decide ([63] = (#[63] : Array UInt8).toList) = true from rfl]
    refine sS_ ?_
    refine X.fin ttok () [] trivial rfl rfl rfl hS4_ _ (by first | exact .inl rfl | exact .inr rfl)
  · have hne : fL x.o ≠ [63] := fL_ne ho
    have hll : (fL x.o).length ≤ 4 := fL_len x.o
    have hdoc : docE ar L.length i x = if (dA x.o x.a L.length i && rgK (fL x.o) 66 x.b && rgK (fL x.o) 67 x.c && numK ar x.o x.n) = true then (if (fL x.o).contains 86 = true then vchk x.k x.i x.t else if vz x = true then 0 else 16) else 16 := if_neg ho
    have hdA : dA x.o x.a L.length i = if (fL x.o).contains 97 = true then decide (1 ≤ x.a) && decide (x.a ≤ (L.length : Nat) - 1 - (i : Nat)) else rgK (fL x.o) 65 x.a := rfl
    obtain ⟨da, hda⟩ : ∃ da, dA x.o x.a L.length i = da := ⟨_, rfl⟩
    rw [hda] at hdoc hdA
    rw [hdoc]
    obtain ⟨l, hl⟩ : ∃ l, fL x.o = l := ⟨_, rfl⟩
    rw [hl] at hne hll hdA ⊢
    rw [decide_eq_false (show ¬ l = (#[63] : Array UInt8).toList from hne)]
    have hls : (strOf l).size ≤ 1000000 := by rw [← strB_size]; show l.length ≤ _; omega
    refine sS_ ?_
    refine R.cl [] (reg6_spec (strOf l) 65 x.a hls) Tryz.call109 hS6_ rfl rfl rfl (fun _ => rfl) rfl (by kernel_rfl) fun _ _ => ?_
    rw [show strB (strOf l) = l from rfl]
    refine sS_ ?_
    refine R.cl [] (hasR_spec (strOf l) 97 hls) Tryz.call110 hS6_ rfl rfl rfl (fun _ => rfl) rfl (by kernel_rfl) fun _ _ => ?_
    rw [show strB (strOf l) = l from rfl]
    cases hc : l.contains 97 with
    | false =>
      rw [hc, if_neg Bool.false_ne_true] at hdA
      rw [← hdA]
      refine sS_ ?_
      refine R.cl [] (reg6_spec (strOf l) 66 x.b hls) Tryz.call109 hS6_ rfl rfl rfl (fun _ => rfl) rfl (by kernel_rfl) fun _ _ => ?_
      rw [show strB (strOf l) = l from rfl]
      refine sS_ ?_
      refine R.cl [] (reg6_spec (strOf l) 67 x.c hls) Tryz.call109 hS6_ rfl rfl rfl (fun _ => rfl) rfl (by kernel_rfl) fun _ _ => ?_
      rw [show strB (strOf l) = l from rfl]
      refine sS_ ?_
      refine R.cl [0] (num6_spec nm ar o c L.length x) Tryz.call111 hS3_ rfl rfl rfl (fun _ => rfl) rfl (by kernel_rfl) fun _ _ => ?_
      refine sS_ ?_
      cases da with
      | false =>
        refine sS_ ?_
        refine X.fin ttok () [] trivial rfl rfl rfl hS4_ _ (by first | exact .inl rfl | exact .inr rfl)
      | true =>
        refine sS_ ?_
        cases rgK l 66 x.b with
        | false =>
          refine sS_ ?_
          refine X.fin ttok () [] trivial rfl rfl rfl hS4_ _ (by first | exact .inl rfl | exact .inr rfl)
        | true =>
          refine sS_ ?_
          cases rgK l 67 x.c with
          | false =>
            refine sS_ ?_
            refine X.fin ttok () [] trivial rfl rfl rfl hS4_ _ (by first | exact .inl rfl | exact .inr rfl)
          | true =>
            refine sS_ ?_
            cases numK ar x.o x.n with
            | false =>
              refine sS_ ?_
              refine X.fin ttok () [] trivial rfl rfl rfl hS4_ _ (by first | exact .inl rfl | exact .inr rfl)
            | true =>
              refine sS_ ?_
              refine R.cl [] (hasR_spec (strOf l) 86 hls) Tryz.call110 hS6_ rfl rfl rfl (fun _ => rfl) rfl (by kernel_rfl) fun _ _ => ?_
              rw [show strB (strOf l) = l from rfl]
              cases l.contains 86 with
              | true =>
                refine sS_ ?_
                refine R.cl [] (datumR_spec x.k x.i x.t) Tryz.call112 hS6_ rfl rfl rfl (fun _ => rfl) rfl (by kernel_rfl) fun _ _ => ?_
                refine sS_ ?_
                refine X.fin ttok () [] trivial rfl rfl rfl hS4_ _ (by first | exact .inl rfl | exact .inr rfl)
              | false =>
                unfold vz
                refine sS_ ?_
                by_cases hk : x.k = 0
                · rw [decide_eq_true hk, decide_eq_false (show ¬ x.k ≠ 0 from fun h => h hk)]
                  refine sS_ ?_
                  by_cases hi0 : x.i = 0
                  · rw [decide_eq_true hi0, decide_eq_false (show ¬ x.i ≠ 0 from fun h => h hi0)]
                    refine sS_ ?_
                    rw [neE2]
                    by_cases ht : strB x.t = []
                    · rw [decide_eq_true ht, decide_eq_false (show ¬ strB x.t ≠ [] from fun h => h ht)]
                      refine sS_ ?_
                      refine X.fin ttok () [] trivial rfl rfl rfl hS4_ _ (by first | exact .inl rfl | exact .inr rfl)
                    · rw [decide_eq_false ht, decide_eq_true (show strB x.t ≠ [] from ht)]
                      refine sS_ ?_
                      refine X.fin ttok () [] trivial rfl rfl rfl hS4_ _ (by first | exact .inl rfl | exact .inr rfl)
                  · rw [decide_eq_false hi0, decide_eq_true (show x.i ≠ 0 from hi0)]
                    refine sS_ ?_
                    refine X.fin ttok () [] trivial rfl rfl rfl hS4_ _ (by first | exact .inl rfl | exact .inr rfl)
                · rw [decide_eq_false hk, decide_eq_true (show x.k ≠ 0 from hk)]
                  refine sS_ ?_
                  refine X.fin ttok () [] trivial rfl rfl rfl hS4_ _ (by first | exact .inl rfl | exact .inr rfl)
    | true =>
      rw [hc, if_pos rfl] at hdA
      refine sS_ ?_
      by_cases h1 : 1 ≤ x.a
      · rw [decide_eq_true (show x.a ≥ 1 from h1)]
        rw [decide_eq_true h1, Bool.true_and] at hdA
        refine sS_ ?_
        rw [← hdA]
        refine sS_ ?_
        refine R.cl [] (reg6_spec (strOf l) 66 x.b hls) Tryz.call109 hS6_ rfl rfl rfl (fun _ => rfl) rfl (by kernel_rfl) fun _ _ => ?_
        rw [show strB (strOf l) = l from rfl]
        refine sS_ ?_
        refine R.cl [] (reg6_spec (strOf l) 67 x.c hls) Tryz.call109 hS6_ rfl rfl rfl (fun _ => rfl) rfl (by kernel_rfl) fun _ _ => ?_
        rw [show strB (strOf l) = l from rfl]
        refine sS_ ?_
        refine R.cl [0] (num6_spec nm ar o c L.length x) Tryz.call111 hS3_ rfl rfl rfl (fun _ => rfl) rfl (by kernel_rfl) fun _ _ => ?_
        refine sS_ ?_
        cases da with
        | false =>
          refine sS_ ?_
          refine X.fin ttok () [] trivial rfl rfl rfl hS4_ _ (by first | exact .inl rfl | exact .inr rfl)
        | true =>
          refine sS_ ?_
          cases rgK l 66 x.b with
          | false =>
            refine sS_ ?_
            refine X.fin ttok () [] trivial rfl rfl rfl hS4_ _ (by first | exact .inl rfl | exact .inr rfl)
          | true =>
            refine sS_ ?_
            cases rgK l 67 x.c with
            | false =>
              refine sS_ ?_
              refine X.fin ttok () [] trivial rfl rfl rfl hS4_ _ (by first | exact .inl rfl | exact .inr rfl)
            | true =>
              refine sS_ ?_
              cases numK ar x.o x.n with
              | false =>
                refine sS_ ?_
                refine X.fin ttok () [] trivial rfl rfl rfl hS4_ _ (by first | exact .inl rfl | exact .inr rfl)
              | true =>
                refine sS_ ?_
                refine R.cl [] (hasR_spec (strOf l) 86 hls) Tryz.call110 hS6_ rfl rfl rfl (fun _ => rfl) rfl (by kernel_rfl) fun _ _ => ?_
                rw [show strB (strOf l) = l from rfl]
                cases l.contains 86 with
                | true =>
                  refine sS_ ?_
                  refine R.cl [] (datumR_spec x.k x.i x.t) Tryz.call112 hS6_ rfl rfl rfl (fun _ => rfl) rfl (by kernel_rfl) fun _ _ => ?_
                  refine sS_ ?_
                  refine X.fin ttok () [] trivial rfl rfl rfl hS4_ _ (by first | exact .inl rfl | exact .inr rfl)
                | false =>
                  unfold vz
                  refine sS_ ?_
                  by_cases hk : x.k = 0
                  · rw [decide_eq_true hk, decide_eq_false (show ¬ x.k ≠ 0 from fun h => h hk)]
                    refine sS_ ?_
                    by_cases hi0 : x.i = 0
                    · rw [decide_eq_true hi0, decide_eq_false (show ¬ x.i ≠ 0 from fun h => h hi0)]
                      refine sS_ ?_
                      rw [neE2]
                      by_cases ht : strB x.t = []
                      · rw [decide_eq_true ht, decide_eq_false (show ¬ strB x.t ≠ [] from fun h => h ht)]
                        refine sS_ ?_
                        refine X.fin ttok () [] trivial rfl rfl rfl hS4_ _ (by first | exact .inl rfl | exact .inr rfl)
                      · rw [decide_eq_false ht, decide_eq_true (show strB x.t ≠ [] from ht)]
                        refine sS_ ?_
                        refine X.fin ttok () [] trivial rfl rfl rfl hS4_ _ (by first | exact .inl rfl | exact .inr rfl)
                    · rw [decide_eq_false hi0, decide_eq_true (show x.i ≠ 0 from hi0)]
                      refine sS_ ?_
                      refine X.fin ttok () [] trivial rfl rfl rfl hS4_ _ (by first | exact .inl rfl | exact .inr rfl)
                  · rw [decide_eq_false hk, decide_eq_true (show x.k ≠ 0 from hk)]
                    refine sS_ ?_
                    refine X.fin ttok () [] trivial rfl rfl rfl hS4_ _ (by first | exact .inl rfl | exact .inr rfl)
      · rw [decide_eq_false (show ¬ x.a ≥ 1 from h1)]
        rw [decide_eq_false h1, Bool.false_and] at hdA
        subst hdA
        refine sS_ ?_
        refine sS_ ?_
        refine R.cl [] (reg6_spec (strOf l) 66 x.b hls) Tryz.call109 hS6_ rfl rfl rfl (fun _ => rfl) rfl (by kernel_rfl) fun _ _ => ?_
        rw [show strB (strOf l) = l from rfl]
        refine sS_ ?_
        refine R.cl [] (reg6_spec (strOf l) 67 x.c hls) Tryz.call109 hS6_ rfl rfl rfl (fun _ => rfl) rfl (by kernel_rfl) fun _ _ => ?_
        rw [show strB (strOf l) = l from rfl]
        refine sS_ ?_
        refine R.cl [0] (num6_spec nm ar o c L.length x) Tryz.call111 hS3_ rfl rfl rfl (fun _ => rfl) rfl (by kernel_rfl) fun _ _ => ?_
        refine sS_ ?_
        refine sS_ ?_
        refine X.fin ttok () [] trivial rfl rfl rfl hS4_ _ (by first | exact .inl rfl | exact .inr rfl)
end Go.Proofs.YtaieficgifingaaGreatDoor
namespace Go.Proofs.YtaieficgifingaaGreatDoor
set_option linter.unusedVariables false
set_option linter.unusedSimpArgs false
open Go.RowKit
set_option maxRecDepth 100000
set_option maxHeartbeats 8000000
abbrev FK.av3 : FK → List AV
  | .a => [.fn 86 [.ptr 3 0 0 0], .fn 88 [.ptr 3 0 0 0]]
  | .b => [.fn 86 [.ptr 4 0 0 0], .fn 88 [.ptr 4 0 0 0]]
  | .c => [.fn 86 [.ptr 5 0 0 0], .fn 88 [.ptr 5 0 0 0]]
  | .n => [.fn 89 [.ptr 6 0 0 0], .fn 90 [.ptr 6 0 0 0]]
  | .k => [.fn 89 [.ptr 7 0 0 0], .fn 90 [.ptr 7 0 0 0]]
  | .s => [.fn 47 [.ptr 9 0 0 0], .fn 48 [.ptr 9 0 0 0]]
  | .v => [.fn 49 [], .fn 51 []]
def shRows3 : List AV := [.raw (.string ⟨#[115, 101, 116]⟩), .raw (.int .i64 1), .sl 10 2 0 2 2, .raw (.string ⟨#[97, 114, 103]⟩), .raw (.int .i64 2), .sl 11 2 0 2 2, .raw (.string ⟨#[103, 101, 116]⟩), .raw (.int .i64 3), .sl 12 2 0 2 2, .raw (.string ⟨#[110, 101, 120, 116]⟩), .raw (.int .i64 14), .sl 13 2 0 2 2, .raw (.string ⟨#[112, 117, 116]⟩), .raw (.int .i64 4), .sl 14 2 0 2 2, .raw (.string ⟨#[100, 101, 108]⟩), .raw (.int .i64 5), .sl 15 2 0 1 1, .raw (.string ⟨#[116, 101, 108, 108]⟩), .raw (.int .i64 15), .sl 16 2 0 1 1, .raw (.string ⟨#[97, 100, 100]⟩), .raw (.int .i64 6), .sl 17 2 0 3 3, .raw (.string ⟨#[115, 117, 98]⟩), .raw (.int .i64 7), .sl 18 2 0 3 3, .raw (.string ⟨#[109, 117, 108]⟩), .raw (.int .i64 8), .sl 19 2 0 3 3, .raw (.string ⟨#[106, 111, 105, 110]⟩), .raw (.int .i64 9), .sl 20 2 0 3 3, .raw (.string ⟨#[110, 101, 101, 100]⟩), .raw (.int .i64 10), .sl 21 2 0 3 3, .raw (.string ⟨#[115, 107, 105, 112]⟩), .raw (.int .i64 11), .sl 22 2 0 4 4, .raw (.string ⟨#[115, 117, 109]⟩), .raw (.int .i64 12), .sl 23 2 0 4 4, .raw (.string ⟨#[99, 111, 117, 110, 116]⟩), .raw (.int .i64 13), .sl 24 2 0 4 4, .raw (.string ⟨#[115, 116, 111, 112]⟩), .raw (.int .i64 16), .raw (.slice none 0 0)]
abbrev tI (l : List Ins) (c : Nat) : AO := .tab 8 l.length c (insF l) inT
def inN (l : List Nat) (i : Nat) : List AV := [.raw (.int .i64 (l.getD i 0 : Nat))]
abbrev tN (l : List Nat) (c : Nat) : AO := .tab 1 l.length c (inN l) 3
structure PS where
  rem : ByteArray
  num : Nat
  p : PR
  last : Nat
  c : Nat
  c2 : Nat
  x : Int
abbrev hsP (s : PS) : List (Nat × AO) := [(0, .cells (prA s.p.nm (s.p.ar : Nat) (.sl 32 8 0 s.p.cd.length s.c)) 25), (1, .cells [.raw (.int .i64 0)] 3), (2, .cells [.raw (.int .i64 0)] 26), (3, .cells [.fn 41 []] ofT), (4, .cells [.fn 44 []] ofT), (5, .cells [.fn 45 []] ofT), (6, .cells [.fn 42 []] ofT), (7, .cells [.fn 41 []] ofT), (8, .cells [.raw (.string ⟨#[]⟩), .raw (.string ⟨#[61]⟩), .raw (.string ⟨#[33, 61]⟩), .raw (.string ⟨#[60]⟩), .raw (.string ⟨#[60, 61]⟩), .raw (.string ⟨#[62]⟩), .raw (.string ⟨#[62, 61]⟩)] 9), (9, .cells [.sl 8 1 0 7 7] 68), (10, .cells (FK.av3 .a ++ FK.av3 .v) fldT), (11, .cells (FK.av3 .a ++ FK.av3 .n) fldT), (12, .cells (FK.av3 .a ++ FK.av3 .b) fldT), (13, .cells (FK.av3 .a ++ FK.av3 .b) fldT), (14, .cells (FK.av3 .a ++ FK.av3 .b) fldT), (15, .cells (FK.av3 .a) fldT), (16, .cells (FK.av3 .a) fldT), (17, .cells (FK.av3 .a ++ FK.av3 .b ++ FK.av3 .c) fldT), (18, .cells (FK.av3 .a ++ FK.av3 .b ++ FK.av3 .c) fldT), (19, .cells (FK.av3 .a ++ FK.av3 .b ++ FK.av3 .c) fldT), (20, .cells (FK.av3 .a ++ FK.av3 .b ++ FK.av3 .c) fldT), (21, .cells (FK.av3 .b ++ FK.av3 .s ++ FK.av3 .c) fldT), (22, .cells (FK.av3 .k ++ FK.av3 .b ++ FK.av3 .s ++ FK.av3 .c) fldT), (23, .cells (FK.av3 .a ++ FK.av3 .b ++ FK.av3 .c ++ FK.av3 .n) fldT), (24, .cells (FK.av3 .a ++ FK.av3 .b ++ FK.av3 .c ++ FK.av3 .n) fldT), (25, .cells shRows3 shpT), (26, .cells [.sl 25 3 0 16 16] 51), (27, .cells [.raw (.int .i64 (s.last : Nat))] 3), (28, .cells [.raw (.int .i64 (s.p.head : Nat))] 3), (29, .cells [.raw (.bool s.p.ended)] 4), (30, .cells [.sl 33 1 0 s.p.ln.length s.c2] 53), (32, tI s.p.cd s.c), (33, tN s.p.ln s.c2)]
abbrev hpP (s : PS) : List (Nat × AO) := [(0, .cells (prA s.p.nm (s.x : Int) (.sl 32 8 0 s.p.cd.length s.c)) 25), (1, .cells [.raw (.int .i64 0)] 3), (2, .cells [.raw (.int .i64 0)] 26), (32, tI s.p.cd s.c)]
def inss (l : List Ins) : List AV := l.flatMap insA
theorem inss_app (a b : List Ins) : inss (a ++ b) = inss a ++ inss b := List.flatMap_append
theorem flat_ins (l : List Ins) : ∀ m off, off + m ≤ l.length → flat (fun i => insF l (off + i)) m = inss ((l.drop off).take m)
  | 0, off, _ => by simp [flat, inss]
  | m + 1, off, h => by
    rw [flat, flat_ins l m off (by omega), List.take_add_one, inss_app]
    congr 1
    have : (l.drop off)[m]? = some (l[off + m]'(by omega)) := by rw [List.getElem?_drop, List.getElem?_eq_getElem]
    rw [this]
    simp [inss, insF, List.getD, show off + m < l.length by omega]
theorem flat_ins0 (l : List Ins) : flat (insF l) l.length = inss l := by
  have := flat_ins l l.length 0 (by omega)
  simpa using this
def nats (l : List Nat) : List AV := l.flatMap fun n => [.raw (.int .i64 (n : Nat))]
theorem nats_app (a b : List Nat) : nats (a ++ b) = nats a ++ nats b := List.flatMap_append
theorem flat_nats (l : List Nat) : ∀ m off, off + m ≤ l.length → flat (fun i => inN l (off + i)) m = nats ((l.drop off).take m)
  | 0, off, _ => by simp [flat, nats]
  | m + 1, off, h => by
    rw [flat, flat_nats l m off (by omega), List.take_add_one, nats_app]
    congr 1
    have : (l.drop off)[m]? = some (l[off + m]'(by omega)) := by rw [List.getElem?_drop, List.getElem?_eq_getElem]
    rw [this]
    simp [nats, inN, List.getD, show off + m < l.length by omega]
theorem flat_nats0 (l : List Nat) : flat (inN l) l.length = nats l := by
  have := flat_nats l l.length 0 (by omega)
  simpa using this
section
variable {E : Base} {n L : Nat} {τ : List (Nat × AV)} {h : List (Nat × AO)} {F : World → Prop}
theorem asIns (T : TypeId) (l : List Ins) (xs : List AV) (hx : xs = inss l) : AsRow (fun c => .tab 8 l.length c (insF l) T) T 8 xs := by
  rw [hx, ← flat_ins0]
  exact AsRow.tab T (by decide) fun i _ => rfl
theorem dstIns {lab cap : Nat} {l : List Ins} {T : TypeId} (hl : hk lab h = some (.tab 8 l.length cap (insF l) T)) : DstA E n L τ h F (.sl lab 8 0 l.length cap) T 8 l.length cap (inss l) [lab] := by
  have := DstA.tab (E := E) (n := n) (L := L) (τ := τ) (F := F) (by decide) hl fun i _ => rfl
  rwa [flat_ins0] at this
theorem asNats (T : TypeId) (l : List Nat) (xs : List AV) (hx : xs = nats l) : AsRow (fun c => .tab 1 l.length c (inN l) T) T 1 xs := by
  rw [hx, ← flat_nats0]
  exact AsRow.tab T (by decide) fun i _ => rfl
theorem dstNats {lab cap : Nat} {l : List Nat} {T : TypeId} (hl : hk lab h = some (.tab 1 l.length cap (inN l) T)) : DstA E n L τ h F (.sl lab 1 0 l.length cap) T 1 l.length cap (nats l) [lab] := by
  have := DstA.tab (E := E) (n := n) (L := L) (τ := τ) (F := F) (by decide) hl fun i _ => rfl
  rwa [flat_nats0] at this
end
abbrev wdT : TypeId := 62
theorem wd_eq (t u : ByteArray) (q b : Bool) : eqA tt 6 wdT (.agg [.raw (.string t), .raw (.bool q)]) (.agg [.raw (.string u), .raw (.bool b)]) = some (decide (strB t = strB u) && ((q == b) && true)) := by
  rw [← eqS]
  rfl
/-- what Parse answers -/
structure PV where
  nm : ByteArray
  ar : Int
  cd : List Ins
  c : Nat
  line : Int
  e : Int
def parseG (t : List UInt8) (r : PV) : Prop := (match parseP t with
  | .ok p => r.nm = p.nm ∧ r.ar = (p.ar : Nat) ∧ r.cd = p.cd ∧ r.line = 0 ∧ r.e = 0
  | .error x => r.nm = noT0 ∧ r.ar = 0 ∧ r.cd = [] ∧ r.line = x.1 ∧ r.e = x.2) ∧ r.cd.length ≤ r.c ∧ r.c ≤ 9223372036854775807
/-- the loop's states -/
structure PS.ok (t : List UInt8) (s : PS) : Prop where
  run : runL (linesL t) 1 pr0 = runL (linesL (strB s.rem)) s.num s.p
  num : 1 ≤ s.num
  cnt : s.num - 1 + (linesL (strB s.rem)).length = (linesL t).length
  sz : s.num + s.rem.size ≤ 100001
  last : s.last = max (s.num - 1) 1
  cd : s.p.cd.length ≤ s.num
  ln : s.p.ln.length = s.p.cd.length
  hd : s.p.head ≤ s.num
  ls : ∀ n ∈ s.p.ln, n ≤ s.num
  c1 : s.p.cd.length ≤ s.c ∧ s.c ≤ 9223372036854775807
  c2 : s.p.ln.length ≤ s.c2 ∧ s.c2 ≤ 9223372036854775807
theorem tab_any {ρ : Env} {r : Option Nat} {w : World} {wd n0 cap : Nat} {f : Nat → List AV} {T : TypeId} (h : (AO.tab wd n0 cap f T).holds ρ r w) : anyO.holds ρ r w := ro_any (tab_ro h)
theorem callParse1 : ∀ args w, (callFunc 17 args).run Tryz.prog w = .ok (.enter 17 args) w := Tryz.call17
theorem parse_spec (text : ByteArray) (hsz : text.size ≤ 100000) (fs : Fam) (hG : Glob fs) (hfc : ∀ x ∈ fs, x.ob.isCells = true) : SpecF Tryz.prog 8 [.raw (.string text)] [] 1 fs (σ := PV) (parseG (strB text)) (fun r => .tup [.agg (prA r.nm r.ar (.sl 0 8 0 r.cd.length r.c)), .raw (.int .i64 r.line), .raw (.int .i64 r.e)]) (fun r => [(0, tI r.cd r.c)]) (fun _ => fs) := by
  refine SpecF.ofA Tryz.func8 rfl Tryz.ntmps8 rfl (bdl_nil _) fun ρ w => ?_
  repeat (first | refine CA.seq ?_ | refine CA.of (C.region ?_) | refine R.zb ttok ?_ | refine R.zu ttok ?_ | refine R.zc ttok ?_ | refine R.za ttok ?_ | refine R.zx ?_ | refine R.zl ttok ?_ | refine R.zs ttok ?_ | refine R.z ttok ?_ | refine R.zk ?_ | refine R.zn ?_ | refine R.done ?_ | refine X.thenA ?_ | refine CA.block ?_)
  refine R.pin fun ρ1 h1 => ?_
  refine R.dfr rfl rfl rfl ?_
  repeat (first | refine CA.seq ?_ | refine CA.of (C.region ?_) | refine R.zb ttok ?_ | refine R.zu ttok ?_ | refine R.zc ttok ?_ | refine R.za ttok ?_ | refine R.zx ?_ | refine R.zl ttok ?_ | refine R.zs ttok ?_ | refine R.z ttok ?_ | refine R.zk ?_ | refine R.zn ?_ | refine R.done ?_ | refine X.thenA ?_ | refine CA.block ?_)
  refine R.cl [] (shapes_spec) Tryz.call18 hS6_ rfl rfl rfl (fun _ => rfl) rfl (by kernel_rfl) fun _ _ => ?_
  repeat (first | refine CA.seq ?_ | refine CA.of (C.region ?_) | refine R.zb ttok ?_ | refine R.zu ttok ?_ | refine R.zc ttok ?_ | refine R.za ttok ?_ | refine R.zx ?_ | refine R.zl ttok ?_ | refine R.zs ttok ?_ | refine R.z ttok ?_ | refine R.zk ?_ | refine R.zn ?_ | refine R.done ?_ | refine X.thenA ?_ | refine CA.block ?_)
  refine R.cl [] (linesF_spec text) Tryz.call19 hS6_ rfl rfl rfl (fun _ => rfl) rfl (by kernel_rfl) fun _ _ => ?_
  repeat (first | refine CA.seq ?_ | refine CA.of (C.region ?_) | refine R.zb ttok ?_ | refine R.zu ttok ?_ | refine R.zc ttok ?_ | refine R.za ttok ?_ | refine R.zx ?_ | refine R.zl ttok ?_ | refine R.zs ttok ?_ | refine R.z ttok ?_ | refine R.zk ?_ | refine R.zn ?_ | refine R.done ?_ | refine X.thenA ?_ | refine CA.block ?_)
  refine CA.pin fun ρ2 h2 => ?_
  change CA Tryz.prog _ _ _ ⟨32, ρ2, [callD 17 (AV.concs ρ1 [.ptr 0 0 0 0, .ptr 1 0 0 0, .ptr 2 0 0 0])]⟩ _ 32 _ _ _
  have hdf : AV.concs ρ1 [.ptr 0 0 0 0, .ptr 1 0 0 0, .ptr 2 0 0 0] = AV.concs ρ2 [.ptr 0 0 0 0, .ptr 1 0 0 0, .ptr 2 0 0 0] := bds_low (L := 3) _ rfl _ _ fun l hl => (h2 l hl).symm
  rw [hdf]
  clear h1 h2 hdf
  refine CA.fact (p := ∃ b, ρ2 31 = some b) (fun ρ a w g => ?_) ?_
  · obtain ⟨b, hb, _⟩ := (g.hp 31 _ rfl).2.2
    exact ⟨b, (g.ex 31 (Nat.le_of_ble_eq_true rfl)).symm.trans hb⟩
  rintro ⟨b0, hb0⟩
  refine CA.noneH 0 [.raw (.string ⟨#[]⟩), .raw (.int .i64 0), .sl 32 8 0 0 0] (tI [] 0) (none_tab _ _ _ _) rfl rfl rfl (fun ρ h => by have h : ρ 32 = none := h; show _ = AV.concs ρ [.raw (.string ⟨#[]⟩), .raw (.int .i64 0), .raw (.slice none 0 0)]; simp [AV.concs, AV.conc, h]) ?_
  refine CA.noneH 30 [.sl 33 1 0 0 0] (tN [] 0) (none_tab _ _ _ _) rfl rfl rfl (fun ρ h => by have h : ρ 33 = none := h; show _ = AV.concs ρ [.raw (.slice none 0 0)]; simp [AV.concs, AV.conc, h]) ?_
  refine CA.frzP (o' := .cells [.raw (.string text)] 9) true 31 rfl rfl (Nat.le_of_ble_eq_true rfl) hb0 (fun ρ ob w h1 h2 ρ' w' h3 => ?_) fun ob hob hne => ?_
  · obtain ⟨b', hb', hc⟩ := h2
    cases hb'
    exact ⟨b0, rfl, by rw [h3, ← h1]; exact hc⟩
  obtain rfl : ob = .cells #[.string text] 9 (0, 0) := by
    obtain ⟨b', hb', hc⟩ := hob ρ { w with heap := Array.replicate (b0 + 1) ob } (by simp)
    cases hb'
    simpa [AV.concs, AV.conc] using hc
  refine CA.less [] 34 [(2, .ptr 0 0 0 0), (3, .ptr 1 0 0 0), (4, .ptr 2 0 0 0), (5, .ptr 26 0 0 0), (6, .ptr 27 0 0 0), (7, .ptr 28 0 0 0), (8, .ptr 29 0 0 0), (9, .ptr 30 0 0 0), (21, .fn 54 [.ptr 31 0 0 0])] (hsP ⟨text, 1, pr0, 1, 0, 0, 0⟩) _ rfl hS7_ hS5_ rfl (fun _ h => h) ?_
  refine CA.rangeP (σ := PS) (α := Nat × ByteArray) (H := hsP) (HP := hpP) (fsI := fun _ => fs) (fsP := fun _ => fs) (u := fun x => .int .i64 (x.1 : Nat)) (v := fun x => .string x.2) Tryz.func8 32 34 b0 (.cells #[.string text] 9 (0, 0)) ⟨text, 1, pr0, 1, 0, 0, 0⟩ (PS.ok (strB text)) (fun s => runL (linesL (strB text)) 1 pr0 = .error s.num) (fun s => [refE ((s.num : Nat) : Int) 17]) _ _ _ _
    rfl (by simp [AV.concs, AV.conc, hb0]) Tryz.call54 ?hI ?hi0 rfl (fun s _ => hfc) (fun s _ => hfc) rfl (fun s _ => rfl) (fun s _ => rfl) (lines_itp (fun s : PS => s.rem) (fun s => s.num) b0 text (by omega)) ?hround ?hdone ?hpanic
  case hI => exact ⟨rfl, Nat.le_refl _, by simp, by show 1 + text.size ≤ _; omega, rfl, Nat.zero_le _, rfl, Nat.zero_le _, fun n hn => by simp [pr0] at hn, ⟨Nat.zero_le _, Nat.zero_le _⟩, ⟨Nat.zero_le _, Nat.zero_le _⟩⟩
  case hi0 => exact ⟨rfl, rfl⟩
  case hround =>
    rintro ρ3 lb D r ob ⟨rem, num, ⟨head, ended, nm, ar, cd, ln⟩, last, c, c2, x0⟩ x hpin hr hpe hlb hlb0 hI ⟨hne0, rfl⟩
    obtain ⟨hrun, hnum, hcnt, hszN, hlast, hcd, hln, hhd, hls, ⟨hc1, hc1'⟩, ⟨hc2, hc2'⟩⟩ := hI
    dsimp only at hne0 hrun hnum hcnt hszN hlast hcd hln hhd hls hc1 hc1' hc2 hc2' ⊢
    rw [linesL_cons hne0] at hrun hcnt
    rw [List.length_cons] at hcnt
    have hblt := lineB_lt hne0
    have hrs := strB_size rem
    obtain ⟨l, hl⟩ : ∃ l, lineA (strB rem) = l := ⟨_, rfl⟩
    have hll : l.length ≤ rem.size := by rw [← hl, ← hrs]; unfold lineA; rw [List.length_take]; omega
    obtain ⟨rem', hrem'⟩ : ∃ rem', strOf (lineB (strB rem)) = rem' := ⟨_, rfl⟩
    have hr' : lineB (strB rem) = strB rem' := by rw [← hrem']; rfl
    have hrs' := strB_size rem'
    rw [hr'] at hrun hcnt hblt
    rw [hl] at hrun ⊢
    have hfac : ∀ y ∈ (dFact D :: ⟨true, b0, ob⟩ :: fs : Fam), FactC lb y := fun y hy => by
      rcases List.mem_cons.1 hy with rfl | hy
      · exact .inr (.inl rfl)
      · rcases List.mem_cons.1 hy with rfl | hy
        · exact .inr (.inr (Ne.symm hlb0))
        · exact .inl (hfc y hy)
    have hfac2 : ∀ y ∈ (⟨true, b0, ob⟩ :: dFact D :: fs : Fam), FactC lb y := fun y hy => hfac y (by simp only [List.mem_cons] at hy ⊢; rcases hy with h | h | h <;> simp [h])
    have hstop : stepL ⟨head, ended, nm, ar, cd, ln⟩ num l = none → runL (linesL (strB text)) 1 pr0 = .error num := fun h => hrun.trans (run_err h)
    have hgo : ∀ (p' : PR) (c' c2' : Nat), stepL ⟨head, ended, nm, ar, cd, ln⟩ num l = some p' → p'.cd.length ≤ num + 1 → p'.ln.length = p'.cd.length → p'.head ≤ num + 1 → (∀ n ∈ p'.ln, n ≤ num + 1) → p'.cd.length ≤ c' → c' ≤ 9223372036854775807 → p'.ln.length ≤ c2' → c2' ≤ 9223372036854775807 → PS.ok (strB text) ⟨rem', num + 1, p', num, c', c2', 0⟩ := fun p' c' c2' h g1 g2 g3 g4 g5 g6 g7 g8 =>
      ⟨hrun.trans (run_on h), Nat.succ_le_succ (Nat.zero_le _), by show num + 1 - 1 + (linesL (strB rem')).length = (linesL (strB text)).length; omega, by show num + 1 + rem'.size ≤ 100001; omega, by show num = max (num + 1 - 1) 1; omega, g1, g2, g3, g4, ⟨g5, g6⟩, ⟨g7, g8⟩⟩
    repeat (first | refine CR.seq ?_ | refine CR.region ?_ | refine R.zb ttok ?_ | refine R.zu ttok ?_ | refine R.zc ttok ?_ | refine R.za ttok ?_ | refine R.zx ?_ | refine R.zl ttok ?_ | refine R.zs ttok ?_ | refine R.z ttok ?_ | refine R.zk ?_ | refine R.zn ?_ | refine R.done ?_ | refine X.thenR ?_ | refine CR.block ?_ | refine CR.skip ?_ | refine CR.ret ?_ | refine CR.tru (by exact rfl) ?_ | refine CR.fls (by exact rfl) ?_ | refine X.pass_ret ?_ | refine X.pass_exit ?_ | refine X.block_normal ?_ | refine X.block_ret ?_ | refine X.block_exit ?_)
    refine X.begin_ hfac hlb hr ?_
    repeat (first | refine CR.seq ?_ | refine CR.region ?_ | refine R.zb ttok ?_ | refine R.zu ttok ?_ | refine R.zc ttok ?_ | refine R.za ttok ?_ | refine R.zx ?_ | refine R.zl ttok ?_ | refine R.zs ttok ?_ | refine R.z ttok ?_ | refine R.zk ?_ | refine R.zn ?_ | refine R.done ?_ | refine X.thenR ?_ | refine CR.block ?_ | refine CR.skip ?_ | refine CR.ret ?_ | refine CR.tru (by exact rfl) ?_ | refine CR.fls (by exact rfl) ?_ | refine X.pass_ret ?_ | refine X.pass_exit ?_ | refine X.block_normal ?_ | refine X.block_ret ?_ | refine X.block_exit ?_)
    refine R.cl [] (words_spec (strOf l) (by rw [← strB_size]; show l.length ≤ _; omega)) Tryz.call20 hS6_ rfl rfl rfl (fun _ => rfl) rfl (by kernel_rfl) fun rw hrw => ?_
    have hrw : wordsG l rw := hrw
    obtain ⟨W, cw, okw⟩ := rw
    obtain ⟨hw1, hw2, hw3, hw4⟩ := hrw
    dsimp only at hw1 hw2 hw3 hw4 ⊢
    cases hwl : wordsP l with
    | none =>
      rw [hwl] at hw1
      obtain ⟨rfl, rfl⟩ := hw1
      repeat (first | refine CR.seq ?_ | refine CR.region ?_ | refine R.zb ttok ?_ | refine R.zu ttok ?_ | refine R.zc ttok ?_ | refine R.za ttok ?_ | refine R.zx ?_ | refine R.zl ttok ?_ | refine R.zs ttok ?_ | refine R.z ttok ?_ | refine R.zk ?_ | refine R.zn ?_ | refine R.done ?_ | refine X.thenR ?_ | refine CR.block ?_ | refine CR.skip ?_ | refine CR.ret ?_ | refine CR.tru (by exact rfl) ?_ | refine CR.fls (by exact rfl) ?_ | refine X.pass_ret ?_ | refine X.pass_exit ?_ | refine X.block_normal ?_ | refine X.block_ret ?_ | refine X.block_exit ?_)
      refine R.clP (refuse_panics (num : Nat)) Tryz.call21 rfl rfl ?_
      repeat (first | refine X.pass_panic ?_ | refine X.block_panic ?_)
      exact X.upP [] ⟨rem', num, ⟨head, ended, nm, ar, cd, ln⟩, num, c, c2, ar⟩ (hstop (by unfold stepL; rw [hwl])) rfl rfl rfl hS5_ rfl (fun w hf => ff_rot hf)
    | some ws =>
      rw [hwl] at hw1
      obtain ⟨hW, rfl⟩ := hw1
      have hst : stepL ⟨head, ended, nm, ar, cd, ln⟩ num l = stepW ⟨head, ended, nm, ar, cd, ln⟩ num W := by unfold stepL; rw [hwl, hW]
      rw [hst] at hstop
      simp only [hst] at hgo
      by_cases hW0 : W = []
      · have hl0 : W.length = 0 := by rw [hW0]; rfl
        repeat (first | refine CR.seq ?_ | refine CR.region ?_ | refine R.zb ttok ?_ | refine R.zu ttok ?_ | refine R.zc ttok ?_ | refine R.za ttok ?_ | refine R.zx ?_ | refine R.zl ttok ?_ | refine R.zs ttok ?_ | refine R.z ttok ?_ | refine R.zk ?_ | refine R.zn ?_ | refine R.done ?_ | refine X.thenR ?_ | refine CR.block ?_ | refine CR.skip ?_ | refine CR.ret ?_ | refine CR.tru (by exact rfl) ?_ | refine CR.fls (by exact rfl) ?_ | refine X.pass_ret ?_ | refine X.pass_exit ?_ | refine X.block_normal ?_ | refine X.block_ret ?_ | refine X.block_exit ?_)
        rw [decide_eq_true (show ((W.length : Nat) : Int) = 0 by omega)]
        repeat (first | refine CR.seq ?_ | refine CR.region ?_ | refine R.zb ttok ?_ | refine R.zu ttok ?_ | refine R.zc ttok ?_ | refine R.za ttok ?_ | refine R.zx ?_ | refine R.zl ttok ?_ | refine R.zs ttok ?_ | refine R.z ttok ?_ | refine R.zk ?_ | refine R.zn ?_ | refine R.done ?_ | refine X.thenR ?_ | refine CR.block ?_ | refine CR.skip ?_ | refine CR.ret ?_ | refine CR.tru (by exact rfl) ?_ | refine CR.fls (by exact rfl) ?_ | refine X.pass_ret ?_ | refine X.pass_exit ?_ | refine X.block_normal ?_ | refine X.block_ret ?_ | refine X.block_exit ?_)
        exact X.nextP (fsI := fun _ => dFact D :: fs) [] ⟨rem', num + 1, ⟨head, ended, nm, ar, cd, ln⟩, num, c, c2, 0⟩ (hgo _ c c2 (by unfold stepW; rw [if_pos hW0]) (by dsimp only; omega) hln (by dsimp only; omega) (fun n hn => Nat.le_succ_of_le (hls n hn)) hc1 hc1' hc2 hc2') ⟨hrem'.symm, rfl⟩ hr hpe rfl rfl hS5_ rfl hlb hfac (fun w hf => ff_swap hf) hfac2
      have hWp := List.length_pos_iff.2 hW0
      have hszW : ∀ p ∈ W, p.1.size ≤ 1000000 := fun p hp => by
        have := wsOf_sz hwl p (by rw [← hW]; exact hp)
        omega
      repeat (first | refine CR.seq ?_ | refine CR.region ?_ | refine R.zb ttok ?_ | refine R.zu ttok ?_ | refine R.zc ttok ?_ | refine R.za ttok ?_ | refine R.zx ?_ | refine R.zl ttok ?_ | refine R.zs ttok ?_ | refine R.z ttok ?_ | refine R.zk ?_ | refine R.zn ?_ | refine R.done ?_ | refine X.thenR ?_ | refine CR.block ?_ | refine CR.skip ?_ | refine CR.ret ?_ | refine CR.tru (by exact rfl) ?_ | refine CR.fls (by exact rfl) ?_ | refine X.pass_ret ?_ | refine X.pass_exit ?_ | refine X.block_normal ?_ | refine X.block_ret ?_ | refine X.block_exit ?_)
      rw [decide_eq_false (show ¬ ((W.length : Nat) : Int) = 0 by omega)]
      cases ended with
      | true =>
        repeat (first | refine CR.seq ?_ | refine CR.region ?_ | refine R.zb ttok ?_ | refine R.zu ttok ?_ | refine R.zc ttok ?_ | refine R.za ttok ?_ | refine R.zx ?_ | refine R.zl ttok ?_ | refine R.zs ttok ?_ | refine R.z ttok ?_ | refine R.zk ?_ | refine R.zn ?_ | refine R.done ?_ | refine X.thenR ?_ | refine CR.block ?_ | refine CR.skip ?_ | refine CR.ret ?_ | refine CR.tru (by exact rfl) ?_ | refine CR.fls (by exact rfl) ?_ | refine X.pass_ret ?_ | refine X.pass_exit ?_ | refine X.block_normal ?_ | refine X.block_ret ?_ | refine X.block_exit ?_)
        refine R.clP (refuse_panics (num : Nat)) Tryz.call21 rfl rfl ?_
        repeat (first | refine X.pass_panic ?_ | refine X.block_panic ?_)
        exact X.upP [] ⟨rem', num, ⟨head, true, nm, ar, cd, ln⟩, num, c, c2, ar⟩ (hstop (by unfold stepW; rw [if_neg hW0, if_pos rfl])) rfl rfl rfl hS5_ rfl (fun w hf => ff_rot hf)
      | false =>
        have hs1 : stepW ⟨head, false, nm, ar, cd, ln⟩ num W = if head = 0 then (if isProc W = true then (if numB (W.getD 2 wdD).1 (W.getD 2 wdD).2 = true then some { (⟨head, false, nm, ar, cd, ln⟩ : PR) with nm := (W.getD 1 wdD).1, ar := numV (W.getD 2 wdD).1 (W.getD 2 wdD).2, head := num } else none) else none) else (if isP W endT = true then some ⟨head, true, nm, ar, cd, ln⟩ else match insP W with
            | some x => some ⟨head, false, nm, ar, cd ++ [x], ln ++ [num]⟩
            | none => none) := by
          unfold stepW
          rw [if_neg hW0, if_neg (show ¬ (false = true) from Bool.false_ne_true)]
          all_goals first | rfl | (dsimp only; cases insP W <;> rfl)
        rw [hs1] at hstop
        simp only [hs1] at hgo
        clear hs1
        repeat (first | refine CR.seq ?_ | refine CR.region ?_ | refine R.zb ttok ?_ | refine R.zu ttok ?_ | refine R.zc ttok ?_ | refine R.za ttok ?_ | refine R.zx ?_ | refine R.zl ttok ?_ | refine R.zs ttok ?_ | refine R.z ttok ?_ | refine R.zk ?_ | refine R.zn ?_ | refine R.done ?_ | refine X.thenR ?_ | refine CR.block ?_ | refine CR.skip ?_ | refine CR.ret ?_ | refine CR.tru (by exact rfl) ?_ | refine CR.fls (by exact rfl) ?_ | refine X.pass_ret ?_ | refine X.pass_exit ?_ | refine X.block_normal ?_ | refine X.block_ret ?_ | refine X.block_exit ?_)
        by_cases hh0 : head = 0
        · rw [decide_eq_true (show ((head : Nat) : Int) = 0 by omega)]
          rw [if_pos hh0] at hstop
          simp only [if_pos hh0] at hgo
          repeat (first | refine CR.seq ?_ | refine CR.region ?_ | refine R.zb ttok ?_ | refine R.zu ttok ?_ | refine R.zc ttok ?_ | refine R.za ttok ?_ | refine R.zx ?_ | refine R.zl ttok ?_ | refine R.zs ttok ?_ | refine R.z ttok ?_ | refine R.zk ?_ | refine R.zn ?_ | refine R.done ?_ | refine X.thenR ?_ | refine CR.block ?_ | refine CR.skip ?_ | refine CR.ret ?_ | refine CR.tru (by exact rfl) ?_ | refine CR.fls (by exact rfl) ?_ | refine X.pass_ret ?_ | refine X.pass_exit ?_ | refine X.block_normal ?_ | refine X.block_ret ?_ | refine X.block_exit ?_)
          by_cases h3 : W.length = 3
          · rw [decide_eq_false (show ¬ ((W.length : Nat) : Int) ≠ 3 by omega)]
            obtain ⟨p0, p1, p2, rfl⟩ : ∃ p0 p1 p2, W = [p0, p1, p2] := by
              match W, h3 with
              | [a, b, c], _ => exact ⟨a, b, c, rfl⟩
            obtain ⟨t0, q0⟩ := p0
            obtain ⟨t1, q1⟩ := p1
            obtain ⟨t2, q2⟩ := p2
            have hip : isProc [(t0, q0), (t1, q1), (t2, q2)] = ((decide (strB t0 = strB procT) && !q0) && !q1) := by
              unfold isProc
              simp
            rw [hip] at hstop
            simp only [hip] at hgo
            have ht2 : t2.size ≤ 1000000 := hszW (t2, q2) (by simp)
            repeat (first | refine CR.seq ?_ | refine CR.region ?_ | refine R.zb ttok ?_ | refine R.zu ttok ?_ | refine R.zc ttok ?_ | refine R.za ttok ?_ | refine R.zx ?_ | refine R.zl ttok ?_ | refine R.zs ttok ?_ | refine R.z ttok ?_ | refine R.zk ?_ | refine R.zn ?_ | refine R.done ?_ | refine X.thenR ?_ | refine CR.block ?_ | refine CR.skip ?_ | refine CR.ret ?_ | refine CR.tru (by exact rfl) ?_ | refine CR.fls (by exact rfl) ?_ | refine X.pass_ret ?_ | refine X.pass_exit ?_ | refine X.block_normal ?_ | refine X.block_ret ?_ | refine X.block_exit ?_)
            refine R.ix ttok 0 rfl rfl rfl rfl rfl (by kernel_rfl) rfl (by show 0 < 3; decide) (by show 0 < 3; decide) rfl ?_
            refine R.ldt (v := .agg [.raw (.string t0), .raw (.bool q0)]) ttok rfl rfl rfl rfl rfl (by kernel_rfl) (by show 0 < 3; decide) ?_
            repeat (first | refine CR.seq ?_ | refine CR.region ?_ | refine R.zb ttok ?_ | refine R.zu ttok ?_ | refine R.zc ttok ?_ | refine R.za ttok ?_ | refine R.zx ?_ | refine R.zl ttok ?_ | refine R.zs ttok ?_ | refine R.z ttok ?_ | refine R.zk ?_ | refine R.zn ?_ | refine R.done ?_ | refine X.thenR ?_ | refine CR.block ?_ | refine CR.skip ?_ | refine CR.ret ?_ | refine CR.tru (by exact rfl) ?_ | refine CR.fls (by exact rfl) ?_ | refine X.pass_ret ?_ | refine X.pass_exit ?_ | refine X.block_normal ?_ | refine X.block_ret ?_ | refine X.block_exit ?_)
            refine R.nes ttok _ rfl rfl (by kernel_rfl) (by kernel_rfl) (wd_eq _ _ _ _) rfl (by kernel_rfl) ?_
            rw [Bool.and_true, show (q0 == false) = !q0 by cases q0 <;> rfl, show strB ⟨#[112, 114, 111, 99]⟩ = strB procT from rfl]
            cases hc0 : (decide (strB t0 = strB procT) && !q0) with
            | false =>
              rw [hc0, Bool.false_and, if_neg Bool.false_ne_true] at hstop
              repeat (first | refine CR.seq ?_ | refine CR.region ?_ | refine R.zb ttok ?_ | refine R.zu ttok ?_ | refine R.zc ttok ?_ | refine R.za ttok ?_ | refine R.zx ?_ | refine R.zl ttok ?_ | refine R.zs ttok ?_ | refine R.z ttok ?_ | refine R.zk ?_ | refine R.zn ?_ | refine R.done ?_ | refine X.thenR ?_ | refine CR.block ?_ | refine CR.skip ?_ | refine CR.ret ?_ | refine CR.tru (by exact rfl) ?_ | refine CR.fls (by exact rfl) ?_ | refine X.pass_ret ?_ | refine X.pass_exit ?_ | refine X.block_normal ?_ | refine X.block_ret ?_ | refine X.block_exit ?_)
              refine R.clP (refuse_panics (num : Nat)) Tryz.call21 rfl rfl ?_
              repeat (first | refine X.pass_panic ?_ | refine X.block_panic ?_)
              exact X.upP [] ⟨rem', num, ⟨head, false, nm, ar, cd, ln⟩, num, c, c2, ar⟩ (hstop rfl) rfl rfl rfl hS5_ rfl (fun w hf => ff_rot hf)
            | true =>
              rw [hc0, Bool.true_and] at hstop
              simp only [hc0, Bool.true_and] at hgo
              repeat (first | refine CR.seq ?_ | refine CR.region ?_ | refine R.zb ttok ?_ | refine R.zu ttok ?_ | refine R.zc ttok ?_ | refine R.za ttok ?_ | refine R.zx ?_ | refine R.zl ttok ?_ | refine R.zs ttok ?_ | refine R.z ttok ?_ | refine R.zk ?_ | refine R.zn ?_ | refine R.done ?_ | refine X.thenR ?_ | refine CR.block ?_ | refine CR.skip ?_ | refine CR.ret ?_ | refine CR.tru (by exact rfl) ?_ | refine CR.fls (by exact rfl) ?_ | refine X.pass_ret ?_ | refine X.pass_exit ?_ | refine X.block_normal ?_ | refine X.block_ret ?_ | refine X.block_exit ?_)
              refine R.ix ttok 1 rfl rfl rfl rfl rfl (by kernel_rfl) rfl (by show 1 < 3; decide) (by show 1 < 3; decide) rfl ?_
              repeat (first | refine CR.seq ?_ | refine CR.region ?_ | refine R.zb ttok ?_ | refine R.zu ttok ?_ | refine R.zc ttok ?_ | refine R.za ttok ?_ | refine R.zx ?_ | refine R.zl ttok ?_ | refine R.zs ttok ?_ | refine R.z ttok ?_ | refine R.zk ?_ | refine R.zn ?_ | refine R.done ?_ | refine X.thenR ?_ | refine CR.block ?_ | refine CR.skip ?_ | refine CR.ret ?_ | refine CR.tru (by exact rfl) ?_ | refine CR.fls (by exact rfl) ?_ | refine X.pass_ret ?_ | refine X.pass_exit ?_ | refine X.block_normal ?_ | refine X.block_ret ?_ | refine X.block_exit ?_)
              refine R.ldt (v := .raw (.bool q1)) ttok rfl rfl rfl rfl rfl (by kernel_rfl) (by show 1 < 3; decide) ?_
              cases q1 with
              | true =>
                rw [if_neg (show ¬ ((!true) = true) from Bool.false_ne_true)] at hstop
                repeat (first | refine CR.seq ?_ | refine CR.region ?_ | refine R.zb ttok ?_ | refine R.zu ttok ?_ | refine R.zc ttok ?_ | refine R.za ttok ?_ | refine R.zx ?_ | refine R.zl ttok ?_ | refine R.zs ttok ?_ | refine R.z ttok ?_ | refine R.zk ?_ | refine R.zn ?_ | refine R.done ?_ | refine X.thenR ?_ | refine CR.block ?_ | refine CR.skip ?_ | refine CR.ret ?_ | refine CR.tru (by exact rfl) ?_ | refine CR.fls (by exact rfl) ?_ | refine X.pass_ret ?_ | refine X.pass_exit ?_ | refine X.block_normal ?_ | refine X.block_ret ?_ | refine X.block_exit ?_)
                refine R.clP (refuse_panics (num : Nat)) Tryz.call21 rfl rfl ?_
                repeat (first | refine X.pass_panic ?_ | refine X.block_panic ?_)
                exact X.upP [] ⟨rem', num, ⟨head, false, nm, ar, cd, ln⟩, num, c, c2, ar⟩ (hstop rfl) rfl rfl rfl hS5_ rfl (fun w hf => ff_rot hf)
              | false =>
                simp only [Bool.not_false, if_true] at hstop hgo
                repeat (first | refine CR.seq ?_ | refine CR.region ?_ | refine R.zb ttok ?_ | refine R.zu ttok ?_ | refine R.zc ttok ?_ | refine R.za ttok ?_ | refine R.zx ?_ | refine R.zl ttok ?_ | refine R.zs ttok ?_ | refine R.z ttok ?_ | refine R.zk ?_ | refine R.zn ?_ | refine R.done ?_ | refine X.thenR ?_ | refine CR.block ?_ | refine CR.skip ?_ | refine CR.ret ?_ | refine CR.tru (by exact rfl) ?_ | refine CR.fls (by exact rfl) ?_ | refine X.pass_ret ?_ | refine X.pass_exit ?_ | refine X.block_normal ?_ | refine X.block_ret ?_ | refine X.block_exit ?_)
                refine R.ix ttok 2 rfl rfl rfl rfl rfl (by kernel_rfl) rfl (by show 2 < 3; decide) (by show 2 < 3; decide) rfl ?_
                refine R.ldt (v := .agg [.raw (.string t2), .raw (.bool q2)]) ttok rfl rfl rfl rfl rfl (by kernel_rfl) (by show 2 < 3; decide) ?_
                repeat (first | refine CR.seq ?_ | refine CR.region ?_ | refine R.zb ttok ?_ | refine R.zu ttok ?_ | refine R.zc ttok ?_ | refine R.za ttok ?_ | refine R.zx ?_ | refine R.zl ttok ?_ | refine R.zs ttok ?_ | refine R.z ttok ?_ | refine R.zk ?_ | refine R.zn ?_ | refine R.done ?_ | refine X.thenR ?_ | refine CR.block ?_ | refine CR.skip ?_ | refine CR.ret ?_ | refine CR.tru (by exact rfl) ?_ | refine CR.fls (by exact rfl) ?_ | refine X.pass_ret ?_ | refine X.pass_exit ?_ | refine X.block_normal ?_ | refine X.block_ret ?_ | refine X.block_exit ?_)
                refine R.cl [] (number_spec t2 q2 (by omega)) Tryz.call22 hS6_ rfl rfl rfl (fun _ => rfl) rfl (by kernel_rfl) fun _ _ => ?_
                repeat (first | refine CR.seq ?_ | refine CR.region ?_ | refine R.zb ttok ?_ | refine R.zu ttok ?_ | refine R.zc ttok ?_ | refine R.za ttok ?_ | refine R.zx ?_ | refine R.zl ttok ?_ | refine R.zs ttok ?_ | refine R.z ttok ?_ | refine R.zk ?_ | refine R.zn ?_ | refine R.done ?_ | refine X.thenR ?_ | refine CR.block ?_ | refine CR.skip ?_ | refine CR.ret ?_ | refine CR.tru (by exact rfl) ?_ | refine CR.fls (by exact rfl) ?_ | refine X.pass_ret ?_ | refine X.pass_exit ?_ | refine X.block_normal ?_ | refine X.block_ret ?_ | refine X.block_exit ?_)
                cases hnb : numB t2 q2 with
                | false =>
                  rw [if_neg (by show ¬ numB t2 q2 = true; rw [hnb]; decide)] at hstop
                  repeat (first | refine CR.seq ?_ | refine CR.region ?_ | refine R.zb ttok ?_ | refine R.zu ttok ?_ | refine R.zc ttok ?_ | refine R.za ttok ?_ | refine R.zx ?_ | refine R.zl ttok ?_ | refine R.zs ttok ?_ | refine R.z ttok ?_ | refine R.zk ?_ | refine R.zn ?_ | refine R.done ?_ | refine X.thenR ?_ | refine CR.block ?_ | refine CR.skip ?_ | refine CR.ret ?_ | refine CR.tru (by exact rfl) ?_ | refine CR.fls (by exact rfl) ?_ | refine X.pass_ret ?_ | refine X.pass_exit ?_ | refine X.block_normal ?_ | refine X.block_ret ?_ | refine X.block_exit ?_)
                  refine R.clP (refuse_panics (num : Nat)) Tryz.call21 rfl rfl ?_
                  repeat (first | refine X.pass_panic ?_ | refine X.block_panic ?_)
                  exact X.upP [] ⟨rem', num, ⟨head, false, nm, ar, cd, ln⟩, num, c, c2, (numV t2 q2 : Nat)⟩ (hstop rfl) rfl rfl rfl hS5_ rfl (fun w hf => ff_rot hf)
                | true =>
                  repeat (first | refine CR.seq ?_ | refine CR.region ?_ | refine R.zb ttok ?_ | refine R.zu ttok ?_ | refine R.zc ttok ?_ | refine R.za ttok ?_ | refine R.zx ?_ | refine R.zl ttok ?_ | refine R.zs ttok ?_ | refine R.z ttok ?_ | refine R.zk ?_ | refine R.zn ?_ | refine R.done ?_ | refine X.thenR ?_ | refine CR.block ?_ | refine CR.skip ?_ | refine CR.ret ?_ | refine CR.tru (by exact rfl) ?_ | refine CR.fls (by exact rfl) ?_ | refine X.pass_ret ?_ | refine X.pass_exit ?_ | refine X.block_normal ?_ | refine X.block_ret ?_ | refine X.block_exit ?_)
                  refine R.ix ttok 1 rfl rfl rfl rfl rfl (by kernel_rfl) rfl (by show 1 < 3; decide) (by show 1 < 3; decide) rfl ?_
                  repeat (first | refine CR.seq ?_ | refine CR.region ?_ | refine R.zb ttok ?_ | refine R.zu ttok ?_ | refine R.zc ttok ?_ | refine R.za ttok ?_ | refine R.zx ?_ | refine R.zl ttok ?_ | refine R.zs ttok ?_ | refine R.z ttok ?_ | refine R.zk ?_ | refine R.zn ?_ | refine R.done ?_ | refine X.thenR ?_ | refine CR.block ?_ | refine CR.skip ?_ | refine CR.ret ?_ | refine CR.tru (by exact rfl) ?_ | refine CR.fls (by exact rfl) ?_ | refine X.pass_ret ?_ | refine X.pass_exit ?_ | refine X.block_normal ?_ | refine X.block_ret ?_ | refine X.block_exit ?_)
                  refine R.ldt (v := .raw (.string t1)) ttok rfl rfl rfl rfl rfl (by kernel_rfl) (by show 1 < 3; decide) ?_
                  repeat (first | refine CR.seq ?_ | refine CR.region ?_ | refine R.zb ttok ?_ | refine R.zu ttok ?_ | refine R.zc ttok ?_ | refine R.za ttok ?_ | refine R.zx ?_ | refine R.zl ttok ?_ | refine R.zs ttok ?_ | refine R.z ttok ?_ | refine R.zk ?_ | refine R.zn ?_ | refine R.done ?_ | refine X.thenR ?_ | refine CR.block ?_ | refine CR.skip ?_ | refine CR.ret ?_ | refine CR.tru (by exact rfl) ?_ | refine CR.fls (by exact rfl) ?_ | refine X.pass_ret ?_ | refine X.pass_exit ?_ | refine X.block_normal ?_ | refine X.block_ret ?_ | refine X.block_exit ?_)
                  exact X.nextP (fsI := fun _ => dFact D :: fs) [] ⟨rem', num + 1, ⟨num, false, t1, numV t2 q2, cd, ln⟩, num, c, c2, 0⟩ (hgo _ c c2 (if_pos hnb) (by dsimp only; omega) hln (by dsimp only; omega) (fun n hn => Nat.le_succ_of_le (hls n hn)) hc1 hc1' hc2 hc2') ⟨hrem'.symm, rfl⟩ hr hpe rfl rfl hS5_ rfl hlb hfac (fun w hf => ff_swap hf) hfac2
          · rw [decide_eq_true (show ((W.length : Nat) : Int) ≠ 3 by omega)]
            rw [if_neg (by unfold isProc; rw [decide_eq_false h3]; simp)] at hstop
            repeat (first | refine CR.seq ?_ | refine CR.region ?_ | refine R.zb ttok ?_ | refine R.zu ttok ?_ | refine R.zc ttok ?_ | refine R.za ttok ?_ | refine R.zx ?_ | refine R.zl ttok ?_ | refine R.zs ttok ?_ | refine R.z ttok ?_ | refine R.zk ?_ | refine R.zn ?_ | refine R.done ?_ | refine X.thenR ?_ | refine CR.block ?_ | refine CR.skip ?_ | refine CR.ret ?_ | refine CR.tru (by exact rfl) ?_ | refine CR.fls (by exact rfl) ?_ | refine X.pass_ret ?_ | refine X.pass_exit ?_ | refine X.block_normal ?_ | refine X.block_ret ?_ | refine X.block_exit ?_)
            refine R.clP (refuse_panics (num : Nat)) Tryz.call21 rfl rfl ?_
            repeat (first | refine X.pass_panic ?_ | refine X.block_panic ?_)
            exact X.upP [] ⟨rem', num, ⟨head, false, nm, ar, cd, ln⟩, num, c, c2, ar⟩ (hstop rfl) rfl rfl rfl hS5_ rfl (fun w hf => ff_rot hf)
        · rw [decide_eq_false (show ¬ ((head : Nat) : Int) = 0 by omega)]
          rw [if_neg hh0] at hstop
          simp only [if_neg hh0] at hgo
          repeat (first | refine CR.seq ?_ | refine CR.region ?_ | refine R.zb ttok ?_ | refine R.zu ttok ?_ | refine R.zc ttok ?_ | refine R.za ttok ?_ | refine R.zx ?_ | refine R.zl ttok ?_ | refine R.zs ttok ?_ | refine R.z ttok ?_ | refine R.zk ?_ | refine R.zn ?_ | refine R.done ?_ | refine X.thenR ?_ | refine CR.block ?_ | refine CR.skip ?_ | refine CR.ret ?_ | refine CR.tru (by exact rfl) ?_ | refine CR.fls (by exact rfl) ?_ | refine X.pass_ret ?_ | refine X.pass_exit ?_ | refine X.block_normal ?_ | refine X.block_ret ?_ | refine X.block_exit ?_)
          refine R.cl [34] (is_spec W cw endT (by omega)) Tryz.call23 ((by exact HasIn.other rfl (fun e => by cases e) (fun ρ x w hh => tab_ro hh) .nil)) rfl rfl rfl (fun _ => rfl) rfl (by kernel_rfl) fun _ _ => ?_
          cases hend : isP W endT with
          | true =>
            repeat (first | refine CR.seq ?_ | refine CR.region ?_ | refine R.zb ttok ?_ | refine R.zu ttok ?_ | refine R.zc ttok ?_ | refine R.za ttok ?_ | refine R.zx ?_ | refine R.zl ttok ?_ | refine R.zs ttok ?_ | refine R.z ttok ?_ | refine R.zk ?_ | refine R.zn ?_ | refine R.done ?_ | refine X.thenR ?_ | refine CR.block ?_ | refine CR.skip ?_ | refine CR.ret ?_ | refine CR.tru (by exact rfl) ?_ | refine CR.fls (by exact rfl) ?_ | refine X.pass_ret ?_ | refine X.pass_exit ?_ | refine X.block_normal ?_ | refine X.block_ret ?_ | refine X.block_exit ?_)
            exact X.nextP (fsI := fun _ => dFact D :: fs) [] ⟨rem', num + 1, ⟨head, true, nm, ar, cd, ln⟩, num, c, c2, 0⟩ (hgo _ c c2 (if_pos hend) (by dsimp only; omega) hln (by dsimp only; omega) (fun n hn => Nat.le_succ_of_le (hls n hn)) hc1 hc1' hc2 hc2') ⟨hrem'.symm, rfl⟩ hr hpe rfl rfl hS5_ rfl hlb hfac (fun w hf => ff_swap hf) hfac2
          | false =>
            rw [if_neg (by rw [hend]; decide)] at hstop
            simp only [hend, Bool.false_eq_true, if_false] at hgo
            repeat (first | refine CR.seq ?_ | refine CR.region ?_ | refine R.zb ttok ?_ | refine R.zu ttok ?_ | refine R.zc ttok ?_ | refine R.za ttok ?_ | refine R.zx ?_ | refine R.zl ttok ?_ | refine R.zs ttok ?_ | refine R.z ttok ?_ | refine R.zk ?_ | refine R.zn ?_ | refine R.done ?_ | refine X.thenR ?_ | refine CR.block ?_ | refine CR.skip ?_ | refine CR.ret ?_ | refine CR.tru (by exact rfl) ?_ | refine CR.fls (by exact rfl) ?_ | refine X.pass_ret ?_ | refine X.pass_exit ?_ | refine X.block_normal ?_ | refine X.block_ret ?_ | refine X.block_exit ?_)
            refine R.clE [3, 4, 5, 6, 7, 8, 9, 10, 11, 12, 13, 14, 15, 16, 17, 18, 19, 20, 21, 22, 23, 24, 25, 34] (instr_spec W cw hW0 (by omega) hszW fs hG) [rFact lb { r with state := .busy }, dFact D, ⟨true, b0, ob⟩] (List.perm_append_comm (l₁ := [rFact lb { r with state := .busy }, dFact D, ⟨true, b0, ob⟩])) (Nat.zero_le _) (fun l hl => absurd hl (Nat.not_lt_zero l)) Tryz.call24 (by repeat (first | exact HasIn.nil | refine HasIn.roA rfl rfl ?_ | refine HasIn.row rfl (fun _ => rfl) rfl ?_ | refine HasIn.other rfl (fun e => by cases e) (fun ρ x w hh => cells_sg hh) ?_ | refine HasIn.other rfl (fun e => by cases e) (fun ρ x w hh => tab_ro hh) ?_)) rfl rfl rfl (fun _ => rfl) rfl (by kernel_rfl) fun xr hxr => ?_
            refine R.fperm (List.perm_append_comm (l₂ := [rFact lb { r with state := .busy }, dFact D, ⟨true, b0, ob⟩])) ?_
            obtain ⟨x, xo⟩ := xr
            have hxr : insG W (x, xo) := hxr
            unfold insG at hxr
            cases hip : insP W with
            | none =>
              rw [hip] at hxr hstop
              cases hxr
              repeat (first | refine CR.seq ?_ | refine CR.region ?_ | refine R.zb ttok ?_ | refine R.zu ttok ?_ | refine R.zc ttok ?_ | refine R.za ttok ?_ | refine R.zx ?_ | refine R.zl ttok ?_ | refine R.zs ttok ?_ | refine R.z ttok ?_ | refine R.zk ?_ | refine R.zn ?_ | refine R.done ?_ | refine X.thenR ?_ | refine CR.block ?_ | refine CR.skip ?_ | refine CR.ret ?_ | refine CR.tru (by exact rfl) ?_ | refine CR.fls (by exact rfl) ?_ | refine X.pass_ret ?_ | refine X.pass_exit ?_ | refine X.block_normal ?_ | refine X.block_ret ?_ | refine X.block_exit ?_)
              refine R.clP (refuse_panics (num : Nat)) Tryz.call21 rfl rfl ?_
              repeat (first | refine X.pass_panic ?_ | refine X.block_panic ?_)
              exact X.upP [] ⟨rem', num, ⟨head, false, nm, ar, cd, ln⟩, num, c, c2, ar⟩ (hstop rfl) rfl rfl rfl hS5_ rfl (fun w hf => ff_rot hf)
            | some y =>
              rw [hip] at hxr
              cases hxr
              simp only [hip] at hgo
              have hgo := fun c' c2' => hgo _ c' c2' rfl (by simp only [List.length_append, List.length_cons, List.length_nil]; omega) (by simp only [List.length_append, List.length_cons, List.length_nil]; omega) (by dsimp only; omega) (fun n hn => by
                rcases List.mem_append.1 hn with h | h
                · exact Nat.le_succ_of_le (hls n h)
                · rw [List.mem_singleton] at h; omega)
              have hlX : (cd ++ [x]).length = cd.length + 1 := by simp
              have hlN : (ln ++ [num]).length = ln.length + 1 := by simp
              repeat (first | refine CR.seq ?_ | refine CR.region ?_ | refine R.zb ttok ?_ | refine R.zu ttok ?_ | refine R.zc ttok ?_ | refine R.za ttok ?_ | refine R.zx ?_ | refine R.zl ttok ?_ | refine R.zs ttok ?_ | refine R.z ttok ?_ | refine R.zk ?_ | refine R.zn ?_ | refine R.done ?_ | refine X.thenR ?_ | refine CR.block ?_ | refine CR.skip ?_ | refine CR.ret ?_ | refine CR.tru (by exact rfl) ?_ | refine CR.fls (by exact rfl) ?_ | refine X.pass_ret ?_ | refine X.pass_exit ?_ | refine X.block_normal ?_ | refine X.block_ret ?_ | refine X.block_exit ?_)
              refine CR.anyhow (by kernel_rfl) (by kernel_rfl) ?_
              refine CW.either 4 7 (by kernel_rfl) ?_ ?_
              · refine CW.draw [[], [0], [], [2], [0, 1, 2, 3], [], [], [0, 1, 2, 3, 4, 6], [0, 1, 2, 3, 4, 5, 6, 7], [0, 1, 2, 3, 4], [0, 1, 2, 3, 4, 5, 6, 7, 8, 9], [0, 1, 2, 3, 4, 5, 6, 7, 8, 9, 10]] [3, 4, 7, 8, 10, 11] (by kernel_rfl) ?_
                repeat (first | refine CR.seq ?_ | refine CR.region ?_ | refine R.zb ttok ?_ | refine R.zu ttok ?_ | refine R.zc ttok ?_ | refine R.za ttok ?_ | refine R.zx ?_ | refine R.zl ttok ?_ | refine R.zs ttok ?_ | refine R.z ttok ?_ | refine R.zk ?_ | refine R.zn ?_ | refine R.done ?_ | refine X.thenR ?_ | refine CR.block ?_ | refine CR.skip ?_ | refine CR.ret ?_ | refine CR.tru (by exact rfl) ?_ | refine CR.fls (by exact rfl) ?_ | refine X.pass_ret ?_ | refine X.pass_exit ?_ | refine X.block_normal ?_ | refine X.block_ret ?_ | refine X.block_exit ?_)
                refine R.app (xs := inss cd) (news := inss [x]) ttok (fun c => tI (cd ++ [x]) c) rfl rfl (dstIns rfl) (SrcA.cells rfl rfl) (asIns _ _ _ (inss_app _ _).symm) rfl rfl rfl rfl rfl rfl (by decide) rfl rfl rfl (by kernel_rfl) hc1' (by show (cd.length + 1) * 72 ≤ _; omega) (by show cd.length + 1 ≤ _; omega) fun cB hB hB2 => ?_
                rw [← hlX] at hB ⊢
                repeat (first | refine CR.seq ?_ | refine CR.region ?_ | refine R.zb ttok ?_ | refine R.zu ttok ?_ | refine R.zc ttok ?_ | refine R.za ttok ?_ | refine R.zx ?_ | refine R.zl ttok ?_ | refine R.zs ttok ?_ | refine R.z ttok ?_ | refine R.zk ?_ | refine R.zn ?_ | refine R.done ?_ | refine X.thenR ?_ | refine CR.block ?_ | refine CR.skip ?_ | refine CR.ret ?_ | refine CR.tru (by exact rfl) ?_ | refine CR.fls (by exact rfl) ?_ | refine X.pass_ret ?_ | refine X.pass_exit ?_ | refine X.block_normal ?_ | refine X.block_ret ?_ | refine X.block_exit ?_)
                refine R.app (xs := nats ln) (news := nats [num]) ttok (fun c => tN (ln ++ [num]) c) rfl rfl (dstNats rfl) (SrcA.cells rfl rfl) (asNats _ _ _ (nats_app _ _).symm) rfl rfl rfl rfl rfl rfl (by decide) rfl rfl rfl (by kernel_rfl) hc2' (by show (ln.length + 1) * 8 ≤ _; omega) (by show ln.length + 1 ≤ _; omega) fun cC hC hC2 => ?_
                rw [← hlN] at hC ⊢
                repeat (first | refine CR.seq ?_ | refine CR.region ?_ | refine R.zb ttok ?_ | refine R.zu ttok ?_ | refine R.zc ttok ?_ | refine R.za ttok ?_ | refine R.zx ?_ | refine R.zl ttok ?_ | refine R.zs ttok ?_ | refine R.z ttok ?_ | refine R.zk ?_ | refine R.zn ?_ | refine R.done ?_ | refine X.thenR ?_ | refine CR.block ?_ | refine CR.skip ?_ | refine CR.ret ?_ | refine CR.tru (by exact rfl) ?_ | refine CR.fls (by exact rfl) ?_ | refine X.pass_ret ?_ | refine X.pass_exit ?_ | refine X.block_normal ?_ | refine X.block_ret ?_ | refine X.block_exit ?_)
                exact X.nextP (fsI := fun _ => dFact D :: fs) [(32, 37), (33, 39)] ⟨rem', num + 1, ⟨head, false, nm, ar, cd ++ [x], ln ++ [num]⟩, num, cB, cC, 0⟩ (hgo cB cC hB hB2 hC hC2) ⟨hrem'.symm, rfl⟩ hr hpe rfl rfl hS5_ rfl hlb hfac (fun w hf => ff_swap hf) hfac2
              · refine CW.either 3 7 (by kernel_rfl) ?_ ?_
                · refine CW.order [0, 1, 2, 3, 5, 6, 7, 4, 8, 9, 10, 11] [0, 1, 2, 3, 7, 4, 5, 6, 8, 9, 10, 11] (by kernel_rfl) ?_
                  refine CW.draw [[], [0], [], [2], [], [], [2, 3, 5], [0, 1, 2, 3, 5, 6], [0, 1, 2, 3, 4, 5, 6, 7], [0, 1, 2, 3, 5, 6, 7], [0, 1, 2, 3, 4, 5, 6, 7, 8, 9], [0, 1, 2, 3, 4, 5, 6, 7, 8, 9, 10]] [3, 6, 7, 8, 10, 11] (by kernel_rfl) ?_
                  repeat (first | refine CR.seq ?_ | refine CR.region ?_ | refine R.zb ttok ?_ | refine R.zu ttok ?_ | refine R.zc ttok ?_ | refine R.za ttok ?_ | refine R.zx ?_ | refine R.zl ttok ?_ | refine R.zs ttok ?_ | refine R.z ttok ?_ | refine R.zk ?_ | refine R.zn ?_ | refine R.done ?_ | refine X.thenR ?_ | refine CR.block ?_ | refine CR.skip ?_ | refine CR.ret ?_ | refine CR.tru (by exact rfl) ?_ | refine CR.fls (by exact rfl) ?_ | refine X.pass_ret ?_ | refine X.pass_exit ?_ | refine X.block_normal ?_ | refine X.block_ret ?_ | refine X.block_exit ?_)
                  refine R.app (xs := inss cd) (news := inss [x]) ttok (fun c => tI (cd ++ [x]) c) rfl rfl (dstIns rfl) (SrcA.cells rfl rfl) (asIns _ _ _ (inss_app _ _).symm) rfl rfl rfl rfl rfl rfl (by decide) rfl rfl rfl (by kernel_rfl) hc1' (by show (cd.length + 1) * 72 ≤ _; omega) (by show cd.length + 1 ≤ _; omega) fun cB hB hB2 => ?_
                  rw [← hlX] at hB ⊢
                  repeat (first | refine CR.seq ?_ | refine CR.region ?_ | refine R.zb ttok ?_ | refine R.zu ttok ?_ | refine R.zc ttok ?_ | refine R.za ttok ?_ | refine R.zx ?_ | refine R.zl ttok ?_ | refine R.zs ttok ?_ | refine R.z ttok ?_ | refine R.zk ?_ | refine R.zn ?_ | refine R.done ?_ | refine X.thenR ?_ | refine CR.block ?_ | refine CR.skip ?_ | refine CR.ret ?_ | refine CR.tru (by exact rfl) ?_ | refine CR.fls (by exact rfl) ?_ | refine X.pass_ret ?_ | refine X.pass_exit ?_ | refine X.block_normal ?_ | refine X.block_ret ?_ | refine X.block_exit ?_)
                  refine R.app (xs := nats ln) (news := nats [num]) ttok (fun c => tN (ln ++ [num]) c) rfl rfl (dstNats rfl) (SrcA.cells rfl rfl) (asNats _ _ _ (nats_app _ _).symm) rfl rfl rfl rfl rfl rfl (by decide) rfl rfl rfl (by kernel_rfl) hc2' (by show (ln.length + 1) * 8 ≤ _; omega) (by show ln.length + 1 ≤ _; omega) fun cC hC hC2 => ?_
                  rw [← hlN] at hC ⊢
                  repeat (first | refine CR.seq ?_ | refine CR.region ?_ | refine R.zb ttok ?_ | refine R.zu ttok ?_ | refine R.zc ttok ?_ | refine R.za ttok ?_ | refine R.zx ?_ | refine R.zl ttok ?_ | refine R.zs ttok ?_ | refine R.z ttok ?_ | refine R.zk ?_ | refine R.zn ?_ | refine R.done ?_ | refine X.thenR ?_ | refine CR.block ?_ | refine CR.skip ?_ | refine CR.ret ?_ | refine CR.tru (by exact rfl) ?_ | refine CR.fls (by exact rfl) ?_ | refine X.pass_ret ?_ | refine X.pass_exit ?_ | refine X.block_normal ?_ | refine X.block_ret ?_ | refine X.block_exit ?_)
                  exact X.nextP (fsI := fun _ => dFact D :: fs) [(32, 38), (33, 39)] ⟨rem', num + 1, ⟨head, false, nm, ar, cd ++ [x], ln ++ [num]⟩, num, cB, cC, 0⟩ (hgo cB cC hB hB2 hC hC2) ⟨hrem'.symm, rfl⟩ hr hpe rfl rfl hS5_ rfl hlb hfac (fun w hf => ff_swap hf) hfac2
                · refine CW.order [0, 1, 2, 5, 6, 7, 3, 4, 8, 9, 10, 11] [0, 1, 2, 6, 7, 3, 4, 5, 8, 9, 10, 11] (by kernel_rfl) ?_
                  refine CW.draw [[], [0], [], [], [], [4], [2, 4, 5], [0, 1, 2, 4, 5, 6], [0, 1, 2, 3, 4, 5, 6, 7], [0, 1, 2, 4, 5, 6, 7], [0, 1, 2, 3, 4, 5, 6, 7, 8, 9], [0, 1, 2, 3, 4, 5, 6, 7, 8, 9, 10]] [5, 6, 7, 8, 10, 11] (by kernel_rfl) ?_
                  repeat (first | refine CR.seq ?_ | refine CR.region ?_ | refine R.zb ttok ?_ | refine R.zu ttok ?_ | refine R.zc ttok ?_ | refine R.za ttok ?_ | refine R.zx ?_ | refine R.zl ttok ?_ | refine R.zs ttok ?_ | refine R.z ttok ?_ | refine R.zk ?_ | refine R.zn ?_ | refine R.done ?_ | refine X.thenR ?_ | refine CR.block ?_ | refine CR.skip ?_ | refine CR.ret ?_ | refine CR.tru (by exact rfl) ?_ | refine CR.fls (by exact rfl) ?_ | refine X.pass_ret ?_ | refine X.pass_exit ?_ | refine X.block_normal ?_ | refine X.block_ret ?_ | refine X.block_exit ?_)
                  refine R.app (xs := inss cd) (news := inss [x]) ttok (fun c => tI (cd ++ [x]) c) rfl rfl (dstIns rfl) (SrcA.cells rfl rfl) (asIns _ _ _ (inss_app _ _).symm) rfl rfl rfl rfl rfl rfl (by decide) rfl rfl rfl (by kernel_rfl) hc1' (by show (cd.length + 1) * 72 ≤ _; omega) (by show cd.length + 1 ≤ _; omega) fun cB hB hB2 => ?_
                  rw [← hlX] at hB ⊢
                  repeat (first | refine CR.seq ?_ | refine CR.region ?_ | refine R.zb ttok ?_ | refine R.zu ttok ?_ | refine R.zc ttok ?_ | refine R.za ttok ?_ | refine R.zx ?_ | refine R.zl ttok ?_ | refine R.zs ttok ?_ | refine R.z ttok ?_ | refine R.zk ?_ | refine R.zn ?_ | refine R.done ?_ | refine X.thenR ?_ | refine CR.block ?_ | refine CR.skip ?_ | refine CR.ret ?_ | refine CR.tru (by exact rfl) ?_ | refine CR.fls (by exact rfl) ?_ | refine X.pass_ret ?_ | refine X.pass_exit ?_ | refine X.block_normal ?_ | refine X.block_ret ?_ | refine X.block_exit ?_)
                  refine R.app (xs := nats ln) (news := nats [num]) ttok (fun c => tN (ln ++ [num]) c) rfl rfl (dstNats rfl) (SrcA.cells rfl rfl) (asNats _ _ _ (nats_app _ _).symm) rfl rfl rfl rfl rfl rfl (by decide) rfl rfl rfl (by kernel_rfl) hc2' (by show (ln.length + 1) * 8 ≤ _; omega) (by show ln.length + 1 ≤ _; omega) fun cC hC hC2 => ?_
                  rw [← hlN] at hC ⊢
                  repeat (first | refine CR.seq ?_ | refine CR.region ?_ | refine R.zb ttok ?_ | refine R.zu ttok ?_ | refine R.zc ttok ?_ | refine R.za ttok ?_ | refine R.zx ?_ | refine R.zl ttok ?_ | refine R.zs ttok ?_ | refine R.z ttok ?_ | refine R.zk ?_ | refine R.zn ?_ | refine R.done ?_ | refine X.thenR ?_ | refine CR.block ?_ | refine CR.skip ?_ | refine CR.ret ?_ | refine CR.tru (by exact rfl) ?_ | refine CR.fls (by exact rfl) ?_ | refine X.pass_ret ?_ | refine X.pass_exit ?_ | refine X.block_normal ?_ | refine X.block_ret ?_ | refine X.block_exit ?_)
                  exact X.nextP (fsI := fun _ => dFact D :: fs) [(32, 38), (33, 39)] ⟨rem', num + 1, ⟨head, false, nm, ar, cd ++ [x], ln ++ [num]⟩, num, cB, cC, 0⟩ (hgo cB cC hB hB2 hC hC2) ⟨hrem'.symm, rfl⟩ hr hpe rfl rfl hS5_ rfl hlb hfac (fun w hf => ff_swap hf) hfac2
  case hpanic =>
    rintro ⟨rem, num, p, last, c, c2, x0⟩ D hD hI
    dsimp only at hI ⊢
    repeat (first | refine X.pass_panic ?_ | refine X.block_panic ?_)
    have hpar : parseP (strB text) = .error (((num : Nat) : Int), 17) := by unfold parseP; rw [hI]
    refine X.finD [0, 1, 2, 32] (parse1_panic (num : Nat) 17 (p).nm x0 0 0 (.sl 3 8 0 (p).cd.length c) rfl) callParse1 (.inr ⟨_, rfl, rfl⟩) rfl rfl rfl rfl (by repeat (first | exact HasIn.nil | refine HasIn.same rfl rfl ?_ | refine HasIn.any rfl ?_ | refine HasIn.other rfl (fun e => by cases e) (fun ρ x w hh => tab_any hh) ?_)) rfl (fun _ => rfl) rfl hD hfc fun _ _ => ?_
    refine X.unpin (E := ⟨0, ρ, []⟩) (Nat.zero_le _) (fun l hl => absurd hl (Nat.not_lt_zero l)) ?_
    refine X.noneH 0 [.raw (.string ⟨#[]⟩), .raw (.int .i64 0), .sl 34 8 0 0 0] (tI [] 0) (none_tab _ _ _ _) rfl rfl rfl (fun ρ h => by have h : ρ 34 = none := h; show _ = AV.concs ρ [.raw (.string ⟨#[]⟩), .raw (.int .i64 0), .raw (.slice none 0 0)]; simp [AV.concs, AV.conc, h]) ?_
    refine X.finN ttok (⟨noT0, 0, [], 0, (num : Nat), 17⟩ : PV) [(0, 34)] ⟨by rw [hpar]; exact ⟨rfl, rfl, rfl, rfl, rfl⟩, Nat.le_refl _, Nat.zero_le _⟩ rfl rfl (by kernel_rfl) hS5_ _ (.inl rfl) (fun w hf => hf.ap) (fun p hp => hp) ?_
    exact fun p hp e => absurd e (by rw [hG.ro p hp]; decide)
  case hdone =>
    rintro ⟨rem, num, ⟨head, ended, nm, ar, cd, ln⟩, last, c, c2, x0⟩ D hD ⟨hrun, hnum, hcnt, hszN, hlast, hcd, hln, hhd, hls, ⟨hc1, hc1'⟩, ⟨hc2, hc2'⟩⟩ hfin
    dsimp only at hrun hnum hcnt hszN hlast hcd hln hhd hls hc1 hc1' hc2 hc2' hfin ⊢
    rw [hfin, linesL_nil] at hrun hcnt
    rw [List.length_nil, Nat.add_zero] at hcnt
    have hpar : parseP (strB text) = endP ⟨head, ended, nm, ar, cd, ln⟩ (linesL (strB text)).length := by unfold parseP; rw [hrun]; rfl
    rw [← hcnt] at hpar
    unfold endP at hpar
    dsimp only at hpar
    rw [← hlast] at hpar
    refine X.block_normal ?_
    refine X.thenA (CA.of ?_)
    cases ended with
    | false =>
      rw [if_pos rfl] at hpar
      refine sS_ ?_
      refine R.clP (refuse_panics (last : Nat)) Tryz.call21 rfl rfl ?_
      repeat (first | refine X.pass_panic ?_ | refine X.block_panic ?_)
      refine X.finD [0, 1, 2, 32] (parse1_panic (last : Nat) 17 ((⟨head, false, nm, ar, cd, ln⟩ : PR)).nm (ar : Nat) 0 0 (.sl 3 8 0 ((⟨head, false, nm, ar, cd, ln⟩ : PR)).cd.length c) rfl) callParse1 (.inr ⟨_, rfl, rfl⟩) rfl rfl rfl rfl (by repeat (first | exact HasIn.nil | refine HasIn.same rfl rfl ?_ | refine HasIn.any rfl ?_ | refine HasIn.other rfl (fun e => by cases e) (fun ρ x w hh => tab_any hh) ?_)) rfl (fun _ => rfl) rfl hD hfc fun _ _ => ?_
      refine X.unpin (E := ⟨0, ρ, []⟩) (Nat.zero_le _) (fun l hl => absurd hl (Nat.not_lt_zero l)) ?_
      refine X.noneH 0 [.raw (.string ⟨#[]⟩), .raw (.int .i64 0), .sl 34 8 0 0 0] (tI [] 0) (none_tab _ _ _ _) rfl rfl rfl (fun ρ h => by have h : ρ 34 = none := h; show _ = AV.concs ρ [.raw (.string ⟨#[]⟩), .raw (.int .i64 0), .raw (.slice none 0 0)]; simp [AV.concs, AV.conc, h]) ?_
      refine X.finN ttok (⟨noT0, 0, [], 0, (last : Nat), 17⟩ : PV) [(0, 34)] ⟨by rw [hpar]; exact ⟨rfl, rfl, rfl, rfl, rfl⟩, Nat.le_refl _, Nat.zero_le _⟩ rfl rfl (by kernel_rfl) hS5_ _ (.inl rfl) (fun w hf => hf.ap) (fun p hp => hp) ?_
      exact fun p hp e => absurd e (by rw [hG.ro p hp]; decide)
    | true =>
      rw [if_neg (show ¬ (true = false) from fun h => by cases h)] at hpar
      have hlt := @chkP_lt nm (ar : Nat) cd
      refine sS_ ?_
      refine R.cl [32] (checkP_spec nm (ar : Nat) cd 0 c (by omega)) Tryz.call15 ((by exact HasIn.other rfl (fun e => by cases e) (fun ρ x w hh => tab_ro hh) .nil)) rfl rfl rfl (fun _ => rfl) rfl (by kernel_rfl) fun _ _ => ?_
      obtain ⟨k, hk⟩ : ∃ k, chkP nm (ar : Nat) cd = k := ⟨_, rfl⟩
      rw [hk] at hpar hlt ⊢
      obtain ⟨i, e⟩ := k
      dsimp only at hpar hlt ⊢
      refine sS_ ?_
      by_cases he : e = 0
      · subst he
        rw [if_pos rfl] at hpar
        rw [show decide ((0 : Int) ≠ 0) = false from rfl]
        refine sS_ ?_
        refine X.finD [0, 1, 2] parse1_ret callParse1 (.inl ⟨.inl rfl, rfl⟩) rfl rfl rfl rfl (by repeat (first | exact HasIn.nil | refine HasIn.same rfl rfl ?_ | refine HasIn.any rfl ?_ | refine HasIn.other rfl (fun e => by cases e) (fun ρ x w hh => tab_any hh) ?_)) rfl (fun _ => rfl) rfl hD hfc fun _ _ => ?_
        refine X.unpin (E := ⟨0, ρ, []⟩) (Nat.zero_le _) (fun l hl => absurd hl (Nat.not_lt_zero l)) ?_
        refine X.finN ttok (⟨nm, (ar : Nat), cd, c, 0, 0⟩ : PV) [(0, 32)] ⟨by rw [hpar]; exact ⟨rfl, rfl, rfl, rfl, rfl⟩, hc1, hc1'⟩ rfl rfl (by kernel_rfl) hS5_ _ (.inl rfl) (fun w hf => hf.ap) (fun p hp => hp) ?_
        exact fun p hp e => absurd e (by rw [hG.ro p hp]; decide)
      · rw [if_neg he] at hpar
        rw [decide_eq_true (show e ≠ 0 from he)]
        refine sS_ ?_
        by_cases hi : 0 ≤ i
        · rw [decide_eq_true (show i ≥ 0 from hi)]
          rw [if_pos hi] at hpar
          have hlt := hlt he hi
          rw [← hln] at hlt
          refine sS_ ?_
          refine R.ix ttok i.toNat rfl rfl rfl rfl rfl (by kernel_rfl) (by omega) hlt (by show 0 + i.toNat < ln.length; omega) rfl ?_
          refine R.ldt (v := .raw (.int .i64 (ln.getD (0 + i.toNat) 0 : Nat))) ttok rfl rfl rfl rfl rfl (by kernel_rfl) (by show 0 + i.toNat < ln.length; omega) ?_
          rw [show ln.getD (0 + i.toNat) 0 = ln.getD i.toNat 0 by rw [Nat.zero_add]]
          refine sS_ ?_
          refine R.mki (.agg #[.int .i64 (ln.getD i.toNat 0 : Nat), .int .i64 e]) rfl (fun ρ => rfl) (Tryz.underlying50) (fun ms h => by cases h) rfl (by kernel_rfl) ?_
          refine sS_ ?_
          refine R.pan rfl rfl ?_
          repeat (first | refine X.pass_panic ?_ | refine X.block_panic ?_)
          refine X.finD [0, 1, 2, 32] (parse1_panic (ln.getD i.toNat 0 : Nat) e ((⟨head, true, nm, ar, cd, ln⟩ : PR)).nm (ar : Nat) 0 0 (.sl 3 8 0 ((⟨head, true, nm, ar, cd, ln⟩ : PR)).cd.length c) rfl) callParse1 (.inr ⟨_, rfl, rfl⟩) rfl rfl rfl rfl (by repeat (first | exact HasIn.nil | refine HasIn.same rfl rfl ?_ | refine HasIn.any rfl ?_ | refine HasIn.other rfl (fun e => by cases e) (fun ρ x w hh => tab_any hh) ?_)) rfl (fun _ => rfl) rfl hD hfc fun _ _ => ?_
          refine X.unpin (E := ⟨0, ρ, []⟩) (Nat.zero_le _) (fun l hl => absurd hl (Nat.not_lt_zero l)) ?_
          refine X.noneH 0 [.raw (.string ⟨#[]⟩), .raw (.int .i64 0), .sl 34 8 0 0 0] (tI [] 0) (none_tab _ _ _ _) rfl rfl rfl (fun ρ h => by have h : ρ 34 = none := h; show _ = AV.concs ρ [.raw (.string ⟨#[]⟩), .raw (.int .i64 0), .raw (.slice none 0 0)]; simp [AV.concs, AV.conc, h]) ?_
          refine X.finN ttok (⟨noT0, 0, [], 0, (ln.getD i.toNat 0 : Nat), e⟩ : PV) [(0, 34)] ⟨by rw [hpar]; exact ⟨rfl, rfl, rfl, rfl, rfl⟩, Nat.le_refl _, Nat.zero_le _⟩ rfl rfl (by kernel_rfl) hS5_ _ (.inl rfl) (fun w hf => hf.ap) (fun p hp => hp) ?_
          exact fun p hp e => absurd e (by rw [hG.ro p hp]; decide)
        · rw [decide_eq_false (show ¬ i ≥ 0 from hi)]
          rw [if_neg hi] at hpar
          refine sS_ ?_
          refine R.mki (.agg #[.int .i64 (head : Nat), .int .i64 e]) rfl (fun ρ => rfl) (Tryz.underlying50) (fun ms h => by cases h) rfl (by kernel_rfl) ?_
          refine sS_ ?_
          refine R.pan rfl rfl ?_
          repeat (first | refine X.pass_panic ?_ | refine X.block_panic ?_)
          refine X.finD [0, 1, 2, 32] (parse1_panic (head : Nat) e ((⟨head, true, nm, ar, cd, ln⟩ : PR)).nm (ar : Nat) 0 0 (.sl 3 8 0 ((⟨head, true, nm, ar, cd, ln⟩ : PR)).cd.length c) rfl) callParse1 (.inr ⟨_, rfl, rfl⟩) rfl rfl rfl rfl (by repeat (first | exact HasIn.nil | refine HasIn.same rfl rfl ?_ | refine HasIn.any rfl ?_ | refine HasIn.other rfl (fun e => by cases e) (fun ρ x w hh => tab_any hh) ?_)) rfl (fun _ => rfl) rfl hD hfc fun _ _ => ?_
          refine X.unpin (E := ⟨0, ρ, []⟩) (Nat.zero_le _) (fun l hl => absurd hl (Nat.not_lt_zero l)) ?_
          refine X.noneH 0 [.raw (.string ⟨#[]⟩), .raw (.int .i64 0), .sl 34 8 0 0 0] (tI [] 0) (none_tab _ _ _ _) rfl rfl rfl (fun ρ h => by have h : ρ 34 = none := h; show _ = AV.concs ρ [.raw (.string ⟨#[]⟩), .raw (.int .i64 0), .raw (.slice none 0 0)]; simp [AV.concs, AV.conc, h]) ?_
          refine X.finN ttok (⟨noT0, 0, [], 0, (head : Nat), e⟩ : PV) [(0, 34)] ⟨by rw [hpar]; exact ⟨rfl, rfl, rfl, rfl, rfl⟩, Nat.le_refl _, Nat.zero_le _⟩ rfl rfl (by kernel_rfl) hS5_ _ (.inl rfl) (fun w hf => hf.ap) (fun p hp => hp) ?_
          exact fun p hp e => absurd e (by rw [hG.ro p hp]; decide)
end Go.Proofs.YtaieficgifingaaGreatDoor
namespace Go.Proofs.YtaieficgifingaaGreatDoor
set_option linter.unusedVariables false
set_option linter.unusedSimpArgs false
open Go.RowKit
set_option maxRecDepth 100000
set_option maxHeartbeats 8000000
theorem check6_spec (nm : ByteArray) (ar : Int) (L : List Ins) (o c : Nat) (hL : L.length ≤ 1000000) : Spec Tryz.prog 29 [.agg (prA nm ar (.sl 0 8 o L.length c))] [roI o L] 1 (σ := Unit) (fun _ => True) (fun _ => .tup [.raw (.int .i64 (chkP nm ar L).1), .raw (.int .i64 (chkP nm ar L).2)]) (fun _ => []) := by
  refine Spec.of Tryz.func29 rfl Tryz.ntmps29 rfl (bdl_cons (fun _ _ => rfl) (bdl_nil _)) fun ρ w => ?_
  refine sS_ ?_
  refine R.cl [] (isNameR_spec nm) Tryz.call68 hS6_ rfl rfl rfl (fun _ => rfl) rfl (by kernel_rfl) fun _ _ => ?_
  cases hn : nameP (strB nm) with
  | false =>
    rw [show chkP nm ar L = (-1, 5) by unfold chkP; rw [hn, if_pos rfl]]
    refine sS_ ?_
    refine X.fin ttok () [] trivial rfl rfl rfl hS4_ _ (by first | exact .inl rfl | exact .inr rfl)
  | true =>
    refine sS_ ?_
    by_cases ha : ar < 0
    · rw [decide_eq_true ha]
      rw [show chkP nm ar L = (-1, 1) by unfold chkP; rw [hn, if_neg (by decide), if_pos (.inl ha)]]
      refine sS_ ?_
      refine X.fin ttok () [] trivial rfl rfl rfl hS4_ _ (by first | exact .inl rfl | exact .inr rfl)
    · rw [decide_eq_false ha]
      refine sS_ ?_
      by_cases hb : 16 < ar
      · rw [decide_eq_true (show ar > 16 from hb)]
        rw [show chkP nm ar L = (-1, 1) by unfold chkP; rw [hn, if_neg (by decide), if_pos (.inr hb)]]
        refine sS_ ?_
        refine X.fin ttok () [] trivial rfl rfl rfl hS4_ _ (by first | exact .inl rfl | exact .inr rfl)
      · rw [decide_eq_false (show ¬ ar > 16 from hb)]
        have hab : ¬ (ar < 0 ∨ 16 < ar) := by omega
        refine sS_ ?_
        by_cases hl : 64 < L.length
        · rw [decide_eq_true (show ((L.length : Nat) : Int) > 64 by omega)]
          rw [show chkP nm ar L = (-1, 4) by unfold chkP; rw [hn, if_neg (by decide), if_neg hab, if_pos hl]]
          refine sS_ ?_
          refine X.fin ttok () [] trivial rfl rfl rfl hS4_ _ (by first | exact .inl rfl | exact .inr rfl)
        · rw [decide_eq_false (show ¬ ((L.length : Nat) : Int) > 64 by omega)]
          rw [show chkP nm ar L = chkL ar L by unfold chkP; rw [hn, if_neg (by decide), if_neg hab, if_neg hl]]
          refine sS_ ?_
          refine C.loop (σ := Nat) (L2 := 2) (fun i => i ≤ L.length ∧ ∀ j, j < i → badI ar L j = false) (fun i => [(1, .ptr 1 0 0 0), (5, .raw (.int .i64 (i : Nat)))]) (fun _ => [(0, roI o L), (1, .cells (prA nm ar (.sl 0 8 o L.length c)) 25)]) _ (fun i => L.length - i) [] 0 ⟨Nat.zero_le _, fun j h => absurd h (Nat.not_lt_zero j)⟩ rfl hS7_ hS5_ rfl (fun _ h => h) ?_
          rintro i ⟨hi, hd⟩
          refine sS_ ?_
          by_cases hlt : i < L.length
          · rw [decide_eq_true (show ((i : Nat) : Int) < (L.length : Nat) by omega)]
            refine sS_ ?_
            refine R.cl [0] (instr6_spec nm ar L o c i hL hlt (fun _ _ => trivial)) Tryz.call69 ((by exact HasIn.same rfl rfl .nil)) rfl rfl rfl (fun _ => rfl) rfl (by kernel_rfl) fun _ _ => ?_
            obtain ⟨e, he⟩ : ∃ e, insE ar L.length i (L.getD i insD) = e := ⟨_, rfl⟩
            rw [he]
            refine sS_ ?_
            by_cases h0 : e = 0
            · rw [decide_eq_false (show ¬ e ≠ 0 from fun h => h h0)]
              refine sS_ ?_
              exact X.back [] (i + 1) ⟨hlt, fun j hj => (by
                rcases Nat.lt_or_ge j i with h | h
                · exact hd j h
                · obtain rfl : j = i := by omega
                  unfold badI
                  rw [he]
                  exact decide_eq_false (fun h => h h0))⟩ (by omega) rfl hS7_ hS5_ rfl (fun _ h => h)
            · rw [decide_eq_true (show e ≠ 0 from h0)]
              rw [chk_at hlt hd (by unfold badI; rw [he]; exact decide_eq_true h0), he]
              refine sS_ ?_
              refine X.fin ttok () [] trivial rfl rfl rfl hS4_ _ (by first | exact .inl rfl | exact .inr rfl)
          · rw [decide_eq_false (show ¬ ((i : Nat) : Int) < (L.length : Nat) by omega)]
            rw [chk_no fun j hj => hd j (by omega)]
            refine sS_ ?_
            refine X.fin ttok () [] trivial rfl rfl rfl hS4_ _ (by first | exact .inl rfl | exact .inr rfl)
theorem linesL_mem : ∀ (k : Nat) (l : List UInt8), l.length ≤ k → ∀ x ∈ linesL l, x.length ≤ l.length
  | 0, l, h, x, hx => by
    obtain rfl : l = [] := List.length_eq_zero_iff.1 (by omega)
    rw [linesL_nil] at hx
    cases hx
  | k + 1, l, h, x, hx => by
    by_cases h0 : l = []
    · subst h0; rw [linesL_nil] at hx; cases hx
    · rw [linesL_cons h0] at hx
      have h1 := lineB_lt h0
      rcases List.mem_cons.1 hx with rfl | hx
      · unfold lineA; rw [List.length_take]; omega
      · have := linesL_mem k (lineB l) (by omega) x hx
        omega
structure PT where
  i : Nat
  p : PR
  c : Nat
  c2 : Nat
/-- the loop's states -/
structure PT.ok (t : List UInt8) (s : PT) : Prop where
  le : s.i ≤ (linesL t).length
  run : runL (linesL t) 1 pr0 = runL ((linesL t).drop s.i) (s.i + 1) s.p
  cd : s.p.cd.length ≤ s.i
  ln : s.p.ln.length = s.p.cd.length
  hd : s.p.head ≤ s.i
  c1 : s.p.cd.length ≤ s.c ∧ s.c ≤ 9223372036854775807
  c2 : s.p.ln.length ≤ s.c2 ∧ s.c2 ≤ 9223372036854775807
abbrev nilP : AO := .cells (prA ⟨#[]⟩ 0 (.raw (.slice none 0 0))) 25
theorem parseR_spec (text : ByteArray) (hsz : text.size ≤ 100000) : Spec Tryz.prog 9 [.raw (.string text)] [] 1 (σ := PV) (parseG (strB text)) (fun r => .tup [.agg (prA r.nm r.ar (.sl 0 8 0 r.cd.length r.c)), .raw (.int .i64 r.line), .raw (.int .i64 r.e)]) (fun r => [(0, tI r.cd r.c)]) := by
  refine Spec.of Tryz.func9 rfl Tryz.ntmps9 rfl (bdl_nil _) fun ρ w => ?_
  have hlen := strB_size text
  obtain ⟨t, ht⟩ : ∃ t, strB text = t := ⟨_, rfl⟩
  have hllen := linesL_len t.length t (Nat.le_refl _)
  rw [ht] at hlen ⊢
  refine sS_ ?_
  refine R.cl [] (linesR_spec text (by omega)) Tryz.call25 hS6_ rfl rfl rfl (fun _ => rfl) rfl (by kernel_rfl) fun cl hcl => ?_
  rw [ht] at hcl ⊢
  obtain ⟨lns, hlns⟩ : ∃ lns, (linesL t).map strOf = lns := ⟨_, rfl⟩
  have hlnl : lns.length = (linesL t).length := by rw [← hlns, List.length_map]
  rw [hlns]
  repeat (first | refine R.zb ttok ?_ | refine R.zu ttok ?_ | refine R.zc ttok ?_ | refine R.za ttok ?_ | refine R.zx ?_ | refine R.zl ttok ?_ | refine R.zs ttok ?_ | refine R.z ttok ?_ | refine R.zk ?_ | refine R.zn ?_)
  refine R.done ?_
  refine X.then ?_
  refine C.seq ?_
  refine C.region ?_
  repeat (first | refine R.zb ttok ?_ | refine R.zu ttok ?_ | refine R.zc ttok ?_ | refine R.za ttok ?_ | refine R.zx ?_ | refine R.zl ttok ?_ | refine R.zs ttok ?_ | refine R.z ttok ?_ | refine R.zk ?_ | refine R.zn ?_)
  refine R.done ?_
  refine X.then ?_
  refine C.noneH 2 [.raw (.string ⟨#[]⟩), .raw (.int .i64 0), .sl 3 8 0 0 0] (tI [] 0) (none_tab _ _ _ _) rfl rfl rfl (fun ρ h => by have h : ρ 3 = none := h; show _ = AV.concs ρ [.raw (.string ⟨#[]⟩), .raw (.int .i64 0), .raw (.slice none 0 0)]; simp [AV.concs, AV.conc, h]) ?_
  refine C.seq ?_
  refine C.region ?_
  repeat (first | refine R.zb ttok ?_ | refine R.zu ttok ?_ | refine R.zc ttok ?_ | refine R.za ttok ?_ | refine R.zx ?_ | refine R.zl ttok ?_ | refine R.zs ttok ?_ | refine R.z ttok ?_ | refine R.zk ?_ | refine R.zn ?_)
  refine R.done ?_
  refine X.then ?_
  refine C.noneT 7 (.sl 4 1 0 0 0) (tN [] 0) (none_tab _ _ _ _) rfl rfl rfl (fun ρ h => sl_none h) ?_
  refine sS_ ?_
  refine C.loop (σ := PT) (L2 := 5) (PT.ok t) (fun s => [(2, .ptr 0 0 0 0), (5, .sl 1 1 0 lns.length cl), (6, .ptr 2 0 0 0), (7, .sl 4 1 0 s.p.ln.length s.c2), (8, .raw (.int .i64 (s.p.head : Nat))), (9, .raw (.bool s.p.ended)), (10, .raw (.int .i64 (s.i : Nat)))])
    (fun s => [(0, nilP), (1, roTx lns), (2, .cells (prA s.p.nm (s.p.ar : Nat) (.sl 3 8 0 s.p.cd.length s.c)) 25), (3, tI s.p.cd s.c), (4, tN s.p.ln s.c2)]) _ (fun s => (linesL t).length - s.i) [] ⟨0, pr0, 0, 0⟩ ⟨Nat.zero_le _, rfl, Nat.le_refl _, rfl, Nat.le_refl _, ⟨Nat.le_refl _, Nat.zero_le _⟩, ⟨Nat.le_refl _, Nat.zero_le _⟩⟩ rfl hS7_ (.same rfl rfl rfl rfl (.other rfl (fun e => by cases e) (fun ρ x w hh => tab_ro hh) rfl (fun _ _ => rfl) hS5_)) rfl (fun _ h => h) ?_
  rintro ⟨i, ⟨head, ended, nm, ar, cd, ln⟩, c, c2⟩ ⟨hle, hrun, hcd, hln, hhd, ⟨hc1, hc1'⟩, ⟨hc2, hc2'⟩⟩
  dsimp only at hle hrun hcd hln hhd hc1 hc1' hc2 hc2' ⊢
  refine sS_ ?_
  by_cases hlt : i < (linesL t).length
  · rw [decide_eq_true (show ((i : Nat) : Int) < (lns.length : Nat) by omega)]
    obtain ⟨l, hl⟩ : ∃ l, (linesL t)[i] = l := ⟨_, rfl⟩
    rw [List.drop_eq_getElem_cons hlt, hl] at hrun
    have hlm : l.length ≤ 100000 := by
      have := linesL_mem t.length t (Nat.le_refl _) l (by rw [← hl]; exact List.getElem_mem _)
      omega
    have hget : lns.getD i noT0 = strOf l := by
      rw [← hlns, List.getD_eq_getElem?_getD, List.getElem?_map, List.getElem?_eq_getElem hlt, hl]
      rfl
    have hA : txF lns i = [.raw (.string (strOf l))] := by unfold txF; rw [hget]
    have hstop : stepL ⟨head, ended, nm, ar, cd, ln⟩ (i + 1) l = none → parseP t = .error (((i : Nat) : Int) + 1, 17) := fun h => by
      unfold parseP
      rw [hrun, run_err h]
      rfl
    have hgo : ∀ (p' : PR) (c' c2' : Nat), stepL ⟨head, ended, nm, ar, cd, ln⟩ (i + 1) l = some p' → p'.cd.length ≤ i + 1 → p'.ln.length = p'.cd.length → p'.head ≤ i + 1 → p'.cd.length ≤ c' → c' ≤ 9223372036854775807 → p'.ln.length ≤ c2' → c2' ≤ 9223372036854775807 → PT.ok t ⟨i + 1, p', c', c2'⟩ := fun p' c' c2' h g1 g2 g3 g5 g6 g7 g8 =>
      ⟨hlt, hrun.trans (run_on h), g1, g2, g3, ⟨g5, g6⟩, ⟨g7, g8⟩⟩
    have hilt : i + 1 ≤ 100000 := by omega
    refine sS_ ?_
    refine R.ix ttok i rfl rfl rfl rfl rfl (by kernel_rfl) rfl (by omega) ⟨Nat.zero_le _, by omega⟩ rfl ?_
    refine R.ldo (v := .raw (.string (strOf l))) ttok rfl rfl rfl (by rw [hA]; rfl) rfl (by kernel_rfl) (by omega) ?_
    refine R.cl [] (wordsR_spec (strOf l) (by rw [← strB_size]; show l.length ≤ _; omega)) Tryz.call26 hS6_ rfl rfl rfl (fun _ => rfl) rfl (by kernel_rfl) fun rw hrw => ?_
    have hrw : wordsG l rw := hrw
    obtain ⟨W, cw, okw⟩ := rw
    obtain ⟨hw1, hw2, hw3, hw4⟩ := hrw
    dsimp only at hw1 hw2 hw3 hw4 ⊢
    cases hwl : wordsP l with
    | none =>
      rw [hwl] at hw1
      obtain ⟨rfl, rfl⟩ := hw1
      refine sS_ ?_
      refine X.less [] 1 [(2, .ptr 0 0 0 0), (3, .raw (.int .i64 (((i : Nat) : Int) + 1))), (4, .raw (.int .i64 (17)))] [(0, nilP)] _ rfl hS7_ hS5_ rfl (fun _ h => h) ?_
      refine X.noneH 0 [.raw (.string ⟨#[]⟩), .raw (.int .i64 0), .sl 1 8 0 0 0] (tI [] 0) (none_tab _ _ _ _) rfl rfl rfl (fun ρ h => by have h : ρ 1 = none := h; show _ = AV.concs ρ [.raw (.string ⟨#[]⟩), .raw (.int .i64 0), .raw (.slice none 0 0)]; simp [AV.concs, AV.conc, h]) ?_
      refine X.fin ttok (⟨noT0, 0, [], 0, ((i : Nat) : Int) + 1, 17⟩ : PV) [(0, 1)] ⟨by rw [hstop (by unfold stepL; rw [hwl])]; exact ⟨rfl, rfl, rfl, rfl, rfl⟩, Nat.le_refl _, Nat.zero_le _⟩ rfl rfl rfl hS4_ _ (by first | exact .inl rfl | exact .inr rfl)
    | some ws =>
      rw [hwl] at hw1
      obtain ⟨hW, rfl⟩ := hw1
      have hst : stepL ⟨head, ended, nm, ar, cd, ln⟩ (i + 1) l = stepW ⟨head, ended, nm, ar, cd, ln⟩ (i + 1) W := by unfold stepL; rw [hwl, hW]
      rw [hst] at hstop
      simp only [hst] at hgo
      by_cases hW0 : W = []
      · have hl0 : W.length = 0 := by rw [hW0]; rfl
        refine sS_ ?_
        rw [decide_eq_true (show ((W.length : Nat) : Int) = 0 by omega)]
        refine sS_ ?_
        exact X.back [] ⟨i + 1, ⟨head, ended, nm, ar, cd, ln⟩, c, c2⟩ (hgo _ c c2 (by unfold stepW; rw [if_pos hW0]) (by dsimp only; omega) hln (by dsimp only; omega) hc1 hc1' hc2 hc2') (by dsimp only; omega) rfl hS7_ hS5_ rfl (fun _ h => h)
      have hWp := List.length_pos_iff.2 hW0
      have hszW : ∀ p ∈ W, p.1.size ≤ 1000000 := fun p hp => by
        have := wsOf_sz hwl p (by rw [← hW]; exact hp)
        omega
      refine sS_ ?_
      rw [decide_eq_false (show ¬ ((W.length : Nat) : Int) = 0 by omega)]
      refine sS_ ?_
      cases ended with
      | true =>
        refine sS_ ?_
        refine X.less [] 1 [(2, .ptr 0 0 0 0), (3, .raw (.int .i64 (((i : Nat) : Int) + 1))), (4, .raw (.int .i64 (17)))] [(0, nilP)] _ rfl hS7_ hS5_ rfl (fun _ h => h) ?_
        refine X.noneH 0 [.raw (.string ⟨#[]⟩), .raw (.int .i64 0), .sl 1 8 0 0 0] (tI [] 0) (none_tab _ _ _ _) rfl rfl rfl (fun ρ h => by have h : ρ 1 = none := h; show _ = AV.concs ρ [.raw (.string ⟨#[]⟩), .raw (.int .i64 0), .raw (.slice none 0 0)]; simp [AV.concs, AV.conc, h]) ?_
        refine X.fin ttok (⟨noT0, 0, [], 0, ((i : Nat) : Int) + 1, 17⟩ : PV) [(0, 1)] ⟨by rw [hstop (by unfold stepW; rw [if_neg hW0, if_pos rfl])]; exact ⟨rfl, rfl, rfl, rfl, rfl⟩, Nat.le_refl _, Nat.zero_le _⟩ rfl rfl rfl hS4_ _ (by first | exact .inl rfl | exact .inr rfl)
      | false =>
        have hs1 : stepW ⟨head, false, nm, ar, cd, ln⟩ (i + 1) W = if head = 0 then (if isProc W = true then (if numB (W.getD 2 wdD).1 (W.getD 2 wdD).2 = true then some { (⟨head, false, nm, ar, cd, ln⟩ : PR) with nm := (W.getD 1 wdD).1, ar := numV (W.getD 2 wdD).1 (W.getD 2 wdD).2, head := i + 1 } else none) else none) else (if isP W endT = true then some ⟨head, true, nm, ar, cd, ln⟩ else match insP W with
            | some x => some ⟨head, false, nm, ar, cd ++ [x], ln ++ [i + 1]⟩
            | none => none) := by
          unfold stepW
          rw [if_neg hW0, if_neg (show ¬ (false = true) from Bool.false_ne_true)]
          first | rfl | (dsimp only; cases insP W <;> rfl)
        rw [hs1] at hstop
        simp only [hs1] at hgo
        clear hs1
        refine sS_ ?_
        by_cases hh0 : head = 0
        · rw [decide_eq_true (show ((head : Nat) : Int) = 0 by omega)]
          rw [if_pos hh0] at hstop
          simp only [if_pos hh0] at hgo
          refine sS_ ?_
          by_cases h3 : W.length = 3
          · rw [decide_eq_false (show ¬ ((W.length : Nat) : Int) ≠ 3 by omega)]
            obtain ⟨p0, p1, p2, rfl⟩ : ∃ p0 p1 p2, W = [p0, p1, p2] := by
              match W, h3 with
              | [a, b, c], _ => exact ⟨a, b, c, rfl⟩
            obtain ⟨t0, q0⟩ := p0
            obtain ⟨t1, q1⟩ := p1
            obtain ⟨t2, q2⟩ := p2
            have hip : isProc [(t0, q0), (t1, q1), (t2, q2)] = ((decide (strB t0 = strB procT) && !q0) && !q1) := by
              unfold isProc
              simp
            rw [hip] at hstop
            simp only [hip] at hgo
            have ht2 : t2.size ≤ 1000000 := hszW (t2, q2) (by simp)
            refine sS_ ?_
            refine R.ix ttok 0 rfl rfl rfl rfl rfl (by kernel_rfl) rfl (by show 0 < 3; decide) (by show 0 < 3; decide) rfl ?_
            refine sS_ ?_
            refine R.ldt (v := .raw (.bool q0)) ttok rfl rfl rfl rfl rfl (by kernel_rfl) (by show 0 < 3; decide) ?_
            cases q0 with
            | true =>
              rw [show (decide (strB t0 = strB procT) && !true) = false from Bool.and_false _, Bool.false_and, if_neg Bool.false_ne_true] at hstop
              refine sS_ ?_
              refine X.less [] 1 [(2, .ptr 0 0 0 0), (3, .raw (.int .i64 (((i : Nat) : Int) + 1))), (4, .raw (.int .i64 (17)))] [(0, nilP)] _ rfl hS7_ hS5_ rfl (fun _ h => h) ?_
              refine X.noneH 0 [.raw (.string ⟨#[]⟩), .raw (.int .i64 0), .sl 1 8 0 0 0] (tI [] 0) (none_tab _ _ _ _) rfl rfl rfl (fun ρ h => by have h : ρ 1 = none := h; show _ = AV.concs ρ [.raw (.string ⟨#[]⟩), .raw (.int .i64 0), .raw (.slice none 0 0)]; simp [AV.concs, AV.conc, h]) ?_
              refine X.fin ttok (⟨noT0, 0, [], 0, ((i : Nat) : Int) + 1, 17⟩ : PV) [(0, 1)] ⟨by rw [hstop rfl]; exact ⟨rfl, rfl, rfl, rfl, rfl⟩, Nat.le_refl _, Nat.zero_le _⟩ rfl rfl rfl hS4_ _ (by first | exact .inl rfl | exact .inr rfl)
            | false =>
              rw [show (decide (strB t0 = strB procT) && !false) = decide (strB t0 = strB procT) from Bool.and_true _] at hstop
              simp only [show (decide (strB t0 = strB procT) && !false) = decide (strB t0 = strB procT) from Bool.and_true _] at hgo
              refine sS_ ?_
              refine R.ix ttok 0 rfl rfl rfl rfl rfl (by kernel_rfl) rfl (by show 0 < 3; decide) (by show 0 < 3; decide) rfl ?_
              refine sS_ ?_
              refine R.ldt (v := .raw (.string t0)) ttok rfl rfl rfl rfl rfl (by kernel_rfl) (by show 0 < 3; decide) ?_
              refine sS_ ?_
              rw [neS, show strB ⟨#[112, 114, 111, 99]⟩ = strB procT from rfl]
              by_cases hp : strB t0 = strB procT
              · rw [decide_eq_false (show ¬ strB t0 ≠ strB procT from fun h => h hp)]
                rw [decide_eq_true hp, Bool.true_and] at hstop
                simp only [decide_eq_true hp, Bool.true_and] at hgo
                refine sS_ ?_
                refine R.ix ttok 1 rfl rfl rfl rfl rfl (by kernel_rfl) rfl (by show 1 < 3; decide) (by show 1 < 3; decide) rfl ?_
                refine sS_ ?_
                refine R.ldt (v := .raw (.bool q1)) ttok rfl rfl rfl rfl rfl (by kernel_rfl) (by show 1 < 3; decide) ?_
                cases q1 with
                | true =>
                  rw [if_neg (show ¬ ((!true) = true) from Bool.false_ne_true)] at hstop
                  refine sS_ ?_
                  refine X.less [] 1 [(2, .ptr 0 0 0 0), (3, .raw (.int .i64 (((i : Nat) : Int) + 1))), (4, .raw (.int .i64 (17)))] [(0, nilP)] _ rfl hS7_ hS5_ rfl (fun _ h => h) ?_
                  refine X.noneH 0 [.raw (.string ⟨#[]⟩), .raw (.int .i64 0), .sl 1 8 0 0 0] (tI [] 0) (none_tab _ _ _ _) rfl rfl rfl (fun ρ h => by have h : ρ 1 = none := h; show _ = AV.concs ρ [.raw (.string ⟨#[]⟩), .raw (.int .i64 0), .raw (.slice none 0 0)]; simp [AV.concs, AV.conc, h]) ?_
                  refine X.fin ttok (⟨noT0, 0, [], 0, ((i : Nat) : Int) + 1, 17⟩ : PV) [(0, 1)] ⟨by rw [hstop rfl]; exact ⟨rfl, rfl, rfl, rfl, rfl⟩, Nat.le_refl _, Nat.zero_le _⟩ rfl rfl rfl hS4_ _ (by first | exact .inl rfl | exact .inr rfl)
                | false =>
                  simp only [Bool.not_false, if_true] at hstop hgo
                  refine sS_ ?_
                  refine R.ix ttok 1 rfl rfl rfl rfl rfl (by kernel_rfl) rfl (by show 1 < 3; decide) (by show 1 < 3; decide) rfl ?_
                  refine sS_ ?_
                  refine R.ldt (v := .raw (.string t1)) ttok rfl rfl rfl rfl rfl (by kernel_rfl) (by show 1 < 3; decide) ?_
                  refine sS_ ?_
                  refine R.ix ttok 2 rfl rfl rfl rfl rfl (by kernel_rfl) rfl (by show 2 < 3; decide) (by show 2 < 3; decide) rfl ?_
                  refine R.ldt (v := wdRA t2 q2) ttok rfl rfl rfl rfl rfl (by kernel_rfl) (by show 2 < 3; decide) ?_
                  refine sS_ ?_
                  refine R.cl [] (numberR_spec t2 q2 (by omega)) Tryz.call27 hS6_ rfl rfl rfl (fun _ => rfl) rfl (by kernel_rfl) fun _ _ => ?_
                  refine sS_ ?_
                  cases hnb : numB t2 q2 with
                  | false =>
                    rw [if_neg (by show ¬ numB t2 q2 = true; rw [hnb]; decide)] at hstop
                    refine sS_ ?_
                    refine X.less [] 1 [(2, .ptr 0 0 0 0), (3, .raw (.int .i64 (((i : Nat) : Int) + 1))), (4, .raw (.int .i64 (17)))] [(0, nilP)] _ rfl hS7_ hS5_ rfl (fun _ h => h) ?_
                    refine X.noneH 0 [.raw (.string ⟨#[]⟩), .raw (.int .i64 0), .sl 1 8 0 0 0] (tI [] 0) (none_tab _ _ _ _) rfl rfl rfl (fun ρ h => by have h : ρ 1 = none := h; show _ = AV.concs ρ [.raw (.string ⟨#[]⟩), .raw (.int .i64 0), .raw (.slice none 0 0)]; simp [AV.concs, AV.conc, h]) ?_
                    refine X.fin ttok (⟨noT0, 0, [], 0, ((i : Nat) : Int) + 1, 17⟩ : PV) [(0, 1)] ⟨by rw [hstop rfl]; exact ⟨rfl, rfl, rfl, rfl, rfl⟩, Nat.le_refl _, Nat.zero_le _⟩ rfl rfl rfl hS4_ _ (by first | exact .inl rfl | exact .inr rfl)
                  | true =>
                    refine sS_ ?_
                    exact X.back [] ⟨i + 1, ⟨i + 1, false, t1, numV t2 q2, cd, ln⟩, c, c2⟩ (hgo _ c c2 (if_pos hnb) (by dsimp only; omega) hln (by dsimp only; omega) hc1 hc1' hc2 hc2') (by dsimp only; omega) rfl hS7_ hS5_ rfl (fun _ h => h)
              · rw [decide_eq_true (show strB t0 ≠ strB procT from hp)]
                rw [decide_eq_false hp, Bool.false_and, if_neg Bool.false_ne_true] at hstop
                refine sS_ ?_
                refine X.less [] 1 [(2, .ptr 0 0 0 0), (3, .raw (.int .i64 (((i : Nat) : Int) + 1))), (4, .raw (.int .i64 (17)))] [(0, nilP)] _ rfl hS7_ hS5_ rfl (fun _ h => h) ?_
                refine X.noneH 0 [.raw (.string ⟨#[]⟩), .raw (.int .i64 0), .sl 1 8 0 0 0] (tI [] 0) (none_tab _ _ _ _) rfl rfl rfl (fun ρ h => by have h : ρ 1 = none := h; show _ = AV.concs ρ [.raw (.string ⟨#[]⟩), .raw (.int .i64 0), .raw (.slice none 0 0)]; simp [AV.concs, AV.conc, h]) ?_
                refine X.fin ttok (⟨noT0, 0, [], 0, ((i : Nat) : Int) + 1, 17⟩ : PV) [(0, 1)] ⟨by rw [hstop rfl]; exact ⟨rfl, rfl, rfl, rfl, rfl⟩, Nat.le_refl _, Nat.zero_le _⟩ rfl rfl rfl hS4_ _ (by first | exact .inl rfl | exact .inr rfl)
          · rw [decide_eq_true (show ((W.length : Nat) : Int) ≠ 3 by omega)]
            rw [if_neg (by unfold isProc; rw [decide_eq_false h3]; simp)] at hstop
            refine sS_ ?_
            refine X.less [] 1 [(2, .ptr 0 0 0 0), (3, .raw (.int .i64 (((i : Nat) : Int) + 1))), (4, .raw (.int .i64 (17)))] [(0, nilP)] _ rfl hS7_ hS5_ rfl (fun _ h => h) ?_
            refine X.noneH 0 [.raw (.string ⟨#[]⟩), .raw (.int .i64 0), .sl 1 8 0 0 0] (tI [] 0) (none_tab _ _ _ _) rfl rfl rfl (fun ρ h => by have h : ρ 1 = none := h; show _ = AV.concs ρ [.raw (.string ⟨#[]⟩), .raw (.int .i64 0), .raw (.slice none 0 0)]; simp [AV.concs, AV.conc, h]) ?_
            refine X.fin ttok (⟨noT0, 0, [], 0, ((i : Nat) : Int) + 1, 17⟩ : PV) [(0, 1)] ⟨by rw [hstop rfl]; exact ⟨rfl, rfl, rfl, rfl, rfl⟩, Nat.le_refl _, Nat.zero_le _⟩ rfl rfl rfl hS4_ _ (by first | exact .inl rfl | exact .inr rfl)
        · rw [decide_eq_false (show ¬ ((head : Nat) : Int) = 0 by omega)]
          rw [if_neg hh0] at hstop
          simp only [if_neg hh0] at hgo
          refine sS_ ?_
          by_cases h1 : W.length = 1
          · rw [decide_eq_true (show ((W.length : Nat) : Int) = 1 by omega)]
            obtain ⟨p0, hp0⟩ : ∃ p, W = [p] := by
              match W, h1 with
              | [a], _ => exact ⟨a, rfl⟩
            obtain ⟨t0, q0⟩ := p0
            have hF : rdF W 0 = rdX (t0, q0) := by rw [hp0]; rfl
            have hie : isP W endT = (!q0 && decide (strB t0 = strB endT)) := by rw [hp0]; rfl
            refine sS_ ?_
            refine R.ix ttok 0 rfl rfl rfl rfl rfl (by kernel_rfl) rfl hWp hWp rfl ?_
            refine sS_ ?_
            refine R.ldt (v := .raw (.bool q0)) ttok rfl rfl rfl (by rw [hF]; rfl) rfl (by kernel_rfl) hWp ?_
            cases q0 with
            | true =>
              have hend : isP W endT = false := hie
              rw [if_neg (show ¬ isP W endT = true by rw [hend]; decide)] at hstop
              simp only [hend, Bool.false_eq_true, if_false] at hgo
              refine sS_ ?_
              refine R.cl [5] (instrR_spec W cw hW0 (by omega) hszW) Tryz.call28 ((by exact HasIn.other rfl (fun e => by cases e) (fun ρ x w hh => tab_ro hh) .nil)) rfl rfl rfl (fun _ => rfl) rfl (by kernel_rfl) fun xr hxr => ?_
              obtain ⟨x, xo⟩ := xr
              have hxr : insG W (x, xo) := hxr
              unfold insG at hxr
              have hlX : (cd ++ [x]).length = cd.length + 1 := by simp
              have hlN : (ln ++ [i + 1]).length = ln.length + 1 := by simp
              refine sS_ ?_
              refine R.app (xs := inss cd) (news := inss [x]) ttok (fun c => tI (cd ++ [x]) c) rfl rfl (dstIns rfl) (SrcA.cells rfl rfl) (asIns _ _ _ (inss_app _ _).symm) rfl rfl rfl rfl rfl rfl (by decide) rfl rfl rfl (by kernel_rfl) hc1' (by show (cd.length + 1) * 72 ≤ _; omega) (by show cd.length + 1 ≤ _; omega) fun cB hB hB2 => ?_
              rw [← hlX] at hB ⊢
              refine sS_ ?_
              refine R.app (xs := nats ln) (news := nats [i + 1]) ttok (fun c => tN (ln ++ [i + 1]) c) rfl rfl (dstNats rfl) (SrcA.cells rfl rfl) (asNats _ _ _ (nats_app _ _).symm) rfl rfl rfl rfl rfl rfl (by decide) rfl rfl rfl (by kernel_rfl) hc2' (by show (ln.length + 1) * 8 ≤ _; omega) (by show ln.length + 1 ≤ _; omega) fun cC hC hC2 => ?_
              rw [← hlN] at hC ⊢
              cases hip : insP W with
              | none =>
                rw [hip] at hxr hstop
                cases hxr
                refine sS_ ?_
                refine X.less [] 1 [(2, .ptr 0 0 0 0), (3, .raw (.int .i64 (((i : Nat) : Int) + 1))), (4, .raw (.int .i64 (17)))] [(0, nilP)] _ rfl hS7_ hS5_ rfl (fun _ h => h) ?_
                refine X.noneH 0 [.raw (.string ⟨#[]⟩), .raw (.int .i64 0), .sl 1 8 0 0 0] (tI [] 0) (none_tab _ _ _ _) rfl rfl rfl (fun ρ h => by have h : ρ 1 = none := h; show _ = AV.concs ρ [.raw (.string ⟨#[]⟩), .raw (.int .i64 0), .raw (.slice none 0 0)]; simp [AV.concs, AV.conc, h]) ?_
                refine X.fin ttok (⟨noT0, 0, [], 0, ((i : Nat) : Int) + 1, 17⟩ : PV) [(0, 1)] ⟨by rw [hstop rfl]; exact ⟨rfl, rfl, rfl, rfl, rfl⟩, Nat.le_refl _, Nat.zero_le _⟩ rfl rfl rfl hS4_ _ (by first | exact .inl rfl | exact .inr rfl)
              | some y =>
                rw [hip] at hxr
                cases hxr
                simp only [hip] at hgo
                have hgo := hgo _ cB cC rfl (by simp only [List.length_append, List.length_cons, List.length_nil]; omega) (by simp only [List.length_append, List.length_cons, List.length_nil]; omega) (by dsimp only; omega) hB hB2 hC hC2
                refine sS_ ?_
                exact X.back [(3, 8), (4, 10)] ⟨i + 1, ⟨head, false, nm, ar, cd ++ [x], ln ++ [i + 1]⟩, cB, cC⟩ hgo (by dsimp only; omega) rfl hS7_ hS5_ rfl (fun _ h => h)
            | false =>
              refine sS_ ?_
              refine R.ix ttok 0 rfl rfl rfl rfl rfl (by kernel_rfl) rfl hWp hWp rfl ?_
              refine sS_ ?_
              refine R.ldt (v := .raw (.string t0)) ttok rfl rfl rfl (by rw [hF]; rfl) rfl (by kernel_rfl) hWp ?_
              refine sS_ ?_
              rw [eqS, show strB ⟨#[101, 110, 100]⟩ = strB endT from rfl]
              by_cases he : strB t0 = strB endT
              · rw [decide_eq_true he]
                have hend : isP W endT = true := by rw [hie, decide_eq_true he]; rfl
                refine sS_ ?_
                exact X.back [] ⟨i + 1, ⟨head, true, nm, ar, cd, ln⟩, c, c2⟩ (hgo _ c c2 (if_pos hend) (by dsimp only; omega) hln (by dsimp only; omega) hc1 hc1' hc2 hc2') (by dsimp only; omega) rfl hS7_ hS5_ rfl (fun _ h => h)
              · rw [decide_eq_false he]
                have hend : isP W endT = false := by rw [hie, decide_eq_false he]; rfl
                rw [if_neg (show ¬ isP W endT = true by rw [hend]; decide)] at hstop
                simp only [hend, Bool.false_eq_true, if_false] at hgo
                refine sS_ ?_
                refine R.cl [5] (instrR_spec W cw hW0 (by omega) hszW) Tryz.call28 ((by exact HasIn.other rfl (fun e => by cases e) (fun ρ x w hh => tab_ro hh) .nil)) rfl rfl rfl (fun _ => rfl) rfl (by kernel_rfl) fun xr hxr => ?_
                obtain ⟨x, xo⟩ := xr
                have hxr : insG W (x, xo) := hxr
                unfold insG at hxr
                have hlX : (cd ++ [x]).length = cd.length + 1 := by simp
                have hlN : (ln ++ [i + 1]).length = ln.length + 1 := by simp
                refine sS_ ?_
                refine R.app (xs := inss cd) (news := inss [x]) ttok (fun c => tI (cd ++ [x]) c) rfl rfl (dstIns rfl) (SrcA.cells rfl rfl) (asIns _ _ _ (inss_app _ _).symm) rfl rfl rfl rfl rfl rfl (by decide) rfl rfl rfl (by kernel_rfl) hc1' (by show (cd.length + 1) * 72 ≤ _; omega) (by show cd.length + 1 ≤ _; omega) fun cB hB hB2 => ?_
                rw [← hlX] at hB ⊢
                refine sS_ ?_
                refine R.app (xs := nats ln) (news := nats [i + 1]) ttok (fun c => tN (ln ++ [i + 1]) c) rfl rfl (dstNats rfl) (SrcA.cells rfl rfl) (asNats _ _ _ (nats_app _ _).symm) rfl rfl rfl rfl rfl rfl (by decide) rfl rfl rfl (by kernel_rfl) hc2' (by show (ln.length + 1) * 8 ≤ _; omega) (by show ln.length + 1 ≤ _; omega) fun cC hC hC2 => ?_
                rw [← hlN] at hC ⊢
                cases hip : insP W with
                | none =>
                  rw [hip] at hxr hstop
                  cases hxr
                  refine sS_ ?_
                  refine X.less [] 1 [(2, .ptr 0 0 0 0), (3, .raw (.int .i64 (((i : Nat) : Int) + 1))), (4, .raw (.int .i64 (17)))] [(0, nilP)] _ rfl hS7_ hS5_ rfl (fun _ h => h) ?_
                  refine X.noneH 0 [.raw (.string ⟨#[]⟩), .raw (.int .i64 0), .sl 1 8 0 0 0] (tI [] 0) (none_tab _ _ _ _) rfl rfl rfl (fun ρ h => by have h : ρ 1 = none := h; show _ = AV.concs ρ [.raw (.string ⟨#[]⟩), .raw (.int .i64 0), .raw (.slice none 0 0)]; simp [AV.concs, AV.conc, h]) ?_
                  refine X.fin ttok (⟨noT0, 0, [], 0, ((i : Nat) : Int) + 1, 17⟩ : PV) [(0, 1)] ⟨by rw [hstop rfl]; exact ⟨rfl, rfl, rfl, rfl, rfl⟩, Nat.le_refl _, Nat.zero_le _⟩ rfl rfl rfl hS4_ _ (by first | exact .inl rfl | exact .inr rfl)
                | some y =>
                  rw [hip] at hxr
                  cases hxr
                  simp only [hip] at hgo
                  have hgo := hgo _ cB cC rfl (by simp only [List.length_append, List.length_cons, List.length_nil]; omega) (by simp only [List.length_append, List.length_cons, List.length_nil]; omega) (by dsimp only; omega) hB hB2 hC hC2
                  refine sS_ ?_
                  exact X.back [(3, 8), (4, 10)] ⟨i + 1, ⟨head, false, nm, ar, cd ++ [x], ln ++ [i + 1]⟩, cB, cC⟩ hgo (by dsimp only; omega) rfl hS7_ hS5_ rfl (fun _ h => h)
          · rw [decide_eq_false (show ¬ ((W.length : Nat) : Int) = 1 by omega)]
            have hend : isP W endT = false := by
              match W, h1 with
              | [], _ => rfl
              | [a], h => exact absurd rfl h
              | a :: b :: r, _ => rfl
            rw [if_neg (show ¬ isP W endT = true by rw [hend]; decide)] at hstop
            simp only [hend, Bool.false_eq_true, if_false] at hgo
            refine sS_ ?_
            refine R.cl [5] (instrR_spec W cw hW0 (by omega) hszW) Tryz.call28 ((by exact HasIn.other rfl (fun e => by cases e) (fun ρ x w hh => tab_ro hh) .nil)) rfl rfl rfl (fun _ => rfl) rfl (by kernel_rfl) fun xr hxr => ?_
            obtain ⟨x, xo⟩ := xr
            have hxr : insG W (x, xo) := hxr
            unfold insG at hxr
            have hlX : (cd ++ [x]).length = cd.length + 1 := by simp
            have hlN : (ln ++ [i + 1]).length = ln.length + 1 := by simp
            refine sS_ ?_
            refine R.app (xs := inss cd) (news := inss [x]) ttok (fun c => tI (cd ++ [x]) c) rfl rfl (dstIns rfl) (SrcA.cells rfl rfl) (asIns _ _ _ (inss_app _ _).symm) rfl rfl rfl rfl rfl rfl (by decide) rfl rfl rfl (by kernel_rfl) hc1' (by show (cd.length + 1) * 72 ≤ _; omega) (by show cd.length + 1 ≤ _; omega) fun cB hB hB2 => ?_
            rw [← hlX] at hB ⊢
            refine sS_ ?_
            refine R.app (xs := nats ln) (news := nats [i + 1]) ttok (fun c => tN (ln ++ [i + 1]) c) rfl rfl (dstNats rfl) (SrcA.cells rfl rfl) (asNats _ _ _ (nats_app _ _).symm) rfl rfl rfl rfl rfl rfl (by decide) rfl rfl rfl (by kernel_rfl) hc2' (by show (ln.length + 1) * 8 ≤ _; omega) (by show ln.length + 1 ≤ _; omega) fun cC hC hC2 => ?_
            rw [← hlN] at hC ⊢
            cases hip : insP W with
            | none =>
              rw [hip] at hxr hstop
              cases hxr
              refine sS_ ?_
              refine X.less [] 1 [(2, .ptr 0 0 0 0), (3, .raw (.int .i64 (((i : Nat) : Int) + 1))), (4, .raw (.int .i64 (17)))] [(0, nilP)] _ rfl hS7_ hS5_ rfl (fun _ h => h) ?_
              refine X.noneH 0 [.raw (.string ⟨#[]⟩), .raw (.int .i64 0), .sl 1 8 0 0 0] (tI [] 0) (none_tab _ _ _ _) rfl rfl rfl (fun ρ h => by have h : ρ 1 = none := h; show _ = AV.concs ρ [.raw (.string ⟨#[]⟩), .raw (.int .i64 0), .raw (.slice none 0 0)]; simp [AV.concs, AV.conc, h]) ?_
              refine X.fin ttok (⟨noT0, 0, [], 0, ((i : Nat) : Int) + 1, 17⟩ : PV) [(0, 1)] ⟨by rw [hstop rfl]; exact ⟨rfl, rfl, rfl, rfl, rfl⟩, Nat.le_refl _, Nat.zero_le _⟩ rfl rfl rfl hS4_ _ (by first | exact .inl rfl | exact .inr rfl)
            | some y =>
              rw [hip] at hxr
              cases hxr
              simp only [hip] at hgo
              have hgo := hgo _ cB cC rfl (by simp only [List.length_append, List.length_cons, List.length_nil]; omega) (by simp only [List.length_append, List.length_cons, List.length_nil]; omega) (by dsimp only; omega) hB hB2 hC hC2
              refine sS_ ?_
              exact X.back [(3, 8), (4, 10)] ⟨i + 1, ⟨head, false, nm, ar, cd ++ [x], ln ++ [i + 1]⟩, cB, cC⟩ hgo (by dsimp only; omega) rfl hS7_ hS5_ rfl (fun _ h => h)
  · rw [decide_eq_false (show ¬ ((i : Nat) : Int) < (lns.length : Nat) by omega)]
    rw [List.drop_eq_nil_of_le (by omega)] at hrun
    obtain rfl : i = (linesL t).length := by omega
    have hpar : parseP t = endP ⟨head, ended, nm, ar, cd, ln⟩ (linesL t).length := by unfold parseP; rw [hrun]; rfl
    unfold endP at hpar
    dsimp only at hpar
    rw [← hlnl] at hpar
    cases ended with
    | false =>
      rw [if_pos rfl] at hpar
      refine sS_ ?_
      rw [show (max ((lns.length : Nat) : Int) 1) = ((max lns.length 1 : Nat) : Int) by omega]
      refine sS_ ?_
      refine X.less [] 1 [(2, .ptr 0 0 0 0), (3, .raw (.int .i64 ((max lns.length 1 : Nat)))), (4, .raw (.int .i64 (17)))] [(0, nilP)] _ rfl hS7_ hS5_ rfl (fun _ h => h) ?_
      refine X.noneH 0 [.raw (.string ⟨#[]⟩), .raw (.int .i64 0), .sl 1 8 0 0 0] (tI [] 0) (none_tab _ _ _ _) rfl rfl rfl (fun ρ h => by have h : ρ 1 = none := h; show _ = AV.concs ρ [.raw (.string ⟨#[]⟩), .raw (.int .i64 0), .raw (.slice none 0 0)]; simp [AV.concs, AV.conc, h]) ?_
      refine X.fin ttok (⟨noT0, 0, [], 0, (max lns.length 1 : Nat), 17⟩ : PV) [(0, 1)] ⟨by rw [hpar]; exact ⟨rfl, rfl, rfl, rfl, rfl⟩, Nat.le_refl _, Nat.zero_le _⟩ rfl rfl rfl hS4_ _ (by first | exact .inl rfl | exact .inr rfl)
    | true =>
      rw [if_neg (show ¬ (true = false) from fun h => by cases h)] at hpar
      have hlt := @chkP_lt nm (ar : Nat) cd
      refine sS_ ?_
      refine R.cl [3] (check6_spec nm (ar : Nat) cd 0 c (by omega)) Tryz.call29 ((by exact HasIn.other rfl (fun e => by cases e) (fun ρ x w hh => tab_ro hh) .nil)) rfl rfl rfl (fun _ => rfl) rfl (by kernel_rfl) fun _ _ => ?_
      obtain ⟨k, hk⟩ : ∃ k, chkP nm (ar : Nat) cd = k := ⟨_, rfl⟩
      rw [hk] at hpar hlt ⊢
      obtain ⟨j, e⟩ := k
      dsimp only at hpar hlt ⊢
      refine sS_ ?_
      by_cases he : e = 0
      · subst he
        rw [if_pos rfl] at hpar
        rw [show decide ((0 : Int) ≠ 0) = false from rfl]
        refine sS_ ?_
        refine X.fin ttok (⟨nm, (ar : Nat), cd, c, 0, 0⟩ : PV) [(0, 3)] ⟨by rw [hpar]; exact ⟨rfl, rfl, rfl, rfl, rfl⟩, hc1, hc1'⟩ rfl rfl rfl hS4_ _ (by first | exact .inl rfl | exact .inr rfl)
      · rw [if_neg he] at hpar
        rw [decide_eq_true (show e ≠ 0 from he)]
        refine sS_ ?_
        by_cases hi : 0 ≤ j
        · rw [decide_eq_true (show j ≥ 0 from hi)]
          rw [if_pos hi] at hpar
          have hlt := hlt he hi
          rw [← hln] at hlt
          refine sS_ ?_
          refine C.draw [[], [], [], [1, 2], [1, 2, 3], [], [0], [0, 1, 2, 3, 4, 6], [0, 1, 2, 3, 4, 5, 6, 7]] [6] (by kernel_rfl) (by kernel_rfl) ?_
          refine sS_ ?_
          refine R.ix ttok j.toNat rfl rfl rfl rfl rfl (by kernel_rfl) (by omega) hlt (by show 0 + j.toNat < ln.length; omega) rfl ?_
          refine R.ldt (v := .raw (.int .i64 (ln.getD (0 + j.toNat) 0 : Nat))) ttok rfl rfl rfl rfl rfl (by kernel_rfl) (by show 0 + j.toNat < ln.length; omega) ?_
          rw [show ln.getD (0 + j.toNat) 0 = ln.getD j.toNat 0 by rw [Nat.zero_add]]
          refine sS_ ?_
          refine X.less [] 1 [(2, .ptr 0 0 0 0), (3, .raw (.int .i64 ((ln.getD j.toNat 0 : Nat)))), (4, .raw (.int .i64 (e)))] [(0, nilP)] _ rfl hS7_ hS5_ rfl (fun _ h => h) ?_
          refine X.noneH 0 [.raw (.string ⟨#[]⟩), .raw (.int .i64 0), .sl 1 8 0 0 0] (tI [] 0) (none_tab _ _ _ _) rfl rfl rfl (fun ρ h => by have h : ρ 1 = none := h; show _ = AV.concs ρ [.raw (.string ⟨#[]⟩), .raw (.int .i64 0), .raw (.slice none 0 0)]; simp [AV.concs, AV.conc, h]) ?_
          refine X.fin ttok (⟨noT0, 0, [], 0, (ln.getD j.toNat 0 : Nat), e⟩ : PV) [(0, 1)] ⟨by rw [hpar]; exact ⟨rfl, rfl, rfl, rfl, rfl⟩, Nat.le_refl _, Nat.zero_le _⟩ rfl rfl rfl hS4_ _ (by first | exact .inl rfl | exact .inr rfl)
        · rw [decide_eq_false (show ¬ j ≥ 0 from hi)]
          rw [if_neg hi] at hpar
          refine sS_ ?_
          refine X.less [] 1 [(2, .ptr 0 0 0 0), (3, .raw (.int .i64 ((head : Nat)))), (4, .raw (.int .i64 (e)))] [(0, nilP)] _ rfl hS7_ hS5_ rfl (fun _ h => h) ?_
          refine X.noneH 0 [.raw (.string ⟨#[]⟩), .raw (.int .i64 0), .sl 1 8 0 0 0] (tI [] 0) (none_tab _ _ _ _) rfl rfl rfl (fun ρ h => by have h : ρ 1 = none := h; show _ = AV.concs ρ [.raw (.string ⟨#[]⟩), .raw (.int .i64 0), .raw (.slice none 0 0)]; simp [AV.concs, AV.conc, h]) ?_
          refine X.fin ttok (⟨noT0, 0, [], 0, (head : Nat), e⟩ : PV) [(0, 1)] ⟨by rw [hpar]; exact ⟨rfl, rfl, rfl, rfl, rfl⟩, Nat.le_refl _, Nat.zero_le _⟩ rfl rfl rfl hS4_ _ (by first | exact .inl rfl | exact .inr rfl)
end Go.Proofs.YtaieficgifingaaGreatDoor
namespace Go.Proofs.YtaieficgifingaaGreatDoor
set_option linter.unusedVariables false
set_option linter.unusedSimpArgs false
open Go.RowKit
set_option maxRecDepth 100000
set_option maxHeartbeats 4000000
def hexD (k : Nat) : UInt8 := [48, 49, 50, 51, 52, 53, 54, 55, 56, 57, 97, 98, 99, 100, 101, 102].getD k 0
abbrev qh (c : UInt8) : List UInt8 := [92, 120, hexD (c.toNat / 16), hexD (c.toNat % 16)]
def quotC (c : UInt8) : List UInt8 := if c = 34 ∨ c = 92 then [92, c] else if c.toNat < 32 ∨ 126 < c.toNat then [92, 120, hexD (c.toNat / 16), hexD (c.toNat % 16)] else [c]
def quotW (l : List UInt8) : List UInt8 := [34] ++ l.flatMap quotC ++ [34]
theorem quotC_len (c : UInt8) : (quotC c).length ≤ 4 := by
  unfold quotC
  split
  · simp
  · split <;> simp
theorem flatC_len (l : List UInt8) : (l.flatMap quotC).length ≤ 4 * l.length := by
  induction l with
  | nil => simp
  | cons c r ih =>
    rw [List.flatMap_cons, List.length_append, List.length_cons]
    have := quotC_len c
    omega
theorem take_snoc {l : List UInt8} {i : Nat} (h : i < l.length) : l.take (i + 1) = l.take i ++ [l.getD i 0] := by
  rw [List.take_succ_eq_append_getElem h, List.getD_eq_getElem?_getD, List.getElem?_eq_getElem h]; rfl
theorem flat_snoc {l : List UInt8} {i : Nat} (h : i < l.length) : (l.take (i + 1)).flatMap quotC = (l.take i).flatMap quotC ++ quotC (l.getD i 0) := by
  rw [take_snoc h, List.flatMap_append]
  simp
theorem and15 {x : Nat} (h : x < 256) : bitV .and .u8 ((x : Nat) : Int) 15 = ((x % 16 : Nat) : Int) := by
  have key : ∀ a : Fin 256, bitV .and .u8 ((a.val : Nat) : Int) 15 = ((a.val % 16 : Nat) : Int) := by decide
  exact key ⟨x, h⟩
theorem quote_spec (s : ByteArray) (hs : s.size ≤ 1000000) : Spec Tryz.prog 53 [.raw (.string s)] [] 0 (σ := Unit) (fun _ => True) (fun _ => .raw (.string (strOf (quotW (strB s))))) (fun _ => []) := by
  refine Spec.of Tryz.func53 rfl Tryz.ntmps53 rfl (bdl_nil _) fun ρ w => ?_
  have hlen := strB_size s
  refine sS_ ?_
  refine R.s2b ttok rfl rfl rfl rfl rfl rfl rfl rfl rfl fun c1 => ?_
  refine sS_ ?_
  refine C.tellB 0 [34] rfl rfl ?_
  refine C.loop (σ := Nat × Nat) (L2 := 2) (fun x => x.1 ≤ (strB s).length ∧ x.2 ≤ 9223372036854775807) (fun x => [(0, .raw (.string s)), (3, .sl 0 1 0 ([34] ++ ((strB s).take x.1).flatMap quotC).length x.2), (8, .sl 1 1 0 (strB s).length c1), (9, .raw (.int .i64 ((strB s).length : Nat))), (10, .raw (.int .i64 (x.1 : Nat)))]) (fun x => [(0, .bytes ([34] ++ ((strB s).take x.1).flatMap quotC) x.2 5), (1, .ro 1 0 (strB s).length (bytesF (strB s)))]) _ (fun x => (strB s).length - x.1) [] (0, 1) ⟨Nat.zero_le _, by decide⟩ rfl hS7_ hS4_ rfl (fun _ h => h) ?_
  rintro ⟨i, c⟩ ⟨hi, hc⟩
  dsimp only at hi hc ⊢
  have hfl := flatC_len ((strB s).take i)
  rw [List.length_take] at hfl
  refine sS_ ?_
  by_cases hlt : i < (strB s).length
  · rw [decide_eq_true (show ((i : Nat) : Int) < ((strB s).length : Nat) by omega)]
    have hst := flat_snoc hlt
    refine sS_ ?_
    refine R.ix ttok i rfl rfl rfl rfl rfl (by kernel_rfl) rfl hlt (by show _ ≤ _ ∧ _ < _; omega) rfl ?_
    refine R.ldo (v := .raw (byteV ((strB s).getD i 0))) ttok rfl rfl rfl rfl rfl (by kernel_rfl) hlt ?_
    obtain ⟨b, hb⟩ : ∃ b, (strB s).getD i 0 = b := ⟨_, rfl⟩
    rw [hb] at hst ⊢
    have hbN : b.toNat < 256 := b.toNat_lt
    obtain ⟨q, hq⟩ : ∃ q, ((strB s).take i).flatMap quotC = q := ⟨_, rfl⟩
    rw [hq] at hst hfl ⊢
    have hcv : ∀ k : UInt8, ((((b.toNat : Nat) : Int) = (k.toNat : Nat)) ↔ b = k) := fun k => ⟨fun e => UInt8.toNat_inj.1 (by omega), fun e => by rw [e]⟩
    refine sS_ ?_
    by_cases h34 : b = 34
    · rw [decide_eq_true (show (((b.toNat : Nat) : Int) = 34) from (hcv 34).2 h34)]
      have hqc : quotC b = [92, b] := by unfold quotC; rw [if_pos (.inl h34)]
      rw [hqc] at hst
      refine sS_ ?_
      refine R.apb ttok (q := [92, b]) rfl rfl rfl rfl (SrcA.cells rfl rfl) (rfl) rfl rfl rfl rfl rfl rfl rfl rfl hc (by rw [List.length_append, List.length_append]; simp only [List.length_cons, List.length_nil]; omega) fun c' h5 h6 => ?_
      refine sS_ ?_
      have hnew : [34] ++ ((strB s).take (i + 1)).flatMap quotC = [34] ++ q ++ [92, b] := by rw [hst, List.append_assoc]
      exact X.back [(0, 3)] (i + 1, c') ⟨hlt, h6⟩ (by dsimp only; omega) rfl (by
        show HasT _ _ _ [_, (3, .sl 0 1 0 ([34] ++ ((strB s).take (i + 1)).flatMap quotC).length c'), _, _, _]
        rw [hnew]
        exact hS7_) (by
        show HasH _ _ _ [(0, .bytes ([34] ++ ((strB s).take (i + 1)).flatMap quotC) c' 5), _]
        rw [hnew]
        exact hS4_) rfl (fun _ h => h)
    · rw [decide_eq_false (show ¬ (((b.toNat : Nat) : Int) = 34) from fun e => h34 ((hcv 34).1 e))]
      refine sS_ ?_
      by_cases h92 : b = 92
      · rw [decide_eq_true (show (((b.toNat : Nat) : Int) = 92) from (hcv 92).2 h92)]
        have hqc : quotC b = [92, b] := by unfold quotC; rw [if_pos (.inr h92)]
        rw [hqc] at hst
        refine sS_ ?_
        refine R.apb ttok (q := [92, b]) rfl rfl rfl rfl (SrcA.cells rfl rfl) (rfl) rfl rfl rfl rfl rfl rfl rfl rfl hc (by rw [List.length_append, List.length_append]; simp only [List.length_cons, List.length_nil]; omega) fun c' h5 h6 => ?_
        refine sS_ ?_
        have hnew : [34] ++ ((strB s).take (i + 1)).flatMap quotC = [34] ++ q ++ [92, b] := by rw [hst, List.append_assoc]
        exact X.back [(0, 3)] (i + 1, c') ⟨hlt, h6⟩ (by dsimp only; omega) rfl (by
          show HasT _ _ _ [_, (3, .sl 0 1 0 ([34] ++ ((strB s).take (i + 1)).flatMap quotC).length c'), _, _, _]
          rw [hnew]
          exact hS7_) (by
          show HasH _ _ _ [(0, .bytes ([34] ++ ((strB s).take (i + 1)).flatMap quotC) c' 5), _]
          rw [hnew]
          exact hS4_) rfl (fun _ h => h)
      · rw [decide_eq_false (show ¬ (((b.toNat : Nat) : Int) = 92) from fun e => h92 ((hcv 92).1 e))]
        have hno : ¬ (b = 34 ∨ b = 92) := fun h => h.elim h34 h92
        refine sS_ ?_
        by_cases hlo : b.toNat < 32
        · rw [decide_eq_true (show ((b.toNat : Nat) : Int) < 32 by omega)]
          have hor : b.toNat < 32 ∨ 126 < b.toNat := .inl hlo
          have hqc : quotC b = qh b := by unfold quotC; rw [if_neg hno, if_pos hor]
          rw [hqc] at hst
          refine sS_ ?_
          refine C.draw [[], [], [1], [1, 2], [], [4], [4, 5], [1, 2, 3, 4, 5, 6], [0, 1, 2, 3, 4, 5, 6, 7], [0, 1, 2, 3, 4, 5, 6, 7, 8]] [7, 8] (by kernel_rfl) (by kernel_rfl) ?_
          refine sS_ ?_
          refine R.shr ((b.toNat / 16 : Nat) : Int) rfl rfl rfl (by kernel_rfl) (by decide) (by
            rw [show min (4 : Int).toNat IntKind.u8.bits = 4 from rfl, Int.fdiv_eq_ediv_of_nonneg _ (by decide)]
            rw [show (2 : Int) ^ 4 = 16 from rfl]; omega) ?_
          refine R.sx ttok (b.toNat / 16) rfl rfl rfl rfl (by kernel_rfl) rfl (by show _ < 16; omega) ?_
          refine sS_ ?_
          refine R.sx ttok (b.toNat % 16) rfl rfl rfl rfl (by kernel_rfl) (and15 hbN) (by show _ < 16; omega) ?_
          refine sS_ ?_
          refine R.apb ttok (q := qh b) rfl rfl rfl rfl (SrcA.cells rfl rfl) (rfl) rfl rfl rfl rfl rfl rfl rfl rfl hc (by rw [List.length_append, List.length_append]; simp only [List.length_cons, List.length_nil]; omega) fun c' h5 h6 => ?_
          refine sS_ ?_
          have hnew : [34] ++ ((strB s).take (i + 1)).flatMap quotC = [34] ++ q ++ qh b := by rw [hst, List.append_assoc]
          exact X.back [(0, 3)] (i + 1, c') ⟨hlt, h6⟩ (by dsimp only; omega) rfl (by
            show HasT _ _ _ [_, (3, .sl 0 1 0 ([34] ++ ((strB s).take (i + 1)).flatMap quotC).length c'), _, _, _]
            rw [hnew]
            exact hS7_) (by
            show HasH _ _ _ [(0, .bytes ([34] ++ ((strB s).take (i + 1)).flatMap quotC) c' 5), _]
            rw [hnew]
            exact hS4_) rfl (fun _ h => h)
        · rw [decide_eq_false (show ¬ ((b.toNat : Nat) : Int) < 32 by omega)]
          refine sS_ ?_
          by_cases hhi : 126 < b.toNat
          · rw [decide_eq_true (show ((b.toNat : Nat) : Int) > 126 by omega)]
            have hor : b.toNat < 32 ∨ 126 < b.toNat := .inr hhi
            have hqc : quotC b = qh b := by unfold quotC; rw [if_neg hno, if_pos hor]
            rw [hqc] at hst
            refine sS_ ?_
            refine C.draw [[], [], [1], [1, 2], [], [4], [4, 5], [1, 2, 3, 4, 5, 6], [0, 1, 2, 3, 4, 5, 6, 7], [0, 1, 2, 3, 4, 5, 6, 7, 8]] [7, 8] (by kernel_rfl) (by kernel_rfl) ?_
            refine sS_ ?_
            refine R.shr ((b.toNat / 16 : Nat) : Int) rfl rfl rfl (by kernel_rfl) (by decide) (by
              rw [show min (4 : Int).toNat IntKind.u8.bits = 4 from rfl, Int.fdiv_eq_ediv_of_nonneg _ (by decide)]
              rw [show (2 : Int) ^ 4 = 16 from rfl]; omega) ?_
            refine R.sx ttok (b.toNat / 16) rfl rfl rfl rfl (by kernel_rfl) rfl (by show _ < 16; omega) ?_
            refine sS_ ?_
            refine R.sx ttok (b.toNat % 16) rfl rfl rfl rfl (by kernel_rfl) (and15 hbN) (by show _ < 16; omega) ?_
            refine sS_ ?_
            refine R.apb ttok (q := qh b) rfl rfl rfl rfl (SrcA.cells rfl rfl) (rfl) rfl rfl rfl rfl rfl rfl rfl rfl hc (by rw [List.length_append, List.length_append]; simp only [List.length_cons, List.length_nil]; omega) fun c' h5 h6 => ?_
            refine sS_ ?_
            have hnew : [34] ++ ((strB s).take (i + 1)).flatMap quotC = [34] ++ q ++ qh b := by rw [hst, List.append_assoc]
            exact X.back [(0, 3)] (i + 1, c') ⟨hlt, h6⟩ (by dsimp only; omega) rfl (by
              show HasT _ _ _ [_, (3, .sl 0 1 0 ([34] ++ ((strB s).take (i + 1)).flatMap quotC).length c'), _, _, _]
              rw [hnew]
              exact hS7_) (by
              show HasH _ _ _ [(0, .bytes ([34] ++ ((strB s).take (i + 1)).flatMap quotC) c' 5), _]
              rw [hnew]
              exact hS4_) rfl (fun _ h => h)
          · rw [decide_eq_false (show ¬ ((b.toNat : Nat) : Int) > 126 by omega)]
            have hqc : quotC b = [b] := by unfold quotC; rw [if_neg hno, if_neg (by omega)]
            rw [hqc] at hst
            refine sS_ ?_
            refine R.apb ttok (q := [b]) rfl rfl rfl rfl (SrcA.cells rfl rfl) (rfl) rfl rfl rfl rfl rfl rfl rfl rfl hc (by rw [List.length_append, List.length_append]; simp only [List.length_cons, List.length_nil]; omega) fun c' h5 h6 => ?_
            refine sS_ ?_
            have hnew : [34] ++ ((strB s).take (i + 1)).flatMap quotC = [34] ++ q ++ [b] := by rw [hst, List.append_assoc]
            exact X.back [(0, 3)] (i + 1, c') ⟨hlt, h6⟩ (by dsimp only; omega) rfl (by
              show HasT _ _ _ [_, (3, .sl 0 1 0 ([34] ++ ((strB s).take (i + 1)).flatMap quotC).length c'), _, _, _]
              rw [hnew]
              exact hS7_) (by
              show HasH _ _ _ [(0, .bytes ([34] ++ ((strB s).take (i + 1)).flatMap quotC) c' 5), _]
              rw [hnew]
              exact hS4_) rfl (fun _ h => h)
  · rw [decide_eq_false (show ¬ ((i : Nat) : Int) < ((strB s).length : Nat) by omega)]
    obtain rfl : i = (strB s).length := by omega
    rw [List.take_length] at hfl ⊢
    refine sS_ ?_
    refine R.apb ttok (q := [34]) rfl rfl rfl rfl (SrcA.cells rfl rfl) rfl rfl rfl rfl rfl rfl rfl rfl rfl hc (by rw [List.length_append, List.length_append]; simp only [List.length_cons, List.length_nil]; omega) fun c' h5 h6 => ?_
    refine sS_ ?_
    refine R.b2s ttok (quotW (strB s)) rfl (SrcA.bytes0 rfl) rfl rfl rfl rfl rfl rfl rfl rfl rfl (by kernel_rfl) ?_
    refine sS_ ?_
    refine X.fin ttok () [] trivial rfl rfl rfl hS4_ _ (by first | exact .inl rfl | exact .inr rfl)
end Go.Proofs.YtaieficgifingaaGreatDoor
