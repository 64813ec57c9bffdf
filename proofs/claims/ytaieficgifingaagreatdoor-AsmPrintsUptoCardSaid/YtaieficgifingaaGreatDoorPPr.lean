/- Texts of the claim, merged: only what the theorem needs. -/
import Derived.Test.YtaieficgifingaaGreatDoorPPq
import Derived.Lib.AppendStr
import Derived.Lib.UnsafeStr
import Derived.Lib.Builder
namespace Go.Proofs.YtaieficgifingaaGreatDoor
set_option linter.unusedVariables false
set_option linter.unusedSimpArgs false
set_option linter.unusedSectionVars false
open Go.RowKit
theorem byteZ {P : Program} {T : TypeId} (hi0 : (P.info? T).map (fun i => (i.size, i.bytes, i.zero)) = some (1, 1, some (.int .u8 0))) : ∃ i, P.info? T = some i ∧ i.size = 1 ∧ i.bytes = 1 ∧ i.zero = some (.int .u8 0) := by
  obtain ⟨i, h1, h2⟩ := Option.map_eq_some_iff.1 hi0
  cases h2' : i with
  | mk => exact ⟨i, h1, by rw [Prod.ext_iff, Prod.ext_iff] at h2; exact h2.1, by rw [Prod.ext_iff, Prod.ext_iff] at h2; exact h2.2.1, by rw [Prod.ext_iff, Prod.ext_iff] at h2; exact h2.2.2⟩
theorem strCells_avB (ρ : Env) (s : ByteArray) : AV.concs ρ (avB (strB s)) = Lib.strCells s := by
  rw [avB_concs]
  rfl
theorem run_append_rowS {P : Program} {t u T : TypeId} {tl : TI} (hl : TIok P t tl) (hk : tl.kind = .sl T) (hu : P.underlying u = some .string) (hi0 : (P.info? T).map (fun i => (i.size, i.bytes, i.zero)) = some (1, 1, some (.int .u8 0))) {w : World} {r : Option Nat} {cap n0 : Nat} {xs : List Value} (hrow : RowL w r cap 1 T xs) (hlen : xs.length = n0 * 1) (hcap : cap ≤ 9223372036854775807)
    (s : ByteArray) (h63 : n0 + s.size ≤ 140737488355328) (ty : TypeId) :
    ∃ r' cap' w', (Builtin.append_ #[t, u] ty #[.slice (r.map fun b => ⟨b, 0, none⟩) n0 cap, .string s]).run P w = .ok (.slice (r'.map fun b => ⟨b, 0, none⟩) (n0 + s.size) cap') w' ∧ RowL w' r' cap' 1 T (xs ++ Lib.strCells s) ∧ n0 + s.size ≤ cap' ∧ cap' ≤ 9223372036854775807 ∧
      w.grownBy w' r ∧ (r' = r ∨ r' = some w.heap.size) := by
  obtain ⟨d, hd1, hd2⟩ := hl.und
  rw [hk] at hd2
  simp only at hd2
  subst hd2
  obtain ⟨i, hi, hi1, hi2, hi3⟩ := byteZ hi0
  have hown := row_owns hrow hlen Nat.zero_lt_one hcap
  have hob : ∀ (r : Option Nat) (a b : Nat), (Value.slice (r.map fun b => ⟨b, 0, none⟩) a b).ownBlock = r := fun r a b => by cases r <;> rfl
  obtain ⟨v', w', h1, h2, h3, h4⟩ := Lib.run_append_own_string (P := P) w 0 t u ty T i hd1 hu hi hi3 hi1 hi2 _ n0 xs hown s (by simp only [maxLen]; omega) h63 (Nat.zero_le _)
  obtain ⟨r', cap', rfl, h6, h7, h8⟩ := owns_row h2
  rw [hob] at h3
  refine ⟨r', cap', w', h1, h6, h7, h8, h3, ?_⟩
  have hinj : ∀ {v : Value} {w2 : World}, (Builtin.append_ #[t, u] ty #[.slice (r.map fun b => ⟨b, 0, none⟩) n0 cap, .string s]).run P w = .ok v w2 → r' = v.ownBlock := fun {v w2} hr => by
    rw [h1] at hr
    injection hr with hr _
    rw [← hr, hob]
  rcases hrow.2 with ⟨rfl, hc⟩ | ⟨g, cur, rfl, hg, hcs, htake⟩
  · have hn0 : n0 = 0 := by have := hrow.1; omega
    subst hn0
    subst hc
    by_cases hm : s.size = 0
    · left
      have := (h4.2 ⟨rfl, hm⟩)
      cases r' with
      | none => rfl
      | some b => simp at this
    · right
      exact hinj (run_append_nil_string (P := P) w t u ty T i (.int .u8 0) hd1 hu hi hi3 s (by omega) (by omega) (by rw [hi2]; omega))
  · by_cases hroom : n0 + s.size ≤ cap
    · left
      exact hinj (Lib.run_append_room_string (P := P) w t u ty T i hd1 hu hi hi1 g n0 cap cur hg s hroom (by omega))
    · right
      exact hinj (Lib.run_append_grow_string (P := P) w t u ty T i (.int .u8 0) hd1 hu hi hi3 ⟨g, 0, none⟩ n0 cap xs (by rw [hi1]; exact hlen) (hown.cells (g := g) rfl) s (by omega) (by omega) (by rw [hi2]; exact growslice_fits (by omega) (by omega)))
section
variable {P : Program} {ops : Array Oper} {Q : Exit → Act → World → Prop} {D : Option DD} {E : Base} {n L : Nat} {τ : List (Nat × AV)} {h : List (Nat × AO)} {F : World → Prop} {rest : List Oper}
  {d : Nat} {op : Op} {ty : TypeId} {ps : String} {af : Array Edge} {gd : Option (Nat × Bool)} {tt : List (Nat × TI)}
theorem R.apS (htt : TTok P tt) {t u T : TypeId} {x y : Operand} {v1 : AV} {n0 cap : Nat} {xs : List AV} {gl : List Nat} {tl : TI} {s : ByteArray} (ao : Nat → AO) (hx : evA τ x = some v1) (hy : evA τ y = some (.raw (.string s))) (hd : DstA E n L τ h F v1 T 1 n0 cap xs gl) (hao : AsRow ao T 1 (xs ++ avB (strB s)))
    (ht : lk t tt = some tl) (hkd : tl.kind = .sl T) (hu0 : P.underlying u = some .string) (hi0 : (P.info? T).map (fun i => (i.size, i.bytes, i.zero)) = some (1, 1, some (.int .u8 0)))
    (hg : wantA ops ⟨some d, .call { callee := .builtin .append, args := #[x, y], argTypes := #[t, u] }, ty, ps, af, gd⟩ τ = some true) (hb : (Nat.ble (d + 1) n && chainB h D gl) = true)
    (hcap : cap ≤ 9223372036854775807) (h63 : n0 + s.size ≤ 140737488355328)
    (k : ∀ c, n0 + s.size ≤ c → c ≤ 9223372036854775807 → R P ops Q (actD h D gl) E n (L + 1) ((d, .sl L 1 0 (n0 + s.size) c) :: τ) ((L, ao c) :: (goneK gl ++ h)) F rest) :
    R P ops Q D E n L τ h F (⟨some d, .call { callee := .builtin .append, args := #[x, y], argTypes := #[t, u] }, ty, ps, af, gd⟩ :: rest) := by
  simp only [Bool.and_eq_true] at hb
  refine ⟨RL.acts (σ := Nat) (fun c => n0 + s.size ≤ c ∧ c ≤ 9223372036854775807) (fun c => .sl L 1 0 (n0 + s.size) c) (fun _ => L + 1) (fun c => (L, ao c) :: (goneK gl ++ h)) (fun _ => F) gl hg hb.1 hb.2 (fun _ _ => Nat.le_succ L) (fun ρ a w g => ?_) (fun c hc => (k c hc.1 hc.2).out)⟩
  obtain ⟨hxl, hd⟩ := hd
  obtain ⟨r, h1, h2, h3, h4⟩ := hd ρ a w g
  have h5 : LowS ρ L (avB (strB s)) := avB_low _ _ _
  obtain ⟨r', c, w', e1, e2, e3, e4, e5, e6⟩ := run_append_rowS (htt _ _ ht) hkd hu0 hi0 h2 (by rw [concs_length]; exact hxl) hcap s h63 ty
  have hev1 : a.eval x = .slice (r.map fun b => ⟨b, 0, none⟩) n0 cap := by rw [(g.eval x _ hx).2, h1]
  have hev2 : a.eval y = .string s := (g.eval y _ hy).2
  unfold goes execOp
  simp only [resolve, invoke, builtin, Sem.run_bind, Sem.run_pure, Result.andThen_ok, List.map_toArray, List.map_cons, List.map_nil, hev1, hev2, e1]
  rw [← strCells_avB ρ] at e2
  rw [← concs_append] at e2
  have hrlt : ∀ b, r = some b → b < w.heap.size := fun b hb => by
    rcases h2.2 with ⟨h7, _⟩ | ⟨b', cur, h7, h8, _⟩
    · rw [h7] at hb; cases hb
    · rw [h7] at hb; cases hb; exact (Array.getElem?_eq_some_iff.1 h8).1
  have hs' : ∀ l, l < L → updE ρ L r' l = ρ l := fun l hl => updE_ne ρ _ (by omega)
  have hlowx : LowS ρ L (xs ++ avB (strB s)) := fun z hz => by
    rcases List.mem_append.1 hz with hz | hz
    · exact h3 z hz
    · exact h5 z hz
  have hL1 : ∀ l, hk l h ≠ none → l < L := fun l hl => by
    cases ho : hk l h with
    | none => exact absurd ho hl
    | some o => exact (g.hp l o ho).1
  have hr' : ∀ b, r' = some b → w.heap.size ≤ b ∨ ∃ l0, l0 ∈ gl ∧ wrA l0 h ∧ ρ l0 = some b := fun b hb => by
    rcases e6 with e6 | e6
    · rcases h4 with h4 | ⟨l0, h7, h8, h9⟩
      · rw [e6, h4] at hb; cases hb
      · exact .inr ⟨l0, h7, h8, by rw [h9, ← e6, hb]⟩
    · rw [e6] at hb; cases hb; exact .inl (Nat.le_refl _)
  have hkL : ∀ l, hk l ((L, ao c) :: (goneK gl ++ h)) = if L = l then some (ao c) else if l ∈ gl then none else hk l h := fun l => by
    rw [hk_cons, hk_goneK]
    split
    · have := (hao.1 c).2
      cases hx : ao c <;> simp_all
    · rfl
  have hrow : ∀ l b, hk l h ≠ none → l ∉ gl → ρ l = some b → r ≠ some b := fun l b hl hn hb e => by
    rcases h4 with h4 | ⟨l0, h7, h8, h9⟩
    · rw [h4] at e; cases e
    · exact hn (g.dis l0 l b h8 hl (h9.trans e) hb ▸ h7)
  have hsame : ∀ l b, hk l h ≠ none → l ∉ gl → ρ l = some b → w'.heap[b]? = w.heap[b]? := fun l b hl hn hb => e5.block b (g.lt hl hb) fun e => hrow l b hl hn hb e.symm
  have hne : ∀ l, L ≠ l → hk l ((L, ao c) :: (goneK gl ++ h)) ≠ none → hk l h ≠ none ∧ l ∉ gl := fun l e hl => by
    rw [hkL, if_neg e] at hl
    split at hl
    · exact absurd rfl hl
    · rename_i h7; exact ⟨hl, h7⟩
  have hnw : ∀ l, L ≠ l → wrA l ((L, ao c) :: (goneK gl ++ h)) → wrA l h := fun l e hl => by
    obtain ⟨o1, h7, h8⟩ := hl
    rw [hkL, if_neg e] at h7
    split at h7
    · cases h7
    · exact ⟨o1, h7, h8⟩
  have hclash : ∀ l b, L ≠ l → hk l ((L, ao c) :: (goneK gl ++ h)) ≠ none → ρ l = some b → r' = some b → False := fun l b e hl hb hb' => by
    obtain ⟨h7, h8⟩ := hne l e hl
    rcases hr' b hb' with h9 | ⟨l0, h9, h10, h11⟩
    · have := g.lt h7 hb; omega
    · exact h8 (g.dis l0 l b h10 h7 h11 hb ▸ h9)
  refine ⟨c, updE ρ L r', ⟨e3, e4⟩, by simp [AV.conc, updE_same], sl_low (updE ρ L r') L _ 0 (n0 + s.size) c, hs', ?_, fun l b hl hb hn => (hsame l b hl hn hb).symm⟩
  refine g.turn hs' (Nat.le_succ L) ⟨e5.os, e5.tape, e5.output, e5.size, fun b hb hd => e5.block b hb fun e => ?_⟩ (fun l o ho => ?_) (fun l l' b hl hl' hb hb' => ?_) (fun l b hl hb => ?_) (fun l b h7 h8 hb => ?_)
  · rcases h4 with h4 | ⟨l0, h7, h8, h9⟩
    · rw [h4] at e; cases e
    · exact hd l0 h8 (h9.trans e.symm)
  · by_cases e : L = l
    · subst e
      rw [hkL, if_pos rfl] at ho
      cases ho
      have hlx : LowS (updE ρ L r') (L + 1) (xs ++ avB (strB s)) := fun z hz => ((hlowx z hz).ext hs').mono (Nat.le_succ L)
      obtain ⟨h7, h8⟩ := hao.2 c (updE ρ L r') (L + 1) hlx
      refine ⟨by omega, h7, h8 _ _ ?_⟩
      rw [updE_same, concs_low hlowx _ hs']
      exact e2
    · have h7 := hne l e (by rw [ho]; simp)
      rw [hkL, if_neg e, if_neg h7.2] at ho
      have hh := g.hp l o ho
      refine ⟨by omega, (hh.2.1.ext hs').mono (Nat.le_succ L), ?_⟩
      rw [hs' l hh.1]
      exact holds_same ((hh.2.1 _ hs' _ _).1 hh.2.2) fun b hb => hsame l b h7.1 h7.2 hb
  · by_cases e1 : L = l <;> by_cases e2 : L = l'
    · omega
    · exfalso
      subst e1
      rw [updE_same] at hb
      rw [updE_ne ρ _ (fun e => e2 e.symm)] at hb'
      exact hclash l' b e2 hl' hb' hb
    · exfalso
      subst e2
      rw [updE_same] at hb'
      rw [updE_ne ρ _ (fun e => e1 e.symm)] at hb
      exact hclash l b e1 hl.live hb hb'
    · rw [updE_ne ρ _ (fun e => e1 e.symm)] at hb
      rw [updE_ne ρ _ (fun e => e2 e.symm)] at hb'
      exact g.dis l l' b (hnw l e1 hl) (hne l' e2 hl').1 hb hb'
  · by_cases e1 : L = l
    · subst e1
      rw [updE_same] at hb
      exact (hr' b hb).imp id fun ⟨l0, h7, h8, h9⟩ => ⟨l0, h8, h9⟩
    · rw [updE_ne ρ _ (fun e => e1 e.symm)] at hb
      exact .inr ⟨l, hnw l e1 hl, hb⟩
  · obtain rfl : l = L := by omega
    rw [updE_same] at hb
    rcases e2.2 with ⟨h9, _⟩ | ⟨b', cur, h9, h10, _⟩
    · rw [h9] at hb; cases hb
    · rw [h9] at hb; cases hb; exact (Array.getElem?_eq_some_iff.1 h10).1
/-- a text behind bytes of one's own -/
theorem R.apt (htt : TTok P tt) {t u T : TypeId} {x y : Operand} {l n0 cap : Nat} {p q : List UInt8} {tl : TI} {s : ByteArray} (hx : evA τ x = some (.sl l 1 0 n0 cap)) (hl : hk l h = some (.bytes p cap T)) (hn : n0 = p.length) (hy : evA τ y = some (.raw (.string s))) (hr : p ++ strB s = q)
    (ht : lk t tt = some tl) (hkd : tl.kind = .sl T) (hu0 : P.underlying u = some .string) (hi0 : (P.info? T).map (fun i => (i.size, i.bytes, i.zero)) = some (1, 1, some (.int .u8 0)))
    (hg : wantA ops ⟨some d, .call { callee := .builtin .append, args := #[x, y], argTypes := #[t, u] }, ty, ps, af, gd⟩ τ = some true) (hb : (Nat.ble (d + 1) n && chainB h D [l]) = true)
    (hcap : cap ≤ 9223372036854775807) (hby : q.length ≤ 140737488355328)
    (k : ∀ c, q.length ≤ c → c ≤ 9223372036854775807 → R P ops Q (actD h D [l]) E n (L + 1) ((d, .sl L 1 0 q.length c) :: τ) ((L, .bytes q c T) :: (l, .gone) :: h) F rest) :
    R P ops Q D E n L τ h F (⟨some d, .call { callee := .builtin .append, args := #[x, y], argTypes := #[t, u] }, ty, ps, af, gd⟩ :: rest) := by
  subst hr
  have hlen : n0 + s.size = (p ++ strB s).length := by rw [List.length_append, strB_size]; omega
  refine R.apS htt (fun c => .bytes (p ++ strB s) c T) hx hy (DstA.bytes hl hn) (by rw [← avB_append]; exact AsRow.bytes T _) ht hkd hu0 hi0 hg hb hcap (by omega) fun c h1 h2 => ?_
  rw [hlen] at h1 ⊢
  exact k c h1 h2
/-- an entry of the model's own that hands on what it is handed -/
theorem R.same {f : FuncId} {x : Operand} {ats : Array TypeId} {v : AV} {e : Array Value → Sem Value} (eg : ∀ args w, (callFunc f args).run P w = ((e args).run P w).andThen fun v w' => .ok (.value v) w') (he : ∀ v w, (e #[v]).run P w = .ok v w)
    (hx : evA τ x = some v) (hg : wantA ops ⟨some d, .call { callee := .value (.func f), args := #[x], argTypes := ats }, ty, ps, af, gd⟩ τ = some true) (hb : (Nat.ble (d + 1) n && lookB D []) = true)
    (k : R P ops Q (lookD D []) E n L ((d, v) :: τ) h F rest) : R P ops Q D E n L τ h F (⟨some d, .call { callee := .value (.func f), args := #[x], argTypes := ats }, ty, ps, af, gd⟩ :: rest) :=
  R.pure _ (fun ρ a w g => ⟨(g.eval x _ hx).1, fun W => by
    have hev := (g.eval x _ hx).2
    unfold execOp
    simp only [resolve, invoke, Act.eval, Deferred.ofValue, Sem.run_bind, Sem.run_pure, Result.andThen_ok, Array.append_empty, Array.empty_append, List.map_toArray, List.map_cons, List.map_nil]
    have hev' : Act.eval a x = v.conc ρ := hev
    simp only [Act.eval] at hev'
    first | rw [hev'] | rw [hev] | skip
    rw [eg, he]
    rfl⟩) hg hb k
/-- a pointer to a variable as a plain address -/
theorem R.cvu {s0 t0 t : TypeId} {x : Operand} {l w0 i c k : Nat} {xs : List AV} {T : TypeId} (hx : evA τ x = some (.ptr l w0 i c)) (hl : hk l h = some (.cells xs T)) (hs : P.underlying s0 = some (.pointer t)) (hd : P.underlying t0 = some .unsafePointer) (hj : (P.info? t).map (fun j => j.size) = some (k + 1)) (hlen : i * w0 + c < xs.length)
    (hg : wantA ops ⟨some d, .convert s0 t0 x, ty, ps, af, gd⟩ τ = some true) (hb : (Nat.ble (d + 1) n && chainB h D []) = true) (k : R P ops Q (actD h D []) E n L ((d, .ptr l w0 i c) :: τ) h F rest) : R P ops Q D E n L τ h F (⟨some d, .convert s0 t0 x, ty, ps, af, gd⟩ :: rest) := by
  obtain ⟨j, hj1, hj2⟩ := Option.map_eq_some_iff.1 hj
  refine R.act0 (σ := Unit) (fun _ => True) (fun _ => .ptr l w0 i c) (fun ρ a w g => ⟨(), trivial, (g.eval x _ hx).1, ?_⟩) hg hb (fun _ _ => k)
  obtain ⟨b, hr, hbk⟩ := (g.hp l _ hl).2.2
  have hsh : w.shape? b = some (T, xs.length) := by simp [World.shape?, hbk, concs_length]
  have hrun := Lib.run_to_unsafe (P := P) w ⟨b, i * w0 + c, none⟩ hs hd hj1 (by rw [hj2]; omega) hsh hlen
  unfold execOp
  simp only [(g.eval x _ hx).2, AV.conc, hr, Option.getD_some, Sem.run_bind, hrun, Result.andThen_ok]
  rfl
/-- and back -/
theorem R.cvf {s0 t0 u : TypeId} {x : Operand} {l w0 i c : Nat} {xs : List AV} {T : TypeId} (hx : evA τ x = some (.ptr l w0 i c)) (hl : hk l h = some (.cells xs T)) (hs : P.underlying s0 = some .unsafePointer) (hd : P.underlying t0 = some (.pointer u)) (hj : (P.info? u).isSome = true) (hlies : liesAt P P.depth T (xs.length / P.cellsOf T) (i * w0 + c) u 1 = true)
    (hg : wantA ops ⟨some d, .convert s0 t0 x, ty, ps, af, gd⟩ τ = some true) (hb : (Nat.ble (d + 1) n && chainB h D []) = true) (k : R P ops Q (actD h D []) E n L ((d, .ptr l w0 i c) :: τ) h F rest) : R P ops Q D E n L τ h F (⟨some d, .convert s0 t0 x, ty, ps, af, gd⟩ :: rest) := by
  obtain ⟨j, hj1⟩ := Option.isSome_iff_exists.1 hj
  refine R.act0 (σ := Unit) (fun _ => True) (fun _ => .ptr l w0 i c) (fun ρ a w g => ⟨(), trivial, (g.eval x _ hx).1, ?_⟩) hg hb (fun _ _ => k)
  obtain ⟨b, hr, hbk⟩ := (g.hp l _ hl).2.2
  have hsh : w.shape? b = some (T, xs.length) := by simp [World.shape?, hbk, concs_length]
  have hrun := Lib.run_from_unsafe (P := P) w ⟨b, i * w0 + c, none⟩ hs hd hj1 hsh hlies
  unfold execOp
  simp only [(g.eval x _ hx).2, AV.conc, hr, Option.getD_some, Sem.run_bind, hrun, Result.andThen_ok]
  rfl
/-- where a list of bytes lies -/
theorem R.usd {x : Operand} {ts : Array TypeId} {l n0 cap c : Nat} {p : List UInt8} {T : TypeId} (hx : evA τ x = some (.sl l 1 0 n0 cap)) (hl : hk l h = some (.bytes p c T)) (hc : 0 < c) (hc2 : 0 < cap)
    (hg : wantA ops ⟨some d, .call { callee := .builtin .unsafeSliceData, args := #[x], argTypes := ts }, ty, ps, af, gd⟩ τ = some true) (hb : (Nat.ble (d + 1) n && chainB h D []) = true) (k : R P ops Q (actD h D []) E n L ((d, .ptr l 1 0 0) :: τ) h F rest) :
    R P ops Q D E n L τ h F (⟨some d, .call { callee := .builtin .unsafeSliceData, args := #[x], argTypes := ts }, ty, ps, af, gd⟩ :: rest) := by
  refine R.act0 (σ := Unit) (fun _ => True) (fun _ => .ptr l 1 0 0) (fun ρ a w g => ⟨(), trivial, ?_, ?_⟩) hg hb (fun _ _ => k)
  · have hlL := (g.hp l _ hl).1
    exact fun ρ' he => by simp [AV.conc, he l hlL]
  · have hh := (g.hp l _ hl).2.2
    rcases hh.2 with ⟨_, h0⟩ | ⟨b, cur, hr, _⟩
    · omega
    · have hev : a.eval x = .slice (some ⟨b, 0, none⟩) n0 cap := by rw [(g.eval x _ hx).2]; simp [AV.conc, hr]
      have hrun := Lib.run_unsafeSliceData_row (P := P) w ts ty ⟨b, 0, none⟩ n0 cap (by omega)
      unfold execOp
      simp only [resolve, invoke, builtin, Sem.run_bind, Sem.run_pure, Result.andThen_ok, List.map_toArray, List.map_cons, List.map_nil, hev, hrun, AV.conc, hr, Option.getD_some]
theorem freeze_other {w : World} {g m b : Nat} (hb : b ≠ g) : (w.freeze ⟨g, 0, none⟩ m).heap[b]? = w.heap[b]? := by
  unfold World.freeze
  split
  · rfl
  · simp only [Array.getElem?_modify]
    rw [if_neg (fun e => hb e.symm)]
theorem freeze_size {w : World} {g m : Nat} : (w.freeze ⟨g, 0, none⟩ m).heap.size = w.heap.size ∧ (w.freeze ⟨g, 0, none⟩ m).os = w.os ∧ (w.freeze ⟨g, 0, none⟩ m).tape = w.tape ∧ (w.freeze ⟨g, 0, none⟩ m).output = w.output := by
  unfold World.freeze
  split
  · exact ⟨rfl, rfl, rfl, rfl⟩
  · simp
/-- bytes as a text; they are not told any more -/
theorem R.ust {x y : Operand} {pt it : TypeId} {l cap : Nat} {j : Int} {p : List UInt8} {T : TypeId} (hx : evA τ x = some (.ptr l 1 0 0)) (hy : evA τ y = some (.raw (.int .i64 j))) (hj : j = (p.length : Nat)) (hl : hk l h = some (.bytes p cap T)) (h0 : p ≠ []) (h63 : p.length ≤ 9223372036854775807) (hp : P.underlying pt = some (.pointer T)) (hc : P.cellsOf T = 1)
    (hg : wantA ops ⟨some d, .call { callee := .builtin .unsafeString, args := #[x, y], argTypes := #[pt, it] }, ty, ps, af, gd⟩ τ = some true) (hb : (Nat.ble (d + 1) n && chainB h D [l]) = true) (k : R P ops Q (actD h D [l]) E n L ((d, .raw (.string (strOf p))) :: τ) ((l, .gone) :: h) F rest) :
    R P ops Q D E n L τ h F (⟨some d, .call { callee := .builtin .unsafeString, args := #[x, y], argTypes := #[pt, it] }, ty, ps, af, gd⟩ :: rest) := by
  simp only [Bool.and_eq_true] at hb
  refine ⟨RL.acts (σ := Unit) (fun _ => True) (fun _ => .raw (.string (strOf p))) (fun _ => L) (fun _ => (l, .gone) :: h) (fun _ => F) [l] hg hb.1 hb.2 (fun _ _ => Nat.le_refl L) (fun ρ a w g => ?_) (fun _ _ => k.out)⟩
  subst hj
  have hh := (g.hp l _ hl).2.2
  have hpl : 0 < p.length := List.length_pos_iff.2 h0
  rcases hh.2 with ⟨_, hc0⟩ | ⟨b, cur, hr, hbk, hs, hcur⟩
  · have := hh.1; omega
  have hevx : a.eval x = .pointer (some ⟨b, 0, none⟩) := by rw [(g.eval x _ hx).2]; simp [AV.conc, hr]
  have hevy : a.eval y = .int .i64 (p.length : Nat) := (g.eval y _ hy).2
  have hrun := Lib.run_unsafeString_row (P := P) w pt it ty T hp hc b cur.size (by simp [World.shape?, hbk]) p h0 (by have := hh.1; omega) h63 (fun j x hj => by
    obtain ⟨hjl, he⟩ := List.getElem?_eq_some_iff.1 hj
    have := hcur j hjl
    rw [he] at this
    have hadd : ((⟨b, 0, none⟩ : Addr).add j) = ⟨b, j, none⟩ := by unfold Addr.add; split <;> simp_all
    rw [hadd]
    simp [World.cell?, hbk, this, byteV])
  unfold goes execOp
  simp only [resolve, invoke, builtin, Sem.run_bind, Sem.run_pure, Result.andThen_ok, List.map_toArray, List.map_cons, List.map_nil, hevx, hevy, hrun]
  have hfs := freeze_size (w := w) (g := b) (m := p.length)
  refine ⟨(), ρ, trivial, rfl, AV.Low.raw _ _ _, fun _ _ => rfl, g.set hl rfl hr (fun _ _ _ _ => Iff.rfl) trivial (fun b' hb' => freeze_other hb') hfs.1 hfs.2, fun l' b' hl' hb' hn => ?_⟩
  by_cases e : b' = b
  · subst e
    exact absurd (g.dis l l' b' ⟨_, hl, rfl⟩ hl' hr hb') (fun e => hn (by simp [e]))
  · exact (freeze_other e).symm
end
end Go.Proofs.YtaieficgifingaaGreatDoor
namespace Go.Proofs.YtaieficgifingaaGreatDoor
set_option linter.unusedVariables false
set_option linter.unusedSimpArgs false
open Go.RowKit
set_option maxRecDepth 100000
set_option maxHeartbeats 4000000
def hexD (k : Nat) : UInt8 := [48, 49, 50, 51, 52, 53, 54, 55, 56, 57, 97, 98, 99, 100, 101, 102].getD k 0
abbrev qh (c : UInt8) : List UInt8 := [92, 120, hexD (c.toNat / 16), hexD (c.toNat % 16)]
def quotC (c : UInt8) : List UInt8 := if c = 34 ∨ c = 92 then [92, c] else if c.toNat < 32 ∨ 126 < c.toNat then [92, 120, hexD (c.toNat / 16), hexD (c.toNat % 16)] else [c]
def quotW (l : List UInt8) : List UInt8 := [34] ++ l.flatMap quotC ++ [34]
theorem quotC_len (c : UInt8) : (quotC c).length ≤ 4 := by
  unfold quotC
  split
  · simp
  · split <;> simp
theorem flatC_len (l : List UInt8) : (l.flatMap quotC).length ≤ 4 * l.length := by
  induction l with
  | nil => simp
  | cons c r ih =>
    rw [List.flatMap_cons, List.length_append, List.length_cons]
    have := quotC_len c
    omega
theorem take_snoc {l : List UInt8} {i : Nat} (h : i < l.length) : l.take (i + 1) = l.take i ++ [l.getD i 0] := by
  rw [List.take_succ_eq_append_getElem h, List.getD_eq_getElem?_getD, List.getElem?_eq_getElem h]; rfl
theorem flat_snoc {l : List UInt8} {i : Nat} (h : i < l.length) : (l.take (i + 1)).flatMap quotC = (l.take i).flatMap quotC ++ quotC (l.getD i 0) := by
  rw [take_snoc h, List.flatMap_append]
  simp
theorem and15 {x : Nat} (h : x < 256) : bitV .and .u8 ((x : Nat) : Int) 15 = ((x % 16 : Nat) : Int) := by
  have key : ∀ a : Fin 256, bitV .and .u8 ((a.val : Nat) : Int) 15 = ((a.val % 16 : Nat) : Int) := by decide
  exact key ⟨x, h⟩
theorem quote_spec (s : ByteArray) (hs : s.size ≤ 1000000) : Spec Tryz.prog 53 [.raw (.string s)] [] 0 (σ := Unit) (fun _ => True) (fun _ => .raw (.string (strOf (quotW (strB s))))) (fun _ => []) := by
  refine Spec.of Tryz.func53 rfl Tryz.ntmps53 rfl (bdl_nil _) fun ρ w => ?_
  have hlen := strB_size s
  refine sS_ ?_
  refine R.s2b ttok rfl rfl rfl rfl rfl rfl rfl rfl rfl fun c1 => ?_
  refine sS_ ?_
  refine C.tellB 0 [34] rfl rfl ?_
  refine C.loop (σ := Nat × Nat) (L2 := 2) (fun x => x.1 ≤ (strB s).length ∧ x.2 ≤ 9223372036854775807) (fun x => [(0, .raw (.string s)), (3, .sl 0 1 0 ([34] ++ ((strB s).take x.1).flatMap quotC).length x.2), (8, .sl 1 1 0 (strB s).length c1), (9, .raw (.int .i64 ((strB s).length : Nat))), (10, .raw (.int .i64 (x.1 : Nat)))]) (fun x => [(0, .bytes ([34] ++ ((strB s).take x.1).flatMap quotC) x.2 5), (1, .ro 1 0 (strB s).length (bytesF (strB s)))]) _ (fun x => (strB s).length - x.1) [] (0, 1) ⟨Nat.zero_le _, by decide⟩ rfl hS9_ hS5_ rfl (fun _ h => h) ?_
  rintro ⟨i, c⟩ ⟨hi, hc⟩
  dsimp only at hi hc ⊢
  have hfl := flatC_len ((strB s).take i)
  rw [List.length_take] at hfl
  refine sS_ ?_
  by_cases hlt : i < (strB s).length
  · rw [decide_eq_true (show ((i : Nat) : Int) < ((strB s).length : Nat) by omega)]
    have hst := flat_snoc hlt
    refine sS_ ?_
    refine R.ix ttok i rfl rfl rfl rfl rfl (by kernel_rfl) rfl hlt (by show _ ≤ _ ∧ _ < _; omega) rfl ?_
    refine R.ldo (v := .raw (byteV ((strB s).getD i 0))) ttok rfl rfl rfl rfl rfl (by kernel_rfl) hlt ?_
    obtain ⟨b, hb⟩ : ∃ b, (strB s).getD i 0 = b := ⟨_, rfl⟩
    rw [hb] at hst ⊢
    have hbN : b.toNat < 256 := b.toNat_lt
    obtain ⟨q, hq⟩ : ∃ q, ((strB s).take i).flatMap quotC = q := ⟨_, rfl⟩
    rw [hq] at hst hfl ⊢
    have hcv : ∀ k : UInt8, ((((b.toNat : Nat) : Int) = (k.toNat : Nat)) ↔ b = k) := fun k => ⟨fun e => UInt8.toNat_inj.1 (by omega), fun e => by rw [e]⟩
    refine sS_ ?_
    by_cases h34 : b = 34
    · rw [decide_eq_true (show (((b.toNat : Nat) : Int) = 34) from (hcv 34).2 h34)]
      have hqc : quotC b = [92, b] := by unfold quotC; rw [if_pos (.inl h34)]
      rw [hqc] at hst
      refine sS_ ?_
      refine R.apb ttok (q := [92, b]) rfl rfl rfl rfl (SrcA.cells rfl rfl) (rfl) rfl rfl rfl rfl rfl rfl rfl rfl hc (by rw [List.length_append, List.length_append]; simp only [List.length_cons, List.length_nil]; omega) fun c' h5 h6 => ?_
      refine sS_ ?_
      have hnew : [34] ++ ((strB s).take (i + 1)).flatMap quotC = [34] ++ q ++ [92, b] := by rw [hst, List.append_assoc]
      exact X.back [(0, 3)] (i + 1, c') ⟨hlt, h6⟩ (by dsimp only; omega) rfl (by
        show HasT _ _ _ [_, (3, .sl 0 1 0 ([34] ++ ((strB s).take (i + 1)).flatMap quotC).length c'), _, _, _]
        rw [hnew]
        exact hS9_) (by
        show HasH _ _ _ [(0, .bytes ([34] ++ ((strB s).take (i + 1)).flatMap quotC) c' 5), _]
        rw [hnew]
        exact hS5_) rfl (fun _ h => h)
    · rw [decide_eq_false (show ¬ (((b.toNat : Nat) : Int) = 34) from fun e => h34 ((hcv 34).1 e))]
      refine sS_ ?_
      by_cases h92 : b = 92
      · rw [decide_eq_true (show (((b.toNat : Nat) : Int) = 92) from (hcv 92).2 h92)]
        have hqc : quotC b = [92, b] := by unfold quotC; rw [if_pos (.inr h92)]
        rw [hqc] at hst
        refine sS_ ?_
        refine R.apb ttok (q := [92, b]) rfl rfl rfl rfl (SrcA.cells rfl rfl) (rfl) rfl rfl rfl rfl rfl rfl rfl rfl hc (by rw [List.length_append, List.length_append]; simp only [List.length_cons, List.length_nil]; omega) fun c' h5 h6 => ?_
        refine sS_ ?_
        have hnew : [34] ++ ((strB s).take (i + 1)).flatMap quotC = [34] ++ q ++ [92, b] := by rw [hst, List.append_assoc]
        exact X.back [(0, 3)] (i + 1, c') ⟨hlt, h6⟩ (by dsimp only; omega) rfl (by
          show HasT _ _ _ [_, (3, .sl 0 1 0 ([34] ++ ((strB s).take (i + 1)).flatMap quotC).length c'), _, _, _]
          rw [hnew]
          exact hS9_) (by
          show HasH _ _ _ [(0, .bytes ([34] ++ ((strB s).take (i + 1)).flatMap quotC) c' 5), _]
          rw [hnew]
          exact hS5_) rfl (fun _ h => h)
      · rw [decide_eq_false (show ¬ (((b.toNat : Nat) : Int) = 92) from fun e => h92 ((hcv 92).1 e))]
        have hno : ¬ (b = 34 ∨ b = 92) := fun h => h.elim h34 h92
        refine sS_ ?_
        by_cases hlo : b.toNat < 32
        · rw [decide_eq_true (show ((b.toNat : Nat) : Int) < 32 by omega)]
          have hor : b.toNat < 32 ∨ 126 < b.toNat := .inl hlo
          have hqc : quotC b = qh b := by unfold quotC; rw [if_neg hno, if_pos hor]
          rw [hqc] at hst
          refine sS_ ?_
          refine C.draw [[], [], [1], [1, 2], [], [4], [4, 5], [1, 2, 3, 4, 5, 6], [0, 1, 2, 3, 4, 5, 6, 7], [0, 1, 2, 3, 4, 5, 6, 7, 8]] [7, 8] (by kernel_rfl) (by kernel_rfl) ?_
          refine sS_ ?_
          refine R.shr ((b.toNat / 16 : Nat) : Int) rfl rfl rfl (by kernel_rfl) (by decide) (by
            rw [show min (4 : Int).toNat IntKind.u8.bits = 4 from rfl, Int.fdiv_eq_ediv_of_nonneg _ (by decide)]
            rw [show (2 : Int) ^ 4 = 16 from rfl]; omega) ?_
          refine R.sx ttok (b.toNat / 16) rfl rfl rfl rfl (by kernel_rfl) rfl (by show _ < 16; omega) ?_
          refine sS_ ?_
          refine R.sx ttok (b.toNat % 16) rfl rfl rfl rfl (by kernel_rfl) (and15 hbN) (by show _ < 16; omega) ?_
          refine sS_ ?_
          refine R.apb ttok (q := qh b) rfl rfl rfl rfl (SrcA.cells rfl rfl) (rfl) rfl rfl rfl rfl rfl rfl rfl rfl hc (by rw [List.length_append, List.length_append]; simp only [List.length_cons, List.length_nil]; omega) fun c' h5 h6 => ?_
          refine sS_ ?_
          have hnew : [34] ++ ((strB s).take (i + 1)).flatMap quotC = [34] ++ q ++ qh b := by rw [hst, List.append_assoc]
          exact X.back [(0, 3)] (i + 1, c') ⟨hlt, h6⟩ (by dsimp only; omega) rfl (by
            show HasT _ _ _ [_, (3, .sl 0 1 0 ([34] ++ ((strB s).take (i + 1)).flatMap quotC).length c'), _, _, _]
            rw [hnew]
            exact hS9_) (by
            show HasH _ _ _ [(0, .bytes ([34] ++ ((strB s).take (i + 1)).flatMap quotC) c' 5), _]
            rw [hnew]
            exact hS5_) rfl (fun _ h => h)
        · rw [decide_eq_false (show ¬ ((b.toNat : Nat) : Int) < 32 by omega)]
          refine sS_ ?_
          by_cases hhi : 126 < b.toNat
          · rw [decide_eq_true (show ((b.toNat : Nat) : Int) > 126 by omega)]
            have hor : b.toNat < 32 ∨ 126 < b.toNat := .inr hhi
            have hqc : quotC b = qh b := by unfold quotC; rw [if_neg hno, if_pos hor]
            rw [hqc] at hst
            refine sS_ ?_
            refine C.draw [[], [], [1], [1, 2], [], [4], [4, 5], [1, 2, 3, 4, 5, 6], [0, 1, 2, 3, 4, 5, 6, 7], [0, 1, 2, 3, 4, 5, 6, 7, 8]] [7, 8] (by kernel_rfl) (by kernel_rfl) ?_
            refine sS_ ?_
            refine R.shr ((b.toNat / 16 : Nat) : Int) rfl rfl rfl (by kernel_rfl) (by decide) (by
              rw [show min (4 : Int).toNat IntKind.u8.bits = 4 from rfl, Int.fdiv_eq_ediv_of_nonneg _ (by decide)]
              rw [show (2 : Int) ^ 4 = 16 from rfl]; omega) ?_
            refine R.sx ttok (b.toNat / 16) rfl rfl rfl rfl (by kernel_rfl) rfl (by show _ < 16; omega) ?_
            refine sS_ ?_
            refine R.sx ttok (b.toNat % 16) rfl rfl rfl rfl (by kernel_rfl) (and15 hbN) (by show _ < 16; omega) ?_
            refine sS_ ?_
            refine R.apb ttok (q := qh b) rfl rfl rfl rfl (SrcA.cells rfl rfl) (rfl) rfl rfl rfl rfl rfl rfl rfl rfl hc (by rw [List.length_append, List.length_append]; simp only [List.length_cons, List.length_nil]; omega) fun c' h5 h6 => ?_
            refine sS_ ?_
            have hnew : [34] ++ ((strB s).take (i + 1)).flatMap quotC = [34] ++ q ++ qh b := by rw [hst, List.append_assoc]
            exact X.back [(0, 3)] (i + 1, c') ⟨hlt, h6⟩ (by dsimp only; omega) rfl (by
              show HasT _ _ _ [_, (3, .sl 0 1 0 ([34] ++ ((strB s).take (i + 1)).flatMap quotC).length c'), _, _, _]
              rw [hnew]
              exact hS9_) (by
              show HasH _ _ _ [(0, .bytes ([34] ++ ((strB s).take (i + 1)).flatMap quotC) c' 5), _]
              rw [hnew]
              exact hS5_) rfl (fun _ h => h)
          · rw [decide_eq_false (show ¬ ((b.toNat : Nat) : Int) > 126 by omega)]
            have hqc : quotC b = [b] := by unfold quotC; rw [if_neg hno, if_neg (by omega)]
            rw [hqc] at hst
            refine sS_ ?_
            refine R.apb ttok (q := [b]) rfl rfl rfl rfl (SrcA.cells rfl rfl) (rfl) rfl rfl rfl rfl rfl rfl rfl rfl hc (by rw [List.length_append, List.length_append]; simp only [List.length_cons, List.length_nil]; omega) fun c' h5 h6 => ?_
            refine sS_ ?_
            have hnew : [34] ++ ((strB s).take (i + 1)).flatMap quotC = [34] ++ q ++ [b] := by rw [hst, List.append_assoc]
            exact X.back [(0, 3)] (i + 1, c') ⟨hlt, h6⟩ (by dsimp only; omega) rfl (by
              show HasT _ _ _ [_, (3, .sl 0 1 0 ([34] ++ ((strB s).take (i + 1)).flatMap quotC).length c'), _, _, _]
              rw [hnew]
              exact hS9_) (by
              show HasH _ _ _ [(0, .bytes ([34] ++ ((strB s).take (i + 1)).flatMap quotC) c' 5), _]
              rw [hnew]
              exact hS5_) rfl (fun _ h => h)
  · rw [decide_eq_false (show ¬ ((i : Nat) : Int) < ((strB s).length : Nat) by omega)]
    obtain rfl : i = (strB s).length := by omega
    rw [List.take_length] at hfl ⊢
    refine sS_ ?_
    refine R.apb ttok (q := [34]) rfl rfl rfl rfl (SrcA.cells rfl rfl) rfl rfl rfl rfl rfl rfl rfl rfl rfl hc (by rw [List.length_append, List.length_append]; simp only [List.length_cons, List.length_nil]; omega) fun c' h5 h6 => ?_
    refine sS_ ?_
    refine R.b2s ttok (quotW (strB s)) rfl (SrcA.bytes0 rfl) rfl rfl rfl rfl rfl rfl rfl rfl rfl (by kernel_rfl) ?_
    refine sS_ ?_
    refine X.fin ttok () [] trivial rfl rfl rfl hS5_ _ (by first | exact .inl rfl | exact .inr rfl)
end Go.Proofs.YtaieficgifingaaGreatDoor
