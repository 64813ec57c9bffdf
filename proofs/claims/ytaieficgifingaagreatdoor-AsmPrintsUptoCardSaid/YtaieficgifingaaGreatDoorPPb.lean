/- Texts of the claim, merged: only what the theorem needs. -/
import Derived.Test.YtaieficgifingaaGreatDoorPPa
import Derived.Deep.QuietTactic
namespace Go.Proofs.YtaieficgifingaaGreatDoor
set_option linter.unusedVariables false
set_option linter.unusedSimpArgs false
set_option linter.unusedSectionVars false
open Go.RowKit
/-- an operation's outcome: a value and a world -/
def upTo (P : Program) (R : Value → World → Prop) : Result Next → Prop
  | .ok (.value v) w' => R v w'
  | .ok .skip w' => R undef w'
  | .ok (.enter f args) w' => Calls P f args w' fun e w'' => ∃ v, e = .returned v ∧ R v w''
  | _ => False
def goes (P : Program) (o : Oper) (a : Act) (w : World) (R : Value → World → Prop) : Prop := upTo P R ((execOp a.eval o).run P w)
section
variable {P : Program} {o : Oper} {a : Act} {w : World}
theorem upTo_mono {R R' : Value → World → Prop} {r : Result Next} (h : upTo P R r) (hr : ∀ v w', R v w' → R' v w') : upTo P R' r := by
  cases r with
  | ok n w' =>
    cases n <;> simp only [upTo] at h ⊢
    case value v => exact hr _ _ h
    case skip => exact hr _ _ h
    case enter f args => exact h.mono fun e w'' ⟨v, he, hv⟩ => ⟨v, he, hr _ _ hv⟩
  | halt x w' => exact h
theorem goes_mono {R R' : Value → World → Prop} (h : goes P o a w R) (hr : ∀ v w', R v w' → R' v w') : goes P o a w R' := upTo_mono h hr
theorem goes_same {R : Value → World → Prop} {a' : Act} (he : execOp a'.eval o = execOp a.eval o) (h : goes P o a w R) : goes P o a' w R := by
  unfold goes at *; rw [he]; exact h
theorem upTo_some {R : Value → World → Prop} {r : Result Next} (h : upTo P R r) : ∃ v w', R v w' := by
  cases r with
  | ok n w' =>
    cases n <;> simp only [upTo] at h
    case value v => exact ⟨_, _, h⟩
    case skip => exact ⟨_, _, h⟩
    case enter f args =>
      obtain ⟨e, w'', fr, ⟨v, _, hR⟩, _⟩ := h []
      exact ⟨_, _, hR⟩
  | halt x w' => exact h.elim
theorem goes_some {R : Value → World → Prop} (h : goes P o a w R) : ∃ v w', R v w' := upTo_some h
theorem goes_wp {R : Value → World → Prop} {K : Act → World → Prop} {Q : Exit → Act → World → Prop} (h : goes P o a w R) (hk : ∀ v w', R v w' → K (a.put o.dst v) w') : o.wp P a w K Q := by
  unfold goes at h
  unfold Oper.wp
  generalize (execOp a.eval o).run P w = r at h
  cases r with
  | ok n w' =>
    cases n <;> simp only [upTo] at h <;> simp only [Oper.upon]
    case value v => exact hk _ _ h
    case skip => exact hk _ _ h
    case enter f args =>
      refine h.mono ?_
      rintro e w'' ⟨v, rfl, hv⟩
      exact hk _ _ hv
  | halt x w' => exact h.elim
end
section
variable (P : Program) (ops : Array Oper) (Q : Exit → Act → World → Prop) (ch : Nat → Bool) (pr : Nat → Nat → Bool) (st : Nat → Nat)
/-- ch: the chain; pr: what comes ahead of what; st: how many of the chain come ahead; pend: blocks that an operation ahead in the text may look at later -/
def CH : List Nat → List (Nat × Nat) → World → List World → Act → Prop
  | [], _, W, _, a => Q .normal a W
  | j :: rest, pend, W, Ws, a => ∀ o, ops[j]? = some o →
    if Region.wanted o (yielded ops a.tmps) = true then
      if ch j = true then goes P o a W (fun v w' => (∀ p ∈ pend, pr p.1 j = false → w'.heap[p.2]? = W.heap[p.2]?) ∧ CH rest pend w' (W :: Ws) (a.put o.dst v))
      else ∃ (v : Value) (bs : List Nat), (∀ x : World, (∀ b ∈ bs, x.heap[b]? = W.heap[b]?) → (execOp a.eval o).run P x = .ok (.value v) x) ∧ (∀ V ∈ Ws.take (Ws.length - st j), ∀ b ∈ bs, V.heap[b]? = W.heap[b]?) ∧
        CH rest (pend ++ bs.map fun b => (j, b)) W Ws (a.put o.dst v)
    else CH rest pend W (if ch j = true then W :: Ws else Ws) (a.put o.dst undef)
/-- what is asked of the edges -/
structure Edges : Prop where
  sel : ∀ (j : Nat) (o : Oper) cs b, ops[j]? = some o → o.op ≠ .select cs b
  dir : ∀ j o, ops[j]? = some o → ∀ e ∈ o.after, Region.binds .any e = true → e.on < j ∧ pr e.on j = true
  back : ∀ i j o, ops[j]? = some o → pr i j = true → ∃ e ∈ o.after, Region.binds .any e = true ∧ (e.on = i ∨ pr i e.on = true)
  one : ∀ i j, i < j → ch i = true → ch j = true → pr i j = true
  far : ∀ i j oi oj, i < j → ops[i]? = some oi → ops[j]? = some oj → pr i j = false → oi.apart ops oj = true
end
section
variable {P : Program} {ops : Array Oper} {Q : Exit → Act → World → Prop} {ch : Nat → Bool} {pr : Nat → Nat → Bool} {st : Nat → Nat}
theorem CH.pend : ∀ {rem : List Nat} {pend pend' : List (Nat × Nat)} {W : World} {Ws : List World} {a : Act}, (∀ p ∈ pend', p ∈ pend) → CH P ops Q ch pr st rem pend W Ws a → CH P ops Q ch pr st rem pend' W Ws a
  | [], _, _, _, _, _, _, h => by simpa only [CH] using h
  | j :: rest, pend, pend', W, Ws, a, hp, h => by
    simp only [CH] at h ⊢
    intro o ho
    have h := h o ho
    split
    · rename_i hw
      rw [if_pos hw] at h
      split
      · rename_i hc
        rw [if_pos hc] at h
        exact goes_mono h fun v w' ⟨h1, h2⟩ => ⟨fun p hp' => h1 p (hp p hp'), CH.pend hp h2⟩
      · rename_i hc
        rw [if_neg hc] at h
        obtain ⟨v, bs, h1, h2, h3⟩ := h
        refine ⟨v, bs, h1, h2, CH.pend ?_ h3⟩
        intro p hp'
        rcases List.mem_append.1 hp' with h' | h'
        · exact List.mem_append_left _ (hp p h')
        · exact List.mem_append_right _ h'
    · rename_i hw
      rw [if_neg hw] at h
      exact CH.pend hp h
variable (E : Edges ops ch pr)
include E
/-- the next of the chain may come first -/
theorem CH.chain {c : Nat} {oc : Oper} (hoc : ops[c]? = some oc) (hcc : ch c = true) : ∀ (pre : List Nat) {post : List Nat} {pend : List (Nat × Nat)} {W : World} {Ws : List World} {a : Act},
    (∀ k ∈ pre, k < c ∧ pr k c = false ∧ k < ops.size) → (∀ k ∈ pre, st k ≤ Ws.length) → CH P ops Q ch pr st (pre ++ c :: post) pend W Ws a →
    if Region.wanted oc (yielded ops a.tmps) = true then
      goes P oc a W (fun v w' => (∀ p ∈ pend, pr p.1 c = false → w'.heap[p.2]? = W.heap[p.2]?) ∧ CH P ops Q ch pr st (pre ++ post) pend w' (W :: Ws) (a.put oc.dst v))
    else CH P ops Q ch pr st (pre ++ post) pend W (W :: Ws) (a.put oc.dst undef)
  | [], post, pend, W, Ws, a, _, _, h => by
    simp only [List.nil_append, CH] at h
    have h := h oc hoc
    split
    · rename_i hw
      rw [if_pos hw, if_pos hcc] at h
      exact h
    · rename_i hw
      rw [if_neg hw, if_pos hcc] at h
      exact h
  | k :: pre, post, pend, W, Ws, a, hpre, hst, h => by
    obtain ⟨hkc, hpk, hks⟩ := hpre k (by simp)
    obtain ⟨ok, hok⟩ : ∃ ok, ops[k]? = some ok := ⟨_, Array.getElem?_eq_getElem hks⟩
    have hnk : ch k = false := by
      cases hx : ch k with
      | false => rfl
      | true => rw [E.one k c hkc hx hcc] at hpk; cases hpk
    obtain ⟨a1, a2, a3⟩ := Oper.apart_spec (E.far k c ok oc hkc hok hoc hpk)
    simp only [List.cons_append, CH] at h
    have hh := h ok hok
    have hpre' : ∀ k ∈ pre, k < c ∧ pr k c = false ∧ k < ops.size := fun x hx => hpre x (by simp [hx])
    have hst' : ∀ k ∈ pre, st k ≤ Ws.length := fun x hx => hst x (by simp [hx])
    have wk : ∀ u, Region.wanted oc (yielded ops (a.put ok.dst u).tmps) = Region.wanted oc (yielded ops a.tmps) := fun u => wanted_put oc a ok.dst u a1
    have wc : ∀ (u : Value), Region.wanted ok (yielded ops (a.put oc.dst u).tmps) = Region.wanted ok (yielded ops a.tmps) := fun u => wanted_put ok a oc.dst u a3
    have xk : ∀ u, execOp (a.put ok.dst u).eval oc = execOp a.eval oc := fun u => execOp_put oc (fun cs b => E.sel c oc cs b hoc) a ok.dst u a1
    have xc : ∀ u, execOp (a.put oc.dst u).eval ok = execOp a.eval ok := fun u => execOp_put ok (fun cs b => E.sel k ok cs b hok) a oc.dst u a3
    by_cases hwk : Region.wanted ok (yielded ops a.tmps) = true
    · rw [if_pos hwk, if_neg (by rw [hnk]; decide)] at hh
      obtain ⟨v, bs, h1, h2, h3⟩ := hh
      have IH := CH.chain hoc hcc pre hpre' hst' h3
      rw [wk] at IH
      split
      · rename_i hw
        rw [if_pos hw] at IH
        refine goes_mono (goes_same (xk v).symm IH) fun u w' hu => ?_
        obtain ⟨hu1, hu2⟩ := hu
        have hb : ∀ b ∈ bs, w'.heap[b]? = W.heap[b]? := fun b hb => hu1 (k, b) (List.mem_append_right _ (List.mem_map.2 ⟨b, hb, rfl⟩)) hpk
        refine ⟨fun p hp => hu1 p (List.mem_append_left _ hp), ?_⟩
        simp only [List.cons_append, CH]
        intro o ho
        obtain rfl : ok = o := Option.some.inj (hok.symm.trans ho)
        rw [if_pos (by rw [wc]; exact hwk), if_neg (by rw [hnk]; decide)]
        refine ⟨v, bs, fun x hx => ?_, fun V hV b hb' => ?_, ?_⟩
        · rw [xc]; exact h1 x fun b hb' => (hx b hb').trans (hb b hb')
        · rw [hb b hb']
          rw [List.length_cons, show Ws.length + 1 - st k = Ws.length - st k + 1 by have := hst k (by simp); omega, List.take_succ_cons] at hV
          rcases List.mem_cons.1 hV with rfl | hV
          · rfl
          · exact h2 V hV b hb'
        · rw [← Act.put_comm a _ _ a2]
          exact hu2
      · rename_i hw
        rw [if_neg hw] at IH
        simp only [List.cons_append, CH]
        intro o ho
        obtain rfl : ok = o := Option.some.inj (hok.symm.trans ho)
        rw [if_pos (by rw [wc]; exact hwk), if_neg (by rw [hnk]; decide)]
        refine ⟨v, bs, fun x hx => by rw [xc]; exact h1 x hx, fun V hV b hb' => ?_, ?_⟩
        · rw [List.length_cons, show Ws.length + 1 - st k = Ws.length - st k + 1 by have := hst k (by simp); omega, List.take_succ_cons] at hV
          rcases List.mem_cons.1 hV with rfl | hV
          · rfl
          · exact h2 V hV b hb'
        · rw [← Act.put_comm a _ _ a2]
          exact IH
    · rw [if_neg hwk, if_neg (by rw [hnk]; decide)] at hh
      have IH := CH.chain hoc hcc pre hpre' hst' hh
      rw [wk] at IH
      split
      · rename_i hw
        rw [if_pos hw] at IH
        refine goes_mono (goes_same (xk _).symm IH) fun u w' hu => ⟨hu.1, ?_⟩
        simp only [List.cons_append, CH]
        intro o ho
        obtain rfl : ok = o := Option.some.inj (hok.symm.trans ho)
        rw [if_neg (by rw [wc]; exact hwk), if_neg (by rw [hnk]; decide)]
        rw [← Act.put_comm a _ _ a2]
        exact hu.2
      · rename_i hw
        rw [if_neg hw] at IH
        simp only [List.cons_append, CH]
        intro o ho
        obtain rfl : ok = o := Option.some.inj (hok.symm.trans ho)
        rw [if_neg (by rw [wc]; exact hwk), if_neg (by rw [hnk]; decide)]
        rw [← Act.put_comm a _ _ a2]
        exact IH
/-- what only looks may come first -/
theorem CH.look {j : Nat} {oj : Oper} (hoj : ops[j]? = some oj) (hcj : ch j = false) : ∀ (pre : List Nat) {post : List Nat} {pend : List (Nat × Nat)} {W : World} {Ws : List World} {a : Act},
    (∀ k ∈ pre, k < j ∧ pr k j = false ∧ k < ops.size) → st j ≤ Ws.length → CH P ops Q ch pr st (pre ++ j :: post) pend W Ws a →
    if Region.wanted oj (yielded ops a.tmps) = true then
      ∃ (v : Value) (bs : List Nat), (∀ x : World, (∀ b ∈ bs, x.heap[b]? = W.heap[b]?) → (execOp a.eval oj).run P x = .ok (.value v) x) ∧ (∀ V ∈ Ws.take (Ws.length - st j), ∀ b ∈ bs, V.heap[b]? = W.heap[b]?) ∧
        CH P ops Q ch pr st (pre ++ post) pend W Ws (a.put oj.dst v)
    else CH P ops Q ch pr st (pre ++ post) pend W Ws (a.put oj.dst undef)
  | [], post, pend, W, Ws, a, _, _, h => by
    simp only [List.nil_append, CH] at h
    have h := h oj hoj
    split
    · rename_i hw
      rw [if_pos hw, if_neg (by rw [hcj]; decide)] at h
      obtain ⟨v, bs, h1, h2, h3⟩ := h
      exact ⟨v, bs, h1, h2, CH.pend (fun p hp => List.mem_append_left _ hp) h3⟩
    · rename_i hw
      rw [if_neg hw, if_neg (by rw [hcj]; decide)] at h
      exact h
  | k :: pre, post, pend, W, Ws, a, hpre, hst, h => by
    obtain ⟨hkc, hpk, hks⟩ := hpre k (by simp)
    obtain ⟨ok, hok⟩ : ∃ ok, ops[k]? = some ok := ⟨_, Array.getElem?_eq_getElem hks⟩
    obtain ⟨a1, a2, a3⟩ := Oper.apart_spec (E.far k j ok oj hkc hok hoj hpk)
    simp only [List.cons_append, CH] at h
    have hh := h ok hok
    have hpre' : ∀ k ∈ pre, k < j ∧ pr k j = false ∧ k < ops.size := fun x hx => hpre x (by simp [hx])
    have wk : ∀ u, Region.wanted oj (yielded ops (a.put ok.dst u).tmps) = Region.wanted oj (yielded ops a.tmps) := fun u => wanted_put oj a ok.dst u a1
    have wc : ∀ (u : Value), Region.wanted ok (yielded ops (a.put oj.dst u).tmps) = Region.wanted ok (yielded ops a.tmps) := fun u => wanted_put ok a oj.dst u a3
    have xk : ∀ u, execOp (a.put ok.dst u).eval oj = execOp a.eval oj := fun u => execOp_put oj (fun cs b => E.sel j oj cs b hoj) a ok.dst u a1
    have xc : ∀ u, execOp (a.put oj.dst u).eval ok = execOp a.eval ok := fun u => execOp_put ok (fun cs b => E.sel k ok cs b hok) a oj.dst u a3
    by_cases hwk : Region.wanted ok (yielded ops a.tmps) = true
    · rw [if_pos hwk] at hh
      by_cases hck : ch k = true
      · rw [if_pos hck] at hh
        obtain ⟨u0, w0, _, hc0⟩ := goes_some hh
        have IH0 := CH.look hoj hcj pre hpre' (by rw [List.length_cons]; omega) hc0
        rw [wk] at IH0
        split
        · rename_i hw
          rw [if_pos hw] at IH0
          obtain ⟨v, bs, h1, h2, h3⟩ := IH0
          rw [xk] at h1
          have hmem : ∀ (w' : World), W ∈ (W :: Ws).take ((W :: Ws).length - st j) := fun _ => by
            rw [List.length_cons, show Ws.length + 1 - st j = Ws.length - st j + 1 by omega, List.take_succ_cons]
            exact List.mem_cons_self
          have hb0 : ∀ b ∈ bs, W.heap[b]? = w0.heap[b]? := fun b hb => h2 W (hmem w0) b hb
          refine ⟨v, bs, fun x hx => h1 x fun b hb => (hx b hb).trans (hb0 b hb), fun V hV b hb => ?_, ?_⟩
          · have := h2 V (by rw [List.length_cons, show Ws.length + 1 - st j = Ws.length - st j + 1 by omega, List.take_succ_cons]; exact List.mem_cons_of_mem _ hV) b hb
            rw [this, hb0 b hb]
          · simp only [List.cons_append, CH]
            intro o ho
            obtain rfl : ok = o := Option.some.inj (hok.symm.trans ho)
            rw [if_pos (by rw [wc]; exact hwk), if_pos hck]
            refine goes_mono (goes_same (xc v) hh) fun u w' ⟨hu1, hu2⟩ => ⟨hu1, ?_⟩
            have IH := CH.look hoj hcj pre hpre' (by rw [List.length_cons]; omega) hu2
            rw [wk, if_pos hw] at IH
            obtain ⟨v', bs', g1, g2, g3⟩ := IH
            rw [xk] at g1
            have e1 := h1 W hb0
            have e2 := g1 W fun b hb => g2 W (hmem w') b hb
            rw [e1] at e2
            simp only [Result.ok.injEq, Next.value.injEq, and_true] at e2
            subst e2
            rw [← Act.put_comm a _ _ a2]
            exact g3
        · rename_i hw
          simp only [List.cons_append, CH]
          intro o ho
          obtain rfl : ok = o := Option.some.inj (hok.symm.trans ho)
          rw [if_pos (by rw [wc]; exact hwk), if_pos hck]
          refine goes_mono (goes_same (xc _) hh) fun u w' ⟨hu1, hu2⟩ => ⟨hu1, ?_⟩
          have IH := CH.look hoj hcj pre hpre' (by rw [List.length_cons]; omega) hu2
          rw [wk, if_neg hw] at IH
          rw [← Act.put_comm a _ _ a2]
          exact IH
      · rw [if_neg hck] at hh
        obtain ⟨u, bk, h1, h2, h3⟩ := hh
        have IH := CH.look hoj hcj pre hpre' hst h3
        rw [wk] at IH
        have fin : ∀ v, CH P ops Q ch pr st (pre ++ post) (pend ++ bk.map fun b => (k, b)) W Ws ((a.put ok.dst u).put oj.dst v) → CH P ops Q ch pr st (k :: pre ++ post) pend W Ws (a.put oj.dst v) := fun v hv => by
          simp only [List.cons_append, CH]
          intro o ho
          obtain rfl : ok = o := Option.some.inj (hok.symm.trans ho)
          rw [if_pos (by rw [wc]; exact hwk), if_neg hck]
          refine ⟨u, bk, fun x hx => by rw [xc]; exact h1 x hx, h2, ?_⟩
          rw [← Act.put_comm a _ _ a2]
          exact hv
        split
        · rename_i hw
          rw [if_pos hw] at IH
          obtain ⟨v, bs, g1, g2, g3⟩ := IH
          rw [xk] at g1
          exact ⟨v, bs, g1, g2, fin v g3⟩
        · rename_i hw
          rw [if_neg hw] at IH
          exact fin _ IH
    · rw [if_neg hwk] at hh
      have hst' : st j ≤ (if ch k = true then W :: Ws else Ws).length := by
        split
        · rw [List.length_cons]; omega
        · exact hst
      have IH := CH.look hoj hcj pre hpre' hst' hh
      rw [wk] at IH
      have fin : ∀ v, CH P ops Q ch pr st (pre ++ post) pend W (if ch k = true then W :: Ws else Ws) ((a.put ok.dst undef).put oj.dst v) → CH P ops Q ch pr st (k :: pre ++ post) pend W Ws (a.put oj.dst v) := fun v hv => by
        simp only [List.cons_append, CH]
        intro o ho
        obtain rfl : ok = o := Option.some.inj (hok.symm.trans ho)
        rw [if_neg (by rw [wc]; exact hwk)]
        rw [← Act.put_comm a _ _ a2]
        exact hv
      split
      · rename_i hw
        rw [if_pos hw] at IH
        obtain ⟨v, bs, g1, g2, g3⟩ := IH
        rw [xk] at g1
        refine ⟨v, bs, g1, fun V hV b hb => g2 V ?_ b hb, fin v g3⟩
        split
        · rw [List.length_cons, show Ws.length + 1 - st j = Ws.length - st j + 1 by omega, List.take_succ_cons]
          exact List.mem_cons_of_mem _ hV
        · exact hV
      · rename_i hw
        rw [if_neg hw] at IH
        exact fin _ IH
/-- what is left, as the order's list of what has been done tells it -/
structure Left (ops : Array Oper) (rem : List Nat) (listed : Array Bool) : Prop where
  size : listed.size = ops.size
  un : ∀ j, j ∈ rem ↔ j < ops.size ∧ listed.getD j true = false
  sorted : rem.Pairwise (· < ·)
theorem Left.done {rem : List Nat} {listed : Array Bool} (h : Left ops rem listed) {j : Nat} (hj : j < ops.size) (hn : j ∉ rem) : listed.getD j false = true := by
  have hl : j < listed.size := by rw [h.size]; exact hj
  cases hx : listed.getD j true with
  | false => exact absurd ((h.un j).2 ⟨hj, hx⟩) hn
  | true =>
    simp only [Array.getD_eq_getD_getElem?, Array.getElem?_eq_getElem hl, Option.getD_some] at hx ⊢
    exact hx
/-- all that comes ahead of what may come now is done -/
theorem Left.ahead {rem : List Nat} {listed : Array Bool} (h : Left ops rem listed) (closed : ∀ j o, ops[j]? = some o → j ∉ rem → ∀ e ∈ o.after, Region.binds .any e = true → e.on ∉ rem) :
    ∀ (j : Nat) (o : Oper), ops[j]? = some o → (∀ e ∈ o.after, Region.binds .any e = true → e.on ∉ rem) → ∀ i, pr i j = true → i ∉ rem := by
  intro j
  induction j using Nat.strongRecOn with
  | _ j ih =>
    intro o ho hall i hi
    obtain ⟨e, he, hb, h1⟩ := E.back i j o ho hi
    rcases h1 with rfl | h1
    · exact hall e he hb
    · have hd := (E.dir j o ho e he hb).1
      have hlt : e.on < ops.size := by
        have := (Array.getElem?_eq_some_iff.1 ho).1
        omega
      obtain ⟨oe, hoe⟩ : ∃ oe, ops[e.on]? = some oe := ⟨_, Array.getElem?_eq_getElem hlt⟩
      exact ih e.on hd oe hoe (closed e.on oe hoe (hall e he hb)) i h1
theorem split_sorted {rem : List Nat} (hs : rem.Pairwise (· < ·)) {j : Nat} (hj : j ∈ rem) : ∃ pre post, rem = pre ++ j :: post ∧ (∀ k ∈ pre, k < j) ∧ j ∉ pre ∧ j ∉ post ∧ (pre ++ post).Pairwise (· < ·) := by
  obtain ⟨pre, post, rfl⟩ := List.append_of_mem hj
  rw [List.pairwise_append] at hs
  obtain ⟨h1, h2, h3⟩ := hs
  rw [List.pairwise_cons] at h2
  refine ⟨pre, post, rfl, fun k hk => h3 k hk j (by simp), fun h => ?_, fun h => ?_, ?_⟩
  · exact Nat.lt_irrefl _ (h3 j h j (by simp))
  · exact Nat.lt_irrefl _ (h2.1 j h)
  · rw [List.pairwise_append]
    exact ⟨h1, h2.2, fun a ha b hb => h3 a ha b (by simp [hb])⟩
theorem countP_or (p q : Nat → Bool) (l : List Nat) : l.countP (fun i => p i || q i) ≤ l.countP p + l.countP q := by
  induction l with
  | nil => simp
  | cons x l ih =>
    simp only [List.countP_cons]
    cases p x <;> cases q x <;> simp <;> omega
theorem listed_both {i : Nat} {listed : Array Bool} (h : listed.getD i true = false) : listed.getD i false = false := by
  rcases Nat.lt_or_ge i listed.size with h' | h'
  · simp [h'] at h ⊢; exact h
  · simp [Array.getElem?_eq_none h'] at h
def chCnt (ops : Array Oper) (ch : Nat → Bool) (rem : List Nat) : Nat := (List.range ops.size).countP fun i => ch i && !rem.contains i
theorem chCnt_less (rem rem' : List Nat) (c : Nat) (h : ∀ i, i ∈ rem → i ≠ c → i ∈ rem') : chCnt ops ch rem' ≤ chCnt ops ch rem + (if ch c = true then 1 else 0) := by
  unfold chCnt
  have h1 : (List.range ops.size).countP (fun i => ch i && !rem'.contains i) ≤ (List.range ops.size).countP (fun i => (ch i && !rem.contains i) || (ch c && i == c)) := by
    refine List.countP_mono_left fun i _ hi => ?_
    simp only [Bool.and_eq_true, Bool.not_eq_true', List.contains_eq_mem, decide_eq_false_iff_not, Bool.or_eq_true, beq_iff_eq] at hi ⊢
    obtain ⟨h1, h2⟩ := hi
    by_cases hc : i = c
    · subst hc; exact .inr ⟨h1, rfl⟩
    · exact .inl ⟨h1, fun hm => h2 (h i hm hc)⟩
  have h2 := countP_or E (fun i => ch i && !rem.contains i) (fun i => ch c && i == c) (List.range ops.size)
  have h3 : (List.range ops.size).countP (fun i => ch c && i == c) ≤ if ch c = true then 1 else 0 := by
    cases hc : ch c
    · simp
    · simp only [Bool.true_and, if_true]
      have : (List.range ops.size).countP (fun i => i == c) = (List.range ops.size).count c := rfl
      rw [this]
      exact List.nodup_iff_count.1 List.nodup_range c
  omega
theorem CH.any (hst : ∀ j, st j ≤ (List.range ops.size).countP fun i => ch i && pr i j) (hlow : ∀ i j, pr i j = true → i < j) : ∀ (fuel : Nat) (rem : List Nat) (listed : Array Bool) (W : World) (Ws : List World) (a : Act), rem.length = fuel → Left ops rem listed →
    (∀ j o, ops[j]? = some o → j ∉ rem → ∀ e ∈ o.after, Region.binds .any e = true → e.on ∉ rem) → chCnt ops ch rem ≤ Ws.length →
    CH P ops Q ch pr st rem [] W Ws a → wpAny P .any ops Q fuel listed a W := by
  intro fuel
  induction fuel with
  | zero =>
    intro rem listed W Ws a hf hL hcl hn h
    obtain rfl := List.eq_nil_of_length_eq_zero hf
    simp only [CH] at h
    refine ⟨?_, h⟩
    rw [List.eq_nil_iff_forall_not_mem]
    intro j hj
    obtain ⟨h0, o, ho, _⟩ := mem_ready.1 hj
    have := (hL.un j).2 ⟨(Array.getElem?_eq_some_iff.1 ho).1, h0⟩
    simp at this
  | succ fuel ih =>
    intro rem listed W Ws a hf hL hcl hn h
    refine ⟨fun h0 => ?_, fun j hj => ?_⟩
    · exfalso
      cases rem with
      | nil => simp at hf
      | cons j rest =>
        have hjr := (hL.un j).1 (by simp)
        obtain ⟨o, ho⟩ : ∃ o, ops[j]? = some o := ⟨_, Array.getElem?_eq_getElem hjr.1⟩
        have hr : j ∈ Region.ready .any ops listed := mem_ready.2 ⟨hjr.2, o, ho, fun e he hb => by
          have hd := (E.dir j o ho e he hb).1
          refine hL.done E (by omega) fun hm => ?_
          rcases List.mem_cons.1 hm with h1 | h1
          · omega
          · have := (List.pairwise_cons.1 hL.sorted).1 _ h1
            omega⟩
        rw [h0] at hr
        cases hr
    · obtain ⟨h0, o, ho, hall⟩ := mem_ready.1 hj
      have hjs := (Array.getElem?_eq_some_iff.1 ho).1
      have hjr : j ∈ rem := (hL.un j).2 ⟨hjs, h0⟩
      have hnot : ∀ e ∈ o.after, Region.binds .any e = true → e.on ∉ rem := fun e he hb hm => by
        have h1 := hall e he hb
        have h2 := ((hL.un _).1 hm).2
        rw [listed_both E h2] at h1
        cases h1
      have hah := hL.ahead E hcl j o ho hnot
      obtain ⟨pre, post, rfl, hpre, hnp, hnq, hso⟩ := split_sorted E hL.sorted hjr
      have hrem : ∀ i, i ∈ pre ++ j :: post → i ≠ j → i ∈ pre ++ post := fun i hi hne => by
        simp only [List.mem_append, List.mem_cons] at hi ⊢
        rcases hi with h | h | h
        · exact .inl h
        · exact absurd h hne
        · exact .inr h
      have hrem2 : ∀ i, i ∈ pre ++ post → i ∈ pre ++ j :: post ∧ i ≠ j := fun i hi => by
        simp only [List.mem_append, List.mem_cons] at hi ⊢
        rcases hi with h | h
        · exact ⟨.inl h, fun e => hnp (e ▸ h)⟩
        · exact ⟨.inr (.inr h), fun e => hnq (e ▸ h)⟩
      have hL2 : Left ops (pre ++ post) (listed.setIfInBounds j true) := ⟨by simp [hL.size], fun i => ⟨fun hi => by
          have ⟨h1, h2⟩ := hrem2 i hi
          have := (hL.un i).1 h1
          exact ⟨this.1, by rw [getD_set_ne true (Ne.symm h2)]; exact this.2⟩, fun ⟨h1, h2⟩ => by
          have hne : i ≠ j := by
            rintro rfl
            have hsz : i < listed.size := by rw [hL.size]; exact h1
            simp [Array.getD_eq_getD_getElem?, Array.getElem?_setIfInBounds, hsz] at h2
          rw [getD_set_ne true (Ne.symm hne)] at h2
          exact hrem i ((hL.un i).2 ⟨h1, h2⟩) hne⟩, hso⟩
      have hcl2 : ∀ k ok, ops[k]? = some ok → k ∉ pre ++ post → ∀ e ∈ ok.after, Region.binds .any e = true → e.on ∉ pre ++ post := fun k ok hk hkn e he hb hm => by
        have hm2 := (hrem2 _ hm).1
        by_cases hkj : k = j
        · subst hkj
          obtain rfl : o = ok := Option.some.inj (ho.symm.trans hk)
          exact hnot e he hb hm2
        · exact hcl k ok hk (fun h => hkn (hrem k h hkj)) e he hb hm2
      have hf2 : (pre ++ post).length = fuel := by
        simp only [List.length_append, List.length_cons] at hf ⊢
        omega
      have hcnt := chCnt_less E (pre ++ j :: post) (pre ++ post) j hrem
      have hp : ∀ k ∈ pre, k < j ∧ pr k j = false ∧ k < ops.size := fun k hk => by
        have := hpre k hk
        refine ⟨this, ?_, by omega⟩
        cases hx : pr k j with
        | false => rfl
        | true => exact absurd (List.mem_append_left _ hk) (hah k hx)
      unfold wpOp
      simp only [ho]
      have hle : ∀ k, (∀ i, i < ops.size → ch i = true → pr i k = true → i ∉ pre ++ j :: post) → st k ≤ Ws.length := fun k hk => by
        refine Nat.le_trans (hst k) (Nat.le_trans (List.countP_mono_left fun i hi h => ?_) hn)
        simp only [Bool.and_eq_true] at h
        simp only [Bool.and_eq_true, Bool.not_eq_true', List.contains_eq_mem, decide_eq_false_iff_not]
        exact ⟨h.1, hk i (List.mem_range.1 hi) h.1 h.2⟩
      by_cases hcj : ch j = true
      · have := CH.chain E ho hcj pre hp (fun k hk => hle k fun i hi hci hik hm => by
          have hkj := (hp k hk).1
          have hikl := hlow i k hik
          exact hah i (E.one i j (by omega) hci hcj) hm) h
        rw [if_pos hcj] at hcnt
        split at this
        · rename_i hw
          rw [if_pos hw]
          refine .inl (goes_wp this fun v w' hv => ?_)
          exact ih (pre ++ post) _ w' (W :: Ws) _ hf2 hL2 hcl2 (by rw [List.length_cons]; omega) hv.2
        · rename_i hw
          rw [if_neg hw]
          exact ih (pre ++ post) _ W (W :: Ws) _ hf2 hL2 hcl2 (by rw [List.length_cons]; omega) this
      · have hcj' : ch j = false := by simpa using hcj
        have := CH.look E ho hcj' pre hp (hle j fun i _ _ hik => hah i hik) h
        rw [if_neg hcj] at hcnt
        split at this
        · rename_i hw
          rw [if_pos hw]
          obtain ⟨v, bs, h1, h2, h3⟩ := this
          refine .inl ?_
          unfold Oper.wp
          rw [h1 W fun _ _ => rfl]
          exact ih (pre ++ post) _ W Ws _ hf2 hL2 hcl2 (by omega) h3
        · rename_i hw
          rw [if_neg hw]
          exact ih (pre ++ post) _ W Ws _ hf2 hL2 hcl2 (by omega) this
end
end Go.Proofs.YtaieficgifingaaGreatDoor
namespace Go.Proofs.YtaieficgifingaaGreatDoor
set_option linter.unusedVariables false
set_option linter.unusedSimpArgs false
set_option linter.unusedSectionVars false
open Go.RowKit
/-- how far a region that draws has been gone through: the next operation's number, what comes ahead of what, the chain, labels looked at, labels turned by each of the chain so far -/
structure DD where
  j : Nat
  pr : List (List Nat)
  ch : List Nat
  pend : List (Nat × Nat)
  wl : List (List (Nat × AO) × List Nat)
def DD.prB (d : DD) (i k : Nat) : Bool := (d.pr.getD k []).elem i
def DD.chB (d : DD) (k : Nat) : Bool := d.ch.elem k
def DD.st (d : DD) (k : Nat) : Nat := (d.ch.filter fun i => (d.pr.getD k []).elem i).length
/-- does something lie at a label? -/
def liveB (l : Nat) (h : List (Nat × AO)) : Bool := match hk l h with
  | some _ => true
  | none => false
theorem liveB_iff {l : Nat} {h : List (Nat × AO)} : liveB l h = true ↔ hk l h ≠ none := by
  unfold liveB
  cases hk l h <;> simp
/-- the earlier worlds: at labels that lay then and were not turned since they read as now -/
def Stg (ρ : Env) : List (List (Nat × AO) × List Nat) → List World → World → Prop
  | [], [], _ => True
  | p :: wl, V :: Ws, W => (∀ l b, liveB l p.1 = true → ρ l = some b → l ∉ p.2 → V.heap[b]? = W.heap[b]?) ∧ Stg ρ wl Ws V
  | _, _, _ => False
theorem Stg.ext {ρ ρ' : Env} {L : Nat} (he : ∀ l, l < L → ρ' l = ρ l) : ∀ {wl : List (List (Nat × AO) × List Nat)} {Ws : List World} {W : World}, (∀ p ∈ wl, ∀ l, liveB l p.1 = true → l < L) → Stg ρ wl Ws W → Stg ρ' wl Ws W
  | [], [], _, _, h => h
  | p :: wl, V :: Ws, W, hL, h => ⟨fun l b hl hb hn => h.1 l b hl ((he l (hL p (by simp) l hl)).symm.trans hb) hn, Stg.ext he (fun q hq => hL q (by simp [hq])) h.2⟩
  | [], _ :: _, _, _, h => h.elim
  | _ :: _, [], _, _, h => h.elim
def pendC (ρ : Env) : List (Nat × Nat) → List (Nat × Nat)
  | [] => []
  | (i, l) :: r => match ρ l with
    | some b => (i, b) :: pendC ρ r
    | none => pendC ρ r
def RL (P : Program) (ops : Array Oper) (Q : Exit → Act → World → Prop) (D : Option DD) (E : Base) (n L : Nat) (τ : List (Nat × AV)) (h : List (Nat × AO)) (F : World → Prop) (rest : List Oper) : Prop :=
  match D with
  | none => ∀ ρ a w, Gam E ρ n L τ h F a w → wpList P ops Q rest a w
  | some d => (∀ i, rest[i]? = ops[d.j + i]?) → (∀ p ∈ d.pend, p.2 < L) → (∀ p ∈ d.wl, ∀ l, liveB l p.1 = true → l < L) → ∀ ρ a w Ws, Gam E ρ n L τ h F a w → Stg ρ d.wl Ws w →
      CH P ops Q d.chB d.prB d.st (List.range' d.j rest.length) (pendC ρ d.pend) w Ws a
/-- a slot of the frame -/
def dOk (n : Nat) : Option Nat → Bool
  | some d => Nat.ble (d + 1) n
  | none => true
def putA (d : Option Nat) (v : AV) (τ : List (Nat × AV)) : List (Nat × AV) := match d with
  | some d => (d, v) :: τ
  | none => τ
/-- is an operation wanted? -/
def wantA (ops : Array Oper) (o : Oper) (τ : List (Nat × AV)) : Option Bool := match o.guard with
  | none => some true
  | some (g, want) => match (ops[g]?).bind (·.dst) with
    | some t => match lk t τ with
      | some (.raw (.bool true)) => some want
      | some (.raw (.bool false)) => some (!want)
      | some (.raw (.tuple _)) => some false
      | _ => none
    | none => none
section
variable {E : Base} {ρ : Env} {n L : Nat} {τ : List (Nat × AV)} {h : List (Nat × AO)} {F : World → Prop} {a : Act} {w : World}
theorem Gam.put (g : Gam E ρ n L τ h F a w) (d : Option Nat) (v : AV) (hd : dOk n d = true) (hv : v.Low ρ L) : Gam E ρ n L (putA d v τ) h F (a.put d (v.conc ρ)) w := by
  cases d with
  | none => exact g
  | some d =>
    have hdn : d < n := by have : d + 1 ≤ n := by simpa [dOk, Nat.ble_eq] using hd
                           omega
    refine ⟨g.df, by simp [Act.put, g.sz], fun t u hu => ?_, g.hp, g.dis, g.fr, g.ex, g.le, g.al⟩
    simp only [putA, lk_cons] at hu
    split at hu
    · rename_i e
      subst e
      cases hu
      exact ⟨hv, by simp [Act.put, g.sz, hdn]⟩
    · rename_i e
      have := g.tm t u hu
      exact ⟨this.1, by simp only [Act.put]; rw [Array.getElem?_setIfInBounds_ne e]; exact this.2⟩
theorem Gam.want (g : Gam E ρ n L τ h F a w) {ops : Array Oper} {o : Oper} {b : Bool} (hw : wantA ops o τ = some b) : Region.wanted o (yielded ops a.tmps) = b := by
  unfold wantA at hw
  unfold Region.wanted
  split at hw
  · rename_i hg
    cases hw
    rw [hg]
  · rename_i gg wt hg
    rw [hg]
    simp only
    split at hw
    · rename_i t ht
      have key : ∀ v, lk t τ = some (.raw v) → yielded ops a.tmps gg = match v with | .bool b => some b | _ => none := fun v hv => by
        have := (g.tm t _ hv).2
        simp only [yielded, ht, Option.bind_some, this, AV.conc]
        cases v <;> rfl
      split at hw
      · rename_i hl; cases hw; rw [key _ hl]; clear key; first | (cases wt <;> rfl) | (cases b <;> rfl) | rfl
      · rename_i hl; cases hw; rw [key _ hl]; clear key; first | (cases wt <;> rfl) | (cases b <;> rfl) | rfl
      · rename_i hl; cases hw; rw [key _ hl]; clear key; first | (cases wt <;> rfl) | (cases b <;> rfl) | rfl
      · cases hw
    · cases hw
theorem evB {τ : List (Nat × AV)} (g : Gam E ρ n L τ h F a w) : ∀ x v, evA τ x = some v → a.eval x = v.conc ρ := fun x v hv => (g.eval x v hv).2
theorem Gam.holds (g : Gam E ρ n L τ h F a w) : ∀ l o, hk l h = some o → o.holds ρ (ρ l) w := fun l o ho => (g.hp l o ho).2.2
/-- what 'act' tells, of a state -/
theorem Gam.actS {P : Program} {tt : List (Nat × TI)} (htt : TTok P tt) (g : Gam E ρ n L τ h F a w) {o : Oper} {v : AV} (ha : act tt (fun l => hk l h) (evA τ) o.op = some v) : (execOp a.eval o).run P w = .ok (.value (v.conc ρ)) w ∧ v.Low ρ L := by
  refine ⟨act_sound htt (hl := fun l => hk l h) g.holds (evB g) o v ha, fun ρ1 he => ?_⟩
  have h1 := act_sound htt (hl := fun l => hk l h) g.holds (evB g) o v ha
  have h2 := act_sound htt (ρ := ρ1) (w := w) (hl := fun l => hk l h) (fun l o ho => by
    have := g.hp l o ho
    rw [he l this.1]
    exact (this.2.1 ρ1 he _ _).1 this.2.2) (ec := a.eval) (fun x u hu => by
    have := g.eval x u hu
    rw [this.2, this.1 ρ1 he]) o v ha
  rw [h1] at h2
  simp only [Result.ok.injEq, Next.value.injEq, and_true] at h2
  exact h2.symm
end
section
variable {P : Program} {ops : Array Oper} {Q : Exit → Act → World → Prop} {D : Option DD} {E : Base} {n L : Nat} {τ : List (Nat × AV)} {h : List (Nat × AO)} {F : World → Prop} {rest : List Oper} {o : Oper}
/-- the label that a load looks at -/
def rdL (τ : List (Nat × AV)) : Op → List Nat
  | .load _ x => match evA τ x with
    | some (.ptr l _ _ _) => [l]
    | _ => []
  | _ => []
/-- what was not turned since the last of the chain that comes ahead -/
def stageB (d : DD) (ls : List Nat) : Bool := (d.wl.take (d.wl.length - d.st d.j)).all fun p => ls.all fun l => liveB l p.1 && !p.2.elem l
def lookB (D : Option DD) (ls : List Nat) : Bool := match D with
  | none => true
  | some d => !d.chB d.j && stageB d ls
def DD.look (d : DD) (ls : List Nat) : DD := { d with j := d.j + 1, pend := d.pend ++ ls.map fun l => (d.j, l) }
/-- the same region with one operation behind us that looked at labels ls -/
def lookD (D : Option DD) (ls : List Nat) : Option DD := D.map fun d => d.look ls
theorem RL.nil (k : ∀ ρ a w, Gam E ρ n L τ h F a w → Q .normal a w) : RL P ops Q D E n L τ h F [] := by
  cases D with
  | none => exact fun ρ a w g => wpList_nil (k ρ a w g)
  | some d =>
    intro _ _ _ ρ a w Ws g _
    simp only [List.length_nil, List.range'_zero, CH]
    exact k ρ a w g
theorem Stg.read {ρ : Env} : ∀ {wl : List (List (Nat × AO) × List Nat)} {Ws : List World} {W : World} (k : Nat), Stg ρ wl Ws W → ∀ l b, ρ l = some b → (∀ p ∈ wl.take k, liveB l p.1 = true ∧ l ∉ p.2) → ∀ V ∈ Ws.take k, V.heap[b]? = W.heap[b]?
  | [], [], W, k, _, l, b, _, _, V, hV => by simp at hV
  | ls :: wl, V0 :: Ws, W, 0, _, l, b, _, _, V, hV => by simp at hV
  | p :: wl, V0 :: Ws, W, k + 1, h, l, b, hl, hn, V, hV => by
    have hp := hn p (by simp)
    have h0 := h.1 l b hp.1 hl hp.2
    rw [List.take_succ_cons] at hV
    rcases List.mem_cons.1 hV with rfl | hV
    · exact h0
    · rw [Stg.read k h.2 l b hl (fun ws hws => hn ws (by simp [hws])) V hV, h0]
  | [], _ :: _, _, _, h, _, _, _, _, _, _ => h.elim
  | _ :: _, [], _, _, h, _, _, _, _, _, _ => h.elim
theorem Stg.length {ρ : Env} : ∀ {wl : List (List (Nat × AO) × List Nat)} {Ws : List World} {W : World}, Stg ρ wl Ws W → wl.length = Ws.length
  | [], [], _, _ => rfl
  | _ :: _, _ :: _, _, h => by simp [Stg.length h.2]
  | [], _ :: _, _, h => h.elim
  | _ :: _, [], _, h => h.elim
theorem pendC_append (ρ : Env) (a b : List (Nat × Nat)) : pendC ρ (a ++ b) = pendC ρ a ++ pendC ρ b := by
  induction a with
  | nil => rfl
  | cons x a ih =>
    obtain ⟨i, l⟩ := x
    simp only [List.cons_append, pendC]
    cases ρ l <;> simp [ih]
/-- an operation that looks at most at blocks, each at a label of ls -/
theorem RL.looks (ls : List Nat) (hg : wantA ops o τ = some true) (hd : dOk n o.dst = true) (hk : lookB D ls = true) (hls : ∀ l ∈ ls, l < L) (v : AV)
    (hv : ∀ ρ a w, Gam E ρ n L τ h F a w → v.Low ρ L ∧ (∀ l ∈ ls, ρ l ≠ none) ∧ ∀ x : World, (∀ l ∈ ls, ∀ b, ρ l = some b → x.heap[b]? = w.heap[b]?) → (execOp a.eval o).run P x = .ok (.value (v.conc ρ)) x)
    (k : RL P ops Q (lookD D ls) E n L (putA o.dst v τ) h F rest) : RL P ops Q D E n L τ h F (o :: rest) := by
  cases D with
  | none =>
    intro ρ a w g
    have hw := g.want hg
    obtain ⟨h1, h2, h3⟩ := hv ρ a w g
    refine wpList_step fun K hK => ?_
    rw [if_pos hw]
    unfold Oper.wp
    rw [h3 w fun _ _ _ _ => rfl]
    exact hK _ _ (k ρ _ _ (g.put o.dst v hd h1))
  | some d =>
    intro hops hpl hwl ρ a w Ws g hs
    have hw := g.want hg
    obtain ⟨h1, h2, h3⟩ := hv ρ a w g
    simp only [lookB, Bool.and_eq_true, Bool.not_eq_true'] at hk
    simp only [List.length_cons, List.range'_succ, CH]
    intro o' ho'
    have h0 := hops 0
    simp only [List.getElem?_cons_zero, Nat.add_zero] at h0
    obtain rfl : o = o' := Option.some.inj (h0.trans ho')
    rw [if_pos hw, if_neg (by rw [hk.1]; decide)]
    have hpl' : ∀ p ∈ (d.look ls).pend, p.2 < L := fun p hp => by
      rcases List.mem_append.1 hp with hp | hp
      · exact hpl p hp
      · obtain ⟨l, hl, rfl⟩ := List.mem_map.1 hp
        exact hls l hl
    have hk2 := k (fun i => by have := hops (i + 1); simpa [DD.look, Nat.add_assoc, Nat.add_comm 1 i] using this) hpl' hwl ρ _ w Ws (g.put o.dst v hd h1) hs
    refine ⟨v.conc ρ, ls.filterMap ρ, fun x hx => h3 x fun l hl b hb => hx b (List.mem_filterMap.2 ⟨l, hl, hb⟩), fun V hV b hb => ?_, ?_⟩
    · obtain ⟨l, hl, hlb⟩ := List.mem_filterMap.1 hb
      rw [← hs.length] at hV
      refine hs.read _ l b hlb (fun ws hws => ?_) V hV
      have := List.all_eq_true.1 hk.2 ws hws
      have := List.all_eq_true.1 this l hl
      simp only [Bool.and_eq_true, Bool.not_eq_true'] at this
      refine ⟨this.1, fun h => ?_⟩
      have h2 := this.2
      rw [List.elem_iff.2 h] at h2
      cases h2
    · have e : pendC ρ (d.look ls).pend = pendC ρ d.pend ++ (ls.filterMap ρ).map fun b => (d.j, b) := by
        simp only [DD.look, pendC_append]
        congr 1
        clear hls hv h2 h3 hk hk2 hpl' k
        induction ls with
        | nil => rfl
        | cons l ls ih =>
          simp only [List.map_cons, pendC, List.filterMap_cons]
          cases ρ l <;> simp [ih]
      rw [e] at hk2
      exact hk2
def DD.skip (h : List (Nat × AO)) (d : DD) : DD := match d.chB d.j with
  | true => { d with j := d.j + 1, wl := (h, []) :: d.wl }
  | false => { d with j := d.j + 1 }
theorem DD.skip_j (h : List (Nat × AO)) (d : DD) : (d.skip h).j = d.j + 1 := by unfold DD.skip; cases d.chB d.j <;> rfl
theorem DD.skip_pend (h : List (Nat × AO)) (d : DD) : (d.skip h).pend = d.pend := by unfold DD.skip; cases d.chB d.j <;> rfl
theorem DD.skip_ch (h : List (Nat × AO)) (d : DD) : (d.skip h).chB = d.chB := by unfold DD.skip; cases d.chB d.j <;> rfl
theorem DD.skip_pr (h : List (Nat × AO)) (d : DD) : (d.skip h).prB = d.prB := by unfold DD.skip; cases d.chB d.j <;> rfl
theorem DD.skip_st (h : List (Nat × AO)) (d : DD) : (d.skip h).st = d.st := by unfold DD.skip; cases d.chB d.j <;> rfl
def skipD (h : List (Nat × AO)) (D : Option DD) : Option DD := D.map (DD.skip h)
/-- an operation that is not wanted -/
theorem RL.skip (hg : wantA ops o τ = some false) (hd : dOk n o.dst = true) (k : RL P ops Q (skipD h D) E n L (putA o.dst (.raw undef) τ) h F rest) : RL P ops Q D E n L τ h F (o :: rest) := by
  cases D with
  | none =>
    intro ρ a w g
    have hw := g.want hg
    exact wpList_skip hw (k ρ _ _ (g.put o.dst (.raw undef) hd (AV.Low.raw _ _ _)))
  | some d =>
    intro hops hpl hwl ρ a w Ws g hs
    have hw := g.want hg
    simp only [List.length_cons, List.range'_succ, CH]
    intro o' ho'
    have h0 := hops 0
    simp only [List.getElem?_cons_zero, Nat.add_zero] at h0
    obtain rfl : o = o' := Option.some.inj (h0.trans ho')
    rw [if_neg (by rw [hw]; decide)]
    have hs2 : Stg ρ (d.skip h).wl (if d.chB d.j = true then w :: Ws else Ws) w := by
      unfold DD.skip
      cases d.chB d.j
      · exact hs
      · exact ⟨fun _ _ _ _ _ => rfl, hs⟩
    have hwl2 : ∀ p ∈ (d.skip h).wl, ∀ l, liveB l p.1 = true → l < L := by
      unfold DD.skip
      cases d.chB d.j
      · exact hwl
      · intro p hp
        rcases List.mem_cons.1 hp with rfl | hp
        · intro l hl
          cases ho : hk l h with
          | none => exact absurd ho (liveB_iff.1 hl)
          | some ob => exact (g.hp l ob ho).1
        · exact hwl p hp
    have := k (fun i => by have := hops (i + 1); rw [DD.skip_j]; simpa [Nat.add_assoc, Nat.add_comm 1 i] using this) (by rw [DD.skip_pend]; exact hpl) hwl2 ρ _ w _ (g.put o.dst (.raw undef) hd (AV.Low.raw _ _ _)) hs2
    rw [DD.skip_j, DD.skip_pend, DD.skip_ch, DD.skip_pr, DD.skip_st] at this
    exact this
/-- an operation of 'act' -/
theorem rdL_lt {P : Program} {tt : List (Nat × TI)} {ρ : Env} {a : Act} {w : World} (g : Gam E ρ n L τ h F a w) {v : AV} (ha : act tt (fun l => hk l h) (evA τ) o.op = some v) : ∀ l ∈ rdL τ o.op, l < L ∧ ρ l ≠ none := by
  intro l hl
  cases ho : o.op <;> rw [ho] at hl <;> simp only [rdL] at hl <;> try (simp at hl; done)
  case load t x =>
    rw [ho] at ha
    simp only [act] at ha
    split at ha
    · rename_i l' wd i c ti h1 h2
      rw [h1] at hl
      simp only [List.mem_singleton] at hl
      subst hl
      split at ha
      · rename_i xs ty h3
        have := g.hp _ _ h3
        obtain ⟨b, hr, _⟩ := this.2.2
        exact ⟨this.1, by rw [hr]; simp⟩
      · cases ha
    · cases ha
/-- 'act' over another world in which the block that is looked at is the same -/
theorem Gam.act_at {P : Program} {tt : List (Nat × TI)} (htt : TTok P tt) {ρ : Env} {a : Act} {w : World} (g : Gam E ρ n L τ h F a w) {v : AV} (ha : act tt (fun l => hk l h) (evA τ) o.op = some v)
    (x : World) (hx : ∀ l ∈ rdL τ o.op, ∀ b, ρ l = some b → x.heap[b]? = w.heap[b]?) : (execOp a.eval o).run P x = .ok (.value (v.conc ρ)) x := by
  refine act_sound htt (hl := fun l => if (rdL τ o.op).elem l = true then hk l h else none) (e := evA τ) (fun l ob ho => ?_) (evB g) o v ?_
  · split at ho
    · rename_i hm0
      have hm : l ∈ rdL τ o.op := by simpa using hm0
      have hh := g.holds l ob ho
      cases ob with
      | cells xs ty => obtain ⟨b, hr, hb⟩ := hh; exact ⟨b, hr, by rw [hx l hm b hr]; exact hb⟩
      | bytes p cap ty =>
        refine ⟨hh.1, hh.2.imp id ?_⟩
        rintro ⟨b, cur, hr, hb, h1⟩
        exact ⟨b, cur, hr, by rw [hx l hm b hr]; exact hb, h1⟩
      | tab wd m cap f ty =>
        refine ⟨hh.1, hh.2.1, hh.2.2.imp id ?_⟩
        rintro ⟨b, cur, hr, hb, h1⟩
        exact ⟨b, cur, hr, by rw [hx l hm b hr]; exact hb, h1⟩
      | ro wd off m f =>
        refine hh.imp id ?_
        rintro ⟨b, cur, ty, fr, hr, hb, h1⟩
        exact ⟨b, cur, ty, fr, hr, by rw [hx l hm b hr]; exact hb, h1⟩
      | gone => trivial
    · cases ho
  · rw [← ha]
    cases ho : o.op
    case load t x =>
      simp only [act]
      split
      · rename_i l wd i c ti h1 h2
        have hm : (rdL τ (.load t x)).elem l = true := by simp [rdL, h1]
        simp only [hm, if_true]
      · rfl
    case unOp op t x => cases op <;> rfl
    case makeFunc fn f c => cases fn <;> rfl
    all_goals rfl
theorem RL.step {tt : List (Nat × TI)} (htt : TTok P tt) (v : AV) (ha : act tt (fun l => hk l h) (evA τ) o.op = some v) (hg : wantA ops o τ = some true) (hd : dOk n o.dst = true) (hk : lookB D (rdL τ o.op) = true)
    (k : RL P ops Q (lookD D (rdL τ o.op)) E n L (putA o.dst v τ) h F rest) (hls : (rdL τ o.op).all (fun l => Nat.ble (l + 1) L) = true) : RL P ops Q D E n L τ h F (o :: rest) :=
  RL.looks (rdL τ o.op) hg hd hk (fun l hl => by
    have h2 := List.all_eq_true.1 hls l hl
    have : l + 1 ≤ L := by simpa [Nat.ble_eq] using h2
    omega) v (fun ρ a w g => ⟨(g.actS htt ha).2, fun l hl => (rdL_lt (P := P) g ha l hl).2, fun x hx => g.act_at htt ha x hx⟩) k
/-- a state in which one of the chain ends: a value, memory, labels -/
structure Next1 (E : Base) (n L L' : Nat) (τ : List (Nat × AV)) (h h' : List (Nat × AO)) (F : World → Prop) (ws : List Nat) (ρ : Env) (a : Act) (w : World) (ρ' : Env) (v : AV) (w' : World) : Prop where
  low : v.Low ρ' L'
  same : ∀ l, l < L → ρ' l = ρ l
  gam : Gam E ρ' n L' τ h' F a w'
  old : ∀ l b, hk l h ≠ none → ρ l = some b → l ∉ ws → w.heap[b]? = w'.heap[b]?
def DD.act (h : List (Nat × AO)) (d : DD) (ws : List Nat) : DD := { d with j := d.j + 1, wl := (h, ws) :: d.wl }
def actD (h : List (Nat × AO)) (D : Option DD) (ws : List Nat) : Option DD := D.map fun d => d.act h ws
/-- one of the chain; nothing that is still to be looked at is turned -/
def chainB (h : List (Nat × AO)) (D : Option DD) (ws : List Nat) : Bool := match D with
  | none => true
  | some d => d.chB d.j && d.pend.all fun p => d.prB p.1 d.j || (!ws.elem p.2 && liveB p.2 h)
theorem pendC_ext {ρ ρ' : Env} {L : Nat} (he : ∀ l, l < L → ρ' l = ρ l) : ∀ (pend : List (Nat × Nat)), (∀ p ∈ pend, p.2 < L) → pendC ρ' pend = pendC ρ pend
  | [], _ => rfl
  | (i, l) :: r, h => by
    have := he l (h (i, l) (by simp))
    simp only [pendC, this, pendC_ext he r (fun p hp => h p (by simp [hp]))]
theorem pendC_mem {ρ : Env} : ∀ {pend : List (Nat × Nat)} {q : Nat × Nat}, q ∈ pendC ρ pend → ∃ l, (q.1, l) ∈ pend ∧ ρ l = some q.2
  | [], q, h => by simp [pendC] at h
  | (i, l) :: r, q, h => by
    simp only [pendC] at h
    split at h
    · rename_i b hb
      rcases List.mem_cons.1 h with rfl | h
      · exact ⟨l, by simp, hb⟩
      · obtain ⟨l', h1, h2⟩ := pendC_mem h
        exact ⟨l', by simp [h1], h2⟩
    · obtain ⟨l', h1, h2⟩ := pendC_mem h
      exact ⟨l', by simp [h1], h2⟩
/-- one of the chain -/
theorem RL.acts {σ : Type} (G : σ → Prop) (val : σ → AV) (L' : σ → Nat) (h' : σ → List (Nat × AO)) (F' : σ → World → Prop) (ws : List Nat) (hg : wantA ops o τ = some true) (hd : dOk n o.dst = true) (hk1 : chainB h D ws = true) (hL : ∀ s, G s → L ≤ L' s)
    (hv : ∀ ρ a w, Gam E ρ n L τ h F a w → goes P o a w fun v w' => ∃ s ρ', G s ∧ v = (val s).conc ρ' ∧ Next1 E n L (L' s) τ h (h' s) (F' s) ws ρ a w ρ' (val s) w')
    (k : ∀ s, G s → RL P ops Q (actD h D ws) E n (L' s) (putA o.dst (val s) τ) (h' s) (F' s) rest) : RL P ops Q D E n L τ h F (o :: rest) := by
  cases D with
  | none =>
    intro ρ a w g
    have hw := g.want hg
    refine wpList_step fun K hK => ?_
    rw [if_pos hw]
    refine goes_wp (hv ρ a w g) ?_
    rintro v w' ⟨s, ρ', hG, rfl, hN⟩
    exact hK _ _ (k s hG ρ' _ _ (hN.gam.put o.dst (val s) hd hN.low))
  | some d =>
    intro hops hpl hwl ρ a w Ws g hs
    have hw := g.want hg
    simp only [chainB, Bool.and_eq_true] at hk1
    simp only [List.length_cons, List.range'_succ, CH]
    intro o' ho'
    have h0 := hops 0
    simp only [List.getElem?_cons_zero, Nat.add_zero] at h0
    obtain rfl : o = o' := Option.some.inj (h0.trans ho')
    rw [if_pos hw, if_pos hk1.1]
    refine goes_mono (hv ρ a w g) ?_
    rintro v w' ⟨s, ρ', hG, rfl, hN⟩
    refine ⟨fun p hp hpr => ?_, ?_⟩
    · obtain ⟨l, h1, h2⟩ := pendC_mem hp
      have h3 := List.all_eq_true.1 hk1.2 _ h1
      simp only [Bool.or_eq_true, Bool.not_eq_true', Bool.and_eq_true] at h3
      rcases h3 with h3 | h3
      · rw [h3] at hpr; cases hpr
      · exact (hN.old l p.2 (liveB_iff.1 h3.2) h2 (fun hm => by have h4 := h3.1; rw [List.elem_iff.2 hm] at h4; cases h4)).symm
    · have h1 := k s hG (fun i => by have := hops (i + 1); simpa [DD.act, Nat.add_assoc, Nat.add_comm 1 i] using this) (fun p hp => Nat.lt_of_lt_of_le (hpl p hp) (hL s hG)) (fun p hp => by
          rcases List.mem_cons.1 hp with rfl | hp
          · intro l hl
            cases ho : hk l h with
            | none => exact absurd ho (liveB_iff.1 hl)
            | some ob => exact Nat.lt_of_lt_of_le (g.hp l ob ho).1 (hL s hG)
          · exact fun l hl => Nat.lt_of_lt_of_le (hwl p hp l hl) (hL s hG)) ρ' _ w' (w :: Ws) (hN.gam.put o.dst (val s) hd hN.low)
        ⟨fun l b hl hb hn => by
          have hll : l < L := by
            cases ho : hk l h with
            | none => exact absurd ho (liveB_iff.1 hl)
            | some ob => exact (g.hp l ob ho).1
          exact hN.old l b (liveB_iff.1 hl) (by rw [← hN.same l hll]; exact hb) hn, hs.ext hN.same hwl⟩
      have e : pendC ρ' (d.act h ws).pend = pendC ρ d.pend := pendC_ext hN.same _ hpl
      rw [e] at h1
      exact h1
end
end Go.Proofs.YtaieficgifingaaGreatDoor
namespace Go.Proofs.YtaieficgifingaaGreatDoor
set_option linter.unusedVariables false
set_option linter.unusedSimpArgs false
set_option linter.unusedSectionVars false
open Go.RowKit
/-- code, from every state as told -/
def CL (P : Program) (c : Code) (Q : Exit → Act → World → Prop) (E : Base) (n L : Nat) (τ : List (Nat × AV)) (h : List (Nat × AO)) (F : World → Prop) : Prop := ∀ ρ a w, Gam E ρ n L τ h F a w → c.wp P Q a w
/-- what is asked at an exit, of every state as told -/
def EX (Q : Exit → Act → World → Prop) (e : Exit) (E : Base) (n L : Nat) (τ : List (Nat × AV)) (h : List (Nat × AO)) (F : World → Prop) : Prop := ∀ ρ a w, Gam E ρ n L τ h F a w → Q e a w
theorem Gam.drew {E : Base} {ρ : Env} {n L : Nat} {τ : List (Nat × AV)} {h : List (Nat × AO)} {F : World → Prop} {a : Act} {w : World} (g : Gam E ρ n L τ h F a w) : Gam E ρ n L τ h F a { w with drawn := w.drawn + 1 } :=
  ⟨g.df, g.sz, g.tm, fun l o ho => by
    have := g.hp l o ho
    refine ⟨this.1, this.2.1, ?_⟩
    have hh := this.2.2
    cases o with
    | cells xs ty => exact hh
    | bytes p cap ty => exact hh
    | tab wd m cap f ty => exact hh
    | ro wd off m f => exact hh
    | gone => trivial, g.dis, fun w' hw => g.fr w' ⟨hw.os, hw.tape, hw.output, hw.size, hw.block⟩, g.ex, g.le, g.al⟩
/-- what is asked of a region that draws, in one look -/
def edgesB (ops : List Oper) (pr : List (List Nat)) (ch : List Nat) : Bool :=
  let p := fun i j => (pr.getD j []).elem i
  Region.noSelect ops.toArray && ch.isSublist (List.range ops.length) &&
  (ops.zipIdx.all fun (o, j) => o.after.toList.all fun e => !Region.binds .any e || (Nat.ble (e.on + 1) j && p e.on j)) &&
  ((List.range pr.length).all fun j => (pr.getD j []).all fun i => Nat.ble (i + 1) j && match ops[j]? with
    | some o => o.after.toList.any fun e => Region.binds .any e && (Nat.beq e.on i || p i e.on)
    | none => false) &&
  (ch.all fun j => ch.all fun i => Nat.ble j i || p i j) &&
  (ops.zipIdx.all fun (oj, j) => (List.range j).all fun i => p i j || match ops[i]? with
    | some oi => oi.apart ops.toArray oj
    | none => true)
theorem getD_elem {pr : List (List Nat)} {i j : Nat} (h : (pr.getD j []).elem i = true) : j < pr.length := by
  rcases Nat.lt_or_ge j pr.length with h' | h'
  · exact h'
  · rw [List.getD_eq_getElem?_getD, List.getElem?_eq_none h'] at h
    simp at h
theorem edges_of {ops : List Oper} {pr : List (List Nat)} {ch : List Nat} (h : edgesB ops pr ch = true) (d : DD) (hp : d.pr = pr) (hc : d.ch = ch) :
    Edges ops.toArray d.chB d.prB ∧ (∀ j, d.st j ≤ (List.range ops.toArray.size).countP fun i => d.chB i && d.prB i j) ∧ (∀ i j, d.prB i j = true → i < j) := by
  subst hp hc
  simp only [edgesB, Bool.and_eq_true] at h
  obtain ⟨⟨⟨⟨⟨h1, h2⟩, h3⟩, h4⟩, h5⟩, h6⟩ := h
  have hp : ∀ i j, d.prB i j = true → i < j ∧ ∀ o, ops[j]? = some o → ∃ e ∈ o.after, Region.binds .any e = true ∧ (e.on = i ∨ d.prB i e.on = true) := fun i j hij => by
    have hlt := getD_elem hij
    have := List.all_eq_true.1 h4 j (List.mem_range.2 hlt)
    have := List.all_eq_true.1 this i (List.elem_iff.1 hij)
    simp only [Bool.and_eq_true] at this
    refine ⟨by have : i + 1 ≤ j := by simpa [Nat.ble_eq] using this.1
               omega, fun o ho => ?_⟩
    have h7 := this.2
    rw [ho] at h7
    simp only [List.any_eq_true, Bool.and_eq_true, Bool.or_eq_true] at h7
    obtain ⟨e, he, hb, hx⟩ := h7
    exact ⟨e, by simpa using he, hb, hx.imp (fun h => Nat.eq_of_beq_eq_true h) id⟩
  refine ⟨⟨fun j o cs b ho => Region.noSelect_spec h1 j o cs b ho, fun j o ho e he hb => ?_, fun i j o ho hij => ?_, fun i j hij hi hj => ?_, fun i j oi oj hij hi hj hn => ?_⟩, fun j => ?_, fun i j hij => (hp i j hij).1⟩
  · have := List.all_eq_true.1 h3 (o, j) (List.mem_zipIdx_iff_getElem?.2 (by simpa using ho))
    have := List.all_eq_true.1 this e (by simpa using he)
    simp only [Bool.or_eq_true, Bool.not_eq_true', Bool.and_eq_true] at this
    rcases this with h | h
    · rw [hb] at h; cases h
    · exact ⟨by have : e.on + 1 ≤ j := by simpa [Nat.ble_eq] using h.1
                omega, h.2⟩
  · exact (hp i j hij).2 o (by simpa using ho)
  · have := List.all_eq_true.1 h5 j (List.elem_iff.1 hj)
    have := List.all_eq_true.1 this i (List.elem_iff.1 hi)
    simp only [Bool.or_eq_true] at this
    rcases this with h | h
    · have : j ≤ i := by simpa [Nat.ble_eq] using h
      omega
    · exact h
  · have := List.all_eq_true.1 h6 (oj, j) (List.mem_zipIdx_iff_getElem?.2 (by simpa using hj))
    have := List.all_eq_true.1 this i (List.mem_range.2 hij)
    simp only [Bool.or_eq_true] at this
    rcases this with h | h
    · unfold DD.prB at hn; rw [hn] at h; cases h
    · have e : ops[i]? = some oi := by simpa using hi
      rw [e] at h
      exact h
  · have hs : d.ch.Sublist (List.range ops.toArray.size) := by
      rw [List.size_toArray]
      exact List.isSublist_iff_sublist.1 h2
    refine Nat.le_trans ?_ (hs.countP_le (p := fun i => d.chB i && d.prB i j))
    unfold DD.st
    rw [← List.countP_eq_length_filter]
    refine List.countP_mono_left fun i hi h => ?_
    simp only [Bool.and_eq_true]
    exact ⟨List.elem_iff.2 hi, h⟩
section
variable {P : Program} {Q : Exit → Act → World → Prop} {E : Base} {n L : Nat} {τ : List (Nat × AV)} {h : List (Nat × AO)} {F : World → Prop}
theorem CL.region {id : Nat} {l : List Oper} (k : RL P l.toArray Q none E n L τ h F l) : CL P (.region id l.toArray false) Q E n L τ h F := fun ρ a w g => wp_region_lit (k ρ a w g)
theorem CL.draw (pr : List (List Nat)) (ch : List Nat) {id : Nat} {l : List Oper} (hm : P.follows .mixedOrders = true) (hB : edgesB l pr ch = true) (k : RL P l.toArray Q (some ⟨0, pr, ch, [], []⟩) E n L τ h F l) :
    CL P (.region id l.toArray true) Q E n L τ h F := fun ρ a w g => by
  obtain ⟨hE, hs, hl⟩ := edges_of hB ⟨0, pr, ch, [], []⟩ rfl rfl
  refine wp_region_any hm ?_
  have := k (fun i => by simp) (fun p hp => by cases hp) (fun p hp => by cases hp) ρ a _ [] g.drew trivial
  rw [← List.range_eq_range'] at this
  refine CH.any hE hs hl _ _ _ _ [] a (by simp) ⟨by simp, fun j => ?_, List.pairwise_lt_range⟩ (fun j o ho hn => ?_) ?_ this
  · simp only [List.mem_range, List.size_toArray]
    constructor
    · intro hj; exact ⟨hj, by simp [hj]⟩
    · exact fun h => h.1
  · exfalso
    apply hn
    have := (Array.getElem?_eq_some_iff.1 ho).1
    simpa using this
  · have : chCnt l.toArray (DD.chB ⟨0, pr, ch, [], []⟩) (List.range l.length) = 0 := by
      unfold chCnt
      rw [List.countP_eq_zero]
      intro i hi
      have : i < l.length := by simpa using hi
      simp [this]
    omega
theorem CL.seq {x y : Code} (k : CL P x (Exit.then (y.wp P Q) Q) E n L τ h F) : CL P (.seq x y) Q E n L τ h F := fun ρ a w g => wp_seq (k ρ a w g)
theorem EX.then {y : Code} (k : CL P y Q E n L τ h F) : EX (Exit.then (y.wp P Q) Q) .normal E n L τ h F := fun ρ a w g => k ρ a w g
theorem EX.pass_ret {next : Act → World → Prop} (k : EX Q .ret E n L τ h F) : EX (Exit.then next Q) .ret E n L τ h F := k
theorem EX.pass_exit {next : Act → World → Prop} {id : Nat} (k : EX Q (.exit id) E n L τ h F) : EX (Exit.then next Q) (.exit id) E n L τ h F := k
theorem EX.block_normal {id : Nat} (k : EX Q .normal E n L τ h F) : EX (Exit.inBlock id Q) .normal E n L τ h F := k
theorem EX.block_ret {id : Nat} (k : EX Q .ret E n L τ h F) : EX (Exit.inBlock id Q) .ret E n L τ h F := k
theorem EX.block_exit {id : Nat} (k : EX Q .normal E n L τ h F) : EX (Exit.inBlock id Q) (.exit id) E n L τ h F := fun ρ a w g => by
  simp only [Exit.inBlock, if_true]; exact k ρ a w g
theorem EX.block_other {id id' : Nat} (hne : Nat.beq id' id = false) (k : EX Q (.exit id') E n L τ h F) : EX (Exit.inBlock id Q) (.exit id') E n L τ h F := fun ρ a w g => by
  have : id' ≠ id := fun e => by subst e; rw [Nat.beq_refl] at hne; cases hne
  simp only [Exit.inBlock, this, if_false]; exact k ρ a w g
theorem RL.done {ops : Array Oper} {D : Option DD} (k : EX Q .normal E n L τ h F) : RL P ops Q D E n L τ h F [] := RL.nil k
theorem CL.skip (k : EX Q .normal E n L τ h F) : CL P .skip Q E n L τ h F := fun ρ a w g => wp_skip (k ρ a w g)
theorem CL.ret (k : EX Q .ret E n L τ h F) : CL P .ret Q E n L τ h F := fun ρ a w g => wp_ret (k ρ a w g)
theorem CL.exit {id : Nat} (k : EX Q (.exit id) E n L τ h F) : CL P (.exit id) Q E n L τ h F := fun ρ a w g => wp_exit (k ρ a w g)
theorem CL.block {id : Nat} {c : Code} (k : CL P c (Exit.inBlock id Q) E n L τ h F) : CL P (.block id c) Q E n L τ h F := fun ρ a w g => wp_block (k ρ a w g)
theorem CL.cond {c : Operand} {x y : Code} {b : Bool} (hc : evA τ c = some (.raw (.bool b))) (kt : b = true → CL P x Q E n L τ h F) (kf : b = false → CL P y Q E n L τ h F) : CL P (.cond c x y) Q E n L τ h F := fun ρ a w g =>
  wp_cond_split (g.eval c _ hc).2 (fun hb => kt hb ρ a w g) (fun hb => kf hb ρ a w g)
theorem CL.cond_true {c : Operand} {x y : Code} (hc : evA τ c = some (.raw (.bool true))) (kt : CL P x Q E n L τ h F) : CL P (.cond c x y) Q E n L τ h F := fun ρ a w g => wp_cond_true (g.eval c _ hc).2 (kt ρ a w g)
theorem CL.cond_false {c : Operand} {x y : Code} (hc : evA τ c = some (.raw (.bool false))) (kf : CL P y Q E n L τ h F) : CL P (.cond c x y) Q E n L τ h F := fun ρ a w g => wp_cond_false (g.eval c _ hc).2 (kf ρ a w g)
end
end Go.Proofs.YtaieficgifingaaGreatDoor
namespace Go.Proofs.YtaieficgifingaaGreatDoor
set_option linter.unusedVariables false
set_option linter.unusedSimpArgs false
set_option linter.unusedSectionVars false
open Go.RowKit
theorem holds_same {ρ : Env} {r : Option Nat} {w w' : World} {o : AO} (h : o.holds ρ r w) (hb : ∀ b, r = some b → w'.heap[b]? = w.heap[b]?) : o.holds ρ r w' := by
  cases o with
  | cells xs ty => obtain ⟨b, hr, hc⟩ := h; exact ⟨b, hr, by rw [hb b hr]; exact hc⟩
  | bytes p cap ty =>
    refine ⟨h.1, h.2.imp id ?_⟩
    rintro ⟨b, cur, hr, hc, h1⟩
    exact ⟨b, cur, hr, by rw [hb b hr]; exact hc, h1⟩
  | tab wd m cap f ty =>
    refine ⟨h.1, h.2.1, h.2.2.imp id ?_⟩
    rintro ⟨b, cur, hr, hc, h1⟩
    exact ⟨b, cur, hr, by rw [hb b hr]; exact hc, h1⟩
  | ro wd off m f =>
    refine h.imp id ?_
    rintro ⟨b, cur, ty, fr, hr, hc, h1⟩
    exact ⟨b, cur, ty, fr, hr, by rw [hb b hr]; exact hc, h1⟩
  | gone => trivial
theorem holds_lt {ρ : Env} {b : Nat} {w : World} {o : AO} (h : o.holds ρ (some b) w) (ho : o ≠ .gone) : b < w.heap.size := by
  cases o with
  | cells xs ty => obtain ⟨b', hr, hc⟩ := h; cases hr; exact (Array.getElem?_eq_some_iff.1 hc).1
  | bytes p cap ty =>
    rcases h.2 with ⟨hr, _⟩ | ⟨b', cur, hr, hc, h1⟩
    · cases hr
    · cases hr; exact (Array.getElem?_eq_some_iff.1 hc).1
  | tab wd m cap f ty =>
    rcases h.2.2 with ⟨hr, _⟩ | ⟨b', cur, hr, hc, h1⟩
    · cases hr
    · cases hr; exact (Array.getElem?_eq_some_iff.1 hc).1
  | ro wd off m f =>
    rcases h with ⟨hr, _⟩ | ⟨b', cur, ty, fr, hr, hc, h1⟩
    · cases hr
    · cases hr; exact (Array.getElem?_eq_some_iff.1 hc).1
  | gone => exact absurd rfl ho
theorem hk_gone {l : Nat} {h : List (Nat × AO)} {o : AO} (hl : hk l h = some o) : o ≠ .gone := by
  rintro rfl
  unfold hk at hl
  split at hl
  · cases hl
  · rename_i h1; exact h1 hl
section
variable {E : Base} {ρ : Env} {n L : Nat} {τ : List (Nat × AV)} {h : List (Nat × AO)} {F : World → Prop} {a : Act} {w : World}
theorem Gam.lt (g : Gam E ρ n L τ h F a w) {l b : Nat} (hl : hk l h ≠ none) (hb : ρ l = some b) : b < w.heap.size := by
  cases ho : hk l h with
  | none => exact absurd ho hl
  | some o =>
    have := (g.hp l o ho).2.2
    rw [hb] at this
    exact holds_lt this (hk_gone ho)
/-- a state behind a turn of memory -/
theorem Gam.turn (g : Gam E ρ n L τ h F a w) {ρ' : Env} {L' : Nat} {h' : List (Nat × AO)} {w' : World} (hs : ∀ l, l < L → ρ' l = ρ l) (hL : L ≤ L')
    (hag : Ag (fun b => ∀ l, wrA l h → ρ l ≠ some b) w w') (hh : ∀ l o, hk l h' = some o → l < L' ∧ o.Low ρ' L' ∧ o.holds ρ' (ρ' l) w')
    (hdis : ∀ l l' b, wrA l h' → hk l' h' ≠ none → ρ' l = some b → ρ' l' = some b → l = l')
    (hnew : ∀ l b, wrA l h' → ρ' l = some b → w.heap.size ≤ b ∨ ∃ l0, wrA l0 h ∧ ρ l0 = some b)
    (hal : ∀ l b, L ≤ l → l < L' → ρ' l = some b → b < w'.heap.size) : Gam E ρ' n L' τ h' F a w' := by
  refine ⟨g.df, g.sz, fun t v hv => ?_, hh, hdis, fun w'' hw => ?_, fun l hl => ?_, Nat.le_trans g.le hL, fun l b hl hb => ?_⟩
  · have := g.tm t v hv
    exact ⟨(this.1.ext hs).mono hL, by rw [this.1 ρ' hs]; exact this.2⟩
  · refine g.fr w'' (hag.trans2 hw fun b hb hd l hl hr => ?_)
    rcases hnew l b hl hr with h1 | ⟨l0, h1, h2⟩
    · omega
    · exact hd l0 h1 h2
  · rw [hs l (Nat.lt_of_lt_of_le hl g.le), g.ex l hl]
  · rcases Nat.lt_or_ge l L with h1 | h1
    · exact Nat.lt_of_lt_of_le (g.al l b h1 ((hs l h1).symm.trans hb)) hag.size
    · exact hal l b h1 hl hb
theorem ag_alloc (D : Nat → Prop) (w : World) (o : Obj) : Ag D w (w.alloc o) := ⟨rfl, rfl, rfl, by simp, fun b hb _ => heap_alloc_old w o hb⟩
def updE (ρ : Env) (l : Nat) (r : Option Nat) : Env := fun k => match Nat.beq k l with
  | true => r
  | false => ρ k
theorem updE_same (ρ : Env) (l : Nat) (r : Option Nat) : updE ρ l r l = r := by simp [updE]
theorem updE_ne (ρ : Env) {l k : Nat} (r : Option Nat) (h : k ≠ l) : updE ρ l r k = ρ k := by
  unfold updE
  have : Nat.beq k l = false := by
    cases e : Nat.beq k l with
    | true => exact absurd (Nat.eq_of_beq_eq_true e) h
    | false => rfl
  rw [this]
/-- a new block, at the label L -/
theorem Gam.new (g : Gam E ρ n L τ h F a w) (o : AO) (ob : Obj) (ho : ∀ ρ', (∀ l, l < L → ρ' l = ρ l) → o.Low ρ' (L + 1) ∧ o.holds ρ' (some w.heap.size) (w.alloc ob)) :
    Gam E (updE ρ L (some w.heap.size)) n (L + 1) τ ((L, o) :: h) F a (w.alloc ob) := by
  have hs : ∀ l, l < L → updE ρ L (some w.heap.size) l = ρ l := fun l hl => updE_ne ρ _ (by omega)
  refine g.turn hs (Nat.le_succ L) (ag_alloc _ w ob) (fun l o' hl => ?_) (fun l l' b hl hl' hb hb' => ?_) (fun l b hl hb => ?_) (fun l b h1 h2 hb => ?_)
  · rw [hk_cons] at hl
    split at hl
    · rename_i e
      subst e
      rw [updE_same]
      have e2 : o' = o := by cases o <;> simp at hl <;> exact hl.symm
      subst e2
      exact ⟨by omega, ho _ hs⟩
    · rename_i e
      have hh := g.hp l o' hl
      refine ⟨by omega, (hh.2.1.ext hs).mono (Nat.le_succ L), ?_⟩
      rw [hs l hh.1]
      refine holds_same ((hh.2.1 _ hs _ _).1 hh.2.2) fun b hb => heap_alloc_old w ob (g.lt (by rw [hl]; simp) hb)
  · have hw := hl
    have hl := hl.live
    rw [hk_cons] at hl hl'
    by_cases e1 : L = l <;> by_cases e2 : L = l'
    · omega
    · rw [if_neg e2] at hl'
      subst e1
      rw [updE_same] at hb
      rw [updE_ne ρ _ (fun e => e2 e.symm)] at hb'
      have := g.lt hl' hb'
      cases hb
      omega
    · rw [if_neg e1] at hl
      subst e2
      rw [updE_same] at hb'
      rw [updE_ne ρ _ (fun e => e1 e.symm)] at hb
      have := g.lt hl hb
      cases hb'
      omega
    · rw [if_neg e1] at hl
      rw [if_neg e2] at hl'
      rw [updE_ne ρ _ (fun e => e1 e.symm)] at hb
      rw [updE_ne ρ _ (fun e => e2 e.symm)] at hb'
      refine g.dis l l' b ?_ hl' hb hb'
      obtain ⟨o1, h1, h2⟩ := hw
      rw [hk_cons, if_neg e1] at h1
      exact ⟨o1, h1, h2⟩
  · have hw := hl
    obtain ⟨o1, h1, h2⟩ := hl
    by_cases e1 : L = l
    · subst e1
      rw [updE_same] at hb
      cases hb
      exact .inl (Nat.le_refl _)
    · rw [hk_cons, if_neg e1] at h1
      rw [updE_ne ρ _ (fun e => e1 e.symm)] at hb
      exact .inr ⟨l, ⟨o1, h1, h2⟩, hb⟩
  · obtain rfl : l = L := by omega
    rw [updE_same] at hb
    cases hb
    simp
/-- what lies at a label is another thing now -/
theorem Gam.set (g : Gam E ρ n L τ h F a w) {l0 b0 : Nat} {o o0 : AO} {w' : World} (hl0 : hk l0 h = some o0) (hro : o0.isRo = false) (hb0 : ρ l0 = some b0) (hlow : o.Low ρ L) (hh : o.holds ρ (some b0) w')
    (hag : ∀ b, b ≠ b0 → w'.heap[b]? = w.heap[b]?) (hsz : w'.heap.size = w.heap.size) (hos : w'.os = w.os ∧ w'.tape = w.tape ∧ w'.output = w.output) : Gam E ρ n L τ ((l0, o) :: h) F a w' := by
  have hw0 : wrA l0 h := ⟨o0, hl0, hro⟩
  have hne : ∀ l, hk l ((l0, o) :: h) ≠ none → hk l h ≠ none := fun l hl => by
    rw [hk_cons] at hl
    split at hl
    · rename_i e; subst e; rw [hl0]; simp
    · exact hl
  have hwr : ∀ l, wrA l ((l0, o) :: h) → wrA l h := fun l hl => by
    obtain ⟨o1, h1, h2⟩ := hl
    rw [hk_cons] at h1
    split at h1
    · rename_i e; subst e; exact hw0
    · exact ⟨o1, h1, h2⟩
  refine g.turn (fun l hl => rfl) (Nat.le_refl L) ⟨hos.1, hos.2.1, hos.2.2, by omega, fun b hb hd => hag b fun e => hd l0 hw0 (e ▸ hb0)⟩ (fun l o' hl => ?_)
    (fun l l' b hl hl' hb hb' => g.dis l l' b (hwr l hl) (hne l' hl') hb hb') (fun l b hl hb => .inr ⟨l, hwr l hl, hb⟩) (fun l b h1 h2 _ => by omega)
  rw [hk_cons] at hl
  split at hl
  · rename_i e
    subst e
    have e2 : o' = o := by cases o <;> simp at hl <;> exact hl.symm
    subst e2
    exact ⟨(g.hp _ _ hl0).1, hlow, by rw [hb0]; exact hh⟩
  · rename_i e
    have hx := g.hp l o' hl
    refine ⟨hx.1, hx.2.1, holds_same hx.2.2 fun b hb => hag b fun eb => e (g.dis l0 l b0 hw0 (by rw [hl]; simp) hb0 (eb ▸ hb))⟩
end
end Go.Proofs.YtaieficgifingaaGreatDoor
