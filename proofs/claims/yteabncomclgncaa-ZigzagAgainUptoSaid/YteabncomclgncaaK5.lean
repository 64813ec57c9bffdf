/- The kernel, 5: a region that draws its order. What acts comes in one chain; what only looks may come anywhere. No program in sight. -/
import Derived.Test.YteabncomclgncaaK4
import Derived.Deep.QuietTactic
namespace Go.Proofs.Yteabncomclgncaa
set_option linter.unusedVariables false
set_option linter.unusedSimpArgs false
set_option linter.unusedSectionVars false
open Go.RowKit

/-- an operation's outcome: a value and a world -/
def upTo (P : Program) (R : Value → World → Prop) : Result Next → Prop
  | .ok (.value v) w' => R v w'
  | .ok .skip w' => R undef w'
  | .ok (.enter f args) w' => Calls P f args w' fun e w'' => ∃ v, e = .returned v ∧ R v w''
  | _ => False
def goes (P : Program) (o : Oper) (a : Act) (w : World) (R : Value → World → Prop) : Prop := upTo P R ((execOp a.eval o).run P w)
section
variable {P : Program} {o : Oper} {a : Act} {w : World}
theorem upTo_mono {R R' : Value → World → Prop} {r : Result Next} (h : upTo P R r) (hr : ∀ v w', R v w' → R' v w') : upTo P R' r := by
  cases r with
  | ok n w' =>
    cases n <;> simp only [upTo] at h ⊢
    case value v => exact hr _ _ h
    case skip => exact hr _ _ h
    case enter f args => exact h.mono fun e w'' ⟨v, he, hv⟩ => ⟨v, he, hr _ _ hv⟩
  | halt x w' => exact h
theorem goes_mono {R R' : Value → World → Prop} (h : goes P o a w R) (hr : ∀ v w', R v w' → R' v w') : goes P o a w R' := upTo_mono h hr
theorem goes_same {R : Value → World → Prop} {a' : Act} (he : execOp a'.eval o = execOp a.eval o) (h : goes P o a w R) : goes P o a' w R := by
  unfold goes at *; rw [he]; exact h
theorem upTo_some {R : Value → World → Prop} {r : Result Next} (h : upTo P R r) : ∃ v w', R v w' := by
  cases r with
  | ok n w' =>
    cases n <;> simp only [upTo] at h
    case value v => exact ⟨_, _, h⟩
    case skip => exact ⟨_, _, h⟩
    case enter f args =>
      obtain ⟨e, w'', fr, ⟨v, _, hR⟩, _⟩ := h []
      exact ⟨_, _, hR⟩
  | halt x w' => exact h.elim
theorem goes_some {R : Value → World → Prop} (h : goes P o a w R) : ∃ v w', R v w' := upTo_some h
theorem goes_wp {R : Value → World → Prop} {K : Act → World → Prop} {Q : Exit → Act → World → Prop} (h : goes P o a w R) (hk : ∀ v w', R v w' → K (a.put o.dst v) w') : o.wp P a w K Q := by
  unfold goes at h
  unfold Oper.wp
  generalize (execOp a.eval o).run P w = r at h
  cases r with
  | ok n w' =>
    cases n <;> simp only [upTo] at h <;> simp only [Oper.upon]
    case value v => exact hk _ _ h
    case skip => exact hk _ _ h
    case enter f args =>
      refine h.mono ?_
      rintro e w'' ⟨v, rfl, hv⟩
      exact hk _ _ hv
  | halt x w' => exact h.elim
end

/-! the operations that are left, in the order of the text -/
section
variable (P : Program) (ops : Array Oper) (Q : Exit → Act → World → Prop) (ch : Nat → Bool) (pr : Nat → Nat → Bool) (st : Nat → Nat)
/-- ch: the chain; pr: what comes ahead of what; st: how many of the chain come ahead; pend: blocks that an operation ahead in the text may look at later -/
def CH : List Nat → List (Nat × Nat) → World → List World → Act → Prop
  | [], _, W, _, a => Q .normal a W
  | j :: rest, pend, W, Ws, a => ∀ o, ops[j]? = some o →
    if Region.wanted o (yielded ops a.tmps) = true then
      if ch j = true then goes P o a W (fun v w' => (∀ p ∈ pend, pr p.1 j = false → w'.heap[p.2]? = W.heap[p.2]?) ∧ CH rest pend w' (W :: Ws) (a.put o.dst v))
      else ∃ (v : Value) (bs : List Nat), (∀ x : World, (∀ b ∈ bs, x.heap[b]? = W.heap[b]?) → (execOp a.eval o).run P x = .ok (.value v) x) ∧ (∀ V ∈ Ws.take (Ws.length - st j), ∀ b ∈ bs, V.heap[b]? = W.heap[b]?) ∧
        CH rest (pend ++ bs.map fun b => (j, b)) W Ws (a.put o.dst v)
    else CH rest pend W (if ch j = true then W :: Ws else Ws) (a.put o.dst undef)
/-- what is asked of the edges -/
structure Edges : Prop where
  sel : ∀ (j : Nat) (o : Oper) cs b, ops[j]? = some o → o.op ≠ .select cs b
  dir : ∀ j o, ops[j]? = some o → ∀ e ∈ o.after, Region.binds .any e = true → e.on < j ∧ pr e.on j = true
  back : ∀ i j o, ops[j]? = some o → pr i j = true → ∃ e ∈ o.after, Region.binds .any e = true ∧ (e.on = i ∨ pr i e.on = true)
  one : ∀ i j, i < j → ch i = true → ch j = true → pr i j = true
  far : ∀ i j oi oj, i < j → ops[i]? = some oi → ops[j]? = some oj → pr i j = false → oi.apart ops oj = true
end
section
variable {P : Program} {ops : Array Oper} {Q : Exit → Act → World → Prop} {ch : Nat → Bool} {pr : Nat → Nat → Bool} {st : Nat → Nat}
theorem CH.pend : ∀ {rem : List Nat} {pend pend' : List (Nat × Nat)} {W : World} {Ws : List World} {a : Act}, (∀ p ∈ pend', p ∈ pend) → CH P ops Q ch pr st rem pend W Ws a → CH P ops Q ch pr st rem pend' W Ws a
  | [], _, _, _, _, _, _, h => by simpa only [CH] using h
  | j :: rest, pend, pend', W, Ws, a, hp, h => by
    simp only [CH] at h ⊢
    intro o ho
    have h := h o ho
    split
    · rename_i hw
      rw [if_pos hw] at h
      split
      · rename_i hc
        rw [if_pos hc] at h
        exact goes_mono h fun v w' ⟨h1, h2⟩ => ⟨fun p hp' => h1 p (hp p hp'), CH.pend hp h2⟩
      · rename_i hc
        rw [if_neg hc] at h
        obtain ⟨v, bs, h1, h2, h3⟩ := h
        refine ⟨v, bs, h1, h2, CH.pend ?_ h3⟩
        intro p hp'
        rcases List.mem_append.1 hp' with h' | h'
        · exact List.mem_append_left _ (hp p h')
        · exact List.mem_append_right _ h'
    · rename_i hw
      rw [if_neg hw] at h
      exact CH.pend hp h
variable (E : Edges ops ch pr)
include E
/-- the next of the chain may come first -/
theorem CH.chain {c : Nat} {oc : Oper} (hoc : ops[c]? = some oc) (hcc : ch c = true) : ∀ (pre : List Nat) {post : List Nat} {pend : List (Nat × Nat)} {W : World} {Ws : List World} {a : Act},
    (∀ k ∈ pre, k < c ∧ pr k c = false ∧ k < ops.size) → (∀ k ∈ pre, st k ≤ Ws.length) → CH P ops Q ch pr st (pre ++ c :: post) pend W Ws a →
    if Region.wanted oc (yielded ops a.tmps) = true then
      goes P oc a W (fun v w' => (∀ p ∈ pend, pr p.1 c = false → w'.heap[p.2]? = W.heap[p.2]?) ∧ CH P ops Q ch pr st (pre ++ post) pend w' (W :: Ws) (a.put oc.dst v))
    else CH P ops Q ch pr st (pre ++ post) pend W (W :: Ws) (a.put oc.dst undef)
  | [], post, pend, W, Ws, a, _, _, h => by
    simp only [List.nil_append, CH] at h
    have h := h oc hoc
    split
    · rename_i hw
      rw [if_pos hw, if_pos hcc] at h
      exact h
    · rename_i hw
      rw [if_neg hw, if_pos hcc] at h
      exact h
  | k :: pre, post, pend, W, Ws, a, hpre, hst, h => by
    obtain ⟨hkc, hpk, hks⟩ := hpre k (by simp)
    obtain ⟨ok, hok⟩ : ∃ ok, ops[k]? = some ok := ⟨_, Array.getElem?_eq_getElem hks⟩
    have hnk : ch k = false := by
      cases hx : ch k with
      | false => rfl
      | true => rw [E.one k c hkc hx hcc] at hpk; cases hpk
    obtain ⟨a1, a2, a3⟩ := Oper.apart_spec (E.far k c ok oc hkc hok hoc hpk)
    simp only [List.cons_append, CH] at h
    have hh := h ok hok
    have hpre' : ∀ k ∈ pre, k < c ∧ pr k c = false ∧ k < ops.size := fun x hx => hpre x (by simp [hx])
    have hst' : ∀ k ∈ pre, st k ≤ Ws.length := fun x hx => hst x (by simp [hx])
    have wk : ∀ u, Region.wanted oc (yielded ops (a.put ok.dst u).tmps) = Region.wanted oc (yielded ops a.tmps) := fun u => wanted_put oc a ok.dst u a1
    have wc : ∀ (u : Value), Region.wanted ok (yielded ops (a.put oc.dst u).tmps) = Region.wanted ok (yielded ops a.tmps) := fun u => wanted_put ok a oc.dst u a3
    have xk : ∀ u, execOp (a.put ok.dst u).eval oc = execOp a.eval oc := fun u => execOp_put oc (fun cs b => E.sel c oc cs b hoc) a ok.dst u a1
    have xc : ∀ u, execOp (a.put oc.dst u).eval ok = execOp a.eval ok := fun u => execOp_put ok (fun cs b => E.sel k ok cs b hok) a oc.dst u a3
    by_cases hwk : Region.wanted ok (yielded ops a.tmps) = true
    · rw [if_pos hwk, if_neg (by rw [hnk]; decide)] at hh
      obtain ⟨v, bs, h1, h2, h3⟩ := hh
      have IH := CH.chain hoc hcc pre hpre' hst' h3
      rw [wk] at IH
      split
      · rename_i hw
        rw [if_pos hw] at IH
        refine goes_mono (goes_same (xk v).symm IH) fun u w' hu => ?_
        obtain ⟨hu1, hu2⟩ := hu
        have hb : ∀ b ∈ bs, w'.heap[b]? = W.heap[b]? := fun b hb => hu1 (k, b) (List.mem_append_right _ (List.mem_map.2 ⟨b, hb, rfl⟩)) hpk
        refine ⟨fun p hp => hu1 p (List.mem_append_left _ hp), ?_⟩
        simp only [List.cons_append, CH]
        intro o ho
        obtain rfl : ok = o := Option.some.inj (hok.symm.trans ho)
        rw [if_pos (by rw [wc]; exact hwk), if_neg (by rw [hnk]; decide)]
        refine ⟨v, bs, fun x hx => ?_, fun V hV b hb' => ?_, ?_⟩
        · rw [xc]; exact h1 x fun b hb' => (hx b hb').trans (hb b hb')
        · rw [hb b hb']
          rw [List.length_cons, show Ws.length + 1 - st k = Ws.length - st k + 1 by have := hst k (by simp); omega, List.take_succ_cons] at hV
          rcases List.mem_cons.1 hV with rfl | hV
          · rfl
          · exact h2 V hV b hb'
        · rw [← Act.put_comm a _ _ a2]
          exact hu2
      · rename_i hw
        rw [if_neg hw] at IH
        simp only [List.cons_append, CH]
        intro o ho
        obtain rfl : ok = o := Option.some.inj (hok.symm.trans ho)
        rw [if_pos (by rw [wc]; exact hwk), if_neg (by rw [hnk]; decide)]
        refine ⟨v, bs, fun x hx => by rw [xc]; exact h1 x hx, fun V hV b hb' => ?_, ?_⟩
        · rw [List.length_cons, show Ws.length + 1 - st k = Ws.length - st k + 1 by have := hst k (by simp); omega, List.take_succ_cons] at hV
          rcases List.mem_cons.1 hV with rfl | hV
          · rfl
          · exact h2 V hV b hb'
        · rw [← Act.put_comm a _ _ a2]
          exact IH
    · rw [if_neg hwk, if_neg (by rw [hnk]; decide)] at hh
      have IH := CH.chain hoc hcc pre hpre' hst' hh
      rw [wk] at IH
      split
      · rename_i hw
        rw [if_pos hw] at IH
        refine goes_mono (goes_same (xk _).symm IH) fun u w' hu => ⟨hu.1, ?_⟩
        simp only [List.cons_append, CH]
        intro o ho
        obtain rfl : ok = o := Option.some.inj (hok.symm.trans ho)
        rw [if_neg (by rw [wc]; exact hwk), if_neg (by rw [hnk]; decide)]
        rw [← Act.put_comm a _ _ a2]
        exact hu.2
      · rename_i hw
        rw [if_neg hw] at IH
        simp only [List.cons_append, CH]
        intro o ho
        obtain rfl : ok = o := Option.some.inj (hok.symm.trans ho)
        rw [if_neg (by rw [wc]; exact hwk), if_neg (by rw [hnk]; decide)]
        rw [← Act.put_comm a _ _ a2]
        exact IH

/-- what only looks may come first -/
theorem CH.look {j : Nat} {oj : Oper} (hoj : ops[j]? = some oj) (hcj : ch j = false) : ∀ (pre : List Nat) {post : List Nat} {pend : List (Nat × Nat)} {W : World} {Ws : List World} {a : Act},
    (∀ k ∈ pre, k < j ∧ pr k j = false ∧ k < ops.size) → st j ≤ Ws.length → CH P ops Q ch pr st (pre ++ j :: post) pend W Ws a →
    if Region.wanted oj (yielded ops a.tmps) = true then
      ∃ (v : Value) (bs : List Nat), (∀ x : World, (∀ b ∈ bs, x.heap[b]? = W.heap[b]?) → (execOp a.eval oj).run P x = .ok (.value v) x) ∧ (∀ V ∈ Ws.take (Ws.length - st j), ∀ b ∈ bs, V.heap[b]? = W.heap[b]?) ∧
        CH P ops Q ch pr st (pre ++ post) pend W Ws (a.put oj.dst v)
    else CH P ops Q ch pr st (pre ++ post) pend W Ws (a.put oj.dst undef)
  | [], post, pend, W, Ws, a, _, _, h => by
    simp only [List.nil_append, CH] at h
    have h := h oj hoj
    split
    · rename_i hw
      rw [if_pos hw, if_neg (by rw [hcj]; decide)] at h
      obtain ⟨v, bs, h1, h2, h3⟩ := h
      exact ⟨v, bs, h1, h2, CH.pend (fun p hp => List.mem_append_left _ hp) h3⟩
    · rename_i hw
      rw [if_neg hw, if_neg (by rw [hcj]; decide)] at h
      exact h
  | k :: pre, post, pend, W, Ws, a, hpre, hst, h => by
    obtain ⟨hkc, hpk, hks⟩ := hpre k (by simp)
    obtain ⟨ok, hok⟩ : ∃ ok, ops[k]? = some ok := ⟨_, Array.getElem?_eq_getElem hks⟩
    obtain ⟨a1, a2, a3⟩ := Oper.apart_spec (E.far k j ok oj hkc hok hoj hpk)
    simp only [List.cons_append, CH] at h
    have hh := h ok hok
    have hpre' : ∀ k ∈ pre, k < j ∧ pr k j = false ∧ k < ops.size := fun x hx => hpre x (by simp [hx])
    have wk : ∀ u, Region.wanted oj (yielded ops (a.put ok.dst u).tmps) = Region.wanted oj (yielded ops a.tmps) := fun u => wanted_put oj a ok.dst u a1
    have wc : ∀ (u : Value), Region.wanted ok (yielded ops (a.put oj.dst u).tmps) = Region.wanted ok (yielded ops a.tmps) := fun u => wanted_put ok a oj.dst u a3
    have xk : ∀ u, execOp (a.put ok.dst u).eval oj = execOp a.eval oj := fun u => execOp_put oj (fun cs b => E.sel j oj cs b hoj) a ok.dst u a1
    have xc : ∀ u, execOp (a.put oj.dst u).eval ok = execOp a.eval ok := fun u => execOp_put ok (fun cs b => E.sel k ok cs b hok) a oj.dst u a3
    by_cases hwk : Region.wanted ok (yielded ops a.tmps) = true
    · rw [if_pos hwk] at hh
      by_cases hck : ch k = true
      · rw [if_pos hck] at hh
        obtain ⟨u0, w0, _, hc0⟩ := goes_some hh
        have IH0 := CH.look hoj hcj pre hpre' (by rw [List.length_cons]; omega) hc0
        rw [wk] at IH0
        split
        · rename_i hw
          rw [if_pos hw] at IH0
          obtain ⟨v, bs, h1, h2, h3⟩ := IH0
          rw [xk] at h1
          have hmem : ∀ (w' : World), W ∈ (W :: Ws).take ((W :: Ws).length - st j) := fun _ => by
            rw [List.length_cons, show Ws.length + 1 - st j = Ws.length - st j + 1 by omega, List.take_succ_cons]
            exact List.mem_cons_self
          have hb0 : ∀ b ∈ bs, W.heap[b]? = w0.heap[b]? := fun b hb => h2 W (hmem w0) b hb
          refine ⟨v, bs, fun x hx => h1 x fun b hb => (hx b hb).trans (hb0 b hb), fun V hV b hb => ?_, ?_⟩
          · have := h2 V (by rw [List.length_cons, show Ws.length + 1 - st j = Ws.length - st j + 1 by omega, List.take_succ_cons]; exact List.mem_cons_of_mem _ hV) b hb
            rw [this, hb0 b hb]
          · simp only [List.cons_append, CH]
            intro o ho
            obtain rfl : ok = o := Option.some.inj (hok.symm.trans ho)
            rw [if_pos (by rw [wc]; exact hwk), if_pos hck]
            refine goes_mono (goes_same (xc v) hh) fun u w' ⟨hu1, hu2⟩ => ⟨hu1, ?_⟩
            have IH := CH.look hoj hcj pre hpre' (by rw [List.length_cons]; omega) hu2
            rw [wk, if_pos hw] at IH
            obtain ⟨v', bs', g1, g2, g3⟩ := IH
            rw [xk] at g1
            have e1 := h1 W hb0
            have e2 := g1 W fun b hb => g2 W (hmem w') b hb
            rw [e1] at e2
            simp only [Result.ok.injEq, Next.value.injEq, and_true] at e2
            subst e2
            rw [← Act.put_comm a _ _ a2]
            exact g3
        · rename_i hw
          simp only [List.cons_append, CH]
          intro o ho
          obtain rfl : ok = o := Option.some.inj (hok.symm.trans ho)
          rw [if_pos (by rw [wc]; exact hwk), if_pos hck]
          refine goes_mono (goes_same (xc _) hh) fun u w' ⟨hu1, hu2⟩ => ⟨hu1, ?_⟩
          have IH := CH.look hoj hcj pre hpre' (by rw [List.length_cons]; omega) hu2
          rw [wk, if_neg hw] at IH
          rw [← Act.put_comm a _ _ a2]
          exact IH
      · rw [if_neg hck] at hh
        obtain ⟨u, bk, h1, h2, h3⟩ := hh
        have IH := CH.look hoj hcj pre hpre' hst h3
        rw [wk] at IH
        have fin : ∀ v, CH P ops Q ch pr st (pre ++ post) (pend ++ bk.map fun b => (k, b)) W Ws ((a.put ok.dst u).put oj.dst v) → CH P ops Q ch pr st (k :: pre ++ post) pend W Ws (a.put oj.dst v) := fun v hv => by
          simp only [List.cons_append, CH]
          intro o ho
          obtain rfl : ok = o := Option.some.inj (hok.symm.trans ho)
          rw [if_pos (by rw [wc]; exact hwk), if_neg hck]
          refine ⟨u, bk, fun x hx => by rw [xc]; exact h1 x hx, h2, ?_⟩
          rw [← Act.put_comm a _ _ a2]
          exact hv
        split
        · rename_i hw
          rw [if_pos hw] at IH
          obtain ⟨v, bs, g1, g2, g3⟩ := IH
          rw [xk] at g1
          exact ⟨v, bs, g1, g2, fin v g3⟩
        · rename_i hw
          rw [if_neg hw] at IH
          exact fin _ IH
    · rw [if_neg hwk] at hh
      have hst' : st j ≤ (if ch k = true then W :: Ws else Ws).length := by
        split
        · rw [List.length_cons]; omega
        · exact hst
      have IH := CH.look hoj hcj pre hpre' hst' hh
      rw [wk] at IH
      have fin : ∀ v, CH P ops Q ch pr st (pre ++ post) pend W (if ch k = true then W :: Ws else Ws) ((a.put ok.dst undef).put oj.dst v) → CH P ops Q ch pr st (k :: pre ++ post) pend W Ws (a.put oj.dst v) := fun v hv => by
        simp only [List.cons_append, CH]
        intro o ho
        obtain rfl : ok = o := Option.some.inj (hok.symm.trans ho)
        rw [if_neg (by rw [wc]; exact hwk)]
        rw [← Act.put_comm a _ _ a2]
        exact hv
      split
      · rename_i hw
        rw [if_pos hw] at IH
        obtain ⟨v, bs, g1, g2, g3⟩ := IH
        rw [xk] at g1
        refine ⟨v, bs, g1, fun V hV b hb => g2 V ?_ b hb, fin v g3⟩
        split
        · rw [List.length_cons, show Ws.length + 1 - st j = Ws.length - st j + 1 by omega, List.take_succ_cons]
          exact List.mem_cons_of_mem _ hV
        · exact hV
      · rename_i hw
        rw [if_neg hw] at IH
        exact fin _ IH

/-- what is left, as the order's list of what has been done tells it -/
structure Left (ops : Array Oper) (rem : List Nat) (listed : Array Bool) : Prop where
  size : listed.size = ops.size
  un : ∀ j, j ∈ rem ↔ j < ops.size ∧ listed.getD j true = false
  sorted : rem.Pairwise (· < ·)
theorem Left.done {rem : List Nat} {listed : Array Bool} (h : Left ops rem listed) {j : Nat} (hj : j < ops.size) (hn : j ∉ rem) : listed.getD j false = true := by
  have hl : j < listed.size := by rw [h.size]; exact hj
  cases hx : listed.getD j true with
  | false => exact absurd ((h.un j).2 ⟨hj, hx⟩) hn
  | true =>
    simp only [Array.getD_eq_getD_getElem?, Array.getElem?_eq_getElem hl, Option.getD_some] at hx ⊢
    exact hx
/-- all that comes ahead of what may come now is done -/
theorem Left.ahead {rem : List Nat} {listed : Array Bool} (h : Left ops rem listed) (closed : ∀ j o, ops[j]? = some o → j ∉ rem → ∀ e ∈ o.after, Region.binds .any e = true → e.on ∉ rem) :
    ∀ (j : Nat) (o : Oper), ops[j]? = some o → (∀ e ∈ o.after, Region.binds .any e = true → e.on ∉ rem) → ∀ i, pr i j = true → i ∉ rem := by
  intro j
  induction j using Nat.strongRecOn with
  | _ j ih =>
    intro o ho hall i hi
    obtain ⟨e, he, hb, h1⟩ := E.back i j o ho hi
    rcases h1 with rfl | h1
    · exact hall e he hb
    · have hd := (E.dir j o ho e he hb).1
      have hlt : e.on < ops.size := by
        have := (Array.getElem?_eq_some_iff.1 ho).1
        omega
      obtain ⟨oe, hoe⟩ : ∃ oe, ops[e.on]? = some oe := ⟨_, Array.getElem?_eq_getElem hlt⟩
      exact ih e.on hd oe hoe (closed e.on oe hoe (hall e he hb)) i h1
theorem split_sorted {rem : List Nat} (hs : rem.Pairwise (· < ·)) {j : Nat} (hj : j ∈ rem) : ∃ pre post, rem = pre ++ j :: post ∧ (∀ k ∈ pre, k < j) ∧ j ∉ pre ∧ j ∉ post ∧ (pre ++ post).Pairwise (· < ·) := by
  obtain ⟨pre, post, rfl⟩ := List.append_of_mem hj
  rw [List.pairwise_append] at hs
  obtain ⟨h1, h2, h3⟩ := hs
  rw [List.pairwise_cons] at h2
  refine ⟨pre, post, rfl, fun k hk => h3 k hk j (by simp), fun h => ?_, fun h => ?_, ?_⟩
  · exact Nat.lt_irrefl _ (h3 j h j (by simp))
  · exact Nat.lt_irrefl _ (h2.1 j h)
  · rw [List.pairwise_append]
    exact ⟨h1, h2.2, fun a ha b hb => h3 a ha b (by simp [hb])⟩
theorem countP_or (p q : Nat → Bool) (l : List Nat) : l.countP (fun i => p i || q i) ≤ l.countP p + l.countP q := by
  induction l with
  | nil => simp
  | cons x l ih =>
    simp only [List.countP_cons]
    cases p x <;> cases q x <;> simp <;> omega
theorem listed_both {i : Nat} {listed : Array Bool} (h : listed.getD i true = false) : listed.getD i false = false := by
  rcases Nat.lt_or_ge i listed.size with h' | h'
  · simp [h'] at h ⊢; exact h
  · simp [Array.getElem?_eq_none h'] at h
def chCnt (ops : Array Oper) (ch : Nat → Bool) (rem : List Nat) : Nat := (List.range ops.size).countP fun i => ch i && !rem.contains i
theorem chCnt_less (rem rem' : List Nat) (c : Nat) (h : ∀ i, i ∈ rem → i ≠ c → i ∈ rem') : chCnt ops ch rem' ≤ chCnt ops ch rem + (if ch c = true then 1 else 0) := by
  unfold chCnt
  have h1 : (List.range ops.size).countP (fun i => ch i && !rem'.contains i) ≤ (List.range ops.size).countP (fun i => (ch i && !rem.contains i) || (ch c && i == c)) := by
    refine List.countP_mono_left fun i _ hi => ?_
    simp only [Bool.and_eq_true, Bool.not_eq_true', List.contains_eq_mem, decide_eq_false_iff_not, Bool.or_eq_true, beq_iff_eq] at hi ⊢
    obtain ⟨h1, h2⟩ := hi
    by_cases hc : i = c
    · subst hc; exact .inr ⟨h1, rfl⟩
    · exact .inl ⟨h1, fun hm => h2 (h i hm hc)⟩
  have h2 := countP_or E (fun i => ch i && !rem.contains i) (fun i => ch c && i == c) (List.range ops.size)
  have h3 : (List.range ops.size).countP (fun i => ch c && i == c) ≤ if ch c = true then 1 else 0 := by
    cases hc : ch c
    · simp
    · simp only [Bool.true_and, if_true]
      have : (List.range ops.size).countP (fun i => i == c) = (List.range ops.size).count c := rfl
      rw [this]
      exact List.nodup_iff_count.1 List.nodup_range c
  omega
theorem CH.any (hst : ∀ j, st j ≤ (List.range ops.size).countP fun i => ch i && pr i j) (hlow : ∀ i j, pr i j = true → i < j) : ∀ (fuel : Nat) (rem : List Nat) (listed : Array Bool) (W : World) (Ws : List World) (a : Act), rem.length = fuel → Left ops rem listed →
    (∀ j o, ops[j]? = some o → j ∉ rem → ∀ e ∈ o.after, Region.binds .any e = true → e.on ∉ rem) → chCnt ops ch rem ≤ Ws.length →
    CH P ops Q ch pr st rem [] W Ws a → wpAny P .any ops Q fuel listed a W := by
  intro fuel
  induction fuel with
  | zero =>
    intro rem listed W Ws a hf hL hcl hn h
    obtain rfl := List.eq_nil_of_length_eq_zero hf
    simp only [CH] at h
    refine ⟨?_, h⟩
    rw [List.eq_nil_iff_forall_not_mem]
    intro j hj
    obtain ⟨h0, o, ho, _⟩ := mem_ready.1 hj
    have := (hL.un j).2 ⟨(Array.getElem?_eq_some_iff.1 ho).1, h0⟩
    simp at this
  | succ fuel ih =>
    intro rem listed W Ws a hf hL hcl hn h
    refine ⟨fun h0 => ?_, fun j hj => ?_⟩
    · exfalso
      cases rem with
      | nil => simp at hf
      | cons j rest =>
        have hjr := (hL.un j).1 (by simp)
        obtain ⟨o, ho⟩ : ∃ o, ops[j]? = some o := ⟨_, Array.getElem?_eq_getElem hjr.1⟩
        have hr : j ∈ Region.ready .any ops listed := mem_ready.2 ⟨hjr.2, o, ho, fun e he hb => by
          have hd := (E.dir j o ho e he hb).1
          refine hL.done E (by omega) fun hm => ?_
          rcases List.mem_cons.1 hm with h1 | h1
          · omega
          · have := (List.pairwise_cons.1 hL.sorted).1 _ h1
            omega⟩
        rw [h0] at hr
        cases hr
    · obtain ⟨h0, o, ho, hall⟩ := mem_ready.1 hj
      have hjs := (Array.getElem?_eq_some_iff.1 ho).1
      have hjr : j ∈ rem := (hL.un j).2 ⟨hjs, h0⟩
      have hnot : ∀ e ∈ o.after, Region.binds .any e = true → e.on ∉ rem := fun e he hb hm => by
        have h1 := hall e he hb
        have h2 := ((hL.un _).1 hm).2
        rw [listed_both E h2] at h1
        cases h1
      have hah := hL.ahead E hcl j o ho hnot
      obtain ⟨pre, post, rfl, hpre, hnp, hnq, hso⟩ := split_sorted E hL.sorted hjr
      have hrem : ∀ i, i ∈ pre ++ j :: post → i ≠ j → i ∈ pre ++ post := fun i hi hne => by
        simp only [List.mem_append, List.mem_cons] at hi ⊢
        rcases hi with h | h | h
        · exact .inl h
        · exact absurd h hne
        · exact .inr h
      have hrem2 : ∀ i, i ∈ pre ++ post → i ∈ pre ++ j :: post ∧ i ≠ j := fun i hi => by
        simp only [List.mem_append, List.mem_cons] at hi ⊢
        rcases hi with h | h
        · exact ⟨.inl h, fun e => hnp (e ▸ h)⟩
        · exact ⟨.inr (.inr h), fun e => hnq (e ▸ h)⟩
      have hL2 : Left ops (pre ++ post) (listed.setIfInBounds j true) := ⟨by simp [hL.size], fun i => ⟨fun hi => by
          have ⟨h1, h2⟩ := hrem2 i hi
          have := (hL.un i).1 h1
          exact ⟨this.1, by rw [getD_set_ne true (Ne.symm h2)]; exact this.2⟩, fun ⟨h1, h2⟩ => by
          have hne : i ≠ j := by
            rintro rfl
            have hsz : i < listed.size := by rw [hL.size]; exact h1
            simp [Array.getD_eq_getD_getElem?, Array.getElem?_setIfInBounds, hsz] at h2
          rw [getD_set_ne true (Ne.symm hne)] at h2
          exact hrem i ((hL.un i).2 ⟨h1, h2⟩) hne⟩, hso⟩
      have hcl2 : ∀ k ok, ops[k]? = some ok → k ∉ pre ++ post → ∀ e ∈ ok.after, Region.binds .any e = true → e.on ∉ pre ++ post := fun k ok hk hkn e he hb hm => by
        have hm2 := (hrem2 _ hm).1
        by_cases hkj : k = j
        · subst hkj
          obtain rfl : o = ok := Option.some.inj (ho.symm.trans hk)
          exact hnot e he hb hm2
        · exact hcl k ok hk (fun h => hkn (hrem k h hkj)) e he hb hm2
      have hf2 : (pre ++ post).length = fuel := by
        simp only [List.length_append, List.length_cons] at hf ⊢
        omega
      have hcnt := chCnt_less E (pre ++ j :: post) (pre ++ post) j hrem
      have hp : ∀ k ∈ pre, k < j ∧ pr k j = false ∧ k < ops.size := fun k hk => by
        have := hpre k hk
        refine ⟨this, ?_, by omega⟩
        cases hx : pr k j with
        | false => rfl
        | true => exact absurd (List.mem_append_left _ hk) (hah k hx)
      unfold wpOp
      simp only [ho]
      have hle : ∀ k, (∀ i, i < ops.size → ch i = true → pr i k = true → i ∉ pre ++ j :: post) → st k ≤ Ws.length := fun k hk => by
        refine Nat.le_trans (hst k) (Nat.le_trans (List.countP_mono_left fun i hi h => ?_) hn)
        simp only [Bool.and_eq_true] at h
        simp only [Bool.and_eq_true, Bool.not_eq_true', List.contains_eq_mem, decide_eq_false_iff_not]
        exact ⟨h.1, hk i (List.mem_range.1 hi) h.1 h.2⟩
      by_cases hcj : ch j = true
      · have := CH.chain E ho hcj pre hp (fun k hk => hle k fun i hi hci hik hm => by
          have hkj := (hp k hk).1
          have hikl := hlow i k hik
          exact hah i (E.one i j (by omega) hci hcj) hm) h
        rw [if_pos hcj] at hcnt
        split at this
        · rename_i hw
          rw [if_pos hw]
          refine .inl (goes_wp this fun v w' hv => ?_)
          exact ih (pre ++ post) _ w' (W :: Ws) _ hf2 hL2 hcl2 (by rw [List.length_cons]; omega) hv.2
        · rename_i hw
          rw [if_neg hw]
          exact ih (pre ++ post) _ W (W :: Ws) _ hf2 hL2 hcl2 (by rw [List.length_cons]; omega) this
      · have hcj' : ch j = false := by simpa using hcj
        have := CH.look E ho hcj' pre hp (hle j fun i _ _ hik => hah i hik) h
        rw [if_neg hcj] at hcnt
        split at this
        · rename_i hw
          rw [if_pos hw]
          obtain ⟨v, bs, h1, h2, h3⟩ := this
          refine .inl ?_
          unfold Oper.wp
          rw [h1 W fun _ _ => rfl]
          exact ih (pre ++ post) _ W Ws _ hf2 hL2 hcl2 (by omega) h3
        · rename_i hw
          rw [if_neg hw]
          exact ih (pre ++ post) _ W Ws _ hf2 hL2 hcl2 (by omega) this
end
end Go.Proofs.Yteabncomclgncaa
