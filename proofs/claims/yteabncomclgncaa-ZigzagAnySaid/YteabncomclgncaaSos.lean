/- Texts of the claim, merged: only what the theorem needs. -/
import Derived.Test.YteabncomclgncaaSor
namespace Go.Proofs.Yteabncomclgncaa.Pq
set_option linter.unusedVariables false
set_option linter.unusedSimpArgs false
set_option linter.unusedSectionVars false
open Go.RowKit
set_option maxRecDepth 100000
set_option maxHeartbeats 4000000
section
variable {P : Program} {ops : Array Oper} {Q : Exit → Act → World → Prop} {D : Option DD} {E : Base} {n L : Nat} {τ : List (Nat × AV)} {h : List (Nat × AO)} {rest : List Oper} {H0 : List AO} {R0 : Env} {W0 : World} {FS0 fs : Fam}
theorem zfact_ap {p : PIQ} {fs2 : Fam} (hap : ApF fs) (hperm : fs.Perm (zfact p :: fs2)) : (∀ q ∈ fs2, q ∈ fs ∧ q.b ≠ p.2.1) ∧ ApF fs2 := by
  have h := apf_perm hperm hap
  unfold ApF at h
  rw [List.pairwise_cons] at h
  refine ⟨fun q hq => ⟨hperm.symm.subset (List.mem_cons_of_mem _ hq), fun e => ?_⟩, h.2⟩
  have := (h.1 q hq e.symm).1
  cases this
/-- a slot gets a label that may be written -/
theorem C.thawZ {c : Code} (hN : H0.length ≤ E.N) (hE : ∀ l, l < H0.length → E.ρ l = R0 l) (hrob : roH H0 h = true) (p : PIQ) (fs2 : Fam) (hperm : fs.Perm (zfact p :: fs2)) (hEL : E.N ≤ L)
    (k : ∀ ρ1 : Env, (∀ l, l < E.N → ρ1 l = E.ρ l) → ρ1 L = some p.2.1 → C P c Q ⟨L + 1, ρ1, E.df⟩ n (L + 1) τ ((L, slC p.2.2) :: h) (FF H0 R0 W0 FS0 fs2)) : C P c Q E n L τ h (FF H0 R0 W0 FS0 fs) :=
  C.fact (p := ApF fs) (fun ρ a w g => g.ff.ap) fun hap => C.thaw hN hE hrob (zfact p) fs2 (hperm.symm.subset List.mem_cons_self) rfl (zfact_ap hap hperm).1 (zfact_ap hap hperm).2 (slC p.2.2) rfl (is_slC _ _) rfl hEL k
theorem is_cells {b : Nat} {ob : Obj} {ρ : Env} {w : World} {s : Sl PrV} (hw : w.heap[b]? = some ob) (h : (slC s).holds ρ (some b) w) : Is b ob (slC s) := fun ρ' w' hw' => by
  obtain ⟨b', e, hb⟩ := h
  cases e
  exact ⟨b, rfl, hw'.trans (hw.symm.trans hb)⟩
theorem C.frzZ {c : Code} (l : Nat) {b : Nat} {s : Sl PrV} (hl : hk l h = some (slC s)) (hlN : l < E.N) (hb : E.ρ l = some b) (k : (∀ p ∈ fs, p.b ≠ b) → C P c Q E n L τ ((l, .gone) :: h) (FF H0 R0 W0 FS0 (⟨true, b, slOb s⟩ :: fs))) : C P c Q E n L τ h (FF H0 R0 W0 FS0 fs) :=
  C.frzP (o' := slC s) true l hl rfl hlN hb (fun ρ ob w h1 h2 => is_cells h1 h2) fun ob hob hne => by rw [slC_is hob]; exact k hne
theorem X.frzZ {e : Exit} (l : Nat) {b : Nat} {s : Sl PrV} (hl : hk l h = some (slC s)) (hlN : l < E.N) (hb : E.ρ l = some b) (k : (∀ p ∈ fs, p.b ≠ b) → X Q e E n L τ ((l, .gone) :: h) (FF H0 R0 W0 FS0 (⟨true, b, slOb s⟩ :: fs))) : X Q e E n L τ h (FF H0 R0 W0 FS0 fs) :=
  X.frzP (o' := slC s) true l hl rfl hlN hb (fun ρ ob w h1 h2 => is_cells h1 h2) fun ob hob hne => by rw [slC_is hob]; exact k hne
/-- a slot just laid becomes a fact -/
theorem R.frzZ (t l : Nat) {s : Sl PrV} (hl : hk l h = some (slC s)) (hv : lk t τ = some (.ptr l 0 0 0)) (k : ∀ b, (∀ p ∈ fs, p.b ≠ b) → R P ops Q none E n L ((t, .raw (.pointer (some ⟨b, 0, none⟩))) :: τ) ((l, .gone) :: h) (FF H0 R0 W0 FS0 (⟨true, b, slOb s⟩ :: fs)) rest) : R P ops Q none E n L τ h (FF H0 R0 W0 FS0 fs) rest :=
  R.frz (o' := slC s) true t l (fun b => .pointer (some ⟨b, 0, none⟩)) hl rfl hv (fun ρ b hb => by simp [AV.conc, hb]) (fun ρ b ob w hb h1 h2 => is_cells h1 h2) (fun ρ w h => by obtain ⟨b, hb, _⟩ := h; rw [hb]; simp) fun b ob hob hne => by rw [slC_is hob]; exact k b hne
end
def newS : Sl PrV := ⟨default, default, false, false, false, true⟩
def zput (l : ZL) (k : ByteArray) (v : PrV) (b : Nat) : ZL := if hasK l k = true then zup l (plc l k) ((slotV l k).lay v true) else insL l (plc l k) (k, b, newS.lay v true)
def zputN (l : ZL) (k : ByteArray) (hs : Int) : Int := layN hs (isV l k) true
section
variable (l : ZL) (c : Nat) (k : ByteArray)
theorem put_specQ (v : PrV) (hs : Int) (mk : Bool) (hA : Asc l) (hl : l.length ≤ 900000) (hc : l.length ≤ c) (hc2 : c ≤ 9223372036854775807) (h1 : -1000000 ≤ hs) (h2 : hs ≤ 1000000000) :
    SpecF Try.prog 13 [.ptr 0 0 0 0, .raw (.string k), .agg (prA v)] [tbIQ 1 l.length c hs mk, tIQ l c] 3 (zF l) (σ := Nat × Nat) (fun s => (zput l k v s.2).length ≤ s.1 ∧ s.1 ≤ 9223372036854775807)
    (fun _ => .tup []) (fun s => [(0, tbIQ 2 (zput l k v s.2).length s.1 (zputN l k hs) mk), (2, tIQ (zput l k v s.2) s.1)]) (fun s => zF (zput l k v s.2)) := by
  refine SpecF.of Try.func13 rfl Try.ntmps13 rfl (bdl_cons rfl (bdl_cons (fun _ _ => rfl) (bdl_nil _))) fun ρ w => ?_
  have hp := plc_le l k
  repeat (first | refine C.seq ?_ | refine C.region ?_ | refine R.zb ttok ?_ | refine R.zu ttok ?_ | refine R.zc ttok ?_ | refine R.za ttok ?_ | refine R.zx ?_ | refine R.zl ttok ?_ | refine R.zs ttok ?_ | refine R.z ttok ?_ | refine R.zk ?_ | refine R.zn ?_ | refine R.done ?_ | refine X.then ?_ | refine C.block ?_ | refine C.ret ?_ | refine C.skip ?_ | refine C.exit ?_ | refine X.pass_ret ?_ | refine X.pass_exit ?_ | refine X.block_normal ?_ | refine X.block_ret ?_ | refine X.block_exit ?_ | refine C.zt ?_ | refine C.zf ?_ | refine X.zo ?_)
  refine R.cl [0, 1] (getI_specQ l c k hA (by omega)) Try.call42 (by repeat (first | exact HasIn.nil | refine HasIn.same rfl rfl ?_ | refine HasIn.c1 rfl rfl ?_ | refine HasIn.other rfl (fun e => by cases e) (fun ρ x w hh => tab_ro hh) ?_ | refine HasIn.other rfl (fun e => by cases e) (fun ρ x w hh => tab_any hh) ?_ | refine HasIn.roA rfl rfl ?_ | refine HasIn.other rfl (fun e => by cases e) (fun ρ x w hh => cells_any hh) ?_)) rfl rfl rfl (fun _ => rfl) rfl (by kernel_rfl) fun _ _ => ?_
  cases hk : hasK l k with
  | true =>
    have hlt := (hasK_lt hk).1
    obtain ⟨p, hp⟩ : ∃ p, l.getD (plc l k) zG = p := ⟨_, rfl⟩
    have hperm := zF_del hlt
    rw [hp] at hperm
    rw [show getIQ l k = .pointer (some ⟨p.2.1, 0, none⟩) by unfold getIQ; rw [if_pos hk, hp]]
    repeat (first | refine R.zb ttok ?_ | refine R.zu ttok ?_ | refine R.zc ttok ?_ | refine R.za ttok ?_ | refine R.zx ?_ | refine R.zl ttok ?_ | refine R.zs ttok ?_ | refine R.z ttok ?_ | refine R.zk ?_ | refine R.zn ?_)
    refine R.done ?_
    refine X.then ?_
    refine C.thawZ (H0 := [tbIQ 1 l.length c hs mk, tIQ l c]) (Nat.le_refl _) (fun _ _ => rfl) (by kernel_rfl) p _ hperm (by show 2 ≤ 3; omega) fun ρ1 hρ1 hρb => ?_
    have hsl : slotV l k = p.2.2 := by unfold slotV; rw [hp]
    have e1 : zput l k v 0 = zup l (plc l k) (p.2.2.lay v true) := by unfold zput; rw [if_pos hk, hsl]
    have e2 : zputN l k hs = layN hs p.2.2.live true := by unfold zputN isV; rw [if_pos hk]; unfold slotV; rw [hp]
    have hb : (l.getD (plc l k) zG).2.1 = p.2.1 := by rw [hp]
    repeat (first | refine C.seq ?_ | refine C.region ?_ | refine R.zb ttok ?_ | refine R.zu ttok ?_ | refine R.zc ttok ?_ | refine R.za ttok ?_ | refine R.zx ?_ | refine R.zl ttok ?_ | refine R.zs ttok ?_ | refine R.z ttok ?_ | refine R.zk ?_ | refine R.zn ?_ | refine R.done ?_ | refine X.then ?_ | refine C.block ?_ | refine C.ret ?_ | refine C.skip ?_ | refine C.exit ?_ | refine X.pass_ret ?_ | refine X.pass_exit ?_ | refine X.block_normal ?_ | refine X.block_ret ?_ | refine X.block_exit ?_ | refine C.zt ?_ | refine C.zf ?_ | refine X.zo ?_)
    refine R.name 29 (.ptr 3 0 0 0) rfl (fun ρ2 h => by
      have h8 := (h 3 (by show 3 < 3 + 1; omega)).trans hρb
      have h8 : ρ2 3 = some p.2.1 := h8
      simp [AV.conc, h8]) rfl ?_
    refine R.cl [0, 3, 1] (lay_specQ p.2.2 l.length c hs v mk true h1 h2) Try.call44 (by repeat (first | exact HasIn.nil | refine HasIn.same rfl rfl ?_ | refine HasIn.c1 rfl rfl ?_ | refine HasIn.other rfl (fun e => by cases e) (fun ρ x w hh => tab_ro hh) ?_ | refine HasIn.other rfl (fun e => by cases e) (fun ρ x w hh => tab_any hh) ?_ | refine HasIn.roA rfl rfl ?_ | refine HasIn.other rfl (fun e => by cases e) (fun ρ x w hh => cells_any hh) ?_)) rfl rfl rfl (fun _ => rfl) rfl (by kernel_rfl) fun _ _ => ?_
    repeat (first | refine C.seq ?_ | refine C.region ?_ | refine R.zb ttok ?_ | refine R.zu ttok ?_ | refine R.zc ttok ?_ | refine R.za ttok ?_ | refine R.zx ?_ | refine R.zl ttok ?_ | refine R.zs ttok ?_ | refine R.z ttok ?_ | refine R.zk ?_ | refine R.zn ?_ | refine R.done ?_ | refine X.then ?_ | refine C.block ?_ | refine C.ret ?_ | refine C.skip ?_ | refine C.exit ?_ | refine X.pass_ret ?_ | refine X.pass_exit ?_ | refine X.block_normal ?_ | refine X.block_ret ?_ | refine X.block_exit ?_ | refine C.zt ?_ | refine C.zf ?_ | refine X.zo ?_)
    refine X.frzZ 3 rfl (by show 3 < 3 + 1; omega) hρb fun hne => ?_
    refine X.unpin (E := ⟨2, ρ, []⟩) (by show 2 ≤ 3 + 1; omega) (fun l hl => hρ1 l hl) ?_
    have hup := (zF_up hlt (p.2.2.lay v true)).symm
    rw [hb] at hup
    refine X.fperm hup ?_
    have hpi := piF_up hlt (p.2.2.lay v true)
    have hln := zup_len l (plc l k) (p.2.2.lay v true)
    refine X.finF ttok (c, 0) [(2, 1)] ⟨by show (zput l k v 0).length ≤ c; rw [e1, hln]; exact hc, hc2⟩ rfl rfl rfl (by
      show HasH _ _ _ [(0, tbIQ 2 (zput l k v 0).length c (zputN l k hs) mk), (2, tIQ (zput l k v 0) c)]
      rw [e1, e2]
      unfold tIQ
      rw [hln, hpi]
      exact .same rfl rfl rfl rfl (.same rfl rfl rfl (fun _ _ => rfl) .nil)) _ (by first | exact .inl rfl | exact .inr rfl) ?_ ?_ ?_
    · show ∀ w', _ → ApF (zF (zput l k v 0))
      rw [e1]
      exact fun w' hf => hf.ap
    · show ∀ x ∈ zF (zput l k v 0), _
      rw [e1]
      exact fun x hx => hx
    · exact fun x hx _ => by
        have := hup.subset
        rcases List.mem_cons.1 (hperm.subset hx) with rfl | hx
        · exact ⟨_, hup.subset List.mem_cons_self, rfl⟩
        · exact ⟨x, hup.subset (List.mem_cons_of_mem _ hx), rfl⟩
  | false =>
    rw [show getIQ l k = .pointer none by unfold getIQ; rw [if_neg (by rw [hk]; decide)]]
    repeat (first | refine R.zb ttok ?_ | refine R.zu ttok ?_ | refine R.zc ttok ?_ | refine R.za ttok ?_ | refine R.zx ?_ | refine R.zl ttok ?_ | refine R.zs ttok ?_ | refine R.z ttok ?_ | refine R.zk ?_ | refine R.zn ?_)
    refine R.done ?_
    refine X.then ?_
    refine C.seq ?_
    refine C.seq ?_
    refine C.region ?_
    repeat (first | refine R.zb ttok ?_ | refine R.zu ttok ?_ | refine R.zc ttok ?_ | refine R.za ttok ?_ | refine R.zx ?_ | refine R.zl ttok ?_ | refine R.zs ttok ?_ | refine R.z ttok ?_ | refine R.zk ?_ | refine R.zn ?_)
    refine R.done ?_
    refine X.then ?_
    refine C.tru rfl ?_
    refine C.seq ?_
    refine C.region ?_
    refine R.z ttok ?_
    refine R.zx ?_
    refine R.frzZ 21 3 (s := newS) rfl rfl fun b hne => ?_
    repeat (first | refine R.zb ttok ?_ | refine R.zu ttok ?_ | refine R.zc ttok ?_ | refine R.za ttok ?_ | refine R.zx ?_ | refine R.zl ttok ?_ | refine R.zs ttok ?_ | refine R.z ttok ?_ | refine R.zk ?_ | refine R.zn ?_)
    refine R.done ?_
    refine X.then ?_
    repeat (first | refine C.seq ?_ | refine C.region ?_ | refine R.zb ttok ?_ | refine R.zu ttok ?_ | refine R.zc ttok ?_ | refine R.za ttok ?_ | refine R.zx ?_ | refine R.zl ttok ?_ | refine R.zs ttok ?_ | refine R.z ttok ?_ | refine R.zk ?_ | refine R.zn ?_ | refine R.done ?_ | refine X.then ?_ | refine C.block ?_ | refine C.ret ?_ | refine C.skip ?_ | refine C.exit ?_ | refine X.pass_ret ?_ | refine X.pass_exit ?_ | refine X.block_normal ?_ | refine X.block_ret ?_ | refine X.block_exit ?_ | refine C.zt ?_ | refine C.zf ?_ | refine X.zo ?_)
    refine R.cl [0, 1] (putI_specQ l c k hs mk b newS hA (by omega) hc hc2 hk) Try.call43 (by repeat (first | exact HasIn.nil | refine HasIn.same rfl rfl ?_ | refine HasIn.c1 rfl rfl ?_ | refine HasIn.other rfl (fun e => by cases e) (fun ρ x w hh => tab_ro hh) ?_ | refine HasIn.other rfl (fun e => by cases e) (fun ρ x w hh => tab_any hh) ?_ | refine HasIn.roA rfl rfl ?_ | refine HasIn.other rfl (fun e => by cases e) (fun ρ x w hh => cells_any hh) ?_)) rfl rfl rfl (fun _ => rfl) rfl (by kernel_rfl) fun c' hc' => ?_
    obtain ⟨p, hpd⟩ : ∃ p : PIQ, p = (k, b, newS) := ⟨_, rfl⟩
    have hpi : (insL l (plc l k) (k, b, newS)).getD (plc l k) zG = p := by
      rw [hpd]
      unfold insL
      rw [List.getD_eq_getElem?_getD, List.getElem?_append_right (by rw [List.length_take]; omega), List.length_take, Nat.min_eq_left hp, Nat.sub_self]
      rfl
    have hlt : plc l k < (insL l (plc l k) (k, b, newS)).length := by rw [insL_len]; omega
    have e1 : zput l k v b = insL l (plc l k) (k, b, newS.lay v true) := by unfold zput; rw [if_neg (by rw [hk]; decide)]
    have e2 : zputN l k hs = layN hs newS.live true := by unfold zputN isV; rw [if_neg (by rw [hk]; decide)]; rfl
    refine R.done ?_
    refine X.then ?_
    refine C.thawZ (H0 := [tbIQ 1 l.length c hs mk, tIQ l c]) (fs := ⟨true, b, slOb newS⟩ :: zF l) (Nat.le_refl _) (fun _ _ => rfl) (by kernel_rfl) p (zF l) (by rw [hpd]; exact List.Perm.refl _) (by show 2 ≤ 5; omega) fun ρ1 hρ1 hρb => ?_
    have hρb : ρ1 5 = some p.2.1 := hρb
    rw [show b = p.2.1 by rw [hpd]]
    repeat (first | refine C.seq ?_ | refine C.region ?_ | refine R.zb ttok ?_ | refine R.zu ttok ?_ | refine R.zc ttok ?_ | refine R.za ttok ?_ | refine R.zx ?_ | refine R.zl ttok ?_ | refine R.zs ttok ?_ | refine R.z ttok ?_ | refine R.zk ?_ | refine R.zn ?_ | refine R.done ?_ | refine X.then ?_ | refine C.block ?_ | refine C.ret ?_ | refine C.skip ?_ | refine C.exit ?_ | refine X.pass_ret ?_ | refine X.pass_exit ?_ | refine X.block_normal ?_ | refine X.block_ret ?_ | refine X.block_exit ?_ | refine C.zt ?_ | refine C.zf ?_ | refine X.zo ?_)
    refine R.name 29 (.ptr 5 0 0 0) rfl (fun ρ2 h => by
      have h8 := (h 5 (by show 5 < 5 + 1; omega)).trans hρb
      have h8 : ρ2 5 = some p.2.1 := h8
      simp [AV.conc, h8]) rfl ?_
    rw [hpd]
    refine R.cl [0, 5, 4] (lay_specQ newS (l.length + 1) c' hs v mk true h1 h2) Try.call44 (by repeat (first | exact HasIn.nil | refine HasIn.same rfl rfl ?_ | refine HasIn.c1 rfl rfl ?_ | refine HasIn.other rfl (fun e => by cases e) (fun ρ x w hh => tab_ro hh) ?_ | refine HasIn.other rfl (fun e => by cases e) (fun ρ x w hh => tab_any hh) ?_ | refine HasIn.roA rfl rfl ?_ | refine HasIn.other rfl (fun e => by cases e) (fun ρ x w hh => cells_any hh) ?_)) rfl rfl rfl (fun _ => rfl) rfl (by kernel_rfl) fun _ _ => ?_
    repeat (first | refine C.seq ?_ | refine C.region ?_ | refine R.zb ttok ?_ | refine R.zu ttok ?_ | refine R.zc ttok ?_ | refine R.za ttok ?_ | refine R.zx ?_ | refine R.zl ttok ?_ | refine R.zs ttok ?_ | refine R.z ttok ?_ | refine R.zk ?_ | refine R.zn ?_ | refine R.done ?_ | refine X.then ?_ | refine C.block ?_ | refine C.ret ?_ | refine C.skip ?_ | refine C.exit ?_ | refine X.pass_ret ?_ | refine X.pass_exit ?_ | refine X.block_normal ?_ | refine X.block_ret ?_ | refine X.block_exit ?_ | refine C.zt ?_ | refine C.zf ?_ | refine X.zo ?_)
    refine X.frzZ 5 rfl (by show 5 < 5 + 1; omega) hρb fun hne => ?_
    refine X.unpin (E := ⟨2, ρ, []⟩) (by show 2 ≤ 5 + 1; omega) (fun l hl => hρ1 l hl) ?_
    rw [hpd]
    have hup := (zF_ins l (plc l k) (k, b, newS.lay v true)).symm
    have hup : (⟨true, b, slOb (newS.lay v true)⟩ :: zF l : Fam).Perm (zF (insL l (plc l k) (k, b, newS.lay v true))) := hup
    refine X.fperm hup ?_
    have hpf : piFQ (insL l (plc l k) (k, b, newS.lay v true)) = piFQ (insL l (plc l k) (k, b, newS)) := by
      funext j
      rw [piF_insQ l _ _ hp, piF_insQ l _ _ hp]
    refine X.finF ttok (c', b) [(2, 4)] ⟨by show (zput l k v b).length ≤ c'; rw [e1, insL_len]; exact hc'.1, hc'.2⟩ rfl rfl rfl (by
      show HasH _ _ _ [(0, tbIQ 2 (zput l k v b).length c' (zputN l k hs) mk), (2, tIQ (zput l k v b) c')]
      rw [e1, e2]
      unfold tIQ
      rw [insL_len, hpf]
      exact .same rfl rfl rfl rfl (.same rfl rfl rfl (fun _ _ => rfl) .nil)) _ (by first | exact .inl rfl | exact .inr rfl) ?_ ?_ ?_
    · show ∀ w', _ → ApF (zF (zput l k v b))
      rw [e1]
      exact fun w' hf => hf.ap
    · show ∀ x ∈ zF (zput l k v b), _
      rw [e1]
      exact fun x hx => hx
    · exact fun x hx _ => ⟨x, hup.subset (List.mem_cons_of_mem _ hx), rfl⟩
theorem isV_has {l : ZL} {k : ByteArray} (h : isV l k = true) : hasK l k = true ∧ (slotV l k).live = true := by
  unfold isV at h
  split at h
  · rename_i hk; exact ⟨hk, h⟩
  · cases h
end
theorem rangeT_specQ (fr to : ByteArray) : Spec Try.prog 76 [.ptr 0 0 0 0, .raw (.string fr), .raw (.string to)] [anyO] 4 (σ := Unit) (fun _ => True)
    (fun _ => .fn rgZ [.ptr 1 0 0 0, .ptr 2 0 0 0, .ptr 3 0 0 0]) (fun _ => [(1, .cells [.ptr 0 0 0 0] 125), (2, .cells [.raw (.string fr)] 9), (3, .cells [.raw (.string to)] 9)]) := by
  refine Spec.of Try.func76 rfl Try.ntmps76 rfl (bdl_cons (any_bd _) (bdl_nil _)) fun ρ w => ?_
  repeat (first | refine C.seq ?_ | refine C.region ?_ | refine R.zb ttok ?_ | refine R.zu ttok ?_ | refine R.zc ttok ?_ | refine R.za ttok ?_ | refine R.zx ?_ | refine R.zl ttok ?_ | refine R.zs ttok ?_ | refine R.z ttok ?_ | refine R.zk ?_ | refine R.zn ?_ | refine R.done ?_ | refine X.then ?_ | refine C.block ?_ | refine C.ret ?_ | refine C.skip ?_ | refine C.exit ?_ | refine X.pass_ret ?_ | refine X.pass_exit ?_ | refine X.block_normal ?_ | refine X.block_ret ?_ | refine X.block_exit ?_ | refine C.zt ?_ | refine C.zf ?_ | refine X.zo ?_)
  refine X.fin ttok () [] trivial rfl rfl rfl (by repeat (first | exact HasH.nil | refine HasH.same rfl rfl rfl trivial ?_ | refine HasH.same rfl rfl rfl rfl ?_ | refine HasH.same rfl rfl rfl (fun _ _ => rfl) ?_ | refine HasH.ros rfl rfl ?_)) _ (by first | exact .inl rfl | exact .inr rfl)
/-- what a Range sees, out of a state's telling -/
theorem rsee_of {E : Base} {ρ : Env} {n L : Nat} {τ : List (Nat × AV)} {h : List (Nat × AO)} {F : World → Prop} {a : Act} {W : World} (g : Gam E ρ n L τ h F a W) {lt lf lo ls ll c cc : Nat} {fr to : ByteArray} {l : ZL} {rest : List AV} {T1 T2 T3 T4 T5 : TypeId} (hA : Asc l) (hl : l.length ≤ 1000000) (h1 : hk lt h = some (.cells [.ptr ls 0 0 0] T1)) (h2 : hk lf h = some (.cells [.raw (.string fr)] T2)) (h3 : hk lo h = some (.cells [.raw (.string to)] T3))
    (h4 : hk ls h = some (.cells (.sl ll 2 0 l.length c :: rest) T4)) (h5 : hk ll h = some (.tab 2 l.length cc (piFQ l) T5)) : RSee ((ρ lt).getD 0) ((ρ lf).getD 0) ((ρ lo).getD 0) ((ρ ls).getD 0) fr to l W := by
  obtain ⟨b1, r1, k1⟩ := (g.hp _ _ h1).2.2
  obtain ⟨b2, r2, k2⟩ := (g.hp _ _ h2).2.2
  obtain ⟨b3, r3, k3⟩ := (g.hp _ _ h3).2.2
  obtain ⟨b4, r4, k4⟩ := (g.hp _ _ h4).2.2
  have k5 := tab_ro (g.hp _ _ h5).2.2
  rw [r1, r2, r3, r4]
  refine ⟨hA, hl, ρ ll, c, fun i o ho => ?_, fun i b hi hb => ?_⟩
  · simp only [rgH, hk_cons] at ho
    split at ho
    · rename_i e; subst e; cases ho
      refine .inr ⟨b1, _, _, _, rfl, k1, fun i c x hi hx => ?_⟩
      cases c with
      | zero => simp at hx; subst hx; simp [AV.concs, AV.conc, r4, envR]
      | succ c => simp at hx
    split at ho
    · rename_i e; subst e; cases ho
      refine .inr ⟨b2, _, _, _, rfl, k2, fun i c x hi hx => ?_⟩
      cases c with
      | zero => simp at hx; subst hx; simp [AV.concs, AV.conc]
      | succ c => simp at hx
    split at ho
    · rename_i e; subst e; cases ho
      refine .inr ⟨b3, _, _, _, rfl, k3, fun i c x hi hx => ?_⟩
      cases c with
      | zero => simp at hx; subst hx; simp [AV.concs, AV.conc]
      | succ c => simp at hx
    split at ho
    · rename_i e; subst e; cases ho
      refine .inr ⟨b4, _, _, _, rfl, k4, fun i c x hi hx => ?_⟩
      cases c with
      | zero => simp at hx; subst hx; simp [AV.concs, AV.conc, envR]
      | succ c => simp at hx
    split at ho
    · rename_i e; subst e; cases ho
      rcases k5 with ⟨h6, h7⟩ | ⟨b, cur, ty, fr', h6, h7, h8⟩
      · exact .inl ⟨h6, h7⟩
      · exact .inr ⟨b, cur, ty, fr', h6, h7, fun i c x hi hx => by
          have := h8 i c x hi hx
          have hx2 : x ∈ piFQ l i := List.mem_of_getElem? hx
          rw [this]
          unfold piFQ piAQ at hx2
          simp only [List.mem_cons, List.not_mem_nil, or_false] at hx2
          rcases hx2 with rfl | rfl <;> rfl⟩
    · simp [hk, lk] at ho
  · match i, hi with
    | 0, _ => cases hb; exact (Array.getElem?_eq_some_iff.1 k1).1
    | 1, _ => cases hb; exact (Array.getElem?_eq_some_iff.1 k2).1
    | 2, _ => cases hb; exact (Array.getElem?_eq_some_iff.1 k3).1
    | 3, _ => cases hb; exact (Array.getElem?_eq_some_iff.1 k4).1
    | 4, _ => exact g.al ll b (g.hp _ _ h5).1 hb
section
variable {P : Program} {lb : Nat} {Q : Exit → Act → World → Prop} {E : Base} {n L : Nat} {τ : List (Nat × AV)} {h : List (Nat × AO)} {H0 : List AO} {R0 : Env} {W0 : World} {FS0 fs : Fam}
theorem CR.thawZ {c : Code} (hN : H0.length ≤ E.N) (hE : ∀ l, l < H0.length → E.ρ l = R0 l) (hrob : roH H0 h = true) (p : PIQ) (fs2 : Fam) (hperm : fs.Perm (zfact p :: fs2)) (hEL : E.N ≤ L)
    (k : ∀ ρ1 : Env, (∀ l, l < E.N → ρ1 l = E.ρ l) → ρ1 L = some p.2.1 → CR P lb c Q ⟨L + 1, ρ1, E.df⟩ n (L + 1) τ ((L, slC p.2.2) :: h) (FF H0 R0 W0 FS0 fs2)) : CR P lb c Q E n L τ h (FF H0 R0 W0 FS0 fs) :=
  CR.fact (p := ApF fs) (fun ρ a w g => g.ff.ap) fun hap =>
    ⟨fun ρ a w g => (k (updE ρ L (some p.2.1)) (fun l hl => (updE_ne ρ _ (by omega)).trans (g.ex l hl)) (updE_same _ _ _)).out _ a w (g.thawP hN hE hrob (p := zfact p) (hperm.symm.subset List.mem_cons_self) rfl (zfact_ap hap hperm).1 (zfact_ap hap hperm).2 (o := slC p.2.2) rfl (is_slC _ _) rfl)⟩
theorem CR.frzZ {c : Code} (l : Nat) {b : Nat} {s : Sl PrV} (hl : hk l h = some (slC s)) (hlN : l < E.N) (hb : E.ρ l = some b) (k : (∀ p ∈ fs, p.b ≠ b) → CR P lb c Q E n L τ ((l, .gone) :: h) (FF H0 R0 W0 FS0 (⟨true, b, slOb s⟩ :: fs))) : CR P lb c Q E n L τ h (FF H0 R0 W0 FS0 fs) := ⟨fun ρ a w g => by
  obtain ⟨ob, h1, g'⟩ := g.frzP (o' := slC s) true l hl rfl hlN hb (fun ob w h1 h2 => is_cells h1 h2)
  rw [slC_is h1.1] at g'
  exact (k h1.2).out ρ a w g'⟩
end
theorem asc_nodup {l : ZL} (hA : Asc l) : (l.map (·.1)).Nodup := by
  unfold List.Nodup
  rw [List.pairwise_map]
  exact hA.imp fun {a b} h e => by rw [e, cmpS_self] at h; omega
theorem has_mem {l : ZL} (hA : Asc l) {p : PIQ} (hp : p ∈ l) : hasK l p.1 = true ∧ l.getD (plc l p.1) zG = p := by
  obtain ⟨i, hi, rfl⟩ := List.mem_iff_getElem.1 hp
  have e := zG_get hi
  have h1 := has_at hA hi
  have h2 := plc_at hA hi
  rw [e] at h1 h2
  exact ⟨h1, by rw [h2, e]⟩
theorem del_filter {l : ZL} (hA : Asc l) {k : ByteArray} (hk : hasK l k = true) : delL l (plc l k) = l.filter fun p => decide (p.1 ≠ k) := by
  have hlt := (hasK_lt hk).1
  have hkk := hasK_key hk
  have hs := del_split hlt
  have hnd := asc_nodup hA
  conv => rhs; rw [hs]
  rw [List.filter_append, List.filter_cons, if_neg (by rw [decide_eq_true_eq]; exact fun h => h hkk)]
  unfold delL
  have hne : ∀ p ∈ l.take (plc l k) ++ l.drop (plc l k + 1), p.1 ≠ k := fun p hp e => by
    rw [hs, List.map_append, List.map_cons, List.nodup_append] at hnd
    obtain ⟨h1, h2, h3⟩ := hnd
    rw [List.nodup_cons] at h2
    rcases List.mem_append.1 hp with hp | hp
    · exact h3 p.1 (List.mem_map.2 ⟨p, hp, rfl⟩) (l.getD (plc l k) zG).1 List.mem_cons_self (by rw [e, hkk])
    · exact h2.1 (List.mem_map.2 ⟨p, hp, by rw [e, hkk]⟩)
  rw [List.filter_eq_self.2 fun p hp => by simpa using hne p (List.mem_append_left _ hp), List.filter_eq_self.2 fun p hp => by simpa using hne p (List.mem_append_right _ hp)]
/-- without the first j of some keys -/
def remK (l : ZL) (ks : List ByteArray) (j : Nat) : ZL := l.filter fun p => !(ks.take j).any fun k => decide (p.1 = k)
theorem remK_zero (l : ZL) (ks : List ByteArray) : remK l ks 0 = l := List.filter_eq_self.2 fun p _ => by simp
theorem remK_asc {l : ZL} (hA : Asc l) (ks : List ByteArray) (j : Nat) : Asc (remK l ks j) := hA.sublist List.filter_sublist
theorem remK_step {l : ZL} (hA : Asc l) {ks : List ByteArray} {j : Nat} (hj : j < ks.length) (hk : hasK (remK l ks j) (ks.getD j noT) = true) : delL (remK l ks j) (plc (remK l ks j) (ks.getD j noT)) = remK l ks (j + 1) := by
  rw [del_filter (remK_asc hA ks j) hk]
  unfold remK
  rw [List.filter_filter]
  refine List.filter_congr fun p _ => ?_
  rw [ks_get hj, List.take_succ_eq_append_getElem hj, List.any_append]
  cases h2 : (ks.take j).any fun k => decide (p.1 = k) <;> by_cases h1 : p.1 = ks[j] <;> simp [h1]
theorem remK_has {l : ZL} (hA : Asc l) {ks : List ByteArray} {j : Nat} (hj : j < ks.length) (hsub : ∀ k ∈ ks, ∃ p ∈ l, p.1 = k) (hnd : ks.Nodup) : hasK (remK l ks j) (ks.getD j noT) = true := by
  obtain ⟨p, hp, hpk⟩ := hsub ks[j] (List.getElem_mem hj)
  have hn : ((ks.take j).any fun k => decide (p.1 = k)) = false := by
    rw [List.any_eq_false]
    intro k hk
    rw [decide_eq_true_eq]
    intro e
    obtain ⟨i, hi, he⟩ := List.mem_iff_getElem.1 hk
    rw [List.getElem_take] at he
    rw [List.length_take] at hi
    exact List.pairwise_iff_getElem.1 hnd i j (by omega) hj (by omega) (by rw [he, ← e, hpk])
  have := (has_mem (remK_asc hA ks j) (p := p) (List.mem_filter.2 ⟨hp, by rw [hn]; rfl⟩)).1
  rwa [hpk, ← ks_get hj] at this
theorem remK_len {l : ZL} (ks : List ByteArray) (j : Nat) : (remK l ks j).length ≤ l.length := List.length_filter_le _ _
def gP (g : Sl PrV → Sl PrV) (p : PIQ) : PIQ := (p.1, p.2.1, g p.2.2)
def zmid (l : ZL) (g : Sl PrV → Sl PrV) (i : Nat) : ZL := (l.take i).map (gP g) ++ l.drop i
theorem zmid_keys (l : ZL) (g : Sl PrV → Sl PrV) (i : Nat) : (zmid l g i).map (·.1) = l.map (·.1) := by
  unfold zmid
  rw [List.map_append, List.map_map]
  have : ((fun x : PIQ => x.1) ∘ gP g) = (·.1) := rfl
  rw [this, ← List.map_append, List.take_append_drop]
theorem zmid_len (l : ZL) (g : Sl PrV → Sl PrV) (i : Nat) : (zmid l g i).length = l.length := len_keys (zmid_keys l g i)
theorem zmid_get {l : ZL} {g : Sl PrV → Sl PrV} {i : Nat} (h : i < l.length) : (zmid l g i).getD i zG = l.getD i zG := by
  unfold zmid
  rw [List.getD_eq_getElem?_getD, List.getElem?_append_right (by simp; omega), List.length_map, List.length_take, Nat.min_eq_left (by omega), Nat.sub_self, List.getElem?_drop, Nat.add_zero, ← List.getD_eq_getElem?_getD]
theorem zmid_step {l : ZL} {g : Sl PrV → Sl PrV} {i : Nat} (h : i < l.length) : zmid l g (i + 1) = zup (zmid l g i) i (g (l.getD i zG).2.2) := by
  have hl : ((l.take i).map (gP g)).length = i := by simp; omega
  unfold zup
  rw [zmid_get h]
  unfold zmid
  rw [List.drop_eq_getElem_cons h, List.set_append_right _ _ (by omega), hl, Nat.sub_self, List.set_cons_zero, List.take_succ_eq_append_getElem h, List.map_append, List.append_assoc, zG_get h]
  rfl
theorem zmid_zero (l : ZL) (g : Sl PrV → Sl PrV) : zmid l g 0 = l := by simp [zmid]
theorem zmid_end (l : ZL) (g : Sl PrV → Sl PrV) : zmid l g l.length = l.map (gP g) := by simp [zmid]
def deadK (l : ZL) (i : Nat) : List ByteArray := ((l.take i).filter fun p => !p.2.2.live).map (·.1)
theorem deadK_step {l : ZL} {i : Nat} (h : i < l.length) : deadK l (i + 1) = if (l.getD i zG).2.2.live = true then deadK l i else deadK l i ++ [(l.getD i zG).1] := by
  unfold deadK
  rw [List.take_succ_eq_append_getElem h, List.filter_append, List.map_append, zG_get h]
  cases hl : (l[i]).2.2.live <;> simp [hl]
theorem deadK_len (l : ZL) (i : Nat) : (deadK l i).length ≤ l.length := by
  unfold deadK
  rw [List.length_map]
  exact Nat.le_trans (List.length_filter_le _ _) (by rw [List.length_take]; omega)
def lastO (l : ZL) (i : Nat) : Option ByteArray := if i = 0 then none else some (l.getD (i - 1) zG).1
theorem posO_at {l m : ZL} (hk : m.map (·.1) = l.map (·.1)) (hA : Asc l) {i : Nat} (hi : i ≤ l.length) : posO m noT (lastO l i) = i := by
  unfold lastO
  cases i with
  | zero => exact plc_no m
  | succ i =>
    rw [if_neg (by omega)]
    show aboveN m (l.getD (i + 1 - 1) zG).1 = i + 1
    rw [above_keys hk, show i + 1 - 1 = i by omega, above_at hA (by omega)]
def zsw (l : ZL) (g : Sl PrV → Sl PrV) : ZL := (l.map (gP g)).filter fun p => p.2.2.live
theorem asc_g {l : ZL} (hA : Asc l) (g : Sl PrV → Sl PrV) : Asc (l.map (gP g)) := by
  have := asc_keys (zmid_keys l g l.length) hA
  rwa [zmid_end] at this
theorem remK_end {l : ZL} {g : Sl PrV → Sl PrV} (hA : Asc l) (hg : ∀ s, (g s).live = s.live) : remK (l.map (gP g)) (deadK l l.length) (deadK l l.length).length = zsw l g := by
  unfold remK zsw
  rw [List.take_length]
  refine List.filter_congr fun p hp => ?_
  obtain ⟨q, hq, rfl⟩ := List.mem_map.1 hp
  show _ = (g q.2.2).live
  rw [hg]
  unfold deadK
  rw [List.take_length]
  cases hl : q.2.2.live with
  | true =>
    rw [Bool.not_eq_true']
    rw [List.any_eq_false]
    intro k hk
    rw [decide_eq_true_eq]
    intro e
    obtain ⟨r, hr, rfl⟩ := List.mem_map.1 hk
    obtain ⟨hr1, hr2⟩ := List.mem_filter.1 hr
    have h1 := (has_mem hA hq).2
    have h2 := (has_mem hA hr1).2
    have e : q.1 = r.1 := e
    rw [e] at h1
    rw [h1] at h2
    subst h2
    rw [hl] at hr2
    cases hr2
  | false =>
    rw [Bool.not_eq_false']
    rw [List.any_eq_true]
    exact ⟨q.1, List.mem_map.2 ⟨q, List.mem_filter.2 ⟨hq, by rw [hl]; rfl⟩, rfl⟩, decide_eq_true rfl⟩
theorem deadK_sub (l : ZL) (g : Sl PrV → Sl PrV) : ∀ k ∈ deadK l l.length, ∃ p ∈ l.map (gP g), p.1 = k := fun k hk => by
  unfold deadK at hk
  rw [List.take_length] at hk
  obtain ⟨q, hq, rfl⟩ := List.mem_map.1 hk
  exact ⟨gP g q, List.mem_map.2 ⟨q, (List.mem_filter.1 hq).1, rfl⟩, rfl⟩
theorem deadK_nodup {l : ZL} (hA : Asc l) : (deadK l l.length).Nodup := by
  unfold deadK
  rw [List.take_length]
  exact (asc_nodup hA).sublist (List.filter_sublist.map _)
theorem piF_zmid (l : ZL) (g : Sl PrV → Sl PrV) (i : Nat) : piFQ (zmid l g i) = piFQ l := by
  funext j
  unfold piFQ
  have h1 := get_keys (zmid_keys l g i) j
  have h2 : ((zmid l g i).getD j zG).2.1 = (l.getD j zG).2.1 := by
    have key : ∀ m : ZL, (m.getD j zG).2.1 = (m.map (·.2.1)).getD j (0 : Nat) := fun m => by
      simp only [List.getD_eq_getElem?_getD, List.getElem?_map]
      cases m[j]? <;> rfl
    rw [key, key]
    congr 1
    unfold zmid
    rw [List.map_append, List.map_map]
    have : ((fun x : PIQ => x.2.1) ∘ gP g) = (·.2.1) := rfl
    rw [this, ← List.map_append, List.take_append_drop]
  unfold piAQ
  rw [h1, h2]
section
variable (f : FuncId) (g : Sl PrV → Sl PrV) (l : ZL) (c : Nat)
theorem sweep_specQ (hs : Int) (mk : Bool) (sp : ∀ s, Spec Try.prog f [.ptr 0 0 0 0] [slC s] 1 (σ := Unit) (fun _ => True) (fun _ => .raw (.bool (!s.live))) (fun _ => [(0, slC (g s))])) (hg : ∀ s, (g s).live = s.live) (eg : ∀ args w, (callFunc f args).run Try.prog w = .ok (.enter f args) w)
    (hA : Asc l) (hl : l.length ≤ 900000) (hc : l.length ≤ c) (hc2 : c ≤ 9223372036854775807) :
    SpecF Try.prog 45 [.ptr 0 0 0 0, .fn f []] [tbIQ 1 l.length c hs mk, tIQ l c] 3 (zF l) (σ := Unit) (fun _ => True)
    (fun _ => .tup []) (fun _ => [(0, tbIQ 2 (zsw l g).length c hs mk), (2, tIQ (zsw l g) c)]) (fun _ => zF (l.map (gP g))) := by
  refine SpecF.ofM Try.func45 rfl Try.ntmps45 rfl (bdl_cons rfl (bdl_cons (fun _ _ => rfl) (bdl_nil _))) fun ρ w => ?_
  repeat (first | refine C.seq ?_ | refine C.region ?_ | refine R.zb ttok ?_ | refine R.zu ttok ?_ | refine R.zc ttok ?_ | refine R.za ttok ?_ | refine R.zx ?_ | refine R.zl ttok ?_ | refine R.zs ttok ?_ | refine R.z ttok ?_ | refine R.zk ?_ | refine R.zn ?_ | refine R.done ?_ | refine X.then ?_ | refine C.block ?_ | refine C.ret ?_ | refine C.skip ?_ | refine C.exit ?_ | refine X.pass_ret ?_ | refine X.pass_exit ?_ | refine X.block_normal ?_ | refine X.block_ret ?_ | refine X.block_exit ?_ | refine C.zt ?_ | refine C.zf ?_ | refine X.zo ?_)
  refine R.cl [0] (rangeT_specQ noT noT) Try.call76 (by repeat (first | exact HasIn.nil | refine HasIn.same rfl rfl ?_ | refine HasIn.c1 rfl rfl ?_ | refine HasIn.other rfl (fun e => by cases e) (fun ρ x w hh => tab_ro hh) ?_ | refine HasIn.other rfl (fun e => by cases e) (fun ρ x w hh => tab_any hh) ?_ | refine HasIn.roA rfl rfl ?_ | refine HasIn.other rfl (fun e => by cases e) (fun ρ x w hh => cells_any hh) ?_)) rfl rfl rfl (fun _ => rfl) rfl (by kernel_rfl) fun _ _ => ?_
  repeat (first | refine C.seq ?_ | refine C.region ?_ | refine R.zb ttok ?_ | refine R.zu ttok ?_ | refine R.zc ttok ?_ | refine R.za ttok ?_ | refine R.zx ?_ | refine R.zl ttok ?_ | refine R.zs ttok ?_ | refine R.z ttok ?_ | refine R.zk ?_ | refine R.zn ?_ | refine R.done ?_ | refine X.then ?_ | refine C.block ?_ | refine C.ret ?_ | refine C.skip ?_ | refine C.exit ?_ | refine X.pass_ret ?_ | refine X.pass_exit ?_ | refine X.block_normal ?_ | refine X.block_ret ?_ | refine X.block_exit ?_ | refine C.zt ?_ | refine C.zf ?_ | refine X.zo ?_)
  refine C.noneH 3 [.sl 7 1 0 ([] : List ByteArray).length 0] (tX [] 0) (none_tab _ _ _ _) rfl rfl rfl (fun ρ h => by have h : ρ 7 = none := h; show [(AV.sl 7 1 0 0 0).conc ρ] = [Value.slice none 0 0]; simp [AV.conc, h]) ?_
  refine C.less [(8, 1)] 9 [(0, .ptr 0 0 0 0), (3, .ptr 2 0 0 0), (4, .ptr 3 0 0 0), (12, .fn rgZ [.ptr 4 0 0 0, .ptr 5 0 0 0, .ptr 6 0 0 0])] [(0, tbIQ 8 l.length c hs mk), (8, tIQ l c), (2, .cells [.fn f []] 98), (3, .cells [.sl 7 1 0 (deadK l ((0 : Nat))).length ((0 : Nat))] 22), (7, tX (deadK l ((0 : Nat))) ((0 : Nat))), (4, .cells [.ptr 0 0 0 0] 125), (5, .cells [.raw (.string noT)] 9), (6, .cells [.raw (.string noT)] 9)] _ rfl (by repeat (first | exact HasT.nil | refine HasT.cons rfl rfl rfl ?_)) (by repeat (first | exact HasH.nil | refine HasH.same rfl rfl rfl trivial ?_ | refine HasH.same rfl rfl rfl rfl ?_ | refine HasH.same rfl rfl rfl (fun _ _ => rfl) ?_ | refine HasH.ros rfl rfl ?_)) rfl (fun _ h => h) ?_
  have hz0 : zF l = zF (zmid l g 0) := by rw [zmid_zero]
  refine C.wk (F2 := FF _ ρ w (zF l) (zF (zmid l g 0))) (fun w' hf => hz0 ▸ hf) ?_
  refine C.range (σ := Nat × Nat) (α := ByteArray × Nat) (H := fun s => [(0, tbIQ 8 l.length c hs mk), (8, tIQ l c), (2, .cells [.fn f []] 98), (3, .cells [.sl 7 1 0 (deadK l (s.1)).length (s.2)] 22), (7, tX (deadK l (s.1)) (s.2)), (4, .cells [.ptr 0 0 0 0] 125), (5, .cells [.raw (.string noT)] 9), (6, .cells [.raw (.string noT)] 9)]) (HX := fun s => [(0, tbIQ 8 l.length c hs mk), (8, tIQ l c), (2, .cells [.fn f []] 98), (3, .cells [.sl 7 1 0 (deadK l (s.1)).length (s.2)] 22), (7, tX (deadK l (s.1)) (s.2)), (4, .cells [.ptr 0 0 0 0] 125), (5, .cells [.raw (.string noT)] 9), (6, .cells [.raw (.string noT)] 9)]) (fsI := fun s => zF (zmid l g s.1)) (fsX := fun s => zF (zmid l g s.1)) (u := fun x => .string x.1) (v := fun x => .pointer (some ⟨x.2, 0, none⟩)) 7 9 (0, 0) (fun s => s.1 ≤ l.length ∧ (deadK l s.1).length ≤ s.2 ∧ s.2 ≤ 9223372036854775807) (fun _ => False) _ _ _ _ _
    rfl Try.call96 ⟨Nat.zero_le _, Nat.le_refl _, by simp⟩ ?hi0 rfl (fun s _ => zF_cells) (fun s _ => zF_cells) ?hsee (fun ρ1 _ => rng1_itc (fun s : Nat × Nat => zmid l g s.1) (fun s => lastO l s.1) (fun s => l.length - s.1) ((ρ1 4).getD 0) ((ρ1 5).getD 0) ((ρ1 6).getD 0) ((ρ1 0).getD 0) noT noT) ?hround ?hdone (fun s D _ h => h.elim)
  case hi0 => rfl
  case hsee =>
    intro ρ1 ρ s W fs he hI _ gg
    have h1 := rsee_of gg (l := zmid l g s.1) (lt := 4) (lf := 5) (lo := 6) (ls := 0) (ll := 8) (fr := noT) (to := noT) (asc_keys (zmid_keys l g s.1) hA) (by rw [zmid_len]; omega) rfl rfl rfl (by rw [zmid_len]; rfl) (by rw [piF_zmid, zmid_len]; rfl)
    rw [he 4 (by decide), he 5 (by decide), he 6 (by decide), he 0 (by decide)] at h1
    exact h1
  case hround =>
    rintro ρ1 lb D r XF ⟨i, cg⟩ x hpin hr hpe hlb hX ⟨hi, hcg, hcg2⟩ ⟨i', hi', hlt, rfl, _⟩
    dsimp only at hi hcg hcg2 hi' hlt ⊢
    rw [posO_at (zmid_keys l g i) hA hi] at hi'
    subst hi'
    rw [zmid_len] at hlt
    rw [zmid_get hlt]
    obtain ⟨p, hp⟩ : ∃ p, l.getD i zG = p := ⟨_, rfl⟩
    rw [hp]
    have hltm : i < (zmid l g i).length := by rw [zmid_len]; exact hlt
    have hperm := zF_del hltm
    have hup := zF_up hltm (g p.2.2)
    have hstep := zmid_step (g := g) hlt
    rw [zmid_get hlt, hp] at hperm hup
    rw [hp] at hstep
    rw [← hstep] at hup
    have hpk : ((zmid l g i).getD i zG).1 = p.1 := by rw [zmid_get hlt, hp]
    have hla : lastO l (i + 1) = some p.1 := by unfold lastO; rw [if_neg (by omega), show i + 1 - 1 = i by omega, hp]
    have hdk := deadK_step hlt
    rw [hp] at hdk
    have hfac : ∀ m : ZL, ∀ y ∈ dFact D :: (zF m ++ XF), FactC lb y := fun m y hy => by
      rcases List.mem_cons.1 hy with rfl | hy
      · exact .inr (.inl rfl)
      · rcases List.mem_append.1 hy with hy | hy
        · exact .inl (zF_cells y hy)
        · exact .inr (.inr (hX y hy).2)
    refine CR.seq ?_
    refine CR.region ?_
    repeat (first | refine R.zb ttok ?_ | refine R.zu ttok ?_ | refine R.zc ttok ?_ | refine R.za ttok ?_ | refine R.zx ?_ | refine R.zl ttok ?_ | refine R.zs ttok ?_ | refine R.z ttok ?_ | refine R.zk ?_ | refine R.zn ?_)
    refine R.done ?_
    refine X.thenR ?_
    refine CR.region ?_
    repeat (first | refine R.zb ttok ?_ | refine R.zu ttok ?_ | refine R.zc ttok ?_ | refine R.za ttok ?_ | refine R.zx ?_ | refine R.zl ttok ?_ | refine R.zs ttok ?_ | refine R.z ttok ?_ | refine R.zk ?_ | refine R.zn ?_)
    refine R.done ?_
    refine X.begin_ (hfac _) hlb hr ?_
    refine CR.block ?_
    refine CR.thawZ (H0 := [tbIQ 1 l.length c hs mk, tIQ l c]) (R0 := ρ) (by show 2 ≤ 7; omega) (fun k hk => hpin k hk) (by kernel_rfl) p (rFact lb { r with state := .busy } :: dFact D :: (zF (delL (zmid l g i) i) ++ XF)) ((List.Perm.append_right XF hperm).cons _ |>.cons _ |>.trans (perm3 _ _ _ _)) (by show 7 ≤ 9; omega) fun ρ2 hρ2 hρb => ?_
    have hρb : ρ2 9 = some p.2.1 := hρb
    repeat (first | refine CR.seq ?_ | refine CR.region ?_ | refine R.zb ttok ?_ | refine R.zu ttok ?_ | refine R.zc ttok ?_ | refine R.za ttok ?_ | refine R.zx ?_ | refine R.zl ttok ?_ | refine R.zs ttok ?_ | refine R.z ttok ?_ | refine R.zk ?_ | refine R.zn ?_ | refine R.done ?_ | refine X.thenR ?_ | refine CR.block ?_ | refine CR.skip ?_ | refine CR.ret ?_ | refine CR.tru (by exact rfl) ?_ | refine CR.fls (by exact rfl) ?_ | refine X.pass_ret ?_ | refine X.pass_exit ?_ | refine X.block_normal ?_ | refine X.block_ret ?_ | refine X.block_exit ?_)
    refine R.name 16 (.ptr 9 0 0 0) rfl (fun ρ3 h => by
      have h8 : ρ3 9 = some p.2.1 := (h 9 (by show 9 < 10; omega)).trans hρb
      simp [AV.conc, h8]) rfl ?_
    refine R.cl [9] (sp p.2.2) eg (.same rfl rfl .nil) rfl rfl rfl (fun _ => rfl) rfl (by kernel_rfl) fun _ _ => ?_
    refine R.done ?_
    refine X.thenR ?_
    refine CR.frzZ 9 (s := g p.2.2) rfl (by show 9 < 10; omega) hρb fun _ => ?_
    refine CR.unpin (E := ⟨7, ρ1, []⟩) (by show 7 ≤ 10; omega) (fun k hk => hρ2 k hk) ?_
    refine CR.fperm ((perm3 _ _ _ _).symm.trans (((List.Perm.append_right XF hup.symm).cons _).cons _)) ?_
    cases hlv : p.2.2.live with
    | true =>
      rw [hlv, if_pos rfl] at hdk
      repeat (first | refine CR.seq ?_ | refine CR.region ?_ | refine R.zb ttok ?_ | refine R.zu ttok ?_ | refine R.zc ttok ?_ | refine R.za ttok ?_ | refine R.zx ?_ | refine R.zl ttok ?_ | refine R.zs ttok ?_ | refine R.z ttok ?_ | refine R.zk ?_ | refine R.zn ?_ | refine R.done ?_ | refine X.thenR ?_ | refine CR.block ?_ | refine CR.skip ?_ | refine CR.ret ?_ | refine CR.tru (by exact rfl) ?_ | refine CR.fls (by exact rfl) ?_ | refine X.pass_ret ?_ | refine X.pass_exit ?_ | refine X.block_normal ?_ | refine X.block_ret ?_ | refine X.block_exit ?_)
      refine X.next [] (i + 1, cg) ⟨hlt, by rw [hdk]; exact hcg, hcg2⟩ ⟨hla, by dsimp only; omega⟩ hr hpe rfl rfl (by
        show HasH _ _ _ [(0, tbIQ 8 l.length c hs mk), (8, tIQ l c), (2, .cells [.fn f []] 98), (3, .cells [.sl 7 1 0 (deadK l ((i + 1))).length (cg)] 22), (7, tX (deadK l ((i + 1))) (cg)), (4, .cells [.ptr 0 0 0 0] 125), (5, .cells [.raw (.string noT)] 9), (6, .cells [.raw (.string noT)] 9)]
        rw [hdk]
        exact (by repeat (first | exact HasH.nil | refine HasH.same rfl rfl rfl trivial ?_ | refine HasH.same rfl rfl rfl rfl ?_ | refine HasH.same rfl rfl rfl (fun _ _ => rfl) ?_))) rfl hlb (hfac _) (fun w' hf => hf.less (fun y hy => by
          rcases List.mem_cons.1 hy with rfl | hy
          · exact List.mem_cons_self
          · exact List.mem_cons_of_mem _ (List.mem_append_left _ hy)) (hf.ap.sublist ((List.sublist_append_left _ _).cons_cons _))) (fun y hy => by
          rcases List.mem_cons.1 hy with rfl | hy
          · exact .inr (.inl rfl)
          · exact .inl (zF_cells y hy)) (fun y hy => List.mem_cons_of_mem _ (List.mem_append_right _ hy))
    | false =>
      rw [hlv, if_neg (by decide)] at hdk
      repeat (first | refine CR.seq ?_ | refine CR.region ?_ | refine R.zb ttok ?_ | refine R.zu ttok ?_ | refine R.zc ttok ?_ | refine R.za ttok ?_ | refine R.zx ?_ | refine R.zl ttok ?_ | refine R.zs ttok ?_ | refine R.z ttok ?_ | refine R.zk ?_ | refine R.zn ?_ | refine R.done ?_ | refine X.thenR ?_ | refine CR.block ?_ | refine CR.skip ?_ | refine CR.ret ?_ | refine CR.tru (by exact rfl) ?_ | refine CR.fls (by exact rfl) ?_ | refine X.pass_ret ?_ | refine X.pass_exit ?_ | refine X.block_normal ?_ | refine X.block_ret ?_ | refine X.block_exit ?_)
      have hkl := deadK_len l i
      have hlen : (deadK l i ++ [p.1]).length = (deadK l i).length + 1 := by rw [List.length_append]; rfl
      refine R.app (xs := txs (deadK l i)) (news := txs [p.1]) ttok (fun c => tX (deadK l i ++ [p.1]) c) rfl rfl (dstTx rfl) (SrcA.cells rfl rfl) (asTx _ _ _ (by unfold txs; rw [List.map_append])) rfl rfl rfl rfl rfl rfl (by decide) rfl rfl rfl (by kernel_rfl) hcg2 (by show ((deadK l i).length + 1) * 16 ≤ _; omega) (by omega) fun cN hcN hcN2 => ?_
      rw [← hlen] at hcN ⊢
      repeat (first | refine CR.seq ?_ | refine CR.region ?_ | refine R.zb ttok ?_ | refine R.zu ttok ?_ | refine R.zc ttok ?_ | refine R.za ttok ?_ | refine R.zx ?_ | refine R.zl ttok ?_ | refine R.zs ttok ?_ | refine R.z ttok ?_ | refine R.zk ?_ | refine R.zn ?_ | refine R.done ?_ | refine X.thenR ?_ | refine CR.block ?_ | refine CR.skip ?_ | refine CR.ret ?_ | refine CR.tru (by exact rfl) ?_ | refine CR.fls (by exact rfl) ?_ | refine X.pass_ret ?_ | refine X.pass_exit ?_ | refine X.block_normal ?_ | refine X.block_ret ?_ | refine X.block_exit ?_)
      refine X.next [(7, 11)] (i + 1, cN) ⟨hlt, by rw [hdk]; exact hcN, hcN2⟩ ⟨hla, by dsimp only; omega⟩ hr hpe rfl rfl (by
        show HasH _ _ _ [(0, tbIQ 8 l.length c hs mk), (8, tIQ l c), (2, .cells [.fn f []] 98), (3, .cells [.sl 7 1 0 (deadK l ((i + 1))).length (cN)] 22), (7, tX (deadK l ((i + 1))) (cN)), (4, .cells [.ptr 0 0 0 0] 125), (5, .cells [.raw (.string noT)] 9), (6, .cells [.raw (.string noT)] 9)]
        rw [hdk]
        exact (by repeat (first | exact HasH.nil | refine HasH.same rfl rfl rfl trivial ?_ | refine HasH.same rfl rfl rfl rfl ?_ | refine HasH.same rfl rfl rfl (fun _ _ => rfl) ?_))) rfl hlb (hfac _) (fun w' hf => hf.less (fun y hy => by
          rcases List.mem_cons.1 hy with rfl | hy
          · exact List.mem_cons_self
          · exact List.mem_cons_of_mem _ (List.mem_append_left _ hy)) (hf.ap.sublist ((List.sublist_append_left _ _).cons_cons _))) (fun y hy => by
          rcases List.mem_cons.1 hy with rfl | hy
          · exact .inr (.inl rfl)
          · exact .inl (zF_cells y hy)) (fun y hy => List.mem_cons_of_mem _ (List.mem_append_right _ hy))
  case hdone =>
    rintro ⟨i, cg⟩ D hD ⟨hi, hcg, hcg2⟩ hFin
    dsimp only at hi hcg hcg2 hFin ⊢
    rw [posO_at (zmid_keys l g i) hA hi, zmid_len, past_no] at hFin
    obtain rfl : i = l.length := by
      rcases Nat.lt_or_ge i l.length with h | h
      · cases hFin h
      · omega
    rw [zmid_end]
    obtain ⟨M, hM⟩ : ∃ M, l.map (gP g) = M := ⟨_, rfl⟩
    have hMA : Asc M := by rw [← hM]; exact asc_g hA g
    have hML : M.length = l.length := by rw [← hM, List.length_map]
    have hMF : piFQ M = piFQ l := by rw [← hM, ← zmid_end, piF_zmid]
    have hend := remK_end hA hg
    have hsub := deadK_sub l g
    have hnd := deadK_nodup hA
    obtain ⟨ks, hks⟩ : ∃ ks, deadK l l.length = ks := ⟨_, rfl⟩
    have hkl := deadK_len l l.length
    rw [hM] at hend hsub ⊢
    rw [hks] at hend hsub hnd hcg hkl ⊢
    repeat (first | refine C.seq ?_ | refine C.region ?_ | refine R.zb ttok ?_ | refine R.zu ttok ?_ | refine R.zc ttok ?_ | refine R.za ttok ?_ | refine R.zx ?_ | refine R.zl ttok ?_ | refine R.zs ttok ?_ | refine R.z ttok ?_ | refine R.zk ?_ | refine R.zn ?_ | refine R.done ?_ | refine X.then ?_ | refine C.block ?_ | refine C.ret ?_ | refine C.skip ?_ | refine C.exit ?_ | refine X.pass_ret ?_ | refine X.pass_exit ?_ | refine X.block_normal ?_ | refine X.block_ret ?_ | refine X.block_exit ?_ | refine C.zt ?_ | refine C.zf ?_ | refine X.zo ?_)
    refine C.loop (σ := Nat) (L2 := 9) (fun j => j ≤ ks.length) (fun j => [(0, .ptr 0 0 0 0), (22, .sl 7 1 0 ks.length cg), (23, .raw (.int .i64 ks.length)), (24, .raw (.int .i64 (j : Nat)))]) (fun j => [(0, tbIQ 8 (remK M ks j).length c hs mk), (8, tIQ (remK M ks j) c), (7, tX ks cg)]) _ (fun j => ks.length - j) [] 0 (Nat.zero_le _) rfl (by repeat (first | exact HasT.nil | refine HasT.cons rfl rfl rfl ?_)) (by
      show HasH _ _ _ [(0, tbIQ 8 (remK M ks 0).length c hs mk), (8, tIQ (remK M ks 0) c), (7, tX ks cg)]
      rw [remK_zero]
      unfold tIQ
      rw [hML, hMF]
      exact (by repeat (first | exact HasH.nil | refine HasH.same rfl rfl rfl trivial ?_ | refine HasH.same rfl rfl rfl rfl ?_ | refine HasH.same rfl rfl rfl (fun _ _ => rfl) ?_))) rfl (fun _ h => h) ?_
    rintro j hj
    repeat (first | refine C.seq ?_ | refine C.region ?_ | refine R.zb ttok ?_ | refine R.zu ttok ?_ | refine R.zc ttok ?_ | refine R.za ttok ?_ | refine R.zx ?_ | refine R.zl ttok ?_ | refine R.zs ttok ?_ | refine R.z ttok ?_ | refine R.zk ?_ | refine R.zn ?_ | refine R.done ?_ | refine X.then ?_ | refine C.block ?_ | refine C.ret ?_ | refine C.skip ?_ | refine C.exit ?_ | refine X.pass_ret ?_ | refine X.pass_exit ?_ | refine X.block_normal ?_ | refine X.block_ret ?_ | refine X.block_exit ?_ | refine C.zt ?_ | refine C.zf ?_ | refine X.zo ?_)
    have hrl := remK_len (l := M) ks j
    by_cases hlt : (j : Int) < (ks.length : Nat)
    · rw [decide_eq_true hlt]
      have hlt : j < ks.length := by omega
      have hhas := remK_has hMA hlt hsub hnd
      have hstep := remK_step hMA hlt hhas
      repeat (first | refine C.seq ?_ | refine C.region ?_ | refine R.zb ttok ?_ | refine R.zu ttok ?_ | refine R.zc ttok ?_ | refine R.za ttok ?_ | refine R.zx ?_ | refine R.zl ttok ?_ | refine R.zs ttok ?_ | refine R.z ttok ?_ | refine R.zk ?_ | refine R.zn ?_ | refine R.done ?_ | refine X.then ?_ | refine C.block ?_ | refine C.ret ?_ | refine C.skip ?_ | refine C.exit ?_ | refine X.pass_ret ?_ | refine X.pass_exit ?_ | refine X.block_normal ?_ | refine X.block_ret ?_ | refine X.block_exit ?_ | refine C.zt ?_ | refine C.zf ?_ | refine X.zo ?_)
      refine R.ix ttok j rfl rfl rfl rfl rfl (by kernel_rfl) rfl hlt (by show _ < _; omega) rfl ?_
      rw [Nat.zero_add j]
      refine R.ldt (v := .raw (.string (ks.getD j noT))) ttok rfl rfl rfl rfl rfl (by kernel_rfl) hlt ?_
      repeat (first | refine C.seq ?_ | refine C.region ?_ | refine R.zb ttok ?_ | refine R.zu ttok ?_ | refine R.zc ttok ?_ | refine R.za ttok ?_ | refine R.zx ?_ | refine R.zl ttok ?_ | refine R.zs ttok ?_ | refine R.z ttok ?_ | refine R.zk ?_ | refine R.zn ?_ | refine R.done ?_ | refine X.then ?_ | refine C.block ?_ | refine C.ret ?_ | refine C.skip ?_ | refine C.exit ?_ | refine X.pass_ret ?_ | refine X.pass_exit ?_ | refine X.block_normal ?_ | refine X.block_ret ?_ | refine X.block_exit ?_ | refine C.zt ?_ | refine C.zf ?_ | refine X.zo ?_)
      refine R.cl [0, 8] (delI_specQ (remK M ks j) c (ks.getD j noT) hs mk (remK_asc hMA ks j) (by omega) (by omega) hc2 hhas) Try.call77 (by repeat (first | exact HasIn.nil | refine HasIn.same rfl rfl ?_ | refine HasIn.c1 rfl rfl ?_ | refine HasIn.other rfl (fun e => by cases e) (fun ρ x w hh => tab_ro hh) ?_ | refine HasIn.other rfl (fun e => by cases e) (fun ρ x w hh => tab_any hh) ?_ | refine HasIn.roA rfl rfl ?_ | refine HasIn.other rfl (fun e => by cases e) (fun ρ x w hh => cells_any hh) ?_)) rfl rfl rfl (fun _ => rfl) rfl (by kernel_rfl) fun _ _ => ?_
      repeat (first | refine C.seq ?_ | refine C.region ?_ | refine R.zb ttok ?_ | refine R.zu ttok ?_ | refine R.zc ttok ?_ | refine R.za ttok ?_ | refine R.zx ?_ | refine R.zl ttok ?_ | refine R.zs ttok ?_ | refine R.z ttok ?_ | refine R.zk ?_ | refine R.zn ?_ | refine R.done ?_ | refine X.then ?_ | refine C.block ?_ | refine C.ret ?_ | refine C.skip ?_ | refine C.exit ?_ | refine X.pass_ret ?_ | refine X.pass_exit ?_ | refine X.block_normal ?_ | refine X.block_ret ?_ | refine X.block_exit ?_ | refine C.zt ?_ | refine C.zf ?_ | refine X.zo ?_)
      have hln := delL_len (remK M ks j) _ (hasK_lt hhas).1
      rw [hstep] at hln ⊢
      rw [← hln]
      exact X.back [] (j + 1) hlt (by omega) rfl (by repeat (first | exact HasT.nil | refine HasT.cons rfl rfl rfl ?_)) (by repeat (first | exact HasH.nil | refine HasH.same rfl rfl rfl trivial ?_ | refine HasH.same rfl rfl rfl rfl ?_ | refine HasH.same rfl rfl rfl (fun _ _ => rfl) ?_ | refine HasH.ros rfl rfl ?_)) rfl (fun _ h => h)
    · rw [decide_eq_false hlt]
      obtain rfl : j = ks.length := by omega
      rw [hend]
      repeat (first | refine C.seq ?_ | refine C.region ?_ | refine R.zb ttok ?_ | refine R.zu ttok ?_ | refine R.zc ttok ?_ | refine R.za ttok ?_ | refine R.zx ?_ | refine R.zl ttok ?_ | refine R.zs ttok ?_ | refine R.z ttok ?_ | refine R.zk ?_ | refine R.zn ?_ | refine R.done ?_ | refine X.then ?_ | refine C.block ?_ | refine C.ret ?_ | refine C.skip ?_ | refine C.exit ?_ | refine X.pass_ret ?_ | refine X.pass_exit ?_ | refine X.block_normal ?_ | refine X.block_ret ?_ | refine X.block_exit ?_ | refine C.zt ?_ | refine C.zf ?_ | refine X.zo ?_)
      refine X.finM ttok () [(2, 8)] trivial rfl rfl rfl (by repeat (first | exact HasH.nil | refine HasH.same rfl rfl rfl trivial ?_ | refine HasH.same rfl rfl rfl rfl ?_ | refine HasH.same rfl rfl rfl (fun _ _ => rfl) ?_)) _ (by first | exact .inl rfl | exact .inr rfl) hD zF_cells ?_ ?_ ?_
      · exact fun w' hf => hf.ap
      · exact fun y hy => hy
      · intro y hy _
        obtain ⟨q, hq, rfl⟩ := List.mem_map.1 hy
        exact ⟨zfact (gP g q), List.mem_map.2 ⟨gP g q, by rw [← hM]; exact List.mem_map.2 ⟨q, hq, rfl⟩, rfl⟩, rfl⟩
end
theorem zsw_perm (l : ZL) (g : Sl PrV → Sl PrV) : ∃ G : Fam, (zF (l.map (gP g))).Perm (zF (zsw l g) ++ G) := by
  refine ⟨zF ((l.map (gP g)).filter fun p => !p.2.2.live), ?_⟩
  unfold zsw zF
  rw [← List.map_append]
  exact (List.filter_append_perm _ _).symm.map _
theorem cov_g (l : ZL) (g : Sl PrV → Sl PrV) : Cov (zF l) (zF (l.map (gP g))) := fun y hy _ => by
  obtain ⟨q, hq, rfl⟩ := List.mem_map.1 hy
  exact ⟨zfact (gP g q), List.mem_map.2 ⟨gP g q, List.mem_map.2 ⟨q, hq, rfl⟩, rfl⟩, rfl⟩
section
variable (l : ZL) (c : Nat)
theorem mark_specQ (hs : Int) (mk : Bool) (hA : Asc l) (hl : l.length ≤ 900000) (hc : l.length ≤ c) (hc2 : c ≤ 9223372036854775807) :
    SpecF Try.prog 14 [.ptr 0 0 0 0] [tbIQ 1 l.length c hs mk, tIQ l c] 3 (zF l) (σ := Fam) (fun G => Cov (zF l) (zF (if mk then l else zsw l Sl.mark) ++ G))
    (fun _ => .raw (.int .i64 (if mk then 18 else 0))) (fun _ => [(0, tbIQ 2 (if mk then l else zsw l Sl.mark).length c hs true), (2, tIQ (if mk then l else zsw l Sl.mark) c)]) (fun G => zF (if mk then l else zsw l Sl.mark) ++ G) := by
  refine SpecF.of Try.func14 rfl Try.ntmps14 rfl (bdl_cons rfl (bdl_cons (fun _ _ => rfl) (bdl_nil _))) fun ρ w => ?_
  cases mk with
  | true =>
    rw [if_pos rfl, if_pos rfl]
    repeat (first | refine C.seq ?_ | refine C.region ?_ | refine R.zb ttok ?_ | refine R.zu ttok ?_ | refine R.zc ttok ?_ | refine R.za ttok ?_ | refine R.zx ?_ | refine R.zl ttok ?_ | refine R.zs ttok ?_ | refine R.z ttok ?_ | refine R.zk ?_ | refine R.zn ?_ | refine R.done ?_ | refine X.then ?_ | refine C.block ?_ | refine C.ret ?_ | refine C.skip ?_ | refine C.exit ?_ | refine X.pass_ret ?_ | refine X.pass_exit ?_ | refine X.block_normal ?_ | refine X.block_ret ?_ | refine X.block_exit ?_ | refine C.zt ?_ | refine C.zf ?_ | refine X.zo ?_)
    refine X.finF ttok ([] : Fam) [(2, 1)] (by rw [List.append_nil]; exact Cov.refl _) rfl rfl rfl (by repeat (first | exact HasH.nil | refine HasH.same rfl rfl rfl trivial ?_ | refine HasH.same rfl rfl rfl rfl ?_ | refine HasH.same rfl rfl rfl (fun _ _ => rfl) ?_ | refine HasH.ros rfl rfl ?_)) _ (by first | exact .inl rfl | exact .inr rfl) ?_ ?_ ?_
    · rw [List.append_nil]; exact fun w' hf => hf.ap
    · rw [List.append_nil]; exact fun x hx => hx
    · exact fun x hx _ => ⟨x, hx, rfl⟩
  | false =>
    rw [if_neg (by decide), if_neg (by decide)]
    repeat (first | refine C.seq ?_ | refine C.region ?_ | refine R.zb ttok ?_ | refine R.zu ttok ?_ | refine R.zc ttok ?_ | refine R.za ttok ?_ | refine R.zx ?_ | refine R.zl ttok ?_ | refine R.zs ttok ?_ | refine R.z ttok ?_ | refine R.zk ?_ | refine R.zn ?_ | refine R.done ?_ | refine X.then ?_ | refine C.block ?_ | refine C.ret ?_ | refine C.skip ?_ | refine C.exit ?_ | refine X.pass_ret ?_ | refine X.pass_exit ?_ | refine X.block_normal ?_ | refine X.block_ret ?_ | refine X.block_exit ?_ | refine C.zt ?_ | refine C.zf ?_ | refine X.zo ?_)
    refine R.clF [0, 1] (sweep_specQ 46 Sl.mark l c hs true mark1_specQ (fun s => rfl) Try.call46 hA hl hc hc2) (Nat.le_refl _) (fun _ _ => rfl) Try.call45 (by repeat (first | exact HasIn.nil | refine HasIn.same rfl rfl ?_ | refine HasIn.c1 rfl rfl ?_ | refine HasIn.other rfl (fun e => by cases e) (fun ρ x w hh => tab_ro hh) ?_ | refine HasIn.other rfl (fun e => by cases e) (fun ρ x w hh => tab_any hh) ?_ | refine HasIn.roA rfl rfl ?_ | refine HasIn.other rfl (fun e => by cases e) (fun ρ x w hh => cells_any hh) ?_)) rfl rfl rfl (fun _ => rfl) rfl (by kernel_rfl) fun _ _ => ?_
    obtain ⟨G, hG⟩ := zsw_perm l Sl.mark
    repeat (first | refine C.seq ?_ | refine C.region ?_ | refine R.zb ttok ?_ | refine R.zu ttok ?_ | refine R.zc ttok ?_ | refine R.za ttok ?_ | refine R.zx ?_ | refine R.zl ttok ?_ | refine R.zs ttok ?_ | refine R.z ttok ?_ | refine R.zk ?_ | refine R.zn ?_ | refine R.done ?_ | refine X.then ?_ | refine C.block ?_ | refine C.ret ?_ | refine C.skip ?_ | refine C.exit ?_ | refine X.pass_ret ?_ | refine X.pass_exit ?_ | refine X.block_normal ?_ | refine X.block_ret ?_ | refine X.block_exit ?_ | refine C.zt ?_ | refine C.zf ?_ | refine X.zo ?_)
    refine X.fperm hG ?_
    have hcov : Cov (zF l) (zF (zsw l Sl.mark) ++ G) := (cov_g l Sl.mark).right (fun x hx => hG.subset hx)
    refine X.finF ttok G [] hcov rfl rfl rfl (by repeat (first | exact HasH.nil | refine HasH.same rfl rfl rfl trivial ?_ | refine HasH.same rfl rfl rfl rfl ?_ | refine HasH.same rfl rfl rfl (fun _ _ => rfl) ?_ | refine HasH.ros rfl rfl ?_)) _ (by first | exact .inl rfl | exact .inr rfl) ?_ ?_ ?_
    · exact fun w' hf => hf.ap
    · exact fun x hx => hx
    · exact (cov_g l Sl.mark).right (fun x hx => hG.subset hx)
end
abbrev liveZ (p : PIQ) : Bool := p.2.2.live
theorem above_iff {l : ZL} (hA : Asc l) (k : ByteArray) {i : Nat} (hi : i < l.length) : gtB (l.getD i zG).1 k = decide (aboveN l k ≤ i) := by
  rw [gt_cmp]
  refine decide_eq_decide.2 ?_
  have h1 := plc_iff hA k zG i hi
  unfold aboveN
  cases hk : hasK l k with
  | false =>
    rw [if_neg (by decide)]
    constructor
    · intro h
      rcases Nat.lt_or_ge i (plc l k) with h2 | h2
      · have := h1.2 h2
        rw [cmpS_swap] at h
        omega
      · exact h2
    · intro h
      have h2 : ¬ cmpS (l.getD i zG).1 k < 0 := fun e => by have := h1.1 e; omega
      have h3 : cmpS (l.getD i zG).1 k ≠ 0 := fun e => by
        have e2 := cmpS_zero.1 e
        have := has_at hA hi
        rw [e2, hk] at this; cases this
      rw [cmpS_swap]
      omega
  | true =>
    rw [if_pos rfl]
    have hkk := hasK_key hk
    have hlt := (hasK_lt hk).1
    constructor
    · intro h
      rcases Nat.lt_or_ge i (plc l k) with h2 | h2
      · have := h1.2 h2
        rw [cmpS_swap] at h
        omega
      · rcases Nat.eq_or_lt_of_le h2 with h3 | h3
        · subst h3
          rw [hkk, cmpS_self] at h
          omega
        · exact h3
    · intro h
      have := asc_lt hA (i := plc l k) (j := i) (by omega) hi
      rwa [hkk] at this
abbrev liveL (l : ZL) : ZL := l.filter liveZ
theorem asc_zsw {l : ZL} (hA : Asc l) (g : Sl PrV → Sl PrV) : Asc (zsw l g) := (asc_g hA g).sublist List.filter_sublist
theorem zsw_len (l : ZL) (g : Sl PrV → Sl PrV) : (zsw l g).length ≤ l.length := by
  unfold zsw
  refine Nat.le_trans (List.length_filter_le _ _) ?_
  rw [List.length_map]; exact Nat.le_refl _
theorem mark_held (s : Sl PrV) : s.mark.live = s.live ∧ True := ⟨rfl, trivial⟩
theorem asc_zup {l : ZL} (hA : Asc l) {i : Nat} (h : i < l.length) (s : Sl PrV) : Asc (zup l i s) := asc_keys (zup_keys l i s h) hA
theorem asc_put {l : ZL} (hA : Asc l) (k : ByteArray) (v : PrV) (b : Nat) : Asc (zput l k v b) := by
  unfold zput
  split
  · rename_i h; exact asc_zup hA (hasK_lt h).1 _
  · rename_i h; exact asc_ins hA k _ (by simpa using h)
theorem put_le (l : ZL) (k : ByteArray) (v : PrV) (b : Nat) : (zput l k v b).length ≤ l.length + 1 := by
  unfold zput
  split
  · rw [zup_len]; omega
  · rw [insL_len]; exact Nat.le_refl _
theorem cov_up {l : ZL} {i : Nat} (h : i < l.length) (s : Sl PrV) : Cov (zF l) (zF (zup l i s)) := fun p hp hr => by
  rcases List.mem_cons.1 ((zF_del h).subset hp) with rfl | hp
  · exact ⟨⟨true, (l.getD i zG).2.1, slOb s⟩, (zF_up h s).symm.subset List.mem_cons_self, rfl⟩
  · exact ⟨p, (zF_up h s).symm.subset (List.mem_cons_of_mem _ hp), rfl⟩
theorem cov_put (l : ZL) (k : ByteArray) (v : PrV) (b : Nat) : Cov (zF l) (zF (zput l k v b)) := by
  unfold zput
  split
  · rename_i h
    exact cov_up (hasK_lt h).1 _
  · exact (Cov.refl _).right fun p hp => (zF_ins l _ _).symm.subset (List.mem_cons_of_mem _ hp)
abbrev VL := List (ByteArray × PrV)
abbrev vw (p : PIQ) : ByteArray × PrV := (p.1, p.2.2.get p.2.2.rd)
def VZ (l : ZL) : VL := (liveL l).map vw
theorem vz_app (x y : ZL) : VZ (x ++ y) = VZ x ++ VZ y := by unfold VZ liveL; rw [List.filter_append, List.map_append]
theorem vz_cons (p : PIQ) (y : ZL) : VZ (p :: y) = (if p.2.2.live = true then [vw p] else []) ++ VZ y := by
  unfold VZ liveL
  rw [List.filter_cons]
  show List.map vw (if p.2.2.live = true then _ else _) = _
  cases p.2.2.live <;> rfl
theorem vz_mem {l : ZL} {q : ByteArray × PrV} (h : q ∈ VZ l) : ∃ p ∈ l, q.1 = p.1 := by
  obtain ⟨p, hp, rfl⟩ := List.mem_map.1 h
  exact ⟨p, (List.mem_filter.1 hp).1, rfl⟩
abbrev ltV (k : ByteArray) (p : ByteArray × PrV) : Bool := decide (cmpS p.1 k < 0)
abbrev gtV (k : ByteArray) (p : ByteArray × PrV) : Bool := decide (cmpS k p.1 < 0)
abbrev eqV (k : ByteArray) (p : ByteArray × PrV) : Bool := decide (cmpS p.1 k = 0)
theorem take_lt {l : ZL} (hA : Asc l) (k : ByteArray) : ∀ p ∈ l.take (plc l k), cmpS p.1 k < 0 := fun p hp => by
  obtain ⟨i, hi, rfl⟩ := List.mem_iff_getElem.1 hp
  rw [List.length_take] at hi
  have := plc_iff hA k zG i (by omega)
  rw [zG_get (by omega)] at this
  rw [List.getElem_take]
  exact this.2 (by omega)
theorem drop_ge {l : ZL} (hA : Asc l) (k : ByteArray) : ∀ p ∈ l.drop (plc l k), ¬ cmpS p.1 k < 0 := fun p hp => by
  obtain ⟨i, hi, rfl⟩ := List.mem_iff_getElem.1 hp
  rw [List.length_drop] at hi
  have := plc_iff hA k zG (plc l k + i) (by omega)
  rw [zG_get (by omega)] at this
  rw [List.getElem_drop]
  exact fun h => by have := this.1 h; omega
theorem drop_gt {l : ZL} (hA : Asc l) (k : ByteArray) : ∀ p ∈ l.drop (aboveN l k), cmpS k p.1 < 0 := fun p hp => by
  obtain ⟨i, hi, rfl⟩ := List.mem_iff_getElem.1 hp
  rw [List.length_drop] at hi
  have := above_iff hA k (i := aboveN l k + i) (by omega)
  rw [zG_get (by omega), gt_cmp] at this
  rw [List.getElem_drop]
  exact of_decide_eq_true (this.trans (decide_eq_true (by omega)))
theorem take_le {l : ZL} (hA : Asc l) (k : ByteArray) : ∀ p ∈ l.take (aboveN l k), ¬ cmpS k p.1 < 0 := fun p hp => by
  obtain ⟨i, hi, rfl⟩ := List.mem_iff_getElem.1 hp
  have hle := aboveN_le l k
  rw [List.length_take] at hi
  have := above_iff hA k (i := i) (by omega)
  rw [zG_get (by omega), gt_cmp] at this
  rw [List.getElem_take]
  exact of_decide_eq_false (this.trans (decide_eq_false (by omega)))
theorem vz_lt {l : ZL} (hA : Asc l) (k : ByteArray) : (VZ l).filter (ltV k) = VZ (l.take (plc l k)) := by
  conv => lhs; rw [← List.take_append_drop (plc l k) l, vz_app, List.filter_append]
  rw [List.filter_eq_self.2 (fun q hq => by obtain ⟨p, hp, e⟩ := vz_mem hq; exact decide_eq_true (by rw [e]; exact take_lt hA k p hp)), List.filter_eq_nil_iff.2 (fun q hq => by obtain ⟨p, hp, e⟩ := vz_mem hq; simp only [ltV, decide_eq_true_eq]; rw [e]; exact drop_ge hA k p hp), List.append_nil]
theorem vz_gt {l : ZL} (hA : Asc l) (k : ByteArray) : (VZ l).filter (gtV k) = VZ (l.drop (aboveN l k)) := by
  conv => lhs; rw [← List.take_append_drop (aboveN l k) l, vz_app, List.filter_append]
  rw [List.filter_eq_nil_iff.2 (fun q hq => by obtain ⟨p, hp, e⟩ := vz_mem hq; simp only [gtV, decide_eq_true_eq]; rw [e]; exact take_le hA k p hp), List.filter_eq_self.2 (fun q hq => by obtain ⟨p, hp, e⟩ := vz_mem hq; exact decide_eq_true (by rw [e]; exact drop_gt hA k p hp)), List.nil_append]
/-- a list about a text -/
theorem vz_split {l : ZL} (hA : Asc l) (k : ByteArray) : VZ l = (VZ l).filter (ltV k) ++ (if isV l k = true then [(k, getV l k)] else []) ++ (VZ l).filter (gtV k) := by
  rw [vz_lt hA, vz_gt hA]
  unfold aboveN isV getV
  cases hk : hasK l k with
  | false =>
    simp only [Bool.false_eq_true, if_false, List.append_nil]
    rw [← vz_app, List.take_append_drop]
  | true =>
    simp only [if_true]
    have hlt := (hasK_lt hk).1
    conv => lhs; rw [del_split hlt, vz_app, vz_cons]
    have hkey := hasK_key hk
    unfold slotV
    rw [← List.append_assoc]
    cases (l.getD (plc l k) zG).2.2.live with
    | true => simp only [if_true, vw, hkey]
    | false => simp
def vput (V : VL) (k : ByteArray) (v : PrV) : VL := V.filter (ltV k) ++ [(k, v)] ++ V.filter (gtV k)
theorem vz_put {l : ZL} (hA : Asc l) (k : ByteArray) (v : PrV) (b : Nat) : VZ (zput l k v b) = vput (VZ l) k v := by
  unfold vput
  rw [vz_lt hA, vz_gt hA]
  have hlay : ∀ s : Sl PrV, (s.lay v true).live = true ∧ (s.lay v true).get (s.lay v true).rd = v := fun s => by
    obtain ⟨c0, c1, h0, h1, rd, wr⟩ := s
    cases wr <;> exact ⟨rfl, rfl⟩
  unfold zput aboveN
  cases hk : hasK l k with
  | false =>
    simp only [Bool.false_eq_true, if_false]
    unfold insL
    rw [vz_app, vz_cons, ← List.append_assoc]
    show VZ _ ++ (if (newS.lay v true).live = true then [(k, (newS.lay v true).get (newS.lay v true).rd)] else []) ++ _ = _
    rw [(hlay newS).1, (hlay newS).2, if_pos rfl]
  | true =>
    simp only [if_true]
    have hlt := (hasK_lt hk).1
    rw [zup_split hlt, vz_app, vz_cons, ← List.append_assoc]
    show VZ _ ++ (if ((slotV l k).lay v true).live = true then [((l.getD (plc l k) zG).1, ((slotV l k).lay v true).get ((slotV l k).lay v true).rd)] else []) ++ _ = _
    rw [(hlay _).1, (hlay _).2, if_pos rfl, hasK_key hk]
theorem vz_sw (l : ZL) (g : Sl PrV → Sl PrV) (h1 : ∀ s, (g s).live = s.live) (h2 : ∀ s, (g s).get (g s).rd = s.get s.rd) : VZ (zsw l g) = VZ l := by
  unfold VZ zsw liveL
  rw [List.filter_filter, List.filter_map, List.map_map]
  have e : ((fun p : PIQ => liveZ p && p.2.2.live) ∘ gP g) = liveZ := by
    funext p
    show ((g p.2.2).live && (g p.2.2).live) = p.2.2.live
    rw [h1, Bool.and_self]
  rw [e]
  exact List.map_congr_left fun p _ => by show (p.1, (g p.2.2).get (g p.2.2).rd) = _; rw [h2]
theorem vz_mid {l : ZL} (hA : Asc l) (k : ByteArray) : (VZ l).filter (eqV k) = if isV l k = true then [(k, getV l k)] else [] := by
  have hl : ∀ q ∈ (VZ l).filter (ltV k), ¬ eqV k q = true := fun q hq => by
    have := of_decide_eq_true (List.mem_filter.1 hq).2
    simp only [eqV, decide_eq_true_eq]; omega
  have hg : ∀ q ∈ (VZ l).filter (gtV k), ¬ eqV k q = true := fun q hq => by
    have := of_decide_eq_true (List.mem_filter.1 hq).2
    simp only [eqV, decide_eq_true_eq]
    rw [cmpS_swap] at this
    omega
  conv => lhs; rw [vz_split hA k, List.filter_append, List.filter_append, List.filter_eq_nil_iff.2 hl, List.filter_eq_nil_iff.2 hg]
  cases isV l k with
  | true => simp [eqV, cmpS_self]
  | false => simp
end Go.Proofs.Yteabncomclgncaa.Pq
namespace Go.Proofs.Yteabncomclgncaa.Pq
set_option linter.unusedVariables false
set_option linter.unusedSimpArgs false
open Go.RowKit
set_option maxRecDepth 100000
set_option maxHeartbeats 8000000
def prF (l : List PrV) (i : Nat) : List AV := prA (l.getD i default)
abbrev roPr (off : Nat) (l : List PrV) : AO := .ro 1 off (l.length * 3) (rowsF 3 (prF l))
theorem rowsPr_bd (L k : Nat) (l : List PrV) (m : Nat) : ∀ i, i < m → AV.bds L (rowsF k (prF l) i) = true := fun i _ => by
  unfold rowsF prF
  split
  · rename_i v hv
    have : v ∈ prA (l.getD (i / k) default) := List.mem_of_getElem? hv
    simp only [prA, List.mem_cons, List.not_mem_nil, or_false] at this
    rcases this with rfl | rfl | rfl <;> rfl
  · rfl
theorem rowsPr_ren (r : Nat → Nat) (k : Nat) (l : List PrV) : (fun i => AV.rens r (rowsF k (prF l) i)) = rowsF k (prF l) := by
  funext i
  unfold rowsF prF
  split
  · rename_i v hv
    have : v ∈ prA (l.getD (i / k) default) := List.mem_of_getElem? hv
    simp only [prA, List.mem_cons, List.not_mem_nil, or_false] at this
    rcases this with rfl | rfl | rfl <;> rfl
  · rfl
theorem HasH.ropr {r : Nat → Nat} {L : Nat} {h rest : List (Nat × AO)} {l off : Nat} {s : List PrV} (h1 : hk (r l) h = some (roPr off s)) (h3 : Nat.ble (l + 1) L = true) (k : HasH r L h rest) : HasH r L h ((l, roPr off s) :: rest) :=
  .other h1 id (fun ρ x w hh => by simp only [AO.ren, rowsPr_ren]; exact hh) h3 (rowsPr_bd _ _ _ _) k
theorem vz_at {l : ZL} (hA : Asc l) {k : ByteArray} {v : PrV} (h : (VZ l).filter (eqV k) = [(k, v)]) : isV l k = true ∧ getV l k = v := by
  rw [vz_mid hA] at h
  cases hv : isV l k with
  | false => rw [hv, if_neg (by decide)] at h; cases h
  | true =>
    rw [hv, if_pos rfl] at h
    simp at h
    exact ⟨rfl, h⟩
theorem eqv_lt (V : VL) (k k' : ByteArray) : (V.filter (ltV k)).filter (eqV k') = if cmpS k' k < 0 then V.filter (eqV k') else [] := by
  rw [List.filter_filter]
  split
  · rename_i h
    refine List.filter_congr fun q _ => ?_
    cases he : eqV k' q with
    | false => rfl
    | true =>
      have := cmpS_zero.1 (of_decide_eq_true he)
      show (true && decide (cmpS q.1 k < 0)) = true
      rw [this, decide_eq_true h]
      rfl
  · rename_i h
    refine List.filter_eq_nil_iff.2 fun q _ e => ?_
    rw [Bool.and_eq_true] at e
    have h1 := cmpS_zero.1 (of_decide_eq_true e.1)
    have h2 : cmpS q.1 k < 0 := of_decide_eq_true e.2
    rw [h1] at h2
    exact h h2
theorem eqv_gt (V : VL) (k k' : ByteArray) : (V.filter (gtV k)).filter (eqV k') = if cmpS k k' < 0 then V.filter (eqV k') else [] := by
  rw [List.filter_filter]
  split
  · rename_i h
    refine List.filter_congr fun q _ => ?_
    cases he : eqV k' q with
    | false => rfl
    | true =>
      have := cmpS_zero.1 (of_decide_eq_true he)
      show (true && decide (cmpS k q.1 < 0)) = true
      rw [this, decide_eq_true h]
      rfl
  · rename_i h
    refine List.filter_eq_nil_iff.2 fun q _ e => ?_
    rw [Bool.and_eq_true] at e
    have h1 := cmpS_zero.1 (of_decide_eq_true e.1)
    have h2 : cmpS k q.1 < 0 := of_decide_eq_true e.2
    rw [h1] at h2
    exact h h2
theorem eqv_put (V : VL) (k k' : ByteArray) (v : PrV) : (vput V k v).filter (eqV k') = if k' = k then [(k, v)] else V.filter (eqV k') := by
  unfold vput
  rw [List.filter_append, List.filter_append, eqv_lt, eqv_gt]
  by_cases h : k' = k
  · rw [if_pos h, h, cmpS_self, if_neg (by decide), List.nil_append, List.append_nil, List.filter_cons, if_pos (show eqV k (k, v) = true from decide_eq_true (cmpS_self k))]
    rfl
  · have h1 : cmpS k' k ≠ 0 := fun e => h (cmpS_zero.1 e)
    have h2 := cmpS_swap k' k
    rw [if_neg h, List.filter_cons, if_neg (show ¬ eqV k' (k, v) = true from fun e => h (cmpS_zero.1 (of_decide_eq_true e)).symm), List.filter_nil, List.append_nil]
    by_cases hlt : cmpS k' k < 0
    · rw [if_pos hlt, if_neg (by omega), List.append_nil]
    · rw [if_neg hlt, if_pos (by omega), List.nil_append]
/-- the keys put so far have what was put last -/
def RelQ (ks : List ByteArray) (ps : List PrV) (V : VL) (i : Nat) : Prop := ∀ j, j < i → (∀ j', j < j' → j' < i → ks.getD j' noT ≠ ks.getD j noT) → V.filter (eqV (ks.getD j noT)) = [(ks.getD j noT, ps.getD (j % ps.length) default)]
theorem rel_put {ks : List ByteArray} {ps : List PrV} {V : VL} {i : Nat} (h : RelQ ks ps V i) : RelQ ks ps (vput V (ks.getD i noT) (ps.getD (i % ps.length) default)) (i + 1) := fun j hj hlast => by
  rw [eqv_put]
  rcases Nat.lt_or_ge j i with h1 | h1
  · rw [if_neg (fun e => hlast i h1 (by omega) e.symm)]
    exact h j h1 fun j' h2 h3 => hlast j' h2 (by omega)
  · obtain rfl : j = i := by omega
    rw [if_pos rfl]
/-- is a key not named again up to a place? -/
def lastB (ks : List ByteArray) (i j : Nat) : Bool := ((ks.take j).drop (i + 1)).all fun k => decide (k.toList ≠ (ks.getD i noT).toList)
theorem lastB_step {ks : List ByteArray} {i j : Nat} (h1 : i + 1 ≤ j) (h : j < ks.length) : lastB ks i (j + 1) = (lastB ks i j && decide ((ks.getD j noT).toList ≠ (ks.getD i noT).toList)) := by
  unfold lastB
  rw [List.take_succ_eq_append_getElem h, List.drop_append_of_le_length (by rw [List.length_take]; omega), List.all_append]
  congr 1
  rw [show ks.getD j noT = ks[j] by rw [List.getD_eq_getElem?_getD, List.getElem?_eq_getElem h]; rfl]
  simp
theorem lastB_self (ks : List ByteArray) (i : Nat) : lastB ks i (i + 1) = true := by
  unfold lastB
  rw [List.drop_eq_nil_of_le (by rw [List.length_take]; omega)]
  rfl
theorem lastB_all {ks : List ByteArray} {i : Nat} (h : lastB ks i ks.length = true) : ∀ j', i < j' → j' < ks.length → ks.getD j' noT ≠ ks.getD i noT := fun j' h1 h2 e => by
  unfold lastB at h
  rw [List.take_length, List.all_eq_true] at h
  have hm : ks.getD j' noT ∈ ks.drop (i + 1) := by
    rw [List.getD_eq_getElem?_getD, List.getElem?_eq_getElem h2]
    exact List.mem_iff_getElem.2 ⟨j' - (i + 1), by rw [List.length_drop]; omega, by rw [List.getElem_drop]; congr 1; omega⟩
  have := h _ hm
  rw [e] at this
  exact absurd rfl (of_decide_eq_true this)
theorem zputN_bd (l : ZL) (k : ByteArray) (hs : Int) : hs - 1 ≤ zputN l k hs ∧ zputN l k hs ≤ hs + 1 := by
  unfold zputN
  rw [layN_eq]
  cases isV l k <;> simp [b01] <;> omega
structure AnS where
  i : Nat
  l : ZL
  c : Nat
  h : Int
  m : Bool
structure AnS.ok (s : AnS) (ks : List ByteArray) (ps : List PrV) : Prop where
  hi : s.i ≤ ks.length
  hA : Asc s.l
  hl : s.l.length ≤ s.i
  hc : s.l.length ≤ s.c
  hc2 : s.c ≤ 9223372036854775807
  hb : -(s.i : Int) ≤ s.h
  hb2 : s.h ≤ s.i
  rel : RelQ ks ps (VZ s.l) s.i
  hm : s.m = decide (ks.length / 2 < s.i)
section
variable (ks : List ByteArray) (ps : List PrV) (ok op ck cp : Nat)
theorem zigzagAny_law (hks : ks.length ≤ 9223372036854775807) (hps : ps.length ≤ 9223372036854775807) :
    Spec Try.prog 3 [.sl 0 1 ok ks.length ck, .sl 1 1 op ps.length cp] [roX ok ks, roPr op ps] 2 (σ := Unit) (fun _ => True) (fun _ => .raw (.bool true)) (fun _ => []) := by
  refine Spec.ofF Try.func3 rfl Try.ntmps3 rfl (bdl_cons (rowsX_bd _ _ _ _) (bdl_cons (rowsPr_bd _ _ _ _) (bdl_nil _))) fun ρ w => ?_
  repeat (first | refine C.seq ?_ | refine C.region ?_ | refine R.zb ttok ?_ | refine R.zu ttok ?_ | refine R.zc ttok ?_ | refine R.za ttok ?_ | refine R.zx ?_ | refine R.zl ttok ?_ | refine R.zs ttok ?_ | refine R.z ttok ?_ | refine R.zk ?_ | refine R.zn ?_ | refine R.done ?_ | refine X.then ?_ | refine C.block ?_ | refine C.ret ?_ | refine C.skip ?_ | refine C.exit ?_ | refine X.pass_ret ?_ | refine X.pass_exit ?_ | refine X.block_normal ?_ | refine X.block_ret ?_ | refine X.block_exit ?_ | refine C.zt ?_ | refine C.zf ?_ | refine X.zo ?_)
  by_cases h60 : ((ks.length : Nat) : Int) > 60
  · rw [decide_eq_true h60]
    repeat (first | refine C.seq ?_ | refine C.region ?_ | refine R.zb ttok ?_ | refine R.zu ttok ?_ | refine R.zc ttok ?_ | refine R.za ttok ?_ | refine R.zx ?_ | refine R.zl ttok ?_ | refine R.zs ttok ?_ | refine R.z ttok ?_ | refine R.zk ?_ | refine R.zn ?_ | refine R.done ?_ | refine X.then ?_ | refine C.block ?_ | refine C.ret ?_ | refine C.skip ?_ | refine C.exit ?_ | refine X.pass_ret ?_ | refine X.pass_exit ?_ | refine X.block_normal ?_ | refine X.block_ret ?_ | refine X.block_exit ?_ | refine C.zt ?_ | refine C.zf ?_ | refine X.zo ?_)
    refine R.clF [] (known_specZ) (Nat.le_refl _) (fun _ _ => rfl) Try.call11 (by repeat (first | exact HasIn.nil | refine HasIn.same rfl rfl ?_ | refine HasIn.bro rfl ?_ | refine HasIn.ror rfl ?_ | refine HasIn.cro rfl rfl ?_)) rfl rfl rfl (fun _ => rfl) rfl (by kernel_rfl) fun _ _ => ?_
    repeat (first | refine C.seq ?_ | refine C.region ?_ | refine R.zb ttok ?_ | refine R.zu ttok ?_ | refine R.zc ttok ?_ | refine R.za ttok ?_ | refine R.zx ?_ | refine R.zl ttok ?_ | refine R.zs ttok ?_ | refine R.z ttok ?_ | refine R.zk ?_ | refine R.zn ?_ | refine R.done ?_ | refine X.then ?_ | refine C.block ?_ | refine C.ret ?_ | refine C.skip ?_ | refine C.exit ?_ | refine X.pass_ret ?_ | refine X.pass_exit ?_ | refine X.block_normal ?_ | refine X.block_ret ?_ | refine X.block_exit ?_ | refine C.zt ?_ | refine C.zf ?_ | refine X.zo ?_)
    refine X.finS ttok () [] trivial rfl rfl rfl (by repeat (first | exact HasH.nil | refine HasH.same rfl rfl rfl trivial ?_ | refine HasH.same rfl rfl rfl rfl ?_ | refine HasH.same rfl rfl rfl (fun _ _ => rfl) ?_ | refine HasH.ros rfl rfl ?_)) _ (by first | exact .inl rfl | exact .inr rfl)
  rw [decide_eq_false h60]
  repeat (first | refine C.seq ?_ | refine C.region ?_ | refine R.zb ttok ?_ | refine R.zu ttok ?_ | refine R.zc ttok ?_ | refine R.za ttok ?_ | refine R.zx ?_ | refine R.zl ttok ?_ | refine R.zs ttok ?_ | refine R.z ttok ?_ | refine R.zk ?_ | refine R.zn ?_ | refine R.done ?_ | refine X.then ?_ | refine C.block ?_ | refine C.ret ?_ | refine C.skip ?_ | refine C.exit ?_ | refine X.pass_ret ?_ | refine X.pass_exit ?_ | refine X.block_normal ?_ | refine X.block_ret ?_ | refine X.block_exit ?_ | refine C.zt ?_ | refine C.zf ?_ | refine X.zo ?_)
  by_cases h0 : ((ps.length : Nat) : Int) = 0
  · rw [decide_eq_true h0]
    repeat (first | refine C.seq ?_ | refine C.region ?_ | refine R.zb ttok ?_ | refine R.zu ttok ?_ | refine R.zc ttok ?_ | refine R.za ttok ?_ | refine R.zx ?_ | refine R.zl ttok ?_ | refine R.zs ttok ?_ | refine R.z ttok ?_ | refine R.zk ?_ | refine R.zn ?_ | refine R.done ?_ | refine X.then ?_ | refine C.block ?_ | refine C.ret ?_ | refine C.skip ?_ | refine C.exit ?_ | refine X.pass_ret ?_ | refine X.pass_exit ?_ | refine X.block_normal ?_ | refine X.block_ret ?_ | refine X.block_exit ?_ | refine C.zt ?_ | refine C.zf ?_ | refine X.zo ?_)
    refine R.clF [] (known_specZ) (Nat.le_refl _) (fun _ _ => rfl) Try.call11 (by repeat (first | exact HasIn.nil | refine HasIn.same rfl rfl ?_ | refine HasIn.bro rfl ?_ | refine HasIn.ror rfl ?_ | refine HasIn.cro rfl rfl ?_)) rfl rfl rfl (fun _ => rfl) rfl (by kernel_rfl) fun _ _ => ?_
    repeat (first | refine C.seq ?_ | refine C.region ?_ | refine R.zb ttok ?_ | refine R.zu ttok ?_ | refine R.zc ttok ?_ | refine R.za ttok ?_ | refine R.zx ?_ | refine R.zl ttok ?_ | refine R.zs ttok ?_ | refine R.z ttok ?_ | refine R.zk ?_ | refine R.zn ?_ | refine R.done ?_ | refine X.then ?_ | refine C.block ?_ | refine C.ret ?_ | refine C.skip ?_ | refine C.exit ?_ | refine X.pass_ret ?_ | refine X.pass_exit ?_ | refine X.block_normal ?_ | refine X.block_ret ?_ | refine X.block_exit ?_ | refine C.zt ?_ | refine C.zf ?_ | refine X.zo ?_)
    refine X.finS ttok () [] trivial rfl rfl rfl (by repeat (first | exact HasH.nil | refine HasH.same rfl rfl rfl trivial ?_ | refine HasH.same rfl rfl rfl rfl ?_ | refine HasH.same rfl rfl rfl (fun _ _ => rfl) ?_ | refine HasH.ros rfl rfl ?_)) _ (by first | exact .inl rfl | exact .inr rfl)
  rw [decide_eq_false h0]
  have hk60 : ks.length ≤ 60 := by omega
  have hp0 : 0 < ps.length := by omega
  repeat (first | refine C.seq ?_ | refine C.region ?_ | refine R.zb ttok ?_ | refine R.zu ttok ?_ | refine R.zc ttok ?_ | refine R.za ttok ?_ | refine R.zx ?_ | refine R.zl ttok ?_ | refine R.zs ttok ?_ | refine R.z ttok ?_ | refine R.zk ?_ | refine R.zn ?_ | refine R.done ?_ | refine X.then ?_ | refine C.block ?_ | refine C.ret ?_ | refine C.skip ?_ | refine C.exit ?_ | refine X.pass_ret ?_ | refine X.pass_exit ?_ | refine X.block_normal ?_ | refine X.block_ret ?_ | refine X.block_exit ?_ | refine C.zt ?_ | refine C.zf ?_ | refine X.zo ?_)
  refine R.cl [] (new_specQ) Try.call12 (by repeat (first | exact HasIn.nil | refine HasIn.same rfl rfl ?_ | refine HasIn.bro rfl ?_ | refine HasIn.ror rfl ?_ | refine HasIn.cro rfl rfl ?_)) rfl rfl rfl (fun _ => rfl) rfl (by kernel_rfl) fun _ _ => ?_
  repeat (first | refine C.seq ?_ | refine C.region ?_ | refine R.zb ttok ?_ | refine R.zu ttok ?_ | refine R.zc ttok ?_ | refine R.za ttok ?_ | refine R.zx ?_ | refine R.zl ttok ?_ | refine R.zs ttok ?_ | refine R.z ttok ?_ | refine R.zk ?_ | refine R.zn ?_ | refine R.done ?_ | refine X.then ?_ | refine C.block ?_ | refine C.ret ?_ | refine C.skip ?_ | refine C.exit ?_ | refine X.pass_ret ?_ | refine X.pass_exit ?_ | refine X.block_normal ?_ | refine X.block_ret ?_ | refine X.block_exit ?_ | refine C.zt ?_ | refine C.zf ?_ | refine X.zo ?_)
  refine C.noneH 2 [.sl 3 2 0 ([] : ZL).length 0, .raw (.int .i64 0), .raw (.bool false)] (tIQ [] 0) (none_tab _ _ _ _) rfl rfl rfl (fun ρ h => by have h : ρ 3 = none := h; show [(AV.sl 3 2 0 0 0).conc ρ, _, _] = [Value.slice none 0 0, _, _]; simp [AV.conc, AV.concs, h]; try exact ⟨rfl, rfl⟩) ?_
  refine C.loopG (σ := AnS) (L2 := 5) (fun s => s.ok ks ps) (fun s => [(0, .sl 0 1 ok ks.length ck), (1, .sl 1 1 op ps.length cp), (5, .ptr 2 0 0 0), (6, .raw (.int .i64 (s.i : Nat)))]) (fun s => [(0, roX ok ks), (1, roPr op ps), (2, tbIQ 4 s.l.length s.c s.h s.m), (4, tIQ s.l s.c)]) (fun s => FF [roX ok ks, roPr op ps] ρ w [] (zF s.l)) (fun s => ks.length - s.i) [(4, 3)] ⟨0, [], 0, 0, false⟩ ⟨Nat.zero_le _, List.Pairwise.nil, Nat.le_refl _, Nat.le_refl _, Nat.zero_le _, by decide, by decide, fun j hj => absurd hj (Nat.not_lt_zero j), by simp⟩ rfl (by repeat (first | exact HasT.nil | refine HasT.cons rfl rfl rfl ?_)) (by repeat (first | exact HasH.nil | refine HasH.same rfl rfl rfl rfl ?_ | refine HasH.same rfl rfl rfl (fun _ _ => rfl) ?_ | refine HasH.rox rfl rfl ?_ | refine HasH.ropr rfl rfl ?_)) rfl (fun _ h => h) ?_
  rintro ⟨i, l, c, hs, mk⟩ ⟨hi, hA, hl, hc, hc2, hb, hb2, hrel, hm⟩
  dsimp only at hi hA hl hc hc2 hb hb2 hrel hm ⊢
  repeat (first | refine C.seq ?_ | refine C.region ?_ | refine R.zb ttok ?_ | refine R.zu ttok ?_ | refine R.zc ttok ?_ | refine R.za ttok ?_ | refine R.zx ?_ | refine R.zl ttok ?_ | refine R.zs ttok ?_ | refine R.z ttok ?_ | refine R.zk ?_ | refine R.zn ?_ | refine R.done ?_ | refine X.then ?_ | refine C.block ?_ | refine C.ret ?_ | refine C.skip ?_ | refine C.exit ?_ | refine X.pass_ret ?_ | refine X.pass_exit ?_ | refine X.block_normal ?_ | refine X.block_ret ?_ | refine X.block_exit ?_ | refine C.zt ?_ | refine C.zf ?_ | refine X.zo ?_)
  by_cases hlt : (i : Int) < (ks.length : Nat)
  · rw [decide_eq_true hlt]
    have hlt : i < ks.length := by omega
    have hmod : i % ps.length < ps.length := Nat.mod_lt _ hp0
    repeat (first | refine C.seq ?_ | refine C.region ?_ | refine R.zb ttok ?_ | refine R.zu ttok ?_ | refine R.zc ttok ?_ | refine R.za ttok ?_ | refine R.zx ?_ | refine R.zl ttok ?_ | refine R.zs ttok ?_ | refine R.z ttok ?_ | refine R.zk ?_ | refine R.zn ?_ | refine R.done ?_ | refine X.then ?_ | refine C.block ?_ | refine C.ret ?_ | refine C.skip ?_ | refine C.exit ?_ | refine X.pass_ret ?_ | refine X.pass_exit ?_ | refine X.block_normal ?_ | refine X.block_ret ?_ | refine X.block_exit ?_ | refine C.zt ?_ | refine C.zf ?_ | refine X.zo ?_)
    refine C.draw [[], [], [], [1, 2], [1, 2, 3], [], [], [], [7], [6, 7, 8], [5, 6, 7, 8, 9], [5, 6, 7, 8, 9, 10], [0, 1, 2, 3, 4, 5, 6, 7, 8, 9, 10, 11]] [12] (by kernel_rfl) (by kernel_rfl) ?_
    repeat (first | refine C.seq ?_ | refine C.region ?_ | refine R.zb ttok ?_ | refine R.zu ttok ?_ | refine R.zc ttok ?_ | refine R.za ttok ?_ | refine R.zx ?_ | refine R.zl ttok ?_ | refine R.zs ttok ?_ | refine R.z ttok ?_ | refine R.zk ?_ | refine R.zn ?_ | refine R.done ?_ | refine X.then ?_ | refine C.block ?_ | refine C.ret ?_ | refine C.skip ?_ | refine C.exit ?_ | refine X.pass_ret ?_ | refine X.pass_exit ?_ | refine X.block_normal ?_ | refine X.block_ret ?_ | refine X.block_exit ?_ | refine C.zt ?_ | refine C.zf ?_ | refine X.zo ?_)
    refine R.ix1 ttok (i) rfl rfl rfl rfl rfl rfl rfl (by omega) (⟨by omega, by omega⟩ : ok ≤ ok + (i) * 1 ∧ ok + (i) * 1 < ok + ks.length * 1) rfl ?_
    repeat (first | refine C.seq ?_ | refine C.region ?_ | refine R.zb ttok ?_ | refine R.zu ttok ?_ | refine R.zc ttok ?_ | refine R.za ttok ?_ | refine R.zx ?_ | refine R.zl ttok ?_ | refine R.zs ttok ?_ | refine R.z ttok ?_ | refine R.zk ?_ | refine R.zn ?_ | refine R.done ?_ | refine X.then ?_ | refine C.block ?_ | refine C.ret ?_ | refine C.skip ?_ | refine C.exit ?_ | refine X.pass_ret ?_ | refine X.pass_exit ?_ | refine X.block_normal ?_ | refine X.block_ret ?_ | refine X.block_exit ?_ | refine C.zt ?_ | refine C.zf ?_ | refine X.zo ?_)
    refine R.ldr1 (v := .raw (.string (ks.getD (i) noT))) ttok (i) rfl rfl rfl rfl rfl rfl rfl rfl (by decide) (by omega) ?_
    repeat (first | refine C.seq ?_ | refine C.region ?_ | refine R.zb ttok ?_ | refine R.zu ttok ?_ | refine R.zc ttok ?_ | refine R.za ttok ?_ | refine R.zx ?_ | refine R.zl ttok ?_ | refine R.zs ttok ?_ | refine R.z ttok ?_ | refine R.zk ?_ | refine R.zn ?_ | refine R.done ?_ | refine X.then ?_ | refine C.block ?_ | refine C.ret ?_ | refine C.skip ?_ | refine C.exit ?_ | refine X.pass_ret ?_ | refine X.pass_exit ?_ | refine X.block_normal ?_ | refine X.block_ret ?_ | refine X.block_exit ?_ | refine C.zt ?_ | refine C.zf ?_ | refine X.zo ?_)
    refine R.rem (((i) % ps.length : Nat) : Int) rfl rfl rfl rfl (by omega) (Int.ofNat_tmod (i) ps.length) ?_
    refine R.ix1 ttok ((i) % ps.length) rfl rfl rfl rfl rfl rfl rfl hmod (⟨by omega, by omega⟩ : op ≤ op + ((i) % ps.length) * 3 ∧ op + ((i) % ps.length) * 3 < op + ps.length * 3) rfl ?_
    refine R.ldr1 (v := .agg (prA (ps.getD ((i) % ps.length) default))) ttok ((i) % ps.length) rfl rfl rfl rfl rfl rfl rfl rfl (by decide) (by omega) ?_
    refine R.clF [2, 4] (put_specQ l c (ks.getD i noT) (ps.getD (i % ps.length) default) hs mk hA (by omega) hc hc2 (by omega) (by omega)) (Nat.le_refl _) (fun _ _ => rfl) Try.call13 (by repeat (first | exact HasIn.nil | refine HasIn.same rfl rfl ?_ | refine HasIn.c1 rfl rfl ?_ | refine HasIn.roq rfl rfl ?_ | refine HasIn.other rfl (fun e => by cases e) (fun ρ x w hh => tab_ro hh) ?_ | refine HasIn.other rfl (fun e => by cases e) (fun ρ x w hh => tab_any hh) ?_ | refine HasIn.roAp rfl rfl ?_ | refine HasIn.other rfl (fun e => by cases e) (fun ρ x w hh => cells_any hh) ?_ | refine HasIn.other rfl (fun e => by cases e) (fun ρ x w hh => ro_any hh) ?_)) rfl rfl rfl (fun _ => rfl) rfl (by kernel_rfl) fun q hq => ?_
    have hpa := asc_put hA (ks.getD i noT) (ps.getD (i % ps.length) default) q.2
    have hpl := put_le l (ks.getD i noT) (ps.getD (i % ps.length) default) q.2
    have hpv := vz_put hA (ks.getD i noT) (ps.getD (i % ps.length) default) q.2
    have hpn := zputN_bd l (ks.getD i noT) hs
    have hpr := rel_put hrel
    rw [← hpv] at hpr
    obtain ⟨l2, hl2⟩ : ∃ l2, zput l (ks.getD i noT) (ps.getD (i % ps.length) default) q.2 = l2 := ⟨_, rfl⟩
    obtain ⟨h2, hh2⟩ : ∃ h2, zputN l (ks.getD i noT) hs = h2 := ⟨_, rfl⟩
    rw [hl2] at hpa hpl hpr hq ⊢
    rw [hh2] at hpn ⊢
    repeat (first | refine C.seq ?_ | refine C.region ?_ | refine R.zb ttok ?_ | refine R.zu ttok ?_ | refine R.zc ttok ?_ | refine R.za ttok ?_ | refine R.zx ?_ | refine R.zl ttok ?_ | refine R.zs ttok ?_ | refine R.z ttok ?_ | refine R.zk ?_ | refine R.zn ?_ | refine R.done ?_ | refine X.then ?_ | refine C.block ?_ | refine C.ret ?_ | refine C.skip ?_ | refine C.exit ?_ | refine X.pass_ret ?_ | refine X.pass_exit ?_ | refine X.block_normal ?_ | refine X.block_ret ?_ | refine X.block_exit ?_ | refine C.zt ?_ | refine C.zf ?_ | refine X.zo ?_)
    refine R.quo ((ks.length / 2 : Nat) : Int) rfl rfl rfl rfl (by decide) (by rw [show ((ks.length : Nat) : Int).tdiv 2 = ((ks.length / 2 : Nat) : Int) from Int.ofNat_tdiv ks.length 2]; exact wrap_i64 (by omega) (by omega)) ?_
    repeat (first | refine C.seq ?_ | refine C.region ?_ | refine R.zb ttok ?_ | refine R.zu ttok ?_ | refine R.zc ttok ?_ | refine R.za ttok ?_ | refine R.zx ?_ | refine R.zl ttok ?_ | refine R.zs ttok ?_ | refine R.z ttok ?_ | refine R.zk ?_ | refine R.zn ?_ | refine R.done ?_ | refine X.then ?_ | refine C.block ?_ | refine C.ret ?_ | refine C.skip ?_ | refine C.exit ?_ | refine X.pass_ret ?_ | refine X.pass_exit ?_ | refine X.block_normal ?_ | refine X.block_ret ?_ | refine X.block_exit ?_ | refine C.zt ?_ | refine C.zf ?_ | refine X.zo ?_)
    by_cases hmid : (i : Int) = ((ks.length / 2 : Nat) : Int)
    · rw [decide_eq_true hmid]
      have hmid : i = ks.length / 2 := by omega
      obtain rfl : mk = false := by rw [hm]; exact decide_eq_false (by omega)
      repeat (first | refine C.seq ?_ | refine C.region ?_ | refine R.zb ttok ?_ | refine R.zu ttok ?_ | refine R.zc ttok ?_ | refine R.za ttok ?_ | refine R.zx ?_ | refine R.zl ttok ?_ | refine R.zs ttok ?_ | refine R.z ttok ?_ | refine R.zk ?_ | refine R.zn ?_ | refine R.done ?_ | refine X.then ?_ | refine C.block ?_ | refine C.ret ?_ | refine C.skip ?_ | refine C.exit ?_ | refine X.pass_ret ?_ | refine X.pass_exit ?_ | refine X.block_normal ?_ | refine X.block_ret ?_ | refine X.block_exit ?_ | refine C.zt ?_ | refine C.zf ?_ | refine X.zo ?_)
      refine R.clF [2, 5] (mark_specQ l2 q.1 h2 false hpa (by omega) hq.1 hq.2) (Nat.le_refl _) (fun _ _ => rfl) Try.call14 (by repeat (first | exact HasIn.nil | refine HasIn.same rfl rfl ?_ | refine HasIn.c1 rfl rfl ?_ | refine HasIn.roq rfl rfl ?_ | refine HasIn.other rfl (fun e => by cases e) (fun ρ x w hh => tab_ro hh) ?_ | refine HasIn.other rfl (fun e => by cases e) (fun ρ x w hh => tab_any hh) ?_ | refine HasIn.roAp rfl rfl ?_ | refine HasIn.other rfl (fun e => by cases e) (fun ρ x w hh => cells_any hh) ?_ | refine HasIn.other rfl (fun e => by cases e) (fun ρ x w hh => ro_any hh) ?_)) rfl rfl rfl (fun _ => rfl) rfl (by kernel_rfl) fun G hG => ?_
      refine R.dropG ?_
      have hzv := vz_sw l2 Sl.mark (fun s => (mark_held s).1) (fun s => rfl)
      have hza := asc_zsw hpa Sl.mark
      have hzl := zsw_len l2 Sl.mark
      rw [← hzv] at hpr
      rw [show (if false = true then l2 else zsw l2 Sl.mark) = zsw l2 Sl.mark from rfl]
      repeat (first | refine C.seq ?_ | refine C.region ?_ | refine R.zb ttok ?_ | refine R.zu ttok ?_ | refine R.zc ttok ?_ | refine R.za ttok ?_ | refine R.zx ?_ | refine R.zl ttok ?_ | refine R.zs ttok ?_ | refine R.z ttok ?_ | refine R.zk ?_ | refine R.zn ?_ | refine R.done ?_ | refine X.then ?_ | refine C.block ?_ | refine C.ret ?_ | refine C.skip ?_ | refine C.exit ?_ | refine X.pass_ret ?_ | refine X.pass_exit ?_ | refine X.block_normal ?_ | refine X.block_ret ?_ | refine X.block_exit ?_ | refine C.zt ?_ | refine C.zf ?_ | refine X.zo ?_)
      exact X.backG [(4, 6)] ⟨i + 1, zsw l2 Sl.mark, q.1, h2, true⟩ ⟨hlt, hza, by show (zsw l2 Sl.mark).length ≤ i + 1; omega, by show (zsw l2 Sl.mark).length ≤ q.1; omega, hq.2, by show -((i + 1 : Nat) : Int) ≤ h2; omega, by show h2 ≤ ((i + 1 : Nat) : Int); omega, hpr, (decide_eq_true (by show ks.length / 2 < i + 1; omega)).symm⟩ (by dsimp only; omega) rfl (by repeat (first | exact HasT.nil | refine HasT.cons rfl rfl rfl ?_)) (by repeat (first | exact HasH.nil | refine HasH.same rfl rfl rfl rfl ?_ | refine HasH.same rfl rfl rfl (fun _ _ => rfl) ?_ | refine HasH.rox rfl rfl ?_ | refine HasH.ropr rfl rfl ?_)) rfl (fun _ h => h)
    · rw [decide_eq_false hmid]
      repeat (first | refine C.seq ?_ | refine C.region ?_ | refine R.zb ttok ?_ | refine R.zu ttok ?_ | refine R.zc ttok ?_ | refine R.za ttok ?_ | refine R.zx ?_ | refine R.zl ttok ?_ | refine R.zs ttok ?_ | refine R.z ttok ?_ | refine R.zk ?_ | refine R.zn ?_ | refine R.done ?_ | refine X.then ?_ | refine C.block ?_ | refine C.ret ?_ | refine C.skip ?_ | refine C.exit ?_ | refine X.pass_ret ?_ | refine X.pass_exit ?_ | refine X.block_normal ?_ | refine X.block_ret ?_ | refine X.block_exit ?_ | refine C.zt ?_ | refine C.zf ?_ | refine X.zo ?_)
      exact X.backG [(4, 5)] ⟨i + 1, l2, q.1, h2, mk⟩ ⟨hlt, hpa, by show l2.length ≤ i + 1; omega, hq.1, hq.2, by show -((i + 1 : Nat) : Int) ≤ h2; omega, by show h2 ≤ ((i + 1 : Nat) : Int); omega, hpr, by rw [hm]; exact decide_eq_decide.2 (by show ks.length / 2 < i ↔ ks.length / 2 < i + 1; omega)⟩ (by dsimp only; omega) rfl (by repeat (first | exact HasT.nil | refine HasT.cons rfl rfl rfl ?_)) (by repeat (first | exact HasH.nil | refine HasH.same rfl rfl rfl rfl ?_ | refine HasH.same rfl rfl rfl (fun _ _ => rfl) ?_ | refine HasH.rox rfl rfl ?_ | refine HasH.ropr rfl rfl ?_)) rfl (fun _ h => h)
  rw [decide_eq_false hlt]
  obtain rfl : i = ks.length := by omega
  repeat (first | refine C.seq ?_ | refine C.region ?_ | refine R.zb ttok ?_ | refine R.zu ttok ?_ | refine R.zc ttok ?_ | refine R.za ttok ?_ | refine R.zx ?_ | refine R.zl ttok ?_ | refine R.zs ttok ?_ | refine R.z ttok ?_ | refine R.zk ?_ | refine R.zn ?_ | refine R.done ?_ | refine X.then ?_ | refine C.block ?_ | refine C.ret ?_ | refine C.skip ?_ | refine C.exit ?_ | refine X.pass_ret ?_ | refine X.pass_exit ?_ | refine X.block_normal ?_ | refine X.block_ret ?_ | refine X.block_exit ?_ | refine C.zt ?_ | refine C.zf ?_ | refine X.zo ?_)
  refine C.loop (σ := Nat) (L2 := 5) (fun m => m ≤ ks.length) (fun m => [(0, .sl 0 1 ok ks.length ck), (1, .sl 1 1 op ps.length cp), (5, .ptr 2 0 0 0), (7, .raw (.int .i64 ((m : Int) - 1)))]) (fun _ => [(0, roX ok ks), (1, roPr op ps), (2, tbIQ 4 l.length c hs mk), (4, tIQ l c)]) _ (fun m => m) [] ks.length (Nat.le_refl _) rfl (by repeat (first | exact HasT.nil | refine HasT.cons rfl rfl rfl ?_)) (by repeat (first | exact HasH.nil | refine HasH.same rfl rfl rfl rfl ?_ | refine HasH.same rfl rfl rfl (fun _ _ => rfl) ?_ | refine HasH.rox rfl rfl ?_ | refine HasH.ropr rfl rfl ?_)) rfl (fun _ h => h) ?_
  clear hi hlt
  rintro m hm
  repeat (first | refine C.seq ?_ | refine C.region ?_ | refine R.zb ttok ?_ | refine R.zu ttok ?_ | refine R.zc ttok ?_ | refine R.za ttok ?_ | refine R.zx ?_ | refine R.zl ttok ?_ | refine R.zs ttok ?_ | refine R.z ttok ?_ | refine R.zk ?_ | refine R.zn ?_ | refine R.done ?_ | refine X.then ?_ | refine C.block ?_ | refine C.ret ?_ | refine C.skip ?_ | refine C.exit ?_ | refine X.pass_ret ?_ | refine X.pass_exit ?_ | refine X.block_normal ?_ | refine X.block_ret ?_ | refine X.block_exit ?_ | refine C.zt ?_ | refine C.zf ?_ | refine X.zo ?_)
  by_cases hpos : (m : Int) - 1 ≥ 0
  · rw [decide_eq_true hpos]
    obtain ⟨i, rfl⟩ : ∃ i, m = i + 1 := ⟨m - 1, by omega⟩
    have hi : i < ks.length := hm
    have hmod : i % ps.length < ps.length := Nat.mod_lt _ hp0
    rw [show ((i + 1 : Nat) : Int) - 1 = (i : Int) by omega]
    repeat (first | refine C.seq ?_ | refine C.region ?_ | refine R.zb ttok ?_ | refine R.zu ttok ?_ | refine R.zc ttok ?_ | refine R.za ttok ?_ | refine R.zx ?_ | refine R.zl ttok ?_ | refine R.zs ttok ?_ | refine R.z ttok ?_ | refine R.zk ?_ | refine R.zn ?_ | refine R.done ?_ | refine X.then ?_ | refine C.block ?_ | refine C.ret ?_ | refine C.skip ?_ | refine C.exit ?_ | refine X.pass_ret ?_ | refine X.pass_exit ?_ | refine X.block_normal ?_ | refine X.block_ret ?_ | refine X.block_exit ?_ | refine C.zt ?_ | refine C.zf ?_ | refine X.zo ?_)
    refine C.loop (σ := Nat) (L2 := 5) (fun j => i + 1 ≤ j ∧ j ≤ ks.length) (fun j => [(0, .sl 0 1 ok ks.length ck), (1, .sl 1 1 op ps.length cp), (5, .ptr 2 0 0 0), (7, .raw (.int .i64 (i : Nat))), (8, .raw (.bool (lastB ks i j))), (9, .raw (.int .i64 (j : Nat)))]) (fun _ => [(0, roX ok ks), (1, roPr op ps), (2, tbIQ 4 l.length c hs mk), (4, tIQ l c)]) _ (fun j => ks.length - j) [] (i + 1) ⟨Nat.le_refl _, hi⟩ rfl (by rw [lastB_self]; exact (by repeat (first | exact HasT.nil | refine HasT.cons rfl rfl rfl ?_))) (by repeat (first | exact HasH.nil | refine HasH.same rfl rfl rfl rfl ?_ | refine HasH.same rfl rfl rfl (fun _ _ => rfl) ?_ | refine HasH.rox rfl rfl ?_ | refine HasH.ropr rfl rfl ?_)) rfl (fun _ h => h) ?_
    rintro j ⟨hj1, hj2⟩
    repeat (first | refine C.seq ?_ | refine C.region ?_ | refine R.zb ttok ?_ | refine R.zu ttok ?_ | refine R.zc ttok ?_ | refine R.za ttok ?_ | refine R.zx ?_ | refine R.zl ttok ?_ | refine R.zs ttok ?_ | refine R.z ttok ?_ | refine R.zk ?_ | refine R.zn ?_ | refine R.done ?_ | refine X.then ?_ | refine C.block ?_ | refine C.ret ?_ | refine C.skip ?_ | refine C.exit ?_ | refine X.pass_ret ?_ | refine X.pass_exit ?_ | refine X.block_normal ?_ | refine X.block_ret ?_ | refine X.block_exit ?_ | refine C.zt ?_ | refine C.zf ?_ | refine X.zo ?_)
    by_cases hltj : (j : Int) < (ks.length : Nat)
    · rw [decide_eq_true hltj]
      have hltj : j < ks.length := by omega
      have hst := lastB_step hj1 hltj
      cases hsb : lastB ks i j with
      | false =>
        rw [hsb, Bool.false_and] at hst
        repeat (first | refine C.seq ?_ | refine C.region ?_ | refine R.zb ttok ?_ | refine R.zu ttok ?_ | refine R.zc ttok ?_ | refine R.za ttok ?_ | refine R.zx ?_ | refine R.zl ttok ?_ | refine R.zs ttok ?_ | refine R.z ttok ?_ | refine R.zk ?_ | refine R.zn ?_ | refine R.done ?_ | refine X.then ?_ | refine C.block ?_ | refine C.ret ?_ | refine C.skip ?_ | refine C.exit ?_ | refine X.pass_ret ?_ | refine X.pass_exit ?_ | refine X.block_normal ?_ | refine X.block_ret ?_ | refine X.block_exit ?_ | refine C.zt ?_ | refine C.zf ?_ | refine X.zo ?_)
        refine C.draw [[], [0], [0, 1], [0, 1], [0, 1, 2, 3], [0, 1, 2, 3, 4], [0, 1], [0, 1], [0, 1, 6, 7], [0, 1, 6, 7, 8], [0, 1, 2, 3, 4, 5, 6, 7, 8, 9], [0, 1, 2, 3, 4, 5, 6, 7, 8, 9, 10], [0, 1, 2, 3, 4, 5, 6, 7, 8, 9, 10, 11]] [] (by kernel_rfl) (by kernel_rfl) ?_
        repeat (first | refine C.seq ?_ | refine C.region ?_ | refine R.zb ttok ?_ | refine R.zu ttok ?_ | refine R.zc ttok ?_ | refine R.za ttok ?_ | refine R.zx ?_ | refine R.zl ttok ?_ | refine R.zs ttok ?_ | refine R.z ttok ?_ | refine R.zk ?_ | refine R.zn ?_ | refine R.done ?_ | refine X.then ?_ | refine C.block ?_ | refine C.ret ?_ | refine C.skip ?_ | refine C.exit ?_ | refine X.pass_ret ?_ | refine X.pass_exit ?_ | refine X.block_normal ?_ | refine X.block_ret ?_ | refine X.block_exit ?_ | refine C.zt ?_ | refine C.zf ?_ | refine X.zo ?_)
        exact X.back [] (j + 1) ⟨by omega, hltj⟩ (by omega) rfl (by rw [hst]; exact (by repeat (first | exact HasT.nil | refine HasT.cons rfl rfl rfl ?_))) (by repeat (first | exact HasH.nil | refine HasH.same rfl rfl rfl rfl ?_ | refine HasH.same rfl rfl rfl (fun _ _ => rfl) ?_ | refine HasH.rox rfl rfl ?_ | refine HasH.ropr rfl rfl ?_)) rfl (fun _ h => h)
      | true =>
        rw [hsb, Bool.true_and] at hst
        repeat (first | refine C.seq ?_ | refine C.region ?_ | refine R.zb ttok ?_ | refine R.zu ttok ?_ | refine R.zc ttok ?_ | refine R.za ttok ?_ | refine R.zx ?_ | refine R.zl ttok ?_ | refine R.zs ttok ?_ | refine R.z ttok ?_ | refine R.zk ?_ | refine R.zn ?_ | refine R.done ?_ | refine X.then ?_ | refine C.block ?_ | refine C.ret ?_ | refine C.skip ?_ | refine C.exit ?_ | refine X.pass_ret ?_ | refine X.pass_exit ?_ | refine X.block_normal ?_ | refine X.block_ret ?_ | refine X.block_exit ?_ | refine C.zt ?_ | refine C.zf ?_ | refine X.zo ?_)
        refine C.draw [[], [0], [0, 1], [0, 1], [0, 1, 2, 3], [0, 1, 2, 3, 4], [0, 1], [0, 1], [0, 1, 6, 7], [0, 1, 6, 7, 8], [0, 1, 2, 3, 4, 5, 6, 7, 8, 9], [0, 1, 2, 3, 4, 5, 6, 7, 8, 9, 10], [0, 1, 2, 3, 4, 5, 6, 7, 8, 9, 10, 11]] [] (by kernel_rfl) (by kernel_rfl) ?_
        repeat (first | refine C.seq ?_ | refine C.region ?_ | refine R.zb ttok ?_ | refine R.zu ttok ?_ | refine R.zc ttok ?_ | refine R.za ttok ?_ | refine R.zx ?_ | refine R.zl ttok ?_ | refine R.zs ttok ?_ | refine R.z ttok ?_ | refine R.zk ?_ | refine R.zn ?_ | refine R.done ?_ | refine X.then ?_ | refine C.block ?_ | refine C.ret ?_ | refine C.skip ?_ | refine C.exit ?_ | refine X.pass_ret ?_ | refine X.pass_exit ?_ | refine X.block_normal ?_ | refine X.block_ret ?_ | refine X.block_exit ?_ | refine C.zt ?_ | refine C.zf ?_ | refine X.zo ?_)
        refine R.ix1 ttok (j) rfl rfl rfl rfl rfl rfl rfl (by omega) (⟨by omega, by omega⟩ : ok ≤ ok + (j) * 1 ∧ ok + (j) * 1 < ok + ks.length * 1) rfl ?_
        repeat (first | refine C.seq ?_ | refine C.region ?_ | refine R.zb ttok ?_ | refine R.zu ttok ?_ | refine R.zc ttok ?_ | refine R.za ttok ?_ | refine R.zx ?_ | refine R.zl ttok ?_ | refine R.zs ttok ?_ | refine R.z ttok ?_ | refine R.zk ?_ | refine R.zn ?_ | refine R.done ?_ | refine X.then ?_ | refine C.block ?_ | refine C.ret ?_ | refine C.skip ?_ | refine C.exit ?_ | refine X.pass_ret ?_ | refine X.pass_exit ?_ | refine X.block_normal ?_ | refine X.block_ret ?_ | refine X.block_exit ?_ | refine C.zt ?_ | refine C.zf ?_ | refine X.zo ?_)
        refine R.ldr1 (v := .raw (.string (ks.getD (j) noT))) ttok (j) rfl rfl rfl rfl rfl rfl rfl rfl (by decide) (by omega) ?_
        repeat (first | refine C.seq ?_ | refine C.region ?_ | refine R.zb ttok ?_ | refine R.zu ttok ?_ | refine R.zc ttok ?_ | refine R.za ttok ?_ | refine R.zx ?_ | refine R.zl ttok ?_ | refine R.zs ttok ?_ | refine R.z ttok ?_ | refine R.zk ?_ | refine R.zn ?_ | refine R.done ?_ | refine X.then ?_ | refine C.block ?_ | refine C.ret ?_ | refine C.skip ?_ | refine C.exit ?_ | refine X.pass_ret ?_ | refine X.pass_exit ?_ | refine X.block_normal ?_ | refine X.block_ret ?_ | refine X.block_exit ?_ | refine C.zt ?_ | refine C.zf ?_ | refine X.zo ?_)
        refine R.ix1 ttok (i) rfl rfl rfl rfl rfl rfl rfl (by omega) (⟨by omega, by omega⟩ : ok ≤ ok + (i) * 1 ∧ ok + (i) * 1 < ok + ks.length * 1) rfl ?_
        repeat (first | refine C.seq ?_ | refine C.region ?_ | refine R.zb ttok ?_ | refine R.zu ttok ?_ | refine R.zc ttok ?_ | refine R.za ttok ?_ | refine R.zx ?_ | refine R.zl ttok ?_ | refine R.zs ttok ?_ | refine R.z ttok ?_ | refine R.zk ?_ | refine R.zn ?_ | refine R.done ?_ | refine X.then ?_ | refine C.block ?_ | refine C.ret ?_ | refine C.skip ?_ | refine C.exit ?_ | refine X.pass_ret ?_ | refine X.pass_exit ?_ | refine X.block_normal ?_ | refine X.block_ret ?_ | refine X.block_exit ?_ | refine C.zt ?_ | refine C.zf ?_ | refine X.zo ?_)
        refine R.ldr1 (v := .raw (.string (ks.getD (i) noT))) ttok (i) rfl rfl rfl rfl rfl rfl rfl rfl (by decide) (by omega) ?_
        repeat (first | refine C.seq ?_ | refine C.region ?_ | refine R.zb ttok ?_ | refine R.zu ttok ?_ | refine R.zc ttok ?_ | refine R.za ttok ?_ | refine R.zx ?_ | refine R.zl ttok ?_ | refine R.zs ttok ?_ | refine R.z ttok ?_ | refine R.zk ?_ | refine R.zn ?_ | refine R.done ?_ | refine X.then ?_ | refine C.block ?_ | refine C.ret ?_ | refine C.skip ?_ | refine C.exit ?_ | refine X.pass_ret ?_ | refine X.pass_exit ?_ | refine X.block_normal ?_ | refine X.block_ret ?_ | refine X.block_exit ?_ | refine C.zt ?_ | refine C.zf ?_ | refine X.zo ?_)
        exact X.back [] (j + 1) ⟨by omega, hltj⟩ (by omega) rfl (by rw [hst]; exact (by repeat (first | exact HasT.nil | refine HasT.cons rfl rfl rfl ?_))) (by repeat (first | exact HasH.nil | refine HasH.same rfl rfl rfl rfl ?_ | refine HasH.same rfl rfl rfl (fun _ _ => rfl) ?_ | refine HasH.rox rfl rfl ?_ | refine HasH.ropr rfl rfl ?_)) rfl (fun _ h => h)
    rw [decide_eq_false hltj]
    obtain rfl : j = ks.length := by omega
    have hrr := hrel i hi
    repeat (first | refine C.seq ?_ | refine C.region ?_ | refine R.zb ttok ?_ | refine R.zu ttok ?_ | refine R.zc ttok ?_ | refine R.za ttok ?_ | refine R.zx ?_ | refine R.zl ttok ?_ | refine R.zs ttok ?_ | refine R.z ttok ?_ | refine R.zk ?_ | refine R.zn ?_ | refine R.done ?_ | refine X.then ?_ | refine C.block ?_ | refine C.ret ?_ | refine C.skip ?_ | refine C.exit ?_ | refine X.pass_ret ?_ | refine X.pass_exit ?_ | refine X.block_normal ?_ | refine X.block_ret ?_ | refine X.block_exit ?_ | refine C.zt ?_ | refine C.zf ?_ | refine X.zo ?_)
    refine R.ix1 ttok (i) rfl rfl rfl rfl rfl rfl rfl (by omega) (⟨by omega, by omega⟩ : ok ≤ ok + (i) * 1 ∧ ok + (i) * 1 < ok + ks.length * 1) rfl ?_
    repeat (first | refine C.seq ?_ | refine C.region ?_ | refine R.zb ttok ?_ | refine R.zu ttok ?_ | refine R.zc ttok ?_ | refine R.za ttok ?_ | refine R.zx ?_ | refine R.zl ttok ?_ | refine R.zs ttok ?_ | refine R.z ttok ?_ | refine R.zk ?_ | refine R.zn ?_ | refine R.done ?_ | refine X.then ?_ | refine C.block ?_ | refine C.ret ?_ | refine C.skip ?_ | refine C.exit ?_ | refine X.pass_ret ?_ | refine X.pass_exit ?_ | refine X.block_normal ?_ | refine X.block_ret ?_ | refine X.block_exit ?_ | refine C.zt ?_ | refine C.zf ?_ | refine X.zo ?_)
    refine R.ldr1 (v := .raw (.string (ks.getD (i) noT))) ttok (i) rfl rfl rfl rfl rfl rfl rfl rfl (by decide) (by omega) ?_
    repeat (first | refine C.seq ?_ | refine C.region ?_ | refine R.zb ttok ?_ | refine R.zu ttok ?_ | refine R.zc ttok ?_ | refine R.za ttok ?_ | refine R.zx ?_ | refine R.zl ttok ?_ | refine R.zs ttok ?_ | refine R.z ttok ?_ | refine R.zk ?_ | refine R.zn ?_ | refine R.done ?_ | refine X.then ?_ | refine C.block ?_ | refine C.ret ?_ | refine C.skip ?_ | refine C.exit ?_ | refine X.pass_ret ?_ | refine X.pass_exit ?_ | refine X.block_normal ?_ | refine X.block_ret ?_ | refine X.block_exit ?_ | refine C.zt ?_ | refine C.zf ?_ | refine X.zo ?_)
    refine R.clF [2, 4] (get_specQ l c (ks.getD i noT) hA (by omega)) (Nat.le_refl _) (fun _ _ => rfl) Try.call15 (by repeat (first | exact HasIn.nil | refine HasIn.same rfl rfl ?_ | refine HasIn.c1 rfl rfl ?_ | refine HasIn.roq rfl rfl ?_ | refine HasIn.other rfl (fun e => by cases e) (fun ρ x w hh => tab_ro hh) ?_ | refine HasIn.other rfl (fun e => by cases e) (fun ρ x w hh => tab_any hh) ?_ | refine HasIn.roAp rfl rfl ?_ | refine HasIn.other rfl (fun e => by cases e) (fun ρ x w hh => cells_any hh) ?_ | refine HasIn.other rfl (fun e => by cases e) (fun ρ x w hh => ro_any hh) ?_)) rfl rfl rfl (fun _ => rfl) rfl (by kernel_rfl) fun _ _ => ?_
    repeat (first | refine C.seq ?_ | refine C.region ?_ | refine R.zb ttok ?_ | refine R.zu ttok ?_ | refine R.zc ttok ?_ | refine R.za ttok ?_ | refine R.zx ?_ | refine R.zl ttok ?_ | refine R.zs ttok ?_ | refine R.z ttok ?_ | refine R.zk ?_ | refine R.zn ?_ | refine R.done ?_ | refine X.then ?_ | refine C.block ?_ | refine C.ret ?_ | refine C.skip ?_ | refine C.exit ?_ | refine X.pass_ret ?_ | refine X.pass_exit ?_ | refine X.block_normal ?_ | refine X.block_ret ?_ | refine X.block_exit ?_ | refine C.zt ?_ | refine C.zf ?_ | refine X.zo ?_)
    refine R.rem (((i) % ps.length : Nat) : Int) rfl rfl rfl rfl (by omega) (Int.ofNat_tmod (i) ps.length) ?_
    refine R.ix1 ttok ((i) % ps.length) rfl rfl rfl rfl rfl rfl rfl hmod (⟨by omega, by omega⟩ : op ≤ op + ((i) % ps.length) * 3 ∧ op + ((i) % ps.length) * 3 < op + ps.length * 3) rfl ?_
    refine R.ldr1 (v := .agg (prA (ps.getD ((i) % ps.length) default))) ttok ((i) % ps.length) rfl rfl rfl rfl rfl rfl rfl rfl (by decide) (by omega) ?_
    cases hsb : lastB ks i ks.length with
    | false =>
      repeat (first | refine C.seq ?_ | refine C.region ?_ | refine R.zb ttok ?_ | refine R.zu ttok ?_ | refine R.zc ttok ?_ | refine R.za ttok ?_ | refine R.zx ?_ | refine R.zl ttok ?_ | refine R.zs ttok ?_ | refine R.z ttok ?_ | refine R.zk ?_ | refine R.zn ?_ | refine R.done ?_ | refine X.then ?_ | refine C.block ?_ | refine C.ret ?_ | refine C.skip ?_ | refine C.exit ?_ | refine X.pass_ret ?_ | refine X.pass_exit ?_ | refine X.block_normal ?_ | refine X.block_ret ?_ | refine X.block_exit ?_ | refine C.zt ?_ | refine C.zf ?_ | refine X.zo ?_)
      exact X.back [] i (by omega) (by omega) rfl (by repeat (first | exact HasT.nil | refine HasT.cons rfl rfl rfl ?_)) (by repeat (first | exact HasH.nil | refine HasH.same rfl rfl rfl rfl ?_ | refine HasH.same rfl rfl rfl (fun _ _ => rfl) ?_ | refine HasH.rox rfl rfl ?_ | refine HasH.ropr rfl rfl ?_)) rfl (fun _ h => h)
    | true =>
      obtain ⟨g1, g2⟩ := vz_at hA (hrr (lastB_all hsb))
      rw [g1, g2]
      obtain ⟨v, hv⟩ : ∃ v, ps.getD (i % ps.length) default = v := ⟨_, rfl⟩
      rw [hv]
      repeat (first | refine C.seq ?_ | refine C.region ?_ | refine R.zb ttok ?_ | refine R.zu ttok ?_ | refine R.zc ttok ?_ | refine R.za ttok ?_ | refine R.zx ?_ | refine R.zl ttok ?_ | refine R.zs ttok ?_ | refine R.z ttok ?_ | refine R.zk ?_ | refine R.zn ?_ | refine R.done ?_ | refine X.then ?_ | refine C.block ?_ | refine C.ret ?_ | refine C.skip ?_ | refine C.exit ?_ | refine X.pass_ret ?_ | refine X.pass_exit ?_ | refine X.block_normal ?_ | refine X.block_ret ?_ | refine X.block_exit ?_ | refine C.zt ?_ | refine C.zf ?_ | refine X.zo ?_)
      rw [decide_eq_false (show ¬ v.name.toList ≠ v.name.toList from fun h => h rfl)]
      repeat (first | refine C.seq ?_ | refine C.region ?_ | refine R.zb ttok ?_ | refine R.zu ttok ?_ | refine R.zc ttok ?_ | refine R.za ttok ?_ | refine R.zx ?_ | refine R.zl ttok ?_ | refine R.zs ttok ?_ | refine R.z ttok ?_ | refine R.zk ?_ | refine R.zn ?_ | refine R.done ?_ | refine X.then ?_ | refine C.block ?_ | refine C.ret ?_ | refine C.skip ?_ | refine C.exit ?_ | refine X.pass_ret ?_ | refine X.pass_exit ?_ | refine X.block_normal ?_ | refine X.block_ret ?_ | refine X.block_exit ?_ | refine C.zt ?_ | refine C.zf ?_ | refine X.zo ?_)
      rw [decide_eq_false (show ¬ v.args ≠ v.args from fun h => h rfl)]
      repeat (first | refine C.seq ?_ | refine C.region ?_ | refine R.zb ttok ?_ | refine R.zu ttok ?_ | refine R.zc ttok ?_ | refine R.za ttok ?_ | refine R.zx ?_ | refine R.zl ttok ?_ | refine R.zs ttok ?_ | refine R.z ttok ?_ | refine R.zk ?_ | refine R.zn ?_ | refine R.done ?_ | refine X.then ?_ | refine C.block ?_ | refine C.ret ?_ | refine C.skip ?_ | refine C.exit ?_ | refine X.pass_ret ?_ | refine X.pass_exit ?_ | refine X.block_normal ?_ | refine X.block_ret ?_ | refine X.block_exit ?_ | refine C.zt ?_ | refine C.zf ?_ | refine X.zo ?_)
      rw [decide_eq_false (show ¬ (v.cn : Int) ≠ (v.cn : Int) from fun h => h rfl)]
      repeat (first | refine C.seq ?_ | refine C.region ?_ | refine R.zb ttok ?_ | refine R.zu ttok ?_ | refine R.zc ttok ?_ | refine R.za ttok ?_ | refine R.zx ?_ | refine R.zl ttok ?_ | refine R.zs ttok ?_ | refine R.z ttok ?_ | refine R.zk ?_ | refine R.zn ?_ | refine R.done ?_ | refine X.then ?_ | refine C.block ?_ | refine C.ret ?_ | refine C.skip ?_ | refine C.exit ?_ | refine X.pass_ret ?_ | refine X.pass_exit ?_ | refine X.block_normal ?_ | refine X.block_ret ?_ | refine X.block_exit ?_ | refine C.zt ?_ | refine C.zf ?_ | refine X.zo ?_)
      exact X.back [] i (by omega) (by omega) rfl (by repeat (first | exact HasT.nil | refine HasT.cons rfl rfl rfl ?_)) (by repeat (first | exact HasH.nil | refine HasH.same rfl rfl rfl rfl ?_ | refine HasH.same rfl rfl rfl (fun _ _ => rfl) ?_ | refine HasH.rox rfl rfl ?_ | refine HasH.ropr rfl rfl ?_)) rfl (fun _ h => h)
  · rw [decide_eq_false hpos]
    repeat (first | refine C.seq ?_ | refine C.region ?_ | refine R.zb ttok ?_ | refine R.zu ttok ?_ | refine R.zc ttok ?_ | refine R.za ttok ?_ | refine R.zx ?_ | refine R.zl ttok ?_ | refine R.zs ttok ?_ | refine R.z ttok ?_ | refine R.zk ?_ | refine R.zn ?_ | refine R.done ?_ | refine X.then ?_ | refine C.block ?_ | refine C.ret ?_ | refine C.skip ?_ | refine C.exit ?_ | refine X.pass_ret ?_ | refine X.pass_exit ?_ | refine X.block_normal ?_ | refine X.block_ret ?_ | refine X.block_exit ?_ | refine C.zt ?_ | refine C.zf ?_ | refine X.zo ?_)
    refine R.wkD (fun w hf => FF.nil1 hf) ?_
    refine R.clF [] (known_specZ) (Nat.le_refl _) (fun _ _ => rfl) Try.call11 (by repeat (first | exact HasIn.nil | refine HasIn.same rfl rfl ?_ | refine HasIn.bro rfl ?_ | refine HasIn.ror rfl ?_ | refine HasIn.cro rfl rfl ?_)) rfl rfl rfl (fun _ => rfl) rfl (by kernel_rfl) fun _ _ => ?_
    repeat (first | refine C.seq ?_ | refine C.region ?_ | refine R.zb ttok ?_ | refine R.zu ttok ?_ | refine R.zc ttok ?_ | refine R.za ttok ?_ | refine R.zx ?_ | refine R.zl ttok ?_ | refine R.zs ttok ?_ | refine R.z ttok ?_ | refine R.zk ?_ | refine R.zn ?_ | refine R.done ?_ | refine X.then ?_ | refine C.block ?_ | refine C.ret ?_ | refine C.skip ?_ | refine C.exit ?_ | refine X.pass_ret ?_ | refine X.pass_exit ?_ | refine X.block_normal ?_ | refine X.block_ret ?_ | refine X.block_exit ?_ | refine C.zt ?_ | refine C.zf ?_ | refine X.zo ?_)
    refine X.finS ttok () [] trivial rfl rfl rfl (by repeat (first | exact HasH.nil | refine HasH.same rfl rfl rfl trivial ?_ | refine HasH.same rfl rfl rfl rfl ?_ | refine HasH.same rfl rfl rfl (fun _ _ => rfl) ?_ | refine HasH.ros rfl rfl ?_)) _ (by first | exact .inl rfl | exact .inr rfl)
end
end Go.Proofs.Yteabncomclgncaa.Pq
namespace Go.Proofs.Yteabncomclgncaa
set_option linter.unusedVariables false
set_option linter.unusedSimpArgs false
open Go.ChangeShapes Go.WideShapes Go.ChangeAt Go.RowKit
set_option maxRecDepth 100000
set_option maxHeartbeats 4000000
/-- a leaf, or a slice that is not looked into -/
inductive LK where
  | l (k : LF) | sl
def LK.ok : LK → Value → Prop
  | .l k, v => k.ok v
  | .sl, v => ∃ a n c, v = .slice a n c
def LK.of (P : Program) (t : TypeId) : Option LK := match LF.of P t with
  | some k => some (.l k)
  | none => match P.underlying t with
    | some (.slice _) => some .sl
    | _ => none
theorem leaf_ok2 {H : Type} {enc : TypeId × Value → H} {P : Program} {W : World} {t : TypeId} {k : LK} {fuel : Nat} {v : Value} {x : DataW H × List MemPlace} (hk : LK.of P t = some k)
    (h : DataW.trod enc P W 0 (fun _ => true) true fuel t [v] = some x) : k.ok v := by
  unfold LK.of at hk
  split at hk
  · rename_i k' hk'
    cases hk
    exact leaf_ok hk' h
  · split at hk
    · rename_i e he
      cases hk
      rcases DataW.trod_slice he h with ⟨hcs, _⟩ | ⟨x, l, c, elems, rest, n, _, hcs, _⟩
      · cases hcs; exact ⟨_, _, _, rfl⟩
      · cases hcs; exact ⟨_, _, _, rfl⟩
    · cases hk
theorem struct_leafs2 {H : Type} {enc : TypeId × Value → H} {P : Program} {W : World} {t : TypeId} {fs : Array Field} {ks : List LK} {fuel : Nat} {cs : List Value} {x : DataW H × List MemPlace} (ht : P.underlying t = some (.struct fs))
    (ho : fs.toList.map (·.offset) = List.range ks.length) (hc : fs.toList.map (fun f => P.cellsOf f.type) = ks.map fun _ => 1) (hk : fs.toList.map (fun f => LK.of P f.type) = ks.map some) (h : DataW.trod enc P W 0 (fun _ => true) true fuel t cs = some x) (hl : cs.length = ks.length) :
    ∀ (j : Nat) (k : LK), ks[j]? = some k → ∃ v, cs[j]? = some v ∧ k.ok v := by
  obtain ⟨xs, n, _, _, _, hx, he⟩ := DataW.trod_struct ht h
  intro j k hj
  have hjl := (List.getElem?_eq_some_iff.1 hj).1
  have hk' := congrArg (fun l => l[j]?) hk
  simp only [List.getElem?_map, hj, Option.map_some] at hk'
  cases hf : fs.toList[j]? with
  | none => rw [hf] at hk'; cases hk'
  | some f =>
    rw [hf] at hk'
    simp only [Option.map_some, Option.some.injEq] at hk'
    have ho' := congrArg (fun l => l[j]?) ho
    have hc' := congrArg (fun l => l[j]?) hc
    simp only [List.getElem?_map, hj, hf, Option.map_some, Option.some.injEq] at ho' hc'
    rw [List.getElem?_range hjl, Option.some.injEq] at ho'
    have hjs : j < xs.length := by
      have := (List.getElem?_eq_some_iff.1 hf).1
      simp at this
      omega
    have h1 := he j f (by simpa using hf)
    rw [ho', hc', List.getElem?_eq_getElem hjs] at h1
    have h2 : j < cs.length := by omega
    have h3 : (cs.drop j).take 1 = [cs[j]] := by
      rw [List.drop_eq_getElem_cons h2]; rfl
    rw [h3] at h1
    exact ⟨cs[j], List.getElem?_eq_getElem h2, leaf_ok2 hk' h1⟩
theorem read_procs {H : Type} {enc : TypeId × Value → H} {W : World} {b0 : Nat} {a : Option Addr} {len cap : Nat} {d : DataW H} {ps : List MemPlace} (hu : Try.prog.underlying 23 = some (.slice 29))
    (hval : Value.okWide Try.prog W .any b0 23 (.slice a len cap)) (h : DataW.Trod enc Try.prog W 0 (fun _ => true) true 23 (.slice a len cap) d ps) :
    ∃ (r : Option Nat) (off : Nat) (l : List Pq.PrV), a = r.map (fun b => ⟨b, off, none⟩) ∧ l.length = len ∧ True ∧ len ≤ cap ∧ cap ≤ 9223372036854775807 ∧ (∀ b, r = some b → b < W.heap.size) ∧ ∀ ρ, (Pq.roPr off l).holds ρ r W := by
  obtain ⟨r, off, rows, ha, h1, h2, h3, h4, h5⟩ := read_rows hu (k := 3) (by kernel_rfl) hval h
  have each : ∀ i, i < len → ∃ x : Pq.PrV, rows i = [.string x.name, .int .i64 x.args, .slice x.ca x.cn x.cc] := fun i hi => by
    obtain ⟨hl, fuel, y, hy⟩ := h5 i hi
    have hs := struct_leafs2 (ks := [.l .s, .l (.i .i64), .sl]) Try.underlying29 (by kernel_rfl) (by kernel_rfl) (by kernel_rfl) hy (by rw [hl]; rfl)
    obtain ⟨v0, e0, s0, rfl, w0⟩ := hs 0 _ rfl
    obtain ⟨v1, e1, n1, rfl, w1⟩ := hs 1 _ rfl
    obtain ⟨v2, e2, a2, b2, c2, rfl⟩ := hs 2 _ rfl
    refine ⟨⟨s0, n1, a2, b2, c2⟩, ?_⟩
    match hr : rows i, hl, e0, e1, e2 with
    | [a, b, c], _, e0, e1, e2 =>
      simp only [List.getElem?_cons_zero, List.getElem?_cons_succ, Option.some.injEq] at e0 e1 e2
      rw [e0, e1, e2]
  let g : Nat → Pq.PrV := fun i => if hi : i < len then Classical.choose (each i hi) else default
  have hg : ∀ i, i < len → rows i = AV.concs (fun _ => none) (Pq.prA (g i)) := fun i hi => by
    have := Classical.choose_spec (each i hi)
    simp only [g, hi, dif_pos]
    exact this
  have hlen : ((List.range len).map g).length = len := by simp
  have hget : ∀ i, i < len → Pq.prF ((List.range len).map g) i = Pq.prA (g i) := fun i hi => by
    unfold Pq.prF
    congr 1
    simp [List.getD, hi]
  refine ⟨r, off, (List.range len).map g, ha, hlen, trivial, h1, h2, fun b hb => ?_, fun ρ => ?_⟩
  · obtain ⟨cur, ty, fr, h6, _⟩ := h4 b hb
    exact (Array.getElem?_eq_some_iff.1 h6).1
  · show (AO.ro 1 off (((List.range len).map g).length * 3) (rowsF 3 (Pq.prF ((List.range len).map g)))).holds ρ r W
    rw [hlen]
    exact rows_ro (by omega) ρ (fun i hi => (h5 i hi).1) (fun i hi => by rw [hget i hi, hg i hi]; rfl) (fun h => (h3 h).1) h4
theorem read_texts {H : Type} {enc : TypeId × Value → H} {W : World} {b0 : Nat} {a : Option Addr} {len cap : Nat} {d : DataW H} {ps : List MemPlace} (hu : Try.prog.underlying 22 = some (.slice 9))
    (hval : Value.okWide Try.prog W .any b0 22 (.slice a len cap)) (h : DataW.Trod enc Try.prog W 0 (fun _ => true) true 22 (.slice a len cap) d ps) :
    ∃ (r : Option Nat) (off : Nat) (l : List ByteArray), a = r.map (fun b => ⟨b, off, none⟩) ∧ l.length = len ∧ (∀ x ∈ l, x.size ≤ 9223372036854775807) ∧ len ≤ cap ∧ cap ≤ 9223372036854775807 ∧ (∀ b, r = some b → b < W.heap.size) ∧ ∀ ρ, (roX off l).holds ρ r W := by
  obtain ⟨r, off, rows, ha, h1, h2, h3, h4, h5⟩ := read_rows hu (k := 1) (by kernel_rfl) hval h
  have each : ∀ i, i < len → ∃ x : ByteArray, x.size ≤ 9223372036854775807 ∧ rows i = [.string x] := fun i hi => by
    obtain ⟨hl, fuel, y, hy⟩ := h5 i hi
    match hr : rows i, hl with
    | [v], _ =>
      rw [hr] at hy
      obtain ⟨x, rfl, hx⟩ := leaf_ok (k := .s) (by kernel_rfl) hy
      exact ⟨x, hx, rfl⟩
  let g : Nat → ByteArray := fun i => if hi : i < len then Classical.choose (each i hi) else noT
  have hg : ∀ i, i < len → (g i).size ≤ 9223372036854775807 ∧ rows i = [.string (g i)] := fun i hi => by
    have := Classical.choose_spec (each i hi)
    simp only [g, hi, dif_pos]
    exact this
  have hlen : ((List.range len).map g).length = len := by simp
  have hget : ∀ i, i < len → txF ((List.range len).map g) i = [.raw (.string (g i))] := fun i hi => by
    unfold txF
    congr 3
    simp [List.getD, hi]
  refine ⟨r, off, (List.range len).map g, ha, hlen, fun x hx => by
    obtain ⟨i, hi, rfl⟩ := List.mem_map.1 hx
    exact (hg i (List.mem_range.1 hi)).1, h1, h2, fun b hb => ?_, fun ρ => ?_⟩
  · obtain ⟨cur, ty, fr, h6, _⟩ := h4 b hb
    exact (Array.getElem?_eq_some_iff.1 h6).1
  · show (AO.ro 1 off (((List.range len).map g).length * 1) (rowsF 1 (txF ((List.range len).map g)))).holds ρ r W
    rw [hlen]
    exact rows_ro (by omega) ρ (fun i hi => (h5 i hi).1) (fun i hi => by rw [hget i hi, (hg i hi).2]; rfl) (fun h => (h3 h).1) h4
end Go.Proofs.Yteabncomclgncaa
