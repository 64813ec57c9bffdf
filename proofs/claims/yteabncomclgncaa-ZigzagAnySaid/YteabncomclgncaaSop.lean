/- Texts of the claim, merged: only what the theorem needs. -/
import Derived.Test.YteabncomclgncaaSoo
namespace Go.Proofs.Yteabncomclgncaa
set_option linter.unusedVariables false
set_option linter.unusedSimpArgs false
open Go.RowKit
set_option maxRecDepth 100000
set_option maxHeartbeats 4000000
section
variable {P : Program} {ops : Array Oper} {Q : Exit → Act → World → Prop} {D : Option DD} {E : Base} {n L : Nat} {τ : List (Nat × AV)} {h : List (Nat × AO)} {rest : List Oper} {H0 : List AO} {R0 : Env} {W0 : World} {FS0 fs : Fam}
theorem zfact_ap {p : PIZ} {fs2 : Fam} (hap : ApF fs) (hperm : fs.Perm (zfact p :: fs2)) : (∀ q ∈ fs2, q ∈ fs ∧ q.b ≠ p.2.1) ∧ ApF fs2 := by
  have h := apf_perm hperm hap
  unfold ApF at h
  rw [List.pairwise_cons] at h
  refine ⟨fun q hq => ⟨hperm.symm.subset (List.mem_cons_of_mem _ hq), fun e => ?_⟩, h.2⟩
  have := (h.1 q hq e.symm).1
  cases this
/-- a slot gets a label that may be written -/
theorem C.thawZ {c : Code} (hN : H0.length ≤ E.N) (hE : ∀ l, l < H0.length → E.ρ l = R0 l) (hrob : roH H0 h = true) (p : PIZ) (fs2 : Fam) (hperm : fs.Perm (zfact p :: fs2)) (hEL : E.N ≤ L)
    (k : ∀ ρ1 : Env, (∀ l, l < E.N → ρ1 l = E.ρ l) → ρ1 L = some p.2.1 → C P c Q ⟨L + 1, ρ1, E.df⟩ n (L + 1) τ ((L, slC p.2.2) :: h) (FF H0 R0 W0 FS0 fs2)) : C P c Q E n L τ h (FF H0 R0 W0 FS0 fs) :=
  C.fact (p := ApF fs) (fun ρ a w g => g.ff.ap) fun hap => C.thaw hN hE hrob (zfact p) fs2 (hperm.symm.subset List.mem_cons_self) rfl (zfact_ap hap hperm).1 (zfact_ap hap hperm).2 (slC p.2.2) rfl (is_slC _ _) rfl hEL k
theorem is_cells {b : Nat} {ob : Obj} {ρ : Env} {w : World} {s : Sl Int} (hw : w.heap[b]? = some ob) (h : (slC s).holds ρ (some b) w) : Is b ob (slC s) := fun ρ' w' hw' => by
  obtain ⟨b', e, hb⟩ := h
  cases e
  exact ⟨b, rfl, hw'.trans (hw.symm.trans hb)⟩
theorem C.frzZ {c : Code} (l : Nat) {b : Nat} {s : Sl Int} (hl : hk l h = some (slC s)) (hlN : l < E.N) (hb : E.ρ l = some b) (k : (∀ p ∈ fs, p.b ≠ b) → C P c Q E n L τ ((l, .gone) :: h) (FF H0 R0 W0 FS0 (⟨true, b, slOb s⟩ :: fs))) : C P c Q E n L τ h (FF H0 R0 W0 FS0 fs) :=
  C.frzP (o' := slC s) true l hl rfl hlN hb (fun ρ ob w h1 h2 => is_cells h1 h2) fun ob hob hne => by rw [slC_is hob]; exact k hne
theorem X.frzZ {e : Exit} (l : Nat) {b : Nat} {s : Sl Int} (hl : hk l h = some (slC s)) (hlN : l < E.N) (hb : E.ρ l = some b) (k : (∀ p ∈ fs, p.b ≠ b) → X Q e E n L τ ((l, .gone) :: h) (FF H0 R0 W0 FS0 (⟨true, b, slOb s⟩ :: fs))) : X Q e E n L τ h (FF H0 R0 W0 FS0 fs) :=
  X.frzP (o' := slC s) true l hl rfl hlN hb (fun ρ ob w h1 h2 => is_cells h1 h2) fun ob hob hne => by rw [slC_is hob]; exact k hne
/-- a slot just laid becomes a fact -/
theorem R.frzZ (t l : Nat) {s : Sl Int} (hl : hk l h = some (slC s)) (hv : lk t τ = some (.ptr l 0 0 0)) (k : ∀ b, (∀ p ∈ fs, p.b ≠ b) → R P ops Q none E n L ((t, .raw (.pointer (some ⟨b, 0, none⟩))) :: τ) ((l, .gone) :: h) (FF H0 R0 W0 FS0 (⟨true, b, slOb s⟩ :: fs)) rest) : R P ops Q none E n L τ h (FF H0 R0 W0 FS0 fs) rest :=
  R.frz (o' := slC s) true t l (fun b => .pointer (some ⟨b, 0, none⟩)) hl rfl hv (fun ρ b hb => by simp [AV.conc, hb]) (fun ρ b ob w hb h1 h2 => is_cells h1 h2) (fun ρ w h => by obtain ⟨b, hb, _⟩ := h; rw [hb]; simp) fun b ob hob hne => by rw [slC_is hob]; exact k b hne
end
/-- all blocks that may be written are told of still -/
def Cov (fs fs' : Fam) : Prop := ∀ p ∈ fs, p.rw = true → BlF fs' p.b
theorem Cov.refl (fs : Fam) : Cov fs fs := fun p hp _ => ⟨p, hp, rfl⟩
theorem Cov.perm {a b : Fam} (h : a.Perm b) : Cov a b := fun p hp _ => ⟨p, h.subset hp, rfl⟩
theorem Cov.right {a b c : Fam} (h : Cov a b) (hs : ∀ p ∈ b, p ∈ c) : Cov a c := fun p hp hr => by
  obtain ⟨q, hq, e⟩ := h p hp hr
  exact ⟨q, hs q hq, e⟩
def newS : Sl Int := ⟨0, 0, false, false, false, true⟩
def zput (l : ZL) (k : ByteArray) (v : Int) (b : Nat) : ZL := if hasK l k = true then zup l (plc l k) ((slotV l k).lay v true) else insL l (plc l k) (k, b, newS.lay v true)
def zputN (l : ZL) (k : ByteArray) (hs : Int) : Int := layN hs (isV l k) true
def zdel (l : ZL) (k : ByteArray) (mk : Bool) : ZL := if isV l k = true then (if mk then zup l (plc l k) ((slotV l k).lay 0 false) else delL l (plc l k)) else l
def zdelN (l : ZL) (k : ByteArray) (hs : Int) : Int := if isV l k = true then layN hs true false else hs
section
variable (l : ZL) (c : Nat) (k : ByteArray)
theorem put_specZ (v hs : Int) (mk : Bool) (hA : Asc l) (hl : l.length ≤ 900000) (hc : l.length ≤ c) (hc2 : c ≤ 9223372036854775807) (h1 : -1000000 ≤ hs) (h2 : hs ≤ 1000000000) :
    SpecF Try.prog 36 [.ptr 0 0 0 0, .raw (.string k), .raw (.int .i64 v)] [tbIZ 1 l.length c hs mk, tIZ l c] 3 (zF l) (σ := Nat × Nat) (fun s => (zput l k v s.2).length ≤ s.1 ∧ s.1 ≤ 9223372036854775807)
    (fun _ => .tup []) (fun s => [(0, tbIZ 2 (zput l k v s.2).length s.1 (zputN l k hs) mk), (2, tIZ (zput l k v s.2) s.1)]) (fun s => zF (zput l k v s.2)) := by
  refine SpecF.of Try.func36 rfl Try.ntmps36 rfl (bdl_cons rfl (bdl_cons (fun _ _ => rfl) (bdl_nil _))) fun ρ w => ?_
  have hp := plc_le l k
  repeat (first | refine C.seq ?_ | refine C.region ?_ | refine R.zb ttok ?_ | refine R.zu ttok ?_ | refine R.zc ttok ?_ | refine R.za ttok ?_ | refine R.zx ?_ | refine R.zl ttok ?_ | refine R.zs ttok ?_ | refine R.z ttok ?_ | refine R.zk ?_ | refine R.zn ?_ | refine R.done ?_ | refine X.then ?_ | refine C.block ?_ | refine C.ret ?_ | refine C.skip ?_ | refine C.exit ?_ | refine X.pass_ret ?_ | refine X.pass_exit ?_ | refine X.block_normal ?_ | refine X.block_ret ?_ | refine X.block_exit ?_ | refine C.zt ?_ | refine C.zf ?_ | refine X.zo ?_)
  refine R.cl [0, 1] (getI_specZ l c k hA (by omega)) Try.call52 (by repeat (first | exact HasIn.nil | refine HasIn.same rfl rfl ?_ | refine HasIn.c1 rfl rfl ?_ | refine HasIn.other rfl (fun e => by cases e) (fun ρ x w hh => tab_ro hh) ?_ | refine HasIn.other rfl (fun e => by cases e) (fun ρ x w hh => tab_any hh) ?_ | refine HasIn.roA rfl rfl ?_ | refine HasIn.other rfl (fun e => by cases e) (fun ρ x w hh => cells_any hh) ?_)) rfl rfl rfl (fun _ => rfl) rfl (by kernel_rfl) fun _ _ => ?_
  cases hk : hasK l k with
  | true =>
    have hlt := (hasK_lt hk).1
    obtain ⟨p, hp⟩ : ∃ p, l.getD (plc l k) zG = p := ⟨_, rfl⟩
    have hperm := zF_del hlt
    rw [hp] at hperm
    rw [show getIZ l k = .pointer (some ⟨p.2.1, 0, none⟩) by unfold getIZ; rw [if_pos hk, hp]]
    repeat (first | refine R.zb ttok ?_ | refine R.zu ttok ?_ | refine R.zc ttok ?_ | refine R.za ttok ?_ | refine R.zx ?_ | refine R.zl ttok ?_ | refine R.zs ttok ?_ | refine R.z ttok ?_ | refine R.zk ?_ | refine R.zn ?_)
    refine R.done ?_
    refine X.then ?_
    refine C.thawZ (H0 := [tbIZ 1 l.length c hs mk, tIZ l c]) (Nat.le_refl _) (fun _ _ => rfl) (by kernel_rfl) p _ hperm (by show 2 ≤ 2; omega) fun ρ1 hρ1 hρb => ?_
    have hsl : slotV l k = p.2.2 := by unfold slotV; rw [hp]
    have e1 : zput l k v 0 = zup l (plc l k) (p.2.2.lay v true) := by unfold zput; rw [if_pos hk, hsl]
    have e2 : zputN l k hs = layN hs p.2.2.live true := by unfold zputN isV; rw [if_pos hk]; unfold slotV; rw [hp]
    have hb : (l.getD (plc l k) zG).2.1 = p.2.1 := by rw [hp]
    repeat (first | refine C.seq ?_ | refine C.region ?_ | refine R.zb ttok ?_ | refine R.zu ttok ?_ | refine R.zc ttok ?_ | refine R.za ttok ?_ | refine R.zx ?_ | refine R.zl ttok ?_ | refine R.zs ttok ?_ | refine R.z ttok ?_ | refine R.zk ?_ | refine R.zn ?_ | refine R.done ?_ | refine X.then ?_ | refine C.block ?_ | refine C.ret ?_ | refine C.skip ?_ | refine C.exit ?_ | refine X.pass_ret ?_ | refine X.pass_exit ?_ | refine X.block_normal ?_ | refine X.block_ret ?_ | refine X.block_exit ?_ | refine C.zt ?_ | refine C.zf ?_ | refine X.zo ?_)
    refine R.name 29 (.ptr 2 0 0 0) rfl (fun ρ2 h => by
      have h8 := (h 2 (by show 2 < 2 + 1; omega)).trans hρb
      have h8 : ρ2 2 = some p.2.1 := h8
      simp [AV.conc, h8]) rfl ?_
    refine R.cl [0, 2, 1] (lay_specZ p.2.2 l.length c hs v mk true h1 h2) Try.call58 (by repeat (first | exact HasIn.nil | refine HasIn.same rfl rfl ?_ | refine HasIn.c1 rfl rfl ?_ | refine HasIn.other rfl (fun e => by cases e) (fun ρ x w hh => tab_ro hh) ?_ | refine HasIn.other rfl (fun e => by cases e) (fun ρ x w hh => tab_any hh) ?_ | refine HasIn.roA rfl rfl ?_ | refine HasIn.other rfl (fun e => by cases e) (fun ρ x w hh => cells_any hh) ?_)) rfl rfl rfl (fun _ => rfl) rfl (by kernel_rfl) fun _ _ => ?_
    repeat (first | refine C.seq ?_ | refine C.region ?_ | refine R.zb ttok ?_ | refine R.zu ttok ?_ | refine R.zc ttok ?_ | refine R.za ttok ?_ | refine R.zx ?_ | refine R.zl ttok ?_ | refine R.zs ttok ?_ | refine R.z ttok ?_ | refine R.zk ?_ | refine R.zn ?_ | refine R.done ?_ | refine X.then ?_ | refine C.block ?_ | refine C.ret ?_ | refine C.skip ?_ | refine C.exit ?_ | refine X.pass_ret ?_ | refine X.pass_exit ?_ | refine X.block_normal ?_ | refine X.block_ret ?_ | refine X.block_exit ?_ | refine C.zt ?_ | refine C.zf ?_ | refine X.zo ?_)
    refine X.frzZ 2 rfl (by show 2 < 2 + 1; omega) hρb fun hne => ?_
    refine X.unpin (E := ⟨2, ρ, []⟩) (by show 2 ≤ 2 + 1; omega) (fun l hl => hρ1 l hl) ?_
    have hup := (zF_up hlt (p.2.2.lay v true)).symm
    rw [hb] at hup
    refine X.fperm hup ?_
    have hpi := piF_up hlt (p.2.2.lay v true)
    have hln := zup_len l (plc l k) (p.2.2.lay v true)
    refine X.finF ttok (c, 0) [(2, 1)] ⟨by show (zput l k v 0).length ≤ c; rw [e1, hln]; exact hc, hc2⟩ rfl rfl rfl (by
      show HasH _ _ _ [(0, tbIZ 2 (zput l k v 0).length c (zputN l k hs) mk), (2, tIZ (zput l k v 0) c)]
      rw [e1, e2]
      unfold tIZ
      rw [hln, hpi]
      exact .same rfl rfl rfl rfl (.same rfl rfl rfl (fun _ _ => rfl) .nil)) _ (by first | exact .inl rfl | exact .inr rfl) ?_ ?_ ?_
    · show ∀ w', _ → ApF (zF (zput l k v 0))
      rw [e1]
      exact fun w' hf => hf.ap
    · show ∀ x ∈ zF (zput l k v 0), _
      rw [e1]
      exact fun x hx => hx
    · exact fun x hx _ => by
        have := hup.subset
        rcases List.mem_cons.1 (hperm.subset hx) with rfl | hx
        · exact ⟨_, hup.subset List.mem_cons_self, rfl⟩
        · exact ⟨x, hup.subset (List.mem_cons_of_mem _ hx), rfl⟩
  | false =>
    rw [show getIZ l k = .pointer none by unfold getIZ; rw [if_neg (by rw [hk]; decide)]]
    repeat (first | refine R.zb ttok ?_ | refine R.zu ttok ?_ | refine R.zc ttok ?_ | refine R.za ttok ?_ | refine R.zx ?_ | refine R.zl ttok ?_ | refine R.zs ttok ?_ | refine R.z ttok ?_ | refine R.zk ?_ | refine R.zn ?_)
    refine R.done ?_
    refine X.then ?_
    refine C.seq ?_
    refine C.seq ?_
    refine C.region ?_
    repeat (first | refine R.zb ttok ?_ | refine R.zu ttok ?_ | refine R.zc ttok ?_ | refine R.za ttok ?_ | refine R.zx ?_ | refine R.zl ttok ?_ | refine R.zs ttok ?_ | refine R.z ttok ?_ | refine R.zk ?_ | refine R.zn ?_)
    refine R.done ?_
    refine X.then ?_
    refine C.tru rfl ?_
    refine C.seq ?_
    refine C.region ?_
    refine R.z ttok ?_
    refine R.zx ?_
    refine R.frzZ 21 2 (s := newS) rfl rfl fun b hne => ?_
    repeat (first | refine R.zb ttok ?_ | refine R.zu ttok ?_ | refine R.zc ttok ?_ | refine R.za ttok ?_ | refine R.zx ?_ | refine R.zl ttok ?_ | refine R.zs ttok ?_ | refine R.z ttok ?_ | refine R.zk ?_ | refine R.zn ?_)
    refine R.done ?_
    refine X.then ?_
    repeat (first | refine C.seq ?_ | refine C.region ?_ | refine R.zb ttok ?_ | refine R.zu ttok ?_ | refine R.zc ttok ?_ | refine R.za ttok ?_ | refine R.zx ?_ | refine R.zl ttok ?_ | refine R.zs ttok ?_ | refine R.z ttok ?_ | refine R.zk ?_ | refine R.zn ?_ | refine R.done ?_ | refine X.then ?_ | refine C.block ?_ | refine C.ret ?_ | refine C.skip ?_ | refine C.exit ?_ | refine X.pass_ret ?_ | refine X.pass_exit ?_ | refine X.block_normal ?_ | refine X.block_ret ?_ | refine X.block_exit ?_ | refine C.zt ?_ | refine C.zf ?_ | refine X.zo ?_)
    refine R.cl [0, 1] (putI_specZ l c k hs mk b newS hA (by omega) hc hc2 hk) Try.call73 (by repeat (first | exact HasIn.nil | refine HasIn.same rfl rfl ?_ | refine HasIn.c1 rfl rfl ?_ | refine HasIn.other rfl (fun e => by cases e) (fun ρ x w hh => tab_ro hh) ?_ | refine HasIn.other rfl (fun e => by cases e) (fun ρ x w hh => tab_any hh) ?_ | refine HasIn.roA rfl rfl ?_ | refine HasIn.other rfl (fun e => by cases e) (fun ρ x w hh => cells_any hh) ?_)) rfl rfl rfl (fun _ => rfl) rfl (by kernel_rfl) fun c' hc' => ?_
    obtain ⟨p, hpd⟩ : ∃ p : PIZ, p = (k, b, newS) := ⟨_, rfl⟩
    have hpi : (insL l (plc l k) (k, b, newS)).getD (plc l k) zG = p := by
      rw [hpd]
      unfold insL
      rw [List.getD_eq_getElem?_getD, List.getElem?_append_right (by rw [List.length_take]; omega), List.length_take, Nat.min_eq_left hp, Nat.sub_self]
      rfl
    have hlt : plc l k < (insL l (plc l k) (k, b, newS)).length := by rw [insL_len]; omega
    have e1 : zput l k v b = insL l (plc l k) (k, b, newS.lay v true) := by unfold zput; rw [if_neg (by rw [hk]; decide)]
    have e2 : zputN l k hs = layN hs newS.live true := by unfold zputN isV; rw [if_neg (by rw [hk]; decide)]; rfl
    refine R.done ?_
    refine X.then ?_
    refine C.thawZ (H0 := [tbIZ 1 l.length c hs mk, tIZ l c]) (fs := ⟨true, b, slOb newS⟩ :: zF l) (Nat.le_refl _) (fun _ _ => rfl) (by kernel_rfl) p (zF l) (by rw [hpd]; exact List.Perm.refl _) (by show 2 ≤ 4; omega) fun ρ1 hρ1 hρb => ?_
    have hρb : ρ1 4 = some p.2.1 := hρb
    rw [show b = p.2.1 by rw [hpd]]
    repeat (first | refine C.seq ?_ | refine C.region ?_ | refine R.zb ttok ?_ | refine R.zu ttok ?_ | refine R.zc ttok ?_ | refine R.za ttok ?_ | refine R.zx ?_ | refine R.zl ttok ?_ | refine R.zs ttok ?_ | refine R.z ttok ?_ | refine R.zk ?_ | refine R.zn ?_ | refine R.done ?_ | refine X.then ?_ | refine C.block ?_ | refine C.ret ?_ | refine C.skip ?_ | refine C.exit ?_ | refine X.pass_ret ?_ | refine X.pass_exit ?_ | refine X.block_normal ?_ | refine X.block_ret ?_ | refine X.block_exit ?_ | refine C.zt ?_ | refine C.zf ?_ | refine X.zo ?_)
    refine R.name 29 (.ptr 4 0 0 0) rfl (fun ρ2 h => by
      have h8 := (h 4 (by show 4 < 4 + 1; omega)).trans hρb
      have h8 : ρ2 4 = some p.2.1 := h8
      simp [AV.conc, h8]) rfl ?_
    rw [hpd]
    refine R.cl [0, 4, 3] (lay_specZ newS (l.length + 1) c' hs v mk true h1 h2) Try.call58 (by repeat (first | exact HasIn.nil | refine HasIn.same rfl rfl ?_ | refine HasIn.c1 rfl rfl ?_ | refine HasIn.other rfl (fun e => by cases e) (fun ρ x w hh => tab_ro hh) ?_ | refine HasIn.other rfl (fun e => by cases e) (fun ρ x w hh => tab_any hh) ?_ | refine HasIn.roA rfl rfl ?_ | refine HasIn.other rfl (fun e => by cases e) (fun ρ x w hh => cells_any hh) ?_)) rfl rfl rfl (fun _ => rfl) rfl (by kernel_rfl) fun _ _ => ?_
    repeat (first | refine C.seq ?_ | refine C.region ?_ | refine R.zb ttok ?_ | refine R.zu ttok ?_ | refine R.zc ttok ?_ | refine R.za ttok ?_ | refine R.zx ?_ | refine R.zl ttok ?_ | refine R.zs ttok ?_ | refine R.z ttok ?_ | refine R.zk ?_ | refine R.zn ?_ | refine R.done ?_ | refine X.then ?_ | refine C.block ?_ | refine C.ret ?_ | refine C.skip ?_ | refine C.exit ?_ | refine X.pass_ret ?_ | refine X.pass_exit ?_ | refine X.block_normal ?_ | refine X.block_ret ?_ | refine X.block_exit ?_ | refine C.zt ?_ | refine C.zf ?_ | refine X.zo ?_)
    refine X.frzZ 4 rfl (by show 4 < 4 + 1; omega) hρb fun hne => ?_
    refine X.unpin (E := ⟨2, ρ, []⟩) (by show 2 ≤ 4 + 1; omega) (fun l hl => hρ1 l hl) ?_
    rw [hpd]
    have hup := (zF_ins l (plc l k) (k, b, newS.lay v true)).symm
    have hup : (⟨true, b, slOb (newS.lay v true)⟩ :: zF l : Fam).Perm (zF (insL l (plc l k) (k, b, newS.lay v true))) := hup
    refine X.fperm hup ?_
    have hpf : piFZ (insL l (plc l k) (k, b, newS.lay v true)) = piFZ (insL l (plc l k) (k, b, newS)) := by
      funext j
      rw [piF_insZ l _ _ hp, piF_insZ l _ _ hp]
    refine X.finF ttok (c', b) [(2, 3)] ⟨by show (zput l k v b).length ≤ c'; rw [e1, insL_len]; exact hc'.1, hc'.2⟩ rfl rfl rfl (by
      show HasH _ _ _ [(0, tbIZ 2 (zput l k v b).length c' (zputN l k hs) mk), (2, tIZ (zput l k v b) c')]
      rw [e1, e2]
      unfold tIZ
      rw [insL_len, hpf]
      exact .same rfl rfl rfl rfl (.same rfl rfl rfl (fun _ _ => rfl) .nil)) _ (by first | exact .inl rfl | exact .inr rfl) ?_ ?_ ?_
    · show ∀ w', _ → ApF (zF (zput l k v b))
      rw [e1]
      exact fun w' hf => hf.ap
    · show ∀ x ∈ zF (zput l k v b), _
      rw [e1]
      exact fun x hx => hx
    · exact fun x hx _ => ⟨x, hup.subset (List.mem_cons_of_mem _ hx), rfl⟩
theorem isV_has {l : ZL} {k : ByteArray} (h : isV l k = true) : hasK l k = true ∧ (slotV l k).live = true := by
  unfold isV at h
  split at h
  · rename_i hk; exact ⟨hk, h⟩
  · cases h
theorem del_specZ (hs : Int) (mk : Bool) (hA : Asc l) (hl : l.length ≤ 900000) (hc : l.length ≤ c) (hc2 : c ≤ 9223372036854775807) (h1 : -1000000 ≤ hs) (h2 : hs ≤ 1000000000) :
    SpecF Try.prog 30 [.ptr 0 0 0 0, .raw (.string k)] [tbIZ 1 l.length c hs mk, tIZ l c] 2 (zF l) (σ := Fam) (fun G => Cov (zF l) (zF (zdel l k mk) ++ G) ∧ ∀ x ∈ G, x.ob.isCells = true)
    (fun _ => .tup []) (fun _ => [(0, tbIZ 1 (zdel l k mk).length c (zdelN l k hs) mk), (1, tIZ (zdel l k mk) c)]) (fun G => zF (zdel l k mk) ++ G) := by
  refine SpecF.of Try.func30 rfl Try.ntmps30 rfl (bdl_cons rfl (bdl_cons (fun _ _ => rfl) (bdl_nil _))) fun ρ w => ?_
  repeat (first | refine C.seq ?_ | refine C.region ?_ | refine R.zb ttok ?_ | refine R.zu ttok ?_ | refine R.zc ttok ?_ | refine R.za ttok ?_ | refine R.zx ?_ | refine R.zl ttok ?_ | refine R.zs ttok ?_ | refine R.z ttok ?_ | refine R.zk ?_ | refine R.zn ?_ | refine R.done ?_ | refine X.then ?_ | refine C.block ?_ | refine C.ret ?_ | refine C.skip ?_ | refine C.exit ?_ | refine X.pass_ret ?_ | refine X.pass_exit ?_ | refine X.block_normal ?_ | refine X.block_ret ?_ | refine X.block_exit ?_ | refine C.zt ?_ | refine C.zf ?_ | refine X.zo ?_)
  refine R.clF [0, 1] (get_specZ l c k hA (by omega)) (Nat.le_refl _) (fun _ _ => rfl) Try.call21 (by repeat (first | exact HasIn.nil | refine HasIn.same rfl rfl ?_ | refine HasIn.c1 rfl rfl ?_ | refine HasIn.other rfl (fun e => by cases e) (fun ρ x w hh => tab_ro hh) ?_ | refine HasIn.other rfl (fun e => by cases e) (fun ρ x w hh => tab_any hh) ?_ | refine HasIn.roA rfl rfl ?_ | refine HasIn.other rfl (fun e => by cases e) (fun ρ x w hh => cells_any hh) ?_)) rfl rfl rfl (fun _ => rfl) rfl (by kernel_rfl) fun _ _ => ?_
  cases hv : isV l k with
  | false =>
    rw [show zdel l k mk = l by unfold zdel; rw [hv]; rfl, show zdelN l k hs = hs by unfold zdelN; rw [hv]; rfl]
    repeat (first | refine C.seq ?_ | refine C.region ?_ | refine R.zb ttok ?_ | refine R.zu ttok ?_ | refine R.zc ttok ?_ | refine R.za ttok ?_ | refine R.zx ?_ | refine R.zl ttok ?_ | refine R.zs ttok ?_ | refine R.z ttok ?_ | refine R.zk ?_ | refine R.zn ?_ | refine R.done ?_ | refine X.then ?_ | refine C.block ?_ | refine C.ret ?_ | refine C.skip ?_ | refine C.exit ?_ | refine X.pass_ret ?_ | refine X.pass_exit ?_ | refine X.block_normal ?_ | refine X.block_ret ?_ | refine X.block_exit ?_ | refine C.zt ?_ | refine C.zf ?_ | refine X.zo ?_)
    refine X.finF ttok ([] : Fam) [] ⟨by rw [List.append_nil]; exact Cov.refl _, fun x hx => by cases hx⟩ rfl rfl rfl (by repeat (first | exact HasH.nil | refine HasH.same rfl rfl rfl trivial ?_ | refine HasH.same rfl rfl rfl rfl ?_ | refine HasH.same rfl rfl rfl (fun _ _ => rfl) ?_ | refine HasH.ros rfl rfl ?_)) _ (by first | exact .inl rfl | exact .inr rfl) ?_ ?_ ?_
    · rw [List.append_nil]; exact fun w' hf => hf.ap
    · rw [List.append_nil]; exact fun x hx => hx
    · exact fun x hx _ => ⟨x, hx, rfl⟩
  | true =>
    obtain ⟨hk, hlv⟩ := isV_has hv
    have hlt := (hasK_lt hk).1
    obtain ⟨p, hp⟩ : ∃ p, l.getD (plc l k) zG = p := ⟨_, rfl⟩
    have hperm := zF_del hlt
    rw [hp] at hperm
    have hsl : slotV l k = p.2.2 := by unfold slotV; rw [hp]
    have hb : (l.getD (plc l k) zG).2.1 = p.2.1 := by rw [hp]
    rw [hsl] at hlv
    have e2 : zdelN l k hs = layN hs true false := by unfold zdelN; rw [hv]; rfl
    have e1 : zdel l k mk = if mk then zup l (plc l k) (p.2.2.lay 0 false) else delL l (plc l k) := by unfold zdel; rw [if_pos hv, hsl]
    have hall : ∀ (b : Nat) (o : Obj), b = p.2.1 → ∀ x ∈ zF l, x.rw = true → BlF (⟨true, b, o⟩ :: zF (delL l (plc l k))) x.b := fun b o e x hx _ => by
      rcases List.mem_cons.1 (hperm.subset hx) with rfl | hx
      · exact ⟨_, List.mem_cons_self, e⟩
      · exact ⟨x, List.mem_cons_of_mem _ hx, rfl⟩
    repeat (first | refine C.seq ?_ | refine C.region ?_ | refine R.zb ttok ?_ | refine R.zu ttok ?_ | refine R.zc ttok ?_ | refine R.za ttok ?_ | refine R.zx ?_ | refine R.zl ttok ?_ | refine R.zs ttok ?_ | refine R.z ttok ?_ | refine R.zk ?_ | refine R.zn ?_ | refine R.done ?_ | refine X.then ?_ | refine C.block ?_ | refine C.ret ?_ | refine C.skip ?_ | refine C.exit ?_ | refine X.pass_ret ?_ | refine X.pass_exit ?_ | refine X.block_normal ?_ | refine X.block_ret ?_ | refine X.block_exit ?_ | refine C.zt ?_ | refine C.zf ?_ | refine X.zo ?_)
    refine R.cl [0, 1] (getI_specZ l c k hA (by omega)) Try.call52 (by repeat (first | exact HasIn.nil | refine HasIn.same rfl rfl ?_ | refine HasIn.c1 rfl rfl ?_ | refine HasIn.other rfl (fun e => by cases e) (fun ρ x w hh => tab_ro hh) ?_ | refine HasIn.other rfl (fun e => by cases e) (fun ρ x w hh => tab_any hh) ?_ | refine HasIn.roA rfl rfl ?_ | refine HasIn.other rfl (fun e => by cases e) (fun ρ x w hh => cells_any hh) ?_)) rfl rfl rfl (fun _ => rfl) rfl (by kernel_rfl) fun _ _ => ?_
    rw [show getIZ l k = .pointer (some ⟨p.2.1, 0, none⟩) by unfold getIZ; rw [if_pos hk, hp]]
    repeat (first | refine R.zb ttok ?_ | refine R.zu ttok ?_ | refine R.zc ttok ?_ | refine R.za ttok ?_ | refine R.zx ?_ | refine R.zl ttok ?_ | refine R.zs ttok ?_ | refine R.z ttok ?_ | refine R.zk ?_ | refine R.zn ?_)
    refine R.done ?_
    refine X.then ?_
    refine C.thawZ (H0 := [tbIZ 1 l.length c hs mk, tIZ l c]) (Nat.le_refl _) (fun _ _ => rfl) (by kernel_rfl) p _ hperm (by show 2 ≤ 2; omega) fun ρ1 hρ1 hρb => ?_
    repeat (first | refine C.seq ?_ | refine C.region ?_ | refine R.zb ttok ?_ | refine R.zu ttok ?_ | refine R.zc ttok ?_ | refine R.za ttok ?_ | refine R.zx ?_ | refine R.zl ttok ?_ | refine R.zs ttok ?_ | refine R.z ttok ?_ | refine R.zk ?_ | refine R.zn ?_ | refine R.done ?_ | refine X.then ?_ | refine C.block ?_ | refine C.ret ?_ | refine C.skip ?_ | refine C.exit ?_ | refine X.pass_ret ?_ | refine X.pass_exit ?_ | refine X.block_normal ?_ | refine X.block_ret ?_ | refine X.block_exit ?_ | refine C.zt ?_ | refine C.zf ?_ | refine X.zo ?_)
    refine R.name 25 (.ptr 2 0 0 0) rfl (fun ρ2 h => by
      have h8 := (h 2 (by show 2 < 2 + 1; omega)).trans hρb
      have h8 : ρ2 2 = some p.2.1 := h8
      simp [AV.conc, h8]) rfl ?_
    refine R.cl [0, 2, 1] (lay_specZ p.2.2 l.length c hs 0 mk false h1 h2) Try.call58 (by repeat (first | exact HasIn.nil | refine HasIn.same rfl rfl ?_ | refine HasIn.c1 rfl rfl ?_ | refine HasIn.other rfl (fun e => by cases e) (fun ρ x w hh => tab_ro hh) ?_ | refine HasIn.other rfl (fun e => by cases e) (fun ρ x w hh => tab_any hh) ?_ | refine HasIn.roA rfl rfl ?_ | refine HasIn.other rfl (fun e => by cases e) (fun ρ x w hh => cells_any hh) ?_)) rfl rfl rfl (fun _ => rfl) rfl (by kernel_rfl) fun _ _ => ?_
    rw [hlv]
    cases mk with
    | true =>
      repeat (first | refine C.seq ?_ | refine C.region ?_ | refine R.zb ttok ?_ | refine R.zu ttok ?_ | refine R.zc ttok ?_ | refine R.za ttok ?_ | refine R.zx ?_ | refine R.zl ttok ?_ | refine R.zs ttok ?_ | refine R.z ttok ?_ | refine R.zk ?_ | refine R.zn ?_ | refine R.done ?_ | refine X.then ?_ | refine C.block ?_ | refine C.ret ?_ | refine C.skip ?_ | refine C.exit ?_ | refine X.pass_ret ?_ | refine X.pass_exit ?_ | refine X.block_normal ?_ | refine X.block_ret ?_ | refine X.block_exit ?_ | refine C.zt ?_ | refine C.zf ?_ | refine X.zo ?_)
      refine X.frzZ 2 rfl (by show 2 < 2 + 1; omega) hρb fun hne => ?_
      refine X.unpin (E := ⟨2, ρ, []⟩) (by show 2 ≤ 2 + 1; omega) (fun l hl => hρ1 l hl) ?_
      have hup := (zF_up hlt (p.2.2.lay 0 false)).symm
      rw [hb] at hup
      rw [e1, if_pos rfl, e2]
      have hpi := piF_up hlt (p.2.2.lay 0 false)
      have hln := zup_len l (plc l k) (p.2.2.lay 0 false)
      refine X.finF ttok ([] : Fam) [] ⟨by rw [List.append_nil]; exact fun x hx hr => (Cov.right (fun x hx hr => hall _ _ rfl x hx hr) (fun y hy => hup.subset hy)) x hx hr, fun x hx => by cases hx⟩ rfl rfl rfl (by
        show HasH _ _ _ [(0, tbIZ 1 (zup l (plc l k) (p.2.2.lay 0 false)).length c (layN hs true false) true), (1, tIZ (zup l (plc l k) (p.2.2.lay 0 false)) c)]
        unfold tIZ
        rw [hln, hpi]
        exact .same rfl rfl rfl rfl (.same rfl rfl rfl (fun _ _ => rfl) .nil)) _ (by first | exact .inl rfl | exact .inr rfl) ?_ ?_ ?_
      · rw [List.append_nil]; exact fun w' hf => apf_perm hup hf.ap
      · rw [List.append_nil]; exact fun x hx => hup.symm.subset hx
      · exact hall _ _ rfl
    | false =>
      have hx1 : layN hs true false = hs - 1 := rfl
      repeat (first | refine C.seq ?_ | refine C.region ?_ | refine R.zb ttok ?_ | refine R.zu ttok ?_ | refine R.zc ttok ?_ | refine R.za ttok ?_ | refine R.zx ?_ | refine R.zl ttok ?_ | refine R.zs ttok ?_ | refine R.z ttok ?_ | refine R.zk ?_ | refine R.zn ?_ | refine R.done ?_ | refine X.then ?_ | refine C.block ?_ | refine C.ret ?_ | refine C.skip ?_ | refine C.exit ?_ | refine X.pass_ret ?_ | refine X.pass_exit ?_ | refine X.block_normal ?_ | refine X.block_ret ?_ | refine X.block_exit ?_ | refine C.zt ?_ | refine C.zf ?_ | refine X.zo ?_)
      refine R.cl [0, 1] (delI_specZ l c k (layN hs true false) false hA (by omega) hc hc2 hk) Try.call59 (by repeat (first | exact HasIn.nil | refine HasIn.same rfl rfl ?_ | refine HasIn.c1 rfl rfl ?_ | refine HasIn.other rfl (fun e => by cases e) (fun ρ x w hh => tab_ro hh) ?_ | refine HasIn.other rfl (fun e => by cases e) (fun ρ x w hh => tab_any hh) ?_ | refine HasIn.roA rfl rfl ?_ | refine HasIn.other rfl (fun e => by cases e) (fun ρ x w hh => cells_any hh) ?_)) rfl rfl rfl (fun _ => rfl) rfl (by kernel_rfl) fun _ _ => ?_
      repeat (first | refine C.seq ?_ | refine C.region ?_ | refine R.zb ttok ?_ | refine R.zu ttok ?_ | refine R.zc ttok ?_ | refine R.za ttok ?_ | refine R.zx ?_ | refine R.zl ttok ?_ | refine R.zs ttok ?_ | refine R.z ttok ?_ | refine R.zk ?_ | refine R.zn ?_ | refine R.done ?_ | refine X.then ?_ | refine C.block ?_ | refine C.ret ?_ | refine C.skip ?_ | refine C.exit ?_ | refine X.pass_ret ?_ | refine X.pass_exit ?_ | refine X.block_normal ?_ | refine X.block_ret ?_ | refine X.block_exit ?_ | refine C.zt ?_ | refine C.zf ?_ | refine X.zo ?_)
      refine X.frzZ 2 rfl (by show 2 < 2 + 1; omega) hρb fun hne => ?_
      refine X.unpin (E := ⟨2, ρ, []⟩) (by show 2 ≤ 2 + 1; omega) (fun l hl => hρ1 l hl) ?_
      rw [e1, if_neg (by decide), e2]
      have hln := delL_len l (plc l k) hlt
      refine X.finF ttok ([⟨true, p.2.1, slOb (p.2.2.lay 0 false)⟩] : Fam) [] ⟨fun x hx hr => (Cov.right (fun x hx hr => hall _ (slOb (p.2.2.lay 0 false)) rfl x hx hr) (fun y hy => (List.perm_append_comm (l₁ := [_])).subset hy)) x hx hr, fun x hx => by obtain rfl := List.mem_singleton.1 hx; rfl⟩ rfl rfl rfl (by
        show HasH _ _ _ [(0, tbIZ 1 (delL l (plc l k)).length c (layN hs true false) false), (1, tIZ (delL l (plc l k)) c)]
        unfold tIZ
        rw [hln]
        exact .same rfl rfl rfl rfl (.same rfl rfl rfl (fun _ _ => rfl) .nil)) _ (by first | exact .inl rfl | exact .inr rfl) ?_ ?_ ?_
      · exact fun w' hf => apf_perm (List.perm_append_comm (l₁ := [_])) hf.ap
      · exact fun x hx => (List.perm_append_comm (l₁ := [_])).symm.subset hx
      · exact hall _ _ rfl
end
end Go.Proofs.Yteabncomclgncaa
namespace Go.Proofs.Yteabncomclgncaa
set_option linter.unusedVariables false
set_option linter.unusedSimpArgs false
open Go.RowKit
set_option maxRecDepth 100000
set_option maxHeartbeats 4000000
def txF (l : List ByteArray) (i : Nat) : List AV := [.raw (.string (l.getD i noT))]
abbrev roX (off : Nat) (l : List ByteArray) : AO := .ro 1 off (l.length * 1) (rowsF 1 (txF l))
abbrev tX (l : List ByteArray) (c : Nat) : AO := .tab 1 l.length c (txF l) 9
theorem rowsX_bd (L k : Nat) (l : List ByteArray) (m : Nat) : ∀ i, i < m → AV.bds L (rowsF k (txF l) i) = true := fun i _ => by
  unfold rowsF txF
  split
  · rename_i v hv
    have : v ∈ [AV.raw (.string (l.getD (i / k) noT))] := List.mem_of_getElem? hv
    simp only [List.mem_cons, List.not_mem_nil, or_false] at this
    rw [this]; rfl
  · rfl
theorem rowsX_ren (r : Nat → Nat) (k : Nat) (l : List ByteArray) : (fun i => AV.rens r (rowsF k (txF l) i)) = rowsF k (txF l) := by
  funext i
  unfold rowsF txF
  split
  · rename_i v hv
    have : v ∈ [AV.raw (.string (l.getD (i / k) noT))] := List.mem_of_getElem? hv
    simp only [List.mem_cons, List.not_mem_nil, or_false] at this
    rw [this]; rfl
  · rfl
theorem HasH.rox {r : Nat → Nat} {L : Nat} {h rest : List (Nat × AO)} {l off : Nat} {s : List ByteArray} (h1 : hk (r l) h = some (roX off s)) (h3 : Nat.ble (l + 1) L = true) (k : HasH r L h rest) : HasH r L h ((l, roX off s) :: rest) :=
  .other h1 id (fun ρ x w hh => by simp only [AO.ren, rowsX_ren]; exact hh) h3 (rowsX_bd _ _ _ _) k
theorem HasIn.rox {r : Nat → Nat} {h : List (Nat × AO)} {i off : Nat} {s : List ByteArray} {os : List AO} (h1 : hk (r i) h = some (roX off s)) (k : HasIn r h (i + 1) os) : HasIn r h i (roX off s :: os) :=
  .other h1 id (fun ρ x w hh => by simp only [AO.ren, rowsX_ren]; exact hh) k
def txs (l : List ByteArray) : List AV := l.map fun s => .raw (.string s)
theorem flat_tx (l : List ByteArray) : flat (txF l) l.length = txs l := by
  have key : ∀ n, n ≤ l.length → flat (txF l) n = txs (l.take n) := fun n => by
    induction n with
    | zero => intro _; rfl
    | succ n ih =>
      intro h
      rw [flat, ih (by omega), List.take_add_one]
      unfold txs txF
      rw [List.map_append]
      congr 1
      rw [List.getElem?_eq_getElem (by omega), List.getD_eq_getElem?_getD, List.getElem?_eq_getElem (by omega)]
      rfl
  rw [key _ (Nat.le_refl _), List.take_length]
section
variable {E : Base} {n L : Nat} {τ : List (Nat × AV)} {h : List (Nat × AO)} {F : World → Prop}
theorem asTx (T : TypeId) (l : List ByteArray) (xs : List AV) (hx : xs = txs l) : AsRow (fun c => .tab 1 l.length c (txF l) T) T 1 xs := by
  rw [hx, ← flat_tx]
  exact AsRow.tab T (by decide) fun i _ => rfl
theorem dstTx {lab cap : Nat} {l : List ByteArray} {T : TypeId} (hl : hk lab h = some (.tab 1 l.length cap (txF l) T)) : DstA E n L τ h F (.sl lab 1 0 l.length cap) T 1 l.length cap (txs l) [lab] := by
  have := DstA.tab (E := E) (n := n) (L := L) (τ := τ) (F := F) (by decide) hl fun i _ => rfl
  rwa [flat_tx] at this
end
theorem rangeT_specZ (fr to : ByteArray) : Spec Try.prog 49 [.ptr 0 0 0 0, .raw (.string fr), .raw (.string to)] [anyO] 4 (σ := Unit) (fun _ => True)
    (fun _ => .fn rgZ [.ptr 1 0 0 0, .ptr 2 0 0 0, .ptr 3 0 0 0]) (fun _ => [(1, .cells [.ptr 0 0 0 0] 133), (2, .cells [.raw (.string fr)] 9), (3, .cells [.raw (.string to)] 9)]) := by
  refine Spec.of Try.func49 rfl Try.ntmps49 rfl (bdl_cons (any_bd _) (bdl_nil _)) fun ρ w => ?_
  repeat (first | refine C.seq ?_ | refine C.region ?_ | refine R.zb ttok ?_ | refine R.zu ttok ?_ | refine R.zc ttok ?_ | refine R.za ttok ?_ | refine R.zx ?_ | refine R.zl ttok ?_ | refine R.zs ttok ?_ | refine R.z ttok ?_ | refine R.zk ?_ | refine R.zn ?_ | refine R.done ?_ | refine X.then ?_ | refine C.block ?_ | refine C.ret ?_ | refine C.skip ?_ | refine C.exit ?_ | refine X.pass_ret ?_ | refine X.pass_exit ?_ | refine X.block_normal ?_ | refine X.block_ret ?_ | refine X.block_exit ?_ | refine C.zt ?_ | refine C.zf ?_ | refine X.zo ?_)
  refine X.fin ttok () [] trivial rfl rfl rfl (by repeat (first | exact HasH.nil | refine HasH.same rfl rfl rfl trivial ?_ | refine HasH.same rfl rfl rfl rfl ?_ | refine HasH.same rfl rfl rfl (fun _ _ => rfl) ?_ | refine HasH.ros rfl rfl ?_)) _ (by first | exact .inl rfl | exact .inr rfl)
/-- what a Range sees, out of a state's telling -/
theorem rsee_of {E : Base} {ρ : Env} {n L : Nat} {τ : List (Nat × AV)} {h : List (Nat × AO)} {F : World → Prop} {a : Act} {W : World} (g : Gam E ρ n L τ h F a W) {lt lf lo ls ll c cc : Nat} {fr to : ByteArray} {l : ZL} {rest : List AV} {T1 T2 T3 T4 T5 : TypeId} (hA : Asc l) (hl : l.length ≤ 1000000) (h1 : hk lt h = some (.cells [.ptr ls 0 0 0] T1)) (h2 : hk lf h = some (.cells [.raw (.string fr)] T2)) (h3 : hk lo h = some (.cells [.raw (.string to)] T3))
    (h4 : hk ls h = some (.cells (.sl ll 2 0 l.length c :: rest) T4)) (h5 : hk ll h = some (.tab 2 l.length cc (piFZ l) T5)) : RSee ((ρ lt).getD 0) ((ρ lf).getD 0) ((ρ lo).getD 0) ((ρ ls).getD 0) fr to l W := by
  obtain ⟨b1, r1, k1⟩ := (g.hp _ _ h1).2.2
  obtain ⟨b2, r2, k2⟩ := (g.hp _ _ h2).2.2
  obtain ⟨b3, r3, k3⟩ := (g.hp _ _ h3).2.2
  obtain ⟨b4, r4, k4⟩ := (g.hp _ _ h4).2.2
  have k5 := tab_ro (g.hp _ _ h5).2.2
  rw [r1, r2, r3, r4]
  refine ⟨hA, hl, ρ ll, c, fun i o ho => ?_, fun i b hi hb => ?_⟩
  · simp only [rgH, hk_cons] at ho
    split at ho
    · rename_i e; subst e; cases ho
      refine .inr ⟨b1, _, _, _, rfl, k1, fun i c x hi hx => ?_⟩
      cases c with
      | zero => simp at hx; subst hx; simp [AV.concs, AV.conc, r4, envR]
      | succ c => simp at hx
    split at ho
    · rename_i e; subst e; cases ho
      refine .inr ⟨b2, _, _, _, rfl, k2, fun i c x hi hx => ?_⟩
      cases c with
      | zero => simp at hx; subst hx; simp [AV.concs, AV.conc]
      | succ c => simp at hx
    split at ho
    · rename_i e; subst e; cases ho
      refine .inr ⟨b3, _, _, _, rfl, k3, fun i c x hi hx => ?_⟩
      cases c with
      | zero => simp at hx; subst hx; simp [AV.concs, AV.conc]
      | succ c => simp at hx
    split at ho
    · rename_i e; subst e; cases ho
      refine .inr ⟨b4, _, _, _, rfl, k4, fun i c x hi hx => ?_⟩
      cases c with
      | zero => simp at hx; subst hx; simp [AV.concs, AV.conc, envR]
      | succ c => simp at hx
    split at ho
    · rename_i e; subst e; cases ho
      rcases k5 with ⟨h6, h7⟩ | ⟨b, cur, ty, fr', h6, h7, h8⟩
      · exact .inl ⟨h6, h7⟩
      · exact .inr ⟨b, cur, ty, fr', h6, h7, fun i c x hi hx => by
          have := h8 i c x hi hx
          have hx2 : x ∈ piFZ l i := List.mem_of_getElem? hx
          rw [this]
          unfold piFZ piAZ at hx2
          simp only [List.mem_cons, List.not_mem_nil, or_false] at hx2
          rcases hx2 with rfl | rfl <;> rfl⟩
    · simp [hk, lk] at ho
  · match i, hi with
    | 0, _ => cases hb; exact (Array.getElem?_eq_some_iff.1 k1).1
    | 1, _ => cases hb; exact (Array.getElem?_eq_some_iff.1 k2).1
    | 2, _ => cases hb; exact (Array.getElem?_eq_some_iff.1 k3).1
    | 3, _ => cases hb; exact (Array.getElem?_eq_some_iff.1 k4).1
    | 4, _ => exact g.al ll b (g.hp _ _ h5).1 hb
section
variable {P : Program} {lb : Nat} {Q : Exit → Act → World → Prop} {E : Base} {n L : Nat} {τ : List (Nat × AV)} {h : List (Nat × AO)} {H0 : List AO} {R0 : Env} {W0 : World} {FS0 fs : Fam}
theorem CR.thawZ {c : Code} (hN : H0.length ≤ E.N) (hE : ∀ l, l < H0.length → E.ρ l = R0 l) (hrob : roH H0 h = true) (p : PIZ) (fs2 : Fam) (hperm : fs.Perm (zfact p :: fs2)) (hEL : E.N ≤ L)
    (k : ∀ ρ1 : Env, (∀ l, l < E.N → ρ1 l = E.ρ l) → ρ1 L = some p.2.1 → CR P lb c Q ⟨L + 1, ρ1, E.df⟩ n (L + 1) τ ((L, slC p.2.2) :: h) (FF H0 R0 W0 FS0 fs2)) : CR P lb c Q E n L τ h (FF H0 R0 W0 FS0 fs) :=
  CR.fact (p := ApF fs) (fun ρ a w g => g.ff.ap) fun hap =>
    ⟨fun ρ a w g => (k (updE ρ L (some p.2.1)) (fun l hl => (updE_ne ρ _ (by omega)).trans (g.ex l hl)) (updE_same _ _ _)).out _ a w (g.thawP hN hE hrob (p := zfact p) (hperm.symm.subset List.mem_cons_self) rfl (zfact_ap hap hperm).1 (zfact_ap hap hperm).2 (o := slC p.2.2) rfl (is_slC _ _) rfl)⟩
theorem CR.frzZ {c : Code} (l : Nat) {b : Nat} {s : Sl Int} (hl : hk l h = some (slC s)) (hlN : l < E.N) (hb : E.ρ l = some b) (k : (∀ p ∈ fs, p.b ≠ b) → CR P lb c Q E n L τ ((l, .gone) :: h) (FF H0 R0 W0 FS0 (⟨true, b, slOb s⟩ :: fs))) : CR P lb c Q E n L τ h (FF H0 R0 W0 FS0 fs) := ⟨fun ρ a w g => by
  obtain ⟨ob, h1, g'⟩ := g.frzP (o' := slC s) true l hl rfl hlN hb (fun ob w h1 h2 => is_cells h1 h2)
  rw [slC_is h1.1] at g'
  exact (k h1.2).out ρ a w g'⟩
theorem CR.unpin {c : Code} {E1 : Base} (hN : E.N ≤ E1.N) (he : ∀ l, l < E.N → E1.ρ l = E.ρ l) (k : CR P lb c Q E n L τ h (FF H0 R0 W0 FS0 fs)) (hd : E1.df = E.df := by rfl) : CR P lb c Q E1 n L τ h (FF H0 R0 W0 FS0 fs) := ⟨fun ρ a w g => k.out ρ a w (g.unpin hN he hd)⟩
theorem CR.fperm {c : Code} {fs2 : Fam} (hp : fs.Perm fs2) (k : CR P lb c Q E n L τ h (FF H0 R0 W0 FS0 fs2)) : CR P lb c Q E n L τ h (FF H0 R0 W0 FS0 fs) := ⟨fun ρ a w g => k.out ρ a w (g.strong fun w' hw' => (g.fr w' hw').perm hp)⟩
end
theorem asc_nodup {l : ZL} (hA : Asc l) : (l.map (·.1)).Nodup := by
  unfold List.Nodup
  rw [List.pairwise_map]
  exact hA.imp fun {a b} h e => by rw [e, cmpS_self] at h; omega
theorem has_mem {l : ZL} (hA : Asc l) {p : PIZ} (hp : p ∈ l) : hasK l p.1 = true ∧ l.getD (plc l p.1) zG = p := by
  obtain ⟨i, hi, rfl⟩ := List.mem_iff_getElem.1 hp
  have e := zG_get hi
  have h1 := has_at hA hi
  have h2 := plc_at hA hi
  rw [e] at h1 h2
  exact ⟨h1, by rw [h2, e]⟩
theorem del_filter {l : ZL} (hA : Asc l) {k : ByteArray} (hk : hasK l k = true) : delL l (plc l k) = l.filter fun p => decide (p.1 ≠ k) := by
  have hlt := (hasK_lt hk).1
  have hkk := hasK_key hk
  have hs := del_split hlt
  have hnd := asc_nodup hA
  conv => rhs; rw [hs]
  rw [List.filter_append, List.filter_cons, if_neg (by rw [decide_eq_true_eq]; exact fun h => h hkk)]
  unfold delL
  have hne : ∀ p ∈ l.take (plc l k) ++ l.drop (plc l k + 1), p.1 ≠ k := fun p hp e => by
    rw [hs, List.map_append, List.map_cons, List.nodup_append] at hnd
    obtain ⟨h1, h2, h3⟩ := hnd
    rw [List.nodup_cons] at h2
    rcases List.mem_append.1 hp with hp | hp
    · exact h3 p.1 (List.mem_map.2 ⟨p, hp, rfl⟩) (l.getD (plc l k) zG).1 List.mem_cons_self (by rw [e, hkk])
    · exact h2.1 (List.mem_map.2 ⟨p, hp, by rw [e, hkk]⟩)
  rw [List.filter_eq_self.2 fun p hp => by simpa using hne p (List.mem_append_left _ hp), List.filter_eq_self.2 fun p hp => by simpa using hne p (List.mem_append_right _ hp)]
/-- without the first j of some keys -/
def remK (l : ZL) (ks : List ByteArray) (j : Nat) : ZL := l.filter fun p => !(ks.take j).any fun k => decide (p.1 = k)
theorem remK_zero (l : ZL) (ks : List ByteArray) : remK l ks 0 = l := List.filter_eq_self.2 fun p _ => by simp
theorem remK_asc {l : ZL} (hA : Asc l) (ks : List ByteArray) (j : Nat) : Asc (remK l ks j) := hA.sublist List.filter_sublist
theorem ks_get {ks : List ByteArray} {j : Nat} (hj : j < ks.length) : ks.getD j noT = ks[j] := by rw [List.getD_eq_getElem?_getD, List.getElem?_eq_getElem hj]; rfl
theorem remK_step {l : ZL} (hA : Asc l) {ks : List ByteArray} {j : Nat} (hj : j < ks.length) (hk : hasK (remK l ks j) (ks.getD j noT) = true) : delL (remK l ks j) (plc (remK l ks j) (ks.getD j noT)) = remK l ks (j + 1) := by
  rw [del_filter (remK_asc hA ks j) hk]
  unfold remK
  rw [List.filter_filter]
  refine List.filter_congr fun p _ => ?_
  rw [ks_get hj, List.take_succ_eq_append_getElem hj, List.any_append]
  cases h2 : (ks.take j).any fun k => decide (p.1 = k) <;> by_cases h1 : p.1 = ks[j] <;> simp [h1]
theorem remK_has {l : ZL} (hA : Asc l) {ks : List ByteArray} {j : Nat} (hj : j < ks.length) (hsub : ∀ k ∈ ks, ∃ p ∈ l, p.1 = k) (hnd : ks.Nodup) : hasK (remK l ks j) (ks.getD j noT) = true := by
  obtain ⟨p, hp, hpk⟩ := hsub ks[j] (List.getElem_mem hj)
  have hn : ((ks.take j).any fun k => decide (p.1 = k)) = false := by
    rw [List.any_eq_false]
    intro k hk
    rw [decide_eq_true_eq]
    intro e
    obtain ⟨i, hi, he⟩ := List.mem_iff_getElem.1 hk
    rw [List.getElem_take] at he
    rw [List.length_take] at hi
    exact List.pairwise_iff_getElem.1 hnd i j (by omega) hj (by omega) (by rw [he, ← e, hpk])
  have := (has_mem (remK_asc hA ks j) (p := p) (List.mem_filter.2 ⟨hp, by rw [hn]; rfl⟩)).1
  rwa [hpk, ← ks_get hj] at this
theorem remK_len {l : ZL} (ks : List ByteArray) (j : Nat) : (remK l ks j).length ≤ l.length := List.length_filter_le _ _
end Go.Proofs.Yteabncomclgncaa
namespace Go.Proofs.Yteabncomclgncaa
set_option linter.unusedVariables false
set_option linter.unusedSimpArgs false
open Go.RowKit
set_option maxRecDepth 100000
set_option maxHeartbeats 4000000
def gP (g : Sl Int → Sl Int) (p : PIZ) : PIZ := (p.1, p.2.1, g p.2.2)
def zmid (l : ZL) (g : Sl Int → Sl Int) (i : Nat) : ZL := (l.take i).map (gP g) ++ l.drop i
theorem zmid_keys (l : ZL) (g : Sl Int → Sl Int) (i : Nat) : (zmid l g i).map (·.1) = l.map (·.1) := by
  unfold zmid
  rw [List.map_append, List.map_map]
  have : ((fun x : PIZ => x.1) ∘ gP g) = (·.1) := rfl
  rw [this, ← List.map_append, List.take_append_drop]
theorem zmid_len (l : ZL) (g : Sl Int → Sl Int) (i : Nat) : (zmid l g i).length = l.length := len_keys (zmid_keys l g i)
theorem zmid_get {l : ZL} {g : Sl Int → Sl Int} {i : Nat} (h : i < l.length) : (zmid l g i).getD i zG = l.getD i zG := by
  unfold zmid
  rw [List.getD_eq_getElem?_getD, List.getElem?_append_right (by simp; omega), List.length_map, List.length_take, Nat.min_eq_left (by omega), Nat.sub_self, List.getElem?_drop, Nat.add_zero, ← List.getD_eq_getElem?_getD]
theorem zmid_step {l : ZL} {g : Sl Int → Sl Int} {i : Nat} (h : i < l.length) : zmid l g (i + 1) = zup (zmid l g i) i (g (l.getD i zG).2.2) := by
  have hl : ((l.take i).map (gP g)).length = i := by simp; omega
  unfold zup
  rw [zmid_get h]
  unfold zmid
  rw [List.drop_eq_getElem_cons h, List.set_append_right _ _ (by omega), hl, Nat.sub_self, List.set_cons_zero, List.take_succ_eq_append_getElem h, List.map_append, List.append_assoc, zG_get h]
  rfl
theorem zmid_zero (l : ZL) (g : Sl Int → Sl Int) : zmid l g 0 = l := by simp [zmid]
theorem zmid_end (l : ZL) (g : Sl Int → Sl Int) : zmid l g l.length = l.map (gP g) := by simp [zmid]
def deadK (l : ZL) (i : Nat) : List ByteArray := ((l.take i).filter fun p => !p.2.2.live).map (·.1)
theorem deadK_step {l : ZL} {i : Nat} (h : i < l.length) : deadK l (i + 1) = if (l.getD i zG).2.2.live = true then deadK l i else deadK l i ++ [(l.getD i zG).1] := by
  unfold deadK
  rw [List.take_succ_eq_append_getElem h, List.filter_append, List.map_append, zG_get h]
  cases hl : (l[i]).2.2.live <;> simp [hl]
theorem deadK_len (l : ZL) (i : Nat) : (deadK l i).length ≤ l.length := by
  unfold deadK
  rw [List.length_map]
  exact Nat.le_trans (List.length_filter_le _ _) (by rw [List.length_take]; omega)
def lastO (l : ZL) (i : Nat) : Option ByteArray := if i = 0 then none else some (l.getD (i - 1) zG).1
theorem posO_at {l m : ZL} (hk : m.map (·.1) = l.map (·.1)) (hA : Asc l) {i : Nat} (hi : i ≤ l.length) : posO m noT (lastO l i) = i := by
  unfold lastO
  cases i with
  | zero => exact plc_no m
  | succ i =>
    rw [if_neg (by omega)]
    show aboveN m (l.getD (i + 1 - 1) zG).1 = i + 1
    rw [above_keys hk, show i + 1 - 1 = i by omega, above_at hA (by omega)]
def zsw (l : ZL) (g : Sl Int → Sl Int) : ZL := (l.map (gP g)).filter fun p => p.2.2.live
theorem asc_g {l : ZL} (hA : Asc l) (g : Sl Int → Sl Int) : Asc (l.map (gP g)) := by
  have := asc_keys (zmid_keys l g l.length) hA
  rwa [zmid_end] at this
theorem remK_end {l : ZL} {g : Sl Int → Sl Int} (hA : Asc l) (hg : ∀ s, (g s).live = s.live) : remK (l.map (gP g)) (deadK l l.length) (deadK l l.length).length = zsw l g := by
  unfold remK zsw
  rw [List.take_length]
  refine List.filter_congr fun p hp => ?_
  obtain ⟨q, hq, rfl⟩ := List.mem_map.1 hp
  show _ = (g q.2.2).live
  rw [hg]
  unfold deadK
  rw [List.take_length]
  cases hl : q.2.2.live with
  | true =>
    rw [Bool.not_eq_true']
    rw [List.any_eq_false]
    intro k hk
    rw [decide_eq_true_eq]
    intro e
    obtain ⟨r, hr, rfl⟩ := List.mem_map.1 hk
    obtain ⟨hr1, hr2⟩ := List.mem_filter.1 hr
    have h1 := (has_mem hA hq).2
    have h2 := (has_mem hA hr1).2
    have e : q.1 = r.1 := e
    rw [e] at h1
    rw [h1] at h2
    subst h2
    rw [hl] at hr2
    cases hr2
  | false =>
    rw [Bool.not_eq_false']
    rw [List.any_eq_true]
    exact ⟨q.1, List.mem_map.2 ⟨q, List.mem_filter.2 ⟨hq, by rw [hl]; rfl⟩, rfl⟩, decide_eq_true rfl⟩
theorem deadK_sub (l : ZL) (g : Sl Int → Sl Int) : ∀ k ∈ deadK l l.length, ∃ p ∈ l.map (gP g), p.1 = k := fun k hk => by
  unfold deadK at hk
  rw [List.take_length] at hk
  obtain ⟨q, hq, rfl⟩ := List.mem_map.1 hk
  exact ⟨gP g q, List.mem_map.2 ⟨q, (List.mem_filter.1 hq).1, rfl⟩, rfl⟩
theorem deadK_nodup {l : ZL} (hA : Asc l) : (deadK l l.length).Nodup := by
  unfold deadK
  rw [List.take_length]
  exact (asc_nodup hA).sublist (List.filter_sublist.map _)
theorem piF_zmid (l : ZL) (g : Sl Int → Sl Int) (i : Nat) : piFZ (zmid l g i) = piFZ l := by
  funext j
  unfold piFZ
  have h1 := get_keys (zmid_keys l g i) j
  have h2 : ((zmid l g i).getD j zG).2.1 = (l.getD j zG).2.1 := by
    have key : ∀ m : ZL, (m.getD j zG).2.1 = (m.map (·.2.1)).getD j (0 : Nat) := fun m => by
      simp only [List.getD_eq_getElem?_getD, List.getElem?_map]
      cases m[j]? <;> rfl
    rw [key, key]
    congr 1
    unfold zmid
    rw [List.map_append, List.map_map]
    have : ((fun x : PIZ => x.2.1) ∘ gP g) = (·.2.1) := rfl
    rw [this, ← List.map_append, List.take_append_drop]
  unfold piAZ
  rw [h1, h2]
theorem past_no (k : ByteArray) : past noT k = false := by unfold past; rw [neB_self]; rfl
theorem perm3 {α : Type} (a b c : α) (l : List α) : (a :: b :: c :: l).Perm (c :: a :: b :: l) := ((List.Perm.swap c b l).cons a).trans (List.Perm.swap c a (b :: l))
section
variable (f : FuncId) (g : Sl Int → Sl Int) (l : ZL) (c : Nat)
theorem sweep_specZ (hs : Int) (mk : Bool) (sp : ∀ s, Spec Try.prog f [.ptr 0 0 0 0] [slC s] 1 (σ := Unit) (fun _ => True) (fun _ => .raw (.bool (!s.live))) (fun _ => [(0, slC (g s))])) (hg : ∀ s, (g s).live = s.live) (eg : ∀ args w, (callFunc f args).run Try.prog w = .ok (.enter f args) w)
    (hA : Asc l) (hl : l.length ≤ 900000) (hc : l.length ≤ c) (hc2 : c ≤ 9223372036854775807) :
    SpecF Try.prog 55 [.ptr 0 0 0 0, .fn f []] [tbIZ 1 l.length c hs mk, tIZ l c] 3 (zF l) (σ := Unit) (fun _ => True)
    (fun _ => .tup []) (fun _ => [(0, tbIZ 2 (zsw l g).length c hs mk), (2, tIZ (zsw l g) c)]) (fun _ => zF (l.map (gP g))) := by
  refine SpecF.ofM Try.func55 rfl Try.ntmps55 rfl (bdl_cons rfl (bdl_cons (fun _ _ => rfl) (bdl_nil _))) fun ρ w => ?_
  repeat (first | refine C.seq ?_ | refine C.region ?_ | refine R.zb ttok ?_ | refine R.zu ttok ?_ | refine R.zc ttok ?_ | refine R.za ttok ?_ | refine R.zx ?_ | refine R.zl ttok ?_ | refine R.zs ttok ?_ | refine R.z ttok ?_ | refine R.zk ?_ | refine R.zn ?_ | refine R.done ?_ | refine X.then ?_ | refine C.block ?_ | refine C.ret ?_ | refine C.skip ?_ | refine C.exit ?_ | refine X.pass_ret ?_ | refine X.pass_exit ?_ | refine X.block_normal ?_ | refine X.block_ret ?_ | refine X.block_exit ?_ | refine C.zt ?_ | refine C.zf ?_ | refine X.zo ?_)
  refine R.cl [0] (rangeT_specZ noT noT) Try.call49 (by repeat (first | exact HasIn.nil | refine HasIn.same rfl rfl ?_ | refine HasIn.c1 rfl rfl ?_ | refine HasIn.other rfl (fun e => by cases e) (fun ρ x w hh => tab_ro hh) ?_ | refine HasIn.other rfl (fun e => by cases e) (fun ρ x w hh => tab_any hh) ?_ | refine HasIn.roA rfl rfl ?_ | refine HasIn.other rfl (fun e => by cases e) (fun ρ x w hh => cells_any hh) ?_)) rfl rfl rfl (fun _ => rfl) rfl (by kernel_rfl) fun _ _ => ?_
  repeat (first | refine C.seq ?_ | refine C.region ?_ | refine R.zb ttok ?_ | refine R.zu ttok ?_ | refine R.zc ttok ?_ | refine R.za ttok ?_ | refine R.zx ?_ | refine R.zl ttok ?_ | refine R.zs ttok ?_ | refine R.z ttok ?_ | refine R.zk ?_ | refine R.zn ?_ | refine R.done ?_ | refine X.then ?_ | refine C.block ?_ | refine C.ret ?_ | refine C.skip ?_ | refine C.exit ?_ | refine X.pass_ret ?_ | refine X.pass_exit ?_ | refine X.block_normal ?_ | refine X.block_ret ?_ | refine X.block_exit ?_ | refine C.zt ?_ | refine C.zf ?_ | refine X.zo ?_)
  refine C.noneH 3 [.sl 7 1 0 ([] : List ByteArray).length 0] (tX [] 0) (none_tab _ _ _ _) rfl rfl rfl (fun ρ h => by have h : ρ 7 = none := h; show [(AV.sl 7 1 0 0 0).conc ρ] = [Value.slice none 0 0]; simp [AV.conc, h]) ?_
  refine C.less [(8, 1)] 9 [(0, .ptr 0 0 0 0), (3, .ptr 2 0 0 0), (4, .ptr 3 0 0 0), (12, .fn rgZ [.ptr 4 0 0 0, .ptr 5 0 0 0, .ptr 6 0 0 0])] [(0, tbIZ 8 l.length c hs mk), (8, tIZ l c), (2, .cells [.fn f []] 110), (3, .cells [.sl 7 1 0 (deadK l ((0 : Nat))).length ((0 : Nat))] 22), (7, tX (deadK l ((0 : Nat))) ((0 : Nat))), (4, .cells [.ptr 0 0 0 0] 133), (5, .cells [.raw (.string noT)] 9), (6, .cells [.raw (.string noT)] 9)] _ rfl (by repeat (first | exact HasT.nil | refine HasT.cons rfl rfl rfl ?_)) (by repeat (first | exact HasH.nil | refine HasH.same rfl rfl rfl trivial ?_ | refine HasH.same rfl rfl rfl rfl ?_ | refine HasH.same rfl rfl rfl (fun _ _ => rfl) ?_ | refine HasH.ros rfl rfl ?_)) rfl (fun _ h => h) ?_
  have hz0 : zF l = zF (zmid l g 0) := by rw [zmid_zero]
  refine C.wk (F2 := FF _ ρ w (zF l) (zF (zmid l g 0))) (fun w' hf => hz0 ▸ hf) ?_
  refine C.range (σ := Nat × Nat) (α := ByteArray × Nat) (H := fun s => [(0, tbIZ 8 l.length c hs mk), (8, tIZ l c), (2, .cells [.fn f []] 110), (3, .cells [.sl 7 1 0 (deadK l (s.1)).length (s.2)] 22), (7, tX (deadK l (s.1)) (s.2)), (4, .cells [.ptr 0 0 0 0] 133), (5, .cells [.raw (.string noT)] 9), (6, .cells [.raw (.string noT)] 9)]) (HX := fun s => [(0, tbIZ 8 l.length c hs mk), (8, tIZ l c), (2, .cells [.fn f []] 110), (3, .cells [.sl 7 1 0 (deadK l (s.1)).length (s.2)] 22), (7, tX (deadK l (s.1)) (s.2)), (4, .cells [.ptr 0 0 0 0] 133), (5, .cells [.raw (.string noT)] 9), (6, .cells [.raw (.string noT)] 9)]) (fsI := fun s => zF (zmid l g s.1)) (fsX := fun s => zF (zmid l g s.1)) (u := fun x => .string x.1) (v := fun x => .pointer (some ⟨x.2, 0, none⟩)) 7 9 (0, 0) (fun s => s.1 ≤ l.length ∧ (deadK l s.1).length ≤ s.2 ∧ s.2 ≤ 9223372036854775807) (fun _ => False) _ _ _ _ _
    rfl Try.call78 ⟨Nat.zero_le _, Nat.le_refl _, by simp⟩ ?hi0 rfl (fun s _ => zF_cells) (fun s _ => zF_cells) ?hsee (fun ρ1 _ => rng1_itc (fun s : Nat × Nat => zmid l g s.1) (fun s => lastO l s.1) (fun s => l.length - s.1) ((ρ1 4).getD 0) ((ρ1 5).getD 0) ((ρ1 6).getD 0) ((ρ1 0).getD 0) noT noT) ?hround ?hdone (fun s D _ h => h.elim)
  case hi0 => rfl
  case hsee =>
    intro ρ1 ρ s W fs he hI _ gg
    have h1 := rsee_of gg (l := zmid l g s.1) (lt := 4) (lf := 5) (lo := 6) (ls := 0) (ll := 8) (fr := noT) (to := noT) (asc_keys (zmid_keys l g s.1) hA) (by rw [zmid_len]; omega) rfl rfl rfl (by rw [zmid_len]; rfl) (by rw [piF_zmid, zmid_len]; rfl)
    rw [he 4 (by decide), he 5 (by decide), he 6 (by decide), he 0 (by decide)] at h1
    exact h1
  case hround =>
    rintro ρ1 lb D r XF ⟨i, cg⟩ x hpin hr hpe hlb hX ⟨hi, hcg, hcg2⟩ ⟨i', hi', hlt, rfl, _⟩
    dsimp only at hi hcg hcg2 hi' hlt ⊢
    rw [posO_at (zmid_keys l g i) hA hi] at hi'
    subst hi'
    rw [zmid_len] at hlt
    rw [zmid_get hlt]
    obtain ⟨p, hp⟩ : ∃ p, l.getD i zG = p := ⟨_, rfl⟩
    rw [hp]
    have hltm : i < (zmid l g i).length := by rw [zmid_len]; exact hlt
    have hperm := zF_del hltm
    have hup := zF_up hltm (g p.2.2)
    have hstep := zmid_step (g := g) hlt
    rw [zmid_get hlt, hp] at hperm hup
    rw [hp] at hstep
    rw [← hstep] at hup
    have hpk : ((zmid l g i).getD i zG).1 = p.1 := by rw [zmid_get hlt, hp]
    have hla : lastO l (i + 1) = some p.1 := by unfold lastO; rw [if_neg (by omega), show i + 1 - 1 = i by omega, hp]
    have hdk := deadK_step hlt
    rw [hp] at hdk
    have hfac : ∀ m : ZL, ∀ y ∈ dFact D :: (zF m ++ XF), FactC lb y := fun m y hy => by
      rcases List.mem_cons.1 hy with rfl | hy
      · exact .inr (.inl rfl)
      · rcases List.mem_append.1 hy with hy | hy
        · exact .inl (zF_cells y hy)
        · exact .inr (.inr (hX y hy).2)
    refine CR.seq ?_
    refine CR.region ?_
    repeat (first | refine R.zb ttok ?_ | refine R.zu ttok ?_ | refine R.zc ttok ?_ | refine R.za ttok ?_ | refine R.zx ?_ | refine R.zl ttok ?_ | refine R.zs ttok ?_ | refine R.z ttok ?_ | refine R.zk ?_ | refine R.zn ?_)
    refine R.done ?_
    refine X.thenR ?_
    refine CR.region ?_
    repeat (first | refine R.zb ttok ?_ | refine R.zu ttok ?_ | refine R.zc ttok ?_ | refine R.za ttok ?_ | refine R.zx ?_ | refine R.zl ttok ?_ | refine R.zs ttok ?_ | refine R.z ttok ?_ | refine R.zk ?_ | refine R.zn ?_)
    refine R.done ?_
    refine X.begin_ (hfac _) hlb hr ?_
    refine CR.block ?_
    refine CR.thawZ (H0 := [tbIZ 1 l.length c hs mk, tIZ l c]) (R0 := ρ) (by show 2 ≤ 7; omega) (fun k hk => hpin k hk) (by kernel_rfl) p (rFact lb { r with state := .busy } :: dFact D :: (zF (delL (zmid l g i) i) ++ XF)) ((List.Perm.append_right XF hperm).cons _ |>.cons _ |>.trans (perm3 _ _ _ _)) (by show 7 ≤ 9; omega) fun ρ2 hρ2 hρb => ?_
    have hρb : ρ2 9 = some p.2.1 := hρb
    repeat (first | refine CR.seq ?_ | refine CR.region ?_ | refine R.zb ttok ?_ | refine R.zu ttok ?_ | refine R.zc ttok ?_ | refine R.za ttok ?_ | refine R.zx ?_ | refine R.zl ttok ?_ | refine R.zs ttok ?_ | refine R.z ttok ?_ | refine R.zk ?_ | refine R.zn ?_ | refine R.done ?_ | refine X.thenR ?_ | refine CR.block ?_ | refine CR.skip ?_ | refine CR.ret ?_ | refine CR.tru (by exact rfl) ?_ | refine CR.fls (by exact rfl) ?_ | refine X.pass_ret ?_ | refine X.pass_exit ?_ | refine X.block_normal ?_ | refine X.block_ret ?_ | refine X.block_exit ?_)
    refine R.name 16 (.ptr 9 0 0 0) rfl (fun ρ3 h => by
      have h8 : ρ3 9 = some p.2.1 := (h 9 (by show 9 < 10; omega)).trans hρb
      simp [AV.conc, h8]) rfl ?_
    refine R.cl [9] (sp p.2.2) eg (.same rfl rfl .nil) rfl rfl rfl (fun _ => rfl) rfl (by kernel_rfl) fun _ _ => ?_
    refine R.done ?_
    refine X.thenR ?_
    refine CR.frzZ 9 (s := g p.2.2) rfl (by show 9 < 10; omega) hρb fun _ => ?_
    refine CR.unpin (E := ⟨7, ρ1, []⟩) (by show 7 ≤ 10; omega) (fun k hk => hρ2 k hk) ?_
    refine CR.fperm ((perm3 _ _ _ _).symm.trans (((List.Perm.append_right XF hup.symm).cons _).cons _)) ?_
    cases hlv : p.2.2.live with
    | true =>
      rw [hlv, if_pos rfl] at hdk
      repeat (first | refine CR.seq ?_ | refine CR.region ?_ | refine R.zb ttok ?_ | refine R.zu ttok ?_ | refine R.zc ttok ?_ | refine R.za ttok ?_ | refine R.zx ?_ | refine R.zl ttok ?_ | refine R.zs ttok ?_ | refine R.z ttok ?_ | refine R.zk ?_ | refine R.zn ?_ | refine R.done ?_ | refine X.thenR ?_ | refine CR.block ?_ | refine CR.skip ?_ | refine CR.ret ?_ | refine CR.tru (by exact rfl) ?_ | refine CR.fls (by exact rfl) ?_ | refine X.pass_ret ?_ | refine X.pass_exit ?_ | refine X.block_normal ?_ | refine X.block_ret ?_ | refine X.block_exit ?_)
      refine X.next [] (i + 1, cg) ⟨hlt, by rw [hdk]; exact hcg, hcg2⟩ ⟨hla, by dsimp only; omega⟩ hr hpe rfl rfl (by
        show HasH _ _ _ [(0, tbIZ 8 l.length c hs mk), (8, tIZ l c), (2, .cells [.fn f []] 110), (3, .cells [.sl 7 1 0 (deadK l ((i + 1))).length (cg)] 22), (7, tX (deadK l ((i + 1))) (cg)), (4, .cells [.ptr 0 0 0 0] 133), (5, .cells [.raw (.string noT)] 9), (6, .cells [.raw (.string noT)] 9)]
        rw [hdk]
        exact (by repeat (first | exact HasH.nil | refine HasH.same rfl rfl rfl trivial ?_ | refine HasH.same rfl rfl rfl rfl ?_ | refine HasH.same rfl rfl rfl (fun _ _ => rfl) ?_))) rfl hlb (hfac _) (fun w' hf => hf.less (fun y hy => by
          rcases List.mem_cons.1 hy with rfl | hy
          · exact List.mem_cons_self
          · exact List.mem_cons_of_mem _ (List.mem_append_left _ hy)) (hf.ap.sublist ((List.sublist_append_left _ _).cons_cons _))) (fun y hy => by
          rcases List.mem_cons.1 hy with rfl | hy
          · exact .inr (.inl rfl)
          · exact .inl (zF_cells y hy)) (fun y hy => List.mem_cons_of_mem _ (List.mem_append_right _ hy))
    | false =>
      rw [hlv, if_neg (by decide)] at hdk
      repeat (first | refine CR.seq ?_ | refine CR.region ?_ | refine R.zb ttok ?_ | refine R.zu ttok ?_ | refine R.zc ttok ?_ | refine R.za ttok ?_ | refine R.zx ?_ | refine R.zl ttok ?_ | refine R.zs ttok ?_ | refine R.z ttok ?_ | refine R.zk ?_ | refine R.zn ?_ | refine R.done ?_ | refine X.thenR ?_ | refine CR.block ?_ | refine CR.skip ?_ | refine CR.ret ?_ | refine CR.tru (by exact rfl) ?_ | refine CR.fls (by exact rfl) ?_ | refine X.pass_ret ?_ | refine X.pass_exit ?_ | refine X.block_normal ?_ | refine X.block_ret ?_ | refine X.block_exit ?_)
      have hkl := deadK_len l i
      have hlen : (deadK l i ++ [p.1]).length = (deadK l i).length + 1 := by rw [List.length_append]; rfl
      refine R.app (xs := txs (deadK l i)) (news := txs [p.1]) ttok (fun c => tX (deadK l i ++ [p.1]) c) rfl rfl (dstTx rfl) (SrcA.cells rfl rfl) (asTx _ _ _ (by unfold txs; rw [List.map_append])) rfl rfl rfl rfl rfl rfl (by decide) rfl rfl rfl (by kernel_rfl) hcg2 (by show ((deadK l i).length + 1) * 16 ≤ _; omega) (by omega) fun cN hcN hcN2 => ?_
      rw [← hlen] at hcN ⊢
      repeat (first | refine CR.seq ?_ | refine CR.region ?_ | refine R.zb ttok ?_ | refine R.zu ttok ?_ | refine R.zc ttok ?_ | refine R.za ttok ?_ | refine R.zx ?_ | refine R.zl ttok ?_ | refine R.zs ttok ?_ | refine R.z ttok ?_ | refine R.zk ?_ | refine R.zn ?_ | refine R.done ?_ | refine X.thenR ?_ | refine CR.block ?_ | refine CR.skip ?_ | refine CR.ret ?_ | refine CR.tru (by exact rfl) ?_ | refine CR.fls (by exact rfl) ?_ | refine X.pass_ret ?_ | refine X.pass_exit ?_ | refine X.block_normal ?_ | refine X.block_ret ?_ | refine X.block_exit ?_)
      refine X.next [(7, 11)] (i + 1, cN) ⟨hlt, by rw [hdk]; exact hcN, hcN2⟩ ⟨hla, by dsimp only; omega⟩ hr hpe rfl rfl (by
        show HasH _ _ _ [(0, tbIZ 8 l.length c hs mk), (8, tIZ l c), (2, .cells [.fn f []] 110), (3, .cells [.sl 7 1 0 (deadK l ((i + 1))).length (cN)] 22), (7, tX (deadK l ((i + 1))) (cN)), (4, .cells [.ptr 0 0 0 0] 133), (5, .cells [.raw (.string noT)] 9), (6, .cells [.raw (.string noT)] 9)]
        rw [hdk]
        exact (by repeat (first | exact HasH.nil | refine HasH.same rfl rfl rfl trivial ?_ | refine HasH.same rfl rfl rfl rfl ?_ | refine HasH.same rfl rfl rfl (fun _ _ => rfl) ?_))) rfl hlb (hfac _) (fun w' hf => hf.less (fun y hy => by
          rcases List.mem_cons.1 hy with rfl | hy
          · exact List.mem_cons_self
          · exact List.mem_cons_of_mem _ (List.mem_append_left _ hy)) (hf.ap.sublist ((List.sublist_append_left _ _).cons_cons _))) (fun y hy => by
          rcases List.mem_cons.1 hy with rfl | hy
          · exact .inr (.inl rfl)
          · exact .inl (zF_cells y hy)) (fun y hy => List.mem_cons_of_mem _ (List.mem_append_right _ hy))
  case hdone =>
    rintro ⟨i, cg⟩ D hD ⟨hi, hcg, hcg2⟩ hFin
    dsimp only at hi hcg hcg2 hFin ⊢
    rw [posO_at (zmid_keys l g i) hA hi, zmid_len, past_no] at hFin
    obtain rfl : i = l.length := by
      rcases Nat.lt_or_ge i l.length with h | h
      · cases hFin h
      · omega
    rw [zmid_end]
    obtain ⟨M, hM⟩ : ∃ M, l.map (gP g) = M := ⟨_, rfl⟩
    have hMA : Asc M := by rw [← hM]; exact asc_g hA g
    have hML : M.length = l.length := by rw [← hM, List.length_map]
    have hMF : piFZ M = piFZ l := by rw [← hM, ← zmid_end, piF_zmid]
    have hend := remK_end hA hg
    have hsub := deadK_sub l g
    have hnd := deadK_nodup hA
    obtain ⟨ks, hks⟩ : ∃ ks, deadK l l.length = ks := ⟨_, rfl⟩
    have hkl := deadK_len l l.length
    rw [hM] at hend hsub ⊢
    rw [hks] at hend hsub hnd hcg hkl ⊢
    repeat (first | refine C.seq ?_ | refine C.region ?_ | refine R.zb ttok ?_ | refine R.zu ttok ?_ | refine R.zc ttok ?_ | refine R.za ttok ?_ | refine R.zx ?_ | refine R.zl ttok ?_ | refine R.zs ttok ?_ | refine R.z ttok ?_ | refine R.zk ?_ | refine R.zn ?_ | refine R.done ?_ | refine X.then ?_ | refine C.block ?_ | refine C.ret ?_ | refine C.skip ?_ | refine C.exit ?_ | refine X.pass_ret ?_ | refine X.pass_exit ?_ | refine X.block_normal ?_ | refine X.block_ret ?_ | refine X.block_exit ?_ | refine C.zt ?_ | refine C.zf ?_ | refine X.zo ?_)
    refine C.loop (σ := Nat) (L2 := 9) (fun j => j ≤ ks.length) (fun j => [(0, .ptr 0 0 0 0), (22, .sl 7 1 0 ks.length cg), (23, .raw (.int .i64 ks.length)), (24, .raw (.int .i64 (j : Nat)))]) (fun j => [(0, tbIZ 8 (remK M ks j).length c hs mk), (8, tIZ (remK M ks j) c), (7, tX ks cg)]) _ (fun j => ks.length - j) [] 0 (Nat.zero_le _) rfl (by repeat (first | exact HasT.nil | refine HasT.cons rfl rfl rfl ?_)) (by
      show HasH _ _ _ [(0, tbIZ 8 (remK M ks 0).length c hs mk), (8, tIZ (remK M ks 0) c), (7, tX ks cg)]
      rw [remK_zero]
      unfold tIZ
      rw [hML, hMF]
      exact (by repeat (first | exact HasH.nil | refine HasH.same rfl rfl rfl trivial ?_ | refine HasH.same rfl rfl rfl rfl ?_ | refine HasH.same rfl rfl rfl (fun _ _ => rfl) ?_))) rfl (fun _ h => h) ?_
    rintro j hj
    repeat (first | refine C.seq ?_ | refine C.region ?_ | refine R.zb ttok ?_ | refine R.zu ttok ?_ | refine R.zc ttok ?_ | refine R.za ttok ?_ | refine R.zx ?_ | refine R.zl ttok ?_ | refine R.zs ttok ?_ | refine R.z ttok ?_ | refine R.zk ?_ | refine R.zn ?_ | refine R.done ?_ | refine X.then ?_ | refine C.block ?_ | refine C.ret ?_ | refine C.skip ?_ | refine C.exit ?_ | refine X.pass_ret ?_ | refine X.pass_exit ?_ | refine X.block_normal ?_ | refine X.block_ret ?_ | refine X.block_exit ?_ | refine C.zt ?_ | refine C.zf ?_ | refine X.zo ?_)
    have hrl := remK_len (l := M) ks j
    by_cases hlt : (j : Int) < (ks.length : Nat)
    · rw [decide_eq_true hlt]
      have hlt : j < ks.length := by omega
      have hhas := remK_has hMA hlt hsub hnd
      have hstep := remK_step hMA hlt hhas
      repeat (first | refine C.seq ?_ | refine C.region ?_ | refine R.zb ttok ?_ | refine R.zu ttok ?_ | refine R.zc ttok ?_ | refine R.za ttok ?_ | refine R.zx ?_ | refine R.zl ttok ?_ | refine R.zs ttok ?_ | refine R.z ttok ?_ | refine R.zk ?_ | refine R.zn ?_ | refine R.done ?_ | refine X.then ?_ | refine C.block ?_ | refine C.ret ?_ | refine C.skip ?_ | refine C.exit ?_ | refine X.pass_ret ?_ | refine X.pass_exit ?_ | refine X.block_normal ?_ | refine X.block_ret ?_ | refine X.block_exit ?_ | refine C.zt ?_ | refine C.zf ?_ | refine X.zo ?_)
      refine R.ix ttok j rfl rfl rfl rfl rfl (by kernel_rfl) rfl hlt (by show _ < _; omega) rfl ?_
      rw [Nat.zero_add j]
      refine R.ldt (v := .raw (.string (ks.getD j noT))) ttok rfl rfl rfl rfl rfl (by kernel_rfl) hlt ?_
      repeat (first | refine C.seq ?_ | refine C.region ?_ | refine R.zb ttok ?_ | refine R.zu ttok ?_ | refine R.zc ttok ?_ | refine R.za ttok ?_ | refine R.zx ?_ | refine R.zl ttok ?_ | refine R.zs ttok ?_ | refine R.z ttok ?_ | refine R.zk ?_ | refine R.zn ?_ | refine R.done ?_ | refine X.then ?_ | refine C.block ?_ | refine C.ret ?_ | refine C.skip ?_ | refine C.exit ?_ | refine X.pass_ret ?_ | refine X.pass_exit ?_ | refine X.block_normal ?_ | refine X.block_ret ?_ | refine X.block_exit ?_ | refine C.zt ?_ | refine C.zf ?_ | refine X.zo ?_)
      refine R.cl [0, 8] (delI_specZ (remK M ks j) c (ks.getD j noT) hs mk (remK_asc hMA ks j) (by omega) (by omega) hc2 hhas) Try.call59 (by repeat (first | exact HasIn.nil | refine HasIn.same rfl rfl ?_ | refine HasIn.c1 rfl rfl ?_ | refine HasIn.other rfl (fun e => by cases e) (fun ρ x w hh => tab_ro hh) ?_ | refine HasIn.other rfl (fun e => by cases e) (fun ρ x w hh => tab_any hh) ?_ | refine HasIn.roA rfl rfl ?_ | refine HasIn.other rfl (fun e => by cases e) (fun ρ x w hh => cells_any hh) ?_)) rfl rfl rfl (fun _ => rfl) rfl (by kernel_rfl) fun _ _ => ?_
      repeat (first | refine C.seq ?_ | refine C.region ?_ | refine R.zb ttok ?_ | refine R.zu ttok ?_ | refine R.zc ttok ?_ | refine R.za ttok ?_ | refine R.zx ?_ | refine R.zl ttok ?_ | refine R.zs ttok ?_ | refine R.z ttok ?_ | refine R.zk ?_ | refine R.zn ?_ | refine R.done ?_ | refine X.then ?_ | refine C.block ?_ | refine C.ret ?_ | refine C.skip ?_ | refine C.exit ?_ | refine X.pass_ret ?_ | refine X.pass_exit ?_ | refine X.block_normal ?_ | refine X.block_ret ?_ | refine X.block_exit ?_ | refine C.zt ?_ | refine C.zf ?_ | refine X.zo ?_)
      have hln := delL_len (remK M ks j) _ (hasK_lt hhas).1
      rw [hstep] at hln ⊢
      rw [← hln]
      exact X.back [] (j + 1) hlt (by omega) rfl (by repeat (first | exact HasT.nil | refine HasT.cons rfl rfl rfl ?_)) (by repeat (first | exact HasH.nil | refine HasH.same rfl rfl rfl trivial ?_ | refine HasH.same rfl rfl rfl rfl ?_ | refine HasH.same rfl rfl rfl (fun _ _ => rfl) ?_ | refine HasH.ros rfl rfl ?_)) rfl (fun _ h => h)
    · rw [decide_eq_false hlt]
      obtain rfl : j = ks.length := by omega
      rw [hend]
      repeat (first | refine C.seq ?_ | refine C.region ?_ | refine R.zb ttok ?_ | refine R.zu ttok ?_ | refine R.zc ttok ?_ | refine R.za ttok ?_ | refine R.zx ?_ | refine R.zl ttok ?_ | refine R.zs ttok ?_ | refine R.z ttok ?_ | refine R.zk ?_ | refine R.zn ?_ | refine R.done ?_ | refine X.then ?_ | refine C.block ?_ | refine C.ret ?_ | refine C.skip ?_ | refine C.exit ?_ | refine X.pass_ret ?_ | refine X.pass_exit ?_ | refine X.block_normal ?_ | refine X.block_ret ?_ | refine X.block_exit ?_ | refine C.zt ?_ | refine C.zf ?_ | refine X.zo ?_)
      refine X.finM ttok () [(2, 8)] trivial rfl rfl rfl (by repeat (first | exact HasH.nil | refine HasH.same rfl rfl rfl trivial ?_ | refine HasH.same rfl rfl rfl rfl ?_ | refine HasH.same rfl rfl rfl (fun _ _ => rfl) ?_)) _ (by first | exact .inl rfl | exact .inr rfl) hD zF_cells ?_ ?_ ?_
      · exact fun w' hf => hf.ap
      · exact fun y hy => hy
      · intro y hy _
        obtain ⟨q, hq, rfl⟩ := List.mem_map.1 hy
        exact ⟨zfact (gP g q), List.mem_map.2 ⟨gP g q, by rw [← hM]; exact List.mem_map.2 ⟨q, hq, rfl⟩, rfl⟩, rfl⟩
end
theorem zsw_perm (l : ZL) (g : Sl Int → Sl Int) : ∃ G : Fam, (zF (l.map (gP g))).Perm (zF (zsw l g) ++ G) := by
  refine ⟨zF ((l.map (gP g)).filter fun p => !p.2.2.live), ?_⟩
  unfold zsw zF
  rw [← List.map_append]
  exact (List.filter_append_perm _ _).symm.map _
theorem cov_g (l : ZL) (g : Sl Int → Sl Int) : Cov (zF l) (zF (l.map (gP g))) := fun y hy _ => by
  obtain ⟨q, hq, rfl⟩ := List.mem_map.1 hy
  exact ⟨zfact (gP g q), List.mem_map.2 ⟨gP g q, List.mem_map.2 ⟨q, hq, rfl⟩, rfl⟩, rfl⟩
section
variable (l : ZL) (c : Nat)
theorem mark_specZ (hs : Int) (mk : Bool) (hA : Asc l) (hl : l.length ≤ 900000) (hc : l.length ≤ c) (hc2 : c ≤ 9223372036854775807) :
    SpecF Try.prog 25 [.ptr 0 0 0 0] [tbIZ 1 l.length c hs mk, tIZ l c] 3 (zF l) (σ := Fam) (fun G => Cov (zF l) (zF (if mk then l else zsw l Sl.mark) ++ G))
    (fun _ => .raw (.int .i64 (if mk then 18 else 0))) (fun _ => [(0, tbIZ 2 (if mk then l else zsw l Sl.mark).length c hs true), (2, tIZ (if mk then l else zsw l Sl.mark) c)]) (fun G => zF (if mk then l else zsw l Sl.mark) ++ G) := by
  refine SpecF.of Try.func25 rfl Try.ntmps25 rfl (bdl_cons rfl (bdl_cons (fun _ _ => rfl) (bdl_nil _))) fun ρ w => ?_
  cases mk with
  | true =>
    rw [if_pos rfl, if_pos rfl]
    repeat (first | refine C.seq ?_ | refine C.region ?_ | refine R.zb ttok ?_ | refine R.zu ttok ?_ | refine R.zc ttok ?_ | refine R.za ttok ?_ | refine R.zx ?_ | refine R.zl ttok ?_ | refine R.zs ttok ?_ | refine R.z ttok ?_ | refine R.zk ?_ | refine R.zn ?_ | refine R.done ?_ | refine X.then ?_ | refine C.block ?_ | refine C.ret ?_ | refine C.skip ?_ | refine C.exit ?_ | refine X.pass_ret ?_ | refine X.pass_exit ?_ | refine X.block_normal ?_ | refine X.block_ret ?_ | refine X.block_exit ?_ | refine C.zt ?_ | refine C.zf ?_ | refine X.zo ?_)
    refine X.finF ttok ([] : Fam) [(2, 1)] (by rw [List.append_nil]; exact Cov.refl _) rfl rfl rfl (by repeat (first | exact HasH.nil | refine HasH.same rfl rfl rfl trivial ?_ | refine HasH.same rfl rfl rfl rfl ?_ | refine HasH.same rfl rfl rfl (fun _ _ => rfl) ?_ | refine HasH.ros rfl rfl ?_)) _ (by first | exact .inl rfl | exact .inr rfl) ?_ ?_ ?_
    · rw [List.append_nil]; exact fun w' hf => hf.ap
    · rw [List.append_nil]; exact fun x hx => hx
    · exact fun x hx _ => ⟨x, hx, rfl⟩
  | false =>
    rw [if_neg (by decide), if_neg (by decide)]
    repeat (first | refine C.seq ?_ | refine C.region ?_ | refine R.zb ttok ?_ | refine R.zu ttok ?_ | refine R.zc ttok ?_ | refine R.za ttok ?_ | refine R.zx ?_ | refine R.zl ttok ?_ | refine R.zs ttok ?_ | refine R.z ttok ?_ | refine R.zk ?_ | refine R.zn ?_ | refine R.done ?_ | refine X.then ?_ | refine C.block ?_ | refine C.ret ?_ | refine C.skip ?_ | refine C.exit ?_ | refine X.pass_ret ?_ | refine X.pass_exit ?_ | refine X.block_normal ?_ | refine X.block_ret ?_ | refine X.block_exit ?_ | refine C.zt ?_ | refine C.zf ?_ | refine X.zo ?_)
    refine R.clF [0, 1] (sweep_specZ 56 Sl.mark l c hs true mark1_specZ (fun s => rfl) Try.call56 hA hl hc hc2) (Nat.le_refl _) (fun _ _ => rfl) Try.call55 (by repeat (first | exact HasIn.nil | refine HasIn.same rfl rfl ?_ | refine HasIn.c1 rfl rfl ?_ | refine HasIn.other rfl (fun e => by cases e) (fun ρ x w hh => tab_ro hh) ?_ | refine HasIn.other rfl (fun e => by cases e) (fun ρ x w hh => tab_any hh) ?_ | refine HasIn.roA rfl rfl ?_ | refine HasIn.other rfl (fun e => by cases e) (fun ρ x w hh => cells_any hh) ?_)) rfl rfl rfl (fun _ => rfl) rfl (by kernel_rfl) fun _ _ => ?_
    obtain ⟨G, hG⟩ := zsw_perm l Sl.mark
    repeat (first | refine C.seq ?_ | refine C.region ?_ | refine R.zb ttok ?_ | refine R.zu ttok ?_ | refine R.zc ttok ?_ | refine R.za ttok ?_ | refine R.zx ?_ | refine R.zl ttok ?_ | refine R.zs ttok ?_ | refine R.z ttok ?_ | refine R.zk ?_ | refine R.zn ?_ | refine R.done ?_ | refine X.then ?_ | refine C.block ?_ | refine C.ret ?_ | refine C.skip ?_ | refine C.exit ?_ | refine X.pass_ret ?_ | refine X.pass_exit ?_ | refine X.block_normal ?_ | refine X.block_ret ?_ | refine X.block_exit ?_ | refine C.zt ?_ | refine C.zf ?_ | refine X.zo ?_)
    refine X.fperm hG ?_
    have hcov : Cov (zF l) (zF (zsw l Sl.mark) ++ G) := (cov_g l Sl.mark).right (fun x hx => hG.subset hx)
    refine X.finF ttok G [] hcov rfl rfl rfl (by repeat (first | exact HasH.nil | refine HasH.same rfl rfl rfl trivial ?_ | refine HasH.same rfl rfl rfl rfl ?_ | refine HasH.same rfl rfl rfl (fun _ _ => rfl) ?_ | refine HasH.ros rfl rfl ?_)) _ (by first | exact .inl rfl | exact .inr rfl) ?_ ?_ ?_
    · exact fun w' hf => hf.ap
    · exact fun x hx => hx
    · exact (cov_g l Sl.mark).right (fun x hx => hG.subset hx)
theorem done_specZ (hs : Int) (mk : Bool) (hA : Asc l) (hl : l.length ≤ 900000) (hc : l.length ≤ c) (hc2 : c ≤ 9223372036854775807) :
    SpecF Try.prog 29 [.ptr 0 0 0 0] [tbIZ 1 l.length c hs mk, tIZ l c] 3 (zF l) (σ := Fam) (fun G => Cov (zF l) (zF (if mk then zsw l id else l) ++ G))
    (fun _ => .raw (.int .i64 (if mk then 0 else 19))) (fun _ => [(0, tbIZ 2 (if mk then zsw l id else l).length c hs false), (2, tIZ (if mk then zsw l id else l) c)]) (fun G => zF (if mk then zsw l id else l) ++ G) := by
  refine SpecF.of Try.func29 rfl Try.ntmps29 rfl (bdl_cons rfl (bdl_cons (fun _ _ => rfl) (bdl_nil _))) fun ρ w => ?_
  cases mk with
  | true =>
    rw [if_pos rfl, if_pos rfl]
    repeat (first | refine C.seq ?_ | refine C.region ?_ | refine R.zb ttok ?_ | refine R.zu ttok ?_ | refine R.zc ttok ?_ | refine R.za ttok ?_ | refine R.zx ?_ | refine R.zl ttok ?_ | refine R.zs ttok ?_ | refine R.z ttok ?_ | refine R.zk ?_ | refine R.zn ?_ | refine R.done ?_ | refine X.then ?_ | refine C.block ?_ | refine C.ret ?_ | refine C.skip ?_ | refine C.exit ?_ | refine X.pass_ret ?_ | refine X.pass_exit ?_ | refine X.block_normal ?_ | refine X.block_ret ?_ | refine X.block_exit ?_ | refine C.zt ?_ | refine C.zf ?_ | refine X.zo ?_)
    refine R.clF [0, 1] (sweep_specZ 57 id l c hs false done1_specZ (fun s => rfl) Try.call57 hA hl hc hc2) (Nat.le_refl _) (fun _ _ => rfl) Try.call55 (by repeat (first | exact HasIn.nil | refine HasIn.same rfl rfl ?_ | refine HasIn.c1 rfl rfl ?_ | refine HasIn.other rfl (fun e => by cases e) (fun ρ x w hh => tab_ro hh) ?_ | refine HasIn.other rfl (fun e => by cases e) (fun ρ x w hh => tab_any hh) ?_ | refine HasIn.roA rfl rfl ?_ | refine HasIn.other rfl (fun e => by cases e) (fun ρ x w hh => cells_any hh) ?_)) rfl rfl rfl (fun _ => rfl) rfl (by kernel_rfl) fun _ _ => ?_
    obtain ⟨G, hG⟩ := zsw_perm l id
    repeat (first | refine C.seq ?_ | refine C.region ?_ | refine R.zb ttok ?_ | refine R.zu ttok ?_ | refine R.zc ttok ?_ | refine R.za ttok ?_ | refine R.zx ?_ | refine R.zl ttok ?_ | refine R.zs ttok ?_ | refine R.z ttok ?_ | refine R.zk ?_ | refine R.zn ?_ | refine R.done ?_ | refine X.then ?_ | refine C.block ?_ | refine C.ret ?_ | refine C.skip ?_ | refine C.exit ?_ | refine X.pass_ret ?_ | refine X.pass_exit ?_ | refine X.block_normal ?_ | refine X.block_ret ?_ | refine X.block_exit ?_ | refine C.zt ?_ | refine C.zf ?_ | refine X.zo ?_)
    refine X.fperm hG ?_
    have hcov : Cov (zF l) (zF (zsw l id) ++ G) := (cov_g l id).right (fun x hx => hG.subset hx)
    refine X.finF ttok G [] hcov rfl rfl rfl (by repeat (first | exact HasH.nil | refine HasH.same rfl rfl rfl trivial ?_ | refine HasH.same rfl rfl rfl rfl ?_ | refine HasH.same rfl rfl rfl (fun _ _ => rfl) ?_ | refine HasH.ros rfl rfl ?_)) _ (by first | exact .inl rfl | exact .inr rfl) ?_ ?_ ?_
    · exact fun w' hf => hf.ap
    · exact fun x hx => hx
    · exact (cov_g l id).right (fun x hx => hG.subset hx)
  | false =>
    rw [if_neg (by decide), if_neg (by decide)]
    repeat (first | refine C.seq ?_ | refine C.region ?_ | refine R.zb ttok ?_ | refine R.zu ttok ?_ | refine R.zc ttok ?_ | refine R.za ttok ?_ | refine R.zx ?_ | refine R.zl ttok ?_ | refine R.zs ttok ?_ | refine R.z ttok ?_ | refine R.zk ?_ | refine R.zn ?_ | refine R.done ?_ | refine X.then ?_ | refine C.block ?_ | refine C.ret ?_ | refine C.skip ?_ | refine C.exit ?_ | refine X.pass_ret ?_ | refine X.pass_exit ?_ | refine X.block_normal ?_ | refine X.block_ret ?_ | refine X.block_exit ?_ | refine C.zt ?_ | refine C.zf ?_ | refine X.zo ?_)
    refine X.finF ttok ([] : Fam) [(2, 1)] (by rw [List.append_nil]; exact Cov.refl _) rfl rfl rfl (by repeat (first | exact HasH.nil | refine HasH.same rfl rfl rfl trivial ?_ | refine HasH.same rfl rfl rfl rfl ?_ | refine HasH.same rfl rfl rfl (fun _ _ => rfl) ?_ | refine HasH.ros rfl rfl ?_)) _ (by first | exact .inl rfl | exact .inr rfl) ?_ ?_ ?_
    · rw [List.append_nil]; exact fun w' hf => hf.ap
    · rw [List.append_nil]; exact fun x hx => hx
    · exact fun x hx _ => ⟨x, hx, rfl⟩
end
end Go.Proofs.Yteabncomclgncaa
namespace Go.Proofs.Yteabncomclgncaa
set_option linter.unusedVariables false
set_option linter.unusedSimpArgs false
open Go.RowKit
set_option maxRecDepth 100000
set_option maxHeartbeats 4000000
abbrev snZ : FuncId := 53
abbrev rsZ : FuncId := 48
abbrev spT : TypeId := 38
abbrev strT : TypeId := 9
abbrev intT : TypeId := 3
theorem snap_specZ (ab : ByteArray) : Spec Try.prog 24 [.ptr 0 0 0 0, .raw (.string ab)] [anyO] 3 (σ := Unit) (fun _ => True)
    (fun _ => .fn snZ [.ptr 1 0 0 0, .ptr 2 0 0 0]) (fun _ => [(1, .cells [.ptr 0 0 0 0] spT), (2, .cells [.raw (.string ab)] strT)]) := by
  refine Spec.of Try.func24 rfl Try.ntmps24 rfl (bdl_cons (any_bd _) (bdl_nil _)) fun ρ w => ?_
  repeat (first | refine C.seq ?_ | refine C.region ?_ | refine R.zb ttok ?_ | refine R.zu ttok ?_ | refine R.zc ttok ?_ | refine R.za ttok ?_ | refine R.zx ?_ | refine R.zl ttok ?_ | refine R.zs ttok ?_ | refine R.z ttok ?_ | refine R.zk ?_ | refine R.zn ?_ | refine R.done ?_ | refine X.then ?_ | refine C.block ?_ | refine C.ret ?_ | refine C.skip ?_ | refine C.exit ?_ | refine X.pass_ret ?_ | refine X.pass_exit ?_ | refine X.block_normal ?_ | refine X.block_ret ?_ | refine X.block_exit ?_ | refine C.zt ?_ | refine C.zf ?_ | refine X.zo ?_)
  refine X.fin ttok () [] trivial rfl rfl rfl (by repeat (first | exact HasH.nil | refine HasH.same rfl rfl rfl trivial ?_ | refine HasH.same rfl rfl rfl rfl ?_ | refine HasH.same rfl rfl rfl (fun _ _ => rfl) ?_ | refine HasH.ros rfl rfl ?_)) _ (by first | exact .inl rfl | exact .inr rfl)
theorem rangeS_specZ (fr to : ByteArray) : Spec Try.prog 19 [.ptr 0 0 0 0, .raw (.string fr), .raw (.string to)] [anyO] 4 (σ := Unit) (fun _ => True)
    (fun _ => .fn rsZ [.ptr 1 0 0 0, .ptr 2 0 0 0, .ptr 3 0 0 0]) (fun _ => [(1, .cells [.ptr 0 0 0 0] spT), (2, .cells [.raw (.string fr)] strT), (3, .cells [.raw (.string to)] strT)]) := by
  refine Spec.of Try.func19 rfl Try.ntmps19 rfl (bdl_cons (any_bd _) (bdl_nil _)) fun ρ w => ?_
  repeat (first | refine C.seq ?_ | refine C.region ?_ | refine R.zb ttok ?_ | refine R.zu ttok ?_ | refine R.zc ttok ?_ | refine R.za ttok ?_ | refine R.zx ?_ | refine R.zl ttok ?_ | refine R.zs ttok ?_ | refine R.z ttok ?_ | refine R.zk ?_ | refine R.zn ?_ | refine R.done ?_ | refine X.then ?_ | refine C.block ?_ | refine C.ret ?_ | refine C.skip ?_ | refine C.exit ?_ | refine X.pass_ret ?_ | refine X.pass_exit ?_ | refine X.block_normal ?_ | refine X.block_ret ?_ | refine X.block_exit ?_ | refine C.zt ?_ | refine C.zf ?_ | refine X.zo ?_)
  refine X.fin ttok () [] trivial rfl rfl rfl (by repeat (first | exact HasH.nil | refine HasH.same rfl rfl rfl trivial ?_ | refine HasH.same rfl rfl rfl rfl ?_ | refine HasH.same rfl rfl rfl (fun _ _ => rfl) ?_ | refine HasH.ros rfl rfl ?_)) _ (by first | exact .inl rfl | exact .inr rfl)
def heldB (s : Sl Int) : Bool := s.has (!s.wr)
def heldV (s : Sl Int) : Int := s.get (!s.wr)
theorem kn1_spec (key : ByteArray) (v : Int) (k : ByteArray) (n : Int) (hk : k.size + key.size ≤ 9223372036854775807) (h1 : -4611686018427387904 ≤ n + v) (h2 : n + v ≤ 4611686018427387904) : Spec Try.prog 41 [.raw (.string key), .raw (.int .i64 v), .ptr 0 0 0 0, .ptr 1 0 0 0] [.cells [.raw (.string k)] strT, .cells [.raw (.int .i64 n)] intT] 2 (σ := Unit) (fun _ => True)
    (fun _ => .raw (.bool true)) (fun _ => [(0, .cells [.raw (.string (k ++ key))] strT), (1, .cells [.raw (.int .i64 (n + v))] intT)]) := by
  refine Spec.of Try.func41 rfl Try.ntmps41 rfl (by simp [AO.Bd, bytesF, AV.bds, AV.bd]) fun ρ w => ?_
  repeat (first | refine C.seq ?_ | refine C.region ?_ | refine R.zb ttok ?_ | refine R.zu ttok ?_ | refine R.zc ttok ?_ | refine R.za ttok ?_ | refine R.zx ?_ | refine R.zl ttok ?_ | refine R.zs ttok ?_ | refine R.z ttok ?_ | refine R.zk ?_ | refine R.zn ?_ | refine R.done ?_ | refine X.then ?_ | refine C.block ?_ | refine C.ret ?_ | refine C.skip ?_ | refine C.exit ?_ | refine X.pass_ret ?_ | refine X.pass_exit ?_ | refine X.block_normal ?_ | refine X.block_ret ?_ | refine X.block_exit ?_ | refine C.zt ?_ | refine C.zf ?_ | refine X.zo ?_)
  refine R.cat rfl rfl rfl (by kernel_rfl) hk ?_
  repeat (first | refine C.seq ?_ | refine C.region ?_ | refine R.zb ttok ?_ | refine R.zu ttok ?_ | refine R.zc ttok ?_ | refine R.za ttok ?_ | refine R.zx ?_ | refine R.zl ttok ?_ | refine R.zs ttok ?_ | refine R.z ttok ?_ | refine R.zk ?_ | refine R.zn ?_ | refine R.done ?_ | refine X.then ?_ | refine C.block ?_ | refine C.ret ?_ | refine C.skip ?_ | refine C.exit ?_ | refine X.pass_ret ?_ | refine X.pass_exit ?_ | refine X.block_normal ?_ | refine X.block_ret ?_ | refine X.block_exit ?_ | refine C.zt ?_ | refine C.zf ?_ | refine X.zo ?_)
  refine X.fin ttok () [] trivial rfl rfl rfl (by repeat (first | exact HasH.nil | refine HasH.same rfl rfl rfl trivial ?_ | refine HasH.same rfl rfl rfl rfl ?_ | refine HasH.same rfl rfl rfl (fun _ _ => rfl) ?_ | refine HasH.ros rfl rfl ?_)) _ (by first | exact .inl rfl | exact .inr rfl)
theorem HasIn.roq {r : Nat → Nat} {h : List (Nat × AO)} {i : Nat} {os : List AO} {xs xs' : List AV} (h1 : hk (r i) h = some (.ro 0 0 1 (fun _ => xs'))) (hx : AV.rens r xs = xs'.take xs.length) (k : HasIn r h (i + 1) os) : HasIn r h i (.ro 0 0 1 (fun _ => xs) :: os) :=
  .other h1 id (fun ρ x w hh => by
    rcases hh with ⟨e, h2⟩ | ⟨b, cur, T, fr, hr, hb, h3⟩
    · cases h2
    · refine .inr ⟨b, cur, T, fr, hr, hb, fun j k y hj hy => h3 j k y hj ?_⟩
      have hy : (AV.rens r xs)[k]? = some y := hy
      rw [hx, List.getElem?_take] at hy
      split at hy
      · exact hy
      · cases hy) k
theorem HasIn.roAp {r : Nat → Nat} {h : List (Nat × AO)} {i : Nat} {os : List AO} {xs xs' : List AV} {T : TypeId} (h1 : hk (r i) h = some (.cells xs' T)) (hx : AV.rens r xs = xs'.take xs.length) (k : HasIn r h (i + 1) os) : HasIn r h i (.ro 0 0 1 (fun _ => xs) :: os) :=
  .other h1 (fun e => by cases e) (fun ρ x w hh => by
    rcases cells_roA hh with ⟨e, h2⟩ | ⟨b, cur, T, fr, hr, hb, h3⟩
    · cases h2
    · refine .inr ⟨b, cur, T, fr, hr, hb, fun j k y hj hy => h3 j k y hj ?_⟩
      have hy : (AV.rens r xs)[k]? = some y := hy
      rw [hx, List.getElem?_take] at hy
      split at hy
      · exact hy
      · cases hy) k
theorem ro_any {ρ : Env} {r : Option Nat} {w : World} {wd off n0 : Nat} {f : Nat → List AV} (h : (AO.ro wd off n0 f).holds ρ r w) : anyO.holds ρ r w := by
  rcases h with ⟨e, h2⟩ | ⟨b, cur, T, fr, hr, hb, h3⟩
  · exact .inl ⟨e, rfl⟩
  · exact .inr ⟨b, cur, T, fr, hr, hb, fun i c x hi => by omega⟩
abbrev tbAZ (l : Nat) (n c : Nat) (hs : Int) (mk : Bool) : AO := .ro 0 0 1 (fun _ => [.sl l 2 0 n c, .raw (.int .i64 hs), .raw (.bool mk)])
section
variable (l : ZL) (c : Nat) (ab : ByteArray)
theorem snKn_spec (hs : Int) (mk : Bool) (st : Nat → ByteArray × Int) (hA : Asc l) (hl : l.length ≤ 900000) (hmk : mk = true)
    (hst : ∀ j, j < l.length → if heldB (l.getD j zG).2.2 = true then (st j).1.size + (l.getD j zG).1.size ≤ 9223372036854775807 ∧ -4611686018427387904 ≤ (st j).2 + heldV (l.getD j zG).2.2 ∧ (st j).2 + heldV (l.getD j zG).2.2 ≤ 4611686018427387904 ∧ st (j + 1) = ((st j).1 ++ (l.getD j zG).1, (st j).2 + heldV (l.getD j zG).2.2) else st (j + 1) = st j) :
    SpecF Try.prog 53 [.fn 41 [.ptr 4 0 0 0, .ptr 5 0 0 0], .ptr 2 0 0 0, .ptr 3 0 0 0] [tbAZ 1 l.length c hs mk, roTZ l, one0 (.ptr 0 0 0 0), one0 (.raw (.string ab)), .cells [.raw (.string (st (aboveN l ab)).1)] strT, .cells [.raw (.int .i64 (st (aboveN l ab)).2)] intT] 6 (zF l) (σ := Unit) (fun _ => True)
    (fun _ => .tup []) (fun _ => [(4, .cells [.raw (.string (st l.length).1)] strT), (5, .cells [.raw (.int .i64 (st l.length).2)] intT)]) (fun _ => zF l) := by
  subst hmk
  refine SpecF.of Try.func53 rfl Try.ntmps53 rfl (bdl_cons (roA_bd rfl) (bdl_cons (fun _ _ => rfl) (bdl_cons (roA_bd rfl) (bdl_cons (roA_bd rfl) (bdl_cons rfl (bdl_cons rfl (bdl_nil _))))))) fun ρ w => ?_
  repeat (first | refine C.seq ?_ | refine C.region ?_ | refine R.zb ttok ?_ | refine R.zu ttok ?_ | refine R.zc ttok ?_ | refine R.za ttok ?_ | refine R.zx ?_ | refine R.zl ttok ?_ | refine R.zs ttok ?_ | refine R.z ttok ?_ | refine R.zk ?_ | refine R.zn ?_ | refine R.done ?_ | refine X.then ?_ | refine C.block ?_ | refine C.ret ?_ | refine C.skip ?_ | refine C.exit ?_ | refine X.pass_ret ?_ | refine X.pass_exit ?_ | refine X.block_normal ?_ | refine X.block_ret ?_ | refine X.block_exit ?_ | refine C.zt ?_ | refine C.zf ?_ | refine X.zo ?_)
  refine R.ldo (v := .ptr 0 0 0 0) ttok rfl rfl rfl rfl rfl (by kernel_rfl) Nat.one_pos ?_
  repeat (first | refine C.seq ?_ | refine C.region ?_ | refine R.zb ttok ?_ | refine R.zu ttok ?_ | refine R.zc ttok ?_ | refine R.za ttok ?_ | refine R.zx ?_ | refine R.zl ttok ?_ | refine R.zs ttok ?_ | refine R.z ttok ?_ | refine R.zk ?_ | refine R.zn ?_ | refine R.done ?_ | refine X.then ?_ | refine C.block ?_ | refine C.ret ?_ | refine C.skip ?_ | refine C.exit ?_ | refine X.pass_ret ?_ | refine X.pass_exit ?_ | refine X.block_normal ?_ | refine X.block_ret ?_ | refine X.block_exit ?_ | refine C.zt ?_ | refine C.zf ?_ | refine X.zo ?_)
  refine C.draw [[], [0], [0, 1], [], [0, 1, 2, 3], [0, 1, 2, 3, 4], [0, 1, 2, 3, 4, 5], [0, 1, 2, 3, 4, 5], [0, 1, 2, 3, 4, 5, 6], [0, 1, 2, 3, 4, 5, 6, 7, 8]] [4] (by kernel_rfl) (by kernel_rfl) ?_
  refine R.ldo (v := .ptr 0 0 0 0) ttok rfl rfl rfl rfl rfl (by kernel_rfl) Nat.one_pos ?_
  repeat (first | refine C.seq ?_ | refine C.region ?_ | refine R.zb ttok ?_ | refine R.zu ttok ?_ | refine R.zc ttok ?_ | refine R.za ttok ?_ | refine R.zx ?_ | refine R.zl ttok ?_ | refine R.zs ttok ?_ | refine R.z ttok ?_ | refine R.zk ?_ | refine R.zn ?_ | refine R.done ?_ | refine X.then ?_ | refine C.block ?_ | refine C.ret ?_ | refine C.skip ?_ | refine C.exit ?_ | refine X.pass_ret ?_ | refine X.pass_exit ?_ | refine X.block_normal ?_ | refine X.block_ret ?_ | refine X.block_exit ?_ | refine C.zt ?_ | refine C.zf ?_ | refine X.zo ?_)
  refine R.ldo (v := .raw (.string ab)) ttok rfl rfl rfl rfl rfl (by kernel_rfl) Nat.one_pos ?_
  refine R.cl [0, 1] (nextI_specZ l c ab hA (by omega)) Try.call54 (by repeat (first | exact HasIn.nil | refine HasIn.same rfl rfl ?_ | refine HasIn.c1 rfl rfl ?_ | refine HasIn.roq rfl rfl ?_ | refine HasIn.other rfl (fun e => by cases e) (fun ρ x w hh => tab_ro hh) ?_ | refine HasIn.other rfl (fun e => by cases e) (fun ρ x w hh => tab_any hh) ?_ | refine HasIn.roAp rfl rfl ?_ | refine HasIn.other rfl (fun e => by cases e) (fun ρ x w hh => cells_any hh) ?_ | refine HasIn.other rfl (fun e => by cases e) (fun ρ x w hh => ro_any hh) ?_)) rfl rfl rfl (fun _ => rfl) rfl (by kernel_rfl) fun _ _ => ?_
  repeat (first | refine C.seq ?_ | refine C.region ?_ | refine R.zb ttok ?_ | refine R.zu ttok ?_ | refine R.zc ttok ?_ | refine R.za ttok ?_ | refine R.zx ?_ | refine R.zl ttok ?_ | refine R.zs ttok ?_ | refine R.z ttok ?_ | refine R.zk ?_ | refine R.zn ?_ | refine R.done ?_ | refine X.then ?_ | refine C.block ?_ | refine C.ret ?_ | refine C.skip ?_ | refine C.exit ?_ | refine X.pass_ret ?_ | refine X.pass_exit ?_ | refine X.block_normal ?_ | refine X.block_ret ?_ | refine X.block_exit ?_ | refine C.zt ?_ | refine C.zf ?_ | refine X.zo ?_)
  refine C.loop (σ := Nat) (L2 := 6) (fun j => aboveN l ab ≤ j ∧ j ≤ l.length) (fun j => [(0, .fn 41 [.ptr 4 0 0 0, .ptr 5 0 0 0]), (1, .ptr 2 0 0 0), (2, .ptr 3 0 0 0), (4, .raw (.string (l.getD j zG).1)), (5, .raw (.bool (decide (j < l.length))))]) (fun j => [(0, tbAZ 1 l.length c hs true), (1, roTZ l), (2, one0 (.ptr 0 0 0 0)), (3, one0 (.raw (.string ab))), (4, .cells [.raw (.string (st j).1)] strT), (5, .cells [.raw (.int .i64 (st j).2)] intT)]) _ (fun j => l.length - j) [] (aboveN l ab) ⟨Nat.le_refl _, aboveN_le _ _⟩ rfl (by repeat (first | exact HasT.nil | refine HasT.cons rfl rfl rfl ?_)) (by repeat (first | exact HasH.nil | refine HasH.same rfl rfl rfl trivial ?_ | refine HasH.same rfl rfl rfl rfl ?_ | refine HasH.same rfl rfl rfl (fun _ _ => rfl) ?_ | refine HasH.ros rfl rfl ?_)) rfl (fun _ h => h) ?_
  rintro j ⟨hj, hjl⟩
  repeat (first | refine C.seq ?_ | refine C.region ?_ | refine R.zb ttok ?_ | refine R.zu ttok ?_ | refine R.zc ttok ?_ | refine R.za ttok ?_ | refine R.zx ?_ | refine R.zl ttok ?_ | refine R.zs ttok ?_ | refine R.z ttok ?_ | refine R.zk ?_ | refine R.zn ?_ | refine R.done ?_ | refine X.then ?_ | refine C.block ?_ | refine C.ret ?_ | refine C.skip ?_ | refine C.exit ?_ | refine X.pass_ret ?_ | refine X.pass_exit ?_ | refine X.block_normal ?_ | refine X.block_ret ?_ | refine X.block_exit ?_ | refine C.zt ?_ | refine C.zf ?_ | refine X.zo ?_)
  by_cases hlt : j < l.length
  · rw [decide_eq_true hlt]
    have hstj := hst j hlt
    have hmem := zF_mem hlt
    have hgI : getIZ l (l.getD j zG).1 = .pointer (some ⟨(l.getD j zG).2.1, 0, none⟩) := by unfold getIZ; rw [if_pos (has_at hA hlt), plc_at hA hlt]
    have habove := above_at hA hlt
    obtain ⟨⟨pk, pb, c0, c1, h0, h1, rd, wr⟩, hpp⟩ : ∃ p, l.getD j zG = p := ⟨_, rfl⟩
    rw [hpp] at hstj hmem hgI habove ⊢
    refine R.ldo (v := .ptr 0 0 0 0) ttok rfl rfl rfl rfl rfl (by kernel_rfl) Nat.one_pos ?_
    repeat (first | refine C.seq ?_ | refine C.region ?_ | refine R.zb ttok ?_ | refine R.zu ttok ?_ | refine R.zc ttok ?_ | refine R.za ttok ?_ | refine R.zx ?_ | refine R.zl ttok ?_ | refine R.zs ttok ?_ | refine R.z ttok ?_ | refine R.zk ?_ | refine R.zn ?_ | refine R.done ?_ | refine X.then ?_ | refine C.block ?_ | refine C.ret ?_ | refine C.skip ?_ | refine C.exit ?_ | refine X.pass_ret ?_ | refine X.pass_exit ?_ | refine X.block_normal ?_ | refine X.block_ret ?_ | refine X.block_exit ?_ | refine C.zt ?_ | refine C.zf ?_ | refine X.zo ?_)
    refine R.ldo (v := .raw (.bool true)) ttok rfl rfl rfl rfl rfl (by kernel_rfl) Nat.one_pos ?_
    repeat (first | refine C.seq ?_ | refine C.region ?_ | refine R.zb ttok ?_ | refine R.zu ttok ?_ | refine R.zc ttok ?_ | refine R.za ttok ?_ | refine R.zx ?_ | refine R.zl ttok ?_ | refine R.zs ttok ?_ | refine R.z ttok ?_ | refine R.zk ?_ | refine R.zn ?_ | refine R.done ?_ | refine X.then ?_ | refine C.block ?_ | refine C.ret ?_ | refine C.skip ?_ | refine C.exit ?_ | refine X.pass_ret ?_ | refine X.pass_exit ?_ | refine X.block_normal ?_ | refine X.block_ret ?_ | refine X.block_exit ?_ | refine C.zt ?_ | refine C.zf ?_ | refine X.zo ?_)
    refine R.ldo (v := .ptr 0 0 0 0) ttok rfl rfl rfl rfl rfl (by kernel_rfl) Nat.one_pos ?_
    repeat (first | refine C.seq ?_ | refine C.region ?_ | refine R.zb ttok ?_ | refine R.zu ttok ?_ | refine R.zc ttok ?_ | refine R.za ttok ?_ | refine R.zx ?_ | refine R.zl ttok ?_ | refine R.zs ttok ?_ | refine R.z ttok ?_ | refine R.zk ?_ | refine R.zn ?_ | refine R.done ?_ | refine X.then ?_ | refine C.block ?_ | refine C.ret ?_ | refine C.skip ?_ | refine C.exit ?_ | refine X.pass_ret ?_ | refine X.pass_exit ?_ | refine X.block_normal ?_ | refine X.block_ret ?_ | refine X.block_exit ?_ | refine C.zt ?_ | refine C.zf ?_ | refine X.zo ?_)
    refine R.cl [0, 1] (getI_specZ l c pk hA (by omega)) Try.call52 (by repeat (first | exact HasIn.nil | refine HasIn.same rfl rfl ?_ | refine HasIn.c1 rfl rfl ?_ | refine HasIn.roq rfl rfl ?_ | refine HasIn.other rfl (fun e => by cases e) (fun ρ x w hh => tab_ro hh) ?_ | refine HasIn.other rfl (fun e => by cases e) (fun ρ x w hh => tab_any hh) ?_ | refine HasIn.roAp rfl rfl ?_ | refine HasIn.other rfl (fun e => by cases e) (fun ρ x w hh => cells_any hh) ?_ | refine HasIn.other rfl (fun e => by cases e) (fun ρ x w hh => ro_any hh) ?_)) rfl rfl rfl (fun _ => rfl) rfl (by kernel_rfl) fun _ _ => ?_
    rw [hgI]
    repeat (first | refine R.zb ttok ?_ | refine R.zu ttok ?_ | refine R.zc ttok ?_ | refine R.za ttok ?_ | refine R.zx ?_ | refine R.zl ttok ?_ | refine R.zs ttok ?_ | refine R.z ttok ?_ | refine R.zk ?_ | refine R.zn ?_)
    refine R.done ?_
    refine X.then ?_
    refine C.labZ 6 (pk, pb, ⟨c0, c1, h0, h1, rd, wr⟩) hmem rfl ?_
    cases wr with
    | false =>
      repeat (first | refine C.seq ?_ | refine C.region ?_ | refine R.zb ttok ?_ | refine R.zu ttok ?_ | refine R.zc ttok ?_ | refine R.za ttok ?_ | refine R.zx ?_ | refine R.zl ttok ?_ | refine R.zs ttok ?_ | refine R.z ttok ?_ | refine R.zk ?_ | refine R.zn ?_ | refine R.done ?_ | refine X.then ?_ | refine C.block ?_ | refine C.ret ?_ | refine C.skip ?_ | refine C.exit ?_ | refine X.pass_ret ?_ | refine X.pass_exit ?_ | refine X.block_normal ?_ | refine X.block_ret ?_ | refine X.block_exit ?_ | refine C.zt ?_ | refine C.zf ?_ | refine X.zo ?_)
      refine R.ldo (v := .raw (.int .i64 (b01 false))) ttok rfl rfl rfl rfl rfl (by kernel_rfl) Nat.one_pos ?_
      repeat (first | refine C.seq ?_ | refine C.region ?_ | refine R.zb ttok ?_ | refine R.zu ttok ?_ | refine R.zc ttok ?_ | refine R.za ttok ?_ | refine R.zx ?_ | refine R.zl ttok ?_ | refine R.zs ttok ?_ | refine R.z ttok ?_ | refine R.zk ?_ | refine R.zn ?_ | refine R.done ?_ | refine X.then ?_ | refine C.block ?_ | refine C.ret ?_ | refine C.skip ?_ | refine C.exit ?_ | refine X.pass_ret ?_ | refine X.pass_exit ?_ | refine X.block_normal ?_ | refine X.block_ret ?_ | refine X.block_exit ?_ | refine C.zt ?_ | refine C.zf ?_ | refine X.zo ?_)
      refine R.cl [6] (read_specZ ⟨c0, c1, h0, h1, rd, false⟩ true) Try.call50 (by repeat (first | exact HasIn.nil | refine HasIn.same rfl rfl ?_ | refine HasIn.bro rfl ?_ | refine HasIn.ror rfl ?_ | refine HasIn.cro rfl rfl ?_)) rfl rfl rfl (fun _ => rfl) rfl (by kernel_rfl) fun _ _ => ?_
      cases h1 with
      | false =>
        have hstj : st (j + 1) = st j := hstj
        repeat (first | refine C.seq ?_ | refine C.region ?_ | refine R.zb ttok ?_ | refine R.zu ttok ?_ | refine R.zc ttok ?_ | refine R.za ttok ?_ | refine R.zx ?_ | refine R.zl ttok ?_ | refine R.zs ttok ?_ | refine R.z ttok ?_ | refine R.zk ?_ | refine R.zn ?_ | refine R.done ?_ | refine X.then ?_ | refine C.block ?_ | refine C.ret ?_ | refine C.skip ?_ | refine C.exit ?_ | refine X.pass_ret ?_ | refine X.pass_exit ?_ | refine X.block_normal ?_ | refine X.block_ret ?_ | refine X.block_exit ?_ | refine C.zt ?_ | refine C.zf ?_ | refine X.zo ?_)
        repeat (first | refine C.seq ?_ | refine C.region ?_ | refine R.zb ttok ?_ | refine R.zu ttok ?_ | refine R.zc ttok ?_ | refine R.za ttok ?_ | refine R.zx ?_ | refine R.zl ttok ?_ | refine R.zs ttok ?_ | refine R.z ttok ?_ | refine R.zk ?_ | refine R.zn ?_ | refine R.done ?_ | refine X.then ?_ | refine C.block ?_ | refine C.ret ?_ | refine C.skip ?_ | refine C.exit ?_ | refine X.pass_ret ?_ | refine X.pass_exit ?_ | refine X.block_normal ?_ | refine X.block_ret ?_ | refine X.block_exit ?_ | refine C.zt ?_ | refine C.zf ?_ | refine X.zo ?_)
        refine R.ldo (v := .ptr 0 0 0 0) ttok rfl rfl rfl rfl rfl (by kernel_rfl) Nat.one_pos ?_
        repeat (first | refine C.seq ?_ | refine C.region ?_ | refine R.zb ttok ?_ | refine R.zu ttok ?_ | refine R.zc ttok ?_ | refine R.za ttok ?_ | refine R.zx ?_ | refine R.zl ttok ?_ | refine R.zs ttok ?_ | refine R.z ttok ?_ | refine R.zk ?_ | refine R.zn ?_ | refine R.done ?_ | refine X.then ?_ | refine C.block ?_ | refine C.ret ?_ | refine C.skip ?_ | refine C.exit ?_ | refine X.pass_ret ?_ | refine X.pass_exit ?_ | refine X.block_normal ?_ | refine X.block_ret ?_ | refine X.block_exit ?_ | refine C.zt ?_ | refine C.zf ?_ | refine X.zo ?_)
        refine R.cl [0, 1] (nextI_specZ l c pk hA (by omega)) Try.call54 (by repeat (first | exact HasIn.nil | refine HasIn.same rfl rfl ?_ | refine HasIn.c1 rfl rfl ?_ | refine HasIn.roq rfl rfl ?_ | refine HasIn.other rfl (fun e => by cases e) (fun ρ x w hh => tab_ro hh) ?_ | refine HasIn.other rfl (fun e => by cases e) (fun ρ x w hh => tab_any hh) ?_ | refine HasIn.roAp rfl rfl ?_ | refine HasIn.other rfl (fun e => by cases e) (fun ρ x w hh => cells_any hh) ?_ | refine HasIn.other rfl (fun e => by cases e) (fun ρ x w hh => ro_any hh) ?_)) rfl rfl rfl (fun _ => rfl) rfl (by kernel_rfl) fun _ _ => ?_
        rw [habove]
        repeat (first | refine C.seq ?_ | refine C.region ?_ | refine R.zb ttok ?_ | refine R.zu ttok ?_ | refine R.zc ttok ?_ | refine R.za ttok ?_ | refine R.zx ?_ | refine R.zl ttok ?_ | refine R.zs ttok ?_ | refine R.z ttok ?_ | refine R.zk ?_ | refine R.zn ?_ | refine R.done ?_ | refine X.then ?_ | refine C.block ?_ | refine C.ret ?_ | refine C.skip ?_ | refine C.exit ?_ | refine X.pass_ret ?_ | refine X.pass_exit ?_ | refine X.block_normal ?_ | refine X.block_ret ?_ | refine X.block_exit ?_ | refine C.zt ?_ | refine C.zf ?_ | refine X.zo ?_)
        exact X.back [] (j + 1) ⟨by omega, by omega⟩ (by omega) rfl (by repeat (first | exact HasT.nil | refine HasT.cons rfl rfl rfl ?_)) (by
          show HasH _ _ _ ([(0, tbAZ 1 l.length c hs true), (1, roTZ l), (2, one0 (.ptr 0 0 0 0)), (3, one0 (.raw (.string ab))), (4, .cells [.raw (.string (st (j + 1)).1)] strT), (5, .cells [.raw (.int .i64 (st (j + 1)).2)] intT)])
          rw [hstj]
          exact (by repeat (first | exact HasH.nil | refine HasH.same rfl rfl rfl trivial ?_ | refine HasH.same rfl rfl rfl rfl ?_ | refine HasH.same rfl rfl rfl (fun _ _ => rfl) ?_))) rfl (fun _ h => h)
      | true =>
        obtain ⟨g1, g2, g3, hstj⟩ : _ ∧ _ ∧ _ ∧ _ := hstj
        repeat (first | refine C.seq ?_ | refine C.region ?_ | refine R.zb ttok ?_ | refine R.zu ttok ?_ | refine R.zc ttok ?_ | refine R.za ttok ?_ | refine R.zx ?_ | refine R.zl ttok ?_ | refine R.zs ttok ?_ | refine R.z ttok ?_ | refine R.zk ?_ | refine R.zn ?_ | refine R.done ?_ | refine X.then ?_ | refine C.block ?_ | refine C.ret ?_ | refine C.skip ?_ | refine C.exit ?_ | refine X.pass_ret ?_ | refine X.pass_exit ?_ | refine X.block_normal ?_ | refine X.block_ret ?_ | refine X.block_exit ?_ | refine C.zt ?_ | refine C.zf ?_ | refine X.zo ?_)
        refine R.cl [4, 5] (kn1_spec pk c1 (st j).1 (st j).2 g1 g2 g3) Try.call41 (by repeat (first | exact HasIn.nil | refine HasIn.same rfl rfl ?_ | refine HasIn.bro rfl ?_ | refine HasIn.ror rfl ?_ | refine HasIn.cro rfl rfl ?_)) rfl rfl rfl (fun _ => rfl) rfl (by kernel_rfl) fun _ _ => ?_
        repeat (first | refine C.seq ?_ | refine C.region ?_ | refine R.zb ttok ?_ | refine R.zu ttok ?_ | refine R.zc ttok ?_ | refine R.za ttok ?_ | refine R.zx ?_ | refine R.zl ttok ?_ | refine R.zs ttok ?_ | refine R.z ttok ?_ | refine R.zk ?_ | refine R.zn ?_ | refine R.done ?_ | refine X.then ?_ | refine C.block ?_ | refine C.ret ?_ | refine C.skip ?_ | refine C.exit ?_ | refine X.pass_ret ?_ | refine X.pass_exit ?_ | refine X.block_normal ?_ | refine X.block_ret ?_ | refine X.block_exit ?_ | refine C.zt ?_ | refine C.zf ?_ | refine X.zo ?_)
        refine R.ldo (v := .ptr 0 0 0 0) ttok rfl rfl rfl rfl rfl (by kernel_rfl) Nat.one_pos ?_
        repeat (first | refine C.seq ?_ | refine C.region ?_ | refine R.zb ttok ?_ | refine R.zu ttok ?_ | refine R.zc ttok ?_ | refine R.za ttok ?_ | refine R.zx ?_ | refine R.zl ttok ?_ | refine R.zs ttok ?_ | refine R.z ttok ?_ | refine R.zk ?_ | refine R.zn ?_ | refine R.done ?_ | refine X.then ?_ | refine C.block ?_ | refine C.ret ?_ | refine C.skip ?_ | refine C.exit ?_ | refine X.pass_ret ?_ | refine X.pass_exit ?_ | refine X.block_normal ?_ | refine X.block_ret ?_ | refine X.block_exit ?_ | refine C.zt ?_ | refine C.zf ?_ | refine X.zo ?_)
        refine R.cl [0, 1] (nextI_specZ l c pk hA (by omega)) Try.call54 (by repeat (first | exact HasIn.nil | refine HasIn.same rfl rfl ?_ | refine HasIn.c1 rfl rfl ?_ | refine HasIn.roq rfl rfl ?_ | refine HasIn.other rfl (fun e => by cases e) (fun ρ x w hh => tab_ro hh) ?_ | refine HasIn.other rfl (fun e => by cases e) (fun ρ x w hh => tab_any hh) ?_ | refine HasIn.roAp rfl rfl ?_ | refine HasIn.other rfl (fun e => by cases e) (fun ρ x w hh => cells_any hh) ?_ | refine HasIn.other rfl (fun e => by cases e) (fun ρ x w hh => ro_any hh) ?_)) rfl rfl rfl (fun _ => rfl) rfl (by kernel_rfl) fun _ _ => ?_
        rw [habove]
        repeat (first | refine C.seq ?_ | refine C.region ?_ | refine R.zb ttok ?_ | refine R.zu ttok ?_ | refine R.zc ttok ?_ | refine R.za ttok ?_ | refine R.zx ?_ | refine R.zl ttok ?_ | refine R.zs ttok ?_ | refine R.z ttok ?_ | refine R.zk ?_ | refine R.zn ?_ | refine R.done ?_ | refine X.then ?_ | refine C.block ?_ | refine C.ret ?_ | refine C.skip ?_ | refine C.exit ?_ | refine X.pass_ret ?_ | refine X.pass_exit ?_ | refine X.block_normal ?_ | refine X.block_ret ?_ | refine X.block_exit ?_ | refine C.zt ?_ | refine C.zf ?_ | refine X.zo ?_)
        exact X.back [] (j + 1) ⟨by omega, by omega⟩ (by omega) rfl (by repeat (first | exact HasT.nil | refine HasT.cons rfl rfl rfl ?_)) (by
          show HasH _ _ _ ([(0, tbAZ 1 l.length c hs true), (1, roTZ l), (2, one0 (.ptr 0 0 0 0)), (3, one0 (.raw (.string ab))), (4, .cells [.raw (.string (st (j + 1)).1)] strT), (5, .cells [.raw (.int .i64 (st (j + 1)).2)] intT)])
          rw [hstj]
          exact (by repeat (first | exact HasH.nil | refine HasH.same rfl rfl rfl trivial ?_ | refine HasH.same rfl rfl rfl rfl ?_ | refine HasH.same rfl rfl rfl (fun _ _ => rfl) ?_))) rfl (fun _ h => h)
    | true =>
      repeat (first | refine C.seq ?_ | refine C.region ?_ | refine R.zb ttok ?_ | refine R.zu ttok ?_ | refine R.zc ttok ?_ | refine R.za ttok ?_ | refine R.zx ?_ | refine R.zl ttok ?_ | refine R.zs ttok ?_ | refine R.z ttok ?_ | refine R.zk ?_ | refine R.zn ?_ | refine R.done ?_ | refine X.then ?_ | refine C.block ?_ | refine C.ret ?_ | refine C.skip ?_ | refine C.exit ?_ | refine X.pass_ret ?_ | refine X.pass_exit ?_ | refine X.block_normal ?_ | refine X.block_ret ?_ | refine X.block_exit ?_ | refine C.zt ?_ | refine C.zf ?_ | refine X.zo ?_)
      refine R.ldo (v := .raw (.int .i64 (b01 true))) ttok rfl rfl rfl rfl rfl (by kernel_rfl) Nat.one_pos ?_
      repeat (first | refine C.seq ?_ | refine C.region ?_ | refine R.zb ttok ?_ | refine R.zu ttok ?_ | refine R.zc ttok ?_ | refine R.za ttok ?_ | refine R.zx ?_ | refine R.zl ttok ?_ | refine R.zs ttok ?_ | refine R.z ttok ?_ | refine R.zk ?_ | refine R.zn ?_ | refine R.done ?_ | refine X.then ?_ | refine C.block ?_ | refine C.ret ?_ | refine C.skip ?_ | refine C.exit ?_ | refine X.pass_ret ?_ | refine X.pass_exit ?_ | refine X.block_normal ?_ | refine X.block_ret ?_ | refine X.block_exit ?_ | refine C.zt ?_ | refine C.zf ?_ | refine X.zo ?_)
      refine R.cl [6] (read_specZ ⟨c0, c1, h0, h1, rd, true⟩ false) Try.call50 (by repeat (first | exact HasIn.nil | refine HasIn.same rfl rfl ?_ | refine HasIn.bro rfl ?_ | refine HasIn.ror rfl ?_ | refine HasIn.cro rfl rfl ?_)) rfl rfl rfl (fun _ => rfl) rfl (by kernel_rfl) fun _ _ => ?_
      cases h0 with
      | false =>
        have hstj : st (j + 1) = st j := hstj
        repeat (first | refine C.seq ?_ | refine C.region ?_ | refine R.zb ttok ?_ | refine R.zu ttok ?_ | refine R.zc ttok ?_ | refine R.za ttok ?_ | refine R.zx ?_ | refine R.zl ttok ?_ | refine R.zs ttok ?_ | refine R.z ttok ?_ | refine R.zk ?_ | refine R.zn ?_ | refine R.done ?_ | refine X.then ?_ | refine C.block ?_ | refine C.ret ?_ | refine C.skip ?_ | refine C.exit ?_ | refine X.pass_ret ?_ | refine X.pass_exit ?_ | refine X.block_normal ?_ | refine X.block_ret ?_ | refine X.block_exit ?_ | refine C.zt ?_ | refine C.zf ?_ | refine X.zo ?_)
        repeat (first | refine C.seq ?_ | refine C.region ?_ | refine R.zb ttok ?_ | refine R.zu ttok ?_ | refine R.zc ttok ?_ | refine R.za ttok ?_ | refine R.zx ?_ | refine R.zl ttok ?_ | refine R.zs ttok ?_ | refine R.z ttok ?_ | refine R.zk ?_ | refine R.zn ?_ | refine R.done ?_ | refine X.then ?_ | refine C.block ?_ | refine C.ret ?_ | refine C.skip ?_ | refine C.exit ?_ | refine X.pass_ret ?_ | refine X.pass_exit ?_ | refine X.block_normal ?_ | refine X.block_ret ?_ | refine X.block_exit ?_ | refine C.zt ?_ | refine C.zf ?_ | refine X.zo ?_)
        refine R.ldo (v := .ptr 0 0 0 0) ttok rfl rfl rfl rfl rfl (by kernel_rfl) Nat.one_pos ?_
        repeat (first | refine C.seq ?_ | refine C.region ?_ | refine R.zb ttok ?_ | refine R.zu ttok ?_ | refine R.zc ttok ?_ | refine R.za ttok ?_ | refine R.zx ?_ | refine R.zl ttok ?_ | refine R.zs ttok ?_ | refine R.z ttok ?_ | refine R.zk ?_ | refine R.zn ?_ | refine R.done ?_ | refine X.then ?_ | refine C.block ?_ | refine C.ret ?_ | refine C.skip ?_ | refine C.exit ?_ | refine X.pass_ret ?_ | refine X.pass_exit ?_ | refine X.block_normal ?_ | refine X.block_ret ?_ | refine X.block_exit ?_ | refine C.zt ?_ | refine C.zf ?_ | refine X.zo ?_)
        refine R.cl [0, 1] (nextI_specZ l c pk hA (by omega)) Try.call54 (by repeat (first | exact HasIn.nil | refine HasIn.same rfl rfl ?_ | refine HasIn.c1 rfl rfl ?_ | refine HasIn.roq rfl rfl ?_ | refine HasIn.other rfl (fun e => by cases e) (fun ρ x w hh => tab_ro hh) ?_ | refine HasIn.other rfl (fun e => by cases e) (fun ρ x w hh => tab_any hh) ?_ | refine HasIn.roAp rfl rfl ?_ | refine HasIn.other rfl (fun e => by cases e) (fun ρ x w hh => cells_any hh) ?_ | refine HasIn.other rfl (fun e => by cases e) (fun ρ x w hh => ro_any hh) ?_)) rfl rfl rfl (fun _ => rfl) rfl (by kernel_rfl) fun _ _ => ?_
        rw [habove]
        repeat (first | refine C.seq ?_ | refine C.region ?_ | refine R.zb ttok ?_ | refine R.zu ttok ?_ | refine R.zc ttok ?_ | refine R.za ttok ?_ | refine R.zx ?_ | refine R.zl ttok ?_ | refine R.zs ttok ?_ | refine R.z ttok ?_ | refine R.zk ?_ | refine R.zn ?_ | refine R.done ?_ | refine X.then ?_ | refine C.block ?_ | refine C.ret ?_ | refine C.skip ?_ | refine C.exit ?_ | refine X.pass_ret ?_ | refine X.pass_exit ?_ | refine X.block_normal ?_ | refine X.block_ret ?_ | refine X.block_exit ?_ | refine C.zt ?_ | refine C.zf ?_ | refine X.zo ?_)
        exact X.back [] (j + 1) ⟨by omega, by omega⟩ (by omega) rfl (by repeat (first | exact HasT.nil | refine HasT.cons rfl rfl rfl ?_)) (by
          show HasH _ _ _ ([(0, tbAZ 1 l.length c hs true), (1, roTZ l), (2, one0 (.ptr 0 0 0 0)), (3, one0 (.raw (.string ab))), (4, .cells [.raw (.string (st (j + 1)).1)] strT), (5, .cells [.raw (.int .i64 (st (j + 1)).2)] intT)])
          rw [hstj]
          exact (by repeat (first | exact HasH.nil | refine HasH.same rfl rfl rfl trivial ?_ | refine HasH.same rfl rfl rfl rfl ?_ | refine HasH.same rfl rfl rfl (fun _ _ => rfl) ?_))) rfl (fun _ h => h)
      | true =>
        obtain ⟨g1, g2, g3, hstj⟩ : _ ∧ _ ∧ _ ∧ _ := hstj
        repeat (first | refine C.seq ?_ | refine C.region ?_ | refine R.zb ttok ?_ | refine R.zu ttok ?_ | refine R.zc ttok ?_ | refine R.za ttok ?_ | refine R.zx ?_ | refine R.zl ttok ?_ | refine R.zs ttok ?_ | refine R.z ttok ?_ | refine R.zk ?_ | refine R.zn ?_ | refine R.done ?_ | refine X.then ?_ | refine C.block ?_ | refine C.ret ?_ | refine C.skip ?_ | refine C.exit ?_ | refine X.pass_ret ?_ | refine X.pass_exit ?_ | refine X.block_normal ?_ | refine X.block_ret ?_ | refine X.block_exit ?_ | refine C.zt ?_ | refine C.zf ?_ | refine X.zo ?_)
        refine R.cl [4, 5] (kn1_spec pk c0 (st j).1 (st j).2 g1 g2 g3) Try.call41 (by repeat (first | exact HasIn.nil | refine HasIn.same rfl rfl ?_ | refine HasIn.bro rfl ?_ | refine HasIn.ror rfl ?_ | refine HasIn.cro rfl rfl ?_)) rfl rfl rfl (fun _ => rfl) rfl (by kernel_rfl) fun _ _ => ?_
        repeat (first | refine C.seq ?_ | refine C.region ?_ | refine R.zb ttok ?_ | refine R.zu ttok ?_ | refine R.zc ttok ?_ | refine R.za ttok ?_ | refine R.zx ?_ | refine R.zl ttok ?_ | refine R.zs ttok ?_ | refine R.z ttok ?_ | refine R.zk ?_ | refine R.zn ?_ | refine R.done ?_ | refine X.then ?_ | refine C.block ?_ | refine C.ret ?_ | refine C.skip ?_ | refine C.exit ?_ | refine X.pass_ret ?_ | refine X.pass_exit ?_ | refine X.block_normal ?_ | refine X.block_ret ?_ | refine X.block_exit ?_ | refine C.zt ?_ | refine C.zf ?_ | refine X.zo ?_)
        refine R.ldo (v := .ptr 0 0 0 0) ttok rfl rfl rfl rfl rfl (by kernel_rfl) Nat.one_pos ?_
        repeat (first | refine C.seq ?_ | refine C.region ?_ | refine R.zb ttok ?_ | refine R.zu ttok ?_ | refine R.zc ttok ?_ | refine R.za ttok ?_ | refine R.zx ?_ | refine R.zl ttok ?_ | refine R.zs ttok ?_ | refine R.z ttok ?_ | refine R.zk ?_ | refine R.zn ?_ | refine R.done ?_ | refine X.then ?_ | refine C.block ?_ | refine C.ret ?_ | refine C.skip ?_ | refine C.exit ?_ | refine X.pass_ret ?_ | refine X.pass_exit ?_ | refine X.block_normal ?_ | refine X.block_ret ?_ | refine X.block_exit ?_ | refine C.zt ?_ | refine C.zf ?_ | refine X.zo ?_)
        refine R.cl [0, 1] (nextI_specZ l c pk hA (by omega)) Try.call54 (by repeat (first | exact HasIn.nil | refine HasIn.same rfl rfl ?_ | refine HasIn.c1 rfl rfl ?_ | refine HasIn.roq rfl rfl ?_ | refine HasIn.other rfl (fun e => by cases e) (fun ρ x w hh => tab_ro hh) ?_ | refine HasIn.other rfl (fun e => by cases e) (fun ρ x w hh => tab_any hh) ?_ | refine HasIn.roAp rfl rfl ?_ | refine HasIn.other rfl (fun e => by cases e) (fun ρ x w hh => cells_any hh) ?_ | refine HasIn.other rfl (fun e => by cases e) (fun ρ x w hh => ro_any hh) ?_)) rfl rfl rfl (fun _ => rfl) rfl (by kernel_rfl) fun _ _ => ?_
        rw [habove]
        repeat (first | refine C.seq ?_ | refine C.region ?_ | refine R.zb ttok ?_ | refine R.zu ttok ?_ | refine R.zc ttok ?_ | refine R.za ttok ?_ | refine R.zx ?_ | refine R.zl ttok ?_ | refine R.zs ttok ?_ | refine R.z ttok ?_ | refine R.zk ?_ | refine R.zn ?_ | refine R.done ?_ | refine X.then ?_ | refine C.block ?_ | refine C.ret ?_ | refine C.skip ?_ | refine C.exit ?_ | refine X.pass_ret ?_ | refine X.pass_exit ?_ | refine X.block_normal ?_ | refine X.block_ret ?_ | refine X.block_exit ?_ | refine C.zt ?_ | refine C.zf ?_ | refine X.zo ?_)
        exact X.back [] (j + 1) ⟨by omega, by omega⟩ (by omega) rfl (by repeat (first | exact HasT.nil | refine HasT.cons rfl rfl rfl ?_)) (by
          show HasH _ _ _ ([(0, tbAZ 1 l.length c hs true), (1, roTZ l), (2, one0 (.ptr 0 0 0 0)), (3, one0 (.raw (.string ab))), (4, .cells [.raw (.string (st (j + 1)).1)] strT), (5, .cells [.raw (.int .i64 (st (j + 1)).2)] intT)])
          rw [hstj]
          exact (by repeat (first | exact HasH.nil | refine HasH.same rfl rfl rfl trivial ?_ | refine HasH.same rfl rfl rfl rfl ?_ | refine HasH.same rfl rfl rfl (fun _ _ => rfl) ?_))) rfl (fun _ h => h)
  · rw [decide_eq_false hlt]
    obtain rfl : j = l.length := by omega
    repeat (first | refine C.seq ?_ | refine C.region ?_ | refine R.zb ttok ?_ | refine R.zu ttok ?_ | refine R.zc ttok ?_ | refine R.za ttok ?_ | refine R.zx ?_ | refine R.zl ttok ?_ | refine R.zs ttok ?_ | refine R.z ttok ?_ | refine R.zk ?_ | refine R.zn ?_ | refine R.done ?_ | refine X.then ?_ | refine C.block ?_ | refine C.ret ?_ | refine C.skip ?_ | refine C.exit ?_ | refine X.pass_ret ?_ | refine X.pass_exit ?_ | refine X.block_normal ?_ | refine X.block_ret ?_ | refine X.block_exit ?_ | refine C.zt ?_ | refine C.zf ?_ | refine X.zo ?_)
    refine X.finF ttok () [] trivial rfl rfl rfl (by repeat (first | exact HasH.nil | refine HasH.same rfl rfl rfl trivial ?_ | refine HasH.same rfl rfl rfl rfl ?_ | refine HasH.same rfl rfl rfl (fun _ _ => rfl) ?_ | refine HasH.ros rfl rfl ?_)) _ (by first | exact .inl rfl | exact .inr rfl) ?_ ?_ ?_
    · exact fun w' hf => hf.ap
    · exact fun p hp => hp
    · exact fun p hp e => ⟨p, hp, rfl⟩
end
end Go.Proofs.Yteabncomclgncaa
namespace Go.Proofs.Yteabncomclgncaa
set_option linter.unusedVariables false
set_option linter.unusedSimpArgs false
open Go.RowKit
set_option maxRecDepth 100000
set_option maxHeartbeats 4000000
abbrev tA : ByteArray := ⟨#[97]⟩
abbrev tB : ByteArray := ⟨#[98]⟩
theorem kl1 (b : Nat) : zput [] tA 1 b = [(tA, b, ⟨0, 1, false, true, true, true⟩)] := by rfl
theorem kl2 (b b2 : Nat) : zput [(tA, b, ⟨0, 1, false, true, true, true⟩)] tA 2 b2 = [(tA, b, ⟨0, 2, false, true, true, true⟩)] := by rfl
theorem kl3 (b : Nat) : zsw [(tA, b, (⟨0, 2, false, true, true, true⟩ : Sl Int))] Sl.mark = [(tA, b, ⟨0, 2, false, true, true, false⟩)] := by rfl
theorem kl4 (b b2 : Nat) : zput [(tA, b, ⟨0, 2, false, true, true, false⟩)] tA 3 b2 = [(tA, b, ⟨3, 2, true, true, false, false⟩)] := by rfl
theorem kl5 (b b2 : Nat) : zput [(tA, b, ⟨3, 2, true, true, false, false⟩)] tB 9 b2 = [(tA, b, ⟨3, 2, true, true, false, false⟩), (tB, b2, ⟨0, 9, false, true, true, true⟩)] := by rfl
theorem kl6 (b b2 : Nat) : zsw [(tA, b, (⟨3, 2, true, true, false, false⟩ : Sl Int)), (tB, b2, ⟨0, 9, false, true, true, true⟩)] id = [(tA, b, ⟨3, 2, true, true, false, false⟩), (tB, b2, ⟨0, 9, false, true, true, true⟩)] := by rfl
theorem kl7 (b b2 : Nat) : zdel [(tA, b, (⟨3, 2, true, true, false, false⟩ : Sl Int)), (tB, b2, ⟨0, 9, false, true, true, true⟩)] tA false = [(tB, b2, ⟨0, 9, false, true, true, true⟩)] := by rfl
section
variable {P : Program} {ops : Array Oper} {Q : Exit → Act → World → Prop} {D : Option DD} {E : Base} {n L : Nat} {τ : List (Nat × AV)} {h : List (Nat × AO)} {rest : List Oper} {H0 : List AO} {R0 : Env} {W0 : World} {FS0 fs G : Fam}
theorem R.dropG (k : R P ops Q D E n L τ h (FF H0 R0 W0 FS0 fs) rest) : R P ops Q D E n L τ h (FF H0 R0 W0 FS0 (fs ++ G)) rest :=
  R.wkD (fun w hf => hf.less (fun x hx => List.mem_append_left _ hx) (hf.ap.sublist (List.sublist_append_left _ _))) k
end
theorem asc0 : Asc ([] : ZL) := List.Pairwise.nil
theorem asc1 (p : PIZ) : Asc [p] := List.pairwise_singleton _ _
theorem asc2 (p q : PIZ) (h : cmpS p.1 q.1 < 0) : Asc [p, q] := List.pairwise_pair.2 h
theorem kn1 : zputN [] tA 0 = 1 := by rfl
theorem kn2 (b : Nat) : zputN [(tA, b, ⟨0, 1, false, true, true, true⟩)] tA 1 = 1 := by rfl
theorem kn4 (b : Nat) : zputN [(tA, b, ⟨0, 2, false, true, true, false⟩)] tA 1 = 1 := by rfl
theorem kn5 (b : Nat) : zputN [(tA, b, ⟨3, 2, true, true, false, false⟩)] tB 1 = 2 := by rfl
theorem kn7 (b b2 : Nat) : zdelN [(tA, b, (⟨3, 2, true, true, false, false⟩ : Sl Int)), (tB, b2, ⟨0, 9, false, true, true, true⟩)] tA 2 = 1 := by rfl
def knSt (j : Nat) : ByteArray × Int := if j = 0 then (noT, 0) else (tA, 2)
theorem kns (b b2 : Nat) : ∀ j, j < [(tA, b, (⟨3, 2, true, true, false, false⟩ : Sl Int)), (tB, b2, ⟨0, 9, false, true, true, true⟩)].length → if heldB ([(tA, b, (⟨3, 2, true, true, false, false⟩ : Sl Int)), (tB, b2, ⟨0, 9, false, true, true, true⟩)].getD j zG).2.2 = true then (knSt j).1.size + ([(tA, b, (⟨3, 2, true, true, false, false⟩ : Sl Int)), (tB, b2, ⟨0, 9, false, true, true, true⟩)].getD j zG).1.size ≤ 9223372036854775807 ∧ -4611686018427387904 ≤ (knSt j).2 + heldV ([(tA, b, (⟨3, 2, true, true, false, false⟩ : Sl Int)), (tB, b2, ⟨0, 9, false, true, true, true⟩)].getD j zG).2.2 ∧ (knSt j).2 + heldV ([(tA, b, (⟨3, 2, true, true, false, false⟩ : Sl Int)), (tB, b2, ⟨0, 9, false, true, true, true⟩)].getD j zG).2.2 ≤ 4611686018427387904 ∧ knSt (j + 1) = ((knSt j).1 ++ ([(tA, b, (⟨3, 2, true, true, false, false⟩ : Sl Int)), (tB, b2, ⟨0, 9, false, true, true, true⟩)].getD j zG).1, (knSt j).2 + heldV ([(tA, b, (⟨3, 2, true, true, false, false⟩ : Sl Int)), (tB, b2, ⟨0, 9, false, true, true, true⟩)].getD j zG).2.2) else knSt (j + 1) = knSt j
  | 0, _ => (by decide : (0 + 1 ≤ 9223372036854775807 ∧ -4611686018427387904 ≤ (0 : Int) + 2 ∧ (0 : Int) + 2 ≤ 4611686018427387904 ∧ (tA, (2 : Int)) = (noT ++ tA, 0 + 2)))
  | 1, _ => rfl
  | n + 2, h => (by simp at h; omega)
theorem known_specZ : SpecF Try.prog 11 [] [] 0 [] (σ := Unit) (fun _ => True) (fun _ => .raw (.bool true)) (fun _ => []) (fun _ => []) := by
  refine SpecF.of Try.func11 rfl Try.ntmps11 rfl (bdl_nil _) fun ρ w => ?_
  repeat (first | refine C.seq ?_ | refine C.region ?_ | refine R.zb ttok ?_ | refine R.zu ttok ?_ | refine R.zc ttok ?_ | refine R.za ttok ?_ | refine R.zx ?_ | refine R.zl ttok ?_ | refine R.zs ttok ?_ | refine R.z ttok ?_ | refine R.zk ?_ | refine R.zn ?_ | refine R.done ?_ | refine X.then ?_ | refine C.block ?_ | refine C.ret ?_ | refine C.skip ?_ | refine C.exit ?_ | refine X.pass_ret ?_ | refine X.pass_exit ?_ | refine X.block_normal ?_ | refine X.block_ret ?_ | refine X.block_exit ?_ | refine C.zt ?_ | refine C.zf ?_ | refine X.zo ?_)
  refine R.cl [] (new_specZ) Try.call17 (by repeat (first | exact HasIn.nil | refine HasIn.same rfl rfl ?_ | refine HasIn.bro rfl ?_ | refine HasIn.ror rfl ?_ | refine HasIn.cro rfl rfl ?_)) rfl rfl rfl (fun _ => rfl) rfl (by kernel_rfl) fun _ _ => ?_
  repeat (first | refine R.zb ttok ?_ | refine R.zu ttok ?_ | refine R.zc ttok ?_ | refine R.za ttok ?_ | refine R.zx ?_ | refine R.zl ttok ?_ | refine R.zs ttok ?_ | refine R.z ttok ?_ | refine R.zk ?_ | refine R.zn ?_)
  refine R.done ?_
  refine X.then ?_
  refine C.noneH 0 [.sl 1 2 0 ([] : ZL).length 0, .raw (.int .i64 0), .raw (.bool false)] (tIZ [] 0) (none_tab _ _ _ _) rfl rfl rfl (fun ρ h => by have h : ρ 1 = none := h; show [(AV.sl 1 2 0 0 0).conc ρ, _, _] = [Value.slice none 0 0, _, _]; simp [AV.conc, AV.concs, h]; exact ⟨rfl, rfl⟩) ?_
  repeat (first | refine C.seq ?_ | refine C.region ?_ | refine R.zb ttok ?_ | refine R.zu ttok ?_ | refine R.zc ttok ?_ | refine R.za ttok ?_ | refine R.zx ?_ | refine R.zl ttok ?_ | refine R.zs ttok ?_ | refine R.z ttok ?_ | refine R.zk ?_ | refine R.zn ?_ | refine R.done ?_ | refine X.then ?_ | refine C.block ?_ | refine C.ret ?_ | refine C.skip ?_ | refine C.exit ?_ | refine X.pass_ret ?_ | refine X.pass_exit ?_ | refine X.block_normal ?_ | refine X.block_ret ?_ | refine X.block_exit ?_ | refine C.zt ?_ | refine C.zf ?_ | refine X.zo ?_)
  refine R.clF [0, 1] (put_specZ [] 0 tA 1 0 false asc0 (by simp) (by decide) (by decide) (by decide) (by decide)) (Nat.le_refl _) (fun _ _ => rfl) Try.call36 (by repeat (first | exact HasIn.nil | refine HasIn.same rfl rfl ?_ | refine HasIn.c1 rfl rfl ?_ | refine HasIn.other rfl (fun e => by cases e) (fun ρ x w hh => tab_ro hh) ?_ | refine HasIn.other rfl (fun e => by cases e) (fun ρ x w hh => tab_any hh) ?_ | refine HasIn.roA rfl rfl ?_ | refine HasIn.other rfl (fun e => by cases e) (fun ρ x w hh => cells_any hh) ?_)) rfl rfl rfl (fun _ => rfl) rfl (by kernel_rfl) fun s1 hs1 => ?_
  rw [kl1, kn1] at *
  repeat (first | refine C.seq ?_ | refine C.region ?_ | refine R.zb ttok ?_ | refine R.zu ttok ?_ | refine R.zc ttok ?_ | refine R.za ttok ?_ | refine R.zx ?_ | refine R.zl ttok ?_ | refine R.zs ttok ?_ | refine R.z ttok ?_ | refine R.zk ?_ | refine R.zn ?_ | refine R.done ?_ | refine X.then ?_ | refine C.block ?_ | refine C.ret ?_ | refine C.skip ?_ | refine C.exit ?_ | refine X.pass_ret ?_ | refine X.pass_exit ?_ | refine X.block_normal ?_ | refine X.block_ret ?_ | refine X.block_exit ?_ | refine C.zt ?_ | refine C.zf ?_ | refine X.zo ?_)
  refine R.clF [0, 2] (put_specZ _ _ tA 2 1 false (asc1 _) (by simp) hs1.1 hs1.2 (by decide) (by decide)) (Nat.le_refl _) (fun _ _ => rfl) Try.call36 (by repeat (first | exact HasIn.nil | refine HasIn.same rfl rfl ?_ | refine HasIn.c1 rfl rfl ?_ | refine HasIn.other rfl (fun e => by cases e) (fun ρ x w hh => tab_ro hh) ?_ | refine HasIn.other rfl (fun e => by cases e) (fun ρ x w hh => tab_any hh) ?_ | refine HasIn.roA rfl rfl ?_ | refine HasIn.other rfl (fun e => by cases e) (fun ρ x w hh => cells_any hh) ?_)) rfl rfl rfl (fun _ => rfl) rfl (by kernel_rfl) fun s2 hs2 => ?_
  rw [kl2, kn2] at *
  repeat (first | refine C.seq ?_ | refine C.region ?_ | refine R.zb ttok ?_ | refine R.zu ttok ?_ | refine R.zc ttok ?_ | refine R.za ttok ?_ | refine R.zx ?_ | refine R.zl ttok ?_ | refine R.zs ttok ?_ | refine R.z ttok ?_ | refine R.zk ?_ | refine R.zn ?_ | refine R.done ?_ | refine X.then ?_ | refine C.block ?_ | refine C.ret ?_ | refine C.skip ?_ | refine C.exit ?_ | refine X.pass_ret ?_ | refine X.pass_exit ?_ | refine X.block_normal ?_ | refine X.block_ret ?_ | refine X.block_exit ?_ | refine C.zt ?_ | refine C.zf ?_ | refine X.zo ?_)
  refine R.clF [0, 3] (mark_specZ _ s2.1 1 false (asc1 _) (by simp) hs2.1 hs2.2) (Nat.le_refl _) (fun _ _ => rfl) Try.call25 (by repeat (first | exact HasIn.nil | refine HasIn.same rfl rfl ?_ | refine HasIn.c1 rfl rfl ?_ | refine HasIn.other rfl (fun e => by cases e) (fun ρ x w hh => tab_ro hh) ?_ | refine HasIn.other rfl (fun e => by cases e) (fun ρ x w hh => tab_any hh) ?_ | refine HasIn.roA rfl rfl ?_ | refine HasIn.other rfl (fun e => by cases e) (fun ρ x w hh => cells_any hh) ?_)) rfl rfl rfl (fun _ => rfl) rfl (by kernel_rfl) fun G1 hG1 => ?_
  simp only [Bool.false_eq_true, if_false] at hG1 ⊢
  rw [kl3]
  refine R.dropG ?_
  repeat (first | refine C.seq ?_ | refine C.region ?_ | refine R.zb ttok ?_ | refine R.zu ttok ?_ | refine R.zc ttok ?_ | refine R.za ttok ?_ | refine R.zx ?_ | refine R.zl ttok ?_ | refine R.zs ttok ?_ | refine R.z ttok ?_ | refine R.zk ?_ | refine R.zn ?_ | refine R.done ?_ | refine X.then ?_ | refine C.block ?_ | refine C.ret ?_ | refine C.skip ?_ | refine C.exit ?_ | refine X.pass_ret ?_ | refine X.pass_exit ?_ | refine X.block_normal ?_ | refine X.block_ret ?_ | refine X.block_exit ?_ | refine C.zt ?_ | refine C.zf ?_ | refine X.zo ?_)
  refine R.clF [0, 4] (put_specZ _ _ tA 3 1 true (asc1 _) (by simp) hs2.1 hs2.2 (by decide) (by decide)) (Nat.le_refl _) (fun _ _ => rfl) Try.call36 (by repeat (first | exact HasIn.nil | refine HasIn.same rfl rfl ?_ | refine HasIn.c1 rfl rfl ?_ | refine HasIn.other rfl (fun e => by cases e) (fun ρ x w hh => tab_ro hh) ?_ | refine HasIn.other rfl (fun e => by cases e) (fun ρ x w hh => tab_any hh) ?_ | refine HasIn.roA rfl rfl ?_ | refine HasIn.other rfl (fun e => by cases e) (fun ρ x w hh => cells_any hh) ?_)) rfl rfl rfl (fun _ => rfl) rfl (by kernel_rfl) fun s4 hs4 => ?_
  rw [kl4, kn4] at *
  repeat (first | refine C.seq ?_ | refine C.region ?_ | refine R.zb ttok ?_ | refine R.zu ttok ?_ | refine R.zc ttok ?_ | refine R.za ttok ?_ | refine R.zx ?_ | refine R.zl ttok ?_ | refine R.zs ttok ?_ | refine R.z ttok ?_ | refine R.zk ?_ | refine R.zn ?_ | refine R.done ?_ | refine X.then ?_ | refine C.block ?_ | refine C.ret ?_ | refine C.skip ?_ | refine C.exit ?_ | refine X.pass_ret ?_ | refine X.pass_exit ?_ | refine X.block_normal ?_ | refine X.block_ret ?_ | refine X.block_exit ?_ | refine C.zt ?_ | refine C.zf ?_ | refine X.zo ?_)
  refine R.clF [0, 5] (put_specZ _ _ tB 9 1 true (asc1 _) (by simp) hs4.1 hs4.2 (by decide) (by decide)) (Nat.le_refl _) (fun _ _ => rfl) Try.call36 (by repeat (first | exact HasIn.nil | refine HasIn.same rfl rfl ?_ | refine HasIn.c1 rfl rfl ?_ | refine HasIn.other rfl (fun e => by cases e) (fun ρ x w hh => tab_ro hh) ?_ | refine HasIn.other rfl (fun e => by cases e) (fun ρ x w hh => tab_any hh) ?_ | refine HasIn.roA rfl rfl ?_ | refine HasIn.other rfl (fun e => by cases e) (fun ρ x w hh => cells_any hh) ?_)) rfl rfl rfl (fun _ => rfl) rfl (by kernel_rfl) fun s5 hs5 => ?_
  rw [kl5, kn5] at *
  have hA5 := asc2 (tA, s1.2, (⟨3, 2, true, true, false, false⟩ : Sl Int)) (tB, s5.2, ⟨0, 9, false, true, true, true⟩) (show cmpS tA tB < 0 by decide)
  repeat (first | refine C.seq ?_ | refine C.region ?_ | refine R.zb ttok ?_ | refine R.zu ttok ?_ | refine R.zc ttok ?_ | refine R.za ttok ?_ | refine R.zx ?_ | refine R.zl ttok ?_ | refine R.zs ttok ?_ | refine R.z ttok ?_ | refine R.zk ?_ | refine R.zn ?_ | refine R.done ?_ | refine X.then ?_ | refine C.block ?_ | refine C.ret ?_ | refine C.skip ?_ | refine C.exit ?_ | refine X.pass_ret ?_ | refine X.pass_exit ?_ | refine X.block_normal ?_ | refine X.block_ret ?_ | refine X.block_exit ?_ | refine C.zt ?_ | refine C.zf ?_ | refine X.zo ?_)
  refine R.clF [0, 6] (slot_specZ _ s5.1 tA hA5 (by simp)) (Nat.le_refl _) (fun _ _ => rfl) Try.call39 (by repeat (first | exact HasIn.nil | refine HasIn.same rfl rfl ?_ | refine HasIn.c1 rfl rfl ?_ | refine HasIn.other rfl (fun e => by cases e) (fun ρ x w hh => tab_ro hh) ?_ | refine HasIn.other rfl (fun e => by cases e) (fun ρ x w hh => tab_any hh) ?_ | refine HasIn.roA rfl rfl ?_ | refine HasIn.other rfl (fun e => by cases e) (fun ρ x w hh => cells_any hh) ?_)) rfl rfl rfl (fun _ => rfl) rfl (by kernel_rfl) fun _ _ => ?_
  rw [show sloV [(tA, s1.2, (⟨3, 2, true, true, false, false⟩ : Sl Int)), (tB, s5.2, ⟨0, 9, false, true, true, true⟩)] tA = ⟨3, 2, true, true, false, false⟩ from rfl, show hasK [(tA, s1.2, (⟨3, 2, true, true, false, false⟩ : Sl Int)), (tB, s5.2, ⟨0, 9, false, true, true, true⟩)] tA = true from rfl]
  repeat (first | refine C.seq ?_ | refine C.region ?_ | refine R.zb ttok ?_ | refine R.zu ttok ?_ | refine R.zc ttok ?_ | refine R.za ttok ?_ | refine R.zx ?_ | refine R.zl ttok ?_ | refine R.zs ttok ?_ | refine R.z ttok ?_ | refine R.zk ?_ | refine R.zn ?_ | refine R.done ?_ | refine X.then ?_ | refine C.block ?_ | refine C.ret ?_ | refine C.skip ?_ | refine C.exit ?_ | refine X.pass_ret ?_ | refine X.pass_exit ?_ | refine X.block_normal ?_ | refine X.block_ret ?_ | refine X.block_exit ?_ | refine C.zt ?_ | refine C.zf ?_ | refine X.zo ?_)
  refine R.cl [0] (snap_specZ noT) Try.call24 (by repeat (first | exact HasIn.nil | refine HasIn.same rfl rfl ?_ | refine HasIn.c1 rfl rfl ?_ | refine HasIn.other rfl (fun e => by cases e) (fun ρ x w hh => tab_ro hh) ?_ | refine HasIn.other rfl (fun e => by cases e) (fun ρ x w hh => tab_any hh) ?_ | refine HasIn.roA rfl rfl ?_ | refine HasIn.other rfl (fun e => by cases e) (fun ρ x w hh => cells_any hh) ?_)) rfl rfl rfl (fun _ => rfl) rfl (by kernel_rfl) fun _ _ => ?_
  repeat (first | refine C.seq ?_ | refine C.region ?_ | refine R.zb ttok ?_ | refine R.zu ttok ?_ | refine R.zc ttok ?_ | refine R.za ttok ?_ | refine R.zx ?_ | refine R.zl ttok ?_ | refine R.zs ttok ?_ | refine R.z ttok ?_ | refine R.zk ?_ | refine R.zn ?_ | refine R.done ?_ | refine X.then ?_ | refine C.block ?_ | refine C.ret ?_ | refine C.skip ?_ | refine C.exit ?_ | refine X.pass_ret ?_ | refine X.pass_exit ?_ | refine X.block_normal ?_ | refine X.block_ret ?_ | refine X.block_exit ?_ | refine C.zt ?_ | refine C.zf ?_ | refine X.zo ?_)
  refine R.clF [0, 6, 10, 11, 8, 9] (snKn_spec _ s5.1 noT 2 true knSt hA5 (by simp) rfl (kns _ _)) (Nat.le_refl _) (fun _ _ => rfl) Try.call53 (by repeat (first | exact HasIn.nil | refine HasIn.same rfl rfl ?_ | refine HasIn.c1 rfl rfl ?_ | refine HasIn.roq rfl rfl ?_ | refine HasIn.other rfl (fun e => by cases e) (fun ρ x w hh => tab_ro hh) ?_ | refine HasIn.other rfl (fun e => by cases e) (fun ρ x w hh => tab_any hh) ?_ | refine HasIn.roAp rfl rfl ?_ | refine HasIn.other rfl (fun e => by cases e) (fun ρ x w hh => cells_any hh) ?_ | refine HasIn.other rfl (fun e => by cases e) (fun ρ x w hh => ro_any hh) ?_)) rfl rfl rfl (fun _ => rfl) rfl (by kernel_rfl) fun _ _ => ?_
  rw [show knSt [(tA, s1.2, (⟨3, 2, true, true, false, false⟩ : Sl Int)), (tB, s5.2, ⟨0, 9, false, true, true, true⟩)].length = (tA, 2) from rfl]
  repeat (first | refine C.seq ?_ | refine C.region ?_ | refine R.zb ttok ?_ | refine R.zu ttok ?_ | refine R.zc ttok ?_ | refine R.za ttok ?_ | refine R.zx ?_ | refine R.zl ttok ?_ | refine R.zs ttok ?_ | refine R.z ttok ?_ | refine R.zk ?_ | refine R.zn ?_ | refine R.done ?_ | refine X.then ?_ | refine C.block ?_ | refine C.ret ?_ | refine C.skip ?_ | refine C.exit ?_ | refine X.pass_ret ?_ | refine X.pass_exit ?_ | refine X.block_normal ?_ | refine X.block_ret ?_ | refine X.block_exit ?_ | refine C.zt ?_ | refine C.zf ?_ | refine X.zo ?_)
  refine R.clF [0, 6] (get_specZ _ s5.1 tA hA5 (by simp)) (Nat.le_refl _) (fun _ _ => rfl) Try.call21 (by repeat (first | exact HasIn.nil | refine HasIn.same rfl rfl ?_ | refine HasIn.c1 rfl rfl ?_ | refine HasIn.other rfl (fun e => by cases e) (fun ρ x w hh => tab_ro hh) ?_ | refine HasIn.other rfl (fun e => by cases e) (fun ρ x w hh => tab_any hh) ?_ | refine HasIn.roA rfl rfl ?_ | refine HasIn.other rfl (fun e => by cases e) (fun ρ x w hh => cells_any hh) ?_)) rfl rfl rfl (fun _ => rfl) rfl (by kernel_rfl) fun _ _ => ?_
  rw [show getV [(tA, s1.2, (⟨3, 2, true, true, false, false⟩ : Sl Int)), (tB, s5.2, ⟨0, 9, false, true, true, true⟩)] tA = 3 from rfl, show isV [(tA, s1.2, (⟨3, 2, true, true, false, false⟩ : Sl Int)), (tB, s5.2, ⟨0, 9, false, true, true, true⟩)] tA = true from rfl]
  repeat (first | refine C.seq ?_ | refine C.region ?_ | refine R.zb ttok ?_ | refine R.zu ttok ?_ | refine R.zc ttok ?_ | refine R.za ttok ?_ | refine R.zx ?_ | refine R.zl ttok ?_ | refine R.zs ttok ?_ | refine R.z ttok ?_ | refine R.zk ?_ | refine R.zn ?_ | refine R.done ?_ | refine X.then ?_ | refine C.block ?_ | refine C.ret ?_ | refine C.skip ?_ | refine C.exit ?_ | refine X.pass_ret ?_ | refine X.pass_exit ?_ | refine X.block_normal ?_ | refine X.block_ret ?_ | refine X.block_exit ?_ | refine C.zt ?_ | refine C.zf ?_ | refine X.zo ?_)
  refine R.clF [0, 6] (mark_specZ _ s5.1 2 true hA5 (by simp) hs5.1 hs5.2) (Nat.le_refl _) (fun _ _ => rfl) Try.call25 (by repeat (first | exact HasIn.nil | refine HasIn.same rfl rfl ?_ | refine HasIn.c1 rfl rfl ?_ | refine HasIn.other rfl (fun e => by cases e) (fun ρ x w hh => tab_ro hh) ?_ | refine HasIn.other rfl (fun e => by cases e) (fun ρ x w hh => tab_any hh) ?_ | refine HasIn.roA rfl rfl ?_ | refine HasIn.other rfl (fun e => by cases e) (fun ρ x w hh => cells_any hh) ?_)) rfl rfl rfl (fun _ => rfl) rfl (by kernel_rfl) fun G2 hG2 => ?_
  simp only [if_true] at hG2 ⊢
  refine R.dropG ?_
  repeat (first | refine C.seq ?_ | refine C.region ?_ | refine R.zb ttok ?_ | refine R.zu ttok ?_ | refine R.zc ttok ?_ | refine R.za ttok ?_ | refine R.zx ?_ | refine R.zl ttok ?_ | refine R.zs ttok ?_ | refine R.z ttok ?_ | refine R.zk ?_ | refine R.zn ?_ | refine R.done ?_ | refine X.then ?_ | refine C.block ?_ | refine C.ret ?_ | refine C.skip ?_ | refine C.exit ?_ | refine X.pass_ret ?_ | refine X.pass_exit ?_ | refine X.block_normal ?_ | refine X.block_ret ?_ | refine X.block_exit ?_ | refine C.zt ?_ | refine C.zf ?_ | refine X.zo ?_)
  refine R.clF [0, 12] (done_specZ _ s5.1 2 true hA5 (by simp) hs5.1 hs5.2) (Nat.le_refl _) (fun _ _ => rfl) Try.call29 (by repeat (first | exact HasIn.nil | refine HasIn.same rfl rfl ?_ | refine HasIn.c1 rfl rfl ?_ | refine HasIn.other rfl (fun e => by cases e) (fun ρ x w hh => tab_ro hh) ?_ | refine HasIn.other rfl (fun e => by cases e) (fun ρ x w hh => tab_any hh) ?_ | refine HasIn.roA rfl rfl ?_ | refine HasIn.other rfl (fun e => by cases e) (fun ρ x w hh => cells_any hh) ?_)) rfl rfl rfl (fun _ => rfl) rfl (by kernel_rfl) fun G3 hG3 => ?_
  simp only [if_true] at hG3 ⊢
  rw [kl6]
  refine R.dropG ?_
  repeat (first | refine C.seq ?_ | refine C.region ?_ | refine R.zb ttok ?_ | refine R.zu ttok ?_ | refine R.zc ttok ?_ | refine R.za ttok ?_ | refine R.zx ?_ | refine R.zl ttok ?_ | refine R.zs ttok ?_ | refine R.z ttok ?_ | refine R.zk ?_ | refine R.zn ?_ | refine R.done ?_ | refine X.then ?_ | refine C.block ?_ | refine C.ret ?_ | refine C.skip ?_ | refine C.exit ?_ | refine X.pass_ret ?_ | refine X.pass_exit ?_ | refine X.block_normal ?_ | refine X.block_ret ?_ | refine X.block_exit ?_ | refine C.zt ?_ | refine C.zf ?_ | refine X.zo ?_)
  refine R.clF [0, 13] (del_specZ _ s5.1 tA 2 false hA5 (by simp) hs5.1 hs5.2 (by decide) (by decide)) (Nat.le_refl _) (fun _ _ => rfl) Try.call30 (by repeat (first | exact HasIn.nil | refine HasIn.same rfl rfl ?_ | refine HasIn.c1 rfl rfl ?_ | refine HasIn.other rfl (fun e => by cases e) (fun ρ x w hh => tab_ro hh) ?_ | refine HasIn.other rfl (fun e => by cases e) (fun ρ x w hh => tab_any hh) ?_ | refine HasIn.roA rfl rfl ?_ | refine HasIn.other rfl (fun e => by cases e) (fun ρ x w hh => cells_any hh) ?_)) rfl rfl rfl (fun _ => rfl) rfl (by kernel_rfl) fun G4 hG4 => ?_
  rw [kl7, kn7]
  refine R.dropG ?_
  repeat (first | refine C.seq ?_ | refine C.region ?_ | refine R.zb ttok ?_ | refine R.zu ttok ?_ | refine R.zc ttok ?_ | refine R.za ttok ?_ | refine R.zx ?_ | refine R.zl ttok ?_ | refine R.zs ttok ?_ | refine R.z ttok ?_ | refine R.zk ?_ | refine R.zn ?_ | refine R.done ?_ | refine X.then ?_ | refine C.block ?_ | refine C.ret ?_ | refine C.skip ?_ | refine C.exit ?_ | refine X.pass_ret ?_ | refine X.pass_exit ?_ | refine X.block_normal ?_ | refine X.block_ret ?_ | refine X.block_exit ?_ | refine C.zt ?_ | refine C.zf ?_ | refine X.zo ?_)
  refine R.clF [0, 13] (slot_specZ _ s5.1 tA (asc1 _) (by simp)) (Nat.le_refl _) (fun _ _ => rfl) Try.call39 (by repeat (first | exact HasIn.nil | refine HasIn.same rfl rfl ?_ | refine HasIn.c1 rfl rfl ?_ | refine HasIn.other rfl (fun e => by cases e) (fun ρ x w hh => tab_ro hh) ?_ | refine HasIn.other rfl (fun e => by cases e) (fun ρ x w hh => tab_any hh) ?_ | refine HasIn.roA rfl rfl ?_ | refine HasIn.other rfl (fun e => by cases e) (fun ρ x w hh => cells_any hh) ?_)) rfl rfl rfl (fun _ => rfl) rfl (by kernel_rfl) fun _ _ => ?_
  rw [show sloV [(tB, s5.2, (⟨0, 9, false, true, true, true⟩ : Sl Int))] tA = default from rfl, show hasK [(tB, s5.2, (⟨0, 9, false, true, true, true⟩ : Sl Int))] tA = false from rfl]
  repeat (first | refine C.seq ?_ | refine C.region ?_ | refine R.zb ttok ?_ | refine R.zu ttok ?_ | refine R.zc ttok ?_ | refine R.za ttok ?_ | refine R.zx ?_ | refine R.zl ttok ?_ | refine R.zs ttok ?_ | refine R.z ttok ?_ | refine R.zk ?_ | refine R.zn ?_ | refine R.done ?_ | refine X.then ?_ | refine C.block ?_ | refine C.ret ?_ | refine C.skip ?_ | refine C.exit ?_ | refine X.pass_ret ?_ | refine X.pass_exit ?_ | refine X.block_normal ?_ | refine X.block_ret ?_ | refine X.block_exit ?_ | refine C.zt ?_ | refine C.zf ?_ | refine X.zo ?_)
  refine R.eqs ttok true rfl rfl (by kernel_rfl) (by kernel_rfl) (by rfl) rfl (by kernel_rfl) ?_
  repeat (first | refine C.seq ?_ | refine C.region ?_ | refine R.zb ttok ?_ | refine R.zu ttok ?_ | refine R.zc ttok ?_ | refine R.za ttok ?_ | refine R.zx ?_ | refine R.zl ttok ?_ | refine R.zs ttok ?_ | refine R.z ttok ?_ | refine R.zk ?_ | refine R.zn ?_ | refine R.done ?_ | refine X.then ?_ | refine C.block ?_ | refine C.ret ?_ | refine C.skip ?_ | refine C.exit ?_ | refine X.pass_ret ?_ | refine X.pass_exit ?_ | refine X.block_normal ?_ | refine X.block_ret ?_ | refine X.block_exit ?_ | refine C.zt ?_ | refine C.zf ?_ | refine X.zo ?_)
  rw [show decide (tA.toList = tA.toList) = true from decide_eq_true rfl]
  repeat (first | refine C.seq ?_ | refine C.region ?_ | refine R.zb ttok ?_ | refine R.zu ttok ?_ | refine R.zc ttok ?_ | refine R.za ttok ?_ | refine R.zx ?_ | refine R.zl ttok ?_ | refine R.zs ttok ?_ | refine R.z ttok ?_ | refine R.zk ?_ | refine R.zn ?_ | refine R.done ?_ | refine X.then ?_ | refine C.block ?_ | refine C.ret ?_ | refine C.skip ?_ | refine C.exit ?_ | refine X.pass_ret ?_ | refine X.pass_exit ?_ | refine X.block_normal ?_ | refine X.block_ret ?_ | refine X.block_exit ?_ | refine C.zt ?_ | refine C.zf ?_ | refine X.zo ?_)
  refine R.cl [0, 13] (len_specZ s5.1 0 1 1 false) Try.call40 (by repeat (first | exact HasIn.nil | refine HasIn.same rfl rfl ?_ | refine HasIn.c1 rfl rfl ?_ | refine HasIn.roq rfl rfl ?_ | refine HasIn.other rfl (fun e => by cases e) (fun ρ x w hh => tab_ro hh) ?_ | refine HasIn.other rfl (fun e => by cases e) (fun ρ x w hh => tab_any hh) ?_ | refine HasIn.roAp rfl rfl ?_ | refine HasIn.other rfl (fun e => by cases e) (fun ρ x w hh => cells_any hh) ?_ | refine HasIn.other rfl (fun e => by cases e) (fun ρ x w hh => ro_any hh) ?_)) rfl rfl rfl (fun _ => rfl) rfl (by kernel_rfl) fun _ _ => ?_
  repeat (first | refine C.seq ?_ | refine C.region ?_ | refine R.zb ttok ?_ | refine R.zu ttok ?_ | refine R.zc ttok ?_ | refine R.za ttok ?_ | refine R.zx ?_ | refine R.zl ttok ?_ | refine R.zs ttok ?_ | refine R.z ttok ?_ | refine R.zk ?_ | refine R.zn ?_ | refine R.done ?_ | refine X.then ?_ | refine C.block ?_ | refine C.ret ?_ | refine C.skip ?_ | refine C.exit ?_ | refine X.pass_ret ?_ | refine X.pass_exit ?_ | refine X.block_normal ?_ | refine X.block_ret ?_ | refine X.block_exit ?_ | refine C.zt ?_ | refine C.zf ?_ | refine X.zo ?_)
  refine X.finF ttok () [] trivial rfl rfl rfl (by repeat (first | exact HasH.nil | refine HasH.same rfl rfl rfl trivial ?_ | refine HasH.same rfl rfl rfl rfl ?_ | refine HasH.same rfl rfl rfl (fun _ _ => rfl) ?_ | refine HasH.ros rfl rfl ?_)) _ (by first | exact .inl rfl | exact .inr rfl) ?_ ?_ ?_
  · exact fun w' hf => List.Pairwise.nil
  · exact fun p hp => by cases hp
  · exact fun p hp e => by cases hp
end Go.Proofs.Yteabncomclgncaa
namespace Go.Proofs.Yteabncomclgncaa
set_option linter.unusedVariables false
set_option linter.unusedSimpArgs false
open Go.RowKit
set_option maxRecDepth 100000
set_option maxHeartbeats 4000000
def inF (l : List Int) (i : Nat) : List AV := [.raw (.int .i64 (l.getD i 0))]
abbrev tN (l : List Int) (c : Nat) : AO := .tab 1 l.length c (inF l) 3
def ins (l : List Int) : List AV := l.map fun s => .raw (.int .i64 s)
theorem flat_in (l : List Int) : flat (inF l) l.length = ins l := by
  have key : ∀ n, n ≤ l.length → flat (inF l) n = ins (l.take n) := fun n => by
    induction n with
    | zero => intro _; rfl
    | succ n ih =>
      intro h
      rw [flat, ih (by omega), List.take_add_one]
      unfold ins inF
      rw [List.map_append]
      congr 1
      rw [List.getElem?_eq_getElem (by omega), List.getD_eq_getElem?_getD, List.getElem?_eq_getElem (by omega)]
      rfl
  rw [key _ (Nat.le_refl _), List.take_length]
section
variable {E : Base} {n L : Nat} {τ : List (Nat × AV)} {h : List (Nat × AO)} {F : World → Prop}
theorem asIn (T : TypeId) (l : List Int) (xs : List AV) (hx : xs = ins l) : AsRow (fun c => .tab 1 l.length c (inF l) T) T 1 xs := by
  rw [hx, ← flat_in]
  exact AsRow.tab T (by decide) fun i _ => rfl
theorem dstIn {lab cap : Nat} {l : List Int} {T : TypeId} (hl : hk lab h = some (.tab 1 l.length cap (inF l) T)) : DstA E n L τ h F (.sl lab 1 0 l.length cap) T 1 l.length cap (ins l) [lab] := by
  have := DstA.tab (E := E) (n := n) (L := L) (τ := τ) (F := F) (by decide) hl fun i _ => rfl
  rwa [flat_in] at this
end
abbrev kT : TypeId := 22
abbrev vT : TypeId := 46
theorem pr1_spec (key : ByteArray) (x : Int) (ks : List ByteArray) (vs : List Int) (c1 c2 : Nat) (h1 : ks.length < 602) (h2 : vs.length < 602) (hc1 : c1 ≤ 9223372036854775807) (hd1 : ks.length ≤ c1) (hc2 : c2 ≤ 9223372036854775807) (hd2 : vs.length ≤ c2) :
    Spec Try.prog 51 [.raw (.string key), .raw (.int .i64 x), .ptr 0 0 0 0, .ptr 1 0 0 0] [.cells [.sl 2 1 0 ks.length c1] kT, .cells [.sl 3 1 0 vs.length c2] vT, tX ks c1, tN vs c2] 6 (σ := Nat × Nat) (fun s => (ks ++ [key]).length ≤ s.1 ∧ s.1 ≤ 9223372036854775807 ∧ (vs ++ [x]).length ≤ s.2 ∧ s.2 ≤ 9223372036854775807)
    (fun _ => .raw (.bool true)) (fun s => [(0, .cells [.sl 4 1 0 (ks ++ [key]).length s.1] kT), (1, .cells [.sl 5 1 0 (vs ++ [x]).length s.2] vT), (4, tX (ks ++ [key]) s.1), (5, tN (vs ++ [x]) s.2)]) := by
  refine Spec.of Try.func51 rfl Try.ntmps51 rfl (bdl_cons rfl (bdl_cons rfl (bdl_cons (fun _ _ => rfl) (bdl_cons (fun _ _ => rfl) (bdl_nil _))))) fun ρ w => ?_
  have hlen1 : (ks ++ [key]).length = ks.length + 1 := by rw [List.length_append]; rfl
  have hlen2 : (vs ++ [x]).length = vs.length + 1 := by rw [List.length_append]; rfl
  repeat (first | refine C.seq ?_ | refine C.region ?_ | refine R.zb ttok ?_ | refine R.zu ttok ?_ | refine R.zc ttok ?_ | refine R.za ttok ?_ | refine R.zx ?_ | refine R.zl ttok ?_ | refine R.zs ttok ?_ | refine R.z ttok ?_ | refine R.zk ?_ | refine R.zn ?_ | refine R.done ?_ | refine X.then ?_ | refine C.block ?_ | refine C.ret ?_ | refine C.skip ?_ | refine C.exit ?_ | refine X.pass_ret ?_ | refine X.pass_exit ?_ | refine X.block_normal ?_ | refine X.block_ret ?_ | refine X.block_exit ?_ | refine C.zt ?_ | refine C.zf ?_ | refine X.zo ?_)
  refine R.app (xs := txs ks) (news := txs [key]) ttok (fun c => tX (ks ++ [key]) c) rfl rfl (dstTx rfl) (SrcA.cells rfl rfl) (asTx _ _ _ (by unfold txs; rw [List.map_append])) rfl rfl rfl rfl rfl rfl (by decide) rfl rfl rfl (by kernel_rfl) hc1 (by show (ks.length + 1) * 16 ≤ _; omega) (by omega) fun cN hcN hcN2 => ?_
  rw [← hlen1] at hcN ⊢
  repeat (first | refine C.seq ?_ | refine C.region ?_ | refine R.zb ttok ?_ | refine R.zu ttok ?_ | refine R.zc ttok ?_ | refine R.za ttok ?_ | refine R.zx ?_ | refine R.zl ttok ?_ | refine R.zs ttok ?_ | refine R.z ttok ?_ | refine R.zk ?_ | refine R.zn ?_ | refine R.done ?_ | refine X.then ?_ | refine C.block ?_ | refine C.ret ?_ | refine C.skip ?_ | refine C.exit ?_ | refine X.pass_ret ?_ | refine X.pass_exit ?_ | refine X.block_normal ?_ | refine X.block_ret ?_ | refine X.block_exit ?_ | refine C.zt ?_ | refine C.zf ?_ | refine X.zo ?_)
  refine R.app (xs := ins vs) (news := ins [x]) ttok (fun c => tN (vs ++ [x]) c) rfl rfl (dstIn rfl) (SrcA.cells rfl rfl) (asIn _ _ _ (by unfold ins; rw [List.map_append])) rfl rfl rfl rfl rfl rfl (by decide) rfl rfl rfl (by kernel_rfl) hc2 (by show (vs.length + 1) * 8 ≤ _; omega) (by omega) fun cM hcM hcM2 => ?_
  rw [← hlen2] at hcM ⊢
  repeat (first | refine C.seq ?_ | refine C.region ?_ | refine R.zb ttok ?_ | refine R.zu ttok ?_ | refine R.zc ttok ?_ | refine R.za ttok ?_ | refine R.zx ?_ | refine R.zl ttok ?_ | refine R.zs ttok ?_ | refine R.z ttok ?_ | refine R.zk ?_ | refine R.zn ?_ | refine R.done ?_ | refine X.then ?_ | refine C.block ?_ | refine C.ret ?_ | refine C.skip ?_ | refine C.exit ?_ | refine X.pass_ret ?_ | refine X.pass_exit ?_ | refine X.block_normal ?_ | refine X.block_ret ?_ | refine X.block_exit ?_ | refine C.zt ?_ | refine C.zf ?_ | refine X.zo ?_)
  rw [decide_eq_true (show ((ks ++ [key]).length : Int) ≤ 602 by omega)]
  repeat (first | refine C.seq ?_ | refine C.region ?_ | refine R.zb ttok ?_ | refine R.zu ttok ?_ | refine R.zc ttok ?_ | refine R.za ttok ?_ | refine R.zx ?_ | refine R.zl ttok ?_ | refine R.zs ttok ?_ | refine R.z ttok ?_ | refine R.zk ?_ | refine R.zn ?_ | refine R.done ?_ | refine X.then ?_ | refine C.block ?_ | refine C.ret ?_ | refine C.skip ?_ | refine C.exit ?_ | refine X.pass_ret ?_ | refine X.pass_exit ?_ | refine X.block_normal ?_ | refine X.block_ret ?_ | refine X.block_exit ?_ | refine C.zt ?_ | refine C.zf ?_ | refine X.zo ?_)
  refine X.fin ttok (cN, cM) [(4, 5), (5, 7)] ⟨hcN, hcN2, hcM, hcM2⟩ rfl rfl rfl (by repeat (first | exact HasH.nil | refine HasH.same rfl rfl rfl trivial ?_ | refine HasH.same rfl rfl rfl rfl ?_ | refine HasH.same rfl rfl rfl (fun _ _ => rfl) ?_ | refine HasH.ros rfl rfl ?_)) _ (by first | exact .inl rfl | exact .inr rfl)
def segF (f : PIZ → Bool) (l : ZL) (i j : Nat) : ZL := ((l.take j).drop i).filter f
theorem segF_self (f : PIZ → Bool) (l : ZL) (i : Nat) : segF f l i i = [] := by
  unfold segF
  rw [List.drop_eq_nil_of_le (by rw [List.length_take]; omega)]
  rfl
theorem segF_step {f : PIZ → Bool} {l : ZL} {i j : Nat} (h1 : i ≤ j) (h2 : j < l.length) : segF f l i (j + 1) = if f (l.getD j zG) = true then segF f l i j ++ [l.getD j zG] else segF f l i j := by
  unfold segF
  rw [List.take_succ_eq_append_getElem h2, List.drop_append_of_le_length (by rw [List.length_take]; omega), List.filter_append, zG_get h2]
  cases h : f l[j] <;> simp [h]
theorem segF_len (f : PIZ → Bool) (l : ZL) (i j : Nat) : (segF f l i j).length ≤ l.length := by
  unfold segF
  refine Nat.le_trans (List.length_filter_le _ _) ?_
  rw [List.length_drop, List.length_take]
  omega
abbrev keysZ (l : ZL) : List ByteArray := l.map (·.1)
abbrev liveZ (p : PIZ) : Bool := p.2.2.live
abbrev lvZ (l : ZL) : List Int := l.map fun p => p.2.2.get p.2.2.rd
theorem map_snoc {α β : Type} (f : α → β) (l : List α) (x : α) : (l ++ [x]).map f = l.map f ++ [f x] := by rw [List.map_append]; rfl
section
variable (l : ZL) (c : Nat) (ab : ByteArray)
end
end Go.Proofs.Yteabncomclgncaa
namespace Go.Proofs.Yteabncomclgncaa
set_option linter.unusedVariables false
set_option linter.unusedSimpArgs false
open Go.RowKit
set_option maxRecDepth 100000
set_option maxHeartbeats 4000000
abbrev prF : FuncId := 51
theorem CR.labZ {P : Program} {lb : Nat} {c : Code} {Q : Exit → Act → World → Prop} {E : Base} {n L : Nat} {τ : List (Nat × AV)} {h : List (Nat × AO)} {H0 : List AO} {R0 : Env} {W0 : World} {FS0 fs : Fam} (t : Nat) (p : PIZ) (hm : zfact p ∈ fs) (hv : lk t τ = some (.raw (.pointer (some ⟨p.2.1, 0, none⟩)))) (k : CR P lb c Q E n (L + 1) ((t, .ptr L 0 0 0) :: τ) ((L, slRo p.2.2) :: h) (FF H0 R0 W0 FS0 fs)) : CR P lb c Q E n L τ h (FF H0 R0 W0 FS0 fs) :=
  ⟨fun ρ a w g => k.out _ a w (g.labO t (x := some p.2.1) (ob := slOb p.2.2) (o := slRo p.2.2) (.ptr L 0 0 0) hv (fun q hq => by
    obtain rfl : q = ⟨false, p.2.1, slOb p.2.2⟩ := by simpa [optF] using hq
    exact ⟨zfact p, hm, rfl, rfl⟩) rfl (fun ρ h => by simp [AV.conc, h]) (by simp [AV.bd, Nat.ble_eq]) (fun b hb => by cases hb; exact is_slRo _ _) (fun e => by cases e) (roA_bd rfl))⟩
/-- what a Range sees, out of a telling in which the store is only read -/
theorem rsee_ro {E : Base} {ρ : Env} {n L : Nat} {τ : List (Nat × AV)} {h : List (Nat × AO)} {F : World → Prop} {a : Act} {W : World} (g : Gam E ρ n L τ h F a W) {lt lf lo ls ll c : Nat} {fr to : ByteArray} {l : ZL} {rest : List AV} {T1 T2 T3 : TypeId} (hA : Asc l) (hl : l.length ≤ 1000000) (h1 : hk lt h = some (.cells [.ptr ls 0 0 0] T1)) (h2 : hk lf h = some (.cells [.raw (.string fr)] T2)) (h3 : hk lo h = some (.cells [.raw (.string to)] T3))
    (h4 : hk ls h = some (.ro 0 0 1 (fun _ => .sl ll 2 0 l.length c :: rest))) (h5 : hk ll h = some (roTZ l)) : RSee ((ρ lt).getD 0) ((ρ lf).getD 0) ((ρ lo).getD 0) ((ρ ls).getD 0) fr to l W := by
  obtain ⟨b1, r1, k1⟩ := (g.hp _ _ h1).2.2
  obtain ⟨b2, r2, k2⟩ := (g.hp _ _ h2).2.2
  obtain ⟨b3, r3, k3⟩ := (g.hp _ _ h3).2.2
  have k4 := (g.hp _ _ h4).2.2
  have k5 := (g.hp _ _ h5).2.2
  rcases k4 with ⟨_, e⟩ | ⟨b4, cur4, ty4, fr4, r4, k4, c4⟩
  · cases e
  rw [r1, r2, r3, r4]
  refine ⟨hA, hl, ρ ll, c, fun i o ho => ?_, fun i b hi hb => ?_⟩
  · simp only [rgH, hk_cons] at ho
    split at ho
    · rename_i e; subst e; cases ho
      refine .inr ⟨b1, _, _, _, rfl, k1, fun i c x hi hx => ?_⟩
      cases c with
      | zero => simp at hx; subst hx; simp [AV.concs, AV.conc, r4, envR]
      | succ c => simp at hx
    split at ho
    · rename_i e; subst e; cases ho
      refine .inr ⟨b2, _, _, _, rfl, k2, fun i c x hi hx => ?_⟩
      cases c with
      | zero => simp at hx; subst hx; simp [AV.concs, AV.conc]
      | succ c => simp at hx
    split at ho
    · rename_i e; subst e; cases ho
      refine .inr ⟨b3, _, _, _, rfl, k3, fun i c x hi hx => ?_⟩
      cases c with
      | zero => simp at hx; subst hx; simp [AV.concs, AV.conc]
      | succ c => simp at hx
    split at ho
    · rename_i e; subst e; cases ho
      refine .inr ⟨b4, _, _, _, rfl, k4, fun i c x hi hx => ?_⟩
      cases c with
      | zero =>
        simp at hx; subst hx
        have := c4 i 0 _ hi rfl
        rw [this]
        simp [AV.conc, envR]
      | succ c => simp at hx
    split at ho
    · rename_i e; subst e; cases ho
      rcases k5 with ⟨h6, h7⟩ | ⟨b, cur, ty, fr', h6, h7, h8⟩
      · exact .inl ⟨h6, h7⟩
      · exact .inr ⟨b, cur, ty, fr', h6, h7, fun i c x hi hx => by
          have := h8 i c x hi hx
          have hx2 : x ∈ piFZ l i := List.mem_of_getElem? hx
          rw [this]
          unfold piFZ piAZ at hx2
          simp only [List.mem_cons, List.not_mem_nil, or_false] at hx2
          rcases hx2 with rfl | rfl <;> rfl⟩
    · simp [hk, lk] at ho
  · match i, hi with
    | 0, _ => cases hb; exact (Array.getElem?_eq_some_iff.1 k1).1
    | 1, _ => cases hb; exact (Array.getElem?_eq_some_iff.1 k2).1
    | 2, _ => cases hb; exact (Array.getElem?_eq_some_iff.1 k3).1
    | 3, _ => cases hb; exact (Array.getElem?_eq_some_iff.1 k4).1
    | 4, _ => exact g.al ll b (g.hp _ _ h5).1 hb
def lastR (l : ZL) (i0 i : Nat) : Option ByteArray := if i = i0 then none else some (l.getD (i - 1) zG).1
theorem posO_r {l : ZL} (hA : Asc l) {fr : ByteArray} {i : Nat} (h0 : plc l fr ≤ i) (hi : i ≤ l.length) : posO l fr (lastR l (plc l fr) i) = i := by
  unfold lastR
  by_cases h : i = plc l fr
  · rw [if_pos h, h]; rfl
  · rw [if_neg h]
    show aboveN l (l.getD (i - 1) zG).1 = i
    rw [above_at hA (by omega)]
    omega
section
variable (l : ZL) (c : Nat) (fr to : ByteArray)
theorem rgPr_spec (hs : Int) (mk : Bool) (hA : Asc l) (hl : l.length ≤ 601) :
    SpecF Try.prog 48 [.fn prF [.ptr 5 0 0 0, .ptr 6 0 0 0], .ptr 2 0 0 0, .ptr 3 0 0 0, .ptr 4 0 0 0] [tbAZ 1 l.length c hs mk, roTZ l, one0 (.ptr 0 0 0 0), one0 (.raw (.string fr)), one0 (.raw (.string to)), .cells [.sl 7 1 0 ([] : List ByteArray).length 0] kT, .cells [.sl 8 1 0 ([] : List Int).length 0] vT, tX [] 0, tN [] 0] 11 (zF l)
    (σ := Nat × Nat × Nat) (fun s => (plc l fr ≤ s.1 ∧ s.1 ≤ l.length ∧ (∀ i, plc l fr ≤ i → i < s.1 → past to (l.getD i zG).1 = false) ∧ (s.1 < l.length → past to (l.getD s.1 zG).1 = true)) ∧ (keysZ (segF liveZ l (plc l fr) s.1)).length ≤ s.2.1 ∧ s.2.1 ≤ 9223372036854775807 ∧ (lvZ (segF liveZ l (plc l fr) s.1)).length ≤ s.2.2 ∧ s.2.2 ≤ 9223372036854775807)
    (fun _ => .tup []) (fun s => [(5, .cells [.sl 9 1 0 (keysZ (segF liveZ l (plc l fr) s.1)).length s.2.1] kT), (6, .cells [.sl 10 1 0 (lvZ (segF liveZ l (plc l fr) s.1)).length s.2.2] vT), (9, tX (keysZ (segF liveZ l (plc l fr) s.1)) s.2.1), (10, tN (lvZ (segF liveZ l (plc l fr) s.1)) s.2.2)]) (fun _ => zF l) := by
  refine SpecF.ofM Try.func48 rfl Try.ntmps48 rfl (bdl_cons (roA_bd rfl) (bdl_cons (fun _ _ => rfl) (bdl_cons (roA_bd rfl) (bdl_cons (roA_bd rfl) (bdl_cons (roA_bd rfl) (bdl_cons rfl (bdl_cons rfl (bdl_cons (fun _ _ => rfl) (bdl_cons (fun _ _ => rfl) (bdl_nil _)))))))))) fun ρ w => ?_
  repeat (first | refine C.seq ?_ | refine C.region ?_ | refine R.zb ttok ?_ | refine R.zu ttok ?_ | refine R.zc ttok ?_ | refine R.za ttok ?_ | refine R.zx ?_ | refine R.zl ttok ?_ | refine R.zs ttok ?_ | refine R.z ttok ?_ | refine R.zk ?_ | refine R.zn ?_ | refine R.done ?_ | refine X.then ?_ | refine C.block ?_ | refine C.ret ?_ | refine C.skip ?_ | refine C.exit ?_ | refine X.pass_ret ?_ | refine X.pass_exit ?_ | refine X.block_normal ?_ | refine X.block_ret ?_ | refine X.block_exit ?_ | refine C.zt ?_ | refine C.zf ?_ | refine X.zo ?_)
  refine R.ldo (v := .ptr 0 0 0 0) ttok rfl rfl rfl rfl rfl (by kernel_rfl) Nat.one_pos ?_
  repeat (first | refine C.seq ?_ | refine C.region ?_ | refine R.zb ttok ?_ | refine R.zu ttok ?_ | refine R.zc ttok ?_ | refine R.za ttok ?_ | refine R.zx ?_ | refine R.zl ttok ?_ | refine R.zs ttok ?_ | refine R.z ttok ?_ | refine R.zk ?_ | refine R.zn ?_ | refine R.done ?_ | refine X.then ?_ | refine C.block ?_ | refine C.ret ?_ | refine C.skip ?_ | refine C.exit ?_ | refine X.pass_ret ?_ | refine X.pass_exit ?_ | refine X.block_normal ?_ | refine X.block_ret ?_ | refine X.block_exit ?_ | refine C.zt ?_ | refine C.zf ?_ | refine X.zo ?_)
  refine C.draw [[], [0], [0, 1], [], [], [0, 1, 2, 3, 4]] [5] (by kernel_rfl) (by kernel_rfl) ?_
  refine R.ldo (v := .ptr 0 0 0 0) ttok rfl rfl rfl rfl rfl (by kernel_rfl) Nat.one_pos ?_
  repeat (first | refine C.seq ?_ | refine C.region ?_ | refine R.zb ttok ?_ | refine R.zu ttok ?_ | refine R.zc ttok ?_ | refine R.za ttok ?_ | refine R.zx ?_ | refine R.zl ttok ?_ | refine R.zs ttok ?_ | refine R.z ttok ?_ | refine R.zk ?_ | refine R.zn ?_ | refine R.done ?_ | refine X.then ?_ | refine C.block ?_ | refine C.ret ?_ | refine C.skip ?_ | refine C.exit ?_ | refine X.pass_ret ?_ | refine X.pass_exit ?_ | refine X.block_normal ?_ | refine X.block_ret ?_ | refine X.block_exit ?_ | refine C.zt ?_ | refine C.zf ?_ | refine X.zo ?_)
  refine R.ldo (v := .raw (.string fr)) ttok rfl rfl rfl rfl rfl (by kernel_rfl) Nat.one_pos ?_
  repeat (first | refine C.seq ?_ | refine C.region ?_ | refine R.zb ttok ?_ | refine R.zu ttok ?_ | refine R.zc ttok ?_ | refine R.za ttok ?_ | refine R.zx ?_ | refine R.zl ttok ?_ | refine R.zs ttok ?_ | refine R.z ttok ?_ | refine R.zk ?_ | refine R.zn ?_ | refine R.done ?_ | refine X.then ?_ | refine C.block ?_ | refine C.ret ?_ | refine C.skip ?_ | refine C.exit ?_ | refine X.pass_ret ?_ | refine X.pass_exit ?_ | refine X.block_normal ?_ | refine X.block_ret ?_ | refine X.block_exit ?_ | refine C.zt ?_ | refine C.zf ?_ | refine X.zo ?_)
  refine R.ldo (v := .raw (.string to)) ttok rfl rfl rfl rfl rfl (by kernel_rfl) Nat.one_pos ?_
  refine R.cl [0] (rangeT_specZ fr to) Try.call49 (by repeat (first | exact HasIn.nil | refine HasIn.same rfl rfl ?_ | refine HasIn.c1 rfl rfl ?_ | refine HasIn.roq rfl rfl ?_ | refine HasIn.other rfl (fun e => by cases e) (fun ρ x w hh => tab_ro hh) ?_ | refine HasIn.other rfl (fun e => by cases e) (fun ρ x w hh => tab_any hh) ?_ | refine HasIn.roAp rfl rfl ?_ | refine HasIn.other rfl (fun e => by cases e) (fun ρ x w hh => cells_any hh) ?_ | refine HasIn.other rfl (fun e => by cases e) (fun ρ x w hh => ro_any hh) ?_)) rfl rfl rfl (fun _ => rfl) rfl (by kernel_rfl) fun _ _ => ?_
  repeat (first | refine C.seq ?_ | refine C.region ?_ | refine R.zb ttok ?_ | refine R.zu ttok ?_ | refine R.zc ttok ?_ | refine R.za ttok ?_ | refine R.zx ?_ | refine R.zl ttok ?_ | refine R.zs ttok ?_ | refine R.z ttok ?_ | refine R.zk ?_ | refine R.zn ?_ | refine R.done ?_ | refine X.then ?_ | refine C.block ?_ | refine C.ret ?_ | refine C.skip ?_ | refine C.exit ?_ | refine X.pass_ret ?_ | refine X.pass_exit ?_ | refine X.block_normal ?_ | refine X.block_ret ?_ | refine X.block_exit ?_ | refine C.zt ?_ | refine C.zf ?_ | refine X.zo ?_)
  refine C.less [(13, 7), (14, 8)] 15 [(0, .fn prF [.ptr 5 0 0 0, .ptr 6 0 0 0]), (1, .ptr 2 0 0 0), (4, .ptr 9 0 0 0), (16, .fn rgZ [.ptr 10 0 0 0, .ptr 11 0 0 0, .ptr 12 0 0 0])] [(0, tbAZ 1 l.length c hs mk), (1, roTZ l), (2, one0 (.ptr 0 0 0 0)), (3, one0 (.raw (.string fr))), (4, one0 (.raw (.string to))), (5, .cells [.sl 13 1 0 (keysZ (([] : ZL))).length (0 : Nat)] kT), (6, .cells [.sl 14 1 0 (lvZ (([] : ZL))).length (0 : Nat)] vT), (13, tX (keysZ (([] : ZL))) (0 : Nat)), (14, tN (lvZ (([] : ZL))) (0 : Nat)), (9, .cells [.fn prF [.ptr 5 0 0 0, .ptr 6 0 0 0]] 52), (10, .cells [.ptr 0 0 0 0] 133), (11, .cells [.raw (.string fr)] 9), (12, .cells [.raw (.string to)] 9)] _ rfl (by repeat (first | exact HasT.nil | refine HasT.cons rfl rfl rfl ?_)) (by repeat (first | exact HasH.nil | refine HasH.same rfl rfl rfl trivial ?_ | refine HasH.same rfl rfl rfl rfl ?_ | refine HasH.same rfl rfl rfl (fun _ _ => rfl) ?_)) rfl (fun _ h => h) ?_
  have h00 : [(0, tbAZ 1 l.length c hs mk), (1, roTZ l), (2, one0 (.ptr 0 0 0 0)), (3, one0 (.raw (.string fr))), (4, one0 (.raw (.string to))), (5, .cells [.sl 13 1 0 (keysZ (([] : ZL))).length (0 : Nat)] kT), (6, .cells [.sl 14 1 0 (lvZ (([] : ZL))).length (0 : Nat)] vT), (13, tX (keysZ (([] : ZL))) (0 : Nat)), (14, tN (lvZ (([] : ZL))) (0 : Nat)), (9, .cells [.fn prF [.ptr 5 0 0 0, .ptr 6 0 0 0]] 52), (10, .cells [.ptr 0 0 0 0] 133), (11, .cells [.raw (.string fr)] 9), (12, .cells [.raw (.string to)] 9)] = [(0, tbAZ 1 l.length c hs mk), (1, roTZ l), (2, one0 (.ptr 0 0 0 0)), (3, one0 (.raw (.string fr))), (4, one0 (.raw (.string to))), (5, .cells [.sl 13 1 0 (keysZ (segF liveZ l (plc l fr) (plc l fr))).length (0 : Nat)] kT), (6, .cells [.sl 14 1 0 (lvZ (segF liveZ l (plc l fr) (plc l fr))).length (0 : Nat)] vT), (13, tX (keysZ (segF liveZ l (plc l fr) (plc l fr))) (0 : Nat)), (14, tN (lvZ (segF liveZ l (plc l fr) (plc l fr))) (0 : Nat)), (9, .cells [.fn prF [.ptr 5 0 0 0, .ptr 6 0 0 0]] 52), (10, .cells [.ptr 0 0 0 0] 133), (11, .cells [.raw (.string fr)] 9), (12, .cells [.raw (.string to)] 9)] := by rw [segF_self]
  rw [h00]
  refine C.range (σ := Nat × Nat × Nat) (α := ByteArray × Nat) (H := fun s => [(0, tbAZ 1 l.length c hs mk), (1, roTZ l), (2, one0 (.ptr 0 0 0 0)), (3, one0 (.raw (.string fr))), (4, one0 (.raw (.string to))), (5, .cells [.sl 13 1 0 (keysZ (segF liveZ l (plc l fr) s.1)).length s.2.1] kT), (6, .cells [.sl 14 1 0 (lvZ (segF liveZ l (plc l fr) s.1)).length s.2.2] vT), (13, tX (keysZ (segF liveZ l (plc l fr) s.1)) s.2.1), (14, tN (lvZ (segF liveZ l (plc l fr) s.1)) s.2.2), (9, .cells [.fn prF [.ptr 5 0 0 0, .ptr 6 0 0 0]] 52), (10, .cells [.ptr 0 0 0 0] 133), (11, .cells [.raw (.string fr)] 9), (12, .cells [.raw (.string to)] 9)]) (HX := fun s => [(0, tbAZ 1 l.length c hs mk), (1, roTZ l), (2, one0 (.ptr 0 0 0 0)), (3, one0 (.raw (.string fr))), (4, one0 (.raw (.string to))), (5, .cells [.sl 13 1 0 (keysZ (segF liveZ l (plc l fr) s.1)).length s.2.1] kT), (6, .cells [.sl 14 1 0 (lvZ (segF liveZ l (plc l fr) s.1)).length s.2.2] vT), (13, tX (keysZ (segF liveZ l (plc l fr) s.1)) s.2.1), (14, tN (lvZ (segF liveZ l (plc l fr) s.1)) s.2.2), (9, .cells [.fn prF [.ptr 5 0 0 0, .ptr 6 0 0 0]] 52), (10, .cells [.ptr 0 0 0 0] 133), (11, .cells [.raw (.string fr)] 9), (12, .cells [.raw (.string to)] 9)]) (fsI := fun _ => zF l) (fsX := fun _ => zF l) (u := fun x => .string x.1) (v := fun x => .pointer (some ⟨x.2, 0, none⟩)) 13 15 (plc l fr, 0, 0) (fun s => (plc l fr ≤ s.1 ∧ s.1 ≤ l.length ∧ (∀ i, plc l fr ≤ i → i < s.1 → past to (l.getD i zG).1 = false)) ∧ ((keysZ (segF liveZ l (plc l fr) s.1)).length ≤ s.2.1 ∧ s.2.1 ≤ 9223372036854775807) ∧ ((lvZ (segF liveZ l (plc l fr) s.1)).length ≤ s.2.2 ∧ s.2.2 ≤ 9223372036854775807)) (fun _ => False) _ _ _ _ _
    rfl Try.call78 ⟨⟨Nat.le_refl _, plc_le _ _, fun i h1 h2 => (by omega)⟩, by rw [segF_self]; exact ⟨Nat.le_refl _, Nat.zero_le _⟩, by rw [segF_self]; exact ⟨Nat.le_refl _, Nat.zero_le _⟩⟩ ?hi0 rfl (fun s _ => zF_cells) (fun s _ => zF_cells) ?hsee (fun ρ1 _ => rng1_itc (fun _ : Nat × Nat × Nat => l) (fun s => lastR l (plc l fr) s.1) (fun s => l.length - s.1) ((ρ1 10).getD 0) ((ρ1 11).getD 0) ((ρ1 12).getD 0) ((ρ1 0).getD 0) fr to) ?hround ?hdone (fun s D _ h => h.elim)
  case hi0 => exact if_pos rfl
  case hsee =>
    intro ρ1 ρ s W fs he hI _ gg
    have h1 := rsee_ro gg (l := l) (lt := 10) (lf := 11) (lo := 12) (ls := 0) (ll := 1) (fr := fr) (to := to) hA (by omega) rfl rfl rfl rfl rfl
    rw [he 10 (by decide), he 11 (by decide), he 12 (by decide), he 0 (by decide)] at h1
    exact h1
  case hround =>
    rintro ρ1 lb D r XF ⟨i, ca, cb⟩ x hpin hr hpe hlb hX ⟨⟨hi0, hi, hnp⟩, hca, hcb⟩ ⟨i', hi', hlt, rfl, hpast⟩
    dsimp only at hi0 hi hnp hca hcb hi' hlt hpast ⊢
    rw [posO_r hA hi0 hi] at hi'
    subst hi'
    have hseg := segF_step (f := liveZ) hi0 hlt
    have hmem := zF_mem hlt
    have hla : lastR l (plc l fr) (i + 1) = some (l.getD i zG).1 := by unfold lastR; rw [if_neg (by omega), show i + 1 - 1 = i by omega]
    have hnp2 : ∀ j, plc l fr ≤ j → j < i + 1 → past to (l.getD j zG).1 = false := fun j h1 h2 => by
      rcases Nat.lt_or_ge j i with h | h
      · exact hnp j h1 h
      · obtain rfl : j = i := by omega
        exact hpast
    have hsl := segF_len liveZ l (plc l fr) i
    obtain ⟨⟨pk, pb, c0, c1, h0, h1, rd, wr⟩, hpp⟩ : ∃ p, l.getD i zG = p := ⟨_, rfl⟩
    rw [hpp] at hseg hmem hla ⊢
    have hfac : ∀ y ∈ dFact D :: (zF l ++ XF), FactC lb y := fun y hy => by
      rcases List.mem_cons.1 hy with rfl | hy
      · exact .inr (.inl rfl)
      · rcases List.mem_append.1 hy with hy | hy
        · exact .inl (zF_cells y hy)
        · exact .inr (.inr (hX y hy).2)
    refine CR.seq ?_
    refine CR.region ?_
    repeat (first | refine R.zb ttok ?_ | refine R.zu ttok ?_ | refine R.zc ttok ?_ | refine R.za ttok ?_ | refine R.zx ?_ | refine R.zl ttok ?_ | refine R.zs ttok ?_ | refine R.z ttok ?_ | refine R.zk ?_ | refine R.zn ?_)
    refine R.done ?_
    refine X.thenR ?_
    refine CR.region ?_
    repeat (first | refine R.zb ttok ?_ | refine R.zu ttok ?_ | refine R.zc ttok ?_ | refine R.za ttok ?_ | refine R.zx ?_ | refine R.zl ttok ?_ | refine R.zs ttok ?_ | refine R.z ttok ?_ | refine R.zk ?_ | refine R.zn ?_)
    refine R.done ?_
    refine X.begin_ hfac hlb hr ?_
    refine CR.block ?_
    refine CR.labZ 6 (pk, pb, ⟨c0, c1, h0, h1, rd, wr⟩) (List.mem_cons_of_mem _ (List.mem_cons_of_mem _ (List.mem_append_left _ hmem))) rfl ?_
    cases rd with
    | false =>
      repeat (first | refine CR.seq ?_ | refine CR.region ?_ | refine R.zb ttok ?_ | refine R.zu ttok ?_ | refine R.zc ttok ?_ | refine R.za ttok ?_ | refine R.zx ?_ | refine R.zl ttok ?_ | refine R.zs ttok ?_ | refine R.z ttok ?_ | refine R.zk ?_ | refine R.zn ?_ | refine R.done ?_ | refine X.thenR ?_ | refine CR.block ?_ | refine CR.skip ?_ | refine CR.ret ?_ | refine CR.tru (by exact rfl) ?_ | refine CR.fls (by exact rfl) ?_ | refine X.pass_ret ?_ | refine X.pass_exit ?_ | refine X.block_normal ?_ | refine X.block_ret ?_ | refine X.block_exit ?_)
      refine R.ldo (v := .raw (.int .i64 (b01 false))) ttok rfl rfl rfl rfl rfl (by kernel_rfl) Nat.one_pos ?_
      repeat (first | refine CR.seq ?_ | refine CR.region ?_ | refine R.zb ttok ?_ | refine R.zu ttok ?_ | refine R.zc ttok ?_ | refine R.za ttok ?_ | refine R.zx ?_ | refine R.zl ttok ?_ | refine R.zs ttok ?_ | refine R.z ttok ?_ | refine R.zk ?_ | refine R.zn ?_ | refine R.done ?_ | refine X.thenR ?_ | refine CR.block ?_ | refine CR.skip ?_ | refine CR.ret ?_ | refine CR.tru (by exact rfl) ?_ | refine CR.fls (by exact rfl) ?_ | refine X.pass_ret ?_ | refine X.pass_exit ?_ | refine X.block_normal ?_ | refine X.block_ret ?_ | refine X.block_exit ?_)
      refine R.cl [15] (read_specZ ⟨c0, c1, h0, h1, false, wr⟩ false) Try.call50 (by repeat (first | exact HasIn.nil | refine HasIn.same rfl rfl ?_ | refine HasIn.bro rfl ?_ | refine HasIn.ror rfl ?_ | refine HasIn.cro rfl rfl ?_)) rfl rfl rfl (fun _ => rfl) rfl (by kernel_rfl) fun _ _ => ?_
      cases h0 with
      | false =>
        have hseg : segF liveZ l (plc l fr) (i + 1) = segF liveZ l (plc l fr) i := hseg
        repeat (first | refine CR.seq ?_ | refine CR.region ?_ | refine R.zb ttok ?_ | refine R.zu ttok ?_ | refine R.zc ttok ?_ | refine R.za ttok ?_ | refine R.zx ?_ | refine R.zl ttok ?_ | refine R.zs ttok ?_ | refine R.z ttok ?_ | refine R.zk ?_ | refine R.zn ?_ | refine R.done ?_ | refine X.thenR ?_ | refine CR.block ?_ | refine CR.skip ?_ | refine CR.ret ?_ | refine CR.tru (by exact rfl) ?_ | refine CR.fls (by exact rfl) ?_ | refine X.pass_ret ?_ | refine X.pass_exit ?_ | refine X.block_normal ?_ | refine X.block_ret ?_ | refine X.block_exit ?_)
        refine X.next [] (i + 1, ca, cb) ⟨⟨by omega, hlt, hnp2⟩, by rw [hseg]; exact hca, by rw [hseg]; exact hcb⟩ ⟨hla, by dsimp only; omega⟩ hr hpe rfl rfl (by
          show HasH _ _ _ [(0, tbAZ 1 l.length c hs mk), (1, roTZ l), (2, one0 (.ptr 0 0 0 0)), (3, one0 (.raw (.string fr))), (4, one0 (.raw (.string to))), (5, .cells [.sl 13 1 0 (keysZ (segF liveZ l (plc l fr) (i + 1))).length ca] kT), (6, .cells [.sl 14 1 0 (lvZ (segF liveZ l (plc l fr) (i + 1))).length cb] vT), (13, tX (keysZ (segF liveZ l (plc l fr) (i + 1))) ca), (14, tN (lvZ (segF liveZ l (plc l fr) (i + 1))) cb), (9, .cells [.fn prF [.ptr 5 0 0 0, .ptr 6 0 0 0]] 52), (10, .cells [.ptr 0 0 0 0] 133), (11, .cells [.raw (.string fr)] 9), (12, .cells [.raw (.string to)] 9)]
          rw [hseg]
          exact (by repeat (first | exact HasH.nil | refine HasH.same rfl rfl rfl trivial ?_ | refine HasH.same rfl rfl rfl rfl ?_ | refine HasH.same rfl rfl rfl (fun _ _ => rfl) ?_))) rfl hlb hfac (fun w' hf => hf.less (fun y hy => by
          rcases List.mem_cons.1 hy with rfl | hy
          · exact List.mem_cons_self
          · exact List.mem_cons_of_mem _ (List.mem_append_left _ hy)) (hf.ap.sublist ((List.sublist_append_left _ _).cons_cons _))) (fun y hy => by
          rcases List.mem_cons.1 hy with rfl | hy
          · exact .inr (.inl rfl)
          · exact .inl (zF_cells y hy)) (fun y hy => List.mem_cons_of_mem _ (List.mem_append_right _ hy))
      | true =>
        have hseg : segF liveZ l (plc l fr) (i + 1) = segF liveZ l (plc l fr) i ++ [_] := hseg
        repeat (first | refine CR.seq ?_ | refine CR.region ?_ | refine R.zb ttok ?_ | refine R.zu ttok ?_ | refine R.zc ttok ?_ | refine R.za ttok ?_ | refine R.zx ?_ | refine R.zl ttok ?_ | refine R.zs ttok ?_ | refine R.z ttok ?_ | refine R.zk ?_ | refine R.zn ?_ | refine R.done ?_ | refine X.thenR ?_ | refine CR.block ?_ | refine CR.skip ?_ | refine CR.ret ?_ | refine CR.tru (by exact rfl) ?_ | refine CR.fls (by exact rfl) ?_ | refine X.pass_ret ?_ | refine X.pass_exit ?_ | refine X.block_normal ?_ | refine X.block_ret ?_ | refine X.block_exit ?_)
        refine R.cl [5, 6, 13, 14] (pr1_spec pk c0 (keysZ (segF liveZ l (plc l fr) i)) (lvZ (segF liveZ l (plc l fr) i)) ca cb (by rw [List.length_map]; omega) (by rw [List.length_map]; omega) hca.2 hca.1 hcb.2 hcb.1) Try.call51 (by repeat (first | exact HasIn.nil | refine HasIn.same rfl rfl ?_ | refine HasIn.bro rfl ?_ | refine HasIn.ror rfl ?_ | refine HasIn.cro rfl rfl ?_)) rfl rfl rfl (fun _ => rfl) rfl (by kernel_rfl) fun s hs => ?_
        have hk1 : keysZ (segF liveZ l (plc l fr) (i + 1)) = keysZ (segF liveZ l (plc l fr) i) ++ [pk] := by rw [hseg]; exact map_snoc _ _ _
        have hk2 : lvZ (segF liveZ l (plc l fr) (i + 1)) = lvZ (segF liveZ l (plc l fr) i) ++ [c0] := by rw [hseg]; exact map_snoc _ _ _
        rw [← hk1, ← hk2] at hs ⊢
        repeat (first | refine CR.seq ?_ | refine CR.region ?_ | refine R.zb ttok ?_ | refine R.zu ttok ?_ | refine R.zc ttok ?_ | refine R.za ttok ?_ | refine R.zx ?_ | refine R.zl ttok ?_ | refine R.zs ttok ?_ | refine R.z ttok ?_ | refine R.zk ?_ | refine R.zn ?_ | refine R.done ?_ | refine X.thenR ?_ | refine CR.block ?_ | refine CR.skip ?_ | refine CR.ret ?_ | refine CR.tru (by exact rfl) ?_ | refine CR.fls (by exact rfl) ?_ | refine X.pass_ret ?_ | refine X.pass_exit ?_ | refine X.block_normal ?_ | refine X.block_ret ?_ | refine X.block_exit ?_)
        refine X.next [(13, 16), (14, 17)] (i + 1, s.1, s.2) ⟨⟨by omega, hlt, hnp2⟩, ⟨hs.1, hs.2.1⟩, hs.2.2⟩ ⟨hla, by dsimp only; omega⟩ hr hpe rfl rfl (by repeat (first | exact HasH.nil | refine HasH.same rfl rfl rfl trivial ?_ | refine HasH.same rfl rfl rfl rfl ?_ | refine HasH.same rfl rfl rfl (fun _ _ => rfl) ?_)) rfl hlb hfac (fun w' hf => hf.less (fun y hy => by
          rcases List.mem_cons.1 hy with rfl | hy
          · exact List.mem_cons_self
          · exact List.mem_cons_of_mem _ (List.mem_append_left _ hy)) (hf.ap.sublist ((List.sublist_append_left _ _).cons_cons _))) (fun y hy => by
          rcases List.mem_cons.1 hy with rfl | hy
          · exact .inr (.inl rfl)
          · exact .inl (zF_cells y hy)) (fun y hy => List.mem_cons_of_mem _ (List.mem_append_right _ hy))
    | true =>
      repeat (first | refine CR.seq ?_ | refine CR.region ?_ | refine R.zb ttok ?_ | refine R.zu ttok ?_ | refine R.zc ttok ?_ | refine R.za ttok ?_ | refine R.zx ?_ | refine R.zl ttok ?_ | refine R.zs ttok ?_ | refine R.z ttok ?_ | refine R.zk ?_ | refine R.zn ?_ | refine R.done ?_ | refine X.thenR ?_ | refine CR.block ?_ | refine CR.skip ?_ | refine CR.ret ?_ | refine CR.tru (by exact rfl) ?_ | refine CR.fls (by exact rfl) ?_ | refine X.pass_ret ?_ | refine X.pass_exit ?_ | refine X.block_normal ?_ | refine X.block_ret ?_ | refine X.block_exit ?_)
      refine R.ldo (v := .raw (.int .i64 (b01 true))) ttok rfl rfl rfl rfl rfl (by kernel_rfl) Nat.one_pos ?_
      repeat (first | refine CR.seq ?_ | refine CR.region ?_ | refine R.zb ttok ?_ | refine R.zu ttok ?_ | refine R.zc ttok ?_ | refine R.za ttok ?_ | refine R.zx ?_ | refine R.zl ttok ?_ | refine R.zs ttok ?_ | refine R.z ttok ?_ | refine R.zk ?_ | refine R.zn ?_ | refine R.done ?_ | refine X.thenR ?_ | refine CR.block ?_ | refine CR.skip ?_ | refine CR.ret ?_ | refine CR.tru (by exact rfl) ?_ | refine CR.fls (by exact rfl) ?_ | refine X.pass_ret ?_ | refine X.pass_exit ?_ | refine X.block_normal ?_ | refine X.block_ret ?_ | refine X.block_exit ?_)
      refine R.cl [15] (read_specZ ⟨c0, c1, h0, h1, true, wr⟩ true) Try.call50 (by repeat (first | exact HasIn.nil | refine HasIn.same rfl rfl ?_ | refine HasIn.bro rfl ?_ | refine HasIn.ror rfl ?_ | refine HasIn.cro rfl rfl ?_)) rfl rfl rfl (fun _ => rfl) rfl (by kernel_rfl) fun _ _ => ?_
      cases h1 with
      | false =>
        have hseg : segF liveZ l (plc l fr) (i + 1) = segF liveZ l (plc l fr) i := hseg
        repeat (first | refine CR.seq ?_ | refine CR.region ?_ | refine R.zb ttok ?_ | refine R.zu ttok ?_ | refine R.zc ttok ?_ | refine R.za ttok ?_ | refine R.zx ?_ | refine R.zl ttok ?_ | refine R.zs ttok ?_ | refine R.z ttok ?_ | refine R.zk ?_ | refine R.zn ?_ | refine R.done ?_ | refine X.thenR ?_ | refine CR.block ?_ | refine CR.skip ?_ | refine CR.ret ?_ | refine CR.tru (by exact rfl) ?_ | refine CR.fls (by exact rfl) ?_ | refine X.pass_ret ?_ | refine X.pass_exit ?_ | refine X.block_normal ?_ | refine X.block_ret ?_ | refine X.block_exit ?_)
        refine X.next [] (i + 1, ca, cb) ⟨⟨by omega, hlt, hnp2⟩, by rw [hseg]; exact hca, by rw [hseg]; exact hcb⟩ ⟨hla, by dsimp only; omega⟩ hr hpe rfl rfl (by
          show HasH _ _ _ [(0, tbAZ 1 l.length c hs mk), (1, roTZ l), (2, one0 (.ptr 0 0 0 0)), (3, one0 (.raw (.string fr))), (4, one0 (.raw (.string to))), (5, .cells [.sl 13 1 0 (keysZ (segF liveZ l (plc l fr) (i + 1))).length ca] kT), (6, .cells [.sl 14 1 0 (lvZ (segF liveZ l (plc l fr) (i + 1))).length cb] vT), (13, tX (keysZ (segF liveZ l (plc l fr) (i + 1))) ca), (14, tN (lvZ (segF liveZ l (plc l fr) (i + 1))) cb), (9, .cells [.fn prF [.ptr 5 0 0 0, .ptr 6 0 0 0]] 52), (10, .cells [.ptr 0 0 0 0] 133), (11, .cells [.raw (.string fr)] 9), (12, .cells [.raw (.string to)] 9)]
          rw [hseg]
          exact (by repeat (first | exact HasH.nil | refine HasH.same rfl rfl rfl trivial ?_ | refine HasH.same rfl rfl rfl rfl ?_ | refine HasH.same rfl rfl rfl (fun _ _ => rfl) ?_))) rfl hlb hfac (fun w' hf => hf.less (fun y hy => by
          rcases List.mem_cons.1 hy with rfl | hy
          · exact List.mem_cons_self
          · exact List.mem_cons_of_mem _ (List.mem_append_left _ hy)) (hf.ap.sublist ((List.sublist_append_left _ _).cons_cons _))) (fun y hy => by
          rcases List.mem_cons.1 hy with rfl | hy
          · exact .inr (.inl rfl)
          · exact .inl (zF_cells y hy)) (fun y hy => List.mem_cons_of_mem _ (List.mem_append_right _ hy))
      | true =>
        have hseg : segF liveZ l (plc l fr) (i + 1) = segF liveZ l (plc l fr) i ++ [_] := hseg
        repeat (first | refine CR.seq ?_ | refine CR.region ?_ | refine R.zb ttok ?_ | refine R.zu ttok ?_ | refine R.zc ttok ?_ | refine R.za ttok ?_ | refine R.zx ?_ | refine R.zl ttok ?_ | refine R.zs ttok ?_ | refine R.z ttok ?_ | refine R.zk ?_ | refine R.zn ?_ | refine R.done ?_ | refine X.thenR ?_ | refine CR.block ?_ | refine CR.skip ?_ | refine CR.ret ?_ | refine CR.tru (by exact rfl) ?_ | refine CR.fls (by exact rfl) ?_ | refine X.pass_ret ?_ | refine X.pass_exit ?_ | refine X.block_normal ?_ | refine X.block_ret ?_ | refine X.block_exit ?_)
        refine R.cl [5, 6, 13, 14] (pr1_spec pk c1 (keysZ (segF liveZ l (plc l fr) i)) (lvZ (segF liveZ l (plc l fr) i)) ca cb (by rw [List.length_map]; omega) (by rw [List.length_map]; omega) hca.2 hca.1 hcb.2 hcb.1) Try.call51 (by repeat (first | exact HasIn.nil | refine HasIn.same rfl rfl ?_ | refine HasIn.bro rfl ?_ | refine HasIn.ror rfl ?_ | refine HasIn.cro rfl rfl ?_)) rfl rfl rfl (fun _ => rfl) rfl (by kernel_rfl) fun s hs => ?_
        have hk1 : keysZ (segF liveZ l (plc l fr) (i + 1)) = keysZ (segF liveZ l (plc l fr) i) ++ [pk] := by rw [hseg]; exact map_snoc _ _ _
        have hk2 : lvZ (segF liveZ l (plc l fr) (i + 1)) = lvZ (segF liveZ l (plc l fr) i) ++ [c1] := by rw [hseg]; exact map_snoc _ _ _
        rw [← hk1, ← hk2] at hs ⊢
        repeat (first | refine CR.seq ?_ | refine CR.region ?_ | refine R.zb ttok ?_ | refine R.zu ttok ?_ | refine R.zc ttok ?_ | refine R.za ttok ?_ | refine R.zx ?_ | refine R.zl ttok ?_ | refine R.zs ttok ?_ | refine R.z ttok ?_ | refine R.zk ?_ | refine R.zn ?_ | refine R.done ?_ | refine X.thenR ?_ | refine CR.block ?_ | refine CR.skip ?_ | refine CR.ret ?_ | refine CR.tru (by exact rfl) ?_ | refine CR.fls (by exact rfl) ?_ | refine X.pass_ret ?_ | refine X.pass_exit ?_ | refine X.block_normal ?_ | refine X.block_ret ?_ | refine X.block_exit ?_)
        refine X.next [(13, 16), (14, 17)] (i + 1, s.1, s.2) ⟨⟨by omega, hlt, hnp2⟩, ⟨hs.1, hs.2.1⟩, hs.2.2⟩ ⟨hla, by dsimp only; omega⟩ hr hpe rfl rfl (by repeat (first | exact HasH.nil | refine HasH.same rfl rfl rfl trivial ?_ | refine HasH.same rfl rfl rfl rfl ?_ | refine HasH.same rfl rfl rfl (fun _ _ => rfl) ?_)) rfl hlb hfac (fun w' hf => hf.less (fun y hy => by
          rcases List.mem_cons.1 hy with rfl | hy
          · exact List.mem_cons_self
          · exact List.mem_cons_of_mem _ (List.mem_append_left _ hy)) (hf.ap.sublist ((List.sublist_append_left _ _).cons_cons _))) (fun y hy => by
          rcases List.mem_cons.1 hy with rfl | hy
          · exact .inr (.inl rfl)
          · exact .inl (zF_cells y hy)) (fun y hy => List.mem_cons_of_mem _ (List.mem_append_right _ hy))
  case hdone =>
    rintro ⟨i, ca, cb⟩ D hD ⟨⟨hi0, hi, hnp⟩, hca, hcb⟩ hFin
    dsimp only at hi0 hi hnp hca hcb hFin ⊢
    rw [posO_r hA hi0 hi] at hFin
    repeat (first | refine C.seq ?_ | refine C.region ?_ | refine R.zb ttok ?_ | refine R.zu ttok ?_ | refine R.zc ttok ?_ | refine R.za ttok ?_ | refine R.zx ?_ | refine R.zl ttok ?_ | refine R.zs ttok ?_ | refine R.z ttok ?_ | refine R.zk ?_ | refine R.zn ?_ | refine R.done ?_ | refine X.then ?_ | refine C.block ?_ | refine C.ret ?_ | refine C.skip ?_ | refine C.exit ?_ | refine X.pass_ret ?_ | refine X.pass_exit ?_ | refine X.block_normal ?_ | refine X.block_ret ?_ | refine X.block_exit ?_ | refine C.zt ?_ | refine C.zf ?_ | refine X.zo ?_)
    refine X.finM ttok (i, ca, cb) [(9, 13), (10, 14)] ⟨⟨hi0, hi, hnp, hFin⟩, hca.1, hca.2, hcb.1, hcb.2⟩ rfl rfl rfl (by repeat (first | exact HasH.nil | refine HasH.same rfl rfl rfl trivial ?_ | refine HasH.same rfl rfl rfl rfl ?_ | refine HasH.same rfl rfl rfl (fun _ _ => rfl) ?_)) _ (by first | exact .inl rfl | exact .inr rfl) hD zF_cells ?_ ?_ ?_
    · exact fun w' hf => hf.ap
    · exact fun y hy => hy
    · exact fun y hy _ => ⟨y, hy, rfl⟩
end
end Go.Proofs.Yteabncomclgncaa
namespace Go.Proofs.Yteabncomclgncaa
set_option linter.unusedVariables false
set_option linter.unusedSimpArgs false
open Go.RowKit
set_option maxRecDepth 100000
set_option maxHeartbeats 4000000
section
variable (l : ZL) (c : Nat) (fr to ab : ByteArray)
abbrev rgOk (j : Nat) : Prop := plc l fr ≤ j ∧ j ≤ l.length ∧ (∀ i, plc l fr ≤ i → i < j → past to (l.getD i zG).1 = false) ∧ (j < l.length → past to (l.getD j zG).1 = true)
theorem prsRg_spec (hs : Int) (mk : Bool) (hA : Asc l) (hl : l.length ≤ 601) :
    SpecF Try.prog 20 [.fn rsZ [.ptr 2 0 0 0, .ptr 3 0 0 0, .ptr 4 0 0 0]] [tbAZ 1 l.length c hs mk, roTZ l, one0 (.ptr 0 0 0 0), one0 (.raw (.string fr)), one0 (.raw (.string to))] 7 (zF l)
    (σ := Nat × Nat × Nat) (fun s => rgOk l fr to s.1 ∧ (keysZ (segF liveZ l (plc l fr) s.1)).length ≤ s.2.1 ∧ s.2.1 ≤ 9223372036854775807 ∧ (lvZ (segF liveZ l (plc l fr) s.1)).length ≤ s.2.2 ∧ s.2.2 ≤ 9223372036854775807)
    (fun s => .tup [.sl 5 1 0 (keysZ (segF liveZ l (plc l fr) s.1)).length s.2.1, .sl 6 1 0 (lvZ (segF liveZ l (plc l fr) s.1)).length s.2.2]) (fun s => [(5, tX (keysZ (segF liveZ l (plc l fr) s.1)) s.2.1), (6, tN (lvZ (segF liveZ l (plc l fr) s.1)) s.2.2)]) (fun _ => zF l) := by
  refine SpecF.of Try.func20 rfl Try.ntmps20 rfl (bdl_cons (roA_bd rfl) (bdl_cons (fun _ _ => rfl) (bdl_cons (roA_bd rfl) (bdl_cons (roA_bd rfl) (bdl_cons (roA_bd rfl) (bdl_nil _)))))) fun ρ w => ?_
  repeat (first | refine C.seq ?_ | refine C.region ?_ | refine R.zb ttok ?_ | refine R.zu ttok ?_ | refine R.zc ttok ?_ | refine R.za ttok ?_ | refine R.zx ?_ | refine R.zl ttok ?_ | refine R.zs ttok ?_ | refine R.z ttok ?_ | refine R.zk ?_ | refine R.zn ?_ | refine R.done ?_ | refine X.then ?_ | refine C.block ?_ | refine C.ret ?_ | refine C.skip ?_ | refine C.exit ?_ | refine X.pass_ret ?_ | refine X.pass_exit ?_ | refine X.block_normal ?_ | refine X.block_ret ?_ | refine X.block_exit ?_ | refine C.zt ?_ | refine C.zf ?_ | refine X.zo ?_)
  refine R.noneH 5 [.sl 7 1 0 ([] : List ByteArray).length 0] (tX [] 0) (none_tab _ _ _ _) rfl rfl rfl (fun ρ h => by have h : ρ 7 = none := h; show [(AV.sl 7 1 0 0 0).conc ρ] = [Value.slice none 0 0]; simp [AV.conc, h]) ?_
  refine R.noneH 6 [.sl 8 1 0 ([] : List Int).length 0] (tN [] 0) (none_tab _ _ _ _) rfl rfl rfl (fun ρ h => by have h : ρ 8 = none := h; show [(AV.sl 8 1 0 0 0).conc ρ] = [Value.slice none 0 0]; simp [AV.conc, h]) ?_
  refine R.clF [0, 1, 2, 3, 4, 5, 6, 7, 8] (rgPr_spec l c fr to hs mk hA hl) (Nat.le_refl _) (fun _ _ => rfl) Try.call48 (by repeat (first | exact HasIn.nil | refine HasIn.same rfl rfl ?_ | refine HasIn.c1 rfl rfl ?_ | refine HasIn.roq rfl rfl ?_ | refine HasIn.other rfl (fun e => by cases e) (fun ρ x w hh => tab_ro hh) ?_ | refine HasIn.other rfl (fun e => by cases e) (fun ρ x w hh => tab_any hh) ?_ | refine HasIn.roAp rfl rfl ?_ | refine HasIn.other rfl (fun e => by cases e) (fun ρ x w hh => cells_any hh) ?_ | refine HasIn.other rfl (fun e => by cases e) (fun ρ x w hh => ro_any hh) ?_)) rfl rfl rfl (fun _ => rfl) rfl (by kernel_rfl) fun s hs1 => ?_
  repeat (first | refine C.seq ?_ | refine C.region ?_ | refine R.zb ttok ?_ | refine R.zu ttok ?_ | refine R.zc ttok ?_ | refine R.za ttok ?_ | refine R.zx ?_ | refine R.zl ttok ?_ | refine R.zs ttok ?_ | refine R.z ttok ?_ | refine R.zk ?_ | refine R.zn ?_ | refine R.done ?_ | refine X.then ?_ | refine C.block ?_ | refine C.ret ?_ | refine C.skip ?_ | refine C.exit ?_ | refine X.pass_ret ?_ | refine X.pass_exit ?_ | refine X.block_normal ?_ | refine X.block_ret ?_ | refine X.block_exit ?_ | refine C.zt ?_ | refine C.zf ?_ | refine X.zo ?_)
  refine C.draw [[], [], [0], [0, 1, 2]] [] (by kernel_rfl) (by kernel_rfl) ?_
  repeat (first | refine C.seq ?_ | refine C.region ?_ | refine R.zb ttok ?_ | refine R.zu ttok ?_ | refine R.zc ttok ?_ | refine R.za ttok ?_ | refine R.zx ?_ | refine R.zl ttok ?_ | refine R.zs ttok ?_ | refine R.z ttok ?_ | refine R.zk ?_ | refine R.zn ?_ | refine R.done ?_ | refine X.then ?_ | refine C.block ?_ | refine C.ret ?_ | refine C.skip ?_ | refine C.exit ?_ | refine X.pass_ret ?_ | refine X.pass_exit ?_ | refine X.block_normal ?_ | refine X.block_ret ?_ | refine X.block_exit ?_ | refine C.zt ?_ | refine C.zf ?_ | refine X.zo ?_)
  refine X.finF ttok s [(5, 9), (6, 10)] hs1 rfl rfl rfl (by repeat (first | exact HasH.nil | refine HasH.same rfl rfl rfl trivial ?_ | refine HasH.same rfl rfl rfl rfl ?_ | refine HasH.same rfl rfl rfl (fun _ _ => rfl) ?_ | refine HasH.ros rfl rfl ?_)) _ (by first | exact .inl rfl | exact .inr rfl) ?_ ?_ ?_
  · exact fun w' hf => hf.ap
  · exact fun p hp => hp
  · exact fun p hp e => ⟨p, hp, rfl⟩
end
structure StZ where
  kind : Int
  v : Int
  n : Int
  key : ByteArray
  to : ByteArray
  other : ByteArray
abbrev stZ (x : StZ) : List AV := [.raw (.int .i64 x.kind), .raw (.int .i64 x.v), .raw (.int .i64 x.n), .raw (.string x.key), .raw (.string x.to), .raw (.string x.other)]
def wrZ (x : StZ) (l : ZL) (mk : Bool) (b : Nat) : ZL := if x.kind = 2 then zdel l x.key mk else if x.kind = 1 then zput l x.key x.v b else l
def wrN (x : StZ) (l : ZL) (hs : Int) : Int := if x.kind = 2 then zdelN l x.key hs else if x.kind = 1 then zputN l x.key hs else hs
theorem zdel_le (l : ZL) (k : ByteArray) (mk : Bool) : (zdel l k mk).length ≤ l.length := by
  unfold zdel
  split
  · rename_i h
    cases mk with
    | true => rw [if_pos rfl, zup_len]; exact Nat.le_refl _
    | false => rw [if_neg (by decide)]; exact (del_sub l _).length_le
  · exact Nat.le_refl _
theorem cov_up {l : ZL} {i : Nat} (h : i < l.length) (s : Sl Int) : Cov (zF l) (zF (zup l i s)) := fun p hp hr => by
  rcases List.mem_cons.1 ((zF_del h).subset hp) with rfl | hp
  · exact ⟨⟨true, (l.getD i zG).2.1, slOb s⟩, (zF_up h s).symm.subset List.mem_cons_self, rfl⟩
  · exact ⟨p, (zF_up h s).symm.subset (List.mem_cons_of_mem _ hp), rfl⟩
theorem cov_put (l : ZL) (k : ByteArray) (v : Int) (b : Nat) : Cov (zF l) (zF (zput l k v b)) := by
  unfold zput
  split
  · rename_i h
    exact cov_up (hasK_lt h).1 _
  · exact (Cov.refl _).right fun p hp => (zF_ins l _ _).symm.subset (List.mem_cons_of_mem _ hp)
section
variable (x : StZ) (l : ZL) (c : Nat)
theorem write_spec (hs : Int) (mk : Bool) (hA : Asc l) (hl : l.length ≤ 900000) (hc : l.length ≤ c) (hc2 : c ≤ 9223372036854775807) (h1 : -1000000 ≤ hs) (h2 : hs ≤ 1000000000) :
    SpecF Try.prog 18 [.ptr 0 0 0 0, .agg (stZ x)] [tbIZ 1 l.length c hs mk, tIZ l c] 3 (zF l) (σ := Nat × Nat × Fam) (fun s => (wrZ x l mk s.2.1).length ≤ s.1 ∧ s.1 ≤ 9223372036854775807 ∧ Cov (zF l) (zF (wrZ x l mk s.2.1) ++ s.2.2))
    (fun _ => .tup []) (fun s => [(0, tbIZ 2 (wrZ x l mk s.2.1).length s.1 (wrN x l hs) mk), (2, tIZ (wrZ x l mk s.2.1) s.1)]) (fun s => zF (wrZ x l mk s.2.1) ++ s.2.2) := by
  refine SpecF.of Try.func18 rfl Try.ntmps18 rfl (bdl_cons rfl (bdl_cons (fun _ _ => rfl) (bdl_nil _))) fun ρ w => ?_
  repeat (first | refine C.seq ?_ | refine C.region ?_ | refine R.zb ttok ?_ | refine R.zu ttok ?_ | refine R.zc ttok ?_ | refine R.za ttok ?_ | refine R.zx ?_ | refine R.zl ttok ?_ | refine R.zs ttok ?_ | refine R.z ttok ?_ | refine R.zk ?_ | refine R.zn ?_ | refine R.done ?_ | refine X.then ?_ | refine C.block ?_ | refine C.ret ?_ | refine C.skip ?_ | refine C.exit ?_ | refine X.pass_ret ?_ | refine X.pass_exit ?_ | refine X.block_normal ?_ | refine X.block_ret ?_ | refine X.block_exit ?_ | refine C.zt ?_ | refine C.zf ?_ | refine X.zo ?_)
  by_cases hk2 : x.kind = 2
  · rw [decide_eq_true hk2]
    rw [show wrN x l hs = zdelN l x.key hs from if_pos hk2]
    have hw : ∀ b, wrZ x l mk b = zdel l x.key mk := fun b => if_pos hk2
    repeat (first | refine C.seq ?_ | refine C.region ?_ | refine R.zb ttok ?_ | refine R.zu ttok ?_ | refine R.zc ttok ?_ | refine R.za ttok ?_ | refine R.zx ?_ | refine R.zl ttok ?_ | refine R.zs ttok ?_ | refine R.z ttok ?_ | refine R.zk ?_ | refine R.zn ?_ | refine R.done ?_ | refine X.then ?_ | refine C.block ?_ | refine C.ret ?_ | refine C.skip ?_ | refine C.exit ?_ | refine X.pass_ret ?_ | refine X.pass_exit ?_ | refine X.block_normal ?_ | refine X.block_ret ?_ | refine X.block_exit ?_ | refine C.zt ?_ | refine C.zf ?_ | refine X.zo ?_)
    refine R.clF [0, 1] (del_specZ l c x.key hs mk hA hl hc hc2 h1 h2) (Nat.le_refl _) (fun _ _ => rfl) Try.call30 (by repeat (first | exact HasIn.nil | refine HasIn.same rfl rfl ?_ | refine HasIn.c1 rfl rfl ?_ | refine HasIn.roq rfl rfl ?_ | refine HasIn.other rfl (fun e => by cases e) (fun ρ x w hh => tab_ro hh) ?_ | refine HasIn.other rfl (fun e => by cases e) (fun ρ x w hh => tab_any hh) ?_ | refine HasIn.roAp rfl rfl ?_ | refine HasIn.other rfl (fun e => by cases e) (fun ρ x w hh => cells_any hh) ?_ | refine HasIn.other rfl (fun e => by cases e) (fun ρ x w hh => ro_any hh) ?_)) rfl rfl rfl (fun _ => rfl) rfl (by kernel_rfl) fun G hG => ?_
    repeat (first | refine C.seq ?_ | refine C.region ?_ | refine R.zb ttok ?_ | refine R.zu ttok ?_ | refine R.zc ttok ?_ | refine R.za ttok ?_ | refine R.zx ?_ | refine R.zl ttok ?_ | refine R.zs ttok ?_ | refine R.z ttok ?_ | refine R.zk ?_ | refine R.zn ?_ | refine R.done ?_ | refine X.then ?_ | refine C.block ?_ | refine C.ret ?_ | refine C.skip ?_ | refine C.exit ?_ | refine X.pass_ret ?_ | refine X.pass_exit ?_ | refine X.block_normal ?_ | refine X.block_ret ?_ | refine X.block_exit ?_ | refine C.zt ?_ | refine C.zf ?_ | refine X.zo ?_)
    rw [decide_eq_false (show ¬ x.kind = 1 by omega)]
    repeat (first | refine C.seq ?_ | refine C.region ?_ | refine R.zb ttok ?_ | refine R.zu ttok ?_ | refine R.zc ttok ?_ | refine R.za ttok ?_ | refine R.zx ?_ | refine R.zl ttok ?_ | refine R.zs ttok ?_ | refine R.z ttok ?_ | refine R.zk ?_ | refine R.zn ?_ | refine R.done ?_ | refine X.then ?_ | refine C.block ?_ | refine C.ret ?_ | refine C.skip ?_ | refine C.exit ?_ | refine X.pass_ret ?_ | refine X.pass_exit ?_ | refine X.block_normal ?_ | refine X.block_ret ?_ | refine X.block_exit ?_ | refine C.zt ?_ | refine C.zf ?_ | refine X.zo ?_)
    refine X.finF ttok (c, 0, G) [(2, 1)] ⟨by rw [hw]; exact Nat.le_trans (zdel_le l x.key mk) hc, hc2, by rw [hw]; exact hG.1⟩ rfl rfl rfl (by
      show HasH _ _ _ [(0, tbIZ 2 (wrZ x l mk 0).length c (zdelN l x.key hs) mk), (2, tIZ (wrZ x l mk 0) c)]
      rw [hw]
      exact (by repeat (first | exact HasH.nil | refine HasH.same rfl rfl rfl trivial ?_ | refine HasH.same rfl rfl rfl rfl ?_ | refine HasH.same rfl rfl rfl (fun _ _ => rfl) ?_))) _ (by first | exact .inl rfl | exact .inr rfl) ?_ ?_ ?_
    · rw [hw]; exact fun w' hf => hf.ap
    · rw [hw]; exact fun p hp => hp
    · exact hG.1
  rw [decide_eq_false hk2]
  repeat (first | refine C.seq ?_ | refine C.region ?_ | refine R.zb ttok ?_ | refine R.zu ttok ?_ | refine R.zc ttok ?_ | refine R.za ttok ?_ | refine R.zx ?_ | refine R.zl ttok ?_ | refine R.zs ttok ?_ | refine R.z ttok ?_ | refine R.zk ?_ | refine R.zn ?_ | refine R.done ?_ | refine X.then ?_ | refine C.block ?_ | refine C.ret ?_ | refine C.skip ?_ | refine C.exit ?_ | refine X.pass_ret ?_ | refine X.pass_exit ?_ | refine X.block_normal ?_ | refine X.block_ret ?_ | refine X.block_exit ?_ | refine C.zt ?_ | refine C.zf ?_ | refine X.zo ?_)
  by_cases hk1 : x.kind = 1
  · rw [decide_eq_true hk1]
    repeat (first | refine C.seq ?_ | refine C.region ?_ | refine R.zb ttok ?_ | refine R.zu ttok ?_ | refine R.zc ttok ?_ | refine R.za ttok ?_ | refine R.zx ?_ | refine R.zl ttok ?_ | refine R.zs ttok ?_ | refine R.z ttok ?_ | refine R.zk ?_ | refine R.zn ?_ | refine R.done ?_ | refine X.then ?_ | refine C.block ?_ | refine C.ret ?_ | refine C.skip ?_ | refine C.exit ?_ | refine X.pass_ret ?_ | refine X.pass_exit ?_ | refine X.block_normal ?_ | refine X.block_ret ?_ | refine X.block_exit ?_ | refine C.zt ?_ | refine C.zf ?_ | refine X.zo ?_)
    refine R.clF [0, 1] (put_specZ l c x.key x.v hs mk hA hl hc hc2 h1 h2) (Nat.le_refl _) (fun _ _ => rfl) Try.call36 (by repeat (first | exact HasIn.nil | refine HasIn.same rfl rfl ?_ | refine HasIn.c1 rfl rfl ?_ | refine HasIn.roq rfl rfl ?_ | refine HasIn.other rfl (fun e => by cases e) (fun ρ x w hh => tab_ro hh) ?_ | refine HasIn.other rfl (fun e => by cases e) (fun ρ x w hh => tab_any hh) ?_ | refine HasIn.roAp rfl rfl ?_ | refine HasIn.other rfl (fun e => by cases e) (fun ρ x w hh => cells_any hh) ?_ | refine HasIn.other rfl (fun e => by cases e) (fun ρ x w hh => ro_any hh) ?_)) rfl rfl rfl (fun _ => rfl) rfl (by kernel_rfl) fun s hs1 => ?_
    have hw : ∀ b, wrZ x l mk b = zput l x.key x.v b := fun b => (if_neg hk2).trans (if_pos hk1)
    have hcv := cov_put l x.key x.v s.2
    rw [show wrN x l hs = zputN l x.key hs from (if_neg hk2).trans (if_pos hk1)]
    repeat (first | refine C.seq ?_ | refine C.region ?_ | refine R.zb ttok ?_ | refine R.zu ttok ?_ | refine R.zc ttok ?_ | refine R.za ttok ?_ | refine R.zx ?_ | refine R.zl ttok ?_ | refine R.zs ttok ?_ | refine R.z ttok ?_ | refine R.zk ?_ | refine R.zn ?_ | refine R.done ?_ | refine X.then ?_ | refine C.block ?_ | refine C.ret ?_ | refine C.skip ?_ | refine C.exit ?_ | refine X.pass_ret ?_ | refine X.pass_exit ?_ | refine X.block_normal ?_ | refine X.block_ret ?_ | refine X.block_exit ?_ | refine C.zt ?_ | refine C.zf ?_ | refine X.zo ?_)
    refine X.finF ttok (s.1, s.2, []) [(2, 3)] ⟨by rw [hw]; exact hs1.1, hs1.2, by rw [hw, List.append_nil]; exact hcv⟩ rfl rfl rfl (by
      show HasH _ _ _ [(0, tbIZ 2 (wrZ x l mk s.2).length s.1 (zputN l x.key hs) mk), (2, tIZ (wrZ x l mk s.2) s.1)]
      rw [hw]
      exact (by repeat (first | exact HasH.nil | refine HasH.same rfl rfl rfl trivial ?_ | refine HasH.same rfl rfl rfl rfl ?_ | refine HasH.same rfl rfl rfl (fun _ _ => rfl) ?_))) _ (by first | exact .inl rfl | exact .inr rfl) ?_ ?_ ?_
    · rw [hw, List.append_nil]; exact fun w' hf => hf.ap
    · rw [hw, List.append_nil]; exact fun p hp => hp
    · exact hcv
  · rw [decide_eq_false hk1]
    have hw : ∀ b, wrZ x l mk b = l := fun b => (if_neg hk2).trans (if_neg hk1)
    rw [show wrN x l hs = hs from (if_neg hk2).trans (if_neg hk1)]
    repeat (first | refine C.seq ?_ | refine C.region ?_ | refine R.zb ttok ?_ | refine R.zu ttok ?_ | refine R.zc ttok ?_ | refine R.za ttok ?_ | refine R.zx ?_ | refine R.zl ttok ?_ | refine R.zs ttok ?_ | refine R.z ttok ?_ | refine R.zk ?_ | refine R.zn ?_ | refine R.done ?_ | refine X.then ?_ | refine C.block ?_ | refine C.ret ?_ | refine C.skip ?_ | refine C.exit ?_ | refine X.pass_ret ?_ | refine X.pass_exit ?_ | refine X.block_normal ?_ | refine X.block_ret ?_ | refine X.block_exit ?_ | refine C.zt ?_ | refine C.zf ?_ | refine X.zo ?_)
    refine X.finF ttok (c, 0, []) [(2, 1)] ⟨by rw [hw]; exact hc, hc2, by rw [hw, List.append_nil]; exact Cov.refl _⟩ rfl rfl rfl (by
      show HasH _ _ _ [(0, tbIZ 2 (wrZ x l mk 0).length c hs mk), (2, tIZ (wrZ x l mk 0) c)]
      rw [hw]
      exact (by repeat (first | exact HasH.nil | refine HasH.same rfl rfl rfl trivial ?_ | refine HasH.same rfl rfl rfl rfl ?_ | refine HasH.same rfl rfl rfl (fun _ _ => rfl) ?_))) _ (by first | exact .inl rfl | exact .inr rfl) ?_ ?_ ?_
    · rw [hw, List.append_nil]; exact fun w' hf => hf.ap
    · rw [hw, List.append_nil]; exact fun p hp => hp
    · exact Cov.refl _
end
end Go.Proofs.Yteabncomclgncaa
namespace Go.Proofs.Yteabncomclgncaa
set_option linter.unusedVariables false
set_option linter.unusedSimpArgs false
open Go.RowKit
set_option maxRecDepth 100000
set_option maxHeartbeats 4000000
def StZ.no : StZ := ⟨0, 0, 0, ⟨#[]⟩, ⟨#[]⟩, ⟨#[]⟩⟩
def szF (l : List StZ) (i : Nat) : List AV := stZ (l.getD i StZ.no)
abbrev roZ (off : Nat) (l : List StZ) : AO := .ro 1 off (l.length * 6) (rowsF 6 (szF l))
theorem rowsZ_bd (L k : Nat) (l : List StZ) (m : Nat) : ∀ i, i < m → AV.bds L (rowsF k (szF l) i) = true := fun i _ => by
  unfold rowsF szF
  split
  · rename_i v hv
    have : v ∈ stZ (l.getD (i / k) StZ.no) := List.mem_of_getElem? hv
    simp only [stZ, List.mem_cons, List.not_mem_nil, or_false] at this
    rcases this with rfl | rfl | rfl | rfl | rfl | rfl <;> rfl
  · rfl
theorem rowsZ_ren (r : Nat → Nat) (k : Nat) (l : List StZ) : (fun i => AV.rens r (rowsF k (szF l) i)) = rowsF k (szF l) := by
  funext i
  unfold rowsF szF
  split
  · rename_i v hv
    have : v ∈ stZ (l.getD (i / k) StZ.no) := List.mem_of_getElem? hv
    simp only [stZ, List.mem_cons, List.not_mem_nil, or_false] at this
    rcases this with rfl | rfl | rfl | rfl | rfl | rfl <;> rfl
  · rfl
theorem HasH.roz {r : Nat → Nat} {L : Nat} {h rest : List (Nat × AO)} {l off : Nat} {s : List StZ} (h1 : hk (r l) h = some (roZ off s)) (h3 : Nat.ble (l + 1) L = true) (k : HasH r L h rest) : HasH r L h ((l, roZ off s) :: rest) :=
  .other h1 id (fun ρ x w hh => by simp only [AO.ren, rowsZ_ren]; exact hh) h3 (rowsZ_bd _ _ _ _) k
theorem HasIn.roz {r : Nat → Nat} {h : List (Nat × AO)} {i off : Nat} {s : List StZ} {os : List AO} (h1 : hk (r i) h = some (roZ off s)) (k : HasIn r h (i + 1) os) : HasIn r h i (roZ off s :: os) :=
  .other h1 id (fun ρ x w hh => by simp only [AO.ren, rowsZ_ren]; exact hh) k
abbrev roK (l : List ByteArray) : AO := .ro 1 0 l.length (txF l)
abbrev roV (l : List Int) : AO := .ro 1 0 l.length (inF l)
theorem getD_drop {α : Type} (l : List α) (o i : Nat) (d : α) : (l.drop o).getD i d = l.getD (o + i) d := by
  simp [List.getD_eq_getElem?_getD]
theorem eq_dec (a b : ByteArray) (h : a = b) : decide (a.toList ≠ b.toList) = false := decide_eq_false (fun e => e (by rw [h]))
theorem same_spec (ka kb : List ByteArray) (va vb : List Int) (oa ob ox oy na nx ca cb cx cy : Nat) (hA : oa + na = ka.length) (hB : ob + na = kb.length) (hX : ox + na = va.length) (hY : oy + na = vb.length) (hl : na ≤ 1000000) (h1 : ka.drop oa = kb.drop ob) (h2 : va.drop ox = vb.drop oy) :
    Spec Try.prog 23 [.sl 0 1 oa na ca, .sl 1 1 ox na cx, .sl 2 1 ob na cb, .sl 3 1 oy na cy] [roK ka, roV va, roK kb, roV vb] 4 (σ := Unit) (fun _ => True) (fun _ => .raw (.bool true)) (fun _ => []) := by
  refine Spec.of Try.func23 rfl Try.ntmps23 rfl (bdl_cons (fun _ _ => rfl) (bdl_cons (fun _ _ => rfl) (bdl_cons (fun _ _ => rfl) (bdl_cons (fun _ _ => rfl) (bdl_nil _))))) fun ρ w => ?_
  repeat (first | refine C.seq ?_ | refine C.region ?_ | refine R.zb ttok ?_ | refine R.zu ttok ?_ | refine R.zc ttok ?_ | refine R.za ttok ?_ | refine R.zx ?_ | refine R.zl ttok ?_ | refine R.zs ttok ?_ | refine R.z ttok ?_ | refine R.zk ?_ | refine R.zn ?_ | refine R.done ?_ | refine X.then ?_ | refine C.block ?_ | refine C.ret ?_ | refine C.skip ?_ | refine C.exit ?_ | refine X.pass_ret ?_ | refine X.pass_exit ?_ | refine X.block_normal ?_ | refine X.block_ret ?_ | refine X.block_exit ?_ | refine C.zt ?_ | refine C.zf ?_ | refine X.zo ?_)
  rw [decide_eq_false (show ¬ ((na : Nat) : Int) ≠ ((na : Nat) : Int) from fun h => h rfl)]
  repeat (first | refine C.seq ?_ | refine C.region ?_ | refine R.zb ttok ?_ | refine R.zu ttok ?_ | refine R.zc ttok ?_ | refine R.za ttok ?_ | refine R.zx ?_ | refine R.zl ttok ?_ | refine R.zs ttok ?_ | refine R.z ttok ?_ | refine R.zk ?_ | refine R.zn ?_ | refine R.done ?_ | refine X.then ?_ | refine C.block ?_ | refine C.ret ?_ | refine C.skip ?_ | refine C.exit ?_ | refine X.pass_ret ?_ | refine X.pass_exit ?_ | refine X.block_normal ?_ | refine X.block_ret ?_ | refine X.block_exit ?_ | refine C.zt ?_ | refine C.zf ?_ | refine X.zo ?_)
  rw [decide_eq_false (show ¬ ((na : Nat) : Int) ≠ ((na : Nat) : Int) from fun h => h rfl)]
  repeat (first | refine C.seq ?_ | refine C.region ?_ | refine R.zb ttok ?_ | refine R.zu ttok ?_ | refine R.zc ttok ?_ | refine R.za ttok ?_ | refine R.zx ?_ | refine R.zl ttok ?_ | refine R.zs ttok ?_ | refine R.z ttok ?_ | refine R.zk ?_ | refine R.zn ?_ | refine R.done ?_ | refine X.then ?_ | refine C.block ?_ | refine C.ret ?_ | refine C.skip ?_ | refine C.exit ?_ | refine X.pass_ret ?_ | refine X.pass_exit ?_ | refine X.block_normal ?_ | refine X.block_ret ?_ | refine X.block_exit ?_ | refine C.zt ?_ | refine C.zf ?_ | refine X.zo ?_)
  refine C.loop (σ := Nat) (L2 := 4) (fun i => i ≤ na) (fun i => [(0, .sl 0 1 oa na ca), (1, .sl 1 1 ox na cx), (2, .sl 2 1 ob na cb), (3, .sl 3 1 oy na cy), (8, .raw (.bool false)), (9, .raw (.int .i64 (i : Nat)))]) (fun _ => [(0, roK ka), (1, roV va), (2, roK kb), (3, roV vb)]) _ (fun i => na - i) [] 0 (Nat.zero_le _) rfl (by repeat (first | exact HasT.nil | refine HasT.cons rfl rfl rfl ?_)) (by repeat (first | exact HasH.nil | refine HasH.same rfl rfl rfl trivial ?_ | refine HasH.same rfl rfl rfl rfl ?_ | refine HasH.same rfl rfl rfl (fun _ _ => rfl) ?_)) rfl (fun _ h => h) ?_
  rintro i hi
  repeat (first | refine C.seq ?_ | refine C.region ?_ | refine R.zb ttok ?_ | refine R.zu ttok ?_ | refine R.zc ttok ?_ | refine R.za ttok ?_ | refine R.zx ?_ | refine R.zl ttok ?_ | refine R.zs ttok ?_ | refine R.z ttok ?_ | refine R.zk ?_ | refine R.zn ?_ | refine R.done ?_ | refine X.then ?_ | refine C.block ?_ | refine C.ret ?_ | refine C.skip ?_ | refine C.exit ?_ | refine X.pass_ret ?_ | refine X.pass_exit ?_ | refine X.block_normal ?_ | refine X.block_ret ?_ | refine X.block_exit ?_ | refine C.zt ?_ | refine C.zf ?_ | refine X.zo ?_)
  by_cases hlt : (i : Int) < (na : Nat)
  · rw [decide_eq_true hlt]
    have hlt : i < na := by omega
    have e1 : ka.getD (oa + i) noT = kb.getD (ob + i) noT := by rw [← getD_drop, ← getD_drop, h1]
    have e2 : va.getD (ox + i) 0 = vb.getD (oy + i) 0 := by rw [← getD_drop, ← getD_drop, h2]
    repeat (first | refine C.seq ?_ | refine C.region ?_ | refine R.zb ttok ?_ | refine R.zu ttok ?_ | refine R.zc ttok ?_ | refine R.za ttok ?_ | refine R.zx ?_ | refine R.zl ttok ?_ | refine R.zs ttok ?_ | refine R.z ttok ?_ | refine R.zk ?_ | refine R.zn ?_ | refine R.done ?_ | refine X.then ?_ | refine C.block ?_ | refine C.ret ?_ | refine C.skip ?_ | refine C.exit ?_ | refine X.pass_ret ?_ | refine X.pass_exit ?_ | refine X.block_normal ?_ | refine X.block_ret ?_ | refine X.block_exit ?_ | refine C.zt ?_ | refine C.zf ?_ | refine X.zo ?_)
    refine C.draw [[], [], [0, 1], [0, 1, 2], [], [], [4, 5], [4, 5, 6], [0, 1, 2, 3, 4, 5, 6, 7], [0, 1, 2, 3, 4, 5, 6, 7, 8], [0, 1, 2, 3, 4, 5, 6, 7, 8, 9], [0, 1, 2, 3, 4, 5, 6, 7, 8, 9], [0, 1, 2, 3, 4, 5, 6, 7, 8, 9, 10, 11], [0, 1, 2, 3, 4, 5, 6, 7, 8, 9, 10, 11, 12], [0, 1, 2, 3, 4, 5, 6, 7, 8, 9], [0, 1, 2, 3, 4, 5, 6, 7, 8, 9], [0, 1, 2, 3, 4, 5, 6, 7, 8, 9, 14, 15], [0, 1, 2, 3, 4, 5, 6, 7, 8, 9, 14, 15, 16], [0, 1, 2, 3, 4, 5, 6, 7, 8, 9, 10, 11, 12, 13, 14, 15, 16, 17], [0, 1, 2, 3, 4, 5, 6, 7, 8, 9, 10, 11, 12, 13, 14, 15, 16, 17, 18]] [] (by kernel_rfl) (by kernel_rfl) ?_
    repeat (first | refine C.seq ?_ | refine C.region ?_ | refine R.zb ttok ?_ | refine R.zu ttok ?_ | refine R.zc ttok ?_ | refine R.za ttok ?_ | refine R.zx ?_ | refine R.zl ttok ?_ | refine R.zs ttok ?_ | refine R.z ttok ?_ | refine R.zk ?_ | refine R.zn ?_ | refine R.done ?_ | refine X.then ?_ | refine C.block ?_ | refine C.ret ?_ | refine C.skip ?_ | refine C.exit ?_ | refine X.pass_ret ?_ | refine X.pass_exit ?_ | refine X.block_normal ?_ | refine X.block_ret ?_ | refine X.block_exit ?_ | refine C.zt ?_ | refine C.zf ?_ | refine X.zo ?_)
    refine R.ix ttok i rfl rfl rfl rfl rfl (by kernel_rfl) rfl hlt (by show _ ≤ _ ∧ _ < _; omega) rfl ?_
    refine R.ldoj (v := .raw (.string (ka.getD (oa + i) noT))) ttok (oa + i) rfl rfl rfl rfl rfl (by kernel_rfl) (by omega) (by omega) ?_
    repeat (first | refine C.seq ?_ | refine C.region ?_ | refine R.zb ttok ?_ | refine R.zu ttok ?_ | refine R.zc ttok ?_ | refine R.za ttok ?_ | refine R.zx ?_ | refine R.zl ttok ?_ | refine R.zs ttok ?_ | refine R.z ttok ?_ | refine R.zk ?_ | refine R.zn ?_ | refine R.done ?_ | refine X.then ?_ | refine C.block ?_ | refine C.ret ?_ | refine C.skip ?_ | refine C.exit ?_ | refine X.pass_ret ?_ | refine X.pass_exit ?_ | refine X.block_normal ?_ | refine X.block_ret ?_ | refine X.block_exit ?_ | refine C.zt ?_ | refine C.zf ?_ | refine X.zo ?_)
    refine R.ix ttok i rfl rfl rfl rfl rfl (by kernel_rfl) rfl hlt (by show _ ≤ _ ∧ _ < _; omega) rfl ?_
    refine R.ldoj (v := .raw (.string (kb.getD (ob + i) noT))) ttok (ob + i) rfl rfl rfl rfl rfl (by kernel_rfl) (by omega) (by omega) ?_
    repeat (first | refine C.seq ?_ | refine C.region ?_ | refine R.zb ttok ?_ | refine R.zu ttok ?_ | refine R.zc ttok ?_ | refine R.za ttok ?_ | refine R.zx ?_ | refine R.zl ttok ?_ | refine R.zs ttok ?_ | refine R.z ttok ?_ | refine R.zk ?_ | refine R.zn ?_ | refine R.done ?_ | refine X.then ?_ | refine C.block ?_ | refine C.ret ?_ | refine C.skip ?_ | refine C.exit ?_ | refine X.pass_ret ?_ | refine X.pass_exit ?_ | refine X.block_normal ?_ | refine X.block_ret ?_ | refine X.block_exit ?_ | refine C.zt ?_ | refine C.zf ?_ | refine X.zo ?_)
    rw [eq_dec _ _ e1]
    repeat (first | refine C.seq ?_ | refine C.region ?_ | refine R.zb ttok ?_ | refine R.zu ttok ?_ | refine R.zc ttok ?_ | refine R.za ttok ?_ | refine R.zx ?_ | refine R.zl ttok ?_ | refine R.zs ttok ?_ | refine R.z ttok ?_ | refine R.zk ?_ | refine R.zn ?_ | refine R.done ?_ | refine X.then ?_ | refine C.block ?_ | refine C.ret ?_ | refine C.skip ?_ | refine C.exit ?_ | refine X.pass_ret ?_ | refine X.pass_exit ?_ | refine X.block_normal ?_ | refine X.block_ret ?_ | refine X.block_exit ?_ | refine C.zt ?_ | refine C.zf ?_ | refine X.zo ?_)
    refine R.ix ttok i rfl rfl rfl rfl rfl (by kernel_rfl) rfl hlt (by show _ ≤ _ ∧ _ < _; omega) rfl ?_
    refine R.ldoj (v := .raw (.int .i64 (va.getD (ox + i) 0))) ttok (ox + i) rfl rfl rfl rfl rfl (by kernel_rfl) (by omega) (by omega) ?_
    repeat (first | refine C.seq ?_ | refine C.region ?_ | refine R.zb ttok ?_ | refine R.zu ttok ?_ | refine R.zc ttok ?_ | refine R.za ttok ?_ | refine R.zx ?_ | refine R.zl ttok ?_ | refine R.zs ttok ?_ | refine R.z ttok ?_ | refine R.zk ?_ | refine R.zn ?_ | refine R.done ?_ | refine X.then ?_ | refine C.block ?_ | refine C.ret ?_ | refine C.skip ?_ | refine C.exit ?_ | refine X.pass_ret ?_ | refine X.pass_exit ?_ | refine X.block_normal ?_ | refine X.block_ret ?_ | refine X.block_exit ?_ | refine C.zt ?_ | refine C.zf ?_ | refine X.zo ?_)
    refine R.ix ttok i rfl rfl rfl rfl rfl (by kernel_rfl) rfl hlt (by show _ ≤ _ ∧ _ < _; omega) rfl ?_
    refine R.ldoj (v := .raw (.int .i64 (vb.getD (oy + i) 0))) ttok (oy + i) rfl rfl rfl rfl rfl (by kernel_rfl) (by omega) (by omega) ?_
    repeat (first | refine C.seq ?_ | refine C.region ?_ | refine R.zb ttok ?_ | refine R.zu ttok ?_ | refine R.zc ttok ?_ | refine R.za ttok ?_ | refine R.zx ?_ | refine R.zl ttok ?_ | refine R.zs ttok ?_ | refine R.z ttok ?_ | refine R.zk ?_ | refine R.zn ?_ | refine R.done ?_ | refine X.then ?_ | refine C.block ?_ | refine C.ret ?_ | refine C.skip ?_ | refine C.exit ?_ | refine X.pass_ret ?_ | refine X.pass_exit ?_ | refine X.block_normal ?_ | refine X.block_ret ?_ | refine X.block_exit ?_ | refine C.zt ?_ | refine C.zf ?_ | refine X.zo ?_)
    rw [decide_eq_false (show ¬ va.getD (ox + i) 0 ≠ vb.getD (oy + i) 0 from fun h => h e2)]
    repeat (first | refine C.seq ?_ | refine C.region ?_ | refine R.zb ttok ?_ | refine R.zu ttok ?_ | refine R.zc ttok ?_ | refine R.za ttok ?_ | refine R.zx ?_ | refine R.zl ttok ?_ | refine R.zs ttok ?_ | refine R.z ttok ?_ | refine R.zk ?_ | refine R.zn ?_ | refine R.done ?_ | refine X.then ?_ | refine C.block ?_ | refine C.ret ?_ | refine C.skip ?_ | refine C.exit ?_ | refine X.pass_ret ?_ | refine X.pass_exit ?_ | refine X.block_normal ?_ | refine X.block_ret ?_ | refine X.block_exit ?_ | refine C.zt ?_ | refine C.zf ?_ | refine X.zo ?_)
    exact X.back [] (i + 1) hlt (by omega) rfl (by repeat (first | exact HasT.nil | refine HasT.cons rfl rfl rfl ?_)) (by repeat (first | exact HasH.nil | refine HasH.same rfl rfl rfl trivial ?_ | refine HasH.same rfl rfl rfl rfl ?_ | refine HasH.same rfl rfl rfl (fun _ _ => rfl) ?_)) rfl (fun _ h => h)
  · rw [decide_eq_false hlt]
    repeat (first | refine C.seq ?_ | refine C.region ?_ | refine R.zb ttok ?_ | refine R.zu ttok ?_ | refine R.zc ttok ?_ | refine R.za ttok ?_ | refine R.zx ?_ | refine R.zl ttok ?_ | refine R.zs ttok ?_ | refine R.z ttok ?_ | refine R.zk ?_ | refine R.zn ?_ | refine R.done ?_ | refine X.then ?_ | refine C.block ?_ | refine C.ret ?_ | refine C.skip ?_ | refine C.exit ?_ | refine X.pass_ret ?_ | refine X.pass_exit ?_ | refine X.block_normal ?_ | refine X.block_ret ?_ | refine X.block_exit ?_ | refine C.zt ?_ | refine C.zf ?_ | refine X.zo ?_)
    refine X.fin ttok () [] trivial rfl rfl rfl (by repeat (first | exact HasH.nil | refine HasH.same rfl rfl rfl trivial ?_ | refine HasH.same rfl rfl rfl rfl ?_ | refine HasH.same rfl rfl rfl (fun _ _ => rfl) ?_ | refine HasH.ros rfl rfl ?_)) _ (by first | exact .inl rfl | exact .inr rfl)
/-- much -/
theorem much_spec (sc : List StZ) (off cap : Nat) (hsc : sc.length ≤ 9223372036854775807) :
    Spec Try.prog 16 [.sl 0 1 off sc.length cap] [roZ off sc] 1 (σ := Bool) (fun b => b = false → sc.length ≤ 200) (fun b => .raw (.bool b)) (fun _ => []) := by
  refine Spec.of Try.func16 rfl Try.ntmps16 rfl (bdl_cons (rowsZ_bd _ _ _ _) (bdl_nil _)) fun ρ w => ?_
  repeat (first | refine C.seq ?_ | refine C.region ?_ | refine R.zb ttok ?_ | refine R.zu ttok ?_ | refine R.zc ttok ?_ | refine R.za ttok ?_ | refine R.zx ?_ | refine R.zl ttok ?_ | refine R.zs ttok ?_ | refine R.z ttok ?_ | refine R.zk ?_ | refine R.zn ?_ | refine R.done ?_ | refine X.then ?_ | refine C.block ?_ | refine C.ret ?_ | refine C.skip ?_ | refine C.exit ?_ | refine X.pass_ret ?_ | refine X.pass_exit ?_ | refine X.block_normal ?_ | refine X.block_ret ?_ | refine X.block_exit ?_ | refine C.zt ?_ | refine C.zf ?_ | refine X.zo ?_)
  by_cases h200 : ((sc.length : Nat) : Int) > 200
  · rw [decide_eq_true h200]
    repeat (first | refine C.seq ?_ | refine C.region ?_ | refine R.zb ttok ?_ | refine R.zu ttok ?_ | refine R.zc ttok ?_ | refine R.za ttok ?_ | refine R.zx ?_ | refine R.zl ttok ?_ | refine R.zs ttok ?_ | refine R.z ttok ?_ | refine R.zk ?_ | refine R.zn ?_ | refine R.done ?_ | refine X.then ?_ | refine C.block ?_ | refine C.ret ?_ | refine C.skip ?_ | refine C.exit ?_ | refine X.pass_ret ?_ | refine X.pass_exit ?_ | refine X.block_normal ?_ | refine X.block_ret ?_ | refine X.block_exit ?_ | refine C.zt ?_ | refine C.zf ?_ | refine X.zo ?_)
    refine X.fin ttok true [] (fun h => by cases h) rfl rfl rfl (by repeat (first | exact HasH.nil | refine HasH.same rfl rfl rfl trivial ?_ | refine HasH.same rfl rfl rfl rfl ?_ | refine HasH.same rfl rfl rfl (fun _ _ => rfl) ?_ | refine HasH.ros rfl rfl ?_)) _ (by first | exact .inl rfl | exact .inr rfl)
  rw [decide_eq_false h200]
  repeat (first | refine C.seq ?_ | refine C.region ?_ | refine R.zb ttok ?_ | refine R.zu ttok ?_ | refine R.zc ttok ?_ | refine R.za ttok ?_ | refine R.zx ?_ | refine R.zl ttok ?_ | refine R.zs ttok ?_ | refine R.z ttok ?_ | refine R.zk ?_ | refine R.zn ?_ | refine R.done ?_ | refine X.then ?_ | refine C.block ?_ | refine C.ret ?_ | refine C.skip ?_ | refine C.exit ?_ | refine X.pass_ret ?_ | refine X.pass_exit ?_ | refine X.block_normal ?_ | refine X.block_ret ?_ | refine X.block_exit ?_ | refine C.zt ?_ | refine C.zf ?_ | refine X.zo ?_)
  refine C.loop (σ := Nat × Nat) (L2 := 1) (fun s => s.1 ≤ sc.length ∧ s.2 ≤ s.1 * 150000) (fun s => [(0, .sl 0 1 off sc.length cap), (3, .raw (.int .i64 (s.2 : Nat))), (4, .raw (.int .i64 (s.1 : Nat)))]) (fun _ => [(0, roZ off sc)]) _ (fun s => sc.length - s.1) [] (0, 0) ⟨Nat.zero_le _, Nat.zero_le _⟩ rfl (by repeat (first | exact HasT.nil | refine HasT.cons rfl rfl rfl ?_)) (by exact .roz rfl rfl .nil) rfl (fun _ h => h) ?_
  rintro ⟨i, m⟩ ⟨hi, hm⟩
  dsimp only at hi hm ⊢
  repeat (first | refine C.seq ?_ | refine C.region ?_ | refine R.zb ttok ?_ | refine R.zu ttok ?_ | refine R.zc ttok ?_ | refine R.za ttok ?_ | refine R.zx ?_ | refine R.zl ttok ?_ | refine R.zs ttok ?_ | refine R.z ttok ?_ | refine R.zk ?_ | refine R.zn ?_ | refine R.done ?_ | refine X.then ?_ | refine C.block ?_ | refine C.ret ?_ | refine C.skip ?_ | refine C.exit ?_ | refine X.pass_ret ?_ | refine X.pass_exit ?_ | refine X.block_normal ?_ | refine X.block_ret ?_ | refine X.block_exit ?_ | refine C.zt ?_ | refine C.zf ?_ | refine X.zo ?_)
  by_cases hlt : (i : Int) < (sc.length : Nat)
  · rw [decide_eq_true hlt]
    have hlt : i < sc.length := by omega
    repeat (first | refine C.seq ?_ | refine C.region ?_ | refine R.zb ttok ?_ | refine R.zu ttok ?_ | refine R.zc ttok ?_ | refine R.za ttok ?_ | refine R.zx ?_ | refine R.zl ttok ?_ | refine R.zs ttok ?_ | refine R.z ttok ?_ | refine R.zk ?_ | refine R.zn ?_ | refine R.done ?_ | refine X.then ?_ | refine C.block ?_ | refine C.ret ?_ | refine C.skip ?_ | refine C.exit ?_ | refine X.pass_ret ?_ | refine X.pass_exit ?_ | refine X.block_normal ?_ | refine X.block_ret ?_ | refine X.block_exit ?_ | refine C.zt ?_ | refine C.zf ?_ | refine X.zo ?_)
    refine R.ix1 ttok i rfl rfl rfl rfl rfl rfl rfl hlt (⟨by omega, by omega⟩ : off ≤ off + i * 6 ∧ off + i * 6 < off + sc.length * 6) rfl ?_
    repeat (first | refine C.seq ?_ | refine C.region ?_ | refine R.zb ttok ?_ | refine R.zu ttok ?_ | refine R.zc ttok ?_ | refine R.za ttok ?_ | refine R.zx ?_ | refine R.zl ttok ?_ | refine R.zs ttok ?_ | refine R.z ttok ?_ | refine R.zk ?_ | refine R.zn ?_ | refine R.done ?_ | refine X.then ?_ | refine C.block ?_ | refine C.ret ?_ | refine C.skip ?_ | refine C.exit ?_ | refine X.pass_ret ?_ | refine X.pass_exit ?_ | refine X.block_normal ?_ | refine X.block_ret ?_ | refine X.block_exit ?_ | refine C.zt ?_ | refine C.zf ?_ | refine X.zo ?_)
    refine R.ldr1 (v := .raw (.string (sc.getD i StZ.no).key)) ttok i rfl rfl rfl rfl rfl rfl rfl rfl (by decide) (by omega) ?_
    repeat (first | refine C.seq ?_ | refine C.region ?_ | refine R.zb ttok ?_ | refine R.zu ttok ?_ | refine R.zc ttok ?_ | refine R.za ttok ?_ | refine R.zx ?_ | refine R.zl ttok ?_ | refine R.zs ttok ?_ | refine R.z ttok ?_ | refine R.zk ?_ | refine R.zn ?_ | refine R.done ?_ | refine X.then ?_ | refine C.block ?_ | refine C.ret ?_ | refine C.skip ?_ | refine C.exit ?_ | refine X.pass_ret ?_ | refine X.pass_exit ?_ | refine X.block_normal ?_ | refine X.block_ret ?_ | refine X.block_exit ?_ | refine C.zt ?_ | refine C.zf ?_ | refine X.zo ?_)
    by_cases hk : ((sc.getD i StZ.no).key.size : Int) > 50000
    · rw [decide_eq_true hk]
      repeat (first | refine C.seq ?_ | refine C.region ?_ | refine R.zb ttok ?_ | refine R.zu ttok ?_ | refine R.zc ttok ?_ | refine R.za ttok ?_ | refine R.zx ?_ | refine R.zl ttok ?_ | refine R.zs ttok ?_ | refine R.z ttok ?_ | refine R.zk ?_ | refine R.zn ?_ | refine R.done ?_ | refine X.then ?_ | refine C.block ?_ | refine C.ret ?_ | refine C.skip ?_ | refine C.exit ?_ | refine X.pass_ret ?_ | refine X.pass_exit ?_ | refine X.block_normal ?_ | refine X.block_ret ?_ | refine X.block_exit ?_ | refine C.zt ?_ | refine C.zf ?_ | refine X.zo ?_)
      refine X.fin ttok true [] (fun h => by cases h) rfl rfl rfl (by repeat (first | exact HasH.nil | refine HasH.same rfl rfl rfl trivial ?_ | refine HasH.same rfl rfl rfl rfl ?_ | refine HasH.same rfl rfl rfl (fun _ _ => rfl) ?_ | refine HasH.ros rfl rfl ?_)) _ (by first | exact .inl rfl | exact .inr rfl)
    rw [decide_eq_false hk]
    repeat (first | refine C.seq ?_ | refine C.region ?_ | refine R.zb ttok ?_ | refine R.zu ttok ?_ | refine R.zc ttok ?_ | refine R.za ttok ?_ | refine R.zx ?_ | refine R.zl ttok ?_ | refine R.zs ttok ?_ | refine R.z ttok ?_ | refine R.zk ?_ | refine R.zn ?_ | refine R.done ?_ | refine X.then ?_ | refine C.block ?_ | refine C.ret ?_ | refine C.skip ?_ | refine C.exit ?_ | refine X.pass_ret ?_ | refine X.pass_exit ?_ | refine X.block_normal ?_ | refine X.block_ret ?_ | refine X.block_exit ?_ | refine C.zt ?_ | refine C.zf ?_ | refine X.zo ?_)
    refine R.ix1 ttok i rfl rfl rfl rfl rfl rfl rfl hlt (⟨by omega, by omega⟩ : off ≤ off + i * 6 ∧ off + i * 6 < off + sc.length * 6) rfl ?_
    repeat (first | refine C.seq ?_ | refine C.region ?_ | refine R.zb ttok ?_ | refine R.zu ttok ?_ | refine R.zc ttok ?_ | refine R.za ttok ?_ | refine R.zx ?_ | refine R.zl ttok ?_ | refine R.zs ttok ?_ | refine R.z ttok ?_ | refine R.zk ?_ | refine R.zn ?_ | refine R.done ?_ | refine X.then ?_ | refine C.block ?_ | refine C.ret ?_ | refine C.skip ?_ | refine C.exit ?_ | refine X.pass_ret ?_ | refine X.pass_exit ?_ | refine X.block_normal ?_ | refine X.block_ret ?_ | refine X.block_exit ?_ | refine C.zt ?_ | refine C.zf ?_ | refine X.zo ?_)
    refine R.ldr1 (v := .raw (.string (sc.getD i StZ.no).to)) ttok i rfl rfl rfl rfl rfl rfl rfl rfl (by decide) (by omega) ?_
    repeat (first | refine C.seq ?_ | refine C.region ?_ | refine R.zb ttok ?_ | refine R.zu ttok ?_ | refine R.zc ttok ?_ | refine R.za ttok ?_ | refine R.zx ?_ | refine R.zl ttok ?_ | refine R.zs ttok ?_ | refine R.z ttok ?_ | refine R.zk ?_ | refine R.zn ?_ | refine R.done ?_ | refine X.then ?_ | refine C.block ?_ | refine C.ret ?_ | refine C.skip ?_ | refine C.exit ?_ | refine X.pass_ret ?_ | refine X.pass_exit ?_ | refine X.block_normal ?_ | refine X.block_ret ?_ | refine X.block_exit ?_ | refine C.zt ?_ | refine C.zf ?_ | refine X.zo ?_)
    by_cases hk2 : ((sc.getD i StZ.no).to.size : Int) > 50000
    · rw [decide_eq_true hk2]
      repeat (first | refine C.seq ?_ | refine C.region ?_ | refine R.zb ttok ?_ | refine R.zu ttok ?_ | refine R.zc ttok ?_ | refine R.za ttok ?_ | refine R.zx ?_ | refine R.zl ttok ?_ | refine R.zs ttok ?_ | refine R.z ttok ?_ | refine R.zk ?_ | refine R.zn ?_ | refine R.done ?_ | refine X.then ?_ | refine C.block ?_ | refine C.ret ?_ | refine C.skip ?_ | refine C.exit ?_ | refine X.pass_ret ?_ | refine X.pass_exit ?_ | refine X.block_normal ?_ | refine X.block_ret ?_ | refine X.block_exit ?_ | refine C.zt ?_ | refine C.zf ?_ | refine X.zo ?_)
      refine X.fin ttok true [] (fun h => by cases h) rfl rfl rfl (by repeat (first | exact HasH.nil | refine HasH.same rfl rfl rfl trivial ?_ | refine HasH.same rfl rfl rfl rfl ?_ | refine HasH.same rfl rfl rfl (fun _ _ => rfl) ?_ | refine HasH.ros rfl rfl ?_)) _ (by first | exact .inl rfl | exact .inr rfl)
    rw [decide_eq_false hk2]
    repeat (first | refine C.seq ?_ | refine C.region ?_ | refine R.zb ttok ?_ | refine R.zu ttok ?_ | refine R.zc ttok ?_ | refine R.za ttok ?_ | refine R.zx ?_ | refine R.zl ttok ?_ | refine R.zs ttok ?_ | refine R.z ttok ?_ | refine R.zk ?_ | refine R.zn ?_ | refine R.done ?_ | refine X.then ?_ | refine C.block ?_ | refine C.ret ?_ | refine C.skip ?_ | refine C.exit ?_ | refine X.pass_ret ?_ | refine X.pass_exit ?_ | refine X.block_normal ?_ | refine X.block_ret ?_ | refine X.block_exit ?_ | refine C.zt ?_ | refine C.zf ?_ | refine X.zo ?_)
    refine R.ix1 ttok i rfl rfl rfl rfl rfl rfl rfl hlt (⟨by omega, by omega⟩ : off ≤ off + i * 6 ∧ off + i * 6 < off + sc.length * 6) rfl ?_
    repeat (first | refine C.seq ?_ | refine C.region ?_ | refine R.zb ttok ?_ | refine R.zu ttok ?_ | refine R.zc ttok ?_ | refine R.za ttok ?_ | refine R.zx ?_ | refine R.zl ttok ?_ | refine R.zs ttok ?_ | refine R.z ttok ?_ | refine R.zk ?_ | refine R.zn ?_ | refine R.done ?_ | refine X.then ?_ | refine C.block ?_ | refine C.ret ?_ | refine C.skip ?_ | refine C.exit ?_ | refine X.pass_ret ?_ | refine X.pass_exit ?_ | refine X.block_normal ?_ | refine X.block_ret ?_ | refine X.block_exit ?_ | refine C.zt ?_ | refine C.zf ?_ | refine X.zo ?_)
    refine R.ldr1 (v := .raw (.string (sc.getD i StZ.no).other)) ttok i rfl rfl rfl rfl rfl rfl rfl rfl (by decide) (by omega) ?_
    repeat (first | refine C.seq ?_ | refine C.region ?_ | refine R.zb ttok ?_ | refine R.zu ttok ?_ | refine R.zc ttok ?_ | refine R.za ttok ?_ | refine R.zx ?_ | refine R.zl ttok ?_ | refine R.zs ttok ?_ | refine R.z ttok ?_ | refine R.zk ?_ | refine R.zn ?_ | refine R.done ?_ | refine X.then ?_ | refine C.block ?_ | refine C.ret ?_ | refine C.skip ?_ | refine C.exit ?_ | refine X.pass_ret ?_ | refine X.pass_exit ?_ | refine X.block_normal ?_ | refine X.block_ret ?_ | refine X.block_exit ?_ | refine C.zt ?_ | refine C.zf ?_ | refine X.zo ?_)
    by_cases hk3 : ((sc.getD i StZ.no).other.size : Int) > 50000
    · rw [decide_eq_true hk3]
      repeat (first | refine C.seq ?_ | refine C.region ?_ | refine R.zb ttok ?_ | refine R.zu ttok ?_ | refine R.zc ttok ?_ | refine R.za ttok ?_ | refine R.zx ?_ | refine R.zl ttok ?_ | refine R.zs ttok ?_ | refine R.z ttok ?_ | refine R.zk ?_ | refine R.zn ?_ | refine R.done ?_ | refine X.then ?_ | refine C.block ?_ | refine C.ret ?_ | refine C.skip ?_ | refine C.exit ?_ | refine X.pass_ret ?_ | refine X.pass_exit ?_ | refine X.block_normal ?_ | refine X.block_ret ?_ | refine X.block_exit ?_ | refine C.zt ?_ | refine C.zf ?_ | refine X.zo ?_)
      refine X.fin ttok true [] (fun h => by cases h) rfl rfl rfl (by repeat (first | exact HasH.nil | refine HasH.same rfl rfl rfl trivial ?_ | refine HasH.same rfl rfl rfl rfl ?_ | refine HasH.same rfl rfl rfl (fun _ _ => rfl) ?_ | refine HasH.ros rfl rfl ?_)) _ (by first | exact .inl rfl | exact .inr rfl)
    rw [decide_eq_false hk3]
    repeat (first | refine C.seq ?_ | refine C.region ?_ | refine R.zb ttok ?_ | refine R.zu ttok ?_ | refine R.zc ttok ?_ | refine R.za ttok ?_ | refine R.zx ?_ | refine R.zl ttok ?_ | refine R.zs ttok ?_ | refine R.z ttok ?_ | refine R.zk ?_ | refine R.zn ?_ | refine R.done ?_ | refine X.then ?_ | refine C.block ?_ | refine C.ret ?_ | refine C.skip ?_ | refine C.exit ?_ | refine X.pass_ret ?_ | refine X.pass_exit ?_ | refine X.block_normal ?_ | refine X.block_ret ?_ | refine X.block_exit ?_ | refine C.zt ?_ | refine C.zf ?_ | refine X.zo ?_)
    refine C.draw [[], [], [], [1, 2], [1, 2, 3], [1, 2, 3, 4], [1, 2, 3, 4, 5], [0, 1, 2, 3, 4, 5, 6], [], [], [8, 9], [8, 9, 10], [8, 9, 10, 11], [8, 9, 10, 11, 12], [0, 1, 2, 3, 4, 5, 6, 7, 8, 9, 10, 11, 12, 13], [], [], [15, 16], [15, 16, 17], [15, 16, 17, 18], [15, 16, 17, 18, 19], [0, 1, 2, 3, 4, 5, 6, 7, 8, 9, 10, 11, 12, 13, 14, 15, 16, 17, 18, 19, 20], [0, 1, 2, 3, 4, 5, 6, 7, 8, 9, 10, 11, 12, 13, 14, 15, 16, 17, 18, 19, 20, 21]] [] (by kernel_rfl) (by kernel_rfl) ?_
    repeat (first | refine C.seq ?_ | refine C.region ?_ | refine R.zb ttok ?_ | refine R.zu ttok ?_ | refine R.zc ttok ?_ | refine R.za ttok ?_ | refine R.zx ?_ | refine R.zl ttok ?_ | refine R.zs ttok ?_ | refine R.z ttok ?_ | refine R.zk ?_ | refine R.zn ?_ | refine R.done ?_ | refine X.then ?_ | refine C.block ?_ | refine C.ret ?_ | refine C.skip ?_ | refine C.exit ?_ | refine X.pass_ret ?_ | refine X.pass_exit ?_ | refine X.block_normal ?_ | refine X.block_ret ?_ | refine X.block_exit ?_ | refine C.zt ?_ | refine C.zf ?_ | refine X.zo ?_)
    refine R.ix1 ttok i rfl rfl rfl rfl rfl rfl rfl hlt (⟨by omega, by omega⟩ : off ≤ off + i * 6 ∧ off + i * 6 < off + sc.length * 6) rfl ?_
    repeat (first | refine C.seq ?_ | refine C.region ?_ | refine R.zb ttok ?_ | refine R.zu ttok ?_ | refine R.zc ttok ?_ | refine R.za ttok ?_ | refine R.zx ?_ | refine R.zl ttok ?_ | refine R.zs ttok ?_ | refine R.z ttok ?_ | refine R.zk ?_ | refine R.zn ?_ | refine R.done ?_ | refine X.then ?_ | refine C.block ?_ | refine C.ret ?_ | refine C.skip ?_ | refine C.exit ?_ | refine X.pass_ret ?_ | refine X.pass_exit ?_ | refine X.block_normal ?_ | refine X.block_ret ?_ | refine X.block_exit ?_ | refine C.zt ?_ | refine C.zf ?_ | refine X.zo ?_)
    refine R.ldr1 (v := .raw (.string (sc.getD i StZ.no).key)) ttok i rfl rfl rfl rfl rfl rfl rfl rfl (by decide) (by omega) ?_
    repeat (first | refine C.seq ?_ | refine C.region ?_ | refine R.zb ttok ?_ | refine R.zu ttok ?_ | refine R.zc ttok ?_ | refine R.za ttok ?_ | refine R.zx ?_ | refine R.zl ttok ?_ | refine R.zs ttok ?_ | refine R.z ttok ?_ | refine R.zk ?_ | refine R.zn ?_ | refine R.done ?_ | refine X.then ?_ | refine C.block ?_ | refine C.ret ?_ | refine C.skip ?_ | refine C.exit ?_ | refine X.pass_ret ?_ | refine X.pass_exit ?_ | refine X.block_normal ?_ | refine X.block_ret ?_ | refine X.block_exit ?_ | refine C.zt ?_ | refine C.zf ?_ | refine X.zo ?_)
    refine R.ix1 ttok i rfl rfl rfl rfl rfl rfl rfl hlt (⟨by omega, by omega⟩ : off ≤ off + i * 6 ∧ off + i * 6 < off + sc.length * 6) rfl ?_
    repeat (first | refine C.seq ?_ | refine C.region ?_ | refine R.zb ttok ?_ | refine R.zu ttok ?_ | refine R.zc ttok ?_ | refine R.za ttok ?_ | refine R.zx ?_ | refine R.zl ttok ?_ | refine R.zs ttok ?_ | refine R.z ttok ?_ | refine R.zk ?_ | refine R.zn ?_ | refine R.done ?_ | refine X.then ?_ | refine C.block ?_ | refine C.ret ?_ | refine C.skip ?_ | refine C.exit ?_ | refine X.pass_ret ?_ | refine X.pass_exit ?_ | refine X.block_normal ?_ | refine X.block_ret ?_ | refine X.block_exit ?_ | refine C.zt ?_ | refine C.zf ?_ | refine X.zo ?_)
    refine R.ldr1 (v := .raw (.string (sc.getD i StZ.no).to)) ttok i rfl rfl rfl rfl rfl rfl rfl rfl (by decide) (by omega) ?_
    repeat (first | refine C.seq ?_ | refine C.region ?_ | refine R.zb ttok ?_ | refine R.zu ttok ?_ | refine R.zc ttok ?_ | refine R.za ttok ?_ | refine R.zx ?_ | refine R.zl ttok ?_ | refine R.zs ttok ?_ | refine R.z ttok ?_ | refine R.zk ?_ | refine R.zn ?_ | refine R.done ?_ | refine X.then ?_ | refine C.block ?_ | refine C.ret ?_ | refine C.skip ?_ | refine C.exit ?_ | refine X.pass_ret ?_ | refine X.pass_exit ?_ | refine X.block_normal ?_ | refine X.block_ret ?_ | refine X.block_exit ?_ | refine C.zt ?_ | refine C.zf ?_ | refine X.zo ?_)
    refine R.ix1 ttok i rfl rfl rfl rfl rfl rfl rfl hlt (⟨by omega, by omega⟩ : off ≤ off + i * 6 ∧ off + i * 6 < off + sc.length * 6) rfl ?_
    repeat (first | refine C.seq ?_ | refine C.region ?_ | refine R.zb ttok ?_ | refine R.zu ttok ?_ | refine R.zc ttok ?_ | refine R.za ttok ?_ | refine R.zx ?_ | refine R.zl ttok ?_ | refine R.zs ttok ?_ | refine R.z ttok ?_ | refine R.zk ?_ | refine R.zn ?_ | refine R.done ?_ | refine X.then ?_ | refine C.block ?_ | refine C.ret ?_ | refine C.skip ?_ | refine C.exit ?_ | refine X.pass_ret ?_ | refine X.pass_exit ?_ | refine X.block_normal ?_ | refine X.block_ret ?_ | refine X.block_exit ?_ | refine C.zt ?_ | refine C.zf ?_ | refine X.zo ?_)
    refine R.ldr1 (v := .raw (.string (sc.getD i StZ.no).other)) ttok i rfl rfl rfl rfl rfl rfl rfl rfl (by decide) (by omega) ?_
    repeat (first | refine C.seq ?_ | refine C.region ?_ | refine R.zb ttok ?_ | refine R.zu ttok ?_ | refine R.zc ttok ?_ | refine R.za ttok ?_ | refine R.zx ?_ | refine R.zl ttok ?_ | refine R.zs ttok ?_ | refine R.z ttok ?_ | refine R.zk ?_ | refine R.zn ?_ | refine R.done ?_ | refine X.then ?_ | refine C.block ?_ | refine C.ret ?_ | refine C.skip ?_ | refine C.exit ?_ | refine X.pass_ret ?_ | refine X.pass_exit ?_ | refine X.block_normal ?_ | refine X.block_ret ?_ | refine X.block_exit ?_ | refine C.zt ?_ | refine C.zf ?_ | refine X.zo ?_)
    exact X.back [] (i + 1, m + (sc.getD i StZ.no).key.size + (sc.getD i StZ.no).to.size + (sc.getD i StZ.no).other.size) ⟨hlt, by dsimp only; omega⟩ (by dsimp only; omega) rfl (by repeat (first | exact HasT.nil | refine HasT.cons rfl rfl rfl ?_)) (by exact .roz rfl rfl .nil) rfl (fun _ h => h)
  · rw [decide_eq_false hlt]
    repeat (first | refine C.seq ?_ | refine C.region ?_ | refine R.zb ttok ?_ | refine R.zu ttok ?_ | refine R.zc ttok ?_ | refine R.za ttok ?_ | refine R.zx ?_ | refine R.zl ttok ?_ | refine R.zs ttok ?_ | refine R.z ttok ?_ | refine R.zk ?_ | refine R.zn ?_ | refine R.done ?_ | refine X.then ?_ | refine C.block ?_ | refine C.ret ?_ | refine C.skip ?_ | refine C.exit ?_ | refine X.pass_ret ?_ | refine X.pass_exit ?_ | refine X.block_normal ?_ | refine X.block_ret ?_ | refine X.block_exit ?_ | refine C.zt ?_ | refine C.zf ?_ | refine X.zo ?_)
    refine X.fin ttok (decide ((m : Int) > 50000)) [] (fun _ => by omega) rfl rfl rfl (by repeat (first | exact HasH.nil | refine HasH.same rfl rfl rfl trivial ?_ | refine HasH.same rfl rfl rfl rfl ?_ | refine HasH.same rfl rfl rfl (fun _ _ => rfl) ?_ | refine HasH.ros rfl rfl ?_)) _ (by first | exact .inl rfl | exact .inr rfl)
end Go.Proofs.Yteabncomclgncaa
namespace Go.Proofs.Yteabncomclgncaa
set_option linter.unusedVariables false
set_option linter.unusedSimpArgs false
open Go.RowKit
set_option maxRecDepth 100000
set_option maxHeartbeats 4000000
theorem above_iff {l : ZL} (hA : Asc l) (k : ByteArray) {i : Nat} (hi : i < l.length) : gtB (l.getD i zG).1 k = decide (aboveN l k ≤ i) := by
  rw [gt_cmp]
  refine decide_eq_decide.2 ?_
  have h1 := plc_iff hA k zG i hi
  unfold aboveN
  cases hk : hasK l k with
  | false =>
    rw [if_neg (by decide)]
    constructor
    · intro h
      rcases Nat.lt_or_ge i (plc l k) with h2 | h2
      · have := h1.2 h2
        rw [cmpS_swap] at h
        omega
      · exact h2
    · intro h
      have h2 : ¬ cmpS (l.getD i zG).1 k < 0 := fun e => by have := h1.1 e; omega
      have h3 : cmpS (l.getD i zG).1 k ≠ 0 := fun e => by
        have e2 := cmpS_zero.1 e
        have := has_at hA hi
        rw [e2, hk] at this; cases this
      rw [cmpS_swap]
      omega
  | true =>
    rw [if_pos rfl]
    have hkk := hasK_key hk
    have hlt := (hasK_lt hk).1
    constructor
    · intro h
      rcases Nat.lt_or_ge i (plc l k) with h2 | h2
      · have := h1.2 h2
        rw [cmpS_swap] at h
        omega
      · rcases Nat.eq_or_lt_of_le h2 with h3 | h3
        · subst h3
          rw [hkk, cmpS_self] at h
          omega
        · exact h3
    · intro h
      have := asc_lt hA (i := plc l k) (j := i) (by omega) hi
      rwa [hkk] at this
abbrev liveL (l : ZL) : ZL := l.filter liveZ
theorem asc_zsw {l : ZL} (hA : Asc l) (g : Sl Int → Sl Int) : Asc (zsw l g) := (asc_g hA g).sublist List.filter_sublist
theorem zsw_len (l : ZL) (g : Sl Int → Sl Int) : (zsw l g).length ≤ l.length := by
  unfold zsw
  refine Nat.le_trans (List.length_filter_le _ _) ?_
  rw [List.length_map]; exact Nat.le_refl _
theorem mark_held (s : Sl Int) : heldB s.mark = s.live ∧ s.mark.live = s.live ∧ heldV s.mark = s.get s.rd := by
  obtain ⟨c0, c1, h0, h1, rd, wr⟩ := s
  cases rd <;> exact ⟨rfl, rfl, rfl⟩
theorem asc_zup {l : ZL} (hA : Asc l) {i : Nat} (h : i < l.length) (s : Sl Int) : Asc (zup l i s) := asc_keys (zup_keys l i s h) hA
theorem asc_put {l : ZL} (hA : Asc l) (k : ByteArray) (v : Int) (b : Nat) : Asc (zput l k v b) := by
  unfold zput
  split
  · rename_i h; exact asc_zup hA (hasK_lt h).1 _
  · rename_i h; exact asc_ins hA k _ (by simpa using h)
theorem put_le (l : ZL) (k : ByteArray) (v : Int) (b : Nat) : (zput l k v b).length ≤ l.length + 1 := by
  unfold zput
  split
  · rw [zup_len]; omega
  · rw [insL_len]; exact Nat.le_refl _
theorem asc_zdel {l : ZL} (hA : Asc l) (k : ByteArray) (mk : Bool) : Asc (zdel l k mk) := by
  unfold zdel
  split
  · rename_i h
    have hk : hasK l k = true := by
      unfold isV at h
      split at h
      · assumption
      · cases h
    cases mk with
    | true => rw [if_pos rfl]; exact asc_zup hA (hasK_lt hk).1 _
    | false => rw [if_neg (by decide)]; exact hA.sublist (del_sub l _)
  · exact hA
theorem asc_wr {l : ZL} (hA : Asc l) (x : StZ) (mk : Bool) (b : Nat) : Asc (wrZ x l mk b) := by
  unfold wrZ
  split
  · exact asc_zdel hA _ _
  · split
    · exact asc_put hA _ _ _
    · exact hA
theorem wr_le (x : StZ) (l : ZL) (mk : Bool) (b : Nat) : (wrZ x l mk b).length ≤ l.length + 1 := by
  unfold wrZ
  split
  · have := zdel_le l x.key mk; omega
  · split
    · exact put_le _ _ _ _
    · omega
theorem wrN_bd (x : StZ) (l : ZL) (hs : Int) : hs - 1 ≤ wrN x l hs ∧ wrN x l hs ≤ hs + 1 := by
  unfold wrN zdelN zputN
  split
  · split
    · rw [layN_eq]; simp [b01]; omega
    · omega
  · split
    · rw [layN_eq]; cases isV l x.key <;> simp [b01] <;> omega
    · omega
end Go.Proofs.Yteabncomclgncaa
namespace Go.Proofs.Yteabncomclgncaa
set_option linter.unusedVariables false
set_option linter.unusedSimpArgs false
open Go.RowKit
set_option maxRecDepth 100000
set_option maxHeartbeats 4000000
abbrev VL := List (ByteArray × Int)
abbrev vw (p : PIZ) : ByteArray × Int := (p.1, p.2.2.get p.2.2.rd)
def VZ (l : ZL) : VL := (liveL l).map vw
theorem vz_app (x y : ZL) : VZ (x ++ y) = VZ x ++ VZ y := by unfold VZ liveL; rw [List.filter_append, List.map_append]
theorem vz_cons (p : PIZ) (y : ZL) : VZ (p :: y) = (if p.2.2.live = true then [vw p] else []) ++ VZ y := by
  unfold VZ liveL
  rw [List.filter_cons]
  show List.map vw (if p.2.2.live = true then _ else _) = _
  cases p.2.2.live <;> rfl
theorem vz_mem {l : ZL} {q : ByteArray × Int} (h : q ∈ VZ l) : ∃ p ∈ l, q.1 = p.1 := by
  obtain ⟨p, hp, rfl⟩ := List.mem_map.1 h
  exact ⟨p, (List.mem_filter.1 hp).1, rfl⟩
abbrev ltV (k : ByteArray) (p : ByteArray × Int) : Bool := decide (cmpS p.1 k < 0)
abbrev gtV (k : ByteArray) (p : ByteArray × Int) : Bool := decide (cmpS k p.1 < 0)
abbrev eqV (k : ByteArray) (p : ByteArray × Int) : Bool := decide (cmpS p.1 k = 0)
theorem take_lt {l : ZL} (hA : Asc l) (k : ByteArray) : ∀ p ∈ l.take (plc l k), cmpS p.1 k < 0 := fun p hp => by
  obtain ⟨i, hi, rfl⟩ := List.mem_iff_getElem.1 hp
  rw [List.length_take] at hi
  have := plc_iff hA k zG i (by omega)
  rw [zG_get (by omega)] at this
  rw [List.getElem_take]
  exact this.2 (by omega)
theorem drop_ge {l : ZL} (hA : Asc l) (k : ByteArray) : ∀ p ∈ l.drop (plc l k), ¬ cmpS p.1 k < 0 := fun p hp => by
  obtain ⟨i, hi, rfl⟩ := List.mem_iff_getElem.1 hp
  rw [List.length_drop] at hi
  have := plc_iff hA k zG (plc l k + i) (by omega)
  rw [zG_get (by omega)] at this
  rw [List.getElem_drop]
  exact fun h => by have := this.1 h; omega
theorem drop_gt {l : ZL} (hA : Asc l) (k : ByteArray) : ∀ p ∈ l.drop (aboveN l k), cmpS k p.1 < 0 := fun p hp => by
  obtain ⟨i, hi, rfl⟩ := List.mem_iff_getElem.1 hp
  rw [List.length_drop] at hi
  have := above_iff hA k (i := aboveN l k + i) (by omega)
  rw [zG_get (by omega), gt_cmp] at this
  rw [List.getElem_drop]
  exact of_decide_eq_true (this.trans (decide_eq_true (by omega)))
theorem take_le {l : ZL} (hA : Asc l) (k : ByteArray) : ∀ p ∈ l.take (aboveN l k), ¬ cmpS k p.1 < 0 := fun p hp => by
  obtain ⟨i, hi, rfl⟩ := List.mem_iff_getElem.1 hp
  have hle := aboveN_le l k
  rw [List.length_take] at hi
  have := above_iff hA k (i := i) (by omega)
  rw [zG_get (by omega), gt_cmp] at this
  rw [List.getElem_take]
  exact of_decide_eq_false (this.trans (decide_eq_false (by omega)))
theorem vz_lt {l : ZL} (hA : Asc l) (k : ByteArray) : (VZ l).filter (ltV k) = VZ (l.take (plc l k)) := by
  conv => lhs; rw [← List.take_append_drop (plc l k) l, vz_app, List.filter_append]
  rw [List.filter_eq_self.2 (fun q hq => by obtain ⟨p, hp, e⟩ := vz_mem hq; exact decide_eq_true (by rw [e]; exact take_lt hA k p hp)), List.filter_eq_nil_iff.2 (fun q hq => by obtain ⟨p, hp, e⟩ := vz_mem hq; simp only [ltV, decide_eq_true_eq]; rw [e]; exact drop_ge hA k p hp), List.append_nil]
theorem vz_gt {l : ZL} (hA : Asc l) (k : ByteArray) : (VZ l).filter (gtV k) = VZ (l.drop (aboveN l k)) := by
  conv => lhs; rw [← List.take_append_drop (aboveN l k) l, vz_app, List.filter_append]
  rw [List.filter_eq_nil_iff.2 (fun q hq => by obtain ⟨p, hp, e⟩ := vz_mem hq; simp only [gtV, decide_eq_true_eq]; rw [e]; exact take_le hA k p hp), List.filter_eq_self.2 (fun q hq => by obtain ⟨p, hp, e⟩ := vz_mem hq; exact decide_eq_true (by rw [e]; exact drop_gt hA k p hp)), List.nil_append]
/-- a list about a text -/
theorem vz_split {l : ZL} (hA : Asc l) (k : ByteArray) : VZ l = (VZ l).filter (ltV k) ++ (if isV l k = true then [(k, getV l k)] else []) ++ (VZ l).filter (gtV k) := by
  rw [vz_lt hA, vz_gt hA]
  unfold aboveN isV getV
  cases hk : hasK l k with
  | false =>
    simp only [Bool.false_eq_true, if_false, List.append_nil]
    rw [← vz_app, List.take_append_drop]
  | true =>
    simp only [if_true]
    have hlt := (hasK_lt hk).1
    conv => lhs; rw [del_split hlt, vz_app, vz_cons]
    have hkey := hasK_key hk
    unfold slotV
    rw [← List.append_assoc]
    cases (l.getD (plc l k) zG).2.2.live with
    | true => simp only [if_true, vw, hkey]
    | false => simp
def vput (V : VL) (k : ByteArray) (v : Int) : VL := V.filter (ltV k) ++ [(k, v)] ++ V.filter (gtV k)
theorem vz_put {l : ZL} (hA : Asc l) (k : ByteArray) (v : Int) (b : Nat) : VZ (zput l k v b) = vput (VZ l) k v := by
  unfold vput
  rw [vz_lt hA, vz_gt hA]
  have hlay : ∀ s : Sl Int, (s.lay v true).live = true ∧ (s.lay v true).get (s.lay v true).rd = v := fun s => by
    obtain ⟨c0, c1, h0, h1, rd, wr⟩ := s
    cases wr <;> exact ⟨rfl, rfl⟩
  unfold zput aboveN
  cases hk : hasK l k with
  | false =>
    simp only [Bool.false_eq_true, if_false]
    unfold insL
    rw [vz_app, vz_cons, ← List.append_assoc]
    show VZ _ ++ (if (newS.lay v true).live = true then [(k, (newS.lay v true).get (newS.lay v true).rd)] else []) ++ _ = _
    rw [(hlay newS).1, (hlay newS).2, if_pos rfl]
  | true =>
    simp only [if_true]
    have hlt := (hasK_lt hk).1
    rw [zup_split hlt, vz_app, vz_cons, ← List.append_assoc]
    show VZ _ ++ (if ((slotV l k).lay v true).live = true then [((l.getD (plc l k) zG).1, ((slotV l k).lay v true).get ((slotV l k).lay v true).rd)] else []) ++ _ = _
    rw [(hlay _).1, (hlay _).2, if_pos rfl, hasK_key hk]
theorem vz_sw (l : ZL) (g : Sl Int → Sl Int) (h1 : ∀ s, (g s).live = s.live) (h2 : ∀ s, (g s).get (g s).rd = s.get s.rd) : VZ (zsw l g) = VZ l := by
  unfold VZ zsw liveL
  rw [List.filter_filter, List.filter_map, List.map_map]
  have e : ((fun p : PIZ => liveZ p && p.2.2.live) ∘ gP g) = liveZ := by
    funext p
    show ((g p.2.2).live && (g p.2.2).live) = p.2.2.live
    rw [h1, Bool.and_self]
  rw [e]
  exact List.map_congr_left fun p _ => by show (p.1, (g p.2.2).get (g p.2.2).rd) = _; rw [h2]
/-- no number where nothing is -/
def DZ (l : ZL) : Prop := ∀ p ∈ l, p.2.2.live = false → p.2.2.get p.2.2.rd = 0
theorem vz_mid {l : ZL} (hA : Asc l) (k : ByteArray) : (VZ l).filter (eqV k) = if isV l k = true then [(k, getV l k)] else [] := by
  have hl : ∀ q ∈ (VZ l).filter (ltV k), ¬ eqV k q = true := fun q hq => by
    have := of_decide_eq_true (List.mem_filter.1 hq).2
    simp only [eqV, decide_eq_true_eq]; omega
  have hg : ∀ q ∈ (VZ l).filter (gtV k), ¬ eqV k q = true := fun q hq => by
    have := of_decide_eq_true (List.mem_filter.1 hq).2
    simp only [eqV, decide_eq_true_eq]
    rw [cmpS_swap] at this
    omega
  conv => lhs; rw [vz_split hA k, List.filter_append, List.filter_append, List.filter_eq_nil_iff.2 hl, List.filter_eq_nil_iff.2 hg]
  cases isV l k with
  | true => simp [eqV, cmpS_self]
  | false => simp
abbrev inV (fr to : ByteArray) (p : ByteArray × Int) : Bool := !(ltV fr p) && !(past to p.1)
theorem rg_eq {l : ZL} (hA : Asc l) {fr to : ByteArray} {j : Nat} (h : rgOk l fr to j) : (segF liveZ l (plc l fr) j).map vw = (VZ l).filter (inV fr to) := by
  obtain ⟨h1, h2, h3, h4⟩ := h
  have e : l = l.take (plc l fr) ++ (l.take j).drop (plc l fr) ++ l.drop j := by
    conv => lhs; rw [← List.take_append_drop j l]
    congr 1
    conv => lhs; rw [← List.take_append_drop (plc l fr) (l.take j)]
    rw [List.take_take, Nat.min_eq_left h1]
  conv => rhs; rw [e, vz_app, vz_app, List.filter_append, List.filter_append]
  rw [List.filter_eq_nil_iff.2 (fun q hq => by
    obtain ⟨p, hp, e⟩ := vz_mem hq
    have := take_lt hA fr p hp
    rw [← e] at this
    simp [inV, ltV, this]), List.nil_append, List.filter_eq_self.2 (fun q hq => ?_), List.filter_eq_nil_iff.2 (fun q hq => ?_), List.append_nil]
  · rfl
  · obtain ⟨p, hp, e⟩ := vz_mem hq
    obtain ⟨i, hi, rfl⟩ := List.mem_iff_getElem.1 hp
    rw [List.length_drop] at hi
    have hlt : j + i < l.length := by omega
    rw [List.getElem_drop] at e
    have hp := h4 (by omega)
    have : past to q.1 = true := by
      rw [e]
      unfold past at hp ⊢
      rw [Bool.and_eq_true] at hp ⊢
      refine ⟨hp.1, ?_⟩
      have hp2 := hp.2
      rw [gt_cmp] at hp2 ⊢
      have hp3 := of_decide_eq_true hp2
      refine decide_eq_true ?_
      cases i with
      | zero =>
        rw [zG_get (by omega)] at hp3
        exact hp3
      | succ i =>
        have := asc_lt hA (i := j) (j := j + (i + 1)) (by omega) hlt
        rw [zG_get hlt] at this
        exact cmpS_trans hp3 this
    simp [inV, this]
  · obtain ⟨p, hp, e⟩ := vz_mem hq
    obtain ⟨i, hi, rfl⟩ := List.mem_iff_getElem.1 hp
    rw [List.length_drop, List.length_take] at hi
    rw [List.getElem_drop, List.getElem_take] at e
    have hlt : plc l fr + i < l.length := by omega
    have g1 := h3 (plc l fr + i) (by omega) (by omega)
    rw [zG_get hlt, ← e] at g1
    have g2 : ¬ cmpS q.1 fr < 0 := by
      rw [e]
      have := plc_iff hA fr zG (plc l fr + i) hlt
      rw [zG_get hlt] at this
      exact fun h => by have := this.1 h; omega
    simp [inV, ltV, g1, g2]
end Go.Proofs.Yteabncomclgncaa
namespace Go.Proofs.Yteabncomclgncaa
set_option linter.unusedVariables false
set_option linter.unusedSimpArgs false
open Go.RowKit
set_option maxRecDepth 100000
set_option maxHeartbeats 8000000
section
variable {P : Program} {ops : Array Oper} {Q : Exit → Act → World → Prop} {D : Option DD} {E : Base} {n L : Nat} {τ : List (Nat × AV)} {h : List (Nat × AO)} {rest : List Oper} {H0 : List AO} {R0 : Env} {W0 : World} {FS0 fs G fr : Fam}
end
theorem lay_liveZ (s : Sl Int) (v : Int) (h : Bool) : (s.lay v h).live = h := by
  obtain ⟨c0, c1, h0, h1, rd, wr⟩ := s
  cases wr <;> rfl
theorem dz_up {l : ZL} (h : DZ l) (i : Nat) {s : Sl Int} (hs : s.live = false → s.get s.rd = 0) : DZ (zup l i s) := fun p hp hd => by
  rcases List.mem_or_eq_of_mem_set hp with hp | rfl
  · exact h p hp hd
  · exact hs hd
theorem dz_wr {l : ZL} (h : DZ l) (x : StZ) (mk : Bool) (b : Nat) : DZ (wrZ x l mk b) := by
  unfold wrZ
  split
  · unfold zdel
    split
    · cases mk with
      | true =>
        rw [if_pos rfl]
        refine dz_up h _ fun _ => ?_
        generalize slotV l x.key = s
        obtain ⟨c0, c1, h0, h1, rd, wr⟩ := s
        cases wr <;> rfl
      | false =>
        rw [if_neg (by decide)]
        exact fun p hp => h p ((del_sub l _).subset hp)
    · exact h
  · split
    · unfold zput
      split
      · exact dz_up h _ fun hd => by rw [lay_liveZ] at hd; cases hd
      · intro p hp hd
        unfold insL at hp
        rcases List.mem_append.1 hp with hp | hp
        · exact h p (List.mem_of_mem_take hp) hd
        · rcases List.mem_cons.1 hp with rfl | hp
          · have := lay_liveZ newS x.v true
            rw [this] at hd; cases hd
          · exact h p (List.mem_of_mem_drop hp) hd
    · exact h
theorem FF.nil1 {h0 : List AO} {ρ0 : Env} {w0 : World} {fs : Fam} {w : World} (h : FF h0 ρ0 w0 [] fs w) : FF h0 ρ0 w0 [] [] w := h.less (fun p hp => by cases hp) List.Pairwise.nil
end Go.Proofs.Yteabncomclgncaa
