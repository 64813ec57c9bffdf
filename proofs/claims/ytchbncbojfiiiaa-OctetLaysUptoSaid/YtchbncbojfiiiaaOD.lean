/- octet: what the statements use: two lists of bytes, what the document fixes -/
import Derived.Test.YtchbncbojfiiiaaOC
namespace Go.Proofs.Ytchbncbojfiiiaa
set_option linter.unusedVariables false
set_option linter.unusedSimpArgs false
open Go.RowKit
set_option maxRecDepth 100000
set_option maxHeartbeats 4000000
theorem getD_of {p : List UInt8} {i : Nat} (h : i < p.length) : p[i]? = some (p.getD i 0) := by simp [List.getD, h]
theorem take_step {p q : List UInt8} {i : Nat} (h : p.take i = q.take i) (hp : i < p.length) (hq : i < q.length) : p.getD i 0 = q.getD i 0 ↔ p.take (i + 1) = q.take (i + 1) := by
  rw [List.take_add_one, List.take_add_one, getD_of hp, getD_of hq, h]
  simp
theorem bytes_spec (o1 o2 : Nat) (p q : List UInt8) (c1 c2 : Nat) (hp : p.length ≤ 1000000000000) : Spec Try.prog 13 [.sl 0 1 o1 p.length c1, .sl 1 1 o2 q.length c2] [roBo o1 p, roBo o2 q] 2 (σ := Unit) (fun _ => True) (fun _ => .raw (.bool (decide (p = q)))) (fun _ => []) := by
  refine Spec.of Try.func13 rfl Try.ntmps13 rfl (by simp [AO.Bd, bytesF, AV.bds, AV.bd]) fun ρ w => ?_
  repeat (first
    | refine C.seq ?_
    | refine C.region ?_
    | refine R.nr ttok rfl (by first | exact Nrm.w (wrap_i64 (by omega) (by omega)) | exact Nrm.w (wrap_u64 (by omega) (by omega)) | exact Nrm.w (wrap_u8 (by omega) (by omega)) | exact Nrm.refl _) rfl (by kernel_rfl) ?_
    | refine R.k rfl rfl ?_
    | refine R.k0 rfl ?_
    | refine R.a ttok rfl rfl (by kernel_rfl) ?_
    | refine R.b rfl rfl rfl (by kernel_rfl) ?_
    | refine R.li ttok rfl rfl rfl rfl rfl rfl (by kernel_rfl) ?_
    | refine R.st ttok rfl rfl rfl rfl rfl rfl rfl (by kernel_rfl) ?_
    | refine R.done ?_
    | refine X.then ?_
    | refine C.block ?_
    | refine C.ret ?_
    | refine C.skip ?_
    | refine C.exit ?_
    | refine X.pass_ret ?_
    | refine X.pass_exit ?_
    | refine X.block_normal ?_
    | refine X.block_ret ?_
    | refine X.block_exit ?_
    | refine X.block_other rfl ?_
    | refine C.goto ?_
    | refine C.label ?_
    | refine X.pass_goto ?_
    | refine X.block_goto ?_
    | refine X.jump_ret ?_
    | refine X.jump_normal ?_
    | refine X.jump_exit ?_
    | refine C.tru rfl ?_
    | refine C.fls rfl ?_)
  refine C.dec rfl (fun hne => ?_) (fun he => ?_)
  · rw [decide_eq_false (fun e : p = q => hne (by rw [e]))]
    repeat (first
    | refine C.seq ?_
    | refine C.region ?_
    | refine R.nr ttok rfl (by first | exact Nrm.w (wrap_i64 (by omega) (by omega)) | exact Nrm.w (wrap_u64 (by omega) (by omega)) | exact Nrm.w (wrap_u8 (by omega) (by omega)) | exact Nrm.refl _) rfl (by kernel_rfl) ?_
    | refine R.k rfl rfl ?_
    | refine R.k0 rfl ?_
    | refine R.a ttok rfl rfl (by kernel_rfl) ?_
    | refine R.b rfl rfl rfl (by kernel_rfl) ?_
    | refine R.li ttok rfl rfl rfl rfl rfl rfl (by kernel_rfl) ?_
    | refine R.st ttok rfl rfl rfl rfl rfl rfl rfl (by kernel_rfl) ?_
    | refine R.done ?_
    | refine X.then ?_
    | refine C.block ?_
    | refine C.ret ?_
    | refine C.skip ?_
    | refine C.exit ?_
    | refine X.pass_ret ?_
    | refine X.pass_exit ?_
    | refine X.block_normal ?_
    | refine X.block_ret ?_
    | refine X.block_exit ?_
    | refine X.block_other rfl ?_
    | refine C.goto ?_
    | refine C.label ?_
    | refine X.pass_goto ?_
    | refine X.block_goto ?_
    | refine X.jump_ret ?_
    | refine X.jump_normal ?_
    | refine X.jump_exit ?_
    | refine C.tru rfl ?_
    | refine C.fls rfl ?_)
    exact X.fin ttok () [] trivial rfl rfl rfl .nil _ (.inl rfl)
  have hlen : p.length = q.length := by omega
  repeat (first
    | refine C.seq ?_
    | refine C.region ?_
    | refine R.nr ttok rfl (by first | exact Nrm.w (wrap_i64 (by omega) (by omega)) | exact Nrm.w (wrap_u64 (by omega) (by omega)) | exact Nrm.w (wrap_u8 (by omega) (by omega)) | exact Nrm.refl _) rfl (by kernel_rfl) ?_
    | refine R.k rfl rfl ?_
    | refine R.k0 rfl ?_
    | refine R.a ttok rfl rfl (by kernel_rfl) ?_
    | refine R.b rfl rfl rfl (by kernel_rfl) ?_
    | refine R.li ttok rfl rfl rfl rfl rfl rfl (by kernel_rfl) ?_
    | refine R.st ttok rfl rfl rfl rfl rfl rfl rfl (by kernel_rfl) ?_
    | refine R.done ?_
    | refine X.then ?_
    | refine C.block ?_
    | refine C.ret ?_
    | refine C.skip ?_
    | refine C.exit ?_
    | refine X.pass_ret ?_
    | refine X.pass_exit ?_
    | refine X.block_normal ?_
    | refine X.block_ret ?_
    | refine X.block_exit ?_
    | refine X.block_other rfl ?_
    | refine C.goto ?_
    | refine C.label ?_
    | refine X.pass_goto ?_
    | refine X.block_goto ?_
    | refine X.jump_ret ?_
    | refine X.jump_normal ?_
    | refine X.jump_exit ?_
    | refine C.tru rfl ?_
    | refine C.fls rfl ?_)
  refine C.loop (σ := Nat) (L2 := 2) (fun i => i ≤ p.length ∧ p.take i = q.take i) (fun i => [(0, .sl 0 1 o1 p.length c1), (1, .sl 1 1 o2 q.length c2), (5, .raw (.int .i64 i))]) (fun i => [(0, roBo o1 p), (1, roBo o2 q)]) _ (fun i => p.length - i) [] 0 ⟨Nat.zero_le _, rfl⟩ rfl ?_ ?_ rfl (fun _ h => h) ?_
  · exact .cons rfl rfl rfl (.cons rfl rfl rfl (.cons rfl rfl rfl .nil))
  · exact .same rfl rfl rfl (fun _ _ => rfl) (.same rfl rfl rfl (fun _ _ => rfl) .nil)
  rintro i ⟨hi, ht⟩
  repeat (first
    | refine C.seq ?_
    | refine C.region ?_
    | refine R.nr ttok rfl (by first | exact Nrm.w (wrap_i64 (by omega) (by omega)) | exact Nrm.w (wrap_u64 (by omega) (by omega)) | exact Nrm.w (wrap_u8 (by omega) (by omega)) | exact Nrm.refl _) rfl (by kernel_rfl) ?_
    | refine R.k rfl rfl ?_
    | refine R.k0 rfl ?_
    | refine R.a ttok rfl rfl (by kernel_rfl) ?_
    | refine R.b rfl rfl rfl (by kernel_rfl) ?_
    | refine R.li ttok rfl rfl rfl rfl rfl rfl (by kernel_rfl) ?_
    | refine R.st ttok rfl rfl rfl rfl rfl rfl rfl (by kernel_rfl) ?_
    | refine R.done ?_
    | refine X.then ?_
    | refine C.block ?_
    | refine C.ret ?_
    | refine C.skip ?_
    | refine C.exit ?_
    | refine X.pass_ret ?_
    | refine X.pass_exit ?_
    | refine X.block_normal ?_
    | refine X.block_ret ?_
    | refine X.block_exit ?_
    | refine X.block_other rfl ?_
    | refine C.goto ?_
    | refine C.label ?_
    | refine X.pass_goto ?_
    | refine X.block_goto ?_
    | refine X.jump_ret ?_
    | refine X.jump_normal ?_
    | refine X.jump_exit ?_
    | refine C.tru rfl ?_
    | refine C.fls rfl ?_)
  refine C.dec rfl (fun hlt => ?_) (fun hge => ?_)
  · have hlt : i < p.length := by omega
    have hst := take_step ht hlt (by omega)
    repeat (first
    | refine C.seq ?_
    | refine C.region ?_
    | refine R.nr ttok rfl (by first | exact Nrm.w (wrap_i64 (by omega) (by omega)) | exact Nrm.w (wrap_u64 (by omega) (by omega)) | exact Nrm.w (wrap_u8 (by omega) (by omega)) | exact Nrm.refl _) rfl (by kernel_rfl) ?_
    | refine R.k rfl rfl ?_
    | refine R.k0 rfl ?_
    | refine R.a ttok rfl rfl (by kernel_rfl) ?_
    | refine R.b rfl rfl rfl (by kernel_rfl) ?_
    | refine R.li ttok rfl rfl rfl rfl rfl rfl (by kernel_rfl) ?_
    | refine R.st ttok rfl rfl rfl rfl rfl rfl rfl (by kernel_rfl) ?_
    | refine R.done ?_
    | refine X.then ?_
    | refine C.block ?_
    | refine C.ret ?_
    | refine C.skip ?_
    | refine C.exit ?_
    | refine X.pass_ret ?_
    | refine X.pass_exit ?_
    | refine X.block_normal ?_
    | refine X.block_ret ?_
    | refine X.block_exit ?_
    | refine X.block_other rfl ?_
    | refine C.goto ?_
    | refine C.label ?_
    | refine X.pass_goto ?_
    | refine X.block_goto ?_
    | refine X.jump_ret ?_
    | refine X.jump_normal ?_
    | refine X.jump_exit ?_
    | refine C.tru rfl ?_
    | refine C.fls rfl ?_)
    refine C.draw [[], [], [0, 1], [0, 1, 2], [], [], [4, 5], [4, 5, 6], [0, 1, 2, 3, 4, 5, 6, 7]] [] (by kernel_rfl) (by kernel_rfl) ?_
    repeat (first
    | refine C.seq ?_
    | refine C.region ?_
    | refine R.nr ttok rfl (by first | exact Nrm.w (wrap_i64 (by omega) (by omega)) | exact Nrm.w (wrap_u64 (by omega) (by omega)) | exact Nrm.w (wrap_u8 (by omega) (by omega)) | exact Nrm.refl _) rfl (by kernel_rfl) ?_
    | refine R.k rfl rfl ?_
    | refine R.k0 rfl ?_
    | refine R.a ttok rfl rfl (by kernel_rfl) ?_
    | refine R.b rfl rfl rfl (by kernel_rfl) ?_
    | refine R.li ttok rfl rfl rfl rfl rfl rfl (by kernel_rfl) ?_
    | refine R.st ttok rfl rfl rfl rfl rfl rfl rfl (by kernel_rfl) ?_
    | refine R.done ?_
    | refine X.then ?_
    | refine C.block ?_
    | refine C.ret ?_
    | refine C.skip ?_
    | refine C.exit ?_
    | refine X.pass_ret ?_
    | refine X.pass_exit ?_
    | refine X.block_normal ?_
    | refine X.block_ret ?_
    | refine X.block_exit ?_
    | refine X.block_other rfl ?_
    | refine C.goto ?_
    | refine C.label ?_
    | refine X.pass_goto ?_
    | refine X.block_goto ?_
    | refine X.jump_ret ?_
    | refine X.jump_normal ?_
    | refine X.jump_exit ?_
    | refine C.tru rfl ?_
    | refine C.fls rfl ?_)
    refine R.ix ttok i rfl rfl rfl rfl rfl rfl rfl hlt (⟨by omega, by omega⟩ : o1 ≤ o1 + i ∧ o1 + i < o1 + p.length) rfl ?_
    refine R.ldo ttok rfl rfl rfl rfl rfl rfl hlt ?_
    repeat (first
    | refine C.seq ?_
    | refine C.region ?_
    | refine R.nr ttok rfl (by first | exact Nrm.w (wrap_i64 (by omega) (by omega)) | exact Nrm.w (wrap_u64 (by omega) (by omega)) | exact Nrm.w (wrap_u8 (by omega) (by omega)) | exact Nrm.refl _) rfl (by kernel_rfl) ?_
    | refine R.k rfl rfl ?_
    | refine R.k0 rfl ?_
    | refine R.a ttok rfl rfl (by kernel_rfl) ?_
    | refine R.b rfl rfl rfl (by kernel_rfl) ?_
    | refine R.li ttok rfl rfl rfl rfl rfl rfl (by kernel_rfl) ?_
    | refine R.st ttok rfl rfl rfl rfl rfl rfl rfl (by kernel_rfl) ?_
    | refine R.done ?_
    | refine X.then ?_
    | refine C.block ?_
    | refine C.ret ?_
    | refine C.skip ?_
    | refine C.exit ?_
    | refine X.pass_ret ?_
    | refine X.pass_exit ?_
    | refine X.block_normal ?_
    | refine X.block_ret ?_
    | refine X.block_exit ?_
    | refine X.block_other rfl ?_
    | refine C.goto ?_
    | refine C.label ?_
    | refine X.pass_goto ?_
    | refine X.block_goto ?_
    | refine X.jump_ret ?_
    | refine X.jump_normal ?_
    | refine X.jump_exit ?_
    | refine C.tru rfl ?_
    | refine C.fls rfl ?_)
    refine R.ix ttok i rfl rfl rfl rfl rfl rfl rfl (by omega) (⟨by omega, by omega⟩ : o2 ≤ o2 + i ∧ o2 + i < o2 + q.length) rfl ?_
    refine R.ldo ttok rfl rfl rfl rfl rfl rfl (by omega) ?_
    obtain ⟨a, ha⟩ : ∃ a, p.getD i 0 = a := ⟨_, rfl⟩
    obtain ⟨b, hb⟩ : ∃ b, q.getD i 0 = b := ⟨_, rfl⟩
    rw [ha, hb] at hst ⊢
    repeat (first
    | refine C.seq ?_
    | refine C.region ?_
    | refine R.nr ttok rfl (by first | exact Nrm.w (wrap_i64 (by omega) (by omega)) | exact Nrm.w (wrap_u64 (by omega) (by omega)) | exact Nrm.w (wrap_u8 (by omega) (by omega)) | exact Nrm.refl _) rfl (by kernel_rfl) ?_
    | refine R.k rfl rfl ?_
    | refine R.k0 rfl ?_
    | refine R.a ttok rfl rfl (by kernel_rfl) ?_
    | refine R.b rfl rfl rfl (by kernel_rfl) ?_
    | refine R.li ttok rfl rfl rfl rfl rfl rfl (by kernel_rfl) ?_
    | refine R.st ttok rfl rfl rfl rfl rfl rfl rfl (by kernel_rfl) ?_
    | refine R.done ?_
    | refine X.then ?_
    | refine C.block ?_
    | refine C.ret ?_
    | refine C.skip ?_
    | refine C.exit ?_
    | refine X.pass_ret ?_
    | refine X.pass_exit ?_
    | refine X.block_normal ?_
    | refine X.block_ret ?_
    | refine X.block_exit ?_
    | refine X.block_other rfl ?_
    | refine C.goto ?_
    | refine C.label ?_
    | refine X.pass_goto ?_
    | refine X.block_goto ?_
    | refine X.jump_ret ?_
    | refine X.jump_normal ?_
    | refine X.jump_exit ?_
    | refine C.tru rfl ?_
    | refine C.fls rfl ?_)
    refine C.dec (p := (a.toNat : Int) ≠ (b.toNat : Int)) rfl (fun hx => ?_) (fun hx => ?_)
    · rw [decide_eq_false (fun e : p = q => hx (by rw [hst.2 (by rw [e])]))]
      repeat (first
    | refine C.seq ?_
    | refine C.region ?_
    | refine R.nr ttok rfl (by first | exact Nrm.w (wrap_i64 (by omega) (by omega)) | exact Nrm.w (wrap_u64 (by omega) (by omega)) | exact Nrm.w (wrap_u8 (by omega) (by omega)) | exact Nrm.refl _) rfl (by kernel_rfl) ?_
    | refine R.k rfl rfl ?_
    | refine R.k0 rfl ?_
    | refine R.a ttok rfl rfl (by kernel_rfl) ?_
    | refine R.b rfl rfl rfl (by kernel_rfl) ?_
    | refine R.li ttok rfl rfl rfl rfl rfl rfl (by kernel_rfl) ?_
    | refine R.st ttok rfl rfl rfl rfl rfl rfl rfl (by kernel_rfl) ?_
    | refine R.done ?_
    | refine X.then ?_
    | refine C.block ?_
    | refine C.ret ?_
    | refine C.skip ?_
    | refine C.exit ?_
    | refine X.pass_ret ?_
    | refine X.pass_exit ?_
    | refine X.block_normal ?_
    | refine X.block_ret ?_
    | refine X.block_exit ?_
    | refine X.block_other rfl ?_
    | refine C.goto ?_
    | refine C.label ?_
    | refine X.pass_goto ?_
    | refine X.block_goto ?_
    | refine X.jump_ret ?_
    | refine X.jump_normal ?_
    | refine X.jump_exit ?_
    | refine C.tru rfl ?_
    | refine C.fls rfl ?_)
      exact X.fin ttok () [] trivial rfl rfl rfl .nil _ (.inl rfl)
    · have hab : a = b := by
        have : a.toNat = b.toNat := by omega
        exact UInt8.toNat_inj.1 this
      repeat (first
    | refine C.seq ?_
    | refine C.region ?_
    | refine R.nr ttok rfl (by first | exact Nrm.w (wrap_i64 (by omega) (by omega)) | exact Nrm.w (wrap_u64 (by omega) (by omega)) | exact Nrm.w (wrap_u8 (by omega) (by omega)) | exact Nrm.refl _) rfl (by kernel_rfl) ?_
    | refine R.k rfl rfl ?_
    | refine R.k0 rfl ?_
    | refine R.a ttok rfl rfl (by kernel_rfl) ?_
    | refine R.b rfl rfl rfl (by kernel_rfl) ?_
    | refine R.li ttok rfl rfl rfl rfl rfl rfl (by kernel_rfl) ?_
    | refine R.st ttok rfl rfl rfl rfl rfl rfl rfl (by kernel_rfl) ?_
    | refine R.done ?_
    | refine X.then ?_
    | refine C.block ?_
    | refine C.ret ?_
    | refine C.skip ?_
    | refine C.exit ?_
    | refine X.pass_ret ?_
    | refine X.pass_exit ?_
    | refine X.block_normal ?_
    | refine X.block_ret ?_
    | refine X.block_exit ?_
    | refine X.block_other rfl ?_
    | refine C.goto ?_
    | refine C.label ?_
    | refine X.pass_goto ?_
    | refine X.block_goto ?_
    | refine X.jump_ret ?_
    | refine X.jump_normal ?_
    | refine X.jump_exit ?_
    | refine C.tru rfl ?_
    | refine C.fls rfl ?_)
      refine X.back [] (i + 1) ⟨hlt, hst.1 hab⟩ (by show p.length - (i + 1) < p.length - i; omega) rfl ?_ ?_ rfl (fun _ h => h)
      · exact .cons rfl rfl rfl (.cons rfl rfl rfl (.cons rfl rfl rfl .nil))
      · exact .same rfl rfl rfl (fun _ _ => rfl) (.same rfl rfl rfl (fun _ _ => rfl) .nil)
  · have : i = p.length := by omega
    rw [decide_eq_true (show p = q by rw [this, List.take_length, hlen, List.take_length] at ht; exact ht)]
    repeat (first
    | refine C.seq ?_
    | refine C.region ?_
    | refine R.nr ttok rfl (by first | exact Nrm.w (wrap_i64 (by omega) (by omega)) | exact Nrm.w (wrap_u64 (by omega) (by omega)) | exact Nrm.w (wrap_u8 (by omega) (by omega)) | exact Nrm.refl _) rfl (by kernel_rfl) ?_
    | refine R.k rfl rfl ?_
    | refine R.k0 rfl ?_
    | refine R.a ttok rfl rfl (by kernel_rfl) ?_
    | refine R.b rfl rfl rfl (by kernel_rfl) ?_
    | refine R.li ttok rfl rfl rfl rfl rfl rfl (by kernel_rfl) ?_
    | refine R.st ttok rfl rfl rfl rfl rfl rfl rfl (by kernel_rfl) ?_
    | refine R.done ?_
    | refine X.then ?_
    | refine C.block ?_
    | refine C.ret ?_
    | refine C.skip ?_
    | refine C.exit ?_
    | refine X.pass_ret ?_
    | refine X.pass_exit ?_
    | refine X.block_normal ?_
    | refine X.block_ret ?_
    | refine X.block_exit ?_
    | refine X.block_other rfl ?_
    | refine C.goto ?_
    | refine C.label ?_
    | refine X.pass_goto ?_
    | refine X.block_goto ?_
    | refine X.jump_ret ?_
    | refine X.jump_normal ?_
    | refine X.jump_exit ?_
    | refine C.tru rfl ?_
    | refine C.fls rfl ?_)
    exact X.fin ttok () [] trivial rfl rfl rfl .nil _ (.inl rfl)
def keel : ByteArray := ⟨#[107, 101, 101, 108]⟩
def wantB : List UInt8 := [172, 2, 1, 4, 107, 101, 101, 108, 2, 1, 7]
theorem k1 : numP [] 0 300 = [172, 2] ∧ numE 0 300 = 0 := by
  refine ⟨?_, rfl⟩
  rw [show (300 : Int) = ((300 : Nat) : Int) by rfl, numP_nat, layF_ok, sevN_ge (by omega), sevN_lt (by omega)]
  rfl
theorem k2 : layF [172, 2] 0 (sevN (zigN (-1))) = [172, 2, 1] := by
  rw [layF_ok, show zigN (-1) = 1 by decide, sevN_lt (by omega)]
  rfl
theorem k3 : textP [172, 2, 1] 0 keel = [172, 2, 1, 4, 107, 101, 101, 108] := by
  unfold textP
  rw [layF_ok, show keel.size = 4 by rfl, sevN_lt (by omega)]
  rfl
theorem k4 : fixP [172, 2, 1, 4, 107, 101, 101, 108] 0 258 2 = [172, 2, 1, 4, 107, 101, 101, 108, 2, 1] ∧ fixE 0 2 = 0 := by decide
theorem k5 : layF [172, 2, 1, 4, 107, 101, 101, 108, 2, 1] 0 [7] = wantB := by decide
theorem r1 : rdRow wantB 0 0 9 127 = (300, 2, 0) := by decide
theorem r2 : rdRow wantB 2 0 10 1 = (1, 3, 0) ∧ unzig 1 = -1 := by decide
theorem r3 : rdText wantB 3 0 4 = ([107, 101, 101, 108], 8, 0) := by decide
theorem r4 : rdFixed wantB 8 0 2 = (258, 10, 0) := by decide
theorem r5 : endE wantB 10 0 = 3 := by decide
theorem r6 : rdByte wantB 10 0 = (7, 11, 0) := by decide
theorem r7 : endE wantB 11 0 = 0 := by decide
theorem r8 : rdByte wantB 11 0 = (0, 11, 2) := by decide
theorem r9 : endE wantB 11 2 = 2 := by decide
theorem k6 : numP wantB 0 (-1) = wantB ∧ numE 0 (-1) = 15 := by decide
theorem wr_none {ρ : Env} {l : Nat} {e : Int} (h : ρ l = none) : AV.concs ρ [.sl l 1 0 0 0, .raw (.int .i64 e)] = AV.concs ρ [.raw (.slice none 0 0), .raw (.int .i64 e)] := by simp [AV.concs, AV.conc, h]
theorem known_spec : Spec Try.prog 10 [] [] 0 (σ := Unit) (fun _ => True) (fun _ => .raw (.bool true)) (fun _ => []) := by
  refine Spec.of Try.func10 rfl Try.ntmps10 rfl (by simp [AO.Bd, bytesF, AV.bds, AV.bd]) fun ρ w => ?_
  repeat (first
    | refine C.seq ?_
    | refine C.region ?_
    | refine R.nr ttok rfl (by first | exact Nrm.w (wrap_i64 (by omega) (by omega)) | exact Nrm.w (wrap_u64 (by omega) (by omega)) | exact Nrm.w (wrap_u8 (by omega) (by omega)) | exact Nrm.refl _) rfl (by kernel_rfl) ?_
    | refine R.k rfl rfl ?_
    | refine R.k0 rfl ?_
    | refine R.a ttok rfl rfl (by kernel_rfl) ?_
    | refine R.b rfl rfl rfl (by kernel_rfl) ?_
    | refine R.li ttok rfl rfl rfl rfl rfl rfl (by kernel_rfl) ?_
    | refine R.st ttok rfl rfl rfl rfl rfl rfl rfl (by kernel_rfl) ?_
    | refine R.done ?_
    | refine X.then ?_
    | refine C.block ?_
    | refine C.ret ?_
    | refine C.skip ?_
    | refine C.exit ?_
    | refine X.pass_ret ?_
    | refine X.pass_exit ?_
    | refine X.block_normal ?_
    | refine X.block_ret ?_
    | refine X.block_exit ?_
    | refine X.block_other rfl ?_
    | refine C.goto ?_
    | refine C.label ?_
    | refine X.pass_goto ?_
    | refine X.block_goto ?_
    | refine X.jump_ret ?_
    | refine X.jump_normal ?_
    | refine X.jump_exit ?_
    | refine C.tru rfl ?_
    | refine C.fls rfl ?_)
  refine R.noneH 0 [.sl 1 1 0 0 0, .raw (.int .i64 0)] (.bytes [] 0 5) (none_bytes _ _) rfl rfl rfl (fun ρ h => wr_none h) ?_
  refine R.cl [0, 1] (wnumber_spec [] 0 0 300 (by omega) (by simp) (by omega)) Try.call27 (.same rfl rfl (.same rfl rfl .nil)) rfl rfl rfl (fun _ => rfl) rfl rfl fun c1 hc1 => ?_
  rw [k1.1, k1.2]
  repeat (first
    | refine C.seq ?_
    | refine C.region ?_
    | refine R.nr ttok rfl (by first | exact Nrm.w (wrap_i64 (by omega) (by omega)) | exact Nrm.w (wrap_u64 (by omega) (by omega)) | exact Nrm.w (wrap_u8 (by omega) (by omega)) | exact Nrm.refl _) rfl (by kernel_rfl) ?_
    | refine R.k rfl rfl ?_
    | refine R.k0 rfl ?_
    | refine R.a ttok rfl rfl (by kernel_rfl) ?_
    | refine R.b rfl rfl rfl (by kernel_rfl) ?_
    | refine R.li ttok rfl rfl rfl rfl rfl rfl (by kernel_rfl) ?_
    | refine R.st ttok rfl rfl rfl rfl rfl rfl rfl (by kernel_rfl) ?_
    | refine R.done ?_
    | refine X.then ?_
    | refine C.block ?_
    | refine C.ret ?_
    | refine C.skip ?_
    | refine C.exit ?_
    | refine X.pass_ret ?_
    | refine X.pass_exit ?_
    | refine X.block_normal ?_
    | refine X.block_ret ?_
    | refine X.block_exit ?_
    | refine X.block_other rfl ?_
    | refine C.goto ?_
    | refine C.label ?_
    | refine X.pass_goto ?_
    | refine X.block_goto ?_
    | refine X.jump_ret ?_
    | refine X.jump_normal ?_
    | refine X.jump_exit ?_
    | refine C.tru rfl ?_
    | refine C.fls rfl ?_)
  refine R.cl [0, 2] (wint_spec [172, 2] c1 0 (-1) hc1 (by simp) (by omega) (by omega)) Try.call28 (.same rfl rfl (.same rfl rfl .nil)) rfl rfl rfl (fun _ => rfl) rfl rfl fun c2 hc2 => ?_
  rw [k2]
  repeat (first
    | refine C.seq ?_
    | refine C.region ?_
    | refine R.nr ttok rfl (by first | exact Nrm.w (wrap_i64 (by omega) (by omega)) | exact Nrm.w (wrap_u64 (by omega) (by omega)) | exact Nrm.w (wrap_u8 (by omega) (by omega)) | exact Nrm.refl _) rfl (by kernel_rfl) ?_
    | refine R.k rfl rfl ?_
    | refine R.k0 rfl ?_
    | refine R.a ttok rfl rfl (by kernel_rfl) ?_
    | refine R.b rfl rfl rfl (by kernel_rfl) ?_
    | refine R.li ttok rfl rfl rfl rfl rfl rfl (by kernel_rfl) ?_
    | refine R.st ttok rfl rfl rfl rfl rfl rfl rfl (by kernel_rfl) ?_
    | refine R.done ?_
    | refine X.then ?_
    | refine C.block ?_
    | refine C.ret ?_
    | refine C.skip ?_
    | refine C.exit ?_
    | refine X.pass_ret ?_
    | refine X.pass_exit ?_
    | refine X.block_normal ?_
    | refine X.block_ret ?_
    | refine X.block_exit ?_
    | refine X.block_other rfl ?_
    | refine C.goto ?_
    | refine C.label ?_
    | refine X.pass_goto ?_
    | refine X.block_goto ?_
    | refine X.jump_ret ?_
    | refine X.jump_normal ?_
    | refine X.jump_exit ?_
    | refine C.tru rfl ?_
    | refine C.fls rfl ?_)
  refine R.cl [0, 3] (wtext_spec [172, 2, 1] c2 0 keel hc2 (by simp) (by decide)) Try.call29 (.same rfl rfl (.same rfl rfl .nil)) rfl rfl rfl (fun _ => rfl) rfl rfl fun c3 hc3 => ?_
  rw [k3]
  repeat (first
    | refine C.seq ?_
    | refine C.region ?_
    | refine R.nr ttok rfl (by first | exact Nrm.w (wrap_i64 (by omega) (by omega)) | exact Nrm.w (wrap_u64 (by omega) (by omega)) | exact Nrm.w (wrap_u8 (by omega) (by omega)) | exact Nrm.refl _) rfl (by kernel_rfl) ?_
    | refine R.k rfl rfl ?_
    | refine R.k0 rfl ?_
    | refine R.a ttok rfl rfl (by kernel_rfl) ?_
    | refine R.b rfl rfl rfl (by kernel_rfl) ?_
    | refine R.li ttok rfl rfl rfl rfl rfl rfl (by kernel_rfl) ?_
    | refine R.st ttok rfl rfl rfl rfl rfl rfl rfl (by kernel_rfl) ?_
    | refine R.done ?_
    | refine X.then ?_
    | refine C.block ?_
    | refine C.ret ?_
    | refine C.skip ?_
    | refine C.exit ?_
    | refine X.pass_ret ?_
    | refine X.pass_exit ?_
    | refine X.block_normal ?_
    | refine X.block_ret ?_
    | refine X.block_exit ?_
    | refine X.block_other rfl ?_
    | refine C.goto ?_
    | refine C.label ?_
    | refine X.pass_goto ?_
    | refine X.block_goto ?_
    | refine X.jump_ret ?_
    | refine X.jump_normal ?_
    | refine X.jump_exit ?_
    | refine C.tru rfl ?_
    | refine C.fls rfl ?_)
  refine R.cl [0, 4] (wfixed_spec [172, 2, 1, 4, 107, 101, 101, 108] c3 0 258 2 hc3 (by simp) (by omega)) Try.call30 (.same rfl rfl (.same rfl rfl .nil)) rfl rfl rfl (fun _ => rfl) rfl rfl fun c4 hc4 => ?_
  rw [k4.1, k4.2]
  repeat (first
    | refine C.seq ?_
    | refine C.region ?_
    | refine R.nr ttok rfl (by first | exact Nrm.w (wrap_i64 (by omega) (by omega)) | exact Nrm.w (wrap_u64 (by omega) (by omega)) | exact Nrm.w (wrap_u8 (by omega) (by omega)) | exact Nrm.refl _) rfl (by kernel_rfl) ?_
    | refine R.k rfl rfl ?_
    | refine R.k0 rfl ?_
    | refine R.a ttok rfl rfl (by kernel_rfl) ?_
    | refine R.b rfl rfl rfl (by kernel_rfl) ?_
    | refine R.li ttok rfl rfl rfl rfl rfl rfl (by kernel_rfl) ?_
    | refine R.st ttok rfl rfl rfl rfl rfl rfl rfl (by kernel_rfl) ?_
    | refine R.done ?_
    | refine X.then ?_
    | refine C.block ?_
    | refine C.ret ?_
    | refine C.skip ?_
    | refine C.exit ?_
    | refine X.pass_ret ?_
    | refine X.pass_exit ?_
    | refine X.block_normal ?_
    | refine X.block_ret ?_
    | refine X.block_exit ?_
    | refine X.block_other rfl ?_
    | refine C.goto ?_
    | refine C.label ?_
    | refine X.pass_goto ?_
    | refine X.block_goto ?_
    | refine X.jump_ret ?_
    | refine X.jump_normal ?_
    | refine X.jump_exit ?_
    | refine C.tru rfl ?_
    | refine C.fls rfl ?_)
  refine R.cl [0, 5] (wbyte_spec [172, 2, 1, 4, 107, 101, 101, 108, 2, 1] c4 0 7 hc4 (by simp)) Try.call31 (.same rfl rfl (.same rfl rfl .nil)) rfl rfl rfl (fun _ => rfl) rfl rfl fun c5 hc5 => ?_
  rw [k5]
  repeat (first
    | refine C.seq ?_
    | refine C.region ?_
    | refine R.nr ttok rfl (by first | exact Nrm.w (wrap_i64 (by omega) (by omega)) | exact Nrm.w (wrap_u64 (by omega) (by omega)) | exact Nrm.w (wrap_u8 (by omega) (by omega)) | exact Nrm.refl _) rfl (by kernel_rfl) ?_
    | refine R.k rfl rfl ?_
    | refine R.k0 rfl ?_
    | refine R.a ttok rfl rfl (by kernel_rfl) ?_
    | refine R.b rfl rfl rfl (by kernel_rfl) ?_
    | refine R.li ttok rfl rfl rfl rfl rfl rfl (by kernel_rfl) ?_
    | refine R.st ttok rfl rfl rfl rfl rfl rfl rfl (by kernel_rfl) ?_
    | refine R.done ?_
    | refine X.then ?_
    | refine C.block ?_
    | refine C.ret ?_
    | refine C.skip ?_
    | refine C.exit ?_
    | refine X.pass_ret ?_
    | refine X.pass_exit ?_
    | refine X.block_normal ?_
    | refine X.block_ret ?_
    | refine X.block_exit ?_
    | refine X.block_other rfl ?_
    | refine C.goto ?_
    | refine C.label ?_
    | refine X.pass_goto ?_
    | refine X.block_goto ?_
    | refine X.jump_ret ?_
    | refine X.jump_normal ?_
    | refine X.jump_exit ?_
    | refine C.tru rfl ?_
    | refine C.fls rfl ?_)
  refine R.cl [7] (read_spec 0 wantB 11 (by decide)) Try.call16 (.cro rfl rfl .nil) rfl rfl rfl (fun _ => rfl) rfl rfl fun _ _ => ?_
  repeat (first
    | refine C.seq ?_
    | refine C.region ?_
    | refine R.nr ttok rfl (by first | exact Nrm.w (wrap_i64 (by omega) (by omega)) | exact Nrm.w (wrap_u64 (by omega) (by omega)) | exact Nrm.w (wrap_u8 (by omega) (by omega)) | exact Nrm.refl _) rfl (by kernel_rfl) ?_
    | refine R.k rfl rfl ?_
    | refine R.k0 rfl ?_
    | refine R.a ttok rfl rfl (by kernel_rfl) ?_
    | refine R.b rfl rfl rfl (by kernel_rfl) ?_
    | refine R.li ttok rfl rfl rfl rfl rfl rfl (by kernel_rfl) ?_
    | refine R.st ttok rfl rfl rfl rfl rfl rfl rfl (by kernel_rfl) ?_
    | refine R.done ?_
    | refine X.then ?_
    | refine C.block ?_
    | refine C.ret ?_
    | refine C.skip ?_
    | refine C.exit ?_
    | refine X.pass_ret ?_
    | refine X.pass_exit ?_
    | refine X.block_normal ?_
    | refine X.block_ret ?_
    | refine X.block_exit ?_
    | refine X.block_other rfl ?_
    | refine C.goto ?_
    | refine C.label ?_
    | refine X.pass_goto ?_
    | refine X.block_goto ?_
    | refine X.jump_ret ?_
    | refine X.jump_normal ?_
    | refine X.jump_exit ?_
    | refine C.tru rfl ?_
    | refine C.fls rfl ?_)
  refine R.cl [0, 6] (wdata_spec wantB c5 0 hc5 (by decide)) Try.call14 (.same rfl rfl (.same rfl rfl .nil)) rfl rfl rfl (fun _ => rfl) rfl rfl fun c6 hc6 => ?_
  repeat (first
    | refine C.seq ?_
    | refine C.region ?_
    | refine R.nr ttok rfl (by first | exact Nrm.w (wrap_i64 (by omega) (by omega)) | exact Nrm.w (wrap_u64 (by omega) (by omega)) | exact Nrm.w (wrap_u8 (by omega) (by omega)) | exact Nrm.refl _) rfl (by kernel_rfl) ?_
    | refine R.k rfl rfl ?_
    | refine R.k0 rfl ?_
    | refine R.a ttok rfl rfl (by kernel_rfl) ?_
    | refine R.b rfl rfl rfl (by kernel_rfl) ?_
    | refine R.li ttok rfl rfl rfl rfl rfl rfl (by kernel_rfl) ?_
    | refine R.st ttok rfl rfl rfl rfl rfl rfl rfl (by kernel_rfl) ?_
    | refine R.done ?_
    | refine X.then ?_
    | refine C.block ?_
    | refine C.ret ?_
    | refine C.skip ?_
    | refine C.exit ?_
    | refine X.pass_ret ?_
    | refine X.pass_exit ?_
    | refine X.block_normal ?_
    | refine X.block_ret ?_
    | refine X.block_exit ?_
    | refine X.block_other rfl ?_
    | refine C.goto ?_
    | refine C.label ?_
    | refine X.pass_goto ?_
    | refine X.block_goto ?_
    | refine X.jump_ret ?_
    | refine X.jump_normal ?_
    | refine X.jump_exit ?_
    | refine C.tru rfl ?_
    | refine C.fls rfl ?_)
  refine R.cl [10, 7] (bytes_spec 0 0 wantB wantB c6 11 (by decide)) Try.call13 (.bro rfl (.cro rfl rfl .nil)) rfl rfl rfl (fun _ => rfl) rfl rfl fun _ _ => ?_
  rw [decide_eq_true (rfl : wantB = wantB)]
  repeat (first
    | refine C.seq ?_
    | refine C.region ?_
    | refine R.nr ttok rfl (by first | exact Nrm.w (wrap_i64 (by omega) (by omega)) | exact Nrm.w (wrap_u64 (by omega) (by omega)) | exact Nrm.w (wrap_u8 (by omega) (by omega)) | exact Nrm.refl _) rfl (by kernel_rfl) ?_
    | refine R.k rfl rfl ?_
    | refine R.k0 rfl ?_
    | refine R.a ttok rfl rfl (by kernel_rfl) ?_
    | refine R.b rfl rfl rfl (by kernel_rfl) ?_
    | refine R.li ttok rfl rfl rfl rfl rfl rfl (by kernel_rfl) ?_
    | refine R.st ttok rfl rfl rfl rfl rfl rfl rfl (by kernel_rfl) ?_
    | refine R.done ?_
    | refine X.then ?_
    | refine C.block ?_
    | refine C.ret ?_
    | refine C.skip ?_
    | refine C.exit ?_
    | refine X.pass_ret ?_
    | refine X.pass_exit ?_
    | refine X.block_normal ?_
    | refine X.block_ret ?_
    | refine X.block_exit ?_
    | refine X.block_other rfl ?_
    | refine C.goto ?_
    | refine C.label ?_
    | refine X.pass_goto ?_
    | refine X.block_goto ?_
    | refine X.jump_ret ?_
    | refine X.jump_normal ?_
    | refine X.jump_exit ?_
    | refine C.tru rfl ?_
    | refine C.fls rfl ?_)
  refine R.cl [0, 6] (werr_spec wantB c5 0) Try.call15 (.same rfl rfl (.same rfl rfl .nil)) rfl rfl rfl (fun _ => rfl) rfl rfl fun _ _ => ?_
  repeat (first
    | refine C.seq ?_
    | refine C.region ?_
    | refine R.nr ttok rfl (by first | exact Nrm.w (wrap_i64 (by omega) (by omega)) | exact Nrm.w (wrap_u64 (by omega) (by omega)) | exact Nrm.w (wrap_u8 (by omega) (by omega)) | exact Nrm.refl _) rfl (by kernel_rfl) ?_
    | refine R.k rfl rfl ?_
    | refine R.k0 rfl ?_
    | refine R.a ttok rfl rfl (by kernel_rfl) ?_
    | refine R.b rfl rfl rfl (by kernel_rfl) ?_
    | refine R.li ttok rfl rfl rfl rfl rfl rfl (by kernel_rfl) ?_
    | refine R.st ttok rfl rfl rfl rfl rfl rfl rfl (by kernel_rfl) ?_
    | refine R.done ?_
    | refine X.then ?_
    | refine C.block ?_
    | refine C.ret ?_
    | refine C.skip ?_
    | refine C.exit ?_
    | refine X.pass_ret ?_
    | refine X.pass_exit ?_
    | refine X.block_normal ?_
    | refine X.block_ret ?_
    | refine X.block_exit ?_
    | refine X.block_other rfl ?_
    | refine C.goto ?_
    | refine C.label ?_
    | refine X.pass_goto ?_
    | refine X.block_goto ?_
    | refine X.jump_ret ?_
    | refine X.jump_normal ?_
    | refine X.jump_exit ?_
    | refine C.tru rfl ?_
    | refine C.fls rfl ?_)
  refine R.cl [8, 9] (left_spec wantB 11 0 0 (by decide) (by decide)) Try.call26 (.same rfl rfl (.bro rfl .nil)) rfl rfl rfl (fun _ => rfl) rfl rfl fun _ _ => ?_
  repeat (first
    | refine C.seq ?_
    | refine C.region ?_
    | refine R.nr ttok rfl (by first | exact Nrm.w (wrap_i64 (by omega) (by omega)) | exact Nrm.w (wrap_u64 (by omega) (by omega)) | exact Nrm.w (wrap_u8 (by omega) (by omega)) | exact Nrm.refl _) rfl (by kernel_rfl) ?_
    | refine R.k rfl rfl ?_
    | refine R.k0 rfl ?_
    | refine R.a ttok rfl rfl (by kernel_rfl) ?_
    | refine R.b rfl rfl rfl (by kernel_rfl) ?_
    | refine R.li ttok rfl rfl rfl rfl rfl rfl (by kernel_rfl) ?_
    | refine R.st ttok rfl rfl rfl rfl rfl rfl rfl (by kernel_rfl) ?_
    | refine R.done ?_
    | refine X.then ?_
    | refine C.block ?_
    | refine C.ret ?_
    | refine C.skip ?_
    | refine C.exit ?_
    | refine X.pass_ret ?_
    | refine X.pass_exit ?_
    | refine X.block_normal ?_
    | refine X.block_ret ?_
    | refine X.block_exit ?_
    | refine X.block_other rfl ?_
    | refine C.goto ?_
    | refine C.label ?_
    | refine X.pass_goto ?_
    | refine X.block_goto ?_
    | refine X.jump_ret ?_
    | refine X.jump_normal ?_
    | refine X.jump_exit ?_
    | refine C.tru rfl ?_
    | refine C.fls rfl ?_)
  refine R.cl [8, 9] (rnumber_take wantB 11 0 0 (by decide) (by decide)) Try.call32 (.same rfl rfl (.bro rfl .nil)) rfl rfl rfl (fun _ => rfl) rfl rfl fun _ _ => ?_
  rw [r1]
  repeat (first
    | refine C.seq ?_
    | refine C.region ?_
    | refine R.nr ttok rfl (by first | exact Nrm.w (wrap_i64 (by omega) (by omega)) | exact Nrm.w (wrap_u64 (by omega) (by omega)) | exact Nrm.w (wrap_u8 (by omega) (by omega)) | exact Nrm.refl _) rfl (by kernel_rfl) ?_
    | refine R.k rfl rfl ?_
    | refine R.k0 rfl ?_
    | refine R.a ttok rfl rfl (by kernel_rfl) ?_
    | refine R.b rfl rfl rfl (by kernel_rfl) ?_
    | refine R.li ttok rfl rfl rfl rfl rfl rfl (by kernel_rfl) ?_
    | refine R.st ttok rfl rfl rfl rfl rfl rfl rfl (by kernel_rfl) ?_
    | refine R.done ?_
    | refine X.then ?_
    | refine C.block ?_
    | refine C.ret ?_
    | refine C.skip ?_
    | refine C.exit ?_
    | refine X.pass_ret ?_
    | refine X.pass_exit ?_
    | refine X.block_normal ?_
    | refine X.block_ret ?_
    | refine X.block_exit ?_
    | refine X.block_other rfl ?_
    | refine C.goto ?_
    | refine C.label ?_
    | refine X.pass_goto ?_
    | refine X.block_goto ?_
    | refine X.jump_ret ?_
    | refine X.jump_normal ?_
    | refine X.jump_exit ?_
    | refine C.tru rfl ?_
    | refine C.fls rfl ?_)
  refine R.cl [8, 9] (rint_take wantB 11 2 0 (by decide) (by decide)) Try.call33 (.same rfl rfl (.bro rfl .nil)) rfl rfl rfl (fun _ => rfl) rfl rfl fun _ _ => ?_
  rw [r2.1, r2.2]
  repeat (first
    | refine C.seq ?_
    | refine C.region ?_
    | refine R.nr ttok rfl (by first | exact Nrm.w (wrap_i64 (by omega) (by omega)) | exact Nrm.w (wrap_u64 (by omega) (by omega)) | exact Nrm.w (wrap_u8 (by omega) (by omega)) | exact Nrm.refl _) rfl (by kernel_rfl) ?_
    | refine R.k rfl rfl ?_
    | refine R.k0 rfl ?_
    | refine R.a ttok rfl rfl (by kernel_rfl) ?_
    | refine R.b rfl rfl rfl (by kernel_rfl) ?_
    | refine R.li ttok rfl rfl rfl rfl rfl rfl (by kernel_rfl) ?_
    | refine R.st ttok rfl rfl rfl rfl rfl rfl rfl (by kernel_rfl) ?_
    | refine R.done ?_
    | refine X.then ?_
    | refine C.block ?_
    | refine C.ret ?_
    | refine C.skip ?_
    | refine C.exit ?_
    | refine X.pass_ret ?_
    | refine X.pass_exit ?_
    | refine X.block_normal ?_
    | refine X.block_ret ?_
    | refine X.block_exit ?_
    | refine X.block_other rfl ?_
    | refine C.goto ?_
    | refine C.label ?_
    | refine X.pass_goto ?_
    | refine X.block_goto ?_
    | refine X.jump_ret ?_
    | refine X.jump_normal ?_
    | refine X.jump_exit ?_
    | refine C.tru rfl ?_
    | refine C.fls rfl ?_)
  refine R.cl [8, 9] (rtext_take wantB 11 3 0 4 (by decide) (by decide) (by decide)) Try.call34 (.same rfl rfl (.bro rfl .nil)) rfl rfl rfl (fun _ => rfl) rfl rfl fun _ _ => ?_
  rw [r3]
  refine R.v ttok (.bool false) rfl (congrArg Value.bool (decide_eq_false (fun h => h rfl))) rfl rfl ?_
  repeat (first
    | refine C.seq ?_
    | refine C.region ?_
    | refine R.nr ttok rfl (by first | exact Nrm.w (wrap_i64 (by omega) (by omega)) | exact Nrm.w (wrap_u64 (by omega) (by omega)) | exact Nrm.w (wrap_u8 (by omega) (by omega)) | exact Nrm.refl _) rfl (by kernel_rfl) ?_
    | refine R.k rfl rfl ?_
    | refine R.k0 rfl ?_
    | refine R.a ttok rfl rfl (by kernel_rfl) ?_
    | refine R.b rfl rfl rfl (by kernel_rfl) ?_
    | refine R.li ttok rfl rfl rfl rfl rfl rfl (by kernel_rfl) ?_
    | refine R.st ttok rfl rfl rfl rfl rfl rfl rfl (by kernel_rfl) ?_
    | refine R.done ?_
    | refine X.then ?_
    | refine C.block ?_
    | refine C.ret ?_
    | refine C.skip ?_
    | refine C.exit ?_
    | refine X.pass_ret ?_
    | refine X.pass_exit ?_
    | refine X.block_normal ?_
    | refine X.block_ret ?_
    | refine X.block_exit ?_
    | refine X.block_other rfl ?_
    | refine C.goto ?_
    | refine C.label ?_
    | refine X.pass_goto ?_
    | refine X.block_goto ?_
    | refine X.jump_ret ?_
    | refine X.jump_normal ?_
    | refine X.jump_exit ?_
    | refine C.tru rfl ?_
    | refine C.fls rfl ?_)
  refine R.cl [8, 9] (rfixed_take wantB 11 8 0 2 (by decide) (by decide) (by decide)) Try.call35 (.same rfl rfl (.bro rfl .nil)) rfl rfl rfl (fun _ => rfl) rfl rfl fun _ _ => ?_
  rw [r4]
  repeat (first
    | refine C.seq ?_
    | refine C.region ?_
    | refine R.nr ttok rfl (by first | exact Nrm.w (wrap_i64 (by omega) (by omega)) | exact Nrm.w (wrap_u64 (by omega) (by omega)) | exact Nrm.w (wrap_u8 (by omega) (by omega)) | exact Nrm.refl _) rfl (by kernel_rfl) ?_
    | refine R.k rfl rfl ?_
    | refine R.k0 rfl ?_
    | refine R.a ttok rfl rfl (by kernel_rfl) ?_
    | refine R.b rfl rfl rfl (by kernel_rfl) ?_
    | refine R.li ttok rfl rfl rfl rfl rfl rfl (by kernel_rfl) ?_
    | refine R.st ttok rfl rfl rfl rfl rfl rfl rfl (by kernel_rfl) ?_
    | refine R.done ?_
    | refine X.then ?_
    | refine C.block ?_
    | refine C.ret ?_
    | refine C.skip ?_
    | refine C.exit ?_
    | refine X.pass_ret ?_
    | refine X.pass_exit ?_
    | refine X.block_normal ?_
    | refine X.block_ret ?_
    | refine X.block_exit ?_
    | refine X.block_other rfl ?_
    | refine C.goto ?_
    | refine C.label ?_
    | refine X.pass_goto ?_
    | refine X.block_goto ?_
    | refine X.jump_ret ?_
    | refine X.jump_normal ?_
    | refine X.jump_exit ?_
    | refine C.tru rfl ?_
    | refine C.fls rfl ?_)
  refine R.cl [8, 9] (rend_spec wantB 11 10 0 (by decide) (by decide)) Try.call21 (.same rfl rfl (.bro rfl .nil)) rfl rfl rfl (fun _ => rfl) rfl rfl fun _ _ => ?_
  rw [r5]
  repeat (first
    | refine C.seq ?_
    | refine C.region ?_
    | refine R.nr ttok rfl (by first | exact Nrm.w (wrap_i64 (by omega) (by omega)) | exact Nrm.w (wrap_u64 (by omega) (by omega)) | exact Nrm.w (wrap_u8 (by omega) (by omega)) | exact Nrm.refl _) rfl (by kernel_rfl) ?_
    | refine R.k rfl rfl ?_
    | refine R.k0 rfl ?_
    | refine R.a ttok rfl rfl (by kernel_rfl) ?_
    | refine R.b rfl rfl rfl (by kernel_rfl) ?_
    | refine R.li ttok rfl rfl rfl rfl rfl rfl (by kernel_rfl) ?_
    | refine R.st ttok rfl rfl rfl rfl rfl rfl rfl (by kernel_rfl) ?_
    | refine R.done ?_
    | refine X.then ?_
    | refine C.block ?_
    | refine C.ret ?_
    | refine C.skip ?_
    | refine C.exit ?_
    | refine X.pass_ret ?_
    | refine X.pass_exit ?_
    | refine X.block_normal ?_
    | refine X.block_ret ?_
    | refine X.block_exit ?_
    | refine X.block_other rfl ?_
    | refine C.goto ?_
    | refine C.label ?_
    | refine X.pass_goto ?_
    | refine X.block_goto ?_
    | refine X.jump_ret ?_
    | refine X.jump_normal ?_
    | refine X.jump_exit ?_
    | refine C.tru rfl ?_
    | refine C.fls rfl ?_)
  refine R.cl [8, 9] (rbyte_take wantB 11 10 0 (by decide) (by decide)) Try.call36 (.same rfl rfl (.bro rfl .nil)) rfl rfl rfl (fun _ => rfl) rfl rfl fun _ _ => ?_
  rw [r6]
  repeat (first
    | refine C.seq ?_
    | refine C.region ?_
    | refine R.nr ttok rfl (by first | exact Nrm.w (wrap_i64 (by omega) (by omega)) | exact Nrm.w (wrap_u64 (by omega) (by omega)) | exact Nrm.w (wrap_u8 (by omega) (by omega)) | exact Nrm.refl _) rfl (by kernel_rfl) ?_
    | refine R.k rfl rfl ?_
    | refine R.k0 rfl ?_
    | refine R.a ttok rfl rfl (by kernel_rfl) ?_
    | refine R.b rfl rfl rfl (by kernel_rfl) ?_
    | refine R.li ttok rfl rfl rfl rfl rfl rfl (by kernel_rfl) ?_
    | refine R.st ttok rfl rfl rfl rfl rfl rfl rfl (by kernel_rfl) ?_
    | refine R.done ?_
    | refine X.then ?_
    | refine C.block ?_
    | refine C.ret ?_
    | refine C.skip ?_
    | refine C.exit ?_
    | refine X.pass_ret ?_
    | refine X.pass_exit ?_
    | refine X.block_normal ?_
    | refine X.block_ret ?_
    | refine X.block_exit ?_
    | refine X.block_other rfl ?_
    | refine C.goto ?_
    | refine C.label ?_
    | refine X.pass_goto ?_
    | refine X.block_goto ?_
    | refine X.jump_ret ?_
    | refine X.jump_normal ?_
    | refine X.jump_exit ?_
    | refine C.tru rfl ?_
    | refine C.fls rfl ?_)
  refine R.cl [8, 9] (rend_spec wantB 11 11 0 (by decide) (by decide)) Try.call21 (.same rfl rfl (.bro rfl .nil)) rfl rfl rfl (fun _ => rfl) rfl rfl fun _ _ => ?_
  rw [r7]
  repeat (first
    | refine C.seq ?_
    | refine C.region ?_
    | refine R.nr ttok rfl (by first | exact Nrm.w (wrap_i64 (by omega) (by omega)) | exact Nrm.w (wrap_u64 (by omega) (by omega)) | exact Nrm.w (wrap_u8 (by omega) (by omega)) | exact Nrm.refl _) rfl (by kernel_rfl) ?_
    | refine R.k rfl rfl ?_
    | refine R.k0 rfl ?_
    | refine R.a ttok rfl rfl (by kernel_rfl) ?_
    | refine R.b rfl rfl rfl (by kernel_rfl) ?_
    | refine R.li ttok rfl rfl rfl rfl rfl rfl (by kernel_rfl) ?_
    | refine R.st ttok rfl rfl rfl rfl rfl rfl rfl (by kernel_rfl) ?_
    | refine R.done ?_
    | refine X.then ?_
    | refine C.block ?_
    | refine C.ret ?_
    | refine C.skip ?_
    | refine C.exit ?_
    | refine X.pass_ret ?_
    | refine X.pass_exit ?_
    | refine X.block_normal ?_
    | refine X.block_ret ?_
    | refine X.block_exit ?_
    | refine X.block_other rfl ?_
    | refine C.goto ?_
    | refine C.label ?_
    | refine X.pass_goto ?_
    | refine X.block_goto ?_
    | refine X.jump_ret ?_
    | refine X.jump_normal ?_
    | refine X.jump_exit ?_
    | refine C.tru rfl ?_
    | refine C.fls rfl ?_)
  refine R.cl [0, 6] (wnumber_spec wantB c5 0 (-1) hc5 (by decide) (by omega)) Try.call27 (.same rfl rfl (.same rfl rfl .nil)) rfl rfl rfl (fun _ => rfl) rfl rfl fun c7 hc7 => ?_
  rw [k6.1, k6.2]
  repeat (first
    | refine C.seq ?_
    | refine C.region ?_
    | refine R.nr ttok rfl (by first | exact Nrm.w (wrap_i64 (by omega) (by omega)) | exact Nrm.w (wrap_u64 (by omega) (by omega)) | exact Nrm.w (wrap_u8 (by omega) (by omega)) | exact Nrm.refl _) rfl (by kernel_rfl) ?_
    | refine R.k rfl rfl ?_
    | refine R.k0 rfl ?_
    | refine R.a ttok rfl rfl (by kernel_rfl) ?_
    | refine R.b rfl rfl rfl (by kernel_rfl) ?_
    | refine R.li ttok rfl rfl rfl rfl rfl rfl (by kernel_rfl) ?_
    | refine R.st ttok rfl rfl rfl rfl rfl rfl rfl (by kernel_rfl) ?_
    | refine R.done ?_
    | refine X.then ?_
    | refine C.block ?_
    | refine C.ret ?_
    | refine C.skip ?_
    | refine C.exit ?_
    | refine X.pass_ret ?_
    | refine X.pass_exit ?_
    | refine X.block_normal ?_
    | refine X.block_ret ?_
    | refine X.block_exit ?_
    | refine X.block_other rfl ?_
    | refine C.goto ?_
    | refine C.label ?_
    | refine X.pass_goto ?_
    | refine X.block_goto ?_
    | refine X.jump_ret ?_
    | refine X.jump_normal ?_
    | refine X.jump_exit ?_
    | refine C.tru rfl ?_
    | refine C.fls rfl ?_)
  refine R.cl [0, 11] (werr_spec wantB c7 15) Try.call15 (.same rfl rfl (.same rfl rfl .nil)) rfl rfl rfl (fun _ => rfl) rfl rfl fun _ _ => ?_
  repeat (first
    | refine C.seq ?_
    | refine C.region ?_
    | refine R.nr ttok rfl (by first | exact Nrm.w (wrap_i64 (by omega) (by omega)) | exact Nrm.w (wrap_u64 (by omega) (by omega)) | exact Nrm.w (wrap_u8 (by omega) (by omega)) | exact Nrm.refl _) rfl (by kernel_rfl) ?_
    | refine R.k rfl rfl ?_
    | refine R.k0 rfl ?_
    | refine R.a ttok rfl rfl (by kernel_rfl) ?_
    | refine R.b rfl rfl rfl (by kernel_rfl) ?_
    | refine R.li ttok rfl rfl rfl rfl rfl rfl (by kernel_rfl) ?_
    | refine R.st ttok rfl rfl rfl rfl rfl rfl rfl (by kernel_rfl) ?_
    | refine R.done ?_
    | refine X.then ?_
    | refine C.block ?_
    | refine C.ret ?_
    | refine C.skip ?_
    | refine C.exit ?_
    | refine X.pass_ret ?_
    | refine X.pass_exit ?_
    | refine X.block_normal ?_
    | refine X.block_ret ?_
    | refine X.block_exit ?_
    | refine X.block_other rfl ?_
    | refine C.goto ?_
    | refine C.label ?_
    | refine X.pass_goto ?_
    | refine X.block_goto ?_
    | refine X.jump_ret ?_
    | refine X.jump_normal ?_
    | refine X.jump_exit ?_
    | refine C.tru rfl ?_
    | refine C.fls rfl ?_)
  refine R.cl [8, 9] (rbyte_take wantB 11 11 0 (by decide) (by decide)) Try.call36 (.same rfl rfl (.bro rfl .nil)) rfl rfl rfl (fun _ => rfl) rfl rfl fun _ _ => ?_
  rw [r8]
  repeat (first
    | refine C.seq ?_
    | refine C.region ?_
    | refine R.nr ttok rfl (by first | exact Nrm.w (wrap_i64 (by omega) (by omega)) | exact Nrm.w (wrap_u64 (by omega) (by omega)) | exact Nrm.w (wrap_u8 (by omega) (by omega)) | exact Nrm.refl _) rfl (by kernel_rfl) ?_
    | refine R.k rfl rfl ?_
    | refine R.k0 rfl ?_
    | refine R.a ttok rfl rfl (by kernel_rfl) ?_
    | refine R.b rfl rfl rfl (by kernel_rfl) ?_
    | refine R.li ttok rfl rfl rfl rfl rfl rfl (by kernel_rfl) ?_
    | refine R.st ttok rfl rfl rfl rfl rfl rfl rfl (by kernel_rfl) ?_
    | refine R.done ?_
    | refine X.then ?_
    | refine C.block ?_
    | refine C.ret ?_
    | refine C.skip ?_
    | refine C.exit ?_
    | refine X.pass_ret ?_
    | refine X.pass_exit ?_
    | refine X.block_normal ?_
    | refine X.block_ret ?_
    | refine X.block_exit ?_
    | refine X.block_other rfl ?_
    | refine C.goto ?_
    | refine C.label ?_
    | refine X.pass_goto ?_
    | refine X.block_goto ?_
    | refine X.jump_ret ?_
    | refine X.jump_normal ?_
    | refine X.jump_exit ?_
    | refine C.tru rfl ?_
    | refine C.fls rfl ?_)
  refine R.cl [8, 9] (rend_spec wantB 11 11 2 (by decide) (by decide)) Try.call21 (.same rfl rfl (.bro rfl .nil)) rfl rfl rfl (fun _ => rfl) rfl rfl fun _ _ => ?_
  rw [r9]
  repeat (first
    | refine C.seq ?_
    | refine C.region ?_
    | refine R.nr ttok rfl (by first | exact Nrm.w (wrap_i64 (by omega) (by omega)) | exact Nrm.w (wrap_u64 (by omega) (by omega)) | exact Nrm.w (wrap_u8 (by omega) (by omega)) | exact Nrm.refl _) rfl (by kernel_rfl) ?_
    | refine R.k rfl rfl ?_
    | refine R.k0 rfl ?_
    | refine R.a ttok rfl rfl (by kernel_rfl) ?_
    | refine R.b rfl rfl rfl (by kernel_rfl) ?_
    | refine R.li ttok rfl rfl rfl rfl rfl rfl (by kernel_rfl) ?_
    | refine R.st ttok rfl rfl rfl rfl rfl rfl rfl (by kernel_rfl) ?_
    | refine R.done ?_
    | refine X.then ?_
    | refine C.block ?_
    | refine C.ret ?_
    | refine C.skip ?_
    | refine C.exit ?_
    | refine X.pass_ret ?_
    | refine X.pass_exit ?_
    | refine X.block_normal ?_
    | refine X.block_ret ?_
    | refine X.block_exit ?_
    | refine X.block_other rfl ?_
    | refine C.goto ?_
    | refine C.label ?_
    | refine X.pass_goto ?_
    | refine X.block_goto ?_
    | refine X.jump_ret ?_
    | refine X.jump_normal ?_
    | refine X.jump_exit ?_
    | refine C.tru rfl ?_
    | refine C.fls rfl ?_)
  exact X.fin ttok () [] trivial rfl rfl rfl .nil _ (.inl rfl)
end Go.Proofs.Ytchbncbojfiiiaa
