/- table: Range; a Range gone through by follows -/
import Derived.Test.YtlcojlcackkhpaaTB
namespace Go.Proofs.Ytlcojlcackkhpaa
set_option linter.unusedVariables false
set_option linter.unusedSimpArgs false
open Go.RowKit
set_option maxRecDepth 100000
set_option maxHeartbeats 4000000
abbrev anyO : AO := .ro 0 0 0 (fun _ => [])
theorem cells_any {ρ : Env} {r : Option Nat} {w : World} {xs : List AV} {T : TypeId} (h : (AO.cells xs T).holds ρ r w) : (anyO).holds ρ r w := by
  obtain ⟨b, hr, hb⟩ := h
  exact .inr ⟨b, _, _, _, hr, hb, fun i c x hi => by omega⟩
theorem HasIn.any {r : Nat → Nat} {h : List (Nat × AO)} {i : Nat} {os : List AO} {xs : List AV} {T : TypeId} (h1 : hk (r i) h = some (.cells xs T)) (k : HasIn r h (i + 1) os) : HasIn r h i (anyO :: os) :=
  .other h1 (fun e => by cases e) (fun ρ x w hh => cells_any hh) k
theorem any_bd (L : Nat) : AO.Bd L anyO := fun i hi => by omega
theorem rangeI_spec (fr to : ByteArray) : Spec Try.prog 24 [.ptr 0 0 0 0, .raw (.string fr), .raw (.string to)] [anyO] 4 (σ := Unit) (fun _ => True)
    (fun _ => .fn 51 [.ptr 1 0 0 0, .ptr 2 0 0 0, .ptr 3 0 0 0]) (fun _ => [(1, .cells [.ptr 0 0 0 0] 40), (2, .cells [.raw (.string fr)] 9), (3, .cells [.raw (.string to)] 9)]) := by
  refine Spec.of Try.func24 rfl Try.ntmps24 rfl (bdl_cons (any_bd _) (bdl_nil _)) fun ρ w => ?_
  repeat (first | refine C.seq ?_ | refine C.region ?_ | refine R.zb ttok ?_ | refine R.zu ttok ?_ | refine R.zc ttok ?_ | refine R.za ttok ?_ | refine R.zx ?_ | refine R.zl ttok ?_ | refine R.zs ttok ?_ | refine R.z ttok ?_ | refine R.zk ?_ | refine R.zn ?_ | refine R.done ?_ | refine X.then ?_ | refine C.block ?_ | refine C.ret ?_ | refine C.skip ?_ | refine C.exit ?_ | refine X.pass_ret ?_ | refine X.pass_exit ?_ | refine X.block_normal ?_ | refine X.block_ret ?_ | refine X.block_exit ?_ | refine C.zt ?_ | refine C.zf ?_ | refine X.zo ?_)
  refine X.fin ttok () [] trivial rfl rfl rfl (by repeat (first | exact HasH.nil | refine HasH.same rfl rfl rfl trivial ?_ | refine HasH.same rfl rfl rfl rfl ?_ | refine HasH.same rfl rfl rfl (fun _ _ => rfl) ?_ | refine HasH.ros rfl rfl ?_)) _ (by first | exact .inl rfl | exact .inr rfl)
theorem posN_succ (l : List PI) (fr : ByteArray) (n : Nat) (k : ByteArray) : posN l fr (n + 1) k = aboveN l k := if_neg (by omega)
/-- how a Range stands in its middle -/
structure Mid (l : List PI) (K : Nat) (fr : ByteArray) (s : List PI × Nat × Nat × Nat × ByteArray) : Prop where
  duo : Duo s.1 s.2.1 s.2.2.1
  len : s.1.length ≤ l.length + min s.2.2.2.1 K
  few : s.2.2.2.1 ≤ K ∨ s.2.2.2.1 + (s.1.length - posN s.1 fr s.2.2.2.1 s.2.2.2.2) ≤ 2 * K + l.length
/-- what is left -/
def midN (l : List PI) (K : Nat) (fr : ByteArray) (s : List PI × Nat × Nat × Nat × ByteArray) : Nat := if s.2.2.2.1 ≤ K then (K + 1 - s.2.2.2.1) + (l.length + K + 1) else s.1.length - posN s.1 fr s.2.2.2.1 s.2.2.2.2
theorem Mid.next {l l1 l2 : List PI} {K : Nat} {fr last : ByteArray} {c1 c2 d1 d2 n : Nat} (h : Mid l K fr (l1, c1, c2, n, last)) (hi : posN l1 fr n last < l1.length) (hd : Duo l2 d1 d2) (h1 : l2.length ≤ l1.length + 1) (h2 : K ≤ n → l2 = l1) :
    Mid l K fr (l2, d1, d2, n + 1, (l1.getD (posN l1 fr n last) zI).1) ∧ midN l K fr (l2, d1, d2, n + 1, (l1.getD (posN l1 fr n last) zI).1) < midN l K fr (l1, c1, c2, n, last) := by
  obtain ⟨g1, g2, g3⟩ := h
  dsimp only at g1 g2 g3
  have key : K ≤ n → posN l2 fr (n + 1) (l1.getD (posN l1 fr n last) zI).1 = posN l1 fr n last + 1 := fun h => by
    rw [posN_succ, h2 h, above_at g1.asc hi]
  unfold midN
  dsimp only
  by_cases h : K ≤ n
  · have e1 := key h
    have e2 := h2 h
    subst e2
    refine ⟨⟨hd, by dsimp only; omega, ?_⟩, ?_⟩
    · dsimp only
      rw [e1]
      right
      omega
    · rw [e1, if_neg (by omega)]
      split
      · omega
      · omega
  · refine ⟨⟨hd, by dsimp only; omega, .inl (by dsimp only; omega)⟩, ?_⟩
    rw [if_pos (by omega), if_pos (by omega)]
    omega
section
variable (l : List PI) (c c' : Nat) (fr to last : ByteArray) (stop : Int) (bd : List Stp) (off cap : Nat)
theorem rangeFo_spec (hD : Duo l c c') (hl : l.length ≤ 50000) (hbd : bd.length ≤ 9223372036854775807) :
    Spec Try.prog 51 [.fn 54 [.ptr 4 0 0 0, .ptr 5 0 0 0, .ptr 6 0 0 0, .ptr 7 0 0 0, .ptr 8 0 0 0, .ptr 9 0 0 0, .ptr 10 0 0 0, .ptr 11 0 0 0, .ptr 12 0 0 0, .ptr 13 0 0 0], .ptr 15 0 0 0, .ptr 16 0 0 0, .ptr 17 0 0 0]
    [tbI 1 l.length c, tI l c, bkO 3 l.length c', tbT l c', .cells [.ptr 2 0 0 0] 46, .cells [.raw (.string fr)] 9, .cells [.raw (.int .i64 (0 : Nat))] 3, .cells [.raw (.string last)] 9, .cells [.raw (.bool false)] 4, .cells [.raw (.string to)] 9, .cells [.raw (.bool true)] 4, .cells [.sl 14 1 off bd.length cap] 39, .cells [.ptr 0 0 0 0] 40, .cells [.raw (.int .i64 stop)] 3, roS off bd, .cells [.ptr 0 0 0 0] 40, .cells [.raw (.string fr)] 9, .cells [.raw (.string to)] 9]
    20 (σ := List PI × Nat × Nat × Nat × ByteArray × Bool) (fun s => Duo s.1 s.2.1 s.2.2.1 ∧ s.1.length ≤ l.length + min bd.length 300 ∧ (s.2.2.2.2.2 = true → (s.2.2.2.1 : Int) = stop ∧ 0 < s.2.2.2.1) ∧ (s.2.2.2.2.2 = false → posN s.1 fr s.2.2.2.1 s.2.2.2.2.1 < s.1.length → past to (s.1.getD (posN s.1 fr s.2.2.2.1 s.2.2.2.2.1) zI).1 = true))
    (fun _ => .tup []) (fun s => [(0, tbI 18 s.1.length s.2.1), (18, tI s.1 s.2.1), (2, bkO 19 s.1.length s.2.2.1), (19, tbT s.1 s.2.2.1), (4, .cells [.ptr 2 0 0 0] 46), (5, .cells [.raw (.string fr)] 9), (6, .cells [.raw (.int .i64 (s.2.2.2.1 : Int))] 3), (7, .cells [.raw (.string s.2.2.2.2.1)] 9), (8, .cells [.raw (.bool s.2.2.2.2.2)] 4), (9, .cells [.raw (.string to)] 9), (10, .cells [.raw (.bool true)] 4), (11, .cells [.sl 14 1 off bd.length cap] 39), (12, .cells [.ptr 0 0 0 0] 40), (13, .cells [.raw (.int .i64 stop)] 3), (15, .cells [.ptr 0 0 0 0] 40), (16, .cells [.raw (.string fr)] 9), (17, .cells [.raw (.string to)] 9)]) := by
  refine Spec.of Try.func51 rfl Try.ntmps51 rfl (by repeat (first | exact bdl_nil _ | refine bdl_cons (fun _ _ => rfl) ?_ | refine bdl_cons trivial ?_ | refine bdl_cons rfl ?_ | refine bdl_cons (rowsF_bd _ _ _ _) ?_ | refine bdl_cons (rowsS_bd _ _ _ _) ?_)) fun ρ w => ?_
  have hp := plc_le l fr
  repeat (first | refine C.seq ?_ | refine C.region ?_ | refine R.zb ttok ?_ | refine R.zu ttok ?_ | refine R.zc ttok ?_ | refine R.za ttok ?_ | refine R.zx ?_ | refine R.zl ttok ?_ | refine R.zs ttok ?_ | refine R.z ttok ?_ | refine R.zk ?_ | refine R.zn ?_ | refine R.done ?_ | refine X.then ?_ | refine C.block ?_ | refine C.ret ?_ | refine C.skip ?_ | refine C.exit ?_ | refine X.pass_ret ?_ | refine X.pass_exit ?_ | refine X.block_normal ?_ | refine X.block_ret ?_ | refine X.block_exit ?_ | refine C.zt ?_ | refine C.zf ?_ | refine X.zo ?_)
  refine R.cl [0, 1] (findI_spec l c fr hD.asc (by omega)) Try.call52 (by repeat (first | exact HasIn.nil | refine HasIn.same rfl rfl ?_ | refine HasIn.ros rfl ?_ | refine HasIn.other rfl (fun e => by cases e) (fun ρ x w hh => tab_ro hh) ?_)) rfl rfl rfl (fun _ => rfl) rfl (by kernel_rfl) fun _ _ => ?_
  repeat (first | refine C.seq ?_ | refine C.region ?_ | refine R.zb ttok ?_ | refine R.zu ttok ?_ | refine R.zc ttok ?_ | refine R.za ttok ?_ | refine R.zx ?_ | refine R.zl ttok ?_ | refine R.zs ttok ?_ | refine R.z ttok ?_ | refine R.zk ?_ | refine R.zn ?_ | refine R.done ?_ | refine X.then ?_ | refine C.block ?_ | refine C.ret ?_ | refine C.skip ?_ | refine C.exit ?_ | refine X.pass_ret ?_ | refine X.pass_exit ?_ | refine X.block_normal ?_ | refine X.block_ret ?_ | refine X.block_exit ?_ | refine C.zt ?_ | refine C.zf ?_ | refine X.zo ?_)
  refine C.loop (σ := List PI × Nat × Nat × Nat × ByteArray) (L2 := 20) (Mid l (min bd.length 300) fr)
    (fun s => [(0, .fn 54 [.ptr 4 0 0 0, .ptr 5 0 0 0, .ptr 6 0 0 0, .ptr 7 0 0 0, .ptr 8 0 0 0, .ptr 9 0 0 0, .ptr 10 0 0 0, .ptr 11 0 0 0, .ptr 12 0 0 0, .ptr 13 0 0 0]), (1, .ptr 15 0 0 0), (2, .ptr 16 0 0 0), (3, .ptr 17 0 0 0), (5, .raw (.int .i64 (posN s.1 fr s.2.2.2.1 s.2.2.2.2)))])
    (fun s => [(0, tbI 18 s.1.length s.2.1), (18, tI s.1 s.2.1), (2, bkO 19 s.1.length s.2.2.1), (19, tbT s.1 s.2.2.1), (4, .cells [.ptr 2 0 0 0] 46), (5, .cells [.raw (.string fr)] 9), (6, .cells [.raw (.int .i64 (s.2.2.2.1 : Int))] 3), (7, .cells [.raw (.string s.2.2.2.2)] 9), (8, .cells [.raw (.bool false)] 4), (9, .cells [.raw (.string to)] 9), (10, .cells [.raw (.bool true)] 4), (11, .cells [.sl 14 1 off bd.length cap] 39), (12, .cells [.ptr 0 0 0 0] 40), (13, .cells [.raw (.int .i64 stop)] 3), (14, roS off bd), (15, .cells [.ptr 0 0 0 0] 40), (16, .cells [.raw (.string fr)] 9), (17, .cells [.raw (.string to)] 9)]) _ (midN l (min bd.length 300) fr) [(18, 1), (19, 3)] (l, c, c', 0, last) ⟨hD, by simp, .inl (Nat.zero_le _)⟩ rfl (by repeat (first | exact HasT.nil | refine HasT.cons rfl rfl rfl ?_)) (by repeat (first | exact HasH.nil | refine HasH.same rfl rfl rfl trivial ?_ | refine HasH.same rfl rfl rfl rfl ?_ | refine HasH.same rfl rfl rfl (fun _ _ => rfl) ?_ | refine HasH.ros rfl rfl ?_)) rfl (fun _ h => h) ?_
  rintro ⟨l1, c1, c2, n, last⟩ hM
  have hn : n ≤ 100000 := by
    rcases hM.few with h | h
    · dsimp only at h; omega
    · dsimp only at h; omega
  have hle := posN_le l1 fr n last
  dsimp only
  repeat (first | refine C.seq ?_ | refine C.region ?_ | refine R.zb ttok ?_ | refine R.zu ttok ?_ | refine R.zc ttok ?_ | refine R.za ttok ?_ | refine R.zx ?_ | refine R.zl ttok ?_ | refine R.zs ttok ?_ | refine R.z ttok ?_ | refine R.zk ?_ | refine R.zn ?_ | refine R.done ?_ | refine X.then ?_ | refine C.block ?_ | refine C.ret ?_ | refine C.skip ?_ | refine C.exit ?_ | refine X.pass_ret ?_ | refine X.pass_exit ?_ | refine X.block_normal ?_ | refine X.block_ret ?_ | refine X.block_exit ?_ | refine C.zt ?_ | refine C.zf ?_ | refine X.zo ?_)
  refine R.cl [0, 18] (lenI_spec l1 c1) Try.call31 (by repeat (first | exact HasIn.nil | refine HasIn.same rfl rfl ?_ | refine HasIn.ros rfl ?_ | refine HasIn.other rfl (fun e => by cases e) (fun ρ x w hh => tab_ro hh) ?_)) rfl rfl rfl (fun _ => rfl) rfl (by kernel_rfl) fun _ _ => ?_
  repeat (first | refine C.seq ?_ | refine C.region ?_ | refine R.zb ttok ?_ | refine R.zu ttok ?_ | refine R.zc ttok ?_ | refine R.za ttok ?_ | refine R.zx ?_ | refine R.zl ttok ?_ | refine R.zs ttok ?_ | refine R.z ttok ?_ | refine R.zk ?_ | refine R.zn ?_ | refine R.done ?_ | refine X.then ?_ | refine C.block ?_ | refine C.ret ?_ | refine C.skip ?_ | refine C.exit ?_ | refine X.pass_ret ?_ | refine X.pass_exit ?_ | refine X.block_normal ?_ | refine X.block_ret ?_ | refine X.block_exit ?_ | refine C.zt ?_ | refine C.zf ?_ | refine X.zo ?_)
  refine C.dec rfl (fun hi => ?_) (fun hi => ?_)
  · have hi : posN l1 fr n last < l1.length := by omega
    repeat (first | refine C.seq ?_ | refine C.region ?_ | refine R.zb ttok ?_ | refine R.zu ttok ?_ | refine R.zc ttok ?_ | refine R.za ttok ?_ | refine R.zx ?_ | refine R.zl ttok ?_ | refine R.zs ttok ?_ | refine R.z ttok ?_ | refine R.zk ?_ | refine R.zn ?_ | refine R.done ?_ | refine X.then ?_ | refine C.block ?_ | refine C.ret ?_ | refine C.skip ?_ | refine C.exit ?_ | refine X.pass_ret ?_ | refine X.pass_exit ?_ | refine X.block_normal ?_ | refine X.block_ret ?_ | refine X.block_exit ?_ | refine C.zt ?_ | refine C.zf ?_ | refine X.zo ?_)
    refine R.ix ttok (posN l1 fr n last) rfl rfl rfl rfl rfl (by kernel_rfl) rfl hi (by show _ < _; omega) rfl ?_
    repeat (first | refine C.seq ?_ | refine C.region ?_ | refine R.zb ttok ?_ | refine R.zu ttok ?_ | refine R.zc ttok ?_ | refine R.za ttok ?_ | refine R.zx ?_ | refine R.zl ttok ?_ | refine R.zs ttok ?_ | refine R.z ttok ?_ | refine R.zk ?_ | refine R.zn ?_ | refine R.done ?_ | refine X.then ?_ | refine C.block ?_ | refine C.ret ?_ | refine C.skip ?_ | refine C.exit ?_ | refine X.pass_ret ?_ | refine X.pass_exit ?_ | refine X.block_normal ?_ | refine X.block_ret ?_ | refine X.block_exit ?_ | refine C.zt ?_ | refine C.zf ?_ | refine X.zo ?_)
    refine R.ldt (v := .agg (piA (l1.getD (posN l1 fr n last) zI))) ttok rfl rfl rfl (by rw [Nat.zero_add]; rfl) rfl (by kernel_rfl) (by omega) ?_
    repeat (first | refine C.seq ?_ | refine C.region ?_ | refine R.zb ttok ?_ | refine R.zu ttok ?_ | refine R.zc ttok ?_ | refine R.za ttok ?_ | refine R.zx ?_ | refine R.zl ttok ?_ | refine R.zs ttok ?_ | refine R.z ttok ?_ | refine R.zk ?_ | refine R.zn ?_ | refine R.done ?_ | refine X.then ?_ | refine C.block ?_ | refine C.ret ?_ | refine C.skip ?_ | refine C.exit ?_ | refine X.pass_ret ?_ | refine X.pass_exit ?_ | refine X.block_normal ?_ | refine X.block_ret ?_ | refine X.block_exit ?_ | refine C.zt ?_ | refine C.zf ?_ | refine X.zo ?_)
    cases hne : neB to noT with
    | false =>
      have hpast : past to (l1.getD (posN l1 fr n last) zI).1 = false := by unfold past; rw [hne]; rfl
      rw [show decide (to.toList ≠ noT.toList) = false from hne]
      repeat (first | refine C.seq ?_ | refine C.region ?_ | refine R.zb ttok ?_ | refine R.zu ttok ?_ | refine R.zc ttok ?_ | refine R.za ttok ?_ | refine R.zx ?_ | refine R.zl ttok ?_ | refine R.zs ttok ?_ | refine R.z ttok ?_ | refine R.zk ?_ | refine R.zn ?_ | refine R.done ?_ | refine X.then ?_ | refine C.block ?_ | refine C.ret ?_ | refine C.skip ?_ | refine C.exit ?_ | refine X.pass_ret ?_ | refine X.pass_exit ?_ | refine X.block_normal ?_ | refine X.block_ret ?_ | refine X.block_exit ?_ | refine C.zt ?_ | refine C.zf ?_ | refine X.zo ?_)
      refine R.cl [0, 18, 2, 19, 4, 5, 6, 7, 8, 9, 10, 11, 12, 13, 14] (fo1_spec l1 c1 c2 fr to last stop n bd off cap (posN l1 fr n last) hM.duo (by have := hM.len; dsimp only at this; omega) hn hi rfl hpast hbd) Try.call54 (by repeat (first | exact HasIn.nil | refine HasIn.same rfl rfl ?_ | refine HasIn.ros rfl ?_ | refine HasIn.other rfl (fun e => by cases e) (fun ρ x w hh => tab_ro hh) ?_)) rfl rfl rfl (fun _ => rfl) rfl (by kernel_rfl) fun s hs => ?_
      repeat (first | refine C.seq ?_ | refine C.region ?_ | refine R.zb ttok ?_ | refine R.zu ttok ?_ | refine R.zc ttok ?_ | refine R.za ttok ?_ | refine R.zx ?_ | refine R.zl ttok ?_ | refine R.zs ttok ?_ | refine R.z ttok ?_ | refine R.zk ?_ | refine R.zn ?_ | refine R.done ?_ | refine X.then ?_ | refine C.block ?_ | refine C.ret ?_ | refine C.skip ?_ | refine C.exit ?_ | refine X.pass_ret ?_ | refine X.pass_exit ?_ | refine X.block_normal ?_ | refine X.block_ret ?_ | refine X.block_exit ?_ | refine C.zt ?_ | refine C.zf ?_ | refine X.zo ?_)
      obtain ⟨hM2, hmu⟩ := hM.next hi hs.1 hs.2.1 hs.2.2
      by_cases hst : (n : Int) + 1 = stop
      · rw [decide_eq_true hst]
        repeat (first | refine C.seq ?_ | refine C.region ?_ | refine R.zb ttok ?_ | refine R.zu ttok ?_ | refine R.zc ttok ?_ | refine R.za ttok ?_ | refine R.zx ?_ | refine R.zl ttok ?_ | refine R.zs ttok ?_ | refine R.z ttok ?_ | refine R.zk ?_ | refine R.zn ?_ | refine R.done ?_ | refine X.then ?_ | refine C.block ?_ | refine C.ret ?_ | refine C.skip ?_ | refine C.exit ?_ | refine X.pass_ret ?_ | refine X.pass_exit ?_ | refine X.block_normal ?_ | refine X.block_ret ?_ | refine X.block_exit ?_ | refine C.zt ?_ | refine C.zf ?_ | refine X.zo ?_)
        refine X.fin ttok (s.1, s.2.1, s.2.2, n + 1, (l1.getD (posN l1 fr n last) zI).1, true) [(18, 21), (19, 22)] ⟨hM2.duo, by have := hM2.len; dsimp only at this ⊢; omega, fun _ => ⟨hst, Nat.succ_pos n⟩, fun h => by cases h⟩ rfl rfl rfl (by repeat (first | exact HasH.nil | refine HasH.same rfl rfl rfl trivial ?_ | refine HasH.same rfl rfl rfl rfl ?_ | refine HasH.same rfl rfl rfl (fun _ _ => rfl) ?_ | refine HasH.ros rfl rfl ?_)) _ (by first | exact .inl rfl | exact .inr rfl)
      · rw [decide_eq_false hst]
        repeat (first | refine C.seq ?_ | refine C.region ?_ | refine R.zb ttok ?_ | refine R.zu ttok ?_ | refine R.zc ttok ?_ | refine R.za ttok ?_ | refine R.zx ?_ | refine R.zl ttok ?_ | refine R.zs ttok ?_ | refine R.z ttok ?_ | refine R.zk ?_ | refine R.zn ?_ | refine R.done ?_ | refine X.then ?_ | refine C.block ?_ | refine C.ret ?_ | refine C.skip ?_ | refine C.exit ?_ | refine X.pass_ret ?_ | refine X.pass_exit ?_ | refine X.block_normal ?_ | refine X.block_ret ?_ | refine X.block_exit ?_ | refine C.zt ?_ | refine C.zf ?_ | refine X.zo ?_)
        refine R.cl [0, 21] (aboveI_spec s.1 s.2.1 (l1.getD (posN l1 fr n last) zI).1 hM2.duo.asc (by have := hM2.len; dsimp only at this; omega)) Try.call53 (by repeat (first | exact HasIn.nil | refine HasIn.same rfl rfl ?_ | refine HasIn.ros rfl ?_ | refine HasIn.other rfl (fun e => by cases e) (fun ρ x w hh => tab_ro hh) ?_)) rfl rfl rfl (fun _ => rfl) rfl (by kernel_rfl) fun _ _ => ?_
        rw [← posN_succ s.1 fr n]
        repeat (first | refine C.seq ?_ | refine C.region ?_ | refine R.zb ttok ?_ | refine R.zu ttok ?_ | refine R.zc ttok ?_ | refine R.za ttok ?_ | refine R.zx ?_ | refine R.zl ttok ?_ | refine R.zs ttok ?_ | refine R.z ttok ?_ | refine R.zk ?_ | refine R.zn ?_ | refine R.done ?_ | refine X.then ?_ | refine C.block ?_ | refine C.ret ?_ | refine C.skip ?_ | refine C.exit ?_ | refine X.pass_ret ?_ | refine X.pass_exit ?_ | refine X.block_normal ?_ | refine X.block_ret ?_ | refine X.block_exit ?_ | refine C.zt ?_ | refine C.zf ?_ | refine X.zo ?_)
        exact X.back [(18, 21), (19, 22)] (s.1, s.2.1, s.2.2, n + 1, (l1.getD (posN l1 fr n last) zI).1) hM2 hmu rfl (by repeat (first | exact HasT.nil | refine HasT.cons rfl rfl rfl ?_)) (by repeat (first | exact HasH.nil | refine HasH.same rfl rfl rfl trivial ?_ | refine HasH.same rfl rfl rfl rfl ?_ | refine HasH.same rfl rfl rfl (fun _ _ => rfl) ?_ | refine HasH.ros rfl rfl ?_)) rfl (fun _ h => h)
    | true =>
      rw [show decide (to.toList ≠ noT.toList) = true from hne]
      repeat (first | refine C.seq ?_ | refine C.region ?_ | refine R.zb ttok ?_ | refine R.zu ttok ?_ | refine R.zc ttok ?_ | refine R.za ttok ?_ | refine R.zx ?_ | refine R.zl ttok ?_ | refine R.zs ttok ?_ | refine R.z ttok ?_ | refine R.zk ?_ | refine R.zn ?_ | refine R.done ?_ | refine X.then ?_ | refine C.block ?_ | refine C.ret ?_ | refine C.skip ?_ | refine C.exit ?_ | refine X.pass_ret ?_ | refine X.pass_exit ?_ | refine X.block_normal ?_ | refine X.block_ret ?_ | refine X.block_exit ?_ | refine C.zt ?_ | refine C.zf ?_ | refine X.zo ?_)
      cases hgt : gtB (l1.getD (posN l1 fr n last) zI).1 to with
      | false =>
        have hpast : past to (l1.getD (posN l1 fr n last) zI).1 = false := by unfold past; rw [hne, hgt]; rfl
        rw [show (!(Op.bytesLess (l1.getD (posN l1 fr n last) zI).1.toList to.toList || decide ((l1.getD (posN l1 fr n last) zI).1.toList = to.toList))) = false from hgt]
        repeat (first | refine C.seq ?_ | refine C.region ?_ | refine R.zb ttok ?_ | refine R.zu ttok ?_ | refine R.zc ttok ?_ | refine R.za ttok ?_ | refine R.zx ?_ | refine R.zl ttok ?_ | refine R.zs ttok ?_ | refine R.z ttok ?_ | refine R.zk ?_ | refine R.zn ?_ | refine R.done ?_ | refine X.then ?_ | refine C.block ?_ | refine C.ret ?_ | refine C.skip ?_ | refine C.exit ?_ | refine X.pass_ret ?_ | refine X.pass_exit ?_ | refine X.block_normal ?_ | refine X.block_ret ?_ | refine X.block_exit ?_ | refine C.zt ?_ | refine C.zf ?_ | refine X.zo ?_)
        refine R.cl [0, 18, 2, 19, 4, 5, 6, 7, 8, 9, 10, 11, 12, 13, 14] (fo1_spec l1 c1 c2 fr to last stop n bd off cap (posN l1 fr n last) hM.duo (by have := hM.len; dsimp only at this; omega) hn hi rfl hpast hbd) Try.call54 (by repeat (first | exact HasIn.nil | refine HasIn.same rfl rfl ?_ | refine HasIn.ros rfl ?_ | refine HasIn.other rfl (fun e => by cases e) (fun ρ x w hh => tab_ro hh) ?_)) rfl rfl rfl (fun _ => rfl) rfl (by kernel_rfl) fun s hs => ?_
        repeat (first | refine C.seq ?_ | refine C.region ?_ | refine R.zb ttok ?_ | refine R.zu ttok ?_ | refine R.zc ttok ?_ | refine R.za ttok ?_ | refine R.zx ?_ | refine R.zl ttok ?_ | refine R.zs ttok ?_ | refine R.z ttok ?_ | refine R.zk ?_ | refine R.zn ?_ | refine R.done ?_ | refine X.then ?_ | refine C.block ?_ | refine C.ret ?_ | refine C.skip ?_ | refine C.exit ?_ | refine X.pass_ret ?_ | refine X.pass_exit ?_ | refine X.block_normal ?_ | refine X.block_ret ?_ | refine X.block_exit ?_ | refine C.zt ?_ | refine C.zf ?_ | refine X.zo ?_)
        obtain ⟨hM2, hmu⟩ := hM.next hi hs.1 hs.2.1 hs.2.2
        by_cases hst : (n : Int) + 1 = stop
        · rw [decide_eq_true hst]
          repeat (first | refine C.seq ?_ | refine C.region ?_ | refine R.zb ttok ?_ | refine R.zu ttok ?_ | refine R.zc ttok ?_ | refine R.za ttok ?_ | refine R.zx ?_ | refine R.zl ttok ?_ | refine R.zs ttok ?_ | refine R.z ttok ?_ | refine R.zk ?_ | refine R.zn ?_ | refine R.done ?_ | refine X.then ?_ | refine C.block ?_ | refine C.ret ?_ | refine C.skip ?_ | refine C.exit ?_ | refine X.pass_ret ?_ | refine X.pass_exit ?_ | refine X.block_normal ?_ | refine X.block_ret ?_ | refine X.block_exit ?_ | refine C.zt ?_ | refine C.zf ?_ | refine X.zo ?_)
          refine X.fin ttok (s.1, s.2.1, s.2.2, n + 1, (l1.getD (posN l1 fr n last) zI).1, true) [(18, 21), (19, 22)] ⟨hM2.duo, by have := hM2.len; dsimp only at this ⊢; omega, fun _ => ⟨hst, Nat.succ_pos n⟩, fun h => by cases h⟩ rfl rfl rfl (by repeat (first | exact HasH.nil | refine HasH.same rfl rfl rfl trivial ?_ | refine HasH.same rfl rfl rfl rfl ?_ | refine HasH.same rfl rfl rfl (fun _ _ => rfl) ?_ | refine HasH.ros rfl rfl ?_)) _ (by first | exact .inl rfl | exact .inr rfl)
        · rw [decide_eq_false hst]
          repeat (first | refine C.seq ?_ | refine C.region ?_ | refine R.zb ttok ?_ | refine R.zu ttok ?_ | refine R.zc ttok ?_ | refine R.za ttok ?_ | refine R.zx ?_ | refine R.zl ttok ?_ | refine R.zs ttok ?_ | refine R.z ttok ?_ | refine R.zk ?_ | refine R.zn ?_ | refine R.done ?_ | refine X.then ?_ | refine C.block ?_ | refine C.ret ?_ | refine C.skip ?_ | refine C.exit ?_ | refine X.pass_ret ?_ | refine X.pass_exit ?_ | refine X.block_normal ?_ | refine X.block_ret ?_ | refine X.block_exit ?_ | refine C.zt ?_ | refine C.zf ?_ | refine X.zo ?_)
          refine R.cl [0, 21] (aboveI_spec s.1 s.2.1 (l1.getD (posN l1 fr n last) zI).1 hM2.duo.asc (by have := hM2.len; dsimp only at this; omega)) Try.call53 (by repeat (first | exact HasIn.nil | refine HasIn.same rfl rfl ?_ | refine HasIn.ros rfl ?_ | refine HasIn.other rfl (fun e => by cases e) (fun ρ x w hh => tab_ro hh) ?_)) rfl rfl rfl (fun _ => rfl) rfl (by kernel_rfl) fun _ _ => ?_
          rw [← posN_succ s.1 fr n]
          repeat (first | refine C.seq ?_ | refine C.region ?_ | refine R.zb ttok ?_ | refine R.zu ttok ?_ | refine R.zc ttok ?_ | refine R.za ttok ?_ | refine R.zx ?_ | refine R.zl ttok ?_ | refine R.zs ttok ?_ | refine R.z ttok ?_ | refine R.zk ?_ | refine R.zn ?_ | refine R.done ?_ | refine X.then ?_ | refine C.block ?_ | refine C.ret ?_ | refine C.skip ?_ | refine C.exit ?_ | refine X.pass_ret ?_ | refine X.pass_exit ?_ | refine X.block_normal ?_ | refine X.block_ret ?_ | refine X.block_exit ?_ | refine C.zt ?_ | refine C.zf ?_ | refine X.zo ?_)
          exact X.back [(18, 21), (19, 22)] (s.1, s.2.1, s.2.2, n + 1, (l1.getD (posN l1 fr n last) zI).1) hM2 hmu rfl (by repeat (first | exact HasT.nil | refine HasT.cons rfl rfl rfl ?_)) (by repeat (first | exact HasH.nil | refine HasH.same rfl rfl rfl trivial ?_ | refine HasH.same rfl rfl rfl rfl ?_ | refine HasH.same rfl rfl rfl (fun _ _ => rfl) ?_ | refine HasH.ros rfl rfl ?_)) rfl (fun _ h => h)
      | true =>
        have hpast : past to (l1.getD (posN l1 fr n last) zI).1 = true := by unfold past; rw [hne, hgt]; rfl
        rw [show (!(Op.bytesLess (l1.getD (posN l1 fr n last) zI).1.toList to.toList || decide ((l1.getD (posN l1 fr n last) zI).1.toList = to.toList))) = true from hgt]
        repeat (first | refine C.seq ?_ | refine C.region ?_ | refine R.zb ttok ?_ | refine R.zu ttok ?_ | refine R.zc ttok ?_ | refine R.za ttok ?_ | refine R.zx ?_ | refine R.zl ttok ?_ | refine R.zs ttok ?_ | refine R.z ttok ?_ | refine R.zk ?_ | refine R.zn ?_ | refine R.done ?_ | refine X.then ?_ | refine C.block ?_ | refine C.ret ?_ | refine C.skip ?_ | refine C.exit ?_ | refine X.pass_ret ?_ | refine X.pass_exit ?_ | refine X.block_normal ?_ | refine X.block_ret ?_ | refine X.block_exit ?_ | refine C.zt ?_ | refine C.zf ?_ | refine X.zo ?_)
        refine X.fin ttok (l1, c1, c2, n, last, false) [] ⟨hM.duo, by have := hM.len; dsimp only at this ⊢; omega, (fun h => by cases h), fun _ _ => hpast⟩ rfl rfl rfl (by repeat (first | exact HasH.nil | refine HasH.same rfl rfl rfl trivial ?_ | refine HasH.same rfl rfl rfl rfl ?_ | refine HasH.same rfl rfl rfl (fun _ _ => rfl) ?_ | refine HasH.ros rfl rfl ?_)) _ (by first | exact .inl rfl | exact .inr rfl)
  · repeat (first | refine C.seq ?_ | refine C.region ?_ | refine R.zb ttok ?_ | refine R.zu ttok ?_ | refine R.zc ttok ?_ | refine R.za ttok ?_ | refine R.zx ?_ | refine R.zl ttok ?_ | refine R.zs ttok ?_ | refine R.z ttok ?_ | refine R.zk ?_ | refine R.zn ?_ | refine R.done ?_ | refine X.then ?_ | refine C.block ?_ | refine C.ret ?_ | refine C.skip ?_ | refine C.exit ?_ | refine X.pass_ret ?_ | refine X.pass_exit ?_ | refine X.block_normal ?_ | refine X.block_ret ?_ | refine X.block_exit ?_ | refine C.zt ?_ | refine C.zf ?_ | refine X.zo ?_)
    refine X.fin ttok (l1, c1, c2, n, last, false) [] ⟨hM.duo, by have := hM.len; dsimp only at this ⊢; omega, (fun h => by cases h), fun _ h => by dsimp only at h; omega⟩ rfl rfl rfl (by repeat (first | exact HasH.nil | refine HasH.same rfl rfl rfl trivial ?_ | refine HasH.same rfl rfl rfl rfl ?_ | refine HasH.same rfl rfl rfl (fun _ _ => rfl) ?_ | refine HasH.ros rfl rfl ?_)) _ (by first | exact .inl rfl | exact .inr rfl)
end
end Go.Proofs.Ytlcojlcackkhpaa
