/- Texts of the claim, merged: only what the theorem needs. -/
import Derived.Test.YtaieficgifingaaGreatDoorPPr
import Derived.Lib.AppendIntMem
import Derived.Lib.ItoaLen
namespace Go.Proofs.YtaieficgifingaaGreatDoor
set_option linter.unusedVariables false
set_option linter.unusedSimpArgs false
open Go.RowKit
set_option maxRecDepth 100000
set_option maxHeartbeats 8000000
def i64 (n : Int) : Prop := -9223372036854775808 ≤ n ∧ n ≤ 9223372036854775807
theorem itoa_spec (n : Int) (hn : i64 n) (fs : Fam) (hG : Glob fs) : SpecF Tryz.prog 31 [.raw (.int .i64 n)] [] 0 fs (σ := Unit) (fun _ => True) (fun _ => .raw (.string (strOf (Lib.itoa n)))) (fun _ => []) (fun _ => fs) :=
  SpecF.lib (vs := [.int .i64 n]) _ rfl rfl fun ρ w hat => (Tryz.strconv_Itoa n hn.1 hn.2 w (hG.pw w hat)).mono fun e w' ⟨h1, k, os, h2⟩ => ⟨h1, by rw [h2]; exact Lib.below_grow _ w (Nat.le_refl _) k os⟩
theorem format_spec (n : Int) (hn : i64 n) (fs : Fam) (hG : Glob fs) : SpecF Tryz.prog 52 [.raw (.int .i64 n), .raw (.int .i64 10)] [] 0 fs (σ := Unit) (fun _ => True) (fun _ => .raw (.string (strOf (Lib.itoa n)))) (fun _ => []) (fun _ => fs) :=
  SpecF.lib (vs := [.int .i64 n, .int .i64 10]) _ rfl rfl fun ρ w hat => (Tryz.strconv_FormatInt_10 n hn.1 hn.2 w (hG.pw w hat)).mono fun e w' ⟨h1, k, os, h2⟩ => ⟨h1, by rw [h2]; exact Lib.below_grow _ w (Nat.le_refl _) k os⟩
theorem itoa_le {n : Int} (hn : i64 n) : (Lib.itoa n).length ≤ 21 := Lib.itoa_length_le n hn.1 hn.2
theorem strOf_app (a b : List UInt8) : strOf a ++ strOf b = strOf (a ++ b) := strB_inj (by
  show ((strOf a) ++ (strOf b)).data.toList = _
  rw [ByteArray.data_append, Array.toList_append]
  rfl)
/-- a value, said -/
def sayP (k i : Int) (t : ByteArray) : List UInt8 := if k = 1 then Lib.itoa i else if k = 2 then quotW (strB t) else [110, 111, 110, 101]
/-- a field, written -/
def FK.wr (x : Ins) : FK → List UInt8
  | .a => 114 :: Lib.itoa x.a
  | .b => 114 :: Lib.itoa x.b
  | .c => 114 :: Lib.itoa x.c
  | .n => Lib.itoa x.n
  | .k => Lib.itoa x.a
  | .s => strB (sgL.getD x.n.toNat ⟨#[]⟩)
  | .v => sayP x.k x.i x.t
theorem regA_write (x : Ins) (hx : i64 x.a) (fs : Fam) (hG : Glob fs) : SpecF Tryz.prog 88 [.agg (insA x), .ptr 0 0 0 0] [one0 (.fn 41 [])] 1 fs (σ := Unit) (fun _ => True) (fun _ => .raw (.string (strOf (FK.a.wr x)))) (fun _ => []) (fun _ => fs) := by
  refine SpecF.of Tryz.func88 rfl Tryz.ntmps88 rfl (bdl_cons (roA_bd rfl) (bdl_nil _)) fun ρ w => ?_
  refine sS_ ?_
  refine R.ldo (v := .fn 41 []) ttok rfl rfl rfl rfl rfl (by kernel_rfl) Nat.one_pos ?_
  refine sS_ ?_
  refine R.cl [1] (inA_spec) Tryz.call41 ((by exact HasIn.any rfl .nil)) rfl rfl rfl (fun _ => rfl) rfl (by kernel_rfl) fun _ _ => ?_
  refine sS_ ?_
  refine R.clR [] (itoa_spec x.a hx fs hG) hG.ro Tryz.call31 hS8_ rfl rfl rfl (fun _ => rfl) rfl (by kernel_rfl) fun _ _ => ?_
  have hle := itoa_le hx
  refine R.cat rfl rfl rfl (by kernel_rfl) (by show 1 + (strOf (Lib.itoa x.a)).size ≤ _; rw [← strB_size]; show 1 + (Lib.itoa x.a).length ≤ _; omega) ?_
  rw [show (⟨#[114]⟩ : ByteArray) ++ strOf (Lib.itoa x.a) = strOf (FK.a.wr x) from strOf_app [114] _]
  refine sS_ ?_
  refine X.finF ttok () [] trivial rfl rfl rfl hS5_ _ (by first | exact .inl rfl | exact .inr rfl) ?_ ?_ ?_
  · exact fun w' hf => hf.ap
  · exact fun p hp => hp
  · exact fun p hp e => ⟨p, hp, rfl⟩
theorem regB_write (x : Ins) (hx : i64 x.b) (fs : Fam) (hG : Glob fs) : SpecF Tryz.prog 88 [.agg (insA x), .ptr 0 0 0 0] [one0 (.fn 44 [])] 1 fs (σ := Unit) (fun _ => True) (fun _ => .raw (.string (strOf (FK.b.wr x)))) (fun _ => []) (fun _ => fs) := by
  refine SpecF.of Tryz.func88 rfl Tryz.ntmps88 rfl (bdl_cons (roA_bd rfl) (bdl_nil _)) fun ρ w => ?_
  refine sS_ ?_
  refine R.ldo (v := .fn 44 []) ttok rfl rfl rfl rfl rfl (by kernel_rfl) Nat.one_pos ?_
  refine sS_ ?_
  refine R.cl [1] (inB_spec) Tryz.call44 ((by exact HasIn.any rfl .nil)) rfl rfl rfl (fun _ => rfl) rfl (by kernel_rfl) fun _ _ => ?_
  refine sS_ ?_
  refine R.clR [] (itoa_spec x.b hx fs hG) hG.ro Tryz.call31 hS8_ rfl rfl rfl (fun _ => rfl) rfl (by kernel_rfl) fun _ _ => ?_
  have hle := itoa_le hx
  refine R.cat rfl rfl rfl (by kernel_rfl) (by show 1 + (strOf (Lib.itoa x.b)).size ≤ _; rw [← strB_size]; show 1 + (Lib.itoa x.b).length ≤ _; omega) ?_
  rw [show (⟨#[114]⟩ : ByteArray) ++ strOf (Lib.itoa x.b) = strOf (FK.b.wr x) from strOf_app [114] _]
  refine sS_ ?_
  refine X.finF ttok () [] trivial rfl rfl rfl hS5_ _ (by first | exact .inl rfl | exact .inr rfl) ?_ ?_ ?_
  · exact fun w' hf => hf.ap
  · exact fun p hp => hp
  · exact fun p hp e => ⟨p, hp, rfl⟩
theorem regC_write (x : Ins) (hx : i64 x.c) (fs : Fam) (hG : Glob fs) : SpecF Tryz.prog 88 [.agg (insA x), .ptr 0 0 0 0] [one0 (.fn 45 [])] 1 fs (σ := Unit) (fun _ => True) (fun _ => .raw (.string (strOf (FK.c.wr x)))) (fun _ => []) (fun _ => fs) := by
  refine SpecF.of Tryz.func88 rfl Tryz.ntmps88 rfl (bdl_cons (roA_bd rfl) (bdl_nil _)) fun ρ w => ?_
  refine sS_ ?_
  refine R.ldo (v := .fn 45 []) ttok rfl rfl rfl rfl rfl (by kernel_rfl) Nat.one_pos ?_
  refine sS_ ?_
  refine R.cl [1] (inC_spec) Tryz.call45 ((by exact HasIn.any rfl .nil)) rfl rfl rfl (fun _ => rfl) rfl (by kernel_rfl) fun _ _ => ?_
  refine sS_ ?_
  refine R.clR [] (itoa_spec x.c hx fs hG) hG.ro Tryz.call31 hS8_ rfl rfl rfl (fun _ => rfl) rfl (by kernel_rfl) fun _ _ => ?_
  have hle := itoa_le hx
  refine R.cat rfl rfl rfl (by kernel_rfl) (by show 1 + (strOf (Lib.itoa x.c)).size ≤ _; rw [← strB_size]; show 1 + (Lib.itoa x.c).length ≤ _; omega) ?_
  rw [show (⟨#[114]⟩ : ByteArray) ++ strOf (Lib.itoa x.c) = strOf (FK.c.wr x) from strOf_app [114] _]
  refine sS_ ?_
  refine X.finF ttok () [] trivial rfl rfl rfl hS5_ _ (by first | exact .inl rfl | exact .inr rfl) ?_ ?_ ?_
  · exact fun w' hf => hf.ap
  · exact fun p hp => hp
  · exact fun p hp e => ⟨p, hp, rfl⟩
theorem plainA_write (x : Ins) (hx : i64 x.a) (fs : Fam) (hG : Glob fs) : SpecF Tryz.prog 90 [.agg (insA x), .ptr 0 0 0 0] [one0 (.fn 41 [])] 1 fs (σ := Unit) (fun _ => True) (fun _ => .raw (.string (strOf (FK.k.wr x)))) (fun _ => []) (fun _ => fs) := by
  refine SpecF.of Tryz.func90 rfl Tryz.ntmps90 rfl (bdl_cons (roA_bd rfl) (bdl_nil _)) fun ρ w => ?_
  refine sS_ ?_
  refine R.ldo (v := .fn 41 []) ttok rfl rfl rfl rfl rfl (by kernel_rfl) Nat.one_pos ?_
  refine sS_ ?_
  refine R.cl [1] (inA_spec) Tryz.call41 ((by exact HasIn.any rfl .nil)) rfl rfl rfl (fun _ => rfl) rfl (by kernel_rfl) fun _ _ => ?_
  refine sS_ ?_
  refine R.clR [] (itoa_spec x.a hx fs hG) hG.ro Tryz.call31 hS8_ rfl rfl rfl (fun _ => rfl) rfl (by kernel_rfl) fun _ _ => ?_
  refine sS_ ?_
  refine X.finF ttok () [] trivial rfl rfl rfl hS5_ _ (by first | exact .inl rfl | exact .inr rfl) ?_ ?_ ?_
  · exact fun w' hf => hf.ap
  · exact fun p hp => hp
  · exact fun p hp e => ⟨p, hp, rfl⟩
theorem plainN_write (x : Ins) (hx : i64 x.n) (fs : Fam) (hG : Glob fs) : SpecF Tryz.prog 90 [.agg (insA x), .ptr 0 0 0 0] [one0 (.fn 42 [])] 1 fs (σ := Unit) (fun _ => True) (fun _ => .raw (.string (strOf (FK.n.wr x)))) (fun _ => []) (fun _ => fs) := by
  refine SpecF.of Tryz.func90 rfl Tryz.ntmps90 rfl (bdl_cons (roA_bd rfl) (bdl_nil _)) fun ρ w => ?_
  refine sS_ ?_
  refine R.ldo (v := .fn 42 []) ttok rfl rfl rfl rfl rfl (by kernel_rfl) Nat.one_pos ?_
  refine sS_ ?_
  refine R.cl [1] (inN_spec) Tryz.call42 ((by exact HasIn.any rfl .nil)) rfl rfl rfl (fun _ => rfl) rfl (by kernel_rfl) fun _ _ => ?_
  refine sS_ ?_
  refine R.clR [] (itoa_spec x.n hx fs hG) hG.ro Tryz.call31 hS8_ rfl rfl rfl (fun _ => rfl) rfl (by kernel_rfl) fun _ _ => ?_
  refine sS_ ?_
  refine X.finF ttok () [] trivial rfl rfl rfl hS5_ _ (by first | exact .inl rfl | exact .inr rfl) ?_ ?_ ?_
  · exact fun w' hf => hf.ap
  · exact fun p hp => hp
  · exact fun p hp e => ⟨p, hp, rfl⟩
theorem sign_write (x : Ins) (hx : 0 ≤ x.n ∧ x.n < 7) : Spec Tryz.prog 48 [.agg (insA x), .ptr 0 0 0 0] [one0 (.sl 1 1 0 7 7), roSg] 2 (σ := Unit) (fun _ => True) (fun _ => .raw (.string (strOf (FK.s.wr x)))) (fun _ => []) := by
  refine Spec.of Tryz.func48 rfl Tryz.ntmps48 rfl (bdl_cons (roA_bd rfl) (bdl_cons (fun i hi => rfl) (bdl_nil _))) fun ρ w => ?_
  refine sS_ ?_
  refine R.ldo (v := .sl 1 1 0 7 7) ttok rfl rfl rfl rfl rfl (by kernel_rfl) Nat.one_pos ?_
  refine sS_ ?_
  have h7 : x.n.toNat < 7 := by omega
  refine R.ix ttok x.n.toNat rfl rfl rfl rfl rfl (by kernel_rfl) (by omega) h7 (by show _ ≤ _ ∧ _ < _; omega) rfl ?_
  refine R.ldo (v := .raw (.string (sgL.getD x.n.toNat ⟨#[]⟩))) ttok rfl rfl rfl rfl rfl (by kernel_rfl) h7 ?_
  rw [show sgL.getD x.n.toNat ⟨#[]⟩ = strOf (FK.s.wr x) from strB_inj rfl]
  refine sS_ ?_
  refine X.fin ttok () [] trivial rfl rfl rfl hS5_ _ (by first | exact .inl rfl | exact .inr rfl)
theorem value_write (x : Ins) (hx : i64 x.i) (ht : x.t.size ≤ 1000000) (fs : Fam) (hG : Glob fs) : SpecF Tryz.prog 51 [.agg (insA x)] [] 0 fs (σ := Unit) (fun _ => True) (fun _ => .raw (.string (strOf (FK.v.wr x)))) (fun _ => []) (fun _ => fs) := by
  refine SpecF.of Tryz.func51 rfl Tryz.ntmps51 rfl (bdl_nil _) fun ρ w => ?_
  refine sS_ ?_
  by_cases h1 : x.k = 1
  · rw [decide_eq_true h1]
    refine sS_ ?_
    refine R.clR [] (format_spec x.i hx fs hG) hG.ro Tryz.call52 hS8_ rfl rfl rfl (fun _ => rfl) rfl (by kernel_rfl) fun _ _ => ?_
    rw [show Lib.itoa x.i = FK.v.wr x from (if_pos h1).symm]
    refine sS_ ?_
    refine X.finF ttok () [] trivial rfl rfl rfl hS5_ _ (by first | exact .inl rfl | exact .inr rfl) ?_ ?_ ?_
    · exact fun w' hf => hf.ap
    · exact fun p hp => hp
    · exact fun p hp e => ⟨p, hp, rfl⟩
  · rw [decide_eq_false h1]
    refine sS_ ?_
    by_cases h2 : x.k = 2
    · rw [decide_eq_true h2]
      refine sS_ ?_
      refine R.cl [] (quote_spec x.t ht) Tryz.call53 hS8_ rfl rfl rfl (fun _ => rfl) rfl (by kernel_rfl) fun _ _ => ?_
      rw [show quotW (strB x.t) = FK.v.wr x from ((if_neg h1).trans (if_pos h2)).symm]
      refine sS_ ?_
      refine X.finF ttok () [] trivial rfl rfl rfl hS5_ _ (by first | exact .inl rfl | exact .inr rfl) ?_ ?_ ?_
      · exact fun w' hf => hf.ap
      · exact fun p hp => hp
      · exact fun p hp e => ⟨p, hp, rfl⟩
    · rw [decide_eq_false h2]
      have hv : strOf (FK.v.wr x) = ⟨#[110, 111, 110, 101]⟩ := strB_inj ((if_neg h1).trans (if_neg h2))
      rw [hv]
      refine sS_ ?_
      refine X.finF ttok () [] trivial rfl rfl rfl hS5_ _ (by first | exact .inl rfl | exact .inr rfl) ?_ ?_ ?_
      · exact fun w' hf => hf.ap
      · exact fun p hp => hp
      · exact fun p hp e => ⟨p, hp, rfl⟩
theorem bytes_any {ρ : Env} {r : Option Nat} {w : World} {p : List UInt8} {c : Nat} {T : TypeId} (h : (AO.bytes p c T).holds ρ r w) : anyO.holds ρ r w := by
  rcases h.2 with ⟨h1, _⟩ | ⟨b, cur, hr, hb, _⟩
  · exact .inl ⟨h1, rfl⟩
  · exact .inr ⟨b, cur, T, _, hr, hb, fun i c x hi => by omega⟩
abbrev bldT : TypeId := 82
theorem copy0_spec : Spec Tryz.prog 70 [.ptr 0 0 0 0] [.cells [.raw (.pointer none), .raw (.slice none 0 0)] bldT] 1 (σ := Unit) (fun _ => True) (fun _ => .tup []) (fun _ => [(0, .cells [.ptr 0 0 0 0, .raw (.slice none 0 0)] bldT)]) := by
  refine Spec.of Tryz.func70 rfl Tryz.ntmps70 rfl (bdl_cons rfl (bdl_nil _)) fun ρ w => ?_
  refine sS_ ?_
  refine R.cvu (k := 1) rfl rfl (Tryz.underlying79) (Tryz.underlying159) (by kernel_rfl) (by show 0 < 2; decide) rfl (by kernel_rfl) ?_
  refine sS_ ?_
  refine R.same (e := Extern.AbiNoEscape.same) (fun args w => (by rw [run_callFunc_extern Tryz.func113 (by kernel_rfl) (by kernel_rfl) (by kernel_rfl) (e := Extern.AbiNoEscape.same) (by kernel_rfl)])) (fun v w => Lib.run_noEscape w v) rfl rfl (by kernel_rfl) ?_
  refine R.cvf rfl rfl (Tryz.underlying159) (Tryz.underlying79) (by kernel_rfl) (by kernel_rfl) rfl (by kernel_rfl) ?_
  refine sS_ ?_
  refine X.fin ttok () [] trivial rfl rfl rfl hS5_ _ (by first | exact .inl rfl | exact .inr rfl)
theorem copy1_spec (n c : Nat) : Spec Tryz.prog 70 [.ptr 0 0 0 0] [.cells [.ptr 0 0 0 0, .sl 1 1 0 n c] bldT, anyO] 2 (σ := Unit) (fun _ => True) (fun _ => .tup []) (fun _ => [(0, .cells [.ptr 0 0 0 0, .sl 1 1 0 n c] bldT)]) := by
  refine Spec.of Tryz.func70 rfl Tryz.ntmps70 rfl (bdl_cons rfl (bdl_cons (any_bd _) (bdl_nil _))) fun ρ w => ?_
  refine sS_ ?_
  refine R.pns ttok rfl rfl rfl rfl rfl rfl rfl (by kernel_rfl) ?_
  refine sS_ ?_
  refine X.fin ttok () [] trivial rfl rfl rfl hS5_ _ (by first | exact .inl rfl | exact .inr rfl)
/-- what a Builder holds: none yet, or bytes -/
theorem write0_spec (t : ByteArray) (ht : t.size ≤ 1000000) : Spec Tryz.prog 30 [.ptr 0 0 0 0, .raw (.string t)] [.cells [.raw (.pointer none), .raw (.slice none 0 0)] bldT] 2 (σ := Nat) (fun c => t.size ≤ c ∧ c ≤ 9223372036854775807) (fun _ => .tup [.raw (.int .i64 (t.size : Nat)), .raw .nilIface]) (fun c => [(0, .cells [.ptr 0 0 0 0, .sl 1 1 0 t.size c] bldT), (1, .bytes (strB t) c 5)]) := by
  refine Spec.of Tryz.func30 rfl Tryz.ntmps30 rfl (bdl_cons rfl (bdl_nil _)) fun ρ w => ?_
  have hlen := strB_size t
  refine sS_ ?_
  refine R.cl [0] (copy0_spec) Tryz.call70 hS8_ rfl rfl rfl (fun _ => rfl) rfl (by kernel_rfl) fun _ _ => ?_
  refine sS_ ?_
  refine R.apS ttok (fun c => .bytes (strB t) c 5) rfl rfl (DstA.nil _ _) (AsRow.bytes _ _) rfl rfl (Tryz.underlying9) (by kernel_rfl) rfl (by kernel_rfl) (Nat.zero_le _) (by omega) fun c h1 h2 => ?_
  rw [show 0 + t.size = t.size from Nat.zero_add _] at h1 ⊢
  refine sS_ ?_
  refine X.fin ttok c [(1, 1)] ⟨h1, h2⟩ rfl rfl rfl hS5_ _ (by first | exact .inl rfl | exact .inr rfl)
theorem write_spec (p : List UInt8) (c : Nat) (t : ByteArray) (hc : c ≤ 9223372036854775807) (hp : p.length + t.size ≤ 100000000) : Spec Tryz.prog 30 [.ptr 0 0 0 0, .raw (.string t)] [.cells [.ptr 0 0 0 0, .sl 1 1 0 p.length c] bldT, .bytes p c 5] 3 (σ := Nat) (fun c => (p ++ strB t).length ≤ c ∧ c ≤ 9223372036854775807) (fun _ => .tup [.raw (.int .i64 (t.size : Nat)), .raw .nilIface]) (fun c => [(0, .cells [.ptr 0 0 0 0, .sl 2 1 0 (p ++ strB t).length c] bldT), (2, .bytes (p ++ strB t) c 5)]) := by
  refine Spec.of Tryz.func30 rfl Tryz.ntmps30 rfl (bdl_cons rfl (bdl_cons trivial (bdl_nil _))) fun ρ w => ?_
  have hlen := strB_size t
  refine sS_ ?_
  refine R.cl [0, 1] (copy1_spec p.length c) Tryz.call70 ((by exact HasIn.same rfl rfl (HasIn.other rfl (fun e => by cases e) (fun ρ x w hh => bytes_any hh) .nil))) rfl rfl rfl (fun _ => rfl) rfl (by kernel_rfl) fun _ _ => ?_
  refine sS_ ?_
  refine R.apt ttok rfl rfl rfl rfl rfl rfl rfl (Tryz.underlying9) (by kernel_rfl) rfl (by kernel_rfl) hc (by rw [List.length_append]; omega) fun c h1 h2 => ?_
  refine sS_ ?_
  refine X.fin ttok c [] ⟨h1, h2⟩ rfl rfl rfl hS5_ _ (by first | exact .inl rfl | exact .inr rfl)
theorem bstring_spec (p : List UInt8) (c : Nat) (h0 : p ≠ []) (hc : p.length ≤ c) (hp : p.length ≤ 9223372036854775807) : Spec Tryz.prog 32 [.ptr 0 0 0 0] [.cells [.ptr 0 0 0 0, .sl 1 1 0 p.length c] bldT, .bytes p c 5] 2 (σ := Unit) (fun _ => True) (fun _ => .raw (.string (strOf p))) (fun _ => []) := by
  refine Spec.of Tryz.func32 rfl Tryz.ntmps32 rfl (bdl_cons rfl (bdl_cons trivial (bdl_nil _))) fun ρ w => ?_
  have hpl := List.length_pos_iff.2 h0
  refine sS_ ?_
  refine C.draw [[], [0], [0, 1], [0, 1, 2], [0, 1, 2, 3], [], [5], [5, 6], [5, 6, 7], [5, 6, 7, 8], [0, 1, 2, 3, 4, 5, 6, 7, 8, 9], [0, 1, 2, 3, 4, 5, 6, 7, 8, 9, 10]] [4, 10] (by kernel_rfl) (by kernel_rfl) ?_
  refine sS_ ?_
  refine R.usd rfl rfl (by omega) (by omega) rfl (by kernel_rfl) ?_
  refine sS_ ?_
  refine R.ust rfl rfl rfl rfl h0 hp (Tryz.underlying126) (by kernel_rfl) rfl (by kernel_rfl) ?_
  refine sS_ ?_
  refine X.fin ttok () [] trivial rfl rfl rfl hS5_ _ (by first | exact .inl rfl | exact .inr rfl)
end Go.Proofs.YtaieficgifingaaGreatDoor
namespace Go.Proofs.YtaieficgifingaaGreatDoor
set_option linter.unusedVariables false
set_option linter.constructorNameAsVariable false
set_option linter.unusedSimpArgs false
open Go.RowKit
set_option maxRecDepth 100000
set_option maxHeartbeats 8000000
abbrev FK.av2 : FK → List AV
  | .a => [.fn 86 [.ptr 2 0 0 0], .fn 88 [.ptr 2 0 0 0]]
  | .b => [.fn 86 [.ptr 3 0 0 0], .fn 88 [.ptr 3 0 0 0]]
  | .c => [.fn 86 [.ptr 4 0 0 0], .fn 88 [.ptr 4 0 0 0]]
  | .n => [.fn 89 [.ptr 5 0 0 0], .fn 90 [.ptr 5 0 0 0]]
  | .k => [.fn 89 [.ptr 6 0 0 0], .fn 90 [.ptr 6 0 0 0]]
  | .s => [.fn 47 [.ptr 8 0 0 0], .fn 48 [.ptr 8 0 0 0]]
  | .v => [.fn 49 [], .fn 51 []]
def shRows2 : List AV := [.raw (.string ⟨#[115, 101, 116]⟩), .raw (.int .i64 1), .sl 9 2 0 2 2, .raw (.string ⟨#[97, 114, 103]⟩), .raw (.int .i64 2), .sl 10 2 0 2 2, .raw (.string ⟨#[103, 101, 116]⟩), .raw (.int .i64 3), .sl 11 2 0 2 2, .raw (.string ⟨#[110, 101, 120, 116]⟩), .raw (.int .i64 14), .sl 12 2 0 2 2, .raw (.string ⟨#[112, 117, 116]⟩), .raw (.int .i64 4), .sl 13 2 0 2 2, .raw (.string ⟨#[100, 101, 108]⟩), .raw (.int .i64 5), .sl 14 2 0 1 1, .raw (.string ⟨#[116, 101, 108, 108]⟩), .raw (.int .i64 15), .sl 15 2 0 1 1, .raw (.string ⟨#[97, 100, 100]⟩), .raw (.int .i64 6), .sl 16 2 0 3 3, .raw (.string ⟨#[115, 117, 98]⟩), .raw (.int .i64 7), .sl 17 2 0 3 3, .raw (.string ⟨#[109, 117, 108]⟩), .raw (.int .i64 8), .sl 18 2 0 3 3, .raw (.string ⟨#[106, 111, 105, 110]⟩), .raw (.int .i64 9), .sl 19 2 0 3 3, .raw (.string ⟨#[110, 101, 101, 100]⟩), .raw (.int .i64 10), .sl 20 2 0 3 3, .raw (.string ⟨#[115, 107, 105, 112]⟩), .raw (.int .i64 11), .sl 21 2 0 4 4, .raw (.string ⟨#[115, 117, 109]⟩), .raw (.int .i64 12), .sl 22 2 0 4 4, .raw (.string ⟨#[99, 111, 117, 110, 116]⟩), .raw (.int .i64 13), .sl 23 2 0 4 4, .raw (.string ⟨#[115, 116, 111, 112]⟩), .raw (.int .i64 16), .raw (.slice none 0 0)]
def fkF2 (l : List FK) (j : Nat) : List AV := ((l.flatMap FK.av2).drop (j * 2)).take 2
abbrev roK2 (l : List FK) : AO := .ro 2 0 l.length (fkF2 l)
def shF2 (j : Nat) : List AV := (shRows2.drop (j * 3)).take 3
abbrev roSh2 : AO := .ro 3 0 16 shF2
theorem fkF2_at {l : List FK} {j : Nat} {p : FK} (h : l[j]? = some p) : fkF2 l j = p.av2 := flat_drop FK.av2 2 (fun x => by cases x <;> rfl) l j p h
theorem fk2_mem {l : List FK} {j : Nat} {x : AV} (hx : x ∈ fkF2 l j) : ∃ q : FK, x ∈ q.av2 := by
  have hx := List.mem_of_mem_drop (List.mem_of_mem_take hx)
  obtain ⟨p, _, hp⟩ := List.mem_flatMap.1 hx
  exact ⟨p, hp⟩
theorem fk2_bd (L : Nat) (l : List FK) (hL : 9 ≤ L) : (roK2 l).Bd L := fun i _ => bds_of _ fun x hx => by
  obtain ⟨p, hp⟩ := fk2_mem hx
  have e : ∀ q, q < 9 → AV.bd L (.fn 0 [.ptr q 0 0 0]) = true := fun q hq => by simp [AV.bd, AV.bds]; omega
  cases p <;> (simp [FK.av2] at hp; rcases hp with rfl | rfl <;> first | rfl | exact e _ (by decide))
theorem fk2_ren (r : Nat → Nat) (l : List FK) (h0 : r 2 = 2) (h1 : r 3 = 3) (h2 : r 4 = 4) (h3 : r 5 = 5) (h4 : r 6 = 6) (h6 : r 8 = 8) : roK2 l = (roK2 l).ren r := by
  show AO.ro 2 0 l.length (fkF2 l) = AO.ro 2 0 l.length (fun i => AV.rens r (fkF2 l i))
  congr 1
  funext i
  rw [rens_map]
  refine ((List.map_congr_left (g := id) fun x hx => ?_).trans (List.map_id _)).symm
  obtain ⟨p, hp⟩ := fk2_mem hx
  cases p <;> (simp [FK.av2] at hp; rcases hp with rfl | rfl <;> simp [AV.ren, AV.rens, h0, h1, h2, h3, h4, h6])
theorem sh2_mem {j : Nat} {x : AV} (hx : x ∈ shF2 j) : (∃ v, x = .raw v) ∨ ∃ q n, q < 24 ∧ x = .sl q 2 0 n n := by
  have hx := List.mem_of_mem_drop (List.mem_of_mem_take hx)
  simp only [shRows2, List.mem_cons, List.not_mem_nil, or_false] at hx
  repeat' (first | (rcases hx with rfl | hx) | subst hx)
  all_goals first | exact .inl ⟨_, rfl⟩ | exact .inr ⟨_, _, by decide, rfl⟩
theorem sh2_bd (L : Nat) (hL : 24 ≤ L) : roSh2.Bd L := fun i _ => bds_of _ fun x hx => by
  rcases sh2_mem hx with ⟨v, rfl⟩ | ⟨q, n, hq, rfl⟩
  · rfl
  · simp [AV.bd]; omega
theorem sh2_ren (r : Nat → Nat) (h : ∀ q < 24, r q = q) : roSh2 = roSh2.ren r := by
  show AO.ro 3 0 16 shF2 = AO.ro 3 0 16 (fun i => AV.rens r (shF2 i))
  congr 1
  funext i
  rw [rens_map]
  refine ((List.map_congr_left (g := id) fun x hx => ?_).trans (List.map_id _)).symm
  rcases sh2_mem hx with ⟨v, rfl⟩ | ⟨q, n, hq, rfl⟩
  · rfl
  · simp [AV.ren, h q hq]
theorem HasH.fk2 {r : Nat → Nat} {L : Nat} {h rest : List (Nat × AO)} {l : Nat} {T : TypeId} {f : List FK} {xs : List AV} (h1 : hk (r l) h = some (.cells xs T)) (hx : xs = f.flatMap FK.av2) (g0 : r 2 = 2) (g1 : r 3 = 3) (g2 : r 4 = 4) (g3 : r 5 = 5) (g4 : r 6 = 6) (g6 : r 8 = 8) (h3 : Nat.ble (l + 1) L = true) (hL : 9 ≤ L) (kk : HasH r L h rest) : HasH r L h ((l, roK2 f) :: rest) :=
  .other h1 (fun e => by cases e) (fun ρ x w hh => by
    rw [← fk2_ren r f g0 g1 g2 g3 g4 g6]
    subst hx
    exact cells_row hh) h3 (fk2_bd _ _ hL) kk
theorem HasH.sh2 {r : Nat → Nat} {L : Nat} {h rest : List (Nat × AO)} {l : Nat} {T : TypeId} {xs : List AV} (h1 : hk (r l) h = some (.cells xs T)) (hx : xs = shRows2) (hr : ∀ q < 24, r q = q) (h3 : Nat.ble (l + 1) L = true) (hL : 24 ≤ L) (kk : HasH r L h rest) : HasH r L h ((l, roSh2) :: rest) :=
  .other h1 (fun e => by cases e) (fun ρ x w hh => by
    rw [← sh2_ren r hr]
    subst hx
    exact cells_row hh) h3 (sh2_bd _ hL) kk
theorem strOf_size (l : List UInt8) : (strOf l).size = l.length := by rw [← strB_size]; rfl
theorem cat1 (a : List UInt8) (t : ByteArray) : strOf a ++ t = strOf (a ++ strB t) := by
  rw [← strOf_app]
  congr 1
def lineS (s : Sh) (x : Ins) : List UInt8 := [32, 32] ++ strB s.w ++ s.f.flatMap (fun q => 32 :: q.wr x) ++ [10]
def lnS (x : Ins) (s : Sh) : List UInt8 := if ((s.op : Nat) : Int) = x.o then lineS s x else []
def lnP (x : Ins) : List UInt8 := shL.flatMap (lnS x)
def headP (nm : ByteArray) (ar : Int) : List UInt8 := [112, 114, 111, 99, 32] ++ strB nm ++ [32] ++ Lib.itoa ar ++ [10]
def printP (nm : ByteArray) (ar : Int) (cd : List Ins) : List UInt8 := headP nm ar ++ cd.flatMap lnP ++ [101, 110, 100, 10]
def insI (x : Ins) : Prop := i64 x.a ∧ i64 x.b ∧ i64 x.c ∧ i64 x.n ∧ i64 x.i
/-- what Check has looked at -/
structure InsK (x : Ins) : Prop where
  sg : x.o = 10 ∨ x.o = 11 → 1 ≤ x.n ∧ x.n ≤ 6
  tx : x.o = 1 → x.t.size ≤ 256
theorem insE_ok {ar : Int} {n i : Nat} {x : Ins} (h : insE ar n i x = 0) : InsK x := by
  unfold insE at h
  split at h
  · cases h
  rename_i ho
  unfold insL at h
  split at h
  · rename_i hall
    refine ⟨fun hx => ?_, fun hx => ?_⟩
    · have hm : PF.h ∈ pfs x.o.toNat := by rcases hx with hx | hx <;> rw [hx] <;> simp [pfs]
      have := List.all_eq_true.1 hall _ hm
      simp only [PF.ok, PF.val, Bool.and_eq_true] at this
      exact ⟨of_decide_eq_true this.1, of_decide_eq_true this.2⟩
    · split at h
      · rw [if_pos (decide_eq_true hx)] at h
        unfold vchk at h
        split at h
        · cases h
        · split at h
          · cases h
          · omega
      · cases h
  · cases h
theorem chkP_ok {nm : ByteArray} {ar : Int} {L : List Ins} (h : (chkP nm ar L).2 = 0) : (strB nm).length ≤ 32 ∧ 0 ≤ ar ∧ ar ≤ 16 ∧ L.length ≤ 64 ∧ ∀ i, i < L.length → insE ar L.length i (L.getD i insD) = 0 := by
  unfold chkP at h
  split at h
  · cases h
  rename_i h1
  split at h
  · cases h
  split at h
  · cases h
  have h1 : nameP (strB nm) = true := by cases hh : nameP (strB nm) <;> simp_all
  unfold nameP at h1
  simp only [Bool.and_eq_true, decide_eq_true_eq] at h1
  refine ⟨h1.1.1.2, by omega, by omega, by omega, fun i hi => ?_⟩
  unfold chkL at h
  split at h
  · rename_i j hf
    have := (List.find?_range_eq_some.1 hf).1
    unfold badI at this
    simp only [decide_eq_true_eq] at this
    exact absurd h this
  · rename_i hf
    have := List.find?_eq_none.1 hf i (List.mem_range.2 hi)
    unfold badI at this
    simpa using this
theorem quotW_len (l : List UInt8) : (quotW l).length ≤ 4 * l.length + 2 := by
  have : ∀ l : List UInt8, (l.flatMap quotC).length ≤ 4 * l.length := fun l => by
    induction l with
    | nil => simp
    | cons c r ih =>
      rw [List.flatMap_cons, List.length_append, List.length_cons]
      have := quotC_len c
      omega
  unfold quotW
  simp only [List.length_append, List.length_cons, List.length_nil]
  have := this l
  omega
theorem wr_len {x : Ins} (hx : insI x) (q : FK) (hs : q = .v → x.t.size ≤ 256) : (q.wr x).length ≤ 1030 := by
  obtain ⟨h1, h2, h3, h4, h5⟩ := hx
  have l1 := itoa_le h1
  have l2 := itoa_le h2
  have l3 := itoa_le h3
  have l4 := itoa_le h4
  have l5 := itoa_le h5
  cases q with
  | a => show (114 :: Lib.itoa x.a).length ≤ _; rw [List.length_cons]; omega
  | b => show (114 :: Lib.itoa x.b).length ≤ _; rw [List.length_cons]; omega
  | c => show (114 :: Lib.itoa x.c).length ≤ _; rw [List.length_cons]; omega
  | n => show (Lib.itoa x.n).length ≤ _; omega
  | k => show (Lib.itoa x.a).length ≤ _; omega
  | s =>
    show (strB (sgL.getD x.n.toNat ⟨#[]⟩)).length ≤ _
    have : ∀ k : Nat, (strB (sgL.getD k ⟨#[]⟩)).length ≤ 2 := fun k => by
      match k with
      | 0 | 1 | 2 | 3 | 4 | 5 | 6 => decide
      | k + 7 => simp [sgL, strB]
    have := this x.n.toNat
    omega
  | v =>
    have ht := hs rfl
    show (sayP x.k x.i x.t).length ≤ _
    unfold sayP
    split
    · omega
    · split
      · have := quotW_len (strB x.t)
        rw [strB_size] at this
        omega
      · decide
theorem sh_word {i : Nat} {s : Sh} (h : shL[i]? = some s) : (strB s.w).length ≤ 5 ∧ (FK.v ∈ s.f → s.op = 1) ∧ (FK.s ∈ s.f → s.op = 10 ∨ s.op = 11) := by
  have : ∀ s ∈ shL, (strB s.w).length ≤ 5 ∧ (FK.v ∈ s.f → s.op = 1) ∧ (FK.s ∈ s.f → s.op = 10 ∨ s.op = 11) := by
    intro s hs
    simp only [shL, List.mem_cons, List.not_mem_nil, or_false] at hs
    repeat' (first | (rcases hs with rfl | hs) | subst hs)
    all_goals exact ⟨by decide, by simp, by simp⟩
  exact this s (List.mem_of_getElem? h)
def printO (nm : ByteArray) (ar : Int) (cd : List Ins) : List UInt8 := if (chkP nm ar cd).2 = 0 then printP nm ar cd else []
theorem hS0_ {P : Prop} (h : P := by repeat (first | exact HasH.nil | refine HasH.same rfl rfl rfl trivial ?_ | refine HasH.same rfl rfl rfl rfl ?_ | refine HasH.same rfl rfl rfl (roA_bd rfl) ?_ | refine HasH.same rfl (fk2_ren _ _ rfl rfl rfl rfl rfl rfl) rfl (fk2_bd _ _ (Nat.le_of_ble_eq_true rfl)) ?_ | refine HasH.same rfl rfl rfl (fun _ _ => rfl) ?_ | refine HasH.same rfl (sh2_ren _ (by decide)) rfl (sh2_bd _ (Nat.le_of_ble_eq_true rfl)) ?_ | refine HasH.other rfl (fun e => by cases e) (fun ρ x w hh => cells_roA hh) rfl (roA_bd rfl) ?_ | refine HasH.fk2 rfl rfl rfl rfl rfl rfl rfl rfl rfl (Nat.le_of_ble_eq_true rfl) ?_ | refine HasH.other rfl (fun e => by cases e) (fun ρ x w hh => cells_sg hh) rfl (fun _ _ => rfl) ?_ | refine HasH.sh2 rfl rfl (by decide) rfl (Nat.le_of_ble_eq_true rfl) ?_ | refine HasH.other rfl (fun e => by cases e) (fun ρ x w hh => tab0_ro hh) rfl (fun i hi => absurd hi (Nat.not_lt_zero i)) ?_)) : P := h
theorem print_spec (nm : ByteArray) (ar : Int) (L : List Ins) (o cp : Nat) (hL : L.length ≤ 1000000) (hI : ∀ x ∈ L, insI x) (fs : Fam) (hG : Glob fs) : SpecF Tryz.prog 13 [.agg (prA nm ar (.sl 0 8 o L.length cp))] [roI o L] 1 fs (σ := Unit) (fun _ => True) (fun _ => .tup [.raw (.string (strOf (printO nm ar L))), .raw (.int .i64 (chkP nm ar L).2)]) (fun _ => []) (fun _ => fs) := by
  refine SpecF.of Tryz.func13 rfl Tryz.ntmps13 rfl (bdl_cons (fun _ _ => rfl) (bdl_nil _)) fun ρ w => ?_
  refine sS_ ?_
  refine R.cl [0] (checkP_spec nm ar L o cp hL) Tryz.call15 hS8_ rfl rfl rfl (fun _ => rfl) rfl (by kernel_rfl) fun _ _ => ?_
  obtain ⟨e, he⟩ : ∃ e, (chkP nm ar L).2 = e := ⟨_, rfl⟩
  unfold printO
  rw [he]
  refine sS_ ?_
  by_cases h0 : e = 0
  · subst h0
    obtain ⟨hnm, har0, har1, hl64, hok⟩ := chkP_ok he
    have hnms := strB_size nm
    have hari : i64 ar := ⟨by omega, by omega⟩
    have hil := itoa_le hari
    rw [if_pos rfl, show decide ((0 : Int) ≠ 0) = false from rfl]
    refine sS_ ?_
    refine R.cl [] (shapes_spec) Tryz.call18 hS8_ rfl rfl rfl (fun _ => rfl) rfl (by kernel_rfl) fun _ _ => ?_
    refine sS_ ?_
    refine C.lessR [] 26 [(1, .ptr 1 0 0 0), (6, .sl 24 3 0 16 16), (7, .ptr 25 0 0 0)] [(0, roI o L), (1, .cells (prA nm ar (.sl 0 8 o L.length cp)) 25), (2, one0 (.fn 41 [])), (3, one0 (.fn 44 [])), (4, one0 (.fn 45 [])), (5, one0 (.fn 42 [])), (6, one0 (.fn 41 [])), (7, roSg), (8, one0 (.sl 7 1 0 7 7)), (9, roK2 [.a, .v]), (10, roK2 [.a, .n]), (11, roK2 [.a, .b]), (12, roK2 [.a, .b]), (13, roK2 [.a, .b]), (14, roK2 [.a]), (15, roK2 [.a]), (16, roK2 [.a, .b, .c]), (17, roK2 [.a, .b, .c]), (18, roK2 [.a, .b, .c]), (19, roK2 [.a, .b, .c]), (20, roK2 [.b, .s, .c]), (21, roK2 [.k, .b, .s, .c]), (22, roK2 [.a, .b, .c, .n]), (23, roK2 [.a, .b, .c, .n]), (24, roSh2), (25, .cells [.raw (.pointer none), .raw (.slice none 0 0)] bldT)] _ rfl hS9_ hS0_ rfl (fun _ h => h) ?_
    refine C.draw [[], [0], [0, 1], [0, 1, 2], [], [4], [4, 5], [0, 1, 2, 3, 4, 5, 6], [0, 1, 2, 3, 4, 5, 6, 7], [0, 1, 2, 3, 4, 5, 6, 7, 8]] [6, 9] (by kernel_rfl) (by kernel_rfl) ?_
    refine sS_ ?_
    refine R.cat rfl rfl rfl (by kernel_rfl) (by show 5 + nm.size ≤ _; omega) ?_
    rw [show (⟨#[112, 114, 111, 99, 32]⟩ : ByteArray) ++ nm = _ from cat1 [112, 114, 111, 99, 32] nm]
    refine R.cat rfl rfl rfl (by kernel_rfl) (by rw [strOf_size, List.length_append]; show 5 + (strB nm).length + 1 ≤ _; omega) ?_
    rw [show strOf ([112, 114, 111, 99, 32] ++ strB nm) ++ (⟨#[32]⟩ : ByteArray) = _ from cat1 _ ⟨#[32]⟩]
    refine sS_ ?_
    refine R.clR [] (itoa_spec ar hari fs hG) hG.ro Tryz.call31 hS8_ rfl rfl rfl (fun _ => rfl) rfl (by kernel_rfl) fun _ _ => ?_
    refine R.cat rfl rfl rfl (by kernel_rfl) (by rw [strOf_size, strOf_size, List.length_append, List.length_append]; show 5 + (strB nm).length + 1 + (Lib.itoa ar).length ≤ _; omega) ?_
    rw [strOf_app]
    refine R.cat rfl rfl rfl (by kernel_rfl) (by rw [strOf_size, List.length_append, List.length_append, List.length_append]; show 5 + (strB nm).length + 1 + (Lib.itoa ar).length + 1 ≤ _; omega) ?_
    rw [show strOf ([112, 114, 111, 99, 32] ++ strB nm ++ strB ⟨#[32]⟩ ++ Lib.itoa ar) ++ (⟨#[10]⟩ : ByteArray) = strOf (headP nm ar) from cat1 _ ⟨#[10]⟩]
    have hhl : (headP nm ar).length = 7 + (strB nm).length + (Lib.itoa ar).length := by
      unfold headP
      simp only [List.length_append, List.length_cons, List.length_nil]
      omega
    have hh0 : 0 < (headP nm ar).length := by omega
    obtain ⟨hd, hhd⟩ : ∃ hd, headP nm ar = hd := ⟨_, rfl⟩
    rw [hhd] at hhl hh0 ⊢
    refine R.cl [25] (write0_spec (strOf hd) (by rw [strOf_size]; omega)) Tryz.call30 hS8_ rfl rfl rfl (fun _ => rfl) rfl (by kernel_rfl) fun c0 hc0 => ?_
    rw [strOf_size] at hc0
    obtain ⟨hc0, hc0'⟩ := hc0
    refine sS_ ?_
    refine C.loop (σ := Nat × List UInt8 × Nat) (L2 := 27) (fun s => s.1 ≤ L.length ∧ s.2.1 = hd ++ (L.take s.1).flatMap lnP ∧ s.2.1.length ≤ 100 + s.1 * 100000 ∧ s.2.1.length ≤ s.2.2 ∧ s.2.2 ≤ 9223372036854775807) (fun s => [(6, .sl 24 3 0 16 16), (7, .ptr 25 0 0 0), (34, .sl 0 8 o L.length cp), (35, .raw (.int .i64 (L.length : Nat))), (36, .raw (.int .i64 (s.1 : Nat)))])
      (fun s => [(0, roI o L), (1, .cells (prA nm ar (.sl 0 8 o L.length cp)) 25), (2, one0 (.fn 41 [])), (3, one0 (.fn 44 [])), (4, one0 (.fn 45 [])), (5, one0 (.fn 42 [])), (6, one0 (.fn 41 [])), (7, roSg), (8, one0 (.sl 7 1 0 7 7)), (9, roK2 [.a, .v]), (10, roK2 [.a, .n]), (11, roK2 [.a, .b]), (12, roK2 [.a, .b]), (13, roK2 [.a, .b]), (14, roK2 [.a]), (15, roK2 [.a]), (16, roK2 [.a, .b, .c]), (17, roK2 [.a, .b, .c]), (18, roK2 [.a, .b, .c]), (19, roK2 [.a, .b, .c]), (20, roK2 [.b, .s, .c]), (21, roK2 [.k, .b, .s, .c]), (22, roK2 [.a, .b, .c, .n]), (23, roK2 [.a, .b, .c, .n]), (24, roSh2), (25, .cells [.ptr 25 0 0 0, .sl 26 1 0 s.2.1.length s.2.2] bldT), (26, .bytes s.2.1 s.2.2 5)]) _ (fun s => L.length - s.1) [] (0, hd, c0) ⟨Nat.zero_le _, by simp, by dsimp only; omega, hc0, hc0'⟩ rfl hS9_ (by
      show HasH _ _ _ [(0, roI o L), (1, .cells (prA nm ar (.sl 0 8 o L.length cp)) 25), (2, one0 (.fn 41 [])), (3, one0 (.fn 44 [])), (4, one0 (.fn 45 [])), (5, one0 (.fn 42 [])), (6, one0 (.fn 41 [])), (7, roSg), (8, one0 (.sl 7 1 0 7 7)), (9, roK2 [.a, .v]), (10, roK2 [.a, .n]), (11, roK2 [.a, .b]), (12, roK2 [.a, .b]), (13, roK2 [.a, .b]), (14, roK2 [.a]), (15, roK2 [.a]), (16, roK2 [.a, .b, .c]), (17, roK2 [.a, .b, .c]), (18, roK2 [.a, .b, .c]), (19, roK2 [.a, .b, .c]), (20, roK2 [.b, .s, .c]), (21, roK2 [.k, .b, .s, .c]), (22, roK2 [.a, .b, .c, .n]), (23, roK2 [.a, .b, .c, .n]), (24, roSh2), (25, .cells [.ptr 25 0 0 0, .sl 26 1 0 hd.length c0] bldT), (26, .bytes hd c0 5)]
      rw [← strOf_size hd]
      exact hS0_) rfl (fun _ h => h) ?_
    rintro ⟨i, p, c⟩ ⟨hi, hp, hpl, hc, hc'⟩
    dsimp only at hi hp hpl hc hc' ⊢
    refine sS_ ?_
    by_cases hlt : i < L.length
    · rw [decide_eq_true (show ((i : Nat) : Int) < (L.length : Nat) by omega)]
      obtain ⟨x, hx⟩ : ∃ x, L.getD i insD = x := ⟨_, rfl⟩
      have hA : insF L i = insA x := by unfold insF; rw [hx]
      have hxm : x ∈ L := by
        rw [← hx, List.getD_eq_getElem?_getD, List.getElem?_eq_getElem hlt]
        exact List.getElem_mem _
      have hxI := hI x hxm
      have hxk : InsK x := by
        have := hok i hlt
        rw [hx] at this
        exact insE_ok this
      have hnext : ∀ q, q = p ++ shL.flatMap (lnS x) → q = hd ++ (L.take (i + 1)).flatMap lnP := fun q hq => by
        rw [hq, hp, List.take_add_one, List.flatMap_append, List.append_assoc]
        congr 2
        have : L[i]? = some x := by
          rw [← hx, List.getD_eq_getElem?_getD, List.getElem?_eq_getElem hlt]
          rfl
        rw [this]
        simp [lnP]
      clear hp
      have hi64 : i < 64 := by omega
      refine sS_ ?_
      refine R.ix ttok i rfl rfl rfl rfl rfl (by kernel_rfl) rfl hlt ⟨by omega, by omega⟩ rfl ?_
      refine R.ldo (v := .agg (insA x)) ttok rfl rfl rfl (by rw [hA]; rfl) rfl (by kernel_rfl) hlt ?_
      refine sS_ ?_
      refine C.loop (σ := Nat × List UInt8 × Nat) (L2 := 28) (fun s => s.1 ≤ 16 ∧ s.2.1 = p ++ (shL.take s.1).flatMap (lnS x) ∧ s.2.1.length ≤ 100 + i * 100000 + s.1 * 6000 ∧ s.2.1.length ≤ s.2.2 ∧ s.2.2 ≤ 9223372036854775807) (fun s => [(6, .sl 24 3 0 16 16), (7, .ptr 25 0 0 0), (9, .ptr 27 0 0 0), (34, .sl 0 8 o L.length cp), (35, .raw (.int .i64 (L.length : Nat))), (36, .raw (.int .i64 (i : Nat))), (40, .sl 24 3 0 16 16), (41, .raw (.int .i64 16)), (42, .raw (.int .i64 (s.1 : Nat)))])
        (fun s => [(0, roI o L), (1, .cells (prA nm ar (.sl 0 8 o L.length cp)) 25), (2, one0 (.fn 41 [])), (3, one0 (.fn 44 [])), (4, one0 (.fn 45 [])), (5, one0 (.fn 42 [])), (6, one0 (.fn 41 [])), (7, roSg), (8, one0 (.sl 7 1 0 7 7)), (9, roK2 [.a, .v]), (10, roK2 [.a, .n]), (11, roK2 [.a, .b]), (12, roK2 [.a, .b]), (13, roK2 [.a, .b]), (14, roK2 [.a]), (15, roK2 [.a]), (16, roK2 [.a, .b, .c]), (17, roK2 [.a, .b, .c]), (18, roK2 [.a, .b, .c]), (19, roK2 [.a, .b, .c]), (20, roK2 [.b, .s, .c]), (21, roK2 [.k, .b, .s, .c]), (22, roK2 [.a, .b, .c, .n]), (23, roK2 [.a, .b, .c, .n]), (24, roSh2), (25, .cells [.ptr 25 0 0 0, .sl 26 1 0 s.2.1.length s.2.2] bldT), (26, .bytes s.2.1 s.2.2 5), (27, insO x)]) _ (fun s => 16 - s.1) [] (0, p, c) ⟨Nat.zero_le _, by simp, hpl, hc, hc'⟩ rfl hS9_ hS0_ rfl (fun _ h => h) ?_
      clear hpl hc hc'
      rintro ⟨j, q, c⟩ ⟨hj, hq, hql, hc, hc'⟩
      dsimp only at hj hq hql hc hc' ⊢
      refine sS_ ?_
      by_cases hjl : j < 16
      · rw [decide_eq_true (show ((j : Nat) : Int) < 16 by omega)]
        repeat (first | refine C.seq ?_ | refine R.zb ttok ?_ | refine R.zu ttok ?_ | refine R.zc ttok ?_ | refine R.za ttok ?_ | refine R.zx ?_ | refine R.zl ttok ?_ | refine R.zs ttok ?_ | refine R.z ttok ?_ | refine R.zk ?_ | refine R.zn ?_ | refine R.done ?_ | refine X.then ?_ | refine C.block ?_ | refine C.ret ?_ | refine C.skip ?_ | refine C.exit ?_ | refine X.pass_ret ?_ | refine X.pass_exit ?_ | refine X.block_normal ?_ | refine X.block_ret ?_ | refine X.block_exit ?_ | refine C.zt ?_ | refine C.zf ?_ | refine X.zo ?_)
        refine C.cuts (σ := Sh) 30 (fun s => shL[j]? = some s) (fun s => [(6, .sl 24 3 0 16 16), (7, .ptr 25 0 0 0), (9, .ptr 27 0 0 0), (11, .ptr 28 0 0 0), (34, .sl 0 8 o L.length cp), (35, .raw (.int .i64 (L.length : Nat))), (36, .raw (.int .i64 (i : Nat))), (40, .sl 24 3 0 16 16), (41, .raw (.int .i64 16)), (42, .raw (.int .i64 (j : Nat)))])
          (fun s => [(0, roI o L), (1, .cells (prA nm ar (.sl 0 8 o L.length cp)) 25), (2, one0 (.fn 41 [])), (3, one0 (.fn 44 [])), (4, one0 (.fn 45 [])), (5, one0 (.fn 42 [])), (6, one0 (.fn 41 [])), (7, roSg), (8, one0 (.sl 7 1 0 7 7)), (9, roK2 [.a, .v]), (10, roK2 [.a, .n]), (11, roK2 [.a, .b]), (12, roK2 [.a, .b]), (13, roK2 [.a, .b]), (14, roK2 [.a]), (15, roK2 [.a]), (16, roK2 [.a, .b, .c]), (17, roK2 [.a, .b, .c]), (18, roK2 [.a, .b, .c]), (19, roK2 [.a, .b, .c]), (20, roK2 [.b, .s, .c]), (21, roK2 [.k, .b, .s, .c]), (22, roK2 [.a, .b, .c, .n]), (23, roK2 [.a, .b, .c, .n]), (24, roSh2), (25, .cells [.ptr 25 0 0 0, .sl 26 1 0 q.length c] bldT), (26, .bytes q c 5), (27, insO x), (28, .cells [.raw (.string s.w), .raw (.int .i64 (s.op : Nat)), .sl 29 2 0 s.f.length s.f.length] shpT), (29, roK2 s.f)]) ?_ ?_
        · refine sS_ ?_
          refine R.ix ttok j rfl rfl rfl rfl rfl (by kernel_rfl) rfl hjl ⟨Nat.zero_le _, by omega⟩ rfl ?_
          by_cases e0 : j = 0
          · subst e0
            refine R.ldo (v := .agg [.raw (.string ⟨#[115, 101, 116]⟩), .raw (.int .i64 1), .sl 9 2 0 2 2]) ttok rfl rfl rfl rfl rfl (by kernel_rfl) (by decide) ?_
            refine sS_ ?_
            exact X.backR [(29, 9)] ⟨⟨#[115, 101, 116]⟩, 1, [.a, .v]⟩ rfl Nat.zero_lt_one rfl hS9_ hS0_ rfl (fun _ h => h)
          by_cases e1 : j = 1
          · subst e1
            refine R.ldo (v := .agg [.raw (.string ⟨#[97, 114, 103]⟩), .raw (.int .i64 2), .sl 10 2 0 2 2]) ttok rfl rfl rfl rfl rfl (by kernel_rfl) (by decide) ?_
            refine sS_ ?_
            exact X.backR [(29, 10)] ⟨⟨#[97, 114, 103]⟩, 2, [.a, .n]⟩ rfl Nat.zero_lt_one rfl hS9_ hS0_ rfl (fun _ h => h)
          by_cases e2 : j = 2
          · subst e2
            refine R.ldo (v := .agg [.raw (.string ⟨#[103, 101, 116]⟩), .raw (.int .i64 3), .sl 11 2 0 2 2]) ttok rfl rfl rfl rfl rfl (by kernel_rfl) (by decide) ?_
            refine sS_ ?_
            exact X.backR [(29, 11)] ⟨⟨#[103, 101, 116]⟩, 3, [.a, .b]⟩ rfl Nat.zero_lt_one rfl hS9_ hS0_ rfl (fun _ h => h)
          by_cases e3 : j = 3
          · subst e3
            refine R.ldo (v := .agg [.raw (.string ⟨#[110, 101, 120, 116]⟩), .raw (.int .i64 14), .sl 12 2 0 2 2]) ttok rfl rfl rfl rfl rfl (by kernel_rfl) (by decide) ?_
            refine sS_ ?_
            exact X.backR [(29, 12)] ⟨⟨#[110, 101, 120, 116]⟩, 14, [.a, .b]⟩ rfl Nat.zero_lt_one rfl hS9_ hS0_ rfl (fun _ h => h)
          by_cases e4 : j = 4
          · subst e4
            refine R.ldo (v := .agg [.raw (.string ⟨#[112, 117, 116]⟩), .raw (.int .i64 4), .sl 13 2 0 2 2]) ttok rfl rfl rfl rfl rfl (by kernel_rfl) (by decide) ?_
            refine sS_ ?_
            exact X.backR [(29, 13)] ⟨⟨#[112, 117, 116]⟩, 4, [.a, .b]⟩ rfl Nat.zero_lt_one rfl hS9_ hS0_ rfl (fun _ h => h)
          by_cases e5 : j = 5
          · subst e5
            refine R.ldo (v := .agg [.raw (.string ⟨#[100, 101, 108]⟩), .raw (.int .i64 5), .sl 14 2 0 1 1]) ttok rfl rfl rfl rfl rfl (by kernel_rfl) (by decide) ?_
            refine sS_ ?_
            exact X.backR [(29, 14)] ⟨⟨#[100, 101, 108]⟩, 5, [.a]⟩ rfl Nat.zero_lt_one rfl hS9_ hS0_ rfl (fun _ h => h)
          by_cases e6 : j = 6
          · subst e6
            refine R.ldo (v := .agg [.raw (.string ⟨#[116, 101, 108, 108]⟩), .raw (.int .i64 15), .sl 15 2 0 1 1]) ttok rfl rfl rfl rfl rfl (by kernel_rfl) (by decide) ?_
            refine sS_ ?_
            exact X.backR [(29, 15)] ⟨⟨#[116, 101, 108, 108]⟩, 15, [.a]⟩ rfl Nat.zero_lt_one rfl hS9_ hS0_ rfl (fun _ h => h)
          by_cases e7 : j = 7
          · subst e7
            refine R.ldo (v := .agg [.raw (.string ⟨#[97, 100, 100]⟩), .raw (.int .i64 6), .sl 16 2 0 3 3]) ttok rfl rfl rfl rfl rfl (by kernel_rfl) (by decide) ?_
            refine sS_ ?_
            exact X.backR [(29, 16)] ⟨⟨#[97, 100, 100]⟩, 6, [.a, .b, .c]⟩ rfl Nat.zero_lt_one rfl hS9_ hS0_ rfl (fun _ h => h)
          by_cases e8 : j = 8
          · subst e8
            refine R.ldo (v := .agg [.raw (.string ⟨#[115, 117, 98]⟩), .raw (.int .i64 7), .sl 17 2 0 3 3]) ttok rfl rfl rfl rfl rfl (by kernel_rfl) (by decide) ?_
            refine sS_ ?_
            exact X.backR [(29, 17)] ⟨⟨#[115, 117, 98]⟩, 7, [.a, .b, .c]⟩ rfl Nat.zero_lt_one rfl hS9_ hS0_ rfl (fun _ h => h)
          by_cases e9 : j = 9
          · subst e9
            refine R.ldo (v := .agg [.raw (.string ⟨#[109, 117, 108]⟩), .raw (.int .i64 8), .sl 18 2 0 3 3]) ttok rfl rfl rfl rfl rfl (by kernel_rfl) (by decide) ?_
            refine sS_ ?_
            exact X.backR [(29, 18)] ⟨⟨#[109, 117, 108]⟩, 8, [.a, .b, .c]⟩ rfl Nat.zero_lt_one rfl hS9_ hS0_ rfl (fun _ h => h)
          by_cases e10 : j = 10
          · subst e10
            refine R.ldo (v := .agg [.raw (.string ⟨#[106, 111, 105, 110]⟩), .raw (.int .i64 9), .sl 19 2 0 3 3]) ttok rfl rfl rfl rfl rfl (by kernel_rfl) (by decide) ?_
            refine sS_ ?_
            exact X.backR [(29, 19)] ⟨⟨#[106, 111, 105, 110]⟩, 9, [.a, .b, .c]⟩ rfl Nat.zero_lt_one rfl hS9_ hS0_ rfl (fun _ h => h)
          by_cases e11 : j = 11
          · subst e11
            refine R.ldo (v := .agg [.raw (.string ⟨#[110, 101, 101, 100]⟩), .raw (.int .i64 10), .sl 20 2 0 3 3]) ttok rfl rfl rfl rfl rfl (by kernel_rfl) (by decide) ?_
            refine sS_ ?_
            exact X.backR [(29, 20)] ⟨⟨#[110, 101, 101, 100]⟩, 10, [.b, .s, .c]⟩ rfl Nat.zero_lt_one rfl hS9_ hS0_ rfl (fun _ h => h)
          by_cases e12 : j = 12
          · subst e12
            refine R.ldo (v := .agg [.raw (.string ⟨#[115, 107, 105, 112]⟩), .raw (.int .i64 11), .sl 21 2 0 4 4]) ttok rfl rfl rfl rfl rfl (by kernel_rfl) (by decide) ?_
            refine sS_ ?_
            exact X.backR [(29, 21)] ⟨⟨#[115, 107, 105, 112]⟩, 11, [.k, .b, .s, .c]⟩ rfl Nat.zero_lt_one rfl hS9_ hS0_ rfl (fun _ h => h)
          by_cases e13 : j = 13
          · subst e13
            refine R.ldo (v := .agg [.raw (.string ⟨#[115, 117, 109]⟩), .raw (.int .i64 12), .sl 22 2 0 4 4]) ttok rfl rfl rfl rfl rfl (by kernel_rfl) (by decide) ?_
            refine sS_ ?_
            exact X.backR [(29, 22)] ⟨⟨#[115, 117, 109]⟩, 12, [.a, .b, .c, .n]⟩ rfl Nat.zero_lt_one rfl hS9_ hS0_ rfl (fun _ h => h)
          by_cases e14 : j = 14
          · subst e14
            refine R.ldo (v := .agg [.raw (.string ⟨#[99, 111, 117, 110, 116]⟩), .raw (.int .i64 13), .sl 23 2 0 4 4]) ttok rfl rfl rfl rfl rfl (by kernel_rfl) (by decide) ?_
            refine sS_ ?_
            exact X.backR [(29, 23)] ⟨⟨#[99, 111, 117, 110, 116]⟩, 13, [.a, .b, .c, .n]⟩ rfl Nat.zero_lt_one rfl hS9_ hS0_ rfl (fun _ h => h)
          obtain rfl : j = 15 := by omega
          refine R.ldo (v := .agg [.raw (.string ⟨#[115, 116, 111, 112]⟩), .raw (.int .i64 16), .raw (.slice none 0 0)]) ttok rfl rfl rfl rfl rfl (by kernel_rfl) (by decide) ?_
          refine sS_ ?_
          refine X.noneH 28 [.raw (.string ⟨#[115, 116, 111, 112]⟩), .raw (.int .i64 16), .sl 29 2 0 0 0] (.tab 2 0 0 (fkF2 []) fldT) (none_tab _ _ _ _) rfl rfl rfl (fun ρ h => by
            have h : ρ 29 = none := h
            show _ = AV.concs ρ [.raw (.string ⟨#[115, 116, 111, 112]⟩), .raw (.int .i64 16), .raw (.slice none 0 0)]
            simp [AV.concs, AV.conc, h]) ?_
          exact X.backR [] ⟨⟨#[115, 116, 111, 112]⟩, 16, []⟩ rfl Nat.zero_lt_one rfl hS9_ hS0_ rfl (fun _ h => h)
        · rintro s hs
          obtain ⟨hw5, hsv, hss⟩ := sh_word hs
          have hl4 := sh_len hs
          have hqn : ∀ q', q' = q ++ lnS x s → q' = p ++ (shL.take (j + 1)).flatMap (lnS x) := fun q' h => by
            rw [h, hq, List.take_add_one, hs, List.flatMap_append, List.append_assoc]
            simp
          clear hq
          refine sS_ ?_
          by_cases hop : ((s.op : Nat) : Int) = x.o
          · rw [decide_eq_false (show ¬ ((s.op : Nat) : Int) ≠ x.o from fun h => h hop)]
            have hln : lnS x s = lineS s x := if_pos hop
            rw [hln] at hqn
            refine sS_ ?_
            refine R.cat rfl rfl rfl (by kernel_rfl) (by rw [← strB_size s.w]; show 2 + (strB s.w).length ≤ _; omega) ?_
            rw [show (⟨#[32, 32]⟩ : ByteArray) ++ s.w = _ from cat1 [32, 32] s.w]
            have hsl : ([32, 32] ++ strB s.w).length ≤ 7 := by rw [List.length_append]; show 2 + _ ≤ 7; omega
            obtain ⟨tl, htl⟩ : ∃ tl, [32, 32] ++ strB s.w = tl := ⟨_, rfl⟩
            rw [htl] at hsl ⊢
            refine R.cl [25, 26] (write_spec q c (strOf tl) hc' (by rw [strOf_size]; omega)) Tryz.call30 hS8_ rfl rfl rfl (fun _ => rfl) rfl (by kernel_rfl) fun c1 hc1 => ?_
            rw [show strB (strOf tl) = tl from rfl] at hc1 ⊢
            obtain ⟨hc1, hc1'⟩ := hc1
            have hq1 : (q ++ tl).length ≤ 100 + i * 100000 + j * 6000 + 10 := by rw [List.length_append]; omega
            have hq1q : q ++ tl ++ s.f.flatMap (fun k => 32 :: k.wr x) ++ [10] = q ++ lineS s x := by
              unfold lineS
              rw [htl]
              simp
            rw [← hq1q] at hqn
            clear hq1q
            obtain ⟨q1, hq1e⟩ : ∃ q1, q ++ tl = q1 := ⟨_, rfl⟩
            rw [hq1e] at hq1 hc1 hqn ⊢
            refine sS_ ?_
            refine C.loop (σ := Nat × List UInt8 × Nat) (L2 := 31) (fun y => y.1 ≤ s.f.length ∧ y.2.1 = q1 ++ (s.f.take y.1).flatMap (fun k => 32 :: k.wr x) ∧ y.2.1.length ≤ 100 + i * 100000 + j * 6000 + 10 + y.1 * 1100 ∧ y.2.1.length ≤ y.2.2 ∧ y.2.2 ≤ 9223372036854775807)
              (fun y => [(6, .sl 24 3 0 16 16), (7, .ptr 25 0 0 0), (9, .ptr 27 0 0 0), (34, .sl 0 8 o L.length cp), (35, .raw (.int .i64 (L.length : Nat))), (36, .raw (.int .i64 (i : Nat))), (40, .sl 24 3 0 16 16), (41, .raw (.int .i64 16)), (42, .raw (.int .i64 (j : Nat))), (56, .sl 29 2 0 s.f.length s.f.length), (57, .raw (.int .i64 (s.f.length : Nat))), (58, .raw (.int .i64 (y.1 : Nat)))])
              (fun y => [(0, roI o L), (1, .cells (prA nm ar (.sl 0 8 o L.length cp)) 25), (2, one0 (.fn 41 [])), (3, one0 (.fn 44 [])), (4, one0 (.fn 45 [])), (5, one0 (.fn 42 [])), (6, one0 (.fn 41 [])), (7, roSg), (8, one0 (.sl 7 1 0 7 7)), (9, roK2 [.a, .v]), (10, roK2 [.a, .n]), (11, roK2 [.a, .b]), (12, roK2 [.a, .b]), (13, roK2 [.a, .b]), (14, roK2 [.a]), (15, roK2 [.a]), (16, roK2 [.a, .b, .c]), (17, roK2 [.a, .b, .c]), (18, roK2 [.a, .b, .c]), (19, roK2 [.a, .b, .c]), (20, roK2 [.b, .s, .c]), (21, roK2 [.k, .b, .s, .c]), (22, roK2 [.a, .b, .c, .n]), (23, roK2 [.a, .b, .c, .n]), (24, roSh2), (25, .cells [.ptr 25 0 0 0, .sl 30 1 0 y.2.1.length y.2.2] bldT), (27, insO x), (29, roK2 s.f), (30, .bytes y.2.1 y.2.2 5)]) _ (fun y => s.f.length - y.1) [] (0, q1, c1) ⟨Nat.zero_le _, by simp, hq1, hc1, hc1'⟩ rfl hS9_ hS0_ rfl (fun _ h => h) ?_
            clear hq1 hc1 hc1'
            rintro ⟨k, r, c⟩ ⟨hk, hr, hrl, hc, hc'⟩
            dsimp only at hk hr hrl hc hc' ⊢
            refine sS_ ?_
            by_cases hkl : k < s.f.length
            · rw [decide_eq_true (show ((k : Nat) : Int) < (s.f.length : Nat) by omega)]
              obtain ⟨fk, hfk⟩ : ∃ fk, s.f[k]? = some fk := ⟨_, List.getElem?_eq_getElem hkl⟩
              have hfm : fk ∈ s.f := List.mem_of_getElem? hfk
              have hB := fkF2_at hfk
              have hwl : (fk.wr x).length ≤ 1030 := wr_len hxI fk (fun hq => hxk.tx (by
                subst hq
                rw [hsv hfm] at hop
                omega))
              have hgo : ∀ r', r' = r ++ (32 :: fk.wr x) → r' = q1 ++ (s.f.take (k + 1)).flatMap (fun k => 32 :: k.wr x) := fun r' h => by
                rw [h, hr, List.take_add_one, hfk, List.flatMap_append, List.append_assoc]
                simp
              clear hr
              obtain ⟨hia, hib, hic, hin, hii⟩ := hxI
              cases fk with
              | a =>
                refine sS_ ?_
                refine R.ix ttok k rfl rfl rfl rfl rfl (by kernel_rfl) rfl hkl ⟨by omega, by omega⟩ rfl ?_
                refine R.ldo (v := .agg (FK.av2 .a)) ttok rfl rfl rfl (by rw [hB]; rfl) rfl (by kernel_rfl) hkl ?_
                refine sS_ ?_
                refine R.clR [2] (regA_write x hia fs hG) hG.ro Tryz.call88 hS8_ rfl rfl rfl (fun _ => rfl) rfl (by kernel_rfl) fun _ _ => ?_
                refine sS_ ?_
                refine R.cat rfl rfl rfl (by kernel_rfl) (by rw [strOf_size]; show 1 + _ ≤ _; omega) ?_
                rw [show (⟨#[32]⟩ : ByteArray) ++ strOf (FK.wr x .a) = strOf (32 :: FK.wr x .a) from cat1 [32] _]
                refine R.cl [25, 30] (write_spec r c (strOf (32 :: FK.wr x .a)) hc' (by rw [strOf_size, List.length_cons]; omega)) Tryz.call30 hS8_ rfl rfl rfl (fun _ => rfl) rfl (by kernel_rfl) fun c2 hc2 => ?_
                rw [show strB (strOf (32 :: FK.wr x .a)) = 32 :: FK.wr x .a from rfl] at hc2 ⊢
                have hr2 : (r ++ 32 :: FK.wr x .a).length ≤ 100 + i * 100000 + j * 6000 + 10 + (k + 1) * 1100 := by rw [List.length_append, List.length_cons]; omega
                refine sS_ ?_
                exact X.back [(30, 32)] (k + 1, r ++ 32 :: FK.wr x .a, c2) ⟨hkl, hgo _ rfl, hr2, hc2.1, hc2.2⟩ (by dsimp only; omega) rfl hS9_ hS0_ rfl (fun _ h => h)
              | b =>
                refine sS_ ?_
                refine R.ix ttok k rfl rfl rfl rfl rfl (by kernel_rfl) rfl hkl ⟨by omega, by omega⟩ rfl ?_
                refine R.ldo (v := .agg (FK.av2 .b)) ttok rfl rfl rfl (by rw [hB]; rfl) rfl (by kernel_rfl) hkl ?_
                refine sS_ ?_
                refine R.clR [3] (regB_write x hib fs hG) hG.ro Tryz.call88 hS8_ rfl rfl rfl (fun _ => rfl) rfl (by kernel_rfl) fun _ _ => ?_
                refine sS_ ?_
                refine R.cat rfl rfl rfl (by kernel_rfl) (by rw [strOf_size]; show 1 + _ ≤ _; omega) ?_
                rw [show (⟨#[32]⟩ : ByteArray) ++ strOf (FK.wr x .b) = strOf (32 :: FK.wr x .b) from cat1 [32] _]
                refine R.cl [25, 30] (write_spec r c (strOf (32 :: FK.wr x .b)) hc' (by rw [strOf_size, List.length_cons]; omega)) Tryz.call30 hS8_ rfl rfl rfl (fun _ => rfl) rfl (by kernel_rfl) fun c2 hc2 => ?_
                rw [show strB (strOf (32 :: FK.wr x .b)) = 32 :: FK.wr x .b from rfl] at hc2 ⊢
                have hr2 : (r ++ 32 :: FK.wr x .b).length ≤ 100 + i * 100000 + j * 6000 + 10 + (k + 1) * 1100 := by rw [List.length_append, List.length_cons]; omega
                refine sS_ ?_
                exact X.back [(30, 32)] (k + 1, r ++ 32 :: FK.wr x .b, c2) ⟨hkl, hgo _ rfl, hr2, hc2.1, hc2.2⟩ (by dsimp only; omega) rfl hS9_ hS0_ rfl (fun _ h => h)
              | c =>
                refine sS_ ?_
                refine R.ix ttok k rfl rfl rfl rfl rfl (by kernel_rfl) rfl hkl ⟨by omega, by omega⟩ rfl ?_
                refine R.ldo (v := .agg (FK.av2 .c)) ttok rfl rfl rfl (by rw [hB]; rfl) rfl (by kernel_rfl) hkl ?_
                refine sS_ ?_
                refine R.clR [4] (regC_write x hic fs hG) hG.ro Tryz.call88 hS8_ rfl rfl rfl (fun _ => rfl) rfl (by kernel_rfl) fun _ _ => ?_
                refine sS_ ?_
                refine R.cat rfl rfl rfl (by kernel_rfl) (by rw [strOf_size]; show 1 + _ ≤ _; omega) ?_
                rw [show (⟨#[32]⟩ : ByteArray) ++ strOf (FK.wr x .c) = strOf (32 :: FK.wr x .c) from cat1 [32] _]
                refine R.cl [25, 30] (write_spec r c (strOf (32 :: FK.wr x .c)) hc' (by rw [strOf_size, List.length_cons]; omega)) Tryz.call30 hS8_ rfl rfl rfl (fun _ => rfl) rfl (by kernel_rfl) fun c2 hc2 => ?_
                rw [show strB (strOf (32 :: FK.wr x .c)) = 32 :: FK.wr x .c from rfl] at hc2 ⊢
                have hr2 : (r ++ 32 :: FK.wr x .c).length ≤ 100 + i * 100000 + j * 6000 + 10 + (k + 1) * 1100 := by rw [List.length_append, List.length_cons]; omega
                refine sS_ ?_
                exact X.back [(30, 32)] (k + 1, r ++ 32 :: FK.wr x .c, c2) ⟨hkl, hgo _ rfl, hr2, hc2.1, hc2.2⟩ (by dsimp only; omega) rfl hS9_ hS0_ rfl (fun _ h => h)
              | n =>
                refine sS_ ?_
                refine R.ix ttok k rfl rfl rfl rfl rfl (by kernel_rfl) rfl hkl ⟨by omega, by omega⟩ rfl ?_
                refine R.ldo (v := .agg (FK.av2 .n)) ttok rfl rfl rfl (by rw [hB]; rfl) rfl (by kernel_rfl) hkl ?_
                refine sS_ ?_
                refine R.clR [5] (plainN_write x hin fs hG) hG.ro Tryz.call90 hS8_ rfl rfl rfl (fun _ => rfl) rfl (by kernel_rfl) fun _ _ => ?_
                refine sS_ ?_
                refine R.cat rfl rfl rfl (by kernel_rfl) (by rw [strOf_size]; show 1 + _ ≤ _; omega) ?_
                rw [show (⟨#[32]⟩ : ByteArray) ++ strOf (FK.wr x .n) = strOf (32 :: FK.wr x .n) from cat1 [32] _]
                refine R.cl [25, 30] (write_spec r c (strOf (32 :: FK.wr x .n)) hc' (by rw [strOf_size, List.length_cons]; omega)) Tryz.call30 hS8_ rfl rfl rfl (fun _ => rfl) rfl (by kernel_rfl) fun c2 hc2 => ?_
                rw [show strB (strOf (32 :: FK.wr x .n)) = 32 :: FK.wr x .n from rfl] at hc2 ⊢
                have hr2 : (r ++ 32 :: FK.wr x .n).length ≤ 100 + i * 100000 + j * 6000 + 10 + (k + 1) * 1100 := by rw [List.length_append, List.length_cons]; omega
                refine sS_ ?_
                exact X.back [(30, 32)] (k + 1, r ++ 32 :: FK.wr x .n, c2) ⟨hkl, hgo _ rfl, hr2, hc2.1, hc2.2⟩ (by dsimp only; omega) rfl hS9_ hS0_ rfl (fun _ h => h)
              | k =>
                refine sS_ ?_
                refine R.ix ttok k rfl rfl rfl rfl rfl (by kernel_rfl) rfl hkl ⟨by omega, by omega⟩ rfl ?_
                refine R.ldo (v := .agg (FK.av2 .k)) ttok rfl rfl rfl (by rw [hB]; rfl) rfl (by kernel_rfl) hkl ?_
                refine sS_ ?_
                refine R.clR [6] (plainA_write x hia fs hG) hG.ro Tryz.call90 hS8_ rfl rfl rfl (fun _ => rfl) rfl (by kernel_rfl) fun _ _ => ?_
                refine sS_ ?_
                refine R.cat rfl rfl rfl (by kernel_rfl) (by rw [strOf_size]; show 1 + _ ≤ _; omega) ?_
                rw [show (⟨#[32]⟩ : ByteArray) ++ strOf (FK.wr x .k) = strOf (32 :: FK.wr x .k) from cat1 [32] _]
                refine R.cl [25, 30] (write_spec r c (strOf (32 :: FK.wr x .k)) hc' (by rw [strOf_size, List.length_cons]; omega)) Tryz.call30 hS8_ rfl rfl rfl (fun _ => rfl) rfl (by kernel_rfl) fun c2 hc2 => ?_
                rw [show strB (strOf (32 :: FK.wr x .k)) = 32 :: FK.wr x .k from rfl] at hc2 ⊢
                have hr2 : (r ++ 32 :: FK.wr x .k).length ≤ 100 + i * 100000 + j * 6000 + 10 + (k + 1) * 1100 := by rw [List.length_append, List.length_cons]; omega
                refine sS_ ?_
                exact X.back [(30, 32)] (k + 1, r ++ 32 :: FK.wr x .k, c2) ⟨hkl, hgo _ rfl, hr2, hc2.1, hc2.2⟩ (by dsimp only; omega) rfl hS9_ hS0_ rfl (fun _ h => h)
              | s =>
                have hsg := hxk.sg (by rcases hss hfm with h | h <;> rw [h] at hop <;> omega)
                refine sS_ ?_
                refine R.ix ttok k rfl rfl rfl rfl rfl (by kernel_rfl) rfl hkl ⟨by omega, by omega⟩ rfl ?_
                refine R.ldo (v := .agg (FK.av2 .s)) ttok rfl rfl rfl (by rw [hB]; rfl) rfl (by kernel_rfl) hkl ?_
                refine sS_ ?_
                refine R.cl [8, 7] (sign_write x (by omega)) Tryz.call48 hS8_ rfl rfl rfl (fun _ => rfl) rfl (by kernel_rfl) fun _ _ => ?_
                refine sS_ ?_
                refine R.cat rfl rfl rfl (by kernel_rfl) (by rw [strOf_size]; show 1 + _ ≤ _; omega) ?_
                rw [show (⟨#[32]⟩ : ByteArray) ++ strOf (FK.wr x .s) = strOf (32 :: FK.wr x .s) from cat1 [32] _]
                refine R.cl [25, 30] (write_spec r c (strOf (32 :: FK.wr x .s)) hc' (by rw [strOf_size, List.length_cons]; omega)) Tryz.call30 hS8_ rfl rfl rfl (fun _ => rfl) rfl (by kernel_rfl) fun c2 hc2 => ?_
                rw [show strB (strOf (32 :: FK.wr x .s)) = 32 :: FK.wr x .s from rfl] at hc2 ⊢
                have hr2 : (r ++ 32 :: FK.wr x .s).length ≤ 100 + i * 100000 + j * 6000 + 10 + (k + 1) * 1100 := by rw [List.length_append, List.length_cons]; omega
                refine sS_ ?_
                exact X.back [(30, 32)] (k + 1, r ++ 32 :: FK.wr x .s, c2) ⟨hkl, hgo _ rfl, hr2, hc2.1, hc2.2⟩ (by dsimp only; omega) rfl hS9_ hS0_ rfl (fun _ h => h)
              | v =>
                have htx := hxk.tx (by rw [hsv hfm] at hop; omega)
                refine sS_ ?_
                refine R.ix ttok k rfl rfl rfl rfl rfl (by kernel_rfl) rfl hkl ⟨by omega, by omega⟩ rfl ?_
                refine R.ldo (v := .agg (FK.av2 .v)) ttok rfl rfl rfl (by rw [hB]; rfl) rfl (by kernel_rfl) hkl ?_
                refine sS_ ?_
                refine R.clR [] (value_write x hii (by omega) fs hG) hG.ro Tryz.call51 hS8_ rfl rfl rfl (fun _ => rfl) rfl (by kernel_rfl) fun _ _ => ?_
                refine sS_ ?_
                refine R.cat rfl rfl rfl (by kernel_rfl) (by rw [strOf_size]; show 1 + _ ≤ _; omega) ?_
                rw [show (⟨#[32]⟩ : ByteArray) ++ strOf (FK.wr x .v) = strOf (32 :: FK.wr x .v) from cat1 [32] _]
                refine R.cl [25, 30] (write_spec r c (strOf (32 :: FK.wr x .v)) hc' (by rw [strOf_size, List.length_cons]; omega)) Tryz.call30 hS8_ rfl rfl rfl (fun _ => rfl) rfl (by kernel_rfl) fun c2 hc2 => ?_
                rw [show strB (strOf (32 :: FK.wr x .v)) = 32 :: FK.wr x .v from rfl] at hc2 ⊢
                have hr2 : (r ++ 32 :: FK.wr x .v).length ≤ 100 + i * 100000 + j * 6000 + 10 + (k + 1) * 1100 := by rw [List.length_append, List.length_cons]; omega
                refine sS_ ?_
                exact X.back [(30, 32)] (k + 1, r ++ 32 :: FK.wr x .v, c2) ⟨hkl, hgo _ rfl, hr2, hc2.1, hc2.2⟩ (by dsimp only; omega) rfl hS9_ hS0_ rfl (fun _ h => h)
            · rw [decide_eq_false (show ¬ ((k : Nat) : Int) < (s.f.length : Nat) by omega)]
              rw [List.take_of_length_le (by omega : s.f.length ≤ k)] at hr
              have hk4 : k ≤ 4 := by omega
              refine sS_ ?_
              refine R.cl [25, 30] (write_spec r c ⟨#[10]⟩ hc' (by show r.length + 1 ≤ _; omega)) Tryz.call30 hS8_ rfl rfl rfl (fun _ => rfl) rfl (by kernel_rfl) fun c2 hc2 => ?_
              rw [show strB ⟨#[10]⟩ = [10] from rfl] at hc2 ⊢
              have hql2 : (r ++ [10]).length ≤ 100 + i * 100000 + (j + 1) * 6000 := by rw [List.length_append]; show _ + 1 ≤ _; omega
              obtain ⟨q2, hq2⟩ : ∃ q2, r ++ [10] = q2 := ⟨_, rfl⟩
              have hq3 := hqn q2 (by rw [← hq2, hr])
              rw [hq2] at hc2 hql2 ⊢
              refine sS_ ?_
              exact X.back [(26, 31)] (j + 1, q2, c2) ⟨hjl, hq3, hql2, hc2.1, hc2.2⟩ (by dsimp only; omega) rfl hS9_ hS0_ rfl (fun _ h => h)
          · rw [decide_eq_true (show ((s.op : Nat) : Int) ≠ x.o from hop)]
            have hq3 := hqn q (by unfold lnS; rw [if_neg hop, List.append_nil])
            refine sS_ ?_
            exact X.back [] (j + 1, q, c) ⟨hjl, hq3, by dsimp only; omega, hc, hc'⟩ (by dsimp only; omega) rfl hS9_ hS0_ rfl (fun _ h => h)
      · rw [decide_eq_false (show ¬ ((j : Nat) : Int) < 16 by omega)]
        obtain rfl : j = 16 := by omega
        have hq3 := hnext q hq
        refine sS_ ?_
        exact X.back [] (i + 1, q, c) ⟨hlt, hq3, by dsimp only; omega, hc, hc'⟩ (by dsimp only; omega) rfl hS9_ hS0_ rfl (fun _ h => h)
    · rw [decide_eq_false (show ¬ ((i : Nat) : Int) < (L.length : Nat) by omega)]
      rw [List.take_of_length_le (by omega : L.length ≤ i)] at hp
      refine sS_ ?_
      refine R.cl [25, 26] (write_spec p c ⟨#[101, 110, 100, 10]⟩ hc' (by show p.length + 4 ≤ _; omega)) Tryz.call30 hS8_ rfl rfl rfl (fun _ => rfl) rfl (by kernel_rfl) fun c2 hc2 => ?_
      rw [show strB ⟨#[101, 110, 100, 10]⟩ = [101, 110, 100, 10] from rfl] at hc2 ⊢
      have hq2l : (p ++ [101, 110, 100, 10]).length = p.length + 4 := by rw [List.length_append]; rfl
      have hpr : p ++ [101, 110, 100, 10] = printP nm ar L := by unfold printP; rw [hp, hhd]
      rw [hpr] at hq2l hc2 ⊢
      obtain ⟨out, hout⟩ : ∃ out, printP nm ar L = out := ⟨_, rfl⟩
      rw [hout] at hq2l hc2 ⊢
      refine sS_ ?_
      refine R.cl [25, 27] (bstring_spec out c2 (by intro h; rw [h] at hq2l; cases hq2l) hc2.1 (by omega)) Tryz.call32 hS8_ rfl rfl rfl (fun _ => rfl) rfl (by kernel_rfl) fun _ _ => ?_
      refine sS_ ?_
      refine X.finF ttok () [] trivial rfl rfl rfl hS5_ _ (by first | exact .inl rfl | exact .inr rfl) ?_ ?_ ?_
      · exact fun w' hf => hf.ap
      · exact fun p hp => hp
      · exact fun p hp e => ⟨p, hp, rfl⟩
  · rw [if_neg h0, decide_eq_true (show e ≠ 0 from h0)]
    refine sS_ ?_
    refine X.finF ttok () [] trivial rfl rfl rfl hS5_ _ (by first | exact .inl rfl | exact .inr rfl) ?_ ?_ ?_
    · exact fun w' hf => hf.ap
    · exact fun p hp => hp
    · exact fun p hp e => ⟨p, hp, rfl⟩
end Go.Proofs.YtaieficgifingaaGreatDoor
namespace Go.Proofs.YtaieficgifingaaGreatDoor
set_option linter.unusedVariables false
set_option linter.constructorNameAsVariable false
set_option linter.unusedSimpArgs false
open Go.RowKit
set_option maxRecDepth 100000
set_option maxHeartbeats 8000000
def nmL : List ByteArray := [⟨#[]⟩, ⟨#[115, 101, 116]⟩, ⟨#[97, 114, 103]⟩, ⟨#[103, 101, 116]⟩, ⟨#[112, 117, 116]⟩, ⟨#[100, 101, 108]⟩, ⟨#[97, 100, 100]⟩, ⟨#[115, 117, 98]⟩, ⟨#[109, 117, 108]⟩, ⟨#[106, 111, 105, 110]⟩, ⟨#[110, 101, 101, 100]⟩, ⟨#[115, 107, 105, 112]⟩, ⟨#[115, 117, 109]⟩, ⟨#[99, 111, 117, 110, 116]⟩, ⟨#[110, 101, 120, 116]⟩, ⟨#[116, 101, 108, 108]⟩, ⟨#[115, 116, 111, 112]⟩]
def nmF (i : Nat) : List AV := [.raw (.string (nmL.getD i ⟨#[]⟩))]
abbrev roNm : AO := .ro 1 0 17 nmF
abbrev nmC : List AV := [.raw (.string ⟨#[]⟩), .raw (.string ⟨#[115, 101, 116]⟩), .raw (.string ⟨#[97, 114, 103]⟩), .raw (.string ⟨#[103, 101, 116]⟩), .raw (.string ⟨#[112, 117, 116]⟩), .raw (.string ⟨#[100, 101, 108]⟩), .raw (.string ⟨#[97, 100, 100]⟩), .raw (.string ⟨#[115, 117, 98]⟩), .raw (.string ⟨#[109, 117, 108]⟩), .raw (.string ⟨#[106, 111, 105, 110]⟩), .raw (.string ⟨#[110, 101, 101, 100]⟩), .raw (.string ⟨#[115, 107, 105, 112]⟩), .raw (.string ⟨#[115, 117, 109]⟩), .raw (.string ⟨#[99, 111, 117, 110, 116]⟩), .raw (.string ⟨#[110, 101, 120, 116]⟩), .raw (.string ⟨#[116, 101, 108, 108]⟩), .raw (.string ⟨#[115, 116, 111, 112]⟩)]
theorem cells_nm {ρ : Env} {r : Option Nat} {w : World} {T : TypeId} (h : (AO.cells nmC T).holds ρ r w) : roNm.holds ρ r w := by
  obtain ⟨b, hr, hb⟩ := h
  refine .inr ⟨b, _, T, _, hr, hb, fun i c y hi hy => ?_⟩
  match i, hi with
  | 0, _ | 1, _ | 2, _ | 3, _ | 4, _ | 5, _ | 6, _ | 7, _ | 8, _ | 9, _ | 10, _ | 11, _ | 12, _ | 13, _ | 14, _ | 15, _ | 16, _ =>
    match c, hy with
    | 0, hy => cases hy; rfl
    | c + 1, hy => simp [nmF] at hy
  | i + 17, hi => omega
def fks : Nat → List FK
  | 1 => [.a, .v]
  | 2 => [.a, .n]
  | 3 => [.a, .b]
  | 4 => [.a, .b]
  | 5 => [.a]
  | 6 => [.a, .b, .c]
  | 7 => [.a, .b, .c]
  | 8 => [.a, .b, .c]
  | 9 => [.a, .b, .c]
  | 10 => [.b, .s, .c]
  | 11 => [.k, .b, .s, .c]
  | 12 => [.a, .b, .c, .n]
  | 13 => [.a, .b, .c, .n]
  | 14 => [.a, .b]
  | 15 => [.a]
  | _ => []
def FK.lt : FK → UInt8
  | .a => 97
  | .b => 98
  | .c => 99
  | .n => 110
  | .k => 107
  | .s => 115
  | .v => 118
theorem fks_len (o : Nat) : (fks o).length ≤ 4 := by
  unfold fks
  split <;> simp
theorem shapeR_spec (o : Nat) (ho : o ≤ 16) : Spec Tryz.prog 64 [.raw (.int .i64 (o : Nat))] [] 0 (σ := Unit) (fun _ => True) (fun _ => .raw (.string (strOf ((fks o).map FK.lt)))) (fun _ => []) := by
  refine Spec.of Tryz.func64 rfl Tryz.ntmps64 rfl (bdl_nil _) fun ρ w => ?_
  match o, ho with
  | 0, _ =>
    refine sS_ ?_
    refine X.fin ttok () [] trivial rfl rfl rfl hS5_ _ (by first | exact .inl rfl | exact .inr rfl)
  | 1, _ =>
    refine sS_ ?_
    refine X.fin ttok () [] trivial rfl rfl rfl hS5_ _ (by first | exact .inl rfl | exact .inr rfl)
  | 2, _ =>
    refine sS_ ?_
    refine X.fin ttok () [] trivial rfl rfl rfl hS5_ _ (by first | exact .inl rfl | exact .inr rfl)
  | 3, _ =>
    refine sS_ ?_
    refine X.fin ttok () [] trivial rfl rfl rfl hS5_ _ (by first | exact .inl rfl | exact .inr rfl)
  | 4, _ =>
    refine sS_ ?_
    refine X.fin ttok () [] trivial rfl rfl rfl hS5_ _ (by first | exact .inl rfl | exact .inr rfl)
  | 5, _ =>
    refine sS_ ?_
    refine X.fin ttok () [] trivial rfl rfl rfl hS5_ _ (by first | exact .inl rfl | exact .inr rfl)
  | 6, _ =>
    refine sS_ ?_
    refine X.fin ttok () [] trivial rfl rfl rfl hS5_ _ (by first | exact .inl rfl | exact .inr rfl)
  | 7, _ =>
    refine sS_ ?_
    refine X.fin ttok () [] trivial rfl rfl rfl hS5_ _ (by first | exact .inl rfl | exact .inr rfl)
  | 8, _ =>
    refine sS_ ?_
    refine X.fin ttok () [] trivial rfl rfl rfl hS5_ _ (by first | exact .inl rfl | exact .inr rfl)
  | 9, _ =>
    refine sS_ ?_
    refine X.fin ttok () [] trivial rfl rfl rfl hS5_ _ (by first | exact .inl rfl | exact .inr rfl)
  | 10, _ =>
    refine sS_ ?_
    refine X.fin ttok () [] trivial rfl rfl rfl hS5_ _ (by first | exact .inl rfl | exact .inr rfl)
  | 11, _ =>
    refine sS_ ?_
    refine X.fin ttok () [] trivial rfl rfl rfl hS5_ _ (by first | exact .inl rfl | exact .inr rfl)
  | 12, _ =>
    refine sS_ ?_
    refine X.fin ttok () [] trivial rfl rfl rfl hS5_ _ (by first | exact .inl rfl | exact .inr rfl)
  | 13, _ =>
    refine sS_ ?_
    refine X.fin ttok () [] trivial rfl rfl rfl hS5_ _ (by first | exact .inl rfl | exact .inr rfl)
  | 14, _ =>
    refine sS_ ?_
    refine X.fin ttok () [] trivial rfl rfl rfl hS5_ _ (by first | exact .inl rfl | exact .inr rfl)
  | 15, _ =>
    refine sS_ ?_
    refine X.fin ttok () [] trivial rfl rfl rfl hS5_ _ (by first | exact .inl rfl | exact .inr rfl)
  | 16, _ =>
    refine sS_ ?_
    refine X.fin ttok () [] trivial rfl rfl rfl hS5_ _ (by first | exact .inl rfl | exact .inr rfl)
  | o + 17, ho => omega
end Go.Proofs.YtaieficgifingaaGreatDoor
namespace Go.Proofs.YtaieficgifingaaGreatDoor
set_option linter.unusedVariables false
set_option linter.unusedSimpArgs false
open Go.RowKit
set_option maxRecDepth 100000
set_option maxHeartbeats 8000000
theorem neE2 (s : ByteArray) : decide (s.toList ≠ (⟨#[]⟩ : ByteArray).toList) = decide (strB s ≠ []) := by
  rw [ByteArray.toList_eq, ByteArray.toList_eq]
  rfl
theorem datumR_spec (k i : Int) (t : ByteArray) : Spec Tryz.prog 112 [.agg [.raw (.int .i64 k), .raw (.int .i64 i), .raw (.string t)]] [] 0 (σ := Unit) (fun _ => True) (fun _ => .raw (.int .i64 (vchk k i t))) (fun _ => []) := by
  refine Spec.of Tryz.func112 rfl Tryz.ntmps112 rfl (bdl_nil _) fun ρ w => ?_
  refine sS_ ?_
  by_cases h0 : k < 0
  · rw [decide_eq_true h0]
    rw [show vchk k i t = 14 from if_pos (.inl h0)]
    refine sS_ ?_
    refine X.fin ttok () [] trivial rfl rfl rfl hS5_ _ (by first | exact .inl rfl | exact .inr rfl)
  · rw [decide_eq_false h0]
    refine sS_ ?_
    by_cases h22 : 2 < k
    · rw [decide_eq_true (show k > 2 from h22)]
      rw [show vchk k i t = 14 from if_pos (.inr (.inl h22))]
      refine sS_ ?_
      refine X.fin ttok () [] trivial rfl rfl rfl hS5_ _ (by first | exact .inl rfl | exact .inr rfl)
    · rw [decide_eq_false (show ¬ k > 2 from h22)]
      refine sS_ ?_
      by_cases h1 : k = 1
      · rw [decide_eq_false (show ¬ k ≠ 1 from fun h => h h1)]
        have hi : ¬ (k ≠ 1 ∧ i ≠ 0) := fun h => h.1 h1
        refine sS_ ?_
        by_cases h2 : k = 2
        · rw [decide_eq_false (show ¬ k ≠ 2 from fun h => h h2)]
          refine sS_ ?_
          have hno : ¬ (k < 0 ∨ 2 < k ∨ (k ≠ 1 ∧ i ≠ 0) ∨ (k ≠ 2 ∧ strB t ≠ [])) := by
            rintro (h | h | g | ⟨g1, g2⟩)
            · omega
            · omega
            · exact hi g
            · exact g1 h2
          have hv : vchk k i t = if 256 < t.size then 4 else 0 := if_neg hno
          rw [hv]
          refine sS_ ?_
          by_cases h3 : 256 < t.size
          · rw [decide_eq_true (show (t.size : Int) > 256 by omega), if_pos h3]
            refine sS_ ?_
            refine X.fin ttok () [] trivial rfl rfl rfl hS5_ _ (by first | exact .inl rfl | exact .inr rfl)
          · rw [decide_eq_false (show ¬ (t.size : Int) > 256 by omega), if_neg h3]
            refine sS_ ?_
            refine X.fin ttok () [] trivial rfl rfl rfl hS5_ _ (by first | exact .inl rfl | exact .inr rfl)
        · rw [decide_eq_true (show k ≠ 2 from h2)]
          refine sS_ ?_
          rw [neE2]
          by_cases ht : strB t = []
          · rw [decide_eq_false (show ¬ strB t ≠ [] from fun h => h ht)]
            refine sS_ ?_
            have hno : ¬ (k < 0 ∨ 2 < k ∨ (k ≠ 1 ∧ i ≠ 0) ∨ (k ≠ 2 ∧ strB t ≠ [])) := by
              rintro (h | h | g | ⟨g1, g2⟩)
              · omega
              · omega
              · exact hi g
              · exact g2 ht
            have hv : vchk k i t = if 256 < t.size then 4 else 0 := if_neg hno
            rw [hv]
            refine sS_ ?_
            by_cases h3 : 256 < t.size
            · rw [decide_eq_true (show (t.size : Int) > 256 by omega), if_pos h3]
              refine sS_ ?_
              refine X.fin ttok () [] trivial rfl rfl rfl hS5_ _ (by first | exact .inl rfl | exact .inr rfl)
            · rw [decide_eq_false (show ¬ (t.size : Int) > 256 by omega), if_neg h3]
              refine sS_ ?_
              refine X.fin ttok () [] trivial rfl rfl rfl hS5_ _ (by first | exact .inl rfl | exact .inr rfl)
          · rw [decide_eq_true (show strB t ≠ [] from ht)]
            rw [show vchk k i t = 14 from if_pos (.inr (.inr (.inr ⟨h2, ht⟩)))]
            refine sS_ ?_
            refine X.fin ttok () [] trivial rfl rfl rfl hS5_ _ (by first | exact .inl rfl | exact .inr rfl)
      · rw [decide_eq_true (show k ≠ 1 from h1)]
        refine sS_ ?_
        by_cases hi0 : i = 0
        · rw [decide_eq_false (show ¬ i ≠ 0 from fun h => h hi0)]
          have hi : ¬ (k ≠ 1 ∧ i ≠ 0) := fun h => h.2 hi0
          refine sS_ ?_
          by_cases h2 : k = 2
          · rw [decide_eq_false (show ¬ k ≠ 2 from fun h => h h2)]
            refine sS_ ?_
            have hno : ¬ (k < 0 ∨ 2 < k ∨ (k ≠ 1 ∧ i ≠ 0) ∨ (k ≠ 2 ∧ strB t ≠ [])) := by
              rintro (h | h | g | ⟨g1, g2⟩)
              · omega
              · omega
              · exact hi g
              · exact g1 h2
            have hv : vchk k i t = if 256 < t.size then 4 else 0 := if_neg hno
            rw [hv]
            refine sS_ ?_
            by_cases h3 : 256 < t.size
            · rw [decide_eq_true (show (t.size : Int) > 256 by omega), if_pos h3]
              refine sS_ ?_
              refine X.fin ttok () [] trivial rfl rfl rfl hS5_ _ (by first | exact .inl rfl | exact .inr rfl)
            · rw [decide_eq_false (show ¬ (t.size : Int) > 256 by omega), if_neg h3]
              refine sS_ ?_
              refine X.fin ttok () [] trivial rfl rfl rfl hS5_ _ (by first | exact .inl rfl | exact .inr rfl)
          · rw [decide_eq_true (show k ≠ 2 from h2)]
            refine sS_ ?_
            rw [neE2]
            by_cases ht : strB t = []
            · rw [decide_eq_false (show ¬ strB t ≠ [] from fun h => h ht)]
              refine sS_ ?_
              have hno : ¬ (k < 0 ∨ 2 < k ∨ (k ≠ 1 ∧ i ≠ 0) ∨ (k ≠ 2 ∧ strB t ≠ [])) := by
                rintro (h | h | g | ⟨g1, g2⟩)
                · omega
                · omega
                · exact hi g
                · exact g2 ht
              have hv : vchk k i t = if 256 < t.size then 4 else 0 := if_neg hno
              rw [hv]
              refine sS_ ?_
              by_cases h3 : 256 < t.size
              · rw [decide_eq_true (show (t.size : Int) > 256 by omega), if_pos h3]
                refine sS_ ?_
                refine X.fin ttok () [] trivial rfl rfl rfl hS5_ _ (by first | exact .inl rfl | exact .inr rfl)
              · rw [decide_eq_false (show ¬ (t.size : Int) > 256 by omega), if_neg h3]
                refine sS_ ?_
                refine X.fin ttok () [] trivial rfl rfl rfl hS5_ _ (by first | exact .inl rfl | exact .inr rfl)
            · rw [decide_eq_true (show strB t ≠ [] from ht)]
              rw [show vchk k i t = 14 from if_pos (.inr (.inr (.inr ⟨h2, ht⟩)))]
              refine sS_ ?_
              refine X.fin ttok () [] trivial rfl rfl rfl hS5_ _ (by first | exact .inl rfl | exact .inr rfl)
        · rw [decide_eq_true (show i ≠ 0 from hi0)]
          rw [show vchk k i t = 14 from if_pos (.inr (.inr (.inl ⟨h1, hi0⟩)))]
          refine sS_ ?_
          refine X.fin ttok () [] trivial rfl rfl rfl hS5_ _ (by first | exact .inl rfl | exact .inr rfl)
def fLn : Nat → List UInt8
  | 1 => [65, 86]
  | 2 => [65, 78]
  | 3 => [65, 66]
  | 4 => [65, 66]
  | 5 => [65]
  | 6 => [65, 66, 67]
  | 7 => [65, 66, 67]
  | 8 => [65, 66, 67]
  | 9 => [65, 66, 67]
  | 10 => [66, 67, 78]
  | 11 => [97, 66, 67, 78]
  | 12 => [65, 66, 67, 78]
  | 13 => [65, 66, 67, 78]
  | 14 => [65, 66]
  | 15 => [65]
  | 16 => []
  | _ => []
def fL (o : Int) : List UInt8 := if o < 1 ∨ 16 < o then [63] else fLn o.toNat
theorem fieldsR_spec (o : Int) : Spec Tryz.prog 108 [.raw (.int .i64 o)] [] 0 (σ := Unit) (fun _ => True) (fun _ => .raw (.string (strOf (fL o)))) (fun _ => []) := by
  refine Spec.of Tryz.func108 rfl Tryz.ntmps108 rfl (bdl_nil _) fun ρ w => ?_
  by_cases h : 1 ≤ o ∧ o ≤ 16
  · obtain ⟨m, rfl⟩ : ∃ m : Nat, o = (m : Nat) := ⟨o.toNat, by omega⟩
    match m, h with
    | 1, _ =>
      refine sS_ ?_
      refine X.fin ttok () [] trivial rfl rfl rfl hS5_ _ (by first | exact .inl rfl | exact .inr rfl)
    | 2, _ =>
      refine sS_ ?_
      refine X.fin ttok () [] trivial rfl rfl rfl hS5_ _ (by first | exact .inl rfl | exact .inr rfl)
    | 3, _ =>
      refine sS_ ?_
      refine X.fin ttok () [] trivial rfl rfl rfl hS5_ _ (by first | exact .inl rfl | exact .inr rfl)
    | 4, _ =>
      refine sS_ ?_
      refine X.fin ttok () [] trivial rfl rfl rfl hS5_ _ (by first | exact .inl rfl | exact .inr rfl)
    | 5, _ =>
      refine sS_ ?_
      refine X.fin ttok () [] trivial rfl rfl rfl hS5_ _ (by first | exact .inl rfl | exact .inr rfl)
    | 6, _ =>
      refine sS_ ?_
      refine X.fin ttok () [] trivial rfl rfl rfl hS5_ _ (by first | exact .inl rfl | exact .inr rfl)
    | 7, _ =>
      refine sS_ ?_
      refine X.fin ttok () [] trivial rfl rfl rfl hS5_ _ (by first | exact .inl rfl | exact .inr rfl)
    | 8, _ =>
      refine sS_ ?_
      refine X.fin ttok () [] trivial rfl rfl rfl hS5_ _ (by first | exact .inl rfl | exact .inr rfl)
    | 9, _ =>
      refine sS_ ?_
      refine X.fin ttok () [] trivial rfl rfl rfl hS5_ _ (by first | exact .inl rfl | exact .inr rfl)
    | 10, _ =>
      refine sS_ ?_
      refine X.fin ttok () [] trivial rfl rfl rfl hS5_ _ (by first | exact .inl rfl | exact .inr rfl)
    | 11, _ =>
      refine sS_ ?_
      refine X.fin ttok () [] trivial rfl rfl rfl hS5_ _ (by first | exact .inl rfl | exact .inr rfl)
    | 12, _ =>
      refine sS_ ?_
      refine X.fin ttok () [] trivial rfl rfl rfl hS5_ _ (by first | exact .inl rfl | exact .inr rfl)
    | 13, _ =>
      refine sS_ ?_
      refine X.fin ttok () [] trivial rfl rfl rfl hS5_ _ (by first | exact .inl rfl | exact .inr rfl)
    | 14, _ =>
      refine sS_ ?_
      refine X.fin ttok () [] trivial rfl rfl rfl hS5_ _ (by first | exact .inl rfl | exact .inr rfl)
    | 15, _ =>
      refine sS_ ?_
      refine X.fin ttok () [] trivial rfl rfl rfl hS5_ _ (by first | exact .inl rfl | exact .inr rfl)
    | 16, _ =>
      refine sS_ ?_
      refine X.fin ttok () [] trivial rfl rfl rfl hS5_ _ (by first | exact .inl rfl | exact .inr rfl)
    | 0, h => omega
    | m + 17, h => omega
  · rw [show fL o = [63] from if_pos (by omega)]
    refine sS_ ?_
    rw [decide_eq_false (show ¬ o = 1 by omega)]
    refine sS_ ?_
    rw [decide_eq_false (show ¬ o = 2 by omega)]
    refine sS_ ?_
    rw [decide_eq_false (show ¬ o = 3 by omega)]
    refine sS_ ?_
    rw [decide_eq_false (show ¬ o = 14 by omega)]
    refine sS_ ?_
    rw [decide_eq_false (show ¬ o = 4 by omega)]
    refine sS_ ?_
    rw [decide_eq_false (show ¬ o = 5 by omega)]
    refine sS_ ?_
    rw [decide_eq_false (show ¬ o = 15 by omega)]
    refine sS_ ?_
    rw [decide_eq_false (show ¬ o = 6 by omega)]
    refine sS_ ?_
    rw [decide_eq_false (show ¬ o = 7 by omega)]
    refine sS_ ?_
    rw [decide_eq_false (show ¬ o = 8 by omega)]
    refine sS_ ?_
    rw [decide_eq_false (show ¬ o = 9 by omega)]
    refine sS_ ?_
    rw [decide_eq_false (show ¬ o = 10 by omega)]
    refine sS_ ?_
    rw [decide_eq_false (show ¬ o = 11 by omega)]
    refine sS_ ?_
    rw [decide_eq_false (show ¬ o = 12 by omega)]
    refine sS_ ?_
    rw [decide_eq_false (show ¬ o = 13 by omega)]
    refine sS_ ?_
    rw [decide_eq_false (show ¬ o = 16 by omega)]
    refine sS_ ?_
    refine X.fin ttok () [] trivial rfl rfl rfl hS5_ _ (by first | exact .inl rfl | exact .inr rfl)
theorem hasR_spec (s : ByteArray) (f : UInt8) (hs : s.size ≤ 1000000) : Spec Tryz.prog 110 [.raw (.string s), .raw (byteV f)] [] 0 (σ := Unit) (fun _ => True) (fun _ => .raw (.bool ((strB s).contains f))) (fun _ => []) := by
  refine Spec.of Tryz.func110 rfl Tryz.ntmps110 rfl (bdl_nil _) fun ρ w => ?_
  have hlen := strB_size s
  obtain ⟨t, ht⟩ : ∃ t, strB s = t := ⟨_, rfl⟩
  rw [ht] at hlen ⊢
  refine sS_ ?_
  refine C.loop (σ := Nat) (L2 := 0) (fun i => i ≤ s.size ∧ ∀ j, j < i → t.getD j 0 ≠ f) (fun i => [(0, .raw (.string s)), (1, .raw (byteV f)), (5, .raw (.int .i64 (i : Nat)))]) (fun _ => []) _ (fun i => s.size - i) [] 0 ⟨Nat.zero_le _, fun j h => absurd h (Nat.not_lt_zero j)⟩ rfl hS9_ hS7_ rfl (fun _ h => h) ?_
  rintro i ⟨hi, hd⟩
  refine sS_ ?_
  by_cases hlt : i < s.size
  · rw [decide_eq_true (show ((i : Nat) : Int) < (s.size : Nat) by omega)]
    have hlt' : i < t.length := by omega
    refine sS_ ?_
    refine R.sx ttok i rfl rfl rfl rfl rfl rfl (by show i < (strB s).length; rw [ht]; exact hlt') ?_
    obtain ⟨b, hb⟩ : ∃ b, t.getD i 0 = b := ⟨_, rfl⟩
    rw [show s.data.toList.getD i 0 = b by rw [← hb, ← ht]; rfl]
    have hbN : b.toNat < 256 := b.toNat_lt
    have hbf : ((((b.toNat : Nat) : Int) = (f.toNat : Nat)) ↔ b = f) := ⟨fun e => UInt8.toNat_inj.1 (by omega), fun e => by rw [e]⟩
    refine sS_ ?_
    by_cases he : b = f
    · rw [decide_eq_true (hbf.2 he)]
      rw [show t.contains f = true by
        rw [List.contains_iff_mem]
        rw [← he, ← hb, List.getD_eq_getElem?_getD, List.getElem?_eq_getElem hlt']
        exact List.getElem_mem _]
      refine sS_ ?_
      refine X.fin ttok () [] trivial rfl rfl rfl hS5_ _ (by first | exact .inl rfl | exact .inr rfl)
    · rw [decide_eq_false (fun e => he (hbf.1 e))]
      refine sS_ ?_
      exact X.back [] (i + 1) ⟨hlt, fun j hj => (by
        rcases Nat.lt_or_ge j i with h | h
        · exact hd j h
        · obtain rfl : j = i := by omega
          rw [hb]; exact he)⟩ (by omega) rfl hS9_ hS7_ rfl (fun _ h => h)
  · rw [decide_eq_false (show ¬ ((i : Nat) : Int) < (s.size : Nat) by omega)]
    rw [show t.contains f = false by
      cases hc : t.contains f with
      | false => rfl
      | true =>
        rw [List.contains_iff_mem] at hc
        obtain ⟨j, hj, e⟩ := List.mem_iff_getElem.1 hc
        have := hd j (by omega)
        rw [List.getD_eq_getElem?_getD, List.getElem?_eq_getElem hj] at this
        exact absurd e this]
    refine sS_ ?_
    refine X.fin ttok () [] trivial rfl rfl rfl hS5_ _ (by first | exact .inl rfl | exact .inr rfl)
def rgK (l : List UInt8) (f : UInt8) (v : Int) : Bool := if l.contains f = true then regK v else decide (v = 0)
theorem reg6_spec (s : ByteArray) (f : UInt8) (v : Int) (hs : s.size ≤ 1000000) : Spec Tryz.prog 109 [.raw (.string s), .raw (byteV f), .raw (.int .i64 v)] [] 0 (σ := Unit) (fun _ => True) (fun _ => .raw (.bool (rgK (strB s) f v))) (fun _ => []) := by
  refine Spec.of Tryz.func109 rfl Tryz.ntmps109 rfl (bdl_nil _) fun ρ w => ?_
  unfold rgK
  refine sS_ ?_
  refine R.cl [] (hasR_spec s f hs) Tryz.call110 hS8_ rfl rfl rfl (fun _ => rfl) rfl (by kernel_rfl) fun _ _ => ?_
  cases (strB s).contains f with
  | false =>
    rw [if_neg Bool.false_ne_true]
    refine sS_ ?_
    refine X.fin ttok () [] trivial rfl rfl rfl hS5_ _ (by first | exact .inl rfl | exact .inr rfl)
  | true =>
    rw [if_pos rfl]
    unfold regK
    refine sS_ ?_
    cases h1 : decide ((0 : Int) ≤ v) with
    | false =>
      refine sS_ ?_
      refine X.fin ttok () [] trivial rfl rfl rfl hS5_ _ (by first | exact .inl rfl | exact .inr rfl)
    | true =>
      refine sS_ ?_
      refine X.fin ttok () [] trivial rfl rfl rfl hS5_ _ (by first | exact .inl rfl | exact .inr rfl)
def numK (ar : Int) (o n : Int) : Bool :=
  if o = 2 then decide (0 ≤ n) && decide (n < ar)
  else if o = 10 ∨ o = 11 then decide (1 ≤ n) && decide (n ≤ 6)
  else if o = 12 ∨ o = 13 then decide (1 ≤ n) && decide (n ≤ 64)
  else decide (n = 0)
/-- why an instruction may not stand at a place, as the document has it -/
def dA (o a : Int) (n i : Nat) : Bool := if (fL o).contains 97 = true then decide (1 ≤ a) && decide (a ≤ (n : Nat) - 1 - (i : Nat)) else rgK (fL o) 65 a
def vz (x : Ins) : Bool := decide (x.k = 0) && decide (x.i = 0) && decide (strB x.t = [])
def docE (ar : Int) (n i : Nat) (x : Ins) : Int := if x.o < 1 ∨ 16 < x.o then 16 else
  if (dA x.o x.a n i && rgK (fL x.o) 66 x.b && rgK (fL x.o) 67 x.c && numK ar x.o x.n) = true then (if (fL x.o).contains 86 = true then vchk x.k x.i x.t else if vz x = true then 0 else 16) else 16
theorem eqB_1 (A B C N K I T : Bool) (V : Int) : (if (A && B && C && N) = true then V else 16) = ((if (A && true) = true then (if (true && (true && (B && (C && (N && (true && (true && true))))))) = true then V else 16) else 16) : Int) := by
  cases A <;> cases B <;> cases C <;> cases N <;> first | rfl | (cases K <;> cases I <;> cases T <;> rfl)
theorem eq_1 (a b c m k j : Int) (t : ByteArray) (ar : Int) (n i : Nat) : (if ((if (fL ((1 : Nat) : Int)).contains 97 = true then decide (1 ≤ a) && decide (a < (n : Nat) - (i : Nat)) else rgK (fL ((1 : Nat) : Int)) 65 a) && rgK (fL ((1 : Nat) : Int)) 66 b && rgK (fL ((1 : Nat) : Int)) 67 c && numK ar ((1 : Nat) : Int) m) = true then (if (fL ((1 : Nat) : Int)).contains 86 = true then vchk k j t else if vz ⟨((1 : Nat) : Int), a, b, c, m, k, j, t⟩ = true then 0 else 16) else 16) = insL ar n i (pfs (((1 : Nat) : Int)).toNat) (decide (((1 : Nat) : Int) = 1)) ⟨((1 : Nat) : Int), a, b, c, m, k, j, t⟩ :=
  eqB_1 (regK a) (decide (b = 0)) (decide (c = 0)) (decide (m = 0)) (decide (k = 0)) (decide (j = 0)) (decide (strB t = [])) (vchk k j t)
theorem eqB_2 (A B C N K I T : Bool) (V : Int) : (if (A && B && C && N) = true then (if (K && I && T) = true then 0 else 16) else 16) = ((if (A && (N && true)) = true then (if (true && (true && (B && (C && (true && (K && (I && T))))))) = true then 0 else 16) else 16) : Int) := by
  cases A <;> cases B <;> cases C <;> cases N <;> first | rfl | (cases K <;> cases I <;> cases T <;> rfl)
theorem eq_2 (a b c m k j : Int) (t : ByteArray) (ar : Int) (n i : Nat) : (if ((if (fL ((2 : Nat) : Int)).contains 97 = true then decide (1 ≤ a) && decide (a < (n : Nat) - (i : Nat)) else rgK (fL ((2 : Nat) : Int)) 65 a) && rgK (fL ((2 : Nat) : Int)) 66 b && rgK (fL ((2 : Nat) : Int)) 67 c && numK ar ((2 : Nat) : Int) m) = true then (if (fL ((2 : Nat) : Int)).contains 86 = true then vchk k j t else if vz ⟨((2 : Nat) : Int), a, b, c, m, k, j, t⟩ = true then 0 else 16) else 16) = insL ar n i (pfs (((2 : Nat) : Int)).toNat) (decide (((2 : Nat) : Int) = 1)) ⟨((2 : Nat) : Int), a, b, c, m, k, j, t⟩ :=
  eqB_2 (regK a) (decide (b = 0)) (decide (c = 0)) ((decide (0 ≤ m) && decide (m < ar))) (decide (k = 0)) (decide (j = 0)) (decide (strB t = [])) (vchk k j t)
theorem eqB_3 (A B C N K I T : Bool) (V : Int) : (if (A && B && C && N) = true then (if (K && I && T) = true then 0 else 16) else 16) = ((if (A && (B && true)) = true then (if (true && (true && (true && (C && (N && (K && (I && T))))))) = true then 0 else 16) else 16) : Int) := by
  cases A <;> cases B <;> cases C <;> cases N <;> first | rfl | (cases K <;> cases I <;> cases T <;> rfl)
theorem eq_3 (a b c m k j : Int) (t : ByteArray) (ar : Int) (n i : Nat) : (if ((if (fL ((3 : Nat) : Int)).contains 97 = true then decide (1 ≤ a) && decide (a < (n : Nat) - (i : Nat)) else rgK (fL ((3 : Nat) : Int)) 65 a) && rgK (fL ((3 : Nat) : Int)) 66 b && rgK (fL ((3 : Nat) : Int)) 67 c && numK ar ((3 : Nat) : Int) m) = true then (if (fL ((3 : Nat) : Int)).contains 86 = true then vchk k j t else if vz ⟨((3 : Nat) : Int), a, b, c, m, k, j, t⟩ = true then 0 else 16) else 16) = insL ar n i (pfs (((3 : Nat) : Int)).toNat) (decide (((3 : Nat) : Int) = 1)) ⟨((3 : Nat) : Int), a, b, c, m, k, j, t⟩ :=
  eqB_3 (regK a) (regK b) (decide (c = 0)) (decide (m = 0)) (decide (k = 0)) (decide (j = 0)) (decide (strB t = [])) (vchk k j t)
theorem eqB_4 (A B C N K I T : Bool) (V : Int) : (if (A && B && C && N) = true then (if (K && I && T) = true then 0 else 16) else 16) = ((if (A && (B && true)) = true then (if (true && (true && (true && (C && (N && (K && (I && T))))))) = true then 0 else 16) else 16) : Int) := by
  cases A <;> cases B <;> cases C <;> cases N <;> first | rfl | (cases K <;> cases I <;> cases T <;> rfl)
theorem eq_4 (a b c m k j : Int) (t : ByteArray) (ar : Int) (n i : Nat) : (if ((if (fL ((4 : Nat) : Int)).contains 97 = true then decide (1 ≤ a) && decide (a < (n : Nat) - (i : Nat)) else rgK (fL ((4 : Nat) : Int)) 65 a) && rgK (fL ((4 : Nat) : Int)) 66 b && rgK (fL ((4 : Nat) : Int)) 67 c && numK ar ((4 : Nat) : Int) m) = true then (if (fL ((4 : Nat) : Int)).contains 86 = true then vchk k j t else if vz ⟨((4 : Nat) : Int), a, b, c, m, k, j, t⟩ = true then 0 else 16) else 16) = insL ar n i (pfs (((4 : Nat) : Int)).toNat) (decide (((4 : Nat) : Int) = 1)) ⟨((4 : Nat) : Int), a, b, c, m, k, j, t⟩ :=
  eqB_4 (regK a) (regK b) (decide (c = 0)) (decide (m = 0)) (decide (k = 0)) (decide (j = 0)) (decide (strB t = [])) (vchk k j t)
theorem eqB_5 (A B C N K I T : Bool) (V : Int) : (if (A && B && C && N) = true then (if (K && I && T) = true then 0 else 16) else 16) = ((if (A && true) = true then (if (true && (true && (B && (C && (N && (K && (I && T))))))) = true then 0 else 16) else 16) : Int) := by
  cases A <;> cases B <;> cases C <;> cases N <;> first | rfl | (cases K <;> cases I <;> cases T <;> rfl)
theorem eq_5 (a b c m k j : Int) (t : ByteArray) (ar : Int) (n i : Nat) : (if ((if (fL ((5 : Nat) : Int)).contains 97 = true then decide (1 ≤ a) && decide (a < (n : Nat) - (i : Nat)) else rgK (fL ((5 : Nat) : Int)) 65 a) && rgK (fL ((5 : Nat) : Int)) 66 b && rgK (fL ((5 : Nat) : Int)) 67 c && numK ar ((5 : Nat) : Int) m) = true then (if (fL ((5 : Nat) : Int)).contains 86 = true then vchk k j t else if vz ⟨((5 : Nat) : Int), a, b, c, m, k, j, t⟩ = true then 0 else 16) else 16) = insL ar n i (pfs (((5 : Nat) : Int)).toNat) (decide (((5 : Nat) : Int) = 1)) ⟨((5 : Nat) : Int), a, b, c, m, k, j, t⟩ :=
  eqB_5 (regK a) (decide (b = 0)) (decide (c = 0)) (decide (m = 0)) (decide (k = 0)) (decide (j = 0)) (decide (strB t = [])) (vchk k j t)
theorem eqB_6 (A B C N K I T : Bool) (V : Int) : (if (A && B && C && N) = true then (if (K && I && T) = true then 0 else 16) else 16) = ((if (A && (B && (C && true))) = true then (if (true && (true && (true && (true && (N && (K && (I && T))))))) = true then 0 else 16) else 16) : Int) := by
  cases A <;> cases B <;> cases C <;> cases N <;> first | rfl | (cases K <;> cases I <;> cases T <;> rfl)
theorem eq_6 (a b c m k j : Int) (t : ByteArray) (ar : Int) (n i : Nat) : (if ((if (fL ((6 : Nat) : Int)).contains 97 = true then decide (1 ≤ a) && decide (a < (n : Nat) - (i : Nat)) else rgK (fL ((6 : Nat) : Int)) 65 a) && rgK (fL ((6 : Nat) : Int)) 66 b && rgK (fL ((6 : Nat) : Int)) 67 c && numK ar ((6 : Nat) : Int) m) = true then (if (fL ((6 : Nat) : Int)).contains 86 = true then vchk k j t else if vz ⟨((6 : Nat) : Int), a, b, c, m, k, j, t⟩ = true then 0 else 16) else 16) = insL ar n i (pfs (((6 : Nat) : Int)).toNat) (decide (((6 : Nat) : Int) = 1)) ⟨((6 : Nat) : Int), a, b, c, m, k, j, t⟩ :=
  eqB_6 (regK a) (regK b) (regK c) (decide (m = 0)) (decide (k = 0)) (decide (j = 0)) (decide (strB t = [])) (vchk k j t)
theorem eqB_7 (A B C N K I T : Bool) (V : Int) : (if (A && B && C && N) = true then (if (K && I && T) = true then 0 else 16) else 16) = ((if (A && (B && (C && true))) = true then (if (true && (true && (true && (true && (N && (K && (I && T))))))) = true then 0 else 16) else 16) : Int) := by
  cases A <;> cases B <;> cases C <;> cases N <;> first | rfl | (cases K <;> cases I <;> cases T <;> rfl)
theorem eq_7 (a b c m k j : Int) (t : ByteArray) (ar : Int) (n i : Nat) : (if ((if (fL ((7 : Nat) : Int)).contains 97 = true then decide (1 ≤ a) && decide (a < (n : Nat) - (i : Nat)) else rgK (fL ((7 : Nat) : Int)) 65 a) && rgK (fL ((7 : Nat) : Int)) 66 b && rgK (fL ((7 : Nat) : Int)) 67 c && numK ar ((7 : Nat) : Int) m) = true then (if (fL ((7 : Nat) : Int)).contains 86 = true then vchk k j t else if vz ⟨((7 : Nat) : Int), a, b, c, m, k, j, t⟩ = true then 0 else 16) else 16) = insL ar n i (pfs (((7 : Nat) : Int)).toNat) (decide (((7 : Nat) : Int) = 1)) ⟨((7 : Nat) : Int), a, b, c, m, k, j, t⟩ :=
  eqB_7 (regK a) (regK b) (regK c) (decide (m = 0)) (decide (k = 0)) (decide (j = 0)) (decide (strB t = [])) (vchk k j t)
theorem eqB_8 (A B C N K I T : Bool) (V : Int) : (if (A && B && C && N) = true then (if (K && I && T) = true then 0 else 16) else 16) = ((if (A && (B && (C && true))) = true then (if (true && (true && (true && (true && (N && (K && (I && T))))))) = true then 0 else 16) else 16) : Int) := by
  cases A <;> cases B <;> cases C <;> cases N <;> first | rfl | (cases K <;> cases I <;> cases T <;> rfl)
theorem eq_8 (a b c m k j : Int) (t : ByteArray) (ar : Int) (n i : Nat) : (if ((if (fL ((8 : Nat) : Int)).contains 97 = true then decide (1 ≤ a) && decide (a < (n : Nat) - (i : Nat)) else rgK (fL ((8 : Nat) : Int)) 65 a) && rgK (fL ((8 : Nat) : Int)) 66 b && rgK (fL ((8 : Nat) : Int)) 67 c && numK ar ((8 : Nat) : Int) m) = true then (if (fL ((8 : Nat) : Int)).contains 86 = true then vchk k j t else if vz ⟨((8 : Nat) : Int), a, b, c, m, k, j, t⟩ = true then 0 else 16) else 16) = insL ar n i (pfs (((8 : Nat) : Int)).toNat) (decide (((8 : Nat) : Int) = 1)) ⟨((8 : Nat) : Int), a, b, c, m, k, j, t⟩ :=
  eqB_8 (regK a) (regK b) (regK c) (decide (m = 0)) (decide (k = 0)) (decide (j = 0)) (decide (strB t = [])) (vchk k j t)
theorem eqB_9 (A B C N K I T : Bool) (V : Int) : (if (A && B && C && N) = true then (if (K && I && T) = true then 0 else 16) else 16) = ((if (A && (B && (C && true))) = true then (if (true && (true && (true && (true && (N && (K && (I && T))))))) = true then 0 else 16) else 16) : Int) := by
  cases A <;> cases B <;> cases C <;> cases N <;> first | rfl | (cases K <;> cases I <;> cases T <;> rfl)
theorem eq_9 (a b c m k j : Int) (t : ByteArray) (ar : Int) (n i : Nat) : (if ((if (fL ((9 : Nat) : Int)).contains 97 = true then decide (1 ≤ a) && decide (a < (n : Nat) - (i : Nat)) else rgK (fL ((9 : Nat) : Int)) 65 a) && rgK (fL ((9 : Nat) : Int)) 66 b && rgK (fL ((9 : Nat) : Int)) 67 c && numK ar ((9 : Nat) : Int) m) = true then (if (fL ((9 : Nat) : Int)).contains 86 = true then vchk k j t else if vz ⟨((9 : Nat) : Int), a, b, c, m, k, j, t⟩ = true then 0 else 16) else 16) = insL ar n i (pfs (((9 : Nat) : Int)).toNat) (decide (((9 : Nat) : Int) = 1)) ⟨((9 : Nat) : Int), a, b, c, m, k, j, t⟩ :=
  eqB_9 (regK a) (regK b) (regK c) (decide (m = 0)) (decide (k = 0)) (decide (j = 0)) (decide (strB t = [])) (vchk k j t)
theorem eqB_10 (A B C N K I T : Bool) (V : Int) : (if (A && B && C && N) = true then (if (K && I && T) = true then 0 else 16) else 16) = ((if (B && (C && (N && true))) = true then (if (true && (A && (true && (true && (true && (K && (I && T))))))) = true then 0 else 16) else 16) : Int) := by
  cases A <;> cases B <;> cases C <;> cases N <;> first | rfl | (cases K <;> cases I <;> cases T <;> rfl)
theorem eq_10 (a b c m k j : Int) (t : ByteArray) (ar : Int) (n i : Nat) : (if ((if (fL ((10 : Nat) : Int)).contains 97 = true then decide (1 ≤ a) && decide (a < (n : Nat) - (i : Nat)) else rgK (fL ((10 : Nat) : Int)) 65 a) && rgK (fL ((10 : Nat) : Int)) 66 b && rgK (fL ((10 : Nat) : Int)) 67 c && numK ar ((10 : Nat) : Int) m) = true then (if (fL ((10 : Nat) : Int)).contains 86 = true then vchk k j t else if vz ⟨((10 : Nat) : Int), a, b, c, m, k, j, t⟩ = true then 0 else 16) else 16) = insL ar n i (pfs (((10 : Nat) : Int)).toNat) (decide (((10 : Nat) : Int) = 1)) ⟨((10 : Nat) : Int), a, b, c, m, k, j, t⟩ :=
  eqB_10 (decide (a = 0)) (regK b) (regK c) ((decide (1 ≤ m) && decide (m ≤ 6))) (decide (k = 0)) (decide (j = 0)) (decide (strB t = [])) (vchk k j t)
theorem eqB_11 (A B C N K I T : Bool) (V : Int) : (if (A && B && C && N) = true then (if (K && I && T) = true then 0 else 16) else 16) = ((if (A && (B && (C && (N && true)))) = true then (if (true && (true && (true && (true && (true && (K && (I && T))))))) = true then 0 else 16) else 16) : Int) := by
  cases A <;> cases B <;> cases C <;> cases N <;> first | rfl | (cases K <;> cases I <;> cases T <;> rfl)
theorem eq_11 (a b c m k j : Int) (t : ByteArray) (ar : Int) (n i : Nat) : (if ((if (fL ((11 : Nat) : Int)).contains 97 = true then decide (1 ≤ a) && decide (a < (n : Nat) - (i : Nat)) else rgK (fL ((11 : Nat) : Int)) 65 a) && rgK (fL ((11 : Nat) : Int)) 66 b && rgK (fL ((11 : Nat) : Int)) 67 c && numK ar ((11 : Nat) : Int) m) = true then (if (fL ((11 : Nat) : Int)).contains 86 = true then vchk k j t else if vz ⟨((11 : Nat) : Int), a, b, c, m, k, j, t⟩ = true then 0 else 16) else 16) = insL ar n i (pfs (((11 : Nat) : Int)).toNat) (decide (((11 : Nat) : Int) = 1)) ⟨((11 : Nat) : Int), a, b, c, m, k, j, t⟩ :=
  eqB_11 ((decide (1 ≤ a) && decide (a < (n : Nat) - (i : Nat)))) (regK b) (regK c) ((decide (1 ≤ m) && decide (m ≤ 6))) (decide (k = 0)) (decide (j = 0)) (decide (strB t = [])) (vchk k j t)
theorem eqB_12 (A B C N K I T : Bool) (V : Int) : (if (A && B && C && N) = true then (if (K && I && T) = true then 0 else 16) else 16) = ((if (A && (B && (C && (N && true)))) = true then (if (true && (true && (true && (true && (true && (K && (I && T))))))) = true then 0 else 16) else 16) : Int) := by
  cases A <;> cases B <;> cases C <;> cases N <;> first | rfl | (cases K <;> cases I <;> cases T <;> rfl)
theorem eq_12 (a b c m k j : Int) (t : ByteArray) (ar : Int) (n i : Nat) : (if ((if (fL ((12 : Nat) : Int)).contains 97 = true then decide (1 ≤ a) && decide (a < (n : Nat) - (i : Nat)) else rgK (fL ((12 : Nat) : Int)) 65 a) && rgK (fL ((12 : Nat) : Int)) 66 b && rgK (fL ((12 : Nat) : Int)) 67 c && numK ar ((12 : Nat) : Int) m) = true then (if (fL ((12 : Nat) : Int)).contains 86 = true then vchk k j t else if vz ⟨((12 : Nat) : Int), a, b, c, m, k, j, t⟩ = true then 0 else 16) else 16) = insL ar n i (pfs (((12 : Nat) : Int)).toNat) (decide (((12 : Nat) : Int) = 1)) ⟨((12 : Nat) : Int), a, b, c, m, k, j, t⟩ :=
  eqB_12 (regK a) (regK b) (regK c) ((decide (1 ≤ m) && decide (m ≤ 64))) (decide (k = 0)) (decide (j = 0)) (decide (strB t = [])) (vchk k j t)
theorem eqB_13 (A B C N K I T : Bool) (V : Int) : (if (A && B && C && N) = true then (if (K && I && T) = true then 0 else 16) else 16) = ((if (A && (B && (C && (N && true)))) = true then (if (true && (true && (true && (true && (true && (K && (I && T))))))) = true then 0 else 16) else 16) : Int) := by
  cases A <;> cases B <;> cases C <;> cases N <;> first | rfl | (cases K <;> cases I <;> cases T <;> rfl)
theorem eq_13 (a b c m k j : Int) (t : ByteArray) (ar : Int) (n i : Nat) : (if ((if (fL ((13 : Nat) : Int)).contains 97 = true then decide (1 ≤ a) && decide (a < (n : Nat) - (i : Nat)) else rgK (fL ((13 : Nat) : Int)) 65 a) && rgK (fL ((13 : Nat) : Int)) 66 b && rgK (fL ((13 : Nat) : Int)) 67 c && numK ar ((13 : Nat) : Int) m) = true then (if (fL ((13 : Nat) : Int)).contains 86 = true then vchk k j t else if vz ⟨((13 : Nat) : Int), a, b, c, m, k, j, t⟩ = true then 0 else 16) else 16) = insL ar n i (pfs (((13 : Nat) : Int)).toNat) (decide (((13 : Nat) : Int) = 1)) ⟨((13 : Nat) : Int), a, b, c, m, k, j, t⟩ :=
  eqB_13 (regK a) (regK b) (regK c) ((decide (1 ≤ m) && decide (m ≤ 64))) (decide (k = 0)) (decide (j = 0)) (decide (strB t = [])) (vchk k j t)
theorem eqB_14 (A B C N K I T : Bool) (V : Int) : (if (A && B && C && N) = true then (if (K && I && T) = true then 0 else 16) else 16) = ((if (A && (B && true)) = true then (if (true && (true && (true && (C && (N && (K && (I && T))))))) = true then 0 else 16) else 16) : Int) := by
  cases A <;> cases B <;> cases C <;> cases N <;> first | rfl | (cases K <;> cases I <;> cases T <;> rfl)
theorem eq_14 (a b c m k j : Int) (t : ByteArray) (ar : Int) (n i : Nat) : (if ((if (fL ((14 : Nat) : Int)).contains 97 = true then decide (1 ≤ a) && decide (a < (n : Nat) - (i : Nat)) else rgK (fL ((14 : Nat) : Int)) 65 a) && rgK (fL ((14 : Nat) : Int)) 66 b && rgK (fL ((14 : Nat) : Int)) 67 c && numK ar ((14 : Nat) : Int) m) = true then (if (fL ((14 : Nat) : Int)).contains 86 = true then vchk k j t else if vz ⟨((14 : Nat) : Int), a, b, c, m, k, j, t⟩ = true then 0 else 16) else 16) = insL ar n i (pfs (((14 : Nat) : Int)).toNat) (decide (((14 : Nat) : Int) = 1)) ⟨((14 : Nat) : Int), a, b, c, m, k, j, t⟩ :=
  eqB_14 (regK a) (regK b) (decide (c = 0)) (decide (m = 0)) (decide (k = 0)) (decide (j = 0)) (decide (strB t = [])) (vchk k j t)
theorem eqB_15 (A B C N K I T : Bool) (V : Int) : (if (A && B && C && N) = true then (if (K && I && T) = true then 0 else 16) else 16) = ((if (A && true) = true then (if (true && (true && (B && (C && (N && (K && (I && T))))))) = true then 0 else 16) else 16) : Int) := by
  cases A <;> cases B <;> cases C <;> cases N <;> first | rfl | (cases K <;> cases I <;> cases T <;> rfl)
theorem eq_15 (a b c m k j : Int) (t : ByteArray) (ar : Int) (n i : Nat) : (if ((if (fL ((15 : Nat) : Int)).contains 97 = true then decide (1 ≤ a) && decide (a < (n : Nat) - (i : Nat)) else rgK (fL ((15 : Nat) : Int)) 65 a) && rgK (fL ((15 : Nat) : Int)) 66 b && rgK (fL ((15 : Nat) : Int)) 67 c && numK ar ((15 : Nat) : Int) m) = true then (if (fL ((15 : Nat) : Int)).contains 86 = true then vchk k j t else if vz ⟨((15 : Nat) : Int), a, b, c, m, k, j, t⟩ = true then 0 else 16) else 16) = insL ar n i (pfs (((15 : Nat) : Int)).toNat) (decide (((15 : Nat) : Int) = 1)) ⟨((15 : Nat) : Int), a, b, c, m, k, j, t⟩ :=
  eqB_15 (regK a) (decide (b = 0)) (decide (c = 0)) (decide (m = 0)) (decide (k = 0)) (decide (j = 0)) (decide (strB t = [])) (vchk k j t)
theorem eqB_16 (A B C N K I T : Bool) (V : Int) : (if (A && B && C && N) = true then (if (K && I && T) = true then 0 else 16) else 16) = ((if (true) = true then (if (true && (A && (B && (C && (N && (K && (I && T))))))) = true then 0 else 16) else 16) : Int) := by
  cases A <;> cases B <;> cases C <;> cases N <;> first | rfl | (cases K <;> cases I <;> cases T <;> rfl)
theorem eq_16 (a b c m k j : Int) (t : ByteArray) (ar : Int) (n i : Nat) : (if ((if (fL ((16 : Nat) : Int)).contains 97 = true then decide (1 ≤ a) && decide (a < (n : Nat) - (i : Nat)) else rgK (fL ((16 : Nat) : Int)) 65 a) && rgK (fL ((16 : Nat) : Int)) 66 b && rgK (fL ((16 : Nat) : Int)) 67 c && numK ar ((16 : Nat) : Int) m) = true then (if (fL ((16 : Nat) : Int)).contains 86 = true then vchk k j t else if vz ⟨((16 : Nat) : Int), a, b, c, m, k, j, t⟩ = true then 0 else 16) else 16) = insL ar n i (pfs (((16 : Nat) : Int)).toNat) (decide (((16 : Nat) : Int) = 1)) ⟨((16 : Nat) : Int), a, b, c, m, k, j, t⟩ :=
  eqB_16 (decide (a = 0)) (decide (b = 0)) (decide (c = 0)) (decide (m = 0)) (decide (k = 0)) (decide (j = 0)) (decide (strB t = [])) (vchk k j t)
theorem fL_ne {o : Int} (h : ¬ (o < 1 ∨ 16 < o)) : fL o ≠ [63] := by
  obtain ⟨m, rfl⟩ : ∃ m : Nat, o = (m : Nat) := ⟨o.toNat, by omega⟩
  have key : ∀ m < 17, 1 ≤ m → fL ((m : Nat) : Int) ≠ [63] := by decide
  exact key m (by omega) (by omega)
theorem fL_len (o : Int) : (fL o).length ≤ 4 := by
  unfold fL
  split
  · decide
  · unfold fLn
    split <;> simp
theorem docE_eq (ar : Int) (n i : Nat) (x : Ins) : docE ar n i x = insE ar n i x := by
  unfold docE insE
  by_cases h : x.o < 1 ∨ 16 < x.o
  · rw [if_pos h, if_pos h]
  · rw [if_neg h, if_neg h]
    obtain ⟨xo, a, b, c, m, k, j, t⟩ := x
    dsimp only at h ⊢
    obtain ⟨o, rfl⟩ : ∃ o : Nat, xo = (o : Nat) := ⟨xo.toNat, by omega⟩
    have hle : (decide (a ≤ (n : Nat) - 1 - (i : Nat)) : Bool) = decide (a < (n : Nat) - (i : Nat)) := decide_eq_decide.2 (by omega)
    have ho : 1 ≤ o ∧ o ≤ 16 := by omega
    unfold dA
    rw [hle]
    match o, ho with
    | 1, _ => exact eq_1 a b c m k j t ar n i
    | 2, _ => exact eq_2 a b c m k j t ar n i
    | 3, _ => exact eq_3 a b c m k j t ar n i
    | 4, _ => exact eq_4 a b c m k j t ar n i
    | 5, _ => exact eq_5 a b c m k j t ar n i
    | 6, _ => exact eq_6 a b c m k j t ar n i
    | 7, _ => exact eq_7 a b c m k j t ar n i
    | 8, _ => exact eq_8 a b c m k j t ar n i
    | 9, _ => exact eq_9 a b c m k j t ar n i
    | 10, _ => exact eq_10 a b c m k j t ar n i
    | 11, _ => exact eq_11 a b c m k j t ar n i
    | 12, _ => exact eq_12 a b c m k j t ar n i
    | 13, _ => exact eq_13 a b c m k j t ar n i
    | 14, _ => exact eq_14 a b c m k j t ar n i
    | 15, _ => exact eq_15 a b c m k j t ar n i
    | 16, _ => exact eq_16 a b c m k j t ar n i
    | 0, h => omega
    | o + 17, h => omega
end Go.Proofs.YtaieficgifingaaGreatDoor
namespace Go.Proofs.YtaieficgifingaaGreatDoor
set_option linter.unusedVariables false
set_option linter.unusedSimpArgs false
open Go.RowKit
set_option maxRecDepth 100000
set_option maxHeartbeats 8000000
structure PT where
  i : Nat
  p : PR
  c : Nat
  c2 : Nat
/-- the loop's states -/
structure PT.ok (t : List UInt8) (s : PT) : Prop where
  le : s.i ≤ (linesL t).length
  run : runL (linesL t) 1 pr0 = runL ((linesL t).drop s.i) (s.i + 1) s.p
  cd : s.p.cd.length ≤ s.i
  ln : s.p.ln.length = s.p.cd.length
  hd : s.p.head ≤ s.i
  c1 : s.p.cd.length ≤ s.c ∧ s.c ≤ 9223372036854775807
  c2 : s.p.ln.length ≤ s.c2 ∧ s.c2 ≤ 9223372036854775807
end Go.Proofs.YtaieficgifingaaGreatDoor
namespace Go.Proofs.YtaieficgifingaaGreatDoor
set_option linter.unusedVariables false
set_option linter.unusedSimpArgs false
open Go.RowKit
set_option maxRecDepth 100000
set_option maxHeartbeats 4000000
theorem quo16 {x : Nat} (h : x < 256) : IntKind.u8.wrap (((x : Nat) : Int).tdiv 16) = ((x / 16 : Nat) : Int) := by
  have key : ∀ a : Fin 256, IntKind.u8.wrap (((a.val : Nat) : Int).tdiv 16) = ((a.val / 16 : Nat) : Int) := by decide
  exact key ⟨x, h⟩
theorem quoteR_spec (s : ByteArray) (hs : s.size ≤ 1000000) : Spec Tryz.prog 40 [.raw (.string s)] [] 0 (σ := Unit) (fun _ => True) (fun _ => .raw (.string (strOf (quotW (strB s))))) (fun _ => []) := by
  refine Spec.of Tryz.func40 rfl Tryz.ntmps40 rfl (bdl_nil _) fun ρ w => ?_
  have hlen := strB_size s
  refine sS_ ?_
  refine C.tellB 0 [34] rfl rfl ?_
  refine C.loop (σ := Nat × Nat) (L2 := 1) (fun x => x.1 ≤ (strB s).length ∧ x.2 ≤ 9223372036854775807) (fun x => [(0, .raw (.string s)), (3, .raw (.string ⟨#[48, 49, 50, 51, 52, 53, 54, 55, 56, 57, 97, 98, 99, 100, 101, 102]⟩)), (4, .sl 0 1 0 ([34] ++ ((strB s).take x.1).flatMap quotC).length x.2), (5, .raw (.int .i64 (x.1 : Nat)))]) (fun x => [(0, .bytes ([34] ++ ((strB s).take x.1).flatMap quotC) x.2 5)]) _ (fun x => (strB s).length - x.1) [] (0, 1) ⟨Nat.zero_le _, by decide⟩ rfl hS9_ hS5_ rfl (fun _ h => h) ?_
  rintro ⟨i, c⟩ ⟨hi, hc⟩
  dsimp only at hi hc ⊢
  have hfl := flatC_len ((strB s).take i)
  rw [List.length_take] at hfl
  refine sS_ ?_
  by_cases hlt : i < (strB s).length
  · rw [decide_eq_true (show ((i : Nat) : Int) < (s.size : Nat) by omega)]
    have hst := flat_snoc hlt
    refine sS_ ?_
    refine R.sx ttok i rfl rfl rfl rfl rfl rfl hlt ?_
    rw [show s.data.toList = strB s from rfl]
    obtain ⟨b, hb⟩ : ∃ b, (strB s).getD i 0 = b := ⟨_, rfl⟩
    rw [hb] at hst ⊢
    have hbN : b.toNat < 256 := b.toNat_lt
    obtain ⟨q, hq⟩ : ∃ q, ((strB s).take i).flatMap quotC = q := ⟨_, rfl⟩
    rw [hq] at hst hfl ⊢
    have hcv : ∀ k : UInt8, ((((b.toNat : Nat) : Int) = (k.toNat : Nat)) ↔ b = k) := fun k => ⟨fun e => UInt8.toNat_inj.1 (by omega), fun e => by rw [e]⟩
    refine sS_ ?_
    by_cases hlo : b.toNat < 32
    · rw [decide_eq_true (show ((b.toNat : Nat) : Int) < 32 by omega)]
      have hor : b.toNat < 32 ∨ 126 < b.toNat := .inl hlo
      have hlh : ¬ (b = 34 ∨ b = 92) := fun h => by rcases h with rfl | rfl <;> revert hor <;> decide
      have hqc : quotC b = qh b := by unfold quotC; rw [if_neg hlh, if_pos hor]
      rw [hqc] at hst
      refine sS_ ?_
      refine C.draw [[], [], [], [2], [1, 2, 3], [], [], [6], [5, 6, 7], [1, 2, 3, 4, 5, 6, 7, 8], [0, 1, 2, 3, 4, 5, 6, 7, 8, 9], [0, 1, 2, 3, 4, 5, 6, 7, 8, 9, 10]] [9, 10] (by kernel_rfl) (by kernel_rfl) ?_
      refine sS_ ?_
      refine R.quo ((b.toNat / 16 : Nat) : Int) rfl rfl rfl (by kernel_rfl) (by decide) (quo16 hbN) ?_
      refine R.sx ttok (b.toNat / 16) rfl rfl rfl rfl (by kernel_rfl) rfl (by show _ < 16; omega) ?_
      refine sS_ ?_
      refine R.rem ((b.toNat % 16 : Nat) : Int) rfl rfl rfl (by kernel_rfl) (by decide) (Int.ofNat_tmod b.toNat 16) ?_
      refine R.sx ttok (b.toNat % 16) rfl rfl rfl rfl (by kernel_rfl) rfl (by show _ < 16; omega) ?_
      refine sS_ ?_
      refine R.apb ttok (q := qh b) rfl rfl rfl rfl (SrcA.cells rfl rfl) rfl rfl rfl rfl rfl rfl rfl rfl rfl hc (by rw [List.length_append, List.length_append]; simp only [List.length_cons, List.length_nil]; omega) fun c' h5 h6 => ?_
      refine sS_ ?_
      have hnew : [34] ++ ((strB s).take (i + 1)).flatMap quotC = [34] ++ q ++ qh b := by rw [hst]; simp only [List.append_assoc, List.cons_append, List.nil_append]
      exact X.back [(0, 2)] (i + 1, c') ⟨hlt, h6⟩ (by dsimp only; omega) rfl (by
        show HasT _ _ _ [_, _, (4, .sl 0 1 0 ([34] ++ ((strB s).take (i + 1)).flatMap quotC).length c'), _]
        rw [hnew]
        exact hS9_) (by
        show HasH _ _ _ [(0, .bytes ([34] ++ ((strB s).take (i + 1)).flatMap quotC) c' 5)]
        rw [hnew]
        exact hS5_) rfl (fun _ h => h)
    · rw [decide_eq_false (show ¬ ((b.toNat : Nat) : Int) < 32 by omega)]
      refine sS_ ?_
      by_cases hhi : 126 < b.toNat
      · rw [decide_eq_true (show ((b.toNat : Nat) : Int) > 126 by omega)]
        have hor : b.toNat < 32 ∨ 126 < b.toNat := .inr hhi
        have hlh : ¬ (b = 34 ∨ b = 92) := fun h => by rcases h with rfl | rfl <;> revert hor <;> decide
        have hqc : quotC b = qh b := by unfold quotC; rw [if_neg hlh, if_pos hor]
        rw [hqc] at hst
        refine sS_ ?_
        refine C.draw [[], [], [], [2], [1, 2, 3], [], [], [6], [5, 6, 7], [1, 2, 3, 4, 5, 6, 7, 8], [0, 1, 2, 3, 4, 5, 6, 7, 8, 9], [0, 1, 2, 3, 4, 5, 6, 7, 8, 9, 10]] [9, 10] (by kernel_rfl) (by kernel_rfl) ?_
        refine sS_ ?_
        refine R.quo ((b.toNat / 16 : Nat) : Int) rfl rfl rfl (by kernel_rfl) (by decide) (quo16 hbN) ?_
        refine R.sx ttok (b.toNat / 16) rfl rfl rfl rfl (by kernel_rfl) rfl (by show _ < 16; omega) ?_
        refine sS_ ?_
        refine R.rem ((b.toNat % 16 : Nat) : Int) rfl rfl rfl (by kernel_rfl) (by decide) (Int.ofNat_tmod b.toNat 16) ?_
        refine R.sx ttok (b.toNat % 16) rfl rfl rfl rfl (by kernel_rfl) rfl (by show _ < 16; omega) ?_
        refine sS_ ?_
        refine R.apb ttok (q := qh b) rfl rfl rfl rfl (SrcA.cells rfl rfl) rfl rfl rfl rfl rfl rfl rfl rfl rfl hc (by rw [List.length_append, List.length_append]; simp only [List.length_cons, List.length_nil]; omega) fun c' h5 h6 => ?_
        refine sS_ ?_
        have hnew : [34] ++ ((strB s).take (i + 1)).flatMap quotC = [34] ++ q ++ qh b := by rw [hst]; simp only [List.append_assoc, List.cons_append, List.nil_append]
        exact X.back [(0, 2)] (i + 1, c') ⟨hlt, h6⟩ (by dsimp only; omega) rfl (by
          show HasT _ _ _ [_, _, (4, .sl 0 1 0 ([34] ++ ((strB s).take (i + 1)).flatMap quotC).length c'), _]
          rw [hnew]
          exact hS9_) (by
          show HasH _ _ _ [(0, .bytes ([34] ++ ((strB s).take (i + 1)).flatMap quotC) c' 5)]
          rw [hnew]
          exact hS5_) rfl (fun _ h => h)
      · rw [decide_eq_false (show ¬ ((b.toNat : Nat) : Int) > 126 by omega)]
        have hor : ¬ (b.toNat < 32 ∨ 126 < b.toNat) := by omega
        refine sS_ ?_
        by_cases h34 : b = 34
        · rw [decide_eq_true (show (((b.toNat : Nat) : Int) = 34) from (hcv 34).2 h34)]
          have hpp : b = 34 ∨ b = 92 := .inl h34
          have hqc : quotC b = [92, b] := by unfold quotC; rw [if_pos hpp]
          rw [hqc] at hst
          refine sS_ ?_
          refine R.apb ttok (q := [92]) rfl rfl rfl rfl (SrcA.cells rfl rfl) rfl rfl rfl rfl rfl rfl rfl rfl rfl hc (by rw [List.length_append, List.length_append]; simp only [List.length_cons, List.length_nil]; omega) fun c1 g5 g6 => ?_
          refine sS_ ?_
          refine R.apb ttok (q := [b]) rfl rfl rfl rfl (SrcA.cells rfl rfl) rfl rfl rfl rfl rfl rfl rfl rfl rfl g6 (by rw [List.length_append, List.length_append, List.length_append]; simp only [List.length_cons, List.length_nil]; omega) fun c' h5 h6 => ?_
          refine sS_ ?_
          have hnew : [34] ++ ((strB s).take (i + 1)).flatMap quotC = [34] ++ q ++ [92] ++ [b] := by rw [hst]; simp only [List.append_assoc, List.cons_append, List.nil_append]
          exact X.back [(0, 4)] (i + 1, c') ⟨hlt, h6⟩ (by dsimp only; omega) rfl (by
            show HasT _ _ _ [_, _, (4, .sl 0 1 0 ([34] ++ ((strB s).take (i + 1)).flatMap quotC).length c'), _]
            rw [hnew]
            exact hS9_) (by
            show HasH _ _ _ [(0, .bytes ([34] ++ ((strB s).take (i + 1)).flatMap quotC) c' 5)]
            rw [hnew]
            exact hS5_) rfl (fun _ h => h)
        · rw [decide_eq_false (show ¬ (((b.toNat : Nat) : Int) = 34) from fun e => h34 ((hcv 34).1 e))]
          refine sS_ ?_
          by_cases h92 : b = 92
          · rw [decide_eq_true (show (((b.toNat : Nat) : Int) = 92) from (hcv 92).2 h92)]
            have hpp : b = 34 ∨ b = 92 := .inr h92
            have hqc : quotC b = [92, b] := by unfold quotC; rw [if_pos hpp]
            rw [hqc] at hst
            refine sS_ ?_
            refine R.apb ttok (q := [92]) rfl rfl rfl rfl (SrcA.cells rfl rfl) rfl rfl rfl rfl rfl rfl rfl rfl rfl hc (by rw [List.length_append, List.length_append]; simp only [List.length_cons, List.length_nil]; omega) fun c1 g5 g6 => ?_
            refine sS_ ?_
            refine R.apb ttok (q := [b]) rfl rfl rfl rfl (SrcA.cells rfl rfl) rfl rfl rfl rfl rfl rfl rfl rfl rfl g6 (by rw [List.length_append, List.length_append, List.length_append]; simp only [List.length_cons, List.length_nil]; omega) fun c' h5 h6 => ?_
            refine sS_ ?_
            have hnew : [34] ++ ((strB s).take (i + 1)).flatMap quotC = [34] ++ q ++ [92] ++ [b] := by rw [hst]; simp only [List.append_assoc, List.cons_append, List.nil_append]
            exact X.back [(0, 4)] (i + 1, c') ⟨hlt, h6⟩ (by dsimp only; omega) rfl (by
              show HasT _ _ _ [_, _, (4, .sl 0 1 0 ([34] ++ ((strB s).take (i + 1)).flatMap quotC).length c'), _]
              rw [hnew]
              exact hS9_) (by
              show HasH _ _ _ [(0, .bytes ([34] ++ ((strB s).take (i + 1)).flatMap quotC) c' 5)]
              rw [hnew]
              exact hS5_) rfl (fun _ h => h)
          · rw [decide_eq_false (show ¬ (((b.toNat : Nat) : Int) = 92) from fun e => h92 ((hcv 92).1 e))]
            have hno : ¬ (b = 34 ∨ b = 92) := fun h => h.elim h34 h92
            have hqc : quotC b = [b] := by unfold quotC; rw [if_neg hno, if_neg hor]
            rw [hqc] at hst
            refine sS_ ?_
            refine R.apb ttok (q := [b]) rfl rfl rfl rfl (SrcA.cells rfl rfl) rfl rfl rfl rfl rfl rfl rfl rfl rfl hc (by rw [List.length_append, List.length_append]; simp only [List.length_cons, List.length_nil]; omega) fun c' h5 h6 => ?_
            refine sS_ ?_
            have hnew : [34] ++ ((strB s).take (i + 1)).flatMap quotC = [34] ++ q ++ [b] := by rw [hst]; simp only [List.append_assoc, List.cons_append, List.nil_append]
            exact X.back [(0, 2)] (i + 1, c') ⟨hlt, h6⟩ (by dsimp only; omega) rfl (by
              show HasT _ _ _ [_, _, (4, .sl 0 1 0 ([34] ++ ((strB s).take (i + 1)).flatMap quotC).length c'), _]
              rw [hnew]
              exact hS9_) (by
              show HasH _ _ _ [(0, .bytes ([34] ++ ((strB s).take (i + 1)).flatMap quotC) c' 5)]
              rw [hnew]
              exact hS5_) rfl (fun _ h => h)
  · rw [decide_eq_false (show ¬ ((i : Nat) : Int) < (s.size : Nat) by omega)]
    obtain rfl : i = (strB s).length := by omega
    rw [List.take_length] at hfl ⊢
    refine sS_ ?_
    refine R.apb ttok (q := [34]) rfl rfl rfl rfl (SrcA.cells rfl rfl) rfl rfl rfl rfl rfl rfl rfl rfl rfl hc (by rw [List.length_append, List.length_append]; simp only [List.length_cons, List.length_nil]; omega) fun c' h5 h6 => ?_
    refine sS_ ?_
    refine R.b2s ttok (quotW (strB s)) rfl (SrcA.bytes0 rfl) rfl rfl rfl rfl rfl rfl rfl rfl rfl (by kernel_rfl) ?_
    refine sS_ ?_
    refine X.fin ttok () [] trivial rfl rfl rfl hS5_ _ (by first | exact .inl rfl | exact .inr rfl)
end Go.Proofs.YtaieficgifingaaGreatDoor
namespace Go.Proofs.YtaieficgifingaaGreatDoor
set_option linter.unusedVariables false
set_option linter.unusedSimpArgs false
open Go.RowKit
set_option maxRecDepth 100000
set_option maxHeartbeats 4000000
theorem dd_len (n : Nat) (h : n ≤ 9223372036854775807) : (Lib.decDigits n).length ≤ 21 := by
  have := itoa_le (n := (n : Int)) ⟨by omega, by omega⟩
  unfold Lib.itoa at this
  rw [if_neg (by omega)] at this
  exact this
theorem dd_step {m : Nat} (h : 9 < m) : Lib.decDigits m = Lib.decDigits (m / 10) ++ [UInt8.ofNat (48 + m % 10)] := by
  rw [Lib.decDigits, dif_neg (by omega)]
theorem avB_dg {z : Int} {m : Nat} (h : m < 10) (hz : z = 48 + (m : Int)) : [AV.raw (.int .u8 z)] = avB [UInt8.ofNat (48 + m)] := by
  subst hz
  show _ = [AV.raw (byteV (UInt8.ofNat (48 + m)))]
  unfold byteV
  rw [show ((UInt8.ofNat (48 + m)).toNat : Int) = 48 + (m : Int) by rw [UInt8.toNat_ofNat']; omega]
theorem digitsN_spec (n : Nat) (hn : n ≤ 9223372036854775807) : Spec Tryz.prog 72 [.raw (.int .i64 (n : Nat))] [] 0 (σ := Unit) (fun _ => True) (fun _ => .raw (.string (strOf (Lib.decDigits n)))) (fun _ => []) := by
  refine Spec.of Tryz.func72 rfl Tryz.ntmps72 rfl (bdl_nil _) fun ρ w => ?_
  refine sS_ ?_
  rw [decide_eq_false (show ¬ ((n : Nat) : Int) = -9223372036854775808 by omega)]
  refine sS_ ?_
  rw [decide_eq_false (show ¬ ((n : Nat) : Int) < 0 by omega)]
  refine sS_ ?_
  have hdl := dd_len n hn
  refine C.loop (σ := Nat × List UInt8) (L2 := 0) (fun x => x.1 ≤ n ∧ Lib.decDigits x.1 ++ x.2 = Lib.decDigits n) (fun x => [(0, .raw (.int .i64 (x.1 : Nat))), (3, .raw (.string (strOf x.2)))]) (fun x => []) _ (fun x => x.1) [] (n, []) ⟨Nat.le_refl _, List.append_nil _⟩ rfl (by
    show HasT _ _ _ [_, (3, .raw (.string (strOf [])))]
    rw [show strOf [] = (⟨#[]⟩ : ByteArray) from rfl]
    exact hS9_) hS5_ rfl (fun _ h => h) ?_
  rintro ⟨m, acc⟩ ⟨hm, hacc⟩
  dsimp only at hm hacc ⊢
  have hal : (Lib.decDigits m).length + acc.length ≤ 21 := by rw [← List.length_append, hacc]; exact hdl
  refine sS_ ?_
  by_cases h9 : 9 < m
  · rw [decide_eq_true (show ((m : Nat) : Int) > 9 by omega)]
    refine sS_ ?_
    refine R.rem ((m % 10 : Nat) : Int) rfl rfl rfl (by kernel_rfl) (by decide) (Int.ofNat_tmod m 10) ?_
    have hm10 : m % 10 < 10 := Nat.mod_lt _ (by decide)
    obtain ⟨r, hr⟩ : ∃ r, m % 10 = r := ⟨_, rfl⟩
    rw [hr] at hm10 ⊢
    refine sS_ ?_
    refine R.b2s ttok [UInt8.ofNat (48 + r)] rfl (SrcA.cells rfl rfl) (avB_dg hm10 rfl) rfl rfl rfl rfl rfl rfl rfl rfl (by kernel_rfl) ?_
    refine sS_ ?_
    refine R.cat rfl rfl rfl (by kernel_rfl) (by rw [strOf_size, strOf_size]; show 1 + _ ≤ _; omega) ?_
    rw [strOf_app]
    refine sS_ ?_
    refine R.quo ((m / 10 : Nat) : Int) rfl rfl rfl (by kernel_rfl) (by decide) (by rw [show (((m : Nat) : Int).tdiv 10) = ((m / 10 : Nat) : Int) from Int.ofNat_tdiv m 10]; exact wrap_i64 (by omega) (by omega)) ?_
    refine sS_ ?_
    have hst := dd_step h9
    rw [hr] at hst
    exact X.back [] (m / 10, [UInt8.ofNat (48 + r)] ++ acc) ⟨by omega, by rw [← List.append_assoc, ← hst]; exact hacc⟩ (by dsimp only; omega) rfl hS9_ hS5_ rfl (fun _ h => h)
  · rw [decide_eq_false (show ¬ ((m : Nat) : Int) > 9 by omega)]
    refine sS_ ?_
    refine R.b2s ttok [UInt8.ofNat (48 + m)] rfl (SrcA.cells rfl rfl) (avB_dg (by omega) rfl) rfl rfl rfl rfl rfl rfl rfl rfl (by kernel_rfl) ?_
    refine sS_ ?_
    refine R.cat rfl rfl rfl (by kernel_rfl) (by rw [strOf_size, strOf_size]; show 1 + _ ≤ _; omega) ?_
    rw [strOf_app]
    have hend : [UInt8.ofNat (48 + m)] ++ acc = Lib.decDigits n := by rw [← hacc, Lib.decDigits, dif_pos (by omega)]
    rw [hend]
    refine sS_ ?_
    refine X.fin ttok () [] trivial rfl rfl rfl hS5_ _ (by first | exact .inl rfl | exact .inr rfl)
/-- any number -/
theorem digitsR_spec (n : Int) (hn : i64 n) : Spec Tryz.prog 72 [.raw (.int .i64 n)] [] 0 (σ := Unit) (fun _ => True) (fun _ => .raw (.string (strOf (Lib.itoa n)))) (fun _ => []) := by
  by_cases h0 : 0 ≤ n
  · obtain ⟨m, rfl⟩ := Int.eq_ofNat_of_zero_le h0
    have := digitsN_spec m (by have := hn.2; omega)
    rw [show Lib.itoa (m : Int) = Lib.decDigits m by unfold Lib.itoa; rw [if_neg (by omega)]; rfl]
    exact this
  · refine Spec.of Tryz.func72 rfl Tryz.ntmps72 rfl (bdl_nil _) fun ρ w => ?_
    refine sS_ ?_
    by_cases hmin : n = -9223372036854775808
    · rw [decide_eq_true hmin]
      refine sS_ ?_
      subst hmin
      rw [show Lib.itoa (-9223372036854775808) = [45, 57, 50, 50, 51, 51, 55, 50, 48, 51, 54, 56, 53, 52, 55, 55, 53, 56, 48, 56] by kernel_rfl]
      refine sS_ ?_
      refine X.fin ttok () [] trivial rfl rfl rfl hS5_ _ (by first | exact .inl rfl | exact .inr rfl)
    · rw [decide_eq_false hmin]
      refine sS_ ?_
      rw [decide_eq_true (show n < 0 by omega)]
      have h1 := hn.1
      have h2 := hn.2
      refine sS_ ?_
      obtain ⟨m, hm⟩ := Int.eq_ofNat_of_zero_le (show 0 ≤ 0 - n by omega)
      rw [hm]
      refine R.cl [] (digitsN_spec m (by omega)) Tryz.call72 hS8_ rfl rfl rfl (fun _ => rfl) rfl (by kernel_rfl) fun _ _ => ?_
      have hl := dd_len m (by omega)
      refine R.cat rfl rfl rfl (by kernel_rfl) (by rw [strOf_size]; show 1 + _ ≤ _; omega) ?_
      rw [show (⟨#[45]⟩ : ByteArray) ++ strOf (Lib.decDigits m) = strOf (Lib.itoa n) by
        rw [show (⟨#[45]⟩ : ByteArray) = strOf [45] from rfl, strOf_app]; unfold Lib.itoa; rw [if_pos (by omega), show n.natAbs = m by omega]; rfl]
      refine sS_ ?_
      refine X.fin ttok () [] trivial rfl rfl rfl hS5_ _ (by first | exact .inl rfl | exact .inr rfl)
theorem digitsI_spec (n : Int) (hn : i64 n) : Spec Tryz.prog 33 [.raw (.int .i64 n)] [] 0 (σ := Unit) (fun _ => True) (fun _ => .raw (.string (strOf (Lib.itoa n)))) (fun _ => []) := by
  refine Spec.of Tryz.func33 rfl Tryz.ntmps33 rfl (bdl_nil _) fun ρ w => ?_
  have h1 := hn.1
  have h2 := hn.2
  refine sS_ ?_
  refine R.cl [] (digitsR_spec n hn) Tryz.call72 hS8_ rfl rfl rfl (fun _ => rfl) rfl (by kernel_rfl) fun _ _ => ?_
  refine sS_ ?_
  refine X.fin ttok () [] trivial rfl rfl rfl hS5_ _ (by first | exact .inl rfl | exact .inr rfl)
end Go.Proofs.YtaieficgifingaaGreatDoor
namespace Go.Proofs.YtaieficgifingaaGreatDoor
set_option linter.unusedVariables false
set_option linter.constructorNameAsVariable false
set_option linter.unusedSimpArgs false
open Go.RowKit
set_option maxRecDepth 100000
set_option maxHeartbeats 8000000
theorem sayR_spec (k i : Int) (t : ByteArray) (hi : i64 i) (ht : t.size ≤ 1000000) : Spec Tryz.prog 74 [.agg [.raw (.int .i64 k), .raw (.int .i64 i), .raw (.string t)]] [] 0 (σ := Unit) (fun _ => True) (fun _ => .raw (.string (strOf (sayP k i t)))) (fun _ => []) := by
  refine Spec.of Tryz.func74 rfl Tryz.ntmps74 rfl (bdl_nil _) fun ρ w => ?_
  refine sS_ ?_
  by_cases h1 : k = 1
  · rw [decide_eq_true h1]
    refine sS_ ?_
    refine R.cl [] (digitsR_spec i hi) Tryz.call72 hS8_ rfl rfl rfl (fun _ => rfl) rfl (by kernel_rfl) fun _ _ => ?_
    rw [show Lib.itoa i = sayP k i t from (if_pos h1).symm]
    refine sS_ ?_
    refine X.fin ttok () [] trivial rfl rfl rfl hS5_ _ (by first | exact .inl rfl | exact .inr rfl)
  · rw [decide_eq_false h1]
    refine sS_ ?_
    by_cases h2 : k = 2
    · rw [decide_eq_true h2]
      refine sS_ ?_
      refine R.cl [] (quoteR_spec t ht) Tryz.call40 hS8_ rfl rfl rfl (fun _ => rfl) rfl (by kernel_rfl) fun _ _ => ?_
      rw [show quotW (strB t) = sayP k i t from ((if_neg h1).trans (if_pos h2)).symm]
      refine sS_ ?_
      refine X.fin ttok () [] trivial rfl rfl rfl hS5_ _ (by first | exact .inl rfl | exact .inr rfl)
    · rw [decide_eq_false h2]
      have hv : strOf (sayP k i t) = ⟨#[110, 111, 110, 101]⟩ := strB_inj ((if_neg h1).trans (if_neg h2))
      rw [hv]
      refine sS_ ?_
      refine X.fin ttok () [] trivial rfl rfl rfl hS5_ _ (by first | exact .inl rfl | exact .inr rfl)
def wrF (x : Ins) (l : List FK) : List UInt8 := l.flatMap fun q => 32 :: q.wr x
/-- an instruction as words -/
def lnR (x : Ins) : List UInt8 := strB (nmL.getD x.o.toNat ⟨#[]⟩) ++ wrF x (fks x.o.toNat)
theorem fks_v {o : Nat} (h : FK.v ∈ fks o) : o = 1 := by
  unfold fks at h
  split at h <;> simp at h
  rfl
theorem fks_s {o : Nat} (h : FK.s ∈ fks o) : o = 10 ∨ o = 11 := by
  unfold fks at h
  split at h <;> simp at h
  · exact .inl rfl
  · exact .inr rfl
theorem wrF_len {x : Ins} (hI : insI x) : ∀ (l : List FK), (FK.v ∈ l → x.t.size ≤ 256) → (wrF x l).length ≤ 1031 * l.length
  | [], _ => Nat.zero_le _
  | q :: l, h => by
    have h1 := wr_len hI q (fun e => h (by rw [e]; exact List.mem_cons_self ..))
    have h2 := wrF_len hI l (fun e => h (List.mem_cons_of_mem _ e))
    unfold wrF at h2 ⊢
    rw [List.flatMap_cons, List.length_append, List.length_cons, List.length_cons]
    omega
theorem wrF_snoc {x : Ins} {l : List FK} {j : Nat} {q : FK} (h : l[j]? = some q) : wrF x (l.take (j + 1)) = wrF x (l.take j) ++ (32 :: q.wr x) := by
  unfold wrF
  rw [List.take_add_one, h, List.flatMap_append]
  simp
theorem nmL_len (o : Nat) : (strB (nmL.getD o ⟨#[]⟩)).length ≤ 5 := by
  by_cases h : o < 17
  · have key : ∀ a : Fin 17, (strB (nmL.getD a.val ⟨#[]⟩)).length ≤ 5 := by decide
    exact key ⟨o, h⟩
  · rw [List.getD_eq_getElem?_getD, List.getElem?_eq_none (by show 17 ≤ o; omega)]
    decide
theorem namesQ_spec : Spec Tryz.prog 63 [] [] 1 (σ := Unit) (fun _ => True) (fun _ => .sl 0 1 0 17 17) (fun _ => [(0, roNm)]) := by
  refine Spec.of Tryz.func63 rfl Tryz.ntmps63 rfl (bdl_nil _) fun ρ w => ?_
  refine sS_ ?_
  refine X.fin ttok () [] trivial rfl rfl rfl (by exact .other rfl (fun e => by cases e) (fun ρ x w hh => cells_nm hh) rfl (fun _ _ => rfl) .nil) _ (by first | exact .inl rfl | exact .inr rfl)
theorem signsQ_spec : Spec Tryz.prog 73 [] [] 1 (σ := Unit) (fun _ => True) (fun _ => .sl 0 1 0 7 7) (fun _ => [(0, roSg)]) := by
  refine Spec.of Tryz.func73 rfl Tryz.ntmps73 rfl (bdl_nil _) fun ρ w => ?_
  refine sS_ ?_
  refine X.fin ttok () [] trivial rfl rfl rfl (by exact .other rfl (fun e => by cases e) (fun ρ x w hh => cells_sg hh) rfl (fun _ _ => rfl) .nil) _ (by first | exact .inl rfl | exact .inr rfl)
theorem lineR_spec (x : Ins) (hI : insI x) (hK : InsK x) (ho : 1 ≤ x.o ∧ x.o ≤ 16) : Spec Tryz.prog 34 [.agg (insA x)] [] 0 (σ := Unit) (fun _ => True) (fun _ => .raw (.string (strOf (lnR x)))) (fun _ => []) := by
  refine Spec.of Tryz.func34 rfl Tryz.ntmps34 rfl (bdl_nil _) fun ρ w => ?_
  obtain ⟨o, hoN⟩ : ∃ o : Nat, x.o = (o : Nat) := Int.eq_ofNat_of_zero_le (by omega)
  have ho1 : 1 ≤ o := by omega
  have ho2 : o < 17 := by omega
  have hoT : x.o.toNat = o := by omega
  have hvv : FK.v ∈ fks o → x.t.size ≤ 256 := fun h => hK.tx (by rw [hoN, fks_v h]; rfl)
  have hss : FK.s ∈ fks o → 1 ≤ x.n ∧ x.n ≤ 6 := fun h => hK.sg (by rcases fks_s h with h | h <;> rw [hoN, h] <;> decide)
  have hf4 := fks_len o
  have hnl := nmL_len o
  unfold lnR
  rw [hoT]
  refine sS_ ?_
  refine C.draw [[], [], [1], [0, 1, 2], [0, 1, 2, 3], [0, 1, 2, 3, 4]] [0] (by kernel_rfl) (by kernel_rfl) ?_
  refine sS_ ?_
  refine R.cl [] (namesQ_spec) Tryz.call63 hS8_ rfl rfl rfl (fun _ => rfl) rfl (by kernel_rfl) fun _ _ => ?_
  refine sS_ ?_
  refine R.ix ttok o rfl rfl rfl rfl rfl (by kernel_rfl) hoN ho2 (by show _ ≤ _ ∧ _ < _; omega) rfl ?_
  refine R.ldo (v := .raw (.string (nmL.getD o ⟨#[]⟩))) ttok rfl rfl rfl rfl rfl (by kernel_rfl) ho2 ?_
  obtain ⟨nm, hnm⟩ : ∃ nm, nmL.getD o ⟨#[]⟩ = nm := ⟨_, rfl⟩
  rw [hnm] at hnl ⊢
  refine sS_ ?_
  rw [hoN]
  refine R.cl [] (shapeR_spec o (by omega)) Tryz.call64 hS8_ rfl rfl rfl (fun _ => rfl) rfl (by kernel_rfl) fun _ _ => ?_
  have hsl : (strOf ((fks o).map FK.lt)).size = (fks o).length := by rw [← strB_size]; show ((fks o).map FK.lt).length = _; rw [List.length_map]
  refine sS_ ?_
  refine C.loop (σ := Nat) (L2 := 1) (fun j => j ≤ (fks o).length) (fun j => [(1, .ptr 0 0 0 0), (3, .raw (.string (strOf (strB nm ++ wrF x ((fks o).take j))))), (4, .raw (.string (strOf ((fks o).map FK.lt)))), (5, .raw (.int .i64 (j : Nat)))]) (fun _ => [(0, insO x)]) _ (fun j => (fks o).length - j) [] 0 (Nat.zero_le _) rfl (by
    show HasT _ _ _ [_, (3, .raw (.string (strOf (strB nm ++ [])))), _, _]
    rw [List.append_nil, show strOf (strB nm) = nm from strB_inj rfl]
    exact hS9_) hS5_ rfl (fun _ h => h) ?_
  intro j hj
  have hwl := wrF_len hI ((fks o).take j) (fun h => hvv (List.mem_of_mem_take h))
  rw [List.length_take] at hwl
  refine sS_ ?_
  rw [hsl]
  by_cases hlt : j < (fks o).length
  · rw [decide_eq_true (show ((j : Nat) : Int) < ((fks o).length : Nat) by omega)]
    obtain ⟨k, hk⟩ : ∃ k, (fks o)[j]? = some k := ⟨_, List.getElem?_eq_getElem hlt⟩
    have hst := wrF_snoc (x := x) hk
    have hkm : k ∈ fks o := List.mem_of_getElem? hk
    have hkl := wr_len hI k (fun e => hvv (by rw [← e]; exact hkm))
    have hlt' : ((fks o).map FK.lt).getD j 0 = k.lt := by
      rw [List.getD_eq_getElem?_getD, List.getElem?_map, hk]
      rfl
    obtain ⟨W, hW⟩ : ∃ W, strB nm ++ wrF x ((fks o).take j) = W := ⟨_, rfl⟩
    have hWl : W.length ≤ 5000 := by rw [← hW, List.length_append]; omega
    rw [hW]
    refine sS_ ?_
    refine R.cat rfl rfl rfl (by kernel_rfl) (by rw [strOf_size]; show _ + 1 ≤ _; omega) ?_
    rw [show strOf W ++ (⟨#[32]⟩ : ByteArray) = strOf (W ++ [32]) from strOf_app W [32]]
    refine sS_ ?_
    refine R.sx ttok j rfl rfl rfl rfl (by kernel_rfl) rfl (by show j < ((fks o).map FK.lt).length; rw [List.length_map]; exact hlt) ?_
    rw [show (strOf ((fks o).map FK.lt)).data.toList.getD j 0 = k.lt from hlt']
    cases k with
    | a =>
      simp only [FK.wr] at hkl hst
      rw [List.length_cons] at hkl
      refine sS_ ?_
      refine R.cat rfl rfl rfl (by kernel_rfl) (by rw [strOf_size, List.length_append]; show _ + 1 + 1 ≤ _; omega) ?_
      rw [show strOf (W ++ [32]) ++ (⟨#[114]⟩ : ByteArray) = strOf (W ++ [32] ++ [114]) from strOf_app _ [114]]
      refine sS_ ?_
      refine R.cl [] (digitsI_spec (x.a) (hI.1)) Tryz.call33 hS8_ rfl rfl rfl (fun _ => rfl) rfl (by kernel_rfl) fun _ _ => ?_
      refine R.cat rfl rfl rfl (by kernel_rfl) (by rw [strOf_size, strOf_size, List.length_append, List.length_append]; show _ + 1 + 1 + _ ≤ _; omega) ?_
      rw [strOf_app, show W ++ [32] ++ [114] ++ Lib.itoa (x.a) = W ++ (32 :: 114 :: Lib.itoa (x.a)) by simp only [List.append_assoc, List.cons_append, List.nil_append]]
      refine sS_ ?_
      exact X.back [] (j + 1) hlt (by omega) rfl (by
        show HasT _ _ _ [_, (3, .raw (.string (strOf (strB nm ++ wrF x ((fks o).take (j + 1)))))), _, _]
        rw [hst, ← List.append_assoc, hW]
        exact hS9_) hS5_ rfl (fun _ h => h)
    | b =>
      simp only [FK.wr] at hkl hst
      rw [List.length_cons] at hkl
      refine sS_ ?_
      refine R.cat rfl rfl rfl (by kernel_rfl) (by rw [strOf_size, List.length_append]; show _ + 1 + 1 ≤ _; omega) ?_
      rw [show strOf (W ++ [32]) ++ (⟨#[114]⟩ : ByteArray) = strOf (W ++ [32] ++ [114]) from strOf_app _ [114]]
      refine sS_ ?_
      refine R.cl [] (digitsI_spec (x.b) (hI.2.1)) Tryz.call33 hS8_ rfl rfl rfl (fun _ => rfl) rfl (by kernel_rfl) fun _ _ => ?_
      refine R.cat rfl rfl rfl (by kernel_rfl) (by rw [strOf_size, strOf_size, List.length_append, List.length_append]; show _ + 1 + 1 + _ ≤ _; omega) ?_
      rw [strOf_app, show W ++ [32] ++ [114] ++ Lib.itoa (x.b) = W ++ (32 :: 114 :: Lib.itoa (x.b)) by simp only [List.append_assoc, List.cons_append, List.nil_append]]
      refine sS_ ?_
      exact X.back [] (j + 1) hlt (by omega) rfl (by
        show HasT _ _ _ [_, (3, .raw (.string (strOf (strB nm ++ wrF x ((fks o).take (j + 1)))))), _, _]
        rw [hst, ← List.append_assoc, hW]
        exact hS9_) hS5_ rfl (fun _ h => h)
    | c =>
      simp only [FK.wr] at hkl hst
      rw [List.length_cons] at hkl
      refine sS_ ?_
      refine R.cat rfl rfl rfl (by kernel_rfl) (by rw [strOf_size, List.length_append]; show _ + 1 + 1 ≤ _; omega) ?_
      rw [show strOf (W ++ [32]) ++ (⟨#[114]⟩ : ByteArray) = strOf (W ++ [32] ++ [114]) from strOf_app _ [114]]
      refine sS_ ?_
      refine R.cl [] (digitsI_spec (x.c) (hI.2.2.1)) Tryz.call33 hS8_ rfl rfl rfl (fun _ => rfl) rfl (by kernel_rfl) fun _ _ => ?_
      refine R.cat rfl rfl rfl (by kernel_rfl) (by rw [strOf_size, strOf_size, List.length_append, List.length_append]; show _ + 1 + 1 + _ ≤ _; omega) ?_
      rw [strOf_app, show W ++ [32] ++ [114] ++ Lib.itoa (x.c) = W ++ (32 :: 114 :: Lib.itoa (x.c)) by simp only [List.append_assoc, List.cons_append, List.nil_append]]
      refine sS_ ?_
      exact X.back [] (j + 1) hlt (by omega) rfl (by
        show HasT _ _ _ [_, (3, .raw (.string (strOf (strB nm ++ wrF x ((fks o).take (j + 1)))))), _, _]
        rw [hst, ← List.append_assoc, hW]
        exact hS9_) hS5_ rfl (fun _ h => h)
    | n =>
      simp only [FK.wr] at hkl hst
      refine sS_ ?_
      refine R.cl [] (digitsI_spec (x.n) (hI.2.2.2.1)) Tryz.call33 hS8_ rfl rfl rfl (fun _ => rfl) rfl (by kernel_rfl) fun _ _ => ?_
      refine R.cat rfl rfl rfl (by kernel_rfl) (by rw [strOf_size, strOf_size, List.length_append]; show _ + 1 + _ ≤ _; omega) ?_
      rw [strOf_app, show W ++ [32] ++ Lib.itoa (x.n) = W ++ (32 :: Lib.itoa (x.n)) by simp only [List.append_assoc, List.cons_append, List.nil_append]]
      refine sS_ ?_
      exact X.back [] (j + 1) hlt (by omega) rfl (by
        show HasT _ _ _ [_, (3, .raw (.string (strOf (strB nm ++ wrF x ((fks o).take (j + 1)))))), _, _]
        rw [hst, ← List.append_assoc, hW]
        exact hS9_) hS5_ rfl (fun _ h => h)
    | k =>
      simp only [FK.wr] at hkl hst
      refine sS_ ?_
      refine R.cl [] (digitsI_spec (x.a) (hI.1)) Tryz.call33 hS8_ rfl rfl rfl (fun _ => rfl) rfl (by kernel_rfl) fun _ _ => ?_
      refine R.cat rfl rfl rfl (by kernel_rfl) (by rw [strOf_size, strOf_size, List.length_append]; show _ + 1 + _ ≤ _; omega) ?_
      rw [strOf_app, show W ++ [32] ++ Lib.itoa (x.a) = W ++ (32 :: Lib.itoa (x.a)) by simp only [List.append_assoc, List.cons_append, List.nil_append]]
      refine sS_ ?_
      exact X.back [] (j + 1) hlt (by omega) rfl (by
        show HasT _ _ _ [_, (3, .raw (.string (strOf (strB nm ++ wrF x ((fks o).take (j + 1)))))), _, _]
        rw [hst, ← List.append_assoc, hW]
        exact hS9_) hS5_ rfl (fun _ h => h)
    | s =>
      obtain ⟨hn1, hn2⟩ := hss hkm
      obtain ⟨m, hm⟩ : ∃ m : Nat, x.n = (m : Nat) := Int.eq_ofNat_of_zero_le (by omega)
      have hmT : x.n.toNat = m := by omega
      have hm7 : m < 7 := by omega
      simp only [FK.wr] at hkl hst
      rw [hmT] at hkl hst
      refine sS_ ?_
      refine C.draw [[], [], [], [2], [1, 2, 3], [1, 2, 3, 4], [0, 1, 2, 3, 4, 5], [0, 1, 2, 3, 4, 5, 6]] [1] (by kernel_rfl) (by kernel_rfl) ?_
      refine sS_ ?_
      refine R.cl [] (signsQ_spec) Tryz.call73 hS8_ rfl rfl rfl (fun _ => rfl) rfl (by kernel_rfl) fun _ _ => ?_
      refine sS_ ?_
      refine R.ix ttok m rfl rfl rfl rfl rfl (by kernel_rfl) hm hm7 (by show _ ≤ _ ∧ _ < _; omega) rfl ?_
      refine R.ldo (v := .raw (.string (sgL.getD m ⟨#[]⟩))) ttok rfl rfl rfl rfl rfl (by kernel_rfl) hm7 ?_
      obtain ⟨sg, hsg⟩ : ∃ sg, sgL.getD m ⟨#[]⟩ = sg := ⟨_, rfl⟩
      rw [hsg] at hkl hst ⊢
      have hsz := strB_size sg
      refine R.cat rfl rfl rfl (by kernel_rfl) (by rw [strOf_size, List.length_append]; show _ + 1 + _ ≤ _; omega) ?_
      rw [cat1, show W ++ [32] ++ strB sg = W ++ (32 :: strB sg) by simp only [List.append_assoc, List.cons_append, List.nil_append]]
      refine sS_ ?_
      exact X.back [] (j + 1) hlt (by omega) rfl (by
        show HasT _ _ _ [_, (3, .raw (.string (strOf (strB nm ++ wrF x ((fks o).take (j + 1)))))), _, _]
        rw [hst, ← List.append_assoc, hW]
        exact hS9_) hS5_ rfl (fun _ h => h)
    | v =>
      simp only [FK.wr] at hkl hst
      refine sS_ ?_
      refine R.cl [] (sayR_spec x.k x.i x.t hI.2.2.2.2 (Nat.le_trans (hvv hkm) (by decide))) Tryz.call74 hS8_ rfl rfl rfl (fun _ => rfl) rfl (by kernel_rfl) fun _ _ => ?_
      refine R.cat rfl rfl rfl (by kernel_rfl) (by rw [strOf_size, strOf_size, List.length_append]; show _ + 1 + _ ≤ _; omega) ?_
      rw [strOf_app, show W ++ [32] ++ sayP x.k x.i x.t = W ++ (32 :: sayP x.k x.i x.t) by simp only [List.append_assoc, List.cons_append, List.nil_append]]
      refine sS_ ?_
      exact X.back [] (j + 1) hlt (by omega) rfl (by
        show HasT _ _ _ [_, (3, .raw (.string (strOf (strB nm ++ wrF x ((fks o).take (j + 1)))))), _, _]
        rw [hst, ← List.append_assoc, hW]
        exact hS9_) hS5_ rfl (fun _ h => h)
  · rw [decide_eq_false (show ¬ ((j : Nat) : Int) < ((fks o).length : Nat) by omega)]
    obtain rfl : j = (fks o).length := by omega
    rw [List.take_length]
    refine sS_ ?_
    refine X.fin ttok () [] trivial rfl rfl rfl hS5_ _ (by first | exact .inl rfl | exact .inr rfl)
end Go.Proofs.YtaieficgifingaaGreatDoor
namespace Go.Proofs.YtaieficgifingaaGreatDoor
set_option linter.unusedVariables false
set_option linter.unusedSimpArgs false
open Go.RowKit
set_option maxRecDepth 100000
set_option maxHeartbeats 8000000
theorem lnP_eq {x : Ins} (ho : 1 ≤ x.o ∧ x.o ≤ 16) : lnP x = [32, 32] ++ lnR x ++ [10] := by
  have h : x.o = 1 ∨ x.o = 2 ∨ x.o = 3 ∨ x.o = 4 ∨ x.o = 5 ∨ x.o = 6 ∨ x.o = 7 ∨ x.o = 8 ∨ x.o = 9 ∨ x.o = 10 ∨ x.o = 11 ∨ x.o = 12 ∨ x.o = 13 ∨ x.o = 14 ∨ x.o = 15 ∨ x.o = 16 := by omega
  unfold lnP lnS lnR
  rcases h with h | h | h | h | h | h | h | h | h | h | h | h | h | h | h | h <;> rw [h] <;> simp [shL, lineS, wrF, fks, nmL, strB]
theorem insE_op {ar : Int} {n i : Nat} {x : Ins} (h : insE ar n i x = 0) : 1 ≤ x.o ∧ x.o ≤ 16 := by
  unfold insE at h
  split at h
  · cases h
  · omega
theorem lnR_len {x : Ins} (hI : insI x) (hK : InsK x) (ho : 1 ≤ x.o ∧ x.o ≤ 16) : (lnR x).length ≤ 5000 := by
  have h1 := nmL_len x.o.toNat
  have h2 := fks_len x.o.toNat
  have h3 := wrF_len hI (fks x.o.toNat) (fun h => hK.tx (by have := fks_v h; omega))
  unfold lnR
  rw [List.length_append]
  omega
end Go.Proofs.YtaieficgifingaaGreatDoor
namespace Go.Proofs.YtaieficgifingaaGreatDoor
set_option linter.unusedVariables false
set_option linter.unusedSimpArgs false
open Go.RowKit
set_option maxRecDepth 100000
set_option maxHeartbeats 4000000
def wordsF : Nat → List UInt8 → Option (List (List UInt8 × Bool))
  | 0, _ => none
  | k + 1, l => match Lib.trimLeftS l [32, 9] with
    | [] => some []
    | c :: r => if c = 35 then some [] else if c = 34 then (match quoteP [] r with
        | none => none
        | some p => (wordsF k p.2).map ((p.1, true) :: ·)) else (wordsF k ((c :: r).drop (wordN (c :: r)))).map (((c :: r).take (wordN (c :: r)), false) :: ·)
theorem wordsF_eq : ∀ (k : Nat) (l : List UInt8), l.length < k → wordsF k l = wordsP l
  | 0, l, h => absurd h (Nat.not_lt_zero _)
  | k + 1, l, h => by
    have htl := trim_le l
    unfold wordsF
    cases ht : Lib.trimLeftS l [32, 9] with
    | nil => rw [wordsP_end (.inl ht)]
    | cons c r =>
      rw [ht, List.length_cons] at htl
      dsimp only
      by_cases h35 : c = 35
      · rw [if_pos h35, wordsP_end (.inr ⟨r, by rw [ht, h35]⟩)]
      · rw [if_neg h35]
        by_cases h34 : c = 34
        · rw [if_pos h34, wordsP_q (r := r) (by rw [ht, h34])]
          cases hq : quoteP [] r with
          | none => rfl
          | some p =>
            have := quoteP_lt r [] p hq
            dsimp only
            rw [wordsF_eq k p.2 (by omega)]
        · rw [if_neg h34, wordsP_w ht h35 h34]
          have hpos := wordN_pos (r := r) (trim_head ht) h35
          rw [wordsF_eq k _ (by rw [List.length_drop, List.length_cons]; omega)]
def linesF : Nat → List UInt8 → List (List UInt8)
  | 0, _ => []
  | k + 1, l => if l = [] then [] else lineA l :: linesF k (lineB l)
theorem linesF_eq : ∀ (k : Nat) (l : List UInt8), l.length < k → linesF k l = linesL l
  | 0, l, h => absurd h (Nat.not_lt_zero _)
  | k + 1, l, h => by
    unfold linesF
    by_cases h0 : l = []
    · rw [if_pos h0, h0, linesL_nil]
    · rw [if_neg h0, linesL_cons h0]
      have := lineB_lt h0
      rw [linesF_eq k _ (by omega)]
def stepF (p : PR) (n : Nat) (l : List UInt8) : Option PR := match wordsF (l.length + 1) l with
  | none => none
  | some ws => stepW p n (wsOf ws)
theorem stepF_eq (p : PR) (n : Nat) (l : List UInt8) : stepF p n l = stepL p n l := by
  unfold stepF stepL
  rw [wordsF_eq _ _ (Nat.lt_succ_self _)]
  cases wordsP l <;> rfl
def runF : List (List UInt8) → Nat → PR → Except Nat PR
  | [], _, p => .ok p
  | l :: r, n, p => match stepF p n l with
    | none => .error n
    | some p' => runF r (n + 1) p'
theorem runF_eq : ∀ (l : List (List UInt8)) (n : Nat) (p : PR), runF l n p = runL l n p
  | [], _, _ => rfl
  | l :: r, n, p => by
    unfold runF
    rw [stepF_eq]
    cases h : stepL p n l with
    | none => rw [run_err h]
    | some p' => rw [run_on h]; exact runF_eq r _ _
def parseF (t : List UInt8) : Except (Int × Int) PR := match runF (linesF (t.length + 1) t) 1 pr0 with
  | .error n => .error (((n : Nat) : Int), 17)
  | .ok p => endP p (linesF (t.length + 1) t).length
theorem parseF_eq (t : List UInt8) : parseF t = parseP t := by
  unfold parseF parseP
  rw [linesF_eq _ _ (Nat.lt_succ_self _), runF_eq]
  cases runL (linesL t) 1 pr0 <;> rfl
def kn1 : List UInt8 := [112, 114, 111, 99, 32, 112, 117, 116, 50, 32, 50, 10, 32, 32, 97, 114, 103, 32, 114, 48, 32, 48, 32, 35, 32, 116, 104, 101, 32, 107, 101, 121, 10, 10, 9, 97, 114, 103, 32, 114, 49, 32, 49, 10, 32, 112, 117, 116, 32, 114, 48, 32, 114, 49, 10, 32, 115, 116, 111, 112, 10, 101, 110, 100]
def kn2 : List UInt8 := [112, 114, 111, 99, 32, 112, 32, 48, 10, 115, 101, 116, 32, 114, 49, 54, 32, 49, 10, 101, 110, 100, 10]
def knC : List Ins := [⟨2, 0, 0, 0, 0, 0, 0, noT0⟩, ⟨2, 1, 0, 0, 1, 0, 0, noT0⟩, ⟨4, 0, 1, 0, 0, 0, 0, noT0⟩, ⟨16, 0, 0, 0, 0, 0, 0, noT0⟩]
def knN : ByteArray := strOf [112, 117, 116, 50]
theorem kn1_parse : parseP kn1 = .ok ⟨1, true, knN, 2, knC, [2, 4, 5, 6]⟩ := (parseF_eq _).symm.trans (by kernel_rfl)
theorem kn2_parse : parseP kn2 = .error (2, 17) := (parseF_eq _).symm.trans (by kernel_rfl)
theorem kn_chk : chkP knN 2 knC = (0, 0) := by kernel_rfl
def knP : List UInt8 := [112, 114, 111, 99, 32, 112, 117, 116, 50, 32, 50, 10, 32, 32, 97, 114, 103, 32, 114, 48, 32, 48, 10, 32, 32, 97, 114, 103, 32, 114, 49, 32, 49, 10, 32, 32, 112, 117, 116, 32, 114, 48, 32, 114, 49, 10, 32, 32, 115, 116, 111, 112, 10, 101, 110, 100, 10]
theorem itoa_dig : Lib.itoa 0 = [48] ∧ Lib.itoa 1 = [49] ∧ Lib.itoa 2 = [50] := by
  refine ⟨?_, ?_, ?_⟩ <;> simp [Lib.itoa, Lib.decDigits]
theorem kn_print : printP knN 2 knC = knP := by
  obtain ⟨h0, h1, h2⟩ := itoa_dig
  unfold printP headP lnP
  simp [h0, h1, h2, knC, shL, lnS, lineS, FK.wr, knN, knP, strB, strOf]
end Go.Proofs.YtaieficgifingaaGreatDoor
namespace Go.Proofs.YtaieficgifingaaGreatDoor
set_option linter.unusedVariables false
set_option linter.unusedSimpArgs false
open Go.RowKit
set_option maxRecDepth 100000
set_option maxHeartbeats 8000000
theorem ins_same (x : Ins) : eqA tt 6 inT (.agg (insA x)) (.agg (insA x)) = some true := by
  rw [ins_eq]
  simp
theorem knC_I : ∀ x ∈ knC, insI x := by
  intro x hx
  simp only [knC, List.mem_cons, List.not_mem_nil, or_false] at hx
  rcases hx with rfl | rfl | rfl | rfl <;> exact ⟨⟨by decide, by decide⟩, ⟨by decide, by decide⟩, ⟨by decide, by decide⟩, ⟨by decide, by decide⟩, ⟨by decide, by decide⟩⟩
theorem known_spec (fs : Fam) (hG : Glob fs) (hfc : ∀ x ∈ fs, x.ob.isCells = true) : SpecF Tryz.prog 7 [] [] 0 fs (σ := Unit) (fun _ => True) (fun _ => .raw (.bool true)) (fun _ => []) (fun _ => fs) := by
  refine SpecF.of Tryz.func7 rfl Tryz.ntmps7 rfl (bdl_nil _) fun ρ w => ?_
  refine sS_ ?_
  refine R.clR [] (parse_spec (strOf kn1) (by decide) fs hG hfc) hG.ro Tryz.call8 hS8_ rfl rfl rfl (fun _ => rfl) rfl (by kernel_rfl) fun r hr => ?_
  obtain ⟨nm, ar, cd, c, line, e⟩ := r
  obtain ⟨hr, hc1, hc2⟩ := hr
  rw [show strB (strOf kn1) = kn1 from rfl, kn1_parse] at hr
  obtain ⟨rfl, rfl, rfl, rfl, rfl⟩ := hr
  refine sS_ ?_
  refine R.clR [0] (print_spec knN 2 knC 0 c (by decide) knC_I fs hG) hG.ro Tryz.call13 ((by exact HasIn.other rfl (fun e => by cases e) (fun ρ x w hh => tab_ro hh) .nil)) rfl rfl rfl (fun _ => rfl) rfl (by kernel_rfl) fun _ _ => ?_
  unfold printO
  rw [kn_chk, kn_print, if_pos rfl]
  refine sS_ ?_
  refine R.clR [] (parse_spec (strOf kn2) (by decide) fs hG hfc) hG.ro Tryz.call8 hS8_ rfl rfl rfl (fun _ => rfl) rfl (by kernel_rfl) fun r hr => ?_
  obtain ⟨nm2, ar2, cd2, c2, line2, e2⟩ := r
  obtain ⟨hr, hc3, hc4⟩ := hr
  rw [show strB (strOf kn2) = kn2 from rfl, kn2_parse] at hr
  obtain ⟨rfl, rfl, rfl, rfl, rfl⟩ := hr
  refine sS_ ?_
  refine R.ix ttok 2 rfl rfl rfl rfl rfl (by kernel_rfl) rfl (by show 2 < 4; decide) (by show 2 < 4; decide) rfl ?_
  refine R.ldt (v := .agg (insA ⟨4, 0, 1, 0, 0, 0, 0, noT0⟩)) ttok rfl rfl rfl rfl rfl (by kernel_rfl) (by show 2 < 4; decide) ?_
  refine sS_ ?_
  refine R.eqs ttok true rfl rfl (by kernel_rfl) (by kernel_rfl) (ins_same ⟨4, 0, 1, 0, 0, 0, 0, noT0⟩) rfl (by kernel_rfl) ?_
  refine sS_ ?_
  rw [eqL, show ∀ a : Array UInt8, a.toList = knP → decide (strB (strOf knP) = a.toList) = true from fun a h => decide_eq_true h.symm]
  rotate_left
  · rfl
  refine sS_ ?_
  refine X.finF ttok () [] trivial rfl rfl rfl hS5_ _ (by first | exact .inl rfl | exact .inr rfl) ?_ ?_ ?_
  · exact fun w' hf => hf.ap
  · exact fun p hp => hp
  · exact fun p hp e => ⟨p, hp, rfl⟩
end Go.Proofs.YtaieficgifingaaGreatDoor
namespace Go.Proofs.YtaieficgifingaaGreatDoor
set_option linter.unusedVariables false
set_option linter.unusedSimpArgs false
open Go.RowKit
set_option maxRecDepth 100000
set_option maxHeartbeats 8000000
/-- what a statement looks at -/
def notLong (nm : ByteArray) (L : List Ins) : Prop := L.length ≤ 400 ∧ nm.size ≤ 60000 ∧ ∀ x ∈ L, x.t.size ≤ 60000
section
variable {E : Base} {n L : Nat} {τ : List (Nat × AV)} {h : List (Nat × AO)} {F : World → Prop}
end
theorem inss_len : ∀ l : List Ins, (inss l).length = l.length * 8
  | [] => rfl
  | x :: l => by
    have := inss_len l
    unfold inss at this ⊢
    rw [List.flatMap_cons, List.length_append, this]
    show 8 + l.length * 8 = (l.length + 1) * 8
    omega
theorem inss_one : ∀ l : List Ins, (inss l).all AV.oneB = true
  | [] => rfl
  | x :: l => by
    have := inss_one l
    unfold inss at this ⊢
    rw [List.flatMap_cons, List.all_append, this]
    rfl
/-- the mark behind a procedure's code -/
def markI : Ins := { insD with o := 701 }
end Go.Proofs.YtaieficgifingaaGreatDoor
namespace Go.Proofs.YtaieficgifingaaGreatDoor
set_option linter.unusedVariables false
set_option linter.unusedSimpArgs false
set_option linter.constructorNameAsVariable false
open Go.RowKit
set_option maxRecDepth 100000
set_option maxHeartbeats 8000000
abbrev roJ (o : Nat) (L : List Ins) : AO := .ro 1 o (L.length * 8) (rowsF 8 (insF L))
theorem rowsJ_bd (K k : Nat) (l : List Ins) (m : Nat) : ∀ i, i < m → AV.bds K (rowsF k (insF l) i) = true := fun i _ => by
  unfold rowsF insF
  split
  · rename_i v hv
    have : v ∈ insA (l.getD (i / k) insD) := List.mem_of_getElem? hv
    simp only [insA, List.mem_cons, List.not_mem_nil, or_false] at this
    rcases this with rfl | rfl | rfl | rfl | rfl | rfl | rfl | rfl <;> rfl
  · rfl
theorem rowsJ_ren (r : Nat → Nat) (k : Nat) (l : List Ins) : (fun i => AV.rens r (rowsF k (insF l) i)) = rowsF k (insF l) := by
  funext i
  unfold rowsF insF
  split
  · rename_i v hv
    have : v ∈ insA (l.getD (i / k) insD) := List.mem_of_getElem? hv
    simp only [insA, List.mem_cons, List.not_mem_nil, or_false] at this
    rcases this with rfl | rfl | rfl | rfl | rfl | rfl | rfl | rfl <;> rfl
  · rfl
theorem HasH.roj {r : Nat → Nat} {L : Nat} {h rest : List (Nat × AO)} {l off : Nat} {s : List Ins} (h1 : hk (r l) h = some (roJ off s)) (h3 : Nat.ble (l + 1) L = true) (k : HasH r L h rest) : HasH r L h ((l, roJ off s) :: rest) :=
  .other h1 id (fun ρ x w hh => by simp only [AO.ren, rowsJ_ren]; exact hh) h3 (rowsJ_bd _ _ _ _) k
theorem HasIn.roj {r : Nat → Nat} {h : List (Nat × AO)} {i off : Nat} {s : List Ins} {os : List AO} (h1 : hk (r i) h = some (roJ off s)) (k : HasIn r h (i + 1) os) : HasIn r h i (roJ off s :: os) :=
  .other h1 id (fun ρ x w hh => by simp only [AO.ren, rowsJ_ren]; exact hh) k
section
variable {E : Base} {n L : Nat} {τ : List (Nat × AV)} {h : List (Nat × AO)} {F : World → Prop}
theorem flat_rowsJ (l : List Ins) : ∀ m, m ≤ l.length → flat (rowsF 8 (insF l)) (m * 8) = inss (l.take m)
  | 0, _ => rfl
  | m + 1, hm => by
    have ih := flat_rowsJ l m (by omega)
    rw [Nat.add_mul, Nat.one_mul]
    have hx : (l.take (m + 1)) = l.take m ++ [l.getD m insD] := by
      rw [List.take_succ_eq_append_getElem (by omega), List.getD_eq_getElem?_getD, List.getElem?_eq_getElem (by omega)]; rfl
    rw [hx, inss_app]
    simp only [flat]
    rw [ih]
    have g : ∀ c v, c < 8 → (insF l m)[c]? = some v → rowsF 8 (insF l) (m * 8 + c) = [v] := fun c v hc hv => rowsF_get hc hv
    rw [show m * 8 = m * 8 + 0 from rfl, g 0 _ (by decide) rfl, g 1 _ (by decide) rfl, g 2 _ (by decide) rfl, g 3 _ (by decide) rfl, g 4 _ (by decide) rfl, g 5 _ (by decide) rfl, g 6 _ (by decide) rfl, g 7 _ (by decide) rfl]
    simp [inss]
theorem srcInsJ {lab o c : Nat} {l : List Ins} (hl : hk lab h = some (roJ o l)) : SrcA E n L τ h F (.sl lab 1 o l.length c) l.length (inss l) := fun ρ a w g => by
  have hlen : ∀ i, i < l.length * 8 → (rowsF 8 (insF l) i).length = 1 := fun i hi => by
    have h8 : i % 8 < (insF l (i / 8)).length := Nat.mod_lt _ (by decide)
    unfold rowsF
    rw [List.getElem?_eq_getElem h8]
    rfl
  have h1 := SrcA.ro (E := E) (n := n) (L := L) (τ := τ) (F := F) (off := 0) (m := l.length * 8) (c := c) (wd := 1) (by decide) hlen hl (by omega)
  have h2 := flat_rowsJ l l.length (Nat.le_refl _)
  rw [List.take_length] at h2
  have h3 : flat (fun i => rowsF 8 (insF l) (0 + i)) (l.length * 8) = inss l := by
    rw [← h2]
    congr 1
    funext i
    rw [Nat.zero_add]
  rw [h3] at h1
  obtain ⟨g1, g2⟩ := h1 ρ a w g
  refine ⟨g1, ?_⟩
  rcases g2 with ⟨A, c', e1, e2⟩ | ⟨c', e1, e2, e3⟩
  · left
    refine ⟨A, c', ?_, e2⟩
    cases hr : ρ lab with
    | none => simp [AV.conc, hr] at e1
    | some b =>
      simp [AV.conc, hr] at e1 ⊢
      exact ⟨e1.1, e1.2⟩
  · right
    refine ⟨c', ?_, by omega, e3⟩
    cases hr : ρ lab with
    | none =>
      simp [AV.conc, hr] at e1 ⊢
      first | exact ⟨by omega, e1.2⟩ | omega | skip
    | some b => simp [AV.conc, hr] at e1
end
theorem hS6_ {P : Prop} (h : P := by repeat (first | exact HasH.nil | refine HasH.roj rfl rfl ?_ | refine HasH.same rfl rfl rfl trivial ?_ | refine HasH.same rfl rfl rfl rfl ?_ | refine HasH.same rfl rfl rfl (fun _ _ => rfl) ?_)) : P := h
theorem long1_spec (nm : ByteArray) (ar : Int) (L : List Ins) (o cp : Nat) (hL : L.length ≤ 9223372036854775807) : Spec Tryz.prog 11 [.agg (prA nm ar (.sl 0 1 o L.length cp))] [roJ o L] 1 (σ := Bool) (fun b => b = false → notLong nm L) (fun b => .raw (.bool b)) (fun _ => []) := by
  refine Spec.of Tryz.func11 rfl Tryz.ntmps11 rfl (bdl_cons (rowsJ_bd _ _ _ _) (bdl_nil _)) fun ρ w => ?_
  refine sS_ ?_
  by_cases h4 : 400 < L.length
  · rw [decide_eq_true (show ((L.length : Nat) : Int) > 400 by omega)]
    refine sS_ ?_
    refine X.fin ttok true [] (fun h => by cases h) rfl rfl rfl hS5_ _ (by first | exact .inl rfl | exact .inr rfl)
  rw [decide_eq_false (show ¬ ((L.length : Nat) : Int) > 400 by omega)]
  refine sS_ ?_
  by_cases h6 : 60000 < nm.size
  · rw [decide_eq_true (show ((nm.size : Nat) : Int) > 60000 by omega)]
    refine sS_ ?_
    refine X.fin ttok true [] (fun h => by cases h) rfl rfl rfl hS5_ _ (by first | exact .inl rfl | exact .inr rfl)
  rw [decide_eq_false (show ¬ ((nm.size : Nat) : Int) > 60000 by omega)]
  refine sS_ ?_
  refine C.loop (σ := Nat × Nat) (L2 := 2) (fun s => s.1 ≤ L.length ∧ s.2 ≤ s.1 * 60000 ∧ ∀ j, j < s.1 → (L.getD j insD).t.size ≤ 60000) (fun s => [(1, .ptr 1 0 0 0), (3, .raw (.int .i64 (s.2 : Nat))), (4, .raw (.int .i64 (s.1 : Nat)))]) (fun _ => [(0, roJ o L), (1, .cells (prA nm ar (.sl 0 1 o L.length cp)) 25)]) _ (fun s => L.length - s.1) [] (0, 0) ⟨Nat.zero_le _, Nat.zero_le _, fun j h => absurd h (Nat.not_lt_zero j)⟩ rfl hS9_ hS6_ rfl (fun _ h => h) ?_
  rintro ⟨i, n⟩ ⟨hi, hn, hall⟩
  dsimp only at hi hn hall ⊢
  refine sS_ ?_
  by_cases hlt : i < L.length
  · rw [decide_eq_true (show ((i : Nat) : Int) < (L.length : Nat) by omega)]
    obtain ⟨x, hx⟩ : ∃ x, L.getD i insD = x := ⟨_, rfl⟩
    have hA : insF L i = insA x := by unfold insF; rw [hx]
    refine sS_ ?_
    refine R.ix1 ttok i rfl rfl rfl rfl rfl (by kernel_rfl) rfl hlt (⟨by omega, by omega⟩ : o ≤ o + i * 8 ∧ o + i * 8 < o + L.length * 8) rfl ?_
    refine sS_ ?_
    refine R.ldr1 (v := .raw (.string x.t)) ttok i rfl rfl rfl (by rw [hA]; rfl) rfl (by kernel_rfl) rfl rfl (by decide) (by omega) ?_
    refine sS_ ?_
    by_cases hx6 : 60000 < x.t.size
    · rw [decide_eq_true (show ((x.t.size : Nat) : Int) > 60000 by omega)]
      refine sS_ ?_
      refine X.fin ttok true [] (fun h => by cases h) rfl rfl rfl hS5_ _ (by first | exact .inl rfl | exact .inr rfl)
    rw [decide_eq_false (show ¬ ((x.t.size : Nat) : Int) > 60000 by omega)]
    refine sS_ ?_
    refine R.ix1 ttok i rfl rfl rfl rfl rfl (by kernel_rfl) rfl hlt (⟨by omega, by omega⟩ : o ≤ o + i * 8 ∧ o + i * 8 < o + L.length * 8) rfl ?_
    refine sS_ ?_
    refine R.ldr1 (v := .raw (.string x.t)) ttok i rfl rfl rfl (by rw [hA]; rfl) rfl (by kernel_rfl) rfl rfl (by decide) (by omega) ?_
    refine sS_ ?_
    exact X.back [] (i + 1, n + x.t.size) ⟨hlt, by dsimp only; omega, fun j hj => by
      rcases Nat.lt_or_ge j i with g | g
      · exact hall j g
      · obtain rfl : j = i := by dsimp only at hj; omega
        rw [hx]; omega⟩ (by dsimp only; omega) rfl hS9_ hS6_ rfl (fun _ h => h)
  · rw [decide_eq_false (show ¬ ((i : Nat) : Int) < (L.length : Nat) by omega)]
    obtain rfl : i = L.length := by omega
    refine sS_ ?_
    refine X.fin ttok (decide ((n : Int) > 60000)) [] (fun _ => ⟨by omega, by omega, fun x hx => by
      obtain ⟨j, hj, rfl⟩ := List.getElem_of_mem hx
      have := hall j hj
      rwa [List.getD_eq_getElem?_getD, List.getElem?_eq_getElem hj] at this⟩) rfl rfl rfl hS6_ _ (by first | exact .inl rfl | exact .inr rfl)
theorem num61_spec (nm : ByteArray) (ar : Int) (o c n : Nat) (x : Ins) : Spec Tryz.prog 111 [.agg (prA nm ar (.sl 0 1 o n c)), .agg (insA x)] [anyO] 1 (σ := Unit) (fun _ => True) (fun _ => .raw (.bool (numK ar x.o x.n))) (fun _ => []) := by
  refine Spec.of Tryz.func111 rfl Tryz.ntmps111 rfl (bdl_cons (any_bd _) (bdl_nil _)) fun ρ w => ?_
  refine sS_ ?_
  by_cases h2 : x.o = 2
  · rw [show numK ar x.o x.n = (decide (0 ≤ x.n) && decide (x.n < ar)) from if_pos h2, decide_eq_true h2]
    refine sS_ ?_
    cases hr : decide (0 ≤ x.n) with
    | false =>
      refine sS_ ?_
      refine X.fin ttok () [] trivial rfl rfl rfl hS5_ _ (by first | exact .inl rfl | exact .inr rfl)
    | true =>
      refine sS_ ?_
      refine X.fin ttok () [] trivial rfl rfl rfl hS5_ _ (by first | exact .inl rfl | exact .inr rfl)
  · rw [decide_eq_false h2]
    refine sS_ ?_
    by_cases h10 : x.o = 10
    · rw [show numK ar x.o x.n = (decide (1 ≤ x.n) && decide (x.n ≤ 6)) from (if_neg h2).trans (if_pos (.inl h10)), decide_eq_true h10]
      refine sS_ ?_
      cases hr : decide (1 ≤ x.n) with
      | false =>
        refine sS_ ?_
        refine X.fin ttok () [] trivial rfl rfl rfl hS5_ _ (by first | exact .inl rfl | exact .inr rfl)
      | true =>
        refine sS_ ?_
        refine X.fin ttok () [] trivial rfl rfl rfl hS5_ _ (by first | exact .inl rfl | exact .inr rfl)
    · rw [decide_eq_false h10]
      refine sS_ ?_
      by_cases h11 : x.o = 11
      · rw [show numK ar x.o x.n = (decide (1 ≤ x.n) && decide (x.n ≤ 6)) from (if_neg h2).trans (if_pos (.inr h11)), decide_eq_true h11]
        refine sS_ ?_
        cases hr : decide (1 ≤ x.n) with
        | false =>
          refine sS_ ?_
          refine X.fin ttok () [] trivial rfl rfl rfl hS5_ _ (by first | exact .inl rfl | exact .inr rfl)
        | true =>
          refine sS_ ?_
          refine X.fin ttok () [] trivial rfl rfl rfl hS5_ _ (by first | exact .inl rfl | exact .inr rfl)
      · rw [decide_eq_false h11]
        refine sS_ ?_
        by_cases h12 : x.o = 12
        · rw [show numK ar x.o x.n = (decide (1 ≤ x.n) && decide (x.n ≤ 64)) from ((if_neg h2).trans (if_neg (by omega))).trans (if_pos (.inl h12)), decide_eq_true h12]
          refine sS_ ?_
          cases hr : decide (1 ≤ x.n) with
          | false =>
            refine sS_ ?_
            refine X.fin ttok () [] trivial rfl rfl rfl hS5_ _ (by first | exact .inl rfl | exact .inr rfl)
          | true =>
            refine sS_ ?_
            refine X.fin ttok () [] trivial rfl rfl rfl hS5_ _ (by first | exact .inl rfl | exact .inr rfl)
        · rw [decide_eq_false h12]
          refine sS_ ?_
          by_cases h13 : x.o = 13
          · rw [show numK ar x.o x.n = (decide (1 ≤ x.n) && decide (x.n ≤ 64)) from ((if_neg h2).trans (if_neg (by omega))).trans (if_pos (.inr h13)), decide_eq_true h13]
            refine sS_ ?_
            cases hr : decide (1 ≤ x.n) with
            | false =>
              refine sS_ ?_
              refine X.fin ttok () [] trivial rfl rfl rfl hS5_ _ (by first | exact .inl rfl | exact .inr rfl)
            | true =>
              refine sS_ ?_
              refine X.fin ttok () [] trivial rfl rfl rfl hS5_ _ (by first | exact .inl rfl | exact .inr rfl)
          · rw [show numK ar x.o x.n = decide (x.n = 0) from ((if_neg h2).trans (if_neg (by omega))).trans (if_neg (by omega)), decide_eq_false h13]
            refine sS_ ?_
            refine X.fin ttok () [] trivial rfl rfl rfl hS5_ _ (by first | exact .inl rfl | exact .inr rfl)
theorem hS2_ {P : Prop} (h : P := by repeat (first | exact HasIn.nil | refine HasIn.roj rfl ?_ | refine HasIn.same rfl rfl ?_ | refine HasIn.roq rfl rfl ?_ | refine HasIn.any rfl ?_ | refine HasIn.other rfl id (fun ρ x w hh => ro_any hh) ?_ | refine HasIn.roA rfl rfl ?_ | refine HasIn.roAp rfl rfl ?_)) : P := h
theorem instr61_spec (nm : ByteArray) (ar : Int) (L : List Ins) (o c i : Nat) (hL : L.length ≤ 1000000) (hi : i < L.length) (hsz : ∀ x ∈ L, True) : Spec Tryz.prog 69 [.agg (prA nm ar (.sl 0 1 o L.length c)), .raw (.int .i64 (i : Nat))] [roJ o L] 1 (σ := Unit) (fun _ => True) (fun _ => .raw (.int .i64 (insE ar L.length i (L.getD i insD)))) (fun _ => []) := by
  refine Spec.of Tryz.func69 rfl Tryz.ntmps69 rfl (bdl_cons (rowsJ_bd _ _ _ _) (bdl_nil _)) fun ρ w => ?_
  obtain ⟨x, hx⟩ : ∃ x, L.getD i insD = x := ⟨_, rfl⟩
  have hA : insF L i = insA x := by unfold insF; rw [hx]
  rw [hx, ← docE_eq]
  refine sS_ ?_
  refine R.ix1 ttok i rfl rfl rfl rfl rfl (by kernel_rfl) rfl hi (⟨by omega, by omega⟩ : o ≤ o + i * 8 ∧ o + i * 8 < o + L.length * 8) rfl ?_
  refine R.ldr1 (v := .agg (insA x)) ttok i rfl rfl rfl (by rw [hA]; rfl) rfl (by kernel_rfl) rfl rfl (by decide) (by omega) ?_
  refine sS_ ?_
  refine R.cl [] (fieldsR_spec x.o) Tryz.call108 hS8_ rfl rfl rfl (fun _ => rfl) rfl (by kernel_rfl) fun _ _ => ?_
  refine sS_ ?_
  rw [eqL, show strB (strOf (fL x.o)) = fL x.o from rfl]
  by_cases ho : x.o < 1 ∨ 16 < x.o
  · rw [show docE ar L.length i x = 16 from if_pos ho]
    have hf : fL x.o = [63] := if_pos ho
    rw [hf, show decide ([63] = (#[63] : Array UInt8).toList) = true from rfl]
    refine sS_ ?_
    refine X.fin ttok () [] trivial rfl rfl rfl hS5_ _ (by first | exact .inl rfl | exact .inr rfl)
  · have hne : fL x.o ≠ [63] := fL_ne ho
    have hll : (fL x.o).length ≤ 4 := fL_len x.o
    have hdoc : docE ar L.length i x = if (dA x.o x.a L.length i && rgK (fL x.o) 66 x.b && rgK (fL x.o) 67 x.c && numK ar x.o x.n) = true then (if (fL x.o).contains 86 = true then vchk x.k x.i x.t else if vz x = true then 0 else 16) else 16 := if_neg ho
    have hdA : dA x.o x.a L.length i = if (fL x.o).contains 97 = true then decide (1 ≤ x.a) && decide (x.a ≤ (L.length : Nat) - 1 - (i : Nat)) else rgK (fL x.o) 65 x.a := rfl
    obtain ⟨da, hda⟩ : ∃ da, dA x.o x.a L.length i = da := ⟨_, rfl⟩
    rw [hda] at hdoc hdA
    rw [hdoc]
    obtain ⟨l, hl⟩ : ∃ l, fL x.o = l := ⟨_, rfl⟩
    rw [hl] at hne hll hdA ⊢
    rw [decide_eq_false (show ¬ l = (#[63] : Array UInt8).toList from hne)]
    have hls : (strOf l).size ≤ 1000000 := by rw [← strB_size]; show l.length ≤ _; omega
    refine sS_ ?_
    refine R.cl [] (reg6_spec (strOf l) 65 x.a hls) Tryz.call109 hS8_ rfl rfl rfl (fun _ => rfl) rfl (by kernel_rfl) fun _ _ => ?_
    rw [show strB (strOf l) = l from rfl]
    refine sS_ ?_
    refine R.cl [] (hasR_spec (strOf l) 97 hls) Tryz.call110 hS8_ rfl rfl rfl (fun _ => rfl) rfl (by kernel_rfl) fun _ _ => ?_
    rw [show strB (strOf l) = l from rfl]
    cases hc : l.contains 97 with
    | false =>
      rw [hc, if_neg Bool.false_ne_true] at hdA
      rw [← hdA]
      refine sS_ ?_
      refine R.cl [] (reg6_spec (strOf l) 66 x.b hls) Tryz.call109 hS8_ rfl rfl rfl (fun _ => rfl) rfl (by kernel_rfl) fun _ _ => ?_
      rw [show strB (strOf l) = l from rfl]
      refine sS_ ?_
      refine R.cl [] (reg6_spec (strOf l) 67 x.c hls) Tryz.call109 hS8_ rfl rfl rfl (fun _ => rfl) rfl (by kernel_rfl) fun _ _ => ?_
      rw [show strB (strOf l) = l from rfl]
      refine sS_ ?_
      refine R.cl [0] (num61_spec nm ar o c L.length x) Tryz.call111 hS2_ rfl rfl rfl (fun _ => rfl) rfl (by kernel_rfl) fun _ _ => ?_
      refine sS_ ?_
      cases da with
      | false =>
        refine sS_ ?_
        refine X.fin ttok () [] trivial rfl rfl rfl hS5_ _ (by first | exact .inl rfl | exact .inr rfl)
      | true =>
        refine sS_ ?_
        cases rgK l 66 x.b with
        | false =>
          refine sS_ ?_
          refine X.fin ttok () [] trivial rfl rfl rfl hS5_ _ (by first | exact .inl rfl | exact .inr rfl)
        | true =>
          refine sS_ ?_
          cases rgK l 67 x.c with
          | false =>
            refine sS_ ?_
            refine X.fin ttok () [] trivial rfl rfl rfl hS5_ _ (by first | exact .inl rfl | exact .inr rfl)
          | true =>
            refine sS_ ?_
            cases numK ar x.o x.n with
            | false =>
              refine sS_ ?_
              refine X.fin ttok () [] trivial rfl rfl rfl hS5_ _ (by first | exact .inl rfl | exact .inr rfl)
            | true =>
              refine sS_ ?_
              refine R.cl [] (hasR_spec (strOf l) 86 hls) Tryz.call110 hS8_ rfl rfl rfl (fun _ => rfl) rfl (by kernel_rfl) fun _ _ => ?_
              rw [show strB (strOf l) = l from rfl]
              cases l.contains 86 with
              | true =>
                refine sS_ ?_
                refine R.cl [] (datumR_spec x.k x.i x.t) Tryz.call112 hS8_ rfl rfl rfl (fun _ => rfl) rfl (by kernel_rfl) fun _ _ => ?_
                refine sS_ ?_
                refine X.fin ttok () [] trivial rfl rfl rfl hS5_ _ (by first | exact .inl rfl | exact .inr rfl)
              | false =>
                unfold vz
                refine sS_ ?_
                by_cases hk : x.k = 0
                · rw [decide_eq_true hk, decide_eq_false (show ¬ x.k ≠ 0 from fun h => h hk)]
                  refine sS_ ?_
                  by_cases hi0 : x.i = 0
                  · rw [decide_eq_true hi0, decide_eq_false (show ¬ x.i ≠ 0 from fun h => h hi0)]
                    refine sS_ ?_
                    rw [neE2]
                    by_cases ht : strB x.t = []
                    · rw [decide_eq_true ht, decide_eq_false (show ¬ strB x.t ≠ [] from fun h => h ht)]
                      refine sS_ ?_
                      refine X.fin ttok () [] trivial rfl rfl rfl hS5_ _ (by first | exact .inl rfl | exact .inr rfl)
                    · rw [decide_eq_false ht, decide_eq_true (show strB x.t ≠ [] from ht)]
                      refine sS_ ?_
                      refine X.fin ttok () [] trivial rfl rfl rfl hS5_ _ (by first | exact .inl rfl | exact .inr rfl)
                  · rw [decide_eq_false hi0, decide_eq_true (show x.i ≠ 0 from hi0)]
                    refine sS_ ?_
                    refine X.fin ttok () [] trivial rfl rfl rfl hS5_ _ (by first | exact .inl rfl | exact .inr rfl)
                · rw [decide_eq_false hk, decide_eq_true (show x.k ≠ 0 from hk)]
                  refine sS_ ?_
                  refine X.fin ttok () [] trivial rfl rfl rfl hS5_ _ (by first | exact .inl rfl | exact .inr rfl)
    | true =>
      rw [hc, if_pos rfl] at hdA
      refine sS_ ?_
      by_cases h1 : 1 ≤ x.a
      · rw [decide_eq_true (show x.a ≥ 1 from h1)]
        rw [decide_eq_true h1, Bool.true_and] at hdA
        refine sS_ ?_
        rw [← hdA]
        refine sS_ ?_
        refine R.cl [] (reg6_spec (strOf l) 66 x.b hls) Tryz.call109 hS8_ rfl rfl rfl (fun _ => rfl) rfl (by kernel_rfl) fun _ _ => ?_
        rw [show strB (strOf l) = l from rfl]
        refine sS_ ?_
        refine R.cl [] (reg6_spec (strOf l) 67 x.c hls) Tryz.call109 hS8_ rfl rfl rfl (fun _ => rfl) rfl (by kernel_rfl) fun _ _ => ?_
        rw [show strB (strOf l) = l from rfl]
        refine sS_ ?_
        refine R.cl [0] (num61_spec nm ar o c L.length x) Tryz.call111 hS2_ rfl rfl rfl (fun _ => rfl) rfl (by kernel_rfl) fun _ _ => ?_
        refine sS_ ?_
        cases da with
        | false =>
          refine sS_ ?_
          refine X.fin ttok () [] trivial rfl rfl rfl hS5_ _ (by first | exact .inl rfl | exact .inr rfl)
        | true =>
          refine sS_ ?_
          cases rgK l 66 x.b with
          | false =>
            refine sS_ ?_
            refine X.fin ttok () [] trivial rfl rfl rfl hS5_ _ (by first | exact .inl rfl | exact .inr rfl)
          | true =>
            refine sS_ ?_
            cases rgK l 67 x.c with
            | false =>
              refine sS_ ?_
              refine X.fin ttok () [] trivial rfl rfl rfl hS5_ _ (by first | exact .inl rfl | exact .inr rfl)
            | true =>
              refine sS_ ?_
              cases numK ar x.o x.n with
              | false =>
                refine sS_ ?_
                refine X.fin ttok () [] trivial rfl rfl rfl hS5_ _ (by first | exact .inl rfl | exact .inr rfl)
              | true =>
                refine sS_ ?_
                refine R.cl [] (hasR_spec (strOf l) 86 hls) Tryz.call110 hS8_ rfl rfl rfl (fun _ => rfl) rfl (by kernel_rfl) fun _ _ => ?_
                rw [show strB (strOf l) = l from rfl]
                cases l.contains 86 with
                | true =>
                  refine sS_ ?_
                  refine R.cl [] (datumR_spec x.k x.i x.t) Tryz.call112 hS8_ rfl rfl rfl (fun _ => rfl) rfl (by kernel_rfl) fun _ _ => ?_
                  refine sS_ ?_
                  refine X.fin ttok () [] trivial rfl rfl rfl hS5_ _ (by first | exact .inl rfl | exact .inr rfl)
                | false =>
                  unfold vz
                  refine sS_ ?_
                  by_cases hk : x.k = 0
                  · rw [decide_eq_true hk, decide_eq_false (show ¬ x.k ≠ 0 from fun h => h hk)]
                    refine sS_ ?_
                    by_cases hi0 : x.i = 0
                    · rw [decide_eq_true hi0, decide_eq_false (show ¬ x.i ≠ 0 from fun h => h hi0)]
                      refine sS_ ?_
                      rw [neE2]
                      by_cases ht : strB x.t = []
                      · rw [decide_eq_true ht, decide_eq_false (show ¬ strB x.t ≠ [] from fun h => h ht)]
                        refine sS_ ?_
                        refine X.fin ttok () [] trivial rfl rfl rfl hS5_ _ (by first | exact .inl rfl | exact .inr rfl)
                      · rw [decide_eq_false ht, decide_eq_true (show strB x.t ≠ [] from ht)]
                        refine sS_ ?_
                        refine X.fin ttok () [] trivial rfl rfl rfl hS5_ _ (by first | exact .inl rfl | exact .inr rfl)
                    · rw [decide_eq_false hi0, decide_eq_true (show x.i ≠ 0 from hi0)]
                      refine sS_ ?_
                      refine X.fin ttok () [] trivial rfl rfl rfl hS5_ _ (by first | exact .inl rfl | exact .inr rfl)
                  · rw [decide_eq_false hk, decide_eq_true (show x.k ≠ 0 from hk)]
                    refine sS_ ?_
                    refine X.fin ttok () [] trivial rfl rfl rfl hS5_ _ (by first | exact .inl rfl | exact .inr rfl)
      · rw [decide_eq_false (show ¬ x.a ≥ 1 from h1)]
        rw [decide_eq_false h1, Bool.false_and] at hdA
        subst hdA
        refine sS_ ?_
        refine sS_ ?_
        refine R.cl [] (reg6_spec (strOf l) 66 x.b hls) Tryz.call109 hS8_ rfl rfl rfl (fun _ => rfl) rfl (by kernel_rfl) fun _ _ => ?_
        rw [show strB (strOf l) = l from rfl]
        refine sS_ ?_
        refine R.cl [] (reg6_spec (strOf l) 67 x.c hls) Tryz.call109 hS8_ rfl rfl rfl (fun _ => rfl) rfl (by kernel_rfl) fun _ _ => ?_
        rw [show strB (strOf l) = l from rfl]
        refine sS_ ?_
        refine R.cl [0] (num61_spec nm ar o c L.length x) Tryz.call111 hS2_ rfl rfl rfl (fun _ => rfl) rfl (by kernel_rfl) fun _ _ => ?_
        refine sS_ ?_
        refine sS_ ?_
        refine X.fin ttok () [] trivial rfl rfl rfl hS5_ _ (by first | exact .inl rfl | exact .inr rfl)
theorem check61_spec (nm : ByteArray) (ar : Int) (L : List Ins) (o c : Nat) (hL : L.length ≤ 1000000) : Spec Tryz.prog 29 [.agg (prA nm ar (.sl 0 1 o L.length c))] [roJ o L] 1 (σ := Unit) (fun _ => True) (fun _ => .tup [.raw (.int .i64 (chkP nm ar L).1), .raw (.int .i64 (chkP nm ar L).2)]) (fun _ => []) := by
  refine Spec.of Tryz.func29 rfl Tryz.ntmps29 rfl (bdl_cons (rowsJ_bd _ _ _ _) (bdl_nil _)) fun ρ w => ?_
  refine sS_ ?_
  refine R.cl [] (isNameR_spec nm) Tryz.call68 hS8_ rfl rfl rfl (fun _ => rfl) rfl (by kernel_rfl) fun _ _ => ?_
  cases hn : nameP (strB nm) with
  | false =>
    rw [show chkP nm ar L = (-1, 5) by unfold chkP; rw [hn, if_pos rfl]]
    refine sS_ ?_
    refine X.fin ttok () [] trivial rfl rfl rfl hS5_ _ (by first | exact .inl rfl | exact .inr rfl)
  | true =>
    refine sS_ ?_
    by_cases ha : ar < 0
    · rw [decide_eq_true ha]
      rw [show chkP nm ar L = (-1, 1) by unfold chkP; rw [hn, if_neg (by decide), if_pos (.inl ha)]]
      refine sS_ ?_
      refine X.fin ttok () [] trivial rfl rfl rfl hS5_ _ (by first | exact .inl rfl | exact .inr rfl)
    · rw [decide_eq_false ha]
      refine sS_ ?_
      by_cases hb : 16 < ar
      · rw [decide_eq_true (show ar > 16 from hb)]
        rw [show chkP nm ar L = (-1, 1) by unfold chkP; rw [hn, if_neg (by decide), if_pos (.inr hb)]]
        refine sS_ ?_
        refine X.fin ttok () [] trivial rfl rfl rfl hS5_ _ (by first | exact .inl rfl | exact .inr rfl)
      · rw [decide_eq_false (show ¬ ar > 16 from hb)]
        have hab : ¬ (ar < 0 ∨ 16 < ar) := by omega
        refine sS_ ?_
        by_cases hl : 64 < L.length
        · rw [decide_eq_true (show ((L.length : Nat) : Int) > 64 by omega)]
          rw [show chkP nm ar L = (-1, 4) by unfold chkP; rw [hn, if_neg (by decide), if_neg hab, if_pos hl]]
          refine sS_ ?_
          refine X.fin ttok () [] trivial rfl rfl rfl hS5_ _ (by first | exact .inl rfl | exact .inr rfl)
        · rw [decide_eq_false (show ¬ ((L.length : Nat) : Int) > 64 by omega)]
          rw [show chkP nm ar L = chkL ar L by unfold chkP; rw [hn, if_neg (by decide), if_neg hab, if_neg hl]]
          refine sS_ ?_
          refine C.loop (σ := Nat) (L2 := 2) (fun i => i ≤ L.length ∧ ∀ j, j < i → badI ar L j = false) (fun i => [(1, .ptr 1 0 0 0), (5, .raw (.int .i64 (i : Nat)))]) (fun _ => [(0, roJ o L), (1, .cells (prA nm ar (.sl 0 1 o L.length c)) 25)]) _ (fun i => L.length - i) [] 0 ⟨Nat.zero_le _, fun j h => absurd h (Nat.not_lt_zero j)⟩ rfl hS9_ hS6_ rfl (fun _ h => h) ?_
          rintro i ⟨hi, hd⟩
          refine sS_ ?_
          by_cases hlt : i < L.length
          · rw [decide_eq_true (show ((i : Nat) : Int) < (L.length : Nat) by omega)]
            refine sS_ ?_
            refine R.cl [0] (instr61_spec nm ar L o c i hL hlt (fun _ _ => trivial)) Tryz.call69 hS2_ rfl rfl rfl (fun _ => rfl) rfl (by kernel_rfl) fun _ _ => ?_
            obtain ⟨e, he⟩ : ∃ e, insE ar L.length i (L.getD i insD) = e := ⟨_, rfl⟩
            rw [he]
            refine sS_ ?_
            by_cases h0 : e = 0
            · rw [decide_eq_false (show ¬ e ≠ 0 from fun h => h h0)]
              refine sS_ ?_
              exact X.back [] (i + 1) ⟨hlt, fun j hj => (by
                rcases Nat.lt_or_ge j i with h | h
                · exact hd j h
                · obtain rfl : j = i := by omega
                  unfold badI
                  rw [he]
                  exact decide_eq_false (fun h => h h0))⟩ (by omega) rfl hS9_ hS6_ rfl (fun _ h => h)
            · rw [decide_eq_true (show e ≠ 0 from h0)]
              rw [chk_at hlt hd (by unfold badI; rw [he]; exact decide_eq_true h0), he]
              refine sS_ ?_
              refine X.fin ttok () [] trivial rfl rfl rfl hS5_ _ (by first | exact .inl rfl | exact .inr rfl)
          · rw [decide_eq_false (show ¬ ((i : Nat) : Int) < (L.length : Nat) by omega)]
            rw [chk_no fun j hj => hd j (by omega)]
            refine sS_ ?_
            refine X.fin ttok () [] trivial rfl rfl rfl hS5_ _ (by first | exact .inl rfl | exact .inr rfl)
theorem printR1_spec (nm : ByteArray) (ar : Int) (L : List Ins) (o cp : Nat) (hL : L.length ≤ 1000000) (hI : ∀ x ∈ L, insI x) : Spec Tryz.prog 14 [.agg (prA nm ar (.sl 0 1 o L.length cp)), .raw (.string ⟨#[]⟩)] [roJ o L] 1 (σ := Unit) (fun _ => True) (fun _ => .tup [.raw (.string (strOf (printO nm ar L))), .raw (.int .i64 (chkP nm ar L).2)]) (fun _ => []) := by
  refine Spec.of Tryz.func14 rfl Tryz.ntmps14 rfl (bdl_cons (rowsJ_bd _ _ _ _) (bdl_nil _)) fun ρ w => ?_
  refine sS_ ?_
  refine R.cl [0] (check61_spec nm ar L o cp hL) Tryz.call29 hS2_ rfl rfl rfl (fun _ => rfl) rfl (by kernel_rfl) fun _ _ => ?_
  obtain ⟨e, he⟩ : ∃ e, (chkP nm ar L).2 = e := ⟨_, rfl⟩
  unfold printO
  rw [he]
  refine sS_ ?_
  by_cases h0 : e = 0
  · subst h0
    obtain ⟨hnm, har0, har1, hl64, hok⟩ := chkP_ok he
    have hnms := strB_size nm
    have hari : i64 ar := ⟨by omega, by omega⟩
    have hil := itoa_le hari
    rw [if_pos rfl, show decide ((0 : Int) ≠ 0) = false from rfl]
    refine sS_ ?_
    refine C.draw [[], [0], [], [2], [0, 1, 2, 3], [0, 1, 2, 3, 4], [], [6], [6, 7], [0, 1, 2, 3, 4, 5, 6, 7, 8], [0, 1, 2, 3, 4, 5, 6, 7, 8, 9], [0, 1, 2, 3, 4, 5, 6, 7, 8, 9, 10]] [8] (by kernel_rfl) (by kernel_rfl) ?_
    refine sS_ ?_
    refine R.cat rfl rfl rfl (by kernel_rfl) (by show 0 + 5 ≤ _; decide) ?_
    rw [show (⟨#[]⟩ : ByteArray) ++ ⟨#[112, 114, 111, 99, 32]⟩ = strOf [112, 114, 111, 99, 32] from cat1 [] _]
    refine sS_ ?_
    refine R.cat rfl rfl rfl (by kernel_rfl) (by show 5 + nm.size ≤ _; omega) ?_
    rw [cat1]
    refine R.cat rfl rfl rfl (by kernel_rfl) (by rw [strOf_size, List.length_append]; show 5 + (strB nm).length + 1 ≤ _; omega) ?_
    rw [cat1]
    refine sS_ ?_
    refine R.cl [] (digitsI_spec ar hari) Tryz.call33 hS8_ rfl rfl rfl (fun _ => rfl) rfl (by kernel_rfl) fun _ _ => ?_
    refine R.cat rfl rfl rfl (by kernel_rfl) (by rw [strOf_size, strOf_size, List.length_append, List.length_append]; show 5 + (strB nm).length + 1 + (Lib.itoa ar).length ≤ _; omega) ?_
    rw [strOf_app]
    refine R.cat rfl rfl rfl (by kernel_rfl) (by rw [strOf_size, List.length_append, List.length_append, List.length_append]; show 5 + (strB nm).length + 1 + (Lib.itoa ar).length + 1 ≤ _; omega) ?_
    rw [show strOf ([112, 114, 111, 99, 32] ++ strB nm ++ strB ⟨#[32]⟩ ++ Lib.itoa ar) ++ (⟨#[10]⟩ : ByteArray) = strOf (headP nm ar) from cat1 _ ⟨#[10]⟩]
    have hhl : (headP nm ar).length = 7 + (strB nm).length + (Lib.itoa ar).length := by
      unfold headP
      simp only [List.length_append, List.length_cons, List.length_nil]
      omega
    obtain ⟨hd, hhd⟩ : ∃ hd, headP nm ar = hd := ⟨_, rfl⟩
    rw [hhd] at hhl ⊢
    refine sS_ ?_
    refine C.loop (σ := Nat × List UInt8) (L2 := 2) (fun s => s.1 ≤ L.length ∧ s.2 = hd ++ (L.take s.1).flatMap lnP ∧ s.2.length ≤ 100 + s.1 * 10000) (fun s => [(1, .raw (.string ⟨#[]⟩)), (2, .ptr 1 0 0 0), (8, .raw (.string (strOf s.2))), (9, .raw (.int .i64 (s.1 : Nat)))]) (fun _ => [(0, roJ o L), (1, .cells (prA nm ar (.sl 0 1 o L.length cp)) 25)]) _ (fun s => L.length - s.1) [] (0, hd) ⟨Nat.zero_le _, by simp, by show hd.length ≤ _; omega⟩ rfl hS9_ hS6_ rfl (fun _ h => h) ?_
    rintro ⟨i, p⟩ ⟨hi, hp, hpl⟩
    dsimp only at hi hp hpl ⊢
    refine sS_ ?_
    by_cases hlt : i < L.length
    · rw [decide_eq_true (show ((i : Nat) : Int) < (L.length : Nat) by omega)]
      obtain ⟨x, hx⟩ : ∃ x, L.getD i insD = x := ⟨_, rfl⟩
      have hA : insF L i = insA x := by unfold insF; rw [hx]
      have hxm : x ∈ L := by
        rw [← hx, List.getD_eq_getElem?_getD, List.getElem?_eq_getElem hlt]
        exact List.getElem_mem _
      have hxe := hok i hlt
      rw [hx] at hxe
      have hxo := insE_op hxe
      have hxk := insE_ok hxe
      have hxl := lnR_len (hI x hxm) hxk hxo
      refine sS_ ?_
      refine R.cat rfl rfl rfl (by kernel_rfl) (by rw [strOf_size]; show _ + 0 ≤ _; omega) ?_
      rw [cat1, show p ++ strB ⟨#[]⟩ = p from List.append_nil p]
      refine R.cat rfl rfl rfl (by kernel_rfl) (by rw [strOf_size]; show _ + 2 ≤ _; omega) ?_
      rw [cat1]
      refine sS_ ?_
      refine R.ix1 ttok i rfl rfl rfl rfl rfl (by kernel_rfl) rfl hlt (⟨by omega, by omega⟩ : o ≤ o + i * 8 ∧ o + i * 8 < o + L.length * 8) rfl ?_
      refine R.ldr1 (v := .agg (insA x)) ttok i rfl rfl rfl (by rw [hA]; rfl) rfl (by kernel_rfl) rfl rfl (by decide) (by omega) ?_
      refine R.cl [] (lineR_spec x (hI x hxm) hxk hxo) Tryz.call34 hS8_ rfl rfl rfl (fun _ => rfl) rfl (by kernel_rfl) fun _ _ => ?_
      refine R.cat rfl rfl rfl (by kernel_rfl) (by rw [strOf_size, strOf_size, List.length_append]; show _ + 2 + _ ≤ _; omega) ?_
      rw [strOf_app]
      refine R.cat rfl rfl rfl (by kernel_rfl) (by rw [strOf_size, List.length_append, List.length_append]; show _ + 2 + _ + 1 ≤ _; omega) ?_
      rw [cat1]
      refine sS_ ?_
      have hls : (L.take (i + 1)).flatMap lnP = (L.take i).flatMap lnP ++ lnP x := by
        rw [List.take_succ_eq_append_getElem hlt, List.flatMap_append]
        have : L[i] = x := by rw [← hx, List.getD_eq_getElem?_getD, List.getElem?_eq_getElem hlt]; rfl
        simp [this]
      obtain ⟨q, hq⟩ : ∃ q, p ++ strB ⟨#[32, 32]⟩ ++ lnR x ++ strB ⟨#[10]⟩ = q := ⟨_, rfl⟩
      rw [hq]
      have hql : q.length = p.length + 2 + (lnR x).length + 1 := by rw [← hq, List.length_append, List.length_append, List.length_append]; rfl
      exact X.back [] (i + 1, q) ⟨hlt, by rw [hls, lnP_eq hxo, ← List.append_assoc, ← hp, ← hq, ← List.append_assoc, ← List.append_assoc]; rfl, by dsimp only; omega⟩ (by dsimp only; omega) rfl hS9_ hS6_ rfl (fun _ h => h)
    · rw [decide_eq_false (show ¬ ((i : Nat) : Int) < (L.length : Nat) by omega)]
      obtain rfl : i = L.length := by omega
      rw [List.take_length] at hp
      refine sS_ ?_
      refine R.cat rfl rfl rfl (by kernel_rfl) (by rw [strOf_size]; show _ + 0 ≤ _; omega) ?_
      rw [cat1, show p ++ strB ⟨#[]⟩ = p from List.append_nil p]
      refine R.cat rfl rfl rfl (by kernel_rfl) (by rw [strOf_size]; show _ + 4 ≤ _; omega) ?_
      rw [cat1, show p ++ strB ⟨#[101, 110, 100, 10]⟩ = printP nm ar L by rw [hp, ← hhd]; rfl]
      refine sS_ ?_
      refine X.fin ttok () [] trivial rfl rfl rfl hS5_ _ (by first | exact .inl rfl | exact .inr rfl)
  · rw [if_neg h0, decide_eq_true h0]
    refine sS_ ?_
    refine X.fin ttok () [] trivial rfl rfl rfl hS5_ _ (by first | exact .inl rfl | exact .inr rfl)
theorem procs1_spec (nm : ByteArray) (ar : Int) (L : List Ins) (o1 c1 o2 c2 : Nat) (hL : L.length ≤ 1000000) : Spec Tryz.prog 10 [.agg (prA nm ar (.sl 0 1 o1 L.length c1)), .agg (prA nm ar (.sl 1 8 o2 L.length c2))] [roJ o1 L, roI o2 L] 2 (σ := Unit) (fun _ => True) (fun _ => .raw (.bool true)) (fun _ => []) := by
  refine Spec.of Tryz.func10 rfl Tryz.ntmps10 rfl (bdl_cons (rowsJ_bd _ _ _ _) (bdl_cons (fun _ _ => rfl) (bdl_nil _))) fun ρ w => ?_
  refine sS_ ?_
  rw [neS, show decide (strB nm ≠ strB nm) = false from decide_eq_false (fun h => h rfl)]
  refine sS_ ?_
  rw [show decide (ar ≠ ar) = false from decide_eq_false (fun h => h rfl)]
  refine sS_ ?_
  rw [show decide (((L.length : Nat) : Int) ≠ ((L.length : Nat) : Int)) = false from decide_eq_false (fun h => h rfl)]
  refine sS_ ?_
  refine C.loop (σ := Nat) (L2 := 4) (fun i => i ≤ L.length) (fun i => [(2, .ptr 2 0 0 0), (3, .ptr 3 0 0 0), (5, .raw (.int .i64 (i : Nat)))]) (fun _ => [(0, roJ o1 L), (1, roI o2 L), (2, .cells (prA nm ar (.sl 0 1 o1 L.length c1)) 25), (3, .cells (prA nm ar (.sl 1 8 o2 L.length c2)) 25)]) _ (fun i => L.length - i) [] 0 (Nat.zero_le _) rfl hS9_ hS6_ rfl (fun _ h => h) ?_
  intro i hi
  refine sS_ ?_
  by_cases hlt : i < L.length
  · rw [decide_eq_true (show ((i : Nat) : Int) < (L.length : Nat) by omega)]
    obtain ⟨x, hx⟩ : ∃ x, L.getD i insD = x := ⟨_, rfl⟩
    have hA : insF L i = insA x := by unfold insF; rw [hx]
    refine sS_ ?_
    refine C.draw [[], [0], [], [0, 1, 2], [0, 1, 2, 3], [], [5], [], [5, 6, 7], [5, 6, 7, 8], [0, 1, 2, 3, 4, 5, 6, 7, 8, 9]] [] (by kernel_rfl) (by kernel_rfl) ?_
    refine sS_ ?_
    refine R.ix1 ttok i rfl rfl rfl rfl rfl (by kernel_rfl) rfl hlt (⟨by omega, by omega⟩ : o1 ≤ o1 + i * 8 ∧ o1 + i * 8 < o1 + L.length * 8) rfl ?_
    refine R.ldr1 (v := .agg (insA x)) ttok i rfl rfl rfl (by rw [hA]; rfl) rfl (by kernel_rfl) rfl rfl (by decide) (by omega) ?_
    refine sS_ ?_
    refine R.ix ttok i rfl rfl rfl rfl rfl (by kernel_rfl) rfl hlt ⟨by omega, by omega⟩ rfl ?_
    refine R.ldo (v := .agg (insA x)) ttok rfl rfl rfl (by rw [hA]; rfl) rfl (by kernel_rfl) hlt ?_
    refine sS_ ?_
    refine R.nes ttok true rfl rfl (by kernel_rfl) (by kernel_rfl) (ins_same x) rfl (by kernel_rfl) ?_
    refine sS_ ?_
    exact X.back [] (i + 1) hlt (by omega) rfl hS9_ hS6_ rfl (fun _ h => h)
  · rw [decide_eq_false (show ¬ ((i : Nat) : Int) < (L.length : Nat) by omega)]
    refine sS_ ?_
    refine X.fin ttok () [] trivial rfl rfl rfl hS5_ _ (by first | exact .inl rfl | exact .inr rfl)
theorem roomy1_spec (nm : ByteArray) (ar : Int) (L : List Ins) (o cp : Nat) (hL : L.length ≤ 400) : Spec Tryz.prog 12 [.agg (prA nm ar (.sl 0 1 o L.length cp))] [roJ o L] 2 (σ := Nat) (fun c => L.length + 1 ≤ c ∧ c ≤ 9223372036854775807) (fun c => .agg (prA nm ar (.sl 1 8 0 L.length c))) (fun c => [(1, tI (L ++ [markI]) c)]) := by
  refine Spec.of Tryz.func12 rfl Tryz.ntmps12 rfl (bdl_cons (rowsJ_bd _ _ _ _) (bdl_nil _)) fun ρ w => ?_
  refine sS_ ?_
  refine R.app (xs := inss []) (news := inss L) ttok (fun c => tI L c) rfl rfl (DstA.nil _ _) (srcInsJ rfl) (asIns _ _ _ rfl) rfl rfl rfl rfl rfl rfl (by decide) (inss_one _) (by rw [inss_len]) rfl (by kernel_rfl) (by omega) (by show (0 + L.length) * 72 ≤ _; omega) (by show 0 + L.length ≤ _; omega) fun cA hA hA2 => ?_
  rw [show 0 + L.length = L.length from Nat.zero_add _]
  refine sS_ ?_
  refine R.app (xs := inss L) (news := inss [markI]) ttok (fun c => tI (L ++ [markI]) c) rfl rfl (dstIns rfl) (SrcA.cells rfl rfl) (asIns _ _ _ (inss_app _ _).symm) rfl rfl rfl rfl rfl rfl (by decide) rfl rfl rfl (by kernel_rfl) hA2 (by show (L.length + 1) * 72 ≤ _; omega) (by show L.length + 1 ≤ _; omega) fun cB hB hB2 => ?_
  refine sS_ ?_
  refine R.sl ttok 0 L.length rfl rfl rfl rfl rfl rfl (by kernel_rfl) rfl ⟨_, _, rfl, rfl⟩ (by omega) (by omega) fun o1 ho1 => ?_
  obtain rfl : o1 = 0 := by omega
  rw [Nat.sub_zero, Nat.sub_zero]
  refine sS_ ?_
  refine X.fin ttok cB [(1, 5)] ⟨hB, hB2⟩ rfl rfl rfl hS5_ _ (by first | exact .inl rfl | exact .inr rfl)
end Go.Proofs.YtaieficgifingaaGreatDoor
namespace Go.Proofs.YtaieficgifingaaGreatDoor
set_option linter.unusedVariables false
set_option linter.unusedSimpArgs false
open Go.RowKit
set_option maxRecDepth 100000
set_option maxHeartbeats 8000000
theorem tabI_ro {ρ : Env} {r : Option Nat} {w : World} {l m : List Ins} {c : Nat} (h : (tI (l ++ m) c).holds ρ r w) : (roI 0 l).holds ρ r w := by
  rcases tab_ro h with ⟨h1, h2⟩ | ⟨b, cur, T, fr, hr, hb, hx⟩
  · refine .inl ⟨h1, ?_⟩
    rw [List.length_append] at h2
    omega
  · refine .inr ⟨b, cur, T, fr, hr, hb, fun i k x hi hk => ?_⟩
    refine hx i k x (by rw [List.length_append]; omega) ?_
    have : insF (l ++ m) i = insF l i := by
      unfold insF
      rw [List.getD_eq_getElem?_getD, List.getElem?_append_left hi, List.getD_eq_getElem?_getD]
    rw [this]
    exact hk
theorem asmPrints1_law (nm : ByteArray) (ar : Int) (L : List Ins) (o cp : Nat) (hL : L.length ≤ 9223372036854775807) (hI : ∀ x ∈ L, insI x) (fs : Fam) (hG : Glob fs) (hfc : ∀ x ∈ fs, x.ob.isCells = true) : SpecF Tryz.prog 4 [.agg (prA nm ar (.sl 0 1 o L.length cp))] [roJ o L] 1 fs (σ := Unit) (fun _ => True) (fun _ => .raw (.bool true)) (fun _ => []) (fun _ => fs) := by
  refine SpecF.of Tryz.func4 rfl Tryz.ntmps4 rfl (bdl_cons (rowsJ_bd _ _ _ _) (bdl_nil _)) fun ρ w => ?_
  refine sS_ ?_
  refine R.cl [0] (long1_spec nm ar L o cp hL) Tryz.call11 hS2_ rfl rfl rfl (fun _ => rfl) rfl (by kernel_rfl) fun b hb => ?_
  cases b with
  | true =>
    refine sS_ ?_
    refine R.clR [] (known_spec fs hG hfc) hG.ro Tryz.call7 hS8_ rfl rfl rfl (fun _ => rfl) rfl (by kernel_rfl) fun _ _ => ?_
    refine sS_ ?_
    refine X.finF ttok () [] trivial rfl rfl rfl hS5_ _ (by first | exact .inl rfl | exact .inr rfl) ?_ ?_ ?_
    · exact fun w' hf => hf.ap
    · exact fun p hp => hp
    · exact fun p hp e => ⟨p, hp, rfl⟩
  | false =>
    obtain ⟨hL4, hnm, htx⟩ := hb rfl
    have hmk : insF (L ++ [markI]) L.length = insA markI := by
      unfold insF
      rw [List.getD_eq_getElem?_getD, List.getElem?_append_right (Nat.le_refl _), Nat.sub_self]
      rfl
    refine sS_ ?_
    refine R.cl [0] (roomy1_spec nm ar L o cp hL4) Tryz.call12 hS2_ rfl rfl rfl (fun _ => rfl) rfl (by kernel_rfl) fun c hc => ?_
    obtain ⟨hc1, hc2⟩ := hc
    refine sS_ ?_
    refine R.clR [2] (print_spec nm ar L 0 c (by omega) hI fs hG) hG.ro Tryz.call13 ((by exact HasIn.other rfl (fun e => by cases e) (fun ρ x w hh => tabI_ro hh) .nil)) rfl rfl rfl (fun _ => rfl) rfl (by kernel_rfl) fun _ _ => ?_
    refine sS_ ?_
    refine R.cl [0] (printR1_spec nm ar L o cp (by omega) hI) Tryz.call14 hS2_ rfl rfl rfl (fun _ => rfl) rfl (by kernel_rfl) fun _ _ => ?_
    refine sS_ ?_
    rw [show decide ((strOf (printO nm ar L)).toList = (strOf (printO nm ar L)).toList) = true from decide_eq_true rfl]
    refine sS_ ?_
    rw [show decide ((chkP nm ar L).2 = (chkP nm ar L).2) = true from decide_eq_true rfl]
    refine sS_ ?_
    refine R.cl [0, 2] (procs1_spec nm ar L o cp 0 c (by omega)) Tryz.call10 ((by exact HasIn.roj rfl (HasIn.other rfl (fun e => by cases e) (fun ρ x w hh => tabI_ro hh) .nil))) rfl rfl rfl (fun _ => rfl) rfl (by kernel_rfl) fun _ _ => ?_
    refine sS_ ?_
    refine R.sl ttok 0 (L.length + 1) rfl rfl rfl rfl rfl rfl (by kernel_rfl) rfl ⟨_, _, rfl, by omega⟩ (by omega) (by omega) fun o1 ho1 => ?_
    obtain rfl : o1 = 0 := by omega
    rw [Nat.sub_zero, Nat.sub_zero]
    refine sS_ ?_
    refine R.ix ttok L.length rfl rfl rfl rfl rfl (by kernel_rfl) rfl (Nat.lt_succ_self _) (by show 0 + L.length < (L ++ [markI]).length; rw [List.length_append]; show 0 + L.length < L.length + 1; omega) rfl ?_
    refine sS_ ?_
    refine R.ldt (v := .raw (.int .i64 701)) ttok rfl rfl rfl (by rw [Nat.zero_add, hmk]; rfl) rfl (by kernel_rfl) (by rw [List.length_append]; show _ < L.length + 1; omega) ?_
    refine sS_ ?_
    refine R.clR [] (known_spec fs hG hfc) hG.ro Tryz.call7 hS8_ rfl rfl rfl (fun _ => rfl) rfl (by kernel_rfl) fun _ _ => ?_
    refine sS_ ?_
    refine X.finF ttok () [] trivial rfl rfl rfl hS5_ _ (by first | exact .inl rfl | exact .inr rfl) ?_ ?_ ?_
    · exact fun w' hf => hf.ap
    · exact fun p hp => hp
    · exact fun p hp e => ⟨p, hp, rfl⟩
end Go.Proofs.YtaieficgifingaaGreatDoor
