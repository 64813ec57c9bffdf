/- Texts of the claim, merged: only what the theorem needs. -/
import Derived.Test.YtaieficgifingaaGreatDoorQEr
import Derived.Lib.AppendIntMem
import Derived.Lib.ItoaLen
namespace Go.Proofs.YtaieficgifingaaGreatDoor
set_option linter.unusedVariables false
set_option linter.unusedSimpArgs false
open Go.RowKit
set_option maxRecDepth 100000
set_option maxHeartbeats 8000000
def i64 (n : Int) : Prop := -9223372036854775808 ≤ n ∧ n ≤ 9223372036854775807
theorem itoa_spec (n : Int) (hn : i64 n) (fs : Fam) (hG : Glob fs) : SpecF Tryz.prog 31 [.raw (.int .i64 n)] [] 0 fs (σ := Unit) (fun _ => True) (fun _ => .raw (.string (strOf (Lib.itoa n)))) (fun _ => []) (fun _ => fs) :=
  SpecF.lib (vs := [.int .i64 n]) _ rfl rfl fun ρ w hat => (Tryz.strconv_Itoa n hn.1 hn.2 w (hG.pw w hat)).mono fun e w' ⟨h1, k, os, h2⟩ => ⟨h1, by rw [h2]; exact Lib.below_grow _ w (Nat.le_refl _) k os⟩
theorem format_spec (n : Int) (hn : i64 n) (fs : Fam) (hG : Glob fs) : SpecF Tryz.prog 52 [.raw (.int .i64 n), .raw (.int .i64 10)] [] 0 fs (σ := Unit) (fun _ => True) (fun _ => .raw (.string (strOf (Lib.itoa n)))) (fun _ => []) (fun _ => fs) :=
  SpecF.lib (vs := [.int .i64 n, .int .i64 10]) _ rfl rfl fun ρ w hat => (Tryz.strconv_FormatInt_10 n hn.1 hn.2 w (hG.pw w hat)).mono fun e w' ⟨h1, k, os, h2⟩ => ⟨h1, by rw [h2]; exact Lib.below_grow _ w (Nat.le_refl _) k os⟩
theorem itoa_le {n : Int} (hn : i64 n) : (Lib.itoa n).length ≤ 21 := Lib.itoa_length_le n hn.1 hn.2
theorem strOf_app (a b : List UInt8) : strOf a ++ strOf b = strOf (a ++ b) := strB_inj (by
  show ((strOf a) ++ (strOf b)).data.toList = _
  rw [ByteArray.data_append, Array.toList_append]
  rfl)
/-- a value, said -/
def sayP (k i : Int) (t : ByteArray) : List UInt8 := if k = 1 then Lib.itoa i else if k = 2 then quotW (strB t) else [110, 111, 110, 101]
/-- a field, written -/
def FK.wr (x : Ins) : FK → List UInt8
  | .a => 114 :: Lib.itoa x.a
  | .b => 114 :: Lib.itoa x.b
  | .c => 114 :: Lib.itoa x.c
  | .n => Lib.itoa x.n
  | .k => Lib.itoa x.a
  | .s => strB (sgL.getD x.n.toNat ⟨#[]⟩)
  | .v => sayP x.k x.i x.t
theorem regA_write (x : Ins) (hx : i64 x.a) (fs : Fam) (hG : Glob fs) : SpecF Tryz.prog 88 [.agg (insA x), .ptr 0 0 0 0] [one0 (.fn 41 [])] 1 fs (σ := Unit) (fun _ => True) (fun _ => .raw (.string (strOf (FK.a.wr x)))) (fun _ => []) (fun _ => fs) := by
  refine SpecF.of Tryz.func88 rfl Tryz.ntmps88 rfl (bdl_cons (roA_bd rfl) (bdl_nil _)) fun ρ w => ?_
  refine sS_ ?_
  refine R.ldo (v := .fn 41 []) ttok rfl rfl rfl rfl rfl (by kernel_rfl) Nat.one_pos ?_
  refine sS_ ?_
  refine R.cl [1] (inA_spec) Tryz.call41 ((by exact HasIn.any rfl .nil)) rfl rfl rfl (fun _ => rfl) rfl (by kernel_rfl) fun _ _ => ?_
  refine sS_ ?_
  refine R.clR [] (itoa_spec x.a hx fs hG) hG.ro Tryz.call31 hS11_ rfl rfl rfl (fun _ => rfl) rfl (by kernel_rfl) fun _ _ => ?_
  have hle := itoa_le hx
  refine R.cat rfl rfl rfl (by kernel_rfl) (by show 1 + (strOf (Lib.itoa x.a)).size ≤ _; rw [← strB_size]; show 1 + (Lib.itoa x.a).length ≤ _; omega) ?_
  rw [show (⟨#[114]⟩ : ByteArray) ++ strOf (Lib.itoa x.a) = strOf (FK.a.wr x) from strOf_app [114] _]
  refine sS_ ?_
  refine X.finF ttok () [] trivial rfl rfl rfl hS7_ _ (by first | exact .inl rfl | exact .inr rfl) ?_ ?_ ?_
  · exact fun w' hf => hf.ap
  · exact fun p hp => hp
  · exact fun p hp e => ⟨p, hp, rfl⟩
theorem regB_write (x : Ins) (hx : i64 x.b) (fs : Fam) (hG : Glob fs) : SpecF Tryz.prog 88 [.agg (insA x), .ptr 0 0 0 0] [one0 (.fn 44 [])] 1 fs (σ := Unit) (fun _ => True) (fun _ => .raw (.string (strOf (FK.b.wr x)))) (fun _ => []) (fun _ => fs) := by
  refine SpecF.of Tryz.func88 rfl Tryz.ntmps88 rfl (bdl_cons (roA_bd rfl) (bdl_nil _)) fun ρ w => ?_
  refine sS_ ?_
  refine R.ldo (v := .fn 44 []) ttok rfl rfl rfl rfl rfl (by kernel_rfl) Nat.one_pos ?_
  refine sS_ ?_
  refine R.cl [1] (inB_spec) Tryz.call44 ((by exact HasIn.any rfl .nil)) rfl rfl rfl (fun _ => rfl) rfl (by kernel_rfl) fun _ _ => ?_
  refine sS_ ?_
  refine R.clR [] (itoa_spec x.b hx fs hG) hG.ro Tryz.call31 hS11_ rfl rfl rfl (fun _ => rfl) rfl (by kernel_rfl) fun _ _ => ?_
  have hle := itoa_le hx
  refine R.cat rfl rfl rfl (by kernel_rfl) (by show 1 + (strOf (Lib.itoa x.b)).size ≤ _; rw [← strB_size]; show 1 + (Lib.itoa x.b).length ≤ _; omega) ?_
  rw [show (⟨#[114]⟩ : ByteArray) ++ strOf (Lib.itoa x.b) = strOf (FK.b.wr x) from strOf_app [114] _]
  refine sS_ ?_
  refine X.finF ttok () [] trivial rfl rfl rfl hS7_ _ (by first | exact .inl rfl | exact .inr rfl) ?_ ?_ ?_
  · exact fun w' hf => hf.ap
  · exact fun p hp => hp
  · exact fun p hp e => ⟨p, hp, rfl⟩
theorem regC_write (x : Ins) (hx : i64 x.c) (fs : Fam) (hG : Glob fs) : SpecF Tryz.prog 88 [.agg (insA x), .ptr 0 0 0 0] [one0 (.fn 45 [])] 1 fs (σ := Unit) (fun _ => True) (fun _ => .raw (.string (strOf (FK.c.wr x)))) (fun _ => []) (fun _ => fs) := by
  refine SpecF.of Tryz.func88 rfl Tryz.ntmps88 rfl (bdl_cons (roA_bd rfl) (bdl_nil _)) fun ρ w => ?_
  refine sS_ ?_
  refine R.ldo (v := .fn 45 []) ttok rfl rfl rfl rfl rfl (by kernel_rfl) Nat.one_pos ?_
  refine sS_ ?_
  refine R.cl [1] (inC_spec) Tryz.call45 ((by exact HasIn.any rfl .nil)) rfl rfl rfl (fun _ => rfl) rfl (by kernel_rfl) fun _ _ => ?_
  refine sS_ ?_
  refine R.clR [] (itoa_spec x.c hx fs hG) hG.ro Tryz.call31 hS11_ rfl rfl rfl (fun _ => rfl) rfl (by kernel_rfl) fun _ _ => ?_
  have hle := itoa_le hx
  refine R.cat rfl rfl rfl (by kernel_rfl) (by show 1 + (strOf (Lib.itoa x.c)).size ≤ _; rw [← strB_size]; show 1 + (Lib.itoa x.c).length ≤ _; omega) ?_
  rw [show (⟨#[114]⟩ : ByteArray) ++ strOf (Lib.itoa x.c) = strOf (FK.c.wr x) from strOf_app [114] _]
  refine sS_ ?_
  refine X.finF ttok () [] trivial rfl rfl rfl hS7_ _ (by first | exact .inl rfl | exact .inr rfl) ?_ ?_ ?_
  · exact fun w' hf => hf.ap
  · exact fun p hp => hp
  · exact fun p hp e => ⟨p, hp, rfl⟩
theorem plainA_write (x : Ins) (hx : i64 x.a) (fs : Fam) (hG : Glob fs) : SpecF Tryz.prog 90 [.agg (insA x), .ptr 0 0 0 0] [one0 (.fn 41 [])] 1 fs (σ := Unit) (fun _ => True) (fun _ => .raw (.string (strOf (FK.k.wr x)))) (fun _ => []) (fun _ => fs) := by
  refine SpecF.of Tryz.func90 rfl Tryz.ntmps90 rfl (bdl_cons (roA_bd rfl) (bdl_nil _)) fun ρ w => ?_
  refine sS_ ?_
  refine R.ldo (v := .fn 41 []) ttok rfl rfl rfl rfl rfl (by kernel_rfl) Nat.one_pos ?_
  refine sS_ ?_
  refine R.cl [1] (inA_spec) Tryz.call41 ((by exact HasIn.any rfl .nil)) rfl rfl rfl (fun _ => rfl) rfl (by kernel_rfl) fun _ _ => ?_
  refine sS_ ?_
  refine R.clR [] (itoa_spec x.a hx fs hG) hG.ro Tryz.call31 hS11_ rfl rfl rfl (fun _ => rfl) rfl (by kernel_rfl) fun _ _ => ?_
  refine sS_ ?_
  refine X.finF ttok () [] trivial rfl rfl rfl hS7_ _ (by first | exact .inl rfl | exact .inr rfl) ?_ ?_ ?_
  · exact fun w' hf => hf.ap
  · exact fun p hp => hp
  · exact fun p hp e => ⟨p, hp, rfl⟩
theorem plainN_write (x : Ins) (hx : i64 x.n) (fs : Fam) (hG : Glob fs) : SpecF Tryz.prog 90 [.agg (insA x), .ptr 0 0 0 0] [one0 (.fn 42 [])] 1 fs (σ := Unit) (fun _ => True) (fun _ => .raw (.string (strOf (FK.n.wr x)))) (fun _ => []) (fun _ => fs) := by
  refine SpecF.of Tryz.func90 rfl Tryz.ntmps90 rfl (bdl_cons (roA_bd rfl) (bdl_nil _)) fun ρ w => ?_
  refine sS_ ?_
  refine R.ldo (v := .fn 42 []) ttok rfl rfl rfl rfl rfl (by kernel_rfl) Nat.one_pos ?_
  refine sS_ ?_
  refine R.cl [1] (inN_spec) Tryz.call42 ((by exact HasIn.any rfl .nil)) rfl rfl rfl (fun _ => rfl) rfl (by kernel_rfl) fun _ _ => ?_
  refine sS_ ?_
  refine R.clR [] (itoa_spec x.n hx fs hG) hG.ro Tryz.call31 hS11_ rfl rfl rfl (fun _ => rfl) rfl (by kernel_rfl) fun _ _ => ?_
  refine sS_ ?_
  refine X.finF ttok () [] trivial rfl rfl rfl hS7_ _ (by first | exact .inl rfl | exact .inr rfl) ?_ ?_ ?_
  · exact fun w' hf => hf.ap
  · exact fun p hp => hp
  · exact fun p hp e => ⟨p, hp, rfl⟩
theorem sign_write (x : Ins) (hx : 0 ≤ x.n ∧ x.n < 7) : Spec Tryz.prog 48 [.agg (insA x), .ptr 0 0 0 0] [one0 (.sl 1 1 0 7 7), roSg] 2 (σ := Unit) (fun _ => True) (fun _ => .raw (.string (strOf (FK.s.wr x)))) (fun _ => []) := by
  refine Spec.of Tryz.func48 rfl Tryz.ntmps48 rfl (bdl_cons (roA_bd rfl) (bdl_cons (fun i hi => rfl) (bdl_nil _))) fun ρ w => ?_
  refine sS_ ?_
  refine R.ldo (v := .sl 1 1 0 7 7) ttok rfl rfl rfl rfl rfl (by kernel_rfl) Nat.one_pos ?_
  refine sS_ ?_
  have h7 : x.n.toNat < 7 := by omega
  refine R.ix ttok x.n.toNat rfl rfl rfl rfl rfl (by kernel_rfl) (by omega) h7 (by show _ ≤ _ ∧ _ < _; omega) rfl ?_
  refine R.ldo (v := .raw (.string (sgL.getD x.n.toNat ⟨#[]⟩))) ttok rfl rfl rfl rfl rfl (by kernel_rfl) h7 ?_
  rw [show sgL.getD x.n.toNat ⟨#[]⟩ = strOf (FK.s.wr x) from strB_inj rfl]
  refine sS_ ?_
  refine X.fin ttok () [] trivial rfl rfl rfl hS7_ _ (by first | exact .inl rfl | exact .inr rfl)
theorem value_write (x : Ins) (hx : i64 x.i) (ht : x.t.size ≤ 1000000) (fs : Fam) (hG : Glob fs) : SpecF Tryz.prog 51 [.agg (insA x)] [] 0 fs (σ := Unit) (fun _ => True) (fun _ => .raw (.string (strOf (FK.v.wr x)))) (fun _ => []) (fun _ => fs) := by
  refine SpecF.of Tryz.func51 rfl Tryz.ntmps51 rfl (bdl_nil _) fun ρ w => ?_
  refine sS_ ?_
  by_cases h1 : x.k = 1
  · rw [decide_eq_true h1]
    refine sS_ ?_
    refine R.clR [] (format_spec x.i hx fs hG) hG.ro Tryz.call52 hS11_ rfl rfl rfl (fun _ => rfl) rfl (by kernel_rfl) fun _ _ => ?_
    rw [show Lib.itoa x.i = FK.v.wr x from (if_pos h1).symm]
    refine sS_ ?_
    refine X.finF ttok () [] trivial rfl rfl rfl hS7_ _ (by first | exact .inl rfl | exact .inr rfl) ?_ ?_ ?_
    · exact fun w' hf => hf.ap
    · exact fun p hp => hp
    · exact fun p hp e => ⟨p, hp, rfl⟩
  · rw [decide_eq_false h1]
    refine sS_ ?_
    by_cases h2 : x.k = 2
    · rw [decide_eq_true h2]
      refine sS_ ?_
      refine R.cl [] (quote_spec x.t ht) Tryz.call53 hS11_ rfl rfl rfl (fun _ => rfl) rfl (by kernel_rfl) fun _ _ => ?_
      rw [show quotW (strB x.t) = FK.v.wr x from ((if_neg h1).trans (if_pos h2)).symm]
      refine sS_ ?_
      refine X.finF ttok () [] trivial rfl rfl rfl hS7_ _ (by first | exact .inl rfl | exact .inr rfl) ?_ ?_ ?_
      · exact fun w' hf => hf.ap
      · exact fun p hp => hp
      · exact fun p hp e => ⟨p, hp, rfl⟩
    · rw [decide_eq_false h2]
      have hv : strOf (FK.v.wr x) = ⟨#[110, 111, 110, 101]⟩ := strB_inj ((if_neg h1).trans (if_neg h2))
      rw [hv]
      refine sS_ ?_
      refine X.finF ttok () [] trivial rfl rfl rfl hS7_ _ (by first | exact .inl rfl | exact .inr rfl) ?_ ?_ ?_
      · exact fun w' hf => hf.ap
      · exact fun p hp => hp
      · exact fun p hp e => ⟨p, hp, rfl⟩
theorem bytes_any {ρ : Env} {r : Option Nat} {w : World} {p : List UInt8} {c : Nat} {T : TypeId} (h : (AO.bytes p c T).holds ρ r w) : anyO.holds ρ r w := by
  rcases h.2 with ⟨h1, _⟩ | ⟨b, cur, hr, hb, _⟩
  · exact .inl ⟨h1, rfl⟩
  · exact .inr ⟨b, cur, T, _, hr, hb, fun i c x hi => by omega⟩
abbrev bldT : TypeId := 82
theorem copy0_spec : Spec Tryz.prog 70 [.ptr 0 0 0 0] [.cells [.raw (.pointer none), .raw (.slice none 0 0)] bldT] 1 (σ := Unit) (fun _ => True) (fun _ => .tup []) (fun _ => [(0, .cells [.ptr 0 0 0 0, .raw (.slice none 0 0)] bldT)]) := by
  refine Spec.of Tryz.func70 rfl Tryz.ntmps70 rfl (bdl_cons rfl (bdl_nil _)) fun ρ w => ?_
  refine sS_ ?_
  refine R.cvu (k := 1) rfl rfl (Tryz.underlying79) (Tryz.underlying159) (by kernel_rfl) (by show 0 < 2; decide) rfl (by kernel_rfl) ?_
  refine sS_ ?_
  refine R.same (e := Extern.AbiNoEscape.same) (fun args w => (by rw [run_callFunc_extern Tryz.func113 (by kernel_rfl) (by kernel_rfl) (by kernel_rfl) (e := Extern.AbiNoEscape.same) (by kernel_rfl)])) (fun v w => Lib.run_noEscape w v) rfl rfl (by kernel_rfl) ?_
  refine R.cvf rfl rfl (Tryz.underlying159) (Tryz.underlying79) (by kernel_rfl) (by kernel_rfl) rfl (by kernel_rfl) ?_
  refine sS_ ?_
  refine X.fin ttok () [] trivial rfl rfl rfl hS7_ _ (by first | exact .inl rfl | exact .inr rfl)
theorem copy1_spec (n c : Nat) : Spec Tryz.prog 70 [.ptr 0 0 0 0] [.cells [.ptr 0 0 0 0, .sl 1 1 0 n c] bldT, anyO] 2 (σ := Unit) (fun _ => True) (fun _ => .tup []) (fun _ => [(0, .cells [.ptr 0 0 0 0, .sl 1 1 0 n c] bldT)]) := by
  refine Spec.of Tryz.func70 rfl Tryz.ntmps70 rfl (bdl_cons rfl (bdl_cons (any_bd _) (bdl_nil _))) fun ρ w => ?_
  refine sS_ ?_
  refine R.pns ttok rfl rfl rfl rfl rfl rfl rfl (by kernel_rfl) ?_
  refine sS_ ?_
  refine X.fin ttok () [] trivial rfl rfl rfl hS7_ _ (by first | exact .inl rfl | exact .inr rfl)
/-- what a Builder holds: none yet, or bytes -/
theorem write0_spec (t : ByteArray) (ht : t.size ≤ 1000000) : Spec Tryz.prog 30 [.ptr 0 0 0 0, .raw (.string t)] [.cells [.raw (.pointer none), .raw (.slice none 0 0)] bldT] 2 (σ := Nat) (fun c => t.size ≤ c ∧ c ≤ 9223372036854775807) (fun _ => .tup [.raw (.int .i64 (t.size : Nat)), .raw .nilIface]) (fun c => [(0, .cells [.ptr 0 0 0 0, .sl 1 1 0 t.size c] bldT), (1, .bytes (strB t) c 5)]) := by
  refine Spec.of Tryz.func30 rfl Tryz.ntmps30 rfl (bdl_cons rfl (bdl_nil _)) fun ρ w => ?_
  have hlen := strB_size t
  refine sS_ ?_
  refine R.cl [0] (copy0_spec) Tryz.call70 hS11_ rfl rfl rfl (fun _ => rfl) rfl (by kernel_rfl) fun _ _ => ?_
  refine sS_ ?_
  refine R.apS ttok (fun c => .bytes (strB t) c 5) rfl rfl (DstA.nil _ _) (AsRow.bytes _ _) rfl rfl (Tryz.underlying9) (by kernel_rfl) rfl (by kernel_rfl) (Nat.zero_le _) (by omega) fun c h1 h2 => ?_
  rw [show 0 + t.size = t.size from Nat.zero_add _] at h1 ⊢
  refine sS_ ?_
  refine X.fin ttok c [(1, 1)] ⟨h1, h2⟩ rfl rfl rfl hS7_ _ (by first | exact .inl rfl | exact .inr rfl)
theorem write_spec (p : List UInt8) (c : Nat) (t : ByteArray) (hc : c ≤ 9223372036854775807) (hp : p.length + t.size ≤ 100000000) : Spec Tryz.prog 30 [.ptr 0 0 0 0, .raw (.string t)] [.cells [.ptr 0 0 0 0, .sl 1 1 0 p.length c] bldT, .bytes p c 5] 3 (σ := Nat) (fun c => (p ++ strB t).length ≤ c ∧ c ≤ 9223372036854775807) (fun _ => .tup [.raw (.int .i64 (t.size : Nat)), .raw .nilIface]) (fun c => [(0, .cells [.ptr 0 0 0 0, .sl 2 1 0 (p ++ strB t).length c] bldT), (2, .bytes (p ++ strB t) c 5)]) := by
  refine Spec.of Tryz.func30 rfl Tryz.ntmps30 rfl (bdl_cons rfl (bdl_cons trivial (bdl_nil _))) fun ρ w => ?_
  have hlen := strB_size t
  refine sS_ ?_
  refine R.cl [0, 1] (copy1_spec p.length c) Tryz.call70 ((by exact HasIn.same rfl rfl (HasIn.other rfl (fun e => by cases e) (fun ρ x w hh => bytes_any hh) .nil))) rfl rfl rfl (fun _ => rfl) rfl (by kernel_rfl) fun _ _ => ?_
  refine sS_ ?_
  refine R.apt ttok rfl rfl rfl rfl rfl rfl rfl (Tryz.underlying9) (by kernel_rfl) rfl (by kernel_rfl) hc (by rw [List.length_append]; omega) fun c h1 h2 => ?_
  refine sS_ ?_
  refine X.fin ttok c [] ⟨h1, h2⟩ rfl rfl rfl hS7_ _ (by first | exact .inl rfl | exact .inr rfl)
theorem bstring_spec (p : List UInt8) (c : Nat) (h0 : p ≠ []) (hc : p.length ≤ c) (hp : p.length ≤ 9223372036854775807) : Spec Tryz.prog 32 [.ptr 0 0 0 0] [.cells [.ptr 0 0 0 0, .sl 1 1 0 p.length c] bldT, .bytes p c 5] 2 (σ := Unit) (fun _ => True) (fun _ => .raw (.string (strOf p))) (fun _ => []) := by
  refine Spec.of Tryz.func32 rfl Tryz.ntmps32 rfl (bdl_cons rfl (bdl_cons trivial (bdl_nil _))) fun ρ w => ?_
  have hpl := List.length_pos_iff.2 h0
  refine sS_ ?_
  refine C.draw [[], [0], [0, 1], [0, 1, 2], [0, 1, 2, 3], [], [5], [5, 6], [5, 6, 7], [5, 6, 7, 8], [0, 1, 2, 3, 4, 5, 6, 7, 8, 9], [0, 1, 2, 3, 4, 5, 6, 7, 8, 9, 10]] [4, 10] (by kernel_rfl) (by kernel_rfl) ?_
  refine sS_ ?_
  refine R.usd rfl rfl (by omega) (by omega) rfl (by kernel_rfl) ?_
  refine sS_ ?_
  refine R.ust rfl rfl rfl rfl h0 hp (Tryz.underlying126) (by kernel_rfl) rfl (by kernel_rfl) ?_
  refine sS_ ?_
  refine X.fin ttok () [] trivial rfl rfl rfl hS7_ _ (by first | exact .inl rfl | exact .inr rfl)
end Go.Proofs.YtaieficgifingaaGreatDoor
namespace Go.Proofs.YtaieficgifingaaGreatDoor
set_option linter.unusedVariables false
set_option linter.constructorNameAsVariable false
set_option linter.unusedSimpArgs false
open Go.RowKit
set_option maxRecDepth 100000
set_option maxHeartbeats 8000000
abbrev FK.av2 : FK → List AV
  | .a => [.fn 86 [.ptr 2 0 0 0], .fn 88 [.ptr 2 0 0 0]]
  | .b => [.fn 86 [.ptr 3 0 0 0], .fn 88 [.ptr 3 0 0 0]]
  | .c => [.fn 86 [.ptr 4 0 0 0], .fn 88 [.ptr 4 0 0 0]]
  | .n => [.fn 89 [.ptr 5 0 0 0], .fn 90 [.ptr 5 0 0 0]]
  | .k => [.fn 89 [.ptr 6 0 0 0], .fn 90 [.ptr 6 0 0 0]]
  | .s => [.fn 47 [.ptr 8 0 0 0], .fn 48 [.ptr 8 0 0 0]]
  | .v => [.fn 49 [], .fn 51 []]
def shRows2 : List AV := [.raw (.string ⟨#[115, 101, 116]⟩), .raw (.int .i64 1), .sl 9 2 0 2 2, .raw (.string ⟨#[97, 114, 103]⟩), .raw (.int .i64 2), .sl 10 2 0 2 2, .raw (.string ⟨#[103, 101, 116]⟩), .raw (.int .i64 3), .sl 11 2 0 2 2, .raw (.string ⟨#[110, 101, 120, 116]⟩), .raw (.int .i64 14), .sl 12 2 0 2 2, .raw (.string ⟨#[112, 117, 116]⟩), .raw (.int .i64 4), .sl 13 2 0 2 2, .raw (.string ⟨#[100, 101, 108]⟩), .raw (.int .i64 5), .sl 14 2 0 1 1, .raw (.string ⟨#[116, 101, 108, 108]⟩), .raw (.int .i64 15), .sl 15 2 0 1 1, .raw (.string ⟨#[97, 100, 100]⟩), .raw (.int .i64 6), .sl 16 2 0 3 3, .raw (.string ⟨#[115, 117, 98]⟩), .raw (.int .i64 7), .sl 17 2 0 3 3, .raw (.string ⟨#[109, 117, 108]⟩), .raw (.int .i64 8), .sl 18 2 0 3 3, .raw (.string ⟨#[106, 111, 105, 110]⟩), .raw (.int .i64 9), .sl 19 2 0 3 3, .raw (.string ⟨#[110, 101, 101, 100]⟩), .raw (.int .i64 10), .sl 20 2 0 3 3, .raw (.string ⟨#[115, 107, 105, 112]⟩), .raw (.int .i64 11), .sl 21 2 0 4 4, .raw (.string ⟨#[115, 117, 109]⟩), .raw (.int .i64 12), .sl 22 2 0 4 4, .raw (.string ⟨#[99, 111, 117, 110, 116]⟩), .raw (.int .i64 13), .sl 23 2 0 4 4, .raw (.string ⟨#[115, 116, 111, 112]⟩), .raw (.int .i64 16), .raw (.slice none 0 0)]
def fkF2 (l : List FK) (j : Nat) : List AV := ((l.flatMap FK.av2).drop (j * 2)).take 2
abbrev roK2 (l : List FK) : AO := .ro 2 0 l.length (fkF2 l)
def shF2 (j : Nat) : List AV := (shRows2.drop (j * 3)).take 3
abbrev roSh2 : AO := .ro 3 0 16 shF2
theorem fkF2_at {l : List FK} {j : Nat} {p : FK} (h : l[j]? = some p) : fkF2 l j = p.av2 := flat_drop FK.av2 2 (fun x => by cases x <;> rfl) l j p h
theorem fk2_mem {l : List FK} {j : Nat} {x : AV} (hx : x ∈ fkF2 l j) : ∃ q : FK, x ∈ q.av2 := by
  have hx := List.mem_of_mem_drop (List.mem_of_mem_take hx)
  obtain ⟨p, _, hp⟩ := List.mem_flatMap.1 hx
  exact ⟨p, hp⟩
theorem fk2_bd (L : Nat) (l : List FK) (hL : 9 ≤ L) : (roK2 l).Bd L := fun i _ => bds_of _ fun x hx => by
  obtain ⟨p, hp⟩ := fk2_mem hx
  have e : ∀ q, q < 9 → AV.bd L (.fn 0 [.ptr q 0 0 0]) = true := fun q hq => by simp [AV.bd, AV.bds]; omega
  cases p <;> (simp [FK.av2] at hp; rcases hp with rfl | rfl <;> first | rfl | exact e _ (by decide))
theorem fk2_ren (r : Nat → Nat) (l : List FK) (h0 : r 2 = 2) (h1 : r 3 = 3) (h2 : r 4 = 4) (h3 : r 5 = 5) (h4 : r 6 = 6) (h6 : r 8 = 8) : roK2 l = (roK2 l).ren r := by
  show AO.ro 2 0 l.length (fkF2 l) = AO.ro 2 0 l.length (fun i => AV.rens r (fkF2 l i))
  congr 1
  funext i
  rw [rens_map]
  refine ((List.map_congr_left (g := id) fun x hx => ?_).trans (List.map_id _)).symm
  obtain ⟨p, hp⟩ := fk2_mem hx
  cases p <;> (simp [FK.av2] at hp; rcases hp with rfl | rfl <;> simp [AV.ren, AV.rens, h0, h1, h2, h3, h4, h6])
theorem sh2_mem {j : Nat} {x : AV} (hx : x ∈ shF2 j) : (∃ v, x = .raw v) ∨ ∃ q n, q < 24 ∧ x = .sl q 2 0 n n := by
  have hx := List.mem_of_mem_drop (List.mem_of_mem_take hx)
  simp only [shRows2, List.mem_cons, List.not_mem_nil, or_false] at hx
  repeat' (first | (rcases hx with rfl | hx) | subst hx)
  all_goals first | exact .inl ⟨_, rfl⟩ | exact .inr ⟨_, _, by decide, rfl⟩
theorem sh2_bd (L : Nat) (hL : 24 ≤ L) : roSh2.Bd L := fun i _ => bds_of _ fun x hx => by
  rcases sh2_mem hx with ⟨v, rfl⟩ | ⟨q, n, hq, rfl⟩
  · rfl
  · simp [AV.bd]; omega
theorem sh2_ren (r : Nat → Nat) (h : ∀ q < 24, r q = q) : roSh2 = roSh2.ren r := by
  show AO.ro 3 0 16 shF2 = AO.ro 3 0 16 (fun i => AV.rens r (shF2 i))
  congr 1
  funext i
  rw [rens_map]
  refine ((List.map_congr_left (g := id) fun x hx => ?_).trans (List.map_id _)).symm
  rcases sh2_mem hx with ⟨v, rfl⟩ | ⟨q, n, hq, rfl⟩
  · rfl
  · simp [AV.ren, h q hq]
theorem HasH.fk2 {r : Nat → Nat} {L : Nat} {h rest : List (Nat × AO)} {l : Nat} {T : TypeId} {f : List FK} {xs : List AV} (h1 : hk (r l) h = some (.cells xs T)) (hx : xs = f.flatMap FK.av2) (g0 : r 2 = 2) (g1 : r 3 = 3) (g2 : r 4 = 4) (g3 : r 5 = 5) (g4 : r 6 = 6) (g6 : r 8 = 8) (h3 : Nat.ble (l + 1) L = true) (hL : 9 ≤ L) (kk : HasH r L h rest) : HasH r L h ((l, roK2 f) :: rest) :=
  .other h1 (fun e => by cases e) (fun ρ x w hh => by
    rw [← fk2_ren r f g0 g1 g2 g3 g4 g6]
    subst hx
    exact cells_row hh) h3 (fk2_bd _ _ hL) kk
theorem HasH.sh2 {r : Nat → Nat} {L : Nat} {h rest : List (Nat × AO)} {l : Nat} {T : TypeId} {xs : List AV} (h1 : hk (r l) h = some (.cells xs T)) (hx : xs = shRows2) (hr : ∀ q < 24, r q = q) (h3 : Nat.ble (l + 1) L = true) (hL : 24 ≤ L) (kk : HasH r L h rest) : HasH r L h ((l, roSh2) :: rest) :=
  .other h1 (fun e => by cases e) (fun ρ x w hh => by
    rw [← sh2_ren r hr]
    subst hx
    exact cells_row hh) h3 (sh2_bd _ hL) kk
theorem strOf_size (l : List UInt8) : (strOf l).size = l.length := by rw [← strB_size]; rfl
theorem cat1 (a : List UInt8) (t : ByteArray) : strOf a ++ t = strOf (a ++ strB t) := by
  rw [← strOf_app]
  congr 1
def lineS (s : Sh) (x : Ins) : List UInt8 := [32, 32] ++ strB s.w ++ s.f.flatMap (fun q => 32 :: q.wr x) ++ [10]
def lnS (x : Ins) (s : Sh) : List UInt8 := if ((s.op : Nat) : Int) = x.o then lineS s x else []
def lnP (x : Ins) : List UInt8 := shL.flatMap (lnS x)
def headP (nm : ByteArray) (ar : Int) : List UInt8 := [112, 114, 111, 99, 32] ++ strB nm ++ [32] ++ Lib.itoa ar ++ [10]
def printP (nm : ByteArray) (ar : Int) (cd : List Ins) : List UInt8 := headP nm ar ++ cd.flatMap lnP ++ [101, 110, 100, 10]
def insI (x : Ins) : Prop := i64 x.a ∧ i64 x.b ∧ i64 x.c ∧ i64 x.n ∧ i64 x.i
/-- what Check has looked at -/
structure InsK (x : Ins) : Prop where
  sg : x.o = 10 ∨ x.o = 11 → 1 ≤ x.n ∧ x.n ≤ 6
  tx : x.o = 1 → x.t.size ≤ 256
theorem insE_ok {ar : Int} {n i : Nat} {x : Ins} (h : insE ar n i x = 0) : InsK x := by
  unfold insE at h
  split at h
  · cases h
  rename_i ho
  unfold insL at h
  split at h
  · rename_i hall
    refine ⟨fun hx => ?_, fun hx => ?_⟩
    · have hm : PF.h ∈ pfs x.o.toNat := by rcases hx with hx | hx <;> rw [hx] <;> simp [pfs]
      have := List.all_eq_true.1 hall _ hm
      simp only [PF.ok, PF.val, Bool.and_eq_true] at this
      exact ⟨of_decide_eq_true this.1, of_decide_eq_true this.2⟩
    · split at h
      · rw [if_pos (decide_eq_true hx)] at h
        unfold vchk at h
        split at h
        · cases h
        · split at h
          · cases h
          · omega
      · cases h
  · cases h
theorem chkP_ok {nm : ByteArray} {ar : Int} {L : List Ins} (h : (chkP nm ar L).2 = 0) : (strB nm).length ≤ 32 ∧ 0 ≤ ar ∧ ar ≤ 16 ∧ L.length ≤ 64 ∧ ∀ i, i < L.length → insE ar L.length i (L.getD i insD) = 0 := by
  unfold chkP at h
  split at h
  · cases h
  rename_i h1
  split at h
  · cases h
  split at h
  · cases h
  have h1 : nameP (strB nm) = true := by cases hh : nameP (strB nm) <;> simp_all
  unfold nameP at h1
  simp only [Bool.and_eq_true, decide_eq_true_eq] at h1
  refine ⟨h1.1.1.2, by omega, by omega, by omega, fun i hi => ?_⟩
  unfold chkL at h
  split at h
  · rename_i j hf
    have := (List.find?_range_eq_some.1 hf).1
    unfold badI at this
    simp only [decide_eq_true_eq] at this
    exact absurd h this
  · rename_i hf
    have := List.find?_eq_none.1 hf i (List.mem_range.2 hi)
    unfold badI at this
    simpa using this
theorem quotW_len (l : List UInt8) : (quotW l).length ≤ 4 * l.length + 2 := by
  have : ∀ l : List UInt8, (l.flatMap quotC).length ≤ 4 * l.length := fun l => by
    induction l with
    | nil => simp
    | cons c r ih =>
      rw [List.flatMap_cons, List.length_append, List.length_cons]
      have := quotC_len c
      omega
  unfold quotW
  simp only [List.length_append, List.length_cons, List.length_nil]
  have := this l
  omega
theorem wr_len {x : Ins} (hx : insI x) (q : FK) (hs : q = .v → x.t.size ≤ 256) : (q.wr x).length ≤ 1030 := by
  obtain ⟨h1, h2, h3, h4, h5⟩ := hx
  have l1 := itoa_le h1
  have l2 := itoa_le h2
  have l3 := itoa_le h3
  have l4 := itoa_le h4
  have l5 := itoa_le h5
  cases q with
  | a => show (114 :: Lib.itoa x.a).length ≤ _; rw [List.length_cons]; omega
  | b => show (114 :: Lib.itoa x.b).length ≤ _; rw [List.length_cons]; omega
  | c => show (114 :: Lib.itoa x.c).length ≤ _; rw [List.length_cons]; omega
  | n => show (Lib.itoa x.n).length ≤ _; omega
  | k => show (Lib.itoa x.a).length ≤ _; omega
  | s =>
    show (strB (sgL.getD x.n.toNat ⟨#[]⟩)).length ≤ _
    have : ∀ k : Nat, (strB (sgL.getD k ⟨#[]⟩)).length ≤ 2 := fun k => by
      match k with
      | 0 | 1 | 2 | 3 | 4 | 5 | 6 => decide
      | k + 7 => simp [sgL, strB]
    have := this x.n.toNat
    omega
  | v =>
    have ht := hs rfl
    show (sayP x.k x.i x.t).length ≤ _
    unfold sayP
    split
    · omega
    · split
      · have := quotW_len (strB x.t)
        rw [strB_size] at this
        omega
      · decide
theorem sh_word {i : Nat} {s : Sh} (h : shL[i]? = some s) : (strB s.w).length ≤ 5 ∧ (FK.v ∈ s.f → s.op = 1) ∧ (FK.s ∈ s.f → s.op = 10 ∨ s.op = 11) := by
  have : ∀ s ∈ shL, (strB s.w).length ≤ 5 ∧ (FK.v ∈ s.f → s.op = 1) ∧ (FK.s ∈ s.f → s.op = 10 ∨ s.op = 11) := by
    intro s hs
    simp only [shL, List.mem_cons, List.not_mem_nil, or_false] at hs
    repeat' (first | (rcases hs with rfl | hs) | subst hs)
    all_goals exact ⟨by decide, by simp, by simp⟩
  exact this s (List.mem_of_getElem? h)
def printO (nm : ByteArray) (ar : Int) (cd : List Ins) : List UInt8 := if (chkP nm ar cd).2 = 0 then printP nm ar cd else []
theorem hS1_ {P : Prop} (h : P := by repeat (first | exact HasH.nil | refine HasH.same rfl rfl rfl trivial ?_ | refine HasH.same rfl rfl rfl rfl ?_ | refine HasH.same rfl rfl rfl (roA_bd rfl) ?_ | refine HasH.same rfl (fk2_ren _ _ rfl rfl rfl rfl rfl rfl) rfl (fk2_bd _ _ (Nat.le_of_ble_eq_true rfl)) ?_ | refine HasH.same rfl rfl rfl (fun _ _ => rfl) ?_ | refine HasH.same rfl (sh2_ren _ (by decide)) rfl (sh2_bd _ (Nat.le_of_ble_eq_true rfl)) ?_ | refine HasH.other rfl (fun e => by cases e) (fun ρ x w hh => cells_roA hh) rfl (roA_bd rfl) ?_ | refine HasH.fk2 rfl rfl rfl rfl rfl rfl rfl rfl rfl (Nat.le_of_ble_eq_true rfl) ?_ | refine HasH.other rfl (fun e => by cases e) (fun ρ x w hh => cells_sg hh) rfl (fun _ _ => rfl) ?_ | refine HasH.sh2 rfl rfl (by decide) rfl (Nat.le_of_ble_eq_true rfl) ?_ | refine HasH.other rfl (fun e => by cases e) (fun ρ x w hh => tab0_ro hh) rfl (fun i hi => absurd hi (Nat.not_lt_zero i)) ?_)) : P := h
theorem print_spec (nm : ByteArray) (ar : Int) (L : List Ins) (o cp : Nat) (hL : L.length ≤ 1000000) (hI : ∀ x ∈ L, insI x) (fs : Fam) (hG : Glob fs) : SpecF Tryz.prog 13 [.agg (prA nm ar (.sl 0 8 o L.length cp))] [roI o L] 1 fs (σ := Unit) (fun _ => True) (fun _ => .tup [.raw (.string (strOf (printO nm ar L))), .raw (.int .i64 (chkP nm ar L).2)]) (fun _ => []) (fun _ => fs) := by
  refine SpecF.of Tryz.func13 rfl Tryz.ntmps13 rfl (bdl_cons (fun _ _ => rfl) (bdl_nil _)) fun ρ w => ?_
  refine sS_ ?_
  refine R.cl [0] (checkP_spec nm ar L o cp hL) Tryz.call15 hS11_ rfl rfl rfl (fun _ => rfl) rfl (by kernel_rfl) fun _ _ => ?_
  obtain ⟨e, he⟩ : ∃ e, (chkP nm ar L).2 = e := ⟨_, rfl⟩
  unfold printO
  rw [he]
  refine sS_ ?_
  by_cases h0 : e = 0
  · subst h0
    obtain ⟨hnm, har0, har1, hl64, hok⟩ := chkP_ok he
    have hnms := strB_size nm
    have hari : i64 ar := ⟨by omega, by omega⟩
    have hil := itoa_le hari
    rw [if_pos rfl, show decide ((0 : Int) ≠ 0) = false from rfl]
    refine sS_ ?_
    refine R.cl [] (shapes_spec) Tryz.call18 hS11_ rfl rfl rfl (fun _ => rfl) rfl (by kernel_rfl) fun _ _ => ?_
    refine sS_ ?_
    refine C.lessR [] 26 [(1, .ptr 1 0 0 0), (6, .sl 24 3 0 16 16), (7, .ptr 25 0 0 0)] [(0, roI o L), (1, .cells (prA nm ar (.sl 0 8 o L.length cp)) 25), (2, one0 (.fn 41 [])), (3, one0 (.fn 44 [])), (4, one0 (.fn 45 [])), (5, one0 (.fn 42 [])), (6, one0 (.fn 41 [])), (7, roSg), (8, one0 (.sl 7 1 0 7 7)), (9, roK2 [.a, .v]), (10, roK2 [.a, .n]), (11, roK2 [.a, .b]), (12, roK2 [.a, .b]), (13, roK2 [.a, .b]), (14, roK2 [.a]), (15, roK2 [.a]), (16, roK2 [.a, .b, .c]), (17, roK2 [.a, .b, .c]), (18, roK2 [.a, .b, .c]), (19, roK2 [.a, .b, .c]), (20, roK2 [.b, .s, .c]), (21, roK2 [.k, .b, .s, .c]), (22, roK2 [.a, .b, .c, .n]), (23, roK2 [.a, .b, .c, .n]), (24, roSh2), (25, .cells [.raw (.pointer none), .raw (.slice none 0 0)] bldT)] _ rfl hS12_ hS1_ rfl (fun _ h => h) ?_
    refine C.draw [[], [0], [0, 1], [0, 1, 2], [], [4], [4, 5], [0, 1, 2, 3, 4, 5, 6], [0, 1, 2, 3, 4, 5, 6, 7], [0, 1, 2, 3, 4, 5, 6, 7, 8]] [6, 9] (by kernel_rfl) (by kernel_rfl) ?_
    refine sS_ ?_
    refine R.cat rfl rfl rfl (by kernel_rfl) (by show 5 + nm.size ≤ _; omega) ?_
    rw [show (⟨#[112, 114, 111, 99, 32]⟩ : ByteArray) ++ nm = _ from cat1 [112, 114, 111, 99, 32] nm]
    refine R.cat rfl rfl rfl (by kernel_rfl) (by rw [strOf_size, List.length_append]; show 5 + (strB nm).length + 1 ≤ _; omega) ?_
    rw [show strOf ([112, 114, 111, 99, 32] ++ strB nm) ++ (⟨#[32]⟩ : ByteArray) = _ from cat1 _ ⟨#[32]⟩]
    refine sS_ ?_
    refine R.clR [] (itoa_spec ar hari fs hG) hG.ro Tryz.call31 hS11_ rfl rfl rfl (fun _ => rfl) rfl (by kernel_rfl) fun _ _ => ?_
    refine R.cat rfl rfl rfl (by kernel_rfl) (by rw [strOf_size, strOf_size, List.length_append, List.length_append]; show 5 + (strB nm).length + 1 + (Lib.itoa ar).length ≤ _; omega) ?_
    rw [strOf_app]
    refine R.cat rfl rfl rfl (by kernel_rfl) (by rw [strOf_size, List.length_append, List.length_append, List.length_append]; show 5 + (strB nm).length + 1 + (Lib.itoa ar).length + 1 ≤ _; omega) ?_
    rw [show strOf ([112, 114, 111, 99, 32] ++ strB nm ++ strB ⟨#[32]⟩ ++ Lib.itoa ar) ++ (⟨#[10]⟩ : ByteArray) = strOf (headP nm ar) from cat1 _ ⟨#[10]⟩]
    have hhl : (headP nm ar).length = 7 + (strB nm).length + (Lib.itoa ar).length := by
      unfold headP
      simp only [List.length_append, List.length_cons, List.length_nil]
      omega
    have hh0 : 0 < (headP nm ar).length := by omega
    obtain ⟨hd, hhd⟩ : ∃ hd, headP nm ar = hd := ⟨_, rfl⟩
    rw [hhd] at hhl hh0 ⊢
    refine R.cl [25] (write0_spec (strOf hd) (by rw [strOf_size]; omega)) Tryz.call30 hS11_ rfl rfl rfl (fun _ => rfl) rfl (by kernel_rfl) fun c0 hc0 => ?_
    rw [strOf_size] at hc0
    obtain ⟨hc0, hc0'⟩ := hc0
    refine sS_ ?_
    refine C.loop (σ := Nat × List UInt8 × Nat) (L2 := 27) (fun s => s.1 ≤ L.length ∧ s.2.1 = hd ++ (L.take s.1).flatMap lnP ∧ s.2.1.length ≤ 100 + s.1 * 100000 ∧ s.2.1.length ≤ s.2.2 ∧ s.2.2 ≤ 9223372036854775807) (fun s => [(6, .sl 24 3 0 16 16), (7, .ptr 25 0 0 0), (34, .sl 0 8 o L.length cp), (35, .raw (.int .i64 (L.length : Nat))), (36, .raw (.int .i64 (s.1 : Nat)))])
      (fun s => [(0, roI o L), (1, .cells (prA nm ar (.sl 0 8 o L.length cp)) 25), (2, one0 (.fn 41 [])), (3, one0 (.fn 44 [])), (4, one0 (.fn 45 [])), (5, one0 (.fn 42 [])), (6, one0 (.fn 41 [])), (7, roSg), (8, one0 (.sl 7 1 0 7 7)), (9, roK2 [.a, .v]), (10, roK2 [.a, .n]), (11, roK2 [.a, .b]), (12, roK2 [.a, .b]), (13, roK2 [.a, .b]), (14, roK2 [.a]), (15, roK2 [.a]), (16, roK2 [.a, .b, .c]), (17, roK2 [.a, .b, .c]), (18, roK2 [.a, .b, .c]), (19, roK2 [.a, .b, .c]), (20, roK2 [.b, .s, .c]), (21, roK2 [.k, .b, .s, .c]), (22, roK2 [.a, .b, .c, .n]), (23, roK2 [.a, .b, .c, .n]), (24, roSh2), (25, .cells [.ptr 25 0 0 0, .sl 26 1 0 s.2.1.length s.2.2] bldT), (26, .bytes s.2.1 s.2.2 5)]) _ (fun s => L.length - s.1) [] (0, hd, c0) ⟨Nat.zero_le _, by simp, by dsimp only; omega, hc0, hc0'⟩ rfl hS12_ (by
      show HasH _ _ _ [(0, roI o L), (1, .cells (prA nm ar (.sl 0 8 o L.length cp)) 25), (2, one0 (.fn 41 [])), (3, one0 (.fn 44 [])), (4, one0 (.fn 45 [])), (5, one0 (.fn 42 [])), (6, one0 (.fn 41 [])), (7, roSg), (8, one0 (.sl 7 1 0 7 7)), (9, roK2 [.a, .v]), (10, roK2 [.a, .n]), (11, roK2 [.a, .b]), (12, roK2 [.a, .b]), (13, roK2 [.a, .b]), (14, roK2 [.a]), (15, roK2 [.a]), (16, roK2 [.a, .b, .c]), (17, roK2 [.a, .b, .c]), (18, roK2 [.a, .b, .c]), (19, roK2 [.a, .b, .c]), (20, roK2 [.b, .s, .c]), (21, roK2 [.k, .b, .s, .c]), (22, roK2 [.a, .b, .c, .n]), (23, roK2 [.a, .b, .c, .n]), (24, roSh2), (25, .cells [.ptr 25 0 0 0, .sl 26 1 0 hd.length c0] bldT), (26, .bytes hd c0 5)]
      rw [← strOf_size hd]
      exact hS1_) rfl (fun _ h => h) ?_
    rintro ⟨i, p, c⟩ ⟨hi, hp, hpl, hc, hc'⟩
    dsimp only at hi hp hpl hc hc' ⊢
    refine sS_ ?_
    by_cases hlt : i < L.length
    · rw [decide_eq_true (show ((i : Nat) : Int) < (L.length : Nat) by omega)]
      obtain ⟨x, hx⟩ : ∃ x, L.getD i insD = x := ⟨_, rfl⟩
      have hA : insF L i = insA x := by unfold insF; rw [hx]
      have hxm : x ∈ L := by
        rw [← hx, List.getD_eq_getElem?_getD, List.getElem?_eq_getElem hlt]
        exact List.getElem_mem _
      have hxI := hI x hxm
      have hxk : InsK x := by
        have := hok i hlt
        rw [hx] at this
        exact insE_ok this
      have hnext : ∀ q, q = p ++ shL.flatMap (lnS x) → q = hd ++ (L.take (i + 1)).flatMap lnP := fun q hq => by
        rw [hq, hp, List.take_add_one, List.flatMap_append, List.append_assoc]
        congr 2
        have : L[i]? = some x := by
          rw [← hx, List.getD_eq_getElem?_getD, List.getElem?_eq_getElem hlt]
          rfl
        rw [this]
        simp [lnP]
      clear hp
      have hi64 : i < 64 := by omega
      refine sS_ ?_
      refine R.ix ttok i rfl rfl rfl rfl rfl (by kernel_rfl) rfl hlt ⟨by omega, by omega⟩ rfl ?_
      refine R.ldo (v := .agg (insA x)) ttok rfl rfl rfl (by rw [hA]; rfl) rfl (by kernel_rfl) hlt ?_
      refine sS_ ?_
      refine C.loop (σ := Nat × List UInt8 × Nat) (L2 := 28) (fun s => s.1 ≤ 16 ∧ s.2.1 = p ++ (shL.take s.1).flatMap (lnS x) ∧ s.2.1.length ≤ 100 + i * 100000 + s.1 * 6000 ∧ s.2.1.length ≤ s.2.2 ∧ s.2.2 ≤ 9223372036854775807) (fun s => [(6, .sl 24 3 0 16 16), (7, .ptr 25 0 0 0), (9, .ptr 27 0 0 0), (34, .sl 0 8 o L.length cp), (35, .raw (.int .i64 (L.length : Nat))), (36, .raw (.int .i64 (i : Nat))), (40, .sl 24 3 0 16 16), (41, .raw (.int .i64 16)), (42, .raw (.int .i64 (s.1 : Nat)))])
        (fun s => [(0, roI o L), (1, .cells (prA nm ar (.sl 0 8 o L.length cp)) 25), (2, one0 (.fn 41 [])), (3, one0 (.fn 44 [])), (4, one0 (.fn 45 [])), (5, one0 (.fn 42 [])), (6, one0 (.fn 41 [])), (7, roSg), (8, one0 (.sl 7 1 0 7 7)), (9, roK2 [.a, .v]), (10, roK2 [.a, .n]), (11, roK2 [.a, .b]), (12, roK2 [.a, .b]), (13, roK2 [.a, .b]), (14, roK2 [.a]), (15, roK2 [.a]), (16, roK2 [.a, .b, .c]), (17, roK2 [.a, .b, .c]), (18, roK2 [.a, .b, .c]), (19, roK2 [.a, .b, .c]), (20, roK2 [.b, .s, .c]), (21, roK2 [.k, .b, .s, .c]), (22, roK2 [.a, .b, .c, .n]), (23, roK2 [.a, .b, .c, .n]), (24, roSh2), (25, .cells [.ptr 25 0 0 0, .sl 26 1 0 s.2.1.length s.2.2] bldT), (26, .bytes s.2.1 s.2.2 5), (27, insO x)]) _ (fun s => 16 - s.1) [] (0, p, c) ⟨Nat.zero_le _, by simp, hpl, hc, hc'⟩ rfl hS12_ hS1_ rfl (fun _ h => h) ?_
      clear hpl hc hc'
      rintro ⟨j, q, c⟩ ⟨hj, hq, hql, hc, hc'⟩
      dsimp only at hj hq hql hc hc' ⊢
      refine sS_ ?_
      by_cases hjl : j < 16
      · rw [decide_eq_true (show ((j : Nat) : Int) < 16 by omega)]
        repeat (first | refine C.seq ?_ | refine R.zb ttok ?_ | refine R.zu ttok ?_ | refine R.zc ttok ?_ | refine R.za ttok ?_ | refine R.zx ?_ | refine R.zl ttok ?_ | refine R.zs ttok ?_ | refine R.z ttok ?_ | refine R.zk ?_ | refine R.zn ?_ | refine R.done ?_ | refine X.then ?_ | refine C.block ?_ | refine C.ret ?_ | refine C.skip ?_ | refine C.exit ?_ | refine X.pass_ret ?_ | refine X.pass_exit ?_ | refine X.block_normal ?_ | refine X.block_ret ?_ | refine X.block_exit ?_ | refine C.zt ?_ | refine C.zf ?_ | refine X.zo ?_)
        refine C.cuts (σ := Sh) 30 (fun s => shL[j]? = some s) (fun s => [(6, .sl 24 3 0 16 16), (7, .ptr 25 0 0 0), (9, .ptr 27 0 0 0), (11, .ptr 28 0 0 0), (34, .sl 0 8 o L.length cp), (35, .raw (.int .i64 (L.length : Nat))), (36, .raw (.int .i64 (i : Nat))), (40, .sl 24 3 0 16 16), (41, .raw (.int .i64 16)), (42, .raw (.int .i64 (j : Nat)))])
          (fun s => [(0, roI o L), (1, .cells (prA nm ar (.sl 0 8 o L.length cp)) 25), (2, one0 (.fn 41 [])), (3, one0 (.fn 44 [])), (4, one0 (.fn 45 [])), (5, one0 (.fn 42 [])), (6, one0 (.fn 41 [])), (7, roSg), (8, one0 (.sl 7 1 0 7 7)), (9, roK2 [.a, .v]), (10, roK2 [.a, .n]), (11, roK2 [.a, .b]), (12, roK2 [.a, .b]), (13, roK2 [.a, .b]), (14, roK2 [.a]), (15, roK2 [.a]), (16, roK2 [.a, .b, .c]), (17, roK2 [.a, .b, .c]), (18, roK2 [.a, .b, .c]), (19, roK2 [.a, .b, .c]), (20, roK2 [.b, .s, .c]), (21, roK2 [.k, .b, .s, .c]), (22, roK2 [.a, .b, .c, .n]), (23, roK2 [.a, .b, .c, .n]), (24, roSh2), (25, .cells [.ptr 25 0 0 0, .sl 26 1 0 q.length c] bldT), (26, .bytes q c 5), (27, insO x), (28, .cells [.raw (.string s.w), .raw (.int .i64 (s.op : Nat)), .sl 29 2 0 s.f.length s.f.length] shpT), (29, roK2 s.f)]) ?_ ?_
        · refine sS_ ?_
          refine R.ix ttok j rfl rfl rfl rfl rfl (by kernel_rfl) rfl hjl ⟨Nat.zero_le _, by omega⟩ rfl ?_
          by_cases e0 : j = 0
          · subst e0
            refine R.ldo (v := .agg [.raw (.string ⟨#[115, 101, 116]⟩), .raw (.int .i64 1), .sl 9 2 0 2 2]) ttok rfl rfl rfl rfl rfl (by kernel_rfl) (by decide) ?_
            refine sS_ ?_
            exact X.backR [(29, 9)] ⟨⟨#[115, 101, 116]⟩, 1, [.a, .v]⟩ rfl Nat.zero_lt_one rfl hS12_ hS1_ rfl (fun _ h => h)
          by_cases e1 : j = 1
          · subst e1
            refine R.ldo (v := .agg [.raw (.string ⟨#[97, 114, 103]⟩), .raw (.int .i64 2), .sl 10 2 0 2 2]) ttok rfl rfl rfl rfl rfl (by kernel_rfl) (by decide) ?_
            refine sS_ ?_
            exact X.backR [(29, 10)] ⟨⟨#[97, 114, 103]⟩, 2, [.a, .n]⟩ rfl Nat.zero_lt_one rfl hS12_ hS1_ rfl (fun _ h => h)
          by_cases e2 : j = 2
          · subst e2
            refine R.ldo (v := .agg [.raw (.string ⟨#[103, 101, 116]⟩), .raw (.int .i64 3), .sl 11 2 0 2 2]) ttok rfl rfl rfl rfl rfl (by kernel_rfl) (by decide) ?_
            refine sS_ ?_
            exact X.backR [(29, 11)] ⟨⟨#[103, 101, 116]⟩, 3, [.a, .b]⟩ rfl Nat.zero_lt_one rfl hS12_ hS1_ rfl (fun _ h => h)
          by_cases e3 : j = 3
          · subst e3
            refine R.ldo (v := .agg [.raw (.string ⟨#[110, 101, 120, 116]⟩), .raw (.int .i64 14), .sl 12 2 0 2 2]) ttok rfl rfl rfl rfl rfl (by kernel_rfl) (by decide) ?_
            refine sS_ ?_
            exact X.backR [(29, 12)] ⟨⟨#[110, 101, 120, 116]⟩, 14, [.a, .b]⟩ rfl Nat.zero_lt_one rfl hS12_ hS1_ rfl (fun _ h => h)
          by_cases e4 : j = 4
          · subst e4
            refine R.ldo (v := .agg [.raw (.string ⟨#[112, 117, 116]⟩), .raw (.int .i64 4), .sl 13 2 0 2 2]) ttok rfl rfl rfl rfl rfl (by kernel_rfl) (by decide) ?_
            refine sS_ ?_
            exact X.backR [(29, 13)] ⟨⟨#[112, 117, 116]⟩, 4, [.a, .b]⟩ rfl Nat.zero_lt_one rfl hS12_ hS1_ rfl (fun _ h => h)
          by_cases e5 : j = 5
          · subst e5
            refine R.ldo (v := .agg [.raw (.string ⟨#[100, 101, 108]⟩), .raw (.int .i64 5), .sl 14 2 0 1 1]) ttok rfl rfl rfl rfl rfl (by kernel_rfl) (by decide) ?_
            refine sS_ ?_
            exact X.backR [(29, 14)] ⟨⟨#[100, 101, 108]⟩, 5, [.a]⟩ rfl Nat.zero_lt_one rfl hS12_ hS1_ rfl (fun _ h => h)
          by_cases e6 : j = 6
          · subst e6
            refine R.ldo (v := .agg [.raw (.string ⟨#[116, 101, 108, 108]⟩), .raw (.int .i64 15), .sl 15 2 0 1 1]) ttok rfl rfl rfl rfl rfl (by kernel_rfl) (by decide) ?_
            refine sS_ ?_
            exact X.backR [(29, 15)] ⟨⟨#[116, 101, 108, 108]⟩, 15, [.a]⟩ rfl Nat.zero_lt_one rfl hS12_ hS1_ rfl (fun _ h => h)
          by_cases e7 : j = 7
          · subst e7
            refine R.ldo (v := .agg [.raw (.string ⟨#[97, 100, 100]⟩), .raw (.int .i64 6), .sl 16 2 0 3 3]) ttok rfl rfl rfl rfl rfl (by kernel_rfl) (by decide) ?_
            refine sS_ ?_
            exact X.backR [(29, 16)] ⟨⟨#[97, 100, 100]⟩, 6, [.a, .b, .c]⟩ rfl Nat.zero_lt_one rfl hS12_ hS1_ rfl (fun _ h => h)
          by_cases e8 : j = 8
          · subst e8
            refine R.ldo (v := .agg [.raw (.string ⟨#[115, 117, 98]⟩), .raw (.int .i64 7), .sl 17 2 0 3 3]) ttok rfl rfl rfl rfl rfl (by kernel_rfl) (by decide) ?_
            refine sS_ ?_
            exact X.backR [(29, 17)] ⟨⟨#[115, 117, 98]⟩, 7, [.a, .b, .c]⟩ rfl Nat.zero_lt_one rfl hS12_ hS1_ rfl (fun _ h => h)
          by_cases e9 : j = 9
          · subst e9
            refine R.ldo (v := .agg [.raw (.string ⟨#[109, 117, 108]⟩), .raw (.int .i64 8), .sl 18 2 0 3 3]) ttok rfl rfl rfl rfl rfl (by kernel_rfl) (by decide) ?_
            refine sS_ ?_
            exact X.backR [(29, 18)] ⟨⟨#[109, 117, 108]⟩, 8, [.a, .b, .c]⟩ rfl Nat.zero_lt_one rfl hS12_ hS1_ rfl (fun _ h => h)
          by_cases e10 : j = 10
          · subst e10
            refine R.ldo (v := .agg [.raw (.string ⟨#[106, 111, 105, 110]⟩), .raw (.int .i64 9), .sl 19 2 0 3 3]) ttok rfl rfl rfl rfl rfl (by kernel_rfl) (by decide) ?_
            refine sS_ ?_
            exact X.backR [(29, 19)] ⟨⟨#[106, 111, 105, 110]⟩, 9, [.a, .b, .c]⟩ rfl Nat.zero_lt_one rfl hS12_ hS1_ rfl (fun _ h => h)
          by_cases e11 : j = 11
          · subst e11
            refine R.ldo (v := .agg [.raw (.string ⟨#[110, 101, 101, 100]⟩), .raw (.int .i64 10), .sl 20 2 0 3 3]) ttok rfl rfl rfl rfl rfl (by kernel_rfl) (by decide) ?_
            refine sS_ ?_
            exact X.backR [(29, 20)] ⟨⟨#[110, 101, 101, 100]⟩, 10, [.b, .s, .c]⟩ rfl Nat.zero_lt_one rfl hS12_ hS1_ rfl (fun _ h => h)
          by_cases e12 : j = 12
          · subst e12
            refine R.ldo (v := .agg [.raw (.string ⟨#[115, 107, 105, 112]⟩), .raw (.int .i64 11), .sl 21 2 0 4 4]) ttok rfl rfl rfl rfl rfl (by kernel_rfl) (by decide) ?_
            refine sS_ ?_
            exact X.backR [(29, 21)] ⟨⟨#[115, 107, 105, 112]⟩, 11, [.k, .b, .s, .c]⟩ rfl Nat.zero_lt_one rfl hS12_ hS1_ rfl (fun _ h => h)
          by_cases e13 : j = 13
          · subst e13
            refine R.ldo (v := .agg [.raw (.string ⟨#[115, 117, 109]⟩), .raw (.int .i64 12), .sl 22 2 0 4 4]) ttok rfl rfl rfl rfl rfl (by kernel_rfl) (by decide) ?_
            refine sS_ ?_
            exact X.backR [(29, 22)] ⟨⟨#[115, 117, 109]⟩, 12, [.a, .b, .c, .n]⟩ rfl Nat.zero_lt_one rfl hS12_ hS1_ rfl (fun _ h => h)
          by_cases e14 : j = 14
          · subst e14
            refine R.ldo (v := .agg [.raw (.string ⟨#[99, 111, 117, 110, 116]⟩), .raw (.int .i64 13), .sl 23 2 0 4 4]) ttok rfl rfl rfl rfl rfl (by kernel_rfl) (by decide) ?_
            refine sS_ ?_
            exact X.backR [(29, 23)] ⟨⟨#[99, 111, 117, 110, 116]⟩, 13, [.a, .b, .c, .n]⟩ rfl Nat.zero_lt_one rfl hS12_ hS1_ rfl (fun _ h => h)
          obtain rfl : j = 15 := by omega
          refine R.ldo (v := .agg [.raw (.string ⟨#[115, 116, 111, 112]⟩), .raw (.int .i64 16), .raw (.slice none 0 0)]) ttok rfl rfl rfl rfl rfl (by kernel_rfl) (by decide) ?_
          refine sS_ ?_
          refine X.noneH 28 [.raw (.string ⟨#[115, 116, 111, 112]⟩), .raw (.int .i64 16), .sl 29 2 0 0 0] (.tab 2 0 0 (fkF2 []) fldT) (none_tab _ _ _ _) rfl rfl rfl (fun ρ h => by
            have h : ρ 29 = none := h
            show _ = AV.concs ρ [.raw (.string ⟨#[115, 116, 111, 112]⟩), .raw (.int .i64 16), .raw (.slice none 0 0)]
            simp [AV.concs, AV.conc, h]) ?_
          exact X.backR [] ⟨⟨#[115, 116, 111, 112]⟩, 16, []⟩ rfl Nat.zero_lt_one rfl hS12_ hS1_ rfl (fun _ h => h)
        · rintro s hs
          obtain ⟨hw5, hsv, hss⟩ := sh_word hs
          have hl4 := sh_len hs
          have hqn : ∀ q', q' = q ++ lnS x s → q' = p ++ (shL.take (j + 1)).flatMap (lnS x) := fun q' h => by
            rw [h, hq, List.take_add_one, hs, List.flatMap_append, List.append_assoc]
            simp
          clear hq
          refine sS_ ?_
          by_cases hop : ((s.op : Nat) : Int) = x.o
          · rw [decide_eq_false (show ¬ ((s.op : Nat) : Int) ≠ x.o from fun h => h hop)]
            have hln : lnS x s = lineS s x := if_pos hop
            rw [hln] at hqn
            refine sS_ ?_
            refine R.cat rfl rfl rfl (by kernel_rfl) (by rw [← strB_size s.w]; show 2 + (strB s.w).length ≤ _; omega) ?_
            rw [show (⟨#[32, 32]⟩ : ByteArray) ++ s.w = _ from cat1 [32, 32] s.w]
            have hsl : ([32, 32] ++ strB s.w).length ≤ 7 := by rw [List.length_append]; show 2 + _ ≤ 7; omega
            obtain ⟨tl, htl⟩ : ∃ tl, [32, 32] ++ strB s.w = tl := ⟨_, rfl⟩
            rw [htl] at hsl ⊢
            refine R.cl [25, 26] (write_spec q c (strOf tl) hc' (by rw [strOf_size]; omega)) Tryz.call30 hS11_ rfl rfl rfl (fun _ => rfl) rfl (by kernel_rfl) fun c1 hc1 => ?_
            rw [show strB (strOf tl) = tl from rfl] at hc1 ⊢
            obtain ⟨hc1, hc1'⟩ := hc1
            have hq1 : (q ++ tl).length ≤ 100 + i * 100000 + j * 6000 + 10 := by rw [List.length_append]; omega
            have hq1q : q ++ tl ++ s.f.flatMap (fun k => 32 :: k.wr x) ++ [10] = q ++ lineS s x := by
              unfold lineS
              rw [htl]
              simp
            rw [← hq1q] at hqn
            clear hq1q
            obtain ⟨q1, hq1e⟩ : ∃ q1, q ++ tl = q1 := ⟨_, rfl⟩
            rw [hq1e] at hq1 hc1 hqn ⊢
            refine sS_ ?_
            refine C.loop (σ := Nat × List UInt8 × Nat) (L2 := 31) (fun y => y.1 ≤ s.f.length ∧ y.2.1 = q1 ++ (s.f.take y.1).flatMap (fun k => 32 :: k.wr x) ∧ y.2.1.length ≤ 100 + i * 100000 + j * 6000 + 10 + y.1 * 1100 ∧ y.2.1.length ≤ y.2.2 ∧ y.2.2 ≤ 9223372036854775807)
              (fun y => [(6, .sl 24 3 0 16 16), (7, .ptr 25 0 0 0), (9, .ptr 27 0 0 0), (34, .sl 0 8 o L.length cp), (35, .raw (.int .i64 (L.length : Nat))), (36, .raw (.int .i64 (i : Nat))), (40, .sl 24 3 0 16 16), (41, .raw (.int .i64 16)), (42, .raw (.int .i64 (j : Nat))), (56, .sl 29 2 0 s.f.length s.f.length), (57, .raw (.int .i64 (s.f.length : Nat))), (58, .raw (.int .i64 (y.1 : Nat)))])
              (fun y => [(0, roI o L), (1, .cells (prA nm ar (.sl 0 8 o L.length cp)) 25), (2, one0 (.fn 41 [])), (3, one0 (.fn 44 [])), (4, one0 (.fn 45 [])), (5, one0 (.fn 42 [])), (6, one0 (.fn 41 [])), (7, roSg), (8, one0 (.sl 7 1 0 7 7)), (9, roK2 [.a, .v]), (10, roK2 [.a, .n]), (11, roK2 [.a, .b]), (12, roK2 [.a, .b]), (13, roK2 [.a, .b]), (14, roK2 [.a]), (15, roK2 [.a]), (16, roK2 [.a, .b, .c]), (17, roK2 [.a, .b, .c]), (18, roK2 [.a, .b, .c]), (19, roK2 [.a, .b, .c]), (20, roK2 [.b, .s, .c]), (21, roK2 [.k, .b, .s, .c]), (22, roK2 [.a, .b, .c, .n]), (23, roK2 [.a, .b, .c, .n]), (24, roSh2), (25, .cells [.ptr 25 0 0 0, .sl 30 1 0 y.2.1.length y.2.2] bldT), (27, insO x), (29, roK2 s.f), (30, .bytes y.2.1 y.2.2 5)]) _ (fun y => s.f.length - y.1) [] (0, q1, c1) ⟨Nat.zero_le _, by simp, hq1, hc1, hc1'⟩ rfl hS12_ hS1_ rfl (fun _ h => h) ?_
            clear hq1 hc1 hc1'
            rintro ⟨k, r, c⟩ ⟨hk, hr, hrl, hc, hc'⟩
            dsimp only at hk hr hrl hc hc' ⊢
            refine sS_ ?_
            by_cases hkl : k < s.f.length
            · rw [decide_eq_true (show ((k : Nat) : Int) < (s.f.length : Nat) by omega)]
              obtain ⟨fk, hfk⟩ : ∃ fk, s.f[k]? = some fk := ⟨_, List.getElem?_eq_getElem hkl⟩
              have hfm : fk ∈ s.f := List.mem_of_getElem? hfk
              have hB := fkF2_at hfk
              have hwl : (fk.wr x).length ≤ 1030 := wr_len hxI fk (fun hq => hxk.tx (by
                subst hq
                rw [hsv hfm] at hop
                omega))
              have hgo : ∀ r', r' = r ++ (32 :: fk.wr x) → r' = q1 ++ (s.f.take (k + 1)).flatMap (fun k => 32 :: k.wr x) := fun r' h => by
                rw [h, hr, List.take_add_one, hfk, List.flatMap_append, List.append_assoc]
                simp
              clear hr
              obtain ⟨hia, hib, hic, hin, hii⟩ := hxI
              cases fk with
              | a =>
                refine sS_ ?_
                refine R.ix ttok k rfl rfl rfl rfl rfl (by kernel_rfl) rfl hkl ⟨by omega, by omega⟩ rfl ?_
                refine R.ldo (v := .agg (FK.av2 .a)) ttok rfl rfl rfl (by rw [hB]; rfl) rfl (by kernel_rfl) hkl ?_
                refine sS_ ?_
                refine R.clR [2] (regA_write x hia fs hG) hG.ro Tryz.call88 hS11_ rfl rfl rfl (fun _ => rfl) rfl (by kernel_rfl) fun _ _ => ?_
                refine sS_ ?_
                refine R.cat rfl rfl rfl (by kernel_rfl) (by rw [strOf_size]; show 1 + _ ≤ _; omega) ?_
                rw [show (⟨#[32]⟩ : ByteArray) ++ strOf (FK.wr x .a) = strOf (32 :: FK.wr x .a) from cat1 [32] _]
                refine R.cl [25, 30] (write_spec r c (strOf (32 :: FK.wr x .a)) hc' (by rw [strOf_size, List.length_cons]; omega)) Tryz.call30 hS11_ rfl rfl rfl (fun _ => rfl) rfl (by kernel_rfl) fun c2 hc2 => ?_
                rw [show strB (strOf (32 :: FK.wr x .a)) = 32 :: FK.wr x .a from rfl] at hc2 ⊢
                have hr2 : (r ++ 32 :: FK.wr x .a).length ≤ 100 + i * 100000 + j * 6000 + 10 + (k + 1) * 1100 := by rw [List.length_append, List.length_cons]; omega
                refine sS_ ?_
                exact X.back [(30, 32)] (k + 1, r ++ 32 :: FK.wr x .a, c2) ⟨hkl, hgo _ rfl, hr2, hc2.1, hc2.2⟩ (by dsimp only; omega) rfl hS12_ hS1_ rfl (fun _ h => h)
              | b =>
                refine sS_ ?_
                refine R.ix ttok k rfl rfl rfl rfl rfl (by kernel_rfl) rfl hkl ⟨by omega, by omega⟩ rfl ?_
                refine R.ldo (v := .agg (FK.av2 .b)) ttok rfl rfl rfl (by rw [hB]; rfl) rfl (by kernel_rfl) hkl ?_
                refine sS_ ?_
                refine R.clR [3] (regB_write x hib fs hG) hG.ro Tryz.call88 hS11_ rfl rfl rfl (fun _ => rfl) rfl (by kernel_rfl) fun _ _ => ?_
                refine sS_ ?_
                refine R.cat rfl rfl rfl (by kernel_rfl) (by rw [strOf_size]; show 1 + _ ≤ _; omega) ?_
                rw [show (⟨#[32]⟩ : ByteArray) ++ strOf (FK.wr x .b) = strOf (32 :: FK.wr x .b) from cat1 [32] _]
                refine R.cl [25, 30] (write_spec r c (strOf (32 :: FK.wr x .b)) hc' (by rw [strOf_size, List.length_cons]; omega)) Tryz.call30 hS11_ rfl rfl rfl (fun _ => rfl) rfl (by kernel_rfl) fun c2 hc2 => ?_
                rw [show strB (strOf (32 :: FK.wr x .b)) = 32 :: FK.wr x .b from rfl] at hc2 ⊢
                have hr2 : (r ++ 32 :: FK.wr x .b).length ≤ 100 + i * 100000 + j * 6000 + 10 + (k + 1) * 1100 := by rw [List.length_append, List.length_cons]; omega
                refine sS_ ?_
                exact X.back [(30, 32)] (k + 1, r ++ 32 :: FK.wr x .b, c2) ⟨hkl, hgo _ rfl, hr2, hc2.1, hc2.2⟩ (by dsimp only; omega) rfl hS12_ hS1_ rfl (fun _ h => h)
              | c =>
                refine sS_ ?_
                refine R.ix ttok k rfl rfl rfl rfl rfl (by kernel_rfl) rfl hkl ⟨by omega, by omega⟩ rfl ?_
                refine R.ldo (v := .agg (FK.av2 .c)) ttok rfl rfl rfl (by rw [hB]; rfl) rfl (by kernel_rfl) hkl ?_
                refine sS_ ?_
                refine R.clR [4] (regC_write x hic fs hG) hG.ro Tryz.call88 hS11_ rfl rfl rfl (fun _ => rfl) rfl (by kernel_rfl) fun _ _ => ?_
                refine sS_ ?_
                refine R.cat rfl rfl rfl (by kernel_rfl) (by rw [strOf_size]; show 1 + _ ≤ _; omega) ?_
                rw [show (⟨#[32]⟩ : ByteArray) ++ strOf (FK.wr x .c) = strOf (32 :: FK.wr x .c) from cat1 [32] _]
                refine R.cl [25, 30] (write_spec r c (strOf (32 :: FK.wr x .c)) hc' (by rw [strOf_size, List.length_cons]; omega)) Tryz.call30 hS11_ rfl rfl rfl (fun _ => rfl) rfl (by kernel_rfl) fun c2 hc2 => ?_
                rw [show strB (strOf (32 :: FK.wr x .c)) = 32 :: FK.wr x .c from rfl] at hc2 ⊢
                have hr2 : (r ++ 32 :: FK.wr x .c).length ≤ 100 + i * 100000 + j * 6000 + 10 + (k + 1) * 1100 := by rw [List.length_append, List.length_cons]; omega
                refine sS_ ?_
                exact X.back [(30, 32)] (k + 1, r ++ 32 :: FK.wr x .c, c2) ⟨hkl, hgo _ rfl, hr2, hc2.1, hc2.2⟩ (by dsimp only; omega) rfl hS12_ hS1_ rfl (fun _ h => h)
              | n =>
                refine sS_ ?_
                refine R.ix ttok k rfl rfl rfl rfl rfl (by kernel_rfl) rfl hkl ⟨by omega, by omega⟩ rfl ?_
                refine R.ldo (v := .agg (FK.av2 .n)) ttok rfl rfl rfl (by rw [hB]; rfl) rfl (by kernel_rfl) hkl ?_
                refine sS_ ?_
                refine R.clR [5] (plainN_write x hin fs hG) hG.ro Tryz.call90 hS11_ rfl rfl rfl (fun _ => rfl) rfl (by kernel_rfl) fun _ _ => ?_
                refine sS_ ?_
                refine R.cat rfl rfl rfl (by kernel_rfl) (by rw [strOf_size]; show 1 + _ ≤ _; omega) ?_
                rw [show (⟨#[32]⟩ : ByteArray) ++ strOf (FK.wr x .n) = strOf (32 :: FK.wr x .n) from cat1 [32] _]
                refine R.cl [25, 30] (write_spec r c (strOf (32 :: FK.wr x .n)) hc' (by rw [strOf_size, List.length_cons]; omega)) Tryz.call30 hS11_ rfl rfl rfl (fun _ => rfl) rfl (by kernel_rfl) fun c2 hc2 => ?_
                rw [show strB (strOf (32 :: FK.wr x .n)) = 32 :: FK.wr x .n from rfl] at hc2 ⊢
                have hr2 : (r ++ 32 :: FK.wr x .n).length ≤ 100 + i * 100000 + j * 6000 + 10 + (k + 1) * 1100 := by rw [List.length_append, List.length_cons]; omega
                refine sS_ ?_
                exact X.back [(30, 32)] (k + 1, r ++ 32 :: FK.wr x .n, c2) ⟨hkl, hgo _ rfl, hr2, hc2.1, hc2.2⟩ (by dsimp only; omega) rfl hS12_ hS1_ rfl (fun _ h => h)
              | k =>
                refine sS_ ?_
                refine R.ix ttok k rfl rfl rfl rfl rfl (by kernel_rfl) rfl hkl ⟨by omega, by omega⟩ rfl ?_
                refine R.ldo (v := .agg (FK.av2 .k)) ttok rfl rfl rfl (by rw [hB]; rfl) rfl (by kernel_rfl) hkl ?_
                refine sS_ ?_
                refine R.clR [6] (plainA_write x hia fs hG) hG.ro Tryz.call90 hS11_ rfl rfl rfl (fun _ => rfl) rfl (by kernel_rfl) fun _ _ => ?_
                refine sS_ ?_
                refine R.cat rfl rfl rfl (by kernel_rfl) (by rw [strOf_size]; show 1 + _ ≤ _; omega) ?_
                rw [show (⟨#[32]⟩ : ByteArray) ++ strOf (FK.wr x .k) = strOf (32 :: FK.wr x .k) from cat1 [32] _]
                refine R.cl [25, 30] (write_spec r c (strOf (32 :: FK.wr x .k)) hc' (by rw [strOf_size, List.length_cons]; omega)) Tryz.call30 hS11_ rfl rfl rfl (fun _ => rfl) rfl (by kernel_rfl) fun c2 hc2 => ?_
                rw [show strB (strOf (32 :: FK.wr x .k)) = 32 :: FK.wr x .k from rfl] at hc2 ⊢
                have hr2 : (r ++ 32 :: FK.wr x .k).length ≤ 100 + i * 100000 + j * 6000 + 10 + (k + 1) * 1100 := by rw [List.length_append, List.length_cons]; omega
                refine sS_ ?_
                exact X.back [(30, 32)] (k + 1, r ++ 32 :: FK.wr x .k, c2) ⟨hkl, hgo _ rfl, hr2, hc2.1, hc2.2⟩ (by dsimp only; omega) rfl hS12_ hS1_ rfl (fun _ h => h)
              | s =>
                have hsg := hxk.sg (by rcases hss hfm with h | h <;> rw [h] at hop <;> omega)
                refine sS_ ?_
                refine R.ix ttok k rfl rfl rfl rfl rfl (by kernel_rfl) rfl hkl ⟨by omega, by omega⟩ rfl ?_
                refine R.ldo (v := .agg (FK.av2 .s)) ttok rfl rfl rfl (by rw [hB]; rfl) rfl (by kernel_rfl) hkl ?_
                refine sS_ ?_
                refine R.cl [8, 7] (sign_write x (by omega)) Tryz.call48 hS11_ rfl rfl rfl (fun _ => rfl) rfl (by kernel_rfl) fun _ _ => ?_
                refine sS_ ?_
                refine R.cat rfl rfl rfl (by kernel_rfl) (by rw [strOf_size]; show 1 + _ ≤ _; omega) ?_
                rw [show (⟨#[32]⟩ : ByteArray) ++ strOf (FK.wr x .s) = strOf (32 :: FK.wr x .s) from cat1 [32] _]
                refine R.cl [25, 30] (write_spec r c (strOf (32 :: FK.wr x .s)) hc' (by rw [strOf_size, List.length_cons]; omega)) Tryz.call30 hS11_ rfl rfl rfl (fun _ => rfl) rfl (by kernel_rfl) fun c2 hc2 => ?_
                rw [show strB (strOf (32 :: FK.wr x .s)) = 32 :: FK.wr x .s from rfl] at hc2 ⊢
                have hr2 : (r ++ 32 :: FK.wr x .s).length ≤ 100 + i * 100000 + j * 6000 + 10 + (k + 1) * 1100 := by rw [List.length_append, List.length_cons]; omega
                refine sS_ ?_
                exact X.back [(30, 32)] (k + 1, r ++ 32 :: FK.wr x .s, c2) ⟨hkl, hgo _ rfl, hr2, hc2.1, hc2.2⟩ (by dsimp only; omega) rfl hS12_ hS1_ rfl (fun _ h => h)
              | v =>
                have htx := hxk.tx (by rw [hsv hfm] at hop; omega)
                refine sS_ ?_
                refine R.ix ttok k rfl rfl rfl rfl rfl (by kernel_rfl) rfl hkl ⟨by omega, by omega⟩ rfl ?_
                refine R.ldo (v := .agg (FK.av2 .v)) ttok rfl rfl rfl (by rw [hB]; rfl) rfl (by kernel_rfl) hkl ?_
                refine sS_ ?_
                refine R.clR [] (value_write x hii (by omega) fs hG) hG.ro Tryz.call51 hS11_ rfl rfl rfl (fun _ => rfl) rfl (by kernel_rfl) fun _ _ => ?_
                refine sS_ ?_
                refine R.cat rfl rfl rfl (by kernel_rfl) (by rw [strOf_size]; show 1 + _ ≤ _; omega) ?_
                rw [show (⟨#[32]⟩ : ByteArray) ++ strOf (FK.wr x .v) = strOf (32 :: FK.wr x .v) from cat1 [32] _]
                refine R.cl [25, 30] (write_spec r c (strOf (32 :: FK.wr x .v)) hc' (by rw [strOf_size, List.length_cons]; omega)) Tryz.call30 hS11_ rfl rfl rfl (fun _ => rfl) rfl (by kernel_rfl) fun c2 hc2 => ?_
                rw [show strB (strOf (32 :: FK.wr x .v)) = 32 :: FK.wr x .v from rfl] at hc2 ⊢
                have hr2 : (r ++ 32 :: FK.wr x .v).length ≤ 100 + i * 100000 + j * 6000 + 10 + (k + 1) * 1100 := by rw [List.length_append, List.length_cons]; omega
                refine sS_ ?_
                exact X.back [(30, 32)] (k + 1, r ++ 32 :: FK.wr x .v, c2) ⟨hkl, hgo _ rfl, hr2, hc2.1, hc2.2⟩ (by dsimp only; omega) rfl hS12_ hS1_ rfl (fun _ h => h)
            · rw [decide_eq_false (show ¬ ((k : Nat) : Int) < (s.f.length : Nat) by omega)]
              rw [List.take_of_length_le (by omega : s.f.length ≤ k)] at hr
              have hk4 : k ≤ 4 := by omega
              refine sS_ ?_
              refine R.cl [25, 30] (write_spec r c ⟨#[10]⟩ hc' (by show r.length + 1 ≤ _; omega)) Tryz.call30 hS11_ rfl rfl rfl (fun _ => rfl) rfl (by kernel_rfl) fun c2 hc2 => ?_
              rw [show strB ⟨#[10]⟩ = [10] from rfl] at hc2 ⊢
              have hql2 : (r ++ [10]).length ≤ 100 + i * 100000 + (j + 1) * 6000 := by rw [List.length_append]; show _ + 1 ≤ _; omega
              obtain ⟨q2, hq2⟩ : ∃ q2, r ++ [10] = q2 := ⟨_, rfl⟩
              have hq3 := hqn q2 (by rw [← hq2, hr])
              rw [hq2] at hc2 hql2 ⊢
              refine sS_ ?_
              exact X.back [(26, 31)] (j + 1, q2, c2) ⟨hjl, hq3, hql2, hc2.1, hc2.2⟩ (by dsimp only; omega) rfl hS12_ hS1_ rfl (fun _ h => h)
          · rw [decide_eq_true (show ((s.op : Nat) : Int) ≠ x.o from hop)]
            have hq3 := hqn q (by unfold lnS; rw [if_neg hop, List.append_nil])
            refine sS_ ?_
            exact X.back [] (j + 1, q, c) ⟨hjl, hq3, by dsimp only; omega, hc, hc'⟩ (by dsimp only; omega) rfl hS12_ hS1_ rfl (fun _ h => h)
      · rw [decide_eq_false (show ¬ ((j : Nat) : Int) < 16 by omega)]
        obtain rfl : j = 16 := by omega
        have hq3 := hnext q hq
        refine sS_ ?_
        exact X.back [] (i + 1, q, c) ⟨hlt, hq3, by dsimp only; omega, hc, hc'⟩ (by dsimp only; omega) rfl hS12_ hS1_ rfl (fun _ h => h)
    · rw [decide_eq_false (show ¬ ((i : Nat) : Int) < (L.length : Nat) by omega)]
      rw [List.take_of_length_le (by omega : L.length ≤ i)] at hp
      refine sS_ ?_
      refine R.cl [25, 26] (write_spec p c ⟨#[101, 110, 100, 10]⟩ hc' (by show p.length + 4 ≤ _; omega)) Tryz.call30 hS11_ rfl rfl rfl (fun _ => rfl) rfl (by kernel_rfl) fun c2 hc2 => ?_
      rw [show strB ⟨#[101, 110, 100, 10]⟩ = [101, 110, 100, 10] from rfl] at hc2 ⊢
      have hq2l : (p ++ [101, 110, 100, 10]).length = p.length + 4 := by rw [List.length_append]; rfl
      have hpr : p ++ [101, 110, 100, 10] = printP nm ar L := by unfold printP; rw [hp, hhd]
      rw [hpr] at hq2l hc2 ⊢
      obtain ⟨out, hout⟩ : ∃ out, printP nm ar L = out := ⟨_, rfl⟩
      rw [hout] at hq2l hc2 ⊢
      refine sS_ ?_
      refine R.cl [25, 27] (bstring_spec out c2 (by intro h; rw [h] at hq2l; cases hq2l) hc2.1 (by omega)) Tryz.call32 hS11_ rfl rfl rfl (fun _ => rfl) rfl (by kernel_rfl) fun _ _ => ?_
      refine sS_ ?_
      refine X.finF ttok () [] trivial rfl rfl rfl hS7_ _ (by first | exact .inl rfl | exact .inr rfl) ?_ ?_ ?_
      · exact fun w' hf => hf.ap
      · exact fun p hp => hp
      · exact fun p hp e => ⟨p, hp, rfl⟩
  · rw [if_neg h0, decide_eq_true (show e ≠ 0 from h0)]
    refine sS_ ?_
    refine X.finF ttok () [] trivial rfl rfl rfl hS7_ _ (by first | exact .inl rfl | exact .inr rfl) ?_ ?_ ?_
    · exact fun w' hf => hf.ap
    · exact fun p hp => hp
    · exact fun p hp e => ⟨p, hp, rfl⟩
end Go.Proofs.YtaieficgifingaaGreatDoor
namespace Go.Proofs.YtaieficgifingaaGreatDoor
set_option linter.unusedVariables false
set_option linter.unusedSimpArgs false
open Go.RowKit
set_option maxRecDepth 100000
set_option maxHeartbeats 4000000
def hexI (c : UInt8) : Int := if hexB c = true then (hexV c : Nat) else -1
theorem hexR_spec (c : UInt8) : Spec Tryz.prog 105 [.raw (byteV c)] [] 0 (σ := Unit) (fun _ => True) (fun _ => .raw (.int .i64 (hexI c))) (fun _ => []) := by
  refine Spec.of Tryz.func105 rfl Tryz.ntmps105 rfl (bdl_nil _) fun ρ w => ?_
  have hc : c.toNat < 256 := c.toNat_lt
  unfold hexI byteV hexV hexB
  generalize c.toNat = m at hc ⊢
  refine sS_ ?_
  by_cases h1 : 48 ≤ m
  · rw [decide_eq_true (show (48 : Int) ≤ (m : Nat) by omega)]
    refine sS_ ?_
    by_cases h2 : m ≤ 57
    · rw [decide_eq_true (show ((m : Nat) : Int) ≤ 57 by omega)]
      refine sS_ ?_
      rw [decide_eq_true (show 48 ≤ m ∧ m ≤ 57 from ⟨h1, h2⟩), Bool.true_or, if_pos rfl, if_pos (show 48 ≤ m ∧ m ≤ 57 from ⟨h1, h2⟩), show (((m - 48 : Nat)) : Int) = (m : Int) - 48 by omega]
      refine X.fin ttok () [] trivial rfl rfl rfl hS7_ _ (by first | exact .inl rfl | exact .inr rfl)
    · rw [decide_eq_false (show ¬ ((m : Nat) : Int) ≤ 57 by omega)]
      have hn : ¬ (48 ≤ m ∧ m ≤ 57) := by omega
      rw [decide_eq_false hn]
      refine sS_ ?_
      by_cases h3 : 97 ≤ m
      · rw [decide_eq_true (show (97 : Int) ≤ (m : Nat) by omega)]
        refine sS_ ?_
        by_cases h4 : m ≤ 102
        · rw [decide_eq_true (show ((m : Nat) : Int) ≤ 102 by omega)]
          refine sS_ ?_
          rw [decide_eq_true (show 97 ≤ m ∧ m ≤ 102 from ⟨h3, h4⟩), Bool.false_or, if_pos rfl, if_neg hn, if_pos (show 97 ≤ m ∧ m ≤ 102 from ⟨h3, h4⟩), show (((m - 87 : Nat)) : Int) = (m : Int) - 97 + 10 by omega]
          refine X.fin ttok () [] trivial rfl rfl rfl hS7_ _ (by first | exact .inl rfl | exact .inr rfl)
        · rw [decide_eq_false (show ¬ ((m : Nat) : Int) ≤ 102 by omega)]
          refine sS_ ?_
          rw [decide_eq_false (show ¬ (97 ≤ m ∧ m ≤ 102) by omega), Bool.false_or, if_neg (by decide)]
          refine X.fin ttok () [] trivial rfl rfl rfl hS7_ _ (by first | exact .inl rfl | exact .inr rfl)
      · rw [decide_eq_false (show ¬ (97 : Int) ≤ (m : Nat) by omega)]
        refine sS_ ?_
        rw [decide_eq_false (show ¬ (97 ≤ m ∧ m ≤ 102) by omega), Bool.false_or, if_neg (by decide)]
        refine X.fin ttok () [] trivial rfl rfl rfl hS7_ _ (by first | exact .inl rfl | exact .inr rfl)
  · rw [decide_eq_false (show ¬ (48 : Int) ≤ (m : Nat) by omega)]
    have hn : ¬ (48 ≤ m ∧ m ≤ 57) := by omega
    rw [decide_eq_false hn]
    refine sS_ ?_
    by_cases h3 : 97 ≤ m
    · rw [decide_eq_true (show (97 : Int) ≤ (m : Nat) by omega)]
      refine sS_ ?_
      by_cases h4 : m ≤ 102
      · rw [decide_eq_true (show ((m : Nat) : Int) ≤ 102 by omega)]
        refine sS_ ?_
        rw [decide_eq_true (show 97 ≤ m ∧ m ≤ 102 from ⟨h3, h4⟩), Bool.false_or, if_pos rfl, if_neg hn, if_pos (show 97 ≤ m ∧ m ≤ 102 from ⟨h3, h4⟩), show (((m - 87 : Nat)) : Int) = (m : Int) - 97 + 10 by omega]
        refine X.fin ttok () [] trivial rfl rfl rfl hS7_ _ (by first | exact .inl rfl | exact .inr rfl)
      · rw [decide_eq_false (show ¬ ((m : Nat) : Int) ≤ 102 by omega)]
        refine sS_ ?_
        rw [decide_eq_false (show ¬ (97 ≤ m ∧ m ≤ 102) by omega), Bool.false_or, if_neg (by decide)]
        refine X.fin ttok () [] trivial rfl rfl rfl hS7_ _ (by first | exact .inl rfl | exact .inr rfl)
    · rw [decide_eq_false (show ¬ (97 : Int) ≤ (m : Nat) by omega)]
      refine sS_ ?_
      rw [decide_eq_false (show ¬ (97 ≤ m ∧ m ≤ 102) by omega), Bool.false_or, if_neg (by decide)]
      refine X.fin ttok () [] trivial rfl rfl rfl hS7_ _ (by first | exact .inl rfl | exact .inr rfl)
end Go.Proofs.YtaieficgifingaaGreatDoor
namespace Go.Proofs.YtaieficgifingaaGreatDoor
set_option linter.unusedVariables false
set_option linter.unusedSimpArgs false
open Go.RowKit
set_option maxRecDepth 100000
set_option maxHeartbeats 4000000
def quotRV (l : List UInt8) (k : Nat) : ByteArray × Int := match quoteP [] (l.drop (k + 1)) with
  | some p => (strOf p.1, (l.length - p.2.length : Nat))
  | none => (⟨#[]⟩, -1)
theorem of16 {a b : Nat} (ha : a ≤ 15) (hb : b ≤ 15) : (16 * (a : Nat) + (b : Nat) : Int) = ((UInt8.ofNat (a * 16 + b)).toNat : Nat) := by
  rw [UInt8.toNat_ofNat']
  have : (a * 16 + b) % 2 ^ 8 = a * 16 + b := Nat.mod_eq_of_lt (by omega)
  rw [this]
  omega
theorem quotedR_spec (s : ByteArray) (k : Nat) (hk : k < s.size) (hs : s.size ≤ 1000000) : Spec Tryz.prog 61 [.raw (.string s), .raw (.int .i64 (k : Nat))] [] 0 (σ := Unit) (fun _ => True) (fun _ => .tup [.raw (.string (quotRV (strB s) k).1), .raw (.int .i64 (quotRV (strB s) k).2)]) (fun _ => []) := by
  refine Spec.of Tryz.func61 rfl Tryz.ntmps61 rfl (bdl_nil _) fun ρ w => ?_
  have hlen := strB_size s
  refine C.seq ?_
  refine C.region ?_
  repeat (first | refine R.zb ttok ?_ | refine R.zu ttok ?_ | refine R.zc ttok ?_ | refine R.za ttok ?_ | refine R.zx ?_ | refine R.zl ttok ?_ | refine R.zs ttok ?_ | refine R.z ttok ?_ | refine R.zk ?_ | refine R.zn ?_)
  refine R.done ?_
  refine X.then ?_
  refine C.seq ?_
  refine C.region ?_
  repeat (first | refine R.zb ttok ?_ | refine R.zu ttok ?_ | refine R.zc ttok ?_ | refine R.za ttok ?_ | refine R.zx ?_ | refine R.zl ttok ?_ | refine R.zs ttok ?_ | refine R.z ttok ?_ | refine R.zk ?_ | refine R.zn ?_)
  refine R.done ?_
  refine X.then ?_
  refine C.noneT 6 (.sl 0 1 0 0 0) (.bytes [] 0 5) (none_bytes _ _) rfl rfl rfl (fun ρ h => sl_none h) ?_
  refine sS_ ?_
  refine C.loop (σ := Nat × List UInt8 × Nat) (L2 := 1) (fun x => x.1 ≤ s.size ∧ x.2.1.length ≤ x.1 ∧ x.2.2 ≤ 9223372036854775807 ∧ quoteP [] ((strB s).drop (k + 1)) = quoteP x.2.1 ((strB s).drop x.1)) (fun x => [(0, .raw (.string s)), (6, .sl 0 1 0 x.2.1.length x.2.2), (7, .raw (.int .i64 (x.1 : Nat)))]) (fun x => [(0, .bytes x.2.1 x.2.2 5)]) _ (fun x => s.size - x.1) [] (k + 1, [], 0) ⟨hk, Nat.zero_le _, Nat.zero_le _, rfl⟩ rfl (by
    show HasT _ _ _ [_, _, (7, .raw (.int .i64 (((k + 1 : Nat) : Nat) : Int)))]
    rw [show (((k + 1 : Nat) : Nat) : Int) = (k : Nat) + 1 by omega]
    exact hS12_) hS10_ rfl (fun _ h => h) ?_
  rintro ⟨i, p, c⟩ ⟨h1, hp, hc, hq⟩
  dsimp only at h1 hp hc hq ⊢
  refine sS_ ?_
  by_cases hlt : i < s.size
  · have hlt' : i < (strB s).length := by omega
    rw [decide_eq_true (show ((i : Nat) : Int) < (s.size : Nat) by omega)]
    rw [drop_get hlt'] at hq
    obtain ⟨b, hb⟩ : ∃ b, (strB s).getD i 0 = b := ⟨_, rfl⟩
    rw [hb] at hq
    have hbN : b.toNat < 256 := b.toNat_lt
    have hbv : ∀ k : UInt8, ((((b.toNat : Nat) : Int) = (k.toNat : Nat)) ↔ b = k) := fun k => ⟨fun e => UInt8.toNat_inj.1 (by omega), fun e => by rw [e]⟩
    refine sS_ ?_
    refine R.sx ttok (i) rfl rfl rfl rfl (by kernel_rfl) (by omega) (by show _ < (strB s).length; omega) ?_
    rw [show s.data.toList.getD (i) 0 = b from hb]
    refine sS_ ?_
    by_cases h34 : b = 34
    · rw [decide_eq_false (show ¬ (((b.toNat : Nat) : Int) ≠ 34) from fun h => h ((hbv 34).2 h34))]
      rw [h34, quoteP_end] at hq
      refine sS_ ?_
      rw [decide_eq_false (show ¬ (((i : Nat) : Int) ≥ (s.size : Nat)) by omega)]
      refine sS_ ?_
      by_cases h2 : i + 1 < s.size
      · rw [decide_eq_true (show (i : Int) + 1 < (s.size : Nat) by omega)]
        have h2' : i + 1 < (strB s).length := by omega
        obtain ⟨d, hd⟩ : ∃ d, (strB s).getD (i + 1) 0 = d := ⟨_, rfl⟩
        have hdd : (strB s).drop (i + 1) = d :: (strB s).drop (i + 1 + 1) := by rw [drop_get h2', hd]
        have hdN : d.toNat < 256 := d.toNat_lt
        have hcv : ∀ k : UInt8, ((((d.toNat : Nat) : Int) = (k.toNat : Nat)) ↔ d = k) := fun k => ⟨fun e => UInt8.toNat_inj.1 (by omega), fun e => by rw [e]⟩
        refine sS_ ?_
        refine R.sx ttok (i + 1) rfl rfl rfl rfl (by kernel_rfl) (by omega) (by show _ < (strB s).length; omega) ?_
        rw [show s.data.toList.getD (i + 1) 0 = d from hd]
        refine sS_ ?_
        by_cases g1 : d = 32
        · have hg : gapB ((strB s).drop (i + 1)) = true := by rw [hdd, g1]; rfl
          rw [decide_eq_false (show ¬ (((d.toNat : Nat) : Int) ≠ 32) from fun h => h ((hcv 32).2 g1))]
          have hv : quotRV (strB s) k = (strOf p, ((i : Nat) : Int) + 1) := by
            unfold quotRV
            rw [hq, if_pos hg]
            show (strOf p, (((strB s).length - ((strB s).drop (i + 1)).length : Nat) : Int)) = _
            rw [List.length_drop, show (strB s).length - ((strB s).length - (i + 1)) = i + 1 by omega]
            rfl
          rw [hv]
          refine sS_ ?_
          refine R.b2s ttok p rfl (SrcA.bytes0 rfl) rfl rfl rfl rfl rfl rfl rfl rfl rfl (by kernel_rfl) ?_
          refine sS_ ?_
          refine X.fin ttok () [] trivial rfl rfl rfl hS7_ _ (by first | exact .inl rfl | exact .inr rfl)
        · rw [decide_eq_true (show (((d.toNat : Nat) : Int) ≠ 32) from fun h => g1 ((hcv 32).1 h))]
          refine sS_ ?_
          refine R.sx ttok (i + 1) rfl rfl rfl rfl (by kernel_rfl) (by omega) (by show _ < (strB s).length; omega) ?_
          rw [show s.data.toList.getD (i + 1) 0 = d from hd]
          refine sS_ ?_
          by_cases g2 : d = 9
          · have hg : gapB ((strB s).drop (i + 1)) = true := by rw [hdd, g2]; rfl
            rw [decide_eq_false (show ¬ (((d.toNat : Nat) : Int) ≠ 9) from fun h => h ((hcv 9).2 g2))]
            have hv : quotRV (strB s) k = (strOf p, ((i : Nat) : Int) + 1) := by
              unfold quotRV
              rw [hq, if_pos hg]
              show (strOf p, (((strB s).length - ((strB s).drop (i + 1)).length : Nat) : Int)) = _
              rw [List.length_drop, show (strB s).length - ((strB s).length - (i + 1)) = i + 1 by omega]
              rfl
            rw [hv]
            refine sS_ ?_
            refine R.b2s ttok p rfl (SrcA.bytes0 rfl) rfl rfl rfl rfl rfl rfl rfl rfl rfl (by kernel_rfl) ?_
            refine sS_ ?_
            refine X.fin ttok () [] trivial rfl rfl rfl hS7_ _ (by first | exact .inl rfl | exact .inr rfl)
          · rw [decide_eq_true (show (((d.toNat : Nat) : Int) ≠ 9) from fun h => g2 ((hcv 9).1 h))]
            refine sS_ ?_
            refine R.sx ttok (i + 1) rfl rfl rfl rfl (by kernel_rfl) (by omega) (by show _ < (strB s).length; omega) ?_
            rw [show s.data.toList.getD (i + 1) 0 = d from hd]
            refine sS_ ?_
            by_cases g3 : d = 35
            · have hg : gapB ((strB s).drop (i + 1)) = true := by rw [hdd, g3]; rfl
              rw [decide_eq_false (show ¬ (((d.toNat : Nat) : Int) ≠ 35) from fun h => h ((hcv 35).2 g3))]
              have hv : quotRV (strB s) k = (strOf p, ((i : Nat) : Int) + 1) := by
                unfold quotRV
                rw [hq, if_pos hg]
                show (strOf p, (((strB s).length - ((strB s).drop (i + 1)).length : Nat) : Int)) = _
                rw [List.length_drop, show (strB s).length - ((strB s).length - (i + 1)) = i + 1 by omega]
                rfl
              rw [hv]
              refine sS_ ?_
              refine R.b2s ttok p rfl (SrcA.bytes0 rfl) rfl rfl rfl rfl rfl rfl rfl rfl rfl (by kernel_rfl) ?_
              refine sS_ ?_
              refine X.fin ttok () [] trivial rfl rfl rfl hS7_ _ (by first | exact .inl rfl | exact .inr rfl)
            · rw [decide_eq_true (show (((d.toNat : Nat) : Int) ≠ 35) from fun h => g3 ((hcv 35).1 h))]
              have hg : gapB ((strB s).drop (i + 1)) = false := by
                rw [hdd]
                show (false || ([32, 9, 35] : List UInt8).contains d) = false
                simp [g1, g2, g3]
              rw [hg, if_neg (by decide)] at hq
              have hv : quotRV (strB s) k = (⟨#[]⟩, -1) := by unfold quotRV; rw [hq]
              rw [hv]
              refine sS_ ?_
              refine X.fin ttok () [] trivial rfl rfl rfl hS7_ _ (by first | exact .inl rfl | exact .inr rfl)
      · rw [decide_eq_false (show ¬ ((i : Int) + 1 < (s.size : Nat)) by omega)]
        have hg : gapB ((strB s).drop (i + 1)) = true := by rw [List.drop_eq_nil_of_le (by omega)]; rfl
        have hv : quotRV (strB s) k = (strOf p, ((i : Nat) : Int) + 1) := by
          unfold quotRV
          rw [hq, if_pos hg]
          show (strOf p, (((strB s).length - ((strB s).drop (i + 1)).length : Nat) : Int)) = _
          rw [List.length_drop, show (strB s).length - ((strB s).length - (i + 1)) = i + 1 by omega]
          rfl
        rw [hv]
        refine sS_ ?_
        refine R.b2s ttok p rfl (SrcA.bytes0 rfl) rfl rfl rfl rfl rfl rfl rfl rfl rfl (by kernel_rfl) ?_
        refine sS_ ?_
        refine X.fin ttok () [] trivial rfl rfl rfl hS7_ _ (by first | exact .inl rfl | exact .inr rfl)
    · rw [decide_eq_true (show (((b.toNat : Nat) : Int) ≠ 34) from fun h => h34 ((hbv 34).1 h))]
      refine sS_ ?_
      refine R.sx ttok (i) rfl rfl rfl rfl (by kernel_rfl) (by omega) (by show _ < (strB s).length; omega) ?_
      rw [show s.data.toList.getD (i) 0 = b from hb]
      refine sS_ ?_
      by_cases hlo : b.toNat < 32
      · rw [decide_eq_true (show ((b.toNat : Nat) : Int) < 32 by omega)]
        rw [quoteP_bad h34 (.inl hlo)] at hq
        have hv : quotRV (strB s) k = (⟨#[]⟩, -1) := by unfold quotRV; rw [hq]
        rw [hv]
        refine sS_ ?_
        refine X.fin ttok () [] trivial rfl rfl rfl hS7_ _ (by first | exact .inl rfl | exact .inr rfl)
      · rw [decide_eq_false (show ¬ ((b.toNat : Nat) : Int) < 32 by omega)]
        refine sS_ ?_
        refine R.sx ttok (i) rfl rfl rfl rfl (by kernel_rfl) (by omega) (by show _ < (strB s).length; omega) ?_
        rw [show s.data.toList.getD (i) 0 = b from hb]
        refine sS_ ?_
        by_cases hhi : 126 < b.toNat
        · rw [decide_eq_true (show ((b.toNat : Nat) : Int) > 126 by omega)]
          rw [quoteP_bad h34 (.inr hhi)] at hq
          have hv : quotRV (strB s) k = (⟨#[]⟩, -1) := by unfold quotRV; rw [hq]
          rw [hv]
          refine sS_ ?_
          refine X.fin ttok () [] trivial rfl rfl rfl hS7_ _ (by first | exact .inl rfl | exact .inr rfl)
        · rw [decide_eq_false (show ¬ ((b.toNat : Nat) : Int) > 126 by omega)]
          refine sS_ ?_
          refine R.sx ttok (i) rfl rfl rfl rfl (by kernel_rfl) (by omega) (by show _ < (strB s).length; omega) ?_
          rw [show s.data.toList.getD (i) 0 = b from hb]
          refine sS_ ?_
          by_cases h92 : b = 92
          · rw [decide_eq_false (show ¬ (((b.toNat : Nat) : Int) ≠ 92) from fun h => h ((hbv 92).2 h92))]
            rw [h92] at hq
            refine sS_ ?_
            by_cases h2 : i + 1 < s.size
            · rw [decide_eq_false (show ¬ ((s.size : Nat) : Int) ≤ (i : Nat) + 1 by omega)]
              have h2' : i + 1 < (strB s).length := by omega
              rw [drop_get h2'] at hq
              obtain ⟨d, hd⟩ : ∃ d, (strB s).getD (i + 1) 0 = d := ⟨_, rfl⟩
              rw [hd] at hq
              have hdN : d.toNat < 256 := d.toNat_lt
              have hcv : ∀ k : UInt8, ((((d.toNat : Nat) : Int) = (k.toNat : Nat)) ↔ d = k) := fun k => ⟨fun e => UInt8.toNat_inj.1 (by omega), fun e => by rw [e]⟩
              refine sS_ ?_
              refine R.sx ttok (i + 1) rfl rfl rfl rfl (by kernel_rfl) (by omega) (by show _ < (strB s).length; omega) ?_
              rw [show s.data.toList.getD (i + 1) 0 = d from hd]
              refine sS_ ?_
              by_cases hd34 : d = 34
              · rw [decide_eq_true (show (((d.toNat : Nat) : Int) = 34) from (hcv 34).2 hd34)]
                rw [quoteP_esc (.inl hd34)] at hq
                refine sS_ ?_
                refine R.sx ttok (i + 1) rfl rfl rfl rfl (by kernel_rfl) (by omega) (by show _ < (strB s).length; omega) ?_
                rw [show s.data.toList.getD (i + 1) 0 = d from hd]
                refine sS_ ?_
                refine R.apb ttok (q := [d]) rfl rfl rfl rfl (SrcA.cells rfl rfl) (rfl) rfl rfl rfl rfl rfl rfl rfl (by kernel_rfl) hc (by simp; omega) fun c' h5 h6 => ?_
                refine sS_ ?_
                exact X.back [(0, 2)] (i + 1 + 1, p ++ [d], c') ⟨by omega, by simp only [List.length_append, List.length_cons, List.length_nil]; omega, h6, hq⟩ (by dsimp only; omega) rfl hS12_ hS10_ rfl (fun _ h => h)
              · rw [decide_eq_false (show ¬ (((d.toNat : Nat) : Int) = 34) from fun e => hd34 ((hcv 34).1 e))]
                refine sS_ ?_
                refine R.sx ttok (i + 1) rfl rfl rfl rfl (by kernel_rfl) (by omega) (by show _ < (strB s).length; omega) ?_
                rw [show s.data.toList.getD (i + 1) 0 = d from hd]
                refine sS_ ?_
                by_cases hd92 : d = 92
                · rw [decide_eq_true (show (((d.toNat : Nat) : Int) = 92) from (hcv 92).2 hd92)]
                  rw [quoteP_esc (.inr hd92)] at hq
                  refine sS_ ?_
                  refine R.sx ttok (i + 1) rfl rfl rfl rfl (by kernel_rfl) (by omega) (by show _ < (strB s).length; omega) ?_
                  rw [show s.data.toList.getD (i + 1) 0 = d from hd]
                  refine sS_ ?_
                  refine R.apb ttok (q := [d]) rfl rfl rfl rfl (SrcA.cells rfl rfl) (rfl) rfl rfl rfl rfl rfl rfl rfl (by kernel_rfl) hc (by simp; omega) fun c' h5 h6 => ?_
                  refine sS_ ?_
                  exact X.back [(0, 2)] (i + 1 + 1, p ++ [d], c') ⟨by omega, by simp only [List.length_append, List.length_cons, List.length_nil]; omega, h6, hq⟩ (by dsimp only; omega) rfl hS12_ hS10_ rfl (fun _ h => h)
                · rw [decide_eq_false (show ¬ (((d.toNat : Nat) : Int) = 92) from fun e => hd92 ((hcv 92).1 e))]
                  have hdn : ¬ (d = 34 ∨ d = 92) := fun h => h.elim hd34 hd92
                  refine sS_ ?_
                  refine R.sx ttok (i + 1) rfl rfl rfl rfl (by kernel_rfl) (by omega) (by show _ < (strB s).length; omega) ?_
                  rw [show s.data.toList.getD (i + 1) 0 = d from hd]
                  refine sS_ ?_
                  by_cases hdx : d = 120
                  · rw [decide_eq_false (show ¬ (((d.toNat : Nat) : Int) ≠ 120) from fun h => h ((hcv 120).2 hdx))]
                    refine sS_ ?_
                    by_cases h3 : i + 3 < s.size
                    · rw [decide_eq_false (show ¬ ((s.size : Nat) : Int) ≤ (i : Nat) + 3 by omega)]
                      have g2 : i + 1 + 1 < (strB s).length := by omega
                      have g3 : i + 1 + 1 + 1 < (strB s).length := by omega
                      rw [drop_get g2, drop_get g3] at hq
                      obtain ⟨x1, hx1⟩ : ∃ x, (strB s).getD (i + 1 + 1) 0 = x := ⟨_, rfl⟩
                      obtain ⟨x2, hx2⟩ : ∃ x, (strB s).getD (i + 1 + 1 + 1) 0 = x := ⟨_, rfl⟩
                      rw [hx1, hx2, hdx, quoteP_hex] at hq
                      have l1 := hexV_le x1
                      have l2 := hexV_le x2
                      refine sS_ ?_
                      refine R.sx ttok (i + 1 + 1) rfl rfl rfl rfl (by kernel_rfl) (by omega) (by show _ < (strB s).length; omega) ?_
                      rw [show s.data.toList.getD (i + 1 + 1) 0 = x1 from hx1]
                      refine R.cl [] (hexR_spec x1) Tryz.call105 hS11_ rfl rfl rfl (fun _ => rfl) rfl (by kernel_rfl) fun _ _ => ?_
                      cases e1 : hexB x1 with
                      | false =>
                        rw [if_neg (by rw [e1]; rintro ⟨h, _⟩; cases h)] at hq
                        rw [show hexI x1 = -1 by unfold hexI; rw [e1]; rfl]
                        have hv : quotRV (strB s) k = (⟨#[]⟩, -1) := by unfold quotRV; rw [hq]
                        rw [hv]
                        refine sS_ ?_
                        refine X.fin ttok () [] trivial rfl rfl rfl hS7_ _ (by first | exact .inl rfl | exact .inr rfl)
                      | true =>
                        rw [show hexI x1 = (hexV x1 : Nat) by unfold hexI; rw [e1]; rfl]
                        refine sS_ ?_
                        rw [decide_eq_false (show ¬ ((hexV x1 : Nat) : Int) < 0 by omega)]
                        refine sS_ ?_
                        refine R.sx ttok (i + 1 + 1 + 1) rfl rfl rfl rfl (by kernel_rfl) (by omega) (by show _ < (strB s).length; omega) ?_
                        rw [show s.data.toList.getD (i + 1 + 1 + 1) 0 = x2 from hx2]
                        refine R.cl [] (hexR_spec x2) Tryz.call105 hS11_ rfl rfl rfl (fun _ => rfl) rfl (by kernel_rfl) fun _ _ => ?_
                        cases e2 : hexB x2 with
                        | false =>
                          rw [if_neg (by rw [e2]; rintro ⟨_, h⟩; cases h)] at hq
                          rw [show hexI x2 = -1 by unfold hexI; rw [e2]; rfl]
                          have hv : quotRV (strB s) k = (⟨#[]⟩, -1) := by unfold quotRV; rw [hq]
                          rw [hv]
                          refine sS_ ?_
                          refine X.fin ttok () [] trivial rfl rfl rfl hS7_ _ (by first | exact .inl rfl | exact .inr rfl)
                        | true =>
                          rw [if_pos ⟨e1, e2⟩] at hq
                          have v1 : hexI x1 = (hexV x1 : Nat) := by unfold hexI; rw [e1]; rfl
                          have v2 : hexI x2 = (hexV x2 : Nat) := by unfold hexI; rw [e2]; rfl
                          rw [v2]
                          refine sS_ ?_
                          rw [decide_eq_false (show ¬ ((hexV x2 : Nat) : Int) < 0 by omega)]
                          refine sS_ ?_
                          refine C.draw [[], [], [], [2], [1, 2, 3], [1, 2, 3, 4], [1, 2, 3, 4, 5], [], [], [8], [7, 8, 9], [1, 2, 3, 4, 5, 7, 8, 9, 10], [1, 2, 3, 4, 5, 6, 7, 8, 9, 10, 11], [1, 2, 3, 4, 5, 6, 7, 8, 9, 10, 11, 12], [1, 2, 3, 4, 5, 6, 7, 8, 9, 10, 11, 12, 13], [0, 1, 2, 3, 4, 5, 6, 7, 8, 9, 10, 11, 12, 13, 14], [0, 1, 2, 3, 4, 5, 6, 7, 8, 9, 10, 11, 12, 13, 14, 15]] [5, 11, 14, 15] (by kernel_rfl) (by kernel_rfl) ?_
                          refine sS_ ?_
                          refine R.sx ttok (i + 1 + 1) rfl rfl rfl rfl (by kernel_rfl) (by omega) (by show _ < (strB s).length; omega) ?_
                          rw [show s.data.toList.getD (i + 1 + 1) 0 = x1 from hx1]
                          refine R.cl [] (hexR_spec x1) Tryz.call105 hS11_ rfl rfl rfl (fun _ => rfl) rfl (by kernel_rfl) fun _ _ => ?_
                          rw [v1]
                          refine sS_ ?_
                          refine R.sx ttok (i + 1 + 1 + 1) rfl rfl rfl rfl (by kernel_rfl) (by omega) (by show _ < (strB s).length; omega) ?_
                          rw [show s.data.toList.getD (i + 1 + 1 + 1) 0 = x2 from hx2]
                          refine R.cl [] (hexR_spec x2) Tryz.call105 hS11_ rfl rfl rfl (fun _ => rfl) rfl (by kernel_rfl) fun _ _ => ?_
                          rw [v2]
                          refine sS_ ?_
                          refine R.apb ttok (q := [UInt8.ofNat (hexV x1 * 16 + hexV x2)]) rfl rfl rfl rfl (SrcA.cells rfl rfl) (avB_one (of16 l1 l2)) rfl rfl rfl rfl rfl rfl rfl (by kernel_rfl) hc (by simp; omega) fun c' h5 h6 => ?_
                          refine sS_ ?_
                          exact X.back [(0, 2)] (i + 1 + 1 + 1 + 1, p ++ [UInt8.ofNat (hexV x1 * 16 + hexV x2)], c') ⟨by omega, by simp only [List.length_append, List.length_cons, List.length_nil]; omega, h6, hq⟩ (by dsimp only; omega) rfl hS12_ hS10_ rfl (fun _ h => h)
                    · rw [decide_eq_true (show ((s.size : Nat) : Int) ≤ (i : Nat) + 3 by omega)]
                      rw [quoteP_no hdn (.inr (by rw [List.length_drop]; omega))] at hq
                      have hv : quotRV (strB s) k = (⟨#[]⟩, -1) := by unfold quotRV; rw [hq]
                      rw [hv]
                      refine sS_ ?_
                      refine X.fin ttok () [] trivial rfl rfl rfl hS7_ _ (by first | exact .inl rfl | exact .inr rfl)
                  · rw [decide_eq_true (show (((d.toNat : Nat) : Int) ≠ 120) from fun h => hdx ((hcv 120).1 h))]
                    rw [quoteP_no hdn (.inl hdx)] at hq
                    have hv : quotRV (strB s) k = (⟨#[]⟩, -1) := by unfold quotRV; rw [hq]
                    rw [hv]
                    refine sS_ ?_
                    refine X.fin ttok () [] trivial rfl rfl rfl hS7_ _ (by first | exact .inl rfl | exact .inr rfl)
            · rw [decide_eq_true (show ((s.size : Nat) : Int) ≤ (i : Nat) + 1 by omega)]
              rw [List.drop_eq_nil_of_le (by omega : (strB s).length ≤ i + 1), quoteP_esc0] at hq
              have hv : quotRV (strB s) k = (⟨#[]⟩, -1) := by unfold quotRV; rw [hq]
              rw [hv]
              refine sS_ ?_
              refine X.fin ttok () [] trivial rfl rfl rfl hS7_ _ (by first | exact .inl rfl | exact .inr rfl)
          · rw [decide_eq_true (show (((b.toNat : Nat) : Int) ≠ 92) from fun h => h92 ((hbv 92).1 h))]
            rw [quoteP_one h34 (by omega) h92] at hq
            refine sS_ ?_
            refine R.sx ttok (i) rfl rfl rfl rfl (by kernel_rfl) (by omega) (by show _ < (strB s).length; omega) ?_
            rw [show s.data.toList.getD (i) 0 = b from hb]
            refine sS_ ?_
            refine R.apb ttok (q := [b]) rfl rfl rfl rfl (SrcA.cells rfl rfl) (rfl) rfl rfl rfl rfl rfl rfl rfl (by kernel_rfl) hc (by simp; omega) fun c' h5 h6 => ?_
            refine sS_ ?_
            exact X.back [(0, 2)] (i + 1, p ++ [b], c') ⟨by omega, by simp only [List.length_append, List.length_cons, List.length_nil]; omega, h6, hq⟩ (by dsimp only; omega) rfl hS12_ hS10_ rfl (fun _ h => h)
  · rw [decide_eq_false (show ¬ ((i : Nat) : Int) < (s.size : Nat) by omega)]
    rw [List.drop_eq_nil_of_le (by omega : (strB s).length ≤ i), quoteP_nil] at hq
    refine sS_ ?_
    rw [decide_eq_true (show (((i : Nat) : Int) ≥ (s.size : Nat)) by omega)]
    have hv : quotRV (strB s) k = (⟨#[]⟩, -1) := by unfold quotRV; rw [hq]
    rw [hv]
    refine sS_ ?_
    refine X.fin ttok () [] trivial rfl rfl rfl hS7_ _ (by first | exact .inl rfl | exact .inr rfl)
end Go.Proofs.YtaieficgifingaaGreatDoor
namespace Go.Proofs.YtaieficgifingaaGreatDoor
set_option linter.unusedVariables false
set_option linter.unusedSimpArgs false
open Go.RowKit
set_option maxRecDepth 100000
set_option maxHeartbeats 4000000
abbrev TX := ByteArray
def txF (l : List TX) (i : Nat) : List AV := [.raw (.string (l.getD i noT0))]
abbrev tTx (l : List TX) (c : Nat) : AO := .tab 1 l.length c (txF l) 9
def txs (l : List TX) : List AV := l.flatMap fun t => [.raw (.string t)]
theorem txs_app (a b : List TX) : txs (a ++ b) = txs a ++ txs b := List.flatMap_append
theorem flat_tx (l : List TX) : ∀ m off, off + m ≤ l.length → flat (fun i => txF l (off + i)) m = txs ((l.drop off).take m)
  | 0, off, _ => by simp [flat, txs]
  | m + 1, off, h => by
    rw [flat, flat_tx l m off (by omega), List.take_add_one, txs_app]
    congr 1
    have : (l.drop off)[m]? = some (l[off + m]'(by omega)) := by rw [List.getElem?_drop, List.getElem?_eq_getElem]
    rw [this]
    simp [txs, txF, List.getD, show off + m < l.length by omega]
theorem flat_tx0 (l : List TX) : flat (txF l) l.length = txs l := by
  have := flat_tx l l.length 0 (by omega)
  simpa using this
section
variable {E : Base} {n L : Nat} {τ : List (Nat × AV)} {h : List (Nat × AO)} {F : World → Prop}
theorem asTx (T : TypeId) (l : List TX) (xs : List AV) (hx : xs = txs l) : AsRow (fun c => .tab 1 l.length c (txF l) T) T 1 xs := by
  rw [hx, ← flat_tx0]
  exact AsRow.tab T (by decide) fun i _ => rfl
theorem dstTx {lab cap : Nat} {l : List TX} {T : TypeId} (hl : hk lab h = some (.tab 1 l.length cap (txF l) T)) : DstA E n L τ h F (.sl lab 1 0 l.length cap) T 1 l.length cap (txs l) [lab] := by
  have := DstA.tab (E := E) (n := n) (L := L) (τ := τ) (F := F) (by decide) hl fun i _ => rfl
  rwa [flat_tx0] at this
end
theorem extract_mid (s : ByteArray) (i j : Nat) : strB (s.extract i j) = ((strB s).drop i).take (j - i) := by
  unfold strB
  rw [ByteArray.data_extract, Array.toList_extract, List.extract_eq_take_drop]
theorem index_at : ∀ (l : List UInt8) (k : Nat), (∀ j, j < k → l.getD j 0 ≠ 10) → k < l.length → l.getD k 0 = 10 → Lib.indexByte l 10 = (k : Nat)
  | [], k, _, h, _ => absurd h (Nat.not_lt_zero _)
  | c :: r, 0, _, _, h => by
    unfold Lib.indexByte
    rw [if_pos (show (c == 10) = true from by rw [show c = 10 from h]; rfl)]
    rfl
  | c :: r, k + 1, h1, h2, h3 => by
    unfold Lib.indexByte
    have h0 : c ≠ 10 := h1 0 (Nat.succ_pos k)
    have ih := index_at r k (fun j hj => h1 (j + 1) (by omega)) (by simpa using h2) h3
    rw [if_neg (show ¬ (c == 10) = true from fun e => h0 (by simpa using e)), ih, show (((k : Nat) : Int) == -1) = false from beq_eq_false_iff_ne.2 (by omega), if_neg Bool.false_ne_true]
    omega
theorem lineN_at {l : List UInt8} {k : Nat} (h1 : ∀ j, j < k → l.getD j 0 ≠ 10) (h2 : k < l.length) (h3 : l.getD k 0 = 10) : lineN l = k := by
  unfold lineN
  rw [index_at l k h1 h2 h3, if_neg (by omega)]
  rfl
theorem lineN_no {l : List UInt8} (h : ∀ j, j < l.length → l.getD j 0 ≠ 10) : lineN l = l.length := by
  unfold lineN
  rw [indexByte_no fun x hx e => ?_]
  · rfl
  · obtain ⟨j, hj, he⟩ := List.mem_iff_getElem.1 hx
    have := h j hj
    rw [List.getD_eq_getElem?_getD, List.getElem?_eq_getElem hj] at this
    exact this (he.trans e)
theorem linesR_spec (s : ByteArray) (hs : s.size ≤ 1000000) : Spec Tryz.prog 25 [.raw (.string s)] [] 1 (σ := Nat) (fun c => (linesL (strB s)).length ≤ c ∧ c ≤ 9223372036854775807) (fun c => .sl 0 1 0 ((linesL (strB s)).map strOf).length c) (fun c => [(0, tTx ((linesL (strB s)).map strOf) c)]) := by
  refine Spec.of Tryz.func25 rfl Tryz.ntmps25 rfl (bdl_nil _) fun ρ w => ?_
  have hlen := strB_size s
  obtain ⟨t, ht⟩ : ∃ t, strB s = t := ⟨_, rfl⟩
  rw [ht] at hlen ⊢
  refine C.seq ?_
  refine C.region ?_
  repeat (first | refine R.zb ttok ?_ | refine R.zu ttok ?_ | refine R.zc ttok ?_ | refine R.za ttok ?_ | refine R.zx ?_ | refine R.zl ttok ?_ | refine R.zs ttok ?_ | refine R.z ttok ?_ | refine R.zk ?_ | refine R.zn ?_)
  refine R.done ?_
  refine X.then ?_
  refine C.seq ?_
  refine C.region ?_
  repeat (first | refine R.zb ttok ?_ | refine R.zu ttok ?_ | refine R.zc ttok ?_ | refine R.za ttok ?_ | refine R.zx ?_ | refine R.zl ttok ?_ | refine R.zs ttok ?_ | refine R.z ttok ?_ | refine R.zk ?_ | refine R.zn ?_)
  refine R.done ?_
  refine X.then ?_
  refine C.noneT 3 (.sl 0 1 0 0 0) (tTx [] 0) (none_tab _ _ _ _) rfl rfl rfl (fun ρ h => sl_none h) ?_
  refine sS_ ?_
  refine C.loop (σ := Nat × Nat × List TX × Nat) (L2 := 1) (fun x => x.1 ≤ s.size ∧ x.2.1 ≤ x.1 ∧ (linesL t).map strOf = x.2.2.1 ++ (linesL (t.drop x.2.1)).map strOf ∧ (∀ j, x.2.1 ≤ j → j < x.1 → t.getD j 0 ≠ 10) ∧ x.2.2.1.length ≤ x.2.1 ∧ x.2.2.1.length ≤ x.2.2.2 ∧ x.2.2.2 ≤ 9223372036854775807)
    (fun x => [(0, .raw (.string s)), (3, .sl 0 1 0 x.2.2.1.length x.2.2.2), (4, .raw (.int .i64 (x.2.1 : Nat))), (5, .raw (.int .i64 (x.1 : Nat)))]) (fun x => [(0, tTx x.2.2.1 x.2.2.2)]) _ (fun x => s.size - x.1) [] (0, 0, [], 0) ⟨Nat.zero_le _, Nat.le_refl _, rfl, fun j _ h => absurd h (Nat.not_lt_zero j), Nat.le_refl _, Nat.le_refl _, Nat.zero_le _⟩ rfl hS12_ hS10_ rfl (fun _ h => h) ?_
  rintro ⟨i, a, l, c⟩ ⟨hi, ha, hl, hno, hla, hc, hc'⟩
  dsimp only at hi ha hl hno hla hc hc' ⊢
  have hdl : ∀ j, (t.drop a).getD j 0 = t.getD (a + j) 0 := fun j => by rw [List.getD_eq_getElem?_getD, List.getElem?_drop, ← List.getD_eq_getElem?_getD]
  refine sS_ ?_
  by_cases hlt : i < s.size
  · rw [decide_eq_true (show ((i : Nat) : Int) < (s.size : Nat) by omega)]
    refine sS_ ?_
    refine R.sx ttok i rfl rfl rfl rfl rfl rfl (by show i < (strB s).length; rw [ht]; omega) ?_
    obtain ⟨b, hb⟩ : ∃ b, t.getD i 0 = b := ⟨_, rfl⟩
    rw [show s.data.toList.getD i 0 = b by rw [← hb, ← ht]; rfl]
    have hbN : b.toNat < 256 := b.toNat_lt
    have hbv : ((((b.toNat : Nat) : Int) = 10) ↔ b = 10) := ⟨fun e => UInt8.toNat_inj.1 (show b.toNat = 10 by omega), fun e => by rw [e]; rfl⟩
    refine sS_ ?_
    by_cases h10 : b = 10
    · rw [decide_eq_true (hbv.2 h10)]
      have hne : t.drop a ≠ [] := fun h => by
        have := congrArg List.length h
        rw [List.length_drop, List.length_nil] at this
        omega
      have hN : lineN (t.drop a) = i - a := lineN_at (fun j hj => by rw [hdl]; exact hno (a + j) (by omega) (by omega)) (by rw [List.length_drop]; omega) (by rw [hdl, show a + (i - a) = i by omega, hb, h10])
      rw [linesL_cons hne] at hl
      unfold lineA lineB at hl
      rw [hN, List.drop_drop, show a + (i - a + 1) = i + 1 by omega] at hl
      refine sS_ ?_
      refine R.sls ttok a i rfl rfl rfl rfl (by kernel_rfl) ⟨_, _, rfl, rfl⟩ ⟨_, _, rfl, rfl⟩ ha (by omega) ?_
      obtain ⟨q, hq⟩ : ∃ q, s.extract a i = q := ⟨_, rfl⟩
      have hq2 : q = strOf ((t.drop a).take (i - a)) := strB_inj (by rw [← hq, extract_mid, ht]; rfl)
      rw [hq]
      refine sS_ ?_
      refine R.app (xs := txs l) (news := txs [q]) ttok (fun c => tTx (l ++ [q]) c) rfl rfl (dstTx rfl) (SrcA.cells rfl rfl) (asTx _ _ _ (txs_app _ _).symm) rfl rfl rfl rfl rfl rfl (by decide) rfl rfl rfl (by kernel_rfl) hc' (by show (l.length + 1) * 16 ≤ _; omega) (by show l.length + 1 ≤ _; omega) fun cB hB hB2 => ?_
      have hlX : (l ++ [q]).length = l.length + 1 := by simp
      rw [← hlX] at hB ⊢
      refine sS_ ?_
      exact X.back [(0, 2)] (i + 1, i + 1, l ++ [q], cB) ⟨by dsimp only; omega, Nat.le_refl _, by
        rw [hl, hq2]
        simp, fun j h1 h2 => by dsimp only at h1 h2; omega, by dsimp only; omega, hB, hB2⟩ (by dsimp only; omega) rfl hS12_ hS10_ rfl (fun _ h => h)
    · rw [decide_eq_false (show ¬ (((b.toNat : Nat) : Int) = 10) from fun e => h10 (hbv.1 e))]
      refine sS_ ?_
      exact X.back [] (i + 1, a, l, c) ⟨by dsimp only; omega, by dsimp only; omega, hl, fun j h1 h2 => (by
        dsimp only at h1 h2
        rcases Nat.lt_or_ge j i with h | h
        · exact hno j h1 h
        · obtain rfl : j = i := by omega
          rw [hb]; exact h10), hla, hc, hc'⟩ (by dsimp only; omega) rfl hS12_ hS10_ rfl (fun _ h => h)
  · rw [decide_eq_false (show ¬ ((i : Nat) : Int) < (s.size : Nat) by omega)]
    obtain rfl : i = s.size := by omega
    refine sS_ ?_
    by_cases hal : a < s.size
    · rw [decide_eq_true (show ((a : Nat) : Int) < (s.size : Nat) by omega)]
      have hne : t.drop a ≠ [] := fun h => by
        have := congrArg List.length h
        rw [List.length_drop, List.length_nil] at this
        omega
      have hN : lineN (t.drop a) = (t.drop a).length := lineN_no (fun j hj => by rw [List.length_drop] at hj; rw [hdl]; exact hno (a + j) (by omega) (by omega))
      rw [linesL_cons hne] at hl
      unfold lineA lineB at hl
      rw [hN, List.take_length, show (t.drop a).drop ((t.drop a).length + 1) = [] from List.drop_eq_nil_of_le (by omega), linesL_nil] at hl
      refine sS_ ?_
      refine R.sls ttok a s.size rfl rfl rfl rfl (by kernel_rfl) ⟨_, _, rfl, rfl⟩ rfl ha (Nat.le_refl _) ?_
      obtain ⟨q, hq⟩ : ∃ q, s.extract a s.size = q := ⟨_, rfl⟩
      have hq2 : q = strOf (t.drop a) := strB_inj (by rw [← hq, extract_drop, ht]; rfl)
      rw [hq]
      refine sS_ ?_
      refine R.app (xs := txs l) (news := txs [q]) ttok (fun c => tTx (l ++ [q]) c) rfl rfl (dstTx rfl) (SrcA.cells rfl rfl) (asTx _ _ _ (txs_app _ _).symm) rfl rfl rfl rfl rfl rfl (by decide) rfl rfl rfl (by kernel_rfl) hc' (by show (l.length + 1) * 16 ≤ _; omega) (by show l.length + 1 ≤ _; omega) fun cB hB hB2 => ?_
      have hlX : (l ++ [q]).length = l.length + 1 := by simp
      rw [← hlX] at hB ⊢
      have hfin : (linesL t).map strOf = l ++ [q] := by rw [hl, hq2]; rfl
      have hll : (linesL t).length = (l ++ [q]).length := by rw [← hfin, List.length_map]
      rw [hfin, hll]
      refine sS_ ?_
      refine X.fin ttok cB [(0, 2)] ⟨hB, hB2⟩ rfl rfl rfl hS7_ _ (by first | exact .inl rfl | exact .inr rfl)
    · rw [decide_eq_false (show ¬ ((a : Nat) : Int) < (s.size : Nat) by omega)]
      rw [List.drop_eq_nil_of_le (by omega), linesL_nil, List.map_nil, List.append_nil] at hl
      have hll : (linesL t).length = l.length := by rw [← hl, List.length_map]
      rw [hl, hll]
      refine sS_ ?_
      refine X.fin ttok c [] ⟨hc, hc'⟩ rfl rfl rfl hS7_ _ (by first | exact .inl rfl | exact .inr rfl)
end Go.Proofs.YtaieficgifingaaGreatDoor
namespace Go.Proofs.YtaieficgifingaaGreatDoor
set_option linter.unusedVariables false
set_option linter.unusedSimpArgs false
open Go.RowKit
set_option maxRecDepth 100000
set_option maxHeartbeats 8000000
def rdX (p : WD) : List AV := [.raw (.bool p.2), .raw (.string p.1)]
def rds (l : List WD) : List AV := l.flatMap rdX
def rdF (l : List WD) (i : Nat) : List AV := rdX (l.getD i wdD)
abbrev wrT : TypeId := 74
abbrev tWR (l : List WD) (c : Nat) : AO := .tab 2 l.length c (rdF l) wrT
theorem rds_app (a b : List WD) : rds (a ++ b) = rds a ++ rds b := List.flatMap_append
theorem flat_rd (l : List WD) : ∀ m off, off + m ≤ l.length → flat (fun i => rdF l (off + i)) m = rds ((l.drop off).take m)
  | 0, off, _ => by simp [flat, rds]
  | m + 1, off, h => by
    rw [flat, flat_rd l m off (by omega), List.take_add_one, rds_app]
    congr 1
    have : (l.drop off)[m]? = some (l[off + m]'(by omega)) := by rw [List.getElem?_drop, List.getElem?_eq_getElem]
    rw [this]
    simp [rds, rdF, List.getD, show off + m < l.length by omega]
theorem flat_rd0 (l : List WD) : flat (rdF l) l.length = rds l := by
  have := flat_rd l l.length 0 (by omega)
  simpa using this
section
variable {E : Base} {n L : Nat} {τ : List (Nat × AV)} {h : List (Nat × AO)} {F : World → Prop}
theorem asRd (T : TypeId) (l : List WD) (xs : List AV) (hx : xs = rds l) : AsRow (fun c => .tab 2 l.length c (rdF l) T) T 2 xs := by
  rw [hx, ← flat_rd0]
  exact AsRow.tab T (by decide) fun i _ => rfl
theorem dstRd {lab cap : Nat} {l : List WD} {T : TypeId} (hl : hk lab h = some (.tab 2 l.length cap (rdF l) T)) : DstA E n L τ h F (.sl lab 2 0 l.length cap) T 2 l.length cap (rds l) [lab] := by
  have := DstA.tab (E := E) (n := n) (L := L) (τ := τ) (F := F) (by decide) hl fun i _ => rfl
  rwa [flat_rd0] at this
end
theorem wordsP_congr {a b : List UInt8} (h : Lib.trimLeftS a [32, 9] = Lib.trimLeftS b [32, 9]) : wordsP a = wordsP b := by
  cases hb : Lib.trimLeftS b [32, 9] with
  | nil => rw [wordsP_end (l0 := a) (.inl (h.trans hb)), wordsP_end (l0 := b) (.inl hb)]
  | cons c r =>
    by_cases h35 : c = 35
    · rw [wordsP_end (l0 := a) (.inr ⟨r, by rw [h, hb, h35]⟩), wordsP_end (l0 := b) (.inr ⟨r, by rw [hb, h35]⟩)]
    · by_cases h34 : c = 34
      · rw [wordsP_q (l0 := a) (r := r) (by rw [h, hb, h34]), wordsP_q (l0 := b) (r := r) (by rw [hb, h34])]
      · rw [wordsP_w (l0 := a) (h.trans hb) h35 h34, wordsP_w (l0 := b) hb h35 h34]
theorem trim_skip {c : UInt8} {r : List UInt8} (h : c = 32 ∨ c = 9) : Lib.trimLeftS (c :: r) [32, 9] = Lib.trimLeftS r [32, 9] := by
  unfold Lib.trimLeftS
  rw [List.dropWhile_cons_of_pos]
  rcases h with rfl | rfl <;> rfl
theorem trim_id {c : UInt8} {r : List UInt8} (h1 : c ≠ 32) (h2 : c ≠ 9) : Lib.trimLeftS (c :: r) [32, 9] = c :: r := by
  unfold Lib.trimLeftS
  rw [List.dropWhile_cons_of_neg]
  simp [h1, h2]
theorem gapC_ne {c : UInt8} (h1 : c ≠ 32) (h2 : c ≠ 9) (h3 : c ≠ 35) : gapC c = false := by
  unfold gapC
  simp [h1, h2, h3]
theorem wordN_at {l : List UInt8} {k : Nat} (hk : k ≤ l.length) (h1 : ∀ j, j < k → gapC (l.getD j 0) = false) (h2 : k = l.length ∨ gapC (l.getD k 0) = true) : wordN l = k := by
  unfold wordN
  rcases Nat.lt_or_ge k l.length with h | h
  · rw [anyAt h h1 (h2.resolve_left (by omega)), if_neg (by omega)]
    rfl
  · have he : k = l.length := by omega
    rw [anyNo fun x hx => ?_]
    · exact he.symm
    · obtain ⟨j, hj, e⟩ := List.mem_iff_getElem.1 hx
      have := h1 j (by omega)
      rw [List.getD_eq_getElem?_getD, List.getElem?_eq_getElem hj] at this
      rw [← e]; exact this
theorem quoteP_suf : ∀ (l acc : List UInt8) (p : List UInt8 × List UInt8), quoteP acc l = some p → p.2 <:+ l := fun l => by
  induction hl : l.length using Nat.strongRecOn generalizing l with
  | _ k ih =>
    intro acc p h
    match l, hl, h with
    | [], _, h => rw [quoteP_nil] at h; cases h
    | c :: r, hl, h =>
      rw [List.length_cons] at hl
      have up : p.2 <:+ r → p.2 <:+ c :: r := fun h => h.trans (List.suffix_cons _ _)
      by_cases h1 : c = 34
      · subst h1
        rw [quoteP_end] at h
        split at h
        · cases h; exact List.suffix_cons _ _
        · cases h
      · by_cases h2 : c.toNat < 32 ∨ 126 < c.toNat
        · rw [quoteP_bad h1 h2] at h; cases h
        · by_cases h3 : c = 92
          · subst h3
            match r, hl, h, up with
            | [], _, h, _ => rw [quoteP_esc0] at h; cases h
            | d :: r2, hl, h, up =>
              rw [List.length_cons] at hl
              have up2 : p.2 <:+ r2 → p.2 <:+ 92 :: d :: r2 := fun h => up (h.trans (List.suffix_cons _ _))
              by_cases h4 : d = 34 ∨ d = 92
              · rw [quoteP_esc h4] at h
                exact up2 (ih r2.length (by omega) r2 rfl _ _ h)
              · by_cases h5 : d ≠ 120 ∨ r2.length < 2
                · rw [quoteP_no h4 h5] at h; cases h
                · match r2, hl, h, h5, up2 with
                  | [], _, _, h5, _ => exact absurd (.inr (by decide)) h5
                  | [_], _, _, h5, _ => exact absurd (.inr (by simp)) h5
                  | x1 :: x2 :: r3, hl, h, h5, up2 =>
                    have hd : d = 120 := Classical.byContradiction fun e => h5 (.inl e)
                    rw [hd, quoteP_hex] at h
                    rw [List.length_cons, List.length_cons] at hl
                    split at h
                    · exact up2 (((ih r3.length (by omega) r3 rfl _ _ h).trans (List.suffix_cons _ _)).trans (List.suffix_cons _ _))
                    · cases h
          · rw [quoteP_one h1 h2 h3] at h
            exact up (ih r.length (by omega) r rfl _ _ h)
theorem suf_drop {a b : List UInt8} (h : a <:+ b) : b.drop (b.length - a.length) = a := by
  obtain ⟨t, rfl⟩ := h
  rw [List.length_append, Nat.add_sub_cancel]
  exact List.drop_left
theorem wordsR_spec (s : ByteArray) (hs : s.size ≤ 1000000) : Spec Tryz.prog 26 [.raw (.string s)] [] 1 (σ := WS) (wordsG (strB s)) (fun r => .tup [.sl 0 2 0 r.l.length r.c, .raw (.bool r.ok)]) (fun r => [(0, tWR r.l r.c)]) := by
  refine Spec.of Tryz.func26 rfl Tryz.ntmps26 rfl (bdl_nil _) fun ρ w => ?_
  have hlen := strB_size s
  obtain ⟨t, ht⟩ : ∃ t, strB s = t := ⟨_, rfl⟩
  rw [ht] at hlen ⊢
  refine C.seq ?_
  refine C.region ?_
  repeat (first | refine R.zb ttok ?_ | refine R.zu ttok ?_ | refine R.zc ttok ?_ | refine R.za ttok ?_ | refine R.zx ?_ | refine R.zl ttok ?_ | refine R.zs ttok ?_ | refine R.z ttok ?_ | refine R.zk ?_ | refine R.zn ?_)
  refine R.done ?_
  refine X.then ?_
  refine C.seq ?_
  refine C.region ?_
  repeat (first | refine R.zb ttok ?_ | refine R.zu ttok ?_ | refine R.zc ttok ?_ | refine R.za ttok ?_ | refine R.zx ?_ | refine R.zl ttok ?_ | refine R.zs ttok ?_ | refine R.z ttok ?_ | refine R.zk ?_ | refine R.zn ?_)
  refine R.done ?_
  refine X.then ?_
  refine C.noneT 4 (.sl 0 2 0 0 0) (tWR [] 0) (none_tab _ _ _ _) rfl rfl rfl (fun ρ h => sl_none h) ?_
  refine sS_ ?_
  refine C.loop (σ := Nat × List WD × Nat) (L2 := 1) (fun x => x.1 ≤ s.size ∧ x.2.1.length ≤ x.1 ∧ x.2.1.length ≤ x.2.2 ∧ x.2.2 ≤ 9223372036854775807 ∧ (wordsP t).map wsOf = (wordsP (t.drop x.1)).map (fun ws => x.2.1 ++ wsOf ws))
    (fun x => [(0, .raw (.string s)), (4, .sl 0 2 0 x.2.1.length x.2.2), (5, .raw (.int .i64 (x.1 : Nat)))]) (fun x => [(0, tWR x.2.1 x.2.2)]) _ (fun x => s.size - x.1) [] (0, [], 0) ⟨Nat.zero_le _, Nat.le_refl _, Nat.le_refl _, Nat.zero_le _, by simp⟩ rfl hS12_ hS10_ rfl (fun _ h => h) ?_
  rintro ⟨i, W, c⟩ ⟨hi, hWi, hc, hc', h4⟩
  dsimp only at hi hWi hc hc' h4 ⊢
  refine sS_ ?_
  by_cases hlt : i < s.size
  · rw [decide_eq_true (show ((i : Nat) : Int) < (s.size : Nat) by omega)]
    have hlt' : i < t.length := by omega
    have hdg := drop_get hlt'
    obtain ⟨b, hb⟩ : ∃ b, t.getD i 0 = b := ⟨_, rfl⟩
    rw [hb] at hdg
    have hbN : b.toNat < 256 := b.toNat_lt
    have hbv : ∀ k : UInt8, ((((b.toNat : Nat) : Int) = (k.toNat : Nat)) ↔ b = k) := fun k => ⟨fun e => UInt8.toNat_inj.1 (by omega), fun e => by rw [e]⟩
    refine sS_ ?_
    refine R.sx ttok (i) rfl rfl rfl rfl (by kernel_rfl) (by omega) (by show _ < (strB s).length; rw [ht]; omega) ?_
    rw [show s.data.toList.getD (i) 0 = b by rw [← hb, ← ht]; rfl]
    refine sS_ ?_
    by_cases h35 : b = 35
    · rw [decide_eq_false (show ¬ (((b.toNat : Nat) : Int) ≠ 35) from fun h => h ((hbv 35).2 h35))]
      have hG : wordsG t ⟨W, c, true⟩ := endG (by
        rw [h4, hdg, wordsP_end (.inr ⟨_, by rw [h35]; exact trim_id (by decide) (by decide)⟩)]
        rfl) hc hc' (by omega)
      refine sS_ ?_
      refine X.fin ttok ⟨W, c, true⟩ [] hG rfl rfl rfl hS7_ _ (by first | exact .inl rfl | exact .inr rfl)
    · rw [decide_eq_true (show (((b.toNat : Nat) : Int) ≠ 35) from fun h => h35 ((hbv 35).1 h))]
      refine sS_ ?_
      refine R.sx ttok (i) rfl rfl rfl rfl (by kernel_rfl) (by omega) (by show _ < (strB s).length; rw [ht]; omega) ?_
      rw [show s.data.toList.getD (i) 0 = b by rw [← hb, ← ht]; rfl]
      refine sS_ ?_
      by_cases h32 : b = 32
      · rw [decide_eq_true (show (((b.toNat : Nat) : Int) = 32) from (hbv 32).2 h32)]
        refine sS_ ?_
        exact X.back [] (i + 1, W, c) ⟨hlt, by dsimp only; omega, hc, hc', by
          rw [h4, hdg, wordsP_congr (trim_skip (.inl h32))]⟩ (by dsimp only; omega) rfl hS12_ hS10_ rfl (fun _ h => h)
      · rw [decide_eq_false (show ¬ (((b.toNat : Nat) : Int) = 32) from fun h => h32 ((hbv 32).1 h))]
        refine sS_ ?_
        refine R.sx ttok (i) rfl rfl rfl rfl (by kernel_rfl) (by omega) (by show _ < (strB s).length; rw [ht]; omega) ?_
        rw [show s.data.toList.getD (i) 0 = b by rw [← hb, ← ht]; rfl]
        refine sS_ ?_
        by_cases h9 : b = 9
        · rw [decide_eq_true (show (((b.toNat : Nat) : Int) = 9) from (hbv 9).2 h9)]
          refine sS_ ?_
          exact X.back [] (i + 1, W, c) ⟨hlt, by dsimp only; omega, hc, hc', by
            rw [h4, hdg, wordsP_congr (trim_skip (.inr h9))]⟩ (by dsimp only; omega) rfl hS12_ hS10_ rfl (fun _ h => h)
        · rw [decide_eq_false (show ¬ (((b.toNat : Nat) : Int) = 9) from fun h => h9 ((hbv 9).1 h))]
          have htr : Lib.trimLeftS (t.drop i) [32, 9] = b :: t.drop (i + 1) := by rw [hdg]; exact trim_id h32 h9
          refine sS_ ?_
          refine R.sx ttok (i) rfl rfl rfl rfl (by kernel_rfl) (by omega) (by show _ < (strB s).length; rw [ht]; omega) ?_
          rw [show s.data.toList.getD (i) 0 = b by rw [← hb, ← ht]; rfl]
          refine sS_ ?_
          by_cases h34 : b = 34
          · rw [decide_eq_true (show (((b.toNat : Nat) : Int) = 34) from (hbv 34).2 h34)]
            rw [wordsP_q (l0 := t.drop i) (r := t.drop (i + 1)) (by rw [htr, h34])] at h4
            refine sS_ ?_
            refine R.cl [] (quotedR_spec s i hlt hs) Tryz.call61 hS11_ rfl rfl rfl (fun _ => rfl) rfl (by kernel_rfl) fun _ _ => ?_
            rw [ht]
            have hqv : quotRV t i = match quoteP [] (t.drop (i + 1)) with
              | some p => (strOf p.1, (t.length - p.2.length : Nat))
              | none => (⟨#[]⟩, -1) := rfl
            cases hq : quoteP [] (t.drop (i + 1)) with
            | none =>
              rw [hq] at h4 hqv
              dsimp only at h4 hqv
              rw [hqv]
              refine sS_ ?_
              refine X.noneT 2 (.sl 1 2 0 0 0) (tWR [] 0) (none_tab _ _ _ _) rfl rfl rfl (fun ρ h => sl_none h) ?_
              refine X.fin ttok ⟨[], 0, false⟩ [(0, 1)] (noG h4) rfl rfl rfl hS7_ _ (by first | exact .inl rfl | exact .inr rfl)
            | some p =>
              rw [hq] at h4 hqv
              have hsf := quoteP_suf _ _ _ hq
              have hlt2 := quoteP_lt _ _ _ hq
              rw [List.length_drop] at hlt2
              obtain ⟨p1, p2⟩ := p
              dsimp only at h4 hqv hsf hlt2
              rw [hqv]
              dsimp only
              have hsf2 : p2 <:+ t := hsf.trans (List.drop_suffix _ _)
              have hd2 := suf_drop hsf2
              obtain ⟨k, hk⟩ : ∃ k, t.length - p2.length = k := ⟨_, rfl⟩
              rw [hk] at hd2 ⊢
              have hp2 := hsf2.length_le
              refine sS_ ?_
              rw [decide_eq_false (show ¬ ((k : Nat) : Int) < 0 by omega)]
              obtain ⟨q, hqq⟩ : ∃ q, strOf p1 = q := ⟨_, rfl⟩
              rw [hqq]
              refine sS_ ?_
              refine R.app (xs := rds W) (news := rds [(q, true)]) ttok (fun c => tWR (W ++ [(q, true)]) c) rfl rfl (dstRd rfl) (SrcA.cells rfl rfl) (asRd _ _ _ (rds_app _ _).symm) rfl rfl rfl rfl rfl rfl (by decide) rfl rfl rfl (by kernel_rfl) hc' (by show (W.length + 1) * 24 ≤ _; omega) (by show W.length + 1 ≤ _; omega) fun cB hB hB2 => ?_
              have hlW : (W ++ [(q, true)]).length = W.length + 1 := by simp
              rw [← hlW] at hB ⊢
              refine sS_ ?_
              exact X.back [(0, 2)] (k, W ++ [(q, true)], cB) ⟨by dsimp only; omega, by dsimp only; omega, hB, hB2, by
                rw [h4, Option.map_map]
                show _ = Option.map _ (wordsP (t.drop k))
                rw [hd2]
                congr 1
                funext ws
                show W ++ wsOf ((p1, true) :: ws) = W ++ [(q, true)] ++ wsOf ws
                rw [List.append_assoc, ← hqq]
                rfl⟩ (by dsimp only; omega) rfl hS12_ hS10_ rfl (fun _ h => h)
          · rw [decide_eq_false (show ¬ (((b.toNat : Nat) : Int) = 34) from fun h => h34 ((hbv 34).1 h))]
            rw [wordsP_w (l0 := t.drop i) htr h35 h34] at h4
            rw [← hdg] at h4
            have hg0 : gapC (t.getD i 0) = false := by rw [hb]; exact gapC_ne h32 h9 h35
            have hdl : ∀ j, (t.drop i).getD j 0 = t.getD (i + j) 0 := fun j => by rw [List.getD_eq_getElem?_getD, List.getElem?_drop, ← List.getD_eq_getElem?_getD]
            refine sS_ ?_
            refine C.loop (σ := Nat) (L2 := 1) (fun k => i ≤ k ∧ k ≤ s.size ∧ ∀ j, i ≤ j → j < k → gapC (t.getD j 0) = false) (fun k => [(0, .raw (.string s)), (4, .sl 0 2 0 W.length c), (5, .raw (.int .i64 (k : Nat))), (8, .raw (.int .i64 (i : Nat)))]) (fun _ => [(0, tWR W c)]) _ (fun k => s.size - k) [] i ⟨Nat.le_refl _, by omega, fun j h1 h2 => by omega⟩ rfl hS12_ hS10_ rfl (fun _ h => h) ?_
            rintro k ⟨hik, hks, hgk⟩
            refine sS_ ?_
            by_cases hkl : k < s.size
            · rw [decide_eq_true (show ((k : Nat) : Int) < (s.size : Nat) by omega)]
              obtain ⟨d, hd⟩ : ∃ d, t.getD k 0 = d := ⟨_, rfl⟩
              have hdN : d.toNat < 256 := d.toNat_lt
              have hdv : ∀ k : UInt8, ((((d.toNat : Nat) : Int) = (k.toNat : Nat)) ↔ d = k) := fun k => ⟨fun e => UInt8.toNat_inj.1 (by omega), fun e => by rw [e]⟩
              refine sS_ ?_
              refine R.sx ttok (k) rfl rfl rfl rfl (by kernel_rfl) (by omega) (by show _ < (strB s).length; rw [ht]; omega) ?_
              rw [show s.data.toList.getD (k) 0 = d by rw [← hd, ← ht]; rfl]
              refine sS_ ?_
              by_cases k32 : d = 32
              · rw [decide_eq_false (show ¬ (((d.toNat : Nat) : Int) ≠ 32) from fun h => h ((hdv 32).2 k32))]
                have hgd : gapC (t.getD k 0) = true := by rw [hd, k32]; rfl
                have hw2 : k - i = (t.drop i).length ∨ gapC ((t.drop i).getD (k - i) 0) = true := .inr (by rw [hdl, show i + (k - i) = k by omega]; exact hgd)
                have hN : wordN (t.drop i) = k - i := wordN_at (by rw [List.length_drop]; omega) (fun j hj => by rw [hdl]; exact hgk (i + j) (by omega) (by omega)) hw2
                have hki : i < k := by
                  rcases Nat.lt_or_ge i k with h | h
                  · exact h
                  · exfalso
                    obtain rfl : k = i := by omega
                    (rw [hgd] at hg0; cases hg0)
                rw [hN, List.drop_drop, show i + (k - i) = k by omega] at h4
                refine sS_ ?_
                refine R.sls ttok i k rfl rfl rfl rfl (by kernel_rfl) ⟨_, _, rfl, rfl⟩ ⟨_, _, rfl, rfl⟩ hik (by omega) ?_
                obtain ⟨q, hqq⟩ : ∃ q, s.extract i k = q := ⟨_, rfl⟩
                have hq2 : q = strOf ((t.drop i).take (k - i)) := strB_inj (by rw [← hqq, extract_mid, ht]; rfl)
                rw [hqq]
                refine sS_ ?_
                refine R.app (xs := rds W) (news := rds [(q, false)]) ttok (fun c => tWR (W ++ [(q, false)]) c) rfl rfl (dstRd rfl) (SrcA.cells rfl rfl) (asRd _ _ _ (rds_app _ _).symm) rfl rfl rfl rfl rfl rfl (by decide) rfl rfl rfl (by kernel_rfl) hc' (by show (W.length + 1) * 24 ≤ _; omega) (by show W.length + 1 ≤ _; omega) fun cB hB hB2 => ?_
                have hlW : (W ++ [(q, false)]).length = W.length + 1 := by simp
                rw [← hlW] at hB ⊢
                refine sS_ ?_
                exact X.back [(0, 2)] (k, W ++ [(q, false)], cB) ⟨hks, by dsimp only; omega, hB, hB2, by
                  rw [h4, Option.map_map]
                  congr 1
                  funext ws
                  show W ++ wsOf (((t.drop i).take (k - i), false) :: ws) = W ++ [(q, false)] ++ wsOf ws
                  rw [List.append_assoc, hq2]
                  rfl⟩ (by dsimp only; omega) rfl hS12_ hS10_ rfl (fun _ h => h)
              · rw [decide_eq_true (show (((d.toNat : Nat) : Int) ≠ 32) from fun h => k32 ((hdv 32).1 h))]
                refine sS_ ?_
                refine R.sx ttok (k) rfl rfl rfl rfl (by kernel_rfl) (by omega) (by show _ < (strB s).length; rw [ht]; omega) ?_
                rw [show s.data.toList.getD (k) 0 = d by rw [← hd, ← ht]; rfl]
                refine sS_ ?_
                by_cases k9 : d = 9
                · rw [decide_eq_false (show ¬ (((d.toNat : Nat) : Int) ≠ 9) from fun h => h ((hdv 9).2 k9))]
                  have hgd : gapC (t.getD k 0) = true := by rw [hd, k9]; rfl
                  have hw2 : k - i = (t.drop i).length ∨ gapC ((t.drop i).getD (k - i) 0) = true := .inr (by rw [hdl, show i + (k - i) = k by omega]; exact hgd)
                  have hN : wordN (t.drop i) = k - i := wordN_at (by rw [List.length_drop]; omega) (fun j hj => by rw [hdl]; exact hgk (i + j) (by omega) (by omega)) hw2
                  have hki : i < k := by
                    rcases Nat.lt_or_ge i k with h | h
                    · exact h
                    · exfalso
                      obtain rfl : k = i := by omega
                      (rw [hgd] at hg0; cases hg0)
                  rw [hN, List.drop_drop, show i + (k - i) = k by omega] at h4
                  refine sS_ ?_
                  refine R.sls ttok i k rfl rfl rfl rfl (by kernel_rfl) ⟨_, _, rfl, rfl⟩ ⟨_, _, rfl, rfl⟩ hik (by omega) ?_
                  obtain ⟨q, hqq⟩ : ∃ q, s.extract i k = q := ⟨_, rfl⟩
                  have hq2 : q = strOf ((t.drop i).take (k - i)) := strB_inj (by rw [← hqq, extract_mid, ht]; rfl)
                  rw [hqq]
                  refine sS_ ?_
                  refine R.app (xs := rds W) (news := rds [(q, false)]) ttok (fun c => tWR (W ++ [(q, false)]) c) rfl rfl (dstRd rfl) (SrcA.cells rfl rfl) (asRd _ _ _ (rds_app _ _).symm) rfl rfl rfl rfl rfl rfl (by decide) rfl rfl rfl (by kernel_rfl) hc' (by show (W.length + 1) * 24 ≤ _; omega) (by show W.length + 1 ≤ _; omega) fun cB hB hB2 => ?_
                  have hlW : (W ++ [(q, false)]).length = W.length + 1 := by simp
                  rw [← hlW] at hB ⊢
                  refine sS_ ?_
                  exact X.back [(0, 2)] (k, W ++ [(q, false)], cB) ⟨hks, by dsimp only; omega, hB, hB2, by
                    rw [h4, Option.map_map]
                    congr 1
                    funext ws
                    show W ++ wsOf (((t.drop i).take (k - i), false) :: ws) = W ++ [(q, false)] ++ wsOf ws
                    rw [List.append_assoc, hq2]
                    rfl⟩ (by dsimp only; omega) rfl hS12_ hS10_ rfl (fun _ h => h)
                · rw [decide_eq_true (show (((d.toNat : Nat) : Int) ≠ 9) from fun h => k9 ((hdv 9).1 h))]
                  refine sS_ ?_
                  refine R.sx ttok (k) rfl rfl rfl rfl (by kernel_rfl) (by omega) (by show _ < (strB s).length; rw [ht]; omega) ?_
                  rw [show s.data.toList.getD (k) 0 = d by rw [← hd, ← ht]; rfl]
                  refine sS_ ?_
                  by_cases k35 : d = 35
                  · rw [decide_eq_false (show ¬ (((d.toNat : Nat) : Int) ≠ 35) from fun h => h ((hdv 35).2 k35))]
                    have hgd : gapC (t.getD k 0) = true := by rw [hd, k35]; rfl
                    have hw2 : k - i = (t.drop i).length ∨ gapC ((t.drop i).getD (k - i) 0) = true := .inr (by rw [hdl, show i + (k - i) = k by omega]; exact hgd)
                    have hN : wordN (t.drop i) = k - i := wordN_at (by rw [List.length_drop]; omega) (fun j hj => by rw [hdl]; exact hgk (i + j) (by omega) (by omega)) hw2
                    have hki : i < k := by
                      rcases Nat.lt_or_ge i k with h | h
                      · exact h
                      · exfalso
                        obtain rfl : k = i := by omega
                        (rw [hgd] at hg0; cases hg0)
                    rw [hN, List.drop_drop, show i + (k - i) = k by omega] at h4
                    refine sS_ ?_
                    refine R.sls ttok i k rfl rfl rfl rfl (by kernel_rfl) ⟨_, _, rfl, rfl⟩ ⟨_, _, rfl, rfl⟩ hik (by omega) ?_
                    obtain ⟨q, hqq⟩ : ∃ q, s.extract i k = q := ⟨_, rfl⟩
                    have hq2 : q = strOf ((t.drop i).take (k - i)) := strB_inj (by rw [← hqq, extract_mid, ht]; rfl)
                    rw [hqq]
                    refine sS_ ?_
                    refine R.app (xs := rds W) (news := rds [(q, false)]) ttok (fun c => tWR (W ++ [(q, false)]) c) rfl rfl (dstRd rfl) (SrcA.cells rfl rfl) (asRd _ _ _ (rds_app _ _).symm) rfl rfl rfl rfl rfl rfl (by decide) rfl rfl rfl (by kernel_rfl) hc' (by show (W.length + 1) * 24 ≤ _; omega) (by show W.length + 1 ≤ _; omega) fun cB hB hB2 => ?_
                    have hlW : (W ++ [(q, false)]).length = W.length + 1 := by simp
                    rw [← hlW] at hB ⊢
                    refine sS_ ?_
                    exact X.back [(0, 2)] (k, W ++ [(q, false)], cB) ⟨hks, by dsimp only; omega, hB, hB2, by
                      rw [h4, Option.map_map]
                      congr 1
                      funext ws
                      show W ++ wsOf (((t.drop i).take (k - i), false) :: ws) = W ++ [(q, false)] ++ wsOf ws
                      rw [List.append_assoc, hq2]
                      rfl⟩ (by dsimp only; omega) rfl hS12_ hS10_ rfl (fun _ h => h)
                  · rw [decide_eq_true (show (((d.toNat : Nat) : Int) ≠ 35) from fun h => k35 ((hdv 35).1 h))]
                    refine sS_ ?_
                    exact X.back [] (k + 1) ⟨by omega, hkl, fun j h1 h2 => (by
                      rcases Nat.lt_or_ge j k with h | h
                      · exact hgk j h1 h
                      · obtain rfl : j = k := by omega
                        rw [hd]; exact gapC_ne k32 k9 k35)⟩ (by omega) rfl hS12_ hS10_ rfl (fun _ h => h)
            · rw [decide_eq_false (show ¬ ((k : Nat) : Int) < (s.size : Nat) by omega)]
              have hw2 : k - i = (t.drop i).length ∨ gapC ((t.drop i).getD (k - i) 0) = true := .inl (by rw [List.length_drop]; omega)
              have hN : wordN (t.drop i) = k - i := wordN_at (by rw [List.length_drop]; omega) (fun j hj => by rw [hdl]; exact hgk (i + j) (by omega) (by omega)) hw2
              have hki : i < k := by
                rcases Nat.lt_or_ge i k with h | h
                · exact h
                · exfalso
                  obtain rfl : k = i := by omega
                  omega
              rw [hN, List.drop_drop, show i + (k - i) = k by omega] at h4
              refine sS_ ?_
              refine R.sls ttok i k rfl rfl rfl rfl (by kernel_rfl) ⟨_, _, rfl, rfl⟩ ⟨_, _, rfl, rfl⟩ hik (by omega) ?_
              obtain ⟨q, hqq⟩ : ∃ q, s.extract i k = q := ⟨_, rfl⟩
              have hq2 : q = strOf ((t.drop i).take (k - i)) := strB_inj (by rw [← hqq, extract_mid, ht]; rfl)
              rw [hqq]
              refine sS_ ?_
              refine R.app (xs := rds W) (news := rds [(q, false)]) ttok (fun c => tWR (W ++ [(q, false)]) c) rfl rfl (dstRd rfl) (SrcA.cells rfl rfl) (asRd _ _ _ (rds_app _ _).symm) rfl rfl rfl rfl rfl rfl (by decide) rfl rfl rfl (by kernel_rfl) hc' (by show (W.length + 1) * 24 ≤ _; omega) (by show W.length + 1 ≤ _; omega) fun cB hB hB2 => ?_
              have hlW : (W ++ [(q, false)]).length = W.length + 1 := by simp
              rw [← hlW] at hB ⊢
              refine sS_ ?_
              exact X.back [(0, 2)] (k, W ++ [(q, false)], cB) ⟨hks, by dsimp only; omega, hB, hB2, by
                rw [h4, Option.map_map]
                congr 1
                funext ws
                show W ++ wsOf (((t.drop i).take (k - i), false) :: ws) = W ++ [(q, false)] ++ wsOf ws
                rw [List.append_assoc, hq2]
                rfl⟩ (by dsimp only; omega) rfl hS12_ hS10_ rfl (fun _ h => h)
  · rw [decide_eq_false (show ¬ ((i : Nat) : Int) < (s.size : Nat) by omega)]
    have hG : wordsG t ⟨W, c, true⟩ := endG (by
      rw [h4, List.drop_eq_nil_of_le (by omega), wordsP_end (.inl rfl)]
      rfl) hc hc' (by omega)
    refine sS_ ?_
    refine X.fin ttok ⟨W, c, true⟩ [] hG rfl rfl rfl hS7_ _ (by first | exact .inl rfl | exact .inr rfl)
end Go.Proofs.YtaieficgifingaaGreatDoor
namespace Go.Proofs.YtaieficgifingaaGreatDoor
set_option linter.unusedVariables false
set_option linter.constructorNameAsVariable false
set_option linter.unusedSimpArgs false
open Go.RowKit
set_option maxRecDepth 100000
set_option maxHeartbeats 8000000
def nmL : List ByteArray := [⟨#[]⟩, ⟨#[115, 101, 116]⟩, ⟨#[97, 114, 103]⟩, ⟨#[103, 101, 116]⟩, ⟨#[112, 117, 116]⟩, ⟨#[100, 101, 108]⟩, ⟨#[97, 100, 100]⟩, ⟨#[115, 117, 98]⟩, ⟨#[109, 117, 108]⟩, ⟨#[106, 111, 105, 110]⟩, ⟨#[110, 101, 101, 100]⟩, ⟨#[115, 107, 105, 112]⟩, ⟨#[115, 117, 109]⟩, ⟨#[99, 111, 117, 110, 116]⟩, ⟨#[110, 101, 120, 116]⟩, ⟨#[116, 101, 108, 108]⟩, ⟨#[115, 116, 111, 112]⟩]
def fks : Nat → List FK
  | 1 => [.a, .v]
  | 2 => [.a, .n]
  | 3 => [.a, .b]
  | 4 => [.a, .b]
  | 5 => [.a]
  | 6 => [.a, .b, .c]
  | 7 => [.a, .b, .c]
  | 8 => [.a, .b, .c]
  | 9 => [.a, .b, .c]
  | 10 => [.b, .s, .c]
  | 11 => [.k, .b, .s, .c]
  | 12 => [.a, .b, .c, .n]
  | 13 => [.a, .b, .c, .n]
  | 14 => [.a, .b]
  | 15 => [.a]
  | _ => []
def FK.lt : FK → UInt8
  | .a => 97
  | .b => 98
  | .c => 99
  | .n => 110
  | .k => 107
  | .s => 115
  | .v => 118
/-- the operation that a word names -/
def nmB (p : WD) (i : Nat) : Bool := !p.2 && decide (strB p.1 = strB (nmL.getD i ⟨#[]⟩))
theorem insFrom_none {W : List WD} : ∀ (l : List Sh), (∀ s ∈ l, ¬ ((W.headD wdD).2 = false ∧ strB (W.headD wdD).1 = strB s.w)) → insFrom l W = none
  | [], _ => rfl
  | s :: r, h => by
    rw [ins_skip fun hh => h s (by simp) ⟨hh.1, hh.2.1⟩]
    exact insFrom_none r fun x hx => h x (by simp [hx])
theorem ins_pick {W : List WD} {s : Sh} : ∀ (a b : List Sh), (∀ x ∈ a, strB s.w ≠ strB x.w) → (∀ x ∈ b, strB s.w ≠ strB x.w) → (W.headD wdD).2 = false → strB (W.headD wdD).1 = strB s.w → insFrom (a ++ s :: b) W = if W.length = 1 + s.f.length then rdP s.f (insZ s.op) (W.drop 1) else none
  | [], b, _, hb, h2, hw => by
    have hnb : insFrom b W = none := insFrom_none b fun x hx hh => hb x hx (hw.symm.trans hh.2)
    show insFrom (s :: b) W = _
    by_cases hl : W.length = 1 + s.f.length
    · rw [if_pos hl]
      cases hr : rdP s.f (insZ s.op) (W.drop 1) with
      | none => rw [ins_none ⟨h2, hw, hl⟩ hr, hnb]
      | some x => rw [ins_some ⟨h2, hw, hl⟩ hr]
    · rw [if_neg hl, ins_skip fun hh => hl hh.2.2, hnb]
  | x :: a, b, ha, hb, h2, hw => by
    show insFrom (x :: (a ++ s :: b)) W = _
    rw [ins_skip fun hh => ha x (by simp) (hw.symm.trans hh.2.1)]
    exact ins_pick a b (fun y hy => ha y (by simp [hy])) hb h2 hw
theorem insP_at {W : List WD} {o : Nat} (h1 : 1 ≤ o) (h2 : o < 17) (h : nmB (W.headD wdD) o = true) : insP W = if W.length = 1 + (fks o).length then rdP (fks o) (insZ o) (W.drop 1) else none := by
  unfold nmB at h
  simp only [Bool.and_eq_true, decide_eq_true_eq, Bool.not_eq_true'] at h
  obtain ⟨hq, hw⟩ := h
  unfold insP
  match o, h1, h2 with
  | 1, _, _ => exact ins_pick (s := ⟨⟨#[115, 101, 116]⟩, 1, [.a, .v]⟩) (shL.take 0) (shL.drop 1) (by decide) (by decide) hq hw
  | 2, _, _ => exact ins_pick (s := ⟨⟨#[97, 114, 103]⟩, 2, [.a, .n]⟩) (shL.take 1) (shL.drop 2) (by decide) (by decide) hq hw
  | 3, _, _ => exact ins_pick (s := ⟨⟨#[103, 101, 116]⟩, 3, [.a, .b]⟩) (shL.take 2) (shL.drop 3) (by decide) (by decide) hq hw
  | 4, _, _ => exact ins_pick (s := ⟨⟨#[112, 117, 116]⟩, 4, [.a, .b]⟩) (shL.take 4) (shL.drop 5) (by decide) (by decide) hq hw
  | 5, _, _ => exact ins_pick (s := ⟨⟨#[100, 101, 108]⟩, 5, [.a]⟩) (shL.take 5) (shL.drop 6) (by decide) (by decide) hq hw
  | 6, _, _ => exact ins_pick (s := ⟨⟨#[97, 100, 100]⟩, 6, [.a, .b, .c]⟩) (shL.take 7) (shL.drop 8) (by decide) (by decide) hq hw
  | 7, _, _ => exact ins_pick (s := ⟨⟨#[115, 117, 98]⟩, 7, [.a, .b, .c]⟩) (shL.take 8) (shL.drop 9) (by decide) (by decide) hq hw
  | 8, _, _ => exact ins_pick (s := ⟨⟨#[109, 117, 108]⟩, 8, [.a, .b, .c]⟩) (shL.take 9) (shL.drop 10) (by decide) (by decide) hq hw
  | 9, _, _ => exact ins_pick (s := ⟨⟨#[106, 111, 105, 110]⟩, 9, [.a, .b, .c]⟩) (shL.take 10) (shL.drop 11) (by decide) (by decide) hq hw
  | 10, _, _ => exact ins_pick (s := ⟨⟨#[110, 101, 101, 100]⟩, 10, [.b, .s, .c]⟩) (shL.take 11) (shL.drop 12) (by decide) (by decide) hq hw
  | 11, _, _ => exact ins_pick (s := ⟨⟨#[115, 107, 105, 112]⟩, 11, [.k, .b, .s, .c]⟩) (shL.take 12) (shL.drop 13) (by decide) (by decide) hq hw
  | 12, _, _ => exact ins_pick (s := ⟨⟨#[115, 117, 109]⟩, 12, [.a, .b, .c, .n]⟩) (shL.take 13) (shL.drop 14) (by decide) (by decide) hq hw
  | 13, _, _ => exact ins_pick (s := ⟨⟨#[99, 111, 117, 110, 116]⟩, 13, [.a, .b, .c, .n]⟩) (shL.take 14) (shL.drop 15) (by decide) (by decide) hq hw
  | 14, _, _ => exact ins_pick (s := ⟨⟨#[110, 101, 120, 116]⟩, 14, [.a, .b]⟩) (shL.take 3) (shL.drop 4) (by decide) (by decide) hq hw
  | 15, _, _ => exact ins_pick (s := ⟨⟨#[116, 101, 108, 108]⟩, 15, [.a]⟩) (shL.take 6) (shL.drop 7) (by decide) (by decide) hq hw
  | 16, _, _ => exact ins_pick (s := ⟨⟨#[115, 116, 111, 112]⟩, 16, []⟩) (shL.take 15) (shL.drop 16) (by decide) (by decide) hq hw
  | o + 17, _, h2 => omega
end Go.Proofs.YtaieficgifingaaGreatDoor
namespace Go.Proofs.YtaieficgifingaaGreatDoor
set_option linter.unusedVariables false
set_option linter.unusedSimpArgs false
open Go.RowKit
set_option maxRecDepth 100000
set_option maxHeartbeats 8000000
structure PT where
  i : Nat
  p : PR
  c : Nat
  c2 : Nat
/-- the loop's states -/
structure PT.ok (t : List UInt8) (s : PT) : Prop where
  le : s.i ≤ (linesL t).length
  run : runL (linesL t) 1 pr0 = runL ((linesL t).drop s.i) (s.i + 1) s.p
  cd : s.p.cd.length ≤ s.i
  ln : s.p.ln.length = s.p.cd.length
  hd : s.p.head ≤ s.i
  c1 : s.p.cd.length ≤ s.c ∧ s.c ≤ 9223372036854775807
  c2 : s.p.ln.length ≤ s.c2 ∧ s.c2 ≤ 9223372036854775807
end Go.Proofs.YtaieficgifingaaGreatDoor
namespace Go.Proofs.YtaieficgifingaaGreatDoor
set_option linter.unusedVariables false
set_option linter.unusedSimpArgs false
open Go.RowKit
set_option maxRecDepth 100000
set_option maxHeartbeats 4000000
theorem quo16 {x : Nat} (h : x < 256) : IntKind.u8.wrap (((x : Nat) : Int).tdiv 16) = ((x / 16 : Nat) : Int) := by
  have key : ∀ a : Fin 256, IntKind.u8.wrap (((a.val : Nat) : Int).tdiv 16) = ((a.val / 16 : Nat) : Int) := by decide
  exact key ⟨x, h⟩
theorem quoteR_spec (s : ByteArray) (hs : s.size ≤ 1000000) : Spec Tryz.prog 40 [.raw (.string s)] [] 0 (σ := Unit) (fun _ => True) (fun _ => .raw (.string (strOf (quotW (strB s))))) (fun _ => []) := by
  refine Spec.of Tryz.func40 rfl Tryz.ntmps40 rfl (bdl_nil _) fun ρ w => ?_
  have hlen := strB_size s
  refine sS_ ?_
  refine C.tellB 0 [34] rfl rfl ?_
  refine C.loop (σ := Nat × Nat) (L2 := 1) (fun x => x.1 ≤ (strB s).length ∧ x.2 ≤ 9223372036854775807) (fun x => [(0, .raw (.string s)), (3, .raw (.string ⟨#[48, 49, 50, 51, 52, 53, 54, 55, 56, 57, 97, 98, 99, 100, 101, 102]⟩)), (4, .sl 0 1 0 ([34] ++ ((strB s).take x.1).flatMap quotC).length x.2), (5, .raw (.int .i64 (x.1 : Nat)))]) (fun x => [(0, .bytes ([34] ++ ((strB s).take x.1).flatMap quotC) x.2 5)]) _ (fun x => (strB s).length - x.1) [] (0, 1) ⟨Nat.zero_le _, by decide⟩ rfl hS12_ hS7_ rfl (fun _ h => h) ?_
  rintro ⟨i, c⟩ ⟨hi, hc⟩
  dsimp only at hi hc ⊢
  have hfl := flatC_len ((strB s).take i)
  rw [List.length_take] at hfl
  refine sS_ ?_
  by_cases hlt : i < (strB s).length
  · rw [decide_eq_true (show ((i : Nat) : Int) < (s.size : Nat) by omega)]
    have hst := flat_snoc hlt
    refine sS_ ?_
    refine R.sx ttok i rfl rfl rfl rfl rfl rfl hlt ?_
    rw [show s.data.toList = strB s from rfl]
    obtain ⟨b, hb⟩ : ∃ b, (strB s).getD i 0 = b := ⟨_, rfl⟩
    rw [hb] at hst ⊢
    have hbN : b.toNat < 256 := b.toNat_lt
    obtain ⟨q, hq⟩ : ∃ q, ((strB s).take i).flatMap quotC = q := ⟨_, rfl⟩
    rw [hq] at hst hfl ⊢
    have hcv : ∀ k : UInt8, ((((b.toNat : Nat) : Int) = (k.toNat : Nat)) ↔ b = k) := fun k => ⟨fun e => UInt8.toNat_inj.1 (by omega), fun e => by rw [e]⟩
    refine sS_ ?_
    by_cases hlo : b.toNat < 32
    · rw [decide_eq_true (show ((b.toNat : Nat) : Int) < 32 by omega)]
      have hor : b.toNat < 32 ∨ 126 < b.toNat := .inl hlo
      have hlh : ¬ (b = 34 ∨ b = 92) := fun h => by rcases h with rfl | rfl <;> revert hor <;> decide
      have hqc : quotC b = qh b := by unfold quotC; rw [if_neg hlh, if_pos hor]
      rw [hqc] at hst
      refine sS_ ?_
      refine C.draw [[], [], [], [2], [1, 2, 3], [], [], [6], [5, 6, 7], [1, 2, 3, 4, 5, 6, 7, 8], [0, 1, 2, 3, 4, 5, 6, 7, 8, 9], [0, 1, 2, 3, 4, 5, 6, 7, 8, 9, 10]] [9, 10] (by kernel_rfl) (by kernel_rfl) ?_
      refine sS_ ?_
      refine R.quo ((b.toNat / 16 : Nat) : Int) rfl rfl rfl (by kernel_rfl) (by decide) (quo16 hbN) ?_
      refine R.sx ttok (b.toNat / 16) rfl rfl rfl rfl (by kernel_rfl) rfl (by show _ < 16; omega) ?_
      refine sS_ ?_
      refine R.rem ((b.toNat % 16 : Nat) : Int) rfl rfl rfl (by kernel_rfl) (by decide) (Int.ofNat_tmod b.toNat 16) ?_
      refine R.sx ttok (b.toNat % 16) rfl rfl rfl rfl (by kernel_rfl) rfl (by show _ < 16; omega) ?_
      refine sS_ ?_
      refine R.apb ttok (q := qh b) rfl rfl rfl rfl (SrcA.cells rfl rfl) rfl rfl rfl rfl rfl rfl rfl rfl rfl hc (by rw [List.length_append, List.length_append]; simp only [List.length_cons, List.length_nil]; omega) fun c' h5 h6 => ?_
      refine sS_ ?_
      have hnew : [34] ++ ((strB s).take (i + 1)).flatMap quotC = [34] ++ q ++ qh b := by rw [hst]; simp only [List.append_assoc, List.cons_append, List.nil_append]
      exact X.back [(0, 2)] (i + 1, c') ⟨hlt, h6⟩ (by dsimp only; omega) rfl (by
        show HasT _ _ _ [_, _, (4, .sl 0 1 0 ([34] ++ ((strB s).take (i + 1)).flatMap quotC).length c'), _]
        rw [hnew]
        exact hS12_) (by
        show HasH _ _ _ [(0, .bytes ([34] ++ ((strB s).take (i + 1)).flatMap quotC) c' 5)]
        rw [hnew]
        exact hS7_) rfl (fun _ h => h)
    · rw [decide_eq_false (show ¬ ((b.toNat : Nat) : Int) < 32 by omega)]
      refine sS_ ?_
      by_cases hhi : 126 < b.toNat
      · rw [decide_eq_true (show ((b.toNat : Nat) : Int) > 126 by omega)]
        have hor : b.toNat < 32 ∨ 126 < b.toNat := .inr hhi
        have hlh : ¬ (b = 34 ∨ b = 92) := fun h => by rcases h with rfl | rfl <;> revert hor <;> decide
        have hqc : quotC b = qh b := by unfold quotC; rw [if_neg hlh, if_pos hor]
        rw [hqc] at hst
        refine sS_ ?_
        refine C.draw [[], [], [], [2], [1, 2, 3], [], [], [6], [5, 6, 7], [1, 2, 3, 4, 5, 6, 7, 8], [0, 1, 2, 3, 4, 5, 6, 7, 8, 9], [0, 1, 2, 3, 4, 5, 6, 7, 8, 9, 10]] [9, 10] (by kernel_rfl) (by kernel_rfl) ?_
        refine sS_ ?_
        refine R.quo ((b.toNat / 16 : Nat) : Int) rfl rfl rfl (by kernel_rfl) (by decide) (quo16 hbN) ?_
        refine R.sx ttok (b.toNat / 16) rfl rfl rfl rfl (by kernel_rfl) rfl (by show _ < 16; omega) ?_
        refine sS_ ?_
        refine R.rem ((b.toNat % 16 : Nat) : Int) rfl rfl rfl (by kernel_rfl) (by decide) (Int.ofNat_tmod b.toNat 16) ?_
        refine R.sx ttok (b.toNat % 16) rfl rfl rfl rfl (by kernel_rfl) rfl (by show _ < 16; omega) ?_
        refine sS_ ?_
        refine R.apb ttok (q := qh b) rfl rfl rfl rfl (SrcA.cells rfl rfl) rfl rfl rfl rfl rfl rfl rfl rfl rfl hc (by rw [List.length_append, List.length_append]; simp only [List.length_cons, List.length_nil]; omega) fun c' h5 h6 => ?_
        refine sS_ ?_
        have hnew : [34] ++ ((strB s).take (i + 1)).flatMap quotC = [34] ++ q ++ qh b := by rw [hst]; simp only [List.append_assoc, List.cons_append, List.nil_append]
        exact X.back [(0, 2)] (i + 1, c') ⟨hlt, h6⟩ (by dsimp only; omega) rfl (by
          show HasT _ _ _ [_, _, (4, .sl 0 1 0 ([34] ++ ((strB s).take (i + 1)).flatMap quotC).length c'), _]
          rw [hnew]
          exact hS12_) (by
          show HasH _ _ _ [(0, .bytes ([34] ++ ((strB s).take (i + 1)).flatMap quotC) c' 5)]
          rw [hnew]
          exact hS7_) rfl (fun _ h => h)
      · rw [decide_eq_false (show ¬ ((b.toNat : Nat) : Int) > 126 by omega)]
        have hor : ¬ (b.toNat < 32 ∨ 126 < b.toNat) := by omega
        refine sS_ ?_
        by_cases h34 : b = 34
        · rw [decide_eq_true (show (((b.toNat : Nat) : Int) = 34) from (hcv 34).2 h34)]
          have hpp : b = 34 ∨ b = 92 := .inl h34
          have hqc : quotC b = [92, b] := by unfold quotC; rw [if_pos hpp]
          rw [hqc] at hst
          refine sS_ ?_
          refine R.apb ttok (q := [92]) rfl rfl rfl rfl (SrcA.cells rfl rfl) rfl rfl rfl rfl rfl rfl rfl rfl rfl hc (by rw [List.length_append, List.length_append]; simp only [List.length_cons, List.length_nil]; omega) fun c1 g5 g6 => ?_
          refine sS_ ?_
          refine R.apb ttok (q := [b]) rfl rfl rfl rfl (SrcA.cells rfl rfl) rfl rfl rfl rfl rfl rfl rfl rfl rfl g6 (by rw [List.length_append, List.length_append, List.length_append]; simp only [List.length_cons, List.length_nil]; omega) fun c' h5 h6 => ?_
          refine sS_ ?_
          have hnew : [34] ++ ((strB s).take (i + 1)).flatMap quotC = [34] ++ q ++ [92] ++ [b] := by rw [hst]; simp only [List.append_assoc, List.cons_append, List.nil_append]
          exact X.back [(0, 4)] (i + 1, c') ⟨hlt, h6⟩ (by dsimp only; omega) rfl (by
            show HasT _ _ _ [_, _, (4, .sl 0 1 0 ([34] ++ ((strB s).take (i + 1)).flatMap quotC).length c'), _]
            rw [hnew]
            exact hS12_) (by
            show HasH _ _ _ [(0, .bytes ([34] ++ ((strB s).take (i + 1)).flatMap quotC) c' 5)]
            rw [hnew]
            exact hS7_) rfl (fun _ h => h)
        · rw [decide_eq_false (show ¬ (((b.toNat : Nat) : Int) = 34) from fun e => h34 ((hcv 34).1 e))]
          refine sS_ ?_
          by_cases h92 : b = 92
          · rw [decide_eq_true (show (((b.toNat : Nat) : Int) = 92) from (hcv 92).2 h92)]
            have hpp : b = 34 ∨ b = 92 := .inr h92
            have hqc : quotC b = [92, b] := by unfold quotC; rw [if_pos hpp]
            rw [hqc] at hst
            refine sS_ ?_
            refine R.apb ttok (q := [92]) rfl rfl rfl rfl (SrcA.cells rfl rfl) rfl rfl rfl rfl rfl rfl rfl rfl rfl hc (by rw [List.length_append, List.length_append]; simp only [List.length_cons, List.length_nil]; omega) fun c1 g5 g6 => ?_
            refine sS_ ?_
            refine R.apb ttok (q := [b]) rfl rfl rfl rfl (SrcA.cells rfl rfl) rfl rfl rfl rfl rfl rfl rfl rfl rfl g6 (by rw [List.length_append, List.length_append, List.length_append]; simp only [List.length_cons, List.length_nil]; omega) fun c' h5 h6 => ?_
            refine sS_ ?_
            have hnew : [34] ++ ((strB s).take (i + 1)).flatMap quotC = [34] ++ q ++ [92] ++ [b] := by rw [hst]; simp only [List.append_assoc, List.cons_append, List.nil_append]
            exact X.back [(0, 4)] (i + 1, c') ⟨hlt, h6⟩ (by dsimp only; omega) rfl (by
              show HasT _ _ _ [_, _, (4, .sl 0 1 0 ([34] ++ ((strB s).take (i + 1)).flatMap quotC).length c'), _]
              rw [hnew]
              exact hS12_) (by
              show HasH _ _ _ [(0, .bytes ([34] ++ ((strB s).take (i + 1)).flatMap quotC) c' 5)]
              rw [hnew]
              exact hS7_) rfl (fun _ h => h)
          · rw [decide_eq_false (show ¬ (((b.toNat : Nat) : Int) = 92) from fun e => h92 ((hcv 92).1 e))]
            have hno : ¬ (b = 34 ∨ b = 92) := fun h => h.elim h34 h92
            have hqc : quotC b = [b] := by unfold quotC; rw [if_neg hno, if_neg hor]
            rw [hqc] at hst
            refine sS_ ?_
            refine R.apb ttok (q := [b]) rfl rfl rfl rfl (SrcA.cells rfl rfl) rfl rfl rfl rfl rfl rfl rfl rfl rfl hc (by rw [List.length_append, List.length_append]; simp only [List.length_cons, List.length_nil]; omega) fun c' h5 h6 => ?_
            refine sS_ ?_
            have hnew : [34] ++ ((strB s).take (i + 1)).flatMap quotC = [34] ++ q ++ [b] := by rw [hst]; simp only [List.append_assoc, List.cons_append, List.nil_append]
            exact X.back [(0, 2)] (i + 1, c') ⟨hlt, h6⟩ (by dsimp only; omega) rfl (by
              show HasT _ _ _ [_, _, (4, .sl 0 1 0 ([34] ++ ((strB s).take (i + 1)).flatMap quotC).length c'), _]
              rw [hnew]
              exact hS12_) (by
              show HasH _ _ _ [(0, .bytes ([34] ++ ((strB s).take (i + 1)).flatMap quotC) c' 5)]
              rw [hnew]
              exact hS7_) rfl (fun _ h => h)
  · rw [decide_eq_false (show ¬ ((i : Nat) : Int) < (s.size : Nat) by omega)]
    obtain rfl : i = (strB s).length := by omega
    rw [List.take_length] at hfl ⊢
    refine sS_ ?_
    refine R.apb ttok (q := [34]) rfl rfl rfl rfl (SrcA.cells rfl rfl) rfl rfl rfl rfl rfl rfl rfl rfl rfl hc (by rw [List.length_append, List.length_append]; simp only [List.length_cons, List.length_nil]; omega) fun c' h5 h6 => ?_
    refine sS_ ?_
    refine R.b2s ttok (quotW (strB s)) rfl (SrcA.bytes0 rfl) rfl rfl rfl rfl rfl rfl rfl rfl rfl (by kernel_rfl) ?_
    refine sS_ ?_
    refine X.fin ttok () [] trivial rfl rfl rfl hS7_ _ (by first | exact .inl rfl | exact .inr rfl)
end Go.Proofs.YtaieficgifingaaGreatDoor
namespace Go.Proofs.YtaieficgifingaaGreatDoor
set_option linter.unusedVariables false
set_option linter.constructorNameAsVariable false
set_option linter.unusedSimpArgs false
open Go.RowKit
set_option maxRecDepth 100000
set_option maxHeartbeats 8000000
def wrF (x : Ins) (l : List FK) : List UInt8 := l.flatMap fun q => 32 :: q.wr x
/-- an instruction as words -/
def lnR (x : Ins) : List UInt8 := strB (nmL.getD x.o.toNat ⟨#[]⟩) ++ wrF x (fks x.o.toNat)
end Go.Proofs.YtaieficgifingaaGreatDoor
namespace Go.Proofs.YtaieficgifingaaGreatDoor
set_option linter.unusedVariables false
set_option linter.unusedSimpArgs false
open Go.RowKit
set_option maxRecDepth 100000
set_option maxHeartbeats 8000000
theorem lnP_eq {x : Ins} (ho : 1 ≤ x.o ∧ x.o ≤ 16) : lnP x = [32, 32] ++ lnR x ++ [10] := by
  have h : x.o = 1 ∨ x.o = 2 ∨ x.o = 3 ∨ x.o = 4 ∨ x.o = 5 ∨ x.o = 6 ∨ x.o = 7 ∨ x.o = 8 ∨ x.o = 9 ∨ x.o = 10 ∨ x.o = 11 ∨ x.o = 12 ∨ x.o = 13 ∨ x.o = 14 ∨ x.o = 15 ∨ x.o = 16 := by omega
  unfold lnP lnS lnR
  rcases h with h | h | h | h | h | h | h | h | h | h | h | h | h | h | h | h <;> rw [h] <;> simp [shL, lineS, wrF, fks, nmL, strB]
theorem insE_op {ar : Int} {n i : Nat} {x : Ins} (h : insE ar n i x = 0) : 1 ≤ x.o ∧ x.o ≤ 16 := by
  unfold insE at h
  split at h
  · cases h
  · omega
end Go.Proofs.YtaieficgifingaaGreatDoor
namespace Go.Proofs.YtaieficgifingaaGreatDoor
set_option linter.unusedVariables false
set_option linter.unusedSimpArgs false
open Go.RowKit
set_option maxRecDepth 100000
set_option maxHeartbeats 4000000
def wordsF : Nat → List UInt8 → Option (List (List UInt8 × Bool))
  | 0, _ => none
  | k + 1, l => match Lib.trimLeftS l [32, 9] with
    | [] => some []
    | c :: r => if c = 35 then some [] else if c = 34 then (match quoteP [] r with
        | none => none
        | some p => (wordsF k p.2).map ((p.1, true) :: ·)) else (wordsF k ((c :: r).drop (wordN (c :: r)))).map (((c :: r).take (wordN (c :: r)), false) :: ·)
theorem wordsF_eq : ∀ (k : Nat) (l : List UInt8), l.length < k → wordsF k l = wordsP l
  | 0, l, h => absurd h (Nat.not_lt_zero _)
  | k + 1, l, h => by
    have htl := trim_le l
    unfold wordsF
    cases ht : Lib.trimLeftS l [32, 9] with
    | nil => rw [wordsP_end (.inl ht)]
    | cons c r =>
      rw [ht, List.length_cons] at htl
      dsimp only
      by_cases h35 : c = 35
      · rw [if_pos h35, wordsP_end (.inr ⟨r, by rw [ht, h35]⟩)]
      · rw [if_neg h35]
        by_cases h34 : c = 34
        · rw [if_pos h34, wordsP_q (r := r) (by rw [ht, h34])]
          cases hq : quoteP [] r with
          | none => rfl
          | some p =>
            have := quoteP_lt r [] p hq
            dsimp only
            rw [wordsF_eq k p.2 (by omega)]
        · rw [if_neg h34, wordsP_w ht h35 h34]
          have hpos := wordN_pos (r := r) (trim_head ht) h35
          rw [wordsF_eq k _ (by rw [List.length_drop, List.length_cons]; omega)]
def linesF : Nat → List UInt8 → List (List UInt8)
  | 0, _ => []
  | k + 1, l => if l = [] then [] else lineA l :: linesF k (lineB l)
theorem linesF_eq : ∀ (k : Nat) (l : List UInt8), l.length < k → linesF k l = linesL l
  | 0, l, h => absurd h (Nat.not_lt_zero _)
  | k + 1, l, h => by
    unfold linesF
    by_cases h0 : l = []
    · rw [if_pos h0, h0, linesL_nil]
    · rw [if_neg h0, linesL_cons h0]
      have := lineB_lt h0
      rw [linesF_eq k _ (by omega)]
def stepF (p : PR) (n : Nat) (l : List UInt8) : Option PR := match wordsF (l.length + 1) l with
  | none => none
  | some ws => stepW p n (wsOf ws)
theorem stepF_eq (p : PR) (n : Nat) (l : List UInt8) : stepF p n l = stepL p n l := by
  unfold stepF stepL
  rw [wordsF_eq _ _ (Nat.lt_succ_self _)]
  cases wordsP l <;> rfl
def runF : List (List UInt8) → Nat → PR → Except Nat PR
  | [], _, p => .ok p
  | l :: r, n, p => match stepF p n l with
    | none => .error n
    | some p' => runF r (n + 1) p'
theorem runF_eq : ∀ (l : List (List UInt8)) (n : Nat) (p : PR), runF l n p = runL l n p
  | [], _, _ => rfl
  | l :: r, n, p => by
    unfold runF
    rw [stepF_eq]
    cases h : stepL p n l with
    | none => rw [run_err h]
    | some p' => rw [run_on h]; exact runF_eq r _ _
def parseF (t : List UInt8) : Except (Int × Int) PR := match runF (linesF (t.length + 1) t) 1 pr0 with
  | .error n => .error (((n : Nat) : Int), 17)
  | .ok p => endP p (linesF (t.length + 1) t).length
theorem parseF_eq (t : List UInt8) : parseF t = parseP t := by
  unfold parseF parseP
  rw [linesF_eq _ _ (Nat.lt_succ_self _), runF_eq]
  cases runL (linesL t) 1 pr0 <;> rfl
def kn1 : List UInt8 := [112, 114, 111, 99, 32, 112, 117, 116, 50, 32, 50, 10, 32, 32, 97, 114, 103, 32, 114, 48, 32, 48, 32, 35, 32, 116, 104, 101, 32, 107, 101, 121, 10, 10, 9, 97, 114, 103, 32, 114, 49, 32, 49, 10, 32, 112, 117, 116, 32, 114, 48, 32, 114, 49, 10, 32, 115, 116, 111, 112, 10, 101, 110, 100]
def kn2 : List UInt8 := [112, 114, 111, 99, 32, 112, 32, 48, 10, 115, 101, 116, 32, 114, 49, 54, 32, 49, 10, 101, 110, 100, 10]
def knC : List Ins := [⟨2, 0, 0, 0, 0, 0, 0, noT0⟩, ⟨2, 1, 0, 0, 1, 0, 0, noT0⟩, ⟨4, 0, 1, 0, 0, 0, 0, noT0⟩, ⟨16, 0, 0, 0, 0, 0, 0, noT0⟩]
def knN : ByteArray := strOf [112, 117, 116, 50]
theorem kn1_parse : parseP kn1 = .ok ⟨1, true, knN, 2, knC, [2, 4, 5, 6]⟩ := (parseF_eq _).symm.trans (by kernel_rfl)
theorem kn2_parse : parseP kn2 = .error (2, 17) := (parseF_eq _).symm.trans (by kernel_rfl)
theorem kn_chk : chkP knN 2 knC = (0, 0) := by kernel_rfl
def knP : List UInt8 := [112, 114, 111, 99, 32, 112, 117, 116, 50, 32, 50, 10, 32, 32, 97, 114, 103, 32, 114, 48, 32, 48, 10, 32, 32, 97, 114, 103, 32, 114, 49, 32, 49, 10, 32, 32, 112, 117, 116, 32, 114, 48, 32, 114, 49, 10, 32, 32, 115, 116, 111, 112, 10, 101, 110, 100, 10]
theorem itoa_dig : Lib.itoa 0 = [48] ∧ Lib.itoa 1 = [49] ∧ Lib.itoa 2 = [50] := by
  refine ⟨?_, ?_, ?_⟩ <;> simp [Lib.itoa, Lib.decDigits]
theorem kn_print : printP knN 2 knC = knP := by
  obtain ⟨h0, h1, h2⟩ := itoa_dig
  unfold printP headP lnP
  simp [h0, h1, h2, knC, shL, lnS, lineS, FK.wr, knN, knP, strB, strOf]
end Go.Proofs.YtaieficgifingaaGreatDoor
namespace Go.Proofs.YtaieficgifingaaGreatDoor
set_option linter.unusedVariables false
set_option linter.unusedSimpArgs false
open Go.RowKit
set_option maxRecDepth 100000
set_option maxHeartbeats 8000000
theorem ins_same (x : Ins) : eqA tt 6 inT (.agg (insA x)) (.agg (insA x)) = some true := by
  rw [ins_eq]
  simp
theorem procs_spec (nm : ByteArray) (ar : Int) (L : List Ins) (o1 c1 o2 c2 : Nat) (hL : L.length ≤ 1000000) : Spec Tryz.prog 10 [.agg (prA nm ar (.sl 0 8 o1 L.length c1)), .agg (prA nm ar (.sl 1 8 o2 L.length c2))] [roI o1 L, roI o2 L] 2 (σ := Unit) (fun _ => True) (fun _ => .raw (.bool true)) (fun _ => []) := by
  refine Spec.of Tryz.func10 rfl Tryz.ntmps10 rfl (bdl_cons (fun _ _ => rfl) (bdl_cons (fun _ _ => rfl) (bdl_nil _))) fun ρ w => ?_
  refine sS_ ?_
  rw [neS, show decide (strB nm ≠ strB nm) = false from decide_eq_false (fun h => h rfl)]
  refine sS_ ?_
  rw [show decide (ar ≠ ar) = false from decide_eq_false (fun h => h rfl)]
  refine sS_ ?_
  rw [show decide (((L.length : Nat) : Int) ≠ ((L.length : Nat) : Int)) = false from decide_eq_false (fun h => h rfl)]
  refine sS_ ?_
  refine C.loop (σ := Nat) (L2 := 4) (fun i => i ≤ L.length) (fun i => [(2, .ptr 2 0 0 0), (3, .ptr 3 0 0 0), (5, .raw (.int .i64 (i : Nat)))]) (fun _ => [(0, roI o1 L), (1, roI o2 L), (2, .cells (prA nm ar (.sl 0 8 o1 L.length c1)) 25), (3, .cells (prA nm ar (.sl 1 8 o2 L.length c2)) 25)]) _ (fun i => L.length - i) [] 0 (Nat.zero_le _) rfl hS12_ hS10_ rfl (fun _ h => h) ?_
  intro i hi
  refine sS_ ?_
  by_cases hlt : i < L.length
  · rw [decide_eq_true (show ((i : Nat) : Int) < (L.length : Nat) by omega)]
    obtain ⟨x, hx⟩ : ∃ x, L.getD i insD = x := ⟨_, rfl⟩
    have hA : insF L i = insA x := by unfold insF; rw [hx]
    refine sS_ ?_
    refine C.draw [[], [0], [], [0, 1, 2], [0, 1, 2, 3], [], [5], [], [5, 6, 7], [5, 6, 7, 8], [0, 1, 2, 3, 4, 5, 6, 7, 8, 9]] [] (by kernel_rfl) (by kernel_rfl) ?_
    refine sS_ ?_
    refine R.ix ttok i rfl rfl rfl rfl rfl (by kernel_rfl) rfl hlt ⟨by omega, by omega⟩ rfl ?_
    refine R.ldo (v := .agg (insA x)) ttok rfl rfl rfl (by rw [hA]; rfl) rfl (by kernel_rfl) hlt ?_
    refine sS_ ?_
    refine R.ix ttok i rfl rfl rfl rfl rfl (by kernel_rfl) rfl hlt ⟨by omega, by omega⟩ rfl ?_
    refine R.ldo (v := .agg (insA x)) ttok rfl rfl rfl (by rw [hA]; rfl) rfl (by kernel_rfl) hlt ?_
    refine sS_ ?_
    refine R.nes ttok true rfl rfl (by kernel_rfl) (by kernel_rfl) (ins_same x) rfl (by kernel_rfl) ?_
    refine sS_ ?_
    exact X.back [] (i + 1) hlt (by omega) rfl hS12_ hS10_ rfl (fun _ h => h)
  · rw [decide_eq_false (show ¬ ((i : Nat) : Int) < (L.length : Nat) by omega)]
    refine sS_ ?_
    refine X.fin ttok () [] trivial rfl rfl rfl hS7_ _ (by first | exact .inl rfl | exact .inr rfl)
theorem knC_I : ∀ x ∈ knC, insI x := by
  intro x hx
  simp only [knC, List.mem_cons, List.not_mem_nil, or_false] at hx
  rcases hx with rfl | rfl | rfl | rfl <;> exact ⟨⟨by decide, by decide⟩, ⟨by decide, by decide⟩, ⟨by decide, by decide⟩, ⟨by decide, by decide⟩, ⟨by decide, by decide⟩⟩
theorem known_spec (fs : Fam) (hG : Glob fs) (hfc : ∀ x ∈ fs, x.ob.isCells = true) : SpecF Tryz.prog 7 [] [] 0 fs (σ := Unit) (fun _ => True) (fun _ => .raw (.bool true)) (fun _ => []) (fun _ => fs) := by
  refine SpecF.of Tryz.func7 rfl Tryz.ntmps7 rfl (bdl_nil _) fun ρ w => ?_
  refine sS_ ?_
  refine R.clR [] (parse_spec (strOf kn1) (by decide) fs hG hfc) hG.ro Tryz.call8 hS11_ rfl rfl rfl (fun _ => rfl) rfl (by kernel_rfl) fun r hr => ?_
  obtain ⟨nm, ar, cd, c, line, e⟩ := r
  obtain ⟨hr, hc1, hc2⟩ := hr
  rw [show strB (strOf kn1) = kn1 from rfl, kn1_parse] at hr
  obtain ⟨rfl, rfl, rfl, rfl, rfl⟩ := hr
  refine sS_ ?_
  refine R.clR [0] (print_spec knN 2 knC 0 c (by decide) knC_I fs hG) hG.ro Tryz.call13 ((by exact HasIn.other rfl (fun e => by cases e) (fun ρ x w hh => tab_ro hh) .nil)) rfl rfl rfl (fun _ => rfl) rfl (by kernel_rfl) fun _ _ => ?_
  unfold printO
  rw [kn_chk, kn_print, if_pos rfl]
  refine sS_ ?_
  refine R.clR [] (parse_spec (strOf kn2) (by decide) fs hG hfc) hG.ro Tryz.call8 hS11_ rfl rfl rfl (fun _ => rfl) rfl (by kernel_rfl) fun r hr => ?_
  obtain ⟨nm2, ar2, cd2, c2, line2, e2⟩ := r
  obtain ⟨hr, hc3, hc4⟩ := hr
  rw [show strB (strOf kn2) = kn2 from rfl, kn2_parse] at hr
  obtain ⟨rfl, rfl, rfl, rfl, rfl⟩ := hr
  refine sS_ ?_
  refine R.ix ttok 2 rfl rfl rfl rfl rfl (by kernel_rfl) rfl (by show 2 < 4; decide) (by show 2 < 4; decide) rfl ?_
  refine R.ldt (v := .agg (insA ⟨4, 0, 1, 0, 0, 0, 0, noT0⟩)) ttok rfl rfl rfl rfl rfl (by kernel_rfl) (by show 2 < 4; decide) ?_
  refine sS_ ?_
  refine R.eqs ttok true rfl rfl (by kernel_rfl) (by kernel_rfl) (ins_same ⟨4, 0, 1, 0, 0, 0, 0, noT0⟩) rfl (by kernel_rfl) ?_
  refine sS_ ?_
  rw [eqL, show ∀ a : Array UInt8, a.toList = knP → decide (strB (strOf knP) = a.toList) = true from fun a h => decide_eq_true h.symm]
  rotate_left
  · rfl
  refine sS_ ?_
  refine X.finF ttok () [] trivial rfl rfl rfl hS7_ _ (by first | exact .inl rfl | exact .inr rfl) ?_ ?_ ?_
  · exact fun w' hf => hf.ap
  · exact fun p hp => hp
  · exact fun p hp e => ⟨p, hp, rfl⟩
end Go.Proofs.YtaieficgifingaaGreatDoor
namespace Go.Proofs.YtaieficgifingaaGreatDoor
set_option linter.unusedVariables false
set_option linter.unusedSimpArgs false
open Go.RowKit
set_option maxRecDepth 100000
set_option maxHeartbeats 8000000
/-- what a statement looks at -/
def notLong (nm : ByteArray) (L : List Ins) : Prop := L.length ≤ 400 ∧ nm.size ≤ 60000 ∧ ∀ x ∈ L, x.t.size ≤ 60000
section
variable {E : Base} {n L : Nat} {τ : List (Nat × AV)} {h : List (Nat × AO)} {F : World → Prop}
end
end Go.Proofs.YtaieficgifingaaGreatDoor
namespace Go.Proofs.YtaieficgifingaaGreatDoor
set_option linter.unusedVariables false
set_option linter.unusedSimpArgs false
set_option linter.constructorNameAsVariable false
open Go.RowKit
set_option maxRecDepth 100000
set_option maxHeartbeats 8000000
abbrev roJ (o : Nat) (L : List Ins) : AO := .ro 1 o (L.length * 8) (rowsF 8 (insF L))
theorem rowsJ_bd (K k : Nat) (l : List Ins) (m : Nat) : ∀ i, i < m → AV.bds K (rowsF k (insF l) i) = true := fun i _ => by
  unfold rowsF insF
  split
  · rename_i v hv
    have : v ∈ insA (l.getD (i / k) insD) := List.mem_of_getElem? hv
    simp only [insA, List.mem_cons, List.not_mem_nil, or_false] at this
    rcases this with rfl | rfl | rfl | rfl | rfl | rfl | rfl | rfl <;> rfl
  · rfl
theorem rowsJ_ren (r : Nat → Nat) (k : Nat) (l : List Ins) : (fun i => AV.rens r (rowsF k (insF l) i)) = rowsF k (insF l) := by
  funext i
  unfold rowsF insF
  split
  · rename_i v hv
    have : v ∈ insA (l.getD (i / k) insD) := List.mem_of_getElem? hv
    simp only [insA, List.mem_cons, List.not_mem_nil, or_false] at this
    rcases this with rfl | rfl | rfl | rfl | rfl | rfl | rfl | rfl <;> rfl
  · rfl
theorem HasH.roj {r : Nat → Nat} {L : Nat} {h rest : List (Nat × AO)} {l off : Nat} {s : List Ins} (h1 : hk (r l) h = some (roJ off s)) (h3 : Nat.ble (l + 1) L = true) (k : HasH r L h rest) : HasH r L h ((l, roJ off s) :: rest) :=
  .other h1 id (fun ρ x w hh => by simp only [AO.ren, rowsJ_ren]; exact hh) h3 (rowsJ_bd _ _ _ _) k
theorem HasIn.roj {r : Nat → Nat} {h : List (Nat × AO)} {i off : Nat} {s : List Ins} {os : List AO} (h1 : hk (r i) h = some (roJ off s)) (k : HasIn r h (i + 1) os) : HasIn r h i (roJ off s :: os) :=
  .other h1 id (fun ρ x w hh => by simp only [AO.ren, rowsJ_ren]; exact hh) k
section
variable {E : Base} {n L : Nat} {τ : List (Nat × AV)} {h : List (Nat × AO)} {F : World → Prop}
end
theorem hS8_ {P : Prop} (h : P := by repeat (first | exact HasH.nil | refine HasH.roj rfl rfl ?_ | refine HasH.same rfl rfl rfl trivial ?_ | refine HasH.same rfl rfl rfl rfl ?_ | refine HasH.same rfl rfl rfl (fun _ _ => rfl) ?_)) : P := h
theorem long1_spec (nm : ByteArray) (ar : Int) (L : List Ins) (o cp : Nat) (hL : L.length ≤ 9223372036854775807) : Spec Tryz.prog 11 [.agg (prA nm ar (.sl 0 1 o L.length cp))] [roJ o L] 1 (σ := Bool) (fun b => b = false → notLong nm L) (fun b => .raw (.bool b)) (fun _ => []) := by
  refine Spec.of Tryz.func11 rfl Tryz.ntmps11 rfl (bdl_cons (rowsJ_bd _ _ _ _) (bdl_nil _)) fun ρ w => ?_
  refine sS_ ?_
  by_cases h4 : 400 < L.length
  · rw [decide_eq_true (show ((L.length : Nat) : Int) > 400 by omega)]
    refine sS_ ?_
    refine X.fin ttok true [] (fun h => by cases h) rfl rfl rfl hS7_ _ (by first | exact .inl rfl | exact .inr rfl)
  rw [decide_eq_false (show ¬ ((L.length : Nat) : Int) > 400 by omega)]
  refine sS_ ?_
  by_cases h6 : 60000 < nm.size
  · rw [decide_eq_true (show ((nm.size : Nat) : Int) > 60000 by omega)]
    refine sS_ ?_
    refine X.fin ttok true [] (fun h => by cases h) rfl rfl rfl hS7_ _ (by first | exact .inl rfl | exact .inr rfl)
  rw [decide_eq_false (show ¬ ((nm.size : Nat) : Int) > 60000 by omega)]
  refine sS_ ?_
  refine C.loop (σ := Nat × Nat) (L2 := 2) (fun s => s.1 ≤ L.length ∧ s.2 ≤ s.1 * 60000 ∧ ∀ j, j < s.1 → (L.getD j insD).t.size ≤ 60000) (fun s => [(1, .ptr 1 0 0 0), (3, .raw (.int .i64 (s.2 : Nat))), (4, .raw (.int .i64 (s.1 : Nat)))]) (fun _ => [(0, roJ o L), (1, .cells (prA nm ar (.sl 0 1 o L.length cp)) 25)]) _ (fun s => L.length - s.1) [] (0, 0) ⟨Nat.zero_le _, Nat.zero_le _, fun j h => absurd h (Nat.not_lt_zero j)⟩ rfl hS12_ hS8_ rfl (fun _ h => h) ?_
  rintro ⟨i, n⟩ ⟨hi, hn, hall⟩
  dsimp only at hi hn hall ⊢
  refine sS_ ?_
  by_cases hlt : i < L.length
  · rw [decide_eq_true (show ((i : Nat) : Int) < (L.length : Nat) by omega)]
    obtain ⟨x, hx⟩ : ∃ x, L.getD i insD = x := ⟨_, rfl⟩
    have hA : insF L i = insA x := by unfold insF; rw [hx]
    refine sS_ ?_
    refine R.ix1 ttok i rfl rfl rfl rfl rfl (by kernel_rfl) rfl hlt (⟨by omega, by omega⟩ : o ≤ o + i * 8 ∧ o + i * 8 < o + L.length * 8) rfl ?_
    refine sS_ ?_
    refine R.ldr1 (v := .raw (.string x.t)) ttok i rfl rfl rfl (by rw [hA]; rfl) rfl (by kernel_rfl) rfl rfl (by decide) (by omega) ?_
    refine sS_ ?_
    by_cases hx6 : 60000 < x.t.size
    · rw [decide_eq_true (show ((x.t.size : Nat) : Int) > 60000 by omega)]
      refine sS_ ?_
      refine X.fin ttok true [] (fun h => by cases h) rfl rfl rfl hS7_ _ (by first | exact .inl rfl | exact .inr rfl)
    rw [decide_eq_false (show ¬ ((x.t.size : Nat) : Int) > 60000 by omega)]
    refine sS_ ?_
    refine R.ix1 ttok i rfl rfl rfl rfl rfl (by kernel_rfl) rfl hlt (⟨by omega, by omega⟩ : o ≤ o + i * 8 ∧ o + i * 8 < o + L.length * 8) rfl ?_
    refine sS_ ?_
    refine R.ldr1 (v := .raw (.string x.t)) ttok i rfl rfl rfl (by rw [hA]; rfl) rfl (by kernel_rfl) rfl rfl (by decide) (by omega) ?_
    refine sS_ ?_
    exact X.back [] (i + 1, n + x.t.size) ⟨hlt, by dsimp only; omega, fun j hj => by
      rcases Nat.lt_or_ge j i with g | g
      · exact hall j g
      · obtain rfl : j = i := by dsimp only at hj; omega
        rw [hx]; omega⟩ (by dsimp only; omega) rfl hS12_ hS8_ rfl (fun _ h => h)
  · rw [decide_eq_false (show ¬ ((i : Nat) : Int) < (L.length : Nat) by omega)]
    obtain rfl : i = L.length := by omega
    refine sS_ ?_
    refine X.fin ttok (decide ((n : Int) > 60000)) [] (fun _ => ⟨by omega, by omega, fun x hx => by
      obtain ⟨j, hj, rfl⟩ := List.getElem_of_mem hx
      have := hall j hj
      rwa [List.getD_eq_getElem?_getD, List.getElem?_eq_getElem hj] at this⟩) rfl rfl rfl hS8_ _ (by first | exact .inl rfl | exact .inr rfl)
theorem procs1_spec (nm : ByteArray) (ar : Int) (L : List Ins) (o1 c1 o2 c2 : Nat) (hL : L.length ≤ 1000000) : Spec Tryz.prog 10 [.agg (prA nm ar (.sl 0 1 o1 L.length c1)), .agg (prA nm ar (.sl 1 8 o2 L.length c2))] [roJ o1 L, roI o2 L] 2 (σ := Unit) (fun _ => True) (fun _ => .raw (.bool true)) (fun _ => []) := by
  refine Spec.of Tryz.func10 rfl Tryz.ntmps10 rfl (bdl_cons (rowsJ_bd _ _ _ _) (bdl_cons (fun _ _ => rfl) (bdl_nil _))) fun ρ w => ?_
  refine sS_ ?_
  rw [neS, show decide (strB nm ≠ strB nm) = false from decide_eq_false (fun h => h rfl)]
  refine sS_ ?_
  rw [show decide (ar ≠ ar) = false from decide_eq_false (fun h => h rfl)]
  refine sS_ ?_
  rw [show decide (((L.length : Nat) : Int) ≠ ((L.length : Nat) : Int)) = false from decide_eq_false (fun h => h rfl)]
  refine sS_ ?_
  refine C.loop (σ := Nat) (L2 := 4) (fun i => i ≤ L.length) (fun i => [(2, .ptr 2 0 0 0), (3, .ptr 3 0 0 0), (5, .raw (.int .i64 (i : Nat)))]) (fun _ => [(0, roJ o1 L), (1, roI o2 L), (2, .cells (prA nm ar (.sl 0 1 o1 L.length c1)) 25), (3, .cells (prA nm ar (.sl 1 8 o2 L.length c2)) 25)]) _ (fun i => L.length - i) [] 0 (Nat.zero_le _) rfl hS12_ hS8_ rfl (fun _ h => h) ?_
  intro i hi
  refine sS_ ?_
  by_cases hlt : i < L.length
  · rw [decide_eq_true (show ((i : Nat) : Int) < (L.length : Nat) by omega)]
    obtain ⟨x, hx⟩ : ∃ x, L.getD i insD = x := ⟨_, rfl⟩
    have hA : insF L i = insA x := by unfold insF; rw [hx]
    refine sS_ ?_
    refine C.draw [[], [0], [], [0, 1, 2], [0, 1, 2, 3], [], [5], [], [5, 6, 7], [5, 6, 7, 8], [0, 1, 2, 3, 4, 5, 6, 7, 8, 9]] [] (by kernel_rfl) (by kernel_rfl) ?_
    refine sS_ ?_
    refine R.ix1 ttok i rfl rfl rfl rfl rfl (by kernel_rfl) rfl hlt (⟨by omega, by omega⟩ : o1 ≤ o1 + i * 8 ∧ o1 + i * 8 < o1 + L.length * 8) rfl ?_
    refine R.ldr1 (v := .agg (insA x)) ttok i rfl rfl rfl (by rw [hA]; rfl) rfl (by kernel_rfl) rfl rfl (by decide) (by omega) ?_
    refine sS_ ?_
    refine R.ix ttok i rfl rfl rfl rfl rfl (by kernel_rfl) rfl hlt ⟨by omega, by omega⟩ rfl ?_
    refine R.ldo (v := .agg (insA x)) ttok rfl rfl rfl (by rw [hA]; rfl) rfl (by kernel_rfl) hlt ?_
    refine sS_ ?_
    refine R.nes ttok true rfl rfl (by kernel_rfl) (by kernel_rfl) (ins_same x) rfl (by kernel_rfl) ?_
    refine sS_ ?_
    exact X.back [] (i + 1) hlt (by omega) rfl hS12_ hS8_ rfl (fun _ h => h)
  · rw [decide_eq_false (show ¬ ((i : Nat) : Int) < (L.length : Nat) by omega)]
    refine sS_ ?_
    refine X.fin ttok () [] trivial rfl rfl rfl hS7_ _ (by first | exact .inl rfl | exact .inr rfl)
end Go.Proofs.YtaieficgifingaaGreatDoor
namespace Go.Proofs.YtaieficgifingaaGreatDoor
set_option linter.unusedVariables false
set_option linter.unusedSimpArgs false
set_option linter.constructorNameAsVariable false
open Go.RowKit
set_option maxRecDepth 100000
set_option maxHeartbeats 8000000
theorem mArg1_spec (v i : Int) (nm : ByteArray) (ar : Int) (o n c : Nat) : Spec Tryz.prog 81 [.raw (.int .i64 v), .ptr 0 0 0 0, .raw (.int .i64 i)] [roP nm ar (.sl 1 1 o n c), anyO] 2 (σ := Unit) (fun _ => True) (fun _ => .raw (.bool (PF.g.ok ar 0 0 v))) (fun _ => []) := by
  refine Spec.of Tryz.func81 rfl Tryz.ntmps81 rfl (bdl_cons (roA_bd rfl) (bdl_cons (any_bd _) (bdl_nil _))) fun ρ w => ?_
  unfold PF.ok
  refine sS_ ?_
  cases h1 : decide ((0 : Int) ≤ v) with
  | false =>
    refine sS_ ?_
    refine X.fin ttok () [] trivial rfl rfl rfl hS7_ _ (by first | exact .inl rfl | exact .inr rfl)
  | true =>
    refine sS_ ?_
    refine R.ldo (v := .raw (.int .i64 ar)) ttok rfl rfl rfl rfl rfl (by kernel_rfl) Nat.one_pos ?_
    refine sS_ ?_
    refine X.fin ttok () [] trivial rfl rfl rfl hS7_ _ (by first | exact .inl rfl | exact .inr rfl)
theorem mSkip1_spec (v : Int) (i : Nat) (nm : ByteArray) (ar : Int) (o n c : Nat) (hn : n ≤ 1000000) (hi : i ≤ 1000000) : Spec Tryz.prog 84 [.raw (.int .i64 v), .ptr 0 0 0 0, .raw (.int .i64 (i : Nat))] [roP nm ar (.sl 1 1 o n c), anyO] 2 (σ := Unit) (fun _ => True) (fun _ => .raw (.bool (PF.s.ok ar n i v))) (fun _ => []) := by
  refine Spec.of Tryz.func84 rfl Tryz.ntmps84 rfl (bdl_cons (roA_bd rfl) (bdl_cons (any_bd _) (bdl_nil _))) fun ρ w => ?_
  unfold PF.ok
  refine sS_ ?_
  cases h1 : decide ((1 : Int) ≤ v) with
  | false =>
    refine sS_ ?_
    refine X.fin ttok () [] trivial rfl rfl rfl hS7_ _ (by first | exact .inl rfl | exact .inr rfl)
  | true =>
    refine sS_ ?_
    refine R.ldo (v := .sl 1 1 o n c) ttok rfl rfl rfl rfl rfl (by kernel_rfl) Nat.one_pos ?_
    refine sS_ ?_
    refine X.fin ttok () [] trivial rfl rfl rfl hS7_ _ (by first | exact .inl rfl | exact .inr rfl)
theorem hS3_ {P : Prop} (h : P := by repeat (first | exact HasH.nil | refine HasH.roj rfl rfl ?_ | refine HasH.same rfl rfl rfl trivial ?_ | refine HasH.same rfl rfl rfl rfl ?_ | refine HasH.same rfl rfl rfl (fun _ _ => rfl) ?_ | refine HasH.same rfl (pf_ren _ _) rfl (pf_bd _ _) ?_ | refine HasH.same rfl rfl rfl (roA_bd rfl) ?_)) : P := h
theorem hS4_ {P : Prop} (h : P := by repeat (first | exact HasIn.nil | refine HasIn.roj rfl ?_ | refine HasIn.same rfl rfl ?_ | refine HasIn.roq rfl rfl ?_ | refine HasIn.any rfl ?_ | refine HasIn.other rfl id (fun ρ x w hh => ro_any hh) ?_ | refine HasIn.roA rfl rfl ?_ | refine HasIn.roAp rfl rfl ?_)) : P := h
theorem instrP1_spec (nm : ByteArray) (ar : Int) (L : List Ins) (o c i : Nat) (hL : L.length ≤ 1000000) (hi : i < L.length) : Spec Tryz.prog 37 [.ptr 15 0 0 0, .ptr 16 0 0 0, .raw (.int .i64 (i : Nat))] [roF [.a], roF [.a, .g], roF [.a, .b], roF [.a, .b], roF [.a, .b], roF [.a], roF [.a], roF [.a, .b, .c], roF [.a, .b, .c], roF [.a, .b, .c], roF [.a, .b, .c], roF [.b, .c, .h], roF [.s, .b, .c, .h], roF [.a, .b, .c, .m], roF [.a, .b, .c, .m], .ro 0 0 1 (fun _ => spA), roP nm ar (.sl 17 1 o L.length c), roJ o L] 18 (σ := Unit) (fun _ => True) (fun _ => .raw (.int .i64 (insE ar L.length i (L.getD i insD)))) (fun _ => []) := by
  refine Spec.of Tryz.func37 rfl Tryz.ntmps37 rfl (bdl_cons (pf_bd _ _) (bdl_cons (pf_bd _ _) (bdl_cons (pf_bd _ _) (bdl_cons (pf_bd _ _) (bdl_cons (pf_bd _ _) (bdl_cons (pf_bd _ _) (bdl_cons (pf_bd _ _) (bdl_cons (pf_bd _ _) (bdl_cons (pf_bd _ _) (bdl_cons (pf_bd _ _) (bdl_cons (pf_bd _ _) (bdl_cons (pf_bd _ _) (bdl_cons (pf_bd _ _) (bdl_cons (pf_bd _ _) (bdl_cons (pf_bd _ _) (bdl_cons (roA_bd rfl) (bdl_cons (roA_bd rfl) (bdl_cons (rowsJ_bd _ _ _ _) (bdl_nil _))))))))))))))))))) fun ρ w => ?_
  obtain ⟨x, hx⟩ : ∃ x, L.getD i insD = x := ⟨_, rfl⟩
  rw [hx]
  have hA : insF L i = insA x := by unfold insF; rw [hx]
  refine sS_ ?_
  refine R.ldo (v := .sl 17 1 o L.length c) ttok rfl rfl rfl rfl rfl (by kernel_rfl) Nat.one_pos ?_
  refine sS_ ?_
  refine R.ix1 ttok i rfl rfl rfl rfl rfl (by kernel_rfl) rfl hi (⟨by omega, by omega⟩ : o ≤ o + i * 8 ∧ o + i * 8 < o + L.length * 8) rfl ?_
  refine R.ldr1 (v := .agg (insA x)) ttok i rfl rfl rfl (by rw [hA]; rfl) rfl (by kernel_rfl) rfl rfl (by decide) (by omega) ?_
  refine sS_ ?_
  by_cases h1 : x.o < 1
  · rw [decide_eq_true h1]
    refine sS_ ?_
    rw [show insE ar L.length i x = 16 from if_pos (.inl h1)]
    refine X.fin ttok () [] trivial rfl rfl rfl hS7_ _ (by first | exact .inl rfl | exact .inr rfl)
  · rw [decide_eq_false h1]
    refine sS_ ?_
    by_cases h2 : 16 < x.o
    · rw [decide_eq_true (show x.o > 16 from h2)]
      refine sS_ ?_
      rw [show insE ar L.length i x = 16 from if_pos (.inr h2)]
      refine X.fin ttok () [] trivial rfl rfl rfl hS7_ _ (by first | exact .inl rfl | exact .inr rfl)
    · rw [decide_eq_false (show ¬ x.o > 16 from h2)]
      rw [show insE ar L.length i x = insL ar L.length i (pfs x.o.toNat) (decide (x.o = 1)) x from if_neg (by omega)]
      have hT : ∀ k : Nat, x.o = (k : Nat) → pfs x.o.toNat = pfs k := fun k h => by rw [h]; rfl
      by_cases h16 : x.o = 16
      · refine sS_ ?_
        refine C.draw [[], [], [1], [0], [0, 1, 2, 3], [0, 1, 2, 3, 4], [], [0, 1, 2, 3, 4, 5, 6]] [6, 7] (by kernel_rfl) (by kernel_rfl) ?_
        refine sS_ ?_
        refine R.ixa ttok 16 rfl rfl rfl rfl rfl (by kernel_rfl) h16 (by decide) ?_
        refine R.ldo (v := .agg [.raw (.slice none 0 0), .raw (.bool false)]) ttok rfl rfl rfl rfl rfl (by kernel_rfl) Nat.one_pos ?_
        refine sS_ ?_
        refine C.rounds 1 ?_
        refine sS_ ?_
        refine R.nes ttok _ rfl rfl (by kernel_rfl) (by kernel_rfl) (nil_eq { x with o := 0 }) rfl (by kernel_rfl) ?_
        have hv : insL ar L.length i (pfs x.o.toNat) (decide (x.o = 1)) x = if nilI { x with o := 0 } = true then 0 else 16 := by
          rw [hT 16 h16, decide_eq_false (show ¬ x.o = 1 by omega)]
          rfl
        rw [hv]
        cases hn : nilI { x with o := 0 } with
        | false =>
          refine sS_ ?_
          refine X.fin ttok () [] trivial rfl rfl rfl hS7_ _ (by first | exact .inl rfl | exact .inr rfl)
        | true =>
          refine sS_ ?_
          refine X.fin ttok () [] trivial rfl rfl rfl hS7_ _ (by first | exact .inl rfl | exact .inr rfl)
      refine sS_ ?_
      refine C.cuts (σ := IC) 21 (fun s => s.l = pfs x.o.toNat ∧ s.v = decide (x.o = 1)) (fun s => [(1, .ptr 16 0 0 0), (2, .raw (.int .i64 (i : Nat))), (7, .ptr 18 0 0 0), (8, .ptr 19 0 0 0)]) (fun s => [(16, roP nm ar (.sl 17 1 o L.length c)), (17, roJ o L), (18, insO x), (19, .cells [.sl 20 3 0 s.l.length s.l.length, .raw (.bool s.v)] 98), (20, roF s.l)]) ?_ ?_
      · refine C.draw [[], [], [1], [0], [0, 1, 2, 3], [0, 1, 2, 3, 4], [], [0, 1, 2, 3, 4, 5, 6]] [6, 7] (by kernel_rfl) (by kernel_rfl) ?_
        refine sS_ ?_
        by_cases e1 : x.o = 1
        · refine R.ixa ttok 1 rfl rfl rfl rfl rfl (by kernel_rfl) e1 (by decide) ?_
          refine R.ldo (v := .agg [.sl 0 3 0 1 1, .raw (.bool true)]) ttok rfl rfl rfl rfl rfl (by kernel_rfl) Nat.one_pos ?_
          refine sS_ ?_
          exact X.backR [(20, 0)] ⟨[.a], true⟩ ⟨(hT 1 e1).symm, by rw [e1]; rfl⟩ Nat.zero_lt_one rfl hS12_ hS3_ rfl (fun _ h => h)
        by_cases e2 : x.o = 2
        · refine R.ixa ttok 2 rfl rfl rfl rfl rfl (by kernel_rfl) e2 (by decide) ?_
          refine R.ldo (v := .agg [.sl 1 3 0 2 2, .raw (.bool false)]) ttok rfl rfl rfl rfl rfl (by kernel_rfl) Nat.one_pos ?_
          refine sS_ ?_
          exact X.backR [(20, 1)] ⟨[.a, .g], false⟩ ⟨(hT 2 e2).symm, by rw [e2]; rfl⟩ Nat.zero_lt_one rfl hS12_ hS3_ rfl (fun _ h => h)
        by_cases e3 : x.o = 3
        · refine R.ixa ttok 3 rfl rfl rfl rfl rfl (by kernel_rfl) e3 (by decide) ?_
          refine R.ldo (v := .agg [.sl 2 3 0 2 2, .raw (.bool false)]) ttok rfl rfl rfl rfl rfl (by kernel_rfl) Nat.one_pos ?_
          refine sS_ ?_
          exact X.backR [(20, 2)] ⟨[.a, .b], false⟩ ⟨(hT 3 e3).symm, by rw [e3]; rfl⟩ Nat.zero_lt_one rfl hS12_ hS3_ rfl (fun _ h => h)
        by_cases e14 : x.o = 14
        · refine R.ixa ttok 14 rfl rfl rfl rfl rfl (by kernel_rfl) e14 (by decide) ?_
          refine R.ldo (v := .agg [.sl 3 3 0 2 2, .raw (.bool false)]) ttok rfl rfl rfl rfl rfl (by kernel_rfl) Nat.one_pos ?_
          refine sS_ ?_
          exact X.backR [(20, 3)] ⟨[.a, .b], false⟩ ⟨(hT 14 e14).symm, by rw [e14]; rfl⟩ Nat.zero_lt_one rfl hS12_ hS3_ rfl (fun _ h => h)
        by_cases e4 : x.o = 4
        · refine R.ixa ttok 4 rfl rfl rfl rfl rfl (by kernel_rfl) e4 (by decide) ?_
          refine R.ldo (v := .agg [.sl 4 3 0 2 2, .raw (.bool false)]) ttok rfl rfl rfl rfl rfl (by kernel_rfl) Nat.one_pos ?_
          refine sS_ ?_
          exact X.backR [(20, 4)] ⟨[.a, .b], false⟩ ⟨(hT 4 e4).symm, by rw [e4]; rfl⟩ Nat.zero_lt_one rfl hS12_ hS3_ rfl (fun _ h => h)
        by_cases e5 : x.o = 5
        · refine R.ixa ttok 5 rfl rfl rfl rfl rfl (by kernel_rfl) e5 (by decide) ?_
          refine R.ldo (v := .agg [.sl 5 3 0 1 1, .raw (.bool false)]) ttok rfl rfl rfl rfl rfl (by kernel_rfl) Nat.one_pos ?_
          refine sS_ ?_
          exact X.backR [(20, 5)] ⟨[.a], false⟩ ⟨(hT 5 e5).symm, by rw [e5]; rfl⟩ Nat.zero_lt_one rfl hS12_ hS3_ rfl (fun _ h => h)
        by_cases e15 : x.o = 15
        · refine R.ixa ttok 15 rfl rfl rfl rfl rfl (by kernel_rfl) e15 (by decide) ?_
          refine R.ldo (v := .agg [.sl 6 3 0 1 1, .raw (.bool false)]) ttok rfl rfl rfl rfl rfl (by kernel_rfl) Nat.one_pos ?_
          refine sS_ ?_
          exact X.backR [(20, 6)] ⟨[.a], false⟩ ⟨(hT 15 e15).symm, by rw [e15]; rfl⟩ Nat.zero_lt_one rfl hS12_ hS3_ rfl (fun _ h => h)
        by_cases e6 : x.o = 6
        · refine R.ixa ttok 6 rfl rfl rfl rfl rfl (by kernel_rfl) e6 (by decide) ?_
          refine R.ldo (v := .agg [.sl 7 3 0 3 3, .raw (.bool false)]) ttok rfl rfl rfl rfl rfl (by kernel_rfl) Nat.one_pos ?_
          refine sS_ ?_
          exact X.backR [(20, 7)] ⟨[.a, .b, .c], false⟩ ⟨(hT 6 e6).symm, by rw [e6]; rfl⟩ Nat.zero_lt_one rfl hS12_ hS3_ rfl (fun _ h => h)
        by_cases e7 : x.o = 7
        · refine R.ixa ttok 7 rfl rfl rfl rfl rfl (by kernel_rfl) e7 (by decide) ?_
          refine R.ldo (v := .agg [.sl 8 3 0 3 3, .raw (.bool false)]) ttok rfl rfl rfl rfl rfl (by kernel_rfl) Nat.one_pos ?_
          refine sS_ ?_
          exact X.backR [(20, 8)] ⟨[.a, .b, .c], false⟩ ⟨(hT 7 e7).symm, by rw [e7]; rfl⟩ Nat.zero_lt_one rfl hS12_ hS3_ rfl (fun _ h => h)
        by_cases e8 : x.o = 8
        · refine R.ixa ttok 8 rfl rfl rfl rfl rfl (by kernel_rfl) e8 (by decide) ?_
          refine R.ldo (v := .agg [.sl 9 3 0 3 3, .raw (.bool false)]) ttok rfl rfl rfl rfl rfl (by kernel_rfl) Nat.one_pos ?_
          refine sS_ ?_
          exact X.backR [(20, 9)] ⟨[.a, .b, .c], false⟩ ⟨(hT 8 e8).symm, by rw [e8]; rfl⟩ Nat.zero_lt_one rfl hS12_ hS3_ rfl (fun _ h => h)
        by_cases e9 : x.o = 9
        · refine R.ixa ttok 9 rfl rfl rfl rfl rfl (by kernel_rfl) e9 (by decide) ?_
          refine R.ldo (v := .agg [.sl 10 3 0 3 3, .raw (.bool false)]) ttok rfl rfl rfl rfl rfl (by kernel_rfl) Nat.one_pos ?_
          refine sS_ ?_
          exact X.backR [(20, 10)] ⟨[.a, .b, .c], false⟩ ⟨(hT 9 e9).symm, by rw [e9]; rfl⟩ Nat.zero_lt_one rfl hS12_ hS3_ rfl (fun _ h => h)
        by_cases e10 : x.o = 10
        · refine R.ixa ttok 10 rfl rfl rfl rfl rfl (by kernel_rfl) e10 (by decide) ?_
          refine R.ldo (v := .agg [.sl 11 3 0 3 3, .raw (.bool false)]) ttok rfl rfl rfl rfl rfl (by kernel_rfl) Nat.one_pos ?_
          refine sS_ ?_
          exact X.backR [(20, 11)] ⟨[.b, .c, .h], false⟩ ⟨(hT 10 e10).symm, by rw [e10]; rfl⟩ Nat.zero_lt_one rfl hS12_ hS3_ rfl (fun _ h => h)
        by_cases e11 : x.o = 11
        · refine R.ixa ttok 11 rfl rfl rfl rfl rfl (by kernel_rfl) e11 (by decide) ?_
          refine R.ldo (v := .agg [.sl 12 3 0 4 4, .raw (.bool false)]) ttok rfl rfl rfl rfl rfl (by kernel_rfl) Nat.one_pos ?_
          refine sS_ ?_
          exact X.backR [(20, 12)] ⟨[.s, .b, .c, .h], false⟩ ⟨(hT 11 e11).symm, by rw [e11]; rfl⟩ Nat.zero_lt_one rfl hS12_ hS3_ rfl (fun _ h => h)
        by_cases e12 : x.o = 12
        · refine R.ixa ttok 12 rfl rfl rfl rfl rfl (by kernel_rfl) e12 (by decide) ?_
          refine R.ldo (v := .agg [.sl 13 3 0 4 4, .raw (.bool false)]) ttok rfl rfl rfl rfl rfl (by kernel_rfl) Nat.one_pos ?_
          refine sS_ ?_
          exact X.backR [(20, 13)] ⟨[.a, .b, .c, .m], false⟩ ⟨(hT 12 e12).symm, by rw [e12]; rfl⟩ Nat.zero_lt_one rfl hS12_ hS3_ rfl (fun _ h => h)
        by_cases e13 : x.o = 13
        · refine R.ixa ttok 13 rfl rfl rfl rfl rfl (by kernel_rfl) e13 (by decide) ?_
          refine R.ldo (v := .agg [.sl 14 3 0 4 4, .raw (.bool false)]) ttok rfl rfl rfl rfl rfl (by kernel_rfl) Nat.one_pos ?_
          refine sS_ ?_
          exact X.backR [(20, 14)] ⟨[.a, .b, .c, .m], false⟩ ⟨(hT 13 e13).symm, by rw [e13]; rfl⟩ Nat.zero_lt_one rfl hS12_ hS3_ rfl (fun _ h => h)
        omega
      · rintro ⟨l, v⟩ ⟨hl, hv⟩
        dsimp only at hl hv ⊢
        have hl4 : l.length ≤ 4 := by rw [hl]; exact pfs_len _
        rw [← hl, ← hv]
        refine sS_ ?_
        refine C.loop (σ := Nat) (L2 := 22) (fun j => j ≤ l.length ∧ ∀ k p, k < j → l[k]? = some p → p.ok ar L.length i (p.val x) = true) (fun j => [(1, .ptr 16 0 0 0), (2, .raw (.int .i64 (i : Nat))), (7, .ptr 18 0 0 0), (8, .ptr 19 0 0 0), (9, .ptr 21 0 0 0), (36, .sl 20 3 0 l.length l.length), (37, .raw (.int .i64 (l.length : Nat))), (38, .raw (.int .i64 (j : Nat)))])
          (fun j => [(16, roP nm ar (.sl 17 1 o L.length c)), (17, roJ o L), (18, insO x), (19, .cells [.sl 20 3 0 l.length l.length, .raw (.bool v)] 98), (20, roF l), (21, insO (zeroN (l.take j) { x with o := 0 }))]) _ (fun j => l.length - j) [] 0 ⟨Nat.zero_le _, fun k p h => absurd h (Nat.not_lt_zero k)⟩ rfl hS12_ hS3_ rfl (fun _ h => h) ?_
        rintro j ⟨hj, hok⟩
        refine sS_ ?_
        by_cases hlt : j < l.length
        · rw [decide_eq_true (show ((j : Nat) : Int) < (l.length : Nat) by omega)]
          obtain ⟨p, hp⟩ : ∃ p, l[j]? = some p := ⟨_, List.getElem?_eq_getElem hlt⟩
          have hB : pfF l j = p.av := pfF_at hp
          have hz := zero_snoc hp { x with o := 0 }
          have hgo : p.ok ar L.length i (p.val x) = true → ∀ k q, k < j + 1 → l[k]? = some q → q.ok ar L.length i (q.val x) = true := fun h k q hk hq => by
            rcases Nat.lt_or_ge k j with h' | h'
            · exact hok k q h' hq
            · obtain rfl : k = j := by omega
              rw [hp] at hq
              cases hq
              exact h
          have hno := insL_no (ar := ar) (n := L.length) (i := i) (v := v) (x := x) hp
          obtain ⟨y, hy⟩ : ∃ y, zeroN (l.take j) { x with o := 0 } = y := ⟨_, rfl⟩
          rw [hy] at hz ⊢
          cases p with
          | a =>
            refine sS_ ?_
            refine R.ix ttok j rfl rfl rfl rfl rfl (by kernel_rfl) rfl hlt ⟨by omega, by omega⟩ rfl ?_
            refine R.ldo (v := .agg (PF.av .a)) ttok rfl rfl rfl (by rw [hB]; rfl) rfl (by kernel_rfl) hlt ?_
            refine sS_ ?_
            refine C.draw [[], [0], [], [2], [2, 3], [2, 3, 4], [2, 3, 4, 5], [], [], [0, 1, 2, 3, 4, 5, 6, 7, 8], [0, 1, 2, 3, 4, 5, 6, 7, 8, 9]] [4, 9] (by kernel_rfl) (by kernel_rfl) ?_
            refine sS_ ?_
            refine R.cl [18] (pA_spec) Tryz.call76 ((by exact HasIn.any rfl .nil)) rfl rfl rfl (fun _ => rfl) rfl (by kernel_rfl) fun _ _ => ?_
            refine sS_ ?_
            refine R.cl [16] (mReg_spec x.a i) Tryz.call77 hS4_ rfl rfl rfl (fun _ => rfl) rfl (by kernel_rfl) fun _ _ => ?_
            refine sS_ ?_
            cases hk : regK x.a with
            | false =>
              rw [hno hk]
              refine sS_ ?_
              refine X.fin ttok () [] trivial rfl rfl rfl hS7_ _ (by first | exact .inl rfl | exact .inr rfl)
            | true =>
              refine sS_ ?_
              refine R.cl [21] (pA_spec) Tryz.call76 ((by exact HasIn.any rfl .nil)) rfl rfl rfl (fun _ => rfl) rfl (by kernel_rfl) fun _ _ => ?_
              refine sS_ ?_
              exact X.back [] (j + 1) ⟨hlt, hgo hk⟩ (by omega) rfl hS12_ (by
                show HasH _ _ _ [_, _, _, _, _, (21, insO (zeroN (l.take (j + 1)) { x with o := 0 }))]
                rw [hz]
                exact hS3_) rfl (fun _ h => h)
          | b =>
            refine sS_ ?_
            refine R.ix ttok j rfl rfl rfl rfl rfl (by kernel_rfl) rfl hlt ⟨by omega, by omega⟩ rfl ?_
            refine R.ldo (v := .agg (PF.av .b)) ttok rfl rfl rfl (by rw [hB]; rfl) rfl (by kernel_rfl) hlt ?_
            refine sS_ ?_
            refine C.draw [[], [0], [], [2], [2, 3], [2, 3, 4], [2, 3, 4, 5], [], [], [0, 1, 2, 3, 4, 5, 6, 7, 8], [0, 1, 2, 3, 4, 5, 6, 7, 8, 9]] [4, 9] (by kernel_rfl) (by kernel_rfl) ?_
            refine sS_ ?_
            refine R.cl [18] (pB_spec) Tryz.call78 ((by exact HasIn.any rfl .nil)) rfl rfl rfl (fun _ => rfl) rfl (by kernel_rfl) fun _ _ => ?_
            refine sS_ ?_
            refine R.cl [16] (mReg_spec x.b i) Tryz.call77 hS4_ rfl rfl rfl (fun _ => rfl) rfl (by kernel_rfl) fun _ _ => ?_
            refine sS_ ?_
            cases hk : regK x.b with
            | false =>
              rw [hno hk]
              refine sS_ ?_
              refine X.fin ttok () [] trivial rfl rfl rfl hS7_ _ (by first | exact .inl rfl | exact .inr rfl)
            | true =>
              refine sS_ ?_
              refine R.cl [21] (pB_spec) Tryz.call78 ((by exact HasIn.any rfl .nil)) rfl rfl rfl (fun _ => rfl) rfl (by kernel_rfl) fun _ _ => ?_
              refine sS_ ?_
              exact X.back [] (j + 1) ⟨hlt, hgo hk⟩ (by omega) rfl hS12_ (by
                show HasH _ _ _ [_, _, _, _, _, (21, insO (zeroN (l.take (j + 1)) { x with o := 0 }))]
                rw [hz]
                exact hS3_) rfl (fun _ h => h)
          | c =>
            refine sS_ ?_
            refine R.ix ttok j rfl rfl rfl rfl rfl (by kernel_rfl) rfl hlt ⟨by omega, by omega⟩ rfl ?_
            refine R.ldo (v := .agg (PF.av .c)) ttok rfl rfl rfl (by rw [hB]; rfl) rfl (by kernel_rfl) hlt ?_
            refine sS_ ?_
            refine C.draw [[], [0], [], [2], [2, 3], [2, 3, 4], [2, 3, 4, 5], [], [], [0, 1, 2, 3, 4, 5, 6, 7, 8], [0, 1, 2, 3, 4, 5, 6, 7, 8, 9]] [4, 9] (by kernel_rfl) (by kernel_rfl) ?_
            refine sS_ ?_
            refine R.cl [18] (pC_spec) Tryz.call79 ((by exact HasIn.any rfl .nil)) rfl rfl rfl (fun _ => rfl) rfl (by kernel_rfl) fun _ _ => ?_
            refine sS_ ?_
            refine R.cl [16] (mReg_spec x.c i) Tryz.call77 hS4_ rfl rfl rfl (fun _ => rfl) rfl (by kernel_rfl) fun _ _ => ?_
            refine sS_ ?_
            cases hk : regK x.c with
            | false =>
              rw [hno hk]
              refine sS_ ?_
              refine X.fin ttok () [] trivial rfl rfl rfl hS7_ _ (by first | exact .inl rfl | exact .inr rfl)
            | true =>
              refine sS_ ?_
              refine R.cl [21] (pC_spec) Tryz.call79 ((by exact HasIn.any rfl .nil)) rfl rfl rfl (fun _ => rfl) rfl (by kernel_rfl) fun _ _ => ?_
              refine sS_ ?_
              exact X.back [] (j + 1) ⟨hlt, hgo hk⟩ (by omega) rfl hS12_ (by
                show HasH _ _ _ [_, _, _, _, _, (21, insO (zeroN (l.take (j + 1)) { x with o := 0 }))]
                rw [hz]
                exact hS3_) rfl (fun _ h => h)
          | g =>
            refine sS_ ?_
            refine R.ix ttok j rfl rfl rfl rfl rfl (by kernel_rfl) rfl hlt ⟨by omega, by omega⟩ rfl ?_
            refine R.ldo (v := .agg (PF.av .g)) ttok rfl rfl rfl (by rw [hB]; rfl) rfl (by kernel_rfl) hlt ?_
            refine sS_ ?_
            refine C.draw [[], [0], [], [2], [2, 3], [2, 3, 4], [2, 3, 4, 5], [], [], [0, 1, 2, 3, 4, 5, 6, 7, 8], [0, 1, 2, 3, 4, 5, 6, 7, 8, 9]] [4, 9] (by kernel_rfl) (by kernel_rfl) ?_
            refine sS_ ?_
            refine R.cl [18] (pN_spec) Tryz.call80 ((by exact HasIn.any rfl .nil)) rfl rfl rfl (fun _ => rfl) rfl (by kernel_rfl) fun _ _ => ?_
            refine sS_ ?_
            refine R.cl [16, 17] (mArg1_spec x.n i nm ar o L.length c) Tryz.call81 hS4_ rfl rfl rfl (fun _ => rfl) rfl (by kernel_rfl) fun _ _ => ?_
            refine sS_ ?_
            cases hk : PF.g.ok ar 0 0 x.n with
            | false =>
              rw [hno hk]
              refine sS_ ?_
              refine X.fin ttok () [] trivial rfl rfl rfl hS7_ _ (by first | exact .inl rfl | exact .inr rfl)
            | true =>
              refine sS_ ?_
              refine R.cl [21] (pN_spec) Tryz.call80 ((by exact HasIn.any rfl .nil)) rfl rfl rfl (fun _ => rfl) rfl (by kernel_rfl) fun _ _ => ?_
              refine sS_ ?_
              exact X.back [] (j + 1) ⟨hlt, hgo hk⟩ (by omega) rfl hS12_ (by
                show HasH _ _ _ [_, _, _, _, _, (21, insO (zeroN (l.take (j + 1)) { x with o := 0 }))]
                rw [hz]
                exact hS3_) rfl (fun _ h => h)
          | h =>
            refine sS_ ?_
            refine R.ix ttok j rfl rfl rfl rfl rfl (by kernel_rfl) rfl hlt ⟨by omega, by omega⟩ rfl ?_
            refine R.ldo (v := .agg (PF.av .h)) ttok rfl rfl rfl (by rw [hB]; rfl) rfl (by kernel_rfl) hlt ?_
            refine sS_ ?_
            refine C.draw [[], [0], [], [2], [2, 3], [2, 3, 4], [2, 3, 4, 5], [], [], [0, 1, 2, 3, 4, 5, 6, 7, 8], [0, 1, 2, 3, 4, 5, 6, 7, 8, 9]] [4, 9] (by kernel_rfl) (by kernel_rfl) ?_
            refine sS_ ?_
            refine R.cl [18] (pN_spec) Tryz.call80 ((by exact HasIn.any rfl .nil)) rfl rfl rfl (fun _ => rfl) rfl (by kernel_rfl) fun _ _ => ?_
            refine sS_ ?_
            refine R.cl [16] (mHow_spec x.n i) Tryz.call82 hS4_ rfl rfl rfl (fun _ => rfl) rfl (by kernel_rfl) fun _ _ => ?_
            refine sS_ ?_
            cases hk : PF.h.ok 0 0 0 x.n with
            | false =>
              rw [hno hk]
              refine sS_ ?_
              refine X.fin ttok () [] trivial rfl rfl rfl hS7_ _ (by first | exact .inl rfl | exact .inr rfl)
            | true =>
              refine sS_ ?_
              refine R.cl [21] (pN_spec) Tryz.call80 ((by exact HasIn.any rfl .nil)) rfl rfl rfl (fun _ => rfl) rfl (by kernel_rfl) fun _ _ => ?_
              refine sS_ ?_
              exact X.back [] (j + 1) ⟨hlt, hgo hk⟩ (by omega) rfl hS12_ (by
                show HasH _ _ _ [_, _, _, _, _, (21, insO (zeroN (l.take (j + 1)) { x with o := 0 }))]
                rw [hz]
                exact hS3_) rfl (fun _ h => h)
          | m =>
            refine sS_ ?_
            refine R.ix ttok j rfl rfl rfl rfl rfl (by kernel_rfl) rfl hlt ⟨by omega, by omega⟩ rfl ?_
            refine R.ldo (v := .agg (PF.av .m)) ttok rfl rfl rfl (by rw [hB]; rfl) rfl (by kernel_rfl) hlt ?_
            refine sS_ ?_
            refine C.draw [[], [0], [], [2], [2, 3], [2, 3, 4], [2, 3, 4, 5], [], [], [0, 1, 2, 3, 4, 5, 6, 7, 8], [0, 1, 2, 3, 4, 5, 6, 7, 8, 9]] [4, 9] (by kernel_rfl) (by kernel_rfl) ?_
            refine sS_ ?_
            refine R.cl [18] (pN_spec) Tryz.call80 ((by exact HasIn.any rfl .nil)) rfl rfl rfl (fun _ => rfl) rfl (by kernel_rfl) fun _ _ => ?_
            refine sS_ ?_
            refine R.cl [16] (mMany_spec x.n i) Tryz.call83 hS4_ rfl rfl rfl (fun _ => rfl) rfl (by kernel_rfl) fun _ _ => ?_
            refine sS_ ?_
            cases hk : PF.m.ok 0 0 0 x.n with
            | false =>
              rw [hno hk]
              refine sS_ ?_
              refine X.fin ttok () [] trivial rfl rfl rfl hS7_ _ (by first | exact .inl rfl | exact .inr rfl)
            | true =>
              refine sS_ ?_
              refine R.cl [21] (pN_spec) Tryz.call80 ((by exact HasIn.any rfl .nil)) rfl rfl rfl (fun _ => rfl) rfl (by kernel_rfl) fun _ _ => ?_
              refine sS_ ?_
              exact X.back [] (j + 1) ⟨hlt, hgo hk⟩ (by omega) rfl hS12_ (by
                show HasH _ _ _ [_, _, _, _, _, (21, insO (zeroN (l.take (j + 1)) { x with o := 0 }))]
                rw [hz]
                exact hS3_) rfl (fun _ h => h)
          | s =>
            refine sS_ ?_
            refine R.ix ttok j rfl rfl rfl rfl rfl (by kernel_rfl) rfl hlt ⟨by omega, by omega⟩ rfl ?_
            refine R.ldo (v := .agg (PF.av .s)) ttok rfl rfl rfl (by rw [hB]; rfl) rfl (by kernel_rfl) hlt ?_
            refine sS_ ?_
            refine C.draw [[], [0], [], [2], [2, 3], [2, 3, 4], [2, 3, 4, 5], [], [], [0, 1, 2, 3, 4, 5, 6, 7, 8], [0, 1, 2, 3, 4, 5, 6, 7, 8, 9]] [4, 9] (by kernel_rfl) (by kernel_rfl) ?_
            refine sS_ ?_
            refine R.cl [18] (pA_spec) Tryz.call76 ((by exact HasIn.any rfl .nil)) rfl rfl rfl (fun _ => rfl) rfl (by kernel_rfl) fun _ _ => ?_
            refine sS_ ?_
            refine R.cl [16, 17] (mSkip1_spec x.a i nm ar o L.length c hL (by omega)) Tryz.call84 hS4_ rfl rfl rfl (fun _ => rfl) rfl (by kernel_rfl) fun _ _ => ?_
            refine sS_ ?_
            cases hk : PF.s.ok ar L.length i x.a with
            | false =>
              rw [hno hk]
              refine sS_ ?_
              refine X.fin ttok () [] trivial rfl rfl rfl hS7_ _ (by first | exact .inl rfl | exact .inr rfl)
            | true =>
              refine sS_ ?_
              refine R.cl [21] (pA_spec) Tryz.call76 ((by exact HasIn.any rfl .nil)) rfl rfl rfl (fun _ => rfl) rfl (by kernel_rfl) fun _ _ => ?_
              refine sS_ ?_
              exact X.back [] (j + 1) ⟨hlt, hgo hk⟩ (by omega) rfl hS12_ (by
                show HasH _ _ _ [_, _, _, _, _, (21, insO (zeroN (l.take (j + 1)) { x with o := 0 }))]
                rw [hz]
                exact hS3_) rfl (fun _ h => h)
        · rw [decide_eq_false (show ¬ ((j : Nat) : Int) < (l.length : Nat) by omega)]
          rw [insL_all (j := j) (by omega) hok]
          obtain ⟨y, hy⟩ : ∃ y, zeroN (l.take j) { x with o := 0 } = y := ⟨_, rfl⟩
          rw [hy]
          refine sS_ ?_
          cases v with
          | false =>
            refine sS_ ?_
            refine R.nes ttok _ rfl rfl (by kernel_rfl) (by kernel_rfl) (nil_eq (insV0 false y)) rfl (by kernel_rfl) ?_
            cases hn : nilI (insV0 false y) with
            | false =>
              refine sS_ ?_
              refine X.fin ttok () [] trivial rfl rfl rfl hS7_ _ (by first | exact .inl rfl | exact .inr rfl)
            | true =>
              refine sS_ ?_
              refine X.fin ttok () [] trivial rfl rfl rfl hS7_ _ (by first | exact .inl rfl | exact .inr rfl)
          | true =>
            refine sS_ ?_
            refine R.nes ttok _ rfl rfl (by kernel_rfl) (by kernel_rfl) (nil_eq (insV0 true y)) rfl (by kernel_rfl) ?_
            cases hn : nilI (insV0 true y) with
            | false =>
              refine sS_ ?_
              refine X.fin ttok () [] trivial rfl rfl rfl hS7_ _ (by first | exact .inl rfl | exact .inr rfl)
            | true =>
              refine sS_ ?_
              refine R.cl [] (datumC_spec x.k x.i x.t) Tryz.call85 hS11_ rfl rfl rfl (fun _ => rfl) rfl (by kernel_rfl) fun _ _ => ?_
              refine sS_ ?_
              refine X.fin ttok () [] trivial rfl rfl rfl hS7_ _ (by first | exact .inl rfl | exact .inr rfl)
theorem checkP1_spec (nm : ByteArray) (ar : Int) (L : List Ins) (o c : Nat) (hL : L.length ≤ 1000000) : Spec Tryz.prog 15 [.agg (prA nm ar (.sl 0 1 o L.length c))] [roJ o L] 1 (σ := Unit) (fun _ => True) (fun _ => .tup [.raw (.int .i64 (chkP nm ar L).1), .raw (.int .i64 (chkP nm ar L).2)]) (fun _ => []) := by
  refine Spec.of Tryz.func15 rfl Tryz.ntmps15 rfl (bdl_cons (rowsJ_bd _ _ _ _) (bdl_nil _)) fun ρ w => ?_
  refine sS_ ?_
  refine R.cl [] (isName_spec nm) Tryz.call35 hS11_ rfl rfl rfl (fun _ => rfl) rfl (by kernel_rfl) fun _ _ => ?_
  cases hn : nameP (strB nm) with
  | false =>
    rw [show chkP nm ar L = (-1, 5) by unfold chkP; rw [hn, if_pos rfl]]
    refine sS_ ?_
    refine X.fin ttok () [] trivial rfl rfl rfl hS7_ _ (by first | exact .inl rfl | exact .inr rfl)
  | true =>
    refine sS_ ?_
    by_cases ha : ar < 0
    · rw [decide_eq_true ha]
      rw [show chkP nm ar L = (-1, 1) by unfold chkP; rw [hn, if_neg (by decide), if_pos (.inl ha)]]
      refine sS_ ?_
      refine X.fin ttok () [] trivial rfl rfl rfl hS7_ _ (by first | exact .inl rfl | exact .inr rfl)
    · rw [decide_eq_false ha]
      refine sS_ ?_
      by_cases hb : 16 < ar
      · rw [decide_eq_true (show ar > 16 from hb)]
        rw [show chkP nm ar L = (-1, 1) by unfold chkP; rw [hn, if_neg (by decide), if_pos (.inr hb)]]
        refine sS_ ?_
        refine X.fin ttok () [] trivial rfl rfl rfl hS7_ _ (by first | exact .inl rfl | exact .inr rfl)
      · rw [decide_eq_false (show ¬ ar > 16 from hb)]
        have hab : ¬ (ar < 0 ∨ 16 < ar) := by omega
        refine sS_ ?_
        by_cases hl : 64 < L.length
        · rw [decide_eq_true (show ((L.length : Nat) : Int) > 64 by omega)]
          rw [show chkP nm ar L = (-1, 4) by unfold chkP; rw [hn, if_neg (by decide), if_neg hab, if_pos hl]]
          refine sS_ ?_
          refine X.fin ttok () [] trivial rfl rfl rfl hS7_ _ (by first | exact .inl rfl | exact .inr rfl)
        · rw [decide_eq_false (show ¬ ((L.length : Nat) : Int) > 64 by omega)]
          rw [show chkP nm ar L = chkL ar L by unfold chkP; rw [hn, if_neg (by decide), if_neg hab, if_neg hl]]
          refine sS_ ?_
          refine R.cl [] (shapesP_spec) Tryz.call36 hS11_ rfl rfl rfl (fun _ => rfl) rfl (by kernel_rfl) fun _ _ => ?_
          refine sS_ ?_
          refine C.loop (σ := Nat) (L2 := 18) (fun i => i ≤ L.length ∧ ∀ j, j < i → badI ar L j = false) (fun i => [(1, .ptr 1 0 0 0), (4, .ptr 17 0 0 0), (29, .raw (.int .i64 (L.length : Nat))), (30, .raw (.int .i64 (i : Nat)))]) (fun _ => [(0, roJ o L), (1, .cells (prA nm ar (.sl 0 1 o L.length c)) 25), (2, .cells (pfX [.a]) pfT), (3, .cells (pfX [.a, .g]) pfT), (4, .cells (pfX [.a, .b]) pfT), (5, .cells (pfX [.a, .b]) pfT), (6, .cells (pfX [.a, .b]) pfT), (7, .cells (pfX [.a]) pfT), (8, .cells (pfX [.a]) pfT), (9, .cells (pfX [.a, .b, .c]) pfT), (10, .cells (pfX [.a, .b, .c]) pfT), (11, .cells (pfX [.a, .b, .c]) pfT), (12, .cells (pfX [.a, .b, .c]) pfT), (13, .cells (pfX [.b, .c, .h]) pfT), (14, .cells (pfX [.s, .b, .c, .h]) pfT), (15, .cells (pfX [.a, .b, .c, .m]) pfT), (16, .cells (pfX [.a, .b, .c, .m]) pfT), (17, .cells spA2 99)]) _ (fun i => L.length - i) [] 0 ⟨Nat.zero_le _, fun j h => absurd h (Nat.not_lt_zero j)⟩ rfl hS12_ hS8_ rfl (fun _ h => h) ?_
          rintro i ⟨hi, hd⟩
          refine sS_ ?_
          by_cases hlt : i < L.length
          · rw [decide_eq_true (show ((i : Nat) : Int) < (L.length : Nat) by omega)]
            refine sS_ ?_
            refine R.cl [2, 3, 4, 5, 6, 7, 8, 9, 10, 11, 12, 13, 14, 15, 16, 17, 1, 0] (instrP1_spec nm ar L o c i hL hlt) Tryz.call37 (by repeat (first | exact HasIn.nil | refine HasIn.roj rfl ?_ | refine HasIn.same rfl rfl ?_ | refine HasIn.row rfl (fun _ => rfl) rfl ?_ | refine HasIn.roA rfl rfl ?_ | refine HasIn.roq rfl rfl ?_)) rfl rfl rfl (fun _ => rfl) rfl (by kernel_rfl) fun _ _ => ?_
            obtain ⟨e, he⟩ : ∃ e, insE ar L.length i (L.getD i insD) = e := ⟨_, rfl⟩
            rw [he]
            refine sS_ ?_
            by_cases h0 : e = 0
            · rw [decide_eq_false (show ¬ e ≠ 0 from fun h => h h0)]
              refine sS_ ?_
              exact X.back [] (i + 1) ⟨hlt, fun j hj => (by
                rcases Nat.lt_or_ge j i with h | h
                · exact hd j h
                · obtain rfl : j = i := by omega
                  unfold badI
                  rw [he]
                  exact decide_eq_false (fun h => h h0))⟩ (by omega) rfl hS12_ hS8_ rfl (fun _ h => h)
            · rw [decide_eq_true (show e ≠ 0 from h0)]
              rw [chk_at hlt hd (by unfold badI; rw [he]; exact decide_eq_true h0), he]
              refine sS_ ?_
              refine X.fin ttok () [] trivial rfl rfl rfl hS7_ _ (by first | exact .inl rfl | exact .inr rfl)
          · rw [decide_eq_false (show ¬ ((i : Nat) : Int) < (L.length : Nat) by omega)]
            rw [chk_no fun j hj => hd j (by omega)]
            refine sS_ ?_
            refine X.fin ttok () [] trivial rfl rfl rfl hS7_ _ (by first | exact .inl rfl | exact .inr rfl)
theorem hS0_ {P : Prop} (h : P := by repeat (first | exact HasH.nil | refine HasH.roj rfl rfl ?_ | refine HasH.same rfl rfl rfl trivial ?_ | refine HasH.same rfl rfl rfl rfl ?_ | refine HasH.same rfl rfl rfl (roA_bd rfl) ?_ | refine HasH.same rfl (fk2_ren _ _ rfl rfl rfl rfl rfl rfl) rfl (fk2_bd _ _ (Nat.le_of_ble_eq_true rfl)) ?_ | refine HasH.same rfl rfl rfl (fun _ _ => rfl) ?_ | refine HasH.same rfl (sh2_ren _ (by decide)) rfl (sh2_bd _ (Nat.le_of_ble_eq_true rfl)) ?_ | refine HasH.other rfl (fun e => by cases e) (fun ρ x w hh => cells_roA hh) rfl (roA_bd rfl) ?_ | refine HasH.fk2 rfl rfl rfl rfl rfl rfl rfl rfl rfl (Nat.le_of_ble_eq_true rfl) ?_ | refine HasH.other rfl (fun e => by cases e) (fun ρ x w hh => cells_sg hh) rfl (fun _ _ => rfl) ?_ | refine HasH.sh2 rfl rfl (by decide) rfl (Nat.le_of_ble_eq_true rfl) ?_ | refine HasH.other rfl (fun e => by cases e) (fun ρ x w hh => tab0_ro hh) rfl (fun i hi => absurd hi (Nat.not_lt_zero i)) ?_)) : P := h
theorem print1_spec (nm : ByteArray) (ar : Int) (L : List Ins) (o cp : Nat) (hL : L.length ≤ 1000000) (hI : ∀ x ∈ L, insI x) (fs : Fam) (hG : Glob fs) : SpecF Tryz.prog 13 [.agg (prA nm ar (.sl 0 1 o L.length cp))] [roJ o L] 1 fs (σ := Unit) (fun _ => True) (fun _ => .tup [.raw (.string (strOf (printO nm ar L))), .raw (.int .i64 (chkP nm ar L).2)]) (fun _ => []) (fun _ => fs) := by
  refine SpecF.of Tryz.func13 rfl Tryz.ntmps13 rfl (bdl_cons (rowsJ_bd _ _ _ _) (bdl_nil _)) fun ρ w => ?_
  refine sS_ ?_
  refine R.cl [0] (checkP1_spec nm ar L o cp hL) Tryz.call15 hS4_ rfl rfl rfl (fun _ => rfl) rfl (by kernel_rfl) fun _ _ => ?_
  obtain ⟨e, he⟩ : ∃ e, (chkP nm ar L).2 = e := ⟨_, rfl⟩
  unfold printO
  rw [he]
  refine sS_ ?_
  by_cases h0 : e = 0
  · subst h0
    obtain ⟨hnm, har0, har1, hl64, hok⟩ := chkP_ok he
    have hnms := strB_size nm
    have hari : i64 ar := ⟨by omega, by omega⟩
    have hil := itoa_le hari
    rw [if_pos rfl, show decide ((0 : Int) ≠ 0) = false from rfl]
    refine sS_ ?_
    refine R.cl [] (shapes_spec) Tryz.call18 hS11_ rfl rfl rfl (fun _ => rfl) rfl (by kernel_rfl) fun _ _ => ?_
    refine sS_ ?_
    refine C.lessR [] 26 [(1, .ptr 1 0 0 0), (6, .sl 24 3 0 16 16), (7, .ptr 25 0 0 0)] [(0, roJ o L), (1, .cells (prA nm ar (.sl 0 1 o L.length cp)) 25), (2, one0 (.fn 41 [])), (3, one0 (.fn 44 [])), (4, one0 (.fn 45 [])), (5, one0 (.fn 42 [])), (6, one0 (.fn 41 [])), (7, roSg), (8, one0 (.sl 7 1 0 7 7)), (9, roK2 [.a, .v]), (10, roK2 [.a, .n]), (11, roK2 [.a, .b]), (12, roK2 [.a, .b]), (13, roK2 [.a, .b]), (14, roK2 [.a]), (15, roK2 [.a]), (16, roK2 [.a, .b, .c]), (17, roK2 [.a, .b, .c]), (18, roK2 [.a, .b, .c]), (19, roK2 [.a, .b, .c]), (20, roK2 [.b, .s, .c]), (21, roK2 [.k, .b, .s, .c]), (22, roK2 [.a, .b, .c, .n]), (23, roK2 [.a, .b, .c, .n]), (24, roSh2), (25, .cells [.raw (.pointer none), .raw (.slice none 0 0)] bldT)] _ rfl hS12_ hS0_ rfl (fun _ h => h) ?_
    refine C.draw [[], [0], [0, 1], [0, 1, 2], [], [4], [4, 5], [0, 1, 2, 3, 4, 5, 6], [0, 1, 2, 3, 4, 5, 6, 7], [0, 1, 2, 3, 4, 5, 6, 7, 8]] [6, 9] (by kernel_rfl) (by kernel_rfl) ?_
    refine sS_ ?_
    refine R.cat rfl rfl rfl (by kernel_rfl) (by show 5 + nm.size ≤ _; omega) ?_
    rw [show (⟨#[112, 114, 111, 99, 32]⟩ : ByteArray) ++ nm = _ from cat1 [112, 114, 111, 99, 32] nm]
    refine R.cat rfl rfl rfl (by kernel_rfl) (by rw [strOf_size, List.length_append]; show 5 + (strB nm).length + 1 ≤ _; omega) ?_
    rw [show strOf ([112, 114, 111, 99, 32] ++ strB nm) ++ (⟨#[32]⟩ : ByteArray) = _ from cat1 _ ⟨#[32]⟩]
    refine sS_ ?_
    refine R.clR [] (itoa_spec ar hari fs hG) hG.ro Tryz.call31 hS11_ rfl rfl rfl (fun _ => rfl) rfl (by kernel_rfl) fun _ _ => ?_
    refine R.cat rfl rfl rfl (by kernel_rfl) (by rw [strOf_size, strOf_size, List.length_append, List.length_append]; show 5 + (strB nm).length + 1 + (Lib.itoa ar).length ≤ _; omega) ?_
    rw [strOf_app]
    refine R.cat rfl rfl rfl (by kernel_rfl) (by rw [strOf_size, List.length_append, List.length_append, List.length_append]; show 5 + (strB nm).length + 1 + (Lib.itoa ar).length + 1 ≤ _; omega) ?_
    rw [show strOf ([112, 114, 111, 99, 32] ++ strB nm ++ strB ⟨#[32]⟩ ++ Lib.itoa ar) ++ (⟨#[10]⟩ : ByteArray) = strOf (headP nm ar) from cat1 _ ⟨#[10]⟩]
    have hhl : (headP nm ar).length = 7 + (strB nm).length + (Lib.itoa ar).length := by
      unfold headP
      simp only [List.length_append, List.length_cons, List.length_nil]
      omega
    have hh0 : 0 < (headP nm ar).length := by omega
    obtain ⟨hd, hhd⟩ : ∃ hd, headP nm ar = hd := ⟨_, rfl⟩
    rw [hhd] at hhl hh0 ⊢
    refine R.cl [25] (write0_spec (strOf hd) (by rw [strOf_size]; omega)) Tryz.call30 hS11_ rfl rfl rfl (fun _ => rfl) rfl (by kernel_rfl) fun c0 hc0 => ?_
    rw [strOf_size] at hc0
    obtain ⟨hc0, hc0'⟩ := hc0
    refine sS_ ?_
    refine C.loop (σ := Nat × List UInt8 × Nat) (L2 := 27) (fun s => s.1 ≤ L.length ∧ s.2.1 = hd ++ (L.take s.1).flatMap lnP ∧ s.2.1.length ≤ 100 + s.1 * 100000 ∧ s.2.1.length ≤ s.2.2 ∧ s.2.2 ≤ 9223372036854775807) (fun s => [(6, .sl 24 3 0 16 16), (7, .ptr 25 0 0 0), (34, .sl 0 1 o L.length cp), (35, .raw (.int .i64 (L.length : Nat))), (36, .raw (.int .i64 (s.1 : Nat)))])
      (fun s => [(0, roJ o L), (1, .cells (prA nm ar (.sl 0 1 o L.length cp)) 25), (2, one0 (.fn 41 [])), (3, one0 (.fn 44 [])), (4, one0 (.fn 45 [])), (5, one0 (.fn 42 [])), (6, one0 (.fn 41 [])), (7, roSg), (8, one0 (.sl 7 1 0 7 7)), (9, roK2 [.a, .v]), (10, roK2 [.a, .n]), (11, roK2 [.a, .b]), (12, roK2 [.a, .b]), (13, roK2 [.a, .b]), (14, roK2 [.a]), (15, roK2 [.a]), (16, roK2 [.a, .b, .c]), (17, roK2 [.a, .b, .c]), (18, roK2 [.a, .b, .c]), (19, roK2 [.a, .b, .c]), (20, roK2 [.b, .s, .c]), (21, roK2 [.k, .b, .s, .c]), (22, roK2 [.a, .b, .c, .n]), (23, roK2 [.a, .b, .c, .n]), (24, roSh2), (25, .cells [.ptr 25 0 0 0, .sl 26 1 0 s.2.1.length s.2.2] bldT), (26, .bytes s.2.1 s.2.2 5)]) _ (fun s => L.length - s.1) [] (0, hd, c0) ⟨Nat.zero_le _, by simp, by dsimp only; omega, hc0, hc0'⟩ rfl hS12_ (by
      show HasH _ _ _ [(0, roJ o L), (1, .cells (prA nm ar (.sl 0 1 o L.length cp)) 25), (2, one0 (.fn 41 [])), (3, one0 (.fn 44 [])), (4, one0 (.fn 45 [])), (5, one0 (.fn 42 [])), (6, one0 (.fn 41 [])), (7, roSg), (8, one0 (.sl 7 1 0 7 7)), (9, roK2 [.a, .v]), (10, roK2 [.a, .n]), (11, roK2 [.a, .b]), (12, roK2 [.a, .b]), (13, roK2 [.a, .b]), (14, roK2 [.a]), (15, roK2 [.a]), (16, roK2 [.a, .b, .c]), (17, roK2 [.a, .b, .c]), (18, roK2 [.a, .b, .c]), (19, roK2 [.a, .b, .c]), (20, roK2 [.b, .s, .c]), (21, roK2 [.k, .b, .s, .c]), (22, roK2 [.a, .b, .c, .n]), (23, roK2 [.a, .b, .c, .n]), (24, roSh2), (25, .cells [.ptr 25 0 0 0, .sl 26 1 0 hd.length c0] bldT), (26, .bytes hd c0 5)]
      rw [← strOf_size hd]
      exact hS0_) rfl (fun _ h => h) ?_
    rintro ⟨i, p, c⟩ ⟨hi, hp, hpl, hc, hc'⟩
    dsimp only at hi hp hpl hc hc' ⊢
    refine sS_ ?_
    by_cases hlt : i < L.length
    · rw [decide_eq_true (show ((i : Nat) : Int) < (L.length : Nat) by omega)]
      obtain ⟨x, hx⟩ : ∃ x, L.getD i insD = x := ⟨_, rfl⟩
      have hA : insF L i = insA x := by unfold insF; rw [hx]
      have hxm : x ∈ L := by
        rw [← hx, List.getD_eq_getElem?_getD, List.getElem?_eq_getElem hlt]
        exact List.getElem_mem _
      have hxI := hI x hxm
      have hxk : InsK x := by
        have := hok i hlt
        rw [hx] at this
        exact insE_ok this
      have hnext : ∀ q, q = p ++ shL.flatMap (lnS x) → q = hd ++ (L.take (i + 1)).flatMap lnP := fun q hq => by
        rw [hq, hp, List.take_add_one, List.flatMap_append, List.append_assoc]
        congr 2
        have : L[i]? = some x := by
          rw [← hx, List.getD_eq_getElem?_getD, List.getElem?_eq_getElem hlt]
          rfl
        rw [this]
        simp [lnP]
      clear hp
      have hi64 : i < 64 := by omega
      refine sS_ ?_
      refine R.ix1 ttok i rfl rfl rfl rfl rfl (by kernel_rfl) rfl hlt (⟨by omega, by omega⟩ : o ≤ o + i * 8 ∧ o + i * 8 < o + L.length * 8) rfl ?_
      refine R.ldr1 (v := .agg (insA x)) ttok i rfl rfl rfl (by rw [hA]; rfl) rfl (by kernel_rfl) rfl rfl (by decide) (by omega) ?_
      refine sS_ ?_
      refine C.loop (σ := Nat × List UInt8 × Nat) (L2 := 28) (fun s => s.1 ≤ 16 ∧ s.2.1 = p ++ (shL.take s.1).flatMap (lnS x) ∧ s.2.1.length ≤ 100 + i * 100000 + s.1 * 6000 ∧ s.2.1.length ≤ s.2.2 ∧ s.2.2 ≤ 9223372036854775807) (fun s => [(6, .sl 24 3 0 16 16), (7, .ptr 25 0 0 0), (9, .ptr 27 0 0 0), (34, .sl 0 1 o L.length cp), (35, .raw (.int .i64 (L.length : Nat))), (36, .raw (.int .i64 (i : Nat))), (40, .sl 24 3 0 16 16), (41, .raw (.int .i64 16)), (42, .raw (.int .i64 (s.1 : Nat)))])
        (fun s => [(0, roJ o L), (1, .cells (prA nm ar (.sl 0 1 o L.length cp)) 25), (2, one0 (.fn 41 [])), (3, one0 (.fn 44 [])), (4, one0 (.fn 45 [])), (5, one0 (.fn 42 [])), (6, one0 (.fn 41 [])), (7, roSg), (8, one0 (.sl 7 1 0 7 7)), (9, roK2 [.a, .v]), (10, roK2 [.a, .n]), (11, roK2 [.a, .b]), (12, roK2 [.a, .b]), (13, roK2 [.a, .b]), (14, roK2 [.a]), (15, roK2 [.a]), (16, roK2 [.a, .b, .c]), (17, roK2 [.a, .b, .c]), (18, roK2 [.a, .b, .c]), (19, roK2 [.a, .b, .c]), (20, roK2 [.b, .s, .c]), (21, roK2 [.k, .b, .s, .c]), (22, roK2 [.a, .b, .c, .n]), (23, roK2 [.a, .b, .c, .n]), (24, roSh2), (25, .cells [.ptr 25 0 0 0, .sl 26 1 0 s.2.1.length s.2.2] bldT), (26, .bytes s.2.1 s.2.2 5), (27, insO x)]) _ (fun s => 16 - s.1) [] (0, p, c) ⟨Nat.zero_le _, by simp, hpl, hc, hc'⟩ rfl hS12_ hS0_ rfl (fun _ h => h) ?_
      clear hpl hc hc'
      rintro ⟨j, q, c⟩ ⟨hj, hq, hql, hc, hc'⟩
      dsimp only at hj hq hql hc hc' ⊢
      refine sS_ ?_
      by_cases hjl : j < 16
      · rw [decide_eq_true (show ((j : Nat) : Int) < 16 by omega)]
        repeat (first | refine C.seq ?_ | refine R.zb ttok ?_ | refine R.zu ttok ?_ | refine R.zc ttok ?_ | refine R.za ttok ?_ | refine R.zx ?_ | refine R.zl ttok ?_ | refine R.zs ttok ?_ | refine R.z ttok ?_ | refine R.zk ?_ | refine R.zn ?_ | refine R.done ?_ | refine X.then ?_ | refine C.block ?_ | refine C.ret ?_ | refine C.skip ?_ | refine C.exit ?_ | refine X.pass_ret ?_ | refine X.pass_exit ?_ | refine X.block_normal ?_ | refine X.block_ret ?_ | refine X.block_exit ?_ | refine C.zt ?_ | refine C.zf ?_ | refine X.zo ?_)
        refine C.cuts (σ := Sh) 30 (fun s => shL[j]? = some s) (fun s => [(6, .sl 24 3 0 16 16), (7, .ptr 25 0 0 0), (9, .ptr 27 0 0 0), (11, .ptr 28 0 0 0), (34, .sl 0 1 o L.length cp), (35, .raw (.int .i64 (L.length : Nat))), (36, .raw (.int .i64 (i : Nat))), (40, .sl 24 3 0 16 16), (41, .raw (.int .i64 16)), (42, .raw (.int .i64 (j : Nat)))])
          (fun s => [(0, roJ o L), (1, .cells (prA nm ar (.sl 0 1 o L.length cp)) 25), (2, one0 (.fn 41 [])), (3, one0 (.fn 44 [])), (4, one0 (.fn 45 [])), (5, one0 (.fn 42 [])), (6, one0 (.fn 41 [])), (7, roSg), (8, one0 (.sl 7 1 0 7 7)), (9, roK2 [.a, .v]), (10, roK2 [.a, .n]), (11, roK2 [.a, .b]), (12, roK2 [.a, .b]), (13, roK2 [.a, .b]), (14, roK2 [.a]), (15, roK2 [.a]), (16, roK2 [.a, .b, .c]), (17, roK2 [.a, .b, .c]), (18, roK2 [.a, .b, .c]), (19, roK2 [.a, .b, .c]), (20, roK2 [.b, .s, .c]), (21, roK2 [.k, .b, .s, .c]), (22, roK2 [.a, .b, .c, .n]), (23, roK2 [.a, .b, .c, .n]), (24, roSh2), (25, .cells [.ptr 25 0 0 0, .sl 26 1 0 q.length c] bldT), (26, .bytes q c 5), (27, insO x), (28, .cells [.raw (.string s.w), .raw (.int .i64 (s.op : Nat)), .sl 29 2 0 s.f.length s.f.length] shpT), (29, roK2 s.f)]) ?_ ?_
        · refine sS_ ?_
          refine R.ix ttok j rfl rfl rfl rfl rfl (by kernel_rfl) rfl hjl ⟨Nat.zero_le _, by omega⟩ rfl ?_
          by_cases e0 : j = 0
          · subst e0
            refine R.ldo (v := .agg [.raw (.string ⟨#[115, 101, 116]⟩), .raw (.int .i64 1), .sl 9 2 0 2 2]) ttok rfl rfl rfl rfl rfl (by kernel_rfl) (by decide) ?_
            refine sS_ ?_
            exact X.backR [(29, 9)] ⟨⟨#[115, 101, 116]⟩, 1, [.a, .v]⟩ rfl Nat.zero_lt_one rfl hS12_ hS0_ rfl (fun _ h => h)
          by_cases e1 : j = 1
          · subst e1
            refine R.ldo (v := .agg [.raw (.string ⟨#[97, 114, 103]⟩), .raw (.int .i64 2), .sl 10 2 0 2 2]) ttok rfl rfl rfl rfl rfl (by kernel_rfl) (by decide) ?_
            refine sS_ ?_
            exact X.backR [(29, 10)] ⟨⟨#[97, 114, 103]⟩, 2, [.a, .n]⟩ rfl Nat.zero_lt_one rfl hS12_ hS0_ rfl (fun _ h => h)
          by_cases e2 : j = 2
          · subst e2
            refine R.ldo (v := .agg [.raw (.string ⟨#[103, 101, 116]⟩), .raw (.int .i64 3), .sl 11 2 0 2 2]) ttok rfl rfl rfl rfl rfl (by kernel_rfl) (by decide) ?_
            refine sS_ ?_
            exact X.backR [(29, 11)] ⟨⟨#[103, 101, 116]⟩, 3, [.a, .b]⟩ rfl Nat.zero_lt_one rfl hS12_ hS0_ rfl (fun _ h => h)
          by_cases e3 : j = 3
          · subst e3
            refine R.ldo (v := .agg [.raw (.string ⟨#[110, 101, 120, 116]⟩), .raw (.int .i64 14), .sl 12 2 0 2 2]) ttok rfl rfl rfl rfl rfl (by kernel_rfl) (by decide) ?_
            refine sS_ ?_
            exact X.backR [(29, 12)] ⟨⟨#[110, 101, 120, 116]⟩, 14, [.a, .b]⟩ rfl Nat.zero_lt_one rfl hS12_ hS0_ rfl (fun _ h => h)
          by_cases e4 : j = 4
          · subst e4
            refine R.ldo (v := .agg [.raw (.string ⟨#[112, 117, 116]⟩), .raw (.int .i64 4), .sl 13 2 0 2 2]) ttok rfl rfl rfl rfl rfl (by kernel_rfl) (by decide) ?_
            refine sS_ ?_
            exact X.backR [(29, 13)] ⟨⟨#[112, 117, 116]⟩, 4, [.a, .b]⟩ rfl Nat.zero_lt_one rfl hS12_ hS0_ rfl (fun _ h => h)
          by_cases e5 : j = 5
          · subst e5
            refine R.ldo (v := .agg [.raw (.string ⟨#[100, 101, 108]⟩), .raw (.int .i64 5), .sl 14 2 0 1 1]) ttok rfl rfl rfl rfl rfl (by kernel_rfl) (by decide) ?_
            refine sS_ ?_
            exact X.backR [(29, 14)] ⟨⟨#[100, 101, 108]⟩, 5, [.a]⟩ rfl Nat.zero_lt_one rfl hS12_ hS0_ rfl (fun _ h => h)
          by_cases e6 : j = 6
          · subst e6
            refine R.ldo (v := .agg [.raw (.string ⟨#[116, 101, 108, 108]⟩), .raw (.int .i64 15), .sl 15 2 0 1 1]) ttok rfl rfl rfl rfl rfl (by kernel_rfl) (by decide) ?_
            refine sS_ ?_
            exact X.backR [(29, 15)] ⟨⟨#[116, 101, 108, 108]⟩, 15, [.a]⟩ rfl Nat.zero_lt_one rfl hS12_ hS0_ rfl (fun _ h => h)
          by_cases e7 : j = 7
          · subst e7
            refine R.ldo (v := .agg [.raw (.string ⟨#[97, 100, 100]⟩), .raw (.int .i64 6), .sl 16 2 0 3 3]) ttok rfl rfl rfl rfl rfl (by kernel_rfl) (by decide) ?_
            refine sS_ ?_
            exact X.backR [(29, 16)] ⟨⟨#[97, 100, 100]⟩, 6, [.a, .b, .c]⟩ rfl Nat.zero_lt_one rfl hS12_ hS0_ rfl (fun _ h => h)
          by_cases e8 : j = 8
          · subst e8
            refine R.ldo (v := .agg [.raw (.string ⟨#[115, 117, 98]⟩), .raw (.int .i64 7), .sl 17 2 0 3 3]) ttok rfl rfl rfl rfl rfl (by kernel_rfl) (by decide) ?_
            refine sS_ ?_
            exact X.backR [(29, 17)] ⟨⟨#[115, 117, 98]⟩, 7, [.a, .b, .c]⟩ rfl Nat.zero_lt_one rfl hS12_ hS0_ rfl (fun _ h => h)
          by_cases e9 : j = 9
          · subst e9
            refine R.ldo (v := .agg [.raw (.string ⟨#[109, 117, 108]⟩), .raw (.int .i64 8), .sl 18 2 0 3 3]) ttok rfl rfl rfl rfl rfl (by kernel_rfl) (by decide) ?_
            refine sS_ ?_
            exact X.backR [(29, 18)] ⟨⟨#[109, 117, 108]⟩, 8, [.a, .b, .c]⟩ rfl Nat.zero_lt_one rfl hS12_ hS0_ rfl (fun _ h => h)
          by_cases e10 : j = 10
          · subst e10
            refine R.ldo (v := .agg [.raw (.string ⟨#[106, 111, 105, 110]⟩), .raw (.int .i64 9), .sl 19 2 0 3 3]) ttok rfl rfl rfl rfl rfl (by kernel_rfl) (by decide) ?_
            refine sS_ ?_
            exact X.backR [(29, 19)] ⟨⟨#[106, 111, 105, 110]⟩, 9, [.a, .b, .c]⟩ rfl Nat.zero_lt_one rfl hS12_ hS0_ rfl (fun _ h => h)
          by_cases e11 : j = 11
          · subst e11
            refine R.ldo (v := .agg [.raw (.string ⟨#[110, 101, 101, 100]⟩), .raw (.int .i64 10), .sl 20 2 0 3 3]) ttok rfl rfl rfl rfl rfl (by kernel_rfl) (by decide) ?_
            refine sS_ ?_
            exact X.backR [(29, 20)] ⟨⟨#[110, 101, 101, 100]⟩, 10, [.b, .s, .c]⟩ rfl Nat.zero_lt_one rfl hS12_ hS0_ rfl (fun _ h => h)
          by_cases e12 : j = 12
          · subst e12
            refine R.ldo (v := .agg [.raw (.string ⟨#[115, 107, 105, 112]⟩), .raw (.int .i64 11), .sl 21 2 0 4 4]) ttok rfl rfl rfl rfl rfl (by kernel_rfl) (by decide) ?_
            refine sS_ ?_
            exact X.backR [(29, 21)] ⟨⟨#[115, 107, 105, 112]⟩, 11, [.k, .b, .s, .c]⟩ rfl Nat.zero_lt_one rfl hS12_ hS0_ rfl (fun _ h => h)
          by_cases e13 : j = 13
          · subst e13
            refine R.ldo (v := .agg [.raw (.string ⟨#[115, 117, 109]⟩), .raw (.int .i64 12), .sl 22 2 0 4 4]) ttok rfl rfl rfl rfl rfl (by kernel_rfl) (by decide) ?_
            refine sS_ ?_
            exact X.backR [(29, 22)] ⟨⟨#[115, 117, 109]⟩, 12, [.a, .b, .c, .n]⟩ rfl Nat.zero_lt_one rfl hS12_ hS0_ rfl (fun _ h => h)
          by_cases e14 : j = 14
          · subst e14
            refine R.ldo (v := .agg [.raw (.string ⟨#[99, 111, 117, 110, 116]⟩), .raw (.int .i64 13), .sl 23 2 0 4 4]) ttok rfl rfl rfl rfl rfl (by kernel_rfl) (by decide) ?_
            refine sS_ ?_
            exact X.backR [(29, 23)] ⟨⟨#[99, 111, 117, 110, 116]⟩, 13, [.a, .b, .c, .n]⟩ rfl Nat.zero_lt_one rfl hS12_ hS0_ rfl (fun _ h => h)
          obtain rfl : j = 15 := by omega
          refine R.ldo (v := .agg [.raw (.string ⟨#[115, 116, 111, 112]⟩), .raw (.int .i64 16), .raw (.slice none 0 0)]) ttok rfl rfl rfl rfl rfl (by kernel_rfl) (by decide) ?_
          refine sS_ ?_
          refine X.noneH 28 [.raw (.string ⟨#[115, 116, 111, 112]⟩), .raw (.int .i64 16), .sl 29 2 0 0 0] (.tab 2 0 0 (fkF2 []) fldT) (none_tab _ _ _ _) rfl rfl rfl (fun ρ h => by
            have h : ρ 29 = none := h
            show _ = AV.concs ρ [.raw (.string ⟨#[115, 116, 111, 112]⟩), .raw (.int .i64 16), .raw (.slice none 0 0)]
            simp [AV.concs, AV.conc, h]) ?_
          exact X.backR [] ⟨⟨#[115, 116, 111, 112]⟩, 16, []⟩ rfl Nat.zero_lt_one rfl hS12_ hS0_ rfl (fun _ h => h)
        · rintro s hs
          obtain ⟨hw5, hsv, hss⟩ := sh_word hs
          have hl4 := sh_len hs
          have hqn : ∀ q', q' = q ++ lnS x s → q' = p ++ (shL.take (j + 1)).flatMap (lnS x) := fun q' h => by
            rw [h, hq, List.take_add_one, hs, List.flatMap_append, List.append_assoc]
            simp
          clear hq
          refine sS_ ?_
          by_cases hop : ((s.op : Nat) : Int) = x.o
          · rw [decide_eq_false (show ¬ ((s.op : Nat) : Int) ≠ x.o from fun h => h hop)]
            have hln : lnS x s = lineS s x := if_pos hop
            rw [hln] at hqn
            refine sS_ ?_
            refine R.cat rfl rfl rfl (by kernel_rfl) (by rw [← strB_size s.w]; show 2 + (strB s.w).length ≤ _; omega) ?_
            rw [show (⟨#[32, 32]⟩ : ByteArray) ++ s.w = _ from cat1 [32, 32] s.w]
            have hsl : ([32, 32] ++ strB s.w).length ≤ 7 := by rw [List.length_append]; show 2 + _ ≤ 7; omega
            obtain ⟨tl, htl⟩ : ∃ tl, [32, 32] ++ strB s.w = tl := ⟨_, rfl⟩
            rw [htl] at hsl ⊢
            refine R.cl [25, 26] (write_spec q c (strOf tl) hc' (by rw [strOf_size]; omega)) Tryz.call30 hS11_ rfl rfl rfl (fun _ => rfl) rfl (by kernel_rfl) fun c1 hc1 => ?_
            rw [show strB (strOf tl) = tl from rfl] at hc1 ⊢
            obtain ⟨hc1, hc1'⟩ := hc1
            have hq1 : (q ++ tl).length ≤ 100 + i * 100000 + j * 6000 + 10 := by rw [List.length_append]; omega
            have hq1q : q ++ tl ++ s.f.flatMap (fun k => 32 :: k.wr x) ++ [10] = q ++ lineS s x := by
              unfold lineS
              rw [htl]
              simp
            rw [← hq1q] at hqn
            clear hq1q
            obtain ⟨q1, hq1e⟩ : ∃ q1, q ++ tl = q1 := ⟨_, rfl⟩
            rw [hq1e] at hq1 hc1 hqn ⊢
            refine sS_ ?_
            refine C.loop (σ := Nat × List UInt8 × Nat) (L2 := 31) (fun y => y.1 ≤ s.f.length ∧ y.2.1 = q1 ++ (s.f.take y.1).flatMap (fun k => 32 :: k.wr x) ∧ y.2.1.length ≤ 100 + i * 100000 + j * 6000 + 10 + y.1 * 1100 ∧ y.2.1.length ≤ y.2.2 ∧ y.2.2 ≤ 9223372036854775807)
              (fun y => [(6, .sl 24 3 0 16 16), (7, .ptr 25 0 0 0), (9, .ptr 27 0 0 0), (34, .sl 0 1 o L.length cp), (35, .raw (.int .i64 (L.length : Nat))), (36, .raw (.int .i64 (i : Nat))), (40, .sl 24 3 0 16 16), (41, .raw (.int .i64 16)), (42, .raw (.int .i64 (j : Nat))), (56, .sl 29 2 0 s.f.length s.f.length), (57, .raw (.int .i64 (s.f.length : Nat))), (58, .raw (.int .i64 (y.1 : Nat)))])
              (fun y => [(0, roJ o L), (1, .cells (prA nm ar (.sl 0 1 o L.length cp)) 25), (2, one0 (.fn 41 [])), (3, one0 (.fn 44 [])), (4, one0 (.fn 45 [])), (5, one0 (.fn 42 [])), (6, one0 (.fn 41 [])), (7, roSg), (8, one0 (.sl 7 1 0 7 7)), (9, roK2 [.a, .v]), (10, roK2 [.a, .n]), (11, roK2 [.a, .b]), (12, roK2 [.a, .b]), (13, roK2 [.a, .b]), (14, roK2 [.a]), (15, roK2 [.a]), (16, roK2 [.a, .b, .c]), (17, roK2 [.a, .b, .c]), (18, roK2 [.a, .b, .c]), (19, roK2 [.a, .b, .c]), (20, roK2 [.b, .s, .c]), (21, roK2 [.k, .b, .s, .c]), (22, roK2 [.a, .b, .c, .n]), (23, roK2 [.a, .b, .c, .n]), (24, roSh2), (25, .cells [.ptr 25 0 0 0, .sl 30 1 0 y.2.1.length y.2.2] bldT), (27, insO x), (29, roK2 s.f), (30, .bytes y.2.1 y.2.2 5)]) _ (fun y => s.f.length - y.1) [] (0, q1, c1) ⟨Nat.zero_le _, by simp, hq1, hc1, hc1'⟩ rfl hS12_ hS0_ rfl (fun _ h => h) ?_
            clear hq1 hc1 hc1'
            rintro ⟨k, r, c⟩ ⟨hk, hr, hrl, hc, hc'⟩
            dsimp only at hk hr hrl hc hc' ⊢
            refine sS_ ?_
            by_cases hkl : k < s.f.length
            · rw [decide_eq_true (show ((k : Nat) : Int) < (s.f.length : Nat) by omega)]
              obtain ⟨fk, hfk⟩ : ∃ fk, s.f[k]? = some fk := ⟨_, List.getElem?_eq_getElem hkl⟩
              have hfm : fk ∈ s.f := List.mem_of_getElem? hfk
              have hB := fkF2_at hfk
              have hwl : (fk.wr x).length ≤ 1030 := wr_len hxI fk (fun hq => hxk.tx (by
                subst hq
                rw [hsv hfm] at hop
                omega))
              have hgo : ∀ r', r' = r ++ (32 :: fk.wr x) → r' = q1 ++ (s.f.take (k + 1)).flatMap (fun k => 32 :: k.wr x) := fun r' h => by
                rw [h, hr, List.take_add_one, hfk, List.flatMap_append, List.append_assoc]
                simp
              clear hr
              obtain ⟨hia, hib, hic, hin, hii⟩ := hxI
              cases fk with
              | a =>
                refine sS_ ?_
                refine R.ix ttok k rfl rfl rfl rfl rfl (by kernel_rfl) rfl hkl ⟨by omega, by omega⟩ rfl ?_
                refine R.ldo (v := .agg (FK.av2 .a)) ttok rfl rfl rfl (by rw [hB]; rfl) rfl (by kernel_rfl) hkl ?_
                refine sS_ ?_
                refine R.clR [2] (regA_write x hia fs hG) hG.ro Tryz.call88 hS11_ rfl rfl rfl (fun _ => rfl) rfl (by kernel_rfl) fun _ _ => ?_
                refine sS_ ?_
                refine R.cat rfl rfl rfl (by kernel_rfl) (by rw [strOf_size]; show 1 + _ ≤ _; omega) ?_
                rw [show (⟨#[32]⟩ : ByteArray) ++ strOf (FK.wr x .a) = strOf (32 :: FK.wr x .a) from cat1 [32] _]
                refine R.cl [25, 30] (write_spec r c (strOf (32 :: FK.wr x .a)) hc' (by rw [strOf_size, List.length_cons]; omega)) Tryz.call30 hS11_ rfl rfl rfl (fun _ => rfl) rfl (by kernel_rfl) fun c2 hc2 => ?_
                rw [show strB (strOf (32 :: FK.wr x .a)) = 32 :: FK.wr x .a from rfl] at hc2 ⊢
                have hr2 : (r ++ 32 :: FK.wr x .a).length ≤ 100 + i * 100000 + j * 6000 + 10 + (k + 1) * 1100 := by rw [List.length_append, List.length_cons]; omega
                refine sS_ ?_
                exact X.back [(30, 32)] (k + 1, r ++ 32 :: FK.wr x .a, c2) ⟨hkl, hgo _ rfl, hr2, hc2.1, hc2.2⟩ (by dsimp only; omega) rfl hS12_ hS0_ rfl (fun _ h => h)
              | b =>
                refine sS_ ?_
                refine R.ix ttok k rfl rfl rfl rfl rfl (by kernel_rfl) rfl hkl ⟨by omega, by omega⟩ rfl ?_
                refine R.ldo (v := .agg (FK.av2 .b)) ttok rfl rfl rfl (by rw [hB]; rfl) rfl (by kernel_rfl) hkl ?_
                refine sS_ ?_
                refine R.clR [3] (regB_write x hib fs hG) hG.ro Tryz.call88 hS11_ rfl rfl rfl (fun _ => rfl) rfl (by kernel_rfl) fun _ _ => ?_
                refine sS_ ?_
                refine R.cat rfl rfl rfl (by kernel_rfl) (by rw [strOf_size]; show 1 + _ ≤ _; omega) ?_
                rw [show (⟨#[32]⟩ : ByteArray) ++ strOf (FK.wr x .b) = strOf (32 :: FK.wr x .b) from cat1 [32] _]
                refine R.cl [25, 30] (write_spec r c (strOf (32 :: FK.wr x .b)) hc' (by rw [strOf_size, List.length_cons]; omega)) Tryz.call30 hS11_ rfl rfl rfl (fun _ => rfl) rfl (by kernel_rfl) fun c2 hc2 => ?_
                rw [show strB (strOf (32 :: FK.wr x .b)) = 32 :: FK.wr x .b from rfl] at hc2 ⊢
                have hr2 : (r ++ 32 :: FK.wr x .b).length ≤ 100 + i * 100000 + j * 6000 + 10 + (k + 1) * 1100 := by rw [List.length_append, List.length_cons]; omega
                refine sS_ ?_
                exact X.back [(30, 32)] (k + 1, r ++ 32 :: FK.wr x .b, c2) ⟨hkl, hgo _ rfl, hr2, hc2.1, hc2.2⟩ (by dsimp only; omega) rfl hS12_ hS0_ rfl (fun _ h => h)
              | c =>
                refine sS_ ?_
                refine R.ix ttok k rfl rfl rfl rfl rfl (by kernel_rfl) rfl hkl ⟨by omega, by omega⟩ rfl ?_
                refine R.ldo (v := .agg (FK.av2 .c)) ttok rfl rfl rfl (by rw [hB]; rfl) rfl (by kernel_rfl) hkl ?_
                refine sS_ ?_
                refine R.clR [4] (regC_write x hic fs hG) hG.ro Tryz.call88 hS11_ rfl rfl rfl (fun _ => rfl) rfl (by kernel_rfl) fun _ _ => ?_
                refine sS_ ?_
                refine R.cat rfl rfl rfl (by kernel_rfl) (by rw [strOf_size]; show 1 + _ ≤ _; omega) ?_
                rw [show (⟨#[32]⟩ : ByteArray) ++ strOf (FK.wr x .c) = strOf (32 :: FK.wr x .c) from cat1 [32] _]
                refine R.cl [25, 30] (write_spec r c (strOf (32 :: FK.wr x .c)) hc' (by rw [strOf_size, List.length_cons]; omega)) Tryz.call30 hS11_ rfl rfl rfl (fun _ => rfl) rfl (by kernel_rfl) fun c2 hc2 => ?_
                rw [show strB (strOf (32 :: FK.wr x .c)) = 32 :: FK.wr x .c from rfl] at hc2 ⊢
                have hr2 : (r ++ 32 :: FK.wr x .c).length ≤ 100 + i * 100000 + j * 6000 + 10 + (k + 1) * 1100 := by rw [List.length_append, List.length_cons]; omega
                refine sS_ ?_
                exact X.back [(30, 32)] (k + 1, r ++ 32 :: FK.wr x .c, c2) ⟨hkl, hgo _ rfl, hr2, hc2.1, hc2.2⟩ (by dsimp only; omega) rfl hS12_ hS0_ rfl (fun _ h => h)
              | n =>
                refine sS_ ?_
                refine R.ix ttok k rfl rfl rfl rfl rfl (by kernel_rfl) rfl hkl ⟨by omega, by omega⟩ rfl ?_
                refine R.ldo (v := .agg (FK.av2 .n)) ttok rfl rfl rfl (by rw [hB]; rfl) rfl (by kernel_rfl) hkl ?_
                refine sS_ ?_
                refine R.clR [5] (plainN_write x hin fs hG) hG.ro Tryz.call90 hS11_ rfl rfl rfl (fun _ => rfl) rfl (by kernel_rfl) fun _ _ => ?_
                refine sS_ ?_
                refine R.cat rfl rfl rfl (by kernel_rfl) (by rw [strOf_size]; show 1 + _ ≤ _; omega) ?_
                rw [show (⟨#[32]⟩ : ByteArray) ++ strOf (FK.wr x .n) = strOf (32 :: FK.wr x .n) from cat1 [32] _]
                refine R.cl [25, 30] (write_spec r c (strOf (32 :: FK.wr x .n)) hc' (by rw [strOf_size, List.length_cons]; omega)) Tryz.call30 hS11_ rfl rfl rfl (fun _ => rfl) rfl (by kernel_rfl) fun c2 hc2 => ?_
                rw [show strB (strOf (32 :: FK.wr x .n)) = 32 :: FK.wr x .n from rfl] at hc2 ⊢
                have hr2 : (r ++ 32 :: FK.wr x .n).length ≤ 100 + i * 100000 + j * 6000 + 10 + (k + 1) * 1100 := by rw [List.length_append, List.length_cons]; omega
                refine sS_ ?_
                exact X.back [(30, 32)] (k + 1, r ++ 32 :: FK.wr x .n, c2) ⟨hkl, hgo _ rfl, hr2, hc2.1, hc2.2⟩ (by dsimp only; omega) rfl hS12_ hS0_ rfl (fun _ h => h)
              | k =>
                refine sS_ ?_
                refine R.ix ttok k rfl rfl rfl rfl rfl (by kernel_rfl) rfl hkl ⟨by omega, by omega⟩ rfl ?_
                refine R.ldo (v := .agg (FK.av2 .k)) ttok rfl rfl rfl (by rw [hB]; rfl) rfl (by kernel_rfl) hkl ?_
                refine sS_ ?_
                refine R.clR [6] (plainA_write x hia fs hG) hG.ro Tryz.call90 hS11_ rfl rfl rfl (fun _ => rfl) rfl (by kernel_rfl) fun _ _ => ?_
                refine sS_ ?_
                refine R.cat rfl rfl rfl (by kernel_rfl) (by rw [strOf_size]; show 1 + _ ≤ _; omega) ?_
                rw [show (⟨#[32]⟩ : ByteArray) ++ strOf (FK.wr x .k) = strOf (32 :: FK.wr x .k) from cat1 [32] _]
                refine R.cl [25, 30] (write_spec r c (strOf (32 :: FK.wr x .k)) hc' (by rw [strOf_size, List.length_cons]; omega)) Tryz.call30 hS11_ rfl rfl rfl (fun _ => rfl) rfl (by kernel_rfl) fun c2 hc2 => ?_
                rw [show strB (strOf (32 :: FK.wr x .k)) = 32 :: FK.wr x .k from rfl] at hc2 ⊢
                have hr2 : (r ++ 32 :: FK.wr x .k).length ≤ 100 + i * 100000 + j * 6000 + 10 + (k + 1) * 1100 := by rw [List.length_append, List.length_cons]; omega
                refine sS_ ?_
                exact X.back [(30, 32)] (k + 1, r ++ 32 :: FK.wr x .k, c2) ⟨hkl, hgo _ rfl, hr2, hc2.1, hc2.2⟩ (by dsimp only; omega) rfl hS12_ hS0_ rfl (fun _ h => h)
              | s =>
                have hsg := hxk.sg (by rcases hss hfm with h | h <;> rw [h] at hop <;> omega)
                refine sS_ ?_
                refine R.ix ttok k rfl rfl rfl rfl rfl (by kernel_rfl) rfl hkl ⟨by omega, by omega⟩ rfl ?_
                refine R.ldo (v := .agg (FK.av2 .s)) ttok rfl rfl rfl (by rw [hB]; rfl) rfl (by kernel_rfl) hkl ?_
                refine sS_ ?_
                refine R.cl [8, 7] (sign_write x (by omega)) Tryz.call48 hS11_ rfl rfl rfl (fun _ => rfl) rfl (by kernel_rfl) fun _ _ => ?_
                refine sS_ ?_
                refine R.cat rfl rfl rfl (by kernel_rfl) (by rw [strOf_size]; show 1 + _ ≤ _; omega) ?_
                rw [show (⟨#[32]⟩ : ByteArray) ++ strOf (FK.wr x .s) = strOf (32 :: FK.wr x .s) from cat1 [32] _]
                refine R.cl [25, 30] (write_spec r c (strOf (32 :: FK.wr x .s)) hc' (by rw [strOf_size, List.length_cons]; omega)) Tryz.call30 hS11_ rfl rfl rfl (fun _ => rfl) rfl (by kernel_rfl) fun c2 hc2 => ?_
                rw [show strB (strOf (32 :: FK.wr x .s)) = 32 :: FK.wr x .s from rfl] at hc2 ⊢
                have hr2 : (r ++ 32 :: FK.wr x .s).length ≤ 100 + i * 100000 + j * 6000 + 10 + (k + 1) * 1100 := by rw [List.length_append, List.length_cons]; omega
                refine sS_ ?_
                exact X.back [(30, 32)] (k + 1, r ++ 32 :: FK.wr x .s, c2) ⟨hkl, hgo _ rfl, hr2, hc2.1, hc2.2⟩ (by dsimp only; omega) rfl hS12_ hS0_ rfl (fun _ h => h)
              | v =>
                have htx := hxk.tx (by rw [hsv hfm] at hop; omega)
                refine sS_ ?_
                refine R.ix ttok k rfl rfl rfl rfl rfl (by kernel_rfl) rfl hkl ⟨by omega, by omega⟩ rfl ?_
                refine R.ldo (v := .agg (FK.av2 .v)) ttok rfl rfl rfl (by rw [hB]; rfl) rfl (by kernel_rfl) hkl ?_
                refine sS_ ?_
                refine R.clR [] (value_write x hii (by omega) fs hG) hG.ro Tryz.call51 hS11_ rfl rfl rfl (fun _ => rfl) rfl (by kernel_rfl) fun _ _ => ?_
                refine sS_ ?_
                refine R.cat rfl rfl rfl (by kernel_rfl) (by rw [strOf_size]; show 1 + _ ≤ _; omega) ?_
                rw [show (⟨#[32]⟩ : ByteArray) ++ strOf (FK.wr x .v) = strOf (32 :: FK.wr x .v) from cat1 [32] _]
                refine R.cl [25, 30] (write_spec r c (strOf (32 :: FK.wr x .v)) hc' (by rw [strOf_size, List.length_cons]; omega)) Tryz.call30 hS11_ rfl rfl rfl (fun _ => rfl) rfl (by kernel_rfl) fun c2 hc2 => ?_
                rw [show strB (strOf (32 :: FK.wr x .v)) = 32 :: FK.wr x .v from rfl] at hc2 ⊢
                have hr2 : (r ++ 32 :: FK.wr x .v).length ≤ 100 + i * 100000 + j * 6000 + 10 + (k + 1) * 1100 := by rw [List.length_append, List.length_cons]; omega
                refine sS_ ?_
                exact X.back [(30, 32)] (k + 1, r ++ 32 :: FK.wr x .v, c2) ⟨hkl, hgo _ rfl, hr2, hc2.1, hc2.2⟩ (by dsimp only; omega) rfl hS12_ hS0_ rfl (fun _ h => h)
            · rw [decide_eq_false (show ¬ ((k : Nat) : Int) < (s.f.length : Nat) by omega)]
              rw [List.take_of_length_le (by omega : s.f.length ≤ k)] at hr
              have hk4 : k ≤ 4 := by omega
              refine sS_ ?_
              refine R.cl [25, 30] (write_spec r c ⟨#[10]⟩ hc' (by show r.length + 1 ≤ _; omega)) Tryz.call30 hS11_ rfl rfl rfl (fun _ => rfl) rfl (by kernel_rfl) fun c2 hc2 => ?_
              rw [show strB ⟨#[10]⟩ = [10] from rfl] at hc2 ⊢
              have hql2 : (r ++ [10]).length ≤ 100 + i * 100000 + (j + 1) * 6000 := by rw [List.length_append]; show _ + 1 ≤ _; omega
              obtain ⟨q2, hq2⟩ : ∃ q2, r ++ [10] = q2 := ⟨_, rfl⟩
              have hq3 := hqn q2 (by rw [← hq2, hr])
              rw [hq2] at hc2 hql2 ⊢
              refine sS_ ?_
              exact X.back [(26, 31)] (j + 1, q2, c2) ⟨hjl, hq3, hql2, hc2.1, hc2.2⟩ (by dsimp only; omega) rfl hS12_ hS0_ rfl (fun _ h => h)
          · rw [decide_eq_true (show ((s.op : Nat) : Int) ≠ x.o from hop)]
            have hq3 := hqn q (by unfold lnS; rw [if_neg hop, List.append_nil])
            refine sS_ ?_
            exact X.back [] (j + 1, q, c) ⟨hjl, hq3, by dsimp only; omega, hc, hc'⟩ (by dsimp only; omega) rfl hS12_ hS0_ rfl (fun _ h => h)
      · rw [decide_eq_false (show ¬ ((j : Nat) : Int) < 16 by omega)]
        obtain rfl : j = 16 := by omega
        have hq3 := hnext q hq
        refine sS_ ?_
        exact X.back [] (i + 1, q, c) ⟨hlt, hq3, by dsimp only; omega, hc, hc'⟩ (by dsimp only; omega) rfl hS12_ hS0_ rfl (fun _ h => h)
    · rw [decide_eq_false (show ¬ ((i : Nat) : Int) < (L.length : Nat) by omega)]
      rw [List.take_of_length_le (by omega : L.length ≤ i)] at hp
      refine sS_ ?_
      refine R.cl [25, 26] (write_spec p c ⟨#[101, 110, 100, 10]⟩ hc' (by show p.length + 4 ≤ _; omega)) Tryz.call30 hS11_ rfl rfl rfl (fun _ => rfl) rfl (by kernel_rfl) fun c2 hc2 => ?_
      rw [show strB ⟨#[101, 110, 100, 10]⟩ = [101, 110, 100, 10] from rfl] at hc2 ⊢
      have hq2l : (p ++ [101, 110, 100, 10]).length = p.length + 4 := by rw [List.length_append]; rfl
      have hpr : p ++ [101, 110, 100, 10] = printP nm ar L := by unfold printP; rw [hp, hhd]
      rw [hpr] at hq2l hc2 ⊢
      obtain ⟨out, hout⟩ : ∃ out, printP nm ar L = out := ⟨_, rfl⟩
      rw [hout] at hq2l hc2 ⊢
      refine sS_ ?_
      refine R.cl [25, 27] (bstring_spec out c2 (by intro h; rw [h] at hq2l; cases hq2l) hc2.1 (by omega)) Tryz.call32 hS11_ rfl rfl rfl (fun _ => rfl) rfl (by kernel_rfl) fun _ _ => ?_
      refine sS_ ?_
      refine X.finF ttok () [] trivial rfl rfl rfl hS7_ _ (by first | exact .inl rfl | exact .inr rfl) ?_ ?_ ?_
      · exact fun w' hf => hf.ap
      · exact fun p hp => hp
      · exact fun p hp e => ⟨p, hp, rfl⟩
  · rw [if_neg h0, decide_eq_true (show e ≠ 0 from h0)]
    refine sS_ ?_
    refine X.finF ttok () [] trivial rfl rfl rfl hS7_ _ (by first | exact .inl rfl | exact .inr rfl) ?_ ?_ ?_
    · exact fun w' hf => hf.ap
    · exact fun p hp => hp
    · exact fun p hp e => ⟨p, hp, rfl⟩
theorem procs2_spec (nm : ByteArray) (ar : Int) (L : List Ins) (o1 c1 o2 c2 : Nat) (hL : L.length ≤ 1000000) : Spec Tryz.prog 10 [.agg (prA nm ar (.sl 0 8 o1 L.length c1)), .agg (prA nm ar (.sl 1 1 o2 L.length c2))] [roI o1 L, roJ o2 L] 2 (σ := Unit) (fun _ => True) (fun _ => .raw (.bool true)) (fun _ => []) := by
  refine Spec.of Tryz.func10 rfl Tryz.ntmps10 rfl (bdl_cons (fun _ _ => rfl) (bdl_cons (rowsJ_bd _ _ _ _) (bdl_nil _))) fun ρ w => ?_
  refine sS_ ?_
  rw [neS, show decide (strB nm ≠ strB nm) = false from decide_eq_false (fun h => h rfl)]
  refine sS_ ?_
  rw [show decide (ar ≠ ar) = false from decide_eq_false (fun h => h rfl)]
  refine sS_ ?_
  rw [show decide (((L.length : Nat) : Int) ≠ ((L.length : Nat) : Int)) = false from decide_eq_false (fun h => h rfl)]
  refine sS_ ?_
  refine C.loop (σ := Nat) (L2 := 4) (fun i => i ≤ L.length) (fun i => [(2, .ptr 2 0 0 0), (3, .ptr 3 0 0 0), (5, .raw (.int .i64 (i : Nat)))]) (fun _ => [(0, roI o1 L), (1, roJ o2 L), (2, .cells (prA nm ar (.sl 0 8 o1 L.length c1)) 25), (3, .cells (prA nm ar (.sl 1 1 o2 L.length c2)) 25)]) _ (fun i => L.length - i) [] 0 (Nat.zero_le _) rfl hS12_ hS8_ rfl (fun _ h => h) ?_
  intro i hi
  refine sS_ ?_
  by_cases hlt : i < L.length
  · rw [decide_eq_true (show ((i : Nat) : Int) < (L.length : Nat) by omega)]
    obtain ⟨x, hx⟩ : ∃ x, L.getD i insD = x := ⟨_, rfl⟩
    have hA : insF L i = insA x := by unfold insF; rw [hx]
    refine sS_ ?_
    refine C.draw [[], [0], [], [0, 1, 2], [0, 1, 2, 3], [], [5], [], [5, 6, 7], [5, 6, 7, 8], [0, 1, 2, 3, 4, 5, 6, 7, 8, 9]] [] (by kernel_rfl) (by kernel_rfl) ?_
    refine sS_ ?_
    refine R.ix ttok i rfl rfl rfl rfl rfl (by kernel_rfl) rfl hlt ⟨by omega, by omega⟩ rfl ?_
    refine R.ldo (v := .agg (insA x)) ttok rfl rfl rfl (by rw [hA]; rfl) rfl (by kernel_rfl) hlt ?_
    refine sS_ ?_
    refine R.ix1 ttok i rfl rfl rfl rfl rfl (by kernel_rfl) rfl hlt (⟨by omega, by omega⟩ : o2 ≤ o2 + i * 8 ∧ o2 + i * 8 < o2 + L.length * 8) rfl ?_
    refine R.ldr1 (v := .agg (insA x)) ttok i rfl rfl rfl (by rw [hA]; rfl) rfl (by kernel_rfl) rfl rfl (by decide) (by omega) ?_
    refine sS_ ?_
    refine R.nes ttok true rfl rfl (by kernel_rfl) (by kernel_rfl) (ins_same x) rfl (by kernel_rfl) ?_
    refine sS_ ?_
    exact X.back [] (i + 1) hlt (by omega) rfl hS12_ hS8_ rfl (fun _ h => h)
  · rw [decide_eq_false (show ¬ ((i : Nat) : Int) < (L.length : Nat) by omega)]
    refine sS_ ?_
    refine X.fin ttok () [] trivial rfl rfl rfl hS7_ _ (by first | exact .inl rfl | exact .inr rfl)
end Go.Proofs.YtaieficgifingaaGreatDoor
namespace Go.Proofs.YtaieficgifingaaGreatDoor
set_option linter.unusedVariables false
set_option linter.unusedSimpArgs false
open Go.RowKit
set_option maxRecDepth 100000
/-- a word ends here -/
def brk (s : List UInt8) : Prop := s = [] ∨ ∃ c r, s = c :: r ∧ gapC c = true
theorem brk_gap {s : List UInt8} (h : brk s) : gapB s = true := by
  rcases h with rfl | ⟨c, r, rfl, h⟩
  · rfl
  · exact h
theorem words_nil : wordsP [] = some [] := wordsP_end (.inl rfl)
theorem words_rem (r : List UInt8) : wordsP (35 :: r) = some [] := wordsP_end (.inr ⟨r, trim_id (by decide) (by decide)⟩)
theorem words_blank : ∀ (b s : List UInt8), (∀ c ∈ b, c = 32 ∨ c = 9) → wordsP (b ++ s) = wordsP s
  | [], s, _ => rfl
  | c :: b, s, h => (wordsP_congr (trim_skip (h c (List.mem_cons_self ..)))).trans (words_blank b s fun d hd => h d (List.mem_cons_of_mem _ hd))
/-- a word that is not in quotes -/
structure Plain (w : List UInt8) : Prop where
  ne : w ≠ []
  ch : ∀ c ∈ w, gapC c = false
  hd : w.headD 0 ≠ 34
theorem words_plain {w s : List UInt8} (hw : Plain w) (hs : brk s) : wordsP (w ++ s) = (wordsP s).map ((w, false) :: ·) := by
  match w, hw with
  | [], hw => exact absurd rfl hw.ne
  | c :: r, hw =>
    have hc := hw.ch c (List.mem_cons_self ..)
    have h32 : c ≠ 32 := fun e => by rw [e] at hc; cases hc
    have h9 : c ≠ 9 := fun e => by rw [e] at hc; cases hc
    have h35 : c ≠ 35 := fun e => by rw [e] at hc; cases hc
    have hN : wordN (c :: r ++ s) = (c :: r).length := by
      refine wordN_at (by rw [List.length_append]; omega) (fun j hj => ?_) ?_
      · rw [List.getD_eq_getElem?_getD, List.getElem?_append_left hj, List.getElem?_eq_getElem hj]
        exact hw.ch _ (List.getElem_mem _)
      · rcases hs with rfl | ⟨d, q, rfl, hd⟩
        · left; rw [List.append_nil]
        · right
          rw [List.getD_eq_getElem?_getD, List.getElem?_append_right (Nat.le_refl _), Nat.sub_self]
          exact hd
    have h1 := wordsP_w (l0 := c :: r ++ s) (c := c) (r := r ++ s) (trim_id h32 h9) h35 hw.hd
    have hN' : wordN (c :: (r ++ s)) = (c :: r).length := hN
    rw [h1, hN']
    have e1 : (c :: (r ++ s)).drop (c :: r).length = s := List.drop_left (l₁ := c :: r)
    have e2 : (c :: (r ++ s)).take (c :: r).length = c :: r := List.take_left (l₁ := c :: r)
    rw [e1, e2]
theorem hex_back (c : UInt8) : hexB (hexD (c.toNat / 16)) = true ∧ hexB (hexD (c.toNat % 16)) = true ∧ UInt8.ofNat (hexV (hexD (c.toNat / 16)) * 16 + hexV (hexD (c.toNat % 16))) = c := by
  have key : ∀ a : Fin 256, hexB (hexD (a.val / 16)) = true ∧ hexB (hexD (a.val % 16)) = true ∧ hexV (hexD (a.val / 16)) * 16 + hexV (hexD (a.val % 16)) = a.val := by decide +kernel
  obtain ⟨h1, h2, h3⟩ := key ⟨c.toNat, c.toNat_lt⟩
  exact ⟨h1, h2, by rw [h3]; exact UInt8.ofNat_toNat⟩
theorem quote_back : ∀ (t acc s : List UInt8), brk s → quoteP acc (t.flatMap quotC ++ 34 :: s) = some (acc ++ t, s)
  | [], acc, s, hs => by
    rw [List.flatMap_nil, List.nil_append, quoteP_end, if_pos (brk_gap hs), List.append_nil]
  | c :: t, acc, s, hs => by
    rw [List.flatMap_cons, List.append_assoc]
    have ih := quote_back t (acc ++ [c]) s hs
    rw [List.append_assoc] at ih
    by_cases h : c = 34 ∨ c = 92
    · rw [show quotC c = [92, c] from if_pos h]
      exact (quoteP_esc h).trans ih
    · by_cases h2 : c.toNat < 32 ∨ 126 < c.toNat
      · rw [show quotC c = [92, 120, hexD (c.toNat / 16), hexD (c.toNat % 16)] from (if_neg h).trans (if_pos h2)]
        obtain ⟨g1, g2, g3⟩ := hex_back c
        refine (quoteP_hex (acc := acc) (r := t.flatMap quotC ++ 34 :: s)).trans ?_
        rw [if_pos ⟨g1, g2⟩, g3]
        exact ih
      · rw [show quotC c = [c] from (if_neg h).trans (if_neg h2)]
        exact (quoteP_one (fun e => h (.inl e)) h2 (fun e => h (.inr e))).trans ih
theorem words_quote {t s : List UInt8} (hs : brk s) : wordsP (quotW t ++ s) = (wordsP s).map ((t, true) :: ·) := by
  have h1 : Lib.trimLeftS (quotW t ++ s) [32, 9] = 34 :: (t.flatMap quotC ++ 34 :: s) := by
    have : quotW t ++ s = 34 :: (t.flatMap quotC ++ 34 :: s) := by unfold quotW; simp
    rw [this]
    exact trim_id (by decide) (by decide)
  rw [wordsP_q h1, quote_back t [] s hs]
  rfl
end Go.Proofs.YtaieficgifingaaGreatDoor
namespace Go.Proofs.YtaieficgifingaaGreatDoor
set_option linter.unusedVariables false
set_option linter.unusedSimpArgs false
open Go.RowKit
set_option maxRecDepth 100000
theorem dg_nat {d : Nat} (h : d < 10) : (UInt8.ofNat (48 + d)).toNat = 48 + d := by rw [UInt8.toNat_ofNat']; omega
theorem dg_digB {d : Nat} (h : d < 10) : digB (UInt8.ofNat (48 + d)) = true := by
  unfold digB
  rw [dg_nat h]
  simp only [Bool.and_eq_true, decide_eq_true_eq]
  omega
theorem dd_all (n : Nat) : (Lib.decDigits n).all digB = true := by
  induction n using Nat.strongRecOn with
  | _ n ih =>
    rw [Lib.decDigits]
    split
    · rename_i h; simp only [List.all_cons, List.all_nil, Bool.and_true, dg_digB h]
    · rename_i h
      rw [List.all_append, ih (n / 10) (by omega)]
      simp only [List.all_cons, List.all_nil, Bool.and_true, dg_digB (show n % 10 < 10 by omega)]
theorem dd_ne (n : Nat) : Lib.decDigits n ≠ [] := by
  rw [Lib.decDigits]
  split <;> simp
theorem dd_head {n : Nat} (h : 0 < n) : (Lib.decDigits n).getD 0 0 ≠ 48 := by
  induction n using Nat.strongRecOn with
  | _ n ih =>
    rw [Lib.decDigits]
    split
    · rename_i h1
      intro e
      have : (UInt8.ofNat (48 + n)).toNat = 48 := by
        have e' : UInt8.ofNat (48 + n) = 48 := e
        rw [e']; rfl
      rw [dg_nat h1] at this
      omega
    · rename_i h1
      have := ih (n / 10) (by omega) (by omega)
      have hl := List.length_pos_iff.2 (dd_ne (n / 10))
      rw [List.getD_eq_getElem?_getD, List.getElem?_append_left hl, ← List.getD_eq_getElem?_getD]
      exact this
theorem dd_digS (n : Nat) : digS (Lib.decDigits n) = true := by
  unfold digS
  rw [dd_all]
  have h2 : (Lib.decDigits n).isEmpty = false := by
    cases h : Lib.decDigits n with
    | nil => exact absurd h (dd_ne n)
    | cons a b => rfl
  rw [h2]
  by_cases h : n = 0
  · subst h
    rw [show Lib.decDigits 0 = [48] by rw [Lib.decDigits]; rfl]
    rfl
  · have := dd_head (n := n) (by omega)
    rw [decide_eq_true this]
    rfl
theorem pum_cons (M acc : Nat) (c : UInt8) (r : List UInt8) : Lib.parseUintM M acc (c :: r) = if 48 ≤ c.toNat ∧ c.toNat ≤ 57 then (if 1844674407370955162 ≤ acc then .range else if M < acc * 10 + (c.toNat - 48) then .range else Lib.parseUintM M (acc * 10 + (c.toNat - 48)) r) else Lib.parseUintM M acc [0] := by
  rw [Lib.parseUintM]
  rfl
theorem pum_app {M : Nat} : ∀ (l1 l2 : List UInt8) (acc : Nat), Lib.parseUintM M acc (l1 ++ l2) = match Lib.parseUintM M acc l1 with
    | .ok a => Lib.parseUintM M a l2
    | e => e
  | [], l2, acc => rfl
  | c :: r, l2, acc => by
    rw [List.cons_append, pum_cons M acc c (r ++ l2), pum_cons M acc c r]
    by_cases h1 : 48 ≤ c.toNat ∧ c.toNat ≤ 57
    · rw [if_pos h1, if_pos h1]
      by_cases h2 : 1844674407370955162 ≤ acc
      · rw [if_pos h2, if_pos h2]
      · rw [if_neg h2, if_neg h2]
        by_cases h3 : M < acc * 10 + (c.toNat - 48)
        · rw [if_pos h3, if_pos h3]
        · rw [if_neg h3, if_neg h3]
          exact pum_app r l2 _
    · rw [if_neg h1, if_neg h1]
      rfl
theorem pum_dd {M : Nat} (hM : M ≤ 18446744073709551615) (n : Nat) (hn : n ≤ M) : Lib.parseUintM M 0 (Lib.decDigits n) = .ok n := by
  induction n using Nat.strongRecOn with
  | _ n ih =>
    have step : ∀ a d, d < 10 → a * 10 + d ≤ M → Lib.parseUintM M a [UInt8.ofNat (48 + d)] = .ok (a * 10 + d) := fun a d hd h => by
      unfold Lib.parseUintM
      rw [dg_nat hd, if_pos (by omega), if_neg (by omega), if_neg (by omega)]
      unfold Lib.parseUintM
      congr 1
      omega
    rw [Lib.decDigits]
    split
    · rename_i h
      have := step 0 n h (by omega)
      rw [this]
      congr 1
      omega
    · rename_i h
      rw [pum_app, ih (n / 10) (by omega) (by omega)]
      dsimp only
      rw [step (n / 10) (n % 10) (by omega) (by omega)]
      congr 1
      omega
theorem dd_cons {n : Nat} : ∃ c r, Lib.decDigits n = c :: r ∧ 48 ≤ c.toNat ∧ c.toNat ≤ 57 := by
  cases h : Lib.decDigits n with
  | nil => exact absurd h (dd_ne n)
  | cons c r =>
    have := dd_all n
    rw [h, List.all_cons, Bool.and_eq_true] at this
    have h1 := this.1
    unfold digB at h1
    simp only [Bool.and_eq_true, decide_eq_true_eq] at h1
    exact ⟨c, r, rfl, h1.1, h1.2⟩
theorem pib_itoa {i : Int} (hi : i64 i) : Lib.parseIntB 64 (Lib.itoa i) = .ok i := by
  obtain ⟨h1, h2⟩ := hi
  unfold Lib.itoa
  by_cases h0 : i < 0
  · rw [if_pos h0]
    unfold Lib.parseIntB
    dsimp only
    rw [if_pos (.inr (by decide))]
    unfold Lib.parseUintB
    rw [if_neg (dd_ne _), pum_dd (by decide) _ (by omega)]
    dsimp only
    rw [if_neg (by simp), if_neg (by omega), if_pos (by decide)]
    congr 1
    omega
  · rw [if_neg h0]
    obtain ⟨c, r, hc, hc1, hc2⟩ := dd_cons (n := i.toNat)
    have hp := pum_dd (M := 2 ^ 64 - 1) (by decide) i.toNat (by omega)
    rw [hc] at hp ⊢
    unfold Lib.parseIntB
    dsimp only
    rw [if_neg (by omega)]
    unfold Lib.parseUintB
    rw [if_neg (by simp), hp]
    dsimp only
    rw [if_neg (by omega), if_neg (by omega), if_neg (by omega)]
    congr 1
    omega
theorem natS_dd (n : Nat) : natS (Lib.decDigits n) = n := by
  induction n using Nat.strongRecOn with
  | _ n ih =>
    rw [Lib.decDigits]
    split
    · rename_i h
      unfold natS
      rw [List.foldl_cons, List.foldl_nil, dg_nat h]
      omega
    · rename_i h
      have := ih (n / 10) (by omega)
      unfold natS at this ⊢
      rw [List.foldl_append, this, List.foldl_cons, List.foldl_nil, dg_nat (by omega)]
      omega
theorem dd_short {n : Nat} (h : n < 1000) : (Lib.decDigits n).length ≤ 3 := by
  rw [Lib.decDigits]
  split
  · simp
  · rw [Lib.decDigits]
    split
    · simp
    · rw [Lib.decDigits, dif_pos (by omega)]
      simp
theorem itoa_nat (n : Nat) : Lib.itoa (n : Int) = Lib.decDigits n := by
  unfold Lib.itoa
  rw [if_neg (by omega)]
  rfl
theorem num_back {n : Nat} (h : n < 1000) : numB (strOf (Lib.itoa (n : Int))) false = true ∧ numV (strOf (Lib.itoa (n : Int))) false = n := by
  have h1 : numB (strOf (Lib.itoa (n : Int))) false = true := by
    unfold numB
    rw [itoa_nat, show strB (strOf (Lib.decDigits n)) = Lib.decDigits n from rfl, dd_digS, strOf_size]
    have := dd_short h
    simp only [Bool.not_false, Bool.true_and, decide_eq_true_eq]
    omega
  refine ⟨h1, ?_⟩
  unfold numV
  rw [if_pos h1, itoa_nat, show strB (strOf (Lib.decDigits n)) = Lib.decDigits n from rfl, natS_dd]
theorem reg_back {n : Nat} (h : n < 16) : regB (strOf (114 :: Lib.itoa (n : Int))) false = true ∧ regV (strOf (114 :: Lib.itoa (n : Int))) false = n := by
  obtain ⟨h1, h2⟩ := num_back (n := n) (by omega)
  have hw : regW (strOf (114 :: Lib.itoa (n : Int))) = strOf (Lib.itoa (n : Int)) := by
    unfold regW
    rw [show strB (strOf (114 :: Lib.itoa (n : Int))) = 114 :: Lib.itoa (n : Int) from rfl]
    congr 1
  have hq : regQ (strOf (114 :: Lib.itoa (n : Int))) false = false := by
    unfold regQ
    rw [show strB (strOf (114 :: Lib.itoa (n : Int))) = 114 :: Lib.itoa (n : Int) from rfl, hasPre]
    rfl
  have hv : regV (strOf (114 :: Lib.itoa (n : Int))) false = n := by
    unfold regV
    rw [hw, hq, h2]
  refine ⟨?_, hv⟩
  unfold regB
  rw [hv, hw, hq, h1]
  simp [h]
theorem sign_back {n : Nat} (h1 : 1 ≤ n) (h6 : n ≤ 6) : signP (sgL.getD n ⟨#[]⟩) false = some n := by
  have key : ∀ a : Fin 7, 1 ≤ a.val → signP (sgL.getD a.val ⟨#[]⟩) false = some a.val := by decide +kernel
  exact key ⟨n, by omega⟩ h1
theorem itoa_head {i : Int} : ∃ c r, Lib.itoa i = c :: r ∧ c ≠ 110 ∧ (i < 0 → c = 45 ∧ r = Lib.decDigits i.natAbs) ∧ (0 ≤ i → c ≠ 45) := by
  unfold Lib.itoa
  by_cases h : i < 0
  · rw [if_pos h]
    exact ⟨45, _, rfl, by decide, fun _ => ⟨rfl, rfl⟩, fun h2 => by omega⟩
  · rw [if_neg h]
    obtain ⟨c, r, hc, h1, h2⟩ := dd_cons (n := i.toNat)
    exact ⟨c, r, hc, fun e => by rw [e] at h2; revert h2; decide, fun h3 => absurd h3 h, fun _ e => by rw [e] at h1; revert h1; decide⟩
theorem val_int {i : Int} (hi : i64 i) : valP (strOf (Lib.itoa i)) false = ⟨1, i, noT0, true⟩ := by
  have hp := pib_itoa hi
  obtain ⟨c, r, hc, hn, hneg, hpos⟩ := itoa_head (i := i)
  unfold valP
  rw [if_neg (by decide), show strB (strOf (Lib.itoa i)) = Lib.itoa i from rfl, if_neg (by rw [hc]; intro e; cases e; exact hn rfl)]
  have hok : okP (Lib.itoa i) = true := by unfold okP; rw [hp]
  have hin : intP (Lib.itoa i) = i := by unfold intP; rw [hp]
  rw [if_neg, hok, hin]
  rintro (h | ⟨h1, h2⟩)
  · by_cases h0 : i < 0
    · obtain ⟨rfl, rfl⟩ := hneg h0
      unfold tailM minB at h
      rw [hc] at h
      rw [if_pos (by rfl), List.drop_one, List.tail_cons, dd_digS] at h
      cases h
    · unfold tailM minB at h
      rw [hc, if_neg (by simp [hpos (by omega)]), ← hc] at h
      unfold Lib.itoa at h
      rw [if_neg h0, dd_digS] at h
      cases h
  · by_cases h0 : i < 0
    · obtain ⟨rfl, rfl⟩ := hneg h0
      unfold tailM at h2
      rw [if_pos h1, hc, List.drop_one, List.tail_cons] at h2
      have := dd_head (n := i.natAbs) (by omega)
      rw [h2] at this
      exact this rfl
    · unfold minB at h1
      rw [hc] at h1
      simp [hpos (by omega)] at h1
theorem val_text (t : ByteArray) : valP t true = ⟨2, 0, t, true⟩ := rfl
end Go.Proofs.YtaieficgifingaaGreatDoor
