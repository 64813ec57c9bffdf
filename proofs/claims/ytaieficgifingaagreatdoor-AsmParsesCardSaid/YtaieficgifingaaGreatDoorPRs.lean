/- Texts of the claim, merged: only what the theorem needs. -/
import Derived.Test.YtaieficgifingaaGreatDoorPRr
import Derived.Lib.AppendIntMem
import Derived.Lib.ItoaLen
namespace Go.Proofs.YtaieficgifingaaGreatDoor
set_option linter.unusedVariables false
set_option linter.unusedSimpArgs false
open Go.RowKit
set_option maxRecDepth 100000
set_option maxHeartbeats 8000000
def i64 (n : Int) : Prop := -9223372036854775808 ≤ n ∧ n ≤ 9223372036854775807
theorem itoa_spec (n : Int) (hn : i64 n) (fs : Fam) (hG : Glob fs) : SpecF Tryz.prog 31 [.raw (.int .i64 n)] [] 0 fs (σ := Unit) (fun _ => True) (fun _ => .raw (.string (strOf (Lib.itoa n)))) (fun _ => []) (fun _ => fs) :=
  SpecF.lib (vs := [.int .i64 n]) _ rfl rfl fun ρ w hat => (Tryz.strconv_Itoa n hn.1 hn.2 w (hG.pw w hat)).mono fun e w' ⟨h1, k, os, h2⟩ => ⟨h1, by rw [h2]; exact Lib.below_grow _ w (Nat.le_refl _) k os⟩
theorem format_spec (n : Int) (hn : i64 n) (fs : Fam) (hG : Glob fs) : SpecF Tryz.prog 52 [.raw (.int .i64 n), .raw (.int .i64 10)] [] 0 fs (σ := Unit) (fun _ => True) (fun _ => .raw (.string (strOf (Lib.itoa n)))) (fun _ => []) (fun _ => fs) :=
  SpecF.lib (vs := [.int .i64 n, .int .i64 10]) _ rfl rfl fun ρ w hat => (Tryz.strconv_FormatInt_10 n hn.1 hn.2 w (hG.pw w hat)).mono fun e w' ⟨h1, k, os, h2⟩ => ⟨h1, by rw [h2]; exact Lib.below_grow _ w (Nat.le_refl _) k os⟩
theorem itoa_le {n : Int} (hn : i64 n) : (Lib.itoa n).length ≤ 21 := Lib.itoa_length_le n hn.1 hn.2
theorem strOf_app (a b : List UInt8) : strOf a ++ strOf b = strOf (a ++ b) := strB_inj (by
  show ((strOf a) ++ (strOf b)).data.toList = _
  rw [ByteArray.data_append, Array.toList_append]
  rfl)
/-- a value, said -/
def sayP (k i : Int) (t : ByteArray) : List UInt8 := if k = 1 then Lib.itoa i else if k = 2 then quotW (strB t) else [110, 111, 110, 101]
/-- a field, written -/
def FK.wr (x : Ins) : FK → List UInt8
  | .a => 114 :: Lib.itoa x.a
  | .b => 114 :: Lib.itoa x.b
  | .c => 114 :: Lib.itoa x.c
  | .n => Lib.itoa x.n
  | .k => Lib.itoa x.a
  | .s => strB (sgL.getD x.n.toNat ⟨#[]⟩)
  | .v => sayP x.k x.i x.t
theorem regA_write (x : Ins) (hx : i64 x.a) (fs : Fam) (hG : Glob fs) : SpecF Tryz.prog 88 [.agg (insA x), .ptr 0 0 0 0] [one0 (.fn 41 [])] 1 fs (σ := Unit) (fun _ => True) (fun _ => .raw (.string (strOf (FK.a.wr x)))) (fun _ => []) (fun _ => fs) := by
  refine SpecF.of Tryz.func88 rfl Tryz.ntmps88 rfl (bdl_cons (roA_bd rfl) (bdl_nil _)) fun ρ w => ?_
  refine sS_ ?_
  refine R.ldo (v := .fn 41 []) ttok rfl rfl rfl rfl rfl (by kernel_rfl) Nat.one_pos ?_
  refine sS_ ?_
  refine R.cl [1] (inA_spec) Tryz.call41 ((by exact HasIn.any rfl .nil)) rfl rfl rfl (fun _ => rfl) rfl (by kernel_rfl) fun _ _ => ?_
  refine sS_ ?_
  refine R.clR [] (itoa_spec x.a hx fs hG) hG.ro Tryz.call31 hS6_ rfl rfl rfl (fun _ => rfl) rfl (by kernel_rfl) fun _ _ => ?_
  have hle := itoa_le hx
  refine R.cat rfl rfl rfl (by kernel_rfl) (by show 1 + (strOf (Lib.itoa x.a)).size ≤ _; rw [← strB_size]; show 1 + (Lib.itoa x.a).length ≤ _; omega) ?_
  rw [show (⟨#[114]⟩ : ByteArray) ++ strOf (Lib.itoa x.a) = strOf (FK.a.wr x) from strOf_app [114] _]
  refine sS_ ?_
  refine X.finF ttok () [] trivial rfl rfl rfl hS4_ _ (by first | exact .inl rfl | exact .inr rfl) ?_ ?_ ?_
  · exact fun w' hf => hf.ap
  · exact fun p hp => hp
  · exact fun p hp e => ⟨p, hp, rfl⟩
theorem regB_write (x : Ins) (hx : i64 x.b) (fs : Fam) (hG : Glob fs) : SpecF Tryz.prog 88 [.agg (insA x), .ptr 0 0 0 0] [one0 (.fn 44 [])] 1 fs (σ := Unit) (fun _ => True) (fun _ => .raw (.string (strOf (FK.b.wr x)))) (fun _ => []) (fun _ => fs) := by
  refine SpecF.of Tryz.func88 rfl Tryz.ntmps88 rfl (bdl_cons (roA_bd rfl) (bdl_nil _)) fun ρ w => ?_
  refine sS_ ?_
  refine R.ldo (v := .fn 44 []) ttok rfl rfl rfl rfl rfl (by kernel_rfl) Nat.one_pos ?_
  refine sS_ ?_
  refine R.cl [1] (inB_spec) Tryz.call44 ((by exact HasIn.any rfl .nil)) rfl rfl rfl (fun _ => rfl) rfl (by kernel_rfl) fun _ _ => ?_
  refine sS_ ?_
  refine R.clR [] (itoa_spec x.b hx fs hG) hG.ro Tryz.call31 hS6_ rfl rfl rfl (fun _ => rfl) rfl (by kernel_rfl) fun _ _ => ?_
  have hle := itoa_le hx
  refine R.cat rfl rfl rfl (by kernel_rfl) (by show 1 + (strOf (Lib.itoa x.b)).size ≤ _; rw [← strB_size]; show 1 + (Lib.itoa x.b).length ≤ _; omega) ?_
  rw [show (⟨#[114]⟩ : ByteArray) ++ strOf (Lib.itoa x.b) = strOf (FK.b.wr x) from strOf_app [114] _]
  refine sS_ ?_
  refine X.finF ttok () [] trivial rfl rfl rfl hS4_ _ (by first | exact .inl rfl | exact .inr rfl) ?_ ?_ ?_
  · exact fun w' hf => hf.ap
  · exact fun p hp => hp
  · exact fun p hp e => ⟨p, hp, rfl⟩
theorem regC_write (x : Ins) (hx : i64 x.c) (fs : Fam) (hG : Glob fs) : SpecF Tryz.prog 88 [.agg (insA x), .ptr 0 0 0 0] [one0 (.fn 45 [])] 1 fs (σ := Unit) (fun _ => True) (fun _ => .raw (.string (strOf (FK.c.wr x)))) (fun _ => []) (fun _ => fs) := by
  refine SpecF.of Tryz.func88 rfl Tryz.ntmps88 rfl (bdl_cons (roA_bd rfl) (bdl_nil _)) fun ρ w => ?_
  refine sS_ ?_
  refine R.ldo (v := .fn 45 []) ttok rfl rfl rfl rfl rfl (by kernel_rfl) Nat.one_pos ?_
  refine sS_ ?_
  refine R.cl [1] (inC_spec) Tryz.call45 ((by exact HasIn.any rfl .nil)) rfl rfl rfl (fun _ => rfl) rfl (by kernel_rfl) fun _ _ => ?_
  refine sS_ ?_
  refine R.clR [] (itoa_spec x.c hx fs hG) hG.ro Tryz.call31 hS6_ rfl rfl rfl (fun _ => rfl) rfl (by kernel_rfl) fun _ _ => ?_
  have hle := itoa_le hx
  refine R.cat rfl rfl rfl (by kernel_rfl) (by show 1 + (strOf (Lib.itoa x.c)).size ≤ _; rw [← strB_size]; show 1 + (Lib.itoa x.c).length ≤ _; omega) ?_
  rw [show (⟨#[114]⟩ : ByteArray) ++ strOf (Lib.itoa x.c) = strOf (FK.c.wr x) from strOf_app [114] _]
  refine sS_ ?_
  refine X.finF ttok () [] trivial rfl rfl rfl hS4_ _ (by first | exact .inl rfl | exact .inr rfl) ?_ ?_ ?_
  · exact fun w' hf => hf.ap
  · exact fun p hp => hp
  · exact fun p hp e => ⟨p, hp, rfl⟩
theorem plainA_write (x : Ins) (hx : i64 x.a) (fs : Fam) (hG : Glob fs) : SpecF Tryz.prog 90 [.agg (insA x), .ptr 0 0 0 0] [one0 (.fn 41 [])] 1 fs (σ := Unit) (fun _ => True) (fun _ => .raw (.string (strOf (FK.k.wr x)))) (fun _ => []) (fun _ => fs) := by
  refine SpecF.of Tryz.func90 rfl Tryz.ntmps90 rfl (bdl_cons (roA_bd rfl) (bdl_nil _)) fun ρ w => ?_
  refine sS_ ?_
  refine R.ldo (v := .fn 41 []) ttok rfl rfl rfl rfl rfl (by kernel_rfl) Nat.one_pos ?_
  refine sS_ ?_
  refine R.cl [1] (inA_spec) Tryz.call41 ((by exact HasIn.any rfl .nil)) rfl rfl rfl (fun _ => rfl) rfl (by kernel_rfl) fun _ _ => ?_
  refine sS_ ?_
  refine R.clR [] (itoa_spec x.a hx fs hG) hG.ro Tryz.call31 hS6_ rfl rfl rfl (fun _ => rfl) rfl (by kernel_rfl) fun _ _ => ?_
  refine sS_ ?_
  refine X.finF ttok () [] trivial rfl rfl rfl hS4_ _ (by first | exact .inl rfl | exact .inr rfl) ?_ ?_ ?_
  · exact fun w' hf => hf.ap
  · exact fun p hp => hp
  · exact fun p hp e => ⟨p, hp, rfl⟩
theorem plainN_write (x : Ins) (hx : i64 x.n) (fs : Fam) (hG : Glob fs) : SpecF Tryz.prog 90 [.agg (insA x), .ptr 0 0 0 0] [one0 (.fn 42 [])] 1 fs (σ := Unit) (fun _ => True) (fun _ => .raw (.string (strOf (FK.n.wr x)))) (fun _ => []) (fun _ => fs) := by
  refine SpecF.of Tryz.func90 rfl Tryz.ntmps90 rfl (bdl_cons (roA_bd rfl) (bdl_nil _)) fun ρ w => ?_
  refine sS_ ?_
  refine R.ldo (v := .fn 42 []) ttok rfl rfl rfl rfl rfl (by kernel_rfl) Nat.one_pos ?_
  refine sS_ ?_
  refine R.cl [1] (inN_spec) Tryz.call42 ((by exact HasIn.any rfl .nil)) rfl rfl rfl (fun _ => rfl) rfl (by kernel_rfl) fun _ _ => ?_
  refine sS_ ?_
  refine R.clR [] (itoa_spec x.n hx fs hG) hG.ro Tryz.call31 hS6_ rfl rfl rfl (fun _ => rfl) rfl (by kernel_rfl) fun _ _ => ?_
  refine sS_ ?_
  refine X.finF ttok () [] trivial rfl rfl rfl hS4_ _ (by first | exact .inl rfl | exact .inr rfl) ?_ ?_ ?_
  · exact fun w' hf => hf.ap
  · exact fun p hp => hp
  · exact fun p hp e => ⟨p, hp, rfl⟩
theorem sign_write (x : Ins) (hx : 0 ≤ x.n ∧ x.n < 7) : Spec Tryz.prog 48 [.agg (insA x), .ptr 0 0 0 0] [one0 (.sl 1 1 0 7 7), roSg] 2 (σ := Unit) (fun _ => True) (fun _ => .raw (.string (strOf (FK.s.wr x)))) (fun _ => []) := by
  refine Spec.of Tryz.func48 rfl Tryz.ntmps48 rfl (bdl_cons (roA_bd rfl) (bdl_cons (fun i hi => rfl) (bdl_nil _))) fun ρ w => ?_
  refine sS_ ?_
  refine R.ldo (v := .sl 1 1 0 7 7) ttok rfl rfl rfl rfl rfl (by kernel_rfl) Nat.one_pos ?_
  refine sS_ ?_
  have h7 : x.n.toNat < 7 := by omega
  refine R.ix ttok x.n.toNat rfl rfl rfl rfl rfl (by kernel_rfl) (by omega) h7 (by show _ ≤ _ ∧ _ < _; omega) rfl ?_
  refine R.ldo (v := .raw (.string (sgL.getD x.n.toNat ⟨#[]⟩))) ttok rfl rfl rfl rfl rfl (by kernel_rfl) h7 ?_
  rw [show sgL.getD x.n.toNat ⟨#[]⟩ = strOf (FK.s.wr x) from strB_inj rfl]
  refine sS_ ?_
  refine X.fin ttok () [] trivial rfl rfl rfl hS4_ _ (by first | exact .inl rfl | exact .inr rfl)
theorem value_write (x : Ins) (hx : i64 x.i) (ht : x.t.size ≤ 1000000) (fs : Fam) (hG : Glob fs) : SpecF Tryz.prog 51 [.agg (insA x)] [] 0 fs (σ := Unit) (fun _ => True) (fun _ => .raw (.string (strOf (FK.v.wr x)))) (fun _ => []) (fun _ => fs) := by
  refine SpecF.of Tryz.func51 rfl Tryz.ntmps51 rfl (bdl_nil _) fun ρ w => ?_
  refine sS_ ?_
  by_cases h1 : x.k = 1
  · rw [decide_eq_true h1]
    refine sS_ ?_
    refine R.clR [] (format_spec x.i hx fs hG) hG.ro Tryz.call52 hS6_ rfl rfl rfl (fun _ => rfl) rfl (by kernel_rfl) fun _ _ => ?_
    rw [show Lib.itoa x.i = FK.v.wr x from (if_pos h1).symm]
    refine sS_ ?_
    refine X.finF ttok () [] trivial rfl rfl rfl hS4_ _ (by first | exact .inl rfl | exact .inr rfl) ?_ ?_ ?_
    · exact fun w' hf => hf.ap
    · exact fun p hp => hp
    · exact fun p hp e => ⟨p, hp, rfl⟩
  · rw [decide_eq_false h1]
    refine sS_ ?_
    by_cases h2 : x.k = 2
    · rw [decide_eq_true h2]
      refine sS_ ?_
      refine R.cl [] (quote_spec x.t ht) Tryz.call53 hS6_ rfl rfl rfl (fun _ => rfl) rfl (by kernel_rfl) fun _ _ => ?_
      rw [show quotW (strB x.t) = FK.v.wr x from ((if_neg h1).trans (if_pos h2)).symm]
      refine sS_ ?_
      refine X.finF ttok () [] trivial rfl rfl rfl hS4_ _ (by first | exact .inl rfl | exact .inr rfl) ?_ ?_ ?_
      · exact fun w' hf => hf.ap
      · exact fun p hp => hp
      · exact fun p hp e => ⟨p, hp, rfl⟩
    · rw [decide_eq_false h2]
      have hv : strOf (FK.v.wr x) = ⟨#[110, 111, 110, 101]⟩ := strB_inj ((if_neg h1).trans (if_neg h2))
      rw [hv]
      refine sS_ ?_
      refine X.finF ttok () [] trivial rfl rfl rfl hS4_ _ (by first | exact .inl rfl | exact .inr rfl) ?_ ?_ ?_
      · exact fun w' hf => hf.ap
      · exact fun p hp => hp
      · exact fun p hp e => ⟨p, hp, rfl⟩
theorem bytes_any {ρ : Env} {r : Option Nat} {w : World} {p : List UInt8} {c : Nat} {T : TypeId} (h : (AO.bytes p c T).holds ρ r w) : anyO.holds ρ r w := by
  rcases h.2 with ⟨h1, _⟩ | ⟨b, cur, hr, hb, _⟩
  · exact .inl ⟨h1, rfl⟩
  · exact .inr ⟨b, cur, T, _, hr, hb, fun i c x hi => by omega⟩
abbrev bldT : TypeId := 82
theorem copy0_spec : Spec Tryz.prog 70 [.ptr 0 0 0 0] [.cells [.raw (.pointer none), .raw (.slice none 0 0)] bldT] 1 (σ := Unit) (fun _ => True) (fun _ => .tup []) (fun _ => [(0, .cells [.ptr 0 0 0 0, .raw (.slice none 0 0)] bldT)]) := by
  refine Spec.of Tryz.func70 rfl Tryz.ntmps70 rfl (bdl_cons rfl (bdl_nil _)) fun ρ w => ?_
  refine sS_ ?_
  refine R.cvu (k := 1) rfl rfl (Tryz.underlying79) (Tryz.underlying159) (by kernel_rfl) (by show 0 < 2; decide) rfl (by kernel_rfl) ?_
  refine sS_ ?_
  refine R.same (e := Extern.AbiNoEscape.same) (fun args w => (by rw [run_callFunc_extern Tryz.func113 (by kernel_rfl) (by kernel_rfl) (by kernel_rfl) (e := Extern.AbiNoEscape.same) (by kernel_rfl)])) (fun v w => Lib.run_noEscape w v) rfl rfl (by kernel_rfl) ?_
  refine R.cvf rfl rfl (Tryz.underlying159) (Tryz.underlying79) (by kernel_rfl) (by kernel_rfl) rfl (by kernel_rfl) ?_
  refine sS_ ?_
  refine X.fin ttok () [] trivial rfl rfl rfl hS4_ _ (by first | exact .inl rfl | exact .inr rfl)
theorem copy1_spec (n c : Nat) : Spec Tryz.prog 70 [.ptr 0 0 0 0] [.cells [.ptr 0 0 0 0, .sl 1 1 0 n c] bldT, anyO] 2 (σ := Unit) (fun _ => True) (fun _ => .tup []) (fun _ => [(0, .cells [.ptr 0 0 0 0, .sl 1 1 0 n c] bldT)]) := by
  refine Spec.of Tryz.func70 rfl Tryz.ntmps70 rfl (bdl_cons rfl (bdl_cons (any_bd _) (bdl_nil _))) fun ρ w => ?_
  refine sS_ ?_
  refine R.pns ttok rfl rfl rfl rfl rfl rfl rfl (by kernel_rfl) ?_
  refine sS_ ?_
  refine X.fin ttok () [] trivial rfl rfl rfl hS4_ _ (by first | exact .inl rfl | exact .inr rfl)
/-- what a Builder holds: none yet, or bytes -/
theorem write0_spec (t : ByteArray) (ht : t.size ≤ 1000000) : Spec Tryz.prog 30 [.ptr 0 0 0 0, .raw (.string t)] [.cells [.raw (.pointer none), .raw (.slice none 0 0)] bldT] 2 (σ := Nat) (fun c => t.size ≤ c ∧ c ≤ 9223372036854775807) (fun _ => .tup [.raw (.int .i64 (t.size : Nat)), .raw .nilIface]) (fun c => [(0, .cells [.ptr 0 0 0 0, .sl 1 1 0 t.size c] bldT), (1, .bytes (strB t) c 5)]) := by
  refine Spec.of Tryz.func30 rfl Tryz.ntmps30 rfl (bdl_cons rfl (bdl_nil _)) fun ρ w => ?_
  have hlen := strB_size t
  refine sS_ ?_
  refine R.cl [0] (copy0_spec) Tryz.call70 hS6_ rfl rfl rfl (fun _ => rfl) rfl (by kernel_rfl) fun _ _ => ?_
  refine sS_ ?_
  refine R.apS ttok (fun c => .bytes (strB t) c 5) rfl rfl (DstA.nil _ _) (AsRow.bytes _ _) rfl rfl (Tryz.underlying9) (by kernel_rfl) rfl (by kernel_rfl) (Nat.zero_le _) (by omega) fun c h1 h2 => ?_
  rw [show 0 + t.size = t.size from Nat.zero_add _] at h1 ⊢
  refine sS_ ?_
  refine X.fin ttok c [(1, 1)] ⟨h1, h2⟩ rfl rfl rfl hS4_ _ (by first | exact .inl rfl | exact .inr rfl)
theorem write_spec (p : List UInt8) (c : Nat) (t : ByteArray) (hc : c ≤ 9223372036854775807) (hp : p.length + t.size ≤ 100000000) : Spec Tryz.prog 30 [.ptr 0 0 0 0, .raw (.string t)] [.cells [.ptr 0 0 0 0, .sl 1 1 0 p.length c] bldT, .bytes p c 5] 3 (σ := Nat) (fun c => (p ++ strB t).length ≤ c ∧ c ≤ 9223372036854775807) (fun _ => .tup [.raw (.int .i64 (t.size : Nat)), .raw .nilIface]) (fun c => [(0, .cells [.ptr 0 0 0 0, .sl 2 1 0 (p ++ strB t).length c] bldT), (2, .bytes (p ++ strB t) c 5)]) := by
  refine Spec.of Tryz.func30 rfl Tryz.ntmps30 rfl (bdl_cons rfl (bdl_cons trivial (bdl_nil _))) fun ρ w => ?_
  have hlen := strB_size t
  refine sS_ ?_
  refine R.cl [0, 1] (copy1_spec p.length c) Tryz.call70 ((by exact HasIn.same rfl rfl (HasIn.other rfl (fun e => by cases e) (fun ρ x w hh => bytes_any hh) .nil))) rfl rfl rfl (fun _ => rfl) rfl (by kernel_rfl) fun _ _ => ?_
  refine sS_ ?_
  refine R.apt ttok rfl rfl rfl rfl rfl rfl rfl (Tryz.underlying9) (by kernel_rfl) rfl (by kernel_rfl) hc (by rw [List.length_append]; omega) fun c h1 h2 => ?_
  refine sS_ ?_
  refine X.fin ttok c [] ⟨h1, h2⟩ rfl rfl rfl hS4_ _ (by first | exact .inl rfl | exact .inr rfl)
theorem bstring_spec (p : List UInt8) (c : Nat) (h0 : p ≠ []) (hc : p.length ≤ c) (hp : p.length ≤ 9223372036854775807) : Spec Tryz.prog 32 [.ptr 0 0 0 0] [.cells [.ptr 0 0 0 0, .sl 1 1 0 p.length c] bldT, .bytes p c 5] 2 (σ := Unit) (fun _ => True) (fun _ => .raw (.string (strOf p))) (fun _ => []) := by
  refine Spec.of Tryz.func32 rfl Tryz.ntmps32 rfl (bdl_cons rfl (bdl_cons trivial (bdl_nil _))) fun ρ w => ?_
  have hpl := List.length_pos_iff.2 h0
  refine sS_ ?_
  refine C.draw [[], [0], [0, 1], [0, 1, 2], [0, 1, 2, 3], [], [5], [5, 6], [5, 6, 7], [5, 6, 7, 8], [0, 1, 2, 3, 4, 5, 6, 7, 8, 9], [0, 1, 2, 3, 4, 5, 6, 7, 8, 9, 10]] [4, 10] (by kernel_rfl) (by kernel_rfl) ?_
  refine sS_ ?_
  refine R.usd rfl rfl (by omega) (by omega) rfl (by kernel_rfl) ?_
  refine sS_ ?_
  refine R.ust rfl rfl rfl rfl h0 hp (Tryz.underlying126) (by kernel_rfl) rfl (by kernel_rfl) ?_
  refine sS_ ?_
  refine X.fin ttok () [] trivial rfl rfl rfl hS4_ _ (by first | exact .inl rfl | exact .inr rfl)
end Go.Proofs.YtaieficgifingaaGreatDoor
namespace Go.Proofs.YtaieficgifingaaGreatDoor
set_option linter.unusedVariables false
set_option linter.constructorNameAsVariable false
set_option linter.unusedSimpArgs false
open Go.RowKit
set_option maxRecDepth 100000
set_option maxHeartbeats 8000000
abbrev FK.av2 : FK → List AV
  | .a => [.fn 86 [.ptr 2 0 0 0], .fn 88 [.ptr 2 0 0 0]]
  | .b => [.fn 86 [.ptr 3 0 0 0], .fn 88 [.ptr 3 0 0 0]]
  | .c => [.fn 86 [.ptr 4 0 0 0], .fn 88 [.ptr 4 0 0 0]]
  | .n => [.fn 89 [.ptr 5 0 0 0], .fn 90 [.ptr 5 0 0 0]]
  | .k => [.fn 89 [.ptr 6 0 0 0], .fn 90 [.ptr 6 0 0 0]]
  | .s => [.fn 47 [.ptr 8 0 0 0], .fn 48 [.ptr 8 0 0 0]]
  | .v => [.fn 49 [], .fn 51 []]
def shRows2 : List AV := [.raw (.string ⟨#[115, 101, 116]⟩), .raw (.int .i64 1), .sl 9 2 0 2 2, .raw (.string ⟨#[97, 114, 103]⟩), .raw (.int .i64 2), .sl 10 2 0 2 2, .raw (.string ⟨#[103, 101, 116]⟩), .raw (.int .i64 3), .sl 11 2 0 2 2, .raw (.string ⟨#[110, 101, 120, 116]⟩), .raw (.int .i64 14), .sl 12 2 0 2 2, .raw (.string ⟨#[112, 117, 116]⟩), .raw (.int .i64 4), .sl 13 2 0 2 2, .raw (.string ⟨#[100, 101, 108]⟩), .raw (.int .i64 5), .sl 14 2 0 1 1, .raw (.string ⟨#[116, 101, 108, 108]⟩), .raw (.int .i64 15), .sl 15 2 0 1 1, .raw (.string ⟨#[97, 100, 100]⟩), .raw (.int .i64 6), .sl 16 2 0 3 3, .raw (.string ⟨#[115, 117, 98]⟩), .raw (.int .i64 7), .sl 17 2 0 3 3, .raw (.string ⟨#[109, 117, 108]⟩), .raw (.int .i64 8), .sl 18 2 0 3 3, .raw (.string ⟨#[106, 111, 105, 110]⟩), .raw (.int .i64 9), .sl 19 2 0 3 3, .raw (.string ⟨#[110, 101, 101, 100]⟩), .raw (.int .i64 10), .sl 20 2 0 3 3, .raw (.string ⟨#[115, 107, 105, 112]⟩), .raw (.int .i64 11), .sl 21 2 0 4 4, .raw (.string ⟨#[115, 117, 109]⟩), .raw (.int .i64 12), .sl 22 2 0 4 4, .raw (.string ⟨#[99, 111, 117, 110, 116]⟩), .raw (.int .i64 13), .sl 23 2 0 4 4, .raw (.string ⟨#[115, 116, 111, 112]⟩), .raw (.int .i64 16), .raw (.slice none 0 0)]
def fkF2 (l : List FK) (j : Nat) : List AV := ((l.flatMap FK.av2).drop (j * 2)).take 2
abbrev roK2 (l : List FK) : AO := .ro 2 0 l.length (fkF2 l)
def shF2 (j : Nat) : List AV := (shRows2.drop (j * 3)).take 3
abbrev roSh2 : AO := .ro 3 0 16 shF2
theorem fkF2_at {l : List FK} {j : Nat} {p : FK} (h : l[j]? = some p) : fkF2 l j = p.av2 := flat_drop FK.av2 2 (fun x => by cases x <;> rfl) l j p h
theorem fk2_mem {l : List FK} {j : Nat} {x : AV} (hx : x ∈ fkF2 l j) : ∃ q : FK, x ∈ q.av2 := by
  have hx := List.mem_of_mem_drop (List.mem_of_mem_take hx)
  obtain ⟨p, _, hp⟩ := List.mem_flatMap.1 hx
  exact ⟨p, hp⟩
theorem fk2_bd (L : Nat) (l : List FK) (hL : 9 ≤ L) : (roK2 l).Bd L := fun i _ => bds_of _ fun x hx => by
  obtain ⟨p, hp⟩ := fk2_mem hx
  have e : ∀ q, q < 9 → AV.bd L (.fn 0 [.ptr q 0 0 0]) = true := fun q hq => by simp [AV.bd, AV.bds]; omega
  cases p <;> (simp [FK.av2] at hp; rcases hp with rfl | rfl <;> first | rfl | exact e _ (by decide))
theorem fk2_ren (r : Nat → Nat) (l : List FK) (h0 : r 2 = 2) (h1 : r 3 = 3) (h2 : r 4 = 4) (h3 : r 5 = 5) (h4 : r 6 = 6) (h6 : r 8 = 8) : roK2 l = (roK2 l).ren r := by
  show AO.ro 2 0 l.length (fkF2 l) = AO.ro 2 0 l.length (fun i => AV.rens r (fkF2 l i))
  congr 1
  funext i
  rw [rens_map]
  refine ((List.map_congr_left (g := id) fun x hx => ?_).trans (List.map_id _)).symm
  obtain ⟨p, hp⟩ := fk2_mem hx
  cases p <;> (simp [FK.av2] at hp; rcases hp with rfl | rfl <;> simp [AV.ren, AV.rens, h0, h1, h2, h3, h4, h6])
theorem sh2_mem {j : Nat} {x : AV} (hx : x ∈ shF2 j) : (∃ v, x = .raw v) ∨ ∃ q n, q < 24 ∧ x = .sl q 2 0 n n := by
  have hx := List.mem_of_mem_drop (List.mem_of_mem_take hx)
  simp only [shRows2, List.mem_cons, List.not_mem_nil, or_false] at hx
  repeat' (first | (rcases hx with rfl | hx) | subst hx)
  all_goals first | exact .inl ⟨_, rfl⟩ | exact .inr ⟨_, _, by decide, rfl⟩
theorem sh2_bd (L : Nat) (hL : 24 ≤ L) : roSh2.Bd L := fun i _ => bds_of _ fun x hx => by
  rcases sh2_mem hx with ⟨v, rfl⟩ | ⟨q, n, hq, rfl⟩
  · rfl
  · simp [AV.bd]; omega
theorem sh2_ren (r : Nat → Nat) (h : ∀ q < 24, r q = q) : roSh2 = roSh2.ren r := by
  show AO.ro 3 0 16 shF2 = AO.ro 3 0 16 (fun i => AV.rens r (shF2 i))
  congr 1
  funext i
  rw [rens_map]
  refine ((List.map_congr_left (g := id) fun x hx => ?_).trans (List.map_id _)).symm
  rcases sh2_mem hx with ⟨v, rfl⟩ | ⟨q, n, hq, rfl⟩
  · rfl
  · simp [AV.ren, h q hq]
theorem HasH.fk2 {r : Nat → Nat} {L : Nat} {h rest : List (Nat × AO)} {l : Nat} {T : TypeId} {f : List FK} {xs : List AV} (h1 : hk (r l) h = some (.cells xs T)) (hx : xs = f.flatMap FK.av2) (g0 : r 2 = 2) (g1 : r 3 = 3) (g2 : r 4 = 4) (g3 : r 5 = 5) (g4 : r 6 = 6) (g6 : r 8 = 8) (h3 : Nat.ble (l + 1) L = true) (hL : 9 ≤ L) (kk : HasH r L h rest) : HasH r L h ((l, roK2 f) :: rest) :=
  .other h1 (fun e => by cases e) (fun ρ x w hh => by
    rw [← fk2_ren r f g0 g1 g2 g3 g4 g6]
    subst hx
    exact cells_row hh) h3 (fk2_bd _ _ hL) kk
theorem HasH.sh2 {r : Nat → Nat} {L : Nat} {h rest : List (Nat × AO)} {l : Nat} {T : TypeId} {xs : List AV} (h1 : hk (r l) h = some (.cells xs T)) (hx : xs = shRows2) (hr : ∀ q < 24, r q = q) (h3 : Nat.ble (l + 1) L = true) (hL : 24 ≤ L) (kk : HasH r L h rest) : HasH r L h ((l, roSh2) :: rest) :=
  .other h1 (fun e => by cases e) (fun ρ x w hh => by
    rw [← sh2_ren r hr]
    subst hx
    exact cells_row hh) h3 (sh2_bd _ hL) kk
theorem strOf_size (l : List UInt8) : (strOf l).size = l.length := by rw [← strB_size]; rfl
theorem cat1 (a : List UInt8) (t : ByteArray) : strOf a ++ t = strOf (a ++ strB t) := by
  rw [← strOf_app]
  congr 1
def lineS (s : Sh) (x : Ins) : List UInt8 := [32, 32] ++ strB s.w ++ s.f.flatMap (fun q => 32 :: q.wr x) ++ [10]
def lnS (x : Ins) (s : Sh) : List UInt8 := if ((s.op : Nat) : Int) = x.o then lineS s x else []
def lnP (x : Ins) : List UInt8 := shL.flatMap (lnS x)
def headP (nm : ByteArray) (ar : Int) : List UInt8 := [112, 114, 111, 99, 32] ++ strB nm ++ [32] ++ Lib.itoa ar ++ [10]
def printP (nm : ByteArray) (ar : Int) (cd : List Ins) : List UInt8 := headP nm ar ++ cd.flatMap lnP ++ [101, 110, 100, 10]
def insI (x : Ins) : Prop := i64 x.a ∧ i64 x.b ∧ i64 x.c ∧ i64 x.n ∧ i64 x.i
/-- what Check has looked at -/
structure InsK (x : Ins) : Prop where
  sg : x.o = 10 ∨ x.o = 11 → 1 ≤ x.n ∧ x.n ≤ 6
  tx : x.o = 1 → x.t.size ≤ 256
theorem insE_ok {ar : Int} {n i : Nat} {x : Ins} (h : insE ar n i x = 0) : InsK x := by
  unfold insE at h
  split at h
  · cases h
  rename_i ho
  unfold insL at h
  split at h
  · rename_i hall
    refine ⟨fun hx => ?_, fun hx => ?_⟩
    · have hm : PF.h ∈ pfs x.o.toNat := by rcases hx with hx | hx <;> rw [hx] <;> simp [pfs]
      have := List.all_eq_true.1 hall _ hm
      simp only [PF.ok, PF.val, Bool.and_eq_true] at this
      exact ⟨of_decide_eq_true this.1, of_decide_eq_true this.2⟩
    · split at h
      · rw [if_pos (decide_eq_true hx)] at h
        unfold vchk at h
        split at h
        · cases h
        · split at h
          · cases h
          · omega
      · cases h
  · cases h
theorem chkP_ok {nm : ByteArray} {ar : Int} {L : List Ins} (h : (chkP nm ar L).2 = 0) : (strB nm).length ≤ 32 ∧ 0 ≤ ar ∧ ar ≤ 16 ∧ L.length ≤ 64 ∧ ∀ i, i < L.length → insE ar L.length i (L.getD i insD) = 0 := by
  unfold chkP at h
  split at h
  · cases h
  rename_i h1
  split at h
  · cases h
  split at h
  · cases h
  have h1 : nameP (strB nm) = true := by cases hh : nameP (strB nm) <;> simp_all
  unfold nameP at h1
  simp only [Bool.and_eq_true, decide_eq_true_eq] at h1
  refine ⟨h1.1.1.2, by omega, by omega, by omega, fun i hi => ?_⟩
  unfold chkL at h
  split at h
  · rename_i j hf
    have := (List.find?_range_eq_some.1 hf).1
    unfold badI at this
    simp only [decide_eq_true_eq] at this
    exact absurd h this
  · rename_i hf
    have := List.find?_eq_none.1 hf i (List.mem_range.2 hi)
    unfold badI at this
    simpa using this
theorem quotW_len (l : List UInt8) : (quotW l).length ≤ 4 * l.length + 2 := by
  have : ∀ l : List UInt8, (l.flatMap quotC).length ≤ 4 * l.length := fun l => by
    induction l with
    | nil => simp
    | cons c r ih =>
      rw [List.flatMap_cons, List.length_append, List.length_cons]
      have := quotC_len c
      omega
  unfold quotW
  simp only [List.length_append, List.length_cons, List.length_nil]
  have := this l
  omega
theorem wr_len {x : Ins} (hx : insI x) (q : FK) (hs : q = .v → x.t.size ≤ 256) : (q.wr x).length ≤ 1030 := by
  obtain ⟨h1, h2, h3, h4, h5⟩ := hx
  have l1 := itoa_le h1
  have l2 := itoa_le h2
  have l3 := itoa_le h3
  have l4 := itoa_le h4
  have l5 := itoa_le h5
  cases q with
  | a => show (114 :: Lib.itoa x.a).length ≤ _; rw [List.length_cons]; omega
  | b => show (114 :: Lib.itoa x.b).length ≤ _; rw [List.length_cons]; omega
  | c => show (114 :: Lib.itoa x.c).length ≤ _; rw [List.length_cons]; omega
  | n => show (Lib.itoa x.n).length ≤ _; omega
  | k => show (Lib.itoa x.a).length ≤ _; omega
  | s =>
    show (strB (sgL.getD x.n.toNat ⟨#[]⟩)).length ≤ _
    have : ∀ k : Nat, (strB (sgL.getD k ⟨#[]⟩)).length ≤ 2 := fun k => by
      match k with
      | 0 | 1 | 2 | 3 | 4 | 5 | 6 => decide
      | k + 7 => simp [sgL, strB]
    have := this x.n.toNat
    omega
  | v =>
    have ht := hs rfl
    show (sayP x.k x.i x.t).length ≤ _
    unfold sayP
    split
    · omega
    · split
      · have := quotW_len (strB x.t)
        rw [strB_size] at this
        omega
      · decide
theorem sh_word {i : Nat} {s : Sh} (h : shL[i]? = some s) : (strB s.w).length ≤ 5 ∧ (FK.v ∈ s.f → s.op = 1) ∧ (FK.s ∈ s.f → s.op = 10 ∨ s.op = 11) := by
  have : ∀ s ∈ shL, (strB s.w).length ≤ 5 ∧ (FK.v ∈ s.f → s.op = 1) ∧ (FK.s ∈ s.f → s.op = 10 ∨ s.op = 11) := by
    intro s hs
    simp only [shL, List.mem_cons, List.not_mem_nil, or_false] at hs
    repeat' (first | (rcases hs with rfl | hs) | subst hs)
    all_goals exact ⟨by decide, by simp, by simp⟩
  exact this s (List.mem_of_getElem? h)
def printO (nm : ByteArray) (ar : Int) (cd : List Ins) : List UInt8 := if (chkP nm ar cd).2 = 0 then printP nm ar cd else []
theorem hS0_ {P : Prop} (h : P := by repeat (first | exact HasH.nil | refine HasH.same rfl rfl rfl trivial ?_ | refine HasH.same rfl rfl rfl rfl ?_ | refine HasH.same rfl rfl rfl (roA_bd rfl) ?_ | refine HasH.same rfl (fk2_ren _ _ rfl rfl rfl rfl rfl rfl) rfl (fk2_bd _ _ (Nat.le_of_ble_eq_true rfl)) ?_ | refine HasH.same rfl rfl rfl (fun _ _ => rfl) ?_ | refine HasH.same rfl (sh2_ren _ (by decide)) rfl (sh2_bd _ (Nat.le_of_ble_eq_true rfl)) ?_ | refine HasH.other rfl (fun e => by cases e) (fun ρ x w hh => cells_roA hh) rfl (roA_bd rfl) ?_ | refine HasH.fk2 rfl rfl rfl rfl rfl rfl rfl rfl rfl (Nat.le_of_ble_eq_true rfl) ?_ | refine HasH.other rfl (fun e => by cases e) (fun ρ x w hh => cells_sg hh) rfl (fun _ _ => rfl) ?_ | refine HasH.sh2 rfl rfl (by decide) rfl (Nat.le_of_ble_eq_true rfl) ?_ | refine HasH.other rfl (fun e => by cases e) (fun ρ x w hh => tab0_ro hh) rfl (fun i hi => absurd hi (Nat.not_lt_zero i)) ?_)) : P := h
theorem print_spec (nm : ByteArray) (ar : Int) (L : List Ins) (o cp : Nat) (hL : L.length ≤ 1000000) (hI : ∀ x ∈ L, insI x) (fs : Fam) (hG : Glob fs) : SpecF Tryz.prog 13 [.agg (prA nm ar (.sl 0 8 o L.length cp))] [roI o L] 1 fs (σ := Unit) (fun _ => True) (fun _ => .tup [.raw (.string (strOf (printO nm ar L))), .raw (.int .i64 (chkP nm ar L).2)]) (fun _ => []) (fun _ => fs) := by
  refine SpecF.of Tryz.func13 rfl Tryz.ntmps13 rfl (bdl_cons (fun _ _ => rfl) (bdl_nil _)) fun ρ w => ?_
  refine sS_ ?_
  refine R.cl [0] (checkP_spec nm ar L o cp hL) Tryz.call15 hS6_ rfl rfl rfl (fun _ => rfl) rfl (by kernel_rfl) fun _ _ => ?_
  obtain ⟨e, he⟩ : ∃ e, (chkP nm ar L).2 = e := ⟨_, rfl⟩
  unfold printO
  rw [he]
  refine sS_ ?_
  by_cases h0 : e = 0
  · subst h0
    obtain ⟨hnm, har0, har1, hl64, hok⟩ := chkP_ok he
    have hnms := strB_size nm
    have hari : i64 ar := ⟨by omega, by omega⟩
    have hil := itoa_le hari
    rw [if_pos rfl, show decide ((0 : Int) ≠ 0) = false from rfl]
    refine sS_ ?_
    refine R.cl [] (shapes_spec) Tryz.call18 hS6_ rfl rfl rfl (fun _ => rfl) rfl (by kernel_rfl) fun _ _ => ?_
    refine sS_ ?_
    refine C.lessR [] 26 [(1, .ptr 1 0 0 0), (6, .sl 24 3 0 16 16), (7, .ptr 25 0 0 0)] [(0, roI o L), (1, .cells (prA nm ar (.sl 0 8 o L.length cp)) 25), (2, one0 (.fn 41 [])), (3, one0 (.fn 44 [])), (4, one0 (.fn 45 [])), (5, one0 (.fn 42 [])), (6, one0 (.fn 41 [])), (7, roSg), (8, one0 (.sl 7 1 0 7 7)), (9, roK2 [.a, .v]), (10, roK2 [.a, .n]), (11, roK2 [.a, .b]), (12, roK2 [.a, .b]), (13, roK2 [.a, .b]), (14, roK2 [.a]), (15, roK2 [.a]), (16, roK2 [.a, .b, .c]), (17, roK2 [.a, .b, .c]), (18, roK2 [.a, .b, .c]), (19, roK2 [.a, .b, .c]), (20, roK2 [.b, .s, .c]), (21, roK2 [.k, .b, .s, .c]), (22, roK2 [.a, .b, .c, .n]), (23, roK2 [.a, .b, .c, .n]), (24, roSh2), (25, .cells [.raw (.pointer none), .raw (.slice none 0 0)] bldT)] _ rfl hS7_ hS0_ rfl (fun _ h => h) ?_
    refine C.draw [[], [0], [0, 1], [0, 1, 2], [], [4], [4, 5], [0, 1, 2, 3, 4, 5, 6], [0, 1, 2, 3, 4, 5, 6, 7], [0, 1, 2, 3, 4, 5, 6, 7, 8]] [6, 9] (by kernel_rfl) (by kernel_rfl) ?_
    refine sS_ ?_
    refine R.cat rfl rfl rfl (by kernel_rfl) (by show 5 + nm.size ≤ _; omega) ?_
    rw [show (⟨#[112, 114, 111, 99, 32]⟩ : ByteArray) ++ nm = _ from cat1 [112, 114, 111, 99, 32] nm]
    refine R.cat rfl rfl rfl (by kernel_rfl) (by rw [strOf_size, List.length_append]; show 5 + (strB nm).length + 1 ≤ _; omega) ?_
    rw [show strOf ([112, 114, 111, 99, 32] ++ strB nm) ++ (⟨#[32]⟩ : ByteArray) = _ from cat1 _ ⟨#[32]⟩]
    refine sS_ ?_
    refine R.clR [] (itoa_spec ar hari fs hG) hG.ro Tryz.call31 hS6_ rfl rfl rfl (fun _ => rfl) rfl (by kernel_rfl) fun _ _ => ?_
    refine R.cat rfl rfl rfl (by kernel_rfl) (by rw [strOf_size, strOf_size, List.length_append, List.length_append]; show 5 + (strB nm).length + 1 + (Lib.itoa ar).length ≤ _; omega) ?_
    rw [strOf_app]
    refine R.cat rfl rfl rfl (by kernel_rfl) (by rw [strOf_size, List.length_append, List.length_append, List.length_append]; show 5 + (strB nm).length + 1 + (Lib.itoa ar).length + 1 ≤ _; omega) ?_
    rw [show strOf ([112, 114, 111, 99, 32] ++ strB nm ++ strB ⟨#[32]⟩ ++ Lib.itoa ar) ++ (⟨#[10]⟩ : ByteArray) = strOf (headP nm ar) from cat1 _ ⟨#[10]⟩]
    have hhl : (headP nm ar).length = 7 + (strB nm).length + (Lib.itoa ar).length := by
      unfold headP
      simp only [List.length_append, List.length_cons, List.length_nil]
      omega
    have hh0 : 0 < (headP nm ar).length := by omega
    obtain ⟨hd, hhd⟩ : ∃ hd, headP nm ar = hd := ⟨_, rfl⟩
    rw [hhd] at hhl hh0 ⊢
    refine R.cl [25] (write0_spec (strOf hd) (by rw [strOf_size]; omega)) Tryz.call30 hS6_ rfl rfl rfl (fun _ => rfl) rfl (by kernel_rfl) fun c0 hc0 => ?_
    rw [strOf_size] at hc0
    obtain ⟨hc0, hc0'⟩ := hc0
    refine sS_ ?_
    refine C.loop (σ := Nat × List UInt8 × Nat) (L2 := 27) (fun s => s.1 ≤ L.length ∧ s.2.1 = hd ++ (L.take s.1).flatMap lnP ∧ s.2.1.length ≤ 100 + s.1 * 100000 ∧ s.2.1.length ≤ s.2.2 ∧ s.2.2 ≤ 9223372036854775807) (fun s => [(6, .sl 24 3 0 16 16), (7, .ptr 25 0 0 0), (34, .sl 0 8 o L.length cp), (35, .raw (.int .i64 (L.length : Nat))), (36, .raw (.int .i64 (s.1 : Nat)))])
      (fun s => [(0, roI o L), (1, .cells (prA nm ar (.sl 0 8 o L.length cp)) 25), (2, one0 (.fn 41 [])), (3, one0 (.fn 44 [])), (4, one0 (.fn 45 [])), (5, one0 (.fn 42 [])), (6, one0 (.fn 41 [])), (7, roSg), (8, one0 (.sl 7 1 0 7 7)), (9, roK2 [.a, .v]), (10, roK2 [.a, .n]), (11, roK2 [.a, .b]), (12, roK2 [.a, .b]), (13, roK2 [.a, .b]), (14, roK2 [.a]), (15, roK2 [.a]), (16, roK2 [.a, .b, .c]), (17, roK2 [.a, .b, .c]), (18, roK2 [.a, .b, .c]), (19, roK2 [.a, .b, .c]), (20, roK2 [.b, .s, .c]), (21, roK2 [.k, .b, .s, .c]), (22, roK2 [.a, .b, .c, .n]), (23, roK2 [.a, .b, .c, .n]), (24, roSh2), (25, .cells [.ptr 25 0 0 0, .sl 26 1 0 s.2.1.length s.2.2] bldT), (26, .bytes s.2.1 s.2.2 5)]) _ (fun s => L.length - s.1) [] (0, hd, c0) ⟨Nat.zero_le _, by simp, by dsimp only; omega, hc0, hc0'⟩ rfl hS7_ (by
      show HasH _ _ _ [(0, roI o L), (1, .cells (prA nm ar (.sl 0 8 o L.length cp)) 25), (2, one0 (.fn 41 [])), (3, one0 (.fn 44 [])), (4, one0 (.fn 45 [])), (5, one0 (.fn 42 [])), (6, one0 (.fn 41 [])), (7, roSg), (8, one0 (.sl 7 1 0 7 7)), (9, roK2 [.a, .v]), (10, roK2 [.a, .n]), (11, roK2 [.a, .b]), (12, roK2 [.a, .b]), (13, roK2 [.a, .b]), (14, roK2 [.a]), (15, roK2 [.a]), (16, roK2 [.a, .b, .c]), (17, roK2 [.a, .b, .c]), (18, roK2 [.a, .b, .c]), (19, roK2 [.a, .b, .c]), (20, roK2 [.b, .s, .c]), (21, roK2 [.k, .b, .s, .c]), (22, roK2 [.a, .b, .c, .n]), (23, roK2 [.a, .b, .c, .n]), (24, roSh2), (25, .cells [.ptr 25 0 0 0, .sl 26 1 0 hd.length c0] bldT), (26, .bytes hd c0 5)]
      rw [← strOf_size hd]
      exact hS0_) rfl (fun _ h => h) ?_
    rintro ⟨i, p, c⟩ ⟨hi, hp, hpl, hc, hc'⟩
    dsimp only at hi hp hpl hc hc' ⊢
    refine sS_ ?_
    by_cases hlt : i < L.length
    · rw [decide_eq_true (show ((i : Nat) : Int) < (L.length : Nat) by omega)]
      obtain ⟨x, hx⟩ : ∃ x, L.getD i insD = x := ⟨_, rfl⟩
      have hA : insF L i = insA x := by unfold insF; rw [hx]
      have hxm : x ∈ L := by
        rw [← hx, List.getD_eq_getElem?_getD, List.getElem?_eq_getElem hlt]
        exact List.getElem_mem _
      have hxI := hI x hxm
      have hxk : InsK x := by
        have := hok i hlt
        rw [hx] at this
        exact insE_ok this
      have hnext : ∀ q, q = p ++ shL.flatMap (lnS x) → q = hd ++ (L.take (i + 1)).flatMap lnP := fun q hq => by
        rw [hq, hp, List.take_add_one, List.flatMap_append, List.append_assoc]
        congr 2
        have : L[i]? = some x := by
          rw [← hx, List.getD_eq_getElem?_getD, List.getElem?_eq_getElem hlt]
          rfl
        rw [this]
        simp [lnP]
      clear hp
      have hi64 : i < 64 := by omega
      refine sS_ ?_
      refine R.ix ttok i rfl rfl rfl rfl rfl (by kernel_rfl) rfl hlt ⟨by omega, by omega⟩ rfl ?_
      refine R.ldo (v := .agg (insA x)) ttok rfl rfl rfl (by rw [hA]; rfl) rfl (by kernel_rfl) hlt ?_
      refine sS_ ?_
      refine C.loop (σ := Nat × List UInt8 × Nat) (L2 := 28) (fun s => s.1 ≤ 16 ∧ s.2.1 = p ++ (shL.take s.1).flatMap (lnS x) ∧ s.2.1.length ≤ 100 + i * 100000 + s.1 * 6000 ∧ s.2.1.length ≤ s.2.2 ∧ s.2.2 ≤ 9223372036854775807) (fun s => [(6, .sl 24 3 0 16 16), (7, .ptr 25 0 0 0), (9, .ptr 27 0 0 0), (34, .sl 0 8 o L.length cp), (35, .raw (.int .i64 (L.length : Nat))), (36, .raw (.int .i64 (i : Nat))), (40, .sl 24 3 0 16 16), (41, .raw (.int .i64 16)), (42, .raw (.int .i64 (s.1 : Nat)))])
        (fun s => [(0, roI o L), (1, .cells (prA nm ar (.sl 0 8 o L.length cp)) 25), (2, one0 (.fn 41 [])), (3, one0 (.fn 44 [])), (4, one0 (.fn 45 [])), (5, one0 (.fn 42 [])), (6, one0 (.fn 41 [])), (7, roSg), (8, one0 (.sl 7 1 0 7 7)), (9, roK2 [.a, .v]), (10, roK2 [.a, .n]), (11, roK2 [.a, .b]), (12, roK2 [.a, .b]), (13, roK2 [.a, .b]), (14, roK2 [.a]), (15, roK2 [.a]), (16, roK2 [.a, .b, .c]), (17, roK2 [.a, .b, .c]), (18, roK2 [.a, .b, .c]), (19, roK2 [.a, .b, .c]), (20, roK2 [.b, .s, .c]), (21, roK2 [.k, .b, .s, .c]), (22, roK2 [.a, .b, .c, .n]), (23, roK2 [.a, .b, .c, .n]), (24, roSh2), (25, .cells [.ptr 25 0 0 0, .sl 26 1 0 s.2.1.length s.2.2] bldT), (26, .bytes s.2.1 s.2.2 5), (27, insO x)]) _ (fun s => 16 - s.1) [] (0, p, c) ⟨Nat.zero_le _, by simp, hpl, hc, hc'⟩ rfl hS7_ hS0_ rfl (fun _ h => h) ?_
      clear hpl hc hc'
      rintro ⟨j, q, c⟩ ⟨hj, hq, hql, hc, hc'⟩
      dsimp only at hj hq hql hc hc' ⊢
      refine sS_ ?_
      by_cases hjl : j < 16
      · rw [decide_eq_true (show ((j : Nat) : Int) < 16 by omega)]
        repeat (first | refine C.seq ?_ | refine R.zb ttok ?_ | refine R.zu ttok ?_ | refine R.zc ttok ?_ | refine R.za ttok ?_ | refine R.zx ?_ | refine R.zl ttok ?_ | refine R.zs ttok ?_ | refine R.z ttok ?_ | refine R.zk ?_ | refine R.zn ?_ | refine R.done ?_ | refine X.then ?_ | refine C.block ?_ | refine C.ret ?_ | refine C.skip ?_ | refine C.exit ?_ | refine X.pass_ret ?_ | refine X.pass_exit ?_ | refine X.block_normal ?_ | refine X.block_ret ?_ | refine X.block_exit ?_ | refine C.zt ?_ | refine C.zf ?_ | refine X.zo ?_)
        refine C.cuts (σ := Sh) 30 (fun s => shL[j]? = some s) (fun s => [(6, .sl 24 3 0 16 16), (7, .ptr 25 0 0 0), (9, .ptr 27 0 0 0), (11, .ptr 28 0 0 0), (34, .sl 0 8 o L.length cp), (35, .raw (.int .i64 (L.length : Nat))), (36, .raw (.int .i64 (i : Nat))), (40, .sl 24 3 0 16 16), (41, .raw (.int .i64 16)), (42, .raw (.int .i64 (j : Nat)))])
          (fun s => [(0, roI o L), (1, .cells (prA nm ar (.sl 0 8 o L.length cp)) 25), (2, one0 (.fn 41 [])), (3, one0 (.fn 44 [])), (4, one0 (.fn 45 [])), (5, one0 (.fn 42 [])), (6, one0 (.fn 41 [])), (7, roSg), (8, one0 (.sl 7 1 0 7 7)), (9, roK2 [.a, .v]), (10, roK2 [.a, .n]), (11, roK2 [.a, .b]), (12, roK2 [.a, .b]), (13, roK2 [.a, .b]), (14, roK2 [.a]), (15, roK2 [.a]), (16, roK2 [.a, .b, .c]), (17, roK2 [.a, .b, .c]), (18, roK2 [.a, .b, .c]), (19, roK2 [.a, .b, .c]), (20, roK2 [.b, .s, .c]), (21, roK2 [.k, .b, .s, .c]), (22, roK2 [.a, .b, .c, .n]), (23, roK2 [.a, .b, .c, .n]), (24, roSh2), (25, .cells [.ptr 25 0 0 0, .sl 26 1 0 q.length c] bldT), (26, .bytes q c 5), (27, insO x), (28, .cells [.raw (.string s.w), .raw (.int .i64 (s.op : Nat)), .sl 29 2 0 s.f.length s.f.length] shpT), (29, roK2 s.f)]) ?_ ?_
        · refine sS_ ?_
          refine R.ix ttok j rfl rfl rfl rfl rfl (by kernel_rfl) rfl hjl ⟨Nat.zero_le _, by omega⟩ rfl ?_
          by_cases e0 : j = 0
          · subst e0
            refine R.ldo (v := .agg [.raw (.string ⟨#[115, 101, 116]⟩), .raw (.int .i64 1), .sl 9 2 0 2 2]) ttok rfl rfl rfl rfl rfl (by kernel_rfl) (by decide) ?_
            refine sS_ ?_
            exact X.backR [(29, 9)] ⟨⟨#[115, 101, 116]⟩, 1, [.a, .v]⟩ rfl Nat.zero_lt_one rfl hS7_ hS0_ rfl (fun _ h => h)
          by_cases e1 : j = 1
          · subst e1
            refine R.ldo (v := .agg [.raw (.string ⟨#[97, 114, 103]⟩), .raw (.int .i64 2), .sl 10 2 0 2 2]) ttok rfl rfl rfl rfl rfl (by kernel_rfl) (by decide) ?_
            refine sS_ ?_
            exact X.backR [(29, 10)] ⟨⟨#[97, 114, 103]⟩, 2, [.a, .n]⟩ rfl Nat.zero_lt_one rfl hS7_ hS0_ rfl (fun _ h => h)
          by_cases e2 : j = 2
          · subst e2
            refine R.ldo (v := .agg [.raw (.string ⟨#[103, 101, 116]⟩), .raw (.int .i64 3), .sl 11 2 0 2 2]) ttok rfl rfl rfl rfl rfl (by kernel_rfl) (by decide) ?_
            refine sS_ ?_
            exact X.backR [(29, 11)] ⟨⟨#[103, 101, 116]⟩, 3, [.a, .b]⟩ rfl Nat.zero_lt_one rfl hS7_ hS0_ rfl (fun _ h => h)
          by_cases e3 : j = 3
          · subst e3
            refine R.ldo (v := .agg [.raw (.string ⟨#[110, 101, 120, 116]⟩), .raw (.int .i64 14), .sl 12 2 0 2 2]) ttok rfl rfl rfl rfl rfl (by kernel_rfl) (by decide) ?_
            refine sS_ ?_
            exact X.backR [(29, 12)] ⟨⟨#[110, 101, 120, 116]⟩, 14, [.a, .b]⟩ rfl Nat.zero_lt_one rfl hS7_ hS0_ rfl (fun _ h => h)
          by_cases e4 : j = 4
          · subst e4
            refine R.ldo (v := .agg [.raw (.string ⟨#[112, 117, 116]⟩), .raw (.int .i64 4), .sl 13 2 0 2 2]) ttok rfl rfl rfl rfl rfl (by kernel_rfl) (by decide) ?_
            refine sS_ ?_
            exact X.backR [(29, 13)] ⟨⟨#[112, 117, 116]⟩, 4, [.a, .b]⟩ rfl Nat.zero_lt_one rfl hS7_ hS0_ rfl (fun _ h => h)
          by_cases e5 : j = 5
          · subst e5
            refine R.ldo (v := .agg [.raw (.string ⟨#[100, 101, 108]⟩), .raw (.int .i64 5), .sl 14 2 0 1 1]) ttok rfl rfl rfl rfl rfl (by kernel_rfl) (by decide) ?_
            refine sS_ ?_
            exact X.backR [(29, 14)] ⟨⟨#[100, 101, 108]⟩, 5, [.a]⟩ rfl Nat.zero_lt_one rfl hS7_ hS0_ rfl (fun _ h => h)
          by_cases e6 : j = 6
          · subst e6
            refine R.ldo (v := .agg [.raw (.string ⟨#[116, 101, 108, 108]⟩), .raw (.int .i64 15), .sl 15 2 0 1 1]) ttok rfl rfl rfl rfl rfl (by kernel_rfl) (by decide) ?_
            refine sS_ ?_
            exact X.backR [(29, 15)] ⟨⟨#[116, 101, 108, 108]⟩, 15, [.a]⟩ rfl Nat.zero_lt_one rfl hS7_ hS0_ rfl (fun _ h => h)
          by_cases e7 : j = 7
          · subst e7
            refine R.ldo (v := .agg [.raw (.string ⟨#[97, 100, 100]⟩), .raw (.int .i64 6), .sl 16 2 0 3 3]) ttok rfl rfl rfl rfl rfl (by kernel_rfl) (by decide) ?_
            refine sS_ ?_
            exact X.backR [(29, 16)] ⟨⟨#[97, 100, 100]⟩, 6, [.a, .b, .c]⟩ rfl Nat.zero_lt_one rfl hS7_ hS0_ rfl (fun _ h => h)
          by_cases e8 : j = 8
          · subst e8
            refine R.ldo (v := .agg [.raw (.string ⟨#[115, 117, 98]⟩), .raw (.int .i64 7), .sl 17 2 0 3 3]) ttok rfl rfl rfl rfl rfl (by kernel_rfl) (by decide) ?_
            refine sS_ ?_
            exact X.backR [(29, 17)] ⟨⟨#[115, 117, 98]⟩, 7, [.a, .b, .c]⟩ rfl Nat.zero_lt_one rfl hS7_ hS0_ rfl (fun _ h => h)
          by_cases e9 : j = 9
          · subst e9
            refine R.ldo (v := .agg [.raw (.string ⟨#[109, 117, 108]⟩), .raw (.int .i64 8), .sl 18 2 0 3 3]) ttok rfl rfl rfl rfl rfl (by kernel_rfl) (by decide) ?_
            refine sS_ ?_
            exact X.backR [(29, 18)] ⟨⟨#[109, 117, 108]⟩, 8, [.a, .b, .c]⟩ rfl Nat.zero_lt_one rfl hS7_ hS0_ rfl (fun _ h => h)
          by_cases e10 : j = 10
          · subst e10
            refine R.ldo (v := .agg [.raw (.string ⟨#[106, 111, 105, 110]⟩), .raw (.int .i64 9), .sl 19 2 0 3 3]) ttok rfl rfl rfl rfl rfl (by kernel_rfl) (by decide) ?_
            refine sS_ ?_
            exact X.backR [(29, 19)] ⟨⟨#[106, 111, 105, 110]⟩, 9, [.a, .b, .c]⟩ rfl Nat.zero_lt_one rfl hS7_ hS0_ rfl (fun _ h => h)
          by_cases e11 : j = 11
          · subst e11
            refine R.ldo (v := .agg [.raw (.string ⟨#[110, 101, 101, 100]⟩), .raw (.int .i64 10), .sl 20 2 0 3 3]) ttok rfl rfl rfl rfl rfl (by kernel_rfl) (by decide) ?_
            refine sS_ ?_
            exact X.backR [(29, 20)] ⟨⟨#[110, 101, 101, 100]⟩, 10, [.b, .s, .c]⟩ rfl Nat.zero_lt_one rfl hS7_ hS0_ rfl (fun _ h => h)
          by_cases e12 : j = 12
          · subst e12
            refine R.ldo (v := .agg [.raw (.string ⟨#[115, 107, 105, 112]⟩), .raw (.int .i64 11), .sl 21 2 0 4 4]) ttok rfl rfl rfl rfl rfl (by kernel_rfl) (by decide) ?_
            refine sS_ ?_
            exact X.backR [(29, 21)] ⟨⟨#[115, 107, 105, 112]⟩, 11, [.k, .b, .s, .c]⟩ rfl Nat.zero_lt_one rfl hS7_ hS0_ rfl (fun _ h => h)
          by_cases e13 : j = 13
          · subst e13
            refine R.ldo (v := .agg [.raw (.string ⟨#[115, 117, 109]⟩), .raw (.int .i64 12), .sl 22 2 0 4 4]) ttok rfl rfl rfl rfl rfl (by kernel_rfl) (by decide) ?_
            refine sS_ ?_
            exact X.backR [(29, 22)] ⟨⟨#[115, 117, 109]⟩, 12, [.a, .b, .c, .n]⟩ rfl Nat.zero_lt_one rfl hS7_ hS0_ rfl (fun _ h => h)
          by_cases e14 : j = 14
          · subst e14
            refine R.ldo (v := .agg [.raw (.string ⟨#[99, 111, 117, 110, 116]⟩), .raw (.int .i64 13), .sl 23 2 0 4 4]) ttok rfl rfl rfl rfl rfl (by kernel_rfl) (by decide) ?_
            refine sS_ ?_
            exact X.backR [(29, 23)] ⟨⟨#[99, 111, 117, 110, 116]⟩, 13, [.a, .b, .c, .n]⟩ rfl Nat.zero_lt_one rfl hS7_ hS0_ rfl (fun _ h => h)
          obtain rfl : j = 15 := by omega
          refine R.ldo (v := .agg [.raw (.string ⟨#[115, 116, 111, 112]⟩), .raw (.int .i64 16), .raw (.slice none 0 0)]) ttok rfl rfl rfl rfl rfl (by kernel_rfl) (by decide) ?_
          refine sS_ ?_
          refine X.noneH 28 [.raw (.string ⟨#[115, 116, 111, 112]⟩), .raw (.int .i64 16), .sl 29 2 0 0 0] (.tab 2 0 0 (fkF2 []) fldT) (none_tab _ _ _ _) rfl rfl rfl (fun ρ h => by
            have h : ρ 29 = none := h
            show _ = AV.concs ρ [.raw (.string ⟨#[115, 116, 111, 112]⟩), .raw (.int .i64 16), .raw (.slice none 0 0)]
            simp [AV.concs, AV.conc, h]) ?_
          exact X.backR [] ⟨⟨#[115, 116, 111, 112]⟩, 16, []⟩ rfl Nat.zero_lt_one rfl hS7_ hS0_ rfl (fun _ h => h)
        · rintro s hs
          obtain ⟨hw5, hsv, hss⟩ := sh_word hs
          have hl4 := sh_len hs
          have hqn : ∀ q', q' = q ++ lnS x s → q' = p ++ (shL.take (j + 1)).flatMap (lnS x) := fun q' h => by
            rw [h, hq, List.take_add_one, hs, List.flatMap_append, List.append_assoc]
            simp
          clear hq
          refine sS_ ?_
          by_cases hop : ((s.op : Nat) : Int) = x.o
          · rw [decide_eq_false (show ¬ ((s.op : Nat) : Int) ≠ x.o from fun h => h hop)]
            have hln : lnS x s = lineS s x := if_pos hop
            rw [hln] at hqn
            refine sS_ ?_
            refine R.cat rfl rfl rfl (by kernel_rfl) (by rw [← strB_size s.w]; show 2 + (strB s.w).length ≤ _; omega) ?_
            rw [show (⟨#[32, 32]⟩ : ByteArray) ++ s.w = _ from cat1 [32, 32] s.w]
            have hsl : ([32, 32] ++ strB s.w).length ≤ 7 := by rw [List.length_append]; show 2 + _ ≤ 7; omega
            obtain ⟨tl, htl⟩ : ∃ tl, [32, 32] ++ strB s.w = tl := ⟨_, rfl⟩
            rw [htl] at hsl ⊢
            refine R.cl [25, 26] (write_spec q c (strOf tl) hc' (by rw [strOf_size]; omega)) Tryz.call30 hS6_ rfl rfl rfl (fun _ => rfl) rfl (by kernel_rfl) fun c1 hc1 => ?_
            rw [show strB (strOf tl) = tl from rfl] at hc1 ⊢
            obtain ⟨hc1, hc1'⟩ := hc1
            have hq1 : (q ++ tl).length ≤ 100 + i * 100000 + j * 6000 + 10 := by rw [List.length_append]; omega
            have hq1q : q ++ tl ++ s.f.flatMap (fun k => 32 :: k.wr x) ++ [10] = q ++ lineS s x := by
              unfold lineS
              rw [htl]
              simp
            rw [← hq1q] at hqn
            clear hq1q
            obtain ⟨q1, hq1e⟩ : ∃ q1, q ++ tl = q1 := ⟨_, rfl⟩
            rw [hq1e] at hq1 hc1 hqn ⊢
            refine sS_ ?_
            refine C.loop (σ := Nat × List UInt8 × Nat) (L2 := 31) (fun y => y.1 ≤ s.f.length ∧ y.2.1 = q1 ++ (s.f.take y.1).flatMap (fun k => 32 :: k.wr x) ∧ y.2.1.length ≤ 100 + i * 100000 + j * 6000 + 10 + y.1 * 1100 ∧ y.2.1.length ≤ y.2.2 ∧ y.2.2 ≤ 9223372036854775807)
              (fun y => [(6, .sl 24 3 0 16 16), (7, .ptr 25 0 0 0), (9, .ptr 27 0 0 0), (34, .sl 0 8 o L.length cp), (35, .raw (.int .i64 (L.length : Nat))), (36, .raw (.int .i64 (i : Nat))), (40, .sl 24 3 0 16 16), (41, .raw (.int .i64 16)), (42, .raw (.int .i64 (j : Nat))), (56, .sl 29 2 0 s.f.length s.f.length), (57, .raw (.int .i64 (s.f.length : Nat))), (58, .raw (.int .i64 (y.1 : Nat)))])
              (fun y => [(0, roI o L), (1, .cells (prA nm ar (.sl 0 8 o L.length cp)) 25), (2, one0 (.fn 41 [])), (3, one0 (.fn 44 [])), (4, one0 (.fn 45 [])), (5, one0 (.fn 42 [])), (6, one0 (.fn 41 [])), (7, roSg), (8, one0 (.sl 7 1 0 7 7)), (9, roK2 [.a, .v]), (10, roK2 [.a, .n]), (11, roK2 [.a, .b]), (12, roK2 [.a, .b]), (13, roK2 [.a, .b]), (14, roK2 [.a]), (15, roK2 [.a]), (16, roK2 [.a, .b, .c]), (17, roK2 [.a, .b, .c]), (18, roK2 [.a, .b, .c]), (19, roK2 [.a, .b, .c]), (20, roK2 [.b, .s, .c]), (21, roK2 [.k, .b, .s, .c]), (22, roK2 [.a, .b, .c, .n]), (23, roK2 [.a, .b, .c, .n]), (24, roSh2), (25, .cells [.ptr 25 0 0 0, .sl 30 1 0 y.2.1.length y.2.2] bldT), (27, insO x), (29, roK2 s.f), (30, .bytes y.2.1 y.2.2 5)]) _ (fun y => s.f.length - y.1) [] (0, q1, c1) ⟨Nat.zero_le _, by simp, hq1, hc1, hc1'⟩ rfl hS7_ hS0_ rfl (fun _ h => h) ?_
            clear hq1 hc1 hc1'
            rintro ⟨k, r, c⟩ ⟨hk, hr, hrl, hc, hc'⟩
            dsimp only at hk hr hrl hc hc' ⊢
            refine sS_ ?_
            by_cases hkl : k < s.f.length
            · rw [decide_eq_true (show ((k : Nat) : Int) < (s.f.length : Nat) by omega)]
              obtain ⟨fk, hfk⟩ : ∃ fk, s.f[k]? = some fk := ⟨_, List.getElem?_eq_getElem hkl⟩
              have hfm : fk ∈ s.f := List.mem_of_getElem? hfk
              have hB := fkF2_at hfk
              have hwl : (fk.wr x).length ≤ 1030 := wr_len hxI fk (fun hq => hxk.tx (by
                subst hq
                rw [hsv hfm] at hop
                omega))
              have hgo : ∀ r', r' = r ++ (32 :: fk.wr x) → r' = q1 ++ (s.f.take (k + 1)).flatMap (fun k => 32 :: k.wr x) := fun r' h => by
                rw [h, hr, List.take_add_one, hfk, List.flatMap_append, List.append_assoc]
                simp
              clear hr
              obtain ⟨hia, hib, hic, hin, hii⟩ := hxI
              cases fk with
              | a =>
                refine sS_ ?_
                refine R.ix ttok k rfl rfl rfl rfl rfl (by kernel_rfl) rfl hkl ⟨by omega, by omega⟩ rfl ?_
                refine R.ldo (v := .agg (FK.av2 .a)) ttok rfl rfl rfl (by rw [hB]; rfl) rfl (by kernel_rfl) hkl ?_
                refine sS_ ?_
                refine R.clR [2] (regA_write x hia fs hG) hG.ro Tryz.call88 hS6_ rfl rfl rfl (fun _ => rfl) rfl (by kernel_rfl) fun _ _ => ?_
                refine sS_ ?_
                refine R.cat rfl rfl rfl (by kernel_rfl) (by rw [strOf_size]; show 1 + _ ≤ _; omega) ?_
                rw [show (⟨#[32]⟩ : ByteArray) ++ strOf (FK.wr x .a) = strOf (32 :: FK.wr x .a) from cat1 [32] _]
                refine R.cl [25, 30] (write_spec r c (strOf (32 :: FK.wr x .a)) hc' (by rw [strOf_size, List.length_cons]; omega)) Tryz.call30 hS6_ rfl rfl rfl (fun _ => rfl) rfl (by kernel_rfl) fun c2 hc2 => ?_
                rw [show strB (strOf (32 :: FK.wr x .a)) = 32 :: FK.wr x .a from rfl] at hc2 ⊢
                have hr2 : (r ++ 32 :: FK.wr x .a).length ≤ 100 + i * 100000 + j * 6000 + 10 + (k + 1) * 1100 := by rw [List.length_append, List.length_cons]; omega
                refine sS_ ?_
                exact X.back [(30, 32)] (k + 1, r ++ 32 :: FK.wr x .a, c2) ⟨hkl, hgo _ rfl, hr2, hc2.1, hc2.2⟩ (by dsimp only; omega) rfl hS7_ hS0_ rfl (fun _ h => h)
              | b =>
                refine sS_ ?_
                refine R.ix ttok k rfl rfl rfl rfl rfl (by kernel_rfl) rfl hkl ⟨by omega, by omega⟩ rfl ?_
                refine R.ldo (v := .agg (FK.av2 .b)) ttok rfl rfl rfl (by rw [hB]; rfl) rfl (by kernel_rfl) hkl ?_
                refine sS_ ?_
                refine R.clR [3] (regB_write x hib fs hG) hG.ro Tryz.call88 hS6_ rfl rfl rfl (fun _ => rfl) rfl (by kernel_rfl) fun _ _ => ?_
                refine sS_ ?_
                refine R.cat rfl rfl rfl (by kernel_rfl) (by rw [strOf_size]; show 1 + _ ≤ _; omega) ?_
                rw [show (⟨#[32]⟩ : ByteArray) ++ strOf (FK.wr x .b) = strOf (32 :: FK.wr x .b) from cat1 [32] _]
                refine R.cl [25, 30] (write_spec r c (strOf (32 :: FK.wr x .b)) hc' (by rw [strOf_size, List.length_cons]; omega)) Tryz.call30 hS6_ rfl rfl rfl (fun _ => rfl) rfl (by kernel_rfl) fun c2 hc2 => ?_
                rw [show strB (strOf (32 :: FK.wr x .b)) = 32 :: FK.wr x .b from rfl] at hc2 ⊢
                have hr2 : (r ++ 32 :: FK.wr x .b).length ≤ 100 + i * 100000 + j * 6000 + 10 + (k + 1) * 1100 := by rw [List.length_append, List.length_cons]; omega
                refine sS_ ?_
                exact X.back [(30, 32)] (k + 1, r ++ 32 :: FK.wr x .b, c2) ⟨hkl, hgo _ rfl, hr2, hc2.1, hc2.2⟩ (by dsimp only; omega) rfl hS7_ hS0_ rfl (fun _ h => h)
              | c =>
                refine sS_ ?_
                refine R.ix ttok k rfl rfl rfl rfl rfl (by kernel_rfl) rfl hkl ⟨by omega, by omega⟩ rfl ?_
                refine R.ldo (v := .agg (FK.av2 .c)) ttok rfl rfl rfl (by rw [hB]; rfl) rfl (by kernel_rfl) hkl ?_
                refine sS_ ?_
                refine R.clR [4] (regC_write x hic fs hG) hG.ro Tryz.call88 hS6_ rfl rfl rfl (fun _ => rfl) rfl (by kernel_rfl) fun _ _ => ?_
                refine sS_ ?_
                refine R.cat rfl rfl rfl (by kernel_rfl) (by rw [strOf_size]; show 1 + _ ≤ _; omega) ?_
                rw [show (⟨#[32]⟩ : ByteArray) ++ strOf (FK.wr x .c) = strOf (32 :: FK.wr x .c) from cat1 [32] _]
                refine R.cl [25, 30] (write_spec r c (strOf (32 :: FK.wr x .c)) hc' (by rw [strOf_size, List.length_cons]; omega)) Tryz.call30 hS6_ rfl rfl rfl (fun _ => rfl) rfl (by kernel_rfl) fun c2 hc2 => ?_
                rw [show strB (strOf (32 :: FK.wr x .c)) = 32 :: FK.wr x .c from rfl] at hc2 ⊢
                have hr2 : (r ++ 32 :: FK.wr x .c).length ≤ 100 + i * 100000 + j * 6000 + 10 + (k + 1) * 1100 := by rw [List.length_append, List.length_cons]; omega
                refine sS_ ?_
                exact X.back [(30, 32)] (k + 1, r ++ 32 :: FK.wr x .c, c2) ⟨hkl, hgo _ rfl, hr2, hc2.1, hc2.2⟩ (by dsimp only; omega) rfl hS7_ hS0_ rfl (fun _ h => h)
              | n =>
                refine sS_ ?_
                refine R.ix ttok k rfl rfl rfl rfl rfl (by kernel_rfl) rfl hkl ⟨by omega, by omega⟩ rfl ?_
                refine R.ldo (v := .agg (FK.av2 .n)) ttok rfl rfl rfl (by rw [hB]; rfl) rfl (by kernel_rfl) hkl ?_
                refine sS_ ?_
                refine R.clR [5] (plainN_write x hin fs hG) hG.ro Tryz.call90 hS6_ rfl rfl rfl (fun _ => rfl) rfl (by kernel_rfl) fun _ _ => ?_
                refine sS_ ?_
                refine R.cat rfl rfl rfl (by kernel_rfl) (by rw [strOf_size]; show 1 + _ ≤ _; omega) ?_
                rw [show (⟨#[32]⟩ : ByteArray) ++ strOf (FK.wr x .n) = strOf (32 :: FK.wr x .n) from cat1 [32] _]
                refine R.cl [25, 30] (write_spec r c (strOf (32 :: FK.wr x .n)) hc' (by rw [strOf_size, List.length_cons]; omega)) Tryz.call30 hS6_ rfl rfl rfl (fun _ => rfl) rfl (by kernel_rfl) fun c2 hc2 => ?_
                rw [show strB (strOf (32 :: FK.wr x .n)) = 32 :: FK.wr x .n from rfl] at hc2 ⊢
                have hr2 : (r ++ 32 :: FK.wr x .n).length ≤ 100 + i * 100000 + j * 6000 + 10 + (k + 1) * 1100 := by rw [List.length_append, List.length_cons]; omega
                refine sS_ ?_
                exact X.back [(30, 32)] (k + 1, r ++ 32 :: FK.wr x .n, c2) ⟨hkl, hgo _ rfl, hr2, hc2.1, hc2.2⟩ (by dsimp only; omega) rfl hS7_ hS0_ rfl (fun _ h => h)
              | k =>
                refine sS_ ?_
                refine R.ix ttok k rfl rfl rfl rfl rfl (by kernel_rfl) rfl hkl ⟨by omega, by omega⟩ rfl ?_
                refine R.ldo (v := .agg (FK.av2 .k)) ttok rfl rfl rfl (by rw [hB]; rfl) rfl (by kernel_rfl) hkl ?_
                refine sS_ ?_
                refine R.clR [6] (plainA_write x hia fs hG) hG.ro Tryz.call90 hS6_ rfl rfl rfl (fun _ => rfl) rfl (by kernel_rfl) fun _ _ => ?_
                refine sS_ ?_
                refine R.cat rfl rfl rfl (by kernel_rfl) (by rw [strOf_size]; show 1 + _ ≤ _; omega) ?_
                rw [show (⟨#[32]⟩ : ByteArray) ++ strOf (FK.wr x .k) = strOf (32 :: FK.wr x .k) from cat1 [32] _]
                refine R.cl [25, 30] (write_spec r c (strOf (32 :: FK.wr x .k)) hc' (by rw [strOf_size, List.length_cons]; omega)) Tryz.call30 hS6_ rfl rfl rfl (fun _ => rfl) rfl (by kernel_rfl) fun c2 hc2 => ?_
                rw [show strB (strOf (32 :: FK.wr x .k)) = 32 :: FK.wr x .k from rfl] at hc2 ⊢
                have hr2 : (r ++ 32 :: FK.wr x .k).length ≤ 100 + i * 100000 + j * 6000 + 10 + (k + 1) * 1100 := by rw [List.length_append, List.length_cons]; omega
                refine sS_ ?_
                exact X.back [(30, 32)] (k + 1, r ++ 32 :: FK.wr x .k, c2) ⟨hkl, hgo _ rfl, hr2, hc2.1, hc2.2⟩ (by dsimp only; omega) rfl hS7_ hS0_ rfl (fun _ h => h)
              | s =>
                have hsg := hxk.sg (by rcases hss hfm with h | h <;> rw [h] at hop <;> omega)
                refine sS_ ?_
                refine R.ix ttok k rfl rfl rfl rfl rfl (by kernel_rfl) rfl hkl ⟨by omega, by omega⟩ rfl ?_
                refine R.ldo (v := .agg (FK.av2 .s)) ttok rfl rfl rfl (by rw [hB]; rfl) rfl (by kernel_rfl) hkl ?_
                refine sS_ ?_
                refine R.cl [8, 7] (sign_write x (by omega)) Tryz.call48 hS6_ rfl rfl rfl (fun _ => rfl) rfl (by kernel_rfl) fun _ _ => ?_
                refine sS_ ?_
                refine R.cat rfl rfl rfl (by kernel_rfl) (by rw [strOf_size]; show 1 + _ ≤ _; omega) ?_
                rw [show (⟨#[32]⟩ : ByteArray) ++ strOf (FK.wr x .s) = strOf (32 :: FK.wr x .s) from cat1 [32] _]
                refine R.cl [25, 30] (write_spec r c (strOf (32 :: FK.wr x .s)) hc' (by rw [strOf_size, List.length_cons]; omega)) Tryz.call30 hS6_ rfl rfl rfl (fun _ => rfl) rfl (by kernel_rfl) fun c2 hc2 => ?_
                rw [show strB (strOf (32 :: FK.wr x .s)) = 32 :: FK.wr x .s from rfl] at hc2 ⊢
                have hr2 : (r ++ 32 :: FK.wr x .s).length ≤ 100 + i * 100000 + j * 6000 + 10 + (k + 1) * 1100 := by rw [List.length_append, List.length_cons]; omega
                refine sS_ ?_
                exact X.back [(30, 32)] (k + 1, r ++ 32 :: FK.wr x .s, c2) ⟨hkl, hgo _ rfl, hr2, hc2.1, hc2.2⟩ (by dsimp only; omega) rfl hS7_ hS0_ rfl (fun _ h => h)
              | v =>
                have htx := hxk.tx (by rw [hsv hfm] at hop; omega)
                refine sS_ ?_
                refine R.ix ttok k rfl rfl rfl rfl rfl (by kernel_rfl) rfl hkl ⟨by omega, by omega⟩ rfl ?_
                refine R.ldo (v := .agg (FK.av2 .v)) ttok rfl rfl rfl (by rw [hB]; rfl) rfl (by kernel_rfl) hkl ?_
                refine sS_ ?_
                refine R.clR [] (value_write x hii (by omega) fs hG) hG.ro Tryz.call51 hS6_ rfl rfl rfl (fun _ => rfl) rfl (by kernel_rfl) fun _ _ => ?_
                refine sS_ ?_
                refine R.cat rfl rfl rfl (by kernel_rfl) (by rw [strOf_size]; show 1 + _ ≤ _; omega) ?_
                rw [show (⟨#[32]⟩ : ByteArray) ++ strOf (FK.wr x .v) = strOf (32 :: FK.wr x .v) from cat1 [32] _]
                refine R.cl [25, 30] (write_spec r c (strOf (32 :: FK.wr x .v)) hc' (by rw [strOf_size, List.length_cons]; omega)) Tryz.call30 hS6_ rfl rfl rfl (fun _ => rfl) rfl (by kernel_rfl) fun c2 hc2 => ?_
                rw [show strB (strOf (32 :: FK.wr x .v)) = 32 :: FK.wr x .v from rfl] at hc2 ⊢
                have hr2 : (r ++ 32 :: FK.wr x .v).length ≤ 100 + i * 100000 + j * 6000 + 10 + (k + 1) * 1100 := by rw [List.length_append, List.length_cons]; omega
                refine sS_ ?_
                exact X.back [(30, 32)] (k + 1, r ++ 32 :: FK.wr x .v, c2) ⟨hkl, hgo _ rfl, hr2, hc2.1, hc2.2⟩ (by dsimp only; omega) rfl hS7_ hS0_ rfl (fun _ h => h)
            · rw [decide_eq_false (show ¬ ((k : Nat) : Int) < (s.f.length : Nat) by omega)]
              rw [List.take_of_length_le (by omega : s.f.length ≤ k)] at hr
              have hk4 : k ≤ 4 := by omega
              refine sS_ ?_
              refine R.cl [25, 30] (write_spec r c ⟨#[10]⟩ hc' (by show r.length + 1 ≤ _; omega)) Tryz.call30 hS6_ rfl rfl rfl (fun _ => rfl) rfl (by kernel_rfl) fun c2 hc2 => ?_
              rw [show strB ⟨#[10]⟩ = [10] from rfl] at hc2 ⊢
              have hql2 : (r ++ [10]).length ≤ 100 + i * 100000 + (j + 1) * 6000 := by rw [List.length_append]; show _ + 1 ≤ _; omega
              obtain ⟨q2, hq2⟩ : ∃ q2, r ++ [10] = q2 := ⟨_, rfl⟩
              have hq3 := hqn q2 (by rw [← hq2, hr])
              rw [hq2] at hc2 hql2 ⊢
              refine sS_ ?_
              exact X.back [(26, 31)] (j + 1, q2, c2) ⟨hjl, hq3, hql2, hc2.1, hc2.2⟩ (by dsimp only; omega) rfl hS7_ hS0_ rfl (fun _ h => h)
          · rw [decide_eq_true (show ((s.op : Nat) : Int) ≠ x.o from hop)]
            have hq3 := hqn q (by unfold lnS; rw [if_neg hop, List.append_nil])
            refine sS_ ?_
            exact X.back [] (j + 1, q, c) ⟨hjl, hq3, by dsimp only; omega, hc, hc'⟩ (by dsimp only; omega) rfl hS7_ hS0_ rfl (fun _ h => h)
      · rw [decide_eq_false (show ¬ ((j : Nat) : Int) < 16 by omega)]
        obtain rfl : j = 16 := by omega
        have hq3 := hnext q hq
        refine sS_ ?_
        exact X.back [] (i + 1, q, c) ⟨hlt, hq3, by dsimp only; omega, hc, hc'⟩ (by dsimp only; omega) rfl hS7_ hS0_ rfl (fun _ h => h)
    · rw [decide_eq_false (show ¬ ((i : Nat) : Int) < (L.length : Nat) by omega)]
      rw [List.take_of_length_le (by omega : L.length ≤ i)] at hp
      refine sS_ ?_
      refine R.cl [25, 26] (write_spec p c ⟨#[101, 110, 100, 10]⟩ hc' (by show p.length + 4 ≤ _; omega)) Tryz.call30 hS6_ rfl rfl rfl (fun _ => rfl) rfl (by kernel_rfl) fun c2 hc2 => ?_
      rw [show strB ⟨#[101, 110, 100, 10]⟩ = [101, 110, 100, 10] from rfl] at hc2 ⊢
      have hq2l : (p ++ [101, 110, 100, 10]).length = p.length + 4 := by rw [List.length_append]; rfl
      have hpr : p ++ [101, 110, 100, 10] = printP nm ar L := by unfold printP; rw [hp, hhd]
      rw [hpr] at hq2l hc2 ⊢
      obtain ⟨out, hout⟩ : ∃ out, printP nm ar L = out := ⟨_, rfl⟩
      rw [hout] at hq2l hc2 ⊢
      refine sS_ ?_
      refine R.cl [25, 27] (bstring_spec out c2 (by intro h; rw [h] at hq2l; cases hq2l) hc2.1 (by omega)) Tryz.call32 hS6_ rfl rfl rfl (fun _ => rfl) rfl (by kernel_rfl) fun _ _ => ?_
      refine sS_ ?_
      refine X.finF ttok () [] trivial rfl rfl rfl hS4_ _ (by first | exact .inl rfl | exact .inr rfl) ?_ ?_ ?_
      · exact fun w' hf => hf.ap
      · exact fun p hp => hp
      · exact fun p hp e => ⟨p, hp, rfl⟩
  · rw [if_neg h0, decide_eq_true (show e ≠ 0 from h0)]
    refine sS_ ?_
    refine X.finF ttok () [] trivial rfl rfl rfl hS4_ _ (by first | exact .inl rfl | exact .inr rfl) ?_ ?_ ?_
    · exact fun w' hf => hf.ap
    · exact fun p hp => hp
    · exact fun p hp e => ⟨p, hp, rfl⟩
end Go.Proofs.YtaieficgifingaaGreatDoor
namespace Go.Proofs.YtaieficgifingaaGreatDoor
set_option linter.unusedVariables false
set_option linter.unusedSimpArgs false
open Go.RowKit
set_option maxRecDepth 100000
set_option maxHeartbeats 4000000
def wordsF : Nat → List UInt8 → Option (List (List UInt8 × Bool))
  | 0, _ => none
  | k + 1, l => match Lib.trimLeftS l [32, 9] with
    | [] => some []
    | c :: r => if c = 35 then some [] else if c = 34 then (match quoteP [] r with
        | none => none
        | some p => (wordsF k p.2).map ((p.1, true) :: ·)) else (wordsF k ((c :: r).drop (wordN (c :: r)))).map (((c :: r).take (wordN (c :: r)), false) :: ·)
theorem wordsF_eq : ∀ (k : Nat) (l : List UInt8), l.length < k → wordsF k l = wordsP l
  | 0, l, h => absurd h (Nat.not_lt_zero _)
  | k + 1, l, h => by
    have htl := trim_le l
    unfold wordsF
    cases ht : Lib.trimLeftS l [32, 9] with
    | nil => rw [wordsP_end (.inl ht)]
    | cons c r =>
      rw [ht, List.length_cons] at htl
      dsimp only
      by_cases h35 : c = 35
      · rw [if_pos h35, wordsP_end (.inr ⟨r, by rw [ht, h35]⟩)]
      · rw [if_neg h35]
        by_cases h34 : c = 34
        · rw [if_pos h34, wordsP_q (r := r) (by rw [ht, h34])]
          cases hq : quoteP [] r with
          | none => rfl
          | some p =>
            have := quoteP_lt r [] p hq
            dsimp only
            rw [wordsF_eq k p.2 (by omega)]
        · rw [if_neg h34, wordsP_w ht h35 h34]
          have hpos := wordN_pos (r := r) (trim_head ht) h35
          rw [wordsF_eq k _ (by rw [List.length_drop, List.length_cons]; omega)]
def linesF : Nat → List UInt8 → List (List UInt8)
  | 0, _ => []
  | k + 1, l => if l = [] then [] else lineA l :: linesF k (lineB l)
theorem linesF_eq : ∀ (k : Nat) (l : List UInt8), l.length < k → linesF k l = linesL l
  | 0, l, h => absurd h (Nat.not_lt_zero _)
  | k + 1, l, h => by
    unfold linesF
    by_cases h0 : l = []
    · rw [if_pos h0, h0, linesL_nil]
    · rw [if_neg h0, linesL_cons h0]
      have := lineB_lt h0
      rw [linesF_eq k _ (by omega)]
def stepF (p : PR) (n : Nat) (l : List UInt8) : Option PR := match wordsF (l.length + 1) l with
  | none => none
  | some ws => stepW p n (wsOf ws)
theorem stepF_eq (p : PR) (n : Nat) (l : List UInt8) : stepF p n l = stepL p n l := by
  unfold stepF stepL
  rw [wordsF_eq _ _ (Nat.lt_succ_self _)]
  cases wordsP l <;> rfl
def runF : List (List UInt8) → Nat → PR → Except Nat PR
  | [], _, p => .ok p
  | l :: r, n, p => match stepF p n l with
    | none => .error n
    | some p' => runF r (n + 1) p'
theorem runF_eq : ∀ (l : List (List UInt8)) (n : Nat) (p : PR), runF l n p = runL l n p
  | [], _, _ => rfl
  | l :: r, n, p => by
    unfold runF
    rw [stepF_eq]
    cases h : stepL p n l with
    | none => rw [run_err h]
    | some p' => rw [run_on h]; exact runF_eq r _ _
def parseF (t : List UInt8) : Except (Int × Int) PR := match runF (linesF (t.length + 1) t) 1 pr0 with
  | .error n => .error (((n : Nat) : Int), 17)
  | .ok p => endP p (linesF (t.length + 1) t).length
theorem parseF_eq (t : List UInt8) : parseF t = parseP t := by
  unfold parseF parseP
  rw [linesF_eq _ _ (Nat.lt_succ_self _), runF_eq]
  cases runL (linesL t) 1 pr0 <;> rfl
def kn1 : List UInt8 := [112, 114, 111, 99, 32, 112, 117, 116, 50, 32, 50, 10, 32, 32, 97, 114, 103, 32, 114, 48, 32, 48, 32, 35, 32, 116, 104, 101, 32, 107, 101, 121, 10, 10, 9, 97, 114, 103, 32, 114, 49, 32, 49, 10, 32, 112, 117, 116, 32, 114, 48, 32, 114, 49, 10, 32, 115, 116, 111, 112, 10, 101, 110, 100]
def kn2 : List UInt8 := [112, 114, 111, 99, 32, 112, 32, 48, 10, 115, 101, 116, 32, 114, 49, 54, 32, 49, 10, 101, 110, 100, 10]
def knC : List Ins := [⟨2, 0, 0, 0, 0, 0, 0, noT0⟩, ⟨2, 1, 0, 0, 1, 0, 0, noT0⟩, ⟨4, 0, 1, 0, 0, 0, 0, noT0⟩, ⟨16, 0, 0, 0, 0, 0, 0, noT0⟩]
def knN : ByteArray := strOf [112, 117, 116, 50]
theorem kn1_parse : parseP kn1 = .ok ⟨1, true, knN, 2, knC, [2, 4, 5, 6]⟩ := (parseF_eq _).symm.trans (by kernel_rfl)
theorem kn2_parse : parseP kn2 = .error (2, 17) := (parseF_eq _).symm.trans (by kernel_rfl)
theorem kn_chk : chkP knN 2 knC = (0, 0) := by kernel_rfl
def knP : List UInt8 := [112, 114, 111, 99, 32, 112, 117, 116, 50, 32, 50, 10, 32, 32, 97, 114, 103, 32, 114, 48, 32, 48, 10, 32, 32, 97, 114, 103, 32, 114, 49, 32, 49, 10, 32, 32, 112, 117, 116, 32, 114, 48, 32, 114, 49, 10, 32, 32, 115, 116, 111, 112, 10, 101, 110, 100, 10]
theorem itoa_dig : Lib.itoa 0 = [48] ∧ Lib.itoa 1 = [49] ∧ Lib.itoa 2 = [50] := by
  refine ⟨?_, ?_, ?_⟩ <;> simp [Lib.itoa, Lib.decDigits]
theorem kn_print : printP knN 2 knC = knP := by
  obtain ⟨h0, h1, h2⟩ := itoa_dig
  unfold printP headP lnP
  simp [h0, h1, h2, knC, shL, lnS, lineS, FK.wr, knN, knP, strB, strOf]
end Go.Proofs.YtaieficgifingaaGreatDoor
namespace Go.Proofs.YtaieficgifingaaGreatDoor
set_option linter.unusedVariables false
set_option linter.unusedSimpArgs false
open Go.RowKit
set_option maxRecDepth 100000
set_option maxHeartbeats 8000000
theorem ins_same (x : Ins) : eqA tt 6 inT (.agg (insA x)) (.agg (insA x)) = some true := by
  rw [ins_eq]
  simp
theorem procs_spec (nm : ByteArray) (ar : Int) (L : List Ins) (o1 c1 o2 c2 : Nat) (hL : L.length ≤ 1000000) : Spec Tryz.prog 10 [.agg (prA nm ar (.sl 0 8 o1 L.length c1)), .agg (prA nm ar (.sl 1 8 o2 L.length c2))] [roI o1 L, roI o2 L] 2 (σ := Unit) (fun _ => True) (fun _ => .raw (.bool true)) (fun _ => []) := by
  refine Spec.of Tryz.func10 rfl Tryz.ntmps10 rfl (bdl_cons (fun _ _ => rfl) (bdl_cons (fun _ _ => rfl) (bdl_nil _))) fun ρ w => ?_
  refine sS_ ?_
  rw [neS, show decide (strB nm ≠ strB nm) = false from decide_eq_false (fun h => h rfl)]
  refine sS_ ?_
  rw [show decide (ar ≠ ar) = false from decide_eq_false (fun h => h rfl)]
  refine sS_ ?_
  rw [show decide (((L.length : Nat) : Int) ≠ ((L.length : Nat) : Int)) = false from decide_eq_false (fun h => h rfl)]
  refine sS_ ?_
  refine C.loop (σ := Nat) (L2 := 4) (fun i => i ≤ L.length) (fun i => [(2, .ptr 2 0 0 0), (3, .ptr 3 0 0 0), (5, .raw (.int .i64 (i : Nat)))]) (fun _ => [(0, roI o1 L), (1, roI o2 L), (2, .cells (prA nm ar (.sl 0 8 o1 L.length c1)) 25), (3, .cells (prA nm ar (.sl 1 8 o2 L.length c2)) 25)]) _ (fun i => L.length - i) [] 0 (Nat.zero_le _) rfl hS7_ hS5_ rfl (fun _ h => h) ?_
  intro i hi
  refine sS_ ?_
  by_cases hlt : i < L.length
  · rw [decide_eq_true (show ((i : Nat) : Int) < (L.length : Nat) by omega)]
    obtain ⟨x, hx⟩ : ∃ x, L.getD i insD = x := ⟨_, rfl⟩
    have hA : insF L i = insA x := by unfold insF; rw [hx]
    refine sS_ ?_
    refine C.draw [[], [0], [], [0, 1, 2], [0, 1, 2, 3], [], [5], [], [5, 6, 7], [5, 6, 7, 8], [0, 1, 2, 3, 4, 5, 6, 7, 8, 9]] [] (by kernel_rfl) (by kernel_rfl) ?_
    refine sS_ ?_
    refine R.ix ttok i rfl rfl rfl rfl rfl (by kernel_rfl) rfl hlt ⟨by omega, by omega⟩ rfl ?_
    refine R.ldo (v := .agg (insA x)) ttok rfl rfl rfl (by rw [hA]; rfl) rfl (by kernel_rfl) hlt ?_
    refine sS_ ?_
    refine R.ix ttok i rfl rfl rfl rfl rfl (by kernel_rfl) rfl hlt ⟨by omega, by omega⟩ rfl ?_
    refine R.ldo (v := .agg (insA x)) ttok rfl rfl rfl (by rw [hA]; rfl) rfl (by kernel_rfl) hlt ?_
    refine sS_ ?_
    refine R.nes ttok true rfl rfl (by kernel_rfl) (by kernel_rfl) (ins_same x) rfl (by kernel_rfl) ?_
    refine sS_ ?_
    exact X.back [] (i + 1) hlt (by omega) rfl hS7_ hS5_ rfl (fun _ h => h)
  · rw [decide_eq_false (show ¬ ((i : Nat) : Int) < (L.length : Nat) by omega)]
    refine sS_ ?_
    refine X.fin ttok () [] trivial rfl rfl rfl hS4_ _ (by first | exact .inl rfl | exact .inr rfl)
theorem knC_I : ∀ x ∈ knC, insI x := by
  intro x hx
  simp only [knC, List.mem_cons, List.not_mem_nil, or_false] at hx
  rcases hx with rfl | rfl | rfl | rfl <;> exact ⟨⟨by decide, by decide⟩, ⟨by decide, by decide⟩, ⟨by decide, by decide⟩, ⟨by decide, by decide⟩, ⟨by decide, by decide⟩⟩
theorem known_spec (fs : Fam) (hG : Glob fs) (hfc : ∀ x ∈ fs, x.ob.isCells = true) : SpecF Tryz.prog 7 [] [] 0 fs (σ := Unit) (fun _ => True) (fun _ => .raw (.bool true)) (fun _ => []) (fun _ => fs) := by
  refine SpecF.of Tryz.func7 rfl Tryz.ntmps7 rfl (bdl_nil _) fun ρ w => ?_
  refine sS_ ?_
  refine R.clR [] (parse_spec (strOf kn1) (by decide) fs hG hfc) hG.ro Tryz.call8 hS6_ rfl rfl rfl (fun _ => rfl) rfl (by kernel_rfl) fun r hr => ?_
  obtain ⟨nm, ar, cd, c, line, e⟩ := r
  obtain ⟨hr, hc1, hc2⟩ := hr
  rw [show strB (strOf kn1) = kn1 from rfl, kn1_parse] at hr
  obtain ⟨rfl, rfl, rfl, rfl, rfl⟩ := hr
  refine sS_ ?_
  refine R.clR [0] (print_spec knN 2 knC 0 c (by decide) knC_I fs hG) hG.ro Tryz.call13 ((by exact HasIn.other rfl (fun e => by cases e) (fun ρ x w hh => tab_ro hh) .nil)) rfl rfl rfl (fun _ => rfl) rfl (by kernel_rfl) fun _ _ => ?_
  unfold printO
  rw [kn_chk, kn_print, if_pos rfl]
  refine sS_ ?_
  refine R.clR [] (parse_spec (strOf kn2) (by decide) fs hG hfc) hG.ro Tryz.call8 hS6_ rfl rfl rfl (fun _ => rfl) rfl (by kernel_rfl) fun r hr => ?_
  obtain ⟨nm2, ar2, cd2, c2, line2, e2⟩ := r
  obtain ⟨hr, hc3, hc4⟩ := hr
  rw [show strB (strOf kn2) = kn2 from rfl, kn2_parse] at hr
  obtain ⟨rfl, rfl, rfl, rfl, rfl⟩ := hr
  refine sS_ ?_
  refine R.ix ttok 2 rfl rfl rfl rfl rfl (by kernel_rfl) rfl (by show 2 < 4; decide) (by show 2 < 4; decide) rfl ?_
  refine R.ldt (v := .agg (insA ⟨4, 0, 1, 0, 0, 0, 0, noT0⟩)) ttok rfl rfl rfl rfl rfl (by kernel_rfl) (by show 2 < 4; decide) ?_
  refine sS_ ?_
  refine R.eqs ttok true rfl rfl (by kernel_rfl) (by kernel_rfl) (ins_same ⟨4, 0, 1, 0, 0, 0, 0, noT0⟩) rfl (by kernel_rfl) ?_
  refine sS_ ?_
  rw [eqL, show ∀ a : Array UInt8, a.toList = knP → decide (strB (strOf knP) = a.toList) = true from fun a h => decide_eq_true h.symm]
  rotate_left
  · rfl
  refine sS_ ?_
  refine X.finF ttok () [] trivial rfl rfl rfl hS4_ _ (by first | exact .inl rfl | exact .inr rfl) ?_ ?_ ?_
  · exact fun w' hf => hf.ap
  · exact fun p hp => hp
  · exact fun p hp e => ⟨p, hp, rfl⟩
end Go.Proofs.YtaieficgifingaaGreatDoor
namespace Go.Proofs.YtaieficgifingaaGreatDoor
set_option linter.unusedVariables false
set_option linter.unusedSimpArgs false
open Go.RowKit
set_option maxRecDepth 100000
set_option maxHeartbeats 8000000
theorem chkP_len {nm : ByteArray} {ar : Int} {L : List Ins} (h : (chkP nm ar L).2 = 0) : L.length ≤ 64 := by
  unfold chkP at h
  split at h
  · cases h
  split at h
  · cases h
  split at h
  · cases h
  omega
theorem parseP_ok {t : List UInt8} {p : PR} (h : parseP t = .ok p) : p.cd.length ≤ 64 := by
  unfold parseP at h
  split at h
  · cases h
  · unfold endP at h
    split at h
    · cases h
    · split at h
      · rename_i hc
        cases h
        exact chkP_len hc
      · cases h
theorem asmParses_law (text : ByteArray) (hs : text.size ≤ 9223372036854775807) (fs : Fam) (hG : Glob fs) (hfc : ∀ x ∈ fs, x.ob.isCells = true) : SpecF Tryz.prog 3 [.raw (.string text)] [] 0 fs (σ := Unit) (fun _ => True) (fun _ => .raw (.bool true)) (fun _ => []) (fun _ => fs) := by
  refine SpecF.of Tryz.func3 rfl Tryz.ntmps3 rfl (bdl_nil _) fun ρ w => ?_
  refine sS_ ?_
  by_cases hb : 60000 < text.size
  · rw [decide_eq_true (show ((text.size : Nat) : Int) > 60000 by omega)]
    refine sS_ ?_
    refine R.clR [] (known_spec fs hG hfc) hG.ro Tryz.call7 hS6_ rfl rfl rfl (fun _ => rfl) rfl (by kernel_rfl) fun _ _ => ?_
    refine sS_ ?_
    refine X.finF ttok () [] trivial rfl rfl rfl hS4_ _ (by first | exact .inl rfl | exact .inr rfl) ?_ ?_ ?_
    · exact fun w' hf => hf.ap
    · exact fun p hp => hp
    · exact fun p hp e => ⟨p, hp, rfl⟩
  · rw [decide_eq_false (show ¬ ((text.size : Nat) : Int) > 60000 by omega)]
    refine sS_ ?_
    refine R.clR [] (parse_spec text (by omega) fs hG hfc) hG.ro Tryz.call8 hS6_ rfl rfl rfl (fun _ => rfl) rfl (by kernel_rfl) fun r hr => ?_
    obtain ⟨nm, ar, cd, c1, line, e⟩ := r
    obtain ⟨hr, hc1, hc1'⟩ := hr
    refine sS_ ?_
    refine R.cl [] (parseR_spec text (by omega)) Tryz.call9 hS6_ rfl rfl rfl (fun _ => rfl) rfl (by kernel_rfl) fun r2 hr2 => ?_
    obtain ⟨nm2, ar2, cd2, c2, line2, e2⟩ := r2
    obtain ⟨hr2, hc2, hc2'⟩ := hr2
    dsimp only at hr hr2 hc1 hc2 hc1' hc2'
    have hcl : cd.length ≤ 1000000 := by
      cases hp : parseP (strB text) with
      | error x => rw [hp] at hr; rw [hr.2.2.1]; exact Nat.zero_le _
      | ok p =>
        rw [hp] at hr
        rw [hr.2.2.1]
        have := parseP_ok hp
        omega
    have heq : nm2 = nm ∧ ar2 = ar ∧ cd2 = cd ∧ line2 = line ∧ e2 = e := by
      cases hp : parseP (strB text) with
      | error x =>
        rw [hp] at hr hr2
        exact ⟨hr2.1.trans hr.1.symm, hr2.2.1.trans hr.2.1.symm, hr2.2.2.1.trans hr.2.2.1.symm, hr2.2.2.2.1.trans hr.2.2.2.1.symm, hr2.2.2.2.2.trans hr.2.2.2.2.symm⟩
      | ok p =>
        rw [hp] at hr hr2
        exact ⟨hr2.1.trans hr.1.symm, hr2.2.1.trans hr.2.1.symm, hr2.2.2.1.trans hr.2.2.1.symm, hr2.2.2.2.1.trans hr.2.2.2.1.symm, hr2.2.2.2.2.trans hr.2.2.2.2.symm⟩
    obtain ⟨rfl, rfl, rfl, rfl, rfl⟩ := heq
    refine sS_ ?_
    refine R.cl [0, 2] (procs_spec nm2 ar2 cd2 0 c1 0 c2 hcl) Tryz.call10 ((by exact HasIn.other rfl (fun e => by cases e) (fun ρ x w hh => tab_ro hh) (HasIn.other rfl (fun e => by cases e) (fun ρ x w hh => tab_ro hh) .nil))) rfl rfl rfl (fun _ => rfl) rfl (by kernel_rfl) fun _ _ => ?_
    refine sS_ ?_
    rw [show decide (line2 = line2) = true from decide_eq_true rfl]
    refine sS_ ?_
    rw [show decide (e2 = e2) = true from decide_eq_true rfl]
    refine sS_ ?_
    refine R.clR [] (known_spec fs hG hfc) hG.ro Tryz.call7 hS6_ rfl rfl rfl (fun _ => rfl) rfl (by kernel_rfl) fun _ _ => ?_
    refine sS_ ?_
    refine X.finF ttok () [] trivial rfl rfl rfl hS4_ _ (by first | exact .inl rfl | exact .inr rfl) ?_ ?_ ?_
    · exact fun w' hf => hf.ap
    · exact fun p hp => hp
    · exact fun p hp e => ⟨p, hp, rfl⟩
end Go.Proofs.YtaieficgifingaaGreatDoor
