/- Texts of the claim, merged: only what the theorem needs. -/
import Derived.Test.YtaieficgifingaaGreatDoorPRs
import Derived.ProofKit
import Derived.SizedLaws
namespace Go.Proofs.YtaieficgifingaaGreatDoor
set_option linter.unusedVariables false
set_option linter.unusedSimpArgs false
open Go.ChangeShapes Go.WideShapes Go.ChangeAt Go.RowKit
def BytesAt (w : World) (a : Option Addr) (p : List UInt8) : Prop :=
  p = [] ∨ ∃ b off, a = some ⟨b, off, none⟩ ∧ b < w.heap.size ∧ ∀ i (h : i < p.length), w.cell? ⟨b, off + i, none⟩ = some (.int .u8 ((p[i]).toNat : Int))
theorem BytesAt.nil (w : World) (a : Option Addr) : BytesAt w a [] := Or.inl rfl
end Go.Proofs.YtaieficgifingaaGreatDoor
namespace Go.Proofs.YtaieficgifingaaGreatDoor
set_option linter.unusedVariables false
set_option linter.unusedSimpArgs false
open Go.ChangeShapes Go.WideShapes Go.ChangeAt Go.RowKit
inductive LF where
  | i (k : IntKind) | s | b
def LF.ok : LF → Value → Prop
  | .i k, v => ∃ n, v = .int k n ∧ (Lit.int k n).wf = true
  | .s, v => ∃ s, v = .string s ∧ s.size ≤ 9223372036854775807
  | .b, v => ∃ x, v = .bool x
def LF.of (P : Program) (t : TypeId) : Option LF := match P.underlying t with
  | some (.int k) => some (.i k)
  | some .string => some .s
  | some .bool => some .b
  | _ => none
/-- a contract of a law, as the row wants it -/
theorem Spec.law {P : Program} {f : FuncId} {avs : List AV} {h0 : List AO} {post : Unit → List (Nat × AO)} {m : Nat} (sp : Spec P f avs h0 m (σ := Unit) (fun _ => True) (fun _ => .raw (.bool true)) post) (hro : h0.all AO.isRo = true) (ρ : Env) (w : World)
    (hh : ∀ (i : Nat) (o : AO), h0[i]? = some o → o.holds ρ (ρ i) w) (hal : ∀ i b, ρ i = some b → b < w.heap.size) (vs : Array Value) (hv : (AV.concs ρ avs).toArray = vs) :
    Calls P f vs w fun e w' => e = .returned (.bool true) ∧ Below w.heap.size w w' := by
  have hr : ∀ (i : Nat) (o : AO), h0[i]? = some o → o.isRo = true := fun i o h => List.all_eq_true.1 hro o (List.mem_of_getElem? h)
  have := sp ρ w hh (fun i j o b h hn => by rw [hr i o h] at hn; cases hn) (fun i b _ h => hal i b h)
  rw [hv] at this
  refine this.mono ?_
  rintro e w' ⟨s, ρ', _, _, he, _, hag, _⟩
  exact ⟨he, hag.os, hag.tape, hag.output, hag.size, fun b hb => hag.block b hb fun ⟨i, o, h, hn, _⟩ => by rw [hr i o h] at hn; cases hn⟩
end Go.Proofs.YtaieficgifingaaGreatDoor
