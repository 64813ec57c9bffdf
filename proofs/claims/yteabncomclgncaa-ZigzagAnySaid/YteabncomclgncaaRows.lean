/-
  No cell of these rows narrows 'for every input' (looked for: loops, veiled, ifaces, maps, wideKeys, modest, calm, conditions, laid).
  DERIVED. THE GIVEN ROWS OF THIS SEAT. 8 by the template 'for every input the law returns true; each argument reads behind the call as it read before'; 0 by the template 'total and deterministic' (their statements: YteabncomclgncaaTotals.lean).
  GIVEN WITH THE SEED: the statements are not yours to turn. If you find one false, say at which input.
  Laid BY PROGRAM, IN A SANDBOX (cutbox-rows.mjs): the forced cells as the released guide's own fill.sh prints them over the translation 0cac73db0861f5d7… (all of the seat's roots in one cut). By AI agents, Wed Nov 11 2026. No macro, syntax, notation, axiom, sorry.
-/
import Derived.Test.YteabncomclgncaaChecked
import GoSem.Claim
import GoSem.ClaimJoined
import GoSem.ClaimMapViews
import Derived.JoinedTies
import Derived.KernelRfl
namespace Go.Proofs.Yteabncomclgncaa
/- THE CELL 'sum', in the pinned program and in every row, IS THE sha256 OF THE DUMP (.gsa) THAT YteabncomclgncaaProg.lean LOADS. Nothing in Lean hashes anything: it is a label: what it is worth is what the hold of that sum in a sandbox is worth. -/
noncomputable def Try.pinned : Pinned := { name := "yteabncomclgncaa", sum := "0cac73db0861f5d7acc2486b83293d21ca82e9ae15bcd22590abd904df111508", checked := Try.checked }
namespace Rows
def none {H : Type} : Left H := { results := [], args := [] }

/-- 'treadlelaw9.ZigzagAny': WHATEVER THE INPUT: true; the input reads as it did. -/
def zigzagAnySpec : ChangeSpec := { name := "zigzagAny", fn := fun _ => fun
  | [d1, d2] => { results := [.lit (.bool true)], args := [d1, d2] }
  | _ => none }
def zigzagAnyRow : OpenClaim := { program := "yteabncomclgncaa", sum := "0cac73db0861f5d7acc2486b83293d21ca82e9ae15bcd22590abd904df111508", func := "treadle/treadlelaw9.ZigzagAny", spec := "zigzagAny", inPlace := ["internal/bytealg.abigen_runtime_cmpstring", "slices.overlaps[treadle/table.pair[*treadle/api.Slot[int]]]", "slices.overlaps[treadle/table.pair[*treadle/api.Slot[treadle/api.Proc]]]"], unfollowed := true, recurses := true, apart := false }
def ZigzagAnySaid : Prop := zigzagAnyRow.holds Try.pinned (OpenSpec.ofChange zigzagAnySpec)

/-- ITS FALSE NEIGHBOUR: 'it returns false'. Refute it at one input. -/
def zigzagAnyWrong : ChangeSpec := { name := "zigzagAny", fn := fun _ => fun
  | [d1, d2] => { results := [.lit (.bool false)], args := [d1, d2] }
  | _ => none }
def ZigzagAnyWrongFalsely : Prop := zigzagAnyRow.holds Try.pinned (OpenSpec.ofChange zigzagAnyWrong)

/-- 'treadlelaw9.ZigzagOrder': WHATEVER THE INPUT: true; the input reads as it did. -/
def zigzagOrderSpec : ChangeSpec := { name := "zigzagOrder", fn := fun _ => fun
  | [d1, d2, d3] => { results := [.lit (.bool true)], args := [d1, d2, d3] }
  | _ => none }
def zigzagOrderRow : OpenClaim := { program := "yteabncomclgncaa", sum := "0cac73db0861f5d7acc2486b83293d21ca82e9ae15bcd22590abd904df111508", func := "treadle/treadlelaw9.ZigzagOrder", spec := "zigzagOrder", inPlace := ["internal/bytealg.abigen_runtime_cmpstring", "slices.overlaps[treadle/table.pair[*treadle/api.Slot[int]]]"], unfollowed := true, recurses := true, apart := false }
def ZigzagOrderSaid : Prop := zigzagOrderRow.holds Try.pinned (OpenSpec.ofChange zigzagOrderSpec)

/-- ITS FALSE NEIGHBOUR: 'it returns false'. Refute it at one input. -/
def zigzagOrderWrong : ChangeSpec := { name := "zigzagOrder", fn := fun _ => fun
  | [d1, d2, d3] => { results := [.lit (.bool false)], args := [d1, d2, d3] }
  | _ => none }
def ZigzagOrderWrongFalsely : Prop := zigzagOrderRow.holds Try.pinned (OpenSpec.ofChange zigzagOrderWrong)

/-- 'treadlelaw9.ZigzagAgain': WHATEVER THE INPUT: true; the input reads as it did. -/
def zigzagAgainSpec : ChangeSpec := { name := "zigzagAgain", fn := fun _ => fun
  | [d1, d2, d3] => { results := [.lit (.bool true)], args := [d1, d2, d3] }
  | _ => none }
def zigzagAgainRow : OpenClaim := { program := "yteabncomclgncaa", sum := "0cac73db0861f5d7acc2486b83293d21ca82e9ae15bcd22590abd904df111508", func := "treadle/treadlelaw9.ZigzagAgain", spec := "zigzagAgain", inPlace := ["internal/bytealg.abigen_runtime_cmpstring", "slices.overlaps[treadle/table.pair[*treadle/api.Slot[int]]]"], unfollowed := true, recurses := true, apart := false }
def ZigzagAgainSaid : Prop := zigzagAgainRow.holds Try.pinned (OpenSpec.ofChange zigzagAgainSpec)

/-- ITS FALSE NEIGHBOUR: 'it returns false'. Refute it at one input. -/
def zigzagAgainWrong : ChangeSpec := { name := "zigzagAgain", fn := fun _ => fun
  | [d1, d2, d3] => { results := [.lit (.bool false)], args := [d1, d2, d3] }
  | _ => none }
def ZigzagAgainWrongFalsely : Prop := zigzagAgainRow.holds Try.pinned (OpenSpec.ofChange zigzagAgainWrong)

/-- 'treadlelaw9.ZigzagHolds': WHATEVER THE INPUT: true; the input reads as it did. -/
def zigzagHoldsSpec : ChangeSpec := { name := "zigzagHolds", fn := fun _ => fun
  | [d1, d2, d3] => { results := [.lit (.bool true)], args := [d1, d2, d3] }
  | _ => none }
def zigzagHoldsRow : OpenClaim := { program := "yteabncomclgncaa", sum := "0cac73db0861f5d7acc2486b83293d21ca82e9ae15bcd22590abd904df111508", func := "treadle/treadlelaw9.ZigzagHolds", spec := "zigzagHolds", inPlace := ["internal/bytealg.abigen_runtime_cmpstring", "slices.overlaps[treadle/table.pair[*treadle/api.Slot[int]]]"], unfollowed := true, recurses := true, apart := false }
def ZigzagHoldsSaid : Prop := zigzagHoldsRow.holds Try.pinned (OpenSpec.ofChange zigzagHoldsSpec)

/-- ITS FALSE NEIGHBOUR: 'it returns false'. Refute it at one input. -/
def zigzagHoldsWrong : ChangeSpec := { name := "zigzagHolds", fn := fun _ => fun
  | [d1, d2, d3] => { results := [.lit (.bool false)], args := [d1, d2, d3] }
  | _ => none }
def ZigzagHoldsWrongFalsely : Prop := zigzagHoldsRow.holds Try.pinned (OpenSpec.ofChange zigzagHoldsWrong)

/-- 'treadlelaw9.ZigzagPlays': WHATEVER THE INPUT: true; the input reads as it did. -/
def zigzagPlaysSpec : ChangeSpec := { name := "zigzagPlays", fn := fun _ => fun
  | [d] => { results := [.lit (.bool true)], args := [d] }
  | _ => none }
def zigzagPlaysRow : OpenClaim := { program := "yteabncomclgncaa", sum := "0cac73db0861f5d7acc2486b83293d21ca82e9ae15bcd22590abd904df111508", func := "treadle/treadlelaw9.ZigzagPlays", spec := "zigzagPlays", inPlace := ["internal/bytealg.abigen_runtime_cmpstring", "slices.overlaps[treadle/table.pair[*treadle/api.Slot[int]]]"], unfollowed := true, recurses := true, apart := false }
def ZigzagPlaysSaid : Prop := zigzagPlaysRow.holds Try.pinned (OpenSpec.ofChange zigzagPlaysSpec)

/-- ITS FALSE NEIGHBOUR: 'it returns false'. Refute it at one input. -/
def zigzagPlaysWrong : ChangeSpec := { name := "zigzagPlays", fn := fun _ => fun
  | [d] => { results := [.lit (.bool false)], args := [d] }
  | _ => none }
def ZigzagPlaysWrongFalsely : Prop := zigzagPlaysRow.holds Try.pinned (OpenSpec.ofChange zigzagPlaysWrong)

/-- 'treadlelaw9.ZigzagTwo': WHATEVER THE INPUT: true; the input reads as it did. -/
def zigzagTwoSpec : ChangeSpec := { name := "zigzagTwo", fn := fun _ => fun
  | [d1, d2] => { results := [.lit (.bool true)], args := [d1, d2] }
  | _ => none }
def zigzagTwoRow : OpenClaim := { program := "yteabncomclgncaa", sum := "0cac73db0861f5d7acc2486b83293d21ca82e9ae15bcd22590abd904df111508", func := "treadle/treadlelaw9.ZigzagTwo", spec := "zigzagTwo", inPlace := ["internal/bytealg.abigen_runtime_cmpstring", "slices.overlaps[treadle/table.pair[*treadle/api.Slot[int]]]"], unfollowed := true, recurses := true, apart := false }
def ZigzagTwoSaid : Prop := zigzagTwoRow.holds Try.pinned (OpenSpec.ofChange zigzagTwoSpec)

/-- ITS FALSE NEIGHBOUR: 'it returns false'. Refute it at one input. -/
def zigzagTwoWrong : ChangeSpec := { name := "zigzagTwo", fn := fun _ => fun
  | [d1, d2] => { results := [.lit (.bool false)], args := [d1, d2] }
  | _ => none }
def ZigzagTwoWrongFalsely : Prop := zigzagTwoRow.holds Try.pinned (OpenSpec.ofChange zigzagTwoWrong)

/-- 'treadlelaw9.ZigzagNothing': WHATEVER THE INPUT: true; the input reads as it did. -/
def zigzagNothingSpec : ChangeSpec := { name := "zigzagNothing", fn := fun _ => fun
  | [d1, d2, d3] => { results := [.lit (.bool true)], args := [d1, d2, d3] }
  | _ => none }
def zigzagNothingRow : OpenClaim := { program := "yteabncomclgncaa", sum := "0cac73db0861f5d7acc2486b83293d21ca82e9ae15bcd22590abd904df111508", func := "treadle/treadlelaw9.ZigzagNothing", spec := "zigzagNothing", inPlace := ["internal/bytealg.abigen_runtime_cmpstring", "slices.overlaps[treadle/table.pair[*treadle/api.Slot[int]]]"], unfollowed := true, recurses := true, apart := false }
def ZigzagNothingSaid : Prop := zigzagNothingRow.holds Try.pinned (OpenSpec.ofChange zigzagNothingSpec)

/-- ITS FALSE NEIGHBOUR: 'it returns false'. Refute it at one input. -/
def zigzagNothingWrong : ChangeSpec := { name := "zigzagNothing", fn := fun _ => fun
  | [d1, d2, d3] => { results := [.lit (.bool false)], args := [d1, d2, d3] }
  | _ => none }
def ZigzagNothingWrongFalsely : Prop := zigzagNothingRow.holds Try.pinned (OpenSpec.ofChange zigzagNothingWrong)

/-- 'treadlelaw9.ZigzagUnseen': WHATEVER THE INPUT: true; the input reads as it did. -/
def zigzagUnseenSpec : ChangeSpec := { name := "zigzagUnseen", fn := fun _ => fun
  | [d] => { results := [.lit (.bool true)], args := [d] }
  | _ => none }
def zigzagUnseenRow : OpenClaim := { program := "yteabncomclgncaa", sum := "0cac73db0861f5d7acc2486b83293d21ca82e9ae15bcd22590abd904df111508", func := "treadle/treadlelaw9.ZigzagUnseen", spec := "zigzagUnseen", inPlace := ["internal/bytealg.abigen_runtime_cmpstring", "slices.overlaps[treadle/table.pair[*treadle/api.Slot[int]]]"], unfollowed := true, recurses := true, apart := false }
def ZigzagUnseenSaid : Prop := zigzagUnseenRow.holds Try.pinned (OpenSpec.ofChange zigzagUnseenSpec)

/-- ITS FALSE NEIGHBOUR: 'it returns false'. Refute it at one input. -/
def zigzagUnseenWrong : ChangeSpec := { name := "zigzagUnseen", fn := fun _ => fun
  | [d] => { results := [.lit (.bool false)], args := [d] }
  | _ => none }
def ZigzagUnseenWrongFalsely : Prop := zigzagUnseenRow.holds Try.pinned (OpenSpec.ofChange zigzagUnseenWrong)

/- THE SECOND FORM. 'bulk': how many values and letters a reading holds, each counted each time it is reached (what is shared counts as often as it is met; a slice's spare places count too). A statement '..UptoSaid' is the law's where the arguments, and the package variables that the reading takes, are together of bulk at most 1048576: NARROWER than '..Said'. Prove '..Said' where nothing that the law and all that it calls make is longer than what came in: it says more and counts as full. Else prove '..UptoSaid'. A law counts once. -/
mutual
def uptoBulk {H : Type} : DataW H → Nat
  | .lit (.string bytes) => bytes.length + 1
  | .lit _ => 1
  | .nil => 1
  | .ptr d => uptoBulk d + 1
  | .slice elems spare => uptoBulkAll elems + uptoBulkAll spare + 1
  | .agg parts => uptoBulkAll parts + 1
  | .iface _ d => uptoBulk d + 1
  | .map entries => uptoBulkEntries entries + 1
  | .held _ => 1
def uptoBulkAll {H : Type} : List (DataW H) → Nat
  | [] => 0
  | d :: r => uptoBulk d + uptoBulkAll r
def uptoBulkEntries {H : Type} : List (Lit × DataW H) → Nat
  | [] => 0
  | x :: r => uptoBulkEntry x + uptoBulkEntries r
def uptoBulkEntry {H : Type} : Lit × DataW H → Nat
  | (.string bytes, d) => bytes.length + uptoBulk d + 1
  | (_, d) => uptoBulk d + 1
 end
def uptoSmall : (H : Type) → List (DataW H) → Bool := fun _ ds => decide (uptoBulkAll ds ≤ 1048576)
def OpenSpec.upto (s : _root_.Go.ChangeSpec) : _root_.Go.OpenSpec := { _root_.Go.OpenSpec.ofChange s with cond := some uptoSmall }

/-- 'treadlelaw9.ZigzagAny', WHERE WHAT IT READS IS OF BULK AT MOST 1048576: true; the input reads as it did. -/
def zigzagAnyUptoRow : OpenClaim := { program := "yteabncomclgncaa", sum := "0cac73db0861f5d7acc2486b83293d21ca82e9ae15bcd22590abd904df111508", func := "treadle/treadlelaw9.ZigzagAny", spec := "zigzagAny", inPlace := ["internal/bytealg.abigen_runtime_cmpstring", "slices.overlaps[treadle/table.pair[*treadle/api.Slot[int]]]", "slices.overlaps[treadle/table.pair[*treadle/api.Slot[treadle/api.Proc]]]"], unfollowed := true, recurses := true, apart := false, narrowed := true }
def ZigzagAnyUptoSaid : Prop := zigzagAnyUptoRow.holds Try.pinned (OpenSpec.upto zigzagAnySpec)

/-- 'treadlelaw9.ZigzagOrder', WHERE WHAT IT READS IS OF BULK AT MOST 1048576: true; the input reads as it did. -/
def zigzagOrderUptoRow : OpenClaim := { program := "yteabncomclgncaa", sum := "0cac73db0861f5d7acc2486b83293d21ca82e9ae15bcd22590abd904df111508", func := "treadle/treadlelaw9.ZigzagOrder", spec := "zigzagOrder", inPlace := ["internal/bytealg.abigen_runtime_cmpstring", "slices.overlaps[treadle/table.pair[*treadle/api.Slot[int]]]"], unfollowed := true, recurses := true, apart := false, narrowed := true }
def ZigzagOrderUptoSaid : Prop := zigzagOrderUptoRow.holds Try.pinned (OpenSpec.upto zigzagOrderSpec)

/-- 'treadlelaw9.ZigzagAgain', WHERE WHAT IT READS IS OF BULK AT MOST 1048576: true; the input reads as it did. -/
def zigzagAgainUptoRow : OpenClaim := { program := "yteabncomclgncaa", sum := "0cac73db0861f5d7acc2486b83293d21ca82e9ae15bcd22590abd904df111508", func := "treadle/treadlelaw9.ZigzagAgain", spec := "zigzagAgain", inPlace := ["internal/bytealg.abigen_runtime_cmpstring", "slices.overlaps[treadle/table.pair[*treadle/api.Slot[int]]]"], unfollowed := true, recurses := true, apart := false, narrowed := true }
def ZigzagAgainUptoSaid : Prop := zigzagAgainUptoRow.holds Try.pinned (OpenSpec.upto zigzagAgainSpec)

/-- 'treadlelaw9.ZigzagHolds', WHERE WHAT IT READS IS OF BULK AT MOST 1048576: true; the input reads as it did. -/
def zigzagHoldsUptoRow : OpenClaim := { program := "yteabncomclgncaa", sum := "0cac73db0861f5d7acc2486b83293d21ca82e9ae15bcd22590abd904df111508", func := "treadle/treadlelaw9.ZigzagHolds", spec := "zigzagHolds", inPlace := ["internal/bytealg.abigen_runtime_cmpstring", "slices.overlaps[treadle/table.pair[*treadle/api.Slot[int]]]"], unfollowed := true, recurses := true, apart := false, narrowed := true }
def ZigzagHoldsUptoSaid : Prop := zigzagHoldsUptoRow.holds Try.pinned (OpenSpec.upto zigzagHoldsSpec)

/-- 'treadlelaw9.ZigzagPlays', WHERE WHAT IT READS IS OF BULK AT MOST 1048576: true; the input reads as it did. -/
def zigzagPlaysUptoRow : OpenClaim := { program := "yteabncomclgncaa", sum := "0cac73db0861f5d7acc2486b83293d21ca82e9ae15bcd22590abd904df111508", func := "treadle/treadlelaw9.ZigzagPlays", spec := "zigzagPlays", inPlace := ["internal/bytealg.abigen_runtime_cmpstring", "slices.overlaps[treadle/table.pair[*treadle/api.Slot[int]]]"], unfollowed := true, recurses := true, apart := false, narrowed := true }
def ZigzagPlaysUptoSaid : Prop := zigzagPlaysUptoRow.holds Try.pinned (OpenSpec.upto zigzagPlaysSpec)

/-- 'treadlelaw9.ZigzagTwo', WHERE WHAT IT READS IS OF BULK AT MOST 1048576: true; the input reads as it did. -/
def zigzagTwoUptoRow : OpenClaim := { program := "yteabncomclgncaa", sum := "0cac73db0861f5d7acc2486b83293d21ca82e9ae15bcd22590abd904df111508", func := "treadle/treadlelaw9.ZigzagTwo", spec := "zigzagTwo", inPlace := ["internal/bytealg.abigen_runtime_cmpstring", "slices.overlaps[treadle/table.pair[*treadle/api.Slot[int]]]"], unfollowed := true, recurses := true, apart := false, narrowed := true }
def ZigzagTwoUptoSaid : Prop := zigzagTwoUptoRow.holds Try.pinned (OpenSpec.upto zigzagTwoSpec)

/-- 'treadlelaw9.ZigzagNothing', WHERE WHAT IT READS IS OF BULK AT MOST 1048576: true; the input reads as it did. -/
def zigzagNothingUptoRow : OpenClaim := { program := "yteabncomclgncaa", sum := "0cac73db0861f5d7acc2486b83293d21ca82e9ae15bcd22590abd904df111508", func := "treadle/treadlelaw9.ZigzagNothing", spec := "zigzagNothing", inPlace := ["internal/bytealg.abigen_runtime_cmpstring", "slices.overlaps[treadle/table.pair[*treadle/api.Slot[int]]]"], unfollowed := true, recurses := true, apart := false, narrowed := true }
def ZigzagNothingUptoSaid : Prop := zigzagNothingUptoRow.holds Try.pinned (OpenSpec.upto zigzagNothingSpec)

/-- 'treadlelaw9.ZigzagUnseen', WHERE WHAT IT READS IS OF BULK AT MOST 1048576: true; the input reads as it did. -/
def zigzagUnseenUptoRow : OpenClaim := { program := "yteabncomclgncaa", sum := "0cac73db0861f5d7acc2486b83293d21ca82e9ae15bcd22590abd904df111508", func := "treadle/treadlelaw9.ZigzagUnseen", spec := "zigzagUnseen", inPlace := ["internal/bytealg.abigen_runtime_cmpstring", "slices.overlaps[treadle/table.pair[*treadle/api.Slot[int]]]"], unfollowed := true, recurses := true, apart := false, narrowed := true }
def ZigzagUnseenUptoSaid : Prop := zigzagUnseenUptoRow.holds Try.pinned (OpenSpec.upto zigzagUnseenSpec)

end Rows
end Go.Proofs.Yteabncomclgncaa
