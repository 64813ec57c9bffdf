/-
  No cell of these rows narrows 'for every input' (looked for: loops, veiled, ifaces, maps, wideKeys, modest, calm, conditions, laid).
  DERIVED. THE GIVEN ROWS OF THIS SEAT. 8 by the template 'for every input the law returns true; each argument reads behind the call as it read before'; 0 by the template 'total and deterministic' (their statements: YtggnjgnjgnlchaaTotals.lean).
  GIVEN WITH THE SEED: the statements are not yours to turn. If you find one false, say at which input.
  Laid BY PROGRAM, IN A SANDBOX (cutbox-rows.mjs): the forced cells as the released guide's own fill.sh prints them over the translation d1b116a62b929262… (all of the seat's roots in one cut). By AI agents, Wed Nov 11 2026. No macro, syntax, notation, axiom, sorry.
-/
import Derived.Test.YtggnjgnjgnlchaaChecked
import GoSem.Claim
import GoSem.ClaimJoined
import GoSem.ClaimMapViews
import Derived.JoinedTies
import Derived.KernelRfl
namespace Go.Proofs.Ytggnjgnjgnlchaa
/- THE CELL 'sum', in the pinned program and in every row, IS THE sha256 OF THE DUMP (.gsa) THAT YtggnjgnjgnlchaaProg.lean LOADS. Nothing in Lean hashes anything: it is a label: what it is worth is what the hold of that sum in a sandbox is worth. -/
noncomputable def Try.pinned : Pinned := { name := "ytggnjgnjgnlchaa", sum := "d1b116a62b92926248e0f55f80eb33604daf317177ddc4c6d5d784db2a0d39fe", checked := Try.checked }
namespace Rows
def none {H : Type} : Left H := { results := [], args := [] }

/-- 'treadlelaw4.FrameSeals': WHATEVER THE INPUT: true; the input reads as it did. -/
def frameSealsSpec : ChangeSpec := { name := "frameSeals", fn := fun _ => fun
  | [d1, d2, d3] => { results := [.lit (.bool true)], args := [d1, d2, d3] }
  | _ => none }
def frameSealsRow : OpenClaim := { program := "ytggnjgnjgnlchaa", sum := "d1b116a62b92926248e0f55f80eb33604daf317177ddc4c6d5d784db2a0d39fe", func := "treadle/treadlelaw4.FrameSeals", spec := "frameSeals", unfollowed := true, recurses := true, apart := false }
def FrameSealsSaid : Prop := frameSealsRow.holds Try.pinned (OpenSpec.ofChange frameSealsSpec)

/-- ITS FALSE NEIGHBOUR: 'it returns false'. Refute it at one input. -/
def frameSealsWrong : ChangeSpec := { name := "frameSeals", fn := fun _ => fun
  | [d1, d2, d3] => { results := [.lit (.bool false)], args := [d1, d2, d3] }
  | _ => none }
def FrameSealsWrongFalsely : Prop := frameSealsRow.holds Try.pinned (OpenSpec.ofChange frameSealsWrong)

/-- 'treadlelaw4.FrameNexts': WHATEVER THE INPUT: true; the input reads as it did. -/
def frameNextsSpec : ChangeSpec := { name := "frameNexts", fn := fun _ => fun
  | [d1, d2] => { results := [.lit (.bool true)], args := [d1, d2] }
  | _ => none }
def frameNextsRow : OpenClaim := { program := "ytggnjgnjgnlchaa", sum := "d1b116a62b92926248e0f55f80eb33604daf317177ddc4c6d5d784db2a0d39fe", func := "treadle/treadlelaw4.FrameNexts", spec := "frameNexts", unfollowed := true, recurses := true, apart := false }
def FrameNextsSaid : Prop := frameNextsRow.holds Try.pinned (OpenSpec.ofChange frameNextsSpec)

/-- ITS FALSE NEIGHBOUR: 'it returns false'. Refute it at one input. -/
def frameNextsWrong : ChangeSpec := { name := "frameNexts", fn := fun _ => fun
  | [d1, d2] => { results := [.lit (.bool false)], args := [d1, d2] }
  | _ => none }
def FrameNextsWrongFalsely : Prop := frameNextsRow.holds Try.pinned (OpenSpec.ofChange frameNextsWrong)

/-- 'treadlelaw4.FrameScans': WHATEVER THE INPUT: true; the input reads as it did. -/
def frameScansSpec : ChangeSpec := { name := "frameScans", fn := fun _ => fun
  | [d1, d2] => { results := [.lit (.bool true)], args := [d1, d2] }
  | _ => none }
def frameScansRow : OpenClaim := { program := "ytggnjgnjgnlchaa", sum := "d1b116a62b92926248e0f55f80eb33604daf317177ddc4c6d5d784db2a0d39fe", func := "treadle/treadlelaw4.FrameScans", spec := "frameScans", unfollowed := true, recurses := true, apart := false }
def FrameScansSaid : Prop := frameScansRow.holds Try.pinned (OpenSpec.ofChange frameScansSpec)

/-- ITS FALSE NEIGHBOUR: 'it returns false'. Refute it at one input. -/
def frameScansWrong : ChangeSpec := { name := "frameScans", fn := fun _ => fun
  | [d1, d2] => { results := [.lit (.bool false)], args := [d1, d2] }
  | _ => none }
def FrameScansWrongFalsely : Prop := frameScansRow.holds Try.pinned (OpenSpec.ofChange frameScansWrong)

/-- 'treadlelaw4.FrameBack': WHATEVER THE INPUT: true; the input reads as it did. -/
def frameBackSpec : ChangeSpec := { name := "frameBack", fn := fun _ => fun
  | [d1, d2] => { results := [.lit (.bool true)], args := [d1, d2] }
  | _ => none }
def frameBackRow : OpenClaim := { program := "ytggnjgnjgnlchaa", sum := "d1b116a62b92926248e0f55f80eb33604daf317177ddc4c6d5d784db2a0d39fe", func := "treadle/treadlelaw4.FrameBack", spec := "frameBack", unfollowed := true, recurses := true, apart := false }
def FrameBackSaid : Prop := frameBackRow.holds Try.pinned (OpenSpec.ofChange frameBackSpec)

/-- ITS FALSE NEIGHBOUR: 'it returns false'. Refute it at one input. -/
def frameBackWrong : ChangeSpec := { name := "frameBack", fn := fun _ => fun
  | [d1, d2] => { results := [.lit (.bool false)], args := [d1, d2] }
  | _ => none }
def FrameBackWrongFalsely : Prop := frameBackRow.holds Try.pinned (OpenSpec.ofChange frameBackWrong)

/-- 'treadlelaw4.FrameTorn': WHATEVER THE INPUT: true; the input reads as it did. -/
def frameTornSpec : ChangeSpec := { name := "frameTorn", fn := fun _ => fun
  | [d1, d2] => { results := [.lit (.bool true)], args := [d1, d2] }
  | _ => none }
def frameTornRow : OpenClaim := { program := "ytggnjgnjgnlchaa", sum := "d1b116a62b92926248e0f55f80eb33604daf317177ddc4c6d5d784db2a0d39fe", func := "treadle/treadlelaw4.FrameTorn", spec := "frameTorn", unfollowed := true, recurses := true, apart := false }
def FrameTornSaid : Prop := frameTornRow.holds Try.pinned (OpenSpec.ofChange frameTornSpec)

/-- ITS FALSE NEIGHBOUR: 'it returns false'. Refute it at one input. -/
def frameTornWrong : ChangeSpec := { name := "frameTorn", fn := fun _ => fun
  | [d1, d2] => { results := [.lit (.bool false)], args := [d1, d2] }
  | _ => none }
def FrameTornWrongFalsely : Prop := frameTornRow.holds Try.pinned (OpenSpec.ofChange frameTornWrong)

/-- 'treadlelaw4.FrameWholes': WHATEVER THE INPUT: true; the input reads as it did. -/
def frameWholesSpec : ChangeSpec := { name := "frameWholes", fn := fun _ => fun
  | [d1, d2] => { results := [.lit (.bool true)], args := [d1, d2] }
  | _ => none }
def frameWholesRow : OpenClaim := { program := "ytggnjgnjgnlchaa", sum := "d1b116a62b92926248e0f55f80eb33604daf317177ddc4c6d5d784db2a0d39fe", func := "treadle/treadlelaw4.FrameWholes", spec := "frameWholes", unfollowed := true, recurses := true, apart := false }
def FrameWholesSaid : Prop := frameWholesRow.holds Try.pinned (OpenSpec.ofChange frameWholesSpec)

/-- ITS FALSE NEIGHBOUR: 'it returns false'. Refute it at one input. -/
def frameWholesWrong : ChangeSpec := { name := "frameWholes", fn := fun _ => fun
  | [d1, d2] => { results := [.lit (.bool false)], args := [d1, d2] }
  | _ => none }
def FrameWholesWrongFalsely : Prop := frameWholesRow.holds Try.pinned (OpenSpec.ofChange frameWholesWrong)

/-- 'treadlelaw4.FrameOwn': WHATEVER THE INPUT: true; the input reads as it did. -/
def frameOwnSpec : ChangeSpec := { name := "frameOwn", fn := fun _ => fun
  | [d1, d2] => { results := [.lit (.bool true)], args := [d1, d2] }
  | _ => none }
def frameOwnRow : OpenClaim := { program := "ytggnjgnjgnlchaa", sum := "d1b116a62b92926248e0f55f80eb33604daf317177ddc4c6d5d784db2a0d39fe", func := "treadle/treadlelaw4.FrameOwn", spec := "frameOwn", unfollowed := true, recurses := true, apart := false }
def FrameOwnSaid : Prop := frameOwnRow.holds Try.pinned (OpenSpec.ofChange frameOwnSpec)

/-- ITS FALSE NEIGHBOUR: 'it returns false'. Refute it at one input. -/
def frameOwnWrong : ChangeSpec := { name := "frameOwn", fn := fun _ => fun
  | [d1, d2] => { results := [.lit (.bool false)], args := [d1, d2] }
  | _ => none }
def FrameOwnWrongFalsely : Prop := frameOwnRow.holds Try.pinned (OpenSpec.ofChange frameOwnWrong)

/-- 'treadlelaw4.FrameNested': WHATEVER THE INPUT: true; the input reads as it did. -/
def frameNestedSpec : ChangeSpec := { name := "frameNested", fn := fun _ => fun
  | [d1, d2] => { results := [.lit (.bool true)], args := [d1, d2] }
  | _ => none }
def frameNestedRow : OpenClaim := { program := "ytggnjgnjgnlchaa", sum := "d1b116a62b92926248e0f55f80eb33604daf317177ddc4c6d5d784db2a0d39fe", func := "treadle/treadlelaw4.FrameNested", spec := "frameNested", unfollowed := true, recurses := true, apart := false }
def FrameNestedSaid : Prop := frameNestedRow.holds Try.pinned (OpenSpec.ofChange frameNestedSpec)

/-- ITS FALSE NEIGHBOUR: 'it returns false'. Refute it at one input. -/
def frameNestedWrong : ChangeSpec := { name := "frameNested", fn := fun _ => fun
  | [d1, d2] => { results := [.lit (.bool false)], args := [d1, d2] }
  | _ => none }
def FrameNestedWrongFalsely : Prop := frameNestedRow.holds Try.pinned (OpenSpec.ofChange frameNestedWrong)

/- THE SECOND FORM. 'bulk': how many values and letters a reading holds, each counted each time it is reached (what is shared counts as often as it is met; a slice's spare places count too). A statement '..UptoSaid' is the law's where the arguments, and the package variables that the reading takes, are together of bulk at most 1048576: NARROWER than '..Said'. Prove '..Said' where nothing that the law and all that it calls make is longer than what came in: it says more and counts as full. Else prove '..UptoSaid'. A law counts once. -/
mutual
def uptoBulk {H : Type} : DataW H → Nat
  | .lit (.string bytes) => bytes.length + 1
  | .lit _ => 1
  | .nil => 1
  | .ptr d => uptoBulk d + 1
  | .slice elems spare => uptoBulkAll elems + uptoBulkAll spare + 1
  | .agg parts => uptoBulkAll parts + 1
  | .iface _ d => uptoBulk d + 1
  | .map entries => uptoBulkEntries entries + 1
  | .held _ => 1
def uptoBulkAll {H : Type} : List (DataW H) → Nat
  | [] => 0
  | d :: r => uptoBulk d + uptoBulkAll r
def uptoBulkEntries {H : Type} : List (Lit × DataW H) → Nat
  | [] => 0
  | x :: r => uptoBulkEntry x + uptoBulkEntries r
def uptoBulkEntry {H : Type} : Lit × DataW H → Nat
  | (.string bytes, d) => bytes.length + uptoBulk d + 1
  | (_, d) => uptoBulk d + 1
 end
def uptoSmall : (H : Type) → List (DataW H) → Bool := fun _ ds => decide (uptoBulkAll ds ≤ 1048576)
def OpenSpec.upto (s : _root_.Go.ChangeSpec) : _root_.Go.OpenSpec := { _root_.Go.OpenSpec.ofChange s with cond := some uptoSmall }

/-- 'treadlelaw4.FrameSeals', WHERE WHAT IT READS IS OF BULK AT MOST 1048576: true; the input reads as it did. -/
def frameSealsUptoRow : OpenClaim := { program := "ytggnjgnjgnlchaa", sum := "d1b116a62b92926248e0f55f80eb33604daf317177ddc4c6d5d784db2a0d39fe", func := "treadle/treadlelaw4.FrameSeals", spec := "frameSeals", unfollowed := true, recurses := true, apart := false, narrowed := true }
def FrameSealsUptoSaid : Prop := frameSealsUptoRow.holds Try.pinned (OpenSpec.upto frameSealsSpec)

/-- 'treadlelaw4.FrameNexts', WHERE WHAT IT READS IS OF BULK AT MOST 1048576: true; the input reads as it did. -/
def frameNextsUptoRow : OpenClaim := { program := "ytggnjgnjgnlchaa", sum := "d1b116a62b92926248e0f55f80eb33604daf317177ddc4c6d5d784db2a0d39fe", func := "treadle/treadlelaw4.FrameNexts", spec := "frameNexts", unfollowed := true, recurses := true, apart := false, narrowed := true }
def FrameNextsUptoSaid : Prop := frameNextsUptoRow.holds Try.pinned (OpenSpec.upto frameNextsSpec)

/-- 'treadlelaw4.FrameScans', WHERE WHAT IT READS IS OF BULK AT MOST 1048576: true; the input reads as it did. -/
def frameScansUptoRow : OpenClaim := { program := "ytggnjgnjgnlchaa", sum := "d1b116a62b92926248e0f55f80eb33604daf317177ddc4c6d5d784db2a0d39fe", func := "treadle/treadlelaw4.FrameScans", spec := "frameScans", unfollowed := true, recurses := true, apart := false, narrowed := true }
def FrameScansUptoSaid : Prop := frameScansUptoRow.holds Try.pinned (OpenSpec.upto frameScansSpec)

/-- 'treadlelaw4.FrameBack', WHERE WHAT IT READS IS OF BULK AT MOST 1048576: true; the input reads as it did. -/
def frameBackUptoRow : OpenClaim := { program := "ytggnjgnjgnlchaa", sum := "d1b116a62b92926248e0f55f80eb33604daf317177ddc4c6d5d784db2a0d39fe", func := "treadle/treadlelaw4.FrameBack", spec := "frameBack", unfollowed := true, recurses := true, apart := false, narrowed := true }
def FrameBackUptoSaid : Prop := frameBackUptoRow.holds Try.pinned (OpenSpec.upto frameBackSpec)

/-- 'treadlelaw4.FrameTorn', WHERE WHAT IT READS IS OF BULK AT MOST 1048576: true; the input reads as it did. -/
def frameTornUptoRow : OpenClaim := { program := "ytggnjgnjgnlchaa", sum := "d1b116a62b92926248e0f55f80eb33604daf317177ddc4c6d5d784db2a0d39fe", func := "treadle/treadlelaw4.FrameTorn", spec := "frameTorn", unfollowed := true, recurses := true, apart := false, narrowed := true }
def FrameTornUptoSaid : Prop := frameTornUptoRow.holds Try.pinned (OpenSpec.upto frameTornSpec)

/-- 'treadlelaw4.FrameWholes', WHERE WHAT IT READS IS OF BULK AT MOST 1048576: true; the input reads as it did. -/
def frameWholesUptoRow : OpenClaim := { program := "ytggnjgnjgnlchaa", sum := "d1b116a62b92926248e0f55f80eb33604daf317177ddc4c6d5d784db2a0d39fe", func := "treadle/treadlelaw4.FrameWholes", spec := "frameWholes", unfollowed := true, recurses := true, apart := false, narrowed := true }
def FrameWholesUptoSaid : Prop := frameWholesUptoRow.holds Try.pinned (OpenSpec.upto frameWholesSpec)

/-- 'treadlelaw4.FrameOwn', WHERE WHAT IT READS IS OF BULK AT MOST 1048576: true; the input reads as it did. -/
def frameOwnUptoRow : OpenClaim := { program := "ytggnjgnjgnlchaa", sum := "d1b116a62b92926248e0f55f80eb33604daf317177ddc4c6d5d784db2a0d39fe", func := "treadle/treadlelaw4.FrameOwn", spec := "frameOwn", unfollowed := true, recurses := true, apart := false, narrowed := true }
def FrameOwnUptoSaid : Prop := frameOwnUptoRow.holds Try.pinned (OpenSpec.upto frameOwnSpec)

/-- 'treadlelaw4.FrameNested', WHERE WHAT IT READS IS OF BULK AT MOST 1048576: true; the input reads as it did. -/
def frameNestedUptoRow : OpenClaim := { program := "ytggnjgnjgnlchaa", sum := "d1b116a62b92926248e0f55f80eb33604daf317177ddc4c6d5d784db2a0d39fe", func := "treadle/treadlelaw4.FrameNested", spec := "frameNested", unfollowed := true, recurses := true, apart := false, narrowed := true }
def FrameNestedUptoSaid : Prop := frameNestedUptoRow.holds Try.pinned (OpenSpec.upto frameNestedSpec)

end Rows
end Go.Proofs.Ytggnjgnjgnlchaa
