/-
  No cell of these rows narrows 'for every input' (looked for: loops, veiled, ifaces, maps, wideKeys, modest, calm, conditions, laid).
  DERIVED. THE GIVEN ROWS OF THIS SEAT. 10 by the template 'for every input the law returns true; each argument reads behind the call as it read before'; 0 by the template 'total and deterministic' (their statements: YtlcojlcackkhpaaTotals.lean).
  GIVEN WITH THE SEED: the statements are not yours to turn. If you find one false, say at which input.
  Laid BY PROGRAM, IN A SANDBOX (cutbox-rows.mjs): the forced cells as the released guide's own fill.sh prints them over the translation 6f2cd0eebaee48d9… (all of the seat's roots in one cut). By AI agents, Wed Nov 11 2026. No macro, syntax, notation, axiom, sorry.
-/
import Derived.Test.YtlcojlcackkhpaaChecked
import GoSem.Claim
import GoSem.ClaimJoined
import GoSem.ClaimMapViews
import Derived.JoinedTies
import Derived.KernelRfl
namespace Go.Proofs.Ytlcojlcackkhpaa
/- THE CELL 'sum', in the pinned program and in every row, IS THE sha256 OF THE DUMP (.gsa) THAT YtlcojlcackkhpaaProg.lean LOADS. Nothing in Lean hashes anything: it is a label: what it is worth is what the hold of that sum in a sandbox is worth. -/
noncomputable def Try.pinned : Pinned := { name := "ytlcojlcackkhpaa", sum := "6f2cd0eebaee48d920516f61a7b7aa2a4245c0206534f283960cdb7edbead34a", checked := Try.checked }
namespace Rows
def none {H : Type} : Left H := { results := [], args := [] }

/-- 'treadlelaw8.TableKeeps': WHATEVER THE INPUT: true; the input reads as it did. -/
def tableKeepsSpec : ChangeSpec := { name := "tableKeeps", fn := fun _ => fun
  | [d1, d2, d3] => { results := [.lit (.bool true)], args := [d1, d2, d3] }
  | _ => none }
def tableKeepsRow : OpenClaim := { program := "ytlcojlcackkhpaa", sum := "6f2cd0eebaee48d920516f61a7b7aa2a4245c0206534f283960cdb7edbead34a", func := "treadle/treadlelaw8.TableKeeps", spec := "tableKeeps", inPlace := ["internal/bytealg.abigen_runtime_cmpstring", "slices.overlaps[treadle/table.pair[*treadle/treadlelaw8.Thing]]", "slices.overlaps[treadle/table.pair[treadle/treadlelaw8.Thing]]", "slices.overlaps[treadle/table.pair[int]]"], unfollowed := true, recurses := true, apart := false }
def TableKeepsSaid : Prop := tableKeepsRow.holds Try.pinned (OpenSpec.ofChange tableKeepsSpec)

/-- ITS FALSE NEIGHBOUR: 'it returns false'. Refute it at one input. -/
def tableKeepsWrong : ChangeSpec := { name := "tableKeeps", fn := fun _ => fun
  | [d1, d2, d3] => { results := [.lit (.bool false)], args := [d1, d2, d3] }
  | _ => none }
def TableKeepsWrongFalsely : Prop := tableKeepsRow.holds Try.pinned (OpenSpec.ofChange tableKeepsWrong)

/-- 'treadlelaw8.TablePlays': WHATEVER THE INPUT: true; the input reads as it did. -/
def tablePlaysSpec : ChangeSpec := { name := "tablePlays", fn := fun _ => fun
  | [d1, d2] => { results := [.lit (.bool true)], args := [d1, d2] }
  | _ => none }
def tablePlaysRow : OpenClaim := { program := "ytlcojlcackkhpaa", sum := "6f2cd0eebaee48d920516f61a7b7aa2a4245c0206534f283960cdb7edbead34a", func := "treadle/treadlelaw8.TablePlays", spec := "tablePlays", inPlace := ["internal/bytealg.abigen_runtime_cmpstring", "slices.overlaps[treadle/table.pair[int]]"], unfollowed := true, recurses := true, apart := false }
def TablePlaysSaid : Prop := tablePlaysRow.holds Try.pinned (OpenSpec.ofChange tablePlaysSpec)

/-- ITS FALSE NEIGHBOUR: 'it returns false'. Refute it at one input. -/
def tablePlaysWrong : ChangeSpec := { name := "tablePlays", fn := fun _ => fun
  | [d1, d2] => { results := [.lit (.bool false)], args := [d1, d2] }
  | _ => none }
def TablePlaysWrongFalsely : Prop := tablePlaysRow.holds Try.pinned (OpenSpec.ofChange tablePlaysWrong)

/-- 'treadlelaw8.TableRanges': WHATEVER THE INPUT: true; the input reads as it did. -/
def tableRangesSpec : ChangeSpec := { name := "tableRanges", fn := fun _ => fun
  | [d1, d2, d3, d4, d5, d6] => { results := [.lit (.bool true)], args := [d1, d2, d3, d4, d5, d6] }
  | _ => none }
def tableRangesRow : OpenClaim := { program := "ytlcojlcackkhpaa", sum := "6f2cd0eebaee48d920516f61a7b7aa2a4245c0206534f283960cdb7edbead34a", func := "treadle/treadlelaw8.TableRanges", spec := "tableRanges", inPlace := ["internal/bytealg.abigen_runtime_cmpstring", "slices.overlaps[treadle/table.pair[int]]"], unfollowed := true, recurses := true, apart := false }
def TableRangesSaid : Prop := tableRangesRow.holds Try.pinned (OpenSpec.ofChange tableRangesSpec)

/-- ITS FALSE NEIGHBOUR: 'it returns false'. Refute it at one input. -/
def tableRangesWrong : ChangeSpec := { name := "tableRanges", fn := fun _ => fun
  | [d1, d2, d3, d4, d5, d6] => { results := [.lit (.bool false)], args := [d1, d2, d3, d4, d5, d6] }
  | _ => none }
def TableRangesWrongFalsely : Prop := tableRangesRow.holds Try.pinned (OpenSpec.ofChange tableRangesWrong)

/-- 'treadlelaw8.TableNested': WHATEVER THE INPUT: true; the input reads as it did. -/
def tableNestedSpec : ChangeSpec := { name := "tableNested", fn := fun _ => fun
  | [d1, d2, d3, d4] => { results := [.lit (.bool true)], args := [d1, d2, d3, d4] }
  | _ => none }
def tableNestedRow : OpenClaim := { program := "ytlcojlcackkhpaa", sum := "6f2cd0eebaee48d920516f61a7b7aa2a4245c0206534f283960cdb7edbead34a", func := "treadle/treadlelaw8.TableNested", spec := "tableNested", inPlace := ["internal/bytealg.abigen_runtime_cmpstring", "slices.overlaps[treadle/table.pair[int]]"], unfollowed := true, recurses := true, apart := false }
def TableNestedSaid : Prop := tableNestedRow.holds Try.pinned (OpenSpec.ofChange tableNestedSpec)

/-- ITS FALSE NEIGHBOUR: 'it returns false'. Refute it at one input. -/
def tableNestedWrong : ChangeSpec := { name := "tableNested", fn := fun _ => fun
  | [d1, d2, d3, d4] => { results := [.lit (.bool false)], args := [d1, d2, d3, d4] }
  | _ => none }
def TableNestedWrongFalsely : Prop := tableNestedRow.holds Try.pinned (OpenSpec.ofChange tableNestedWrong)

/-- 'treadlelaw8.TableTwo': WHATEVER THE INPUT: true; the input reads as it did. -/
def tableTwoSpec : ChangeSpec := { name := "tableTwo", fn := fun _ => fun
  | [d1, d2] => { results := [.lit (.bool true)], args := [d1, d2] }
  | _ => none }
def tableTwoRow : OpenClaim := { program := "ytlcojlcackkhpaa", sum := "6f2cd0eebaee48d920516f61a7b7aa2a4245c0206534f283960cdb7edbead34a", func := "treadle/treadlelaw8.TableTwo", spec := "tableTwo", inPlace := ["internal/bytealg.abigen_runtime_cmpstring", "slices.overlaps[treadle/table.pair[int]]"], unfollowed := true, recurses := true, apart := false }
def TableTwoSaid : Prop := tableTwoRow.holds Try.pinned (OpenSpec.ofChange tableTwoSpec)

/-- ITS FALSE NEIGHBOUR: 'it returns false'. Refute it at one input. -/
def tableTwoWrong : ChangeSpec := { name := "tableTwo", fn := fun _ => fun
  | [d1, d2] => { results := [.lit (.bool false)], args := [d1, d2] }
  | _ => none }
def TableTwoWrongFalsely : Prop := tableTwoRow.holds Try.pinned (OpenSpec.ofChange tableTwoWrong)

/-- 'treadlelaw8.TableNothing': WHATEVER THE INPUT: true; the input reads as it did. -/
def tableNothingSpec : ChangeSpec := { name := "tableNothing", fn := fun _ => fun
  | [d] => { results := [.lit (.bool true)], args := [d] }
  | _ => none }
def tableNothingRow : OpenClaim := { program := "ytlcojlcackkhpaa", sum := "6f2cd0eebaee48d920516f61a7b7aa2a4245c0206534f283960cdb7edbead34a", func := "treadle/treadlelaw8.TableNothing", spec := "tableNothing", inPlace := ["internal/bytealg.abigen_runtime_cmpstring", "slices.overlaps[treadle/table.pair[int]]"], unfollowed := true, recurses := true, apart := false }
def TableNothingSaid : Prop := tableNothingRow.holds Try.pinned (OpenSpec.ofChange tableNothingSpec)

/-- ITS FALSE NEIGHBOUR: 'it returns false'. Refute it at one input. -/
def tableNothingWrong : ChangeSpec := { name := "tableNothing", fn := fun _ => fun
  | [d] => { results := [.lit (.bool false)], args := [d] }
  | _ => none }
def TableNothingWrongFalsely : Prop := tableNothingRow.holds Try.pinned (OpenSpec.ofChange tableNothingWrong)

/-- 'treadlelaw8.TableOrder': WHATEVER THE INPUT: true; the input reads as it did. -/
def tableOrderSpec : ChangeSpec := { name := "tableOrder", fn := fun _ => fun
  | [d] => { results := [.lit (.bool true)], args := [d] }
  | _ => none }
def tableOrderRow : OpenClaim := { program := "ytlcojlcackkhpaa", sum := "6f2cd0eebaee48d920516f61a7b7aa2a4245c0206534f283960cdb7edbead34a", func := "treadle/treadlelaw8.TableOrder", spec := "tableOrder", inPlace := ["internal/bytealg.abigen_runtime_cmpstring", "slices.overlaps[treadle/table.pair[int]]"], unfollowed := true, recurses := true, apart := false }
def TableOrderSaid : Prop := tableOrderRow.holds Try.pinned (OpenSpec.ofChange tableOrderSpec)

/-- ITS FALSE NEIGHBOUR: 'it returns false'. Refute it at one input. -/
def tableOrderWrong : ChangeSpec := { name := "tableOrder", fn := fun _ => fun
  | [d] => { results := [.lit (.bool false)], args := [d] }
  | _ => none }
def TableOrderWrongFalsely : Prop := tableOrderRow.holds Try.pinned (OpenSpec.ofChange tableOrderWrong)

/-- 'treadlelaw8.TableSpan': WHATEVER THE INPUT: true; the input reads as it did. -/
def tableSpanSpec : ChangeSpec := { name := "tableSpan", fn := fun _ => fun
  | [d1, d2, d3] => { results := [.lit (.bool true)], args := [d1, d2, d3] }
  | _ => none }
def tableSpanRow : OpenClaim := { program := "ytlcojlcackkhpaa", sum := "6f2cd0eebaee48d920516f61a7b7aa2a4245c0206534f283960cdb7edbead34a", func := "treadle/treadlelaw8.TableSpan", spec := "tableSpan", inPlace := ["internal/bytealg.abigen_runtime_cmpstring", "slices.overlaps[treadle/table.pair[string]]", "slices.overlaps[treadle/table.pair[int]]"], unfollowed := true, recurses := true, apart := false }
def TableSpanSaid : Prop := tableSpanRow.holds Try.pinned (OpenSpec.ofChange tableSpanSpec)

/-- ITS FALSE NEIGHBOUR: 'it returns false'. Refute it at one input. -/
def tableSpanWrong : ChangeSpec := { name := "tableSpan", fn := fun _ => fun
  | [d1, d2, d3] => { results := [.lit (.bool false)], args := [d1, d2, d3] }
  | _ => none }
def TableSpanWrongFalsely : Prop := tableSpanRow.holds Try.pinned (OpenSpec.ofChange tableSpanWrong)

/-- 'treadlelaw8.TableSteady': WHATEVER THE INPUT: true; the input reads as it did. -/
def tableSteadySpec : ChangeSpec := { name := "tableSteady", fn := fun _ => fun
  | [d1, d2, d3] => { results := [.lit (.bool true)], args := [d1, d2, d3] }
  | _ => none }
def tableSteadyRow : OpenClaim := { program := "ytlcojlcackkhpaa", sum := "6f2cd0eebaee48d920516f61a7b7aa2a4245c0206534f283960cdb7edbead34a", func := "treadle/treadlelaw8.TableSteady", spec := "tableSteady", inPlace := ["internal/bytealg.abigen_runtime_cmpstring", "slices.overlaps[treadle/table.pair[int]]"], unfollowed := true, recurses := true, apart := false }
def TableSteadySaid : Prop := tableSteadyRow.holds Try.pinned (OpenSpec.ofChange tableSteadySpec)

/-- ITS FALSE NEIGHBOUR: 'it returns false'. Refute it at one input. -/
def tableSteadyWrong : ChangeSpec := { name := "tableSteady", fn := fun _ => fun
  | [d1, d2, d3] => { results := [.lit (.bool false)], args := [d1, d2, d3] }
  | _ => none }
def TableSteadyWrongFalsely : Prop := tableSteadyRow.holds Try.pinned (OpenSpec.ofChange tableSteadyWrong)

/-- 'treadlelaw8.TableMany': WHATEVER THE INPUT: true; the input reads as it did. -/
def tableManySpec : ChangeSpec := { name := "tableMany", fn := fun _ => fun
  | [d1, d2, d3, d4, d5] => { results := [.lit (.bool true)], args := [d1, d2, d3, d4, d5] }
  | _ => none }
def tableManyRow : OpenClaim := { program := "ytlcojlcackkhpaa", sum := "6f2cd0eebaee48d920516f61a7b7aa2a4245c0206534f283960cdb7edbead34a", func := "treadle/treadlelaw8.TableMany", spec := "tableMany", inPlace := ["internal/bytealg.abigen_runtime_cmpstring", "slices.overlaps[treadle/table.pair[int]]"], unfollowed := true, recurses := true, apart := false }
def TableManySaid : Prop := tableManyRow.holds Try.pinned (OpenSpec.ofChange tableManySpec)

/-- ITS FALSE NEIGHBOUR: 'it returns false'. Refute it at one input. -/
def tableManyWrong : ChangeSpec := { name := "tableMany", fn := fun _ => fun
  | [d1, d2, d3, d4, d5] => { results := [.lit (.bool false)], args := [d1, d2, d3, d4, d5] }
  | _ => none }
def TableManyWrongFalsely : Prop := tableManyRow.holds Try.pinned (OpenSpec.ofChange tableManyWrong)

/- THE SECOND FORM. 'bulk': how many values and letters a reading holds, each counted each time it is reached (what is shared counts as often as it is met; a slice's spare places count too). A statement '..UptoSaid' is the law's where the arguments, and the package variables that the reading takes, are together of bulk at most 1048576: NARROWER than '..Said'. Prove '..Said' where nothing that the law and all that it calls make is longer than what came in: it says more and counts as full. Else prove '..UptoSaid'. A law counts once. -/
mutual
def uptoBulk {H : Type} : DataW H → Nat
  | .lit (.string bytes) => bytes.length + 1
  | .lit _ => 1
  | .nil => 1
  | .ptr d => uptoBulk d + 1
  | .slice elems spare => uptoBulkAll elems + uptoBulkAll spare + 1
  | .agg parts => uptoBulkAll parts + 1
  | .iface _ d => uptoBulk d + 1
  | .map entries => uptoBulkEntries entries + 1
  | .held _ => 1
def uptoBulkAll {H : Type} : List (DataW H) → Nat
  | [] => 0
  | d :: r => uptoBulk d + uptoBulkAll r
def uptoBulkEntries {H : Type} : List (Lit × DataW H) → Nat
  | [] => 0
  | x :: r => uptoBulkEntry x + uptoBulkEntries r
def uptoBulkEntry {H : Type} : Lit × DataW H → Nat
  | (.string bytes, d) => bytes.length + uptoBulk d + 1
  | (_, d) => uptoBulk d + 1
 end
def uptoSmall : (H : Type) → List (DataW H) → Bool := fun _ ds => decide (uptoBulkAll ds ≤ 1048576)
def OpenSpec.upto (s : _root_.Go.ChangeSpec) : _root_.Go.OpenSpec := { _root_.Go.OpenSpec.ofChange s with cond := some uptoSmall }

/-- 'treadlelaw8.TableKeeps', WHERE WHAT IT READS IS OF BULK AT MOST 1048576: true; the input reads as it did. -/
def tableKeepsUptoRow : OpenClaim := { program := "ytlcojlcackkhpaa", sum := "6f2cd0eebaee48d920516f61a7b7aa2a4245c0206534f283960cdb7edbead34a", func := "treadle/treadlelaw8.TableKeeps", spec := "tableKeeps", inPlace := ["internal/bytealg.abigen_runtime_cmpstring", "slices.overlaps[treadle/table.pair[*treadle/treadlelaw8.Thing]]", "slices.overlaps[treadle/table.pair[treadle/treadlelaw8.Thing]]", "slices.overlaps[treadle/table.pair[int]]"], unfollowed := true, recurses := true, apart := false, narrowed := true }
def TableKeepsUptoSaid : Prop := tableKeepsUptoRow.holds Try.pinned (OpenSpec.upto tableKeepsSpec)

/-- 'treadlelaw8.TablePlays', WHERE WHAT IT READS IS OF BULK AT MOST 1048576: true; the input reads as it did. -/
def tablePlaysUptoRow : OpenClaim := { program := "ytlcojlcackkhpaa", sum := "6f2cd0eebaee48d920516f61a7b7aa2a4245c0206534f283960cdb7edbead34a", func := "treadle/treadlelaw8.TablePlays", spec := "tablePlays", inPlace := ["internal/bytealg.abigen_runtime_cmpstring", "slices.overlaps[treadle/table.pair[int]]"], unfollowed := true, recurses := true, apart := false, narrowed := true }
def TablePlaysUptoSaid : Prop := tablePlaysUptoRow.holds Try.pinned (OpenSpec.upto tablePlaysSpec)

/-- 'treadlelaw8.TableRanges', WHERE WHAT IT READS IS OF BULK AT MOST 1048576: true; the input reads as it did. -/
def tableRangesUptoRow : OpenClaim := { program := "ytlcojlcackkhpaa", sum := "6f2cd0eebaee48d920516f61a7b7aa2a4245c0206534f283960cdb7edbead34a", func := "treadle/treadlelaw8.TableRanges", spec := "tableRanges", inPlace := ["internal/bytealg.abigen_runtime_cmpstring", "slices.overlaps[treadle/table.pair[int]]"], unfollowed := true, recurses := true, apart := false, narrowed := true }
def TableRangesUptoSaid : Prop := tableRangesUptoRow.holds Try.pinned (OpenSpec.upto tableRangesSpec)

/-- 'treadlelaw8.TableNested', WHERE WHAT IT READS IS OF BULK AT MOST 1048576: true; the input reads as it did. -/
def tableNestedUptoRow : OpenClaim := { program := "ytlcojlcackkhpaa", sum := "6f2cd0eebaee48d920516f61a7b7aa2a4245c0206534f283960cdb7edbead34a", func := "treadle/treadlelaw8.TableNested", spec := "tableNested", inPlace := ["internal/bytealg.abigen_runtime_cmpstring", "slices.overlaps[treadle/table.pair[int]]"], unfollowed := true, recurses := true, apart := false, narrowed := true }
def TableNestedUptoSaid : Prop := tableNestedUptoRow.holds Try.pinned (OpenSpec.upto tableNestedSpec)

/-- 'treadlelaw8.TableTwo', WHERE WHAT IT READS IS OF BULK AT MOST 1048576: true; the input reads as it did. -/
def tableTwoUptoRow : OpenClaim := { program := "ytlcojlcackkhpaa", sum := "6f2cd0eebaee48d920516f61a7b7aa2a4245c0206534f283960cdb7edbead34a", func := "treadle/treadlelaw8.TableTwo", spec := "tableTwo", inPlace := ["internal/bytealg.abigen_runtime_cmpstring", "slices.overlaps[treadle/table.pair[int]]"], unfollowed := true, recurses := true, apart := false, narrowed := true }
def TableTwoUptoSaid : Prop := tableTwoUptoRow.holds Try.pinned (OpenSpec.upto tableTwoSpec)

/-- 'treadlelaw8.TableNothing', WHERE WHAT IT READS IS OF BULK AT MOST 1048576: true; the input reads as it did. -/
def tableNothingUptoRow : OpenClaim := { program := "ytlcojlcackkhpaa", sum := "6f2cd0eebaee48d920516f61a7b7aa2a4245c0206534f283960cdb7edbead34a", func := "treadle/treadlelaw8.TableNothing", spec := "tableNothing", inPlace := ["internal/bytealg.abigen_runtime_cmpstring", "slices.overlaps[treadle/table.pair[int]]"], unfollowed := true, recurses := true, apart := false, narrowed := true }
def TableNothingUptoSaid : Prop := tableNothingUptoRow.holds Try.pinned (OpenSpec.upto tableNothingSpec)

/-- 'treadlelaw8.TableOrder', WHERE WHAT IT READS IS OF BULK AT MOST 1048576: true; the input reads as it did. -/
def tableOrderUptoRow : OpenClaim := { program := "ytlcojlcackkhpaa", sum := "6f2cd0eebaee48d920516f61a7b7aa2a4245c0206534f283960cdb7edbead34a", func := "treadle/treadlelaw8.TableOrder", spec := "tableOrder", inPlace := ["internal/bytealg.abigen_runtime_cmpstring", "slices.overlaps[treadle/table.pair[int]]"], unfollowed := true, recurses := true, apart := false, narrowed := true }
def TableOrderUptoSaid : Prop := tableOrderUptoRow.holds Try.pinned (OpenSpec.upto tableOrderSpec)

/-- 'treadlelaw8.TableSpan', WHERE WHAT IT READS IS OF BULK AT MOST 1048576: true; the input reads as it did. -/
def tableSpanUptoRow : OpenClaim := { program := "ytlcojlcackkhpaa", sum := "6f2cd0eebaee48d920516f61a7b7aa2a4245c0206534f283960cdb7edbead34a", func := "treadle/treadlelaw8.TableSpan", spec := "tableSpan", inPlace := ["internal/bytealg.abigen_runtime_cmpstring", "slices.overlaps[treadle/table.pair[string]]", "slices.overlaps[treadle/table.pair[int]]"], unfollowed := true, recurses := true, apart := false, narrowed := true }
def TableSpanUptoSaid : Prop := tableSpanUptoRow.holds Try.pinned (OpenSpec.upto tableSpanSpec)

/-- 'treadlelaw8.TableSteady', WHERE WHAT IT READS IS OF BULK AT MOST 1048576: true; the input reads as it did. -/
def tableSteadyUptoRow : OpenClaim := { program := "ytlcojlcackkhpaa", sum := "6f2cd0eebaee48d920516f61a7b7aa2a4245c0206534f283960cdb7edbead34a", func := "treadle/treadlelaw8.TableSteady", spec := "tableSteady", inPlace := ["internal/bytealg.abigen_runtime_cmpstring", "slices.overlaps[treadle/table.pair[int]]"], unfollowed := true, recurses := true, apart := false, narrowed := true }
def TableSteadyUptoSaid : Prop := tableSteadyUptoRow.holds Try.pinned (OpenSpec.upto tableSteadySpec)

/-- 'treadlelaw8.TableMany', WHERE WHAT IT READS IS OF BULK AT MOST 1048576: true; the input reads as it did. -/
def tableManyUptoRow : OpenClaim := { program := "ytlcojlcackkhpaa", sum := "6f2cd0eebaee48d920516f61a7b7aa2a4245c0206534f283960cdb7edbead34a", func := "treadle/treadlelaw8.TableMany", spec := "tableMany", inPlace := ["internal/bytealg.abigen_runtime_cmpstring", "slices.overlaps[treadle/table.pair[int]]"], unfollowed := true, recurses := true, apart := false, narrowed := true }
def TableManyUptoSaid : Prop := tableManyUptoRow.holds Try.pinned (OpenSpec.upto tableManySpec)

end Rows
end Go.Proofs.Ytlcojlcackkhpaa
