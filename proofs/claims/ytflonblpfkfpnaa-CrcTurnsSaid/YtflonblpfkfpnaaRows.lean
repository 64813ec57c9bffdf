/-
  No cell of these rows narrows 'for every input' (looked for: loops, veiled, ifaces, maps, wideKeys, modest, calm, conditions, laid).
  DERIVED. THE GIVEN ROWS OF THIS SEAT. 5 by the template 'for every input the law returns true; each argument reads behind the call as it read before'; 0 by the template 'total and deterministic' (their statements: YtflonblpfkfpnaaTotals.lean).
  GIVEN WITH THE SEED: the statements are not yours to turn. If you find one false, say at which input.
  Laid BY PROGRAM, IN A SANDBOX (cutbox-rows.mjs): the forced cells as the released guide's own fill.sh prints them over the translation 0a4550545a9b03b1… (all of the seat's roots in one cut). By AI agents, Wed Nov 11 2026. No macro, syntax, notation, axiom, sorry.
-/
import Derived.Test.YtflonblpfkfpnaaChecked
import GoSem.Claim
import GoSem.ClaimJoined
import GoSem.ClaimMapViews
import Derived.JoinedTies
import Derived.KernelRfl
namespace Go.Proofs.Ytflonblpfkfpnaa
/- THE CELL 'sum', in the pinned program and in every row, IS THE sha256 OF THE DUMP (.gsa) THAT YtflonblpfkfpnaaProg.lean LOADS. Nothing in Lean hashes anything: it is a label: what it is worth is what the hold of that sum in a sandbox is worth. -/
noncomputable def Try.pinned : Pinned := { name := "ytflonblpfkfpnaa", sum := "0a4550545a9b03b1206d98f9c86cea995ef63a201b62908433c1a963bd4f0f63", checked := Try.checked }
namespace Rows
def none {H : Type} : Left H := { results := [], args := [] }

/-- 'treadlelaw2.CrcOfs': WHATEVER THE INPUT: true; the input reads as it did. -/
def crcOfsSpec : ChangeSpec := { name := "crcOfs", fn := fun _ => fun
  | [d1, d2] => { results := [.lit (.bool true)], args := [d1, d2] }
  | _ => none }
def crcOfsRow : OpenClaim := { program := "ytflonblpfkfpnaa", sum := "0a4550545a9b03b1206d98f9c86cea995ef63a201b62908433c1a963bd4f0f63", func := "treadle/treadlelaw2.CrcOfs", spec := "crcOfs", apart := false }
def CrcOfsSaid : Prop := crcOfsRow.holds Try.pinned (OpenSpec.ofChange crcOfsSpec)

/-- ITS FALSE NEIGHBOUR: 'it returns false'. Refute it at one input. -/
def crcOfsWrong : ChangeSpec := { name := "crcOfs", fn := fun _ => fun
  | [d1, d2] => { results := [.lit (.bool false)], args := [d1, d2] }
  | _ => none }
def CrcOfsWrongFalsely : Prop := crcOfsRow.holds Try.pinned (OpenSpec.ofChange crcOfsWrong)

/-- 'treadlelaw2.CrcCombines': WHATEVER THE INPUT: true; the input reads as it did. -/
def crcCombinesSpec : ChangeSpec := { name := "crcCombines", fn := fun _ => fun
  | [d1, d2, d3] => { results := [.lit (.bool true)], args := [d1, d2, d3] }
  | _ => none }
def crcCombinesRow : OpenClaim := { program := "ytflonblpfkfpnaa", sum := "0a4550545a9b03b1206d98f9c86cea995ef63a201b62908433c1a963bd4f0f63", func := "treadle/treadlelaw2.CrcCombines", spec := "crcCombines", apart := false }
def CrcCombinesSaid : Prop := crcCombinesRow.holds Try.pinned (OpenSpec.ofChange crcCombinesSpec)

/-- ITS FALSE NEIGHBOUR: 'it returns false'. Refute it at one input. -/
def crcCombinesWrong : ChangeSpec := { name := "crcCombines", fn := fun _ => fun
  | [d1, d2, d3] => { results := [.lit (.bool false)], args := [d1, d2, d3] }
  | _ => none }
def CrcCombinesWrongFalsely : Prop := crcCombinesRow.holds Try.pinned (OpenSpec.ofChange crcCombinesWrong)

/-- 'treadlelaw2.CrcPieces': WHATEVER THE INPUT: true; the input reads as it did. -/
def crcPiecesSpec : ChangeSpec := { name := "crcPieces", fn := fun _ => fun
  | [d1, d2, d3] => { results := [.lit (.bool true)], args := [d1, d2, d3] }
  | _ => none }
def crcPiecesRow : OpenClaim := { program := "ytflonblpfkfpnaa", sum := "0a4550545a9b03b1206d98f9c86cea995ef63a201b62908433c1a963bd4f0f63", func := "treadle/treadlelaw2.CrcPieces", spec := "crcPieces", apart := false }
def CrcPiecesSaid : Prop := crcPiecesRow.holds Try.pinned (OpenSpec.ofChange crcPiecesSpec)

/-- ITS FALSE NEIGHBOUR: 'it returns false'. Refute it at one input. -/
def crcPiecesWrong : ChangeSpec := { name := "crcPieces", fn := fun _ => fun
  | [d1, d2, d3] => { results := [.lit (.bool false)], args := [d1, d2, d3] }
  | _ => none }
def CrcPiecesWrongFalsely : Prop := crcPiecesRow.holds Try.pinned (OpenSpec.ofChange crcPiecesWrong)

/-- 'treadlelaw2.CrcJoins': WHATEVER THE INPUT: true; the input reads as it did. -/
def crcJoinsSpec : ChangeSpec := { name := "crcJoins", fn := fun _ => fun
  | [d1, d2, d3, d4, d5] => { results := [.lit (.bool true)], args := [d1, d2, d3, d4, d5] }
  | _ => none }
def crcJoinsRow : OpenClaim := { program := "ytflonblpfkfpnaa", sum := "0a4550545a9b03b1206d98f9c86cea995ef63a201b62908433c1a963bd4f0f63", func := "treadle/treadlelaw2.CrcJoins", spec := "crcJoins", apart := false }
def CrcJoinsSaid : Prop := crcJoinsRow.holds Try.pinned (OpenSpec.ofChange crcJoinsSpec)

/-- ITS FALSE NEIGHBOUR: 'it returns false'. Refute it at one input. -/
def crcJoinsWrong : ChangeSpec := { name := "crcJoins", fn := fun _ => fun
  | [d1, d2, d3, d4, d5] => { results := [.lit (.bool false)], args := [d1, d2, d3, d4, d5] }
  | _ => none }
def CrcJoinsWrongFalsely : Prop := crcJoinsRow.holds Try.pinned (OpenSpec.ofChange crcJoinsWrong)

/-- 'treadlelaw2.CrcTurns': WHATEVER THE INPUT: true; the input reads as it did. -/
def crcTurnsSpec : ChangeSpec := { name := "crcTurns", fn := fun _ => fun
  | [d1, d2, d3, d4] => { results := [.lit (.bool true)], args := [d1, d2, d3, d4] }
  | _ => none }
def crcTurnsRow : OpenClaim := { program := "ytflonblpfkfpnaa", sum := "0a4550545a9b03b1206d98f9c86cea995ef63a201b62908433c1a963bd4f0f63", func := "treadle/treadlelaw2.CrcTurns", spec := "crcTurns", apart := false }
def CrcTurnsSaid : Prop := crcTurnsRow.holds Try.pinned (OpenSpec.ofChange crcTurnsSpec)

/-- ITS FALSE NEIGHBOUR: 'it returns false'. Refute it at one input. -/
def crcTurnsWrong : ChangeSpec := { name := "crcTurns", fn := fun _ => fun
  | [d1, d2, d3, d4] => { results := [.lit (.bool false)], args := [d1, d2, d3, d4] }
  | _ => none }
def CrcTurnsWrongFalsely : Prop := crcTurnsRow.holds Try.pinned (OpenSpec.ofChange crcTurnsWrong)

/- THE SECOND FORM. 'bulk': how many values and letters a reading holds, each counted each time it is reached (what is shared counts as often as it is met; a slice's spare places count too). A statement '..UptoSaid' is the law's where the arguments, and the package variables that the reading takes, are together of bulk at most 1048576: NARROWER than '..Said'. Prove '..Said' where nothing that the law and all that it calls make is longer than what came in: it says more and counts as full. Else prove '..UptoSaid'. A law counts once. -/
mutual
def uptoBulk {H : Type} : DataW H → Nat
  | .lit (.string bytes) => bytes.length + 1
  | .lit _ => 1
  | .nil => 1
  | .ptr d => uptoBulk d + 1
  | .slice elems spare => uptoBulkAll elems + uptoBulkAll spare + 1
  | .agg parts => uptoBulkAll parts + 1
  | .iface _ d => uptoBulk d + 1
  | .map entries => uptoBulkEntries entries + 1
  | .held _ => 1
def uptoBulkAll {H : Type} : List (DataW H) → Nat
  | [] => 0
  | d :: r => uptoBulk d + uptoBulkAll r
def uptoBulkEntries {H : Type} : List (Lit × DataW H) → Nat
  | [] => 0
  | x :: r => uptoBulkEntry x + uptoBulkEntries r
def uptoBulkEntry {H : Type} : Lit × DataW H → Nat
  | (.string bytes, d) => bytes.length + uptoBulk d + 1
  | (_, d) => uptoBulk d + 1
 end
def uptoSmall : (H : Type) → List (DataW H) → Bool := fun _ ds => decide (uptoBulkAll ds ≤ 1048576)
def OpenSpec.upto (s : _root_.Go.ChangeSpec) : _root_.Go.OpenSpec := { _root_.Go.OpenSpec.ofChange s with cond := some uptoSmall }

/-- 'treadlelaw2.CrcOfs', WHERE WHAT IT READS IS OF BULK AT MOST 1048576: true; the input reads as it did. -/
def crcOfsUptoRow : OpenClaim := { program := "ytflonblpfkfpnaa", sum := "0a4550545a9b03b1206d98f9c86cea995ef63a201b62908433c1a963bd4f0f63", func := "treadle/treadlelaw2.CrcOfs", spec := "crcOfs", apart := false, narrowed := true }
def CrcOfsUptoSaid : Prop := crcOfsUptoRow.holds Try.pinned (OpenSpec.upto crcOfsSpec)

/-- 'treadlelaw2.CrcCombines', WHERE WHAT IT READS IS OF BULK AT MOST 1048576: true; the input reads as it did. -/
def crcCombinesUptoRow : OpenClaim := { program := "ytflonblpfkfpnaa", sum := "0a4550545a9b03b1206d98f9c86cea995ef63a201b62908433c1a963bd4f0f63", func := "treadle/treadlelaw2.CrcCombines", spec := "crcCombines", apart := false, narrowed := true }
def CrcCombinesUptoSaid : Prop := crcCombinesUptoRow.holds Try.pinned (OpenSpec.upto crcCombinesSpec)

/-- 'treadlelaw2.CrcPieces', WHERE WHAT IT READS IS OF BULK AT MOST 1048576: true; the input reads as it did. -/
def crcPiecesUptoRow : OpenClaim := { program := "ytflonblpfkfpnaa", sum := "0a4550545a9b03b1206d98f9c86cea995ef63a201b62908433c1a963bd4f0f63", func := "treadle/treadlelaw2.CrcPieces", spec := "crcPieces", apart := false, narrowed := true }
def CrcPiecesUptoSaid : Prop := crcPiecesUptoRow.holds Try.pinned (OpenSpec.upto crcPiecesSpec)

/-- 'treadlelaw2.CrcJoins', WHERE WHAT IT READS IS OF BULK AT MOST 1048576: true; the input reads as it did. -/
def crcJoinsUptoRow : OpenClaim := { program := "ytflonblpfkfpnaa", sum := "0a4550545a9b03b1206d98f9c86cea995ef63a201b62908433c1a963bd4f0f63", func := "treadle/treadlelaw2.CrcJoins", spec := "crcJoins", apart := false, narrowed := true }
def CrcJoinsUptoSaid : Prop := crcJoinsUptoRow.holds Try.pinned (OpenSpec.upto crcJoinsSpec)

/-- 'treadlelaw2.CrcTurns', WHERE WHAT IT READS IS OF BULK AT MOST 1048576: true; the input reads as it did. -/
def crcTurnsUptoRow : OpenClaim := { program := "ytflonblpfkfpnaa", sum := "0a4550545a9b03b1206d98f9c86cea995ef63a201b62908433c1a963bd4f0f63", func := "treadle/treadlelaw2.CrcTurns", spec := "crcTurns", apart := false, narrowed := true }
def CrcTurnsUptoSaid : Prop := crcTurnsUptoRow.holds Try.pinned (OpenSpec.upto crcTurnsSpec)

end Rows
end Go.Proofs.Ytflonblpfkfpnaa
