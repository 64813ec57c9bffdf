/-
  No cell of these rows narrows 'for every input' (looked for: loops, veiled, ifaces, maps, wideKeys, modest, calm, conditions, laid).
  DERIVED. THE GIVEN ROWS OF THIS SEAT. 6 by the template 'for every input the law returns true; each argument reads behind the call as it read before'; 0 by the template 'total and deterministic' (their statements: YtchbncbojfiiiaaTotals.lean).
  GIVEN WITH THE SEED: the statements are not yours to turn. If you find one false, say at which input.
  Laid BY PROGRAM, IN A SANDBOX (cutbox-rows.mjs): the forced cells as the released guide's own fill.sh prints them over the translation 42fab4962cd8ecf1… (all of the seat's roots in one cut). By AI agents, Wed Nov 11 2026. No macro, syntax, notation, axiom, sorry.
-/
import Derived.Test.YtchbncbojfiiiaaChecked
import GoSem.Claim
import GoSem.ClaimJoined
import GoSem.ClaimMapViews
import Derived.JoinedTies
import Derived.KernelRfl
namespace Go.Proofs.Ytchbncbojfiiiaa
/- THE CELL 'sum', in the pinned program and in every row, IS THE sha256 OF THE DUMP (.gsa) THAT YtchbncbojfiiiaaProg.lean LOADS. Nothing in Lean hashes anything: it is a label: what it is worth is what the hold of that sum in a sandbox is worth. -/
noncomputable def Try.pinned : Pinned := { name := "ytchbncbojfiiiaa", sum := "42fab4962cd8ecf19e1bc60df2d3a05adfe8a16dd16cb1d86d59b93d52faeb1f", checked := Try.checked }
namespace Rows
def none {H : Type} : Left H := { results := [], args := [] }

/-- 'treadlelaw1.OctetLays': WHATEVER THE INPUT: true; the input reads as it did. -/
def octetLaysSpec : ChangeSpec := { name := "octetLays", fn := fun _ => fun
  | [d] => { results := [.lit (.bool true)], args := [d] }
  | _ => none }
def octetLaysRow : OpenClaim := { program := "ytchbncbojfiiiaa", sum := "42fab4962cd8ecf19e1bc60df2d3a05adfe8a16dd16cb1d86d59b93d52faeb1f", func := "treadle/treadlelaw1.OctetLays", spec := "octetLays", unfollowed := true, recurses := true, apart := false }
def OctetLaysSaid : Prop := octetLaysRow.holds Try.pinned (OpenSpec.ofChange octetLaysSpec)

/-- ITS FALSE NEIGHBOUR: 'it returns false'. Refute it at one input. -/
def octetLaysWrong : ChangeSpec := { name := "octetLays", fn := fun _ => fun
  | [d] => { results := [.lit (.bool false)], args := [d] }
  | _ => none }
def OctetLaysWrongFalsely : Prop := octetLaysRow.holds Try.pinned (OpenSpec.ofChange octetLaysWrong)

/-- 'treadlelaw1.OctetTakes': WHATEVER THE INPUT: true; the input reads as it did. -/
def octetTakesSpec : ChangeSpec := { name := "octetTakes", fn := fun _ => fun
  | [d1, d2] => { results := [.lit (.bool true)], args := [d1, d2] }
  | _ => none }
def octetTakesRow : OpenClaim := { program := "ytchbncbojfiiiaa", sum := "42fab4962cd8ecf19e1bc60df2d3a05adfe8a16dd16cb1d86d59b93d52faeb1f", func := "treadle/treadlelaw1.OctetTakes", spec := "octetTakes", unfollowed := true, recurses := true, apart := false }
def OctetTakesSaid : Prop := octetTakesRow.holds Try.pinned (OpenSpec.ofChange octetTakesSpec)

/-- ITS FALSE NEIGHBOUR: 'it returns false'. Refute it at one input. -/
def octetTakesWrong : ChangeSpec := { name := "octetTakes", fn := fun _ => fun
  | [d1, d2] => { results := [.lit (.bool false)], args := [d1, d2] }
  | _ => none }
def OctetTakesWrongFalsely : Prop := octetTakesRow.holds Try.pinned (OpenSpec.ofChange octetTakesWrong)

/-- 'treadlelaw1.OctetBack': WHATEVER THE INPUT: true; the input reads as it did. -/
def octetBackSpec : ChangeSpec := { name := "octetBack", fn := fun _ => fun
  | [d1, d2] => { results := [.lit (.bool true)], args := [d1, d2] }
  | _ => none }
def octetBackRow : OpenClaim := { program := "ytchbncbojfiiiaa", sum := "42fab4962cd8ecf19e1bc60df2d3a05adfe8a16dd16cb1d86d59b93d52faeb1f", func := "treadle/treadlelaw1.OctetBack", spec := "octetBack", unfollowed := true, recurses := true, apart := false }
def OctetBackSaid : Prop := octetBackRow.holds Try.pinned (OpenSpec.ofChange octetBackSpec)

/-- ITS FALSE NEIGHBOUR: 'it returns false'. Refute it at one input. -/
def octetBackWrong : ChangeSpec := { name := "octetBack", fn := fun _ => fun
  | [d1, d2] => { results := [.lit (.bool false)], args := [d1, d2] }
  | _ => none }
def OctetBackWrongFalsely : Prop := octetBackRow.holds Try.pinned (OpenSpec.ofChange octetBackWrong)

/-- 'treadlelaw1.OctetApart': WHATEVER THE INPUT: true; the input reads as it did. -/
def octetApartSpec : ChangeSpec := { name := "octetApart", fn := fun _ => fun
  | [d1, d2, d3, d4] => { results := [.lit (.bool true)], args := [d1, d2, d3, d4] }
  | _ => none }
def octetApartRow : OpenClaim := { program := "ytchbncbojfiiiaa", sum := "42fab4962cd8ecf19e1bc60df2d3a05adfe8a16dd16cb1d86d59b93d52faeb1f", func := "treadle/treadlelaw1.OctetApart", spec := "octetApart", unfollowed := true, recurses := true, apart := false }
def OctetApartSaid : Prop := octetApartRow.holds Try.pinned (OpenSpec.ofChange octetApartSpec)

/-- ITS FALSE NEIGHBOUR: 'it returns false'. Refute it at one input. -/
def octetApartWrong : ChangeSpec := { name := "octetApart", fn := fun _ => fun
  | [d1, d2, d3, d4] => { results := [.lit (.bool false)], args := [d1, d2, d3, d4] }
  | _ => none }
def OctetApartWrongFalsely : Prop := octetApartRow.holds Try.pinned (OpenSpec.ofChange octetApartWrong)

/-- 'treadlelaw1.OctetNothing': WHATEVER THE INPUT: true; the input reads as it did. -/
def octetNothingSpec : ChangeSpec := { name := "octetNothing", fn := fun _ => fun
  | [d] => { results := [.lit (.bool true)], args := [d] }
  | _ => none }
def octetNothingRow : OpenClaim := { program := "ytchbncbojfiiiaa", sum := "42fab4962cd8ecf19e1bc60df2d3a05adfe8a16dd16cb1d86d59b93d52faeb1f", func := "treadle/treadlelaw1.OctetNothing", spec := "octetNothing", unfollowed := true, recurses := true, apart := false }
def OctetNothingSaid : Prop := octetNothingRow.holds Try.pinned (OpenSpec.ofChange octetNothingSpec)

/-- ITS FALSE NEIGHBOUR: 'it returns false'. Refute it at one input. -/
def octetNothingWrong : ChangeSpec := { name := "octetNothing", fn := fun _ => fun
  | [d] => { results := [.lit (.bool false)], args := [d] }
  | _ => none }
def OctetNothingWrongFalsely : Prop := octetNothingRow.holds Try.pinned (OpenSpec.ofChange octetNothingWrong)

/-- 'treadlelaw1.OctetOwn': WHATEVER THE INPUT: true; the input reads as it did. -/
def octetOwnSpec : ChangeSpec := { name := "octetOwn", fn := fun _ => fun
  | [d1, d2] => { results := [.lit (.bool true)], args := [d1, d2] }
  | _ => none }
def octetOwnRow : OpenClaim := { program := "ytchbncbojfiiiaa", sum := "42fab4962cd8ecf19e1bc60df2d3a05adfe8a16dd16cb1d86d59b93d52faeb1f", func := "treadle/treadlelaw1.OctetOwn", spec := "octetOwn", unfollowed := true, recurses := true, apart := false }
def OctetOwnSaid : Prop := octetOwnRow.holds Try.pinned (OpenSpec.ofChange octetOwnSpec)

/-- ITS FALSE NEIGHBOUR: 'it returns false'. Refute it at one input. -/
def octetOwnWrong : ChangeSpec := { name := "octetOwn", fn := fun _ => fun
  | [d1, d2] => { results := [.lit (.bool false)], args := [d1, d2] }
  | _ => none }
def OctetOwnWrongFalsely : Prop := octetOwnRow.holds Try.pinned (OpenSpec.ofChange octetOwnWrong)

/- THE SECOND FORM. 'bulk': how many values and letters a reading holds, each counted each time it is reached (what is shared counts as often as it is met; a slice's spare places count too). A statement '..UptoSaid' is the law's where the arguments, and the package variables that the reading takes, are together of bulk at most 1048576: NARROWER than '..Said'. Prove '..Said' where nothing that the law and all that it calls make is longer than what came in: it says more and counts as full. Else prove '..UptoSaid'. A law counts once. -/
mutual
def uptoBulk {H : Type} : DataW H → Nat
  | .lit (.string bytes) => bytes.length + 1
  | .lit _ => 1
  | .nil => 1
  | .ptr d => uptoBulk d + 1
  | .slice elems spare => uptoBulkAll elems + uptoBulkAll spare + 1
  | .agg parts => uptoBulkAll parts + 1
  | .iface _ d => uptoBulk d + 1
  | .map entries => uptoBulkEntries entries + 1
  | .held _ => 1
def uptoBulkAll {H : Type} : List (DataW H) → Nat
  | [] => 0
  | d :: r => uptoBulk d + uptoBulkAll r
def uptoBulkEntries {H : Type} : List (Lit × DataW H) → Nat
  | [] => 0
  | x :: r => uptoBulkEntry x + uptoBulkEntries r
def uptoBulkEntry {H : Type} : Lit × DataW H → Nat
  | (.string bytes, d) => bytes.length + uptoBulk d + 1
  | (_, d) => uptoBulk d + 1
 end
def uptoSmall : (H : Type) → List (DataW H) → Bool := fun _ ds => decide (uptoBulkAll ds ≤ 1048576)
def OpenSpec.upto (s : _root_.Go.ChangeSpec) : _root_.Go.OpenSpec := { _root_.Go.OpenSpec.ofChange s with cond := some uptoSmall }

/-- 'treadlelaw1.OctetLays', WHERE WHAT IT READS IS OF BULK AT MOST 1048576: true; the input reads as it did. -/
def octetLaysUptoRow : OpenClaim := { program := "ytchbncbojfiiiaa", sum := "42fab4962cd8ecf19e1bc60df2d3a05adfe8a16dd16cb1d86d59b93d52faeb1f", func := "treadle/treadlelaw1.OctetLays", spec := "octetLays", unfollowed := true, recurses := true, apart := false, narrowed := true }
def OctetLaysUptoSaid : Prop := octetLaysUptoRow.holds Try.pinned (OpenSpec.upto octetLaysSpec)

/-- 'treadlelaw1.OctetTakes', WHERE WHAT IT READS IS OF BULK AT MOST 1048576: true; the input reads as it did. -/
def octetTakesUptoRow : OpenClaim := { program := "ytchbncbojfiiiaa", sum := "42fab4962cd8ecf19e1bc60df2d3a05adfe8a16dd16cb1d86d59b93d52faeb1f", func := "treadle/treadlelaw1.OctetTakes", spec := "octetTakes", unfollowed := true, recurses := true, apart := false, narrowed := true }
def OctetTakesUptoSaid : Prop := octetTakesUptoRow.holds Try.pinned (OpenSpec.upto octetTakesSpec)

/-- 'treadlelaw1.OctetBack', WHERE WHAT IT READS IS OF BULK AT MOST 1048576: true; the input reads as it did. -/
def octetBackUptoRow : OpenClaim := { program := "ytchbncbojfiiiaa", sum := "42fab4962cd8ecf19e1bc60df2d3a05adfe8a16dd16cb1d86d59b93d52faeb1f", func := "treadle/treadlelaw1.OctetBack", spec := "octetBack", unfollowed := true, recurses := true, apart := false, narrowed := true }
def OctetBackUptoSaid : Prop := octetBackUptoRow.holds Try.pinned (OpenSpec.upto octetBackSpec)

/-- 'treadlelaw1.OctetApart', WHERE WHAT IT READS IS OF BULK AT MOST 1048576: true; the input reads as it did. -/
def octetApartUptoRow : OpenClaim := { program := "ytchbncbojfiiiaa", sum := "42fab4962cd8ecf19e1bc60df2d3a05adfe8a16dd16cb1d86d59b93d52faeb1f", func := "treadle/treadlelaw1.OctetApart", spec := "octetApart", unfollowed := true, recurses := true, apart := false, narrowed := true }
def OctetApartUptoSaid : Prop := octetApartUptoRow.holds Try.pinned (OpenSpec.upto octetApartSpec)

/-- 'treadlelaw1.OctetNothing', WHERE WHAT IT READS IS OF BULK AT MOST 1048576: true; the input reads as it did. -/
def octetNothingUptoRow : OpenClaim := { program := "ytchbncbojfiiiaa", sum := "42fab4962cd8ecf19e1bc60df2d3a05adfe8a16dd16cb1d86d59b93d52faeb1f", func := "treadle/treadlelaw1.OctetNothing", spec := "octetNothing", unfollowed := true, recurses := true, apart := false, narrowed := true }
def OctetNothingUptoSaid : Prop := octetNothingUptoRow.holds Try.pinned (OpenSpec.upto octetNothingSpec)

/-- 'treadlelaw1.OctetOwn', WHERE WHAT IT READS IS OF BULK AT MOST 1048576: true; the input reads as it did. -/
def octetOwnUptoRow : OpenClaim := { program := "ytchbncbojfiiiaa", sum := "42fab4962cd8ecf19e1bc60df2d3a05adfe8a16dd16cb1d86d59b93d52faeb1f", func := "treadle/treadlelaw1.OctetOwn", spec := "octetOwn", unfollowed := true, recurses := true, apart := false, narrowed := true }
def OctetOwnUptoSaid : Prop := octetOwnUptoRow.holds Try.pinned (OpenSpec.upto octetOwnSpec)

end Rows
end Go.Proofs.Ytchbncbojfiiiaa
