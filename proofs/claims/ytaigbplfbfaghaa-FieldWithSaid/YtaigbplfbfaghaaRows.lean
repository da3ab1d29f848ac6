/-
  No cell of these rows narrows 'for every input' (looked for: loops, veiled, ifaces, maps, wideKeys, modest, calm, conditions, laid).
  DERIVED. THE GIVEN ROWS OF THIS SEAT. 8 by the template 'for every input the law returns true; each argument reads behind the call as it read before'; 0 by the template 'total and deterministic' (their statements: YtaigbplfbfaghaaTotals.lean).
  GIVEN WITH THE SEED: the statements are not yours to turn. If you find one false, say at which input.
  Laid BY PROGRAM, IN A SANDBOX (cutbox-rows.mjs): the forced cells as the released guide's own fill.sh prints them over the translation 89d059cb3f70fe97… (all of the seat's roots in one cut). By AI agents, Wed Nov 11 2026. No macro, syntax, notation, axiom, sorry.
-/
import Derived.Test.YtaigbplfbfaghaaChecked
import GoSem.Claim
import GoSem.ClaimJoined
import GoSem.ClaimMapViews
import Derived.JoinedTies
import Derived.KernelRfl
namespace Go.Proofs.Ytaigbplfbfaghaa
/- THE CELL 'sum', in the pinned program and in every row, IS THE sha256 OF THE DUMP (.gsa) THAT YtaigbplfbfaghaaProg.lean LOADS. Nothing in Lean hashes anything: it is a label: what it is worth is what the hold of that sum in a sandbox is worth. -/
noncomputable def Try.pinned : Pinned := { name := "ytaigbplfbfaghaa", sum := "89d059cb3f70fe9703f2bfceb244c9ec07e35143f8766720deb669db353479d6", checked := Try.checked }
namespace Rows
def none {H : Type} : Left H := { results := [], args := [] }

/-- 'bulletinlaw09.FieldNames': WHATEVER THE INPUT: true; the input reads as it did. -/
def fieldNamesSpec : ChangeSpec := { name := "fieldNames", fn := fun _ => fun
  | [d] => { results := [.lit (.bool true)], args := [d] }
  | _ => none }
def fieldNamesRow : OpenClaim := { program := "ytaigbplfbfaghaa", sum := "89d059cb3f70fe9703f2bfceb244c9ec07e35143f8766720deb669db353479d6", func := "bulletin/bulletinlaw09.FieldNames", spec := "fieldNames", inPlace := ["internal/bytealg.IndexByteString", "internal/abi.NoEscape", "internal/bytealg.MakeNoZero"], unfollowed := true, recurses := true, apart := false }
def FieldNamesSaid : Prop := fieldNamesRow.holds Try.pinned (OpenSpec.ofChange fieldNamesSpec)

/-- ITS FALSE NEIGHBOUR: 'it returns false'. Refute it at one input. -/
def fieldNamesWrong : ChangeSpec := { name := "fieldNames", fn := fun _ => fun
  | [d] => { results := [.lit (.bool false)], args := [d] }
  | _ => none }
def FieldNamesWrongFalsely : Prop := fieldNamesRow.holds Try.pinned (OpenSpec.ofChange fieldNamesWrong)

/-- 'bulletinlaw09.FieldChecks': WHATEVER THE INPUT: true; the input reads as it did. -/
def fieldChecksSpec : ChangeSpec := { name := "fieldChecks", fn := fun _ => fun
  | [d] => { results := [.lit (.bool true)], args := [d] }
  | _ => none }
def fieldChecksRow : OpenClaim := { program := "ytaigbplfbfaghaa", sum := "89d059cb3f70fe9703f2bfceb244c9ec07e35143f8766720deb669db353479d6", func := "bulletin/bulletinlaw09.FieldChecks", spec := "fieldChecks", inPlace := ["internal/abi.NoEscape", "internal/bytealg.MakeNoZero", "internal/bytealg.IndexByteString"], unfollowed := true, recurses := true, apart := false }
def FieldChecksSaid : Prop := fieldChecksRow.holds Try.pinned (OpenSpec.ofChange fieldChecksSpec)

/-- ITS FALSE NEIGHBOUR: 'it returns false'. Refute it at one input. -/
def fieldChecksWrong : ChangeSpec := { name := "fieldChecks", fn := fun _ => fun
  | [d] => { results := [.lit (.bool false)], args := [d] }
  | _ => none }
def FieldChecksWrongFalsely : Prop := fieldChecksRow.holds Try.pinned (OpenSpec.ofChange fieldChecksWrong)

/-- 'bulletinlaw09.FieldWidths': WHATEVER THE INPUT: true; the input reads as it did. -/
def fieldWidthsSpec : ChangeSpec := { name := "fieldWidths", fn := fun _ => fun
  | [d] => { results := [.lit (.bool true)], args := [d] }
  | _ => none }
def fieldWidthsRow : OpenClaim := { program := "ytaigbplfbfaghaa", sum := "89d059cb3f70fe9703f2bfceb244c9ec07e35143f8766720deb669db353479d6", func := "bulletin/bulletinlaw09.FieldWidths", spec := "fieldWidths", inPlace := ["internal/abi.NoEscape", "internal/bytealg.MakeNoZero", "internal/bytealg.IndexByteString"], unfollowed := true, recurses := true, apart := false }
def FieldWidthsSaid : Prop := fieldWidthsRow.holds Try.pinned (OpenSpec.ofChange fieldWidthsSpec)

/-- ITS FALSE NEIGHBOUR: 'it returns false'. Refute it at one input. -/
def fieldWidthsWrong : ChangeSpec := { name := "fieldWidths", fn := fun _ => fun
  | [d] => { results := [.lit (.bool false)], args := [d] }
  | _ => none }
def FieldWidthsWrongFalsely : Prop := fieldWidthsRow.holds Try.pinned (OpenSpec.ofChange fieldWidthsWrong)

/-- 'bulletinlaw09.FieldPrints': WHATEVER THE INPUT: true; the input reads as it did. -/
def fieldPrintsSpec : ChangeSpec := { name := "fieldPrints", fn := fun _ => fun
  | [d] => { results := [.lit (.bool true)], args := [d] }
  | _ => none }
def fieldPrintsRow : OpenClaim := { program := "ytaigbplfbfaghaa", sum := "89d059cb3f70fe9703f2bfceb244c9ec07e35143f8766720deb669db353479d6", func := "bulletin/bulletinlaw09.FieldPrints", spec := "fieldPrints", inPlace := ["internal/abi.NoEscape", "internal/bytealg.MakeNoZero", "internal/bytealg.IndexByteString"], unfollowed := true, recurses := true, apart := false }
def FieldPrintsSaid : Prop := fieldPrintsRow.holds Try.pinned (OpenSpec.ofChange fieldPrintsSpec)

/-- ITS FALSE NEIGHBOUR: 'it returns false'. Refute it at one input. -/
def fieldPrintsWrong : ChangeSpec := { name := "fieldPrints", fn := fun _ => fun
  | [d] => { results := [.lit (.bool false)], args := [d] }
  | _ => none }
def FieldPrintsWrongFalsely : Prop := fieldPrintsRow.holds Try.pinned (OpenSpec.ofChange fieldPrintsWrong)

/-- 'bulletinlaw09.FieldParses': WHATEVER THE INPUT: true; the input reads as it did. -/
def fieldParsesSpec : ChangeSpec := { name := "fieldParses", fn := fun _ => fun
  | [d] => { results := [.lit (.bool true)], args := [d] }
  | _ => none }
def fieldParsesRow : OpenClaim := { program := "ytaigbplfbfaghaa", sum := "89d059cb3f70fe9703f2bfceb244c9ec07e35143f8766720deb669db353479d6", func := "bulletin/bulletinlaw09.FieldParses", spec := "fieldParses", inPlace := ["internal/bytealg.IndexByteString", "internal/abi.NoEscape", "internal/bytealg.MakeNoZero"], unfollowed := true, recurses := true, apart := false }
def FieldParsesSaid : Prop := fieldParsesRow.holds Try.pinned (OpenSpec.ofChange fieldParsesSpec)

/-- ITS FALSE NEIGHBOUR: 'it returns false'. Refute it at one input. -/
def fieldParsesWrong : ChangeSpec := { name := "fieldParses", fn := fun _ => fun
  | [d] => { results := [.lit (.bool false)], args := [d] }
  | _ => none }
def FieldParsesWrongFalsely : Prop := fieldParsesRow.holds Try.pinned (OpenSpec.ofChange fieldParsesWrong)

/-- 'bulletinlaw09.FieldCanonical': WHATEVER THE INPUT: true; the input reads as it did. -/
def fieldCanonicalSpec : ChangeSpec := { name := "fieldCanonical", fn := fun _ => fun
  | [d] => { results := [.lit (.bool true)], args := [d] }
  | _ => none }
def fieldCanonicalRow : OpenClaim := { program := "ytaigbplfbfaghaa", sum := "89d059cb3f70fe9703f2bfceb244c9ec07e35143f8766720deb669db353479d6", func := "bulletin/bulletinlaw09.FieldCanonical", spec := "fieldCanonical", inPlace := ["internal/bytealg.IndexByteString", "internal/abi.NoEscape", "internal/bytealg.MakeNoZero"], unfollowed := true, recurses := true, apart := false }
def FieldCanonicalSaid : Prop := fieldCanonicalRow.holds Try.pinned (OpenSpec.ofChange fieldCanonicalSpec)

/-- ITS FALSE NEIGHBOUR: 'it returns false'. Refute it at one input. -/
def fieldCanonicalWrong : ChangeSpec := { name := "fieldCanonical", fn := fun _ => fun
  | [d] => { results := [.lit (.bool false)], args := [d] }
  | _ => none }
def FieldCanonicalWrongFalsely : Prop := fieldCanonicalRow.holds Try.pinned (OpenSpec.ofChange fieldCanonicalWrong)

/-- 'bulletinlaw09.FieldWith': WHATEVER THE INPUT: true; the input reads as it did. -/
def fieldWithSpec : ChangeSpec := { name := "fieldWith", fn := fun _ => fun
  | [d1, d2] => { results := [.lit (.bool true)], args := [d1, d2] }
  | _ => none }
def fieldWithRow : OpenClaim := { program := "ytaigbplfbfaghaa", sum := "89d059cb3f70fe9703f2bfceb244c9ec07e35143f8766720deb669db353479d6", func := "bulletin/bulletinlaw09.FieldWith", spec := "fieldWith", inPlace := ["internal/bytealg.IndexByteString", "internal/abi.NoEscape", "internal/bytealg.MakeNoZero"], unfollowed := true, recurses := true, apart := false }
def FieldWithSaid : Prop := fieldWithRow.holds Try.pinned (OpenSpec.ofChange fieldWithSpec)

/-- ITS FALSE NEIGHBOUR: 'it returns false'. Refute it at one input. -/
def fieldWithWrong : ChangeSpec := { name := "fieldWith", fn := fun _ => fun
  | [d1, d2] => { results := [.lit (.bool false)], args := [d1, d2] }
  | _ => none }
def FieldWithWrongFalsely : Prop := fieldWithRow.holds Try.pinned (OpenSpec.ofChange fieldWithWrong)

/-- 'bulletinlaw09.FieldGets': WHATEVER THE INPUT: true; the input reads as it did. -/
def fieldGetsSpec : ChangeSpec := { name := "fieldGets", fn := fun _ => fun
  | [d1, d2, d3] => { results := [.lit (.bool true)], args := [d1, d2, d3] }
  | _ => none }
def fieldGetsRow : OpenClaim := { program := "ytaigbplfbfaghaa", sum := "89d059cb3f70fe9703f2bfceb244c9ec07e35143f8766720deb669db353479d6", func := "bulletin/bulletinlaw09.FieldGets", spec := "fieldGets", inPlace := ["internal/bytealg.IndexByteString", "internal/abi.NoEscape", "internal/bytealg.MakeNoZero"], unfollowed := true, recurses := true, apart := false }
def FieldGetsSaid : Prop := fieldGetsRow.holds Try.pinned (OpenSpec.ofChange fieldGetsSpec)

/-- ITS FALSE NEIGHBOUR: 'it returns false'. Refute it at one input. -/
def fieldGetsWrong : ChangeSpec := { name := "fieldGets", fn := fun _ => fun
  | [d1, d2, d3] => { results := [.lit (.bool false)], args := [d1, d2, d3] }
  | _ => none }
def FieldGetsWrongFalsely : Prop := fieldGetsRow.holds Try.pinned (OpenSpec.ofChange fieldGetsWrong)

/- THE SECOND FORM. 'bulk': how many values and letters a reading holds, each counted each time it is reached (what is shared counts as often as it is met; a slice's spare places count too). A statement '..UptoSaid' is the law's where the arguments, and the package variables that the reading takes, are together of bulk at most 1048576: NARROWER than '..Said'. Prove '..Said' where nothing that the law and all that it calls make is longer than what came in: it says more and counts as full. Else prove '..UptoSaid'. A law counts once. -/
mutual
def uptoBulk {H : Type} : DataW H → Nat
  | .lit (.string bytes) => bytes.length + 1
  | .lit _ => 1
  | .nil => 1
  | .ptr d => uptoBulk d + 1
  | .slice elems spare => uptoBulkAll elems + uptoBulkAll spare + 1
  | .agg parts => uptoBulkAll parts + 1
  | .iface _ d => uptoBulk d + 1
  | .map entries => uptoBulkEntries entries + 1
  | .held _ => 1
def uptoBulkAll {H : Type} : List (DataW H) → Nat
  | [] => 0
  | d :: r => uptoBulk d + uptoBulkAll r
def uptoBulkEntries {H : Type} : List (Lit × DataW H) → Nat
  | [] => 0
  | x :: r => uptoBulkEntry x + uptoBulkEntries r
def uptoBulkEntry {H : Type} : Lit × DataW H → Nat
  | (.string bytes, d) => bytes.length + uptoBulk d + 1
  | (_, d) => uptoBulk d + 1
 end
def uptoSmall : (H : Type) → List (DataW H) → Bool := fun _ ds => decide (uptoBulkAll ds ≤ 1048576)
def OpenSpec.upto (s : _root_.Go.ChangeSpec) : _root_.Go.OpenSpec := { _root_.Go.OpenSpec.ofChange s with cond := some uptoSmall }

/-- 'bulletinlaw09.FieldNames', WHERE WHAT IT READS IS OF BULK AT MOST 1048576: true; the input reads as it did. -/
def fieldNamesUptoRow : OpenClaim := { program := "ytaigbplfbfaghaa", sum := "89d059cb3f70fe9703f2bfceb244c9ec07e35143f8766720deb669db353479d6", func := "bulletin/bulletinlaw09.FieldNames", spec := "fieldNames", inPlace := ["internal/bytealg.IndexByteString", "internal/abi.NoEscape", "internal/bytealg.MakeNoZero"], unfollowed := true, recurses := true, apart := false, narrowed := true }
def FieldNamesUptoSaid : Prop := fieldNamesUptoRow.holds Try.pinned (OpenSpec.upto fieldNamesSpec)

/-- 'bulletinlaw09.FieldChecks', WHERE WHAT IT READS IS OF BULK AT MOST 1048576: true; the input reads as it did. -/
def fieldChecksUptoRow : OpenClaim := { program := "ytaigbplfbfaghaa", sum := "89d059cb3f70fe9703f2bfceb244c9ec07e35143f8766720deb669db353479d6", func := "bulletin/bulletinlaw09.FieldChecks", spec := "fieldChecks", inPlace := ["internal/abi.NoEscape", "internal/bytealg.MakeNoZero", "internal/bytealg.IndexByteString"], unfollowed := true, recurses := true, apart := false, narrowed := true }
def FieldChecksUptoSaid : Prop := fieldChecksUptoRow.holds Try.pinned (OpenSpec.upto fieldChecksSpec)

/-- 'bulletinlaw09.FieldWidths', WHERE WHAT IT READS IS OF BULK AT MOST 1048576: true; the input reads as it did. -/
def fieldWidthsUptoRow : OpenClaim := { program := "ytaigbplfbfaghaa", sum := "89d059cb3f70fe9703f2bfceb244c9ec07e35143f8766720deb669db353479d6", func := "bulletin/bulletinlaw09.FieldWidths", spec := "fieldWidths", inPlace := ["internal/abi.NoEscape", "internal/bytealg.MakeNoZero", "internal/bytealg.IndexByteString"], unfollowed := true, recurses := true, apart := false, narrowed := true }
def FieldWidthsUptoSaid : Prop := fieldWidthsUptoRow.holds Try.pinned (OpenSpec.upto fieldWidthsSpec)

/-- 'bulletinlaw09.FieldPrints', WHERE WHAT IT READS IS OF BULK AT MOST 1048576: true; the input reads as it did. -/
def fieldPrintsUptoRow : OpenClaim := { program := "ytaigbplfbfaghaa", sum := "89d059cb3f70fe9703f2bfceb244c9ec07e35143f8766720deb669db353479d6", func := "bulletin/bulletinlaw09.FieldPrints", spec := "fieldPrints", inPlace := ["internal/abi.NoEscape", "internal/bytealg.MakeNoZero", "internal/bytealg.IndexByteString"], unfollowed := true, recurses := true, apart := false, narrowed := true }
def FieldPrintsUptoSaid : Prop := fieldPrintsUptoRow.holds Try.pinned (OpenSpec.upto fieldPrintsSpec)

/-- 'bulletinlaw09.FieldParses', WHERE WHAT IT READS IS OF BULK AT MOST 1048576: true; the input reads as it did. -/
def fieldParsesUptoRow : OpenClaim := { program := "ytaigbplfbfaghaa", sum := "89d059cb3f70fe9703f2bfceb244c9ec07e35143f8766720deb669db353479d6", func := "bulletin/bulletinlaw09.FieldParses", spec := "fieldParses", inPlace := ["internal/bytealg.IndexByteString", "internal/abi.NoEscape", "internal/bytealg.MakeNoZero"], unfollowed := true, recurses := true, apart := false, narrowed := true }
def FieldParsesUptoSaid : Prop := fieldParsesUptoRow.holds Try.pinned (OpenSpec.upto fieldParsesSpec)

/-- 'bulletinlaw09.FieldCanonical', WHERE WHAT IT READS IS OF BULK AT MOST 1048576: true; the input reads as it did. -/
def fieldCanonicalUptoRow : OpenClaim := { program := "ytaigbplfbfaghaa", sum := "89d059cb3f70fe9703f2bfceb244c9ec07e35143f8766720deb669db353479d6", func := "bulletin/bulletinlaw09.FieldCanonical", spec := "fieldCanonical", inPlace := ["internal/bytealg.IndexByteString", "internal/abi.NoEscape", "internal/bytealg.MakeNoZero"], unfollowed := true, recurses := true, apart := false, narrowed := true }
def FieldCanonicalUptoSaid : Prop := fieldCanonicalUptoRow.holds Try.pinned (OpenSpec.upto fieldCanonicalSpec)

/-- 'bulletinlaw09.FieldWith', WHERE WHAT IT READS IS OF BULK AT MOST 1048576: true; the input reads as it did. -/
def fieldWithUptoRow : OpenClaim := { program := "ytaigbplfbfaghaa", sum := "89d059cb3f70fe9703f2bfceb244c9ec07e35143f8766720deb669db353479d6", func := "bulletin/bulletinlaw09.FieldWith", spec := "fieldWith", inPlace := ["internal/bytealg.IndexByteString", "internal/abi.NoEscape", "internal/bytealg.MakeNoZero"], unfollowed := true, recurses := true, apart := false, narrowed := true }
def FieldWithUptoSaid : Prop := fieldWithUptoRow.holds Try.pinned (OpenSpec.upto fieldWithSpec)

/-- 'bulletinlaw09.FieldGets', WHERE WHAT IT READS IS OF BULK AT MOST 1048576: true; the input reads as it did. -/
def fieldGetsUptoRow : OpenClaim := { program := "ytaigbplfbfaghaa", sum := "89d059cb3f70fe9703f2bfceb244c9ec07e35143f8766720deb669db353479d6", func := "bulletin/bulletinlaw09.FieldGets", spec := "fieldGets", inPlace := ["internal/bytealg.IndexByteString", "internal/abi.NoEscape", "internal/bytealg.MakeNoZero"], unfollowed := true, recurses := true, apart := false, narrowed := true }
def FieldGetsUptoSaid : Prop := fieldGetsUptoRow.holds Try.pinned (OpenSpec.upto fieldGetsSpec)

end Rows
end Go.Proofs.Ytaigbplfbfaghaa
