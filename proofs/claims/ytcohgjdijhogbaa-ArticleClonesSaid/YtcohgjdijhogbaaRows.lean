/-
  No cell of these rows narrows 'for every input' (looked for: loops, veiled, ifaces, maps, wideKeys, modest, calm, conditions, laid).
  DERIVED. THE GIVEN ROWS OF THIS SEAT. 7 by the template 'for every input the law returns true; each argument reads behind the call as it read before'; 0 by the template 'total and deterministic' (their statements: YtcohgjdijhogbaaTotals.lean).
  GIVEN WITH THE SEED: the statements are not yours to turn. If you find one false, say at which input.
  Laid BY PROGRAM, IN A SANDBOX (cutbox-rows.mjs): the forced cells as the released guide's own fill.sh prints them over the translation 9d15d07fd9e2ba92… (all of the seat's roots in one cut). By AI agents, Wed Nov 11 2026. No macro, syntax, notation, axiom, sorry.
-/
import Derived.Test.YtcohgjdijhogbaaChecked
import GoSem.Claim
import GoSem.ClaimJoined
import GoSem.ClaimMapViews
import Derived.JoinedTies
import Derived.KernelRfl
namespace Go.Proofs.Ytcohgjdijhogbaa
/- THE CELL 'sum', in the pinned program and in every row, IS THE sha256 OF THE DUMP (.gsa) THAT YtcohgjdijhogbaaProg.lean LOADS. Nothing in Lean hashes anything: it is a label: what it is worth is what the hold of that sum in a sandbox is worth. -/
noncomputable def Try.pinned : Pinned := { name := "ytcohgjdijhogbaa", sum := "9d15d07fd9e2ba9289af24a373b950b1eed6f2168e1f9bc48abd9ea1cc938827", checked := Try.checked }
namespace Rows
def none {H : Type} : Left H := { results := [], args := [] }

/-- 'bulletinlaw15.ArticleBodies': WHATEVER THE INPUT: true; the input reads as it did. -/
def articleBodiesSpec : ChangeSpec := { name := "articleBodies", fn := fun _ => fun
  | [d] => { results := [.lit (.bool true)], args := [d] }
  | _ => none }
def articleBodiesRow : OpenClaim := { program := "ytcohgjdijhogbaa", sum := "9d15d07fd9e2ba9289af24a373b950b1eed6f2168e1f9bc48abd9ea1cc938827", func := "bulletin/bulletinlaw15.ArticleBodies", spec := "articleBodies", inPlace := ["internal/bytealg.IndexByteString", "internal/bytealg.IndexString", "internal/abi.NoEscape", "internal/bytealg.MakeNoZero"], unfollowed := true, recurses := true, named := ["internal/bytealg.MaxLen"], apart := false }
def ArticleBodiesSaid : Prop := articleBodiesRow.holds Try.pinned (OpenSpec.ofChange articleBodiesSpec)

/-- ITS FALSE NEIGHBOUR: 'it returns false'. Refute it at one input. -/
def articleBodiesWrong : ChangeSpec := { name := "articleBodies", fn := fun _ => fun
  | [d] => { results := [.lit (.bool false)], args := [d] }
  | _ => none }
def ArticleBodiesWrongFalsely : Prop := articleBodiesRow.holds Try.pinned (OpenSpec.ofChange articleBodiesWrong)

/-- 'bulletinlaw15.ArticleLines': WHATEVER THE INPUT: true; the input reads as it did. -/
def articleLinesSpec : ChangeSpec := { name := "articleLines", fn := fun _ => fun
  | [d1, d2] => { results := [.lit (.bool true)], args := [d1, d2] }
  | _ => none }
def articleLinesRow : OpenClaim := { program := "ytcohgjdijhogbaa", sum := "9d15d07fd9e2ba9289af24a373b950b1eed6f2168e1f9bc48abd9ea1cc938827", func := "bulletin/bulletinlaw15.ArticleLines", spec := "articleLines", inPlace := ["internal/bytealg.IndexByteString", "internal/bytealg.IndexString", "internal/abi.NoEscape", "internal/bytealg.MakeNoZero"], unfollowed := true, recurses := true, named := ["internal/bytealg.MaxLen"], apart := false }
def ArticleLinesSaid : Prop := articleLinesRow.holds Try.pinned (OpenSpec.ofChange articleLinesSpec)

/-- ITS FALSE NEIGHBOUR: 'it returns false'. Refute it at one input. -/
def articleLinesWrong : ChangeSpec := { name := "articleLines", fn := fun _ => fun
  | [d1, d2] => { results := [.lit (.bool false)], args := [d1, d2] }
  | _ => none }
def ArticleLinesWrongFalsely : Prop := articleLinesRow.holds Try.pinned (OpenSpec.ofChange articleLinesWrong)

/-- 'bulletinlaw15.ArticleQuotes': WHATEVER THE INPUT: true; the input reads as it did. -/
def articleQuotesSpec : ChangeSpec := { name := "articleQuotes", fn := fun _ => fun
  | [d] => { results := [.lit (.bool true)], args := [d] }
  | _ => none }
def articleQuotesRow : OpenClaim := { program := "ytcohgjdijhogbaa", sum := "9d15d07fd9e2ba9289af24a373b950b1eed6f2168e1f9bc48abd9ea1cc938827", func := "bulletin/bulletinlaw15.ArticleQuotes", spec := "articleQuotes", inPlace := ["internal/bytealg.IndexByteString", "internal/bytealg.IndexString", "internal/abi.NoEscape", "internal/bytealg.MakeNoZero"], unfollowed := true, recurses := true, named := ["internal/bytealg.MaxLen"], apart := false }
def ArticleQuotesSaid : Prop := articleQuotesRow.holds Try.pinned (OpenSpec.ofChange articleQuotesSpec)

/-- ITS FALSE NEIGHBOUR: 'it returns false'. Refute it at one input. -/
def articleQuotesWrong : ChangeSpec := { name := "articleQuotes", fn := fun _ => fun
  | [d] => { results := [.lit (.bool false)], args := [d] }
  | _ => none }
def ArticleQuotesWrongFalsely : Prop := articleQuotesRow.holds Try.pinned (OpenSpec.ofChange articleQuotesWrong)

/-- 'bulletinlaw15.ArticleLevels': WHATEVER THE INPUT: true; the input reads as it did. -/
def articleLevelsSpec : ChangeSpec := { name := "articleLevels", fn := fun _ => fun
  | [d] => { results := [.lit (.bool true)], args := [d] }
  | _ => none }
def articleLevelsRow : OpenClaim := { program := "ytcohgjdijhogbaa", sum := "9d15d07fd9e2ba9289af24a373b950b1eed6f2168e1f9bc48abd9ea1cc938827", func := "bulletin/bulletinlaw15.ArticleLevels", spec := "articleLevels", inPlace := ["internal/bytealg.IndexByteString", "internal/bytealg.IndexString", "internal/abi.NoEscape", "internal/bytealg.MakeNoZero"], unfollowed := true, recurses := true, named := ["internal/bytealg.MaxLen"], apart := false }
def ArticleLevelsSaid : Prop := articleLevelsRow.holds Try.pinned (OpenSpec.ofChange articleLevelsSpec)

/-- ITS FALSE NEIGHBOUR: 'it returns false'. Refute it at one input. -/
def articleLevelsWrong : ChangeSpec := { name := "articleLevels", fn := fun _ => fun
  | [d] => { results := [.lit (.bool false)], args := [d] }
  | _ => none }
def ArticleLevelsWrongFalsely : Prop := articleLevelsRow.holds Try.pinned (OpenSpec.ofChange articleLevelsWrong)

/-- 'bulletinlaw15.ArticleDivides': WHATEVER THE INPUT: true; the input reads as it did. -/
def articleDividesSpec : ChangeSpec := { name := "articleDivides", fn := fun _ => fun
  | [d] => { results := [.lit (.bool true)], args := [d] }
  | _ => none }
def articleDividesRow : OpenClaim := { program := "ytcohgjdijhogbaa", sum := "9d15d07fd9e2ba9289af24a373b950b1eed6f2168e1f9bc48abd9ea1cc938827", func := "bulletin/bulletinlaw15.ArticleDivides", spec := "articleDivides", inPlace := ["internal/bytealg.IndexByteString", "internal/bytealg.IndexString", "internal/abi.NoEscape", "internal/bytealg.MakeNoZero"], unfollowed := true, recurses := true, named := ["internal/bytealg.MaxLen"], apart := false }
def ArticleDividesSaid : Prop := articleDividesRow.holds Try.pinned (OpenSpec.ofChange articleDividesSpec)

/-- ITS FALSE NEIGHBOUR: 'it returns false'. Refute it at one input. -/
def articleDividesWrong : ChangeSpec := { name := "articleDivides", fn := fun _ => fun
  | [d] => { results := [.lit (.bool false)], args := [d] }
  | _ => none }
def ArticleDividesWrongFalsely : Prop := articleDividesRow.holds Try.pinned (OpenSpec.ofChange articleDividesWrong)

/-- 'bulletinlaw15.ArticleStrips': WHATEVER THE INPUT: true; the input reads as it did. -/
def articleStripsSpec : ChangeSpec := { name := "articleStrips", fn := fun _ => fun
  | [d1, d2] => { results := [.lit (.bool true)], args := [d1, d2] }
  | _ => none }
def articleStripsRow : OpenClaim := { program := "ytcohgjdijhogbaa", sum := "9d15d07fd9e2ba9289af24a373b950b1eed6f2168e1f9bc48abd9ea1cc938827", func := "bulletin/bulletinlaw15.ArticleStrips", spec := "articleStrips", inPlace := ["internal/bytealg.IndexByteString", "internal/bytealg.IndexString", "internal/abi.NoEscape", "internal/bytealg.MakeNoZero"], unfollowed := true, recurses := true, named := ["internal/bytealg.MaxLen"], apart := false }
def ArticleStripsSaid : Prop := articleStripsRow.holds Try.pinned (OpenSpec.ofChange articleStripsSpec)

/-- ITS FALSE NEIGHBOUR: 'it returns false'. Refute it at one input. -/
def articleStripsWrong : ChangeSpec := { name := "articleStrips", fn := fun _ => fun
  | [d1, d2] => { results := [.lit (.bool false)], args := [d1, d2] }
  | _ => none }
def ArticleStripsWrongFalsely : Prop := articleStripsRow.holds Try.pinned (OpenSpec.ofChange articleStripsWrong)

/-- 'bulletinlaw15.ArticleClones': WHATEVER THE INPUT: true; the input reads as it did. -/
def articleClonesSpec : ChangeSpec := { name := "articleClones", fn := fun _ => fun
  | [d1, d2, d3] => { results := [.lit (.bool true)], args := [d1, d2, d3] }
  | _ => none }
def articleClonesRow : OpenClaim := { program := "ytcohgjdijhogbaa", sum := "9d15d07fd9e2ba9289af24a373b950b1eed6f2168e1f9bc48abd9ea1cc938827", func := "bulletin/bulletinlaw15.ArticleClones", spec := "articleClones", inPlace := ["internal/bytealg.IndexByteString", "internal/bytealg.IndexString", "internal/abi.NoEscape", "internal/bytealg.MakeNoZero"], unfollowed := true, recurses := true, named := ["internal/bytealg.MaxLen"], apart := false }
def ArticleClonesSaid : Prop := articleClonesRow.holds Try.pinned (OpenSpec.ofChange articleClonesSpec)

/-- ITS FALSE NEIGHBOUR: 'it returns false'. Refute it at one input. -/
def articleClonesWrong : ChangeSpec := { name := "articleClones", fn := fun _ => fun
  | [d1, d2, d3] => { results := [.lit (.bool false)], args := [d1, d2, d3] }
  | _ => none }
def ArticleClonesWrongFalsely : Prop := articleClonesRow.holds Try.pinned (OpenSpec.ofChange articleClonesWrong)

/- THE SECOND FORM. 'bulk': how many values and letters a reading holds, each counted each time it is reached (what is shared counts as often as it is met; a slice's spare places count too). A statement '..UptoSaid' is the law's where the arguments, and the package variables that the reading takes, are together of bulk at most 1048576: NARROWER than '..Said'. Prove '..Said' where nothing that the law and all that it calls make is longer than what came in: it says more and counts as full. Else prove '..UptoSaid'. A law counts once. -/
mutual
def uptoBulk {H : Type} : DataW H → Nat
  | .lit (.string bytes) => bytes.length + 1
  | .lit _ => 1
  | .nil => 1
  | .ptr d => uptoBulk d + 1
  | .slice elems spare => uptoBulkAll elems + uptoBulkAll spare + 1
  | .agg parts => uptoBulkAll parts + 1
  | .iface _ d => uptoBulk d + 1
  | .map entries => uptoBulkEntries entries + 1
  | .held _ => 1
def uptoBulkAll {H : Type} : List (DataW H) → Nat
  | [] => 0
  | d :: r => uptoBulk d + uptoBulkAll r
def uptoBulkEntries {H : Type} : List (Lit × DataW H) → Nat
  | [] => 0
  | x :: r => uptoBulkEntry x + uptoBulkEntries r
def uptoBulkEntry {H : Type} : Lit × DataW H → Nat
  | (.string bytes, d) => bytes.length + uptoBulk d + 1
  | (_, d) => uptoBulk d + 1
 end
def uptoSmall : (H : Type) → List (DataW H) → Bool := fun _ ds => decide (uptoBulkAll ds ≤ 1048576)
def OpenSpec.upto (s : _root_.Go.ChangeSpec) : _root_.Go.OpenSpec := { _root_.Go.OpenSpec.ofChange s with cond := some uptoSmall }

/-- 'bulletinlaw15.ArticleBodies', WHERE WHAT IT READS IS OF BULK AT MOST 1048576: true; the input reads as it did. -/
def articleBodiesUptoRow : OpenClaim := { program := "ytcohgjdijhogbaa", sum := "9d15d07fd9e2ba9289af24a373b950b1eed6f2168e1f9bc48abd9ea1cc938827", func := "bulletin/bulletinlaw15.ArticleBodies", spec := "articleBodies", inPlace := ["internal/bytealg.IndexByteString", "internal/bytealg.IndexString", "internal/abi.NoEscape", "internal/bytealg.MakeNoZero"], unfollowed := true, recurses := true, named := ["internal/bytealg.MaxLen"], apart := false, narrowed := true }
def ArticleBodiesUptoSaid : Prop := articleBodiesUptoRow.holds Try.pinned (OpenSpec.upto articleBodiesSpec)

/-- 'bulletinlaw15.ArticleLines', WHERE WHAT IT READS IS OF BULK AT MOST 1048576: true; the input reads as it did. -/
def articleLinesUptoRow : OpenClaim := { program := "ytcohgjdijhogbaa", sum := "9d15d07fd9e2ba9289af24a373b950b1eed6f2168e1f9bc48abd9ea1cc938827", func := "bulletin/bulletinlaw15.ArticleLines", spec := "articleLines", inPlace := ["internal/bytealg.IndexByteString", "internal/bytealg.IndexString", "internal/abi.NoEscape", "internal/bytealg.MakeNoZero"], unfollowed := true, recurses := true, named := ["internal/bytealg.MaxLen"], apart := false, narrowed := true }
def ArticleLinesUptoSaid : Prop := articleLinesUptoRow.holds Try.pinned (OpenSpec.upto articleLinesSpec)

/-- 'bulletinlaw15.ArticleQuotes', WHERE WHAT IT READS IS OF BULK AT MOST 1048576: true; the input reads as it did. -/
def articleQuotesUptoRow : OpenClaim := { program := "ytcohgjdijhogbaa", sum := "9d15d07fd9e2ba9289af24a373b950b1eed6f2168e1f9bc48abd9ea1cc938827", func := "bulletin/bulletinlaw15.ArticleQuotes", spec := "articleQuotes", inPlace := ["internal/bytealg.IndexByteString", "internal/bytealg.IndexString", "internal/abi.NoEscape", "internal/bytealg.MakeNoZero"], unfollowed := true, recurses := true, named := ["internal/bytealg.MaxLen"], apart := false, narrowed := true }
def ArticleQuotesUptoSaid : Prop := articleQuotesUptoRow.holds Try.pinned (OpenSpec.upto articleQuotesSpec)

/-- 'bulletinlaw15.ArticleLevels', WHERE WHAT IT READS IS OF BULK AT MOST 1048576: true; the input reads as it did. -/
def articleLevelsUptoRow : OpenClaim := { program := "ytcohgjdijhogbaa", sum := "9d15d07fd9e2ba9289af24a373b950b1eed6f2168e1f9bc48abd9ea1cc938827", func := "bulletin/bulletinlaw15.ArticleLevels", spec := "articleLevels", inPlace := ["internal/bytealg.IndexByteString", "internal/bytealg.IndexString", "internal/abi.NoEscape", "internal/bytealg.MakeNoZero"], unfollowed := true, recurses := true, named := ["internal/bytealg.MaxLen"], apart := false, narrowed := true }
def ArticleLevelsUptoSaid : Prop := articleLevelsUptoRow.holds Try.pinned (OpenSpec.upto articleLevelsSpec)

/-- 'bulletinlaw15.ArticleDivides', WHERE WHAT IT READS IS OF BULK AT MOST 1048576: true; the input reads as it did. -/
def articleDividesUptoRow : OpenClaim := { program := "ytcohgjdijhogbaa", sum := "9d15d07fd9e2ba9289af24a373b950b1eed6f2168e1f9bc48abd9ea1cc938827", func := "bulletin/bulletinlaw15.ArticleDivides", spec := "articleDivides", inPlace := ["internal/bytealg.IndexByteString", "internal/bytealg.IndexString", "internal/abi.NoEscape", "internal/bytealg.MakeNoZero"], unfollowed := true, recurses := true, named := ["internal/bytealg.MaxLen"], apart := false, narrowed := true }
def ArticleDividesUptoSaid : Prop := articleDividesUptoRow.holds Try.pinned (OpenSpec.upto articleDividesSpec)

/-- 'bulletinlaw15.ArticleStrips', WHERE WHAT IT READS IS OF BULK AT MOST 1048576: true; the input reads as it did. -/
def articleStripsUptoRow : OpenClaim := { program := "ytcohgjdijhogbaa", sum := "9d15d07fd9e2ba9289af24a373b950b1eed6f2168e1f9bc48abd9ea1cc938827", func := "bulletin/bulletinlaw15.ArticleStrips", spec := "articleStrips", inPlace := ["internal/bytealg.IndexByteString", "internal/bytealg.IndexString", "internal/abi.NoEscape", "internal/bytealg.MakeNoZero"], unfollowed := true, recurses := true, named := ["internal/bytealg.MaxLen"], apart := false, narrowed := true }
def ArticleStripsUptoSaid : Prop := articleStripsUptoRow.holds Try.pinned (OpenSpec.upto articleStripsSpec)

/-- 'bulletinlaw15.ArticleClones', WHERE WHAT IT READS IS OF BULK AT MOST 1048576: true; the input reads as it did. -/
def articleClonesUptoRow : OpenClaim := { program := "ytcohgjdijhogbaa", sum := "9d15d07fd9e2ba9289af24a373b950b1eed6f2168e1f9bc48abd9ea1cc938827", func := "bulletin/bulletinlaw15.ArticleClones", spec := "articleClones", inPlace := ["internal/bytealg.IndexByteString", "internal/bytealg.IndexString", "internal/abi.NoEscape", "internal/bytealg.MakeNoZero"], unfollowed := true, recurses := true, named := ["internal/bytealg.MaxLen"], apart := false, narrowed := true }
def ArticleClonesUptoSaid : Prop := articleClonesUptoRow.holds Try.pinned (OpenSpec.upto articleClonesSpec)

end Rows
end Go.Proofs.Ytcohgjdijhogbaa
