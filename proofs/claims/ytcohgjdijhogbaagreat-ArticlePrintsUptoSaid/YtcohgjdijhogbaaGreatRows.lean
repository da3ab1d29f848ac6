/-
  No cell of these rows narrows 'for every input' (looked for: loops, veiled, ifaces, maps, wideKeys, modest, calm, conditions, laid).
  DERIVED. THE GIVEN ROWS OF THIS SEAT. 3 by the template 'for every input the law returns true; each argument reads behind the call as it read before'; 0 by the template 'total and deterministic' (their statements: YtcohgjdijhogbaaGreatTotals.lean).
  GIVEN WITH THE SEED: the statements are not yours to turn. If you find one false, say at which input.
  Laid BY PROGRAM, IN A SANDBOX (cutbox-rows.mjs): the forced cells as the released guide's own fill.sh prints them over the translation a2686b839ecdedc4… (all of the seat's roots in one cut). By AI agents, Wed Nov 11 2026. No macro, syntax, notation, axiom, sorry.
-/
import Derived.Test.YtcohgjdijhogbaaGreatChecked
import GoSem.Claim
import GoSem.ClaimJoined
import GoSem.ClaimMapViews
import Derived.JoinedTies
import Derived.KernelRfl
namespace Go.Proofs.YtcohgjdijhogbaaGreat
/- THE CELL 'sum', in the pinned program and in every row, IS THE sha256 OF THE DUMP (.gsa) THAT YtcohgjdijhogbaaGreatProg.lean LOADS. Nothing in Lean hashes anything: it is a label: what it is worth is what the hold of that sum in a sandbox is worth. -/
noncomputable def Tryz.pinned : Pinned := { name := "ytcohgjdijhogbaagreat", sum := "a2686b839ecdedc4e53ae087b77af2ec566c6e1342c8952433d1778ee63fb7a4", checked := Tryz.checked }
namespace Rows
def none {H : Type} : Left H := { results := [], args := [] }

/-- 'bulletinlaw15.ArticleParses': WHATEVER THE INPUT: true; the input reads as it did. -/
def articleParsesSpec : ChangeSpec := { name := "articleParses", fn := fun _ => fun
  | [d] => { results := [.lit (.bool true)], args := [d] }
  | _ => none }
def articleParsesRow : OpenClaim := { program := "ytcohgjdijhogbaagreat", sum := "a2686b839ecdedc4e53ae087b77af2ec566c6e1342c8952433d1778ee63fb7a4", func := "bulletin/bulletinlaw15.ArticleParses", spec := "articleParses", inPlace := ["internal/bytealg.IndexByteString", "internal/bytealg.IndexString", "internal/abi.NoEscape", "internal/bytealg.MakeNoZero"], unfollowed := true, recurses := true, named := ["internal/bytealg.MaxLen"], apart := false }
def ArticleParsesSaid : Prop := articleParsesRow.holds Tryz.pinned (OpenSpec.ofChange articleParsesSpec)

/-- ITS FALSE NEIGHBOUR: 'it returns false'. Refute it at one input. -/
def articleParsesWrong : ChangeSpec := { name := "articleParses", fn := fun _ => fun
  | [d] => { results := [.lit (.bool false)], args := [d] }
  | _ => none }
def ArticleParsesWrongFalsely : Prop := articleParsesRow.holds Tryz.pinned (OpenSpec.ofChange articleParsesWrong)

/-- 'bulletinlaw15.ArticleLimits': WHATEVER THE INPUT: true; the input reads as it did. -/
def articleLimitsSpec : ChangeSpec := { name := "articleLimits", fn := fun _ => fun
  | [d1, d2] => { results := [.lit (.bool true)], args := [d1, d2] }
  | _ => none }
def articleLimitsRow : OpenClaim := { program := "ytcohgjdijhogbaagreat", sum := "a2686b839ecdedc4e53ae087b77af2ec566c6e1342c8952433d1778ee63fb7a4", func := "bulletin/bulletinlaw15.ArticleLimits", spec := "articleLimits", inPlace := ["internal/abi.NoEscape", "internal/bytealg.MakeNoZero", "internal/bytealg.IndexByteString", "internal/bytealg.IndexString"], unfollowed := true, recurses := true, named := ["internal/bytealg.MaxLen"], apart := false }
def ArticleLimitsSaid : Prop := articleLimitsRow.holds Tryz.pinned (OpenSpec.ofChange articleLimitsSpec)

/-- ITS FALSE NEIGHBOUR: 'it returns false'. Refute it at one input. -/
def articleLimitsWrong : ChangeSpec := { name := "articleLimits", fn := fun _ => fun
  | [d1, d2] => { results := [.lit (.bool false)], args := [d1, d2] }
  | _ => none }
def ArticleLimitsWrongFalsely : Prop := articleLimitsRow.holds Tryz.pinned (OpenSpec.ofChange articleLimitsWrong)

/-- 'bulletinlaw15.ArticlePrints': WHATEVER THE INPUT: true; the input reads as it did. -/
def articlePrintsSpec : ChangeSpec := { name := "articlePrints", fn := fun _ => fun
  | [d] => { results := [.lit (.bool true)], args := [d] }
  | _ => none }
def articlePrintsRow : OpenClaim := { program := "ytcohgjdijhogbaagreat", sum := "a2686b839ecdedc4e53ae087b77af2ec566c6e1342c8952433d1778ee63fb7a4", func := "bulletin/bulletinlaw15.ArticlePrints", spec := "articlePrints", inPlace := ["internal/abi.NoEscape", "internal/bytealg.MakeNoZero", "internal/bytealg.IndexByteString", "internal/bytealg.IndexString"], unfollowed := true, recurses := true, named := ["internal/bytealg.MaxLen"], apart := false }
def ArticlePrintsSaid : Prop := articlePrintsRow.holds Tryz.pinned (OpenSpec.ofChange articlePrintsSpec)

/-- ITS FALSE NEIGHBOUR: 'it returns false'. Refute it at one input. -/
def articlePrintsWrong : ChangeSpec := { name := "articlePrints", fn := fun _ => fun
  | [d] => { results := [.lit (.bool false)], args := [d] }
  | _ => none }
def ArticlePrintsWrongFalsely : Prop := articlePrintsRow.holds Tryz.pinned (OpenSpec.ofChange articlePrintsWrong)

/- THE SECOND FORM. 'bulk': how many values and letters a reading holds, each counted each time it is reached (what is shared counts as often as it is met; a slice's spare places count too). A statement '..UptoSaid' is the law's where the arguments, and the package variables that the reading takes, are together of bulk at most 1048576: NARROWER than '..Said'. Prove '..Said' where nothing that the law and all that it calls make is longer than what came in: it says more and counts as full. Else prove '..UptoSaid'. A law counts once. -/
mutual
def uptoBulk {H : Type} : DataW H → Nat
  | .lit (.string bytes) => bytes.length + 1
  | .lit _ => 1
  | .nil => 1
  | .ptr d => uptoBulk d + 1
  | .slice elems spare => uptoBulkAll elems + uptoBulkAll spare + 1
  | .agg parts => uptoBulkAll parts + 1
  | .iface _ d => uptoBulk d + 1
  | .map entries => uptoBulkEntries entries + 1
  | .held _ => 1
def uptoBulkAll {H : Type} : List (DataW H) → Nat
  | [] => 0
  | d :: r => uptoBulk d + uptoBulkAll r
def uptoBulkEntries {H : Type} : List (Lit × DataW H) → Nat
  | [] => 0
  | x :: r => uptoBulkEntry x + uptoBulkEntries r
def uptoBulkEntry {H : Type} : Lit × DataW H → Nat
  | (.string bytes, d) => bytes.length + uptoBulk d + 1
  | (_, d) => uptoBulk d + 1
 end
def uptoSmall : (H : Type) → List (DataW H) → Bool := fun _ ds => decide (uptoBulkAll ds ≤ 1048576)
def OpenSpec.upto (s : _root_.Go.ChangeSpec) : _root_.Go.OpenSpec := { _root_.Go.OpenSpec.ofChange s with cond := some uptoSmall }

/-- 'bulletinlaw15.ArticleParses', WHERE WHAT IT READS IS OF BULK AT MOST 1048576: true; the input reads as it did. -/
def articleParsesUptoRow : OpenClaim := { program := "ytcohgjdijhogbaagreat", sum := "a2686b839ecdedc4e53ae087b77af2ec566c6e1342c8952433d1778ee63fb7a4", func := "bulletin/bulletinlaw15.ArticleParses", spec := "articleParses", inPlace := ["internal/bytealg.IndexByteString", "internal/bytealg.IndexString", "internal/abi.NoEscape", "internal/bytealg.MakeNoZero"], unfollowed := true, recurses := true, named := ["internal/bytealg.MaxLen"], apart := false, narrowed := true }
def ArticleParsesUptoSaid : Prop := articleParsesUptoRow.holds Tryz.pinned (OpenSpec.upto articleParsesSpec)

/-- 'bulletinlaw15.ArticleLimits', WHERE WHAT IT READS IS OF BULK AT MOST 1048576: true; the input reads as it did. -/
def articleLimitsUptoRow : OpenClaim := { program := "ytcohgjdijhogbaagreat", sum := "a2686b839ecdedc4e53ae087b77af2ec566c6e1342c8952433d1778ee63fb7a4", func := "bulletin/bulletinlaw15.ArticleLimits", spec := "articleLimits", inPlace := ["internal/abi.NoEscape", "internal/bytealg.MakeNoZero", "internal/bytealg.IndexByteString", "internal/bytealg.IndexString"], unfollowed := true, recurses := true, named := ["internal/bytealg.MaxLen"], apart := false, narrowed := true }
def ArticleLimitsUptoSaid : Prop := articleLimitsUptoRow.holds Tryz.pinned (OpenSpec.upto articleLimitsSpec)

/-- 'bulletinlaw15.ArticlePrints', WHERE WHAT IT READS IS OF BULK AT MOST 1048576: true; the input reads as it did. -/
def articlePrintsUptoRow : OpenClaim := { program := "ytcohgjdijhogbaagreat", sum := "a2686b839ecdedc4e53ae087b77af2ec566c6e1342c8952433d1778ee63fb7a4", func := "bulletin/bulletinlaw15.ArticlePrints", spec := "articlePrints", inPlace := ["internal/abi.NoEscape", "internal/bytealg.MakeNoZero", "internal/bytealg.IndexByteString", "internal/bytealg.IndexString"], unfollowed := true, recurses := true, named := ["internal/bytealg.MaxLen"], apart := false, narrowed := true }
def ArticlePrintsUptoSaid : Prop := articlePrintsUptoRow.holds Tryz.pinned (OpenSpec.upto articlePrintsSpec)

end Rows
end Go.Proofs.YtcohgjdijhogbaaGreat
