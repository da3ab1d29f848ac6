/-
  NARROWER THAN 'FOR EVERY INPUT', by the rows' own cells (each row's printed sentence says how): RouteParses: laid · RouteChecks: laid · RoutePrepends: laid · RouteGrows: laid · RouteLoops: laid · RouteLinks: laid · RouteCommon: laid · RouteShares: laid.
  DERIVED. THE GIVEN ROWS OF THIS SEAT. 8 by the template 'for every input the law returns true; each argument reads behind the call as it read before'; 0 by the template 'total and deterministic' (their statements: YtgfgjkafkdfjpaaDoorTotals.lean).
  GIVEN WITH THE SEED: the statements are not yours to turn. If you find one false, say at which input.
  Laid BY PROGRAM, IN A SANDBOX (cutbox-rows.mjs): the forced cells as the released guide's own fill.sh prints them over the translation 41dcd73e03d23912… (all of the seat's roots in one cut). By AI agents, Wed Nov 11 2026. No macro, syntax, notation, axiom, sorry.
-/
import Derived.Test.YtgfgjkafkdfjpaaDoorChecked
import GoSem.PinnedTables
import GoSem.Claim
import GoSem.ClaimJoined
import GoSem.ClaimMapViews
import Derived.JoinedTies
import Derived.KernelRfl
namespace Go.Proofs.YtgfgjkafkdfjpaaDoor
/- THE CELL 'sum', in the pinned program and in every row, IS THE sha256 OF THE DUMP (.gsa) THAT YtgfgjkafkdfjpaaDoorProg.lean LOADS. Nothing in Lean hashes anything: it is a label: what it is worth is what the hold of that sum in a sandbox is worth. -/
noncomputable def Tryd.pinned : Pinned := { name := "ytgfgjkafkdfjpaadoor", sum := "41dcd73e03d23912443624026a842b316e96ed4f237f2f1b6c64ddf57f8b0ec8", checked := Tryd.checked }
namespace Rows
def none {H : Type} : Left H := { results := [], args := [] }

/- WHAT THE LISTED PACKAGE-LEVEL VARIABLES READ AS WHEN THE CALL BEGINS. Each datum BY PROGRAM (the guide's laid-datum.mjs) off the statement by which the dump's own 'gosem.cut.vars' lays the variable. In a bare row this is a premise. The card (YtgfgjkafkdfjpaaDoorCards.lean) ties it to the program's text. -/
def laid_unicode_utf8_acceptRanges {H : Type} : DataW H := .agg [.agg [.lit (.int .u8 128), .lit (.int .u8 191)], .agg [.lit (.int .u8 160), .lit (.int .u8 191)], .agg [.lit (.int .u8 128), .lit (.int .u8 159)], .agg [.lit (.int .u8 144), .lit (.int .u8 191)], .agg [.lit (.int .u8 128), .lit (.int .u8 143)], .agg [.lit (.int .u8 0), .lit (.int .u8 0)], .agg [.lit (.int .u8 0), .lit (.int .u8 0)], .agg [.lit (.int .u8 0), .lit (.int .u8 0)], .agg [.lit (.int .u8 0), .lit (.int .u8 0)], .agg [.lit (.int .u8 0), .lit (.int .u8 0)], .agg [.lit (.int .u8 0), .lit (.int .u8 0)], .agg [.lit (.int .u8 0), .lit (.int .u8 0)], .agg [.lit (.int .u8 0), .lit (.int .u8 0)], .agg [.lit (.int .u8 0), .lit (.int .u8 0)], .agg [.lit (.int .u8 0), .lit (.int .u8 0)], .agg [.lit (.int .u8 0), .lit (.int .u8 0)]]
/-- One of Go's own tables, pinned by name: the form's constant. -/
def laid_unicode_utf8_first : DataW Unit := Go.Pinned.utf8First

/-- 'bulletinlaw16.RouteParses': WHATEVER THE INPUT: true; the input reads as it did. -/
def routeParsesSpec : ChangeSpec := { name := "routeParses", fn := fun _ => fun
  | [d] => { results := [.lit (.bool true)], args := [d] }
  | _ => none }
def routeParsesRow : OpenClaim := { program := "ytgfgjkafkdfjpaadoor", sum := "41dcd73e03d23912443624026a842b316e96ed4f237f2f1b6c64ddf57f8b0ec8", func := "bulletin/bulletinlaw16.RouteParses", spec := "routeParses", inPlace := ["internal/bytealg.CountString", "internal/bytealg.IndexByteString", "internal/bytealg.IndexString", "internal/abi.NoEscape", "internal/bytealg.MakeNoZero"], named := ["unicode/utf8.first", "unicode/utf8.acceptRanges", "internal/bytealg.MaxLen"], plainKeys := false, apart := false, laid := [("unicode/utf8.acceptRanges", laid_unicode_utf8_acceptRanges), ("unicode/utf8.first", laid_unicode_utf8_first)] }
def RouteParsesSaid : Prop := routeParsesRow.holds Tryd.pinned (OpenSpec.ofChange routeParsesSpec)

/-- ITS FALSE NEIGHBOUR: 'it returns false'. Refute it at one input. -/
def routeParsesWrong : ChangeSpec := { name := "routeParses", fn := fun _ => fun
  | [d] => { results := [.lit (.bool false)], args := [d] }
  | _ => none }
def RouteParsesWrongFalsely : Prop := routeParsesRow.holds Tryd.pinned (OpenSpec.ofChange routeParsesWrong)

/-- 'bulletinlaw16.RouteChecks': WHATEVER THE INPUT: true; the input reads as it did. -/
def routeChecksSpec : ChangeSpec := { name := "routeChecks", fn := fun _ => fun
  | [d] => { results := [.lit (.bool true)], args := [d] }
  | _ => none }
def routeChecksRow : OpenClaim := { program := "ytgfgjkafkdfjpaadoor", sum := "41dcd73e03d23912443624026a842b316e96ed4f237f2f1b6c64ddf57f8b0ec8", func := "bulletin/bulletinlaw16.RouteChecks", spec := "routeChecks", inPlace := ["internal/abi.NoEscape", "internal/bytealg.MakeNoZero", "internal/bytealg.CountString", "internal/bytealg.IndexByteString", "internal/bytealg.IndexString"], named := ["unicode/utf8.first", "unicode/utf8.acceptRanges", "internal/bytealg.MaxLen"], plainKeys := false, apart := false, laid := [("unicode/utf8.acceptRanges", laid_unicode_utf8_acceptRanges), ("unicode/utf8.first", laid_unicode_utf8_first)] }
def RouteChecksSaid : Prop := routeChecksRow.holds Tryd.pinned (OpenSpec.ofChange routeChecksSpec)

/-- ITS FALSE NEIGHBOUR: 'it returns false'. Refute it at one input. -/
def routeChecksWrong : ChangeSpec := { name := "routeChecks", fn := fun _ => fun
  | [d] => { results := [.lit (.bool false)], args := [d] }
  | _ => none }
def RouteChecksWrongFalsely : Prop := routeChecksRow.holds Tryd.pinned (OpenSpec.ofChange routeChecksWrong)

/-- 'bulletinlaw16.RoutePrepends': WHATEVER THE INPUT: true; the input reads as it did. -/
def routePrependsSpec : ChangeSpec := { name := "routePrepends", fn := fun _ => fun
  | [d1, d2] => { results := [.lit (.bool true)], args := [d1, d2] }
  | _ => none }
def routePrependsRow : OpenClaim := { program := "ytgfgjkafkdfjpaadoor", sum := "41dcd73e03d23912443624026a842b316e96ed4f237f2f1b6c64ddf57f8b0ec8", func := "bulletin/bulletinlaw16.RoutePrepends", spec := "routePrepends", inPlace := ["internal/bytealg.CountString", "internal/bytealg.IndexByteString", "internal/bytealg.IndexString", "internal/abi.NoEscape", "internal/bytealg.MakeNoZero"], named := ["unicode/utf8.first", "unicode/utf8.acceptRanges", "internal/bytealg.MaxLen"], plainKeys := false, apart := false, laid := [("unicode/utf8.acceptRanges", laid_unicode_utf8_acceptRanges), ("unicode/utf8.first", laid_unicode_utf8_first)] }
def RoutePrependsSaid : Prop := routePrependsRow.holds Tryd.pinned (OpenSpec.ofChange routePrependsSpec)

/-- ITS FALSE NEIGHBOUR: 'it returns false'. Refute it at one input. -/
def routePrependsWrong : ChangeSpec := { name := "routePrepends", fn := fun _ => fun
  | [d1, d2] => { results := [.lit (.bool false)], args := [d1, d2] }
  | _ => none }
def RoutePrependsWrongFalsely : Prop := routePrependsRow.holds Tryd.pinned (OpenSpec.ofChange routePrependsWrong)

/-- 'bulletinlaw16.RouteGrows': WHATEVER THE INPUT: true; the input reads as it did. -/
def routeGrowsSpec : ChangeSpec := { name := "routeGrows", fn := fun _ => fun
  | [d] => { results := [.lit (.bool true)], args := [d] }
  | _ => none }
def routeGrowsRow : OpenClaim := { program := "ytgfgjkafkdfjpaadoor", sum := "41dcd73e03d23912443624026a842b316e96ed4f237f2f1b6c64ddf57f8b0ec8", func := "bulletin/bulletinlaw16.RouteGrows", spec := "routeGrows", inPlace := ["internal/bytealg.CountString", "internal/bytealg.IndexByteString", "internal/bytealg.IndexString", "internal/abi.NoEscape", "internal/bytealg.MakeNoZero"], named := ["unicode/utf8.first", "unicode/utf8.acceptRanges", "internal/bytealg.MaxLen"], plainKeys := false, apart := false, laid := [("unicode/utf8.acceptRanges", laid_unicode_utf8_acceptRanges), ("unicode/utf8.first", laid_unicode_utf8_first)] }
def RouteGrowsSaid : Prop := routeGrowsRow.holds Tryd.pinned (OpenSpec.ofChange routeGrowsSpec)

/-- ITS FALSE NEIGHBOUR: 'it returns false'. Refute it at one input. -/
def routeGrowsWrong : ChangeSpec := { name := "routeGrows", fn := fun _ => fun
  | [d] => { results := [.lit (.bool false)], args := [d] }
  | _ => none }
def RouteGrowsWrongFalsely : Prop := routeGrowsRow.holds Tryd.pinned (OpenSpec.ofChange routeGrowsWrong)

/-- 'bulletinlaw16.RouteLoops': WHATEVER THE INPUT: true; the input reads as it did. -/
def routeLoopsSpec : ChangeSpec := { name := "routeLoops", fn := fun _ => fun
  | [d1, d2] => { results := [.lit (.bool true)], args := [d1, d2] }
  | _ => none }
def routeLoopsRow : OpenClaim := { program := "ytgfgjkafkdfjpaadoor", sum := "41dcd73e03d23912443624026a842b316e96ed4f237f2f1b6c64ddf57f8b0ec8", func := "bulletin/bulletinlaw16.RouteLoops", spec := "routeLoops", inPlace := ["internal/bytealg.CountString", "internal/bytealg.IndexByteString", "internal/bytealg.IndexString", "internal/abi.NoEscape", "internal/bytealg.MakeNoZero"], named := ["unicode/utf8.first", "unicode/utf8.acceptRanges", "internal/bytealg.MaxLen"], plainKeys := false, apart := false, laid := [("unicode/utf8.acceptRanges", laid_unicode_utf8_acceptRanges), ("unicode/utf8.first", laid_unicode_utf8_first)] }
def RouteLoopsSaid : Prop := routeLoopsRow.holds Tryd.pinned (OpenSpec.ofChange routeLoopsSpec)

/-- ITS FALSE NEIGHBOUR: 'it returns false'. Refute it at one input. -/
def routeLoopsWrong : ChangeSpec := { name := "routeLoops", fn := fun _ => fun
  | [d1, d2] => { results := [.lit (.bool false)], args := [d1, d2] }
  | _ => none }
def RouteLoopsWrongFalsely : Prop := routeLoopsRow.holds Tryd.pinned (OpenSpec.ofChange routeLoopsWrong)

/-- 'bulletinlaw16.RouteLinks': WHATEVER THE INPUT: true; the input reads as it did. -/
def routeLinksSpec : ChangeSpec := { name := "routeLinks", fn := fun _ => fun
  | [d] => { results := [.lit (.bool true)], args := [d] }
  | _ => none }
def routeLinksRow : OpenClaim := { program := "ytgfgjkafkdfjpaadoor", sum := "41dcd73e03d23912443624026a842b316e96ed4f237f2f1b6c64ddf57f8b0ec8", func := "bulletin/bulletinlaw16.RouteLinks", spec := "routeLinks", inPlace := ["internal/bytealg.CountString", "internal/bytealg.IndexByteString", "internal/bytealg.IndexString", "internal/abi.NoEscape", "internal/bytealg.MakeNoZero"], named := ["unicode/utf8.first", "unicode/utf8.acceptRanges", "internal/bytealg.MaxLen"], plainKeys := false, apart := false, laid := [("unicode/utf8.acceptRanges", laid_unicode_utf8_acceptRanges), ("unicode/utf8.first", laid_unicode_utf8_first)] }
def RouteLinksSaid : Prop := routeLinksRow.holds Tryd.pinned (OpenSpec.ofChange routeLinksSpec)

/-- ITS FALSE NEIGHBOUR: 'it returns false'. Refute it at one input. -/
def routeLinksWrong : ChangeSpec := { name := "routeLinks", fn := fun _ => fun
  | [d] => { results := [.lit (.bool false)], args := [d] }
  | _ => none }
def RouteLinksWrongFalsely : Prop := routeLinksRow.holds Tryd.pinned (OpenSpec.ofChange routeLinksWrong)

/-- 'bulletinlaw16.RouteCommon': WHATEVER THE INPUT: true; the input reads as it did. -/
def routeCommonSpec : ChangeSpec := { name := "routeCommon", fn := fun _ => fun
  | [d1, d2] => { results := [.lit (.bool true)], args := [d1, d2] }
  | _ => none }
def routeCommonRow : OpenClaim := { program := "ytgfgjkafkdfjpaadoor", sum := "41dcd73e03d23912443624026a842b316e96ed4f237f2f1b6c64ddf57f8b0ec8", func := "bulletin/bulletinlaw16.RouteCommon", spec := "routeCommon", inPlace := ["internal/bytealg.CountString", "internal/bytealg.IndexByteString", "internal/bytealg.IndexString", "internal/abi.NoEscape", "internal/bytealg.MakeNoZero"], named := ["unicode/utf8.first", "unicode/utf8.acceptRanges", "internal/bytealg.MaxLen"], plainKeys := false, apart := false, laid := [("unicode/utf8.acceptRanges", laid_unicode_utf8_acceptRanges), ("unicode/utf8.first", laid_unicode_utf8_first)] }
def RouteCommonSaid : Prop := routeCommonRow.holds Tryd.pinned (OpenSpec.ofChange routeCommonSpec)

/-- ITS FALSE NEIGHBOUR: 'it returns false'. Refute it at one input. -/
def routeCommonWrong : ChangeSpec := { name := "routeCommon", fn := fun _ => fun
  | [d1, d2] => { results := [.lit (.bool false)], args := [d1, d2] }
  | _ => none }
def RouteCommonWrongFalsely : Prop := routeCommonRow.holds Tryd.pinned (OpenSpec.ofChange routeCommonWrong)

/-- 'bulletinlaw16.RouteShares': WHATEVER THE INPUT: true; the input reads as it did. -/
def routeSharesSpec : ChangeSpec := { name := "routeShares", fn := fun _ => fun
  | [d1, d2, d3] => { results := [.lit (.bool true)], args := [d1, d2, d3] }
  | _ => none }
def routeSharesRow : OpenClaim := { program := "ytgfgjkafkdfjpaadoor", sum := "41dcd73e03d23912443624026a842b316e96ed4f237f2f1b6c64ddf57f8b0ec8", func := "bulletin/bulletinlaw16.RouteShares", spec := "routeShares", inPlace := ["internal/bytealg.CountString", "internal/bytealg.IndexByteString", "internal/bytealg.IndexString", "internal/abi.NoEscape", "internal/bytealg.MakeNoZero"], named := ["unicode/utf8.first", "unicode/utf8.acceptRanges", "internal/bytealg.MaxLen"], plainKeys := false, apart := false, laid := [("unicode/utf8.acceptRanges", laid_unicode_utf8_acceptRanges), ("unicode/utf8.first", laid_unicode_utf8_first)] }
def RouteSharesSaid : Prop := routeSharesRow.holds Tryd.pinned (OpenSpec.ofChange routeSharesSpec)

/-- ITS FALSE NEIGHBOUR: 'it returns false'. Refute it at one input. -/
def routeSharesWrong : ChangeSpec := { name := "routeShares", fn := fun _ => fun
  | [d1, d2, d3] => { results := [.lit (.bool false)], args := [d1, d2, d3] }
  | _ => none }
def RouteSharesWrongFalsely : Prop := routeSharesRow.holds Tryd.pinned (OpenSpec.ofChange routeSharesWrong)

/- THE SECOND FORM. 'bulk': how many values and letters a reading holds, each counted each time it is reached (what is shared counts as often as it is met; a slice's spare places count too). A statement '..UptoSaid' is the law's where the arguments, and the package variables that the reading takes, are together of bulk at most 1048576: NARROWER than '..Said'. Prove '..Said' where nothing that the law and all that it calls make is longer than what came in: it says more and counts as full. Else prove '..UptoSaid'. A law counts once. -/
mutual
def uptoBulk {H : Type} : DataW H → Nat
  | .lit (.string bytes) => bytes.length + 1
  | .lit _ => 1
  | .nil => 1
  | .ptr d => uptoBulk d + 1
  | .slice elems spare => uptoBulkAll elems + uptoBulkAll spare + 1
  | .agg parts => uptoBulkAll parts + 1
  | .iface _ d => uptoBulk d + 1
  | .map entries => uptoBulkEntries entries + 1
  | .held _ => 1
def uptoBulkAll {H : Type} : List (DataW H) → Nat
  | [] => 0
  | d :: r => uptoBulk d + uptoBulkAll r
def uptoBulkEntries {H : Type} : List (Lit × DataW H) → Nat
  | [] => 0
  | x :: r => uptoBulkEntry x + uptoBulkEntries r
def uptoBulkEntry {H : Type} : Lit × DataW H → Nat
  | (.string bytes, d) => bytes.length + uptoBulk d + 1
  | (_, d) => uptoBulk d + 1
 end
def uptoSmall : (H : Type) → List (DataW H) → Bool := fun _ ds => decide (uptoBulkAll ds ≤ 1048576)
def OpenSpec.upto (s : _root_.Go.ChangeSpec) : _root_.Go.OpenSpec := { _root_.Go.OpenSpec.ofChange s with cond := some uptoSmall }

/-- 'bulletinlaw16.RouteParses', WHERE WHAT IT READS IS OF BULK AT MOST 1048576: true; the input reads as it did. -/
def routeParsesUptoRow : OpenClaim := { program := "ytgfgjkafkdfjpaadoor", sum := "41dcd73e03d23912443624026a842b316e96ed4f237f2f1b6c64ddf57f8b0ec8", func := "bulletin/bulletinlaw16.RouteParses", spec := "routeParses", inPlace := ["internal/bytealg.CountString", "internal/bytealg.IndexByteString", "internal/bytealg.IndexString", "internal/abi.NoEscape", "internal/bytealg.MakeNoZero"], named := ["unicode/utf8.first", "unicode/utf8.acceptRanges", "internal/bytealg.MaxLen"], plainKeys := false, apart := false, laid := [("unicode/utf8.acceptRanges", laid_unicode_utf8_acceptRanges), ("unicode/utf8.first", laid_unicode_utf8_first)], narrowed := true }
def RouteParsesUptoSaid : Prop := routeParsesUptoRow.holds Tryd.pinned (OpenSpec.upto routeParsesSpec)

/-- 'bulletinlaw16.RouteChecks', WHERE WHAT IT READS IS OF BULK AT MOST 1048576: true; the input reads as it did. -/
def routeChecksUptoRow : OpenClaim := { program := "ytgfgjkafkdfjpaadoor", sum := "41dcd73e03d23912443624026a842b316e96ed4f237f2f1b6c64ddf57f8b0ec8", func := "bulletin/bulletinlaw16.RouteChecks", spec := "routeChecks", inPlace := ["internal/abi.NoEscape", "internal/bytealg.MakeNoZero", "internal/bytealg.CountString", "internal/bytealg.IndexByteString", "internal/bytealg.IndexString"], named := ["unicode/utf8.first", "unicode/utf8.acceptRanges", "internal/bytealg.MaxLen"], plainKeys := false, apart := false, laid := [("unicode/utf8.acceptRanges", laid_unicode_utf8_acceptRanges), ("unicode/utf8.first", laid_unicode_utf8_first)], narrowed := true }
def RouteChecksUptoSaid : Prop := routeChecksUptoRow.holds Tryd.pinned (OpenSpec.upto routeChecksSpec)

/-- 'bulletinlaw16.RoutePrepends', WHERE WHAT IT READS IS OF BULK AT MOST 1048576: true; the input reads as it did. -/
def routePrependsUptoRow : OpenClaim := { program := "ytgfgjkafkdfjpaadoor", sum := "41dcd73e03d23912443624026a842b316e96ed4f237f2f1b6c64ddf57f8b0ec8", func := "bulletin/bulletinlaw16.RoutePrepends", spec := "routePrepends", inPlace := ["internal/bytealg.CountString", "internal/bytealg.IndexByteString", "internal/bytealg.IndexString", "internal/abi.NoEscape", "internal/bytealg.MakeNoZero"], named := ["unicode/utf8.first", "unicode/utf8.acceptRanges", "internal/bytealg.MaxLen"], plainKeys := false, apart := false, laid := [("unicode/utf8.acceptRanges", laid_unicode_utf8_acceptRanges), ("unicode/utf8.first", laid_unicode_utf8_first)], narrowed := true }
def RoutePrependsUptoSaid : Prop := routePrependsUptoRow.holds Tryd.pinned (OpenSpec.upto routePrependsSpec)

/-- 'bulletinlaw16.RouteGrows', WHERE WHAT IT READS IS OF BULK AT MOST 1048576: true; the input reads as it did. -/
def routeGrowsUptoRow : OpenClaim := { program := "ytgfgjkafkdfjpaadoor", sum := "41dcd73e03d23912443624026a842b316e96ed4f237f2f1b6c64ddf57f8b0ec8", func := "bulletin/bulletinlaw16.RouteGrows", spec := "routeGrows", inPlace := ["internal/bytealg.CountString", "internal/bytealg.IndexByteString", "internal/bytealg.IndexString", "internal/abi.NoEscape", "internal/bytealg.MakeNoZero"], named := ["unicode/utf8.first", "unicode/utf8.acceptRanges", "internal/bytealg.MaxLen"], plainKeys := false, apart := false, laid := [("unicode/utf8.acceptRanges", laid_unicode_utf8_acceptRanges), ("unicode/utf8.first", laid_unicode_utf8_first)], narrowed := true }
def RouteGrowsUptoSaid : Prop := routeGrowsUptoRow.holds Tryd.pinned (OpenSpec.upto routeGrowsSpec)

/-- 'bulletinlaw16.RouteLoops', WHERE WHAT IT READS IS OF BULK AT MOST 1048576: true; the input reads as it did. -/
def routeLoopsUptoRow : OpenClaim := { program := "ytgfgjkafkdfjpaadoor", sum := "41dcd73e03d23912443624026a842b316e96ed4f237f2f1b6c64ddf57f8b0ec8", func := "bulletin/bulletinlaw16.RouteLoops", spec := "routeLoops", inPlace := ["internal/bytealg.CountString", "internal/bytealg.IndexByteString", "internal/bytealg.IndexString", "internal/abi.NoEscape", "internal/bytealg.MakeNoZero"], named := ["unicode/utf8.first", "unicode/utf8.acceptRanges", "internal/bytealg.MaxLen"], plainKeys := false, apart := false, laid := [("unicode/utf8.acceptRanges", laid_unicode_utf8_acceptRanges), ("unicode/utf8.first", laid_unicode_utf8_first)], narrowed := true }
def RouteLoopsUptoSaid : Prop := routeLoopsUptoRow.holds Tryd.pinned (OpenSpec.upto routeLoopsSpec)

/-- 'bulletinlaw16.RouteLinks', WHERE WHAT IT READS IS OF BULK AT MOST 1048576: true; the input reads as it did. -/
def routeLinksUptoRow : OpenClaim := { program := "ytgfgjkafkdfjpaadoor", sum := "41dcd73e03d23912443624026a842b316e96ed4f237f2f1b6c64ddf57f8b0ec8", func := "bulletin/bulletinlaw16.RouteLinks", spec := "routeLinks", inPlace := ["internal/bytealg.CountString", "internal/bytealg.IndexByteString", "internal/bytealg.IndexString", "internal/abi.NoEscape", "internal/bytealg.MakeNoZero"], named := ["unicode/utf8.first", "unicode/utf8.acceptRanges", "internal/bytealg.MaxLen"], plainKeys := false, apart := false, laid := [("unicode/utf8.acceptRanges", laid_unicode_utf8_acceptRanges), ("unicode/utf8.first", laid_unicode_utf8_first)], narrowed := true }
def RouteLinksUptoSaid : Prop := routeLinksUptoRow.holds Tryd.pinned (OpenSpec.upto routeLinksSpec)

/-- 'bulletinlaw16.RouteCommon', WHERE WHAT IT READS IS OF BULK AT MOST 1048576: true; the input reads as it did. -/
def routeCommonUptoRow : OpenClaim := { program := "ytgfgjkafkdfjpaadoor", sum := "41dcd73e03d23912443624026a842b316e96ed4f237f2f1b6c64ddf57f8b0ec8", func := "bulletin/bulletinlaw16.RouteCommon", spec := "routeCommon", inPlace := ["internal/bytealg.CountString", "internal/bytealg.IndexByteString", "internal/bytealg.IndexString", "internal/abi.NoEscape", "internal/bytealg.MakeNoZero"], named := ["unicode/utf8.first", "unicode/utf8.acceptRanges", "internal/bytealg.MaxLen"], plainKeys := false, apart := false, laid := [("unicode/utf8.acceptRanges", laid_unicode_utf8_acceptRanges), ("unicode/utf8.first", laid_unicode_utf8_first)], narrowed := true }
def RouteCommonUptoSaid : Prop := routeCommonUptoRow.holds Tryd.pinned (OpenSpec.upto routeCommonSpec)

/-- 'bulletinlaw16.RouteShares', WHERE WHAT IT READS IS OF BULK AT MOST 1048576: true; the input reads as it did. -/
def routeSharesUptoRow : OpenClaim := { program := "ytgfgjkafkdfjpaadoor", sum := "41dcd73e03d23912443624026a842b316e96ed4f237f2f1b6c64ddf57f8b0ec8", func := "bulletin/bulletinlaw16.RouteShares", spec := "routeShares", inPlace := ["internal/bytealg.CountString", "internal/bytealg.IndexByteString", "internal/bytealg.IndexString", "internal/abi.NoEscape", "internal/bytealg.MakeNoZero"], named := ["unicode/utf8.first", "unicode/utf8.acceptRanges", "internal/bytealg.MaxLen"], plainKeys := false, apart := false, laid := [("unicode/utf8.acceptRanges", laid_unicode_utf8_acceptRanges), ("unicode/utf8.first", laid_unicode_utf8_first)], narrowed := true }
def RouteSharesUptoSaid : Prop := routeSharesUptoRow.holds Tryd.pinned (OpenSpec.upto routeSharesSpec)

end Rows
end Go.Proofs.YtgfgjkafkdfjpaaDoor
