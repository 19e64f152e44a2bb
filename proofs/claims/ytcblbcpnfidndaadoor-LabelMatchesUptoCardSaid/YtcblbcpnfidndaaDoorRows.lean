/-
  NARROWER THAN 'FOR EVERY INPUT', by the rows' own cells (each row's printed sentence says how): LabelMatches: laid · LabelBack: laid · LabelPatterns: laid · LabelOpposites: laid · LabelExact: laid · RouteLimits: laid · RouteExact: laid · RoutePaths: laid · RouteOne: laid · RouteKeys: laid · MuteLimits: laid · MuteSources: laid · MuteTimes: laid · MuteExact: laid.
  DERIVED. THE GIVEN ROWS OF THIS SEAT. 14 by the template 'for every input the law returns true; each argument reads behind the call as it read before'; 0 by the template 'total and deterministic' (their statements: YtcblbcpnfidndaaDoorTotals.lean).
  GIVEN WITH THE SEED: the statements are not yours to turn. If you find one false, say at which input.
  Laid BY PROGRAM, IN A SANDBOX (cutbox-rows.mjs): the forced cells as the released guide's own fill.sh prints them over the translation 9cdf49bda592df6c… (all of the seat's roots in one cut). By AI agents, Wed Nov 11 2026. No macro, syntax, notation, axiom, sorry.
-/
import Derived.Test.YtcblbcpnfidndaaDoorChecked
import GoSem.PinnedTables
import GoSem.Claim
import GoSem.ClaimJoined
import GoSem.ClaimMapViews
import Derived.JoinedTies
import Derived.KernelRfl
namespace Go.Proofs.YtcblbcpnfidndaaDoor
/- THE CELL 'sum', in the pinned program and in every row, IS THE sha256 OF THE DUMP (.gsa) THAT YtcblbcpnfidndaaDoorProg.lean LOADS. Nothing in Lean hashes anything: it is a label: what it is worth is what the hold of that sum in a sandbox is worth. -/
noncomputable def Tryd.pinned : Pinned := { name := "ytcblbcpnfidndaadoor", sum := "9cdf49bda592df6c55ebd78aff20c8aa1df5cb81e123604d3ce3dfe54d78ba1e", checked := Tryd.checked }
namespace Rows
def none {H : Type} : Left H := { results := [], args := [] }

/- WHAT THE LISTED PACKAGE-LEVEL VARIABLES READ AS WHEN THE CALL BEGINS. Each datum BY PROGRAM (the guide's laid-datum.mjs) off the statement by which the dump's own 'gosem.cut.vars' lays the variable. In a bare row this is a premise. The card (YtcblbcpnfidndaaDoorCards.lean) ties it to the program's text. -/
def laid_unicode_utf8_acceptRanges {H : Type} : DataW H := .agg [.agg [.lit (.int .u8 128), .lit (.int .u8 191)], .agg [.lit (.int .u8 160), .lit (.int .u8 191)], .agg [.lit (.int .u8 128), .lit (.int .u8 159)], .agg [.lit (.int .u8 144), .lit (.int .u8 191)], .agg [.lit (.int .u8 128), .lit (.int .u8 143)], .agg [.lit (.int .u8 0), .lit (.int .u8 0)], .agg [.lit (.int .u8 0), .lit (.int .u8 0)], .agg [.lit (.int .u8 0), .lit (.int .u8 0)], .agg [.lit (.int .u8 0), .lit (.int .u8 0)], .agg [.lit (.int .u8 0), .lit (.int .u8 0)], .agg [.lit (.int .u8 0), .lit (.int .u8 0)], .agg [.lit (.int .u8 0), .lit (.int .u8 0)], .agg [.lit (.int .u8 0), .lit (.int .u8 0)], .agg [.lit (.int .u8 0), .lit (.int .u8 0)], .agg [.lit (.int .u8 0), .lit (.int .u8 0)], .agg [.lit (.int .u8 0), .lit (.int .u8 0)]]
/-- One of Go's own tables, pinned by name: the form's constant. -/
def laid_unicode_utf8_first : DataW Unit := Go.Pinned.utf8First

/-- 'pagewatchlaw20.LabelMatches': WHATEVER THE INPUT: true; the input reads as it did. -/
def labelMatchesSpec : ChangeSpec := { name := "labelMatches", fn := fun _ => fun
  | [d1, d2, d3, d4, d5] => { results := [.lit (.bool true)], args := [d1, d2, d3, d4, d5] }
  | _ => none }
def labelMatchesRow : OpenClaim := { program := "ytcblbcpnfidndaadoor", sum := "9cdf49bda592df6c55ebd78aff20c8aa1df5cb81e123604d3ce3dfe54d78ba1e", func := "pagewatch/pagewatchlaw20.LabelMatches", spec := "labelMatches", inPlace := ["internal/abi.NoEscape", "internal/bytealg.MakeNoZero", "internal/bytealg.IndexByteString", "internal/bytealg.IndexString"], unfollowed := true, recurses := true, named := ["internal/bytealg.MaxLen", "unicode/utf8.first", "unicode/utf8.acceptRanges"], apart := false, laid := [("unicode/utf8.acceptRanges", laid_unicode_utf8_acceptRanges), ("unicode/utf8.first", laid_unicode_utf8_first)] }
def LabelMatchesSaid : Prop := labelMatchesRow.holds Tryd.pinned (OpenSpec.ofChange labelMatchesSpec)

/-- ITS FALSE NEIGHBOUR: 'it returns false'. Refute it at one input. -/
def labelMatchesWrong : ChangeSpec := { name := "labelMatches", fn := fun _ => fun
  | [d1, d2, d3, d4, d5] => { results := [.lit (.bool false)], args := [d1, d2, d3, d4, d5] }
  | _ => none }
def LabelMatchesWrongFalsely : Prop := labelMatchesRow.holds Tryd.pinned (OpenSpec.ofChange labelMatchesWrong)

/-- 'pagewatchlaw20.LabelBack': WHATEVER THE INPUT: true; the input reads as it did. -/
def labelBackSpec : ChangeSpec := { name := "labelBack", fn := fun _ => fun
  | [d] => { results := [.lit (.bool true)], args := [d] }
  | _ => none }
def labelBackRow : OpenClaim := { program := "ytcblbcpnfidndaadoor", sum := "9cdf49bda592df6c55ebd78aff20c8aa1df5cb81e123604d3ce3dfe54d78ba1e", func := "pagewatch/pagewatchlaw20.LabelBack", spec := "labelBack", inPlace := ["internal/abi.NoEscape", "internal/bytealg.MakeNoZero", "internal/bytealg.IndexByteString", "internal/bytealg.IndexString"], unfollowed := true, recurses := true, named := ["internal/bytealg.MaxLen", "unicode/utf8.first", "unicode/utf8.acceptRanges"], apart := false, laid := [("unicode/utf8.acceptRanges", laid_unicode_utf8_acceptRanges), ("unicode/utf8.first", laid_unicode_utf8_first)] }
def LabelBackSaid : Prop := labelBackRow.holds Tryd.pinned (OpenSpec.ofChange labelBackSpec)

/-- ITS FALSE NEIGHBOUR: 'it returns false'. Refute it at one input. -/
def labelBackWrong : ChangeSpec := { name := "labelBack", fn := fun _ => fun
  | [d] => { results := [.lit (.bool false)], args := [d] }
  | _ => none }
def LabelBackWrongFalsely : Prop := labelBackRow.holds Tryd.pinned (OpenSpec.ofChange labelBackWrong)

/-- 'pagewatchlaw20.LabelPatterns': WHATEVER THE INPUT: true; the input reads as it did. -/
def labelPatternsSpec : ChangeSpec := { name := "labelPatterns", fn := fun _ => fun
  | [d1, d2, d3] => { results := [.lit (.bool true)], args := [d1, d2, d3] }
  | _ => none }
def labelPatternsRow : OpenClaim := { program := "ytcblbcpnfidndaadoor", sum := "9cdf49bda592df6c55ebd78aff20c8aa1df5cb81e123604d3ce3dfe54d78ba1e", func := "pagewatch/pagewatchlaw20.LabelPatterns", spec := "labelPatterns", inPlace := ["internal/abi.NoEscape", "internal/bytealg.MakeNoZero", "internal/bytealg.IndexByteString", "internal/bytealg.IndexString"], unfollowed := true, recurses := true, named := ["internal/bytealg.MaxLen", "unicode/utf8.first", "unicode/utf8.acceptRanges"], apart := false, laid := [("unicode/utf8.acceptRanges", laid_unicode_utf8_acceptRanges), ("unicode/utf8.first", laid_unicode_utf8_first)] }
def LabelPatternsSaid : Prop := labelPatternsRow.holds Tryd.pinned (OpenSpec.ofChange labelPatternsSpec)

/-- ITS FALSE NEIGHBOUR: 'it returns false'. Refute it at one input. -/
def labelPatternsWrong : ChangeSpec := { name := "labelPatterns", fn := fun _ => fun
  | [d1, d2, d3] => { results := [.lit (.bool false)], args := [d1, d2, d3] }
  | _ => none }
def LabelPatternsWrongFalsely : Prop := labelPatternsRow.holds Tryd.pinned (OpenSpec.ofChange labelPatternsWrong)

/-- 'pagewatchlaw20.LabelOpposites': WHATEVER THE INPUT: true; the input reads as it did. -/
def labelOppositesSpec : ChangeSpec := { name := "labelOpposites", fn := fun _ => fun
  | [d] => { results := [.lit (.bool true)], args := [d] }
  | _ => none }
def labelOppositesRow : OpenClaim := { program := "ytcblbcpnfidndaadoor", sum := "9cdf49bda592df6c55ebd78aff20c8aa1df5cb81e123604d3ce3dfe54d78ba1e", func := "pagewatch/pagewatchlaw20.LabelOpposites", spec := "labelOpposites", inPlace := ["internal/abi.NoEscape", "internal/bytealg.MakeNoZero", "internal/bytealg.IndexByteString", "internal/bytealg.IndexString"], unfollowed := true, recurses := true, named := ["internal/bytealg.MaxLen", "unicode/utf8.first", "unicode/utf8.acceptRanges"], apart := false, laid := [("unicode/utf8.acceptRanges", laid_unicode_utf8_acceptRanges), ("unicode/utf8.first", laid_unicode_utf8_first)] }
def LabelOppositesSaid : Prop := labelOppositesRow.holds Tryd.pinned (OpenSpec.ofChange labelOppositesSpec)

/-- ITS FALSE NEIGHBOUR: 'it returns false'. Refute it at one input. -/
def labelOppositesWrong : ChangeSpec := { name := "labelOpposites", fn := fun _ => fun
  | [d] => { results := [.lit (.bool false)], args := [d] }
  | _ => none }
def LabelOppositesWrongFalsely : Prop := labelOppositesRow.holds Tryd.pinned (OpenSpec.ofChange labelOppositesWrong)

/-- 'pagewatchlaw20.LabelExact': WHATEVER THE INPUT: true; the input reads as it did. -/
def labelExactSpec : ChangeSpec := { name := "labelExact", fn := fun _ => fun
  | [d1, d2, d3, d4] => { results := [.lit (.bool true)], args := [d1, d2, d3, d4] }
  | _ => none }
def labelExactRow : OpenClaim := { program := "ytcblbcpnfidndaadoor", sum := "9cdf49bda592df6c55ebd78aff20c8aa1df5cb81e123604d3ce3dfe54d78ba1e", func := "pagewatch/pagewatchlaw20.LabelExact", spec := "labelExact", inPlace := ["internal/abi.NoEscape", "internal/bytealg.MakeNoZero", "internal/bytealg.IndexByteString", "internal/bytealg.IndexString"], unfollowed := true, recurses := true, named := ["internal/bytealg.MaxLen", "unicode/utf8.first", "unicode/utf8.acceptRanges"], apart := false, laid := [("unicode/utf8.acceptRanges", laid_unicode_utf8_acceptRanges), ("unicode/utf8.first", laid_unicode_utf8_first)] }
def LabelExactSaid : Prop := labelExactRow.holds Tryd.pinned (OpenSpec.ofChange labelExactSpec)

/-- ITS FALSE NEIGHBOUR: 'it returns false'. Refute it at one input. -/
def labelExactWrong : ChangeSpec := { name := "labelExact", fn := fun _ => fun
  | [d1, d2, d3, d4] => { results := [.lit (.bool false)], args := [d1, d2, d3, d4] }
  | _ => none }
def LabelExactWrongFalsely : Prop := labelExactRow.holds Tryd.pinned (OpenSpec.ofChange labelExactWrong)

/-- 'pagewatchlaw21.RouteLimits': WHATEVER THE INPUT: true; the input reads as it did. -/
def routeLimitsSpec : ChangeSpec := { name := "routeLimits", fn := fun _ => fun
  | [d] => { results := [.lit (.bool true)], args := [d] }
  | _ => none }
def routeLimitsRow : OpenClaim := { program := "ytcblbcpnfidndaadoor", sum := "9cdf49bda592df6c55ebd78aff20c8aa1df5cb81e123604d3ce3dfe54d78ba1e", func := "pagewatch/pagewatchlaw21.RouteLimits", spec := "routeLimits", inPlace := ["internal/bytealg.IndexByteString", "internal/bytealg.IndexString", "internal/abi.NoEscape", "internal/bytealg.MakeNoZero"], unfollowed := true, recurses := true, named := ["unicode/utf8.first", "unicode/utf8.acceptRanges", "internal/bytealg.MaxLen"], apart := false, laid := [("unicode/utf8.acceptRanges", laid_unicode_utf8_acceptRanges), ("unicode/utf8.first", laid_unicode_utf8_first)] }
def RouteLimitsSaid : Prop := routeLimitsRow.holds Tryd.pinned (OpenSpec.ofChange routeLimitsSpec)

/-- ITS FALSE NEIGHBOUR: 'it returns false'. Refute it at one input. -/
def routeLimitsWrong : ChangeSpec := { name := "routeLimits", fn := fun _ => fun
  | [d] => { results := [.lit (.bool false)], args := [d] }
  | _ => none }
def RouteLimitsWrongFalsely : Prop := routeLimitsRow.holds Tryd.pinned (OpenSpec.ofChange routeLimitsWrong)

/-- 'pagewatchlaw21.RouteExact': WHATEVER THE INPUT: true; the input reads as it did. -/
def routeExactSpec : ChangeSpec := { name := "routeExact", fn := fun _ => fun
  | [d1, d2, d3, d4] => { results := [.lit (.bool true)], args := [d1, d2, d3, d4] }
  | _ => none }
def routeExactRow : OpenClaim := { program := "ytcblbcpnfidndaadoor", sum := "9cdf49bda592df6c55ebd78aff20c8aa1df5cb81e123604d3ce3dfe54d78ba1e", func := "pagewatch/pagewatchlaw21.RouteExact", spec := "routeExact", inPlace := ["internal/bytealg.IndexByteString", "internal/bytealg.IndexString", "internal/abi.NoEscape", "internal/bytealg.MakeNoZero"], unfollowed := true, recurses := true, named := ["unicode/utf8.first", "unicode/utf8.acceptRanges", "internal/bytealg.MaxLen"], apart := false, laid := [("unicode/utf8.acceptRanges", laid_unicode_utf8_acceptRanges), ("unicode/utf8.first", laid_unicode_utf8_first)] }
def RouteExactSaid : Prop := routeExactRow.holds Tryd.pinned (OpenSpec.ofChange routeExactSpec)

/-- ITS FALSE NEIGHBOUR: 'it returns false'. Refute it at one input. -/
def routeExactWrong : ChangeSpec := { name := "routeExact", fn := fun _ => fun
  | [d1, d2, d3, d4] => { results := [.lit (.bool false)], args := [d1, d2, d3, d4] }
  | _ => none }
def RouteExactWrongFalsely : Prop := routeExactRow.holds Tryd.pinned (OpenSpec.ofChange routeExactWrong)

/-- 'pagewatchlaw21.RoutePaths': WHATEVER THE INPUT: true; the input reads as it did. -/
def routePathsSpec : ChangeSpec := { name := "routePaths", fn := fun _ => fun
  | [d] => { results := [.lit (.bool true)], args := [d] }
  | _ => none }
def routePathsRow : OpenClaim := { program := "ytcblbcpnfidndaadoor", sum := "9cdf49bda592df6c55ebd78aff20c8aa1df5cb81e123604d3ce3dfe54d78ba1e", func := "pagewatch/pagewatchlaw21.RoutePaths", spec := "routePaths", inPlace := ["internal/bytealg.IndexByteString", "internal/bytealg.IndexString", "internal/abi.NoEscape", "internal/bytealg.MakeNoZero"], unfollowed := true, recurses := true, named := ["unicode/utf8.first", "unicode/utf8.acceptRanges", "internal/bytealg.MaxLen"], apart := false, laid := [("unicode/utf8.acceptRanges", laid_unicode_utf8_acceptRanges), ("unicode/utf8.first", laid_unicode_utf8_first)] }
def RoutePathsSaid : Prop := routePathsRow.holds Tryd.pinned (OpenSpec.ofChange routePathsSpec)

/-- ITS FALSE NEIGHBOUR: 'it returns false'. Refute it at one input. -/
def routePathsWrong : ChangeSpec := { name := "routePaths", fn := fun _ => fun
  | [d] => { results := [.lit (.bool false)], args := [d] }
  | _ => none }
def RoutePathsWrongFalsely : Prop := routePathsRow.holds Tryd.pinned (OpenSpec.ofChange routePathsWrong)

/-- 'pagewatchlaw21.RouteOne': WHATEVER THE INPUT: true; the input reads as it did. -/
def routeOneSpec : ChangeSpec := { name := "routeOne", fn := fun _ => fun
  | [d] => { results := [.lit (.bool true)], args := [d] }
  | _ => none }
def routeOneRow : OpenClaim := { program := "ytcblbcpnfidndaadoor", sum := "9cdf49bda592df6c55ebd78aff20c8aa1df5cb81e123604d3ce3dfe54d78ba1e", func := "pagewatch/pagewatchlaw21.RouteOne", spec := "routeOne", inPlace := ["internal/bytealg.IndexByteString", "internal/bytealg.IndexString", "internal/abi.NoEscape", "internal/bytealg.MakeNoZero"], unfollowed := true, recurses := true, named := ["unicode/utf8.first", "unicode/utf8.acceptRanges", "internal/bytealg.MaxLen"], apart := false, laid := [("unicode/utf8.acceptRanges", laid_unicode_utf8_acceptRanges), ("unicode/utf8.first", laid_unicode_utf8_first)] }
def RouteOneSaid : Prop := routeOneRow.holds Tryd.pinned (OpenSpec.ofChange routeOneSpec)

/-- ITS FALSE NEIGHBOUR: 'it returns false'. Refute it at one input. -/
def routeOneWrong : ChangeSpec := { name := "routeOne", fn := fun _ => fun
  | [d] => { results := [.lit (.bool false)], args := [d] }
  | _ => none }
def RouteOneWrongFalsely : Prop := routeOneRow.holds Tryd.pinned (OpenSpec.ofChange routeOneWrong)

/-- 'pagewatchlaw21.RouteKeys': WHATEVER THE INPUT: true; the input reads as it did. -/
def routeKeysSpec : ChangeSpec := { name := "routeKeys", fn := fun _ => fun
  | [d] => { results := [.lit (.bool true)], args := [d] }
  | _ => none }
def routeKeysRow : OpenClaim := { program := "ytcblbcpnfidndaadoor", sum := "9cdf49bda592df6c55ebd78aff20c8aa1df5cb81e123604d3ce3dfe54d78ba1e", func := "pagewatch/pagewatchlaw21.RouteKeys", spec := "routeKeys", inPlace := ["internal/bytealg.IndexByteString", "internal/bytealg.IndexString", "internal/abi.NoEscape", "internal/bytealg.MakeNoZero"], unfollowed := true, recurses := true, named := ["unicode/utf8.first", "unicode/utf8.acceptRanges", "internal/bytealg.MaxLen"], apart := false, laid := [("unicode/utf8.acceptRanges", laid_unicode_utf8_acceptRanges), ("unicode/utf8.first", laid_unicode_utf8_first)] }
def RouteKeysSaid : Prop := routeKeysRow.holds Tryd.pinned (OpenSpec.ofChange routeKeysSpec)

/-- ITS FALSE NEIGHBOUR: 'it returns false'. Refute it at one input. -/
def routeKeysWrong : ChangeSpec := { name := "routeKeys", fn := fun _ => fun
  | [d] => { results := [.lit (.bool false)], args := [d] }
  | _ => none }
def RouteKeysWrongFalsely : Prop := routeKeysRow.holds Tryd.pinned (OpenSpec.ofChange routeKeysWrong)

/-- 'pagewatchlaw22.MuteLimits': WHATEVER THE INPUT: true; the input reads as it did. -/
def muteLimitsSpec : ChangeSpec := { name := "muteLimits", fn := fun _ => fun
  | [d] => { results := [.lit (.bool true)], args := [d] }
  | _ => none }
def muteLimitsRow : OpenClaim := { program := "ytcblbcpnfidndaadoor", sum := "9cdf49bda592df6c55ebd78aff20c8aa1df5cb81e123604d3ce3dfe54d78ba1e", func := "pagewatch/pagewatchlaw22.MuteLimits", spec := "muteLimits", inPlace := ["internal/bytealg.IndexByteString", "internal/bytealg.IndexString"], unfollowed := true, recurses := true, named := ["unicode/utf8.first", "unicode/utf8.acceptRanges", "internal/bytealg.MaxLen"], apart := false, laid := [("unicode/utf8.acceptRanges", laid_unicode_utf8_acceptRanges), ("unicode/utf8.first", laid_unicode_utf8_first)] }
def MuteLimitsSaid : Prop := muteLimitsRow.holds Tryd.pinned (OpenSpec.ofChange muteLimitsSpec)

/-- ITS FALSE NEIGHBOUR: 'it returns false'. Refute it at one input. -/
def muteLimitsWrong : ChangeSpec := { name := "muteLimits", fn := fun _ => fun
  | [d] => { results := [.lit (.bool false)], args := [d] }
  | _ => none }
def MuteLimitsWrongFalsely : Prop := muteLimitsRow.holds Tryd.pinned (OpenSpec.ofChange muteLimitsWrong)

/-- 'pagewatchlaw22.MuteSources': WHATEVER THE INPUT: true; the input reads as it did. -/
def muteSourcesSpec : ChangeSpec := { name := "muteSources", fn := fun _ => fun
  | [d] => { results := [.lit (.bool true)], args := [d] }
  | _ => none }
def muteSourcesRow : OpenClaim := { program := "ytcblbcpnfidndaadoor", sum := "9cdf49bda592df6c55ebd78aff20c8aa1df5cb81e123604d3ce3dfe54d78ba1e", func := "pagewatch/pagewatchlaw22.MuteSources", spec := "muteSources", inPlace := ["internal/bytealg.IndexByteString", "internal/bytealg.IndexString"], unfollowed := true, recurses := true, named := ["unicode/utf8.first", "unicode/utf8.acceptRanges", "internal/bytealg.MaxLen"], apart := false, laid := [("unicode/utf8.acceptRanges", laid_unicode_utf8_acceptRanges), ("unicode/utf8.first", laid_unicode_utf8_first)] }
def MuteSourcesSaid : Prop := muteSourcesRow.holds Tryd.pinned (OpenSpec.ofChange muteSourcesSpec)

/-- ITS FALSE NEIGHBOUR: 'it returns false'. Refute it at one input. -/
def muteSourcesWrong : ChangeSpec := { name := "muteSources", fn := fun _ => fun
  | [d] => { results := [.lit (.bool false)], args := [d] }
  | _ => none }
def MuteSourcesWrongFalsely : Prop := muteSourcesRow.holds Tryd.pinned (OpenSpec.ofChange muteSourcesWrong)

/-- 'pagewatchlaw22.MuteTimes': WHATEVER THE INPUT: true; the input reads as it did. -/
def muteTimesSpec : ChangeSpec := { name := "muteTimes", fn := fun _ => fun
  | [d1, d2] => { results := [.lit (.bool true)], args := [d1, d2] }
  | _ => none }
def muteTimesRow : OpenClaim := { program := "ytcblbcpnfidndaadoor", sum := "9cdf49bda592df6c55ebd78aff20c8aa1df5cb81e123604d3ce3dfe54d78ba1e", func := "pagewatch/pagewatchlaw22.MuteTimes", spec := "muteTimes", inPlace := ["internal/bytealg.IndexByteString", "internal/bytealg.IndexString"], unfollowed := true, recurses := true, named := ["unicode/utf8.first", "unicode/utf8.acceptRanges", "internal/bytealg.MaxLen"], apart := false, laid := [("unicode/utf8.acceptRanges", laid_unicode_utf8_acceptRanges), ("unicode/utf8.first", laid_unicode_utf8_first)] }
def MuteTimesSaid : Prop := muteTimesRow.holds Tryd.pinned (OpenSpec.ofChange muteTimesSpec)

/-- ITS FALSE NEIGHBOUR: 'it returns false'. Refute it at one input. -/
def muteTimesWrong : ChangeSpec := { name := "muteTimes", fn := fun _ => fun
  | [d1, d2] => { results := [.lit (.bool false)], args := [d1, d2] }
  | _ => none }
def MuteTimesWrongFalsely : Prop := muteTimesRow.holds Tryd.pinned (OpenSpec.ofChange muteTimesWrong)

/-- 'pagewatchlaw22.MuteExact': WHATEVER THE INPUT: true; the input reads as it did. -/
def muteExactSpec : ChangeSpec := { name := "muteExact", fn := fun _ => fun
  | [d1, d2, d3, d4, d5, d6, d7] => { results := [.lit (.bool true)], args := [d1, d2, d3, d4, d5, d6, d7] }
  | _ => none }
def muteExactRow : OpenClaim := { program := "ytcblbcpnfidndaadoor", sum := "9cdf49bda592df6c55ebd78aff20c8aa1df5cb81e123604d3ce3dfe54d78ba1e", func := "pagewatch/pagewatchlaw22.MuteExact", spec := "muteExact", inPlace := ["internal/bytealg.IndexByteString", "internal/bytealg.IndexString"], unfollowed := true, recurses := true, named := ["unicode/utf8.first", "unicode/utf8.acceptRanges", "internal/bytealg.MaxLen"], apart := false, laid := [("unicode/utf8.acceptRanges", laid_unicode_utf8_acceptRanges), ("unicode/utf8.first", laid_unicode_utf8_first)] }
def MuteExactSaid : Prop := muteExactRow.holds Tryd.pinned (OpenSpec.ofChange muteExactSpec)

/-- ITS FALSE NEIGHBOUR: 'it returns false'. Refute it at one input. -/
def muteExactWrong : ChangeSpec := { name := "muteExact", fn := fun _ => fun
  | [d1, d2, d3, d4, d5, d6, d7] => { results := [.lit (.bool false)], args := [d1, d2, d3, d4, d5, d6, d7] }
  | _ => none }
def MuteExactWrongFalsely : Prop := muteExactRow.holds Tryd.pinned (OpenSpec.ofChange muteExactWrong)

/- THE SECOND FORM. 'bulk': how many values and letters a reading holds, each counted each time it is reached (what is shared counts as often as it is met; a slice's spare places count too). A statement '..UptoSaid' is the law's where the arguments, and the package variables that the reading takes, are together of bulk at most 1048576: NARROWER than '..Said'. Prove '..Said' where nothing that the law and all that it calls make is longer than what came in: it says more and counts as full. Else prove '..UptoSaid'. A law counts once. -/
mutual
def uptoBulk {H : Type} : DataW H → Nat
  | .lit (.string bytes) => bytes.length + 1
  | .lit _ => 1
  | .nil => 1
  | .ptr d => uptoBulk d + 1
  | .slice elems spare => uptoBulkAll elems + uptoBulkAll spare + 1
  | .agg parts => uptoBulkAll parts + 1
  | .iface _ d => uptoBulk d + 1
  | .map entries => uptoBulkEntries entries + 1
  | .held _ => 1
def uptoBulkAll {H : Type} : List (DataW H) → Nat
  | [] => 0
  | d :: r => uptoBulk d + uptoBulkAll r
def uptoBulkEntries {H : Type} : List (Lit × DataW H) → Nat
  | [] => 0
  | x :: r => uptoBulkEntry x + uptoBulkEntries r
def uptoBulkEntry {H : Type} : Lit × DataW H → Nat
  | (.string bytes, d) => bytes.length + uptoBulk d + 1
  | (_, d) => uptoBulk d + 1
 end
def uptoSmall : (H : Type) → List (DataW H) → Bool := fun _ ds => decide (uptoBulkAll ds ≤ 1048576)
def OpenSpec.upto (s : _root_.Go.ChangeSpec) : _root_.Go.OpenSpec := { _root_.Go.OpenSpec.ofChange s with cond := some uptoSmall }

/-- 'pagewatchlaw20.LabelMatches', WHERE WHAT IT READS IS OF BULK AT MOST 1048576: true; the input reads as it did. -/
def labelMatchesUptoRow : OpenClaim := { program := "ytcblbcpnfidndaadoor", sum := "9cdf49bda592df6c55ebd78aff20c8aa1df5cb81e123604d3ce3dfe54d78ba1e", func := "pagewatch/pagewatchlaw20.LabelMatches", spec := "labelMatches", inPlace := ["internal/abi.NoEscape", "internal/bytealg.MakeNoZero", "internal/bytealg.IndexByteString", "internal/bytealg.IndexString"], unfollowed := true, recurses := true, named := ["internal/bytealg.MaxLen", "unicode/utf8.first", "unicode/utf8.acceptRanges"], apart := false, laid := [("unicode/utf8.acceptRanges", laid_unicode_utf8_acceptRanges), ("unicode/utf8.first", laid_unicode_utf8_first)], narrowed := true }
def LabelMatchesUptoSaid : Prop := labelMatchesUptoRow.holds Tryd.pinned (OpenSpec.upto labelMatchesSpec)

/-- 'pagewatchlaw20.LabelBack', WHERE WHAT IT READS IS OF BULK AT MOST 1048576: true; the input reads as it did. -/
def labelBackUptoRow : OpenClaim := { program := "ytcblbcpnfidndaadoor", sum := "9cdf49bda592df6c55ebd78aff20c8aa1df5cb81e123604d3ce3dfe54d78ba1e", func := "pagewatch/pagewatchlaw20.LabelBack", spec := "labelBack", inPlace := ["internal/abi.NoEscape", "internal/bytealg.MakeNoZero", "internal/bytealg.IndexByteString", "internal/bytealg.IndexString"], unfollowed := true, recurses := true, named := ["internal/bytealg.MaxLen", "unicode/utf8.first", "unicode/utf8.acceptRanges"], apart := false, laid := [("unicode/utf8.acceptRanges", laid_unicode_utf8_acceptRanges), ("unicode/utf8.first", laid_unicode_utf8_first)], narrowed := true }
def LabelBackUptoSaid : Prop := labelBackUptoRow.holds Tryd.pinned (OpenSpec.upto labelBackSpec)

/-- 'pagewatchlaw20.LabelPatterns', WHERE WHAT IT READS IS OF BULK AT MOST 1048576: true; the input reads as it did. -/
def labelPatternsUptoRow : OpenClaim := { program := "ytcblbcpnfidndaadoor", sum := "9cdf49bda592df6c55ebd78aff20c8aa1df5cb81e123604d3ce3dfe54d78ba1e", func := "pagewatch/pagewatchlaw20.LabelPatterns", spec := "labelPatterns", inPlace := ["internal/abi.NoEscape", "internal/bytealg.MakeNoZero", "internal/bytealg.IndexByteString", "internal/bytealg.IndexString"], unfollowed := true, recurses := true, named := ["internal/bytealg.MaxLen", "unicode/utf8.first", "unicode/utf8.acceptRanges"], apart := false, laid := [("unicode/utf8.acceptRanges", laid_unicode_utf8_acceptRanges), ("unicode/utf8.first", laid_unicode_utf8_first)], narrowed := true }
def LabelPatternsUptoSaid : Prop := labelPatternsUptoRow.holds Tryd.pinned (OpenSpec.upto labelPatternsSpec)

/-- 'pagewatchlaw20.LabelOpposites', WHERE WHAT IT READS IS OF BULK AT MOST 1048576: true; the input reads as it did. -/
def labelOppositesUptoRow : OpenClaim := { program := "ytcblbcpnfidndaadoor", sum := "9cdf49bda592df6c55ebd78aff20c8aa1df5cb81e123604d3ce3dfe54d78ba1e", func := "pagewatch/pagewatchlaw20.LabelOpposites", spec := "labelOpposites", inPlace := ["internal/abi.NoEscape", "internal/bytealg.MakeNoZero", "internal/bytealg.IndexByteString", "internal/bytealg.IndexString"], unfollowed := true, recurses := true, named := ["internal/bytealg.MaxLen", "unicode/utf8.first", "unicode/utf8.acceptRanges"], apart := false, laid := [("unicode/utf8.acceptRanges", laid_unicode_utf8_acceptRanges), ("unicode/utf8.first", laid_unicode_utf8_first)], narrowed := true }
def LabelOppositesUptoSaid : Prop := labelOppositesUptoRow.holds Tryd.pinned (OpenSpec.upto labelOppositesSpec)

/-- 'pagewatchlaw20.LabelExact', WHERE WHAT IT READS IS OF BULK AT MOST 1048576: true; the input reads as it did. -/
def labelExactUptoRow : OpenClaim := { program := "ytcblbcpnfidndaadoor", sum := "9cdf49bda592df6c55ebd78aff20c8aa1df5cb81e123604d3ce3dfe54d78ba1e", func := "pagewatch/pagewatchlaw20.LabelExact", spec := "labelExact", inPlace := ["internal/abi.NoEscape", "internal/bytealg.MakeNoZero", "internal/bytealg.IndexByteString", "internal/bytealg.IndexString"], unfollowed := true, recurses := true, named := ["internal/bytealg.MaxLen", "unicode/utf8.first", "unicode/utf8.acceptRanges"], apart := false, laid := [("unicode/utf8.acceptRanges", laid_unicode_utf8_acceptRanges), ("unicode/utf8.first", laid_unicode_utf8_first)], narrowed := true }
def LabelExactUptoSaid : Prop := labelExactUptoRow.holds Tryd.pinned (OpenSpec.upto labelExactSpec)

/-- 'pagewatchlaw21.RouteLimits', WHERE WHAT IT READS IS OF BULK AT MOST 1048576: true; the input reads as it did. -/
def routeLimitsUptoRow : OpenClaim := { program := "ytcblbcpnfidndaadoor", sum := "9cdf49bda592df6c55ebd78aff20c8aa1df5cb81e123604d3ce3dfe54d78ba1e", func := "pagewatch/pagewatchlaw21.RouteLimits", spec := "routeLimits", inPlace := ["internal/bytealg.IndexByteString", "internal/bytealg.IndexString", "internal/abi.NoEscape", "internal/bytealg.MakeNoZero"], unfollowed := true, recurses := true, named := ["unicode/utf8.first", "unicode/utf8.acceptRanges", "internal/bytealg.MaxLen"], apart := false, laid := [("unicode/utf8.acceptRanges", laid_unicode_utf8_acceptRanges), ("unicode/utf8.first", laid_unicode_utf8_first)], narrowed := true }
def RouteLimitsUptoSaid : Prop := routeLimitsUptoRow.holds Tryd.pinned (OpenSpec.upto routeLimitsSpec)

/-- 'pagewatchlaw21.RouteExact', WHERE WHAT IT READS IS OF BULK AT MOST 1048576: true; the input reads as it did. -/
def routeExactUptoRow : OpenClaim := { program := "ytcblbcpnfidndaadoor", sum := "9cdf49bda592df6c55ebd78aff20c8aa1df5cb81e123604d3ce3dfe54d78ba1e", func := "pagewatch/pagewatchlaw21.RouteExact", spec := "routeExact", inPlace := ["internal/bytealg.IndexByteString", "internal/bytealg.IndexString", "internal/abi.NoEscape", "internal/bytealg.MakeNoZero"], unfollowed := true, recurses := true, named := ["unicode/utf8.first", "unicode/utf8.acceptRanges", "internal/bytealg.MaxLen"], apart := false, laid := [("unicode/utf8.acceptRanges", laid_unicode_utf8_acceptRanges), ("unicode/utf8.first", laid_unicode_utf8_first)], narrowed := true }
def RouteExactUptoSaid : Prop := routeExactUptoRow.holds Tryd.pinned (OpenSpec.upto routeExactSpec)

/-- 'pagewatchlaw21.RoutePaths', WHERE WHAT IT READS IS OF BULK AT MOST 1048576: true; the input reads as it did. -/
def routePathsUptoRow : OpenClaim := { program := "ytcblbcpnfidndaadoor", sum := "9cdf49bda592df6c55ebd78aff20c8aa1df5cb81e123604d3ce3dfe54d78ba1e", func := "pagewatch/pagewatchlaw21.RoutePaths", spec := "routePaths", inPlace := ["internal/bytealg.IndexByteString", "internal/bytealg.IndexString", "internal/abi.NoEscape", "internal/bytealg.MakeNoZero"], unfollowed := true, recurses := true, named := ["unicode/utf8.first", "unicode/utf8.acceptRanges", "internal/bytealg.MaxLen"], apart := false, laid := [("unicode/utf8.acceptRanges", laid_unicode_utf8_acceptRanges), ("unicode/utf8.first", laid_unicode_utf8_first)], narrowed := true }
def RoutePathsUptoSaid : Prop := routePathsUptoRow.holds Tryd.pinned (OpenSpec.upto routePathsSpec)

/-- 'pagewatchlaw21.RouteOne', WHERE WHAT IT READS IS OF BULK AT MOST 1048576: true; the input reads as it did. -/
def routeOneUptoRow : OpenClaim := { program := "ytcblbcpnfidndaadoor", sum := "9cdf49bda592df6c55ebd78aff20c8aa1df5cb81e123604d3ce3dfe54d78ba1e", func := "pagewatch/pagewatchlaw21.RouteOne", spec := "routeOne", inPlace := ["internal/bytealg.IndexByteString", "internal/bytealg.IndexString", "internal/abi.NoEscape", "internal/bytealg.MakeNoZero"], unfollowed := true, recurses := true, named := ["unicode/utf8.first", "unicode/utf8.acceptRanges", "internal/bytealg.MaxLen"], apart := false, laid := [("unicode/utf8.acceptRanges", laid_unicode_utf8_acceptRanges), ("unicode/utf8.first", laid_unicode_utf8_first)], narrowed := true }
def RouteOneUptoSaid : Prop := routeOneUptoRow.holds Tryd.pinned (OpenSpec.upto routeOneSpec)

/-- 'pagewatchlaw21.RouteKeys', WHERE WHAT IT READS IS OF BULK AT MOST 1048576: true; the input reads as it did. -/
def routeKeysUptoRow : OpenClaim := { program := "ytcblbcpnfidndaadoor", sum := "9cdf49bda592df6c55ebd78aff20c8aa1df5cb81e123604d3ce3dfe54d78ba1e", func := "pagewatch/pagewatchlaw21.RouteKeys", spec := "routeKeys", inPlace := ["internal/bytealg.IndexByteString", "internal/bytealg.IndexString", "internal/abi.NoEscape", "internal/bytealg.MakeNoZero"], unfollowed := true, recurses := true, named := ["unicode/utf8.first", "unicode/utf8.acceptRanges", "internal/bytealg.MaxLen"], apart := false, laid := [("unicode/utf8.acceptRanges", laid_unicode_utf8_acceptRanges), ("unicode/utf8.first", laid_unicode_utf8_first)], narrowed := true }
def RouteKeysUptoSaid : Prop := routeKeysUptoRow.holds Tryd.pinned (OpenSpec.upto routeKeysSpec)

/-- 'pagewatchlaw22.MuteLimits', WHERE WHAT IT READS IS OF BULK AT MOST 1048576: true; the input reads as it did. -/
def muteLimitsUptoRow : OpenClaim := { program := "ytcblbcpnfidndaadoor", sum := "9cdf49bda592df6c55ebd78aff20c8aa1df5cb81e123604d3ce3dfe54d78ba1e", func := "pagewatch/pagewatchlaw22.MuteLimits", spec := "muteLimits", inPlace := ["internal/bytealg.IndexByteString", "internal/bytealg.IndexString"], unfollowed := true, recurses := true, named := ["unicode/utf8.first", "unicode/utf8.acceptRanges", "internal/bytealg.MaxLen"], apart := false, laid := [("unicode/utf8.acceptRanges", laid_unicode_utf8_acceptRanges), ("unicode/utf8.first", laid_unicode_utf8_first)], narrowed := true }
def MuteLimitsUptoSaid : Prop := muteLimitsUptoRow.holds Tryd.pinned (OpenSpec.upto muteLimitsSpec)

/-- 'pagewatchlaw22.MuteSources', WHERE WHAT IT READS IS OF BULK AT MOST 1048576: true; the input reads as it did. -/
def muteSourcesUptoRow : OpenClaim := { program := "ytcblbcpnfidndaadoor", sum := "9cdf49bda592df6c55ebd78aff20c8aa1df5cb81e123604d3ce3dfe54d78ba1e", func := "pagewatch/pagewatchlaw22.MuteSources", spec := "muteSources", inPlace := ["internal/bytealg.IndexByteString", "internal/bytealg.IndexString"], unfollowed := true, recurses := true, named := ["unicode/utf8.first", "unicode/utf8.acceptRanges", "internal/bytealg.MaxLen"], apart := false, laid := [("unicode/utf8.acceptRanges", laid_unicode_utf8_acceptRanges), ("unicode/utf8.first", laid_unicode_utf8_first)], narrowed := true }
def MuteSourcesUptoSaid : Prop := muteSourcesUptoRow.holds Tryd.pinned (OpenSpec.upto muteSourcesSpec)

/-- 'pagewatchlaw22.MuteTimes', WHERE WHAT IT READS IS OF BULK AT MOST 1048576: true; the input reads as it did. -/
def muteTimesUptoRow : OpenClaim := { program := "ytcblbcpnfidndaadoor", sum := "9cdf49bda592df6c55ebd78aff20c8aa1df5cb81e123604d3ce3dfe54d78ba1e", func := "pagewatch/pagewatchlaw22.MuteTimes", spec := "muteTimes", inPlace := ["internal/bytealg.IndexByteString", "internal/bytealg.IndexString"], unfollowed := true, recurses := true, named := ["unicode/utf8.first", "unicode/utf8.acceptRanges", "internal/bytealg.MaxLen"], apart := false, laid := [("unicode/utf8.acceptRanges", laid_unicode_utf8_acceptRanges), ("unicode/utf8.first", laid_unicode_utf8_first)], narrowed := true }
def MuteTimesUptoSaid : Prop := muteTimesUptoRow.holds Tryd.pinned (OpenSpec.upto muteTimesSpec)

/-- 'pagewatchlaw22.MuteExact', WHERE WHAT IT READS IS OF BULK AT MOST 1048576: true; the input reads as it did. -/
def muteExactUptoRow : OpenClaim := { program := "ytcblbcpnfidndaadoor", sum := "9cdf49bda592df6c55ebd78aff20c8aa1df5cb81e123604d3ce3dfe54d78ba1e", func := "pagewatch/pagewatchlaw22.MuteExact", spec := "muteExact", inPlace := ["internal/bytealg.IndexByteString", "internal/bytealg.IndexString"], unfollowed := true, recurses := true, named := ["unicode/utf8.first", "unicode/utf8.acceptRanges", "internal/bytealg.MaxLen"], apart := false, laid := [("unicode/utf8.acceptRanges", laid_unicode_utf8_acceptRanges), ("unicode/utf8.first", laid_unicode_utf8_first)], narrowed := true }
def MuteExactUptoSaid : Prop := muteExactUptoRow.holds Tryd.pinned (OpenSpec.upto muteExactSpec)

end Rows
end Go.Proofs.YtcblbcpnfidndaaDoor
