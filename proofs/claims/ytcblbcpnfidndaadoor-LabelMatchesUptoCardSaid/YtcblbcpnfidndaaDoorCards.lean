/-
  DERIVED. GIVEN WITH THE SEED: THE CARDS: each row of YtcblbcpnfidndaaDoorRows.lean that lists a variable, with what it lists TIED to the program's text (the seventh form; the later family's looks); each row that meets fmt, with fmt's text TOLD by the authors' own Lean function (tested against real Go, not proved from fmt's source: count such statements apart). THE CARD IS WHAT COUNTS. Prove the row's statement (the work); the ties are given (YtcblbcpnfidndaaDoorTie.lean); close each card by the builder's one call (the guide's Derived/Test/ToyasCard.lean, 'card_holds'). Laid BY PROGRAM, IN A SANDBOX (cutbox-door.mjs). By AI agents, Wed Nov 11 2026. No macro, syntax, notation, axiom, sorry.
-/
import Derived.Test.YtcblbcpnfidndaaDoorRows
import GoSem.ClaimSeven
namespace Go.Proofs.YtcblbcpnfidndaaDoor
namespace Rows

/-- THE TIED CARD OF 'pagewatchlaw20.LabelMatches'. -/
def labelMatchesCard : Claim7 := { stood := { row := labelMatchesRow, standIns := [], harness := (true, "729b3f169717019f924ec491c1e76cc4a9eaed22f8ba795bc572668e0aa57777"), looks := false }, kinds := [], alts := [], laidByText := true, laidKinds := [.data, .pinned], laidTests := true, laidLooks := .later }
def LabelMatchesCardSaid : Prop := Claim7.holds Tryd.pinned (.plain (OpenSpec.ofChange labelMatchesSpec)) labelMatchesCard

/-- THE TIED CARD OF 'pagewatchlaw20.LabelBack'. -/
def labelBackCard : Claim7 := { stood := { row := labelBackRow, standIns := [], harness := (true, "729b3f169717019f924ec491c1e76cc4a9eaed22f8ba795bc572668e0aa57777"), looks := false }, kinds := [], alts := [], laidByText := true, laidKinds := [.data, .pinned], laidTests := true, laidLooks := .later }
def LabelBackCardSaid : Prop := Claim7.holds Tryd.pinned (.plain (OpenSpec.ofChange labelBackSpec)) labelBackCard

/-- THE TIED CARD OF 'pagewatchlaw20.LabelPatterns'. -/
def labelPatternsCard : Claim7 := { stood := { row := labelPatternsRow, standIns := [], harness := (true, "729b3f169717019f924ec491c1e76cc4a9eaed22f8ba795bc572668e0aa57777"), looks := false }, kinds := [], alts := [], laidByText := true, laidKinds := [.data, .pinned], laidTests := true, laidLooks := .later }
def LabelPatternsCardSaid : Prop := Claim7.holds Tryd.pinned (.plain (OpenSpec.ofChange labelPatternsSpec)) labelPatternsCard

/-- THE TIED CARD OF 'pagewatchlaw20.LabelOpposites'. -/
def labelOppositesCard : Claim7 := { stood := { row := labelOppositesRow, standIns := [], harness := (true, "729b3f169717019f924ec491c1e76cc4a9eaed22f8ba795bc572668e0aa57777"), looks := false }, kinds := [], alts := [], laidByText := true, laidKinds := [.data, .pinned], laidTests := true, laidLooks := .later }
def LabelOppositesCardSaid : Prop := Claim7.holds Tryd.pinned (.plain (OpenSpec.ofChange labelOppositesSpec)) labelOppositesCard

/-- THE TIED CARD OF 'pagewatchlaw20.LabelExact'. -/
def labelExactCard : Claim7 := { stood := { row := labelExactRow, standIns := [], harness := (true, "729b3f169717019f924ec491c1e76cc4a9eaed22f8ba795bc572668e0aa57777"), looks := false }, kinds := [], alts := [], laidByText := true, laidKinds := [.data, .pinned], laidTests := true, laidLooks := .later }
def LabelExactCardSaid : Prop := Claim7.holds Tryd.pinned (.plain (OpenSpec.ofChange labelExactSpec)) labelExactCard

/-- THE TIED CARD OF 'pagewatchlaw21.RouteLimits'. -/
def routeLimitsCard : Claim7 := { stood := { row := routeLimitsRow, standIns := [], harness := (true, "729b3f169717019f924ec491c1e76cc4a9eaed22f8ba795bc572668e0aa57777"), looks := false }, kinds := [], alts := [], laidByText := true, laidKinds := [.data, .pinned], laidTests := true, laidLooks := .later }
def RouteLimitsCardSaid : Prop := Claim7.holds Tryd.pinned (.plain (OpenSpec.ofChange routeLimitsSpec)) routeLimitsCard

/-- THE TIED CARD OF 'pagewatchlaw21.RouteExact'. -/
def routeExactCard : Claim7 := { stood := { row := routeExactRow, standIns := [], harness := (true, "729b3f169717019f924ec491c1e76cc4a9eaed22f8ba795bc572668e0aa57777"), looks := false }, kinds := [], alts := [], laidByText := true, laidKinds := [.data, .pinned], laidTests := true, laidLooks := .later }
def RouteExactCardSaid : Prop := Claim7.holds Tryd.pinned (.plain (OpenSpec.ofChange routeExactSpec)) routeExactCard

/-- THE TIED CARD OF 'pagewatchlaw21.RoutePaths'. -/
def routePathsCard : Claim7 := { stood := { row := routePathsRow, standIns := [], harness := (true, "729b3f169717019f924ec491c1e76cc4a9eaed22f8ba795bc572668e0aa57777"), looks := false }, kinds := [], alts := [], laidByText := true, laidKinds := [.data, .pinned], laidTests := true, laidLooks := .later }
def RoutePathsCardSaid : Prop := Claim7.holds Tryd.pinned (.plain (OpenSpec.ofChange routePathsSpec)) routePathsCard

/-- THE TIED CARD OF 'pagewatchlaw21.RouteOne'. -/
def routeOneCard : Claim7 := { stood := { row := routeOneRow, standIns := [], harness := (true, "729b3f169717019f924ec491c1e76cc4a9eaed22f8ba795bc572668e0aa57777"), looks := false }, kinds := [], alts := [], laidByText := true, laidKinds := [.data, .pinned], laidTests := true, laidLooks := .later }
def RouteOneCardSaid : Prop := Claim7.holds Tryd.pinned (.plain (OpenSpec.ofChange routeOneSpec)) routeOneCard

/-- THE TIED CARD OF 'pagewatchlaw21.RouteKeys'. -/
def routeKeysCard : Claim7 := { stood := { row := routeKeysRow, standIns := [], harness := (true, "729b3f169717019f924ec491c1e76cc4a9eaed22f8ba795bc572668e0aa57777"), looks := false }, kinds := [], alts := [], laidByText := true, laidKinds := [.data, .pinned], laidTests := true, laidLooks := .later }
def RouteKeysCardSaid : Prop := Claim7.holds Tryd.pinned (.plain (OpenSpec.ofChange routeKeysSpec)) routeKeysCard

/-- THE TIED CARD OF 'pagewatchlaw22.MuteLimits'. -/
def muteLimitsCard : Claim7 := { stood := { row := muteLimitsRow, standIns := [], harness := (true, "729b3f169717019f924ec491c1e76cc4a9eaed22f8ba795bc572668e0aa57777"), looks := false }, kinds := [], alts := [], laidByText := true, laidKinds := [.data, .pinned], laidTests := true, laidLooks := .later }
def MuteLimitsCardSaid : Prop := Claim7.holds Tryd.pinned (.plain (OpenSpec.ofChange muteLimitsSpec)) muteLimitsCard

/-- THE TIED CARD OF 'pagewatchlaw22.MuteSources'. -/
def muteSourcesCard : Claim7 := { stood := { row := muteSourcesRow, standIns := [], harness := (true, "729b3f169717019f924ec491c1e76cc4a9eaed22f8ba795bc572668e0aa57777"), looks := false }, kinds := [], alts := [], laidByText := true, laidKinds := [.data, .pinned], laidTests := true, laidLooks := .later }
def MuteSourcesCardSaid : Prop := Claim7.holds Tryd.pinned (.plain (OpenSpec.ofChange muteSourcesSpec)) muteSourcesCard

/-- THE TIED CARD OF 'pagewatchlaw22.MuteTimes'. -/
def muteTimesCard : Claim7 := { stood := { row := muteTimesRow, standIns := [], harness := (true, "729b3f169717019f924ec491c1e76cc4a9eaed22f8ba795bc572668e0aa57777"), looks := false }, kinds := [], alts := [], laidByText := true, laidKinds := [.data, .pinned], laidTests := true, laidLooks := .later }
def MuteTimesCardSaid : Prop := Claim7.holds Tryd.pinned (.plain (OpenSpec.ofChange muteTimesSpec)) muteTimesCard

/-- THE TIED CARD OF 'pagewatchlaw22.MuteExact'. -/
def muteExactCard : Claim7 := { stood := { row := muteExactRow, standIns := [], harness := (true, "729b3f169717019f924ec491c1e76cc4a9eaed22f8ba795bc572668e0aa57777"), looks := false }, kinds := [], alts := [], laidByText := true, laidKinds := [.data, .pinned], laidTests := true, laidLooks := .later }
def MuteExactCardSaid : Prop := Claim7.holds Tryd.pinned (.plain (OpenSpec.ofChange muteExactSpec)) muteExactCard

/-- THE SECOND FORM's CARD OF 'pagewatchlaw20.LabelMatches'. -/
def labelMatchesUptoCard : Claim7 := { stood := { row := labelMatchesUptoRow, standIns := [], harness := (true, "729b3f169717019f924ec491c1e76cc4a9eaed22f8ba795bc572668e0aa57777"), looks := false }, kinds := [], alts := [], laidByText := true, laidKinds := [.data, .pinned], laidTests := true, laidLooks := .later }
def LabelMatchesUptoCardSaid : Prop := Claim7.holds Tryd.pinned (.plain (OpenSpec.upto labelMatchesSpec)) labelMatchesUptoCard

/-- THE SECOND FORM's CARD OF 'pagewatchlaw20.LabelBack'. -/
def labelBackUptoCard : Claim7 := { stood := { row := labelBackUptoRow, standIns := [], harness := (true, "729b3f169717019f924ec491c1e76cc4a9eaed22f8ba795bc572668e0aa57777"), looks := false }, kinds := [], alts := [], laidByText := true, laidKinds := [.data, .pinned], laidTests := true, laidLooks := .later }
def LabelBackUptoCardSaid : Prop := Claim7.holds Tryd.pinned (.plain (OpenSpec.upto labelBackSpec)) labelBackUptoCard

/-- THE SECOND FORM's CARD OF 'pagewatchlaw20.LabelPatterns'. -/
def labelPatternsUptoCard : Claim7 := { stood := { row := labelPatternsUptoRow, standIns := [], harness := (true, "729b3f169717019f924ec491c1e76cc4a9eaed22f8ba795bc572668e0aa57777"), looks := false }, kinds := [], alts := [], laidByText := true, laidKinds := [.data, .pinned], laidTests := true, laidLooks := .later }
def LabelPatternsUptoCardSaid : Prop := Claim7.holds Tryd.pinned (.plain (OpenSpec.upto labelPatternsSpec)) labelPatternsUptoCard

/-- THE SECOND FORM's CARD OF 'pagewatchlaw20.LabelOpposites'. -/
def labelOppositesUptoCard : Claim7 := { stood := { row := labelOppositesUptoRow, standIns := [], harness := (true, "729b3f169717019f924ec491c1e76cc4a9eaed22f8ba795bc572668e0aa57777"), looks := false }, kinds := [], alts := [], laidByText := true, laidKinds := [.data, .pinned], laidTests := true, laidLooks := .later }
def LabelOppositesUptoCardSaid : Prop := Claim7.holds Tryd.pinned (.plain (OpenSpec.upto labelOppositesSpec)) labelOppositesUptoCard

/-- THE SECOND FORM's CARD OF 'pagewatchlaw20.LabelExact'. -/
def labelExactUptoCard : Claim7 := { stood := { row := labelExactUptoRow, standIns := [], harness := (true, "729b3f169717019f924ec491c1e76cc4a9eaed22f8ba795bc572668e0aa57777"), looks := false }, kinds := [], alts := [], laidByText := true, laidKinds := [.data, .pinned], laidTests := true, laidLooks := .later }
def LabelExactUptoCardSaid : Prop := Claim7.holds Tryd.pinned (.plain (OpenSpec.upto labelExactSpec)) labelExactUptoCard

/-- THE SECOND FORM's CARD OF 'pagewatchlaw21.RouteLimits'. -/
def routeLimitsUptoCard : Claim7 := { stood := { row := routeLimitsUptoRow, standIns := [], harness := (true, "729b3f169717019f924ec491c1e76cc4a9eaed22f8ba795bc572668e0aa57777"), looks := false }, kinds := [], alts := [], laidByText := true, laidKinds := [.data, .pinned], laidTests := true, laidLooks := .later }
def RouteLimitsUptoCardSaid : Prop := Claim7.holds Tryd.pinned (.plain (OpenSpec.upto routeLimitsSpec)) routeLimitsUptoCard

/-- THE SECOND FORM's CARD OF 'pagewatchlaw21.RouteExact'. -/
def routeExactUptoCard : Claim7 := { stood := { row := routeExactUptoRow, standIns := [], harness := (true, "729b3f169717019f924ec491c1e76cc4a9eaed22f8ba795bc572668e0aa57777"), looks := false }, kinds := [], alts := [], laidByText := true, laidKinds := [.data, .pinned], laidTests := true, laidLooks := .later }
def RouteExactUptoCardSaid : Prop := Claim7.holds Tryd.pinned (.plain (OpenSpec.upto routeExactSpec)) routeExactUptoCard

/-- THE SECOND FORM's CARD OF 'pagewatchlaw21.RoutePaths'. -/
def routePathsUptoCard : Claim7 := { stood := { row := routePathsUptoRow, standIns := [], harness := (true, "729b3f169717019f924ec491c1e76cc4a9eaed22f8ba795bc572668e0aa57777"), looks := false }, kinds := [], alts := [], laidByText := true, laidKinds := [.data, .pinned], laidTests := true, laidLooks := .later }
def RoutePathsUptoCardSaid : Prop := Claim7.holds Tryd.pinned (.plain (OpenSpec.upto routePathsSpec)) routePathsUptoCard

/-- THE SECOND FORM's CARD OF 'pagewatchlaw21.RouteOne'. -/
def routeOneUptoCard : Claim7 := { stood := { row := routeOneUptoRow, standIns := [], harness := (true, "729b3f169717019f924ec491c1e76cc4a9eaed22f8ba795bc572668e0aa57777"), looks := false }, kinds := [], alts := [], laidByText := true, laidKinds := [.data, .pinned], laidTests := true, laidLooks := .later }
def RouteOneUptoCardSaid : Prop := Claim7.holds Tryd.pinned (.plain (OpenSpec.upto routeOneSpec)) routeOneUptoCard

/-- THE SECOND FORM's CARD OF 'pagewatchlaw21.RouteKeys'. -/
def routeKeysUptoCard : Claim7 := { stood := { row := routeKeysUptoRow, standIns := [], harness := (true, "729b3f169717019f924ec491c1e76cc4a9eaed22f8ba795bc572668e0aa57777"), looks := false }, kinds := [], alts := [], laidByText := true, laidKinds := [.data, .pinned], laidTests := true, laidLooks := .later }
def RouteKeysUptoCardSaid : Prop := Claim7.holds Tryd.pinned (.plain (OpenSpec.upto routeKeysSpec)) routeKeysUptoCard

/-- THE SECOND FORM's CARD OF 'pagewatchlaw22.MuteLimits'. -/
def muteLimitsUptoCard : Claim7 := { stood := { row := muteLimitsUptoRow, standIns := [], harness := (true, "729b3f169717019f924ec491c1e76cc4a9eaed22f8ba795bc572668e0aa57777"), looks := false }, kinds := [], alts := [], laidByText := true, laidKinds := [.data, .pinned], laidTests := true, laidLooks := .later }
def MuteLimitsUptoCardSaid : Prop := Claim7.holds Tryd.pinned (.plain (OpenSpec.upto muteLimitsSpec)) muteLimitsUptoCard

/-- THE SECOND FORM's CARD OF 'pagewatchlaw22.MuteSources'. -/
def muteSourcesUptoCard : Claim7 := { stood := { row := muteSourcesUptoRow, standIns := [], harness := (true, "729b3f169717019f924ec491c1e76cc4a9eaed22f8ba795bc572668e0aa57777"), looks := false }, kinds := [], alts := [], laidByText := true, laidKinds := [.data, .pinned], laidTests := true, laidLooks := .later }
def MuteSourcesUptoCardSaid : Prop := Claim7.holds Tryd.pinned (.plain (OpenSpec.upto muteSourcesSpec)) muteSourcesUptoCard

/-- THE SECOND FORM's CARD OF 'pagewatchlaw22.MuteTimes'. -/
def muteTimesUptoCard : Claim7 := { stood := { row := muteTimesUptoRow, standIns := [], harness := (true, "729b3f169717019f924ec491c1e76cc4a9eaed22f8ba795bc572668e0aa57777"), looks := false }, kinds := [], alts := [], laidByText := true, laidKinds := [.data, .pinned], laidTests := true, laidLooks := .later }
def MuteTimesUptoCardSaid : Prop := Claim7.holds Tryd.pinned (.plain (OpenSpec.upto muteTimesSpec)) muteTimesUptoCard

/-- THE SECOND FORM's CARD OF 'pagewatchlaw22.MuteExact'. -/
def muteExactUptoCard : Claim7 := { stood := { row := muteExactUptoRow, standIns := [], harness := (true, "729b3f169717019f924ec491c1e76cc4a9eaed22f8ba795bc572668e0aa57777"), looks := false }, kinds := [], alts := [], laidByText := true, laidKinds := [.data, .pinned], laidTests := true, laidLooks := .later }
def MuteExactUptoCardSaid : Prop := Claim7.holds Tryd.pinned (.plain (OpenSpec.upto muteExactSpec)) muteExactUptoCard
end Rows
end Go.Proofs.YtcblbcpnfidndaaDoor
