/-
  NARROWER THAN 'FOR EVERY INPUT', by the rows' own cells (each row's printed sentence says how): IntakeRuns: laid · IntakeTells: laid · IntakeApart: laid · IntakeSilences: laid · IntakeExact: laid · IntakeValid: laid.
  DERIVED. THE GIVEN ROWS OF THIS SEAT. 6 by the template 'for every input the law returns true; each argument reads behind the call as it read before'; 0 by the template 'total and deterministic' (their statements: YtchnmpafhfjimaaGreatDoorTotals.lean).
  GIVEN WITH THE SEED: the statements are not yours to turn. If you find one false, say at which input.
  Laid BY PROGRAM, IN A SANDBOX (cutbox-rows.mjs): the forced cells as the released guide's own fill.sh prints them over the translation cb199e38c72e72d7… (all of the seat's roots in one cut). By AI agents, Wed Nov 11 2026. No macro, syntax, notation, axiom, sorry.
-/
import Derived.Test.YtchnmpafhfjimaaGreatDoorChecked
import GoSem.PinnedTables
import GoSem.Claim
import GoSem.ClaimJoined
import GoSem.ClaimMapViews
import Derived.JoinedTies
import Derived.KernelRfl
namespace Go.Proofs.YtchnmpafhfjimaaGreatDoor
/- THE CELL 'sum', in the pinned program and in every row, IS THE sha256 OF THE DUMP (.gsa) THAT YtchnmpafhfjimaaGreatDoorProg.lean LOADS. Nothing in Lean hashes anything: it is a label: what it is worth is what the hold of that sum in a sandbox is worth. -/
noncomputable def Tryz.pinned : Pinned := { name := "ytchnmpafhfjimaagreatdoor", sum := "cb199e38c72e72d79af3ab75febc60aa0edcbb9eb13622dcce45b820ce92a23d", checked := Tryz.checked }
namespace Rows
def none {H : Type} : Left H := { results := [], args := [] }

/- WHAT THE LISTED PACKAGE-LEVEL VARIABLES READ AS WHEN THE CALL BEGINS. Each datum BY PROGRAM (the guide's laid-datum.mjs) off the statement by which the dump's own 'gosem.cut.vars' lays the variable. In a bare row this is a premise. The card (YtchnmpafhfjimaaGreatDoorCards.lean) ties it to the program's text. -/
def laid_unicode_utf8_acceptRanges {H : Type} : DataW H := .agg [.agg [.lit (.int .u8 128), .lit (.int .u8 191)], .agg [.lit (.int .u8 160), .lit (.int .u8 191)], .agg [.lit (.int .u8 128), .lit (.int .u8 159)], .agg [.lit (.int .u8 144), .lit (.int .u8 191)], .agg [.lit (.int .u8 128), .lit (.int .u8 143)], .agg [.lit (.int .u8 0), .lit (.int .u8 0)], .agg [.lit (.int .u8 0), .lit (.int .u8 0)], .agg [.lit (.int .u8 0), .lit (.int .u8 0)], .agg [.lit (.int .u8 0), .lit (.int .u8 0)], .agg [.lit (.int .u8 0), .lit (.int .u8 0)], .agg [.lit (.int .u8 0), .lit (.int .u8 0)], .agg [.lit (.int .u8 0), .lit (.int .u8 0)], .agg [.lit (.int .u8 0), .lit (.int .u8 0)], .agg [.lit (.int .u8 0), .lit (.int .u8 0)], .agg [.lit (.int .u8 0), .lit (.int .u8 0)], .agg [.lit (.int .u8 0), .lit (.int .u8 0)]]
/-- One of Go's own tables, pinned by name: the form's constant. -/
def laid_unicode_utf8_first : DataW Unit := Go.Pinned.utf8First

/-- 'pagewatchlaw24.IntakeRuns': WHATEVER THE INPUT: true; the input reads as it did. -/
def intakeRunsSpec : ChangeSpec := { name := "intakeRuns", fn := fun _ => fun
  | [d1, d2, d3] => { results := [.lit (.bool true)], args := [d1, d2, d3] }
  | _ => none }
def intakeRunsRow : OpenClaim := { program := "ytchnmpafhfjimaagreatdoor", sum := "cb199e38c72e72d79af3ab75febc60aa0edcbb9eb13622dcce45b820ce92a23d", func := "pagewatch/pagewatchlaw24.IntakeRuns", spec := "intakeRuns", inPlace := ["internal/abi.NoEscape", "internal/bytealg.MakeNoZero", "internal/bytealg.IndexByteString", "internal/bytealg.IndexString", "slices.overlaps[pagewatch/api.Group]", "slices.overlaps[pagewatch/api.Member]"], unfollowed := true, recurses := true, named := ["unicode/utf8.first", "unicode/utf8.acceptRanges", "internal/bytealg.MaxLen"], apart := false, laid := [("unicode/utf8.acceptRanges", laid_unicode_utf8_acceptRanges), ("unicode/utf8.first", laid_unicode_utf8_first)] }
def IntakeRunsSaid : Prop := intakeRunsRow.holds Tryz.pinned (OpenSpec.ofChange intakeRunsSpec)

/-- ITS FALSE NEIGHBOUR: 'it returns false'. Refute it at one input. -/
def intakeRunsWrong : ChangeSpec := { name := "intakeRuns", fn := fun _ => fun
  | [d1, d2, d3] => { results := [.lit (.bool false)], args := [d1, d2, d3] }
  | _ => none }
def IntakeRunsWrongFalsely : Prop := intakeRunsRow.holds Tryz.pinned (OpenSpec.ofChange intakeRunsWrong)

/-- 'pagewatchlaw24.IntakeTells': WHATEVER THE INPUT: true; the input reads as it did. -/
def intakeTellsSpec : ChangeSpec := { name := "intakeTells", fn := fun _ => fun
  | [d1, d2] => { results := [.lit (.bool true)], args := [d1, d2] }
  | _ => none }
def intakeTellsRow : OpenClaim := { program := "ytchnmpafhfjimaagreatdoor", sum := "cb199e38c72e72d79af3ab75febc60aa0edcbb9eb13622dcce45b820ce92a23d", func := "pagewatch/pagewatchlaw24.IntakeTells", spec := "intakeTells", inPlace := ["internal/abi.NoEscape", "internal/bytealg.MakeNoZero", "internal/bytealg.IndexByteString", "internal/bytealg.IndexString", "slices.overlaps[pagewatch/api.Group]", "slices.overlaps[pagewatch/api.Member]"], unfollowed := true, recurses := true, named := ["unicode/utf8.first", "unicode/utf8.acceptRanges", "internal/bytealg.MaxLen"], apart := false, laid := [("unicode/utf8.acceptRanges", laid_unicode_utf8_acceptRanges), ("unicode/utf8.first", laid_unicode_utf8_first)] }
def IntakeTellsSaid : Prop := intakeTellsRow.holds Tryz.pinned (OpenSpec.ofChange intakeTellsSpec)

/-- ITS FALSE NEIGHBOUR: 'it returns false'. Refute it at one input. -/
def intakeTellsWrong : ChangeSpec := { name := "intakeTells", fn := fun _ => fun
  | [d1, d2] => { results := [.lit (.bool false)], args := [d1, d2] }
  | _ => none }
def IntakeTellsWrongFalsely : Prop := intakeTellsRow.holds Tryz.pinned (OpenSpec.ofChange intakeTellsWrong)

/-- 'pagewatchlaw24.IntakeApart': WHATEVER THE INPUT: true; the input reads as it did. -/
def intakeApartSpec : ChangeSpec := { name := "intakeApart", fn := fun _ => fun
  | [d] => { results := [.lit (.bool true)], args := [d] }
  | _ => none }
def intakeApartRow : OpenClaim := { program := "ytchnmpafhfjimaagreatdoor", sum := "cb199e38c72e72d79af3ab75febc60aa0edcbb9eb13622dcce45b820ce92a23d", func := "pagewatch/pagewatchlaw24.IntakeApart", spec := "intakeApart", inPlace := ["internal/abi.NoEscape", "internal/bytealg.MakeNoZero", "internal/bytealg.IndexByteString", "internal/bytealg.IndexString", "slices.overlaps[pagewatch/api.Group]", "slices.overlaps[pagewatch/api.Member]"], unfollowed := true, recurses := true, named := ["unicode/utf8.first", "unicode/utf8.acceptRanges", "internal/bytealg.MaxLen"], apart := false, laid := [("unicode/utf8.acceptRanges", laid_unicode_utf8_acceptRanges), ("unicode/utf8.first", laid_unicode_utf8_first)] }
def IntakeApartSaid : Prop := intakeApartRow.holds Tryz.pinned (OpenSpec.ofChange intakeApartSpec)

/-- ITS FALSE NEIGHBOUR: 'it returns false'. Refute it at one input. -/
def intakeApartWrong : ChangeSpec := { name := "intakeApart", fn := fun _ => fun
  | [d] => { results := [.lit (.bool false)], args := [d] }
  | _ => none }
def IntakeApartWrongFalsely : Prop := intakeApartRow.holds Tryz.pinned (OpenSpec.ofChange intakeApartWrong)

/-- 'pagewatchlaw24.IntakeSilences': WHATEVER THE INPUT: true; the input reads as it did. -/
def intakeSilencesSpec : ChangeSpec := { name := "intakeSilences", fn := fun _ => fun
  | [d1, d2] => { results := [.lit (.bool true)], args := [d1, d2] }
  | _ => none }
def intakeSilencesRow : OpenClaim := { program := "ytchnmpafhfjimaagreatdoor", sum := "cb199e38c72e72d79af3ab75febc60aa0edcbb9eb13622dcce45b820ce92a23d", func := "pagewatch/pagewatchlaw24.IntakeSilences", spec := "intakeSilences", inPlace := ["internal/abi.NoEscape", "internal/bytealg.MakeNoZero", "internal/bytealg.IndexByteString", "internal/bytealg.IndexString", "slices.overlaps[pagewatch/api.Group]", "slices.overlaps[pagewatch/api.Member]"], unfollowed := true, recurses := true, named := ["unicode/utf8.first", "unicode/utf8.acceptRanges", "internal/bytealg.MaxLen"], apart := false, laid := [("unicode/utf8.acceptRanges", laid_unicode_utf8_acceptRanges), ("unicode/utf8.first", laid_unicode_utf8_first)] }
def IntakeSilencesSaid : Prop := intakeSilencesRow.holds Tryz.pinned (OpenSpec.ofChange intakeSilencesSpec)

/-- ITS FALSE NEIGHBOUR: 'it returns false'. Refute it at one input. -/
def intakeSilencesWrong : ChangeSpec := { name := "intakeSilences", fn := fun _ => fun
  | [d1, d2] => { results := [.lit (.bool false)], args := [d1, d2] }
  | _ => none }
def IntakeSilencesWrongFalsely : Prop := intakeSilencesRow.holds Tryz.pinned (OpenSpec.ofChange intakeSilencesWrong)

/-- 'pagewatchlaw24.IntakeExact': WHATEVER THE INPUT: true; the input reads as it did. -/
def intakeExactSpec : ChangeSpec := { name := "intakeExact", fn := fun _ => fun
  | [d1, d2, d3, d4, d5] => { results := [.lit (.bool true)], args := [d1, d2, d3, d4, d5] }
  | _ => none }
def intakeExactRow : OpenClaim := { program := "ytchnmpafhfjimaagreatdoor", sum := "cb199e38c72e72d79af3ab75febc60aa0edcbb9eb13622dcce45b820ce92a23d", func := "pagewatch/pagewatchlaw24.IntakeExact", spec := "intakeExact", inPlace := ["internal/abi.NoEscape", "internal/bytealg.MakeNoZero", "internal/bytealg.IndexByteString", "internal/bytealg.IndexString", "slices.overlaps[pagewatch/api.Group]", "slices.overlaps[pagewatch/api.Member]"], unfollowed := true, recurses := true, named := ["unicode/utf8.first", "unicode/utf8.acceptRanges", "internal/bytealg.MaxLen"], apart := false, laid := [("unicode/utf8.acceptRanges", laid_unicode_utf8_acceptRanges), ("unicode/utf8.first", laid_unicode_utf8_first)] }
def IntakeExactSaid : Prop := intakeExactRow.holds Tryz.pinned (OpenSpec.ofChange intakeExactSpec)

/-- ITS FALSE NEIGHBOUR: 'it returns false'. Refute it at one input. -/
def intakeExactWrong : ChangeSpec := { name := "intakeExact", fn := fun _ => fun
  | [d1, d2, d3, d4, d5] => { results := [.lit (.bool false)], args := [d1, d2, d3, d4, d5] }
  | _ => none }
def IntakeExactWrongFalsely : Prop := intakeExactRow.holds Tryz.pinned (OpenSpec.ofChange intakeExactWrong)

/-- 'pagewatchlaw24.IntakeValid': WHATEVER THE INPUT: true; the input reads as it did. -/
def intakeValidSpec : ChangeSpec := { name := "intakeValid", fn := fun _ => fun
  | [d] => { results := [.lit (.bool true)], args := [d] }
  | _ => none }
def intakeValidRow : OpenClaim := { program := "ytchnmpafhfjimaagreatdoor", sum := "cb199e38c72e72d79af3ab75febc60aa0edcbb9eb13622dcce45b820ce92a23d", func := "pagewatch/pagewatchlaw24.IntakeValid", spec := "intakeValid", inPlace := ["internal/abi.NoEscape", "internal/bytealg.MakeNoZero", "internal/bytealg.IndexByteString", "internal/bytealg.IndexString", "slices.overlaps[pagewatch/api.Group]", "slices.overlaps[pagewatch/api.Member]"], unfollowed := true, recurses := true, named := ["unicode/utf8.first", "unicode/utf8.acceptRanges", "internal/bytealg.MaxLen"], apart := false, laid := [("unicode/utf8.acceptRanges", laid_unicode_utf8_acceptRanges), ("unicode/utf8.first", laid_unicode_utf8_first)] }
def IntakeValidSaid : Prop := intakeValidRow.holds Tryz.pinned (OpenSpec.ofChange intakeValidSpec)

/-- ITS FALSE NEIGHBOUR: 'it returns false'. Refute it at one input. -/
def intakeValidWrong : ChangeSpec := { name := "intakeValid", fn := fun _ => fun
  | [d] => { results := [.lit (.bool false)], args := [d] }
  | _ => none }
def IntakeValidWrongFalsely : Prop := intakeValidRow.holds Tryz.pinned (OpenSpec.ofChange intakeValidWrong)

/- THE SECOND FORM. 'bulk': how many values and letters a reading holds, each counted each time it is reached (what is shared counts as often as it is met; a slice's spare places count too). A statement '..UptoSaid' is the law's where the arguments, and the package variables that the reading takes, are together of bulk at most 1048576: NARROWER than '..Said'. Prove '..Said' where nothing that the law and all that it calls make is longer than what came in: it says more and counts as full. Else prove '..UptoSaid'. A law counts once. -/
mutual
def uptoBulk {H : Type} : DataW H → Nat
  | .lit (.string bytes) => bytes.length + 1
  | .lit _ => 1
  | .nil => 1
  | .ptr d => uptoBulk d + 1
  | .slice elems spare => uptoBulkAll elems + uptoBulkAll spare + 1
  | .agg parts => uptoBulkAll parts + 1
  | .iface _ d => uptoBulk d + 1
  | .map entries => uptoBulkEntries entries + 1
  | .held _ => 1
def uptoBulkAll {H : Type} : List (DataW H) → Nat
  | [] => 0
  | d :: r => uptoBulk d + uptoBulkAll r
def uptoBulkEntries {H : Type} : List (Lit × DataW H) → Nat
  | [] => 0
  | x :: r => uptoBulkEntry x + uptoBulkEntries r
def uptoBulkEntry {H : Type} : Lit × DataW H → Nat
  | (.string bytes, d) => bytes.length + uptoBulk d + 1
  | (_, d) => uptoBulk d + 1
 end
def uptoSmall : (H : Type) → List (DataW H) → Bool := fun _ ds => decide (uptoBulkAll ds ≤ 1048576)
def OpenSpec.upto (s : _root_.Go.ChangeSpec) : _root_.Go.OpenSpec := { _root_.Go.OpenSpec.ofChange s with cond := some uptoSmall }

/-- 'pagewatchlaw24.IntakeRuns', WHERE WHAT IT READS IS OF BULK AT MOST 1048576: true; the input reads as it did. -/
def intakeRunsUptoRow : OpenClaim := { program := "ytchnmpafhfjimaagreatdoor", sum := "cb199e38c72e72d79af3ab75febc60aa0edcbb9eb13622dcce45b820ce92a23d", func := "pagewatch/pagewatchlaw24.IntakeRuns", spec := "intakeRuns", inPlace := ["internal/abi.NoEscape", "internal/bytealg.MakeNoZero", "internal/bytealg.IndexByteString", "internal/bytealg.IndexString", "slices.overlaps[pagewatch/api.Group]", "slices.overlaps[pagewatch/api.Member]"], unfollowed := true, recurses := true, named := ["unicode/utf8.first", "unicode/utf8.acceptRanges", "internal/bytealg.MaxLen"], apart := false, laid := [("unicode/utf8.acceptRanges", laid_unicode_utf8_acceptRanges), ("unicode/utf8.first", laid_unicode_utf8_first)], narrowed := true }
def IntakeRunsUptoSaid : Prop := intakeRunsUptoRow.holds Tryz.pinned (OpenSpec.upto intakeRunsSpec)

/-- 'pagewatchlaw24.IntakeTells', WHERE WHAT IT READS IS OF BULK AT MOST 1048576: true; the input reads as it did. -/
def intakeTellsUptoRow : OpenClaim := { program := "ytchnmpafhfjimaagreatdoor", sum := "cb199e38c72e72d79af3ab75febc60aa0edcbb9eb13622dcce45b820ce92a23d", func := "pagewatch/pagewatchlaw24.IntakeTells", spec := "intakeTells", inPlace := ["internal/abi.NoEscape", "internal/bytealg.MakeNoZero", "internal/bytealg.IndexByteString", "internal/bytealg.IndexString", "slices.overlaps[pagewatch/api.Group]", "slices.overlaps[pagewatch/api.Member]"], unfollowed := true, recurses := true, named := ["unicode/utf8.first", "unicode/utf8.acceptRanges", "internal/bytealg.MaxLen"], apart := false, laid := [("unicode/utf8.acceptRanges", laid_unicode_utf8_acceptRanges), ("unicode/utf8.first", laid_unicode_utf8_first)], narrowed := true }
def IntakeTellsUptoSaid : Prop := intakeTellsUptoRow.holds Tryz.pinned (OpenSpec.upto intakeTellsSpec)

/-- 'pagewatchlaw24.IntakeApart', WHERE WHAT IT READS IS OF BULK AT MOST 1048576: true; the input reads as it did. -/
def intakeApartUptoRow : OpenClaim := { program := "ytchnmpafhfjimaagreatdoor", sum := "cb199e38c72e72d79af3ab75febc60aa0edcbb9eb13622dcce45b820ce92a23d", func := "pagewatch/pagewatchlaw24.IntakeApart", spec := "intakeApart", inPlace := ["internal/abi.NoEscape", "internal/bytealg.MakeNoZero", "internal/bytealg.IndexByteString", "internal/bytealg.IndexString", "slices.overlaps[pagewatch/api.Group]", "slices.overlaps[pagewatch/api.Member]"], unfollowed := true, recurses := true, named := ["unicode/utf8.first", "unicode/utf8.acceptRanges", "internal/bytealg.MaxLen"], apart := false, laid := [("unicode/utf8.acceptRanges", laid_unicode_utf8_acceptRanges), ("unicode/utf8.first", laid_unicode_utf8_first)], narrowed := true }
def IntakeApartUptoSaid : Prop := intakeApartUptoRow.holds Tryz.pinned (OpenSpec.upto intakeApartSpec)

/-- 'pagewatchlaw24.IntakeSilences', WHERE WHAT IT READS IS OF BULK AT MOST 1048576: true; the input reads as it did. -/
def intakeSilencesUptoRow : OpenClaim := { program := "ytchnmpafhfjimaagreatdoor", sum := "cb199e38c72e72d79af3ab75febc60aa0edcbb9eb13622dcce45b820ce92a23d", func := "pagewatch/pagewatchlaw24.IntakeSilences", spec := "intakeSilences", inPlace := ["internal/abi.NoEscape", "internal/bytealg.MakeNoZero", "internal/bytealg.IndexByteString", "internal/bytealg.IndexString", "slices.overlaps[pagewatch/api.Group]", "slices.overlaps[pagewatch/api.Member]"], unfollowed := true, recurses := true, named := ["unicode/utf8.first", "unicode/utf8.acceptRanges", "internal/bytealg.MaxLen"], apart := false, laid := [("unicode/utf8.acceptRanges", laid_unicode_utf8_acceptRanges), ("unicode/utf8.first", laid_unicode_utf8_first)], narrowed := true }
def IntakeSilencesUptoSaid : Prop := intakeSilencesUptoRow.holds Tryz.pinned (OpenSpec.upto intakeSilencesSpec)

/-- 'pagewatchlaw24.IntakeExact', WHERE WHAT IT READS IS OF BULK AT MOST 1048576: true; the input reads as it did. -/
def intakeExactUptoRow : OpenClaim := { program := "ytchnmpafhfjimaagreatdoor", sum := "cb199e38c72e72d79af3ab75febc60aa0edcbb9eb13622dcce45b820ce92a23d", func := "pagewatch/pagewatchlaw24.IntakeExact", spec := "intakeExact", inPlace := ["internal/abi.NoEscape", "internal/bytealg.MakeNoZero", "internal/bytealg.IndexByteString", "internal/bytealg.IndexString", "slices.overlaps[pagewatch/api.Group]", "slices.overlaps[pagewatch/api.Member]"], unfollowed := true, recurses := true, named := ["unicode/utf8.first", "unicode/utf8.acceptRanges", "internal/bytealg.MaxLen"], apart := false, laid := [("unicode/utf8.acceptRanges", laid_unicode_utf8_acceptRanges), ("unicode/utf8.first", laid_unicode_utf8_first)], narrowed := true }
def IntakeExactUptoSaid : Prop := intakeExactUptoRow.holds Tryz.pinned (OpenSpec.upto intakeExactSpec)

/-- 'pagewatchlaw24.IntakeValid', WHERE WHAT IT READS IS OF BULK AT MOST 1048576: true; the input reads as it did. -/
def intakeValidUptoRow : OpenClaim := { program := "ytchnmpafhfjimaagreatdoor", sum := "cb199e38c72e72d79af3ab75febc60aa0edcbb9eb13622dcce45b820ce92a23d", func := "pagewatch/pagewatchlaw24.IntakeValid", spec := "intakeValid", inPlace := ["internal/abi.NoEscape", "internal/bytealg.MakeNoZero", "internal/bytealg.IndexByteString", "internal/bytealg.IndexString", "slices.overlaps[pagewatch/api.Group]", "slices.overlaps[pagewatch/api.Member]"], unfollowed := true, recurses := true, named := ["unicode/utf8.first", "unicode/utf8.acceptRanges", "internal/bytealg.MaxLen"], apart := false, laid := [("unicode/utf8.acceptRanges", laid_unicode_utf8_acceptRanges), ("unicode/utf8.first", laid_unicode_utf8_first)], narrowed := true }
def IntakeValidUptoSaid : Prop := intakeValidUptoRow.holds Tryz.pinned (OpenSpec.upto intakeValidSpec)

end Rows
end Go.Proofs.YtchnmpafhfjimaaGreatDoor
