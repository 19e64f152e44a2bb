/-
  DERIVED. GIVEN WITH THE SEED: THE CARDS: each row of YtchnmpafhfjimaaGreatDoorRows.lean that lists a variable, with what it lists TIED to the program's text (the seventh form; the later family's looks); each row that meets fmt, with fmt's text TOLD by the authors' own Lean function (tested against real Go, not proved from fmt's source: count such statements apart). THE CARD IS WHAT COUNTS. Prove the row's statement (the work); the ties are given (YtchnmpafhfjimaaGreatDoorTie.lean); close each card by the builder's one call (the guide's Derived/Test/ToyasCard.lean, 'card_holds'). Laid BY PROGRAM, IN A SANDBOX (cutbox-door.mjs). By AI agents, Wed Nov 11 2026. No macro, syntax, notation, axiom, sorry.
-/
import Derived.Test.YtchnmpafhfjimaaGreatDoorRows
import GoSem.ClaimSeven
namespace Go.Proofs.YtchnmpafhfjimaaGreatDoor
namespace Rows

/-- THE TIED CARD OF 'pagewatchlaw24.IntakeRuns'. -/
def intakeRunsCard : Claim7 := { stood := { row := intakeRunsRow, standIns := [], harness := (true, "59c54f5e546027ec6f0479fef82005a086d914f424a02c6779df63aeeca4e61d"), looks := false }, kinds := [], alts := [], laidByText := true, laidKinds := [.data, .pinned], laidTests := true, laidLooks := .later }
def IntakeRunsCardSaid : Prop := Claim7.holds Tryz.pinned (.plain (OpenSpec.ofChange intakeRunsSpec)) intakeRunsCard

/-- THE TIED CARD OF 'pagewatchlaw24.IntakeTells'. -/
def intakeTellsCard : Claim7 := { stood := { row := intakeTellsRow, standIns := [], harness := (true, "59c54f5e546027ec6f0479fef82005a086d914f424a02c6779df63aeeca4e61d"), looks := false }, kinds := [], alts := [], laidByText := true, laidKinds := [.data, .pinned], laidTests := true, laidLooks := .later }
def IntakeTellsCardSaid : Prop := Claim7.holds Tryz.pinned (.plain (OpenSpec.ofChange intakeTellsSpec)) intakeTellsCard

/-- THE TIED CARD OF 'pagewatchlaw24.IntakeApart'. -/
def intakeApartCard : Claim7 := { stood := { row := intakeApartRow, standIns := [], harness := (true, "59c54f5e546027ec6f0479fef82005a086d914f424a02c6779df63aeeca4e61d"), looks := false }, kinds := [], alts := [], laidByText := true, laidKinds := [.data, .pinned], laidTests := true, laidLooks := .later }
def IntakeApartCardSaid : Prop := Claim7.holds Tryz.pinned (.plain (OpenSpec.ofChange intakeApartSpec)) intakeApartCard

/-- THE TIED CARD OF 'pagewatchlaw24.IntakeSilences'. -/
def intakeSilencesCard : Claim7 := { stood := { row := intakeSilencesRow, standIns := [], harness := (true, "59c54f5e546027ec6f0479fef82005a086d914f424a02c6779df63aeeca4e61d"), looks := false }, kinds := [], alts := [], laidByText := true, laidKinds := [.data, .pinned], laidTests := true, laidLooks := .later }
def IntakeSilencesCardSaid : Prop := Claim7.holds Tryz.pinned (.plain (OpenSpec.ofChange intakeSilencesSpec)) intakeSilencesCard

/-- THE TIED CARD OF 'pagewatchlaw24.IntakeExact'. -/
def intakeExactCard : Claim7 := { stood := { row := intakeExactRow, standIns := [], harness := (true, "59c54f5e546027ec6f0479fef82005a086d914f424a02c6779df63aeeca4e61d"), looks := false }, kinds := [], alts := [], laidByText := true, laidKinds := [.data, .pinned], laidTests := true, laidLooks := .later }
def IntakeExactCardSaid : Prop := Claim7.holds Tryz.pinned (.plain (OpenSpec.ofChange intakeExactSpec)) intakeExactCard

/-- THE TIED CARD OF 'pagewatchlaw24.IntakeValid'. -/
def intakeValidCard : Claim7 := { stood := { row := intakeValidRow, standIns := [], harness := (true, "59c54f5e546027ec6f0479fef82005a086d914f424a02c6779df63aeeca4e61d"), looks := false }, kinds := [], alts := [], laidByText := true, laidKinds := [.data, .pinned], laidTests := true, laidLooks := .later }
def IntakeValidCardSaid : Prop := Claim7.holds Tryz.pinned (.plain (OpenSpec.ofChange intakeValidSpec)) intakeValidCard

/-- THE SECOND FORM's CARD OF 'pagewatchlaw24.IntakeRuns'. -/
def intakeRunsUptoCard : Claim7 := { stood := { row := intakeRunsUptoRow, standIns := [], harness := (true, "59c54f5e546027ec6f0479fef82005a086d914f424a02c6779df63aeeca4e61d"), looks := false }, kinds := [], alts := [], laidByText := true, laidKinds := [.data, .pinned], laidTests := true, laidLooks := .later }
def IntakeRunsUptoCardSaid : Prop := Claim7.holds Tryz.pinned (.plain (OpenSpec.upto intakeRunsSpec)) intakeRunsUptoCard

/-- THE SECOND FORM's CARD OF 'pagewatchlaw24.IntakeTells'. -/
def intakeTellsUptoCard : Claim7 := { stood := { row := intakeTellsUptoRow, standIns := [], harness := (true, "59c54f5e546027ec6f0479fef82005a086d914f424a02c6779df63aeeca4e61d"), looks := false }, kinds := [], alts := [], laidByText := true, laidKinds := [.data, .pinned], laidTests := true, laidLooks := .later }
def IntakeTellsUptoCardSaid : Prop := Claim7.holds Tryz.pinned (.plain (OpenSpec.upto intakeTellsSpec)) intakeTellsUptoCard

/-- THE SECOND FORM's CARD OF 'pagewatchlaw24.IntakeApart'. -/
def intakeApartUptoCard : Claim7 := { stood := { row := intakeApartUptoRow, standIns := [], harness := (true, "59c54f5e546027ec6f0479fef82005a086d914f424a02c6779df63aeeca4e61d"), looks := false }, kinds := [], alts := [], laidByText := true, laidKinds := [.data, .pinned], laidTests := true, laidLooks := .later }
def IntakeApartUptoCardSaid : Prop := Claim7.holds Tryz.pinned (.plain (OpenSpec.upto intakeApartSpec)) intakeApartUptoCard

/-- THE SECOND FORM's CARD OF 'pagewatchlaw24.IntakeSilences'. -/
def intakeSilencesUptoCard : Claim7 := { stood := { row := intakeSilencesUptoRow, standIns := [], harness := (true, "59c54f5e546027ec6f0479fef82005a086d914f424a02c6779df63aeeca4e61d"), looks := false }, kinds := [], alts := [], laidByText := true, laidKinds := [.data, .pinned], laidTests := true, laidLooks := .later }
def IntakeSilencesUptoCardSaid : Prop := Claim7.holds Tryz.pinned (.plain (OpenSpec.upto intakeSilencesSpec)) intakeSilencesUptoCard

/-- THE SECOND FORM's CARD OF 'pagewatchlaw24.IntakeExact'. -/
def intakeExactUptoCard : Claim7 := { stood := { row := intakeExactUptoRow, standIns := [], harness := (true, "59c54f5e546027ec6f0479fef82005a086d914f424a02c6779df63aeeca4e61d"), looks := false }, kinds := [], alts := [], laidByText := true, laidKinds := [.data, .pinned], laidTests := true, laidLooks := .later }
def IntakeExactUptoCardSaid : Prop := Claim7.holds Tryz.pinned (.plain (OpenSpec.upto intakeExactSpec)) intakeExactUptoCard

/-- THE SECOND FORM's CARD OF 'pagewatchlaw24.IntakeValid'. -/
def intakeValidUptoCard : Claim7 := { stood := { row := intakeValidUptoRow, standIns := [], harness := (true, "59c54f5e546027ec6f0479fef82005a086d914f424a02c6779df63aeeca4e61d"), looks := false }, kinds := [], alts := [], laidByText := true, laidKinds := [.data, .pinned], laidTests := true, laidLooks := .later }
def IntakeValidUptoCardSaid : Prop := Claim7.holds Tryz.pinned (.plain (OpenSpec.upto intakeValidSpec)) intakeValidUptoCard
end Rows
end Go.Proofs.YtchnmpafhfjimaaGreatDoor
