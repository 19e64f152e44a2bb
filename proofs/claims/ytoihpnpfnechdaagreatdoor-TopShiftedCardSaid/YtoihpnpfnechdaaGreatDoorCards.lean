/-
  DERIVED. GIVEN WITH THE SEED: THE CARDS: each row of YtoihpnpfnechdaaGreatDoorRows.lean that lists a variable, with what it lists TIED to the program's text (the seventh form; the later family's looks); each row that meets fmt, with fmt's text TOLD by the authors' own Lean function (tested against real Go, not proved from fmt's source: count such statements apart). THE CARD IS WHAT COUNTS. Prove the row's statement (the work); the ties are given (YtoihpnpfnechdaaGreatDoorTie.lean); close each card by the builder's one call (the guide's Derived/Test/ToyasCard.lean, 'card_holds'). Laid BY PROGRAM, IN A SANDBOX (cutbox-door.mjs). By AI agents, Wed Nov 11 2026. No macro, syntax, notation, axiom, sorry.
-/
import Derived.Test.YtoihpnpfnechdaaGreatDoorRows
import GoSem.ClaimSeven
namespace Go.Proofs.YtoihpnpfnechdaaGreatDoor
namespace Rows

/-- THE TIED CARD OF 'pagewatchtop.TopShifted'. -/
def topShiftedCard : Claim7 := { stood := { row := topShiftedRow, standIns := [], harness := (true, "b0d3f8e6d0471a97c0c1755eda221d4c6b46469483870f03e1c4fae2aa637ff4"), looks := true }, kinds := [], alts := [], laidByText := true, laidKinds := [.pinned, .data, .data, .listed, .sentinel, .sentinel, .data, .data, .data], laidTests := true, laidLooks := .later }
def TopShiftedCardSaid : Prop := Claim7.holds Tryz.pinned (.plain (OpenSpec.ofChange topShiftedSpec)) topShiftedCard

/-- THE TIED CARD OF 'pagewatchtop.TopConfigured'. -/
def topConfiguredCard : Claim7 := { stood := { row := topConfiguredRow, standIns := [], harness := (true, "b0d3f8e6d0471a97c0c1755eda221d4c6b46469483870f03e1c4fae2aa637ff4"), looks := true }, kinds := [], alts := [], laidByText := true, laidKinds := [.pinned, .data, .data, .listed, .sentinel, .sentinel, .data, .data, .data], laidTests := true, laidLooks := .later }
def TopConfiguredCardSaid : Prop := Claim7.holds Tryz.pinned (.plain (OpenSpec.ofChange topConfiguredSpec)) topConfiguredCard

/-- THE SECOND FORM's CARD OF 'pagewatchtop.TopShifted'. -/
def topShiftedUptoCard : Claim7 := { stood := { row := topShiftedUptoRow, standIns := [], harness := (true, "b0d3f8e6d0471a97c0c1755eda221d4c6b46469483870f03e1c4fae2aa637ff4"), looks := true }, kinds := [], alts := [], laidByText := true, laidKinds := [.pinned, .data, .data, .listed, .sentinel, .sentinel, .data, .data, .data], laidTests := true, laidLooks := .later }
def TopShiftedUptoCardSaid : Prop := Claim7.holds Tryz.pinned (.plain (OpenSpec.upto topShiftedSpec)) topShiftedUptoCard

/-- THE SECOND FORM's CARD OF 'pagewatchtop.TopConfigured'. -/
def topConfiguredUptoCard : Claim7 := { stood := { row := topConfiguredUptoRow, standIns := [], harness := (true, "b0d3f8e6d0471a97c0c1755eda221d4c6b46469483870f03e1c4fae2aa637ff4"), looks := true }, kinds := [], alts := [], laidByText := true, laidKinds := [.pinned, .data, .data, .listed, .sentinel, .sentinel, .data, .data, .data], laidTests := true, laidLooks := .later }
def TopConfiguredUptoCardSaid : Prop := Claim7.holds Tryz.pinned (.plain (OpenSpec.upto topConfiguredSpec)) topConfiguredUptoCard
end Rows
end Go.Proofs.YtoihpnpfnechdaaGreatDoor
