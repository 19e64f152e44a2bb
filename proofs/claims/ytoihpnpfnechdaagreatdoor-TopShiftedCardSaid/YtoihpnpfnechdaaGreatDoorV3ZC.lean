/- Lemmas for the statement of the last text of this claim. -/
import Derived.Test.YtoihpnpfnechdaaGreatDoorV3ZB
set_option linter.unusedSimpArgs false
set_option linter.unusedVariables false
namespace Go.Proofs.YtoihpnpfnechdaaGreatDoor
open Go
theorem w9 : ∀ os tape, (DataW.laidRun Tryz.prog (varsWorld Tryz.prog 400 (varsId Tryz.prog) os tape).memory 8 (laidT.map (·.1))).map (fun x => decide x.2.Nodup && laidRowsB Tryz.prog (varsWorld Tryz.prog 400 (varsId Tryz.prog) os tape).memory x.2) = some true := fun _ _ => by kernel_rfl
theorem tieT : Tryz.prog.laidByTextLater laidT [.data, .data, .listed, .sentinel, .sentinel, .data, .data, .data] true := Program.laidByTextLater_by_run 400 8 w1 w2 w3 w4 w5 w6 w7 w8 w9
theorem rowT : Rows.topShiftedRow.laidByTextAt .later Tryz.pinned [.pinned, .data, .data, .listed, .sentinel, .sentinel, .data, .data, .data] true :=
  OpenClaim.laidByTextAt_pinned rfl rfl tieT rfl rfl rfl rfl (fun y hy _e => by
    simp only [Rows.topShiftedRow, List.zip_cons_cons, List.zip_nil_right, List.mem_cons, List.mem_nil_iff, or_false] at hy
    rcases hy with rfl | rfl | rfl | rfl | rfl | rfl | rfl | rfl | rfl
    · exact ⟨pinT, by kernel_rfl⟩
    all_goals cases _e) fitsT
end Go.Proofs.YtoihpnpfnechdaaGreatDoor
