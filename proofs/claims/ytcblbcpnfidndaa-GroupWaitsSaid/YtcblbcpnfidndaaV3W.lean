/- An alert that fires on is told at the end of the wait at the latest, if its group is new and is looked at whenever it is due. For every input the function returns, does not panic, answers true and leaves its arguments as they were. Conditions: none beyond the statement's own. -/
import Derived.Test.YtcblbcpnfidndaaV3B
import Derived.Test.YtcblbcpnfidndaaRows
import Derived.Test.YtcblbcpnfidndaaPxJ
import Derived.WalkKit
import Derived.ProofKit
import Derived.OpenShut
namespace Go.Proofs.Ytcblbcpnfidndaa
open Go Go.ChangeShapes Go.WideShapes Go.ChangeAt Go.RowKit
theorem own : ownKnob Try.prog.godebug = none := by kernel_rfl
theorem laid : laidOutB Try.prog = true := by kernel_rfl
/-- The arguments' types. -/
def tys3 : List Abs.Ty := [(.row (.int .i64)), (.int .i64)]

set_option maxRecDepth 100000 in
theorem lifted3 (law : ∀ x, Abs.InRs tys3 x → m3 (x, ()) = some ((true, ()), ())) (os : Os) (started : os.Started) (H : Type) (enc : TypeId × Value → H) :
    ReturnsInHanded {} Try.checked os 3 .any (Rows.groupWaitsSpec.pre6 enc Try.prog Try.f3 Rows.groupWaitsRow.domain false) (Rows.groupWaitsSpec.post enc Try.prog Try.f3 false true false false) := by
  refine returnsInHanded_of_change (C := Try.checked) own started (by kernel_rfl) Try.func3
    (ChangeSpec.witness6 (enc := enc) (C := Try.checked) false ⟨#[], #[.slice none 0 0, .int .i64 0], []⟩ 8 (by kernel_rfl) (by kernel_rfl) (by kernel_rfl) (by kernel_rfl)) ?_
  intro W base args ds gs before hval hW hcnd _
  exact Abs.law_contract (P := Try.prog) (fn := Try.f3) (tys := tys3) (r := 4) (m := m3) Try.func3 (by kernel_rfl) ok3 (by decide +kernel) (by kernel_rfl) laid (by kernel_rfl) (by kernel_rfl) (by kernel_rfl) (by kernel_rfl) Try.underlying4 rfl
    (fun ds h => by match ds, h with | [d0, d1], _ => rfl) law hval hW

theorem over3 (law : ∀ x, Abs.InRs tys3 x → m3 (x, ()) = some ((true, ()), ())) : Rows.groupWaitsRow.holds Try.pinned (OpenSpec.ofChange Rows.groupWaitsSpec) :=
  OpenClaim.holds_of_wide 3 Try.f3 rfl rfl rfl rfl rfl rfl rfl ⟨rfl, rfl, rfl, rfl, rfl⟩ rfl rfl rfl rfl rfl (by kernel_rfl) Try.func3 (by kernel_rfl)
    (of_decide_eq_true (by kernel_rfl)) (by unfold Func.isWrapper; first | (rw [if_pos (by decide +kernel)]; kernel_rfl) | (rw [if_neg (by decide +kernel)]; exact ⟨rfl, rfl⟩))
    (fun os started H enc _ => lifted3 law os started H enc)


theorem groupWaits_holds : Rows.GroupWaitsSaid := over3 law3
end Go.Proofs.Ytcblbcpnfidndaa
