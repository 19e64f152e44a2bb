/- Along any run all groups are valid, and a member leaves only when a notice says that it does not fire any more, or when it stops ahead of being told. For every input the function returns, does not panic, answers true and leaves its arguments as they were. Conditions: none beyond the statement's own. -/
import Derived.Test.YtcblbcpnfidndaaV7B
import Derived.Test.YtcblbcpnfidndaaRows
import Derived.Test.YtcblbcpnfidndaaPxJ
import Derived.WalkKit
import Derived.ProofKit
import Derived.OpenShut
namespace Go.Proofs.Ytcblbcpnfidndaa
open Go Go.ChangeShapes Go.WideShapes Go.ChangeAt Go.RowKit
theorem own : ownKnob Try.prog.godebug = none := by kernel_rfl
theorem laid : laidOutB Try.prog = true := by kernel_rfl
/-- The arguments' types. -/
def tys7 : List Abs.Ty := [(.row (.int .i64))]

set_option maxRecDepth 100000 in
theorem lifted7 (law : ∀ x, Abs.InRs tys7 x → m7 (x, ()) = some ((true, ()), ())) (os : Os) (started : os.Started) (H : Type) (enc : TypeId × Value → H) :
    ReturnsInHanded {} Try.checked os 7 .any (Rows.groupKeepsSpec.pre6 enc Try.prog Try.f7 Rows.groupKeepsRow.domain false) (Rows.groupKeepsSpec.post enc Try.prog Try.f7 false true false false) := by
  refine returnsInHanded_of_change (C := Try.checked) own started (by kernel_rfl) Try.func7
    (ChangeSpec.witness6 (enc := enc) (C := Try.checked) false ⟨#[], #[.slice none 0 0], []⟩ 8 (by kernel_rfl) (by kernel_rfl) (by kernel_rfl) (by kernel_rfl)) ?_
  intro W base args ds gs before hval hW hcnd _
  exact Abs.law_contract (P := Try.prog) (fn := Try.f7) (tys := tys7) (r := 2) (m := m7) Try.func7 (by kernel_rfl) ok7 (by decide +kernel) (by kernel_rfl) laid (by kernel_rfl) (by kernel_rfl) (by kernel_rfl) (by kernel_rfl) Try.underlying4 rfl
    (fun ds h => by match ds, h with | [d0], _ => rfl) law hval hW

theorem over7 (law : ∀ x, Abs.InRs tys7 x → m7 (x, ()) = some ((true, ()), ())) : Rows.groupKeepsRow.holds Try.pinned (OpenSpec.ofChange Rows.groupKeepsSpec) :=
  OpenClaim.holds_of_wide 7 Try.f7 rfl rfl rfl rfl rfl rfl rfl ⟨rfl, rfl, rfl, rfl, rfl⟩ rfl rfl rfl rfl rfl (by kernel_rfl) Try.func7 (by kernel_rfl)
    (of_decide_eq_true (by kernel_rfl)) (by unfold Func.isWrapper; first | (rw [if_pos (by decide +kernel)]; kernel_rfl) | (rw [if_neg (by decide +kernel)]; exact ⟨rfl, rfl⟩))
    (fun os started H enc _ => lifted7 law os started H enc)


theorem groupKeeps_holds : Rows.GroupKeepsSaid := over7 law7
end Go.Proofs.Ytcblbcpnfidndaa
