/- What is committed anywhere is in the log of a leader whose term is the greatest one of all regions, at its place. For every input the function returns, does not panic, answers true and leaves its arguments as they were. Conditions: none beyond the statement's own. -/
import Derived.Test.YtfbikpbejkgegaaV10C
import Derived.Test.YtfbikpbejkgegaaRows
import Derived.Test.YtfbikpbejkgegaaPxJ
import Derived.WalkKit
import Derived.ProofKit
import Derived.OpenShut
namespace Go.Proofs.Ytfbikpbejkgegaa
open Go Go.ChangeShapes Go.WideShapes Go.ChangeAt Go.RowKit
theorem own : ownKnob Try.prog.godebug = none := by kernel_rfl
theorem laid : laidOutB Try.prog = true := by kernel_rfl
/-- The arguments' types. -/
def tys10 : List Abs.Ty := [(.row (.int .i64))]

set_option maxRecDepth 100000 in
theorem lifted10 (law : ∀ x, Abs.InRs tys10 x → m10 (x, ()) = some ((true, ()), ())) (os : Os) (started : os.Started) (H : Type) (enc : TypeId × Value → H) :
    ReturnsInHanded {} Try.checked os 10 .any (Rows.replicaLeadsSpec.pre6 enc Try.prog Try.f10 Rows.replicaLeadsRow.domain false) (Rows.replicaLeadsSpec.post enc Try.prog Try.f10 false true false false) := by
  refine returnsInHanded_of_change (C := Try.checked) own started (by kernel_rfl) Try.func10
    (ChangeSpec.witness6 (enc := enc) (C := Try.checked) false ⟨#[], #[.slice none 0 0], []⟩ 8 (by kernel_rfl) (by kernel_rfl) (by kernel_rfl) (by kernel_rfl)) ?_
  intro W base args ds gs before hval hW hcnd _
  exact Abs.law_contract (P := Try.prog) (fn := Try.f10) (tys := tys10) (r := 2) (m := m10) Try.func10 (by kernel_rfl) ok10 (by decide +kernel) (by kernel_rfl) laid (by kernel_rfl) (by kernel_rfl) (by kernel_rfl) (by kernel_rfl) Try.underlying4 rfl
    (fun ds h => by match ds, h with | [d0], _ => rfl) law hval hW

theorem over10 (law : ∀ x, Abs.InRs tys10 x → m10 (x, ()) = some ((true, ()), ())) : Rows.replicaLeadsRow.holds Try.pinned (OpenSpec.ofChange Rows.replicaLeadsSpec) :=
  OpenClaim.holds_of_wide 10 Try.f10 rfl rfl rfl rfl rfl rfl rfl ⟨rfl, rfl, rfl, rfl, rfl⟩ rfl rfl rfl rfl rfl (by kernel_rfl) Try.func10 (by kernel_rfl)
    (of_decide_eq_true (by kernel_rfl)) (by unfold Func.isWrapper; first | (rw [if_pos (by decide +kernel)]; kernel_rfl) | (rw [if_neg (by decide +kernel)]; exact ⟨rfl, rfl⟩))
    (fun os started H enc _ => lifted10 law os started H enc)


theorem replicaLeads_holds : Rows.ReplicaLeadsSaid := over10 law10
end Go.Proofs.Ytfbikpbejkgegaa
