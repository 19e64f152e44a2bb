/- RegionMinority: a leader that is cut off commits nothing, and what it proposed there is gone or committed later. For every input the function returns, does not panic, answers true and leaves its arguments as they were. Conditions: none beyond the statement's own. -/
import Derived.Test.YtfbikpbejkgegaaV12B
import Derived.Test.YtfbikpbejkgegaaRows
import Derived.Test.YtfbikpbejkgegaaPxJ
import Derived.WalkKit
import Derived.ProofKit
import Derived.OpenShut
namespace Go.Proofs.Ytfbikpbejkgegaa
open Go Go.ChangeShapes Go.WideShapes Go.ChangeAt Go.RowKit
theorem own : ownKnob Try.prog.godebug = none := by kernel_rfl
theorem laid : laidOutB Try.prog = true := by kernel_rfl
/-- The arguments' types. -/
def tys12 : List Abs.Ty := [(.row (.int .i64))]

set_option maxRecDepth 100000 in
theorem lifted12 (law : ∀ x, Abs.InRs tys12 x → m12 (x, ()) = some ((true, ()), ())) (os : Os) (started : os.Started) (H : Type) (enc : TypeId × Value → H) :
    ReturnsInHanded {} Try.checked os 12 .any (Rows.regionMinoritySpec.pre6 enc Try.prog Try.f12 Rows.regionMinorityRow.domain false) (Rows.regionMinoritySpec.post enc Try.prog Try.f12 false true false false) := by
  refine returnsInHanded_of_change (C := Try.checked) own started (by kernel_rfl) Try.func12
    (ChangeSpec.witness6 (enc := enc) (C := Try.checked) false ⟨#[], #[.slice none 0 0], []⟩ 8 (by kernel_rfl) (by kernel_rfl) (by kernel_rfl) (by kernel_rfl)) ?_
  intro W base args ds gs before hval hW hcnd _
  exact Abs.law_contract (P := Try.prog) (fn := Try.f12) (tys := tys12) (r := 2) (m := m12) Try.func12 (by kernel_rfl) ok12 (by decide +kernel) (by kernel_rfl) laid (by kernel_rfl) (by kernel_rfl) (by kernel_rfl) (by kernel_rfl) Try.underlying4 rfl
    (fun ds h => by match ds, h with | [d0], _ => rfl) law hval hW

theorem over12 (law : ∀ x, Abs.InRs tys12 x → m12 (x, ()) = some ((true, ()), ())) : Rows.regionMinorityRow.holds Try.pinned (OpenSpec.ofChange Rows.regionMinoritySpec) :=
  OpenClaim.holds_of_wide 12 Try.f12 rfl rfl rfl rfl rfl rfl rfl ⟨rfl, rfl, rfl, rfl, rfl⟩ rfl rfl rfl rfl rfl (by kernel_rfl) Try.func12 (by kernel_rfl)
    (of_decide_eq_true (by kernel_rfl)) (by unfold Func.isWrapper; first | (rw [if_pos (by decide +kernel)]; kernel_rfl) | (rw [if_neg (by decide +kernel)]; exact ⟨rfl, rfl⟩))
    (fun os started H enc _ => lifted12 law os started H enc)


theorem regionMinority_holds : Rows.RegionMinoritySaid := over12 law12
end Go.Proofs.Ytfbikpbejkgegaa
