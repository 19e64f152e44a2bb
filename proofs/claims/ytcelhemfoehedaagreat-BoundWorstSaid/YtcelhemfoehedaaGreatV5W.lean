/- No page takes longer than Worst until it is acknowledged or closed. For every input the function returns, does not panic, answers true and leaves its arguments as they were. Conditions: none beyond the statement's own. -/
import Derived.Test.YtcelhemfoehedaaGreatV5C
import Derived.Test.YtcelhemfoehedaaGreatRows
import Derived.Test.YtcelhemfoehedaaGreatPxJ
import Derived.WalkKit
import Derived.ProofKit
import Derived.OpenShut
namespace Go.Proofs.YtcelhemfoehedaaGreat
open Go Go.ChangeShapes Go.WideShapes Go.ChangeAt Go.RowKit
theorem own : ownKnob Tryz.prog.godebug = none := by kernel_rfl
theorem laid : laidOutB Tryz.prog = true := by kernel_rfl
/-- The arguments' types. -/
def tys5 : List Abs.Ty := [(.row (.int .i64))]

set_option maxRecDepth 100000 in
theorem lifted5 (law : ∀ x, Abs.InRs tys5 x → m5 (x, ()) = some ((true, ()), ())) (os : Os) (started : os.Started) (H : Type) (enc : TypeId × Value → H) :
    ReturnsInHanded {} Tryz.checked os 5 .any (Rows.boundWorstSpec.pre6 enc Tryz.prog Tryz.f5 Rows.boundWorstRow.domain false) (Rows.boundWorstSpec.post enc Tryz.prog Tryz.f5 false true false false) := by
  refine returnsInHanded_of_change (C := Tryz.checked) own started (by kernel_rfl) Tryz.func5
    (ChangeSpec.witness6 (enc := enc) (C := Tryz.checked) false ⟨#[], #[.slice none 0 0], []⟩ 8 (by kernel_rfl) (by kernel_rfl) (by kernel_rfl) (by kernel_rfl)) ?_
  intro W base args ds gs before hval hW hcnd _
  exact Abs.law_contract (P := Tryz.prog) (fn := Tryz.f5) (tys := tys5) (r := 2) (m := m5) Tryz.func5 (by kernel_rfl) ok5 (by decide +kernel) (by kernel_rfl) laid (by kernel_rfl) (by kernel_rfl) (by kernel_rfl) (by kernel_rfl) Tryz.underlying4 rfl
    (fun ds h => by match ds, h with | [d0], _ => rfl) law hval hW

theorem over5 (law : ∀ x, Abs.InRs tys5 x → m5 (x, ()) = some ((true, ()), ())) : Rows.boundWorstRow.holds Tryz.pinned (OpenSpec.ofChange Rows.boundWorstSpec) :=
  OpenClaim.holds_of_wide 5 Tryz.f5 rfl rfl rfl rfl rfl rfl rfl ⟨rfl, rfl, rfl, rfl, rfl⟩ rfl rfl rfl rfl rfl (by kernel_rfl) Tryz.func5 (by kernel_rfl)
    (of_decide_eq_true (by kernel_rfl)) (by unfold Func.isWrapper; first | (rw [if_pos (by decide +kernel)]; kernel_rfl) | (rw [if_neg (by decide +kernel)]; exact ⟨rfl, rfl⟩))
    (fun os started H enc _ => lifted5 law os started H enc)


theorem boundWorst_holds : Rows.BoundWorstSaid := over5 law5
end Go.Proofs.YtcelhemfoehedaaGreat
