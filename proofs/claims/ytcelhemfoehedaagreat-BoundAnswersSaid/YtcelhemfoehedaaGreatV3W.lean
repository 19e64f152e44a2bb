/- An answer brings the end of a page later by no more than its kind lets it. For every input the function returns, does not panic, answers true and leaves its arguments as they were. Conditions: none beyond the statement's own. -/
import Derived.Test.YtcelhemfoehedaaGreatV3C
import Derived.Test.YtcelhemfoehedaaGreatRows
import Derived.Test.YtcelhemfoehedaaGreatPxJ
import Derived.WalkKit
import Derived.ProofKit
import Derived.OpenShut
namespace Go.Proofs.YtcelhemfoehedaaGreat
open Go Go.ChangeShapes Go.WideShapes Go.ChangeAt Go.RowKit
theorem own : ownKnob Tryz.prog.godebug = none := by kernel_rfl
theorem laid : laidOutB Tryz.prog = true := by kernel_rfl
/-- The arguments' types. -/
def tys3 : List Abs.Ty := [(.row (.int .i64))]

set_option maxRecDepth 100000 in
theorem lifted3 (law : ∀ x, Abs.InRs tys3 x → m3 (x, ()) = some ((true, ()), ())) (os : Os) (started : os.Started) (H : Type) (enc : TypeId × Value → H) :
    ReturnsInHanded {} Tryz.checked os 3 .any (Rows.boundAnswersSpec.pre6 enc Tryz.prog Tryz.f3 Rows.boundAnswersRow.domain false) (Rows.boundAnswersSpec.post enc Tryz.prog Tryz.f3 false true false false) := by
  refine returnsInHanded_of_change (C := Tryz.checked) own started (by kernel_rfl) Tryz.func3
    (ChangeSpec.witness6 (enc := enc) (C := Tryz.checked) false ⟨#[], #[.slice none 0 0], []⟩ 8 (by kernel_rfl) (by kernel_rfl) (by kernel_rfl) (by kernel_rfl)) ?_
  intro W base args ds gs before hval hW hcnd _
  exact Abs.law_contract (P := Tryz.prog) (fn := Tryz.f3) (tys := tys3) (r := 2) (m := m3) Tryz.func3 (by kernel_rfl) ok3 (by decide +kernel) (by kernel_rfl) laid (by kernel_rfl) (by kernel_rfl) (by kernel_rfl) (by kernel_rfl) Tryz.underlying4 rfl
    (fun ds h => by match ds, h with | [d0], _ => rfl) law hval hW

theorem over3 (law : ∀ x, Abs.InRs tys3 x → m3 (x, ()) = some ((true, ()), ())) : Rows.boundAnswersRow.holds Tryz.pinned (OpenSpec.ofChange Rows.boundAnswersSpec) :=
  OpenClaim.holds_of_wide 3 Tryz.f3 rfl rfl rfl rfl rfl rfl rfl ⟨rfl, rfl, rfl, rfl, rfl⟩ rfl rfl rfl rfl rfl (by kernel_rfl) Tryz.func3 (by kernel_rfl)
    (of_decide_eq_true (by kernel_rfl)) (by unfold Func.isWrapper; first | (rw [if_pos (by decide +kernel)]; kernel_rfl) | (rw [if_neg (by decide +kernel)]; exact ⟨rfl, rfl⟩))
    (fun os started H enc _ => lifted3 law os started H enc)


theorem boundAnswers_holds : Rows.BoundAnswersSaid := over3 law3
end Go.Proofs.YtcelhemfoehedaaGreat
