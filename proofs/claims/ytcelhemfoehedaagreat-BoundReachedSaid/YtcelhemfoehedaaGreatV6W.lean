/- Whoever is called and has a channel that works is reached by the instant that Reached tells. For every input the function returns, does not panic, answers true and leaves its arguments as they were. Conditions: none beyond the statement's own. -/
import Derived.Test.YtcelhemfoehedaaGreatV6C
import Derived.Test.YtcelhemfoehedaaGreatRows
import Derived.Test.YtcelhemfoehedaaGreatPxJ
import Derived.WalkKit
import Derived.ProofKit
import Derived.OpenShut
namespace Go.Proofs.YtcelhemfoehedaaGreat
open Go Go.ChangeShapes Go.WideShapes Go.ChangeAt Go.RowKit
theorem own : ownKnob Tryz.prog.godebug = none := by kernel_rfl
theorem laid : laidOutB Tryz.prog = true := by kernel_rfl
/-- The arguments' types. -/
def tys6 : List Abs.Ty := [(.row (.int .i64))]

set_option maxRecDepth 100000 in
theorem lifted6 (law : ∀ x, Abs.InRs tys6 x → m6 (x, ()) = some ((true, ()), ())) (os : Os) (started : os.Started) (H : Type) (enc : TypeId × Value → H) :
    ReturnsInHanded {} Tryz.checked os 6 .any (Rows.boundReachedSpec.pre6 enc Tryz.prog Tryz.f6 Rows.boundReachedRow.domain false) (Rows.boundReachedSpec.post enc Tryz.prog Tryz.f6 false true false false) := by
  refine returnsInHanded_of_change (C := Tryz.checked) own started (by kernel_rfl) Tryz.func6
    (ChangeSpec.witness6 (enc := enc) (C := Tryz.checked) false ⟨#[], #[.slice none 0 0], []⟩ 8 (by kernel_rfl) (by kernel_rfl) (by kernel_rfl) (by kernel_rfl)) ?_
  intro W base args ds gs before hval hW hcnd _
  exact Abs.law_contract (P := Tryz.prog) (fn := Tryz.f6) (tys := tys6) (r := 2) (m := m6) Tryz.func6 (by kernel_rfl) ok6 (by decide +kernel) (by kernel_rfl) laid (by kernel_rfl) (by kernel_rfl) (by kernel_rfl) (by kernel_rfl) Tryz.underlying4 rfl
    (fun ds h => by match ds, h with | [d0], _ => rfl) law hval hW

theorem over6 (law : ∀ x, Abs.InRs tys6 x → m6 (x, ()) = some ((true, ()), ())) : Rows.boundReachedRow.holds Tryz.pinned (OpenSpec.ofChange Rows.boundReachedSpec) :=
  OpenClaim.holds_of_wide 6 Tryz.f6 rfl rfl rfl rfl rfl rfl rfl ⟨rfl, rfl, rfl, rfl, rfl⟩ rfl rfl rfl rfl rfl (by kernel_rfl) Tryz.func6 (by kernel_rfl)
    (of_decide_eq_true (by kernel_rfl)) (by unfold Func.isWrapper; first | (rw [if_pos (by decide +kernel)]; kernel_rfl) | (rw [if_neg (by decide +kernel)]; exact ⟨rfl, rfl⟩))
    (fun os started H enc _ => lifted6 law os started H enc)


theorem boundReached_holds : Rows.BoundReachedSaid := over6 law6
end Go.Proofs.YtcelhemfoehedaaGreat
