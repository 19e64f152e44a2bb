/- Lemmas for the statement of the last text of this claim. -/
import Derived.Test.YtoihpnpfnechdaaGreatDoorV3AN
set_option linter.unusedSimpArgs false
set_option linter.unusedVariables false
namespace Go.Proofs.YtoihpnpfnechdaaGreatDoor
open Go Go.Abs
set_option maxRecDepth 1000000
theorem kp : evT (memo tabL hand1) 200 40 38 [textA] [] = some (stmA, [], []) := by kernel_rfl
end Go.Proofs.YtoihpnpfnechdaaGreatDoor
