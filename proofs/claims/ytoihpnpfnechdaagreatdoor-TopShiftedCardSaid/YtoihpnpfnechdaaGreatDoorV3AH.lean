/- Lemmas for the statement of the last text of this claim. -/
import Derived.Test.YtoihpnpfnechdaaGreatDoorV3AG
set_option linter.unusedSimpArgs false
set_option linter.unusedVariables false
namespace Go.Proofs.YtoihpnpfnechdaaGreatDoor
open Go Go.Abs
set_option maxRecDepth 1000000
theorem kc : evT (hand2 (memo tabW (fun _ _ _ => none))) 200 40 16 [cfgB] [] = some (.tup [textB, .int .i64 0], [], []) := by kernel_rfl
end Go.Proofs.YtoihpnpfnechdaaGreatDoor
