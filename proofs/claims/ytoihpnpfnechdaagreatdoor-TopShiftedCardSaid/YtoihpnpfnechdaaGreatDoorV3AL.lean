/- Lemmas for the statement of the last text of this claim. -/
import Derived.Test.YtoihpnpfnechdaaGreatDoorV3AK
set_option linter.unusedSimpArgs false
set_option linter.unusedVariables false
namespace Go.Proofs.YtoihpnpfnechdaaGreatDoor
open Go Go.Abs
set_option maxRecDepth 1000000
theorem kg : evT hand1 200 40 23 [cfgB, .int .i64 0, .int .i64 1767700800] [] = some (.int .i64 1, [], []) := by kernel_rfl
end Go.Proofs.YtoihpnpfnechdaaGreatDoor
