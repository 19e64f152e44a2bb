/- Lemmas for the statement of the last text of this claim. -/
import Derived.Test.YtoihpnpfnechdaaGreatDoorV3AH
set_option linter.unusedSimpArgs false
set_option linter.unusedVariables false
namespace Go.Proofs.YtoihpnpfnechdaaGreatDoor
open Go Go.Abs
set_option maxRecDepth 1000000
theorem kd : evT hand1 200 40 21 [cfgB, .int .i64 0, .int .i64 1767700800] [] = some (.tup [.int .i64 0, .bool true, .int .i64 0], [], []) := by kernel_rfl
end Go.Proofs.YtoihpnpfnechdaaGreatDoor
