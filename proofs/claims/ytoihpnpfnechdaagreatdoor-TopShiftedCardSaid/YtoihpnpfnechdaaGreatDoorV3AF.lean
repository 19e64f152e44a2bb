/- Lemmas for the statement of the last text of this claim. -/
import Derived.Test.YtoihpnpfnechdaaGreatDoorV3AE
set_option linter.unusedSimpArgs false
set_option linter.unusedVariables false
namespace Go.Proofs.YtoihpnpfnechdaaGreatDoor
open Go Go.Abs
set_option maxRecDepth 1000000
theorem ka : evT (memo [(38, [textA], stmA)] hand1) 200 40 18 [textA] [] = some (.tup [cfgA, .int .i64 0, .int .i64 0], [], []) := by kernel_rfl
end Go.Proofs.YtoihpnpfnechdaaGreatDoor
