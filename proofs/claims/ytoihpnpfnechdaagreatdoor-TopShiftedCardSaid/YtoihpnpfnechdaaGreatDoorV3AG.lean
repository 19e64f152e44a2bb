/- Lemmas for the statement of the last text of this claim. -/
import Derived.Test.YtoihpnpfnechdaaGreatDoorV3AF
set_option linter.unusedSimpArgs false
set_option linter.unusedVariables false
namespace Go.Proofs.YtoihpnpfnechdaaGreatDoor
open Go Go.Abs
set_option maxRecDepth 1000000
theorem kb : evT hand1 200 40 15 [cfgA, .int .i64 0, .agg [.int .i64 1, .int .i64 1, .int .i64 0, .int .i64 1767700800, .int .i64 1767704400]] [] = some (.tup [cfgB, .int .i64 0], [], []) := by kernel_rfl
end Go.Proofs.YtoihpnpfnechdaaGreatDoor
