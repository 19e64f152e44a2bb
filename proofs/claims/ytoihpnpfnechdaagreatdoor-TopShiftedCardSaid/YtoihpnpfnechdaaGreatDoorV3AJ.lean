/- Lemmas for the statement of the last text of this claim. -/
import Derived.Test.YtoihpnpfnechdaaGreatDoorV3AI
set_option linter.unusedSimpArgs false
set_option linter.unusedVariables false
namespace Go.Proofs.YtoihpnpfnechdaaGreatDoor
open Go Go.Abs
set_option maxRecDepth 1000000
theorem ke : evT hand1 200 40 22 [cfgB, .int .i64 0, .int .i64 1767700800, .int .i64 1767708000, .int .i64 0, .lst 0 [] false] [] = some (.tup [.lst 3 [.agg [.int .i64 0, .int .i64 3600, .int .i64 3600], .agg [.int .i64 1, .int .i64 3600, .int .i64 3600]] false, .int .i64 0], [], []) := by kernel_rfl
end Go.Proofs.YtoihpnpfnechdaaGreatDoor
