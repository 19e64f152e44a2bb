/- Lemmas for the statement of the last text of this claim. -/
import Derived.Test.YtoihpnpfnechdaaGreatDoorV3AM
set_option linter.unusedSimpArgs false
set_option linter.unusedVariables false
namespace Go.Proofs.YtoihpnpfnechdaaGreatDoor
open Go Go.Abs
set_option maxRecDepth 1000000
theorem kw1 : evT hand1 200 40 87 [.agg [.int .i64 1, tkA0]] [] = some (.tup [lnA0, .int .i64 0], [], []) := by kernel_rfl
theorem kw2 : evT hand1 200 40 87 [.agg [.int .i64 2, tkA1]] [] = some (.tup [lnA1, .int .i64 0], [], []) := by kernel_rfl
theorem kw3 : evT hand1 200 40 87 [.agg [.int .i64 3, tkA2]] [] = some (.tup [lnA2, .int .i64 0], [], []) := by kernel_rfl
theorem kw4 : evT hand1 200 40 87 [.agg [.int .i64 4, tkA3]] [] = some (.tup [lnA3, .int .i64 0], [], []) := by kernel_rfl
theorem kw5 : evT hand1 200 40 87 [.agg [.int .i64 5, tkA4]] [] = some (.tup [lnA4, .int .i64 0], [], []) := by kernel_rfl
theorem kw6 : evT hand1 200 40 87 [.agg [.int .i64 6, tkA5]] [] = some (.tup [lnA5, .int .i64 0], [], []) := by kernel_rfl
theorem kw7 : evT hand1 200 40 87 [.agg [.int .i64 7, tkA9]] [] = some (.tup [lnA9, .int .i64 0], [], []) := by kernel_rfl
end Go.Proofs.YtoihpnpfnechdaaGreatDoor
