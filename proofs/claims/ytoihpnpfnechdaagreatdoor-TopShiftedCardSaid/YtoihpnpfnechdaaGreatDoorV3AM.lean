/- Lemmas for the statement of the last text of this claim. -/
import Derived.Test.YtoihpnpfnechdaaGreatDoorV3AL
set_option linter.unusedSimpArgs false
set_option linter.unusedVariables false
namespace Go.Proofs.YtoihpnpfnechdaaGreatDoor
open Go Go.Abs
set_option maxRecDepth 1000000
theorem kl0 : evT hand1 200 40 97 [lnA0] [] = some (.tup [tkA0, .int .i64 0], [], []) := by kernel_rfl
theorem kl1 : evT hand1 200 40 97 [lnA1] [] = some (.tup [tkA1, .int .i64 0], [], []) := by kernel_rfl
theorem kl2 : evT hand1 200 40 97 [lnA2] [] = some (.tup [tkA2, .int .i64 0], [], []) := by kernel_rfl
theorem kl3 : evT hand1 200 40 97 [lnA3] [] = some (.tup [tkA3, .int .i64 0], [], []) := by kernel_rfl
theorem kl4 : evT hand1 200 40 97 [lnA4] [] = some (.tup [tkA4, .int .i64 0], [], []) := by kernel_rfl
theorem kl5 : evT hand1 200 40 97 [lnA5] [] = some (.tup [tkA5, .int .i64 0], [], []) := by kernel_rfl
theorem kl6 : evT hand1 200 40 97 [lnA6] [] = some (.tup [tkA6, .int .i64 0], [], []) := by kernel_rfl
end Go.Proofs.YtoihpnpfnechdaaGreatDoor
