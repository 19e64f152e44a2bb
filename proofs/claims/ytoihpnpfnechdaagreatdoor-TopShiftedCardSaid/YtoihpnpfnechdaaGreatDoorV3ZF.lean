/- Lemmas for the statement of the last text of this claim. -/
import Derived.Test.YtoihpnpfnechdaaGreatDoorV3ZE
set_option linter.unusedSimpArgs false
set_option linter.unusedVariables false
namespace Go.Proofs.YtoihpnpfnechdaaGreatDoor
open Go
set_option maxRecDepth 100000 in
theorem closedC : joinedFacts Tryz.pinned.checked.prog 3 Tryz.f3 specC rowC = true := (andT (andT (andT (andT (andT (andT (andT (andT (andT (andT (andT (andT (andT (andT (andT (andT (andT (andT (andT (andT (andT (andT (andT (andT (andT (andT (andT (andT (andT (andT (andT j0 j1) j2) j3) j4) j5) j6) j7) j8) j9) j10) j11) j12) j13) j14) j15) j16) j17) j18) j19) j20) j21) j22) j23) j24) j25) j26) j27) j28) j29) j30) j31)
end Go.Proofs.YtoihpnpfnechdaaGreatDoor
