/- Law 26, Receipts: for every input the function returns, does not panic, answers true and leaves its arguments as they were. Conditions: none beyond the statement's own. -/
import Derived.Test.YtnmfcglhgaocoaaQ
import Derived.Test.YtnmfcglhgaocoaaW
namespace Go.Proofs.Ytnmfcglhgaocoaa
theorem receipts_holds : Rows.ChannelReceiptsSaid := over7 law7
end Go.Proofs.Ytnmfcglhgaocoaa
