/- The closed facts of the row HistoryLines. -/
import Derived.Test.YtbmiiiccnoiffaaGreatDoorRows
import Derived.Test.YtbmiiiccnoiffaaGreatDoorCards
import Derived.Test.YtbmiiiccnoiffaaGreatDoorTie
import Derived.Test.YtbmiiiccnoiffaaGreatDoorL48
import Derived.OpenShut
import Derived.ShutString
import Derived.Lay
import Derived.LaidOnce
import Derived.SevenTiedAt
import Derived.Stop.Joined
namespace Go.Proofs.YtbmiiiccnoiffaaGreatDoor.historyLines
open Go.ChangeShapes Go.WideShapes Go.ChangeAt Go.RowKit
set_option maxRecDepth 100000
theorem joined : joinedFacts Tryz.prog 3 Tryz.f3 Rows.historyLinesSpec Rows.historyLinesRow = true := by kernel_rfl
end Go.Proofs.YtbmiiiccnoiffaaGreatDoor.historyLines
