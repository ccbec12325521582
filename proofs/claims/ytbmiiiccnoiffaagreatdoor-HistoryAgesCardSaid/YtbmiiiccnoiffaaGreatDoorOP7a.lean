/- The closed facts of the row HistoryAges. -/
import Derived.Test.YtbmiiiccnoiffaaGreatDoorRows
import Derived.Test.YtbmiiiccnoiffaaGreatDoorCards
import Derived.Test.YtbmiiiccnoiffaaGreatDoorTie
import Derived.Test.YtbmiiiccnoiffaaGreatDoorO46
import Derived.OpenShut
import Derived.ShutString
import Derived.Lay
import Derived.LaidOnce
import Derived.SevenTiedAt
import Derived.Stop.Joined
namespace Go.Proofs.YtbmiiiccnoiffaaGreatDoor.historyAges
open Go.ChangeShapes Go.WideShapes Go.ChangeAt Go.RowKit
set_option maxRecDepth 100000
theorem joined : joinedFacts Tryz.prog 5 Tryz.f5 Rows.historyAgesSpec Rows.historyAgesRow = true := by kernel_rfl
end Go.Proofs.YtbmiiiccnoiffaaGreatDoor.historyAges
