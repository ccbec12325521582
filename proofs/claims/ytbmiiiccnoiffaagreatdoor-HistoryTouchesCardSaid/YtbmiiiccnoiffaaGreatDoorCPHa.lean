/- The closed facts of the row HistoryTouches. -/
import Derived.Test.YtbmiiiccnoiffaaGreatDoorRows
import Derived.Test.YtbmiiiccnoiffaaGreatDoorCards
import Derived.Test.YtbmiiiccnoiffaaGreatDoorTie
import Derived.Test.YtbmiiiccnoiffaaGreatDoorC45
import Derived.OpenShut
import Derived.ShutString
import Derived.Lay
import Derived.LaidOnce
import Derived.SevenTiedAt
import Derived.Stop.Joined
namespace Go.Proofs.YtbmiiiccnoiffaaGreatDoor.historyTouches
open Go.ChangeShapes Go.WideShapes Go.ChangeAt Go.RowKit
set_option maxRecDepth 100000
theorem joined : joinedFacts Tryz.prog 13 Tryz.f13 Rows.historyTouchesSpec Rows.historyTouchesRow = true := by kernel_rfl
end Go.Proofs.YtbmiiiccnoiffaaGreatDoor.historyTouches
