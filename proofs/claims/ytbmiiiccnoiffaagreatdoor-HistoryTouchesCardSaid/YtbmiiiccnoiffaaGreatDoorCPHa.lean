/- The closed facts of the row HistoryTouches. -/
import Derived.Test.YtbmiiiccnoiffaaGreatDoorRows
import Derived.RowKit
import Derived.Stop.Joined
namespace Go.Proofs.YtbmiiiccnoiffaaGreatDoor.historyTouches
open Go.RowKit
set_option maxRecDepth 100000
theorem joined : joinedFacts Tryz.prog 13 Tryz.f13 Rows.historyTouchesSpec Rows.historyTouchesRow = true := by kernel_rfl
end Go.Proofs.YtbmiiiccnoiffaaGreatDoor.historyTouches
