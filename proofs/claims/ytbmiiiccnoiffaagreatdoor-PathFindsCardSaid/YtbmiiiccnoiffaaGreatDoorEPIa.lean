/- The closed facts of the row PathFinds. -/
import Derived.Test.YtbmiiiccnoiffaaGreatDoorRows
import Derived.Test.YtbmiiiccnoiffaaGreatDoorCards
import Derived.Test.YtbmiiiccnoiffaaGreatDoorTie
import Derived.Test.YtbmiiiccnoiffaaGreatDoorE42
import Derived.OpenShut
import Derived.ShutString
import Derived.Lay
import Derived.LaidOnce
import Derived.SevenTiedAt
import Derived.Stop.Joined
namespace Go.Proofs.YtbmiiiccnoiffaaGreatDoor.pathFinds
open Go.ChangeShapes Go.WideShapes Go.ChangeAt Go.RowKit
set_option maxRecDepth 100000
theorem joined : joinedFacts Tryz.prog 11 Tryz.f11 Rows.pathFindsSpec Rows.pathFindsRow = true := by kernel_rfl
end Go.Proofs.YtbmiiiccnoiffaaGreatDoor.pathFinds
