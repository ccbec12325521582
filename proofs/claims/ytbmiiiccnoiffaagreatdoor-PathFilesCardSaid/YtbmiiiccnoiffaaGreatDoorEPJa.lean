/- The closed facts of the row PathFiles. -/
import Derived.Test.YtbmiiiccnoiffaaGreatDoorRows
import Derived.Test.YtbmiiiccnoiffaaGreatDoorCards
import Derived.Test.YtbmiiiccnoiffaaGreatDoorTie
import Derived.Test.YtbmiiiccnoiffaaGreatDoorE42
import Derived.OpenShut
import Derived.ShutString
import Derived.Lay
import Derived.LaidOnce
import Derived.SevenTiedAt
import Derived.Stop.Joined
namespace Go.Proofs.YtbmiiiccnoiffaaGreatDoor.pathFiles
open Go.ChangeShapes Go.WideShapes Go.ChangeAt Go.RowKit
set_option maxRecDepth 100000
theorem joined : joinedFacts Tryz.prog 10 Tryz.f10 Rows.pathFilesSpec Rows.pathFilesRow = true := by kernel_rfl
end Go.Proofs.YtbmiiiccnoiffaaGreatDoor.pathFiles
