/- The closed facts of the row PathBuilds. -/
import Derived.Test.YtmhjpmenngjmeaaGreatDoorRows
import Derived.Test.YtmhjpmenngjmeaaGreatDoorCards
import Derived.Test.YtmhjpmenngjmeaaGreatDoorTie
import Derived.Test.YtmhjpmenngjmeaaGreatDoorR43
import Derived.OpenShut
import Derived.ShutString
import Derived.Lay
import Derived.LaidOnce
import Derived.SevenTiedAt
import Derived.Stop.Joined
namespace Go.Proofs.YtmhjpmenngjmeaaGreatDoor.pathBuilds
open Go.ChangeShapes Go.WideShapes Go.ChangeAt Go.RowKit
set_option maxRecDepth 100000
theorem joined : joinedFacts Tryz.prog 3 Tryz.f3 Rows.pathBuildsSpec Rows.pathBuildsRow = true := by kernel_rfl
end Go.Proofs.YtmhjpmenngjmeaaGreatDoor.pathBuilds
