/- The closed facts of the row StorePins. -/
import Derived.Test.YtlhcoanbhnphgaaGreatDoorRows
import Derived.Test.YtlhcoanbhnphgaaGreatDoorCards
import Derived.Test.YtlhcoanbhnphgaaGreatDoorTie
import Derived.ChangeAt
import Derived.OpenShut
import Derived.ShutString
import Derived.Lay
import Derived.LaidOnce
import Derived.SevenTiedAt
import Derived.Stop.Joined
namespace Go.Proofs.YtlhcoanbhnphgaaGreatDoor.storePins
open Go.ChangeShapes Go.WideShapes Go.ChangeAt Go.RowKit
set_option maxRecDepth 100000
theorem joined : joinedFacts Tryz.prog 4 Tryz.f4 Rows.storePinsSpec Rows.storePinsRow = true := by kernel_rfl
end Go.Proofs.YtlhcoanbhnphgaaGreatDoor.storePins
