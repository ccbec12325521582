/- The closed facts of the row RepairObjects. -/
import Derived.Test.YtejamhkgjkhjdaaGreatDoorRows
import Derived.Test.YtejamhkgjkhjdaaGreatDoorCards
import Derived.Test.YtejamhkgjkhjdaaGreatDoorTie
import Derived.ChangeAt
import Derived.OpenShut
import Derived.ShutString
import Derived.Lay
import Derived.LaidOnce
import Derived.SevenTiedAt
import Derived.Stop.Joined
namespace Go.Proofs.YtejamhkgjkhjdaaGreatDoor.repairObjects
open Go.ChangeShapes Go.WideShapes Go.ChangeAt Go.RowKit
set_option maxRecDepth 100000
theorem joined : joinedFacts Tryz.prog 3 Tryz.f3 Rows.repairObjectsSpec Rows.repairObjectsRow = true := by kernel_rfl
end Go.Proofs.YtejamhkgjkhjdaaGreatDoor.repairObjects
