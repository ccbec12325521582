/- The closed facts of the row StoreNone. -/
import Derived.Test.YtlhcoanbhnphgaaGreatDoorRows
import Derived.Test.YtlhcoanbhnphgaaGreatDoorCards
import Derived.Test.YtlhcoanbhnphgaaGreatDoorTie
import Derived.ChangeAt
import Derived.OpenShut
import Derived.ShutString
import Derived.Lay
import Derived.LaidOnce
import Derived.SevenTiedAt
import Derived.Stop.Joined
namespace Go.Proofs.YtlhcoanbhnphgaaGreatDoor.storeNone
open Go.ChangeShapes Go.WideShapes Go.ChangeAt Go.RowKit
set_option maxRecDepth 100000
theorem joined : joinedFacts Tryz.prog 5 Tryz.f5 Rows.storeNoneSpec Rows.storeNoneRow = true := by kernel_rfl
end Go.Proofs.YtlhcoanbhnphgaaGreatDoor.storeNone
