/- The closed facts of the row FsckSource. -/
import Derived.Test.YtijhemdnajlfnaaGreatDoorRows
import Derived.Test.YtijhemdnajlfnaaGreatDoorCards
import Derived.Test.YtijhemdnajlfnaaGreatDoorTie
import Derived.ChangeAt
import Derived.OpenShut
import Derived.ShutString
import Derived.Lay
import Derived.LaidOnce
import Derived.SevenTiedAt
import Derived.Stop.Joined
namespace Go.Proofs.YtijhemdnajlfnaaGreatDoor.fsckSource
open Go.ChangeShapes Go.WideShapes Go.ChangeAt Go.RowKit
set_option maxRecDepth 100000
theorem joined : joinedFacts Tryz.prog 3 Tryz.f3 Rows.fsckSourceSpec Rows.fsckSourceRow = true := by kernel_rfl
end Go.Proofs.YtijhemdnajlfnaaGreatDoor.fsckSource
