/- One more closed fact of the row RepairObjects. -/
import Derived.Test.YtejamhkgjkhjdaaGreatDoorRows
import Derived.RowKit
import Derived.SevenTiedAt
namespace Go.Proofs.YtejamhkgjkhjdaaGreatDoor.repairObjects
open Go.RowKit
set_option maxRecDepth 100000
theorem JZ : false = Rows.repairObjectsRow.goesBy Tryz.prog := by kernel_rfl
end Go.Proofs.YtejamhkgjkhjdaaGreatDoor.repairObjects
