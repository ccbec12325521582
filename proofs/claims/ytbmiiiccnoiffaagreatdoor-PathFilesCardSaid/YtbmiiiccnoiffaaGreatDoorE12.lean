/- YtbmiiiccnoiffaaGreatDoorE12: texts MX of this claim, in one. -/
import Derived.Shelf.Vars
import Derived.Test.YtbmiiiccnoiffaaGreatDoorE11
namespace Go.Proofs.YtbmiiiccnoiffaaGreatDoor
open Go.RowKit
theorem maxAt_shaped2 {w:World} (h:w.ShapedOpen Tryz.prog):MaxAt w :=
 Go.Proofs.cell_of_shapedOpen_int (P:=Tryz.prog) (g:=0) (t:=3) (zero:=#[.int .i64 0]) h (of_decide_eq_true (by kernel_rfl)) (by kernel_rfl) rfl (by kernel_rfl) (by kernel_rfl) Tryz.underlying3
end Go.Proofs.YtbmiiiccnoiffaaGreatDoor
