/- A part of this claim. -/
import Derived.Deep.Heap
import Derived.Test.YtejamhkgjkhjdaaGreatDoorXn10
import Derived.Test.YtejamhkgjkhjdaaGreatDoorXn9
namespace Go.Proofs.YtejamhkgjkhjdaaGreatDoor
set_option maxHeartbeats 64000000
set_option maxRecDepth 100000
section
open Go.RowKit
def zB (b:Nat) (w w':World):Prop:=∀k cs ty fr,k≠b→w.heap[k]? = some (.cells cs ty fr)→ty≠5→w'.heap[k]? = some (.cells cs ty fr)
end
end Go.Proofs.YtejamhkgjkhjdaaGreatDoor
