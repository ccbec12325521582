/- A part of this claim. -/
import Derived.Deep.Heap
import Derived.Test.YtlhcoanbhnphgaaGreatDoorXm11
import Derived.Test.YtlhcoanbhnphgaaGreatDoorXm9
namespace Go.Proofs.YtlhcoanbhnphgaaGreatDoor
set_option maxHeartbeats 64000000
set_option maxRecDepth 100000
section
open Go.RowKit
def CB (b:Nat) (w w':World):Prop:=∀k cs ty fr,k≠b→w.heap[k]? = some (.cells cs ty fr)→ty≠5→w'.heap[k]? = some (.cells cs ty fr)
end
end Go.Proofs.YtlhcoanbhnphgaaGreatDoor
