/- A part of this claim. -/
import Derived.Laws.ComplexArith
import Derived.Laws.FloatArith
namespace Go.Proofs.YtejamhkgjkhjdaaGreatDoor
set_option maxHeartbeats 64000000
set_option maxRecDepth 100000
section
namespace Fl
open Ieee
def fb (n:Int):Nat:=double.write (.number (decide (n<0)) n.natAbs 0)
end Fl
end
end Go.Proofs.YtejamhkgjkhjdaaGreatDoor
