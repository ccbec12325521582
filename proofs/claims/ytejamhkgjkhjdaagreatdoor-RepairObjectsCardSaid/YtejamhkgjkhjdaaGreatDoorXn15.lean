/- A part of this claim. -/
import Derived.Test.YtejamhkgjkhjdaaGreatDoorXn11
import Derived.Test.YtejamhkgjkhjdaaGreatDoorXn14
namespace Go.Proofs.YtejamhkgjkhjdaaGreatDoor
set_option maxHeartbeats 64000000
set_option maxRecDepth 100000
section
open Go.RowKit
section
variable {P:Program} {w:World} {ops:Array Oper} {rest:List Oper} {o:Oper} {a:Act} {Q:Exit → Act → World → Prop}
theorem nK (f:o.guard=none) (t:TypeId) (x hi:Operand) (b:o.op= .slice t x none (some hi) none) (d e:Value) (hx:a.eval x=d) (i:a.eval hi=e) (v:Value) (h:(Instr.sliceAt t d none (some e) none).run P w= .ok v w) (g:wpList P ops Q rest (a.put o.dst v) w):wpList P ops Q (o::rest) a w:=by
 refine qg f v ?_ g
 unfold execOp
 simp only [b,hx,Option.map_some,Option.map_none,i,Sem.run_bind,h,Result.andThen_ok]
 rfl
end
end
end Go.Proofs.YtejamhkgjkhjdaaGreatDoor
