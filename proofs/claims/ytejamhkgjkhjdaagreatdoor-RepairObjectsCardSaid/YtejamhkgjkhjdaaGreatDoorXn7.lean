/- A part of this claim. -/
import Derived.Maps.OwnOps
import Derived.Maps.OwnSet
import Derived.Maps.RangeWalk
import Derived.Maps.StringElems
import Derived.Sort.KeysCollected
import Derived.Test.YtejamhkgjkhjdaaGreatDoorShelf
import Derived.Test.YtejamhkgjkhjdaaGreatDoorXn4
namespace Go.Proofs.YtejamhkgjkhjdaaGreatDoor
open Tryz
set_option maxHeartbeats 64000000
set_option maxRecDepth 100000
section
open Go.RowKit
def qR (w:World):Prop:=∃m:Int,w.cell? ⟨1,0,none⟩=some (.int .i64 m)
theorem qR.below {w w':World} {B:Nat} (h:qR w) (hb:Below B w w') (a:1<B):qR w':=by
 obtain ⟨m,h⟩:=h;exact ⟨m,by rw [hb.cell (p:=⟨1,0,none⟩) a];exact h⟩
theorem qR.lt {w:World} (h:qR w):1<w.heap.size:=by
 obtain ⟨m,h⟩:=h;exact World.block_lt_of_cell? w _ h
theorem run_append_nil {P:Program} (w:World) (t ty e:TypeId) (i:TypeInfo) (a:P.underlying t=some (.slice e)) (hi:P.info? e=some i) (b:Option Addr) (c:Nat) :
  (Builtin.append_ #[t,t] ty #[.slice none 0 0,.slice b 0 c]).run P w= .ok (.slice none 0 0) w:=by
 cases b<;>simp [Builtin.append_,run_underlying a,sizeOf,typeInfo,hi,Builtin.lenOf,Builtin.firstCells,loadCells,loadCellsFrom]
end
section
open Go.RowKit Go.Maps
theorem bZ:Keyed prog 9:=string_keyed underlying9
end
end Go.Proofs.YtejamhkgjkhjdaaGreatDoor
