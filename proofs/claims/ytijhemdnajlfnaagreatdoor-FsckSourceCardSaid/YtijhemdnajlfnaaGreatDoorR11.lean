/- A part of this claim. -/
import Derived.Maps.OwnOps
import Derived.Maps.OwnSet
import Derived.Maps.RangeWalk
import Derived.Maps.StringElems
import Derived.Sort.KeysCollected
import Derived.Test.YtijhemdnajlfnaaGreatDoorR8
import Derived.Test.YtijhemdnajlfnaaGreatDoorShelf
namespace Go.Proofs.YtijhemdnajlfnaaGreatDoor
open Tryz
set_option maxHeartbeats 64000000
set_option maxRecDepth 100000
section
open Go.RowKit
def mY (w:World):Prop:=∃ m:Int,w.cell? ⟨1,0,none⟩ = some (.int .i64 m)
theorem mY.below {w w':World} {B:Nat} (h:mY w) (hb:Below B w w') (hB:1 < B):mY w':=by
 obtain ⟨m,h⟩:=h;exact ⟨m,by rw [hb.cell (p:=⟨1,0,none⟩) hB];exact h⟩
theorem mY.lt {w:World} (h:mY w):1 < w.heap.size:=by
 obtain ⟨m,h⟩:=h;exact World.block_lt_of_cell? w _ h
theorem mY.step {w w':World} (h:mY w) (hb:Below w.heap.size w w'):mY w':=h.below hb h.lt
theorem run_append_nil {P:Program} (w:World) (t ty e:TypeId) (i:TypeInfo) (ht:P.underlying t = some (.slice e)) (hi:P.info? e = some i) (b:Option Addr) (c:Nat) :
  (Builtin.append_ #[t,t] ty #[.slice none 0 0,.slice b 0 c]).run P w = .ok (.slice none 0 0) w:=by
 cases b <;> simp [Builtin.append_,run_underlying ht,sizeOf,typeInfo,hi,Builtin.lenOf,Builtin.firstCells,loadCells,loadCellsFrom]
def OB (v:Value):Prop:=∀ p n c,v = .slice p n c → n ≤ c
theorem OB.aS {w:World} {B:Nat} {e:TypeId} {sz:Nat} {v:Value} {n:Nat} {xs:List Value} (h:w.ownsRow B e sz v n xs):OB v:=by
 intro p k c hv
 rcases h.2 with ⟨h1,_⟩ | ⟨g,cap,cur,h1,_,_,hn,_⟩
 ·rw [h1] at hv;cases hv;omega
 rw [h1] at hv;cases hv;exact hn
end
section
open Go.RowKit Go.Maps
theorem jB:Keyed prog 9:=string_keyed underlying9
def Says (D:DataW Unit) (f:ByteArray → Option ByteArray):Prop :=
 ∀ p,Maps.has D (.string p.data.toList) = (f p).isSome ∧ ∀ s,f p = some s → ∀ zd,D.atKey (.string p.data.toList) zd = .lit (.string s.data.toList)
def xB (w:World) (b n:Nat) (f:ByteArray → Option ByteArray):Prop:=∃ D:DataW Unit,w.ownsMap prog 9 (plainElem prog 9) b n D ∧ Says D f
theorem xB.below {w w':World} {b n B:Nat} {f:ByteArray → Option ByteArray} (h:xB w b n f) (hb:Below B w w') (hB:b < B):xB w' b n f:=by
 obtain ⟨D,⟨es,clock,h1,h2⟩,h3⟩:=h
 exact ⟨D,⟨es,clock,(hb.block b hB).trans h1,h2⟩,h3⟩
theorem xB.lt {w:World} {b n:Nat} {f:ByteArray → Option ByteArray} (h:xB w b n f):b < w.heap.size:=by obtain ⟨D,h,_⟩:=h;exact h.lt
end
end Go.Proofs.YtijhemdnajlfnaaGreatDoor
