/- YtmhjpmenngjmeaaGreatDoorR12: texts D3, D4, D6, MX of this claim, in one. -/
import Derived.Maps.OwnOps
import Derived.Maps.OwnSet
import Derived.Maps.RangeWalk
import Derived.Maps.StringElems
import Derived.Shelf.Vars
import Derived.Sort.KeysCollected
import Derived.Test.YtmhjpmenngjmeaaGreatDoorR8
import Derived.Test.YtmhjpmenngjmeaaGreatDoorShelf
namespace Go.Proofs.YtmhjpmenngjmeaaGreatDoor
open Go.RowKit
set_option maxRecDepth 100000
def MaxAt (w:World):Prop:=∃ m:Int,w.cell? ⟨0,0,none⟩ = some (.int .i64 m)
theorem MaxAt.below {w w':World} {B:Nat} (h:MaxAt w) (hb:Below B w w') (hB:0 < B):MaxAt w':=by
 obtain ⟨m,h⟩:=h;exact ⟨m,by rw [hb.cell (p:=⟨0,0,none⟩) hB];exact h⟩
theorem MaxAt.lt {w:World} (h:MaxAt w):0 < w.heap.size:=by
 obtain ⟨m,h⟩:=h;exact World.block_lt_of_cell? w _ h
theorem MaxAt.step {w w':World} (h:MaxAt w) (hb:Below w.heap.size w w'):MaxAt w':=h.below hb h.lt
theorem run_append_nil {P:Program} (w:World) (t ty e:TypeId) (i:TypeInfo) (ht:P.underlying t = some (.slice e)) (hi:P.info? e = some i) (b:Option Addr) (c:Nat) :
  (Builtin.append_ #[t,t] ty #[.slice none 0 0,.slice b 0 c]).run P w = .ok (.slice none 0 0) w:=by
 cases b <;> simp [Builtin.append_,run_underlying ht,sizeOf,typeInfo,hi,Builtin.lenOf,Builtin.firstCells,loadCells,loadCellsFrom]
end Go.Proofs.YtmhjpmenngjmeaaGreatDoor
namespace Go.Proofs.YtmhjpmenngjmeaaGreatDoor
open Go.RowKit
set_option maxRecDepth 100000
def CapOk (v:Value):Prop:=∀ p n c,v = .slice p n c → n ≤ c
theorem CapOk.of_own {w:World} {B:Nat} {e:TypeId} {sz:Nat} {v:Value} {n:Nat} {xs:List Value} (h:w.ownsRow B e sz v n xs):CapOk v:=by
 intro p k c hv
 rcases h.2 with ⟨h1,_⟩ | ⟨g,cap,cur,h1,_,_,hn,_⟩
 ·rw [h1] at hv;cases hv;omega
 ·rw [h1] at hv;cases hv;exact hn
end Go.Proofs.YtmhjpmenngjmeaaGreatDoor
namespace Go.Proofs.YtmhjpmenngjmeaaGreatDoor
open Go.RowKit Go.Maps
set_option maxRecDepth 100000
theorem strKeyed:Keyed Tryz.prog 9:=string_keyed Tryz.underlying9
def Says (D:DataW Unit) (f:ByteArray → Option ByteArray):Prop :=
 ∀ p,Maps.has D (.string p.data.toList) = (f p).isSome ∧ ∀ s,f p = some s → ∀ zd,D.atKey (.string p.data.toList) zd = .lit (.string s.data.toList)
def StrMap (w:World) (b n:Nat) (f:ByteArray → Option ByteArray):Prop:=∃ D:DataW Unit,w.ownsMap Tryz.prog 9 (plainElem Tryz.prog 9) b n D ∧ Says D f
theorem StrMap.below {w w':World} {b n B:Nat} {f:ByteArray → Option ByteArray} (h:StrMap w b n f) (hb:Below B w w') (hB:b < B):StrMap w' b n f:=by
 obtain ⟨D,⟨es,clock,h1,h2⟩,h3⟩:=h
 exact ⟨D,⟨es,clock,(hb.block b hB).trans h1,h2⟩,h3⟩
theorem StrMap.lt {w:World} {b n:Nat} {f:ByteArray → Option ByteArray} (h:StrMap w b n f):b < w.heap.size:=by obtain ⟨D,h,_⟩:=h;exact h.lt
end Go.Proofs.YtmhjpmenngjmeaaGreatDoor
namespace Go.Proofs.YtmhjpmenngjmeaaGreatDoor
open Go.RowKit
theorem maxAt_shaped2 {w:World} (h:w.ShapedOpen Tryz.prog):MaxAt w :=
 Go.Proofs.cell_of_shapedOpen_int (P:=Tryz.prog) (g:=0) (t:=3) (zero:=#[.int .i64 0]) h (of_decide_eq_true (by kernel_rfl)) (by kernel_rfl) rfl (by kernel_rfl) (by kernel_rfl) Tryz.underlying3
end Go.Proofs.YtmhjpmenngjmeaaGreatDoor
