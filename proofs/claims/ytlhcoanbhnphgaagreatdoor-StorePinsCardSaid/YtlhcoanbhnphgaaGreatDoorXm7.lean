/- A part of this claim. -/
import Derived.Maps.OwnOps
import Derived.Maps.OwnSet
import Derived.Maps.RangeWalk
import Derived.Maps.StringElems
import Derived.Sort.KeysCollected
import Derived.Test.YtlhcoanbhnphgaaGreatDoorShelf
import Derived.Test.YtlhcoanbhnphgaaGreatDoorXm4
namespace Go.Proofs.YtlhcoanbhnphgaaGreatDoor
open Tryz
set_option maxHeartbeats 64000000
set_option maxRecDepth 100000
section
open Go.RowKit
def uR (w:World):Prop:=∃m:Int,w.cell? ⟨1,0,none⟩=some (.int .i64 m)
theorem uR.below {w w':World} {B:Nat} (h:uR w) (hb:Below B w w') (a:1<B):uR w':=by
 obtain ⟨m,h⟩:=h;exact ⟨m,by rw [hb.cell (p:=⟨1,0,none⟩) a];exact h⟩
theorem uR.lt {w:World} (h:uR w):1<w.heap.size:=by
 obtain ⟨m,h⟩:=h;exact World.block_lt_of_cell? w _ h
theorem run_append_nil {P:Program} (w:World) (t ty e:TypeId) (i:TypeInfo) (a:P.underlying t=some (.slice e)) (hi:P.info? e=some i) (b:Option Addr) (c:Nat) :
  (Builtin.append_ #[t,t] ty #[.slice none 0 0,.slice b 0 c]).run P w= .ok (.slice none 0 0) w:=by
 cases b<;>simp [Builtin.append_,run_underlying a,sizeOf,typeInfo,hi,Builtin.lenOf,Builtin.firstCells,loadCells,loadCellsFrom]
theorem qp {P:Program} {w:World} {ops:Array Oper} {rest:List Oper} {o:Oper} {a:Act} {Q:Exit→Act→World→Prop} (l:o.guard=none) (s x:Operand) (t:TypeId)
  (H:o.op= .call { callee:=.builtin .append,args:=#[s,x],argTypes:=#[t,t] })
  (base:Nat) (e:TypeId) (i:TypeInfo) (z:Value) (size bytes:Nat) (D:P.underlying t=some (.slice e)) (hi:P.info? e=some i) (M:i.zero=some z)
  (p:i.size=size) (I:i.bytes=bytes) (F:z.cells.size=size) (G:0<size)
  (v:Value) (n:Nat) (xs:List Value) (C:a.eval s=v) (d:w.ownsRow base e size v n xs)
  (y:Option Addr) (m c:Nat) (b:List Value) (hx:a.eval x= .slice y m c) (J:b.length=m*size) (k:0<m→ ∃A,y=some A∧ ∀j u,b[j]? = some u→w.cell? (A.add j)=some u) (h1:∀u∈b,u.oneCell'=true)
  (E:n+m≤maxLen) (f:(n+m)*bytes≤140737488355328) (q:base≤w.heap.size)
  (h:∀L w',w'.ownsRow base e size L (n+m) (xs++b)→w.grownBy w' v.ownBlock→wpList P ops Q rest (a.put o.dst L) w'):wpList P ops Q (o::rest) a w:=by
 rcases Nat.eq_zero_or_pos m with rfl|hm
 ·obtain rfl:b=[]:=List.eq_nil_of_length_eq_zero (by simpa using J)
  rw [List.append_nil,Nat.add_zero] at h
  rcases d.2 with ⟨rfl,rfl⟩|⟨g,cap,cur,rfl,_,_,S,_⟩
  ·refine wpList_plain l fun K B=> ?_
   have r:=run_append_nil (P:=P) w t o.type e i D hi y c
   unfold Oper.wp
   simp [execOp,H,resolve,invoke,builtin,C,hx,r,Result.andThen]
   exact B _ _ (h _ _ d (World.grownBy.refl _ _))
  exact oC w l s x t H e i D hi _ n cap S y c C hx (h _ _ d (World.grownBy.refl _ _))
 obtain ⟨A,rfl,R⟩:=k hm
 exact wpList_append_lies w l s x t H base e i z size bytes D hi M p I F G v n xs C d A m c b hx J R h1 hm E f q _ rfl fun g cap w' N O _ _=>h _ _ N O
end
section
open Go.RowKit Go.Maps
theorem eG:Keyed prog 9:=string_keyed underlying9
end
end Go.Proofs.YtlhcoanbhnphgaaGreatDoor
