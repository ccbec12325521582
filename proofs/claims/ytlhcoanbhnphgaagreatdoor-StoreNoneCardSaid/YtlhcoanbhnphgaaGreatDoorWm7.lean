/- A part of this claim. -/
import Derived.Maps.OwnOps
import Derived.Maps.OwnSet
import Derived.Maps.RangeWalk
import Derived.Maps.StringElems
import Derived.Sort.KeysCollected
import Derived.Test.YtlhcoanbhnphgaaGreatDoorShelf
import Derived.Test.YtlhcoanbhnphgaaGreatDoorWm4
namespace Go.Proofs.YtlhcoanbhnphgaaGreatDoor
open Tryz
set_option maxHeartbeats 64000000
set_option maxRecDepth 100000
section
open Go.RowKit
def kW (w:World):Prop:=∃ m:Int,w.cell? ⟨1,0,none⟩ = some (.int .i64 m)
theorem kW.below {w w':World} {B:Nat} (h:kW w) (hb:Below B w w') (hB:1 < B):kW w':=by
 obtain ⟨m,h⟩:=h;exact ⟨m,by rw [hb.cell (p:=⟨1,0,none⟩) hB];exact h⟩
theorem kW.lt {w:World} (h:kW w):1 < w.heap.size:=by
 obtain ⟨m,h⟩:=h;exact World.block_lt_of_cell? w _ h
theorem kW.step {w w':World} (h:kW w) (hb:Below w.heap.size w w'):kW w':=h.below hb h.lt
theorem run_append_nil {P:Program} (w:World) (t ty e:TypeId) (i:TypeInfo) (ht:P.underlying t = some (.slice e)) (hi:P.info? e = some i) (b:Option Addr) (c:Nat) :
  (Builtin.append_ #[t,t] ty #[.slice none 0 0,.slice b 0 c]).run P w = .ok (.slice none 0 0) w:=by
 cases b <;> simp [Builtin.append_,run_underlying ht,sizeOf,typeInfo,hi,Builtin.lenOf,Builtin.firstCells,loadCells,loadCellsFrom]
theorem mZ {P:Program} {w:World} {ops:Array Oper} {rest:List Oper} {o:Oper} {a:Act} {Q:Exit → Act → World → Prop} (hgd:o.guard = none) (s x:Operand) (t:TypeId)
  (ho:o.op = .call { callee:=.builtin .append,args:=#[s,x],argTypes:=#[t,t] })
  (base:Nat) (e:TypeId) (i:TypeInfo) (z:Value) (size bytes:Nat) (ht:P.underlying t = some (.slice e)) (hi:P.info? e = some i) (hz:i.zero = some z)
  (hsize:i.size = size) (hby:i.bytes = bytes) (hzs:z.cells.size = size) (hsz:0 < size)
  (v:Value) (n:Nat) (xs:List Value) (hs:a.eval s = v) (hown:w.ownsRow base e size v n xs)
  (ao:Option Addr) (m c:Nat) (news:List Value) (hx:a.eval x = .slice ao m c) (hl:news.length = m * size) (hnews:0 < m → ∃ ad,ao = some ad ∧ ∀ j u,news[j]? = some u → w.cell? (ad.add j) = some u) (h1:∀ u ∈ news,u.oneCell' = true)
  (h63:n + m ≤ maxLen) (hbytes:(n + m) * bytes ≤ 140737488355328) (hbase:base ≤ w.heap.size)
  (h:∀ v' w',w'.ownsRow base e size v' (n + m) (xs ++ news) → w.grownBy w' v.ownBlock → wpList P ops Q rest (a.put o.dst v') w'):wpList P ops Q (o :: rest) a w:=by
 rcases Nat.eq_zero_or_pos m with rfl | hm
 ·obtain rfl:news = []:=List.eq_nil_of_length_eq_zero (by simpa using hl)
  rw [List.append_nil,Nat.add_zero] at h
  rcases hown.2 with ⟨rfl,rfl⟩ | ⟨g,cap,cur,rfl,_,_,hn,_⟩
  ·refine wpList_plain hgd fun K hK' => ?_
   have hrun:=run_append_nil (P:=P) w t o.type e i ht hi ao c
   unfold Oper.wp
   simp [execOp,ho,resolve,invoke,builtin,hs,hx,hrun,Result.andThen]
   exact hK' _ _ (h _ _ hown (World.grownBy.refl _ _))
  exact lS w hgd s x t ho e i ht hi _ n cap hn ao c hs hx (h _ _ hown (World.grownBy.refl _ _))
 obtain ⟨ad,rfl,hc⟩:=hnews hm
 exact wpList_append_lies w hgd s x t ho base e i z size bytes ht hi hz hsize hby hzs hsz v n xs hs hown ad m c news hx hl hc h1 hm h63 hbytes hbase _ rfl fun g cap w' h2 h3 _ _ => h _ _ h2 h3
def KI (v:Value):Prop:=∀ p n c,v = .slice p n c → n ≤ c
theorem KI.bZ {w:World} {B:Nat} {e:TypeId} {sz:Nat} {v:Value} {n:Nat} {xs:List Value} (h:w.ownsRow B e sz v n xs):KI v:=by
 intro p k c hv
 rcases h.2 with ⟨h1,_⟩ | ⟨g,cap,cur,h1,_,_,hn,_⟩
 ·rw [h1] at hv;cases hv;omega
 rw [h1] at hv;cases hv;exact hn
end
section
open Go.RowKit Go.Maps
theorem bY:Keyed prog 9:=string_keyed underlying9
def Says (D:DataW Unit) (f:ByteArray → Option ByteArray):Prop :=
 ∀ p,Maps.has D (.string p.data.toList) = (f p).isSome ∧ ∀ s,f p = some s → ∀ zd,D.atKey (.string p.data.toList) zd = .lit (.string s.data.toList)
def uH (w:World) (b n:Nat) (f:ByteArray → Option ByteArray):Prop:=∃ D:DataW Unit,w.ownsMap prog 9 (plainElem prog 9) b n D ∧ Says D f
theorem uH.below {w w':World} {b n B:Nat} {f:ByteArray → Option ByteArray} (h:uH w b n f) (hb:Below B w w') (hB:b < B):uH w' b n f:=by
 obtain ⟨D,⟨es,clock,h1,h2⟩,h3⟩:=h
 exact ⟨D,⟨es,clock,(hb.block b hB).trans h1,h2⟩,h3⟩
theorem uH.lt {w:World} {b n:Nat} {f:ByteArray → Option ByteArray} (h:uH w b n f):b < w.heap.size:=by obtain ⟨D,h,_⟩:=h;exact h.lt
end
end Go.Proofs.YtlhcoanbhnphgaaGreatDoor
