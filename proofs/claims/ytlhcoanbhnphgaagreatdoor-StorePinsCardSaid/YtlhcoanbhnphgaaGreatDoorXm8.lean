/- A part of this claim. -/
import Derived.Test.YtlhcoanbhnphgaaGreatDoorXm5
import Derived.Test.YtlhcoanbhnphgaaGreatDoorXm7
namespace Go.Proofs.YtlhcoanbhnphgaaGreatDoor
set_option maxHeartbeats 64000000
set_option maxRecDepth 100000
section
open Go.RowKit
def bQ (w:World) (B sz:Nat) (v:Value) (n:Nat) (xs:List Value):Prop :=
 xs.length=n*sz∧((v= .slice none 0 0∧n=0)∨ ∃g off cap,v= .slice (some ⟨g,off,none⟩) n cap∧B≤g∧g<w.heap.size∧n≤cap∧cap≤maxLen∧w.there g off (cap*sz)∧w.rangeAt g off xs)
theorem iD (w:World) (B sz:Nat):bQ w B sz (.slice none 0 0) 0 []:=⟨by simp,.inl ⟨rfl,rfl⟩⟩
theorem bQ.iE {w:World} {B sz n:Nat} {e:TypeId} {v:Value} {xs:List Value} (h:w.ownsRow B e sz v n xs):bQ w B sz v n xs:=by
 refine ⟨h.1,?_⟩
 rcases h.2 with l|⟨g,cap,cur,rfl,hb,a,k,d,o,i⟩
 ·exact .inl l
 have f:=(Array.getElem?_eq_some_iff.1 a).1
 refine .inr ⟨g,0,cap,rfl,hb,f,k,d,fun j p=> ?_,fun j u hu=> ?_⟩
 ·rw [Nat.zero_add]
  have b:j<cur.size:=by omega
  constructor
  ·simp [World.cell?,a,b]
  simp [World.frozen?,a]
 rw [Nat.zero_add]
 have m:j<xs.length:=(List.getElem?_eq_some_iff.1 hu).1
 rw [←i] at hu
 rw [List.getElem?_take] at hu
 split at hu
 ·simp [World.cell?,a]
  simpa using hu
 cases hu
theorem bQ.below {w w':World} {B sz n:Nat} {v:Value} {xs:List Value} (h:bQ w B sz v n xs) (hb:Below w.heap.size w w'):bQ w' B sz v n xs:=by
 refine ⟨h.1,?_⟩
 rcases h.2 with i|⟨g,off,cap,k,f,d,e,a,b,j⟩
 ·exact .inl i
 exact .inr ⟨g,off,cap,k,f,Nat.lt_of_lt_of_le d hb.size,e,a,gX b hb d,ay j hb d⟩
theorem bQ.cut {w:World} {B sz n:Nat} {v:Value} {x xs:List Value} (h:bQ w B sz v (n+1) (x++xs)) (hx:x.length=sz) :
  ∃g off cap,v= .slice (some ⟨g,off,none⟩) (n+1) (cap+1)∧B≤g∧g<w.heap.size∧cap+1≤maxLen∧n≤cap∧w.rangeAt g off x∧ ∀p,p=(if cap=0 then (⟨g,off,none⟩:Addr) else ⟨g,off+sz,none⟩)→bQ w B sz (.slice (some p) n cap) n xs:=by
 rcases h.2 with ⟨_,q⟩|⟨g,off,cap,rfl,e,m,s,f,i,o⟩
 ·cases q
 obtain ⟨cap,rfl⟩:∃c,cap=c+1:=⟨cap-1,by omega⟩
 have r:=h.1
 rw [List.length_append,hx,Nat.add_mul,Nat.one_mul] at r
 have a:xs.length=n*sz:=by omega
 refine ⟨g,off,cap,rfl,e,m,f,by omega,fun j u hu=>o j u (by rw [List.getElem?_append_left (List.getElem?_eq_some_iff.1 hu).1];exact hu),fun p b=>⟨a,?_⟩⟩
 by_cases d:cap=0
 ·rw [if_pos d] at b
  subst b
  have l:n=0:=by omega
  subst l
  have:xs=[]:=List.eq_nil_of_length_eq_zero (by simpa using a)
  subst this
  exact .inr ⟨g,off,cap,rfl,e,m,by omega,by omega,fun j k=>by rw [d] at k;simp at k,fun j u hu=>by simp at hu⟩
 rw [if_neg d] at b
 subst b
 refine .inr ⟨g,off+sz,cap,rfl,e,m,by omega,by omega,fun j k=> ?_,fun j u hu=> ?_⟩
 ·have:=i (sz+j) (by rw [Nat.add_mul,Nat.one_mul];omega)
  rwa [←Nat.add_assoc] at this
 have:=o (sz+j) u (by rw [List.getElem?_append_right (by omega),hx];simpa using hu)
 rwa [←Nat.add_assoc] at this
theorem bP (w:World) (g o:Nat) (a:List Value):w.grownBy (w.setCells g o a) (some g):=bA a o w (World.grownBy.refl w _)
theorem there_alloc (w:World) (a:Array Value) (e:TypeId) {n:Nat} (h:a.size=n):(w.alloc (.cells a e)).there w.heap.size 0 n:=by
 have:=(Arr.ofList w a.toList e).there
 simpa [h] using this
structure Wrote (w w':World) (us:List Value):Prop where
 bel:Below w.heap.size w w'
 row:w'.rangeAt w.heap.size 0 us
 lt:w.heap.size < w'.heap.size
theorem wrote {w w':World} {a:Array Value} {e:TypeId} {us:List Value} (h:us.length=a.size) (f:0<a.size) (d:(w.alloc (.cells a e)).setCells w.heap.size 0 us=w'):Wrote w w' us:=by
 have b:=World.rangeAt_setCells_same (w.alloc (.cells a e)) w.heap.size 0 us (by rw [h];exact there_alloc w a e rfl)
 have hb:Below w.heap.size w ((w.alloc (.cells a e)).setCells w.heap.size 0 us):=below_setCells _ (Nat.le_refl _) _ _ _ bal
 rw [d] at b hb
 exact ⟨hb,b,World.block_lt_of_cell? w' ⟨w.heap.size,0,none⟩ (b 0 (us[0]'(by omega)) (by simp))⟩
theorem jw {w w':World} (h:Below w.heap.size w w'):w.grownBy w' none:=⟨h.os,h.tape,h.output,h.size,fun k a _=>h.block k a⟩
theorem dM {P:Program} {w:World} {ops:Array Oper} {rest:List Oper} {o:Oper} {a:Act} {Q:Exit→Act→World→Prop} (y:o.guard=none) (s x:Operand) (t:TypeId)
  (T:o.op= .call { callee:=.builtin .append,args:=#[s,x],argTypes:=#[t,t] })
  (base:Nat) (e:TypeId) (i:TypeInfo) (z:Value) (size bytes:Nat) (L:P.underlying t=some (.slice e)) (hi:P.info? e=some i) (Z:i.zero=some z)
  (l:i.size=size) (U:i.bytes=bytes) (R:z.cells.size=size) (S:0<size)
  (v:Value) (n:Nat) (xs:List Value) (I:a.eval s=v) (f:bQ w base size v n xs)
  (M:Option Addr) (m c:Nat) (d:List Value) (hx:a.eval x= .slice M m c) (G:d.length=m*size) (B:0<m→ ∃H,M=some H∧ ∀j u,d[j]? = some u→w.cell? (H.add j)=some u) (h1:∀u∈d,u.oneCell'=true)
  (N:n+m≤maxLen) (q:(n+m)*bytes≤140737488355328) (A:base≤w.heap.size)
  (h:∀E w',bQ w' base size E (n+m) (xs++d)→w.grownBy w' v.ownBlock→Fr w v E→wpList P ops Q rest (a.put o.dst E) w'):wpList P ops Q (o::rest) a w:=by
 rcases Nat.eq_zero_or_pos m with rfl|hm
 ·obtain rfl:d=[]:=List.eq_nil_of_length_eq_zero (by simpa using G)
  rw [List.append_nil,Nat.add_zero] at h
  rcases f.2 with ⟨rfl,rfl⟩|⟨g,off,cap,rfl,_,_,hn,_⟩
  ·refine wpList_plain y fun K r=> ?_
   have k:=run_append_nil (P:=P) w t o.type e i L hi M c
   unfold Oper.wp
   simp [execOp,T,resolve,invoke,builtin,I,hx,k,Result.andThen]
   exact r _ _ (h _ w f (World.grownBy.refl w _) (Fr.refl _ _))
  refine wpList_plain y fun K r=> ?_
  have k:(Builtin.append_ #[t,t] o.type #[.slice (some ⟨g,off,none⟩) n cap,.slice M 0 c]).run P w= .ok (.slice (some ⟨g,off,none⟩) n cap) w:=by
   cases M<;>simp [Builtin.append_,run_underlying L,sizeOf,typeInfo,hi,Builtin.lenOf,Builtin.firstCells,loadCells,loadCellsFrom,hn,storeCells]
  unfold Oper.wp
  simp [execOp,T,resolve,invoke,builtin,I,hx,k,Result.andThen]
  exact r _ _ (h _ w f (World.grownBy.refl w _) (Fr.refl _ _))
 obtain ⟨H,rfl,Y⟩:=B hm
 rcases f.2 with ⟨rfl,rfl⟩|⟨g,off,cap,rfl,hB,W,hn,X,D,hr⟩
 ·obtain rfl:xs=[]:=List.eq_nil_of_length_eq_zero (by simpa using f.1)
  refine wpList_append_own w y s x t T w.heap.size e i z size bytes L hi Z l U R S _ 0 [] I (World.ownsRow_nil w _ e size) H m c d hx G Y h1 N q (Nat.le_refl _) ?_
  intro E w' C V _
  exact h E w' (bQ.iE (qM C A)) V (.inr fun g W=>(C.lt g W).1)
 by_cases p:n+m≤cap
 ·refine wpList_plain y fun K r=> ?_
  have J:off+n*i.size=off+xs.length:=by rw [f.1,l]
  have aa:xs.length+d.length≤cap*size:=by rw [f.1,G,←Nat.add_mul];exact Nat.mul_le_mul_right _ p
  have O:∀j,j<d.length→(w.cell? ⟨g,off+n*i.size+j,none⟩).isSome=true∧w.frozen? ⟨g,off+n*i.size+j,none⟩=false:=fun j F=>by
   have:=D (xs.length+j) (by omega)
   rw [J,Nat.add_assoc];exact this
  have k:=run_append_room_cells (P:=P) w t o.type e i L hi g off n cap H m c d (by rw [G,l]) Y h1 p (fun j F=>(O j F).1) (fun j F=>(O j F).2)
  rw [J] at k
  unfold Oper.wp
  simp [execOp,T,resolve,invoke,builtin,I,hx,k,Result.andThen]
  refine r _ _ (h _ _ ⟨by rw [List.length_append,f.1,G,Nat.add_mul],.inr ⟨g,off,cap,rfl,hB,?_,p,X,World.there_setCells D g _ d,?_⟩⟩ (bP w g _ d) (.inl rfl))
  ·exact Nat.lt_of_lt_of_le W (bP w g (off+xs.length) d).size
  have C:=World.rangeAt_setCells_apart hr g (off+xs.length) d (.inr (.inl (Nat.le_refl _)))
  have V:=World.rangeAt_setCells_same w g (off+xs.length) d (fun j F=>by
   have:=D (xs.length+j) (by omega)
   rw [Nat.add_assoc];exact this)
  intro j u hu
  by_cases F:j<xs.length
  ·rw [List.getElem?_append_left F] at hu;exact C j u hu
  rw [List.getElem?_append_right (by omega)] at hu
  have:=V (j-xs.length) u hu
  rwa [Nat.add_assoc,Nat.add_sub_cancel' (by omega)] at this
 refine wpList_append_grows w y s x t T e i z size bytes L hi Z l U R S (some ⟨g,off,none⟩) n cap xs I (fun h=>by cases h) f.1 (fun b hb=>by
  cases hb
  intro j u hu
  rw [Addr.add_mid]
  exact hr j u hu) H m c d hx G Y h1 (by omega) N q ?_
 intro E w' C V
 exact h E w' (bQ.iE (qM C A)) (yu V _) (.inr fun g W=>(C.lt g W).1)
end
end Go.Proofs.YtlhcoanbhnphgaaGreatDoor
