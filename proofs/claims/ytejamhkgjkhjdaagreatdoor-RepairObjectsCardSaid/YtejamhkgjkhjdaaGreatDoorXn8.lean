/- A part of this claim. -/
import Derived.Test.YtejamhkgjkhjdaaGreatDoorXn5
import Derived.Test.YtejamhkgjkhjdaaGreatDoorXn7
namespace Go.Proofs.YtejamhkgjkhjdaaGreatDoor
set_option maxHeartbeats 64000000
set_option maxRecDepth 100000
section
open Go.RowKit
def gY (w:World) (B sz:Nat) (v:Value) (n:Nat) (xs:List Value):Prop :=
 xs.length=n*sz∧((v= .slice none 0 0∧n=0)∨ ∃g off a,v= .slice (some ⟨g,off,none⟩) n a∧B≤g∧g<w.heap.size∧n≤a∧a≤maxLen∧w.there g off (a*sz)∧w.rangeAt g off xs)
theorem Jg (w:World) (B sz:Nat):gY w B sz (.slice none 0 0) 0 []:=⟨by simp,.inl ⟨rfl,rfl⟩⟩
theorem gY.gq {w:World} {B sz n:Nat} {e:TypeId} {v:Value} {xs:List Value} (h:w.ownsRow B e sz v n xs):gY w B sz v n xs:=by
 refine ⟨h.1,?_⟩
 rcases h.2 with o|⟨g,l,cur,rfl,hb,a,b,d,m,f⟩
 ·exact .inl o
 have i:=(Array.getElem?_eq_some_iff.1 a).1
 refine .inr ⟨g,0,l,rfl,hb,i,b,d,fun j q=> ?_,fun j u hu=> ?_⟩
 ·rw [Nat.zero_add]
  have k:j<cur.size:=by omega
  constructor
  ·simp [World.cell?,a,k]
  simp [World.frozen?,a]
 rw [Nat.zero_add]
 have p:j<xs.length:=(List.getElem?_eq_some_iff.1 hu).1
 rw [←f] at hu
 rw [List.getElem?_take] at hu
 split at hu
 ·simp [World.cell?,a]
  simpa using hu
 cases hu
theorem gY.below {w w':World} {B sz n:Nat} {v:Value} {xs:List Value} (h:gY w B sz v n xs) (hb:Below w.heap.size w w'):gY w' B sz v n xs:=by
 refine ⟨h.1,?_⟩
 rcases h.2 with i|⟨g,off,f,j,k,e,a,b,d,l⟩
 ·exact .inl i
 exact .inr ⟨g,off,f,j,k,Nat.lt_of_lt_of_le e hb.size,a,b,qo d hb e,ay l hb e⟩
theorem bF (w:World) (g o:Nat) (a:List Value):w.grownBy (w.setCells g o a) (some g):=dO a o w (World.grownBy.refl w _)
theorem there_alloc (w:World) (a:Array Value) (e:TypeId) {n:Nat} (h:a.size=n):(w.alloc (.cells a e)).there w.heap.size 0 n:=by
 have:=(Arr.ofList w a.toList e).there
 simpa [h] using this
structure Wrote (w w':World) (us:List Value):Prop where
 bel:Below w.heap.size w w'
 row:w'.rangeAt w.heap.size 0 us
 lt:w.heap.size < w'.heap.size
theorem wrote {w w':World} {a:Array Value} {e:TypeId} {us:List Value} (h:us.length=a.size) (f:0<a.size) (d:(w.alloc (.cells a e)).setCells w.heap.size 0 us=w'):Wrote w w' us:=by
 have b:=World.rangeAt_setCells_same (w.alloc (.cells a e)) w.heap.size 0 us (by rw [h];exact there_alloc w a e rfl)
 have hb:Below w.heap.size w ((w.alloc (.cells a e)).setCells w.heap.size 0 us):=below_setCells _ (Nat.le_refl _) _ _ _ bal
 rw [d] at b hb
 exact ⟨hb,b,World.block_lt_of_cell? w' ⟨w.heap.size,0,none⟩ (b 0 (us[0]'(by omega)) (by simp))⟩
theorem mF {w w':World} (h:Below w.heap.size w w'):w.grownBy w' none:=⟨h.os,h.tape,h.output,h.size,fun k a _=>h.block k a⟩
theorem qY {P:Program} {w:World} {ops:Array Oper} {rest:List Oper} {o:Oper} {a:Act} {Q:Exit→Act→World→Prop} (y:o.guard=none) (s x:Operand) (t:TypeId)
  (M:o.op= .call { callee:=.builtin .append,args:=#[s,x],argTypes:=#[t,t] })
  (base:Nat) (e:TypeId) (i:TypeInfo) (z:Value) (size bytes:Nat) (S:P.underlying t=some (.slice e)) (hi:P.info? e=some i) (hz:i.zero=some z)
  (l:i.size=size) (U:i.bytes=bytes) (O:z.cells.size=size) (L:0<size)
  (v:Value) (n:Nat) (xs:List Value) (N:a.eval s=v) (f:gY w base size v n xs)
  (V:Option Addr) (m c:Nat) (d:List Value) (hx:a.eval x= .slice V m c) (I:d.length=m*size) (D:0<m→ ∃H,V=some H∧ ∀j u,d[j]? = some u→w.cell? (H.add j)=some u) (h1:∀u∈d,u.oneCell'=true)
  (X:n+m≤maxLen) (r:(n+m)*bytes≤140737488355328) (A:base≤w.heap.size)
  (h:∀G w',gY w' base size G (n+m) (xs++d)→w.grownBy w' v.ownBlock→Fr w v G→wpList P ops Q rest (a.put o.dst G) w'):wpList P ops Q (o::rest) a w:=by
 rcases Nat.eq_zero_or_pos m with rfl|hm
 ·obtain rfl:d=[]:=List.eq_nil_of_length_eq_zero (by simpa using I)
  rw [List.append_nil,Nat.add_zero] at h
  rcases f.2 with ⟨rfl,rfl⟩|⟨g,off,p,rfl,_,_,hn,_⟩
  ·refine wpList_plain y fun K B=> ?_
   have k:=run_append_nil (P:=P) w t o.type e i S hi V c
   unfold Oper.wp
   simp [execOp,M,resolve,invoke,builtin,N,hx,k,Result.andThen]
   exact B _ _ (h _ w f (World.grownBy.refl w _) (Fr.refl _ _))
  refine wpList_plain y fun K B=> ?_
  have k:(Builtin.append_ #[t,t] o.type #[.slice (some ⟨g,off,none⟩) n p,.slice V 0 c]).run P w= .ok (.slice (some ⟨g,off,none⟩) n p) w:=by
   cases V<;>simp [Builtin.append_,run_underlying S,sizeOf,typeInfo,hi,Builtin.lenOf,Builtin.firstCells,loadCells,loadCellsFrom,hn,storeCells]
  unfold Oper.wp
  simp [execOp,M,resolve,invoke,builtin,N,hx,k,Result.andThen]
  exact B _ _ (h _ w f (World.grownBy.refl w _) (Fr.refl _ _))
 obtain ⟨H,rfl,Z⟩:=D hm
 rcases f.2 with ⟨rfl,rfl⟩|⟨g,off,p,rfl,hB,T,hn,Y,F,hr⟩
 ·obtain rfl:xs=[]:=List.eq_nil_of_length_eq_zero (by simpa using f.1)
  refine wpList_append_own w y s x t M w.heap.size e i z size bytes S hi hz l U O L _ 0 [] N (World.ownsRow_nil w _ e size) H m c d hx I Z h1 X r (Nat.le_refl _) ?_
  intro G w' E W _
  exact h G w' (gY.gq (oD E A)) W (.inr fun g T=>(E.lt g T).1)
 by_cases q:n+m≤p
 ·refine wpList_plain y fun K B=> ?_
  have R:off+n*i.size=off+xs.length:=by rw [f.1,l]
  have aa:xs.length+d.length≤p*size:=by rw [f.1,I,←Nat.add_mul];exact Nat.mul_le_mul_right _ q
  have J:∀j,j<d.length→(w.cell? ⟨g,off+n*i.size+j,none⟩).isSome=true∧w.frozen? ⟨g,off+n*i.size+j,none⟩=false:=fun j C=>by
   have:=F (xs.length+j) (by omega)
   rw [R,Nat.add_assoc];exact this
  have k:=run_append_room_cells (P:=P) w t o.type e i S hi g off n p H m c d (by rw [I,l]) Z h1 q (fun j C=>(J j C).1) (fun j C=>(J j C).2)
  rw [R] at k
  unfold Oper.wp
  simp [execOp,M,resolve,invoke,builtin,N,hx,k,Result.andThen]
  refine B _ _ (h _ _ ⟨by rw [List.length_append,f.1,I,Nat.add_mul],.inr ⟨g,off,p,rfl,hB,?_,q,Y,World.there_setCells F g _ d,?_⟩⟩ (bF w g _ d) (.inl rfl))
  ·exact Nat.lt_of_lt_of_le T (bF w g (off+xs.length) d).size
  have E:=World.rangeAt_setCells_apart hr g (off+xs.length) d (.inr (.inl (Nat.le_refl _)))
  have W:=World.rangeAt_setCells_same w g (off+xs.length) d (fun j C=>by
   have:=F (xs.length+j) (by omega)
   rw [Nat.add_assoc];exact this)
  intro j u hu
  by_cases C:j<xs.length
  ·rw [List.getElem?_append_left C] at hu;exact E j u hu
  rw [List.getElem?_append_right (by omega)] at hu
  have:=W (j-xs.length) u hu
  rwa [Nat.add_assoc,Nat.add_sub_cancel' (by omega)] at this
 refine wpList_append_grows w y s x t M e i z size bytes S hi hz l U O L (some ⟨g,off,none⟩) n p xs N (fun h=>by cases h) f.1 (fun b hb=>by
  cases hb
  intro j u hu
  rw [Addr.add_mid]
  exact hr j u hu) H m c d hx I Z h1 (by omega) X r ?_
 intro G w' E W
 exact h G w' (gY.gq (oD E A)) (uw W _) (.inr fun g T=>(E.lt g T).1)
end
end Go.Proofs.YtejamhkgjkhjdaaGreatDoor
