/- A part of this claim. -/
import Derived.Test.YtlhcoanbhnphgaaGreatDoorXm16
import Derived.Test.YtlhcoanbhnphgaaGreatDoorXm23
namespace Go.Proofs.YtlhcoanbhnphgaaGreatDoor
open Tryz
set_option maxHeartbeats 64000000
set_option maxRecDepth 100000
section
open Go.RowKit Go.Shelf
structure OnW (B b:Nat) (w w':World):Prop where
 bel:Below B w w'
 off:∀ k o,w.heap[k]? = some o → k ≠ b → (∀ cur,o ≠ .cells cur 5 (0,0)) → w'.heap[k]? = some o
theorem OnW.refl (B b:Nat) (w:World):OnW B b w w:=⟨Below.refl B w,fun _ _ h _ _=>h⟩
theorem OnW.trans {B b:Nat} {u v w:World} (h:OnW B b u v) (k:OnW B b v w):OnW B b u w:=⟨h.bel.trans k.bel,fun j o e d a=>k.off j o (h.off j o e d a) d a⟩
theorem OnW.size {B b:Nat} {v w:World} (h:OnW B b v w):v.heap.size≤w.heap.size:=h.bel.size
theorem OnW.below {B b:Nat} {v w:World} (h:Below v.heap.size v w) (d:B≤v.heap.size):OnW B b v w:=⟨h.mono d,fun j _ a _ _=>(h.block j (Array.getElem?_eq_some_iff.1 a).1).trans a⟩
theorem OnW.alloc {B b:Nat} {v w:World} (h:OnW B b v w) (a:B≤w.heap.size) (o:Obj):OnW B b v (w.alloc o):=h.trans (OnW.below bal a)
theorem OnW.setCell {B b:Nat} {v w:World} (h:OnW B b v w) {p:Addr} (d:B≤p.block) (f:p.block=b) (u:Value):OnW B b v (w.setCell p u) :=
 ⟨h.bel.setCell (p:=p) d u,fun j o i a g=>(Below.heap_setCell w p u j (fun e=>a (e.trans f))).trans (h.off j o i a g)⟩
theorem OnW.row {B b:Nat} {a w i:World} {v:Value} {n:Nat} {xs:List Value} {p:Nat} (h:OnW B b a w) (d:w.ownsRow p 5 1 v n xs) (l:w.grownBy i v.ownBlock) (m:B≤w.heap.size) (r:∀k,v.ownBlock=some k→B≤k):OnW B b a i :=
 ⟨h.bel.grown l m r,fun j o s q g=>by
  have f:=h.off j o s q g
  refine (l.block j (Array.getElem?_eq_some_iff.1 f).1 fun e=> ?_).trans f
  rcases ownsRow_ne_a d f g with h1|h1
  ·rw [h1] at e;cases e
  exact h1 e.symm⟩
theorem Ik (B b:Nat) (a:List Value) (w:World) (h:Lib.IsBuilder 193 5 B b a w) :
  Calls prog 235 #[.pointer (some ⟨b,0,none⟩)] w fun e w'=>e= .returned (.tuple #[])∧(Lib.BuilderAt 193 5 B b (.pointer (some ⟨b,0,none⟩)) a w'∧OnW B b w w'):=by
 rcases h with h|h
 ·refine (uK b w h.cell0 h.shape h.frozen0).mono ?_
  rintro e w' ⟨rfl,rfl⟩
  exact ⟨rfl,h.used _,(OnW.refl B b w).setCell (p:=⟨b,0,none⟩) h.1 rfl _⟩
 refine (yP b w h.cell0).mono ?_
 rintro e w' ⟨rfl,rfl⟩
 exact ⟨rfl,h,OnW.refl B b _⟩
theorem GU (B b:Nat) (L:List UInt8) (c:UInt8) (w:World) (h:Wr B b L w) (n:L.length+1≤140737488355328) (H:B≤w.heap.size) :
  Calls prog 192 #[.pointer (some ⟨b,0,none⟩),.int .u8 (c.toNat:Int)] w fun e w'=>e= .returned .nilIface∧Wr B b (L++[c]) w'∧OnW B b w w':=by
 obtain ⟨G,hi,C,x,A⟩:=info_parts infoByte
 have o:=Lib.byteCells_length L
 have E:Lib.byteCells (L++[c])=Lib.byteCells L++[.int .u8 (c.toNat:Int)]:=by simp [Lib.byteCells]
 unfold Wr at h ⊢
 rw [E]
 rw [←o] at n
 generalize Lib.byteCells L=z at h o n
 clear o
 generalize (c.toNat:Int)=c
 have I:=ah h
 clear h E
 go_enter func192,ntmps192
 go_wp2_with (go_at_call 235;refine (Ik B b z _ I.out).mono ?_)
 rintro e w1 ⟨rfl,h1,m⟩
 obtain ⟨D,v,i,a,t⟩:=h1
 have P:w1.cell? ⟨b,0,none⟩=some (.pointer (some ⟨b,0,none⟩)):=by rw [Lib.cell_of_heap i];rfl
 have c1:w1.cell? ⟨b,1,none⟩=some v:=by rw [Lib.cell_of_heap i];rfl
 go_wp2_with (at_builtin;refine wpList_append_own _ rfl _ _ 96 rfl B 5 G (.int .u8 0) 1 1 underlying96 hi C x A rfl (by decide) _ _ _ rfl (a.alloc _) ⟨w1.heap.size,0,none⟩ 1 1 [.int .u8 c] rfl rfl ?c1 ?c2 ?c3 ?c4 ?c5 ?_)
 case c1 =>
  intro j u r
  match j,r with
  | 0,r=>simp at r;subst r;simp [Addr.add]
 case c2=>intro u hu;simp at hu;subst hu;rfl
 case c3=>unfold maxLen;omega
 case c4=>omega
 case c5=>have:=m.size;simp;omega
 intro J q f d _
 have s:b<w1.heap.size:=by
  rcases Nat.lt_or_ge b w1.heap.size with y|y
  ·exact y
  simp [Array.getElem?_eq_none y] at i
 have l:q.heap[b]? = some (.cells #[.pointer (some ⟨b,0,none⟩),v] 193 (0,0)):=by
  rw [d.block b (by simp;omega) (fun e=>t e.symm),Lib.alloc_old w1 _ b s]
  exact i
 have N:q.cell? ⟨b,0,none⟩=some (.pointer (some ⟨b,0,none⟩)):=by rw [Lib.cell_of_heap l];rfl
 have O:q.cell? ⟨b,1,none⟩=some v:=by rw [Lib.cell_of_heap l];rfl
 have M:q.frozen? ⟨b,1,none⟩=false:=Lib.frozen_of_heap l 1
 obtain ⟨g,cap,rfl⟩:∃g cap,J= .slice (some ⟨g,0,none⟩) (z.length+1) cap:=by
  rcases f.2 with ⟨_,Q⟩|⟨g,cap,cur,K,_⟩
  ·omega
  exact ⟨g,cap,K⟩
 go_wp2
 go_ret
 refine ⟨rfl,.inr ?_,?_⟩
 ·exact Lib.BuilderAt.put (T:=193) (e:=5) D l (bs':=z++[.int .u8 c]) (by simpa using f) (by decide)
 exact ((m.alloc (by have:=m.size;omega) _).row (a.alloc _) d (by have:=m.size;simp;omega) (fun k F=>(a.lt k F).1)).setCell (p:=⟨b,1,none⟩) D rfl _
theorem IG (B b:Nat) (L:List UInt8) (s:ByteArray) (w:World) (h:Wr B b L w) (l:L.length+s.size≤140737488355328) (H:B≤w.heap.size) :
  Calls prog 191 #[.pointer (some ⟨b,0,none⟩),.string s] w fun e w'=>e= .returned (.tuple #[.int .i64 s.size,.nilIface])∧Wr B b (L++s.data.toList) w'∧OnW B b w w':=by
 obtain ⟨G,hi,z,t,x⟩:=info_parts infoByte
 have m:=Lib.byteCells_length L
 have E:Lib.byteCells (L++s.data.toList)=Lib.byteCells L++Lib.strCells s:=by simp [Lib.byteCells,Lib.strCells]
 unfold Wr at h ⊢
 rw [E]
 rw [←m] at l
 generalize Lib.byteCells L=D at h m l
 clear m
 have I:=ah h
 clear h E
 go_enter func191,ntmps191
 go_wp2_with (go_at_call 235;refine (Ik B b D _ I.out).mono ?_)
 rintro e w1 ⟨rfl,h1,n⟩
 obtain ⟨A,v,i,a,r⟩:=h1
 have O:w1.cell? ⟨b,0,none⟩=some (.pointer (some ⟨b,0,none⟩)):=by rw [Lib.cell_of_heap i];rfl
 have c1:w1.cell? ⟨b,1,none⟩=some v:=by rw [Lib.cell_of_heap i];rfl
 go_wp2_with (at_builtin;refine Lib.wpList_append_own_string _ rfl _ _ 96 9 rfl B 5 G underlying96 underlying9 hi z t x _ _ _ rfl a s rfl ?c3 ?c4 ?c5 ?_)
 case c3=>unfold maxLen;omega
 case c4=>omega
 case c5=>have:=n.size;omega
 intro J o f d _
 have q:b<w1.heap.size:=by
  rcases Nat.lt_or_ge b w1.heap.size with u|u
  ·exact u
  simp [Array.getElem?_eq_none u] at i
 have j:o.heap[b]? = some (.cells #[.pointer (some ⟨b,0,none⟩),v] 193 (0,0)):=by
  rw [d.block b q (fun e=>r e.symm)]
  exact i
 have M:o.cell? ⟨b,0,none⟩=some (.pointer (some ⟨b,0,none⟩)):=by rw [Lib.cell_of_heap j];rfl
 have N:o.cell? ⟨b,1,none⟩=some v:=by rw [Lib.cell_of_heap j];rfl
 have K:o.frozen? ⟨b,1,none⟩=false:=Lib.frozen_of_heap j 1
 obtain ⟨C,n',cap,rfl⟩:∃C n' cap,J= .slice C n' cap:=by
  rcases f.2 with ⟨y,_⟩|⟨g,cap,cur,y,_⟩
  ·exact ⟨_,_,_,y⟩
  exact ⟨_,_,_,y⟩
 go_wp2
 go_ret2
 refine ⟨rfl,.inr ?_,?_⟩
 ·exact Lib.BuilderAt.put (T:=193) (e:=5) A j (bs':=D++Lib.strCells s) (by simpa [Lib.strCells_length] using f) (by decide)
 exact (n.row a d (by have:=n.size;omega) (fun k F=>(a.lt k F).1)).setCell (p:=⟨b,1,none⟩) A rfl _
theorem IK (B b:Nat) (L:List UInt8) (g:Nat) (n:Nat) (w:World) (h:Wr B b L w) (hc:w.cell? ⟨g,0,none⟩=some (.int .i64 (n:Int))) (hn:n≤1000000) (O:L.length≤1000000) (U:B≤w.heap.size) :
  Calls prog 122 #[.pointer (some ⟨b,0,none⟩),.slice (some ⟨g,0,none⟩) 1 1] w fun e w'=>e= .returned (.tuple #[])∧Wr B b (L++aQ n) w'∧OnW B b w w':=by
 have V:=ah h
 clear h
 go_enter func122,ntmps122
 go_wp2_with fail
 go_loopw [10] (fun i wr=>(i= .int .i64 0∧w=wr)∨(i= .int .i64 1∧Wr B b (L++aQ n) wr∧OnW B b w wr)) (fun i _=>(1-intOf i).toNat)
 case atStart=>exact .inl ⟨rfl,rfl⟩
 rcases hrel with ⟨rfl,rfl⟩|⟨rfl,D,C⟩
 ·have X:(0:Int)≤n:=by omega
  have m1:min (n:Int) 1099511627775=n:=by omega
  have Z:max (0:Int) n=n:=by omega
  go_wp2_with fail
  go_loopw [5] (fun v wr=> ∃(m:Nat) (K:List UInt8),v= .int .i64 m∧m≤n∧Hid (K++aQ m=L++aQ n)∧Wr B b K wr∧OnW B b w wr) (fun v _=>(intOf v).toNat)
  case atStart=>exact ⟨n,L,rfl,by omega,ah rfl,V.out,OnW.refl _ _ _⟩
  obtain ⟨P,rfl⟩:∃P:World,P=wr:=⟨_,rfl⟩
  obtain ⟨m,K,rfl,hm,y,j,d⟩:=hrel
  have Q:Hid (K.length≤1000010):=by
   have h1:=congrArg List.length y.out
   rw [List.length_append,List.length_append] at h1
   have Y:=nG 3 n (by omega)
   unfold Hid;omega
  have S:=d.size
  by_cases A:128≤m
  ·have T:decide ((128:Int)≤m)=true:=decide_eq_true (by omega)
   have z:=je A
   have t:m%128+128<256:=by omega
   have k:bits .or .u8 ((m:Int)%128) 128=((UInt8.ofNat (m%128+128)).toNat:Int):=by
    rw [show (m:Int)%128=((m%128:Nat):Int) by omega,Pt,UInt8.toNat_ofNat',Nat.mod_eq_of_lt t]
   have R:((m:Int).tmod 128)=(m:Int)%128:=by rw [Int.tmod_eq_emod_of_nonneg (by omega)]
   have N:((m:Int).tdiv 128)=((m/128:Nat):Int):=by rw [Int.tdiv_eq_ediv_of_nonneg (by omega)];omega
   have u:(m:Int)/128=((m/128:Nat):Int):=by omega
   have I:IntKind.u8.wrap ((m:Int)%128)=(m:Int)%128:=by rw [IntKind.wrap_u8];omega
   have M:m/128<m:=by omega
   have E:IntKind.i64.wrap ((m/128:Nat):Int)=((m/128:Nat):Int):=IntWalk.i64_in _ (by omega)
   have a:Hid ((K++[UInt8.ofNat (m%128+128)])++aQ (m/128)=L++aQ n):=by
    unfold Hid;rw [←y.out,z,List.append_assoc];rfl
   generalize UInt8.ofNat (m%128+128)=x at k a
   generalize m/128=q at N u M E a
   have p:=ah (fun W (H:Wr B b K W) (r:B≤W.heap.size)=>GU B b K x W H (by have:=Q.out;omega) r)
   have l:=ah j
   have s:=ah d
   clear j d y z t
   go_wp2_with fail
   refine (p.out _ l.out (by omega)).mono ?_
   rintro e w1 ⟨rfl,h1,f⟩
   have F:=ah h1
   have o:=ah (s.out.trans (f))
   clear h1 f
   go_wp2
   go_roundw
   case rel=>exact ⟨q,K++[x],rfl,by omega,a,F.out,o.out⟩
   case measure=>simp [intOf];omega
  have T:decide ((128:Int)≤m)=false:=decide_eq_false (by omega)
  have z:=ah (fu (n:=m) (by omega))
  have I:IntKind.u8.wrap (m:Int)=(m:Int):=by rw [IntKind.wrap_u8];omega
  have k:((UInt8.ofNat m).toNat:Int)=(m:Int):=by rw [UInt8.toNat_ofNat',Nat.mod_eq_of_lt (by omega)]
  have p:=ah (fun W (H:Wr B b K W) (r:B≤W.heap.size)=>by have:=GU B b K (UInt8.ofNat m) W H (by have:=Q.out;omega) r;rw [k] at this;exact this)
  have a:Hid (K++[UInt8.ofNat m]=L++aQ n):=by unfold Hid;rw [←y.out,z.out]
  have l:=ah j
  have s:=ah d
  clear j d y z k
  go_wp2_with fail
  refine (p.out _ l.out (by omega)).mono ?_
  rintro e w1 ⟨rfl,h1,f⟩
  have F:=ah h1
  have o:=ah (s.out.trans (f))
  clear h1 f
  go_wp2
  rw [a.out] at F
  go_roundw
  case rel=>exact .inr ⟨rfl,F.out,o.out⟩
  case measure=>simp [intOf]
 have J:=ah D
 have G:=ah C
 clear D C
 go_wp2
 go_end0
 exact ⟨rfl,J.out,G.out⟩
theorem Od (B b:Nat) (L:List UInt8) (g:Nat) (s:ByteArray) (w:World) (h:Wr B b L w) (q:w.cell? ⟨g,0,none⟩=some (.string s)) (n:L.length+s.size≤10000000) (m:B≤w.heap.size) :
  Calls prog 121 #[.pointer (some ⟨b,0,none⟩),.slice (some ⟨g,0,none⟩) 1 1] w fun e w'=>e= .returned (.tuple #[])∧Wr B b (L++s.data.toList) w'∧OnW B b w w':=by
 have p:=ah h
 clear h
 go_enter func121,ntmps121
 go_wp2_with fail
 go_loopw [10] (fun i wr=>(i= .int .i64 0∧w=wr)∨(i= .int .i64 1∧Wr B b (L++s.data.toList) wr∧OnW B b w wr)) (fun i _=>(1-intOf i).toNat)
 case atStart=>exact .inl ⟨rfl,rfl⟩
 rcases hrel with ⟨rfl,rfl⟩|⟨rfl,a,f⟩
 ·go_wp2_with fail
  refine (IG B b L s _ p.out (by omega) m).mono ?_
  rintro e w1 ⟨rfl,h1,d⟩
  have o:=ah h1
  have k:=ah d
  clear h1 d
  go_wp2
  go_roundw
  case rel=>exact .inr ⟨by go_num,o.out,k.out⟩
  case measure=>simp [intOf]
 have l:=ah a
 have j:=ah f
 clear a f
 go_wp2
 go_end0
 exact ⟨rfl,l.out,j.out⟩
theorem K7 (B b:Nat) (L:List UInt8) (g:Nat) (s:ByteArray) (w:World) (h:Wr B b L w) (F:w.cell? ⟨g,0,none⟩=some (.string s)) (D:s.size≤1000000) (d:L.length≤1000000) (t:B≤w.heap.size) :
  Calls prog 123 #[.pointer (some ⟨b,0,none⟩),.slice (some ⟨g,0,none⟩) 1 1] w fun e w'=>e= .returned (.tuple #[])∧Wr B b (L++(aQ s.size++s.data.toList)) w'∧OnW B b w w':=by
 have u:=ah h
 clear h
 have C:=u.out.lt
 have z:=u.out.ge
 have x:=gG (n:=s.size) (by omega)
 go_enter func123,ntmps123
 go_wp2_with fail
 go_loopw [8] (fun i wr=>(i= .int .i64 0∧w=wr)∨(i= .int .i64 1∧Wr B b (L++(aQ s.size++s.data.toList)) wr∧OnW B b w wr)) (fun i _=>(1-intOf i).toNat)
 case atStart=>exact .inl ⟨rfl,rfl⟩
 rcases hrel with ⟨rfl,rfl⟩|⟨rfl,l,f⟩
 ·go_wp2_with fail
  have p:∀(W:World) (o:Obj),Below W.heap.size W (W.alloc o):=fun W o=>bal
  refine (IK B b L w.heap.size s.size _ (u.out.below (p _ _)) (by rw [World.cell?_alloc_new];rfl) (by omega) d (by simp;omega)).mono ?_
  rintro e w1 ⟨rfl,h1,m⟩
  have y:=ah h1
  have j:=ah (((OnW.refl B b w).alloc t _).trans m)
  have v:=j.out.size
  clear h1 m
  go_wp2_with fail
  refine (Od B b (L++aQ s.size) w1.heap.size s _ (y.out.below (p _ _)) (by rw [World.cell?_alloc_new];rfl) (by rw [List.length_append];omega) (by simp;omega)).mono ?_
  rintro e E ⟨rfl,q,k⟩
  rw [List.append_assoc] at q
  have A:=ah q
  have a:=ah ((j.out.alloc (by omega) _).trans k)
  clear q k
  go_wp2
  go_roundw
  case rel=>exact .inr ⟨by go_num,A.out,a.out⟩
  case measure=>simp [intOf]
 have r:=ah l
 have a:=ah f
 clear l f
 go_wp2
 go_end0
 exact ⟨rfl,r.out,a.out⟩
end
end Go.Proofs.YtlhcoanbhnphgaaGreatDoor
