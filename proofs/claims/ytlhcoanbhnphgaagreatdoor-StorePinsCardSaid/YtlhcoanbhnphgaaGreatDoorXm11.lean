/- A part of this claim. -/
import Derived.Lib.AppendStr
import Derived.Lib.Builder
import Derived.Lib.LazyBuf
import Derived.Lib.Slices
import Derived.Lib.Strings
import Derived.Lib.UnsafeStr
import Derived.Lib.Walk
import Derived.Shelf.Strings.BuilderX
import Derived.Test.YtlhcoanbhnphgaaGreatDoorXm10
namespace Go.Proofs.YtlhcoanbhnphgaaGreatDoor
open Tryz
set_option maxHeartbeats 64000000
set_option maxRecDepth 100000
section
open Go.RowKit
theorem infoByte:(prog.info? 5).map (fun i=>(i.zero,i.size,i.bytes))=some (some (.int .u8 0),1,1):=by kernel_rfl
theorem sizeBuilder:(prog.info? 191).map (·.size)=some 2:=by kernel_rfl
theorem liesBuilder:liesAt prog prog.depth 193 (2/prog.cellsOf 193) 0 191 1=true:=by kernel_rfl
def Wr (B b:Nat) (L:List UInt8) (w:World):Prop:=Lib.IsBuilder 193 5 B b (Lib.byteCells L) w
theorem yP (b:Nat) (w:World) (d:w.cell? ⟨b,0,none⟩=some (.pointer (some ⟨b,0,none⟩))) :
  Calls prog 235 #[.pointer (some ⟨b,0,none⟩)] w fun e w'=>e= .returned (.tuple #[])∧w'=w:=by
 obtain ⟨j,a,_⟩:=Option.map_eq_some_iff.1 sizeBuilder
 go_enter func235,ntmps235
 go_wp2
 rw [Lib.run_neq_ptr_same w _ underlying189 a]
 go_wp2
 go_end0
 exact ⟨rfl,rfl⟩
theorem uK (b:Nat) (w:World) (h:w.cell? ⟨b,0,none⟩=some (.pointer none)) (a:w.shape? b=some (193,2)) (g:w.frozen? ⟨b,0,none⟩=false) :
  Calls prog 235 #[.pointer (some ⟨b,0,none⟩)] w fun e w'=>e= .returned (.tuple #[])∧w'=w.setCell ⟨b,0,none⟩ (.pointer (some ⟨b,0,none⟩)):=by
 obtain ⟨j,f,d⟩:=Option.map_eq_some_iff.1 sizeBuilder
 go_enter func235,ntmps235
 go_wp2
 rw [Lib.run_to_unsafe w ⟨b,0,none⟩ underlying189 underlying336 f (by rw [d];decide) a (Nat.zero_lt_succ 1)]
 simp only [Result.andThen]
 rw [Oper.upon_value]
 go_wp2
 rw [run_callFunc_extern func263 (by kernel_rfl) (by kernel_rfl) (by kernel_rfl) (e:=Extern.AbiNoEscape.same) (by kernel_rfl)]
 rw [Lib.run_noEscape]
 simp only [Result.andThen]
 rw [Oper.upon_value]
 go_wp2
 rw [Lib.run_from_unsafe w ⟨b,0,none⟩ underlying336 underlying189 f a liesBuilder]
 simp only [Result.andThen]
 rw [Oper.upon_value]
 go_wp2
 go_end0
 exact ⟨rfl,rfl⟩
theorem AZ (B b:Nat) (a:List Value) (w:World) (h:Lib.IsBuilder 193 5 B b a w) :
  Calls prog 235 #[.pointer (some ⟨b,0,none⟩)] w fun e w'=>e= .returned (.tuple #[])∧(Lib.BuilderAt 193 5 B b (.pointer (some ⟨b,0,none⟩)) a w'∧Below B w w'):=by
 rcases h with h|h
 ·refine (uK b w h.cell0 h.shape h.frozen0).mono ?_
  rintro e w' ⟨rfl,rfl⟩
  exact ⟨rfl,h.used _,(Below.refl B w).setCell (p:=⟨b,0,none⟩) h.1 _⟩
 refine (yP b w h.cell0).mono ?_
 rintro e w' ⟨rfl,rfl⟩
 exact ⟨rfl,h,Below.refl B _⟩
theorem zQ (B b:Nat) (L:List UInt8) (c:UInt8) (w:World) (h:Wr B b L w) (m:L.length+1≤140737488355328) (H:B≤w.heap.size) :
  Calls prog 192 #[.pointer (some ⟨b,0,none⟩),.int .u8 (c.toNat:Int)] w fun e w'=>e= .returned .nilIface∧Wr B b (L++[c]) w'∧Below B w w':=by
 obtain ⟨G,hi,C,x,A⟩:=info_parts infoByte
 have o:=Lib.byteCells_length L
 have E:Lib.byteCells (L++[c])=Lib.byteCells L++[.int .u8 (c.toNat:Int)]:=by simp [Lib.byteCells]
 unfold Wr at h ⊢
 rw [E]
 rw [←o] at m
 generalize Lib.byteCells L=z at h o m
 clear o
 generalize (c.toNat:Int)=c
 have I:=ah h
 clear h E
 go_enter func192,ntmps192
 go_wp2_with (go_at_call 235;refine (AZ B b z _ I.out).mono ?_)
 rintro e w1 ⟨rfl,h1,l⟩
 obtain ⟨D,v,f,n,t⟩:=h1
 have P:w1.cell? ⟨b,0,none⟩=some (.pointer (some ⟨b,0,none⟩)):=by rw [Lib.cell_of_heap f];rfl
 have c1:w1.cell? ⟨b,1,none⟩=some v:=by rw [Lib.cell_of_heap f];rfl
 go_wp2_with (at_builtin;refine wpList_append_own _ rfl _ _ 96 rfl B 5 G (.int .u8 0) 1 1 underlying96 hi C x A rfl (by decide) _ _ _ rfl (n.alloc _) ⟨w1.heap.size,0,none⟩ 1 1 [.int .u8 c] rfl rfl ?c1 ?c2 ?c3 ?c4 ?c5 ?_)
 case c1 =>
  intro j u r
  match j,r with
  | 0,r=>simp at r;subst r;simp [Addr.add]
 case c2=>intro u hu;simp at hu;subst hu;rfl
 case c3=>unfold maxLen;omega
 case c4=>omega
 case c5=>have:=l.size;simp;omega
 intro J q d a _
 have s:b<w1.heap.size:=by
  rcases Nat.lt_or_ge b w1.heap.size with y|y
  ·exact y
  simp [Array.getElem?_eq_none y] at f
 have i:q.heap[b]? = some (.cells #[.pointer (some ⟨b,0,none⟩),v] 193 (0,0)):=by
  rw [a.block b (by simp;omega) (fun e=>t e.symm),Lib.alloc_old w1 _ b s]
  exact f
 have N:q.cell? ⟨b,0,none⟩=some (.pointer (some ⟨b,0,none⟩)):=by rw [Lib.cell_of_heap i];rfl
 have O:q.cell? ⟨b,1,none⟩=some v:=by rw [Lib.cell_of_heap i];rfl
 have M:q.frozen? ⟨b,1,none⟩=false:=Lib.frozen_of_heap i 1
 obtain ⟨g,cap,rfl⟩:∃g cap,J= .slice (some ⟨g,0,none⟩) (z.length+1) cap:=by
  rcases d.2 with ⟨_,Q⟩|⟨g,cap,cur,K,_⟩
  ·omega
  exact ⟨g,cap,K⟩
 go_wp2
 go_ret
 refine ⟨rfl,.inr ?_,?_⟩
 ·exact Lib.BuilderAt.put (T:=193) (e:=5) D i (bs':=z++[.int .u8 c]) (by simpa using d) (by decide)
 exact ((l.alloc (by have:=l.size;omega) _).grown a (by have:=l.size;simp;omega) (fun k F=>(n.lt k F).1)).setCell (p:=⟨b,1,none⟩) D _
theorem CG (B b:Nat) (L:List UInt8) (s:ByteArray) (w:World) (h:Wr B b L w) (j:L.length+s.size≤140737488355328) (H:B≤w.heap.size) :
  Calls prog 191 #[.pointer (some ⟨b,0,none⟩),.string s] w fun e w'=>e= .returned (.tuple #[.int .i64 s.size,.nilIface])∧Wr B b (L++s.data.toList) w'∧Below B w w':=by
 obtain ⟨G,hi,z,t,x⟩:=info_parts infoByte
 have m:=Lib.byteCells_length L
 have E:Lib.byteCells (L++s.data.toList)=Lib.byteCells L++Lib.strCells s:=by simp [Lib.byteCells,Lib.strCells]
 unfold Wr at h ⊢
 rw [E]
 rw [←m] at j
 generalize Lib.byteCells L=D at h m j
 clear m
 have I:=ah h
 clear h E
 go_enter func191,ntmps191
 go_wp2_with (go_at_call 235;refine (AZ B b D _ I.out).mono ?_)
 rintro e w1 ⟨rfl,h1,n⟩
 obtain ⟨A,v,f,l,r⟩:=h1
 have O:w1.cell? ⟨b,0,none⟩=some (.pointer (some ⟨b,0,none⟩)):=by rw [Lib.cell_of_heap f];rfl
 have c1:w1.cell? ⟨b,1,none⟩=some v:=by rw [Lib.cell_of_heap f];rfl
 go_wp2_with (at_builtin;refine Lib.wpList_append_own_string _ rfl _ _ 96 9 rfl B 5 G underlying96 underlying9 hi z t x _ _ _ rfl l s rfl ?c3 ?c4 ?c5 ?_)
 case c3=>unfold maxLen;omega
 case c4=>omega
 case c5=>have:=n.size;omega
 intro J o d a _
 have q:b<w1.heap.size:=by
  rcases Nat.lt_or_ge b w1.heap.size with u|u
  ·exact u
  simp [Array.getElem?_eq_none u] at f
 have i:o.heap[b]? = some (.cells #[.pointer (some ⟨b,0,none⟩),v] 193 (0,0)):=by
  rw [a.block b q (fun e=>r e.symm)]
  exact f
 have M:o.cell? ⟨b,0,none⟩=some (.pointer (some ⟨b,0,none⟩)):=by rw [Lib.cell_of_heap i];rfl
 have N:o.cell? ⟨b,1,none⟩=some v:=by rw [Lib.cell_of_heap i];rfl
 have K:o.frozen? ⟨b,1,none⟩=false:=Lib.frozen_of_heap i 1
 obtain ⟨C,n',cap,rfl⟩:∃C n' cap,J= .slice C n' cap:=by
  rcases d.2 with ⟨y,_⟩|⟨g,cap,cur,y,_⟩
  ·exact ⟨_,_,_,y⟩
  exact ⟨_,_,_,y⟩
 go_wp2
 go_ret2
 refine ⟨rfl,.inr ?_,?_⟩
 ·exact Lib.BuilderAt.put (T:=193) (e:=5) A i (bs':=D++Lib.strCells s) (by simpa [Lib.strCells_length] using d) (by decide)
 exact (n.grown a (by have:=n.size;omega) (fun k F=>(l.lt k F).1)).setCell (p:=⟨b,1,none⟩) A _
theorem EH (B b:Nat) (l:List UInt8) (w:World) (h:Wr B b l w) (o:l≠[]) :
  Calls prog 215 #[.pointer (some ⟨b,0,none⟩)] w fun e w'=>e= .returned (.string (ofB l))∧Below B w w':=by
 obtain ⟨p,D,v,n,a,s⟩:∃p,Lib.BuilderAt 193 5 B b p (Lib.byteCells l) w:=by
  rcases h with h|h
  ·exact ⟨_,h⟩
  exact ⟨_,h⟩
 have k:l.length≠0:=by simpa using o
 rw [Lib.byteCells_length] at a
 obtain ⟨g,cap,cur,rfl,f,z,C,d,A,i⟩:∃g cap cur,v= .slice (some ⟨g,0,none⟩) l.length cap∧B≤g∧w.heap[g]? = some (.cells cur 5 (0,0))∧l.length≤cap∧cap≤maxLen∧cur.size=cap*1∧cur.toList.take (l.length*1)=Lib.byteCells l:=by
  rcases a.2 with ⟨_,q⟩|⟨g,cap,cur,y,r⟩
  ·exact absurd q k
  exact ⟨g,cap,cur,y,r⟩
 have c1:w.drew.cell? ⟨b,1,none⟩=some (.slice (some ⟨g,0,none⟩) l.length cap):=by
  have:w.drew.heap[b]? = some (.cells #[p,.slice (some ⟨g,0,none⟩) l.length cap] 193 (0,0)):=n
  rw [Lib.cell_of_heap this];rfl
 have t:(Builtin.unsafeSliceData_ #[96] 321 #[.slice (some ⟨g,0,none⟩) l.length cap]).run prog w.drew= .ok (.pointer (some ⟨g,0,none⟩)) w.drew :=
  Lib.run_unsafeSliceData_row _ _ _ _ _ _ (by omega)
 have u:(Builtin.unsafeString_ #[321,3] 9 #[.pointer (some ⟨g,0,none⟩),.int .i64 l.length]).run prog w.drew= .ok (.string ⟨l.toArray⟩) (w.drew.freeze ⟨g,0,none⟩ l.length):=by
  refine Lib.run_unsafeString_row w.drew 321 3 9 5 underlying321 (by kernel_rfl) g cur.size (by have m:w.drew.heap[g]? = some (.cells cur 5 (0,0)):=z;simp [World.shape?,m]) l o (by omega) (by unfold maxLen at d;omega) ?_
  intro j x hx
  have:=a.cells (g:=g) rfl j (.int .u8 x.toNat) (by simp [Lib.byteCells,hx])
  exact this
 go_enter func215,ntmps215
 go_wp2
 go_region
 all_goals (go_wp2;go_ret;exact ⟨rfl,Lib.below_freeze (Below.drew (Below.refl B w)) (p:=⟨g,0,none⟩) f _⟩)
theorem Pt (n:Nat):bits .or .u8 ((n%128:Nat):Int) 128=((n%128+128:Nat):Int):=by
 have h:=(bits_nat .u8 8 (by decide) (fun x d h1=>by rw [IntKind.wrap_u8];omega) (n%128) 128 (by omega) (by omega)).2
 rw [show (128:Int)=((128:Nat):Int) from rfl,h]
 congr 1
 have a:=Nat.two_pow_add_eq_or_of_lt (i:=7) (b:=n%128) (by omega) 1
 rw [Nat.or_comm]
 rw [show (2:Nat)^7*1=128 from by decide] at a
 rw [←a,Nat.add_comm]
theorem tO (B b:Nat) (L:List UInt8) (g:Nat) (n:Nat) (w:World) (h:Wr B b L w) (hc:w.cell? ⟨g,0,none⟩=some (.int .i64 (n:Int))) (hn:n≤1000000) (O:L.length≤1000000) (U:B≤w.heap.size) :
  Calls prog 122 #[.pointer (some ⟨b,0,none⟩),.slice (some ⟨g,0,none⟩) 1 1] w fun e w'=>e= .returned (.tuple #[])∧Wr B b (L++aQ n) w'∧Below B w w':=by
 have V:=ah h
 clear h
 go_enter func122,ntmps122
 go_wp2_with fail
 go_loopw [10] (fun i wr=>(i= .int .i64 0∧w=wr)∨(i= .int .i64 1∧Wr B b (L++aQ n) wr∧Below B w wr)) (fun i _=>(1-intOf i).toNat)
 case atStart=>exact .inl ⟨rfl,rfl⟩
 rcases hrel with ⟨rfl,rfl⟩|⟨rfl,D,C⟩
 ·have X:(0:Int)≤n:=by omega
  have m1:min (n:Int) 1099511627775=n:=by omega
  have Z:max (0:Int) n=n:=by omega
  go_wp2_with fail
  go_loopw [5] (fun v wr=> ∃(m:Nat) (K:List UInt8),v= .int .i64 m∧m≤n∧Hid (K++aQ m=L++aQ n)∧Wr B b K wr∧Below B w wr) (fun v _=>(intOf v).toNat)
  case atStart=>exact ⟨n,L,rfl,by omega,ah rfl,V.out,Below.refl _ _⟩
  obtain ⟨P,rfl⟩:∃P:World,P=wr:=⟨_,rfl⟩
  obtain ⟨m,K,rfl,hm,y,j,d⟩:=hrel
  have Q:Hid (K.length≤1000010):=by
   have h1:=congrArg List.length y.out
   rw [List.length_append,List.length_append] at h1
   have Y:=nG 3 n (by omega)
   unfold Hid;omega
  have S:=d.size
  by_cases A:128≤m
  ·have T:decide ((128:Int)≤m)=true:=decide_eq_true (by omega)
   have z:=je A
   have t:m%128+128<256:=by omega
   have k:bits .or .u8 ((m:Int)%128) 128=((UInt8.ofNat (m%128+128)).toNat:Int):=by
    rw [show (m:Int)%128=((m%128:Nat):Int) by omega,Pt,UInt8.toNat_ofNat',Nat.mod_eq_of_lt t]
   have R:((m:Int).tmod 128)=(m:Int)%128:=by rw [Int.tmod_eq_emod_of_nonneg (by omega)]
   have N:((m:Int).tdiv 128)=((m/128:Nat):Int):=by rw [Int.tdiv_eq_ediv_of_nonneg (by omega)];omega
   have u:(m:Int)/128=((m/128:Nat):Int):=by omega
   have I:IntKind.u8.wrap ((m:Int)%128)=(m:Int)%128:=by rw [IntKind.wrap_u8];omega
   have M:m/128<m:=by omega
   have E:IntKind.i64.wrap ((m/128:Nat):Int)=((m/128:Nat):Int):=IntWalk.i64_in _ (by omega)
   have a:Hid ((K++[UInt8.ofNat (m%128+128)])++aQ (m/128)=L++aQ n):=by
    unfold Hid;rw [←y.out,z,List.append_assoc];rfl
   generalize UInt8.ofNat (m%128+128)=x at k a
   generalize m/128=q at N u M E a
   have p:=ah (fun W (H:Wr B b K W) (r:B≤W.heap.size)=>zQ B b K x W H (by have:=Q.out;omega) r)
   have l:=ah j
   have s:=ah d
   clear j d y z t
   go_wp2_with fail
   refine (p.out _ l.out (by omega)).mono ?_
   rintro e w1 ⟨rfl,h1,f⟩
   have F:=ah h1
   have o:=ah (s.out.trans (f.mono (Nat.le_refl _)))
   clear h1 f
   go_wp2
   go_roundw
   case rel=>exact ⟨q,K++[x],rfl,by omega,a,F.out,o.out⟩
   case measure=>simp [intOf];omega
  have T:decide ((128:Int)≤m)=false:=decide_eq_false (by omega)
  have z:=ah (fu (n:=m) (by omega))
  have I:IntKind.u8.wrap (m:Int)=(m:Int):=by rw [IntKind.wrap_u8];omega
  have k:((UInt8.ofNat m).toNat:Int)=(m:Int):=by rw [UInt8.toNat_ofNat',Nat.mod_eq_of_lt (by omega)]
  have p:=ah (fun W (H:Wr B b K W) (r:B≤W.heap.size)=>by have:=zQ B b K (UInt8.ofNat m) W H (by have:=Q.out;omega) r;rw [k] at this;exact this)
  have a:Hid (K++[UInt8.ofNat m]=L++aQ n):=by unfold Hid;rw [←y.out,z.out]
  have l:=ah j
  have s:=ah d
  clear j d y z k
  go_wp2_with fail
  refine (p.out _ l.out (by omega)).mono ?_
  rintro e w1 ⟨rfl,h1,f⟩
  have F:=ah h1
  have o:=ah (s.out.trans (f.mono (Nat.le_refl _)))
  clear h1 f
  go_wp2
  rw [a.out] at F
  go_roundw
  case rel=>exact .inr ⟨rfl,F.out,o.out⟩
  case measure=>simp [intOf]
 have J:=ah D
 have G:=ah C
 clear D C
 go_wp2
 go_end0
 exact ⟨rfl,J.out,G.out⟩
theorem Wr.lt {B b:Nat} {L:List UInt8} {w:World} (h:Wr B b L w):b<w.heap.size:=by
 rcases h with h|h
 ·exact h.lt
 exact h.lt
theorem Wr.ge {B b:Nat} {L:List UInt8} {w:World} (h:Wr B b L w):B≤b:=by
 rcases h with h|h
 ·exact h.1
 exact h.1
theorem Wr.below {B b:Nat} {L:List UInt8} {w w':World} (h:Wr B b L w) (hb:Below w.heap.size w w'):Wr B b L w':=by
 have key:∀p,Lib.BuilderAt 193 5 B b p (Lib.byteCells L) w→Lib.BuilderAt 193 5 B b p (Lib.byteCells L) w':=by
  intro p g
  have d:=g.lt
  obtain ⟨i,v,f,a,e⟩:=g
  exact ⟨i,v,by rw [hb.block b d];exact f,own_below a hb,e⟩
 rcases h with h|h
 ·exact .inl (key _ h)
 exact .inr (key _ h)
theorem kS (B b:Nat) (L:List UInt8) (g:Nat) (s:ByteArray) (w:World) (h:Wr B b L w) (q:w.cell? ⟨g,0,none⟩=some (.string s)) (n:L.length+s.size≤10000000) (m:B≤w.heap.size) :
  Calls prog 121 #[.pointer (some ⟨b,0,none⟩),.slice (some ⟨g,0,none⟩) 1 1] w fun e w'=>e= .returned (.tuple #[])∧Wr B b (L++s.data.toList) w'∧Below B w w':=by
 have p:=ah h
 clear h
 go_enter func121,ntmps121
 go_wp2_with fail
 go_loopw [10] (fun i wr=>(i= .int .i64 0∧w=wr)∨(i= .int .i64 1∧Wr B b (L++s.data.toList) wr∧Below B w wr)) (fun i _=>(1-intOf i).toNat)
 case atStart=>exact .inl ⟨rfl,rfl⟩
 rcases hrel with ⟨rfl,rfl⟩|⟨rfl,a,f⟩
 ·go_wp2_with fail
  refine (CG B b L s _ p.out (by omega) m).mono ?_
  rintro e w1 ⟨rfl,h1,d⟩
  have o:=ah h1
  have k:=ah d
  clear h1 d
  go_wp2
  go_roundw
  case rel=>exact .inr ⟨by go_num,o.out,k.out⟩
  case measure=>simp [intOf]
 have l:=ah a
 have j:=ah f
 clear a f
 go_wp2
 go_end0
 exact ⟨rfl,l.out,j.out⟩
theorem o8 (B b:Nat) (L:List UInt8) (g:Nat) (s:ByteArray) (w:World) (h:Wr B b L w) (F:w.cell? ⟨g,0,none⟩=some (.string s)) (D:s.size≤1000000) (d:L.length≤1000000) (t:B≤w.heap.size) :
  Calls prog 123 #[.pointer (some ⟨b,0,none⟩),.slice (some ⟨g,0,none⟩) 1 1] w fun e w'=>e= .returned (.tuple #[])∧Wr B b (L++(aQ s.size++s.data.toList)) w'∧Below B w w':=by
 have u:=ah h
 clear h
 have C:=u.out.lt
 have z:=u.out.ge
 have x:=gG (n:=s.size) (by omega)
 go_enter func123,ntmps123
 go_wp2_with fail
 go_loopw [8] (fun i wr=>(i= .int .i64 0∧w=wr)∨(i= .int .i64 1∧Wr B b (L++(aQ s.size++s.data.toList)) wr∧Below B w wr)) (fun i _=>(1-intOf i).toNat)
 case atStart=>exact .inl ⟨rfl,rfl⟩
 rcases hrel with ⟨rfl,rfl⟩|⟨rfl,l,f⟩
 ·go_wp2_with fail
  have p:∀(W:World) (o:Obj),Below W.heap.size W (W.alloc o):=fun W o=>bal
  refine (tO B b L w.heap.size s.size _ (u.out.below (p _ _)) (by rw [World.cell?_alloc_new];rfl) (by omega) d (by simp;omega)).mono ?_
  rintro e w1 ⟨rfl,h1,m⟩
  have y:=ah h1
  have j:=ah (((Below.refl B w).alloc t _).trans m)
  have v:=j.out.size
  clear h1 m
  go_wp2_with fail
  refine (kS B b (L++aQ s.size) w1.heap.size s _ (y.out.below (p _ _)) (by rw [World.cell?_alloc_new];rfl) (by rw [List.length_append];omega) (by simp;omega)).mono ?_
  rintro e E ⟨rfl,q,k⟩
  rw [List.append_assoc] at q
  have A:=ah q
  have a:=ah ((j.out.alloc (by omega) _).trans k)
  clear q k
  go_wp2
  go_roundw
  case rel=>exact .inr ⟨by go_num,A.out,a.out⟩
  case measure=>simp [intOf]
 have r:=ah l
 have a:=ah f
 clear l f
 go_wp2
 go_end0
 exact ⟨rfl,r.out,a.out⟩
theorem zM (B b:Nat) (l:List UInt8) (w:World) (h:Wr B b l w) (a:l≠[]) :
  Calls prog 165 #[.pointer (some ⟨b,0,none⟩)] w fun e w'=>e= .returned (.string (ofB l))∧Below B w w':=by
 have HS:=ah (EH B b l w h a)
 clear h
 go_enter func165,ntmps165
 go_wp2_with fail
 refine HS.out.mono ?_
 rintro e w1 ⟨rfl,hb⟩
 go_wp2
 go_ret
 exact ⟨rfl,hb⟩
section
variable {get:List UInt8 → Option Ob} {rec:List UInt8 → ByteArray → Lfs → Nat → Ru} {ahead:ByteArray} {e:Ent} {es:List Ent} {l:Lfs} {n:Nat}
end
theorem Gl {W a:World} {r:Option Nat} (h:W.drew.grownBy a r):W.grownBy a r:=⟨h.os,h.tape,h.output,h.size,h.block⟩
theorem rX {P:Program} (w:World) {ops:Array Oper} {rest:List Oper} {o:Oper} {a:Act} {Q:Exit→Act→World→Prop} (u:o.guard=none) (d x:Operand) (k n:TypeId)
  (l:o.op=Op.call { callee:=Callee.builtin Builtin.copy,args:=#[d,x],argTypes:=#[k,n] }) (e:TypeId) (hu:P.underlying k=some (.slice e)) (r:∀w,(Go.sizeOf e).run P w= .ok 1 w)
  (b off f g:Nat) (hd:a.eval d= .slice (some ⟨b,off,none⟩) f g) (t:ByteArray) (hx:a.eval x= .string t) (m:t.size≤f)
  (p:∀j,j<t.size→(w.cell? ⟨b,off+j,none⟩).isSome=true) (q:∀j,j<t.size→w.frozen? ⟨b,off+j,none⟩=false)
  (s:wpList P ops Q rest (a.put o.dst (goInt t.size)) (w.setCells b off (t.data.toList.map fun x=>Value.int .u8 (x.toNat:Int)))):wpList P ops Q (o::rest) a w:=by
 refine wpList_plain u fun K i=> ?_
 have h:=Go.run_copy_string (P:=P) w k n o.type e b off f g t hu r m p q
 unfold Oper.wp
 simp [execOp,l,resolve,invoke,builtin,hd,hx,h,Result.andThen]
 exact i _ _ s
theorem vD (b:Nat) (r:Rd) (w:World) (hA:Arr w b 3 r.c) (V:r.fine) :
  Calls prog 197 #[.pointer (some ⟨b,0,none⟩)] w fun e w'=>e= .returned (idV r.id.2)∧Arr w' b 3 r.id.1.c∧w.grownBy w' (some b):=by
 have aa:b<w.heap.size:=hA.lt (by omega)
 have U:=ah (fun W (hA:Arr W b 3 r.c)=>vU b r 32 W hA V (by omega))
 have E:=Rd.nA r 32
 have C:Hid (idV r.id.2= .agg ((mP (r.raw 32).2).map fun b=>Value.int .u8 (b.toNat:Int)).toArray):=ah rfl
 have R:Hid (r.id.1=(r.raw 32).1):=ah rfl
 have HA:=ah hA
 have HO:=ah (Arr.new w 32 (.int .u8 0) 42)
 generalize r.raw 32=x at U E C R
 obtain ⟨r1,s⟩:=x
 dsimp only at U E C R
 clear hA V
 go_enter func197,ntmps197
 go_wp2_with fail
 have A:(prog.info? 42).map (·.size)=some 32:=by kernel_rfl
 have Z:True:=trivial
 have I:=ah ((HA.out.alloc (by omega) (.cells (Array.replicate 32 (.int .u8 0)) 42)).alloc (by omega) (.cells (Array.replicate 32 (.int .u8 0)) 42))
 have J:=Arr.new (w.alloc (.cells (Array.replicate 32 (.int .u8 0)) 42)) 32 (.int .u8 0) 42
 rw [World.size_alloc] at J
 have HX:=ah J
 have D:=ah (HO.out.alloc (by omega) (.cells (Array.replicate 32 (.int .u8 0)) 42))
 have G:=ah ((((Below.refl w.heap.size w).alloc (Nat.le_refl _) (.cells (Array.replicate 32 (.int .u8 0)) 42))).alloc (by simp) (.cells (Array.replicate 32 (.int .u8 0)) 42))
 clear J
 refine wrL 3 (fun _=>True) ?_
 refine WL.tk 0 Z ?_
 refine WL.tk 1 Z ?_
 refine WL.on 2 ?_
 go_wp2_with fail
 refine (U.out _ I.out.drew).mono ?_
 rintro e w1 ⟨rfl,q,y⟩
 have K:=ah q
 have g:=Gl y
 have n:=ah (HX.out.grown g (by omega))
 have H:=ah (D.out.grown g (by omega))
 have L:=ah (Cx G.out g)
 clear q y g
 go_wp2
 refine ⟨trivial,?_⟩
 refine WL.la 3 ?_
 refine rX _ rfl (.tmp 4) (.tmp 6) 96 9 rfl 5 underlying96 (fun w=>by kernel_rfl) (w.heap.size+1) 0 32 32 rfl s rfl E (fun j hj=>by rw [Nat.zero_add,n.out.cell j (by omega)];rfl) (fun j hj=>by rw [Nat.zero_add];exact n.out.free j (by omega)) ?_
 have t:(s.data.toList.map fun x=>Value.int .u8 (x.toNat:Int)).length=s.size:=by rw [List.length_map];simp
 have p:=(n.out.setCells 0 (s.data.toList.map fun x=>Value.int .u8 (x.toNat:Int)) (by omega)).congr (d:=idB s s.size) (fun k hk=>by
  unfold idB
  rw [t,Nat.zero_add,Nat.sub_zero]
  by_cases h:k<s.size
  ·rw [if_pos ⟨by omega,h⟩,if_pos h]
   unfold blk
   have Y:k<s.data.toList.length:=by simpa using h
   rw [List.getD_eq_getElem?_getD,List.getElem?_map,List.getElem?_eq_getElem Y,List.getD_eq_getElem?_getD,List.getElem?_eq_getElem Y];rfl
  rw [if_neg (fun h'=>h h'.2),if_neg h])
 have M:Below w1.heap.size w1 w1:=Below.refl _ _
 have l:=ah (H.out.iL (show w.heap.size+1≠w.heap.size by omega) (s.data.toList.map fun x=>Value.int .u8 (x.toNat:Int)) 0)
 have v:=ah (K.out.iL (show w.heap.size+1≠b by omega) (s.data.toList.map fun x=>Value.int .u8 (x.toNat:Int)) 0)
 have z:Hid (w.grownBy (w1.setCells (w.heap.size+1) 0 (s.data.toList.map fun x=>Value.int .u8 (x.toNat:Int))) (some b)):=ah (nK (Below.refl _ _) L.out (below_setCells (B:=w.heap.size) (a:=w1) (w.heap.size+1) (by omega) _ 0 w1 (Below.refl _ _)))
 clear M
 generalize w1.setCells (w.heap.size+1) 0 (s.data.toList.map fun x=>Value.int .u8 (x.toNat:Int))=P at p l v z
 have O:=p.range
 have X:(List.range 32).map (idB s s.size)=(mP s).map fun b=>Value.int .u8 (b.toNat:Int):=by
  unfold mP;rw [List.map_map]
  exact List.map_congr_left fun k _=>Ia s k
 rw [X] at O
 have f:((mP s).map fun b=>Value.int .u8 (b.toNat:Int)).length=32:=by rw [List.length_map];exact fE s
 have i:=Cg (mP s)
 generalize (mP s).map (fun b=>Value.int .u8 (b.toNat:Int))=us at O f i C
 have m:(prog.info? 42).map (·.size)=some us.length:=by rw [f];exact A
 have o:=l.out.there
 have F:=ah (World.rangeAt_setCells_same P w.heap.size 0 us (by rw [f];exact o))
 have N:=ah o
 have S:=ah f
 have T:=ah i
 have u:=ah (nK (Below.refl _ _) z.out (below_setCells (B:=w.heap.size) (a:=P) w.heap.size (Nat.le_refl _) us 0 P (Below.refl _ _)))
 have Q:=ah (v.out.iL (show w.heap.size≠b by omega) us 0)
 clear p X o f i t
 go_wp2_with (first|(refine wpList_load_mid rfl 42 _ rfl (w.heap.size+1) 0 rfl us _ O underlying42 rfl m ?_)|(refine aj rfl 42 _ _ rfl w.heap.size 0 us rfl rfl 32 S.out N.out A T.out ?_))
 refine bK rfl w.heap.size 0 rfl us _ F.out underlying42 rfl m rfl ⟨by rw [C.out],by rw [R.out];exact Q.out,u.out⟩
theorem IZ (s:ByteArray) {k:Nat} (h:k<s.size):s.data.toList.take (k+1)=s.data.toList.take k++[s[k]]:=by
 rw [List.take_succ_eq_append_getElem (by simpa using h)];rfl
theorem KM (n:W32):wn n%256=((jC n 0).toNat:Int)∧wn n/256%256=((jC n 1).toNat:Int)∧wn n/65536%256=((jC n 2).toNat:Int)∧wn n/16777216=((jC n 3).toNat:Int):=by
 have h:=n.isLt
 unfold wn jC
 simp only [UInt8.toNat_ofNat']
 refine ⟨?_,?_,?_,?_⟩<;>omega
theorem KH (W:World) (a b c d:UInt8) (e:TypeId) :
  (convert 96 9 (.slice (some ⟨W.heap.size,0,none⟩) 4 4)).run prog (W.alloc (.cells #[.int .u8 (a.toNat:Int),.int .u8 (b.toNat:Int),.int .u8 (c.toNat:Int),.int .u8 (d.toNat:Int)] e))= .ok (.string (ofB [a,b,c,d])) (W.alloc (.cells #[.int .u8 (a.toNat:Int),.int .u8 (b.toNat:Int),.int .u8 (c.toNat:Int),.int .u8 (d.toNat:Int)] e)) :=
 run_convert_bytes_back (P:=prog) _ 96 9 5 ⟨W.heap.size,0,none⟩ 4 [a,b,c,d] underlying96 underlying5 underlying9 fun j g=>by
  have f:j<4:=by simpa using g
  rw [Addr.add_mid,Nat.zero_add,World.cell?_alloc_new]
  rcases (show j=0∨j=1∨j=2∨j=3 by omega) with rfl|rfl|rfl|rfl<;>rfl
theorem LU (s:ByteArray):s++ofB (GZ s.data.toList)=ofB (fK s.data.toList):=by unfold fK;rw [dX,sV]
def unS (s:ByteArray):ByteArray:=ofB ((gK s.data.toList).getD [])
def oD (s:ByteArray):Bool:=(gK s.data.toList).isSome
theorem Bj {s:ByteArray} (h:s.size<4):unS s=⟨#[]⟩∧oD s=false:=by
 have:gK s.data.toList=none:=by unfold gK;rw [if_neg (by simp;intro a;exact absurd a (by have:s.data.size=s.size:=rfl;omega))]
 unfold unS oD
 rw [this]
 exact ⟨rfl,rfl⟩
theorem CU {s:ByteArray} (h:4≤s.size):gK s.data.toList=if fK (s.data.toList.take (s.size-4))=s.data.toList then some (s.data.toList.take (s.size-4)) else none:=by
 have b:s.data.toList.length=s.size:=by simp
 unfold gK
 rw [b]
 by_cases a:fK (s.data.toList.take (s.size-4))=s.data.toList
 ·rw [if_pos ⟨h,a⟩,if_pos a]
 rw [if_neg (fun x=>a x.2),if_neg a]
theorem Cm (s:ByteArray) (n:Nat):(s.extract 0 n).data.toList=s.data.toList.take n:=by
 rw [ByteArray.data_extract];simp
theorem xQ (l:List UInt8) (s:ByteArray):ofB l=s↔l=s.data.toList:=⟨fun h=>by rw [←h,bq],fun h=>by rw [h,sV]⟩
structure Crc (w:World):Prop where
 row:w.rangeAt 4 0 (iJ.map fun x => Value.int .u32 (wn x))
 lt:4 < w.heap.size
theorem Crc.below {w w':World} (h:Crc w) (hb:Below w.heap.size w w'):Crc w':=⟨ay h.row hb h.lt,Nat.lt_of_lt_of_le h.lt hb.size⟩
theorem Crc.cell {w:World} (h:Crc w) {j:Nat} (b:j<16):w.cell? ⟨4,j,none⟩=some (.int .u32 (wn (iJ.getD j 0#32))):=by
 have h1:=h.row j (.int .u32 (wn (iJ.getD j 0#32))) (by
  have a:j<iJ.length:=b
  rw [List.getElem?_map,List.getElem?_eq_getElem a,List.getD_eq_getElem?_getD,List.getElem?_eq_getElem a];rfl)
 rw [Nat.zero_add] at h1
 exact h1
def DN:Nat→W32→W32
 | 0,n=>n
 | k+1,n=>JG (DN k n)
theorem Gs (n:W32) (b:UInt8):Eh n b=DN 2 (n ^^^ bw b):=by unfold Eh DN DN DN;rw [Ms,Ms]
theorem Nj (n:W32) (b:UInt8) (w:World) (hc:Crc w):Calls prog 280 #[.int .u32 (wn n),.int .u8 (b.toNat:Int)] w fun e w' => e = .returned (.int .u32 (wn (Eh n b))) ∧ w' = w:=by
 have hb:((b.toNat:Nat):Int) < 256:=by have:=b.toNat_lt;omega
 have wb:IntKind.u32.wrap ((b.toNat:Nat):Int) = ((b.toNat:Nat):Int):=by rw [IntKind.wrap_u32];omega
 have hx:bits .xor .u32 (wn n) ((b.toNat:Nat):Int) = wn (n ^^^ bw b):=by rw [oI,tQ]
 have HF:=ah (Gs n b)
 have HC:=ah (fun j (hj:j < 16) => hc.cell hj)
 clear hc
 generalize n ^^^ bw b = m at hx HF
 go_enter func280,ntmps280
 go_wp2_with fail
 go_loopw [0,9] (fun v i wr => ∃ k:Nat,v = .int .u32 (wn (DN k m)) ∧ i = .int .i64 (k:Int) ∧ k ≤ 2 ∧ wr = w) (fun _ i _ => (2 - intOf i).toNat)
 case atStart => exact ⟨0,rfl,rfl,by omega,rfl⟩
 obtain ⟨k,rfl,rfl,hk,rfl⟩:=hrel
 by_cases hlt:k < 2
 ·have d1:decide ((k:Int) < 2) = true:=decide_eq_true (by omega)
  obtain ⟨q,hq⟩:∃ q,DN k m = q:=⟨_,rfl⟩
  have HN:Hid (DN (k + 1) m = JG q):=ah (by rw [← hq];rfl)
  rw [hq]
  clear hq
  obtain ⟨j,hj⟩:∃ j,(q &&& 15#32).toNat = j:=⟨_,rfl⟩
  have hj16:j < 16:=by rw [← hj,PE];omega
  have ha:bits .and .u32 (wn q) 15 = (j:Int):=by rw [← hj];exact Le q 15#32
  have hs:wn q / (16:Int) = wn (q >>> 4):=AV q 4
  have hy:bits .xor .u32 (wn (q >>> 4)) (wn (iJ.getD j 0#32)) = wn (JG q):=by rw [tQ,← hj];rfl
  have hcell:=HC.out j hj16
  have hj16z:(j:Int) < 16:=by omega
  generalize iJ.getD j 0#32 = z at hcell hy
  generalize q >>> 4 = q4 at hs hy
  generalize JG q = q5 at hy HN
  have h0:=sD q
  have h1:=vZ q
  clear hj
  go_wp2_with fail
  exact ⟨⟨k + 1,by rw [HN.out],by go_num,by omega,by first | rfl | trivial⟩,by simp [intOf];omega⟩
 obtain rfl:k = 2:=by omega
 go_wp2_with fail
 go_ret
 exact ⟨by rw [HF.out];rfl,by first | rfl | trivial⟩
theorem Pm (m:W32) (s:ByteArray) (w:World) (hc:Crc w) (hs:s.size ≤ 1000000000):Calls prog 245 #[.int .u32 (wn m),.string s] w fun e w' => e = .returned (.int .u32 (wn (~~~ wN (~~~ m) s.data.toList))) ∧ w' = w:=by
 have HS:=ah (fun m b => Nj m b w hc)
 have hn:=Bh m
 clear hc
 go_enter func245,ntmps245
 go_wp2_with fail
 go_loopw [5,6,11] (fun v _ i wr => ∃ k:Nat,v = .int .u32 (wn (wN (~~~ m) (s.data.toList.take k))) ∧ i = .int .i64 (k:Int) ∧ k ≤ s.size ∧ wr = w) (fun _ _ i _ => (s.size - intOf i).toNat)
 case atStart => exact ⟨0,rfl,rfl,by omega,rfl⟩
 obtain ⟨k,rfl,rfl,hk,rfl⟩:=hrel
 by_cases hlt:k < s.size
 ·have d1:decide ((k:Int) < s.size) = true:=decide_eq_true (by omega)
  have HN:=ah (I5 (~~~ m) (s.data.toList.take k) s[k])
  have HT:=ah (IZ s hlt)
  have HC:=ah (HS.out (wN (~~~ m) (s.data.toList.take k)) s[k])
  rw [← HT.out] at HN
  generalize wN (~~~ m) (s.data.toList.take k) = q at HN HC ⊢
  go_wp2_with fail
  refine HC.out.mono ?_
  rintro e w2 ⟨rfl,rfl⟩
  rw [← HN.out]
  go_wp2_with fail
  go_roundw
  case rel => exact ⟨k + 1,rfl,by go_num,by omega,by first | rfl | trivial⟩
  case measure => simp [intOf];omega
 obtain rfl:k = s.size:=by omega
 have HTK:Hid (wN (~~~ m) s.data.toList = wN (~~~ m) (s.data.toList.take s.size)):=ah (by rw [List.take_of_length_le (l:=s.data.toList) (by simp)])
 generalize wN (~~~ m) (s.data.toList.take s.size) = q at HTK ⊢
 have hq:=Bh q
 go_wp2_with fail
 go_ret
 exact ⟨by rw [HTK.out];rfl,by first | rfl | trivial⟩
theorem C9 (b:Nat) (s:ByteArray) (w:World) (a:Crc w) (hb:w.cell? ⟨b,0,none⟩=some (.string s)) (d:s.size≤1000000000):Calls prog 218 #[.slice (some ⟨b,0,none⟩) 1 1] w fun e w'=>e= .returned (.int .u32 (wn (mR s.data.toList)))∧w'=w:=by
 have HS:Hid (Calls prog 245 #[.int .u32 0,.string s] w fun e w'=>e= .returned (.int .u32 (wn (mR s.data.toList)))∧w'=w):=ah (Pm 0#32 s w a d)
 clear a
 go_enter func218,ntmps218
 go_wp2_with fail
 refine wp_loop_rounds 2 ?_
 rw [rounds_succ]
 go_wp2_with fail
 refine HS.out.mono ?_
 rintro e f ⟨rfl,rfl⟩
 go_wp2_with fail
 rw [rounds_succ]
 go_wp2_with fail
 go_ret
 exact ⟨rfl,by first|rfl|trivial⟩
theorem wS (s:ByteArray) (w:World) (q:Crc w) (t:s.size≤1000000000):Calls prog 168 #[.string s] w fun e w'=>e= .returned (.string (ofB (fK s.data.toList)))∧Below w.heap.size w w':=by
 obtain ⟨W,k⟩:∃W,w.alloc (.cells #[.string s] 9)=W:=⟨_,rfl⟩
 have d:Below w.heap.size w W:=by rw [←k];exact bal
 have a:W.cell? ⟨w.heap.size,0,none⟩=some (.string s):=by rw [←k,World.cell?_alloc_new];rfl
 have HS:=ah (C9 w.heap.size s W (q.below d) a t)
 have B:=ah k
 have j:=ah d
 clear k d a q
 obtain ⟨r,h1,n,p⟩:=KM (mR s.data.toList)
 have A:=sD (mR s.data.toList)
 have g1:=vZ (mR s.data.toList)
 have l:=ah (LU s)
 unfold GZ at l
 have m:(ofB [jC (mR s.data.toList) 0,jC (mR s.data.toList) 1,jC (mR s.data.toList) 2,jC (mR s.data.toList) 3]).size=4:=by rw [aR];rfl
 obtain ⟨x,hx⟩:∃x,wn (mR s.data.toList)=x:=⟨_,rfl⟩
 obtain ⟨u,f⟩:∃b,jC (mR s.data.toList) 0=b:=⟨_,rfl⟩
 obtain ⟨y,i⟩:∃b,jC (mR s.data.toList) 1=b:=⟨_,rfl⟩
 obtain ⟨v,g⟩:∃b,jC (mR s.data.toList) 2=b:=⟨_,rfl⟩
 obtain ⟨o,h⟩:∃b,jC (mR s.data.toList) 3=b:=⟨_,rfl⟩
 rw [f,i,g,h] at l m
 rw [hx] at r h1 n p A g1 HS
 rw [f] at r
 rw [i] at h1
 rw [g] at n
 rw [h] at p
 have D:x/16777216%256=(o.toNat:Int):=by omega
 have z:=KH W u y v o 296
 clear hx f i g h
 go_enter func168,ntmps168
 go_wp2_with fail
 rw [B.out]
 refine HS.out.mono ?_
 rintro e C ⟨rfl,rfl⟩
 go_wp2_with fail
 refine wp_loop_rounds 5 ?_
 rw [rounds_succ]
 go_wp2_with fail
 rw [rounds_succ]
 go_wp2_with fail
 rw [rounds_succ]
 go_wp2_with fail
 rw [rounds_succ]
 go_wp2_with fail
 rw [rounds_succ]
 go_wp2_with fail
 go_ret
 exact ⟨jl l.out,j.out.trans (bal.mono j.out.size)⟩
theorem wE (s:ByteArray) (w:World) (k:Crc w) (v:s.size≤1000000000):Calls prog 134 #[.string s] w fun e w'=>e= .returned (.tuple #[.string (unS s),.bool (oD s)])∧Below w.heap.size w w':=by
 have n:=ah k
 clear k
 by_cases u:s.size<4
 ·obtain ⟨d,f⟩:=Bj u
  rw [d,f]
  have o:decide ((s.size:Int)<4)=true:=decide_eq_true (by omega)
  clear d f
  go_enter func134,ntmps134
  go_wp2
  go_ret2
  exact ⟨rfl,Below.refl _ _⟩
 have o:decide ((s.size:Int)<4)=false:=decide_eq_false (by omega)
 have w1:IntKind.i64.wrap ((s.size:Int)-4)=((s.size-4:Nat):Int):=by rw [IntKind.wrap_i64];omega
 have a:=CU (s:=s) (by omega)
 have q:s.size-4≤s.size:=by omega
 obtain ⟨t,r⟩:∃t,s.extract 0 (s.size-4)=t:=⟨_,rfl⟩
 have b:t.data.toList=s.data.toList.take (s.size-4):=by rw [←r,Cm]
 have l:t.size≤1000000000:=by
  have:t.size=t.data.toList.length:=by simp
  rw [this,b,List.length_take]
  have:s.data.toList.length=s.size:=by simp
  omega
 have j:=ah (wS t w n.out l)
 rw [←b] at a
 have x:=ah b
 clear b l
 by_cases i:fK t.data.toList=s.data.toList
 ·have m:((ofB (fK t.data.toList)).toList==s.toList)=true:=by rw [yX];exact decide_eq_true ((xQ _ _).2 i)
  rw [if_pos i] at a
  have d:unS s=t:=by unfold unS;rw [a];exact sV t
  have f:oD s=true:=by unfold oD;rw [a];rfl
  rw [d,f]
  clear i a d f
  go_enter func134,ntmps134
  go_wp2_with fail
  refine j.out.mono ?_
  rintro e p ⟨rfl,g⟩
  go_wp2_with fail
  go_ret2
  exact ⟨rfl,g⟩
 have m:((ofB (fK t.data.toList)).toList==s.toList)=false:=by rw [yX];exact decide_eq_false fun h=>i ((xQ _ _).1 h)
 rw [if_neg i] at a
 have d:unS s=⟨#[]⟩:=by unfold unS;rw [a];rfl
 have f:oD s=false:=by unfold oD;rw [a];rfl
 rw [d,f]
 clear i a d f
 go_enter func134,ntmps134
 go_wp2_with fail
 refine j.out.mono ?_
 rintro e p ⟨rfl,g⟩
 go_wp2_with fail
 go_ret2
 exact ⟨rfl,g⟩
end
section
theorem nO (s:ByteArray):s.data.toList.length=s.size:=Array.length_toList
theorem MO (r:Rd):r.left.length=r.s.size-r.pos:=by unfold Rd.left;rw [List.length_drop];rfl
theorem J4 (r:Rd) (n:Nat) {x rest:List UInt8} (a:r.left=x++rest) (hx:x.length=n):({ r with pos:=r.pos+n }:Rd).left=rest:=by
 show r.s.data.toList.drop (r.pos+n)=rest
 rw [←List.drop_drop]
 show r.left.drop n=rest
 rw [a,←hx,List.drop_left]
theorem Rd.Ma (r:Rd) (x rest:List UInt8) (e:r.err=0) (d:r.left=x++rest):∃b,r.raw x.length=({ r with pos:=r.pos+x.length },b)∧b.data.toList=x:=by
 have a:=MO r
 rw [d,List.length_append] at a
 refine ⟨r.s.extract r.pos (r.pos+x.length),?_,?_⟩
 ·unfold Rd.raw
  rw [if_neg (by simp [e]),if_neg (by omega)]
 rw [ByteArray.data_extract,Array.toList_extract,List.extract_eq_take_drop,Nat.add_sub_cancel_left]
 show r.left.take x.length=x
 rw [d,List.take_left]
end
section
open Go.RowKit
def lK (n:Nat):UInt8:=if n<10 then UInt8.ofNat (48+n) else UInt8.ofNat (87+n)
def bY (x:List UInt8):List UInt8:=x.flatMap fun b=>[lK (b.toNat/16),lK (b.toNat%16)]
def lJ (b:UInt8):Option Nat:=if 48≤b.toNat∧b.toNat≤57 then some (b.toNat-48) else if 97≤b.toNat∧b.toNat≤102 then some (b.toNat-87) else none
def vC (s:List UInt8) (i:Nat):Nat:=(lJ (s.getD i 0)).getD 0
def iX (s:List UInt8):Option (List UInt8):=if s.length=64∧s.all (fun b=>(lJ b).isSome)=true then some ((List.range 32).map fun i=>UInt8.ofNat (16*vC s (2*i)+vC s (2*i+1))) else none
def oO (b:UInt8):Nat:=if b=98 then 1 else if b=116 then 2 else if b=99 then 3 else 0
def dW (s:List UInt8):Option Ob:=match s with
 | []=>none
 | c::l=>if oO c=0 then none else
   if ((Rd.mk (ofB l) 0 0).text 4096).1.fin≠0 then none else
    if aB ⟨(oO c:Int),((Rd.mk (ofB l) 0 0).text 4096).2⟩=true then some ⟨(oO c:Int),((Rd.mk (ofB l) 0 0).text 4096).2⟩ else none
structure Fl where
 dir:ByteArray
 name:ByteArray
 data:ByteArray
def iA:ByteArray:=⟨#[108,111,111,115,101]⟩
def mF:ByteArray:=⟨#[112,97,99,107]⟩
def wW:ByteArray:=⟨#[114,101,102]⟩
def cu (s:ByteArray):Option Nat:=if s=iA then some 0 else if s=mF then some 1 else if s=wW then some 2 else none
def q9 (b:UInt8):Bool:=decide (33≤b.toNat∧b.toNat≤126∧b.toNat≠47)
def aU (s:ByteArray):Bool:=s.data.toList.all q9&&decide (1≤s.size)&&decide (s.size≤80)
def qH (x:ByteArray):List ByteArray→List ByteArray
 | []=>[x]
 | y::l=>if y=x then y::l else if ltB x.data.toList y.data.toList=true then x::y::l else y::qH x l
def rV (l:List ByteArray):Prop:=l.Pairwise fun x y=>ltB x.data.toList y.data.toList=true
theorem kH {a b:ByteArray} (h:a.data.toList=b.data.toList):a=b:=by
 cases a;cases b
 congr 1
 exact Array.toList_inj.1 h
theorem xI (x y:ByteArray):∀l:List ByteArray,y∈qH x l↔y=x∨y∈l
 | []=>by simp [qH]
 | z::l=>by
  unfold qH
  split
  ·rename_i h;subst h;simp
  split
  ·simp
  rw [List.mem_cons,xI x y l,List.mem_cons]
  exact ⟨fun h=>h.elim (.inr ∘ .inl) (fun h=>h.elim .inl (.inr ∘ .inr)),fun h=>h.elim (.inr ∘ .inl) (fun h=>h.elim .inl (.inr ∘ .inr))⟩
theorem Dx (x:ByteArray):∀l:List ByteArray,rV l→rV (qH x l)
 | [],_=>by simp [qH,rV]
 | z::l,h=>by
  unfold rV at h
  rw [List.pairwise_cons] at h
  unfold qH
  split
  ·unfold rV;rw [List.pairwise_cons];exact h
  rename_i b
  split
  ·rename_i a
   unfold rV
   rw [List.pairwise_cons,List.pairwise_cons]
   exact ⟨fun y hy=>(List.mem_cons.1 hy).elim (fun e=>e▸a) (fun hy=>fH a (h.1 y hy)),h⟩
  rename_i a
  unfold rV
  rw [List.pairwise_cons]
  refine ⟨fun y hy=> ?_,Dx x l h.2⟩
  rcases (xI x y l).1 hy with rfl|hy
  ·cases d:ltB z.data.toList y.data.toList with
   | true=>rfl
   | false=>exact absurd (kH (gq d (by simpa using a))) b
  exact h.1 y hy
theorem Qi (r:Rd) (a:Nat):(r.num a).2≤a:=by
 unfold Rd.num
 split
 ·exact Nat.zero_le _
 cases h:bI r.left a 6 0 0 with
 | inl e=>exact Nat.zero_le _
 | inr x=>exact ((iF _ _ 6 0 0).2 x h).2.1
theorem jH (r:Rd) (a:Nat) (h:r.err≠0):(r.num a).1=r:=by unfold Rd.num;rw [if_pos h]
def nk:List UInt8:=[83,76,79,49]
def JZ (b:ByteArray):Option Ob:=match gK b.data.toList with
 | none=>none
 | some s=>if s.take 4=nk then dW (s.drop 4) else none
def mK (nm b:ByteArray):Option Ob:=match JZ b with
 | none=>none
 | some o=>if ofB (bY (idO o))=nm then some o else none
abbrev Dk:=Nat→ByteArray→Option ByteArray
def gy (d:Dk) (x:List UInt8):Sum Nat Ob:=match d 0 (ofB (bY x)) with
 | none=> .inl 6
 | some b=>match mK (ofB (bY x)) b with
  | none=> .inl 17
  | some o=> .inr o
theorem OZ:∀i:Fin 16,lJ (lK i.val)=some i.val:=by decide +kernel
theorem rG {n:Nat} (h:n<16):lJ (lK n)=some n:=OZ ⟨n,h⟩
theorem qX:∀x:List UInt8,(bY x).length=2*x.length
 | []=>rfl
 | b::x=>by
  have:=qX x
  unfold bY at this ⊢
  rw [List.flatMap_cons,List.length_append,this]
  show 2+2*x.length=2*(x.length+1)
  omega
theorem oh (b:UInt8) (x:List UInt8):bY (b::x)=lK (b.toNat/16)::lK (b.toNat%16)::bY x:=rfl
theorem Eb:∀x:List UInt8,(bY x).all (fun b=>(lJ b).isSome)=true
 | []=>rfl
 | b::x=>by
  have:=b.toNat_lt
  rw [oh,List.all_cons,List.all_cons,rG (by omega),rG (by omega),Eb x];rfl
theorem yj:∀(x:List UInt8) (k:Nat),k<x.length→vC (bY x) (2*k)=(x.getD k 0).toNat/16∧vC (bY x) (2*k+1)=(x.getD k 0).toNat%16
 | [],k,h=>by cases h
 | b::x,0,_=>by
  have:=b.toNat_lt
  rw [oh]
  unfold vC
  exact ⟨by show (lJ (lK _)).getD 0=_;rw [rG (by omega)];rfl,by show (lJ (lK _)).getD 0=_;rw [rG (by omega)];rfl⟩
 | b::x,k+1,h=>by
  have a:=yj x k (by simpa using h)
  rw [oh]
  unfold vC at a ⊢
  rw [show 2*(k+1)=2*k+1+1 from by omega,List.getD_cons_succ,List.getD_cons_succ,List.getD_cons_succ,List.getD_cons_succ,List.getD_cons_succ]
  exact a
theorem zS {x:List UInt8} (h:x.length=32):iX (bY x)=some x:=by
 unfold iX
 rw [if_pos ⟨by rw [qX,h],Eb x⟩]
 congr 1
 refine List.ext_getElem (by simp [h]) fun k h1 a=> ?_
 rw [List.getElem_map,List.getElem_range,(yj x k a).1,(yj x k a).2,List.getD_eq_getElem?_getD,List.getElem?_eq_getElem a]
 show UInt8.ofNat (16*(x[k].toNat/16)+x[k].toNat%16)=x[k]
 rw [Nat.div_add_mod]
 exact UInt8.ofNat_toNat
theorem M8 {x:List UInt8} (h:x.length=32):aU (ofB (bY x))=true:=by
 have hd:∀i:Fin 16,q9 (lK i.val)=true:=by decide +kernel
 have a:∀x:List UInt8,(bY x).all q9=true:=by
  intro x
  induction x with
  | nil=>rfl
  | cons b x ih =>
   have:=b.toNat_lt
   rw [oh,List.all_cons,List.all_cons,ih,hd ⟨_,(by omega:b.toNat/16<16)⟩,hd ⟨_,(by omega:b.toNat%16<16)⟩];rfl
 unfold aU
 rw [bq,a,aR,qX,h];rfl
end
section
theorem FU (l:List UInt8) (a:Nat) (rest:List UInt8):∀f i N m,l.drop i=aQ m++rest→N+m*128^i≤a→N+m*128^i≤1099511627775→(0<i→0<m)→m<128^(f+1)→bI l a (f+1) i N= .inr (N+m*128^i,i+(aQ m).length):=by
 intro f
 induction f with
 | zero =>
  intro i N m hd h1 o n g
  have hm:m<128:=by simpa using g
  rw [fu hm] at hd ⊢
  have d:l[i]? = some (UInt8.ofNat m):=by
   have:=congrArg (fun x=>x[0]?) hd
   simpa [List.getElem?_drop] using this
  have b:(UInt8.ofNat m).toNat=m:=by rw [UInt8.toNat_ofNat'];omega
  have e:m%128=m:=Nat.mod_eq_of_lt hm
  unfold bI
  rw [d]
  dsimp only
  rw [b,if_neg (by omega),if_neg (fun h=>by have:=n h.2;omega),e,if_neg (by omega)]
  rfl
 | succ f ih =>
  intro i N m hd h1 o n g
  by_cases hm:m<128
  ·rw [fu hm] at hd ⊢
   have d:l[i]? = some (UInt8.ofNat m):=by
    have:=congrArg (fun x=>x[0]?) hd
    simpa [List.getElem?_drop] using this
   have b:(UInt8.ofNat m).toNat=m:=by rw [UInt8.toNat_ofNat'];omega
   have e:m%128=m:=Nat.mod_eq_of_lt hm
   unfold bI
   rw [d]
   dsimp only
   rw [b,if_neg (by omega),if_neg (fun h=>by have:=n h.2;omega),e,if_neg (by omega)]
   rfl
  have hm:128≤m:=by omega
  rw [je hm] at hd ⊢
  have d:l[i]? = some (UInt8.ofNat (m%128+128)):=by
   have:=congrArg (fun x=>x[0]?) hd
   simpa [List.getElem?_drop] using this
  have j:l.drop (i+1)=aQ (m/128)++rest:=by
   have:=congrArg List.tail hd
   simpa [List.tail_drop] using this
  have b:(UInt8.ofNat (m%128+128)).toNat=m%128+128:=by rw [UInt8.toNat_ofNat'];omega
  have e:(m%128+128)%128=m%128:=by omega
  have k:N+m%128*128^i+m/128*128^(i+1)=N+m*128^i:=by
   rw [Nat.pow_succ,Nat.add_assoc,Nat.mul_comm (128^i) 128,←Nat.mul_assoc,←Nat.add_mul]
   congr 2
   omega
  unfold bI
  rw [d]
  dsimp only
  rw [b,if_pos (by omega),e,ih (i+1) _ (m/128) j (by rw [k];exact h1) (by rw [k];exact o) (fun _=>by omega) (by
   rw [Nat.pow_succ] at g
   exact Nat.div_lt_of_lt_mul (by rw [Nat.mul_comm];exact g)),k,List.length_cons]
  congr 2
  omega
theorem Rd.Mq (r:Rd) (a n:Nat) (rest:List UInt8) (d:r.err=0) (hm:n≤a) (e:n≤1099511627775) (b:r.left=aQ n++rest):r.num a=({ r with pos:=r.pos+(aQ n).length },n):=by
 have h:=FU r.left a rest 5 0 0 n (by rw [List.drop_zero];exact b) (by omega) (by omega) (fun h=>by omega) (by omega)
 unfold Rd.num
 rw [if_neg (by simp [d]),h]
 simp
theorem Rd.IY (r:Rd) (a:Nat) (x:ByteArray) (rest:List UInt8) (d:r.err=0) (hm:x.size≤a) (hx:x.size≤1099511627775) (i:r.left=aQ x.size++(x.data.toList++rest)):r.text a=({ r with pos:=r.pos+(aQ x.size).length+x.size },x):=by
 have h1:=r.Mq a x.size _ d hm hx i
 have f:({ r with pos:=r.pos+(aQ x.size).length }:Rd).left=x.data.toList++rest:=J4 r _ i rfl
 obtain ⟨b,hb,g⟩:=Rd.Ma { r with pos:=r.pos+(aQ x.size).length } x.data.toList rest d f
 have h:=nO x
 rw [h] at hb
 have e:b=x:=GA g
 subst e
 unfold Rd.text
 rw [if_neg (by simp [d]),h1]
 dsimp only
 rw [hb,if_neg (by show ¬r.err≠0;simp [d])]
theorem BM {o:Ob} (h:aB o=true):dW (bV o)=some o:=by
 have hb:o.body.size≤4096:=by
  unfold aB at h
  rw [Bool.and_eq_true,decide_eq_true_eq] at h
  exact h.1
 have f:o.kind=1∨o.kind=2∨o.kind=3:=by
  unfold aB at h
  rw [Bool.and_eq_true] at h
  by_cases h1:o.kind=1
  ·exact .inl h1
  by_cases b:o.kind=2
  ·exact .inr (.inl b)
  by_cases d:o.kind=3
  ·exact .inr (.inr d)
  rw [if_neg h1,if_neg b,if_neg d] at h;exact absurd h.2 (by decide)
 have i:ofB (aQ o.body.size++o.body.data.toList)=ofB (aQ o.body.size++o.body.data.toList):=rfl
 have g:=Rd.IY (Rd.mk (ofB (aQ o.body.size++o.body.data.toList)) 0 0) 4096 o.body [] rfl hb (by omega) (by unfold Rd.left;rw [List.drop_zero,bq,List.append_nil])
 have e:(ofB (aQ o.body.size++o.body.data.toList)).size=(aQ o.body.size).length+o.body.size:=by rw [aR,List.length_append,nO]
 have a:(oO (fD o.kind):Int)=o.kind∧oO (fD o.kind)≠0:=by
  rcases f with h|h|h<;>rw [h]<;>decide
 unfold dW bV
 dsimp only
 rw [if_neg a.2,g]
 dsimp only
 rw [if_neg (by
  unfold Rd.fin
  dsimp only
  rw [if_neg (by simp),e,if_neg (by omega)];simp),a.1]
 exact if_pos h
theorem CS (l:List UInt8):gK (fK l)=some l:=by
 have h:=lq l
 have a:(fK l).take ((fK l).length-4)=l:=by
  rw [h,Nat.add_sub_cancel]
  unfold fK
  exact List.take_left
 unfold gK
 rw [a,if_pos ⟨by omega,rfl⟩]
def iG (o:Ob):ByteArray:=ofB (fK (nk++bV o))
theorem Ar {o:Ob} (h:o.body.size<128^3):(iG o).size≤o.body.size+12:=by
 have a:(aQ o.body.size).length≤3:=by
  rw [aQ]
  split
  ·simp
  rw [aQ]
  split
  ·simp
  rw [aQ]
  split
  ·simp
  exfalso;omega
 unfold iG bV
 rw [aR,lq,List.length_append,List.length_cons,List.length_append,nO]
 show 4+((aQ o.body.size).length+o.body.size+1)+4≤_
 omega
theorem JY {o:Ob} (h:aB o=true):JZ (iG o)=some o:=by
 unfold JZ iG
 rw [bq,CS]
 dsimp only
 rw [if_pos (by show (nk++bV o).take nk.length=nk;exact List.take_left)]
 show dW ((nk++bV o).drop nk.length)=_
 rw [List.drop_left]
 exact BM h
theorem Jp {o:Ob} (h:aB o=true):mK (ofB (bY (idO o))) (iG o)=some o:=by
 unfold mK
 rw [JY h]
 dsimp only
 exact if_pos rfl
theorem Gn {o:Ob} {d:Dk} (h:aB o=true) (hd:d 0 (ofB (bY (idO o)))=some (iG o)):gy d (idO o)= .inr o:=by
 unfold gy
 rw [hd]
 dsimp only
 rw [Jp h]
end
end Go.Proofs.YtlhcoanbhnphgaaGreatDoor
