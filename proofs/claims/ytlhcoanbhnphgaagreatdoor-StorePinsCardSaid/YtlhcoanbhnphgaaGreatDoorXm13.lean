/- A part of this claim. -/
import Derived.Deep.Cut
import Derived.Test.YtlhcoanbhnphgaaGreatDoorXm11
import Derived.Test.YtlhcoanbhnphgaaGreatDoorXm9
namespace Go.Proofs.YtlhcoanbhnphgaaGreatDoor
open Tryz
set_option maxHeartbeats 64000000
set_option maxRecDepth 100000
section
open Go.RowKit
def Ch:ByteArray:=⟨#[48,49,50,51,52,53,54,55,56,57,97,98,99,100,101,102]⟩
theorem M9:∀i:Fin 16,Ch[i.val]'i.isLt=lK i.val:=by decide +kernel
theorem Ea (i:Nat) (h:i<16):Ch[i]'h=lK i:=M9 ⟨i,h⟩
theorem KY:∀b:Fin 256,bits .and .u8 ((b.val:Nat):Int) 15=((b.val%16:Nat):Int):=by decide +kernel
theorem qY (x:List UInt8):(bY x).length=2*x.length:=by
 unfold bY
 induction x with
 | nil=>rfl
 | cons a x ih=>rw [List.flatMap_cons,List.length_append,ih,List.length_cons];simp;omega
theorem Ec:∀(x:List UInt8) (k:Nat) (h:k<x.length),(bY x)[2*k]? = some (lK (x[k].toNat/16))∧(bY x)[2*k+1]? = some (lK (x[k].toNat%16))
 | [],k,h=>by simp at h
 | a::x,0,h=>⟨rfl,rfl⟩
 | a::x,k+1,h=>by
  have b:=Ec x k (by simpa using h)
  have e:bY (a::x)=lK (a.toNat/16)::lK (a.toNat%16)::bY x:=rfl
  rw [e,show 2*(k+1)=2*k+1+1 from by omega,show 2*k+1+1+1=(2*k+1)+1+1 from rfl,List.getElem?_cons_succ,List.getElem?_cons_succ,List.getElem?_cons_succ,List.getElem?_cons_succ]
  simpa using b
def Ci (x:List UInt8) (k i:Nat):Value:=if i<2*k then .int .u8 (((bY x).getD i 0).toNat:Int) else .int .u8 0
theorem Kc (x:List UInt8) (k:Nat) (h:k<x.length):upd (upd (Ci x k) (2*k) (.int .u8 ((lK (x[k].toNat/16)).toNat:Int))) (2*k+1) (.int .u8 ((lK (x[k].toNat%16)).toNat:Int))=Ci x (k+1):=by
 obtain ⟨h1,e⟩:=Ec x k h
 funext i
 unfold upd Ci
 by_cases a:i=2*k+1
 ·rw [if_pos a,if_pos (by omega),a,List.getD_eq_getElem?_getD,e];rfl
 rw [if_neg a]
 by_cases b:i=2*k
 ·rw [if_pos b,if_pos (by omega),b,List.getD_eq_getElem?_getD,h1];rfl
 rw [if_neg b]
 by_cases d:i<2*k
 ·rw [if_pos d,if_pos (by omega)]
 rw [if_neg d,if_neg (by omega)]
theorem OQ (x:List UInt8) (hx:x.length=32) (w:World):Calls prog 54 #[.agg (idC x).toArray] w fun e w'=>e= .returned (.string (ofB (bY x)))∧Below w.heap.size w w':=by
 obtain ⟨W,v⟩:∃W,w.alloc (.cells (idC x).toArray 42)=W:=⟨_,rfl⟩
 have l:Below w.heap.size w W:=by rw [←v];exact bal
 have A:ak W w.heap.size 42 (idC x):=by rw [←v];exact ak.new w 42 (idC x)
 have y:W.heap.size=w.heap.size+1:=by rw [←v];simp
 have Q:Hid (Arr (W.alloc (.cells (Array.replicate 64 (.int .u8 0)) 161)) W.heap.size 64 (Ci x 0)):=ah ((Arr.new W 64 (.int .u8 0) _).congr fun k X=>by unfold Ci;rw [if_neg (by omega)])
 have K:Hid (Below w.heap.size w (W.alloc (.cells (Array.replicate 64 (.int .u8 0)) 161))):=ah (l.alloc l.size _)
 have s:Hid (ak (W.alloc (.cells (Array.replicate 64 (.int .u8 0)) 161)) w.heap.size 42 (idC x)):=ah (A.below bal)
 have g:(prog.info? 42).map (·.size)=some (idC x).length:=by rw [av,hx];kernel_rfl
 have V:=ah v
 have z:Hid (∀(k:Nat) (h:k<32) (W:World),(Instr.index 42 (.agg (idC x).toArray) (.int .i64 (k:Int))).run prog W= .ok (.int .u8 ((x[k]'(by omega)).toNat:Int)) W):=ah (fun k h W=>jN 42 5 32 underlying42 (fun w=>by kernel_rfl) (fun w=>by kernel_rfl) _ W k h _ (by
  unfold idC
  rw [List.getElem?_map,List.getElem?_eq_getElem (by omega)];rfl))
 clear v l A
 generalize idC x=ux at V s g z
 go_enter func54,ntmps54
 have F:=ah (Kc x)
 have aa:=ah y
 go_upto_region 2 with fail
 rw [V.out]
 have S:=s.out.range
 go_wp2_with (refine wpList_load_mid rfl 42 _ rfl w.heap.size 0 rfl ux _ S underlying42 rfl g ?_)
 clear S
 go_loopw [4,5,7] (fun _ _ i wr=> ∃k:Nat,i= .int .i64 (k:Int)∧k≤32∧Hid (Arr wr (w.heap.size+1) 64 (Ci x k))∧Hid (Below w.heap.size w wr)) (fun _ _ i _=>(32-intOf i).toNat)
 case atStart=>exact ⟨0,rfl,by omega,ah (by rw [←y];exact Q.out),K⟩
 obtain ⟨n,rfl⟩:∃n:World,n=wr:=⟨_,rfl⟩
 obtain ⟨k,rfl,X,D,U⟩:=hrel
 by_cases E:k<32
 ·have d1:decide ((k:Int)<32)=true:=decide_eq_true (by omega)
  have I:=z.out k E
  obtain ⟨b,hb⟩:∃b,x[k]'(by omega)=b:=⟨_,rfl⟩
  rw [hb] at I
  have N:=b.toNat_lt
  have C:=ah (F.out k (by omega))
  rw [hb] at C
  have w1:IntKind.i64.wrap (2*(k:Int))=2*(k:Int):=by rw [IntKind.wrap_i64];omega
  have w2:IntKind.i64.wrap (2*(k:Int)+1)=2*(k:Int)+1:=by rw [IntKind.wrap_i64];omega
  have t1:(2*(k:Int)).toNat=2*k:=by omega
  have t2:(2*(k:Int)+1).toNat=2*k+1:=by omega
  have l1:2*(k:Int)<64:=by omega
  have l2:2*(k:Int)+1<64:=by omega
  have p1:(0:Int)≤2*(k:Int):=by omega
  have p2:(0:Int)≤2*(k:Int)+1:=by omega
  obtain ⟨q1,u⟩:∃q,b.toNat/16=q:=⟨_,rfl⟩
  obtain ⟨q2,t⟩:∃q,b.toNat%16=q:=⟨_,rfl⟩
  rw [u,t] at C
  have e1:((b.toNat:Nat):Int)/16=(q1:Int):=by omega
  have e2:bits .and .u8 ((b.toNat:Nat):Int) 15=(q2:Int):=by rw [KY ⟨b.toNat,N⟩];simp only [];omega
  have f:q1<16:=by omega
  have d:q2<16:=by omega
  have R:(q1:Int)<16:=by omega
  have T:(q2:Int)<16:=by omega
  obtain ⟨c1,p⟩:∃c,lK q1=c:=⟨_,rfl⟩
  obtain ⟨c2,o⟩:∃c,lK q2=c:=⟨_,rfl⟩
  have g1:(({ data:=#[48,49,50,51,52,53,54,55,56,57,97,98,99,100,101,102] }:ByteArray)[q1]'f)=c1:=(Ea q1 f).trans p
  have g2:(({ data:=#[48,49,50,51,52,53,54,55,56,57,97,98,99,100,101,102] }:ByteArray)[q2]'d)=c2:=(Ea q2 d).trans o
  rw [p,o] at C
  clear p o u t hb
  go_upto_region 5 with fail
  have hS:(fun _:World=>True) n.drew:=trivial
  refine wrL 14 (fun _=>True) ?_
  refine WL.tk 0 hS ?_
  refine WL.tk 1 hS ?_
  refine WL.tk 2 hS ?_
  refine WL.tk 3 hS ?_
  refine WL.tk 4 hS ?_
  refine WL.tk 5 hS ?_
  refine WL.tk 6 hS ?_
  refine WL.tk 7 hS ?_
  refine WL.tk 8 hS ?_
  refine WL.tk 9 hS ?_
  refine WL.tk 10 hS ?_
  refine WL.tk 11 hS ?_
  have f1:=D.out.cell (2*k) (by omega)
  have f2:=D.out.free (2*k) (by omega)
  obtain ⟨r,a⟩:∃r,(n.setCell ⟨w.heap.size+1,2*k,none⟩ (.int .u8 (c1.toNat:Int))).drew=r:=⟨_,rfl⟩
  have m:Hid (Arr r (w.heap.size+1) 64 (upd (Ci x k) (2*k) (.int .u8 (c1.toNat:Int)))):=ah (by rw [←a];exact (D.out.set (2*k) (by omega) _).drew)
  have H:Hid (Below w.heap.size w r):=ah (by rw [←a];exact (below_setCells (B:=w.heap.size) (w.heap.size+1) (by omega) [.int .u8 (c1.toNat:Int)] (2*k) _ U.out).drew)
  have f3:=m.out.cell (2*k+1) (by omega)
  have f4:=m.out.free (2*k+1) (by omega)
  have G:Hid (Arr (r.setCell ⟨w.heap.size+1,2*k+1,none⟩ (.int .u8 (c2.toNat:Int))) (w.heap.size+1) 64 (Ci x (k+1))):=ah (by rw [←C.out];exact m.out.set (2*k+1) (by omega) _)
  have L:Hid (Below w.heap.size w (r.setCell ⟨w.heap.size+1,2*k+1,none⟩ (.int .u8 (c2.toNat:Int)))):=ah (below_setCells (B:=w.heap.size) (w.heap.size+1) (by omega) [.int .u8 (c2.toNat:Int)] (2*k+1) _ H.out)
  have J:=ah a
  clear a
  refine WL.on 12 ?_
  go_wp2
  rw [J.out]
  refine ⟨trivial,?_⟩
  refine WL.on 13 ?_
  go_wp2
  refine ⟨trivial,?_⟩
  refine WL.la 14 ?_
  go_wp2
  go_roundw
  case rel=>exact ⟨k+1,by go_num,by omega,G,L⟩
  case measure=>simp [intOf];omega
 obtain rfl:k=32:=by omega
 have d1:decide ((32:Int)<32)=false:=rfl
 have Y:(convert 96 9 (.slice (some ⟨w.heap.size+1,0,none⟩) 64 64)).run prog n= .ok (.string (ofB (bY x))) n:=by
  have M:(bY x).length=64:=by rw [qY,hx]
  have:=run_convert_bytes_back (P:=prog) n 96 9 5 ⟨w.heap.size+1,0,none⟩ 64 (bY x) underlying96 underlying5 underlying9 (fun j O=>by
   rw [M] at O
   rw [Addr.add_mid,Nat.zero_add,D.out.cell j O]
   unfold Ci
   rw [if_pos (by omega),List.getD_eq_getElem?_getD,List.getElem?_eq_getElem (by rw [M];exact O)];rfl)
  rw [M] at this
  exact this
 have Z:(ofB (bY x)).size=64:=by rw [aR,qY,hx]
 go_wp2
 go_ret
 exact ⟨rfl,U.out⟩
theorem nY (x:List UInt8) (hx:x.length=32) (w:World):Calls prog 75 #[.agg (idC x).toArray] w fun e w'=>e= .returned (.string (ofB (bY x)))∧Below w.heap.size w w':=by
 obtain ⟨W,h⟩:∃W,w.alloc (.cells (idC x).toArray 42)=W:=⟨_,rfl⟩
 have d:Below w.heap.size w W:=by rw [←h];exact bal
 have f:ak W w.heap.size 42 (idC x):=by rw [←h];exact ak.new w 42 (idC x)
 have a:(prog.info? 42).map (·.size)=some (idC x).length:=by rw [av,hx];kernel_rfl
 have k:=ah h
 have b:=ah d
 have m:=ah f.range
 have g:=ah a
 have l:=ah (OQ x hx W)
 clear h d f a
 generalize j:idC x=cs at k m g l
 clear j
 go_enter func75,ntmps75
 go_upto_region 1 with fail
 rw [k.out]
 have n:=m.out
 have a:=g.out
 go_wp2_with (refine wpList_load_mid rfl 42 _ rfl w.heap.size 0 rfl cs _ n underlying42 rfl a ?_)
 refine l.out.mono ?_
 rintro e o ⟨rfl,i⟩
 go_wp2_with fail
 go_ret
 exact ⟨rfl,b.out.trans (i.mono b.out.size)⟩
def kr (b:UInt8):Int:=match lJ b with
 | some n=>(n:Int)
 | none=> -1
theorem zI:∀b:Fin 256,∀k:Fin 16,Ch[k.val]'k.isLt=UInt8.ofNat b.val→kr (UInt8.ofNat b.val)=(k.val:Int):=by decide +kernel
theorem Co:∀b:Fin 256,(∀k:Fin 16,Ch[k.val]'k.isLt≠UInt8.ofNat b.val)→kr (UInt8.ofNat b.val)= -1:=by decide +kernel
theorem GV (b:UInt8):UInt8.ofNat b.toNat=b:=by simp
theorem KC {b:UInt8} {k:Nat} (h:k<16) (e:Ch[k]'h=b):kr b=(k:Int):=by
 have:=zI ⟨b.toNat,b.toNat_lt⟩ ⟨k,h⟩
 simp only [GV] at this
 exact this e
theorem Ny {b:UInt8} (e:∀(k:Nat) (h:k<16),Ch[k]'h≠b):kr b= -1:=by
 have:=Co ⟨b.toNat,b.toNat_lt⟩
 simp only [GV] at this
 exact this fun k=>e k.val k.isLt
theorem Ed (b:UInt8) (w:World):Calls prog 175 #[.int .u8 (b.toNat:Int)] w fun e w'=>e= .returned (.int .i64 (kr b))∧w'=w:=by
 go_enter func175,ntmps175
 go_wp2
 go_loopw [3,4] (fun _ i wr=> ∃k:Nat,i= .int .i64 (k:Int)∧k≤16∧(∀(j:Nat) (h:j<16),j<k→Ch[j]'h≠b)∧wr=w) (fun _ i _=>(16-intOf i).toNat)
 case atStart=>exact ⟨0,rfl,by omega,fun j _ h=>by omega,rfl⟩
 obtain ⟨k,rfl,t,g,rfl⟩:=hrel
 have f:=ah g
 clear g
 by_cases a:k<16
 ·have r:decide ((k:Int)<16)=true:=decide_eq_true (by omega)
  have p:(k:Int)<16:=by omega
  obtain ⟨c,d⟩:∃c,Ch[k]'a=c:=⟨_,rfl⟩
  have g1:(({ data:=#[48,49,50,51,52,53,54,55,56,57,97,98,99,100,101,102] }:ByteArray)[k]'a)=c:=d
  by_cases e:c=b
  ·have n:(((c.toNat:Nat):Int)==((b.toNat:Nat):Int))=true:=by rw [e];simp
   have m:=ah (KC a (d.trans e))
   clear d e
   go_wp2
   go_ret
   exact ⟨by rw [m.out];rfl,by first|rfl|trivial⟩
  have n:(((c.toNat:Nat):Int)==((b.toNat:Nat):Int))=false:=by
   rw [beq_eq_false_iff_ne]
   intro h
   exact e (UInt8.toNat_inj.1 (by omega))
  have q:Hid (∀(j:Nat) (h:j<16),j<k+1→Ch[j]'h≠b):=ah (fun j h s=>by
   by_cases l:j=k
   ·subst l;exact fun o=>e (d.symm.trans o)
   exact f.out j h (by omega))
  clear d e
  go_wp2
  go_roundw
  case rel=>exact ⟨k+1,by go_num,by omega,q.out,by first|rfl|trivial⟩
  case measure=>simp [intOf];omega
 obtain rfl:k=16:=by omega
 have m:=ah (Ny fun j h=>f.out j h h)
 go_wp2
 go_ret
 exact ⟨by rw [m.out];rfl,by first|rfl|trivial⟩
end
end Go.Proofs.YtlhcoanbhnphgaaGreatDoor
