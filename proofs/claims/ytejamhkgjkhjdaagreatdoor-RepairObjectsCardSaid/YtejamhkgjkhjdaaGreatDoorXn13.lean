/- A part of this claim. -/
import Derived.Deep.Cut
import Derived.Test.YtejamhkgjkhjdaaGreatDoorXn12
import Derived.Test.YtejamhkgjkhjdaaGreatDoorXn2
namespace Go.Proofs.YtejamhkgjkhjdaaGreatDoor
open Tryz
set_option maxHeartbeats 64000000
set_option maxRecDepth 100000
section
open Go.RowKit Fl
theorem extract_drop (s:ByteArray) (a n:Nat):(s.extract a (a+n)).data.toList=(s.data.toList.drop a).take n:=by
 rw [ByteArray.data_extract,Array.toList_extract]
 simp [List.extract]
end
section
open Go.RowKit
def yZ:ByteArray:=⟨#[48,49,50,51,52,53,54,55,56,57,97,98,99,100,101,102]⟩
theorem JY:∀i:Fin 16,yZ[i.val]'i.isLt=l9 i.val:=by decide +kernel
theorem Bg (i:Nat) (h:i<16):yZ[i]'h=l9 i:=JY ⟨i,h⟩
theorem Ir:∀b:Fin 256,bits .and .u8 ((b.val:Nat):Int) 15=((b.val%16:Nat):Int):=by decide +kernel
theorem oM (x:List UInt8):(bJ x).length=2*x.length:=by
 unfold bJ
 induction x with
 | nil=>rfl
 | cons a x ih=>rw [List.flatMap_cons,List.length_append,ih,List.length_cons];simp;omega
theorem Bh:∀(x:List UInt8) (k:Nat) (h:k<x.length),(bJ x)[2*k]? = some (l9 (x[k].toNat/16))∧(bJ x)[2*k+1]? = some (l9 (x[k].toNat%16))
 | [],k,h=>by simp at h
 | a::x,0,h=>⟨rfl,rfl⟩
 | a::x,k+1,h=>by
  have b:=Bh x k (by simpa using h)
  have e:bJ (a::x)=l9 (a.toNat/16)::l9 (a.toNat%16)::bJ x:=rfl
  rw [e,show 2*(k+1)=2*k+1+1 from by omega,show 2*k+1+1+1=(2*k+1)+1+1 from rfl,List.getElem?_cons_succ,List.getElem?_cons_succ,List.getElem?_cons_succ,List.getElem?_cons_succ]
  simpa using b
def y8 (x:List UInt8) (k i:Nat):Value:=if i<2*k then .int .u8 (((bJ x).getD i 0).toNat:Int) else .int .u8 0
theorem G8 (x:List UInt8) (k:Nat) (h:k<x.length):upd (upd (y8 x k) (2*k) (.int .u8 ((l9 (x[k].toNat/16)).toNat:Int))) (2*k+1) (.int .u8 ((l9 (x[k].toNat%16)).toNat:Int))=y8 x (k+1):=by
 obtain ⟨h1,e⟩:=Bh x k h
 funext i
 unfold upd y8
 by_cases b:i=2*k+1
 ·rw [if_pos b,if_pos (by omega),b,List.getD_eq_getElem?_getD,e];rfl
 rw [if_neg b]
 by_cases a:i=2*k
 ·rw [if_pos a,if_pos (by omega),a,List.getD_eq_getElem?_getD,h1];rfl
 rw [if_neg a]
 by_cases d:i<2*k
 ·rw [if_pos d,if_pos (by omega)]
 rw [if_neg d,if_neg (by omega)]
theorem Lm (x:List UInt8) (hx:x.length=32) (w:World):Calls prog 148 #[.agg (idC x).toArray] w fun e w'=>e= .returned (.string (ofB (bJ x)))∧Below w.heap.size w w':=by
 obtain ⟨W,u⟩:∃W,w.alloc (.cells (idC x).toArray 143)=W:=⟨_,rfl⟩
 have m:Below w.heap.size w W:=by rw [←u];exact bal
 have A:ak W w.heap.size 143 (idC x):=by rw [←u];exact ak.new w 143 (idC x)
 have s:W.heap.size=w.heap.size+1:=by rw [←u];simp
 have J:Hid (Arr (W.alloc (.cells (Array.replicate 64 (.int .u8 0)) 288)) W.heap.size 64 (y8 x 0)):=ah ((Arr.new W 64 (.int .u8 0) _).congr fun k Z=>by unfold y8;rw [if_neg (by omega)])
 have H:Hid (Below w.heap.size w (W.alloc (.cells (Array.replicate 64 (.int .u8 0)) 288))):=ah (m.alloc m.size _)
 have y:Hid (ak (W.alloc (.cells (Array.replicate 64 (.int .u8 0)) 288)) w.heap.size 143 (idC x)):=ah (A.below bal)
 have d:(prog.info? 143).map (·.size)=some (idC x).length:=by rw [aA,hx];kernel_rfl
 have R:=ah u
 have v:Hid (∀(k:Nat) (h:k<32) (W:World),(Instr.index 143 (.agg (idC x).toArray) (.int .i64 (k:Int))).run prog W= .ok (.int .u8 ((x[k]'(by omega)).toNat:Int)) W):=ah (fun k h W=>kR 143 5 32 underlying143 (fun w=>by kernel_rfl) (fun w=>by kernel_rfl) _ W k h _ (by
  unfold idC
  rw [List.getElem?_map,List.getElem?_eq_getElem (by omega)];rfl))
 clear u m A
 generalize idC x=ux at R y d v
 go_enter func148,ntmps148
 have E:=ah (G8 x)
 have aa:=ah s
 go_upto_region 2 with fail
 rw [R.out]
 have V:=y.out.range
 go_wp2_with (refine wpList_load_mid rfl 143 _ rfl w.heap.size 0 rfl ux _ V underlying143 rfl d ?_)
 clear V
 go_loopw [4,5,7] (fun _ _ i wr=> ∃k:Nat,i= .int .i64 (k:Int)∧k≤32∧Hid (Arr wr (w.heap.size+1) 64 (y8 x k))∧Hid (Below w.heap.size w wr)) (fun _ _ i _=>(32-intOf i).toNat)
 case atStart=>exact ⟨0,rfl,by omega,ah (by rw [←s];exact J.out),H⟩
 obtain ⟨l,rfl⟩:∃l:World,l=wr:=⟨_,rfl⟩
 obtain ⟨k,rfl,Z,C,S⟩:=hrel
 by_cases I:k<32
 ·have X:decide ((k:Int)<32)=true:=decide_eq_true (by omega)
  have O:=v.out k I
  obtain ⟨b,hb⟩:∃b,x[k]'(by omega)=b:=⟨_,rfl⟩
  rw [hb] at O
  have M:=b.toNat_lt
  have D:=ah (E.out k (by omega))
  rw [hb] at D
  have w1:IntKind.i64.wrap (2*(k:Int))=2*(k:Int):=by rw [IntKind.wrap_i64];omega
  have w2:IntKind.i64.wrap (2*(k:Int)+1)=2*(k:Int)+1:=by rw [IntKind.wrap_i64];omega
  have t1:(2*(k:Int)).toNat=2*k:=by omega
  have t2:(2*(k:Int)+1).toNat=2*k+1:=by omega
  have l1:2*(k:Int)<64:=by omega
  have l2:2*(k:Int)+1<64:=by omega
  have p1:(0:Int)≤2*(k:Int):=by omega
  have p2:(0:Int)≤2*(k:Int)+1:=by omega
  obtain ⟨q1,t⟩:∃q,b.toNat/16=q:=⟨_,rfl⟩
  obtain ⟨q2,z⟩:∃q,b.toNat%16=q:=⟨_,rfl⟩
  rw [t,z] at D
  have e1:((b.toNat:Nat):Int)/16=(q1:Int):=by omega
  have e2:bits .and .u8 ((b.toNat:Nat):Int) 15=(q2:Int):=by rw [Ir ⟨b.toNat,M⟩];simp only [];omega
  have g:q1<16:=by omega
  have f:q2<16:=by omega
  have U:(q1:Int)<16:=by omega
  have T:(q2:Int)<16:=by omega
  obtain ⟨c1,n⟩:∃c,l9 q1=c:=⟨_,rfl⟩
  obtain ⟨c2,p⟩:∃c,l9 q2=c:=⟨_,rfl⟩
  have g1:(({ data:=#[48,49,50,51,52,53,54,55,56,57,97,98,99,100,101,102] }:ByteArray)[q1]'g)=c1:=(Bg q1 g).trans n
  have g2:(({ data:=#[48,49,50,51,52,53,54,55,56,57,97,98,99,100,101,102] }:ByteArray)[q2]'f)=c2:=(Bg q2 f).trans p
  rw [n,p] at D
  clear n p t z hb
  go_upto_region 5 with fail
  have hS:(fun _:World=>True) l.drew:=trivial
  refine wrL 14 (fun _=>True) ?_
  refine WL.tk 0 hS ?_
  refine WL.tk 1 hS ?_
  refine WL.tk 2 hS ?_
  refine WL.tk 3 hS ?_
  refine WL.tk 4 hS ?_
  refine WL.tk 5 hS ?_
  refine WL.tk 6 hS ?_
  refine WL.tk 7 hS ?_
  refine WL.tk 8 hS ?_
  refine WL.tk 9 hS ?_
  refine WL.tk 10 hS ?_
  refine WL.tk 11 hS ?_
  have f1:=C.out.cell (2*k) (by omega)
  have f2:=C.out.free (2*k) (by omega)
  obtain ⟨r,a⟩:∃r,(l.setCell ⟨w.heap.size+1,2*k,none⟩ (.int .u8 (c1.toNat:Int))).drew=r:=⟨_,rfl⟩
  have o:Hid (Arr r (w.heap.size+1) 64 (upd (y8 x k) (2*k) (.int .u8 (c1.toNat:Int)))):=ah (by rw [←a];exact (C.out.set (2*k) (by omega) _).drew)
  have F:Hid (Below w.heap.size w r):=ah (by rw [←a];exact (below_setCells (B:=w.heap.size) (w.heap.size+1) (by omega) [.int .u8 (c1.toNat:Int)] (2*k) _ S.out).drew)
  have f3:=o.out.cell (2*k+1) (by omega)
  have f4:=o.out.free (2*k+1) (by omega)
  have K:Hid (Arr (r.setCell ⟨w.heap.size+1,2*k+1,none⟩ (.int .u8 (c2.toNat:Int))) (w.heap.size+1) 64 (y8 x (k+1))):=ah (by rw [←D.out];exact o.out.set (2*k+1) (by omega) _)
  have N:Hid (Below w.heap.size w (r.setCell ⟨w.heap.size+1,2*k+1,none⟩ (.int .u8 (c2.toNat:Int)))):=ah (below_setCells (B:=w.heap.size) (w.heap.size+1) (by omega) [.int .u8 (c2.toNat:Int)] (2*k+1) _ F.out)
  have L:=ah a
  clear a
  refine WL.on 12 ?_
  go_wp2
  rw [L.out]
  refine ⟨trivial,?_⟩
  refine WL.on 13 ?_
  go_wp2
  refine ⟨trivial,?_⟩
  refine WL.la 14 ?_
  go_wp2
  go_roundw
  case rel=>exact ⟨k+1,by go_num,by omega,K,N⟩
  case measure=>simp [intOf];omega
 obtain rfl:k=32:=by omega
 have X:decide ((32:Int)<32)=false:=rfl
 have ab:(convert 89 9 (.slice (some ⟨w.heap.size+1,0,none⟩) 64 64)).run prog l= .ok (.string (ofB (bJ x))) l:=by
  have Q:(bJ x).length=64:=by rw [oM,hx]
  have:=run_convert_bytes_back (P:=prog) l 89 9 5 ⟨w.heap.size+1,0,none⟩ 64 (bJ x) underlying89 underlying5 underlying9 (fun j G=>by
   rw [Q] at G
   rw [Addr.add_mid,Nat.zero_add,C.out.cell j G]
   unfold y8
   rw [if_pos (by omega),List.getD_eq_getElem?_getD,List.getElem?_eq_getElem (by rw [Q];exact G)];rfl)
  rw [Q] at this
  exact this
 have Y:(ofB (bJ x)).size=64:=by rw [aK,oM,hx]
 go_wp2
 go_ret
 exact ⟨rfl,S.out⟩
theorem lW (x:List UInt8) (hx:x.length=32) (w:World):Calls prog 116 #[.agg (idC x).toArray] w fun e w'=>e= .returned (.string (ofB (bJ x)))∧Below w.heap.size w w':=by
 obtain ⟨W,h⟩:∃W,w.alloc (.cells (idC x).toArray 143)=W:=⟨_,rfl⟩
 have g:Below w.heap.size w W:=by rw [←h];exact bal
 have f:ak W w.heap.size 143 (idC x):=by rw [←h];exact ak.new w 143 (idC x)
 have a:(prog.info? 143).map (·.size)=some (idC x).length:=by rw [aA,hx];kernel_rfl
 have k:=ah h
 have d:=ah g
 have l:=ah f.range
 have b:=ah a
 have m:=ah (Lm x hx W)
 clear h g f a
 generalize i:idC x=cs at k l b m
 clear i
 go_enter func116,ntmps116
 go_upto_region 1 with fail
 rw [k.out]
 have n:=l.out
 have a:=b.out
 go_wp2_with (refine wpList_load_mid rfl 143 _ rfl w.heap.size 0 rfl cs _ n underlying143 rfl a ?_)
 refine m.out.mono ?_
 rintro e o ⟨rfl,j⟩
 go_wp2_with fail
 go_ret
 exact ⟨rfl,d.out.trans (j.mono d.out.size)⟩
def iT (b:UInt8):Int:=match qK b with
 | some n=>(n:Int)
 | none=> -1
theorem vP:∀b:Fin 256,∀k:Fin 16,yZ[k.val]'k.isLt=UInt8.ofNat b.val→iT (UInt8.ofNat b.val)=(k.val:Int):=by decide +kernel
theorem zh:∀b:Fin 256,(∀k:Fin 16,yZ[k.val]'k.isLt≠UInt8.ofNat b.val)→iT (UInt8.ofNat b.val)= -1:=by decide +kernel
theorem Et (b:UInt8):UInt8.ofNat b.toNat=b:=by simp
theorem H9 {b:UInt8} {k:Nat} (h:k<16) (e:yZ[k]'h=b):iT b=(k:Int):=by
 have:=vP ⟨b.toNat,b.toNat_lt⟩ ⟨k,h⟩
 simp only [Et] at this
 exact this e
theorem Km {b:UInt8} (e:∀(k:Nat) (h:k<16),yZ[k]'h≠b):iT b= -1:=by
 have:=zh ⟨b.toNat,b.toNat_lt⟩
 simp only [Et] at this
 exact this fun k=>e k.val k.isLt
theorem Bj (b:UInt8) (w:World):Calls prog 174 #[.int .u8 (b.toNat:Int)] w fun e w'=>e= .returned (.int .i64 (iT b))∧w'=w:=by
 go_enter func174,ntmps174
 go_wp2
 go_loopw [3,4] (fun _ i wr=> ∃k:Nat,i= .int .i64 (k:Int)∧k≤16∧(∀(j:Nat) (h:j<16),j<k→yZ[j]'h≠b)∧wr=w) (fun _ i _=>(16-intOf i).toNat)
 case atStart=>exact ⟨0,rfl,by omega,fun j _ h=>by omega,rfl⟩
 obtain ⟨k,rfl,s,g,rfl⟩:=hrel
 have f:=ah g
 clear g
 by_cases a:k<16
 ·have r:decide ((k:Int)<16)=true:=decide_eq_true (by omega)
  have n:(k:Int)<16:=by omega
  obtain ⟨c,d⟩:∃c,yZ[k]'a=c:=⟨_,rfl⟩
  have g1:(({ data:=#[48,49,50,51,52,53,54,55,56,57,97,98,99,100,101,102] }:ByteArray)[k]'a)=c:=d
  by_cases e:c=b
  ·have q:(((c.toNat:Nat):Int)==((b.toNat:Nat):Int))=true:=by rw [e];simp
   have l:=ah (H9 a (d.trans e))
   clear d e
   go_wp2
   go_ret
   exact ⟨by rw [l.out];rfl,by first|rfl|trivial⟩
  have q:(((c.toNat:Nat):Int)==((b.toNat:Nat):Int))=false:=by
   rw [beq_eq_false_iff_ne]
   intro h
   exact e (UInt8.toNat_inj.1 (by omega))
  have o:Hid (∀(j:Nat) (h:j<16),j<k+1→yZ[j]'h≠b):=ah (fun j h t=>by
   by_cases m:j=k
   ·subst m;exact fun p=>e (d.symm.trans p)
   exact f.out j h (by omega))
  clear d e
  go_wp2
  go_roundw
  case rel=>exact ⟨k+1,by go_num,by omega,o.out,by first|rfl|trivial⟩
  case measure=>simp [intOf];omega
 obtain rfl:k=16:=by omega
 have l:=ah (Km fun j h=>f.out j h h)
 go_wp2
 go_ret
 exact ⟨by rw [l.out];rfl,by first|rfl|trivial⟩
end
end Go.Proofs.YtejamhkgjkhjdaaGreatDoor
