/- A part of this claim. -/
import Derived.Lib.SlBytesRow
import Derived.ScopeJumps
import Derived.Test.YtlhcoanbhnphgaaGreatDoorXm5
import Derived.WalkMore
namespace Go.Proofs.YtlhcoanbhnphgaaGreatDoor
open Tryz
set_option maxHeartbeats 64000000
set_option maxRecDepth 100000
section
open Go.RowKit
def bI (l:List UInt8) (a:Nat):Nat→Nat→Nat→Sum Nat (Nat×Nat)
 | 0,_,_=> .inl 4
 | f+1,i,n=>match l[i]? with
  | none=> .inl 3
  | some b=>if 128≤b.toNat then bI l a f (i+1) (n+b.toNat%128*128^i)
   else if b.toNat=0∧0<i then .inl 2
   else if 1099511627775<n+b.toNat%128*128^i∨a<n+b.toNat%128*128^i then .inl 4
   else .inr (n+b.toNat%128*128^i,i+1)
def Rd.left (r:Rd):List UInt8:=r.s.data.toList.drop r.pos
def Rd.num (r:Rd) (a:Nat):Rd×Nat:=if r.err≠0 then (r,0) else match bI r.left a 6 0 0 with
 | .inl e=>({ r with err:=e },0)
 | .inr x=>({ r with pos:=r.pos+x.2 },x.1)
theorem xU (r:Rd) (k:Nat):r.left[k]? = r.s.data.toList[r.pos+k]?:=by unfold Rd.left;rw [List.getElem?_drop]
theorem iF (l:List UInt8) (a:Nat):∀f i n,(∀e,bI l a f i n= .inl e→e≤4∧0<e)∧(∀x,bI l a f i n= .inr x→x.2≤l.length∧x.1≤a∧i<x.2∧x.1≤1099511627775)
 | 0,i,n=>⟨fun e h=>by cases h;omega,fun x h=>by cases h⟩
 | f+1,i,n=>by
  unfold bI
  cases k:l[i]? with
  | none=>exact ⟨fun e h=>by cases h;omega,fun x h=>by cases h⟩
  | some b =>
   dsimp only
   have hi:i<l.length:=(List.getElem?_eq_some_iff.1 k).1
   by_cases h1:128≤b.toNat
   ·rw [if_pos h1]
    obtain ⟨a1,a2⟩:=iF l a f (i+1) (n+b.toNat%128*128^i)
    exact ⟨a1,fun x h=>by obtain ⟨q1,q2,m,j⟩:=a2 x h;exact ⟨q1,q2,by omega,j⟩⟩
   rw [if_neg h1]
   by_cases d:b.toNat=0∧0<i
   ·rw [if_pos d];exact ⟨fun e h=>by cases h;omega,fun x h=>by cases h⟩
   rw [if_neg d]
   by_cases g:1099511627775<n+b.toNat%128*128^i∨a<n+b.toNat%128*128^i
   ·rw [if_pos g];exact ⟨fun e h=>by cases h;omega,fun x h=>by cases h⟩
   rw [if_neg g]
   refine ⟨fun e h=>(by cases h),fun x h=> ?_⟩
   cases h
   exact ⟨by omega,by omega,by omega,by omega⟩
theorem Rd.cB (r:Rd) (a:Nat) (h:r.fine):(r.num a).1.fine∧(r.num a).2≤a:=by
 unfold Rd.num
 split
 ·exact ⟨h,Nat.zero_le _⟩
 obtain ⟨a1,a2⟩:=iF r.left a 6 0 0
 split
 ·rename_i e b
  have:=a1 e b
  exact ⟨⟨h.pos,h.size,by show e≤100;omega⟩,Nat.zero_le _⟩
 rename_i x hx
 obtain ⟨q1,q2,_,_⟩:=a2 x hx
 have d:r.left.length=r.s.size-r.pos:=by unfold Rd.left;simp
 have:=h.pos
 exact ⟨⟨by show r.pos+x.2≤r.s.size;omega,h.size,h.err⟩,q2⟩
theorem Rd.jH (r:Rd) (a e:Nat) (b:r.err=0) (h:bI r.left a 6 0 0= .inl e):r.num a=({ r with err:=e },0):=by
 unfold Rd.num;rw [if_neg (by simp [b]),h]
theorem Rd.FT (r:Rd) (a:Nat) (x:Nat×Nat) (b:r.err=0) (h:bI r.left a 6 0 0= .inr x):r.num a=({ r with pos:=r.pos+x.2 },x.1):=by
 unfold Rd.num;rw [if_neg (by simp [b]),h]
theorem wZ (b:Nat) (r:Rd) (f:Nat) (w:World) (hA:Arr w b 3 r.c) (hf:r.fine) (hn:f≤1000000000) :
  Calls prog 140 #[.pointer (some ⟨b,0,none⟩),.int .i64 (f:Int)] w fun e w'=>e= .returned (.int .i64 ((r.num f).2:Int))∧Arr w' b 3 (r.num f).1.c∧w.grownBy w' (some b):=by
 have y:b<w.heap.size:=hA.lt (by omega)
 have c0:w.cell? ⟨b,0,none⟩=some (.string r.s):=hA.cell 0 (by omega)
 have c1:w.cell? ⟨b,1,none⟩=some (.int .i64 (r.pos:Int)):=hA.cell 1 (by omega)
 have c2:w.cell? ⟨b,2,none⟩=some (.int .i64 (r.err:Int)):=hA.cell 2 (by omega)
 have f1:=hA.free 1 (by omega)
 have f2:=hA.free 2 (by omega)
 have hp:=hf.pos
 have hs:=hf.size
 have he:=hf.err
 have U:=ah hA
 clear hA hf
 by_cases h0:r.err=0
 ·have an:((r.err:Int) != 0)=false:=by rw [bne_eq_false_iff_eq];omega
  have V:=ah h0
  clear h0
  go_enter func140,ntmps140
  go_wp2
  go_loopw [5,6,7] (fun n o i wr=> ∃k N:Nat,k≤6∧i= .int .i64 k∧n= .int .i64 N∧o= .int .i64 ((128^k:Nat):Int)∧N≤4398046511104∧Hid (bI r.left f 6 0 0=bI r.left f (6-k) k N)∧Hid (N<128^k)∧Below w.heap.size w wr) (fun _ _ i _=>(6-intOf i).toNat)
  case atStart=>exact ⟨0,0,by omega,rfl,rfl,rfl,by omega,rfl,by unfold Hid;decide,Below.refl _ _⟩
  obtain ⟨wo,rfl⟩:∃wo:World,wo=wr:=⟨_,rfl⟩
  obtain ⟨k,N,hk,rfl,rfl,rfl,hN,Q,W,hb⟩:=hrel
  have z:=au c0 hb y
  have v:=au c1 hb y
  have F:=au c2 hb y
  have I:wo.frozen? ⟨b,1,none⟩=false:=by rw [hb.frozen (p:=⟨b,1,none⟩) y];exact f1
  have G:wo.frozen? ⟨b,2,none⟩=false:=by rw [hb.frozen (p:=⟨b,2,none⟩) y];exact f2
  have h:b<wo.heap.size:=by have:=hb.size;omega
  by_cases ax:k<6
  ·have k0:(0:Int)≤k:=by omega
   have k1:(k:Int)<6:=by omega
   have hd:decide ((k:Int)<6)=true:=decide_eq_true (by omega)
   by_cases ae:r.pos+k<r.s.size
   ·have af:r.s.data.toList[r.pos+k]? = some (blk r.s (r.pos+k)):=by
     unfold blk
     have hl:r.pos+k<r.s.data.toList.length:=by simp;omega
     simp only [List.getD,List.getElem?_eq_getElem hl,Option.getD_some]
    have T:∀w,(Instr.index 9 (.string r.s) (.int .i64 ((r.pos:Int)+k))).run prog w= .ok (.int .u8 (wn (bw (blk r.s (r.pos+k))))) w:=fun w=>dV r.s w (r.pos+k) ae
    have ag:=oI (blk r.s (r.pos+k))
    have hX:(blk r.s (r.pos+k)).toNat<256:=(blk r.s (r.pos+k)).toNat_lt
    have hl:r.left[k]? = some (blk r.s (r.pos+k)):=by rw [xU];exact af
    have L:bI r.left f (6-k) k N=if 128≤(blk r.s (r.pos+k)).toNat then bI r.left f (5-k) (k+1) (N+(blk r.s (r.pos+k)).toNat%128*128^k)
      else if (blk r.s (r.pos+k)).toNat=0∧0<k then .inl 2
      else if 1099511627775<N+(blk r.s (r.pos+k)).toNat%128*128^k∨f<N+(blk r.s (r.pos+k)).toNat%128*128^k then .inl 4
      else .inr (N+(blk r.s (r.pos+k)).toNat%128*128^k,k+1):=by
     rw [show 6-k=(5-k)+1 from by omega];conv=>lhs;unfold bI
     rw [hl]
    rw [←ag] at T
    generalize (blk r.s (r.pos+k)).toNat=X at T hX L
    have ho:128^k≤34359738368:=by
     have:128^k≤128^5:=Nat.pow_le_pow_right (by omega) (by omega)
     omega
    have Z:128^(k+1)=128^k*128:=Nat.pow_succ 128 k
    have M:=Q.out
    rw [L] at M
    have ao:=W.out
    have ab:=ah Z
    have aw:∃p,p=X%128*128^k:=⟨_,rfl⟩
    obtain ⟨p,O⟩:=aw
    have aE:p≤4363686772736:=by
     rw [O]
     exact Nat.le_trans (Nat.mul_le_mul (show X%128≤127 by omega) ho) (by omega)
    have ac:N+p<128^(k+1):=by
     rw [Z,O]
     have h1:X%128*128^k≤127*128^k:=Nat.mul_le_mul (by omega) (Nat.le_refl _)
     omega
    rw [←O] at M
    have ap:IntKind.i64.wrap ((X:Int)%128*((128^k:Nat):Int))=(p:Int):=by
     rw [O]
     have e:((X%128*128^k:Nat):Int)=(X:Int)%128*((128^k:Nat):Int):=by push_cast;rfl
     rw [←e,←O];exact IntWalk.i64_in _ (by omega)
    have ar:=ah ac
    have H:=ah M
    have D:=ah hb
    clear O M L Q W ao Z hl af ag hb c0 c1 c2 f1 f2 ac
    generalize ad:128^k=o at ap ho ab
    have a0:=ah ad
    clear ad
    have al:decide (((r.s.size:Int))≤(r.pos:Int)+k)=false:=decide_eq_false (by omega)
    have x0:(0:Int)≤X:=by omega
    have x1:(X:Int)<256:=by omega
    by_cases t:128≤X
    ·have aq:decide ((128:Int)≤X)=true:=decide_eq_true (by omega)
     go_wp2
     refine wbq ?_
     have j:=blq z
     have l:=blq v
     repeat (go_big_quiet_step (fail))
     refine wpQuiet_nil ?_
     intro u g
     clear j l
     obtain ⟨x,rfl⟩:∃x:World,x=u:=⟨_,rfl⟩
     have d:=g
     clear g
     have A:=au z d h
     have q1:=au v d h
     have C:b<x.heap.size:=by have:=d.size;omega
     go_wp2
     refine wbq ?_
     have j:=blq A
     have l:=blq q1
     repeat (go_big_quiet_step (fail))
     refine wpQuiet_nil ?_
     intro u g
     clear j l
     have a:=d.trans (g.mono d.size)
     clear A q1 d g
     have m:=D.out.trans (a.mono D.out.size)
     have g1:=au v a h
     have g2:=au F a h
     have K:u.frozen? ⟨b,1,none⟩=false:=by rw [a.frozen (p:=⟨b,1,none⟩) h];exact I
     have k2:u.frozen? ⟨b,2,none⟩=false:=by rw [a.frozen (p:=⟨b,2,none⟩) h];exact G
     have q:=ah m
     clear z v F I G a m T
     go_wp2
     go_roundw
     case rel =>
      have h7:128^(k+1)≤128^6:=Nat.pow_le_pow_right (by omega) (by omega)
      have h8:=ar.out
      refine ⟨k+1,N+p,by omega,by go_num,by go_num,QB (by rw [ab.out];push_cast;rfl),by omega,?_,h8,q.out⟩
      show bI r.left f 6 0 0=bI r.left f (6-(k+1)) (k+1) (N+p)
      rw [H.out,if_pos t,show 6-(k+1)=5-k from by omega]
     case measure=>simp [intOf];omega
    have aq:decide ((128:Int)≤X)=false:=decide_eq_false (by omega)
    by_cases J:X=0∧0<k
    ·have B:bI r.left f 6 0 0= .inl 2:=by rw [H.out,if_neg t,if_pos J]
     have E:=ah (Rd.jH r f 2 V.out B)
     have P:((X:Int)==0)=true:=by rw [beq_iff_eq];omega
     have Y:decide ((0:Int)<k)=true:=decide_eq_true (by omega)
     have az:0<k:=J.2
     clear J B t
     go_wp2
     refine wbq ?_
     have j:=blq z
     have l:=blq v
     repeat (go_big_quiet_step (fail))
     refine wpQuiet_nil ?_
     intro u g
     clear j l
     obtain ⟨x,rfl⟩:∃x:World,x=u:=⟨_,rfl⟩
     have d:=g
     clear g
     have A:=au z d h
     have q1:=au v d h
     have C:b<x.heap.size:=by have:=d.size;omega
     go_wp2
     refine wbq ?_
     have j:=blq A
     have l:=blq q1
     repeat (go_big_quiet_step (fail))
     refine wpQuiet_nil ?_
     intro u g
     clear j l
     have a:=d.trans (g.mono d.size)
     clear A q1 d g
     have m:=D.out.trans (a.mono D.out.size)
     have g1:=au v a h
     have g2:=au F a h
     have K:u.frozen? ⟨b,1,none⟩=false:=by rw [a.frozen (p:=⟨b,1,none⟩) h];exact I
     have k2:u.frozen? ⟨b,2,none⟩=false:=by rw [a.frozen (p:=⟨b,2,none⟩) h];exact G
     have q:=ah m
     clear z v F I G a m T
     go_wp2
     go_ret
     rw [E.out]
     exact ⟨rfl,((U.out.below q.out y).set 2 (by omega) (.int .i64 ((2:Nat):Int))).congr (Rd.jE r 2),aS (aC q.out _) _⟩
    by_cases R:X=0
    ·skip
     by_cases hA:1099511627775<N+p
     ·skip
      have B:bI r.left f 6 0 0= .inl 4:=by rw [H.out,if_neg t,if_neg J,if_pos (by omega)]
      have E:=ah (Rd.jH r f 4 V.out B)
      have P:((X:Int)==0)=true:=by rw [beq_iff_eq];omega
      have Y:decide ((0:Int)<k)=false:=decide_eq_false (by omega)
      have ai:decide (0<k)=false:=decide_eq_false (by omega)
      have S:decide ((1099511627775:Int)<(N:Int)+p)=true:=decide_eq_true (by omega)
      clear J B t R
      go_wp2
      refine wbq ?_
      have j:=blq z
      have l:=blq v
      repeat (go_big_quiet_step (fail))
      refine wpQuiet_nil ?_
      intro u g
      clear j l
      obtain ⟨x,rfl⟩:∃x:World,x=u:=⟨_,rfl⟩
      have d:=g
      clear g
      have A:=au z d h
      have q1:=au v d h
      have C:b<x.heap.size:=by have:=d.size;omega
      go_wp2
      refine wbq ?_
      have j:=blq A
      have l:=blq q1
      repeat (go_big_quiet_step (fail))
      refine wpQuiet_nil ?_
      intro u g
      clear j l
      have a:=d.trans (g.mono d.size)
      clear A q1 d g
      have m:=D.out.trans (a.mono D.out.size)
      have g1:=au v a h
      have g2:=au F a h
      have K:u.frozen? ⟨b,1,none⟩=false:=by rw [a.frozen (p:=⟨b,1,none⟩) h];exact I
      have k2:u.frozen? ⟨b,2,none⟩=false:=by rw [a.frozen (p:=⟨b,2,none⟩) h];exact G
      have q:=ah m
      clear z v F I G a m T
      go_wp2
      go_ret
      rw [E.out]
      exact ⟨rfl,((U.out.below q.out y).set 2 (by omega) (.int .i64 ((4:Nat):Int))).congr (Rd.jE r 4),aS (aC q.out _) _⟩
     by_cases hB:f<N+p
     ·skip
      have B:bI r.left f 6 0 0= .inl 4:=by rw [H.out,if_neg t,if_neg J,if_pos (by omega)]
      have E:=ah (Rd.jH r f 4 V.out B)
      have P:((X:Int)==0)=true:=by rw [beq_iff_eq];omega
      have Y:decide ((0:Int)<k)=false:=decide_eq_false (by omega)
      have ai:decide (0<k)=false:=decide_eq_false (by omega)
      have S:decide ((1099511627775:Int)<(N:Int)+p)=false:=decide_eq_false (by omega)
      have aa:decide ((f:Int)<(N:Int)+p)=true:=decide_eq_true (by omega)
      clear J B t R
      go_wp2
      refine wbq ?_
      have j:=blq z
      have l:=blq v
      repeat (go_big_quiet_step (fail))
      refine wpQuiet_nil ?_
      intro u g
      clear j l
      obtain ⟨x,rfl⟩:∃x:World,x=u:=⟨_,rfl⟩
      have d:=g
      clear g
      have A:=au z d h
      have q1:=au v d h
      have C:b<x.heap.size:=by have:=d.size;omega
      go_wp2
      refine wbq ?_
      have j:=blq A
      have l:=blq q1
      repeat (go_big_quiet_step (fail))
      refine wpQuiet_nil ?_
      intro u g
      clear j l
      have a:=d.trans (g.mono d.size)
      clear A q1 d g
      have m:=D.out.trans (a.mono D.out.size)
      have g1:=au v a h
      have g2:=au F a h
      have K:u.frozen? ⟨b,1,none⟩=false:=by rw [a.frozen (p:=⟨b,1,none⟩) h];exact I
      have k2:u.frozen? ⟨b,2,none⟩=false:=by rw [a.frozen (p:=⟨b,2,none⟩) h];exact G
      have q:=ah m
      clear z v F I G a m T
      go_wp2
      go_ret
      rw [E.out]
      exact ⟨rfl,((U.out.below q.out y).set 2 (by omega) (.int .i64 ((4:Nat):Int))).congr (Rd.jE r 4),aS (aC q.out _) _⟩
     skip
     have B:bI r.left f 6 0 0= .inr (N+p,k+1):=by rw [H.out,if_neg t,if_neg J,if_neg (by omega)]
     have E:=ah (Rd.FT r f (N+p,k+1) V.out B)
     have P:((X:Int)==0)=true:=by rw [beq_iff_eq];omega
     have Y:decide ((0:Int)<k)=false:=decide_eq_false (by omega)
     have ai:decide (0<k)=false:=decide_eq_false (by omega)
     have S:decide ((1099511627775:Int)<(N:Int)+p)=false:=decide_eq_false (by omega)
     have aa:decide ((f:Int)<(N:Int)+p)=false:=decide_eq_false (by omega)
     have am:IntKind.i64.wrap ((r.pos:Int)+k)=(r.pos:Int)+k:=IntWalk.i64_in _ (by omega)
     clear J B t R
     go_wp2
     refine wbq ?_
     have j:=blq z
     have l:=blq v
     repeat (go_big_quiet_step (fail))
     refine wpQuiet_nil ?_
     intro u g
     clear j l
     obtain ⟨x,rfl⟩:∃x:World,x=u:=⟨_,rfl⟩
     have d:=g
     clear g
     have A:=au z d h
     have q1:=au v d h
     have C:b<x.heap.size:=by have:=d.size;omega
     go_wp2
     refine wbq ?_
     have j:=blq A
     have l:=blq q1
     repeat (go_big_quiet_step (fail))
     refine wpQuiet_nil ?_
     intro u g
     clear j l
     have a:=d.trans (g.mono d.size)
     clear A q1 d g
     have m:=D.out.trans (a.mono D.out.size)
     have g1:=au v a h
     have g2:=au F a h
     have K:u.frozen? ⟨b,1,none⟩=false:=by rw [a.frozen (p:=⟨b,1,none⟩) h];exact I
     have k2:u.frozen? ⟨b,2,none⟩=false:=by rw [a.frozen (p:=⟨b,2,none⟩) h];exact G
     have q:=ah m
     clear z v F I G a m T
     go_wp2
     go_ret
     rw [E.out]
     exact ⟨nU (by push_cast;rfl),((U.out.below q.out y).set 1 (by omega) (.int .i64 ((r.pos+(k+1):Nat):Int))).congr (Rd.eY r _),aS (aC q.out _) _⟩
    skip
    by_cases hA:1099511627775<N+p
    ·skip
     have B:bI r.left f 6 0 0= .inl 4:=by rw [H.out,if_neg t,if_neg J,if_pos (by omega)]
     have E:=ah (Rd.jH r f 4 V.out B)
     have P:((X:Int)==0)=false:=by rw [beq_eq_false_iff_ne];omega
     have S:decide ((1099511627775:Int)<(N:Int)+p)=true:=decide_eq_true (by omega)
     clear J B t R
     go_wp2
     refine wbq ?_
     have j:=blq z
     have l:=blq v
     repeat (go_big_quiet_step (fail))
     refine wpQuiet_nil ?_
     intro u g
     clear j l
     obtain ⟨x,rfl⟩:∃x:World,x=u:=⟨_,rfl⟩
     have d:=g
     clear g
     have A:=au z d h
     have q1:=au v d h
     have C:b<x.heap.size:=by have:=d.size;omega
     go_wp2
     refine wbq ?_
     have j:=blq A
     have l:=blq q1
     repeat (go_big_quiet_step (fail))
     refine wpQuiet_nil ?_
     intro u g
     clear j l
     have a:=d.trans (g.mono d.size)
     clear A q1 d g
     have m:=D.out.trans (a.mono D.out.size)
     have g1:=au v a h
     have g2:=au F a h
     have K:u.frozen? ⟨b,1,none⟩=false:=by rw [a.frozen (p:=⟨b,1,none⟩) h];exact I
     have k2:u.frozen? ⟨b,2,none⟩=false:=by rw [a.frozen (p:=⟨b,2,none⟩) h];exact G
     have q:=ah m
     clear z v F I G a m T
     go_wp2
     go_ret
     rw [E.out]
     exact ⟨rfl,((U.out.below q.out y).set 2 (by omega) (.int .i64 ((4:Nat):Int))).congr (Rd.jE r 4),aS (aC q.out _) _⟩
    by_cases hB:f<N+p
    ·skip
     have B:bI r.left f 6 0 0= .inl 4:=by rw [H.out,if_neg t,if_neg J,if_pos (by omega)]
     have E:=ah (Rd.jH r f 4 V.out B)
     have P:((X:Int)==0)=false:=by rw [beq_eq_false_iff_ne];omega
     have S:decide ((1099511627775:Int)<(N:Int)+p)=false:=decide_eq_false (by omega)
     have aa:decide ((f:Int)<(N:Int)+p)=true:=decide_eq_true (by omega)
     clear J B t R
     go_wp2
     refine wbq ?_
     have j:=blq z
     have l:=blq v
     repeat (go_big_quiet_step (fail))
     refine wpQuiet_nil ?_
     intro u g
     clear j l
     obtain ⟨x,rfl⟩:∃x:World,x=u:=⟨_,rfl⟩
     have d:=g
     clear g
     have A:=au z d h
     have q1:=au v d h
     have C:b<x.heap.size:=by have:=d.size;omega
     go_wp2
     refine wbq ?_
     have j:=blq A
     have l:=blq q1
     repeat (go_big_quiet_step (fail))
     refine wpQuiet_nil ?_
     intro u g
     clear j l
     have a:=d.trans (g.mono d.size)
     clear A q1 d g
     have m:=D.out.trans (a.mono D.out.size)
     have g1:=au v a h
     have g2:=au F a h
     have K:u.frozen? ⟨b,1,none⟩=false:=by rw [a.frozen (p:=⟨b,1,none⟩) h];exact I
     have k2:u.frozen? ⟨b,2,none⟩=false:=by rw [a.frozen (p:=⟨b,2,none⟩) h];exact G
     have q:=ah m
     clear z v F I G a m T
     go_wp2
     go_ret
     rw [E.out]
     exact ⟨rfl,((U.out.below q.out y).set 2 (by omega) (.int .i64 ((4:Nat):Int))).congr (Rd.jE r 4),aS (aC q.out _) _⟩
    skip
    have B:bI r.left f 6 0 0= .inr (N+p,k+1):=by rw [H.out,if_neg t,if_neg J,if_neg (by omega)]
    have E:=ah (Rd.FT r f (N+p,k+1) V.out B)
    have P:((X:Int)==0)=false:=by rw [beq_eq_false_iff_ne];omega
    have S:decide ((1099511627775:Int)<(N:Int)+p)=false:=decide_eq_false (by omega)
    have aa:decide ((f:Int)<(N:Int)+p)=false:=decide_eq_false (by omega)
    have am:IntKind.i64.wrap ((r.pos:Int)+k)=(r.pos:Int)+k:=IntWalk.i64_in _ (by omega)
    clear J B t R
    go_wp2
    refine wbq ?_
    have j:=blq z
    have l:=blq v
    repeat (go_big_quiet_step (fail))
    refine wpQuiet_nil ?_
    intro u g
    clear j l
    obtain ⟨x,rfl⟩:∃x:World,x=u:=⟨_,rfl⟩
    have d:=g
    clear g
    have A:=au z d h
    have q1:=au v d h
    have C:b<x.heap.size:=by have:=d.size;omega
    go_wp2
    refine wbq ?_
    have j:=blq A
    have l:=blq q1
    repeat (go_big_quiet_step (fail))
    refine wpQuiet_nil ?_
    intro u g
    clear j l
    have a:=d.trans (g.mono d.size)
    clear A q1 d g
    have m:=D.out.trans (a.mono D.out.size)
    have g1:=au v a h
    have g2:=au F a h
    have K:u.frozen? ⟨b,1,none⟩=false:=by rw [a.frozen (p:=⟨b,1,none⟩) h];exact I
    have k2:u.frozen? ⟨b,2,none⟩=false:=by rw [a.frozen (p:=⟨b,2,none⟩) h];exact G
    have q:=ah m
    clear z v F I G a m T
    go_wp2
    go_ret
    rw [E.out]
    exact ⟨nU (by push_cast;rfl),((U.out.below q.out y).set 1 (by omega) (.int .i64 ((r.pos+(k+1):Nat):Int))).congr (Rd.eY r _),aS (aC q.out _) _⟩
   have al:decide (((r.s.size:Int))≤(r.pos:Int)+k)=true:=decide_eq_true (by omega)
   have B:bI r.left f (6-k) k N= .inl 3:=by
    have hl:r.left[k]? = none:=by rw [xU];simp;omega
    rw [show 6-k=(5-k)+1 from by omega];unfold bI;rw [hl]
   have E:=ah (Rd.jH r f 3 V.out (by rw [Q.out,B]))
   have D:=ah hb
   clear B Q W hb c0 c1 c2 f1 f2 ae
   generalize 128^k=o
   go_wp2
   refine wbq ?_
   have j:=blq z
   have l:=blq v
   repeat (go_big_quiet_step (fail))
   refine wpQuiet_nil ?_
   intro u g
   clear j l
   have m:=D.out.trans (g.mono D.out.size)
   have g2:=au F g h
   have k2:u.frozen? ⟨b,2,none⟩=false:=by rw [g.frozen (p:=⟨b,2,none⟩) h];exact G
   have q:=ah m
   clear z v F I G g m
   go_wp2
   go_ret
   rw [E.out]
   exact ⟨rfl,((U.out.below q.out y).set 2 (by omega) (.int .i64 ((3:Nat):Int))).congr (Rd.jE r 3),aS (aC q.out _) _⟩
  obtain rfl:k=6:=by omega
  have E:=ah (Rd.jH r f 4 V.out (by rw [Q.out];rfl))
  have D:=ah hb
  clear Q W hb c0 c1 c2 f1 f2
  generalize 128^6=o
  go_wp2
  go_ret
  rw [E.out]
  exact ⟨rfl,((U.out.below D.out y).set 2 (by omega) (.int .i64 ((4:Nat):Int))).congr (Rd.jE r 4),aS (aC D.out _) _⟩
 have an:((r.err:Int) != 0)=true:=by rw [bne_iff_ne];omega
 have E:Hid (r.num f=(r,0)):=by unfold Hid Rd.num;rw [if_pos h0]
 clear h0
 go_enter func140,ntmps140
 go_wp2
 go_ret
 rw [E.out]
 exact ⟨rfl,U.out,aC (Below.refl _ _) _⟩
def Rd.text (r:Rd) (a:Nat):Rd×ByteArray :=
 if r.err≠0 then (r,ByteArray.empty) else
  if ((r.num a).1.raw (r.num a).2).1.err≠0 then ({ ((r.num a).1.raw (r.num a).2).1 with pos:=r.pos },ByteArray.empty) else (r.num a).1.raw (r.num a).2
def Rd.fin (r:Rd):Nat:=if r.err≠0 then r.err else if r.pos<r.s.size then 5 else 0
theorem Rd.Hr (r:Rd) (a:Nat):(r.num a).1.s=r.s:=by
 unfold Rd.num
 split
 ·rfl
 split<;>rfl
theorem Rd.He (r:Rd) (n:Nat):(r.raw n).1.s=r.s:=by
 unfold Rd.raw
 split
 ·rfl
 split<;>rfl
theorem Rd.dI (r:Rd) (a:Nat) (h:r.fine):(r.text a).1.fine:=by
 have h1:=Rd.xB _ (r.num a).2 (Rd.cB r a h).1
 unfold Rd.text
 split
 ·exact h
 split
 ·exact ⟨by show r.pos≤((r.num a).1.raw (r.num a).2).1.s.size;rw [Rd.He,Rd.Hr];exact h.pos,h1.size,h1.err⟩
 exact h1
theorem Dq (b:Nat) (r:Rd) (w:World) (hA:Arr w b 3 r.c) (l:r.fine) :
  Calls prog 143 #[.pointer (some ⟨b,0,none⟩)] w fun e w'=>e= .returned (.int .i64 (r.fin:Int))∧Below w.heap.size w w':=by
 have n:b<w.heap.size:=hA.lt (by omega)
 have m:w.cell? ⟨b,0,none⟩=some (.string r.s):=hA.cell 0 (by omega)
 have c1:w.cell? ⟨b,1,none⟩=some (.int .i64 (r.pos:Int)):=hA.cell 1 (by omega)
 have c2:w.cell? ⟨b,2,none⟩=some (.int .i64 (r.err:Int)):=hA.cell 2 (by omega)
 have p:=l.size
 clear hA l
 by_cases h:r.err=0
 ·have k:((r.err:Int) != 0)=false:=by rw [bne_eq_false_iff_eq];omega
  by_cases a:r.pos<r.s.size
  ·have i:Hid (r.fin=5):=by unfold Hid Rd.fin;rw [if_neg (by simp [h]),if_pos a]
   have hd:decide (r.pos<r.s.size)=true:=decide_eq_true a
   have j:decide ((r.pos:Int)<r.s.size)=true:=decide_eq_true (by omega)
   clear h
   go_enter func143,ntmps143
   go_wp2
   refine wbq ?_
   have g:=blq m
   have d:=blq c1
   repeat (go_big_quiet_step (fail))
   refine wpQuiet_nil ?_
   intro o f
   clear g d
   go_wp2
   go_ret
   rw [i.out]
   exact ⟨rfl,f⟩
  have i:Hid (r.fin=0):=by unfold Hid Rd.fin;rw [if_neg (by simp [h]),if_neg a]
  have hd:decide (r.pos<r.s.size)=false:=decide_eq_false a
  have j:decide ((r.pos:Int)<r.s.size)=false:=decide_eq_false (by omega)
  clear h
  go_enter func143,ntmps143
  go_wp2
  refine wbq ?_
  have g:=blq m
  have d:=blq c1
  repeat (go_big_quiet_step (fail))
  refine wpQuiet_nil ?_
  intro o f
  clear g d
  go_wp2
  go_ret
  rw [i.out]
  exact ⟨rfl,f⟩
 have k:((r.err:Int) != 0)=true:=by rw [bne_iff_ne];omega
 have i:Hid (r.fin=r.err):=by unfold Hid Rd.fin;rw [if_pos h]
 clear h
 go_enter func143,ntmps143
 go_wp2
 go_ret
 rw [i.out]
 exact ⟨rfl,Below.refl _ _⟩
theorem Ab (b:Nat) (r:Rd) (a:Nat) (w:World) (hA:Arr w b 3 r.c) (t:r.fine) (H:a≤1000000000) :
  Calls prog 141 #[.pointer (some ⟨b,0,none⟩),.int .i64 (a:Int)] w fun e w'=>e= .returned (.string (r.text a).2)∧Arr w' b 3 (r.text a).1.c∧w.grownBy w' (some b):=by
 have c1:w.cell? ⟨b,1,none⟩=some (.int .i64 (r.pos:Int)):=hA.cell 1 (by omega)
 have c2:w.cell? ⟨b,2,none⟩=some (.int .i64 (r.err:Int)):=hA.cell 2 (by omega)
 by_cases v:r.err=0
 ·have C:((r.err:Int) != 0)=false:=by rw [bne_eq_false_iff_eq];omega
  have z:=ah (wZ b r a w hA t H)
  obtain ⟨g,p⟩:=Rd.cB r a t
  have i:Hid (r.text a=if ((r.num a).1.raw (r.num a).2).1.err≠0 then ({ ((r.num a).1.raw (r.num a).2).1 with pos:=r.pos },ByteArray.empty) else (r.num a).1.raw (r.num a).2):=by
   unfold Hid Rd.text;rw [if_neg (by simp [v])]
  generalize r.num a=x at z g p i
  obtain ⟨E,n⟩:=x
  have D:=ah g
  clear hA t v g
  dsimp only at z p i
  go_enter func141,ntmps141
  go_wp2_with fail
  refine z.out.mono ?_
  rintro e w1 ⟨rfl,j,l⟩
  have h:=ah (Dj b E n w1 j D.out (by omega))
  have B:=ah l
  generalize E.raw n=y at h i
  obtain ⟨f,s⟩:=y
  dsimp only at h i
  clear j l c1 c2
  go_wp2_with fail
  refine h.out.mono ?_
  rintro e F ⟨rfl,d,o⟩
  have m:=ah (eX B.out o)
  have J:F.cell? ⟨b,2,none⟩=some (.int .i64 (f.err:Int)):=d.cell 2 (by omega)
  have K:F.cell? ⟨b,1,none⟩=some (.int .i64 (f.pos:Int)):=d.cell 1 (by omega)
  have I:=d.free 1 (by omega)
  have k:=ah d
  clear d o
  by_cases u:f.err=0
  ·have A:((f.err:Int) != 0)=false:=by rw [bne_eq_false_iff_eq];omega
   have q:Hid (r.text a=(f,s)):=by unfold Hid;rw [i.out,if_neg (by simp [u])]
   clear u
   go_wp2
   go_ret
   rw [q.out]
   exact ⟨rfl,k.out,m.out⟩
  have A:((f.err:Int) != 0)=true:=by rw [bne_iff_ne];omega
  have q:Hid (r.text a=({ f with pos:=r.pos },ByteArray.empty)):=by unfold Hid;rw [i.out,if_pos u]
  clear u
  go_wp2
  go_ret
  rw [q.out]
  exact ⟨rfl,(k.out.set 1 (by omega) (.int .i64 (r.pos:Int))).congr (Rd.eY f _),aS m.out _⟩
 have C:((r.err:Int) != 0)=true:=by rw [bne_iff_ne];omega
 have q:Hid (r.text a=(r,ByteArray.empty)):=by unfold Hid Rd.text;rw [if_pos v]
 have G:=ah hA
 clear v hA t
 go_enter func141,ntmps141
 go_wp2
 go_ret
 rw [q.out]
 exact ⟨rfl,G.out,aC (Below.refl _ _) _⟩
theorem qx (b:Nat) (r:Rd) (w:World) (hA:Arr w b 3 r.c) :
  Calls prog 195 #[.pointer (some ⟨b,0,none⟩)] w fun e w'=>e= .returned (.int .i64 (r.err:Int))∧w'=w:=by
 have c2:w.cell? ⟨b,2,none⟩=some (.int .i64 (r.err:Int)):=hA.cell 2 (by omega)
 clear hA
 go_enter func195,ntmps195
 go_wp2
 go_ret
 exact ⟨rfl,rfl⟩
theorem vE (b:Nat) (r:Rd) (w:World) (hA:Arr w b 3 r.c) :
  Calls prog 133 #[.pointer (some ⟨b,0,none⟩)] w fun e w'=>e= .returned (.int .i64 (r.pos:Int))∧w'=w:=by
 have c1:w.cell? ⟨b,1,none⟩=some (.int .i64 (r.pos:Int)):=hA.cell 1 (by omega)
 clear hA
 go_enter func133,ntmps133
 go_wp2
 go_ret
 exact ⟨rfl,rfl⟩
def Rd.fail (r:Rd) (e p:Nat):Rd:=if r.err=0 then { r with err:=e,pos:=p } else r
theorem zP (b:Nat) (r:Rd) (e p:Nat) (w:World) (hA:Arr w b 3 r.c) :
  Calls prog 196 #[.pointer (some ⟨b,0,none⟩),.int .i64 (e:Int),.int .i64 (p:Int)] w fun x w'=>x= .returned (.tuple #[])∧Arr w' b 3 (r.fail e p).c∧w.grownBy w' (some b):=by
 have c1:w.cell? ⟨b,1,none⟩=some (.int .i64 (r.pos:Int)):=hA.cell 1 (by omega)
 have c2:w.cell? ⟨b,2,none⟩=some (.int .i64 (r.err:Int)):=hA.cell 2 (by omega)
 have h:=hA.free 1 (by omega)
 have i:=hA.free 2 (by omega)
 have g:=ah hA
 clear hA
 by_cases a:r.err=0
 ·have d:((r.err:Int)==0)=true:=by rw [beq_iff_eq];omega
  have f:Hid (r.fail e p= { r with err:=e,pos:=p }):=by unfold Hid Rd.fail;rw [if_pos a]
  clear a
  go_enter func196,ntmps196
  go_wp2
  go_end0
  rw [f.out]
  exact ⟨rfl,(((g.out.set 2 (by omega) (.int .i64 (e:Int))).congr (Rd.jE r e)).set 1 (by omega) (.int .i64 (p:Int))).congr (Rd.eY _ p),aS (aS (aC (Below.refl _ _) _) _) _⟩
 have d:((r.err:Int)==0)=false:=by rw [beq_eq_false_iff_ne];omega
 have f:Hid (r.fail e p=r):=by unfold Hid Rd.fail;rw [if_neg a]
 clear a
 go_enter func196,ntmps196
 go_wp2
 go_end0
 rw [f.out]
 exact ⟨rfl,g.out,aC (Below.refl _ _) _⟩
theorem Rd.Nk (r:Rd) (a:r.err=0):r.fail 3 r.pos= { r with err:=3 }:=by unfold Rd.fail;rw [if_pos a]
theorem vU (b:Nat) (r:Rd) (n:Nat) (w:World) (hA:Arr w b 3 r.c) (l:r.fine) (R:n≤1000000000) :
  Calls prog 200 #[.pointer (some ⟨b,0,none⟩),.int .i64 (n:Int)] w fun e w'=>e= .returned (.string (r.raw n).2)∧Arr w' b 3 (r.raw n).1.c∧w.grownBy w' (some b):=by
 have d:b<w.heap.size:=hA.lt (by omega)
 have q:w.cell? ⟨b,0,none⟩=some (.string r.s):=hA.cell 0 (by omega)
 have c1:w.cell? ⟨b,1,none⟩=some (.int .i64 (r.pos:Int)):=hA.cell 1 (by omega)
 have y:=hA.free 1 (by omega)
 have P:=l.pos
 have O:=l.size
 have N:decide ((n:Int)<0)=false:=decide_eq_false (by omega)
 have D:=ah hA
 have x:=ah (qx b r w hA)
 clear hA
 by_cases k:r.err=0
 ·have E:((r.err:Int) != 0)=false:=by rw [bne_eq_false_iff_eq];omega
  by_cases i:r.s.size-r.pos<n
  ·have v:Hid (r.raw n=(r.fail 3 r.pos,ByteArray.empty)):=by unfold Hid Rd.raw;rw [if_neg (by simp [k]),if_pos i,Rd.Nk r k]
   have hd:decide ((r.s.size:Int)-r.pos<n)=true:=decide_eq_true (by omega)
   have K:IntKind.i64.wrap ((r.s.size:Int)-r.pos)=(r.s.size:Int)-r.pos:=IntWalk.i64_in _ (by omega)
   have I:=ah k
   clear k i l
   go_enter func200,ntmps200
   go_wp2_with fail
   refine x.out.mono ?_
   rintro e w' ⟨rfl,rfl⟩
   go_wp2
   refine wbq ?_
   have h:=blq q
   have g:=blq c1
   repeat (go_big_quiet_step (fail))
   refine wpQuiet_nil ?_
   intro t a
   clear h g
   have g1:=au c1 a d
   have J:=ah (zP b r 3 r.pos t (D.out.below a d))
   have M:=ah a
   clear q c1 y a
   go_wp2_with fail
   refine J.out.mono ?_
   rintro e Q ⟨rfl,u,o⟩
   have z:=ah u
   have B:=ah (eX (aC M.out (some b)) o)
   clear u o
   go_wp2
   go_ret
   rw [v.out]
   exact ⟨rfl,z.out,B.out⟩
  have v:Hid (r.raw n=({ r with pos:=r.pos+n },r.s.extract r.pos (r.pos+n))):=by unfold Hid Rd.raw;rw [if_neg (by simp [k]),if_neg i]
  have hd:decide ((r.s.size:Int)-r.pos<n)=false:=decide_eq_false (by omega)
  have K:IntKind.i64.wrap ((r.s.size:Int)-r.pos)=(r.s.size:Int)-r.pos:=IntWalk.i64_in _ (by omega)
  have L:IntKind.i64.wrap ((r.pos:Int)+n)=(r.pos:Int)+n:=IntWalk.i64_in _ (by omega)
  have A:=fun w=>kZ r.s r.pos n (by omega) w
  have I:=ah k
  clear k i l
  go_enter func200,ntmps200
  go_wp2_with fail
  refine x.out.mono ?_
  rintro e w' ⟨rfl,rfl⟩
  go_wp2
  refine wbq ?_
  have h:=blq q
  have g:=blq c1
  repeat (go_big_quiet_step (fail))
  refine wpQuiet_nil ?_
  intro t a
  clear h g
  obtain ⟨C,rfl⟩:∃C:World,C=t:=⟨_,rfl⟩
  have f:=a
  clear a
  have F:=au q f d
  have G:=au c1 f d
  have H:b<C.heap.size:=by have:=f.size;omega
  go_wp2
  refine wbq ?_
  have h:=blq F
  have g:=blq G
  repeat (go_big_quiet_step (fail))
  refine wpQuiet_nil ?_
  intro t a
  clear h g
  have j:=f.trans (a.mono f.size)
  have g1:=au c1 j d
  have k1:t.frozen? ⟨b,1,none⟩=false:=by rw [j.frozen (p:=⟨b,1,none⟩) d];exact y
  have m:=ah j
  clear q c1 y F G f j a A
  go_wp2
  go_ret
  rw [v.out]
  exact ⟨rfl,((D.out.below m.out d).set 1 (by omega) (.int .i64 ((r.pos+n:Nat):Int))).congr (Rd.eY r _),aS (aC m.out _) _⟩
 have E:((r.err:Int) != 0)=true:=by rw [bne_iff_ne];omega
 have v:Hid (r.raw n=(r,ByteArray.empty)):=by unfold Hid Rd.raw;rw [if_pos k]
 clear k l
 go_enter func200,ntmps200
 go_wp2_with fail
 refine x.out.mono ?_
 rintro e w' ⟨rfl,rfl⟩
 go_wp2
 go_ret
 rw [v.out]
 exact ⟨rfl,D.out,aC (Below.refl _ _) _⟩
theorem jL (b:Nat) (r:Rd) (w:World) (hA:Arr w b 3 r.c) (m:r.fine) :
  Calls prog 132 #[.pointer (some ⟨b,0,none⟩)] w fun e w'=>e= .returned (.int .i64 (r.fin:Int))∧Below w.heap.size w w':=by
 have o:b<w.heap.size:=hA.lt (by omega)
 have n:w.cell? ⟨b,0,none⟩=some (.string r.s):=hA.cell 0 (by omega)
 have c1:w.cell? ⟨b,1,none⟩=some (.int .i64 (r.pos:Int)):=hA.cell 1 (by omega)
 have q:=m.size
 have l:=ah (qx b r w hA)
 clear hA m
 by_cases h:r.err=0
 ·have k:((r.err:Int) != 0)=false:=by rw [bne_eq_false_iff_eq];omega
  by_cases a:r.pos<r.s.size
  ·have i:Hid (r.fin=5):=by unfold Hid Rd.fin;rw [if_neg (by simp [h]),if_pos a]
   have hd:decide (r.pos<r.s.size)=true:=decide_eq_true a
   have j:decide ((r.pos:Int)<r.s.size)=true:=decide_eq_true (by omega)
   clear h
   go_enter func132,ntmps132
   go_wp2_with fail
   refine l.out.mono ?_
   rintro e w' ⟨rfl,rfl⟩
   go_wp2
   refine wbq ?_
   have g:=blq n
   have d:=blq c1
   repeat (go_big_quiet_step (fail))
   refine wpQuiet_nil ?_
   intro p f
   clear g d
   go_wp2
   go_ret
   rw [i.out]
   exact ⟨rfl,f⟩
  have i:Hid (r.fin=0):=by unfold Hid Rd.fin;rw [if_neg (by simp [h]),if_neg a]
  have hd:decide (r.pos<r.s.size)=false:=decide_eq_false a
  have j:decide ((r.pos:Int)<r.s.size)=false:=decide_eq_false (by omega)
  clear h
  go_enter func132,ntmps132
  go_wp2_with fail
  refine l.out.mono ?_
  rintro e w' ⟨rfl,rfl⟩
  go_wp2
  refine wbq ?_
  have g:=blq n
  have d:=blq c1
  repeat (go_big_quiet_step (fail))
  refine wpQuiet_nil ?_
  intro p f
  clear g d
  go_wp2
  go_ret
  rw [i.out]
  exact ⟨rfl,f⟩
 have k:((r.err:Int) != 0)=true:=by rw [bne_iff_ne];omega
 have i:Hid (r.fin=r.err):=by unfold Hid Rd.fin;rw [if_pos h]
 clear h
 go_enter func132,ntmps132
 go_wp2_with fail
 refine l.out.mono ?_
 rintro e w' ⟨rfl,rfl⟩
 go_wp2
 go_ret
 rw [i.out]
 exact ⟨rfl,Below.refl _ _⟩
theorem nK {w f w1 g:World} {b:Nat} (a:Below w.heap.size w f) (d:f.grownBy w1 (some b)) (hb:Below w.heap.size w1 g):w.grownBy g (some b) :=
 ⟨by rw [hb.os,d.os,a.os],by rw [hb.tape,d.tape,a.tape],by rw [hb.output,d.output,a.output],by have:=a.size;have:=d.size;have:=hb.size;omega,
  fun k h e=>by rw [hb.block k h,d.block k (by have:=a.size;omega) e,a.block k h]⟩
theorem Arr.grown {w w':World} {b n B:Nat} {c:Nat→Value} (h:Arr w b n c) (f:w.grownBy w' (some B)) (d:b≠B):Arr w' b n c :=
 ⟨fun k e=>f.cell (h.cell k e) (by simpa using d),fun k e=>by
  rw [World.frozen?_of_block (w:=w) (a:=⟨b,k,none⟩) (f.block b (h.lt (by omega)) (by simpa using d))];exact h.free k e⟩
def mP (s:ByteArray):List UInt8:=(List.range 32).map (blk s)
def Rd.id (r:Rd):Rd×List UInt8:=((r.raw 32).1,mP (r.raw 32).2)
theorem fE (s:ByteArray):(mP s).length=32:=by simp [mP]
theorem Rd.nA (r:Rd) (n:Nat):(r.raw n).2.size≤n:=by
 unfold Rd.raw
 split
 ·exact Nat.zero_le _
 split
 ·exact Nat.zero_le _
 show (r.s.extract r.pos (r.pos+n)).size≤n
 rw [ByteArray.size_extract];omega
def idB (s:ByteArray) (n k:Nat):Value:=if k<n then .int .u8 ((blk s k).toNat:Int) else .int .u8 0
theorem M4 (s:ByteArray):idB s 0=fun _=> .int .u8 0:=by funext k;unfold idB;rw [if_neg (by omega)]
theorem M5 (s:ByteArray) (n k:Nat):upd (idB s n) n (.int .u8 ((blk s n).toNat:Int)) k=idB s (n+1) k:=by
 unfold upd idB
 by_cases e:k=n
 ·subst e;rw [if_pos rfl,if_pos (by omega)]
 rw [if_neg e]
 by_cases h:k<n
 ·rw [if_pos h,if_pos (by omega)]
 rw [if_neg h,if_neg (by omega)]
theorem Ia (s:ByteArray) (k:Nat):idB s s.size k= .int .u8 ((blk s k).toNat:Int):=by
 unfold idB
 by_cases h:k<s.size
 ·rw [if_pos h]
 rw [if_neg h]
 have e:blk s k=0:=by unfold blk;rw [List.getD_eq_getElem?_getD,List.getElem?_eq_none (by simpa using h)];rfl
 rw [e];rfl
theorem Cg (x:List UInt8):∀v∈x.map (fun b=>Value.int .u8 (b.toNat:Int)),v.oneCell'=true:=by
 intro v a;obtain ⟨x,_,rfl⟩:=List.mem_map.1 a;rfl
theorem BD (b:Nat) (r:Rd) (w:World) (hA:Arr w b 3 r.c) (Q:r.fine) :
  Calls prog 142 #[.pointer (some ⟨b,0,none⟩)] w fun e w'=>e= .returned (idV r.id.2)∧Arr w' b 3 r.id.1.c∧w.grownBy w' (some b):=by
 have L:b<w.heap.size:=hA.lt (by omega)
 have P:=ah (Dj b r 32 (w.alloc (.cells (Array.replicate 32 (.int .u8 0)) 42)) (hA.alloc (by omega) _) Q (by omega))
 have R:=Rd.nA r 32
 have z:Hid (idV r.id.2= .agg ((mP (r.raw 32).2).map fun b=>Value.int .u8 (b.toNat:Int)).toArray):=ah rfl
 have K:Hid (r.id.1=(r.raw 32).1):=ah rfl
 have S:=Arr.new w 32 (.int .u8 0) 42
 have U:=ah S
 generalize r.raw 32=x at P R z K
 obtain ⟨Z,s⟩:=x
 dsimp only at P R z K
 clear hA Q S
 go_enter func142,ntmps142
 go_wp2_with fail
 refine P.out.mono ?_
 rintro e w1 ⟨rfl,n,j⟩
 have D:=ah n
 have E:=ah j
 have t:=ah (U.out.grown j (by omega))
 have p:Hid (Arr (w1.alloc (.cells (Array.replicate 32 (.int .u8 0)) 42)) w1.heap.size 32 (idB s 0)):=by rw [M4];exact ah (Arr.new w1 32 _ _)
 have J:w.heap.size<w1.heap.size:=t.out.lt (by omega)
 clear n j
 go_wp2
 go_loopw [5] (fun i wr=> ∃k:Nat,k≤s.size∧i= .int .i64 k∧Arr wr w1.heap.size 32 (idB s k)∧Below w1.heap.size w1 wr) (fun i _=>(s.size-intOf i).toNat)
 case atStart=>exact ⟨0,by omega,rfl,p.out,bal⟩
 obtain ⟨v,rfl⟩:∃v:World,v=wr:=⟨_,rfl⟩
 obtain ⟨k,X,rfl,m,hb⟩:=hrel
 clear p
 by_cases A:k<s.size
 ·have HI:∀w,(Instr.index 9 (.string s) (.int .i64 (k:Int))).run prog w= .ok (.int .u8 ((blk s k).toNat:Int)) w:=fun w=>by rw [dV s w k A,oI]
  have c1:=m.cell k (by omega)
  have Y:=m.free k (by omega)
  have I:=ah m
  have V:=ah hb
  have W:(0:Int)≤k:=by omega
  have k1:(k:Int)<32:=by omega
  have hd:decide ((k:Int)<s.size)=true:=decide_eq_true (by omega)
  clear m hb
  go_wp2
  go_roundw
  case rel=>exact ⟨k+1,by omega,by go_num,(I.out.set k (by omega) (.int .u8 ((blk s k).toNat:Int))).congr (fun q _=>M5 s k q),V.out.setCell (Nat.le_refl _) _⟩
  case measure=>simp [intOf];omega
 obtain rfl:k=s.size:=by omega
 have hd:decide ((s.size:Int)<s.size)=false:=decide_eq_false (by omega)
 have G:=m.range
 have T:(List.range 32).map (idB s s.size)=(mP s).map fun b=>Value.int .u8 (b.toNat:Int):=by
  unfold mP;rw [List.map_map]
  exact List.map_congr_left fun k _=>Ia s k
 rw [T] at G
 have u:Arr v w.heap.size 32 (fun _=> .int .u8 0):=t.out.below hb J
 have d:((mP s).map fun b=>Value.int .u8 (b.toNat:Int)).length=32:=by rw [D9];exact fE s
 have f:=Cg (mP s)
 generalize (mP s).map (fun b=>Value.int .u8 (b.toNat:Int))=us at G d f z
 have y:(prog.info? 42).map (·.size)=some 32:=by kernel_rfl
 have g:(prog.info? 42).map (·.size)=some us.length:=by rw [d];exact y
 have h:=u.there
 have C:=ah (World.rangeAt_setCells_same v w.heap.size 0 us (by rw [d];exact h))
 have F:=ah h
 have M:=ah d
 have N:=ah f
 have O:=ah (below_setCells (B:=w.heap.size) (a:=w1) w.heap.size (Nat.le_refl _) us 0 v (hb.mono (by omega)))
 have l:=O.out
 have o:=ah (nK bal E.out l)
 have H:=ah (D.out.below l L)
 clear m hb T h d f u l
 go_wp2_with (first|(refine wpList_load_mid rfl 42 _ rfl w1.heap.size 0 rfl us _ G underlying42 rfl g ?_)|(refine aj rfl 42 _ _ rfl w.heap.size 0 us ?y1 ?y2 32 M.out ?y4 y N.out ?_))
 try case y1=>rfl
 try case y2=>rfl
 case y4=>exact F.out
 simp only [Act.put]
 refine bK rfl w.heap.size 0 rfl us _ C.out underlying42 rfl g rfl ⟨by rw [z.out],by rw [K.out];exact H.out,o.out⟩
def eB (c:ByteArray):Nat→Nat→W32
 | 0=>jf
 | n+1=>dK (eB c n) (blk (c.extract (64*n) (64*n+64)))
def sI (s:ByteArray):Nat→W32:=eB (ofB (jZ s.data.toList)) ((jZ s.data.toList).length/64)
def wQ (s:ByteArray):List UInt8:=(List.range 32).map (stB (sI s))
theorem D7 (l:List UInt8):∃n,(jZ l).length=64*n:=by
 have h:(jZ l).length=l.length+1+mO ((l.length+1)%64)+8:=by
  unfold jZ iR;simp;omega
 refine ⟨(jZ l).length/64,?_⟩
 rw [h];unfold mO;omega
theorem OJ (l:List UInt8):(jZ l).length≤l.length+73:=by
 have h:(jZ l).length=l.length+1+mO ((l.length+1)%64)+8:=by
  unfold jZ iR;simp;omega
 rw [h];unfold mO;omega
def vk (st:Nat→W32) (n k:Nat):Value:=if k<n then .int .u8 ((stB st k).toNat:Int) else .int .u8 0
theorem Jz (st:Nat→W32):vk st 0=fun _=> .int .u8 0:=by funext k;unfold vk;rw [if_neg (by omega)]
theorem JA (st:Nat→W32) (n k:Nat):upd (vk st n) n (.int .u8 ((stB st n).toNat:Int)) k=vk st (n+1) k:=by
 unfold upd vk
 by_cases e:k=n
 ·subst e;rw [if_pos rfl,if_pos (by omega)]
 rw [if_neg e]
 by_cases h:k<n
 ·rw [if_pos h,if_pos (by omega)]
 rw [if_neg h,if_neg (by omega)]
theorem Ja (o:ByteArray) (m:Nat) (h:m+64≤o.size) (w:World):(Instr.slice 9 (.string o) (some (.int .i64 (m:Int))) (some (.int .i64 ((m:Int)+64))) none).run prog w= .ok (.string (o.extract m (m+64))) w:=by
 have h1:(0:Int)≤m:=by omega
 have e:(m:Int)≤m+64:=by omega
 have d:(m:Int)+64≤o.size:=by omega
 have a:((m:Int)+64).toNat=m+64:=by omega
 have b:(0:Int)≤m+64:=by omega
 simp [Instr.slice,run_underlying underlying9,Instr.sliceBounds,Instr.sliceBound,asIntOf,d,a,b]
theorem LW (s:ByteArray) (w:World) (hz:s.size≤1000000) :
  Calls prog 82 #[.string s] w fun e w'=>e= .returned (idV (wQ s))∧Below w.heap.size w w':=by
 have HL:=ah (fun w=>xS s w (by omega))
 obtain ⟨N,hN⟩:=D7 s.data.toList
 have O:=OJ s.data.toList
 rw [hN] at O
 have Z:s.data.toList.length=s.size:=by simp
 rw [Z] at O
 have K:(ofB (jZ s.data.toList)).size=64*N:=by rw [aR,hN]
 have hR:sI s=eB (ofB (jZ s.data.toList)) N:=by unfold sI;rw [hN,Nat.mul_div_cancel_left _ (by omega)]
 have HF:Hid (idV (wQ s)=idV ((List.range 32).map (stB (sI s)))):=ah rfl
 rw [hR] at HF
 generalize ofB (jZ s.data.toList)=o at HL K HF
 have l:=ah K
 clear hN Z hR K
 have ac:=Arr.new w 32 (.int .u8 0) 42
 have U:=ah ac
 clear ac
 go_enter func82,ntmps82
 go_wp2_with fail
 refine (HL.out _).mono ?_
 rintro e w1 ⟨rfl,f⟩
 have G:=U.out.below f (by simp)
 have E:Below w.heap.size w w1:=((Below.refl _ _).alloc (Nat.le_refl _) (.cells (Array.replicate 32 (.int .u8 0)) 42)).trans (f.mono (by simp))
 have a8:w.heap.size<w1.heap.size:=G.lt (by omega)
 have am:=ah G
 have a1:=ah E
 clear G E f HL U
 have T:Arr (w1.alloc (.cells #[.int .u32 1779033703,.int .u32 3144134277,.int .u32 1013904242,.int .u32 2773480762,.int .u32 1359893119,.int .u32 2600822924,.int .u32 528734635,.int .u32 1541459225] 226)) w1.heap.size 8 (bE (eB o 0)):=Arr.eight w1 jf 226
 have ab:=ah T
 clear T
 go_wp2
 go_loopw [5] (fun i wr=> ∃n:Nat,n≤N∧i= .int .i64 (64*n:Nat)∧Arr wr w1.heap.size 8 (bE (eB o n))∧Below w1.heap.size w1 wr) (fun i _=>(64*N-intOf i).toNat)
 case atStart=>exact ⟨0,by omega,rfl,ab.out,bal⟩
 obtain ⟨r,rfl⟩:∃r:World,r=wr:=⟨_,rfl⟩
 obtain ⟨n,hn,rfl,hS,hb⟩:=hrel
 clear ab
 generalize hm:64*n=m
 by_cases bd:n<N
 ·have c0:=hS.cell 0 (by omega)
  have c1:=hS.cell 1 (by omega)
  have c2:=hS.cell 2 (by omega)
  have c3:=hS.cell 3 (by omega)
  have c4:=hS.cell 4 (by omega)
  have c5:=hS.cell 5 (by omega)
  have c6:=hS.cell 6 (by omega)
  have c7:=hS.cell 7 (by omega)
  unfold bE at c0 c1 c2 c3 c4 c5 c6 c7
  have ad:w1.heap.size<r.heap.size:=hS.lt (by omega)
  have m0:(0:Int)≤m:=by omega
  have m1:(m:Int)+64≤o.size:=by have:=l.out;omega
  have m2:(m:Int)<o.size:=by have:=l.out;omega
  have m3:(o.size:Int)≤1000100:=by have:=l.out;omega
  have hd:decide ((m:Int)<o.size)=true:=decide_eq_true m2
  have af:decide (m<o.size)=true:=decide_eq_true (by omega)
  have t:∀w,Calls prog 149 #[stV (eB o n),.string (o.extract m (m+64))] w fun e w'=>e= .returned (stV (dK (eB o n) (blk (o.extract m (m+64)))))∧Below w.heap.size w w' :=
   fun w=>KQ _ _ w (by rw [ByteArray.size_extract];omega)
  have J:Hid (eB o (n+1)=dK (eB o n) (blk (o.extract m (m+64)))):=by rw [←hm];exact ah rfl
  generalize eB o n=X at hS c0 c1 c2 c3 c4 c5 c6 c7 t J
  generalize hY:dK X (blk (o.extract m (m+64)))=Y at t J
  have u:=hS.there
  have aw:=ah hS
  have y:=ah hb
  clear hS hb hY
  unfold stV at t
  have ag:=fun w=>Ja o m (by have:=l.out;omega) w
  go_wp2
  refine bg 7 (by kernel_rfl) (by kernel_rfl) ?_
  simp only [List.take_succ_cons,List.take_zero,List.drop_succ_cons,List.drop_zero]
  have an:=blq c0
  have a0:=blq c1
  have ax:=blq c2
  have aq:=blq c3
  have a6:=blq c4
  have ar:=blq c5
  have a9:=blq c6
  have a7:=blq c7
  repeat (go_big_quiet_step ((go_at_call 149;with_reducible exact aA (t _))))
  refine wpQuiet_nil ?_
  intro wq R
  clear an a0 ax aq a6 ar a9 a7
  have I:=aw.out.below R ad
  have F:=I.there
  have V:=I.Bw [.int .u32 (wn (Y 0)),.int .u32 (wn (Y 1)),.int .u32 (wn (Y 2)),.int .u32 (wn (Y 3)),.int .u32 (wn (Y 4)),.int .u32 (wn (Y 5)),.int .u32 (wn (Y 6)),.int .u32 (wn (Y 7))] rfl
  have h8:(prog.info? 226).map (·.size)=some 8:=by kernel_rfl
  have aa:=below_setCells (B:=w1.heap.size) (a:=w1) w1.heap.size (Nat.le_refl _) [.int .u32 (wn (Y 0)),.int .u32 (wn (Y 1)),.int .u32 (wn (Y 2)),.int .u32 (wn (Y 3)),.int .u32 (wn (Y 4)),.int .u32 (wn (Y 5)),.int .u32 (wn (Y 6)),.int .u32 (wn (Y 7))] 0 wq (y.out.trans (R.mono y.out.size))
  have H:=ah F
  have ao:=ah V
  have al:=ah aa
  clear I F V aa u c0 c1 c2 c3 c4 c5 c6 c7 t ag
  refine aj rfl 226 _ _ rfl w1.heap.size 0 [.int .u32 (wn (Y 0)),.int .u32 (wn (Y 1)),.int .u32 (wn (Y 2)),.int .u32 (wn (Y 3)),.int .u32 (wn (Y 4)),.int .u32 (wn (Y 5)),.int .u32 (wn (Y 6)),.int .u32 (wn (Y 7))] ?z1 ?z2 8 ?z4 ?z5 ?z6 ?z3 ?_
  case z1=>rfl
  case z2=>rfl
  case z3=>simp [Value.oneCell']
  case z4=>rfl
  case z5=>exact H.out
  case z6=>exact h8
  simp only [Act.put]
  go_wp2
  go_roundw
  case rel =>
   refine ⟨n+1,by omega,by rw [←hm];go_num,ao.out.congr fun k hk=> ?_,al.out⟩
   rw [J.out]
   unfold bE
   obtain h|h|h|h|h|h|h|h:k=0∨k=1∨k=2∨k=3∨k=4∨k=5∨k=6∨k=7:=by omega
   all_goals subst h;rfl
  case measure=>simp [intOf];omega
 obtain rfl:n=N:=by omega
 have hd:decide ((m:Int)<o.size)=false:=decide_eq_false (by have:=l.out;omega)
 have af:decide (m<o.size)=false:=decide_eq_false (by have:=l.out;omega)
 have ad:w1.heap.size<r.heap.size:=hS.lt (by omega)
 generalize eB o n=X at hS HF
 have P:Arr (r.alloc (.cells (Array.replicate 32 (.int .u8 0)) 42)) r.heap.size 32 (vk X 0):=by rw [Jz];exact Arr.new r 32 _ _
 have M:Arr (r.alloc (.cells (Array.replicate 32 (.int .u8 0)) 42)) w1.heap.size 8 (bE X):=hS.alloc (by omega) _
 have ai:=ah P
 have a4:=ah M
 have y:=ah hb
 have bf:=ah hm
 clear P M hS hb
 go_wp2
 go_loopw [7] (fun i wr=> ∃k:Nat,k≤32∧i= .int .i64 k∧Arr wr r.heap.size 32 (vk X k)∧Arr wr w1.heap.size 8 (bE X)∧Below r.heap.size r wr) (fun i _=>(32-intOf i).toNat)
 case atStart=>exact ⟨0,by omega,rfl,ai.out,a4.out,bal⟩
 obtain ⟨wi,rfl⟩:∃wi:World,wi=wr:=⟨_,rfl⟩
 obtain ⟨k,hk,rfl,p,A,g⟩:=hrel
 by_cases bb:k<32
 ·have c1:=A.cell (k/4) (by omega)
  unfold bE at c1
  have c2:=p.cell k (by omega)
  have f2:=p.free k (by omega)
  have e2:vk X k k= .int .u8 0:=by unfold vk;rw [if_neg (by omega)]
  rw [e2] at c2
  obtain ⟨j,hj⟩:∃j:Nat,(24:Int)-8*((k:Int)%4)=(j:Int):=⟨((24:Int)-8*((k:Int)%4)).toNat,by omega⟩
  have S:j=24-8*(k%4):=by omega
  have HV:Hid (((stB X k).toNat:Int)=wn (X (k/4))/2^j%256):=by
   unfold Hid stB wn;rw [GX,←S];push_cast;rfl
  have k0:(0:Int)≤k:=by omega
  have k1:(k:Int)<32:=by omega
  have k2:((k:Int)/4).toNat=k/4:=by omega
  have k3:(0:Int)≤(k:Int)/4:=by omega
  have k4:(k:Int)/4<8:=by omega
  have j0:(0:Int)≤j:=by omega
  have j1:(j:Int)≤24:=by omega
  have be:decide ((k:Int)<32)=true:=decide_eq_true (by omega)
  have x0:=sD (X (k/4))
  have az:=ah p
  have ap:=ah A
  have a2:=ah g
  have bc:=g.size
  clear p A g e2 S
  go_wp2
  go_roundw
  case rel =>
   have hx:=az.out.set k (by omega) (.int .u8 ((stB X k).toNat:Int))
   rw [HV.out] at hx
   exact ⟨k+1,by omega,by go_num,hx.congr (fun q _=>by rw [←HV.out];exact JA X k q),ap.out.far (by show r.heap.size≠w1.heap.size;omega) _,a2.out.setCell (Nat.le_refl _) _⟩
  case measure=>simp [intOf];omega
 obtain rfl:k=32:=by omega
 have hr:=p.range
 have e8:(List.range 32).map (vk X 32)=((List.range 32).map (stB X)).map fun b=>Value.int .u8 (b.toNat:Int):=by
  rw [List.map_map]
  refine List.map_congr_left fun k hk=> ?_
  have:=List.mem_range.1 hk
  show vk X 32 k=_
  unfold vk;rw [if_pos (by omega)];rfl
 rw [e8] at hr
 have Q:Arr wi w.heap.size 32 (fun _=> .int .u8 0):=(am.out.below y.out a8).below g (by omega)
 have d:(((List.range 32).map (stB X)).map fun b=>Value.int .u8 (b.toNat:Int)).length=32:=by simp
 have z:∀v∈((List.range 32).map (stB X)).map (fun b=>Value.int .u8 (b.toNat:Int)),v.oneCell'=true:=by
  intro v hv;obtain ⟨x,_,rfl⟩:=List.mem_map.1 hv;rfl
 have D:idV (wQ s)= .agg (((List.range 32).map (stB X)).map fun b=>Value.int .u8 (b.toNat:Int)).toArray:=by rw [HF.out];rfl
 have W:=ah D
 generalize ((List.range 32).map (stB X)).map (fun b=>Value.int .u8 (b.toNat:Int))=us at hr d z W
 have ae:(prog.info? 42).map (·.size)=some 32:=by kernel_rfl
 have C:(prog.info? 42).map (·.size)=some us.length:=by rw [d];exact ae
 have u:=Q.there
 have aE:=ah (World.rangeAt_setCells_same wi w.heap.size 0 us (by rw [d];exact u))
 have H:=ah u
 have a3:=ah d
 have a5:=ah z
 have f:=a1.out
 have L:=f.trans (y.out.mono f.size)
 have ba:=ah (below_setCells (B:=w.heap.size) (a:=w) w.heap.size (Nat.le_refl _) us 0 wi (L.trans (g.mono L.size)))
 clear p A g e8 D u d z Q f L
 go_wp2_with (first|(refine wpList_load_mid rfl 42 _ rfl r.heap.size 0 rfl us _ hr underlying42 rfl C ?_)|(refine aj rfl 42 _ _ rfl w.heap.size 0 us ?y1 ?y2 32 a3.out ?y4 ae a5.out ?_))
 try case y1=>rfl
 try case y2=>rfl
 case y4=>exact H.out
 simp only [Act.put]
 refine bK rfl w.heap.size 0 rfl us _ aE.out underlying42 rfl C rfl ⟨by rw [W.out],ba.out⟩
end
section
theorem qw {r q:Nat→UInt8} (h:∀k,k<64→r k=q k) (i:Nat) (hi:i<16):∀j,j≤4→eD r i j=eD q i j
 | 0,_=>rfl
 | j+1,hj=>by
  unfold eD
  rw [qw h i hi j (by omega),h _ (by omega)]
theorem tY {r q:Nat→UInt8} (h:∀k,k<64→r k=q k):∀n,aT r n=aT q n
 | 0=>by
  funext k;unfold aT gH
  by_cases a:k<16
  ·rw [if_pos a,if_pos a,qw h k a 4 (by omega)]
  rw [if_neg a,if_neg a];split<;>rfl
 | n+1=>by unfold aT;rw [tY h n]
theorem uM (s:Nat→W32) {r q:Nat→UInt8} (h:∀k,k<64→r k=q k):dK s r=dK s q:=by
 funext k;unfold dK;rw [tY h]
theorem AQ (h:HS) (hm:h.many=0) (c:List UInt8) (f:c.length=64):∀j,j≤63 →
  (h.feed (c.take j)).many=j∧(h.feed (c.take j)).st=h.st∧ ∀k,k<j→(h.feed (c.take j)).rest k=c.getD k 0
 | 0,_=>⟨hm,rfl,fun k i=>by omega⟩
 | j+1,hj=>by
  obtain ⟨h1,a,d⟩:=AQ h hm c f j (by omega)
  have e:c.take (j+1)=c.take j++[c.getD j 0]:=by
   rw [List.take_succ_eq_append_getElem (by omega)];congr 1;simp [show j<c.length from by omega]
  rw [e,nL]
  generalize h.feed (c.take j)=g at h1 a d
  unfold HS.put
  rw [h1,if_neg (by omega)]
  refine ⟨rfl,a,fun k i=> ?_⟩
  show upd g.rest j _ k=_
  unfold upd
  by_cases b:k=j
  ·subst b;rw [if_pos rfl]
  rw [if_neg b];exact d k (by omega)
theorem Gq (h:HS) (hm:h.many=0) (c:List UInt8) (f:c.length=64) :
  (h.feed c).many=0∧(h.feed c).st=dK h.st (fun k=>c.getD k 0):=by
 obtain ⟨h1,a,d⟩:=AQ h hm c f 63 (by omega)
 have e:c=c.take 63++[c.getD 63 0]:=by
  have t:=List.take_succ_eq_append_getElem (l:=c) (i:=63) (by omega)
  have j:c.take (63+1)=c:=List.take_of_length_le (by omega)
  have g:c.getD 63 0=c[63]:=by simp [show 63<c.length from by omega]
  rw [g];rw [j] at t;exact t
 have m:h.feed c=(h.feed (c.take 63)).put (c.getD 63 0):=by rw [←nL,←e]
 rw [m]
 generalize h.feed (c.take 63)=g at h1 a d
 unfold HS.put
 rw [h1,if_pos (by omega)]
 refine ⟨rfl,?_⟩
 show dK g.st _=_
 rw [a]
 refine uM _ fun k n=> ?_
 unfold upd
 by_cases b:k=63
 ·subst b;rw [if_pos rfl]
 rw [if_neg b];exact d k (by omega)
theorem uH (h:HS) (hm:h.many=0) (a:h.st=jf) (L:List UInt8) (N:Nat) (d:L.length=64*N):∀n,n≤N →
  (h.feed (L.take (64*n))).many=0∧(h.feed (L.take (64*n))).st=eB (ofB L) n
 | 0,_=>⟨hm,a⟩
 | n+1,hn=>by
  obtain ⟨h1,b⟩:=uH h hm a L N d n (by omega)
  have e:L.take (64*(n+1))=L.take (64*n)++(L.drop (64*n)).take 64:=by
   rw [show 64*(n+1)=64*n+64 from by omega,List.take_add]
  rw [e,rz]
  obtain ⟨g,f⟩:=Gq (h.feed (L.take (64*n))) h1 ((L.drop (64*n)).take 64) (by rw [List.length_take,List.length_drop];omega)
  refine ⟨g,?_⟩
  rw [f,b]
  show _=dK (eB (ofB L) n) (blk ((ofB L).extract (64*n) (64*n+64)))
  refine uM _ fun k i=> ?_
  unfold blk
  rw [Lib.extract_data,bq,show 64*n+64-64*n=64 from by omega]
def HS.noT (h:HS):HS:={ h with taken:=0 }
theorem Mr (h:HS):h.noT.st=h.st:=rfl
theorem BP (h:HS) (x:UInt8):(h.put x).noT=h.noT.put x:=by unfold HS.put HS.noT;dsimp only;split<;>rfl
theorem ru (l:List UInt8):∀h:HS,(h.feed l).noT=h.noT.feed l:=by
 induction l with
 | nil=>intro h;rfl
 | cons x l ih=>intro h;show ((h.put x).feed l).noT=(h.noT.put x).feed l;rw [ih,BP]
theorem Jr (h:HS) (x:UInt8):(h.put x).begun=h.begun:=by unfold HS.put;split<;>rfl
theorem Gr (l:List UInt8):∀h:HS,(h.feed l).begun=h.begun:=by
 induction l with
 | nil=>intro h;rfl
 | cons x l ih=>intro h;show ((h.put x).feed l).begun=_;rw [ih,Jr]
theorem P7 (s:ByteArray):zu s=wQ s:=by
 obtain ⟨N,f⟩:=D7 s.data.toList
 have b:s.data.toList.length=s.size:=by simp
 unfold zu wQ HS.sum sI
 have key:(dJ.w1 s 1).ended.st=eB (ofB (jZ s.data.toList)) ((jZ s.data.toList).length/64):=by
  have d:dJ.w1 s 1= { dJ.begin.feed s.data.toList with taken:=(s.size:Int) }:=by unfold HS.w1;rw [if_neg (by omega)]
  have hb:(dJ.w1 s 1).begin=dJ.w1 s 1:=by
   unfold HS.begin
   rw [if_pos (by rw [d];exact (Gr s.data.toList dJ.begin).trans rfl)]
  have a:((dJ.w1 s 1).put 128).many=(s.size+1)%64:=by
   rw [lS _ _ (by rw [d];exact HS.oq _ _ (by show 0<64;omega)),d]
   show ((dJ.begin.feed s.data.toList).many+1)%64=_
   rw [oU _ (by show 0<64;omega),b]
   show ((0+s.size)%64+1)%64=_
   omega
  have h:(dJ.w1 s 1).taken.toNat=s.size:=by rw [d];exact Int.toNat_natCast _
  have e:(dJ.w1 s 1).ended.noT=(dJ.begin.feed (jZ s.data.toList)).noT:=by
   unfold HS.ended
   rw [hb,a,h,ru,ru,BP]
   have h1:(dJ.w1 s 1).noT=(dJ.begin.feed s.data.toList).noT:=by rw [d];rfl
   rw [h1,←BP,←ru,←ru,←nL,←rz,←rz]
   unfold jZ
   rw [b]
   congr 2
   simp
  have g:=congrArg HS.st e
  rw [Mr,Mr] at g
  rw [g,f,Nat.mul_div_cancel_left _ (by omega)]
  have:=(uH dJ.begin rfl rfl (jZ s.data.toList) N f N (Nat.le_refl _)).2
  rwa [List.take_of_length_le (by omega)] at this
 rw [key]
theorem Ae {s t:Nat→W32} (h:∀k,k<8→s k=t k) (w:Nat→W32):∀n,∀k,k<8→bB w s n k=bB w t n k
 | 0=>h
 | n+1=>fun k e=>by
  have d:=Ae h w n
  show stepW (bB w s n) _ _ k=stepW (bB w t n) _ _ k
  generalize bB w s n=a at d ⊢
  generalize bB w t n=b at d ⊢
  unfold stepW tW uW
  rw [d 0 (by omega),d 1 (by omega),d 2 (by omega),d 3 (by omega),d 4 (by omega),d 5 (by omega),d 6 (by omega),d 7 (by omega)]
theorem NU {s t:Nat→W32} (h:∀k,k<8→s k=t k) (r:Nat→UInt8) (k:Nat) (a:k<8):dK s r k=dK t r k:=by
 unfold dK;rw [h k a,Ae h _ _ k a]
def fN {α:Type} (n:Nat) (k:Nat→α):α:=match n with
 | 0=>k 0
 | m+1=>k (m+1)
theorem QS {α:Type} (n:Nat) (k:Nat→α):fN n k=k n:=by cases n<;>rfl
def fW {α:Type} (x:W32) (k:W32→α):α:=fN x.toNat fun n=>k (BitVec.ofNat 32 n)
theorem Nl {α:Type} (x:W32) (k:W32→α):fW x k=k x:=by unfold fW;rw [QS,BitVec.ofNat_toNat,BitVec.setWidth_eq]
def Bz:Nat→List W32→List W32
 | 0,l=>l
 | n+1,l=>fW (jM (l.getD 1 0) 17 19 10+l.getD 6 0+jM (l.getD 14 0) 7 18 3+l.getD 15 0) fun x=>Bz n (x::l)
structure S8 where
 (a b c d e f g h:W32)
def S8.w (s:S8):Nat→W32:=eight s.a s.b s.c s.d s.e s.f s.g s.h
def S8.step (s:S8) (k w:W32):S8 :=
 let t:=s.h+ni s.e 6 11 25+(s.e &&& s.f ^^^ ~~~ s.e &&& s.g)+k+w
 ⟨t+(ni s.a 2 13 22+(s.a &&& s.b ^^^ s.a &&& s.c ^^^ s.b &&& s.c)),s.a,s.b,s.c,s.d+t,s.e,s.f,s.g⟩
def S8.force {α:Type} (s:S8) (k:S8→α):α:=fW s.a fun a=>fW s.b fun b=>fW s.c fun c=>fW s.d fun d=>fW s.e fun e=>fW s.f fun f=>fW s.g fun g=>fW s.h fun h=>k ⟨a,b,c,d,e,f,g,h⟩
theorem S8.force_eq {α:Type} (s:S8) (k:S8→α):s.force k=k s:=by unfold S8.force;simp only [Nl]
def nT:List W32→List W32→S8→S8
 | k::ks,w::ws,s=>(s.step k w).force fun s=>nT ks ws s
 | _,_,s=>s
def S8.add (s t:S8):S8:=⟨s.a+t.a,s.b+t.b,s.c+t.c,s.d+t.d,s.e+t.e,s.f+t.f,s.g+t.g,s.h+t.h⟩
def Lc (b:List UInt8) (i:Nat):W32:=(((bw (b.getD (4*i) 0)) <<< 8 ||| bw (b.getD (4*i+1) 0)) <<< 8 ||| bw (b.getD (4*i+2) 0)) <<< 8 ||| bw (b.getD (4*i+3) 0)
def jT (b:List UInt8):Nat→List W32→List W32
 | 0,l=>l
 | n+1,l=>fW (Lc b (15-n)) fun x=>jT b n (x::l)
def Cv (s:S8) (b:List UInt8):S8:=(s.add (nT jP (Bz 48 (jT b 16 [])).reverse s)).force id
theorem P6 (s:S8) (k w:W32):(s.step k w).w=stepW s.w k w:=rfl
theorem qD (a:Nat→W32) (s:Nat→W32):∀n,n≤64→ ∀(t:S8),t.w=bB a s (64-n)→(nT (jP.drop (64-n)) ((List.range n).map fun i=>a (64-n+i)) t).w=bB a s 64
 | 0,_,t,ht=>by simpa [nT] using ht
 | n+1,hn,t,ht=>by
  have b:jP.drop (64-(n+1))=rK (64-(n+1))::jP.drop (64-n):=by
   have d:=lQ
   rw [List.drop_eq_getElem_cons (by omega)]
   congr 1
   ·unfold rK;rw [List.getD_eq_getElem?_getD,List.getElem?_eq_getElem (by omega)];rfl
   rw [show 64-(n+1)+1=64-n from by omega]
  rw [b,List.range_succ_eq_map,List.map_cons,List.map_map]
  unfold nT
  rw [S8.force_eq]
  have hm:(List.range n).map ((fun i=>a (64-(n+1)+i)) ∘ Nat.succ)=(List.range n).map fun i=>a (64-n+i):=List.map_congr_left fun i _=>by
   show a (64-(n+1)+(i+1))=_;congr 1;omega
  rw [hm]
  refine qD a s n (by omega) _ ?_
  rw [P6,ht,show 64-n=(64-(n+1))+1 from by omega];rfl
theorem iZ (r:Nat→UInt8):∀n k,k<16+n→ ∀m,n≤m→aT r m k=aT r n k:=by
 intro n k a m hm
 induction m with
 | zero =>
  obtain rfl:n=0:=by omega
  rfl
 | succ m ih =>
  by_cases e:n=m+1
  ·rw [e]
  rw [←ih (by omega)]
  show upd (aT r m) (16+m) _ k=_
  unfold upd;rw [if_neg (by omega)]
def u7 (f:Nat→W32) (n:Nat):List W32:=((List.range n).map f).reverse
theorem qG (f:Nat→W32) (n i:Nat) (h:i<n):(u7 f n).getD i 0=f (n-1-i):=by
 unfold u7
 rw [List.getD_eq_getElem?_getD,List.getElem?_reverse (by simpa using h)]
 simp [show n-1-i<n from by omega]
theorem Af (f:Nat→W32) (n:Nat):u7 f (n+1)=f n::u7 f n:=by unfold u7;rw [List.range_succ];simp
theorem zZ (r : Nat → UInt8) : ∀ m n, n + m = 48 → Bz m (u7 (aT r 48) (16 + n)) = u7 (aT r 48) 64
  | 0, n, h => by obtain rfl : n = 48 := by omega
                  rfl
  | m + 1, n, h => by
    unfold Bz
    rw [Nl, qG _ _ _ (by omega), qG _ _ _ (by omega), qG _ _ _ (by omega), qG _ _ _ (by omega)]
    rw [show 16 + n - 1 - 1 = 16 + n - 2 from by omega, show 16 + n - 1 - 6 = 16 + n - 7 from by omega, show 16 + n - 1 - 14 = 16 + n - 15 from by omega, show 16 + n - 1 - 15 = 16 + n - 16 from by omega]
    have e : aT r 48 (16 + n) = jM (aT r 48 (16 + n - 2)) 17 19 10 + aT r 48 (16 + n - 7) + jM (aT r 48 (16 + n - 15)) 7 18 3 + aT r 48 (16 + n - 16) := by
      rw [iZ r (n + 1) (16 + n) (by omega) 48 (by omega), iZ r n (16 + n - 2) (by omega) 48 (by omega), iZ r n (16 + n - 7) (by omega) 48 (by omega), iZ r n (16 + n - 15) (by omega) 48 (by omega), iZ r n (16 + n - 16) (by omega) 48 (by omega)]
      show upd (aT r n) (16 + n) (DR (aT r n) (16 + n)) (16 + n) = _
      unfold upd; rw [if_pos rfl]; rfl
    rw [← e, ← Af, show 16 + n + 1 = 16 + (n + 1) from by omega]
    exact zZ r m (n + 1) (by omega)
theorem Lb (b:List UInt8) (i:Nat):Lc b i=eD (fun k=>b.getD k 0) i 4:=by
 show _=((((0:W32) <<< 8 ||| bw (b.getD (4*i+0) 0)) <<< 8 ||| bw (b.getD (4*i+1) 0)) <<< 8 ||| bw (b.getD (4*i+2) 0)) <<< 8 ||| bw (b.getD (4*i+3) 0)
 have:(0:W32) <<< 8 ||| bw (b.getD (4*i+0) 0)=bw (b.getD (4*i) 0):=by simp
 rw [this];rfl
theorem oQ (b:List UInt8):∀n,n≤16→jT b n (u7 (aT (fun k=>b.getD k 0) 48) (16-n))=u7 (aT (fun k=>b.getD k 0) 48) 16
 | 0,_=>rfl
 | n+1,h=>by
  unfold jT
  rw [Nl]
  have e:Lc b (15-n)=aT (fun k=>b.getD k 0) 48 (16-(n+1)):=by
   rw [iZ _ 0 (16-(n+1)) (by omega) 48 (by omega),Lb,show 16-(n+1)=15-n from by omega]
   show _=gH _ 16 0 (15-n)
   unfold gH;rw [if_pos (by omega)]
  rw [e,←Af,show 16-(n+1)+1=16-n from by omega]
  exact oQ b n (by omega)
theorem KR (s:S8) (b:List UInt8):(Cv s b).w=dK s.w fun k=>b.getD k 0:=by
 unfold Cv
 rw [S8.force_eq]
 have h1:jT b 16 []=u7 (aT (fun k=>b.getD k 0) 48) 16:=oQ b 16 (Nat.le_refl _)
 have d:=zZ (fun k=>b.getD k 0) 48 0 rfl
 rw [h1,d]
 have e:(u7 (aT (fun k=>b.getD k 0) 48) 64).reverse=(List.range 64).map fun i=>aT (fun k=>b.getD k 0) 48 (64-64+i):=by
  unfold u7;rw [List.reverse_reverse];exact List.map_congr_left fun i _=>by rw [Nat.sub_self,Nat.zero_add]
 rw [e]
 have a:=qD (aT (fun k=>b.getD k 0) 48) s.w 64 (Nat.le_refl _) s rfl
 rw [Nat.sub_self,List.drop_zero] at a
 generalize f:nT jP _ s=t at a
 funext k
 unfold dK
 rw [←a]
 show S8.w ⟨_,_,_,_,_,_,_,_⟩ k=S8.w s k+S8.w t k
 unfold S8.w eight
 repeat' split
 all_goals rfl
def vT (l:List UInt8):Nat→S8
 | 0=>⟨0x6a09e667#32,0xbb67ae85#32,0x3c6ef372#32,0xa54ff53a#32,0x510e527f#32,0x9b05688c#32,0x1f83d9ab#32,0x5be0cd19#32⟩
 | n+1=>Cv (vT l n) ((l.drop (64*n)).take 64)
theorem yV (l:List UInt8):∀n k,k<8→(vT l n).w k=eB (ofB l) n k
 | 0,k,a=>by
  obtain h|h|h|h|h|h|h|h:k=0∨k=1∨k=2∨k=3∨k=4∨k=5∨k=6∨k=7:=by omega
  all_goals subst h;rfl
 | n+1,k,a=>by
  show (Cv (vT l n) ((l.drop (64*n)).take 64)).w k=dK (eB (ofB l) n) (blk ((ofB l).extract (64*n) (64*n+64))) k
  rw [KR]
  have e:(fun k=>((l.drop (64*n)).take 64).getD k 0)=blk ((ofB l).extract (64*n) (64*n+64)):=by
   funext j;unfold blk
   rw [ByteArray.data_extract,Array.toList_extract,List.extract_eq_take_drop]
   simp [ofB]
  rw [e]
  exact NU (fun k a=>yV l n k a) _ k a
def Oo (l:List UInt8):List UInt8:=(List.range 32).map (stB (vT (jZ l) ((jZ l).length/64)).w)
theorem Om (s:ByteArray):Oo s.data.toList=wQ s:=by
 unfold Oo wQ sI
 refine List.map_congr_left fun j a=> ?_
 unfold stB
 rw [yV _ _ _ (by have:=List.mem_range.1 a;omega)]
def sa:List UInt8:=99::35::(List.replicate 32 0++[0,1,97])
def sb:List UInt8:=99::67::(List.replicate 32 0++[1]++Oo sa++[1,98])
end
section
open Go.RowKit
def Exit.jumps (J:Nat→Act→World→Prop) (Q:Exit→Act→World→Prop):Exit→Act→World→Prop
 | .goto l,a,w=>J l a w
 | e,a,w=>Q e a w
section
variable {P:Program} {a:Act} {w:World} {Q:Exit → Act → World → Prop}
theorem Exit.lG {J:Nat→Act→World→Prop}:Exit.jumps J Q .ret a w=Q .ret a w:=rfl
theorem Exit.pQ {J:Nat→Act→World→Prop} {l:Nat}:Exit.jumps J Q (.goto l) a w=J l a w:=rfl
theorem mh {c:Code} (J:Nat→Act→World→Prop) (μ:Nat→Act→World→Nat) (first:c.wp P (Exit.jumps J Q) a w)
  (t:∀l a w,J l a w→ ∃rest,findLabel c l=some rest∧rest.wp P (Exit.jumps (fun s a' w'=>J s a' w'∧μ s a' w'<μ l a w) Q) a w):(Code.scope c).wp P Q a w:=by
 intro b k cs
 have key:∀n l a w,μ l a w=n→J l a w→ ∃rest,findLabel c l=some rest∧ ∃e a' w',Q e a' w'∧Arrives P (lone (b.at a (.code rest:: .inScope c::k)) cs w) b k cs e a' w':=by
  intro n
  induction n using Nat.strongRecOn with
  | _ n ih =>
   intro l a w B A
   obtain ⟨rest,y,z⟩:=t l a w A
   refine ⟨rest,y,?_⟩
   obtain ⟨e,g,d,j,f⟩:=z b (.inScope c::k) cs
   cases e with
   | normal=>exact ⟨.normal,g,d,j,Steps.trans f (.one step_inScope)⟩
   | exit id=>exact ⟨.exit id,g,d,j,fun k' u=>f k' (by simp [exitTo,u])⟩
   | goto s =>
    obtain ⟨v,x⟩:=j
    obtain ⟨q,r,m,o,p,i,h⟩:=ih _ (by omega) s g d rfl v
    exact ⟨m,o,p,i,.of_steps (f _ (by simp [gotoIn,r])) h⟩
   | ret=>exact ⟨_,g,d,j,f⟩
   | panic ch=>exact ⟨_,g,d,j,f⟩
   | outgrown=>exact ⟨_,g,d,j,f⟩
 obtain ⟨e,g,d,j,f⟩:=first b (.inScope c::k) cs
 cases e with
 | normal=>exact ⟨.normal,g,d,j,.head step_scope (Steps.trans f (.one step_inScope))⟩
 | exit id=>exact ⟨.exit id,g,d,j,fun k' u=> .head step_scope (f k' (by simp [exitTo,u]))⟩
 | goto s =>
  obtain ⟨q,r,m,o,p,i,h⟩:=key _ s g d rfl j
  exact ⟨m,o,p,i,.of_steps (.head step_scope (f _ (by simp [gotoIn,r]))) h⟩
 | ret=>exact ⟨_,g,d,j,.of_steps (.one step_scope) f⟩
 | panic ch=>exact ⟨_,g,d,j,.of_steps (.one step_scope) f⟩
 | outgrown=>exact ⟨_,g,d,j,.of_steps (.one step_scope) f⟩
theorem Exit.lV {J b:Nat→Act→World→Prop} (h:∀l a w,J l a w→b l a w) (e:Exit) (a:Act) (w:World) (d:Exit.jumps J Q e a w):Exit.jumps b Q e a w:=by
 cases e<;>first|exact h _ _ _ d|exact d
theorem vV {c:Code} (J:Nat→Act→World→Prop) (μ:Nat→Act→World→Nat)
  (g:∀l a w,J l a w→(∀d X,findLabel c d=some (.seq .skip X)→ ∀a' w',J d a' w'∧μ d a' w'<μ l a w→X.wp P (Exit.jumps (fun d a' w'=>J d a' w'∧μ d a' w'<μ l a w) Q) a' w') →
   ∃X,findLabel c l=some (.seq .skip X)∧X.wp P (Exit.jumps (fun d a' w'=>J d a' w'∧μ d a' w'<μ l a w) Q) a w)
  (first:(∀d X,findLabel c d=some (.seq .skip X)→ ∀a' w',J d a' w'→X.wp P (Exit.jumps J Q) a' w')→c.wp P (Exit.jumps J Q) a w):(Code.scope c).wp P Q a w:=by
 have key:∀n l a w,μ l a w=n→J l a w→ ∃X,findLabel c l=some (.seq .skip X)∧X.wp P (Exit.jumps (fun d a' w'=>J d a' w'∧μ d a' w'<μ l a w) Q) a w:=by
  intro n
  induction n using Nat.strongRecOn with
  | _ n ih =>
   intro l a w r i
   refine g l a w i ?_
   intro d X f a' w' ⟨k,j⟩
   obtain ⟨q,b,e⟩:=ih _ (by omega) d a' w' rfl k
   rw [f] at b
   injection b with b
   injection b with _ b
   subst b
   exact Code.wp_mono (Exit.lV fun m a2 o h=>⟨h.1,Nat.lt_trans h.2 j⟩) e
 refine mh J μ ?_ ?_
 ·refine first fun d X f a' w' i=> ?_
  obtain ⟨q,b,e⟩:=key _ d a' w' rfl i
  rw [f] at b
  injection b with b
  injection b with _ b
  subst b
  exact Code.wp_mono (Exit.lV fun m a2 o h=>h.1) e
 intro l a w i
 obtain ⟨X,f,p⟩:=key _ l a w rfl i
 exact ⟨_,f,wp_seq (wp_skip p)⟩
end
def Rt (b:Nat) (r:Rd) (d:Nat) (w:World):Nat→Act→World→Prop
 | 0,a,w'=> ∃(e:Nat) (v5 v6 v7:Value) (r':Rd) (O ae H af ap an P ac Y G C a1 J E W L ar K Z F ad aw az x ag ao l t n U j B q ai i z a0 aa Q ab X u aE D T y V al o v I S p a2 g h am f R ax A aq m M:Value),a= { tmps:=#[.pointer (some ⟨b,0,none⟩),.int .i64 (d:Int),undef,undef,.int .i64 0,v5,v6,v7,.int .i64 (e:Int),.int .i64 (r.pos:Int),O,ae,H,af,ap,an,P,ac,Y,G,C,a1,J,E,W,L,ar,K,Z,F,ad,aw,az,x,ag,ao,l,t,n,U,j,B,q,ai,i,z,a0,aa,Q,ab,X,u,aE,D,T,y,V,al,o,v,I,S,p,a2,g,h,am,f,R,ax,A,aq,m,M],defers:=[] } ∧
   Hid (bI r.left d 6 0 0= .inl e)∧Hid (r'.err=0∧r'.s=r.s∧r.err=0)∧Arr w' b 3 r'.c∧w.grownBy w' (some b)
 | 1,a,w'=> ∃(k N:Nat) (v7:Value) (O ae H af ap an P ac Y G C a1 J E W L ar K Z F ad aw az x ag ao l t n U j B q ai i z a0 aa Q ab X u aE D T y V al o v I S p a2 g h am f R ax A aq m M:Value),a= { tmps:=#[.pointer (some ⟨b,0,none⟩),.int .i64 (d:Int),undef,undef,.int .i64 0,.int .i64 (N:Int),.int .i64 (7*k:Int),v7,.int .i64 3,.int .i64 (r.pos:Int),O,ae,H,af,ap,an,P,ac,Y,G,C,a1,J,E,W,L,ar,K,Z,F,ad,aw,az,x,ag,ao,l,t,n,U,j,B,q,ai,i,z,a0,aa,Q,ab,X,u,aE,D,T,y,V,al,o,v,I,S,p,a2,g,h,am,f,R,ax,A,aq,m,M],defers:=[] } ∧
   k≤5∧Hid (r.err=0)∧Hid (bI r.left d 6 0 0=bI r.left d (6-k) k N)∧Hid (N<128^k)∧Arr w' b 3 (Rd.c ⟨r.s,r.pos+k,0⟩)∧w.grownBy w' (some b)∧r.pos+k≤r.s.size
 | _,_,_=>False
def Rs:Nat→Act→World→Nat
 | 0,_,_=>0
 | _,a,_=>100-(intOf (a.tmps.getD 6 undef)).toNat
theorem Qh (N X k M:Nat) (i:k≤5) (b:N<128^k) (d:M=N+X%128*128^k):bits .or .i64 (N:Int) (wrap64 ((X:Int)%128*2^(7*k)))=(M:Int):=by
 have a:(128:Nat)^k=2^(7*k):=by rw [show (128:Nat)=2^7 from rfl,←Nat.pow_mul]
 have hb:(128:Nat)^k≤34359738368:=Nat.le_trans (Nat.pow_le_pow_right (by omega) i) (by decide)
 have hy:X%128*128^k≤4363686772736:=Nat.le_trans (Nat.mul_le_mul (show X%128≤127 by omega) hb) (by omega)
 have e:(X:Int)%128*2^(7*k)=((X%128*128^k:Nat):Int):=by rw [a];push_cast;rfl
 have h:wrap64 ((X%128*128^k:Nat):Int)=((X%128*128^k:Nat):Int):=by unfold wrap64;omega
 have g:(2:Nat)^62=4611686018427387904:=by decide
 have f:(2:Int)^62=4611686018427387904:=by decide
 rw [e,h,(bits_nat .i64 62 (by decide) (fun n j h1=>by rw [IntKind.wrap_i64];omega) N (X%128*128^k) (by omega) (by omega)).2,d]
 congr 1
 rw [a] at b ⊢
 rw [Nat.or_comm,Nat.mul_comm,←Nat.two_pow_add_eq_or_of_lt b,Nat.add_comm]
theorem Rd.Ht (r:Rd) (a:Nat) (h:r.err≠0):r.num a=(r,0):=by unfold Rd.num;rw [if_pos h]
theorem mW (b:Nat) (r:Rd) (d:Nat) (w:World) (hA:Arr w b 3 r.c) (hf:r.fine) (_hn:d≤1000000000) :
  Calls prog 130 #[.pointer (some ⟨b,0,none⟩),.int .i64 (d:Int)] w fun e w'=>e= .returned (.int .i64 ((r.num d).2:Int))∧Arr w' b 3 (r.num d).1.c∧w.grownBy w' (some b):=by
 have cp:b<w.heap.size:=hA.lt (by omega)
 have HE:=ah (qx b r w hA)
 have HF:=ah (fun (r':Rd) e W (h:Arr W b 3 r'.c)=>zP b r' e r.pos W h)
 have hp:=hf.pos
 have hs:=hf.size
 have he:=hf.err
 have HA:=ah hA
 clear hA hf
 go_enter func130,ntmps130
 go_wp2_with fail
 refine vV (Rt b r d w) Rs ?_ ?_
 ·rintro l a w' J j
  have u:=ah j
  clear j
  match l,J with
  | 1,J =>
   refine ⟨_,rfl,?_⟩
   obtain ⟨k,N,v7,ai,b5,b0,be,cr,b6,al,bc,cj,a6,a4,bk,ag,cf,ap,b1,b8,a7,ck,cg,bd,bh,ax,cc,aq,cq,cb,bj,a1,ba,aE,bz,bt,co,bm,cd,b9,cl,a8,bb,b4,a3,cs,a5,ao,bx,b3,ar,bs,bv,af,an,ad,ca,bo,bp,cn,bn,am,aw,ce,bf,br,b2,rfl,hk,t,z,hN,n,A,ae⟩:=J
   have HL:=ah (xU r k)
   have S:=ah (fun (h:r.pos+k<r.s.size) w=>dV r.s w (r.pos+k) h)
   generalize O:r.pos+k=p at n ae HL S
   have I:=ah O
   clear O
   have Y:w'.cell? ⟨b,0,none⟩=some (.string r.s):=n.cell 0 (by omega)
   have c1:w'.cell? ⟨b,1,none⟩=some (.int .i64 (p:Int)):=n.cell 1 (by omega)
   have y:b<w'.heap.size:=n.lt (by omega)
   have G:=ah n
   have E:=ah A
   clear n A
   by_cases az:p<r.s.size
   ·have d1:((p:Int)==(r.s.size:Int))=false:=by rw [beq_eq_false_iff_ne];omega
    have HI:∀w,(Instr.index 9 (.string r.s) (.int .i64 (p:Int))).run prog w= .ok (.int .u8 (wn (bw (blk r.s p)))) w:=fun w=>S.out az w
    have aa:=oI (blk r.s p)
    have hX:(blk r.s p).toNat<256:=(blk r.s p).toNat_lt
    have K:r.left[k]? = some (blk r.s p):=by
     rw [HL.out];unfold blk
     have K:p<r.s.data.toList.length:=by simp;omega
     simp only [List.getD,List.getElem?_eq_getElem K,Option.getD_some]
    have v:bI r.left d (6-k) k N=if 128≤(blk r.s p).toNat then bI r.left d (5-k) (k+1) (N+(blk r.s p).toNat%128*128^k)
      else if (blk r.s p).toNat=0∧0<k then .inl 2
      else if 1099511627775<N+(blk r.s p).toNat%128*128^k∨d<N+(blk r.s p).toNat%128*128^k then .inl 4
      else .inr (N+(blk r.s p).toNat%128*128^k,k+1):=by
     rw [show 6-k=(5-k)+1 from by omega];conv=>lhs;unfold bI
     rw [K]
    rw [←aa] at HI
    generalize (blk r.s p).toNat=X at HI hX v
    have m:Hid _:=ah (z.out.trans v)
    obtain ⟨M,hM⟩:∃M,M=N+X%128*128^k:=⟨_,rfl⟩
    have ct:=Qh N X k M hk hN.out hM
    have cx:M≤4398046511104:=by
     have h1:=hN.out
     have hb:(128:Nat)^k≤34359738368:=Nat.le_trans (Nat.pow_le_pow_right (by omega) hk) (by decide)
     have hy:X%128*128^k≤4363686772736:=Nat.le_trans (Nat.mul_le_mul (show X%128≤127 by omega) hb) (by omega)
     omega
    have a2:Hid (M<128^(k+1)):=by
     unfold Hid
     have h1:=hN.out
     have h2:X%128*128^k≤127*128^k:=Nat.mul_le_mul (by omega) (Nat.le_refl _)
     rw [Nat.pow_succ];omega
    rw [←hM] at m
    have HN:=ah hN.out
    clear v K aa z hM hN
    have x0:(0:Int)≤X:=by omega
    have x1:(X:Int)<256:=by omega
    have f1:=G.out.free 1 (by omega)
    go_wp2
    refine wbq ?_
    have q:=blq Y
    have B:=blq c1
    repeat (go_big_quiet_step (fail))
    refine wpQuiet_nil ?_
    intro wq f
    clear q B
    obtain ⟨wa,rfl⟩:∃wa:World,wa=wq:=⟨_,rfl⟩
    have q0:=au Y f y
    have q1:=au c1 f y
    have P:b<wa.heap.size:=by have:=f.size;omega
    have a0:=ah (G.out.below f y)
    have ci:=ah (lX E.out f)
    clear f Y c1
    go_wp2
    refine wbq ?_
    have q:=blq q0
    have B:=blq q1
    repeat (go_big_quiet_step (fail))
    refine wpQuiet_nil ?_
    intro wq f
    clear q B
    have i:=ah (a0.out.below f P)
    have o:=ah (lX ci.out f)
    clear f q0 q1
    have g1:wq.cell? ⟨b,1,none⟩=some (.int .i64 (p:Int)):=i.out.cell 1 (by omega)
    have g2:=i.out.free 1 (by omega)
    by_cases g:128≤X
    ·have dA:decide ((128:Int)≤X)=true:=decide_eq_true (by omega)
     have C:Hid (bI r.left d 6 0 0=bI r.left d (5-k) (k+1) M):=by unfold Hid;rw [m.out,if_pos g]
     clear m g
     by_cases h5:k=5
     ·have a9:((7*(k:Int)+7)==42)=true:=by rw [beq_iff_eq];omega
      have D:Hid (bI r.left d 6 0 0= .inl 4):=by unfold Hid;rw [C.out,h5];rfl
      clear C
      go_wp2
      refine wp_goto ?_
      refine ⟨⟨4,_,_,_,⟨r.s,p+1,0⟩,_,_,_,_,_,_,_,_,_,_,_,_,_,_,_,_,_,_,_,_,_,_,_,_,_,_,_,_,_,_,_,_,_,_,_,_,_,_,_,_,_,_,_,_,_,_,_,_,_,_,_,_,_,_,_,_,_,_,_,_,_,_,_,_,rfl,D,ah ⟨rfl,rfl,t.out⟩,(i.out.set 1 (by omega) _).congr (Rd.eY ⟨r.s,p,0⟩ (p+1)),aS o.out _⟩,?_⟩
      show 0<100-(7*(k:Int)).toNat
      omega
     have a9:((7*(k:Int)+7)==42)=false:=by rw [beq_eq_false_iff_ne];omega
     go_wp2
     refine wp_goto ?_
     rw [show (7*(k:Int)+7)=7*((k+1:Nat):Int) from by omega]
     refine ⟨⟨k+1,M,_,_,_,_,_,_,_,_,_,_,_,_,_,_,_,_,_,_,_,_,_,_,_,_,_,_,_,_,_,_,_,_,_,_,_,_,_,_,_,_,_,_,_,_,_,_,_,_,_,_,_,_,_,_,_,_,_,_,_,_,_,_,_,_,_,rfl,by omega,t,?_,a2,?_,aS o.out _,by have:=I.out;omega⟩,?_⟩
     ·unfold Hid;rw [C.out,show 6-(k+1)=5-k from by omega]
     ·have:=(i.out.set 1 (by omega) (.int .i64 ((p+1:Nat):Int))).congr (Rd.eY ⟨r.s,p,0⟩ (p+1))
      rw [show r.pos+(k+1)=p+1 from by have:=I.out;omega]
      exact this
     show 100-(7*((k+1:Nat):Int)).toNat<100-(7*(k:Int)).toNat
     omega
    have dA:decide ((128:Int)≤X)=false:=decide_eq_false (by omega)
    by_cases L:X=0∧0<k
    ·have D:Hid (bI r.left d 6 0 0= .inl 2):=by unfold Hid;rw [m.out,if_neg g,if_pos L]
     have cy:((X:Int)==0)=true:=by rw [beq_iff_eq];omega
     have cw:decide ((7:Int)<7*(k:Int)+7)=true:=decide_eq_true (by omega)
     clear m g L
     go_wp2
     refine wp_goto ?_
     refine ⟨⟨2,_,_,_,⟨r.s,p+1,0⟩,_,_,_,_,_,_,_,_,_,_,_,_,_,_,_,_,_,_,_,_,_,_,_,_,_,_,_,_,_,_,_,_,_,_,_,_,_,_,_,_,_,_,_,_,_,_,_,_,_,_,_,_,_,_,_,_,_,_,_,_,_,_,_,_,rfl,D,ah ⟨rfl,rfl,t.out⟩,(i.out.set 1 (by omega) _).congr (Rd.eY ⟨r.s,p,0⟩ (p+1)),aS o.out _⟩,?_⟩
     show 0<100-(7*(k:Int)).toNat
     omega
    have T:Hid (((X:Int)==0)=false∨(((X:Int)==0)=true∧decide ((7:Int)<7*(k:Int)+7)=false)):=by
     unfold Hid
     by_cases cv:X=0
     ·right;exact ⟨by rw [beq_iff_eq];omega,decide_eq_false (by omega)⟩
     left;rw [beq_eq_false_iff_ne];omega
    by_cases hm:1099511627775<M∨d<M
    ·have D:Hid (bI r.left d 6 0 0= .inl 4):=by unfold Hid;rw [m.out,if_neg g,if_neg L,if_pos hm]
     have ac:Hid ((decide ((M:Int)≤1099511627775)=false∧decide (M≤1099511627775)=false)∨(decide ((M:Int)≤1099511627775)=true∧decide (M≤1099511627775)=true∧decide ((M:Int)≤(d:Int))=false∧decide (M≤d)=false)):=by
      unfold Hid
      by_cases h1:1099511627775<M
      ·left;exact ⟨decide_eq_false (by omega),decide_eq_false (by omega)⟩
      right;exact ⟨decide_eq_true (by omega),decide_eq_true (by omega),decide_eq_false (by omega),decide_eq_false (by omega)⟩
     clear m g L hm
     rcases T.out with hx|⟨hx,bi⟩<;>rcases ac.out with ⟨R,ab⟩|⟨R,ab,b7,cm⟩
     all_goals
      go_wp2
      rename_i hK
      refine wp_label (hK _ _ (u.out 0 _ rfl _ _ ?_))
      refine ⟨⟨4,_,_,_,⟨r.s,p+1,0⟩,_,_,_,_,_,_,_,_,_,_,_,_,_,_,_,_,_,_,_,_,_,_,_,_,_,_,_,_,_,_,_,_,_,_,_,_,_,_,_,_,_,_,_,_,_,_,_,_,_,_,_,_,_,_,_,_,_,_,_,_,_,_,_,_,rfl,D,ah ⟨rfl,rfl,t.out⟩,(i.out.set 1 (by omega) _).congr (Rd.eY ⟨r.s,p,0⟩ (p+1)),aS o.out _⟩,?_⟩
      show 0<100-(7*(k:Int)).toNat
      omega
    have V:Hid (r.num d=({ r with pos:=r.pos+(k+1) },M)):=ah (Rd.FT r d (M,k+1) t.out (by rw [m.out,if_neg g,if_neg L,if_neg hm]))
    have R:decide ((M:Int)≤1099511627775)=true:=decide_eq_true (by omega)
    have ab:decide ((M:Int)≤(d:Int))=true:=decide_eq_true (by omega)
    have b7:decide (M≤1099511627775)=true:=decide_eq_true (by omega)
    have cm:decide (M≤d)=true:=decide_eq_true (by omega)
    clear m g L hm
    rcases T.out with hx|⟨hx,bi⟩
    all_goals
     go_wp2
     rw [Exit.lG]
     go_ret
     rw [V.out]
     refine ⟨rfl,?_,aS o.out _⟩
     have h1:=(i.out.set 1 (by omega) (.int .i64 ((p+1:Nat):Int))).congr (Rd.eY ⟨r.s,p,0⟩ (p+1))
     have h2:({ r with pos:=r.pos+(k+1) }:Rd)=⟨r.s,p+1,0⟩:=by
      have h3:=t.out
      have h4:=I.out
      rw [show r.pos+(k+1)=p+1 from by omega,h3]
     show Arr _ b 3 (Rd.c { r with pos:=r.pos+(k+1) })
     rw [h2]
     exact h1
   have d1:((p:Int)==(r.s.size:Int))=true:=by rw [beq_iff_eq];omega
   have K:r.left[k]? = none:=by
    rw [HL.out];exact List.getElem?_eq_none (by simp;omega)
   have U:Hid (bI r.left d 6 0 0= .inl 3):=by
    unfold Hid
    rw [z.out,show 6-k=(5-k)+1 from by omega];unfold bI;rw [K]
   go_wp2
   refine wbq ?_
   have q:=blq Y
   have B:=blq c1
   repeat (go_big_quiet_step (fail))
   refine wpQuiet_nil ?_
   intro wq f
   clear q B
   have i:=ah (G.out.below f y)
   have o:=ah (lX E.out f)
   clear f Y c1
   go_wp2
   refine wp_goto ?_
   refine ⟨⟨3,_,_,_,⟨r.s,p,0⟩,_,_,_,_,_,_,_,_,_,_,_,_,_,_,_,_,_,_,_,_,_,_,_,_,_,_,_,_,_,_,_,_,_,_,_,_,_,_,_,_,_,_,_,_,_,_,_,_,_,_,_,_,_,_,_,_,_,_,_,_,_,_,_,_,rfl,U,ah ⟨rfl,rfl,t.out⟩,i.out,o.out⟩,?_⟩
   show 0<100-(7*(k:Int)).toNat
   omega
  | 0,J =>
   refine ⟨_,rfl,?_⟩
   obtain ⟨e,v5,v6,v7,r',ai,b5,b0,be,cr,b6,al,bc,cj,a6,a4,bk,ag,cf,ap,b1,b8,a7,ck,cg,bd,bh,ax,cc,aq,cq,cb,bj,a1,ba,aE,bz,bt,co,bm,cd,b9,cl,a8,bb,b4,a3,cs,a5,ao,bx,b3,ar,bs,bv,af,an,ad,ca,bo,bp,cn,bn,am,aw,ce,bf,br,b2,rfl,z,F,n,A⟩:=J
   have HC:=ah (HF.out r' e w' n)
   have E:=ah A
   have ch:Hid (r'.fail e r.pos= { r with err:=e }):=by
    unfold Hid Rd.fail;rw [if_pos F.out.1,←F.out.2.1]
   clear n A
   go_wp2_with fail
   refine HC.out.mono ?_
   rintro x w2 ⟨rfl,H,Q⟩
   rw [ch.out] at H
   have bu:=ah H
   have C:=ah (E.out.trans Q)
   have V:=ah (Rd.jH r d e F.out.2.2 z.out)
   clear H Q z F
   go_wp2
   rw [Exit.lG]
   go_ret
   rw [V.out]
   exact ⟨rfl,bu.out,C.out⟩
  | _+2,J=>exact J.elim
 intro j
 have u:=ah j
 clear j
 go_wp2_with fail
 refine HE.out.mono ?_
 rintro e w1 ⟨rfl,rfl⟩
 by_cases h0:r.err=0
 ·have d0:((r.err:Int) != 0)=false:=by rw [bne_eq_false_iff_eq];omega
  have Z:Hid (Arr w1 b 3 (Rd.c ⟨r.s,r.pos,0⟩)):=by
   have:=HA.out
   have e:r.c=Rd.c ⟨r.s,r.pos,0⟩:=by rw [←h0]
   rw [e] at this
   exact ah this
  have c1:w1.cell? ⟨b,1,none⟩=some (.int .i64 (r.pos:Int)):=Z.out.cell 1 (by omega)
  go_wp2
  refine wbq ?_
  have q:=blq c1
  repeat (go_big_quiet_step (fail))
  refine wpQuiet_nil ?_
  intro wq f
  clear q
  have i:=ah (Z.out.below f cp)
  have o:=ah (aC f (some b))
  clear f c1
  go_wp2
  rename_i hK
  refine wp_label (hK _ _ (u.out 1 _ rfl _ _ ?_))
  exact ⟨0,0,_,_,_,_,_,_,_,_,_,_,_,_,_,_,_,_,_,_,_,_,_,_,_,_,_,_,_,_,_,_,_,_,_,_,_,_,_,_,_,_,_,_,_,_,_,_,_,_,_,_,_,_,_,_,_,_,_,_,_,_,_,_,_,_,_,rfl,by omega,ah h0,ah rfl,ah (by decide),i.out,o.out,hp⟩
 have d0:((r.err:Int) != 0)=true:=by rw [bne_iff_ne];omega
 have V:=ah (Rd.Ht r d h0)
 clear h0
 go_wp2
 rw [Exit.lG]
 go_ret
 rw [V.out]
 exact ⟨rfl,HA.out,aC (Below.refl _ _) _⟩
theorem Rd.Ap (r:Rd) (a:Nat):r.pos≤(r.num a).1.pos:=by
 unfold Rd.num
 split
 ·exact Nat.le_refl _
 split
 ·exact Nat.le_refl _
 exact Nat.le_add_right _ _
theorem Rd.Ah (r:Rd) (n:Nat):r.pos≤(r.raw n).1.pos:=by
 unfold Rd.raw
 split
 ·exact Nat.le_refl _
 split
 ·exact Nat.le_refl _
 exact Nat.le_add_right _ _
theorem Rd.Lv (r:Rd) (a:Nat):r.text a=if ((r.num a).1.raw (r.num a).2).1.err≠0 then ({ ((r.num a).1.raw (r.num a).2).1 with pos:=min ((r.num a).1.raw (r.num a).2).1.pos r.pos },ByteArray.empty) else (r.num a).1.raw (r.num a).2:=by
 have h1:=r.Ap a
 have f:=(r.num a).1.Ah (r.num a).2
 rw [Nat.min_eq_right (by omega)]
 unfold Rd.text
 by_cases b:r.err=0
 ·rw [if_neg (by simp [b])]
 rw [if_pos b]
 have e:r.num a=(r,0):=Rd.Ht r a b
 have d:r.raw 0=(r,ByteArray.empty):=by unfold Rd.raw;rw [if_pos b]
 rw [e,d,if_pos b]
theorem kT (b : Nat) (r : Rd) (most : Nat) (w : World) (hA : Arr w b 3 r.c) (hf : r.fine) (hn : most ≤ 1000000000) :
    Calls prog 194 #[.pointer (some ⟨b, 0, none⟩), .int .i64 (most : Int)] w fun e w' => e = .returned (.string (r.text most).2) ∧ Arr w' b 3 (r.text most).1.c ∧ w.grownBy w' (some b) := by
  have HAT := ah (vE b r w hA)
  have HN := ah (mW b r most w hA hf hn)
  obtain ⟨hf1, hn1⟩ := Rd.cB r most hf
  have HT := ah (r.Lv most)
  have HPL : Hid (r.pos ≤ ((r.num most).1.raw (r.num most).2).1.pos) := ah (Nat.le_trans (r.Ap most) (Rd.Ah _ _))
  generalize r.num most = x at HN hf1 hn1 HT HPL
  obtain ⟨r1, n⟩ := x
  have HF1 := ah hf1
  clear hA hf hf1
  dsimp only at HN hn1 HT HPL
  go_enter func194, ntmps194
  go_wp2_with fail
  refine HAT.out.mono ?_
  rintro e w0 ⟨rfl, rfl⟩
  go_wp2_with fail
  refine HN.out.mono ?_
  rintro e w1 ⟨rfl, hA1, hg1⟩
  have HRW := ah (vU b r1 n w1 hA1 HF1.out (by omega))
  have HG1 := ah hg1
  generalize r1.raw n = y at HRW HT HPL
  obtain ⟨r2, s⟩ := y
  dsimp only at HRW HT HPL
  clear hA1 hg1
  go_wp2_with fail
  refine HRW.out.mono ?_
  rintro e w2 ⟨rfl, hA2, hg2⟩
  have HG2 := ah (eX HG1.out hg2)
  have d2 : w2.cell? ⟨b, 2, none⟩ = some (.int .i64 (r2.err : Int)) := hA2.cell 2 (by omega)
  have d1 : w2.cell? ⟨b, 1, none⟩ = some (.int .i64 (r2.pos : Int)) := hA2.cell 1 (by omega)
  have f1 := hA2.free 1 (by omega)
  have HA2 := ah hA2
  clear hA2 hg2
  by_cases h2 : r2.err = 0
  · have h2' : ((r2.err : Int) != 0) = false := by rw [bne_eq_false_iff_eq]; omega
    have HR : Hid (r.text most = (r2, s)) := by unfold Hid; rw [HT.out, if_neg (by simp [h2])]
    clear h2
    go_wp2
    go_ret
    rw [HR.out]
    exact ⟨rfl, HA2.out, HG2.out⟩
  · have h2' : ((r2.err : Int) != 0) = true := by rw [bne_iff_ne]; omega
    have HR : Hid (r.text most = ({ r2 with pos := r.pos }, ByteArray.empty)) := by unfold Hid; rw [HT.out, if_pos h2, Nat.min_eq_right HPL.out]
    clear h2
    go_wp2
    all_goals
      have hpl := HPL.out
      go_ret
      rw [HR.out]
      refine ⟨rfl, ?_, aS HG2.out _⟩
      first
        | exact (HA2.out.set 1 (by omega) (.int .i64 (r.pos : Int))).congr (Rd.eY r2 _)
        | (rw [show min (r.pos : Int) (r2.pos : Int) = (r.pos : Int) from by omega]
           exact (HA2.out.set 1 (by omega) (.int .i64 (r.pos : Int))).congr (Rd.eY r2 _))
        | (rw [show min (r2.pos : Int) (r.pos : Int) = (r.pos : Int) from by omega]
           exact (HA2.out.set 1 (by omega) (.int .i64 (r.pos : Int))).congr (Rd.eY r2 _))
        | (have e : r.pos = r2.pos := by omega
           rw [e]
           exact (HA2.out.set 1 (by omega) (.int .i64 (r2.pos : Int))).congr (Rd.eY r2 _))
def nC:W32:=0xedb88320#32
def oJ (n:W32):W32:=(n >>> 1) ^^^ (if n.getLsbD 0 then nC else 0#32)
def mE (n:W32):W32:=oJ (oJ (oJ (oJ n)))
def iJ:List W32:=[0x00000000#32,0x1db71064#32,0x3b6e20c8#32,0x26d930ac#32,0x76dc4190#32,0x6b6b51f4#32,0x4db26158#32,0x5005713c#32,0xedb88320#32,0xf00f9344#32,0xd6d6a3e8#32,0xcb61b38c#32,0x9b64c2b0#32,0x86d3d2d4#32,0xa00ae278#32,0xbdbdf21c#32]
def JG (n:W32):W32:=(n >>> 4) ^^^ iJ.getD (n &&& 15#32).toNat 0#32
theorem I7 (a b:W32):oJ (a ^^^ b)=oJ a ^^^ oJ b:=by
 unfold oJ
 rw [BitVec.ushiftRight_xor_distrib,BitVec.getLsbD_xor]
 generalize a >>> 1=x
 generalize b >>> 1=y
 cases a.getLsbD 0<;>cases b.getLsbD 0
 ·simp
 ·show (x ^^^ y) ^^^ nC=(x ^^^ 0#32) ^^^ (y ^^^ nC)
  rw [BitVec.xor_zero]
  ac_rfl
 ·show (x ^^^ y) ^^^ nC=(x ^^^ nC) ^^^ (y ^^^ 0#32)
  rw [BitVec.xor_zero]
  ac_rfl
 show (x ^^^ y) ^^^ 0#32=(x ^^^ nC) ^^^ (y ^^^ nC)
 have h:(x ^^^ nC) ^^^ (y ^^^ nC)=(x ^^^ y) ^^^ (nC ^^^ nC):=by ac_rfl
 rw [h,BitVec.xor_self]
theorem I8 (a b:W32):mE (a ^^^ b)=mE a ^^^ mE b:=by unfold mE;simp only [I7]
theorem lN (n:W32) (h:n.toNat%2=0):oJ n=n >>> 1:=by
 have a:n.getLsbD 0=false:=by
  rw [BitVec.getLsbD,Nat.testBit_zero]
  simp only [decide_eq_false_iff_not]
  omega
 unfold oJ
 rw [a]
 simp
theorem kD (n:W32) (k:Nat):(n >>> k).toNat=n.toNat/2^k:=by rw [BitVec.toNat_ushiftRight,Nat.shiftRight_eq_div_pow]
theorem Fg (n:W32) (h:n.toNat%16=0):mE n=n >>> 4:=by
 unfold mE
 have h1:(n >>> 1).toNat=n.toNat/2:=by rw [kD]
 have a:(n >>> 1 >>> 1).toNat=n.toNat/2/2:=by rw [kD,h1]
 have b:(n >>> 1 >>> 1 >>> 1).toNat=n.toNat/2/2/2:=by rw [kD,a]
 rw [lN n (by omega),lN (n >>> 1) (by rw [h1];omega),lN (n >>> 1 >>> 1) (by rw [a];omega),lN (n >>> 1 >>> 1 >>> 1) (by rw [b];omega)]
 apply BitVec.eq_of_toNat_eq
 rw [kD,b,kD]
 omega
theorem JU:∀l:Fin 16,mE (BitVec.ofNat 32 l.val)=iJ.getD l.val 0#32:=by decide +kernel
theorem PE (n:W32):(n &&& 15#32).toNat=n.toNat%16:=by
 rw [BitVec.toNat_and]
 exact Nat.and_two_pow_sub_one_eq_mod n.toNat 4
theorem Ms (n:W32):JG n=mE n:=by
 have d:n=((n >>> 4) <<< 4) ^^^ (n &&& 15#32):=by
  apply BitVec.eq_of_getLsbD_eq
  intro i hi
  have b:(15#32).getLsbD i=decide (i<4):=by
   revert hi
   have:∀j:Fin 32,(15#32).getLsbD j.val=decide (j.val<4):=by decide +kernel
   exact fun hi=>this ⟨i,hi⟩
  rw [BitVec.getLsbD_xor,BitVec.getLsbD_and,BitVec.getLsbD_shiftLeft,BitVec.getLsbD_ushiftRight,b]
  by_cases h:i<4
  ·simp [h,hi]
  simp [h,hi,show 4+(i-4)=i by omega]
 have e:mE (n &&& 15#32)=iJ.getD (n &&& 15#32).toNat 0#32:=by
  have a:(n &&& 15#32).toNat<16:=by rw [PE];omega
  have:=JU ⟨_,a⟩
  rw [←this]
  congr 1
  apply BitVec.eq_of_toNat_eq
  rw [BitVec.toNat_ofNat]
  show _=(n &&& 15#32).toNat%4294967296
  omega
 have f:mE ((n >>> 4) <<< 4)=n >>> 4:=by
  have h1:(((n >>> 4) <<< 4):W32).toNat=n.toNat/16*16:=by
   rw [BitVec.toNat_shiftLeft,kD,Nat.shiftLeft_eq]
   have:=n.isLt
   omega
  rw [Fg _ (by rw [h1];omega)]
  apply BitVec.eq_of_toNat_eq
  rw [kD,h1,kD]
  omega
 unfold JG
 rw [←e]
 conv=>rhs;rw [d,I8,f]
def Eh (n:W32) (b:UInt8):W32:=mE (mE (n ^^^ bw b))
def wN (n:W32) (l:List UInt8):W32:=l.foldl Eh n
theorem I5 (n:W32) (l:List UInt8) (b:UInt8):wN n (l++[b])=Eh (wN n l) b:=by unfold wN;rw [List.foldl_append];rfl
def mR (l:List UInt8):W32:= ~~~ wN (~~~ 0#32) l
def jC (n:W32) (i:Nat):UInt8:=UInt8.ofNat (n.toNat/2^(8*i)%256)
def GZ (l:List UInt8):List UInt8:=[jC (mR l) 0,jC (mR l) 1,jC (mR l) 2,jC (mR l) 3]
def fK (l:List UInt8):List UInt8:=l++GZ l
def gK (l:List UInt8):Option (List UInt8):=if 4≤l.length∧fK (l.take (l.length-4))=l then some (l.take (l.length-4)) else none
theorem lq (l:List UInt8):(fK l).length=l.length+4:=by unfold fK GZ;simp
structure Behind (k:Nat) (r r':Rd):Prop where
 s:r'.s.data.toList = r.s.data.toList.drop k
 pos:r.pos = k + r'.pos
 err:r.err = r'.err
 fit:k ≤ r.s.size
theorem Behind.size {k:Nat} {r r':Rd} (h:Behind k r r'):r.s.size=k+r'.s.size:=by
 have h1:=congrArg List.length h.s
 have a:=h.fit
 simp only [List.length_drop] at h1
 have d:r'.s.data.toList.length=r'.s.size:=by simp
 have b:r.s.data.toList.length=r.s.size:=by simp
 omega
theorem kM (s:ByteArray) (i n:Nat):(s.extract i (i+n)).data.toList=(s.data.toList.drop i).take n:=by
 rw [ByteArray.data_extract,Array.toList_extract,List.extract_eq_take_drop,Nat.add_sub_cancel_left]
theorem Behind.left {k:Nat} {r r':Rd} (h:Behind k r r'):r.left=r'.left:=by
 unfold Rd.left
 rw [h.s,List.drop_drop,h.pos]
theorem Behind.num {k:Nat} {r r':Rd} (h:Behind k r r') (a:Nat):Behind k (r.num a).1 (r'.num a).1∧(r.num a).2=(r'.num a).2:=by
 unfold Rd.num
 rw [←h.err]
 by_cases b:r.err≠0
 ·rw [if_pos b,if_pos b];exact ⟨h,rfl⟩
 rw [if_neg b,if_neg b,h.left]
 cases bI r'.left a 6 0 0 with
 | inl e=>exact ⟨⟨h.s,h.pos,rfl,h.fit⟩,rfl⟩
 | inr x=>exact ⟨⟨h.s,by have:=h.pos;show r.pos+x.2=k+(r'.pos+x.2);omega,rfl,h.fit⟩,rfl⟩
theorem Behind.raw {k:Nat} {r r':Rd} (h:Behind k r r') (n:Nat):Behind k (r.raw n).1 (r'.raw n).1∧(r.raw n).2=(r'.raw n).2:=by
 have d:=h.size
 have e:=h.pos
 unfold Rd.raw
 rw [←h.err]
 by_cases a:r.err≠0
 ·rw [if_pos a,if_pos a];exact ⟨h,rfl⟩
 rw [if_neg a,if_neg a]
 by_cases b:r.s.size-r.pos<n
 ·rw [if_pos b,if_pos (by omega)];exact ⟨⟨h.s,h.pos,rfl,h.fit⟩,rfl⟩
 rw [if_neg b,if_neg (by omega)]
 refine ⟨⟨h.s,by show r.pos+n=k+(r'.pos+n);omega,rfl,h.fit⟩,?_⟩
 show r.s.extract r.pos (r.pos+n)=r'.s.extract r'.pos (r'.pos+n)
 refine ba_eq ?_
 rw [kM,kM,h.s,h.pos,List.drop_drop]
theorem Behind.text {k:Nat} {r r':Rd} (h:Behind k r r') (a:Nat):Behind k (r.text a).1 (r'.text a).1∧(r.text a).2=(r'.text a).2:=by
 obtain ⟨h1,f⟩:=h.num a
 obtain ⟨b,g⟩:=h1.raw (r.num a).2
 unfold Rd.text
 rw [←h.err]
 rw [←f]
 by_cases d:r.err≠0
 ·rw [if_pos d,if_pos d];exact ⟨h,rfl⟩
 rw [if_neg d,if_neg d]
 rw [←b.err]
 by_cases e:((r.num a).1.raw (r.num a).2).1.err≠0
 ·rw [if_pos e,if_pos e];exact ⟨⟨b.s,h.pos,b.err,b.fit⟩,rfl⟩
 rw [if_neg e,if_neg e];exact ⟨b,g⟩
theorem Behind.fin {k:Nat} {r r':Rd} (h:Behind k r r'):r.fin=r'.fin:=by
 have b:=h.size
 have d:=h.pos
 unfold Rd.fin
 rw [←h.err]
 by_cases a:r.err≠0
 ·rw [if_pos a,if_pos a]
 rw [if_neg a,if_neg a]
 by_cases h1:r.pos<r.s.size
 ·rw [if_pos h1,if_pos (by omega)]
 rw [if_neg h1,if_neg (by omega)]
def zL (P:Program) (c:Code) (Q:Exit→Act→World→Prop):Nat→Nat→Act→World→Prop
 | 0,_,_,_=>False
 | n+1,l,a,w=> ∃X,findLabel c l=some (.seq .skip X)∧X.wp P (Exit.jumps (zL P c Q n) Q) a w
theorem MP (p:Nat→Prop):∀n,p n→ ∃m,p m∧ ∀k,k<m→ ¬p k:=by
 intro n
 induction n using Nat.strongRecOn with
 | _ n ih =>
  intro h
  by_cases a:∃k,k<n∧p k
  ·obtain ⟨k,e,d⟩:=a
   exact ih k e d
  exact ⟨n,h,fun k f b=>a ⟨k,f,b⟩⟩
open Classical in
noncomputable def xW (p:Nat→Prop):Nat:=if h:∃m,p m∧ ∀k,k<m→ ¬p k then Classical.choose h else 0
theorem Aw {p:Nat→Prop} {n:Nat} (h:p n):p (xW p)∧xW p≤n:=by
 have b:=MP p n h
 unfold xW
 rw [dif_pos b]
 have d:=Classical.choose_spec b
 exact ⟨d.1,Nat.le_of_not_lt fun a=>d.2 n a h⟩
theorem iq {P:Program} {c:Code} {Q:Exit→Act→World→Prop} {a:Act} {w:World} (n:Nat) (first:c.wp P (Exit.jumps (zL P c Q n) Q) a w):(Code.scope c).wp P Q a w:=by
 refine mh (fun l a w=> ∃m,zL P c Q m l a w) (fun l a w=>xW fun m=>zL P c Q m l a w) (Code.wp_mono (Exit.lV fun l a w h=>⟨n,h⟩) first) ?_
 rintro l a w ⟨m,hm⟩
 obtain ⟨h1,_⟩:=Aw (p:=fun m=>zL P c Q m l a w) hm
 generalize xW (fun m=>zL P c Q m l a w)=k at h1
 cases k with
 | zero=>exact h1.elim
 | succ k =>
  obtain ⟨X,d,b⟩:=h1
  refine ⟨_,d,wp_seq (wp_skip (Code.wp_mono (Exit.lV fun e a' w' h=>⟨⟨k,h⟩,?_⟩) b))⟩
  have:=(Aw (p:=fun m=>zL P c Q m e a' w') h).2
  omega
theorem vK {P:Program} {c X:Code} {Q:Exit→Act→World→Prop} {a:Act} {w:World} {n l:Nat} (b:findLabel c l=some (.seq .skip X)) (h:X.wp P (Exit.jumps (zL P c Q n) Q) a w):zL P c Q (n+1) l a w:=⟨X,b,h⟩
section
variable {P:Program} {ops:Array Oper} {md:Region.Mode} {Q:Exit → Act → World → Prop} {S:World → Prop}
theorem xw {ls:Array Bool} {j:Nat} (h:j∈Region.ready md ops ls):j<ops.size:=by
 obtain ⟨_,b,a,_⟩:=mem_ready.1 h
 exact (Array.getElem?_eq_some_iff.1 a).1
theorem IJ {n i:Nat} {oi:Oper} {v:Value} (hi:ops[i]? = some oi) (h:∀(j:Nat) (o:Oper) cs b,ops[j]? = some o→o.op ≠ .select cs b)
  (G:ops.size≤n) (K:∀c a w,Q (.panic c) (a.put oi.dst v) w→Q (.panic c) a w) :
  ∀(f:Nat) (ls:Array Bool) (a:Act) (w:World),HeadInv md ops n ls →
   (∀j m,ops[j]? = some m→j≠i→ls.getD j true=false→(∀e∈m.after,Region.binds md e=true→e.on≠i)→oi.apart ops m=true) →
   i∈Region.ready md ops ls→YieldsIf P ops S oi v a→S w→wpL P md ops Q S n f (ls.setIfInBounds i true) (a.put oi.dst v) w→wpL P md ops Q S n (f+1) ls a w:=by
 intro f
 induction f with
 | zero =>
  intro ls a w t _ p hy hS H
  refine ⟨fun F=>(by rw [F] at p;cases p),fun j r=> ?_⟩
  have g:j<n:=Nat.lt_of_lt_of_le (xw r) G
  refine ⟨g,?_⟩
  by_cases e:j=i
  ·subst e;exact hy.wpOp hi hS ⟨hS,H⟩
  have:=H.1 j (ready_mono r e);omega
 | succ f ih =>
  intro ls a w t d p hy hS H
  have C:=(mem_ready.1 p).1
  refine ⟨fun F=>(by rw [F] at p;cases p),fun j r=> ?_⟩
  have g:j<n:=Nat.lt_of_lt_of_le (xw r) G
  refine ⟨g,?_⟩
  by_cases e:j=i
  ·subst e;exact hy.wpOp hi hS ⟨hS,H⟩
  obtain ⟨l,m,q,z⟩:=mem_ready.1 r
  have y:∀x∈m.after,Region.binds md x=true→x.on≠i:=fun x hx hb B=>by
   have h1:=z x hx hb
   rw [B,getD_both C] at h1
   cases h1
  have J:=wpOp_putIf q (d j m q e l y) (fun cs b=>h i oi cs b hi) (fun cs b=>h j m cs b q) K hy (H.2 j (ready_mono r e)).2
  refine wpOp_mono (fun a' w' A=>⟨A.2.1,ih (ls.setIfInBounds j true) a' w' (t.set r g) ?_ (ready_mono p (Ne.symm e)) A.1 A.2.1 ?_⟩) J
  ·intro k ok I E u D
   refine d k ok I E ?_ D
   by_cases s:j=k
   ·subst s;exact l
   rwa [getD_set_ne true s] at u
  rw [Array.setIfInBounds_comm _ _ e];exact A.2.2
theorem WL.skip {n i:Nat} {oi:Oper} {f:Nat} {ls:Array Bool} {a:Act} {w:World} (hi:ops[i]? = some oi) (b:lastB ops n=true) (e:i<n)
  (j:Region.free .any ops ls i=true) (k:(Region.ready .any ops ls).contains i=true) (m:∀c a w,Q (.panic c) (a.put oi.dst undef) w→Q (.panic c) a w) (l:Region.wanted oi (yielded ops a.tmps)=false)
  (hS:S w) (h:WL P ops Q S n f (ls.setIfInBounds i true) (a.put oi.dst undef) w):WL P ops Q S n (f+1) ls a w:=by
 simp only [lastB,Bool.and_eq_true,decide_eq_true_eq] at b
 have d:i∈Region.ready .any ops ls:=by simpa using k
 exact ⟨fun g=>zO hi (Region.noSelect_spec b.1.1.1) b.1.2 b.2 b.1.1.2 e m f ls a w g (Region.free_spec hi j) d (.inr ⟨l,rfl⟩) hS (h.out (g.set d e))⟩
def Pk (ops:Array Oper) (n:Nat):Bool:=Region.noSelect ops&&decide (ops.size=n)
theorem WN.take {n i:Nat} {oi:Oper} {v:Value} {f:Nat} {ls:Array Bool} {a:Act} {w:World} (hi:ops[i]? = some oi) (e:Pk ops n=true) (_hin:i<n)
  (g:Region.free .any ops ls i=true) (j:(Region.ready .any ops ls).contains i=true) (l:∀c a w,Q (.panic c) (a.put oi.dst v) w→Q (.panic c) a w) (k:Region.wanted oi (yielded ops a.tmps)=true)
  (hy:∀w,S w→(execOp a.eval oi).run P w= .ok (.value v) w) (hS:S w) (h:WL P ops Q S n f (ls.setIfInBounds i true) (a.put oi.dst v) w):WL P ops Q S n (f+1) ls a w:=by
 simp only [Pk,Bool.and_eq_true,decide_eq_true_eq] at e
 have b:i∈Region.ready .any ops ls:=by simpa using j
 exact ⟨fun d=>IJ hi (Region.noSelect_spec e.1) (by omega) l f ls a w d (Region.free_spec hi g) b (.inl ⟨k,hy⟩) hS (h.out (d.set b (by have:=xw b;omega)))⟩
theorem WN.done {n:Nat} {ls:Array Bool} {a:Act} {w:World} (e:ops.size=n) (b:Region.ready .any ops ls=[]) (h:Q .normal a w):WL P ops Q S n 0 ls a w:=by
 refine ⟨fun _=>⟨fun j d=> ?_,?_⟩⟩
 ·rw [b] at d;cases d
 rw [show ops.size-n=0 from by omega]
 exact ⟨b,h⟩
theorem tN {id:Nat} {a:Act} {w:World} {l:List Oper} (n:Nat) (S:World→Prop) (hm:P.follows .mixedOrders=true) (e:Pk l.toArray n=true)
  (h:WL P l.toArray Q S n n (Array.replicate l.toArray.size false) a w.drew):(Code.region id l.toArray true).wp P Q a w:=by
 simp only [Pk,Bool.and_eq_true,decide_eq_true_eq] at e
 have b:HeadInv .any l.toArray n (Array.replicate l.toArray.size false) :=
  ⟨by simp,fun j g _ d=>(by rw [getD_replicate_false] at d;cases d),fun t h1 f=>absurd f (by omega)⟩
 have H:=o9 _ _ _ _ (h.out b)
 rw [show n+(l.toArray.size-n)=l.toArray.size from by omega] at H
 exact wp_region_any hm H
end
end
end Go.Proofs.YtlhcoanbhnphgaaGreatDoor
