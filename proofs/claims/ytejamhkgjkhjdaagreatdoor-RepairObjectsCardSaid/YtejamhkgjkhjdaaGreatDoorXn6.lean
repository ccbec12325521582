/- A part of this claim. -/
import Derived.Lib.SlBytesRow
import Derived.ScopeJumps
import Derived.Test.YtejamhkgjkhjdaaGreatDoorXn5
import Derived.WalkMore
namespace Go.Proofs.YtejamhkgjkhjdaaGreatDoor
open Tryz
set_option maxHeartbeats 64000000
set_option maxRecDepth 100000
section
open Go.RowKit
def kC (c:ByteArray):Nat→Nat→W32
 | 0=>ig
 | n+1=>dU (kC c n) (blk (c.extract (64*n) (64*n+64)))
def CF (s:ByteArray):Nat→W32:=kC (ofB (pW s.data.toList)) ((pW s.data.toList).length/64)
def FX (s:ByteArray):List UInt8:=(List.range 32).map (stB (CF s))
theorem JB (l:List UInt8):∃n,(pW l).length=64*n:=by
 have h:(pW l).length=l.length+1+tK ((l.length+1)%64)+8:=by
  unfold pW oZ;simp;omega
 refine ⟨(pW l).length/64,?_⟩
 rw [h];unfold tK;omega
end
section
theorem nL {r q:Nat→UInt8} (h:∀k,k<64→r k=q k) (i:Nat) (hi:i<16):∀j,j≤4→kN r i j=kN q i j
 | 0,_=>rfl
 | j+1,hj=>by
  unfold kN
  rw [nL h i hi j (by omega),h _ (by omega)]
theorem qw {r q:Nat→UInt8} (h:∀k,k<64→r k=q k):∀n,bq r n=bq q n
 | 0=>by
  funext k;unfold bq fD
  by_cases a:k<16
  ·rw [if_pos a,if_pos a,nL h k a 4 (by omega)]
  rw [if_neg a,if_neg a];split<;>rfl
 | n+1=>by unfold bq;rw [qw h n]
theorem qN (s:Nat→W32) {r q:Nat→UInt8} (h:∀k,k<64→r k=q k):dU s r=dU s q:=by
 funext k;unfold dU;rw [qw h]
theorem xG (h:HS) (hm:h.many=0) (c:List UInt8) (f:c.length=64):∀j,j≤63 →
  (h.feed (c.take j)).many=j∧(h.feed (c.take j)).st=h.st∧ ∀k,k<j→(h.feed (c.take j)).rest k=c.getD k 0
 | 0,_=>⟨hm,rfl,fun k i=>by omega⟩
 | j+1,hj=>by
  obtain ⟨h1,b,d⟩:=xG h hm c f j (by omega)
  have e:c.take (j+1)=c.take j++[c.getD j 0]:=by
   rw [List.take_succ_eq_append_getElem (by omega)];congr 1;simp [show j<c.length from by omega]
  rw [e,lI]
  generalize h.feed (c.take j)=g at h1 b d
  unfold HS.put
  rw [h1,if_neg (by omega)]
  refine ⟨rfl,b,fun k i=> ?_⟩
  show upd g.rest j _ k=_
  unfold upd
  by_cases a:k=j
  ·subst a;rw [if_pos rfl]
  rw [if_neg a];exact d k (by omega)
theorem DZ (h:HS) (hm:h.many=0) (c:List UInt8) (f:c.length=64) :
  (h.feed c).many=0∧(h.feed c).st=dU h.st (fun k=>c.getD k 0):=by
 obtain ⟨h1,b,d⟩:=xG h hm c f 63 (by omega)
 have e:c=c.take 63++[c.getD 63 0]:=by
  have t:=List.take_succ_eq_append_getElem (l:=c) (i:=63) (by omega)
  have j:c.take (63+1)=c:=List.take_of_length_le (by omega)
  have g:c.getD 63 0=c[63]:=by simp [show 63<c.length from by omega]
  rw [g];rw [j] at t;exact t
 have m:h.feed c=(h.feed (c.take 63)).put (c.getD 63 0):=by rw [←lI,←e]
 rw [m]
 generalize h.feed (c.take 63)=g at h1 b d
 unfold HS.put
 rw [h1,if_pos (by omega)]
 refine ⟨rfl,?_⟩
 show dU g.st _=_
 rw [b]
 refine qN _ fun k n=> ?_
 unfold upd
 by_cases a:k=63
 ·subst a;rw [if_pos rfl]
 rw [if_neg a];exact d k (by omega)
theorem qI (h:HS) (hm:h.many=0) (a:h.st=ig) (L:List UInt8) (N:Nat) (f:L.length=64*N):∀n,n≤N →
  (h.feed (L.take (64*n))).many=0∧(h.feed (L.take (64*n))).st=kC (ofB L) n
 | 0,_=>⟨hm,a⟩
 | n+1,hn=>by
  obtain ⟨h1,d⟩:=qI h hm a L N f n (by omega)
  have e:L.take (64*(n+1))=L.take (64*n)++(L.drop (64*n)).take 64:=by
   rw [show 64*(n+1)=64*n+64 from by omega,List.take_add]
  rw [e,oQ]
  obtain ⟨g,b⟩:=DZ (h.feed (L.take (64*n))) h1 ((L.drop (64*n)).take 64) (by rw [List.length_take,List.length_drop];omega)
  refine ⟨g,?_⟩
  rw [b,d]
  show _=dU (kC (ofB L) n) (blk ((ofB L).extract (64*n) (64*n+64)))
  refine qN _ fun k i=> ?_
  unfold blk
  rw [Lib.extract_data,aS,show 64*n+64-64*n=64 from by omega]
def HS.noT (h:HS):HS:={ h with taken:=0 }
theorem Jm (h:HS):h.noT.st=h.st:=rfl
theorem yK (h:HS) (x:UInt8):(h.put x).noT=h.noT.put x:=by unfold HS.put HS.noT;dsimp only;split<;>rfl
theorem oP (l:List UInt8):∀h:HS,(h.feed l).noT=h.noT.feed l:=by
 induction l with
 | nil=>intro h;rfl
 | cons x l ih=>intro h;show ((h.put x).feed l).noT=(h.noT.put x).feed l;rw [ih,yK]
theorem Gh (h:HS) (x:UInt8):(h.put x).begun=h.begun:=by unfold HS.put;split<;>rfl
theorem D5 (l:List UInt8):∀h:HS,(h.feed l).begun=h.begun:=by
 induction l with
 | nil=>intro h;rfl
 | cons x l ih=>intro h;show ((h.put x).feed l).begun=_;rw [ih,Gh]
theorem Mx (s:ByteArray):vH s=FX s:=by
 obtain ⟨N,f⟩:=JB s.data.toList
 have b:s.data.toList.length=s.size:=by simp
 unfold vH FX HS.sum CF
 have key:(bP.w1 s 1).ended.st=kC (ofB (pW s.data.toList)) ((pW s.data.toList).length/64):=by
  have d:bP.w1 s 1= { bP.begin.feed s.data.toList with taken:=(s.size:Int) }:=by unfold HS.w1;rw [if_neg (by omega)]
  have hb:(bP.w1 s 1).begin=bP.w1 s 1:=by
   unfold HS.begin
   rw [if_pos (by rw [d];exact (D5 s.data.toList bP.begin).trans rfl)]
  have a:((bP.w1 s 1).put 128).many=(s.size+1)%64:=by
   rw [jP _ _ (by rw [d];exact HS.lZ _ _ (by show 0<64;omega)),d]
   show ((bP.begin.feed s.data.toList).many+1)%64=_
   rw [mE _ (by show 0<64;omega),b]
   show ((0+s.size)%64+1)%64=_
   omega
  have h:(bP.w1 s 1).taken.toNat=s.size:=by rw [d];exact Int.toNat_natCast _
  have e:(bP.w1 s 1).ended.noT=(bP.begin.feed (pW s.data.toList)).noT:=by
   unfold HS.ended
   rw [hb,a,h,oP,oP,yK]
   have h1:(bP.w1 s 1).noT=(bP.begin.feed s.data.toList).noT:=by rw [d];rfl
   rw [h1,←yK,←oP,←oP,←lI,←oQ,←oQ]
   unfold pW
   rw [b]
   congr 2
   simp
  have g:=congrArg HS.st e
  rw [Jm,Jm] at g
  rw [g,f,Nat.mul_div_cancel_left _ (by omega)]
  have:=(qI bP.begin rfl rfl (pW s.data.toList) N f N (Nat.le_refl _)).2
  rwa [List.take_of_length_le (by omega)] at this
 rw [key]
end
section
open Go.RowKit
def kJ:W32:=0xedb88320#32
def iX (n:W32):W32:=(n >>> 1) ^^^ (if n.getLsbD 0 then kJ else 0#32)
def kI (n:W32):W32:=iX (iX (iX (iX n)))
def gM:List W32:=[0x00000000#32,0x1db71064#32,0x3b6e20c8#32,0x26d930ac#32,0x76dc4190#32,0x6b6b51f4#32,0x4db26158#32,0x5005713c#32,0xedb88320#32,0xf00f9344#32,0xd6d6a3e8#32,0xcb61b38c#32,0x9b64c2b0#32,0x86d3d2d4#32,0xa00ae278#32,0xbdbdf21c#32]
def Gv (n:W32):W32:=(n >>> 4) ^^^ gM.getD (n &&& 15#32).toNat 0#32
theorem FM (a b:W32):iX (a ^^^ b)=iX a ^^^ iX b:=by
 unfold iX
 rw [BitVec.ushiftRight_xor_distrib,BitVec.getLsbD_xor]
 generalize a >>> 1=x
 generalize b >>> 1=y
 cases a.getLsbD 0<;>cases b.getLsbD 0
 ·simp
 ·show (x ^^^ y) ^^^ kJ=(x ^^^ 0#32) ^^^ (y ^^^ kJ)
  rw [BitVec.xor_zero]
  ac_rfl
 ·show (x ^^^ y) ^^^ kJ=(x ^^^ kJ) ^^^ (y ^^^ 0#32)
  rw [BitVec.xor_zero]
  ac_rfl
 show (x ^^^ y) ^^^ 0#32=(x ^^^ kJ) ^^^ (y ^^^ kJ)
 have h:(x ^^^ kJ) ^^^ (y ^^^ kJ)=(x ^^^ y) ^^^ (kJ ^^^ kJ):=by ac_rfl
 rw [h,BitVec.xor_self]
theorem FP (a b:W32):kI (a ^^^ b)=kI a ^^^ kI b:=by unfold kI;simp only [FM]
theorem jO (n:W32) (h:n.toNat%2=0):iX n=n >>> 1:=by
 have a:n.getLsbD 0=false:=by
  rw [BitVec.getLsbD,Nat.testBit_zero]
  simp only [decide_eq_false_iff_not]
  omega
 unfold iX
 rw [a]
 simp
theorem iY (n:W32) (k:Nat):(n >>> k).toNat=n.toNat/2^k:=by rw [BitVec.toNat_ushiftRight,Nat.shiftRight_eq_div_pow]
theorem Cy (n:W32) (h:n.toNat%16=0):kI n=n >>> 4:=by
 unfold kI
 have h1:(n >>> 1).toNat=n.toNat/2:=by rw [iY]
 have b:(n >>> 1 >>> 1).toNat=n.toNat/2/2:=by rw [iY,h1]
 have a:(n >>> 1 >>> 1 >>> 1).toNat=n.toNat/2/2/2:=by rw [iY,b]
 rw [jO n (by omega),jO (n >>> 1) (by rw [h1];omega),jO (n >>> 1 >>> 1) (by rw [b];omega),jO (n >>> 1 >>> 1 >>> 1) (by rw [a];omega)]
 apply BitVec.eq_of_toNat_eq
 rw [iY,a,iY]
 omega
theorem GJ:∀l:Fin 16,kI (BitVec.ofNat 32 l.val)=gM.getD l.val 0#32:=by decide +kernel
theorem Me (n:W32):(n &&& 15#32).toNat=n.toNat%16:=by
 rw [BitVec.toNat_and]
 exact Nat.and_two_pow_sub_one_eq_mod n.toNat 4
theorem Jo (n:W32):Gv n=kI n:=by
 have d:n=((n >>> 4) <<< 4) ^^^ (n &&& 15#32):=by
  apply BitVec.eq_of_getLsbD_eq
  intro i hi
  have a:(15#32).getLsbD i=decide (i<4):=by
   revert hi
   have:∀j:Fin 32,(15#32).getLsbD j.val=decide (j.val<4):=by decide +kernel
   exact fun hi=>this ⟨i,hi⟩
  rw [BitVec.getLsbD_xor,BitVec.getLsbD_and,BitVec.getLsbD_shiftLeft,BitVec.getLsbD_ushiftRight,a]
  by_cases h:i<4
  ·simp [h,hi]
  simp [h,hi,show 4+(i-4)=i by omega]
 have e:kI (n &&& 15#32)=gM.getD (n &&& 15#32).toNat 0#32:=by
  have b:(n &&& 15#32).toNat<16:=by rw [Me];omega
  have:=GJ ⟨_,b⟩
  rw [←this]
  congr 1
  apply BitVec.eq_of_toNat_eq
  rw [BitVec.toNat_ofNat]
  show _=(n &&& 15#32).toNat%4294967296
  omega
 have f:kI ((n >>> 4) <<< 4)=n >>> 4:=by
  have h1:(((n >>> 4) <<< 4):W32).toNat=n.toNat/16*16:=by
   rw [BitVec.toNat_shiftLeft,iY,Nat.shiftLeft_eq]
   have:=n.isLt
   omega
  rw [Cy _ (by rw [h1];omega)]
  apply BitVec.eq_of_toNat_eq
  rw [iY,h1,iY]
  omega
 unfold Gv
 rw [←e]
 conv=>rhs;rw [d,FP,f]
def uF (n:W32) (b:UInt8):W32:=kI (kI (n ^^^ bw b))
def l7 (n:W32) (l:List UInt8):W32:=l.foldl uF n
theorem wE (n:W32) (l:List UInt8) (b:UInt8):l7 n (l++[b])=uF (l7 n l) b:=by unfold l7;rw [List.foldl_append];rfl
def dS (l:List UInt8):W32:= ~~~ l7 (~~~ 0#32) l
def dD (n:W32) (i:Nat):UInt8:=UInt8.ofNat (n.toNat/2^(8*i)%256)
def zU (l:List UInt8):List UInt8:=[dD (dS l) 0,dD (dS l) 1,dD (dS l) 2,dD (dS l) 3]
def bS (l:List UInt8):List UInt8:=l++zU l
def bH (l:List UInt8):Option (List UInt8):=if 4≤l.length∧bS (l.take (l.length-4))=l then some (l.take (l.length-4)) else none
theorem iB (l:List UInt8):(bS l).length=l.length+4:=by unfold bS zU;simp
end
section
theorem wN {s t:Nat→W32} (h:∀k,k<8→s k=t k) (w:Nat→W32):∀n,∀k,k<8→bY w s n k=bY w t n k
 | 0=>h
 | n+1=>fun k e=>by
  have d:=wN h w n
  show stepW (bY w s n) _ _ k=stepW (bY w t n) _ _ k
  generalize bY w s n=a at d ⊢
  generalize bY w t n=b at d ⊢
  unfold stepW tW uW
  rw [d 0 (by omega),d 1 (by omega),d 2 (by omega),d 3 (by omega),d 4 (by omega),d 5 (by omega),d 6 (by omega),d 7 (by omega)]
theorem KD {s t:Nat→W32} (h:∀k,k<8→s k=t k) (r:Nat→UInt8) (k:Nat) (a:k<8):dU s r k=dU t r k:=by
 unfold dU;rw [h k a,wN h _ _ k a]
def fN {α:Type} (n:Nat) (k:Nat→α):α:=match n with
 | 0=>k 0
 | m+1=>k (m+1)
theorem Np {α:Type} (n:Nat) (k:Nat→α):fN n k=k n:=by cases n<;>rfl
def fW {α:Type} (x:W32) (k:W32→α):α:=fN x.toNat fun n=>k (BitVec.ofNat 32 n)
theorem J7 {α:Type} (x:W32) (k:W32→α):fW x k=k x:=by unfold fW;rw [Np,BitVec.ofNat_toNat,BitVec.setWidth_eq]
def yw:Nat→List W32→List W32
 | 0,l=>l
 | n+1,l=>fW (nQ (l.getD 1 0) 17 19 10+l.getD 6 0+nQ (l.getD 14 0) 7 18 3+l.getD 15 0) fun x=>yw n (x::l)
structure S8 where
 (a b c d e f g h:W32)
def S8.w (s:S8):Nat→W32:=eight s.a s.b s.c s.d s.e s.f s.g s.h
def S8.step (s:S8) (k w:W32):S8 :=
 let t:=s.h+nT s.e 6 11 25+(s.e &&& s.f ^^^ ~~~ s.e &&& s.g)+k+w
 ⟨t+(nT s.a 2 13 22+(s.a &&& s.b ^^^ s.a &&& s.c ^^^ s.b &&& s.c)),s.a,s.b,s.c,s.d+t,s.e,s.f,s.g⟩
def S8.force {α:Type} (s:S8) (k:S8→α):α:=fW s.a fun a=>fW s.b fun b=>fW s.c fun c=>fW s.d fun d=>fW s.e fun e=>fW s.f fun f=>fW s.g fun g=>fW s.h fun h=>k ⟨a,b,c,d,e,f,g,h⟩
theorem S8.force_eq {α:Type} (s:S8) (k:S8→α):s.force k=k s:=by unfold S8.force;simp only [J7]
def lT:List W32→List W32→S8→S8
 | k::ks,w::ws,s=>(s.step k w).force fun s=>lT ks ws s
 | _,_,s=>s
def S8.add (s t:S8):S8:=⟨s.a+t.a,s.b+t.b,s.c+t.c,s.d+t.d,s.e+t.e,s.f+t.f,s.g+t.g,s.h+t.h⟩
def Iz (b:List UInt8) (i:Nat):W32:=(((bw (b.getD (4*i) 0)) <<< 8 ||| bw (b.getD (4*i+1) 0)) <<< 8 ||| bw (b.getD (4*i+2) 0)) <<< 8 ||| bw (b.getD (4*i+3) 0)
def iO (b:List UInt8):Nat→List W32→List W32
 | 0,l=>l
 | n+1,l=>fW (Iz b (15-n)) fun x=>iO b n (x::l)
def zq (s:S8) (b:List UInt8):S8:=(s.add (lT iI (yw 48 (iO b 16 [])).reverse s)).force id
theorem Mw (s:S8) (k w:W32):(s.step k w).w=stepW s.w k w:=rfl
theorem nV (a:Nat→W32) (s:Nat→W32):∀n,n≤64→ ∀(t:S8),t.w=bY a s (64-n)→(lT (iI.drop (64-n)) ((List.range n).map fun i=>a (64-n+i)) t).w=bY a s 64
 | 0,_,t,ht=>by simpa [lT] using ht
 | n+1,hn,t,ht=>by
  have b:iI.drop (64-(n+1))=rK (64-(n+1))::iI.drop (64-n):=by
   have d:=mQ
   rw [List.drop_eq_getElem_cons (by omega)]
   congr 1
   ·unfold rK;rw [List.getD_eq_getElem?_getD,List.getElem?_eq_getElem (by omega)];rfl
   rw [show 64-(n+1)+1=64-n from by omega]
  rw [b,List.range_succ_eq_map,List.map_cons,List.map_map]
  unfold lT
  rw [S8.force_eq]
  have hm:(List.range n).map ((fun i=>a (64-(n+1)+i)) ∘ Nat.succ)=(List.range n).map fun i=>a (64-n+i):=List.map_congr_left fun i _=>by
   show a (64-(n+1)+(i+1))=_;congr 1;omega
  rw [hm]
  refine nV a s n (by omega) _ ?_
  rw [Mw,ht,show 64-n=(64-(n+1))+1 from by omega];rfl
theorem fV (r:Nat→UInt8):∀n k,k<16+n→ ∀m,n≤m→bq r m k=bq r n k:=by
 intro n k a m hm
 induction m with
 | zero =>
  obtain rfl:n=0:=by omega
  rfl
 | succ m ih =>
  by_cases e:n=m+1
  ·rw [e]
  rw [←ih (by omega)]
  show upd (bq r m) (16+m) _ k=_
  unfold upd;rw [if_neg (by omega)]
def ru (f:Nat→W32) (n:Nat):List W32:=((List.range n).map f).reverse
theorem nZ (f:Nat→W32) (n i:Nat) (h:i<n):(ru f n).getD i 0=f (n-1-i):=by
 unfold ru
 rw [List.getD_eq_getElem?_getD,List.getElem?_reverse (by simpa using h)]
 simp [show n-1-i<n from by omega]
theorem wO (f:Nat→W32) (n:Nat):ru f (n+1)=f n::ru f n:=by unfold ru;rw [List.range_succ];simp
theorem wK (r : Nat → UInt8) : ∀ m n, n + m = 48 → yw m (ru (bq r 48) (16 + n)) = ru (bq r 48) 64
  | 0, n, h => by obtain rfl : n = 48 := by omega
                  rfl
  | m + 1, n, h => by
    unfold yw
    rw [J7, nZ _ _ _ (by omega), nZ _ _ _ (by omega), nZ _ _ _ (by omega), nZ _ _ _ (by omega)]
    rw [show 16 + n - 1 - 1 = 16 + n - 2 from by omega, show 16 + n - 1 - 6 = 16 + n - 7 from by omega, show 16 + n - 1 - 14 = 16 + n - 15 from by omega, show 16 + n - 1 - 15 = 16 + n - 16 from by omega]
    have e : bq r 48 (16 + n) = nQ (bq r 48 (16 + n - 2)) 17 19 10 + bq r 48 (16 + n - 7) + nQ (bq r 48 (16 + n - 15)) 7 18 3 + bq r 48 (16 + n - 16) := by
      rw [fV r (n + 1) (16 + n) (by omega) 48 (by omega), fV r n (16 + n - 2) (by omega) 48 (by omega), fV r n (16 + n - 7) (by omega) 48 (by omega), fV r n (16 + n - 15) (by omega) 48 (by omega), fV r n (16 + n - 16) (by omega) 48 (by omega)]
      show upd (bq r n) (16 + n) (EL (bq r n) (16 + n)) (16 + n) = _
      unfold upd; rw [if_pos rfl]; rfl
    rw [← e, ← wO, show 16 + n + 1 = 16 + (n + 1) from by omega]
    exact wK r m (n + 1) (by omega)
theorem Iy (b:List UInt8) (i:Nat):Iz b i=kN (fun k=>b.getD k 0) i 4:=by
 show _=((((0:W32) <<< 8 ||| bw (b.getD (4*i+0) 0)) <<< 8 ||| bw (b.getD (4*i+1) 0)) <<< 8 ||| bw (b.getD (4*i+2) 0)) <<< 8 ||| bw (b.getD (4*i+3) 0)
 have:(0:W32) <<< 8 ||| bw (b.getD (4*i+0) 0)=bw (b.getD (4*i) 0):=by simp
 rw [this];rfl
theorem mD (b:List UInt8):∀n,n≤16→iO b n (ru (bq (fun k=>b.getD k 0) 48) (16-n))=ru (bq (fun k=>b.getD k 0) 48) 16
 | 0,_=>rfl
 | n+1,h=>by
  unfold iO
  rw [J7]
  have e:Iz b (15-n)=bq (fun k=>b.getD k 0) 48 (16-(n+1)):=by
   rw [fV _ 0 (16-(n+1)) (by omega) 48 (by omega),Iy,show 16-(n+1)=15-n from by omega]
   show _=fD _ 16 0 (15-n)
   unfold fD;rw [if_pos (by omega)]
  rw [e,←wO,show 16-(n+1)+1=16-n from by omega]
  exact mD b n (by omega)
theorem Ij (s:S8) (b:List UInt8):(zq s b).w=dU s.w fun k=>b.getD k 0:=by
 unfold zq
 rw [S8.force_eq]
 have h1:iO b 16 []=ru (bq (fun k=>b.getD k 0) 48) 16:=mD b 16 (Nat.le_refl _)
 have e:=wK (fun k=>b.getD k 0) 48 0 rfl
 rw [h1,e]
 have d:(ru (bq (fun k=>b.getD k 0) 48) 64).reverse=(List.range 64).map fun i=>bq (fun k=>b.getD k 0) 48 (64-64+i):=by
  unfold ru;rw [List.reverse_reverse];exact List.map_congr_left fun i _=>by rw [Nat.sub_self,Nat.zero_add]
 rw [d]
 have a:=nV (bq (fun k=>b.getD k 0) 48) s.w 64 (Nat.le_refl _) s rfl
 rw [Nat.sub_self,List.drop_zero] at a
 generalize f:lT iI _ s=t at a
 funext k
 unfold dU
 rw [←a]
 show S8.w ⟨_,_,_,_,_,_,_,_⟩ k=S8.w s k+S8.w t k
 unfold S8.w eight
 repeat' split
 all_goals rfl
def rU (l:List UInt8):Nat→S8
 | 0=>⟨0x6a09e667#32,0xbb67ae85#32,0x3c6ef372#32,0xa54ff53a#32,0x510e527f#32,0x9b05688c#32,0x1f83d9ab#32,0x5be0cd19#32⟩
 | n+1=>zq (rU l n) ((l.drop (64*n)).take 64)
theorem uZ (l:List UInt8):∀n k,k<8→(rU l n).w k=kC (ofB l) n k
 | 0,k,a=>by
  obtain h|h|h|h|h|h|h|h:k=0∨k=1∨k=2∨k=3∨k=4∨k=5∨k=6∨k=7:=by omega
  all_goals subst h;rfl
 | n+1,k,a=>by
  show (zq (rU l n) ((l.drop (64*n)).take 64)).w k=dU (kC (ofB l) n) (blk ((ofB l).extract (64*n) (64*n+64))) k
  rw [Ij]
  have e:(fun k=>((l.drop (64*n)).take 64).getD k 0)=blk ((ofB l).extract (64*n) (64*n+64)):=by
   funext j;unfold blk
   rw [ByteArray.data_extract,Array.toList_extract,List.extract_eq_take_drop]
   simp [ofB]
  rw [e]
  exact KD (fun k a=>uZ l n k a) _ k a
def MB (l:List UInt8):List UInt8:=(List.range 32).map (stB (rU (pW l) ((pW l).length/64)).w)
theorem KT (s:ByteArray):MB s.data.toList=FX s:=by
 unfold MB FX CF
 refine List.map_congr_left fun j a=> ?_
 unfold stB
 rw [uZ _ _ _ (by have:=List.mem_range.1 a;omega)]
end
section
open Go.RowKit
def Exit.jumps (J:Nat→Act→World→Prop) (Q:Exit→Act→World→Prop):Exit→Act→World→Prop
 | .goto l,a,w=>J l a w
 | e,a,w=>Q e a w
section
variable {P:Program} {a:Act} {w:World} {Q:Exit → Act → World → Prop}
theorem Exit.gB {J:Nat→Act→World→Prop}:Exit.jumps J Q .ret a w=Q .ret a w:=rfl
theorem Exit.uf {J:Nat→Act→World→Prop} {l:Nat}:Exit.jumps J Q (.goto l) a w=J l a w:=rfl
theorem kE {c:Code} (J:Nat→Act→World→Prop) (μ:Nat→Act→World→Nat) (first:c.wp P (Exit.jumps J Q) a w)
  (t:∀l a w,J l a w→ ∃rest,findLabel c l=some rest∧rest.wp P (Exit.jumps (fun s a' w'=>J s a' w'∧μ s a' w'<μ l a w) Q) a w):(Code.scope c).wp P Q a w:=by
 intro b k cs
 have key:∀n l a w,μ l a w=n→J l a w→ ∃rest,findLabel c l=some rest∧ ∃e a' w',Q e a' w'∧Arrives P (lone (b.at a (.code rest:: .inScope c::k)) cs w) b k cs e a' w':=by
  intro n
  induction n using Nat.strongRecOn with
  | _ n ih =>
   intro l a w B y
   obtain ⟨rest,A,x⟩:=t l a w y
   refine ⟨rest,A,?_⟩
   obtain ⟨e,d,g,j,f⟩:=x b (.inScope c::k) cs
   cases e with
   | normal=>exact ⟨.normal,d,g,j,Steps.trans f (.one step_inScope)⟩
   | exit id=>exact ⟨.exit id,d,g,j,fun k' u=>f k' (by simp [exitTo,u])⟩
   | goto s =>
    obtain ⟨v,z⟩:=j
    obtain ⟨r,q,p,m,o,i,h⟩:=ih _ (by omega) s d g rfl v
    exact ⟨p,m,o,i,.of_steps (f _ (by simp [gotoIn,q])) h⟩
   | ret=>exact ⟨_,d,g,j,f⟩
   | panic ch=>exact ⟨_,d,g,j,f⟩
   | outgrown=>exact ⟨_,d,g,j,f⟩
 obtain ⟨e,d,g,j,f⟩:=first b (.inScope c::k) cs
 cases e with
 | normal=>exact ⟨.normal,d,g,j,.head step_scope (Steps.trans f (.one step_inScope))⟩
 | exit id=>exact ⟨.exit id,d,g,j,fun k' u=> .head step_scope (f k' (by simp [exitTo,u]))⟩
 | goto s =>
  obtain ⟨r,q,p,m,o,i,h⟩:=key _ s d g rfl j
  exact ⟨p,m,o,i,.of_steps (.head step_scope (f _ (by simp [gotoIn,q]))) h⟩
 | ret=>exact ⟨_,d,g,j,.of_steps (.one step_scope) f⟩
 | panic ch=>exact ⟨_,d,g,j,.of_steps (.one step_scope) f⟩
 | outgrown=>exact ⟨_,d,g,j,.of_steps (.one step_scope) f⟩
theorem Exit.jU {J d:Nat→Act→World→Prop} (h:∀l a w,J l a w→d l a w) (e:Exit) (a:Act) (w:World) (b:Exit.jumps J Q e a w):Exit.jumps d Q e a w:=by
 cases e<;>first|exact h _ _ _ b|exact b
theorem eZ {c:Code} (J:Nat→Act→World→Prop) (μ:Nat→Act→World→Nat)
  (g:∀l a w,J l a w→(∀d X,findLabel c d=some (.seq .skip X)→ ∀a' w',J d a' w'∧μ d a' w'<μ l a w→X.wp P (Exit.jumps (fun d a' w'=>J d a' w'∧μ d a' w'<μ l a w) Q) a' w') →
   ∃X,findLabel c l=some (.seq .skip X)∧X.wp P (Exit.jumps (fun d a' w'=>J d a' w'∧μ d a' w'<μ l a w) Q) a w)
  (first:(∀d X,findLabel c d=some (.seq .skip X)→ ∀a' w',J d a' w'→X.wp P (Exit.jumps J Q) a' w')→c.wp P (Exit.jumps J Q) a w):(Code.scope c).wp P Q a w:=by
 have key:∀n l a w,μ l a w=n→J l a w→ ∃X,findLabel c l=some (.seq .skip X)∧X.wp P (Exit.jumps (fun d a' w'=>J d a' w'∧μ d a' w'<μ l a w) Q) a w:=by
  intro n
  induction n using Nat.strongRecOn with
  | _ n ih =>
   intro l a w r i
   refine g l a w i ?_
   intro d X f a' w' ⟨k,j⟩
   obtain ⟨p,b,e⟩:=ih _ (by omega) d a' w' rfl k
   rw [f] at b
   injection b with b
   injection b with _ b
   subst b
   exact Code.wp_mono (Exit.jU fun q a2 m h=>⟨h.1,Nat.lt_trans h.2 j⟩) e
 refine kE J μ ?_ ?_
 ·refine first fun d X f a' w' i=> ?_
  obtain ⟨p,b,e⟩:=key _ d a' w' rfl i
  rw [f] at b
  injection b with b
  injection b with _ b
  subst b
  exact Code.wp_mono (Exit.jU fun q a2 m h=>h.1) e
 intro l a w i
 obtain ⟨X,f,o⟩:=key _ l a w rfl i
 exact ⟨_,f,wp_seq (wp_skip o)⟩
end
def NQ (b:Nat) (r:Rd) (d:Nat) (w:World):Nat→Act→World→Prop
 | 0,a,w'=> ∃(e:Nat) (v5 v6 v7:Value) (r':Rd) (ag ai u aq O f am U al P ap aa R G h ar ac X an m V Q C ao W aw a0 a1 I T F D ax v o K Z J Y q M A n az ad ae ab E z g t a2 H l aE i j S L p B x af y:Value),a= { tmps:=#[.pointer (some ⟨b,0,none⟩),.int .i64 (d:Int),undef,undef,.int .i64 0,v5,v6,v7,.int .i64 (e:Int),.int .i64 (r.pos:Int),ag,ai,u,aq,O,f,am,U,al,P,ap,aa,R,G,h,ar,ac,X,an,m,V,Q,C,ao,W,aw,a0,a1,I,T,F,D,ax,v,o,K,Z,J,Y,q,M,A,n,az,ad,ae,ab,E,z,g,t,a2,H,l,aE,i,j,S,L,p,B,x,af,y],defers:=[] } ∧
   Hid (bD r.left d 6 0 0= .inl e)∧Hid (r'.err=0∧r'.s=r.s∧r.err=0)∧Arr w' b 3 r'.c∧w.grownBy w' (some b)
 | 1,a,w'=> ∃(k N:Nat) (v7:Value) (ag ai u aq O f am U al P ap aa R G h ar ac X an m V Q C ao W aw a0 a1 I T F D ax v o K Z J Y q M A n az ad ae ab E z g t a2 H l aE i j S L p B x af y:Value),a= { tmps:=#[.pointer (some ⟨b,0,none⟩),.int .i64 (d:Int),undef,undef,.int .i64 0,.int .i64 (N:Int),.int .i64 (7*k:Int),v7,.int .i64 3,.int .i64 (r.pos:Int),ag,ai,u,aq,O,f,am,U,al,P,ap,aa,R,G,h,ar,ac,X,an,m,V,Q,C,ao,W,aw,a0,a1,I,T,F,D,ax,v,o,K,Z,J,Y,q,M,A,n,az,ad,ae,ab,E,z,g,t,a2,H,l,aE,i,j,S,L,p,B,x,af,y],defers:=[] } ∧
   k≤5∧Hid (r.err=0)∧Hid (bD r.left d 6 0 0=bD r.left d (6-k) k N)∧Hid (N<128^k)∧Arr w' b 3 (Rd.c ⟨r.s,r.pos+k,0⟩)∧w.grownBy w' (some b)∧r.pos+k≤r.s.size
 | _,_,_=>False
def NP:Nat→Act→World→Nat
 | 0,_,_=>0
 | _,a,_=>100-(intOf (a.tmps.getD 6 undef)).toNat
theorem MK (N X k M:Nat) (f:k≤5) (a:N<128^k) (i:M=N+X%128*128^k):bits .or .i64 (N:Int) (wrap64 ((X:Int)%128*2^(7*k)))=(M:Int):=by
 have b:(128:Nat)^k=2^(7*k):=by rw [show (128:Nat)=2^7 from rfl,←Nat.pow_mul]
 have hb:(128:Nat)^k≤34359738368:=Nat.le_trans (Nat.pow_le_pow_right (by omega) f) (by decide)
 have hy:X%128*128^k≤4363686772736:=Nat.le_trans (Nat.mul_le_mul (show X%128≤127 by omega) hb) (by omega)
 have h:(X:Int)%128*2^(7*k)=((X%128*128^k:Nat):Int):=by rw [b];push_cast;rfl
 have g:wrap64 ((X%128*128^k:Nat):Int)=((X%128*128^k:Nat):Int):=by unfold wrap64;omega
 have e:(2:Nat)^62=4611686018427387904:=by decide
 have d:(2:Int)^62=4611686018427387904:=by decide
 rw [h,g,(bits_nat .i64 62 (by decide) (fun n j h1=>by rw [IntKind.wrap_i64];omega) N (X%128*128^k) (by omega) (by omega)).2,i]
 congr 1
 rw [b] at a ⊢
 rw [Nat.or_comm,Nat.mul_comm,←Nat.two_pow_add_eq_or_of_lt a,Nat.add_comm]
theorem Rd.EJ (r:Rd) (a:Nat) (h:r.err≠0):r.num a=(r,0):=by unfold Rd.num;rw [if_pos h]
theorem nM (b:Nat) (r:Rd) (d:Nat) (w:World) (hA:Arr w b 3 r.c) (hf:r.fine) (_hn:d≤1000000000) :
  Calls prog 86 #[.pointer (some ⟨b,0,none⟩),.int .i64 (d:Int)] w fun e w'=>e= .returned (.int .i64 ((r.num d).2:Int))∧Arr w' b 3 (r.num d).1.c∧w.grownBy w' (some b):=by
 have bz:b<w.heap.size:=hA.lt (by omega)
 have HE:=ah (nO b r w hA)
 have HF:=ah (fun (r':Rd) e W (h:Arr W b 3 r'.c)=>vX b r' e r.pos W h)
 have hp:=hf.pos
 have hs:=hf.size
 have he:=hf.err
 have HA:=ah hA
 clear hA hf
 go_enter func86,ntmps86
 go_wp2_with fail
 refine eZ (NQ b r d w) NP ?_ ?_
 ·rintro l a w' G i
  have u:=ah i
  clear i
  match l,G with
  | 1,G =>
   refine ⟨_,rfl,?_⟩
   obtain ⟨k,N,v7,co,cp,cb,ax,ba,b8,b4,ci,bf,ce,b5,b0,cg,an,bl,b6,ar,bx,cq,a0,bv,bs,a6,bh,cj,bi,aE,bk,br,ch,a8,a7,az,ag,a2,aq,cm,ap,cl,a3,a9,ai,ca,cs,cn,b1,be,am,bn,ae,a4,b7,al,a1,bj,b9,ad,bu,ao,bm,bp,a5,b2,cd,rfl,hk,v,z,S,n,A,bd⟩:=G
   have HL:=ah (tT r k)
   have ac:=ah (fun (h:r.pos+k<r.s.size) w=>bV r.s w (r.pos+k) h)
   generalize R:r.pos+k=p at n bd HL ac
   have I:=ah R
   clear R
   have P:w'.cell? ⟨b,0,none⟩=some (.string r.s):=n.cell 0 (by omega)
   have c1:w'.cell? ⟨b,1,none⟩=some (.int .i64 (p:Int)):=n.cell 1 (by omega)
   have y:b<w'.heap.size:=n.lt (by omega)
   have H:=ah n
   have E:=ah A
   clear n A
   by_cases bt:p<r.s.size
   ·have d1:((p:Int)==(r.s.size:Int))=false:=by rw [beq_eq_false_iff_ne];omega
    have HI:∀w,(Instr.index 9 (.string r.s) (.int .i64 (p:Int))).run prog w= .ok (.int .u8 (wn (bw (blk r.s p)))) w:=fun w=>ac.out bt w
    have Z:=kH (blk r.s p)
    have hX:(blk r.s p).toNat<256:=(blk r.s p).toNat_lt
    have L:r.left[k]? = some (blk r.s p):=by
     rw [HL.out];unfold blk
     have L:p<r.s.data.toList.length:=by simp;omega
     simp only [List.getD,List.getElem?_eq_getElem L,Option.getD_some]
    have t:bD r.left d (6-k) k N=if 128≤(blk r.s p).toNat then bD r.left d (5-k) (k+1) (N+(blk r.s p).toNat%128*128^k)
      else if (blk r.s p).toNat=0∧0<k then .inl 2
      else if 1099511627775<N+(blk r.s p).toNat%128*128^k∨d<N+(blk r.s p).toNat%128*128^k then .inl 4
      else .inr (N+(blk r.s p).toNat%128*128^k,k+1):=by
     rw [show 6-k=(5-k)+1 from by omega];conv=>lhs;unfold bD
     rw [L]
    rw [←Z] at HI
    generalize (blk r.s p).toNat=X at HI hX t
    have m:Hid _:=ah (z.out.trans t)
    obtain ⟨M,hM⟩:∃M,M=N+X%128*128^k:=⟨_,rfl⟩
    have ct:=MK N X k M hk S.out hM
    have cx:M≤4398046511104:=by
     have h1:=S.out
     have hb:(128:Nat)^k≤34359738368:=Nat.le_trans (Nat.pow_le_pow_right (by omega) hk) (by decide)
     have hy:X%128*128^k≤4363686772736:=Nat.le_trans (Nat.mul_le_mul (show X%128≤127 by omega) hb) (by omega)
     omega
    have bb:Hid (M<128^(k+1)):=by
     unfold Hid
     have h1:=S.out
     have h2:X%128*128^k≤127*128^k:=Nat.mul_le_mul (by omega) (Nat.le_refl _)
     rw [Nat.pow_succ];omega
    rw [←hM] at m
    have HN:=ah S.out
    clear t L Z z hM S
    have x0:(0:Int)≤X:=by omega
    have x1:(X:Int)<256:=by omega
    have f1:=H.out.free 1 (by omega)
    go_wp2
    refine wbq ?_
    have q:=blq P
    have D:=blq c1
    repeat (go_big_quiet_step (fail))
    refine wpQuiet_nil ?_
    intro U f
    clear q D
    obtain ⟨wa,rfl⟩:∃wa:World,wa=U:=⟨_,rfl⟩
    have q0:=au P f y
    have q1:=au c1 f y
    have O:b<wa.heap.size:=by have:=f.size;omega
    have cr:=ah (H.out.below f y)
    have af:=ah (jY E.out f)
    clear f P c1
    go_wp2
    refine wbq ?_
    have q:=blq q0
    have D:=blq q1
    repeat (go_big_quiet_step (fail))
    refine wpQuiet_nil ?_
    intro U f
    clear q D
    have j:=ah (cr.out.below f O)
    have o:=ah (jY af.out f)
    clear f q0 q1
    have g1:U.cell? ⟨b,1,none⟩=some (.int .i64 (p:Int)):=j.out.cell 1 (by omega)
    have g2:=j.out.free 1 (by omega)
    by_cases g:128≤X
    ·have dA:decide ((128:Int)≤X)=true:=decide_eq_true (by omega)
     have C:Hid (bD r.left d 6 0 0=bD r.left d (5-k) (k+1) M):=by unfold Hid;rw [m.out,if_pos g]
     clear m g
     by_cases h5:k=5
     ·have cf:((7*(k:Int)+7)==42)=true:=by rw [beq_iff_eq];omega
      have B:Hid (bD r.left d 6 0 0= .inl 4):=by unfold Hid;rw [C.out,h5];rfl
      clear C
      go_wp2
      refine wp_goto ?_
      refine ⟨⟨4,_,_,_,⟨r.s,p+1,0⟩,_,_,_,_,_,_,_,_,_,_,_,_,_,_,_,_,_,_,_,_,_,_,_,_,_,_,_,_,_,_,_,_,_,_,_,_,_,_,_,_,_,_,_,_,_,_,_,_,_,_,_,_,_,_,_,_,_,_,_,_,_,_,_,_,rfl,B,ah ⟨rfl,rfl,v.out⟩,(j.out.set 1 (by omega) _).congr (Rd.cO ⟨r.s,p,0⟩ (p+1)),aN o.out _⟩,?_⟩
      show 0<100-(7*(k:Int)).toNat
      omega
     have cf:((7*(k:Int)+7)==42)=false:=by rw [beq_eq_false_iff_ne];omega
     go_wp2
     refine wp_goto ?_
     rw [show (7*(k:Int)+7)=7*((k+1:Nat):Int) from by omega]
     refine ⟨⟨k+1,M,_,_,_,_,_,_,_,_,_,_,_,_,_,_,_,_,_,_,_,_,_,_,_,_,_,_,_,_,_,_,_,_,_,_,_,_,_,_,_,_,_,_,_,_,_,_,_,_,_,_,_,_,_,_,_,_,_,_,_,_,_,_,_,_,_,rfl,by omega,v,?_,bb,?_,aN o.out _,by have:=I.out;omega⟩,?_⟩
     ·unfold Hid;rw [C.out,show 6-(k+1)=5-k from by omega]
     ·have:=(j.out.set 1 (by omega) (.int .i64 ((p+1:Nat):Int))).congr (Rd.cO ⟨r.s,p,0⟩ (p+1))
      rw [show r.pos+(k+1)=p+1 from by have:=I.out;omega]
      exact this
     show 100-(7*((k+1:Nat):Int)).toNat<100-(7*(k:Int)).toNat
     omega
    have dA:decide ((128:Int)≤X)=false:=decide_eq_false (by omega)
    by_cases K:X=0∧0<k
    ·have B:Hid (bD r.left d 6 0 0= .inl 2):=by unfold Hid;rw [m.out,if_neg g,if_pos K]
     have cv:((X:Int)==0)=true:=by rw [beq_iff_eq];omega
     have cy:decide ((7:Int)<7*(k:Int)+7)=true:=decide_eq_true (by omega)
     clear m g K
     go_wp2
     refine wp_goto ?_
     refine ⟨⟨2,_,_,_,⟨r.s,p+1,0⟩,_,_,_,_,_,_,_,_,_,_,_,_,_,_,_,_,_,_,_,_,_,_,_,_,_,_,_,_,_,_,_,_,_,_,_,_,_,_,_,_,_,_,_,_,_,_,_,_,_,_,_,_,_,_,_,_,_,_,_,_,_,_,_,_,rfl,B,ah ⟨rfl,rfl,v.out⟩,(j.out.set 1 (by omega) _).congr (Rd.cO ⟨r.s,p,0⟩ (p+1)),aN o.out _⟩,?_⟩
     show 0<100-(7*(k:Int)).toNat
     omega
    have aa:Hid (((X:Int)==0)=false∨(((X:Int)==0)=true∧decide ((7:Int)<7*(k:Int)+7)=false)):=by
     unfold Hid
     by_cases cw:X=0
     ·right;exact ⟨by rw [beq_iff_eq];omega,decide_eq_false (by omega)⟩
     left;rw [beq_eq_false_iff_ne];omega
    by_cases hm:1099511627775<M∨d<M
    ·have B:Hid (bD r.left d 6 0 0= .inl 4):=by unfold Hid;rw [m.out,if_neg g,if_neg K,if_pos hm]
     have bo:Hid ((decide ((M:Int)≤1099511627775)=false∧decide (M≤1099511627775)=false)∨(decide ((M:Int)≤1099511627775)=true∧decide (M≤1099511627775)=true∧decide ((M:Int)≤(d:Int))=false∧decide (M≤d)=false)):=by
      unfold Hid
      by_cases h1:1099511627775<M
      ·left;exact ⟨decide_eq_false (by omega),decide_eq_false (by omega)⟩
      right;exact ⟨decide_eq_true (by omega),decide_eq_true (by omega),decide_eq_false (by omega),decide_eq_false (by omega)⟩
     clear m g K hm
     rcases aa.out with hx|⟨hx,b3⟩<;>rcases bo.out with ⟨Y,ab⟩|⟨Y,ab,aw,cc⟩
     all_goals
      go_wp2
      rename_i hK
      refine wp_label (hK _ _ (u.out 0 _ rfl _ _ ?_))
      refine ⟨⟨4,_,_,_,⟨r.s,p+1,0⟩,_,_,_,_,_,_,_,_,_,_,_,_,_,_,_,_,_,_,_,_,_,_,_,_,_,_,_,_,_,_,_,_,_,_,_,_,_,_,_,_,_,_,_,_,_,_,_,_,_,_,_,_,_,_,_,_,_,_,_,_,_,_,_,_,rfl,B,ah ⟨rfl,rfl,v.out⟩,(j.out.set 1 (by omega) _).congr (Rd.cO ⟨r.s,p,0⟩ (p+1)),aN o.out _⟩,?_⟩
      show 0<100-(7*(k:Int)).toNat
      omega
    have HR:Hid (r.num d=({ r with pos:=r.pos+(k+1) },M)):=ah (Rd.Db r d (M,k+1) v.out (by rw [m.out,if_neg g,if_neg K,if_neg hm]))
    have Y:decide ((M:Int)≤1099511627775)=true:=decide_eq_true (by omega)
    have ab:decide ((M:Int)≤(d:Int))=true:=decide_eq_true (by omega)
    have aw:decide (M≤1099511627775)=true:=decide_eq_true (by omega)
    have cc:decide (M≤d)=true:=decide_eq_true (by omega)
    clear m g K hm
    rcases aa.out with hx|⟨hx,b3⟩
    all_goals
     go_wp2
     rw [Exit.gB]
     go_ret
     rw [HR.out]
     refine ⟨rfl,?_,aN o.out _⟩
     have h1:=(j.out.set 1 (by omega) (.int .i64 ((p+1:Nat):Int))).congr (Rd.cO ⟨r.s,p,0⟩ (p+1))
     have h2:({ r with pos:=r.pos+(k+1) }:Rd)=⟨r.s,p+1,0⟩:=by
      have h3:=v.out
      have h4:=I.out
      rw [show r.pos+(k+1)=p+1 from by omega,h3]
     show Arr _ b 3 (Rd.c { r with pos:=r.pos+(k+1) })
     rw [h2]
     exact h1
   have d1:((p:Int)==(r.s.size:Int))=true:=by rw [beq_iff_eq];omega
   have L:r.left[k]? = none:=by
    rw [HL.out];exact List.getElem?_eq_none (by simp;omega)
   have T:Hid (bD r.left d 6 0 0= .inl 3):=by
    unfold Hid
    rw [z.out,show 6-k=(5-k)+1 from by omega];unfold bD;rw [L]
   go_wp2
   refine wbq ?_
   have q:=blq P
   have D:=blq c1
   repeat (go_big_quiet_step (fail))
   refine wpQuiet_nil ?_
   intro U f
   clear q D
   have j:=ah (H.out.below f y)
   have o:=ah (jY E.out f)
   clear f P c1
   go_wp2
   refine wp_goto ?_
   refine ⟨⟨3,_,_,_,⟨r.s,p,0⟩,_,_,_,_,_,_,_,_,_,_,_,_,_,_,_,_,_,_,_,_,_,_,_,_,_,_,_,_,_,_,_,_,_,_,_,_,_,_,_,_,_,_,_,_,_,_,_,_,_,_,_,_,_,_,_,_,_,_,_,_,_,_,_,_,rfl,T,ah ⟨rfl,rfl,v.out⟩,j.out,o.out⟩,?_⟩
   show 0<100-(7*(k:Int)).toNat
   omega
  | 0,G =>
   refine ⟨_,rfl,?_⟩
   obtain ⟨e,v5,v6,v7,r',co,cp,cb,ax,ba,b8,b4,ci,bf,ce,b5,b0,cg,an,bl,b6,ar,bx,cq,a0,bv,bs,a6,bh,cj,bi,aE,bk,br,ch,a8,a7,az,ag,a2,aq,cm,ap,cl,a3,a9,ai,ca,cs,cn,b1,be,am,bn,ae,a4,b7,al,a1,bj,b9,ad,bu,ao,bm,bp,a5,b2,cd,rfl,z,F,n,A⟩:=G
   have HC:=ah (HF.out r' e w' n)
   have E:=ah A
   have ck:Hid (r'.fail e r.pos= { r with err:=e }):=by
    unfold Hid Rd.fail;rw [if_pos F.out.1,←F.out.2.1]
   clear n A
   go_wp2_with fail
   refine HC.out.mono ?_
   rintro x w2 ⟨rfl,J,Q⟩
   rw [ck.out] at J
   have bc:=ah J
   have C:=ah (E.out.trans Q)
   have HR:=ah (Rd.iy r d e F.out.2.2 z.out)
   clear J Q z F
   go_wp2
   rw [Exit.gB]
   go_ret
   rw [HR.out]
   exact ⟨rfl,bc.out,C.out⟩
  | _+2,G=>exact G.elim
 intro i
 have u:=ah i
 clear i
 go_wp2_with fail
 refine HE.out.mono ?_
 rintro e w1 ⟨rfl,rfl⟩
 by_cases h0:r.err=0
 ·have d0:((r.err:Int) != 0)=false:=by rw [bne_eq_false_iff_eq];omega
  have V:Hid (Arr w1 b 3 (Rd.c ⟨r.s,r.pos,0⟩)):=by
   have:=HA.out
   have e:r.c=Rd.c ⟨r.s,r.pos,0⟩:=by rw [←h0]
   rw [e] at this
   exact ah this
  have c1:w1.cell? ⟨b,1,none⟩=some (.int .i64 (r.pos:Int)):=V.out.cell 1 (by omega)
  go_wp2
  refine wbq ?_
  have q:=blq c1
  repeat (go_big_quiet_step (fail))
  refine wpQuiet_nil ?_
  intro U f
  clear q
  have j:=ah (V.out.below f bz)
  have o:=ah (aB f (some b))
  clear f c1
  go_wp2
  rename_i hK
  refine wp_label (hK _ _ (u.out 1 _ rfl _ _ ?_))
  exact ⟨0,0,_,_,_,_,_,_,_,_,_,_,_,_,_,_,_,_,_,_,_,_,_,_,_,_,_,_,_,_,_,_,_,_,_,_,_,_,_,_,_,_,_,_,_,_,_,_,_,_,_,_,_,_,_,_,_,_,_,_,_,_,_,_,_,_,_,rfl,by omega,ah h0,ah rfl,ah (by decide),j.out,o.out,hp⟩
 have d0:((r.err:Int) != 0)=true:=by rw [bne_iff_ne];omega
 have HR:=ah (Rd.EJ r d h0)
 clear h0
 go_wp2
 rw [Exit.gB]
 go_ret
 rw [HR.out]
 exact ⟨rfl,HA.out,aB (Below.refl _ _) _⟩
theorem Rd.wX (r:Rd) (a:Nat):r.pos≤(r.num a).1.pos:=by
 unfold Rd.num
 split
 ·exact Nat.le_refl _
 split
 ·exact Nat.le_refl _
 exact Nat.le_add_right _ _
theorem Rd.wQ (r:Rd) (n:Nat):r.pos≤(r.raw n).1.pos:=by
 unfold Rd.raw
 split
 ·exact Nat.le_refl _
 split
 ·exact Nat.le_refl _
 exact Nat.le_add_right _ _
theorem Rd.IU (r:Rd) (a:Nat):r.text a=if ((r.num a).1.raw (r.num a).2).1.err≠0 then ({ ((r.num a).1.raw (r.num a).2).1 with pos:=min ((r.num a).1.raw (r.num a).2).1.pos r.pos },ByteArray.empty) else (r.num a).1.raw (r.num a).2:=by
 have h1:=r.wX a
 have f:=(r.num a).1.wQ (r.num a).2
 rw [Nat.min_eq_right (by omega)]
 unfold Rd.text
 by_cases b:r.err=0
 ·rw [if_neg (by simp [b])]
 rw [if_pos b]
 have e:r.num a=(r,0):=Rd.EJ r a b
 have d:r.raw 0=(r,ByteArray.empty):=by unfold Rd.raw;rw [if_pos b]
 rw [e,d,if_pos b]
theorem jB (b : Nat) (r : Rd) (most : Nat) (w : World) (hA : Arr w b 3 r.c) (hf : r.fine) (hn : most ≤ 1000000000) :
    Calls prog 36 #[.pointer (some ⟨b, 0, none⟩), .int .i64 (most : Int)] w fun e w' => e = .returned (.string (r.text most).2) ∧ Arr w' b 3 (r.text most).1.c ∧ w.grownBy w' (some b) := by
  have HAT := ah (Es b r w hA)
  have HN := ah (nM b r most w hA hf hn)
  obtain ⟨hf1, hn1⟩ := Rd.bK r most hf
  have HT := ah (r.IU most)
  have HPL : Hid (r.pos ≤ ((r.num most).1.raw (r.num most).2).1.pos) := ah (Nat.le_trans (r.wX most) (Rd.wQ _ _))
  generalize r.num most = x at HN hf1 hn1 HT HPL
  obtain ⟨r1, n⟩ := x
  have HF1 := ah hf1
  clear hA hf hf1
  dsimp only at HN hn1 HT HPL
  go_enter func36, ntmps36
  go_wp2_with fail
  refine HAT.out.mono ?_
  rintro e w0 ⟨rfl, rfl⟩
  go_wp2_with fail
  refine HN.out.mono ?_
  rintro e w1 ⟨rfl, hA1, hg1⟩
  have HRW := ah (rX b r1 n w1 hA1 HF1.out (by omega))
  have HG1 := ah hg1
  generalize r1.raw n = y at HRW HT HPL
  obtain ⟨r2, s⟩ := y
  dsimp only at HRW HT HPL
  clear hA1 hg1
  go_wp2_with fail
  refine HRW.out.mono ?_
  rintro e w2 ⟨rfl, hA2, hg2⟩
  have HG2 := ah (cK HG1.out hg2)
  have d2 : w2.cell? ⟨b, 2, none⟩ = some (.int .i64 (r2.err : Int)) := hA2.cell 2 (by omega)
  have d1 : w2.cell? ⟨b, 1, none⟩ = some (.int .i64 (r2.pos : Int)) := hA2.cell 1 (by omega)
  have f1 := hA2.free 1 (by omega)
  have HA2 := ah hA2
  clear hA2 hg2
  by_cases h2 : r2.err = 0
  · have h2' : ((r2.err : Int) != 0) = false := by rw [bne_eq_false_iff_eq]; omega
    have HR : Hid (r.text most = (r2, s)) := by unfold Hid; rw [HT.out, if_neg (by simp [h2])]
    clear h2
    go_wp2
    go_ret
    rw [HR.out]
    exact ⟨rfl, HA2.out, HG2.out⟩
  · have h2' : ((r2.err : Int) != 0) = true := by rw [bne_iff_ne]; omega
    have HR : Hid (r.text most = ({ r2 with pos := r.pos }, ByteArray.empty)) := by unfold Hid; rw [HT.out, if_pos h2, Nat.min_eq_right HPL.out]
    clear h2
    go_wp2
    all_goals
      have hpl := HPL.out
      go_ret
      rw [HR.out]
      refine ⟨rfl, ?_, aN HG2.out _⟩
      first
        | exact (HA2.out.set 1 (by omega) (.int .i64 (r.pos : Int))).congr (Rd.cO r2 _)
        | (rw [show min (r.pos : Int) (r2.pos : Int) = (r.pos : Int) from by omega]
           exact (HA2.out.set 1 (by omega) (.int .i64 (r.pos : Int))).congr (Rd.cO r2 _))
        | (rw [show min (r2.pos : Int) (r.pos : Int) = (r.pos : Int) from by omega]
           exact (HA2.out.set 1 (by omega) (.int .i64 (r.pos : Int))).congr (Rd.cO r2 _))
        | (have e : r.pos = r2.pos := by omega
           rw [e]
           exact (HA2.out.set 1 (by omega) (.int .i64 (r2.pos : Int))).congr (Rd.cO r2 _))
structure Behind (k:Nat) (r r':Rd):Prop where
 s:r'.s.data.toList = r.s.data.toList.drop k
 pos:r.pos = k + r'.pos
 err:r.err = r'.err
 fit:k ≤ r.s.size
theorem Behind.size {k:Nat} {r r':Rd} (h:Behind k r r'):r.s.size=k+r'.s.size:=by
 have h1:=congrArg List.length h.s
 have b:=h.fit
 simp only [List.length_drop] at h1
 have a:r'.s.data.toList.length=r'.s.size:=by simp
 have d:r.s.data.toList.length=r.s.size:=by simp
 omega
theorem gN (s:ByteArray) (i n:Nat):(s.extract i (i+n)).data.toList=(s.data.toList.drop i).take n:=by
 rw [ByteArray.data_extract,Array.toList_extract,List.extract_eq_take_drop,Nat.add_sub_cancel_left]
theorem Behind.left {k:Nat} {r r':Rd} (h:Behind k r r'):r.left=r'.left:=by
 unfold Rd.left
 rw [h.s,List.drop_drop,h.pos]
theorem Behind.num {k:Nat} {r r':Rd} (h:Behind k r r') (a:Nat):Behind k (r.num a).1 (r'.num a).1∧(r.num a).2=(r'.num a).2:=by
 unfold Rd.num
 rw [←h.err]
 by_cases b:r.err≠0
 ·rw [if_pos b,if_pos b];exact ⟨h,rfl⟩
 rw [if_neg b,if_neg b,h.left]
 cases bD r'.left a 6 0 0 with
 | inl e=>exact ⟨⟨h.s,h.pos,rfl,h.fit⟩,rfl⟩
 | inr x=>exact ⟨⟨h.s,by have:=h.pos;show r.pos+x.2=k+(r'.pos+x.2);omega,rfl,h.fit⟩,rfl⟩
theorem Behind.raw {k:Nat} {r r':Rd} (h:Behind k r r') (n:Nat):Behind k (r.raw n).1 (r'.raw n).1∧(r.raw n).2=(r'.raw n).2:=by
 have d:=h.size
 have e:=h.pos
 unfold Rd.raw
 rw [←h.err]
 by_cases a:r.err≠0
 ·rw [if_pos a,if_pos a];exact ⟨h,rfl⟩
 rw [if_neg a,if_neg a]
 by_cases b:r.s.size-r.pos<n
 ·rw [if_pos b,if_pos (by omega)];exact ⟨⟨h.s,h.pos,rfl,h.fit⟩,rfl⟩
 rw [if_neg b,if_neg (by omega)]
 refine ⟨⟨h.s,by show r.pos+n=k+(r'.pos+n);omega,rfl,h.fit⟩,?_⟩
 show r.s.extract r.pos (r.pos+n)=r'.s.extract r'.pos (r'.pos+n)
 refine ba_eq ?_
 rw [gN,gN,h.s,h.pos,List.drop_drop]
theorem Behind.text {k:Nat} {r r':Rd} (h:Behind k r r') (a:Nat):Behind k (r.text a).1 (r'.text a).1∧(r.text a).2=(r'.text a).2:=by
 obtain ⟨h1,g⟩:=h.num a
 obtain ⟨b,f⟩:=h1.raw (r.num a).2
 unfold Rd.text
 rw [←h.err]
 rw [←g]
 by_cases d:r.err≠0
 ·rw [if_pos d,if_pos d];exact ⟨h,rfl⟩
 rw [if_neg d,if_neg d]
 rw [←b.err]
 by_cases e:((r.num a).1.raw (r.num a).2).1.err≠0
 ·rw [if_pos e,if_pos e];exact ⟨⟨b.s,h.pos,b.err,b.fit⟩,rfl⟩
 rw [if_neg e,if_neg e];exact ⟨b,f⟩
theorem Behind.fin {k:Nat} {r r':Rd} (h:Behind k r r'):r.fin=r'.fin:=by
 have b:=h.size
 have d:=h.pos
 unfold Rd.fin
 rw [←h.err]
 by_cases a:r.err≠0
 ·rw [if_pos a,if_pos a]
 rw [if_neg a,if_neg a]
 by_cases h1:r.pos<r.s.size
 ·rw [if_pos h1,if_pos (by omega)]
 rw [if_neg h1,if_neg (by omega)]
def vV (P:Program) (c:Code) (Q:Exit→Act→World→Prop):Nat→Nat→Act→World→Prop
 | 0,_,_,_=>False
 | n+1,l,a,w=> ∃X,findLabel c l=some (.seq .skip X)∧X.wp P (Exit.jumps (vV P c Q n) Q) a w
theorem JE (p:Nat→Prop):∀n,p n→ ∃m,p m∧ ∀k,k<m→ ¬p k:=by
 intro n
 induction n using Nat.strongRecOn with
 | _ n ih =>
  intro h
  by_cases a:∃k,k<n∧p k
  ·obtain ⟨k,e,b⟩:=a
   exact ih k e b
  exact ⟨n,h,fun k d f=>a ⟨k,d,f⟩⟩
open Classical in
noncomputable def tV (p:Nat→Prop):Nat:=if h:∃m,p m∧ ∀k,k<m→ ¬p k then Classical.choose h else 0
theorem xk {p:Nat→Prop} {n:Nat} (h:p n):p (tV p)∧tV p≤n:=by
 have d:=JE p n h
 unfold tV
 rw [dif_pos d]
 have b:=Classical.choose_spec d
 exact ⟨b.1,Nat.le_of_not_lt fun a=>b.2 n a h⟩
theorem iD {P:Program} {c:Code} {Q:Exit→Act→World→Prop} {a:Act} {w:World} (n:Nat) (first:c.wp P (Exit.jumps (vV P c Q n) Q) a w):(Code.scope c).wp P Q a w:=by
 refine kE (fun l a w=> ∃m,vV P c Q m l a w) (fun l a w=>tV fun m=>vV P c Q m l a w) (Code.wp_mono (Exit.jU fun l a w h=>⟨n,h⟩) first) ?_
 rintro l a w ⟨m,hm⟩
 obtain ⟨h1,_⟩:=xk (p:=fun m=>vV P c Q m l a w) hm
 generalize tV (fun m=>vV P c Q m l a w)=k at h1
 cases k with
 | zero=>exact h1.elim
 | succ k =>
  obtain ⟨X,b,e⟩:=h1
  refine ⟨_,b,wp_seq (wp_skip (Code.wp_mono (Exit.jU fun d a' w' h=>⟨⟨k,h⟩,?_⟩) e))⟩
  have:=(xk (p:=fun m=>vV P c Q m d a' w') h).2
  omega
theorem ER {P:Program} {c X:Code} {Q:Exit→Act→World→Prop} {a:Act} {w:World} {n l:Nat} (b:findLabel c l=some (.seq .skip X)) (h:X.wp P (Exit.jumps (vV P c Q n) Q) a w):vV P c Q (n+1) l a w:=⟨X,b,h⟩
section
variable {P:Program} {ops:Array Oper} {md:Region.Mode} {Q:Exit → Act → World → Prop} {S:World → Prop}
theorem sU {ls:Array Bool} {j:Nat} (h:j∈Region.ready md ops ls):j<ops.size:=by
 obtain ⟨_,b,a,_⟩:=mem_ready.1 h
 exact (Array.getElem?_eq_some_iff.1 a).1
theorem Fz {n i:Nat} {oi:Oper} {v:Value} (hi:ops[i]? = some oi) (l:∀(j:Nat) (o:Oper) cs b,ops[j]? = some o→o.op ≠ .select cs b)
  (G:ops.size≤n) (K:∀c a w,Q (.panic c) (a.put oi.dst v) w→Q (.panic c) a w) :
  ∀(f:Nat) (ls:Array Bool) (a:Act) (w:World),HeadInv md ops n ls →
   (∀j m,ops[j]? = some m→j≠i→ls.getD j true=false→(∀e∈m.after,Region.binds md e=true→e.on≠i)→oi.apart ops m=true) →
   i∈Region.ready md ops ls→YieldsIf P ops S oi v a→S w→wpL P md ops Q S n f (ls.setIfInBounds i true) (a.put oi.dst v) w→wpL P md ops Q S n (f+1) ls a w:=by
 intro f
 induction f with
 | zero =>
  intro ls a w s _ r hy hS H
  refine ⟨fun B=>(by rw [B] at r;cases r),fun j p=> ?_⟩
  have g:j<n:=Nat.lt_of_lt_of_le (sU p) G
  refine ⟨g,?_⟩
  by_cases e:j=i
  ·subst e;exact hy.wpOp hi hS ⟨hS,H⟩
  have:=H.1 j (ready_mono p e);omega
 | succ f ih =>
  intro ls a w s d r hy hS H
  have E:=(mem_ready.1 r).1
  refine ⟨fun B=>(by rw [B] at r;cases r),fun j p=> ?_⟩
  have g:j<n:=Nat.lt_of_lt_of_le (sU p) G
  refine ⟨g,?_⟩
  by_cases e:j=i
  ·subst e;exact hy.wpOp hi hS ⟨hS,H⟩
  obtain ⟨h,m,q,z⟩:=mem_ready.1 p
  have y:∀x∈m.after,Region.binds md x=true→x.on≠i:=fun x hx hb F=>by
   have h1:=z x hx hb
   rw [F,getD_both E] at h1
   cases h1
  have J:=wpOp_putIf q (d j m q e h y) (fun cs b=>l i oi cs b hi) (fun cs b=>l j m cs b q) K hy (H.2 j (ready_mono p e)).2
  refine wpOp_mono (fun a' w' A=>⟨A.2.1,ih (ls.setIfInBounds j true) a' w' (s.set p g) ?_ (ready_mono r (Ne.symm e)) A.1 A.2.1 ?_⟩) J
  ·intro k ok I D t C
   refine d k ok I D ?_ C
   by_cases u:j=k
   ·subst u;exact h
   rwa [getD_set_ne true u] at t
  rw [Array.setIfInBounds_comm _ _ e];exact A.2.2
def LQ (ops:Array Oper) (n:Nat):Bool:=Region.noSelect ops&&decide (ops.size=n)
theorem WN.take {n i:Nat} {oi:Oper} {v:Value} {f:Nat} {ls:Array Bool} {a:Act} {w:World} (hi:ops[i]? = some oi) (e:LQ ops n=true) (_hin:i<n)
  (g:Region.free .any ops ls i=true) (l:(Region.ready .any ops ls).contains i=true) (j:∀c a w,Q (.panic c) (a.put oi.dst v) w→Q (.panic c) a w) (k:Region.wanted oi (yielded ops a.tmps)=true)
  (hy:∀w,S w→(execOp a.eval oi).run P w= .ok (.value v) w) (hS:S w) (h:WL P ops Q S n f (ls.setIfInBounds i true) (a.put oi.dst v) w):WL P ops Q S n (f+1) ls a w:=by
 simp only [LQ,Bool.and_eq_true,decide_eq_true_eq] at e
 have b:i∈Region.ready .any ops ls:=by simpa using l
 exact ⟨fun d=>Fz hi (Region.noSelect_spec e.1) (by omega) j f ls a w d (Region.free_spec hi g) b (.inl ⟨k,hy⟩) hS (h.out (d.set b (by have:=sU b;omega)))⟩
theorem WN.done {n:Nat} {ls:Array Bool} {a:Act} {w:World} (e:ops.size=n) (b:Region.ready .any ops ls=[]) (h:Q .normal a w):WL P ops Q S n 0 ls a w:=by
 refine ⟨fun _=>⟨fun j d=> ?_,?_⟩⟩
 ·rw [b] at d;cases d
 rw [show ops.size-n=0 from by omega]
 exact ⟨b,h⟩
theorem qd {id:Nat} {a:Act} {w:World} {l:List Oper} (n:Nat) (S:World→Prop) (hm:P.follows .mixedOrders=true) (f:LQ l.toArray n=true)
  (h:WL P l.toArray Q S n n (Array.replicate l.toArray.size false) a w.drew):(Code.region id l.toArray true).wp P Q a w:=by
 simp only [LQ,Bool.and_eq_true,decide_eq_true_eq] at f
 have b:HeadInv .any l.toArray n (Array.replicate l.toArray.size false) :=
  ⟨by simp,fun j g _ d=>(by rw [getD_replicate_false] at d;cases d),fun t h1 e=>absurd e (by omega)⟩
 have H:=mI _ _ _ _ (h.out b)
 rw [show n+(l.toArray.size-n)=l.toArray.size from by omega] at H
 exact wp_region_any hm H
end
end
end Go.Proofs.YtejamhkgjkhjdaaGreatDoor
