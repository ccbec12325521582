/- A part of this claim. -/
import Derived.ArgAppend
import Derived.BigQuiet
import Derived.Deep.DeepAppendRoom
import Derived.IntWalk
import Derived.Laws.BitsAllLaws
import Derived.Laws.IdiomStrings
import Derived.StillTail
import Derived.Test.YtejamhkgjkhjdaaGreatDoorChecked
import Derived.Test.YtejamhkgjkhjdaaGreatDoorXn3
namespace Go.Proofs.YtejamhkgjkhjdaaGreatDoor
open Tryz
set_option maxHeartbeats 64000000
set_option maxRecDepth 100000
set_option linter.all false
section
open Go.RowKit
section
variable {P:Program} {ops:Array Oper} {md:Region.Mode} {C:World → Prop}
def tq (P:Program) (md:Region.Mode) (ops:Array Oper) (C:World→Prop) (n:Nat) (L:Array Bool→Act→Prop):Nat→Array Bool→Act→Prop
 | 0,ls,a=>L ls a
 | f+1,ls,a=>Region.ready md ops ls≠[]∧ ∀i∈Region.ready md ops ls,i<n∧qOp P ops C i (tq P md ops C n L f (ls.setIfInBounds i true)) a
theorem Ms {n g:Nat} {L:Array Bool→Act→Prop} {Q:Exit→Act→World→Prop} (d:∀ls a w,C w→L ls a→wpAny P md ops Q g ls a w) :
  ∀(f:Nat) (ls:Array Bool) (a:Act) (w:World),C w→tq P md ops C n L f ls a→wpAny P md ops Q (f+g) ls a w:=by
 intro f
 induction f with
 | zero=>intro ls a w b h;rw [Nat.zero_add];exact d ls a w b h
 | succ f ih =>
  intro ls a w b h
  rw [show f+1+g=(f+g)+1 from by omega]
  exact ⟨fun e=>absurd e h.1,fun i hi=>wpOp_of_qOp b (fun a' w' hw' j=>ih _ a' w' hw' j) (h.2 i hi).2⟩
theorem IK {n i:Nat} {oi:Oper} {v:Value} {L:Array Bool→Act→Prop} (hi:ops[i]? = some oi) (m:∀(j:Nat) (o:Oper) cs b,ops[j]? = some o→o.op ≠ .select cs b)
  (K:Region.sinkB md ops n=true) (J:Region.chainB md ops n=true) (M:n<ops.size) (A:i<n) (t:∀ls a,L ls a→ ∀j∈Region.ready md ops ls,n≤j) :
  ∀(f:Nat) (ls:Array Bool) (a:Act),HeadInv md ops n ls →
   (∀j q,ops[j]? = some q→j≠i→ls.getD j true=false→(∀e∈q.after,Region.binds md e=true→e.on≠i)→oi.apart ops q=true) →
   i∈Region.ready md ops ls→YieldsIn P ops C oi v a→tq P md ops C n L f (ls.setIfInBounds i true) (a.put oi.dst v)→tq P md ops C n L (f+1) ls a:=by
 intro f
 induction f with
 | zero =>
  intro ls a g _ p hy H
  refine ⟨fun s=>(by rw [s] at p;cases p),fun j r=> ?_⟩
  have h:j<n:=Nat.lt_of_not_ge fun s=>tail_waits K J M g _ i rfl A (mem_ready.1 p).1 j s r
  refine ⟨h,?_⟩
  by_cases e:j=i
  ·subst e;exact hy.qOp hi H
  have:=t _ _ H j (ready_mono r e);omega
 | succ f ih =>
  intro ls a g d p hy H
  have E:=(mem_ready.1 p).1
  refine ⟨fun s=>(by rw [s] at p;cases p),fun j r=> ?_⟩
  have h:j<n:=Nat.lt_of_not_ge fun s=>tail_waits K J M g _ i rfl A E j s r
  refine ⟨h,?_⟩
  by_cases e:j=i
  ·subst e;exact hy.qOp hi H
  obtain ⟨l,q,u,D⟩:=mem_ready.1 r
  have B:∀x∈q.after,Region.binds md x=true→x.on≠i:=fun x hx hb I=>by
   have h1:=D x hx hb
   rw [I,getD_both E] at h1
   cases h1
  have Q:=qOp_put u (d j q u e l B) (fun cs b=>m i oi cs b hi) (fun cs b=>m j q cs b u) hy (H.2 j (ready_mono r e)).2
  refine qOp_mono (fun a' N=>ih (ls.setIfInBounds j true) a' (g.set r h) ?_ (ready_mono p (Ne.symm e)) N.1 ?_) Q
  ·intro k ok O G y F
   refine d k ok O G ?_ F
   by_cases z:j=k
   ·subst z;exact l
   rwa [getD_set_ne true z] at y
  rw [Array.setIfInBounds_comm _ _ e];exact N.2
theorem Mt {n g:Nat} {q:Act→Prop} (e:Region.noSelect ops=true) (x:Region.sinkB md ops n=true) (u:Region.chainB md ops n=true) (y:n<ops.size) :
  ∀(l:List Oper) (k:Nat) (ls:Array Bool) (a:Act),(∀j,j<l.length→l[j]? = ops[k+j]?)→k+l.length=n→HeadInv md ops n ls →
  Region.lexHead md ops g l.length k ls=true→wpQuiet P ops C q l a→tq P md ops C n (fun r a'=>Region.seqB md ops g n r=true∧q a') l.length ls a:=by
 intro l
 induction l with
 | nil =>
  intro k ls a _ i _ p h
  obtain rfl:k=n:=by simpa using i
  exact ⟨by simpa [Region.lexHead] using p,h⟩
 | cons o l ih =>
  intro k ls a t i b p h
  have m:ops[k]? = some o:=by simpa using (t 0 (by simp)).symm
  simp only [List.length_cons,Region.lexHead,Bool.and_eq_true] at p
  obtain ⟨⟨D,A⟩,s⟩:=p
  have f:k<n:=by simp only [List.length_cons] at i;omega
  have d:k∈Region.ready md ops ls:=by simpa using D
  obtain ⟨v,hy,z⟩:=yieldsIn_of_qOp m (show qOp P ops C k (wpQuiet P ops C q l) a from by unfold qOp;simp only [m];exact h)
  exact IK m (Region.noSelect_spec e) x u y f (fun _ _ B=>seqB_ready B.1) l.length ls a b (Region.free_spec m A) d hy
   (ih (k+1) _ _ (fun j E=>by have:=t (j+1) (by simp;omega);simpa [Nat.add_assoc,Nat.add_comm 1 j] using this) (by simp only [List.length_cons] at i;omega) (b.set d f) s z)
structure BW (B:Nat) (w:World) where
 out:World
 hb:Below B w out
instance (B:Nat) (w:World):Nonempty (BW B w):=⟨⟨w,Below.refl _ _⟩⟩
theorem aF {P:Program} {f:FuncId} {args:Array Value} {w:World} {v:Value} {x:BW w.heap.size w} (h:Calls P f args x.out fun e w'=>e= .returned v∧Below x.out.heap.size x.out w') :
  Calls P f args x.out fun e a=>e= .returned v∧ ∃y:BW w.heap.size w,a=y.out :=
 h.mono fun _ w' ⟨b,hb⟩=>⟨b,⟨w',x.hb.trans (hb.mono x.hb.size)⟩,rfl⟩
theorem gT {P:Program} {f:FuncId} {args:Array Value} {w:World} {v:Value} {x:BW w.heap.size w} (h:Calls P f args x.out fun e w'=>e= .returned v∧w'=x.out) :
  Calls P f args x.out fun e a=>e= .returned v∧ ∃y:BW w.heap.size w,a=y.out :=
 h.mono fun _ _ ⟨d,b⟩=>⟨d,x,b⟩
theorem nJ {id:Nat} {Q:Exit→Act→World→Prop} {a:Act} {w:World} {l:List Oper} (hm:P.follows .mixedOrders=true) (b:Region.lexB .any l.toArray=true)
  (h:wpQuiet P l.toArray (fun w'=> ∃x:BW w.heap.size w,w'=x.out) (fun a'=> ∀w',Below w.heap.size w w'→Q .normal a' w') l a):(Code.region id l.toArray true).wp P Q a w :=
 wp_region_quiet (C:=fun w'=> ∃x:BW w.heap.size w,w'=x.out) hm b ⟨⟨{ w with drawn:=w.drawn+1 },⟨rfl,rfl,rfl,Nat.le_refl _,fun _ _=>rfl⟩⟩,rfl⟩
  (by
   have:(fun a'=> ∀w',(∃x:BW w.heap.size w,w'=x.out)→Q .normal a' w')=(fun a'=> ∀w',Below w.heap.size w w'→Q .normal a' w'):=by
    funext a';exact propext ⟨fun H w' hb=>H w' ⟨⟨w',hb⟩,rfl⟩,fun H w' ⟨x,e⟩=>by subst e;exact H _ x.hb⟩
   rw [this];simpa using h)
theorem aX {id:Nat} {Q:Exit→Act→World→Prop} {a:Act} {w:World} {l:List Oper} (n:Nat) (hm:P.follows .mixedOrders=true) (q:Region.lexTailB .any l.toArray n=true)
  (h:wpQuiet P l.toArray (fun w'=> ∃x:BW w.heap.size w,w'=x.out) (fun a'=> ∀w',Below w.heap.size w w'→wpList P l.toArray Q (l.drop n) a' w') (l.take n) a):(Code.region id l.toArray true).wp P Q a w:=by
 simp only [Region.lexTailB,Bool.and_eq_true,decide_eq_true_eq] at q
 obtain ⟨⟨⟨⟨f,o⟩,r⟩,s⟩,e⟩:=q
 have v:n<l.length:=by simpa using o
 have b:(l.take n).length=n:=by simp;omega
 have d:(l.drop n).length=l.toArray.size-n:=by simp
 have i:HeadInv .any l.toArray n (Array.replicate l.toArray.size false) :=
  ⟨by simp,fun j y _ p=>(by rw [getD_replicate_false] at p;cases p),fun t _ u=>getD_in (by simpa using u) (getD_replicate_false _ _)⟩
 have H:=Mt (md:=.any) (g:=l.toArray.size-n) f r s o (l.take n) 0 _ a (fun j k=>by rw [b] at k;simp [k]) (by simpa using b) i (by rw [b];exact e) h
 refine wp_region_any hm ?_
 have:=Ms (Q:=Q) (g:=l.toArray.size-n) (fun ls a' w' hw' m=>by
  obtain ⟨x,rfl⟩:=hw'
  have:=wpAny_of_seq (md:=.any) (Q':=Q) (l.drop n) n ls a' x.out (fun j=>by simp [List.getElem?_drop]) (by rw [d];exact m.1) (m.2 _ x.hb)
  rwa [d] at this) _ _ _ { w with drawn:=w.drawn+1 } ⟨⟨{ w with drawn:=w.drawn+1 },⟨rfl,rfl,rfl,Nat.le_refl _,fun _ _=>rfl⟩⟩,rfl⟩ H
 rw [b,show n+(l.toArray.size-n)=l.toArray.size from by omega] at this
 exact this
end
abbrev W32:=BitVec 32
def wn (x:W32):Int:=x.toNat
theorem vE (x:W32):0≤wn x:=by unfold wn;omega
theorem nN (x:W32):wn x<4294967296:=by unfold wn;have:=x.isLt;omega
theorem b32 (x:W32):x.toNat<4294967296:=x.isLt
theorem qh (x y:W32):bits .xor .u32 (wn x) (wn y)=wn (x ^^^ y):=by
 unfold wn;rw [u32_xor_nat _ _ (b32 x) (b32 y),BitVec.toNat_xor]
theorem LV (x y:W32):bits .and .u32 (wn x) (wn y)=wn (x &&& y):=by
 unfold wn;rw [u32_and_nat _ _ (b32 x) (b32 y),BitVec.toNat_and]
theorem M6 (x y:W32):bits .or .u32 (wn x) (wn y)=wn (x ||| y):=by
 unfold wn;rw [u32_or_nat _ _ (b32 x) (b32 y),BitVec.toNat_or]
theorem M7 (x:W32):bits .xor .u32 4294967295 (wn x)=wn (~~~ x):=by
 have h:=qh (BitVec.allOnes 32) x
 rw [BitVec.xor_comm,BitVec.xor_allOnes] at h
 have e:wn (BitVec.allOnes 32)=4294967295:=by decide
 rw [e] at h;exact h
theorem Cm (x:W32):bits .xor .u32 (if IntKind.u32.signed=true then -1 else IntKind.u32.max) (wn x)=wn (~~~ x):=M7 x
theorem E8 (x:W32) (n:Nat):wn x/2^n=wn (x >>> n):=by
 unfold wn
 rw [BitVec.toNat_ushiftRight,Nat.shiftRight_eq_div_pow];push_cast;rfl
theorem L8 (x:W32) (n:Nat):wn x*2^n%4294967296=wn (x <<< n):=by
 unfold wn
 rw [BitVec.toNat_shiftLeft,Nat.shiftLeft_eq,Int.natCast_emod,Int.natCast_mul,Int.natCast_pow];rfl
theorem MW (x:W32):wn x*(256:Int)%(4294967296:Int)=wn (x <<< 8):=L8 x 8
theorem BA (x y:W32):(wn x+wn y)%4294967296=wn (x+y):=by
 unfold wn;rw [BitVec.toNat_add];omega
theorem og {k:IntKind} {a b:Int} (h:a=b):Ending.returned (.int k a)= .returned (.int k b):=by rw [h]
theorem MF (x:W32) (a m:Nat) (h:a+m=32) (b:0<a) (hm:0<m):(x <<< m) ||| (x >>> a)=x.rotateRight a:=by
 rw [BitVec.rotateRight_def,Nat.mod_eq_of_lt (by omega),show 32-a=m from by omega,BitVec.or_comm]
def nT (x:W32) (a b c:Nat):W32:=x.rotateRight a ^^^ x.rotateRight b ^^^ x.rotateRight c
def nQ (x:W32) (a b c:Nat):W32:=x.rotateRight a ^^^ x.rotateRight b ^^^ x >>> c
theorem Nu (a:Nat) (b:0<a) (h1:a<32):bits .and .u64 (IntKind.u64.wrap (-(a:Int))) 31=((32-a:Nat):Int):=by
 have h:∀a:Nat,a<32→0<a→bits .and .u64 (IntKind.u64.wrap (-(a:Int))) 31=((32-a:Nat):Int):=by decide +kernel
 exact h a h1 b
theorem sK {P:Program} {f:FuncId} {args:Array Value} {w:World} {E:Ending} (h:Calls P f args w fun e w'=>e=E∧w'=w):Calls P f args w fun e w'=>e=E∧Below w.heap.size w w' :=
 h.mono fun e w' ⟨b,a⟩=>by subst a;exact ⟨b,Below.refl _ _⟩
theorem kS (x:W32) (a:Nat) (k:Int) (hk:k = -(a:Int)) (h0:0 < a) (h1:a < 32) (w:World) :
  Calls prog 335 #[.int .u32 (wn x),.int .i64 k] w fun e w' => e = .returned (.int .u32 (wn (x.rotateRight a))) ∧ w' = w:=by
 subst hk
 have hx0:=vE x
 have hx1:=nN x
 have HA:=Nu a h0 h1
 obtain ⟨m,hm⟩:∃ m,m = 32 - a:=⟨_,rfl⟩
 rw [← hm] at HA
 have H3:IntKind.u64.wrap (32 - (m:Int)) = (a:Int):=by rw [IntKind.wrap_u64];omega
 have H5:(32:Int) - (m:Int) = (a:Int):=by omega
 have H4:=M6 (x <<< m) (x >>> a)
 rw [MF x a m (by omega) h0 (by omega)] at H4
 clear hm
 go_enter func335,ntmps335
 go_wp2
 go_ret
 exact ⟨og (by rw [L8,E8,H4]),rfl⟩
theorem zS (x:W32) (a b c:Nat) (ha:0 < a) (ha1:a < 32) (hb:0 < b) (hb1:b < 32) (hc:c < 32) (w:World) :
  Calls prog 321 #[.int .u32 (wn x),.int .i64 a,.int .i64 b,.int .i64 c] w fun e w' => e = .returned (.int .u32 (wn (nQ x a b c))) ∧ Below w.heap.size w w':=by
 have H1:=fun w => kS x a (-(a:Int)) rfl ha ha1 w
 have H2:=fun w => kS x b (-(b:Int)) rfl hb hb1 w
 have X:=qh
 have E:=E8 x c
 have N1:IntKind.i64.wrap (-(a:Int)) = -(a:Int):=IntWalk.i64_in _ (by omega)
 have N2:IntKind.i64.wrap (-(b:Int)) = -(b:Int):=IntWalk.i64_in _ (by omega)
 go_enter func321,ntmps321
 go_wp2
 refine nJ (by kernel_rfl) (by kernel_rfl) ?_
 repeat (go_big_quiet_step ((first | (go_at_call 335;with_reducible exact gT (H1 _)) | (go_at_call 335;with_reducible exact gT (H2 _)))))
 refine wpQuiet_nil ?_
 intro wq hbq
 go_wp2
 go_ret
 exact ⟨og rfl,hbq⟩
theorem zZ (x:W32) (a b c:Nat) (ha:0 < a) (ha1:a < 32) (hb:0 < b) (hb1:b < 32) (hc:0 < c) (hc1:c < 32) (w:World) :
  Calls prog 322 #[.int .u32 (wn x),.int .i64 a,.int .i64 b,.int .i64 c] w fun e w' => e = .returned (.int .u32 (wn (nT x a b c))) ∧ w' = w:=by
 have X:=qh
 go_enter func322,ntmps322
 go_wp2_with (first | (go_at_call_of 335 (Value.int IntKind.i64 (-(a:Int)));refine (kS x a _ rfl ha ha1 _).mono ?_;rintro e w' ⟨rfl,rfl⟩) | (go_at_call_of 335 (Value.int IntKind.i64 (-(b:Int)));refine (kS x b _ rfl hb hb1 _).mono ?_;rintro e w' ⟨rfl,rfl⟩) | (go_at_call_of 335 (Value.int IntKind.i64 (-(c:Int)));refine (kS x c _ rfl hc hc1 _).mono ?_;rintro e w' ⟨rfl,rfl⟩))
 go_ret
 exact ⟨og rfl,rfl⟩
end
section
def bw (b:UInt8):W32:=BitVec.ofNat 32 b.toNat
def kN (r:Nat→UInt8) (i:Nat):Nat→W32
 | 0=>0
 | j+1=>kN r i j <<< 8 ||| bw (r (4*i+j))
def fD (r:Nat→UInt8) (i j:Nat):Nat→W32:=fun k=>if k<i then kN r k 4 else if k=i then kN r i j else 0
theorem Du (r:Nat→UInt8):fD r 0 0=fun _=>0:=by
 funext k;unfold fD;rw [if_neg (by omega)];split<;>rfl
theorem Dw (r:Nat→UInt8) (i j:Nat):upd (fD r i j) i (fD r i j i <<< 8 ||| bw (r (4*i+j)))=fD r i (j+1):=by
 funext k;unfold upd fD
 by_cases h:k=i
 ·subst h;simp [kN]
 rw [if_neg h,if_neg h,if_neg h]
theorem Dv (r:Nat→UInt8) (i:Nat):fD r i 4=fD r (i+1) 0:=by
 funext k;unfold fD
 by_cases h:k<i
 ·rw [if_pos h,if_pos (by omega)]
 by_cases a:k=i
 ·subst a;rw [if_neg (by omega),if_pos rfl,if_pos (by omega)]
 rw [if_neg h,if_neg a,if_neg (by omega)];split<;>rfl
def EL (f:Nat→W32) (i:Nat):W32:=nQ (f (i-2)) 17 19 10+f (i-7)+nQ (f (i-15)) 7 18 3+f (i-16)
def bq (r:Nat→UInt8):Nat→Nat→W32
 | 0=>fD r 16 0
 | n+1=>upd (bq r n) (16+n) (EL (bq r n) (16+n))
def iI:List W32:=[0x428a2f98#32,0x71374491#32,0xb5c0fbcf#32,0xe9b5dba5#32,0x3956c25b#32,0x59f111f1#32,0x923f82a4#32,0xab1c5ed5#32,0xd807aa98#32,0x12835b01#32,0x243185be#32,0x550c7dc3#32,0x72be5d74#32,0x80deb1fe#32,0x9bdc06a7#32,0xc19bf174#32,0xe49b69c1#32,0xefbe4786#32,0x0fc19dc6#32,0x240ca1cc#32,0x2de92c6f#32,0x4a7484aa#32,0x5cb0a9dc#32,0x76f988da#32,0x983e5152#32,0xa831c66d#32,0xb00327c8#32,0xbf597fc7#32,0xc6e00bf3#32,0xd5a79147#32,0x06ca6351#32,0x14292967#32,0x27b70a85#32,0x2e1b2138#32,0x4d2c6dfc#32,0x53380d13#32,0x650a7354#32,0x766a0abb#32,0x81c2c92e#32,0x92722c85#32,0xa2bfe8a1#32,0xa81a664b#32,0xc24b8b70#32,0xc76c51a3#32,0xd192e819#32,0xd6990624#32,0xf40e3585#32,0x106aa070#32,0x19a4c116#32,0x1e376c08#32,0x2748774c#32,0x34b0bcb5#32,0x391c0cb3#32,0x4ed8aa4a#32,0x5b9cca4f#32,0x682e6ff3#32,0x748f82ee#32,0x78a5636f#32,0x84c87814#32,0x8cc70208#32,0x90befffa#32,0xa4506ceb#32,0xbef9a3f7#32,0xc67178f2#32]
def rK (i:Nat):W32:=iI.getD i 0
theorem mQ:iI.length=64:=by decide +kernel
def tW (s:Nat→W32) (k w:W32):W32:=s 7+nT (s 4) 6 11 25+(s 4 &&& s 5 ^^^ ~~~ s 4 &&& s 6)+k+w
def uW (s:Nat→W32):W32:=nT (s 0) 2 13 22+(s 0 &&& s 1 ^^^ s 0 &&& s 2 ^^^ s 1 &&& s 2)
def eight (a b c d e f g h:W32):Nat→W32:=fun k=>if k=0 then a else if k=1 then b else if k=2 then c else if k=3 then d else if k=4 then e else if k=5 then f else if k=6 then g else h
def stepW (s:Nat→W32) (k w:W32):Nat→W32:=eight (tW s k w+uW s) (s 0) (s 1) (s 2) (s 3+tW s k w) (s 4) (s 5) (s 6)
def bY (w:Nat→W32) (s:Nat→W32):Nat→Nat→W32
 | 0=>s
 | n+1=>stepW (bY w s n) (rK n) (w n)
def dU (s:Nat→W32) (r:Nat→UInt8):Nat→W32:=fun k=>s k+bY (bq r 48) s 64 k
def ou (s t:Nat→W32) (i:Nat):Nat→W32:=fun k=>if k<i then s k+t k else s k
theorem CZ (s t:Nat→W32):ou s t 0=s:=by funext k;unfold ou;rw [if_neg (by omega)]
theorem C8 (s t:Nat→W32) (i:Nat):upd (ou s t i) i (s i+t i)=ou s t (i+1):=by
 funext k;unfold upd ou
 by_cases h:k=i
 ·subst h;rw [if_pos rfl,if_pos (by omega)]
 rw [if_neg h]
 by_cases a:k<i
 ·rw [if_pos a,if_pos (by omega)]
 rw [if_neg a,if_neg (by omega)]
theorem kH (b:UInt8):((b.toNat:Nat):Int)=wn (bw b):=by
 unfold wn bw;rw [BitVec.toNat_ofNat,Nat.mod_eq_of_lt (by have:=b.toNat_lt;omega)]
theorem Ns (b:UInt8):wn (bw b)<256:=by rw [←kH];have:=b.toNat_lt;omega
structure HS where
 begun:Bool
 st:Nat → W32
 rest:Nat → UInt8
 many:Nat
 taken:Int
def HS.c (h:HS) (k:Nat):Value :=
 if k=0 then .bool h.begun else if k<9 then .int .u32 (wn (h.st (k-1))) else if k<73 then .int .u8 ((h.rest (k-9)).toNat:Int) else if k=73 then .int .i64 h.many else .int .u64 h.taken
theorem HS.MZ (h:HS) (k:Nat) (a:k<8):h.c (1+k)= .int .u32 (wn (h.st k)):=by
 unfold HS.c;rw [if_neg (by omega),if_pos (by omega),show 1+k-1=k from by omega]
theorem HS.M0 (h:HS) (k:Nat) (a:k<64):h.c (9+k)= .int .u8 ((h.rest k).toNat:Int):=by
 unfold HS.c;rw [if_neg (by omega),if_neg (by omega),if_pos (by omega),show 9+k-9=k from by omega]
theorem HS.Ed (h:HS):h.c 73= .int .i64 h.many:=rfl
theorem HS.Fg (h:HS):h.c 74= .int .u64 h.taken:=rfl
theorem HS.LD (h:HS):h.c 0= .bool h.begun:=rfl
theorem HS.Ml (h:HS) (k:Nat) (b:k<8) (x:W32):upd h.c (1+k) (.int .u32 (wn x))=HS.c { h with st:=upd h.st k x }:=by
 funext j;unfold upd HS.c
 by_cases e:j=1+k
 ·subst e;rw [if_pos rfl,if_neg (by omega),if_pos (by omega)];dsimp only;rw [if_pos (by omega)]
 rw [if_neg e]
 by_cases a:j=0
 ·rw [if_pos a,if_pos a]
 rw [if_neg a,if_neg a]
 by_cases h1:j<9
 ·rw [if_pos h1,if_pos h1];dsimp only;rw [if_neg (by omega)]
 rw [if_neg h1,if_neg h1]
theorem HS.IE (h:HS) (k:Nat) (d:k<64) (x:UInt8):upd h.c (9+k) (.int .u8 (x.toNat:Int))=HS.c { h with rest:=upd h.rest k x }:=by
 funext j;unfold upd HS.c
 by_cases e:j=9+k
 ·subst e;rw [if_pos rfl,if_neg (by omega),if_neg (by omega),if_pos (by omega)];dsimp only;rw [if_pos (by omega)]
 rw [if_neg e]
 by_cases a:j=0
 ·rw [if_pos a,if_pos a]
 rw [if_neg a,if_neg a]
 by_cases h1:j<9
 ·rw [if_pos h1,if_pos h1]
 rw [if_neg h1,if_neg h1]
 by_cases b:j<73
 ·rw [if_pos b,if_pos b];dsimp only;rw [if_neg (by omega)]
 rw [if_neg b,if_neg b]
theorem HS.zQ (h:HS) (m:Nat):upd h.c 73 (.int .i64 (m:Int))=HS.c { h with many:=m }:=by
 funext j;unfold upd HS.c
 by_cases e:j=73
 ·subst e;simp
 rw [if_neg e]
 by_cases b:j=0
 ·rw [if_pos b,if_pos b]
 rw [if_neg b,if_neg b]
 by_cases h1:j<9
 ·rw [if_pos h1,if_pos h1]
 rw [if_neg h1,if_neg h1]
 by_cases a:j<73
 ·rw [if_pos a,if_pos a]
 rw [if_neg a,if_neg a,if_neg e,if_neg e]
theorem HS.FH (h:HS) (m:Int):∀k,k<75→upd h.c 74 (.int .u64 m) k=HS.c { h with taken:=m } k:=by
 intro j d;unfold upd HS.c
 by_cases e:j=74
 ·subst e;simp
 rw [if_neg e]
 by_cases a:j=0
 ·rw [if_pos a,if_pos a]
 rw [if_neg a,if_neg a]
 by_cases h1:j<9
 ·rw [if_pos h1,if_pos h1]
 rw [if_neg h1,if_neg h1]
 by_cases b:j<73
 ·rw [if_pos b,if_pos b]
 rw [if_neg b,if_neg b,if_pos (by omega),if_pos (by omega)]
end
section
open Go.RowKit
section
variable {P:Program} {ops:Array Oper} {md:Region.Mode} {Q:Exit → Act → World → Prop} {S:World → Prop}
def KK (Q:Exit→Act→World→Prop) (S:World→Prop) (T:Act→World→Prop):Exit→Act→World→Prop
 | .normal,a,w=>S w∧T a w
 | e,a,w=>Q e a w
theorem zL {T:Act→World→Prop} {o:Oper} {a:Act} {w:World} {K:Act→World→Prop} (h:o.wp P a w K (KK Q S T)):o.wp P a w K Q:=by
 unfold Oper.wp at *
 generalize (execOp a.eval o).run P w=r at *
 cases r with
 | ok n w' =>
  cases n<;>simp only [Oper.upon] at h ⊢
  case enter f args =>
   refine Calls.mono h fun e d b=> ?_
   cases e with
   | returned u=>exact b
   | panicked c=>exact b
   | outgrown=>exact b
  all_goals exact h
 | halt x w' =>
  cases x<;>simp only [Oper.upon] at h ⊢
  case panic u=>exact h
def wpL (P:Program) (md:Region.Mode) (ops:Array Oper) (Q:Exit→Act→World→Prop) (S:World→Prop) (n:Nat):Nat→Array Bool→Act→World→Prop
 | 0,ls,a,w=>(∀j∈Region.ready md ops ls,n≤j)∧wpAny P md ops Q (ops.size-n) ls a w
 | f+1,ls,a,w=>Region.ready md ops ls≠[]∧ ∀i∈Region.ready md ops ls,i<n∧wpOp P ops Q i (fun a' w'=>S w'∧wpL P md ops Q S n f (ls.setIfInBounds i true) a' w') a w
theorem mI {n:Nat}:∀(f:Nat) (ls:Array Bool) (a:Act) (w:World),wpL P md ops Q S n f ls a w→wpAny P md ops Q (f+(ops.size-n)) ls a w
 | 0,ls,a,w,h=>by rw [Nat.zero_add];exact h.2
 | f+1,ls,a,w,h=>by
  rw [show f+1+(ops.size-n)=(f+(ops.size-n))+1 from by omega]
  exact ⟨fun b=>absurd b h.1,fun i hi=>wpOp_mono (fun a' w' d=>mI f _ a' w' d.2) (h.2 i hi).2⟩
theorem FB {n i:Nat} {oi:Oper} {v:Value} (hi:ops[i]? = some oi) (m:∀(j:Nat) (o:Oper) cs b,ops[j]? = some o→o.op ≠ .select cs b)
  (J:Region.sinkB md ops n=true) (I:Region.chainB md ops n=true) (K:n<ops.size) (z:i<n) (N:∀c a w,Q (.panic c) (a.put oi.dst v) w→Q (.panic c) a w) :
  ∀(f:Nat) (ls:Array Bool) (a:Act) (w:World),HeadInv md ops n ls →
   (∀j q,ops[j]? = some q→j≠i→ls.getD j true=false→(∀e∈q.after,Region.binds md e=true→e.on≠i)→oi.apart ops q=true) →
   i∈Region.ready md ops ls→YieldsIf P ops S oi v a→S w→wpL P md ops Q S n f (ls.setIfInBounds i true) (a.put oi.dst v) w→wpL P md ops Q S n (f+1) ls a w:=by
 intro f
 induction f with
 | zero =>
  intro ls a w g _ p hy hS H
  refine ⟨fun s=>(by rw [s] at p;cases p),fun j r=> ?_⟩
  have h:j<n:=Nat.lt_of_not_ge fun s=>tail_waits J I K g _ i rfl z (mem_ready.1 p).1 j s r
  refine ⟨h,?_⟩
  by_cases e:j=i
  ·subst e;exact hy.wpOp hi hS ⟨hS,H⟩
  have:=H.1 j (ready_mono r e);omega
 | succ f ih =>
  intro ls a w g d p hy hS H
  have C:=(mem_ready.1 p).1
  refine ⟨fun s=>(by rw [s] at p;cases p),fun j r=> ?_⟩
  have h:j<n:=Nat.lt_of_not_ge fun s=>tail_waits J I K g _ i rfl z C j s r
  refine ⟨h,?_⟩
  by_cases e:j=i
  ·subst e;exact hy.wpOp hi hS ⟨hS,H⟩
  obtain ⟨l,q,t,B⟩:=mem_ready.1 r
  have A:∀x∈q.after,Region.binds md x=true→x.on≠i:=fun x hx hb G=>by
   have h1:=B x hx hb
   rw [G,getD_both C] at h1
   cases h1
  have M:=wpOp_putIf t (d j q t e l A) (fun cs b=>m i oi cs b hi) (fun cs b=>m j q cs b t) N hy (H.2 j (ready_mono r e)).2
  refine wpOp_mono (fun a' w' D=>⟨D.2.1,ih (ls.setIfInBounds j true) a' w' (g.set r h) ?_ (ready_mono p (Ne.symm e)) D.1 D.2.1 ?_⟩) M
  ·intro k ok L F u E
   refine d k ok L F ?_ E
   by_cases y:j=k
   ·subst y;exact l
   rwa [getD_set_ne true y] at u
  rw [Array.setIfInBounds_comm _ _ e];exact D.2.2
structure WL (P:Program) (ops:Array Oper) (Q:Exit → Act → World → Prop) (S:World → Prop) (n f:Nat) (ls:Array Bool) (a:Act) (w:World):Prop where
 out:HeadInv .any ops n ls → wpL P .any ops Q S n f ls a w
def lastB (ops:Array Oper) (n:Nat):Bool:=Region.noSelect ops&&decide (n<ops.size)&&Region.sinkB .any ops n&&Region.chainB .any ops n
theorem WL.take {n i:Nat} {oi:Oper} {v:Value} {f:Nat} {ls:Array Bool} {a:Act} {w:World} (hi:ops[i]? = some oi) (g:lastB ops n=true) (b:i<n)
  (j:Region.free .any ops ls i=true) (m:(Region.ready .any ops ls).contains i=true) (k:∀c a w,Q (.panic c) (a.put oi.dst v) w→Q (.panic c) a w) (l:Region.wanted oi (yielded ops a.tmps)=true)
  (hy:∀w,S w→(execOp a.eval oi).run P w= .ok (.value v) w) (hS:S w) (h:WL P ops Q S n f (ls.setIfInBounds i true) (a.put oi.dst v) w):WL P ops Q S n (f+1) ls a w:=by
 simp only [lastB,Bool.and_eq_true,decide_eq_true_eq] at g
 have d:i∈Region.ready .any ops ls:=by simpa using m
 exact ⟨fun e=>FB hi (Region.noSelect_spec g.1.1.1) g.1.2 g.2 g.1.1.2 b k f ls a w e (Region.free_spec hi j) d (.inl ⟨l,hy⟩) hS (h.out (e.set d b))⟩
theorem WL.one {n i:Nat} {oi:Oper} {f:Nat} {ls:Array Bool} {a:Act} {w:World} (hi:ops[i]? = some oi) (d:i<n) (p:Region.ready .any ops ls=[i])
  (h:wpList P ops (KK Q S fun a' w'=>WL P ops Q S n f (ls.setIfInBounds i true) a' w') [oi] a w):WL P ops Q S n (f+1) ls a w:=by
 refine ⟨fun g=>⟨fun o=>(by rw [p] at o;cases o),fun j k=> ?_⟩⟩
 have m:=k
 rw [p] at k
 obtain rfl:j=i:=by simpa using k
 refine ⟨d,?_⟩
 have b:=g.set m d
 unfold wpOp
 simp only [hi]
 simp only [wpList] at h
 split
 ·rename_i l
  rw [if_pos l] at h
  rcases h with h|⟨h1,q⟩
  ·exact .inl (Oper.wp_mono (fun a' w' e=>⟨e.1,e.2.out b⟩) (zL h))
  refine .inr ⟨h1,?_⟩
  obtain ⟨a',w',e⟩:=q
  exact ⟨a',w',e⟩
 rename_i l
 rw [if_neg l] at h
 exact ⟨h.1,h.2.out b⟩
theorem WL.last {n:Nat} {oi:Oper} {ls:Array Bool} {a:Act} {w:World} (hi:ops[n]? = some oi) (k:ops.size=n+1) (d:Region.ready .any ops ls=[n]) (hd:Region.ready .any ops (ls.setIfInBounds n true)=[])
  (h:wpList P ops Q [oi] a w):WL P ops Q S n 0 ls a w:=by
 refine ⟨fun _=>⟨fun j b=> ?_,?_⟩⟩
 ·rw [d] at b
  have e:j=n:=by simpa using b
  omega
 rw [show ops.size-n=1 from by omega]
 refine ⟨fun f=>(by rw [d] at f;cases f),fun j b=> ?_⟩
 rw [d] at b
 obtain rfl:j=n:=by simpa using b
 have i:wpOp P ops Q j (wpList P ops Q []) a w:=by unfold wpOp;simp only [hi];exact h
 exact wpOp_mono (fun a' w' g=>⟨hd,g⟩) i
theorem zK {id:Nat} {a:Act} {w:World} {l:List Oper} (n:Nat) (S:World→Prop) (hm:P.follows .mixedOrders=true) (e:lastB l.toArray n=true)
  (h:WL P l.toArray Q S n n (Array.replicate l.toArray.size false) a w.drew):(Code.region id l.toArray true).wp P Q a w:=by
 simp only [lastB,Bool.and_eq_true,decide_eq_true_eq] at e
 have b:HeadInv .any l.toArray n (Array.replicate l.toArray.size false) :=
  ⟨by simp,fun j g _ d=>(by rw [getD_replicate_false] at d;cases d),fun t _ f=>getD_in (by simpa using f) (getD_replicate_false _ _)⟩
 have H:=mI _ _ _ _ (h.out b)
 rw [show n+(l.toArray.size-n)=l.toArray.size from by have:=e.1.1.2;omega] at H
 exact wp_region_any hm H
end
theorem xq:∀(l:List Value) (o:Nat) (a:Array Value),((l.zipIdx o).foldl (fun cs (p:Value×Nat)=>cs.setIfInBounds p.2 p.1) a).size=a.size ∧
  ∀k,((l.zipIdx o).foldl (fun cs (p:Value×Nat)=>cs.setIfInBounds p.2 p.1) a)[k]? = if o≤k∧k<o+l.length∧k<a.size then l[k-o]? else a[k]?
 | [],o,a=>⟨rfl,fun k=>by rw [if_neg (by simp only [List.length_nil];omega)];rfl⟩
 | x::l,o,a=>by
  obtain ⟨h1,d⟩:=xq l (o+1) (a.setIfInBounds o x)
  rw [Array.size_setIfInBounds] at h1 d
  rw [List.zipIdx_cons,List.foldl_cons]
  refine ⟨h1,fun k=> ?_⟩
  rw [d k]
  by_cases f:o+1≤k∧k<o+1+l.length∧k<a.size
  ·rw [if_pos f,if_pos (by simp only [List.length_cons];omega)]
   rw [show k-o=(k-(o+1))+1 from by omega,List.getElem?_cons_succ]
  rw [if_neg f]
  by_cases e:k=o
  ·subst e
   by_cases b:k<a.size
   ·rw [if_pos (by simp only [List.length_cons];omega),Nat.sub_self,Array.getElem?_setIfInBounds_self_of_lt b];rfl
   rw [if_neg (by omega),Array.getElem?_eq_none (by simpa using b),Array.getElem?_eq_none (by omega)]
  rw [Array.getElem?_setIfInBounds_ne (Ne.symm e),if_neg (by simp only [List.length_cons];omega)]
theorem lay_all (cs:List Value) (a:Array Value) (h:a.size=cs.length):(cs.toArray.zipIdx.foldl (fun b (p:Value×Nat)=>b.setIfInBounds (0*cs.length+p.2) p.1) a)=cs.toArray:=by
 have e:(fun (b:Array Value) (p:Value×Nat)=>b.setIfInBounds (0*cs.length+p.2) p.1)=fun b p=>b.setIfInBounds p.2 p.1:=by funext b p;rw [Nat.zero_mul,Nat.zero_add]
 rw [e]
 obtain ⟨h1,f⟩:=xq cs 0 a
 have d:(cs.toArray.zipIdx.foldl (fun (b:Array Value) (p:Value×Nat)=>b.setIfInBounds p.2 p.1) a)=((cs.zipIdx 0).foldl (fun b p=>b.setIfInBounds p.2 p.1) a):=by
  rw [←Array.foldl_toList,Array.toList_zipIdx]
 rw [d]
 apply Array.ext_getElem?
 intro k
 rw [f k]
 by_cases g:k<cs.length
 ·rw [if_pos (by omega),Nat.sub_zero];simp
 rw [if_neg (by omega),Array.getElem?_eq_none (by omega),Array.getElem?_eq_none (by simpa using g)]
theorem iH {P:Program} (w:World) (t e:TypeId) (cs:List Value) (b:Array Value) (l:P.underlying t=some (.slice e)) (f:∀w,(sizeOf e).run P w= .ok cs.length w) (m:∀w,(zeroValue e).run P w= .ok (.agg b) w)
  (h:0<cs.length) (g:cs.length≤1000) :
  (Instr.buildSlice t 1 #[(0,.agg cs.toArray)]).run P w= .ok (.slice (some ⟨w.heap.size,0,none⟩) 1 1) (w.alloc (.cells cs.toArray e)):=by
 have a:Instr.fill (fun i=>some (i*cs.length,cs.length)) ((Array.range (1*cs.length)).map (b[· % b.size]!)) #[(0,Value.agg cs.toArray)].toList=some cs.toArray:=by
  have j:((Array.range (1*cs.length)).map (b[· % b.size]!)).size=cs.length:=by simp
  have d:(Value.agg cs.toArray).cells=cs.toArray:=rfl
  show Instr.fill _ _ [(0,Value.agg cs.toArray)]=_
  unfold Instr.fill
  simp only [d,List.size_toArray]
  rw [if_neg (by simp)]
  unfold Instr.fill
  rw [lay_all cs _ j]
 have h1:¬(16777216<1*cs.length):=by omega
 have k:¬(1*cs.length=0):=by omega
 unfold Instr.buildSlice
 simp only [Sem.run_bind,run_underlying l,Result.andThen_ok,f]
 rw [if_neg (by omega),if_neg k]
 simp only [Sem.run_bind,Sem.run_pure,Result.andThen_ok,m]
 have d:(Value.agg b).cells=b:=rfl
 simp only [d,a]
 simp [newRow]
theorem aO {P:Program} {w:World} {ops:Array Oper} {rest:List Oper} {o:Oper} {a:Act} {Q:Exit→Act→World→Prop} (m:o.guard=none) (x:Operand) (t e:TypeId) (g:o.op= .buildSlice t 1 #[(0,x)])
  (cs:List Value) (j:Array Value) (hx:a.eval x= .agg cs.toArray) (l:P.underlying t=some (.slice e)) (h:∀w,(sizeOf e).run P w= .ok cs.length w) (p:∀w,(zeroValue e).run P w= .ok (.agg j) w)
  (f:0<cs.length) (b:cs.length≤1000) (n:wpList P ops Q rest (a.put o.dst (.slice (some ⟨w.heap.size,0,none⟩) 1 1)) (w.alloc (.cells cs.toArray e))):wpList P ops Q (o::rest) a w:=by
 refine wpList_plain m fun K i=> ?_
 have d:=iH w t e cs j l h p f b
 unfold Oper.wp
 have k:(execOp a.eval o).run P w= .ok (.value (.slice (some ⟨w.heap.size,0,none⟩) 1 1)) (w.alloc (.cells cs.toArray e)):=by
  unfold execOp
  simp only [g,List.map_toArray,List.map_cons,List.map_nil,hx,Sem.run_bind,d,Result.andThen_ok,Sem.run_pure]
 rw [k]
 exact i _ _ n
theorem aD {P:Program} {fn:Func} {R:Ending→World→Prop} {a:Act} {w:World} {p q:Tmp} {ty:TypeId} (h:fn.results= #[.cell p ty,.tmp q]) (b o:Nat)
  (g:a.tmps.getD p undef= .pointer (some ⟨b,o,none⟩)) (cs:List Value) (d:TypeDesc) (i:w.rangeAt b o cs)
  (hu:P.underlying ty=some d) (hd:d.isRow=true) (hi:(P.info? ty).map (·.size)=some cs.length) (e:a.defers=[]) (u:Value) (f:a.tmps.getD q undef=u) (j:R (.returned (.tuple #[.agg cs.toArray,u])) w):bodyPost P fn R .ret a w:=by
 refine bodyPost_ret (v:=.tuple #[.agg cs.toArray,u]) ?_ e j
 have:=run_loadVar_mid (P:=P) w b o ty cs d i hu hd hi
 simp only [results,h]
 rw [Array.getD_eq_getD_getElem?] at g f
 simp [asAddr,g,f,this]
theorem aG {P:Program} {ops:Array Oper} {rest:List Oper} {op:Oper} {a:Act} {w:World} {Q:Exit→Act→World→Prop} (e:Region.wanted op (yielded ops a.tmps)=true) (ty:TypeId) (x:Operand) (f:op.op= .load ty x)
  (b o:Nat) (hx:a.eval x= .pointer (some ⟨b,o,none⟩)) (cs:List Value) (d:TypeDesc) (g:w.rangeAt b o cs)
  (hu:P.underlying ty=some d) (hd:d.isRow=true) (hi:(P.info? ty).map (·.size)=some cs.length)
  (h:wpList P ops Q rest (a.put op.dst (.agg cs.toArray)) w):wpList P ops Q (op::rest) a w:=by
 unfold wpList
 rw [if_pos e]
 exact .inl (wp_load_mid ty x f b o hx cs d g hu hd hi h)
def Fr (w:World) (v a:Value):Prop:=a.ownBlock=v.ownBlock∨ ∀g,a.ownBlock=some g→w.heap.size≤g
theorem Fr.refl (w:World) (v:Value):Fr w v v:=.inl rfl
theorem jY {w w1 d:World} {r:Option Nat} (h1:w.grownBy w1 r) (a:Below w1.heap.size w1 d):w.grownBy d r :=
 ⟨a.os.trans h1.os,a.tape.trans h1.tape,a.output.trans h1.output,Nat.le_trans h1.size a.size,fun k e b=>(a.block k (Nat.lt_of_lt_of_le e h1.size)).trans (h1.block k e b)⟩
theorem zw {w w1 d:World} {r:Option Nat} (h1:Below w.heap.size w w1) (a:w1.grownBy d r):w.grownBy d r :=
 ⟨a.os.trans h1.os,a.tape.trans h1.tape,a.output.trans h1.output,Nat.le_trans h1.size a.size,fun k e b=>(a.block k (Nat.lt_of_lt_of_le e h1.size) b).trans (h1.block k e)⟩
theorem jc {w w':World} {r:Option Nat} {b o:Nat} {cs:List Value} (h:w.rangeAt b o cs) (f:w.grownBy w' r) (d:r≠some b):w'.rangeAt b o cs :=
 fun j u hu=>f.cell (a:=⟨b,o+j,none⟩) (h j u hu) (fun e=>d e.symm)
theorem oD {w:World} {B b:Nat} {e:TypeId} {sz:Nat} {v:Value} {n:Nat} {xs:List Value} (h:w.ownsRow B e sz v n xs) (hb:b≤B):w.ownsRow b e sz v n xs:=by
 refine ⟨h.1,?_⟩
 rcases h.2 with h|⟨g,a,cur,f,d,r⟩
 ·exact .inl h
 exact .inr ⟨g,a,cur,f,Nat.le_trans hb d,r⟩
theorem uw {w w':World} (h:w.grownBy w' none) (r:Option Nat):w.grownBy w' r:=⟨h.os,h.tape,h.output,h.size,fun k a _=>h.block k a (by simp)⟩
theorem jC {P:Program} (w:World) {ops:Array Oper} {rest:List Oper} {o:Oper} {a:Act} {Q:Exit→Act→World→Prop}
  (A:o.guard=none) (s x:Operand) (t:TypeId) (l:o.op=Op.call { callee:=Callee.builtin Builtin.append,args:=#[s,x],argTypes:=#[t,t] })
  (base:Nat) (e:TypeId) (i:TypeInfo) (z:Value) (size bytes:Nat) (h1:P.underlying t=some (.slice e)) (G:P.info? e=some i) (U:i.zero=some z) (H:i.size=size) (T:i.bytes=bytes) (O:z.cells.size=size) (R:0<size)
  (v:Value) (n:Nat) (xs:List Value) (J:a.eval s=v) (f:w.ownsRow base e size v n xs)
  (C:Addr) (m c:Nat) (d:List Value) (hx:a.eval x= .slice (some C) m c) (K:d.length=m*size) (E:∀j u,d[j]? = some u→w.cell? (C.add j)=some u) (B:∀u∈d,u.oneCell'=true)
  (S:n+m≤maxLen) (N:(n+m)*bytes≤140737488355328) (k:base≤w.heap.size)
  (L:∀y w',w'.ownsRow base e size y (n+m) (xs++d)→w.grownBy w' v.ownBlock→Fr w v y→wpList P ops Q rest (a.put o.dst y) w') :
  wpList P ops Q (o::rest) a w:=by
 rcases f.2 with ⟨I,M⟩|⟨g,r,cur,I,X,aa,V,W,Y,Z⟩
 ·subst M
  have F:xs=[]:=List.eq_nil_of_length_eq_zero (by simpa using f.1)
  subst F
  subst I
  refine wpList_append_own w A s x t l w.heap.size e i z size bytes h1 G U H T O R _ 0 [] J (World.ownsRow_nil w _ e size) C m c d hx K E B S N (Nat.le_refl _) ?_
  intro y w' p D _
  exact L y w' (oD p k) D (.inr fun g A=>(p.lt g A).1 |> fun hh=>hh)
 subst I
 by_cases q:n+m≤r
 ·refine wpList_append_own_spare w A s x t l base e i size h1 G H g n r xs J f C m c d hx K E B q ?_
  intro w' p D
  exact L _ w' p D (.inl rfl)
 refine wpList_append_grows w A s x t l e i z size bytes h1 G U H T O R (some ⟨g,0,none⟩) n r xs J (fun h=>by cases h) f.1 (fun b hb=>by cases hb;exact f.cells (g:=g) rfl) C m c d hx K E B (by omega) S N ?_
 intro y w' p D
 exact L y w' (oD p k) (uw D _) (.inr fun g A=>(p.lt g A).1)
theorem oU {P:Program} {w:World} {b o:Nat} {cs:List Value} (ty:TypeId) (d:TypeDesc) (f:w.rangeAt b o cs) (hu:P.underlying ty=some d) (hd:d.isRow=true)
  (hi:(P.info? ty).map (·.size)=some cs.length) {a:Act} {op:Oper} (x:Operand) (e:op.op= .load ty x) (hx:a.eval x= .pointer (some ⟨b,o,none⟩)) :
  (execOp a.eval op).run P w= .ok (.value (.agg cs.toArray)) w:=by
 unfold execOp
 simp only [e,hx,Instr.loadAt,Instr.sureAddr,Sem.run_bind,Sem.run_pure,Result.andThen_ok,run_loadVar_mid w b o ty cs d f hu hd hi]
section
variable {P:Program} {ops:Array Oper} {Q:Exit → Act → World → Prop} {S:World → Prop}
theorem WL.two {n i k:Nat} {oi ok:Oper} {f:Nat} {ls:Array Bool} {a:Act} {w:World} (hi:ops[i]? = some oi) (v:ops[k]? = some ok) (g:i<n) (m:k<n) (u:Region.ready .any ops ls=[i,k])
  (h:wpList P ops (KK Q S fun a' w'=>WL P ops Q S n f (ls.setIfInBounds i true) a' w') [oi] a w) (e:wpList P ops (KK Q S fun a' w'=>WL P ops Q S n f (ls.setIfInBounds k true) a' w') [ok] a w):WL P ops Q S n (f+1) ls a w:=by
 have one:∀ {j:Nat} {p:Oper},ops[j]? = some p→j<n→j∈Region.ready .any ops ls→wpList P ops (KK Q S fun a' w'=>WL P ops Q S n f (ls.setIfInBounds j true) a' w') [p] a w→HeadInv .any ops n ls →
   wpOp P ops Q j (fun a' w'=>S w'∧wpL P .any ops Q S n f (ls.setIfInBounds j true) a' w') a w:=by
  intro j p l r q h b
  have d:=b.set q r
  unfold wpOp
  simp only [l]
  simp only [wpList] at h
  split
  ·rename_i s
   rw [if_pos s] at h
   rcases h with h|⟨h1,y⟩
   ·exact .inl (Oper.wp_mono (fun a' w' e=>⟨e.1,e.2.out d⟩) (zL h))
   refine .inr ⟨h1,?_⟩
   obtain ⟨a',w',e⟩:=y
   exact ⟨a',w',e⟩
  rename_i s
  rw [if_neg s] at h
  exact ⟨h.1,h.2.out d⟩
 refine ⟨fun b=>⟨fun x=>(by rw [x] at u;cases u),fun j l=> ?_⟩⟩
 have o:=l
 rw [u] at l
 rcases List.mem_cons.1 l with rfl|t
 ·exact ⟨g,one hi g o h b⟩
 obtain rfl:j=k:=by simpa using t
 exact ⟨m,one v m o e b⟩
end
theorem nz {α:Type}:(∀(xs:List α) (i:Nat) (h:i<xs.toArray.size),xs.toArray[i]=xs[i]'(by simpa using h))∧(∀(a:α) (l:List α) (i:Nat) (h:i+1<(a::l).length),(a::l)[i+1]=l[i]'(by simpa using h)) ∧
  (∀(a:α) (l:List α) (h:0<(a::l).length),(a::l)[0]=a)∧(∀(l:List α) (i:Nat) (a:α),l.toArray.setIfInBounds i a=(l.set i a).toArray)∧(∀(x:α) (l:List α) (i:Nat) (a:α),(x::l).set (i+1) a=x::l.set i a) ∧
  ∀(x:α) (l:List α) (a:α),(x::l).set 0 a=a::l :=
 ⟨fun _ _ h=>List.getElem_toArray h,fun a l i h=>List.getElem_cons_succ a l i h,fun a l h=>List.getElem_cons_zero a l h,fun l i a=>List.setIfInBounds_toArray l i a,fun _ _ _ _=>List.set_cons_succ,fun _ _ _=>List.set_cons_zero⟩
theorem ah {p:Prop} (h:p):Hid p:=Lib.hid h
theorem bal {w:World} {x:Obj}:Below w.heap.size w (w.alloc x):=(Below.refl _ _).alloc (Nat.le_refl _) _
theorem bth {a b c:World} (h:Hid (Below a.heap.size a b)) (d:Below b.heap.size b c):Hid (Below a.heap.size a c):=Lib.hid (h.out.trans (d.mono h.out.size))
theorem blq {w:World} {b o:Nat} {v:Value} (h:w.cell? ⟨b,o,none⟩=some v) (hb:b<w.heap.size:=by omega) (x:BW w.heap.size w):x.out.cell? ⟨b,o,none⟩=some v:=au h x.hb hb
section
variable {P:Program} {ops:Array Oper} {Q:Exit → Act → World → Prop} {S Sp S0:World → Prop} {n m f:Nat} {oi ok:Oper} {v:Value} {ls:Array Bool} {a:Act} {w:World}
theorem WL.tk (i:Nat) {a':Act} (hS:S w) (h:WL P ops Q S n f (ls.setIfInBounds i true) a' w) (hi:ops[i]? = some oi:=by rfl) (l:lastB ops n=true:=by kernel_rfl) (b:i<n:=by decide)
  (g:Region.free .any ops ls i=true:=by decide +kernel) (e:(Region.ready .any ops ls).contains i=true:=by decide +kernel) (j:∀c a w,Q (.panic c) (a.put oi.dst v) w→Q (.panic c) a w:=by exact fun _ _ _ h=>h)
  (k:Region.wanted oi (yielded ops a.tmps)=true:=by rfl) (hy:∀w,S w→(execOp a.eval oi).run P w= .ok (.value v) w:=by intro w' d;(try dsimp only at d);go_simp;(try with_reducible rfl))
  (m:a.put oi.dst v=a':=by simp only [Act.put,nz];rfl):WL P ops Q S n (f+1) ls a w:=by
 subst m
 exact WL.take hi l b g e j k hy hS h
theorem WL.on (i:Nat) (h:wpList P ops (KK Q S fun a' w'=>WL P ops Q S n f (ls.setIfInBounds i true) a' w') [oi] a w) (hi:ops[i]? = some oi:=by rfl) (b:i<n:=by decide) (d:Region.ready .any ops ls=[i]:=by decide +kernel):WL P ops Q S n (f+1) ls a w:=WL.one hi b d h
theorem WL.tw (i k:Nat) (h:wpList P ops (KK Q S fun a' w'=>WL P ops Q S n f (ls.setIfInBounds i true) a' w') [oi] a w) (e:wpList P ops (KK Q S fun a' w'=>WL P ops Q S n f (ls.setIfInBounds k true) a' w') [ok] a w)
  (hi:ops[i]? = some oi:=by rfl) (g:ops[k]? = some ok:=by rfl) (b:i<n:=by decide) (d:k<n:=by decide) (j:Region.ready .any ops ls=[i,k]:=by decide +kernel):WL P ops Q S n (f+1) ls a w:=WL.two hi g b d j h e
theorem WL.la (n:Nat) (h:wpList P ops Q [oi] a w) (hi:ops[n]? = some oi:=by rfl) (d:ops.size=n+1:=by rfl) (b:Region.ready .any ops ls=[n]:=by decide +kernel) (hd:Region.ready .any ops (ls.setIfInBounds n true)=[]:=by decide +kernel):WL P ops Q S n 0 ls a w:=WL.last hi d b hd h
end
section
variable {P:Program} {id:Nat} {Q:Exit → Act → World → Prop} {a:Act} {w:World} {l:List Oper}
theorem wbq (h:wpQuiet P l.toArray (fun w'=> ∃x:BW w.heap.size w,w'=x.out) (fun a'=> ∀w',Below w.heap.size w w'→Q .normal a' w') l a) (hm:P.follows .mixedOrders=true:=by kernel_rfl) (b:Region.lexB .any l.toArray=true:=by kernel_rfl):(Code.region id l.toArray true).wp P Q a w:=nJ hm b h
theorem wrL (n:Nat) (S:World→Prop) (h:WL P l.toArray Q S n n (Array.replicate l.toArray.size false) a w.drew) (hm:P.follows .mixedOrders=true:=by kernel_rfl) (b:lastB l.toArray n=true:=by kernel_rfl):(Code.region id l.toArray true).wp P Q a w:=zK n S hm b h
end
def kV:List Value:=iI.map fun k=> .int .u32 (wn k)
theorem MP:kV.length=64:=by unfold kV;rw [List.length_map,mQ]
def fu (f:Nat→W32) (k:Nat):Value:=.int .u32 (wn (f k))
theorem r9 (f:Nat→W32) (i:Nat) (x:W32):upd (fu f) i (.int .u32 (wn x))=fu (upd f i x):=by
 funext k;unfold upd fu;dsimp only;split<;>rfl
theorem Arr.new (w:World) (n:Nat) (v:Value) (e:TypeId):Arr (w.alloc (.cells (Array.replicate n v) e)) w.heap.size n (fun _=>v) :=
 ⟨fun k a=>by rw [World.cell?_alloc_new];simp [a],fun k a=>by rw [World.frozen?_alloc_new]⟩
theorem Nb (w:World):(sizeOf 5).run prog w= .ok 1 w:=by kernel_rfl
theorem CB (b:Nat) (k:Nat) (g:k<16) (w:World) :
  (Instr.sliceAt 288 (.pointer (some ⟨b,9,none⟩)) (some (.int .i64 (4*(k:Int)))) (some (.int .i64 (4*(k:Int)+4))) none).run prog w= .ok (.slice (some ⟨b,9+4*k,none⟩) 4 (64-4*k)) w:=by
 have a:prog.arrayLen 288=64:=by kernel_rfl
 have d:prog.elem 288=5:=by kernel_rfl
 have e:((4*(k:Int))).toNat=4*k:=by omega
 have f:((4*(k:Int)+4)).toNat=4*k+4:=by omega
 rw [run_sliceAt_array_lh _ _ _ (by rw [a,d];exact underlying288) _ _ _ _ (by omega) (by omega) (by rw [a];omega),a,d,Nb,e,f]
 show Result.ok (slicedAt _ _ _ _ _) w=_
 unfold slicedAt
 rw [if_neg (by omega),show 4*k+4-4*k=4 from by omega,Addr.add_mid,Nat.mul_one]
theorem Arr.eight (w:World) (s:Nat→W32) (e:TypeId):Arr (w.alloc (.cells #[.int .u32 (wn (s 0)),.int .u32 (wn (s 1)),.int .u32 (wn (s 2)),.int .u32 (wn (s 3)),.int .u32 (wn (s 4)),.int .u32 (wn (s 5)),.int .u32 (wn (s 6)),.int .u32 (wn (s 7))] e)) w.heap.size 8 (fu s):=by
 refine ⟨fun k a=> ?_,fun k a=>by rw [World.frozen?_alloc_new]⟩
 rw [World.cell?_alloc_new]
 obtain h|h|h|h|h|h|h|h:k=0∨k=1∨k=2∨k=3∨k=4∨k=5∨k=6∨k=7:=by omega
 all_goals subst h;rfl
theorem Arr.I6 {w:World} {b n:Nat} {c:Nat→Value} (h:Arr w b n c) (a:List Value) (e:a.length=n):Arr (w.setCells b 0 a) b n (fun k=>a.getD k undef):=by
 refine ⟨fun k d=> ?_,fun k d=> ?_⟩
 ·have:=World.rangeAt_setCells_same w b 0 a (by rw [e];exact h.there) k (a.getD k undef) (by simp [e,d])
  simpa using this
 have:=(World.there_setCells h.there b 0 a k d).2
 simpa using this
theorem aj {P:Program} {ops:Array Oper} {rest:List Oper} {op:Oper} {a:Act} {w:World} {Q:Exit→Act→World→Prop} (e:op.guard=none) (ty:TypeId) (x y:Operand) (i:op.op= .store ty x y)
  (b o:Nat) (d:List Value) (hx:a.eval x= .pointer (some ⟨b,o,none⟩)) (hy:a.eval y= .agg d.toArray) (n:Nat) (f:d.length=n)
  (g:w.there b o n) (hi:(P.info? ty).map (·.size)=some n) (h1:∀v∈d,v.oneCell'=true)
  (h:wpList P ops Q rest (a.put op.dst undef) (w.setCells b o d)):wpList P ops Q (op::rest) a w :=
 wpList_store_mid e ty x y i b o d.toArray hx hy (by simpa [f] using g) (by simpa [f] using hi) (all_oneCell_toArray h1) (by simpa using h)
theorem aN {w w':World} {b o:Nat} (h:w.grownBy w' (some b)) (v:Value):w.grownBy (w'.setCell ⟨b,o,none⟩ v) (some b) :=
 ⟨h.os,h.tape,h.output,by simpa [World.setCell] using h.size,fun k d a=>by rw [Below.heap_setCell _ _ _ _ (fun e=>a (by rw [e]))];exact h.block k d a⟩
theorem Bl {w w' b:World} {row:Option Nat} (h:w.grownBy w' row) (hb:Below w'.heap.size w' b):w.grownBy b row :=
 ⟨hb.os.trans h.os,hb.tape.trans h.tape,hb.output.trans h.output,Nat.le_trans h.size hb.size,fun k d a=>(hb.block k (Nat.lt_of_lt_of_le d h.size)).trans (h.block k d a)⟩
theorem Ae (w:World) (n:Nat) (b:n<64):(Instr.index 395 (.agg kV.toArray) (.int .i64 (n:Int))).run prog w= .ok (.int .u32 (wn (rK n))) w:=by
 have a:(sizeOf 87).run prog w= .ok 1 w:=by kernel_rfl
 have e:(isAgg 87).run prog w= .ok false w:=by kernel_rfl
 have d:kV.toArray[n]? = some (.int .u32 (wn (rK n))):=by
  unfold kV rK
  have:n<iI.length:=by rw [mQ];exact b
  simp [this]
 have h1:(0:Int)≤n∧(n:Int)<(64:Nat):=by omega
 unfold Instr.index
 simp only [Sem.run_bind,asIntOf,Sem.run_pure,Result.andThen_ok,run_underlying underlying395,if_pos h1,a,part,e,Int.toNat_natCast,Nat.mul_one,d]
 rfl
theorem IW (b:Nat) (h:HS) (w:World) (hA:Arr w b 75 h.c) (z:w.rangeAt 4 0 kV) (al:4<w.heap.size) :
  Calls prog 299 #[.pointer (some ⟨b,0,none⟩)] w fun e w'=>e= .returned (.tuple #[])∧Arr w' b 75 (HS.c { h with st:=dU h.st h.rest,many:=0 })∧w.grownBy w' (some b):=by
 have K:b<w.heap.size:=hA.lt (by omega)
 have ab:Arr (w.alloc (.cells (Array.replicate 64 (.int .u32 0)) 395)) w.heap.size 64 (fu (fD h.rest 0 0)):=by
  rw [Du];exact Arr.new w 64 _ _
 have HK:=ah (fun (w:World) (n:Nat) (hn:n<64)=>Ae w n hn)
 have hz:(prog.info? 395).map (·.size)=some kV.length:=by rw [MP];kernel_rfl
 have HZ:=ah hz
 clear hz
 generalize kV=KV at z HK HZ
 have HA:=ah hA
 have HR:=ah z
 clear hA z
 go_enter func299,ntmps299
 go_wp2
 go_loopw [13] (fun i wr=> ∃k:Nat,k≤16∧i= .int .i64 k∧Arr wr w.heap.size 64 (fu (fD h.rest k 0))∧Below w.heap.size w wr) (fun i _=>(16-intOf i).toNat)
 case atStart=>exact ⟨0,by omega,rfl,ab,bal⟩
 obtain ⟨wo,rfl⟩:∃wo:World,wo=wr:=⟨_,rfl⟩
 obtain ⟨k,hk,rfl,G,hb⟩:=hrel
 clear ab
 by_cases aq:k<16
 ·have hd:decide ((k:Int)<16)=true:=decide_eq_true (by omega)
  have bc:=CB b k aq
  have k0:(0:Int)≤k:=by omega
  have k1:(k:Int)<16:=by omega
  go_wp2
  go_loopw [26] (fun i wr=> ∃j:Nat,j≤4∧i= .int .i64 j∧Arr wr w.heap.size 64 (fu (fD h.rest k j))∧Below w.heap.size w wr) (fun i _=>(4-intOf i).toNat)
  case atStart=>exact ⟨0,by omega,rfl,G,hb⟩
  obtain ⟨wi,rfl⟩:∃wi:World,wi=wr:=⟨_,rfl⟩
  obtain ⟨j,hj,rfl,d,f⟩:=hrel
  clear G hb
  by_cases a4:j<4
  ·have cr:wi.cell? ⟨b,9+4*k+j,none⟩=some (.int .u8 (wn (bw (h.rest (4*k+j))))):=by
    rw [f.cell (p:=⟨b,9+4*k+j,none⟩) K,Nat.add_assoc,HA.out.cell _ (by omega),HS.M0 _ _ (by omega),kH]
   have Y:=d.cell k (by omega)
   have fw:=d.free k (by omega)
   unfold fu at Y
   have b0:=vE (bw (h.rest (4*k+j)))
   have b1:=Ns (h.rest (4*k+j))
   have x0:=vE (fD h.rest k j k)
   have x1:=nN (fD h.rest k j k)
   have j0:(0:Int)≤j:=by omega
   have j1:(j:Int)<4:=by omega
   have HN:=ah (d.set k (by omega) (.int .u32 (wn (fD h.rest k j k <<< 8 ||| bw (h.rest (4*k+j))))))
   have ax:decide ((j:Int)<4)=true:=decide_eq_true (by omega)
   clear d
   go_wp2
   go_roundw
   case rel =>
    rw [MW,M6]
    refine ⟨j+1,by omega,by go_num,?_,f.setCell (Nat.le_refl _) _⟩
    have:=HN.out
    rw [r9,Dw] at this
    exact this
   case measure=>simp [intOf];omega
  obtain rfl:j=4:=by omega
  go_wp2
  go_roundw
  case rel=>exact ⟨k+1,by omega,by go_num,by rw [←Dv];exact d,f⟩
  case measure=>simp [intOf];omega
 obtain rfl:k=16:=by omega
 obtain ⟨w1,rfl⟩:∃w1:World,w1=wo:=⟨_,rfl⟩
 go_wp2
 go_loopw [6] (fun i wr=> ∃n:Nat,n≤48∧i= .int .i64 (16+n:Nat)∧Arr wr w.heap.size 64 (fu (bq h.rest n))∧Below w.heap.size w wr) (fun i _=>(64-intOf i).toNat)
 case atStart=>exact ⟨0,by omega,rfl,G,hb⟩
 obtain ⟨wi,rfl⟩:∃wi:World,wi=wr:=⟨_,rfl⟩
 obtain ⟨n,hn,rfl,d,f⟩:=hrel
 clear G hb
 generalize hm:16+n=m
 by_cases H:n<48
 ·have c2:=d.cell (m-2) (by omega)
  have P:=d.cell (m-7) (by omega)
  have X:=d.cell (m-15) (by omega)
  have S:=d.cell (m-16) (by omega)
  have cm:=d.cell m (by omega)
  have fm:=d.free m (by omega)
  have HN:=ah (d.set m (by omega) (.int .u32 (wn (EL (bq h.rest n) m))))
  have t:w.heap.size<wi.heap.size:=d.lt (by omega)
  unfold fu at c2 P X S cm
  have m0:(16:Int)≤m:=by omega
  have m1:(m:Int)<64:=by omega
  have ax:decide ((m:Int)<64)=true:=decide_eq_true (by omega)
  have y:=ah d
  clear d
  have a2:IntKind.i64.wrap ((m:Int)-2)=(m:Int)-2:=IntWalk.i64_in _ (by omega)
  have t2:((m:Int)-2).toNat=m-2:=by omega
  have z2:(2:Int)≤m:=by omega
  have y2:(m:Int)-2<64:=by omega
  have a7:IntKind.i64.wrap ((m:Int)-7)=(m:Int)-7:=IntWalk.i64_in _ (by omega)
  have t7:((m:Int)-7).toNat=m-7:=by omega
  have z7:(7:Int)≤m:=by omega
  have y7:(m:Int)-7<64:=by omega
  have bf:IntKind.i64.wrap ((m:Int)-15)=(m:Int)-15:=IntWalk.i64_in _ (by omega)
  have a5:((m:Int)-15).toNat=m-15:=by omega
  have bh:(15:Int)≤m:=by omega
  have be:(m:Int)-15<64:=by omega
  have bd:IntKind.i64.wrap ((m:Int)-16)=(m:Int)-16:=IntWalk.i64_in _ (by omega)
  have a8:((m:Int)-16).toNat=m-16:=by omega
  have a9:(16:Int)≤m:=by omega
  have bb:(m:Int)-16<64:=by omega
  have EA:=BA
  have am:∀w,Calls prog 321 #[.int .u32 (wn (bq h.rest n (m-2))),.int .i64 17,.int .i64 19,.int .i64 10] w fun e w'=>e= .returned (.int .u32 (wn (nQ (bq h.rest n (m-2)) 17 19 10)))∧Below w.heap.size w w':=fun w=>zS (bq h.rest n (m-2)) 17 19 10 (by omega) (by omega) (by omega) (by omega) (by omega) w
  have af:∀w,Calls prog 321 #[.int .u32 (wn (bq h.rest n (m-15))),.int .i64 7,.int .i64 18,.int .i64 3] w fun e w'=>e= .returned (.int .u32 (wn (nQ (bq h.rest n (m-15)) 7 18 3)))∧Below w.heap.size w w':=fun w=>zS (bq h.rest n (m-15)) 7 18 3 (by omega) (by omega) (by omega) (by omega) (by omega) w
  go_wp2
  refine aX 23 (by kernel_rfl) (by kernel_rfl) ?_
  simp only [List.take_succ_cons,List.take_zero,List.drop_succ_cons,List.drop_zero]
  have q:=blq c2
  have r:=blq P
  have v:=blq X
  have F:=blq S
  repeat (go_big_quiet_step ((first|(go_at_call 321;with_reducible exact aF (am _))|(go_at_call 321;with_reducible exact aF (af _)))))
  refine wpQuiet_nil ?_
  intro E a
  clear q r v F
  have ba:=au cm a t
  have a6:E.frozen? ⟨w.heap.size,m,none⟩=false:=by rw [a.frozen (p:=⟨w.heap.size,m,none⟩) t];exact fm
  go_wp2
  go_roundw
  case rel =>
   have h1:=(y.out.below a t).set m (by omega) (.int .u32 (wn (EL (bq h.rest n) m)))
   refine ⟨n+1,by omega,by rw [←hm];go_num,?_,(f.trans (a.mono f.size)).setCell (Nat.le_refl _) _⟩
   rw [r9,←hm] at h1
   rw [←hm]
   exact h1
  case measure=>simp [intOf];omega
 obtain rfl:n=48:=by omega
 obtain rfl:m=64:=by omega
 have t:w.heap.size<wi.heap.size:=d.lt (by omega)
 have y:=ah d
 have l:=HA.out.below f K
 have c0:=l.cell (1+0) (by omega)
 have c1:=l.cell (1+1) (by omega)
 have c2:=l.cell (1+2) (by omega)
 have c3:=l.cell (1+3) (by omega)
 have c4:=l.cell (1+4) (by omega)
 have c5:=l.cell (1+5) (by omega)
 have c6:=l.cell (1+6) (by omega)
 have P:=l.cell (1+7) (by omega)
 rw [HS.MZ _ _ (by omega)] at c0 c1 c2 c3 c4 c5 c6 P
 simp only [Nat.reduceAdd] at c0 c1 c2 c3 c4 c5 c6 P
 clear l d
 have ad:wi.rangeAt 4 0 KV:=ay HR.out f al
 go_wp2_with (refine wpList_load_mid rfl 395 _ rfl 4 0 rfl _ _ (World.rangeAt_alloc ad _) underlying395 rfl HZ.out ?_)
 clear ad c0 c1 c2 c3 c4 c5 c6 P
 generalize G:bq h.rest 48=W at y
 have ae:=ah G
 clear G
 go_loopw [73] (fun i wr=> ∃n:Nat,n≤64∧i= .int .i64 n∧Arr wr wi.heap.size 8 (fu (bY W h.st n))∧Below wi.heap.size wi wr) (fun i _=>(64-intOf i).toNat)
 case atStart=>exact ⟨0,by omega,rfl,Arr.eight _ _ _,bal⟩
 obtain ⟨wj,rfl⟩:∃wj:World,wj=wr:=⟨_,rfl⟩
 obtain ⟨n,hn,rfl,hS,B⟩:=hrel
 have o:wi.heap.size<wj.heap.size:=hS.lt (by omega)
 have x:=ah hS
 by_cases H:n<64
 ·have hk:=fun w=>HK.out w n H
  have Y:=(y.out.below B t).cell n (by omega)
  have s0:=hS.cell 0 (by omega)
  have s1:=hS.cell 1 (by omega)
  have s2:=hS.cell 2 (by omega)
  have s3:=hS.cell 3 (by omega)
  have s4:=hS.cell 4 (by omega)
  have Q:=hS.cell 5 (by omega)
  have V:=hS.cell 6 (by omega)
  have s7:=hS.cell 7 (by omega)
  unfold fu at Y s0 s1 s2 s3 s4 Q V s7
  have n0:(0:Int)≤n:=by omega
  have n1:(n:Int)<64:=by omega
  have az:decide ((n:Int)<64)=true:=decide_eq_true (by omega)
  clear hS
  have EA:=BA
  have EX:=qh
  have EN:=LV
  have EC:=Cm
  generalize z:bY W h.st n=R at s0 s1 s2 s3 s4 Q V s7 x
  have L:=ah z
  clear z
  have Z:∀w,Calls prog 322 #[.int .u32 (wn (R 4)),.int .i64 6,.int .i64 11,.int .i64 25] w fun e w'=>e= .returned (.int .u32 (wn (nT (R 4) 6 11 25)))∧Below w.heap.size w w':=fun w=>sK (zZ (R 4) 6 11 25 (by omega) (by omega) (by omega) (by omega) (by omega) (by omega) w)
  have aa:∀w,Calls prog 322 #[.int .u32 (wn (R 0)),.int .i64 2,.int .i64 13,.int .i64 22] w fun e w'=>e= .returned (.int .u32 (wn (nT (R 0) 2 13 22)))∧Below w.heap.size w w':=fun w=>sK (zZ (R 0) 2 13 22 (by omega) (by omega) (by omega) (by omega) (by omega) (by omega) w)
  go_wp2
  refine wbq ?_
  have q:=blq s4
  have r:=blq Q
  have v:=blq V
  have F:=blq s7
  have ap:=blq Y
  repeat (go_big_quiet_step ((go_at_call 322;with_reducible exact aF (Z _))))
  refine wpQuiet_nil ?_
  intro E a
  clear q r v F ap
  have q0:=au s0 a o
  have q1:=au s1 a o
  have q2:=au s2 a o
  have q3:=au s3 a o
  have q4:=au s4 a o
  have q5:=au Q a o
  have q6:=au V a o
  have s:wi.heap.size<E.heap.size:=by have:=a.size;omega
  obtain ⟨wa,rfl⟩:∃wa:World,wa=E:=⟨_,rfl⟩
  have C:=a
  clear a
  go_wp2
  refine wbq ?_
  have q:=blq q0
  have r:=blq q1
  have v:=blq q2
  repeat (go_big_quiet_step ((go_at_call 322;with_reducible exact aF (aa _))))
  refine wpQuiet_nil ?_
  intro E a
  clear q r v
  obtain ⟨wb,rfl⟩:∃wb:World,wb=E:=⟨_,rfl⟩
  have p0:=au q0 a s
  have p1:=au q1 a s
  have p2:=au q2 a s
  have p3:=au q3 a s
  have p4:=au q4 a s
  have p5:=au q5 a s
  have p6:=au q6 a s
  clear q0 q1 q2 q3 q4 q5 q6 s0 s1 s2 s3 s4 Q V s7 Z aa Y hk
  have an:Below wi.heap.size wi wb:=B.trans ((C.trans (a.mono C.size)).mono B.size)
  have ac:=ah (x.out.below (C.trans (a.mono C.size)) o)
  have ag:=ac.out.there
  rw [BA,BA]
  have eT:R 7+nT (R 4) 6 11 25+(R 4 &&& R 5 ^^^ ~~~R 4 &&& R 6)+rK n+W n=tW R (rK n) (W n):=rfl
  have eU:nT (R 0) 2 13 22+(R 0 &&& R 1 ^^^ R 0 &&& R 2 ^^^ R 1 &&& R 2)=uW R:=rfl
  rw [eT,eU]
  clear eT eU
  generalize hT:tW R (rK n) (W n)=T
  generalize hU:uW R=U
  have ao:=ah hT
  have ar:=ah hU
  clear hT hU
  have h8:(prog.info? 305).map (·.size)=some 8:=by kernel_rfl
  go_wp2_with (refine aj rfl 305 _ _ rfl wi.heap.size 0 [.int .u32 (wn (T+U)),.int .u32 (wn (R 0)),.int .u32 (wn (R 1)),.int .u32 (wn (R 2)),.int .u32 (wn (R 3+T)),.int .u32 (wn (R 4)),.int .u32 (wn (R 5)),.int .u32 (wn (R 6))] ?x1 ?x2 8 ?x3 ?x4 ?x5 ?h1 ?_)
  case x1=>rfl
  case x2=>go_simp
  case x3=>rfl
  case x4=>exact ag
  case x5=>exact h8
  case h1=>simp [Value.oneCell']
  go_wp2
  go_roundw
  case rel =>
   refine ⟨n+1,by omega,by go_num,?_,?_⟩
   ·have h1:=Arr.I6 ac.out [.int .u32 (wn (T+U)),.int .u32 (wn (R 0)),.int .u32 (wn (R 1)),.int .u32 (wn (R 2)),.int .u32 (wn (R 3+T)),.int .u32 (wn (R 4)),.int .u32 (wn (R 5)),.int .u32 (wn (R 6))] rfl
    refine Arr.congr h1 fun k hk=> ?_
    show _=Value.int .u32 (wn (stepW (bY W h.st n) (rK n) (W n) k))
    rw [L.out]
    unfold stepW
    rw [ao.out,ar.out]
    obtain h|h|h|h|h|h|h|h:k=0∨k=1∨k=2∨k=3∨k=4∨k=5∨k=6∨k=7:=by omega
    all_goals subst h;rfl
   exact below_setCells _ (Nat.le_refl _) _ _ _ an
  case measure=>simp [intOf];omega
 obtain rfl:n=64:=by omega
 have A:=x.out
 rw [show bY W h.st 64=fun k=>bY W h.st 64 k from rfl] at A
 generalize z:bY W h.st 64=R at A
 have L:=ah z
 have ai:=ah A
 have I:Below w.heap.size w wj:=f.trans (B.mono f.size)
 have HG:=ah (aB I (some b))
 have aw:=ah (HA.out.below I K)
 clear hS z A x
 have a3:b<wj.heap.size:=by have:=I.size;omega
 go_wp2
 go_loopw [144] (fun i wr=> ∃n:Nat,n≤8∧i= .int .i64 n∧Arr wr b 75 (HS.c { h with st:=ou h.st R n })∧Arr wr wi.heap.size 8 (fu R)∧w.grownBy wr (some b)) (fun i _=>(8-intOf i).toNat)
 case atStart=>exact ⟨0,by omega,rfl,by rw [CZ];exact aw.out,ai.out,HG.out⟩
 obtain ⟨wk,rfl⟩:∃wk:World,wk=wr:=⟨_,rfl⟩
 obtain ⟨n,hn,rfl,g,u,D⟩:=hrel
 have M:b<wk.heap.size:=g.lt (by omega)
 have a0:wi.heap.size<wk.heap.size:=u.lt (by omega)
 have a1:b<wi.heap.size:=by have:=f.size;omega
 by_cases H:n<8
 ·have c1:=g.cell (1+n) (by omega)
  have f1:=g.free (1+n) (by omega)
  rw [HS.MZ _ _ (by omega)] at c1
  have N:ou h.st R n n=h.st n:=by unfold ou;rw [if_neg (by omega)]
  dsimp only at c1
  rw [N] at c1
  have c2:=u.cell n (by omega)
  unfold fu at c2
  have EA:=BA
  have n0:(0:Int)≤n:=by omega
  have n1:(n:Int)<8:=by omega
  have az:decide ((n:Int)<8)=true:=decide_eq_true (by omega)
  have J:=ah g
  have aE:=ah u
  have O:=ah D
  clear g u D N
  go_wp2
  refine aX 13 (by kernel_rfl) (by kernel_rfl) ?_
  simp only [List.take_succ_cons,List.take_zero,List.drop_succ_cons,List.drop_zero]
  have q:=blq c1
  have r:=blq c2
  repeat (go_big_quiet_step (fail))
  refine wpQuiet_nil ?_
  intro E a
  clear q r
  have bj:=au c1 a M
  have bi:E.frozen? ⟨b,1+n,none⟩=false:=by rw [a.frozen (p:=⟨b,1+n,none⟩) M];exact f1
  clear c1 f1 c2
  go_wp2
  go_roundw
  case rel =>
   have h1:=(J.out.below a M).set (1+n) (by omega) (.int .u32 (wn (h.st n+R n)))
   rw [HS.Ml _ _ (by omega)] at h1
   dsimp only at h1
   rw [C8] at h1
   refine ⟨n+1,by omega,by go_num,h1,?_,aN (Bl O.out a) _⟩
   exact (aE.out.below a a0).far (by show b≠_;omega) _
  case measure=>simp [intOf];omega
 obtain rfl:n=8:=by omega
 have c1:=g.cell 73 (by omega)
 have f1:=g.free 73 (by omega)
 have J:=ah g
 have O:=ah D
 clear g u D
 go_wp2
 go_end0
 refine ⟨rfl,?_,aN O.out _⟩
 have h1:=J.out.set 73 (by omega) (.int .i64 ((0:Nat):Int))
 rw [HS.zQ] at h1
 refine h1.congr fun k hk=> ?_
 unfold HS.c
 dsimp only
 by_cases e0:k=0
 ·rw [if_pos e0,if_pos e0]
 rw [if_neg e0,if_neg e0]
 by_cases N:k<9
 ·rw [if_pos N,if_pos N]
  unfold ou dU
  rw [if_pos (by omega),ae.out,L.out]
 rw [if_neg N,if_neg N]
def J3:List W32:=[0x6a09e667#32,0xbb67ae85#32,0x3c6ef372#32,0xa54ff53a#32,0x510e527f#32,0x9b05688c#32,0x1f83d9ab#32,0x5be0cd19#32]
def ig (k:Nat):W32:=J3.getD k 0
def kg:List Value:=[.int .u32 (wn (ig 0)),.int .u32 (wn (ig 1)),.int .u32 (wn (ig 2)),.int .u32 (wn (ig 3)),.int .u32 (wn (ig 4)),.int .u32 (wn (ig 5)),.int .u32 (wn (ig 6)),.int .u32 (wn (ig 7))]
structure Laid (w:World):Prop where
 rounds:w.rangeAt 4 0 kV
 first:w.rangeAt 3 0 kg
 lt:5 ≤ w.heap.size
theorem Laid.below {w w':World} (h:Laid w) (hb:Below w.heap.size w w'):Laid w':=by
 have:=h.lt;have:=hb.size
 exact ⟨ay h.rounds hb (by omega),ay h.first hb (by omega),by omega⟩
theorem mh {w w':World} {b d o:Nat} {cs:List Value} (h:w.rangeAt b o cs) (e:w.grownBy w' (some d)) (a:b≠d):w'.rangeAt b o cs:=fun j v f =>
 e.cell (h j v f) (by simpa using a)
theorem Laid.grown {w w':World} {b:Nat} (h:Laid w) (a:w.grownBy w' (some b)) (hb:5≤b):Laid w' :=
 ⟨mh h.rounds a (by omega),mh h.first a (by omega),Nat.le_trans h.lt a.size⟩
theorem cK {a w w':World} {b:Nat} (h:a.grownBy w (some b)) (k:w.grownBy w' (some b)):a.grownBy w' (some b) :=
 ⟨k.os.trans h.os,k.tape.trans h.tape,k.output.trans h.output,Nat.le_trans h.size k.size,fun i hi d=>(k.block i (Nat.lt_of_lt_of_le hi h.size) d).trans (h.block i hi d)⟩
def HS.begin (h:HS):HS:=if h.begun then h else { h with begun:=true,st:=ig }
def HS.put (h:HS) (x:UInt8):HS :=
 if h.many+1=64 then { h with st:=dU h.st (upd h.rest h.many x),rest:=upd h.rest h.many x,many:=0 } else { h with rest:=upd h.rest h.many x,many:=h.many+1 }
theorem HS.tC (h:HS) (x:UInt8) (hm:h.many<64):(h.put x).many<64:=by
 unfold HS.put;split
 ·show 0<64;omega
 show h.many+1<64;omega
theorem rG (b:Nat) (h:HS) (x:UInt8) (w:World) (hA:Arr w b 75 h.c) (hm:h.many<64) (D:Laid w) (y:5≤b) :
  Calls prog 269 #[.pointer (some ⟨b,0,none⟩),.int .u8 (x.toNat:Int)] w fun e w'=>e= .returned (.tuple #[])∧Arr w' b 75 (h.put x).c∧w.grownBy w' (some b):=by
 have d:b<w.heap.size:=hA.lt (by omega)
 have c1:=hA.cell 73 (by omega)
 rw [HS.Ed] at c1
 have c2:=hA.cell (9+h.many) (by omega)
 have z:=hA.free (9+h.many) (by omega)
 have E:=hA.free 73 (by omega)
 have I:(0:Int)≤h.many:=by omega
 have H:(h.many:Int)<64:=by omega
 have G:=ah hA
 clear hA
 generalize n:h.many=m at hm c1 c2 z I H
 have C:=ah n
 have F:=ah D
 clear n D
 go_enter func269,ntmps269
 go_wp2
 refine aX 9 (by kernel_rfl) (by kernel_rfl) ?_
 simp only [List.take_succ_cons,List.take_zero,List.drop_succ_cons,List.drop_zero]
 have u:=blq c1
 repeat (go_big_quiet_step (fail))
 refine wpQuiet_nil ?_
 intro B a
 clear u
 have g1:=au c1 a d
 have g2:=au c2 a d
 have k1:B.frozen? ⟨b,73,none⟩=false:=by rw [a.frozen (p:=⟨b,73,none⟩) d];exact E
 have k2:B.frozen? ⟨b,9+m,none⟩=false:=by rw [a.frozen (p:=⟨b,9+m,none⟩) d];exact z
 clear c1 c2 E z
 have i:=(G.out.below a d).set (9+m) (by omega) (.int .u8 (x.toNat:Int))
 rw [HS.IE _ _ (by omega)] at i
 have g:=i.set 73 (by omega) (.int .i64 ((m+1:Nat):Int))
 rw [HS.zQ] at g
 dsimp only at g
 have q:=ah g
 have A:=ah (aN (aN (aB a (some b)) (o:=9+m) (.int .u8 (x.toNat:Int))) (o:=73) (.int .i64 ((m+1:Nat):Int)))
 clear i g
 by_cases f:m+1=64
 ·have l:((m:Int)+1==64)=true:=by rw [beq_iff_eq];omega
  have t:=ah f
  clear f
  go_wp2_with fail
  have j:Laid _:=F.out.grown A.out y
  refine (IW b _ _ q.out j.rounds (by have:=j.lt;omega)).mono ?_
  rintro e w' ⟨rfl,r,k⟩
  have v:=ah r
  have s:=ah (cK A.out k)
  clear r k j
  go_wp2
  go_end0
  refine ⟨rfl,?_,s.out⟩
  unfold HS.put
  rw [C.out,if_pos t.out]
  exact v.out
 have l:((m:Int)+1==64)=false:=by rw [beq_eq_false_iff_ne];omega
 have t:=ah f
 clear f
 go_wp2
 go_end0
 refine ⟨rfl,?_,A.out⟩
 unfold HS.put
 rw [C.out,if_neg t.out]
 exact q.out
theorem Arr.setCells {w:World} {b n:Nat} {c:Nat→Value} (h:Arr w b n c) (o:Nat) (a:List Value) (i:o+a.length≤n) :
  Arr (w.setCells b o a) b n (fun k=>if o≤k∧k<o+a.length then a.getD (k-o) undef else c k):=by
 have e:w.there b o a.length:=fun j g=>⟨by rw [h.cell (o+j) (by omega)];rfl,h.free _ (by omega)⟩
 refine ⟨fun k d=> ?_,fun k d=> ?_⟩
 ·split
  ·rename_i f
   have:=World.rangeAt_setCells_same w b o a e (k-o) (a.getD (k-o) undef) (by simp [show k-o<a.length from by omega])
   rw [show o+(k-o)=k from by omega] at this
   exact this
  rw [World.cell?_setCells_out b a o w ⟨b,k,none⟩ (fun _ _=>by show k<o∨o+a.length≤k;omega)]
  exact h.cell k d
 rw [World.frozen?_setCells];exact h.free k d
theorem dO {w:World} {b:Nat} (a:List Value):∀(o:Nat) (w':World),w.grownBy w' (some b)→w.grownBy (w'.setCells b o a) (some b):=by
 induction a with
 | nil=>intro o w' h;exact h
 | cons v a ih=>intro o w' h;rw [World.setCells];exact ih _ _ (aN h v)
theorem HS.LM (h:HS) (hb:h.begun=false):∀k,k<75→(if 1≤k∧k<1+kg.length then kg.getD (k-1) undef else upd h.c 0 (.bool true) k)=h.begin.c k:=by
 intro k _
 have d:kg.length=8:=rfl
 have e:h.begin= { h with begun:=true,st:=ig }:=by unfold HS.begin;rw [hb];rfl
 rw [d,e]
 unfold upd HS.c
 dsimp only
 by_cases a:k=0
 ·subst a;rfl
 by_cases b:k<9
 ·rw [if_pos (by omega),if_neg a,if_pos b]
  obtain h|h|h|h|h|h|h|h:k=1∨k=2∨k=3∨k=4∨k=5∨k=6∨k=7∨k=8:=by omega
  all_goals subst h;rfl
 rw [if_neg (by omega),if_neg a,if_neg a,if_neg a,if_neg b,if_neg b]
theorem xS (b:Nat) (h:HS) (w:World) (hA:Arr w b 75 h.c) (m:Laid w) :
  Calls prog 268 #[.pointer (some ⟨b,0,none⟩)] w fun e w'=>e= .returned (.tuple #[])∧Arr w' b 75 h.begin.c∧w.grownBy w' (some b):=by
 have i:=hA.cell 0 (by omega)
 rw [HS.LD] at i
 have s:=hA.free 0 (by omega)
 cases hb:h.begun with
 | true =>
  rw [hb] at i
  have p:=ah hA
  have k:=ah hb
  clear hA hb
  go_enter func268,ntmps268
  go_wp2
  go_end0
  refine ⟨rfl,?_,aB (Below.refl _ _) _⟩
  unfold HS.begin
  rw [k.out,if_pos rfl]
  exact p.out
 | false =>
  rw [hb] at i
  have k:=ah hb
  have a:=hA.set 0 (by omega) (.bool true)
  have f:(w.setCell ⟨b,0,none⟩ (.bool true)).there b (0+1) 8:=fun j r=>⟨by rw [a.cell _ (by omega)];rfl,a.free _ (by omega)⟩
  have d:=a.setCells 1 kg (by show 1+8≤75;omega)
  have g:=ah d
  have q:=ah (dO kg 1 _ (aN (aB (Below.refl _ w) (some b)) (o:=0) (.bool true)))
  have hF:=m.first
  have l:(prog.info? 305).map (·.size)=some 8:=by kernel_rfl
  have n:=ah f
  clear hA hb a d m f
  go_enter func268,ntmps268
  go_wp2_with (first|(refine wpList_load_mid rfl 305 _ rfl 3 0 rfl kg _ hF underlying305 rfl l ?_)|(refine aj rfl 305 _ _ rfl b 1 kg ?x1 ?x2 8 ?x3 ?x4 ?x5 ?h1 ?_))
  case x1=>rfl
  case x2=>rfl
  case x3=>rfl
  case x4=>exact n.out
  case x5=>exact l
  case h1=>unfold kg;simp [Value.oneCell']
  go_wp2
  go_end0
  exact ⟨rfl,g.out.congr (HS.LM h k.out),q.out⟩
def HS.feed (h:HS) (l:List UInt8):HS:=l.foldl HS.put h
theorem HS.Hq (h:HS) (s:ByteArray) (k:Nat) (a:k<s.size):h.feed (s.data.toList.take (k+1))=(h.feed (s.data.toList.take k)).put s[k]:=by
 unfold HS.feed
 rw [List.take_succ_eq_append_getElem (by simpa using a),List.foldl_append];rfl
theorem HS.lZ (h:HS) (l:List UInt8) (hm:h.many<64):(h.feed l).many<64:=by
 unfold HS.feed
 induction l generalizing h with
 | nil=>exact hm
 | cons x l ih=>exact ih _ (HS.tC _ _ hm)
theorem HS.wS (h:HS) (x:UInt8):(h.put x).taken=h.taken:=by unfold HS.put;split<;>rfl
theorem HS.nk (h:HS) (l:List UInt8):(h.feed l).taken=h.taken:=by
 unfold HS.feed
 induction l generalizing h with
 | nil=>rfl
 | cons x l ih=>exact (ih _).trans (HS.wS _ _)
theorem HS.kD (h:HS):h.begin.many=h.many:=by unfold HS.begin;split<;>rfl
theorem HS.qO (h:HS):h.begin.taken=h.taken:=by unfold HS.begin;split<;>rfl
def HS.w1 (h:HS) (s:ByteArray) (k:Nat):HS:=if k=0 then h.begin else { h.begin.feed s.data.toList with taken:=(s.size:Int) }
theorem Fx (b p q F:Nat) (h:HS) (s:ByteArray) (w:World) (hA:Arr w b 75 h.c) (P:Laid w) (y:5≤b) (N:w.cell? ⟨p,q,none⟩=some (.string s)) (M:p≠b) (O:h.taken=0) (hm:h.many<64) (hz:s.size≤1000000000) :
  Calls prog 232 #[.pointer (some ⟨b,0,none⟩),.slice (some ⟨p,q,none⟩) 1 F] w fun e w'=>e= .returned (.tuple #[])∧Arr w' b 75 (h.w1 s 1).c∧w.grownBy w' (some b):=by
 have U:=ah (fun w' (h1:Arr w' b 75 h.c) (T:Laid w')=>xS b h w' h1 T)
 have W:=ah O
 have X:=ah hm
 have S:=ah hA
 have K:=ah P
 clear hA P O hm
 go_enter func232,ntmps232
 go_wp2_with fail
 refine (U.out w S.out K.out).mono ?_
 rintro e w1 ⟨rfl,t,r⟩
 have J:=r.cell N (by simpa using M)
 have E:=ah t
 have C:=ah r
 clear t r
 go_wp2
 go_loopw [13] (fun i wr=> ∃k:Nat,k≤1∧i= .int .i64 k∧Arr wr b 75 (h.w1 s k).c∧w.grownBy wr (some b)) (fun i _=>(1-intOf i).toNat)
 case atStart=>exact ⟨0,by omega,rfl,E.out,C.out⟩
 obtain ⟨L,rfl⟩:∃L:World,L=wr:=⟨_,rfl⟩
 obtain ⟨k,R,rfl,g,d⟩:=hrel
 by_cases x:k<1
 ·have o:=ah (show k=0 by omega)
  have Q:decide (k<1)=true:=decide_eq_true x
  have Y:decide ((k:Int)<1)=true:=decide_eq_true (by omega)
  have k0:(0:Int)≤k:=by omega
  have k1:(k:Int)<1:=by omega
  have v:(⟨p,q+k,none⟩:Addr)=⟨p,q,none⟩:=by rw [o.out];rfl
  have G:=d.cell N (by simpa using M)
  rw [←v] at G
  have n:=ah g
  have l:=ah d
  clear g d J R x v
  go_wp2
  go_loopw [19] (fun i wr=> ∃j:Nat,j≤s.size∧i= .int .i64 j∧Arr wr b 75 (h.begin.feed (s.data.toList.take j)).c∧w.grownBy wr (some b)) (fun i _=>(s.size-intOf i).toNat)
  case atStart=>exact ⟨0,by omega,rfl,by have:=n.out;rw [o.out] at this;exact this,l.out⟩
  obtain ⟨wi,rfl⟩:∃wi:World,wi=wr:=⟨_,rfl⟩
  obtain ⟨j,Z,rfl,a,f⟩:=hrel
  by_cases A:j<s.size
  ·have V:=ah (rG b _ s[j] wi a (HS.lZ _ _ (by rw [HS.kD];exact X.out)) (K.out.grown f y) y)
   have m:=ah f
   have D:=ah (HS.Hq h.begin s j A)
   clear a f
   go_wp2_with fail
   refine V.out.mono ?_
   rintro e w2 ⟨rfl,z,u⟩
   have H:=ah z
   have I:=ah (cK m.out u)
   clear z u
   go_wp2
   go_roundw
   case rel=>exact ⟨j+1,by omega,by go_num,by rw [D.out];exact H.out,I.out⟩
   case measure=>simp [intOf];omega
  obtain rfl:j=s.size:=by omega
  rw [show s.data.toList.take s.size=s.data.toList from List.take_of_length_le (by simp)] at a
  have c1:=a.cell 74 (by omega)
  have f1:=a.free 74 (by omega)
  rw [HS.Fg,HS.nk,HS.qO,W.out] at c1
  have B:=ah a
  have m:=ah f
  clear a f
  go_wp2
  go_roundw
  case rel =>
   refine ⟨k+1,by omega,by go_num,?_,aN m.out _⟩
   rw [o.out]
   exact (B.out.set 74 (by omega) (.int .u64 (s.size:Int))).congr (HS.FH _ _)
  case measure=>simp [intOf];omega
 obtain rfl:k=1:=by omega
 have n:=ah g
 have l:=ah d
 clear g d
 go_wp2
 go_end0
 exact ⟨rfl,n.out,l.out⟩
def be8 (T k:Nat):UInt8:=UInt8.ofNat (T/2^(56-8*k))
def oZ (T:Nat):List UInt8:=(List.range 8).map (be8 T)
def stB (st:Nat→W32) (j:Nat):UInt8:=UInt8.ofNat ((st (j/4)).toNat/2^(24-8*(j%4)))
def tK (m:Nat):Nat:=(120-m)%64
def HS.ended (h:HS):HS:=(((h.begin.put 128).feed (List.replicate (tK (h.begin.put 128).many) 0))).feed (oZ (8*h.taken.toNat))
def idV (x:List UInt8):Value:=.agg (x.map fun b=>Value.int .u8 (b.toNat:Int)).toArray
def HS.sum (h:HS):List UInt8:=(List.range 32).map (stB h.ended.st)
theorem oQ (h:HS) (l m:List UInt8):h.feed (l++m)=(h.feed l).feed m:=by unfold HS.feed;rw [List.foldl_append]
theorem lI (h:HS) (l:List UInt8) (x:UInt8):h.feed (l++[x])=(h.feed l).put x:=oQ h l [x]
theorem jP (h:HS) (x:UInt8) (hm:h.many<64):(h.put x).many=(h.many+1)%64:=by
 unfold HS.put;split
 ·rename_i h1;rw [h1]
 rename_i h1;show h.many+1=_;rw [Nat.mod_eq_of_lt (by omega)]
theorem mE (h:HS) (hm:h.many<64):∀l:List UInt8,(h.feed l).many=(h.many+l.length)%64:=by
 intro l
 induction l generalizing h with
 | nil=>show h.many=_;rw [List.length_nil,Nat.add_zero,Nat.mod_eq_of_lt hm]
 | cons x l ih =>
  show ((h.put x).feed l).many=_
  rw [ih _ (HS.tC h x hm),jP h x hm,List.length_cons];omega
theorem Il (T k:Nat) (b:k<8):(oZ T).take (k+1)=(oZ T).take k++[be8 T k]:=by
 have a:(oZ T).length=8:=by simp [oZ]
 rw [List.take_succ_eq_append_getElem (by omega)]
 congr 1
 simp [oZ]
theorem wrap_u8' (n:Int):IntKind.u8.wrap n=n%256:=by simp [IntKind.wrap,IntKind.signed,IntKind.bits]
theorem LW (n:Nat):((UInt8.ofNat n).toNat:Int)=(n:Int)%256:=by
 rw [UInt8.toNat_ofNat'];omega
theorem kR (t e:TypeId) (len:Nat) (hu:prog.underlying t=some (.array len e)) (b:∀w,(sizeOf e).run prog w= .ok 1 w) (g:∀w,(isAgg e).run prog w= .ok false w)
  (a:List Value) (w:World) (n:Nat) (h:n<len) (v:Value) (f:a[n]? = some v):(Instr.index t (.agg a.toArray) (.int .i64 (n:Int))).run prog w= .ok v w:=by
 have h1:(0:Int)≤n∧(n:Int)<len:=by omega
 have d:a.toArray[n]? = some v:=by simpa using f
 unfold Instr.index
 simp only [Sem.run_bind,asIntOf,Sem.run_pure,Result.andThen_ok,run_underlying hu,if_pos h1,b w,part,g w,Int.toNat_natCast,Nat.mul_one,d]
 rfl
theorem M8 {a b:Int} (h:a=b):Value.int .i64 a= .int .i64 b:=by rw [h]
def EB (c:Nat) (w:World):Nat:=match w.cell? ⟨c,73,none⟩ with
 | some (.int _ m)=>tK m.toNat
 | _=>0
theorem Arr.ofList (w:World) (a:List Value) (e:TypeId):Arr (w.alloc (.cells a.toArray e)) w.heap.size a.length (fun k=>a.getD k undef) :=
 ⟨fun k b=>by rw [World.cell?_alloc_new];simp [b],fun k b=>by rw [World.frozen?_alloc_new]⟩
def bP:HS:={ begun:=false,st:=fun _=>0,rest:=fun _=>0,many:=0,taken:=0 }
theorem Arr.bP (w:World) (e:TypeId):Arr (w.alloc (.cells ((List.range 75).map bP.c).toArray e)) w.heap.size 75 Go.Proofs.YtejamhkgjkhjdaaGreatDoor.bP.c:=by
 have h:=Arr.ofList w ((List.range 75).map Go.Proofs.YtejamhkgjkhjdaaGreatDoor.bP.c) e
 rw [List.length_map,List.length_range] at h
 exact h.congr fun k a=>by simp [a]
def vM (st:Nat→W32) (n k:Nat):Value:=if k<4*n then .int .u8 ((stB st k).toNat:Int) else .int .u8 0
theorem Gn (st:Nat→W32):vM st 0=fun _=> .int .u8 0:=by funext k;unfold vM;rw [if_neg (by omega)]
theorem Ev (st:Nat→W32) (n i:Nat) (hi:i<4):((stB st (4*n+i)).toNat:Int)=wn (st n)/((2^(24-8*i):Nat):Int)%256:=by
 unfold stB wn
 rw [LW,show (4*n+i)/4=n from by omega,show (4*n+i)%4=i from by omega]
 rfl
theorem Gp (st:Nat→W32) (n:Nat) (k:Nat) :
  upd (upd (upd (upd (vM st n) (4*n) (.int .u8 (wn (st n)/16777216))) (4*n+1) (.int .u8 (wn (st n)/65536%256))) (4*n+2) (.int .u8 (wn (st n)/256%256))) (4*n+3) (.int .u8 (wn (st n)%256)) k=vM st (n+1) k:=by
 have j:((stB st (4*n)).toNat:Int)=wn (st n)/16777216:=by
  have h:((stB st (4*n)).toNat:Int)=wn (st n)/16777216%256:=Ev st n 0 (by omega)
  have b:=nN (st n);have a:=vE (st n)
  omega
 have h1:((stB st (4*n+1)).toNat:Int)=wn (st n)/65536%256:=Ev st n 1 (by omega)
 have b:((stB st (4*n+2)).toNat:Int)=wn (st n)/256%256:=Ev st n 2 (by omega)
 have a:((stB st (4*n+3)).toNat:Int)=wn (st n)%256:=by
  have h:((stB st (4*n+3)).toNat:Int)=wn (st n)/1%256:=Ev st n 3 (by omega)
  rw [Int.ediv_one] at h;exact h
 unfold upd vM
 by_cases f:k=4*n+3
 ·subst f;rw [if_pos rfl,if_pos (by omega),a]
 rw [if_neg f]
 by_cases i:k=4*n+2
 ·subst i;rw [if_pos rfl,if_pos (by omega),b]
 rw [if_neg i]
 by_cases g:k=4*n+1
 ·subst g;rw [if_pos rfl,if_pos (by omega),h1]
 rw [if_neg g]
 by_cases d:k=4*n
 ·subst d;rw [if_pos rfl,if_pos (by omega),j]
 rw [if_neg d]
 by_cases e:k<4*n
 ·rw [if_pos e,if_pos (by omega)]
 rw [if_neg e,if_neg (by omega)]
theorem NG (st:Nat→W32) (n:Nat) (a:n<8):[Value.int .u32 (wn (st 0)),.int .u32 (wn (st 1)),.int .u32 (wn (st 2)),.int .u32 (wn (st 3)),.int .u32 (wn (st 4)),.int .u32 (wn (st 5)),.int .u32 (wn (st 6)),.int .u32 (wn (st 7))][n]? = some (.int .u32 (wn (st n))):=by
 obtain h|h|h|h|h|h|h|h:n=0∨n=1∨n=2∨n=3∨n=4∨n=5∨n=6∨n=7:=by omega
 all_goals subst h;rfl
theorem JW (b:Nat) (h:HS) (w:World) (hA:Arr w b 75 h.c) (hL:Laid w) (hm:h.many<64) (ht:0≤h.taken∧h.taken≤1000000000) :
  Calls prog 233 #[.pointer (some ⟨b,0,none⟩)] w fun e w'=>e= .returned (idV h.sum)∧Below w.heap.size w w':=by
 have bu:b<w.heap.size:=hA.lt (by omega)
 have HA:=ah hA
 have HL:=ah hL
 have HM:=ah hm
 have HT:=ah ht
 clear hA hL hm ht
 have hz:Tryz.zeroCells307=((List.range 75).map bP.c).toArray:=by kernel_rfl
 have hR:w.rangeAt b 0 ((List.range 75).map h.c):=HA.out.range
 have d:((List.range 75).map h.c).length=75:=by simp
 have l:∀v∈(List.range 75).map h.c,v.oneCell'=true:=by
  intro v hv
  obtain ⟨k,_,rfl⟩:=List.mem_map.1 hv
  unfold HS.c
  repeat' split
  all_goals rfl
 have F:∀k,k<75→((List.range 75).map h.c).getD k undef=h.c k:=fun k o=>by simp [o]
 have hi:(prog.info? 307).map (·.size)=some 75:=by kernel_rfl
 generalize (List.range 75).map h.c=V at hR d l F
 have ar:(prog.info? 307).map (·.size)=some V.length:=by rw [d];exact hi
 have r:Arr ((w.alloc (.cells (Array.replicate 32 (.int .u8 0)) 143)).alloc (.cells Tryz.zeroCells307 307)) (w.heap.size+1) 75 bP.c:=by
  rw [hz]
  have:=Arr.bP (w.alloc (.cells (Array.replicate 32 (.int .u8 0)) 143)) 307
  rw [World.size_alloc] at this;exact this
 have a7:=r.I6 V d
 have ax:=a7.congr F
 have p:=r.there
 have a5:=ah ax
 have H:=ah p
 have R:=ah d
 have Z:=ah l
 clear r a7 ax p F d hz l
 go_enter func233,ntmps233
 go_wp2_with (first|(refine wpList_load_mid rfl 307 _ rfl b 0 rfl V _ (World.rangeAt_alloc (World.rangeAt_alloc hR _) _) underlying307 rfl ar ?_)|(refine aj rfl 307 _ _ rfl (w.heap.size+1) 0 V ?x1 ?x2 75 R.out ?x4 hi Z.out ?_)|fail)
 case x4=>exact H.out
 generalize hW:World.setCells _ (w.heap.size+1) 0 V=W
 have X:Below w.heap.size w W:=by
  rw [←hW];exact below_setCells _ (by omega) V 0 _ (bal.alloc (by simp) _)
 have P:Arr W (w.heap.size+1) 75 h.c:=by rw [←hW];exact a5.out
 have a4:Arr W w.heap.size 32 (fun _=> .int .u8 0):=by
  rw [←hW]
  have h1:=(Arr.new w 32 (.int .u8 0) 143).alloc (by omega) (.cells Tryz.zeroCells307 307)
  exact ⟨fun k o=>by rw [World.cell?_setCells_out (w.heap.size+1) V 0 _ ⟨w.heap.size,k,none⟩ (fun hb _=>by simp at hb)];exact h1.cell k o,fun k o=>by rw [World.frozen?_setCells];exact h1.free k o⟩
 have bx:w.heap.size+1<W.heap.size:=P.lt (by omega)
 have Y:=HL.out.below X
 clear a5 H ar hi hR
 have S:=ah X
 have a0:=ah a4
 have h8:5≤w.heap.size+1:=by have:=HL.out.lt;omega
 clear X a4
 refine (xS (w.heap.size+1) h W P Y).mono ?_
 rintro e w1 ⟨rfl,af,aa⟩
 have aw:=Y.grown aa h8
 have B:=rG (w.heap.size+1) h.begin 128 w1 af (by rw [HS.kD];exact HM.out) aw h8
 rw [show (((128:UInt8).toNat:Nat):Int)=128 from rfl] at B
 have t:=ah B
 have ba:=ah aa
 clear P af B aa Y aw hW
 go_wp2_with fail
 refine t.out.mono ?_
 rintro e w2 ⟨rfl,N,a2⟩
 have bj:=ah (cK ba.out a2)
 have ac:(h.begin.put 128).many<64:=HS.tC _ _ (by rw [HS.kD];exact HM.out)
 have Q:(h.begin.put 128).taken=h.taken:=by rw [HS.wS,HS.qO]
 have J:=ah ac
 have U:Hid (h.ended=((h.begin.put 128).feed (List.replicate (tK (h.begin.put 128).many) 0)).feed (oZ (8*h.taken.toNat))):=ah rfl
 generalize h.begin.put 128=g at N ac Q J U
 have bd:=ah Q
 have bo:=ah N
 clear N a2 t ac Q
 go_wp2
 go_loopw [16] (fun _ wr=> ∃i:Nat,i≤tK g.many∧Arr wr (w.heap.size+1) 75 (g.feed (List.replicate i 0)).c∧W.grownBy wr (some (w.heap.size+1))) (fun _ wr=>EB (w.heap.size+1) wr)
 case atStart=>exact ⟨0,Nat.zero_le _,bo.out,bj.out⟩
 obtain ⟨wo,rfl⟩:∃wo:World,wo=wr:=⟨_,rfl⟩
 obtain ⟨i,hi,s,D⟩:=hrel
 have c1:=s.cell 73 (by omega)
 rw [HS.Ed] at c1
 have E:=mE g J.out (List.replicate i 0)
 rw [List.length_replicate] at E
 generalize hq:g.feed (List.replicate i 0)=q at s c1 E
 by_cases O:q.many=56
 ·have hd:((q.many:Int) != 56)=false:=by rw [bne_eq_false_iff_eq];omega
  have a1:i=tK g.many:=by unfold tK at hi ⊢;have:=J.out;omega
  have r:=s
  rw [a1] at hq
  have z:Hid (h.ended=q.feed (oZ (8*h.taken.toNat))):=by
   have:=U.out;rw [hq] at this;exact this
  have ai:q.taken=h.taken:=by rw [←hq,HS.nk];exact bd.out
  have ad:q.many<64:=by omega
  have bl:=ah ai
  have G:=ah ad
  have bc:=ah r
  have M:=ah D
  clear s r D E O a1 hi ai ad U hq
  obtain ⟨T,hT⟩:∃T:Nat,h.taken=T:=⟨h.taken.toNat,by have:=HT.out;omega⟩
  have bt:T≤1000000000:=by have:=HT.out;omega
  have am:=ah hT
  rw [hT,Int.toNat_natCast] at z
  clear hT
  go_wp2
  go_loopw [4] (fun i wr=> ∃k:Nat,k≤8∧i= .int .i64 (56-8*(k:Int))∧Arr wr (w.heap.size+1) 75 (q.feed ((oZ (8*T)).take k)).c∧W.grownBy wr (some (w.heap.size+1))) (fun i _=>(intOf i+8).toNat)
  case atStart=>exact ⟨0,by omega,rfl,bc.out,M.out⟩
  obtain ⟨wi,rfl⟩:∃wi:World,wi=wr:=⟨_,rfl⟩
  obtain ⟨k,o,rfl,u,m⟩:=hrel
  by_cases bb:k<8
  ·obtain ⟨j,hj⟩:∃j:Nat,(56-8*(k:Int))=(j:Int):=⟨(56-8*(k:Int)).toNat,by omega⟩
   have al:j=56-8*k:=by omega
   rw [hj]
   have c1:=u.cell 74 (by omega)
   rw [HS.Fg,HS.nk,bl.out,am.out] at c1
   have B:=rG (w.heap.size+1) _ (be8 (8*T) k) wi u (HS.lZ _ _ G.out) ((HL.out.below S.out).grown m h8) h8
   have ag:(((be8 (8*T) k).toNat:Nat):Int)=8*(T:Int)/2^j%256:=by
    unfold be8;rw [LW,←al];push_cast;rfl
   rw [ag] at B
   have t:=ah B
   have bp:=ah m
   have bn:=ah (Il (8*T) k bb)
   have HJ:=ah hj
   have j0:(0:Int)≤j:=by omega
   have j1:(j:Int)≤56:=by omega
   have t0:(0:Int)≤T:=by omega
   have t1:(T:Int)≤1000000000:=by omega
   clear B m u ag hj al
   go_wp2_with fail
   refine t.out.mono ?_
   rintro e w3 ⟨rfl,y,A⟩
   have I:=ah y
   have ab:=ah (cK bp.out A)
   clear y A c1
   go_wp2
   go_roundw
   case rel =>
    have h1:=HJ.out
    exact ⟨k+1,by omega,M8 (by push_cast;omega),by rw [bn.out,lI];exact I.out,ab.out⟩
   case measure=>have h1:=HJ.out;simp [intOf];omega
  obtain rfl:k=8:=by omega
  have hf:(oZ (8*T)).take 8=oZ (8*T):=List.take_of_length_le (by simp [oZ])
  rw [hf,←z.out] at u
  have cs:=fun k (o:k<8)=>(u.cell (1+k) (by omega)).trans (by rw [HS.MZ _ _ o])
  have c0:=cs 0 (by omega)
  have c1:=cs 1 (by omega)
  have c2:=cs 2 (by omega)
  have c3:=cs 3 (by omega)
  have c4:=cs 4 (by omega)
  have c5:=cs 5 (by omega)
  have c6:=cs 6 (by omega)
  have c7:=cs 7 (by omega)
  simp only [Nat.reduceAdd] at c0 c1 c2 c3 c4 c5 c6 c7
  clear cs
  have br:W.heap.size≤wi.heap.size:=m.size
  have hO:Arr wi w.heap.size 32 (fun _=> .int .u8 0):=⟨fun k o=>m.cell (a0.out.cell k o) (by simp),fun k o=>by
   rw [World.frozen?_of_block (w:=W) (a:=⟨w.heap.size,k,none⟩) (m.block w.heap.size (by omega) (by simp))];exact a0.out.free k o⟩
  have a6:Below w.heap.size w wi:=(S.out).grown m (by omega) (fun k o=>by cases o;omega)
  have bs:w.heap.size+1<wi.heap.size:=by omega
  have HO:=ah hO
  have ap:=ah a6
  clear hO a6 m u hf z
  generalize a3:h.ended.st=st at c0 c1 c2 c3 c4 c5 c6 c7
  have bi:=ah a3
  have ao:Arr (wi.alloc (.cells (Array.replicate 32 (.int .u8 0)) 143)) wi.heap.size 32 (vM st 0):=by rw [Gn];exact Arr.new wi 32 _ _
  have bm:=ah ao
  clear a3 ao
  go_wp2
  go_loopw [32] (fun i wr=> ∃n:Nat,n≤8∧i= .int .i64 n∧Arr wr wi.heap.size 32 (vM st n)∧Below wi.heap.size wi wr) (fun i _=>(8-intOf i).toNat)
  case atStart=>exact ⟨0,by omega,rfl,bm.out,bal⟩
  obtain ⟨wj,rfl⟩:∃wj:World,wj=wr:=⟨_,rfl⟩
  obtain ⟨n,hn,rfl,f,C⟩:=hrel
  clear c0 c1 c2 c3 c4 c5 c6 c7
  by_cases an:n<8
  ·have bz:=fun w=>kR 305 87 8 underlying305 (fun _=>by kernel_rfl) (fun _=>by kernel_rfl) _ w n an _ (NG st n an)
   have c0:=f.cell (4*n) (by omega)
   have c1:=f.cell (4*n+1) (by omega)
   have c2:=f.cell (4*n+2) (by omega)
   have c3:=f.cell (4*n+3) (by omega)
   have f0:=f.free (4*n) (by omega)
   have f1:=f.free (4*n+1) (by omega)
   have f2:=f.free (4*n+2) (by omega)
   have f3:=f.free (4*n+3) (by omega)
   have n0:(0:Int)≤n:=by omega
   have n1:(n:Int)<8:=by omega
   have bv:decide ((n:Int)<8)=true:=decide_eq_true (by omega)
   have x0:=vE (st n)
   have x1:=nN (st n)
   have bh:=ah f
   have bf:=ah C
   clear f C
   go_wp2
   go_roundw
   case rel =>
    refine ⟨n+1,by omega,by go_num,?_,(((bf.out.setCell (Nat.le_refl _) _).setCell (Nat.le_refl _) _).setCell (Nat.le_refl _) _).setCell (Nat.le_refl _) _⟩
    exact ((((bh.out.set (4*n) (by omega) _).set (4*n+1) (by omega) _).set (4*n+2) (by omega) _).set (4*n+3) (by omega) _).congr fun k _=>Gp st n k
   case measure=>simp [intOf];omega
  obtain rfl:n=8:=by omega
  have hr:=f.range
  have e8:(List.range 32).map (vM st 8)=((List.range 32).map (stB st)).map fun b=>Value.int .u8 (b.toNat:Int):=by
   rw [List.map_map]
   refine List.map_congr_left fun k o=> ?_
   have:=List.mem_range.1 o
   show vM st 8 k=_
   unfold vM;rw [if_pos (by omega)];rfl
  rw [e8] at hr
  have az:Arr wj w.heap.size 32 (fun _=> .int .u8 0):=HO.out.below C (by omega)
  have d:(((List.range 32).map (stB st)).map fun b=>Value.int .u8 (b.toNat:Int)).length=32:=by simp
  have l:∀v∈((List.range 32).map (stB st)).map (fun b=>Value.int .u8 (b.toNat:Int)),v.oneCell'=true:=by
   intro v hv;obtain ⟨x,_,rfl⟩:=List.mem_map.1 hv;rfl
  have L:idV h.sum= .agg (((List.range 32).map (stB st)).map fun b=>Value.int .u8 (b.toNat:Int)).toArray:=by unfold idV HS.sum;rw [bi.out]
  have HF:=ah L
  generalize ((List.range 32).map (stB st)).map (fun b=>Value.int .u8 (b.toNat:Int))=us at hr d l HF
  have a8:(prog.info? 143).map (·.size)=some 32:=by kernel_rfl
  have K:(prog.info? 143).map (·.size)=some us.length:=by rw [d];exact a8
  have p:=az.there
  have aE:=World.rangeAt_setCells_same wj w.heap.size 0 us (by rw [d];exact p)
  have bk:=ah aE
  have H:=ah p
  have R:=ah d
  have Z:=ah l
  have aq:Below w.heap.size w (wj.setCells w.heap.size 0 us):=below_setCells _ (Nat.le_refl _) us 0 _ (ap.out.trans (C.mono ap.out.size))
  have a9:=ah aq
  clear f C e8 L p d l aE aq az
  go_wp2_with (first|(refine wpList_load_mid rfl 143 _ rfl wi.heap.size 0 rfl us _ hr underlying143 rfl K ?_)|(refine aj rfl 143 _ _ rfl w.heap.size 0 us ?y1 ?y2 32 R.out ?y4 a8 Z.out ?_))
  case y4=>exact H.out
  go_wp2
  refine kW rfl w.heap.size 0 rfl us _ bk.out underlying143 rfl K rfl ⟨by rw [HF.out],a9.out⟩
 have hd:((q.many:Int) != 56)=true:=by rw [bne_iff_ne];omega
 have B:=rG (w.heap.size+1) q 0 wo s (by omega) ((HL.out.below S.out).grown D h8) h8
 rw [show (((0:UInt8).toNat:Nat):Int)=0 from rfl] at B
 have t:=ah B
 have M:=ah D
 have HQ:=ah hq
 have G:=ah E
 have ae:=ah O
 have be:=ah c1
 clear B D s hq E O
 go_wp2_with fail
 refine t.out.mono ?_
 rintro e w3 ⟨rfl,y,A⟩
 have I:=ah y
 have ab:=ah (cK M.out A)
 clear y A c1
 go_wp2
 go_roundw
 case rel =>
  refine ⟨i+1,?_,?_,ab.out⟩
  ·have h1:=G.out;have h2:=ae.out;have h3:=J.out
   unfold tK at hi ⊢;omega
  rw [List.replicate_succ',lI,HQ.out];exact I.out
 have c2:=I.out.cell 73 (by omega)
 have h1:=G.out;have h2:=ae.out
 rw [HS.Ed,jP _ _ (by omega)] at c2
 unfold EB tK
 rw [be.out,c2]
 dsimp only
 rw [Int.toNat_natCast,Int.toNat_natCast]
 omega
def vH (s:ByteArray):List UInt8:=(bP.w1 s 1).sum
theorem KS (h:HS):h.sum.length=32:=by simp [HS.sum]
theorem Bf (x:List UInt8):(x.map fun b=>Value.int .u8 (b.toNat:Int)).length=x.length:=by simp
theorem Kg (p q D:Nat) (s:ByteArray) (w:World) (X:w.cell? ⟨p,q,none⟩=some (.string s)) (hL:Laid w) (hz:s.size≤1000000000) :
  Calls prog 175 #[.slice (some ⟨p,q,none⟩) 1 D] w fun e w'=>e= .returned (idV (vH s))∧Below w.heap.size w w':=by
 have T:p<w.heap.size:=World.block_lt_of_cell? w _ X
 have I:Tryz.zeroCells307=((List.range 75).map bP.c).toArray:=by kernel_rfl
 have J:Below w.heap.size w ((w.alloc (.cells (Array.replicate 32 (.int .u8 0)) 143)).alloc (.cells Tryz.zeroCells307 307)):=bal.alloc (by simp) _
 have r:Arr ((w.alloc (.cells (Array.replicate 32 (.int .u8 0)) 143)).alloc (.cells Tryz.zeroCells307 307)) (w.heap.size+1) 75 bP.c:=by
  rw [I]
  have:=Arr.bP (w.alloc (.cells (Array.replicate 32 (.int .u8 0)) 143)) 307
  rw [World.size_alloc] at this;exact this
 have y:=(Arr.new w 32 (.int .u8 0) 143).alloc (by omega) (.cells Tryz.zeroCells307 307)
 clear I
 go_enter func175,ntmps175
 go_wp2_with fail
 generalize P:(w.alloc _).alloc _=W
 have h:Below w.heap.size w W:=by rw [←P];exact J
 have m:Arr W (w.heap.size+1) 75 bP.c:=by rw [←P];exact r
 have A:Arr W w.heap.size 32 (fun _=> .int .u8 0):=by rw [←P];exact y
 have o:=hL.below h
 have h8:=hL.lt
 have aa:w.heap.size+1<W.heap.size:=m.lt (by omega)
 have O:=au X h T
 have z:=Fx (w.heap.size+1) p q D bP s W m o (by omega) O (by omega) rfl (by show 0<64;omega) hz
 have u:=ah h
 have j:=ah A
 have C:=ah o
 clear J r y P h m A o X O
 refine z.mono ?_
 rintro e w1 ⟨rfl,G,f⟩
 have K:(bP.w1 s 1).many<64:=by
  unfold HS.w1;rw [if_neg (by omega)]
  exact HS.lZ _ _ (by rw [HS.kD];show 0<64;omega)
 have E:(bP.w1 s 1).taken=(s.size:Int):=rfl
 have hS:=JW (w.heap.size+1) (bP.w1 s 1) w1 G (C.out.grown f (by omega)) K (by rw [E];omega)
 have Y:=ah hS
 have n:Arr w1 w.heap.size 32 (fun _=> .int .u8 0):=⟨fun k t=>f.cell (j.out.cell k t) (by simp),fun k t=>by
  rw [World.frozen?_of_block (w:=W) (a:=⟨w.heap.size,k,none⟩) (f.block w.heap.size (by omega) (by simp))];exact j.out.free k t⟩
 have H:Below w.heap.size w w1:=(u.out).grown f (by omega) (fun k t=>by cases t;omega)
 have M:w.heap.size<w1.heap.size:=n.lt (by omega)
 have S:=ah n
 have L:=ah H
 clear G f hS n H K E z u j C
 go_wp2_with fail
 refine Y.out.mono ?_
 rintro e w2 ⟨rfl,l⟩
 have d:((vH s).map fun b=>Value.int .u8 (b.toNat:Int)).length=32:=by rw [Bf];exact KS _
 have g:∀v∈(vH s).map (fun b=>Value.int .u8 (b.toNat:Int)),v.oneCell'=true:=by
  intro v hv;obtain ⟨x,_,rfl⟩:=List.mem_map.1 hv;rfl
 have HF:Hid (idV (vH s)= .agg ((vH s).map fun b=>Value.int .u8 (b.toNat:Int)).toArray):=ah rfl
 have hV:idV (HS.sum (bP.w1 s 1))= .agg ((vH s).map fun b=>Value.int .u8 (b.toNat:Int)).toArray:=rfl
 rw [hV]
 have i:=(S.out.below l M).there
 generalize (vH s).map (fun b=>Value.int .u8 (b.toNat:Int))=us at d g HF
 have N:(prog.info? 143).map (·.size)=some 32:=by kernel_rfl
 have F:(prog.info? 143).map (·.size)=some us.length:=by rw [d];exact N
 have Q:=ah (World.rangeAt_setCells_same w2 w.heap.size 0 us (by rw [d];exact i))
 have Z:=ah i
 have U:=ah d
 have R:=ah g
 have V:=ah (below_setCells (B:=w.heap.size) (a:=w) w.heap.size (Nat.le_refl _) us 0 w2 (L.out.trans (l.mono L.out.size)))
 clear i d g l hV
 go_wp2_with (refine aj rfl 143 _ _ rfl w.heap.size 0 us ?y1 ?y2 32 U.out ?y4 N R.out ?_)
 case y1=>rfl
 case y2=>rfl
 case y4=>exact Z.out
 simp only [Act.put]
 refine kW rfl w.heap.size 0 rfl us _ Q.out underlying143 rfl F rfl ⟨by rw [HF.out],V.out⟩
def pW (l:List UInt8):List UInt8:=l++(128::List.replicate (tK ((l.length+1)%64)) 0)++oZ (8*l.length)
def ofB (l:List UInt8):ByteArray:=⟨l.toArray⟩
theorem aS (l:List UInt8):(ofB l).data.toList=l:=by simp [ofB]
theorem aK (l:List UInt8):(ofB l).size=l.length:=by simp [ofB,ByteArray.size]
theorem ba_eq {p q:ByteArray} (h:p.data.toList=q.data.toList):p=q:=by
 cases p;cases q;simp at h;rw [h]
theorem jN (p q:ByteArray):(p++q).data.toList=p.data.toList++q.data.toList:=by simp
structure Rd where
 s:ByteArray
 pos:Nat
 err:Nat
def Rd.c (r:Rd) (k:Nat):Value:=if k=0 then .string r.s else if k=1 then .int .i64 (r.pos:Int) else .int .i64 (r.err:Int)
structure Rd.fine (r:Rd):Prop where
 pos:r.pos ≤ r.s.size
 size:r.s.size ≤ 1000000
 err:r.err ≤ 100
def Rd.raw (r:Rd) (n:Nat):Rd×ByteArray :=
 if r.err≠0 then (r,ByteArray.empty) else if r.s.size-r.pos<n then ({ r with err:=3 },ByteArray.empty) else ({ r with pos:=r.pos+n },r.s.extract r.pos (r.pos+n))
theorem Rd.sW (r:Rd) (n:Nat) (h:r.fine):(r.raw n).1.fine:=by
 unfold Rd.raw
 split
 ·exact h
 split
 ·exact ⟨h.pos,h.size,by show 3≤100;omega⟩
 exact ⟨by show r.pos+n≤r.s.size;have:=h.pos;omega,h.size,h.err⟩
theorem Rd.iq (r:Rd) (e:Nat):∀k,k<3→upd r.c 2 (.int .i64 (e:Int)) k=Rd.c { r with err:=e } k:=by
 intro k a;unfold upd Rd.c
 obtain h|h|h:k=0∨k=1∨k=2:=by omega
 all_goals subst h;rfl
theorem Rd.cO (r:Rd) (p:Nat):∀k,k<3→upd r.c 1 (.int .i64 (p:Int)) k=Rd.c { r with pos:=p } k:=by
 intro k a;unfold upd Rd.c
 obtain h|h|h:k=0∨k=1∨k=2:=by omega
 all_goals subst h;rfl
theorem jF (o:ByteArray) (m n:Nat) (h:m+n≤o.size) (w:World):(Instr.slice 9 (.string o) (some (.int .i64 (m:Int))) (some (.int .i64 ((m:Int)+n))) none).run prog w= .ok (.string (o.extract m (m+n))) w:=by
 have a:(m:Int)+n≤o.size:=by omega
 have b:((m:Int)+n).toNat=m+n:=by omega
 have d:(0:Int)≤(m:Int)+n:=by omega
 simp [Instr.slice,run_underlying underlying9,Instr.sliceBounds,Instr.sliceBound,asIntOf,a,b,d]
theorem Ah (b:Nat) (r:Rd) (n:Nat) (w:World) (hA:Arr w b 3 r.c) (q:r.fine) (L:n≤1000000000) :
  Calls prog 93 #[.pointer (some ⟨b,0,none⟩),.int .i64 (n:Int)] w fun e w'=>e= .returned (.string (r.raw n).2)∧Arr w' b 3 (r.raw n).1.c∧w.grownBy w' (some b):=by
 have d:b<w.heap.size:=hA.lt (by omega)
 have m:w.cell? ⟨b,0,none⟩=some (.string r.s):=hA.cell 0 (by omega)
 have c1:w.cell? ⟨b,1,none⟩=some (.int .i64 (r.pos:Int)):=hA.cell 1 (by omega)
 have c2:w.cell? ⟨b,2,none⟩=some (.int .i64 (r.err:Int)):=hA.cell 2 (by omega)
 have A:=hA.free 1 (by omega)
 have y:=hA.free 2 (by omega)
 have J:=q.pos
 have K:=q.size
 have I:=q.err
 have G:decide ((n:Int)<0)=false:=decide_eq_false (by omega)
 have u:=ah hA
 clear hA
 by_cases k:r.err=0
 ·have x:((r.err:Int) != 0)=false:=by rw [bne_eq_false_iff_eq];omega
  by_cases i:r.s.size-r.pos<n
  ·have t:Hid (r.raw n=({ r with err:=3 },ByteArray.empty)):=by unfold Hid Rd.raw;rw [if_neg (by simp [k]),if_pos i]
   have hd:decide ((r.s.size:Int)-r.pos<n)=true:=decide_eq_true (by omega)
   have F:IntKind.i64.wrap ((r.s.size:Int)-r.pos)=(r.s.size:Int)-r.pos:=IntWalk.i64_in _ (by omega)
   have E:=ah k
   clear k i q
   go_enter func93,ntmps93
   go_wp2
   refine wbq ?_
   have h:=blq m
   have g:=blq c1
   repeat (go_big_quiet_step (fail))
   refine wpQuiet_nil ?_
   intro o a
   clear h g
   have g2:=au c2 a d
   have k2:o.frozen? ⟨b,2,none⟩=false:=by rw [a.frozen (p:=⟨b,2,none⟩) d];exact y
   clear m c1 c2 A y
   go_wp2
   go_ret
   rw [t.out]
   exact ⟨rfl,((u.out.below a d).set 2 (by omega) (.int .i64 ((3:Nat):Int))).congr (Rd.iq r 3),aN (aB a _) _⟩
  have t:Hid (r.raw n=({ r with pos:=r.pos+n },r.s.extract r.pos (r.pos+n))):=by unfold Hid Rd.raw;rw [if_neg (by simp [k]),if_neg i]
  have hd:decide ((r.s.size:Int)-r.pos<n)=false:=decide_eq_false (by omega)
  have F:IntKind.i64.wrap ((r.s.size:Int)-r.pos)=(r.s.size:Int)-r.pos:=IntWalk.i64_in _ (by omega)
  have H:IntKind.i64.wrap ((r.pos:Int)+n)=(r.pos:Int)+n:=IntWalk.i64_in _ (by omega)
  have v:=fun w=>jF r.s r.pos n (by omega) w
  have E:=ah k
  clear k i q
  go_enter func93,ntmps93
  go_wp2
  refine wbq ?_
  have h:=blq m
  have g:=blq c1
  repeat (go_big_quiet_step (fail))
  refine wpQuiet_nil ?_
  intro o a
  clear h g
  obtain ⟨z,rfl⟩:∃z:World,z=o:=⟨_,rfl⟩
  have f:=a
  clear a
  have C:=au m f d
  have B:=au c1 f d
  have D:b<z.heap.size:=by have:=f.size;omega
  go_wp2
  refine wbq ?_
  have h:=blq C
  have g:=blq B
  repeat (go_big_quiet_step (fail))
  refine wpQuiet_nil ?_
  intro o a
  clear h g
  have j:=f.trans (a.mono f.size)
  have g1:=au c1 j d
  have k1:o.frozen? ⟨b,1,none⟩=false:=by rw [j.frozen (p:=⟨b,1,none⟩) d];exact A
  have l:=ah j
  clear m c1 c2 A y C B f j a v
  go_wp2
  go_ret
  rw [t.out]
  exact ⟨rfl,((u.out.below l.out d).set 1 (by omega) (.int .i64 ((r.pos+n:Nat):Int))).congr (Rd.cO r _),aN (aB l.out _) _⟩
 have x:((r.err:Int) != 0)=true:=by rw [bne_iff_ne];omega
 have t:Hid (r.raw n=(r,ByteArray.empty)):=by unfold Hid Rd.raw;rw [if_pos k]
 clear k
 go_enter func93,ntmps93
 go_wp2
 go_ret
 rw [t.out]
 exact ⟨rfl,u.out,aB (Below.refl _ _) _⟩
def blk (c:ByteArray) (k:Nat):UInt8:=c.data.toList.getD k 0
theorem bV (c:ByteArray) (w:World) (k:Nat) (a:k<c.size):(Instr.index 9 (.string c) (.int .i64 (k:Int))).run prog w= .ok (.int .u8 (wn (bw (blk c k)))) w:=by
 have h1:(0:Int)≤k:=by omega
 have b:c[k]? = some (blk c k):=by
  unfold blk
  rw [getElem?_pos c k a]
  have:c.data.toList[k]? = some c[k]:=by simp [a];rfl
  simp only [List.getD,this,Option.getD_some]
 unfold Instr.index
 simp only [Sem.run_bind,asIntOf,Sem.run_pure,Result.andThen_ok,run_underlying underlying9,if_pos h1,Int.toNat_natCast,b,kH]
def bD (l:List UInt8) (a:Nat):Nat→Nat→Nat→Sum Nat (Nat×Nat)
 | 0,_,_=> .inl 4
 | f+1,i,n=>match l[i]? with
  | none=> .inl 3
  | some b=>if 128≤b.toNat then bD l a f (i+1) (n+b.toNat%128*128^i)
   else if b.toNat=0∧0<i then .inl 2
   else if 1099511627775<n+b.toNat%128*128^i∨a<n+b.toNat%128*128^i then .inl 4
   else .inr (n+b.toNat%128*128^i,i+1)
def Rd.left (r:Rd):List UInt8:=r.s.data.toList.drop r.pos
def Rd.num (r:Rd) (a:Nat):Rd×Nat:=if r.err≠0 then (r,0) else match bD r.left a 6 0 0 with
 | .inl e=>({ r with err:=e },0)
 | .inr x=>({ r with pos:=r.pos+x.2 },x.1)
theorem tT (r:Rd) (k:Nat):r.left[k]? = r.s.data.toList[r.pos+k]?:=by unfold Rd.left;rw [List.getElem?_drop]
theorem fB (l:List UInt8) (a:Nat):∀f i n,(∀e,bD l a f i n= .inl e→e≤4∧0<e)∧(∀x,bD l a f i n= .inr x→x.2≤l.length∧x.1≤a∧i<x.2∧x.1≤1099511627775)
 | 0,i,n=>⟨fun e h=>by cases h;omega,fun x h=>by cases h⟩
 | f+1,i,n=>by
  unfold bD
  cases j:l[i]? with
  | none=>exact ⟨fun e h=>by cases h;omega,fun x h=>by cases h⟩
  | some b =>
   dsimp only
   have hi:i<l.length:=(List.getElem?_eq_some_iff.1 j).1
   by_cases h1:128≤b.toNat
   ·rw [if_pos h1]
    obtain ⟨a1,a2⟩:=fB l a f (i+1) (n+b.toNat%128*128^i)
    exact ⟨a1,fun x h=>by obtain ⟨q1,q2,m,k⟩:=a2 x h;exact ⟨q1,q2,by omega,k⟩⟩
   rw [if_neg h1]
   by_cases d:b.toNat=0∧0<i
   ·rw [if_pos d];exact ⟨fun e h=>by cases h;omega,fun x h=>by cases h⟩
   rw [if_neg d]
   by_cases g:1099511627775<n+b.toNat%128*128^i∨a<n+b.toNat%128*128^i
   ·rw [if_pos g];exact ⟨fun e h=>by cases h;omega,fun x h=>by cases h⟩
   rw [if_neg g]
   refine ⟨fun e h=>(by cases h),fun x h=> ?_⟩
   cases h
   exact ⟨by omega,by omega,by omega,by omega⟩
theorem Rd.bK (r:Rd) (a:Nat) (h:r.fine):(r.num a).1.fine∧(r.num a).2≤a:=by
 unfold Rd.num
 split
 ·exact ⟨h,Nat.zero_le _⟩
 obtain ⟨a1,a2⟩:=fB r.left a 6 0 0
 split
 ·rename_i e b
  have:=a1 e b
  exact ⟨⟨h.pos,h.size,by show e≤100;omega⟩,Nat.zero_le _⟩
 rename_i x hx
 obtain ⟨q1,q2,_,_⟩:=a2 x hx
 have d:r.left.length=r.s.size-r.pos:=by unfold Rd.left;simp
 have:=h.pos
 exact ⟨⟨by show r.pos+x.2≤r.s.size;omega,h.size,h.err⟩,q2⟩
theorem Rd.iy (r:Rd) (a e:Nat) (b:r.err=0) (h:bD r.left a 6 0 0= .inl e):r.num a=({ r with err:=e },0):=by
 unfold Rd.num;rw [if_neg (by simp [b]),h]
theorem Rd.Db (r:Rd) (a:Nat) (x:Nat×Nat) (b:r.err=0) (h:bD r.left a 6 0 0= .inr x):r.num a=({ r with pos:=r.pos+x.2 },x.1):=by
 unfold Rd.num;rw [if_neg (by simp [b]),h]
theorem sO (b:Nat) (r:Rd) (f:Nat) (w:World) (hA:Arr w b 3 r.c) (hf:r.fine) (hn:f≤1000000000) :
  Calls prog 92 #[.pointer (some ⟨b,0,none⟩),.int .i64 (f:Int)] w fun e w'=>e= .returned (.int .i64 ((r.num f).2:Int))∧Arr w' b 3 (r.num f).1.c∧w.grownBy w' (some b):=by
 have y:b<w.heap.size:=hA.lt (by omega)
 have c0:w.cell? ⟨b,0,none⟩=some (.string r.s):=hA.cell 0 (by omega)
 have c1:w.cell? ⟨b,1,none⟩=some (.int .i64 (r.pos:Int)):=hA.cell 1 (by omega)
 have c2:w.cell? ⟨b,2,none⟩=some (.int .i64 (r.err:Int)):=hA.cell 2 (by omega)
 have f1:=hA.free 1 (by omega)
 have f2:=hA.free 2 (by omega)
 have hp:=hf.pos
 have hs:=hf.size
 have he:=hf.err
 have T:=ah hA
 clear hA hf
 by_cases h0:r.err=0
 ·have al:((r.err:Int) != 0)=false:=by rw [bne_eq_false_iff_eq];omega
  have W:=ah h0
  clear h0
  go_enter func92,ntmps92
  go_wp2
  go_loopw [5,6,7] (fun n o i wr=> ∃k N:Nat,k≤6∧i= .int .i64 k∧n= .int .i64 N∧o= .int .i64 ((128^k:Nat):Int)∧N≤4398046511104∧Hid (bD r.left f 6 0 0=bD r.left f (6-k) k N)∧Hid (N<128^k)∧Below w.heap.size w wr) (fun _ _ i _=>(6-intOf i).toNat)
  case atStart=>exact ⟨0,0,by omega,rfl,rfl,rfl,by omega,rfl,by unfold Hid;decide,Below.refl _ _⟩
  obtain ⟨wo,rfl⟩:∃wo:World,wo=wr:=⟨_,rfl⟩
  obtain ⟨k,N,hk,rfl,rfl,rfl,hN,Q,V,hb⟩:=hrel
  have z:=au c0 hb y
  have v:=au c1 hb y
  have G:=au c2 hb y
  have I:wo.frozen? ⟨b,1,none⟩=false:=by rw [hb.frozen (p:=⟨b,1,none⟩) y];exact f1
  have F:wo.frozen? ⟨b,2,none⟩=false:=by rw [hb.frozen (p:=⟨b,2,none⟩) y];exact f2
  have h:b<wo.heap.size:=by have:=hb.size;omega
  by_cases az:k<6
  ·have k0:(0:Int)≤k:=by omega
   have k1:(k:Int)<6:=by omega
   have hd:decide ((k:Int)<6)=true:=decide_eq_true (by omega)
   by_cases ad:r.pos+k<r.s.size
   ·have ag:r.s.data.toList[r.pos+k]? = some (blk r.s (r.pos+k)):=by
     unfold blk
     have hl:r.pos+k<r.s.data.toList.length:=by simp;omega
     simp only [List.getD,List.getElem?_eq_getElem hl,Option.getD_some]
    have U:∀w,(Instr.index 9 (.string r.s) (.int .i64 ((r.pos:Int)+k))).run prog w= .ok (.int .u8 (wn (bw (blk r.s (r.pos+k))))) w:=fun w=>bV r.s w (r.pos+k) ad
    have af:=kH (blk r.s (r.pos+k))
    have hX:(blk r.s (r.pos+k)).toNat<256:=(blk r.s (r.pos+k)).toNat_lt
    have hl:r.left[k]? = some (blk r.s (r.pos+k)):=by rw [tT];exact ag
    have J:bD r.left f (6-k) k N=if 128≤(blk r.s (r.pos+k)).toNat then bD r.left f (5-k) (k+1) (N+(blk r.s (r.pos+k)).toNat%128*128^k)
      else if (blk r.s (r.pos+k)).toNat=0∧0<k then .inl 2
      else if 1099511627775<N+(blk r.s (r.pos+k)).toNat%128*128^k∨f<N+(blk r.s (r.pos+k)).toNat%128*128^k then .inl 4
      else .inr (N+(blk r.s (r.pos+k)).toNat%128*128^k,k+1):=by
     rw [show 6-k=(5-k)+1 from by omega];conv=>lhs;unfold bD
     rw [hl]
    rw [←af] at U
    generalize (blk r.s (r.pos+k)).toNat=X at U hX J
    have ho:128^k≤34359738368:=by
     have:128^k≤128^5:=Nat.pow_le_pow_right (by omega) (by omega)
     omega
    have aa:128^(k+1)=128^k*128:=Nat.pow_succ 128 k
    have M:=Q.out
    rw [J] at M
    have ap:=V.out
    have ae:=ah aa
    have am:∃p,p=X%128*128^k:=⟨_,rfl⟩
    obtain ⟨p,P⟩:=am
    have a0:p≤4363686772736:=by
     rw [P]
     exact Nat.le_trans (Nat.mul_le_mul (show X%128≤127 by omega) ho) (by omega)
    have ai:N+p<128^(k+1):=by
     rw [aa,P]
     have h1:X%128*128^k≤127*128^k:=Nat.mul_le_mul (by omega) (Nat.le_refl _)
     omega
    rw [←P] at M
    have aw:IntKind.i64.wrap ((X:Int)%128*((128^k:Nat):Int))=(p:Int):=by
     rw [P]
     have e:((X%128*128^k:Nat):Int)=(X:Int)%128*((128^k:Nat):Int):=by push_cast;rfl
     rw [←e,←P];exact IntWalk.i64_in _ (by omega)
    have an:=ah ai
    have H:=ah M
    have D:=ah hb
    clear P M J Q V ap aa hl ag af hb c0 c1 c2 f1 f2 ai
    generalize ab:128^k=o at aw ho ae
    have aE:=ah ab
    clear ab
    have ar:decide (((r.s.size:Int))≤(r.pos:Int)+k)=false:=decide_eq_false (by omega)
    have x0:(0:Int)≤X:=by omega
    have x1:(X:Int)<256:=by omega
    by_cases t:128≤X
    ·have ao:decide ((128:Int)≤X)=true:=decide_eq_true (by omega)
     go_wp2
     refine wbq ?_
     have j:=blq z
     have l:=blq v
     repeat (go_big_quiet_step (fail))
     refine wpQuiet_nil ?_
     intro u g
     clear j l
     obtain ⟨x,rfl⟩:∃x:World,x=u:=⟨_,rfl⟩
     have d:=g
     clear g
     have C:=au z d h
     have q1:=au v d h
     have A:b<x.heap.size:=by have:=d.size;omega
     go_wp2
     refine wbq ?_
     have j:=blq C
     have l:=blq q1
     repeat (go_big_quiet_step (fail))
     refine wpQuiet_nil ?_
     intro u g
     clear j l
     have a:=d.trans (g.mono d.size)
     clear C q1 d g
     have m:=D.out.trans (a.mono D.out.size)
     have g1:=au v a h
     have g2:=au G a h
     have K:u.frozen? ⟨b,1,none⟩=false:=by rw [a.frozen (p:=⟨b,1,none⟩) h];exact I
     have k2:u.frozen? ⟨b,2,none⟩=false:=by rw [a.frozen (p:=⟨b,2,none⟩) h];exact F
     have q:=ah m
     clear z v G I F a m U
     go_wp2
     go_roundw
     case rel =>
      have h7:128^(k+1)≤128^6:=Nat.pow_le_pow_right (by omega) (by omega)
      have h8:=an.out
      refine ⟨k+1,N+p,by omega,by go_num,by go_num,M8 (by rw [ae.out];push_cast;rfl),by omega,?_,h8,q.out⟩
      show bD r.left f 6 0 0=bD r.left f (6-(k+1)) (k+1) (N+p)
      rw [H.out,if_pos t,show 6-(k+1)=5-k from by omega]
     case measure=>simp [intOf];omega
    have ao:decide ((128:Int)≤X)=false:=decide_eq_false (by omega)
    by_cases L:X=0∧0<k
    ·have B:bD r.left f 6 0 0= .inl 2:=by rw [H.out,if_neg t,if_pos L]
     have E:=ah (Rd.iy r f 2 W.out B)
     have O:((X:Int)==0)=true:=by rw [beq_iff_eq];omega
     have Z:decide ((0:Int)<k)=true:=decide_eq_true (by omega)
     have ax:0<k:=L.2
     clear L B t
     go_wp2
     refine wbq ?_
     have j:=blq z
     have l:=blq v
     repeat (go_big_quiet_step (fail))
     refine wpQuiet_nil ?_
     intro u g
     clear j l
     obtain ⟨x,rfl⟩:∃x:World,x=u:=⟨_,rfl⟩
     have d:=g
     clear g
     have C:=au z d h
     have q1:=au v d h
     have A:b<x.heap.size:=by have:=d.size;omega
     go_wp2
     refine wbq ?_
     have j:=blq C
     have l:=blq q1
     repeat (go_big_quiet_step (fail))
     refine wpQuiet_nil ?_
     intro u g
     clear j l
     have a:=d.trans (g.mono d.size)
     clear C q1 d g
     have m:=D.out.trans (a.mono D.out.size)
     have g1:=au v a h
     have g2:=au G a h
     have K:u.frozen? ⟨b,1,none⟩=false:=by rw [a.frozen (p:=⟨b,1,none⟩) h];exact I
     have k2:u.frozen? ⟨b,2,none⟩=false:=by rw [a.frozen (p:=⟨b,2,none⟩) h];exact F
     have q:=ah m
     clear z v G I F a m U
     go_wp2
     go_ret
     rw [E.out]
     exact ⟨rfl,((T.out.below q.out y).set 2 (by omega) (.int .i64 ((2:Nat):Int))).congr (Rd.iq r 2),aN (aB q.out _) _⟩
    by_cases R:X=0
    ·skip
     by_cases hA:1099511627775<N+p
     ·skip
      have B:bD r.left f 6 0 0= .inl 4:=by rw [H.out,if_neg t,if_neg L,if_pos (by omega)]
      have E:=ah (Rd.iy r f 4 W.out B)
      have O:((X:Int)==0)=true:=by rw [beq_iff_eq];omega
      have Z:decide ((0:Int)<k)=false:=decide_eq_false (by omega)
      have ac:decide (0<k)=false:=decide_eq_false (by omega)
      have S:decide ((1099511627775:Int)<(N:Int)+p)=true:=decide_eq_true (by omega)
      clear L B t R
      go_wp2
      refine wbq ?_
      have j:=blq z
      have l:=blq v
      repeat (go_big_quiet_step (fail))
      refine wpQuiet_nil ?_
      intro u g
      clear j l
      obtain ⟨x,rfl⟩:∃x:World,x=u:=⟨_,rfl⟩
      have d:=g
      clear g
      have C:=au z d h
      have q1:=au v d h
      have A:b<x.heap.size:=by have:=d.size;omega
      go_wp2
      refine wbq ?_
      have j:=blq C
      have l:=blq q1
      repeat (go_big_quiet_step (fail))
      refine wpQuiet_nil ?_
      intro u g
      clear j l
      have a:=d.trans (g.mono d.size)
      clear C q1 d g
      have m:=D.out.trans (a.mono D.out.size)
      have g1:=au v a h
      have g2:=au G a h
      have K:u.frozen? ⟨b,1,none⟩=false:=by rw [a.frozen (p:=⟨b,1,none⟩) h];exact I
      have k2:u.frozen? ⟨b,2,none⟩=false:=by rw [a.frozen (p:=⟨b,2,none⟩) h];exact F
      have q:=ah m
      clear z v G I F a m U
      go_wp2
      go_ret
      rw [E.out]
      exact ⟨rfl,((T.out.below q.out y).set 2 (by omega) (.int .i64 ((4:Nat):Int))).congr (Rd.iq r 4),aN (aB q.out _) _⟩
     by_cases hB:f<N+p
     ·skip
      have B:bD r.left f 6 0 0= .inl 4:=by rw [H.out,if_neg t,if_neg L,if_pos (by omega)]
      have E:=ah (Rd.iy r f 4 W.out B)
      have O:((X:Int)==0)=true:=by rw [beq_iff_eq];omega
      have Z:decide ((0:Int)<k)=false:=decide_eq_false (by omega)
      have ac:decide (0<k)=false:=decide_eq_false (by omega)
      have S:decide ((1099511627775:Int)<(N:Int)+p)=false:=decide_eq_false (by omega)
      have Y:decide ((f:Int)<(N:Int)+p)=true:=decide_eq_true (by omega)
      clear L B t R
      go_wp2
      refine wbq ?_
      have j:=blq z
      have l:=blq v
      repeat (go_big_quiet_step (fail))
      refine wpQuiet_nil ?_
      intro u g
      clear j l
      obtain ⟨x,rfl⟩:∃x:World,x=u:=⟨_,rfl⟩
      have d:=g
      clear g
      have C:=au z d h
      have q1:=au v d h
      have A:b<x.heap.size:=by have:=d.size;omega
      go_wp2
      refine wbq ?_
      have j:=blq C
      have l:=blq q1
      repeat (go_big_quiet_step (fail))
      refine wpQuiet_nil ?_
      intro u g
      clear j l
      have a:=d.trans (g.mono d.size)
      clear C q1 d g
      have m:=D.out.trans (a.mono D.out.size)
      have g1:=au v a h
      have g2:=au G a h
      have K:u.frozen? ⟨b,1,none⟩=false:=by rw [a.frozen (p:=⟨b,1,none⟩) h];exact I
      have k2:u.frozen? ⟨b,2,none⟩=false:=by rw [a.frozen (p:=⟨b,2,none⟩) h];exact F
      have q:=ah m
      clear z v G I F a m U
      go_wp2
      go_ret
      rw [E.out]
      exact ⟨rfl,((T.out.below q.out y).set 2 (by omega) (.int .i64 ((4:Nat):Int))).congr (Rd.iq r 4),aN (aB q.out _) _⟩
     skip
     have B:bD r.left f 6 0 0= .inr (N+p,k+1):=by rw [H.out,if_neg t,if_neg L,if_neg (by omega)]
     have E:=ah (Rd.Db r f (N+p,k+1) W.out B)
     have O:((X:Int)==0)=true:=by rw [beq_iff_eq];omega
     have Z:decide ((0:Int)<k)=false:=decide_eq_false (by omega)
     have ac:decide (0<k)=false:=decide_eq_false (by omega)
     have S:decide ((1099511627775:Int)<(N:Int)+p)=false:=decide_eq_false (by omega)
     have Y:decide ((f:Int)<(N:Int)+p)=false:=decide_eq_false (by omega)
     have aq:IntKind.i64.wrap ((r.pos:Int)+k)=(r.pos:Int)+k:=IntWalk.i64_in _ (by omega)
     clear L B t R
     go_wp2
     refine wbq ?_
     have j:=blq z
     have l:=blq v
     repeat (go_big_quiet_step (fail))
     refine wpQuiet_nil ?_
     intro u g
     clear j l
     obtain ⟨x,rfl⟩:∃x:World,x=u:=⟨_,rfl⟩
     have d:=g
     clear g
     have C:=au z d h
     have q1:=au v d h
     have A:b<x.heap.size:=by have:=d.size;omega
     go_wp2
     refine wbq ?_
     have j:=blq C
     have l:=blq q1
     repeat (go_big_quiet_step (fail))
     refine wpQuiet_nil ?_
     intro u g
     clear j l
     have a:=d.trans (g.mono d.size)
     clear C q1 d g
     have m:=D.out.trans (a.mono D.out.size)
     have g1:=au v a h
     have g2:=au G a h
     have K:u.frozen? ⟨b,1,none⟩=false:=by rw [a.frozen (p:=⟨b,1,none⟩) h];exact I
     have k2:u.frozen? ⟨b,2,none⟩=false:=by rw [a.frozen (p:=⟨b,2,none⟩) h];exact F
     have q:=ah m
     clear z v G I F a m U
     go_wp2
     go_ret
     rw [E.out]
     exact ⟨og (by push_cast;rfl),((T.out.below q.out y).set 1 (by omega) (.int .i64 ((r.pos+(k+1):Nat):Int))).congr (Rd.cO r _),aN (aB q.out _) _⟩
    skip
    by_cases hA:1099511627775<N+p
    ·skip
     have B:bD r.left f 6 0 0= .inl 4:=by rw [H.out,if_neg t,if_neg L,if_pos (by omega)]
     have E:=ah (Rd.iy r f 4 W.out B)
     have O:((X:Int)==0)=false:=by rw [beq_eq_false_iff_ne];omega
     have S:decide ((1099511627775:Int)<(N:Int)+p)=true:=decide_eq_true (by omega)
     clear L B t R
     go_wp2
     refine wbq ?_
     have j:=blq z
     have l:=blq v
     repeat (go_big_quiet_step (fail))
     refine wpQuiet_nil ?_
     intro u g
     clear j l
     obtain ⟨x,rfl⟩:∃x:World,x=u:=⟨_,rfl⟩
     have d:=g
     clear g
     have C:=au z d h
     have q1:=au v d h
     have A:b<x.heap.size:=by have:=d.size;omega
     go_wp2
     refine wbq ?_
     have j:=blq C
     have l:=blq q1
     repeat (go_big_quiet_step (fail))
     refine wpQuiet_nil ?_
     intro u g
     clear j l
     have a:=d.trans (g.mono d.size)
     clear C q1 d g
     have m:=D.out.trans (a.mono D.out.size)
     have g1:=au v a h
     have g2:=au G a h
     have K:u.frozen? ⟨b,1,none⟩=false:=by rw [a.frozen (p:=⟨b,1,none⟩) h];exact I
     have k2:u.frozen? ⟨b,2,none⟩=false:=by rw [a.frozen (p:=⟨b,2,none⟩) h];exact F
     have q:=ah m
     clear z v G I F a m U
     go_wp2
     go_ret
     rw [E.out]
     exact ⟨rfl,((T.out.below q.out y).set 2 (by omega) (.int .i64 ((4:Nat):Int))).congr (Rd.iq r 4),aN (aB q.out _) _⟩
    by_cases hB:f<N+p
    ·skip
     have B:bD r.left f 6 0 0= .inl 4:=by rw [H.out,if_neg t,if_neg L,if_pos (by omega)]
     have E:=ah (Rd.iy r f 4 W.out B)
     have O:((X:Int)==0)=false:=by rw [beq_eq_false_iff_ne];omega
     have S:decide ((1099511627775:Int)<(N:Int)+p)=false:=decide_eq_false (by omega)
     have Y:decide ((f:Int)<(N:Int)+p)=true:=decide_eq_true (by omega)
     clear L B t R
     go_wp2
     refine wbq ?_
     have j:=blq z
     have l:=blq v
     repeat (go_big_quiet_step (fail))
     refine wpQuiet_nil ?_
     intro u g
     clear j l
     obtain ⟨x,rfl⟩:∃x:World,x=u:=⟨_,rfl⟩
     have d:=g
     clear g
     have C:=au z d h
     have q1:=au v d h
     have A:b<x.heap.size:=by have:=d.size;omega
     go_wp2
     refine wbq ?_
     have j:=blq C
     have l:=blq q1
     repeat (go_big_quiet_step (fail))
     refine wpQuiet_nil ?_
     intro u g
     clear j l
     have a:=d.trans (g.mono d.size)
     clear C q1 d g
     have m:=D.out.trans (a.mono D.out.size)
     have g1:=au v a h
     have g2:=au G a h
     have K:u.frozen? ⟨b,1,none⟩=false:=by rw [a.frozen (p:=⟨b,1,none⟩) h];exact I
     have k2:u.frozen? ⟨b,2,none⟩=false:=by rw [a.frozen (p:=⟨b,2,none⟩) h];exact F
     have q:=ah m
     clear z v G I F a m U
     go_wp2
     go_ret
     rw [E.out]
     exact ⟨rfl,((T.out.below q.out y).set 2 (by omega) (.int .i64 ((4:Nat):Int))).congr (Rd.iq r 4),aN (aB q.out _) _⟩
    skip
    have B:bD r.left f 6 0 0= .inr (N+p,k+1):=by rw [H.out,if_neg t,if_neg L,if_neg (by omega)]
    have E:=ah (Rd.Db r f (N+p,k+1) W.out B)
    have O:((X:Int)==0)=false:=by rw [beq_eq_false_iff_ne];omega
    have S:decide ((1099511627775:Int)<(N:Int)+p)=false:=decide_eq_false (by omega)
    have Y:decide ((f:Int)<(N:Int)+p)=false:=decide_eq_false (by omega)
    have aq:IntKind.i64.wrap ((r.pos:Int)+k)=(r.pos:Int)+k:=IntWalk.i64_in _ (by omega)
    clear L B t R
    go_wp2
    refine wbq ?_
    have j:=blq z
    have l:=blq v
    repeat (go_big_quiet_step (fail))
    refine wpQuiet_nil ?_
    intro u g
    clear j l
    obtain ⟨x,rfl⟩:∃x:World,x=u:=⟨_,rfl⟩
    have d:=g
    clear g
    have C:=au z d h
    have q1:=au v d h
    have A:b<x.heap.size:=by have:=d.size;omega
    go_wp2
    refine wbq ?_
    have j:=blq C
    have l:=blq q1
    repeat (go_big_quiet_step (fail))
    refine wpQuiet_nil ?_
    intro u g
    clear j l
    have a:=d.trans (g.mono d.size)
    clear C q1 d g
    have m:=D.out.trans (a.mono D.out.size)
    have g1:=au v a h
    have g2:=au G a h
    have K:u.frozen? ⟨b,1,none⟩=false:=by rw [a.frozen (p:=⟨b,1,none⟩) h];exact I
    have k2:u.frozen? ⟨b,2,none⟩=false:=by rw [a.frozen (p:=⟨b,2,none⟩) h];exact F
    have q:=ah m
    clear z v G I F a m U
    go_wp2
    go_ret
    rw [E.out]
    exact ⟨og (by push_cast;rfl),((T.out.below q.out y).set 1 (by omega) (.int .i64 ((r.pos+(k+1):Nat):Int))).congr (Rd.cO r _),aN (aB q.out _) _⟩
   have ar:decide (((r.s.size:Int))≤(r.pos:Int)+k)=true:=decide_eq_true (by omega)
   have B:bD r.left f (6-k) k N= .inl 3:=by
    have hl:r.left[k]? = none:=by rw [tT];simp;omega
    rw [show 6-k=(5-k)+1 from by omega];unfold bD;rw [hl]
   have E:=ah (Rd.iy r f 3 W.out (by rw [Q.out,B]))
   have D:=ah hb
   clear B Q V hb c0 c1 c2 f1 f2 ad
   generalize 128^k=o
   go_wp2
   refine wbq ?_
   have j:=blq z
   have l:=blq v
   repeat (go_big_quiet_step (fail))
   refine wpQuiet_nil ?_
   intro u g
   clear j l
   have m:=D.out.trans (g.mono D.out.size)
   have g2:=au G g h
   have k2:u.frozen? ⟨b,2,none⟩=false:=by rw [g.frozen (p:=⟨b,2,none⟩) h];exact F
   have q:=ah m
   clear z v G I F g m
   go_wp2
   go_ret
   rw [E.out]
   exact ⟨rfl,((T.out.below q.out y).set 2 (by omega) (.int .i64 ((3:Nat):Int))).congr (Rd.iq r 3),aN (aB q.out _) _⟩
  obtain rfl:k=6:=by omega
  have E:=ah (Rd.iy r f 4 W.out (by rw [Q.out];rfl))
  have D:=ah hb
  clear Q V hb c0 c1 c2 f1 f2
  generalize 128^6=o
  go_wp2
  go_ret
  rw [E.out]
  exact ⟨rfl,((T.out.below D.out y).set 2 (by omega) (.int .i64 ((4:Nat):Int))).congr (Rd.iq r 4),aN (aB D.out _) _⟩
 have al:((r.err:Int) != 0)=true:=by rw [bne_iff_ne];omega
 have E:Hid (r.num f=(r,0)):=by unfold Hid Rd.num;rw [if_pos h0]
 clear h0
 go_enter func92,ntmps92
 go_wp2
 go_ret
 rw [E.out]
 exact ⟨rfl,T.out,aB (Below.refl _ _) _⟩
def Rd.text (r:Rd) (a:Nat):Rd×ByteArray :=
 if r.err≠0 then (r,ByteArray.empty) else
  if ((r.num a).1.raw (r.num a).2).1.err≠0 then ({ ((r.num a).1.raw (r.num a).2).1 with pos:=r.pos },ByteArray.empty) else (r.num a).1.raw (r.num a).2
def Rd.fin (r:Rd):Nat:=if r.err≠0 then r.err else if r.pos<r.s.size then 5 else 0
theorem Rd.EI (r:Rd) (a:Nat):(r.num a).1.s=r.s:=by
 unfold Rd.num
 split
 ·rfl
 split<;>rfl
theorem Rd.Ez (r:Rd) (n:Nat):(r.raw n).1.s=r.s:=by
 unfold Rd.raw
 split
 ·rfl
 split<;>rfl
theorem Rd.dG (r:Rd) (a:Nat) (h:r.fine):(r.text a).1.fine:=by
 have h1:=Rd.sW _ (r.num a).2 (Rd.bK r a h).1
 unfold Rd.text
 split
 ·exact h
 split
 ·exact ⟨by show r.pos≤((r.num a).1.raw (r.num a).2).1.s.size;rw [Rd.Ez,Rd.EI];exact h.pos,h1.size,h1.err⟩
 exact h1
theorem kX (b:Nat) (r:Rd) (w:World) (hA:Arr w b 3 r.c) (l:r.fine) :
  Calls prog 42 #[.pointer (some ⟨b,0,none⟩)] w fun e w'=>e= .returned (.int .i64 (r.fin:Int))∧Below w.heap.size w w':=by
 have o:b<w.heap.size:=hA.lt (by omega)
 have m:w.cell? ⟨b,0,none⟩=some (.string r.s):=hA.cell 0 (by omega)
 have c1:w.cell? ⟨b,1,none⟩=some (.int .i64 (r.pos:Int)):=hA.cell 1 (by omega)
 have c2:w.cell? ⟨b,2,none⟩=some (.int .i64 (r.err:Int)):=hA.cell 2 (by omega)
 have p:=l.size
 clear hA l
 by_cases h:r.err=0
 ·have k:((r.err:Int) != 0)=false:=by rw [bne_eq_false_iff_eq];omega
  by_cases a:r.pos<r.s.size
  ·have i:Hid (r.fin=5):=by unfold Hid Rd.fin;rw [if_neg (by simp [h]),if_pos a]
   have hd:decide (r.pos<r.s.size)=true:=decide_eq_true a
   have j:decide ((r.pos:Int)<r.s.size)=true:=decide_eq_true (by omega)
   clear h
   go_enter func42,ntmps42
   go_wp2
   refine wbq ?_
   have g:=blq m
   have d:=blq c1
   repeat (go_big_quiet_step (fail))
   refine wpQuiet_nil ?_
   intro n f
   clear g d
   go_wp2
   go_ret
   rw [i.out]
   exact ⟨rfl,f⟩
  have i:Hid (r.fin=0):=by unfold Hid Rd.fin;rw [if_neg (by simp [h]),if_neg a]
  have hd:decide (r.pos<r.s.size)=false:=decide_eq_false a
  have j:decide ((r.pos:Int)<r.s.size)=false:=decide_eq_false (by omega)
  clear h
  go_enter func42,ntmps42
  go_wp2
  refine wbq ?_
  have g:=blq m
  have d:=blq c1
  repeat (go_big_quiet_step (fail))
  refine wpQuiet_nil ?_
  intro n f
  clear g d
  go_wp2
  go_ret
  rw [i.out]
  exact ⟨rfl,f⟩
 have k:((r.err:Int) != 0)=true:=by rw [bne_iff_ne];omega
 have i:Hid (r.fin=r.err):=by unfold Hid Rd.fin;rw [if_pos h]
 clear h
 go_enter func42,ntmps42
 go_wp2
 go_ret
 rw [i.out]
 exact ⟨rfl,Below.refl _ _⟩
theorem jH (b:Nat) (r:Rd) (a:Nat) (w:World) (hA:Arr w b 3 r.c) (v:r.fine) (H:a≤1000000000) :
  Calls prog 41 #[.pointer (some ⟨b,0,none⟩),.int .i64 (a:Int)] w fun e w'=>e= .returned (.string (r.text a).2)∧Arr w' b 3 (r.text a).1.c∧w.grownBy w' (some b):=by
 have c1:w.cell? ⟨b,1,none⟩=some (.int .i64 (r.pos:Int)):=hA.cell 1 (by omega)
 have c2:w.cell? ⟨b,2,none⟩=some (.int .i64 (r.err:Int)):=hA.cell 2 (by omega)
 by_cases t:r.err=0
 ·have B:((r.err:Int) != 0)=false:=by rw [bne_eq_false_iff_eq];omega
  have D:=ah (sO b r a w hA v H)
  obtain ⟨g,k⟩:=Rd.bK r a v
  have i:Hid (r.text a=if ((r.num a).1.raw (r.num a).2).1.err≠0 then ({ ((r.num a).1.raw (r.num a).2).1 with pos:=r.pos },ByteArray.empty) else (r.num a).1.raw (r.num a).2):=by
   unfold Hid Rd.text;rw [if_neg (by simp [t])]
  generalize r.num a=x at D g k i
  obtain ⟨F,n⟩:=x
  have A:=ah g
  clear hA v t g
  dsimp only at D k i
  go_enter func41,ntmps41
  go_wp2_with fail
  refine D.out.mono ?_
  rintro e w1 ⟨rfl,j,q⟩
  have h:=ah (Ah b F n w1 j A.out (by omega))
  have z:=ah q
  generalize F.raw n=y at h i
  obtain ⟨f,s⟩:=y
  dsimp only at h i
  clear j q c1 c2
  go_wp2_with fail
  refine h.out.mono ?_
  rintro e E ⟨rfl,d,l⟩
  have o:=ah (cK z.out l)
  have J:E.cell? ⟨b,2,none⟩=some (.int .i64 (f.err:Int)):=d.cell 2 (by omega)
  have I:E.cell? ⟨b,1,none⟩=some (.int .i64 (f.pos:Int)):=d.cell 1 (by omega)
  have K:=d.free 1 (by omega)
  have m:=ah d
  clear d l
  by_cases u:f.err=0
  ·have C:((f.err:Int) != 0)=false:=by rw [bne_eq_false_iff_eq];omega
   have p:Hid (r.text a=(f,s)):=by unfold Hid;rw [i.out,if_neg (by simp [u])]
   clear u
   go_wp2
   go_ret
   rw [p.out]
   exact ⟨rfl,m.out,o.out⟩
  have C:((f.err:Int) != 0)=true:=by rw [bne_iff_ne];omega
  have p:Hid (r.text a=({ f with pos:=r.pos },ByteArray.empty)):=by unfold Hid;rw [i.out,if_pos u]
  clear u
  go_wp2
  go_ret
  rw [p.out]
  exact ⟨rfl,(m.out.set 1 (by omega) (.int .i64 (r.pos:Int))).congr (Rd.cO f _),aN o.out _⟩
 have B:((r.err:Int) != 0)=true:=by rw [bne_iff_ne];omega
 have p:Hid (r.text a=(r,ByteArray.empty)):=by unfold Hid Rd.text;rw [if_pos t]
 have G:=ah hA
 clear t hA v
 go_enter func41,ntmps41
 go_wp2
 go_ret
 rw [p.out]
 exact ⟨rfl,G.out,aB (Below.refl _ _) _⟩
theorem nO (b:Nat) (r:Rd) (w:World) (hA:Arr w b 3 r.c) :
  Calls prog 83 #[.pointer (some ⟨b,0,none⟩)] w fun e w'=>e= .returned (.int .i64 (r.err:Int))∧w'=w:=by
 have c2:w.cell? ⟨b,2,none⟩=some (.int .i64 (r.err:Int)):=hA.cell 2 (by omega)
 clear hA
 go_enter func83,ntmps83
 go_wp2
 go_ret
 exact ⟨rfl,rfl⟩
theorem Es (b:Nat) (r:Rd) (w:World) (hA:Arr w b 3 r.c) :
  Calls prog 85 #[.pointer (some ⟨b,0,none⟩)] w fun e w'=>e= .returned (.int .i64 (r.pos:Int))∧w'=w:=by
 have c1:w.cell? ⟨b,1,none⟩=some (.int .i64 (r.pos:Int)):=hA.cell 1 (by omega)
 clear hA
 go_enter func85,ntmps85
 go_wp2
 go_ret
 exact ⟨rfl,rfl⟩
def Rd.fail (r:Rd) (e p:Nat):Rd:=if r.err=0 then { r with err:=e,pos:=p } else r
theorem vX (b:Nat) (r:Rd) (e p:Nat) (w:World) (hA:Arr w b 3 r.c) :
  Calls prog 84 #[.pointer (some ⟨b,0,none⟩),.int .i64 (e:Int),.int .i64 (p:Int)] w fun x w'=>x= .returned (.tuple #[])∧Arr w' b 3 (r.fail e p).c∧w.grownBy w' (some b):=by
 have c1:w.cell? ⟨b,1,none⟩=some (.int .i64 (r.pos:Int)):=hA.cell 1 (by omega)
 have c2:w.cell? ⟨b,2,none⟩=some (.int .i64 (r.err:Int)):=hA.cell 2 (by omega)
 have i:=hA.free 1 (by omega)
 have h:=hA.free 2 (by omega)
 have g:=ah hA
 clear hA
 by_cases a:r.err=0
 ·have f:((r.err:Int)==0)=true:=by rw [beq_iff_eq];omega
  have d:Hid (r.fail e p= { r with err:=e,pos:=p }):=by unfold Hid Rd.fail;rw [if_pos a]
  clear a
  go_enter func84,ntmps84
  go_wp2
  go_end0
  rw [d.out]
  exact ⟨rfl,(((g.out.set 2 (by omega) (.int .i64 (e:Int))).congr (Rd.iq r e)).set 1 (by omega) (.int .i64 (p:Int))).congr (Rd.cO _ p),aN (aN (aB (Below.refl _ _) _) _) _⟩
 have f:((r.err:Int)==0)=false:=by rw [beq_eq_false_iff_ne];omega
 have d:Hid (r.fail e p=r):=by unfold Hid Rd.fail;rw [if_neg a]
 clear a
 go_enter func84,ntmps84
 go_wp2
 go_end0
 rw [d.out]
 exact ⟨rfl,g.out,aB (Below.refl _ _) _⟩
theorem Rd.J6 (r:Rd) (a:r.err=0):r.fail 3 r.pos= { r with err:=3 }:=by unfold Rd.fail;rw [if_pos a]
theorem rX (b:Nat) (r:Rd) (n:Nat) (w:World) (hA:Arr w b 3 r.c) (u:r.fine) (R:n≤1000000000) :
  Calls prog 35 #[.pointer (some ⟨b,0,none⟩),.int .i64 (n:Int)] w fun e w'=>e= .returned (.string (r.raw n).2)∧Arr w' b 3 (r.raw n).1.c∧w.grownBy w' (some b):=by
 have d:b<w.heap.size:=hA.lt (by omega)
 have m:w.cell? ⟨b,0,none⟩=some (.string r.s):=hA.cell 0 (by omega)
 have c1:w.cell? ⟨b,1,none⟩=some (.int .i64 (r.pos:Int)):=hA.cell 1 (by omega)
 have E:=hA.free 1 (by omega)
 have O:=u.pos
 have Q:=u.size
 have M:decide ((n:Int)<0)=false:=decide_eq_false (by omega)
 have x:=ah hA
 have B:=ah (nO b r w hA)
 clear hA
 by_cases i:r.err=0
 ·have z:((r.err:Int) != 0)=false:=by rw [bne_eq_false_iff_eq];omega
  by_cases j:r.s.size-r.pos<n
  ·have v:Hid (r.raw n=(r.fail 3 r.pos,ByteArray.empty)):=by unfold Hid Rd.raw;rw [if_neg (by simp [i]),if_pos j,Rd.J6 r i]
   have hd:decide ((r.s.size:Int)-r.pos<n)=true:=decide_eq_true (by omega)
   have L:IntKind.i64.wrap ((r.s.size:Int)-r.pos)=(r.s.size:Int)-r.pos:=IntWalk.i64_in _ (by omega)
   have K:=ah i
   clear i j u
   go_enter func35,ntmps35
   go_wp2_with fail
   refine B.out.mono ?_
   rintro e w' ⟨rfl,rfl⟩
   go_wp2
   refine wbq ?_
   have h:=blq m
   have g:=blq c1
   repeat (go_big_quiet_step (fail))
   refine wpQuiet_nil ?_
   intro o a
   clear h g
   have g1:=au c1 a d
   have I:=ah (vX b r 3 r.pos o (x.out.below a d))
   have J:=ah a
   clear m c1 E a
   go_wp2_with fail
   refine I.out.mono ?_
   rintro e P ⟨rfl,t,q⟩
   have A:=ah t
   have D:=ah (cK (aB J.out (some b)) q)
   clear t q
   go_wp2
   go_ret
   rw [v.out]
   exact ⟨rfl,A.out,D.out⟩
  have v:Hid (r.raw n=({ r with pos:=r.pos+n },r.s.extract r.pos (r.pos+n))):=by unfold Hid Rd.raw;rw [if_neg (by simp [i]),if_neg j]
  have hd:decide ((r.s.size:Int)-r.pos<n)=false:=decide_eq_false (by omega)
  have L:IntKind.i64.wrap ((r.s.size:Int)-r.pos)=(r.s.size:Int)-r.pos:=IntWalk.i64_in _ (by omega)
  have N:IntKind.i64.wrap ((r.pos:Int)+n)=(r.pos:Int)+n:=IntWalk.i64_in _ (by omega)
  have y:=fun w=>jF r.s r.pos n (by omega) w
  have K:=ah i
  clear i j u
  go_enter func35,ntmps35
  go_wp2_with fail
  refine B.out.mono ?_
  rintro e w' ⟨rfl,rfl⟩
  go_wp2
  refine wbq ?_
  have h:=blq m
  have g:=blq c1
  repeat (go_big_quiet_step (fail))
  refine wpQuiet_nil ?_
  intro o a
  clear h g
  obtain ⟨C,rfl⟩:∃C:World,C=o:=⟨_,rfl⟩
  have f:=a
  clear a
  have G:=au m f d
  have F:=au c1 f d
  have H:b<C.heap.size:=by have:=f.size;omega
  go_wp2
  refine wbq ?_
  have h:=blq G
  have g:=blq F
  repeat (go_big_quiet_step (fail))
  refine wpQuiet_nil ?_
  intro o a
  clear h g
  have k:=f.trans (a.mono f.size)
  have g1:=au c1 k d
  have k1:o.frozen? ⟨b,1,none⟩=false:=by rw [k.frozen (p:=⟨b,1,none⟩) d];exact E
  have l:=ah k
  clear m c1 E G F f k a y
  go_wp2
  go_ret
  rw [v.out]
  exact ⟨rfl,((x.out.below l.out d).set 1 (by omega) (.int .i64 ((r.pos+n:Nat):Int))).congr (Rd.cO r _),aN (aB l.out _) _⟩
 have z:((r.err:Int) != 0)=true:=by rw [bne_iff_ne];omega
 have v:Hid (r.raw n=(r,ByteArray.empty)):=by unfold Hid Rd.raw;rw [if_pos i]
 clear i u
 go_enter func35,ntmps35
 go_wp2_with fail
 refine B.out.mono ?_
 rintro e w' ⟨rfl,rfl⟩
 go_wp2
 go_ret
 rw [v.out]
 exact ⟨rfl,x.out,aB (Below.refl _ _) _⟩
theorem kP (b:Nat) (r:Rd) (w:World) (hA:Arr w b 3 r.c) (m:r.fine) :
  Calls prog 37 #[.pointer (some ⟨b,0,none⟩)] w fun e w'=>e= .returned (.int .i64 (r.fin:Int))∧Below w.heap.size w w':=by
 have p:b<w.heap.size:=hA.lt (by omega)
 have n:w.cell? ⟨b,0,none⟩=some (.string r.s):=hA.cell 0 (by omega)
 have c1:w.cell? ⟨b,1,none⟩=some (.int .i64 (r.pos:Int)):=hA.cell 1 (by omega)
 have q:=m.size
 have j:=ah (nO b r w hA)
 clear hA m
 by_cases h:r.err=0
 ·have l:((r.err:Int) != 0)=false:=by rw [bne_eq_false_iff_eq];omega
  by_cases a:r.pos<r.s.size
  ·have i:Hid (r.fin=5):=by unfold Hid Rd.fin;rw [if_neg (by simp [h]),if_pos a]
   have hd:decide (r.pos<r.s.size)=true:=decide_eq_true a
   have k:decide ((r.pos:Int)<r.s.size)=true:=decide_eq_true (by omega)
   clear h
   go_enter func37,ntmps37
   go_wp2_with fail
   refine j.out.mono ?_
   rintro e w' ⟨rfl,rfl⟩
   go_wp2
   refine wbq ?_
   have g:=blq n
   have d:=blq c1
   repeat (go_big_quiet_step (fail))
   refine wpQuiet_nil ?_
   intro o f
   clear g d
   go_wp2
   go_ret
   rw [i.out]
   exact ⟨rfl,f⟩
  have i:Hid (r.fin=0):=by unfold Hid Rd.fin;rw [if_neg (by simp [h]),if_neg a]
  have hd:decide (r.pos<r.s.size)=false:=decide_eq_false a
  have k:decide ((r.pos:Int)<r.s.size)=false:=decide_eq_false (by omega)
  clear h
  go_enter func37,ntmps37
  go_wp2_with fail
  refine j.out.mono ?_
  rintro e w' ⟨rfl,rfl⟩
  go_wp2
  refine wbq ?_
  have g:=blq n
  have d:=blq c1
  repeat (go_big_quiet_step (fail))
  refine wpQuiet_nil ?_
  intro o f
  clear g d
  go_wp2
  go_ret
  rw [i.out]
  exact ⟨rfl,f⟩
 have l:((r.err:Int) != 0)=true:=by rw [bne_iff_ne];omega
 have i:Hid (r.fin=r.err):=by unfold Hid Rd.fin;rw [if_pos h]
 clear h
 go_enter func37,ntmps37
 go_wp2_with fail
 refine j.out.mono ?_
 rintro e w' ⟨rfl,rfl⟩
 go_wp2
 go_ret
 rw [i.out]
 exact ⟨rfl,Below.refl _ _⟩
theorem lH {w g w1 f:World} {b:Nat} (a:Below w.heap.size w g) (d:g.grownBy w1 (some b)) (hb:Below w.heap.size w1 f):w.grownBy f (some b) :=
 ⟨by rw [hb.os,d.os,a.os],by rw [hb.tape,d.tape,a.tape],by rw [hb.output,d.output,a.output],by have:=a.size;have:=d.size;have:=hb.size;omega,
  fun k h e=>by rw [hb.block k h,d.block k (by have:=a.size;omega) e,a.block k h]⟩
theorem Arr.grown {w w':World} {b n B:Nat} {c:Nat→Value} (h:Arr w b n c) (f:w.grownBy w' (some B)) (d:b≠B):Arr w' b n c :=
 ⟨fun k e=>f.cell (h.cell k e) (by simpa using d),fun k e=>by
  rw [World.frozen?_of_block (w:=w) (a:=⟨b,k,none⟩) (f.block b (h.lt (by omega)) (by simpa using d))];exact h.free k e⟩
def kM (s:ByteArray):List UInt8:=(List.range 32).map (blk s)
def Rd.id (r:Rd):Rd×List UInt8:=((r.raw 32).1,kM (r.raw 32).2)
theorem dX (s:ByteArray):(kM s).length=32:=by simp [kM]
theorem Rd.kY (r:Rd) (n:Nat):(r.raw n).2.size≤n:=by
 unfold Rd.raw
 split
 ·exact Nat.zero_le _
 split
 ·exact Nat.zero_le _
 show (r.s.extract r.pos (r.pos+n)).size≤n
 rw [ByteArray.size_extract];omega
def idB (s:ByteArray) (n k:Nat):Value:=if k<n then .int .u8 ((blk s k).toNat:Int) else .int .u8 0
theorem JR (s:ByteArray):idB s 0=fun _=> .int .u8 0:=by funext k;unfold idB;rw [if_neg (by omega)]
theorem JU (s:ByteArray) (n k:Nat):upd (idB s n) n (.int .u8 ((blk s n).toNat:Int)) k=idB s (n+1) k:=by
 unfold upd idB
 by_cases e:k=n
 ·subst e;rw [if_pos rfl,if_pos (by omega)]
 rw [if_neg e]
 by_cases h:k<n
 ·rw [if_pos h,if_pos (by omega)]
 rw [if_neg h,if_neg (by omega)]
theorem EU (s:ByteArray) (k:Nat):idB s s.size k= .int .u8 ((blk s k).toNat:Int):=by
 unfold idB
 by_cases h:k<s.size
 ·rw [if_pos h]
 rw [if_neg h]
 have e:blk s k=0:=by unfold blk;rw [List.getD_eq_getElem?_getD,List.getElem?_eq_none (by simpa using h)];rfl
 rw [e];rfl
theorem yX (x:List UInt8):∀v∈x.map (fun b=>Value.int .u8 (b.toNat:Int)),v.oneCell'=true:=by
 intro v a;obtain ⟨x,_,rfl⟩:=List.mem_map.1 a;rfl
theorem yB (b:Nat) (r:Rd) (w:World) (hA:Arr w b 3 r.c) (T:r.fine) :
  Calls prog 163 #[.pointer (some ⟨b,0,none⟩)] w fun e w'=>e= .returned (idV r.id.2)∧Arr w' b 3 r.id.1.c∧w.grownBy w' (some b):=by
 have M:b<w.heap.size:=hA.lt (by omega)
 have N:=ah (Ah b r 32 (w.alloc (.cells (Array.replicate 32 (.int .u8 0)) 143)) (hA.alloc (by omega) _) T (by omega))
 have R:=Rd.kY r 32
 have z:Hid (idV r.id.2= .agg ((kM (r.raw 32).2).map fun b=>Value.int .u8 (b.toNat:Int)).toArray):=ah rfl
 have O:Hid (r.id.1=(r.raw 32).1):=ah rfl
 have Q:=Arr.new w 32 (.int .u8 0) 143
 have U:=ah Q
 generalize r.raw 32=x at N R z O
 obtain ⟨X,s⟩:=x
 dsimp only at N R z O
 clear hA T Q
 go_enter func163,ntmps163
 go_wp2_with fail
 refine N.out.mono ?_
 rintro e w1 ⟨rfl,o,l⟩
 have H:=ah o
 have E:=ah l
 have u:=ah (U.out.grown l (by omega))
 have p:Hid (Arr (w1.alloc (.cells (Array.replicate 32 (.int .u8 0)) 143)) w1.heap.size 32 (idB s 0)):=by rw [JR];exact ah (Arr.new w1 32 _ _)
 have K:w.heap.size<w1.heap.size:=u.out.lt (by omega)
 clear o l
 go_wp2
 go_loopw [5] (fun i wr=> ∃k:Nat,k≤s.size∧i= .int .i64 k∧Arr wr w1.heap.size 32 (idB s k)∧Below w1.heap.size w1 wr) (fun i _=>(s.size-intOf i).toNat)
 case atStart=>exact ⟨0,by omega,rfl,p.out,bal⟩
 obtain ⟨t,rfl⟩:∃t:World,t=wr:=⟨_,rfl⟩
 obtain ⟨k,W,rfl,m,hb⟩:=hrel
 clear p
 by_cases I:k<s.size
 ·have Y:∀w,(Instr.index 9 (.string s) (.int .i64 (k:Int))).run prog w= .ok (.int .u8 ((blk s k).toNat:Int)) w:=fun w=>by rw [bV s w k I,kH]
  have c1:=m.cell k (by omega)
  have f1:=m.free k (by omega)
  have L:=ah m
  have V:=ah hb
  have Z:(0:Int)≤k:=by omega
  have k1:(k:Int)<32:=by omega
  have hd:decide ((k:Int)<s.size)=true:=decide_eq_true (by omega)
  clear m hb
  go_wp2
  go_roundw
  case rel=>exact ⟨k+1,by omega,by go_num,(L.out.set k (by omega) (.int .u8 ((blk s k).toNat:Int))).congr (fun q _=>JU s k q),V.out.setCell (Nat.le_refl _) _⟩
  case measure=>simp [intOf];omega
 obtain rfl:k=s.size:=by omega
 have hd:decide ((s.size:Int)<s.size)=false:=decide_eq_false (by omega)
 have P:=m.range
 have S:(List.range 32).map (idB s s.size)=(kM s).map fun b=>Value.int .u8 (b.toNat:Int):=by
  unfold kM;rw [List.map_map]
  exact List.map_congr_left fun k _=>EU s k
 rw [S] at P
 have n:Arr t w.heap.size 32 (fun _=> .int .u8 0):=u.out.below hb K
 have d:((kM s).map fun b=>Value.int .u8 (b.toNat:Int)).length=32:=by rw [Bf];exact dX s
 have f:=yX (kM s)
 generalize (kM s).map (fun b=>Value.int .u8 (b.toNat:Int))=us at P d f z
 have y:(prog.info? 143).map (·.size)=some 32:=by kernel_rfl
 have g:(prog.info? 143).map (·.size)=some us.length:=by rw [d];exact y
 have h:=n.there
 have A:=ah (World.rangeAt_setCells_same t w.heap.size 0 us (by rw [d];exact h))
 have J:=ah h
 have F:=ah d
 have D:=ah f
 have G:=ah (below_setCells (B:=w.heap.size) (a:=w1) w.heap.size (Nat.le_refl _) us 0 t (hb.mono (by omega)))
 have j:=G.out
 have v:=ah (lH bal E.out j)
 have C:=ah (H.out.below j M)
 clear m hb S h d f n j
 go_wp2_with (first|(refine wpList_load_mid rfl 143 _ rfl w1.heap.size 0 rfl us _ P underlying143 rfl g ?_)|(refine aj rfl 143 _ _ rfl w.heap.size 0 us ?y1 ?y2 32 F.out ?y4 y D.out ?_))
 try case y1=>rfl
 try case y2=>rfl
 case y4=>exact J.out
 simp only [Act.put]
 refine kW rfl w.heap.size 0 rfl us _ A.out underlying143 rfl g rfl ⟨by rw [z.out],by rw [O.out];exact C.out,v.out⟩
end
end Go.Proofs.YtejamhkgjkhjdaaGreatDoor
