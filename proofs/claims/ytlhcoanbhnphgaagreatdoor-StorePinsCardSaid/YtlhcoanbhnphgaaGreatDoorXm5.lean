/- A part of this claim. -/
import Derived.ArgAppend
import Derived.BigQuiet
import Derived.Deep.DeepAppendRoom
import Derived.IntWalk
import Derived.Laws.BitsAllLaws
import Derived.Laws.IdiomStrings
import Derived.StillTail
import Derived.Test.YtlhcoanbhnphgaaGreatDoorChecked
import Derived.Test.YtlhcoanbhnphgaaGreatDoorXm3
namespace Go.Proofs.YtlhcoanbhnphgaaGreatDoor
open Tryz
set_option maxHeartbeats 64000000
set_option maxRecDepth 100000
set_option linter.all false
section
open Go.RowKit
section
variable {P:Program} {ops:Array Oper} {md:Region.Mode} {C:World → Prop}
def tq (P:Program) (md:Region.Mode) (ops:Array Oper) (C:World→Prop) (n:Nat) (L:Array Bool→Act→Prop):Nat→Array Bool→Act→Prop
 | 0,ls,a=>L ls a
 | f+1,ls,a=>Region.ready md ops ls≠[]∧ ∀i∈Region.ready md ops ls,i<n∧qOp P ops C i (tq P md ops C n L f (ls.setIfInBounds i true)) a
theorem PX {n g:Nat} {L:Array Bool→Act→Prop} {Q:Exit→Act→World→Prop} (d:∀ls a w,C w→L ls a→wpAny P md ops Q g ls a w) :
  ∀(f:Nat) (ls:Array Bool) (a:Act) (w:World),C w→tq P md ops C n L f ls a→wpAny P md ops Q (f+g) ls a w:=by
 intro f
 induction f with
 | zero=>intro ls a w b h;rw [Nat.zero_add];exact d ls a w b h
 | succ f ih =>
  intro ls a w b h
  rw [show f+1+g=(f+g)+1 from by omega]
  exact ⟨fun j=>absurd j h.1,fun i hi=>wpOp_of_qOp b (fun a' w' hw' e=>ih _ a' w' hw' e) (h.2 i hi).2⟩
theorem Lp {n i:Nat} {oi:Oper} {v:Value} {L:Array Bool→Act→Prop} (hi:ops[i]? = some oi) (l:∀(j:Nat) (o:Oper) cs b,ops[j]? = some o→o.op ≠ .select cs b)
  (J:Region.sinkB md ops n=true) (M:Region.chainB md ops n=true) (N:n<ops.size) (D:i<n) (q:∀ls a,L ls a→ ∀j∈Region.ready md ops ls,n≤j) :
  ∀(f:Nat) (ls:Array Bool) (a:Act),HeadInv md ops n ls →
   (∀j r,ops[j]? = some r→j≠i→ls.getD j true=false→(∀e∈r.after,Region.binds md e=true→e.on≠i)→oi.apart ops r=true) →
   i∈Region.ready md ops ls→YieldsIn P ops C oi v a→tq P md ops C n L f (ls.setIfInBounds i true) (a.put oi.dst v)→tq P md ops C n L (f+1) ls a:=by
 intro f
 induction f with
 | zero =>
  intro ls a g _ m hy H
  refine ⟨fun t=>(by rw [t] at m;cases m),fun j u=> ?_⟩
  have h:j<n:=Nat.lt_of_not_ge fun t=>tail_waits J M N g _ i rfl D (mem_ready.1 m).1 j t u
  refine ⟨h,?_⟩
  by_cases e:j=i
  ·subst e;exact hy.qOp hi H
  have:=q _ _ H j (ready_mono u e);omega
 | succ f ih =>
  intro ls a g d m hy H
  have B:=(mem_ready.1 m).1
  refine ⟨fun t=>(by rw [t] at m;cases m),fun j u=> ?_⟩
  have h:j<n:=Nat.lt_of_not_ge fun t=>tail_waits J M N g _ i rfl D B j t u
  refine ⟨h,?_⟩
  by_cases e:j=i
  ·subst e;exact hy.qOp hi H
  obtain ⟨p,r,s,E⟩:=mem_ready.1 u
  have A:∀x∈r.after,Region.binds md x=true→x.on≠i:=fun x hx hb F=>by
   have h1:=E x hx hb
   rw [F,getD_both B] at h1
   cases h1
  have Q:=qOp_put s (d j r s e p A) (fun cs b=>l i oi cs b hi) (fun cs b=>l j r cs b s) hy (H.2 j (ready_mono u e)).2
  refine qOp_mono (fun a' K=>ih (ls.setIfInBounds j true) a' (g.set u h) ?_ (ready_mono m (Ne.symm e)) K.1 ?_) Q
  ·intro k ok O I z G
   refine d k ok O I ?_ G
   by_cases y:j=k
   ·subst y;exact p
   rwa [getD_set_ne true y] at z
  rw [Array.setIfInBounds_comm _ _ e];exact K.2
theorem PY {n g:Nat} {q:Act→Prop} (d:Region.noSelect ops=true) (x:Region.sinkB md ops n=true) (B:Region.chainB md ops n=true) (D:n<ops.size) :
  ∀(l:List Oper) (k:Nat) (ls:Array Bool) (a:Act),(∀j,j<l.length→l[j]? = ops[k+j]?)→k+l.length=n→HeadInv md ops n ls →
  Region.lexHead md ops g l.length k ls=true→wpQuiet P ops C q l a→tq P md ops C n (fun s a'=>Region.seqB md ops g n s=true∧q a') l.length ls a:=by
 intro l
 induction l with
 | nil =>
  intro k ls a _ m _ i h
  obtain rfl:k=n:=by simpa using m
  exact ⟨by simpa [Region.lexHead] using i,h⟩
 | cons o l ih =>
  intro k ls a t m b i h
  have p:ops[k]? = some o:=by simpa using (t 0 (by simp)).symm
  simp only [List.length_cons,Region.lexHead,Bool.and_eq_true] at i
  obtain ⟨⟨A,u⟩,r⟩:=i
  have f:k<n:=by simp only [List.length_cons] at m;omega
  have e:k∈Region.ready md ops ls:=by simpa using A
  obtain ⟨v,hy,z⟩:=yieldsIn_of_qOp p (show qOp P ops C k (wpQuiet P ops C q l) a from by unfold qOp;simp only [p];exact h)
  exact Lp p (Region.noSelect_spec d) x B D f (fun _ _ y=>seqB_ready y.1) l.length ls a b (Region.free_spec p u) e hy
   (ih (k+1) _ _ (fun j E=>by have:=t (j+1) (by simp;omega);simpa [Nat.add_assoc,Nat.add_comm 1 j] using this) (by simp only [List.length_cons] at m;omega) (b.set e f) r z)
structure BW (B:Nat) (w:World) where
 out:World
 hb:Below B w out
instance (B:Nat) (w:World):Nonempty (BW B w):=⟨⟨w,Below.refl _ _⟩⟩
theorem aA {P:Program} {f:FuncId} {args:Array Value} {w:World} {v:Value} {x:BW w.heap.size w} (h:Calls P f args x.out fun e w'=>e= .returned v∧Below x.out.heap.size x.out w') :
  Calls P f args x.out fun e a=>e= .returned v∧ ∃y:BW w.heap.size w,a=y.out :=
 h.mono fun _ w' ⟨b,hb⟩=>⟨b,⟨w',x.hb.trans (hb.mono x.hb.size)⟩,rfl⟩
theorem bL {P:Program} {f:FuncId} {args:Array Value} {w:World} {v:Value} {x:BW w.heap.size w} (h:Calls P f args x.out fun e w'=>e= .returned v∧w'=x.out) :
  Calls P f args x.out fun e a=>e= .returned v∧ ∃y:BW w.heap.size w,a=y.out :=
 h.mono fun _ _ ⟨d,b⟩=>⟨d,x,b⟩
theorem qo {id:Nat} {Q:Exit→Act→World→Prop} {a:Act} {w:World} {l:List Oper} (hm:P.follows .mixedOrders=true) (b:Region.lexB .any l.toArray=true)
  (h:wpQuiet P l.toArray (fun w'=> ∃x:BW w.heap.size w,w'=x.out) (fun a'=> ∀w',Below w.heap.size w w'→Q .normal a' w') l a):(Code.region id l.toArray true).wp P Q a w :=
 wp_region_quiet (C:=fun w'=> ∃x:BW w.heap.size w,w'=x.out) hm b ⟨⟨{ w with drawn:=w.drawn+1 },⟨rfl,rfl,rfl,Nat.le_refl _,fun _ _=>rfl⟩⟩,rfl⟩
  (by
   have:(fun a'=> ∀w',(∃x:BW w.heap.size w,w'=x.out)→Q .normal a' w')=(fun a'=> ∀w',Below w.heap.size w w'→Q .normal a' w'):=by
    funext a';exact propext ⟨fun H w' hb=>H w' ⟨⟨w',hb⟩,rfl⟩,fun H w' ⟨x,e⟩=>by subst e;exact H _ x.hb⟩
   rw [this];simpa using h)
theorem bg {id:Nat} {Q:Exit→Act→World→Prop} {a:Act} {w:World} {l:List Oper} (n:Nat) (hm:P.follows .mixedOrders=true) (k:Region.lexTailB .any l.toArray n=true)
  (h:wpQuiet P l.toArray (fun w'=> ∃x:BW w.heap.size w,w'=x.out) (fun a'=> ∀w',Below w.heap.size w w'→wpList P l.toArray Q (l.drop n) a' w') (l.take n) a):(Code.region id l.toArray true).wp P Q a w:=by
 simp only [Region.lexTailB,Bool.and_eq_true,decide_eq_true_eq] at k
 obtain ⟨⟨⟨⟨f,m⟩,s⟩,r⟩,d⟩:=k
 have u:n<l.length:=by simpa using m
 have b:(l.take n).length=n:=by simp;omega
 have e:(l.drop n).length=l.toArray.size-n:=by simp
 have i:HeadInv .any l.toArray n (Array.replicate l.toArray.size false) :=
  ⟨by simp,fun j y _ q=>(by rw [getD_replicate_false] at q;cases q),fun t _ v=>getD_in (by simpa using v) (getD_replicate_false _ _)⟩
 have H:=PY (md:=.any) (g:=l.toArray.size-n) f s r m (l.take n) 0 _ a (fun j p=>by rw [b] at p;simp [p]) (by simpa using b) i (by rw [b];exact d) h
 refine wp_region_any hm ?_
 have:=PX (Q:=Q) (g:=l.toArray.size-n) (fun ls a' w' hw' o=>by
  obtain ⟨x,rfl⟩:=hw'
  have:=wpAny_of_seq (md:=.any) (Q':=Q) (l.drop n) n ls a' x.out (fun j=>by simp [List.getElem?_drop]) (by rw [e];exact o.1) (o.2 _ x.hb)
  rwa [e] at this) _ _ _ { w with drawn:=w.drawn+1 } ⟨⟨{ w with drawn:=w.drawn+1 },⟨rfl,rfl,rfl,Nat.le_refl _,fun _ _=>rfl⟩⟩,rfl⟩ H
 rw [b,show n+(l.toArray.size-n)=l.toArray.size from by omega] at this
 exact this
end
abbrev W32:=BitVec 32
def wn (x:W32):Int:=x.toNat
theorem sD (x:W32):0≤wn x:=by unfold wn;omega
theorem vZ (x:W32):wn x<4294967296:=by unfold wn;have:=x.isLt;omega
theorem b32 (x:W32):x.toNat<4294967296:=x.isLt
theorem tQ (x y:W32):bits .xor .u32 (wn x) (wn y)=wn (x ^^^ y):=by
 unfold wn;rw [u32_xor_nat _ _ (b32 x) (b32 y),BitVec.toNat_xor]
theorem Le (x y:W32):bits .and .u32 (wn x) (wn y)=wn (x &&& y):=by
 unfold wn;rw [u32_and_nat _ _ (b32 x) (b32 y),BitVec.toNat_and]
theorem Oe (x y:W32):bits .or .u32 (wn x) (wn y)=wn (x ||| y):=by
 unfold wn;rw [u32_or_nat _ _ (b32 x) (b32 y),BitVec.toNat_or]
theorem QA (x:W32):bits .xor .u32 4294967295 (wn x)=wn (~~~ x):=by
 have h:=tQ (BitVec.allOnes 32) x
 rw [BitVec.xor_comm,BitVec.xor_allOnes] at h
 have e:wn (BitVec.allOnes 32)=4294967295:=by decide
 rw [e] at h;exact h
theorem Bh (x:W32):bits .xor .u32 (if IntKind.u32.signed=true then -1 else IntKind.u32.max) (wn x)=wn (~~~ x):=QA x
theorem AV (x:W32) (n:Nat):wn x/2^n=wn (x >>> n):=by
 unfold wn
 rw [BitVec.toNat_ushiftRight,Nat.shiftRight_eq_div_pow];push_cast;rfl
theorem Nt (x:W32) (n:Nat):wn x*2^n%4294967296=wn (x <<< n):=by
 unfold wn
 rw [BitVec.toNat_shiftLeft,Nat.shiftLeft_eq,Int.natCast_emod,Int.natCast_mul,Int.natCast_pow];rfl
theorem Qr (x:W32):wn x*(256:Int)%(4294967296:Int)=wn (x <<< 8):=Nt x 8
theorem nN (x y:W32):(wn x+wn y)%4294967296=wn (x+y):=by
 unfold wn;rw [BitVec.toNat_add];omega
theorem nU {k:IntKind} {a b:Int} (h:a=b):Ending.returned (.int k a)= .returned (.int k b):=by rw [h]
theorem LX (x:W32) (a m:Nat) (h:a+m=32) (b:0<a) (hm:0<m):(x <<< m) ||| (x >>> a)=x.rotateRight a:=by
 rw [BitVec.rotateRight_def,Nat.mod_eq_of_lt (by omega),show 32-a=m from by omega,BitVec.or_comm]
def ni (x:W32) (a b c:Nat):W32:=x.rotateRight a ^^^ x.rotateRight b ^^^ x.rotateRight c
def jM (x:W32) (a b c:Nat):W32:=x.rotateRight a ^^^ x.rotateRight b ^^^ x >>> c
theorem QZ (a:Nat) (b:0<a) (h1:a<32):bits .and .u64 (IntKind.u64.wrap (-(a:Int))) 31=((32-a:Nat):Int):=by
 have h:∀a:Nat,a<32→0<a→bits .and .u64 (IntKind.u64.wrap (-(a:Int))) 31=((32-a:Nat):Int):=by decide +kernel
 exact h a h1 b
theorem wV {P:Program} {f:FuncId} {args:Array Value} {w:World} {E:Ending} (h:Calls P f args w fun e w'=>e=E∧w'=w):Calls P f args w fun e w'=>e=E∧Below w.heap.size w w' :=
 h.mono fun e w' ⟨b,a⟩=>by subst a;exact ⟨b,Below.refl _ _⟩
theorem nu (x:W32) (a:Nat) (k:Int) (hk:k = -(a:Int)) (h0:0 < a) (h1:a < 32) (w:World) :
  Calls prog 299 #[.int .u32 (wn x),.int .i64 k] w fun e w' => e = .returned (.int .u32 (wn (x.rotateRight a))) ∧ w' = w:=by
 subst hk
 have hx0:=sD x
 have hx1:=vZ x
 have HA:=QZ a h0 h1
 obtain ⟨m,hm⟩:∃ m,m = 32 - a:=⟨_,rfl⟩
 rw [← hm] at HA
 have H3:IntKind.u64.wrap (32 - (m:Int)) = (a:Int):=by rw [IntKind.wrap_u64];omega
 have H5:(32:Int) - (m:Int) = (a:Int):=by omega
 have H4:=Oe (x <<< m) (x >>> a)
 rw [LX x a m (by omega) h0 (by omega)] at H4
 clear hm
 go_enter func299,ntmps299
 go_wp2
 go_ret
 exact ⟨nU (by rw [Nt,AV,H4]),rfl⟩
theorem fG (x:W32) (a:Nat) (k:Int) (hk:k = (a:Int)) (h0:0 < a) (h1:a < 32) (w:World):
  Calls prog 206 #[.int .u32 (wn x),.int .u64 k] w fun e w' => e = .returned (.int .u32 (wn (x.rotateRight a))) ∧ w' = w:=by
 subst hk
 have hx0:=sD x
 have hx1:=vZ x
 obtain ⟨m,hm⟩:∃ m,m = 32 - a:=⟨_,rfl⟩
 have H3:IntKind.u64.wrap (32 - (a:Int)) = (m:Int):=by rw [IntKind.wrap_u64];omega
 have H5:(32:Int) - (a:Int) = (m:Int):=by omega
 have H4:=Oe (x >>> a) (x <<< m)
 rw [BitVec.or_comm,LX x a m (by omega) h0 (by omega)] at H4
 clear hm
 go_enter func206,ntmps206
 go_wp2
 go_ret
 exact ⟨nU (by rw [Nt,AV,H4]),rfl⟩
theorem CW (x:W32) (a b c:Nat) (ha:0 < a) (ha1:a < 32) (hb:0 < b) (hb1:b < 32) (hc:c < 32) (w:World) :
  Calls prog 278 #[.int .u32 (wn x),.int .i64 a,.int .i64 b,.int .i64 c] w fun e w' => e = .returned (.int .u32 (wn (jM x a b c))) ∧ Below w.heap.size w w':=by
 have H1:=fun w => nu x a (-(a:Int)) rfl ha ha1 w
 have H2:=fun w => nu x b (-(b:Int)) rfl hb hb1 w
 have X:=tQ
 have E:=AV x c
 have N1:IntKind.i64.wrap (-(a:Int)) = -(a:Int):=IntWalk.i64_in _ (by omega)
 have N2:IntKind.i64.wrap (-(b:Int)) = -(b:Int):=IntWalk.i64_in _ (by omega)
 go_enter func278,ntmps278
 go_wp2
 refine qo (by kernel_rfl) (by kernel_rfl) ?_
 repeat (go_big_quiet_step ((first | (go_at_call 299;with_reducible exact bL (H1 _)) | (go_at_call 299;with_reducible exact bL (H2 _)))))
 refine wpQuiet_nil ?_
 intro wq hbq
 go_wp2
 go_ret
 exact ⟨nU rfl,hbq⟩
theorem Db (x:W32) (a b c:Nat) (ha:0 < a) (ha1:a < 32) (hb:0 < b) (hb1:b < 32) (hc:0 < c) (hc1:c < 32) (w:World) :
  Calls prog 279 #[.int .u32 (wn x),.int .i64 a,.int .i64 b,.int .i64 c] w fun e w' => e = .returned (.int .u32 (wn (ni x a b c))) ∧ w' = w:=by
 have X:=tQ
 go_enter func279,ntmps279
 go_wp2_with (first | (go_at_call_of 299 (Value.int IntKind.i64 (-(a:Int)));refine (nu x a _ rfl ha ha1 _).mono ?_;rintro e w' ⟨rfl,rfl⟩) | (go_at_call_of 299 (Value.int IntKind.i64 (-(b:Int)));refine (nu x b _ rfl hb hb1 _).mono ?_;rintro e w' ⟨rfl,rfl⟩) | (go_at_call_of 299 (Value.int IntKind.i64 (-(c:Int)));refine (nu x c _ rfl hc hc1 _).mono ?_;rintro e w' ⟨rfl,rfl⟩))
 go_ret
 exact ⟨nU rfl,rfl⟩
end
section
def bw (b:UInt8):W32:=BitVec.ofNat 32 b.toNat
def eD (r:Nat→UInt8) (i:Nat):Nat→W32
 | 0=>0
 | j+1=>eD r i j <<< 8 ||| bw (r (4*i+j))
def gH (r:Nat→UInt8) (i j:Nat):Nat→W32:=fun k=>if k<i then eD r k 4 else if k=i then eD r i j else 0
theorem F9 (r:Nat→UInt8):gH r 0 0=fun _=>0:=by
 funext k;unfold gH;rw [if_neg (by omega)];split<;>rfl
theorem Gb (r:Nat→UInt8) (i j:Nat):upd (gH r i j) i (gH r i j i <<< 8 ||| bw (r (4*i+j)))=gH r i (j+1):=by
 funext k;unfold upd gH
 by_cases h:k=i
 ·subst h;simp [eD]
 rw [if_neg h,if_neg h,if_neg h]
theorem Ga (r:Nat→UInt8) (i:Nat):gH r i 4=gH r (i+1) 0:=by
 funext k;unfold gH
 by_cases h:k<i
 ·rw [if_pos h,if_pos (by omega)]
 by_cases a:k=i
 ·subst a;rw [if_neg (by omega),if_pos rfl,if_pos (by omega)]
 rw [if_neg h,if_neg a,if_neg (by omega)];split<;>rfl
def DR (f:Nat→W32) (i:Nat):W32:=jM (f (i-2)) 17 19 10+f (i-7)+jM (f (i-15)) 7 18 3+f (i-16)
def aT (r:Nat→UInt8):Nat→Nat→W32
 | 0=>gH r 16 0
 | n+1=>upd (aT r n) (16+n) (DR (aT r n) (16+n))
def jP:List W32:=[0x428a2f98#32,0x71374491#32,0xb5c0fbcf#32,0xe9b5dba5#32,0x3956c25b#32,0x59f111f1#32,0x923f82a4#32,0xab1c5ed5#32,0xd807aa98#32,0x12835b01#32,0x243185be#32,0x550c7dc3#32,0x72be5d74#32,0x80deb1fe#32,0x9bdc06a7#32,0xc19bf174#32,0xe49b69c1#32,0xefbe4786#32,0x0fc19dc6#32,0x240ca1cc#32,0x2de92c6f#32,0x4a7484aa#32,0x5cb0a9dc#32,0x76f988da#32,0x983e5152#32,0xa831c66d#32,0xb00327c8#32,0xbf597fc7#32,0xc6e00bf3#32,0xd5a79147#32,0x06ca6351#32,0x14292967#32,0x27b70a85#32,0x2e1b2138#32,0x4d2c6dfc#32,0x53380d13#32,0x650a7354#32,0x766a0abb#32,0x81c2c92e#32,0x92722c85#32,0xa2bfe8a1#32,0xa81a664b#32,0xc24b8b70#32,0xc76c51a3#32,0xd192e819#32,0xd6990624#32,0xf40e3585#32,0x106aa070#32,0x19a4c116#32,0x1e376c08#32,0x2748774c#32,0x34b0bcb5#32,0x391c0cb3#32,0x4ed8aa4a#32,0x5b9cca4f#32,0x682e6ff3#32,0x748f82ee#32,0x78a5636f#32,0x84c87814#32,0x8cc70208#32,0x90befffa#32,0xa4506ceb#32,0xbef9a3f7#32,0xc67178f2#32]
def rK (i:Nat):W32:=jP.getD i 0
theorem lQ:jP.length=64:=by decide +kernel
def tW (s:Nat→W32) (k w:W32):W32:=s 7+ni (s 4) 6 11 25+(s 4 &&& s 5 ^^^ ~~~ s 4 &&& s 6)+k+w
def uW (s:Nat→W32):W32:=ni (s 0) 2 13 22+(s 0 &&& s 1 ^^^ s 0 &&& s 2 ^^^ s 1 &&& s 2)
def eight (a b c d e f g h:W32):Nat→W32:=fun k=>if k=0 then a else if k=1 then b else if k=2 then c else if k=3 then d else if k=4 then e else if k=5 then f else if k=6 then g else h
def stepW (s:Nat→W32) (k w:W32):Nat→W32:=eight (tW s k w+uW s) (s 0) (s 1) (s 2) (s 3+tW s k w) (s 4) (s 5) (s 6)
def bB (w:Nat→W32) (s:Nat→W32):Nat→Nat→W32
 | 0=>s
 | n+1=>stepW (bB w s n) (rK n) (w n)
def dK (s:Nat→W32) (r:Nat→UInt8):Nat→W32:=fun k=>s k+bB (aT r 48) s 64 k
def qI (s t:Nat→W32) (i:Nat):Nat→W32:=fun k=>if k<i then s k+t k else s k
theorem FN (s t:Nat→W32):qI s t 0=s:=by funext k;unfold qI;rw [if_neg (by omega)]
theorem FP (s t:Nat→W32) (i:Nat):upd (qI s t i) i (s i+t i)=qI s t (i+1):=by
 funext k;unfold upd qI
 by_cases h:k=i
 ·subst h;rw [if_pos rfl,if_pos (by omega)]
 rw [if_neg h]
 by_cases a:k<i
 ·rw [if_pos a,if_pos (by omega)]
 rw [if_neg a,if_neg (by omega)]
theorem oI (b:UInt8):((b.toNat:Nat):Int)=wn (bw b):=by
 unfold wn bw;rw [BitVec.toNat_ofNat,Nat.mod_eq_of_lt (by have:=b.toNat_lt;omega)]
theorem oV (b:UInt8):wn (bw b)<256:=by rw [←oI];have:=b.toNat_lt;omega
structure HS where
 begun:Bool
 st:Nat → W32
 rest:Nat → UInt8
 many:Nat
 taken:Int
def HS.c (h:HS) (k:Nat):Value :=
 if k=0 then .bool h.begun else if k<9 then .int .u32 (wn (h.st (k-1))) else if k<73 then .int .u8 ((h.rest (k-9)).toNat:Int) else if k=73 then .int .i64 h.many else .int .u64 h.taken
theorem HS.Qu (h:HS) (k:Nat) (a:k<8):h.c (1+k)= .int .u32 (wn (h.st k)):=by
 unfold HS.c;rw [if_neg (by omega),if_pos (by omega),show 1+k-1=k from by omega]
theorem HS.Qv (h:HS) (k:Nat) (a:k<64):h.c (9+k)= .int .u8 ((h.rest k).toNat:Int):=by
 unfold HS.c;rw [if_neg (by omega),if_neg (by omega),if_pos (by omega),show 9+k-9=k from by omega]
theorem HS.Gy (h:HS):h.c 73= .int .i64 h.many:=rfl
theorem HS.Im (h:HS):h.c 74= .int .u64 h.taken:=rfl
theorem HS.Pe (h:HS):h.c 0= .bool h.begun:=rfl
theorem HS.PV (h:HS) (k:Nat) (b:k<8) (x:W32):upd h.c (1+k) (.int .u32 (wn x))=HS.c { h with st:=upd h.st k x }:=by
 funext j;unfold upd HS.c
 by_cases e:j=1+k
 ·subst e;rw [if_pos rfl,if_neg (by omega),if_pos (by omega)];dsimp only;rw [if_pos (by omega)]
 rw [if_neg e]
 by_cases a:j=0
 ·rw [if_pos a,if_pos a]
 rw [if_neg a,if_neg a]
 by_cases h1:j<9
 ·rw [if_pos h1,if_pos h1];dsimp only;rw [if_neg (by omega)]
 rw [if_neg h1,if_neg h1]
theorem HS.Lh (h:HS) (k:Nat) (d:k<64) (x:UInt8):upd h.c (9+k) (.int .u8 (x.toNat:Int))=HS.c { h with rest:=upd h.rest k x }:=by
 funext j;unfold upd HS.c
 by_cases e:j=9+k
 ·subst e;rw [if_pos rfl,if_neg (by omega),if_neg (by omega),if_pos (by omega)];dsimp only;rw [if_pos (by omega)]
 rw [if_neg e]
 by_cases b:j=0
 ·rw [if_pos b,if_pos b]
 rw [if_neg b,if_neg b]
 by_cases h1:j<9
 ·rw [if_pos h1,if_pos h1]
 rw [if_neg h1,if_neg h1]
 by_cases a:j<73
 ·rw [if_pos a,if_pos a];dsimp only;rw [if_neg (by omega)]
 rw [if_neg a,if_neg a]
theorem HS.CQ (h:HS) (m:Nat):upd h.c 73 (.int .i64 (m:Int))=HS.c { h with many:=m }:=by
 funext j;unfold upd HS.c
 by_cases e:j=73
 ·subst e;simp
 rw [if_neg e]
 by_cases b:j=0
 ·rw [if_pos b,if_pos b]
 rw [if_neg b,if_neg b]
 by_cases h1:j<9
 ·rw [if_pos h1,if_pos h1]
 rw [if_neg h1,if_neg h1]
 by_cases a:j<73
 ·rw [if_pos a,if_pos a]
 rw [if_neg a,if_neg a,if_neg e,if_neg e]
theorem HS.IU (h:HS) (m:Int):∀k,k<75→upd h.c 74 (.int .u64 m) k=HS.c { h with taken:=m } k:=by
 intro j d;unfold upd HS.c
 by_cases e:j=74
 ·subst e;simp
 rw [if_neg e]
 by_cases b:j=0
 ·rw [if_pos b,if_pos b]
 rw [if_neg b,if_neg b]
 by_cases h1:j<9
 ·rw [if_pos h1,if_pos h1]
 rw [if_neg h1,if_neg h1]
 by_cases a:j<73
 ·rw [if_pos a,if_pos a]
 rw [if_neg a,if_neg a,if_pos (by omega),if_pos (by omega)]
end
section
open Go.RowKit
section
variable {P:Program} {ops:Array Oper} {md:Region.Mode} {Q:Exit → Act → World → Prop} {S:World → Prop}
def KK (Q:Exit→Act→World→Prop) (S:World→Prop) (T:Act→World→Prop):Exit→Act→World→Prop
 | .normal,a,w=>S w∧T a w
 | e,a,w=>Q e a w
theorem vW {T:Act→World→Prop} {o:Oper} {a:Act} {w:World} {K:Act→World→Prop} (h:o.wp P a w K (KK Q S T)):o.wp P a w K Q:=by
 unfold Oper.wp at *
 generalize (execOp a.eval o).run P w=r at *
 cases r with
 | ok n w' =>
  cases n<;>simp only [Oper.upon] at h ⊢
  case enter f args =>
   refine Calls.mono h fun e d b=> ?_
   cases e with
   | returned u=>exact b
   | panicked c=>exact b
   | outgrown=>exact b
  all_goals exact h
 | halt x w' =>
  cases x<;>simp only [Oper.upon] at h ⊢
  case panic u=>exact h
def wpL (P:Program) (md:Region.Mode) (ops:Array Oper) (Q:Exit→Act→World→Prop) (S:World→Prop) (n:Nat):Nat→Array Bool→Act→World→Prop
 | 0,ls,a,w=>(∀j∈Region.ready md ops ls,n≤j)∧wpAny P md ops Q (ops.size-n) ls a w
 | f+1,ls,a,w=>Region.ready md ops ls≠[]∧ ∀i∈Region.ready md ops ls,i<n∧wpOp P ops Q i (fun a' w'=>S w'∧wpL P md ops Q S n f (ls.setIfInBounds i true) a' w') a w
theorem o9 {n:Nat}:∀(f:Nat) (ls:Array Bool) (a:Act) (w:World),wpL P md ops Q S n f ls a w→wpAny P md ops Q (f+(ops.size-n)) ls a w
 | 0,ls,a,w,h=>by rw [Nat.zero_add];exact h.2
 | f+1,ls,a,w,h=>by
  rw [show f+1+(ops.size-n)=(f+(ops.size-n))+1 from by omega]
  exact ⟨fun d=>absurd d h.1,fun i hi=>wpOp_mono (fun a' w' b=>o9 f _ a' w' b.2) (h.2 i hi).2⟩
theorem zO {n i:Nat} {oi:Oper} {v:Value} (hi:ops[i]? = some oi) (l:∀(j:Nat) (o:Oper) cs b,ops[j]? = some o→o.op ≠ .select cs b)
  (I:Region.sinkB md ops n=true) (J:Region.chainB md ops n=true) (K:n<ops.size) (B:i<n) (N:∀c a w,Q (.panic c) (a.put oi.dst v) w→Q (.panic c) a w) :
  ∀(f:Nat) (ls:Array Bool) (a:Act) (w:World),HeadInv md ops n ls →
   (∀j q,ops[j]? = some q→j≠i→ls.getD j true=false→(∀e∈q.after,Region.binds md e=true→e.on≠i)→oi.apart ops q=true) →
   i∈Region.ready md ops ls→YieldsIf P ops S oi v a→S w→wpL P md ops Q S n f (ls.setIfInBounds i true) (a.put oi.dst v) w→wpL P md ops Q S n (f+1) ls a w:=by
 intro f
 induction f with
 | zero =>
  intro ls a w g _ m hy hS H
  refine ⟨fun s=>(by rw [s] at m;cases m),fun j t=> ?_⟩
  have h:j<n:=Nat.lt_of_not_ge fun s=>tail_waits I J K g _ i rfl B (mem_ready.1 m).1 j s t
  refine ⟨h,?_⟩
  by_cases e:j=i
  ·subst e;exact hy.wpOp hi hS ⟨hS,H⟩
  have:=H.1 j (ready_mono t e);omega
 | succ f ih =>
  intro ls a w g d m hy hS H
  have A:=(mem_ready.1 m).1
  refine ⟨fun s=>(by rw [s] at m;cases m),fun j t=> ?_⟩
  have h:j<n:=Nat.lt_of_not_ge fun s=>tail_waits I J K g _ i rfl B A j s t
  refine ⟨h,?_⟩
  by_cases e:j=i
  ·subst e;exact hy.wpOp hi hS ⟨hS,H⟩
  obtain ⟨p,q,r,C⟩:=mem_ready.1 t
  have z:∀x∈q.after,Region.binds md x=true→x.on≠i:=fun x hx hb E=>by
   have h1:=C x hx hb
   rw [E,getD_both A] at h1
   cases h1
  have M:=wpOp_putIf r (d j q r e p z) (fun cs b=>l i oi cs b hi) (fun cs b=>l j q cs b r) N hy (H.2 j (ready_mono t e)).2
  refine wpOp_mono (fun a' w' D=>⟨D.2.1,ih (ls.setIfInBounds j true) a' w' (g.set t h) ?_ (ready_mono m (Ne.symm e)) D.1 D.2.1 ?_⟩) M
  ·intro k ok L G y F
   refine d k ok L G ?_ F
   by_cases u:j=k
   ·subst u;exact p
   rwa [getD_set_ne true u] at y
  rw [Array.setIfInBounds_comm _ _ e];exact D.2.2
structure WL (P:Program) (ops:Array Oper) (Q:Exit → Act → World → Prop) (S:World → Prop) (n f:Nat) (ls:Array Bool) (a:Act) (w:World):Prop where
 out:HeadInv .any ops n ls → wpL P .any ops Q S n f ls a w
def lastB (ops:Array Oper) (n:Nat):Bool:=Region.noSelect ops&&decide (n<ops.size)&&Region.sinkB .any ops n&&Region.chainB .any ops n
theorem WL.take {n i:Nat} {oi:Oper} {v:Value} {f:Nat} {ls:Array Bool} {a:Act} {w:World} (hi:ops[i]? = some oi) (b:lastB ops n=true) (e:i<n)
  (j:Region.free .any ops ls i=true) (k:(Region.ready .any ops ls).contains i=true) (m:∀c a w,Q (.panic c) (a.put oi.dst v) w→Q (.panic c) a w) (l:Region.wanted oi (yielded ops a.tmps)=true)
  (hy:∀w,S w→(execOp a.eval oi).run P w= .ok (.value v) w) (hS:S w) (h:WL P ops Q S n f (ls.setIfInBounds i true) (a.put oi.dst v) w):WL P ops Q S n (f+1) ls a w:=by
 simp only [lastB,Bool.and_eq_true,decide_eq_true_eq] at b
 have d:i∈Region.ready .any ops ls:=by simpa using k
 exact ⟨fun g=>zO hi (Region.noSelect_spec b.1.1.1) b.1.2 b.2 b.1.1.2 e m f ls a w g (Region.free_spec hi j) d (.inl ⟨l,hy⟩) hS (h.out (g.set d e))⟩
theorem WL.one {n i:Nat} {oi:Oper} {f:Nat} {ls:Array Bool} {a:Act} {w:World} (hi:ops[i]? = some oi) (d:i<n) (o:Region.ready .any ops ls=[i])
  (h:wpList P ops (KK Q S fun a' w'=>WL P ops Q S n f (ls.setIfInBounds i true) a' w') [oi] a w):WL P ops Q S n (f+1) ls a w:=by
 refine ⟨fun k=>⟨fun p=>(by rw [o] at p;cases p),fun j m=> ?_⟩⟩
 have g:=m
 rw [o] at m
 obtain rfl:j=i:=by simpa using m
 refine ⟨d,?_⟩
 have b:=k.set g d
 unfold wpOp
 simp only [hi]
 simp only [wpList] at h
 split
 ·rename_i l
  rw [if_pos l] at h
  rcases h with h|⟨h1,q⟩
  ·exact .inl (Oper.wp_mono (fun a' w' e=>⟨e.1,e.2.out b⟩) (vW h))
  refine .inr ⟨h1,?_⟩
  obtain ⟨a',w',e⟩:=q
  exact ⟨a',w',e⟩
 rename_i l
 rw [if_neg l] at h
 exact ⟨h.1,h.2.out b⟩
theorem WL.last {n:Nat} {oi:Oper} {ls:Array Bool} {a:Act} {w:World} (hi:ops[n]? = some oi) (k:ops.size=n+1) (d:Region.ready .any ops ls=[n]) (hd:Region.ready .any ops (ls.setIfInBounds n true)=[])
  (h:wpList P ops Q [oi] a w):WL P ops Q S n 0 ls a w:=by
 refine ⟨fun _=>⟨fun j b=> ?_,?_⟩⟩
 ·rw [d] at b
  have e:j=n:=by simpa using b
  omega
 rw [show ops.size-n=1 from by omega]
 refine ⟨fun f=>(by rw [d] at f;cases f),fun j b=> ?_⟩
 rw [d] at b
 obtain rfl:j=n:=by simpa using b
 have g:wpOp P ops Q j (wpList P ops Q []) a w:=by unfold wpOp;simp only [hi];exact h
 exact wpOp_mono (fun a' w' i=>⟨hd,i⟩) g
theorem CJ {id:Nat} {a:Act} {w:World} {l:List Oper} (n:Nat) (S:World→Prop) (hm:P.follows .mixedOrders=true) (d:lastB l.toArray n=true)
  (h:WL P l.toArray Q S n n (Array.replicate l.toArray.size false) a w.drew):(Code.region id l.toArray true).wp P Q a w:=by
 simp only [lastB,Bool.and_eq_true,decide_eq_true_eq] at d
 have b:HeadInv .any l.toArray n (Array.replicate l.toArray.size false) :=
  ⟨by simp,fun j g _ e=>(by rw [getD_replicate_false] at e;cases e),fun t _ f=>getD_in (by simpa using f) (getD_replicate_false _ _)⟩
 have H:=o9 _ _ _ _ (h.out b)
 rw [show n+(l.toArray.size-n)=l.toArray.size from by have:=d.1.1.2;omega] at H
 exact wp_region_any hm H
end
theorem Ay:∀(l:List Value) (o:Nat) (a:Array Value),((l.zipIdx o).foldl (fun cs (p:Value×Nat)=>cs.setIfInBounds p.2 p.1) a).size=a.size ∧
  ∀k,((l.zipIdx o).foldl (fun cs (p:Value×Nat)=>cs.setIfInBounds p.2 p.1) a)[k]? = if o≤k∧k<o+l.length∧k<a.size then l[k-o]? else a[k]?
 | [],o,a=>⟨rfl,fun k=>by rw [if_neg (by simp only [List.length_nil];omega)];rfl⟩
 | x::l,o,a=>by
  obtain ⟨h1,b⟩:=Ay l (o+1) (a.setIfInBounds o x)
  rw [Array.size_setIfInBounds] at h1 b
  rw [List.zipIdx_cons,List.foldl_cons]
  refine ⟨h1,fun k=> ?_⟩
  rw [b k]
  by_cases f:o+1≤k∧k<o+1+l.length∧k<a.size
  ·rw [if_pos f,if_pos (by simp only [List.length_cons];omega)]
   rw [show k-o=(k-(o+1))+1 from by omega,List.getElem?_cons_succ]
  rw [if_neg f]
  by_cases e:k=o
  ·subst e
   by_cases d:k<a.size
   ·rw [if_pos (by simp only [List.length_cons];omega),Nat.sub_self,Array.getElem?_setIfInBounds_self_of_lt d];rfl
   rw [if_neg (by omega),Array.getElem?_eq_none (by simpa using d),Array.getElem?_eq_none (by omega)]
  rw [Array.getElem?_setIfInBounds_ne (Ne.symm e),if_neg (by simp only [List.length_cons];omega)]
theorem lay_all (cs:List Value) (a:Array Value) (h:a.size=cs.length):(cs.toArray.zipIdx.foldl (fun b (p:Value×Nat)=>b.setIfInBounds (0*cs.length+p.2) p.1) a)=cs.toArray:=by
 have e:(fun (b:Array Value) (p:Value×Nat)=>b.setIfInBounds (0*cs.length+p.2) p.1)=fun b p=>b.setIfInBounds p.2 p.1:=by funext b p;rw [Nat.zero_mul,Nat.zero_add]
 rw [e]
 obtain ⟨h1,d⟩:=Ay cs 0 a
 have f:(cs.toArray.zipIdx.foldl (fun (b:Array Value) (p:Value×Nat)=>b.setIfInBounds p.2 p.1) a)=((cs.zipIdx 0).foldl (fun b p=>b.setIfInBounds p.2 p.1) a):=by
  rw [←Array.foldl_toList,Array.toList_zipIdx]
 rw [f]
 apply Array.ext_getElem?
 intro k
 rw [d k]
 by_cases g:k<cs.length
 ·rw [if_pos (by omega),Nat.sub_zero];simp
 rw [if_neg (by omega),Array.getElem?_eq_none (by omega),Array.getElem?_eq_none (by simpa using g)]
theorem jO {P:Program} (w:World) (t e:TypeId) (cs:List Value) (a:Array Value) (l:P.underlying t=some (.slice e)) (d:∀w,(sizeOf e).run P w= .ok cs.length w) (j:∀w,(zeroValue e).run P w= .ok (.agg a) w)
  (h:0<cs.length) (g:cs.length≤1000) :
  (Instr.buildSlice t 1 #[(0,.agg cs.toArray)]).run P w= .ok (.slice (some ⟨w.heap.size,0,none⟩) 1 1) (w.alloc (.cells cs.toArray e)):=by
 have b:Instr.fill (fun i=>some (i*cs.length,cs.length)) ((Array.range (1*cs.length)).map (a[· % a.size]!)) #[(0,Value.agg cs.toArray)].toList=some cs.toArray:=by
  have m:((Array.range (1*cs.length)).map (a[· % a.size]!)).size=cs.length:=by simp
  have f:(Value.agg cs.toArray).cells=cs.toArray:=rfl
  show Instr.fill _ _ [(0,Value.agg cs.toArray)]=_
  unfold Instr.fill
  simp only [f,List.size_toArray]
  rw [if_neg (by simp)]
  unfold Instr.fill
  rw [lay_all cs _ m]
 have h1:¬(16777216<1*cs.length):=by omega
 have k:¬(1*cs.length=0):=by omega
 unfold Instr.buildSlice
 simp only [Sem.run_bind,run_underlying l,Result.andThen_ok,d]
 rw [if_neg (by omega),if_neg k]
 simp only [Sem.run_bind,Sem.run_pure,Result.andThen_ok,j]
 have f:(Value.agg a).cells=a:=rfl
 simp only [f,b]
 simp [newRow]
theorem aG {P:Program} {w:World} {ops:Array Oper} {rest:List Oper} {o:Oper} {a:Act} {Q:Exit→Act→World→Prop} (p:o.guard=none) (x:Operand) (t e:TypeId) (i:o.op= .buildSlice t 1 #[(0,x)])
  (cs:List Value) (j:Array Value) (hx:a.eval x= .agg cs.toArray) (n:P.underlying t=some (.slice e)) (h:∀w,(sizeOf e).run P w= .ok cs.length w) (k:∀w,(zeroValue e).run P w= .ok (.agg j) w)
  (f:0<cs.length) (b:cs.length≤1000) (m:wpList P ops Q rest (a.put o.dst (.slice (some ⟨w.heap.size,0,none⟩) 1 1)) (w.alloc (.cells cs.toArray e))):wpList P ops Q (o::rest) a w:=by
 refine wpList_plain p fun K g=> ?_
 have d:=jO w t e cs j n h k f b
 unfold Oper.wp
 have l:(execOp a.eval o).run P w= .ok (.value (.slice (some ⟨w.heap.size,0,none⟩) 1 1)) (w.alloc (.cells cs.toArray e)):=by
  unfold execOp
  simp only [i,List.map_toArray,List.map_cons,List.map_nil,hx,Sem.run_bind,d,Result.andThen_ok,Sem.run_pure]
 rw [l]
 exact g _ _ m
theorem aP {P:Program} {fn:Func} {R:Ending→World→Prop} {a:Act} {w:World} {p q:Tmp} {ty:TypeId} (h:fn.results= #[.cell p ty,.tmp q]) (b o:Nat)
  (g:a.tmps.getD p undef= .pointer (some ⟨b,o,none⟩)) (cs:List Value) (d:TypeDesc) (i:w.rangeAt b o cs)
  (hu:P.underlying ty=some d) (hd:d.isRow=true) (hi:(P.info? ty).map (·.size)=some cs.length) (e:a.defers=[]) (u:Value) (f:a.tmps.getD q undef=u) (j:R (.returned (.tuple #[.agg cs.toArray,u])) w):bodyPost P fn R .ret a w:=by
 refine bodyPost_ret (v:=.tuple #[.agg cs.toArray,u]) ?_ e j
 have:=run_loadVar_mid (P:=P) w b o ty cs d i hu hd hi
 simp only [results,h]
 rw [Array.getD_eq_getD_getElem?] at g f
 simp [asAddr,g,f,this]
theorem aX {P:Program} {ops:Array Oper} {rest:List Oper} {op:Oper} {a:Act} {w:World} {Q:Exit→Act→World→Prop} (e:Region.wanted op (yielded ops a.tmps)=true) (ty:TypeId) (x:Operand) (f:op.op= .load ty x)
  (b o:Nat) (hx:a.eval x= .pointer (some ⟨b,o,none⟩)) (cs:List Value) (d:TypeDesc) (g:w.rangeAt b o cs)
  (hu:P.underlying ty=some d) (hd:d.isRow=true) (hi:(P.info? ty).map (·.size)=some cs.length)
  (h:wpList P ops Q rest (a.put op.dst (.agg cs.toArray)) w):wpList P ops Q (op::rest) a w:=by
 unfold wpList
 rw [if_pos e]
 exact .inl (wp_load_mid ty x f b o hx cs d g hu hd hi h)
def Fr (w:World) (v a:Value):Prop:=a.ownBlock=v.ownBlock∨ ∀g,a.ownBlock=some g→w.heap.size≤g
theorem Fr.refl (w:World) (v:Value):Fr w v v:=.inl rfl
theorem lX {w w1 e:World} {r:Option Nat} (h1:w.grownBy w1 r) (a:Below w1.heap.size w1 e):w.grownBy e r :=
 ⟨a.os.trans h1.os,a.tape.trans h1.tape,a.output.trans h1.output,Nat.le_trans h1.size a.size,fun k d b=>(a.block k (Nat.lt_of_lt_of_le d h1.size)).trans (h1.block k d b)⟩
theorem Cx {w w1 e:World} {r:Option Nat} (h1:Below w.heap.size w w1) (a:w1.grownBy e r):w.grownBy e r :=
 ⟨a.os.trans h1.os,a.tape.trans h1.tape,a.output.trans h1.output,Nat.le_trans h1.size a.size,fun k d b=>(a.block k (Nat.lt_of_lt_of_le d h1.size) b).trans (h1.block k d)⟩
theorem kE {w w':World} {r:Option Nat} {b o:Nat} {cs:List Value} (h:w.rangeAt b o cs) (f:w.grownBy w' r) (d:r≠some b):w'.rangeAt b o cs :=
 fun j u hu=>f.cell (a:=⟨b,o+j,none⟩) (h j u hu) (fun e=>d e.symm)
theorem qM {w:World} {B a:Nat} {e:TypeId} {sz:Nat} {v:Value} {n:Nat} {xs:List Value} (h:w.ownsRow B e sz v n xs) (hb:a≤B):w.ownsRow a e sz v n xs:=by
 refine ⟨h.1,?_⟩
 rcases h.2 with h|⟨g,cap,cur,d,b,r⟩
 ·exact .inl h
 exact .inr ⟨g,cap,cur,d,Nat.le_trans hb b,r⟩
theorem yu {w w':World} (h:w.grownBy w' none) (r:Option Nat):w.grownBy w' r:=⟨h.os,h.tape,h.output,h.size,fun k a _=>h.block k a (by simp)⟩
theorem r9 {P:Program} (w:World) {ops:Array Oper} {rest:List Oper} {o:Oper} {a:Act} {Q:Exit→Act→World→Prop}
  (r:o.guard=none) (s x:Operand) (t:TypeId) (q:o.op=Op.call { callee:=Callee.builtin Builtin.append,args:=#[s,x],argTypes:=#[t,t] })
  (base:Nat) (e:TypeId) (i:TypeInfo) (z:Value) (size bytes:Nat) (h1:P.underlying t=some (.slice e)) (F:P.info? e=some i) (O:i.zero=some z) (L:i.size=size) (T:i.bytes=bytes) (S:z.cells.size=size) (R:0<size)
  (v:Value) (n:Nat) (xs:List Value) (D:a.eval s=v) (f:w.ownsRow base e size v n xs)
  (C:Addr) (m c:Nat) (d:List Value) (hx:a.eval x= .slice (some C) m c) (H:d.length=m*size) (G:∀j u,d[j]? = some u→w.cell? (C.add j)=some u) (y:∀u∈d,u.oneCell'=true)
  (N:n+m≤maxLen) (M:(n+m)*bytes≤140737488355328) (k:base≤w.heap.size)
  (E:∀A w',w'.ownsRow base e size A (n+m) (xs++d)→w.grownBy w' v.ownBlock→Fr w v A→wpList P ops Q rest (a.put o.dst A) w') :
  wpList P ops Q (o::rest) a w:=by
 rcases f.2 with ⟨I,J⟩|⟨g,cap,cur,I,Y,aa,U,V,W,Z⟩
 ·subst J
  have K:xs=[]:=List.eq_nil_of_length_eq_zero (by simpa using f.1)
  subst K
  subst I
  refine wpList_append_own w r s x t q w.heap.size e i z size bytes h1 F O L T S R _ 0 [] D (World.ownsRow_nil w _ e size) C m c d hx H G y N M (Nat.le_refl _) ?_
  intro A w' p B _
  exact E A w' (qM p k) B (.inr fun g r=>(p.lt g r).1 |> fun X=>X)
 subst I
 by_cases l:n+m≤cap
 ·refine wpList_append_own_spare w r s x t q base e i size h1 F L g n cap xs D f C m c d hx H G y l ?_
  intro w' p B
  exact E _ w' p B (.inl rfl)
 refine wpList_append_grows w r s x t q e i z size bytes h1 F O L T S R (some ⟨g,0,none⟩) n cap xs D (fun h=>by cases h) f.1 (fun b hb=>by cases hb;exact f.cells (g:=g) rfl) C m c d hx H G y (by omega) N M ?_
 intro A w' p B
 exact E A w' (qM p k) (yu B _) (.inr fun g r=>(p.lt g r).1)
theorem aM {P:Program} {w:World} {b o:Nat} {cs:List Value} (ty:TypeId) (d:TypeDesc) (f:w.rangeAt b o cs) (hu:P.underlying ty=some d) (hd:d.isRow=true)
  (hi:(P.info? ty).map (·.size)=some cs.length) {a:Act} {op:Oper} (x:Operand) (e:op.op= .load ty x) (hx:a.eval x= .pointer (some ⟨b,o,none⟩)) :
  (execOp a.eval op).run P w= .ok (.value (.agg cs.toArray)) w:=by
 unfold execOp
 simp only [e,hx,Instr.loadAt,Instr.sureAddr,Sem.run_bind,Sem.run_pure,Result.andThen_ok,run_loadVar_mid w b o ty cs d f hu hd hi]
section
variable {P:Program} {ops:Array Oper} {Q:Exit → Act → World → Prop} {S:World → Prop}
theorem WL.two {n i k:Nat} {oi ok:Oper} {f:Nat} {ls:Array Bool} {a:Act} {w:World} (hi:ops[i]? = some oi) (y:ops[k]? = some ok) (l:i<n) (m:k<n) (q:Region.ready .any ops ls=[i,k])
  (h:wpList P ops (KK Q S fun a' w'=>WL P ops Q S n f (ls.setIfInBounds i true) a' w') [oi] a w) (e:wpList P ops (KK Q S fun a' w'=>WL P ops Q S n f (ls.setIfInBounds k true) a' w') [ok] a w):WL P ops Q S n (f+1) ls a w:=by
 have one:∀ {j:Nat} {p:Oper},ops[j]? = some p→j<n→j∈Region.ready .any ops ls→wpList P ops (KK Q S fun a' w'=>WL P ops Q S n f (ls.setIfInBounds j true) a' w') [p] a w→HeadInv .any ops n ls →
   wpOp P ops Q j (fun a' w'=>S w'∧wpL P .any ops Q S n f (ls.setIfInBounds j true) a' w') a w:=by
  intro j p o u s h b
  have d:=b.set s u
  unfold wpOp
  simp only [o]
  simp only [wpList] at h
  split
  ·rename_i r
   rw [if_pos r] at h
   rcases h with h|⟨h1,v⟩
   ·exact .inl (Oper.wp_mono (fun a' w' e=>⟨e.1,e.2.out d⟩) (vW h))
   refine .inr ⟨h1,?_⟩
   obtain ⟨a',w',e⟩:=v
   exact ⟨a',w',e⟩
  rename_i r
  rw [if_neg r] at h
  exact ⟨h.1,h.2.out d⟩
 refine ⟨fun b=>⟨fun x=>(by rw [x] at q;cases q),fun j o=> ?_⟩⟩
 have g:=o
 rw [q] at o
 rcases List.mem_cons.1 o with rfl|t
 ·exact ⟨l,one hi l g h b⟩
 obtain rfl:j=k:=by simpa using t
 exact ⟨m,one y m g e b⟩
end
theorem nz {α:Type}:(∀(xs:List α) (i:Nat) (h:i<xs.toArray.size),xs.toArray[i]=xs[i]'(by simpa using h))∧(∀(a:α) (l:List α) (i:Nat) (h:i+1<(a::l).length),(a::l)[i+1]=l[i]'(by simpa using h)) ∧
  (∀(a:α) (l:List α) (h:0<(a::l).length),(a::l)[0]=a)∧(∀(l:List α) (i:Nat) (a:α),l.toArray.setIfInBounds i a=(l.set i a).toArray)∧(∀(x:α) (l:List α) (i:Nat) (a:α),(x::l).set (i+1) a=x::l.set i a) ∧
  ∀(x:α) (l:List α) (a:α),(x::l).set 0 a=a::l :=
 ⟨fun _ _ h=>List.getElem_toArray h,fun a l i h=>List.getElem_cons_succ a l i h,fun a l h=>List.getElem_cons_zero a l h,fun l i a=>List.setIfInBounds_toArray l i a,fun _ _ _ _=>List.set_cons_succ,fun _ _ _=>List.set_cons_zero⟩
theorem ah {p:Prop} (h:p):Hid p:=Lib.hid h
theorem bal {w:World} {x:Obj}:Below w.heap.size w (w.alloc x):=(Below.refl _ _).alloc (Nat.le_refl _) _
theorem bth {a b c:World} (h:Hid (Below a.heap.size a b)) (d:Below b.heap.size b c):Hid (Below a.heap.size a c):=Lib.hid (h.out.trans (d.mono h.out.size))
theorem blq {w:World} {b o:Nat} {v:Value} (h:w.cell? ⟨b,o,none⟩=some v) (hb:b<w.heap.size:=by omega) (x:BW w.heap.size w):x.out.cell? ⟨b,o,none⟩=some v:=au h x.hb hb
section
variable {P:Program} {ops:Array Oper} {Q:Exit → Act → World → Prop} {S Sp S0:World → Prop} {n m f:Nat} {oi ok:Oper} {v:Value} {ls:Array Bool} {a:Act} {w:World}
theorem WL.tk (i:Nat) {a':Act} (hS:S w) (h:WL P ops Q S n f (ls.setIfInBounds i true) a' w) (hi:ops[i]? = some oi:=by rfl) (e:lastB ops n=true:=by kernel_rfl) (b:i<n:=by decide)
  (g:Region.free .any ops ls i=true:=by decide +kernel) (j:(Region.ready .any ops ls).contains i=true:=by decide +kernel) (l:∀c a w,Q (.panic c) (a.put oi.dst v) w→Q (.panic c) a w:=by exact fun _ _ _ h=>h)
  (k:Region.wanted oi (yielded ops a.tmps)=true:=by rfl) (hy:∀w,S w→(execOp a.eval oi).run P w= .ok (.value v) w:=by intro w' d;(try dsimp only at d);go_simp;(try with_reducible rfl))
  (m:a.put oi.dst v=a':=by simp only [Act.put,nz];rfl):WL P ops Q S n (f+1) ls a w:=by
 subst m
 exact WL.take hi e b g j l k hy hS h
theorem WL.on (i:Nat) (h:wpList P ops (KK Q S fun a' w'=>WL P ops Q S n f (ls.setIfInBounds i true) a' w') [oi] a w) (hi:ops[i]? = some oi:=by rfl) (b:i<n:=by decide) (d:Region.ready .any ops ls=[i]:=by decide +kernel):WL P ops Q S n (f+1) ls a w:=WL.one hi b d h
theorem WL.tw (i k:Nat) (h:wpList P ops (KK Q S fun a' w'=>WL P ops Q S n f (ls.setIfInBounds i true) a' w') [oi] a w) (g:wpList P ops (KK Q S fun a' w'=>WL P ops Q S n f (ls.setIfInBounds k true) a' w') [ok] a w)
  (hi:ops[i]? = some oi:=by rfl) (j:ops[k]? = some ok:=by rfl) (d:i<n:=by decide) (b:k<n:=by decide) (e:Region.ready .any ops ls=[i,k]:=by decide +kernel):WL P ops Q S n (f+1) ls a w:=WL.two hi j d b e h g
theorem WL.la (n:Nat) (h:wpList P ops Q [oi] a w) (hi:ops[n]? = some oi:=by rfl) (d:ops.size=n+1:=by rfl) (b:Region.ready .any ops ls=[n]:=by decide +kernel) (hd:Region.ready .any ops (ls.setIfInBounds n true)=[]:=by decide +kernel):WL P ops Q S n 0 ls a w:=WL.last hi d b hd h
end
section
variable {P:Program} {id:Nat} {Q:Exit → Act → World → Prop} {a:Act} {w:World} {l:List Oper}
theorem wbq (h:wpQuiet P l.toArray (fun w'=> ∃x:BW w.heap.size w,w'=x.out) (fun a'=> ∀w',Below w.heap.size w w'→Q .normal a' w') l a) (hm:P.follows .mixedOrders=true:=by kernel_rfl) (b:Region.lexB .any l.toArray=true:=by kernel_rfl):(Code.region id l.toArray true).wp P Q a w:=qo hm b h
theorem wrL (n:Nat) (S:World→Prop) (h:WL P l.toArray Q S n n (Array.replicate l.toArray.size false) a w.drew) (hm:P.follows .mixedOrders=true:=by kernel_rfl) (b:lastB l.toArray n=true:=by kernel_rfl):(Code.region id l.toArray true).wp P Q a w:=CJ n S hm b h
end
def kV:List Value:=jP.map fun k=> .int .u32 (wn k)
theorem tC:kV.length=64:=by unfold kV;rw [List.length_map,lQ]
def bE (f:Nat→W32) (k:Nat):Value:=.int .u32 (wn (f k))
theorem lM (f:Nat→W32) (i:Nat) (x:W32):upd (bE f) i (.int .u32 (wn x))=bE (upd f i x):=by
 funext k;unfold upd bE;dsimp only;split<;>rfl
theorem Arr.new (w:World) (n:Nat) (v:Value) (e:TypeId):Arr (w.alloc (.cells (Array.replicate n v) e)) w.heap.size n (fun _=>v) :=
 ⟨fun k a=>by rw [World.cell?_alloc_new];simp [a],fun k a=>by rw [World.frozen?_alloc_new]⟩
theorem QJ (w:World):(sizeOf 5).run prog w= .ok 1 w:=by kernel_rfl
theorem Fj (b:Nat) (k:Nat) (g:k<16) (w:World) :
  (Instr.sliceAt 161 (.pointer (some ⟨b,9,none⟩)) (some (.int .i64 (4*(k:Int)))) (some (.int .i64 (4*(k:Int)+4))) none).run prog w= .ok (.slice (some ⟨b,9+4*k,none⟩) 4 (64-4*k)) w:=by
 have a:prog.arrayLen 161=64:=by kernel_rfl
 have d:prog.elem 161=5:=by kernel_rfl
 have e:((4*(k:Int))).toNat=4*k:=by omega
 have f:((4*(k:Int)+4)).toNat=4*k+4:=by omega
 rw [run_sliceAt_array_lh _ _ _ (by rw [a,d];exact underlying161) _ _ _ _ (by omega) (by omega) (by rw [a];omega),a,d,QJ,e,f]
 show Result.ok (slicedAt _ _ _ _ _) w=_
 unfold slicedAt
 rw [if_neg (by omega),show 4*k+4-4*k=4 from by omega,Addr.add_mid,Nat.mul_one]
theorem Arr.eight (w:World) (s:Nat→W32) (e:TypeId):Arr (w.alloc (.cells #[.int .u32 (wn (s 0)),.int .u32 (wn (s 1)),.int .u32 (wn (s 2)),.int .u32 (wn (s 3)),.int .u32 (wn (s 4)),.int .u32 (wn (s 5)),.int .u32 (wn (s 6)),.int .u32 (wn (s 7))] e)) w.heap.size 8 (bE s):=by
 refine ⟨fun k a=> ?_,fun k a=>by rw [World.frozen?_alloc_new]⟩
 rw [World.cell?_alloc_new]
 obtain h|h|h|h|h|h|h|h:k=0∨k=1∨k=2∨k=3∨k=4∨k=5∨k=6∨k=7:=by omega
 all_goals subst h;rfl
theorem Arr.Bw {w:World} {b n:Nat} {c:Nat→Value} (h:Arr w b n c) (a:List Value) (e:a.length=n):Arr (w.setCells b 0 a) b n (fun k=>a.getD k undef):=by
 refine ⟨fun k d=> ?_,fun k d=> ?_⟩
 ·have:=World.rangeAt_setCells_same w b 0 a (by rw [e];exact h.there) k (a.getD k undef) (by simp [e,d])
  simpa using this
 have:=(World.there_setCells h.there b 0 a k d).2
 simpa using this
theorem aj {P:Program} {ops:Array Oper} {rest:List Oper} {op:Oper} {a:Act} {w:World} {Q:Exit→Act→World→Prop} (e:op.guard=none) (ty:TypeId) (x y:Operand) (g:op.op= .store ty x y)
  (b o:Nat) (d:List Value) (hx:a.eval x= .pointer (some ⟨b,o,none⟩)) (hy:a.eval y= .agg d.toArray) (n:Nat) (f:d.length=n)
  (i:w.there b o n) (hi:(P.info? ty).map (·.size)=some n) (h1:∀v∈d,v.oneCell'=true)
  (h:wpList P ops Q rest (a.put op.dst undef) (w.setCells b o d)):wpList P ops Q (op::rest) a w :=
 wpList_store_mid e ty x y g b o d.toArray hx hy (by simpa [f] using i) (by simpa [f] using hi) (all_oneCell_toArray h1) (by simpa using h)
theorem aS {w w':World} {b o:Nat} (h:w.grownBy w' (some b)) (v:Value):w.grownBy (w'.setCell ⟨b,o,none⟩ v) (some b) :=
 ⟨h.os,h.tape,h.output,by simpa [World.setCell] using h.size,fun k d a=>by rw [Below.heap_setCell _ _ _ _ (fun e=>a (by rw [e]))];exact h.block k d a⟩
theorem Ee {w w' d:World} {row:Option Nat} (h:w.grownBy w' row) (hb:Below w'.heap.size w' d):w.grownBy d row :=
 ⟨hb.os.trans h.os,hb.tape.trans h.tape,hb.output.trans h.output,Nat.le_trans h.size hb.size,fun k b a=>(hb.block k (Nat.lt_of_lt_of_le b h.size)).trans (h.block k b a)⟩
theorem Dh (w:World) (n:Nat) (b:n<64):(Instr.index 280 (.agg kV.toArray) (.int .i64 (n:Int))).run prog w= .ok (.int .u32 (wn (rK n))) w:=by
 have d:(sizeOf 225).run prog w= .ok 1 w:=by kernel_rfl
 have a:(isAgg 225).run prog w= .ok false w:=by kernel_rfl
 have e:kV.toArray[n]? = some (.int .u32 (wn (rK n))):=by
  unfold kV rK
  have:n<jP.length:=by rw [lQ];exact b
  simp [this]
 have h1:(0:Int)≤n∧(n:Int)<(64:Nat):=by omega
 unfold Instr.index
 simp only [Sem.run_bind,asIntOf,Sem.run_pure,Result.andThen_ok,run_underlying underlying280,if_pos h1,d,part,a,Int.toNat_natCast,Nat.mul_one,e]
 rfl
theorem LA (b:Nat) (h:HS) (w:World) (hA:Arr w b 75 h.c) (D:w.rangeAt 3 0 kV) (af:3<w.heap.size) :
  Calls prog 244 #[.pointer (some ⟨b,0,none⟩)] w fun e w'=>e= .returned (.tuple #[])∧Arr w' b 75 (HS.c { h with st:=dK h.st h.rest,many:=0 })∧w.grownBy w' (some b):=by
 have O:b<w.heap.size:=hA.lt (by omega)
 have ab:Arr (w.alloc (.cells (Array.replicate 64 (.int .u32 0)) 280)) w.heap.size 64 (bE (gH h.rest 0 0)):=by
  rw [F9];exact Arr.new w 64 _ _
 have HK:=ah (fun (w:World) (n:Nat) (hn:n<64)=>Dh w n hn)
 have hz:(prog.info? 280).map (·.size)=some kV.length:=by rw [tC];kernel_rfl
 have HZ:=ah hz
 clear hz
 generalize kV=KV at D HK HZ
 have HA:=ah hA
 have HR:=ah D
 clear hA D
 go_enter func244,ntmps244
 go_wp2
 go_loopw [13] (fun i wr=> ∃k:Nat,k≤16∧i= .int .i64 k∧Arr wr w.heap.size 64 (bE (gH h.rest k 0))∧Below w.heap.size w wr) (fun i _=>(16-intOf i).toNat)
 case atStart=>exact ⟨0,by omega,rfl,ab,bal⟩
 obtain ⟨wo,rfl⟩:∃wo:World,wo=wr:=⟨_,rfl⟩
 obtain ⟨k,hk,rfl,H,hb⟩:=hrel
 clear ab
 by_cases ai:k<16
 ·have hd:decide ((k:Int)<16)=true:=decide_eq_true (by omega)
  have bi:=Fj b k ai
  have k0:(0:Int)≤k:=by omega
  have k1:(k:Int)<16:=by omega
  go_wp2
  go_loopw [26] (fun i wr=> ∃j:Nat,j≤4∧i= .int .i64 j∧Arr wr w.heap.size 64 (bE (gH h.rest k j))∧Below w.heap.size w wr) (fun i _=>(4-intOf i).toNat)
  case atStart=>exact ⟨0,by omega,rfl,H,hb⟩
  obtain ⟨wi,rfl⟩:∃wi:World,wi=wr:=⟨_,rfl⟩
  obtain ⟨j,hj,rfl,d,f⟩:=hrel
  clear H hb
  by_cases bb:j<4
  ·have cr:wi.cell? ⟨b,9+4*k+j,none⟩=some (.int .u8 (wn (bw (h.rest (4*k+j))))):=by
    rw [f.cell (p:=⟨b,9+4*k+j,none⟩) O,Nat.add_assoc,HA.out.cell _ (by omega),HS.Qv _ _ (by omega),oI]
   have cw:=d.cell k (by omega)
   have fw:=d.free k (by omega)
   unfold bE at cw
   have b0:=sD (bw (h.rest (4*k+j)))
   have b1:=oV (h.rest (4*k+j))
   have x0:=sD (gH h.rest k j k)
   have x1:=vZ (gH h.rest k j k)
   have j0:(0:Int)≤j:=by omega
   have j1:(j:Int)<4:=by omega
   have HN:=ah (d.set k (by omega) (.int .u32 (wn (gH h.rest k j k <<< 8 ||| bw (h.rest (4*k+j))))))
   have ae:decide ((j:Int)<4)=true:=decide_eq_true (by omega)
   clear d
   go_wp2
   go_roundw
   case rel =>
    rw [Qr,Oe]
    refine ⟨j+1,by omega,by go_num,?_,f.setCell (Nat.le_refl _) _⟩
    have:=HN.out
    rw [lM,Gb] at this
    exact this
   case measure=>simp [intOf];omega
  obtain rfl:j=4:=by omega
  go_wp2
  go_roundw
  case rel=>exact ⟨k+1,by omega,by go_num,by rw [←Ga];exact d,f⟩
  case measure=>simp [intOf];omega
 obtain rfl:k=16:=by omega
 obtain ⟨w1,rfl⟩:∃w1:World,w1=wo:=⟨_,rfl⟩
 go_wp2
 go_loopw [6] (fun i wr=> ∃n:Nat,n≤48∧i= .int .i64 (16+n:Nat)∧Arr wr w.heap.size 64 (bE (aT h.rest n))∧Below w.heap.size w wr) (fun i _=>(64-intOf i).toNat)
 case atStart=>exact ⟨0,by omega,rfl,H,hb⟩
 obtain ⟨wi,rfl⟩:∃wi:World,wi=wr:=⟨_,rfl⟩
 obtain ⟨n,hn,rfl,d,f⟩:=hrel
 clear H hb
 generalize hm:16+n=m
 by_cases K:n<48
 ·have c2:=d.cell (m-2) (by omega)
  have P:=d.cell (m-7) (by omega)
  have aa:=d.cell (m-15) (by omega)
  have ad:=d.cell (m-16) (by omega)
  have cm:=d.cell m (by omega)
  have fm:=d.free m (by omega)
  have HN:=ah (d.set m (by omega) (.int .u32 (wn (DR (aT h.rest n) m))))
  have v:w.heap.size<wi.heap.size:=d.lt (by omega)
  unfold bE at c2 P aa ad cm
  have m0:(16:Int)≤m:=by omega
  have m1:(m:Int)<64:=by omega
  have ae:decide ((m:Int)<64)=true:=decide_eq_true (by omega)
  have z:=ah d
  clear d
  have a2:IntKind.i64.wrap ((m:Int)-2)=(m:Int)-2:=IntWalk.i64_in _ (by omega)
  have t2:((m:Int)-2).toNat=m-2:=by omega
  have z2:(2:Int)≤m:=by omega
  have y2:(m:Int)-2<64:=by omega
  have a7:IntKind.i64.wrap ((m:Int)-7)=(m:Int)-7:=IntWalk.i64_in _ (by omega)
  have t7:((m:Int)-7).toNat=m-7:=by omega
  have z7:(7:Int)≤m:=by omega
  have y7:(m:Int)-7<64:=by omega
  have bj:IntKind.i64.wrap ((m:Int)-15)=(m:Int)-15:=IntWalk.i64_in _ (by omega)
  have bf:((m:Int)-15).toNat=m-15:=by omega
  have a9:(15:Int)≤m:=by omega
  have be:(m:Int)-15<64:=by omega
  have a8:IntKind.i64.wrap ((m:Int)-16)=(m:Int)-16:=IntWalk.i64_in _ (by omega)
  have bd:((m:Int)-16).toNat=m-16:=by omega
  have a6:(16:Int)≤m:=by omega
  have bh:(m:Int)-16<64:=by omega
  have EA:=nN
  have a0:∀w,Calls prog 278 #[.int .u32 (wn (aT h.rest n (m-2))),.int .i64 17,.int .i64 19,.int .i64 10] w fun e w'=>e= .returned (.int .u32 (wn (jM (aT h.rest n (m-2)) 17 19 10)))∧Below w.heap.size w w':=fun w=>CW (aT h.rest n (m-2)) 17 19 10 (by omega) (by omega) (by omega) (by omega) (by omega) w
  have aE:∀w,Calls prog 278 #[.int .u32 (wn (aT h.rest n (m-15))),.int .i64 7,.int .i64 18,.int .i64 3] w fun e w'=>e= .returned (.int .u32 (wn (jM (aT h.rest n (m-15)) 7 18 3)))∧Below w.heap.size w w':=fun w=>CW (aT h.rest n (m-15)) 7 18 3 (by omega) (by omega) (by omega) (by omega) (by omega) w
  go_wp2
  refine bg 23 (by kernel_rfl) (by kernel_rfl) ?_
  simp only [List.take_succ_cons,List.take_zero,List.drop_succ_cons,List.drop_zero]
  have q:=blq c2
  have r:=blq P
  have t:=blq aa
  have F:=blq ad
  repeat (go_big_quiet_step ((first|(go_at_call 278;with_reducible exact aA (a0 _))|(go_at_call 278;with_reducible exact aA (aE _)))))
  refine wpQuiet_nil ?_
  intro E a
  clear q r t F
  have bc:=au cm a v
  have a4:E.frozen? ⟨w.heap.size,m,none⟩=false:=by rw [a.frozen (p:=⟨w.heap.size,m,none⟩) v];exact fm
  go_wp2
  go_roundw
  case rel =>
   have h1:=(z.out.below a v).set m (by omega) (.int .u32 (wn (DR (aT h.rest n) m)))
   refine ⟨n+1,by omega,by rw [←hm];go_num,?_,(f.trans (a.mono f.size)).setCell (Nat.le_refl _) _⟩
   rw [lM,←hm] at h1
   rw [←hm]
   exact h1
  case measure=>simp [intOf];omega
 obtain rfl:n=48:=by omega
 obtain rfl:m=64:=by omega
 have v:w.heap.size<wi.heap.size:=d.lt (by omega)
 have z:=ah d
 have l:=HA.out.below f O
 have c0:=l.cell (1+0) (by omega)
 have c1:=l.cell (1+1) (by omega)
 have c2:=l.cell (1+2) (by omega)
 have c3:=l.cell (1+3) (by omega)
 have c4:=l.cell (1+4) (by omega)
 have c5:=l.cell (1+5) (by omega)
 have c6:=l.cell (1+6) (by omega)
 have P:=l.cell (1+7) (by omega)
 rw [HS.Qu _ _ (by omega)] at c0 c1 c2 c3 c4 c5 c6 P
 simp only [Nat.reduceAdd] at c0 c1 c2 c3 c4 c5 c6 P
 clear l d
 have V:wi.rangeAt 3 0 KV:=ay HR.out f af
 go_wp2_with (refine wpList_load_mid rfl 280 _ rfl 3 0 rfl _ _ (World.rangeAt_alloc V _) underlying280 rfl HZ.out ?_)
 clear V c0 c1 c2 c3 c4 c5 c6 P
 generalize H:aT h.rest 48=W at z
 have aw:=ah H
 clear H
 go_loopw [73] (fun i wr=> ∃n:Nat,n≤64∧i= .int .i64 n∧Arr wr wi.heap.size 8 (bE (bB W h.st n))∧Below wi.heap.size wi wr) (fun i _=>(64-intOf i).toNat)
 case atStart=>exact ⟨0,by omega,rfl,Arr.eight _ _ _,bal⟩
 obtain ⟨Q,rfl⟩:∃Q:World,Q=wr:=⟨_,rfl⟩
 obtain ⟨n,hn,rfl,hS,B⟩:=hrel
 have o:wi.heap.size<Q.heap.size:=hS.lt (by omega)
 have A:=ah hS
 by_cases K:n<64
 ·have hk:=fun w=>HK.out w n K
  have cw:=(z.out.below B v).cell n (by omega)
  have s0:=hS.cell 0 (by omega)
  have s1:=hS.cell 1 (by omega)
  have s2:=hS.cell 2 (by omega)
  have s3:=hS.cell 3 (by omega)
  have s4:=hS.cell 4 (by omega)
  have S:=hS.cell 5 (by omega)
  have Y:=hS.cell 6 (by omega)
  have s7:=hS.cell 7 (by omega)
  unfold bE at cw s0 s1 s2 s3 s4 S Y s7
  have n0:(0:Int)≤n:=by omega
  have n1:(n:Int)<64:=by omega
  have ao:decide ((n:Int)<64)=true:=decide_eq_true (by omega)
  clear hS
  have EA:=nN
  have EX:=tQ
  have EN:=Le
  have EC:=Bh
  generalize D:bB W h.st n=R at s0 s1 s2 s3 s4 S Y s7 A
  have I:=ah D
  clear D
  have ac:∀w,Calls prog 279 #[.int .u32 (wn (R 4)),.int .i64 6,.int .i64 11,.int .i64 25] w fun e w'=>e= .returned (.int .u32 (wn (ni (R 4) 6 11 25)))∧Below w.heap.size w w':=fun w=>wV (Db (R 4) 6 11 25 (by omega) (by omega) (by omega) (by omega) (by omega) (by omega) w)
  have X:∀w,Calls prog 279 #[.int .u32 (wn (R 0)),.int .i64 2,.int .i64 13,.int .i64 22] w fun e w'=>e= .returned (.int .u32 (wn (ni (R 0) 2 13 22)))∧Below w.heap.size w w':=fun w=>wV (Db (R 0) 2 13 22 (by omega) (by omega) (by omega) (by omega) (by omega) (by omega) w)
  go_wp2
  refine wbq ?_
  have q:=blq s4
  have r:=blq S
  have t:=blq Y
  have F:=blq s7
  have az:=blq cw
  repeat (go_big_quiet_step ((go_at_call 279;with_reducible exact aA (ac _))))
  refine wpQuiet_nil ?_
  intro E a
  clear q r t F az
  have q0:=au s0 a o
  have q1:=au s1 a o
  have q2:=au s2 a o
  have q3:=au s3 a o
  have q4:=au s4 a o
  have q5:=au S a o
  have q6:=au Y a o
  have s:wi.heap.size<E.heap.size:=by have:=a.size;omega
  obtain ⟨wa,rfl⟩:∃wa:World,wa=E:=⟨_,rfl⟩
  have C:=a
  clear a
  go_wp2
  refine wbq ?_
  have q:=blq q0
  have r:=blq q1
  have t:=blq q2
  repeat (go_big_quiet_step ((go_at_call 279;with_reducible exact aA (X _))))
  refine wpQuiet_nil ?_
  intro E a
  clear q r t
  obtain ⟨wb,rfl⟩:∃wb:World,wb=E:=⟨_,rfl⟩
  have p0:=au q0 a s
  have p1:=au q1 a s
  have p2:=au q2 a s
  have p3:=au q3 a s
  have p4:=au q4 a s
  have p5:=au q5 a s
  have p6:=au q6 a s
  clear q0 q1 q2 q3 q4 q5 q6 s0 s1 s2 s3 s4 S Y s7 ac X cw hk
  have ag:Below wi.heap.size wi wb:=B.trans ((C.trans (a.mono C.size)).mono B.size)
  have Z:=ah (A.out.below (C.trans (a.mono C.size)) o)
  have al:=Z.out.there
  rw [nN,nN]
  have eT:R 7+ni (R 4) 6 11 25+(R 4 &&& R 5 ^^^ ~~~R 4 &&& R 6)+rK n+W n=tW R (rK n) (W n):=rfl
  have eU:ni (R 0) 2 13 22+(R 0 &&& R 1 ^^^ R 0 &&& R 2 ^^^ R 1 &&& R 2)=uW R:=rfl
  rw [eT,eU]
  clear eT eU
  generalize hT:tW R (rK n) (W n)=T
  generalize hU:uW R=U
  have ax:=ah hT
  have ap:=ah hU
  clear hT hU
  have h8:(prog.info? 226).map (·.size)=some 8:=by kernel_rfl
  go_wp2_with (refine aj rfl 226 _ _ rfl wi.heap.size 0 [.int .u32 (wn (T+U)),.int .u32 (wn (R 0)),.int .u32 (wn (R 1)),.int .u32 (wn (R 2)),.int .u32 (wn (R 3+T)),.int .u32 (wn (R 4)),.int .u32 (wn (R 5)),.int .u32 (wn (R 6))] ?x1 ?x2 8 ?x3 ?x4 ?x5 ?h1 ?_)
  case x1=>rfl
  case x2=>go_simp
  case x3=>rfl
  case x4=>exact al
  case x5=>exact h8
  case h1=>simp [Value.oneCell']
  go_wp2
  go_roundw
  case rel =>
   refine ⟨n+1,by omega,by go_num,?_,?_⟩
   ·have h1:=Arr.Bw Z.out [.int .u32 (wn (T+U)),.int .u32 (wn (R 0)),.int .u32 (wn (R 1)),.int .u32 (wn (R 2)),.int .u32 (wn (R 3+T)),.int .u32 (wn (R 4)),.int .u32 (wn (R 5)),.int .u32 (wn (R 6))] rfl
    refine Arr.congr h1 fun k hk=> ?_
    show _=Value.int .u32 (wn (stepW (bB W h.st n) (rK n) (W n) k))
    rw [I.out]
    unfold stepW
    rw [ax.out,ap.out]
    obtain h|h|h|h|h|h|h|h:k=0∨k=1∨k=2∨k=3∨k=4∨k=5∨k=6∨k=7:=by omega
    all_goals subst h;rfl
   exact below_setCells _ (Nat.le_refl _) _ _ _ ag
  case measure=>simp [intOf];omega
 obtain rfl:n=64:=by omega
 have y:=A.out
 rw [show bB W h.st 64=fun k=>bB W h.st 64 k from rfl] at y
 generalize D:bB W h.st 64=R at y
 have I:=ah D
 have an:=ah y
 have M:Below w.heap.size w Q:=f.trans (B.mono f.size)
 have HG:=ah (aC M (some b))
 have am:=ah (HA.out.below M O)
 clear hS D y A
 have a3:b<Q.heap.size:=by have:=M.size;omega
 go_wp2
 go_loopw [144] (fun i wr=> ∃n:Nat,n≤8∧i= .int .i64 n∧Arr wr b 75 (HS.c { h with st:=qI h.st R n })∧Arr wr wi.heap.size 8 (bE R)∧w.grownBy wr (some b)) (fun i _=>(8-intOf i).toNat)
 case atStart=>exact ⟨0,by omega,rfl,by rw [FN];exact am.out,an.out,HG.out⟩
 obtain ⟨wk,rfl⟩:∃wk:World,wk=wr:=⟨_,rfl⟩
 obtain ⟨n,hn,rfl,g,u,x⟩:=hrel
 have L:b<wk.heap.size:=g.lt (by omega)
 have ar:wi.heap.size<wk.heap.size:=u.lt (by omega)
 have a1:b<wi.heap.size:=by have:=f.size;omega
 by_cases K:n<8
 ·have c1:=g.cell (1+n) (by omega)
  have f1:=g.free (1+n) (by omega)
  rw [HS.Qu _ _ (by omega)] at c1
  have J:qI h.st R n n=h.st n:=by unfold qI;rw [if_neg (by omega)]
  dsimp only at c1
  rw [J] at c1
  have c2:=u.cell n (by omega)
  unfold bE at c2
  have EA:=nN
  have n0:(0:Int)≤n:=by omega
  have n1:(n:Int)<8:=by omega
  have ao:decide ((n:Int)<8)=true:=decide_eq_true (by omega)
  have N:=ah g
  have aq:=ah u
  have G:=ah x
  clear g u x J
  go_wp2
  refine bg 13 (by kernel_rfl) (by kernel_rfl) ?_
  simp only [List.take_succ_cons,List.take_zero,List.drop_succ_cons,List.drop_zero]
  have q:=blq c1
  have r:=blq c2
  repeat (go_big_quiet_step (fail))
  refine wpQuiet_nil ?_
  intro E a
  clear q r
  have a5:=au c1 a L
  have ba:E.frozen? ⟨b,1+n,none⟩=false:=by rw [a.frozen (p:=⟨b,1+n,none⟩) L];exact f1
  clear c1 f1 c2
  go_wp2
  go_roundw
  case rel =>
   have h1:=(N.out.below a L).set (1+n) (by omega) (.int .u32 (wn (h.st n+R n)))
   rw [HS.PV _ _ (by omega)] at h1
   dsimp only at h1
   rw [FP] at h1
   refine ⟨n+1,by omega,by go_num,h1,?_,aS (Ee G.out a) _⟩
   exact (aq.out.below a ar).far (by show b≠_;omega) _
  case measure=>simp [intOf];omega
 obtain rfl:n=8:=by omega
 have c1:=g.cell 73 (by omega)
 have f1:=g.free 73 (by omega)
 have N:=ah g
 have G:=ah x
 clear g u x
 go_wp2
 go_end0
 refine ⟨rfl,?_,aS G.out _⟩
 have h1:=N.out.set 73 (by omega) (.int .i64 ((0:Nat):Int))
 rw [HS.CQ] at h1
 refine h1.congr fun k hk=> ?_
 unfold HS.c
 dsimp only
 by_cases e0:k=0
 ·rw [if_pos e0,if_pos e0]
 rw [if_neg e0,if_neg e0]
 by_cases J:k<9
 ·rw [if_pos J,if_pos J]
  unfold qI dK
  rw [if_pos (by omega),aw.out,I.out]
 rw [if_neg J,if_neg J]
def Nh:List W32:=[0x6a09e667#32,0xbb67ae85#32,0x3c6ef372#32,0xa54ff53a#32,0x510e527f#32,0x9b05688c#32,0x1f83d9ab#32,0x5be0cd19#32]
def jf (k:Nat):W32:=Nh.getD k 0
def lY:List Value:=[.int .u32 (wn (jf 0)),.int .u32 (wn (jf 1)),.int .u32 (wn (jf 2)),.int .u32 (wn (jf 3)),.int .u32 (wn (jf 4)),.int .u32 (wn (jf 5)),.int .u32 (wn (jf 6)),.int .u32 (wn (jf 7))]
structure Laid (w:World):Prop where
 rounds:w.rangeAt 3 0 kV
 first:w.rangeAt 2 0 lY
 lt:5 ≤ w.heap.size
theorem Laid.below {w w':World} (h:Laid w) (hb:Below w.heap.size w w'):Laid w':=by
 have:=h.lt;have:=hb.size
 exact ⟨ay h.rounds hb (by omega),ay h.first hb (by omega),by omega⟩
theorem oM {w w':World} {b d o:Nat} {cs:List Value} (h:w.rangeAt b o cs) (e:w.grownBy w' (some d)) (a:b≠d):w'.rangeAt b o cs:=fun j v f =>
 e.cell (h j v f) (by simpa using a)
theorem Laid.grown {w w':World} {b:Nat} (h:Laid w) (a:w.grownBy w' (some b)) (hb:5≤b):Laid w' :=
 ⟨oM h.rounds a (by omega),oM h.first a (by omega),Nat.le_trans h.lt a.size⟩
theorem eX {a w w':World} {b:Nat} (h:a.grownBy w (some b)) (k:w.grownBy w' (some b)):a.grownBy w' (some b) :=
 ⟨k.os.trans h.os,k.tape.trans h.tape,k.output.trans h.output,Nat.le_trans h.size k.size,fun i hi d=>(k.block i (Nat.lt_of_lt_of_le hi h.size) d).trans (h.block i hi d)⟩
def HS.begin (h:HS):HS:=if h.begun then h else { h with begun:=true,st:=jf }
def HS.put (h:HS) (x:UInt8):HS :=
 if h.many+1=64 then { h with st:=dK h.st (upd h.rest h.many x),rest:=upd h.rest h.many x,many:=0 } else { h with rest:=upd h.rest h.many x,many:=h.many+1 }
theorem HS.xH (h:HS) (x:UInt8) (hm:h.many<64):(h.put x).many<64:=by
 unfold HS.put;split
 ·show 0<64;omega
 show h.many+1<64;omega
theorem vH (b:Nat) (h:HS) (x:UInt8) (w:World) (hA:Arr w b 75 h.c) (hm:h.many<64) (B:Laid w) (A:5≤b) :
  Calls prog 217 #[.pointer (some ⟨b,0,none⟩),.int .u8 (x.toNat:Int)] w fun e w'=>e= .returned (.tuple #[])∧Arr w' b 75 (h.put x).c∧w.grownBy w' (some b):=by
 have d:b<w.heap.size:=hA.lt (by omega)
 have c1:=hA.cell 73 (by omega)
 rw [HS.Gy] at c1
 have c2:=hA.cell (9+h.many) (by omega)
 have t:=hA.free (9+h.many) (by omega)
 have C:=hA.free 73 (by omega)
 have G:(0:Int)≤h.many:=by omega
 have I:(h.many:Int)<64:=by omega
 have H:=ah hA
 clear hA
 generalize n:h.many=m at hm c1 c2 t G I
 have E:=ah n
 have F:=ah B
 clear n B
 go_enter func217,ntmps217
 go_wp2
 refine bg 9 (by kernel_rfl) (by kernel_rfl) ?_
 simp only [List.take_succ_cons,List.take_zero,List.drop_succ_cons,List.drop_zero]
 have u:=blq c1
 repeat (go_big_quiet_step (fail))
 refine wpQuiet_nil ?_
 intro D a
 clear u
 have g1:=au c1 a d
 have g2:=au c2 a d
 have k1:D.frozen? ⟨b,73,none⟩=false:=by rw [a.frozen (p:=⟨b,73,none⟩) d];exact C
 have k2:D.frozen? ⟨b,9+m,none⟩=false:=by rw [a.frozen (p:=⟨b,9+m,none⟩) d];exact t
 clear c1 c2 C t
 have i:=(H.out.below a d).set (9+m) (by omega) (.int .u8 (x.toNat:Int))
 rw [HS.Lh _ _ (by omega)] at i
 have g:=i.set 73 (by omega) (.int .i64 ((m+1:Nat):Int))
 rw [HS.CQ] at g
 dsimp only at g
 have q:=ah g
 have z:=ah (aS (aS (aC a (some b)) (o:=9+m) (.int .u8 (x.toNat:Int))) (o:=73) (.int .i64 ((m+1:Nat):Int)))
 clear i g
 by_cases f:m+1=64
 ·have l:((m:Int)+1==64)=true:=by rw [beq_iff_eq];omega
  have y:=ah f
  clear f
  go_wp2_with fail
  have j:Laid _:=F.out.grown z.out A
  refine (LA b _ _ q.out j.rounds (by have:=j.lt;omega)).mono ?_
  rintro e w' ⟨rfl,r,k⟩
  have s:=ah r
  have v:=ah (eX z.out k)
  clear r k j
  go_wp2
  go_end0
  refine ⟨rfl,?_,v.out⟩
  unfold HS.put
  rw [E.out,if_pos y.out]
  exact s.out
 have l:((m:Int)+1==64)=false:=by rw [beq_eq_false_iff_ne];omega
 have y:=ah f
 clear f
 go_wp2
 go_end0
 refine ⟨rfl,?_,z.out⟩
 unfold HS.put
 rw [E.out,if_neg y.out]
 exact q.out
theorem Arr.setCells {w:World} {b n:Nat} {c:Nat→Value} (h:Arr w b n c) (o:Nat) (a:List Value) (g:o+a.length≤n) :
  Arr (w.setCells b o a) b n (fun k=>if o≤k∧k<o+a.length then a.getD (k-o) undef else c k):=by
 have e:w.there b o a.length:=fun j i=>⟨by rw [h.cell (o+j) (by omega)];rfl,h.free _ (by omega)⟩
 refine ⟨fun k d=> ?_,fun k d=> ?_⟩
 ·split
  ·rename_i f
   have:=World.rangeAt_setCells_same w b o a e (k-o) (a.getD (k-o) undef) (by simp [show k-o<a.length from by omega])
   rw [show o+(k-o)=k from by omega] at this
   exact this
  rw [World.cell?_setCells_out b a o w ⟨b,k,none⟩ (fun _ _=>by show k<o∨o+a.length≤k;omega)]
  exact h.cell k d
 rw [World.frozen?_setCells];exact h.free k d
theorem bA {w:World} {b:Nat} (a:List Value):∀(o:Nat) (w':World),w.grownBy w' (some b)→w.grownBy (w'.setCells b o a) (some b):=by
 induction a with
 | nil=>intro o w' h;exact h
 | cons v a ih=>intro o w' h;rw [World.setCells];exact ih _ _ (aS h v)
theorem HS.Pj (h:HS) (hb:h.begun=false):∀k,k<75→(if 1≤k∧k<1+lY.length then lY.getD (k-1) undef else upd h.c 0 (.bool true) k)=h.begin.c k:=by
 intro k _
 have d:lY.length=8:=rfl
 have e:h.begin= { h with begun:=true,st:=jf }:=by unfold HS.begin;rw [hb];rfl
 rw [d,e]
 unfold upd HS.c
 dsimp only
 by_cases a:k=0
 ·subst a;rfl
 by_cases b:k<9
 ·rw [if_pos (by omega),if_neg a,if_pos b]
  obtain h|h|h|h|h|h|h|h:k=1∨k=2∨k=3∨k=4∨k=5∨k=6∨k=7∨k=8:=by omega
  all_goals subst h;rfl
 rw [if_neg (by omega),if_neg a,if_neg a,if_neg a,if_neg b,if_neg b]
theorem Ba (b:Nat) (h:HS) (w:World) (hA:Arr w b 75 h.c) (l:Laid w) :
  Calls prog 216 #[.pointer (some ⟨b,0,none⟩)] w fun e w'=>e= .returned (.tuple #[])∧Arr w' b 75 h.begin.c∧w.grownBy w' (some b):=by
 have i:=hA.cell 0 (by omega)
 rw [HS.Pe] at i
 have r:=hA.free 0 (by omega)
 cases hb:h.begun with
 | true =>
  rw [hb] at i
  have p:=ah hA
  have k:=ah hb
  clear hA hb
  go_enter func216,ntmps216
  go_wp2
  go_end0
  refine ⟨rfl,?_,aC (Below.refl _ _) _⟩
  unfold HS.begin
  rw [k.out,if_pos rfl]
  exact p.out
 | false =>
  rw [hb] at i
  have k:=ah hb
  have a:=hA.set 0 (by omega) (.bool true)
  have d:(w.setCell ⟨b,0,none⟩ (.bool true)).there b (0+1) 8:=fun j s=>⟨by rw [a.cell _ (by omega)];rfl,a.free _ (by omega)⟩
  have f:=a.setCells 1 lY (by show 1+8≤75;omega)
  have g:=ah f
  have q:=ah (bA lY 1 _ (aS (aC (Below.refl _ w) (some b)) (o:=0) (.bool true)))
  have hF:=l.first
  have m:(prog.info? 226).map (·.size)=some 8:=by kernel_rfl
  have n:=ah d
  clear hA hb a f l d
  go_enter func216,ntmps216
  go_wp2_with (first|(refine wpList_load_mid rfl 226 _ rfl 2 0 rfl lY _ hF underlying226 rfl m ?_)|(refine aj rfl 226 _ _ rfl b 1 lY ?x1 ?x2 8 ?x3 ?x4 ?x5 ?h1 ?_))
  case x1=>rfl
  case x2=>rfl
  case x3=>rfl
  case x4=>exact n.out
  case x5=>exact m
  case h1=>unfold lY;simp [Value.oneCell']
  go_wp2
  go_end0
  exact ⟨rfl,g.out.congr (HS.Pj h k.out),q.out⟩
def HS.feed (h:HS) (l:List UInt8):HS:=l.foldl HS.put h
theorem HS.Km (h:HS) (s:ByteArray) (k:Nat) (a:k<s.size):h.feed (s.data.toList.take (k+1))=(h.feed (s.data.toList.take k)).put s[k]:=by
 unfold HS.feed
 rw [List.take_succ_eq_append_getElem (by simpa using a),List.foldl_append];rfl
theorem HS.oq (h:HS) (l:List UInt8) (hm:h.many<64):(h.feed l).many<64:=by
 unfold HS.feed
 induction l generalizing h with
 | nil=>exact hm
 | cons x l ih=>exact ih _ (HS.xH _ _ hm)
theorem HS.Aj (h:HS) (x:UInt8):(h.put x).taken=h.taken:=by unfold HS.put;split<;>rfl
theorem HS.pW (h:HS) (l:List UInt8):(h.feed l).taken=h.taken:=by
 unfold HS.feed
 induction l generalizing h with
 | nil=>rfl
 | cons x l ih=>exact (ih _).trans (HS.Aj _ _)
theorem HS.l7 (h:HS):h.begin.many=h.many:=by unfold HS.begin;split<;>rfl
theorem HS.uN (h:HS):h.begin.taken=h.taken:=by unfold HS.begin;split<;>rfl
def HS.w1 (h:HS) (s:ByteArray) (k:Nat):HS:=if k=0 then h.begin else { h.begin.feed s.data.toList with taken:=(s.size:Int) }
theorem II (b p q cap:Nat) (h:HS) (s:ByteArray) (w:World) (hA:Arr w b 75 h.c) (L:Laid w) (x:5≤b) (J:w.cell? ⟨p,q,none⟩=some (.string s)) (K:p≠b) (N:h.taken=0) (hm:h.many<64) (Y:s.size≤1000000000) :
  Calls prog 166 #[.pointer (some ⟨b,0,none⟩),.slice (some ⟨p,q,none⟩) 1 cap] w fun e w'=>e= .returned (.tuple #[])∧Arr w' b 75 (h.w1 s 1).c∧w.grownBy w' (some b):=by
 have V:=ah (fun w' (h1:Arr w' b 75 h.c) (S:Laid w')=>Ba b h w' h1 S)
 have U:=ah N
 have W:=ah hm
 have T:=ah hA
 have M:=ah L
 clear hA L N hm
 go_enter func166,ntmps166
 go_wp2_with fail
 refine (V.out w T.out M.out).mono ?_
 rintro e w1 ⟨rfl,t,l⟩
 have I:=l.cell J (by simpa using K)
 have H:=ah t
 have G:=ah l
 clear t l
 go_wp2
 go_loopw [13] (fun i wr=> ∃k:Nat,k≤1∧i= .int .i64 k∧Arr wr b 75 (h.w1 s k).c∧w.grownBy wr (some b)) (fun i _=>(1-intOf i).toNat)
 case atStart=>exact ⟨0,by omega,rfl,H.out,G.out⟩
 obtain ⟨O,rfl⟩:∃O:World,O=wr:=⟨_,rfl⟩
 obtain ⟨k,R,rfl,g,f⟩:=hrel
 by_cases z:k<1
 ·have m:=ah (show k=0 by omega)
  have P:decide (k<1)=true:=decide_eq_true z
  have Q:decide ((k:Int)<1)=true:=decide_eq_true (by omega)
  have k0:(0:Int)≤k:=by omega
  have k1:(k:Int)<1:=by omega
  have u:(⟨p,q+k,none⟩:Addr)=⟨p,q,none⟩:=by rw [m.out];rfl
  have C:=f.cell J (by simpa using K)
  rw [←u] at C
  have o:=ah g
  have r:=ah f
  clear g f I R z u
  go_wp2
  go_loopw [19] (fun i wr=> ∃j:Nat,j≤s.size∧i= .int .i64 j∧Arr wr b 75 (h.begin.feed (s.data.toList.take j)).c∧w.grownBy wr (some b)) (fun i _=>(s.size-intOf i).toNat)
  case atStart=>exact ⟨0,by omega,rfl,by have:=o.out;rw [m.out] at this;exact this,r.out⟩
  obtain ⟨wi,rfl⟩:∃wi:World,wi=wr:=⟨_,rfl⟩
  obtain ⟨j,hj,rfl,a,d⟩:=hrel
  by_cases E:j<s.size
  ·have X:=ah (vH b _ s[j] wi a (HS.oq _ _ (by rw [HS.l7];exact W.out)) (M.out.grown d x) x)
   have n:=ah d
   have A:=ah (HS.Km h.begin s j E)
   clear a d
   go_wp2_with fail
   refine X.out.mono ?_
   rintro e w2 ⟨rfl,y,v⟩
   have D:=ah y
   have F:=ah (eX n.out v)
   clear y v
   go_wp2
   go_roundw
   case rel=>exact ⟨j+1,by omega,by go_num,by rw [A.out];exact D.out,F.out⟩
   case measure=>simp [intOf];omega
  obtain rfl:j=s.size:=by omega
  rw [show s.data.toList.take s.size=s.data.toList from List.take_of_length_le (by simp)] at a
  have c1:=a.cell 74 (by omega)
  have Z:=a.free 74 (by omega)
  rw [HS.Im,HS.pW,HS.uN,U.out] at c1
  have B:=ah a
  have n:=ah d
  clear a d
  go_wp2
  go_roundw
  case rel =>
   refine ⟨k+1,by omega,by go_num,?_,aS n.out _⟩
   rw [m.out]
   exact (B.out.set 74 (by omega) (.int .u64 (s.size:Int))).congr (HS.IU _ _)
  case measure=>simp [intOf];omega
 obtain rfl:k=1:=by omega
 have o:=ah g
 have r:=ah f
 clear g f
 go_wp2
 go_end0
 exact ⟨rfl,o.out,r.out⟩
def be8 (T k:Nat):UInt8:=UInt8.ofNat (T/2^(56-8*k))
def iR (T:Nat):List UInt8:=(List.range 8).map (be8 T)
def stB (st:Nat→W32) (j:Nat):UInt8:=UInt8.ofNat ((st (j/4)).toNat/2^(24-8*(j%4)))
def mO (m:Nat):Nat:=(120-m)%64
def HS.ended (h:HS):HS:=(((h.begin.put 128).feed (List.replicate (mO (h.begin.put 128).many) 0))).feed (iR (8*h.taken.toNat))
def idV (x:List UInt8):Value:=.agg (x.map fun b=>Value.int .u8 (b.toNat:Int)).toArray
def HS.sum (h:HS):List UInt8:=(List.range 32).map (stB h.ended.st)
theorem rz (h:HS) (l m:List UInt8):h.feed (l++m)=(h.feed l).feed m:=by unfold HS.feed;rw [List.foldl_append]
theorem nL (h:HS) (l:List UInt8) (x:UInt8):h.feed (l++[x])=(h.feed l).put x:=rz h l [x]
theorem lS (h:HS) (x:UInt8) (hm:h.many<64):(h.put x).many=(h.many+1)%64:=by
 unfold HS.put;split
 ·rename_i h1;rw [h1]
 rename_i h1;show h.many+1=_;rw [Nat.mod_eq_of_lt (by omega)]
theorem oU (h:HS) (hm:h.many<64):∀l:List UInt8,(h.feed l).many=(h.many+l.length)%64:=by
 intro l
 induction l generalizing h with
 | nil=>show h.many=_;rw [List.length_nil,Nat.add_zero,Nat.mod_eq_of_lt hm]
 | cons x l ih =>
  show ((h.put x).feed l).many=_
  rw [ih _ (HS.xH h x hm),lS h x hm,List.length_cons];omega
theorem KS (T k:Nat) (b:k<8):(iR T).take (k+1)=(iR T).take k++[be8 T k]:=by
 have a:(iR T).length=8:=by simp [iR]
 rw [List.take_succ_eq_append_getElem (by omega)]
 congr 1
 simp [iR]
theorem wrap_u8' (n:Int):IntKind.u8.wrap n=n%256:=by simp [IntKind.wrap,IntKind.signed,IntKind.bits]
theorem GX (n:Nat):((UInt8.ofNat n).toNat:Int)=(n:Int)%256:=by
 rw [UInt8.toNat_ofNat'];omega
theorem jN (t e:TypeId) (len:Nat) (hu:prog.underlying t=some (.array len e)) (b:∀w,(sizeOf e).run prog w= .ok 1 w) (g:∀w,(isAgg e).run prog w= .ok false w)
  (a:List Value) (w:World) (n:Nat) (h:n<len) (v:Value) (f:a[n]? = some v):(Instr.index t (.agg a.toArray) (.int .i64 (n:Int))).run prog w= .ok v w:=by
 have h1:(0:Int)≤n∧(n:Int)<len:=by omega
 have d:a.toArray[n]? = some v:=by simpa using f
 unfold Instr.index
 simp only [Sem.run_bind,asIntOf,Sem.run_pure,Result.andThen_ok,run_underlying hu,if_pos h1,b w,part,g w,Int.toNat_natCast,Nat.mul_one,d]
 rfl
theorem QB {a b:Int} (h:a=b):Value.int .i64 a= .int .i64 b:=by rw [h]
def Hf (c:Nat) (w:World):Nat:=match w.cell? ⟨c,73,none⟩ with
 | some (.int _ m)=>mO m.toNat
 | _=>0
theorem Arr.ofList (w:World) (a:List Value) (e:TypeId):Arr (w.alloc (.cells a.toArray e)) w.heap.size a.length (fun k=>a.getD k undef) :=
 ⟨fun k b=>by rw [World.cell?_alloc_new];simp [b],fun k b=>by rw [World.frozen?_alloc_new]⟩
def dJ:HS:={ begun:=false,st:=fun _=>0,rest:=fun _=>0,many:=0,taken:=0 }
theorem Arr.dJ (w:World) (e:TypeId):Arr (w.alloc (.cells ((List.range 75).map dJ.c).toArray e)) w.heap.size 75 Go.Proofs.YtlhcoanbhnphgaaGreatDoor.dJ.c:=by
 have h:=Arr.ofList w ((List.range 75).map Go.Proofs.YtlhcoanbhnphgaaGreatDoor.dJ.c) e
 rw [List.length_map,List.length_range] at h
 exact h.congr fun k a=>by simp [a]
def zC (st:Nat→W32) (n k:Nat):Value:=if k<4*n then .int .u8 ((stB st k).toNat:Int) else .int .u8 0
theorem Jw (st:Nat→W32):zC st 0=fun _=> .int .u8 0:=by funext k;unfold zC;rw [if_neg (by omega)]
theorem G5 (st:Nat→W32) (n i:Nat) (hi:i<4):((stB st (4*n+i)).toNat:Int)=wn (st n)/((2^(24-8*i):Nat):Int)%256:=by
 unfold stB wn
 rw [GX,show (4*n+i)/4=n from by omega,show (4*n+i)%4=i from by omega]
 rfl
theorem Jy (st:Nat→W32) (n:Nat) (k:Nat) :
  upd (upd (upd (upd (zC st n) (4*n) (.int .u8 (wn (st n)/16777216))) (4*n+1) (.int .u8 (wn (st n)/65536%256))) (4*n+2) (.int .u8 (wn (st n)/256%256))) (4*n+3) (.int .u8 (wn (st n)%256)) k=zC st (n+1) k:=by
 have j:((stB st (4*n)).toNat:Int)=wn (st n)/16777216:=by
  have h:((stB st (4*n)).toNat:Int)=wn (st n)/16777216%256:=G5 st n 0 (by omega)
  have a:=vZ (st n);have i:=sD (st n)
  omega
 have h1:((stB st (4*n+1)).toNat:Int)=wn (st n)/65536%256:=G5 st n 1 (by omega)
 have a:((stB st (4*n+2)).toNat:Int)=wn (st n)/256%256:=G5 st n 2 (by omega)
 have i:((stB st (4*n+3)).toNat:Int)=wn (st n)%256:=by
  have h:((stB st (4*n+3)).toNat:Int)=wn (st n)/1%256:=G5 st n 3 (by omega)
  rw [Int.ediv_one] at h;exact h
 unfold upd zC
 by_cases d:k=4*n+3
 ·subst d;rw [if_pos rfl,if_pos (by omega),i]
 rw [if_neg d]
 by_cases g:k=4*n+2
 ·subst g;rw [if_pos rfl,if_pos (by omega),a]
 rw [if_neg g]
 by_cases f:k=4*n+1
 ·subst f;rw [if_pos rfl,if_pos (by omega),h1]
 rw [if_neg f]
 by_cases b:k=4*n
 ·subst b;rw [if_pos rfl,if_pos (by omega),j]
 rw [if_neg b]
 by_cases e:k<4*n
 ·rw [if_pos e,if_pos (by omega)]
 rw [if_neg e,if_neg (by omega)]
theorem Ro (st:Nat→W32) (n:Nat) (a:n<8):[Value.int .u32 (wn (st 0)),.int .u32 (wn (st 1)),.int .u32 (wn (st 2)),.int .u32 (wn (st 3)),.int .u32 (wn (st 4)),.int .u32 (wn (st 5)),.int .u32 (wn (st 6)),.int .u32 (wn (st 7))][n]? = some (.int .u32 (wn (st n))):=by
 obtain h|h|h|h|h|h|h|h:n=0∨n=1∨n=2∨n=3∨n=4∨n=5∨n=6∨n=7:=by omega
 all_goals subst h;rfl
theorem M7 (b:Nat) (h:HS) (w:World) (hA:Arr w b 75 h.c) (hL:Laid w) (hm:h.many<64) (ht:0≤h.taken∧h.taken≤1000000000) :
  Calls prog 167 #[.pointer (some ⟨b,0,none⟩)] w fun e w'=>e= .returned (idV h.sum)∧Below w.heap.size w w':=by
 have b0:b<w.heap.size:=hA.lt (by omega)
 have HA:=ah hA
 have HL:=ah hL
 have HM:=ah hm
 have HT:=ah ht
 clear hA hL hm ht
 have hz:Tryz.zeroCells244=((List.range 75).map dJ.c).toArray:=by kernel_rfl
 have hR:w.rangeAt b 0 ((List.range 75).map h.c):=HA.out.range
 have d:((List.range 75).map h.c).length=75:=by simp
 have l:∀v∈(List.range 75).map h.c,v.oneCell'=true:=by
  intro v hv
  obtain ⟨k,_,rfl⟩:=List.mem_map.1 hv
  unfold HS.c
  repeat' split
  all_goals rfl
 have E:∀k,k<75→((List.range 75).map h.c).getD k undef=h.c k:=fun k o=>by simp [o]
 have hi:(prog.info? 244).map (·.size)=some 75:=by kernel_rfl
 generalize (List.range 75).map h.c=X at hR d l E
 have aE:(prog.info? 244).map (·.size)=some X.length:=by rw [d];exact hi
 have s:Arr ((w.alloc (.cells (Array.replicate 32 (.int .u8 0)) 42)).alloc (.cells Tryz.zeroCells244 244)) (w.heap.size+1) 75 dJ.c:=by
  rw [hz]
  have:=Arr.dJ (w.alloc (.cells (Array.replicate 32 (.int .u8 0)) 42)) 244
  rw [World.size_alloc] at this;exact this
 have aw:=s.Bw X d
 have ae:=aw.congr E
 have p:=s.there
 have a3:=ah ae
 have G:=ah p
 have aa:=ah d
 have ab:=ah l
 clear s aw ae p E d hz l
 go_enter func167,ntmps167
 go_wp2_with (first|(refine wpList_load_mid rfl 244 _ rfl b 0 rfl X _ (World.rangeAt_alloc (World.rangeAt_alloc hR _) _) underlying244 rfl aE ?_)|(refine aj rfl 244 _ _ rfl (w.heap.size+1) 0 X ?x1 ?x2 75 aa.out ?x4 hi ab.out ?_)|fail)
 case x4=>exact G.out
 generalize hW:World.setCells _ (w.heap.size+1) 0 X=W
 have R:Below w.heap.size w W:=by
  rw [←hW];exact below_setCells _ (by omega) X 0 _ (bal.alloc (by simp) _)
 have U:Arr W (w.heap.size+1) 75 h.c:=by rw [←hW];exact a3.out
 have a0:Arr W w.heap.size 32 (fun _=> .int .u8 0):=by
  rw [←hW]
  have h1:=(Arr.new w 32 (.int .u8 0) 42).alloc (by omega) (.cells Tryz.zeroCells244 244)
  exact ⟨fun k o=>by rw [World.cell?_setCells_out (w.heap.size+1) X 0 _ ⟨w.heap.size,k,none⟩ (fun hb _=>by simp at hb)];exact h1.cell k o,fun k o=>by rw [World.frozen?_setCells];exact h1.free k o⟩
 have bz:w.heap.size+1<W.heap.size:=U.lt (by omega)
 have M:=HL.out.below R
 clear a3 G aE hi hR
 have P:=ah R
 have az:=ah a0
 have h8:5≤w.heap.size+1:=by have:=HL.out.lt;omega
 clear R a0
 refine (Ba (w.heap.size+1) h W U M).mono ?_
 rintro e w1 ⟨rfl,ax,O⟩
 have ap:=M.grown O h8
 have C:=vH (w.heap.size+1) h.begin 128 w1 ax (by rw [HS.l7];exact HM.out) ap h8
 rw [show (((128:UInt8).toNat:Nat):Int)=128 from rfl] at C
 have r:=ah C
 have ba:=ah O
 clear U ax C O M ap hW
 go_wp2_with fail
 refine r.out.mono ?_
 rintro e w2 ⟨rfl,ac,aq⟩
 have be:=ah (eX ba.out aq)
 have V:(h.begin.put 128).many<64:=HS.xH _ _ (by rw [HS.l7];exact HM.out)
 have Y:(h.begin.put 128).taken=h.taken:=by rw [HS.Aj,HS.uN]
 have H:=ah V
 have Q:Hid (h.ended=((h.begin.put 128).feed (List.replicate (mO (h.begin.put 128).many) 0)).feed (iR (8*h.taken.toNat))):=ah rfl
 generalize h.begin.put 128=g at ac V Y H Q
 have bn:=ah Y
 have bj:=ah ac
 clear ac aq r V Y
 go_wp2
 go_loopw [16] (fun _ wr=> ∃i:Nat,i≤mO g.many∧Arr wr (w.heap.size+1) 75 (g.feed (List.replicate i 0)).c∧W.grownBy wr (some (w.heap.size+1))) (fun _ wr=>Hf (w.heap.size+1) wr)
 case atStart=>exact ⟨0,Nat.zero_le _,bj.out,be.out⟩
 obtain ⟨wo,rfl⟩:∃wo:World,wo=wr:=⟨_,rfl⟩
 obtain ⟨i,hi,t,F⟩:=hrel
 have c1:=t.cell 73 (by omega)
 rw [HS.Gy] at c1
 have z:=oU g H.out (List.replicate i 0)
 rw [List.length_replicate] at z
 generalize hq:g.feed (List.replicate i 0)=q at t c1 z
 by_cases S:q.many=56
 ·have hd:((q.many:Int) != 56)=false:=by rw [bne_eq_false_iff_eq];omega
  have ao:i=mO g.many:=by unfold mO at hi ⊢;have:=H.out;omega
  have s:=t
  rw [ao] at hq
  have y:Hid (h.ended=q.feed (iR (8*h.taken.toNat))):=by
   have:=Q.out;rw [hq] at this;exact this
  have a6:q.taken=h.taken:=by rw [←hq,HS.pW];exact bn.out
  have ag:q.many<64:=by omega
  have bo:=ah a6
  have I:=ah ag
  have bb:=ah s
  have N:=ah F
  clear t s F z S ao hi a6 ag Q hq
  obtain ⟨T,hT⟩:∃T:Nat,h.taken=T:=⟨h.taken.toNat,by have:=HT.out;omega⟩
  have bt:T≤1000000000:=by have:=HT.out;omega
  have an:=ah hT
  rw [hT,Int.toNat_natCast] at y
  clear hT
  go_wp2
  go_loopw [4] (fun i wr=> ∃k:Nat,k≤8∧i= .int .i64 (56-8*(k:Int))∧Arr wr (w.heap.size+1) 75 (q.feed ((iR (8*T)).take k)).c∧W.grownBy wr (some (w.heap.size+1))) (fun i _=>(intOf i+8).toNat)
  case atStart=>exact ⟨0,by omega,rfl,bb.out,N.out⟩
  obtain ⟨wi,rfl⟩:∃wi:World,wi=wr:=⟨_,rfl⟩
  obtain ⟨k,o,rfl,u,m⟩:=hrel
  by_cases bh:k<8
  ·obtain ⟨j,hj⟩:∃j:Nat,(56-8*(k:Int))=(j:Int):=⟨(56-8*(k:Int)).toNat,by omega⟩
   have am:j=56-8*k:=by omega
   rw [hj]
   have c1:=u.cell 74 (by omega)
   rw [HS.Im,HS.pW,bo.out,an.out] at c1
   have C:=vH (w.heap.size+1) _ (be8 (8*T) k) wi u (HS.oq _ _ I.out) ((HL.out.below P.out).grown m h8) h8
   have al:(((be8 (8*T) k).toNat:Nat):Int)=8*(T:Int)/2^j%256:=by
    unfold be8;rw [GX,←am];push_cast;rfl
   rw [al] at C
   have r:=ah C
   have bm:=ah m
   have bp:=ah (KS (8*T) k bh)
   have HJ:=ah hj
   have j0:(0:Int)≤j:=by omega
   have j1:(j:Int)≤56:=by omega
   have t0:(0:Int)≤T:=by omega
   have t1:(T:Int)≤1000000000:=by omega
   clear C m u al hj am
   go_wp2_with fail
   refine r.out.mono ?_
   rintro e w3 ⟨rfl,B,A⟩
   have J:=ah B
   have Z:=ah (eX bm.out A)
   clear B A c1
   go_wp2
   go_roundw
   case rel =>
    have h1:=HJ.out
    exact ⟨k+1,by omega,QB (by push_cast;omega),by rw [bp.out,nL];exact J.out,Z.out⟩
   case measure=>have h1:=HJ.out;simp [intOf];omega
  obtain rfl:k=8:=by omega
  have hf:(iR (8*T)).take 8=iR (8*T):=List.take_of_length_le (by simp [iR])
  rw [hf,←y.out] at u
  have cs:=fun k (o:k<8)=>(u.cell (1+k) (by omega)).trans (by rw [HS.Qu _ _ o])
  have c0:=cs 0 (by omega)
  have c1:=cs 1 (by omega)
  have c2:=cs 2 (by omega)
  have c3:=cs 3 (by omega)
  have c4:=cs 4 (by omega)
  have c5:=cs 5 (by omega)
  have c6:=cs 6 (by omega)
  have c7:=cs 7 (by omega)
  simp only [Nat.reduceAdd] at c0 c1 c2 c3 c4 c5 c6 c7
  clear cs
  have bs:W.heap.size≤wi.heap.size:=m.size
  have hO:Arr wi w.heap.size 32 (fun _=> .int .u8 0):=⟨fun k o=>m.cell (az.out.cell k o) (by simp),fun k o=>by
   rw [World.frozen?_of_block (w:=W) (a:=⟨w.heap.size,k,none⟩) (m.block w.heap.size (by omega) (by simp))];exact az.out.free k o⟩
  have ad:Below w.heap.size w wi:=(P.out).grown m (by omega) (fun k o=>by cases o;omega)
  have bu:w.heap.size+1<wi.heap.size:=by omega
  have HO:=ah hO
  have a2:=ah ad
  clear hO ad m u hf y
  generalize a5:h.ended.st=st at c0 c1 c2 c3 c4 c5 c6 c7
  have bd:=ah a5
  have ai:Arr (wi.alloc (.cells (Array.replicate 32 (.int .u8 0)) 42)) wi.heap.size 32 (zC st 0):=by rw [Jw];exact Arr.new wi 32 _ _
  have a9:=ah ai
  clear a5 ai
  go_wp2
  go_loopw [32] (fun i wr=> ∃n:Nat,n≤8∧i= .int .i64 n∧Arr wr wi.heap.size 32 (zC st n)∧Below wi.heap.size wi wr) (fun i _=>(8-intOf i).toNat)
  case atStart=>exact ⟨0,by omega,rfl,a9.out,bal⟩
  obtain ⟨wj,rfl⟩:∃wj:World,wj=wr:=⟨_,rfl⟩
  obtain ⟨n,hn,rfl,f,D⟩:=hrel
  clear c0 c1 c2 c3 c4 c5 c6 c7
  by_cases a1:n<8
  ·have bx:=fun w=>jN 226 225 8 underlying226 (fun _=>by kernel_rfl) (fun _=>by kernel_rfl) _ w n a1 _ (Ro st n a1)
   have c0:=f.cell (4*n) (by omega)
   have c1:=f.cell (4*n+1) (by omega)
   have c2:=f.cell (4*n+2) (by omega)
   have c3:=f.cell (4*n+3) (by omega)
   have f0:=f.free (4*n) (by omega)
   have f1:=f.free (4*n+1) (by omega)
   have f2:=f.free (4*n+2) (by omega)
   have f3:=f.free (4*n+3) (by omega)
   have n0:(0:Int)≤n:=by omega
   have n1:(n:Int)<8:=by omega
   have bv:decide ((n:Int)<8)=true:=decide_eq_true (by omega)
   have x0:=sD (st n)
   have x1:=vZ (st n)
   have bf:=ah f
   have bc:=ah D
   clear f D
   go_wp2
   go_roundw
   case rel =>
    refine ⟨n+1,by omega,by go_num,?_,(((bc.out.setCell (Nat.le_refl _) _).setCell (Nat.le_refl _) _).setCell (Nat.le_refl _) _).setCell (Nat.le_refl _) _⟩
    exact ((((bf.out.set (4*n) (by omega) _).set (4*n+1) (by omega) _).set (4*n+2) (by omega) _).set (4*n+3) (by omega) _).congr fun k _=>Jy st n k
   case measure=>simp [intOf];omega
  obtain rfl:n=8:=by omega
  have hr:=f.range
  have e8:(List.range 32).map (zC st 8)=((List.range 32).map (stB st)).map fun b=>Value.int .u8 (b.toNat:Int):=by
   rw [List.map_map]
   refine List.map_congr_left fun k o=> ?_
   have:=List.mem_range.1 o
   show zC st 8 k=_
   unfold zC;rw [if_pos (by omega)];rfl
  rw [e8] at hr
  have af:Arr wj w.heap.size 32 (fun _=> .int .u8 0):=HO.out.below D (by omega)
  have d:(((List.range 32).map (stB st)).map fun b=>Value.int .u8 (b.toNat:Int)).length=32:=by simp
  have l:∀v∈((List.range 32).map (stB st)).map (fun b=>Value.int .u8 (b.toNat:Int)),v.oneCell'=true:=by
   intro v hv;obtain ⟨x,_,rfl⟩:=List.mem_map.1 hv;rfl
  have L:idV h.sum= .agg (((List.range 32).map (stB st)).map fun b=>Value.int .u8 (b.toNat:Int)).toArray:=by unfold idV HS.sum;rw [bd.out]
  have HF:=ah L
  generalize ((List.range 32).map (stB st)).map (fun b=>Value.int .u8 (b.toNat:Int))=us at hr d l HF
  have a8:(prog.info? 42).map (·.size)=some 32:=by kernel_rfl
  have K:(prog.info? 42).map (·.size)=some us.length:=by rw [d];exact a8
  have p:=af.there
  have ar:=World.rangeAt_setCells_same wj w.heap.size 0 us (by rw [d];exact p)
  have bi:=ah ar
  have G:=ah p
  have aa:=ah d
  have ab:=ah l
  have a4:Below w.heap.size w (wj.setCells w.heap.size 0 us):=below_setCells _ (Nat.le_refl _) us 0 _ (a2.out.trans (D.mono a2.out.size))
  have br:=ah a4
  clear f D e8 L p d l ar a4 af
  go_wp2_with (first|(refine wpList_load_mid rfl 42 _ rfl wi.heap.size 0 rfl us _ hr underlying42 rfl K ?_)|(refine aj rfl 42 _ _ rfl w.heap.size 0 us ?y1 ?y2 32 aa.out ?y4 a8 ab.out ?_))
  case y4=>exact G.out
  go_wp2
  refine bK rfl w.heap.size 0 rfl us _ bi.out underlying42 rfl K rfl ⟨by rw [HF.out],br.out⟩
 have hd:((q.many:Int) != 56)=true:=by rw [bne_iff_ne];omega
 have C:=vH (w.heap.size+1) q 0 wo t (by omega) ((HL.out.below P.out).grown F h8) h8
 rw [show (((0:UInt8).toNat:Nat):Int)=0 from rfl] at C
 have r:=ah C
 have N:=ah F
 have HQ:=ah hq
 have I:=ah z
 have a7:=ah S
 have bk:=ah c1
 clear C F t hq z S
 go_wp2_with fail
 refine r.out.mono ?_
 rintro e w3 ⟨rfl,B,A⟩
 have J:=ah B
 have Z:=ah (eX N.out A)
 clear B A c1
 go_wp2
 go_roundw
 case rel =>
  refine ⟨i+1,?_,?_,Z.out⟩
  ·have h1:=I.out;have h2:=a7.out;have h3:=H.out
   unfold mO at hi ⊢;omega
  rw [List.replicate_succ',nL,HQ.out];exact J.out
 have c2:=J.out.cell 73 (by omega)
 have h1:=I.out;have h2:=a7.out
 rw [HS.Gy,lS _ _ (by omega)] at c2
 unfold Hf mO
 rw [bk.out,c2]
 dsimp only
 rw [Int.toNat_natCast,Int.toNat_natCast]
 omega
def zu (s:ByteArray):List UInt8:=(dJ.w1 s 1).sum
theorem Ol (h:HS):h.sum.length=32:=by simp [HS.sum]
theorem D9 (x:List UInt8):(x.map fun b=>Value.int .u8 (b.toNat:Int)).length=x.length:=by simp
theorem Nv (p q cap:Nat) (s:ByteArray) (w:World) (P:w.cell? ⟨p,q,none⟩=some (.string s)) (hL:Laid w) (hz:s.size≤1000000000) :
  Calls prog 94 #[.slice (some ⟨p,q,none⟩) 1 cap] w fun e w'=>e= .returned (idV (zu s))∧Below w.heap.size w w':=by
 have S:p<w.heap.size:=World.block_lt_of_cell? w _ P
 have u:Tryz.zeroCells244=((List.range 75).map dJ.c).toArray:=by kernel_rfl
 have K:Below w.heap.size w ((w.alloc (.cells (Array.replicate 32 (.int .u8 0)) 42)).alloc (.cells Tryz.zeroCells244 244)):=bal.alloc (by simp) _
 have y:Arr ((w.alloc (.cells (Array.replicate 32 (.int .u8 0)) 42)).alloc (.cells Tryz.zeroCells244 244)) (w.heap.size+1) 75 dJ.c:=by
  rw [u]
  have:=Arr.dJ (w.alloc (.cells (Array.replicate 32 (.int .u8 0)) 42)) 244
  rw [World.size_alloc] at this;exact this
 have G:=(Arr.new w 32 (.int .u8 0) 42).alloc (by omega) (.cells Tryz.zeroCells244 244)
 clear u
 go_enter func94,ntmps94
 go_wp2_with fail
 generalize O:(w.alloc _).alloc _=W
 have h:Below w.heap.size w W:=by rw [←O];exact K
 have o:Arr W (w.heap.size+1) 75 dJ.c:=by rw [←O];exact y
 have J:Arr W w.heap.size 32 (fun _=> .int .u8 0):=by rw [←O];exact G
 have j:=hL.below h
 have h8:=hL.lt
 have aa:w.heap.size+1<W.heap.size:=o.lt (by omega)
 have t:=au P h S
 have F:=II (w.heap.size+1) p q cap dJ s W o j (by omega) t (by omega) rfl (by show 0<64;omega) hz
 have A:=ah h
 have i:=ah J
 have r:=ah j
 clear K y G O h o J j P t
 refine F.mono ?_
 rintro e w1 ⟨rfl,E,f⟩
 have L:(dJ.w1 s 1).many<64:=by
  unfold HS.w1;rw [if_neg (by omega)]
  exact HS.oq _ _ (by rw [HS.l7];show 0<64;omega)
 have H:(dJ.w1 s 1).taken=(s.size:Int):=rfl
 have hS:=M7 (w.heap.size+1) (dJ.w1 s 1) w1 E (r.out.grown f (by omega)) L (by rw [H];omega)
 have Q:=ah hS
 have n:Arr w1 w.heap.size 32 (fun _=> .int .u8 0):=⟨fun k z=>f.cell (i.out.cell k z) (by simp),fun k z=>by
  rw [World.frozen?_of_block (w:=W) (a:=⟨w.heap.size,k,none⟩) (f.block w.heap.size (by omega) (by simp))];exact i.out.free k z⟩
 have I:Below w.heap.size w w1:=(A.out).grown f (by omega) (fun k z=>by cases z;omega)
 have C:w.heap.size<w1.heap.size:=n.lt (by omega)
 have T:=ah n
 have M:=ah I
 clear E f hS n I L H F A i r
 go_wp2_with fail
 refine Q.out.mono ?_
 rintro e w2 ⟨rfl,m⟩
 have d:((zu s).map fun b=>Value.int .u8 (b.toNat:Int)).length=32:=by rw [D9];exact Ol _
 have g:∀v∈(zu s).map (fun b=>Value.int .u8 (b.toNat:Int)),v.oneCell'=true:=by
  intro v hv;obtain ⟨x,_,rfl⟩:=List.mem_map.1 hv;rfl
 have HF:Hid (idV (zu s)= .agg ((zu s).map fun b=>Value.int .u8 (b.toNat:Int)).toArray):=ah rfl
 have Z:idV (HS.sum (dJ.w1 s 1))= .agg ((zu s).map fun b=>Value.int .u8 (b.toNat:Int)).toArray:=rfl
 rw [Z]
 have l:=(T.out.below m C).there
 generalize (zu s).map (fun b=>Value.int .u8 (b.toNat:Int))=us at d g HF
 have N:(prog.info? 42).map (·.size)=some 32:=by kernel_rfl
 have D:(prog.info? 42).map (·.size)=some us.length:=by rw [d];exact N
 have R:=ah (World.rangeAt_setCells_same w2 w.heap.size 0 us (by rw [d];exact l))
 have U:=ah l
 have V:=ah d
 have X:=ah g
 have Y:=ah (below_setCells (B:=w.heap.size) (a:=w) w.heap.size (Nat.le_refl _) us 0 w2 (M.out.trans (m.mono M.out.size)))
 clear l d g m Z
 go_wp2_with (refine aj rfl 42 _ _ rfl w.heap.size 0 us ?y1 ?y2 32 V.out ?y4 N X.out ?_)
 case y1=>rfl
 case y2=>rfl
 case y4=>exact U.out
 simp only [Act.put]
 refine bK rfl w.heap.size 0 rfl us _ R.out underlying42 rfl D rfl ⟨by rw [HF.out],Y.out⟩
def jZ (l:List UInt8):List UInt8:=l++(128::List.replicate (mO ((l.length+1)%64)) 0)++iR (8*l.length)
def ofB (l:List UInt8):ByteArray:=⟨l.toArray⟩
theorem bq (l:List UInt8):(ofB l).data.toList=l:=by simp [ofB]
theorem aR (l:List UInt8):(ofB l).size=l.length:=by simp [ofB,ByteArray.size]
theorem ba_eq {p q:ByteArray} (h:p.data.toList=q.data.toList):p=q:=by
 cases p;cases q;simp at h;rw [h]
theorem jK (p q:ByteArray):(p++q).data.toList=p.data.toList++q.data.toList:=by simp
def Cn (T n k:Nat):Value:=if 8≤k+n then .int .u8 ((be8 T k).toNat:Int) else .int .u8 0
theorem Ku (T n k:Nat) (a:n<8) (b:k<8):upd (Cn T n) (7-n) (.int .u8 ((T/2^(8*n):Nat)%256:Int)) k=Cn T (n+1) k:=by
 unfold upd Cn
 by_cases e:k=7-n
 ·subst e
  rw [if_pos rfl,if_pos (by omega)]
  unfold be8
  rw [GX,show 56-8*(7-n)=8*n from by omega]
 rw [if_neg e]
 by_cases h:8≤k+n
 ·rw [if_pos h,if_pos (by omega)]
 rw [if_neg h,if_neg (by omega)]
theorem xS (s:ByteArray) (w:World) (Y:s.size≤1000000000) :
  Calls prog 148 #[.string s] w fun e w'=>e= .returned (.string (ofB (jZ s.data.toList)))∧Below w.heap.size w w':=by
 have A:s.data.toList.length=s.size:=by simp
 have E:=ah A
 clear A
 go_enter func148,ntmps148
 go_wp2
 go_loopw [3] (fun v wr=> ∃(i:Nat) (o:ByteArray),i≤mO ((s.size+1)%64)∧v= .string o∧o.size=s.size+1+i∧Hid (o.data.toList=s.data.toList++(128::List.replicate i 0))∧wr=w) (fun v _=>match v with| .string o=>1000000100-o.size|_=>0)
 case atStart=>exact ⟨0,_,Nat.zero_le _,rfl,by simp;rfl,by unfold Hid;simp,rfl⟩
 obtain ⟨d,rfl⟩:∃d:World,d=wr:=⟨_,rfl⟩
 obtain ⟨i,o,hi,rfl,l,m,rfl⟩:=hrel
 have C:=ah l
 have W:Hid (mO ((s.size+1)%64)=(120-(s.size+1)%64)%64):=ah rfl
 have V:o.size≤1000000070:=by unfold mO at hi;omega
 by_cases G:o.size%64=56
 ·have hd:((o.size:Int)%64 != 56)=false:=by rw [bne_eq_false_iff_eq];omega
  have t:i=mO ((s.size+1)%64):=by unfold mO at hi ⊢;omega
  have J:=ah m.out
  rw [t] at J
  have y:Arr (d.alloc (.cells (Array.replicate 8 (.int .u8 0)) 279)) d.heap.size 8 (Cn (8*s.size) 0):=by
   have h:Cn (8*s.size) 0=fun k=>if 8≤k then .int .u8 ((be8 (8*s.size) k).toNat:Int) else .int .u8 0:=rfl
   exact (Arr.new d 8 (.int .u8 0) _).congr fun k L=>by rw [h];dsimp only;rw [if_neg (by omega)]
  have r:=ah y
  clear l m hi t y G
  generalize M:8*s.size=T at r
  have N:=ah M
  have H:T≤8000000000:=by omega
  clear M
  go_wp2
  go_loopw [4,6] (fun v i B=> ∃n:Nat,n≤8∧i= .int .i64 n∧v= .int .u64 ((T/2^(8*n):Nat):Int)∧Arr B d.heap.size 8 (Cn T n)∧Below d.heap.size d B) (fun _ i _=>(8-intOf i).toNat)
  case atStart=>exact ⟨0,by omega,rfl,by rw [←N.out,Nat.mul_zero,Nat.pow_zero,Nat.div_one];congr 1;omega,r.out,bal⟩
  obtain ⟨wi,rfl⟩:∃wi:World,wi=wr:=⟨_,rfl⟩
  obtain ⟨n,hn,rfl,rfl,a,f⟩:=hrel
  by_cases I:n<8
  ·have c1:=a.cell (7-n) (by omega)
   have f1:=a.free (7-n) (by omega)
   have Q:Cn T n (7-n)= .int .u8 0:=by unfold Cn;rw [if_neg (by omega)]
   rw [Q] at c1
   have S:decide ((n:Int)<8)=true:=decide_eq_true (by omega)
   have Z:(0:Int)≤n:=by omega
   have n1:(n:Int)<8:=by omega
   have n2:(n:Int)≤7:=by omega
   have n3:((7:Int)-n).toNat=7-n:=by omega
   have K:=ah (a.set (7-n) (by omega) (.int .u8 (((T/2^(8*n):Nat):Int)%256)))
   have p:=ah f
   have U:(T/2^(8*n))≤8000000000:=Nat.le_trans (Nat.div_le_self _ _) H
   have D:T/2^(8*(n+1))=T/2^(8*n)/256:=by
    rw [Nat.div_div_eq_div_mul,show 8*(n+1)=8*n+8 from by omega,Nat.pow_add]
   have u:=ah D
   have z:=ah (fun k (L:k<8)=>Ku T n k I L)
   generalize T/2^(8*n)=X at U u K z
   clear a f Q D
   go_wp2
   go_roundw
   case rel =>
    refine ⟨n+1,by omega,by go_num,?_,?_,p.out.setCell (Nat.le_refl _) _⟩
    ·rw [u.out];rfl
    exact K.out.congr z.out
   case measure=>simp [intOf];omega
  obtain rfl:n=8:=by omega
  have b:∀j (O:j<(iR T).length),wi.cell? ((⟨d.heap.size,0,none⟩:Addr).add j)=some (.int .u8 ((iR T)[j].toNat:Int)):=fun j O=>by
   have R:j<8:=by simpa [iR] using O
   rw [Addr.add_mid,Nat.zero_add,a.cell j R]
   unfold Cn
   rw [if_pos (by omega)]
   simp [iR]
  have x:=run_convert_bytes_back (P:=prog) wi 96 9 5 ⟨d.heap.size,0,none⟩ 8 (iR T) underlying96 underlying5 underlying9 b
  rw [show (iR T).length=8 from by simp [iR]] at x
  have p:=ah f
  have g:Hid ((⟨(iR T).toArray⟩:ByteArray).data.toList=iR T):=by unfold Hid;simp
  have F:(⟨(iR T).toArray⟩:ByteArray).size≤8:=by show (iR T).toArray.size≤8;simp [iR]
  generalize (⟨(iR T).toArray⟩:ByteArray)=q at x g F
  clear b a f
  generalize T/2^(8*8)=X
  go_wp2
  go_ret
  refine ⟨?_,p.out⟩
  have e:o++q=ofB (jZ s.data.toList):=by
   apply ba_eq
   rw [jK,bq,J.out,g.out]
   unfold jZ
   rw [E.out,N.out]
  rw [←e]
  rfl
 have hd:((o.size:Int)%64 != 56)=true:=by rw [bne_iff_ne];omega
 clear l
 go_wp2
 go_roundw
 case rel =>
  refine ⟨i+1,_,?_,rfl,?_,?_,trivial⟩
  ·have h:=C.out;have h2:=W.out;omega
  ·have h:=C.out;have e:(⟨#[0]⟩:ByteArray).size=1:=rfl
   rw [ByteArray.size_append,e];omega
  unfold Hid;rw [jK,m.out,List.append_assoc];simp [List.replicate_succ']
 have e:(⟨#[0]⟩:ByteArray).size=1:=rfl
 dsimp only
 rw [ByteArray.size_append,e];omega
theorem QV (x y z:W32):(x &&& y ||| ~~~x &&& z)=(x &&& y ^^^ ~~~x &&& z):=by
 apply BitVec.eq_of_getLsbD_eq;intro i hi
 simp only [BitVec.getLsbD_or,BitVec.getLsbD_and,BitVec.getLsbD_xor,BitVec.getLsbD_not,hi,decide_true,Bool.true_and]
 cases x.getLsbD i<;>cases y.getLsbD i<;>cases z.getLsbD i<;>rfl
theorem Qk (x y z:W32):(x &&& y ||| x &&& z ||| y &&& z)=(x &&& y ^^^ x &&& z ^^^ y &&& z):=by
 apply BitVec.eq_of_getLsbD_eq;intro i hi
 simp only [BitVec.getLsbD_or,BitVec.getLsbD_and,BitVec.getLsbD_xor]
 cases x.getLsbD i<;>cases y.getLsbD i<;>cases z.getLsbD i<;>rfl
theorem qN (x:W32) (b:UInt8) (hx:wn x<16777216):wn (x <<< 8 ||| bw b)=wn x*256+wn (bw b):=by
 have hb:(bw b).toNat<256:=by have:=oV b;unfold wn at this;omega
 have a:x.toNat<16777216:=by unfold wn at hx;omega
 unfold wn
 rw [BitVec.toNat_or,BitVec.toNat_shiftLeft,Nat.shiftLeft_eq,Nat.mod_eq_of_lt (by omega),←Nat.shiftLeft_eq,←Nat.shiftLeft_add_eq_or_of_lt (by simpa using hb),Nat.shiftLeft_eq,show (2:Nat)^8=256 from rfl]
 omega
theorem K9 (r:Nat→UInt8) (k:Nat):wn (bw (r (4*k)))*16777216+wn (bw (r (4*k+1)))*65536+wn (bw (r (4*k+2)))*256+wn (bw (r (4*k+3)))=wn (eD r k 4):=by
 have a:wn (eD r k 0)=0:=rfl
 have g:=oV (r (4*k));have f:=oV (r (4*k+1));have i:=oV (r (4*k+2));have h:=oV (r (4*k+3))
 have d:wn (eD r k 1)=wn (bw (r (4*k))):=by
  show wn (eD r k 0 <<< 8 ||| bw (r (4*k+0)))=_
  rw [qN _ _ (by omega),a];simp
 have e:wn (eD r k 2)=wn (bw (r (4*k)))*256+wn (bw (r (4*k+1))):=by
  show wn (eD r k 1 <<< 8 ||| bw (r (4*k+1)))=_
  rw [qN _ _ (by omega),d]
 have b:wn (eD r k 3)=(wn (bw (r (4*k)))*256+wn (bw (r (4*k+1))))*256+wn (bw (r (4*k+2))):=by
  show wn (eD r k 2 <<< 8 ||| bw (r (4*k+2)))=_
  rw [qN _ _ (by omega),e]
 show _=wn (eD r k 3 <<< 8 ||| bw (r (4*k+3)))
 rw [qN _ _ (by omega),b];omega
theorem Fz (w:World):Calls prog 207 #[] w fun e w'=>e= .returned (.agg kV.toArray)∧Below w.heap.size w w':=by
 have f:(prog.info? 280).map (·.size)=some 64:=by kernel_rfl
 have hA:=Arr.new w 64 (.int .u32 0) 280
 have b:∀v∈kV,v.oneCell'=true:=by
  intro v k;obtain ⟨x,_,rfl⟩:=List.mem_map.1 k;rfl
 have d:=World.rangeAt_setCells_same _ w.heap.size 0 kV (by rw [tC];exact hA.there)
 have hi:(prog.info? 280).map (·.size)=some kV.length:=by rw [tC];exact f
 have hb:=below_setCells (B:=w.heap.size) (a:=w) w.heap.size (Nat.le_refl _) kV 0 _ ((Below.refl _ _).alloc (Nat.le_refl _) (.cells (Array.replicate 64 (.int .u32 0)) 280))
 have h:=ah hA.there
 have i:=ah b
 have g:=ah d
 have j:=ah hb
 clear hA b d hb
 go_enter func207,ntmps207
 go_wp2_with (refine aj rfl 280 _ _ rfl w.heap.size 0 kV ?y1 ?y2 64 tC ?y4 f i.out ?_)
 case y1=>rfl
 case y2=>kernel_rfl
 case y4=>exact h.out
 simp only [Act.put]
 refine bK rfl w.heap.size 0 rfl kV _ g.out underlying280 rfl hi rfl ⟨rfl,j.out⟩
structure Rd where
 s:ByteArray
 pos:Nat
 err:Nat
def Rd.c (r:Rd) (k:Nat):Value:=if k=0 then .string r.s else if k=1 then .int .i64 (r.pos:Int) else .int .i64 (r.err:Int)
structure Rd.fine (r:Rd):Prop where
 pos:r.pos ≤ r.s.size
 size:r.s.size ≤ 1000000
 err:r.err ≤ 100
def Rd.raw (r:Rd) (n:Nat):Rd×ByteArray :=
 if r.err≠0 then (r,ByteArray.empty) else if r.s.size-r.pos<n then ({ r with err:=3 },ByteArray.empty) else ({ r with pos:=r.pos+n },r.s.extract r.pos (r.pos+n))
theorem Rd.xB (r:Rd) (n:Nat) (h:r.fine):(r.raw n).1.fine:=by
 unfold Rd.raw
 split
 ·exact h
 split
 ·exact ⟨h.pos,h.size,by show 3≤100;omega⟩
 exact ⟨by show r.pos+n≤r.s.size;have:=h.pos;omega,h.size,h.err⟩
theorem Rd.jE (r:Rd) (e:Nat):∀k,k<3→upd r.c 2 (.int .i64 (e:Int)) k=Rd.c { r with err:=e } k:=by
 intro k a;unfold upd Rd.c
 obtain h|h|h:k=0∨k=1∨k=2:=by omega
 all_goals subst h;rfl
theorem Rd.eY (r:Rd) (p:Nat):∀k,k<3→upd r.c 1 (.int .i64 (p:Int)) k=Rd.c { r with pos:=p } k:=by
 intro k a;unfold upd Rd.c
 obtain h|h|h:k=0∨k=1∨k=2:=by omega
 all_goals subst h;rfl
theorem kZ (o:ByteArray) (m n:Nat) (h:m+n≤o.size) (w:World):(Instr.slice 9 (.string o) (some (.int .i64 (m:Int))) (some (.int .i64 ((m:Int)+n))) none).run prog w= .ok (.string (o.extract m (m+n))) w:=by
 have d:(m:Int)+n≤o.size:=by omega
 have a:((m:Int)+n).toNat=m+n:=by omega
 have b:(0:Int)≤(m:Int)+n:=by omega
 simp [Instr.slice,run_underlying underlying9,Instr.sliceBounds,Instr.sliceBound,asIntOf,d,a,b]
theorem Dj (b:Nat) (r:Rd) (n:Nat) (w:World) (hA:Arr w b 3 r.c) (l:r.fine) (K:n≤1000000000) :
  Calls prog 202 #[.pointer (some ⟨b,0,none⟩),.int .i64 (n:Int)] w fun e w'=>e= .returned (.string (r.raw n).2)∧Arr w' b 3 (r.raw n).1.c∧w.grownBy w' (some b):=by
 have d:b<w.heap.size:=hA.lt (by omega)
 have o:w.cell? ⟨b,0,none⟩=some (.string r.s):=hA.cell 0 (by omega)
 have c1:w.cell? ⟨b,1,none⟩=some (.int .i64 (r.pos:Int)):=hA.cell 1 (by omega)
 have c2:w.cell? ⟨b,2,none⟩=some (.int .i64 (r.err:Int)):=hA.cell 2 (by omega)
 have v:=hA.free 1 (by omega)
 have u:=hA.free 2 (by omega)
 have J:=l.pos
 have I:=l.size
 have L:=l.err
 have H:decide ((n:Int)<0)=false:=decide_eq_false (by omega)
 have z:=ah hA
 clear hA
 by_cases k:r.err=0
 ·have A:((r.err:Int) != 0)=false:=by rw [bne_eq_false_iff_eq];omega
  by_cases i:r.s.size-r.pos<n
  ·have t:Hid (r.raw n=({ r with err:=3 },ByteArray.empty)):=by unfold Hid Rd.raw;rw [if_neg (by simp [k]),if_pos i]
   have hd:decide ((r.s.size:Int)-r.pos<n)=true:=decide_eq_true (by omega)
   have F:IntKind.i64.wrap ((r.s.size:Int)-r.pos)=(r.s.size:Int)-r.pos:=IntWalk.i64_in _ (by omega)
   have E:=ah k
   clear k i l
   go_enter func202,ntmps202
   go_wp2
   refine wbq ?_
   have h:=blq o
   have g:=blq c1
   repeat (go_big_quiet_step (fail))
   refine wpQuiet_nil ?_
   intro q a
   clear h g
   have g2:=au c2 a d
   have k2:q.frozen? ⟨b,2,none⟩=false:=by rw [a.frozen (p:=⟨b,2,none⟩) d];exact u
   clear o c1 c2 v u
   go_wp2
   go_ret
   rw [t.out]
   exact ⟨rfl,((z.out.below a d).set 2 (by omega) (.int .i64 ((3:Nat):Int))).congr (Rd.jE r 3),aS (aC a _) _⟩
  have t:Hid (r.raw n=({ r with pos:=r.pos+n },r.s.extract r.pos (r.pos+n))):=by unfold Hid Rd.raw;rw [if_neg (by simp [k]),if_neg i]
  have hd:decide ((r.s.size:Int)-r.pos<n)=false:=decide_eq_false (by omega)
  have F:IntKind.i64.wrap ((r.s.size:Int)-r.pos)=(r.s.size:Int)-r.pos:=IntWalk.i64_in _ (by omega)
  have G:IntKind.i64.wrap ((r.pos:Int)+n)=(r.pos:Int)+n:=IntWalk.i64_in _ (by omega)
  have x:=fun w=>kZ r.s r.pos n (by omega) w
  have E:=ah k
  clear k i l
  go_enter func202,ntmps202
  go_wp2
  refine wbq ?_
  have h:=blq o
  have g:=blq c1
  repeat (go_big_quiet_step (fail))
  refine wpQuiet_nil ?_
  intro q a
  clear h g
  obtain ⟨y,rfl⟩:∃y:World,y=q:=⟨_,rfl⟩
  have f:=a
  clear a
  have B:=au o f d
  have C:=au c1 f d
  have D:b<y.heap.size:=by have:=f.size;omega
  go_wp2
  refine wbq ?_
  have h:=blq B
  have g:=blq C
  repeat (go_big_quiet_step (fail))
  refine wpQuiet_nil ?_
  intro q a
  clear h g
  have j:=f.trans (a.mono f.size)
  have g1:=au c1 j d
  have k1:q.frozen? ⟨b,1,none⟩=false:=by rw [j.frozen (p:=⟨b,1,none⟩) d];exact v
  have m:=ah j
  clear o c1 c2 v u B C f j a x
  go_wp2
  go_ret
  rw [t.out]
  exact ⟨rfl,((z.out.below m.out d).set 1 (by omega) (.int .i64 ((r.pos+n:Nat):Int))).congr (Rd.eY r _),aS (aC m.out _) _⟩
 have A:((r.err:Int) != 0)=true:=by rw [bne_iff_ne];omega
 have t:Hid (r.raw n=(r,ByteArray.empty)):=by unfold Hid Rd.raw;rw [if_pos k]
 clear k
 go_enter func202,ntmps202
 go_wp2
 go_ret
 rw [t.out]
 exact ⟨rfl,z.out,aC (Below.refl _ _) _⟩
def blk (c:ByteArray) (k:Nat):UInt8:=c.data.toList.getD k 0
def stV (st:Nat→W32):Value:=.agg #[.int .u32 (wn (st 0)),.int .u32 (wn (st 1)),.int .u32 (wn (st 2)),.int .u32 (wn (st 3)),.int .u32 (wn (st 4)),.int .u32 (wn (st 5)),.int .u32 (wn (st 6)),.int .u32 (wn (st 7))]
theorem dV (c:ByteArray) (w:World) (k:Nat) (a:k<c.size):(Instr.index 9 (.string c) (.int .i64 (k:Int))).run prog w= .ok (.int .u8 (wn (bw (blk c k)))) w:=by
 have h1:(0:Int)≤k:=by omega
 have b:c[k]? = some (blk c k):=by
  unfold blk
  rw [getElem?_pos c k a]
  have:c.data.toList[k]? = some c[k]:=by simp [a];rfl
  simp only [List.getD,this,Option.getD_some]
 unfold Instr.index
 simp only [Sem.run_bind,asIntOf,Sem.run_pure,Result.andThen_ok,run_underlying underlying9,if_pos h1,Int.toNat_natCast,b,oI]
def qW (r:Nat→UInt8) (i:Nat):Nat→W32:=fun k=>if k<i then eD r k 4 else 0
theorem Gc (r:Nat→UInt8) (i:Nat):upd (qW r i) i (eD r i 4)=qW r (i+1):=by
 funext k;unfold upd qW
 by_cases h:k=i
 ·subst h;rw [if_pos rfl,if_pos (by omega)]
 rw [if_neg h]
 by_cases a:k<i
 ·rw [if_pos a,if_pos (by omega)]
 rw [if_neg a,if_neg (by omega)]
theorem MU (r:Nat→UInt8):qW r 16=gH r 16 0:=by
 funext k;unfold qW gH
 by_cases h:k<16
 ·rw [if_pos h,if_pos h]
 rw [if_neg h,if_neg h];split<;>rfl
theorem KQ (st:Nat → W32) (c:ByteArray) (w:World) (hc:c.size = 64) :
  Calls prog 149 #[stV st,.string c] w fun e w' => e = .returned (stV (dK st (blk c))) ∧ Below w.heap.size w w':=by
 unfold stV
 have HI:=ah (fun (w:World) (k:Nat) (hk:k < 64) => dV c w k (by omega))
 generalize hr:blk c = r at HI
 have HR:=ah hr
 clear hr hc
 have hW0:∃ W,W = ((w.alloc (.cells #[.int .u32 (wn (st 0)),.int .u32 (wn (st 1)),.int .u32 (wn (st 2)),.int .u32 (wn (st 3)),.int .u32 (wn (st 4)),.int .u32 (wn (st 5)),.int .u32 (wn (st 6)),.int .u32 (wn (st 7))] 226)).alloc (.cells (Array.replicate 8 (.int .u32 0)) 226)).alloc (.cells (Array.replicate 64 (.int .u32 0)) 280):=⟨_,rfl⟩
 obtain ⟨W,hW⟩:=hW0
 have hb0:Below w.heap.size w W:=by rw [hW];exact (bal.alloc (by simp) _).alloc (by simp;omega) _
 have hS0:Arr W w.heap.size 8 (bE st):=by rw [hW];exact ((Arr.eight w st _).alloc (by omega) _).alloc (by omega) _
 have hO0:Arr W (w.heap.size + 1) 8 (fun _ => .int .u32 0):=by
  rw [hW]
  have h:=(Arr.new (w.alloc (.cells #[.int .u32 (wn (st 0)),.int .u32 (wn (st 1)),.int .u32 (wn (st 2)),.int .u32 (wn (st 3)),.int .u32 (wn (st 4)),.int .u32 (wn (st 5)),.int .u32 (wn (st 6)),.int .u32 (wn (st 7))] 226)) 8 (.int .u32 0) 226).alloc (by omega) (.cells (Array.replicate 64 (.int .u32 0)) 280)
  rw [World.size_alloc] at h;exact h
 have hX0:Arr W (w.heap.size + 2) 64 (bE (qW r 0)):=by
  have e:bE (qW r 0) = fun _ => .int .u32 0:=by funext k;unfold bE qW;rw [if_neg (by omega)];rfl
  rw [hW,e]
  have h:=Arr.new ((w.alloc (.cells #[.int .u32 (wn (st 0)),.int .u32 (wn (st 1)),.int .u32 (wn (st 2)),.int .u32 (wn (st 3)),.int .u32 (wn (st 4)),.int .u32 (wn (st 5)),.int .u32 (wn (st 6)),.int .u32 (wn (st 7))] 226)).alloc (.cells (Array.replicate 8 (.int .u32 0)) 226)) 64 (.int .u32 0) 280
  rw [World.size_alloc,World.size_alloc] at h;exact h
 have HB0:=ah hb0
 have HS0:=ah hS0
 have HO0:=ah hO0
 have HX0:=ah hX0
 have HW:=ah hW
 clear hb0 hS0 hO0 hX0 hW
 go_enter func149,ntmps149
 go_wp2
 go_loopw [6] (fun i wr => ∃ k:Nat,k ≤ 16 ∧ i = .int .i64 k ∧ Arr wr (w.heap.size + 2) 64 (bE (qW r k)) ∧ Arr wr w.heap.size 8 (bE st) ∧ Arr wr (w.heap.size + 1) 8 (fun _ => .int .u32 0) ∧ Below w.heap.size w wr) (fun i _ => (16 - intOf i).toNat)
 case atStart =>
  have e:=HW.out
  exact ⟨0,by omega,rfl,by have:=HX0.out;rw [e] at this;exact this,by have:=HS0.out;rw [e] at this;exact this,by have:=HO0.out;rw [e] at this;exact this,by have:=HB0.out;rw [e] at this;exact this⟩
 obtain ⟨wo,rfl⟩:∃ wo:World,wo = wr:=⟨_,rfl⟩
 obtain ⟨k,hk,rfl,hX,hS,hO,hb⟩:=hrel
 clear HB0 HS0 HO0 HX0 HW
 by_cases hlt:k < 16
 ·have i0:=fun w => HI.out w (4 * k) (by omega)
  have i1:=fun w => HI.out w (4 * k + 1) (by omega)
  have i2:=fun w => HI.out w (4 * k + 2) (by omega)
  have i3:=fun w => HI.out w (4 * k + 3) (by omega)
  simp only [Int.natCast_add,Int.natCast_mul,Int.cast_ofNat_Int] at i0 i1 i2 i3
  have b0:=oV (r (4 * k));have b1:=oV (r (4 * k + 1));have b2:=oV (r (4 * k + 2));have b3:=oV (r (4 * k + 3))
  have p0:=sD (bw (r (4 * k)));have p1:=sD (bw (r (4 * k + 1)));have p2:=sD (bw (r (4 * k + 2)));have p3:=sD (bw (r (4 * k + 3)))
  have c1:=hX.cell k (by omega)
  have f1:=hX.free k (by omega)
  unfold bE at c1
  have hsX:w.heap.size + 2 < wo.heap.size:=hX.lt (by omega)
  have k0:(0:Int) ≤ k:=by omega
  have k1:(k:Int) < 16:=by omega
  have hd:decide ((k:Int) < 16) = true:=decide_eq_true (by omega)
  have HXX:=ah hX
  have HSS:=ah hS
  have HOO:=ah hO
  have HBB:=ah hb
  clear hX hS hO hb
  go_wp2
  refine bg 31 (by kernel_rfl) (by kernel_rfl) ?_
  simp only [List.take_succ_cons,List.take_zero,List.drop_succ_cons,List.drop_zero]
  repeat (go_big_quiet_step (fail))
  refine wpQuiet_nil ?_
  intro wq hbq
  have g1:=au c1 hbq hsX
  have h1:wq.frozen? ⟨w.heap.size + 2,k,none⟩ = false:=by rw [hbq.frozen (p:=⟨w.heap.size + 2,k,none⟩) hsX];exact f1
  clear c1 f1
  go_wp2
  go_roundw
  case rel =>
   rw [K9]
   have hx:=(HXX.out.below hbq hsX).set k (by omega) (.int .u32 (wn (eD r k 4)))
   rw [lM,Gc] at hx
   have hbb:=HBB.out
   have hsz:=hbb.size
   refine ⟨k + 1,by omega,by go_num,hx,(HSS.out.below hbq (HSS.out.lt (by omega))).far (by show w.heap.size + 2 ≠ w.heap.size;omega) _,(HOO.out.below hbq (HOO.out.lt (by omega))).far (by show w.heap.size + 2 ≠ w.heap.size + 1;omega) _,(hbb.trans (hbq.mono hsz)).setCell (by show w.heap.size ≤ w.heap.size + 2;omega) _⟩
  case measure => simp [intOf];omega
 obtain rfl:k = 16:=by omega
 rw [MU] at hX
 have HXX:=ah hX
 have HSS:=ah hS
 have HOO:=ah hO
 have HBB:=ah hb
 clear hX hS hO hb
 go_wp2
 go_loopw [7] (fun i wr => ∃ n:Nat,n ≤ 48 ∧ i = .int .i64 (16 + n:Nat) ∧ Arr wr (w.heap.size + 2) 64 (bE (aT r n)) ∧ Arr wr w.heap.size 8 (bE st) ∧ Arr wr (w.heap.size + 1) 8 (fun _ => .int .u32 0) ∧ Below w.heap.size w wr) (fun i _ => (64 - intOf i).toNat)
 case atStart => exact ⟨0,by omega,rfl,HXX.out,HSS.out,HOO.out,HBB.out⟩
 obtain ⟨wi,rfl⟩:∃ wi:World,wi = wr:=⟨_,rfl⟩
 obtain ⟨n,hn,rfl,hX,hS,hO,hb⟩:=hrel
 clear HXX HSS HOO HBB
 generalize hm:16 + n = m
 by_cases hnl:n < 48
 ·have c2:=hX.cell (m - 2) (by omega)
  have c7:=hX.cell (m - 7) (by omega)
  have c15:=hX.cell (m - 15) (by omega)
  have c16:=hX.cell (m - 16) (by omega)
  have cm:=hX.cell m (by omega)
  have fm:=hX.free m (by omega)
  have hsz:w.heap.size + 2 < wi.heap.size:=hX.lt (by omega)
  unfold bE at c2 c7 c15 c16 cm
  have m0:(16:Int) ≤ m:=by omega
  have m1:(m:Int) < 64:=by omega
  have hd2:decide ((m:Int) < 64) = true:=decide_eq_true (by omega)
  have HXX:=ah hX
  have HSS:=ah hS
  have HOO:=ah hO
  have HBB:=ah hb
  clear hX hS hO hb
  have a2:IntKind.i64.wrap ((m:Int) - 2) = (m:Int) - 2:=IntWalk.i64_in _ (by omega)
  have t2:((m:Int) - 2).toNat = m - 2:=by omega
  have z2:(2:Int) ≤ m:=by omega
  have y2:(m:Int) - 2 < 64:=by omega
  have a7:IntKind.i64.wrap ((m:Int) - 7) = (m:Int) - 7:=IntWalk.i64_in _ (by omega)
  have t7:((m:Int) - 7).toNat = m - 7:=by omega
  have z7:(7:Int) ≤ m:=by omega
  have y7:(m:Int) - 7 < 64:=by omega
  have a15:IntKind.i64.wrap ((m:Int) - 15) = (m:Int) - 15:=IntWalk.i64_in _ (by omega)
  have t15:((m:Int) - 15).toNat = m - 15:=by omega
  have z15:(15:Int) ≤ m:=by omega
  have y15:(m:Int) - 15 < 64:=by omega
  have a16:IntKind.i64.wrap ((m:Int) - 16) = (m:Int) - 16:=IntWalk.i64_in _ (by omega)
  have t16:((m:Int) - 16).toNat = m - 16:=by omega
  have z16:(16:Int) ≤ m:=by omega
  have y16:(m:Int) - 16 < 64:=by omega
  have EA:=nN
  have EX:=tQ
  have ES1:∀ x:W32,wn x / (1024:Int) = wn (x >>> 10):=fun x => AV x 10
  have ES2:∀ x:W32,wn x / (8:Int) = wn (x >>> 3):=fun x => AV x 3
  have HNW:Hid (DR (aT r n) m = jM (aT r n (m - 2)) 17 19 10 + aT r n (m - 7) + jM (aT r n (m - 15)) 7 18 3 + aT r n (m - 16)):=ah rfl
  generalize aT r n (m - 2) = y at c2 HNW
  generalize aT r n (m - 15) = x at c15 HNW
  generalize aT r n (m - 7) = u at c7 HNW
  generalize aT r n (m - 16) = v at c16 HNW
  generalize aT r n m = q at cm
  have K1:∀ w,Calls prog 206 #[.int .u32 (wn y),.int .u64 17] w fun e w' => e = .returned (.int .u32 (wn (BitVec.rotateRight y 17))) ∧ w' = w:=fun w => fG y 17 17 rfl (by omega) (by omega) w
  have K2:∀ w,Calls prog 206 #[.int .u32 (wn y),.int .u64 19] w fun e w' => e = .returned (.int .u32 (wn (BitVec.rotateRight y 19))) ∧ w' = w:=fun w => fG y 19 19 rfl (by omega) (by omega) w
  have K3:∀ w,Calls prog 206 #[.int .u32 (wn x),.int .u64 7] w fun e w' => e = .returned (.int .u32 (wn (BitVec.rotateRight x 7))) ∧ w' = w:=fun w => fG x 7 7 rfl (by omega) (by omega) w
  have K4:∀ w,Calls prog 206 #[.int .u32 (wn x),.int .u64 18] w fun e w' => e = .returned (.int .u32 (wn (BitVec.rotateRight x 18))) ∧ w' = w:=fun w => fG x 18 18 rfl (by omega) (by omega) w
  go_wp2
  refine wbq ?_
  have LQ0:=blq c15
  have LQ1:=blq c2
  repeat (go_big_quiet_step (fail))
  refine wpQuiet_nil ?_
  intro wq hbq
  clear LQ0 LQ1
  obtain ⟨wa,rfl⟩:∃ wa:World,wa = wq:=⟨_,rfl⟩
  have hb7:=hbq
  clear hbq
  have d7:=au c7 hb7 hsz
  have d16:=au c16 hb7 hsz
  have hsa:w.heap.size + 2 < wa.heap.size:=by have:=hb7.size;omega
  go_wp2
  refine bg 29 (by kernel_rfl) (by kernel_rfl) ?_
  simp only [List.take_succ_cons,List.take_zero,List.drop_succ_cons,List.drop_zero]
  have LQ0:=blq d7
  have LQ1:=blq d16
  repeat (go_big_quiet_step ((first | (go_at_call 206;with_reducible exact bL (K1 _)) | (go_at_call 206;with_reducible exact bL (K2 _)) | (go_at_call 206;with_reducible exact bL (K3 _)) | (go_at_call 206;with_reducible exact bL (K4 _)))))
  refine wpQuiet_nil ?_
  intro wq hbq
  clear LQ0 LQ1
  have hbe:=hb7.trans (hbq.mono hb7.size)
  have cmn:=au cm hbe hsz
  have fmn:wq.frozen? ⟨w.heap.size + 2,m,none⟩ = false:=by rw [hbe.frozen (p:=⟨w.heap.size + 2,m,none⟩) hsz];exact fm
  have HBE:=ah hbe
  clear c2 c7 c15 c16 cm fm d7 d16 K1 K2 K3 K4 hbq hb7 hbe
  go_wp2
  go_roundw
  case rel =>
   have hx:=(HXX.out.below HBE.out hsz).set m (by omega) (.int .u32 (wn (jM y 17 19 10 + u + jM x 7 18 3 + v)))
   have e:upd (aT r n) m (jM y 17 19 10 + u + jM x 7 18 3 + v) = aT r (n + 1):=by rw [← HNW.out,← hm];rfl
   rw [lM,e] at hx
   have hbb:=HBB.out
   exact ⟨n + 1,by omega,by rw [← hm];go_num,hx,(HSS.out.below HBE.out (HSS.out.lt (by omega))).far (by show w.heap.size + 2 ≠ w.heap.size;omega) _,(HOO.out.below HBE.out (HOO.out.lt (by omega))).far (by show w.heap.size + 2 ≠ w.heap.size + 1;omega) _,(hbb.trans (HBE.out.mono hbb.size)).setCell (by show w.heap.size ≤ w.heap.size + 2;omega) _⟩
  case measure => simp [intOf];omega
 obtain rfl:n = 48:=by omega
 obtain rfl:m = 64:=by omega
 have hsz:w.heap.size + 2 < wi.heap.size:=hX.lt (by omega)
 have c0:=hS.cell 0 (by omega)
 have c1:=hS.cell 1 (by omega)
 have c2:=hS.cell 2 (by omega)
 have c3:=hS.cell 3 (by omega)
 have c4:=hS.cell 4 (by omega)
 have c5:=hS.cell 5 (by omega)
 have c6:=hS.cell 6 (by omega)
 have c7:=hS.cell 7 (by omega)
 unfold bE at c0 c1 c2 c3 c4 c5 c6 c7
 generalize hW:aT r 48 = Wd at hX
 have HWW:=ah hW
 have HXX:=ah hX
 have HSS:=ah hS
 have HOO:=ah hO
 have HBB:=ah hb
 clear hX hS hO hb hW
 go_wp2_with fail
 refine (Fz _).mono ?_
 rintro e w1 ⟨rfl,hb1⟩
 have hA1:=Arr.new w1 64 (.int .u32 0) 280
 have hA2:=hA1.Bw kV tC
 have h64:(prog.info? 280).map (·.size) = some 64:=by kernel_rfl
 have hone:∀ v ∈ kV,v.oneCell' = true:=by
  intro v hv;obtain ⟨x,_,rfl⟩:=List.mem_map.1 hv;rfl
 have hK:∀ k,k < 64 → kV.getD k undef = .int .u32 (wn (rK k)):=fun k hk => by
  unfold kV rK
  have:k < jP.length:=by rw [lQ];exact hk
  simp [this]
 have hA3:=hA2.congr hK
 have hbs:Below w1.heap.size w1 ((w1.alloc (.cells (Array.replicate 64 (.int .u32 0)) 280)).setCells w1.heap.size 0 kV):=below_setCells _ (Nat.le_refl _) kV 0 _ bal
 have HTH:=ah hA1.there
 have HON:=ah hone
 have HLN:=ah tC
 have HA3:=ah hA3
 have HBS:=ah hbs
 clear hA1 hA2 hA3 hone hK hbs
 generalize kV = KV at HTH HON HLN HA3 HBS
 go_wp2_with (refine aj rfl 280 _ _ rfl w1.heap.size 0 KV ?y1 ?y2 64 HLN.out ?y4 h64 HON.out ?_)
 case y4 => exact HTH.out
 try case y1 => rfl
 try case y2 => rfl
 generalize hWc:World.setCells _ w1.heap.size 0 KV = wc
 have hA4:Arr wc w1.heap.size 64 (fun k => .int .u32 (wn (rK k))):=by rw [← hWc];exact HA3.out
 have hbc:Below wi.heap.size wi wc:=hb1.trans ((by rw [← hWc];exact HBS.out:Below w1.heap.size w1 wc).mono hb1.size)
 have hsc:w1.heap.size < wc.heap.size:=hA4.lt (by omega)
 have hs1:=hb1.size
 have HA4:=ah hA4
 have HBC:=ah hbc
 have d0:=au c0 hbc (by omega)
 have d1:=au c1 hbc (by omega)
 have d2:=au c2 hbc (by omega)
 have d3:=au c3 hbc (by omega)
 have d4:=au c4 hbc (by omega)
 have d5:=au c5 hbc (by omega)
 have d6:=au c6 hbc (by omega)
 have d7:=au c7 hbc (by omega)
 clear hWc HA3 HBS HTH HON HLN hA4 hbc hb1 c0 c1 c2 c3 c4 c5 c6 c7
 go_wp2
 simp only [Act.put]
 refine wbq ?_
 have LQ0:=blq d0
 have LQ1:=blq d1
 have LQ2:=blq d2
 have LQ3:=blq d3
 repeat (go_big_quiet_step (fail))
 refine wpQuiet_nil ?_
 intro wq hbq
 clear LQ0 LQ1 LQ2 LQ3
 obtain ⟨wd,rfl⟩:∃ wd:World,wd = wq:=⟨_,rfl⟩
 have hbd:=hbq
 clear hbq
 have g4:=au d4 hbd (by omega)
 have g5:=au d5 hbd (by omega)
 have g6:=au d6 hbd (by omega)
 have g7:=au d7 hbd (by omega)
 have hsd:w1.heap.size < wd.heap.size:=by have:=hbd.size;omega
 go_wp2
 refine wbq ?_
 have LQ0:=blq g4
 have LQ1:=blq g5
 have LQ2:=blq g6
 have LQ3:=blq g7
 repeat (go_big_quiet_step (fail))
 refine wpQuiet_nil ?_
 intro wq hbq
 clear LQ0 LQ1 LQ2 LQ3
 have hbf:Below wi.heap.size wi wq:=HBC.out.trans ((hbd.trans (hbq.mono hbd.size)).mono HBC.out.size)
 have hK5:Arr wq w1.heap.size 64 (fun k => .int .u32 (wn (rK k))):=HA4.out.below (hbd.trans (hbq.mono hbd.size)) hsc
 have HBF:=ah hbf
 have HK5:=ah hK5
 obtain ⟨wg,rfl⟩:∃ wg:World,wg = wq:=⟨_,rfl⟩
 clear d0 d1 d2 d3 d4 d5 d6 d7 g4 g5 g6 g7 hbd hbq hbf hK5
 go_wp2
 go_loopw [11,12,13,14,15,16,17,18,19] (fun v0 v1 v2 v3 v4 v5 v6 v7 i wr => ∃ n:Nat,n ≤ 64 ∧ i = .int .i64 n ∧ v0 = .int .u32 (wn (bB Wd st n 0)) ∧ v1 = .int .u32 (wn (bB Wd st n 1)) ∧ v2 = .int .u32 (wn (bB Wd st n 2)) ∧ v3 = .int .u32 (wn (bB Wd st n 3)) ∧ v4 = .int .u32 (wn (bB Wd st n 4)) ∧ v5 = .int .u32 (wn (bB Wd st n 5)) ∧ v6 = .int .u32 (wn (bB Wd st n 6)) ∧ v7 = .int .u32 (wn (bB Wd st n 7)) ∧ Below wg.heap.size wg wr) (fun _ _ _ _ _ _ _ _ i _ => (64 - intOf i).toNat)
 case atStart => exact ⟨0,by omega,rfl,rfl,rfl,rfl,rfl,rfl,rfl,rfl,rfl,Below.refl _ _⟩
 obtain ⟨wh,rfl⟩:∃ wh:World,wh = wr:=⟨_,rfl⟩
 obtain ⟨n,hn,rfl,rfl,rfl,rfl,rfl,rfl,rfl,rfl,rfl,hbh⟩:=hrel
 have hsg:w1.heap.size < wg.heap.size:=HK5.out.lt (by omega)
 have hsh:=hbh.size
 by_cases hnl:n < 64
 ·have cK:=(HK5.out.below hbh hsg).cell n (by omega)
  have hXg:Arr wg (w.heap.size + 2) 64 (bE Wd):=HXX.out.below HBF.out hsz
  have hsz2:w.heap.size + 2 < wg.heap.size:=hXg.lt (by omega)
  have cW:=(hXg.below hbh hsz2).cell n (by omega)
  unfold bE at cW
  have n0:(0:Int) ≤ n:=by omega
  have n1:(n:Int) < 64:=by omega
  have hd3:decide ((n:Int) < 64) = true:=decide_eq_true (by omega)
  have HRN:Hid (bB Wd st (n + 1) = stepW (bB Wd st n) (rK n) (Wd n)):=ah rfl
  generalize bB Wd st n = R at HRN
  have HHB:=ah hbh
  clear hXg hbh
  have EA:=nN
  have EX:=tQ
  have EN:=Le
  have EO:=Oe
  have EC:=Bh
  have K1:∀ w,Calls prog 206 #[.int .u32 (wn (R 4)),.int .u64 6] w fun e w' => e = .returned (.int .u32 (wn (BitVec.rotateRight (R 4) 6))) ∧ w' = w:=fun w => fG (R 4) 6 6 rfl (by omega) (by omega) w
  have K2:∀ w,Calls prog 206 #[.int .u32 (wn (R 4)),.int .u64 11] w fun e w' => e = .returned (.int .u32 (wn (BitVec.rotateRight (R 4) 11))) ∧ w' = w:=fun w => fG (R 4) 11 11 rfl (by omega) (by omega) w
  have K3:∀ w,Calls prog 206 #[.int .u32 (wn (R 4)),.int .u64 25] w fun e w' => e = .returned (.int .u32 (wn (BitVec.rotateRight (R 4) 25))) ∧ w' = w:=fun w => fG (R 4) 25 25 rfl (by omega) (by omega) w
  go_wp2
  refine wbq ?_
  have LQ0:=blq cK
  have LQ1:=blq cW
  repeat (go_big_quiet_step ((first | (go_at_call 206;with_reducible exact bL (K1 _)) | (go_at_call 206;with_reducible exact bL (K2 _)) | (go_at_call 206;with_reducible exact bL (K3 _)))))
  refine wpQuiet_nil ?_
  intro wq hbq
  clear LQ0 LQ1
  obtain ⟨wj,rfl⟩:∃ wj:World,wj = wq:=⟨_,rfl⟩
  have HBQ:=ah hbq
  clear hbq K1 K2 K3 cK cW
  rw [nN]
  have eT:R 7 + (BitVec.rotateRight (R 4) 6 ^^^ BitVec.rotateRight (R 4) 11 ^^^ BitVec.rotateRight (R 4) 25) + (R 4 &&& R 5 ||| ~~~R 4 &&& R 6) + rK n + Wd n = tW R (rK n) (Wd n):=by unfold tW ni;rw [QV]
  rw [eT]
  clear eT
  generalize hT:tW R (rK n) (Wd n) = T
  have HTT:=ah hT
  clear hT
  go_wp2_with (go_at_call 206;first | ((with_reducible refine (fG (R 0) 2 2 rfl (by omega) (by omega) _).mono ?_);rintro e w' ⟨rfl,rfl⟩) | ((with_reducible refine (fG (R 0) 13 13 rfl (by omega) (by omega) _).mono ?_);rintro e w' ⟨rfl,rfl⟩) | ((with_reducible refine (fG (R 0) 22 22 rfl (by omega) (by omega) _).mono ?_);rintro e w' ⟨rfl,rfl⟩))
  go_roundw
  case rel =>
   rw [nN,nN]
   have eU:(BitVec.rotateRight (R 0) 2 ^^^ BitVec.rotateRight (R 0) 13 ^^^ BitVec.rotateRight (R 0) 22) + (R 0 &&& R 1 ||| R 0 &&& R 2 ||| R 1 &&& R 2) = uW R:=by unfold uW ni;rw [Qk]
   rw [eU]
   have h0:bB Wd st (n + 1) 0 = T + uW R:=by rw [HRN.out,← HTT.out];rfl
   have h4:bB Wd st (n + 1) 4 = R 3 + T:=by rw [HRN.out,← HTT.out];rfl
   have hh:∀ k,bB Wd st (n + 1) k = stepW R (rK n) (Wd n) k:=fun k => by rw [HRN.out]
   refine ⟨n + 1,by omega,by go_num,by rw [h0],by rw [hh];rfl,by rw [hh];rfl,by rw [hh];rfl,by rw [h4],by rw [hh];rfl,by rw [hh];rfl,by rw [hh];rfl,HHB.out.trans (HBQ.out.mono HHB.out.size)⟩
  case measure => simp [intOf];omega
 obtain rfl:n = 64:=by omega
 have hSg:Arr wg w.heap.size 8 (bE st):=HSS.out.below HBF.out (by omega)
 have hOg:Arr wg (w.heap.size + 1) 8 (fun _ => .int .u32 0):=HOO.out.below HBF.out (by omega)
 have hlg:w.heap.size + 1 < wg.heap.size:=hOg.lt (by omega)
 have hSh:=hSg.below hbh (by omega)
 have hOh:=hOg.below hbh (by omega)
 have c0:=hSh.cell 0 (by omega)
 have c1:=hSh.cell 1 (by omega)
 have c2:=hSh.cell 2 (by omega)
 have c3:=hSh.cell 3 (by omega)
 have c4:=hSh.cell 4 (by omega)
 have c5:=hSh.cell 5 (by omega)
 have c6:=hSh.cell 6 (by omega)
 have c7:=hSh.cell 7 (by omega)
 unfold bE at c0 c1 c2 c3 c4 c5 c6 c7
 have hfin:∀ k,dK st r k = st k + bB Wd st 64 k:=fun k => by unfold dK;rw [HWW.out]
 generalize bB Wd st 64 = X at hfin
 have HF:=ah hfin
 have hth:=hOh.there
 have h8:(prog.info? 226).map (·.size) = some 8:=by kernel_rfl
 have hbw:Below w.heap.size w wh:=by
  have h1:=HBB.out;have h2:=HBF.out
  exact (h1.trans (h2.mono h1.size)).trans (hbh.mono (Nat.le_trans h1.size h2.size))
 have hfr:=World.rangeAt_setCells_same wh (w.heap.size + 1) 0 [.int .u32 (wn (st 0 + X 0)),.int .u32 (wn (st 1 + X 1)),.int .u32 (wn (st 2 + X 2)),.int .u32 (wn (st 3 + X 3)),.int .u32 (wn (st 4 + X 4)),.int .u32 (wn (st 5 + X 5)),.int .u32 (wn (st 6 + X 6)),.int .u32 (wn (st 7 + X 7))] hth
 have hbf:=below_setCells (B:=w.heap.size) (a:=w) (w.heap.size + 1) (by omega) [.int .u32 (wn (st 0 + X 0)),.int .u32 (wn (st 1 + X 1)),.int .u32 (wn (st 2 + X 2)),.int .u32 (wn (st 3 + X 3)),.int .u32 (wn (st 4 + X 4)),.int .u32 (wn (st 5 + X 5)),.int .u32 (wn (st 6 + X 6)),.int .u32 (wn (st 7 + X 7))] 0 wh hbw
 have HTH:=ah hth
 have HFR:=ah hfr
 have HBW:=ah hbf
 have EA:=nN
 clear hSg hOg hSh hOh hfin hth hfr hbf hbw hbh
 go_wp2_with (refine aj rfl 226 _ _ rfl (w.heap.size + 1) 0 [.int .u32 (wn (st 0 + X 0)),.int .u32 (wn (st 1 + X 1)),.int .u32 (wn (st 2 + X 2)),.int .u32 (wn (st 3 + X 3)),.int .u32 (wn (st 4 + X 4)),.int .u32 (wn (st 5 + X 5)),.int .u32 (wn (st 6 + X 6)),.int .u32 (wn (st 7 + X 7))] ?z1 ?z2 8 rfl HTH.out h8 ?z3 ?_)
 try case z1 => rfl
 try case z2 => go_simp
 case z3 => simp [Value.oneCell']
 rw [HF.out 0,HF.out 1,HF.out 2,HF.out 3,HF.out 4,HF.out 5,HF.out 6,HF.out 7]
 simp only [Act.put]
 refine bK rfl (w.heap.size + 1) 0 rfl [.int .u32 (wn (st 0 + X 0)),.int .u32 (wn (st 1 + X 1)),.int .u32 (wn (st 2 + X 2)),.int .u32 (wn (st 3 + X 3)),.int .u32 (wn (st 4 + X 4)),.int .u32 (wn (st 5 + X 5)),.int .u32 (wn (st 6 + X 6)),.int .u32 (wn (st 7 + X 7))] _ HFR.out underlying226 rfl h8 rfl ⟨rfl,HBW.out⟩
end
end Go.Proofs.YtlhcoanbhnphgaaGreatDoor
