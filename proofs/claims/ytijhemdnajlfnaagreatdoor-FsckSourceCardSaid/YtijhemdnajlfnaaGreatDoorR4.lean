/- A part of this claim. -/
import Derived.BigQuiet
import Derived.IntWalk
import Derived.Laws.BitsAllLaws
import Derived.StillTail
import Derived.Test.YtijhemdnajlfnaaGreatDoorChecked
import Derived.Test.YtijhemdnajlfnaaGreatDoorR3
namespace Go.Proofs.YtijhemdnajlfnaaGreatDoor
open Tryz
set_option maxHeartbeats 64000000
set_option maxRecDepth 100000
section
open Go.RowKit
section
variable {P:Program} {ops:Array Oper} {md:Region.Mode} {C:World → Prop}
def tq (P:Program) (md:Region.Mode) (ops:Array Oper) (C:World → Prop) (n:Nat) (L:Array Bool → Act → Prop):Nat → Array Bool → Act → Prop
 | 0,ls,a => L ls a
 | f + 1,ls,a => Region.ready md ops ls ≠ [] ∧ ∀ i ∈ Region.ready md ops ls,i < n ∧ qOp P ops C i (tq P md ops C n L f (ls.setIfInBounds i true)) a
theorem OG {n g:Nat} {L:Array Bool → Act → Prop} {Q:Exit → Act → World → Prop} (hL:∀ ls a w,C w → L ls a → wpAny P md ops Q g ls a w) :
  ∀ (f:Nat) (ls:Array Bool) (a:Act) (w:World),C w → tq P md ops C n L f ls a → wpAny P md ops Q (f + g) ls a w:=by
 intro f
 induction f with
 | zero => intro ls a w hw h;rw [Nat.zero_add];exact hL ls a w hw h
 | succ f ih =>
  intro ls a w hw h
  rw [show f + 1 + g = (f + g) + 1 from by omega]
  exact ⟨fun h0 => absurd h0 h.1,fun i hi => wpOp_of_qOp hw (fun a' w' hw' h' => ih _ a' w' hw' h') (h.2 i hi).2⟩
theorem Ky {n i:Nat} {oi:Oper} {v:Value} {L:Array Bool → Act → Prop} (hi:ops[i]? = some oi) (hsel:∀ (j:Nat) (o:Oper) cs b,ops[j]? = some o → o.op ≠ .select cs b)
  (hs:Region.sinkB md ops n = true) (hc:Region.chainB md ops n = true) (hn:n < ops.size) (hin:i < n) (hdone:∀ ls a,L ls a → ∀ j ∈ Region.ready md ops ls,n ≤ j) :
  ∀ (f:Nat) (ls:Array Bool) (a:Act),HeadInv md ops n ls →
   (∀ j oj,ops[j]? = some oj → j ≠ i → ls.getD j true = false → (∀ e ∈ oj.after,Region.binds md e = true → e.on ≠ i) → oi.apart ops oj = true) →
   i ∈ Region.ready md ops ls → YieldsIn P ops C oi v a → tq P md ops C n L f (ls.setIfInBounds i true) (a.put oi.dst v) → tq P md ops C n L (f + 1) ls a:=by
 intro f
 induction f with
 | zero =>
  intro ls a inv _ hr hy H
  refine ⟨fun h0 => (by rw [h0] at hr;cases hr),fun j hj => ?_⟩
  have hjn:j < n:=Nat.lt_of_not_ge fun h0 => tail_waits hs hc hn inv _ i rfl hin (mem_ready.1 hr).1 j h0 hj
  refine ⟨hjn,?_⟩
  by_cases e:j = i
  ·subst e;exact hy.qOp hi H
  have:=hdone _ _ H j (ready_mono hj e);omega
 | succ f ih =>
  intro ls a inv hfree hr hy H
  have hun:=(mem_ready.1 hr).1
  refine ⟨fun h0 => (by rw [h0] at hr;cases hr),fun j hj => ?_⟩
  have hjn:j < n:=Nat.lt_of_not_ge fun h0 => tail_waits hs hc hn inv _ i rfl hin hun j h0 hj
  refine ⟨hjn,?_⟩
  by_cases e:j = i
  ·subst e;exact hy.qOp hi H
  obtain ⟨hjun,oj,hoj,hall⟩:=mem_ready.1 hj
  have hnot:∀ x ∈ oj.after,Region.binds md x = true → x.on ≠ i:=fun x hx hb heq => by
   have h1:=hall x hx hb
   rw [heq,getD_both hun] at h1
   cases h1
  have h2:=qOp_put hoj (hfree j oj hoj e hjun hnot) (fun cs b => hsel i oi cs b hi) (fun cs b => hsel j oj cs b hoj) hy (H.2 j (ready_mono hj e)).2
  refine qOp_mono (fun a' h3 => ih (ls.setIfInBounds j true) a' (inv.set hj hjn) ?_ (ready_mono hr (Ne.symm e)) h3.1 ?_) h2
  ·intro k ok hk hki hkun hno
   refine hfree k ok hk hki ?_ hno
   by_cases ejk:j = k
   ·subst ejk;exact hjun
   rwa [getD_set_ne true ejk] at hkun
  rw [Array.setIfInBounds_comm _ _ e];exact h3.2
theorem OH {n g:Nat} {Lq:Act → Prop} (hsel:Region.noSelect ops = true) (hs:Region.sinkB md ops n = true) (hc:Region.chainB md ops n = true) (hn:n < ops.size) :
  ∀ (l:List Oper) (k:Nat) (ls:Array Bool) (a:Act),(∀ j,j < l.length → l[j]? = ops[k + j]?) → k + l.length = n → HeadInv md ops n ls →
  Region.lexHead md ops g l.length k ls = true → wpQuiet P ops C Lq l a → tq P md ops C n (fun ls' a' => Region.seqB md ops g n ls' = true ∧ Lq a') l.length ls a:=by
 intro l
 induction l with
 | nil =>
  intro k ls a _ hk _ hB h
  obtain rfl:k = n:=by simpa using hk
  exact ⟨by simpa [Region.lexHead] using hB,h⟩
 | cons o l ih =>
  intro k ls a hl hk inv hB h
  have h0:ops[k]? = some o:=by simpa using (hl 0 (by simp)).symm
  simp only [List.length_cons,Region.lexHead,Bool.and_eq_true] at hB
  obtain ⟨⟨hr,hf⟩,hB'⟩:=hB
  have hkn:k < n:=by simp only [List.length_cons] at hk;omega
  have hr':k ∈ Region.ready md ops ls:=by simpa using hr
  obtain ⟨v,hy,hK⟩:=yieldsIn_of_qOp h0 (show qOp P ops C k (wpQuiet P ops C Lq l) a from by unfold qOp;simp only [h0];exact h)
  exact Ky h0 (Region.noSelect_spec hsel) hs hc hn hkn (fun _ _ hL => seqB_ready hL.1) l.length ls a inv (Region.free_spec h0 hf) hr' hy
   (ih (k + 1) _ _ (fun j hj => by have:=hl (j + 1) (by simp;omega);simpa [Nat.add_assoc,Nat.add_comm 1 j] using this) (by simp only [List.length_cons] at hk;omega) (inv.set hr' hkn) hB' hK)
structure BW (B:Nat) (w:World) where
 out:World
 hb:Below B w out
instance (B:Nat) (w:World):Nonempty (BW B w):=⟨⟨w,Below.refl _ _⟩⟩
theorem aU {P:Program} {f:FuncId} {args:Array Value} {w:World} {v:Value} {x:BW w.heap.size w} (h:Calls P f args x.out fun e w' => e = .returned v ∧ Below x.out.heap.size x.out w') :
  Calls P f args x.out fun e w'' => e = .returned v ∧ ∃ y:BW w.heap.size w,w'' = y.out :=
 h.mono fun _ w' ⟨he,hb⟩ => ⟨he,⟨w',x.hb.trans (hb.mono x.hb.size)⟩,rfl⟩
theorem bY {P:Program} {f:FuncId} {args:Array Value} {w:World} {v:Value} {x:BW w.heap.size w} (h:Calls P f args x.out fun e w' => e = .returned v ∧ w' = x.out) :
  Calls P f args x.out fun e w'' => e = .returned v ∧ ∃ y:BW w.heap.size w,w'' = y.out :=
 h.mono fun _ _ ⟨he,hw⟩ => ⟨he,x,hw⟩
theorem oP {id:Nat} {Q:Exit → Act → World → Prop} {a:Act} {w:World} {l:List Oper} (hm:P.follows .mixedOrders = true) (hB:Region.lexB .any l.toArray = true)
  (h:wpQuiet P l.toArray (fun w' => ∃ x:BW w.heap.size w,w' = x.out) (fun a' => ∀ w',Below w.heap.size w w' → Q .normal a' w') l a):(Code.region id l.toArray true).wp P Q a w :=
 wp_region_quiet (C:=fun w' => ∃ x:BW w.heap.size w,w' = x.out) hm hB ⟨⟨{ w with drawn:=w.drawn + 1 },⟨rfl,rfl,rfl,Nat.le_refl _,fun _ _ => rfl⟩⟩,rfl⟩
  (by
   have:(fun a' => ∀ w',(∃ x:BW w.heap.size w,w' = x.out) → Q .normal a' w') = (fun a' => ∀ w',Below w.heap.size w w' → Q .normal a' w'):=by
    funext a';exact propext ⟨fun H w' hb => H w' ⟨⟨w',hb⟩,rfl⟩,fun H w' ⟨x,e⟩ => by subst e;exact H _ x.hb⟩
   rw [this];simpa using h)
theorem dL {id:Nat} {Q:Exit → Act → World → Prop} {a:Act} {w:World} {l:List Oper} (n:Nat) (hm:P.follows .mixedOrders = true) (hB:Region.lexTailB .any l.toArray n = true)
  (h:wpQuiet P l.toArray (fun w' => ∃ x:BW w.heap.size w,w' = x.out) (fun a' => ∀ w',Below w.heap.size w w' → wpList P l.toArray Q (l.drop n) a' w') (l.take n) a):(Code.region id l.toArray true).wp P Q a w:=by
 simp only [Region.lexTailB,Bool.and_eq_true,decide_eq_true_eq] at hB
 obtain ⟨⟨⟨⟨hsel,hn⟩,hs⟩,hc⟩,hlex⟩:=hB
 have hn':n < l.length:=by simpa using hn
 have htl:(l.take n).length = n:=by simp;omega
 have hdl:(l.drop n).length = l.toArray.size - n:=by simp
 have inv:HeadInv .any l.toArray n (Array.replicate l.toArray.size false) :=
  ⟨by simp,fun j oj _ hl => (by rw [getD_replicate_false] at hl;cases hl),fun t _ ht => getD_in (by simpa using ht) (getD_replicate_false _ _)⟩
 have H:=OH (md:=.any) (g:=l.toArray.size - n) hsel hs hc hn (l.take n) 0 _ a (fun j hj => by rw [htl] at hj;simp [hj]) (by simpa using htl) inv (by rw [htl];exact hlex) h
 refine wp_region_any hm ?_
 have:=OG (Q:=Q) (g:=l.toArray.size - n) (fun ls a' w' hw' hL => by
  obtain ⟨x,rfl⟩:=hw'
  have:=wpAny_of_seq (md:=.any) (Q':=Q) (l.drop n) n ls a' x.out (fun j => by simp [List.getElem?_drop]) (by rw [hdl];exact hL.1) (hL.2 _ x.hb)
  rwa [hdl] at this) _ _ _ { w with drawn:=w.drawn + 1 } ⟨⟨{ w with drawn:=w.drawn + 1 },⟨rfl,rfl,rfl,Nat.le_refl _,fun _ _ => rfl⟩⟩,rfl⟩ H
 rw [htl,show n + (l.toArray.size - n) = l.toArray.size from by omega] at this
 exact this
end
abbrev W32:=BitVec 32
def wn (x:W32):Int:=x.toNat
theorem wn_0 (x:W32):0 ≤ wn x:=by unfold wn;omega
theorem nO (x:W32):wn x < 4294967296:=by unfold wn;have:=x.isLt;omega
theorem b32 (x:W32):x.toNat < 4294967296:=x.isLt
theorem nP (x y:W32):bits .xor .u32 (wn x) (wn y) = wn (x ^^^ y):=by
 unfold wn;rw [u32_xor_nat _ _ (b32 x) (b32 y),BitVec.toNat_xor]
theorem Kr (x y:W32):bits .and .u32 (wn x) (wn y) = wn (x &&& y):=by
 unfold wn;rw [u32_and_nat _ _ (b32 x) (b32 y),BitVec.toNat_and]
theorem w_or (x y:W32):bits .or .u32 (wn x) (wn y) = wn (x ||| y):=by
 unfold wn;rw [u32_or_nat _ _ (b32 x) (b32 y),BitVec.toNat_or]
theorem O7 (x:W32):bits .xor .u32 4294967295 (wn x) = wn (~~~ x):=by
 have h:=nP (BitVec.allOnes 32) x
 rw [BitVec.xor_comm,BitVec.xor_allOnes] at h
 have e:wn (BitVec.allOnes 32) = 4294967295:=by decide
 rw [e] at h;exact h
theorem Ab (x:W32):bits .xor .u32 (if IntKind.u32.signed = true then -1 else IntKind.u32.max) (wn x) = wn (~~~ x):=O7 x
theorem wP (x:W32) (n:Nat):wn x / 2 ^ n = wn (x >>> n):=by
 unfold wn
 rw [BitVec.toNat_ushiftRight,Nat.shiftRight_eq_div_pow];push_cast;rfl
theorem MO (x:W32) (n:Nat):wn x * 2 ^ n % 4294967296 = wn (x <<< n):=by
 unfold wn
 rw [BitVec.toNat_shiftLeft,Nat.shiftLeft_eq,Int.natCast_emod,Int.natCast_mul,Int.natCast_pow];rfl
theorem O0 (x:W32):wn x * (256:Int) % (4294967296:Int) = wn (x <<< 8):=MO x 8
theorem mU (x y:W32):(wn x + wn y) % 4294967296 = wn (x + y):=by
 unfold wn;rw [BitVec.toNat_add];omega
theorem ng {k:IntKind} {a b:Int} (h:a = b):Ending.returned (.int k a) = .returned (.int k b):=by rw [h]
theorem KU (x:W32) (a m:Nat) (h:a + m = 32) (ha:0 < a) (hm:0 < m):(x <<< m) ||| (x >>> a) = x.rotateRight a:=by
 rw [BitVec.rotateRight_def,Nat.mod_eq_of_lt (by omega),show 32 - a = m from by omega,BitVec.or_comm]
def mg (x:W32) (a b c:Nat):W32:=x.rotateRight a ^^^ x.rotateRight b ^^^ x.rotateRight c
def kG (x:W32) (a b c:Nat):W32:=x.rotateRight a ^^^ x.rotateRight b ^^^ x >>> c
theorem Pg (a:Nat) (h0:0 < a) (h1:a < 32):bits .and .u64 (IntKind.u64.wrap (-(a:Int))) 31 = ((32 - a:Nat):Int):=by
 have h:∀ a:Nat,a < 32 → 0 < a → bits .and .u64 (IntKind.u64.wrap (-(a:Int))) 31 = ((32 - a:Nat):Int):=by decide +kernel
 exact h a h1 h0
theorem uE {P:Program} {f:FuncId} {args:Array Value} {w:World} {E:Ending} (h:Calls P f args w fun e w' => e = E ∧ w' = w):Calls P f args w fun e w' => e = E ∧ Below w.heap.size w w' :=
 h.mono fun e w' ⟨he,hw⟩ => by subst hw;exact ⟨he,Below.refl _ _⟩
theorem mE (x:W32) (a:Nat) (k:Int) (hk:k = -(a:Int)) (h0:0 < a) (h1:a < 32) (w:World) :
  Calls prog 310 #[.int .u32 (wn x),.int .i64 k] w fun e w' => e = .returned (.int .u32 (wn (x.rotateRight a))) ∧ w' = w:=by
 subst hk
 have hx0:=wn_0 x
 have hx1:=nO x
 have HA:=Pg a h0 h1
 obtain ⟨m,hm⟩:∃ m,m = 32 - a:=⟨_,rfl⟩
 rw [← hm] at HA
 have H3:IntKind.u64.wrap (32 - (m:Int)) = (a:Int):=by rw [IntKind.wrap_u64];omega
 have H5:(32:Int) - (m:Int) = (a:Int):=by omega
 have H4:=w_or (x <<< m) (x >>> a)
 rw [KU x a m (by omega) h0 (by omega)] at H4
 clear hm
 go_enter func310,ntmps310
 go_wp2
 go_ret
 exact ⟨ng (by rw [MO,wP,H4]),rfl⟩
theorem eP (x:W32) (a:Nat) (k:Int) (hk:k = (a:Int)) (h0:0 < a) (h1:a < 32) (w:World):
  Calls prog 192 #[.int .u32 (wn x),.int .u64 k] w fun e w' => e = .returned (.int .u32 (wn (x.rotateRight a))) ∧ w' = w:=by
 subst hk
 have hx0:=wn_0 x
 have hx1:=nO x
 obtain ⟨m,hm⟩:∃ m,m = 32 - a:=⟨_,rfl⟩
 have H3:IntKind.u64.wrap (32 - (a:Int)) = (m:Int):=by rw [IntKind.wrap_u64];omega
 have H5:(32:Int) - (a:Int) = (m:Int):=by omega
 have H4:=w_or (x >>> a) (x <<< m)
 rw [BitVec.or_comm,KU x a m (by omega) h0 (by omega)] at H4
 clear hm
 go_enter func192,ntmps192
 go_wp2
 go_ret
 exact ⟨ng (by rw [MO,wP,H4]),rfl⟩
theorem Bv (x:W32) (a b c:Nat) (ha:0 < a) (ha1:a < 32) (hb:0 < b) (hb1:b < 32) (hc:c < 32) (w:World) :
  Calls prog 303 #[.int .u32 (wn x),.int .i64 a,.int .i64 b,.int .i64 c] w fun e w' => e = .returned (.int .u32 (wn (kG x a b c))) ∧ Below w.heap.size w w':=by
 have H1:=fun w => mE x a (-(a:Int)) rfl ha ha1 w
 have H2:=fun w => mE x b (-(b:Int)) rfl hb hb1 w
 have X:=nP
 have E:=wP x c
 have N1:IntKind.i64.wrap (-(a:Int)) = -(a:Int):=IntWalk.i64_in _ (by omega)
 have N2:IntKind.i64.wrap (-(b:Int)) = -(b:Int):=IntWalk.i64_in _ (by omega)
 go_enter func303,ntmps303
 go_wp2
 refine oP (by kernel_rfl) (by kernel_rfl) ?_
 repeat (go_big_quiet_step ((first | (go_at_call 310;with_reducible exact bY (H1 _)) | (go_at_call 310;with_reducible exact bY (H2 _)))))
 refine wpQuiet_nil ?_
 intro wq hbq
 go_wp2
 go_ret
 exact ⟨ng rfl,hbq⟩
theorem BL (x:W32) (a b c:Nat) (ha:0 < a) (ha1:a < 32) (hb:0 < b) (hb1:b < 32) (hc:0 < c) (hc1:c < 32) (w:World) :
  Calls prog 304 #[.int .u32 (wn x),.int .i64 a,.int .i64 b,.int .i64 c] w fun e w' => e = .returned (.int .u32 (wn (mg x a b c))) ∧ w' = w:=by
 have X:=nP
 go_enter func304,ntmps304
 go_wp2_with (first | (go_at_call_of 310 (Value.int IntKind.i64 (-(a:Int)));refine (mE x a _ rfl ha ha1 _).mono ?_;rintro e w' ⟨rfl,rfl⟩) | (go_at_call_of 310 (Value.int IntKind.i64 (-(b:Int)));refine (mE x b _ rfl hb hb1 _).mono ?_;rintro e w' ⟨rfl,rfl⟩) | (go_at_call_of 310 (Value.int IntKind.i64 (-(c:Int)));refine (mE x c _ rfl hc hc1 _).mono ?_;rintro e w' ⟨rfl,rfl⟩))
 go_ret
 exact ⟨ng rfl,rfl⟩
end
section
def bw (b:UInt8):W32:=BitVec.ofNat 32 b.toNat
def d9 (r:Nat → UInt8) (i:Nat):Nat → W32
 | 0 => 0
 | j + 1 => d9 r i j <<< 8 ||| bw (r (4 * i + j))
def iw (r:Nat → UInt8) (i j:Nat):Nat → W32:=fun k => if k < i then d9 r k 4 else if k = i then d9 r i j else 0
theorem FB (r:Nat → UInt8):iw r 0 0 = fun _ => 0:=by
 funext k;unfold iw;rw [if_neg (by omega)];split <;> rfl
theorem FD (r:Nat → UInt8) (i j:Nat):upd (iw r i j) i (iw r i j i <<< 8 ||| bw (r (4 * i + j))) = iw r i (j + 1):=by
 funext k;unfold upd iw
 by_cases h:k = i
 ·subst h;simp [d9]
 rw [if_neg h,if_neg h,if_neg h]
theorem FC (r:Nat → UInt8) (i:Nat):iw r i 4 = iw r (i + 1) 0:=by
 funext k;unfold iw
 by_cases h:k < i
 ·rw [if_pos h,if_pos (by omega)]
 by_cases h2:k = i
 ·subst h2;rw [if_neg (by omega),if_pos rfl,if_pos (by omega)]
 rw [if_neg h,if_neg h2,if_neg (by omega)];split <;> rfl
def GH (f:Nat → W32) (i:Nat):W32:=kG (f (i - 2)) 17 19 10 + f (i - 7) + kG (f (i - 15)) 7 18 3 + f (i - 16)
def bH (r:Nat → UInt8):Nat → Nat → W32
 | 0 => iw r 16 0
 | n + 1 => upd (bH r n) (16 + n) (GH (bH r n) (16 + n))
def mD:List W32:=[0x428a2f98#32,0x71374491#32,0xb5c0fbcf#32,0xe9b5dba5#32,0x3956c25b#32,0x59f111f1#32,0x923f82a4#32,0xab1c5ed5#32,0xd807aa98#32,0x12835b01#32,0x243185be#32,0x550c7dc3#32,0x72be5d74#32,0x80deb1fe#32,0x9bdc06a7#32,0xc19bf174#32,0xe49b69c1#32,0xefbe4786#32,0x0fc19dc6#32,0x240ca1cc#32,0x2de92c6f#32,0x4a7484aa#32,0x5cb0a9dc#32,0x76f988da#32,0x983e5152#32,0xa831c66d#32,0xb00327c8#32,0xbf597fc7#32,0xc6e00bf3#32,0xd5a79147#32,0x06ca6351#32,0x14292967#32,0x27b70a85#32,0x2e1b2138#32,0x4d2c6dfc#32,0x53380d13#32,0x650a7354#32,0x766a0abb#32,0x81c2c92e#32,0x92722c85#32,0xa2bfe8a1#32,0xa81a664b#32,0xc24b8b70#32,0xc76c51a3#32,0xd192e819#32,0xd6990624#32,0xf40e3585#32,0x106aa070#32,0x19a4c116#32,0x1e376c08#32,0x2748774c#32,0x34b0bcb5#32,0x391c0cb3#32,0x4ed8aa4a#32,0x5b9cca4f#32,0x682e6ff3#32,0x748f82ee#32,0x78a5636f#32,0x84c87814#32,0x8cc70208#32,0x90befffa#32,0xa4506ceb#32,0xbef9a3f7#32,0xc67178f2#32]
def rK (i:Nat):W32:=mD.getD i 0
theorem oD:mD.length = 64:=by decide +kernel
def tW (s:Nat → W32) (k w:W32):W32:=s 7 + mg (s 4) 6 11 25 + (s 4 &&& s 5 ^^^ ~~~ s 4 &&& s 6) + k + w
def uW (s:Nat → W32):W32:=mg (s 0) 2 13 22 + (s 0 &&& s 1 ^^^ s 0 &&& s 2 ^^^ s 1 &&& s 2)
def eight (a b c d e f g h:W32):Nat → W32:=fun k => if k = 0 then a else if k = 1 then b else if k = 2 then c else if k = 3 then d else if k = 4 then e else if k = 5 then f else if k = 6 then g else h
def stepW (s:Nat → W32) (k w:W32):Nat → W32:=eight (tW s k w + uW s) (s 0) (s 1) (s 2) (s 3 + tW s k w) (s 4) (s 5) (s 6)
def bL (w:Nat → W32) (s:Nat → W32):Nat → Nat → W32
 | 0 => s
 | n + 1 => stepW (bL w s n) (rK n) (w n)
def gu (s:Nat → W32) (r:Nat → UInt8):Nat → W32:=fun k => s k + bL (bH r 48) s 64 k
def pJ (s t:Nat → W32) (i:Nat):Nat → W32:=fun k => if k < i then s k + t k else s k
theorem EU (s t:Nat → W32):pJ s t 0 = s:=by funext k;unfold pJ;rw [if_neg (by omega)]
theorem EW (s t:Nat → W32) (i:Nat):upd (pJ s t i) i (s i + t i) = pJ s t (i + 1):=by
 funext k;unfold upd pJ
 by_cases h:k = i
 ·subst h;rw [if_pos rfl,if_pos (by omega)]
 rw [if_neg h]
 by_cases h2:k < i
 ·rw [if_pos h2,if_pos (by omega)]
 rw [if_neg h2,if_neg (by omega)]
theorem lS (b:UInt8):((b.toNat:Nat):Int) = wn (bw b):=by
 unfold wn bw;rw [BitVec.toNat_ofNat,Nat.mod_eq_of_lt (by have:=b.toNat_lt;omega)]
theorem og (b:UInt8):wn (bw b) < 256:=by rw [← lS];have:=b.toNat_lt;omega
structure HS where
 begun:Bool
 st:Nat → W32
 rest:Nat → UInt8
 many:Nat
 taken:Int
def HS.c (h:HS) (k:Nat):Value :=
 if k = 0 then .bool h.begun else if k < 9 then .int .u32 (wn (h.st (k - 1))) else if k < 73 then .int .u8 ((h.rest (k - 9)).toNat:Int) else if k = 73 then .int .i64 h.many else .int .u64 h.taken
theorem HS.c_st (h:HS) (k:Nat) (hk:k < 8):h.c (1 + k) = .int .u32 (wn (h.st k)):=by
 unfold HS.c;rw [if_neg (by omega),if_pos (by omega),show 1 + k - 1 = k from by omega]
theorem HS.O3 (h:HS) (k:Nat) (hk:k < 64):h.c (9 + k) = .int .u8 ((h.rest k).toNat:Int):=by
 unfold HS.c;rw [if_neg (by omega),if_neg (by omega),if_pos (by omega),show 9 + k - 9 = k from by omega]
theorem HS.Gb (h:HS):h.c 73 = .int .i64 h.many:=rfl
theorem HS.G9 (h:HS):h.c 74 = .int .u64 h.taken:=rfl
theorem HS.Oe (h:HS):h.c 0 = .bool h.begun:=rfl
theorem HS.OD (h:HS) (k:Nat) (hk:k < 8) (x:W32):upd h.c (1 + k) (.int .u32 (wn x)) = HS.c { h with st:=upd h.st k x }:=by
 funext j;unfold upd HS.c
 by_cases e:j = 1 + k
 ·subst e;rw [if_pos rfl,if_neg (by omega),if_pos (by omega)];dsimp only;rw [if_pos (by omega)]
 rw [if_neg e]
 by_cases h0:j = 0
 ·rw [if_pos h0,if_pos h0]
 rw [if_neg h0,if_neg h0]
 by_cases h1:j < 9
 ·rw [if_pos h1,if_pos h1];dsimp only;rw [if_neg (by omega)]
 rw [if_neg h1,if_neg h1]
theorem HS.Kt (h:HS) (k:Nat) (hk:k < 64) (x:UInt8):upd h.c (9 + k) (.int .u8 (x.toNat:Int)) = HS.c { h with rest:=upd h.rest k x }:=by
 funext j;unfold upd HS.c
 by_cases e:j = 9 + k
 ·subst e;rw [if_pos rfl,if_neg (by omega),if_neg (by omega),if_pos (by omega)];dsimp only;rw [if_pos (by omega)]
 rw [if_neg e]
 by_cases h0:j = 0
 ·rw [if_pos h0,if_pos h0]
 rw [if_neg h0,if_neg h0]
 by_cases h1:j < 9
 ·rw [if_pos h1,if_pos h1]
 rw [if_neg h1,if_neg h1]
 by_cases h2:j < 73
 ·rw [if_pos h2,if_pos h2];dsimp only;rw [if_neg (by omega)]
 rw [if_neg h2,if_neg h2]
theorem HS.Br (h:HS) (m:Nat):upd h.c 73 (.int .i64 (m:Int)) = HS.c { h with many:=m }:=by
 funext j;unfold upd HS.c
 by_cases e:j = 73
 ·subst e;simp
 rw [if_neg e]
 by_cases h0:j = 0
 ·rw [if_pos h0,if_pos h0]
 rw [if_neg h0,if_neg h0]
 by_cases h1:j < 9
 ·rw [if_pos h1,if_pos h1]
 rw [if_neg h1,if_neg h1]
 by_cases h2:j < 73
 ·rw [if_pos h2,if_pos h2]
 rw [if_neg h2,if_neg h2,if_neg e,if_neg e]
theorem HS.H7 (h:HS) (m:Int):∀ k,k < 75 → upd h.c 74 (.int .u64 m) k = HS.c { h with taken:=m } k:=by
 intro j hj;unfold upd HS.c
 by_cases e:j = 74
 ·subst e;simp
 rw [if_neg e]
 by_cases h0:j = 0
 ·rw [if_pos h0,if_pos h0]
 rw [if_neg h0,if_neg h0]
 by_cases h1:j < 9
 ·rw [if_pos h1,if_pos h1]
 rw [if_neg h1,if_neg h1]
 by_cases h2:j < 73
 ·rw [if_pos h2,if_pos h2]
 rw [if_neg h2,if_neg h2,if_pos (by omega),if_pos (by omega)]
end
section
open Go.RowKit
def lV:W32:=0xedb88320#32
def jP (n:W32):W32:=(n >>> 1) ^^^ (if n.getLsbD 0 then lV else 0#32)
def lT (n:W32):W32:=jP (jP (jP (jP n)))
def iR:List W32:=[0x00000000#32,0x1db71064#32,0x3b6e20c8#32,0x26d930ac#32,0x76dc4190#32,0x6b6b51f4#32,0x4db26158#32,0x5005713c#32,0xedb88320#32,0xf00f9344#32,0xd6d6a3e8#32,0xcb61b38c#32,0x9b64c2b0#32,0x86d3d2d4#32,0xa00ae278#32,0xbdbdf21c#32]
def nibC (n:W32):W32:=(n >>> 4) ^^^ iR.getD (n &&& 15#32).toNat 0#32
theorem Ic (a b:W32):jP (a ^^^ b) = jP a ^^^ jP b:=by
 unfold jP
 rw [BitVec.ushiftRight_xor_distrib,BitVec.getLsbD_xor]
 generalize a >>> 1 = x
 generalize b >>> 1 = y
 cases a.getLsbD 0 <;> cases b.getLsbD 0
 ·simp
 ·show (x ^^^ y) ^^^ lV = (x ^^^ 0#32) ^^^ (y ^^^ lV)
  rw [BitVec.xor_zero]
  ac_rfl
 ·show (x ^^^ y) ^^^ lV = (x ^^^ lV) ^^^ (y ^^^ 0#32)
  rw [BitVec.xor_zero]
  ac_rfl
 show (x ^^^ y) ^^^ 0#32 = (x ^^^ lV) ^^^ (y ^^^ lV)
 have h:(x ^^^ lV) ^^^ (y ^^^ lV) = (x ^^^ y) ^^^ (lV ^^^ lV):=by ac_rfl
 rw [h,BitVec.xor_self]
theorem Ig (a b:W32):lT (a ^^^ b) = lT a ^^^ lT b:=by unfold lT;simp only [Ic]
theorem kU (n:W32) (h:n.toNat % 2 = 0):jP n = n >>> 1:=by
 have h0:n.getLsbD 0 = false:=by
  rw [BitVec.getLsbD,Nat.testBit_zero]
  simp only [decide_eq_false_iff_not]
  omega
 unfold jP
 rw [h0]
 simp
theorem jQ (n:W32) (k:Nat):(n >>> k).toNat = n.toNat / 2 ^ k:=by rw [BitVec.toNat_ushiftRight,Nat.shiftRight_eq_div_pow]
theorem Ef (n:W32) (h:n.toNat % 16 = 0):lT n = n >>> 4:=by
 unfold lT
 have h1:(n >>> 1).toNat = n.toNat / 2:=by rw [jQ]
 have h2:(n >>> 1 >>> 1).toNat = n.toNat / 2 / 2:=by rw [jQ,h1]
 have h3:(n >>> 1 >>> 1 >>> 1).toNat = n.toNat / 2 / 2 / 2:=by rw [jQ,h2]
 rw [kU n (by omega),kU (n >>> 1) (by rw [h1];omega),kU (n >>> 1 >>> 1) (by rw [h2];omega),kU (n >>> 1 >>> 1 >>> 1) (by rw [h3];omega)]
 apply BitVec.eq_of_toNat_eq
 rw [jQ,h3,jQ]
 omega
theorem JF:∀ l:Fin 16,lT (BitVec.ofNat 32 l.val) = iR.getD l.val 0#32:=by decide +kernel
theorem Oz (n:W32):(n &&& 15#32).toNat = n.toNat % 16:=by
 rw [BitVec.toNat_and]
 exact Nat.and_two_pow_sub_one_eq_mod n.toNat 4
theorem LH (n:W32):nibC n = lT n:=by
 have hs:n = ((n >>> 4) <<< 4) ^^^ (n &&& 15#32):=by
  apply BitVec.eq_of_getLsbD_eq
  intro i hi
  have h15:(15#32).getLsbD i = decide (i < 4):=by
   revert hi
   have:∀ j:Fin 32,(15#32).getLsbD j.val = decide (j.val < 4):=by decide +kernel
   exact fun hi => this ⟨i,hi⟩
  rw [BitVec.getLsbD_xor,BitVec.getLsbD_and,BitVec.getLsbD_shiftLeft,BitVec.getLsbD_ushiftRight,h15]
  by_cases h:i < 4
  ·simp [h,hi]
  simp [h,hi,show 4 + (i - 4) = i by omega]
 have hl:lT (n &&& 15#32) = iR.getD (n &&& 15#32).toNat 0#32:=by
  have hlt:(n &&& 15#32).toNat < 16:=by rw [Oz];omega
  have:=JF ⟨_,hlt⟩
  rw [← this]
  congr 1
  apply BitVec.eq_of_toNat_eq
  rw [BitVec.toNat_ofNat]
  show _ = (n &&& 15#32).toNat % 4294967296
  omega
 have hh:lT ((n >>> 4) <<< 4) = n >>> 4:=by
  have h1:(((n >>> 4) <<< 4):W32).toNat = n.toNat / 16 * 16:=by
   rw [BitVec.toNat_shiftLeft,jQ,Nat.shiftLeft_eq]
   have:=n.isLt
   omega
  rw [Ef _ (by rw [h1];omega)]
  apply BitVec.eq_of_toNat_eq
  rw [jQ,h1,jQ]
  omega
 unfold nibC
 rw [← hl]
 conv => rhs;rw [hs,Ig,hh]
def wG (n:W32) (b:UInt8):W32:=lT (lT (n ^^^ bw b))
def sumC (n:W32) (l:List UInt8):W32:=l.foldl wG n
theorem yt (n:W32) (l:List UInt8) (b:UInt8):sumC n (l ++ [b]) = wG (sumC n l) b:=by unfold sumC;rw [List.foldl_append];rfl
def crcC (l:List UInt8):W32:= ~~~ sumC (~~~ 0#32) l
def eO (n:W32) (i:Nat):UInt8:=UInt8.ofNat (n.toNat / 2 ^ (8 * i) % 256)
def Gh (l:List UInt8):List UInt8:=[eO (crcC l) 0,eO (crcC l) 1,eO (crcC l) 2,eO (crcC l) 3]
def kH (l:List UInt8):List UInt8:=l ++ Gh l
def bK (l:List UInt8):Option (List UInt8):=if 4 ≤ l.length ∧ kH (l.take (l.length - 4)) = l then some (l.take (l.length - 4)) else none
end
end Go.Proofs.YtijhemdnajlfnaaGreatDoor
