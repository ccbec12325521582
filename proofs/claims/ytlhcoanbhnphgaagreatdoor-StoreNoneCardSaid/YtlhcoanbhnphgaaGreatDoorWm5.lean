/- A part of this claim. -/
import Derived.ArgAppend
import Derived.BigQuiet
import Derived.Deep.DeepAppendRoom
import Derived.IntWalk
import Derived.Laws.BitsAllLaws
import Derived.Laws.IdiomStrings
import Derived.StillTail
import Derived.Test.YtlhcoanbhnphgaaGreatDoorChecked
import Derived.Test.YtlhcoanbhnphgaaGreatDoorWm3
namespace Go.Proofs.YtlhcoanbhnphgaaGreatDoor
open Tryz
set_option maxHeartbeats 64000000
set_option maxRecDepth 100000
set_option linter.all false
section
open Go.RowKit
section
variable {P:Program} {ops:Array Oper} {md:Region.Mode} {C:World → Prop}
def tq (P:Program) (md:Region.Mode) (ops:Array Oper) (C:World → Prop) (n:Nat) (L:Array Bool → Act → Prop):Nat → Array Bool → Act → Prop
 | 0,ls,a => L ls a
 | f + 1,ls,a => Region.ready md ops ls ≠ [] ∧ ∀ i ∈ Region.ready md ops ls,i < n ∧ qOp P ops C i (tq P md ops C n L f (ls.setIfInBounds i true)) a
theorem KO {n g:Nat} {L:Array Bool → Act → Prop} {Q:Exit → Act → World → Prop} (hL:∀ ls a w,C w → L ls a → wpAny P md ops Q g ls a w) :
  ∀ (f:Nat) (ls:Array Bool) (a:Act) (w:World),C w → tq P md ops C n L f ls a → wpAny P md ops Q (f + g) ls a w:=by
 intro f
 induction f with
 | zero => intro ls a w hw h;rw [Nat.zero_add];exact hL ls a w hw h
 | succ f ih =>
  intro ls a w hw h
  rw [show f + 1 + g = (f + g) + 1 from by omega]
  exact ⟨fun h0 => absurd h0 h.1,fun i hi => wpOp_of_qOp hw (fun a' w' hw' h' => ih _ a' w' hw' h') (h.2 i hi).2⟩
theorem F7 {n i:Nat} {oi:Oper} {v:Value} {L:Array Bool → Act → Prop} (hi:ops[i]? = some oi) (hsel:∀ (j:Nat) (o:Oper) cs b,ops[j]? = some o → o.op ≠ .select cs b)
  (hs:Region.sinkB md ops n = true) (hc:Region.chainB md ops n = true) (hn:n < ops.size) (hin:i < n) (hdone:∀ ls a,L ls a → ∀ j ∈ Region.ready md ops ls,n ≤ j) :
  ∀ (f:Nat) (ls:Array Bool) (a:Act),HeadInv md ops n ls →
   (∀ j oj,ops[j]? = some oj → j ≠ i → ls.getD j true = false → (∀ e ∈ oj.after,Region.binds md e = true → e.on ≠ i) → oi.apart ops oj = true) →
   i ∈ Region.ready md ops ls → YieldsIn P ops C oi v a → tq P md ops C n L f (ls.setIfInBounds i true) (a.put oi.dst v) → tq P md ops C n L (f + 1) ls a:=by
 intro f
 induction f with
 | zero =>
  intro ls a inv _ hr hy H
  refine ⟨fun h0 => (by rw [h0] at hr;cases hr),fun j hj => ?_⟩
  have hjn:j < n:=Nat.lt_of_not_ge fun h0 => tail_waits hs hc hn inv _ i rfl hin (mem_ready.1 hr).1 j h0 hj
  refine ⟨hjn,?_⟩
  by_cases e:j = i
  ·subst e;exact hy.qOp hi H
  have:=hdone _ _ H j (ready_mono hj e);omega
 | succ f ih =>
  intro ls a inv hfree hr hy H
  have hun:=(mem_ready.1 hr).1
  refine ⟨fun h0 => (by rw [h0] at hr;cases hr),fun j hj => ?_⟩
  have hjn:j < n:=Nat.lt_of_not_ge fun h0 => tail_waits hs hc hn inv _ i rfl hin hun j h0 hj
  refine ⟨hjn,?_⟩
  by_cases e:j = i
  ·subst e;exact hy.qOp hi H
  obtain ⟨hjun,oj,hoj,hall⟩:=mem_ready.1 hj
  have hnot:∀ x ∈ oj.after,Region.binds md x = true → x.on ≠ i:=fun x hx hb heq => by
   have h1:=hall x hx hb
   rw [heq,getD_both hun] at h1
   cases h1
  have h2:=qOp_put hoj (hfree j oj hoj e hjun hnot) (fun cs b => hsel i oi cs b hi) (fun cs b => hsel j oj cs b hoj) hy (H.2 j (ready_mono hj e)).2
  refine qOp_mono (fun a' h3 => ih (ls.setIfInBounds j true) a' (inv.set hj hjn) ?_ (ready_mono hr (Ne.symm e)) h3.1 ?_) h2
  ·intro k ok hk hki hkun hno
   refine hfree k ok hk hki ?_ hno
   by_cases ejk:j = k
   ·subst ejk;exact hjun
   rwa [getD_set_ne true ejk] at hkun
  rw [Array.setIfInBounds_comm _ _ e];exact h3.2
theorem KP {n g:Nat} {Lq:Act → Prop} (hsel:Region.noSelect ops = true) (hs:Region.sinkB md ops n = true) (hc:Region.chainB md ops n = true) (hn:n < ops.size) :
  ∀ (l:List Oper) (k:Nat) (ls:Array Bool) (a:Act),(∀ j,j < l.length → l[j]? = ops[k + j]?) → k + l.length = n → HeadInv md ops n ls →
  Region.lexHead md ops g l.length k ls = true → wpQuiet P ops C Lq l a → tq P md ops C n (fun ls' a' => Region.seqB md ops g n ls' = true ∧ Lq a') l.length ls a:=by
 intro l
 induction l with
 | nil =>
  intro k ls a _ hk _ hB h
  obtain rfl:k = n:=by simpa using hk
  exact ⟨by simpa [Region.lexHead] using hB,h⟩
 | cons o l ih =>
  intro k ls a hl hk inv hB h
  have h0:ops[k]? = some o:=by simpa using (hl 0 (by simp)).symm
  simp only [List.length_cons,Region.lexHead,Bool.and_eq_true] at hB
  obtain ⟨⟨hr,hf⟩,hB'⟩:=hB
  have hkn:k < n:=by simp only [List.length_cons] at hk;omega
  have hr':k ∈ Region.ready md ops ls:=by simpa using hr
  obtain ⟨v,hy,hK⟩:=yieldsIn_of_qOp h0 (show qOp P ops C k (wpQuiet P ops C Lq l) a from by unfold qOp;simp only [h0];exact h)
  exact F7 h0 (Region.noSelect_spec hsel) hs hc hn hkn (fun _ _ hL => seqB_ready hL.1) l.length ls a inv (Region.free_spec h0 hf) hr' hy
   (ih (k + 1) _ _ (fun j hj => by have:=hl (j + 1) (by simp;omega);simpa [Nat.add_assoc,Nat.add_comm 1 j] using this) (by simp only [List.length_cons] at hk;omega) (inv.set hr' hkn) hB' hK)
structure BW (B:Nat) (w:World) where
 out:World
 hb:Below B w out
instance (B:Nat) (w:World):Nonempty (BW B w):=⟨⟨w,Below.refl _ _⟩⟩
theorem ay {P:Program} {f:FuncId} {args:Array Value} {w:World} {v:Value} {x:BW w.heap.size w} (h:Calls P f args x.out fun e w' => e = .returned v ∧ Below x.out.heap.size x.out w') :
  Calls P f args x.out fun e w'' => e = .returned v ∧ ∃ y:BW w.heap.size w,w'' = y.out :=
 h.mono fun _ w' ⟨he,hb⟩ => ⟨he,⟨w',x.hb.trans (hb.mono x.hb.size)⟩,rfl⟩
theorem ak {P:Program} {f:FuncId} {args:Array Value} {w:World} {v:Value} {x:BW w.heap.size w} (h:Calls P f args x.out fun e w' => e = .returned v ∧ w' = x.out) :
  Calls P f args x.out fun e w'' => e = .returned v ∧ ∃ y:BW w.heap.size w,w'' = y.out :=
 h.mono fun _ _ ⟨he,hw⟩ => ⟨he,x,hw⟩
theorem jF {id:Nat} {Q:Exit → Act → World → Prop} {a:Act} {w:World} {l:List Oper} (hm:P.follows .mixedOrders = true) (hB:Region.lexB .any l.toArray = true)
  (h:wpQuiet P l.toArray (fun w' => ∃ x:BW w.heap.size w,w' = x.out) (fun a' => ∀ w',Below w.heap.size w w' → Q .normal a' w') l a):(Code.region id l.toArray true).wp P Q a w :=
 wp_region_quiet (C:=fun w' => ∃ x:BW w.heap.size w,w' = x.out) hm hB ⟨⟨{ w with drawn:=w.drawn + 1 },⟨rfl,rfl,rfl,Nat.le_refl _,fun _ _ => rfl⟩⟩,rfl⟩
  (by
   have:(fun a' => ∀ w',(∃ x:BW w.heap.size w,w' = x.out) → Q .normal a' w') = (fun a' => ∀ w',Below w.heap.size w w' → Q .normal a' w'):=by
    funext a';exact propext ⟨fun H w' hb => H w' ⟨⟨w',hb⟩,rfl⟩,fun H w' ⟨x,e⟩ => by subst e;exact H _ x.hb⟩
   rw [this];simpa using h)
theorem aZ {id:Nat} {Q:Exit → Act → World → Prop} {a:Act} {w:World} {l:List Oper} (n:Nat) (hm:P.follows .mixedOrders = true) (hB:Region.lexTailB .any l.toArray n = true)
  (h:wpQuiet P l.toArray (fun w' => ∃ x:BW w.heap.size w,w' = x.out) (fun a' => ∀ w',Below w.heap.size w w' → wpList P l.toArray Q (l.drop n) a' w') (l.take n) a):(Code.region id l.toArray true).wp P Q a w:=by
 simp only [Region.lexTailB,Bool.and_eq_true,decide_eq_true_eq] at hB
 obtain ⟨⟨⟨⟨hsel,hn⟩,hs⟩,hc⟩,hlex⟩:=hB
 have hn':n < l.length:=by simpa using hn
 have htl:(l.take n).length = n:=by simp;omega
 have hdl:(l.drop n).length = l.toArray.size - n:=by simp
 have inv:HeadInv .any l.toArray n (Array.replicate l.toArray.size false) :=
  ⟨by simp,fun j oj _ hl => (by rw [getD_replicate_false] at hl;cases hl),fun t _ ht => getD_in (by simpa using ht) (getD_replicate_false _ _)⟩
 have H:=KP (md:=.any) (g:=l.toArray.size - n) hsel hs hc hn (l.take n) 0 _ a (fun j hj => by rw [htl] at hj;simp [hj]) (by simpa using htl) inv (by rw [htl];exact hlex) h
 refine wp_region_any hm ?_
 have:=KO (Q:=Q) (g:=l.toArray.size - n) (fun ls a' w' hw' hL => by
  obtain ⟨x,rfl⟩:=hw'
  have:=wpAny_of_seq (md:=.any) (Q':=Q) (l.drop n) n ls a' x.out (fun j => by simp [List.getElem?_drop]) (by rw [hdl];exact hL.1) (hL.2 _ x.hb)
  rwa [hdl] at this) _ _ _ { w with drawn:=w.drawn + 1 } ⟨⟨{ w with drawn:=w.drawn + 1 },⟨rfl,rfl,rfl,Nat.le_refl _,fun _ _ => rfl⟩⟩,rfl⟩ H
 rw [htl,show n + (l.toArray.size - n) = l.toArray.size from by omega] at this
 exact this
end
abbrev W32:=BitVec 32
def wn (x:W32):Int:=x.toNat
theorem wn_0 (x:W32):0 ≤ wn x:=by unfold wn;omega
theorem vg (x:W32):wn x < 4294967296:=by unfold wn;have:=x.isLt;omega
theorem b32 (x:W32):x.toNat < 4294967296:=x.isLt
theorem vw (x y:W32):bits .xor .u32 (wn x) (wn y) = wn (x ^^^ y):=by
 unfold wn;rw [u32_xor_nat _ _ (b32 x) (b32 y),BitVec.toNat_xor]
theorem Kg (x y:W32):bits .and .u32 (wn x) (wn y) = wn (x &&& y):=by
 unfold wn;rw [u32_and_nat _ _ (b32 x) (b32 y),BitVec.toNat_and]
theorem w_or (x y:W32):bits .or .u32 (wn x) (wn y) = wn (x ||| y):=by
 unfold wn;rw [u32_or_nat _ _ (b32 x) (b32 y),BitVec.toNat_or]
theorem LA (x:W32):bits .xor .u32 4294967295 (wn x) = wn (~~~ x):=by
 have h:=vw (BitVec.allOnes 32) x
 rw [BitVec.xor_comm,BitVec.xor_allOnes] at h
 have e:wn (BitVec.allOnes 32) = 4294967295:=by decide
 rw [e] at h;exact h
theorem Am (x:W32):bits .xor .u32 (if IntKind.u32.signed = true then -1 else IntKind.u32.max) (wn x) = wn (~~~ x):=LA x
theorem IB (x:W32) (n:Nat):wn x / 2 ^ n = wn (x >>> n):=by
 unfold wn
 rw [BitVec.toNat_ushiftRight,Nat.shiftRight_eq_div_pow];push_cast;rfl
theorem KA (x:W32) (n:Nat):wn x * 2 ^ n % 4294967296 = wn (x <<< n):=by
 unfold wn
 rw [BitVec.toNat_shiftLeft,Nat.shiftLeft_eq,Int.natCast_emod,Int.natCast_mul,Int.natCast_pow];rfl
theorem Lj (x:W32):wn x * (256:Int) % (4294967296:Int) = wn (x <<< 8):=KA x 8
theorem zV (x y:W32):(wn x + wn y) % 4294967296 = wn (x + y):=by
 unfold wn;rw [BitVec.toNat_add];omega
theorem wZ {k:IntKind} {a b:Int} (h:a = b):Ending.returned (.int k a) = .returned (.int k b):=by rw [h]
theorem KY (x:W32) (a m:Nat) (h:a + m = 32) (ha:0 < a) (hm:0 < m):(x <<< m) ||| (x >>> a) = x.rotateRight a:=by
 rw [BitVec.rotateRight_def,Nat.mod_eq_of_lt (by omega),show 32 - a = m from by omega,BitVec.or_comm]
def nC (x:W32) (a b c:Nat):W32:=x.rotateRight a ^^^ x.rotateRight b ^^^ x.rotateRight c
def nu (x:W32) (a b c:Nat):W32:=x.rotateRight a ^^^ x.rotateRight b ^^^ x >>> c
theorem Me (a:Nat) (h0:0 < a) (h1:a < 32):bits .and .u64 (IntKind.u64.wrap (-(a:Int))) 31 = ((32 - a:Nat):Int):=by
 have h:∀ a:Nat,a < 32 → 0 < a → bits .and .u64 (IntKind.u64.wrap (-(a:Int))) 31 = ((32 - a:Nat):Int):=by decide +kernel
 exact h a h1 h0
theorem rT {P:Program} {f:FuncId} {args:Array Value} {w:World} {E:Ending} (h:Calls P f args w fun e w' => e = E ∧ w' = w):Calls P f args w fun e w' => e = E ∧ Below w.heap.size w w' :=
 h.mono fun e w' ⟨he,hw⟩ => by subst hw;exact ⟨he,Below.refl _ _⟩
theorem kG (x:W32) (a:Nat) (k:Int) (hk:k = -(a:Int)) (h0:0 < a) (h1:a < 32) (w:World) :
  Calls prog 299 #[.int .u32 (wn x),.int .i64 k] w fun e w' => e = .returned (.int .u32 (wn (x.rotateRight a))) ∧ w' = w:=by
 subst hk
 have hx0:=wn_0 x
 have hx1:=vg x
 have HA:=Me a h0 h1
 obtain ⟨m,hm⟩:∃ m,m = 32 - a:=⟨_,rfl⟩
 rw [← hm] at HA
 have H3:IntKind.u64.wrap (32 - (m:Int)) = (a:Int):=by rw [IntKind.wrap_u64];omega
 have H5:(32:Int) - (m:Int) = (a:Int):=by omega
 have H4:=w_or (x <<< m) (x >>> a)
 rw [KY x a m (by omega) h0 (by omega)] at H4
 clear hm
 go_enter func299,ntmps299
 go_wp2
 go_ret
 exact ⟨wZ (by rw [KA,IB,H4]),rfl⟩
theorem yE (x:W32) (a b c:Nat) (ha:0 < a) (ha1:a < 32) (hb:0 < b) (hb1:b < 32) (hc:c < 32) (w:World) :
  Calls prog 278 #[.int .u32 (wn x),.int .i64 a,.int .i64 b,.int .i64 c] w fun e w' => e = .returned (.int .u32 (wn (nu x a b c))) ∧ Below w.heap.size w w':=by
 have H1:=fun w => kG x a (-(a:Int)) rfl ha ha1 w
 have H2:=fun w => kG x b (-(b:Int)) rfl hb hb1 w
 have X:=vw
 have E:=IB x c
 have N1:IntKind.i64.wrap (-(a:Int)) = -(a:Int):=IntWalk.i64_in _ (by omega)
 have N2:IntKind.i64.wrap (-(b:Int)) = -(b:Int):=IntWalk.i64_in _ (by omega)
 go_enter func278,ntmps278
 go_wp2
 refine jF (by kernel_rfl) (by kernel_rfl) ?_
 repeat (go_big_quiet_step ((first | (go_at_call 299;with_reducible exact ak (H1 _)) | (go_at_call 299;with_reducible exact ak (H2 _)))))
 refine wpQuiet_nil ?_
 intro wq hbq
 go_wp2
 go_ret
 exact ⟨wZ rfl,hbq⟩
theorem yN (x:W32) (a b c:Nat) (ha:0 < a) (ha1:a < 32) (hb:0 < b) (hb1:b < 32) (hc:0 < c) (hc1:c < 32) (w:World) :
  Calls prog 279 #[.int .u32 (wn x),.int .i64 a,.int .i64 b,.int .i64 c] w fun e w' => e = .returned (.int .u32 (wn (nC x a b c))) ∧ w' = w:=by
 have X:=vw
 go_enter func279,ntmps279
 go_wp2_with (first | (go_at_call_of 299 (Value.int IntKind.i64 (-(a:Int)));refine (kG x a _ rfl ha ha1 _).mono ?_;rintro e w' ⟨rfl,rfl⟩) | (go_at_call_of 299 (Value.int IntKind.i64 (-(b:Int)));refine (kG x b _ rfl hb hb1 _).mono ?_;rintro e w' ⟨rfl,rfl⟩) | (go_at_call_of 299 (Value.int IntKind.i64 (-(c:Int)));refine (kG x c _ rfl hc hc1 _).mono ?_;rintro e w' ⟨rfl,rfl⟩))
 go_ret
 exact ⟨wZ rfl,rfl⟩
end
section
def bw (b:UInt8):W32:=BitVec.ofNat 32 b.toNat
def ko (r:Nat → UInt8) (i:Nat):Nat → W32
 | 0 => 0
 | j + 1 => ko r i j <<< 8 ||| bw (r (4 * i + j))
def fQ (r:Nat → UInt8) (i j:Nat):Nat → W32:=fun k => if k < i then ko r k 4 else if k = i then ko r i j else 0
theorem Br (r:Nat → UInt8):fQ r 0 0 = fun _ => 0:=by
 funext k;unfold fQ;rw [if_neg (by omega)];split <;> rfl
theorem Bu (r:Nat → UInt8) (i j:Nat):upd (fQ r i j) i (fQ r i j i <<< 8 ||| bw (r (4 * i + j))) = fQ r i (j + 1):=by
 funext k;unfold upd fQ
 by_cases h:k = i
 ·subst h;simp [ko]
 rw [if_neg h,if_neg h,if_neg h]
theorem Bt (r:Nat → UInt8) (i:Nat):fQ r i 4 = fQ r (i + 1) 0:=by
 funext k;unfold fQ
 by_cases h:k < i
 ·rw [if_pos h,if_pos (by omega)]
 by_cases h2:k = i
 ·subst h2;rw [if_neg (by omega),if_pos rfl,if_pos (by omega)]
 rw [if_neg h,if_neg h2,if_neg (by omega)];split <;> rfl
def CF (f:Nat → W32) (i:Nat):W32:=nu (f (i - 2)) 17 19 10 + f (i - 7) + nu (f (i - 15)) 7 18 3 + f (i - 16)
def aW (r:Nat → UInt8):Nat → Nat → W32
 | 0 => fQ r 16 0
 | n + 1 => upd (aW r n) (16 + n) (CF (aW r n) (16 + n))
def iZ:List W32:=[0x428a2f98#32,0x71374491#32,0xb5c0fbcf#32,0xe9b5dba5#32,0x3956c25b#32,0x59f111f1#32,0x923f82a4#32,0xab1c5ed5#32,0xd807aa98#32,0x12835b01#32,0x243185be#32,0x550c7dc3#32,0x72be5d74#32,0x80deb1fe#32,0x9bdc06a7#32,0xc19bf174#32,0xe49b69c1#32,0xefbe4786#32,0x0fc19dc6#32,0x240ca1cc#32,0x2de92c6f#32,0x4a7484aa#32,0x5cb0a9dc#32,0x76f988da#32,0x983e5152#32,0xa831c66d#32,0xb00327c8#32,0xbf597fc7#32,0xc6e00bf3#32,0xd5a79147#32,0x06ca6351#32,0x14292967#32,0x27b70a85#32,0x2e1b2138#32,0x4d2c6dfc#32,0x53380d13#32,0x650a7354#32,0x766a0abb#32,0x81c2c92e#32,0x92722c85#32,0xa2bfe8a1#32,0xa81a664b#32,0xc24b8b70#32,0xc76c51a3#32,0xd192e819#32,0xd6990624#32,0xf40e3585#32,0x106aa070#32,0x19a4c116#32,0x1e376c08#32,0x2748774c#32,0x34b0bcb5#32,0x391c0cb3#32,0x4ed8aa4a#32,0x5b9cca4f#32,0x682e6ff3#32,0x748f82ee#32,0x78a5636f#32,0x84c87814#32,0x8cc70208#32,0x90befffa#32,0xa4506ceb#32,0xbef9a3f7#32,0xc67178f2#32]
def rK (i:Nat):W32:=iZ.getD i 0
theorem mq:iZ.length = 64:=by decide +kernel
def tW (s:Nat → W32) (k w:W32):W32:=s 7 + nC (s 4) 6 11 25 + (s 4 &&& s 5 ^^^ ~~~ s 4 &&& s 6) + k + w
def uW (s:Nat → W32):W32:=nC (s 0) 2 13 22 + (s 0 &&& s 1 ^^^ s 0 &&& s 2 ^^^ s 1 &&& s 2)
def eight (a b c d e f g h:W32):Nat → W32:=fun k => if k = 0 then a else if k = 1 then b else if k = 2 then c else if k = 3 then d else if k = 4 then e else if k = 5 then f else if k = 6 then g else h
def stepW (s:Nat → W32) (k w:W32):Nat → W32:=eight (tW s k w + uW s) (s 0) (s 1) (s 2) (s 3 + tW s k w) (s 4) (s 5) (s 6)
def bW (w:Nat → W32) (s:Nat → W32):Nat → Nat → W32
 | 0 => s
 | n + 1 => stepW (bW w s n) (rK n) (w n)
def d9 (s:Nat → W32) (r:Nat → UInt8):Nat → W32:=fun k => s k + bW (aW r 48) s 64 k
def nI (s t:Nat → W32) (i:Nat):Nat → W32:=fun k => if k < i then s k + t k else s k
theorem A8 (s t:Nat → W32):nI s t 0 = s:=by funext k;unfold nI;rw [if_neg (by omega)]
theorem A9 (s t:Nat → W32) (i:Nat):upd (nI s t i) i (s i + t i) = nI s t (i + 1):=by
 funext k;unfold upd nI
 by_cases h:k = i
 ·subst h;rw [if_pos rfl,if_pos (by omega)]
 rw [if_neg h]
 by_cases h2:k < i
 ·rw [if_pos h2,if_pos (by omega)]
 rw [if_neg h2,if_neg (by omega)]
theorem q9 (b:UInt8):((b.toNat:Nat):Int) = wn (bw b):=by
 unfold wn bw;rw [BitVec.toNat_ofNat,Nat.mod_eq_of_lt (by have:=b.toNat_lt;omega)]
theorem Md (b:UInt8):wn (bw b) < 256:=by rw [← q9];have:=b.toNat_lt;omega
structure HS where
 begun:Bool
 st:Nat → W32
 rest:Nat → UInt8
 many:Nat
 taken:Int
def HS.c (h:HS) (k:Nat):Value :=
 if k = 0 then .bool h.begun else if k < 9 then .int .u32 (wn (h.st (k - 1))) else if k < 73 then .int .u8 ((h.rest (k - 9)).toNat:Int) else if k = 73 then .int .i64 h.many else .int .u64 h.taken
theorem HS.c_st (h:HS) (k:Nat) (hk:k < 8):h.c (1 + k) = .int .u32 (wn (h.st k)):=by
 unfold HS.c;rw [if_neg (by omega),if_pos (by omega),show 1 + k - 1 = k from by omega]
theorem HS.Lp (h:HS) (k:Nat) (hk:k < 64):h.c (9 + k) = .int .u8 ((h.rest k).toNat:Int):=by
 unfold HS.c;rw [if_neg (by omega),if_neg (by omega),if_pos (by omega),show 9 + k - 9 = k from by omega]
theorem HS.BU (h:HS):h.c 73 = .int .i64 h.many:=rfl
theorem HS.CZ (h:HS):h.c 74 = .int .u64 h.taken:=rfl
theorem HS.J7 (h:HS):h.c 0 = .bool h.begun:=rfl
theorem HS.KM (h:HS) (k:Nat) (hk:k < 8) (x:W32):upd h.c (1 + k) (.int .u32 (wn x)) = HS.c { h with st:=upd h.st k x }:=by
 funext j;unfold upd HS.c
 by_cases e:j = 1 + k
 ·subst e;rw [if_pos rfl,if_neg (by omega),if_pos (by omega)];dsimp only;rw [if_pos (by omega)]
 rw [if_neg e]
 by_cases h0:j = 0
 ·rw [if_pos h0,if_pos h0]
 rw [if_neg h0,if_neg h0]
 by_cases h1:j < 9
 ·rw [if_pos h1,if_pos h1];dsimp only;rw [if_neg (by omega)]
 rw [if_neg h1,if_neg h1]
theorem HS.F4 (h:HS) (k:Nat) (hk:k < 64) (x:UInt8):upd h.c (9 + k) (.int .u8 (x.toNat:Int)) = HS.c { h with rest:=upd h.rest k x }:=by
 funext j;unfold upd HS.c
 by_cases e:j = 9 + k
 ·subst e;rw [if_pos rfl,if_neg (by omega),if_neg (by omega),if_pos (by omega)];dsimp only;rw [if_pos (by omega)]
 rw [if_neg e]
 by_cases h0:j = 0
 ·rw [if_pos h0,if_pos h0]
 rw [if_neg h0,if_neg h0]
 by_cases h1:j < 9
 ·rw [if_pos h1,if_pos h1]
 rw [if_neg h1,if_neg h1]
 by_cases h2:j < 73
 ·rw [if_pos h2,if_pos h2];dsimp only;rw [if_neg (by omega)]
 rw [if_neg h2,if_neg h2]
theorem HS.yA (h:HS) (m:Nat):upd h.c 73 (.int .i64 (m:Int)) = HS.c { h with many:=m }:=by
 funext j;unfold upd HS.c
 by_cases e:j = 73
 ·subst e;simp
 rw [if_neg e]
 by_cases h0:j = 0
 ·rw [if_pos h0,if_pos h0]
 rw [if_neg h0,if_neg h0]
 by_cases h1:j < 9
 ·rw [if_pos h1,if_pos h1]
 rw [if_neg h1,if_neg h1]
 by_cases h2:j < 73
 ·rw [if_pos h2,if_pos h2]
 rw [if_neg h2,if_neg h2,if_neg e,if_neg e]
theorem HS.Dt (h:HS) (m:Int):∀ k,k < 75 → upd h.c 74 (.int .u64 m) k = HS.c { h with taken:=m } k:=by
 intro j hj;unfold upd HS.c
 by_cases e:j = 74
 ·subst e;simp
 rw [if_neg e]
 by_cases h0:j = 0
 ·rw [if_pos h0,if_pos h0]
 rw [if_neg h0,if_neg h0]
 by_cases h1:j < 9
 ·rw [if_pos h1,if_pos h1]
 rw [if_neg h1,if_neg h1]
 by_cases h2:j < 73
 ·rw [if_pos h2,if_pos h2]
 rw [if_neg h2,if_neg h2,if_pos (by omega),if_pos (by omega)]
end
section
open Go.RowKit
section
variable {P:Program} {ops:Array Oper} {md:Region.Mode} {Q:Exit → Act → World → Prop} {S:World → Prop}
def KK (Q:Exit → Act → World → Prop) (S:World → Prop) (T:Act → World → Prop):Exit → Act → World → Prop
 | .normal,a,w => S w ∧ T a w
 | e,a,w => Q e a w
theorem mX {T:Act → World → Prop} {o:Oper} {a:Act} {w:World} {K:Act → World → Prop} (h:o.wp P a w K (KK Q S T)):o.wp P a w K Q:=by
 unfold Oper.wp at *
 generalize (execOp a.eval o).run P w = r at *
 cases r with
 | ok n w' =>
  cases n <;> simp only [Oper.upon] at h ⊢
  case enter f args =>
   refine Calls.mono h fun e w'' he => ?_
   cases e with
   | returned u => exact he
   | panicked c => exact he
   | outgrown => exact he
  all_goals exact h
 | halt x w' =>
  cases x <;> simp only [Oper.upon] at h ⊢
  case panic u => exact h
def wpL (P:Program) (md:Region.Mode) (ops:Array Oper) (Q:Exit → Act → World → Prop) (S:World → Prop) (n:Nat):Nat → Array Bool → Act → World → Prop
 | 0,ls,a,w => (∀ j ∈ Region.ready md ops ls,n ≤ j) ∧ wpAny P md ops Q (ops.size - n) ls a w
 | f + 1,ls,a,w => Region.ready md ops ls ≠ [] ∧ ∀ i ∈ Region.ready md ops ls,i < n ∧ wpOp P ops Q i (fun a' w' => S w' ∧ wpL P md ops Q S n f (ls.setIfInBounds i true) a' w') a w
theorem mh {n:Nat}:∀ (f:Nat) (ls:Array Bool) (a:Act) (w:World),wpL P md ops Q S n f ls a w → wpAny P md ops Q (f + (ops.size - n)) ls a w
 | 0,ls,a,w,h => by rw [Nat.zero_add];exact h.2
 | f + 1,ls,a,w,h => by
  rw [show f + 1 + (ops.size - n) = (f + (ops.size - n)) + 1 from by omega]
  exact ⟨fun h0 => absurd h0 h.1,fun i hi => wpOp_mono (fun a' w' h' => mh f _ a' w' h'.2) (h.2 i hi).2⟩
theorem u7 {n i:Nat} {oi:Oper} {v:Value} (hi:ops[i]? = some oi) (hsel:∀ (j:Nat) (o:Oper) cs b,ops[j]? = some o → o.op ≠ .select cs b)
  (hs:Region.sinkB md ops n = true) (hc:Region.chainB md ops n = true) (hn:n < ops.size) (hin:i < n) (hQ:∀ c a w,Q (.panic c) (a.put oi.dst v) w → Q (.panic c) a w) :
  ∀ (f:Nat) (ls:Array Bool) (a:Act) (w:World),HeadInv md ops n ls →
   (∀ j oj,ops[j]? = some oj → j ≠ i → ls.getD j true = false → (∀ e ∈ oj.after,Region.binds md e = true → e.on ≠ i) → oi.apart ops oj = true) →
   i ∈ Region.ready md ops ls → YieldsIf P ops S oi v a → S w → wpL P md ops Q S n f (ls.setIfInBounds i true) (a.put oi.dst v) w → wpL P md ops Q S n (f + 1) ls a w:=by
 intro f
 induction f with
 | zero =>
  intro ls a w inv _ hr hy hS H
  refine ⟨fun h0 => (by rw [h0] at hr;cases hr),fun j hj => ?_⟩
  have hjn:j < n:=Nat.lt_of_not_ge fun h0 => tail_waits hs hc hn inv _ i rfl hin (mem_ready.1 hr).1 j h0 hj
  refine ⟨hjn,?_⟩
  by_cases e:j = i
  ·subst e;exact hy.wpOp hi hS ⟨hS,H⟩
  have:=H.1 j (ready_mono hj e);omega
 | succ f ih =>
  intro ls a w inv hfree hr hy hS H
  have hun:=(mem_ready.1 hr).1
  refine ⟨fun h0 => (by rw [h0] at hr;cases hr),fun j hj => ?_⟩
  have hjn:j < n:=Nat.lt_of_not_ge fun h0 => tail_waits hs hc hn inv _ i rfl hin hun j h0 hj
  refine ⟨hjn,?_⟩
  by_cases e:j = i
  ·subst e;exact hy.wpOp hi hS ⟨hS,H⟩
  obtain ⟨hjun,oj,hoj,hall⟩:=mem_ready.1 hj
  have hnot:∀ x ∈ oj.after,Region.binds md x = true → x.on ≠ i:=fun x hx hb heq => by
   have h1:=hall x hx hb
   rw [heq,getD_both hun] at h1
   cases h1
  have h2:=wpOp_putIf hoj (hfree j oj hoj e hjun hnot) (fun cs b => hsel i oi cs b hi) (fun cs b => hsel j oj cs b hoj) hQ hy (H.2 j (ready_mono hj e)).2
  refine wpOp_mono (fun a' w' h3 => ⟨h3.2.1,ih (ls.setIfInBounds j true) a' w' (inv.set hj hjn) ?_ (ready_mono hr (Ne.symm e)) h3.1 h3.2.1 ?_⟩) h2
  ·intro k ok hk hki hkun hno
   refine hfree k ok hk hki ?_ hno
   by_cases ejk:j = k
   ·subst ejk;exact hjun
   rwa [getD_set_ne true ejk] at hkun
  rw [Array.setIfInBounds_comm _ _ e];exact h3.2.2
structure WL (P:Program) (ops:Array Oper) (Q:Exit → Act → World → Prop) (S:World → Prop) (n f:Nat) (ls:Array Bool) (a:Act) (w:World):Prop where
 out:HeadInv .any ops n ls → wpL P .any ops Q S n f ls a w
def lastB (ops:Array Oper) (n:Nat):Bool:=Region.noSelect ops && decide (n < ops.size) && Region.sinkB .any ops n && Region.chainB .any ops n
theorem WL.take {n i:Nat} {oi:Oper} {v:Value} {f:Nat} {ls:Array Bool} {a:Act} {w:World} (hi:ops[i]? = some oi) (hB:lastB ops n = true) (hin:i < n)
  (hf:Region.free .any ops ls i = true) (hr:(Region.ready .any ops ls).contains i = true) (hQ:∀ c a w,Q (.panic c) (a.put oi.dst v) w → Q (.panic c) a w) (hw:Region.wanted oi (yielded ops a.tmps) = true)
  (hy:∀ w,S w → (execOp a.eval oi).run P w = .ok (.value v) w) (hS:S w) (h:WL P ops Q S n f (ls.setIfInBounds i true) (a.put oi.dst v) w):WL P ops Q S n (f + 1) ls a w:=by
 simp only [lastB,Bool.and_eq_true,decide_eq_true_eq] at hB
 have hr':i ∈ Region.ready .any ops ls:=by simpa using hr
 exact ⟨fun inv => u7 hi (Region.noSelect_spec hB.1.1.1) hB.1.2 hB.2 hB.1.1.2 hin hQ f ls a w inv (Region.free_spec hi hf) hr' (.inl ⟨hw,hy⟩) hS (h.out (inv.set hr' hin))⟩
theorem WL.one {n i:Nat} {oi:Oper} {f:Nat} {ls:Array Bool} {a:Act} {w:World} (hi:ops[i]? = some oi) (hin:i < n) (hr:Region.ready .any ops ls = [i])
  (h:wpList P ops (KK Q S fun a' w' => WL P ops Q S n f (ls.setIfInBounds i true) a' w') [oi] a w):WL P ops Q S n (f + 1) ls a w:=by
 refine ⟨fun inv => ⟨fun h0 => (by rw [hr] at h0;cases h0),fun j hj => ?_⟩⟩
 have hj':=hj
 rw [hr] at hj
 obtain rfl:j = i:=by simpa using hj
 refine ⟨hin,?_⟩
 have hset:=inv.set hj' hin
 unfold wpOp
 simp only [hi]
 simp only [wpList] at h
 split
 ·rename_i hw
  rw [if_pos hw] at h
  rcases h with h | ⟨h1,h2⟩
  ·exact .inl (Oper.wp_mono (fun a' w' h' => ⟨h'.1,h'.2.out hset⟩) (mX h))
  refine .inr ⟨h1,?_⟩
  obtain ⟨a',w',h'⟩:=h2
  exact ⟨a',w',h'⟩
 rename_i hw
 rw [if_neg hw] at h
 exact ⟨h.1,h.2.out hset⟩
theorem WL.last {n:Nat} {oi:Oper} {ls:Array Bool} {a:Act} {w:World} (hi:ops[n]? = some oi) (hz:ops.size = n + 1) (hr:Region.ready .any ops ls = [n]) (hd:Region.ready .any ops (ls.setIfInBounds n true) = [])
  (h:wpList P ops Q [oi] a w):WL P ops Q S n 0 ls a w:=by
 refine ⟨fun _ => ⟨fun j hj => ?_,?_⟩⟩
 ·rw [hr] at hj
  have e:j = n:=by simpa using hj
  omega
 rw [show ops.size - n = 1 from by omega]
 refine ⟨fun h0 => (by rw [hr] at h0;cases h0),fun j hj => ?_⟩
 rw [hr] at hj
 obtain rfl:j = n:=by simpa using hj
 have hw:wpOp P ops Q j (wpList P ops Q []) a w:=by unfold wpOp;simp only [hi];exact h
 exact wpOp_mono (fun a' w' h' => ⟨hd,h'⟩) hw
theorem yj {id:Nat} {a:Act} {w:World} {l:List Oper} (n:Nat) (S:World → Prop) (hm:P.follows .mixedOrders = true) (hB:lastB l.toArray n = true)
  (h:WL P l.toArray Q S n n (Array.replicate l.toArray.size false) a w.drew):(Code.region id l.toArray true).wp P Q a w:=by
 simp only [lastB,Bool.and_eq_true,decide_eq_true_eq] at hB
 have inv:HeadInv .any l.toArray n (Array.replicate l.toArray.size false) :=
  ⟨by simp,fun j oj _ hl => (by rw [getD_replicate_false] at hl;cases hl),fun t _ ht => getD_in (by simpa using ht) (getD_replicate_false _ _)⟩
 have H:=mh _ _ _ _ (h.out inv)
 rw [show n + (l.toArray.size - n) = l.toArray.size from by have:=hB.1.1.2;omega] at H
 exact wp_region_any hm H
end
theorem wh:∀ (l:List Value) (o:Nat) (a:Array Value),((l.zipIdx o).foldl (fun cs (p:Value × Nat) => cs.setIfInBounds p.2 p.1) a).size = a.size ∧
  ∀ k,((l.zipIdx o).foldl (fun cs (p:Value × Nat) => cs.setIfInBounds p.2 p.1) a)[k]? = if o ≤ k ∧ k < o + l.length ∧ k < a.size then l[k - o]? else a[k]?
 | [],o,a => ⟨rfl,fun k => by rw [if_neg (by simp only [List.length_nil];omega)];rfl⟩
 | x :: l,o,a => by
  obtain ⟨h1,h2⟩:=wh l (o + 1) (a.setIfInBounds o x)
  rw [Array.size_setIfInBounds] at h1 h2
  rw [List.zipIdx_cons,List.foldl_cons]
  refine ⟨h1,fun k => ?_⟩
  rw [h2 k]
  by_cases hk:o + 1 ≤ k ∧ k < o + 1 + l.length ∧ k < a.size
  ·rw [if_pos hk,if_pos (by simp only [List.length_cons];omega)]
   rw [show k - o = (k - (o + 1)) + 1 from by omega,List.getElem?_cons_succ]
  rw [if_neg hk]
  by_cases e:k = o
  ·subst e
   by_cases hl:k < a.size
   ·rw [if_pos (by simp only [List.length_cons];omega),Nat.sub_self,Array.getElem?_setIfInBounds_self_of_lt hl];rfl
   rw [if_neg (by omega),Array.getElem?_eq_none (by simpa using hl),Array.getElem?_eq_none (by omega)]
  rw [Array.getElem?_setIfInBounds_ne (Ne.symm e),if_neg (by simp only [List.length_cons];omega)]
theorem lay_all (cs:List Value) (a:Array Value) (h:a.size = cs.length):(cs.toArray.zipIdx.foldl (fun ds (p:Value × Nat) => ds.setIfInBounds (0 * cs.length + p.2) p.1) a) = cs.toArray:=by
 have e:(fun (ds:Array Value) (p:Value × Nat) => ds.setIfInBounds (0 * cs.length + p.2) p.1) = fun ds p => ds.setIfInBounds p.2 p.1:=by funext ds p;rw [Nat.zero_mul,Nat.zero_add]
 rw [e]
 obtain ⟨h1,h2⟩:=wh cs 0 a
 have hf:(cs.toArray.zipIdx.foldl (fun (ds:Array Value) (p:Value × Nat) => ds.setIfInBounds p.2 p.1) a) = ((cs.zipIdx 0).foldl (fun ds p => ds.setIfInBounds p.2 p.1) a):=by
  rw [← Array.foldl_toList,Array.toList_zipIdx]
 rw [hf]
 apply Array.ext_getElem?
 intro k
 rw [h2 k]
 by_cases hk:k < cs.length
 ·rw [if_pos (by omega),Nat.sub_zero];simp
 rw [if_neg (by omega),Array.getElem?_eq_none (by omega),Array.getElem?_eq_none (by simpa using hk)]
theorem iE {P:Program} (w:World) (t e:TypeId) (cs:List Value) (zs:Array Value) (ht:P.underlying t = some (.slice e)) (hsz:∀ w,(sizeOf e).run P w = .ok cs.length w) (hz:∀ w,(zeroValue e).run P w = .ok (.agg zs) w)
  (hpos:0 < cs.length) (hlim:cs.length ≤ 1000) :
  (Instr.buildSlice t 1 #[(0,.agg cs.toArray)]).run P w = .ok (.slice (some ⟨w.heap.size,0,none⟩) 1 1) (w.alloc (.cells cs.toArray e)):=by
 have hfill:Instr.fill (fun i => some (i * cs.length,cs.length)) ((Array.range (1 * cs.length)).map (zs[· % zs.size]!)) #[(0,Value.agg cs.toArray)].toList = some cs.toArray:=by
  have ha:((Array.range (1 * cs.length)).map (zs[· % zs.size]!)).size = cs.length:=by simp
  have hv:(Value.agg cs.toArray).cells = cs.toArray:=rfl
  show Instr.fill _ _ [(0,Value.agg cs.toArray)] = _
  unfold Instr.fill
  simp only [hv,List.size_toArray]
  rw [if_neg (by simp)]
  unfold Instr.fill
  rw [lay_all cs _ ha]
 have h1:¬ (16777216 < 1 * cs.length):=by omega
 have h2:¬ (1 * cs.length = 0):=by omega
 unfold Instr.buildSlice
 simp only [Sem.run_bind,run_underlying ht,Result.andThen_ok,hsz]
 rw [if_neg (by omega),if_neg h2]
 simp only [Sem.run_bind,Sem.run_pure,Result.andThen_ok,hz]
 have hv:(Value.agg zs).cells = zs:=rfl
 simp only [hv,hfill]
 simp [newRow]
theorem av {P:Program} {w:World} {ops:Array Oper} {rest:List Oper} {o:Oper} {a:Act} {Q:Exit → Act → World → Prop} (hg:o.guard = none) (x:Operand) (t e:TypeId) (hop:o.op = .buildSlice t 1 #[(0,x)])
  (cs:List Value) (zs:Array Value) (hx:a.eval x = .agg cs.toArray) (ht:P.underlying t = some (.slice e)) (hsz:∀ w,(sizeOf e).run P w = .ok cs.length w) (hz:∀ w,(zeroValue e).run P w = .ok (.agg zs) w)
  (hpos:0 < cs.length) (hlim:cs.length ≤ 1000) (hK:wpList P ops Q rest (a.put o.dst (.slice (some ⟨w.heap.size,0,none⟩) 1 1)) (w.alloc (.cells cs.toArray e))):wpList P ops Q (o :: rest) a w:=by
 refine wpList_plain hg fun K hK' => ?_
 have hrun:=iE w t e cs zs ht hsz hz hpos hlim
 unfold Oper.wp
 have he:(execOp a.eval o).run P w = .ok (.value (.slice (some ⟨w.heap.size,0,none⟩) 1 1)) (w.alloc (.cells cs.toArray e)):=by
  unfold execOp
  simp only [hop,List.map_toArray,List.map_cons,List.map_nil,hx,Sem.run_bind,hrun,Result.andThen_ok,Sem.run_pure]
 rw [he]
 exact hK' _ _ hK
theorem aL {P:Program} {fn:Func} {R:Ending → World → Prop} {a:Act} {w:World} {p q:Tmp} {ty:TypeId} (h:fn.results = #[.cell p ty,.tmp q]) (b o:Nat)
  (hp:a.tmps.getD p undef = .pointer (some ⟨b,o,none⟩)) (cs:List Value) (d:TypeDesc) (hc:w.rangeAt b o cs)
  (hu:P.underlying ty = some d) (hd:d.isRow = true) (hi:(P.info? ty).map (·.size) = some cs.length) (hdef:a.defers = []) (u:Value) (hq:a.tmps.getD q undef = u) (hR:R (.returned (.tuple #[.agg cs.toArray,u])) w):bodyPost P fn R .ret a w:=by
 refine bodyPost_ret (v:=.tuple #[.agg cs.toArray,u]) ?_ hdef hR
 have:=run_loadVar_mid (P:=P) w b o ty cs d hc hu hd hi
 simp only [results,h]
 rw [Array.getD_eq_getD_getElem?] at hp hq
 simp [asAddr,hp,hq,this]
theorem bD {P:Program} {ops:Array Oper} {rest:List Oper} {op:Oper} {a:Act} {w:World} {Q:Exit → Act → World → Prop} (hw:Region.wanted op (yielded ops a.tmps) = true) (ty:TypeId) (x:Operand) (ho:op.op = .load ty x)
  (b o:Nat) (hx:a.eval x = .pointer (some ⟨b,o,none⟩)) (cs:List Value) (d:TypeDesc) (hc:w.rangeAt b o cs)
  (hu:P.underlying ty = some d) (hd:d.isRow = true) (hi:(P.info? ty).map (·.size) = some cs.length)
  (h:wpList P ops Q rest (a.put op.dst (.agg cs.toArray)) w):wpList P ops Q (op :: rest) a w:=by
 unfold wpList
 rw [if_pos hw]
 exact .inl (wp_load_mid ty x ho b o hx cs d hc hu hd hi h)
def Fr (w:World) (v v':Value):Prop:=v'.ownBlock = v.ownBlock ∨ ∀ g,v'.ownBlock = some g → w.heap.size ≤ g
theorem Fr.refl (w:World) (v:Value):Fr w v v:=.inl rfl
theorem Fr.trans {w w':World} {a b c:Value} (h1:Fr w a b) (h2:Fr w' b c) (hs:w.heap.size ≤ w'.heap.size):Fr w a c:=by
 rcases h2 with h2 | h2
 ·rcases h1 with h1 | h1
  ·exact .inl (h2.trans h1)
  exact .inr fun g hg => h1 g (h2 ▸ hg)
 exact .inr fun g hg => Nat.le_trans hs (h2 g hg)
theorem Fr.mono {w w':World} {a b:Value} (h:Fr w' a b) (hs:w.heap.size ≤ w'.heap.size):Fr w a b:=(Fr.refl w a).trans h hs
theorem Fr.ne {w:World} {a b:Value} (h:Fr w a b) {k:Nat} (hk:k < w.heap.size) (hne:a.ownBlock ≠ some k):b.ownBlock ≠ some k:=by
 rcases h with h | h
 ·rw [h];exact hne
 intro e;have:=h k e;omega
theorem iq {w w1 w2:World} {r:Option Nat} (h1:w.grownBy w1 r) (h2:Below w1.heap.size w1 w2):w.grownBy w2 r :=
 ⟨h2.os.trans h1.os,h2.tape.trans h1.tape,h2.output.trans h1.output,Nat.le_trans h1.size h2.size,fun k hk hne => (h2.block k (Nat.lt_of_lt_of_le hk h1.size)).trans (h1.block k hk hne)⟩
theorem xZ {w w1 w2:World} {r:Option Nat} (h1:Below w.heap.size w w1) (h2:w1.grownBy w2 r):w.grownBy w2 r :=
 ⟨h2.os.trans h1.os,h2.tape.trans h1.tape,h2.output.trans h1.output,Nat.le_trans h1.size h2.size,fun k hk hne => (h2.block k (Nat.lt_of_lt_of_le hk h1.size) hne).trans (h1.block k hk)⟩
theorem gP {w w':World} {r:Option Nat} {b o:Nat} {cs:List Value} (h:w.rangeAt b o cs) (hg:w.grownBy w' r) (hne:r ≠ some b):w'.rangeAt b o cs :=
 fun j u hu => hg.cell (a:=⟨b,o + j,none⟩) (h j u hu) (fun e => hne e.symm)
theorem nL {w:World} {B B':Nat} {e:TypeId} {sz:Nat} {v:Value} {n:Nat} {xs:List Value} (h:w.ownsRow B e sz v n xs) (hb:B' ≤ B):w.ownsRow B' e sz v n xs:=by
 refine ⟨h.1,?_⟩
 rcases h.2 with h | ⟨g,cap,cur,hv,hg,r⟩
 ·exact .inl h
 exact .inr ⟨g,cap,cur,hv,Nat.le_trans hb hg,r⟩
theorem tL {w w':World} (h:w.grownBy w' none) (r:Option Nat):w.grownBy w' r:=⟨h.os,h.tape,h.output,h.size,fun k hk _ => h.block k hk (by simp)⟩
theorem oL {P:Program} (w:World) {ops:Array Oper} {rest:List Oper} {o:Oper} {a:Act} {Q:Exit → Act → World → Prop}
  (hg:o.guard = none) (s x:Operand) (t:TypeId) (hop:o.op = Op.call { callee:=Callee.builtin Builtin.append,args:=#[s,x],argTypes:=#[t,t] })
  (base:Nat) (e:TypeId) (i:TypeInfo) (z:Value) (size bytes:Nat) (h1:P.underlying t = some (.slice e)) (h2:P.info? e = some i) (h3:i.zero = some z) (h4:i.size = size) (h5:i.bytes = bytes) (h6:z.cells.size = size) (h7:0 < size)
  (v:Value) (n:Nat) (xs:List Value) (hs:a.eval s = v) (hown:w.ownsRow base e size v n xs)
  (ad:Addr) (m c:Nat) (news:List Value) (hx:a.eval x = .slice (some ad) m c) (hn:news.length = m * size) (hc:∀ j u,news[j]? = some u → w.cell? (ad.add j) = some u) (h1c:∀ u ∈ news,u.oneCell' = true)
  (b1:n + m ≤ maxLen) (b2:(n + m) * bytes ≤ 140737488355328) (hbase:base ≤ w.heap.size)
  (hK:∀ v' w',w'.ownsRow base e size v' (n + m) (xs ++ news) → w.grownBy w' v.ownBlock → Fr w v v' → wpList P ops Q rest (a.put o.dst v') w') :
  wpList P ops Q (o :: rest) a w:=by
 rcases hown.2 with ⟨hv,hn0⟩ | ⟨g,cap,cur,hv,hbg,hgg,hnc,hcm,hcs,htk⟩
 ·subst hn0
  have hx0:xs = []:=List.eq_nil_of_length_eq_zero (by simpa using hown.1)
  subst hx0
  subst hv
  refine wpList_append_own w hg s x t hop w.heap.size e i z size bytes h1 h2 h3 h4 h5 h6 h7 _ 0 [] hs (World.ownsRow_nil w _ e size) ad m c news hx hn hc h1c b1 b2 (Nat.le_refl _) ?_
  intro v' w' r1 r2 _
  exact hK v' w' (nL r1 hbase) r2 (.inr fun g hg => (r1.lt g hg).1 |> fun hh => hh)
 subst hv
 by_cases hroom:n + m ≤ cap
 ·refine wpList_append_own_spare w hg s x t hop base e i size h1 h2 h4 g n cap xs hs hown ad m c news hx hn hc h1c hroom ?_
  intro w' r1 r2
  exact hK _ w' r1 r2 (.inl rfl)
 refine wpList_append_grows w hg s x t hop e i z size bytes h1 h2 h3 h4 h5 h6 h7 (some ⟨g,0,none⟩) n cap xs hs (fun h => by cases h) hown.1 (fun b hb => by cases hb;exact hown.cells (g:=g) rfl) ad m c news hx hn hc h1c (by omega) b1 b2 ?_
 intro v' w' r1 r2
 exact hK v' w' (nL r1 hbase) (tL r2 _) (.inr fun g hg => (r1.lt g hg).1)
theorem aK {P:Program} {w:World} {b o:Nat} {cs:List Value} (ty:TypeId) (d:TypeDesc) (hr:w.rangeAt b o cs) (hu:P.underlying ty = some d) (hd:d.isRow = true)
  (hi:(P.info? ty).map (·.size) = some cs.length) {a:Act} {op:Oper} (x:Operand) (ho:op.op = .load ty x) (hx:a.eval x = .pointer (some ⟨b,o,none⟩)) :
  (execOp a.eval op).run P w = .ok (.value (.agg cs.toArray)) w:=by
 unfold execOp
 simp only [ho,hx,Instr.loadAt,Instr.sureAddr,Sem.run_bind,Sem.run_pure,Result.andThen_ok,run_loadVar_mid w b o ty cs d hr hu hd hi]
section
variable {P:Program} {ops:Array Oper} {Q:Exit → Act → World → Prop} {S:World → Prop}
theorem WL.two {n i k:Nat} {oi ok:Oper} {f:Nat} {ls:Array Bool} {a:Act} {w:World} (hi:ops[i]? = some oi) (hk:ops[k]? = some ok) (hin:i < n) (hkn:k < n) (hr:Region.ready .any ops ls = [i,k])
  (h:wpList P ops (KK Q S fun a' w' => WL P ops Q S n f (ls.setIfInBounds i true) a' w') [oi] a w) (h':wpList P ops (KK Q S fun a' w' => WL P ops Q S n f (ls.setIfInBounds k true) a' w') [ok] a w):WL P ops Q S n (f + 1) ls a w:=by
 have one:∀ {j:Nat} {oj:Oper},ops[j]? = some oj → j < n → j ∈ Region.ready .any ops ls → wpList P ops (KK Q S fun a' w' => WL P ops Q S n f (ls.setIfInBounds j true) a' w') [oj] a w → HeadInv .any ops n ls →
   wpOp P ops Q j (fun a' w' => S w' ∧ wpL P .any ops Q S n f (ls.setIfInBounds j true) a' w') a w:=by
  intro j oj hj hjn hjr h inv
  have hset:=inv.set hjr hjn
  unfold wpOp
  simp only [hj]
  simp only [wpList] at h
  split
  ·rename_i hw
   rw [if_pos hw] at h
   rcases h with h | ⟨h1,h2⟩
   ·exact .inl (Oper.wp_mono (fun a' w' h' => ⟨h'.1,h'.2.out hset⟩) (mX h))
   refine .inr ⟨h1,?_⟩
   obtain ⟨a',w',h'⟩:=h2
   exact ⟨a',w',h'⟩
  rename_i hw
  rw [if_neg hw] at h
  exact ⟨h.1,h.2.out hset⟩
 refine ⟨fun inv => ⟨fun h0 => (by rw [h0] at hr;cases hr),fun j hj => ?_⟩⟩
 have hj':=hj
 rw [hr] at hj
 rcases List.mem_cons.1 hj with rfl | hj2
 ·exact ⟨hin,one hi hin hj' h inv⟩
 obtain rfl:j = k:=by simpa using hj2
 exact ⟨hkn,one hk hkn hj' h' inv⟩
end
section
variable {P:Program} {ops:Array Oper} {Q:Exit → Act → World → Prop} {Sp S0:World → Prop} {m:Nat}
def SX (m:Nat) (Sp S0:World → Prop) (ls:Array Bool) (w:World):Prop:=Sp w ∧ (ls.getD m false = true ∨ S0 w)
theorem SX.set {ls:Array Bool} {w:World} {i:Nat} (h:i ≠ m):SX m Sp S0 (ls.setIfInBounds i true) w ↔ SX m Sp S0 ls w:=by
 unfold SX
 have:(ls.setIfInBounds i true).getD m false = ls.getD m false:=by
  rw [Array.getD_eq_getD_getElem?,Array.getD_eq_getD_getElem?,Array.getElem?_setIfInBounds_ne h]
 rw [this]
def wpX (P:Program) (ops:Array Oper) (Q:Exit → Act → World → Prop) (m:Nat) (Sp S0:World → Prop) (n:Nat):Nat → Array Bool → Act → World → Prop
 | 0,ls,a,w => (∀ j ∈ Region.ready .any ops ls,n ≤ j) ∧ wpAny P .any ops Q (ops.size - n) ls a w
 | f + 1,ls,a,w => Region.ready .any ops ls ≠ [] ∧ ∀ i ∈ Region.ready .any ops ls,i < n ∧ wpOp P ops Q i (fun a' w' => SX m Sp S0 (ls.setIfInBounds i true) w' ∧ wpX P ops Q m Sp S0 n f (ls.setIfInBounds i true) a' w') a w
theorem u6 {n i:Nat} {oi:Oper} {v:Value} {Sw:World → Prop} (R:Array Bool → Prop) (hi:ops[i]? = some oi) (hsel:∀ (j:Nat) (o:Oper) cs b,ops[j]? = some o → o.op ≠ .select cs b)
  (hs:Region.sinkB .any ops n = true) (hc:Region.chainB .any ops n = true) (hn:n < ops.size) (hin:i < n) (him:i ≠ m) (hQ:∀ c a w,Q (.panic c) (a.put oi.dst v) w → Q (.panic c) a w)
  (hR:∀ ls j,R ls → ls.getD i true = false → j ∈ Region.ready .any ops ls → j ≠ i → R (ls.setIfInBounds j true)) (hRS:∀ ls w,R ls → SX m Sp S0 ls w → Sw w) :
  ∀ (f:Nat) (ls:Array Bool) (a:Act) (w:World),HeadInv .any ops n ls → R ls →
   (∀ j oj,ops[j]? = some oj → j ≠ i → ls.getD j true = false → (∀ e ∈ oj.after,Region.binds .any e = true → e.on ≠ i) → oi.apart ops oj = true) →
   i ∈ Region.ready .any ops ls → YieldsIf P ops Sw oi v a → SX m Sp S0 ls w → wpX P ops Q m Sp S0 n f (ls.setIfInBounds i true) (a.put oi.dst v) w → wpX P ops Q m Sp S0 n (f + 1) ls a w:=by
 intro f
 induction f with
 | zero =>
  intro ls a w inv hRl _ hr hy hS H
  refine ⟨fun h0 => (by rw [h0] at hr;cases hr),fun j hj => ?_⟩
  have hjn:j < n:=Nat.lt_of_not_ge fun h0 => tail_waits hs hc hn inv _ i rfl hin (mem_ready.1 hr).1 j h0 hj
  refine ⟨hjn,?_⟩
  by_cases e:j = i
  ·subst e;exact hy.wpOp hi (hRS ls w hRl hS) ⟨(SX.set him).2 hS,H⟩
  have:=H.1 j (ready_mono hj e);omega
 | succ f ih =>
  intro ls a w inv hRl hfree hr hy hS H
  have hun:=(mem_ready.1 hr).1
  refine ⟨fun h0 => (by rw [h0] at hr;cases hr),fun j hj => ?_⟩
  have hjn:j < n:=Nat.lt_of_not_ge fun h0 => tail_waits hs hc hn inv _ i rfl hin hun j h0 hj
  refine ⟨hjn,?_⟩
  by_cases e:j = i
  ·subst e;exact hy.wpOp hi (hRS ls w hRl hS) ⟨(SX.set him).2 hS,H⟩
  obtain ⟨hjun,oj,hoj,hall⟩:=mem_ready.1 hj
  have hnot:∀ x ∈ oj.after,Region.binds .any x = true → x.on ≠ i:=fun x hx hb heq => by
   have h1:=hall x hx hb
   rw [heq,getD_both hun] at h1
   cases h1
  have h2:=wpOp_putIf hoj (hfree j oj hoj e hjun hnot) (fun cs b => hsel i oi cs b hi) (fun cs b => hsel j oj cs b hoj) hQ hy (H.2 j (ready_mono hj e)).2
  refine wpOp_mono (fun a' w' h3 => ?_) h2
  have h4:SX m Sp S0 (ls.setIfInBounds j true) w':=by
   have:=h3.2.1
   rw [Array.setIfInBounds_comm _ _ (Ne.symm e)] at this
   exact (SX.set him).1 this
  refine ⟨h4,ih (ls.setIfInBounds j true) a' w' (inv.set hj hjn) (hR ls j hRl hun hj e) ?_ (ready_mono hr (Ne.symm e)) h3.1 h4 ?_⟩
  ·intro k ok hk hki hkun hno
   refine hfree k ok hk hki ?_ hno
   by_cases ejk:j = k
   ·subst ejk;exact hjun
   rwa [getD_set_ne true ejk] at hkun
  rw [Array.setIfInBounds_comm _ _ e];exact h3.2.2
structure WX (P:Program) (ops:Array Oper) (Q:Exit → Act → World → Prop) (m:Nat) (Sp S0:World → Prop) (n f:Nat) (ls:Array Bool) (a:Act) (w:World):Prop where
 out:HeadInv .any ops n ls → wpX P ops Q m Sp S0 n f ls a w
def wQ (ops:Array Oper) (m i:Nat):Bool:=match ops[m]? with
 | none => true
 | some o => o.after.any fun e => Region.binds .any e && e.on == i
theorem yt {i:Nat} (h:wQ ops m i = true) {om:Oper} (hm:ops[m]? = some om):∃ e ∈ om.after,Region.binds .any e = true ∧ e.on = i:=by
 unfold wQ at h
 rw [hm] at h
 dsimp only at h
 obtain ⟨e,he,h2⟩:=Array.any_eq_true'.1 h
 rw [Bool.and_eq_true] at h2
 exact ⟨e,he,h2.1,by simpa using h2.2⟩
theorem WX.take {n i:Nat} {oi:Oper} {v:Value} {f:Nat} {ls:Array Bool} {a:Act} {w:World} (hi:ops[i]? = some oi) (hB:lastB ops n = true) (hin:i < n) (him:i ≠ m)
  (hf:Region.free .any ops ls i = true) (hr:(Region.ready .any ops ls).contains i = true) (hQ:∀ c a w,Q (.panic c) (a.put oi.dst v) w → Q (.panic c) a w) (hw:Region.wanted oi (yielded ops a.tmps) = true)
  (hy:∀ w,Sp w → (execOp a.eval oi).run P w = .ok (.value v) w) (hS:SX m Sp S0 ls w) (h:WX P ops Q m Sp S0 n f (ls.setIfInBounds i true) (a.put oi.dst v) w):WX P ops Q m Sp S0 n (f + 1) ls a w:=by
 simp only [lastB,Bool.and_eq_true,decide_eq_true_eq] at hB
 have hr':i ∈ Region.ready .any ops ls:=by simpa using hr
 exact ⟨fun inv => u6 (fun _ => True) hi (Region.noSelect_spec hB.1.1.1) hB.1.2 hB.2 hB.1.1.2 hin him hQ (fun _ _ _ _ _ _ => trivial) (fun _ _ _ h => h.1) f ls a w inv trivial (Region.free_spec hi hf) hr' (.inl ⟨hw,hy⟩) hS (h.out (inv.set hr' hin))⟩
theorem WX.take2 {n i:Nat} {oi:Oper} {v:Value} {f:Nat} {ls:Array Bool} {a:Act} {w:World} (hi:ops[i]? = some oi) (hB:lastB ops n = true) (hin:i < n) (him:i ≠ m) (hwt:wQ ops m i = true) (hml:ls.getD m false = false)
  (hf:Region.free .any ops ls i = true) (hr:(Region.ready .any ops ls).contains i = true) (hQ:∀ c a w,Q (.panic c) (a.put oi.dst v) w → Q (.panic c) a w) (hw:Region.wanted oi (yielded ops a.tmps) = true)
  (hy:∀ w,Sp w ∧ S0 w → (execOp a.eval oi).run P w = .ok (.value v) w) (hS:SX m Sp S0 ls w) (h:WX P ops Q m Sp S0 n f (ls.setIfInBounds i true) (a.put oi.dst v) w):WX P ops Q m Sp S0 n (f + 1) ls a w:=by
 simp only [lastB,Bool.and_eq_true,decide_eq_true_eq] at hB
 have hr':i ∈ Region.ready .any ops ls:=by simpa using hr
 refine ⟨fun inv => u6 (Sw:=fun w => Sp w ∧ S0 w) (fun ls => ls.getD m false = false) hi (Region.noSelect_spec hB.1.1.1) hB.1.2 hB.2 hB.1.1.2 hin him hQ (fun ls j hR hun hj e => ?_) (fun ls w hR h => ⟨h.1,?_⟩) f ls a w inv hml (Region.free_spec hi hf) hr' (.inl ⟨hw,hy⟩) hS (h.out (inv.set hr' hin))⟩
 ·have hjm:j ≠ m:=fun e2 => by
   subst e2
   obtain ⟨_,oj,hoj,hall⟩:=mem_ready.1 hj
   obtain ⟨x,hx,hb,hon⟩:=yt hwt hoj
   have h1:=hall x hx hb
   rw [hon,getD_both hun] at h1
   cases h1
  rw [Array.getD_eq_getD_getElem?,Array.getElem?_setIfInBounds_ne hjm,← Array.getD_eq_getD_getElem?]
  exact hR
 rcases h.2 with h2 | h2
 ·rw [hR] at h2;cases h2
 exact h2
theorem WX.each {n j:Nat} {oj:Oper} {f:Nat} {ls:Array Bool} {a:Act} {w:World} (hj:ops[j]? = some oj) (hjn:j < n) (hjr:j ∈ Region.ready .any ops ls)
  (h:wpList P ops (KK Q (SX m Sp S0 (ls.setIfInBounds j true)) fun a' w' => WX P ops Q m Sp S0 n f (ls.setIfInBounds j true) a' w') [oj] a w) (inv:HeadInv .any ops n ls) :
  wpOp P ops Q j (fun a' w' => SX m Sp S0 (ls.setIfInBounds j true) w' ∧ wpX P ops Q m Sp S0 n f (ls.setIfInBounds j true) a' w') a w:=by
 have hset:=inv.set hjr hjn
 unfold wpOp
 simp only [hj]
 simp only [wpList] at h
 split
 ·rename_i hw
  rw [if_pos hw] at h
  rcases h with h | ⟨h1,h2⟩
  ·exact .inl (Oper.wp_mono (fun a' w' h' => ⟨h'.1,h'.2.out hset⟩) (mX h))
  refine .inr ⟨h1,?_⟩
  obtain ⟨a',w',h'⟩:=h2
  exact ⟨a',w',h'⟩
 rename_i hw
 rw [if_neg hw] at h
 exact ⟨h.1,h.2.out hset⟩
theorem WX.one {n i:Nat} {oi:Oper} {f:Nat} {ls:Array Bool} {a:Act} {w:World} (hi:ops[i]? = some oi) (hin:i < n) (hr:Region.ready .any ops ls = [i])
  (h:wpList P ops (KK Q (SX m Sp S0 (ls.setIfInBounds i true)) fun a' w' => WX P ops Q m Sp S0 n f (ls.setIfInBounds i true) a' w') [oi] a w):WX P ops Q m Sp S0 n (f + 1) ls a w:=by
 refine ⟨fun inv => ⟨fun h0 => (by rw [hr] at h0;cases h0),fun j hj => ?_⟩⟩
 have hj':=hj
 rw [hr] at hj
 obtain rfl:j = i:=by simpa using hj
 exact ⟨hin,WX.each hi hin hj' h inv⟩
theorem WX.two {n i k:Nat} {oi ok:Oper} {f:Nat} {ls:Array Bool} {a:Act} {w:World} (hi:ops[i]? = some oi) (hk:ops[k]? = some ok) (hin:i < n) (hkn:k < n) (hr:Region.ready .any ops ls = [i,k])
  (h:wpList P ops (KK Q (SX m Sp S0 (ls.setIfInBounds i true)) fun a' w' => WX P ops Q m Sp S0 n f (ls.setIfInBounds i true) a' w') [oi] a w)
  (h':wpList P ops (KK Q (SX m Sp S0 (ls.setIfInBounds k true)) fun a' w' => WX P ops Q m Sp S0 n f (ls.setIfInBounds k true) a' w') [ok] a w):WX P ops Q m Sp S0 n (f + 1) ls a w:=by
 refine ⟨fun inv => ⟨fun h0 => (by rw [h0] at hr;cases hr),fun j hj => ?_⟩⟩
 have hj':=hj
 rw [hr] at hj
 rcases List.mem_cons.1 hj with rfl | hj2
 ·exact ⟨hin,WX.each hi hin hj' h inv⟩
 obtain rfl:j = k:=by simpa using hj2
 exact ⟨hkn,WX.each hk hkn hj' h' inv⟩
theorem WX.last {n:Nat} {oi:Oper} {ls:Array Bool} {a:Act} {w:World} (hi:ops[n]? = some oi) (hz:ops.size = n + 1) (hr:Region.ready .any ops ls = [n]) (hd:Region.ready .any ops (ls.setIfInBounds n true) = [])
  (h:wpList P ops Q [oi] a w):WX P ops Q m Sp S0 n 0 ls a w:=by
 refine ⟨fun _ => ⟨fun j hj => ?_,?_⟩⟩
 ·rw [hr] at hj
  have e:j = n:=by simpa using hj
  omega
 rw [show ops.size - n = 1 from by omega]
 refine ⟨fun h0 => (by rw [hr] at h0;cases h0),fun j hj => ?_⟩
 rw [hr] at hj
 obtain rfl:j = n:=by simpa using hj
 have hw:wpOp P ops Q j (wpList P ops Q []) a w:=by unfold wpOp;simp only [hi];exact h
 exact wpOp_mono (fun a' w' h' => ⟨hd,h'⟩) hw
end
structure A2 (B:Nat) (E1 E2:TypeId) (s1 s2:Nat) (wz:World) (v1:Value) (n1:Nat) (x1:List Value) (v2:Value) (n2:Nat) (x2:List Value) (q1 q2:Option (Nat × List Value)) (W:World):Prop where
 o1:W.ownsRow B E1 s1 v1 n1 x1
 o2:W.ownsRow B E2 s2 v2 n2 x2
 bel:Below B wz W
 sz:wz.heap.size ≤ W.heap.size
 q1:∀ b c,q1 = some (b,c) → wz.heap.size ≤ b ∧ b < W.heap.size ∧ W.rangeAt b 0 c
 q2:∀ b c,q2 = some (b,c) → wz.heap.size ≤ b ∧ b < W.heap.size ∧ W.rangeAt b 0 c
theorem nz {α:Type}:(∀ (xs:List α) (i:Nat) (h:i < xs.toArray.size),xs.toArray[i] = xs[i]'(by simpa using h)) ∧ (∀ (a:α) (l:List α) (i:Nat) (h:i + 1 < (a :: l).length),(a :: l)[i + 1] = l[i]'(by simpa using h)) ∧
  (∀ (a:α) (l:List α) (h:0 < (a :: l).length),(a :: l)[0] = a) ∧ (∀ (l:List α) (i:Nat) (a:α),l.toArray.setIfInBounds i a = (l.set i a).toArray) ∧ (∀ (x:α) (l:List α) (i:Nat) (a:α),(x :: l).set (i + 1) a = x :: l.set i a) ∧
  ∀ (x:α) (l:List α) (a:α),(x :: l).set 0 a = a :: l :=
 ⟨fun _ _ h => List.getElem_toArray h,fun a l i h => List.getElem_cons_succ a l i h,fun a l h => List.getElem_cons_zero a l h,fun l i a => List.setIfInBounds_toArray l i a,fun _ _ _ _ => List.set_cons_succ,fun _ _ _ => List.set_cons_zero⟩
theorem ah {p:Prop} (h:p):Hid p:=Lib.hid h
theorem bal {w:World} {x:Obj}:Below w.heap.size w (w.alloc x):=(Below.refl _ _).alloc (Nat.le_refl _) _
theorem bth {a b c:World} (h:Hid (Below a.heap.size a b)) (h2:Below b.heap.size b c):Hid (Below a.heap.size a c):=Lib.hid (h.out.trans (h2.mono h.out.size))
theorem blq {w:World} {b o:Nat} {v:Value} (h:w.cell? ⟨b,o,none⟩ = some v) (hb:b < w.heap.size:=by omega) (x:BW w.heap.size w):x.out.cell? ⟨b,o,none⟩ = some v:=aA h x.hb hb
section
variable {P:Program} {ops:Array Oper} {Q:Exit → Act → World → Prop} {S Sp S0:World → Prop} {n m f:Nat} {oi ok:Oper} {v:Value} {ls:Array Bool} {a:Act} {w:World}
theorem WL.tk (i:Nat) {a':Act} (hS:S w) (h:WL P ops Q S n f (ls.setIfInBounds i true) a' w) (hi:ops[i]? = some oi:=by rfl) (hB:lastB ops n = true:=by kernel_rfl) (hin:i < n:=by decide)
  (hf:Region.free .any ops ls i = true:=by decide +kernel) (hr:(Region.ready .any ops ls).contains i = true:=by decide +kernel) (hQ:∀ c a w,Q (.panic c) (a.put oi.dst v) w → Q (.panic c) a w:=by exact fun _ _ _ h => h)
  (hw:Region.wanted oi (yielded ops a.tmps) = true:=by rfl) (hy:∀ w,S w → (execOp a.eval oi).run P w = .ok (.value v) w:=by intro w' hSw;(try dsimp only at hSw);go_simp;(try with_reducible rfl))
  (ha:a.put oi.dst v = a':=by simp only [Act.put,nz];rfl):WL P ops Q S n (f + 1) ls a w:=by
 subst ha
 exact WL.take hi hB hin hf hr hQ hw hy hS h
theorem WL.on (i:Nat) (h:wpList P ops (KK Q S fun a' w' => WL P ops Q S n f (ls.setIfInBounds i true) a' w') [oi] a w) (hi:ops[i]? = some oi:=by rfl) (hin:i < n:=by decide) (hr:Region.ready .any ops ls = [i]:=by decide +kernel):WL P ops Q S n (f + 1) ls a w:=WL.one hi hin hr h
theorem WL.tw (i k:Nat) (h:wpList P ops (KK Q S fun a' w' => WL P ops Q S n f (ls.setIfInBounds i true) a' w') [oi] a w) (h':wpList P ops (KK Q S fun a' w' => WL P ops Q S n f (ls.setIfInBounds k true) a' w') [ok] a w)
  (hi:ops[i]? = some oi:=by rfl) (hk:ops[k]? = some ok:=by rfl) (hin:i < n:=by decide) (hkn:k < n:=by decide) (hr:Region.ready .any ops ls = [i,k]:=by decide +kernel):WL P ops Q S n (f + 1) ls a w:=WL.two hi hk hin hkn hr h h'
theorem WL.la (n:Nat) (h:wpList P ops Q [oi] a w) (hi:ops[n]? = some oi:=by rfl) (hz:ops.size = n + 1:=by rfl) (hr:Region.ready .any ops ls = [n]:=by decide +kernel) (hd:Region.ready .any ops (ls.setIfInBounds n true) = []:=by decide +kernel):WL P ops Q S n 0 ls a w:=WL.last hi hz hr hd h
theorem WX.tk (i:Nat) {a':Act} (hS:SX m Sp S0 ls w) (h:WX P ops Q m Sp S0 n f (ls.setIfInBounds i true) a' w) (hi:ops[i]? = some oi:=by rfl) (hB:lastB ops n = true:=by kernel_rfl) (hin:i < n:=by decide) (him:i ≠ m:=by decide)
  (hf:Region.free .any ops ls i = true:=by decide +kernel) (hr:(Region.ready .any ops ls).contains i = true:=by decide +kernel) (hQ:∀ c a w,Q (.panic c) (a.put oi.dst v) w → Q (.panic c) a w:=by exact fun _ _ _ h => h)
  (hw:Region.wanted oi (yielded ops a.tmps) = true:=by rfl) (hy:∀ w,Sp w → (execOp a.eval oi).run P w = .ok (.value v) w:=by intro w' hSw;(try dsimp only at hSw);go_simp;(try with_reducible rfl))
  (ha:a.put oi.dst v = a':=by simp only [Act.put,nz];rfl):WX P ops Q m Sp S0 n (f + 1) ls a w:=by
 subst ha
 exact WX.take hi hB hin him hf hr hQ hw hy hS h
theorem WX.t2 (i:Nat) {a':Act} (hS:SX m Sp S0 ls w) (h:WX P ops Q m Sp S0 n f (ls.setIfInBounds i true) a' w) (hi:ops[i]? = some oi:=by rfl) (hB:lastB ops n = true:=by kernel_rfl) (hin:i < n:=by decide) (him:i ≠ m:=by decide) (hwt:wQ ops m i = true:=by decide +kernel) (hml:ls.getD m false = false:=by decide +kernel)
  (hf:Region.free .any ops ls i = true:=by decide +kernel) (hr:(Region.ready .any ops ls).contains i = true:=by decide +kernel) (hQ:∀ c a w,Q (.panic c) (a.put oi.dst v) w → Q (.panic c) a w:=by exact fun _ _ _ h => h)
  (hw:Region.wanted oi (yielded ops a.tmps) = true:=by rfl) (hy:∀ w,Sp w ∧ S0 w → (execOp a.eval oi).run P w = .ok (.value v) w:=by intro w' hSw;(try dsimp only at hSw);go_simp;(try with_reducible rfl))
  (ha:a.put oi.dst v = a':=by simp only [Act.put,nz];rfl):WX P ops Q m Sp S0 n (f + 1) ls a w:=by
 subst ha
 exact WX.take2 hi hB hin him hwt hml hf hr hQ hw hy hS h
theorem WX.on (i:Nat) (h:wpList P ops (KK Q (SX m Sp S0 (ls.setIfInBounds i true)) fun a' w' => WX P ops Q m Sp S0 n f (ls.setIfInBounds i true) a' w') [oi] a w) (hi:ops[i]? = some oi:=by rfl) (hin:i < n:=by decide) (hr:Region.ready .any ops ls = [i]:=by decide +kernel):WX P ops Q m Sp S0 n (f + 1) ls a w:=WX.one hi hin hr h
theorem WX.la (n:Nat) (h:wpList P ops Q [oi] a w) (hi:ops[n]? = some oi:=by rfl) (hz:ops.size = n + 1:=by rfl) (hr:Region.ready .any ops ls = [n]:=by decide +kernel) (hd:Region.ready .any ops (ls.setIfInBounds n true) = []:=by decide +kernel):WX P ops Q m Sp S0 n 0 ls a w:=WX.last hi hz hr hd h
end
section
variable {P:Program} {id:Nat} {Q:Exit → Act → World → Prop} {a:Act} {w:World} {l:List Oper}
theorem wbq (h:wpQuiet P l.toArray (fun w' => ∃ x:BW w.heap.size w,w' = x.out) (fun a' => ∀ w',Below w.heap.size w w' → Q .normal a' w') l a) (hm:P.follows .mixedOrders = true:=by kernel_rfl) (hB:Region.lexB .any l.toArray = true:=by kernel_rfl):(Code.region id l.toArray true).wp P Q a w:=jF hm hB h
theorem wrL (n:Nat) (S:World → Prop) (h:WL P l.toArray Q S n n (Array.replicate l.toArray.size false) a w.drew) (hm:P.follows .mixedOrders = true:=by kernel_rfl) (hB:lastB l.toArray n = true:=by kernel_rfl):(Code.region id l.toArray true).wp P Q a w:=yj n S hm hB h
end
def kV:List Value:=iZ.map fun k => .int .u32 (wn k)
theorem Lc:kV.length = 64:=by unfold kV;rw [List.length_map,mq]
def fJ (f:Nat → W32) (k:Nat):Value:=.int .u32 (wn (f k))
theorem q8 (f:Nat → W32) (i:Nat) (x:W32):upd (fJ f) i (.int .u32 (wn x)) = fJ (upd f i x):=by
 funext k;unfold upd fJ;dsimp only;split <;> rfl
theorem Arr.new (w:World) (n:Nat) (v:Value) (e:TypeId):Arr (w.alloc (.cells (Array.replicate n v) e)) w.heap.size n (fun _ => v) :=
 ⟨fun k hk => by rw [World.cell?_alloc_new];simp [hk],fun k hk => by rw [World.frozen?_alloc_new]⟩
theorem LM (w:World):(sizeOf 5).run prog w = .ok 1 w:=by kernel_rfl
theorem AA (b:Nat) (k:Nat) (hk:k < 16) (w:World) :
  (Instr.sliceAt 161 (.pointer (some ⟨b,9,none⟩)) (some (.int .i64 (4 * (k:Int)))) (some (.int .i64 (4 * (k:Int) + 4))) none).run prog w = .ok (.slice (some ⟨b,9 + 4 * k,none⟩) 4 (64 - 4 * k)) w:=by
 have ea:prog.arrayLen 161 = 64:=by kernel_rfl
 have ee:prog.elem 161 = 5:=by kernel_rfl
 have e1:((4 * (k:Int))).toNat = 4 * k:=by omega
 have e2:((4 * (k:Int) + 4)).toNat = 4 * k + 4:=by omega
 rw [run_sliceAt_array_lh _ _ _ (by rw [ea,ee];exact underlying161) _ _ _ _ (by omega) (by omega) (by rw [ea];omega),ea,ee,LM,e1,e2]
 show Result.ok (slicedAt _ _ _ _ _) w = _
 unfold slicedAt
 rw [if_neg (by omega),show 4 * k + 4 - 4 * k = 4 from by omega,Addr.add_mid,Nat.mul_one]
theorem Arr.eight (w:World) (s:Nat → W32) (e:TypeId):Arr (w.alloc (.cells #[.int .u32 (wn (s 0)),.int .u32 (wn (s 1)),.int .u32 (wn (s 2)),.int .u32 (wn (s 3)),.int .u32 (wn (s 4)),.int .u32 (wn (s 5)),.int .u32 (wn (s 6)),.int .u32 (wn (s 7))] e)) w.heap.size 8 (fJ s):=by
 refine ⟨fun k hk => ?_,fun k hk => by rw [World.frozen?_alloc_new]⟩
 rw [World.cell?_alloc_new]
 obtain h | h | h | h | h | h | h | h:k = 0 ∨ k = 1 ∨ k = 2 ∨ k = 3 ∨ k = 4 ∨ k = 5 ∨ k = 6 ∨ k = 7:=by omega
 all_goals subst h;rfl
theorem Arr.Gn {w:World} {b n:Nat} {c:Nat → Value} (h:Arr w b n c) (vs:List Value) (hn:vs.length = n):Arr (w.setCells b 0 vs) b n (fun k => vs.getD k undef):=by
 refine ⟨fun k hk => ?_,fun k hk => ?_⟩
 ·have:=World.rangeAt_setCells_same w b 0 vs (by rw [hn];exact h.there) k (vs.getD k undef) (by simp [hn,hk])
  simpa using this
 have:=(World.there_setCells h.there b 0 vs k hk).2
 simpa using this
theorem aj {P:Program} {ops:Array Oper} {rest:List Oper} {op:Oper} {a:Act} {w:World} {Q:Exit → Act → World → Prop} (hgd:op.guard = none) (ty:TypeId) (x y:Operand) (ho:op.op = .store ty x y)
  (b o:Nat) (vs:List Value) (hx:a.eval x = .pointer (some ⟨b,o,none⟩)) (hy:a.eval y = .agg vs.toArray) (n:Nat) (hn:vs.length = n)
  (ht:w.there b o n) (hi:(P.info? ty).map (·.size) = some n) (h1:∀ v ∈ vs,v.oneCell' = true)
  (h:wpList P ops Q rest (a.put op.dst undef) (w.setCells b o vs)):wpList P ops Q (op :: rest) a w :=
 wpList_store_mid hgd ty x y ho b o vs.toArray hx hy (by simpa [hn] using ht) (by simpa [hn] using hi) (all_oneCell_toArray h1) (by simpa using h)
theorem bg {w w':World} {b o:Nat} (h:w.grownBy w' (some b)) (v:Value):w.grownBy (w'.setCell ⟨b,o,none⟩ v) (some b) :=
 ⟨h.os,h.tape,h.output,by simpa [World.setCell] using h.size,fun k hk hne => by rw [Below.heap_setCell _ _ _ _ (fun e => hne (by rw [e]))];exact h.block k hk hne⟩
theorem zM {w w' w2:World} {row:Option Nat} (h:w.grownBy w' row) (hb:Below w'.heap.size w' w2):w.grownBy w2 row :=
 ⟨hb.os.trans h.os,hb.tape.trans h.tape,hb.output.trans h.output,Nat.le_trans h.size hb.size,fun k hk hne => (hb.block k (Nat.lt_of_lt_of_le hk h.size)).trans (h.block k hk hne)⟩
theorem yT (w:World) (n:Nat) (hn:n < 64):(Instr.index 280 (.agg kV.toArray) (.int .i64 (n:Int))).run prog w = .ok (.int .u32 (wn (rK n))) w:=by
 have hs:(sizeOf 225).run prog w = .ok 1 w:=by kernel_rfl
 have ha:(isAgg 225).run prog w = .ok false w:=by kernel_rfl
 have hk:kV.toArray[n]? = some (.int .u32 (wn (rK n))):=by
  unfold kV rK
  have:n < iZ.length:=by rw [mq];exact hn
  simp [this]
 have h1:(0:Int) ≤ n ∧ (n:Int) < (64:Nat):=by omega
 unfold Instr.index
 simp only [Sem.run_bind,asIntOf,Sem.run_pure,Result.andThen_ok,run_underlying underlying280,if_pos h1,hs,part,ha,Int.toNat_natCast,Nat.mul_one,hk]
 rfl
theorem Ga (b:Nat) (h:HS) (w:World) (hA:Arr w b 75 h.c) (hR:w.rangeAt 3 0 kV) (hRl:3 < w.heap.size) :
  Calls prog 244 #[.pointer (some ⟨b,0,none⟩)] w fun e w' => e = .returned (.tuple #[]) ∧ Arr w' b 75 (HS.c { h with st:=d9 h.st h.rest,many:=0 }) ∧ w.grownBy w' (some b):=by
 have hbl:b < w.heap.size:=hA.lt (by omega)
 have hW0:Arr (w.alloc (.cells (Array.replicate 64 (.int .u32 0)) 280)) w.heap.size 64 (fJ (fQ h.rest 0 0)):=by
  rw [Br];exact Arr.new w 64 _ _
 have HK:=ah (fun (w:World) (n:Nat) (hn:n < 64) => yT w n hn)
 have hz:(prog.info? 280).map (·.size) = some kV.length:=by rw [Lc];kernel_rfl
 have HZ:=ah hz
 clear hz
 generalize kV = KV at hR HK HZ
 have HA:=ah hA
 have HR:=ah hR
 clear hA hR
 go_enter func244,ntmps244
 go_wp2
 go_loopw [13] (fun i wr => ∃ k:Nat,k ≤ 16 ∧ i = .int .i64 k ∧ Arr wr w.heap.size 64 (fJ (fQ h.rest k 0)) ∧ Below w.heap.size w wr) (fun i _ => (16 - intOf i).toNat)
 case atStart => exact ⟨0,by omega,rfl,hW0,bal⟩
 obtain ⟨wo,rfl⟩:∃ wo:World,wo = wr:=⟨_,rfl⟩
 obtain ⟨k,hk,rfl,hW,hb⟩:=hrel
 clear hW0
 by_cases hlt:k < 16
 ·have hd:decide ((k:Int) < 16) = true:=decide_eq_true (by omega)
  have hsl:=AA b k hlt
  have k0:(0:Int) ≤ k:=by omega
  have k1:(k:Int) < 16:=by omega
  go_wp2
  go_loopw [26] (fun i wr => ∃ j:Nat,j ≤ 4 ∧ i = .int .i64 j ∧ Arr wr w.heap.size 64 (fJ (fQ h.rest k j)) ∧ Below w.heap.size w wr) (fun i _ => (4 - intOf i).toNat)
  case atStart => exact ⟨0,by omega,rfl,hW,hb⟩
  obtain ⟨wi,rfl⟩:∃ wi:World,wi = wr:=⟨_,rfl⟩
  obtain ⟨j,hj,rfl,hWi,hbi⟩:=hrel
  clear hW hb
  by_cases hjl:j < 4
  ·have cr:wi.cell? ⟨b,9 + 4 * k + j,none⟩ = some (.int .u8 (wn (bw (h.rest (4 * k + j))))):=by
    rw [hbi.cell (p:=⟨b,9 + 4 * k + j,none⟩) hbl,Nat.add_assoc,HA.out.cell _ (by omega),HS.Lp _ _ (by omega),q9]
   have cw:=hWi.cell k (by omega)
   have fw:=hWi.free k (by omega)
   unfold fJ at cw
   have b0:=wn_0 (bw (h.rest (4 * k + j)))
   have b1:=Md (h.rest (4 * k + j))
   have x0:=wn_0 (fQ h.rest k j k)
   have x1:=vg (fQ h.rest k j k)
   have j0:(0:Int) ≤ j:=by omega
   have j1:(j:Int) < 4:=by omega
   have HN:=ah (hWi.set k (by omega) (.int .u32 (wn (fQ h.rest k j k <<< 8 ||| bw (h.rest (4 * k + j))))))
   have hd2:decide ((j:Int) < 4) = true:=decide_eq_true (by omega)
   clear hWi
   go_wp2
   go_roundw
   case rel =>
    rw [Lj,w_or]
    refine ⟨j + 1,by omega,by go_num,?_,hbi.setCell (Nat.le_refl _) _⟩
    have:=HN.out
    rw [q8,Bu] at this
    exact this
   case measure => simp [intOf];omega
  obtain rfl:j = 4:=by omega
  go_wp2
  go_roundw
  case rel => exact ⟨k + 1,by omega,by go_num,by rw [← Bt];exact hWi,hbi⟩
  case measure => simp [intOf];omega
 obtain rfl:k = 16:=by omega
 obtain ⟨w1,rfl⟩:∃ w1:World,w1 = wo:=⟨_,rfl⟩
 go_wp2
 go_loopw [6] (fun i wr => ∃ n:Nat,n ≤ 48 ∧ i = .int .i64 (16 + n:Nat) ∧ Arr wr w.heap.size 64 (fJ (aW h.rest n)) ∧ Below w.heap.size w wr) (fun i _ => (64 - intOf i).toNat)
 case atStart => exact ⟨0,by omega,rfl,hW,hb⟩
 obtain ⟨wi,rfl⟩:∃ wi:World,wi = wr:=⟨_,rfl⟩
 obtain ⟨n,hn,rfl,hWi,hbi⟩:=hrel
 clear hW hb
 generalize hm:16 + n = m
 by_cases hnl:n < 48
 ·have c2:=hWi.cell (m - 2) (by omega)
  have c7:=hWi.cell (m - 7) (by omega)
  have c15:=hWi.cell (m - 15) (by omega)
  have c16:=hWi.cell (m - 16) (by omega)
  have cm:=hWi.cell m (by omega)
  have fm:=hWi.free m (by omega)
  have HN:=ah (hWi.set m (by omega) (.int .u32 (wn (CF (aW h.rest n) m))))
  have hsz:w.heap.size < wi.heap.size:=hWi.lt (by omega)
  unfold fJ at c2 c7 c15 c16 cm
  have m0:(16:Int) ≤ m:=by omega
  have m1:(m:Int) < 64:=by omega
  have hd2:decide ((m:Int) < 64) = true:=decide_eq_true (by omega)
  have HWI:=ah hWi
  clear hWi
  have a2:IntKind.i64.wrap ((m:Int) - 2) = (m:Int) - 2:=IntWalk.i64_in _ (by omega)
  have t2:((m:Int) - 2).toNat = m - 2:=by omega
  have z2:(2:Int) ≤ m:=by omega
  have y2:(m:Int) - 2 < 64:=by omega
  have a7:IntKind.i64.wrap ((m:Int) - 7) = (m:Int) - 7:=IntWalk.i64_in _ (by omega)
  have t7:((m:Int) - 7).toNat = m - 7:=by omega
  have z7:(7:Int) ≤ m:=by omega
  have y7:(m:Int) - 7 < 64:=by omega
  have a15:IntKind.i64.wrap ((m:Int) - 15) = (m:Int) - 15:=IntWalk.i64_in _ (by omega)
  have t15:((m:Int) - 15).toNat = m - 15:=by omega
  have z15:(15:Int) ≤ m:=by omega
  have y15:(m:Int) - 15 < 64:=by omega
  have a16:IntKind.i64.wrap ((m:Int) - 16) = (m:Int) - 16:=IntWalk.i64_in _ (by omega)
  have t16:((m:Int) - 16).toNat = m - 16:=by omega
  have z16:(16:Int) ≤ m:=by omega
  have y16:(m:Int) - 16 < 64:=by omega
  have EA:=zV
  have HT1:∀ w,Calls prog 278 #[.int .u32 (wn (aW h.rest n (m - 2))),.int .i64 17,.int .i64 19,.int .i64 10] w fun e w' => e = .returned (.int .u32 (wn (nu (aW h.rest n (m - 2)) 17 19 10))) ∧ Below w.heap.size w w':=fun w => yE (aW h.rest n (m - 2)) 17 19 10 (by omega) (by omega) (by omega) (by omega) (by omega) w
  have HT2:∀ w,Calls prog 278 #[.int .u32 (wn (aW h.rest n (m - 15))),.int .i64 7,.int .i64 18,.int .i64 3] w fun e w' => e = .returned (.int .u32 (wn (nu (aW h.rest n (m - 15)) 7 18 3))) ∧ Below w.heap.size w w':=fun w => yE (aW h.rest n (m - 15)) 7 18 3 (by omega) (by omega) (by omega) (by omega) (by omega) w
  go_wp2
  refine aZ 23 (by kernel_rfl) (by kernel_rfl) ?_
  simp only [List.take_succ_cons,List.take_zero,List.drop_succ_cons,List.drop_zero]
  have LQ0:=blq c2
  have LQ1:=blq c7
  have LQ2:=blq c15
  have LQ3:=blq c16
  repeat (go_big_quiet_step ((first | (go_at_call 278;with_reducible exact ay (HT1 _)) | (go_at_call 278;with_reducible exact ay (HT2 _)))))
  refine wpQuiet_nil ?_
  intro wq hbq
  clear LQ0 LQ1 LQ2 LQ3
  have cmn:=aA cm hbq hsz
  have fmn:wq.frozen? ⟨w.heap.size,m,none⟩ = false:=by rw [hbq.frozen (p:=⟨w.heap.size,m,none⟩) hsz];exact fm
  go_wp2
  go_roundw
  case rel =>
   have h1:=(HWI.out.below hbq hsz).set m (by omega) (.int .u32 (wn (CF (aW h.rest n) m)))
   refine ⟨n + 1,by omega,by rw [← hm];go_num,?_,(hbi.trans (hbq.mono hbi.size)).setCell (Nat.le_refl _) _⟩
   rw [q8,← hm] at h1
   rw [← hm]
   exact h1
  case measure => simp [intOf];omega
 obtain rfl:n = 48:=by omega
 obtain rfl:m = 64:=by omega
 have hsz:w.heap.size < wi.heap.size:=hWi.lt (by omega)
 have HWI:=ah hWi
 have hAi:=HA.out.below hbi hbl
 have c0:=hAi.cell (1 + 0) (by omega)
 have c1:=hAi.cell (1 + 1) (by omega)
 have c2:=hAi.cell (1 + 2) (by omega)
 have c3:=hAi.cell (1 + 3) (by omega)
 have c4:=hAi.cell (1 + 4) (by omega)
 have c5:=hAi.cell (1 + 5) (by omega)
 have c6:=hAi.cell (1 + 6) (by omega)
 have c7:=hAi.cell (1 + 7) (by omega)
 rw [HS.c_st _ _ (by omega)] at c0 c1 c2 c3 c4 c5 c6 c7
 simp only [Nat.reduceAdd] at c0 c1 c2 c3 c4 c5 c6 c7
 clear hAi hWi
 have hRi:wi.rangeAt 3 0 KV:=aF HR.out hbi hRl
 go_wp2_with (refine wpList_load_mid rfl 280 _ rfl 3 0 rfl _ _ (World.rangeAt_alloc hRi _) underlying280 rfl HZ.out ?_)
 clear hRi c0 c1 c2 c3 c4 c5 c6 c7
 generalize hW:aW h.rest 48 = W at HWI
 have HWW:=ah hW
 clear hW
 go_loopw [73] (fun i wr => ∃ n:Nat,n ≤ 64 ∧ i = .int .i64 n ∧ Arr wr wi.heap.size 8 (fJ (bW W h.st n)) ∧ Below wi.heap.size wi wr) (fun i _ => (64 - intOf i).toNat)
 case atStart => exact ⟨0,by omega,rfl,Arr.eight _ _ _,bal⟩
 obtain ⟨wj,rfl⟩:∃ wj:World,wj = wr:=⟨_,rfl⟩
 obtain ⟨n,hn,rfl,hS,hbj⟩:=hrel
 have hsj:wi.heap.size < wj.heap.size:=hS.lt (by omega)
 have HS':=ah hS
 by_cases hnl:n < 64
 ·have hk:=fun w => HK.out w n hnl
  have cw:=(HWI.out.below hbj hsz).cell n (by omega)
  have s0:=hS.cell 0 (by omega)
  have s1:=hS.cell 1 (by omega)
  have s2:=hS.cell 2 (by omega)
  have s3:=hS.cell 3 (by omega)
  have s4:=hS.cell 4 (by omega)
  have s5:=hS.cell 5 (by omega)
  have s6:=hS.cell 6 (by omega)
  have s7:=hS.cell 7 (by omega)
  unfold fJ at cw s0 s1 s2 s3 s4 s5 s6 s7
  have n0:(0:Int) ≤ n:=by omega
  have n1:(n:Int) < 64:=by omega
  have hd3:decide ((n:Int) < 64) = true:=decide_eq_true (by omega)
  clear hS
  have EA:=zV
  have EX:=vw
  have EN:=Kg
  have EC:=Am
  generalize hR:bW W h.st n = R at s0 s1 s2 s3 s4 s5 s6 s7 HS'
  have HRR:=ah hR
  clear hR
  have HP1:∀ w,Calls prog 279 #[.int .u32 (wn (R 4)),.int .i64 6,.int .i64 11,.int .i64 25] w fun e w' => e = .returned (.int .u32 (wn (nC (R 4) 6 11 25))) ∧ Below w.heap.size w w':=fun w => rT (yN (R 4) 6 11 25 (by omega) (by omega) (by omega) (by omega) (by omega) (by omega) w)
  have HP2:∀ w,Calls prog 279 #[.int .u32 (wn (R 0)),.int .i64 2,.int .i64 13,.int .i64 22] w fun e w' => e = .returned (.int .u32 (wn (nC (R 0) 2 13 22))) ∧ Below w.heap.size w w':=fun w => rT (yN (R 0) 2 13 22 (by omega) (by omega) (by omega) (by omega) (by omega) (by omega) w)
  go_wp2
  refine wbq ?_
  have LQ0:=blq s4
  have LQ1:=blq s5
  have LQ2:=blq s6
  have LQ3:=blq s7
  have LQ4:=blq cw
  repeat (go_big_quiet_step ((go_at_call 279;with_reducible exact ay (HP1 _))))
  refine wpQuiet_nil ?_
  intro wq hbq
  clear LQ0 LQ1 LQ2 LQ3 LQ4
  have q0:=aA s0 hbq hsj
  have q1:=aA s1 hbq hsj
  have q2:=aA s2 hbq hsj
  have q3:=aA s3 hbq hsj
  have q4:=aA s4 hbq hsj
  have q5:=aA s5 hbq hsj
  have q6:=aA s6 hbq hsj
  have hsq:wi.heap.size < wq.heap.size:=by have:=hbq.size;omega
  obtain ⟨wa,rfl⟩:∃ wa:World,wa = wq:=⟨_,rfl⟩
  have hb7:=hbq
  clear hbq
  go_wp2
  refine wbq ?_
  have LQ0:=blq q0
  have LQ1:=blq q1
  have LQ2:=blq q2
  repeat (go_big_quiet_step ((go_at_call 279;with_reducible exact ay (HP2 _))))
  refine wpQuiet_nil ?_
  intro wq hbq
  clear LQ0 LQ1 LQ2
  obtain ⟨wb,rfl⟩:∃ wb:World,wb = wq:=⟨_,rfl⟩
  have p0:=aA q0 hbq hsq
  have p1:=aA q1 hbq hsq
  have p2:=aA q2 hbq hsq
  have p3:=aA q3 hbq hsq
  have p4:=aA q4 hbq hsq
  have p5:=aA q5 hbq hsq
  have p6:=aA q6 hbq hsq
  clear q0 q1 q2 q3 q4 q5 q6 s0 s1 s2 s3 s4 s5 s6 s7 HP1 HP2 cw hk
  have hbb:Below wi.heap.size wi wb:=hbj.trans ((hb7.trans (hbq.mono hb7.size)).mono hbj.size)
  have HSB:=ah (HS'.out.below (hb7.trans (hbq.mono hb7.size)) hsj)
  have hth:=HSB.out.there
  rw [zV,zV]
  have eT:R 7 + nC (R 4) 6 11 25 + (R 4 &&& R 5 ^^^ ~~~R 4 &&& R 6) + rK n + W n = tW R (rK n) (W n):=rfl
  have eU:nC (R 0) 2 13 22 + (R 0 &&& R 1 ^^^ R 0 &&& R 2 ^^^ R 1 &&& R 2) = uW R:=rfl
  rw [eT,eU]
  clear eT eU
  generalize hT:tW R (rK n) (W n) = T
  generalize hU:uW R = U
  have HTT:=ah hT
  have HUU:=ah hU
  clear hT hU
  have h8:(prog.info? 226).map (·.size) = some 8:=by kernel_rfl
  go_wp2_with (refine aj rfl 226 _ _ rfl wi.heap.size 0 [.int .u32 (wn (T + U)),.int .u32 (wn (R 0)),.int .u32 (wn (R 1)),.int .u32 (wn (R 2)),.int .u32 (wn (R 3 + T)),.int .u32 (wn (R 4)),.int .u32 (wn (R 5)),.int .u32 (wn (R 6))] ?x1 ?x2 8 ?x3 ?x4 ?x5 ?h1 ?_)
  case x1 => rfl
  case x2 => go_simp
  case x3 => rfl
  case x4 => exact hth
  case x5 => exact h8
  case h1 => simp [Value.oneCell']
  go_wp2
  go_roundw
  case rel =>
   refine ⟨n + 1,by omega,by go_num,?_,?_⟩
   ·have h1:=Arr.Gn HSB.out [.int .u32 (wn (T + U)),.int .u32 (wn (R 0)),.int .u32 (wn (R 1)),.int .u32 (wn (R 2)),.int .u32 (wn (R 3 + T)),.int .u32 (wn (R 4)),.int .u32 (wn (R 5)),.int .u32 (wn (R 6))] rfl
    refine Arr.congr h1 fun k hk => ?_
    show _ = Value.int .u32 (wn (stepW (bW W h.st n) (rK n) (W n) k))
    rw [HRR.out]
    unfold stepW
    rw [HTT.out,HUU.out]
    obtain h | h | h | h | h | h | h | h:k = 0 ∨ k = 1 ∨ k = 2 ∨ k = 3 ∨ k = 4 ∨ k = 5 ∨ k = 6 ∨ k = 7:=by omega
    all_goals subst h;rfl
   exact below_setCells _ (Nat.le_refl _) _ _ _ hbb
  case measure => simp [intOf];omega
 obtain rfl:n = 64:=by omega
 have hSS:=HS'.out
 rw [show bW W h.st 64 = fun k => bW W h.st 64 k from rfl] at hSS
 generalize hR:bW W h.st 64 = R at hSS
 have HRR:=ah hR
 have HRS:=ah hSS
 have hbw:Below w.heap.size w wj:=hbi.trans (hbj.mono hbi.size)
 have HG:=ah (aU hbw (some b))
 have HAJ:=ah (HA.out.below hbw hbl)
 clear hS hR hSS HS'
 have hbj':b < wj.heap.size:=by have:=hbw.size;omega
 go_wp2
 go_loopw [144] (fun i wr => ∃ n:Nat,n ≤ 8 ∧ i = .int .i64 n ∧ Arr wr b 75 (HS.c { h with st:=nI h.st R n }) ∧ Arr wr wi.heap.size 8 (fJ R) ∧ w.grownBy wr (some b)) (fun i _ => (8 - intOf i).toNat)
 case atStart => exact ⟨0,by omega,rfl,by rw [A8];exact HAJ.out,HRS.out,HG.out⟩
 obtain ⟨wk,rfl⟩:∃ wk:World,wk = wr:=⟨_,rfl⟩
 obtain ⟨n,hn,rfl,hAk,hRk,hgk⟩:=hrel
 have hbk:b < wk.heap.size:=hAk.lt (by omega)
 have hik:wi.heap.size < wk.heap.size:=hRk.lt (by omega)
 have hbi':b < wi.heap.size:=by have:=hbi.size;omega
 by_cases hnl:n < 8
 ·have c1:=hAk.cell (1 + n) (by omega)
  have f1:=hAk.free (1 + n) (by omega)
  rw [HS.c_st _ _ (by omega)] at c1
  have e1:nI h.st R n n = h.st n:=by unfold nI;rw [if_neg (by omega)]
  dsimp only at c1
  rw [e1] at c1
  have c2:=hRk.cell n (by omega)
  unfold fJ at c2
  have EA:=zV
  have n0:(0:Int) ≤ n:=by omega
  have n1:(n:Int) < 8:=by omega
  have hd3:decide ((n:Int) < 8) = true:=decide_eq_true (by omega)
  have HAK:=ah hAk
  have HRK:=ah hRk
  have HGK:=ah hgk
  clear hAk hRk hgk e1
  go_wp2
  refine aZ 13 (by kernel_rfl) (by kernel_rfl) ?_
  simp only [List.take_succ_cons,List.take_zero,List.drop_succ_cons,List.drop_zero]
  have LQ0:=blq c1
  have LQ1:=blq c2
  repeat (go_big_quiet_step (fail))
  refine wpQuiet_nil ?_
  intro wq hbq
  clear LQ0 LQ1
  have c1q:=aA c1 hbq hbk
  have f1q:wq.frozen? ⟨b,1 + n,none⟩ = false:=by rw [hbq.frozen (p:=⟨b,1 + n,none⟩) hbk];exact f1
  clear c1 f1 c2
  go_wp2
  go_roundw
  case rel =>
   have h1:=(HAK.out.below hbq hbk).set (1 + n) (by omega) (.int .u32 (wn (h.st n + R n)))
   rw [HS.KM _ _ (by omega)] at h1
   dsimp only at h1
   rw [A9] at h1
   refine ⟨n + 1,by omega,by go_num,h1,?_,bg (zM HGK.out hbq) _⟩
   exact (HRK.out.below hbq hik).far (by show b ≠ _;omega) _
  case measure => simp [intOf];omega
 obtain rfl:n = 8:=by omega
 have c1:=hAk.cell 73 (by omega)
 have f1:=hAk.free 73 (by omega)
 have HAK:=ah hAk
 have HGK:=ah hgk
 clear hAk hRk hgk
 go_wp2
 go_end0
 refine ⟨rfl,?_,bg HGK.out _⟩
 have h1:=HAK.out.set 73 (by omega) (.int .i64 ((0:Nat):Int))
 rw [HS.yA] at h1
 refine h1.congr fun k hk => ?_
 unfold HS.c
 dsimp only
 by_cases e0:k = 0
 ·rw [if_pos e0,if_pos e0]
 rw [if_neg e0,if_neg e0]
 by_cases e1:k < 9
 ·rw [if_pos e1,if_pos e1]
  unfold nI d9
  rw [if_pos (by omega),HWW.out,HRR.out]
 rw [if_neg e1,if_neg e1]
def Io:List W32:=[0x6a09e667#32,0xbb67ae85#32,0x3c6ef372#32,0xa54ff53a#32,0x510e527f#32,0x9b05688c#32,0x1f83d9ab#32,0x5be0cd19#32]
def gX (k:Nat):W32:=Io.getD k 0
def jL:List Value:=[.int .u32 (wn (gX 0)),.int .u32 (wn (gX 1)),.int .u32 (wn (gX 2)),.int .u32 (wn (gX 3)),.int .u32 (wn (gX 4)),.int .u32 (wn (gX 5)),.int .u32 (wn (gX 6)),.int .u32 (wn (gX 7))]
structure Laid (w:World):Prop where
 rounds:w.rangeAt 3 0 kV
 first:w.rangeAt 2 0 jL
 lt:5 ≤ w.heap.size
theorem Laid.below {w w':World} (h:Laid w) (hb:Below w.heap.size w w'):Laid w':=by
 have:=h.lt;have:=hb.size
 exact ⟨aF h.rounds hb (by omega),aF h.first hb (by omega),by omega⟩
theorem lU {w w':World} {b b2 o:Nat} {cs:List Value} (h:w.rangeAt b o cs) (hg:w.grownBy w' (some b2)) (hne:b ≠ b2):w'.rangeAt b o cs:=fun j v hv =>
 hg.cell (h j v hv) (by simpa using hne)
theorem Laid.grown {w w':World} {b:Nat} (h:Laid w) (hg:w.grownBy w' (some b)) (hb:5 ≤ b):Laid w' :=
 ⟨lU h.rounds hg (by omega),lU h.first hg (by omega),Nat.le_trans h.lt hg.size⟩
theorem dU {a w w':World} {b:Nat} (h:a.grownBy w (some b)) (k:w.grownBy w' (some b)):a.grownBy w' (some b) :=
 ⟨k.os.trans h.os,k.tape.trans h.tape,k.output.trans h.output,Nat.le_trans h.size k.size,fun i hi hne => (k.block i (Nat.lt_of_lt_of_le hi h.size) hne).trans (h.block i hi hne)⟩
def HS.begin (h:HS):HS:=if h.begun then h else { h with begun:=true,st:=gX }
def HS.put (h:HS) (x:UInt8):HS :=
 if h.many + 1 = 64 then { h with st:=d9 h.st (upd h.rest h.many x),rest:=upd h.rest h.many x,many:=0 } else { h with rest:=upd h.rest h.many x,many:=h.many + 1 }
theorem HS.sw (h:HS) (x:UInt8) (hm:h.many < 64):(h.put x).many < 64:=by
 unfold HS.put;split
 ·show 0 < 64;omega
 show h.many + 1 < 64;omega
theorem qM (b:Nat) (h:HS) (x:UInt8) (w:World) (hA:Arr w b 75 h.c) (hm:h.many < 64) (hL:Laid w) (hb8:5 ≤ b) :
  Calls prog 217 #[.pointer (some ⟨b,0,none⟩),.int .u8 (x.toNat:Int)] w fun e w' => e = .returned (.tuple #[]) ∧ Arr w' b 75 (h.put x).c ∧ w.grownBy w' (some b):=by
 have hbl:b < w.heap.size:=hA.lt (by omega)
 have c1:=hA.cell 73 (by omega)
 rw [HS.BU] at c1
 have c2:=hA.cell (9 + h.many) (by omega)
 have f2:=hA.free (9 + h.many) (by omega)
 have f1:=hA.free 73 (by omega)
 have m0:(0:Int) ≤ h.many:=by omega
 have m1:(h.many:Int) < 64:=by omega
 have HA:=ah hA
 clear hA
 generalize hmm:h.many = m at hm c1 c2 f2 m0 m1
 have HM:=ah hmm
 have HL:=ah hL
 clear hmm hL
 go_enter func217,ntmps217
 go_wp2
 refine aZ 9 (by kernel_rfl) (by kernel_rfl) ?_
 simp only [List.take_succ_cons,List.take_zero,List.drop_succ_cons,List.drop_zero]
 have LQ0:=blq c1
 repeat (go_big_quiet_step (fail))
 refine wpQuiet_nil ?_
 intro wq hbq
 clear LQ0
 have g1:=aA c1 hbq hbl
 have g2:=aA c2 hbq hbl
 have k1:wq.frozen? ⟨b,73,none⟩ = false:=by rw [hbq.frozen (p:=⟨b,73,none⟩) hbl];exact f1
 have k2:wq.frozen? ⟨b,9 + m,none⟩ = false:=by rw [hbq.frozen (p:=⟨b,9 + m,none⟩) hbl];exact f2
 clear c1 c2 f1 f2
 have hA1:=(HA.out.below hbq hbl).set (9 + m) (by omega) (.int .u8 (x.toNat:Int))
 rw [HS.F4 _ _ (by omega)] at hA1
 have hA2:=hA1.set 73 (by omega) (.int .i64 ((m + 1:Nat):Int))
 rw [HS.yA] at hA2
 dsimp only at hA2
 have HA2:=ah hA2
 have HG:=ah (bg (bg (aU hbq (some b)) (o:=9 + m) (.int .u8 (x.toNat:Int))) (o:=73) (.int .i64 ((m + 1:Nat):Int)))
 clear hA1 hA2
 by_cases h64:m + 1 = 64
 ·have h64':((m:Int) + 1 == 64) = true:=by rw [beq_iff_eq];omega
  have HH:=ah h64
  clear h64
  go_wp2_with fail
  have hL2:Laid _:=HL.out.grown HG.out hb8
  refine (Ga b _ _ HA2.out hL2.rounds (by have:=hL2.lt;omega)).mono ?_
  rintro e w' ⟨rfl,hA3,hg3⟩
  have HA3:=ah hA3
  have HG3:=ah (dU HG.out hg3)
  clear hA3 hg3 hL2
  go_wp2
  go_end0
  refine ⟨rfl,?_,HG3.out⟩
  unfold HS.put
  rw [HM.out,if_pos HH.out]
  exact HA3.out
 have h64':((m:Int) + 1 == 64) = false:=by rw [beq_eq_false_iff_ne];omega
 have HH:=ah h64
 clear h64
 go_wp2
 go_end0
 refine ⟨rfl,?_,HG.out⟩
 unfold HS.put
 rw [HM.out,if_neg HH.out]
 exact HA2.out
theorem Arr.setCells {w:World} {b n:Nat} {c:Nat → Value} (h:Arr w b n c) (o:Nat) (vs:List Value) (hn:o + vs.length ≤ n) :
  Arr (w.setCells b o vs) b n (fun k => if o ≤ k ∧ k < o + vs.length then vs.getD (k - o) undef else c k):=by
 have ht:w.there b o vs.length:=fun j hj => ⟨by rw [h.cell (o + j) (by omega)];rfl,h.free _ (by omega)⟩
 refine ⟨fun k hk => ?_,fun k hk => ?_⟩
 ·split
  ·rename_i hc
   have:=World.rangeAt_setCells_same w b o vs ht (k - o) (vs.getD (k - o) undef) (by simp [show k - o < vs.length from by omega])
   rw [show o + (k - o) = k from by omega] at this
   exact this
  rw [World.cell?_setCells_out b vs o w ⟨b,k,none⟩ (fun _ _ => by show k < o ∨ o + vs.length ≤ k;omega)]
  exact h.cell k hk
 rw [World.frozen?_setCells];exact h.free k hk
theorem aY {w:World} {b:Nat} (vs:List Value):∀ (o:Nat) (w':World),w.grownBy w' (some b) → w.grownBy (w'.setCells b o vs) (some b):=by
 induction vs with
 | nil => intro o w' h;exact h
 | cons v vs ih => intro o w' h;rw [World.setCells];exact ih _ _ (bg h v)
theorem HS.Kc (h:HS) (hb:h.begun = false):∀ k,k < 75 → (if 1 ≤ k ∧ k < 1 + jL.length then jL.getD (k - 1) undef else upd h.c 0 (.bool true) k) = h.begin.c k:=by
 intro k _
 have hl:jL.length = 8:=rfl
 have he:h.begin = { h with begun:=true,st:=gX }:=by unfold HS.begin;rw [hb];rfl
 rw [hl,he]
 unfold upd HS.c
 dsimp only
 by_cases h0:k = 0
 ·subst h0;rfl
 by_cases h9:k < 9
 ·rw [if_pos (by omega),if_neg h0,if_pos h9]
  obtain h | h | h | h | h | h | h | h:k = 1 ∨ k = 2 ∨ k = 3 ∨ k = 4 ∨ k = 5 ∨ k = 6 ∨ k = 7 ∨ k = 8:=by omega
  all_goals subst h;rfl
 rw [if_neg (by omega),if_neg h0,if_neg h0,if_neg h0,if_neg h9,if_neg h9]
theorem wM (b:Nat) (h:HS) (w:World) (hA:Arr w b 75 h.c) (hL:Laid w) :
  Calls prog 216 #[.pointer (some ⟨b,0,none⟩)] w fun e w' => e = .returned (.tuple #[]) ∧ Arr w' b 75 h.begin.c ∧ w.grownBy w' (some b):=by
 have c0:=hA.cell 0 (by omega)
 rw [HS.J7] at c0
 have f0:=hA.free 0 (by omega)
 cases hb:h.begun with
 | true =>
  rw [hb] at c0
  have HA:=ah hA
  have HB:=ah hb
  clear hA hb
  go_enter func216,ntmps216
  go_wp2
  go_end0
  refine ⟨rfl,?_,aU (Below.refl _ _) _⟩
  unfold HS.begin
  rw [HB.out,if_pos rfl]
  exact HA.out
 | false =>
  rw [hb] at c0
  have HB:=ah hb
  have hA1:=hA.set 0 (by omega) (.bool true)
  have hth:(w.setCell ⟨b,0,none⟩ (.bool true)).there b (0 + 1) 8:=fun j hj => ⟨by rw [hA1.cell _ (by omega)];rfl,hA1.free _ (by omega)⟩
  have hA2:=hA1.setCells 1 jL (by show 1 + 8 ≤ 75;omega)
  have HA2:=ah hA2
  have HG:=ah (aY jL 1 _ (bg (aU (Below.refl _ w) (some b)) (o:=0) (.bool true)))
  have hF:=hL.first
  have h8:(prog.info? 226).map (·.size) = some 8:=by kernel_rfl
  have HT:=ah hth
  clear hA hb hA1 hA2 hL hth
  go_enter func216,ntmps216
  go_wp2_with (first | (refine wpList_load_mid rfl 226 _ rfl 2 0 rfl jL _ hF underlying226 rfl h8 ?_) | (refine aj rfl 226 _ _ rfl b 1 jL ?x1 ?x2 8 ?x3 ?x4 ?x5 ?h1 ?_))
  case x1 => rfl
  case x2 => rfl
  case x3 => rfl
  case x4 => exact HT.out
  case x5 => exact h8
  case h1 => unfold jL;simp [Value.oneCell']
  go_wp2
  go_end0
  exact ⟨rfl,HA2.out.congr (HS.Kc h HB.out),HG.out⟩
def HS.feed (h:HS) (l:List UInt8):HS:=l.foldl HS.put h
theorem HS.EY (h:HS) (s:ByteArray) (k:Nat) (hk:k < s.size):h.feed (s.data.toList.take (k + 1)) = (h.feed (s.data.toList.take k)).put s[k]:=by
 unfold HS.feed
 rw [List.take_succ_eq_append_getElem (by simpa using hk),List.foldl_append];rfl
theorem HS.lM (h:HS) (l:List UInt8) (hm:h.many < 64):(h.feed l).many < 64:=by
 unfold HS.feed
 induction l generalizing h with
 | nil => exact hm
 | cons x l ih => exact ih _ (HS.sw _ _ hm)
theorem HS.vQ (h:HS) (x:UInt8):(h.put x).taken = h.taken:=by unfold HS.put;split <;> rfl
theorem HS.mK (h:HS) (l:List UInt8):(h.feed l).taken = h.taken:=by
 unfold HS.feed
 induction l generalizing h with
 | nil => rfl
 | cons x l ih => exact (ih _).trans (HS.vQ _ _)
theorem HS.jT (h:HS):h.begin.many = h.many:=by unfold HS.begin;split <;> rfl
theorem HS.qo (h:HS):h.begin.taken = h.taken:=by unfold HS.begin;split <;> rfl
def HS.w1 (h:HS) (s:ByteArray) (k:Nat):HS:=if k = 0 then h.begin else { h.begin.feed s.data.toList with taken:=(s.size:Int) }
theorem Dn (b p q cap:Nat) (h:HS) (s:ByteArray) (w:World) (hA:Arr w b 75 h.c) (hL:Laid w) (hb8:5 ≤ b) (hs:w.cell? ⟨p,q,none⟩ = some (.string s)) (hp:p ≠ b) (ht:h.taken = 0) (hm:h.many < 64) (hz:s.size ≤ 1000000000) :
  Calls prog 166 #[.pointer (some ⟨b,0,none⟩),.slice (some ⟨p,q,none⟩) 1 cap] w fun e w' => e = .returned (.tuple #[]) ∧ Arr w' b 75 (h.w1 s 1).c ∧ w.grownBy w' (some b):=by
 have HB:=ah (fun w' (h1:Arr w' b 75 h.c) (h2:Laid w') => wM b h w' h1 h2)
 have HT:=ah ht
 have HM:=ah hm
 have HA:=ah hA
 have HL:=ah hL
 clear hA hL ht hm
 go_enter func166,ntmps166
 go_wp2_with fail
 refine (HB.out w HA.out HL.out).mono ?_
 rintro e w1 ⟨rfl,hA1,hg1⟩
 have hs1:=hg1.cell hs (by simpa using hp)
 have HA1:=ah hA1
 have HG1:=ah hg1
 clear hA1 hg1
 go_wp2
 go_loopw [13] (fun i wr => ∃ k:Nat,k ≤ 1 ∧ i = .int .i64 k ∧ Arr wr b 75 (h.w1 s k).c ∧ w.grownBy wr (some b)) (fun i _ => (1 - intOf i).toNat)
 case atStart => exact ⟨0,by omega,rfl,HA1.out,HG1.out⟩
 obtain ⟨wo,rfl⟩:∃ wo:World,wo = wr:=⟨_,rfl⟩
 obtain ⟨k,hk,rfl,hAo,hgo⟩:=hrel
 by_cases hk0:k < 1
 ·have HK0:=ah (show k = 0 by omega)
  have hd1:decide (k < 1) = true:=decide_eq_true hk0
  have hd2:decide ((k:Int) < 1) = true:=decide_eq_true (by omega)
  have k0:(0:Int) ≤ k:=by omega
  have k1:(k:Int) < 1:=by omega
  have hpk:(⟨p,q + k,none⟩:Addr) = ⟨p,q,none⟩:=by rw [HK0.out];rfl
  have hso:=hgo.cell hs (by simpa using hp)
  rw [← hpk] at hso
  have HAo:=ah hAo
  have HGo:=ah hgo
  clear hAo hgo hs1 hk hk0 hpk
  go_wp2
  go_loopw [19] (fun i wr => ∃ j:Nat,j ≤ s.size ∧ i = .int .i64 j ∧ Arr wr b 75 (h.begin.feed (s.data.toList.take j)).c ∧ w.grownBy wr (some b)) (fun i _ => (s.size - intOf i).toNat)
  case atStart => exact ⟨0,by omega,rfl,by have:=HAo.out;rw [HK0.out] at this;exact this,HGo.out⟩
  obtain ⟨wi,rfl⟩:∃ wi:World,wi = wr:=⟨_,rfl⟩
  obtain ⟨j,hj,rfl,hAi,hgi⟩:=hrel
  by_cases hjl:j < s.size
  ·have HP:=ah (qM b _ s[j] wi hAi (HS.lM _ _ (by rw [HS.jT];exact HM.out)) (HL.out.grown hgi hb8) hb8)
   have HGi:=ah hgi
   have HS1:=ah (HS.EY h.begin s j hjl)
   clear hAi hgi
   go_wp2_with fail
   refine HP.out.mono ?_
   rintro e w2 ⟨rfl,hA2,hg2⟩
   have HA2:=ah hA2
   have HG2:=ah (dU HGi.out hg2)
   clear hA2 hg2
   go_wp2
   go_roundw
   case rel => exact ⟨j + 1,by omega,by go_num,by rw [HS1.out];exact HA2.out,HG2.out⟩
   case measure => simp [intOf];omega
  obtain rfl:j = s.size:=by omega
  rw [show s.data.toList.take s.size = s.data.toList from List.take_of_length_le (by simp)] at hAi
  have c1:=hAi.cell 74 (by omega)
  have f1:=hAi.free 74 (by omega)
  rw [HS.CZ,HS.mK,HS.qo,HT.out] at c1
  have HAi:=ah hAi
  have HGi:=ah hgi
  clear hAi hgi
  go_wp2
  go_roundw
  case rel =>
   refine ⟨k + 1,by omega,by go_num,?_,bg HGi.out _⟩
   rw [HK0.out]
   exact (HAi.out.set 74 (by omega) (.int .u64 (s.size:Int))).congr (HS.Dt _ _)
  case measure => simp [intOf];omega
 obtain rfl:k = 1:=by omega
 have HAo:=ah hAo
 have HGo:=ah hgo
 clear hAo hgo
 go_wp2
 go_end0
 exact ⟨rfl,HAo.out,HGo.out⟩
def be8 (T k:Nat):UInt8:=UInt8.ofNat (T / 2 ^ (56 - 8 * k))
def be64 (T:Nat):List UInt8:=(List.range 8).map (be8 T)
def stB (st:Nat → W32) (j:Nat):UInt8:=UInt8.ofNat ((st (j / 4)).toNat / 2 ^ (24 - 8 * (j % 4)))
def padN (m:Nat):Nat:=(120 - m) % 64
def HS.ended (h:HS):HS:=(((h.begin.put 128).feed (List.replicate (padN (h.begin.put 128).many) 0))).feed (be64 (8 * h.taken.toNat))
def idV (x:List UInt8):Value:=.agg (x.map fun b => Value.int .u8 (b.toNat:Int)).toArray
def HS.sum (h:HS):List UInt8:=(List.range 32).map (stB h.ended.st)
theorem nW (h:HS) (l m:List UInt8):h.feed (l ++ m) = (h.feed l).feed m:=by unfold HS.feed;rw [List.foldl_append]
theorem kQ (h:HS) (l:List UInt8) (x:UInt8):h.feed (l ++ [x]) = (h.feed l).put x:=nW h l [x]
theorem jI (h:HS) (x:UInt8) (hm:h.many < 64):(h.put x).many = (h.many + 1) % 64:=by
 unfold HS.put;split
 ·rename_i h1;rw [h1]
 rename_i h1;show h.many + 1 = _;rw [Nat.mod_eq_of_lt (by omega)]
theorem lZ (h:HS) (hm:h.many < 64):∀ l:List UInt8,(h.feed l).many = (h.many + l.length) % 64:=by
 intro l
 induction l generalizing h with
 | nil => show h.many = _;rw [List.length_nil,Nat.add_zero,Nat.mod_eq_of_lt hm]
 | cons x l ih =>
  show ((h.put x).feed l).many = _
  rw [ih _ (HS.sw h x hm),jI h x hm,List.length_cons];omega
theorem FJ (T k:Nat) (hk:k < 8):(be64 T).take (k + 1) = (be64 T).take k ++ [be8 T k]:=by
 have hl:(be64 T).length = 8:=by simp [be64]
 rw [List.take_succ_eq_append_getElem (by omega)]
 congr 1
 simp [be64]
theorem wrap_u8' (n:Int):IntKind.u8.wrap n = n % 256:=by simp [IntKind.wrap,IntKind.signed,IntKind.bits]
theorem Kh (n:Nat):((UInt8.ofNat n).toNat:Int) = (n:Int) % 256:=by
 rw [UInt8.toNat_ofNat'];omega
theorem kF (t e:TypeId) (len:Nat) (hu:prog.underlying t = some (.array len e)) (hs:∀ w,(sizeOf e).run prog w = .ok 1 w) (ha:∀ w,(isAgg e).run prog w = .ok false w)
  (vs:List Value) (w:World) (n:Nat) (hn:n < len) (v:Value) (hv:vs[n]? = some v):(Instr.index t (.agg vs.toArray) (.int .i64 (n:Int))).run prog w = .ok v w:=by
 have h1:(0:Int) ≤ n ∧ (n:Int) < len:=by omega
 have h2:vs.toArray[n]? = some v:=by simpa using hv
 unfold Instr.index
 simp only [Sem.run_bind,asIntOf,Sem.run_pure,Result.andThen_ok,run_underlying hu,if_pos h1,hs w,part,ha w,Int.toNat_natCast,Nat.mul_one,h2]
 rfl
theorem vi64 {a b:Int} (h:a = b):Value.int .i64 a = .int .i64 b:=by rw [h]
def Ct (c:Nat) (w:World):Nat:=match w.cell? ⟨c,73,none⟩ with
 | some (.int _ m) => padN m.toNat
 | _ => 0
theorem Arr.ofList (w:World) (vs:List Value) (e:TypeId):Arr (w.alloc (.cells vs.toArray e)) w.heap.size vs.length (fun k => vs.getD k undef) :=
 ⟨fun k hk => by rw [World.cell?_alloc_new];simp [hk],fun k hk => by rw [World.frozen?_alloc_new]⟩
def bP:HS:={ begun:=false,st:=fun _ => 0,rest:=fun _ => 0,many:=0,taken:=0 }
theorem Arr.bP (w:World) (e:TypeId):Arr (w.alloc (.cells ((List.range 75).map bP.c).toArray e)) w.heap.size 75 Go.Proofs.YtlhcoanbhnphgaaGreatDoor.bP.c:=by
 have h:=Arr.ofList w ((List.range 75).map Go.Proofs.YtlhcoanbhnphgaaGreatDoor.bP.c) e
 rw [List.length_map,List.length_range] at h
 exact h.congr fun k hk => by simp [hk]
def outC (st:Nat → W32) (n k:Nat):Value:=if k < 4 * n then .int .u8 ((stB st k).toNat:Int) else .int .u8 0
theorem Eb (st:Nat → W32):outC st 0 = fun _ => .int .u8 0:=by funext k;unfold outC;rw [if_neg (by omega)]
theorem Cn (st:Nat → W32) (n i:Nat) (hi:i < 4):((stB st (4 * n + i)).toNat:Int) = wn (st n) / ((2 ^ (24 - 8 * i):Nat):Int) % 256:=by
 unfold stB wn
 rw [Kh,show (4 * n + i) / 4 = n from by omega,show (4 * n + i) % 4 = i from by omega]
 rfl
theorem Ec (st:Nat → W32) (n:Nat) (k:Nat) :
  upd (upd (upd (upd (outC st n) (4 * n) (.int .u8 (wn (st n) / 16777216))) (4 * n + 1) (.int .u8 (wn (st n) / 65536 % 256))) (4 * n + 2) (.int .u8 (wn (st n) / 256 % 256))) (4 * n + 3) (.int .u8 (wn (st n) % 256)) k = outC st (n + 1) k:=by
 have h0:((stB st (4 * n)).toNat:Int) = wn (st n) / 16777216:=by
  have h:((stB st (4 * n)).toNat:Int) = wn (st n) / 16777216 % 256:=Cn st n 0 (by omega)
  have h2:=vg (st n);have h3:=wn_0 (st n)
  omega
 have h1:((stB st (4 * n + 1)).toNat:Int) = wn (st n) / 65536 % 256:=Cn st n 1 (by omega)
 have h2:((stB st (4 * n + 2)).toNat:Int) = wn (st n) / 256 % 256:=Cn st n 2 (by omega)
 have h3:((stB st (4 * n + 3)).toNat:Int) = wn (st n) % 256:=by
  have h:((stB st (4 * n + 3)).toNat:Int) = wn (st n) / 1 % 256:=Cn st n 3 (by omega)
  rw [Int.ediv_one] at h;exact h
 unfold upd outC
 by_cases e3:k = 4 * n + 3
 ·subst e3;rw [if_pos rfl,if_pos (by omega),h3]
 rw [if_neg e3]
 by_cases e2:k = 4 * n + 2
 ·subst e2;rw [if_pos rfl,if_pos (by omega),h2]
 rw [if_neg e2]
 by_cases e1:k = 4 * n + 1
 ·subst e1;rw [if_pos rfl,if_pos (by omega),h1]
 rw [if_neg e1]
 by_cases e0:k = 4 * n
 ·subst e0;rw [if_pos rfl,if_pos (by omega),h0]
 rw [if_neg e0]
 by_cases e:k < 4 * n
 ·rw [if_pos e,if_pos (by omega)]
 rw [if_neg e,if_neg (by omega)]
theorem idx8 (st:Nat → W32) (n:Nat) (hn:n < 8):[Value.int .u32 (wn (st 0)),.int .u32 (wn (st 1)),.int .u32 (wn (st 2)),.int .u32 (wn (st 3)),.int .u32 (wn (st 4)),.int .u32 (wn (st 5)),.int .u32 (wn (st 6)),.int .u32 (wn (st 7))][n]? = some (.int .u32 (wn (st n))):=by
 obtain h | h | h | h | h | h | h | h:n = 0 ∨ n = 1 ∨ n = 2 ∨ n = 3 ∨ n = 4 ∨ n = 5 ∨ n = 6 ∨ n = 7:=by omega
 all_goals subst h;rfl
theorem Ig (b:Nat) (h:HS) (w:World) (hA:Arr w b 75 h.c) (hL:Laid w) (hm:h.many < 64) (ht:0 ≤ h.taken ∧ h.taken ≤ 1000000000) :
  Calls prog 167 #[.pointer (some ⟨b,0,none⟩)] w fun e w' => e = .returned (idV h.sum) ∧ Below w.heap.size w w':=by
 have hbl:b < w.heap.size:=hA.lt (by omega)
 have HA:=ah hA
 have HL:=ah hL
 have HM:=ah hm
 have HT:=ah ht
 clear hA hL hm ht
 have hz:Tryz.zeroCells244 = ((List.range 75).map bP.c).toArray:=by kernel_rfl
 have hR:w.rangeAt b 0 ((List.range 75).map h.c):=HA.out.range
 have hlen:((List.range 75).map h.c).length = 75:=by simp
 have hone:∀ v ∈ (List.range 75).map h.c,v.oneCell' = true:=by
  intro v hv
  obtain ⟨k,_,rfl⟩:=List.mem_map.1 hv
  unfold HS.c
  repeat' split
  all_goals rfl
 have hget:∀ k,k < 75 → ((List.range 75).map h.c).getD k undef = h.c k:=fun k hk => by simp [hk]
 have hi:(prog.info? 244).map (·.size) = some 75:=by kernel_rfl
 generalize (List.range 75).map h.c = vs at hR hlen hone hget
 have hi2:(prog.info? 244).map (·.size) = some vs.length:=by rw [hlen];exact hi
 have hA1:Arr ((w.alloc (.cells (Array.replicate 32 (.int .u8 0)) 42)).alloc (.cells Tryz.zeroCells244 244)) (w.heap.size + 1) 75 bP.c:=by
  rw [hz]
  have:=Arr.bP (w.alloc (.cells (Array.replicate 32 (.int .u8 0)) 42)) 244
  rw [World.size_alloc] at this;exact this
 have hA2:=hA1.Gn vs hlen
 have hA3:=hA2.congr hget
 have hth:=hA1.there
 have HA3:=ah hA3
 have HTH:=ah hth
 have HLN:=ah hlen
 have HON:=ah hone
 clear hA1 hA2 hA3 hth hget hlen hz hone
 go_enter func167,ntmps167
 go_wp2_with (first | (refine wpList_load_mid rfl 244 _ rfl b 0 rfl vs _ (World.rangeAt_alloc (World.rangeAt_alloc hR _) _) underlying244 rfl hi2 ?_) | (refine aj rfl 244 _ _ rfl (w.heap.size + 1) 0 vs ?x1 ?x2 75 HLN.out ?x4 hi HON.out ?_) | fail)
 case x4 => exact HTH.out
 generalize hW:World.setCells _ (w.heap.size + 1) 0 vs = W
 have hbW:Below w.heap.size w W:=by
  rw [← hW];exact below_setCells _ (by omega) vs 0 _ (bal.alloc (by simp) _)
 have hA4:Arr W (w.heap.size + 1) 75 h.c:=by rw [← hW];exact HA3.out
 have hO4:Arr W w.heap.size 32 (fun _ => .int .u8 0):=by
  rw [← hW]
  have h1:=(Arr.new w 32 (.int .u8 0) 42).alloc (by omega) (.cells Tryz.zeroCells244 244)
  exact ⟨fun k hk => by rw [World.cell?_setCells_out (w.heap.size + 1) vs 0 _ ⟨w.heap.size,k,none⟩ (fun hb _ => by simp at hb)];exact h1.cell k hk,fun k hk => by rw [World.frozen?_setCells];exact h1.free k hk⟩
 have hsW:w.heap.size + 1 < W.heap.size:=hA4.lt (by omega)
 have hL4:=HL.out.below hbW
 clear HA3 HTH hi2 hi hR
 have HBW:=ah hbW
 have HO4:=ah hO4
 have h8:5 ≤ w.heap.size + 1:=by have:=HL.out.lt;omega
 clear hbW hO4
 refine (wM (w.heap.size + 1) h W hA4 hL4).mono ?_
 rintro e w1 ⟨rfl,hA5,hg5⟩
 have hL5:=hL4.grown hg5 h8
 have HP:=qM (w.heap.size + 1) h.begin 128 w1 hA5 (by rw [HS.jT];exact HM.out) hL5 h8
 rw [show (((128:UInt8).toNat:Nat):Int) = 128 from rfl] at HP
 have HPP:=ah HP
 have HG5:=ah hg5
 clear hA4 hA5 HP hg5 hL4 hL5 hW
 go_wp2_with fail
 refine HPP.out.mono ?_
 rintro e w2 ⟨rfl,hA6,hg6⟩
 have HG6:=ah (dU HG5.out hg6)
 have hm6:(h.begin.put 128).many < 64:=HS.sw _ _ (by rw [HS.jT];exact HM.out)
 have ht6:(h.begin.put 128).taken = h.taken:=by rw [HS.vQ,HS.qo]
 have HMM:=ah hm6
 have HEN:Hid (h.ended = ((h.begin.put 128).feed (List.replicate (padN (h.begin.put 128).many) 0)).feed (be64 (8 * h.taken.toNat))):=ah rfl
 generalize h.begin.put 128 = g at hA6 hm6 ht6 HMM HEN
 have HTT:=ah ht6
 have HA6:=ah hA6
 clear hA6 hg6 HPP hm6 ht6
 go_wp2
 go_loopw [16] (fun _ wr => ∃ i:Nat,i ≤ padN g.many ∧ Arr wr (w.heap.size + 1) 75 (g.feed (List.replicate i 0)).c ∧ W.grownBy wr (some (w.heap.size + 1))) (fun _ wr => Ct (w.heap.size + 1) wr)
 case atStart => exact ⟨0,Nat.zero_le _,HA6.out,HG6.out⟩
 obtain ⟨wo,rfl⟩:∃ wo:World,wo = wr:=⟨_,rfl⟩
 obtain ⟨i,hi,hAo,hgo⟩:=hrel
 have c1:=hAo.cell 73 (by omega)
 rw [HS.BU] at c1
 have hmo:=lZ g HMM.out (List.replicate i 0)
 rw [List.length_replicate] at hmo
 generalize hq:g.feed (List.replicate i 0) = q at hAo c1 hmo
 by_cases hne:q.many = 56
 ·have hd:((q.many:Int) != 56) = false:=by rw [bne_eq_false_iff_eq];omega
  have hie:i = padN g.many:=by unfold padN at hi ⊢;have:=HMM.out;omega
  have hA1:=hAo
  rw [hie] at hq
  have HEN2:Hid (h.ended = q.feed (be64 (8 * h.taken.toNat))):=by
   have:=HEN.out;rw [hq] at this;exact this
  have htq:q.taken = h.taken:=by rw [← hq,HS.mK];exact HTT.out
  have hmq:q.many < 64:=by omega
  have HTQ:=ah htq
  have HMQ:=ah hmq
  have HA1:=ah hA1
  have HGO:=ah hgo
  clear hAo hA1 hgo hmo hne hie hi htq hmq HEN hq
  obtain ⟨T,hT⟩:∃ T:Nat,h.taken = T:=⟨h.taken.toNat,by have:=HT.out;omega⟩
  have hT2:T ≤ 1000000000:=by have:=HT.out;omega
  have HTT2:=ah hT
  rw [hT,Int.toNat_natCast] at HEN2
  clear hT
  go_wp2
  go_loopw [4] (fun i wr => ∃ k:Nat,k ≤ 8 ∧ i = .int .i64 (56 - 8 * (k:Int)) ∧ Arr wr (w.heap.size + 1) 75 (q.feed ((be64 (8 * T)).take k)).c ∧ W.grownBy wr (some (w.heap.size + 1))) (fun i _ => (intOf i + 8).toNat)
  case atStart => exact ⟨0,by omega,rfl,HA1.out,HGO.out⟩
  obtain ⟨wi,rfl⟩:∃ wi:World,wi = wr:=⟨_,rfl⟩
  obtain ⟨k,hk,rfl,hAi,hgi⟩:=hrel
  by_cases hk8:k < 8
  ·obtain ⟨j,hj⟩:∃ j:Nat,(56 - 8 * (k:Int)) = (j:Int):=⟨(56 - 8 * (k:Int)).toNat,by omega⟩
   have hjk:j = 56 - 8 * k:=by omega
   rw [hj]
   have c1:=hAi.cell 74 (by omega)
   rw [HS.CZ,HS.mK,HTQ.out,HTT2.out] at c1
   have HP:=qM (w.heap.size + 1) _ (be8 (8 * T) k) wi hAi (HS.lM _ _ HMQ.out) ((HL.out.below HBW.out).grown hgi h8) h8
   have hb8:(((be8 (8 * T) k).toNat:Nat):Int) = 8 * (T:Int) / 2 ^ j % 256:=by
    unfold be8;rw [Kh,← hjk];push_cast;rfl
   rw [hb8] at HP
   have HPP:=ah HP
   have HGI:=ah hgi
   have HTK:=ah (FJ (8 * T) k hk8)
   have HJ:=ah hj
   have j0:(0:Int) ≤ j:=by omega
   have j1:(j:Int) ≤ 56:=by omega
   have t0:(0:Int) ≤ T:=by omega
   have t1:(T:Int) ≤ 1000000000:=by omega
   clear HP hgi hAi hb8 hj hjk
   go_wp2_with fail
   refine HPP.out.mono ?_
   rintro e w3 ⟨rfl,hA7,hg7⟩
   have HA7:=ah hA7
   have HG7:=ah (dU HGI.out hg7)
   clear hA7 hg7 c1
   go_wp2
   go_roundw
   case rel =>
    have h1:=HJ.out
    exact ⟨k + 1,by omega,vi64 (by push_cast;omega),by rw [HTK.out,kQ];exact HA7.out,HG7.out⟩
   case measure => have h1:=HJ.out;simp [intOf];omega
  obtain rfl:k = 8:=by omega
  have hf:(be64 (8 * T)).take 8 = be64 (8 * T):=List.take_of_length_le (by simp [be64])
  rw [hf,← HEN2.out] at hAi
  have cs:=fun k (hk:k < 8) => (hAi.cell (1 + k) (by omega)).trans (by rw [HS.c_st _ _ hk])
  have c0:=cs 0 (by omega)
  have c1:=cs 1 (by omega)
  have c2:=cs 2 (by omega)
  have c3:=cs 3 (by omega)
  have c4:=cs 4 (by omega)
  have c5:=cs 5 (by omega)
  have c6:=cs 6 (by omega)
  have c7:=cs 7 (by omega)
  simp only [Nat.reduceAdd] at c0 c1 c2 c3 c4 c5 c6 c7
  clear cs
  have hsi:W.heap.size ≤ wi.heap.size:=hgi.size
  have hO:Arr wi w.heap.size 32 (fun _ => .int .u8 0):=⟨fun k hk => hgi.cell (HO4.out.cell k hk) (by simp),fun k hk => by
   rw [World.frozen?_of_block (w:=W) (a:=⟨w.heap.size,k,none⟩) (hgi.block w.heap.size (by omega) (by simp))];exact HO4.out.free k hk⟩
  have hbi:Below w.heap.size w wi:=(HBW.out).grown hgi (by omega) (fun k hk => by cases hk;omega)
  have hlt:w.heap.size + 1 < wi.heap.size:=by omega
  have HO:=ah hO
  have HBI:=ah hbi
  clear hO hbi hgi hAi hf HEN2
  generalize hst:h.ended.st = st at c0 c1 c2 c3 c4 c5 c6 c7
  have HST:=ah hst
  have hO2:Arr (wi.alloc (.cells (Array.replicate 32 (.int .u8 0)) 42)) wi.heap.size 32 (outC st 0):=by rw [Eb];exact Arr.new wi 32 _ _
  have HO2:=ah hO2
  clear hst hO2
  go_wp2
  go_loopw [32] (fun i wr => ∃ n:Nat,n ≤ 8 ∧ i = .int .i64 n ∧ Arr wr wi.heap.size 32 (outC st n) ∧ Below wi.heap.size wi wr) (fun i _ => (8 - intOf i).toNat)
  case atStart => exact ⟨0,by omega,rfl,HO2.out,bal⟩
  obtain ⟨wj,rfl⟩:∃ wj:World,wj = wr:=⟨_,rfl⟩
  obtain ⟨n,hn,rfl,hAj,hbj⟩:=hrel
  clear c0 c1 c2 c3 c4 c5 c6 c7
  by_cases hn8:n < 8
  ·have hix:=fun w => kF 226 225 8 underlying226 (fun _ => by kernel_rfl) (fun _ => by kernel_rfl) _ w n hn8 _ (idx8 st n hn8)
   have c0:=hAj.cell (4 * n) (by omega)
   have c1:=hAj.cell (4 * n + 1) (by omega)
   have c2:=hAj.cell (4 * n + 2) (by omega)
   have c3:=hAj.cell (4 * n + 3) (by omega)
   have f0:=hAj.free (4 * n) (by omega)
   have f1:=hAj.free (4 * n + 1) (by omega)
   have f2:=hAj.free (4 * n + 2) (by omega)
   have f3:=hAj.free (4 * n + 3) (by omega)
   have n0:(0:Int) ≤ n:=by omega
   have n1:(n:Int) < 8:=by omega
   have hd3:decide ((n:Int) < 8) = true:=decide_eq_true (by omega)
   have x0:=wn_0 (st n)
   have x1:=vg (st n)
   have HAJ:=ah hAj
   have HBJ:=ah hbj
   clear hAj hbj
   go_wp2
   go_roundw
   case rel =>
    refine ⟨n + 1,by omega,by go_num,?_,(((HBJ.out.setCell (Nat.le_refl _) _).setCell (Nat.le_refl _) _).setCell (Nat.le_refl _) _).setCell (Nat.le_refl _) _⟩
    exact ((((HAJ.out.set (4 * n) (by omega) _).set (4 * n + 1) (by omega) _).set (4 * n + 2) (by omega) _).set (4 * n + 3) (by omega) _).congr fun k _ => Ec st n k
   case measure => simp [intOf];omega
  obtain rfl:n = 8:=by omega
  have hr:=hAj.range
  have e8:(List.range 32).map (outC st 8) = ((List.range 32).map (stB st)).map fun b => Value.int .u8 (b.toNat:Int):=by
   rw [List.map_map]
   refine List.map_congr_left fun k hk => ?_
   have:=List.mem_range.1 hk
   show outC st 8 k = _
   unfold outC;rw [if_pos (by omega)];rfl
  rw [e8] at hr
  have hO5:Arr wj w.heap.size 32 (fun _ => .int .u8 0):=HO.out.below hbj (by omega)
  have hlen:(((List.range 32).map (stB st)).map fun b => Value.int .u8 (b.toNat:Int)).length = 32:=by simp
  have hone:∀ v ∈ ((List.range 32).map (stB st)).map (fun b => Value.int .u8 (b.toNat:Int)),v.oneCell' = true:=by
   intro v hv;obtain ⟨x,_,rfl⟩:=List.mem_map.1 hv;rfl
  have hfin:idV h.sum = .agg (((List.range 32).map (stB st)).map fun b => Value.int .u8 (b.toNat:Int)).toArray:=by unfold idV HS.sum;rw [HST.out]
  have HF:=ah hfin
  generalize ((List.range 32).map (stB st)).map (fun b => Value.int .u8 (b.toNat:Int)) = us at hr hlen hone HF
  have h32:(prog.info? 42).map (·.size) = some 32:=by kernel_rfl
  have h32u:(prog.info? 42).map (·.size) = some us.length:=by rw [hlen];exact h32
  have hth:=hO5.there
  have hfr:=World.rangeAt_setCells_same wj w.heap.size 0 us (by rw [hlen];exact hth)
  have HFR:=ah hfr
  have HTH:=ah hth
  have HLN:=ah hlen
  have HON:=ah hone
  have hbf:Below w.heap.size w (wj.setCells w.heap.size 0 us):=below_setCells _ (Nat.le_refl _) us 0 _ (HBI.out.trans (hbj.mono HBI.out.size))
  have HBF:=ah hbf
  clear hAj hbj e8 hfin hth hlen hone hfr hbf hO5
  go_wp2_with (first | (refine wpList_load_mid rfl 42 _ rfl wi.heap.size 0 rfl us _ hr underlying42 rfl h32u ?_) | (refine aj rfl 42 _ _ rfl w.heap.size 0 us ?y1 ?y2 32 HLN.out ?y4 h32 HON.out ?_))
  case y4 => exact HTH.out
  go_wp2
  refine dI rfl w.heap.size 0 rfl us _ HFR.out underlying42 rfl h32u rfl ⟨by rw [HF.out],HBF.out⟩
 have hd:((q.many:Int) != 56) = true:=by rw [bne_iff_ne];omega
 have HP:=qM (w.heap.size + 1) q 0 wo hAo (by omega) ((HL.out.below HBW.out).grown hgo h8) h8
 rw [show (((0:UInt8).toNat:Nat):Int) = 0 from rfl] at HP
 have HPP:=ah HP
 have HGO:=ah hgo
 have HQ:=ah hq
 have HMQ:=ah hmo
 have HNE:=ah hne
 have HC1:=ah c1
 clear HP hgo hAo hq hmo hne
 go_wp2_with fail
 refine HPP.out.mono ?_
 rintro e w3 ⟨rfl,hA7,hg7⟩
 have HA7:=ah hA7
 have HG7:=ah (dU HGO.out hg7)
 clear hA7 hg7 c1
 go_wp2
 go_roundw
 case rel =>
  refine ⟨i + 1,?_,?_,HG7.out⟩
  ·have h1:=HMQ.out;have h2:=HNE.out;have h3:=HMM.out
   unfold padN at hi ⊢;omega
  rw [List.replicate_succ',kQ,HQ.out];exact HA7.out
 have c2:=HA7.out.cell 73 (by omega)
 have h1:=HMQ.out;have h2:=HNE.out
 rw [HS.BU,jI _ _ (by omega)] at c2
 unfold Ct padN
 rw [HC1.out,c2]
 dsimp only
 rw [Int.toNat_natCast,Int.toNat_natCast]
 omega
def shaP (s:ByteArray):List UInt8:=(bP.w1 s 1).sum
theorem Jo (h:HS):h.sum.length = 32:=by simp [HS.sum]
theorem H9 (x:List UInt8):(x.map fun b => Value.int .u8 (b.toNat:Int)).length = x.length:=by simp
theorem IC (p q cap:Nat) (s:ByteArray) (w:World) (hs:w.cell? ⟨p,q,none⟩ = some (.string s)) (hL:Laid w) (hz:s.size ≤ 1000000000) :
  Calls prog 94 #[.slice (some ⟨p,q,none⟩) 1 cap] w fun e w' => e = .returned (idV (shaP s)) ∧ Below w.heap.size w w':=by
 have hpl:p < w.heap.size:=World.block_lt_of_cell? w _ hs
 have hzc:Tryz.zeroCells244 = ((List.range 75).map bP.c).toArray:=by kernel_rfl
 have hb1:Below w.heap.size w ((w.alloc (.cells (Array.replicate 32 (.int .u8 0)) 42)).alloc (.cells Tryz.zeroCells244 244)):=bal.alloc (by simp) _
 have hA1:Arr ((w.alloc (.cells (Array.replicate 32 (.int .u8 0)) 42)).alloc (.cells Tryz.zeroCells244 244)) (w.heap.size + 1) 75 bP.c:=by
  rw [hzc]
  have:=Arr.bP (w.alloc (.cells (Array.replicate 32 (.int .u8 0)) 42)) 244
  rw [World.size_alloc] at this;exact this
 have hO1:=(Arr.new w 32 (.int .u8 0) 42).alloc (by omega) (.cells Tryz.zeroCells244 244)
 clear hzc
 go_enter func94,ntmps94
 go_wp2_with fail
 generalize hW:(w.alloc _).alloc _ = W
 have hb2:Below w.heap.size w W:=by rw [← hW];exact hb1
 have hA2:Arr W (w.heap.size + 1) 75 bP.c:=by rw [← hW];exact hA1
 have hO2:Arr W w.heap.size 32 (fun _ => .int .u8 0):=by rw [← hW];exact hO1
 have hL2:=hL.below hb2
 have h8:=hL.lt
 have hsz:w.heap.size + 1 < W.heap.size:=hA2.lt (by omega)
 have hs2:=aA hs hb2 hpl
 have HW1:=Dn (w.heap.size + 1) p q cap bP s W hA2 hL2 (by omega) hs2 (by omega) rfl (by show 0 < 64;omega) hz
 have HB2:=ah hb2
 have HO2:=ah hO2
 have HL2:=ah hL2
 clear hb1 hA1 hO1 hW hb2 hA2 hO2 hL2 hs hs2
 refine HW1.mono ?_
 rintro e w1 ⟨rfl,hA3,hg3⟩
 have hm3:(bP.w1 s 1).many < 64:=by
  unfold HS.w1;rw [if_neg (by omega)]
  exact HS.lM _ _ (by rw [HS.jT];show 0 < 64;omega)
 have ht3:(bP.w1 s 1).taken = (s.size:Int):=rfl
 have hS:=Ig (w.heap.size + 1) (bP.w1 s 1) w1 hA3 (HL2.out.grown hg3 (by omega)) hm3 (by rw [ht3];omega)
 have HSS:=ah hS
 have hO3:Arr w1 w.heap.size 32 (fun _ => .int .u8 0):=⟨fun k hk => hg3.cell (HO2.out.cell k hk) (by simp),fun k hk => by
  rw [World.frozen?_of_block (w:=W) (a:=⟨w.heap.size,k,none⟩) (hg3.block w.heap.size (by omega) (by simp))];exact HO2.out.free k hk⟩
 have hb3:Below w.heap.size w w1:=(HB2.out).grown hg3 (by omega) (fun k hk => by cases hk;omega)
 have hsz1:w.heap.size < w1.heap.size:=hO3.lt (by omega)
 have HO3:=ah hO3
 have HB3:=ah hb3
 clear hA3 hg3 hS hO3 hb3 hm3 ht3 HW1 HB2 HO2 HL2
 go_wp2_with fail
 refine HSS.out.mono ?_
 rintro e w2 ⟨rfl,hb4⟩
 have hlen:((shaP s).map fun b => Value.int .u8 (b.toNat:Int)).length = 32:=by rw [H9];exact Jo _
 have hone:∀ v ∈ (shaP s).map (fun b => Value.int .u8 (b.toNat:Int)),v.oneCell' = true:=by
  intro v hv;obtain ⟨x,_,rfl⟩:=List.mem_map.1 hv;rfl
 have HF:Hid (idV (shaP s) = .agg ((shaP s).map fun b => Value.int .u8 (b.toNat:Int)).toArray):=ah rfl
 have hV:idV (HS.sum (bP.w1 s 1)) = .agg ((shaP s).map fun b => Value.int .u8 (b.toNat:Int)).toArray:=rfl
 rw [hV]
 have hth:=(HO3.out.below hb4 hsz1).there
 generalize (shaP s).map (fun b => Value.int .u8 (b.toNat:Int)) = us at hlen hone HF
 have h32:(prog.info? 42).map (·.size) = some 32:=by kernel_rfl
 have h32u:(prog.info? 42).map (·.size) = some us.length:=by rw [hlen];exact h32
 have HFR:=ah (World.rangeAt_setCells_same w2 w.heap.size 0 us (by rw [hlen];exact hth))
 have HTH:=ah hth
 have HLN:=ah hlen
 have HON:=ah hone
 have HBF:=ah (below_setCells (B:=w.heap.size) (a:=w) w.heap.size (Nat.le_refl _) us 0 w2 (HB3.out.trans (hb4.mono HB3.out.size)))
 clear hth hlen hone hb4 hV
 go_wp2_with (refine aj rfl 42 _ _ rfl w.heap.size 0 us ?y1 ?y2 32 HLN.out ?y4 h32 HON.out ?_)
 case y1 => rfl
 case y2 => rfl
 case y4 => exact HTH.out
 simp only [Act.put]
 refine dI rfl w.heap.size 0 rfl us _ HFR.out underlying42 rfl h32u rfl ⟨by rw [HF.out],HBF.out⟩
def lenL (l:List UInt8):List UInt8:=l ++ (128 :: List.replicate (padN ((l.length + 1) % 64)) 0) ++ be64 (8 * l.length)
def ofB (l:List UInt8):ByteArray:=⟨l.toArray⟩
theorem aX (l:List UInt8):(ofB l).data.toList = l:=by simp [ofB]
theorem bq (l:List UInt8):(ofB l).size = l.length:=by simp [ofB,ByteArray.size]
theorem ba_eq {p q:ByteArray} (h:p.data.toList = q.data.toList):p = q:=by
 cases p;cases q;simp at h;rw [h]
theorem pF (p q:ByteArray):(p ++ q).data.toList = p.data.toList ++ q.data.toList:=by simp
structure Rd where
 s:ByteArray
 pos:Nat
 err:Nat
def Rd.c (r:Rd) (k:Nat):Value:=if k = 0 then .string r.s else if k = 1 then .int .i64 (r.pos:Int) else .int .i64 (r.err:Int)
structure Rd.fine (r:Rd):Prop where
 pos:r.pos ≤ r.s.size
 size:r.s.size ≤ 1000000
 err:r.err ≤ 100
def Rd.raw (r:Rd) (n:Nat):Rd × ByteArray :=
 if r.err ≠ 0 then (r,ByteArray.empty) else if r.s.size - r.pos < n then ({ r with err:=3 },ByteArray.empty) else ({ r with pos:=r.pos + n },r.s.extract r.pos (r.pos + n))
theorem Rd.rZ (r:Rd) (n:Nat) (h:r.fine):(r.raw n).1.fine:=by
 unfold Rd.raw
 split
 ·exact h
 split
 ·exact ⟨h.pos,h.size,by show 3 ≤ 100;omega⟩
 exact ⟨by show r.pos + n ≤ r.s.size;have:=h.pos;omega,h.size,h.err⟩
theorem Rd.Jj (r:Rd) (e:Nat):∀ k,k < 3 → upd r.c 2 (.int .i64 (e:Int)) k = Rd.c { r with err:=e } k:=by
 intro k hk;unfold upd Rd.c
 obtain h | h | h:k = 0 ∨ k = 1 ∨ k = 2:=by omega
 all_goals subst h;rfl
theorem Rd.fK (r:Rd) (p:Nat):∀ k,k < 3 → upd r.c 1 (.int .i64 (p:Int)) k = Rd.c { r with pos:=p } k:=by
 intro k hk;unfold upd Rd.c
 obtain h | h | h:k = 0 ∨ k = 1 ∨ k = 2:=by omega
 all_goals subst h;rfl
theorem kZ (o:ByteArray) (m n:Nat) (h:m + n ≤ o.size) (w:World):(Instr.slice 9 (.string o) (some (.int .i64 (m:Int))) (some (.int .i64 ((m:Int) + n))) none).run prog w = .ok (.string (o.extract m (m + n))) w:=by
 have h3:(m:Int) + n ≤ o.size:=by omega
 have h4:((m:Int) + n).toNat = m + n:=by omega
 have h5:(0:Int) ≤ (m:Int) + n:=by omega
 simp [Instr.slice,run_underlying underlying9,Instr.sliceBounds,Instr.sliceBound,asIntOf,h3,h4,h5]
def blk (c:ByteArray) (k:Nat):UInt8:=c.data.toList.getD k 0
theorem iY (c:ByteArray) (w:World) (k:Nat) (hk:k < c.size):(Instr.index 9 (.string c) (.int .i64 (k:Int))).run prog w = .ok (.int .u8 (wn (bw (blk c k)))) w:=by
 have h1:(0:Int) ≤ k:=by omega
 have h2:c[k]? = some (blk c k):=by
  unfold blk
  rw [getElem?_pos c k hk]
  have:c.data.toList[k]? = some c[k]:=by simp [hk];rfl
  simp only [List.getD,this,Option.getD_some]
 unfold Instr.index
 simp only [Sem.run_bind,asIntOf,Sem.run_pure,Result.andThen_ok,run_underlying underlying9,if_pos h1,Int.toNat_natCast,h2,q9]
def bS (l:List UInt8) (most:Nat):Nat → Nat → Nat → Sum Nat (Nat × Nat)
 | 0,_,_ => .inl 4
 | f + 1,i,n => match l[i]? with
  | none => .inl 3
  | some b => if 128 ≤ b.toNat then bS l most f (i + 1) (n + b.toNat % 128 * 128 ^ i)
   else if b.toNat = 0 ∧ 0 < i then .inl 2
   else if 1099511627775 < n + b.toNat % 128 * 128 ^ i ∨ most < n + b.toNat % 128 * 128 ^ i then .inl 4
   else .inr (n + b.toNat % 128 * 128 ^ i,i + 1)
def Rd.left (r:Rd):List UInt8:=r.s.data.toList.drop r.pos
def Rd.num (r:Rd) (most:Nat):Rd × Nat:=if r.err ≠ 0 then (r,0) else match bS r.left most 6 0 0 with
 | .inl e => ({ r with err:=e },0)
 | .inr x => ({ r with pos:=r.pos + x.2 },x.1)
theorem He (r:Rd) (k:Nat):r.left[k]? = r.s.data.toList[r.pos + k]?:=by unfold Rd.left;rw [List.getElem?_drop]
theorem fP (l:List UInt8) (most:Nat):∀ f i n,(∀ e,bS l most f i n = .inl e → e ≤ 4 ∧ 0 < e) ∧ (∀ x,bS l most f i n = .inr x → x.2 ≤ l.length ∧ x.1 ≤ most ∧ i < x.2 ∧ x.1 ≤ 1099511627775)
 | 0,i,n => ⟨fun e h => by cases h;omega,fun x h => by cases h⟩
 | f + 1,i,n => by
  unfold bS
  cases hl:l[i]? with
  | none => exact ⟨fun e h => by cases h;omega,fun x h => by cases h⟩
  | some b =>
   dsimp only
   have hi:i < l.length:=(List.getElem?_eq_some_iff.1 hl).1
   by_cases h1:128 ≤ b.toNat
   ·rw [if_pos h1]
    obtain ⟨a1,a2⟩:=fP l most f (i + 1) (n + b.toNat % 128 * 128 ^ i)
    exact ⟨a1,fun x h => by obtain ⟨q1,q2,q3,q4⟩:=a2 x h;exact ⟨q1,q2,by omega,q4⟩⟩
   rw [if_neg h1]
   by_cases h2:b.toNat = 0 ∧ 0 < i
   ·rw [if_pos h2];exact ⟨fun e h => by cases h;omega,fun x h => by cases h⟩
   rw [if_neg h2]
   by_cases h3:1099511627775 < n + b.toNat % 128 * 128 ^ i ∨ most < n + b.toNat % 128 * 128 ^ i
   ·rw [if_pos h3];exact ⟨fun e h => by cases h;omega,fun x h => by cases h⟩
   rw [if_neg h3]
   refine ⟨fun e h => (by cases h),fun x h => ?_⟩
   cases h
   exact ⟨by omega,by omega,by omega,by omega⟩
theorem Rd.cu (r:Rd) (most:Nat) (h:r.fine):(r.num most).1.fine ∧ (r.num most).2 ≤ most:=by
 unfold Rd.num
 split
 ·exact ⟨h,Nat.zero_le _⟩
 obtain ⟨a1,a2⟩:=fP r.left most 6 0 0
 split
 ·rename_i e he
  have:=a1 e he
  exact ⟨⟨h.pos,h.size,by show e ≤ 100;omega⟩,Nat.zero_le _⟩
 rename_i x hx
 obtain ⟨q1,q2,_,_⟩:=a2 x hx
 have hl:r.left.length = r.s.size - r.pos:=by unfold Rd.left;simp
 have:=h.pos
 exact ⟨⟨by show r.pos + x.2 ≤ r.s.size;omega,h.size,h.err⟩,q2⟩
theorem Rd.Cy (r:Rd) (most e:Nat) (h0:r.err = 0) (h:bS r.left most 6 0 0 = .inl e):r.num most = ({ r with err:=e },0):=by
 unfold Rd.num;rw [if_neg (by simp [h0]),h]
theorem Rd.K8 (r:Rd) (most:Nat) (x:Nat × Nat) (h0:r.err = 0) (h:bS r.left most 6 0 0 = .inr x):r.num most = ({ r with pos:=r.pos + x.2 },x.1):=by
 unfold Rd.num;rw [if_neg (by simp [h0]),h]
end
end Go.Proofs.YtlhcoanbhnphgaaGreatDoor
