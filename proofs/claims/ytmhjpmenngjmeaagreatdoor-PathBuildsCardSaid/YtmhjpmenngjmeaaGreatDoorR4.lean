/- YtmhjpmenngjmeaaGreatDoorR4: texts JA, S3 of this claim, in one. -/
import Derived.BigQuiet
import Derived.IntWalk
import Derived.Laws.BitsAllLaws
import Derived.Lib.Hide
import Derived.StillTail
import Derived.Test.YtmhjpmenngjmeaaGreatDoorChecked
import Derived.Test.YtmhjpmenngjmeaaGreatDoorR3
import Derived.WalkKit
namespace Go.Proofs.YtmhjpmenngjmeaaGreatDoor
open Go.RowKit
section
variable {P:Program} {ops:Array Oper} {md:Region.Mode} {C:World → Prop}
def tq (P:Program) (md:Region.Mode) (ops:Array Oper) (C:World → Prop) (n:Nat) (L:Array Bool → Act → Prop):Nat → Array Bool → Act → Prop
 | 0,ls,a => L ls a
 | f + 1,ls,a => Region.ready md ops ls ≠ [] ∧ ∀ i ∈ Region.ready md ops ls,i < n ∧ qOp P ops C i (tq P md ops C n L f (ls.setIfInBounds i true)) a
theorem tq_out {n g:Nat} {L:Array Bool → Act → Prop} {Q:Exit → Act → World → Prop} (hL:∀ ls a w,C w → L ls a → wpAny P md ops Q g ls a w) :
  ∀ (f:Nat) (ls:Array Bool) (a:Act) (w:World),C w → tq P md ops C n L f ls a → wpAny P md ops Q (f + g) ls a w:=by
 intro f
 induction f with
 | zero => intro ls a w hw h;rw [Nat.zero_add];exact hL ls a w hw h
 | succ f ih =>
  intro ls a w hw h
  rw [show f + 1 + g = (f + g) + 1 from by omega]
  exact ⟨fun h0 => absurd h0 h.1,fun i hi => wpOp_of_qOp hw (fun a' w' hw' h' => ih _ a' w' hw' h') (h.2 i hi).2⟩
theorem tq_first {n i:Nat} {oi:Oper} {v:Value} {L:Array Bool → Act → Prop} (hi:ops[i]? = some oi) (hsel:∀ (j:Nat) (o:Oper) cs b,ops[j]? = some o → o.op ≠ .select cs b)
  (hs:Region.sinkB md ops n = true) (hc:Region.chainB md ops n = true) (hn:n < ops.size) (hin:i < n) (hdone:∀ ls a,L ls a → ∀ j ∈ Region.ready md ops ls,n ≤ j) :
  ∀ (f:Nat) (ls:Array Bool) (a:Act),HeadInv md ops n ls →
   (∀ j oj,ops[j]? = some oj → j ≠ i → ls.getD j true = false → (∀ e ∈ oj.after,Region.binds md e = true → e.on ≠ i) → oi.apart ops oj = true) →
   i ∈ Region.ready md ops ls → YieldsIn P ops C oi v a → tq P md ops C n L f (ls.setIfInBounds i true) (a.put oi.dst v) → tq P md ops C n L (f + 1) ls a:=by
 intro f
 induction f with
 | zero =>
  intro ls a inv _ hr hy H
  refine ⟨fun h0 => (by rw [h0] at hr;cases hr),fun j hj => ?_⟩
  have hjn:j < n:=Nat.lt_of_not_ge fun h0 => tail_waits hs hc hn inv _ i rfl hin (mem_ready.1 hr).1 j h0 hj
  refine ⟨hjn,?_⟩
  by_cases e:j = i
  ·subst e;exact hy.qOp hi H
  ·have:=hdone _ _ H j (ready_mono hj e);omega
 | succ f ih =>
  intro ls a inv hfree hr hy H
  have hun:=(mem_ready.1 hr).1
  refine ⟨fun h0 => (by rw [h0] at hr;cases hr),fun j hj => ?_⟩
  have hjn:j < n:=Nat.lt_of_not_ge fun h0 => tail_waits hs hc hn inv _ i rfl hin hun j h0 hj
  refine ⟨hjn,?_⟩
  by_cases e:j = i
  ·subst e;exact hy.qOp hi H
  ·obtain ⟨hjun,oj,hoj,hall⟩:=mem_ready.1 hj
   have hnot:∀ x ∈ oj.after,Region.binds md x = true → x.on ≠ i:=fun x hx hb heq => by
    have h1:=hall x hx hb
    rw [heq,getD_both hun] at h1
    cases h1
   have h2:=qOp_put hoj (hfree j oj hoj e hjun hnot) (fun cs b => hsel i oi cs b hi) (fun cs b => hsel j oj cs b hoj) hy (H.2 j (ready_mono hj e)).2
   refine qOp_mono (fun a' h3 => ih (ls.setIfInBounds j true) a' (inv.set hj hjn) ?_ (ready_mono hr (Ne.symm e)) h3.1 ?_) h2
   ·intro k ok hk hki hkun hno
    refine hfree k ok hk hki ?_ hno
    by_cases ejk:j = k
    ·subst ejk;exact hjun
    ·rwa [getD_set_ne true ejk] at hkun
   ·rw [Array.setIfInBounds_comm _ _ e];exact h3.2
theorem tq_lex {n g:Nat} {Lq:Act → Prop} (hsel:Region.noSelect ops = true) (hs:Region.sinkB md ops n = true) (hc:Region.chainB md ops n = true) (hn:n < ops.size) :
  ∀ (l:List Oper) (k:Nat) (ls:Array Bool) (a:Act),(∀ j,j < l.length → l[j]? = ops[k + j]?) → k + l.length = n → HeadInv md ops n ls →
  Region.lexHead md ops g l.length k ls = true → wpQuiet P ops C Lq l a → tq P md ops C n (fun ls' a' => Region.seqB md ops g n ls' = true ∧ Lq a') l.length ls a:=by
 intro l
 induction l with
 | nil =>
  intro k ls a _ hk _ hB h
  obtain rfl:k = n:=by simpa using hk
  exact ⟨by simpa [Region.lexHead] using hB,h⟩
 | cons o l ih =>
  intro k ls a hl hk inv hB h
  have h0:ops[k]? = some o:=by simpa using (hl 0 (by simp)).symm
  simp only [List.length_cons,Region.lexHead,Bool.and_eq_true] at hB
  obtain ⟨⟨hr,hf⟩,hB'⟩:=hB
  have hkn:k < n:=by simp only [List.length_cons] at hk;omega
  have hr':k ∈ Region.ready md ops ls:=by simpa using hr
  obtain ⟨v,hy,hK⟩:=yieldsIn_of_qOp h0 (show qOp P ops C k (wpQuiet P ops C Lq l) a from by unfold qOp;simp only [h0];exact h)
  exact tq_first h0 (Region.noSelect_spec hsel) hs hc hn hkn (fun _ _ hL => seqB_ready hL.1) l.length ls a inv (Region.free_spec h0 hf) hr' hy
   (ih (k + 1) _ _ (fun j hj => by have:=hl (j + 1) (by simp;omega);simpa [Nat.add_assoc,Nat.add_comm 1 j] using this) (by simp only [List.length_cons] at hk;omega) (inv.set hr' hkn) hB' hK)
structure BW (B:Nat) (w:World) where
 out:World
 hb:Below B w out
instance (B:Nat) (w:World):Nonempty (BW B w):=⟨⟨w,Below.refl _ _⟩⟩
theorem calls_bw {P:Program} {f:FuncId} {args:Array Value} {w:World} {v:Value} {x:BW w.heap.size w} (h:Calls P f args x.out fun e w' => e = .returned v ∧ Below x.out.heap.size x.out w') :
  Calls P f args x.out fun e w'' => e = .returned v ∧ ∃ y:BW w.heap.size w,w'' = y.out :=
 h.mono fun _ w' ⟨he,hb⟩ => ⟨he,⟨w',x.hb.trans (hb.mono x.hb.size)⟩,rfl⟩
theorem calls_bw_same {P:Program} {f:FuncId} {args:Array Value} {w:World} {v:Value} {x:BW w.heap.size w} (h:Calls P f args x.out fun e w' => e = .returned v ∧ w' = x.out) :
  Calls P f args x.out fun e w'' => e = .returned v ∧ ∃ y:BW w.heap.size w,w'' = y.out :=
 h.mono fun _ _ ⟨he,hw⟩ => ⟨he,x,hw⟩
theorem wp_region_bq {id:Nat} {Q:Exit → Act → World → Prop} {a:Act} {w:World} {l:List Oper} (hm:P.follows .mixedOrders = true) (hB:Region.lexB .any l.toArray = true)
  (h:wpQuiet P l.toArray (fun w' => ∃ x:BW w.heap.size w,w' = x.out) (fun a' => ∀ w',Below w.heap.size w w' → Q .normal a' w') l a):(Code.region id l.toArray true).wp P Q a w :=
 wp_region_quiet (C:=fun w' => ∃ x:BW w.heap.size w,w' = x.out) hm hB ⟨⟨{ w with drawn:=w.drawn + 1 },⟨rfl,rfl,rfl,Nat.le_refl _,fun _ _ => rfl⟩⟩,rfl⟩
  (by
   have:(fun a' => ∀ w',(∃ x:BW w.heap.size w,w' = x.out) → Q .normal a' w') = (fun a' => ∀ w',Below w.heap.size w w' → Q .normal a' w'):=by
    funext a';exact propext ⟨fun H w' hb => H w' ⟨⟨w',hb⟩,rfl⟩,fun H w' ⟨x,e⟩ => by subst e;exact H _ x.hb⟩
   rw [this];simpa using h)
theorem wp_region_bt {id:Nat} {Q:Exit → Act → World → Prop} {a:Act} {w:World} {l:List Oper} (n:Nat) (hm:P.follows .mixedOrders = true) (hB:Region.lexTailB .any l.toArray n = true)
  (h:wpQuiet P l.toArray (fun w' => ∃ x:BW w.heap.size w,w' = x.out) (fun a' => ∀ w',Below w.heap.size w w' → wpList P l.toArray Q (l.drop n) a' w') (l.take n) a):(Code.region id l.toArray true).wp P Q a w:=by
 simp only [Region.lexTailB,Bool.and_eq_true,decide_eq_true_eq] at hB
 obtain ⟨⟨⟨⟨hsel,hn⟩,hs⟩,hc⟩,hlex⟩:=hB
 have hn':n < l.length:=by simpa using hn
 have htl:(l.take n).length = n:=by simp;omega
 have hdl:(l.drop n).length = l.toArray.size - n:=by simp
 have inv:HeadInv .any l.toArray n (Array.replicate l.toArray.size false) :=
  ⟨by simp,fun j oj _ hl => (by rw [getD_replicate_false] at hl;cases hl),fun t _ ht => getD_in (by simpa using ht) (getD_replicate_false _ _)⟩
 have H:=tq_lex (md:=.any) (g:=l.toArray.size - n) hsel hs hc hn (l.take n) 0 _ a (fun j hj => by rw [htl] at hj;simp [hj]) (by simpa using htl) inv (by rw [htl];exact hlex) h
 refine wp_region_any hm ?_
 have:=tq_out (Q:=Q) (g:=l.toArray.size - n) (fun ls a' w' hw' hL => by
  obtain ⟨x,rfl⟩:=hw'
  have:=wpAny_of_seq (md:=.any) (Q':=Q) (l.drop n) n ls a' x.out (fun j => by simp [List.getElem?_drop]) (by rw [hdl];exact hL.1) (hL.2 _ x.hb)
  rwa [hdl] at this) _ _ _ { w with drawn:=w.drawn + 1 } ⟨⟨{ w with drawn:=w.drawn + 1 },⟨rfl,rfl,rfl,Nat.le_refl _,fun _ _ => rfl⟩⟩,rfl⟩ H
 rw [htl,show n + (l.toArray.size - n) = l.toArray.size from by omega] at this
 exact this
end
end Go.Proofs.YtmhjpmenngjmeaaGreatDoor

namespace Go.Proofs.YtmhjpmenngjmeaaGreatDoor
open Go.RowKit
abbrev W32:=BitVec 32
def wn (x:W32):Int:=x.toNat
theorem wn_0 (x:W32):0 ≤ wn x:=by unfold wn;omega
theorem wn_lt (x:W32):wn x < 4294967296:=by unfold wn;have:=x.isLt;omega
theorem b32 (x:W32):x.toNat < 4294967296:=x.isLt
theorem w_xor (x y:W32):bits .xor .u32 (wn x) (wn y) = wn (x ^^^ y):=by
 unfold wn;rw [u32_xor_nat _ _ (b32 x) (b32 y),BitVec.toNat_xor]
theorem w_and (x y:W32):bits .and .u32 (wn x) (wn y) = wn (x &&& y):=by
 unfold wn;rw [u32_and_nat _ _ (b32 x) (b32 y),BitVec.toNat_and]
theorem w_or (x y:W32):bits .or .u32 (wn x) (wn y) = wn (x ||| y):=by
 unfold wn;rw [u32_or_nat _ _ (b32 x) (b32 y),BitVec.toNat_or]
theorem w_not (x:W32):bits .xor .u32 4294967295 (wn x) = wn (~~~ x):=by
 have h:=w_xor (BitVec.allOnes 32) x
 rw [BitVec.xor_comm,BitVec.xor_allOnes] at h
 have e:wn (BitVec.allOnes 32) = 4294967295:=by decide
 rw [e] at h;exact h
theorem w_not2 (x:W32):bits .xor .u32 (if IntKind.u32.signed = true then -1 else IntKind.u32.max) (wn x) = wn (~~~ x):=w_not x
theorem e_shr (x:W32) (n:Nat):wn x / 2 ^ n = wn (x >>> n):=by
 unfold wn
 rw [BitVec.toNat_ushiftRight,Nat.shiftRight_eq_div_pow];push_cast;rfl
theorem e_shl (x:W32) (n:Nat):wn x * 2 ^ n % 4294967296 = wn (x <<< n):=by
 unfold wn
 rw [BitVec.toNat_shiftLeft,Nat.shiftLeft_eq,Int.natCast_emod,Int.natCast_mul,Int.natCast_pow];rfl
theorem e_shl8 (x:W32):wn x * (256:Int) % (4294967296:Int) = wn (x <<< 8):=e_shl x 8
theorem e_add (x y:W32):(wn x + wn y) % 4294967296 = wn (x + y):=by
 unfold wn;rw [BitVec.toNat_add];omega
theorem ret_int {k:IntKind} {a b:Int} (h:a = b):Ending.returned (.int k a) = .returned (.int k b):=by rw [h]
theorem rot_or (x:W32) (a m:Nat) (h:a + m = 32) (ha:0 < a) (hm:0 < m):(x <<< m) ||| (x >>> a) = x.rotateRight a:=by
 rw [BitVec.rotateRight_def,Nat.mod_eq_of_lt (by omega),show 32 - a = m from by omega,BitVec.or_comm]
def spinW (x:W32) (a b c:Nat):W32:=x.rotateRight a ^^^ x.rotateRight b ^^^ x.rotateRight c
def turnW (x:W32) (a b c:Nat):W32:=x.rotateRight a ^^^ x.rotateRight b ^^^ x >>> c
theorem and31 (a:Nat) (h0:0 < a) (h1:a < 32):bits .and .u64 (IntKind.u64.wrap (-(a:Int))) 31 = ((32 - a:Nat):Int):=by
 have h:∀ a:Nat,a < 32 → 0 < a → bits .and .u64 (IntKind.u64.wrap (-(a:Int))) 31 = ((32 - a:Nat):Int):=by decide +kernel
 exact h a h1 h0
end Go.Proofs.YtmhjpmenngjmeaaGreatDoor

namespace Go.Proofs.YtmhjpmenngjmeaaGreatDoor
open Go.RowKit
theorem same_below {P:Program} {f:FuncId} {args:Array Value} {w:World} {E:Ending} (h:Calls P f args w fun e w' => e = E ∧ w' = w):Calls P f args w fun e w' => e = E ∧ Below w.heap.size w w' :=
 h.mono fun e w' ⟨he,hw⟩ => by subst hw;exact ⟨he,Below.refl _ _⟩
set_option maxHeartbeats 400000 in
theorem rotl_any (x:W32) (a:Nat) (k:Int) (hk:k = -(a:Int)) (h0:0 < a) (h1:a < 32) (w:World) :
  Calls Tryz.prog 148 #[.int .u32 (wn x),.int .i64 k] w fun e w' => e = .returned (.int .u32 (wn (x.rotateRight a))) ∧ w' = w:=by
 subst hk
 have hx0:=wn_0 x
 have hx1:=wn_lt x
 have HA:=and31 a h0 h1
 obtain ⟨m,hm⟩:∃ m,m = 32 - a:=⟨_,rfl⟩
 rw [← hm] at HA
 have H3:IntKind.u64.wrap (32 - (m:Int)) = (a:Int):=by rw [IntKind.wrap_u64];omega
 have H5:(32:Int) - (m:Int) = (a:Int):=by omega
 have H4:=w_or (x <<< m) (x >>> a)
 rw [rot_or x a m (by omega) h0 (by omega)] at H4
 clear hm
 go_enter Tryz.func148,Tryz.ntmps148
 go_wp2
 go_ret
 exact ⟨ret_int (by rw [e_shl,e_shr,H4]),rfl⟩
set_option maxHeartbeats 400000 in
theorem right_any (x:W32) (a:Nat) (k:Int) (hk:k = (a:Int)) (h0:0 < a) (h1:a < 32) (w:World):
  Calls Tryz.prog 107 #[.int .u32 (wn x),.int .u64 k] w fun e w' => e = .returned (.int .u32 (wn (x.rotateRight a))) ∧ w' = w:=by
 subst hk
 have hx0:=wn_0 x
 have hx1:=wn_lt x
 obtain ⟨m,hm⟩:∃ m,m = 32 - a:=⟨_,rfl⟩
 have H3:IntKind.u64.wrap (32 - (a:Int)) = (m:Int):=by rw [IntKind.wrap_u64];omega
 have H5:(32:Int) - (a:Int) = (m:Int):=by omega
 have H4:=w_or (x >>> a) (x <<< m)
 rw [BitVec.or_comm,rot_or x a m (by omega) h0 (by omega)] at H4
 clear hm
 go_enter Tryz.func107,Tryz.ntmps107
 go_wp2
 go_ret
 exact ⟨ret_int (by rw [e_shl,e_shr,H4]),rfl⟩
set_option maxHeartbeats 1000000 in
theorem turn_any (x:W32) (a b c:Nat) (ha:0 < a) (ha1:a < 32) (hb:0 < b) (hb1:b < 32) (hc:c < 32) (w:World) :
  Calls Tryz.prog 139 #[.int .u32 (wn x),.int .i64 a,.int .i64 b,.int .i64 c] w fun e w' => e = .returned (.int .u32 (wn (turnW x a b c))) ∧ Below w.heap.size w w':=by
 have H1:=fun w => rotl_any x a (-(a:Int)) rfl ha ha1 w
 have H2:=fun w => rotl_any x b (-(b:Int)) rfl hb hb1 w
 have X:=w_xor
 have E:=e_shr x c
 have N1:IntKind.i64.wrap (-(a:Int)) = -(a:Int):=IntWalk.i64_in _ (by omega)
 have N2:IntKind.i64.wrap (-(b:Int)) = -(b:Int):=IntWalk.i64_in _ (by omega)
 go_enter Tryz.func139,Tryz.ntmps139
 go_wp2
 refine wp_region_bq (by kernel_rfl) (by kernel_rfl) ?_
 repeat (go_big_quiet_step ((first | (go_at_call 148;with_reducible exact calls_bw_same (H1 _)) | (go_at_call 148;with_reducible exact calls_bw_same (H2 _)))))
 refine wpQuiet_nil ?_
 intro wq hbq
 go_wp2
 go_ret
 exact ⟨ret_int rfl,hbq⟩
set_option maxHeartbeats 1000000 in
theorem spin_any (x:W32) (a b c:Nat) (ha:0 < a) (ha1:a < 32) (hb:0 < b) (hb1:b < 32) (hc:0 < c) (hc1:c < 32) (w:World) :
  Calls Tryz.prog 140 #[.int .u32 (wn x),.int .i64 a,.int .i64 b,.int .i64 c] w fun e w' => e = .returned (.int .u32 (wn (spinW x a b c))) ∧ w' = w:=by
 have X:=w_xor
 go_enter Tryz.func140,Tryz.ntmps140
 go_wp2_with (first | (go_at_call_of 148 (Value.int IntKind.i64 (-(a:Int)));refine (rotl_any x a _ rfl ha ha1 _).mono ?_;rintro e w' ⟨rfl,rfl⟩) | (go_at_call_of 148 (Value.int IntKind.i64 (-(b:Int)));refine (rotl_any x b _ rfl hb hb1 _).mono ?_;rintro e w' ⟨rfl,rfl⟩) | (go_at_call_of 148 (Value.int IntKind.i64 (-(c:Int)));refine (rotl_any x c _ rfl hc hc1 _).mono ?_;rintro e w' ⟨rfl,rfl⟩))
 go_ret
 exact ⟨ret_int rfl,rfl⟩
end Go.Proofs.YtmhjpmenngjmeaaGreatDoor

namespace Go.Proofs.YtmhjpmenngjmeaaGreatDoor
def bw (b:UInt8):W32:=BitVec.ofNat 32 b.toNat
def wordTo (r:Nat → UInt8) (i:Nat):Nat → W32
 | 0 => 0
 | j + 1 => wordTo r i j <<< 8 ||| bw (r (4 * i + j))
def initW (r:Nat → UInt8) (i j:Nat):Nat → W32:=fun k => if k < i then wordTo r k 4 else if k = i then wordTo r i j else 0
theorem initW_zero (r:Nat → UInt8):initW r 0 0 = fun _ => 0:=by
 funext k;unfold initW;rw [if_neg (by omega)];split <;> rfl
theorem initW_byte (r:Nat → UInt8) (i j:Nat):upd (initW r i j) i (initW r i j i <<< 8 ||| bw (r (4 * i + j))) = initW r i (j + 1):=by
 funext k;unfold upd initW
 by_cases h:k = i
 ·subst h;simp [wordTo]
 ·rw [if_neg h,if_neg h,if_neg h]
theorem initW_word (r:Nat → UInt8) (i:Nat):initW r i 4 = initW r (i + 1) 0:=by
 funext k;unfold initW
 by_cases h:k < i
 ·rw [if_pos h,if_pos (by omega)]
 ·by_cases h2:k = i
  ·subst h2;rw [if_neg (by omega),if_pos rfl,if_pos (by omega)]
  ·rw [if_neg h,if_neg h2,if_neg (by omega)];split <;> rfl
def nextW (f:Nat → W32) (i:Nat):W32:=turnW (f (i - 2)) 17 19 10 + f (i - 7) + turnW (f (i - 15)) 7 18 3 + f (i - 16)
def schedW (r:Nat → UInt8):Nat → Nat → W32
 | 0 => initW r 16 0
 | n + 1 => upd (schedW r n) (16 + n) (nextW (schedW r n) (16 + n))
def roundK:List W32:=[0x428a2f98#32,0x71374491#32,0xb5c0fbcf#32,0xe9b5dba5#32,0x3956c25b#32,0x59f111f1#32,0x923f82a4#32,0xab1c5ed5#32,0xd807aa98#32,0x12835b01#32,0x243185be#32,0x550c7dc3#32,0x72be5d74#32,0x80deb1fe#32,0x9bdc06a7#32,0xc19bf174#32,0xe49b69c1#32,0xefbe4786#32,0x0fc19dc6#32,0x240ca1cc#32,0x2de92c6f#32,0x4a7484aa#32,0x5cb0a9dc#32,0x76f988da#32,0x983e5152#32,0xa831c66d#32,0xb00327c8#32,0xbf597fc7#32,0xc6e00bf3#32,0xd5a79147#32,0x06ca6351#32,0x14292967#32,0x27b70a85#32,0x2e1b2138#32,0x4d2c6dfc#32,0x53380d13#32,0x650a7354#32,0x766a0abb#32,0x81c2c92e#32,0x92722c85#32,0xa2bfe8a1#32,0xa81a664b#32,0xc24b8b70#32,0xc76c51a3#32,0xd192e819#32,0xd6990624#32,0xf40e3585#32,0x106aa070#32,0x19a4c116#32,0x1e376c08#32,0x2748774c#32,0x34b0bcb5#32,0x391c0cb3#32,0x4ed8aa4a#32,0x5b9cca4f#32,0x682e6ff3#32,0x748f82ee#32,0x78a5636f#32,0x84c87814#32,0x8cc70208#32,0x90befffa#32,0xa4506ceb#32,0xbef9a3f7#32,0xc67178f2#32]
def rK (i:Nat):W32:=roundK.getD i 0
theorem roundK_len:roundK.length = 64:=by decide +kernel
def tW (s:Nat → W32) (k w:W32):W32:=s 7 + spinW (s 4) 6 11 25 + (s 4 &&& s 5 ^^^ ~~~ s 4 &&& s 6) + k + w
def uW (s:Nat → W32):W32:=spinW (s 0) 2 13 22 + (s 0 &&& s 1 ^^^ s 0 &&& s 2 ^^^ s 1 &&& s 2)
def eight (a b c d e f g h:W32):Nat → W32:=fun k => if k = 0 then a else if k = 1 then b else if k = 2 then c else if k = 3 then d else if k = 4 then e else if k = 5 then f else if k = 6 then g else h
def stepW (s:Nat → W32) (k w:W32):Nat → W32:=eight (tW s k w + uW s) (s 0) (s 1) (s 2) (s 3 + tW s k w) (s 4) (s 5) (s 6)
def roundsW (w:Nat → W32) (s:Nat → W32):Nat → Nat → W32
 | 0 => s
 | n + 1 => stepW (roundsW w s n) (rK n) (w n)
def blockW (s:Nat → W32) (r:Nat → UInt8):Nat → W32:=fun k => s k + roundsW (schedW r 48) s 64 k
def partW (s t:Nat → W32) (i:Nat):Nat → W32:=fun k => if k < i then s k + t k else s k
theorem partW_zero (s t:Nat → W32):partW s t 0 = s:=by funext k;unfold partW;rw [if_neg (by omega)]
theorem partW_next (s t:Nat → W32) (i:Nat):upd (partW s t i) i (s i + t i) = partW s t (i + 1):=by
 funext k;unfold upd partW
 by_cases h:k = i
 ·subst h;rw [if_pos rfl,if_pos (by omega)]
 ·rw [if_neg h]
  by_cases h2:k < i
  ·rw [if_pos h2,if_pos (by omega)]
  ·rw [if_neg h2,if_neg (by omega)]
theorem wn_bw (b:UInt8):((b.toNat:Nat):Int) = wn (bw b):=by
 unfold wn bw;rw [BitVec.toNat_ofNat,Nat.mod_eq_of_lt (by have:=b.toNat_lt;omega)]
theorem bw_lt (b:UInt8):wn (bw b) < 256:=by rw [← wn_bw];have:=b.toNat_lt;omega
structure HS where
 begun:Bool
 st:Nat → W32
 rest:Nat → UInt8
 many:Nat
 taken:Int
def HS.c (h:HS) (k:Nat):Value :=
 if k = 0 then .bool h.begun else if k < 9 then .int .u32 (wn (h.st (k - 1))) else if k < 73 then .int .u8 ((h.rest (k - 9)).toNat:Int) else if k = 73 then .int .i64 h.many else .int .u64 h.taken
theorem HS.c_st (h:HS) (k:Nat) (hk:k < 8):h.c (1 + k) = .int .u32 (wn (h.st k)):=by
 unfold HS.c;rw [if_neg (by omega),if_pos (by omega),show 1 + k - 1 = k from by omega]
theorem HS.c_rest (h:HS) (k:Nat) (hk:k < 64):h.c (9 + k) = .int .u8 ((h.rest k).toNat:Int):=by
 unfold HS.c;rw [if_neg (by omega),if_neg (by omega),if_pos (by omega),show 9 + k - 9 = k from by omega]
theorem HS.c_many (h:HS):h.c 73 = .int .i64 h.many:=rfl
theorem HS.c_taken (h:HS):h.c 74 = .int .u64 h.taken:=rfl
theorem HS.c_begun (h:HS):h.c 0 = .bool h.begun:=rfl
theorem HS.upd_st (h:HS) (k:Nat) (hk:k < 8) (x:W32):upd h.c (1 + k) (.int .u32 (wn x)) = HS.c { h with st:=upd h.st k x }:=by
 funext j;unfold upd HS.c
 by_cases e:j = 1 + k
 ·subst e;rw [if_pos rfl,if_neg (by omega),if_pos (by omega)];dsimp only;rw [if_pos (by omega)]
 ·rw [if_neg e]
  by_cases h0:j = 0
  ·rw [if_pos h0,if_pos h0]
  ·rw [if_neg h0,if_neg h0]
   by_cases h1:j < 9
   ·rw [if_pos h1,if_pos h1];dsimp only;rw [if_neg (by omega)]
   ·rw [if_neg h1,if_neg h1]
theorem HS.upd_rest (h:HS) (k:Nat) (hk:k < 64) (x:UInt8):upd h.c (9 + k) (.int .u8 (x.toNat:Int)) = HS.c { h with rest:=upd h.rest k x }:=by
 funext j;unfold upd HS.c
 by_cases e:j = 9 + k
 ·subst e;rw [if_pos rfl,if_neg (by omega),if_neg (by omega),if_pos (by omega)];dsimp only;rw [if_pos (by omega)]
 ·rw [if_neg e]
  by_cases h0:j = 0
  ·rw [if_pos h0,if_pos h0]
  ·rw [if_neg h0,if_neg h0]
   by_cases h1:j < 9
   ·rw [if_pos h1,if_pos h1]
   ·rw [if_neg h1,if_neg h1]
    by_cases h2:j < 73
    ·rw [if_pos h2,if_pos h2];dsimp only;rw [if_neg (by omega)]
    ·rw [if_neg h2,if_neg h2]
theorem HS.upd_many (h:HS) (m:Nat):upd h.c 73 (.int .i64 (m:Int)) = HS.c { h with many:=m }:=by
 funext j;unfold upd HS.c
 by_cases e:j = 73
 ·subst e;simp
 ·rw [if_neg e]
  by_cases h0:j = 0
  ·rw [if_pos h0,if_pos h0]
  ·rw [if_neg h0,if_neg h0]
   by_cases h1:j < 9
   ·rw [if_pos h1,if_pos h1]
   ·rw [if_neg h1,if_neg h1]
    by_cases h2:j < 73
    ·rw [if_pos h2,if_pos h2]
    ·rw [if_neg h2,if_neg h2,if_neg e,if_neg e]
theorem HS.upd_taken (h:HS) (m:Int):∀ k,k < 75 → upd h.c 74 (.int .u64 m) k = HS.c { h with taken:=m } k:=by
 intro j hj;unfold upd HS.c
 by_cases e:j = 74
 ·subst e;simp
 ·rw [if_neg e]
  by_cases h0:j = 0
  ·rw [if_pos h0,if_pos h0]
  ·rw [if_neg h0,if_neg h0]
   by_cases h1:j < 9
   ·rw [if_pos h1,if_pos h1]
   ·rw [if_neg h1,if_neg h1]
    by_cases h2:j < 73
    ·rw [if_pos h2,if_pos h2]
    ·rw [if_neg h2,if_neg h2,if_pos (by omega),if_pos (by omega)]
end Go.Proofs.YtmhjpmenngjmeaaGreatDoor
namespace Go.Proofs.YtmhjpmenngjmeaaGreatDoor
open Go.RowKit
def kV:List Value:=roundK.map fun k => .int .u32 (wn k)
theorem kV_len:kV.length = 64:=by unfold kV;rw [List.length_map,roundK_len]
def wordsV (f:Nat → W32) (k:Nat):Value:=.int .u32 (wn (f k))
theorem wordsV_upd (f:Nat → W32) (i:Nat) (x:W32):upd (wordsV f) i (.int .u32 (wn x)) = wordsV (upd f i x):=by
 funext k;unfold upd wordsV;dsimp only;split <;> rfl
theorem Arr.new (w:World) (n:Nat) (v:Value) (e:TypeId):Arr (w.alloc (.cells (Array.replicate n v) e)) w.heap.size n (fun _ => v) :=
 ⟨fun k hk => by rw [World.cell?_alloc_new];simp [hk],fun k hk => by rw [World.frozen?_alloc_new]⟩
theorem size8 (w:World):(sizeOf 5).run Tryz.prog w = .ok 1 w:=by kernel_rfl
theorem slice_rest (b:Nat) (k:Nat) (hk:k < 16) (w:World) :
  (Instr.sliceAt 158 (.pointer (some ⟨b,9,none⟩)) (some (.int .i64 (4 * (k:Int)))) (some (.int .i64 (4 * (k:Int) + 4))) none).run Tryz.prog w = .ok (.slice (some ⟨b,9 + 4 * k,none⟩) 4 (64 - 4 * k)) w:=by
 have ea:Tryz.prog.arrayLen 158 = 64:=by kernel_rfl
 have ee:Tryz.prog.elem 158 = 5:=by kernel_rfl
 have e1:((4 * (k:Int))).toNat = 4 * k:=by omega
 have e2:((4 * (k:Int) + 4)).toNat = 4 * k + 4:=by omega
 rw [run_sliceAt_array_lh _ _ _ (by rw [ea,ee];exact Tryz.underlying158) _ _ _ _ (by omega) (by omega) (by rw [ea];omega),ea,ee,size8,e1,e2]
 show Result.ok (slicedAt _ _ _ _ _) w = _
 unfold slicedAt
 rw [if_neg (by omega),show 4 * k + 4 - 4 * k = 4 from by omega,Addr.add_mid,Nat.mul_one]
theorem Arr.eight (w:World) (s:Nat → W32) (e:TypeId):Arr (w.alloc (.cells #[.int .u32 (wn (s 0)),.int .u32 (wn (s 1)),.int .u32 (wn (s 2)),.int .u32 (wn (s 3)),.int .u32 (wn (s 4)),.int .u32 (wn (s 5)),.int .u32 (wn (s 6)),.int .u32 (wn (s 7))] e)) w.heap.size 8 (wordsV s):=by
 refine ⟨fun k hk => ?_,fun k hk => by rw [World.frozen?_alloc_new]⟩
 rw [World.cell?_alloc_new]
 obtain h | h | h | h | h | h | h | h:k = 0 ∨ k = 1 ∨ k = 2 ∨ k = 3 ∨ k = 4 ∨ k = 5 ∨ k = 6 ∨ k = 7:=by omega
 all_goals subst h;rfl
theorem Arr.setAll {w:World} {b n:Nat} {c:Nat → Value} (h:Arr w b n c) (vs:List Value) (hn:vs.length = n):Arr (w.setCells b 0 vs) b n (fun k => vs.getD k undef):=by
 refine ⟨fun k hk => ?_,fun k hk => ?_⟩
 ·have:=World.rangeAt_setCells_same w b 0 vs (by rw [hn];exact h.there) k (vs.getD k undef) (by simp [hn,hk])
  simpa using this
 ·have:=(World.there_setCells h.there b 0 vs k hk).2
  simpa using this
theorem wpList_store_list {P:Program} {ops:Array Oper} {rest:List Oper} {op:Oper} {a:Act} {w:World} {Q:Exit → Act → World → Prop} (hgd:op.guard = none) (ty:TypeId) (x y:Operand) (ho:op.op = .store ty x y)
  (b o:Nat) (vs:List Value) (hx:a.eval x = .pointer (some ⟨b,o,none⟩)) (hy:a.eval y = .agg vs.toArray) (n:Nat) (hn:vs.length = n)
  (ht:w.there b o n) (hi:(P.info? ty).map (·.size) = some n) (h1:∀ v ∈ vs,v.oneCell' = true)
  (h:wpList P ops Q rest (a.put op.dst undef) (w.setCells b o vs)):wpList P ops Q (op :: rest) a w :=
 wpList_store_mid hgd ty x y ho b o vs.toArray hx hy (by simpa [hn] using ht) (by simpa [hn] using hi) (all_oneCell_toArray h1) (by simpa using h)
theorem grown_set {w w':World} {b o:Nat} (h:w.grownBy w' (some b)) (v:Value):w.grownBy (w'.setCell ⟨b,o,none⟩ v) (some b) :=
 ⟨h.os,h.tape,h.output,by simpa [World.setCell] using h.size,fun k hk hne => by rw [Below.heap_setCell _ _ _ _ (fun e => hne (by rw [e]))];exact h.block k hk hne⟩
theorem grown_below {w w' w2:World} {row:Option Nat} (h:w.grownBy w' row) (hb:Below w'.heap.size w' w2):w.grownBy w2 row :=
 ⟨hb.os.trans h.os,hb.tape.trans h.tape,hb.output.trans h.output,Nat.le_trans h.size hb.size,fun k hk hne => (hb.block k (Nat.lt_of_lt_of_le hk h.size)).trans (h.block k hk hne)⟩
theorem run_index_k (w:World) (n:Nat) (hn:n < 64):(Instr.index 183 (.agg kV.toArray) (.int .i64 (n:Int))).run Tryz.prog w = .ok (.int .u32 (wn (rK n))) w:=by
 have hs:(sizeOf 141).run Tryz.prog w = .ok 1 w:=by kernel_rfl
 have ha:(isAgg 141).run Tryz.prog w = .ok false w:=by kernel_rfl
 have hk:kV.toArray[n]? = some (.int .u32 (wn (rK n))):=by
  unfold kV rK
  have:n < roundK.length:=by rw [roundK_len];exact hn
  simp [this]
 have h1:(0:Int) ≤ n ∧ (n:Int) < (64:Nat):=by omega
 unfold Instr.index
 simp only [Sem.run_bind,asIntOf,Sem.run_pure,Result.andThen_ok,run_underlying Tryz.underlying183,if_pos h1,hs,part,ha,Int.toNat_natCast,Nat.mul_one,hk]
 rfl
set_option maxRecDepth 100000 in
set_option maxHeartbeats 1000000 in
theorem take_any (b:Nat) (h:HS) (w:World) (hA:Arr w b 75 h.c) (hR:w.rangeAt 4 0 kV) (hRl:4 < w.heap.size) :
  Calls Tryz.prog 127 #[.pointer (some ⟨b,0,none⟩)] w fun e w' => e = .returned (.tuple #[]) ∧ Arr w' b 75 (HS.c { h with st:=blockW h.st h.rest,many:=0 }) ∧ w.grownBy w' (some b):=by
 have hbl:b < w.heap.size:=hA.lt (by omega)
 have hW0:Arr (w.alloc (.cells (Array.replicate 64 (.int .u32 0)) 183)) w.heap.size 64 (wordsV (initW h.rest 0 0)):=by
  rw [initW_zero];exact Arr.new w 64 _ _
 have HK:=Lib.hid (fun (w:World) (n:Nat) (hn:n < 64) => run_index_k w n hn)
 have hz:(Tryz.prog.info? 183).map (·.size) = some kV.length:=by rw [kV_len];kernel_rfl
 have HZ:=Lib.hid hz
 clear hz
 generalize kV = KV at hR HK HZ
 have HA:=Lib.hid hA
 have HR:=Lib.hid hR
 clear hA hR
 go_enter Tryz.func127,Tryz.ntmps127
 go_wp2
 go_loopw [13] (fun i wr => ∃ k:Nat,k ≤ 16 ∧ i = .int .i64 k ∧ Arr wr w.heap.size 64 (wordsV (initW h.rest k 0)) ∧ Below w.heap.size w wr) (fun i _ => (16 - intOf i).toNat)
 case atStart => exact ⟨0,by omega,rfl,hW0,(Below.refl _ _).alloc (Nat.le_refl _) _⟩
 case round =>
  obtain ⟨wo,rfl⟩:∃ wo:World,wo = wr:=⟨_,rfl⟩
  obtain ⟨k,hk,rfl,hW,hb⟩:=hrel
  clear hW0
  by_cases hlt:k < 16
  ·have hd:decide ((k:Int) < 16) = true:=decide_eq_true (by omega)
   have hsl:=slice_rest b k hlt
   have k0:(0:Int) ≤ k:=by omega
   have k1:(k:Int) < 16:=by omega
   go_wp2
   go_loopw [26] (fun i wr => ∃ j:Nat,j ≤ 4 ∧ i = .int .i64 j ∧ Arr wr w.heap.size 64 (wordsV (initW h.rest k j)) ∧ Below w.heap.size w wr) (fun i _ => (4 - intOf i).toNat)
   case atStart => exact ⟨0,by omega,rfl,hW,hb⟩
   case round =>
    obtain ⟨wi,rfl⟩:∃ wi:World,wi = wr:=⟨_,rfl⟩
    obtain ⟨j,hj,rfl,hWi,hbi⟩:=hrel
    clear hW hb
    by_cases hjl:j < 4
    ·have cr:wi.cell? ⟨b,9 + 4 * k + j,none⟩ = some (.int .u8 (wn (bw (h.rest (4 * k + j))))):=by
      rw [hbi.cell (p:=⟨b,9 + 4 * k + j,none⟩) hbl,Nat.add_assoc,HA.out.cell _ (by omega),HS.c_rest _ _ (by omega),wn_bw]
     have cw:=hWi.cell k (by omega)
     have fw:=hWi.free k (by omega)
     unfold wordsV at cw
     have b0:=wn_0 (bw (h.rest (4 * k + j)))
     have b1:=bw_lt (h.rest (4 * k + j))
     have x0:=wn_0 (initW h.rest k j k)
     have x1:=wn_lt (initW h.rest k j k)
     have j0:(0:Int) ≤ j:=by omega
     have j1:(j:Int) < 4:=by omega
     have HN:=Lib.hid (hWi.set k (by omega) (.int .u32 (wn (initW h.rest k j k <<< 8 ||| bw (h.rest (4 * k + j))))))
     have hd2:decide ((j:Int) < 4) = true:=decide_eq_true (by omega)
     clear hWi
     go_wp2
     go_roundw
     case rel =>
      rw [e_shl8,w_or]
      refine ⟨j + 1,by omega,by go_num,?_,hbi.setCell (Nat.le_refl _) _⟩
      have:=HN.out
      rw [wordsV_upd,initW_byte] at this
      exact this
     case measure => simp [intOf];omega
    ·obtain rfl:j = 4:=by omega
     go_wp2
     go_roundw
     case rel => exact ⟨k + 1,by omega,by go_num,by rw [← initW_word];exact hWi,hbi⟩
     case measure => simp [intOf];omega
  ·obtain rfl:k = 16:=by omega
   obtain ⟨w1,rfl⟩:∃ w1:World,w1 = wo:=⟨_,rfl⟩
   go_wp2
   go_loopw [6] (fun i wr => ∃ n:Nat,n ≤ 48 ∧ i = .int .i64 (16 + n:Nat) ∧ Arr wr w.heap.size 64 (wordsV (schedW h.rest n)) ∧ Below w.heap.size w wr) (fun i _ => (64 - intOf i).toNat)
   case atStart => exact ⟨0,by omega,rfl,hW,hb⟩
   case round =>
    obtain ⟨wi,rfl⟩:∃ wi:World,wi = wr:=⟨_,rfl⟩
    obtain ⟨n,hn,rfl,hWi,hbi⟩:=hrel
    clear hW hb
    generalize hm:16 + n = m
    by_cases hnl:n < 48
    ·have c2:=hWi.cell (m - 2) (by omega)
     have c7:=hWi.cell (m - 7) (by omega)
     have c15:=hWi.cell (m - 15) (by omega)
     have c16:=hWi.cell (m - 16) (by omega)
     have cm:=hWi.cell m (by omega)
     have fm:=hWi.free m (by omega)
     have HN:=Lib.hid (hWi.set m (by omega) (.int .u32 (wn (nextW (schedW h.rest n) m))))
     have hsz:w.heap.size < wi.heap.size:=hWi.lt (by omega)
     unfold wordsV at c2 c7 c15 c16 cm
     have m0:(16:Int) ≤ m:=by omega
     have m1:(m:Int) < 64:=by omega
     have hd2:decide ((m:Int) < 64) = true:=decide_eq_true (by omega)
     have HWI:=Lib.hid hWi
     clear hWi
     have a2:IntKind.i64.wrap ((m:Int) - 2) = (m:Int) - 2:=IntWalk.i64_in _ (by omega)
     have t2:((m:Int) - 2).toNat = m - 2:=by omega
     have z2:(2:Int) ≤ m:=by omega
     have y2:(m:Int) - 2 < 64:=by omega
     have a7:IntKind.i64.wrap ((m:Int) - 7) = (m:Int) - 7:=IntWalk.i64_in _ (by omega)
     have t7:((m:Int) - 7).toNat = m - 7:=by omega
     have z7:(7:Int) ≤ m:=by omega
     have y7:(m:Int) - 7 < 64:=by omega
     have a15:IntKind.i64.wrap ((m:Int) - 15) = (m:Int) - 15:=IntWalk.i64_in _ (by omega)
     have t15:((m:Int) - 15).toNat = m - 15:=by omega
     have z15:(15:Int) ≤ m:=by omega
     have y15:(m:Int) - 15 < 64:=by omega
     have a16:IntKind.i64.wrap ((m:Int) - 16) = (m:Int) - 16:=IntWalk.i64_in _ (by omega)
     have t16:((m:Int) - 16).toNat = m - 16:=by omega
     have z16:(16:Int) ≤ m:=by omega
     have y16:(m:Int) - 16 < 64:=by omega
     have EA:=e_add
     have HT1:∀ w,Calls Tryz.prog 139 #[.int .u32 (wn (schedW h.rest n (m - 2))),.int .i64 17,.int .i64 19,.int .i64 10] w fun e w' => e = .returned (.int .u32 (wn (turnW (schedW h.rest n (m - 2)) 17 19 10))) ∧ Below w.heap.size w w':=fun w => turn_any (schedW h.rest n (m - 2)) 17 19 10 (by omega) (by omega) (by omega) (by omega) (by omega) w
     have HT2:∀ w,Calls Tryz.prog 139 #[.int .u32 (wn (schedW h.rest n (m - 15))),.int .i64 7,.int .i64 18,.int .i64 3] w fun e w' => e = .returned (.int .u32 (wn (turnW (schedW h.rest n (m - 15)) 7 18 3))) ∧ Below w.heap.size w w':=fun w => turn_any (schedW h.rest n (m - 15)) 7 18 3 (by omega) (by omega) (by omega) (by omega) (by omega) w
     go_wp2
     refine wp_region_bt 23 (by kernel_rfl) (by kernel_rfl) ?_
     simp only [List.take_succ_cons,List.take_zero,List.drop_succ_cons,List.drop_zero]
     have LQ0:=fun x:BW (World.heap wi).size wi => below_load c2 x.hb (by omega)
     have LQ1:=fun x:BW (World.heap wi).size wi => below_load c7 x.hb (by omega)
     have LQ2:=fun x:BW (World.heap wi).size wi => below_load c15 x.hb (by omega)
     have LQ3:=fun x:BW (World.heap wi).size wi => below_load c16 x.hb (by omega)
     repeat (go_big_quiet_step ((first | (go_at_call 139;with_reducible exact calls_bw (HT1 _)) | (go_at_call 139;with_reducible exact calls_bw (HT2 _)))))
     refine wpQuiet_nil ?_
     intro wq hbq
     clear LQ0 LQ1 LQ2 LQ3
     have cmn:=below_load cm hbq hsz
     have fmn:wq.frozen? ⟨w.heap.size,m,none⟩ = false:=by rw [hbq.frozen (p:=⟨w.heap.size,m,none⟩) hsz];exact fm
     go_wp2
     go_roundw
     case rel =>
      have h1:=(HWI.out.below hbq hsz).set m (by omega) (.int .u32 (wn (nextW (schedW h.rest n) m)))
      refine ⟨n + 1,by omega,by rw [← hm];go_num,?_,(hbi.trans (hbq.mono hbi.size)).setCell (Nat.le_refl _) _⟩
      rw [wordsV_upd,← hm] at h1
      rw [← hm]
      exact h1
     case measure => simp [intOf];omega
    ·obtain rfl:n = 48:=by omega
     obtain rfl:m = 64:=by omega
     have hsz:w.heap.size < wi.heap.size:=hWi.lt (by omega)
     have HWI:=Lib.hid hWi
     have hAi:=HA.out.below hbi hbl
     have c0:=hAi.cell (1 + 0) (by omega)
     have c1:=hAi.cell (1 + 1) (by omega)
     have c2:=hAi.cell (1 + 2) (by omega)
     have c3:=hAi.cell (1 + 3) (by omega)
     have c4:=hAi.cell (1 + 4) (by omega)
     have c5:=hAi.cell (1 + 5) (by omega)
     have c6:=hAi.cell (1 + 6) (by omega)
     have c7:=hAi.cell (1 + 7) (by omega)
     rw [HS.c_st _ _ (by omega)] at c0 c1 c2 c3 c4 c5 c6 c7
     simp only [Nat.reduceAdd] at c0 c1 c2 c3 c4 c5 c6 c7
     clear hAi hWi
     have hRi:wi.rangeAt 4 0 KV:=rangeAt_below HR.out hbi hRl
     go_wp2_with (refine wpList_load_mid rfl 183 _ rfl 4 0 rfl _ _ (World.rangeAt_alloc hRi _) Tryz.underlying183 rfl HZ.out ?_)
     clear hRi c0 c1 c2 c3 c4 c5 c6 c7
     generalize hW:schedW h.rest 48 = W at HWI
     have HWW:=Lib.hid hW
     clear hW
     go_loopw [73] (fun i wr => ∃ n:Nat,n ≤ 64 ∧ i = .int .i64 n ∧ Arr wr wi.heap.size 8 (wordsV (roundsW W h.st n)) ∧ Below wi.heap.size wi wr) (fun i _ => (64 - intOf i).toNat)
     case atStart => exact ⟨0,by omega,rfl,Arr.eight _ _ _,(Below.refl _ _).alloc (Nat.le_refl _) _⟩
     case round =>
      obtain ⟨wj,rfl⟩:∃ wj:World,wj = wr:=⟨_,rfl⟩
      obtain ⟨n,hn,rfl,hS,hbj⟩:=hrel
      have hsj:wi.heap.size < wj.heap.size:=hS.lt (by omega)
      have HS':=Lib.hid hS
      by_cases hnl:n < 64
      ·have hk:=fun w => HK.out w n hnl
       have cw:=(HWI.out.below hbj hsz).cell n (by omega)
       have s0:=hS.cell 0 (by omega)
       have s1:=hS.cell 1 (by omega)
       have s2:=hS.cell 2 (by omega)
       have s3:=hS.cell 3 (by omega)
       have s4:=hS.cell 4 (by omega)
       have s5:=hS.cell 5 (by omega)
       have s6:=hS.cell 6 (by omega)
       have s7:=hS.cell 7 (by omega)
       unfold wordsV at cw s0 s1 s2 s3 s4 s5 s6 s7
       have n0:(0:Int) ≤ n:=by omega
       have n1:(n:Int) < 64:=by omega
       have hd3:decide ((n:Int) < 64) = true:=decide_eq_true (by omega)
       clear hS
       have EA:=e_add
       have EX:=w_xor
       have EN:=w_and
       have EC:=w_not2
       generalize hR:roundsW W h.st n = R at s0 s1 s2 s3 s4 s5 s6 s7 HS'
       have HRR:=Lib.hid hR
       clear hR
       have HP1:∀ w,Calls Tryz.prog 140 #[.int .u32 (wn (R 4)),.int .i64 6,.int .i64 11,.int .i64 25] w fun e w' => e = .returned (.int .u32 (wn (spinW (R 4) 6 11 25))) ∧ Below w.heap.size w w':=fun w => same_below (spin_any (R 4) 6 11 25 (by omega) (by omega) (by omega) (by omega) (by omega) (by omega) w)
       have HP2:∀ w,Calls Tryz.prog 140 #[.int .u32 (wn (R 0)),.int .i64 2,.int .i64 13,.int .i64 22] w fun e w' => e = .returned (.int .u32 (wn (spinW (R 0) 2 13 22))) ∧ Below w.heap.size w w':=fun w => same_below (spin_any (R 0) 2 13 22 (by omega) (by omega) (by omega) (by omega) (by omega) (by omega) w)
       go_wp2
       refine wp_region_bq (by kernel_rfl) (by kernel_rfl) ?_
       have LQ0:=fun x:BW (World.heap wj).size wj => below_load s4 x.hb (by omega)
       have LQ1:=fun x:BW (World.heap wj).size wj => below_load s5 x.hb (by omega)
       have LQ2:=fun x:BW (World.heap wj).size wj => below_load s6 x.hb (by omega)
       have LQ3:=fun x:BW (World.heap wj).size wj => below_load s7 x.hb (by omega)
       have LQ4:=fun x:BW (World.heap wj).size wj => below_load cw x.hb (by omega)
       repeat (go_big_quiet_step ((go_at_call 140;with_reducible exact calls_bw (HP1 _))))
       refine wpQuiet_nil ?_
       intro wq hbq
       clear LQ0 LQ1 LQ2 LQ3 LQ4
       have q0:=below_load s0 hbq hsj
       have q1:=below_load s1 hbq hsj
       have q2:=below_load s2 hbq hsj
       have q3:=below_load s3 hbq hsj
       have q4:=below_load s4 hbq hsj
       have q5:=below_load s5 hbq hsj
       have q6:=below_load s6 hbq hsj
       have hsq:wi.heap.size < wq.heap.size:=by have:=hbq.size;omega
       obtain ⟨wa,rfl⟩:∃ wa:World,wa = wq:=⟨_,rfl⟩
       have hb7:=hbq
       clear hbq
       go_wp2
       refine wp_region_bq (by kernel_rfl) (by kernel_rfl) ?_
       have LQ0:=fun x:BW (World.heap wa).size wa => below_load q0 x.hb (by omega)
       have LQ1:=fun x:BW (World.heap wa).size wa => below_load q1 x.hb (by omega)
       have LQ2:=fun x:BW (World.heap wa).size wa => below_load q2 x.hb (by omega)
       repeat (go_big_quiet_step ((go_at_call 140;with_reducible exact calls_bw (HP2 _))))
       refine wpQuiet_nil ?_
       intro wq hbq
       clear LQ0 LQ1 LQ2
       obtain ⟨wb,rfl⟩:∃ wb:World,wb = wq:=⟨_,rfl⟩
       have p0:=below_load q0 hbq hsq
       have p1:=below_load q1 hbq hsq
       have p2:=below_load q2 hbq hsq
       have p3:=below_load q3 hbq hsq
       have p4:=below_load q4 hbq hsq
       have p5:=below_load q5 hbq hsq
       have p6:=below_load q6 hbq hsq
       clear q0 q1 q2 q3 q4 q5 q6 s0 s1 s2 s3 s4 s5 s6 s7 HP1 HP2 cw hk
       have hbb:Below wi.heap.size wi wb:=hbj.trans ((hb7.trans (hbq.mono hb7.size)).mono hbj.size)
       have HSB:=Lib.hid (HS'.out.below (hb7.trans (hbq.mono hb7.size)) hsj)
       have hth:=HSB.out.there
       rw [e_add,e_add]
       have eT:R 7 + spinW (R 4) 6 11 25 + (R 4 &&& R 5 ^^^ ~~~R 4 &&& R 6) + rK n + W n = tW R (rK n) (W n):=rfl
       have eU:spinW (R 0) 2 13 22 + (R 0 &&& R 1 ^^^ R 0 &&& R 2 ^^^ R 1 &&& R 2) = uW R:=rfl
       rw [eT,eU]
       clear eT eU
       generalize hT:tW R (rK n) (W n) = T
       generalize hU:uW R = U
       have HTT:=Lib.hid hT
       have HUU:=Lib.hid hU
       clear hT hU
       have h8:(Tryz.prog.info? 156).map (·.size) = some 8:=by kernel_rfl
       go_wp2_with (refine wpList_store_list rfl 156 _ _ rfl wi.heap.size 0 [.int .u32 (wn (T + U)),.int .u32 (wn (R 0)),.int .u32 (wn (R 1)),.int .u32 (wn (R 2)),.int .u32 (wn (R 3 + T)),.int .u32 (wn (R 4)),.int .u32 (wn (R 5)),.int .u32 (wn (R 6))] ?x1 ?x2 8 ?x3 ?x4 ?x5 ?h1 ?_)
       case x1 => rfl
       case x2 => go_simp
       case x3 => rfl
       case x4 => exact hth
       case x5 => exact h8
       case h1 => simp [Value.oneCell']
       go_wp2
       go_roundw
       case rel =>
        refine ⟨n + 1,by omega,by go_num,?_,?_⟩
        ·have h1:=Arr.setAll HSB.out [.int .u32 (wn (T + U)),.int .u32 (wn (R 0)),.int .u32 (wn (R 1)),.int .u32 (wn (R 2)),.int .u32 (wn (R 3 + T)),.int .u32 (wn (R 4)),.int .u32 (wn (R 5)),.int .u32 (wn (R 6))] rfl
         refine Arr.congr h1 fun k hk => ?_
         show _ = Value.int .u32 (wn (stepW (roundsW W h.st n) (rK n) (W n) k))
         rw [HRR.out]
         unfold stepW
         rw [HTT.out,HUU.out]
         obtain h | h | h | h | h | h | h | h:k = 0 ∨ k = 1 ∨ k = 2 ∨ k = 3 ∨ k = 4 ∨ k = 5 ∨ k = 6 ∨ k = 7:=by omega
         all_goals subst h;rfl
        ·exact below_setCells _ (Nat.le_refl _) _ _ _ hbb
       case measure => simp [intOf];omega
      ·obtain rfl:n = 64:=by omega
       have hSS:=HS'.out
       rw [show roundsW W h.st 64 = fun k => roundsW W h.st 64 k from rfl] at hSS
       generalize hR:roundsW W h.st 64 = R at hSS
       have HRR:=Lib.hid hR
       have HRS:=Lib.hid hSS
       have hbw:Below w.heap.size w wj:=hbi.trans (hbj.mono hbi.size)
       have HG:=Lib.hid (grown_of_below hbw (some b))
       have HAJ:=Lib.hid (HA.out.below hbw hbl)
       clear hS hR hSS HS'
       have hbj':b < wj.heap.size:=by have:=hbw.size;omega
       go_wp2
       go_loopw [144] (fun i wr => ∃ n:Nat,n ≤ 8 ∧ i = .int .i64 n ∧ Arr wr b 75 (HS.c { h with st:=partW h.st R n }) ∧ Arr wr wi.heap.size 8 (wordsV R) ∧ w.grownBy wr (some b)) (fun i _ => (8 - intOf i).toNat)
       case atStart => exact ⟨0,by omega,rfl,by rw [partW_zero];exact HAJ.out,HRS.out,HG.out⟩
       case round =>
        obtain ⟨wk,rfl⟩:∃ wk:World,wk = wr:=⟨_,rfl⟩
        obtain ⟨n,hn,rfl,hAk,hRk,hgk⟩:=hrel
        have hbk:b < wk.heap.size:=hAk.lt (by omega)
        have hik:wi.heap.size < wk.heap.size:=hRk.lt (by omega)
        have hbi':b < wi.heap.size:=by have:=hbi.size;omega
        by_cases hnl:n < 8
        ·have c1:=hAk.cell (1 + n) (by omega)
         have f1:=hAk.free (1 + n) (by omega)
         rw [HS.c_st _ _ (by omega)] at c1
         have e1:partW h.st R n n = h.st n:=by unfold partW;rw [if_neg (by omega)]
         dsimp only at c1
         rw [e1] at c1
         have c2:=hRk.cell n (by omega)
         unfold wordsV at c2
         have EA:=e_add
         have n0:(0:Int) ≤ n:=by omega
         have n1:(n:Int) < 8:=by omega
         have hd3:decide ((n:Int) < 8) = true:=decide_eq_true (by omega)
         have HAK:=Lib.hid hAk
         have HRK:=Lib.hid hRk
         have HGK:=Lib.hid hgk
         clear hAk hRk hgk e1
         go_wp2
         refine wp_region_bt 13 (by kernel_rfl) (by kernel_rfl) ?_
         simp only [List.take_succ_cons,List.take_zero,List.drop_succ_cons,List.drop_zero]
         have LQ0:=fun x:BW (World.heap wk).size wk => below_load c1 x.hb (by omega)
         have LQ1:=fun x:BW (World.heap wk).size wk => below_load c2 x.hb (by omega)
         repeat (go_big_quiet_step (fail))
         refine wpQuiet_nil ?_
         intro wq hbq
         clear LQ0 LQ1
         have c1q:=below_load c1 hbq hbk
         have f1q:wq.frozen? ⟨b,1 + n,none⟩ = false:=by rw [hbq.frozen (p:=⟨b,1 + n,none⟩) hbk];exact f1
         clear c1 f1 c2
         go_wp2
         go_roundw
         case rel =>
          have h1:=(HAK.out.below hbq hbk).set (1 + n) (by omega) (.int .u32 (wn (h.st n + R n)))
          rw [HS.upd_st _ _ (by omega)] at h1
          dsimp only at h1
          rw [partW_next] at h1
          refine ⟨n + 1,by omega,by go_num,h1,?_,grown_set (grown_below HGK.out hbq) _⟩
          exact (HRK.out.below hbq hik).far (by show b ≠ _;omega) _
         case measure => simp [intOf];omega
        ·obtain rfl:n = 8:=by omega
         have c1:=hAk.cell 73 (by omega)
         have f1:=hAk.free 73 (by omega)
         have HAK:=Lib.hid hAk
         have HGK:=Lib.hid hgk
         clear hAk hRk hgk
         go_wp2
         go_end0
         refine ⟨rfl,?_,grown_set HGK.out _⟩
         have h1:=HAK.out.set 73 (by omega) (.int .i64 ((0:Nat):Int))
         rw [HS.upd_many] at h1
         refine h1.congr fun k hk => ?_
         unfold HS.c
         dsimp only
         by_cases e0:k = 0
         ·rw [if_pos e0,if_pos e0]
         ·rw [if_neg e0,if_neg e0]
          by_cases e1:k < 9
          ·rw [if_pos e1,if_pos e1]
           unfold partW blockW
           rw [if_pos (by omega),HWW.out,HRR.out]
          ·rw [if_neg e1,if_neg e1]
end Go.Proofs.YtmhjpmenngjmeaaGreatDoor
