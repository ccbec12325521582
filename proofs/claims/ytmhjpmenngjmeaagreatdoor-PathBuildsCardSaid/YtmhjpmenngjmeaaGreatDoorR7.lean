/- YtmhjpmenngjmeaaGreatDoorR7: texts JD, SE of this claim, in one. -/
import Derived.Lib.SlBytesRow
import Derived.Test.YtmhjpmenngjmeaaGreatDoorR5
namespace Go.Proofs.YtmhjpmenngjmeaaGreatDoor
open Go.RowKit
def blocksW (c:ByteArray):Nat → Nat → W32
 | 0 => firstW
 | n + 1 => blockW (blocksW c n) (blk (c.extract (64 * n) (64 * n + 64)))
def shaRst (s:ByteArray):Nat → W32:=blocksW (ofB (lenL s.data.toList)) ((lenL s.data.toList).length / 64)
def shaR (s:ByteArray):List UInt8:=(List.range 32).map (stB (shaRst s))
theorem lenL_len (l:List UInt8):∃ n,(lenL l).length = 64 * n:=by
 have h:(lenL l).length = l.length + 1 + padN ((l.length + 1) % 64) + 8:=by
  unfold lenL be64;simp;omega
 refine ⟨(lenL l).length / 64,?_⟩
 rw [h];unfold padN;omega
theorem lenL_lt (l:List UInt8):(lenL l).length ≤ l.length + 73:=by
 have h:(lenL l).length = l.length + 1 + padN ((l.length + 1) % 64) + 8:=by
  unfold lenL be64;simp;omega
 rw [h];unfold padN;omega
def outB (st:Nat → W32) (n k:Nat):Value:=if k < n then .int .u8 ((stB st k).toNat:Int) else .int .u8 0
theorem outB_zero (st:Nat → W32):outB st 0 = fun _ => .int .u8 0:=by funext k;unfold outB;rw [if_neg (by omega)]
theorem outB_next (st:Nat → W32) (n k:Nat):upd (outB st n) n (.int .u8 ((stB st n).toNat:Int)) k = outB st (n + 1) k:=by
 unfold upd outB
 by_cases e:k = n
 ·subst e;rw [if_pos rfl,if_pos (by omega)]
 ·rw [if_neg e]
  by_cases h:k < n
  ·rw [if_pos h,if_pos (by omega)]
  ·rw [if_neg h,if_neg (by omega)]
theorem slice_str (o:ByteArray) (m:Nat) (h:m + 64 ≤ o.size) (w:World):(Instr.slice 9 (.string o) (some (.int .i64 (m:Int))) (some (.int .i64 ((m:Int) + 64))) none).run Tryz.prog w = .ok (.string (o.extract m (m + 64))) w:=by
 have h1:(0:Int) ≤ m:=by omega
 have h2:(m:Int) ≤ m + 64:=by omega
 have h3:(m:Int) + 64 ≤ o.size:=by omega
 have h4:((m:Int) + 64).toNat = m + 64:=by omega
 have h5:(0:Int) ≤ m + 64:=by omega
 simp [Instr.slice,run_underlying Tryz.underlying9,Instr.sliceBounds,Instr.sliceBound,asIntOf,h3,h4,h5]
set_option maxRecDepth 100000 in
set_option maxHeartbeats 800000 in
theorem rsum_any (s:ByteArray) (w:World) (hz:s.size ≤ 1000000) :
  Calls Tryz.prog 45 #[.string s] w fun e w' => e = .returned (idV (shaR s)) ∧ Below w.heap.size w w':=by
 have HL:=Lib.hid (fun w => lengthened_any s w (by omega))
 obtain ⟨N,hN⟩:=lenL_len s.data.toList
 have hN2:=lenL_lt s.data.toList
 rw [hN] at hN2
 have hsz:s.data.toList.length = s.size:=by simp
 rw [hsz] at hN2
 have hos:(ofB (lenL s.data.toList)).size = 64 * N:=by rw [ofB_size,hN]
 have hR:shaRst s = blocksW (ofB (lenL s.data.toList)) N:=by unfold shaRst;rw [hN,Nat.mul_div_cancel_left _ (by omega)]
 have HF:Hid (idV (shaR s) = idV ((List.range 32).map (stB (shaRst s)))):=Lib.hid rfl
 rw [hR] at HF
 generalize ofB (lenL s.data.toList) = o at HL hos HF
 have HOS:=Lib.hid hos
 clear hN hsz hR hos
 have hO0:=Arr.new w 32 (.int .u8 0) 27
 have HO0:=Lib.hid hO0
 clear hO0
 go_enter Tryz.func45,Tryz.ntmps45
 go_wp2_with fail
 refine (HL.out _).mono ?_
 rintro e w1 ⟨rfl,hb1⟩
 have hO1:=HO0.out.below hb1 (by simp)
 have hbw1:Below w.heap.size w w1:=((Below.refl _ _).alloc (Nat.le_refl _) (.cells (Array.replicate 32 (.int .u8 0)) 27)).trans (hb1.mono (by simp))
 have hsl:w.heap.size < w1.heap.size:=hO1.lt (by omega)
 have HO1:=Lib.hid hO1
 have HB1:=Lib.hid hbw1
 clear hO1 hbw1 hb1 HL HO0
 have hS0:Arr (w1.alloc (.cells #[.int .u32 1779033703,.int .u32 3144134277,.int .u32 1013904242,.int .u32 2773480762,.int .u32 1359893119,.int .u32 2600822924,.int .u32 528734635,.int .u32 1541459225] 156)) w1.heap.size 8 (wordsV (blocksW o 0)):=Arr.eight w1 firstW 156
 have HS0:=Lib.hid hS0
 clear hS0
 go_wp2
 go_loopw [5] (fun i wr => ∃ n:Nat,n ≤ N ∧ i = .int .i64 (64 * n:Nat) ∧ Arr wr w1.heap.size 8 (wordsV (blocksW o n)) ∧ Below w1.heap.size w1 wr) (fun i _ => (64 * N - intOf i).toNat)
 case atStart => exact ⟨0,by omega,rfl,HS0.out,(Below.refl _ _).alloc (Nat.le_refl _) _⟩
 case round =>
  obtain ⟨wo,rfl⟩:∃ wo:World,wo = wr:=⟨_,rfl⟩
  obtain ⟨n,hn,rfl,hS,hb⟩:=hrel
  clear HS0
  generalize hm:64 * n = m
  by_cases hlt:n < N
  ·have c0:=hS.cell 0 (by omega)
   have c1:=hS.cell 1 (by omega)
   have c2:=hS.cell 2 (by omega)
   have c3:=hS.cell 3 (by omega)
   have c4:=hS.cell 4 (by omega)
   have c5:=hS.cell 5 (by omega)
   have c6:=hS.cell 6 (by omega)
   have c7:=hS.cell 7 (by omega)
   unfold wordsV at c0 c1 c2 c3 c4 c5 c6 c7
   have hso:w1.heap.size < wo.heap.size:=hS.lt (by omega)
   have m0:(0:Int) ≤ m:=by omega
   have m1:(m:Int) + 64 ≤ o.size:=by have:=HOS.out;omega
   have m2:(m:Int) < o.size:=by have:=HOS.out;omega
   have m3:(o.size:Int) ≤ 1000100:=by have:=HOS.out;omega
   have hd:decide ((m:Int) < o.size) = true:=decide_eq_true m2
   have hd2:decide (m < o.size) = true:=decide_eq_true (by omega)
   have hBK:∀ w,Calls Tryz.prog 84 #[stV (blocksW o n),.string (o.extract m (m + 64))] w fun e w' => e = .returned (stV (blockW (blocksW o n) (blk (o.extract m (m + 64))))) ∧ Below w.heap.size w w' :=
    fun w => block_any _ _ w (by rw [ByteArray.size_extract];omega)
   have HBN:Hid (blocksW o (n + 1) = blockW (blocksW o n) (blk (o.extract m (m + 64)))):=by rw [← hm];exact Lib.hid rfl
   generalize blocksW o n = X at hS c0 c1 c2 c3 c4 c5 c6 c7 hBK HBN
   generalize hY:blockW X (blk (o.extract m (m + 64))) = Y at hBK HBN
   have hth:=hS.there
   have HS1:=Lib.hid hS
   have HBB:=Lib.hid hb
   clear hS hb hY
   unfold stV at hBK
   have HSL:=fun w => slice_str o m (by have:=HOS.out;omega) w
   go_wp2
   refine wp_region_bt 7 (by kernel_rfl) (by kernel_rfl) ?_
   simp only [List.take_succ_cons,List.take_zero,List.drop_succ_cons,List.drop_zero]
   have LQ0:=fun x:BW (World.heap wo).size wo => below_load c0 x.hb (by omega)
   have LQ1:=fun x:BW (World.heap wo).size wo => below_load c1 x.hb (by omega)
   have LQ2:=fun x:BW (World.heap wo).size wo => below_load c2 x.hb (by omega)
   have LQ3:=fun x:BW (World.heap wo).size wo => below_load c3 x.hb (by omega)
   have LQ4:=fun x:BW (World.heap wo).size wo => below_load c4 x.hb (by omega)
   have LQ5:=fun x:BW (World.heap wo).size wo => below_load c5 x.hb (by omega)
   have LQ6:=fun x:BW (World.heap wo).size wo => below_load c6 x.hb (by omega)
   have LQ7:=fun x:BW (World.heap wo).size wo => below_load c7 x.hb (by omega)
   repeat (go_big_quiet_step ((go_at_call 84;with_reducible exact calls_bw (hBK _))))
   refine wpQuiet_nil ?_
   intro wq hbq
   clear LQ0 LQ1 LQ2 LQ3 LQ4 LQ5 LQ6 LQ7
   have hSq:=HS1.out.below hbq hso
   have hthq:=hSq.there
   have hsa:=hSq.setAll [.int .u32 (wn (Y 0)),.int .u32 (wn (Y 1)),.int .u32 (wn (Y 2)),.int .u32 (wn (Y 3)),.int .u32 (wn (Y 4)),.int .u32 (wn (Y 5)),.int .u32 (wn (Y 6)),.int .u32 (wn (Y 7))] rfl
   have h8:(Tryz.prog.info? 156).map (·.size) = some 8:=by kernel_rfl
   have hbs:=below_setCells (B:=w1.heap.size) (a:=w1) w1.heap.size (Nat.le_refl _) [.int .u32 (wn (Y 0)),.int .u32 (wn (Y 1)),.int .u32 (wn (Y 2)),.int .u32 (wn (Y 3)),.int .u32 (wn (Y 4)),.int .u32 (wn (Y 5)),.int .u32 (wn (Y 6)),.int .u32 (wn (Y 7))] 0 wq (HBB.out.trans (hbq.mono HBB.out.size))
   have HTH:=Lib.hid hthq
   have HSA:=Lib.hid hsa
   have HBS:=Lib.hid hbs
   clear hSq hthq hsa hbs hth c0 c1 c2 c3 c4 c5 c6 c7 hBK HSL
   refine wpList_store_list rfl 156 _ _ rfl w1.heap.size 0 [.int .u32 (wn (Y 0)),.int .u32 (wn (Y 1)),.int .u32 (wn (Y 2)),.int .u32 (wn (Y 3)),.int .u32 (wn (Y 4)),.int .u32 (wn (Y 5)),.int .u32 (wn (Y 6)),.int .u32 (wn (Y 7))] ?z1 ?z2 8 ?z4 ?z5 ?z6 ?z3 ?_
   case z1 => rfl
   case z2 => rfl
   case z3 => simp [Value.oneCell']
   case z4 => rfl
   case z5 => exact HTH.out
   case z6 => exact h8
   simp only [Act.put]
   go_wp2
   go_roundw
   case rel =>
    refine ⟨n + 1,by omega,by rw [← hm];go_num,HSA.out.congr fun k hk => ?_,HBS.out⟩
    rw [HBN.out]
    unfold wordsV
    obtain h | h | h | h | h | h | h | h:k = 0 ∨ k = 1 ∨ k = 2 ∨ k = 3 ∨ k = 4 ∨ k = 5 ∨ k = 6 ∨ k = 7:=by omega
    all_goals subst h;rfl
   case measure => simp [intOf];omega
  ·obtain rfl:n = N:=by omega
   have hd:decide ((m:Int) < o.size) = false:=decide_eq_false (by have:=HOS.out;omega)
   have hd2:decide (m < o.size) = false:=decide_eq_false (by have:=HOS.out;omega)
   have hso:w1.heap.size < wo.heap.size:=hS.lt (by omega)
   generalize blocksW o n = X at hS HF
   have hX0:Arr (wo.alloc (.cells (Array.replicate 32 (.int .u8 0)) 27)) wo.heap.size 32 (outB X 0):=by rw [outB_zero];exact Arr.new wo 32 _ _
   have hSx:Arr (wo.alloc (.cells (Array.replicate 32 (.int .u8 0)) 27)) w1.heap.size 8 (wordsV X):=hS.alloc (by omega) _
   have HX0:=Lib.hid hX0
   have HSX:=Lib.hid hSx
   have HBB:=Lib.hid hb
   have HMM:=Lib.hid hm
   clear hX0 hSx hS hb
   go_wp2
   go_loopw [7] (fun i wr => ∃ k:Nat,k ≤ 32 ∧ i = .int .i64 k ∧ Arr wr wo.heap.size 32 (outB X k) ∧ Arr wr w1.heap.size 8 (wordsV X) ∧ Below wo.heap.size wo wr) (fun i _ => (32 - intOf i).toNat)
   case atStart => exact ⟨0,by omega,rfl,HX0.out,HSX.out,(Below.refl _ _).alloc (Nat.le_refl _) _⟩
   case round =>
    obtain ⟨wi,rfl⟩:∃ wi:World,wi = wr:=⟨_,rfl⟩
    obtain ⟨k,hk,rfl,hXi,hSi,hbi⟩:=hrel
    by_cases hk32:k < 32
    ·have c1:=hSi.cell (k / 4) (by omega)
     unfold wordsV at c1
     have c2:=hXi.cell k (by omega)
     have f2:=hXi.free k (by omega)
     have e2:outB X k k = .int .u8 0:=by unfold outB;rw [if_neg (by omega)]
     rw [e2] at c2
     obtain ⟨j,hj⟩:∃ j:Nat,(24:Int) - 8 * ((k:Int) % 4) = (j:Int):=⟨((24:Int) - 8 * ((k:Int) % 4)).toNat,by omega⟩
     have hjk:j = 24 - 8 * (k % 4):=by omega
     have HV:Hid (((stB X k).toNat:Int) = wn (X (k / 4)) / 2 ^ j % 256):=by
      unfold Hid stB wn;rw [u8_of,← hjk];push_cast;rfl
     have k0:(0:Int) ≤ k:=by omega
     have k1:(k:Int) < 32:=by omega
     have k2:((k:Int) / 4).toNat = k / 4:=by omega
     have k3:(0:Int) ≤ (k:Int) / 4:=by omega
     have k4:(k:Int) / 4 < 8:=by omega
     have j0:(0:Int) ≤ j:=by omega
     have j1:(j:Int) ≤ 24:=by omega
     have hd3:decide ((k:Int) < 32) = true:=decide_eq_true (by omega)
     have x0:=wn_0 (X (k / 4))
     have HXI:=Lib.hid hXi
     have HSI:=Lib.hid hSi
     have HBI:=Lib.hid hbi
     have hso2:=hbi.size
     clear hXi hSi hbi e2 hjk
     go_wp2
     go_roundw
     case rel =>
      have hx:=HXI.out.set k (by omega) (.int .u8 ((stB X k).toNat:Int))
      rw [HV.out] at hx
      exact ⟨k + 1,by omega,by go_num,hx.congr (fun q _ => by rw [← HV.out];exact outB_next X k q),HSI.out.far (by show wo.heap.size ≠ w1.heap.size;omega) _,HBI.out.setCell (Nat.le_refl _) _⟩
     case measure => simp [intOf];omega
    ·obtain rfl:k = 32:=by omega
     have hr:=hXi.range
     have e8:(List.range 32).map (outB X 32) = ((List.range 32).map (stB X)).map fun b => Value.int .u8 (b.toNat:Int):=by
      rw [List.map_map]
      refine List.map_congr_left fun k hk => ?_
      have:=List.mem_range.1 hk
      show outB X 32 k = _
      unfold outB;rw [if_pos (by omega)];rfl
     rw [e8] at hr
     have hO5:Arr wi w.heap.size 32 (fun _ => .int .u8 0):=(HO1.out.below HBB.out hsl).below hbi (by omega)
     have hlen:(((List.range 32).map (stB X)).map fun b => Value.int .u8 (b.toNat:Int)).length = 32:=by simp
     have hone:∀ v ∈ ((List.range 32).map (stB X)).map (fun b => Value.int .u8 (b.toNat:Int)),v.oneCell' = true:=by
      intro v hv;obtain ⟨x,_,rfl⟩:=List.mem_map.1 hv;rfl
     have hfin:idV (shaR s) = .agg (((List.range 32).map (stB X)).map fun b => Value.int .u8 (b.toNat:Int)).toArray:=by rw [HF.out];rfl
     have HF2:=Lib.hid hfin
     generalize ((List.range 32).map (stB X)).map (fun b => Value.int .u8 (b.toNat:Int)) = us at hr hlen hone HF2
     have h32:(Tryz.prog.info? 27).map (·.size) = some 32:=by kernel_rfl
     have h32u:(Tryz.prog.info? 27).map (·.size) = some us.length:=by rw [hlen];exact h32
     have hth:=hO5.there
     have HFR:=Lib.hid (World.rangeAt_setCells_same wi w.heap.size 0 us (by rw [hlen];exact hth))
     have HTH:=Lib.hid hth
     have HLN:=Lib.hid hlen
     have HON:=Lib.hid hone
     have hb1:=HB1.out
     have hb2:=hb1.trans (HBB.out.mono hb1.size)
     have HBF:=Lib.hid (below_setCells (B:=w.heap.size) (a:=w) w.heap.size (Nat.le_refl _) us 0 wi (hb2.trans (hbi.mono hb2.size)))
     clear hXi hSi hbi e8 hfin hth hlen hone hO5 hb1 hb2
     go_wp2_with (first | (refine wpList_load_mid rfl 27 _ rfl wo.heap.size 0 rfl us _ hr Tryz.underlying27 rfl h32u ?_) | (refine wpList_store_list rfl 27 _ _ rfl w.heap.size 0 us ?y1 ?y2 32 HLN.out ?y4 h32 HON.out ?_))
     try case y1 => rfl
     try case y2 => rfl
     case y4 => exact HTH.out
     simp only [Act.put]
     refine ret_cell rfl w.heap.size 0 rfl us _ HFR.out Tryz.underlying27 rfl h32u rfl ⟨by rw [HF2.out],HBF.out⟩
end Go.Proofs.YtmhjpmenngjmeaaGreatDoor

namespace Go.Proofs.YtmhjpmenngjmeaaGreatDoor
theorem wordTo_congr {r q:Nat → UInt8} (h:∀ k,k < 64 → r k = q k) (i:Nat) (hi:i < 16):∀ j,j ≤ 4 → wordTo r i j = wordTo q i j
 | 0,_ => rfl
 | j + 1,hj => by
  unfold wordTo
  rw [wordTo_congr h i hi j (by omega),h _ (by omega)]
theorem sched_congr {r q:Nat → UInt8} (h:∀ k,k < 64 → r k = q k):∀ n,schedW r n = schedW q n
 | 0 => by
  funext k;unfold schedW initW
  by_cases hk:k < 16
  ·rw [if_pos hk,if_pos hk,wordTo_congr h k hk 4 (by omega)]
  ·rw [if_neg hk,if_neg hk];split <;> rfl
 | n + 1 => by unfold schedW;rw [sched_congr h n]
theorem block_congr (s:Nat → W32) {r q:Nat → UInt8} (h:∀ k,k < 64 → r k = q k):blockW s r = blockW s q:=by
 funext k;unfold blockW;rw [sched_congr h]
theorem feed_part (h:HS) (hm:h.many = 0) (c:List UInt8) (hc:c.length = 64):∀ j,j ≤ 63 →
  (h.feed (c.take j)).many = j ∧ (h.feed (c.take j)).st = h.st ∧ ∀ k,k < j → (h.feed (c.take j)).rest k = c.getD k 0
 | 0,_ => ⟨hm,rfl,fun k hk => by omega⟩
 | j + 1,hj => by
  obtain ⟨h1,h2,h3⟩:=feed_part h hm c hc j (by omega)
  have e:c.take (j + 1) = c.take j ++ [c.getD j 0]:=by
   rw [List.take_succ_eq_append_getElem (by omega)];congr 1;simp [show j < c.length from by omega]
  rw [e,feed_one]
  generalize h.feed (c.take j) = g at h1 h2 h3
  unfold HS.put
  rw [h1,if_neg (by omega)]
  refine ⟨rfl,h2,fun k hk => ?_⟩
  show upd g.rest j _ k = _
  unfold upd
  by_cases ek:k = j
  ·subst ek;rw [if_pos rfl]
  ·rw [if_neg ek];exact h3 k (by omega)
theorem feed_block (h:HS) (hm:h.many = 0) (c:List UInt8) (hc:c.length = 64) :
  (h.feed c).many = 0 ∧ (h.feed c).st = blockW h.st (fun k => c.getD k 0):=by
 obtain ⟨h1,h2,h3⟩:=feed_part h hm c hc 63 (by omega)
 have e:c = c.take 63 ++ [c.getD 63 0]:=by
  have t:=List.take_succ_eq_append_getElem (l:=c) (i:=63) (by omega)
  have t2:c.take (63 + 1) = c:=List.take_of_length_le (by omega)
  have g:c.getD 63 0 = c[63]:=by simp [show 63 < c.length from by omega]
  rw [g];rw [t2] at t;exact t
 have e2:h.feed c = (h.feed (c.take 63)).put (c.getD 63 0):=by rw [← feed_one,← e]
 rw [e2]
 generalize h.feed (c.take 63) = g at h1 h2 h3
 unfold HS.put
 rw [h1,if_pos (by omega)]
 refine ⟨rfl,?_⟩
 show blockW g.st _ = _
 rw [h2]
 refine block_congr _ fun k hk => ?_
 unfold upd
 by_cases ek:k = 63
 ·subst ek;rw [if_pos rfl]
 ·rw [if_neg ek];exact h3 k (by omega)
theorem feed_blocks (h:HS) (hm:h.many = 0) (hs:h.st = firstW) (L:List UInt8) (N:Nat) (hL:L.length = 64 * N):∀ n,n ≤ N →
  (h.feed (L.take (64 * n))).many = 0 ∧ (h.feed (L.take (64 * n))).st = blocksW (ofB L) n
 | 0,_ => ⟨hm,hs⟩
 | n + 1,hn => by
  obtain ⟨h1,h2⟩:=feed_blocks h hm hs L N hL n (by omega)
  have e:L.take (64 * (n + 1)) = L.take (64 * n) ++ (L.drop (64 * n)).take 64:=by
   rw [show 64 * (n + 1) = 64 * n + 64 from by omega,List.take_add]
  rw [e,feed_app]
  obtain ⟨h3,h4⟩:=feed_block (h.feed (L.take (64 * n))) h1 ((L.drop (64 * n)).take 64) (by rw [List.length_take,List.length_drop];omega)
  refine ⟨h3,?_⟩
  rw [h4,h2]
  show _ = blockW (blocksW (ofB L) n) (blk ((ofB L).extract (64 * n) (64 * n + 64)))
  refine block_congr _ fun k hk => ?_
  unfold blk
  rw [Lib.extract_data,ofB_data,show 64 * n + 64 - 64 * n = 64 from by omega]
def HS.noT (h:HS):HS:={ h with taken:=0 }
theorem noT_st (h:HS):h.noT.st = h.st:=rfl
theorem put_noT (h:HS) (x:UInt8):(h.put x).noT = h.noT.put x:=by unfold HS.put HS.noT;dsimp only;split <;> rfl
theorem feed_noT (l:List UInt8):∀ h:HS,(h.feed l).noT = h.noT.feed l:=by
 induction l with
 | nil => intro h;rfl
 | cons x l ih => intro h;show ((h.put x).feed l).noT = (h.noT.put x).feed l;rw [ih,put_noT]
theorem put_begun (h:HS) (x:UInt8):(h.put x).begun = h.begun:=by unfold HS.put;split <;> rfl
theorem feed_begun (l:List UInt8):∀ h:HS,(h.feed l).begun = h.begun:=by
 induction l with
 | nil => intro h;rfl
 | cons x l ih => intro h;show ((h.put x).feed l).begun = _;rw [ih,put_begun]
theorem sha_eq (s:ByteArray):shaP s = shaR s:=by
 obtain ⟨N,hN⟩:=lenL_len s.data.toList
 have hsz:s.data.toList.length = s.size:=by simp
 unfold shaP shaR HS.sum shaRst
 have key:(zeroH.w1 s 1).ended.st = blocksW (ofB (lenL s.data.toList)) ((lenL s.data.toList).length / 64):=by
  have hw:zeroH.w1 s 1 = { zeroH.begin.feed s.data.toList with taken:=(s.size:Int) }:=by unfold HS.w1;rw [if_neg (by omega)]
  have hb:(zeroH.w1 s 1).begin = zeroH.w1 s 1:=by
   unfold HS.begin
   rw [if_pos (by rw [hw];exact (feed_begun s.data.toList zeroH.begin).trans rfl)]
  have hmany:((zeroH.w1 s 1).put 128).many = (s.size + 1) % 64:=by
   rw [put_many_mod _ _ (by rw [hw];exact HS.feed_many _ _ (by show 0 < 64;omega)),hw]
   show ((zeroH.begin.feed s.data.toList).many + 1) % 64 = _
   rw [feed_many_mod _ (by show 0 < 64;omega),hsz]
   show ((0 + s.size) % 64 + 1) % 64 = _
   omega
  have ht:(zeroH.w1 s 1).taken.toNat = s.size:=by rw [hw];exact Int.toNat_natCast _
  have e:(zeroH.w1 s 1).ended.noT = (zeroH.begin.feed (lenL s.data.toList)).noT:=by
   unfold HS.ended
   rw [hb,hmany,ht,feed_noT,feed_noT,put_noT]
   have h1:(zeroH.w1 s 1).noT = (zeroH.begin.feed s.data.toList).noT:=by rw [hw];rfl
   rw [h1,← put_noT,← feed_noT,← feed_noT,← feed_one,← feed_app,← feed_app]
   unfold lenL
   rw [hsz]
   congr 2
   simp
  have e2:=congrArg HS.st e
  rw [noT_st,noT_st] at e2
  rw [e2,hN,Nat.mul_div_cancel_left _ (by omega)]
  have:=(feed_blocks zeroH.begin rfl rfl (lenL s.data.toList) N hN N (Nat.le_refl _)).2
  rwa [List.take_of_length_le (by omega)] at this
 rw [key]
end Go.Proofs.YtmhjpmenngjmeaaGreatDoor
namespace Go.Proofs.YtmhjpmenngjmeaaGreatDoor
theorem rounds_st {s t:Nat → W32} (h:∀ k,k < 8 → s k = t k) (w:Nat → W32):∀ n,∀ k,k < 8 → roundsW w s n k = roundsW w t n k
 | 0 => h
 | n + 1 => fun k hk => by
  have ih:=rounds_st h w n
  show stepW (roundsW w s n) _ _ k = stepW (roundsW w t n) _ _ k
  generalize roundsW w s n = a at ih ⊢
  generalize roundsW w t n = b at ih ⊢
  unfold stepW tW uW
  rw [ih 0 (by omega),ih 1 (by omega),ih 2 (by omega),ih 3 (by omega),ih 4 (by omega),ih 5 (by omega),ih 6 (by omega),ih 7 (by omega)]
theorem block_st {s t:Nat → W32} (h:∀ k,k < 8 → s k = t k) (r:Nat → UInt8) (k:Nat) (hk:k < 8):blockW s r k = blockW t r k:=by
 unfold blockW;rw [h k hk,rounds_st h _ _ k hk]
def fN {α:Type} (n:Nat) (k:Nat → α):α:=match n with
 | 0 => k 0
 | m + 1 => k (m + 1)
theorem fN_eq {α:Type} (n:Nat) (k:Nat → α):fN n k = k n:=by cases n <;> rfl
def fW {α:Type} (x:W32) (k:W32 → α):α:=fN x.toNat fun n => k (BitVec.ofNat 32 n)
theorem fW_eq {α:Type} (x:W32) (k:W32 → α):fW x k = k x:=by unfold fW;rw [fN_eq,BitVec.ofNat_toNat,BitVec.setWidth_eq]
def schedL:Nat → List W32 → List W32
 | 0,l => l
 | n + 1,l => fW (turnW (l.getD 1 0) 17 19 10 + l.getD 6 0 + turnW (l.getD 14 0) 7 18 3 + l.getD 15 0) fun x => schedL n (x :: l)
structure S8 where
 (a b c d e f g h:W32)
def S8.w (s:S8):Nat → W32:=eight s.a s.b s.c s.d s.e s.f s.g s.h
def S8.step (s:S8) (k w:W32):S8 :=
 let t:=s.h + spinW s.e 6 11 25 + (s.e &&& s.f ^^^ ~~~ s.e &&& s.g) + k + w
 ⟨t + (spinW s.a 2 13 22 + (s.a &&& s.b ^^^ s.a &&& s.c ^^^ s.b &&& s.c)),s.a,s.b,s.c,s.d + t,s.e,s.f,s.g⟩
def S8.force {α:Type} (s:S8) (k:S8 → α):α:=fW s.a fun a => fW s.b fun b => fW s.c fun c => fW s.d fun d => fW s.e fun e => fW s.f fun f => fW s.g fun g => fW s.h fun h => k ⟨a,b,c,d,e,f,g,h⟩
theorem S8.force_eq {α:Type} (s:S8) (k:S8 → α):s.force k = k s:=by unfold S8.force;simp only [fW_eq]
def roundsL:List W32 → List W32 → S8 → S8
 | k :: ks,w :: ws,s => (s.step k w).force fun s => roundsL ks ws s
 | _,_,s => s
def S8.add (s t:S8):S8:=⟨s.a + t.a,s.b + t.b,s.c + t.c,s.d + t.d,s.e + t.e,s.f + t.f,s.g + t.g,s.h + t.h⟩
def wordL (b:List UInt8) (i:Nat):W32:=(((bw (b.getD (4 * i) 0)) <<< 8 ||| bw (b.getD (4 * i + 1) 0)) <<< 8 ||| bw (b.getD (4 * i + 2) 0)) <<< 8 ||| bw (b.getD (4 * i + 3) 0)
def firstWords (b:List UInt8):Nat → List W32 → List W32
 | 0,l => l
 | n + 1,l => fW (wordL b (15 - n)) fun x => firstWords b n (x :: l)
def blockL (s:S8) (b:List UInt8):S8:=(s.add (roundsL roundK (schedL 48 (firstWords b 16 [])).reverse s)).force id
theorem step_w (s:S8) (k w:W32):(s.step k w).w = stepW s.w k w:=rfl
theorem roundsW_cons (ws:Nat → W32) (s:Nat → W32):∀ n,n ≤ 64 → ∀ (t:S8),t.w = roundsW ws s (64 - n) → (roundsL (roundK.drop (64 - n)) ((List.range n).map fun i => ws (64 - n + i)) t).w = roundsW ws s 64
 | 0,_,t,ht => by simpa [roundsL] using ht
 | n + 1,hn,t,ht => by
  have hk:roundK.drop (64 - (n + 1)) = rK (64 - (n + 1)) :: roundK.drop (64 - n):=by
   have hl:=roundK_len
   rw [List.drop_eq_getElem_cons (by omega)]
   congr 1
   ·unfold rK;rw [List.getD_eq_getElem?_getD,List.getElem?_eq_getElem (by omega)];rfl
   ·rw [show 64 - (n + 1) + 1 = 64 - n from by omega]
  rw [hk,List.range_succ_eq_map,List.map_cons,List.map_map]
  unfold roundsL
  rw [S8.force_eq]
  have hm:(List.range n).map ((fun i => ws (64 - (n + 1) + i)) ∘ Nat.succ) = (List.range n).map fun i => ws (64 - n + i):=List.map_congr_left fun i _ => by
   show ws (64 - (n + 1) + (i + 1)) = _;congr 1;omega
  rw [hm]
  refine roundsW_cons ws s n (by omega) _ ?_
  rw [step_w,ht,show 64 - n = (64 - (n + 1)) + 1 from by omega];rfl
theorem schedW_low (r:Nat → UInt8):∀ n k,k < 16 + n → ∀ m,n ≤ m → schedW r m k = schedW r n k:=by
 intro n k hk m hm
 induction m with
 | zero =>
  obtain rfl:n = 0:=by omega
  rfl
 | succ m ih =>
  by_cases e:n = m + 1
  ·rw [e]
  ·rw [← ih (by omega)]
   show upd (schedW r m) (16 + m) _ k = _
   unfold upd;rw [if_neg (by omega)]
def revW (f:Nat → W32) (n:Nat):List W32:=((List.range n).map f).reverse
theorem revW_get (f:Nat → W32) (n i:Nat) (h:i < n):(revW f n).getD i 0 = f (n - 1 - i):=by
 unfold revW
 rw [List.getD_eq_getElem?_getD,List.getElem?_reverse (by simpa using h)]
 simp [show n - 1 - i < n from by omega]
theorem revW_succ (f:Nat → W32) (n:Nat):revW f (n + 1) = f n :: revW f n:=by unfold revW;rw [List.range_succ];simp
theorem schedL_eq (r : Nat → UInt8) : ∀ m n, n + m = 48 → schedL m (revW (schedW r 48) (16 + n)) = revW (schedW r 48) 64
  | 0, n, h => by obtain rfl : n = 48 := by omega
                  rfl
  | m + 1, n, h => by
    unfold schedL
    rw [fW_eq, revW_get _ _ _ (by omega), revW_get _ _ _ (by omega), revW_get _ _ _ (by omega), revW_get _ _ _ (by omega)]
    rw [show 16 + n - 1 - 1 = 16 + n - 2 from by omega, show 16 + n - 1 - 6 = 16 + n - 7 from by omega, show 16 + n - 1 - 14 = 16 + n - 15 from by omega, show 16 + n - 1 - 15 = 16 + n - 16 from by omega]
    have e : schedW r 48 (16 + n) = turnW (schedW r 48 (16 + n - 2)) 17 19 10 + schedW r 48 (16 + n - 7) + turnW (schedW r 48 (16 + n - 15)) 7 18 3 + schedW r 48 (16 + n - 16) := by
      rw [schedW_low r (n + 1) (16 + n) (by omega) 48 (by omega), schedW_low r n (16 + n - 2) (by omega) 48 (by omega), schedW_low r n (16 + n - 7) (by omega) 48 (by omega), schedW_low r n (16 + n - 15) (by omega) 48 (by omega), schedW_low r n (16 + n - 16) (by omega) 48 (by omega)]
      show upd (schedW r n) (16 + n) (nextW (schedW r n) (16 + n)) (16 + n) = _
      unfold upd; rw [if_pos rfl]; rfl
    rw [← e, ← revW_succ, show 16 + n + 1 = 16 + (n + 1) from by omega]
    exact schedL_eq r m (n + 1) (by omega)
theorem wordL_eq (b:List UInt8) (i:Nat):wordL b i = wordTo (fun k => b.getD k 0) i 4:=by
 show _ = ((((0:W32) <<< 8 ||| bw (b.getD (4 * i + 0) 0)) <<< 8 ||| bw (b.getD (4 * i + 1) 0)) <<< 8 ||| bw (b.getD (4 * i + 2) 0)) <<< 8 ||| bw (b.getD (4 * i + 3) 0)
 have:(0:W32) <<< 8 ||| bw (b.getD (4 * i + 0) 0) = bw (b.getD (4 * i) 0):=by simp
 rw [this];rfl
theorem firstWords_eq (b:List UInt8):∀ n,n ≤ 16 → firstWords b n (revW (schedW (fun k => b.getD k 0) 48) (16 - n)) = revW (schedW (fun k => b.getD k 0) 48) 16
 | 0,_ => rfl
 | n + 1,h => by
  unfold firstWords
  rw [fW_eq]
  have e:wordL b (15 - n) = schedW (fun k => b.getD k 0) 48 (16 - (n + 1)):=by
   rw [schedW_low _ 0 (16 - (n + 1)) (by omega) 48 (by omega),wordL_eq,show 16 - (n + 1) = 15 - n from by omega]
   show _ = initW _ 16 0 (15 - n)
   unfold initW;rw [if_pos (by omega)]
  rw [e,← revW_succ,show 16 - (n + 1) + 1 = 16 - n from by omega]
  exact firstWords_eq b n (by omega)
theorem blockL_eq (s:S8) (b:List UInt8):(blockL s b).w = blockW s.w fun k => b.getD k 0:=by
 unfold blockL
 rw [S8.force_eq]
 have h1:firstWords b 16 [] = revW (schedW (fun k => b.getD k 0) 48) 16:=firstWords_eq b 16 (Nat.le_refl _)
 have h2:=schedL_eq (fun k => b.getD k 0) 48 0 rfl
 rw [h1,h2]
 have h3:(revW (schedW (fun k => b.getD k 0) 48) 64).reverse = (List.range 64).map fun i => schedW (fun k => b.getD k 0) 48 (64 - 64 + i):=by
  unfold revW;rw [List.reverse_reverse];exact List.map_congr_left fun i _ => by rw [Nat.sub_self,Nat.zero_add]
 rw [h3]
 have h4:=roundsW_cons (schedW (fun k => b.getD k 0) 48) s.w 64 (Nat.le_refl _) s rfl
 rw [Nat.sub_self,List.drop_zero] at h4
 generalize hR:roundsL roundK _ s = t at h4
 funext k
 unfold blockW
 rw [← h4]
 show S8.w ⟨_,_,_,_,_,_,_,_⟩ k = S8.w s k + S8.w t k
 unfold S8.w eight
 repeat' split
 all_goals rfl
def blocksL (l:List UInt8):Nat → S8
 | 0 => ⟨0x6a09e667#32,0xbb67ae85#32,0x3c6ef372#32,0xa54ff53a#32,0x510e527f#32,0x9b05688c#32,0x1f83d9ab#32,0x5be0cd19#32⟩
 | n + 1 => blockL (blocksL l n) ((l.drop (64 * n)).take 64)
theorem blocksL_eq (l:List UInt8):∀ n k,k < 8 → (blocksL l n).w k = blocksW (ofB l) n k
 | 0,k,hk => by
  obtain h | h | h | h | h | h | h | h:k = 0 ∨ k = 1 ∨ k = 2 ∨ k = 3 ∨ k = 4 ∨ k = 5 ∨ k = 6 ∨ k = 7:=by omega
  all_goals subst h;rfl
 | n + 1,k,hk => by
  show (blockL (blocksL l n) ((l.drop (64 * n)).take 64)).w k = blockW (blocksW (ofB l) n) (blk ((ofB l).extract (64 * n) (64 * n + 64))) k
  rw [blockL_eq]
  have e:(fun k => ((l.drop (64 * n)).take 64).getD k 0) = blk ((ofB l).extract (64 * n) (64 * n + 64)):=by
   funext j;unfold blk
   rw [ByteArray.data_extract,Array.toList_extract,List.extract_eq_take_drop]
   simp [ofB]
  rw [e]
  exact block_st (fun k hk => blocksL_eq l n k hk) _ k hk
def shaL (l:List UInt8):List UInt8:=(List.range 32).map (stB (blocksL (lenL l) ((lenL l).length / 64)).w)
theorem shaL_eq (s:ByteArray):shaL s.data.toList = shaR s:=by
 unfold shaL shaR shaRst
 refine List.map_congr_left fun j hj => ?_
 unfold stB
 rw [blocksL_eq _ _ _ (by have:=List.mem_range.1 hj;omega)]
def sa:List UInt8:=99 :: 35 :: (List.replicate 32 0 ++ [0,1,97])
def sb:List UInt8:=99 :: 67 :: (List.replicate 32 0 ++ [1] ++ shaL sa ++ [1,98])
end Go.Proofs.YtmhjpmenngjmeaaGreatDoor
