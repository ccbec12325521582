/- A part of this claim. -/
import Derived.Lib.SlBytesRow
import Derived.Test.YtijhemdnajlfnaaGreatDoorR6
namespace Go.Proofs.YtijhemdnajlfnaaGreatDoor
open Tryz
set_option maxHeartbeats 64000000
set_option maxRecDepth 100000
section
open Go.RowKit
def fA (c:ByteArray):Nat → Nat → W32
 | 0 => iP
 | n + 1 => gu (fA c n) (blk (c.extract (64 * n) (64 * n + 64)))
def uy (s:ByteArray):Nat → W32:=fA (ofB (lenL s.data.toList)) ((lenL s.data.toList).length / 64)
def shaR (s:ByteArray):List UInt8:=(List.range 32).map (stB (uy s))
theorem CY (l:List UInt8):∃ n,(lenL l).length = 64 * n:=by
 have h:(lenL l).length = l.length + 1 + padN ((l.length + 1) % 64) + 8:=by
  unfold lenL be64;simp;omega
 refine ⟨(lenL l).length / 64,?_⟩
 rw [h];unfold padN;omega
theorem NM (l:List UInt8):(lenL l).length ≤ l.length + 73:=by
 have h:(lenL l).length = l.length + 1 + padN ((l.length + 1) % 64) + 8:=by
  unfold lenL be64;simp;omega
 rw [h];unfold padN;omega
def outB (st:Nat → W32) (n k:Nat):Value:=if k < n then .int .u8 ((stB st k).toNat:Int) else .int .u8 0
theorem Jr (st:Nat → W32):outB st 0 = fun _ => .int .u8 0:=by funext k;unfold outB;rw [if_neg (by omega)]
theorem Js (st:Nat → W32) (n k:Nat):upd (outB st n) n (.int .u8 ((stB st n).toNat:Int)) k = outB st (n + 1) k:=by
 unfold upd outB
 by_cases e:k = n
 ·subst e;rw [if_pos rfl,if_pos (by omega)]
 rw [if_neg e]
 by_cases h:k < n
 ·rw [if_pos h,if_pos (by omega)]
 rw [if_neg h,if_neg (by omega)]
theorem Im (o:ByteArray) (m:Nat) (h:m + 64 ≤ o.size) (w:World):(Instr.slice 9 (.string o) (some (.int .i64 (m:Int))) (some (.int .i64 ((m:Int) + 64))) none).run prog w = .ok (.string (o.extract m (m + 64))) w:=by
 have h1:(0:Int) ≤ m:=by omega
 have h2:(m:Int) ≤ m + 64:=by omega
 have h3:(m:Int) + 64 ≤ o.size:=by omega
 have h4:((m:Int) + 64).toNat = m + 64:=by omega
 have h5:(0:Int) ≤ m + 64:=by omega
 simp [Instr.slice,run_underlying underlying9,Instr.sliceBounds,Instr.sliceBound,asIntOf,h3,h4,h5]
theorem KS (s:ByteArray) (w:World) (hz:s.size ≤ 1000000) :
  Calls prog 67 #[.string s] w fun e w' => e = .returned (idV (shaR s)) ∧ Below w.heap.size w w':=by
 have HL:=ah (fun w => vI s w (by omega))
 obtain ⟨N,hN⟩:=CY s.data.toList
 have hN2:=NM s.data.toList
 rw [hN] at hN2
 have hsz:s.data.toList.length = s.size:=by simp
 rw [hsz] at hN2
 have hos:(ofB (lenL s.data.toList)).size = 64 * N:=by rw [aM,hN]
 have hR:uy s = fA (ofB (lenL s.data.toList)) N:=by unfold uy;rw [hN,Nat.mul_div_cancel_left _ (by omega)]
 have HF:Hid (idV (shaR s) = idV ((List.range 32).map (stB (uy s)))):=ah rfl
 rw [hR] at HF
 generalize ofB (lenL s.data.toList) = o at HL hos HF
 have HOS:=ah hos
 clear hN hsz hR hos
 have hO0:=Arr.new w 32 (.int .u8 0) 24
 have HO0:=ah hO0
 clear hO0
 go_enter func67,ntmps67
 go_wp2_with fail
 refine (HL.out _).mono ?_
 rintro e w1 ⟨rfl,hb1⟩
 have hO1:=HO0.out.below hb1 (by simp)
 have hbw1:Below w.heap.size w w1:=((Below.refl _ _).alloc (Nat.le_refl _) (.cells (Array.replicate 32 (.int .u8 0)) 24)).trans (hb1.mono (by simp))
 have hsl:w.heap.size < w1.heap.size:=hO1.lt (by omega)
 have HO1:=ah hO1
 have HB1:=ah hbw1
 clear hO1 hbw1 hb1 HL HO0
 have hS0:Arr (w1.alloc (.cells #[.int .u32 1779033703,.int .u32 3144134277,.int .u32 1013904242,.int .u32 2773480762,.int .u32 1359893119,.int .u32 2600822924,.int .u32 528734635,.int .u32 1541459225] 238)) w1.heap.size 8 (aY (fA o 0)):=Arr.eight w1 iP 238
 have HS0:=ah hS0
 clear hS0
 go_wp2
 go_loopw [5] (fun i wr => ∃ n:Nat,n ≤ N ∧ i = .int .i64 (64 * n:Nat) ∧ Arr wr w1.heap.size 8 (aY (fA o n)) ∧ Below w1.heap.size w1 wr) (fun i _ => (64 * N - intOf i).toNat)
 case atStart => exact ⟨0,by omega,rfl,HS0.out,bal⟩
 obtain ⟨wo,rfl⟩:∃ wo:World,wo = wr:=⟨_,rfl⟩
 obtain ⟨n,hn,rfl,hS,hb⟩:=hrel
 clear HS0
 generalize hm:64 * n = m
 by_cases hlt:n < N
 ·have c0:=hS.cell 0 (by omega)
  have c1:=hS.cell 1 (by omega)
  have c2:=hS.cell 2 (by omega)
  have c3:=hS.cell 3 (by omega)
  have c4:=hS.cell 4 (by omega)
  have c5:=hS.cell 5 (by omega)
  have c6:=hS.cell 6 (by omega)
  have c7:=hS.cell 7 (by omega)
  unfold aY at c0 c1 c2 c3 c4 c5 c6 c7
  have hso:w1.heap.size < wo.heap.size:=hS.lt (by omega)
  have m0:(0:Int) ≤ m:=by omega
  have m1:(m:Int) + 64 ≤ o.size:=by have:=HOS.out;omega
  have m2:(m:Int) < o.size:=by have:=HOS.out;omega
  have m3:(o.size:Int) ≤ 1000100:=by have:=HOS.out;omega
  have hd:decide ((m:Int) < o.size) = true:=decide_eq_true m2
  have hd2:decide (m < o.size) = true:=decide_eq_true (by omega)
  have hBK:∀ w,Calls prog 132 #[stV (fA o n),.string (o.extract m (m + 64))] w fun e w' => e = .returned (stV (gu (fA o n) (blk (o.extract m (m + 64))))) ∧ Below w.heap.size w w' :=
   fun w => Kj _ _ w (by rw [ByteArray.size_extract];omega)
  have HBN:Hid (fA o (n + 1) = gu (fA o n) (blk (o.extract m (m + 64)))):=by rw [← hm];exact ah rfl
  generalize fA o n = X at hS c0 c1 c2 c3 c4 c5 c6 c7 hBK HBN
  generalize hY:gu X (blk (o.extract m (m + 64))) = Y at hBK HBN
  have hth:=hS.there
  have HS1:=ah hS
  have HBB:=ah hb
  clear hS hb hY
  unfold stV at hBK
  have HSL:=fun w => Im o m (by have:=HOS.out;omega) w
  go_wp2
  refine dL 7 (by kernel_rfl) (by kernel_rfl) ?_
  simp only [List.take_succ_cons,List.take_zero,List.drop_succ_cons,List.drop_zero]
  have LQ0:=blq c0
  have LQ1:=blq c1
  have LQ2:=blq c2
  have LQ3:=blq c3
  have LQ4:=blq c4
  have LQ5:=blq c5
  have LQ6:=blq c6
  have LQ7:=blq c7
  repeat (go_big_quiet_step ((go_at_call 132;with_reducible exact aU (hBK _))))
  refine wpQuiet_nil ?_
  intro wq hbq
  clear LQ0 LQ1 LQ2 LQ3 LQ4 LQ5 LQ6 LQ7
  have hSq:=HS1.out.below hbq hso
  have hthq:=hSq.there
  have hsa:=hSq.Ag [.int .u32 (wn (Y 0)),.int .u32 (wn (Y 1)),.int .u32 (wn (Y 2)),.int .u32 (wn (Y 3)),.int .u32 (wn (Y 4)),.int .u32 (wn (Y 5)),.int .u32 (wn (Y 6)),.int .u32 (wn (Y 7))] rfl
  have h8:(prog.info? 238).map (·.size) = some 8:=by kernel_rfl
  have hbs:=below_setCells (B:=w1.heap.size) (a:=w1) w1.heap.size (Nat.le_refl _) [.int .u32 (wn (Y 0)),.int .u32 (wn (Y 1)),.int .u32 (wn (Y 2)),.int .u32 (wn (Y 3)),.int .u32 (wn (Y 4)),.int .u32 (wn (Y 5)),.int .u32 (wn (Y 6)),.int .u32 (wn (Y 7))] 0 wq (HBB.out.trans (hbq.mono HBB.out.size))
  have HTH:=ah hthq
  have HSA:=ah hsa
  have HBS:=ah hbs
  clear hSq hthq hsa hbs hth c0 c1 c2 c3 c4 c5 c6 c7 hBK HSL
  refine aj rfl 238 _ _ rfl w1.heap.size 0 [.int .u32 (wn (Y 0)),.int .u32 (wn (Y 1)),.int .u32 (wn (Y 2)),.int .u32 (wn (Y 3)),.int .u32 (wn (Y 4)),.int .u32 (wn (Y 5)),.int .u32 (wn (Y 6)),.int .u32 (wn (Y 7))] ?z1 ?z2 8 ?z4 ?z5 ?z6 ?z3 ?_
  case z1 => rfl
  case z2 => rfl
  case z3 => simp [Value.oneCell']
  case z4 => rfl
  case z5 => exact HTH.out
  case z6 => exact h8
  simp only [Act.put]
  go_wp2
  go_roundw
  case rel =>
   refine ⟨n + 1,by omega,by rw [← hm];go_num,HSA.out.congr fun k hk => ?_,HBS.out⟩
   rw [HBN.out]
   unfold aY
   obtain h | h | h | h | h | h | h | h:k = 0 ∨ k = 1 ∨ k = 2 ∨ k = 3 ∨ k = 4 ∨ k = 5 ∨ k = 6 ∨ k = 7:=by omega
   all_goals subst h;rfl
  case measure => simp [intOf];omega
 obtain rfl:n = N:=by omega
 have hd:decide ((m:Int) < o.size) = false:=decide_eq_false (by have:=HOS.out;omega)
 have hd2:decide (m < o.size) = false:=decide_eq_false (by have:=HOS.out;omega)
 have hso:w1.heap.size < wo.heap.size:=hS.lt (by omega)
 generalize fA o n = X at hS HF
 have hX0:Arr (wo.alloc (.cells (Array.replicate 32 (.int .u8 0)) 24)) wo.heap.size 32 (outB X 0):=by rw [Jr];exact Arr.new wo 32 _ _
 have hSx:Arr (wo.alloc (.cells (Array.replicate 32 (.int .u8 0)) 24)) w1.heap.size 8 (aY X):=hS.alloc (by omega) _
 have HX0:=ah hX0
 have HSX:=ah hSx
 have HBB:=ah hb
 have HMM:=ah hm
 clear hX0 hSx hS hb
 go_wp2
 go_loopw [7] (fun i wr => ∃ k:Nat,k ≤ 32 ∧ i = .int .i64 k ∧ Arr wr wo.heap.size 32 (outB X k) ∧ Arr wr w1.heap.size 8 (aY X) ∧ Below wo.heap.size wo wr) (fun i _ => (32 - intOf i).toNat)
 case atStart => exact ⟨0,by omega,rfl,HX0.out,HSX.out,bal⟩
 obtain ⟨wi,rfl⟩:∃ wi:World,wi = wr:=⟨_,rfl⟩
 obtain ⟨k,hk,rfl,hXi,hSi,hbi⟩:=hrel
 by_cases hk32:k < 32
 ·have c1:=hSi.cell (k / 4) (by omega)
  unfold aY at c1
  have c2:=hXi.cell k (by omega)
  have f2:=hXi.free k (by omega)
  have e2:outB X k k = .int .u8 0:=by unfold outB;rw [if_neg (by omega)]
  rw [e2] at c2
  obtain ⟨j,hj⟩:∃ j:Nat,(24:Int) - 8 * ((k:Int) % 4) = (j:Int):=⟨((24:Int) - 8 * ((k:Int) % 4)).toNat,by omega⟩
  have hjk:j = 24 - 8 * (k % 4):=by omega
  have HV:Hid (((stB X k).toNat:Int) = wn (X (k / 4)) / 2 ^ j % 256):=by
   unfold Hid stB wn;rw [Gg,← hjk];push_cast;rfl
  have k0:(0:Int) ≤ k:=by omega
  have k1:(k:Int) < 32:=by omega
  have k2:((k:Int) / 4).toNat = k / 4:=by omega
  have k3:(0:Int) ≤ (k:Int) / 4:=by omega
  have k4:(k:Int) / 4 < 8:=by omega
  have j0:(0:Int) ≤ j:=by omega
  have j1:(j:Int) ≤ 24:=by omega
  have hd3:decide ((k:Int) < 32) = true:=decide_eq_true (by omega)
  have x0:=wn_0 (X (k / 4))
  have HXI:=ah hXi
  have HSI:=ah hSi
  have HBI:=ah hbi
  have hso2:=hbi.size
  clear hXi hSi hbi e2 hjk
  go_wp2
  go_roundw
  case rel =>
   have hx:=HXI.out.set k (by omega) (.int .u8 ((stB X k).toNat:Int))
   rw [HV.out] at hx
   exact ⟨k + 1,by omega,by go_num,hx.congr (fun q _ => by rw [← HV.out];exact Js X k q),HSI.out.far (by show wo.heap.size ≠ w1.heap.size;omega) _,HBI.out.setCell (Nat.le_refl _) _⟩
  case measure => simp [intOf];omega
 obtain rfl:k = 32:=by omega
 have hr:=hXi.range
 have e8:(List.range 32).map (outB X 32) = ((List.range 32).map (stB X)).map fun b => Value.int .u8 (b.toNat:Int):=by
  rw [List.map_map]
  refine List.map_congr_left fun k hk => ?_
  have:=List.mem_range.1 hk
  show outB X 32 k = _
  unfold outB;rw [if_pos (by omega)];rfl
 rw [e8] at hr
 have hO5:Arr wi w.heap.size 32 (fun _ => .int .u8 0):=(HO1.out.below HBB.out hsl).below hbi (by omega)
 have hlen:(((List.range 32).map (stB X)).map fun b => Value.int .u8 (b.toNat:Int)).length = 32:=by simp
 have hone:∀ v ∈ ((List.range 32).map (stB X)).map (fun b => Value.int .u8 (b.toNat:Int)),v.oneCell' = true:=by
  intro v hv;obtain ⟨x,_,rfl⟩:=List.mem_map.1 hv;rfl
 have hfin:idV (shaR s) = .agg (((List.range 32).map (stB X)).map fun b => Value.int .u8 (b.toNat:Int)).toArray:=by rw [HF.out];rfl
 have HF2:=ah hfin
 generalize ((List.range 32).map (stB X)).map (fun b => Value.int .u8 (b.toNat:Int)) = us at hr hlen hone HF2
 have h32:(prog.info? 24).map (·.size) = some 32:=by kernel_rfl
 have h32u:(prog.info? 24).map (·.size) = some us.length:=by rw [hlen];exact h32
 have hth:=hO5.there
 have HFR:=ah (World.rangeAt_setCells_same wi w.heap.size 0 us (by rw [hlen];exact hth))
 have HTH:=ah hth
 have HLN:=ah hlen
 have HON:=ah hone
 have hb1:=HB1.out
 have hb2:=hb1.trans (HBB.out.mono hb1.size)
 have HBF:=ah (below_setCells (B:=w.heap.size) (a:=w) w.heap.size (Nat.le_refl _) us 0 wi (hb2.trans (hbi.mono hb2.size)))
 clear hXi hSi hbi e8 hfin hth hlen hone hO5 hb1 hb2
 go_wp2_with (first | (refine wpList_load_mid rfl 24 _ rfl wo.heap.size 0 rfl us _ hr underlying24 rfl h32u ?_) | (refine aj rfl 24 _ _ rfl w.heap.size 0 us ?y1 ?y2 32 HLN.out ?y4 h32 HON.out ?_))
 try case y1 => rfl
 try case y2 => rfl
 case y4 => exact HTH.out
 simp only [Act.put]
 refine gU rfl w.heap.size 0 rfl us _ HFR.out underlying24 rfl h32u rfl ⟨by rw [HF2.out],HBF.out⟩
end
section
theorem oV {r q:Nat → UInt8} (h:∀ k,k < 64 → r k = q k) (i:Nat) (hi:i < 16):∀ j,j ≤ 4 → d9 r i j = d9 q i j
 | 0,_ => rfl
 | j + 1,hj => by
  unfold d9
  rw [oV h i hi j (by omega),h _ (by omega)]
theorem rM {r q:Nat → UInt8} (h:∀ k,k < 64 → r k = q k):∀ n,bH r n = bH q n
 | 0 => by
  funext k;unfold bH iw
  by_cases hk:k < 16
  ·rw [if_pos hk,if_pos hk,oV h k hk 4 (by omega)]
  rw [if_neg hk,if_neg hk];split <;> rfl
 | n + 1 => by unfold bH;rw [rM h n]
theorem sG (s:Nat → W32) {r q:Nat → UInt8} (h:∀ k,k < 64 → r k = q k):gu s r = gu s q:=by
 funext k;unfold gu;rw [rM h]
theorem zC (h:HS) (hm:h.many = 0) (c:List UInt8) (hc:c.length = 64):∀ j,j ≤ 63 →
  (h.feed (c.take j)).many = j ∧ (h.feed (c.take j)).st = h.st ∧ ∀ k,k < j → (h.feed (c.take j)).rest k = c.getD k 0
 | 0,_ => ⟨hm,rfl,fun k hk => by omega⟩
 | j + 1,hj => by
  obtain ⟨h1,h2,h3⟩:=zC h hm c hc j (by omega)
  have e:c.take (j + 1) = c.take j ++ [c.getD j 0]:=by
   rw [List.take_succ_eq_append_getElem (by omega)];congr 1;simp [show j < c.length from by omega]
  rw [e,mQ]
  generalize h.feed (c.take j) = g at h1 h2 h3
  unfold HS.put
  rw [h1,if_neg (by omega)]
  refine ⟨rfl,h2,fun k hk => ?_⟩
  show upd g.rest j _ k = _
  unfold upd
  by_cases ek:k = j
  ·subst ek;rw [if_pos rfl]
  rw [if_neg ek];exact h3 k (by omega)
theorem FZ (h:HS) (hm:h.many = 0) (c:List UInt8) (hc:c.length = 64) :
  (h.feed c).many = 0 ∧ (h.feed c).st = gu h.st (fun k => c.getD k 0):=by
 obtain ⟨h1,h2,h3⟩:=zC h hm c hc 63 (by omega)
 have e:c = c.take 63 ++ [c.getD 63 0]:=by
  have t:=List.take_succ_eq_append_getElem (l:=c) (i:=63) (by omega)
  have t2:c.take (63 + 1) = c:=List.take_of_length_le (by omega)
  have g:c.getD 63 0 = c[63]:=by simp [show 63 < c.length from by omega]
  rw [g];rw [t2] at t;exact t
 have e2:h.feed c = (h.feed (c.take 63)).put (c.getD 63 0):=by rw [← mQ,← e]
 rw [e2]
 generalize h.feed (c.take 63) = g at h1 h2 h3
 unfold HS.put
 rw [h1,if_pos (by omega)]
 refine ⟨rfl,?_⟩
 show gu g.st _ = _
 rw [h2]
 refine sG _ fun k hk => ?_
 unfold upd
 by_cases ek:k = 63
 ·subst ek;rw [if_pos rfl]
 rw [if_neg ek];exact h3 k (by omega)
theorem su (h:HS) (hm:h.many = 0) (hs:h.st = iP) (L:List UInt8) (N:Nat) (hL:L.length = 64 * N):∀ n,n ≤ N →
  (h.feed (L.take (64 * n))).many = 0 ∧ (h.feed (L.take (64 * n))).st = fA (ofB L) n
 | 0,_ => ⟨hm,hs⟩
 | n + 1,hn => by
  obtain ⟨h1,h2⟩:=su h hm hs L N hL n (by omega)
  have e:L.take (64 * (n + 1)) = L.take (64 * n) ++ (L.drop (64 * n)).take 64:=by
   rw [show 64 * (n + 1) = 64 * n + 64 from by omega,List.take_add]
  rw [e,qj]
  obtain ⟨h3,h4⟩:=FZ (h.feed (L.take (64 * n))) h1 ((L.drop (64 * n)).take 64) (by rw [List.length_take,List.length_drop];omega)
  refine ⟨h3,?_⟩
  rw [h4,h2]
  show _ = gu (fA (ofB L) n) (blk ((ofB L).extract (64 * n) (64 * n + 64)))
  refine sG _ fun k hk => ?_
  unfold blk
  rw [Lib.extract_data,aW,show 64 * n + 64 - 64 * n = 64 from by omega]
def HS.noT (h:HS):HS:={ h with taken:=0 }
theorem LD (h:HS):h.noT.st = h.st:=rfl
theorem Aq (h:HS) (x:UInt8):(h.put x).noT = h.noT.put x:=by unfold HS.put HS.noT;dsimp only;split <;> rfl
theorem qh (l:List UInt8):∀ h:HS,(h.feed l).noT = h.noT.feed l:=by
 induction l with
 | nil => intro h;rfl
 | cons x l ih => intro h;show ((h.put x).feed l).noT = (h.noT.put x).feed l;rw [ih,Aq]
theorem I5 (h:HS) (x:UInt8):(h.put x).begun = h.begun:=by unfold HS.put;split <;> rfl
theorem F3 (l:List UInt8):∀ h:HS,(h.feed l).begun = h.begun:=by
 induction l with
 | nil => intro h;rfl
 | cons x l ih => intro h;show ((h.put x).feed l).begun = _;rw [ih,I5]
theorem OJ (s:ByteArray):shaP s = shaR s:=by
 obtain ⟨N,hN⟩:=CY s.data.toList
 have hsz:s.data.toList.length = s.size:=by simp
 unfold shaP shaR HS.sum uy
 have key:(dF.w1 s 1).ended.st = fA (ofB (lenL s.data.toList)) ((lenL s.data.toList).length / 64):=by
  have hw:dF.w1 s 1 = { dF.begin.feed s.data.toList with taken:=(s.size:Int) }:=by unfold HS.w1;rw [if_neg (by omega)]
  have hb:(dF.w1 s 1).begin = dF.w1 s 1:=by
   unfold HS.begin
   rw [if_pos (by rw [hw];exact (F3 s.data.toList dF.begin).trans rfl)]
  have hmany:((dF.w1 s 1).put 128).many = (s.size + 1) % 64:=by
   rw [kY _ _ (by rw [hw];exact HS.nI _ _ (by show 0 < 64;omega)),hw]
   show ((dF.begin.feed s.data.toList).many + 1) % 64 = _
   rw [nZ _ (by show 0 < 64;omega),hsz]
   show ((0 + s.size) % 64 + 1) % 64 = _
   omega
  have ht:(dF.w1 s 1).taken.toNat = s.size:=by rw [hw];exact Int.toNat_natCast _
  have e:(dF.w1 s 1).ended.noT = (dF.begin.feed (lenL s.data.toList)).noT:=by
   unfold HS.ended
   rw [hb,hmany,ht,qh,qh,Aq]
   have h1:(dF.w1 s 1).noT = (dF.begin.feed s.data.toList).noT:=by rw [hw];rfl
   rw [h1,← Aq,← qh,← qh,← mQ,← qj,← qj]
   unfold lenL
   rw [hsz]
   congr 2
   simp
  have e2:=congrArg HS.st e
  rw [LD,LD] at e2
  rw [e2,hN,Nat.mul_div_cancel_left _ (by omega)]
  have:=(su dF.begin rfl rfl (lenL s.data.toList) N hN N (Nat.le_refl _)).2
  rwa [List.take_of_length_le (by omega)] at this
 rw [key]
def fN {α:Type} (n:Nat) (k:Nat → α):α:=match n with
 | 0 => k 0
 | m + 1 => k (m + 1)
def fW {α:Type} (x:W32) (k:W32 → α):α:=fN x.toNat fun n => k (BitVec.ofNat 32 n)
def KQ:Nat → List W32 → List W32
 | 0,l => l
 | n + 1,l => fW (kG (l.getD 1 0) 17 19 10 + l.getD 6 0 + kG (l.getD 14 0) 7 18 3 + l.getD 15 0) fun x => KQ n (x :: l)
structure S8 where
 (a b c d e f g h:W32)
def S8.w (s:S8):Nat → W32:=eight s.a s.b s.c s.d s.e s.f s.g s.h
def S8.step (s:S8) (k w:W32):S8 :=
 let t:=s.h + mg s.e 6 11 25 + (s.e &&& s.f ^^^ ~~~ s.e &&& s.g) + k + w
 ⟨t + (mg s.a 2 13 22 + (s.a &&& s.b ^^^ s.a &&& s.c ^^^ s.b &&& s.c)),s.a,s.b,s.c,s.d + t,s.e,s.f,s.g⟩
def S8.force {α:Type} (s:S8) (k:S8 → α):α:=fW s.a fun a => fW s.b fun b => fW s.c fun c => fW s.d fun d => fW s.e fun e => fW s.f fun f => fW s.g fun g => fW s.h fun h => k ⟨a,b,c,d,e,f,g,h⟩
def Gp:List W32 → List W32 → S8 → S8
 | k :: ks,w :: ws,s => (s.step k w).force fun s => Gp ks ws s
 | _,_,s => s
def S8.add (s t:S8):S8:=⟨s.a + t.a,s.b + t.b,s.c + t.c,s.d + t.d,s.e + t.e,s.f + t.f,s.g + t.g,s.h + t.h⟩
def O6 (b:List UInt8) (i:Nat):W32:=(((bw (b.getD (4 * i) 0)) <<< 8 ||| bw (b.getD (4 * i + 1) 0)) <<< 8 ||| bw (b.getD (4 * i + 2) 0)) <<< 8 ||| bw (b.getD (4 * i + 3) 0)
def wC (b:List UInt8):Nat → List W32 → List W32
 | 0,l => l
 | n + 1,l => fW (O6 b (15 - n)) fun x => wC b n (x :: l)
def O4 (s:S8) (b:List UInt8):S8:=(s.add (Gp mD (KQ 48 (wC b 16 [])).reverse s)).force id
def He (l:List UInt8):Nat → S8
 | 0 => ⟨0x6a09e667#32,0xbb67ae85#32,0x3c6ef372#32,0xa54ff53a#32,0x510e527f#32,0x9b05688c#32,0x1f83d9ab#32,0x5be0cd19#32⟩
 | n + 1 => O4 (He l n) ((l.drop (64 * n)).take 64)
def shaL (l:List UInt8):List UInt8:=(List.range 32).map (stB (He (lenL l) ((lenL l).length / 64)).w)
def sa:List UInt8:=99 :: 35 :: (List.replicate 32 0 ++ [0,1,97])
def sb:List UInt8:=99 :: 67 :: (List.replicate 32 0 ++ [1] ++ shaL sa ++ [1,98])
end
end Go.Proofs.YtijhemdnajlfnaaGreatDoor
