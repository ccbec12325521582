/- A part of this claim. -/
import Derived.Deep.Cut
import Derived.Test.YtijhemdnajlfnaaGreatDoorR14
import Derived.Test.YtijhemdnajlfnaaGreatDoorR18
namespace Go.Proofs.YtijhemdnajlfnaaGreatDoor
open Tryz
set_option maxHeartbeats 64000000
set_option maxRecDepth 100000
section
open Go.RowKit
def hexS:ByteArray:=⟨#[48,49,50,51,52,53,54,55,56,57,97,98,99,100,101,102]⟩
theorem Mr:∀ i:Fin 16,hexS[i.val]'i.isLt = digB i.val:=by decide +kernel
theorem Dg (i:Nat) (h:i < 16):hexS[i]'h = digB i:=Mr ⟨i,h⟩
theorem Ko:∀ b:Fin 256,bits .and .u8 ((b.val:Nat):Int) 15 = ((b.val % 16:Nat):Int):=by decide +kernel
theorem kQ (x:List UInt8):(hexL x).length = 2 * x.length:=by
 unfold hexL
 induction x with
 | nil => rfl
 | cons a x ih => rw [List.flatMap_cons,List.length_append,ih,List.length_cons];simp;omega
theorem Dj:∀ (x:List UInt8) (k:Nat) (h:k < x.length),(hexL x)[2 * k]? = some (digB (x[k].toNat / 16)) ∧ (hexL x)[2 * k + 1]? = some (digB (x[k].toNat % 16))
 | [],k,h => by simp at h
 | a :: x,0,h => ⟨rfl,rfl⟩
 | a :: x,k + 1,h => by
  have ih:=Dj x k (by simpa using h)
  have e:hexL (a :: x) = digB (a.toNat / 16) :: digB (a.toNat % 16) :: hexL x:=rfl
  rw [e,show 2 * (k + 1) = 2 * k + 1 + 1 from by omega,show 2 * k + 1 + 1 + 1 = (2 * k + 1) + 1 + 1 from rfl,List.getElem?_cons_succ,List.getElem?_cons_succ,List.getElem?_cons_succ,List.getElem?_cons_succ]
  simpa using ih
def hexA (x:List UInt8) (k i:Nat):Value:=if i < 2 * k then .int .u8 (((hexL x).getD i 0).toNat:Int) else .int .u8 0
theorem JO (x:List UInt8) (k:Nat) (h:k < x.length):upd (upd (hexA x k) (2 * k) (.int .u8 ((digB (x[k].toNat / 16)).toNat:Int))) (2 * k + 1) (.int .u8 ((digB (x[k].toNat % 16)).toNat:Int)) = hexA x (k + 1):=by
 obtain ⟨h1,h2⟩:=Dj x k h
 funext i
 unfold upd hexA
 by_cases e1:i = 2 * k + 1
 ·rw [if_pos e1,if_pos (by omega),e1,List.getD_eq_getElem?_getD,h2];rfl
 rw [if_neg e1]
 by_cases e2:i = 2 * k
 ·rw [if_pos e2,if_pos (by omega),e2,List.getD_eq_getElem?_getD,h1];rfl
 rw [if_neg e2]
 by_cases e3:i < 2 * k
 ·rw [if_pos e3,if_pos (by omega)]
 rw [if_neg e3,if_neg (by omega)]
theorem NU (x:List UInt8) (hx:x.length = 32) (w:World):Calls prog 61 #[.agg (idC x).toArray] w fun e w' => e = .returned (.string (ofB (hexL x))) ∧ Below w.heap.size w w':=by
 obtain ⟨W,hW⟩:∃ W,w.alloc (.cells (idC x).toArray 24) = W:=⟨_,rfl⟩
 have hbW:Below w.heap.size w W:=by rw [← hW];exact bal
 have hbx:BoxL W w.heap.size 24 (idC x):=by rw [← hW];exact BoxL.new w 24 (idC x)
 have hWs:W.heap.size = w.heap.size + 1:=by rw [← hW];simp
 have HA0:Hid (Arr (W.alloc (.cells (Array.replicate 64 (.int .u8 0)) 224)) W.heap.size 64 (hexA x 0)):=ah ((Arr.new W 64 (.int .u8 0) _).congr fun k hk => by unfold hexA;rw [if_neg (by omega)])
 have HB0:Hid (Below w.heap.size w (W.alloc (.cells (Array.replicate 64 (.int .u8 0)) 224))):=ah (hbW.alloc hbW.size _)
 have HBX:Hid (BoxL (W.alloc (.cells (Array.replicate 64 (.int .u8 0)) 224)) w.heap.size 24 (idC x)):=ah (hbx.below bal)
 have h32x:(prog.info? 24).map (·.size) = some (idC x).length:=by rw [aD,hx];kernel_rfl
 have HW:=ah hW
 have HIX:Hid (∀ (k:Nat) (h:k < 32) (W:World),(Instr.index 24 (.agg (idC x).toArray) (.int .i64 (k:Int))).run prog W = .ok (.int .u8 ((x[k]'(by omega)).toNat:Int)) W):=ah (fun k h W => mq 24 5 32 underlying24 (fun w => by kernel_rfl) (fun w => by kernel_rfl) _ W k h _ (by
  unfold idC
  rw [List.getElem?_map,List.getElem?_eq_getElem (by omega)];rfl))
 clear hW hbW hbx
 generalize idC x = ux at HW HBX h32x HIX
 go_enter func61,ntmps61
 have HXL:=ah (JO x)
 have HWS:=ah hWs
 go_upto_region 2 with fail
 rw [HW.out]
 have hr:=HBX.out.range
 go_wp2_with (refine wpList_load_mid rfl 24 _ rfl w.heap.size 0 rfl ux _ hr underlying24 rfl h32x ?_)
 clear hr
 go_loopw [4,5,7] (fun _ _ i wr => ∃ k:Nat,i = .int .i64 (k:Int) ∧ k ≤ 32 ∧ Hid (Arr wr (w.heap.size + 1) 64 (hexA x k)) ∧ Hid (Below w.heap.size w wr)) (fun _ _ i _ => (32 - intOf i).toNat)
 case atStart => exact ⟨0,rfl,by omega,ah (by rw [← hWs];exact HA0.out),HB0⟩
 obtain ⟨wo,rfl⟩:∃ wo:World,wo = wr:=⟨_,rfl⟩
 obtain ⟨k,rfl,hk,HA,HB⟩:=hrel
 by_cases hlt:k < 32
 ·have d1:decide ((k:Int) < 32) = true:=decide_eq_true (by omega)
  have hix:=HIX.out k hlt
  obtain ⟨b,hb⟩:∃ b,x[k]'(by omega) = b:=⟨_,rfl⟩
  rw [hb] at hix
  have hbl:=b.toNat_lt
  have HN:=ah (HXL.out k (by omega))
  rw [hb] at HN
  have w1:IntKind.i64.wrap (2 * (k:Int)) = 2 * (k:Int):=by rw [IntKind.wrap_i64];omega
  have w2:IntKind.i64.wrap (2 * (k:Int) + 1) = 2 * (k:Int) + 1:=by rw [IntKind.wrap_i64];omega
  have t1:(2 * (k:Int)).toNat = 2 * k:=by omega
  have t2:(2 * (k:Int) + 1).toNat = 2 * k + 1:=by omega
  have l1:2 * (k:Int) < 64:=by omega
  have l2:2 * (k:Int) + 1 < 64:=by omega
  have p1:(0:Int) ≤ 2 * (k:Int):=by omega
  have p2:(0:Int) ≤ 2 * (k:Int) + 1:=by omega
  obtain ⟨q1,hq1⟩:∃ q,b.toNat / 16 = q:=⟨_,rfl⟩
  obtain ⟨q2,hq2⟩:∃ q,b.toNat % 16 = q:=⟨_,rfl⟩
  rw [hq1,hq2] at HN
  have e1:((b.toNat:Nat):Int) / 16 = (q1:Int):=by omega
  have e2:bits .and .u8 ((b.toNat:Nat):Int) 15 = (q2:Int):=by rw [Ko ⟨b.toNat,hbl⟩];simp only [];omega
  have hq1l:q1 < 16:=by omega
  have hq2l:q2 < 16:=by omega
  have hq1z:(q1:Int) < 16:=by omega
  have hq2z:(q2:Int) < 16:=by omega
  obtain ⟨c1,hc1⟩:∃ c,digB q1 = c:=⟨_,rfl⟩
  obtain ⟨c2,hc2⟩:∃ c,digB q2 = c:=⟨_,rfl⟩
  have g1:(({ data:=#[48,49,50,51,52,53,54,55,56,57,97,98,99,100,101,102] }:ByteArray)[q1]'hq1l) = c1:=(Dg q1 hq1l).trans hc1
  have g2:(({ data:=#[48,49,50,51,52,53,54,55,56,57,97,98,99,100,101,102] }:ByteArray)[q2]'hq2l) = c2:=(Dg q2 hq2l).trans hc2
  rw [hc1,hc2] at HN
  clear hc1 hc2 hq1 hq2 hb
  go_upto_region 5 with fail
  have hS:(fun _:World => True) wo.drew:=trivial
  refine wrL 14 (fun _ => True) ?_
  refine WL.tk 0 hS ?_
  refine WL.tk 1 hS ?_
  refine WL.tk 2 hS ?_
  refine WL.tk 3 hS ?_
  refine WL.tk 4 hS ?_
  refine WL.tk 5 hS ?_
  refine WL.tk 6 hS ?_
  refine WL.tk 7 hS ?_
  refine WL.tk 8 hS ?_
  refine WL.tk 9 hS ?_
  refine WL.tk 10 hS ?_
  refine WL.tk 11 hS ?_
  have f1:=HA.out.cell (2 * k) (by omega)
  have f2:=HA.out.free (2 * k) (by omega)
  obtain ⟨W2,hW2⟩:∃ W2,(wo.setCell ⟨w.heap.size + 1,2 * k,none⟩ (.int .u8 (c1.toNat:Int))).drew = W2:=⟨_,rfl⟩
  have HA2:Hid (Arr W2 (w.heap.size + 1) 64 (upd (hexA x k) (2 * k) (.int .u8 (c1.toNat:Int)))):=ah (by rw [← hW2];exact (HA.out.set (2 * k) (by omega) _).drew)
  have HB2:Hid (Below w.heap.size w W2):=ah (by rw [← hW2];exact (below_setCells (B:=w.heap.size) (w.heap.size + 1) (by omega) [.int .u8 (c1.toNat:Int)] (2 * k) _ HB.out).drew)
  have f3:=HA2.out.cell (2 * k + 1) (by omega)
  have f4:=HA2.out.free (2 * k + 1) (by omega)
  have HA3:Hid (Arr (W2.setCell ⟨w.heap.size + 1,2 * k + 1,none⟩ (.int .u8 (c2.toNat:Int))) (w.heap.size + 1) 64 (hexA x (k + 1))):=ah (by rw [← HN.out];exact HA2.out.set (2 * k + 1) (by omega) _)
  have HB3:Hid (Below w.heap.size w (W2.setCell ⟨w.heap.size + 1,2 * k + 1,none⟩ (.int .u8 (c2.toNat:Int)))):=ah (below_setCells (B:=w.heap.size) (w.heap.size + 1) (by omega) [.int .u8 (c2.toNat:Int)] (2 * k + 1) _ HB2.out)
  have HW2:=ah hW2
  clear hW2
  refine WL.on 12 ?_
  go_wp2
  rw [HW2.out]
  refine ⟨trivial,?_⟩
  refine WL.on 13 ?_
  go_wp2
  refine ⟨trivial,?_⟩
  refine WL.la 14 ?_
  go_wp2
  go_roundw
  case rel => exact ⟨k + 1,by go_num,by omega,HA3,HB3⟩
  case measure => simp [intOf];omega
 obtain rfl:k = 32:=by omega
 have d1:decide ((32:Int) < 32) = false:=rfl
 have hcv:(convert 221 9 (.slice (some ⟨w.heap.size + 1,0,none⟩) 64 64)).run prog wo = .ok (.string (ofB (hexL x))) wo:=by
  have hl:(hexL x).length = 64:=by rw [kQ,hx]
  have:=run_convert_bytes_back (P:=prog) wo 221 9 5 ⟨w.heap.size + 1,0,none⟩ 64 (hexL x) underlying221 underlying5 underlying9 (fun j hj => by
   rw [hl] at hj
   rw [Addr.add_mid,Nat.zero_add,HA.out.cell j hj]
   unfold hexA
   rw [if_pos (by omega),List.getD_eq_getElem?_getD,List.getElem?_eq_getElem (by rw [hl];exact hj)];rfl)
  rw [hl] at this
  exact this
 have hsz:(ofB (hexL x)).size = 64:=by rw [aM,kQ,hx]
 go_wp2
 go_ret
 exact ⟨rfl,HB.out⟩
theorem zf (x:List UInt8) (hx:x.length = 32) (w:World):Calls prog 90 #[.agg (idC x).toArray] w fun e w' => e = .returned (.string (ofB (hexL x))) ∧ Below w.heap.size w w':=by
 obtain ⟨W,hW⟩:∃ W,w.alloc (.cells (idC x).toArray 24) = W:=⟨_,rfl⟩
 have hbW:Below w.heap.size w W:=by rw [← hW];exact bal
 have hbx:BoxL W w.heap.size 24 (idC x):=by rw [← hW];exact BoxL.new w 24 (idC x)
 have h32x:(prog.info? 24).map (·.size) = some (idC x).length:=by rw [aD,hx];kernel_rfl
 have HW:=ah hW
 have HBW:=ah hbW
 have HR:=ah hbx.range
 have H32:=ah h32x
 have HH:=ah (NU x hx W)
 clear hW hbW hbx h32x
 generalize hcs:idC x = cs at HW HR H32 HH
 clear hcs
 go_enter func90,ntmps90
 go_upto_region 1 with fail
 rw [HW.out]
 have hr:=HR.out
 have h32x:=H32.out
 go_wp2_with (refine wpList_load_mid rfl 24 _ rfl w.heap.size 0 rfl cs _ hr underlying24 rfl h32x ?_)
 refine HH.out.mono ?_
 rintro e w2 ⟨rfl,hb2⟩
 go_wp2_with fail
 go_ret
 exact ⟨rfl,HBW.out.trans (hb2.mono HBW.out.size)⟩
theorem qd:∀ i:Fin 16,hexS.extract i.val (i.val + 1) = ofB [digB i.val]:=by decide +kernel
theorem JM (x:List UInt8) (k:Nat) (h:k < x.length):hexL (x.take (k + 1)) = hexL (x.take k) ++ [digB (x[k].toNat / 16),digB (x[k].toNat % 16)]:=by
 rw [List.take_succ_eq_append_getElem h]
 unfold hexL
 rw [List.flatMap_append];rfl
theorem Cc (x:List UInt8) (hx:x.length = 32) (w:World):Calls prog 43 #[.agg (idC x).toArray] w fun e w' => e = .returned (.string (ofB (hexL x))) ∧ Below w.heap.size w w':=by
 obtain ⟨W,hW⟩:∃ W,w.alloc (.cells (idC x).toArray 24) = W:=⟨_,rfl⟩
 have hbW:Below w.heap.size w W:=by rw [← hW];exact bal
 have HBX:Hid (BoxL W w.heap.size 24 (idC x)):=ah (by rw [← hW];exact BoxL.new w 24 (idC x))
 have HC:Hid (∀ (k:Nat) (h:k < 32) (X:World),Below W.heap.size W X → X.cell? ⟨w.heap.size,k,none⟩ = some (.int .u8 ((x[k]'(by omega)).toNat:Int))):=ah (fun k h X hX => by
  have:=(HBX.out.below hX).range k (.int .u8 ((x[k]'(by omega)).toNat:Int)) (by unfold idC;rw [List.getElem?_map,List.getElem?_eq_getElem (by omega)];rfl)
  rwa [Nat.zero_add] at this)
 have HW:=ah hW
 have HBW:=ah hbW
 have HWS:Hid (W.heap.size = w.heap.size + 1):=ah (by rw [← hW];simp)
 clear hW hbW
 go_enter func43,ntmps43
 go_upto_region 1 with fail
 rw [HW.out]
 generalize idC x = ux
 go_wp2
 go_loopw [3,4,5,6] (fun v i _ _ wr => ∃ k:Nat,v = .string (ofB (hexL (x.take k))) ∧ i = .int .i64 (k:Int) ∧ k ≤ 32 ∧ Hid (Below W.heap.size W wr)) (fun _ i _ _ _ => (32 - intOf i).toNat)
 case atStart => exact ⟨0,rfl,rfl,by omega,ah (Below.refl _ _)⟩
 obtain ⟨wo,rfl⟩:∃ wo:World,wo = wr:=⟨_,rfl⟩
 obtain ⟨k,rfl,rfl,hk,HB⟩:=hrel
 by_cases hlt:k < 32
 ·have d1:decide ((k:Int) < 32) = true:=decide_eq_true (by omega)
  have hcell:=HC.out k hlt wo HB.out
  have HN:=ah (JM x k (by omega))
  obtain ⟨b,hb⟩:∃ b,x[k]'(by omega) = b:=⟨_,rfl⟩
  rw [hb] at hcell HN
  have hbl:=b.toNat_lt
  obtain ⟨q1,hq1⟩:∃ q,b.toNat / 16 = q:=⟨_,rfl⟩
  obtain ⟨q2,hq2⟩:∃ q,b.toNat % 16 = q:=⟨_,rfl⟩
  rw [hq1,hq2] at HN
  have e1:((b.toNat:Nat):Int) / 16 = (q1:Int):=by omega
  have e2:((b.toNat:Nat):Int) % 16 = (q2:Int):=by omega
  have hq1l:q1 < 16:=by omega
  have hq2l:q2 < 16:=by omega
  have hb0:(0:Int) ≤ ((b.toNat:Nat):Int):=by omega
  have hws:w.heap.size < wo.heap.size:=by have:=HWS.out;have:=HB.out.size;omega
  have wb:IntKind.i64.wrap ((b.toNat:Nat):Int) = ((b.toNat:Nat):Int):=by rw [IntKind.wrap_i64];omega
  obtain ⟨c1,hc1⟩:∃ c,digB q1 = c:=⟨_,rfl⟩
  obtain ⟨c2,hc2⟩:∃ c,digB q2 = c:=⟨_,rfl⟩
  have g1:=qd ⟨q1,hq1l⟩
  have g2:=qd ⟨q2,hq2l⟩
  dsimp only at g1 g2
  rw [hc1] at g1
  rw [hc2] at g2
  unfold hexS at g1 g2
  rw [hc1,hc2] at HN
  have HS:Hid (ofB (hexL (x.take k)) ++ ofB [c1] ++ ofB [c2] = ofB (hexL (x.take (k + 1)))):=ah (by rw [HN.out,← dh,← dh,List.append_assoc];rfl)
  have hsz1:(ofB (hexL (x.take k))).size ≤ 64:=by rw [aM,kQ,List.length_take];omega
  have hsz2:(ofB [c1]).size = 1:=by rw [aM];rfl
  have hsz3:(ofB [c2]).size = 1:=by rw [aM];rfl
  obtain ⟨S,hSS⟩:∃ S,ofB (hexL (x.take k)) = S:=⟨_,rfl⟩
  rw [hSS] at HS hsz1 ⊢
  clear hc1 hc2 hq1 hq2 hb hSS
  go_upto_region 5 with fail
  refine wbq ?_
  have LQ0:=blq hcell
  repeat (go_big_quiet_step (fail))
  refine wpQuiet_nil ?_
  intro wq hbq
  clear LQ0
  have HBQ:=bth HB hbq
  have w1:IntKind.i64.wrap ((q1:Int) + 1) = (q1:Int) + 1:=by rw [IntKind.wrap_i64];omega
  have w2:IntKind.i64.wrap ((q2:Int) + 1) = (q2:Int) + 1:=by rw [IntKind.wrap_i64];omega
  have l1:(q1:Int) + 1 ≤ 16:=by omega
  have l2:(q2:Int) + 1 ≤ 16:=by omega
  have m1:(q1:Int) ≤ (q1:Int) + 1:=by omega
  have m2:(q2:Int) ≤ (q2:Int) + 1:=by omega
  have n1:((q1:Int) + 1).toNat = q1 + 1:=by omega
  have n2:((q2:Int) + 1).toNat = q2 + 1:=by omega
  have p1:(0:Int) ≤ (q1:Int) + 1:=by omega
  have p2:(0:Int) ≤ (q2:Int) + 1:=by omega
  simp only [e2]
  clear hbq hcell
  go_upto_region 6 with fail
  refine wbq ?_
  repeat (go_big_quiet_step (fail))
  refine wpQuiet_nil ?_
  intro wq hbq
  have HBR:=bth HBQ hbq
  rw [HS.out]
  clear hbq
  go_wp2
  go_roundw
  case rel => exact ⟨k + 1,rfl,by go_num,by omega,HBR⟩
  case measure => simp [intOf];omega
 obtain rfl:k = 32:=by omega
 have HE:Hid (x.take 32 = x):=ah (by rw [← hx,List.take_length])
 rw [HE.out]
 go_wp2
 go_ret
 exact ⟨rfl,HBW.out.trans (HB.out.mono HBW.out.size)⟩
def digI (b:UInt8):Int:=match jf b with
 | some n => (n:Int)
 | none => -1
theorem EF (b:UInt8) (w:World):Calls prog 82 #[.int .u8 (b.toNat:Int)] w fun e w' => e = .returned (.int .i64 (digI b)) ∧ w' = w:=by
 have hbl:=b.toNat_lt
 have wb:IntKind.i64.wrap ((b.toNat:Nat):Int) = ((b.toNat:Nat):Int):=by rw [IntKind.wrap_i64];omega
 by_cases h1:48 ≤ b.toNat ∧ b.toNat ≤ 57
 ·have HD:Hid (digI b = ((b.toNat - 48:Nat):Int)):=ah (by unfold digI jf;rw [if_pos h1])
  have a1:decide ((48:Int) ≤ ((b.toNat:Nat):Int)) = true:=decide_eq_true (by omega)
  have a2:decide (((b.toNat:Nat):Int) ≤ 57) = true:=decide_eq_true (by omega)
  have w1:IntKind.i64.wrap (((b.toNat:Nat):Int) - 48) = ((b.toNat - 48:Nat):Int):=by rw [IntKind.wrap_i64];omega
  go_enter func82,ntmps82
  go_wp2
  go_ret
  exact ⟨by rw [HD.out];rfl,by first | rfl | trivial⟩
 by_cases h2:97 ≤ b.toNat ∧ b.toNat ≤ 102
 ·have HD:Hid (digI b = ((b.toNat - 87:Nat):Int)):=ah (by unfold digI jf;rw [if_neg h1,if_pos h2])
  have a1:decide ((48:Int) ≤ ((b.toNat:Nat):Int)) = true:=decide_eq_true (by omega)
  have a2:decide (((b.toNat:Nat):Int) ≤ 57) = false:=decide_eq_false (by omega)
  have a3:decide ((97:Int) ≤ ((b.toNat:Nat):Int)) = true:=decide_eq_true (by omega)
  have a4:decide (((b.toNat:Nat):Int) ≤ 102) = true:=decide_eq_true (by omega)
  have w1:IntKind.i64.wrap (((b.toNat:Nat):Int) - 97) = ((b.toNat - 97:Nat):Int):=by rw [IntKind.wrap_i64];omega
  have w2:IntKind.i64.wrap (((b.toNat - 97:Nat):Int) + 10) = ((b.toNat - 87:Nat):Int):=by rw [IntKind.wrap_i64];omega
  go_enter func82,ntmps82
  go_wp2
  go_ret
  exact ⟨by rw [HD.out];rfl,by first | rfl | trivial⟩
 have HD:Hid (digI b = -1):=ah (by unfold digI jf;rw [if_neg h1,if_neg h2])
 by_cases h3:48 ≤ b.toNat
 ·have a1:decide ((48:Int) ≤ ((b.toNat:Nat):Int)) = true:=decide_eq_true (by omega)
  have a2:decide (((b.toNat:Nat):Int) ≤ 57) = false:=decide_eq_false (by omega)
  by_cases h4:97 ≤ b.toNat
  ·have a3:decide ((97:Int) ≤ ((b.toNat:Nat):Int)) = true:=decide_eq_true (by omega)
   have a4:decide (((b.toNat:Nat):Int) ≤ 102) = false:=decide_eq_false (by omega)
   go_enter func82,ntmps82
   go_wp2
   go_ret
   exact ⟨by rw [HD.out];rfl,by first | rfl | trivial⟩
  have a3:decide ((97:Int) ≤ ((b.toNat:Nat):Int)) = false:=decide_eq_false (by omega)
  go_enter func82,ntmps82
  go_wp2
  go_ret
  exact ⟨by rw [HD.out];rfl,by first | rfl | trivial⟩
 have a1:decide ((48:Int) ≤ ((b.toNat:Nat):Int)) = false:=decide_eq_false (by omega)
 have a3:decide ((97:Int) ≤ ((b.toNat:Nat):Int)) = false:=decide_eq_false (by omega)
 go_enter func82,ntmps82
 go_wp2
 go_ret
 exact ⟨by rw [HD.out];rfl,by first | rfl | trivial⟩
end
end Go.Proofs.YtijhemdnajlfnaaGreatDoor
