/- A part of this claim. -/
import Derived.Deep.Cut
import Derived.Test.YtlhcoanbhnphgaaGreatDoorWm10
import Derived.Test.YtlhcoanbhnphgaaGreatDoorWm2
import Derived.Test.YtlhcoanbhnphgaaGreatDoorWm9
namespace Go.Proofs.YtlhcoanbhnphgaaGreatDoor
open Tryz
set_option maxHeartbeats 64000000
set_option maxRecDepth 100000
section
open Go.RowKit Fl
def pcF (p:Pc):List Value:=[.complex .f64 (fb (p.pos:Int)) (fb (p.n:Int)),.string p.t]
def uK (w:World) (v:Value) (l:List Pc):Prop:=aS w v 2 (l.map pcF)
theorem uK.below {w w':World} {v:Value} {l:List Pc} (h:uK w v l) (hb:Below w.heap.size w w'):uK w' v l:=aS.below h hb
theorem uK.open {w:World} {v:Value} {l:List Pc} (h:uK w v l):∃ ao cap,v = .slice ao l.length cap ∧ l.length ≤ maxLen ∧ (l ≠ [] → ∃ b off,ao = some ⟨b,off,none⟩ ∧ b < w.heap.size ∧ ∀ k (hk:k < l.length),w.rangeAt b (off + k * 2) (pcF l[k])):=by
 obtain ⟨ao,cap,rfl,hm,h⟩:=h
 rw [List.length_map] at hm ⊢
 refine ⟨ao,cap,rfl,hm,fun hne => ?_⟩
 obtain ⟨b,off,e,hl,hc⟩:=h (by simpa using hne)
 refine ⟨b,off,e,hl,fun k hk => ?_⟩
 have:=hc k (by simpa using hk)
 rw [List.getElem_map] at this
 exact this
end
section
open Go.RowKit
def hexS:ByteArray:=⟨#[48,49,50,51,52,53,54,55,56,57,97,98,99,100,101,102]⟩
theorem Ii:∀ i:Fin 16,hexS[i.val]'i.isLt = digB i.val:=by decide +kernel
theorem zI (i:Nat) (h:i < 16):hexS[i]'h = digB i:=Ii ⟨i,h⟩
theorem FQ:∀ b:Fin 256,bits .and .u8 ((b.val:Nat):Int) 15 = ((b.val % 16:Nat):Int):=by decide +kernel
theorem nQ (x:List UInt8):(hexL x).length = 2 * x.length:=by
 unfold hexL
 induction x with
 | nil => rfl
 | cons a x ih => rw [List.flatMap_cons,List.length_append,ih,List.length_cons];simp;omega
theorem zK:∀ (x:List UInt8) (k:Nat) (h:k < x.length),(hexL x)[2 * k]? = some (digB (x[k].toNat / 16)) ∧ (hexL x)[2 * k + 1]? = some (digB (x[k].toNat % 16))
 | [],k,h => by simp at h
 | a :: x,0,h => ⟨rfl,rfl⟩
 | a :: x,k + 1,h => by
  have ih:=zK x k (by simpa using h)
  have e:hexL (a :: x) = digB (a.toNat / 16) :: digB (a.toNat % 16) :: hexL x:=rfl
  rw [e,show 2 * (k + 1) = 2 * k + 1 + 1 from by omega,show 2 * k + 1 + 1 + 1 = (2 * k + 1) + 1 + 1 from rfl,List.getElem?_cons_succ,List.getElem?_cons_succ,List.getElem?_cons_succ,List.getElem?_cons_succ]
  simpa using ih
def hexA (x:List UInt8) (k i:Nat):Value:=if i < 2 * k then .int .u8 (((hexL x).getD i 0).toNat:Int) else .int .u8 0
theorem ER (x:List UInt8) (k:Nat) (h:k < x.length):upd (upd (hexA x k) (2 * k) (.int .u8 ((digB (x[k].toNat / 16)).toNat:Int))) (2 * k + 1) (.int .u8 ((digB (x[k].toNat % 16)).toNat:Int)) = hexA x (k + 1):=by
 obtain ⟨h1,h2⟩:=zK x k h
 funext i
 unfold upd hexA
 by_cases e1:i = 2 * k + 1
 ·rw [if_pos e1,if_pos (by omega),e1,List.getD_eq_getElem?_getD,h2];rfl
 rw [if_neg e1]
 by_cases e2:i = 2 * k
 ·rw [if_pos e2,if_pos (by omega),e2,List.getD_eq_getElem?_getD,h1];rfl
 rw [if_neg e2]
 by_cases e3:i < 2 * k
 ·rw [if_pos e3,if_pos (by omega)]
 rw [if_neg e3,if_neg (by omega)]
theorem JM (x:List UInt8) (hx:x.length = 32) (w:World):Calls prog 54 #[.agg (idC x).toArray] w fun e w' => e = .returned (.string (ofB (hexL x))) ∧ Below w.heap.size w w':=by
 obtain ⟨W,hW⟩:∃ W,w.alloc (.cells (idC x).toArray 42) = W:=⟨_,rfl⟩
 have hbW:Below w.heap.size w W:=by rw [← hW];exact bal
 have hbx:BoxL W w.heap.size 42 (idC x):=by rw [← hW];exact BoxL.new w 42 (idC x)
 have hWs:W.heap.size = w.heap.size + 1:=by rw [← hW];simp
 have HA0:Hid (Arr (W.alloc (.cells (Array.replicate 64 (.int .u8 0)) 161)) W.heap.size 64 (hexA x 0)):=ah ((Arr.new W 64 (.int .u8 0) _).congr fun k hk => by unfold hexA;rw [if_neg (by omega)])
 have HB0:Hid (Below w.heap.size w (W.alloc (.cells (Array.replicate 64 (.int .u8 0)) 161))):=ah (hbW.alloc hbW.size _)
 have HBX:Hid (BoxL (W.alloc (.cells (Array.replicate 64 (.int .u8 0)) 161)) w.heap.size 42 (idC x)):=ah (hbx.below bal)
 have h32x:(prog.info? 42).map (·.size) = some (idC x).length:=by rw [au,hx];kernel_rfl
 have HW:=ah hW
 have HIX:Hid (∀ (k:Nat) (h:k < 32) (W:World),(Instr.index 42 (.agg (idC x).toArray) (.int .i64 (k:Int))).run prog W = .ok (.int .u8 ((x[k]'(by omega)).toNat:Int)) W):=ah (fun k h W => kF 42 5 32 underlying42 (fun w => by kernel_rfl) (fun w => by kernel_rfl) _ W k h _ (by
  unfold idC
  rw [List.getElem?_map,List.getElem?_eq_getElem (by omega)];rfl))
 clear hW hbW hbx
 generalize idC x = ux at HW HBX h32x HIX
 go_enter func54,ntmps54
 have HXL:=ah (ER x)
 have HWS:=ah hWs
 go_upto_region 2 with fail
 rw [HW.out]
 have hr:=HBX.out.range
 go_wp2_with (refine wpList_load_mid rfl 42 _ rfl w.heap.size 0 rfl ux _ hr underlying42 rfl h32x ?_)
 clear hr
 go_loopw [4,5,7] (fun _ _ i wr => ∃ k:Nat,i = .int .i64 (k:Int) ∧ k ≤ 32 ∧ Hid (Arr wr (w.heap.size + 1) 64 (hexA x k)) ∧ Hid (Below w.heap.size w wr)) (fun _ _ i _ => (32 - intOf i).toNat)
 case atStart => exact ⟨0,rfl,by omega,ah (by rw [← hWs];exact HA0.out),HB0⟩
 obtain ⟨wo,rfl⟩:∃ wo:World,wo = wr:=⟨_,rfl⟩
 obtain ⟨k,rfl,hk,HA,HB⟩:=hrel
 by_cases hlt:k < 32
 ·have d1:decide ((k:Int) < 32) = true:=decide_eq_true (by omega)
  have hix:=HIX.out k hlt
  obtain ⟨b,hb⟩:∃ b,x[k]'(by omega) = b:=⟨_,rfl⟩
  rw [hb] at hix
  have hbl:=b.toNat_lt
  have HN:=ah (HXL.out k (by omega))
  rw [hb] at HN
  have w1:IntKind.i64.wrap (2 * (k:Int)) = 2 * (k:Int):=by rw [IntKind.wrap_i64];omega
  have w2:IntKind.i64.wrap (2 * (k:Int) + 1) = 2 * (k:Int) + 1:=by rw [IntKind.wrap_i64];omega
  have t1:(2 * (k:Int)).toNat = 2 * k:=by omega
  have t2:(2 * (k:Int) + 1).toNat = 2 * k + 1:=by omega
  have l1:2 * (k:Int) < 64:=by omega
  have l2:2 * (k:Int) + 1 < 64:=by omega
  have p1:(0:Int) ≤ 2 * (k:Int):=by omega
  have p2:(0:Int) ≤ 2 * (k:Int) + 1:=by omega
  obtain ⟨q1,hq1⟩:∃ q,b.toNat / 16 = q:=⟨_,rfl⟩
  obtain ⟨q2,hq2⟩:∃ q,b.toNat % 16 = q:=⟨_,rfl⟩
  rw [hq1,hq2] at HN
  have e1:((b.toNat:Nat):Int) / 16 = (q1:Int):=by omega
  have e2:bits .and .u8 ((b.toNat:Nat):Int) 15 = (q2:Int):=by rw [FQ ⟨b.toNat,hbl⟩];simp only [];omega
  have hq1l:q1 < 16:=by omega
  have hq2l:q2 < 16:=by omega
  have hq1z:(q1:Int) < 16:=by omega
  have hq2z:(q2:Int) < 16:=by omega
  obtain ⟨c1,hc1⟩:∃ c,digB q1 = c:=⟨_,rfl⟩
  obtain ⟨c2,hc2⟩:∃ c,digB q2 = c:=⟨_,rfl⟩
  have g1:(({ data:=#[48,49,50,51,52,53,54,55,56,57,97,98,99,100,101,102] }:ByteArray)[q1]'hq1l) = c1:=(zI q1 hq1l).trans hc1
  have g2:(({ data:=#[48,49,50,51,52,53,54,55,56,57,97,98,99,100,101,102] }:ByteArray)[q2]'hq2l) = c2:=(zI q2 hq2l).trans hc2
  rw [hc1,hc2] at HN
  clear hc1 hc2 hq1 hq2 hb
  go_upto_region 5 with fail
  have hS:(fun _:World => True) wo.drew:=trivial
  refine wrL 14 (fun _ => True) ?_
  refine WL.tk 0 hS ?_
  refine WL.tk 1 hS ?_
  refine WL.tk 2 hS ?_
  refine WL.tk 3 hS ?_
  refine WL.tk 4 hS ?_
  refine WL.tk 5 hS ?_
  refine WL.tk 6 hS ?_
  refine WL.tk 7 hS ?_
  refine WL.tk 8 hS ?_
  refine WL.tk 9 hS ?_
  refine WL.tk 10 hS ?_
  refine WL.tk 11 hS ?_
  have f1:=HA.out.cell (2 * k) (by omega)
  have f2:=HA.out.free (2 * k) (by omega)
  obtain ⟨W2,hW2⟩:∃ W2,(wo.setCell ⟨w.heap.size + 1,2 * k,none⟩ (.int .u8 (c1.toNat:Int))).drew = W2:=⟨_,rfl⟩
  have HA2:Hid (Arr W2 (w.heap.size + 1) 64 (upd (hexA x k) (2 * k) (.int .u8 (c1.toNat:Int)))):=ah (by rw [← hW2];exact (HA.out.set (2 * k) (by omega) _).drew)
  have HB2:Hid (Below w.heap.size w W2):=ah (by rw [← hW2];exact (below_setCells (B:=w.heap.size) (w.heap.size + 1) (by omega) [.int .u8 (c1.toNat:Int)] (2 * k) _ HB.out).drew)
  have f3:=HA2.out.cell (2 * k + 1) (by omega)
  have f4:=HA2.out.free (2 * k + 1) (by omega)
  have HA3:Hid (Arr (W2.setCell ⟨w.heap.size + 1,2 * k + 1,none⟩ (.int .u8 (c2.toNat:Int))) (w.heap.size + 1) 64 (hexA x (k + 1))):=ah (by rw [← HN.out];exact HA2.out.set (2 * k + 1) (by omega) _)
  have HB3:Hid (Below w.heap.size w (W2.setCell ⟨w.heap.size + 1,2 * k + 1,none⟩ (.int .u8 (c2.toNat:Int)))):=ah (below_setCells (B:=w.heap.size) (w.heap.size + 1) (by omega) [.int .u8 (c2.toNat:Int)] (2 * k + 1) _ HB2.out)
  have HW2:=ah hW2
  clear hW2
  refine WL.on 12 ?_
  go_wp2
  rw [HW2.out]
  refine ⟨trivial,?_⟩
  refine WL.on 13 ?_
  go_wp2
  refine ⟨trivial,?_⟩
  refine WL.la 14 ?_
  go_wp2
  go_roundw
  case rel => exact ⟨k + 1,by go_num,by omega,HA3,HB3⟩
  case measure => simp [intOf];omega
 obtain rfl:k = 32:=by omega
 have d1:decide ((32:Int) < 32) = false:=rfl
 have hcv:(convert 96 9 (.slice (some ⟨w.heap.size + 1,0,none⟩) 64 64)).run prog wo = .ok (.string (ofB (hexL x))) wo:=by
  have hl:(hexL x).length = 64:=by rw [nQ,hx]
  have:=run_convert_bytes_back (P:=prog) wo 96 9 5 ⟨w.heap.size + 1,0,none⟩ 64 (hexL x) underlying96 underlying5 underlying9 (fun j hj => by
   rw [hl] at hj
   rw [Addr.add_mid,Nat.zero_add,HA.out.cell j hj]
   unfold hexA
   rw [if_pos (by omega),List.getD_eq_getElem?_getD,List.getElem?_eq_getElem (by rw [hl];exact hj)];rfl)
  rw [hl] at this
  exact this
 have hsz:(ofB (hexL x)).size = 64:=by rw [bq,nQ,hx]
 go_wp2
 go_ret
 exact ⟨rfl,HB.out⟩
theorem lF (x:List UInt8) (hx:x.length = 32) (w:World):Calls prog 75 #[.agg (idC x).toArray] w fun e w' => e = .returned (.string (ofB (hexL x))) ∧ Below w.heap.size w w':=by
 obtain ⟨W,hW⟩:∃ W,w.alloc (.cells (idC x).toArray 42) = W:=⟨_,rfl⟩
 have hbW:Below w.heap.size w W:=by rw [← hW];exact bal
 have hbx:BoxL W w.heap.size 42 (idC x):=by rw [← hW];exact BoxL.new w 42 (idC x)
 have h32x:(prog.info? 42).map (·.size) = some (idC x).length:=by rw [au,hx];kernel_rfl
 have HW:=ah hW
 have HBW:=ah hbW
 have HR:=ah hbx.range
 have H32:=ah h32x
 have HH:=ah (JM x hx W)
 clear hW hbW hbx h32x
 generalize hcs:idC x = cs at HW HR H32 HH
 clear hcs
 go_enter func75,ntmps75
 go_upto_region 1 with fail
 rw [HW.out]
 have hr:=HR.out
 have h32x:=H32.out
 go_wp2_with (refine wpList_load_mid rfl 42 _ rfl w.heap.size 0 rfl cs _ hr underlying42 rfl h32x ?_)
 refine HH.out.mono ?_
 rintro e w2 ⟨rfl,hb2⟩
 go_wp2_with fail
 go_ret
 exact ⟨rfl,HBW.out.trans (hb2.mono HBW.out.size)⟩
def digI (b:UInt8):Int:=match jE b with
 | some n => (n:Int)
 | none => -1
theorem uV:∀ b:Fin 256,∀ k:Fin 16,hexS[k.val]'k.isLt = UInt8.ofNat b.val → digI (UInt8.ofNat b.val) = (k.val:Int):=by decide +kernel
theorem xU:∀ b:Fin 256,(∀ k:Fin 16,hexS[k.val]'k.isLt ≠ UInt8.ofNat b.val) → digI (UInt8.ofNat b.val) = -1:=by decide +kernel
theorem Ck (b:UInt8):UInt8.ofNat b.toNat = b:=by simp
theorem Fq {b:UInt8} {k:Nat} (h:k < 16) (e:hexS[k]'h = b):digI b = (k:Int):=by
 have:=uV ⟨b.toNat,b.toNat_lt⟩ ⟨k,h⟩
 simp only [Ck] at this
 exact this e
theorem II {b:UInt8} (e:∀ (k:Nat) (h:k < 16),hexS[k]'h ≠ b):digI b = -1:=by
 have:=xU ⟨b.toNat,b.toNat_lt⟩
 simp only [Ck] at this
 exact this fun k => e k.val k.isLt
theorem zL (b:UInt8) (w:World):Calls prog 175 #[.int .u8 (b.toNat:Int)] w fun e w' => e = .returned (.int .i64 (digI b)) ∧ w' = w:=by
 go_enter func175,ntmps175
 go_wp2
 go_loopw [3,4] (fun _ i wr => ∃ k:Nat,i = .int .i64 (k:Int) ∧ k ≤ 16 ∧ (∀ (j:Nat) (h:j < 16),j < k → hexS[j]'h ≠ b) ∧ wr = w) (fun _ i _ => (16 - intOf i).toNat)
 case atStart => exact ⟨0,rfl,by omega,fun j _ h => by omega,rfl⟩
 obtain ⟨k,rfl,hk,hno,rfl⟩:=hrel
 have HNO:=ah hno
 clear hno
 by_cases hlt:k < 16
 ·have d1:decide ((k:Int) < 16) = true:=decide_eq_true (by omega)
  have hkz:(k:Int) < 16:=by omega
  obtain ⟨c,hc⟩:∃ c,hexS[k]'hlt = c:=⟨_,rfl⟩
  have g1:(({ data:=#[48,49,50,51,52,53,54,55,56,57,97,98,99,100,101,102] }:ByteArray)[k]'hlt) = c:=hc
  by_cases e:c = b
  ·have hq:(((c.toNat:Nat):Int) == ((b.toNat:Nat):Int)) = true:=by rw [e];simp
   have HF:=ah (Fq hlt (hc.trans e))
   clear hc e
   go_wp2
   go_ret
   exact ⟨by rw [HF.out];rfl,by first | rfl | trivial⟩
  have hq:(((c.toNat:Nat):Int) == ((b.toNat:Nat):Int)) = false:=by
   rw [beq_eq_false_iff_ne]
   intro h
   exact e (UInt8.toNat_inj.1 (by omega))
  have HN:Hid (∀ (j:Nat) (h:j < 16),j < k + 1 → hexS[j]'h ≠ b):=ah (fun j h hj => by
   by_cases hjk:j = k
   ·subst hjk;exact fun h2 => e (hc.symm.trans h2)
   exact HNO.out j h (by omega))
  clear hc e
  go_wp2
  go_roundw
  case rel => exact ⟨k + 1,by go_num,by omega,HN.out,by first | rfl | trivial⟩
  case measure => simp [intOf];omega
 obtain rfl:k = 16:=by omega
 have HF:=ah (II fun j h => HNO.out j h h)
 go_wp2
 go_ret
 exact ⟨by rw [HF.out];rfl,by first | rfl | trivial⟩
end
end Go.Proofs.YtlhcoanbhnphgaaGreatDoor
