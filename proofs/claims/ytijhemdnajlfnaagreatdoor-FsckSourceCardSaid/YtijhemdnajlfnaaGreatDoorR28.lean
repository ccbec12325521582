/- A part of this claim. -/
import Derived.Test.YtijhemdnajlfnaaGreatDoorR18
import Derived.Test.YtijhemdnajlfnaaGreatDoorR22
namespace Go.Proofs.YtijhemdnajlfnaaGreatDoor
open Tryz
set_option maxHeartbeats 64000000
set_option maxRecDepth 100000
section
open Go.RowKit Fl
def pcF (p:Pc):List Value:=[.complex .f64 (fb (p.pos:Int)) (fb (p.n:Int)),.string p.t]
def jM (w:World) (v:Value) (l:List Pc):Prop:=aK w v 2 (l.map pcF)
theorem jM.below {w w':World} {v:Value} {l:List Pc} (h:jM w v l) (hb:Below w.heap.size w w'):jM w' v l:=aK.below h hb
theorem jM.open {w:World} {v:Value} {l:List Pc} (h:jM w v l):∃ ao cap,v = .slice ao l.length cap ∧ l.length ≤ maxLen ∧ (l ≠ [] → ∃ b off,ao = some ⟨b,off,none⟩ ∧ b < w.heap.size ∧ ∀ k (hk:k < l.length),w.rangeAt b (off + k * 2) (pcF l[k])):=by
 obtain ⟨ao,cap,rfl,hm,h⟩:=h
 rw [List.length_map] at hm ⊢
 refine ⟨ao,cap,rfl,hm,fun hne => ?_⟩
 obtain ⟨b,off,e,hl,hc⟩:=h (by simpa using hne)
 refine ⟨b,off,e,hl,fun k hk => ?_⟩
 have:=hc k (by simpa using hk)
 rw [List.getElem_map] at this
 exact this
def PcOk (l:List Pc):Prop:=∀ p ∈ l,p.pos ≤ 100000 ∧ p.n ≤ 100000 ∧ p.t.size ≤ 1000000
def iE:Sum Nat Nat → Value
 | .inl e => .tuple #[.int .i64 0,.int .i64 (e:Int)]
 | .inr n => .tuple #[.int .i64 (n:Int),.int .i64 0]
theorem sW (b:Nat) (p:Pc):lenP b p ≤ 4099:=by
 unfold lenP
 split
 ·omega
 split
 ·rename_i x hx
  obtain ⟨rfl,h1,h2,_⟩:=fU hx
  exact h2
 omega
def erOf (n:Nat):Int:=if 4099 < n then 19 else 0
def capOf (n:Nat):Int:=if 4099 < n then 4100 else n
theorem p9:(prog.info? 388).map (·.size) = some 2:=by decide +kernel
theorem wT (b:Nat) (v:Value) (l:List Pc) (w:World) (hb:b ≤ 100000) (hv:jM w v l) (ho:PcOk l):Calls prog 300 #[.int .i64 (b:Int),v] w fun e w' => e = .returned (iE (bA b l)) ∧ Below w.heap.size w w':=by
 have hv0:=hv
 obtain ⟨ao,cap,rfl,hmax,hv⟩:=hv.open
 by_cases hg:4099 < b
 ·have HR:Hid (iE (bA b l) = .tuple #[.int .i64 0,.int .i64 1]):=by unfold Hid bA;rw [if_pos hg];rfl
  have d0:¬((b:Int) < 0):=by omega
  have d1:(4099:Int) < (b:Int):=by omega
  clear hv hv0
  go_enter func300,ntmps300
  go_wp2_with fail
  go_ret2
  exact ⟨by rw [HR.out];rfl,Below.refl _ _⟩
 have d0:¬((b:Int) < 0):=by omega
 have d1:¬((4099:Int) < (b:Int)):=by omega
 have d1n:¬(4099 < b):=by omega
 have HV:=ah hv0
 have HO:=ah ho
 clear hv hv0 hg ho
 go_enter func300,ntmps300
 go_wp2_with fail
 go_loopw [6,7,19] (fun sz er i wr => ∃ k:Nat,k ≤ l.length ∧ i = .int .i64 (k:Int) ∧ sz = .int .i64 (capOf (sumP b (l.take k))) ∧ er = .int .i64 (erOf (sumP b (l.take k))) ∧ Hid ((l.take k).all (bI b) = true) ∧ Below w.heap.size w wr) (fun _ _ i _ => (l.length - intOf i).toNat)
 case atStart => exact ⟨0,by omega,rfl,rfl,rfl,rfl,Below.refl _ _⟩
 obtain ⟨k,hk,rfl,rfl,rfl,hni,hbr⟩:=hrel
 by_cases hlt:k < l.length
 ·obtain ⟨ao2,cap2,e2,_,hv2⟩:=(HV.out.below hbr).open
  cases e2
  obtain ⟨g,off,rfl,hbl,hcell⟩:=hv2 (by intro e;rw [e] at hlt;simp at hlt)
  have r0:=hcell k hlt
  have k0:(0:Int) ≤ k:=by omega
  have k1:(k:Int) < l.length:=by omega
  have wk:IntKind.i64.wrap ((k:Int) + 1) = (k:Int) + 1:=IntWalk.i64_in _ (by unfold maxLen at hmax;omega)
  have HO1:=ah (HO.out l[k] (List.getElem_mem hlt))
  have HT:=ah (List.take_succ_eq_append_getElem hlt)
  have HG:=ah (rfl:l[k] = l[k])
  generalize hp:l[k] = p at r0 HO1 HT HG
  have c0:wr.cell? ⟨g,off + k * 2,none⟩ = some (.complex .f64 (fb (p.pos:Int)) (fb (p.n:Int))):=r0 0 _ rfl
  have c1:wr.cell? ⟨g,off + k * 2 + 1,none⟩ = some (.string p.t):=r0 1 _ rfl
  clear hcell hv2 r0
  have HT1:=ah (there_alloc (n:=2) wr #[.complex .f64 0 0,.string ⟨#[]⟩] 388 rfl)
  have HBX:=ah (BoxL.new wr 388 [.complex .f64 0 0,.string ⟨#[]⟩])
  have HBR:=ah hbr
  have HIP:=ah p9
  clear hbr
  obtain ⟨W,hW⟩:∃ W,(wr.alloc (.cells #[.complex .f64 0 0,.string ⟨#[]⟩] 388)).setCells wr.heap.size 0 (pcF p) = W:=⟨_,rfl⟩
  have hbx:BoxL W wr.heap.size 388 (pcF p):=by rw [← hW];exact HBX.out.set rfl
  have d0':W.cell? ⟨wr.heap.size,0,none⟩ = some (.complex .f64 (fb (p.pos:Int)) (fb (p.n:Int))):=hbx.range 0 _ rfl
  have d1':W.cell? ⟨wr.heap.size,1,none⟩ = some (.string p.t):=hbx.range 1 _ rfl
  have HBW:Hid (Below w.heap.size w W):=ah (by rw [← hW];exact below_setCells _ HBR.out.size _ _ _ (HBR.out.alloc HBR.out.size _))
  have HW:=ah hW
  have HLn:=ah (show Calls prog 307 #[.agg #[.complex .f64 (fb (p.pos:Int)) (fb (p.n:Int)),.string p.t],.int .i64 (b:Int)] W _ from Fq b p W hb HO1.out.1 HO1.out.2.1 HO1.out.2.2)
  have HRL:=ah (uK b p)
  have HLE:=ah (sW b p)
  have HS:Hid (sumP b (l.take (k + 1)) = sumP b (l.take k) + lenP b p):=ah (by rw [HT.out,yh])
  have HA:Hid ((l.take (k + 1)).all (bI b) = bI b p):=ah (by rw [HT.out,List.all_append,hni.out];simp)
  generalize lenP b p = n at HLn HRL HLE HS
  generalize hS0:sumP b (l.take k) = S at HS
  clear hbx hW hni
  by_cases hn:n = 0
  ·subst hn
   have HR:Hid (iE (bA b l) = .tuple #[.int .i64 0,.int .i64 1]):=by
    unfold Hid bA
    rw [if_neg d1n,if_pos]
    ·rfl
    rw [Bool.eq_false_iff]
    intro h
    have h1:=List.all_eq_true.1 h l[k] (List.getElem_mem hlt)
    rw [hp,HRL.out] at h1
    cases h1
   clear hp hS0
   go_upto_region 7 with (refine aj rfl 388 _ _ rfl wr.heap.size 0 (pcF p) rfl rfl 2 rfl HT1.out HIP.out (by intro v hv;unfold pcF at hv;simp at hv;rcases hv with rfl | rfl <;> rfl) ?_;rw [HW.out])
   go_wp2_with fail
   refine HLn.out.mono ?_
   rintro e w2 ⟨rfl,hb2⟩
   go_wp2_with fail
   go_ret2
   exact ⟨by rw [HR.out];rfl,HBW.out.trans (hb2.mono HBW.out.size)⟩
  have hn2:¬ (n:Int) = 0:=by omega
  have hn3:((n:Int) == 0) = false:=by rw [beq_eq_false_iff_ne];exact hn2
  have HN:Hid ((l.take (k + 1)).all (bI b) = true):=ah (by rw [HA.out,HRL.out];exact decide_eq_true (by omega))
  have hle:=HLE.out
  by_cases hs:S + n ≤ 4099
  ·have h1:capOf S = S:=by unfold capOf;rw [if_neg (by omega)]
   have h2:Hid (capOf (S + n) = (S:Int) + n):=ah (by unfold capOf;rw [if_neg (by omega)];omega)
   have h3:erOf S = 0:=by unfold erOf;rw [if_neg (by omega)]
   have h4:Hid (erOf (S + n) = 0):=ah (by unfold erOf;rw [if_neg (by omega)])
   have wb:IntKind.i64.wrap ((S:Int) + (n:Int)) = (S:Int) + n:=by rw [IntKind.wrap_i64];omega
   rw [h1,h3]
   clear hp h1 h3 hle
   go_upto_region 7 with (refine aj rfl 388 _ _ rfl wr.heap.size 0 (pcF p) rfl rfl 2 rfl HT1.out HIP.out (by intro v hv;unfold pcF at hv;simp at hv;rcases hv with rfl | rfl <;> rfl) ?_;rw [HW.out])
   go_wp2_with fail
   refine HLn.out.mono ?_
   rintro e w2 ⟨rfl,hb2⟩
   go_wp2_with fail
   go_roundw
   case rel => exact ⟨k + 1,by omega,by go_num,by rw [HS.out,h2.out];congr 1;omega,by rw [HS.out,h4.out],HN.out,HBW.out.trans (hb2.mono HBW.out.size)⟩
   case measure => simp [intOf];omega
  have h2:Hid (capOf (S + n) = 4100):=ah (by unfold capOf;rw [if_pos (by omega)])
  have h4:Hid (erOf (S + n) = 19):=ah (by unfold erOf;rw [if_pos (by omega)])
  have hc:0 ≤ capOf S ∧ capOf S ≤ 4100 ∧ 4100 ≤ capOf S + (n:Int):=by
   unfold capOf;split <;> omega
  generalize capOf S = c at hc
  generalize erOf S = er0
  have wb:IntKind.i64.wrap (c + (n:Int)) = c + n:=by rw [IntKind.wrap_i64];omega
  have hmin:min (c + (n:Int)) 4100 = 4100:=by omega
  have HC:=ah hc
  clear hp hle hc
  go_upto_region 7 with (refine aj rfl 388 _ _ rfl wr.heap.size 0 (pcF p) rfl rfl 2 rfl HT1.out HIP.out (by intro v hv;unfold pcF at hv;simp at hv;rcases hv with rfl | rfl <;> rfl) ?_;rw [HW.out])
  go_wp2_with fail
  refine HLn.out.mono ?_
  rintro e w2 ⟨rfl,hb2⟩
  go_wp2_with fail
  go_roundw
  case rel => exact ⟨k + 1,by omega,by go_num,by rw [HS.out,h2.out],by rw [HS.out,h4.out],HN.out,HBW.out.trans (hb2.mono HBW.out.size)⟩
  case measure => simp [intOf];omega
 obtain rfl:k = l.length:=by omega
 rw [List.take_length] at hni
 rw [List.take_length]
 by_cases hs:4099 < sumP b l
 ·have HR:Hid (iE (bA b l) = .tuple #[.int .i64 0,.int .i64 19]):=by
   unfold Hid bA
   rw [if_neg d1n,if_neg (by rw [hni.out];decide),if_pos hs];rfl
  have h3:erOf (sumP b l) = 19:=by unfold erOf;rw [if_pos hs]
  rw [h3]
  have HBR:=ah hbr
  clear hs h3 hni hbr
  go_wp2_with fail
  go_ret2
  exact ⟨by rw [HR.out];rfl,HBR.out⟩
 have HR:Hid (iE (bA b l) = .tuple #[.int .i64 (sumP b l:Int),.int .i64 0]):=by
  unfold Hid bA
  rw [if_neg d1n,if_neg (by rw [hni.out];decide),if_neg hs];rfl
 have h3:erOf (sumP b l) = 0:=by unfold erOf;rw [if_neg hs]
 have h1:capOf (sumP b l) = sumP b l:=by unfold capOf;rw [if_neg hs]
 rw [h3,h1]
 have HBR:=ah hbr
 clear hs h1 h3 hni hbr
 go_wp2_with fail
 go_ret2
 exact ⟨by rw [HR.out];rfl,HBR.out⟩
theorem jo (b:Nat) (l:List Pc) (k:Nat):sumP b (l.take k) ≤ sumP b l:=by
 have h:=List.take_append_drop k l
 have:sumP b (l.take k ++ l.drop k) = sumP b (l.take k) + sumP b (l.drop k):=by unfold sumP;rw [List.map_append,List.sum_append]
 rw [h] at this
 omega
theorem uP (b:Nat) (v:Value) (l:List Pc) (w:World) (hb:b ≤ 100000) (hv:jM w v l) (ho:PcOk l):Calls prog 276 #[.int .i64 (b:Int),v] w fun e w' => e = .returned (iE (bA b l)) ∧ Below w.heap.size w w':=by
 have hv0:=hv
 obtain ⟨ao,cap,rfl,hmax,hv⟩:=hv.open
 by_cases hg:4099 < b
 ·have HR:Hid (iE (bA b l) = .tuple #[.int .i64 0,.int .i64 1]):=by unfold Hid bA;rw [if_pos hg];rfl
  have d0:¬((b:Int) < 0):=by omega
  have d1:(4099:Int) < (b:Int):=by omega
  clear hv hv0
  go_enter func276,ntmps276
  go_wp2_with fail
  go_ret2
  exact ⟨by rw [HR.out];rfl,Below.refl _ _⟩
 have d0:¬((b:Int) < 0):=by omega
 have d1:¬((4099:Int) < (b:Int)):=by omega
 have d1n:¬(4099 < b):=by omega
 have HV:=ah hv0
 have HO:=ah ho
 clear hv hv0 hg ho
 go_enter func276,ntmps276
 go_wp2_with fail
 go_loopw [6] (fun i wr => ∃ k:Nat,k ≤ l.length ∧ i = .int .i64 (k:Int) ∧ Hid ((l.take k).all (bI b) = true) ∧ Below w.heap.size w wr) (fun i _ => (l.length - intOf i).toNat)
 case atStart => exact ⟨0,by omega,rfl,rfl,Below.refl _ _⟩
 obtain ⟨k,hk,rfl,hni,hbr⟩:=hrel
 by_cases hlt:k < l.length
 ·obtain ⟨ao2,cap2,e2,_,hv2⟩:=(HV.out.below hbr).open
  cases e2
  obtain ⟨g,off,rfl,hbl,hcell⟩:=hv2 (by intro e;rw [e] at hlt;simp at hlt)
  have r0:=hcell k hlt
  have k0:(0:Int) ≤ k:=by omega
  have k1:(k:Int) < l.length:=by omega
  have wk:IntKind.i64.wrap ((k:Int) + 1) = (k:Int) + 1:=IntWalk.i64_in _ (by unfold maxLen at hmax;omega)
  have HO1:=ah (HO.out l[k] (List.getElem_mem hlt))
  have HT:=ah (List.take_succ_eq_append_getElem hlt)
  generalize hp:l[k] = p at r0 HO1 HT
  have c0:wr.cell? ⟨g,off + k * 2,none⟩ = some (.complex .f64 (fb (p.pos:Int)) (fb (p.n:Int))):=r0 0 _ rfl
  have c1:wr.cell? ⟨g,off + k * 2 + 1,none⟩ = some (.string p.t):=r0 1 _ rfl
  clear hcell hv2 r0
  have HBR:=ah hbr
  have HLn:=ah (show Calls prog 297 #[.agg #[.complex .f64 (fb (p.pos:Int)) (fb (p.n:Int)),.string p.t],.int .i64 (b:Int)] wr _ from BU b p wr hb HO1.out.1 HO1.out.2.1 HO1.out.2.2)
  have HA:Hid ((l.take (k + 1)).all (bI b) = bI b p):=ah (by rw [HT.out,List.all_append,hni.out];simp)
  clear hbr hni
  cases hr:bI b p with
  | false =>
   have HR:Hid (iE (bA b l) = .tuple #[.int .i64 0,.int .i64 1]):=by
    unfold Hid bA
    rw [if_neg d1n,if_pos]
    ·rfl
    rw [Bool.eq_false_iff]
    intro h
    have h1:=List.all_eq_true.1 h l[k] (List.getElem_mem hlt)
    rw [hp,hr] at h1
    cases h1
   rw [hr] at HLn
   clear hp hr HA
   go_wp2_with fail
   refine HLn.out.mono ?_
   rintro e w2 ⟨rfl,hb2⟩
   go_wp2_with fail
   go_ret2
   exact ⟨by rw [HR.out];rfl,HBR.out.trans (hb2.mono HBR.out.size)⟩
  | true =>
   rw [hr] at HLn HA
   clear hp hr
   go_wp2_with fail
   refine HLn.out.mono ?_
   rintro e w2 ⟨rfl,hb2⟩
   go_wp2_with fail
   go_roundw
   case rel => exact ⟨k + 1,by omega,by go_num,HA,HBR.out.trans (hb2.mono HBR.out.size)⟩
   case measure => simp [intOf];omega
 obtain rfl:k = l.length:=by omega
 rw [List.take_length] at hni
 have HAL:=hni
 have HB1:=ah hbr
 clear hni hbr hk hlt
 go_wp2_with fail
 go_loopw [7,8] (fun sz i wq => ∃ k:Nat,k ≤ l.length ∧ i = .int .i64 (k:Int) ∧ sz = .int .i64 (sumP b (l.take k):Int) ∧ Hid (sumP b (l.take k) ≤ 4099) ∧ Below w.heap.size w wq) (fun _ i _ => (l.length - intOf i).toNat)
 case atStart => exact ⟨0,by omega,rfl,rfl,Nat.zero_le _,HB1.out⟩
 obtain ⟨k,hk,rfl,rfl,hni,hbr⟩:=hrel
 by_cases hlt:k < l.length
 ·obtain ⟨ao2,cap2,e2,_,hv2⟩:=(HV.out.below hbr).open
  cases e2
  obtain ⟨g,off,rfl,hbl,hcell⟩:=hv2 (by intro e;rw [e] at hlt;simp at hlt)
  have r0:=hcell k hlt
  have k0:(0:Int) ≤ k:=by omega
  have k1:(k:Int) < l.length:=by omega
  have wk:IntKind.i64.wrap ((k:Int) + 1) = (k:Int) + 1:=IntWalk.i64_in _ (by unfold maxLen at hmax;omega)
  have HO1:=ah (HO.out l[k] (List.getElem_mem hlt))
  have HT:=ah (List.take_succ_eq_append_getElem hlt)
  have HRI:=ah (List.all_eq_true.1 HAL.out l[k] (List.getElem_mem hlt))
  generalize hp:l[k] = p at r0 HO1 HT HRI
  have c0:wr.cell? ⟨g,off + k * 2,none⟩ = some (.complex .f64 (fb (p.pos:Int)) (fb (p.n:Int))):=r0 0 _ rfl
  have c1:wr.cell? ⟨g,off + k * 2 + 1,none⟩ = some (.string p.t):=r0 1 _ rfl
  clear hcell hv2 r0 hp
  have HBR:=ah hbr
  have HLn:=ah (show Calls prog 277 #[.agg #[.complex .f64 (fb (p.pos:Int)) (fb (p.n:Int)),.string p.t],.int .i64 (b:Int)] wr _ from qM b p wr hb HO1.out.1 HO1.out.2.1 HO1.out.2.2)
  have HDL:=ah (zG HRI.out)
  have HLE:=sW b p
  have HS:Hid (sumP b (l.take (k + 1)) = sumP b (l.take k) + lenP b p):=ah (by rw [HT.out,yh])
  generalize sumP b (l.take k) = S at HS hni
  have hS9:=hni.out
  clear hbr
  cases hcp:aN b p with
  | none =>
   have HK:Hid (aN b p = none):=ah hcp
   have hd:p.t.size = lenP b p:=by rw [← HDL.out];unfold wQ;rw [hcp]
   rw [← hd] at HLE HS
   clear hcp hd
   generalize hn:p.t.size = n at HLE HS
   by_cases hs:S + n ≤ 4099
   ·have wb:IntKind.i64.wrap ((S:Int) + (n:Int)) = (S:Int) + n:=by rw [IntKind.wrap_i64];omega
    have hs1:¬ ((4099:Int) < (S:Int) + (n:Int)):=by omega
    have hs2:¬ (4099 < S + n):=by omega
    have HLE2:Hid (sumP b (l.take (k + 1)) ≤ 4099):=ah (by rw [HS.out];exact hs)
    clear hs
    go_wp2_with fail
    refine HLn.out.mono ?_
    rintro e w2 ⟨⟨v,rfl,hcv⟩,hb2⟩
    unfold fJ at hcv
    rw [HK.out] at hcv
    obtain ⟨i2,j2,rfl⟩:=hcv
    have c1w:=(hb2.cell (p:=⟨g,off + k * 2 + 1,none⟩) hbl).trans c1
    go_wp2_with fail
    go_roundw
    case rel => exact ⟨k + 1,by omega,by go_num,by rw [HS.out];(try congr 1) <;> (try omega),HLE2,HBR.out.trans (hb2.mono HBR.out.size)⟩
    case measure => simp [intOf];omega
   have HR:Hid (iE (bA b l) = .tuple #[.int .i64 0,.int .i64 19]):=by
    unfold Hid bA
    rw [if_neg d1n,if_neg (by rw [HAL.out];decide),if_pos (by have h1:=jo b l (k + 1);rw [HS.out] at h1;omega)];rfl
   have hS9:=hni.out
   have wb:IntKind.i64.wrap ((S:Int) + (n:Int)) = (S:Int) + n:=by rw [IntKind.wrap_i64];omega
   have hs1:((4099:Int) < (S:Int) + (n:Int)):=by omega
   have hs2:(4099 < S + n):=by omega
   clear hs
   go_wp2_with fail
   refine HLn.out.mono ?_
   rintro e w2 ⟨⟨v,rfl,hcv⟩,hb2⟩
   unfold fJ at hcv
   rw [HK.out] at hcv
   obtain ⟨i2,j2,rfl⟩:=hcv
   have c1w:=(hb2.cell (p:=⟨g,off + k * 2 + 1,none⟩) hbl).trans c1
   go_wp2_with fail
   go_ret2
   exact ⟨by rw [HR.out];rfl,HBR.out.trans (hb2.mono HBR.out.size)⟩
  | some x =>
   have HK:Hid (aN b p = some x):=ah hcp
   have hd:x.2 = lenP b p:=by rw [← HDL.out];unfold wQ;rw [hcp]
   rw [← hd] at HLE HS
   clear hcp hd
   obtain ⟨x1,n⟩:=x
   dsimp only at HLE HS
   by_cases hs:S + n ≤ 4099
   ·have wb:IntKind.i64.wrap ((S:Int) + (n:Int)) = (S:Int) + n:=by rw [IntKind.wrap_i64];omega
    have hs1:¬ ((4099:Int) < (S:Int) + (n:Int)):=by omega
    have hs2:¬ (4099 < S + n):=by omega
    have HLE2:Hid (sumP b (l.take (k + 1)) ≤ 4099):=ah (by rw [HS.out];exact hs)
    clear hs
    go_wp2_with fail
    refine HLn.out.mono ?_
    rintro e w2 ⟨⟨v,rfl,hcv⟩,hb2⟩
    unfold fJ at hcv
    rw [HK.out] at hcv
    dsimp only at hcv
    subst hcv
    go_wp2_with fail
    go_roundw
    case rel => exact ⟨k + 1,by omega,by go_num,by rw [HS.out];(try congr 1) <;> (try omega),HLE2,HBR.out.trans (hb2.mono HBR.out.size)⟩
    case measure => simp [intOf];omega
   have HR:Hid (iE (bA b l) = .tuple #[.int .i64 0,.int .i64 19]):=by
    unfold Hid bA
    rw [if_neg d1n,if_neg (by rw [HAL.out];decide),if_pos (by have h1:=jo b l (k + 1);rw [HS.out] at h1;omega)];rfl
   have hS9:=hni.out
   have wb:IntKind.i64.wrap ((S:Int) + (n:Int)) = (S:Int) + n:=by rw [IntKind.wrap_i64];omega
   have hs1:((4099:Int) < (S:Int) + (n:Int)):=by omega
   have hs2:(4099 < S + n):=by omega
   clear hs
   go_wp2_with fail
   refine HLn.out.mono ?_
   rintro e w2 ⟨⟨v,rfl,hcv⟩,hb2⟩
   unfold fJ at hcv
   rw [HK.out] at hcv
   dsimp only at hcv
   subst hcv
   go_wp2_with fail
   go_ret2
   exact ⟨by rw [HR.out];rfl,HBR.out.trans (hb2.mono HBR.out.size)⟩
 obtain rfl:k = l.length:=by omega
 rw [List.take_length] at hni
 rw [List.take_length]
 have HR:Hid (iE (bA b l) = .tuple #[.int .i64 (sumP b l:Int),.int .i64 0]):=by
  unfold Hid bA
  rw [if_neg d1n,if_neg (by rw [HAL.out];decide),if_neg (by have:=hni.out;omega)];rfl
 have HBR:=ah hbr
 clear hni hbr
 go_wp2_with fail
 go_ret2
 exact ⟨by rw [HR.out];rfl,HBR.out⟩
end
end Go.Proofs.YtijhemdnajlfnaaGreatDoor
