/- YtbmiiiccnoiffaaGreatDoorC34: texts K2, K3 of this claim, in one. -/
import Derived.Test.YtbmiiiccnoiffaaGreatDoorC23
import Derived.Test.YtbmiiiccnoiffaaGreatDoorC32
namespace Go.Proofs.YtbmiiiccnoiffaaGreatDoor
open Go.RowKit
set_option maxRecDepth 100000 in
set_option maxHeartbeats 2000000 in
theorem rless32_any (x y:Idl) (w:World) (hx:x.length = 32) (hy:y.length = 32) :
  Calls Tryz.prog 113 #[.agg (idC x).toArray,.agg (idC y).toArray] w fun e w' => e = .returned (.bool (ltB x y)) ∧ Below w.heap.size w w':=by
 obtain ⟨W,hW⟩:∃ W,W = (w.alloc (.cells (idC x).toArray 24)).alloc (.cells (idC y).toArray 24):=⟨_,rfl⟩
 have hbW:Below w.heap.size w W:=by rw [hW];exact ((Below.refl _ _).alloc (Nat.le_refl _) _).alloc (by simp) _
 have hrx:W.rangeAt w.heap.size 0 (idC x):=by
  rw [hW];exact rangeAt_below (range_new w (idC x) 24 rfl) ((Below.refl _ _).alloc (Nat.le_refl _) _) (by simp)
 have hry:W.rangeAt (w.heap.size + 1) 0 (idC y):=by rw [hW];exact range_new _ _ _ (by simp)
 have hsW:W.heap.size = w.heap.size + 1 + 1:=by rw [hW];simp
 have key:∀ (z:Idl) (b:Nat),z.length = 32 → W.rangeAt b 0 (idC z) → ∀ k (h:k < z.length),W.cell? ⟨b,k,none⟩ = some (.int .u8 (z[k].toNat:Int)):=fun z b hz hr k hk => by
  have:=hr k (.int .u8 (z[k].toNat:Int)) (by unfold idC;rw [List.getElem?_map,List.getElem?_eq_getElem hk];rfl)
  rwa [Nat.zero_add] at this
 have HCX:=Lib.hid (key x _ hx hrx)
 have HCY:=Lib.hid (key y _ hy hry)
 have HLX:=Lib.hid hx
 have HLY:=Lib.hid hy
 have HBW:=Lib.hid hbW
 have HSW:=Lib.hid hsW
 clear key hrx hry hx hy hbW hsW
 generalize idC x = ux at hW
 generalize idC y = uy at hW
 go_enter Tryz.func113,Tryz.ntmps113
 go_wp2
 rw [← hW]
 clear hW
 go_loopw [5] (fun i wr => ∃ k:Nat,k ≤ 32 ∧ i = .int .i64 k ∧ Hid (x.take k = y.take k) ∧ Hid (Below W.heap.size W wr)) (fun i _ => (32 - intOf i).toNat)
 case atStart => exact ⟨0,by omega,rfl,Lib.hid rfl,Lib.hid (Below.refl _ _)⟩
 case round =>
  obtain ⟨wo,rfl⟩:∃ wo:World,wo = wr:=⟨_,rfl⟩
  obtain ⟨k,hk,rfl,HT,HB⟩:=hrel
  have hsz:=HB.out.size
  by_cases hlt:k < 32
  ·have h1:k < x.length:=by rw [HLX.out];exact hlt
   have h2:k < y.length:=by rw [HLY.out];exact hlt
   have e1:=below_load (HCX.out k h1) HB.out (by rw [HSW.out];omega)
   have e2:=below_load (HCY.out k h2) HB.out (by rw [HSW.out];omega)
   have hs1:w.heap.size + 1 + 1 ≤ wo.heap.size:=by rw [← HSW.out];exact hsz
   have k0:(0:Int) ≤ k:=by omega
   have k1:(k:Int) < 32:=by omega
   by_cases hne:x[k] = y[k]
   ·have HN:Hid (x.take (k + 1) = y.take (k + 1)):=Lib.hid (by rw [List.take_succ_eq_append_getElem h1,List.take_succ_eq_append_getElem h2,HT.out,hne])
    rw [hne] at e1
    generalize (y[k].toNat:Int) = c at e1 e2
    have d:(c != c) = false:=by simp
    clear hne hsz
    go_wp2
    refine wp_region_bq (by kernel_rfl) (by kernel_rfl) ?_
    have LQ0:=fun x:BW (World.heap wo).size wo => below_load e1 x.hb (by omega)
    have LQ1:=fun x:BW (World.heap wo).size wo => below_load e2 x.hb (by omega)
    repeat (go_big_quiet_step (fail))
    refine wpQuiet_nil ?_
    intro wq hbq
    clear LQ0 LQ1
    have HB2:=Lib.hid (HB.out.trans (hbq.mono HB.out.size))
    clear hbq e1 e2
    go_wp2
    go_roundw
    case rel => exact ⟨k + 1,by omega,by go_num,HN,HB2⟩
    case measure => simp [intOf];omega
   ·have hd:(x[k].toNat:Int) ≠ (y[k].toNat:Int):=fun e => hne (UInt8.toNat_inj.1 (by omega))
    have HL:=Lib.hid (ltB_at h1 h2 HT.out hne)
    have d:((x[k].toNat:Int) != (y[k].toNat:Int)) = true:=by rw [bne_iff_ne];exact hd
    have d2:decide ((x[k].toNat:Int) < (y[k].toNat:Int)) = ltB x y:=by
     rw [HL.out]
     by_cases h:x[k].toNat < y[k].toNat
     ·rw [decide_eq_true h,decide_eq_true (by omega)]
     ·rw [decide_eq_false h,decide_eq_false (by omega)]
    generalize (x[k].toNat:Int) = c at e1 d d2
    generalize (y[k].toNat:Int) = c' at e2 d d2
    obtain ⟨r,hr⟩:∃ r,ltB x y = r:=⟨_,rfl⟩
    rw [hr] at d2
    have HRR:=Lib.hid hr
    clear hr
    clear hne hd hsz HL
    go_wp2
    refine wp_region_bq (by kernel_rfl) (by kernel_rfl) ?_
    have LQ0:=fun x:BW (World.heap wo).size wo => below_load e1 x.hb (by omega)
    have LQ1:=fun x:BW (World.heap wo).size wo => below_load e2 x.hb (by omega)
    repeat (go_big_quiet_step (fail))
    refine wpQuiet_nil ?_
    intro wq hbq
    clear LQ0 LQ1
    have e3:=below_load e1 hbq (by omega)
    have e4:=below_load e2 hbq (by omega)
    have HB2:=Lib.hid (HB.out.trans (hbq.mono HB.out.size))
    have hs2:w.heap.size + 1 + 1 ≤ wq.heap.size:=by have:=hbq.size;omega
    clear hbq e1 e2 HB
    obtain ⟨wp,rfl⟩:∃ wp:World,wp = wq:=⟨_,rfl⟩
    go_wp2
    refine wp_region_bq (by kernel_rfl) (by kernel_rfl) ?_
    have LQ0:=fun x:BW (World.heap wp).size wp => below_load e3 x.hb (by omega)
    have LQ1:=fun x:BW (World.heap wp).size wp => below_load e4 x.hb (by omega)
    repeat (go_big_quiet_step (fail))
    refine wpQuiet_nil ?_
    intro wq hbq
    clear LQ0 LQ1
    have HB3:=Lib.hid (HBW.out.trans ((HB2.out.trans (hbq.mono HB2.out.size)).mono HBW.out.size))
    clear hbq e3 e4
    go_wp2
    go_ret
    exact ⟨ret_bool HRR.out.symm,HB3.out⟩
  ·obtain rfl:k = 32:=by omega
   have HR:Hid (ltB x y = false):=Lib.hid (by
    have:=HT.out
    rw [List.take_of_length_le (by rw [HLX.out];omega),List.take_of_length_le (by rw [HLY.out];omega)] at this
    rw [this,ltB_irrefl])
   clear hsz
   go_wp2
   go_ret
   exact ⟨ret_bool HR.out.symm,HBW.out.trans (HB.out.mono HBW.out.size)⟩
end Go.Proofs.YtbmiiiccnoiffaaGreatDoor
namespace Go.Proofs.YtbmiiiccnoiffaaGreatDoor
open Go.RowKit
theorem putL_same {l:List Idl} {x:Idl} {k:Nat} (h:placeL l x = k) (hk:k < l.length) (e:l[k] = x):putL l x = l:=by
 unfold putL;rw [if_pos (by rw [h,List.getElem?_eq_getElem hk,e])]
theorem putL_new {l:List Idl} {x:Idl} {k:Nat} (h:placeL l x = k) (e:∀ (hk:k < l.length),l[k] ≠ x):putL l x = l.take k ++ [x] ++ l.drop k:=by
 unfold putL
 rw [if_neg,h]
 rw [h]
 intro h2
 obtain ⟨hk,e2⟩:=List.getElem?_eq_some_iff.1 h2
 exact e hk e2
theorem OwnQ.lt0 {w:World} {B sz n:Nat} {v:Value} {xs:List Value} (h:OwnQ w B sz v n xs):∀ k,v.ownBlock = some k → B ≤ k ∧ k < w.heap.size:=fun k hk => by
 rcases h.2 with ⟨rfl,_⟩ | ⟨g,off,cap,rfl,hB,hg,_⟩
 ·cases hk
 ·cases hk;exact ⟨hB,hg⟩
set_option maxRecDepth 100000 in
set_option maxHeartbeats 4000000 in
theorem rputid_any (v:Value) (l:List Idl) (x:Idl) (w:World) (hv:IdRow w v l) (hcap:CapI v) (hl:∀ y ∈ l,y.length = 32) (hx:x.length = 32) (hn:l.length ≤ 1000) :
  Calls Tryz.prog 65 #[v,.agg (idC x).toArray] w fun e w' => ∃ v',e = .returned v' ∧ IdRow w' v' (putL l x) ∧ CapI v' ∧ (v' = v ∨ ∀ k,v'.ownBlock = some k → w.heap.size ≤ k) ∧ Below w.heap.size w w':=by
 have HROW:=Lib.hid hv
 have HCAP:=Lib.hid hcap
 obtain ⟨ao,cap,rfl,hmax,hv⟩:=hv.open
 have hnc:=hcap _ _ _ rfl
 have hxl:(idC x).length = 32:=by rw [idC_len,hx]
 have h32x:=h32_of hxl
 obtain ⟨zi,i0,hi,hz0,hz1,hz2,hziv,hzil⟩:=id_zero
 obtain ⟨W,hW⟩:∃ W,W = w.alloc (.cells (idC x).toArray 24):=⟨_,rfl⟩
 have hbW:Below w.heap.size w W:=by rw [hW];exact (Below.refl _ _).alloc (Nat.le_refl _) _
 have hrW:W.rangeAt w.heap.size 0 (idC x):=by rw [hW];exact range_new w (idC x) 24 rfl
 have hsW:W.heap.size = w.heap.size + 1:=by rw [hW];simp
 have HZL:=Lib.hid hzil
 have HI:=Lib.hid hi
 have HSZ:Hid (∀ w,(sizeOf 24).run Tryz.prog w = .ok (idC x).length w):=Lib.hid (fun w => by rw [hxl];kernel_rfl)
 have HV:=Lib.hid hv
 have HL:=Lib.hid hl
 have HX:=Lib.hid hx
 have HBW:=Lib.hid hbW
 have HRW:=Lib.hid hrW
 have HSW:=Lib.hid hsW
 have HNC:=Lib.hid hnc
 have HLS:=Lib.hid (fun (y:Idl) (hy:y.length = 32) w => rless32_any y x w hy hx)
 have HEQ:=Lib.hid (fun (y:Idl) (hy:y.length = 32) => id_eqIn y x hy hx)
 have HCX:Hid (idsF [x] = idC x):=Lib.hid (by simp [idsF])
 have HUL:=Lib.hid hxl
 have HUO:Hid (∀ u ∈ idC x,u.oneCell' = true):=Lib.hid (idC_one x)
 clear hv hl hx hbW hrW hsW hcap hzil hi hxl
 generalize hux:idC x = ux at h32x HSZ hW HRW HLS HEQ HCX HUL HUO
 clear hux
 unfold maxLen at hmax
 go_enter Tryz.func65,Tryz.ntmps65
 go_wp2
 rw [← hW]
 clear hW
 go_loopw [5] (fun i wr => ∃ k:Nat,k ≤ l.length ∧ i = .int .i64 k ∧ Hid (∀ i (_:i < k) (h2:i < l.length),ltB l[i] x = true) ∧ Hid (Below W.heap.size W wr)) (fun i _ => (l.length - intOf i).toNat)
 case atStart => exact ⟨0,by omega,rfl,Lib.hid (fun i h => absurd h (by omega)),Lib.hid (Below.refl _ _)⟩
 case round =>
  obtain ⟨wo,rfl⟩:∃ wo:World,wo = wr:=⟨_,rfl⟩
  obtain ⟨k,hk,rfl,HLO,HB⟩:=hrel
  have hsz:=HB.out.size
  have hs1:w.heap.size + 1 ≤ wo.heap.size:=by rw [← HSW.out];exact hsz
  have c2:=rangeAt_below HRW.out HB.out (by rw [HSW.out];omega)
  have k0:(0:Int) ≤ k:=by omega
  have HBO:=Lib.hid (HBW.out.trans (HB.out.mono HBW.out.size))
  clear hsz
  by_cases hgo:∃ h:k < l.length,ltB l[k] x = true
  ·obtain ⟨hlt,hlo⟩:=hgo
   obtain ⟨b,off,rfl,hbl,hcell⟩:=HV.out (by intro e;rw [e] at hlt;simp at hlt)
   have c1:=rangeAt_below (hcell k hlt) HBO.out hbl
   have hz:=HL.out l[k] (List.getElem_mem hlt)
   have h32:=h32_of (us:=idC l[k]) (by rw [idC_len,hz])
   have hls:=HLS.out l[k] hz
   rw [hlo] at hls
   have HLS2:=Lib.hid hls
   have hbo:b < wo.heap.size:=by omega
   have k1:(k:Int) < l.length:=by omega
   have d1:decide ((k:Int) < l.length) = true:=decide_eq_true k1
   have HN:Hid (∀ i (_:i < k + 1) (h2:i < l.length),ltB l[i] x = true):=Lib.hid (fun i h h2 => by
    by_cases e:i = k
    ·subst e;exact hlo
    ·exact HLO.out i (by omega) h2)
   clear hcell hz hls hlo
   generalize idC l[k] = uk at c1 h32 HLS2
   go_wp2
   refine wp_region_bq (by kernel_rfl) (by kernel_rfl) ?_
   repeat (go_big_quiet_step ((go_at_call 113;with_reducible exact calls_bw (HLS2.out _))))
   refine bq_row 24 _ _ rfl rfl rfl c1 (by omega) Tryz.underlying24 rfl h32 ?_
   simp only [Act.put,List.setIfInBounds_toArray,List.set_cons_zero,List.set_cons_succ]
   repeat (go_big_quiet_step ((go_at_call 113;with_reducible exact calls_bw (HLS2.out _))))
   refine bq_row 24 _ _ rfl rfl rfl c2 (by omega) Tryz.underlying24 rfl h32x ?_
   simp only [Act.put,List.setIfInBounds_toArray,List.set_cons_zero,List.set_cons_succ]
   repeat (go_big_quiet_step ((go_at_call 113;with_reducible exact calls_bw (HLS2.out _))))
   refine wpQuiet_nil ?_
   intro wq hbq
   have HB2:=Lib.hid (HB.out.trans (hbq.mono HB.out.size))
   clear hbq c1 c2
   go_wp2
   go_roundw
   case rel => exact ⟨k + 1,by omega,by go_num,HN,HB2⟩
   case measure => simp [intOf];omega
  ·have HPL:Hid (placeL l x = k):=Lib.hid (placeL_eq l x k hk (fun i h => HLO.out i h (by omega)) (fun h => by
    cases e:ltB l[k] x with
    | false => rfl
    | true => exact absurd ⟨h,e⟩ hgo))
   by_cases hlt:k < l.length
   ·obtain ⟨b,off,rfl,hbl,hcell⟩:=HV.out (by intro e;rw [e] at hlt;simp at hlt)
    have c1:=rangeAt_below (hcell k hlt) HBO.out hbl
    have hz:=HL.out l[k] (List.getElem_mem hlt)
    have h32:=h32_of (us:=idC l[k]) (by rw [idC_len,hz])
    have hls:=HLS.out l[k] hz
    rw [show ltB l[k] x = false from by
     cases e:ltB l[k] x with
     | false => rfl
     | true => exact absurd ⟨hlt,e⟩ hgo] at hls
    have HLS2:=Lib.hid hls
    have hbo:b < wo.heap.size:=by omega
    have k1:(k:Int) < l.length:=by omega
    have d1:decide ((k:Int) < l.length) = true:=decide_eq_true k1
    have HC1:=Lib.hid (fun W (h:Below wo.heap.size wo W) => rangeAt_below c1 h hbo)
    have HC2:=Lib.hid (fun W (h:Below wo.heap.size wo W) => rangeAt_below c2 h (by omega))
    have heq:=HEQ.out l[k] hz
    clear hcell hls hgo
    by_cases he:l[k] = x
    ·have HS:=Lib.hid (putL_same HPL.out hlt he)
     rw [show (l[k] == x) = true from beq_iff_eq.2 he] at heq
     clear he hz
     generalize idC l[k] = uk at c1 h32 HLS2 heq HC1
     go_wp2
     refine wp_region_bq (by kernel_rfl) (by kernel_rfl) ?_
     repeat (go_big_quiet_step ((go_at_call 113;with_reducible exact calls_bw (HLS2.out _))))
     refine bq_row 24 _ _ rfl rfl rfl c1 (by omega) Tryz.underlying24 rfl h32 ?_
     simp only [Act.put,List.setIfInBounds_toArray,List.set_cons_zero,List.set_cons_succ]
     repeat (go_big_quiet_step ((go_at_call 113;with_reducible exact calls_bw (HLS2.out _))))
     refine bq_row 24 _ _ rfl rfl rfl c2 (by omega) Tryz.underlying24 rfl h32x ?_
     simp only [Act.put,List.setIfInBounds_toArray,List.set_cons_zero,List.set_cons_succ]
     repeat (go_big_quiet_step ((go_at_call 113;with_reducible exact calls_bw (HLS2.out _))))
     refine wpQuiet_nil ?_
     intro wq hbq
     have g1:=HC1.out wq hbq
     have g2:=HC2.out wq hbq
     have HB2:=Lib.hid (HBO.out.trans (hbq.mono HBO.out.size))
     have hsq:=hbq.size
     clear hbq c1 c2
     obtain ⟨wp,rfl⟩:∃ wp:World,wp = wq:=⟨_,rfl⟩
     go_wp2
     refine wp_region_bq (by kernel_rfl) (by kernel_rfl) ?_
     repeat (go_big_quiet_step (fail))
     refine bq_row 24 _ _ rfl rfl rfl g1 (by omega) Tryz.underlying24 rfl h32 ?_
     simp only [Act.put,List.setIfInBounds_toArray,List.set_cons_zero,List.set_cons_succ]
     repeat (go_big_quiet_step (fail))
     refine bq_row 24 _ _ rfl rfl rfl g2 (by omega) Tryz.underlying24 rfl h32x ?_
     simp only [Act.put,List.setIfInBounds_toArray,List.set_cons_zero,List.set_cons_succ]
     repeat (go_big_quiet_step (fail))
     refine wpQuiet_nil ?_
     intro wq hbq
     have HB3:=Lib.hid (HB2.out.trans (hbq.mono HB2.out.size))
     clear hbq g1 g2
     go_wp2
     go_ret
     exact ⟨_,rfl,by rw [HS.out];exact HROW.out.below HB3.out,HCAP.out,.inl rfl,HB3.out⟩
    ·have HNEQ:Hid (∀ (hk:k < l.length),l[k] ≠ x):=Lib.hid (fun _ => he)
     rw [show (l[k] == x) = false from beq_eq_false_iff_ne.2 he] at heq
     clear he hz
     generalize idC l[k] = uk at c1 h32 HLS2 heq HC1
     go_wp2
     refine wp_region_bq (by kernel_rfl) (by kernel_rfl) ?_
     repeat (go_big_quiet_step ((go_at_call 113;with_reducible exact calls_bw (HLS2.out _))))
     refine bq_row 24 _ _ rfl rfl rfl c1 (by omega) Tryz.underlying24 rfl h32 ?_
     simp only [Act.put,List.setIfInBounds_toArray,List.set_cons_zero,List.set_cons_succ]
     repeat (go_big_quiet_step ((go_at_call 113;with_reducible exact calls_bw (HLS2.out _))))
     refine bq_row 24 _ _ rfl rfl rfl c2 (by omega) Tryz.underlying24 rfl h32x ?_
     simp only [Act.put,List.setIfInBounds_toArray,List.set_cons_zero,List.set_cons_succ]
     repeat (go_big_quiet_step ((go_at_call 113;with_reducible exact calls_bw (HLS2.out _))))
     refine wpQuiet_nil ?_
     intro wq hbq
     have g1:=HC1.out wq hbq
     have g2:=HC2.out wq hbq
     have HB2:=Lib.hid (HBO.out.trans (hbq.mono HBO.out.size))
     have HB2W:=Lib.hid (HB.out.trans (hbq.mono HB.out.size))
     have hsq:=hbq.size
     clear hbq c1 c2
     obtain ⟨wp,rfl⟩:∃ wp:World,wp = wq:=⟨_,rfl⟩
     go_wp2
     refine wp_region_bq (by kernel_rfl) (by kernel_rfl) ?_
     repeat (go_big_quiet_step (fail))
     refine bq_row 24 _ _ rfl rfl rfl g1 (by omega) Tryz.underlying24 rfl h32 ?_
     simp only [Act.put,List.setIfInBounds_toArray,List.set_cons_zero,List.set_cons_succ]
     repeat (go_big_quiet_step (fail))
     refine bq_row 24 _ _ rfl rfl rfl g2 (by omega) Tryz.underlying24 rfl h32x ?_
     simp only [Act.put,List.setIfInBounds_toArray,List.set_cons_zero,List.set_cons_succ]
     repeat (go_big_quiet_step (fail))
     refine wpQuiet_nil ?_
     intro wq hbq
     have HBZ:=Lib.hid (HB2.out.trans (hbq.mono HB2.out.size))
     have HBZW:=Lib.hid (HB2W.out.trans (hbq.mono HB2W.out.size))
     obtain ⟨wz,rfl⟩:∃ wz:World,wz = wq:=⟨_,rfl⟩
     clear hbq g1 g2 heq HC1 HC2 HLS2 h32
     obtain ⟨ao,hao⟩:∃ ao:Option Addr,ao = some ⟨b,off,none⟩:=⟨_,rfl⟩
     rw [← hao] at HV HROW HCAP ⊢
     clear hao
     have HZR:=Lib.hid (HROW.out.below HBZ.out)
     have HPN:Hid (putL l x = l.take k ++ [x] ++ l.drop k):=Lib.hid (putL_new HPL.out HNEQ.out)
     have HRZ:=Lib.hid (rangeAt_below HRW.out HBZW.out (by rw [HSW.out];omega))
     have hkc:k ≤ cap:=by have:=HNC.out;omega
     have HST:Hid (∀ W,(Instr.sliceAt 28 (.slice ao l.length cap) none (some (.int .i64 k)) none).run Tryz.prog W = .ok (.slice ao k cap) W):=Lib.hid (fun W => run_to_ids W ao l.length cap k hkc)
     have HSF:Hid (∀ W,(Instr.sliceAt 28 (.slice ao l.length cap) (some (.int .i64 k)) none none).run Tryz.prog W = .ok (.slice (if cap = k then ao else ao.map (fun p:Addr => p.add (k * 32))) (l.length - k) (cap - k)) W):=Lib.hid (fun W => run_from_ids W ao l.length cap k hk)
     have HCE:Hid (∀ W,Below w.heap.size w W → ∀ m,0 < ((l.drop m).length) → ∃ b off,ao = some ⟨b,off,none⟩ ∧ ∀ n j u,(idsF ((l.drop m).take n))[j]? = some u → W.cell? ⟨b,off + m * 32 + j,none⟩ = some u):=Lib.hid (fun W hW m hm => by
      obtain ⟨b,off,e,hbl,hc⟩:=HV.out (fun e => by rw [e] at hm;simp at hm)
      exact ⟨b,off,e,fun n j u hu => idsF_sub HL.out (fun i hi => rangeAt_below (hc i hi) hW hbl) m n j u hu⟩)
     have HN1:Hid ((idsF (l.take k)).length = k * 32):=Lib.hid (by rw [idsF_len _ (fun y hy => HL.out y (List.mem_of_mem_take hy)),List.length_take,Nat.min_eq_left hk])
     have HN3:Hid ((idsF (l.drop k)).length = (l.length - k) * 32):=Lib.hid (by rw [idsF_len _ (fun y hy => HL.out y (List.mem_of_mem_drop hy)),List.length_drop])
     have HC1:Hid (0 < k → ∃ ad,ao = some ad ∧ ∀ j u,(idsF (l.take k))[j]? = some u → wz.cell? (ad.add j) = some u):=Lib.hid (fun h0 => by
      obtain ⟨b,off,e,hc⟩:=HCE.out wz HBZ.out 0 (by rw [List.drop_zero];omega)
      refine ⟨_,e,fun j u hu => ?_⟩
      rw [Addr.add_mid]
      have:=hc k j u (by rw [List.drop_zero];exact hu)
      rwa [Nat.zero_mul,Nat.add_zero] at this)
     clear hnc
     go_wp2_with (first
      | (refine wpList_sliceH_run rfl 28 _ _ rfl _ _ rfl rfl _ (HST.out _) ?_)
      | (refine wpList_append_q rfl (.tmp 34) (.tmp 37) 28 rfl wz.heap.size 24 i0 (.agg zi) 32 32 Tryz.underlying28 HI.out hz0 hz1 hz2 HZL.out (by decide) _ 0 [] rfl (ownQ_nil _ _ _) ao k cap (idsF (l.take k)) rfl HN1.out HC1.out (idsF_one _) (by unfold maxLen;omega) (by omega) (Nat.le_refl _) ?_))
     intro v1 w1 hq1 hg1 _
     have HB1:=Lib.hid (HBZ.out.grown hg1 HBZ.out.size (fun j hj => by cases hj))
     have HR1:=Lib.hid (range_grown HRZ.out hg1 (fun e => by cases e))
     have hbb:Below w1.heap.size w1 (w1.alloc (.cells ux.toArray 24)):=(Below.refl _ _).alloc (Nat.le_refl _) _
     have HQ1:=Lib.hid (hq1.below hbb)
     have hwz:wz.heap.size ≤ w1.heap.size:=hg1.size
     have HBB:=Lib.hid (HB1.out.trans (hbb.mono HB1.out.size))
     have HNEW:Hid (∀ j u,ux[j]? = some u → (w1.alloc (.cells ux.toArray 24)).cell? ((⟨w1.heap.size,0,none⟩:Addr).add j) = some u):=Lib.hid (fun j u hj => cells_newL _ ux _ j u hj)
     have HLO1:=Lib.hid (fun k hk => (hq1.below hbb).lt0 k hk)
     clear hq1 hg1 hbb HZR HRZ HC1
     go_wp2_with (first
      | (refine wpList_load_mid rfl 24 _ rfl w.heap.size 0 rfl ux _ HR1.out Tryz.underlying24 rfl h32x ?_)
      | (refine wpList_buildSlice_one rfl (.tmp 40) 28 24 rfl ux zi rfl Tryz.underlying28 HSZ.out hziv (by rw [HUL.out];omega) (by rw [HUL.out];omega) ?_)
      | (refine wpList_append_q rfl (.tmp 39) (.tmp 41) 28 rfl wz.heap.size 24 i0 (.agg zi) 32 32 Tryz.underlying28 HI.out hz0 hz1 hz2 HZL.out (by decide) _ k (idsF (l.take k)) rfl HQ1.out (some ⟨w1.heap.size,0,none⟩) 1 1 ux rfl (by rw [HUL.out]) (fun _ => ⟨_,rfl,HNEW.out⟩) HUO.out (by unfold maxLen;omega) (by omega) (by rw [World.size_alloc];omega) ?_))
     intro v2 w2 hq2 hg2 _
     have HB2:=Lib.hid (HBB.out.grown hg2 HBB.out.size (fun j hj => by have:=(HLO1.out j hj).1;have:=HBZ.out.size;omega))
     obtain ⟨sa,hsa⟩:∃ sa,(if cap = k then ao else ao.map (fun p:Addr => p.add (k * 32))) = sa:=⟨_,rfl⟩
     have HC3:Hid (0 < l.length - k → ∃ ad,sa = some ad ∧ ∀ j u,(idsF (l.drop k))[j]? = some u → w2.cell? (ad.add j) = some u):=Lib.hid (fun h0 => by
      obtain ⟨b2,off2,e,hc⟩:=HCE.out w2 HB2.out k (by rw [List.length_drop];exact h0)
      have hck:cap ≠ k:=by have:=HNC.out;omega
      refine ⟨⟨b2,off2 + k * 32,none⟩,by rw [← hsa,if_neg hck,e];exact congrArg some (Addr.add_mid b2 off2 (k * 32)),fun j u hu => ?_⟩
      rw [Addr.add_mid]
      exact hc (l.length - k) j u (by rw [List.take_of_length_le (by rw [List.length_drop];exact Nat.le_refl _)];exact hu))
     rw [hsa] at HSF
     have HQ2:=Lib.hid hq2
     have hwz2:wz.heap.size ≤ w2.heap.size:=by have:=hg2.size;rw [World.size_alloc] at this;omega
     clear hq2 hg2 hsa HB1 HBB HR1 HQ1 HNEW HCE
     go_wp2_with (first
      | (refine wpList_slice_run rfl 28 _ _ rfl _ _ rfl rfl _ (HSF.out _) ?_)
      | (refine wpList_append_q rfl (.tmp 43) (.tmp 46) 28 rfl wz.heap.size 24 i0 (.agg zi) 32 32 Tryz.underlying28 HI.out hz0 hz1 hz2 HZL.out (by decide) _ (k + 1) (idsF (l.take k) ++ ux) rfl HQ2.out sa (l.length - k) (cap - k) (idsF (l.drop k)) rfl HN3.out HC3.out (idsF_one _) (by unfold maxLen;omega) (by omega) hwz2 ?_))
     intro v3 w3 hq3 hg3 _
     have HB3:=Lib.hid (HB2.out.grown hg3 HB2.out.size (fun j hj => by have:=(HQ2.out.lt0 j hj).1;have:=HBZ.out.size;omega))
     have HEND:Hid (IdRow w3 v3 (putL l x) ∧ CapI v3):=Lib.hid (idRow_own (B:=wz.heap.size) (by
      rw [HPN.out,idsF_append,idsF_append,HCX.out]
      have e:(l.take k ++ [x] ++ l.drop k).length = k + 1 + (l.length - k):=by
       rw [List.length_append,List.length_append,List.length_take,List.length_drop,Nat.min_eq_left hk];rfl
      rw [e,List.append_assoc];exact hq3) (fun y hy => by
      rcases (putL_mem l x y).1 hy with h | h
      ·exact HL.out y h
      ·rw [h];exact HX.out))
     have HFRE:=Lib.hid (fun k (hk:v3.ownBlock = some k) => Nat.le_trans HBZ.out.size (hq3.lt0 k hk).1)
     clear hq3 hg3
     go_wp2
     go_ret
     exact ⟨_,rfl,HEND.out.1,HEND.out.2,.inr HFRE.out,HB3.out⟩
   ·have hke:k = l.length:=by omega
    have HNEQ:Hid (∀ (hk:k < l.length),l[k] ≠ x):=Lib.hid (fun h => absurd h hlt)
    have d1:decide ((k:Int) < l.length) = false:=decide_eq_false (by omega)
    clear hgo hke c2
    go_wp2
    refine wp_region_bq (by kernel_rfl) (by kernel_rfl) ?_
    repeat (go_big_quiet_step (fail))
    refine wpQuiet_nil ?_
    intro wq hbq
    have HB2:=Lib.hid (HBO.out.trans (hbq.mono HBO.out.size))
    have HB2W:=Lib.hid (HB.out.trans (hbq.mono HB.out.size))
    clear hbq
    obtain ⟨wp,rfl⟩:∃ wp:World,wp = wq:=⟨_,rfl⟩
    go_wp2
    refine wp_region_bq (by kernel_rfl) (by kernel_rfl) ?_
    repeat (go_big_quiet_step (fail))
    refine wpQuiet_nil ?_
    intro wq hbq
    have HBZ:=Lib.hid (HB2.out.trans (hbq.mono HB2.out.size))
    have HBZW:=Lib.hid (HB2W.out.trans (hbq.mono HB2W.out.size))
    obtain ⟨wz,rfl⟩:∃ wz:World,wz = wq:=⟨_,rfl⟩
    clear hbq
    have HZR:=Lib.hid (HROW.out.below HBZ.out)
    have HPN:Hid (putL l x = l.take k ++ [x] ++ l.drop k):=Lib.hid (putL_new HPL.out HNEQ.out)
    have HRZ:=Lib.hid (rangeAt_below HRW.out HBZW.out (by rw [HSW.out];omega))
    have hkc:k ≤ cap:=by have:=HNC.out;omega
    have HST:Hid (∀ W,(Instr.sliceAt 28 (.slice ao l.length cap) none (some (.int .i64 k)) none).run Tryz.prog W = .ok (.slice ao k cap) W):=Lib.hid (fun W => run_to_ids W ao l.length cap k hkc)
    have HSF:Hid (∀ W,(Instr.sliceAt 28 (.slice ao l.length cap) (some (.int .i64 k)) none none).run Tryz.prog W = .ok (.slice (if cap = k then ao else ao.map (fun p:Addr => p.add (k * 32))) (l.length - k) (cap - k)) W):=Lib.hid (fun W => run_from_ids W ao l.length cap k hk)
    have HCE:Hid (∀ W,Below w.heap.size w W → ∀ m,0 < ((l.drop m).length) → ∃ b off,ao = some ⟨b,off,none⟩ ∧ ∀ n j u,(idsF ((l.drop m).take n))[j]? = some u → W.cell? ⟨b,off + m * 32 + j,none⟩ = some u):=Lib.hid (fun W hW m hm => by
     obtain ⟨b,off,e,hbl,hc⟩:=HV.out (fun e => by rw [e] at hm;simp at hm)
     exact ⟨b,off,e,fun n j u hu => idsF_sub HL.out (fun i hi => rangeAt_below (hc i hi) hW hbl) m n j u hu⟩)
    have HN1:Hid ((idsF (l.take k)).length = k * 32):=Lib.hid (by rw [idsF_len _ (fun y hy => HL.out y (List.mem_of_mem_take hy)),List.length_take,Nat.min_eq_left hk])
    have HN3:Hid ((idsF (l.drop k)).length = (l.length - k) * 32):=Lib.hid (by rw [idsF_len _ (fun y hy => HL.out y (List.mem_of_mem_drop hy)),List.length_drop])
    have HC1:Hid (0 < k → ∃ ad,ao = some ad ∧ ∀ j u,(idsF (l.take k))[j]? = some u → wz.cell? (ad.add j) = some u):=Lib.hid (fun h0 => by
     obtain ⟨b,off,e,hc⟩:=HCE.out wz HBZ.out 0 (by rw [List.drop_zero];omega)
     refine ⟨_,e,fun j u hu => ?_⟩
     rw [Addr.add_mid]
     have:=hc k j u (by rw [List.drop_zero];exact hu)
     rwa [Nat.zero_mul,Nat.add_zero] at this)
    clear hnc
    go_wp2_with (first
     | (refine wpList_sliceH_run rfl 28 _ _ rfl _ _ rfl rfl _ (HST.out _) ?_)
     | (refine wpList_append_q rfl (.tmp 34) (.tmp 37) 28 rfl wz.heap.size 24 i0 (.agg zi) 32 32 Tryz.underlying28 HI.out hz0 hz1 hz2 HZL.out (by decide) _ 0 [] rfl (ownQ_nil _ _ _) ao k cap (idsF (l.take k)) rfl HN1.out HC1.out (idsF_one _) (by unfold maxLen;omega) (by omega) (Nat.le_refl _) ?_))
    intro v1 w1 hq1 hg1 _
    have HB1:=Lib.hid (HBZ.out.grown hg1 HBZ.out.size (fun j hj => by cases hj))
    have HR1:=Lib.hid (range_grown HRZ.out hg1 (fun e => by cases e))
    have hbb:Below w1.heap.size w1 (w1.alloc (.cells ux.toArray 24)):=(Below.refl _ _).alloc (Nat.le_refl _) _
    have HQ1:=Lib.hid (hq1.below hbb)
    have hwz:wz.heap.size ≤ w1.heap.size:=hg1.size
    have HBB:=Lib.hid (HB1.out.trans (hbb.mono HB1.out.size))
    have HNEW:Hid (∀ j u,ux[j]? = some u → (w1.alloc (.cells ux.toArray 24)).cell? ((⟨w1.heap.size,0,none⟩:Addr).add j) = some u):=Lib.hid (fun j u hj => cells_newL _ ux _ j u hj)
    have HLO1:=Lib.hid (fun k hk => (hq1.below hbb).lt0 k hk)
    clear hq1 hg1 hbb HZR HRZ HC1
    go_wp2_with (first
     | (refine wpList_load_mid rfl 24 _ rfl w.heap.size 0 rfl ux _ HR1.out Tryz.underlying24 rfl h32x ?_)
     | (refine wpList_buildSlice_one rfl (.tmp 40) 28 24 rfl ux zi rfl Tryz.underlying28 HSZ.out hziv (by rw [HUL.out];omega) (by rw [HUL.out];omega) ?_)
     | (refine wpList_append_q rfl (.tmp 39) (.tmp 41) 28 rfl wz.heap.size 24 i0 (.agg zi) 32 32 Tryz.underlying28 HI.out hz0 hz1 hz2 HZL.out (by decide) _ k (idsF (l.take k)) rfl HQ1.out (some ⟨w1.heap.size,0,none⟩) 1 1 ux rfl (by rw [HUL.out]) (fun _ => ⟨_,rfl,HNEW.out⟩) HUO.out (by unfold maxLen;omega) (by omega) (by rw [World.size_alloc];omega) ?_))
    intro v2 w2 hq2 hg2 _
    have HB2:=Lib.hid (HBB.out.grown hg2 HBB.out.size (fun j hj => by have:=(HLO1.out j hj).1;have:=HBZ.out.size;omega))
    obtain ⟨sa,hsa⟩:∃ sa,(if cap = k then ao else ao.map (fun p:Addr => p.add (k * 32))) = sa:=⟨_,rfl⟩
    have HC3:Hid (0 < l.length - k → ∃ ad,sa = some ad ∧ ∀ j u,(idsF (l.drop k))[j]? = some u → w2.cell? (ad.add j) = some u):=Lib.hid (fun h0 => by
     obtain ⟨b2,off2,e,hc⟩:=HCE.out w2 HB2.out k (by rw [List.length_drop];exact h0)
     have hck:cap ≠ k:=by have:=HNC.out;omega
     refine ⟨⟨b2,off2 + k * 32,none⟩,by rw [← hsa,if_neg hck,e];exact congrArg some (Addr.add_mid b2 off2 (k * 32)),fun j u hu => ?_⟩
     rw [Addr.add_mid]
     exact hc (l.length - k) j u (by rw [List.take_of_length_le (by rw [List.length_drop];exact Nat.le_refl _)];exact hu))
    rw [hsa] at HSF
    have HQ2:=Lib.hid hq2
    have hwz2:wz.heap.size ≤ w2.heap.size:=by have:=hg2.size;rw [World.size_alloc] at this;omega
    clear hq2 hg2 hsa HB1 HBB HR1 HQ1 HNEW HCE
    go_wp2_with (first
     | (refine wpList_slice_run rfl 28 _ _ rfl _ _ rfl rfl _ (HSF.out _) ?_)
     | (refine wpList_append_q rfl (.tmp 43) (.tmp 46) 28 rfl wz.heap.size 24 i0 (.agg zi) 32 32 Tryz.underlying28 HI.out hz0 hz1 hz2 HZL.out (by decide) _ (k + 1) (idsF (l.take k) ++ ux) rfl HQ2.out sa (l.length - k) (cap - k) (idsF (l.drop k)) rfl HN3.out HC3.out (idsF_one _) (by unfold maxLen;omega) (by omega) hwz2 ?_))
    intro v3 w3 hq3 hg3 _
    have HB3:=Lib.hid (HB2.out.grown hg3 HB2.out.size (fun j hj => by have:=(HQ2.out.lt0 j hj).1;have:=HBZ.out.size;omega))
    have HEND:Hid (IdRow w3 v3 (putL l x) ∧ CapI v3):=Lib.hid (idRow_own (B:=wz.heap.size) (by
     rw [HPN.out,idsF_append,idsF_append,HCX.out]
     have e:(l.take k ++ [x] ++ l.drop k).length = k + 1 + (l.length - k):=by
      rw [List.length_append,List.length_append,List.length_take,List.length_drop,Nat.min_eq_left hk];rfl
     rw [e,List.append_assoc];exact hq3) (fun y hy => by
     rcases (putL_mem l x y).1 hy with h | h
     ·exact HL.out y h
     ·rw [h];exact HX.out))
    have HFRE:=Lib.hid (fun k (hk:v3.ownBlock = some k) => Nat.le_trans HBZ.out.size (hq3.lt0 k hk).1)
    clear hq3 hg3
    go_wp2
    go_ret
    exact ⟨_,rfl,HEND.out.1,HEND.out.2,.inr HFRE.out,HB3.out⟩
end Go.Proofs.YtbmiiiccnoiffaaGreatDoor
