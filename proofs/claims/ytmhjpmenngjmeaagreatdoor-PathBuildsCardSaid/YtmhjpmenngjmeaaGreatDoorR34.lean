/- YtmhjpmenngjmeaaGreatDoorR34: texts K2 of this claim, in one. -/
import Derived.Test.YtmhjpmenngjmeaaGreatDoorR22
import Derived.Test.YtmhjpmenngjmeaaGreatDoorR28
namespace Go.Proofs.YtmhjpmenngjmeaaGreatDoor
open Go.RowKit
set_option maxRecDepth 100000 in
set_option maxHeartbeats 2000000 in
theorem rless32_any (x y:Idl) (w:World) (hx:x.length = 32) (hy:y.length = 32) :
  Calls Tryz.prog 72 #[.agg (idC x).toArray,.agg (idC y).toArray] w fun e w' => e = .returned (.bool (ltB x y)) ∧ Below w.heap.size w w':=by
 obtain ⟨W,hW⟩:∃ W,W = (w.alloc (.cells (idC x).toArray 27)).alloc (.cells (idC y).toArray 27):=⟨_,rfl⟩
 have hbW:Below w.heap.size w W:=by rw [hW];exact ((Below.refl _ _).alloc (Nat.le_refl _) _).alloc (by simp) _
 have hrx:W.rangeAt w.heap.size 0 (idC x):=by
  rw [hW];exact rangeAt_below (range_new w (idC x) 27 rfl) ((Below.refl _ _).alloc (Nat.le_refl _) _) (by simp)
 have hry:W.rangeAt (w.heap.size + 1) 0 (idC y):=by rw [hW];exact range_new _ _ _ (by simp)
 have hsW:W.heap.size = w.heap.size + 1 + 1:=by rw [hW];simp
 have key:∀ (z:Idl) (b:Nat),z.length = 32 → W.rangeAt b 0 (idC z) → ∀ k (h:k < z.length),W.cell? ⟨b,k,none⟩ = some (.int .u8 (z[k].toNat:Int)):=fun z b hz hr k hk => by
  have:=hr k (.int .u8 (z[k].toNat:Int)) (by unfold idC;rw [List.getElem?_map,List.getElem?_eq_getElem hk];rfl)
  rwa [Nat.zero_add] at this
 have HCX:=Lib.hid (key x _ hx hrx)
 have HCY:=Lib.hid (key y _ hy hry)
 have HLX:=Lib.hid hx
 have HLY:=Lib.hid hy
 have HBW:=Lib.hid hbW
 have HSW:=Lib.hid hsW
 clear key hrx hry hx hy hbW hsW
 generalize idC x = ux at hW
 generalize idC y = uy at hW
 go_enter Tryz.func72,Tryz.ntmps72
 go_wp2
 rw [← hW]
 clear hW
 go_loopw [5] (fun i wr => ∃ k:Nat,k ≤ 32 ∧ i = .int .i64 k ∧ Hid (x.take k = y.take k) ∧ Hid (Below W.heap.size W wr)) (fun i _ => (32 - intOf i).toNat)
 case atStart => exact ⟨0,by omega,rfl,Lib.hid rfl,Lib.hid (Below.refl _ _)⟩
 case round =>
  obtain ⟨wo,rfl⟩:∃ wo:World,wo = wr:=⟨_,rfl⟩
  obtain ⟨k,hk,rfl,HT,HB⟩:=hrel
  have hsz:=HB.out.size
  by_cases hlt:k < 32
  ·have h1:k < x.length:=by rw [HLX.out];exact hlt
   have h2:k < y.length:=by rw [HLY.out];exact hlt
   have e1:=below_load (HCX.out k h1) HB.out (by rw [HSW.out];omega)
   have e2:=below_load (HCY.out k h2) HB.out (by rw [HSW.out];omega)
   have hs1:w.heap.size + 1 + 1 ≤ wo.heap.size:=by rw [← HSW.out];exact hsz
   have k0:(0:Int) ≤ k:=by omega
   have k1:(k:Int) < 32:=by omega
   by_cases hne:x[k] = y[k]
   ·have HN:Hid (x.take (k + 1) = y.take (k + 1)):=Lib.hid (by rw [List.take_succ_eq_append_getElem h1,List.take_succ_eq_append_getElem h2,HT.out,hne])
    rw [hne] at e1
    generalize (y[k].toNat:Int) = c at e1 e2
    have d:(c != c) = false:=by simp
    clear hne hsz
    go_wp2
    refine wp_region_bq (by kernel_rfl) (by kernel_rfl) ?_
    have LQ0:=fun x:BW (World.heap wo).size wo => below_load e1 x.hb (by omega)
    have LQ1:=fun x:BW (World.heap wo).size wo => below_load e2 x.hb (by omega)
    repeat (go_big_quiet_step (fail))
    refine wpQuiet_nil ?_
    intro wq hbq
    clear LQ0 LQ1
    have HB2:=Lib.hid (HB.out.trans (hbq.mono HB.out.size))
    clear hbq e1 e2
    go_wp2
    go_roundw
    case rel => exact ⟨k + 1,by omega,by go_num,HN,HB2⟩
    case measure => simp [intOf];omega
   ·have hd:(x[k].toNat:Int) ≠ (y[k].toNat:Int):=fun e => hne (UInt8.toNat_inj.1 (by omega))
    have HL:=Lib.hid (ltB_at h1 h2 HT.out hne)
    have d:((x[k].toNat:Int) != (y[k].toNat:Int)) = true:=by rw [bne_iff_ne];exact hd
    have d2:decide ((x[k].toNat:Int) < (y[k].toNat:Int)) = ltB x y:=by
     rw [HL.out]
     by_cases h:x[k].toNat < y[k].toNat
     ·rw [decide_eq_true h,decide_eq_true (by omega)]
     ·rw [decide_eq_false h,decide_eq_false (by omega)]
    generalize (x[k].toNat:Int) = c at e1 d d2
    generalize (y[k].toNat:Int) = c' at e2 d d2
    obtain ⟨r,hr⟩:∃ r,ltB x y = r:=⟨_,rfl⟩
    rw [hr] at d2
    have HRR:=Lib.hid hr
    clear hr
    clear hne hd hsz HL
    go_wp2
    refine wp_region_bq (by kernel_rfl) (by kernel_rfl) ?_
    have LQ0:=fun x:BW (World.heap wo).size wo => below_load e1 x.hb (by omega)
    have LQ1:=fun x:BW (World.heap wo).size wo => below_load e2 x.hb (by omega)
    repeat (go_big_quiet_step (fail))
    refine wpQuiet_nil ?_
    intro wq hbq
    clear LQ0 LQ1
    have e3:=below_load e1 hbq (by omega)
    have e4:=below_load e2 hbq (by omega)
    have HB2:=Lib.hid (HB.out.trans (hbq.mono HB.out.size))
    have hs2:w.heap.size + 1 + 1 ≤ wq.heap.size:=by have:=hbq.size;omega
    clear hbq e1 e2 HB
    obtain ⟨wp,rfl⟩:∃ wp:World,wp = wq:=⟨_,rfl⟩
    go_wp2
    refine wp_region_bq (by kernel_rfl) (by kernel_rfl) ?_
    have LQ0:=fun x:BW (World.heap wp).size wp => below_load e3 x.hb (by omega)
    have LQ1:=fun x:BW (World.heap wp).size wp => below_load e4 x.hb (by omega)
    repeat (go_big_quiet_step (fail))
    refine wpQuiet_nil ?_
    intro wq hbq
    clear LQ0 LQ1
    have HB3:=Lib.hid (HBW.out.trans ((HB2.out.trans (hbq.mono HB2.out.size)).mono HBW.out.size))
    clear hbq e3 e4
    go_wp2
    go_ret
    exact ⟨ret_bool HRR.out.symm,HB3.out⟩
  ·obtain rfl:k = 32:=by omega
   have HR:Hid (ltB x y = false):=Lib.hid (by
    have:=HT.out
    rw [List.take_of_length_le (by rw [HLX.out];omega),List.take_of_length_le (by rw [HLY.out];omega)] at this
    rw [this,ltB_irrefl])
   clear hsz
   go_wp2
   go_ret
   exact ⟨ret_bool HR.out.symm,HBW.out.trans (HB.out.mono HBW.out.size)⟩
end Go.Proofs.YtmhjpmenngjmeaaGreatDoor
