/- YtmhjpmenngjmeaaGreatDoorR39: texts TR of this claim, in one. -/
import Derived.Test.YtmhjpmenngjmeaaGreatDoorR20
import Derived.Test.YtmhjpmenngjmeaaGreatDoorR35
import Derived.Test.YtmhjpmenngjmeaaGreatDoorR37
namespace Go.Proofs.YtmhjpmenngjmeaaGreatDoor
open Go.RowKit Go.Sort Go.Shelf
set_option maxRecDepth 100000
def rawE (m:List EJ):List Ent:=m.map (·.1)
def TrSt (b:Nat) (m:List EJ) (W:World) (i:Value) (wr:World):Prop :=
 ∃ k:Nat,i = .int .i64 (k:Int) ∧ k ≤ m.length ∧ Wr b b (treeB ((rawE m).take k)) wr ∧ Below b W wr ∧ (k = 0 → wr = W)
theorem take_ent (m:List EJ) (k:Nat) (hk:k < m.length):treeB ((rawE m).take (k + 1)) = treeB ((rawE m).take k) ++ m[k].1.bytes:=by
 have h:=treeB_snoc (rawE m) k (by simpa [rawE] using hk)
 rw [h];simp [rawE]
theorem take_len (m:List EJ) (hz:∀ e ∈ m,e.1.name.size ≤ 1000 ∧ e.1.kind ≤ 2) (hn:m.length ≤ 400):∀ k,(treeB ((rawE m).take k)).length ≤ 500000:=by
 have key:∀ l:List Ent,(∀ e ∈ l,e.name.size ≤ 1000 ∧ e.kind ≤ 2 ∧ e.id.length = 32) → (treeB l).length ≤ 1050 * l.length:=by
  intro l
  induction l with
  | nil => intro _;simp [treeB]
  | cons a l ih =>
   intro h
   obtain ⟨h1,h2,h3⟩:=h a List.mem_cons_self
   have i1:=ih fun e he => h e (List.mem_cons_of_mem _ he)
   have e1:(treeB (a :: l)).length = a.bytes.length + (treeB l).length:=by simp [treeB]
   have e2:a.bytes.length = (numB a.kind).length + ((numB a.name.size).length + a.name.data.toList.length) + a.id.length:=by simp [Ent.bytes];omega
   have e3:=numB_le6 (n:=a.kind) (by omega)
   have e4:=numB_le6 (n:=a.name.size) (by omega)
   rw [e1,e2,dl_len,List.length_cons,h3]
   omega
 intro k
 have h1:=key ((rawE m).take k) (fun e he => by
  have he:=List.mem_of_mem_take he
  obtain ⟨x,hx,rfl⟩:=List.mem_map.1 he
  exact ⟨(hz x hx).1,(hz x hx).2,x.2⟩)
 have h2:((rawE m).take k).length ≤ 400:=by rw [List.length_take];simp [rawE];omega
 omega
def TrmAns (l:List EJ) (w:World) (e:Ending) (w':World):Prop:=∃ m:List EJ,List.Perm m l ∧ Row2 m ∧ MadeAns (treeOk (rawE m)) ⟨2,ofB (treeB (rawE m))⟩ w e w'
set_option maxHeartbeats 4000000 in
theorem otree_mk {N:Nat} (hN:SortsTo N) (v:Value) (l:List EJ) (w:World) (hv:RowOf w v 34 (l.map encE)) (hz:∀ e ∈ l,e.1.name.size ≤ 1000 ∧ e.1.kind ≤ 2) (hn:l.length ≤ N) (hn4:l.length ≤ 400) :
  Calls Tryz.prog 33 #[v] w (TrmAns l w):=by
 obtain ⟨ao,cap,rfl,hmax,hcells⟩:=rowE_open hv
 obtain ⟨zs,i0,hi,hz0,hz1,hz2,hzv,hbu,hzs⟩:=ent_zero
 have hzl:zs.size = 34:=by rw [hzs];simp
 obtain ⟨W,hW⟩:∃ W,w.alloc (.cells #[.int .i64 0,.string ⟨#[]⟩] 59) = W:=⟨_,rfl⟩
 have hbW:Below w.heap.size w W:=by rw [← hW];exact (Below.refl _ _).alloc (Nat.le_refl _) _
 have hsW:W.heap.size = w.heap.size + 1:=by rw [← hW];simp
 have hthW:W.there w.heap.size 0 2:=by rw [← hW];exact there_alloc w _ _ rfl
 have HVA:=Lib.hid (ivals_any ao l.length cap W)
 obtain ⟨V,hV⟩:∃ V,W.alloc (.cells #[.slice ao l.length cap] 79) = V:=⟨_,rfl⟩
 have hbV:Below W.heap.size W V:=by rw [← hV];exact (Below.refl _ _).alloc (Nat.le_refl _) _
 have hcV:V.cell? ⟨W.heap.size,0,none⟩ = some (.slice ao l.length cap):=by rw [← hV,World.cell?_alloc_new];rfl
 have HSS:=Lib.hid (sstable_any hN W.heap.size _ l V hcV ((RowOf.below hv hbW).below hbV) (by omega) hn)
 have HBV:=Lib.hid (hbW.trans (hbV.mono hbW.size))
 have HTV:=Lib.hid (there_below hthW hbV (by omega))
 have HSV:Hid (W.heap.size + 1 = V.heap.size):=Lib.hid (by rw [← hV];simp)
 rw [hV] at HVA
 have HW:=Lib.hid hW
 have HSW:=Lib.hid hsW
 clear hv hcells hbW hthW hbV hcV hV hbu hzs hW hsW
 go_enter Tryz.func33,Tryz.ntmps33
 go_upto_region 1 with fail
 rw [HW.out]
 go_wp2_with fail
 refine HVA.out.mono ?_
 rintro e w1 ⟨rfl,rfl⟩
 go_wp2_with fail
 refine HSS.out.mono ?_
 rintro e w1 ⟨u,m,rfl,hp,hr2,hrow,hb1⟩
 obtain ⟨uo,uc,rfl,humax,hucells⟩:=rowE_open hrow
 have hml:=hp.length_eq
 obtain ⟨b,hb⟩:∃ b,w1.heap.size = b:=⟨_,rfl⟩
 obtain ⟨X,hX⟩:∃ X,w1.alloc (.cells #[.pointer none,.slice none 0 0] 127) = X:=⟨_,rfl⟩
 have hbX:Below w1.heap.size w1 X:=by rw [← hX];exact (Below.refl _ _).alloc (Nat.le_refl _) _
 have hsX:X.heap.size = b + 1:=by rw [← hX,← hb];simp
 have hWr:Wr b b [] X:=by
  have:=Lib.fresh_isBuilder 127 5 w1
  rw [hX,hb] at this
  exact this
 have hXb:X.heap[b]? = some (.cells #[.pointer none,.slice none 0 0] 127 (0,0)):=by rw [← hX,← hb];exact World.alloc_heap_new w1 _
 have HB1:=Lib.hid (HBV.out.trans (hb1.mono HBV.out.size))
 have hs1:=HB1.out.size
 have HBX:=Lib.hid (HB1.out.trans (hbX.mono HB1.out.size))
 have HTX:=Lib.hid (there_below (there_below HTV.out hb1 (by have:=HSV.out;have:=HSW.out;omega)) hbX (by have:=hb1.size;have:=HSV.out;have:=HSW.out;omega))
 have HROW:=Lib.hid ((RowOf.below hrow hbX))
 have HCE:Hid (m ≠ [] → ∃ c off,uo = some ⟨c,off,none⟩ ∧ c < b ∧ ∀ k (hk:k < m.length),X.rangeAt c (off + k * 34) (encE m[k])):=Lib.hid (fun hne => by
  obtain ⟨c,off,e,hl,hc⟩:=hucells hne
  rw [hb] at hl
  exact ⟨c,off,e,hl,fun k hk => rangeAt_below (hc k hk) hbX (by omega)⟩)
 have HZ:Hid (∀ e ∈ m,e.1.name.size ≤ 1000 ∧ e.1.kind ≤ 2):=Lib.hid (fun e he => hz e (hp.mem_iff.1 he))
 have HP:=Lib.hid hp
 have HR2:=Lib.hid hr2
 have HLEN:=Lib.hid (take_len m HZ.out (by omega))
 have HWR:=Lib.hid hWr
 have HXB:=Lib.hid hXb
 have HX:=Lib.hid hX
 have HBE:=Lib.hid hb
 have HSX:=Lib.hid hsX
 have hm4:m.length ≤ 400:=by omega
 have HVB:Hid (w.heap.size < b):=Lib.hid (by have:=hb1.size;have:=HSV.out;have:=HSW.out;omega)
 clear hucells hrow hb1 hbX hWr hXb hX hp hr2 hml hb hsX
 go_upto_region 3 with fail
 rw [HX.out]
 go_wp2_with fail
 rw [HBE.out]
 go_loopw [12] (fun i wr => TrSt b m X i wr) (fun i _ => (m.length - intOf i).toNat)
 case atStart => exact ⟨0,rfl,by omega,by simpa [treeB] using HWR.out,Below.refl _ _,fun _ => rfl⟩
 case round =>
  obtain ⟨wo,rfl⟩:∃ wo:World,wo = wr:=⟨_,rfl⟩
  obtain ⟨k,rfl,hk,hwr,hbo,h0⟩:=hrel
  have HWO:=Lib.hid hwr
  have HBO:=Lib.hid hbo
  by_cases hlt:k < m.length
  ·obtain ⟨c,off,rfl,hcl,hcell⟩:=HCE.out (by intro e;rw [e] at hlt;simp at hlt)
   have hsb:b < wo.heap.size:=hwr.lt
   obtain ⟨x,hx⟩:∃ x,m[k] = x:=⟨_,rfl⟩
   have f1:wo.rangeAt c (off + k * 34) (encE x):=by rw [← hx];exact rangeAt_below (hcell k hlt) hbo hcl
   have HTK:Hid (treeB ((rawE m).take (k + 1)) = treeB ((rawE m).take k) ++ x.1.bytes):=Lib.hid (by rw [← hx];exact take_ent m k hlt)
   have hxz:=HZ.out x (by rw [← hx];exact List.getElem_mem hlt)
   have hL:=HLEN.out k
   obtain ⟨L,hLe⟩:∃ L,treeB ((rawE m).take k) = L:=⟨_,rfl⟩
   rw [hLe] at HTK HWO hL
   have h34:=ent34 x
   have hxl:=encE_len x
   have h32:x.1.id.length = 32:=x.2
   obtain ⟨W3,hW3⟩:∃ W3,(wo.alloc (.cells zs 84)).setCells wo.heap.size 0 (encE x) = W3:=⟨_,rfl⟩
   have wr3:=wrote (by rw [hxl,hzl]) (by rw [hzl];omega) hW3
   obtain ⟨cur,hcur⟩:=wrote_type wo zs 84 (encE x)
   rw [hW3] at hcur
   have HEB:Hid (∀ Y,OnW b b W3 Y → Y.cell? ⟨wo.heap.size,0,none⟩ = some (.string x.1.name) ∧ Y.cell? ⟨wo.heap.size,1,none⟩ = some (.int .i64 (x.1.kind:Int)) ∧ Y.rangeAt wo.heap.size 2 (idC x.1.id)):=Lib.hid (fun Y hY => by
    have hh:=(hY.off _ _ hcur (by omega) (fun cur' e => by have:=(Obj.cells.inj e).2.1;revert this;decide)).trans hcur.symm
    have hc:∀ j,Y.cell? ⟨wo.heap.size,j,none⟩ = W3.cell? ⟨wo.heap.size,j,none⟩:=fun j => World.cell?_of_block (a:=⟨wo.heap.size,j,none⟩) hh
    refine ⟨(hc 0).trans (wr3.row 0 _ rfl),(hc 1).trans (wr3.row 1 _ rfl),fun j u hu => (hc (2 + j)).trans ?_⟩
    have:=wr3.row (2 + j) u (by unfold encE entC;rw [List.getElem?_append_right (by simp)];simpa using hu)
    rwa [Nat.zero_add] at this)
   have hb3:OnW b b wo W3:=OnW.below wr3.bel (by omega)
   have hw3:Wr b b L W3:=HWO.out.below wr3.bel
   have e3:=HEB.out W3 (OnW.refl _ _ _)
   have a0:=e3.1
   have a1:=e3.2.1
   have HW3:=Lib.hid hW3
   have HTH:=Lib.hid (there_alloc wo zs 84 hzl)
   have HON:=Lib.hid (encE_one x)
   have HXL:=Lib.hid hxl
   have hba:∀ (Y:World) (o:Obj),Below Y.heap.size Y (Y.alloc o):=fun Y o => (Below.refl _ _).alloc (Nat.le_refl _) _
   have hs3:b < W3.heap.size:=hw3.lt
   have HN:=Lib.hid (wnumber_x b b L W3.heap.size x.1.kind (W3.alloc (.cells #[.int .i64 (x.1.kind:Int)] 3)) (hw3.below (hba _ _)) (by rw [World.cell?_alloc_new];rfl) (by omega) (by omega) (by rw [World.size_alloc];omega))
   have HB3:=Lib.hid hb3
   have d1:decide ((k:Int) < m.length) = true:=decide_eq_true (by omega)
   have k0:(0:Int) ≤ k:=by omega
   have k1:(k:Int) < m.length:=by omega
   clear hcell hx hxl wr3 hcur hW3 e3 hb3 h0 hLe hwr hbo hs3
   generalize encE x = ux at f1 h34 HW3 HTH HON HXL
   go_wp2_with (first
    | (refine wpList_load_mid rfl 84 _ rfl c (off + k * 34) rfl ux _ f1 Tryz.underlying84 rfl h34 ?_)
    | (refine wpList_store_list rfl 84 _ _ rfl wo.heap.size 0 ux rfl rfl 34 HXL.out HTH.out (by kernel_rfl) HON.out ?_;rw [HW3.out]))
   refine HN.out.mono ?_
   rintro e w4 ⟨rfl,hw4,hb4⟩
   have hO4:OnW b b W3 w4:=(OnW.below (hba _ _) (Nat.le_of_lt hw3.lt)).trans hb4
   have e4:=HEB.out w4 hO4
   have c0:=e4.1
   have hs4:b < w4.heap.size:=hw4.lt
   have HT:=Lib.hid (wwtext_x b b (L ++ numB x.1.kind) w4.heap.size x.1.name (w4.alloc (.cells #[.string x.1.name] 9)) (hw4.below (hba _ _)) (by rw [World.cell?_alloc_new];rfl) (by omega) (by rw [List.length_append];have:=numB_le6 (n:=x.1.kind) (by omega);omega) (by rw [World.size_alloc];omega))
   have HO4:=Lib.hid hO4
   clear hO4 hb4 e4 a0 a1 HN hs4
   go_wp2_with fail
   refine HT.out.mono ?_
   rintro e w5 ⟨rfl,hw5,hb5⟩
   have hO5:OnW b b W3 w5:=HO4.out.trans ((OnW.below (hba _ _) (Nat.le_of_lt hw4.lt)).trans hb5)
   have r5:=(HEB.out w5 hO5).2.2
   have hs5:b < w5.heap.size:=hw5.lt
   have hxc:(idC x.1.id).length = 32:=by rw [idC_len,h32]
   have hrow1:IdRow (w5.alloc (.cells (idC x.1.id).toArray 27)) (.slice (some ⟨w5.heap.size,0,none⟩) 1 1) [x.1.id]:=⟨some ⟨w5.heap.size,0,none⟩,1,rfl,by unfold maxLen;simp,fun _ => ⟨w5.heap.size,0,rfl,by simp,fun i hi => by
    have hi0:i = 0:=by simpa using hi
    subst hi0
    show (w5.alloc (.cells (idC x.1.id).toArray 27)).rangeAt w5.heap.size (0 + 0 * 32) (idC x.1.id)
    rw [Nat.zero_mul]
    exact range_new _ _ _ rfl⟩⟩
   have hnb:=numB_le6 (n:=x.1.kind) (by omega)
   have hns:=numB_le6 (n:=x.1.name.size) (by omega)
   have HI:=Lib.hid (wwid_x b b (L ++ numB x.1.kind ++ (numB x.1.name.size ++ x.1.name.data.toList)) (.slice (some ⟨w5.heap.size,0,none⟩) 1 1) [x.1.id] (w5.alloc (.cells (idC x.1.id).toArray 27)) (hw5.below (hba _ _)) hrow1 (fun y hy => by rw [List.mem_singleton.1 hy];exact h32) (fun h => by simp at h) (by simp) (by simp only [List.length_append,dl_len];omega) (by rw [World.size_alloc];omega))
   have HO5:=Lib.hid hO5
   have HW5:=Lib.hid hw5
   have h32x:=h32_of hxc
   have HXC:=Lib.hid hxc
   have HSZ:Hid (∀ w,(sizeOf 27).run Tryz.prog w = .ok (idC x.1.id).length w):=Lib.hid (fun w => by rw [hxc];kernel_rfl)
   obtain ⟨zi,ii,hii,hiz0,hiz1,hiz2,hzi,hzil⟩:=id_zero
   clear hO5 hb5 c0 HT hs5 hrow1 hxc hw4 hiz0 hiz1 hiz2 hii hzil hnb hns
   generalize idC x.1.id = uid at r5 h32x HXC HSZ HI
   go_wp2_with (first
    | (refine wpList_load_mid rfl 27 _ rfl wo.heap.size 2 rfl uid _ r5 Tryz.underlying27 rfl h32x ?_)
    | (refine wpList_buildSlice_one rfl (.tmp 25) 53 27 rfl uid zi rfl Tryz.underlying53 HSZ.out hzi (by rw [HXC.out];omega) (by rw [HXC.out];omega) ?_))
   refine HI.out.mono ?_
   rintro e w6 ⟨rfl,hw6,hb6⟩
   have hO6:OnW b b W3 w6:=HO5.out.trans ((OnW.below (hba _ _) (Nat.le_of_lt HW5.out.lt)).trans hb6)
   have HE6:Hid (TrSt b m X (.int .i64 ((k:Int) + 1)) w6):=Lib.hid ⟨k + 1,by rw [Int.natCast_add];rfl,by omega,by
    rw [HTK.out]
    have e:L ++ x.1.bytes = L ++ numB x.1.kind ++ (numB x.1.name.size ++ x.1.name.data.toList) ++ [x.1.id].flatten:=by unfold Ent.bytes;simp
    rw [e];exact hw6,HBO.out.trans (HB3.out.trans hO6).bel,fun e => by omega⟩
   clear hO6 hw6 hb6 HI r5 hw5
   go_wp2
   go_roundw
   case rel => exact HE6.out
   case measure => simp [intOf];omega
  ·obtain rfl:k = m.length:=by omega
   have htk:(rawE m).take m.length = rawE m:=List.take_of_length_le (by simp [rawE])
   rw [htk] at HWO
   have hsb:b < wo.heap.size:=hwr.lt
   have HOUT:Hid (Calls Tryz.prog 60 #[.pointer (some ⟨b,0,none⟩)] wo fun e w' => e = .returned (.string (ofB (treeB (rawE m)))) ∧ Below b wo w'):=by
    by_cases hm0:m = []
    ·have e0:=h0 (by rw [hm0];rfl)
     refine Lib.hid ((wwout_nil b wo (by rw [e0];exact HXB.out)).mono ?_)
     rintro e w' ⟨rfl,hb'⟩
     exact ⟨by rw [hm0];rfl,hb'.mono (by omega)⟩
    ·refine Lib.hid (wwout_any b b _ wo HWO.out (fun e => ?_))
     obtain ⟨x,m',rfl⟩:∃ x m',m = x :: m':=by cases m with
      | nil => exact absurd rfl hm0
      | cons x m' => exact ⟨x,m',rfl⟩
     have hx:=x.2
     have e1:treeB (rawE (x :: m')) = x.1.bytes ++ treeB (rawE m'):=by simp [treeB,rawE]
     rw [e1] at e
     have e2:=(List.append_eq_nil_iff.1 e).1
     unfold Ent.bytes at e2
     rw [(List.append_eq_nil_iff.1 e2).2] at hx
     simp at hx
   have HRY:Hid (∀ Y,Below b X Y → EntRow Y (.slice uo m.length uc) (rawE m)):=Lib.hid (fun Y hY => by
    refine entRow_up ⟨uo,uc,by rw [List.length_map],by rw [List.length_map];exact humax,fun hne => ?_⟩
    obtain ⟨c,off,e,hl,hc⟩:=HCE.out (by simpa using hne)
    exact ⟨c,off,e,by have:=hY.size;have:=HSX.out;omega,fun i hi => by
     rw [List.length_map] at hi
     rw [List.getElem_map]
     exact rangeAt_below (hc i hi) hY hl⟩)
   have HZE:Hid (∀ e ∈ rawE m,e.name.size ≤ 1000000 ∧ e.kind ≤ 2 ∧ e.id.length = 32):=Lib.hid (fun e he => by
    obtain ⟨x,hx,rfl⟩:=List.mem_map.1 he
    have:=HZ.out x hx
    exact ⟨by omega,this.2,x.2⟩)
   have d1:decide ((m.length:Int) < m.length) = false:=decide_eq_false (by omega)
   have hwb:w.heap.size < b:=HVB.out
   have h20:(Tryz.prog.info? 59).map (·.size) = some 2:=by kernel_rfl
   have HANS:Hid (∀ en (o:Ob) w',MadeAns (treeOk (rawE m)) ⟨2,ofB (treeB (rawE m))⟩ w (.returned (.tuple #[.agg #[.int .i64 o.kind,.string o.body],.int .i64 en])) w' → TrmAns l w (.returned (.tuple #[.agg #[.int .i64 o.kind,.string o.body],.int .i64 en])) w'):=Lib.hid (fun en o w' h => ⟨m,HP.out,HR2.out,h⟩)
   clear hwr hbo h0 htk
   go_wp2_with fail
   refine HOUT.out.mono ?_
   rintro e w2 ⟨rfl,hb2⟩
   have HB2:=Lib.hid (HBO.out.trans hb2)
   have HEN:=Lib.hid (oentries_any _ (rawE m) w2 (HRY.out w2 HB2.out) HZE.out)
   clear hb2 HOUT
   generalize ofB (treeB (rawE m)) = tb at HANS ⊢
   generalize treeOk (rawE m) = ok at HANS HEN
   go_wp2_with fail
   refine HEN.out.mono ?_
   rintro e w3 ⟨rfl,hb3⟩
   have HB3:=Lib.hid (HB2.out.trans (hb3.mono (by have:=HB2.out.size;have:=HSX.out;omega)))
   have HMK:=Lib.hid (omade_any 2 tb ok w3)
   clear hb3 HEN
   go_wp2_with fail
   refine HMK.out.mono ?_
   rintro e w7 ⟨rfl,hb7⟩
   have HB7:=Lib.hid (HB3.out.trans (hb7.mono (by have:=HB3.out.size;have:=HSX.out;omega)))
   have HTH:=Lib.hid (there_below HTX.out HB7.out hwb)
   have HBW:Hid (Below w.heap.size w w7):=Lib.hid (HBX.out.trans (HB7.out.mono (by omega)))
   clear hb7 HMK
   obtain ⟨o,ho⟩:∃ o,mkOb ok ⟨2,tb⟩ = o:=⟨_,rfl⟩
   obtain ⟨en,hen⟩:∃ en,mkE ok ⟨2,tb⟩ = en:=⟨_,rfl⟩
   have HEND:Hid (∀ w',Below w.heap.size w w' → MadeAns ok ⟨2,tb⟩ w (.returned (.tuple #[.agg #[.int .i64 o.kind,.string o.body],.int .i64 en])) w'):=Lib.hid (fun w' hb => ⟨by rw [ho,hen];rfl,hb⟩)
   rw [ho,hen]
   clear ho hen
   unfold obC
   have hse:=World.rangeAt_setCells_same w7 w.heap.size 0 [.int .i64 o.kind,.string o.body] HTH.out
   have hbe:=below_setCells (B:=w.heap.size) w.heap.size (Nat.le_refl _) [.int .i64 o.kind,.string o.body] 0 w7 HBW.out
   go_wp2_with (refine wpList_store_list rfl 59 _ _ rfl w.heap.size 0 [.int .i64 o.kind,.string o.body] rfl rfl 2 rfl HTH.out h20 (by simp [Value.oneCell']) ?_)
   refine ret_cell2 rfl w.heap.size 0 rfl [.int .i64 o.kind,.string o.body] _ hse Tryz.underlying59 rfl h20 rfl _ rfl ?_
   exact HANS.out _ _ _ (HEND.out _ hbe)
end Go.Proofs.YtmhjpmenngjmeaaGreatDoor
