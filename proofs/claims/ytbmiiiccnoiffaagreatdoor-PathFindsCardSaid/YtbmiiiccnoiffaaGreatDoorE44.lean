/- YtbmiiiccnoiffaaGreatDoorE44: texts AV, QP, Q7, Q8 of this claim, in one. -/
import Derived.Test.YtbmiiiccnoiffaaGreatDoorE14
import Derived.Test.YtbmiiiccnoiffaaGreatDoorE18
import Derived.Test.YtbmiiiccnoiffaaGreatDoorE31
import Derived.Test.YtbmiiiccnoiffaaGreatDoorE38
import Derived.Test.YtbmiiiccnoiffaaGreatDoorE40
import Derived.Test.YtbmiiiccnoiffaaGreatDoorE43
namespace Go.Proofs.YtbmiiiccnoiffaaGreatDoor
open Go.RowKit
set_option maxRecDepth 100000
theorem flat0:flatC leafC fl0 = [.string ⟨#[98]⟩,.string ⟨#[50]⟩,.string ⟨#[97,47,120]⟩,.string ⟨#[49]⟩]:=rfl
set_option maxHeartbeats 4000000 in
theorem alive26_any (w:World) (hL:Laid w) (hm:MaxAt w):Calls Tryz.prog 38 #[] w fun e w' => e = .returned (.bool true) ∧ Below w.heap.size w w':=by
 obtain ⟨W,hW⟩:∃ W,w.alloc (.cells #[.string ⟨#[98]⟩,.string ⟨#[50]⟩,.string ⟨#[97,47,120]⟩,.string ⟨#[49]⟩] 82) = W:=⟨_,rfl⟩
 have hbW:Below w.heap.size w W:=by rw [← hW];exact (Below.refl _ _).alloc (Nat.le_refl _) _
 have hown:OwnQ W 0 2 (.slice (some ⟨w.heap.size,0,none⟩) 2 2) fl0.length (flatC leafC fl0):=by
  refine ⟨rfl,.inr ⟨w.heap.size,0,2,rfl,Nat.zero_le _,by rw [← hW];simp,Nat.le_refl _,by unfold maxLen;omega,?_,?_⟩⟩
  ·rw [← hW];exact there_alloc w _ 82 (n:=4) rfl
  ·rw [← hW,flat0];exact range_new w [.string ⟨#[98]⟩,.string ⟨#[50]⟩,.string ⟨#[97,47,120]⟩,.string ⟨#[49]⟩] 82 rfl
 have hrow:LeafRow W (.slice (some ⟨w.heap.size,0,none⟩) 2 2) fl0:=rowOf_ownQ leafC 2 (fun _ => rfl) hown
 have hbd:=build_any sortsTo_small _ fl0 W hrow (hL.below hbW) (hm.below hbW hm.lt) (by decide +kernel) (fun _ => by decide) (fun _ => by decide +kernel)
 have HBD:=Lib.hid hbd
 have HW:=Lib.hid hW
 have HBW:=Lib.hid hbW
 have HL:=Lib.hid hL
 have HM:=Lib.hid hm
 clear hW hbW hown hrow hbd hL hm
 go_enter Tryz.func38,Tryz.ntmps38
 go_wp2_with fail
 rw [HW.out]
 refine HBD.out.mono ?_
 rintro e w1 ⟨hb1,h⟩
 obtain ⟨ids,M,v,rfl,hrow,hp,ha,hi⟩:∃ ids M v,e = .returned (.tuple #[v,.agg (idC yR).toArray,.int .i64 0]) ∧ ObRow w1 v (ids.map fun q => (M q).getD ob0) ∧ PutAll [bA,bB,tX,tR] (fun _ => none) M ∧ AscL ids ∧ (∀ q,q ∈ ids ↔ q ∈ [bA,bB,tX,tR].map idO):=by
  rcases h with ⟨h,_⟩ | ⟨_,h,_⟩ | ⟨_,_,os,x,M,ids,v,ht,hp,ha,hi,he,hr⟩
  ·exact absurd h (by decide)
  ·rcases h with ⟨f,hf,h⟩ | h
   ·exact absurd h (by
     have h2:∀ f ∈ fl0,pathOk f.1 = true:=by decide +kernel
     rw [h2 f hf];simp)
   ·rw [tr0] at h;cases h
  ·rw [tr0] at ht
   cases ht
   exact ⟨ids,M,v,he,hr,hp,ha,hi⟩
 have hlf:=list_facts hp nodup0 ha hi (by
  intro o ho
  simp only [List.mem_cons,List.not_mem_nil,or_false] at ho
  rcases ho with rfl | rfl | rfl | rfl
  ·exact right0.1
  ·exact right0.2.1
  ·exact right0.2.2.1
  ·exact right0.2.2.2)
 obtain ⟨l,hl⟩:∃ l,(ids.map fun q => (M q).getD ob0) = l:=⟨_,rfl⟩
 rw [hl] at hlf hrow
 have hlen:l.length = 4:=hlf.1
 have hgA:=hlf.2 bA (by simp)
 have hgB:=hlf.2 bB (by simp)
 have hgX:=hlf.2 tX (by simp)
 have hgR:=hlf.2 tR (by simp)
 rw [idYA] at hgA
 rw [idYB] at hgB
 rw [idYX] at hgX
 rw [idYR] at hgR
 have HF0:=Lib.hid (files0 hgA hgB hgX hgR)
 have HP0:=Lib.hid (find0 hgR)
 have HBW1:=Lib.hid (HBW.out.trans (hb1.mono HBW.out.size))
 have HOF:=Lib.hid (fun W' (h:Below w1.heap.size w1 W') => oof_any v l W' (hrow.below h) (by omega) ((HL.out.below HBW1.out).below h))
 have HRI:=Lib.hid (fun x o (h:lastS l x = some o) => lastS_right h)
 have HM1:=Lib.hid (fun W' (h:Below w1.heap.size w1 W') => (HM.out.below HBW1.out HM.out.lt).below h (HM.out.below HBW1.out HM.out.lt).lt)
 have HLEN:=Lib.hid hlen
 obtain ⟨vo,vcap,rfl,_⟩:=hrow.open
 rw [hlen] at HOF ⊢
 obtain ⟨hizz,_⟩:=id_zeroC
 have hzl:(idC zid).length = 32:=by rw [idC_len,zid_len]
 have hrl:(idC yR).length = 32:=by rw [idC_len];exact len0.2.2.2
 have HRO:=Lib.hid (idC_one yR)
 have hr32:=len0.2.2.2
 clear hlf hrow hl hp ha hi h hb1 hgA hgB hgX hgR hlen
 generalize huz:idC zid = uz at hizz hzl
 obtain ⟨ur,hur⟩:∃ ur,idC yR = ur:=⟨_,rfl⟩
 have HUR:=Lib.hid hur
 rw [hur] at hrl HRO ⊢
 have h32i:(Tryz.prog.info? 24).map (·.size) = some 32:=by kernel_rfl
 have h32r:(Tryz.prog.info? 24).map (·.size) = some ur.length:=by rw [hrl];exact h32i
 obtain ⟨W2,hW2⟩:∃ W2,(w1.alloc (.cells uz.toArray 24)).setCells w1.heap.size 0 ur = W2:=⟨_,rfl⟩
 have hx2:BoxL W2 w1.heap.size 24 ur:=by rw [← hW2];exact (BoxL.new w1 24 uz).set (by rw [hrl,hzl])
 have hb2:Below w1.heap.size w1 W2:=by rw [← hW2];exact below_setCells _ (Nat.le_refl _) _ _ _ ((Below.refl _ _).alloc (Nat.le_refl _) _)
 have HTH2:=Lib.hid (there_alloc w1 uz.toArray 24 (by simpa using hzl))
 have HX2:=Lib.hid hx2
 have HB2:=Lib.hid hb2
 have HW2:=Lib.hid hW2
 clear hx2 hb2 hW2 hur
 go_upto_region 2 with (refine wpList_store_list rfl 24 _ _ rfl w1.heap.size 0 ur rfl rfl 32 hrl HTH2.out h32i HRO.out ?_;rw [HW2.out])
 have hS0:W2.drew.rangeAt w1.heap.size 0 ur:=rangeAt_below HX2.out.range (Below.refl _ _).drew HX2.out.lt
 refine wp_region_L 8 (fun w' => w'.rangeAt w1.heap.size 0 ur) (by kernel_rfl) (by kernel_rfl) ?_
 refine WL.take (i:=0) (v:=?_) rfl (by kernel_rfl) (by decide) (by decide +kernel) (by decide +kernel) (fun _ _ _ h => h) rfl ?_ hS0 ?_
 rotate_left
 ·(intro w' hSw;(try dsimp only at hSw);go_simp;(try with_reducible rfl))
 simp only [Act.put];(try simp only [List.getElem_toArray]);(try simp only [List.getElem_cons_succ]);(try simp only [List.getElem_cons_zero]);(try simp only [List.setIfInBounds_toArray]);(try simp only [List.set_cons_succ]);(try simp only [List.set_cons_zero])
 refine WL.take (i:=2) (v:=_) rfl (by kernel_rfl) (by decide) (by decide +kernel) (by decide +kernel) (fun _ _ _ h => h) rfl (fun w' hSw => exec_row 24 _ (hSw) Tryz.underlying24 rfl h32r _ rfl rfl) hS0 ?_
 simp only [Act.put];(try simp only [List.getElem_toArray]);(try simp only [List.getElem_cons_succ]);(try simp only [List.getElem_cons_zero]);(try simp only [List.setIfInBounds_toArray]);(try simp only [List.set_cons_succ]);(try simp only [List.set_cons_zero])
 refine WL.one (i:=1) rfl (by decide) (by decide +kernel) ?_
 go_wp2_with fail
 refine (HOF.out W2.drew (HB2.out.drew)).mono ?_
 rintro e w3 ⟨r,rfl,hsr,hb3⟩
 have hb3:=drew_below hb3
 have HB3:=Lib.hid (HB2.out.trans (hb3.mono HB2.out.size))
 have hx3:=HX2.out.below hb3
 have HX3:=Lib.hid hx3
 have hS3:=hx3.range
 have hpf:=pfiles_any r (lastS l) HRI.out yR w3 hsr hr32
 rw [HUR.out] at hpf
 have HPF:=Lib.hid hpf
 clear hsr hb3 hx3 hpf
 go_wp2
 refine ⟨hS3,?_⟩
 refine WL.one (i:=3) rfl (by decide) (by decide +kernel) ?_
 go_wp2_with fail
 refine HPF.out.mono ?_
 rintro e w4 ⟨vf,rfl,hfy,_,hb4⟩
 have hlr:=(hfy _ HF0.out).1
 have HLR:=Lib.hid hlr
 have HB4:=Lib.hid (HB3.out.trans (hb4.mono HB3.out.size))
 have HX4:=Lib.hid (HX3.out.below hb4)
 have hS4:=HX4.out.range
 obtain ⟨fo,fcap,rfl,_,hfc⟩:=hlr.open
 have HFC:=Lib.hid hfc
 have he0:errOf (filesF (lastS l) yR) = 0:=by rw [HF0.out];rfl
 rw [he0]
 clear he0 hfy hlr hb4 hfc
 go_wp2
 refine ⟨hS4,?_⟩
 refine WL.take (i:=4) (v:=?_) rfl (by kernel_rfl) (by decide) (by decide +kernel) (by decide +kernel) (fun _ _ _ h => h) rfl ?_ hS4 ?_
 rotate_left
 ·(intro w' hSw;(try dsimp only at hSw);go_simp;(try with_reducible rfl))
 simp only [Act.put];(try simp only [List.getElem_toArray]);(try simp only [List.getElem_cons_succ]);(try simp only [List.getElem_cons_zero]);(try simp only [List.setIfInBounds_toArray]);(try simp only [List.set_cons_succ]);(try simp only [List.set_cons_zero])
 refine WL.take (i:=5) (v:=?_) rfl (by kernel_rfl) (by decide) (by decide +kernel) (by decide +kernel) (fun _ _ _ h => h) rfl ?_ hS4 ?_
 rotate_left
 ·(intro w' hSw;(try dsimp only at hSw);go_simp;(try with_reducible rfl))
 simp only [Act.put];(try simp only [List.getElem_toArray]);(try simp only [List.getElem_cons_succ]);(try simp only [List.getElem_cons_zero]);(try simp only [List.setIfInBounds_toArray]);(try simp only [List.set_cons_succ]);(try simp only [List.set_cons_zero])
 refine WL.take (i:=6) (v:=?_) rfl (by kernel_rfl) (by decide) (by decide +kernel) (by decide +kernel) (fun _ _ _ h => h) rfl ?_ hS4 ?_
 rotate_left
 ·(intro w' hSw;(try dsimp only at hSw);go_simp;(try with_reducible rfl))
 simp only [Act.put];(try simp only [List.getElem_toArray]);(try simp only [List.getElem_cons_succ]);(try simp only [List.getElem_cons_zero]);(try simp only [List.setIfInBounds_toArray]);(try simp only [List.set_cons_succ]);(try simp only [List.set_cons_zero])
 refine WL.take (i:=7) (v:=?_) rfl (by kernel_rfl) (by decide) (by decide +kernel) (by decide +kernel) (fun _ _ _ h => h) rfl ?_ hS4 ?_
 rotate_left
 ·(intro w' hSw;(try dsimp only at hSw);go_simp;(try with_reducible rfl))
 simp only [Act.put];(try simp only [List.getElem_toArray]);(try simp only [List.getElem_cons_succ]);(try simp only [List.getElem_cons_zero]);(try simp only [List.setIfInBounds_toArray]);(try simp only [List.set_cons_succ]);(try simp only [List.set_cons_zero])
 refine WL.last (n:=8) rfl rfl (by decide +kernel) (by decide +kernel) ?_
 -- region 3
 obtain ⟨hcz,hcb⟩:=ch_zero
 have hzhl:=chC_len (c:=(zid,0)) zid_len
 obtain ⟨zh,hzh⟩:∃ zh,chC (zid,0) = zh:=⟨_,rfl⟩
 rw [hzh] at hcz hzhl
 have hucl:=chC_len (c:=(yX,2)) len0.2.2.1
 have HUO:=Lib.hid (chC_one (yX,2))
 have HU32:Hid ((chC (yX,2))[32]? = some (.int .i64 2)):=Lib.hid (by unfold chC;rw [List.getElem?_append_right (by rw [idC_len,len0.2.2.1];omega),idC_len,len0.2.2.1];rfl)
 have h33:(Tryz.prog.info? 75).map (·.size) = some 33:=by kernel_rfl
 obtain ⟨uc,huc⟩:∃ uc,chC (yX,2) = uc:=⟨_,rfl⟩
 rw [huc] at hucl HUO HU32
 clear hzh
 go_wp2_with fail
 have hS0:w4.drew.rangeAt w1.heap.size 0 ur:=rangeAt_below HX4.out.range (Below.refl _ _).drew HX4.out.lt
 refine wp_region_L 9 (fun w' => w'.rangeAt w1.heap.size 0 ur) (by kernel_rfl) (by kernel_rfl) ?_
 refine WL.take (i:=0) (v:=?_) rfl (by kernel_rfl) (by decide) (by decide +kernel) (by decide +kernel) (fun _ _ _ h => h) rfl ?_ hS0 ?_
 rotate_left
 ·(intro w' hSw;(try dsimp only at hSw);go_simp;(try with_reducible rfl))
 simp only [Act.put];(try simp only [List.getElem_toArray]);(try simp only [List.getElem_cons_succ]);(try simp only [List.getElem_cons_zero]);(try simp only [List.setIfInBounds_toArray]);(try simp only [List.set_cons_succ]);(try simp only [List.set_cons_zero])
 refine WL.take (i:=2) (v:=_) rfl (by kernel_rfl) (by decide) (by decide +kernel) (by decide +kernel) (fun _ _ _ h => h) rfl (fun w' hSw => exec_row 24 _ (hSw) Tryz.underlying24 rfl h32r _ rfl rfl) hS0 ?_
 simp only [Act.put];(try simp only [List.getElem_toArray]);(try simp only [List.getElem_cons_succ]);(try simp only [List.getElem_cons_zero]);(try simp only [List.setIfInBounds_toArray]);(try simp only [List.set_cons_succ]);(try simp only [List.set_cons_zero])
 refine WL.two (i:=1) (k:=7) rfl rfl (by decide) (by decide) (by decide +kernel) ?_ ?_
 focus
  go_wp2_with fail
  refine (HOF.out w4.drew (HB4.out.drew)).mono ?_
  rintro e w5 ⟨r2,rfl,hsr,hb⟩
  have hb:=drew_below hb
  have HBQ:=Lib.hid hb
  have HSR:=Lib.hid hsr
  have hS:=(HX4.out.below HBQ.out).range
  clear hb hsr
  go_wp2
  refine ⟨hS,?_⟩
  refine WL.two (i:=3) (k:=7) rfl rfl (by decide) (by decide) (by decide +kernel) ?_ ?_
  focus
   have hfi:=pfind_any r2 (lastS l) HRI.out yR nmA w5 (HSR.out) hr32 (by decide) (HM1.out w5 (HB4.out.trans (HBQ.out.mono HB4.out.size)))
   unfold FiAns at hfi
   rw [HP0.out,HUR.out] at hfi
   have HFI:=Lib.hid hfi
   clear hfi
   go_wp2_with fail
   refine HFI.out.mono ?_
   rintro e w6 ⟨rfl,hb⟩
   have HBQ:=Lib.hid (HBQ.out.trans (hb.mono HBQ.out.size))
   have hS:=(HX4.out.below HBQ.out).range
   rw [huc]
   have HT:=Lib.hid (there_alloc w6 zh.toArray 75 (by simpa using hzhl))
   have hxq:=BoxL.new w6 75 zh
   clear hb
   go_wp2
   refine ⟨hS,?_⟩
   refine WL.take (i:=4) (v:=?_) rfl (by kernel_rfl) (by decide) (by decide +kernel) (by decide +kernel) (fun _ _ _ h => h) rfl ?_ hS ?_
   rotate_left
   ·(intro w' hSw;(try dsimp only at hSw);go_simp;(try with_reducible rfl))
   simp only [Act.put];(try simp only [List.getElem_toArray]);(try simp only [List.getElem_cons_succ]);(try simp only [List.getElem_cons_zero]);(try simp only [List.setIfInBounds_toArray]);(try simp only [List.set_cons_succ]);(try simp only [List.set_cons_zero])
   refine WL.take (i:=5) (v:=?_) rfl (by kernel_rfl) (by decide) (by decide +kernel) (by decide +kernel) (fun _ _ _ h => h) rfl ?_ hS ?_
   rotate_left
   ·(intro w' hSw;(try dsimp only at hSw);go_simp;(try with_reducible rfl))
   simp only [Act.put];(try simp only [List.getElem_toArray]);(try simp only [List.getElem_cons_succ]);(try simp only [List.getElem_cons_zero]);(try simp only [List.setIfInBounds_toArray]);(try simp only [List.set_cons_succ]);(try simp only [List.set_cons_zero])
   refine WL.take (i:=6) (v:=?_) rfl (by kernel_rfl) (by decide) (by decide +kernel) (by decide +kernel) (fun _ _ _ h => h) rfl ?_ hS ?_
   rotate_left
   ·(intro w' hSw;(try dsimp only at hSw);go_simp;(try with_reducible rfl))
   simp only [Act.put];(try simp only [List.getElem_toArray]);(try simp only [List.getElem_cons_succ]);(try simp only [List.getElem_cons_zero]);(try simp only [List.setIfInBounds_toArray]);(try simp only [List.set_cons_succ]);(try simp only [List.set_cons_zero])
   refine WL.one (i:=7) rfl (by decide) (by decide +kernel) ?_
   go_wp2
   have hS2:=(HX4.out.below (HBQ.out.alloc HBQ.out.size (.cells zh.toArray 75))).range
   refine ⟨hS2,?_⟩
   refine WL.one (i:=8) rfl (by decide) (by decide +kernel) ?_
   refine wpList_store_list rfl 75 _ _ rfl w6.heap.size 0 uc rfl rfl 33 hucl HT.out h33 HUO.out ?_
   obtain ⟨q,hq⟩:∃ q,q = w6.heap.size:=⟨_,rfl⟩
   obtain ⟨WE,hWE⟩:∃ WE,WE = (w6.alloc (.cells zh.toArray 75)).setCells w6.heap.size 0 uc:=⟨_,rfl⟩
   have HCX:Hid (BoxL WE w6.heap.size 75 uc):=Lib.hid (by rw [hWE];exact (hxq).set (by rw [hucl,hzhl]))
   have HBE:Hid (Below w4.heap.size w4 WE):=Lib.hid (by rw [hWE];exact below_setCells _ (HBQ.out.size) _ _ _ (HBQ.out.alloc HBQ.out.size _))
   have hSE:=(HX4.out.below HBE.out).range
   rw [← hWE]
   rw [← hq] at HCX ⊢
   clear hWE hq
   clear hxq HT HBQ HSR hS hS2
  rotate_left
  focus
   have HT:=Lib.hid (there_alloc w5 zh.toArray 75 (by simpa using hzhl))
   have hxq:=BoxL.new w5 75 zh
   go_wp2
   have hb6:Below w5.heap.size w5 (w5.alloc (.cells zh.toArray 75)):=(Below.refl _ _).alloc (Nat.le_refl _) _
   have hg5:w4.heap.size ≤ w5.heap.size:=HBQ.out.size
   have HBQ:=Lib.hid (HBQ.out.trans (hb6.mono HBQ.out.size))
   have HSR:=Lib.hid (HSR.out.below hb6)
   have hS2:=(HX4.out.below HBQ.out).range
   refine ⟨hS2,?_⟩
   refine WL.one (i:=3) rfl (by decide) (by decide +kernel) ?_
   have hfi:=pfind_any r2 (lastS l) HRI.out yR nmA (w5.alloc (.cells zh.toArray 75)) (HSR.out) hr32 (by decide) (HM1.out (w5.alloc (.cells zh.toArray 75)) (HB4.out.trans (HBQ.out.mono HB4.out.size)))
   unfold FiAns at hfi
   rw [HP0.out,HUR.out] at hfi
   have HFI:=Lib.hid hfi
   clear hfi
   go_wp2_with fail
   refine HFI.out.mono ?_
   rintro e w6 ⟨rfl,hb⟩
   have HBQ:=Lib.hid (HBQ.out.trans (hb.mono HBQ.out.size))
   have hS:=(HX4.out.below HBQ.out).range
   rw [huc]
   have hxq6:=hxq.below hb
   have HT6:=Lib.hid hxq6.there
   rw [hzhl] at HT6
   clear hb hb6
   go_wp2
   refine ⟨hS,?_⟩
   refine WL.take (i:=4) (v:=?_) rfl (by kernel_rfl) (by decide) (by decide +kernel) (by decide +kernel) (fun _ _ _ h => h) rfl ?_ hS ?_
   rotate_left
   ·(intro w' hSw;(try dsimp only at hSw);go_simp;(try with_reducible rfl))
   simp only [Act.put];(try simp only [List.getElem_toArray]);(try simp only [List.getElem_cons_succ]);(try simp only [List.getElem_cons_zero]);(try simp only [List.setIfInBounds_toArray]);(try simp only [List.set_cons_succ]);(try simp only [List.set_cons_zero])
   refine WL.take (i:=5) (v:=?_) rfl (by kernel_rfl) (by decide) (by decide +kernel) (by decide +kernel) (fun _ _ _ h => h) rfl ?_ hS ?_
   rotate_left
   ·(intro w' hSw;(try dsimp only at hSw);go_simp;(try with_reducible rfl))
   simp only [Act.put];(try simp only [List.getElem_toArray]);(try simp only [List.getElem_cons_succ]);(try simp only [List.getElem_cons_zero]);(try simp only [List.setIfInBounds_toArray]);(try simp only [List.set_cons_succ]);(try simp only [List.set_cons_zero])
   refine WL.take (i:=6) (v:=?_) rfl (by kernel_rfl) (by decide) (by decide +kernel) (by decide +kernel) (fun _ _ _ h => h) rfl ?_ hS ?_
   rotate_left
   ·(intro w' hSw;(try dsimp only at hSw);go_simp;(try with_reducible rfl))
   simp only [Act.put];(try simp only [List.getElem_toArray]);(try simp only [List.getElem_cons_succ]);(try simp only [List.getElem_cons_zero]);(try simp only [List.setIfInBounds_toArray]);(try simp only [List.set_cons_succ]);(try simp only [List.set_cons_zero])
   refine WL.one (i:=8) rfl (by decide) (by decide +kernel) ?_
   refine wpList_store_list rfl 75 _ _ rfl w5.heap.size 0 uc rfl rfl 33 hucl HT6.out h33 HUO.out ?_
   obtain ⟨q,hq⟩:∃ q,q = w5.heap.size:=⟨_,rfl⟩
   obtain ⟨WE,hWE⟩:∃ WE,WE = (w6).setCells w5.heap.size 0 uc:=⟨_,rfl⟩
   have HCX:Hid (BoxL WE w5.heap.size 75 uc):=Lib.hid (by rw [hWE];exact (hxq6).set (by rw [hucl,hzhl]))
   have HBE:Hid (Below w4.heap.size w4 WE):=Lib.hid (by rw [hWE];exact below_setCells _ (hg5) _ _ _ (HBQ.out))
   have hSE:=(HX4.out.below HBE.out).range
   rw [← hWE]
   rw [← hq] at HCX ⊢
   clear hWE hq
   clear hxq hxq6 HT HT6 HBQ HSR hS hS2 hg5
 rotate_left
 rotate_left
 focus
  have HT:=Lib.hid (there_alloc w4.drew zh.toArray 75 (by simpa using hzhl))
  have hxq:=BoxL.new w4.drew 75 zh
  go_wp2
  have HBQ:Hid (Below w4.heap.size w4 (w4.drew.alloc (.cells zh.toArray 75))):=Lib.hid ((Below.refl _ _).drew.alloc (Nat.le_refl _) _)
  have hS2:=(HX4.out.below HBQ.out).range
  refine ⟨hS2,?_⟩
  refine WL.one (i:=1) rfl (by decide) (by decide +kernel) ?_
  go_wp2_with fail
  refine (HOF.out (w4.drew.alloc (.cells zh.toArray 75)) (HB4.out.trans (HBQ.out.mono HB4.out.size))).mono ?_
  rintro e w5 ⟨r2,rfl,hsr,hb⟩
  have hxq5:=hxq.below hb
  have HBQ:=Lib.hid (HBQ.out.trans (hb.mono HBQ.out.size))
  have HSR:=Lib.hid hsr
  have hS:=(HX4.out.below HBQ.out).range
  clear hb hsr hxq
  go_wp2
  refine ⟨hS,?_⟩
  refine WL.one (i:=3) rfl (by decide) (by decide +kernel) ?_
  have hfi:=pfind_any r2 (lastS l) HRI.out yR nmA w5 (HSR.out) hr32 (by decide) (HM1.out w5 (HB4.out.trans (HBQ.out.mono HB4.out.size)))
  unfold FiAns at hfi
  rw [HP0.out,HUR.out] at hfi
  have HFI:=Lib.hid hfi
  clear hfi
  go_wp2_with fail
  refine HFI.out.mono ?_
  rintro e w6 ⟨rfl,hb⟩
  have HBQ:=Lib.hid (HBQ.out.trans (hb.mono HBQ.out.size))
  have hS:=(HX4.out.below HBQ.out).range
  rw [huc]
  have hxq6:=hxq5.below hb
  have HT6:=Lib.hid hxq6.there
  rw [hzhl] at HT6
  clear hb
  go_wp2
  refine ⟨hS,?_⟩
  refine WL.take (i:=4) (v:=?_) rfl (by kernel_rfl) (by decide) (by decide +kernel) (by decide +kernel) (fun _ _ _ h => h) rfl ?_ hS ?_
  rotate_left
  ·(intro w' hSw;(try dsimp only at hSw);go_simp;(try with_reducible rfl))
  simp only [Act.put];(try simp only [List.getElem_toArray]);(try simp only [List.getElem_cons_succ]);(try simp only [List.getElem_cons_zero]);(try simp only [List.setIfInBounds_toArray]);(try simp only [List.set_cons_succ]);(try simp only [List.set_cons_zero])
  refine WL.take (i:=5) (v:=?_) rfl (by kernel_rfl) (by decide) (by decide +kernel) (by decide +kernel) (fun _ _ _ h => h) rfl ?_ hS ?_
  rotate_left
  ·(intro w' hSw;(try dsimp only at hSw);go_simp;(try with_reducible rfl))
  simp only [Act.put];(try simp only [List.getElem_toArray]);(try simp only [List.getElem_cons_succ]);(try simp only [List.getElem_cons_zero]);(try simp only [List.setIfInBounds_toArray]);(try simp only [List.set_cons_succ]);(try simp only [List.set_cons_zero])
  refine WL.take (i:=6) (v:=?_) rfl (by kernel_rfl) (by decide) (by decide +kernel) (by decide +kernel) (fun _ _ _ h => h) rfl ?_ hS ?_
  rotate_left
  ·(intro w' hSw;(try dsimp only at hSw);go_simp;(try with_reducible rfl))
  simp only [Act.put];(try simp only [List.getElem_toArray]);(try simp only [List.getElem_cons_succ]);(try simp only [List.getElem_cons_zero]);(try simp only [List.setIfInBounds_toArray]);(try simp only [List.set_cons_succ]);(try simp only [List.set_cons_zero])
  refine WL.one (i:=8) rfl (by decide) (by decide +kernel) ?_
  refine wpList_store_list rfl 75 _ _ rfl w4.heap.size 0 uc rfl rfl 33 hucl HT6.out h33 HUO.out ?_
  obtain ⟨q,hq⟩:∃ q,q = w4.heap.size:=⟨_,rfl⟩
  obtain ⟨WE,hWE⟩:∃ WE,WE = (w6).setCells w4.heap.size 0 uc:=⟨_,rfl⟩
  have HCX:Hid (BoxL WE w4.heap.size 75 uc):=Lib.hid (by rw [hWE];exact (hxq6).set (by rw [hucl,hzhl]))
  have HBE:Hid (Below w4.heap.size w4 WE):=Lib.hid (by rw [hWE];exact below_setCells _ (Nat.le_refl _) _ _ _ (HBQ.out))
  have hSE:=(HX4.out.below HBE.out).range
  rw [← hWE]
  rw [← hq] at HCX ⊢
  clear hWE hq
  clear hxq5 hxq6 HT HT6 HBQ HSR hS hS2
 all_goals
  go_wp2
  refine ⟨hSE,?_⟩
  refine WL.last (n:=9) rfl rfl (by decide +kernel) (by decide +kernel) ?_
  obtain ⟨fg,foff,rfl,hfl,hfcs⟩:=HFC.out (by simp)
  have hf0:=hfcs 0 (by simp)
  have g1:=below_load hf0.1 HBE.out hfl
  have g2:=below_load hf0.2 HBE.out hfl
  have g3:WE.cell? ⟨q,32,none⟩ = some (.int .i64 2):=by have:=HCX.out.range 32 _ HU32.out;simpa using this
  simp only [List.getElem_cons_zero,Nat.zero_mul,Nat.add_zero] at g1 g2
  clear hfcs hf0
  go_wp2
  go_ret
  exact ⟨rfl,HBW1.out.trans ((HB4.out.trans (HBE.out.mono HB4.out.size)).mono HBW1.out.size)⟩
end Go.Proofs.YtbmiiiccnoiffaaGreatDoor
namespace Go.Proofs.YtbmiiiccnoiffaaGreatDoor
open Go.RowKit
set_option maxRecDepth 100000
theorem ch_eqIn1 (a b:Idl × Nat) (ha:a.1.length = 32) (hb:b.1.length = 32) (w:World):(Op.equalIn 10000 75 (.agg (chC a).toArray) (.agg (chC b).toArray)).run Tryz.prog w = .ok (decide (a = b)) w:=by
 have hid:(Op.equalIn 9999 24 (.agg (idC a.1).toArray) (.agg (idC b.1).toArray)).run Tryz.prog w = .ok (a.1 == b.1) w:=run_equalIn_bytes (P:=Tryz.prog) w 9997 24 5 32 Tryz.underlying24 Tryz.underlying5 sizeB a.1 b.1 ha hb
 have hin:(Op.equalIn 9999 3 (.int .i64 (a.2:Int)) (.int .i64 (b.2:Int))).run Tryz.prog w = .ok ((a.2:Int) == b.2) w:=run_equalIn_int w 9998 3 .i64 .i64 _ _ Tryz.underlying3
 have p1:∀ c:Idl × Nat,c.1.length = 32 → (part 24 (chC c).toArray 0).run Tryz.prog w = .ok (.agg (idC c.1).toArray) w:=fun c hc => part_cut _ (idC c.1) [.int .i64 (c.2:Int)] _ 32 w rfl (by rw [idC_len,hc]) (by kernel_rfl) (by kernel_rfl)
 have p2:∀ c:Idl × Nat,c.1.length = 32 → (part 3 (chC c).toArray 32).run Tryz.prog w = .ok (.int .i64 (c.2:Int)) w:=fun c hc => part_one _ (idC c.1) _ _ 32 w rfl (by rw [idC_len,hc]) (by kernel_rfl)
 rw [run_equalIn_struct w 9999 75 _ _ (by kernel_rfl) (by kernel_rfl)]
 simp only [Program.fieldsOf,Tryz.underlying75]
 simp only [Op.eqFields,Sem.run_bind,Sem.run_ite]
 rw [if_pos (by decide),p1 a ha,Result.andThen_ok,p1 b hb,Result.andThen_ok,hid,Result.andThen_ok]
 by_cases h1:a.1 = b.1
 ·rw [if_neg (by simp [h1]),if_pos (by decide),p2 a ha,Result.andThen_ok,p2 b hb,Result.andThen_ok,hin,Result.andThen_ok]
  by_cases h2:a.2 = b.2
  ·rw [if_neg (by simp [h2]),decide_eq_true (Prod.ext h1 h2)];rfl
  ·rw [if_pos (by simp;omega),decide_eq_false (fun e => h2 (by rw [e]))];rfl
 ·rw [if_pos (by simp [h1]),decide_eq_false (fun e => h1 (by rw [e]))];rfl
structure StP (w0:World) (v:Value) (l:List Ob) (w:World):Prop where
 row:ObRow w v l
 ld:Laid w
 mx:MaxAt w
 bel:Below w0.heap.size w0 w
theorem StP.step {w0 w w':World} {v:Value} {l:List Ob} (h:StP w0 v l w) (hb:Below w.heap.size w w'):StP w0 v l w' :=
 ⟨h.row.below hb,h.ld.below hb,h.mx.below hb h.mx.lt,h.bel.trans (hb.mono h.bel.size)⟩
theorem great_40 {l:List Ob} (h:obGreat l = false):l.length ≤ 40:=by
 unfold obGreat at h
 simp only [Bool.or_eq_false_iff,decide_eq_false_iff_not] at h
 omega
end Go.Proofs.YtbmiiiccnoiffaaGreatDoor
namespace Go.Proofs.YtbmiiiccnoiffaaGreatDoor
open Go.RowKit
set_option maxRecDepth 100000 in
set_option maxHeartbeats 16000000 in
theorem pfinds_walk (v:Value) (l:List Ob) (id:Idl) (s:ByteArray) (w:World) (hv:ObRow w v l) (hL:Laid w) (hid:id.length = 32) (hm:MaxAt w) :
  Calls Tryz.prog 11 #[v,.agg (idC id).toArray,.string s] w fun e w' => e = .returned (.bool true) ∧ Below w.heap.size w w':=by
 have h32id:=h32_of (us:=idC id) (by rw [idC_len,hid])
 obtain ⟨W,hW⟩:∃ W,w.alloc (.cells (idC id).toArray 24) = W:=⟨_,rfl⟩
 have hbW:Below w.heap.size w W:=by rw [← hW];exact (Below.refl _ _).alloc (Nat.le_refl _) _
 have st:Hid (StP w v l W):=Lib.hid (StP.step ⟨hv,hL,hm,Below.refl _ _⟩ hbW)
 have HRid:Hid (BoxL W w.heap.size 24 (idC id)):=Lib.hid (by rw [← hW];exact BoxL.new w 24 (idC id))
 have HW:=Lib.hid hW
 have HIDid:=Lib.hid hid
 have HAL:=Lib.hid (fun W (h:StP w v l W) => alive26_any W h.ld h.mx)
 have HGR:=Lib.hid (fun W (h:StP w v l W) => rgreat_any v l W h.row)
 have HCL:=Lib.hid (fun W (h:StP w v l W) => clash26_any v l W h.row)
 clear hbW hL hW hv hm hid
 generalize huid:idC id = uid at h32id HRid HW
 have HIAid:=Lib.hid huid
 clear huid
 cases hg:obGreat l with
 | true =>
  rw [hg] at HGR
  clear hg
  go_enter Tryz.func11,Tryz.ntmps11
  go_wp2_with fail
  rw [HW.out]
  refine (HAL.out W st.out).mono ?_
  rintro e w1 ⟨rfl,hb1⟩
  have st1:=Lib.hid (st.out.step hb1)
  clear hb1
  go_wp2_with fail
  refine (HGR.out w1 st1.out).mono ?_
  rintro e w2 ⟨rfl,rfl⟩
  go_wp2_with fail
  refine (HAL.out _ st1.out).mono ?_
  rintro e w3 ⟨rfl,hb3⟩
  have st3:=Lib.hid (st1.out.step hb3)
  clear hb3
  go_wp2
  go_ret
  exact ⟨rfl,st3.out.bel⟩
 | false =>
  rw [hg] at HGR
  have hn:=great_40 hg
  clear hg
  cases hc:clashB l with
  | true =>
   rw [hc] at HCL
   clear hc
   go_enter Tryz.func11,Tryz.ntmps11
   go_wp2_with fail
   rw [HW.out]
   refine (HAL.out W st.out).mono ?_
   rintro e w1 ⟨rfl,hb1⟩
   have st1:=Lib.hid (st.out.step hb1)
   clear hb1
   go_wp2_with fail
   refine (HGR.out w1 st1.out).mono ?_
   rintro e w2 ⟨rfl,rfl⟩
   go_wp2_with fail
   refine (HCL.out _ st1.out).mono ?_
   rintro e w3 ⟨rfl,hb3⟩
   have st3:=Lib.hid (st1.out.step hb3)
   clear hb3
   go_wp2_with fail
   refine (HAL.out _ st3.out).mono ?_
   rintro e w4 ⟨rfl,hb4⟩
   have st4:=Lib.hid (st3.out.step hb4)
   clear hb4
   go_wp2
   go_ret
   exact ⟨rfl,st4.out.bel⟩
  | false =>
   rw [hc] at HCL
   have HLG:Hid (lastS l = getS l):=Lib.hid (funext fun x => last_get hc x)
   clear hc
   have HOF:=Lib.hid (fun W (h:StP w v l W) => oof_any v l W h.row (by omega) h.ld)
   rw [HLG.out] at HOF
   have HRO:=Lib.hid (fun W (h:StP w v l W) => rof_any v l W h.row (by omega))
   clear HLG
   go_enter Tryz.func11,Tryz.ntmps11
   go_wp2_with fail
   rw [HW.out]
   refine (HAL.out W st.out).mono ?_
   rintro e w1 ⟨rfl,hb1⟩
   have st1:=Lib.hid (st.out.step hb1)
   have HB1:=Lib.hid hb1
   clear hb1 HW
   go_wp2_with fail
   refine (HGR.out w1 st1.out).mono ?_
   rintro e w2 ⟨rfl,rfl⟩
   go_wp2_with fail
   refine (HCL.out _ st1.out).mono ?_
   rintro e w3 ⟨rfl,hb3⟩
   have st3:=Lib.hid (st1.out.step hb3)
   have HX3:=Lib.hid (HRid.out.below (HB1.out.trans (hb3.mono HB1.out.size)))
   clear hb3
   by_cases h4:(400:Int) < s.size
   ·have d4:decide ((400:Int) < s.size) = true:=decide_eq_true h4
    go_wp2_with fail
    refine (HAL.out _ st3.out).mono ?_
    rintro e w4 ⟨rfl,hb4⟩
    have st4:=Lib.hid (st3.out.step hb4)
    clear hb4
    go_wp2
    go_ret
    exact ⟨rfl,st4.out.bel⟩
   ·have d4:decide ((400:Int) < s.size) = false:=decide_eq_false h4
    have hz:s.size ≤ 1000:=by omega
    obtain ⟨hcz,hcb⟩:=ch_zero
    have hzhl:=chC_len (c:=(zid,0)) zid_len
    obtain ⟨zh,hzh⟩:∃ zh,chC (zid,0) = zh:=⟨_,rfl⟩
    rw [hzh] at hcz hzhl
    have hpl:=findP_len (getS_right l) id HIDid.out s
    obtain ⟨pr,hpr⟩:∃ pr,findP (getS l) id s = pr:=⟨_,rfl⟩
    rw [hpr] at hpl
    have HFP:=Lib.hid hpr
    obtain ⟨pc,pe⟩:=pr
    have hpl:pc.1.length = 32:=hpl
    have hucl:=chC_len (c:=pc) hpl
    have HUO:=Lib.hid (chC_one pc)
    have h33:(Tryz.prog.info? 75).map (·.size) = some 33:=by kernel_rfl
    have HEQ:Hid (∀ w,(Op.equalIn 10000 75 (.agg (chC pc).toArray) (.agg (chC pc).toArray)).run Tryz.prog w = .ok true w):=Lib.hid (fun w => by
     rw [ch_eqIn1 pc pc hpl hpl w]
     simp)
    have HFP2:Hid (findP (getS l) id s = (pc,pe)):=HFP
    clear hzh hpl hpr HFP
    have HFP:=HFP2
    clear HFP2
    obtain ⟨uc,huc⟩:∃ uc,chC pc = uc:=⟨_,rfl⟩
    have HUC:=Lib.hid huc
    rw [huc] at hucl HUO HEQ
    clear huc
    have ST:=st3
    have HX:=HX3
    go_upto_region 5 with fail
    have hS0:w3.drew.rangeAt w.heap.size 0 uid:=rangeAt_below HX.out.range (Below.refl _ _).drew HX.out.lt
    refine wp_region_L 10 (fun w' => w'.rangeAt w.heap.size 0 uid) (by kernel_rfl) (by kernel_rfl) ?_
    refine WL.take (i:=0) (v:=?_) rfl (by kernel_rfl) (by decide) (by decide +kernel) (by decide +kernel) (fun _ _ _ h => h) rfl ?_ hS0 ?_
    rotate_left
    ·(intro w' hSw;(try dsimp only at hSw);go_simp;(try with_reducible rfl))
    simp only [Act.put];(try simp only [List.getElem_toArray]);(try simp only [List.getElem_cons_succ]);(try simp only [List.getElem_cons_zero]);(try simp only [List.setIfInBounds_toArray]);(try simp only [List.set_cons_succ]);(try simp only [List.set_cons_zero])
    refine WL.take (i:=2) (v:=_) rfl (by kernel_rfl) (by decide) (by decide +kernel) (by decide +kernel) (fun _ _ _ h => h) rfl (fun w' hSw => exec_row 24 _ (hSw) Tryz.underlying24 rfl h32id _ rfl rfl) hS0 ?_
    simp only [Act.put];(try simp only [List.getElem_toArray]);(try simp only [List.getElem_cons_succ]);(try simp only [List.getElem_cons_zero]);(try simp only [List.setIfInBounds_toArray]);(try simp only [List.set_cons_succ]);(try simp only [List.set_cons_zero])
    refine WL.take (i:=3) (v:=?_) rfl (by kernel_rfl) (by decide) (by decide +kernel) (by decide +kernel) (fun _ _ _ h => h) rfl ?_ hS0 ?_
    rotate_left
    ·(intro w' hSw;(try dsimp only at hSw);go_simp;(try with_reducible rfl))
    simp only [Act.put];(try simp only [List.getElem_toArray]);(try simp only [List.getElem_cons_succ]);(try simp only [List.getElem_cons_zero]);(try simp only [List.setIfInBounds_toArray]);(try simp only [List.set_cons_succ]);(try simp only [List.set_cons_zero])
    refine WL.two (i:=1) (k:=8) rfl rfl (by decide) (by decide) (by decide +kernel) ?_ ?_
    focus
     go_wp2_with fail
     refine (HOF.out (w3.drew) (ST.out.step (Below.refl _ _).drew)).mono ?_
     rintro e WE5 ⟨r,rfl,hsr,hb⟩
     have hb:=drew_below hb
     have HBQ:=Lib.hid hb
     have HSR:=Lib.hid hsr
     have hS:=(HX.out.below HBQ.out).range
     clear hb hsr
     go_wp2
     refine ⟨hS,?_⟩
     refine WL.two (i:=4) (k:=8) rfl rfl (by decide) (by decide) (by decide +kernel) ?_ ?_
     focus
      have hfi:=pfind_any r (getS l) (fun x o h => getS_right l x o h) id s (WE5) HSR.out HIDid.out hz (ST.out.step HBQ.out).mx
      unfold FiAns at hfi
      rw [HFP.out] at hfi;dsimp only at hfi;rw [HIAid.out,HUC.out] at hfi
      have HFI:=Lib.hid hfi
      clear hfi
      go_wp2_with fail
      refine HFI.out.mono ?_
      rintro e WE6 ⟨rfl,hb⟩
      have HBQ:=Lib.hid (HBQ.out.trans (hb.mono HBQ.out.size))
      have hS:=(HX.out.below HBQ.out).range
      have HT:=Lib.hid (there_alloc WE6 zh.toArray 75 (by simpa using hzhl))
      have hxq:=BoxL.new WE6 75 zh
      clear hb
      go_wp2
      refine ⟨hS,?_⟩
      refine WL.take (i:=5) (v:=?_) rfl (by kernel_rfl) (by decide) (by decide +kernel) (by decide +kernel) (fun _ _ _ h => h) rfl ?_ hS ?_
      rotate_left
      ·(intro w' hSw;(try dsimp only at hSw);go_simp;(try with_reducible rfl))
      simp only [Act.put];(try simp only [List.getElem_toArray]);(try simp only [List.getElem_cons_succ]);(try simp only [List.getElem_cons_zero]);(try simp only [List.setIfInBounds_toArray]);(try simp only [List.set_cons_succ]);(try simp only [List.set_cons_zero])
      refine WL.take (i:=6) (v:=?_) rfl (by kernel_rfl) (by decide) (by decide +kernel) (by decide +kernel) (fun _ _ _ h => h) rfl ?_ hS ?_
      rotate_left
      ·(intro w' hSw;(try dsimp only at hSw);go_simp;(try with_reducible rfl))
      simp only [Act.put];(try simp only [List.getElem_toArray]);(try simp only [List.getElem_cons_succ]);(try simp only [List.getElem_cons_zero]);(try simp only [List.setIfInBounds_toArray]);(try simp only [List.set_cons_succ]);(try simp only [List.set_cons_zero])
      refine WL.take (i:=7) (v:=?_) rfl (by kernel_rfl) (by decide) (by decide +kernel) (by decide +kernel) (fun _ _ _ h => h) rfl ?_ hS ?_
      rotate_left
      ·(intro w' hSw;(try dsimp only at hSw);go_simp;(try with_reducible rfl))
      simp only [Act.put];(try simp only [List.getElem_toArray]);(try simp only [List.getElem_cons_succ]);(try simp only [List.getElem_cons_zero]);(try simp only [List.setIfInBounds_toArray]);(try simp only [List.set_cons_succ]);(try simp only [List.set_cons_zero])
      refine WL.one (i:=8) rfl (by decide) (by decide +kernel) ?_
      go_wp2
      have hS2:=(HX.out.below (HBQ.out.alloc HBQ.out.size (.cells zh.toArray 75))).range
      refine ⟨hS2,?_⟩
      refine WL.one (i:=9) rfl (by decide) (by decide +kernel) ?_
      refine wpList_store_list rfl 75 _ _ rfl WE6.heap.size 0 uc rfl rfl 33 hucl HT.out h33 HUO.out ?_
      obtain ⟨qe,hq⟩:∃ q,q = WE6.heap.size:=⟨_,rfl⟩
      obtain ⟨WE,hWE⟩:∃ zz,zz = (WE6.alloc (.cells zh.toArray 75)).setCells WE6.heap.size 0 uc:=⟨_,rfl⟩
      have HCXWE:Hid (BoxL WE WE6.heap.size 75 uc):=Lib.hid (by rw [hWE];exact (hxq).set (by rw [hucl,hzhl]))
      have HBE:Hid (Below w3.heap.size w3 WE):=Lib.hid (by rw [hWE];exact below_setCells _ (HBQ.out.size) _ _ _ (HBQ.out.alloc HBQ.out.size _))
      have hSE:=(HX.out.below HBE.out).range
      rw [← hWE]
      rw [← hq] at HCXWE ⊢
      clear hWE hq
      clear hxq HT HBQ HSR hS hS2
     rotate_left
     focus
      have HT:=Lib.hid (there_alloc WE5 zh.toArray 75 (by simpa using hzhl))
      have hxq:=BoxL.new WE5 75 zh
      go_wp2
      have hb6:Below WE5.heap.size WE5 (WE5.alloc (.cells zh.toArray 75)):=(Below.refl _ _).alloc (Nat.le_refl _) _
      have hg5:w3.heap.size ≤ WE5.heap.size:=HBQ.out.size
      have HBQ:=Lib.hid (HBQ.out.trans (hb6.mono HBQ.out.size))
      have HSR:=Lib.hid (HSR.out.below hb6)
      have hS2:=(HX.out.below HBQ.out).range
      refine ⟨hS2,?_⟩
      refine WL.one (i:=4) rfl (by decide) (by decide +kernel) ?_
      have hfi:=pfind_any r (getS l) (fun x o h => getS_right l x o h) id s (WE5.alloc (.cells zh.toArray 75)) HSR.out HIDid.out hz (ST.out.step HBQ.out).mx
      unfold FiAns at hfi
      rw [HFP.out] at hfi;dsimp only at hfi;rw [HIAid.out,HUC.out] at hfi
      have HFI:=Lib.hid hfi
      clear hfi
      go_wp2_with fail
      refine HFI.out.mono ?_
      rintro e WE6 ⟨rfl,hb⟩
      have HBQ:=Lib.hid (HBQ.out.trans (hb.mono HBQ.out.size))
      have hS:=(HX.out.below HBQ.out).range
      have hxq6:=hxq.below hb
      have HT6:=Lib.hid hxq6.there
      rw [hzhl] at HT6
      clear hb hb6
      go_wp2
      refine ⟨hS,?_⟩
      refine WL.take (i:=5) (v:=?_) rfl (by kernel_rfl) (by decide) (by decide +kernel) (by decide +kernel) (fun _ _ _ h => h) rfl ?_ hS ?_
      rotate_left
      ·(intro w' hSw;(try dsimp only at hSw);go_simp;(try with_reducible rfl))
      simp only [Act.put];(try simp only [List.getElem_toArray]);(try simp only [List.getElem_cons_succ]);(try simp only [List.getElem_cons_zero]);(try simp only [List.setIfInBounds_toArray]);(try simp only [List.set_cons_succ]);(try simp only [List.set_cons_zero])
      refine WL.take (i:=6) (v:=?_) rfl (by kernel_rfl) (by decide) (by decide +kernel) (by decide +kernel) (fun _ _ _ h => h) rfl ?_ hS ?_
      rotate_left
      ·(intro w' hSw;(try dsimp only at hSw);go_simp;(try with_reducible rfl))
      simp only [Act.put];(try simp only [List.getElem_toArray]);(try simp only [List.getElem_cons_succ]);(try simp only [List.getElem_cons_zero]);(try simp only [List.setIfInBounds_toArray]);(try simp only [List.set_cons_succ]);(try simp only [List.set_cons_zero])
      refine WL.take (i:=7) (v:=?_) rfl (by kernel_rfl) (by decide) (by decide +kernel) (by decide +kernel) (fun _ _ _ h => h) rfl ?_ hS ?_
      rotate_left
      ·(intro w' hSw;(try dsimp only at hSw);go_simp;(try with_reducible rfl))
      simp only [Act.put];(try simp only [List.getElem_toArray]);(try simp only [List.getElem_cons_succ]);(try simp only [List.getElem_cons_zero]);(try simp only [List.setIfInBounds_toArray]);(try simp only [List.set_cons_succ]);(try simp only [List.set_cons_zero])
      refine WL.one (i:=9) rfl (by decide) (by decide +kernel) ?_
      refine wpList_store_list rfl 75 _ _ rfl WE5.heap.size 0 uc rfl rfl 33 hucl HT6.out h33 HUO.out ?_
      obtain ⟨qe,hq⟩:∃ q,q = WE5.heap.size:=⟨_,rfl⟩
      obtain ⟨WE,hWE⟩:∃ zz,zz = (WE6).setCells WE5.heap.size 0 uc:=⟨_,rfl⟩
      have HCXWE:Hid (BoxL WE WE5.heap.size 75 uc):=Lib.hid (by rw [hWE];exact (hxq6).set (by rw [hucl,hzhl]))
      have HBE:Hid (Below w3.heap.size w3 WE):=Lib.hid (by rw [hWE];exact below_setCells _ (hg5) _ _ _ (HBQ.out))
      have hSE:=(HX.out.below HBE.out).range
      rw [← hWE]
      rw [← hq] at HCXWE ⊢
      clear hWE hq
      clear hxq hxq6 HT HT6 HBQ HSR hS hS2 hg5
    rotate_left
    rotate_left
    focus
     have HT:=Lib.hid (there_alloc w3.drew zh.toArray 75 (by simpa using hzhl))
     have hxq:=BoxL.new w3.drew 75 zh
     go_wp2
     have HBQ:Hid (Below w3.heap.size w3 (w3.drew.alloc (.cells zh.toArray 75))):=Lib.hid ((Below.refl _ _).drew.alloc (Nat.le_refl _) _)
     have hS2:=(HX.out.below HBQ.out).range
     refine ⟨hS2,?_⟩
     refine WL.one (i:=1) rfl (by decide) (by decide +kernel) ?_
     go_wp2_with fail
     refine (HOF.out (w3.drew.alloc (.cells zh.toArray 75)) (ST.out.step HBQ.out)).mono ?_
     rintro e WE5 ⟨r,rfl,hsr,hb⟩
     have hxq5:=hxq.below hb
     have HBQ:=Lib.hid (HBQ.out.trans (hb.mono HBQ.out.size))
     have HSR:=Lib.hid hsr
     have hS:=(HX.out.below HBQ.out).range
     clear hb hsr hxq
     go_wp2
     refine ⟨hS,?_⟩
     refine WL.one (i:=4) rfl (by decide) (by decide +kernel) ?_
     have hfi:=pfind_any r (getS l) (fun x o h => getS_right l x o h) id s (WE5) HSR.out HIDid.out hz (ST.out.step HBQ.out).mx
     unfold FiAns at hfi
     rw [HFP.out] at hfi;dsimp only at hfi;rw [HIAid.out,HUC.out] at hfi
     have HFI:=Lib.hid hfi
     clear hfi
     go_wp2_with fail
     refine HFI.out.mono ?_
     rintro e WE6 ⟨rfl,hb⟩
     have HBQ:=Lib.hid (HBQ.out.trans (hb.mono HBQ.out.size))
     have hS:=(HX.out.below HBQ.out).range
     have hxq6:=hxq5.below hb
     have HT6:=Lib.hid hxq6.there
     rw [hzhl] at HT6
     clear hb
     go_wp2
     refine ⟨hS,?_⟩
     refine WL.take (i:=5) (v:=?_) rfl (by kernel_rfl) (by decide) (by decide +kernel) (by decide +kernel) (fun _ _ _ h => h) rfl ?_ hS ?_
     rotate_left
     ·(intro w' hSw;(try dsimp only at hSw);go_simp;(try with_reducible rfl))
     simp only [Act.put];(try simp only [List.getElem_toArray]);(try simp only [List.getElem_cons_succ]);(try simp only [List.getElem_cons_zero]);(try simp only [List.setIfInBounds_toArray]);(try simp only [List.set_cons_succ]);(try simp only [List.set_cons_zero])
     refine WL.take (i:=6) (v:=?_) rfl (by kernel_rfl) (by decide) (by decide +kernel) (by decide +kernel) (fun _ _ _ h => h) rfl ?_ hS ?_
     rotate_left
     ·(intro w' hSw;(try dsimp only at hSw);go_simp;(try with_reducible rfl))
     simp only [Act.put];(try simp only [List.getElem_toArray]);(try simp only [List.getElem_cons_succ]);(try simp only [List.getElem_cons_zero]);(try simp only [List.setIfInBounds_toArray]);(try simp only [List.set_cons_succ]);(try simp only [List.set_cons_zero])
     refine WL.take (i:=7) (v:=?_) rfl (by kernel_rfl) (by decide) (by decide +kernel) (by decide +kernel) (fun _ _ _ h => h) rfl ?_ hS ?_
     rotate_left
     ·(intro w' hSw;(try dsimp only at hSw);go_simp;(try with_reducible rfl))
     simp only [Act.put];(try simp only [List.getElem_toArray]);(try simp only [List.getElem_cons_succ]);(try simp only [List.getElem_cons_zero]);(try simp only [List.setIfInBounds_toArray]);(try simp only [List.set_cons_succ]);(try simp only [List.set_cons_zero])
     refine WL.one (i:=9) rfl (by decide) (by decide +kernel) ?_
     refine wpList_store_list rfl 75 _ _ rfl w3.heap.size 0 uc rfl rfl 33 hucl HT6.out h33 HUO.out ?_
     obtain ⟨qe,hq⟩:∃ q,q = w3.heap.size:=⟨_,rfl⟩
     obtain ⟨WE,hWE⟩:∃ zz,zz = (WE6).setCells w3.heap.size 0 uc:=⟨_,rfl⟩
     have HCXWE:Hid (BoxL WE w3.heap.size 75 uc):=Lib.hid (by rw [hWE];exact (hxq6).set (by rw [hucl,hzhl]))
     have HBE:Hid (Below w3.heap.size w3 WE):=Lib.hid (by rw [hWE];exact below_setCells _ (Nat.le_refl _) _ _ _ (HBQ.out))
     have hSE:=(HX.out.below HBE.out).range
     rw [← hWE]
     rw [← hq] at HCXWE ⊢
     clear hWE hq
     clear hxq5 hxq6 HT HT6 HBQ HSR hS hS2
    all_goals
     go_wp2
     refine ⟨hSE,?_⟩
     refine WL.last (n:=10) rfl rfl (by decide +kernel) (by decide +kernel) ?_
     go_wp2_with fail
     have ST:=Lib.hid (st3.out.step HBE.out)
     have HX:=Lib.hid (HX3.out.below HBE.out)
     have HBE1:=HBE
     clear HBE hSE
     have hS0:WE.drew.rangeAt w.heap.size 0 uid:=rangeAt_below HX.out.range (Below.refl _ _).drew HX.out.lt
     refine wp_region_L 10 (fun w' => w'.rangeAt w.heap.size 0 uid) (by kernel_rfl) (by kernel_rfl) ?_
     refine WL.take (i:=0) (v:=?_) rfl (by kernel_rfl) (by decide) (by decide +kernel) (by decide +kernel) (fun _ _ _ h => h) rfl ?_ hS0 ?_
     rotate_left
     ·(intro w' hSw;(try dsimp only at hSw);go_simp;(try with_reducible rfl))
     simp only [Act.put];(try simp only [List.getElem_toArray]);(try simp only [List.getElem_cons_succ]);(try simp only [List.getElem_cons_zero]);(try simp only [List.setIfInBounds_toArray]);(try simp only [List.set_cons_succ]);(try simp only [List.set_cons_zero])
     refine WL.take (i:=2) (v:=_) rfl (by kernel_rfl) (by decide) (by decide +kernel) (by decide +kernel) (fun _ _ _ h => h) rfl (fun w' hSw => exec_row 24 _ (hSw) Tryz.underlying24 rfl h32id _ rfl rfl) hS0 ?_
     simp only [Act.put];(try simp only [List.getElem_toArray]);(try simp only [List.getElem_cons_succ]);(try simp only [List.getElem_cons_zero]);(try simp only [List.setIfInBounds_toArray]);(try simp only [List.set_cons_succ]);(try simp only [List.set_cons_zero])
     refine WL.take (i:=3) (v:=?_) rfl (by kernel_rfl) (by decide) (by decide +kernel) (by decide +kernel) (fun _ _ _ h => h) rfl ?_ hS0 ?_
     rotate_left
     ·(intro w' hSw;(try dsimp only at hSw);go_simp;(try with_reducible rfl))
     simp only [Act.put];(try simp only [List.getElem_toArray]);(try simp only [List.getElem_cons_succ]);(try simp only [List.getElem_cons_zero]);(try simp only [List.setIfInBounds_toArray]);(try simp only [List.set_cons_succ]);(try simp only [List.set_cons_zero])
     refine WL.two (i:=1) (k:=8) rfl rfl (by decide) (by decide) (by decide +kernel) ?_ ?_
     focus
      go_wp2_with fail
      refine (HRO.out (WE.drew) (ST.out.step (Below.refl _ _).drew)).mono ?_
      intro e WF5 h
      obtain ⟨vl,vi,rfl,ho1,ho2,hb⟩:=h
      have hsr:SrcRow WF5 (.agg #[vl,vi]) l:=⟨vl,vi,rfl,ho1,ho2⟩
      clear ho1 ho2
      have hb:=drew_below hb
      have HBQ:=Lib.hid hb
      have HSR:=Lib.hid hsr
      have hS:=(HX.out.below HBQ.out).range
      clear hb hsr
      go_wp2
      refine ⟨hS,?_⟩
      refine WL.two (i:=4) (k:=8) rfl rfl (by decide) (by decide) (by decide +kernel) ?_ ?_
      focus
       have hfi:=rfind_any (.agg #[vl,vi]) l id s (WF5) HSR.out HIDid.out (by omega)
       unfold FiAns at hfi
       rw [HFP.out] at hfi;dsimp only at hfi;rw [HIAid.out,HUC.out] at hfi
       have HFI:=Lib.hid hfi
       clear hfi
       go_wp2_with fail
       refine HFI.out.mono ?_
       rintro e WF6 ⟨rfl,hb⟩
       have HBQ:=Lib.hid (HBQ.out.trans (hb.mono HBQ.out.size))
       have hS:=(HX.out.below HBQ.out).range
       have HT:=Lib.hid (there_alloc WF6 zh.toArray 75 (by simpa using hzhl))
       have hxq:=BoxL.new WF6 75 zh
       clear hb
       go_wp2
       refine ⟨hS,?_⟩
       refine WL.take (i:=5) (v:=?_) rfl (by kernel_rfl) (by decide) (by decide +kernel) (by decide +kernel) (fun _ _ _ h => h) rfl ?_ hS ?_
       rotate_left
       ·(intro w' hSw;(try dsimp only at hSw);go_simp;(try with_reducible rfl))
       simp only [Act.put];(try simp only [List.getElem_toArray]);(try simp only [List.getElem_cons_succ]);(try simp only [List.getElem_cons_zero]);(try simp only [List.setIfInBounds_toArray]);(try simp only [List.set_cons_succ]);(try simp only [List.set_cons_zero])
       refine WL.take (i:=6) (v:=?_) rfl (by kernel_rfl) (by decide) (by decide +kernel) (by decide +kernel) (fun _ _ _ h => h) rfl ?_ hS ?_
       rotate_left
       ·(intro w' hSw;(try dsimp only at hSw);go_simp;(try with_reducible rfl))
       simp only [Act.put];(try simp only [List.getElem_toArray]);(try simp only [List.getElem_cons_succ]);(try simp only [List.getElem_cons_zero]);(try simp only [List.setIfInBounds_toArray]);(try simp only [List.set_cons_succ]);(try simp only [List.set_cons_zero])
       refine WL.take (i:=7) (v:=?_) rfl (by kernel_rfl) (by decide) (by decide +kernel) (by decide +kernel) (fun _ _ _ h => h) rfl ?_ hS ?_
       rotate_left
       ·(intro w' hSw;(try dsimp only at hSw);go_simp;(try with_reducible rfl))
       simp only [Act.put];(try simp only [List.getElem_toArray]);(try simp only [List.getElem_cons_succ]);(try simp only [List.getElem_cons_zero]);(try simp only [List.setIfInBounds_toArray]);(try simp only [List.set_cons_succ]);(try simp only [List.set_cons_zero])
       refine WL.one (i:=8) rfl (by decide) (by decide +kernel) ?_
       go_wp2
       have hS2:=(HX.out.below (HBQ.out.alloc HBQ.out.size (.cells zh.toArray 75))).range
       refine ⟨hS2,?_⟩
       refine WL.one (i:=9) rfl (by decide) (by decide +kernel) ?_
       refine wpList_store_list rfl 75 _ _ rfl WF6.heap.size 0 uc rfl rfl 33 hucl HT.out h33 HUO.out ?_
       obtain ⟨qf,hq⟩:∃ q,q = WF6.heap.size:=⟨_,rfl⟩
       obtain ⟨WF,hWE⟩:∃ zz,zz = (WF6.alloc (.cells zh.toArray 75)).setCells WF6.heap.size 0 uc:=⟨_,rfl⟩
       have HCXWF:Hid (BoxL WF WF6.heap.size 75 uc):=Lib.hid (by rw [hWE];exact (hxq).set (by rw [hucl,hzhl]))
       have HBE:Hid (Below WE.heap.size WE WF):=Lib.hid (by rw [hWE];exact below_setCells _ (HBQ.out.size) _ _ _ (HBQ.out.alloc HBQ.out.size _))
       have hSE:=(HX.out.below HBE.out).range
       rw [← hWE]
       rw [← hq] at HCXWF ⊢
       clear hWE hq
       clear hxq HT HBQ HSR hS hS2
      rotate_left
      focus
       have HT:=Lib.hid (there_alloc WF5 zh.toArray 75 (by simpa using hzhl))
       have hxq:=BoxL.new WF5 75 zh
       go_wp2
       have hb6:Below WF5.heap.size WF5 (WF5.alloc (.cells zh.toArray 75)):=(Below.refl _ _).alloc (Nat.le_refl _) _
       have hg5:WE.heap.size ≤ WF5.heap.size:=HBQ.out.size
       have HBQ:=Lib.hid (HBQ.out.trans (hb6.mono HBQ.out.size))
       have HSR:=Lib.hid (HSR.out.below hb6)
       have hS2:=(HX.out.below HBQ.out).range
       refine ⟨hS2,?_⟩
       refine WL.one (i:=4) rfl (by decide) (by decide +kernel) ?_
       have hfi:=rfind_any (.agg #[vl,vi]) l id s (WF5.alloc (.cells zh.toArray 75)) HSR.out HIDid.out (by omega)
       unfold FiAns at hfi
       rw [HFP.out] at hfi;dsimp only at hfi;rw [HIAid.out,HUC.out] at hfi
       have HFI:=Lib.hid hfi
       clear hfi
       go_wp2_with fail
       refine HFI.out.mono ?_
       rintro e WF6 ⟨rfl,hb⟩
       have HBQ:=Lib.hid (HBQ.out.trans (hb.mono HBQ.out.size))
       have hS:=(HX.out.below HBQ.out).range
       have hxq6:=hxq.below hb
       have HT6:=Lib.hid hxq6.there
       rw [hzhl] at HT6
       clear hb hb6
       go_wp2
       refine ⟨hS,?_⟩
       refine WL.take (i:=5) (v:=?_) rfl (by kernel_rfl) (by decide) (by decide +kernel) (by decide +kernel) (fun _ _ _ h => h) rfl ?_ hS ?_
       rotate_left
       ·(intro w' hSw;(try dsimp only at hSw);go_simp;(try with_reducible rfl))
       simp only [Act.put];(try simp only [List.getElem_toArray]);(try simp only [List.getElem_cons_succ]);(try simp only [List.getElem_cons_zero]);(try simp only [List.setIfInBounds_toArray]);(try simp only [List.set_cons_succ]);(try simp only [List.set_cons_zero])
       refine WL.take (i:=6) (v:=?_) rfl (by kernel_rfl) (by decide) (by decide +kernel) (by decide +kernel) (fun _ _ _ h => h) rfl ?_ hS ?_
       rotate_left
       ·(intro w' hSw;(try dsimp only at hSw);go_simp;(try with_reducible rfl))
       simp only [Act.put];(try simp only [List.getElem_toArray]);(try simp only [List.getElem_cons_succ]);(try simp only [List.getElem_cons_zero]);(try simp only [List.setIfInBounds_toArray]);(try simp only [List.set_cons_succ]);(try simp only [List.set_cons_zero])
       refine WL.take (i:=7) (v:=?_) rfl (by kernel_rfl) (by decide) (by decide +kernel) (by decide +kernel) (fun _ _ _ h => h) rfl ?_ hS ?_
       rotate_left
       ·(intro w' hSw;(try dsimp only at hSw);go_simp;(try with_reducible rfl))
       simp only [Act.put];(try simp only [List.getElem_toArray]);(try simp only [List.getElem_cons_succ]);(try simp only [List.getElem_cons_zero]);(try simp only [List.setIfInBounds_toArray]);(try simp only [List.set_cons_succ]);(try simp only [List.set_cons_zero])
       refine WL.one (i:=9) rfl (by decide) (by decide +kernel) ?_
       refine wpList_store_list rfl 75 _ _ rfl WF5.heap.size 0 uc rfl rfl 33 hucl HT6.out h33 HUO.out ?_
       obtain ⟨qf,hq⟩:∃ q,q = WF5.heap.size:=⟨_,rfl⟩
       obtain ⟨WF,hWE⟩:∃ zz,zz = (WF6).setCells WF5.heap.size 0 uc:=⟨_,rfl⟩
       have HCXWF:Hid (BoxL WF WF5.heap.size 75 uc):=Lib.hid (by rw [hWE];exact (hxq6).set (by rw [hucl,hzhl]))
       have HBE:Hid (Below WE.heap.size WE WF):=Lib.hid (by rw [hWE];exact below_setCells _ (hg5) _ _ _ (HBQ.out))
       have hSE:=(HX.out.below HBE.out).range
       rw [← hWE]
       rw [← hq] at HCXWF ⊢
       clear hWE hq
       clear hxq hxq6 HT HT6 HBQ HSR hS hS2 hg5
     rotate_left
     rotate_left
     focus
      have HT:=Lib.hid (there_alloc WE.drew zh.toArray 75 (by simpa using hzhl))
      have hxq:=BoxL.new WE.drew 75 zh
      go_wp2
      have HBQ:Hid (Below WE.heap.size WE (WE.drew.alloc (.cells zh.toArray 75))):=Lib.hid ((Below.refl _ _).drew.alloc (Nat.le_refl _) _)
      have hS2:=(HX.out.below HBQ.out).range
      refine ⟨hS2,?_⟩
      refine WL.one (i:=1) rfl (by decide) (by decide +kernel) ?_
      go_wp2_with fail
      refine (HRO.out (WE.drew.alloc (.cells zh.toArray 75)) (ST.out.step HBQ.out)).mono ?_
      intro e WF5 h
      obtain ⟨vl,vi,rfl,ho1,ho2,hb⟩:=h
      have hsr:SrcRow WF5 (.agg #[vl,vi]) l:=⟨vl,vi,rfl,ho1,ho2⟩
      clear ho1 ho2
      have hxq5:=hxq.below hb
      have HBQ:=Lib.hid (HBQ.out.trans (hb.mono HBQ.out.size))
      have HSR:=Lib.hid hsr
      have hS:=(HX.out.below HBQ.out).range
      clear hb hsr hxq
      go_wp2
      refine ⟨hS,?_⟩
      refine WL.one (i:=4) rfl (by decide) (by decide +kernel) ?_
      have hfi:=rfind_any (.agg #[vl,vi]) l id s (WF5) HSR.out HIDid.out (by omega)
      unfold FiAns at hfi
      rw [HFP.out] at hfi;dsimp only at hfi;rw [HIAid.out,HUC.out] at hfi
      have HFI:=Lib.hid hfi
      clear hfi
      go_wp2_with fail
      refine HFI.out.mono ?_
      rintro e WF6 ⟨rfl,hb⟩
      have HBQ:=Lib.hid (HBQ.out.trans (hb.mono HBQ.out.size))
      have hS:=(HX.out.below HBQ.out).range
      have hxq6:=hxq5.below hb
      have HT6:=Lib.hid hxq6.there
      rw [hzhl] at HT6
      clear hb
      go_wp2
      refine ⟨hS,?_⟩
      refine WL.take (i:=5) (v:=?_) rfl (by kernel_rfl) (by decide) (by decide +kernel) (by decide +kernel) (fun _ _ _ h => h) rfl ?_ hS ?_
      rotate_left
      ·(intro w' hSw;(try dsimp only at hSw);go_simp;(try with_reducible rfl))
      simp only [Act.put];(try simp only [List.getElem_toArray]);(try simp only [List.getElem_cons_succ]);(try simp only [List.getElem_cons_zero]);(try simp only [List.setIfInBounds_toArray]);(try simp only [List.set_cons_succ]);(try simp only [List.set_cons_zero])
      refine WL.take (i:=6) (v:=?_) rfl (by kernel_rfl) (by decide) (by decide +kernel) (by decide +kernel) (fun _ _ _ h => h) rfl ?_ hS ?_
      rotate_left
      ·(intro w' hSw;(try dsimp only at hSw);go_simp;(try with_reducible rfl))
      simp only [Act.put];(try simp only [List.getElem_toArray]);(try simp only [List.getElem_cons_succ]);(try simp only [List.getElem_cons_zero]);(try simp only [List.setIfInBounds_toArray]);(try simp only [List.set_cons_succ]);(try simp only [List.set_cons_zero])
      refine WL.take (i:=7) (v:=?_) rfl (by kernel_rfl) (by decide) (by decide +kernel) (by decide +kernel) (fun _ _ _ h => h) rfl ?_ hS ?_
      rotate_left
      ·(intro w' hSw;(try dsimp only at hSw);go_simp;(try with_reducible rfl))
      simp only [Act.put];(try simp only [List.getElem_toArray]);(try simp only [List.getElem_cons_succ]);(try simp only [List.getElem_cons_zero]);(try simp only [List.setIfInBounds_toArray]);(try simp only [List.set_cons_succ]);(try simp only [List.set_cons_zero])
      refine WL.one (i:=9) rfl (by decide) (by decide +kernel) ?_
      refine wpList_store_list rfl 75 _ _ rfl WE.heap.size 0 uc rfl rfl 33 hucl HT6.out h33 HUO.out ?_
      obtain ⟨qf,hq⟩:∃ q,q = WE.heap.size:=⟨_,rfl⟩
      obtain ⟨WF,hWE⟩:∃ zz,zz = (WF6).setCells WE.heap.size 0 uc:=⟨_,rfl⟩
      have HCXWF:Hid (BoxL WF WE.heap.size 75 uc):=Lib.hid (by rw [hWE];exact (hxq6).set (by rw [hucl,hzhl]))
      have HBE:Hid (Below WE.heap.size WE WF):=Lib.hid (by rw [hWE];exact below_setCells _ (Nat.le_refl _) _ _ _ (HBQ.out))
      have hSE:=(HX.out.below HBE.out).range
      rw [← hWE]
      rw [← hq] at HCXWF ⊢
      clear hWE hq
      clear hxq5 hxq6 HT HT6 HBQ HSR hS hS2
     all_goals
      go_wp2
      refine ⟨hSE,?_⟩
      refine WL.last (n:=10) rfl rfl (by decide +kernel) (by decide +kernel) ?_
      go_wp2_with fail
      have ST:=Lib.hid (ST.out.step HBE.out)
      have HC1:=Lib.hid (HCXWE.out.below HBE.out)
      clear hSE
      refine (HAL.out _ ST.out).mono ?_
      rintro e wz ⟨rfl,hbz⟩
      have STZ:=Lib.hid (ST.out.step hbz)
      have f1:=(HC1.out.below hbz).range
      have f2:=(HCXWF.out.below hbz).range
      have heq:=fun w => HEQ.out w
      have hee:((pe:Int) == (pe:Int)) = true:=by simp
      have h33u:(Tryz.prog.info? 75).map (·.size) = some uc.length:=by rw [hucl];exact h33
      clear hbz
      go_wp2_with (first
       | (refine wpList_load_mid_g rfl 75 _ rfl qe 0 rfl uc _ f1 Tryz.underlying75 rfl h33u ?_)
       | (refine wpList_load_mid_g rfl 75 _ rfl qf 0 rfl uc _ f2 Tryz.underlying75 rfl h33u ?_)
       | (refine wpList_load_mid rfl 75 _ rfl qe 0 rfl uc _ f1 Tryz.underlying75 rfl h33u ?_)
       | (refine wpList_load_mid rfl 75 _ rfl qf 0 rfl uc _ f2 Tryz.underlying75 rfl h33u ?_))
      go_ret
      exact ⟨rfl,STZ.out.bel⟩
end Go.Proofs.YtbmiiiccnoiffaaGreatDoor
namespace Go.Proofs.YtbmiiiccnoiffaaGreatDoor
open Go.RowKit
set_option maxRecDepth 100000 in
set_option maxHeartbeats 16000000 in
theorem pfiles_walk (v:Value) (l:List Ob) (id:Idl) (w:World) (hv:ObRow w v l) (hL:Laid w) (hid:id.length = 32) (hm:MaxAt w) :
  Calls Tryz.prog 10 #[v,.agg (idC id).toArray] w fun e w' => e = .returned (.bool true) ∧ Below w.heap.size w w':=by
 have h32id:=h32_of (us:=idC id) (by rw [idC_len,hid])
 obtain ⟨W,hW⟩:∃ W,w.alloc (.cells (idC id).toArray 24) = W:=⟨_,rfl⟩
 have hbW:Below w.heap.size w W:=by rw [← hW];exact (Below.refl _ _).alloc (Nat.le_refl _) _
 have st:Hid (StP w v l W):=Lib.hid (StP.step ⟨hv,hL,hm,Below.refl _ _⟩ hbW)
 have HRid:Hid (BoxL W w.heap.size 24 (idC id)):=Lib.hid (by rw [← hW];exact BoxL.new w 24 (idC id))
 have HW:=Lib.hid hW
 have HIDid:=Lib.hid hid
 have HAL:=Lib.hid (fun W (h:StP w v l W) => alive26_any W h.ld h.mx)
 have HGR:=Lib.hid (fun W (h:StP w v l W) => rgreat_any v l W h.row)
 have HCL:=Lib.hid (fun W (h:StP w v l W) => clash26_any v l W h.row)
 clear hbW hL hW hv hm hid
 generalize huid:idC id = uid at h32id HRid HW
 have HIAid:=Lib.hid huid
 clear huid
 cases hg:obGreat l with
 | true =>
  rw [hg] at HGR
  clear hg
  go_enter Tryz.func10,Tryz.ntmps10
  go_wp2_with fail
  rw [HW.out]
  refine (HAL.out W st.out).mono ?_
  rintro e w1 ⟨rfl,hb1⟩
  have st1:=Lib.hid (st.out.step hb1)
  clear hb1
  go_wp2_with fail
  refine (HGR.out w1 st1.out).mono ?_
  rintro e w2 ⟨rfl,rfl⟩
  go_wp2_with fail
  refine (HAL.out _ st1.out).mono ?_
  rintro e w3 ⟨rfl,hb3⟩
  have st3:=Lib.hid (st1.out.step hb3)
  clear hb3
  go_wp2
  go_ret
  exact ⟨rfl,st3.out.bel⟩
 | false =>
  rw [hg] at HGR
  have hn:=great_40 hg
  clear hg
  cases hc:clashB l with
  | true =>
   rw [hc] at HCL
   clear hc
   go_enter Tryz.func10,Tryz.ntmps10
   go_wp2_with fail
   rw [HW.out]
   refine (HAL.out W st.out).mono ?_
   rintro e w1 ⟨rfl,hb1⟩
   have st1:=Lib.hid (st.out.step hb1)
   clear hb1
   go_wp2_with fail
   refine (HGR.out w1 st1.out).mono ?_
   rintro e w2 ⟨rfl,rfl⟩
   go_wp2_with fail
   refine (HCL.out _ st1.out).mono ?_
   rintro e w3 ⟨rfl,hb3⟩
   have st3:=Lib.hid (st1.out.step hb3)
   clear hb3
   go_wp2_with fail
   refine (HAL.out _ st3.out).mono ?_
   rintro e w4 ⟨rfl,hb4⟩
   have st4:=Lib.hid (st3.out.step hb4)
   clear hb4
   go_wp2
   go_ret
   exact ⟨rfl,st4.out.bel⟩
  | false =>
   rw [hc] at HCL
   have HLG:Hid (lastS l = getS l):=Lib.hid (funext fun x => last_get hc x)
   clear hc
   have HOF:=Lib.hid (fun W (h:StP w v l W) => oof_any v l W h.row (by omega) h.ld)
   rw [HLG.out] at HOF
   have HRO:=Lib.hid (fun W (h:StP w v l W) => rof_any v l W h.row (by omega))
   clear HLG
   go_enter Tryz.func10,Tryz.ntmps10
   go_wp2_with fail
   rw [HW.out]
   refine (HAL.out W st.out).mono ?_
   rintro e w1 ⟨rfl,hb1⟩
   have st1:=Lib.hid (st.out.step hb1)
   have HB1:=Lib.hid hb1
   clear hb1 HW
   go_wp2_with fail
   refine (HGR.out w1 st1.out).mono ?_
   rintro e w2 ⟨rfl,rfl⟩
   go_wp2_with fail
   refine (HCL.out _ st1.out).mono ?_
   rintro e w3 ⟨rfl,hb3⟩
   have st3:=Lib.hid (st1.out.step hb3)
   have HX3:=Lib.hid (HRid.out.below (HB1.out.trans (hb3.mono HB1.out.size)))
   clear hb3
   go_upto_region 5 with fail
   have hS0:w3.drew.rangeAt w.heap.size 0 uid:=rangeAt_below HX3.out.range (Below.refl _ _).drew HX3.out.lt
   refine wp_region_L 8 (fun w' => w'.rangeAt w.heap.size 0 uid) (by kernel_rfl) (by kernel_rfl) ?_
   refine WL.take (i:=0) (v:=?_) rfl (by kernel_rfl) (by decide) (by decide +kernel) (by decide +kernel) (fun _ _ _ h => h) rfl ?_ hS0 ?_
   rotate_left
   ·(intro w' hSw;(try dsimp only at hSw);go_simp;(try with_reducible rfl))
   simp only [Act.put];(try simp only [List.getElem_toArray]);(try simp only [List.getElem_cons_succ]);(try simp only [List.getElem_cons_zero]);(try simp only [List.setIfInBounds_toArray]);(try simp only [List.set_cons_succ]);(try simp only [List.set_cons_zero])
   refine WL.take (i:=2) (v:=_) rfl (by kernel_rfl) (by decide) (by decide +kernel) (by decide +kernel) (fun _ _ _ h => h) rfl (fun w' hSw => exec_row 24 _ (hSw) Tryz.underlying24 rfl h32id _ rfl rfl) hS0 ?_
   simp only [Act.put];(try simp only [List.getElem_toArray]);(try simp only [List.getElem_cons_succ]);(try simp only [List.getElem_cons_zero]);(try simp only [List.setIfInBounds_toArray]);(try simp only [List.set_cons_succ]);(try simp only [List.set_cons_zero])
   refine WL.one (i:=1) rfl (by decide) (by decide +kernel) ?_
   go_wp2_with fail
   refine (HOF.out w3.drew (st3.out.step (Below.refl _ _).drew)).mono ?_
   rintro e w4 ⟨r,rfl,hsr,hb4⟩
   have hb4:=drew_below hb4
   have st4:=Lib.hid (st3.out.step hb4)
   have HX4:=Lib.hid (HX3.out.below hb4)
   have hS4:=HX4.out.range
   have hpf:=pfiles_any r (getS l) (fun x o h => getS_right l x o h) id w4 hsr HIDid.out
   rw [HIAid.out] at hpf
   have HPF:=Lib.hid hpf
   clear hsr hb4 hpf hS0
   go_wp2
   refine ⟨hS4,?_⟩
   refine WL.one (i:=3) rfl (by decide) (by decide +kernel) ?_
   go_wp2_with fail
   refine HPF.out.mono ?_
   rintro e w5 ⟨vf,rfl,hfy,hfe,hb5⟩
   have st5:=Lib.hid (st4.out.step hb5)
   have HX5:=Lib.hid (HX4.out.below hb5)
   have hS5:=HX5.out.range
   obtain ⟨fr,hfr⟩:∃ fr,filesF (getS l) id = fr:=⟨_,rfl⟩
   have HFR:=Lib.hid hfr
   rw [hfr] at hfy hfe ⊢
   obtain ⟨L,hLL⟩:∃ L,LeafRow w5 vf L ∧ ((∃ y,fr = .inr y ∧ L = y) ∨ ((∃ c,fr = .inl c) ∧ L = [])):=by
    cases fr with
    | inl c => exact ⟨[],by rw [(hfe c rfl).1];exact leafRow_nil w5,.inr ⟨⟨c,rfl⟩,rfl⟩⟩
    | inr y => exact ⟨y,(hfy y rfl).1,.inl ⟨y,rfl,rfl⟩⟩
   have HL5:=Lib.hid hLL.1
   have HFL:=Lib.hid hLL.2
   have hLL1:=hLL.1
   obtain ⟨fo,fcap,rfl,_⟩:=hLL1.open
   obtain ⟨er,her⟩:∃ er,errOf fr = er:=⟨_,rfl⟩
   have HER:=Lib.hid her
   rw [her]
   clear hfy hfe hfr hLL hLL1 hb5 her hS4
   go_wp2
   refine ⟨hS5,?_⟩
   refine WL.take (i:=4) (v:=?_) rfl (by kernel_rfl) (by decide) (by decide +kernel) (by decide +kernel) (fun _ _ _ h => h) rfl ?_ hS5 ?_
   rotate_left
   ·(intro w' hSw;(try dsimp only at hSw);go_simp;(try with_reducible rfl))
   simp only [Act.put];(try simp only [List.getElem_toArray]);(try simp only [List.getElem_cons_succ]);(try simp only [List.getElem_cons_zero]);(try simp only [List.setIfInBounds_toArray]);(try simp only [List.set_cons_succ]);(try simp only [List.set_cons_zero])
   refine WL.take (i:=5) (v:=?_) rfl (by kernel_rfl) (by decide) (by decide +kernel) (by decide +kernel) (fun _ _ _ h => h) rfl ?_ hS5 ?_
   rotate_left
   ·(intro w' hSw;(try dsimp only at hSw);go_simp;(try with_reducible rfl))
   simp only [Act.put];(try simp only [List.getElem_toArray]);(try simp only [List.getElem_cons_succ]);(try simp only [List.getElem_cons_zero]);(try simp only [List.setIfInBounds_toArray]);(try simp only [List.set_cons_succ]);(try simp only [List.set_cons_zero])
   refine WL.take (i:=6) (v:=?_) rfl (by kernel_rfl) (by decide) (by decide +kernel) (by decide +kernel) (fun _ _ _ h => h) rfl ?_ hS5 ?_
   rotate_left
   ·(intro w' hSw;(try dsimp only at hSw);go_simp;(try with_reducible rfl))
   simp only [Act.put];(try simp only [List.getElem_toArray]);(try simp only [List.getElem_cons_succ]);(try simp only [List.getElem_cons_zero]);(try simp only [List.setIfInBounds_toArray]);(try simp only [List.set_cons_succ]);(try simp only [List.set_cons_zero])
   refine WL.take (i:=7) (v:=?_) rfl (by kernel_rfl) (by decide) (by decide +kernel) (by decide +kernel) (fun _ _ _ h => h) rfl ?_ hS5 ?_
   rotate_left
   ·(intro w' hSw;(try dsimp only at hSw);go_simp;(try with_reducible rfl))
   simp only [Act.put];(try simp only [List.getElem_toArray]);(try simp only [List.getElem_cons_succ]);(try simp only [List.getElem_cons_zero]);(try simp only [List.setIfInBounds_toArray]);(try simp only [List.set_cons_succ]);(try simp only [List.set_cons_zero])
   refine WL.last (n:=8) rfl rfl (by decide +kernel) (by decide +kernel) ?_
   clear hS5
   go_wp2_with fail
   have hS0:w5.drew.rangeAt w.heap.size 0 uid:=rangeAt_below HX5.out.range (Below.refl _ _).drew HX5.out.lt
   refine wp_region_L 8 (fun w' => w'.rangeAt w.heap.size 0 uid) (by kernel_rfl) (by kernel_rfl) ?_
   refine WL.take (i:=0) (v:=?_) rfl (by kernel_rfl) (by decide) (by decide +kernel) (by decide +kernel) (fun _ _ _ h => h) rfl ?_ hS0 ?_
   rotate_left
   ·(intro w' hSw;(try dsimp only at hSw);go_simp;(try with_reducible rfl))
   simp only [Act.put];(try simp only [List.getElem_toArray]);(try simp only [List.getElem_cons_succ]);(try simp only [List.getElem_cons_zero]);(try simp only [List.setIfInBounds_toArray]);(try simp only [List.set_cons_succ]);(try simp only [List.set_cons_zero])
   refine WL.take (i:=2) (v:=_) rfl (by kernel_rfl) (by decide) (by decide +kernel) (by decide +kernel) (fun _ _ _ h => h) rfl (fun w' hSw => exec_row 24 _ (hSw) Tryz.underlying24 rfl h32id _ rfl rfl) hS0 ?_
   simp only [Act.put];(try simp only [List.getElem_toArray]);(try simp only [List.getElem_cons_succ]);(try simp only [List.getElem_cons_zero]);(try simp only [List.setIfInBounds_toArray]);(try simp only [List.set_cons_succ]);(try simp only [List.set_cons_zero])
   refine WL.one (i:=1) rfl (by decide) (by decide +kernel) ?_
   go_wp2_with fail
   refine (HRO.out w5.drew (st5.out.step (Below.refl _ _).drew)).mono ?_
   intro e w6 h
   obtain ⟨vl,vi,rfl,ho1,ho2,hb6⟩:=h
   have hb6:=drew_below hb6
   have hsr:SrcRow w6 (.agg #[vl,vi]) l:=⟨vl,vi,rfl,ho1,ho2⟩
   have st6:=Lib.hid (st5.out.step hb6)
   have HX6:=Lib.hid (HX5.out.below hb6)
   have HL6:=Lib.hid (HL5.out.below hb6)
   have hS6:=HX6.out.range
   have hrf:=rfilesof3_any vl vi l id w6 hsr HIDid.out
   rw [HFR.out,HER.out,HIAid.out] at hrf
   have HRF:=Lib.hid hrf
   clear hsr hb6 hrf hS0 ho1 ho2
   go_wp2
   refine ⟨hS6,?_⟩
   refine WL.one (i:=3) rfl (by decide) (by decide +kernel) ?_
   go_wp2_with fail
   refine HRF.out.mono ?_
   rintro e w7 ⟨vg,rfl,hgy,hge,hb7⟩
   have st7:=Lib.hid (st6.out.step hb7)
   have HX7:=Lib.hid (HX6.out.below hb7)
   have HL7:=Lib.hid (HL6.out.below hb7)
   have hS7:=HX7.out.range
   have hLG:LeafRow w7 vg L:=by
    rcases HFL.out with ⟨y,h1,h2⟩ | ⟨⟨c,h1⟩,h2⟩
    ·rw [h2];exact (hgy y h1).1
    ·rw [h2,(hge c h1).1];exact leafRow_nil w7
   have HLG7:=Lib.hid hLG
   obtain ⟨go,gcap,rfl,_⟩:=hLG.open
   clear hgy hge hLG hb7 hS6
   go_wp2
   refine ⟨hS7,?_⟩
   refine WL.take (i:=4) (v:=?_) rfl (by kernel_rfl) (by decide) (by decide +kernel) (by decide +kernel) (fun _ _ _ h => h) rfl ?_ hS7 ?_
   rotate_left
   ·(intro w' hSw;(try dsimp only at hSw);go_simp;(try with_reducible rfl))
   simp only [Act.put];(try simp only [List.getElem_toArray]);(try simp only [List.getElem_cons_succ]);(try simp only [List.getElem_cons_zero]);(try simp only [List.setIfInBounds_toArray]);(try simp only [List.set_cons_succ]);(try simp only [List.set_cons_zero])
   refine WL.take (i:=5) (v:=?_) rfl (by kernel_rfl) (by decide) (by decide +kernel) (by decide +kernel) (fun _ _ _ h => h) rfl ?_ hS7 ?_
   rotate_left
   ·(intro w' hSw;(try dsimp only at hSw);go_simp;(try with_reducible rfl))
   simp only [Act.put];(try simp only [List.getElem_toArray]);(try simp only [List.getElem_cons_succ]);(try simp only [List.getElem_cons_zero]);(try simp only [List.setIfInBounds_toArray]);(try simp only [List.set_cons_succ]);(try simp only [List.set_cons_zero])
   refine WL.take (i:=6) (v:=?_) rfl (by kernel_rfl) (by decide) (by decide +kernel) (by decide +kernel) (fun _ _ _ h => h) rfl ?_ hS7 ?_
   rotate_left
   ·(intro w' hSw;(try dsimp only at hSw);go_simp;(try with_reducible rfl))
   simp only [Act.put];(try simp only [List.getElem_toArray]);(try simp only [List.getElem_cons_succ]);(try simp only [List.getElem_cons_zero]);(try simp only [List.setIfInBounds_toArray]);(try simp only [List.set_cons_succ]);(try simp only [List.set_cons_zero])
   refine WL.take (i:=7) (v:=?_) rfl (by kernel_rfl) (by decide) (by decide +kernel) (by decide +kernel) (fun _ _ _ h => h) rfl ?_ hS7 ?_
   rotate_left
   ·(intro w' hSw;(try dsimp only at hSw);go_simp;(try with_reducible rfl))
   simp only [Act.put];(try simp only [List.getElem_toArray]);(try simp only [List.getElem_cons_succ]);(try simp only [List.getElem_cons_zero]);(try simp only [List.setIfInBounds_toArray]);(try simp only [List.set_cons_succ]);(try simp only [List.set_cons_zero])
   refine WL.last (n:=8) rfl rfl (by decide +kernel) (by decide +kernel) ?_
   clear hS7
   go_wp2_with fail
   refine (HAL.out _ st7.out).mono ?_
   rintro e w8 ⟨rfl,hb8⟩
   have st8:=Lib.hid (st7.out.step hb8)
   have hsl:=rsameleaves_any _ _ L w8 (HL7.out.below hb8) (HLG7.out.below hb8)
   have HSL:=Lib.hid hsl
   have hee:(er == er) = true:=by simp
   clear hb8 hsl
   go_wp2_with fail
   refine HSL.out.mono ?_
   rintro e w9 ⟨rfl,hb9⟩
   have st9:=Lib.hid (st8.out.step hb9)
   clear hb9
   go_wp2
   go_ret
   exact ⟨rfl,st9.out.bel⟩
end Go.Proofs.YtbmiiiccnoiffaaGreatDoor
