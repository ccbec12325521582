/- YtbmiiiccnoiffaaGreatDoorC44: texts Q6 of this claim, in one. -/
import Derived.Test.YtbmiiiccnoiffaaGreatDoorC16
import Derived.Test.YtbmiiiccnoiffaaGreatDoorC39
import Derived.Test.YtbmiiiccnoiffaaGreatDoorC40
import Derived.Test.YtbmiiiccnoiffaaGreatDoorC43
namespace Go.Proofs.YtbmiiiccnoiffaaGreatDoor
open Go.RowKit
set_option maxRecDepth 100000 in
set_option maxHeartbeats 8000000 in
theorem htouches_walk (v:Value) (l:List Ob) (id:Idl) (s:ByteArray) (w:World) (hv:ObRow w v l) (hL:Laid w) (hid:id.length = 32) (hm:MaxAt w) :
  Calls Tryz.prog 13 #[v,.agg (idC id).toArray,.string s] w fun e w' => e = .returned (.bool true) ∧ Below w.heap.size w w':=by
 have h32id:=h32_of (us:=idC id) (by rw [idC_len,hid])
 obtain ⟨W,hW⟩:∃ W,w.alloc (.cells (idC id).toArray 24) = W:=⟨_,rfl⟩
 have hbW:Below w.heap.size w W:=by rw [← hW];exact (Below.refl _ _).alloc (Nat.le_refl _) _
 have st:Hid (StH w v l W):=Lib.hid (StH.step ⟨hv,hL,Below.refl _ _⟩ hbW)
 have HRid:Hid (W.rangeAt w.heap.size 0 (idC id)):=Lib.hid (by rw [← hW];exact range_new _ _ _ rfl)
 have HSW:Hid (W.heap.size = w.heap.size + 1):=Lib.hid (by rw [← hW];simp)
 have HW:=Lib.hid hW
 have HIDid:=Lib.hid hid
 have HAL:=Lib.hid (fun W (h:StH w v l W) => alive28_any W h.ld)
 have HGR:=Lib.hid (fun W (h:StH w v l W) => rgreat_any v l W h.row)
 have HCL:=Lib.hid (fun W (h:StH w v l W) => clash28_any v l W h.row)
 have HMX:=Lib.hid (hm.below hbW hm.lt)
 clear hm hbW hL hW hv hid
 generalize huid:idC id = uid at h32id HRid HW
 have HIAid:=Lib.hid huid
 clear huid
 cases hg:obGreat l with
 | true =>
  rw [hg] at HGR
  clear hg
  go_enter Tryz.func13,Tryz.ntmps13
  go_wp2_with fail
  rw [HW.out]
  refine (HAL.out W st.out).mono ?_
  rintro e w1 ⟨rfl,hb1⟩
  have st1:=Lib.hid (st.out.step hb1)
  clear hb1
  go_wp2_with fail
  refine (HGR.out w1 st1.out).mono ?_
  rintro e w2 ⟨rfl,rfl⟩
  go_wp2_with fail
  refine (HAL.out _ st1.out).mono ?_
  rintro e w3 ⟨rfl,hb3⟩
  have st3:=Lib.hid (st1.out.step hb3)
  clear hb3
  go_wp2
  go_ret
  exact ⟨rfl,st3.out.bel⟩
 | false =>
  rw [hg] at HGR
  have hn:=obGreat_40 hg
  clear hg
  cases hc:clashB l with
  | true =>
   rw [hc] at HCL
   clear hc
   go_enter Tryz.func13,Tryz.ntmps13
   go_wp2_with fail
   rw [HW.out]
   refine (HAL.out W st.out).mono ?_
   rintro e w1 ⟨rfl,hb1⟩
   have st1:=Lib.hid (st.out.step hb1)
   clear hb1
   go_wp2_with fail
   refine (HGR.out w1 st1.out).mono ?_
   rintro e w2 ⟨rfl,rfl⟩
   go_wp2_with fail
   refine (HCL.out _ st1.out).mono ?_
   rintro e w3 ⟨rfl,hb3⟩
   have st3:=Lib.hid (st1.out.step hb3)
   clear hb3
   go_wp2_with fail
   refine (HAL.out _ st3.out).mono ?_
   rintro e w4 ⟨rfl,hb4⟩
   have st4:=Lib.hid (st3.out.step hb4)
   clear hb4
   go_wp2
   go_ret
   exact ⟨rfl,st4.out.bel⟩
  | false =>
   rw [hc] at HCL
   have HLG:Hid (lastS l = getS l):=Lib.hid (funext fun x => last_get hc x)
   clear hc
   have HOF:=Lib.hid (fun W (h:StH w v l W) => oof_any v l W h.row (by omega) h.ld)
   rw [HLG.out] at HOF
   have HRO:=Lib.hid (fun W (h:StH w v l W) => rof_any v l W h.row (by omega))
   have HRN:=Lib.hid (fun vl vi W (hs:SrcRow W (.agg #[vl,vi]) l) => rround_any vl vi l (by omega) W hs)
   obtain ⟨U,hU⟩:∃ U,U = (rights l).map idO:=⟨_,rfl⟩
   have HU:Hid (CmOk (cmG (getS l)) U):=Lib.hid (by rw [hU];exact cmOk (by omega))
   have HROW:Hid (∀ X,Below W.heap.size W X → ∀ p ∈ [(w.heap.size,uid)],X.rangeAt p.1 0 p.2 ∧ p.1 < X.heap.size):=Lib.hid (fun X hX p hp => by
    have hsz:=hX.size
    have hsw:=HSW.out
    rw [List.mem_singleton.1 hp]
    exact ⟨rangeAt_below HRid.out hX (by omega),by show w.heap.size < _;omega⟩)
   clear hU HLG
   go_enter Tryz.func13,Tryz.ntmps13
   go_wp2_with fail
   rw [HW.out]
   refine (HAL.out W st.out).mono ?_
   rintro e w1 ⟨rfl,hb1⟩
   have st1:=Lib.hid (st.out.step hb1)
   have HB1:=Lib.hid hb1
   clear hb1 HW
   go_wp2_with fail
   refine (HGR.out w1 st1.out).mono ?_
   rintro e w2 ⟨rfl,rfl⟩
   go_wp2_with fail
   refine (HCL.out _ st1.out).mono ?_
   rintro e w3 ⟨rfl,hb3⟩
   have st3:=Lib.hid (st1.out.step hb3)
   have HB3:=Lib.hid (HB1.out.trans (hb3.mono HB1.out.size))
   clear hb3
   go_wp2_with fail
   refine (HRO.out _ st3.out).mono ?_
   intro e w4 h
   obtain ⟨vl0,vi0,rfl,ho1,ho2,hb4⟩:=h
   have st4:=Lib.hid (st3.out.step hb4)
   have HB4:=Lib.hid (HB3.out.trans (hb4.mono HB3.out.size))
   have HSR4:Hid (SrcRow w4 (.agg #[vl0,vi0]) l):=Lib.hid ⟨vl0,vi0,rfl,ho1,ho2⟩
   clear hb4 ho1 ho2
   go_wp2_with fail
   refine (HRN.out vl0 vi0 w4 HSR4.out).mono ?_
   intro e w5 h
   obtain ⟨b,rfl,hac,hb5⟩:=h
   have st5:=Lib.hid (st4.out.step hb5)
   have HB5:=Lib.hid (HB4.out.trans (hb5.mono HB4.out.size))
   have HAC:=Lib.hid hac
   clear hb5 hac HSR4
   cases b with
   | true =>
    go_wp2_with fail
    refine (HAL.out _ st5.out).mono ?_
    rintro e w6 ⟨rfl,hb6⟩
    have st6:=Lib.hid (st5.out.step hb6)
    clear hb6
    go_wp2
    go_ret
    exact ⟨rfl,st6.out.bel⟩
   | false =>
    have HACY:Hid (Acyc (cmG (getS l))):=Lib.hid (HAC.out rfl)
    clear HAC
    by_cases h4:(400:Int) < s.size
    ·have d4:decide ((400:Int) < s.size) = true:=decide_eq_true h4
     go_wp2_with fail
     refine (HAL.out _ st5.out).mono ?_
     rintro e w6 ⟨rfl,hb6⟩
     have st6:=Lib.hid (st5.out.step hb6)
     clear hb6
     go_wp2
     go_ret
     exact ⟨rfl,st6.out.bel⟩
    ·have d4:decide ((400:Int) < s.size) = false:=decide_eq_false h4
     have hz:s.size ≤ 1000:=by omega
     have H5:Hid (StH w v l w5 ∧ w5.rangeAt w.heap.size 0 uid ∧ w.heap.size < w5.heap.size):=Lib.hid ⟨st5.out,(HROW.out w5 HB5.out _ (List.mem_singleton.2 rfl)).1,(HROW.out w5 HB5.out _ (List.mem_singleton.2 rfl)).2⟩
     have HTC:=Lib.hid (fun r W' (h:SrcP W' r (getS l)) (hm:MaxAt W') => htouched_any r (getS l) (fun x o h => getS_right l x o h) U HU.out HACY.out id s W' h HIDid.out hz hm)
     have HRL:=Lib.hid (fun vl vi W' (h:SrcRow W' (.agg #[vl,vi]) l) => rline_any vl vi l U HU.out id W' h HIDid.out)
     have HNM:=Lib.hid (fun W' => names26_any s W' (by omega))
     rw [HIAid.out] at HTC HRL
     go_upto_region 5 with fail
     have hS0:w5.drew.rangeAt w.heap.size 0 uid:=H5.out.2.1
     refine wp_region_L 9 (fun w' => w'.rangeAt w.heap.size 0 uid) (by kernel_rfl) (by kernel_rfl) ?_
     refine WL.take (i:=0) (v:=?_) rfl (by kernel_rfl) (by decide) (by decide +kernel) (by decide +kernel) (fun _ _ _ h => h) rfl ?_ hS0 ?_
     rotate_left
     ·(intro w' hSw;(try dsimp only at hSw);go_simp;(try with_reducible rfl))
     simp only [Act.put];(try simp only [List.getElem_toArray]);(try simp only [List.getElem_cons_succ]);(try simp only [List.getElem_cons_zero]);(try simp only [List.setIfInBounds_toArray]);(try simp only [List.set_cons_succ]);(try simp only [List.set_cons_zero])
     refine WL.take (i:=2) (v:=_) rfl (by kernel_rfl) (by decide) (by decide +kernel) (by decide +kernel) (fun _ _ _ h => h) rfl (fun w' hSw => exec_row 24 _ (hSw) Tryz.underlying24 rfl h32id _ rfl rfl) hS0 ?_
     simp only [Act.put];(try simp only [List.getElem_toArray]);(try simp only [List.getElem_cons_succ]);(try simp only [List.getElem_cons_zero]);(try simp only [List.setIfInBounds_toArray]);(try simp only [List.set_cons_succ]);(try simp only [List.set_cons_zero])
     refine WL.take (i:=3) (v:=?_) rfl (by kernel_rfl) (by decide) (by decide +kernel) (by decide +kernel) (fun _ _ _ h => h) rfl ?_ hS0 ?_
     rotate_left
     ·(intro w' hSw;(try dsimp only at hSw);go_simp;(try with_reducible rfl))
     simp only [Act.put];(try simp only [List.getElem_toArray]);(try simp only [List.getElem_cons_succ]);(try simp only [List.getElem_cons_zero]);(try simp only [List.setIfInBounds_toArray]);(try simp only [List.set_cons_succ]);(try simp only [List.set_cons_zero])
     refine WL.one (i:=1) rfl (by decide) (by decide +kernel) ?_
     go_wp2_with fail
     refine (HOF.out w5.drew (st5.out.step (Below.refl _ _).drew)).mono ?_
     intro e w6 h
     obtain ⟨r,rfl,hsr,hb6⟩:=h
     have hb6:=drew_below hb6
     have HB6:=Lib.hid (HB5.out.trans (hb6.mono HB5.out.size))
     have H6:Hid (HSp w v l r [(w.heap.size,uid)] w6):=Lib.hid ⟨st5.out.step hb6,hsr,HROW.out w6 HB6.out⟩
     have hS6:=H6.out.row0
     have hm6:=HMX.out.below HB6.out HMX.out.lt
     have HTC:=Lib.hid (HTC.out r w6 hsr hm6)
     clear hb6 hsr hm6
     go_wp2
     refine ⟨hS6,?_⟩
     refine WL.one (i:=4) rfl (by decide) (by decide +kernel) ?_
     go_wp2_with fail
     refine HTC.out.mono ?_
     rintro e w7 ⟨hb7,⟨hpo,rfl⟩ | ⟨hpo,hln,rfl⟩ | ⟨hpo,S,va,hln,rfl,hir⟩⟩
     ·have HB7:=Lib.hid (HB6.out.trans (hb7.mono HB6.out.size))
      have H8p:=Lib.hid (H6.out.step hb7)
      have hS7:=H8p.out.row0
      obtain ⟨w8,hw8⟩:∃ w8,w8 = w7:=⟨_,rfl⟩
      subst hw8
      have HPO:=Lib.hid hpo
      clear hb7 hpo H6
      go_wp2
      refine ⟨hS7,?_⟩
      refine WL.take (i:=5) (v:=?_) rfl (by kernel_rfl) (by decide) (by decide +kernel) (by decide +kernel) (fun _ _ _ h => h) rfl ?_ hS7 ?_
      rotate_left
      ·(intro w' hSw;(try dsimp only at hSw);go_simp;(try with_reducible rfl))
      simp only [Act.put];(try simp only [List.getElem_toArray]);(try simp only [List.getElem_cons_succ]);(try simp only [List.getElem_cons_zero]);(try simp only [List.setIfInBounds_toArray]);(try simp only [List.set_cons_succ]);(try simp only [List.set_cons_zero])
      refine WL.take (i:=6) (v:=?_) rfl (by kernel_rfl) (by decide) (by decide +kernel) (by decide +kernel) (fun _ _ _ h => h) rfl ?_ hS7 ?_
      rotate_left
      ·(intro w' hSw;(try dsimp only at hSw);go_simp;(try with_reducible rfl))
      simp only [Act.put];(try simp only [List.getElem_toArray]);(try simp only [List.getElem_cons_succ]);(try simp only [List.getElem_cons_zero]);(try simp only [List.setIfInBounds_toArray]);(try simp only [List.set_cons_succ]);(try simp only [List.set_cons_zero])
      refine WL.take (i:=7) (v:=?_) rfl (by kernel_rfl) (by decide) (by decide +kernel) (by decide +kernel) (fun _ _ _ h => h) rfl ?_ hS7 ?_
      rotate_left
      ·(intro w' hSw;(try dsimp only at hSw);go_simp;(try with_reducible rfl))
      simp only [Act.put];(try simp only [List.getElem_toArray]);(try simp only [List.getElem_cons_succ]);(try simp only [List.getElem_cons_zero]);(try simp only [List.setIfInBounds_toArray]);(try simp only [List.set_cons_succ]);(try simp only [List.set_cons_zero])
      refine WL.take (i:=8) (v:=?_) rfl (by kernel_rfl) (by decide) (by decide +kernel) (by decide +kernel) (fun _ _ _ h => h) rfl ?_ hS7 ?_
      rotate_left
      ·(intro w' hSw;(try dsimp only at hSw);go_simp;(try with_reducible rfl))
      simp only [Act.put];(try simp only [List.getElem_toArray]);(try simp only [List.getElem_cons_succ]);(try simp only [List.getElem_cons_zero]);(try simp only [List.setIfInBounds_toArray]);(try simp only [List.set_cons_succ]);(try simp only [List.set_cons_zero])
      refine WL.last (n:=9) rfl rfl (by decide +kernel) (by decide +kernel) ?_
      go_wp2_with fail
      refine (HRO.out w8 H8p.out.st).mono ?_
      intro e w9 h
      obtain ⟨vl,vi,rfl,ho1,ho2,hb9⟩:=h
      have hone:∀ u ∈ [vl,vi],u.oneCell' = true:=fun u hu => by
       obtain ⟨_,_,e1,_⟩:=ho1.open
       obtain ⟨_,_,e2,_⟩:=ho2.open
       rcases List.mem_cons.1 hu with rfl | hu
       ·rw [e1];rfl
       ·rw [List.mem_singleton.1 hu,e2];rfl
      obtain ⟨W8,hW8⟩:∃ W8,(w9.alloc (.cells #[.slice none 0 0,.slice none 0 0] 30)).setCells w9.heap.size 0 [vl,vi] = W8:=⟨_,rfl⟩
      have wr8:=wrote (us:=[vl,vi]) (a:=#[.slice none 0 0,.slice none 0 0]) rfl (by simp) hW8
      have hbb:Below w8.heap.size w8 W8:=hb9.trans (wr8.bel.mono hb9.size)
      have hsw:SrcRow w9 (.agg #[vl,vi]) l:=⟨vl,vi,rfl,ho1,ho2⟩
      have HTH8:=Lib.hid (there_alloc w9 #[.slice none 0 0,.slice none 0 0] 30 (n:=2) rfl)
      have h2s:(Tryz.prog.info? 30).map (·.size) = some 2:=by kernel_rfl
      have HON8:=Lib.hid hone
      have h6:=H8p.out.step hbb
      have H8:Hid (HSt w v l r vl vi w9.heap.size [(w.heap.size,uid)] W8):=Lib.hid ⟨h6.st,h6.sr,hsw.below wr8.bel,⟨wr8.row,wr8.lt⟩,h6.rw⟩
      have HW8:=Lib.hid hW8
      clear hb9 hbb hsw hone wr8 hW8 ho1 ho2 h6 H8p
      go_wp2_with (refine wpList_store_list rfl 30 _ _ rfl w9.heap.size 0 [vl,vi] rfl rfl 2 rfl HTH8.out h2s HON8.out ?_;rw [HW8.out])
      refine (HNM.out W8).mono ?_
      rintro e wa ⟨vn,rfl,_,hba⟩
      have HA:=Lib.hid (H8.out.step hba)
      clear hba H8
      have f:=HA.out.row0
      have c0:=HA.out.c0
      have c1:=HA.out.c1
      rw [HPO.out]
      go_wp2_with (refine wpList_load_mid rfl 24 _ rfl w.heap.size 0 rfl uid _ f Tryz.underlying24 rfl h32id ?_)
      refine (HRL.out vl vi wa HA.out.sw).mono ?_
      rintro e wb ⟨vr,rfl,hrr,hbb⟩
      have HB:=Lib.hid (HA.out.step hbb)
      clear hrr hbb f c0 c1 HA
      obtain ⟨bo,hbo⟩:∃ bo,(lineL (cmG (getS l)) id).isSome = bo:=⟨_,rfl⟩
      rw [hbo]
      clear hbo
      go_wp2_with fail
      refine (HAL.out wb HB.out.st).mono ?_
      rintro e wc ⟨rfl,hbc⟩
      have HC:=Lib.hid (HB.out.st.step hbc)
      clear hbc
      go_wp2
      go_ret
      exact ⟨rfl,HC.out.bel⟩
     ·have HLN:=Lib.hid hln
      clear hln
      have HB7:=Lib.hid (HB6.out.trans (hb7.mono HB6.out.size))
      have H8p:=Lib.hid (H6.out.step hb7)
      have hS7:=H8p.out.row0
      obtain ⟨w8,hw8⟩:∃ w8,w8 = w7:=⟨_,rfl⟩
      subst hw8
      have HPO:=Lib.hid hpo
      clear hb7 hpo H6
      go_wp2
      refine ⟨hS7,?_⟩
      refine WL.take (i:=5) (v:=?_) rfl (by kernel_rfl) (by decide) (by decide +kernel) (by decide +kernel) (fun _ _ _ h => h) rfl ?_ hS7 ?_
      rotate_left
      ·(intro w' hSw;(try dsimp only at hSw);go_simp;(try with_reducible rfl))
      simp only [Act.put];(try simp only [List.getElem_toArray]);(try simp only [List.getElem_cons_succ]);(try simp only [List.getElem_cons_zero]);(try simp only [List.setIfInBounds_toArray]);(try simp only [List.set_cons_succ]);(try simp only [List.set_cons_zero])
      refine WL.take (i:=6) (v:=?_) rfl (by kernel_rfl) (by decide) (by decide +kernel) (by decide +kernel) (fun _ _ _ h => h) rfl ?_ hS7 ?_
      rotate_left
      ·(intro w' hSw;(try dsimp only at hSw);go_simp;(try with_reducible rfl))
      simp only [Act.put];(try simp only [List.getElem_toArray]);(try simp only [List.getElem_cons_succ]);(try simp only [List.getElem_cons_zero]);(try simp only [List.setIfInBounds_toArray]);(try simp only [List.set_cons_succ]);(try simp only [List.set_cons_zero])
      refine WL.take (i:=7) (v:=?_) rfl (by kernel_rfl) (by decide) (by decide +kernel) (by decide +kernel) (fun _ _ _ h => h) rfl ?_ hS7 ?_
      rotate_left
      ·(intro w' hSw;(try dsimp only at hSw);go_simp;(try with_reducible rfl))
      simp only [Act.put];(try simp only [List.getElem_toArray]);(try simp only [List.getElem_cons_succ]);(try simp only [List.getElem_cons_zero]);(try simp only [List.setIfInBounds_toArray]);(try simp only [List.set_cons_succ]);(try simp only [List.set_cons_zero])
      refine WL.take (i:=8) (v:=?_) rfl (by kernel_rfl) (by decide) (by decide +kernel) (by decide +kernel) (fun _ _ _ h => h) rfl ?_ hS7 ?_
      rotate_left
      ·(intro w' hSw;(try dsimp only at hSw);go_simp;(try with_reducible rfl))
      simp only [Act.put];(try simp only [List.getElem_toArray]);(try simp only [List.getElem_cons_succ]);(try simp only [List.getElem_cons_zero]);(try simp only [List.setIfInBounds_toArray]);(try simp only [List.set_cons_succ]);(try simp only [List.set_cons_zero])
      refine WL.last (n:=9) rfl rfl (by decide +kernel) (by decide +kernel) ?_
      go_wp2_with fail
      refine (HRO.out w8 H8p.out.st).mono ?_
      intro e w9 h
      obtain ⟨vl,vi,rfl,ho1,ho2,hb9⟩:=h
      have hone:∀ u ∈ [vl,vi],u.oneCell' = true:=fun u hu => by
       obtain ⟨_,_,e1,_⟩:=ho1.open
       obtain ⟨_,_,e2,_⟩:=ho2.open
       rcases List.mem_cons.1 hu with rfl | hu
       ·rw [e1];rfl
       ·rw [List.mem_singleton.1 hu,e2];rfl
      obtain ⟨W8,hW8⟩:∃ W8,(w9.alloc (.cells #[.slice none 0 0,.slice none 0 0] 30)).setCells w9.heap.size 0 [vl,vi] = W8:=⟨_,rfl⟩
      have wr8:=wrote (us:=[vl,vi]) (a:=#[.slice none 0 0,.slice none 0 0]) rfl (by simp) hW8
      have hbb:Below w8.heap.size w8 W8:=hb9.trans (wr8.bel.mono hb9.size)
      have hsw:SrcRow w9 (.agg #[vl,vi]) l:=⟨vl,vi,rfl,ho1,ho2⟩
      have HTH8:=Lib.hid (there_alloc w9 #[.slice none 0 0,.slice none 0 0] 30 (n:=2) rfl)
      have h2s:(Tryz.prog.info? 30).map (·.size) = some 2:=by kernel_rfl
      have HON8:=Lib.hid hone
      have h6:=H8p.out.step hbb
      have H8:Hid (HSt w v l r vl vi w9.heap.size [(w.heap.size,uid)] W8):=Lib.hid ⟨h6.st,h6.sr,hsw.below wr8.bel,⟨wr8.row,wr8.lt⟩,h6.rw⟩
      have HW8:=Lib.hid hW8
      clear hb9 hbb hsw hone wr8 hW8 ho1 ho2 h6 H8p
      go_wp2_with (refine wpList_store_list rfl 30 _ _ rfl w9.heap.size 0 [vl,vi] rfl rfl 2 rfl HTH8.out h2s HON8.out ?_;rw [HW8.out])
      refine (HNM.out W8).mono ?_
      rintro e wa ⟨vn,rfl,_,hba⟩
      have HA:=Lib.hid (H8.out.step hba)
      clear hba H8
      have f:=HA.out.row0
      have c0:=HA.out.c0
      have c1:=HA.out.c1
      rw [HPO.out]
      go_wp2_with (refine wpList_load_mid rfl 24 _ rfl w.heap.size 0 rfl uid _ f Tryz.underlying24 rfl h32id ?_)
      refine (HRL.out vl vi wa HA.out.sw).mono ?_
      rintro e wb ⟨vr,rfl,hrr,hbb⟩
      have HB:=Lib.hid (HA.out.step hbb)
      clear hrr hbb f c0 c1 HA
      rw [HLN.out]
      go_wp2_with fail
      refine (HAL.out wb HB.out.st).mono ?_
      rintro e wc ⟨rfl,hbc⟩
      have HC:=Lib.hid (HB.out.st.step hbc)
      clear hbc
      go_wp2
      go_ret
      exact ⟨rfl,HC.out.bel⟩
     ·have HLN:=Lib.hid hln
      clear hln
      have HB7:=Lib.hid (HB6.out.trans (hb7.mono HB6.out.size))
      have H8p:=Lib.hid (H6.out.step hb7)
      have hS7:=H8p.out.row0
      have HIR:=Lib.hid hir
      obtain ⟨aq,cq,rfl,_⟩:=HIR.out.flat0
      clear hir
      obtain ⟨w8,hw8⟩:∃ w8,w8 = w7:=⟨_,rfl⟩
      subst hw8
      have HPO:=Lib.hid hpo
      clear hb7 hpo H6
      go_wp2
      refine ⟨hS7,?_⟩
      refine WL.take (i:=5) (v:=?_) rfl (by kernel_rfl) (by decide) (by decide +kernel) (by decide +kernel) (fun _ _ _ h => h) rfl ?_ hS7 ?_
      rotate_left
      ·(intro w' hSw;(try dsimp only at hSw);go_simp;(try with_reducible rfl))
      simp only [Act.put];(try simp only [List.getElem_toArray]);(try simp only [List.getElem_cons_succ]);(try simp only [List.getElem_cons_zero]);(try simp only [List.setIfInBounds_toArray]);(try simp only [List.set_cons_succ]);(try simp only [List.set_cons_zero])
      refine WL.take (i:=6) (v:=?_) rfl (by kernel_rfl) (by decide) (by decide +kernel) (by decide +kernel) (fun _ _ _ h => h) rfl ?_ hS7 ?_
      rotate_left
      ·(intro w' hSw;(try dsimp only at hSw);go_simp;(try with_reducible rfl))
      simp only [Act.put];(try simp only [List.getElem_toArray]);(try simp only [List.getElem_cons_succ]);(try simp only [List.getElem_cons_zero]);(try simp only [List.setIfInBounds_toArray]);(try simp only [List.set_cons_succ]);(try simp only [List.set_cons_zero])
      refine WL.take (i:=7) (v:=?_) rfl (by kernel_rfl) (by decide) (by decide +kernel) (by decide +kernel) (fun _ _ _ h => h) rfl ?_ hS7 ?_
      rotate_left
      ·(intro w' hSw;(try dsimp only at hSw);go_simp;(try with_reducible rfl))
      simp only [Act.put];(try simp only [List.getElem_toArray]);(try simp only [List.getElem_cons_succ]);(try simp only [List.getElem_cons_zero]);(try simp only [List.setIfInBounds_toArray]);(try simp only [List.set_cons_succ]);(try simp only [List.set_cons_zero])
      refine WL.take (i:=8) (v:=?_) rfl (by kernel_rfl) (by decide) (by decide +kernel) (by decide +kernel) (fun _ _ _ h => h) rfl ?_ hS7 ?_
      rotate_left
      ·(intro w' hSw;(try dsimp only at hSw);go_simp;(try with_reducible rfl))
      simp only [Act.put];(try simp only [List.getElem_toArray]);(try simp only [List.getElem_cons_succ]);(try simp only [List.getElem_cons_zero]);(try simp only [List.setIfInBounds_toArray]);(try simp only [List.set_cons_succ]);(try simp only [List.set_cons_zero])
      refine WL.last (n:=9) rfl rfl (by decide +kernel) (by decide +kernel) ?_
      go_wp2_with fail
      refine (HRO.out w8 H8p.out.st).mono ?_
      intro e w9 h
      obtain ⟨vl,vi,rfl,ho1,ho2,hb9⟩:=h
      have hone:∀ u ∈ [vl,vi],u.oneCell' = true:=fun u hu => by
       obtain ⟨_,_,e1,_⟩:=ho1.open
       obtain ⟨_,_,e2,_⟩:=ho2.open
       rcases List.mem_cons.1 hu with rfl | hu
       ·rw [e1];rfl
       ·rw [List.mem_singleton.1 hu,e2];rfl
      obtain ⟨W8,hW8⟩:∃ W8,(w9.alloc (.cells #[.slice none 0 0,.slice none 0 0] 30)).setCells w9.heap.size 0 [vl,vi] = W8:=⟨_,rfl⟩
      have wr8:=wrote (us:=[vl,vi]) (a:=#[.slice none 0 0,.slice none 0 0]) rfl (by simp) hW8
      have hbb:Below w8.heap.size w8 W8:=hb9.trans (wr8.bel.mono hb9.size)
      have hsw:SrcRow w9 (.agg #[vl,vi]) l:=⟨vl,vi,rfl,ho1,ho2⟩
      have HTH8:=Lib.hid (there_alloc w9 #[.slice none 0 0,.slice none 0 0] 30 (n:=2) rfl)
      have h2s:(Tryz.prog.info? 30).map (·.size) = some 2:=by kernel_rfl
      have HON8:=Lib.hid hone
      have h6:=H8p.out.step hbb
      have H8:Hid (HSt w v l r vl vi w9.heap.size [(w.heap.size,uid)] W8):=Lib.hid ⟨h6.st,h6.sr,hsw.below wr8.bel,⟨wr8.row,wr8.lt⟩,h6.rw⟩
      have HW8:=Lib.hid hW8
      have HIR:=Lib.hid (HIR.out.below hbb)
      clear hb9 hbb hsw hone wr8 hW8 ho1 ho2 h6 H8p
      go_wp2_with (refine wpList_store_list rfl 30 _ _ rfl w9.heap.size 0 [vl,vi] rfl rfl 2 rfl HTH8.out h2s HON8.out ?_;rw [HW8.out])
      refine (HNM.out W8).mono ?_
      rintro e wa ⟨vn,rfl,_,hba⟩
      have HA:=Lib.hid (H8.out.step hba)
      have HIR:=Lib.hid (HIR.out.below hba)
      clear hba H8
      have f:=HA.out.row0
      have c0:=HA.out.c0
      have c1:=HA.out.c1
      rw [HPO.out]
      go_wp2_with (refine wpList_load_mid rfl 24 _ rfl w.heap.size 0 rfl uid _ f Tryz.underlying24 rfl h32id ?_)
      refine (HRL.out vl vi wa HA.out.sw).mono ?_
      rintro e wb ⟨vr,rfl,hrr,hbb⟩
      have HB:=Lib.hid (HA.out.step hbb)
      have HIR:=Lib.hid (HIR.out.below hbb)
      rw [HLN.out] at hrr
      have HRR:=Lib.hid hrr
      clear hrr hbb f c0 c1 HA
      rw [HLN.out]
      go_upto_region 13 with fail
      have HRR0:=HRR
      obtain ⟨ar,cr,rfl,_⟩:=HRR0.out.flat0
      have c0:=HB.out.c0
      have c1:=HB.out.c1
      have hS0:wb.drew.cell? ⟨w9.heap.size,0,none⟩ = some vl ∧ wb.drew.cell? ⟨w9.heap.size,1,none⟩ = some vi:=⟨c0,c1⟩
      refine wp_region_L 15 (fun w' => w'.cell? ⟨w9.heap.size,0,none⟩ = some vl ∧ w'.cell? ⟨w9.heap.size,1,none⟩ = some vi) (by kernel_rfl) (by kernel_rfl) ?_
      refine WL.one (i:=0) rfl (by decide) (by decide +kernel) ?_
      go_wp2_with fail
      refine (HAL.out wb.drew (HB.out.st.step (Below.refl _ _).drew)).mono ?_
      rintro e wc ⟨rfl,hbc⟩
      have hbc:=drew_below hbc
      have HC:=Lib.hid (HB.out.step hbc)
      have HIR:=Lib.hid (HIR.out.below hbc)
      have HRR:=Lib.hid (HRR.out.below hbc)
      have hS1:wc.cell? ⟨w9.heap.size,0,none⟩ = some vl ∧ wc.cell? ⟨w9.heap.size,1,none⟩ = some vi:=⟨HC.out.c0,HC.out.c1⟩
      clear hbc HB
      go_wp2
      refine ⟨hS1,?_⟩
      refine WL.take (i:=1) (v:=?_) rfl (by kernel_rfl) (by decide) (by decide +kernel) (by decide +kernel) (fun _ _ _ h => h) rfl ?_ hS1 ?_
      rotate_left
      ·(intro w' hSw;(try dsimp only at hSw);go_simp;(try with_reducible rfl))
      simp only [Act.put];(try simp only [List.getElem_toArray]);(try simp only [List.getElem_cons_succ]);(try simp only [List.getElem_cons_zero]);(try simp only [List.setIfInBounds_toArray]);(try simp only [List.set_cons_succ]);(try simp only [List.set_cons_zero])
      refine WL.take (i:=2) (v:=?_) rfl (by kernel_rfl) (by decide) (by decide +kernel) (by decide +kernel) (fun _ _ _ h => h) rfl ?_ hS1 ?_
      rotate_left
      ·(intro w' hSw;(try dsimp only at hSw);go_simp;(try with_reducible rfl))
      simp only [Act.put];(try simp only [List.getElem_toArray]);(try simp only [List.getElem_cons_succ]);(try simp only [List.getElem_cons_zero]);(try simp only [List.setIfInBounds_toArray]);(try simp only [List.set_cons_succ]);(try simp only [List.set_cons_zero])
      refine WL.take (i:=3) (v:=?_) rfl (by kernel_rfl) (by decide) (by decide +kernel) (by decide +kernel) (fun _ _ _ h => h) rfl ?_ hS1 ?_
      rotate_left
      ·(intro w' hSw;(try dsimp only at hSw);go_simp;(try with_reducible rfl))
      simp only [Act.put];(try simp only [List.getElem_toArray]);(try simp only [List.getElem_cons_succ]);(try simp only [List.getElem_cons_zero]);(try simp only [List.setIfInBounds_toArray]);(try simp only [List.set_cons_succ]);(try simp only [List.set_cons_zero])
      refine WL.take (i:=4) (v:=?_) rfl (by kernel_rfl) (by decide) (by decide +kernel) (by decide +kernel) (fun _ _ _ h => h) rfl ?_ hS1 ?_
      rotate_left
      ·(intro w' hSw;(try dsimp only at hSw);go_simp;(try with_reducible rfl))
      simp only [Act.put];(try simp only [List.getElem_toArray]);(try simp only [List.getElem_cons_succ]);(try simp only [List.getElem_cons_zero]);(try simp only [List.setIfInBounds_toArray]);(try simp only [List.set_cons_succ]);(try simp only [List.set_cons_zero])
      refine WL.take (i:=5) (v:=?_) rfl (by kernel_rfl) (by decide) (by decide +kernel) (by decide +kernel) (fun _ _ _ h => h) rfl ?_ hS1 ?_
      rotate_left
      ·(intro w' hSw;(try dsimp only at hSw);go_simp;(try with_reducible rfl))
      simp only [Act.put];(try simp only [List.getElem_toArray]);(try simp only [List.getElem_cons_succ]);(try simp only [List.getElem_cons_zero]);(try simp only [List.setIfInBounds_toArray]);(try simp only [List.set_cons_succ]);(try simp only [List.set_cons_zero])
      refine WL.take (i:=6) (v:=?_) rfl (by kernel_rfl) (by decide) (by decide +kernel) (by decide +kernel) (fun _ _ _ h => h) rfl ?_ hS1 ?_
      rotate_left
      ·(intro w' hSw;(try dsimp only at hSw);go_simp;(try with_reducible rfl))
      simp only [Act.put];(try simp only [List.getElem_toArray]);(try simp only [List.getElem_cons_succ]);(try simp only [List.getElem_cons_zero]);(try simp only [List.setIfInBounds_toArray]);(try simp only [List.set_cons_succ]);(try simp only [List.set_cons_zero])
      refine WL.take (i:=7) (v:=?_) rfl (by kernel_rfl) (by decide) (by decide +kernel) (by decide +kernel) (fun _ _ _ h => h) rfl ?_ hS1 ?_
      rotate_left
      ·(intro w' hSw;(try dsimp only at hSw);go_simp;(try with_reducible rfl))
      simp only [Act.put];(try simp only [List.getElem_toArray]);(try simp only [List.getElem_cons_succ]);(try simp only [List.getElem_cons_zero]);(try simp only [List.setIfInBounds_toArray]);(try simp only [List.set_cons_succ]);(try simp only [List.set_cons_zero])
      refine WL.take (i:=8) (v:=?_) rfl (by kernel_rfl) (by decide) (by decide +kernel) (by decide +kernel) (fun _ _ _ h => h) rfl ?_ hS1 ?_
      rotate_left
      ·(intro w' hSw;(try dsimp only at hSw);go_simp;(try with_reducible rfl))
      simp only [Act.put];(try simp only [List.getElem_toArray]);(try simp only [List.getElem_cons_succ]);(try simp only [List.getElem_cons_zero]);(try simp only [List.setIfInBounds_toArray]);(try simp only [List.set_cons_succ]);(try simp only [List.set_cons_zero])
      refine WL.take (i:=9) (v:=?_) rfl (by kernel_rfl) (by decide) (by decide +kernel) (by decide +kernel) (fun _ _ _ h => h) rfl ?_ hS1 ?_
      rotate_left
      ·(intro w' hSw;(try dsimp only at hSw);go_simp;(try with_reducible rfl))
      simp only [Act.put];(try simp only [List.getElem_toArray]);(try simp only [List.getElem_cons_succ]);(try simp only [List.getElem_cons_zero]);(try simp only [List.setIfInBounds_toArray]);(try simp only [List.set_cons_succ]);(try simp only [List.set_cons_zero])
      refine WL.take (i:=11) (v:=?_) rfl (by kernel_rfl) (by decide) (by decide +kernel) (by decide +kernel) (fun _ _ _ h => h) rfl ?_ hS1 ?_
      rotate_left
      ·(intro w' hSw;(try dsimp only at hSw);go_simp;(try with_reducible rfl))
      simp only [Act.put];(try simp only [List.getElem_toArray]);(try simp only [List.getElem_cons_succ]);(try simp only [List.getElem_cons_zero]);(try simp only [List.setIfInBounds_toArray]);(try simp only [List.set_cons_succ]);(try simp only [List.set_cons_zero])
      refine WL.one (i:=10) rfl (by decide) (by decide +kernel) ?_
      go_wp2_with fail
      have hon:=logOn_of HU.out HACY.out HLN.out
      have HON:=Lib.hid hon
      have H32:=Lib.hid (log32 HU.out HLN.out)
      have HLE:Hid ((logOf (cmG (getS l)) S).length ≤ 1000):=Lib.hid (by rw [logOf_len HACY.out hon.asc.nodup];exact hon.len)
      clear hon
      refine (rlogd_any vl vi l U HU.out _ S wc HC.out.sw HRR.out HON.out.l32 HON.out.len).mono ?_
      rintro e wd ⟨vd,rfl,hqd,hbd⟩
      have HD:=Lib.hid (HC.out.step hbd)
      have HIR:=Lib.hid (HIR.out.below hbd)
      have hird:=hqd.row H32.out
      obtain ⟨ad,cd,rfl,_⟩:=hird.flat0
      have HRD:=Lib.hid hird
      have hS2:wd.cell? ⟨w9.heap.size,0,none⟩ = some vl ∧ wd.cell? ⟨w9.heap.size,1,none⟩ = some vi:=⟨HD.out.c0,HD.out.c1⟩
      have HTO:=Lib.hid (rtouched_any vl vi l U HU.out _ _ s wd HD.out.sw HRD.out H32.out HLE.out (by omega))
      clear hbd hqd hird HC
      obtain ⟨lo,hlo⟩:∃ lo,logOf (cmG (getS l)) S = lo:=⟨_,rfl⟩
      rw [hlo] at HIR H32 HTO HRD ⊢
      clear hlo
      go_wp2
      refine ⟨hS2,?_⟩
      refine WL.one (i:=12) rfl (by decide) (by decide +kernel) ?_
      go_wp2_with fail
      refine HTO.out.mono ?_
      rintro e we ⟨ve,rfl,hre,hbe⟩
      have HE:=Lib.hid (HD.out.step hbe)
      have HIR:=Lib.hid (HIR.out.below hbe)
      have HF32:Hid (∀ x ∈ lo.filter (touchB (getS l) s),x.length = 32):=Lib.hid (fun x hx => H32.out x (List.mem_filter.1 hx).1)
      obtain ⟨ae,ce,rfl,_⟩:=hre.flat0
      have hsm:=rsameids_any _ _ _ _ we HIR.out hre HF32.out HF32.out
      rw [decide_eq_true rfl] at hsm
      have HSM:=Lib.hid hsm
      have hS3:we.cell? ⟨w9.heap.size,0,none⟩ = some vl ∧ we.cell? ⟨w9.heap.size,1,none⟩ = some vi:=⟨HE.out.c0,HE.out.c1⟩
      clear hbe hsm hre HD
      go_wp2
      refine ⟨hS3,?_⟩
      refine WL.one (i:=13) rfl (by decide) (by decide +kernel) ?_
      go_wp2_with fail
      refine HSM.out.mono ?_
      rintro e wf ⟨rfl,hbf⟩
      have HF:=Lib.hid (HE.out.step hbf)
      have hS4:wf.cell? ⟨w9.heap.size,0,none⟩ = some vl ∧ wf.cell? ⟨w9.heap.size,1,none⟩ = some vi:=⟨HF.out.c0,HF.out.c1⟩
      clear hbf HE
      go_wp2
      refine ⟨hS4,?_⟩
      refine WL.take (i:=14) (v:=?_) rfl (by kernel_rfl) (by decide) (by decide +kernel) (by decide +kernel) (fun _ _ _ h => h) rfl ?_ hS4 ?_
      rotate_left
      ·(intro w' hSw;(try dsimp only at hSw);go_simp;(try with_reducible rfl))
      simp only [Act.put];(try simp only [List.getElem_toArray]);(try simp only [List.getElem_cons_succ]);(try simp only [List.getElem_cons_zero]);(try simp only [List.setIfInBounds_toArray]);(try simp only [List.set_cons_succ]);(try simp only [List.set_cons_zero])
      refine WL.last (n:=15) rfl rfl (by decide +kernel) (by decide +kernel) ?_
      go_wp2
      go_ret
      exact ⟨rfl,HF.out.st.bel⟩
end Go.Proofs.YtbmiiiccnoiffaaGreatDoor
