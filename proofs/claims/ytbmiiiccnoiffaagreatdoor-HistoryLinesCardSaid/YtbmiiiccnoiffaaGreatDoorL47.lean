/- YtbmiiiccnoiffaaGreatDoorL47: texts Q1 of this claim, in one. -/
import Derived.Test.YtbmiiiccnoiffaaGreatDoorL46
namespace Go.Proofs.YtbmiiiccnoiffaaGreatDoor
open Go.RowKit
set_option maxRecDepth 100000 in
set_option maxHeartbeats 8000000 in
theorem hlines_walk (v : Value) (l : List Ob) (id : Idl) (n : Int) (w : World) (hv : ObRow w v l) (hL : Laid w) (hid : id.length = 32) (hn1 : -9223372036854775808 ≤ n) (hn2 : n ≤ 9223372036854775807) :
    Calls Tryz.prog 3 #[v, .agg (idC id).toArray, .int .i64 n] w fun e w' => e = .returned (.bool true) ∧ Below w.heap.size w w' := by
  have h32a := h32_of (us := idC id) (by rw [idC_len, hid])
  obtain ⟨W, hW⟩ : ∃ W, w.alloc (.cells (idC id).toArray 24) = W := ⟨_, rfl⟩
  have hbW : Below w.heap.size w W := by rw [← hW]; exact (Below.refl _ _).alloc (Nat.le_refl _) _
  have st : Hid (StH w v l W) := Lib.hid (StH.step ⟨hv, hL, Below.refl _ _⟩ hbW)
  have hra : W.rangeAt w.heap.size 0 (idC id) := by rw [← hW]; exact range_new _ _ _ rfl
  have hsW : W.heap.size = w.heap.size + 1 := by rw [← hW]; simp
  have HSW := Lib.hid hsW
  have HRA := Lib.hid hra
  have HW := Lib.hid hW
  have HID := Lib.hid hid
  have HAL := Lib.hid (fun W (h : StH w v l W) => alive28_any W h.ld)
  have HGR := Lib.hid (fun W (h : StH w v l W) => rgreat_any v l W h.row)
  have HCL := Lib.hid (fun W (h : StH w v l W) => clash28_any v l W h.row)
  clear hbW hra hsW hL hW hid hv
  generalize hia : idC id = ua at h32a HRA HW
  have HIA := Lib.hid hia
  clear hia
  cases hg : obGreat l with
  | true =>
    rw [hg] at HGR
    clear hg
    go_enter Tryz.func3, Tryz.ntmps3
    go_wp2_with fail
    rw [HW.out]
    refine (HAL.out W st.out).mono ?_
    rintro e w1 ⟨rfl, hb1⟩
    have st1 := Lib.hid (st.out.step hb1)
    clear hb1
    go_wp2_with fail
    refine (HGR.out w1 st1.out).mono ?_
    rintro e w2 ⟨rfl, rfl⟩
    go_wp2_with fail
    refine (HAL.out _ st1.out).mono ?_
    rintro e w3 ⟨rfl, hb3⟩
    have st3 := Lib.hid (st1.out.step hb3)
    clear hb3
    go_wp2
    go_ret
    exact ⟨rfl, st3.out.bel⟩
  | false =>
    rw [hg] at HGR
    have hn := obGreat_40 hg
    clear hg
    cases hc : clashB l with
    | true =>
      rw [hc] at HCL
      clear hc
      go_enter Tryz.func3, Tryz.ntmps3
      go_wp2_with fail
      rw [HW.out]
      refine (HAL.out W st.out).mono ?_
      rintro e w1 ⟨rfl, hb1⟩
      have st1 := Lib.hid (st.out.step hb1)
      clear hb1
      go_wp2_with fail
      refine (HGR.out w1 st1.out).mono ?_
      rintro e w2 ⟨rfl, rfl⟩
      go_wp2_with fail
      refine (HCL.out _ st1.out).mono ?_
      rintro e w3 ⟨rfl, hb3⟩
      have st3 := Lib.hid (st1.out.step hb3)
      clear hb3
      go_wp2_with fail
      refine (HAL.out _ st3.out).mono ?_
      rintro e w4 ⟨rfl, hb4⟩
      have st4 := Lib.hid (st3.out.step hb4)
      clear hb4
      go_wp2
      go_ret
      exact ⟨rfl, st4.out.bel⟩
    | false =>
      rw [hc] at HCL
      have HLG : Hid (lastS l = getS l) := Lib.hid (funext fun x => last_get hc x)
      clear hc
      have HOF := Lib.hid (fun W (h : StH w v l W) => oof_any v l W h.row (by omega) h.ld)
      rw [HLG.out] at HOF
      have HRO := Lib.hid (fun W (h : StH w v l W) => rof_any v l W h.row (by omega))
      have HRN := Lib.hid (fun vl vi W (hs : SrcRow W (.agg #[vl, vi]) l) => rround_any vl vi l (by omega) W hs)
      have HF : Hid (∀ x o, getS l x = some o → rightOb o = true) := Lib.hid (fun x o h => (getS_some h).2.1)
      obtain ⟨U, hU⟩ : ∃ U, U = (rights l).map idO := ⟨_, rfl⟩
      have HU : Hid (CmOk (cmG (getS l)) U) := Lib.hid (by rw [hU]; exact cmOk (by omega))
      clear hU HLG
      go_enter Tryz.func3, Tryz.ntmps3
      go_wp2_with fail
      rw [HW.out]
      refine (HAL.out W st.out).mono ?_
      rintro e w1 ⟨rfl, hb1⟩
      have st1 := Lib.hid (st.out.step hb1)
      have HRA1 := Lib.hid (rangeAt_below HRA.out hb1 (by rw [HSW.out]; omega))
      have hs1 : w.heap.size < w1.heap.size := by have := hb1.size; have := HSW.out; omega
      clear hb1 HW
      go_wp2_with fail
      refine (HGR.out w1 st1.out).mono ?_
      rintro e w2 ⟨rfl, rfl⟩
      go_wp2_with fail
      refine (HCL.out _ st1.out).mono ?_
      rintro e w3 ⟨rfl, hb3⟩
      have st3 := Lib.hid (st1.out.step hb3)
      have HRA3 := Lib.hid (rangeAt_below HRA1.out hb3 hs1)
      have hs3 : w.heap.size < w3.heap.size := by have := hb3.size; omega
      clear hb3
      go_wp2_with fail
      refine (HRO.out _ st3.out).mono ?_
      intro e w4 h
      obtain ⟨vl0, vi0, rfl, ho1, ho2, hb4⟩ := h
      have st4 := Lib.hid (st3.out.step hb4)
      have HRA4 := Lib.hid (rangeAt_below HRA3.out hb4 hs3)
      have hs4 : w.heap.size < w4.heap.size := by have := hb4.size; omega
      have HSR4 : Hid (SrcRow w4 (.agg #[vl0, vi0]) l) := Lib.hid ⟨vl0, vi0, rfl, ho1, ho2⟩
      clear hb4 ho1 ho2
      go_wp2_with fail
      refine (HRN.out vl0 vi0 w4 HSR4.out).mono ?_
      intro e w5 h
      obtain ⟨b, rfl, hac, hb5⟩ := h
      have st5 := Lib.hid (st4.out.step hb5)
      have HRA5 := Lib.hid (rangeAt_below HRA4.out hb5 hs4)
      have hs5 : w.heap.size < w5.heap.size := by have := hb5.size; omega
      have HAC := Lib.hid hac
      clear hb5 hac HSR4
      cases b with
      | true =>
        go_wp2_with fail
        refine (HAL.out _ st5.out).mono ?_
        rintro e w6 ⟨rfl, hb6⟩
        have st6 := Lib.hid (st5.out.step hb6)
        clear hb6
        go_wp2
        go_ret
        exact ⟨rfl, st6.out.bel⟩
      | false =>
        have HACY : Hid (Acyc (cmG (getS l))) := Lib.hid (HAC.out rfl)
        clear HAC
        go_wp2_with fail
        refine (HOF.out w5 st5.out).mono ?_
        intro e w6 h
        obtain ⟨r, rfl, hsr, hb6⟩ := h
        have st6 := Lib.hid (st5.out.step hb6)
        have HRA6 := Lib.hid (rangeAt_below HRA5.out hb6 hs5)
        have hs6 : w.heap.size < w6.heap.size := by have := hb6.size; omega
        have HSR6 := Lib.hid hsr
        clear hb6 hsr
        go_wp2_with fail
        refine (HRO.out w6 st6.out).mono ?_
        intro e w7 h
        obtain ⟨vl, vi, rfl, ho1, ho2, hb7⟩ := h
        have hone : ∀ u ∈ [vl, vi], u.oneCell' = true := fun u hu => by
          obtain ⟨_, _, e1, _⟩ := ho1.open
          obtain ⟨_, _, e2, _⟩ := ho2.open
          rcases List.mem_cons.1 hu with rfl | hu
          · rw [e1]; rfl
          · rw [List.mem_singleton.1 hu, e2]; rfl
        obtain ⟨W8, hW8⟩ : ∃ W8, (w7.alloc (.cells #[.slice none 0 0, .slice none 0 0] 30)).setCells w7.heap.size 0 [vl, vi] = W8 := ⟨_, rfl⟩
        have wr8 := wrote (us := [vl, vi]) (a := #[.slice none 0 0, .slice none 0 0]) rfl (by simp) hW8
        have hbb : Below w6.heap.size w6 W8 := hb7.trans (wr8.bel.mono hb7.size)
        have hsw : SrcRow w7 (.agg #[vl, vi]) l := ⟨vl, vi, rfl, ho1, ho2⟩
        have HTH8 := Lib.hid (there_alloc w7 #[.slice none 0 0, .slice none 0 0] 30 (n := 2) rfl)
        have h2s : (Tryz.prog.info? 30).map (·.size) = some 2 := by kernel_rfl
        have HON8 := Lib.hid hone
        have st8 := Lib.hid (st6.out.step hbb)
        have HRA8 := Lib.hid (rangeAt_below HRA6.out hbb hs6)
        have hsr8 := HSR6.out.below hbb
        have hsw8 := hsw.below wr8.bel
        have hs8 := wr8.lt
        have HA8 := Lib.hid wr8.row
        have hs7 : w.heap.size < w7.heap.size := by have := hb7.size; omega
        have H8 : Hid (HSt w v l r vl vi w7.heap.size [(w.heap.size, ua)] W8) := Lib.hid ⟨st8.out, hsr8, hsw8, ⟨HA8.out, hs8⟩, fun p hp => by
          rw [List.mem_singleton.1 hp]
          exact ⟨HRA8.out, by show w.heap.size < _; omega⟩⟩
        have HW8 := Lib.hid hW8
        clear hb7 hbb hsw hone wr8 hW8 ho1 ho2 hsr8 hsw8 HRO HRN HOF HSR6 HA8 st st1 st3 st4 st5 st6 st8 HRA HRA1 HRA3 HRA4 HRA5 HRA6 HRA8 HGR HCL
        cases hl : lineL (cmG (getS l)) id with
        | none =>
          have hli := lin_no HU.out HID.out hl
          have hlo := lgn_no HU.out HID.out HACY.out hl n
          have hag := age_no HU.out HID.out HACY.out hl
          have hrl := rl_no HU.out HID.out hl
          rw [HIA.out] at hli hlo hag hrl
          have HLI := Lib.hid hli
          have HLO := Lib.hid hlo
          have HAG := Lib.hid hag
          have HRL := Lib.hid hrl
          clear hli hlo hag hrl hl
          have f := H8.out.row0
          go_wp2_with (first | (refine wpList_store_list rfl 30 _ _ rfl w7.heap.size 0 [vl, vi] rfl rfl 2 rfl HTH8.out h2s HON8.out ?_; rw [HW8.out]) | refine wpList_load_mid rfl 24 _ rfl w.heap.size 0 rfl ua _ f Tryz.underlying24 rfl h32a ?_)
          refine (HLI.out r W8 H8.out.sr).mono ?_
          rintro e w9 ⟨rfl, hb9⟩
          have H9 := Lib.hid (H8.out.step hb9)
          clear hb9 f H8
          have f := H9.out.row0
          go_wp2_with (refine wpList_load_mid rfl 24 _ rfl w.heap.size 0 rfl ua _ f Tryz.underlying24 rfl h32a ?_)
          refine (HLO.out r w9 H9.out.sr).mono ?_
          rintro e wa ⟨rfl, hba⟩
          have HA := Lib.hid (H9.out.step hba)
          clear hba f H9
          have f := HA.out.row0
          go_wp2_with (refine wpList_load_mid rfl 24 _ rfl w.heap.size 0 rfl ua _ f Tryz.underlying24 rfl h32a ?_)
          refine (HAG.out r wa HA.out.sr).mono ?_
          rintro e wb ⟨rfl, hbb⟩
          have HB := Lib.hid (HA.out.step hbb)
          clear hbb f HA
          have f := HB.out.row0
          have c0 := HB.out.c0
          have c1 := HB.out.c1
          go_wp2_with (refine wpList_load_mid rfl 24 _ rfl w.heap.size 0 rfl ua _ f Tryz.underlying24 rfl h32a ?_)
          refine (HRL.out vl vi wb HB.out.sw).mono ?_
          rintro e wc ⟨vr, rfl, _, hbc⟩
          have HC := Lib.hid (HB.out.step hbc)
          clear hbc f c0 c1 HB
          go_wp2_with fail
          refine (HAL.out wc HC.out.st).mono ?_
          rintro e wd ⟨rfl, hbd⟩
          have HD := Lib.hid (HC.out.st.step hbd)
          clear hbd HC
          go_wp2
          go_ret
          exact ⟨rfl, HD.out.bel⟩
        | some S =>
          have hon := logOn_of HU.out HACY.out hl
          have hli := lin_yes HU.out HID.out hl
          have hlo := lgn_yes HU.out HID.out HACY.out hl n
          have hag := age_yes HU.out HID.out HACY.out hl
          have hrl := rl_yes HU.out HID.out hl
          rw [HIA.out] at hli hlo hag hrl
          have HLI := Lib.hid hli
          have HLO := Lib.hid hlo
          have HAG := Lib.hid hag
          have HRL := Lib.hid hrl
          have HON := Lib.hid hon
          have HX : Hid (id ∈ S) := Lib.hid (((lineL_some hl).1.mem id).2 (.refl _))
          have H32 := Lib.hid (log32 HU.out hl)
          have HLEN : Hid ((logOf (cmG (getS l)) S).length = S.length) := Lib.hid (logOf_len HACY.out hon.asc.nodup)
          clear hli hlo hag hrl hl hon
          have f := H8.out.row0
          go_wp2_with (first | (refine wpList_store_list rfl 30 _ _ rfl w7.heap.size 0 [vl, vi] rfl rfl 2 rfl HTH8.out h2s HON8.out ?_; rw [HW8.out]) | refine wpList_load_mid rfl 24 _ rfl w.heap.size 0 rfl ua _ f Tryz.underlying24 rfl h32a ?_)
          refine (HLI.out r W8 H8.out.sr).mono ?_
          rintro e w9 ⟨va, rfl, hra9, hb9⟩
          have H9 := Lib.hid (H8.out.step hb9)
          have HVA9 := Lib.hid hra9
          clear hb9 f H8 hra9
          have f := H9.out.row0
          go_wp2_with (refine wpList_load_mid rfl 24 _ rfl w.heap.size 0 rfl ua _ f Tryz.underlying24 rfl h32a ?_)
          refine (HLO.out r w9 H9.out.sr).mono ?_
          rintro e wa ⟨vb, rfl, hrba, hba⟩
          have HA := Lib.hid (H9.out.step hba)
          have HVAA := Lib.hid (HVA9.out.below hba)
          have HVBA := Lib.hid hrba
          clear hba f H9 hrba HVA9
          have f := HA.out.row0
          go_wp2_with (refine wpList_load_mid rfl 24 _ rfl w.heap.size 0 rfl ua _ f Tryz.underlying24 rfl h32a ?_)
          refine (HAG.out r wa HA.out.sr).mono ?_
          rintro e wb ⟨rfl, hbb⟩
          have HB := Lib.hid (HA.out.step hbb)
          have HVAB := Lib.hid (HVAA.out.below hbb)
          have HVBB := Lib.hid (HVBA.out.below hbb)
          clear hbb f HA HVAA HVBA
          have f := HB.out.row0
          have c0 := HB.out.c0
          have c1 := HB.out.c1
          go_wp2_with (refine wpList_load_mid rfl 24 _ rfl w.heap.size 0 rfl ua _ f Tryz.underlying24 rfl h32a ?_)
          refine (HRL.out vl vi wb HB.out.sw).mono ?_
          rintro e wc ⟨vc, rfl, hrcc, hbc⟩
          have HC := Lib.hid (HB.out.step hbc)
          have HVAC := Lib.hid (HVAB.out.below hbc)
          have HVBC := Lib.hid (HVBB.out.below hbc)
          have HVCC := Lib.hid hrcc
          clear hbc f c0 c1 HB HVAB HVBB hrcc
          have c0 := HC.out.c0
          have c1 := HC.out.c1
          go_wp2_with fail
          refine (rlogd_any vl vi l U HU.out vc S wc HC.out.sw HVCC.out HON.out.l32 HON.out.len).mono ?_
          rintro e wd ⟨vd, rfl, hqd, hbd⟩
          have HD := Lib.hid (HC.out.step hbd)
          have HVAD := Lib.hid (HVAC.out.below hbd)
          have HVBD := Lib.hid (HVBC.out.below hbd)
          have HVCD := Lib.hid (HVCC.out.below hbd)
          have hir := hqd.row H32.out
          obtain ⟨ad, cd, rfl, hcap⟩ : ∃ ao cap, vd = .slice ao (logOf (cmG (getS l)) S).length cap ∧ (logOf (cmG (getS l)) S).length ≤ cap := by
            rcases hqd.2 with ⟨rfl, h0⟩ | ⟨g, off, cap, rfl, _, _, hn, _⟩
            · exact ⟨none, 0, by rw [h0], by omega⟩
            · exact ⟨_, _, rfl, hn⟩
          have HIR := Lib.hid hir
          clear hbd c0 c1 HC HVAC HVBC HVCC hqd hir
          have HFN : Hid (firstN n (logOf (cmG (getS l)) S) = (logOf (cmG (getS l)) S).take (min n (logOf (cmG (getS l)) S).length).toNat) := Lib.hid rfl
          have hl1 : (logOf (cmG (getS l)) S).length ≤ 1000 := by rw [HLEN.out]; exact HON.out.len
          have HAGE := Lib.hid (fun W (h1 : SrcRow W (.agg #[vl, vi]) l) (h2 : IdRow W vc S) => raged_any vl vi l U HU.out vc S W h1 h2 HON.out id HX.out)
          rw [HIA.out] at HAGE
          generalize (ageOf (cmG (getS l)) id : Int) = ag at HAGE
          generalize logOf (cmG (getS l)) S = lo at HIR hcap HFN hl1 H32 HLEN HVBD
          by_cases h0 : n < 0
          · have d0 : decide (n < 0) = true := decide_eq_true h0
            have d1 : decide ((lo.length : Int) < 0) = false := decide_eq_false (by omega)
            have hk : 0 ≤ lo.length := Nat.zero_le _
            have HTK : Hid (firstN n lo = lo.take 0) := Lib.hid (by rw [HFN.out, show (min n (lo.length : Int)).toNat = 0 from by omega])
            go_wp2_with fail
            refine (HAL.out wd HD.out.st).mono ?_
            rintro e we ⟨rfl, hbe⟩
            have HE := Lib.hid (HD.out.step hbe)
            have HVAE := Lib.hid (HVAD.out.below hbe)
            have HVBE := Lib.hid (HVBD.out.below hbe)
            have HVCE := Lib.hid (HVCD.out.below hbe)
            have HIRE := Lib.hid (HIR.out.below hbe)
            clear hbe HD HVAD HVBD HVCD HIR
            have hsi := rsameids_any va vc S S we HVAE.out HVCE.out HON.out.l32 HON.out.l32
            rw [decide_eq_true rfl] at hsi
            have HSI := Lib.hid hsi
            clear hsi
            go_wp2_with fail
            refine HSI.out.mono ?_
            rintro e wf ⟨rfl, hbf⟩
            have HF2 := Lib.hid (HE.out.step hbf)
            have HVBF := Lib.hid (HVBE.out.below hbf)
            have HVCF := Lib.hid (HVCE.out.below hbf)
            have HIRF := Lib.hid (HIRE.out.below hbf)
            clear hbf HE HVAE HVBE HVCE HIRE HSI
            have hsj := rsameids_any vb (.slice ad 0 cd) (firstN n lo) (lo.take 0) wf HVBF.out (HIRF.out.take 0 hk) (fun y hy => by rw [HTK.out] at hy; exact H32.out y (List.mem_of_mem_take hy)) (fun y hy => H32.out y (List.mem_of_mem_take hy))
            rw [decide_eq_true HTK.out] at hsj
            have HSJ := Lib.hid hsj
            clear hsj
            go_wp2_with fail
            refine HSJ.out.mono ?_
            rintro e wg ⟨rfl, hbg⟩
            have HG := Lib.hid (HF2.out.step hbg)
            have HVCG := Lib.hid (HVCF.out.below hbg)
            clear hbg HF2 HVBF HVCF HIRF HSJ
            have f := HG.out.row0
            have c0 := HG.out.c0
            have c1 := HG.out.c1
            go_wp2_with (first | refine wpList_load_mid_g rfl 24 _ rfl w.heap.size 0 rfl ua _ f Tryz.underlying24 rfl h32a ?_ | refine wpList_load_mid rfl 24 _ rfl w.heap.size 0 rfl ua _ f Tryz.underlying24 rfl h32a ?_)
            refine (HAGE.out wg HG.out.sw HVCG.out).mono ?_
            rintro e wh ⟨rfl, hbh⟩
            have HH := Lib.hid (HG.out.st.step hbh)
            clear hbh f c0 c1
            go_wp2
            go_ret
            exact ⟨rfl, HH.out.bel⟩
          · have d0 : decide (n < 0) = false := decide_eq_false h0
            by_cases h1 : (lo.length : Int) < n
            · have d1 : decide ((lo.length : Int) < n) = true := decide_eq_true h1
              have hk : lo.length ≤ lo.length := Nat.le_refl _
              have HTK : Hid (firstN n lo = lo.take lo.length) := Lib.hid (by rw [HFN.out, show (min n (lo.length : Int)).toNat = lo.length from by omega])
              go_wp2_with fail
              refine (HAL.out wd HD.out.st).mono ?_
              rintro e we ⟨rfl, hbe⟩
              have HE := Lib.hid (HD.out.step hbe)
              have HVAE := Lib.hid (HVAD.out.below hbe)
              have HVBE := Lib.hid (HVBD.out.below hbe)
              have HVCE := Lib.hid (HVCD.out.below hbe)
              have HIRE := Lib.hid (HIR.out.below hbe)
              clear hbe HD HVAD HVBD HVCD HIR
              have hsi := rsameids_any va vc S S we HVAE.out HVCE.out HON.out.l32 HON.out.l32
              rw [decide_eq_true rfl] at hsi
              have HSI := Lib.hid hsi
              clear hsi
              go_wp2_with fail
              refine HSI.out.mono ?_
              rintro e wf ⟨rfl, hbf⟩
              have HF2 := Lib.hid (HE.out.step hbf)
              have HVBF := Lib.hid (HVBE.out.below hbf)
              have HVCF := Lib.hid (HVCE.out.below hbf)
              have HIRF := Lib.hid (HIRE.out.below hbf)
              clear hbf HE HVAE HVBE HVCE HIRE HSI
              have hsj := rsameids_any vb (.slice ad lo.length cd) (firstN n lo) (lo.take lo.length) wf HVBF.out (HIRF.out.take lo.length hk) (fun y hy => by rw [HTK.out] at hy; exact H32.out y (List.mem_of_mem_take hy)) (fun y hy => H32.out y (List.mem_of_mem_take hy))
              rw [decide_eq_true HTK.out] at hsj
              have HSJ := Lib.hid hsj
              clear hsj
              go_wp2_with fail
              refine HSJ.out.mono ?_
              rintro e wg ⟨rfl, hbg⟩
              have HG := Lib.hid (HF2.out.step hbg)
              have HVCG := Lib.hid (HVCF.out.below hbg)
              clear hbg HF2 HVBF HVCF HIRF HSJ
              have f := HG.out.row0
              have c0 := HG.out.c0
              have c1 := HG.out.c1
              go_wp2_with (first | refine wpList_load_mid_g rfl 24 _ rfl w.heap.size 0 rfl ua _ f Tryz.underlying24 rfl h32a ?_ | refine wpList_load_mid rfl 24 _ rfl w.heap.size 0 rfl ua _ f Tryz.underlying24 rfl h32a ?_)
              refine (HAGE.out wg HG.out.sw HVCG.out).mono ?_
              rintro e wh ⟨rfl, hbh⟩
              have HH := Lib.hid (HG.out.st.step hbh)
              clear hbh f c0 c1
              go_wp2
              go_ret
              exact ⟨rfl, HH.out.bel⟩
            · obtain ⟨kn, rfl⟩ : ∃ kn : Nat, n = (kn : Int) := ⟨n.toNat, by omega⟩
              have d1 : decide ((lo.length : Int) < (kn : Int)) = false := decide_eq_false h1
              have hk : kn ≤ lo.length := by omega
              have hk2 : (kn : Int) ≤ cd := by omega
              have HTK : Hid (firstN (kn : Int) lo = lo.take kn) := Lib.hid (by rw [HFN.out, show (min (kn : Int) (lo.length : Int)).toNat = kn from by omega])
              go_wp2_with fail
              refine (HAL.out wd HD.out.st).mono ?_
              rintro e we ⟨rfl, hbe⟩
              have HE := Lib.hid (HD.out.step hbe)
              have HVAE := Lib.hid (HVAD.out.below hbe)
              have HVBE := Lib.hid (HVBD.out.below hbe)
              have HVCE := Lib.hid (HVCD.out.below hbe)
              have HIRE := Lib.hid (HIR.out.below hbe)
              clear hbe HD HVAD HVBD HVCD HIR
              have hsi := rsameids_any va vc S S we HVAE.out HVCE.out HON.out.l32 HON.out.l32
              rw [decide_eq_true rfl] at hsi
              have HSI := Lib.hid hsi
              clear hsi
              go_wp2_with fail
              refine HSI.out.mono ?_
              rintro e wf ⟨rfl, hbf⟩
              have HF2 := Lib.hid (HE.out.step hbf)
              have HVBF := Lib.hid (HVBE.out.below hbf)
              have HVCF := Lib.hid (HVCE.out.below hbf)
              have HIRF := Lib.hid (HIRE.out.below hbf)
              clear hbf HE HVAE HVBE HVCE HIRE HSI
              have hsj := rsameids_any vb (.slice ad kn cd) (firstN (kn : Int) lo) (lo.take kn) wf HVBF.out (HIRF.out.take kn hk) (fun y hy => by rw [HTK.out] at hy; exact H32.out y (List.mem_of_mem_take hy)) (fun y hy => H32.out y (List.mem_of_mem_take hy))
              rw [decide_eq_true HTK.out] at hsj
              have HSJ := Lib.hid hsj
              clear hsj
              go_wp2_with fail
              refine HSJ.out.mono ?_
              rintro e wg ⟨rfl, hbg⟩
              have HG := Lib.hid (HF2.out.step hbg)
              have HVCG := Lib.hid (HVCF.out.below hbg)
              clear hbg HF2 HVBF HVCF HIRF HSJ
              have f := HG.out.row0
              have c0 := HG.out.c0
              have c1 := HG.out.c1
              go_wp2_with (first | refine wpList_load_mid_g rfl 24 _ rfl w.heap.size 0 rfl ua _ f Tryz.underlying24 rfl h32a ?_ | refine wpList_load_mid rfl 24 _ rfl w.heap.size 0 rfl ua _ f Tryz.underlying24 rfl h32a ?_)
              refine (HAGE.out wg HG.out.sw HVCG.out).mono ?_
              rintro e wh ⟨rfl, hbh⟩
              have HH := Lib.hid (HG.out.st.step hbh)
              clear hbh f c0 c1
              go_wp2
              go_ret
              exact ⟨rfl, HH.out.bel⟩
end Go.Proofs.YtbmiiiccnoiffaaGreatDoor
