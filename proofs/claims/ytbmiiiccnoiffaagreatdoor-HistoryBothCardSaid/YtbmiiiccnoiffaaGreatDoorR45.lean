/- YtbmiiiccnoiffaaGreatDoorR45: texts BQ, Q4, Q5 of this claim, in one. -/
import Derived.Test.YtbmiiiccnoiffaaGreatDoorR42
import Derived.Test.YtbmiiiccnoiffaaGreatDoorR43
import Derived.Test.YtbmiiiccnoiffaaGreatDoorR44
namespace Go.Proofs.YtbmiiiccnoiffaaGreatDoor
open Go.RowKit
/-- 'Bases' of two commits whose lines there are. -/
theorem bas_yes {l : List Ob} {U : List Idl} (HU : CmOk (cmG (getS l)) U) {x y : Idl} (hx : x.length = 32) (hy : y.length = 32) {A B : List Idl} (hA : lineL (cmG (getS l)) x = some A) (hB : lineL (cmG (getS l)) y = some B) (r : Value) (W : World) (h : SrcP W r (getS l)) : Calls Tryz.prog 30 #[r, .agg (idC x).toArray, .agg (idC y).toArray] W fun e w' => ∃ u, e = .returned (.tuple #[u, .int .i64 0]) ∧ IdRow w' u (basesL (cmG (getS l)) A B) ∧ Below W.heap.size W w' := by
  refine (hbases_any r (getS l) (fun x o h => (getS_some h).2.1) U HU x y W h hx hy).mono ?_
  rintro e w' ⟨hb, ⟨A', B', u, h1, h2, rfl, hr⟩ | ⟨h1, _⟩⟩
  · obtain rfl : A = A' := Option.some.inj (hA.symm.trans h1)
    obtain rfl : B = B' := Option.some.inj (hB.symm.trans h2)
    exact ⟨u, rfl, hr, hb⟩
  · rcases h1 with h1 | h1
    · rw [hA] at h1; cases h1
    · rw [hB] at h1; cases h1
theorem bas_no {l : List Ob} {U : List Idl} (HU : CmOk (cmG (getS l)) U) {x y : Idl} (hx : x.length = 32) (hy : y.length = 32) (hn : lineL (cmG (getS l)) x = none ∨ lineL (cmG (getS l)) y = none) (r : Value) (W : World) (h : SrcP W r (getS l)) : Calls Tryz.prog 30 #[r, .agg (idC x).toArray, .agg (idC y).toArray] W fun e w' => e = .returned (.tuple #[.slice none 0 0, .int .i64 13]) ∧ Below W.heap.size W w' := by
  refine (hbases_any r (getS l) (fun x o h => (getS_some h).2.1) U HU x y W h hx hy).mono ?_
  rintro e w' ⟨hb, ⟨A', B', u, h1, h2, _⟩ | ⟨h1, rfl⟩⟩
  · rcases hn with hn | hn
    · rw [h1] at hn; cases hn
    · rw [h2] at hn; cases hn
  · exact ⟨rfl, hb⟩
end Go.Proofs.YtbmiiiccnoiffaaGreatDoor
namespace Go.Proofs.YtbmiiiccnoiffaaGreatDoor
open Go.RowKit
set_option maxRecDepth 100000 in
set_option maxHeartbeats 8000000 in
theorem hbases_walk (v : Value) (l : List Ob) (x1 x2 : Idl) (w : World) (hv : ObRow w v l) (hL : Laid w) (hx1 : x1.length = 32) (hx2 : x2.length = 32) :
    Calls Tryz.prog 6 #[v, .agg (idC x1).toArray, .agg (idC x2).toArray] w fun e w' => e = .returned (.bool true) ∧ Below w.heap.size w w' := by
  have h32x1 := h32_of (us := idC x1) (by rw [idC_len, hx1])
  have h32x2 := h32_of (us := idC x2) (by rw [idC_len, hx2])
  obtain ⟨W, hW⟩ : ∃ W, (w.alloc (.cells (idC x1).toArray 24)).alloc (.cells (idC x2).toArray 24) = W := ⟨_, rfl⟩
  have hbW : Below w.heap.size w W := by rw [← hW]; exact ((Below.refl _ _).alloc (Nat.le_refl _) _).alloc (by simp) _
  have st : Hid (StH w v l W) := Lib.hid (StH.step ⟨hv, hL, Below.refl _ _⟩ hbW)
  have HRx1 : Hid (W.rangeAt w.heap.size 0 (idC x1)) := Lib.hid (by rw [← hW]; exact rangeAt_below (range_new w (idC x1) 24 rfl) ((Below.refl _ _).alloc (Nat.le_refl _) _) (by simp))
  have HRx2 : Hid (W.rangeAt (w.heap.size + 1) 0 (idC x2)) := Lib.hid (by rw [← hW]; exact range_new _ _ _ (by simp))
  have HSW : Hid (W.heap.size = w.heap.size + 1 + 1) := Lib.hid (by rw [← hW]; simp)
  have HW := Lib.hid hW
  have HIDx1 := Lib.hid hx1
  have HIDx2 := Lib.hid hx2
  have HAL := Lib.hid (fun W (h : StH w v l W) => alive28_any W h.ld)
  have HGR := Lib.hid (fun W (h : StH w v l W) => rgreat_any v l W h.row)
  have HCL := Lib.hid (fun W (h : StH w v l W) => clash28_any v l W h.row)
  clear hbW hL hW hv hx1 hx2
  generalize hux1 : idC x1 = ux1 at h32x1 HRx1 HW
  have HIAx1 := Lib.hid hux1
  clear hux1
  generalize hux2 : idC x2 = ux2 at h32x2 HRx2 HW
  have HIAx2 := Lib.hid hux2
  clear hux2
  cases hg : obGreat l with
  | true =>
    rw [hg] at HGR
    clear hg
    go_enter Tryz.func6, Tryz.ntmps6
    go_wp2_with fail
    rw [HW.out]
    refine (HAL.out W st.out).mono ?_
    rintro e w1 ⟨rfl, hb1⟩
    have st1 := Lib.hid (st.out.step hb1)
    clear hb1
    go_wp2_with fail
    refine (HGR.out w1 st1.out).mono ?_
    rintro e w2 ⟨rfl, rfl⟩
    go_wp2_with fail
    refine (HAL.out _ st1.out).mono ?_
    rintro e w3 ⟨rfl, hb3⟩
    have st3 := Lib.hid (st1.out.step hb3)
    clear hb3
    go_wp2
    go_ret
    exact ⟨rfl, st3.out.bel⟩
  | false =>
    rw [hg] at HGR
    have hn := obGreat_40 hg
    clear hg
    cases hc : clashB l with
    | true =>
      rw [hc] at HCL
      clear hc
      go_enter Tryz.func6, Tryz.ntmps6
      go_wp2_with fail
      rw [HW.out]
      refine (HAL.out W st.out).mono ?_
      rintro e w1 ⟨rfl, hb1⟩
      have st1 := Lib.hid (st.out.step hb1)
      clear hb1
      go_wp2_with fail
      refine (HGR.out w1 st1.out).mono ?_
      rintro e w2 ⟨rfl, rfl⟩
      go_wp2_with fail
      refine (HCL.out _ st1.out).mono ?_
      rintro e w3 ⟨rfl, hb3⟩
      have st3 := Lib.hid (st1.out.step hb3)
      clear hb3
      go_wp2_with fail
      refine (HAL.out _ st3.out).mono ?_
      rintro e w4 ⟨rfl, hb4⟩
      have st4 := Lib.hid (st3.out.step hb4)
      clear hb4
      go_wp2
      go_ret
      exact ⟨rfl, st4.out.bel⟩
    | false =>
      rw [hc] at HCL
      have HLG : Hid (lastS l = getS l) := Lib.hid (funext fun x => last_get hc x)
      clear hc
      have HOF := Lib.hid (fun W (h : StH w v l W) => oof_any v l W h.row (by omega) h.ld)
      rw [HLG.out] at HOF
      have HRO := Lib.hid (fun W (h : StH w v l W) => rof_any v l W h.row (by omega))
      have HRN := Lib.hid (fun vl vi W (hs : SrcRow W (.agg #[vl, vi]) l) => rround_any vl vi l (by omega) W hs)
      obtain ⟨U, hU⟩ : ∃ U, U = (rights l).map idO := ⟨_, rfl⟩
      have HU : Hid (CmOk (cmG (getS l)) U) := Lib.hid (by rw [hU]; exact cmOk (by omega))
      have HROW : Hid (∀ X, Below W.heap.size W X → ∀ p ∈ [(w.heap.size, ux1), (w.heap.size + 1, ux2)], X.rangeAt p.1 0 p.2 ∧ p.1 < X.heap.size) := Lib.hid (fun X hX p hp => by
        have hsz := hX.size
        have hsw := HSW.out
        rcases List.mem_cons.1 hp with rfl | hp
        · exact ⟨rangeAt_below HRx1.out hX (by omega), by show w.heap.size < _; omega⟩
        · rw [List.mem_singleton.1 hp]
          exact ⟨rangeAt_below HRx2.out hX (by omega), by show w.heap.size + 1 < _; omega⟩)
      clear hU HLG
      go_enter Tryz.func6, Tryz.ntmps6
      go_wp2_with fail
      rw [HW.out]
      refine (HAL.out W st.out).mono ?_
      rintro e w1 ⟨rfl, hb1⟩
      have st1 := Lib.hid (st.out.step hb1)
      have HB1 := Lib.hid hb1
      clear hb1 HW
      go_wp2_with fail
      refine (HGR.out w1 st1.out).mono ?_
      rintro e w2 ⟨rfl, rfl⟩
      go_wp2_with fail
      refine (HCL.out _ st1.out).mono ?_
      rintro e w3 ⟨rfl, hb3⟩
      have st3 := Lib.hid (st1.out.step hb3)
      have HB3 := Lib.hid (HB1.out.trans (hb3.mono HB1.out.size))
      clear hb3
      go_wp2_with fail
      refine (HRO.out _ st3.out).mono ?_
      intro e w4 h
      obtain ⟨vl0, vi0, rfl, ho1, ho2, hb4⟩ := h
      have st4 := Lib.hid (st3.out.step hb4)
      have HB4 := Lib.hid (HB3.out.trans (hb4.mono HB3.out.size))
      have HSR4 : Hid (SrcRow w4 (.agg #[vl0, vi0]) l) := Lib.hid ⟨vl0, vi0, rfl, ho1, ho2⟩
      clear hb4 ho1 ho2
      go_wp2_with fail
      refine (HRN.out vl0 vi0 w4 HSR4.out).mono ?_
      intro e w5 h
      obtain ⟨b, rfl, hac, hb5⟩ := h
      have st5 := Lib.hid (st4.out.step hb5)
      have HB5 := Lib.hid (HB4.out.trans (hb5.mono HB4.out.size))
      have HAC := Lib.hid hac
      clear hb5 hac HSR4
      cases b with
      | true =>
        go_wp2_with fail
        refine (HAL.out _ st5.out).mono ?_
        rintro e w6 ⟨rfl, hb6⟩
        have st6 := Lib.hid (st5.out.step hb6)
        clear hb6
        go_wp2
        go_ret
        exact ⟨rfl, st6.out.bel⟩
      | false =>
        have HACY : Hid (Acyc (cmG (getS l))) := Lib.hid (HAC.out rfl)
        clear HAC
        go_wp2_with fail
        refine (HOF.out w5 st5.out).mono ?_
        intro e w6 h
        obtain ⟨r, rfl, hsr, hb6⟩ := h
        have H6 : Hid (HSp w v l r [(w.heap.size, ux1), (w.heap.size + 1, ux2)] w6) := Lib.hid ⟨st5.out.step hb6, hsr, HROW.out w6 (HB5.out.trans (hb6.mono HB5.out.size))⟩
        clear hb6 hsr
        go_wp2_with fail
        refine (HRO.out w6 H6.out.st).mono ?_
        intro e w7 h
        obtain ⟨vl, vi, rfl, ho1, ho2, hb7⟩ := h
        have hone : ∀ u ∈ [vl, vi], u.oneCell' = true := fun u hu => by
          obtain ⟨_, _, e1, _⟩ := ho1.open
          obtain ⟨_, _, e2, _⟩ := ho2.open
          rcases List.mem_cons.1 hu with rfl | hu
          · rw [e1]; rfl
          · rw [List.mem_singleton.1 hu, e2]; rfl
        obtain ⟨W8, hW8⟩ : ∃ W8, (w7.alloc (.cells #[.slice none 0 0, .slice none 0 0] 30)).setCells w7.heap.size 0 [vl, vi] = W8 := ⟨_, rfl⟩
        have wr8 := wrote (us := [vl, vi]) (a := #[.slice none 0 0, .slice none 0 0]) rfl (by simp) hW8
        have hbb : Below w6.heap.size w6 W8 := hb7.trans (wr8.bel.mono hb7.size)
        have hsw : SrcRow w7 (.agg #[vl, vi]) l := ⟨vl, vi, rfl, ho1, ho2⟩
        have HTH8 := Lib.hid (there_alloc w7 #[.slice none 0 0, .slice none 0 0] 30 (n := 2) rfl)
        have h2s : (Tryz.prog.info? 30).map (·.size) = some 2 := by kernel_rfl
        have HON8 := Lib.hid hone
        have h6 := H6.out.step hbb
        have H8 : Hid (HSt w v l r vl vi w7.heap.size [(w.heap.size, ux1), (w.heap.size + 1, ux2)] W8) := Lib.hid ⟨h6.st, h6.sr, hsw.below wr8.bel, ⟨wr8.row, wr8.lt⟩, h6.rw⟩
        have HW8 := Lib.hid hW8
        clear hb7 hbb hsw hone wr8 hW8 ho1 ho2 h6 H6 HRO HRN HOF HGR HCL st st1 st3 st4 st5 HB1 HB3 HB4 HB5 HROW
        cases hla : lineL (cmG (getS l)) x1 with
        | none =>
          cases hlb : lineL (cmG (getS l)) x2 with
          | none =>
            have hol := old_no HU.out HIDx1.out HIDx2.out (.inl hla)
            have hbs := bas_no HU.out HIDx1.out HIDx2.out (.inl hla)
            have hra := rl_no HU.out HIDx1.out hla
            have hrbb := rl_no HU.out HIDx2.out hlb
            rw [HIAx1.out, HIAx2.out] at hol hbs
            rw [HIAx1.out] at hra
            rw [HIAx2.out] at hrbb
            have HOL := Lib.hid hol
            have HBS := Lib.hid hbs
            have HLA := Lib.hid hra
            have HLB := Lib.hid hrbb
            clear hol hbs hra hrbb hla hlb
            have f0 := H8.out.row0
            have f1 := H8.out.row1
            have fs := H8.out.ar.1
            go_wp2_with (first | (refine wpList_store_list rfl 30 _ _ rfl w7.heap.size 0 [vl, vi] rfl rfl 2 rfl HTH8.out h2s HON8.out ?_; rw [HW8.out]) | (refine wpList_load_mid_g rfl 24 _ rfl w.heap.size 0 rfl ux1 _ f0 Tryz.underlying24 rfl h32x1 ?_) | (refine wpList_load_mid_g rfl 24 _ rfl (w.heap.size + 1) 0 rfl ux2 _ f1 Tryz.underlying24 rfl h32x2 ?_) | (refine wpList_load_mid_g rfl 30 _ rfl w7.heap.size 0 rfl [vl, vi] _ fs Tryz.underlying30 rfl h2s ?_) | (refine wpList_load_mid rfl 24 _ rfl w.heap.size 0 rfl ux1 _ f0 Tryz.underlying24 rfl h32x1 ?_) | (refine wpList_load_mid rfl 24 _ rfl (w.heap.size + 1) 0 rfl ux2 _ f1 Tryz.underlying24 rfl h32x2 ?_) | (refine wpList_load_mid rfl 30 _ rfl w7.heap.size 0 rfl [vl, vi] _ fs Tryz.underlying30 rfl h2s ?_))
            refine (HOL.out r W8 H8.out.sr).mono ?_
            rintro e w9 ⟨rfl, hb9⟩
            have H9 := Lib.hid (H8.out.step hb9)
            clear hb9 f0 f1 fs H8 HTH8 HON8 HW8
            have f0 := H9.out.row0
            have f1 := H9.out.row1
            have fs := H9.out.ar.1
            go_wp2_with (first | (refine wpList_store_list rfl 30 _ _ rfl w7.heap.size 0 [vl, vi] rfl rfl 2 rfl HTH8.out h2s HON8.out ?_; rw [HW8.out]) | (refine wpList_load_mid_g rfl 24 _ rfl w.heap.size 0 rfl ux1 _ f0 Tryz.underlying24 rfl h32x1 ?_) | (refine wpList_load_mid_g rfl 24 _ rfl (w.heap.size + 1) 0 rfl ux2 _ f1 Tryz.underlying24 rfl h32x2 ?_) | (refine wpList_load_mid_g rfl 30 _ rfl w7.heap.size 0 rfl [vl, vi] _ fs Tryz.underlying30 rfl h2s ?_) | (refine wpList_load_mid rfl 24 _ rfl w.heap.size 0 rfl ux1 _ f0 Tryz.underlying24 rfl h32x1 ?_) | (refine wpList_load_mid rfl 24 _ rfl (w.heap.size + 1) 0 rfl ux2 _ f1 Tryz.underlying24 rfl h32x2 ?_) | (refine wpList_load_mid rfl 30 _ rfl w7.heap.size 0 rfl [vl, vi] _ fs Tryz.underlying30 rfl h2s ?_))
            refine (HBS.out r w9 H9.out.sr).mono ?_
            rintro e wa ⟨rfl, hba⟩
            have HA := Lib.hid (H9.out.step hba)
            clear hba f0 f1 fs H9
            have f0 := HA.out.row0
            have f1 := HA.out.row1
            have fs := HA.out.ar.1
            go_wp2_with (first | (refine wpList_store_list rfl 30 _ _ rfl w7.heap.size 0 [vl, vi] rfl rfl 2 rfl HTH8.out h2s HON8.out ?_; rw [HW8.out]) | (refine wpList_load_mid_g rfl 24 _ rfl w.heap.size 0 rfl ux1 _ f0 Tryz.underlying24 rfl h32x1 ?_) | (refine wpList_load_mid_g rfl 24 _ rfl (w.heap.size + 1) 0 rfl ux2 _ f1 Tryz.underlying24 rfl h32x2 ?_) | (refine wpList_load_mid_g rfl 30 _ rfl w7.heap.size 0 rfl [vl, vi] _ fs Tryz.underlying30 rfl h2s ?_) | (refine wpList_load_mid rfl 24 _ rfl w.heap.size 0 rfl ux1 _ f0 Tryz.underlying24 rfl h32x1 ?_) | (refine wpList_load_mid rfl 24 _ rfl (w.heap.size + 1) 0 rfl ux2 _ f1 Tryz.underlying24 rfl h32x2 ?_) | (refine wpList_load_mid rfl 30 _ rfl w7.heap.size 0 rfl [vl, vi] _ fs Tryz.underlying30 rfl h2s ?_))
            refine (HLA.out vl vi wa HA.out.sw).mono ?_
            rintro e wb ⟨va, rfl, hrva, hbb⟩
            have HB := Lib.hid (HA.out.step hbb)
            have HVA := Lib.hid hrva
            clear hbb f0 f1 fs HA hrva
            have f0 := HB.out.row0
            have f1 := HB.out.row1
            have fs := HB.out.ar.1
            go_wp2_with (first | (refine wpList_store_list rfl 30 _ _ rfl w7.heap.size 0 [vl, vi] rfl rfl 2 rfl HTH8.out h2s HON8.out ?_; rw [HW8.out]) | (refine wpList_load_mid_g rfl 24 _ rfl w.heap.size 0 rfl ux1 _ f0 Tryz.underlying24 rfl h32x1 ?_) | (refine wpList_load_mid_g rfl 24 _ rfl (w.heap.size + 1) 0 rfl ux2 _ f1 Tryz.underlying24 rfl h32x2 ?_) | (refine wpList_load_mid_g rfl 30 _ rfl w7.heap.size 0 rfl [vl, vi] _ fs Tryz.underlying30 rfl h2s ?_) | (refine wpList_load_mid rfl 24 _ rfl w.heap.size 0 rfl ux1 _ f0 Tryz.underlying24 rfl h32x1 ?_) | (refine wpList_load_mid rfl 24 _ rfl (w.heap.size + 1) 0 rfl ux2 _ f1 Tryz.underlying24 rfl h32x2 ?_) | (refine wpList_load_mid rfl 30 _ rfl w7.heap.size 0 rfl [vl, vi] _ fs Tryz.underlying30 rfl h2s ?_))
            refine (HLB.out vl vi wb HB.out.sw).mono ?_
            rintro e wc ⟨vb, rfl, hrvb, hbc⟩
            have HC := Lib.hid (HB.out.step hbc)
            have HVB := Lib.hid hrvb
            have HVA := Lib.hid (HVA.out.below hbc)
            clear hbc f0 f1 fs HB hrvb
            go_wp2_with fail
            refine (HAL.out wc HC.out.st).mono ?_
            rintro e wd ⟨rfl, hbd⟩
            have HD := Lib.hid (HC.out.st.step hbd)
            clear hbd HC
            go_wp2
            go_ret
            exact ⟨rfl, HD.out.bel⟩
          | some B =>
            have hol := old_no HU.out HIDx1.out HIDx2.out (.inl hla)
            have hbs := bas_no HU.out HIDx1.out HIDx2.out (.inl hla)
            have hra := rl_no HU.out HIDx1.out hla
            have hrbb := rl_yes HU.out HIDx2.out hlb
            rw [HIAx1.out, HIAx2.out] at hol hbs
            rw [HIAx1.out] at hra
            rw [HIAx2.out] at hrbb
            have HOL := Lib.hid hol
            have HBS := Lib.hid hbs
            have HLA := Lib.hid hra
            have HLB := Lib.hid hrbb
            clear hol hbs hra hrbb hla hlb
            have f0 := H8.out.row0
            have f1 := H8.out.row1
            have fs := H8.out.ar.1
            go_wp2_with (first | (refine wpList_store_list rfl 30 _ _ rfl w7.heap.size 0 [vl, vi] rfl rfl 2 rfl HTH8.out h2s HON8.out ?_; rw [HW8.out]) | (refine wpList_load_mid_g rfl 24 _ rfl w.heap.size 0 rfl ux1 _ f0 Tryz.underlying24 rfl h32x1 ?_) | (refine wpList_load_mid_g rfl 24 _ rfl (w.heap.size + 1) 0 rfl ux2 _ f1 Tryz.underlying24 rfl h32x2 ?_) | (refine wpList_load_mid_g rfl 30 _ rfl w7.heap.size 0 rfl [vl, vi] _ fs Tryz.underlying30 rfl h2s ?_) | (refine wpList_load_mid rfl 24 _ rfl w.heap.size 0 rfl ux1 _ f0 Tryz.underlying24 rfl h32x1 ?_) | (refine wpList_load_mid rfl 24 _ rfl (w.heap.size + 1) 0 rfl ux2 _ f1 Tryz.underlying24 rfl h32x2 ?_) | (refine wpList_load_mid rfl 30 _ rfl w7.heap.size 0 rfl [vl, vi] _ fs Tryz.underlying30 rfl h2s ?_))
            refine (HOL.out r W8 H8.out.sr).mono ?_
            rintro e w9 ⟨rfl, hb9⟩
            have H9 := Lib.hid (H8.out.step hb9)
            clear hb9 f0 f1 fs H8 HTH8 HON8 HW8
            have f0 := H9.out.row0
            have f1 := H9.out.row1
            have fs := H9.out.ar.1
            go_wp2_with (first | (refine wpList_store_list rfl 30 _ _ rfl w7.heap.size 0 [vl, vi] rfl rfl 2 rfl HTH8.out h2s HON8.out ?_; rw [HW8.out]) | (refine wpList_load_mid_g rfl 24 _ rfl w.heap.size 0 rfl ux1 _ f0 Tryz.underlying24 rfl h32x1 ?_) | (refine wpList_load_mid_g rfl 24 _ rfl (w.heap.size + 1) 0 rfl ux2 _ f1 Tryz.underlying24 rfl h32x2 ?_) | (refine wpList_load_mid_g rfl 30 _ rfl w7.heap.size 0 rfl [vl, vi] _ fs Tryz.underlying30 rfl h2s ?_) | (refine wpList_load_mid rfl 24 _ rfl w.heap.size 0 rfl ux1 _ f0 Tryz.underlying24 rfl h32x1 ?_) | (refine wpList_load_mid rfl 24 _ rfl (w.heap.size + 1) 0 rfl ux2 _ f1 Tryz.underlying24 rfl h32x2 ?_) | (refine wpList_load_mid rfl 30 _ rfl w7.heap.size 0 rfl [vl, vi] _ fs Tryz.underlying30 rfl h2s ?_))
            refine (HBS.out r w9 H9.out.sr).mono ?_
            rintro e wa ⟨rfl, hba⟩
            have HA := Lib.hid (H9.out.step hba)
            clear hba f0 f1 fs H9
            have f0 := HA.out.row0
            have f1 := HA.out.row1
            have fs := HA.out.ar.1
            go_wp2_with (first | (refine wpList_store_list rfl 30 _ _ rfl w7.heap.size 0 [vl, vi] rfl rfl 2 rfl HTH8.out h2s HON8.out ?_; rw [HW8.out]) | (refine wpList_load_mid_g rfl 24 _ rfl w.heap.size 0 rfl ux1 _ f0 Tryz.underlying24 rfl h32x1 ?_) | (refine wpList_load_mid_g rfl 24 _ rfl (w.heap.size + 1) 0 rfl ux2 _ f1 Tryz.underlying24 rfl h32x2 ?_) | (refine wpList_load_mid_g rfl 30 _ rfl w7.heap.size 0 rfl [vl, vi] _ fs Tryz.underlying30 rfl h2s ?_) | (refine wpList_load_mid rfl 24 _ rfl w.heap.size 0 rfl ux1 _ f0 Tryz.underlying24 rfl h32x1 ?_) | (refine wpList_load_mid rfl 24 _ rfl (w.heap.size + 1) 0 rfl ux2 _ f1 Tryz.underlying24 rfl h32x2 ?_) | (refine wpList_load_mid rfl 30 _ rfl w7.heap.size 0 rfl [vl, vi] _ fs Tryz.underlying30 rfl h2s ?_))
            refine (HLA.out vl vi wa HA.out.sw).mono ?_
            rintro e wb ⟨va, rfl, hrva, hbb⟩
            have HB := Lib.hid (HA.out.step hbb)
            have HVA := Lib.hid hrva
            clear hbb f0 f1 fs HA hrva
            have f0 := HB.out.row0
            have f1 := HB.out.row1
            have fs := HB.out.ar.1
            go_wp2_with (first | (refine wpList_store_list rfl 30 _ _ rfl w7.heap.size 0 [vl, vi] rfl rfl 2 rfl HTH8.out h2s HON8.out ?_; rw [HW8.out]) | (refine wpList_load_mid_g rfl 24 _ rfl w.heap.size 0 rfl ux1 _ f0 Tryz.underlying24 rfl h32x1 ?_) | (refine wpList_load_mid_g rfl 24 _ rfl (w.heap.size + 1) 0 rfl ux2 _ f1 Tryz.underlying24 rfl h32x2 ?_) | (refine wpList_load_mid_g rfl 30 _ rfl w7.heap.size 0 rfl [vl, vi] _ fs Tryz.underlying30 rfl h2s ?_) | (refine wpList_load_mid rfl 24 _ rfl w.heap.size 0 rfl ux1 _ f0 Tryz.underlying24 rfl h32x1 ?_) | (refine wpList_load_mid rfl 24 _ rfl (w.heap.size + 1) 0 rfl ux2 _ f1 Tryz.underlying24 rfl h32x2 ?_) | (refine wpList_load_mid rfl 30 _ rfl w7.heap.size 0 rfl [vl, vi] _ fs Tryz.underlying30 rfl h2s ?_))
            refine (HLB.out vl vi wb HB.out.sw).mono ?_
            rintro e wc ⟨vb, rfl, hrvb, hbc⟩
            have HC := Lib.hid (HB.out.step hbc)
            have HVB := Lib.hid hrvb
            have HVA := Lib.hid (HVA.out.below hbc)
            clear hbc f0 f1 fs HB hrvb
            go_wp2_with fail
            refine (HAL.out wc HC.out.st).mono ?_
            rintro e wd ⟨rfl, hbd⟩
            have HD := Lib.hid (HC.out.st.step hbd)
            clear hbd HC
            go_wp2
            go_ret
            exact ⟨rfl, HD.out.bel⟩
        | some A =>
          cases hlb : lineL (cmG (getS l)) x2 with
          | none =>
            have hol := old_no HU.out HIDx1.out HIDx2.out (.inr hlb)
            have hbs := bas_no HU.out HIDx1.out HIDx2.out (.inr hlb)
            have hra := rl_yes HU.out HIDx1.out hla
            have hrbb := rl_no HU.out HIDx2.out hlb
            rw [HIAx1.out, HIAx2.out] at hol hbs
            rw [HIAx1.out] at hra
            rw [HIAx2.out] at hrbb
            have HOL := Lib.hid hol
            have HBS := Lib.hid hbs
            have HLA := Lib.hid hra
            have HLB := Lib.hid hrbb
            clear hol hbs hra hrbb hla hlb
            have f0 := H8.out.row0
            have f1 := H8.out.row1
            have fs := H8.out.ar.1
            go_wp2_with (first | (refine wpList_store_list rfl 30 _ _ rfl w7.heap.size 0 [vl, vi] rfl rfl 2 rfl HTH8.out h2s HON8.out ?_; rw [HW8.out]) | (refine wpList_load_mid_g rfl 24 _ rfl w.heap.size 0 rfl ux1 _ f0 Tryz.underlying24 rfl h32x1 ?_) | (refine wpList_load_mid_g rfl 24 _ rfl (w.heap.size + 1) 0 rfl ux2 _ f1 Tryz.underlying24 rfl h32x2 ?_) | (refine wpList_load_mid_g rfl 30 _ rfl w7.heap.size 0 rfl [vl, vi] _ fs Tryz.underlying30 rfl h2s ?_) | (refine wpList_load_mid rfl 24 _ rfl w.heap.size 0 rfl ux1 _ f0 Tryz.underlying24 rfl h32x1 ?_) | (refine wpList_load_mid rfl 24 _ rfl (w.heap.size + 1) 0 rfl ux2 _ f1 Tryz.underlying24 rfl h32x2 ?_) | (refine wpList_load_mid rfl 30 _ rfl w7.heap.size 0 rfl [vl, vi] _ fs Tryz.underlying30 rfl h2s ?_))
            refine (HOL.out r W8 H8.out.sr).mono ?_
            rintro e w9 ⟨rfl, hb9⟩
            have H9 := Lib.hid (H8.out.step hb9)
            clear hb9 f0 f1 fs H8 HTH8 HON8 HW8
            have f0 := H9.out.row0
            have f1 := H9.out.row1
            have fs := H9.out.ar.1
            go_wp2_with (first | (refine wpList_store_list rfl 30 _ _ rfl w7.heap.size 0 [vl, vi] rfl rfl 2 rfl HTH8.out h2s HON8.out ?_; rw [HW8.out]) | (refine wpList_load_mid_g rfl 24 _ rfl w.heap.size 0 rfl ux1 _ f0 Tryz.underlying24 rfl h32x1 ?_) | (refine wpList_load_mid_g rfl 24 _ rfl (w.heap.size + 1) 0 rfl ux2 _ f1 Tryz.underlying24 rfl h32x2 ?_) | (refine wpList_load_mid_g rfl 30 _ rfl w7.heap.size 0 rfl [vl, vi] _ fs Tryz.underlying30 rfl h2s ?_) | (refine wpList_load_mid rfl 24 _ rfl w.heap.size 0 rfl ux1 _ f0 Tryz.underlying24 rfl h32x1 ?_) | (refine wpList_load_mid rfl 24 _ rfl (w.heap.size + 1) 0 rfl ux2 _ f1 Tryz.underlying24 rfl h32x2 ?_) | (refine wpList_load_mid rfl 30 _ rfl w7.heap.size 0 rfl [vl, vi] _ fs Tryz.underlying30 rfl h2s ?_))
            refine (HBS.out r w9 H9.out.sr).mono ?_
            rintro e wa ⟨rfl, hba⟩
            have HA := Lib.hid (H9.out.step hba)
            clear hba f0 f1 fs H9
            have f0 := HA.out.row0
            have f1 := HA.out.row1
            have fs := HA.out.ar.1
            go_wp2_with (first | (refine wpList_store_list rfl 30 _ _ rfl w7.heap.size 0 [vl, vi] rfl rfl 2 rfl HTH8.out h2s HON8.out ?_; rw [HW8.out]) | (refine wpList_load_mid_g rfl 24 _ rfl w.heap.size 0 rfl ux1 _ f0 Tryz.underlying24 rfl h32x1 ?_) | (refine wpList_load_mid_g rfl 24 _ rfl (w.heap.size + 1) 0 rfl ux2 _ f1 Tryz.underlying24 rfl h32x2 ?_) | (refine wpList_load_mid_g rfl 30 _ rfl w7.heap.size 0 rfl [vl, vi] _ fs Tryz.underlying30 rfl h2s ?_) | (refine wpList_load_mid rfl 24 _ rfl w.heap.size 0 rfl ux1 _ f0 Tryz.underlying24 rfl h32x1 ?_) | (refine wpList_load_mid rfl 24 _ rfl (w.heap.size + 1) 0 rfl ux2 _ f1 Tryz.underlying24 rfl h32x2 ?_) | (refine wpList_load_mid rfl 30 _ rfl w7.heap.size 0 rfl [vl, vi] _ fs Tryz.underlying30 rfl h2s ?_))
            refine (HLA.out vl vi wa HA.out.sw).mono ?_
            rintro e wb ⟨va, rfl, hrva, hbb⟩
            have HB := Lib.hid (HA.out.step hbb)
            have HVA := Lib.hid hrva
            clear hbb f0 f1 fs HA hrva
            have f0 := HB.out.row0
            have f1 := HB.out.row1
            have fs := HB.out.ar.1
            go_wp2_with (first | (refine wpList_store_list rfl 30 _ _ rfl w7.heap.size 0 [vl, vi] rfl rfl 2 rfl HTH8.out h2s HON8.out ?_; rw [HW8.out]) | (refine wpList_load_mid_g rfl 24 _ rfl w.heap.size 0 rfl ux1 _ f0 Tryz.underlying24 rfl h32x1 ?_) | (refine wpList_load_mid_g rfl 24 _ rfl (w.heap.size + 1) 0 rfl ux2 _ f1 Tryz.underlying24 rfl h32x2 ?_) | (refine wpList_load_mid_g rfl 30 _ rfl w7.heap.size 0 rfl [vl, vi] _ fs Tryz.underlying30 rfl h2s ?_) | (refine wpList_load_mid rfl 24 _ rfl w.heap.size 0 rfl ux1 _ f0 Tryz.underlying24 rfl h32x1 ?_) | (refine wpList_load_mid rfl 24 _ rfl (w.heap.size + 1) 0 rfl ux2 _ f1 Tryz.underlying24 rfl h32x2 ?_) | (refine wpList_load_mid rfl 30 _ rfl w7.heap.size 0 rfl [vl, vi] _ fs Tryz.underlying30 rfl h2s ?_))
            refine (HLB.out vl vi wb HB.out.sw).mono ?_
            rintro e wc ⟨vb, rfl, hrvb, hbc⟩
            have HC := Lib.hid (HB.out.step hbc)
            have HVB := Lib.hid hrvb
            have HVA := Lib.hid (HVA.out.below hbc)
            clear hbc f0 f1 fs HB hrvb
            go_wp2_with fail
            refine (HAL.out wc HC.out.st).mono ?_
            rintro e wd ⟨rfl, hbd⟩
            have HD := Lib.hid (HC.out.st.step hbd)
            clear hbd HC
            go_wp2
            go_ret
            exact ⟨rfl, HD.out.bel⟩
          | some B =>
            have hol := old_yes HU.out HIDx1.out HIDx2.out hla hlb
            have hbs := bas_yes HU.out HIDx1.out HIDx2.out hla hlb
            have hro := fun vl vi W (h : SrcRow W (.agg #[vl, vi]) l) => rolder_any vl vi l U HU.out x1 x2 W h HIDx1.out HIDx2.out
            have hrb := fun vl vi va vb W (h : SrcRow W (.agg #[vl, vi]) l) (h1 : IdRow W va A) (h2 : IdRow W vb B) => (rbases_any vl vi l U HU.out va vb A B W h h1 h2 (lineL_32 HU.out hla).1 (lineL_32 HU.out hlb).1 (lineL_32 HU.out hla).2.1)
            rw [outL_bases hla hlb] at hrb
            have HB32 : Hid (∀ y ∈ basesL (cmG (getS l)) A B, y.length = 32) := Lib.hid (fun y hy => (lineL_32 HU.out hla).1 y (bases_sub hy))
            have hra := rl_yes HU.out HIDx1.out hla
            have hrbb := rl_yes HU.out HIDx2.out hlb
            rw [HIAx1.out, HIAx2.out] at hol hbs
            rw [HIAx1.out] at hra
            rw [HIAx2.out] at hrbb
            simp only [HIAx1.out, HIAx2.out] at hro
            have HRO2 := Lib.hid hro
            have HRB2 := Lib.hid hrb
            clear hro hrb
            have HOL := Lib.hid hol
            have HBS := Lib.hid hbs
            have HLA := Lib.hid hra
            have HLB := Lib.hid hrbb
            clear hol hbs hra hrbb hla hlb
            generalize olderL (cmG (getS l)) x1 x2 = ol at HOL HRO2
            generalize basesL (cmG (getS l)) A B = bs at HBS HRB2 HB32
            have f0 := H8.out.row0
            have f1 := H8.out.row1
            have fs := H8.out.ar.1
            go_wp2_with (first | (refine wpList_store_list rfl 30 _ _ rfl w7.heap.size 0 [vl, vi] rfl rfl 2 rfl HTH8.out h2s HON8.out ?_; rw [HW8.out]) | (refine wpList_load_mid_g rfl 24 _ rfl w.heap.size 0 rfl ux1 _ f0 Tryz.underlying24 rfl h32x1 ?_) | (refine wpList_load_mid_g rfl 24 _ rfl (w.heap.size + 1) 0 rfl ux2 _ f1 Tryz.underlying24 rfl h32x2 ?_) | (refine wpList_load_mid_g rfl 30 _ rfl w7.heap.size 0 rfl [vl, vi] _ fs Tryz.underlying30 rfl h2s ?_) | (refine wpList_load_mid rfl 24 _ rfl w.heap.size 0 rfl ux1 _ f0 Tryz.underlying24 rfl h32x1 ?_) | (refine wpList_load_mid rfl 24 _ rfl (w.heap.size + 1) 0 rfl ux2 _ f1 Tryz.underlying24 rfl h32x2 ?_) | (refine wpList_load_mid rfl 30 _ rfl w7.heap.size 0 rfl [vl, vi] _ fs Tryz.underlying30 rfl h2s ?_))
            refine (HOL.out r W8 H8.out.sr).mono ?_
            rintro e w9 ⟨rfl, hb9⟩
            have H9 := Lib.hid (H8.out.step hb9)
            clear hb9 f0 f1 fs H8 HTH8 HON8 HW8
            have f0 := H9.out.row0
            have f1 := H9.out.row1
            have fs := H9.out.ar.1
            go_wp2_with (first | (refine wpList_store_list rfl 30 _ _ rfl w7.heap.size 0 [vl, vi] rfl rfl 2 rfl HTH8.out h2s HON8.out ?_; rw [HW8.out]) | (refine wpList_load_mid_g rfl 24 _ rfl w.heap.size 0 rfl ux1 _ f0 Tryz.underlying24 rfl h32x1 ?_) | (refine wpList_load_mid_g rfl 24 _ rfl (w.heap.size + 1) 0 rfl ux2 _ f1 Tryz.underlying24 rfl h32x2 ?_) | (refine wpList_load_mid_g rfl 30 _ rfl w7.heap.size 0 rfl [vl, vi] _ fs Tryz.underlying30 rfl h2s ?_) | (refine wpList_load_mid rfl 24 _ rfl w.heap.size 0 rfl ux1 _ f0 Tryz.underlying24 rfl h32x1 ?_) | (refine wpList_load_mid rfl 24 _ rfl (w.heap.size + 1) 0 rfl ux2 _ f1 Tryz.underlying24 rfl h32x2 ?_) | (refine wpList_load_mid rfl 30 _ rfl w7.heap.size 0 rfl [vl, vi] _ fs Tryz.underlying30 rfl h2s ?_))
            refine (HBS.out r w9 H9.out.sr).mono ?_
            rintro e wa ⟨ub, rfl, hrub, hba⟩
            have HA := Lib.hid (H9.out.step hba)
            have HUB := Lib.hid hrub
            clear hba f0 f1 fs H9 hrub
            have f0 := HA.out.row0
            have f1 := HA.out.row1
            have fs := HA.out.ar.1
            go_wp2_with (first | (refine wpList_store_list rfl 30 _ _ rfl w7.heap.size 0 [vl, vi] rfl rfl 2 rfl HTH8.out h2s HON8.out ?_; rw [HW8.out]) | (refine wpList_load_mid_g rfl 24 _ rfl w.heap.size 0 rfl ux1 _ f0 Tryz.underlying24 rfl h32x1 ?_) | (refine wpList_load_mid_g rfl 24 _ rfl (w.heap.size + 1) 0 rfl ux2 _ f1 Tryz.underlying24 rfl h32x2 ?_) | (refine wpList_load_mid_g rfl 30 _ rfl w7.heap.size 0 rfl [vl, vi] _ fs Tryz.underlying30 rfl h2s ?_) | (refine wpList_load_mid rfl 24 _ rfl w.heap.size 0 rfl ux1 _ f0 Tryz.underlying24 rfl h32x1 ?_) | (refine wpList_load_mid rfl 24 _ rfl (w.heap.size + 1) 0 rfl ux2 _ f1 Tryz.underlying24 rfl h32x2 ?_) | (refine wpList_load_mid rfl 30 _ rfl w7.heap.size 0 rfl [vl, vi] _ fs Tryz.underlying30 rfl h2s ?_))
            refine (HLA.out vl vi wa HA.out.sw).mono ?_
            rintro e wb ⟨va, rfl, hrva, hbb⟩
            have HB := Lib.hid (HA.out.step hbb)
            have HVA := Lib.hid hrva
            have HUB := Lib.hid (HUB.out.below hbb)
            clear hbb f0 f1 fs HA hrva
            have f0 := HB.out.row0
            have f1 := HB.out.row1
            have fs := HB.out.ar.1
            go_wp2_with (first | (refine wpList_store_list rfl 30 _ _ rfl w7.heap.size 0 [vl, vi] rfl rfl 2 rfl HTH8.out h2s HON8.out ?_; rw [HW8.out]) | (refine wpList_load_mid_g rfl 24 _ rfl w.heap.size 0 rfl ux1 _ f0 Tryz.underlying24 rfl h32x1 ?_) | (refine wpList_load_mid_g rfl 24 _ rfl (w.heap.size + 1) 0 rfl ux2 _ f1 Tryz.underlying24 rfl h32x2 ?_) | (refine wpList_load_mid_g rfl 30 _ rfl w7.heap.size 0 rfl [vl, vi] _ fs Tryz.underlying30 rfl h2s ?_) | (refine wpList_load_mid rfl 24 _ rfl w.heap.size 0 rfl ux1 _ f0 Tryz.underlying24 rfl h32x1 ?_) | (refine wpList_load_mid rfl 24 _ rfl (w.heap.size + 1) 0 rfl ux2 _ f1 Tryz.underlying24 rfl h32x2 ?_) | (refine wpList_load_mid rfl 30 _ rfl w7.heap.size 0 rfl [vl, vi] _ fs Tryz.underlying30 rfl h2s ?_))
            refine (HLB.out vl vi wb HB.out.sw).mono ?_
            rintro e wc ⟨vb, rfl, hrvb, hbc⟩
            have HC := Lib.hid (HB.out.step hbc)
            have HVB := Lib.hid hrvb
            have HVA := Lib.hid (HVA.out.below hbc)
            have HUB := Lib.hid (HUB.out.below hbc)
            clear hbc f0 f1 fs HB hrvb
            obtain ⟨au, cu, rfl, _⟩ := HUB.out.flat0
            go_wp2_with fail
            refine (HAL.out wc HC.out.st).mono ?_
            rintro e wd ⟨rfl, hbd⟩
            have HD := Lib.hid (HC.out.step hbd)
            have HVA := Lib.hid (HVA.out.below hbd)
            have HVB := Lib.hid (HVB.out.below hbd)
            have HUB := Lib.hid (HUB.out.below hbd)
            clear hbd HC
            have f0 := HD.out.row0
            have f1 := HD.out.row1
            have fs := HD.out.ar.1
            go_wp2_with (first | (refine wpList_store_list rfl 30 _ _ rfl w7.heap.size 0 [vl, vi] rfl rfl 2 rfl HTH8.out h2s HON8.out ?_; rw [HW8.out]) | (refine wpList_load_mid_g rfl 24 _ rfl w.heap.size 0 rfl ux1 _ f0 Tryz.underlying24 rfl h32x1 ?_) | (refine wpList_load_mid_g rfl 24 _ rfl (w.heap.size + 1) 0 rfl ux2 _ f1 Tryz.underlying24 rfl h32x2 ?_) | (refine wpList_load_mid_g rfl 30 _ rfl w7.heap.size 0 rfl [vl, vi] _ fs Tryz.underlying30 rfl h2s ?_) | (refine wpList_load_mid rfl 24 _ rfl w.heap.size 0 rfl ux1 _ f0 Tryz.underlying24 rfl h32x1 ?_) | (refine wpList_load_mid rfl 24 _ rfl (w.heap.size + 1) 0 rfl ux2 _ f1 Tryz.underlying24 rfl h32x2 ?_) | (refine wpList_load_mid rfl 30 _ rfl w7.heap.size 0 rfl [vl, vi] _ fs Tryz.underlying30 rfl h2s ?_))
            refine (HRO2.out vl vi wd HD.out.sw).mono ?_
            rintro e we ⟨rfl, hbe⟩
            have HE := Lib.hid (HD.out.step hbe)
            have HVA := Lib.hid (HVA.out.below hbe)
            have HVB := Lib.hid (HVB.out.below hbe)
            have HUB := Lib.hid (HUB.out.below hbe)
            clear hbe HD f0 f1 fs
            have hoe : (ol == ol) = true := beq_self_eq_true ol
            have f0 := HE.out.row0
            have f1 := HE.out.row1
            have fs := HE.out.ar.1
            go_wp2_with (first | (refine wpList_store_list rfl 30 _ _ rfl w7.heap.size 0 [vl, vi] rfl rfl 2 rfl HTH8.out h2s HON8.out ?_; rw [HW8.out]) | (refine wpList_load_mid_g rfl 24 _ rfl w.heap.size 0 rfl ux1 _ f0 Tryz.underlying24 rfl h32x1 ?_) | (refine wpList_load_mid_g rfl 24 _ rfl (w.heap.size + 1) 0 rfl ux2 _ f1 Tryz.underlying24 rfl h32x2 ?_) | (refine wpList_load_mid_g rfl 30 _ rfl w7.heap.size 0 rfl [vl, vi] _ fs Tryz.underlying30 rfl h2s ?_) | (refine wpList_load_mid rfl 24 _ rfl w.heap.size 0 rfl ux1 _ f0 Tryz.underlying24 rfl h32x1 ?_) | (refine wpList_load_mid rfl 24 _ rfl (w.heap.size + 1) 0 rfl ux2 _ f1 Tryz.underlying24 rfl h32x2 ?_) | (refine wpList_load_mid rfl 30 _ rfl w7.heap.size 0 rfl [vl, vi] _ fs Tryz.underlying30 rfl h2s ?_))
            refine (HRB2.out vl vi va vb we HE.out.sw HVA.out HVB.out).mono ?_
            rintro e wf ⟨vd, rfl, hrd, hbf⟩
            have HF := Lib.hid (HE.out.step hbf)
            have HUB := Lib.hid (HUB.out.below hbf)
            have hsm := rsameids_any _ _ bs bs wf HUB.out hrd HB32.out HB32.out
            rw [decide_eq_true rfl] at hsm
            have HSM := Lib.hid hsm
            clear hbf HE hsm hrd f0 f1 fs
            go_wp2_with fail
            refine HSM.out.mono ?_
            rintro e wg ⟨rfl, hbg⟩
            have HG := Lib.hid (HF.out.st.step hbg)
            clear hbg HF
            go_wp2
            go_ret
            exact ⟨rfl, HG.out.bel⟩
end Go.Proofs.YtbmiiiccnoiffaaGreatDoor
namespace Go.Proofs.YtbmiiiccnoiffaaGreatDoor
open Go.RowKit
theorem wpList_buildSlice_one_g {P : Program} {w : World} {ops : Array Oper} {rest : List Oper} {o : Oper} {a : Act} {Q : Exit → Act → World → Prop} (hw : Region.wanted o (yielded ops a.tmps) = true) (x : Operand) (t e : TypeId) (hop : o.op = .buildSlice t 1 #[(0, x)])
    (cs : List Value) (zs : Array Value) (hx : a.eval x = .agg cs.toArray) (ht : P.underlying t = some (.slice e)) (hsz : ∀ w, (sizeOf e).run P w = .ok cs.length w) (hz : ∀ w, (zeroValue e).run P w = .ok (.agg zs) w)
    (hpos : 0 < cs.length) (hlim : cs.length ≤ 1000) (hK : wpList P ops Q rest (a.put o.dst (.slice (some ⟨w.heap.size, 0, none⟩) 1 1)) (w.alloc (.cells cs.toArray e))) : wpList P ops Q (o :: rest) a w := by
  refine wpList_step fun K hK' => ?_
  rw [if_pos hw]
  have hrun := run_buildSlice_one w t e cs zs ht hsz hz hpos hlim
  unfold Oper.wp
  have he : (execOp a.eval o).run P w = .ok (.value (.slice (some ⟨w.heap.size, 0, none⟩) 1 1)) (w.alloc (.cells cs.toArray e)) := by
    unfold execOp
    simp only [hop, List.map_toArray, List.map_cons, List.map_nil, hx, Sem.run_bind, hrun, Result.andThen_ok, Sem.run_pure]
  rw [he]
  exact hK' _ _ hK
set_option maxRecDepth 100000 in
set_option maxHeartbeats 8000000 in
theorem hboth_walk (v : Value) (l : List Ob) (x1 x2 : Idl) (w : World) (hv : ObRow w v l) (hL : Laid w) (hx1 : x1.length = 32) (hx2 : x2.length = 32) :
    Calls Tryz.prog 7 #[v, .agg (idC x1).toArray, .agg (idC x2).toArray] w fun e w' => e = .returned (.bool true) ∧ Below w.heap.size w w' := by
  have h32x1 := h32_of (us := idC x1) (by rw [idC_len, hx1])
  have h32x2 := h32_of (us := idC x2) (by rw [idC_len, hx2])
  obtain ⟨W, hW⟩ : ∃ W, (w.alloc (.cells (idC x1).toArray 24)).alloc (.cells (idC x2).toArray 24) = W := ⟨_, rfl⟩
  have hbW : Below w.heap.size w W := by rw [← hW]; exact ((Below.refl _ _).alloc (Nat.le_refl _) _).alloc (by simp) _
  have st : Hid (StH w v l W) := Lib.hid (StH.step ⟨hv, hL, Below.refl _ _⟩ hbW)
  have HRx1 : Hid (W.rangeAt w.heap.size 0 (idC x1)) := Lib.hid (by rw [← hW]; exact rangeAt_below (range_new w (idC x1) 24 rfl) ((Below.refl _ _).alloc (Nat.le_refl _) _) (by simp))
  have HRx2 : Hid (W.rangeAt (w.heap.size + 1) 0 (idC x2)) := Lib.hid (by rw [← hW]; exact range_new _ _ _ (by simp))
  have HSW : Hid (W.heap.size = w.heap.size + 1 + 1) := Lib.hid (by rw [← hW]; simp)
  have HW := Lib.hid hW
  have HIDx1 := Lib.hid hx1
  have HIDx2 := Lib.hid hx2
  have HAL := Lib.hid (fun W (h : StH w v l W) => alive28_any W h.ld)
  have HGR := Lib.hid (fun W (h : StH w v l W) => rgreat_any v l W h.row)
  have HCL := Lib.hid (fun W (h : StH w v l W) => clash28_any v l W h.row)
  clear hbW hL hW hv hx1 hx2
  generalize hux1 : idC x1 = ux1 at h32x1 HRx1 HW
  have HIAx1 := Lib.hid hux1
  clear hux1
  generalize hux2 : idC x2 = ux2 at h32x2 HRx2 HW
  have HIAx2 := Lib.hid hux2
  clear hux2
  cases hg : obGreat l with
  | true =>
    rw [hg] at HGR
    clear hg
    go_enter Tryz.func7, Tryz.ntmps7
    go_wp2_with fail
    rw [HW.out]
    refine (HAL.out W st.out).mono ?_
    rintro e w1 ⟨rfl, hb1⟩
    have st1 := Lib.hid (st.out.step hb1)
    clear hb1
    go_wp2_with fail
    refine (HGR.out w1 st1.out).mono ?_
    rintro e w2 ⟨rfl, rfl⟩
    go_wp2_with fail
    refine (HAL.out _ st1.out).mono ?_
    rintro e w3 ⟨rfl, hb3⟩
    have st3 := Lib.hid (st1.out.step hb3)
    clear hb3
    go_wp2
    go_ret
    exact ⟨rfl, st3.out.bel⟩
  | false =>
    rw [hg] at HGR
    have hn := obGreat_40 hg
    clear hg
    cases hc : clashB l with
    | true =>
      rw [hc] at HCL
      clear hc
      go_enter Tryz.func7, Tryz.ntmps7
      go_wp2_with fail
      rw [HW.out]
      refine (HAL.out W st.out).mono ?_
      rintro e w1 ⟨rfl, hb1⟩
      have st1 := Lib.hid (st.out.step hb1)
      clear hb1
      go_wp2_with fail
      refine (HGR.out w1 st1.out).mono ?_
      rintro e w2 ⟨rfl, rfl⟩
      go_wp2_with fail
      refine (HCL.out _ st1.out).mono ?_
      rintro e w3 ⟨rfl, hb3⟩
      have st3 := Lib.hid (st1.out.step hb3)
      clear hb3
      go_wp2_with fail
      refine (HAL.out _ st3.out).mono ?_
      rintro e w4 ⟨rfl, hb4⟩
      have st4 := Lib.hid (st3.out.step hb4)
      clear hb4
      go_wp2
      go_ret
      exact ⟨rfl, st4.out.bel⟩
    | false =>
      rw [hc] at HCL
      have HLG : Hid (lastS l = getS l) := Lib.hid (funext fun x => last_get hc x)
      clear hc
      have HOF := Lib.hid (fun W (h : StH w v l W) => oof_any v l W h.row (by omega) h.ld)
      rw [HLG.out] at HOF
      have HRO := Lib.hid (fun W (h : StH w v l W) => rof_any v l W h.row (by omega))
      have HRN := Lib.hid (fun vl vi W (hs : SrcRow W (.agg #[vl, vi]) l) => rround_any vl vi l (by omega) W hs)
      obtain ⟨U, hU⟩ : ∃ U, U = (rights l).map idO := ⟨_, rfl⟩
      have HU : Hid (CmOk (cmG (getS l)) U) := Lib.hid (by rw [hU]; exact cmOk (by omega))
      have HROW : Hid (∀ X, Below W.heap.size W X → ∀ p ∈ [(w.heap.size, ux1), (w.heap.size + 1, ux2)], X.rangeAt p.1 0 p.2 ∧ p.1 < X.heap.size) := Lib.hid (fun X hX p hp => by
        have hsz := hX.size
        have hsw := HSW.out
        rcases List.mem_cons.1 hp with rfl | hp
        · exact ⟨rangeAt_below HRx1.out hX (by omega), by show w.heap.size < _; omega⟩
        · rw [List.mem_singleton.1 hp]
          exact ⟨rangeAt_below HRx2.out hX (by omega), by show w.heap.size + 1 < _; omega⟩)
      clear hU HLG
      go_enter Tryz.func7, Tryz.ntmps7
      go_wp2_with fail
      rw [HW.out]
      refine (HAL.out W st.out).mono ?_
      rintro e w1 ⟨rfl, hb1⟩
      have st1 := Lib.hid (st.out.step hb1)
      have HB1 := Lib.hid hb1
      clear hb1 HW
      go_wp2_with fail
      refine (HGR.out w1 st1.out).mono ?_
      rintro e w2 ⟨rfl, rfl⟩
      go_wp2_with fail
      refine (HCL.out _ st1.out).mono ?_
      rintro e w3 ⟨rfl, hb3⟩
      have st3 := Lib.hid (st1.out.step hb3)
      have HB3 := Lib.hid (HB1.out.trans (hb3.mono HB1.out.size))
      clear hb3
      go_wp2_with fail
      refine (HRO.out _ st3.out).mono ?_
      intro e w4 h
      obtain ⟨vl0, vi0, rfl, ho1, ho2, hb4⟩ := h
      have st4 := Lib.hid (st3.out.step hb4)
      have HB4 := Lib.hid (HB3.out.trans (hb4.mono HB3.out.size))
      have HSR4 : Hid (SrcRow w4 (.agg #[vl0, vi0]) l) := Lib.hid ⟨vl0, vi0, rfl, ho1, ho2⟩
      clear hb4 ho1 ho2
      go_wp2_with fail
      refine (HRN.out vl0 vi0 w4 HSR4.out).mono ?_
      intro e w5 h
      obtain ⟨b, rfl, hac, hb5⟩ := h
      have st5 := Lib.hid (st4.out.step hb5)
      have HB5 := Lib.hid (HB4.out.trans (hb5.mono HB4.out.size))
      have HAC := Lib.hid hac
      clear hb5 hac HSR4
      cases b with
      | true =>
        go_wp2_with fail
        refine (HAL.out _ st5.out).mono ?_
        rintro e w6 ⟨rfl, hb6⟩
        have st6 := Lib.hid (st5.out.step hb6)
        clear hb6
        go_wp2
        go_ret
        exact ⟨rfl, st6.out.bel⟩
      | false =>
        have HACY : Hid (Acyc (cmG (getS l))) := Lib.hid (HAC.out rfl)
        clear HAC
        go_wp2_with fail
        refine (HOF.out w5 st5.out).mono ?_
        intro e w6 h
        obtain ⟨r, rfl, hsr, hb6⟩ := h
        have H6 : Hid (HSp w v l r [(w.heap.size, ux1), (w.heap.size + 1, ux2)] w6) := Lib.hid ⟨st5.out.step hb6, hsr, HROW.out w6 (HB5.out.trans (hb6.mono HB5.out.size))⟩
        clear hb6 hsr
        clear HRO HRN HOF HGR HCL st st1 st3 st4 st5 HB1 HB3 HB4 HB5 HROW
        cases hla : lineL (cmG (getS l)) x1 with
        | none =>
          cases hlb : lineL (cmG (getS l)) x2 with
          | none =>
            have hba := bas_no HU.out HIDx1.out HIDx2.out (.inl hla)
            have hbb := bas_no HU.out HIDx2.out HIDx1.out (.inl hlb)
            rw [HIAx1.out, HIAx2.out] at hba hbb
            have HBA := Lib.hid hba
            have HBB := Lib.hid hbb
            have HSM := Lib.hid (fun W => rsameids_any (.slice none 0 0) (.slice none 0 0) [] [] W (ids_nil _) (ids_nil _) (by simp) (by simp))
            clear hba hbb hla hlb
            have f0 := H6.out.row0
            have f1 := H6.out.row1
            go_wp2_with (first | (refine wpList_load_mid_g rfl 24 _ rfl w.heap.size 0 rfl ux1 _ f0 Tryz.underlying24 rfl h32x1 ?_) | (refine wpList_load_mid_g rfl 24 _ rfl (w.heap.size + 1) 0 rfl ux2 _ f1 Tryz.underlying24 rfl h32x2 ?_) | (refine wpList_load_mid rfl 24 _ rfl w.heap.size 0 rfl ux1 _ f0 Tryz.underlying24 rfl h32x1 ?_) | (refine wpList_load_mid rfl 24 _ rfl (w.heap.size + 1) 0 rfl ux2 _ f1 Tryz.underlying24 rfl h32x2 ?_))
            refine (HBA.out r w6 H6.out.sr).mono ?_
            rintro e w7 ⟨rfl, hb7⟩
            have H7 := Lib.hid (H6.out.step hb7)
            clear hb7 f0 f1 H6
            have f0 := H7.out.row0
            have f1 := H7.out.row1
            go_wp2_with (first | (refine wpList_load_mid_g rfl 24 _ rfl w.heap.size 0 rfl ux1 _ f0 Tryz.underlying24 rfl h32x1 ?_) | (refine wpList_load_mid_g rfl 24 _ rfl (w.heap.size + 1) 0 rfl ux2 _ f1 Tryz.underlying24 rfl h32x2 ?_) | (refine wpList_load_mid rfl 24 _ rfl w.heap.size 0 rfl ux1 _ f0 Tryz.underlying24 rfl h32x1 ?_) | (refine wpList_load_mid rfl 24 _ rfl (w.heap.size + 1) 0 rfl ux2 _ f1 Tryz.underlying24 rfl h32x2 ?_))
            refine (HBB.out r w7 H7.out.sr).mono ?_
            rintro e w8 ⟨rfl, hb8⟩
            have H8 := Lib.hid (H7.out.step hb8)
            clear hb8 f0 f1 H7
            go_wp2_with fail
            refine (HSM.out w8).mono ?_
            rintro e w9 ⟨rfl, hb9⟩
            have H9 := Lib.hid (H8.out.step hb9)
            clear hb9 H8
            go_wp2_with fail
            refine (HAL.out w9 H9.out.st).mono ?_
            rintro e wa ⟨rfl, hba⟩
            have HA := Lib.hid (H9.out.st.step hba)
            clear hba H9
            go_wp2
            go_ret
            exact ⟨rfl, HA.out.bel⟩
          | some B =>
            have hba := bas_no HU.out HIDx1.out HIDx2.out (.inl hla)
            have hbb := bas_no HU.out HIDx2.out HIDx1.out (.inr hla)
            rw [HIAx1.out, HIAx2.out] at hba hbb
            have HBA := Lib.hid hba
            have HBB := Lib.hid hbb
            have HSM := Lib.hid (fun W => rsameids_any (.slice none 0 0) (.slice none 0 0) [] [] W (ids_nil _) (ids_nil _) (by simp) (by simp))
            clear hba hbb hla hlb
            have f0 := H6.out.row0
            have f1 := H6.out.row1
            go_wp2_with (first | (refine wpList_load_mid_g rfl 24 _ rfl w.heap.size 0 rfl ux1 _ f0 Tryz.underlying24 rfl h32x1 ?_) | (refine wpList_load_mid_g rfl 24 _ rfl (w.heap.size + 1) 0 rfl ux2 _ f1 Tryz.underlying24 rfl h32x2 ?_) | (refine wpList_load_mid rfl 24 _ rfl w.heap.size 0 rfl ux1 _ f0 Tryz.underlying24 rfl h32x1 ?_) | (refine wpList_load_mid rfl 24 _ rfl (w.heap.size + 1) 0 rfl ux2 _ f1 Tryz.underlying24 rfl h32x2 ?_))
            refine (HBA.out r w6 H6.out.sr).mono ?_
            rintro e w7 ⟨rfl, hb7⟩
            have H7 := Lib.hid (H6.out.step hb7)
            clear hb7 f0 f1 H6
            have f0 := H7.out.row0
            have f1 := H7.out.row1
            go_wp2_with (first | (refine wpList_load_mid_g rfl 24 _ rfl w.heap.size 0 rfl ux1 _ f0 Tryz.underlying24 rfl h32x1 ?_) | (refine wpList_load_mid_g rfl 24 _ rfl (w.heap.size + 1) 0 rfl ux2 _ f1 Tryz.underlying24 rfl h32x2 ?_) | (refine wpList_load_mid rfl 24 _ rfl w.heap.size 0 rfl ux1 _ f0 Tryz.underlying24 rfl h32x1 ?_) | (refine wpList_load_mid rfl 24 _ rfl (w.heap.size + 1) 0 rfl ux2 _ f1 Tryz.underlying24 rfl h32x2 ?_))
            refine (HBB.out r w7 H7.out.sr).mono ?_
            rintro e w8 ⟨rfl, hb8⟩
            have H8 := Lib.hid (H7.out.step hb8)
            clear hb8 f0 f1 H7
            go_wp2_with fail
            refine (HSM.out w8).mono ?_
            rintro e w9 ⟨rfl, hb9⟩
            have H9 := Lib.hid (H8.out.step hb9)
            clear hb9 H8
            go_wp2_with fail
            refine (HAL.out w9 H9.out.st).mono ?_
            rintro e wa ⟨rfl, hba⟩
            have HA := Lib.hid (H9.out.st.step hba)
            clear hba H9
            go_wp2
            go_ret
            exact ⟨rfl, HA.out.bel⟩
        | some A =>
          cases hlb : lineL (cmG (getS l)) x2 with
          | none =>
            have hba := bas_no HU.out HIDx1.out HIDx2.out (.inr hlb)
            have hbb := bas_no HU.out HIDx2.out HIDx1.out (.inl hlb)
            rw [HIAx1.out, HIAx2.out] at hba hbb
            have HBA := Lib.hid hba
            have HBB := Lib.hid hbb
            have HSM := Lib.hid (fun W => rsameids_any (.slice none 0 0) (.slice none 0 0) [] [] W (ids_nil _) (ids_nil _) (by simp) (by simp))
            clear hba hbb hla hlb
            have f0 := H6.out.row0
            have f1 := H6.out.row1
            go_wp2_with (first | (refine wpList_load_mid_g rfl 24 _ rfl w.heap.size 0 rfl ux1 _ f0 Tryz.underlying24 rfl h32x1 ?_) | (refine wpList_load_mid_g rfl 24 _ rfl (w.heap.size + 1) 0 rfl ux2 _ f1 Tryz.underlying24 rfl h32x2 ?_) | (refine wpList_load_mid rfl 24 _ rfl w.heap.size 0 rfl ux1 _ f0 Tryz.underlying24 rfl h32x1 ?_) | (refine wpList_load_mid rfl 24 _ rfl (w.heap.size + 1) 0 rfl ux2 _ f1 Tryz.underlying24 rfl h32x2 ?_))
            refine (HBA.out r w6 H6.out.sr).mono ?_
            rintro e w7 ⟨rfl, hb7⟩
            have H7 := Lib.hid (H6.out.step hb7)
            clear hb7 f0 f1 H6
            have f0 := H7.out.row0
            have f1 := H7.out.row1
            go_wp2_with (first | (refine wpList_load_mid_g rfl 24 _ rfl w.heap.size 0 rfl ux1 _ f0 Tryz.underlying24 rfl h32x1 ?_) | (refine wpList_load_mid_g rfl 24 _ rfl (w.heap.size + 1) 0 rfl ux2 _ f1 Tryz.underlying24 rfl h32x2 ?_) | (refine wpList_load_mid rfl 24 _ rfl w.heap.size 0 rfl ux1 _ f0 Tryz.underlying24 rfl h32x1 ?_) | (refine wpList_load_mid rfl 24 _ rfl (w.heap.size + 1) 0 rfl ux2 _ f1 Tryz.underlying24 rfl h32x2 ?_))
            refine (HBB.out r w7 H7.out.sr).mono ?_
            rintro e w8 ⟨rfl, hb8⟩
            have H8 := Lib.hid (H7.out.step hb8)
            clear hb8 f0 f1 H7
            go_wp2_with fail
            refine (HSM.out w8).mono ?_
            rintro e w9 ⟨rfl, hb9⟩
            have H9 := Lib.hid (H8.out.step hb9)
            clear hb9 H8
            go_wp2_with fail
            refine (HAL.out w9 H9.out.st).mono ?_
            rintro e wa ⟨rfl, hba⟩
            have HA := Lib.hid (H9.out.st.step hba)
            clear hba H9
            go_wp2
            go_ret
            exact ⟨rfl, HA.out.bel⟩
          | some B =>
            obtain ⟨zi, i0, hi, hz0, hz1, hz2, hzi, hzil⟩ := id_zero
            clear hi hz0 hz1 hz2 hzil
            have hba := bas_yes HU.out HIDx1.out HIDx2.out hla hlb
            have hbb := bas_yes HU.out HIDx2.out HIDx1.out hlb hla
            have hol := old_yes HU.out HIDx1.out HIDx2.out hla hlb
            have hli := lin_yes HU.out HIDx1.out hla
            have hlj := lin_yes HU.out HIDx2.out hlb
            rw [bases_comm hlb hla] at hbb
            have heq := id_eqIn x1 x2 HIDx1.out HIDx2.out
            rw [HIAx1.out, HIAx2.out] at hba hbb hol heq
            rw [HIAx1.out] at hli
            rw [HIAx2.out] at hlj
            have HBA := Lib.hid hba
            have HBB := Lib.hid hbb
            have HOL := Lib.hid hol
            have HLI := Lib.hid hli
            have HLJ := Lib.hid hlj
            have H32A : Hid (∀ y ∈ A, y.length = 32) := Lib.hid (lineL_32 HU.out hla).1
            have H32B : Hid (∀ y ∈ B, y.length = 32) := Lib.hid (lineL_32 HU.out hlb).1
            have HB32 : Hid (∀ y ∈ basesL (cmG (getS l)) A B, y.length = 32) := Lib.hid (fun y hy => (lineL_32 HU.out hla).1 y (bases_sub hy))
            have HDL : Hid ((basesL (cmG (getS l)) A B).length ≤ 1000) := Lib.hid (Nat.le_trans (List.length_filter_le _ _) (lineL_32 HU.out hla).2.1)
            have HAL2 : Hid (A.length ≤ 1000) := Lib.hid (lineL_32 HU.out hla).2.1
            have HFINE : Hid (∀ x, x ∈ A → x ∈ B → ((basesL (cmG (getS l)) A B).contains x || (basesL (cmG (getS l)) A B).any (olderL (cmG (getS l)) x)) = true) := Lib.hid (fun x h1 h2 => both_fine HACY.out hla hlb h1 h2)
            have HONE : Hid ((olderL (cmG (getS l)) x1 x2 || (x1 == x2)) = true → basesL (cmG (getS l)) A B = [x1]) := Lib.hid (fun h => bases_one HACY.out hla hlb (by
              rw [Bool.or_eq_true] at h
              rcases h with h | h
              · exact .inl h
              · exact .inr (by simpa using h)))
            have HOLD : Hid (∀ x, x ∈ A → ∀ y, y ∈ basesL (cmG (getS l)) A B → ∀ W, SrcP W r (getS l) → Calls Tryz.prog 29 #[r, .agg (idC x).toArray, .agg (idC y).toArray] W fun e w' => e = .returned (.tuple #[.bool (olderL (cmG (getS l)) x y), .int .i64 0]) ∧ Below W.heap.size W w') := Lib.hid (fun x hx y hy W hW => by
              obtain ⟨X, hX⟩ := lineL_sub hla hx
              obtain ⟨Y, hY⟩ := lineL_sub hla (bases_sub hy)
              exact old_yes HU.out ((lineL_32 HU.out hla).1 x hx) ((lineL_32 HU.out hla).1 y (bases_sub hy)) hX hY r W hW)
            have HSZ : Hid (∀ w, (sizeOf 24).run Tryz.prog w = .ok ux1.length w) := Lib.hid (fun w => by rw [← HIAx1.out, idC_len, HIDx1.out]; kernel_rfl)
            have HUL : Hid (ux1.length = 32) := Lib.hid (by rw [← HIAx1.out, idC_len, HIDx1.out])
            have HUI : Hid (∀ w : World, IdRow (w.alloc (.cells ux1.toArray 24)) (.slice (some ⟨w.heap.size, 0, none⟩) 1 1) [x1]) := Lib.hid (fun w => by
              have h := ownQ_new w ux1 24 HUL.out (B := w.heap.size) (Nat.le_refl _)
              exact OwnQ.row (l := [x1]) (B := w.heap.size) (by rw [show idsF [x1] = ux1 from by rw [← HIAx1.out]; simp [idsF]]; exact h) (fun y hy => by rw [List.mem_singleton.1 hy]; exact HIDx1.out))
            clear hba hbb hol hli hlj hla hlb
            generalize basesL (cmG (getS l)) A B = D at HBA HBB HB32 HDL HFINE HONE HOLD
            have HSM := Lib.hid (fun W va vb (ha : IdRow W va D) (hb : IdRow W vb D) => rsameids_any va vb D D W ha hb HB32.out HB32.out)
            have hdd : decide (D = D) = true := decide_eq_true rfl
            rw [hdd] at HSM
            clear hdd
            have f0 := H6.out.row0
            have f1 := H6.out.row1
            go_wp2_with (first | (refine wpList_load_mid_g rfl 24 _ rfl w.heap.size 0 rfl ux1 _ f0 Tryz.underlying24 rfl h32x1 ?_) | (refine wpList_load_mid_g rfl 24 _ rfl (w.heap.size + 1) 0 rfl ux2 _ f1 Tryz.underlying24 rfl h32x2 ?_) | (refine wpList_load_mid rfl 24 _ rfl w.heap.size 0 rfl ux1 _ f0 Tryz.underlying24 rfl h32x1 ?_) | (refine wpList_load_mid rfl 24 _ rfl (w.heap.size + 1) 0 rfl ux2 _ f1 Tryz.underlying24 rfl h32x2 ?_))
            refine (HBA.out r w6 H6.out.sr).mono ?_
            rintro e w7 ⟨va, rfl, hra, hb7⟩
            have H7 := Lib.hid (H6.out.step hb7)
            have HVA := Lib.hid hra
            clear hb7 f0 f1 H6 hra
            have f0 := H7.out.row0
            have f1 := H7.out.row1
            go_wp2_with (first | (refine wpList_load_mid_g rfl 24 _ rfl w.heap.size 0 rfl ux1 _ f0 Tryz.underlying24 rfl h32x1 ?_) | (refine wpList_load_mid_g rfl 24 _ rfl (w.heap.size + 1) 0 rfl ux2 _ f1 Tryz.underlying24 rfl h32x2 ?_) | (refine wpList_load_mid rfl 24 _ rfl w.heap.size 0 rfl ux1 _ f0 Tryz.underlying24 rfl h32x1 ?_) | (refine wpList_load_mid rfl 24 _ rfl (w.heap.size + 1) 0 rfl ux2 _ f1 Tryz.underlying24 rfl h32x2 ?_))
            refine (HBB.out r w7 H7.out.sr).mono ?_
            rintro e w8 ⟨vb, rfl, hrb, hb8⟩
            have H8 := Lib.hid (H7.out.step hb8)
            have HVA := Lib.hid (HVA.out.below hb8)
            have HS := Lib.hid (HSM.out w8 va vb HVA.out hrb)
            clear hb8 f0 f1 H7 hrb
            go_wp2_with fail
            refine HS.out.mono ?_
            rintro e w9 ⟨rfl, hb9⟩
            have H9 := Lib.hid (H8.out.step hb9)
            have HVA := Lib.hid (HVA.out.below hb9)
            clear hb9 H8 HS
            have f0 := H9.out.row0
            have f1 := H9.out.row1
            go_wp2_with (first | (refine wpList_load_mid_g rfl 24 _ rfl w.heap.size 0 rfl ux1 _ f0 Tryz.underlying24 rfl h32x1 ?_) | (refine wpList_load_mid_g rfl 24 _ rfl (w.heap.size + 1) 0 rfl ux2 _ f1 Tryz.underlying24 rfl h32x2 ?_) | (refine wpList_load_mid rfl 24 _ rfl w.heap.size 0 rfl ux1 _ f0 Tryz.underlying24 rfl h32x1 ?_) | (refine wpList_load_mid rfl 24 _ rfl (w.heap.size + 1) 0 rfl ux2 _ f1 Tryz.underlying24 rfl h32x2 ?_))
            refine (HOL.out r w9 H9.out.sr).mono ?_
            rintro e wa ⟨rfl, hba⟩
            have HA := Lib.hid (H9.out.step hba)
            have HVA := Lib.hid (HVA.out.below hba)
            clear hba f0 f1 H9
            obtain ⟨exy, hexy⟩ : ∃ b, (x1 == x2) = b := ⟨_, rfl⟩
            rw [hexy] at heq HONE
            obtain ⟨ol, hoe⟩ : ∃ b, olderL (cmG (getS l)) x1 x2 = b := ⟨_, rfl⟩
            rw [hoe] at HONE ⊢
            clear hexy hoe
            have H32X1 := Lib.hid HIDx1.out
            go_upto_region 13 with fail
            go_cut [89] from 77 to 89 (fun s89 wx => s89 = .bool false ∧ Hid (Below wa.heap.size wa wx))
            case first =>
              have hbn : Below wa.heap.size wa (wa.alloc (.cells ux1.toArray 24)) := (Below.refl _ _).alloc (Nat.le_refl _) _
              have f0 := HA.out.row0
              have f1 := HA.out.row1
              cases ol with
              | true =>
                have hs := HSM.out (wa.alloc (.cells ux1.toArray 24)) va (.slice (some ⟨wa.heap.size, 0, none⟩) 1 1) (HVA.out.below hbn) (by rw [HONE.out rfl]; exact HUI.out wa)
                have HS := Lib.hid hs
                have HBN := Lib.hid hbn
                clear hs hbn heq HONE HFINE HOLD
                go_wp2_with (first | (refine wpList_buildSlice_one_g rfl (.tmp 85) 28 24 rfl ux1 zi rfl Tryz.underlying28 HSZ.out hzi (by rw [HUL.out]; omega) (by rw [HUL.out]; omega) ?_) | (refine wpList_load_mid_g rfl 24 _ rfl w.heap.size 0 rfl ux1 _ f0 Tryz.underlying24 rfl h32x1 ?_) | (refine wpList_load_mid_g rfl 24 _ rfl (w.heap.size + 1) 0 rfl ux2 _ f1 Tryz.underlying24 rfl h32x2 ?_) | (refine wpList_load_mid rfl 24 _ rfl w.heap.size 0 rfl ux1 _ f0 Tryz.underlying24 rfl h32x1 ?_) | (refine wpList_load_mid rfl 24 _ rfl (w.heap.size + 1) 0 rfl ux2 _ f1 Tryz.underlying24 rfl h32x2 ?_))
                refine HS.out.mono ?_
                rintro e wb ⟨rfl, hbb⟩
                have HEND := Lib.hid (HBN.out.trans (hbb.mono HBN.out.size))
                clear hbb f0 f1
                go_wp2
                go_meet
                exact ⟨rfl, HEND⟩
              | false =>
                cases exy with
                | true =>
                  have hs := HSM.out (wa.alloc (.cells ux1.toArray 24)) va (.slice (some ⟨wa.heap.size, 0, none⟩) 1 1) (HVA.out.below hbn) (by rw [HONE.out rfl]; exact HUI.out wa)
                  have HS := Lib.hid hs
                  have HBN := Lib.hid hbn
                  clear hs hbn HONE HFINE HOLD
                  go_wp2_with (first | (refine wpList_buildSlice_one_g rfl (.tmp 85) 28 24 rfl ux1 zi rfl Tryz.underlying28 HSZ.out hzi (by rw [HUL.out]; omega) (by rw [HUL.out]; omega) ?_) | (refine wpList_load_mid_g rfl 24 _ rfl w.heap.size 0 rfl ux1 _ f0 Tryz.underlying24 rfl h32x1 ?_) | (refine wpList_load_mid_g rfl 24 _ rfl (w.heap.size + 1) 0 rfl ux2 _ f1 Tryz.underlying24 rfl h32x2 ?_) | (refine wpList_load_mid rfl 24 _ rfl w.heap.size 0 rfl ux1 _ f0 Tryz.underlying24 rfl h32x1 ?_) | (refine wpList_load_mid rfl 24 _ rfl (w.heap.size + 1) 0 rfl ux2 _ f1 Tryz.underlying24 rfl h32x2 ?_))
                  refine HS.out.mono ?_
                  rintro e wb ⟨rfl, hbb⟩
                  have HEND := Lib.hid (HBN.out.trans (hbb.mono HBN.out.size))
                  clear hbb f0 f1 heq
                  go_wp2
                  go_meet
                  exact ⟨rfl, HEND⟩
                | false =>
                  clear hbn HONE HFINE HOLD
                  go_wp2_with (first | (refine wpList_buildSlice_one_g rfl (.tmp 85) 28 24 rfl ux1 zi rfl Tryz.underlying28 HSZ.out hzi (by rw [HUL.out]; omega) (by rw [HUL.out]; omega) ?_) | (refine wpList_load_mid_g rfl 24 _ rfl w.heap.size 0 rfl ux1 _ f0 Tryz.underlying24 rfl h32x1 ?_) | (refine wpList_load_mid_g rfl 24 _ rfl (w.heap.size + 1) 0 rfl ux2 _ f1 Tryz.underlying24 rfl h32x2 ?_) | (refine wpList_load_mid rfl 24 _ rfl w.heap.size 0 rfl ux1 _ f0 Tryz.underlying24 rfl h32x1 ?_) | (refine wpList_load_mid rfl 24 _ rfl (w.heap.size + 1) 0 rfl ux2 _ f1 Tryz.underlying24 rfl h32x2 ?_))
                  go_meet
                  exact ⟨rfl, Lib.hid (Below.refl _ _)⟩
            case rest =>
              obtain ⟨rfl, HBC⟩ := hcut
              have HC := Lib.hid (HA.out.step HBC.out)
              have HVA := Lib.hid (HVA.out.below HBC.out)
              clear HA HBC heq HONE
              have f0 := HC.out.row0
              have f1 := HC.out.row1
              go_wp2_with (first | (refine wpList_buildSlice_one_g rfl (.tmp 85) 28 24 rfl ux1 zi rfl Tryz.underlying28 HSZ.out hzi (by rw [HUL.out]; omega) (by rw [HUL.out]; omega) ?_) | (refine wpList_load_mid_g rfl 24 _ rfl w.heap.size 0 rfl ux1 _ f0 Tryz.underlying24 rfl h32x1 ?_) | (refine wpList_load_mid_g rfl 24 _ rfl (w.heap.size + 1) 0 rfl ux2 _ f1 Tryz.underlying24 rfl h32x2 ?_) | (refine wpList_load_mid rfl 24 _ rfl w.heap.size 0 rfl ux1 _ f0 Tryz.underlying24 rfl h32x1 ?_) | (refine wpList_load_mid rfl 24 _ rfl (w.heap.size + 1) 0 rfl ux2 _ f1 Tryz.underlying24 rfl h32x2 ?_))
              refine (HLI.out r wc HC.out.sr).mono ?_
              rintro e wd ⟨v1, rfl, hr1, hbd⟩
              have HD := Lib.hid (HC.out.step hbd)
              have HVA := Lib.hid (HVA.out.below hbd)
              have HV1 := Lib.hid hr1
              clear hbd f0 f1 HC hr1
              have f0 := HD.out.row0
              have f1 := HD.out.row1
              go_wp2_with (first | (refine wpList_buildSlice_one_g rfl (.tmp 85) 28 24 rfl ux1 zi rfl Tryz.underlying28 HSZ.out hzi (by rw [HUL.out]; omega) (by rw [HUL.out]; omega) ?_) | (refine wpList_load_mid_g rfl 24 _ rfl w.heap.size 0 rfl ux1 _ f0 Tryz.underlying24 rfl h32x1 ?_) | (refine wpList_load_mid_g rfl 24 _ rfl (w.heap.size + 1) 0 rfl ux2 _ f1 Tryz.underlying24 rfl h32x2 ?_) | (refine wpList_load_mid rfl 24 _ rfl w.heap.size 0 rfl ux1 _ f0 Tryz.underlying24 rfl h32x1 ?_) | (refine wpList_load_mid rfl 24 _ rfl (w.heap.size + 1) 0 rfl ux2 _ f1 Tryz.underlying24 rfl h32x2 ?_))
              refine (HLJ.out r wd HD.out.sr).mono ?_
              rintro e we ⟨v2, rfl, hr2, hbe⟩
              have HE := Lib.hid (HD.out.step hbe)
              have HVA := Lib.hid (HVA.out.below hbe)
              have HV1 := Lib.hid (HV1.out.below hbe)
              have HV2 := Lib.hid hr2
              clear hbe f0 f1 HD hr2
              obtain ⟨aa, ca, rfl, hma, hca⟩ := HV1.out.open
              obtain ⟨ad, cd, rfl, hmd, hcd⟩ := HVA.out.open
              have HCA := Lib.hid hca
              have HCD := Lib.hid hcd
              have hal := HAL2.out
              have hdl := HDL.out
              clear hca hcd hma hmd
              go_wp2
              go_loopw [18] (fun i wr => ∃ k : Nat, i = .int .i64 (k : Int) ∧ k ≤ A.length ∧ Below we.heap.size we wr) (fun i _ => (A.length - intOf i).toNat)
              case atStart => exact ⟨0, rfl, by omega, Below.refl _ _⟩
              case round =>
                obtain ⟨wo, rfl⟩ : ∃ wo : World, wo = wr := ⟨_, rfl⟩
                obtain ⟨k, rfl, hk, hb⟩ := hrel
                have HB := Lib.hid hb
                have hszo := hb.size
                by_cases hlt : k < A.length
                · obtain ⟨bt, off, rfl, hbl, hcell⟩ := HCA.out (by intro e; rw [e] at hlt; simp at hlt)
                  obtain ⟨x, hx⟩ : ∃ x, A[k] = x := ⟨_, rfl⟩
                  have hxA : x ∈ A := by rw [← hx]; exact List.getElem_mem hlt
                  have hxl : x.length = 32 := H32A.out x hxA
                  have h32x := h32_of (us := idC x) (by rw [idC_len, hxl])
                  have fe := hcell k hlt
                  rw [hx] at fe
                  have fx := rangeAt_below fe hb hbl
                  have HFE := Lib.hid fe
                  have hin := rin_any v2 B x wo (HV2.out.below hb) H32B.out hxl
                  have hind := fun W (h : Below we.heap.size we W) => rin_any (.slice ad D.length cd) D x W (HVA.out.below h) HB32.out hxl
                  have HIN := Lib.hid hin
                  have HIND := Lib.hid hind
                  have HXA := Lib.hid hxA
                  have hfine : x ∈ B → (D.contains x || D.any (olderL (cmG (getS l)) x)) = true := HFINE.out x hxA
                  have HFX : Hid (B.contains x = true → (D.contains x || D.any (olderL (cmG (getS l)) x)) = true) := Lib.hid (fun h => hfine (by simpa using h))
                  have HOX := Lib.hid (HOLD.out x hxA)
                  have k0 : (0 : Int) ≤ k := by omega
                  have k1 : (k : Int) < A.length := by omega
                  have d1 : decide ((k : Int) < A.length) = true := decide_eq_true k1
                  clear hb hcell hx hxl hin hind hfine hxA fe
                  generalize hix : idC x = ux at h32x fx HIN HIND HFE HOX
                  clear hix
                  go_wp2_with (refine wpList_load_mid rfl 24 _ rfl bt (off + k * 32) rfl ux _ fx Tryz.underlying24 rfl h32x ?_)
                  refine HIN.out.mono ?_
                  rintro e w9 ⟨rfl, hb9⟩
                  have HB9 := Lib.hid (HB.out.trans (hb9.mono hszo))
                  have hs9 := hb9.size
                  clear hb9 fx HIN
                  generalize B.contains x = inb at HFX ⊢
                  cases inb with
                  | false =>
                    go_wp2
                    go_roundw
                    case rel => exact ⟨k + 1, by go_num, by omega, HB9.out⟩
                    case measure => simp [intOf]; omega
                  | true =>
                    have HFX := Lib.hid (HFX.out rfl)
                    have fx := rangeAt_below HFE.out HB9.out hbl
                    have HIND := Lib.hid (HIND.out w9 HB9.out)
                    go_wp2_with (refine wpList_load_mid rfl 24 _ rfl bt (off + k * 32) rfl ux _ fx Tryz.underlying24 rfl h32x ?_)
                    refine HIND.out.mono ?_
                    rintro e w10 ⟨rfl, hb10⟩
                    have HB10 := Lib.hid (HB9.out.trans (hb10.mono (by omega)))
                    clear hb10 fx HIND HB9
                    generalize D.contains x = ind at HFX ⊢
                    go_wp2
                    go_loopw [19, 20] (fun f i wr => ∃ j : Nat, i = .int .i64 (j : Int) ∧ j ≤ D.length ∧ f = .bool (ind || (D.take j).any (olderL (cmG (getS l)) x)) ∧ Below we.heap.size we wr) (fun _ i _ => (D.length - intOf i).toNat)
                    case atStart => exact ⟨0, rfl, by omega, by simp, HB10.out⟩
                    case round =>
                      obtain ⟨wi, rfl⟩ : ∃ wi : World, wi = wr := ⟨_, rfl⟩
                      obtain ⟨j, rfl, hj, rfl, hbi⟩ := hrel
                      have HBI := Lib.hid hbi
                      have hszi := hbi.size
                      by_cases hjl : j < D.length
                      · obtain ⟨b2, off2, rfl, hbl2, hcell⟩ := HCD.out (by intro e; rw [e] at hjl; simp at hjl)
                        obtain ⟨y, hy⟩ : ∃ y, D[j] = y := ⟨_, rfl⟩
                        have hyD : y ∈ D := by rw [← hy]; exact List.getElem_mem hjl
                        have hyl : y.length = 32 := HB32.out y hyD
                        have h32y := h32_of (us := idC y) (by rw [idC_len, hyl])
                        have fy := rangeAt_below (hcell j hjl) hbi hbl2
                        have fx := rangeAt_below HFE.out hbi hbl
                        have hnx : (ind || (D.take (j + 1)).any (olderL (cmG (getS l)) x)) = ((ind || (D.take j).any (olderL (cmG (getS l)) x)) || olderL (cmG (getS l)) x D[j]) := by
                          rw [List.take_succ_eq_append_getElem hjl, List.any_append, Bool.or_assoc]; simp
                        rw [hy] at fy hnx
                        have HNX := Lib.hid hnx
                        have hsri := (HE.out.step hbi).sr
                        have HOXY := Lib.hid (fun X : BW (World.heap wi).size wi => HOX.out y hyD X.out (hsri.below X.hb))
                        have j0 : (0 : Int) ≤ j := by omega
                        have j1 : (j : Int) < D.length := by omega
                        have d2 : decide ((j : Int) < D.length) = true := decide_eq_true j1
                        have hbw : bt < wi.heap.size := by omega
                        have hbw2 : b2 < wi.heap.size := by omega
                        clear hbi hcell hy hyD hyl hnx hsri
                        generalize (ind || (D.take j).any (olderL (cmG (getS l)) x)) = c at HNX ⊢
                        generalize olderL (cmG (getS l)) x y = oxy at HNX HOXY
                        generalize idC y = uy at h32y fy HOXY
                        go_wp2_with fail
                        refine wp_region_bq (by kernel_rfl) (by kernel_rfl) ?_
                        repeat (go_big_quiet_step ((go_at_call 29; with_reducible exact calls_bw (HOXY.out _))))
                        refine bq_row 24 _ _ rfl rfl rfl fx (by omega) Tryz.underlying24 rfl h32x ?_
                        simp only [Act.put, List.setIfInBounds_toArray, List.set_cons_zero, List.set_cons_succ]
                        repeat (go_big_quiet_step ((go_at_call 29; with_reducible exact calls_bw (HOXY.out _))))
                        refine bq_row 24 _ _ rfl rfl rfl fy (by omega) Tryz.underlying24 rfl h32y ?_
                        simp only [Act.put, List.setIfInBounds_toArray, List.set_cons_zero, List.set_cons_succ]
                        repeat (go_big_quiet_step ((go_at_call 29; with_reducible exact calls_bw (HOXY.out _))))
                        refine wpQuiet_nil ?_
                        intro wq hbq
                        have HBQ := Lib.hid (HBI.out.trans (hbq.mono hszi))
                        clear hbq fx fy HOXY
                        cases c with
                        | true =>
                          go_wp2
                          go_roundw
                          case rel => exact ⟨j + 1, by go_num, by omega, by rw [HNX.out]; rfl, HBQ.out⟩
                          case measure => simp [intOf]; omega
                        | false =>
                          go_wp2
                          go_roundw
                          case rel => exact ⟨j + 1, by go_num, by omega, by rw [HNX.out]; rfl, HBQ.out⟩
                          case measure => simp [intOf]; omega
                      · have hje : j = D.length := by omega
                        have d2 : decide ((j : Int) < D.length) = false := decide_eq_false (by omega)
                        have hfx := HFX.out
                        rw [hje, List.take_length, hfx]
                        clear hbi hje hfx
                        go_wp2
                        go_roundw
                        case rel => exact ⟨k + 1, by go_num, by omega, HBI.out⟩
                        case measure => simp [intOf]; omega
                        all_goals exact trivial
                · have d1 : decide ((k : Int) < A.length) = false := decide_eq_false (by omega)
                  have HSE := Lib.hid ((HE.out.step hb).st)
                  clear hb
                  go_wp2_with fail
                  refine (HAL.out wo HSE.out).mono ?_
                  rintro e wz ⟨rfl, hbz⟩
                  have HZ := Lib.hid (HSE.out.step hbz)
                  clear hbz HSE
                  go_wp2
                  go_ret
                  exact ⟨rfl, HZ.out.bel⟩
end Go.Proofs.YtbmiiiccnoiffaaGreatDoor
