/- The walk of the law DiffTrees. -/
import Derived.Test.YtbmiiiccnoiffaaGreatDoorZ6
import Derived.Test.YtbmiiiccnoiffaaGreatDoorCW27
import Derived.Test.YtbmiiiccnoiffaaGreatDoorJK
namespace Go.Proofs.YtbmiiiccnoiffaaGreatDoor
open Go.RowKit

/-- The law's argument, carried along. -/
structure StT (w0 : World) (v : Value) (l : List Ob) (w : World) : Prop where
  row : ObRow w v l
  mx : MaxAt w
  ld : Laid w
  bel : Below w0.heap.size w0 w
theorem StT.step {w0 w w' : World} {v : Value} {l : List Ob} (h : StT w0 v l w) (hb : Below w.heap.size w w') : StT w0 v l w' :=
  ⟨h.row.below hb, h.mx.step hb, h.ld.below hb, h.bel.trans (hb.mono h.bel.size)⟩
theorem obGreat_no {l : List Ob} (h : obGreat l = false) : l.length ≤ 40 := by
  unfold obGreat at h
  simp only [Bool.or_eq_false_iff, decide_eq_false_iff_not] at h
  omega
theorem errOf_eql (n : Int) : (n == n) = true := by simp

set_option maxRecDepth 100000 in
set_option maxHeartbeats 8000000 in
theorem diffTrees_walk (v : Value) (l : List Ob) (a b : List UInt8) (w : World) (hv : ObRow w v l) (hm : MaxAt w) (hL : Laid w) (ha : a.length = 32) (hb : b.length = 32) :
    Calls Tryz.prog 8 #[v, .agg (idC a).toArray, .agg (idC b).toArray] w fun e w' => e = .returned (.bool true) ∧ Below w.heap.size w w' := by
  have h32a := h32_of (us := idC a) (by rw [idC_len, ha])
  have h32b := h32_of (us := idC b) (by rw [idC_len, hb])
  obtain ⟨W, hW⟩ : ∃ W, W = (w.alloc (.cells (idC a).toArray 24)).alloc (.cells (idC b).toArray 24) := ⟨_, rfl⟩
  have hbW : Below w.heap.size w W := by rw [hW]; exact ((Below.refl _ _).alloc (Nat.le_refl _) _).alloc (by simp) _
  have st : Hid (StT w v l W) := Lib.hid (StT.step ⟨hv, hm, hL, Below.refl _ _⟩ hbW)
  have hra : W.rangeAt w.heap.size 0 (idC a) := by
    rw [hW]; exact rangeAt_below (range_new w (idC a) 24 rfl) ((Below.refl _ _).alloc (Nat.le_refl _) _) (by simp)
  have hrb : W.rangeAt (w.heap.size + 1) 0 (idC b) := by rw [hW]; exact range_new _ _ _ (by simp)
  have hsW : W.heap.size = w.heap.size + 1 + 1 := by rw [hW]; simp
  have HPT := Lib.hid (fun (hc : clashB l = false) (u : Value) W (hs : SrcP W u (lastS l)) (hm : MaxAt W) => ptrees_any u (lastS l) (fun x o h => by rw [last_get hc x] at h; exact (getS_some h).2.1) a b W hs ha hb hm)
  have HRT := Lib.hid (fun (vl vi : Value) W (hs : SrcRow W (.agg #[vl, vi]) l) => rtrees_any vl vi l a b W hs ha hb)
  have HSW := Lib.hid hsW
  have HRA := Lib.hid hra
  have HRB := Lib.hid hrb
  have HWE := Lib.hid hW
  clear hbW hra hrb hsW hm hL hW ha hb hv
  generalize idC a = ua at h32a HPT HRT HWE HRA
  generalize idC b = ub at h32b HPT HRT HWE HRB
  have HAL := Lib.hid (fun W (h : StT w v l W) => alive_any W h.mx)
  have HGR := Lib.hid (fun W (h : StT w v l W) => rgreat_any v l W h.row)
  have HCL := Lib.hid (fun W (h : StT w v l W) => clash27_any v l W h.row)
  cases hg : obGreat l with
  | true =>
    rw [hg] at HGR
    clear hg
    go_enter Tryz.func8, Tryz.ntmps8
    go_wp2_with fail
    rw [← HWE.out]
    refine (HAL.out W st.out).mono ?_
    rintro e w1 ⟨rfl, hb1⟩
    have st1 := Lib.hid (st.out.step hb1)
    clear hb1
    go_wp2_with fail
    refine (HGR.out w1 st1.out).mono ?_
    rintro e w2 ⟨rfl, rfl⟩
    go_wp2_with fail
    refine (HAL.out _ st1.out).mono ?_
    rintro e w3 ⟨rfl, hb3⟩
    have st3 := Lib.hid (st1.out.step hb3)
    clear hb3
    go_wp2
    go_ret
    exact ⟨rfl, st3.out.bel⟩
  | false =>
    rw [hg] at HGR
    have hn := obGreat_no hg
    clear hg
    cases hc : clashB l with
    | true =>
      rw [hc] at HCL
      clear hc
      go_enter Tryz.func8, Tryz.ntmps8
      go_wp2_with fail
      rw [← HWE.out]
      refine (HAL.out W st.out).mono ?_
      rintro e w1 ⟨rfl, hb1⟩
      have st1 := Lib.hid (st.out.step hb1)
      clear hb1
      go_wp2_with fail
      refine (HGR.out w1 st1.out).mono ?_
      rintro e w2 ⟨rfl, rfl⟩
      go_wp2_with fail
      refine (HCL.out _ st1.out).mono ?_
      rintro e w3 ⟨rfl, hb3⟩
      have st3 := Lib.hid (st1.out.step hb3)
      clear hb3
      go_wp2_with fail
      refine (HAL.out _ st3.out).mono ?_
      rintro e w4 ⟨rfl, hb4⟩
      have st4 := Lib.hid (st3.out.step hb4)
      clear hb4
      go_wp2
      go_ret
      exact ⟨rfl, st4.out.bel⟩
    | false =>
      rw [hc] at HCL
      have HPT2 := Lib.hid (HPT.out hc)
      have HLG : Hid (lastS l = getS l) := Lib.hid (funext fun x => last_get hc x)
      clear hc
      have HOF := Lib.hid (fun W (h : StT w v l W) => oof_any v l W h.row (by omega) h.ld)
      have HRO := Lib.hid (fun W (h : StT w v l W) => rof_any v l W h.row (by omega))
      go_enter Tryz.func8, Tryz.ntmps8
      go_wp2_with fail
      rw [← HWE.out]
      refine (HAL.out W st.out).mono ?_
      rintro e w1 ⟨rfl, hb1⟩
      have st1 := Lib.hid (st.out.step hb1)
      have HRA1 := Lib.hid (rangeAt_below HRA.out hb1 (by rw [HSW.out]; omega))
      have HRB1 := Lib.hid (rangeAt_below HRB.out hb1 (by rw [HSW.out]; omega))
      have hs1 := hb1.size
      clear hb1 HWE
      go_wp2_with fail
      refine (HGR.out w1 st1.out).mono ?_
      rintro e w2 ⟨rfl, rfl⟩
      go_wp2_with fail
      refine (HCL.out _ st1.out).mono ?_
      rintro e w3 ⟨rfl, hb3⟩
      have st3 := Lib.hid (st1.out.step hb3)
      have HRA3 := Lib.hid (rangeAt_below HRA1.out hb3 (by have := HSW.out; omega))
      have HRB3 := Lib.hid (rangeAt_below HRB1.out hb3 (by have := HSW.out; omega))
      have hs3 : w.heap.size + 1 + 1 ≤ w3.heap.size := by have := hb3.size; have := HSW.out; omega
      clear hb3
      have std := Lib.hid (st3.out.step (Below.refl _ _).drew)
      have HSR : Hid (∀ X, Below w3.heap.size w3 X → X.rangeAt w.heap.size 0 ua ∧ X.rangeAt (w.heap.size + 1) 0 ub) := Lib.hid (fun X h => ⟨rangeAt_below HRA3.out h (by omega), rangeAt_below HRB3.out h (by omega)⟩)
      have HS0 := HSR.out w3.drew (Below.refl _ _).drew
      go_wp2_with fail
      refine wp_region_L 9 (fun w' => w'.rangeAt w.heap.size 0 ua ∧ w'.rangeAt (w.heap.size + 1) 0 ub) (by kernel_rfl) (by kernel_rfl) ?_
      refine WL.take (i := 0) (v := ?_) rfl (by kernel_rfl) (by decide) (by decide +kernel) (by decide +kernel) (fun _ _ _ h => h) rfl ?_ HS0 ?_
      rotate_left
      · (intro w' hSw; (try dsimp only at hSw); go_simp; (try with_reducible rfl))
      simp only [Act.put]; (try simp only [List.getElem_toArray]); (try simp only [List.getElem_cons_succ]); (try simp only [List.getElem_cons_zero]); (try simp only [List.setIfInBounds_toArray]); (try simp only [List.set_cons_succ]); (try simp only [List.set_cons_zero])
      refine WL.take (i := 2) (v := _) rfl (by kernel_rfl) (by decide) (by decide +kernel) (by decide +kernel) (fun _ _ _ h => h) rfl (fun w' hSw => exec_row 24 _ (hSw.1) Tryz.underlying24 rfl h32a _ rfl rfl) HS0 ?_
      simp only [Act.put]; (try simp only [List.getElem_toArray]); (try simp only [List.getElem_cons_succ]); (try simp only [List.getElem_cons_zero]); (try simp only [List.setIfInBounds_toArray]); (try simp only [List.set_cons_succ]); (try simp only [List.set_cons_zero])
      refine WL.take (i := 3) (v := _) rfl (by kernel_rfl) (by decide) (by decide +kernel) (by decide +kernel) (fun _ _ _ h => h) rfl (fun w' hSw => exec_row 24 _ (hSw.2) Tryz.underlying24 rfl h32b _ rfl rfl) HS0 ?_
      simp only [Act.put]; (try simp only [List.getElem_toArray]); (try simp only [List.getElem_cons_succ]); (try simp only [List.getElem_cons_zero]); (try simp only [List.setIfInBounds_toArray]); (try simp only [List.set_cons_succ]); (try simp only [List.set_cons_zero])
      refine WL.one (i := 1) rfl (by decide) (by decide +kernel) ?_
      go_wp2_with fail
      refine (HOF.out _ std.out).mono ?_
      intro e w4 h
      obtain ⟨u, rfl, hsrc, hb4⟩ := h
      have st4 := Lib.hid (std.out.step hb4)
      have HB4 := Lib.hid (drew_below hb4)
      have HS4 := HSR.out w4 HB4.out
      have HSRC := Lib.hid hsrc
      clear hb4 hsrc
      go_wp2
      refine ⟨HS4, ?_⟩
      refine WL.one (i := 4) rfl (by decide) (by decide +kernel) ?_
      go_wp2_with fail
      refine (HPT2.out u w4 HSRC.out st4.out.mx).mono ?_
      intro e w5 h
      obtain ⟨va, rfl, hva, hb5⟩ := h
      have st5 := Lib.hid (st4.out.step hb5)
      have HB5 := Lib.hid (HB4.out.trans (hb5.mono HB4.out.size))
      have HS5 := HSR.out w5 HB5.out
      have HVA := Lib.hid hva
      clear hb5 hva HS4
      rw [HLG.out] at HVA ⊢
      obtain ⟨tr, htr⟩ : ∃ tr, treesF (getS l) a b = tr := ⟨_, rfl⟩
      rw [htr] at HVA HRT ⊢
      clear htr
      go_wp2
      refine ⟨HS5, ?_⟩
      refine WL.take (i := 5) (v := ?_) rfl (by kernel_rfl) (by decide) (by decide +kernel) (by decide +kernel) (fun _ _ _ h => h) rfl ?_ HS5 ?_
      rotate_left
      · (intro w' hSw; (try dsimp only at hSw); go_simp; (try with_reducible rfl))
      simp only [Act.put]; (try simp only [List.getElem_toArray]); (try simp only [List.getElem_cons_succ]); (try simp only [List.getElem_cons_zero]); (try simp only [List.setIfInBounds_toArray]); (try simp only [List.set_cons_succ]); (try simp only [List.set_cons_zero])
      refine WL.take (i := 6) (v := ?_) rfl (by kernel_rfl) (by decide) (by decide +kernel) (by decide +kernel) (fun _ _ _ h => h) rfl ?_ HS5 ?_
      rotate_left
      · (intro w' hSw; (try dsimp only at hSw); go_simp; (try with_reducible rfl))
      simp only [Act.put]; (try simp only [List.getElem_toArray]); (try simp only [List.getElem_cons_succ]); (try simp only [List.getElem_cons_zero]); (try simp only [List.setIfInBounds_toArray]); (try simp only [List.set_cons_succ]); (try simp only [List.set_cons_zero])
      refine WL.take (i := 7) (v := ?_) rfl (by kernel_rfl) (by decide) (by decide +kernel) (by decide +kernel) (fun _ _ _ h => h) rfl ?_ HS5 ?_
      rotate_left
      · (intro w' hSw; (try dsimp only at hSw); go_simp; (try with_reducible rfl))
      simp only [Act.put]; (try simp only [List.getElem_toArray]); (try simp only [List.getElem_cons_succ]); (try simp only [List.getElem_cons_zero]); (try simp only [List.setIfInBounds_toArray]); (try simp only [List.set_cons_succ]); (try simp only [List.set_cons_zero])
      refine WL.one (i := 8) rfl (by decide) (by decide +kernel) ?_
      go_wp2
      refine ⟨HS5, ?_⟩
      refine WL.last (n := 9) rfl rfl (by decide +kernel) (by decide +kernel) ?_
      clear HS5 HS0
      go_wp2_with fail
      have HS0 := HSR.out w5.drew HB5.out.drew
      have std5 := Lib.hid (st5.out.step (Below.refl _ _).drew)
      refine wp_region_L 9 (fun w' => w'.rangeAt w.heap.size 0 ua ∧ w'.rangeAt (w.heap.size + 1) 0 ub) (by kernel_rfl) (by kernel_rfl) ?_
      refine WL.take (i := 0) (v := ?_) rfl (by kernel_rfl) (by decide) (by decide +kernel) (by decide +kernel) (fun _ _ _ h => h) rfl ?_ HS0 ?_
      rotate_left
      · (intro w' hSw; (try dsimp only at hSw); go_simp; (try with_reducible rfl))
      simp only [Act.put]; (try simp only [List.getElem_toArray]); (try simp only [List.getElem_cons_succ]); (try simp only [List.getElem_cons_zero]); (try simp only [List.setIfInBounds_toArray]); (try simp only [List.set_cons_succ]); (try simp only [List.set_cons_zero])
      refine WL.take (i := 2) (v := _) rfl (by kernel_rfl) (by decide) (by decide +kernel) (by decide +kernel) (fun _ _ _ h => h) rfl (fun w' hSw => exec_row 24 _ (hSw.1) Tryz.underlying24 rfl h32a _ rfl rfl) HS0 ?_
      simp only [Act.put]; (try simp only [List.getElem_toArray]); (try simp only [List.getElem_cons_succ]); (try simp only [List.getElem_cons_zero]); (try simp only [List.setIfInBounds_toArray]); (try simp only [List.set_cons_succ]); (try simp only [List.set_cons_zero])
      refine WL.take (i := 3) (v := _) rfl (by kernel_rfl) (by decide) (by decide +kernel) (by decide +kernel) (fun _ _ _ h => h) rfl (fun w' hSw => exec_row 24 _ (hSw.2) Tryz.underlying24 rfl h32b _ rfl rfl) HS0 ?_
      simp only [Act.put]; (try simp only [List.getElem_toArray]); (try simp only [List.getElem_cons_succ]); (try simp only [List.getElem_cons_zero]); (try simp only [List.setIfInBounds_toArray]); (try simp only [List.set_cons_succ]); (try simp only [List.set_cons_zero])
      refine WL.one (i := 1) rfl (by decide) (by decide +kernel) ?_
      go_wp2_with fail
      refine (HRO.out _ std5.out).mono ?_
      intro e w6 h
      obtain ⟨vl, vi, rfl, ho1, ho2, hb6⟩ := h
      have st6 := Lib.hid (std5.out.step hb6)
      have HB6 := Lib.hid (HB5.out.trans ((drew_below hb6).mono HB5.out.size))
      have HS6 := HSR.out w6 HB6.out
      have HVA6 := Lib.hid (RowOf.below HVA.out (drew_below hb6))
      have HSRC6 : Hid (SrcRow w6 (.agg #[vl, vi]) l) := Lib.hid ⟨vl, vi, rfl, ho1, ho2⟩
      clear hb6 ho1 ho2
      go_wp2
      refine ⟨HS6, ?_⟩
      refine WL.one (i := 4) rfl (by decide) (by decide +kernel) ?_
      go_wp2_with fail
      refine (HRT.out vl vi w6 HSRC6.out).mono ?_
      rintro e w7 ⟨vb, rfl, hvb, hb7⟩
      have st7 := Lib.hid (st6.out.step hb7)
      have HB7 := Lib.hid (HB6.out.trans (hb7.mono HB6.out.size))
      have HS7 := HSR.out w7 HB7.out
      have HVA7 := Lib.hid (RowOf.below HVA6.out hb7)
      have HVB7 := Lib.hid hvb
      clear hb7 hvb HS6
      obtain ⟨er, her⟩ : ∃ er, errOf tr = er := ⟨_, rfl⟩
      rw [her]
      clear her
      have hee : (er == er) = true := by simp
      go_wp2
      refine ⟨HS7, ?_⟩
      refine WL.take (i := 5) (v := ?_) rfl (by kernel_rfl) (by decide) (by decide +kernel) (by decide +kernel) (fun _ _ _ h => h) rfl ?_ HS7 ?_
      rotate_left
      · (intro w' hSw; (try dsimp only at hSw); go_simp; (try with_reducible rfl))
      simp only [Act.put]; (try simp only [List.getElem_toArray]); (try simp only [List.getElem_cons_succ]); (try simp only [List.getElem_cons_zero]); (try simp only [List.setIfInBounds_toArray]); (try simp only [List.set_cons_succ]); (try simp only [List.set_cons_zero])
      refine WL.take (i := 6) (v := ?_) rfl (by kernel_rfl) (by decide) (by decide +kernel) (by decide +kernel) (fun _ _ _ h => h) rfl ?_ HS7 ?_
      rotate_left
      · (intro w' hSw; (try dsimp only at hSw); go_simp; (try with_reducible rfl))
      simp only [Act.put]; (try simp only [List.getElem_toArray]); (try simp only [List.getElem_cons_succ]); (try simp only [List.getElem_cons_zero]); (try simp only [List.setIfInBounds_toArray]); (try simp only [List.set_cons_succ]); (try simp only [List.set_cons_zero])
      refine WL.take (i := 7) (v := ?_) rfl (by kernel_rfl) (by decide) (by decide +kernel) (by decide +kernel) (fun _ _ _ h => h) rfl ?_ HS7 ?_
      rotate_left
      · (intro w' hSw; (try dsimp only at hSw); go_simp; (try with_reducible rfl))
      simp only [Act.put]; (try simp only [List.getElem_toArray]); (try simp only [List.getElem_cons_succ]); (try simp only [List.getElem_cons_zero]); (try simp only [List.setIfInBounds_toArray]); (try simp only [List.set_cons_succ]); (try simp only [List.set_cons_zero])
      refine WL.one (i := 8) rfl (by decide) (by decide +kernel) ?_
      go_wp2
      refine ⟨HS7, ?_⟩
      refine WL.last (n := 9) rfl rfl (by decide +kernel) (by decide +kernel) ?_
      clear HS7 HS0
      go_wp2_with fail
      refine (HAL.out _ st7.out).mono ?_
      rintro e w8 ⟨rfl, hb8⟩
      have st8 := Lib.hid (st7.out.step hb8)
      have HSM := Lib.hid (same_any va vb _ _ w8 (RowOf.below HVA7.out hb8) (RowOf.below HVB7.out hb8) rfl)
      clear hb8
      go_wp2_with fail
      refine HSM.out.mono ?_
      rintro e w9 ⟨rfl, hb9⟩
      have st9 := Lib.hid (st8.out.step hb9)
      clear hb9
      go_wp2
      go_ret
      exact ⟨rfl, st9.out.bel⟩
end Go.Proofs.YtbmiiiccnoiffaaGreatDoor
