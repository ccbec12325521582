/- YtbmiiiccnoiffaaGreatDoorL44: texts K6, K7 of this claim, in one. -/
import Derived.Test.YtbmiiiccnoiffaaGreatDoorL17
import Derived.Test.YtbmiiiccnoiffaaGreatDoorL40
import Derived.Test.YtbmiiiccnoiffaaGreatDoorL41
import Derived.Test.YtbmiiiccnoiffaaGreatDoorL42
namespace Go.Proofs.YtbmiiiccnoiffaaGreatDoor
open Go.RowKit

theorem par_getD (cm : Idl → Option Cmt) (x : Idl) : ((cm x).getD cmt0).pars = par cm x := by unfold par; cases cm x <;> rfl
theorem cmt_facts {cm : Idl → Option Cmt} {y : Idl} {ao : Option Addr} {cap n : Nat} {ct : List Value} (h : ∀ c y, cm y = some c → c.tree.length = 32 ∧ ∀ q ∈ c.pars, q.length = 32) (hct : cmC ((cm y).getD cmt0).tree (.slice ao n cap) ((cm y).getD cmt0).text = ct) :
    Hid (ct.length = 34) ∧ Hid (∀ v ∈ ct, v.oneCell' = true) ∧ Hid (ct[32]? = some (.slice ao n cap)) := by
  have htl : ((cm y).getD cmt0).tree.length = 32 := by
    cases e : cm y with
    | none => exact zid_len
    | some c => exact (h c y e).1
  refine ⟨Lib.hid (by rw [← hct]; exact cmC_len _ _ _ htl), Lib.hid (by rw [← hct]; exact cmC_one _ _ _ _ _), Lib.hid ?_⟩
  rw [← hct]
  unfold cmC
  rw [List.getElem?_append_right (by rw [idC_len, htl]; exact Nat.le_refl _), idC_len, htl]; rfl
set_option maxRecDepth 100000 in
set_option maxHeartbeats 4000000 in
theorem rready_any (vl vi : Value) (l : List Ob) (U : List Idl) (hU : CmOk (cmG (getS l)) U) (v1 v2 : Value) (L T : List Idl) (x : Idl) (w : World) (hs : SrcRow w (.agg #[vl, vi]) l) (h1 : IdRow w v1 L) (h2 : IdRow w v2 T) (hL : ∀ y ∈ L, y.length = 32) (hT : ∀ y ∈ T, y.length = 32) (hx : x.length = 32) :
    Calls Tryz.prog 66 #[.agg #[vl, vi], v1, v2, .agg (idC x).toArray] w fun e w' => e = .returned (.bool (readyB (cmG (getS l)) L T x)) ∧ Below w.heap.size w w' := by
  have h32x := h32_of (us := idC x) (by rw [idC_len, hx])
  obtain ⟨zc, hzc, _, hzce⟩ := cm_zero
  have HZC := Lib.hid (show zc.size = 34 by rw [hzce]; exact cmC_len _ _ _ zid_len)
  obtain ⟨W, hW⟩ : ∃ W, (w.alloc (.cells #[vl, vi] 30)).alloc (.cells (idC x).toArray 24) = W := ⟨_, rfl⟩
  have hbW : Below w.heap.size w W := by rw [← hW]; exact ((Below.refl _ _).alloc (Nat.le_refl _) _).alloc (by simp) _
  have hA := (Arr.ofList w [vl, vi] 30).alloc (by simp) (.cells (idC x).toArray 24)
  have c0 : W.cell? ⟨w.heap.size, 0, none⟩ = some vl := by rw [← hW]; exact hA.cell 0 (by simp)
  have c1 : W.cell? ⟨w.heap.size, 1, none⟩ = some vi := by rw [← hW]; exact hA.cell 1 (by simp)
  have hrx : W.rangeAt (w.heap.size + 1) 0 (idC x) := by rw [← hW]; exact range_new _ _ _ (by simp)
  have hsW : W.heap.size = w.heap.size + 1 + 1 := by rw [← hW]; simp
  have HCM := Lib.hid (fun y (hy : y.length = 32) W' (h : Below W.heap.size W W') => rcmt_fr vl vi l y W' ((hs.below hbW).below h) hy)
  have HT1 := Lib.hid (fun W' (h : Below W.heap.size W W') y (hy : y.length = 32) => rin_any v2 T y W' ((h2.below hbW).below h) hT hy)
  have HX := Lib.hid hx
  obtain ⟨ao, cap, rfl, hmax, hcells⟩ := h1.open
  unfold maxLen at hmax
  have HV : Hid (L ≠ [] → ∃ b off, ao = some ⟨b, off, none⟩ ∧ b < W.heap.size ∧ ∀ k (hk : k < L.length), W.rangeAt b (off + k * 32) (idC L[k])) := Lib.hid (fun hne => by
    obtain ⟨b, off, e, hb, hc⟩ := hcells hne
    exact ⟨b, off, e, Nat.lt_of_lt_of_le hb hbW.size, fun k hk => rangeAt_below (hc k hk) hbW hb⟩)
  have HBW := Lib.hid hbW
  have HC01 := Lib.hid (And.intro c0 c1)
  have HRX := Lib.hid hrx
  have HSW := Lib.hid hsW
  have HW := Lib.hid hW
  have HL := Lib.hid hL
  have HTL : Hid (∀ c, ∀ y, cmG (getS l) y = some c → c.tree.length = 32 ∧ ∀ q ∈ c.pars, q.length = 32) := Lib.hid (fun c y h => ⟨hU.tree y c h, hU.pars y c h⟩)
  clear hs hx hU hbW hrx hsW hW hA c0 c1 h1 h2 hL hT hcells hzce
  generalize hiy : idC x = ux at h32x HRX HW
  have HIX := Lib.hid hiy
  clear hiy
  go_enter Tryz.func66, Tryz.ntmps66
  go_wp2
  rw [HW.out]
  go_loopw [9] (fun i wr => ∃ k : Nat, k ≤ L.length ∧ i = .int .i64 k ∧ ReadyTo (cmG (getS l)) L T x k ∧ Below W.heap.size W wr) (fun i _ => (L.length - intOf i).toNat)
  case atStart => exact ⟨0, by omega, rfl, (fun j _ hj => absurd hj (by omega)), Below.refl _ _⟩
  case round =>
    obtain ⟨wo, rfl⟩ : ∃ wo : World, wo = wr := ⟨_, rfl⟩
    obtain ⟨k, hk, rfl, hrt, hb⟩ := hrel
    have HRT := Lib.hid hrt
    have HB := Lib.hid hb
    have HRXO := Lib.hid (rangeAt_below HRX.out hb (by rw [HSW.out]; omega))
    clear hrt hb
    by_cases hlt : k < L.length
    · obtain ⟨b, off, rfl, hbl, hcell⟩ := HV.out (by intro e; rw [e] at hlt; simp at hlt)
      have f1 := rangeAt_below (hcell k hlt) HB.out hbl
      obtain ⟨y, hy⟩ : ∃ y, L[k] = y := ⟨_, rfl⟩
      have HYK := Lib.hid hy
      rw [hy] at f1
      have hyl : y.length = 32 := by rw [← hy]; exact HL.out _ (List.getElem_mem hlt)
      have h32y := h32_of (us := idC y) (by rw [idC_len, hyl])
      have hso := HB.out.size
      have hsw := HSW.out
      have hSX : ∀ X, Below wo.heap.size wo X → X.cell? ⟨w.heap.size, 0, none⟩ = some vl ∧ X.cell? ⟨w.heap.size, 1, none⟩ = some vi ∧ X.rangeAt b (off + k * 32) (idC y) := fun X hX => by
        have hWX := HB.out.trans (hX.mono hso)
        exact ⟨below_load HC01.out.1 hWX (by omega), below_load HC01.out.2 hWX (by omega), rangeAt_below f1 hX (by omega)⟩
      have HSX := Lib.hid hSX
      have HRXX := Lib.hid (fun X (h : Below wo.heap.size wo X) => rangeAt_below HRXO.out h (by omega))
      have HCY := Lib.hid (fun X (h : Below wo.heap.size wo X) => HCM.out y hyl X (HB.out.trans (h.mono hso)))
      have HTY := Lib.hid (fun X (h : Below wo.heap.size wo X) => HT1.out X (HB.out.trans (h.mono hso)) y hyl)
      have k0 : (0 : Int) ≤ k := by omega
      have k1 : (k : Int) < L.length := by omega
      have d1 : decide ((k : Int) < L.length) = true := decide_eq_true k1
      have hS0 := hSX wo.drew (Below.refl _ _).drew
      have h34 : (Tryz.prog.info? 97).map (·.size) = some 34 := by kernel_rfl
      clear hcell hy f1 hSX hyl hso hsw
      generalize hiy : idC y = uy at h32y HSX HCY HTY hS0
      clear hiy
      go_wp2
      refine wp_region_L 11 (fun w' => w'.cell? ⟨w.heap.size, 0, none⟩ = some vl ∧ w'.cell? ⟨w.heap.size, 1, none⟩ = some vi ∧ w'.rangeAt b (off + k * 32) uy) (by kernel_rfl) (by kernel_rfl) ?_
      refine WL.take (i := 0) (v := ?_) rfl (by kernel_rfl) (by decide) (by decide +kernel) (by decide +kernel) (fun _ _ _ h => h) rfl ?_ hS0 ?_
      rotate_left
      · (intro w' hSw; (try dsimp only at hSw); go_simp; (try with_reducible rfl))
      simp only [Act.put]; (try simp only [List.getElem_toArray]); (try simp only [List.getElem_cons_succ]); (try simp only [List.getElem_cons_zero]); (try simp only [List.setIfInBounds_toArray]); (try simp only [List.set_cons_succ]); (try simp only [List.set_cons_zero])
      refine WL.take (i := 1) (v := ?_) rfl (by kernel_rfl) (by decide) (by decide +kernel) (by decide +kernel) (fun _ _ _ h => h) rfl ?_ hS0 ?_
      rotate_left
      · (intro w' hSw; (try dsimp only at hSw); go_simp; (try with_reducible rfl))
      simp only [Act.put]; (try simp only [List.getElem_toArray]); (try simp only [List.getElem_cons_succ]); (try simp only [List.getElem_cons_zero]); (try simp only [List.setIfInBounds_toArray]); (try simp only [List.set_cons_succ]); (try simp only [List.set_cons_zero])
      refine WL.take (i := 2) (v := ?_) rfl (by kernel_rfl) (by decide) (by decide +kernel) (by decide +kernel) (fun _ _ _ h => h) rfl ?_ hS0 ?_
      rotate_left
      · (intro w' hSw; (try dsimp only at hSw); go_simp; (try with_reducible rfl))
      simp only [Act.put]; (try simp only [List.getElem_toArray]); (try simp only [List.getElem_cons_succ]); (try simp only [List.getElem_cons_zero]); (try simp only [List.setIfInBounds_toArray]); (try simp only [List.set_cons_succ]); (try simp only [List.set_cons_zero])
      refine WL.take (i := 3) (v := ?_) rfl (by kernel_rfl) (by decide) (by decide +kernel) (by decide +kernel) (fun _ _ _ h => h) rfl ?_ hS0 ?_
      rotate_left
      · (intro w' hSw; (try dsimp only at hSw); go_simp; (try with_reducible rfl))
      simp only [Act.put]; (try simp only [List.getElem_toArray]); (try simp only [List.getElem_cons_succ]); (try simp only [List.getElem_cons_zero]); (try simp only [List.setIfInBounds_toArray]); (try simp only [List.set_cons_succ]); (try simp only [List.set_cons_zero])
      refine WL.take (i := 4) (v := _) rfl (by kernel_rfl) (by decide) (by decide +kernel) (by decide +kernel) (fun _ _ _ h => h) rfl (fun w' hSw => exec_row 24 _ (hSw.2.2) Tryz.underlying24 rfl h32y _ rfl rfl) hS0 ?_
      simp only [Act.put]; (try simp only [List.getElem_toArray]); (try simp only [List.getElem_cons_succ]); (try simp only [List.getElem_cons_zero]); (try simp only [List.setIfInBounds_toArray]); (try simp only [List.set_cons_succ]); (try simp only [List.set_cons_zero])
      refine WL.two (i := 5) (k := 9) rfl rfl (by decide) (by decide) (by decide +kernel) ?_ ?_
      focus
        go_wp2_with fail
        refine (HCY.out _ (Below.refl _ _).drew).mono ?_
        rintro e w4 ⟨v, rfl, hrow, hb4, hfr⟩
        have hb4 := drew_below hb4
        have hS4 := HSX.out _ hb4
        have HB4 := Lib.hid hb4
        obtain ⟨ao2, lcap, rfl, _⟩ := hrow.flat0
        have HROW := Lib.hid hrow
        have HFRS := Lib.hid hfr
        clear hb4 hrow hfr HCY
        obtain ⟨ct, hct⟩ : ∃ ct, cmC ((cmG (getS l) y).getD cmt0).tree (.slice ao2 ((cmG (getS l) y).getD cmt0).pars.length lcap) ((cmG (getS l) y).getD cmt0).text = ct := ⟨_, rfl⟩
        obtain ⟨HCL, HCO, HC32⟩ := cmt_facts HTL.out hct
        rw [hct]
        clear hct
        go_wp2
        refine ⟨hS4, ?_⟩
        refine WL.take (i := 6) (v := ?_) rfl (by kernel_rfl) (by decide) (by decide +kernel) (by decide +kernel) (fun _ _ _ h => h) rfl ?_ hS4 ?_
        rotate_left
        · (intro w' hSw; (try dsimp only at hSw); go_simp; (try with_reducible rfl))
        simp only [Act.put]; (try simp only [List.getElem_toArray]); (try simp only [List.getElem_cons_succ]); (try simp only [List.getElem_cons_zero]); (try simp only [List.setIfInBounds_toArray]); (try simp only [List.set_cons_succ]); (try simp only [List.set_cons_zero])
        refine WL.take (i := 7) (v := ?_) rfl (by kernel_rfl) (by decide) (by decide +kernel) (by decide +kernel) (fun _ _ _ h => h) rfl ?_ hS4 ?_
        rotate_left
        · (intro w' hSw; (try dsimp only at hSw); go_simp; (try with_reducible rfl))
        simp only [Act.put]; (try simp only [List.getElem_toArray]); (try simp only [List.getElem_cons_succ]); (try simp only [List.getElem_cons_zero]); (try simp only [List.setIfInBounds_toArray]); (try simp only [List.set_cons_succ]); (try simp only [List.set_cons_zero])
        refine WL.take (i := 8) (v := ?_) rfl (by kernel_rfl) (by decide) (by decide +kernel) (by decide +kernel) (fun _ _ _ h => h) rfl ?_ hS4 ?_
        rotate_left
        · (intro w' hSw; (try dsimp only at hSw); go_simp; (try with_reducible rfl))
        simp only [Act.put]; (try simp only [List.getElem_toArray]); (try simp only [List.getElem_cons_succ]); (try simp only [List.getElem_cons_zero]); (try simp only [List.setIfInBounds_toArray]); (try simp only [List.set_cons_succ]); (try simp only [List.set_cons_zero])
        refine WL.one (i := 9) rfl (by decide) (by decide +kernel) ?_
        have hb5 : Hid (Below wo.heap.size wo (w4.alloc (.cells zc 97))) := Lib.hid (HB4.out.alloc HB4.out.size _)
        have hth := Lib.hid (there_alloc w4 zc 97 HZC.out)
        go_wp2
        have hS5 := HSX.out _ hb5.out
        refine ⟨hS5, ?_⟩
        refine WL.one (i := 10) rfl (by decide) (by decide +kernel) ?_
        refine wpList_store_list rfl 97 _ _ rfl w4.heap.size 0 ct rfl rfl 34 HCL.out hth.out h34 HCO.out ?_
        obtain ⟨p, hp⟩ : ∃ p, p = w4.heap.size := ⟨_, rfl⟩
        have HP := World.rangeAt_setCells_same (w4.alloc (.cells zc 97)) w4.heap.size 0 ct (by rw [HCL.out]; exact hth.out)
        have HB5 := Lib.hid (below_setCells w4.heap.size HB4.out.size ct 0 _ hb5.out)
        have HR5 : Hid (IdRow ((w4.alloc (.cells zc 97)).setCells w4.heap.size 0 ct) (.slice ao2 ((cmG (getS l) y).getD cmt0).pars.length lcap) ((cmG (getS l) y).getD cmt0).pars) := Lib.hid (HROW.out.below (below_setCells w4.heap.size (Nat.le_refl _) ct 0 _ ((Below.refl _ _).alloc (Nat.le_refl _) _)))
        generalize (w4.alloc (.cells zc 97)).setCells w4.heap.size 0 ct = W5 at HP HB5 HR5
        rw [← hp] at HP ⊢
        clear hp hth hb5 HB4 HROW HFRS hS4 hS5
      rotate_left
      focus
        go_wp2_with fail
        have hb3 : Hid (Below wo.heap.size wo (wo.drew.alloc (.cells zc 97))) := Lib.hid ((Below.refl _ _).drew.alloc (Nat.le_refl _) _)
        have hth3 := Lib.hid (there_alloc wo.drew zc 97 HZC.out)
        have hS4 := HSX.out _ hb3.out
        refine ⟨hS4, ?_⟩
        refine WL.one (i := 5) rfl (by decide) (by decide +kernel) ?_
        go_wp2_with fail
        refine (HCY.out _ hb3.out).mono ?_
        rintro e w4 ⟨v, rfl, hrow, hb4, hfr⟩
        have hth := Lib.hid (there_below hth3.out hb4 (by simp))
        have hb4' := Lib.hid (hb3.out.trans (hb4.mono hb3.out.size))
        have hS5 := HSX.out _ hb4'.out
        obtain ⟨ao2, lcap, rfl, _⟩ := hrow.flat0
        have HROW := Lib.hid hrow
        have HFRS := Lib.hid hfr
        clear hb4 hrow hfr HCY
        obtain ⟨ct, hct⟩ : ∃ ct, cmC ((cmG (getS l) y).getD cmt0).tree (.slice ao2 ((cmG (getS l) y).getD cmt0).pars.length lcap) ((cmG (getS l) y).getD cmt0).text = ct := ⟨_, rfl⟩
        obtain ⟨HCL, HCO, HC32⟩ := cmt_facts HTL.out hct
        rw [hct]
        clear hct
        go_wp2
        refine ⟨hS5, ?_⟩
        refine WL.take (i := 6) (v := ?_) rfl (by kernel_rfl) (by decide) (by decide +kernel) (by decide +kernel) (fun _ _ _ h => h) rfl ?_ hS5 ?_
        rotate_left
        · (intro w' hSw; (try dsimp only at hSw); go_simp; (try with_reducible rfl))
        simp only [Act.put]; (try simp only [List.getElem_toArray]); (try simp only [List.getElem_cons_succ]); (try simp only [List.getElem_cons_zero]); (try simp only [List.setIfInBounds_toArray]); (try simp only [List.set_cons_succ]); (try simp only [List.set_cons_zero])
        refine WL.take (i := 7) (v := ?_) rfl (by kernel_rfl) (by decide) (by decide +kernel) (by decide +kernel) (fun _ _ _ h => h) rfl ?_ hS5 ?_
        rotate_left
        · (intro w' hSw; (try dsimp only at hSw); go_simp; (try with_reducible rfl))
        simp only [Act.put]; (try simp only [List.getElem_toArray]); (try simp only [List.getElem_cons_succ]); (try simp only [List.getElem_cons_zero]); (try simp only [List.setIfInBounds_toArray]); (try simp only [List.set_cons_succ]); (try simp only [List.set_cons_zero])
        refine WL.take (i := 8) (v := ?_) rfl (by kernel_rfl) (by decide) (by decide +kernel) (by decide +kernel) (fun _ _ _ h => h) rfl ?_ hS5 ?_
        rotate_left
        · (intro w' hSw; (try dsimp only at hSw); go_simp; (try with_reducible rfl))
        simp only [Act.put]; (try simp only [List.getElem_toArray]); (try simp only [List.getElem_cons_succ]); (try simp only [List.getElem_cons_zero]); (try simp only [List.setIfInBounds_toArray]); (try simp only [List.set_cons_succ]); (try simp only [List.set_cons_zero])
        refine WL.one (i := 10) rfl (by decide) (by decide +kernel) ?_
        refine wpList_store_list rfl 97 _ _ rfl wo.heap.size 0 ct rfl rfl 34 HCL.out hth.out h34 HCO.out ?_
        obtain ⟨p, hp⟩ : ∃ p, p = wo.heap.size := ⟨_, rfl⟩
        have HP := World.rangeAt_setCells_same w4 wo.heap.size 0 ct (by rw [HCL.out]; exact hth.out)
        have HB5 := Lib.hid (below_setCells wo.heap.size (Nat.le_refl _) ct 0 _ hb4'.out)
        have HR5 : Hid (IdRow (w4.setCells wo.heap.size 0 ct) (.slice ao2 ((cmG (getS l) y).getD cmt0).pars.length lcap) ((cmG (getS l) y).getD cmt0).pars) := Lib.hid (HROW.out.grown (grownBy_setCells w4 wo.heap.size 0 ct) (.inr fun g hg e => by
          have h1 := HFRS.out g hg
          have h2 := Option.some.inj e
          simp at h1; omega))
        generalize w4.setCells wo.heap.size 0 ct = W5 at HP HB5 HR5
        rw [← hp] at HP ⊢
        clear hp hth hth3 hb3 hb4' HROW HFRS hS4 hS5
      all_goals
        have hSF := HSX.out _ HB5.out
        refine ⟨hSF, ?_⟩
        refine WL.last (n := 11) rfl rfl (by decide +kernel) (by decide +kernel) ?_
        have c32 : W5.cell? ⟨p, 32, none⟩ = some (.slice ao2 ((cmG (getS l) y).getD cmt0).pars.length lcap) := by have := HP 32 _ HC32.out; rwa [Nat.zero_add] at this
        have hrx5 := HRXX.out _ HB5.out
        have HF5 := Lib.hid hSF.2.2
        have hbw : Below W.heap.size W W5 := HB.out.trans (HB5.out.mono HB.out.size)
        have HBW5 := Lib.hid (HBW.out.trans (hbw.mono HBW.out.size))
        have HBX5 := Lib.hid hbw
        have hxin := rin_any _ _ x W5 HR5.out (by
          cases e : cmG (getS l) y with
          | none => intro z hz; cases hz
          | some c => exact (HTL.out c y e).2) HX.out
        rw [HIX.out] at hxin
        have HXIN := Lib.hid hxin
        have HT5 := Lib.hid (HTY.out)
        have hlt5 := hSF.1
        have HPA := Lib.hid (par_getD (cmG (getS l)) y)
        clear hSF hS0 HP HR5 hbw hxin hlt5 HSX
        generalize ((cmG (getS l) y).getD cmt0).pars = ps at c32 HXIN HPA
        go_wp2_with (refine wpList_load_mid rfl 24 _ rfl (w.heap.size + 1) 0 rfl ux _ hrx5 Tryz.underlying24 rfl h32x ?_)
        refine HXIN.out.mono ?_
        rintro e w6 ⟨rfl, hb6⟩
        have hbo6 := HB5.out.trans (hb6.mono HB5.out.size)
        have HB6 := Lib.hid hbo6
        have f6 := rangeAt_below HF5.out hb6 (by have := HB5.out.size; have := HB.out.size; omega)
        have HT6 := Lib.hid (HT5.out w6 hbo6)
        clear hb6 hbo6 HXIN hrx5 c32 HT5 HF5
        cases hpc : ps.contains x with
        | false =>
          have HNX : Hid (x ∈ par (cmG (getS l)) L[k] → L[k] ∈ T) := Lib.hid (fun h => by
            rw [HYK.out, ← HPA.out] at h
            rw [List.contains_eq_mem, decide_eq_false_iff_not] at hpc
            exact absurd h hpc)
          clear hpc HPA
          go_wp2
          go_roundw
          case rel => exact ⟨k + 1, by omega, by go_num, HRT.out.next hlt HNX.out, HB.out.trans (HB6.out.mono HB.out.size)⟩
          case measure => simp [intOf]; omega
        | true =>
          have HPX : Hid (x ∈ par (cmG (getS l)) L[k]) := Lib.hid (by
            rw [HYK.out, ← HPA.out]
            rw [List.contains_eq_mem, decide_eq_true_iff] at hpc
            exact hpc)
          clear hpc HPA
          go_wp2_with (first
            | (refine wpList_load_mid_g rfl 24 _ rfl b (off + k * 32) rfl uy _ f6 Tryz.underlying24 rfl h32y ?_)
            | (refine wpList_load_mid rfl 24 _ rfl b (off + k * 32) rfl uy _ f6 Tryz.underlying24 rfl h32y ?_))
          refine HT6.out.mono ?_
          rintro e w7 ⟨rfl, hb7⟩
          have HB7 := Lib.hid (HB6.out.trans (hb7.mono HB6.out.size))
          clear hb7 f6
          cases htc : T.contains y with
          | true =>
            have HNX : Hid (x ∈ par (cmG (getS l)) L[k] → L[k] ∈ T) := Lib.hid (fun _ => by
              rw [HYK.out]
              rw [List.contains_eq_mem, decide_eq_true_iff] at htc
              exact htc)
            clear htc
            go_wp2
            go_roundw
            case rel => exact ⟨k + 1, by omega, by go_num, HRT.out.next hlt HNX.out, HB.out.trans (HB7.out.mono HB.out.size)⟩
            case measure => simp [intOf]; omega
          | false =>
            have HEND : Hid (readyB (cmG (getS l)) L T x = false) := Lib.hid (ready_stop hlt HPX.out (by
              rw [HYK.out]
              rw [List.contains_eq_mem, decide_eq_false_iff_not] at htc
              exact htc))
            clear htc
            go_wp2
            go_ret
            exact ⟨by rw [HEND.out]; rfl, HBW.out.trans ((HB.out.trans (HB7.out.mono HB.out.size)).mono HBW.out.size)⟩
    · have d1 : decide ((k : Int) < L.length) = false := decide_eq_false (by omega)
      have HRE : Hid (readyB (cmG (getS l)) L T x = !T.contains x) := Lib.hid (ready_end HRT.out (by omega))
      have hti := HT1.out wo HB.out x HX.out
      rw [HIX.out] at hti
      have HTI := Lib.hid hti
      clear hti
      go_wp2_with (refine wpList_load_mid rfl 24 _ rfl (w.heap.size + 1) 0 rfl ux _ HRXO.out Tryz.underlying24 rfl h32x ?_)
      refine HTI.out.mono ?_
      rintro e w6 ⟨rfl, hb6⟩
      have HB6 := Lib.hid (HB.out.trans (hb6.mono HB.out.size))
      clear hb6
      go_wp2
      go_ret
      exact ⟨by rw [HRE.out, List.contains_eq_mem]; rfl, HBW.out.trans (HB6.out.mono HBW.out.size)⟩
end Go.Proofs.YtbmiiiccnoiffaaGreatDoor
namespace Go.Proofs.YtbmiiiccnoiffaaGreatDoor
open Go.RowKit
variable {cm : Idl → Option Cmt}
theorem logN_len_le (L : List Idl) (n : Nat) : (logN cm L n).length ≤ L.length := nodup_sub_len _ L (logN_telling L n).nodup (logN_telling L n).sub
def DlAns (cm : Idl → Option Cmt) (L : List Idl) (w : World) (e : Ending) (w' : World) : Prop := ∃ v, e = .returned v ∧ OwnQ w' w.heap.size 32 v (logOf cm L).length (idsF (logOf cm L)) ∧ Below w.heap.size w w'
def DlSt (cm : Idl → Option Cmt) (L : List Idl) (W : World) (o i : Value) (wr : World) : Prop :=
  ∃ n, i = .int .i64 ((n : Nat) : Int) ∧ n ≤ L.length ∧ OwnQ wr W.heap.size 32 o (logN cm L n).length (idsF (logN cm L n)) ∧ Below W.heap.size W wr
set_option maxRecDepth 100000 in
set_option maxHeartbeats 4000000 in
theorem rlogd_any (vl vi : Value) (l : List Ob) (U : List Idl) (hU : CmOk (cmG (getS l)) U) (v1 : Value) (L : List Idl) (w : World) (hs : SrcRow w (.agg #[vl, vi]) l) (h1 : IdRow w v1 L) (hL : ∀ y ∈ L, y.length = 32) (hlen : L.length ≤ 1000) :
    Calls Tryz.prog 25 #[.agg #[vl, vi], v1] w (DlAns (cmG (getS l)) L w) := by
  obtain ⟨zi, i0, hi, hz0, hz1, hz2, hzi, hzil⟩ := id_zero
  have HZI := Lib.hid hzil
  obtain ⟨W, hW⟩ : ∃ W, w.alloc (.cells #[vl, vi] 30) = W := ⟨_, rfl⟩
  have hbW : Below w.heap.size w W := by rw [← hW]; exact (Below.refl _ _).alloc (Nat.le_refl _) _
  have hA := Arr.ofList w [vl, vi] 30
  have c0 : W.cell? ⟨w.heap.size, 0, none⟩ = some vl := by rw [← hW]; exact hA.cell 0 (by simp)
  have c1 : W.cell? ⟨w.heap.size, 1, none⟩ = some vi := by rw [← hW]; exact hA.cell 1 (by simp)
  have hsW : W.heap.size = w.heap.size + 1 := by rw [← hW]; simp
  obtain ⟨ao, cap, rfl, hmax, hcells⟩ := h1.open
  unfold maxLen at hmax
  have HRD := Lib.hid (fun W' (h : Below W.heap.size W W') (o : Value) (T : List Idl) (ho : IdRow W' o T) (hT : ∀ y ∈ T, y.length = 32) (x : Idl) (hx : x.length = 32) => rready_any vl vi l U hU (.slice ao L.length cap) o L T x W' ((hs.below hbW).below h) ((h1.below hbW).below h) ho hL hT hx)
  have HV : Hid (L ≠ [] → ∃ b off, ao = some ⟨b, off, none⟩ ∧ b < W.heap.size ∧ ∀ k (hk : k < L.length), W.rangeAt b (off + k * 32) (idC L[k])) := Lib.hid (fun hne => by
    obtain ⟨b, off, e, hb, hc⟩ := hcells hne
    exact ⟨b, off, e, Nat.lt_of_lt_of_le hb hbW.size, fun k hk => rangeAt_below (hc k hk) hbW hb⟩)
  have HBW := Lib.hid hbW
  have HC01 := Lib.hid (And.intro c0 c1)
  have HSW := Lib.hid hsW
  have HW := Lib.hid hW
  have HL := Lib.hid hL
  clear hs hU hbW hsW hW hA c0 c1 h1 hL hcells hzil
  generalize hcm : cmG (getS l) = cm at HRD
  clear hcm
  have HT32 : Hid (∀ n, ∀ y ∈ logN cm L n, y.length = 32) := Lib.hid (fun n y hy => HL.out y ((logN_telling L n).sub y hy))
  have HTL : Hid (∀ n, (logN cm L n).length ≤ 1000) := Lib.hid (fun n => Nat.le_trans (logN_len_le L n) hlen)
  go_enter Tryz.func25, Tryz.ntmps25
  go_wp2
  rw [HW.out]
  go_loopw [5, 6] (fun o i wr => DlSt cm L W o i wr) (fun _ i _ => (L.length - intOf i).toNat)
  case atStart => exact ⟨0, rfl, by omega, ownQ_nil _ _ _, Below.refl _ _⟩
  case round =>
    obtain ⟨wo, rfl⟩ : ∃ wo : World, wo = wr := ⟨_, rfl⟩
    obtain ⟨n, rfl, hn, ho, hb⟩ := hrel
    have HO := Lib.hid ho
    have HB := Lib.hid hb
    clear ho hb
    by_cases hlt : n < L.length
    · have d1 : decide ((n : Int) < L.length) = true := decide_eq_true (by omega)
      go_wp2
      go_loopw [5, 7] (fun o i wr => ∃ k : Nat, o = u5 ∧ k ≤ L.length ∧ i = .int .i64 k ∧ (∀ j (h : j < L.length), j < k → readyB cm L (logN cm L n) L[j] = false) ∧ Below wo.heap.size wo wr) (fun _ i _ => (L.length - intOf i).toNat)
      case atStart => exact ⟨0, rfl, by omega, rfl, (fun j _ hj => absurd hj (by omega)), Below.refl _ _⟩
      case round =>
        obtain ⟨wi, rfl⟩ : ∃ wi : World, wi = wr := ⟨_, rfl⟩
        obtain ⟨k, rfl, hk, rfl, hno, hbi⟩ := hrel
        have HNO := Lib.hid hno
        have hbw : Below W.heap.size W wi := HB.out.trans (hbi.mono HB.out.size)
        have HBI := Lib.hid hbw
        have HOI := Lib.hid (HO.out.below hbi)
        have HBO := Lib.hid hbi
        have hsz : W.heap.size ≤ wi.heap.size := hbw.size
        clear hno hbi
        by_cases hkl : k < L.length
        · obtain ⟨b, off, rfl, hbl, hcell⟩ := HV.out (by intro e; rw [e] at hkl; simp at hkl)
          have f1 := rangeAt_below (hcell k hkl) hbw hbl
          obtain ⟨y, hy⟩ : ∃ y, L[k] = y := ⟨_, rfl⟩
          have HYK := Lib.hid hy
          rw [hy] at f1
          have hyl : y.length = 32 := by rw [← hy]; exact HL.out _ (List.getElem_mem hkl)
          have hyc : (idC y).length = 32 := by rw [idC_len, hyl]
          have h32y := h32_of hyc
          have HSX := Lib.hid (fun X (hX : Below wi.heap.size wi X) => (⟨below_load HC01.out.1 (hbw.trans (hX.mono hsz)) (by have := HSW.out; omega), below_load HC01.out.2 (hbw.trans (hX.mono hsz)) (by have := HSW.out; omega), rangeAt_below f1 hX (by omega)⟩ : X.cell? ⟨w.heap.size, 0, none⟩ = some vl ∧ X.cell? ⟨w.heap.size, 1, none⟩ = some vi ∧ X.rangeAt b (off + k * 32) (idC y)))
          have hS0 := HSX.out wi.drew (Below.refl _ _).drew
          have HRDY := Lib.hid (HRD.out wi.drew hbw.drew _ (logN cm L n) ((HOI.out.row (HT32.out n)).below (Below.refl _ _).drew) (HT32.out n) y hyl)
          have HTLN := HTL.out n
          have HYC := Lib.hid hyc
          have HYO := Lib.hid (idC_one y)
          have HSZ : Hid (∀ w, (sizeOf 24).run Tryz.prog w = .ok (idC y).length w) := Lib.hid (fun w => by rw [hyc]; kernel_rfl)
          have HTS : Hid (idsF (logN cm L n ++ [y]) = idsF (logN cm L n) ++ idC y) := Lib.hid (idsF_snoc _ _)
          have k0 : (0 : Int) ≤ k := by omega
          have k1 : (k : Int) < L.length := by omega
          have d2 : decide ((k : Int) < L.length) = true := decide_eq_true k1
          clear hcell hy f1 hyl hbw hyc
          generalize hiy : idC y = uy at h32y HSX HRDY hS0 HYC HYO HSZ HTS
          clear hiy
          go_wp2
          refine wp_region_L 7 (fun w' => w'.cell? ⟨w.heap.size, 0, none⟩ = some vl ∧ w'.cell? ⟨w.heap.size, 1, none⟩ = some vi ∧ w'.rangeAt b (off + k * 32) uy) (by kernel_rfl) (by kernel_rfl) ?_
          refine WL.take (i := 0) (v := ?_) rfl (by kernel_rfl) (by decide) (by decide +kernel) (by decide +kernel) (fun _ _ _ h => h) rfl ?_ hS0 ?_
          rotate_left
          · (intro w' hSw; (try dsimp only at hSw); go_simp; (try with_reducible rfl))
          simp only [Act.put]; (try simp only [List.getElem_toArray]); (try simp only [List.getElem_cons_succ]); (try simp only [List.getElem_cons_zero]); (try simp only [List.setIfInBounds_toArray]); (try simp only [List.set_cons_succ]); (try simp only [List.set_cons_zero])
          refine WL.take (i := 1) (v := ?_) rfl (by kernel_rfl) (by decide) (by decide +kernel) (by decide +kernel) (fun _ _ _ h => h) rfl ?_ hS0 ?_
          rotate_left
          · (intro w' hSw; (try dsimp only at hSw); go_simp; (try with_reducible rfl))
          simp only [Act.put]; (try simp only [List.getElem_toArray]); (try simp only [List.getElem_cons_succ]); (try simp only [List.getElem_cons_zero]); (try simp only [List.setIfInBounds_toArray]); (try simp only [List.set_cons_succ]); (try simp only [List.set_cons_zero])
          refine WL.take (i := 2) (v := ?_) rfl (by kernel_rfl) (by decide) (by decide +kernel) (by decide +kernel) (fun _ _ _ h => h) rfl ?_ hS0 ?_
          rotate_left
          · (intro w' hSw; (try dsimp only at hSw); go_simp; (try with_reducible rfl))
          simp only [Act.put]; (try simp only [List.getElem_toArray]); (try simp only [List.getElem_cons_succ]); (try simp only [List.getElem_cons_zero]); (try simp only [List.setIfInBounds_toArray]); (try simp only [List.set_cons_succ]); (try simp only [List.set_cons_zero])
          refine WL.take (i := 3) (v := ?_) rfl (by kernel_rfl) (by decide) (by decide +kernel) (by decide +kernel) (fun _ _ _ h => h) rfl ?_ hS0 ?_
          rotate_left
          · (intro w' hSw; (try dsimp only at hSw); go_simp; (try with_reducible rfl))
          simp only [Act.put]; (try simp only [List.getElem_toArray]); (try simp only [List.getElem_cons_succ]); (try simp only [List.getElem_cons_zero]); (try simp only [List.setIfInBounds_toArray]); (try simp only [List.set_cons_succ]); (try simp only [List.set_cons_zero])
          refine WL.take (i := 4) (v := ?_) rfl (by kernel_rfl) (by decide) (by decide +kernel) (by decide +kernel) (fun _ _ _ h => h) rfl ?_ hS0 ?_
          rotate_left
          · (intro w' hSw; (try dsimp only at hSw); go_simp; (try with_reducible rfl))
          simp only [Act.put]; (try simp only [List.getElem_toArray]); (try simp only [List.getElem_cons_succ]); (try simp only [List.getElem_cons_zero]); (try simp only [List.setIfInBounds_toArray]); (try simp only [List.set_cons_succ]); (try simp only [List.set_cons_zero])
          refine WL.take (i := 5) (v := ?_) rfl (by kernel_rfl) (by decide) (by decide +kernel) (by decide +kernel) (fun _ _ _ h => h) rfl ?_ hS0 ?_
          rotate_left
          · (intro w' hSw; (try dsimp only at hSw); go_simp; (try with_reducible rfl))
          simp only [Act.put]; (try simp only [List.getElem_toArray]); (try simp only [List.getElem_cons_succ]); (try simp only [List.getElem_cons_zero]); (try simp only [List.setIfInBounds_toArray]); (try simp only [List.set_cons_succ]); (try simp only [List.set_cons_zero])
          refine WL.take (i := 6) (v := _) rfl (by kernel_rfl) (by decide) (by decide +kernel) (by decide +kernel) (fun _ _ _ h => h) rfl (fun w' hSw => exec_row 24 _ (hSw.2.2) Tryz.underlying24 rfl h32y _ rfl rfl) hS0 ?_
          simp only [Act.put]; (try simp only [List.getElem_toArray]); (try simp only [List.getElem_cons_succ]); (try simp only [List.getElem_cons_zero]); (try simp only [List.setIfInBounds_toArray]); (try simp only [List.set_cons_succ]); (try simp only [List.set_cons_zero])
          refine WL.last (n := 7) rfl rfl (by decide +kernel) (by decide +kernel) ?_
          go_wp2_with fail
          refine HRDY.out.mono ?_
          rintro e w2 ⟨rfl, hb2⟩
          have hb2 := drew_below hb2
          have HB2 := Lib.hid hb2
          have HF2 := Lib.hid (HSX.out w2 hb2).2.2
          have HO2 := Lib.hid (HOI.out.below hb2)
          have hs2 : W.heap.size ≤ w2.heap.size := by have := hb2.size; omega
          clear hb2 hS0 HSX HRDY
          cases hrb : readyB cm L (logN cm L n) y with
          | true =>
            have HST : Hid (logN cm L (n + 1) = logN cm L n ++ [y]) := Lib.hid (by
              have := logStep_at hkl (fun j hj => HNO.out j (by omega) hj) (by rw [HYK.out]; exact hrb)
              rw [HYK.out] at this
              exact this)
            clear hrb
            have f2 := HF2.out
            have hb3 : Below w2.heap.size w2 (w2.alloc (.cells uy.toArray 24)) := (Below.refl _ _).alloc (Nat.le_refl _) _
            have HO3 := Lib.hid (HO2.out.below hb3)
            have HNEW : Hid (∀ j u, uy[j]? = some u → (w2.alloc (.cells uy.toArray 24)).cell? ((⟨w2.heap.size, 0, none⟩ : Addr).add j) = some u) := Lib.hid (fun j u hj => cells_newL _ uy _ j u hj)
            have HB3 := Lib.hid (HBI.out.trans ((HB2.out.trans (hb3.mono HB2.out.size)).mono hsz))
            have hs3 : W.heap.size ≤ (w2.alloc (.cells uy.toArray 24)).heap.size := by rw [World.size_alloc]; omega
            clear hb3
            go_wp2_with (first
              | (refine wpList_load_mid rfl 24 _ rfl b (off + k * 32) rfl uy _ f2 Tryz.underlying24 rfl h32y ?_)
              | (refine wpList_buildSlice_one rfl (.tmp 32) 28 24 rfl uy zi rfl Tryz.underlying28 HSZ.out hzi (by rw [HYC.out]; omega) (by rw [HYC.out]; omega) ?_)
              | (refine wpList_append_q rfl (.tmp 28) (.tmp 33) 28 rfl W.heap.size 24 i0 (.agg zi) 32 32 Tryz.underlying28 hi hz0 hz1 hz2 HZI.out (by decide) _ (logN cm L n).length (idsF (logN cm L n)) rfl HO3.out (some ⟨w2.heap.size, 0, none⟩) 1 1 uy rfl (by rw [HYC.out]) (fun _ => ⟨_, rfl, HNEW.out⟩) HYO.out (by unfold maxLen; omega) (by omega) hs3 ?_))
            intro o9 w9 hq9 hg9 _
            have HEND : Hid (DlSt cm L W o9 (.int .i64 ((n : Int) + 1)) w9) := Lib.hid ⟨n + 1, by rw [Int.natCast_add]; rfl, by omega, by rw [HST.out, HTS.out, List.length_append, List.length_singleton]; exact hq9, HB3.out.grown hg9 HB3.out.size (fun j hj => (HO3.out.lt j hj).1)⟩
            clear hq9 hg9
            go_wp2
            go_roundw
            case rel => exact HEND.out
            case measure => simp [intOf]; omega
          | false =>
            have HNX : Hid (∀ j (h : j < L.length), j < k + 1 → readyB cm L (logN cm L n) L[j] = false) := Lib.hid (fun j h hj => by
              by_cases e : j = k
              · subst e; rw [HYK.out]; exact hrb
              · exact HNO.out j h (by omega))
            clear hrb
            go_wp2
            go_roundw
            case rel => exact ⟨k + 1, rfl, by omega, by go_num, HNX.out, HBO.out.trans (HB2.out.mono HBO.out.size)⟩
            case measure => simp [intOf]; omega
        · have d2 : decide ((k : Int) < L.length) = false := decide_eq_false (by omega)
          have HEND : Hid (DlSt cm L W u5 (.int .i64 ((n : Int) + 1)) wi) := Lib.hid ⟨n + 1, by rw [Int.natCast_add]; rfl, by omega, by
            show OwnQ wi W.heap.size 32 u5 (logStep cm L (logN cm L n)).length (idsF (logStep cm L (logN cm L n)))
            rw [logStep_not (fun j hj => HNO.out j hj (by omega))]
            exact HOI.out, HBI.out⟩
          go_wp2
          go_roundw
          case rel => exact HEND.out
          case measure => simp [intOf]; omega
    · have hne : n = L.length := by omega
      have d1 : decide ((n : Int) < L.length) = false := decide_eq_false (by omega)
      have HEND : Hid (∃ v, v = u5 ∧ OwnQ wo W.heap.size 32 v (logOf cm L).length (idsF (logOf cm L))) := Lib.hid ⟨_, rfl, by unfold logOf; rw [← hne]; exact HO.out⟩
      go_wp2
      go_ret
      obtain ⟨v, rfl, hq⟩ := HEND.out
      exact ⟨_, rfl, hq.mono (by have := HSW.out; omega), HBW.out.trans (HB.out.mono (by have := HSW.out; omega))⟩
end Go.Proofs.YtbmiiiccnoiffaaGreatDoor
