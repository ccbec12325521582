/- YtbmiiiccnoiffaaGreatDoorL46: texts K8, Q0 of this claim, in one. -/
import Derived.Deep.CutRange
import Derived.Laws.MakeOwn
import Derived.Test.YtbmiiiccnoiffaaGreatDoorL17
import Derived.Test.YtbmiiiccnoiffaaGreatDoorL30
import Derived.Test.YtbmiiiccnoiffaaGreatDoorL43
import Derived.Test.YtbmiiiccnoiffaaGreatDoorL44
import Derived.Test.YtbmiiiccnoiffaaGreatDoorL45
namespace Go.Proofs.YtbmiiiccnoiffaaGreatDoor
open Go.RowKit
variable {cm : Idl → Option Cmt}
theorem arr_made (w : World) (n : Nat) (e : TypeId) : Arr (w.alloc (.cells (madeCells (Value.int .i64 0).cells (n * 1)) e)) w.heap.size n (fun _ => .int .i64 0) := by
  have : madeCells (Value.int .i64 0).cells (n * 1) = Array.replicate n (.int .i64 0) := by
    apply Array.ext
    · simp [madeCells]
    · intro i h1 h2
      show (madeCells #[Value.int .i64 0] (n * 1))[i]'h1 = _
      simp [madeCells, Nat.mod_one]
  rw [this]
  exact Arr.new w n _ e
/-- Ages, from the j-th on. -/
def agF (cm : Idl → Option Cmt) (T : List Idl) (j k : Nat) : Value := if j ≤ k then .int .i64 (ageOf cm (T.getD k []) : Int) else .int .i64 0
theorem agF_next (T : List Idl) (m k : Nat) : upd (agF cm T (m + 1)) m (.int .i64 (ageOf cm (T.getD m []) : Int)) k = agF cm T m k := by
  unfold upd agF
  by_cases e : k = m
  · subst e; rw [if_pos rfl, if_pos (Nat.le_refl _)]
  · rw [if_neg e]
    by_cases h : m + 1 ≤ k
    · rw [if_pos h, if_pos (by omega)]
    · rw [if_neg h, if_neg (by omega)]
def DaSt (cm : Idl → Option Cmt) (T : List Idl) (x : Idl) (ab : Nat) (W : World) (i : Value) (wr : World) : Prop :=
  ∃ (j : Nat) (z : Int), i = .int .i64 z ∧ z + 1 = (j : Int) ∧ j ≤ T.length ∧ Arr wr ab T.length (agF cm T j) ∧ (∀ k, j ≤ k → k < T.length → T.getD k [] ≠ x) ∧ Below W.heap.size W wr
def DaIn (cm : Idl → Option Cmt) (T : List Idl) (ab m : Nat) (wc : World) (i : Value) (wr : World) : Prop :=
  ∃ s : Nat, i = .int .i64 ((m + 1 + s : Nat) : Int) ∧ m + 1 + s ≤ T.length ∧ Arr wr ab T.length (upd (agF cm T (m + 1)) m (.int .i64 (scanA cm T m s : Int))) ∧ wc.grownBy wr (some ab)
set_option maxRecDepth 100000 in
set_option maxHeartbeats 4000000 in
theorem raged_any (vl vi : Value) (l : List Ob) (U : List Idl) (hU : CmOk (cmG (getS l)) U) (v1 : Value) (L : List Idl) (w : World) (hs : SrcRow w (.agg #[vl, vi]) l) (h1 : IdRow w v1 L) (hon : LogOn (cmG (getS l)) L) (x : Idl) (hx : x ∈ L) :
    Calls Tryz.prog 27 #[.agg #[vl, vi], v1, .agg (idC x).toArray] w fun e w' => e = .returned (.int .i64 (ageOf (cmG (getS l)) x : Int)) ∧ Below w.heap.size w w' := by
  obtain ⟨zc, hzc, _, hzce⟩ := cm_zero
  have HZC := Lib.hid (show zc.size = 34 by rw [hzce]; exact cmC_len _ _ _ zid_len)
  have hxl := hon.l32 x hx
  have h32x := h32_of (us := idC x) (by rw [idC_len, hxl])
  obtain ⟨W, hW⟩ : ∃ W, (w.alloc (.cells #[vl, vi] 30)).alloc (.cells (idC x).toArray 24) = W := ⟨_, rfl⟩
  have hbW : Below w.heap.size w W := by rw [← hW]; exact ((Below.refl _ _).alloc (Nat.le_refl _) _).alloc (by simp) _
  have hA := (Arr.ofList w [vl, vi] 30).alloc (by simp) (.cells (idC x).toArray 24)
  have c0 : W.cell? ⟨w.heap.size, 0, none⟩ = some vl := by rw [← hW]; exact hA.cell 0 (by simp)
  have c1 : W.cell? ⟨w.heap.size, 1, none⟩ = some vi := by rw [← hW]; exact hA.cell 1 (by simp)
  have hrx : W.rangeAt (w.heap.size + 1) 0 (idC x) := by rw [← hW]; exact range_new _ _ _ (by simp)
  have hsW : W.heap.size = w.heap.size + 1 + 1 := by rw [← hW]; simp
  have HLG := Lib.hid (rlogd_any vl vi l U hU v1 L W (hs.below hbW) (h1.below hbW) hon.l32 hon.len)
  have HCM := Lib.hid (fun y (hy : y.length = 32) W' (h : Below W.heap.size W W') => rcmt_fr vl vi l y W' ((hs.below hbW).below h) hy)
  have HTL : Hid (∀ c, ∀ y, cmG (getS l) y = some c → c.tree.length = 32 ∧ ∀ q ∈ c.pars, q.length = 32) := Lib.hid (fun c y h => ⟨hU.tree y c h, hU.pars y c h⟩)
  have HBW := Lib.hid hbW
  have HC01 := Lib.hid (And.intro c0 c1)
  have HRX := Lib.hid hrx
  have HSW := Lib.hid hsW
  have HW := Lib.hid hW
  have HX := Lib.hid hx
  have HXL := Lib.hid hxl
  have HON := Lib.hid hon
  clear hs hx hxl hU hbW hrx hsW hW hA h1 hon hzce
  generalize hcm : cmG (getS l) = cm at HLG HCM HTL HON
  clear hcm
  generalize hiy : idC x = ux at h32x HRX HW
  have HIX := Lib.hid hiy
  clear hiy
  have HTE : Hid (Telling cm L (logOf cm L)) := Lib.hid (logOf_telling L)
  have HTM : Hid (∀ y, y ∈ logOf cm L ↔ y ∈ L) := Lib.hid (fun y => logOf_mem HON.out.acyc HON.out.asc.nodup y)
  have HTN : Hid ((logOf cm L).length ≤ 1000) := Lib.hid (by rw [logOf_len HON.out.acyc HON.out.asc.nodup]; exact HON.out.len)
  unfold DlAns at HLG
  generalize logOf cm L = T at HLG HTE HTM HTN
  go_enter Tryz.func27, Tryz.ntmps27
  go_wp2_with fail
  rw [HW.out]
  refine HLG.out.mono ?_
  rintro e w1 ⟨v, rfl, hq, hb1⟩
  have HT32 : Hid (∀ y ∈ T, y.length = 32) := Lib.hid (fun y hy => HON.out.l32 y ((HTM.out y).1 hy))
  have HROW := Lib.hid (hq.row HT32.out)
  obtain ⟨ao, cap, rfl, hmax, hcells⟩ := HROW.out.open
  have HCE := Lib.hid hcells
  have hTn := HTN.out
  have i4 : ∃ i4 : TypeInfo, Tryz.prog.info? 3 = some i4 ∧ i4.zero = some (.int .i64 0) ∧ i4.size = 1 ∧ i4.bytes = 8 := by
    have h : (Tryz.prog.info? 3).map (fun i => (i.zero, i.size, i.bytes)) = some (some (.int .i64 0), 1, 8) := by kernel_rfl
    exact info_parts h
  obtain ⟨i4, hi4, hz4, hz41, hz42⟩ := i4
  have hmk : ∀ w : World, (Instr.makeSlice 118 (.int .i64 (T.length : Int)) (.int .i64 (T.length : Int))).run Tryz.prog w = .ok (.slice (some ⟨w.heap.size, 0, none⟩) T.length T.length) (w.alloc (.cells (madeCells (Value.int .i64 0).cells (T.length * 1)) 3)) := fun w => by
    have h := run_make (P := Tryz.prog) w 118 3 i4 (.int .i64 0) Tryz.underlying118 hi4 hz4 .i64 .i64 T.length T.length (by omega) (by omega) (by rw [hz42]; omega) (by omega)
    rw [hz41] at h
    simpa using h
  have HAR := Lib.hid (fun w : World => arr_made w T.length 3)
  generalize Obj.cells (madeCells (Value.int .i64 0).cells (T.length * 1)) 3 = X at hmk HAR
  have hb2 : Below w1.heap.size w1 (w1.alloc X) := (Below.refl _ _).alloc (Nat.le_refl _) _
  have HB1 := Lib.hid hb1
  have HBX := Lib.hid hb2
  have hwr1 : IntKind.i64.wrap ((T.length : Int) - 1) = (T.length : Int) - 1 := IntWalk.i64_in _ (by omega)
  have hs1 : w.heap.size + 1 + 1 ≤ w1.heap.size := by rw [← HSW.out]; exact hb1.size
  clear hq hb1 hb2 hi4 hz4 hz41 hz42 hcells HLG HW c0 c1
  go_wp2
  go_loopw [9] (fun i wr => DaSt cm T x w1.heap.size w1 i wr) (fun i _ => (intOf i + 1).toNat)
  case atStart => exact ⟨T.length, _, rfl, by omega, Nat.le_refl _, (HAR.out w1).congr (fun k hk => by unfold agF; rw [if_neg (by omega)]), fun k h1 h2 => absurd h2 (by omega), HBX.out⟩
  case round =>
    obtain ⟨wo, rfl⟩ : ∃ wo : World, wo = wr := ⟨_, rfl⟩
    obtain ⟨j, z, rfl, hzj, hj, har, hno, hb⟩ := hrel
    cases j with
    | zero =>
      exfalso
      obtain ⟨k, hk, ek⟩ := List.getElem_of_mem ((HTM.out x).2 HX.out)
      exact hno k (by omega) hk (by rw [List.getD_eq_getElem?_getD, List.getElem?_eq_getElem hk]; exact ek)
    | succ m =>
      obtain rfl : z = (m : Int) := by omega
      clear hzj
      have hm : m < T.length := by omega
      obtain ⟨b, off, rfl, hbl, hcell⟩ := HCE.out (by intro e; rw [e] at hm; simp at hm)
      have f1 := rangeAt_below (hcell m hm) hb hbl
      obtain ⟨y, hy⟩ : ∃ y, T[m] = y := ⟨_, rfl⟩
      have HYM : Hid (T.getD m [] = y) := Lib.hid (by rw [List.getD_eq_getElem?_getD, List.getElem?_eq_getElem hm, ← hy]; rfl)
      have HYT := Lib.hid hy
      rw [hy] at f1
      have hyl : y.length = 32 := by rw [← hy]; exact HT32.out _ (List.getElem_mem hm)
      have h32y := h32_of (us := idC y) (by rw [idC_len, hyl])
      have hwo := hb.size
      have hbw : Below W.heap.size W wo := HB1.out.trans (hb.mono HB1.out.size)
      have hSX : ∀ X, Below wo.heap.size wo X → X.cell? ⟨w.heap.size, 0, none⟩ = some vl ∧ X.cell? ⟨w.heap.size, 1, none⟩ = some vi ∧ X.rangeAt b (off + m * 32) (idC y) := fun X hX => by
        have hWX := hbw.trans (hX.mono hbw.size)
        exact ⟨below_load HC01.out.1 hWX (by have := HSW.out; omega), below_load HC01.out.2 hWX (by have := HSW.out; omega), rangeAt_below f1 hX (by omega)⟩
      have HSX := Lib.hid hSX
      have HCY := Lib.hid (fun X (h : Below wo.heap.size wo X) => HCM.out y hyl X (hbw.trans (h.mono hbw.size)))
      have habl : w1.heap.size < wo.heap.size := har.lt (by omega)
      have HRXO := Lib.hid (rangeAt_below HRX.out hbw (by have := HSW.out; omega))
      have HAR2 := Lib.hid har
      have HNO := Lib.hid hno
      have HB := Lib.hid hb
      have HYL := Lib.hid hyl
      have heqx := id_eqIn y x hyl HXL.out
      rw [HIX.out] at heqx
      have HEQX := Lib.hid heqx
      clear heqx
      have m0 : (0 : Int) ≤ m := by omega
      have m1 : (m : Int) < T.length := by omega
      have h34 : (Tryz.prog.info? 97).map (·.size) = some 34 := by kernel_rfl
      clear hy f1 hSX hyl har hno hb hcell hbw
      generalize hiy : idC y = uy at h32y HSX HCY HEQX
      have HIY := Lib.hid hiy
      clear hiy
      go_upto_region 6 with fail
      go_cut [10, 11] from 22 to 82 (fun s10 _ wx => ∃ P ao2 cap2, s10 = .pointer (some ⟨P, 0, none⟩) ∧ wo.heap.size ≤ P ∧ Hid (wx.cell? ⟨P, 32, none⟩ = some (.slice ao2 (par cm y).length cap2)) ∧ Hid (IdRow wx (.slice ao2 (par cm y).length cap2) (par cm y)) ∧ Hid (∀ k, (Value.slice ao2 (par cm y).length cap2).ownBlock = some k → wo.heap.size ≤ k) ∧ Hid (Below wo.heap.size wo wx))
      case first =>
        have hS0 := HSX.out wo.drew (Below.refl _ _).drew
        refine wp_region_L 11 (fun w' => w'.cell? ⟨w.heap.size, 0, none⟩ = some vl ∧ w'.cell? ⟨w.heap.size, 1, none⟩ = some vi ∧ w'.rangeAt b (off + m * 32) uy) (by kernel_rfl) (by kernel_rfl) ?_
        refine WL.take (i := 0) (v := ?_) rfl (by kernel_rfl) (by decide) (by decide +kernel) (by decide +kernel) (fun _ _ _ h => h) rfl ?_ hS0 ?_
        rotate_left
        · (intro w' hSw; (try dsimp only at hSw); go_simp; (try with_reducible rfl))
        simp only [Act.put]; (try simp only [List.getElem_toArray]); (try simp only [List.getElem_cons_succ]); (try simp only [List.getElem_cons_zero]); (try simp only [List.setIfInBounds_toArray]); (try simp only [List.set_cons_succ]); (try simp only [List.set_cons_zero])
        refine WL.take (i := 1) (v := ?_) rfl (by kernel_rfl) (by decide) (by decide +kernel) (by decide +kernel) (fun _ _ _ h => h) rfl ?_ hS0 ?_
        rotate_left
        · (intro w' hSw; (try dsimp only at hSw); go_simp; (try with_reducible rfl))
        simp only [Act.put]; (try simp only [List.getElem_toArray]); (try simp only [List.getElem_cons_succ]); (try simp only [List.getElem_cons_zero]); (try simp only [List.setIfInBounds_toArray]); (try simp only [List.set_cons_succ]); (try simp only [List.set_cons_zero])
        refine WL.take (i := 2) (v := ?_) rfl (by kernel_rfl) (by decide) (by decide +kernel) (by decide +kernel) (fun _ _ _ h => h) rfl ?_ hS0 ?_
        rotate_left
        · (intro w' hSw; (try dsimp only at hSw); go_simp; (try with_reducible rfl))
        simp only [Act.put]; (try simp only [List.getElem_toArray]); (try simp only [List.getElem_cons_succ]); (try simp only [List.getElem_cons_zero]); (try simp only [List.setIfInBounds_toArray]); (try simp only [List.set_cons_succ]); (try simp only [List.set_cons_zero])
        refine WL.take (i := 3) (v := ?_) rfl (by kernel_rfl) (by decide) (by decide +kernel) (by decide +kernel) (fun _ _ _ h => h) rfl ?_ hS0 ?_
        rotate_left
        · (intro w' hSw; (try dsimp only at hSw); go_simp; (try with_reducible rfl))
        simp only [Act.put]; (try simp only [List.getElem_toArray]); (try simp only [List.getElem_cons_succ]); (try simp only [List.getElem_cons_zero]); (try simp only [List.setIfInBounds_toArray]); (try simp only [List.set_cons_succ]); (try simp only [List.set_cons_zero])
        refine WL.take (i := 4) (v := _) rfl (by kernel_rfl) (by decide) (by decide +kernel) (by decide +kernel) (fun _ _ _ h => h) rfl (fun w' hSw => exec_row 24 _ (hSw.2.2) Tryz.underlying24 rfl h32y _ rfl rfl) hS0 ?_
        simp only [Act.put]; (try simp only [List.getElem_toArray]); (try simp only [List.getElem_cons_succ]); (try simp only [List.getElem_cons_zero]); (try simp only [List.setIfInBounds_toArray]); (try simp only [List.set_cons_succ]); (try simp only [List.set_cons_zero])
        refine WL.two (i := 5) (k := 9) rfl rfl (by decide) (by decide) (by decide +kernel) ?_ ?_
        focus
          go_wp2_with fail
          refine (HCY.out _ (Below.refl _ _).drew).mono ?_
          rintro e w4 ⟨v, rfl, hrow, hb4, hfr⟩
          have hb4 := drew_below hb4
          have hS4 := HSX.out _ hb4
          have HB4 := Lib.hid hb4
          obtain ⟨ao2, lcap, rfl, _⟩ := hrow.flat0
          have HROW := Lib.hid hrow
          have HFRS := Lib.hid hfr
          clear hb4 hrow hfr HCY
          obtain ⟨ct, hct⟩ : ∃ ct, cmC ((cm y).getD cmt0).tree (.slice ao2 ((cm y).getD cmt0).pars.length lcap) ((cm y).getD cmt0).text = ct := ⟨_, rfl⟩
          obtain ⟨HCL, HCO, HC32⟩ := cmt_facts HTL.out hct
          rw [hct]
          clear hct
          go_wp2
          refine ⟨hS4, ?_⟩
          refine WL.take (i := 6) (v := ?_) rfl (by kernel_rfl) (by decide) (by decide +kernel) (by decide +kernel) (fun _ _ _ h => h) rfl ?_ hS4 ?_
          rotate_left
          · (intro w' hSw; (try dsimp only at hSw); go_simp; (try with_reducible rfl))
          simp only [Act.put]; (try simp only [List.getElem_toArray]); (try simp only [List.getElem_cons_succ]); (try simp only [List.getElem_cons_zero]); (try simp only [List.setIfInBounds_toArray]); (try simp only [List.set_cons_succ]); (try simp only [List.set_cons_zero])
          refine WL.take (i := 7) (v := ?_) rfl (by kernel_rfl) (by decide) (by decide +kernel) (by decide +kernel) (fun _ _ _ h => h) rfl ?_ hS4 ?_
          rotate_left
          · (intro w' hSw; (try dsimp only at hSw); go_simp; (try with_reducible rfl))
          simp only [Act.put]; (try simp only [List.getElem_toArray]); (try simp only [List.getElem_cons_succ]); (try simp only [List.getElem_cons_zero]); (try simp only [List.setIfInBounds_toArray]); (try simp only [List.set_cons_succ]); (try simp only [List.set_cons_zero])
          refine WL.take (i := 8) (v := ?_) rfl (by kernel_rfl) (by decide) (by decide +kernel) (by decide +kernel) (fun _ _ _ h => h) rfl ?_ hS4 ?_
          rotate_left
          · (intro w' hSw; (try dsimp only at hSw); go_simp; (try with_reducible rfl))
          simp only [Act.put]; (try simp only [List.getElem_toArray]); (try simp only [List.getElem_cons_succ]); (try simp only [List.getElem_cons_zero]); (try simp only [List.setIfInBounds_toArray]); (try simp only [List.set_cons_succ]); (try simp only [List.set_cons_zero])
          refine WL.one (i := 9) rfl (by decide) (by decide +kernel) ?_
          have hb5 : Hid (Below wo.heap.size wo (w4.alloc (.cells zc 97))) := Lib.hid (HB4.out.alloc HB4.out.size _)
          have hth := Lib.hid (there_alloc w4 zc 97 HZC.out)
          go_wp2
          have hS5 := HSX.out _ hb5.out
          refine ⟨hS5, ?_⟩
          refine WL.one (i := 10) rfl (by decide) (by decide +kernel) ?_
          refine wpList_store_list rfl 97 _ _ rfl w4.heap.size 0 ct rfl rfl 34 HCL.out hth.out h34 HCO.out ?_
          obtain ⟨p, hp⟩ : ∃ p, p = w4.heap.size := ⟨_, rfl⟩
          have HP := World.rangeAt_setCells_same (w4.alloc (.cells zc 97)) w4.heap.size 0 ct (by rw [HCL.out]; exact hth.out)
          have HB5 := Lib.hid (below_setCells w4.heap.size HB4.out.size ct 0 _ hb5.out)
          have HR5 : Hid (IdRow ((w4.alloc (.cells zc 97)).setCells w4.heap.size 0 ct) (.slice ao2 ((cm y).getD cmt0).pars.length lcap) ((cm y).getD cmt0).pars) := Lib.hid (HROW.out.below (below_setCells w4.heap.size (Nat.le_refl _) ct 0 _ ((Below.refl _ _).alloc (Nat.le_refl _) _)))
          generalize (w4.alloc (.cells zc 97)).setCells w4.heap.size 0 ct = W5 at HP HB5 HR5
          rw [← hp] at HP ⊢
          have hpo : wo.heap.size ≤ p := by rw [hp]; exact HB4.out.size
          have HFX : Hid (∀ k, (Value.slice ao2 ((cm y).getD cmt0).pars.length lcap).ownBlock = some k → wo.heap.size ≤ k) := Lib.hid (fun k hk => HFRS.out k hk)
          clear hp hth hb5 HB4 HROW HFRS hS4 hS5
        rotate_left
        focus
          go_wp2_with fail
          have hb3 : Hid (Below wo.heap.size wo (wo.drew.alloc (.cells zc 97))) := Lib.hid ((Below.refl _ _).drew.alloc (Nat.le_refl _) _)
          have hth3 := Lib.hid (there_alloc wo.drew zc 97 HZC.out)
          have hS4 := HSX.out _ hb3.out
          refine ⟨hS4, ?_⟩
          refine WL.one (i := 5) rfl (by decide) (by decide +kernel) ?_
          go_wp2_with fail
          refine (HCY.out _ hb3.out).mono ?_
          rintro e w4 ⟨v, rfl, hrow, hb4, hfr⟩
          have hth := Lib.hid (there_below hth3.out hb4 (by simp))
          have hb4' := Lib.hid (hb3.out.trans (hb4.mono hb3.out.size))
          have hS5 := HSX.out _ hb4'.out
          obtain ⟨ao2, lcap, rfl, _⟩ := hrow.flat0
          have HROW := Lib.hid hrow
          have HFRS := Lib.hid hfr
          clear hb4 hrow hfr HCY
          obtain ⟨ct, hct⟩ : ∃ ct, cmC ((cm y).getD cmt0).tree (.slice ao2 ((cm y).getD cmt0).pars.length lcap) ((cm y).getD cmt0).text = ct := ⟨_, rfl⟩
          obtain ⟨HCL, HCO, HC32⟩ := cmt_facts HTL.out hct
          rw [hct]
          clear hct
          go_wp2
          refine ⟨hS5, ?_⟩
          refine WL.take (i := 6) (v := ?_) rfl (by kernel_rfl) (by decide) (by decide +kernel) (by decide +kernel) (fun _ _ _ h => h) rfl ?_ hS5 ?_
          rotate_left
          · (intro w' hSw; (try dsimp only at hSw); go_simp; (try with_reducible rfl))
          simp only [Act.put]; (try simp only [List.getElem_toArray]); (try simp only [List.getElem_cons_succ]); (try simp only [List.getElem_cons_zero]); (try simp only [List.setIfInBounds_toArray]); (try simp only [List.set_cons_succ]); (try simp only [List.set_cons_zero])
          refine WL.take (i := 7) (v := ?_) rfl (by kernel_rfl) (by decide) (by decide +kernel) (by decide +kernel) (fun _ _ _ h => h) rfl ?_ hS5 ?_
          rotate_left
          · (intro w' hSw; (try dsimp only at hSw); go_simp; (try with_reducible rfl))
          simp only [Act.put]; (try simp only [List.getElem_toArray]); (try simp only [List.getElem_cons_succ]); (try simp only [List.getElem_cons_zero]); (try simp only [List.setIfInBounds_toArray]); (try simp only [List.set_cons_succ]); (try simp only [List.set_cons_zero])
          refine WL.take (i := 8) (v := ?_) rfl (by kernel_rfl) (by decide) (by decide +kernel) (by decide +kernel) (fun _ _ _ h => h) rfl ?_ hS5 ?_
          rotate_left
          · (intro w' hSw; (try dsimp only at hSw); go_simp; (try with_reducible rfl))
          simp only [Act.put]; (try simp only [List.getElem_toArray]); (try simp only [List.getElem_cons_succ]); (try simp only [List.getElem_cons_zero]); (try simp only [List.setIfInBounds_toArray]); (try simp only [List.set_cons_succ]); (try simp only [List.set_cons_zero])
          refine WL.one (i := 10) rfl (by decide) (by decide +kernel) ?_
          refine wpList_store_list rfl 97 _ _ rfl wo.heap.size 0 ct rfl rfl 34 HCL.out hth.out h34 HCO.out ?_
          obtain ⟨p, hp⟩ : ∃ p, p = wo.heap.size := ⟨_, rfl⟩
          have HP := World.rangeAt_setCells_same w4 wo.heap.size 0 ct (by rw [HCL.out]; exact hth.out)
          have HB5 := Lib.hid (below_setCells wo.heap.size (Nat.le_refl _) ct 0 _ hb4'.out)
          have HR5 : Hid (IdRow (w4.setCells wo.heap.size 0 ct) (.slice ao2 ((cm y).getD cmt0).pars.length lcap) ((cm y).getD cmt0).pars) := Lib.hid (HROW.out.grown (grownBy_setCells w4 wo.heap.size 0 ct) (.inr fun g hg e => by
            have h1 := HFRS.out g hg
            have h2 := Option.some.inj e
            simp at h1; omega))
          generalize w4.setCells wo.heap.size 0 ct = W5 at HP HB5 HR5
          rw [← hp] at HP ⊢
          have hpo : wo.heap.size ≤ p := by omega
          have HFX : Hid (∀ k, (Value.slice ao2 ((cm y).getD cmt0).pars.length lcap).ownBlock = some k → wo.heap.size ≤ k) := Lib.hid (fun k hk => by have := HFRS.out k hk; simp at this; omega)
          clear hp hth hth3 hb3 hb4' HROW HFRS hS4 hS5
        all_goals
          have hSF := HSX.out _ HB5.out
          refine ⟨hSF, ?_⟩
          refine WL.last (n := 11) rfl rfl (by decide +kernel) (by decide +kernel) ?_
          have c32 : W5.cell? ⟨p, 32, none⟩ = some (.slice ao2 ((cm y).getD cmt0).pars.length lcap) := by have := HP 32 _ HC32.out; rwa [Nat.zero_add] at this
          rw [par_getD] at c32
          rw [par_getD] at HR5
          rw [par_getD] at HFX
          have HC5 := Lib.hid c32
          clear hSF hS0 HP c32
          go_wp2_with fail
          go_meet
          exact ⟨p, ao2, lcap, rfl, hpo, HC5, HR5, HFX, HB5⟩
      case rest =>
        obtain ⟨P, ao2, cap2, rfl, hP, HC5, HR5, HFX, HB5⟩ := hcut
        have har5 := HAR2.out.below HB5.out habl
        have HAR5 := Lib.hid (har5.set m hm (.int .i64 1))
        have sc5 : wc.cell? ⟨w1.heap.size, m, none⟩ = some (.int .i64 0) := by
          have := har5.cell m hm
          unfold agF at this
          rwa [if_neg (by omega)] at this
        have sf5 := har5.free m hm
        have HPW : Hid (P < wc.heap.size) := Lib.hid (World.block_lt_of_cell? wc ⟨P, 32, none⟩ HC5.out)
        have hswo : wo.heap.size ≤ wc.heap.size := HB5.out.size
        have hwm : IntKind.i64.wrap ((m : Int) + 1) = (m : Int) + 1 := IntWalk.i64_in _ (by omega)
        clear har5 HCY HSX HAR2
        go_wp2
        go_loopw [12] (fun i wr => DaIn cm T w1.heap.size m wc i wr) (fun i _ => (T.length - intOf i).toNat)
        case atStart => exact ⟨0, by rw [show ((m + 1 + 0 : Nat) : Int) = (m : Int) + 1 from by omega], by omega, HAR5.out, grown_set (World.grownBy.refl wc _) _⟩
        case round =>
          obtain ⟨wi, rfl⟩ : ∃ wi : World, wi = wr := ⟨_, rfl⟩
          obtain ⟨s, rfl, hs, hari, hgi⟩ := hrel
          have hwci : wc.heap.size ≤ wi.heap.size := hgi.size
          have HBWI : Hid (Below w1.heap.size w1 wi) := Lib.hid ((HB.out.trans (HB5.out.mono hwo)).grown hgi (by omega) (fun j hj => by cases hj; exact Nat.le_refl _))
          have HGI := Lib.hid hgi
          have HARI := Lib.hid hari
          obtain ⟨kk, hkk⟩ : ∃ kk, m + 1 + s = kk := ⟨_, rfl⟩
          have HKK := Lib.hid hkk
          rw [hkk] at hs ⊢
          clear hari hgi HAR5 sc5 sf5
          by_cases hlt : kk < T.length
          · obtain ⟨zz, hzz⟩ : ∃ zz, T[kk] = zz := ⟨_, rfl⟩
            obtain ⟨b', off', hbo, _, hcell⟩ := HCE.out (by intro e; rw [e] at hm; simp at hm)
            obtain ⟨rfl, rfl⟩ : b' = b ∧ off' = off := by cases hbo; exact ⟨rfl, rfl⟩
            have f2 := rangeAt_below (hcell kk hlt) HBWI.out hbl
            rw [hzz] at f2
            have HZD : Hid (T.getD (m + 1 + s) [] = zz) := Lib.hid (by rw [HKK.out, List.getD_eq_getElem?_getD, List.getElem?_eq_getElem hlt, ← hzz]; rfl)
            have hzl : zz.length = 32 := by rw [← hzz]; exact HT32.out _ (List.getElem_mem hlt)
            have h32z := h32_of (us := idC zz) (by rw [idC_len, hzl])
            have c32 := HGI.out.cell (a := ⟨P, 32, none⟩) HC5.out (fun e => by have h2 : P = w1.heap.size := Option.some.inj e; omega)
            have hrow := HR5.out.grown HGI.out (.inr fun k hk e => by have h1 := HFX.out k hk; have h2 := Option.some.inj e; omega)
            have hps : ∀ q ∈ par cm y, q.length = 32 := fun q hq => by
              cases e : cm y with
              | none => unfold par at hq; rw [e] at hq; cases hq
              | some c => rw [par_of e] at hq; exact (HTL.out c y e).2 q hq
            have hin := fun X : BW wi.heap.size wi => rin_any _ _ zz X.out (hrow.below X.hb) hps hzl
            obtain ⟨A, hA⟩ : ∃ A, ageOf cm zz = A := ⟨_, rfl⟩
            obtain ⟨sc, hsc⟩ : ∃ sc, scanA cm T m s = sc := ⟨_, rfl⟩
            have hA1 : A ≤ 1000 := by
              rw [← hA]
              exact Nat.le_trans (age_le HON.out.acyc HON.out.pars HON.out.len ((HTM.out zz).1 (by rw [← hzz]; exact List.getElem_mem hlt))) HON.out.len
            have HSCN : Hid (scanA cm T m (s + 1) = if zz ∈ par cm y ∧ sc < A + 1 then A + 1 else sc) := Lib.hid (by
              show (if T.getD (m + 1 + s) [] ∈ par cm (T.getD m []) ∧ scanA cm T m s < ageOf cm (T.getD (m + 1 + s) []) + 1 then ageOf cm (T.getD (m + 1 + s) []) + 1 else scanA cm T m s) = _
              rw [HZD.out, HYM.out, hA, hsc])
            have HARS := HARI
            rw [hsc] at HARS
            have ak : wi.cell? ⟨w1.heap.size, kk, none⟩ = some (.int .i64 (A : Int)) := by
              have := HARS.out.cell kk hlt
              unfold upd agF at this
              rw [if_neg (by omega), if_pos (by omega), ← HKK.out, HZD.out, hA] at this
              rw [← HKK.out]; exact this
            have am : wi.cell? ⟨w1.heap.size, m, none⟩ = some (.int .i64 (sc : Int)) := by
              have := HARS.out.cell m hm
              unfold upd at this
              rwa [if_pos rfl] at this
            have hpw : P < wi.heap.size := by have := HPW.out; omega
            have hbw2 : b' < wi.heap.size := by omega
            have haw : w1.heap.size < wi.heap.size := by omega
            have k0 : (0 : Int) ≤ kk := by omega
            have k1 : (kk : Int) < T.length := by omega
            have d1 : decide ((kk : Int) < T.length) = true := decide_eq_true k1
            have hwa : IntKind.i64.wrap ((A : Int) + 1) = (A : Int) + 1 := IntWalk.i64_in _ (by omega)
            have hwk : IntKind.i64.wrap ((kk : Int) + 1) = (kk : Int) + 1 := IntWalk.i64_in _ (by omega)
            have HNXT : Hid (∀ wr, Arr wr w1.heap.size T.length (upd (agF cm T (m + 1)) m (.int .i64 (scanA cm T m (s + 1) : Int))) → wc.grownBy wr (some w1.heap.size) → DaIn cm T w1.heap.size m wc (.int .i64 ((kk : Int) + 1)) wr) := Lib.hid (fun wr h1 h2 => ⟨s + 1, by rw [← HKK.out, show ((m + 1 + (s + 1) : Nat) : Int) = ((m + 1 + s : Nat) : Int) + 1 from by omega], by have := HKK.out; omega, h1, h2⟩)
            clear hcell hzz hzl hrow hps hA hsc HARI HZD hbo
            generalize idC zz = uz at h32z f2 hin
            cases hct : (par cm y).contains zz with
            | false =>
              rw [hct] at hin
              have HSC : Hid (scanA cm T m (s + 1) = sc) := Lib.hid (by
                rw [HSCN.out, if_neg (fun h => by rw [List.contains_eq_mem, decide_eq_false_iff_not] at hct; exact hct h.1)])
              have HIN := Lib.hid hin
              clear hct hin
              go_wp2
              refine wp_region_bq (by kernel_rfl) (by kernel_rfl) ?_
              have LQ0 := fun x : BW (World.heap wi).size wi => below_load c32 x.hb (by omega)
              repeat (go_big_quiet_step ((go_at_call 28; with_reducible exact calls_bw (HIN.out _))))
              refine bq_row 24 _ _ rfl rfl rfl f2 (by omega) Tryz.underlying24 rfl h32z ?_
              simp only [Act.put, List.setIfInBounds_toArray, List.set_cons_zero, List.set_cons_succ]
              repeat (go_big_quiet_step ((go_at_call 28; with_reducible exact calls_bw (HIN.out _))))
              refine wpQuiet_nil ?_
              intro wq hbq
              clear LQ0
              have HEND := Lib.hid (HNXT.out wq (by rw [HSC.out]; exact HARS.out.below hbq haw) (grown_below HGI.out hbq))
              clear hbq f2 c32 ak am
              go_wp2
              go_roundw
              case rel => exact HEND.out
              case measure => simp [intOf]; omega
            | true =>
              rw [hct] at hin
              have hmem : zz ∈ par cm y := by rw [List.contains_eq_mem, decide_eq_true_iff] at hct; exact hct
              have HIN := Lib.hid hin
              clear hct hin
              by_cases hlt2 : sc < A + 1
              · have HSC : Hid (scanA cm T m (s + 1) = A + 1) := Lib.hid (by rw [HSCN.out, if_pos ⟨hmem, hlt2⟩])
                have dlt : decide ((sc : Int) < (A : Int) + 1) = true := decide_eq_true (by omega)
                have hlt3 : (sc : Int) < (A : Int) + 1 := by omega
                clear hmem hlt2
                go_wp2
                refine wp_region_bq (by kernel_rfl) (by kernel_rfl) ?_
                have LQ0 := fun x : BW (World.heap wi).size wi => below_load c32 x.hb (by omega)
                have LQ1 := fun x : BW (World.heap wi).size wi => below_load ak x.hb (by omega)
                have LQ2 := fun x : BW (World.heap wi).size wi => below_load am x.hb (by omega)
                repeat (go_big_quiet_step ((go_at_call 28; with_reducible exact calls_bw (HIN.out _))))
                refine bq_row 24 _ _ rfl rfl rfl f2 (by omega) Tryz.underlying24 rfl h32z ?_
                simp only [Act.put, List.setIfInBounds_toArray, List.set_cons_zero, List.set_cons_succ]
                repeat (go_big_quiet_step ((go_at_call 28; with_reducible exact calls_bw (HIN.out _))))
                refine wpQuiet_nil ?_
                intro wq hbq
                clear LQ0 LQ1 LQ2
                have harq := HARS.out.below hbq haw
                have akq := below_load ak hbq haw
                have amq := below_load am hbq haw
                have afq := harq.free m hm
                have HEND := Lib.hid (HNXT.out (wq.setCell ⟨w1.heap.size, m, none⟩ (.int .i64 ((A : Int) + 1))) (by
                  rw [HSC.out]
                  refine (harq.set m hm (.int .i64 ((A : Int) + 1))).congr (fun k _ => ?_)
                  unfold upd
                  by_cases e : k = m
                  · rw [if_pos e, if_pos e]; rfl
                  · rw [if_neg e, if_neg e, if_neg e]) (grown_set (grown_below HGI.out hbq) _))
                clear hbq f2 c32 ak am harq
                go_wp2
                go_roundw
                case rel => exact HEND.out
                case measure => simp [intOf]; omega
              · have HSC : Hid (scanA cm T m (s + 1) = sc) := Lib.hid (by rw [HSCN.out, if_neg (fun h => hlt2 h.2)])
                have dlt : decide ((sc : Int) < (A : Int) + 1) = false := decide_eq_false (by omega)
                have hlt3 : ¬ (sc : Int) < (A : Int) + 1 := by omega
                clear hmem hlt2
                go_wp2
                refine wp_region_bq (by kernel_rfl) (by kernel_rfl) ?_
                have LQ0 := fun x : BW (World.heap wi).size wi => below_load c32 x.hb (by omega)
                have LQ1 := fun x : BW (World.heap wi).size wi => below_load ak x.hb (by omega)
                have LQ2 := fun x : BW (World.heap wi).size wi => below_load am x.hb (by omega)
                repeat (go_big_quiet_step ((go_at_call 28; with_reducible exact calls_bw (HIN.out _))))
                refine bq_row 24 _ _ rfl rfl rfl f2 (by omega) Tryz.underlying24 rfl h32z ?_
                simp only [Act.put, List.setIfInBounds_toArray, List.set_cons_zero, List.set_cons_succ]
                repeat (go_big_quiet_step ((go_at_call 28; with_reducible exact calls_bw (HIN.out _))))
                refine wpQuiet_nil ?_
                intro wq hbq
                clear LQ0 LQ1 LQ2
                have HEND := Lib.hid (HNXT.out wq (by rw [HSC.out]; exact HARS.out.below hbq haw) (grown_below HGI.out hbq))
                clear hbq f2 c32 ak am
                go_wp2
                go_roundw
                case rel => exact HEND.out
                case measure => simp [intOf]; omega
          · have hke : kk = T.length := by omega
            have HSE : Hid (scanA cm T m s = ageOf cm y) := Lib.hid (by
              have := scanA_end HON.out.acyc HON.out.pars HON.out.len HTE.out HTM.out hm (s := s) (by have := HKK.out; omega)
              rw [HYT.out] at this
              exact this)
            have d1 : decide ((kk : Int) < T.length) = false := decide_eq_false (by omega)
            have HARE : Hid (Arr wi w1.heap.size T.length (agF cm T m)) := Lib.hid (by
              have h1 := HARI.out
              rw [HSE.out] at h1
              refine h1.congr (fun k _ => ?_)
              have h2 := agF_next (cm := cm) T m k
              rw [HYM.out] at h2
              exact h2)
            obtain ⟨b', off', hbo, _, hcell⟩ := HCE.out (by intro e; rw [e] at hm; simp at hm)
            obtain ⟨rfl, rfl⟩ : b' = b ∧ off' = off := by cases hbo; exact ⟨rfl, rfl⟩
            have f1 := rangeAt_below (hcell m hm) HBWI.out hbl
            rw [HYT.out, HIY.out] at f1
            have frx := rangeAt_below HRX.out (HB1.out.trans (HBWI.out.mono HB1.out.size)) (by have := HSW.out; omega)
            have ham : wi.cell? ⟨w1.heap.size, m, none⟩ = some (.int .i64 (ageOf cm y : Int)) := by
              have := HARE.out.cell m hm
              unfold agF at this
              rw [if_pos (Nat.le_refl _), HYM.out] at this
              exact this
            have hbw2 : b' < wi.heap.size := by omega
            have haw : w1.heap.size < wi.heap.size := by omega
            have hxw : w.heap.size + 1 < wi.heap.size := by omega
            have heq := HEQX.out
            have HRET : Hid (∀ wr, Below w1.heap.size w1 wr → Below w.heap.size w wr) := Lib.hid (fun wr h => HBW.out.trans ((HB1.out.trans (h.mono HB1.out.size)).mono HBW.out.size))
            have HXY : Hid ((y == x) = decide (y = x)) := Lib.hid (by by_cases h : y = x <;> simp [h])
            clear hke hcell hbo HARI HEQX
            generalize (y == x) = eyx at heq HXY
            generalize hay : (ageOf cm y : Int) = ay at ham
            have HAY := Lib.hid hay
            clear hay
            cases eyx with
            | true =>
              have hyx : y = x := of_decide_eq_true HXY.out.symm
              have HAX : Hid (ay = (ageOf cm x : Int)) := Lib.hid (by rw [← HAY.out, hyx])
              clear hyx
              go_wp2
              refine wp_region_bq (by kernel_rfl) (by kernel_rfl) ?_
              repeat (go_big_quiet_step (fail))
              refine bq_row 24 _ _ rfl rfl rfl f1 (by omega) Tryz.underlying24 rfl h32y ?_
              simp only [Act.put, List.setIfInBounds_toArray, List.set_cons_zero, List.set_cons_succ]
              repeat (go_big_quiet_step (fail))
              refine bq_row 24 _ _ rfl rfl rfl frx (by omega) Tryz.underlying24 rfl h32x ?_
              simp only [Act.put, List.setIfInBounds_toArray, List.set_cons_zero, List.set_cons_succ]
              repeat (go_big_quiet_step (fail))
              refine wpQuiet_nil ?_
              intro wq hbq
              have hamq := below_load ham hbq haw
              have HBQ := Lib.hid (HRET.out wq (HBWI.out.trans (hbq.mono HBWI.out.size)))
              clear hbq f1 frx ham
              go_wp2
              go_ret
              exact ⟨by rw [← HAX.out]; rfl, HBQ.out⟩
            | false =>
              have hyx : y ≠ x := of_decide_eq_false HXY.out.symm
              have HNE : Hid (∀ k, m ≤ k → k < T.length → T.getD k [] ≠ x) := Lib.hid (fun k h1 h2 => by
                by_cases e : k = m
                · subst e; rw [HYM.out]; exact hyx
                · exact HNO.out k (by omega) h2)
              have hwm1 : IntKind.i64.wrap ((m : Int) - 1) = (m : Int) - 1 := IntWalk.i64_in _ (by omega)
              clear hyx
              go_wp2
              refine wp_region_bq (by kernel_rfl) (by kernel_rfl) ?_
              repeat (go_big_quiet_step (fail))
              refine bq_row 24 _ _ rfl rfl rfl f1 (by omega) Tryz.underlying24 rfl h32y ?_
              simp only [Act.put, List.setIfInBounds_toArray, List.set_cons_zero, List.set_cons_succ]
              repeat (go_big_quiet_step (fail))
              refine bq_row 24 _ _ rfl rfl rfl frx (by omega) Tryz.underlying24 rfl h32x ?_
              simp only [Act.put, List.setIfInBounds_toArray, List.set_cons_zero, List.set_cons_succ]
              repeat (go_big_quiet_step (fail))
              refine wpQuiet_nil ?_
              intro wq hbq
              have HEND : Hid (DaSt cm T x w1.heap.size w1 (.int .i64 ((m : Int) - 1)) wq) := Lib.hid ⟨m, (m : Int) - 1, rfl, by omega, by omega, HARE.out.below hbq haw, HNE.out, HBWI.out.trans (hbq.mono HBWI.out.size)⟩
              clear hbq f1 frx ham
              go_wp2
              go_roundw
              case rel => exact HEND.out
              case measure => simp [intOf]
end Go.Proofs.YtbmiiiccnoiffaaGreatDoor
namespace Go.Proofs.YtbmiiiccnoiffaaGreatDoor
open Go.RowKit
/-- The law's argument, carried along. -/
structure StH (w0 : World) (v : Value) (l : List Ob) (w : World) : Prop where
  row : ObRow w v l
  ld : Laid w
  bel : Below w0.heap.size w0 w
theorem StH.step {w0 w w' : World} {v : Value} {l : List Ob} (h : StH w0 v l w) (hb : Below w.heap.size w w') : StH w0 v l w' :=
  ⟨h.row.below hb, h.ld.below hb, h.bel.trans (hb.mono h.bel.size)⟩
theorem obGreat_40 {l : List Ob} (h : obGreat l = false) : l.length ≤ 40 := by
  unfold obGreat at h
  simp only [Bool.or_eq_false_iff, decide_eq_false_iff_not] at h
  omega

/-- All that a law carries along. -/
structure HSt (w0 : World) (v : Value) (l : List Ob) (r vl vi : Value) (B : Nat) (rows : List (Nat × List Value)) (W : World) : Prop where
  st : StH w0 v l W
  sr : SrcP W r (getS l)
  sw : SrcRow W (.agg #[vl, vi]) l
  ar : W.rangeAt B 0 [vl, vi] ∧ B < W.heap.size
  rw : ∀ p ∈ rows, W.rangeAt p.1 0 p.2 ∧ p.1 < W.heap.size
theorem HSt.step {w0 : World} {v : Value} {l : List Ob} {r vl vi : Value} {B : Nat} {rows : List (Nat × List Value)} {W W' : World} (h : HSt w0 v l r vl vi B rows W) (hb : Below W.heap.size W W') : HSt w0 v l r vl vi B rows W' :=
  ⟨h.st.step hb, h.sr.below hb, h.sw.below hb, ⟨rangeAt_below h.ar.1 hb h.ar.2, Nat.lt_of_lt_of_le h.ar.2 hb.size⟩, fun p hp => ⟨rangeAt_below (h.rw p hp).1 hb (h.rw p hp).2, Nat.lt_of_lt_of_le (h.rw p hp).2 hb.size⟩⟩
theorem HSt.c0 {w0 : World} {v : Value} {l : List Ob} {r vl vi : Value} {B : Nat} {rows : List (Nat × List Value)} {W : World} (h : HSt w0 v l r vl vi B rows W) : W.cell? ⟨B, 0, none⟩ = some vl := h.ar.1 0 _ rfl
theorem HSt.c1 {w0 : World} {v : Value} {l : List Ob} {r vl vi : Value} {B : Nat} {rows : List (Nat × List Value)} {W : World} (h : HSt w0 v l r vl vi B rows W) : W.cell? ⟨B, 1, none⟩ = some vi := h.ar.1 1 _ rfl
theorem HSt.row0 {w0 : World} {v : Value} {l : List Ob} {r vl vi : Value} {B : Nat} {p : Nat × List Value} {rows : List (Nat × List Value)} {W : World} (h : HSt w0 v l r vl vi B (p :: rows) W) : W.rangeAt p.1 0 p.2 := (h.rw p (by simp)).1
/-- What a law carries along, where it asks the program alone. -/
structure HSp (w0 : World) (v : Value) (l : List Ob) (r : Value) (rows : List (Nat × List Value)) (W : World) : Prop where
  st : StH w0 v l W
  sr : SrcP W r (getS l)
  rw : ∀ p ∈ rows, W.rangeAt p.1 0 p.2 ∧ p.1 < W.heap.size
theorem HSp.step {w0 : World} {v : Value} {l : List Ob} {r : Value} {rows : List (Nat × List Value)} {W W' : World} (h : HSp w0 v l r rows W) (hb : Below W.heap.size W W') : HSp w0 v l r rows W' :=
  ⟨h.st.step hb, h.sr.below hb, fun p hp => ⟨rangeAt_below (h.rw p hp).1 hb (h.rw p hp).2, Nat.lt_of_lt_of_le (h.rw p hp).2 hb.size⟩⟩
theorem HSp.row0 {w0 : World} {v : Value} {l : List Ob} {r : Value} {p : Nat × List Value} {rows : List (Nat × List Value)} {W : World} (h : HSp w0 v l r (p :: rows) W) : W.rangeAt p.1 0 p.2 := (h.rw p (by simp)).1
section
variable {l : List Ob} {U : List Idl} (HU : CmOk (cmG (getS l)) U) {id : Idl} (hid : id.length = 32)
include HU hid
theorem lin_yes {S : List Idl} (hl : lineL (cmG (getS l)) id = some S) (r : Value) (W : World) (h : SrcP W r (getS l)) : Calls Tryz.prog 21 #[r, .agg (idC id).toArray] W fun e w' => ∃ v, e = .returned (.tuple #[v, .int .i64 0]) ∧ IdRow w' v S ∧ Below W.heap.size W w' := by
  refine (hline_any r (getS l) (fun x o h => (getS_some h).2.1) U HU id W h hid).mono ?_
  rintro e w' ⟨hb, ⟨S', v, h1, rfl, hr⟩ | ⟨h1, _⟩⟩
  · obtain rfl : S = S' := Option.some.inj (hl.symm.trans h1)
    exact ⟨v, rfl, hr, hb⟩
  · rw [hl] at h1; cases h1
theorem lin_no (hl : lineL (cmG (getS l)) id = none) (r : Value) (W : World) (h : SrcP W r (getS l)) : Calls Tryz.prog 21 #[r, .agg (idC id).toArray] W fun e w' => e = .returned (.tuple #[.slice none 0 0, .int .i64 13]) ∧ Below W.heap.size W w' := by
  refine (hline_any r (getS l) (fun x o h => (getS_some h).2.1) U HU id W h hid).mono ?_
  rintro e w' ⟨hb, ⟨S', v, h1, rfl, hr⟩ | ⟨h1, rfl⟩⟩
  · rw [hl] at h1; cases h1
  · exact ⟨rfl, hb⟩
theorem lgn_yes (ha : Acyc (cmG (getS l))) {S : List Idl} (hl : lineL (cmG (getS l)) id = some S) (n : Int) (r : Value) (W : World) (h : SrcP W r (getS l)) : Calls Tryz.prog 22 #[r, .agg (idC id).toArray, .int .i64 n] W fun e w' => ∃ v, e = .returned (.tuple #[v, .int .i64 0]) ∧ IdRow w' v (firstN n (logOf (cmG (getS l)) S)) ∧ Below W.heap.size W w' := by
  refine (hlogn_any r (getS l) (fun x o h => (getS_some h).2.1) U HU ha id n W h hid).mono ?_
  rintro e w' ⟨hb, ⟨S', v, h1, rfl, hr⟩ | ⟨h1, _⟩⟩
  · obtain rfl : S = S' := Option.some.inj (hl.symm.trans h1)
    exact ⟨v, rfl, hr, hb⟩
  · rw [hl] at h1; cases h1
theorem lgn_no (ha : Acyc (cmG (getS l))) (hl : lineL (cmG (getS l)) id = none) (n : Int) (r : Value) (W : World) (h : SrcP W r (getS l)) : Calls Tryz.prog 22 #[r, .agg (idC id).toArray, .int .i64 n] W fun e w' => e = .returned (.tuple #[.slice none 0 0, .int .i64 13]) ∧ Below W.heap.size W w' := by
  refine (hlogn_any r (getS l) (fun x o h => (getS_some h).2.1) U HU ha id n W h hid).mono ?_
  rintro e w' ⟨hb, ⟨S', v, h1, rfl, hr⟩ | ⟨h1, rfl⟩⟩
  · rw [hl] at h1; cases h1
  · exact ⟨rfl, hb⟩
theorem age_yes (ha : Acyc (cmG (getS l))) {S : List Idl} (hl : lineL (cmG (getS l)) id = some S) (r : Value) (W : World) (h : SrcP W r (getS l)) : Calls Tryz.prog 23 #[r, .agg (idC id).toArray] W fun e w' => e = .returned (.tuple #[.int .i64 (ageOf (cmG (getS l)) id : Int), .int .i64 0]) ∧ Below W.heap.size W w' := by
  refine (hage_any r (getS l) (fun x o h => (getS_some h).2.1) U HU ha id W h hid).mono ?_
  rintro e w' ⟨hb, ⟨_, rfl⟩ | ⟨h1, _⟩⟩
  · exact ⟨rfl, hb⟩
  · rw [hl] at h1; cases h1
theorem age_no (ha : Acyc (cmG (getS l))) (hl : lineL (cmG (getS l)) id = none) (r : Value) (W : World) (h : SrcP W r (getS l)) : Calls Tryz.prog 23 #[r, .agg (idC id).toArray] W fun e w' => e = .returned (.tuple #[.int .i64 0, .int .i64 13]) ∧ Below W.heap.size W w' := by
  refine (hage_any r (getS l) (fun x o h => (getS_some h).2.1) U HU ha id W h hid).mono ?_
  rintro e w' ⟨hb, ⟨h1, rfl⟩ | ⟨h1, rfl⟩⟩
  · rw [hl] at h1; cases h1
  · exact ⟨rfl, hb⟩
theorem rl_yes {S : List Idl} (hl : lineL (cmG (getS l)) id = some S) (vl vi : Value) (W : World) (h : SrcRow W (.agg #[vl, vi]) l) : Calls Tryz.prog 24 #[.agg #[vl, vi], .agg (idC id).toArray] W fun e w' => ∃ v, e = .returned (.tuple #[v, .bool true]) ∧ IdRow w' v S ∧ Below W.heap.size W w' := by
  refine (rline_any vl vi l U HU id W h hid).mono ?_
  rintro e w' ⟨v, rfl, hr, hb⟩
  rw [hl] at hr
  exact ⟨v, by rw [hl]; rfl, hr, hb⟩
theorem rl_no (hl : lineL (cmG (getS l)) id = none) (vl vi : Value) (W : World) (h : SrcRow W (.agg #[vl, vi]) l) : Calls Tryz.prog 24 #[.agg #[vl, vi], .agg (idC id).toArray] W fun e w' => ∃ v, e = .returned (.tuple #[v, .bool false]) ∧ IdRow w' v [] ∧ Below W.heap.size W w' := by
  refine (rline_any vl vi l U HU id W h hid).mono ?_
  rintro e w' ⟨v, rfl, hr, hb⟩
  rw [hl] at hr
  exact ⟨v, by rw [hl]; rfl, hr, hb⟩
end
theorem log32 {l : List Ob} {U : List Idl} (HU : CmOk (cmG (getS l)) U) {id : Idl} {S : List Idl} (hl : lineL (cmG (getS l)) id = some S) : ∀ y ∈ logOf (cmG (getS l)) S, y.length = 32 := fun y hy => (lineL_32 HU hl).1 y ((logOf_telling S).sub y hy)
end Go.Proofs.YtbmiiiccnoiffaaGreatDoor
