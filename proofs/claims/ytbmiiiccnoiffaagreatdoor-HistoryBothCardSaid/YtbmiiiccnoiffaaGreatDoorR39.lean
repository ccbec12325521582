/- YtbmiiiccnoiffaaGreatDoorR39: texts K4 of this claim, in one. -/
import Derived.Deep.LoopGhost
import Derived.Test.YtbmiiiccnoiffaaGreatDoorR29
import Derived.Test.YtbmiiiccnoiffaaGreatDoorR35
import Derived.Test.YtbmiiiccnoiffaaGreatDoorR38
namespace Go.Proofs.YtbmiiiccnoiffaaGreatDoor
open Go.RowKit

def RlAns (cm : Idl → Option Cmt) (x : Idl) (w : World) (e : Ending) (w' : World) : Prop :=
  ∃ v, e = .returned (.tuple #[v, .bool (lineL cm x).isSome]) ∧ IdRow w' v ((lineL cm x).getD []) ∧ Below w.heap.size w w'
theorem rlAns_no {cm : Idl → Option Cmt} {x : Idl} {w w' : World} (h : lineL cm x = none) (hb : Below w.heap.size w w') : RlAns cm x w (.returned (.tuple #[.slice none 0 0, .bool false])) w' :=
  ⟨_, by rw [h]; rfl, by rw [h]; exact ids_nil _, hb⟩
theorem rlAns_yes {cm : Idl → Option Cmt} {x : Idl} {w w' : World} {v : Value} {S : List Idl} (h : lineL cm x = some S) (hr : IdRow w' v S) (hb : Below w.heap.size w w') : RlAns cm x w (.returned (.tuple #[v, .bool true])) w' :=
  ⟨_, by rw [h]; rfl, by rw [h]; exact hr, hb⟩
/-- Between two rounds. -/
def RlSt (cm : Idl → Option Cmt) (U : List Idl) (x : Idl) (W : World) (B : Nat) (gk : Nat) (q o : Value) (wr : World) : Prop :=
  ∃ V Q, Bfs cm x (fun y => y ∈ V) Q ∧ AscL V ∧ potB U V Q ≤ gk ∧ gk ≤ 5001 ∧ OwnQ wr B 32 q Q.length (idsF Q) ∧ IdRow wr o V ∧ CapI o ∧ (V = [] ∨ ∀ k, o.ownBlock = some k → q.ownBlock ≠ some k) ∧ Below B W wr ∧ W.heap.size ≤ wr.heap.size
set_option maxRecDepth 100000 in
set_option maxHeartbeats 4000000 in
theorem rline_any (vl vi : Value) (l : List Ob) (U : List Idl) (hU : CmOk (cmG (getS l)) U) (x : Idl) (w : World) (hs : SrcRow w (.agg #[vl, vi]) l) (hx : x.length = 32) :
    Calls Tryz.prog 24 #[.agg #[vl, vi], .agg (idC x).toArray] w (RlAns (cmG (getS l)) x w) := by
  have hxl : (idC x).length = 32 := by rw [idC_len, hx]
  have h32x := h32_of hxl
  have HCM := Lib.hid (fun y (hy : y.length = 32) W (h : Below w.heap.size w W) => rcmt_any vl vi l y W (hs.below h) hy)
  have HX := Lib.hid hx
  have HU := Lib.hid hU
  obtain ⟨zi, i0, hi, hz0, hz1, hz2, hzi, hzil⟩ := id_zero
  obtain ⟨zc, hzc, _, hzce⟩ := cm_zero
  have HZI := Lib.hid hzil
  have HZC := Lib.hid (show zc.size = 34 by rw [hzce]; exact cmC_len _ _ _ zid_len)
  have HSZ : Hid (∀ w, (sizeOf 24).run Tryz.prog w = .ok (idC x).length w) := Lib.hid (fun w => by rw [hxl]; kernel_rfl)
  have hr1 : ((w.alloc (.cells #[vl, vi] 30)).alloc (.cells (idC x).toArray 24)).rangeAt (w.heap.size + 1) 0 (idC x) := range_new _ _ _ (by simp)
  have HR1 := Lib.hid hr1
  obtain ⟨W, hW⟩ : ∃ W, ((w.alloc (.cells #[vl, vi] 30)).alloc (.cells (idC x).toArray 24)).alloc (.cells (idC x).toArray 24) = W := ⟨_, rfl⟩
  have hbW : Below w.heap.size w W := by rw [← hW]; exact (((Below.refl _ _).alloc (Nat.le_refl _) _).alloc (by simp) _).alloc (by simp; omega) _
  have hq0 := ownQ_new ((w.alloc (.cells #[vl, vi] 30)).alloc (.cells (idC x).toArray 24)) (idC x) 24 hxl (B := w.heap.size + 1 + 1) (by simp)
  rw [World.size_alloc, World.size_alloc, hW] at hq0
  have hA := ((Arr.ofList w [vl, vi] 30).alloc (by simp) (.cells (idC x).toArray 24)).alloc (by simp) (.cells (idC x).toArray 24)
  have hc0 : W.cell? ⟨w.heap.size, 0, none⟩ = some vl := by rw [← hW]; exact hA.cell 0 (by simp)
  have hc1 : W.cell? ⟨w.heap.size, 1, none⟩ = some vi := by rw [← hW]; exact hA.cell 1 (by simp)
  have hsW : W.heap.size = w.heap.size + 1 + 1 + 1 := by rw [← hW]; simp
  have HQ0 := Lib.hid hq0
  have HBW := Lib.hid hbW
  have HC01 := Lib.hid (And.intro hc0 hc1)
  have HIX : Hid (idsF [x] = idC x) := Lib.hid (by simp [idsF])
  have HSW := Lib.hid hsW
  have HW := Lib.hid hW
  clear hs hx hU hzil hr1 hzce hq0 hbW hW hA hc0 hc1 hsW
  generalize idC x = ux at hxl h32x HSZ HR1 HQ0 HIX HW
  have HUL := Lib.hid hxl
  clear hxl
  go_enter Tryz.func24, Tryz.ntmps24
  go_wp2_with (first
    | (refine wpList_load_mid rfl 24 _ rfl (w.heap.size + 1) 0 rfl ux _ HR1.out Tryz.underlying24 rfl h32x ?_)
    | (refine wpList_buildSlice_one rfl (.tmp 11) 28 24 rfl ux zi rfl Tryz.underlying28 HSZ.out hzi (by rw [HUL.out]; omega) (by rw [HUL.out]; omega) ?_))
  rw [HW.out]
  go_loopg [6, 7] (5 * U.length + 1) (fun gk q o wr => RlSt (cmG (getS l)) U x W (w.heap.size + 1 + 1) gk q o wr)
  case atStart =>
    exact ⟨[], [x], (Bfs.start x (cm := cmG (getS l))).congr (fun _ => by simp), List.Pairwise.nil, by have := potB_le U [] [x]; simp at this ⊢; omega, by have := HU.out.few; omega, by rw [HIX.out]; exact HQ0.out, ids_nil _, fun _ _ _ e => by cases e; exact Nat.le_refl _, .inl rfl, Below.refl _ _, Nat.le_refl _⟩
  case round =>
    obtain ⟨wo, rfl⟩ : ∃ wo : World, wo = wr := ⟨_, rfl⟩
    unfold RlSt at hrel
    obtain ⟨V, Q, hbf, hasc, hpot, hgk, hq, ho, hco, hne, hb, hsz⟩ := hrel
    have hVle := hbf.few HU.out hasc.nodup
    have hbw : Below w.heap.size w wo := HBW.out.trans (hb.mono (by omega))
    have HBO := Lib.hid hbw
    clear hbw
    cases Q with
    | nil =>
      have HLN : Hid (lineL (cmG (getS l)) x = some V) := Lib.hid (lineL_eq (hbf.line hasc.nodup (fun _ => Iff.rfl)) hasc)
      have HO := Lib.hid ho
      have hq2 := hq.2
      clear hbf hasc hpot hq ho hco hne hb
      rcases hq2 with ⟨rfl, _⟩ | ⟨g, off, cap, rfl, _⟩
      all_goals
        go_wp2
        go_ret2
        exact rlAns_yes HLN.out HO.out HBO.out
    | cons y Q =>
      have hyl : y.length = 32 := HU.out.reach (hbf.que y (by simp)) HX.out
      have hV32 : ∀ z ∈ V, z.length = 32 := fun z hz => by
        have := (hbf.vis z hz).1
        cases e : cmG (getS l) z with
        | none => rw [e] at this; cases this
        | some c => exact HU.out.len z c e
      rw [idsF_cons, List.length_cons] at hq
      obtain ⟨g, off, cap, rfl, hBg, hgl, hcm, hnc, hr0, hcut⟩ := hq.cut (by rw [idC_len, hyl])
      have HQ1 : Hid (∀ W, Below wo.heap.size wo W → ∀ p, p = (if cap = 0 then (⟨g, off, none⟩ : Addr) else ⟨g, off + 32, none⟩) → OwnQ W (w.heap.size + 1 + 1) 32 (.slice (some p) Q.length cap) Q.length (idsF Q)) := Lib.hid (fun W hW p hp => (hcut p hp).below hW)
      obtain ⟨p, hp⟩ : ∃ p, p = (if cap = 0 then (⟨g, off, none⟩ : Addr) else ⟨g, off + 32, none⟩) := ⟨_, rfl⟩
      have HSL : Hid (∀ W, (Instr.sliceAt 28 (.slice (some ⟨g, off, none⟩) (Q.length + 1) (cap + 1)) (some (.int .i64 1)) none none).run Tryz.prog W = .ok (.slice (some p) Q.length cap) W) := Lib.hid (fun W => by rw [hp]; exact run_cut_ids W g off Q.length cap (by omega))
      have HPB : Hid ((Value.slice (some p) Q.length cap).ownBlock = some g) := Lib.hid (by rw [hp]; show some (Addr.block (if cap = 0 then _ else _)) = some g; split <;> rfl)
      have HP := Lib.hid hp
      have hyc : (idC y).length = 32 := by rw [idC_len, hyl]
      have h32y := h32_of hyc
      have h32 : (Tryz.prog.info? 24).map (·.size) = some 32 := by kernel_rfl
      have h34 : (Tryz.prog.info? 97).map (·.size) = some 34 := by kernel_rfl
      obtain ⟨W1, hW1⟩ : ∃ W1, (wo.alloc (.cells zi 24)).setCells wo.heap.size 0 (idC y) = W1 := ⟨_, rfl⟩
      have wr1 := wrote (by rw [hyc, HZI.out]) (by rw [HZI.out]; omega) hW1
      have HIN := Lib.hid (rin_any u7 V y W1 (ho.below wr1.bel) hV32 hyl)
      have hb1 := hb.trans (wr1.bel.mono (show w.heap.size + 1 + 1 ≤ wo.heap.size by omega))
      have HB1 := Lib.hid hb1
      have HR0 := Lib.hid hr0
      have HR1X := Lib.hid wr1.row
      have HTH1 := Lib.hid (there_alloc wo zi 24 HZI.out)
      have HYC := Lib.hid hyc
      have HYO := Lib.hid (idC_one y)
      have HW1 := Lib.hid hW1
      have HYL := Lib.hid hyl
      have HBF := Lib.hid hbf
      have HAS := Lib.hid hasc
      have HV32 := Lib.hid hV32
      have HO1 := Lib.hid (ho.below wr1.bel)
      have HCO := Lib.hid hco
      have HNE := Lib.hid hne
      have HGK := Lib.hid hpot
      have HBO1 := Lib.hid wr1.bel
      have HLT1 := Lib.hid wr1.lt
      have HBG := Lib.hid (show w.heap.size + 1 + 1 ≤ g ∧ g < wo.heap.size ∧ w.heap.size + 1 + 1 + 1 ≤ wo.heap.size from ⟨hBg, hgl, by omega⟩)
      have HCMY := Lib.hid (fun W (h : Below w.heap.size w W) => HCM.out y hyl W h)
      clear hb1 hr0 hyc hW1 hyl hbf hasc hV32 ho hco hne hpot hq hcut hp wr1 hb HQ0 HIX HR1 HSZ HUL HW h32x
      obtain ⟨c0, c1⟩ : W1.cell? ⟨w.heap.size, 0, none⟩ = some vl ∧ W1.cell? ⟨w.heap.size, 1, none⟩ = some vi := ⟨below_load HC01.out.1 HB1.out (by omega), below_load HC01.out.2 HB1.out (by omega)⟩
      clear HC01
      generalize hiy : idC y = uy at h32y HR0 HR1X HYC HYO HW1 HIN HCMY
      have HIY := Lib.hid hiy
      clear hiy
      by_cases hv : y ∈ V
      · rw [show V.contains y = true from by simpa using hv] at HIN
        go_wp2_with (first
          | (refine wpList_load_mid rfl 24 _ rfl g off rfl uy _ HR0.out Tryz.underlying24 rfl h32y ?_)
          | (refine wpList_store_list rfl 24 _ _ rfl wo.heap.size 0 uy rfl rfl 32 HYC.out HTH1.out h32 HYO.out ?_; rw [HW1.out])
          | (refine wpList_slice_run rfl 28 _ _ rfl _ _ rfl rfl _ (HSL.out _) ?_)
          | (refine wpList_load_mid rfl 24 _ rfl wo.heap.size 0 rfl uy _ HR1X.out Tryz.underlying24 rfl h32y ?_))
        refine HIN.out.mono ?_
        rintro e w2 ⟨rfl, hb2⟩
        have HB2 := Lib.hid (HB1.out.trans (hb2.mono (show w.heap.size + 1 + 1 ≤ W1.heap.size by have := HBG.out; have := HLT1.out; omega)))
        have HQ2 := Lib.hid (HQ1.out w2 (HBO1.out.trans (hb2.mono HBO1.out.size)) p HP.out)
        have HO2 := Lib.hid (HO1.out.below hb2)
        have hs2 : W.heap.size ≤ w2.heap.size := by have := HBO1.out.size; have := hb2.size; omega
        have HNE2 : Hid (V = [] ∨ ∀ k, u7.ownBlock = some k → (Value.slice (some p) Q.length cap).ownBlock ≠ some k) := Lib.hid (by rw [HPB.out]; exact HNE.out)
        clear hb2
        go_wp2
        go_roundg (potB U V Q)
        case measure => have := potB_skip U V Q y; have := HGK.out; omega
        case rel => exact ⟨V, Q, HBF.out.skip hv, HAS.out, Nat.le_refl _, by have := potB_skip U V Q y; have := HGK.out; omega, HQ2.out, HO2.out, HCO.out, HNE2.out, HB2.out, hs2⟩
      · rw [show V.contains y = false from by simpa using hv] at HIN
        have HNV := Lib.hid hv
        have HNV := Lib.hid hv
        clear hv
        go_wp2_with (first
          | (refine wpList_load_mid rfl 24 _ rfl g off rfl uy _ HR0.out Tryz.underlying24 rfl h32y ?_)
          | (refine wpList_store_list rfl 24 _ _ rfl wo.heap.size 0 uy rfl rfl 32 HYC.out HTH1.out h32 HYO.out ?_; rw [HW1.out])
          | (refine wpList_slice_run rfl 28 _ _ rfl _ _ rfl rfl _ (HSL.out _) ?_)
          | (refine wpList_load_mid rfl 24 _ rfl wo.heap.size 0 rfl uy _ HR1X.out Tryz.underlying24 rfl h32y ?_))
        refine HIN.out.mono ?_
        rintro e w2 ⟨rfl, hb2⟩
        have hlw1 : w.heap.size < W1.heap.size := by have := HBG.out; have := HLT1.out; omega
        have e0 := below_load c0 hb2 hlw1
        have e1 := below_load c1 hb2 hlw1
        have HBO2 := Lib.hid (HBO1.out.trans (hb2.mono HBO1.out.size))
        have HR2 := Lib.hid (rangeAt_below HR1X.out hb2 HLT1.out)
        have HC2 := Lib.hid (HCMY.out w2 (HBO.out.trans (HBO2.out.mono HBO.out.size)))
        have hwo2 : wo.heap.size < w2.heap.size := by have := HLT1.out; have := hb2.size; omega
        have HO2 := Lib.hid (HO1.out.below hb2)
        have HBQ2 := Lib.hid (HB1.out.trans (hb2.mono (show w.heap.size + 1 + 1 ≤ W1.heap.size by have := HBG.out; have := HLT1.out; omega)))
        clear hb2 c0 c1 HIN HW1 HTH1 HR0 HR1X
        go_wp2_with (refine wpList_load_mid rfl 24 _ rfl wo.heap.size 0 rfl uy _ HR2.out Tryz.underlying24 rfl h32y ?_)
        refine HC2.out.mono ?_
        intro e w3 h
        obtain ⟨v, rfl, hrow, hb3⟩ := h
        have HCMA : Hid (∀ c, cmG (getS l) y = some c → c.tree.length = 32 ∧ c.pars.length ≤ 4 ∧ (∀ q ∈ c.pars, q.length = 32) ∧ y ∈ U) := Lib.hid (fun c hc => ⟨HU.out.tree y c hc, HU.out.four y c hc, HU.out.pars y c hc, HU.out.mem y c hc⟩)
        obtain ⟨r, hr⟩ : ∃ r, cmG (getS l) y = r := ⟨_, rfl⟩
        rw [hr] at hrow HCMA ⊢
        have htl : (r.getD cmt0).tree.length = 32 := by
          cases r with
          | none => exact zid_len
          | some c => exact (HCMA.out c rfl).1
        obtain ⟨ao, lcap, rfl, _⟩ := hrow.flat0
        have hcl : (cmC (r.getD cmt0).tree (.slice ao (r.getD cmt0).pars.length lcap) (r.getD cmt0).text).length = 34 := cmC_len _ _ _ htl
        have hco := cmC_one (r.getD cmt0).tree ao (r.getD cmt0).pars.length lcap (r.getD cmt0).text
        have hc32 : (cmC (r.getD cmt0).tree (.slice ao (r.getD cmt0).pars.length lcap) (r.getD cmt0).text)[32]? = some (.slice ao (r.getD cmt0).pars.length lcap) := by
          unfold cmC
          rw [List.getElem?_append_right (by rw [idC_len, htl]; exact Nat.le_refl _), idC_len, htl]; rfl
        obtain ⟨ct, hct⟩ : ∃ ct, cmC (r.getD cmt0).tree (.slice ao (r.getD cmt0).pars.length lcap) (r.getD cmt0).text = ct := ⟨_, rfl⟩
        rw [hct] at hcl hco hc32 ⊢
        obtain ⟨W4, hW4⟩ : ∃ W4, (w3.alloc (.cells zc 97)).setCells w3.heap.size 0 ct = W4 := ⟨_, rfl⟩
        have wr4 := wrote (by rw [hcl, HZC.out]) (by rw [HZC.out]; omega) hW4
        have c32 : W4.cell? ⟨w3.heap.size, 32, none⟩ = some (.slice ao (r.getD cmt0).pars.length lcap) := by have := wr4.row 32 _ hc32; rwa [Nat.zero_add] at this
        have HC32 := Lib.hid c32
        have hbb : Below w2.heap.size w2 W4 := hb3.trans (wr4.bel.mono hb3.size)
        have HBO4 := Lib.hid (HBO2.out.trans (hbb.mono HBO2.out.size))
        have HROW4 := Lib.hid (hrow.below wr4.bel)
        have HO4 := Lib.hid (HO2.out.below hbb)
        have HBQ4 := Lib.hid (HBQ2.out.trans (hbb.mono (show w.heap.size + 1 + 1 ≤ w2.heap.size by have := HBG.out; omega)))
        have HR4 := Lib.hid (rangeAt_below HR2.out hbb hwo2)
        have HTH4 := Lib.hid (there_alloc w3 zc 97 HZC.out)
        have HCL := Lib.hid hcl
        have HCOT := Lib.hid hco
        have HW4 := Lib.hid hW4
        have HLT4 := Lib.hid wr4.lt
        have HRR := Lib.hid hr
        clear hrow hb3 htl hcl hco hc32 hct hW4 wr4 hbb c32 hr HC2 e0 e1
        cases r with
        | none =>
          have HEND : Hid (RlAns (cmG (getS l)) x w (.returned (.tuple #[.slice none 0 0, .bool false])) W4) := Lib.hid (rlAns_no (lineL_none (HBF.out.stop HRR.out)) (HBO.out.trans (HBO4.out.mono HBO.out.size)))
          dsimp only [Option.isSome_none]
          go_wp2_with (refine wpList_store_list rfl 97 _ _ rfl w3.heap.size 0 ct rfl rfl 34 HCL.out HTH4.out h34 HCOT.out ?_; rw [HW4.out])
          go_ret2
          exact HEND.out
        | some c =>
          have HPI := Lib.hid (rputid_any u7 V y W4 HO4.out HCO.out HV32.out HYL.out (by have := HU.out.few; omega))
          rw [HIY.out] at HPI
          dsimp only [Option.isSome_some]
          go_wp2_with (first
            | (refine wpList_store_list rfl 97 _ _ rfl w3.heap.size 0 ct rfl rfl 34 HCL.out HTH4.out h34 HCOT.out ?_; rw [HW4.out])
            | (refine wpList_load_mid rfl 24 _ rfl wo.heap.size 0 rfl uy _ HR4.out Tryz.underlying24 rfl h32y ?_))
          refine HPI.out.mono ?_
          rintro e w5 ⟨v', rfl, ho5, hco5, hfr5, hb5⟩
          have c5 := below_load HC32.out hb5 (by have := HLT4.out; omega)
          obtain ⟨hct, hc4, hcp, hcu⟩ := HCMA.out c rfl
          have HB5 := Lib.hid (HBO4.out.trans (hb5.mono HBO4.out.size))
          have HBQ5 := Lib.hid (HBQ4.out.trans (hb5.mono (show w.heap.size + 1 + 1 ≤ W4.heap.size by have := HBG.out; have := HBO4.out.size; omega)))
          have HQ5 := Lib.hid (HQ1.out w5 HB5.out p HP.out)
          obtain ⟨ao', lcap', he, hnew⟩ := (HROW4.out.below hb5).flat hcp
          obtain ⟨rfl, rfl⟩ : ao' = ao ∧ lcap' = lcap := by injection he with e1 _ e3; exact ⟨e1.symm, e3.symm⟩
          have HNW := Lib.hid hnew
          have HLN := Lib.hid (idsF_len c.pars hcp)
          have HO5 := Lib.hid ho5
          have HCO5 := Lib.hid hco5
          have HFR5 := Lib.hid hfr5
          have hsz5 : w.heap.size + 1 + 1 ≤ w5.heap.size := by have := HB5.out.size; have := HBG.out; omega
          have HLT5 : Hid (wo.heap.size ≤ w5.heap.size) := Lib.hid HB5.out.size
          clear he hnew ho5 hco5 hfr5 hb5
          have hQn : Q.length ≤ 5001 := by
            have h1 := HGK.out
            unfold potB at h1
            rw [List.length_cons] at h1
            omega
          have HNE5 : Hid (putL V y = [] ∨ ∀ k, v'.ownBlock = some k → (some g : Option Nat) ≠ some k) := Lib.hid (by
            rcases HFR5.out with h | h
            · rcases HNE.out with h0 | h0
              · obtain ⟨a1, c1, e1, _⟩ := HO5.out.flat0
                obtain ⟨a2, c2, e2, _⟩ := HO1.out.flat0
                rw [h, e2] at e1
                injection e1 with _ e3 _
                exact .inl (List.eq_nil_of_length_eq_zero (by rw [← e3, h0]; rfl))
              · exact .inr fun k hk e => h0 k (by rw [← h]; exact hk) e
            · exact .inr fun k hk e => by
                have h1 := h k hk
                have h2 := Option.some.inj e
                have h3 := HBO4.out.size
                have h4 := HBG.out
                omega)
          go_wp2_with (refine wpList_append_q rfl (.tmp 35) (.tmp 37) 28 rfl (w.heap.size + 1 + 1) 24 i0 (.agg zi) 32 32 Tryz.underlying28 hi hz0 hz1 hz2 HZI.out (by decide) _ Q.length (idsF Q) rfl HQ5.out _ c.pars.length lcap' (idsF c.pars) rfl HLN.out HNW.out (idsF_one c.pars) (by unfold maxLen; omega) (by omega) hsz5 ?_)
          intro v8 w8 hq8 hg8 hf8
          go_wp2
          go_roundg (potB U (putL V y) (Q ++ c.pars))
          case measure =>
            have := potB_take (U := U) (V := V) (W := putL V y) (Q := Q) (ps := c.pars) hcu HNV.out hc4 (fun z => putL_mem V y z)
            have := HGK.out; omega
          case rel =>
            rw [HPB.out] at hg8
            refine ⟨putL V y, Q ++ c.pars, HBF.out.take HRR.out (fun z => putL_mem V y z), putL_asc HAS.out y, Nat.le_refl _, ?_, ?_, HO5.out.grown hg8 HNE5.out, HCO5.out, ?_, ?_, ?_⟩
            · have := potB_take (U := U) (V := V) (W := putL V y) (Q := Q) (ps := c.pars) hcu HNV.out hc4 (fun z => putL_mem V y z)
              have := HGK.out; omega
            · rw [List.length_append, idsF_append]; exact hq8
            · rcases HO5.out.lt with h | h
              · exact .inl h
              · rcases HNE5.out with h0 | h0
                · exact .inl h0
                · refine .inr fun k hk e => ?_
                  rcases hf8 with h1 | h1
                  · rw [h1, HPB.out] at e; exact h0 k hk e
                  · have := h1 k e; have := h k hk; omega
            · exact HBQ5.out.grown hg8 hsz5 (fun k hk => by have := HBG.out; have := Option.some.inj hk; omega)
            · have := hg8.size; have := HLT5.out; omega
end Go.Proofs.YtbmiiiccnoiffaaGreatDoor
