/- YtbmiiiccnoiffaaGreatDoorR42: texts KA, BA, K9 of this claim, in one. -/
import Derived.Test.YtbmiiiccnoiffaaGreatDoorR16
import Derived.Test.YtbmiiiccnoiffaaGreatDoorR22
import Derived.Test.YtbmiiiccnoiffaaGreatDoorR33
import Derived.Test.YtbmiiiccnoiffaaGreatDoorR40
import Derived.Test.YtbmiiiccnoiffaaGreatDoorR41
namespace Go.Proofs.YtbmiiiccnoiffaaGreatDoor
open Go.RowKit
theorem parsO_getD (o : Ob) : ((commitOf o.body).getD (zid, [], ⟨#[]⟩)).2.1 = parsO o := by unfold parsO; cases commitOf o.body <;> rfl
theorem cmO_facts {s : ByteArray} {ao : Option Addr} {cap n : Nat} {ct : List Value} (hct : cmC ((commitOf s).getD (zid, [], ⟨#[]⟩)).1 (.slice ao n cap) ((commitOf s).getD (zid, [], ⟨#[]⟩)).2.2 = ct) :
    Hid (ct.length = 34) ∧ Hid (∀ v ∈ ct, v.oneCell' = true) ∧ Hid (ct[32]? = some (.slice ao n cap)) := by
  have htl : ((commitOf s).getD (zid, [], ⟨#[]⟩)).1.length = 32 := by
    cases e : commitOf s with
    | none => exact zid_len
    | some c => exact (commitOf_len e).1
  refine ⟨Lib.hid (by rw [← hct]; exact cmC_len _ _ _ htl), Lib.hid (by rw [← hct]; exact cmC_one _ _ _ _ _), Lib.hid ?_⟩
  rw [← hct]
  unfold cmC
  rw [List.getElem?_append_right (by rw [idC_len, htl]; exact Nat.le_refl _), idC_len, htl]; rfl
theorem cmG_parts (l : List Ob) (x : Idl) : (((cmG (getS l)) x).getD cmt0).tree.length = 32 ∧ (par (cmG (getS l)) x).length ≤ 4 := by
  cases e : cmG (getS l) x with
  | none => exact ⟨zid_len, by unfold par; rw [e]; simp⟩
  | some c =>
    obtain ⟨o, _, _, h3⟩ := cmG_some e
    rw [par_of e]
    exact ⟨(commitOf_len h3).1, (commitOf_len h3).2.2.1⟩
theorem cmG_tree (l : List Ob) (x : Idl) : (((cmG (getS l)) x).getD cmt0).tree.length = 32 := (cmG_parts l x).1
theorem cmG_four (l : List Ob) (x : Idl) : (par (cmG (getS l)) x).length ≤ 4 := (cmG_parts l x).2
def RdAns (cm : Idl → Option Cmt) (w : World) (e : Ending) (w' : World) : Prop := ∃ b, e = .returned (.bool b) ∧ (b = false → Acyc cm) ∧ Below w.heap.size w w'
def RdOut (l : List Ob) (W : World) (i : Value) (wr : World) : Prop := ∃ k : Nat, i = .int .i64 (k : Int) ∧ k ≤ (rights l).length ∧ (∀ j (h : j < (rights l).length), j < k → NoRnd l (rights l)[j]) ∧ Below W.heap.size W wr
def RdIn (cm : Idl → Option Cmt) (un : List Idl) (x0 : Idl) (P : List Idl) (W : World) (gk : Nat) (q v : Value) (wr : World) : Prop :=
  ∃ V Q, Rnd cm x0 P V Q ∧ V.Nodup ∧ (∀ y ∈ V, y ∈ un) ∧ (∀ y ∈ Q, y ∈ un) ∧ potB un V Q ≤ gk ∧ gk ≤ 20004 ∧ IdRow wr q Q ∧ CapI q ∧ OwnQ wr W.heap.size 32 v V.length (idsF V) ∧ (∀ k, v.ownBlock = some k → q.ownBlock ≠ some k) ∧ Below W.heap.size W wr
set_option maxRecDepth 100000 in
set_option maxHeartbeats 4000000 in
theorem rround_any (vl vi : Value) (l : List Ob) (hl : l.length ≤ 1000) (w : World) (hs : SrcRow w (.agg #[vl, vi]) l) :
    Calls Tryz.prog 18 #[.agg #[vl, vi]] w (RdAns (cmG (getS l)) w) := by
  obtain ⟨zi, i0, hi, hz0, hz1, hz2, hzi, hzil⟩ := id_zero
  have HZI := Lib.hid hzil
  obtain ⟨zc, hzc, _, hzce⟩ := cm_zero
  have HZC := Lib.hid (show zc.size = 34 by rw [hzce]; exact cmC_len _ _ _ zid_len)
  have HCM0 := Lib.hid (fun y (hy : y.length = 32) W' (h : Below w.heap.size w W') => rcmt_any vl vi l y W' (hs.below h) hy)
  have HRT : Hid (∀ o ∈ rights l, rightOb o = true) := Lib.hid (fun o ho => (List.mem_filter.1 ho).2)
  have HUN : Hid (∀ o ∈ rights l, ∀ p ∈ parsO o, p ∈ allP l) := Lib.hid (fun o ho => allP_of ho)
  have HUP := Lib.hid (allP_par l)
  have HUL : Hid ((allP l).length ≤ 4000) := Lib.hid (by have := allP_len l; omega)
  have HU32 := Lib.hid (allP_32 l)
  have HTREE := Lib.hid (cmG_tree l)
  have HFOUR := Lib.hid (cmG_four l)
  have HAC := Lib.hid (fun h => acyc_of (l := l) h)
  obtain ⟨vl', vi', hve, hvl, hvi⟩ := hs
  obtain ⟨rfl, rfl⟩ : vl = vl' ∧ vi = vi' := by injection hve with h; injection h with h; injection h with h1 h2; injection h2 with h2 _; exact ⟨h1, h2⟩
  obtain ⟨lo, lc, rfl, hml, hL⟩ := hvl.open
  obtain ⟨io, ic, rfl, hmi, hI⟩ := hvi.open
  unfold maxLen at hml
  rw [List.length_map] at hmi HCM0
  have hI' : rights l ≠ [] → ∃ b off, io = some ⟨b, off, none⟩ ∧ b < w.heap.size ∧ ∀ k (hk : k < (rights l).length), w.rangeAt b (off + k * 32) (idC (idO (rights l)[k])) := fun hne => by
    obtain ⟨b, off, e, hl, hc⟩ := hI (by simpa using hne)
    refine ⟨b, off, e, hl, fun k hk => ?_⟩
    have := hc k (by simpa using hk)
    rwa [List.getElem_map] at this
  rw [List.length_map]
  have HNR : Hid (∀ o, NoRnd l o ↔ (o.kind = 3 → ∀ p ∈ parsO o, ∀ z, Reach (cmG (getS l)) p z → z ≠ idO o)) := Lib.hid (fun o => Iff.rfl)
  obtain ⟨W, hW⟩ : ∃ W, w.alloc (.cells #[.slice lo (rights l).length lc, .slice io (rights l).length ic] 30) = W := ⟨_, rfl⟩
  have hbW : Below w.heap.size w W := by rw [← hW]; exact (Below.refl _ _).alloc (Nat.le_refl _) _
  have hA := Arr.ofList w [.slice lo (rights l).length lc, .slice io (rights l).length ic] 30
  have c0 : W.cell? ⟨w.heap.size, 0, none⟩ = some (.slice lo (rights l).length lc) := by rw [← hW]; exact hA.cell 0 (by simp)
  have c1 : W.cell? ⟨w.heap.size, 1, none⟩ = some (.slice io (rights l).length ic) := by rw [← hW]; exact hA.cell 1 (by simp)
  have hsW : W.heap.size = w.heap.size + 1 := by rw [← hW]; simp
  have HCM := Lib.hid (fun y (hy : y.length = 32) W' (h : Below W.heap.size W W') => HCM0.out y hy W' (hbW.trans (h.mono hbW.size)))
  have HBW := Lib.hid hbW
  have HC01 := Lib.hid (And.intro c0 c1)
  have HSW := Lib.hid hsW
  have HW := Lib.hid hW
  have HL := Lib.hid hL
  have HI := Lib.hid hI'
  clear hvl hvi hI hL hI' hve hbW hA c0 c1 hsW hW HCM0 hzil hzce
  unfold RdAns
  generalize hcm : cmG (getS l) = cm at HCM HUP HNR HAC HTREE HFOUR
  clear hcm
  have HNRD : Hid (∀ i wr, RdOut l W i wr ↔ ∃ k : Nat, i = .int .i64 (k : Int) ∧ k ≤ (rights l).length ∧ (∀ j (h : j < (rights l).length), j < k → NoRnd l (rights l)[j]) ∧ Below W.heap.size W wr) := Lib.hid (fun _ _ => Iff.rfl)
  generalize hro : RdOut l W = RO at HNRD
  clear hro
  generalize hnr : NoRnd l = NR at HNR HAC HNRD
  clear hnr
  generalize allP l = un at HUN HUP HUL HU32
  generalize rights l = rs at HRT HUN HL HI hml HC01 HW HAC HNRD HCM
  go_enter Tryz.func18, Tryz.ntmps18
  go_wp2_with fail
  rw [HW.out]
  go_loopw [3] (fun i wr => RO i wr) (fun i _ => (rs.length - intOf i).toNat)
  case atStart => exact (HNRD.out _ _).2 ⟨0, rfl, by omega, fun j _ h => absurd h (by omega), Below.refl _ _⟩
  case round =>
    obtain ⟨wo, rfl⟩ : ∃ wo : World, wo = wr := ⟨_, rfl⟩
    obtain ⟨k, rfl, hk, hno, hb⟩ := (HNRD.out _ _).1 hrel
    have HNO := Lib.hid hno
    have HB := Lib.hid hb
    have hwo : W.heap.size ≤ wo.heap.size := hb.size
    have e0 : wo.cell? ⟨w.heap.size, 0, none⟩ = some (.slice lo rs.length lc) := below_load HC01.out.1 hb (by have := HSW.out; omega)
    have e1 : wo.cell? ⟨w.heap.size, 1, none⟩ = some (.slice io rs.length ic) := below_load HC01.out.2 hb (by have := HSW.out; omega)
    clear hno hrel
    by_cases hlt : k < rs.length
    · have hne : rs ≠ [] := by intro e; rw [e] at hlt; simp at hlt
      obtain ⟨bi, oi, rfl, hbi, hci⟩ := HI.out hne
      obtain ⟨bl, ol, rfl, hbl, hcl⟩ := HL.out hne
      have hbw : Below w.heap.size w wo := HBW.out.trans (hb.mono HBW.out.size)
      have fi := rangeAt_below (hci k hlt) hbw hbi
      have fl := rangeAt_below (hcl k hlt) hbw hbl
      obtain ⟨o, ho⟩ : ∃ o, rs[k] = o := ⟨_, rfl⟩
      rw [ho] at fi fl
      have HOK := Lib.hid ho
      have hom : o ∈ rs := by rw [← ho]; exact List.getElem_mem hlt
      have HOM := Lib.hid hom
      have g0 : wo.cell? ⟨bl, ol + k * 2, none⟩ = some (.int .i64 o.kind) := by have := fl 0 _ rfl; rwa [Nat.add_zero] at this
      have g1 : wo.cell? ⟨bl, ol + k * 2 + 1, none⟩ = some (.string o.body) := fl 1 _ rfl
      have k0 : (0 : Int) ≤ k := by omega
      have k1 : (k : Int) < rs.length := by omega
      have d1 : decide ((k : Int) < rs.length) = true := decide_eq_true k1
      have HNEXT : Hid (NR o → ∀ wr, Below W.heap.size W wr → RO (.int .i64 ((k : Int) + 1)) wr) := Lib.hid (fun h wr hbr => (HNRD.out _ _).2 ⟨k + 1, by rw [Int.natCast_add]; rfl, by omega, fun j hj hjk => by
        by_cases e : j = k
        · subst e; rw [HOK.out]; exact h
        · exact HNO.out j hj (by omega), hbr⟩)
      clear hcl hci ho hom hne fl hb
      by_cases h3 : o.kind = 3
      · have d3 : (o.kind != 3) = false := by rw [h3]; rfl
        have hsz : o.body.size ≤ 100000 := by have := right_small (HRT.out o HOM.out); omega
        have HRC := Lib.hid (rcommit_fc o.body wo hsz)
        have HDONE : Hid ((∀ p ∈ parsO o, ∀ z, Reach cm p z → z ≠ idO o) → NR o) := Lib.hid (fun h => (HNR.out o).2 (fun _ => h))
        have HPU := Lib.hid (HUN.out o HOM.out)
        have HP4 := Lib.hid (parsO_len o)
        have h34 : (Tryz.prog.info? 97).map (·.size) = some 34 := by kernel_rfl
        have h32 : (Tryz.prog.info? 24).map (·.size) = some 32 := by kernel_rfl
        clear h3 hsz
        go_wp2_with fail
        refine HRC.out.mono ?_
        rintro e w2 ⟨v, rfl, hrow, hfr, hcap, hb2⟩
        rw [parsO_getD] at hrow
        obtain ⟨ao2, lcap, rfl, _⟩ := hrow.flat0
        obtain ⟨ct, hct⟩ : ∃ ct, cmC ((commitOf o.body).getD (zid, [], ⟨#[]⟩)).1 (.slice ao2 (parsO o).length lcap) ((commitOf o.body).getD (zid, [], ⟨#[]⟩)).2.2 = ct := ⟨_, rfl⟩
        obtain ⟨HCL, HCO, HC32⟩ := cmO_facts hct
        rw [hct]
        obtain ⟨W3, hW3⟩ : ∃ W3, (w2.alloc (.cells zc 97)).setCells w2.heap.size 0 ct = W3 := ⟨_, rfl⟩
        have wr3 := wrote (by rw [HCL.out, HZC.out]) (by rw [HZC.out]; omega) hW3
        have c32 : W3.cell? ⟨w2.heap.size, 32, none⟩ = some (.slice ao2 (parsO o).length lcap) := by have := wr3.row 32 _ HC32.out; rwa [Nat.zero_add] at this
        have HTH := Lib.hid (there_alloc w2 zc 97 HZC.out)
        have HROW := Lib.hid (hrow.below wr3.bel)
        have HCAP : Hid (CapI (.slice ao2 (parsO o).length lcap)) := Lib.hid hcap
        have hb3 : Below wo.heap.size wo W3 := hb2.trans (wr3.bel.mono hb2.size)
        have HB3 := Lib.hid hb3
        have hb30 : Below W.heap.size W W3 := HB.out.trans (hb3.mono hwo)
        have HB30 := Lib.hid hb30
        have E0 := Lib.hid (below_load e0 hb3 (by have := HSW.out; omega))
        have E1 := Lib.hid (below_load e1 hb3 (by have := HSW.out; omega))
        have hblw : bi < wo.heap.size := by have := HBW.out.size; omega
        have FI := Lib.hid (rangeAt_below fi hb3 hblw)
        have hs3 : wo.heap.size ≤ W3.heap.size := hb3.size
        have HW3 := Lib.hid hW3
        clear hct hrow hfr hcap hb2 wr3 hb3 hb30 hW3 HRC e0 e1 g0 g1 fi
        go_wp2_with (refine wpList_store_list rfl 97 _ _ rfl w2.heap.size 0 ct rfl rfl 34 HCL.out HTH.out h34 HCO.out ?_; rw [HW3.out])
        go_loopg [6, 7] (5 * un.length + 4) (fun gk q v wr => RdIn cm un (idO o) (parsO o) W3 gk q v wr)
        case atStart =>
          exact ⟨[], parsO o, Rnd.init _ _, List.nodup_nil, (by intro y hy; cases hy), HPU.out, by have := potB_le un [] (parsO o); have := HP4.out.1; omega, by have := HUL.out; omega, HROW.out, HCAP.out, ownQ_nil _ _ _, (by intro j hj; cases hj), Below.refl _ _⟩
        case round =>
          obtain ⟨wi, rfl⟩ : ∃ wi : World, wi = wr := ⟨_, rfl⟩
          unfold RdIn at hrel
          obtain ⟨V, Q, hrnd, hnd, hVu, hQu, hpot, hgk, hq, hqc, hv, hne, hb⟩ := hrel
          have hVl : V.length ≤ 4000 := Nat.le_trans (nodup_sub_len V un hnd hVu) HUL.out
          have hV32 : ∀ y ∈ V, y.length = 32 := fun y hy => HU32.out y (hVu y hy)
          have hbo : Below W.heap.size W wi := HB30.out.trans (hb.mono HB30.out.size)
          have hswi : W3.heap.size ≤ wi.heap.size := hb.size
          have HBO := Lib.hid hbo
          clear HC32 HTH HW3
          cases Q with
          | nil =>
            have HNR2 : Hid (NR o) := Lib.hid (HDONE.out (fun p hp z hz => hrnd.done hp hz))
            have HEND := Lib.hid (HNEXT.out HNR2.out wi hbo)
            obtain ⟨aq, cq, rfl, _⟩ := hq.flat0
            clear hrnd hnd hVu hQu hpot hq hqc hv hne hb hV32 hbo c32
            go_wp2
            go_roundw
            case rel => exact HEND.out
            case measure => simp [intOf]; omega
          | cons x Q =>
            have hxl : x.length = 32 := HU32.out x (hQu x (by simp))
            have hQu2 : ∀ y ∈ Q, y ∈ un := fun y hy => hQu y (List.mem_cons_of_mem _ hy)
            obtain ⟨g, off, cap, rfl, hgl, hnc, hmx, hr0, hcut⟩ := hq.cut hqc
            obtain ⟨p, hp⟩ : ∃ p, p = (if cap = 0 then (⟨g, off, none⟩ : Addr) else ⟨g, off + 32, none⟩) := ⟨_, rfl⟩
            obtain ⟨hq2, hqc2⟩ := hcut p hp
            have HSL : Hid (∀ W, (Instr.sliceAt 28 (.slice (some ⟨g, off, none⟩) (Q.length + 1) (cap + 1)) (some (.int .i64 1)) none none).run Tryz.prog W = .ok (.slice (some p) Q.length cap) W) := Lib.hid (fun W => by rw [hp]; exact run_cut_ids W g off Q.length cap (by omega))
            have HPB : Hid ((Value.slice (some p) Q.length cap).ownBlock = some g) := Lib.hid (by rw [hp]; show some (Addr.block (if cap = 0 then _ else _)) = some g; split <;> rfl)
            have hxc : (idC x).length = 32 := by rw [idC_len, hxl]
            have h32x := h32_of hxc
            have hol := idO_len o
            have h32o := h32_of (us := idC (idO o)) (by rw [idC_len, hol])
            obtain ⟨W4, hW4⟩ : ∃ W4, (wi.alloc (.cells zi 24)).setCells wi.heap.size 0 (idC x) = W4 := ⟨_, rfl⟩
            have wr4 := wrote (by rw [hxc, HZI.out]) (by rw [HZI.out]; omega) hW4
            have hb4 : Below W3.heap.size W3 W4 := hb.trans (wr4.bel.mono hswi)
            have e14 := below_load E1.out hb4 (by have := HSW.out; omega)
            have fx4 := wr4.row
            have fi4 := rangeAt_below FI.out hb4 (by omega)
            have hsW4 := wr4.bel.size
            have hlt4 := wr4.lt
            have HB4 := Lib.hid hb4
            have HBI4 := Lib.hid wr4.bel
            have HV4 := Lib.hid (hv.below wr4.bel)
            have HQ4 := Lib.hid (hq2.below wr4.bel)
            have HQC := Lib.hid hqc2
            have HVB : Hid (∀ k, u7.ownBlock = some k → W3.heap.size ≤ k ∧ k < wi.heap.size ∧ k ≠ g) := Lib.hid (fun k hk => ⟨(hv.lt k hk).1, (hv.lt k hk).2, fun e => hne k hk (by rw [e]; rfl)⟩)
            have HR0 := Lib.hid hr0
            have HTH4 := Lib.hid (there_alloc wi zi 24 HZI.out)
            have HXC := Lib.hid hxc
            have HXO := Lib.hid (idC_one x)
            have HXL := Lib.hid hxl
            have HW4 := Lib.hid hW4
            have HRND := Lib.hid hrnd
            have HND := Lib.hid hnd
            have HVU := Lib.hid hVu
            have HQU := Lib.hid hQu2
            have HV32 := Lib.hid hV32
            have HXU := Lib.hid (hQu x (by simp))
            have HGK := Lib.hid hpot
            have heq := id_eqIn x (idO o) hxl hol
            have HXY : Hid ((x == idO o) = decide (x = idO o)) := Lib.hid (by by_cases h : x = idO o <;> simp [h])
            have HCX := Lib.hid (fun X (h : Below W.heap.size W X) => HCM.out x hxl X h)
            have hbiW : bi < W4.heap.size := by omega
            have hwsW : w.heap.size < W4.heap.size := by have := HSW.out; omega
            clear hrnd hnd hVu hQu hQu2 hpot hq hqc hv hne hb hV32 hcut hp hq2 hqc2 hr0 hxc hol wr4 hb4 hW4 c32 hbo
            generalize hiy : idC x = ux at h32x fx4 HTH4 HXC HXO HW4 HR0 heq HCX
            have HIY := Lib.hid hiy
            clear hiy
            generalize idC (idO o) = uo at h32o fi4 heq FI
            generalize (x == idO o) = exo at heq HXY
            go_wp2_with (first
              | (refine wpList_load_mid rfl 24 _ rfl g off rfl ux _ HR0.out Tryz.underlying24 rfl h32x ?_)
              | (refine wpList_store_list rfl 24 _ _ rfl wi.heap.size 0 ux rfl rfl 32 HXC.out HTH4.out h32 HXO.out ?_; rw [HW4.out])
              | (refine wpList_slice_run rfl 28 _ _ rfl _ _ rfl rfl _ (HSL.out _) ?_))
            refine wp_region_bq (by kernel_rfl) (by kernel_rfl) ?_
            have LQ0 := fun x : BW (World.heap W4).size W4 => below_load e14 x.hb (by omega)
            repeat (go_big_quiet_step (fail))
            refine bq_row 24 _ _ rfl rfl rfl fx4 (by omega) Tryz.underlying24 rfl h32x ?_
            simp only [Act.put, List.setIfInBounds_toArray, List.set_cons_zero, List.set_cons_succ]
            repeat (go_big_quiet_step (fail))
            refine bq_row 24 _ _ rfl rfl rfl fi4 (by omega) Tryz.underlying24 rfl h32o ?_
            simp only [Act.put, List.setIfInBounds_toArray, List.set_cons_zero, List.set_cons_succ]
            repeat (go_big_quiet_step (fail))
            refine wpQuiet_nil ?_
            intro wq hbq
            clear LQ0
            have HBQ := Lib.hid (HB4.out.trans (hbq.mono (by omega)))
            have HBO4 := Lib.hid (HBO.out.trans ((HBI4.out.trans (hbq.mono hsW4)).mono HBO.out.size))
            have FX := Lib.hid (rangeAt_below fx4 hbq hlt4)
            have hsq := hbq.size
            have HVQ := Lib.hid (HV4.out.below hbq)
            have HQQ := Lib.hid (HQ4.out.below hbq)
            have hVr : IdRow wq u7 V := HVQ.out.row HV32.out
            have hin := rin_any u7 V x wq hVr HV32.out HXL.out
            rw [HIY.out] at hin
            have HIN := Lib.hid hin
            clear hbq fx4 fi4 e14 hVr hin heq HR0 HTH4 HW4 HB4 HV4 HQ4 HSL
            cases exo with
            | true =>
              have HEND := Lib.hid (HBW.out.trans (HBO4.out.mono HBW.out.size))
              go_wp2_with fail
              go_ret
              exact ⟨true, rfl, (by intro h; cases h), HEND.out⟩
            | false =>
              have hxo : x ≠ idO o := of_decide_eq_false HXY.out.symm
              have HXN := Lib.hid hxo
              clear hxo
              have f1 := FX.out
              go_wp2_with (refine wpList_load_mid rfl 24 _ rfl wi.heap.size 0 rfl ux _ f1 Tryz.underlying24 rfl h32x ?_)
              refine HIN.out.mono ?_
              rintro e w5 ⟨rfl, hb5⟩
              have FX5 := Lib.hid (rangeAt_below FX.out hb5 (by omega))
              have HV5 := Lib.hid (HVQ.out.below hb5)
              have HQ5 := Lib.hid (HQQ.out.below hb5)
              have HB5 := Lib.hid (HBQ.out.trans (hb5.mono (by omega)))
              have HBO5 := Lib.hid (HBO4.out.trans (hb5.mono (by omega)))
              have hs5 : wi.heap.size < w5.heap.size := by have := hb5.size; omega
              clear hb5 f1 FX HVQ HQQ HBQ HBO4 HIN
              cases hvx : V.contains x with
              | true =>
                have hxV : x ∈ V := by rw [List.contains_eq_mem, decide_eq_true_iff] at hvx; exact hvx
                have HEND : Hid (RdIn cm un (idO o) (parsO o) W3 (potB un V Q) (.slice (some p) Q.length cap) u7 w5) := Lib.hid ⟨V, Q, HRND.out.skip hxV, HND.out, HVU.out, HQU.out, Nat.le_refl _, by have := potB_skip un V Q x; have := HGK.out; omega, HQ5.out, HQC.out, HV5.out, fun k hk e => by
                  rw [HPB.out] at e
                  exact (HVB.out k hk).2.2 (Option.some.inj e).symm, HB5.out⟩
                clear hvx hxV
                go_wp2_with fail
                go_roundg (potB un V Q)
                case measure => have := potB_skip un V Q x; have := HGK.out; omega
                case rel => exact HEND.out
              | false =>
                have hxV : x ∉ V := by rw [List.contains_eq_mem, decide_eq_false_iff_not] at hvx; exact hvx
                have HNV := Lib.hid hxV
                clear hvx hxV
                have hb6 : Below w5.heap.size w5 (w5.alloc (.cells ux.toArray 24)) := (Below.refl _ _).alloc (Nat.le_refl _) _
                have HV6 := Lib.hid (HV5.out.below hb6)
                have HQ6 := Lib.hid (HQ5.out.below hb6)
                have HBO6 := Lib.hid (HBO5.out.trans (hb6.mono (by have := HBO5.out.size; omega)))
                have HB6 := Lib.hid (HB5.out.trans (hb6.mono (by omega)))
                have FX6 := Lib.hid (rangeAt_below FX5.out hb6 hs5)
                have HNEW : Hid (∀ j u, ux[j]? = some u → (w5.alloc (.cells ux.toArray 24)).cell? ((⟨w5.heap.size, 0, none⟩ : Addr).add j) = some u) := Lib.hid (fun j u hj => cells_newL _ ux _ j u hj)
                have HSZ : Hid (∀ w, (sizeOf 24).run Tryz.prog w = .ok ux.length w) := Lib.hid (fun w => by rw [HXC.out]; kernel_rfl)
                have HTS : Hid (idsF (V ++ [x]) = idsF V ++ ux) := Lib.hid (by rw [← HIY.out]; exact idsF_snoc _ _)
                have hb36 : W3.heap.size ≤ (w5.alloc (.cells ux.toArray 24)).heap.size := HB6.out.size |> fun h => h
                have f1 := FX5.out
                clear hb6
                go_wp2_with (first
                  | (refine wpList_load_mid rfl 24 _ rfl wi.heap.size 0 rfl ux _ f1 Tryz.underlying24 rfl h32x ?_)
                  | (refine wpList_buildSlice_one rfl (.tmp 57) 28 24 rfl ux zi rfl Tryz.underlying28 HSZ.out hzi (by rw [HXC.out]; omega) (by rw [HXC.out]; omega) ?_)
                  | (refine wpList_append_q rfl (.tmp 56) (.tmp 58) 28 rfl W3.heap.size 24 i0 (.agg zi) 32 32 Tryz.underlying28 hi hz0 hz1 hz2 HZI.out (by decide) _ V.length (idsF V) rfl HV6.out (some ⟨w5.heap.size, 0, none⟩) 1 1 ux rfl (by rw [HXC.out]) (fun _ => ⟨_, rfl, HNEW.out⟩) HXO.out (by unfold maxLen; omega) (by omega) hb36 ?_))
                intro v7 w7 hv7 hg7 hf7
                rw [World.size_alloc] at hb36
                have HV7 : Hid (OwnQ w7 W3.heap.size 32 v7 (V ++ [x]).length (idsF (V ++ [x]))) := Lib.hid (by rw [HTS.out, List.length_append, List.length_singleton]; exact hv7)
                have hs7 : w5.heap.size + 1 ≤ w7.heap.size := by have := hg7.size; rwa [World.size_alloc] at this
                have HB7 := Lib.hid (HB6.out.grown hg7 HB6.out.size (fun j hj => (HVB.out j hj).1))
                have HBO7 := Lib.hid (HBW.out.trans ((HB30.out.trans (HB7.out.mono HB30.out.size)).mono HBW.out.size))
                have HQ7 := Lib.hid (HQ6.out.grown hg7 (.inr fun j hj e => by rw [HPB.out] at hj; exact (HVB.out j e).2.2 (Option.some.inj hj).symm))
                have HV7B : Hid (∀ j, v7.ownBlock = some j → j ≠ g ∧ j < w7.heap.size ∧ W3.heap.size ≤ j) := Lib.hid (fun j hj => by
                  refine ⟨fun e => ?_, (hv7.lt j hj).2, (hv7.lt j hj).1⟩
                  rcases hf7 with h | h
                  · rw [h] at hj; exact (HVB.out j hj).2.2 e
                  · have := h j hj
                    rw [World.size_alloc] at this
                    omega)
                have f7 := range_grown FX6.out hg7 (fun e => by have := (HVB.out _ e).2.1; omega)
                have e07 : w7.cell? ⟨w.heap.size, 0, none⟩ = some (.slice (some ⟨bl, ol, none⟩) rs.length lc) := below_load E0.out HB7.out (by have := HSW.out; omega)
                have e17 : w7.cell? ⟨w.heap.size, 1, none⟩ = some (.slice (some ⟨bi, oi, none⟩) rs.length ic) := below_load E1.out HB7.out (by have := HSW.out; omega)
                have HC7 := Lib.hid (HCX.out w7 (HB30.out.trans (HB7.out.mono HB30.out.size)))
                clear hv7 hg7 hf7 HV6 HQ6 HB6 HBO6 FX6 FX5 HV5 HQ5 HB5 HBO5 f1 HNEW
                go_wp2_with (refine wpList_load_mid rfl 24 _ rfl wi.heap.size 0 rfl ux _ f7 Tryz.underlying24 rfl h32x ?_)
                refine HC7.out.mono ?_
                intro e w8 h
                obtain ⟨pv, rfl, hrow, hb8⟩ := h
                clear f7 e07 e17 HC7
                have HPAR : Hid (∀ q ∈ par cm x, q ∈ un) := Lib.hid (HUP.out x)
                have hps : ((cm x).getD cmt0).pars = par cm x := par_getD cm x
                have htl : ((cm x).getD cmt0).tree.length = 32 := HTREE.out x
                have hp4 : (par cm x).length ≤ 4 := HFOUR.out x
                rw [hps] at hrow
                obtain ⟨ap, pcap, rfl, _⟩ := hrow.flat0
                obtain ⟨ct2, hct2⟩ : ∃ ct2, cmC ((cm x).getD cmt0).tree (.slice ap (par cm x).length pcap) ((cm x).getD cmt0).text = ct2 := ⟨_, rfl⟩
                have hcl2 : ct2.length = 34 := by rw [← hct2]; exact cmC_len _ _ _ htl
                have hco2 : ∀ v ∈ ct2, v.oneCell' = true := by rw [← hct2]; exact cmC_one _ _ _ _ _
                have hc32 : ct2[32]? = some (.slice ap (par cm x).length pcap) := by
                  rw [← hct2]; unfold cmC
                  rw [List.getElem?_append_right (by rw [idC_len, htl]; exact Nat.le_refl _), idC_len, htl]; rfl
                rw [hct2]
                obtain ⟨W9, hW9⟩ : ∃ W9, (w8.alloc (.cells zc 97)).setCells w8.heap.size 0 ct2 = W9 := ⟨_, rfl⟩
                have wr9 := wrote (by rw [hcl2, HZC.out]) (by rw [HZC.out]; omega) hW9
                have c329 : W9.cell? ⟨w8.heap.size, 32, none⟩ = some (.slice ap (par cm x).length pcap) := by have := wr9.row 32 _ hc32; rwa [Nat.zero_add] at this
                have hb79 : Below w7.heap.size w7 W9 := hb8.trans (wr9.bel.mono hb8.size)
                have HROW9 := Lib.hid (hrow.below wr9.bel)
                have HV9 := Lib.hid (HV7.out.below hb79)
                have HQ9 := Lib.hid (HQ7.out.below hb79)
                have HB9 := Lib.hid (HB7.out.trans (hb79.mono (by omega)))
                have hs9 : w7.heap.size ≤ W9.heap.size := hb79.size
                have hs89 : w8.heap.size < W9.heap.size := wr9.lt
                have HTH9 := Lib.hid (there_alloc w8 zc 97 HZC.out)
                have HCL2 := Lib.hid hcl2
                have HCO2 := Lib.hid hco2
                have HW9 := Lib.hid hW9
                have HC329 := Lib.hid c329
                have hRND2 := HRND.out.take (by intro e; exact HXN.out e)
                have HRND2 := Lib.hid hRND2
                have hpot2 : potB un (V ++ [x]) (Q ++ par cm x) < potB un V (x :: Q) := potB_take HXU.out HNV.out hp4 (fun y => by rw [List.mem_append, List.mem_singleton])
                have HPOT2 := Lib.hid hpot2
                have hnd2 : (V ++ [x]).Nodup := by
                  rw [List.nodup_append]
                  exact ⟨HND.out, by simp, fun a ha b hb e => HNV.out (by rw [List.mem_singleton.1 hb] at e; rw [← e]; exact ha)⟩
                have hvu2 : ∀ y ∈ V ++ [x], y ∈ un := fun y hy => by
                  rcases List.mem_append.1 hy with h1 | h1
                  · exact HVU.out y h1
                  · rw [List.mem_singleton.1 h1]; exact HXU.out
                have hqu2 : ∀ y ∈ Q ++ par cm x, y ∈ un := fun y hy => by
                  rcases List.mem_append.1 hy with h1 | h1
                  · exact HQU.out y h1
                  · exact HPAR.out y h1
                have HMK : Hid (∀ q w', IdRow w' q (Q ++ par cm x) → CapI q → OwnQ w' W3.heap.size 32 v7 (V ++ [x]).length (idsF (V ++ [x])) → (∀ j, v7.ownBlock = some j → q.ownBlock ≠ some j) → Below W3.heap.size W3 w' → RdIn cm un (idO o) (parsO o) W3 (potB un (V ++ [x]) (Q ++ par cm x)) q v7 w') := Lib.hid (fun q w' h1 h2 h3 h4 h5 => ⟨V ++ [x], Q ++ par cm x, HRND2.out, hnd2, hvu2, hqu2, Nat.le_refl _, by have := HPOT2.out; have := HGK.out; omega, h1, h2, h3, h4, h5⟩)
                have hqlen : Q.length ≤ 20004 := by have := HGK.out; unfold potB at this; simp at this; omega
                have HQ32 : Hid (∀ y ∈ Q, y.length = 32) := Lib.hid (fun y hy => HU32.out y (HQU.out y hy))
                have HP32 : Hid (∀ y ∈ par cm x, y.length = 32) := Lib.hid (fun y hy => HU32.out y (HPAR.out y hy))
                clear hrow hb8 hct2 hcl2 hco2 hc32 htl hps wr9 c329 hb79 hRND2 hpot2 hnd2 hvu2 hqu2 hW9 HV7 HQ7 HB7
                cases hcx : cm x with
                | none =>
                  have hp0 : par cm x = [] := by unfold par; rw [hcx]
                  have HEND : Hid (RdIn cm un (idO o) (parsO o) W3 (potB un (V ++ [x]) (Q ++ par cm x)) (.slice (some p) Q.length cap) v7 W9) := Lib.hid (HMK.out _ _ (by rw [hp0, List.append_nil]; exact HQ9.out) HQC.out HV9.out (fun j hj e => by rw [HPB.out] at e; exact (HV7B.out j hj).1 (Option.some.inj e).symm) HB9.out)
                  clear hp0
                  dsimp only [Option.isSome_none]
                  go_wp2_with (refine wpList_store_list rfl 97 _ _ rfl w8.heap.size 0 ct2 rfl rfl 34 HCL2.out HTH9.out h34 HCO2.out ?_; rw [HW9.out])
                  go_roundg (potB un (V ++ [x]) (Q ++ par cm x))
                  case measure => have := HPOT2.out; have := HGK.out; omega
                  case rel => exact HEND.out
                | some c =>
                  obtain ⟨aq, cq, heq, hnew⟩ := HQ9.out.flat HQ32.out
                  obtain ⟨rfl, rfl⟩ : some p = aq ∧ cap = cq := by injection heq with e1 _ e3; exact ⟨e1, e3⟩
                  have HNW := Lib.hid hnew
                  have HQLN := Lib.hid (idsF_len Q HQ32.out)
                  clear heq hnew hcx
                  dsimp only [Option.isSome_some]
                  go_wp2_with (first
                    | (refine wpList_store_list rfl 97 _ _ rfl w8.heap.size 0 ct2 rfl rfl 34 HCL2.out HTH9.out h34 HCO2.out ?_; rw [HW9.out])
                    | (refine wpList_append_q rfl (.tmp 67) (.tmp 68) 28 rfl W9.heap.size 24 i0 (.agg zi) 32 32 Tryz.underlying28 hi hz0 hz1 hz2 HZI.out (by decide) _ 0 [] rfl (ownQ_nil _ _ _) (some p) Q.length cap (idsF Q) rfl HQLN.out HNW.out (idsF_one Q) (by unfold maxLen; omega) (by omega) (Nat.le_refl _) ?_))
                  intro m1 wa hm1 hga _
                  have hca := cell_grown HC329.out hga (fun e => by cases e)
                  have hrowa := HROW9.out.grown hga (.inr fun _ _ e => by cases e)
                  obtain ⟨ap', pcap', heq, hnew⟩ := hrowa.flat HP32.out
                  obtain ⟨rfl, rfl⟩ : ap = ap' ∧ pcap = pcap' := by injection heq with e1 _ e3; exact ⟨e1, e3⟩
                  have HNWA := Lib.hid hnew
                  have HPLN := Lib.hid (idsF_len (par cm x) HP32.out)
                  have HM1 := Lib.hid hm1
                  have HVA := Lib.hid (HV9.out.grown hga (fun _ _ e => by cases e))
                  have HBA := Lib.hid (HB9.out.grown hga HB9.out.size (fun _ e => by cases e))
                  have hsa : W9.heap.size ≤ wa.heap.size := hga.size
                  have HM1B := Lib.hid (fun j hj => (hm1.lt j hj).1 : ∀ j, m1.ownBlock = some j → W9.heap.size ≤ j)
                  clear heq hnew hrowa hga hm1
                  go_wp2_with (refine wpList_append_q rfl (.tmp 70) (.tmp 72) 28 rfl W9.heap.size 24 i0 (.agg zi) 32 32 Tryz.underlying28 hi hz0 hz1 hz2 HZI.out (by decide) _ Q.length (idsF Q) rfl HM1.out ap (par cm x).length pcap (idsF (par cm x)) rfl HPLN.out HNWA.out (idsF_one _) (by unfold maxLen; omega) (by omega) hsa ?_)
                  intro m2 wb hm2 hgb _
                  rw [← idsF_append, ← List.length_append] at hm2
                  obtain ⟨hir, hic⟩ := idRow_own hm2 (fun y hy => by
                    rcases List.mem_append.1 hy with h1 | h1
                    · exact HQ32.out y h1
                    · exact HP32.out y h1)
                  have HEND : Hid (RdIn cm un (idO o) (parsO o) W3 (potB un (V ++ [x]) (Q ++ par cm x)) m2 v7 wb) := Lib.hid (HMK.out _ _ hir hic (HVA.out.grown hgb (fun j hj e => by have := HM1B.out _ e.symm; have := (HV7B.out j hj).2.1; omega)) (fun j hj e => by have := (hm2.lt j e).1; have := (HV7B.out j hj).2.1; omega) (HBA.out.grown hgb HBA.out.size (fun j hj => by have := HM1B.out j hj; omega)))
                  clear hm2 hgb hir hic
                  go_wp2
                  go_roundg (potB un (V ++ [x]) (Q ++ par cm x))
                  case measure => have := HPOT2.out; have := HGK.out; omega
                  case rel => exact HEND.out
      · have d3 : (o.kind != 3) = true := by rw [bne_iff_ne]; exact h3
        have hnr : NR o := (HNR.out o).2 (fun h => absurd h h3)
        have HEND := Lib.hid (HNEXT.out hnr wo HB.out)
        clear h3
        go_wp2
        go_roundw
        case rel => exact HEND.out
        case measure => simp [intOf]; omega
    · have HALL : Hid (Acyc cm) := Lib.hid (HAC.out (fun o ho => by
        obtain ⟨j, hj, rfl⟩ := List.getElem_of_mem ho
        exact HNO.out j hj (by omega)))
      have d1 : decide ((k : Int) < rs.length) = false := decide_eq_false (by omega)
      go_wp2
      go_ret
      exact ⟨false, rfl, fun _ => HALL.out, HBW.out.trans (HB.out.mono HBW.out.size)⟩
end Go.Proofs.YtbmiiiccnoiffaaGreatDoor
namespace Go.Proofs.YtbmiiiccnoiffaaGreatDoor
open Go.RowKit Go.Maps
variable {cm : Idl → Option Cmt}
/-- A block without cells. -/
def NoCells (w : World) (k : Nat) : Prop := ∀ o, w.cell? ⟨k, o, none⟩ = none
theorem IdRow.offc {w : World} {v : Value} {l : List Idl} {k : Nat} (h : IdRow w v l) (hl : ∀ x ∈ l, x.length = 32) (hk : NoCells w k) : l = [] ∨ ∀ j, v.ownBlock = some j → some k ≠ some j := by
  by_cases h0 : l = []
  · exact .inl h0
  · obtain ⟨ao, cap, rfl, _, h⟩ := h.open
    obtain ⟨g, off, rfl, _, hc⟩ := h h0
    refine .inr fun j hj e => ?_
    have hj' : g = j := by simpa [Value.ownBlock] using hj
    have hk' : k = j := Option.some.inj e
    subst hj'; subst hk'
    have hp : 0 < l.length := List.length_pos_iff.2 h0
    have hx : (idC l[0]).length = 32 := by rw [idC_len]; exact hl _ (List.getElem_mem hp)
    have := hc 0 hp 0 ((idC l[0])[0]'(by omega)) (by simp)
    rw [hk] at this
    cases this
theorem MapG.noc {α : Type} {enc : α → Value} {w : World} {b n : Nat} {f : Idl → Option α} (h : MapG enc w b n f) : NoCells w b := h.nocell
theorem RangeG.noc {α : Type} {enc : α → Value} {w : World} {b r n : Nat} {f : Idl → Option α} {L : List Idl} (h : RangeG enc w b r n f L) : NoCells w r := by
  obtain ⟨⟨D, left, cnt, ⟨es, clock, since, seen, c0, h1, F, hs, hD, h2, rest⟩, h3, h4⟩, k1, k2, k3⟩ := h
  intro o
  simp [World.cell?, h2]
/-- The commits of a line, their rows lie off what has no cells. -/
theorem LineM.off {w : World} {b n k : Nat} {S : List Idl} (h : LineM cm w b n S Option.none) (hl : ∀ x c, cm x = some c → ∀ p ∈ c.pars, p.length = 32) (hk : NoCells w k) : LineM cm w b n S (some k) := by
  obtain ⟨g, h1, h2, h3⟩ := h
  refine ⟨g, h1, h2, fun x v hx => ?_⟩
  obtain ⟨c, pv, m1, m2, m3, _⟩ := h3 x v hx
  exact ⟨c, pv, m1, m2, m3, m3.offc (hl x c m1) hk⟩
theorem LineM.turned {w w' : World} {b n k : Nat} {S : List Idl} (h : LineM cm w b n S Option.none) (hl : ∀ x c, cm x = some c → ∀ p ∈ c.pars, p.length = 32) (hk : NoCells w k) (hg : w.grownBy w' (some k)) (hb : b ≠ k) : LineM cm w' b n S Option.none :=
  ((h.off hl hk).grown hg (fun e => hb (Option.some.inj e)) (.inl rfl)).none
/-- 'delete(l, id)'. -/
theorem wpList_delete_L {w : World} {ops : Array Oper} {rest : List Oper} {o : Oper} {a : Act} {Q : Exit → Act → World → Prop} (hg : o.guard = Option.none) (m x : Operand) (t : TypeId) (hop : o.op = Op.call { callee := Callee.builtin Builtin.delete, args := #[m, x], argTypes := #[t, 24] })
    (ht : Tryz.prog.underlying t = some (.map 24 97)) (b n : Nat) (S : List Idl) (hm : a.eval m = .map (some b)) (h : LineM cm w b n S Option.none) (hl : ∀ x c, cm x = some c → ∀ p ∈ c.pars, p.length = 32) (p : Idl) (hp : p.length = 32) (hx : a.eval x = .agg (idC p).toArray)
    (hK : ∀ w', LineM cm w' b n (S.filter fun q => decide (q ≠ p)) Option.none → w.grownBy w' (some b) → wpList Tryz.prog ops Q rest (a.put o.dst (.tuple #[])) w') : wpList Tryz.prog ops Q (o :: rest) a w := by
  obtain ⟨g, h1, h2, h3⟩ := h
  refine wpList_delete_G (enc := vlV) hg m x t 97 hop ht b n g hm h1 p hp hx fun w' k1 k2 => hK w' ⟨_, k1, fun z hz => ?_, fun z u hu => ?_⟩ k2
  · show (if z = p then Option.none else g z).isSome = true ↔ _
    rw [List.mem_filter, decide_eq_true_iff]
    by_cases e : z = p
    · rw [if_pos e]; simp [e]
    · rw [if_neg e, h2 z hz]; simp [e]
  · by_cases e : z = p
    · rw [if_pos e] at hu; cases hu
    · rw [if_neg e] at hu
      obtain ⟨c, pv, m1, m2, m3, _⟩ := h3 z u hu
      exact ⟨c, pv, m1, m2, m3.grown k2 (m3.off (hl _ _ m1) h1), .inr fun _ _ e => by cases e⟩

set_option maxRecDepth 100000 in
set_option maxHeartbeats 2000000 in
/-- The closure: is an id not in the other line? -/
theorem hb1_any (htree : ∀ x c, cm x = some c → c.tree.length = 32) (x : Idl) (hx : x.length = 32) (ct : List Value) (yc yb m : Nat) (S : List Idl) (q : Option Nat) (w : World) (hc : w.cell? ⟨yc, 0, none⟩ = some (.map (some yb))) (hm : LineM cm w yb m S q) :
    Calls Tryz.prog 68 #[.agg (idC x).toArray, .agg ct.toArray, .pointer (some ⟨yc, 0, none⟩)] w fun e w' => e = .returned (.bool (!decide (x ∈ S))) ∧ Below w.heap.size w w' := by
  have h32x := h32_of (us := idC x) (by rw [idC_len, hx])
  obtain ⟨zc, hzc, _, hzce⟩ := cm_zero
  have HZC := Lib.hid (show zc.size = 34 by rw [hzce]; exact cmC_len _ _ _ zid_len)
  obtain ⟨W, hW⟩ : ∃ W, (w.alloc (.cells (idC x).toArray 24)).alloc (.cells ct.toArray 97) = W := ⟨_, rfl⟩
  have hbW : Below w.heap.size w W := by rw [← hW]; exact ((Below.refl _ _).alloc (Nat.le_refl _) _).alloc (by simp) _
  have hrx : W.rangeAt w.heap.size 0 (idC x) := by
    rw [← hW]; exact rangeAt_below (range_new w (idC x) 24 rfl) ((Below.refl _ _).alloc (Nat.le_refl _) _) (by simp)
  have c0 : W.cell? ⟨yc, 0, none⟩ = some (.map (some yb)) := below_load hc hbW (World.block_lt_of_cell? w _ hc)
  obtain ⟨cs, hcs1, hcs2, hcs3, _, _⟩ := (hm.on hbW).look (t := 110) Tryz.underlying110 hx (fun c hc => htree x c hc)
  have HLK := Lib.hid (hcs3 W (Below.refl _ _))
  obtain ⟨W3, hW3⟩ : ∃ W3, (W.alloc (.cells zc 97)).setCells W.heap.size 0 cs = W3 := ⟨_, rfl⟩
  have wr3 := wrote (by rw [hcs1, HZC.out]) (by rw [HZC.out]; omega) hW3
  have HB3 := Lib.hid (hbW.trans (wr3.bel.mono hbW.size))
  have HTH := Lib.hid (there_alloc W zc 97 HZC.out)
  have HCS1 := Lib.hid hcs1
  have HCS2 := Lib.hid hcs2
  have HRX := Lib.hid hrx
  have HW := Lib.hid hW
  have HW3 := Lib.hid hW3
  have h34 : (Tryz.prog.info? 97).map (·.size) = some 34 := by kernel_rfl
  obtain ⟨r, hr⟩ : ∃ r, decide (x ∈ S) = r := ⟨_, rfl⟩
  rw [hr] at HLK ⊢
  clear hx hc hm hbW hrx hcs1 hcs2 hcs3 hW hW3 wr3 hzce hr
  generalize idC x = ux at h32x HLK HRX HW
  go_enter Tryz.func68, Tryz.ntmps68
  go_upto_region 1 with fail
  rw [HW.out]
  go_wp2_with (first
    | (refine wpList_load_mid rfl 24 _ rfl w.heap.size 0 rfl ux _ HRX.out Tryz.underlying24 rfl h32x ?_)
    | (refine wpList_lookup_run rfl 110 _ _ true rfl _ _ rfl rfl _ HLK.out ?_)
    | (refine wpList_store_list rfl 97 _ _ rfl W.heap.size 0 cs rfl rfl 34 HCS1.out HTH.out h34 HCS2.out ?_; rw [HW3.out]))
  go_ret
  exact ⟨rfl, HB3.out⟩

theorem grown_side {a b c : World} {p q : Nat} (h1 : a.grownBy b (some p)) (h2 : b.grownBy c (some q)) (hq : a.heap.size ≤ q) : a.grownBy c (some p) :=
  ⟨h2.os.trans h1.os, h2.tape.trans h1.tape, h2.output.trans h1.output, Nat.le_trans h1.size h2.size, fun k hk hne => (h2.block k (Nat.lt_of_lt_of_le hk h1.size) (fun e => by have := Option.some.inj e; omega)).trans (h1.block k hk hne)⟩
/-- Between two rounds of the striking. -/
def DfSt (g : Idl → Option Value) (A B : List Idl) (w : World) (b n : Nat) (wr : World) : Prop :=
  ∃ G Lr f, RangeG vlV wr b w.heap.size n f Lr ∧ (G ++ Lr).Perm A ∧ (∀ q v, f q = some v → g q = some v) ∧ (∀ q, q.length = 32 → ((f q).isSome = true ↔ q ∈ A ∧ (q ∈ G → q ∈ B))) ∧ w.grownBy wr (some b)
def DfAns (cm : Idl → Option Cmt) (A B : List Idl) (b n : Nat) (w : World) (e : Ending) (w' : World) : Prop := e = .returned (.tuple #[]) ∧ w.grownBy w' (some b) ∧ LineM cm w' b n (A.filter fun x => decide (x ∈ B)) none
set_option maxRecDepth 100000 in
set_option maxHeartbeats 4000000 in
theorem hdelf_any (htree : ∀ x c, cm x = some c → c.tree.length = 32) (hpar : ∀ x c, cm x = some c → ∀ p ∈ c.pars, p.length = 32) (A B : List Idl) (hnA : A.Nodup) (h32A : ∀ x ∈ A, x.length = 32) (b n yc yb m : Nat) (w : World) (hA : LineM cm w b n A none) (hB : LineM cm w yb m B none) (hne : b ≠ yb) (hc : w.cell? ⟨yc, 0, none⟩ = some (.map (some yb))) :
    Calls Tryz.prog 67 #[.map (some b), .func (.func 68) #[] #[.pointer (some ⟨yc, 0, none⟩)]] w (DfAns cm A B b n w) := by
  obtain ⟨zi, i0, hi, hz0, hz1, hz2, hzi, hzil⟩ := id_zero
  obtain ⟨zc, hzc, _, hzce⟩ := cm_zero
  have HZI := Lib.hid hzil
  have HZC := Lib.hid (show zc.size = 34 by rw [hzce]; exact cmC_len _ _ _ zid_len)
  obtain ⟨g, hg, hdom, hval⟩ := hA
  have hycb : yc ≠ b := fun e => by
    have := hg.nocell 0
    rw [← e, hc] at this
    cases this
  have hBb : LineM cm w yb m B (some b) := hB.off hpar hg.noc
  have HYB := Lib.hid hycb
  have HG := Lib.hid hg
  have HVAL := Lib.hid hval
  have HBB := Lib.hid hBb
  have HNA := Lib.hid hnA
  have H32A := Lib.hid h32A
  have HDOM := Lib.hid hdom
  have HPAR := Lib.hid hpar
  have HCY := Lib.hid hc
  have hycl : yc < w.heap.size := World.block_lt_of_cell? w _ hc
  have hybl : yb < w.heap.size := hB.lt
  have HCL := Lib.hid (fun x (hx : x.length = 32) ct W (h1 : W.cell? ⟨yc, 0, none⟩ = some (.map (some yb))) (h2 : LineM cm W yb m B none) => hb1_any htree x hx ct yc yb m B none W h1 h2)
  have HTR := Lib.hid htree
  have hbl := hg.lt
  clear htree hpar hnA h32A hB hc hg hval hdom hBb hzce hzil
  go_enter Tryz.func67, Tryz.ntmps67
  go_wp2_with (refine wpList_range_G (enc := vlV) rfl _ 110 97 rfl Tryz.underlying110 b n g A rfl HG.out HNA.out H32A.out HDOM.out ?_)
  intro w1 hr1 hgr1 hs1
  have HR1 := Lib.hid hr1
  have HG1 := Lib.hid (grown_none hgr1 (some b))
  clear hr1 hgr1 hs1
  go_wp2
  go_loopw [8] (fun _ wr => DfSt g A B w b n wr) (fun _ wr => wr.rangeLeft b w.heap.size)
  case atStart => exact ⟨[], A, g, HR1.out, List.Perm.refl _, fun _ _ h => h, fun q hq => ⟨fun h => ⟨(HDOM.out q hq).1 h, fun h => by cases h⟩, fun h => (HDOM.out q hq).2 h.1⟩, HG1.out⟩
  case round =>
    obtain ⟨wo, rfl⟩ : ∃ wo : World, wo = wr := ⟨_, rfl⟩
    obtain ⟨G, Lr, f, hrg, hp, hfg, hf, hgw⟩ := hrel
    have HP := Lib.hid hp
    have HF := Lib.hid hf
    have HFG := Lib.hid hfg
    have HGW := Lib.hid hgw
    have hwo := hgw.size
    clear hp hf hgw hfg HR1 HG1
    go_wp2_with (refine wpList_next_G (enc := vlV) rfl _ rfl b w.heap.size n f Lr rfl hrg ?_ ?_)
    · intro hL0
      have hGA : ∀ x, x ∈ G ↔ x ∈ A := fun x => by
        have := HP.out.mem_iff (a := x)
        rw [hL0, List.append_nil] at this
        exact this
      have HEND : Hid (LineM cm wo b n (A.filter fun x => decide (x ∈ B)) none) := Lib.hid ⟨f, hrg.map, fun x hx => by
        rw [HF.out x hx, List.mem_filter, decide_eq_true_iff, hGA]
        exact ⟨fun h => ⟨h.1, h.2 h.1⟩, fun h => ⟨h.1, fun _ => h.2⟩⟩, fun x v hv => by
        obtain ⟨c, pv, k1, k2, k3, _⟩ := HVAL.out x v (HFG.out x v hv)
        exact ⟨c, pv, k1, k2, k3.grown HGW.out (k3.offc (HPAR.out x c k1) HG.out.noc), .inr fun _ _ e => by cases e⟩⟩
      clear hrg hL0 hGA
      go_wp2
      go_end0
      exact ⟨rfl, HGW.out, HEND.out⟩
    · intro x c w3 hxL hx hfx hrg2 hlt hg2 hs3 hen
      obtain ⟨cc, pv, hcmx, rfl, hrowp, _⟩ := HVAL.out x c (HFG.out x c hfx)
      obtain ⟨ap, capp, rfl, _⟩ := hrowp.flat0
      unfold vlV at hen ⊢
      have hcl : (cmC cc.tree (.slice ap cc.pars.length capp) cc.text).length = 34 := cmC_len _ _ _ (HTR.out x cc hcmx)
      have hco := cmC_one cc.tree ap cc.pars.length capp cc.text
      obtain ⟨ct, hct⟩ : ∃ ct, cmC cc.tree (.slice ap cc.pars.length capp) cc.text = ct := ⟨_, rfl⟩
      rw [hct] at hen hcl hco ⊢
      have hxc : (idC x).length = 32 := by rw [idC_len, hx]
      have h32x := h32_of hxc
      have h32 : (Tryz.prog.info? 24).map (·.size) = some 32 := by kernel_rfl
      have h34 : (Tryz.prog.info? 97).map (·.size) = some 34 := by kernel_rfl
      have h34c : (Tryz.prog.info? 97).map (·.size) = some ct.length := by rw [hcl]; kernel_rfl
      obtain ⟨W4, hW4⟩ : ∃ W4, ((w3.alloc (.cells zi 24)).alloc (.cells zc 97)).setCells w3.heap.size 0 (idC x) = W4 := ⟨_, rfl⟩
      have t1 := there_below (there_alloc w3 zi 24 HZI.out) ((Below.refl _ _).alloc (Nat.le_refl _) (.cells zc 97)) (by simp)
      have t2 := there_alloc (w3.alloc (.cells zi 24)) zc 97 HZC.out
      rw [World.size_alloc] at t2
      have b2 : Below w3.heap.size w3 ((w3.alloc (.cells zi 24)).alloc (.cells zc 97)) := ((Below.refl _ _).alloc (Nat.le_refl _) _).alloc (by simp) _
      have r4 := World.rangeAt_setCells_same ((w3.alloc (.cells zi 24)).alloc (.cells zc 97)) w3.heap.size 0 (idC x) (by rw [hxc]; exact t1)
      have b4 := below_setCells (B := w3.heap.size) (a := w3) w3.heap.size (Nat.le_refl _) (idC x) 0 _ b2
      have g4 := grown_setCells (idC x) 0 _ (World.grownBy.refl ((w3.alloc (.cells zi 24)).alloc (.cells zc 97)) (some w3.heap.size))
      have t4 := World.there_setCells t2 w3.heap.size 0 (idC x)
      rw [hW4] at r4 b4 g4 t4
      obtain ⟨W5, hW5⟩ : ∃ W5, W4.setCells (w3.heap.size + 1) 0 ct = W5 := ⟨_, rfl⟩
      have r5 := World.rangeAt_setCells_same W4 (w3.heap.size + 1) 0 ct (by rw [hcl]; exact t4)
      have r45 := World.rangeAt_setCells_apart r4 (w3.heap.size + 1) 0 ct (.inl (by omega))
      have b5 := below_setCells (B := w3.heap.size) (a := w3) (w3.heap.size + 1) (by omega) ct 0 _ b4
      have g5 := grown_setCells ct 0 W4 (World.grownBy.refl W4 (some (w3.heap.size + 1)))
      rw [hW5] at r5 r45 b5 g5
      have hs5 : w3.heap.size + 1 + 1 ≤ W5.heap.size := by
        have h1 := g4.size
        have h2 := g5.size
        simp at h1; omega
      have cy := b5.cell (p := ⟨yc, 0, none⟩) (show yc < w3.heap.size by omega)
      have cyo : wo.cell? ⟨yc, 0, none⟩ = some (.map (some yb)) := HGW.out.cell (a := ⟨yc, 0, none⟩) HCY.out (fun e => HYB.out (Option.some.inj e))
      have cy3 : w3.cell? ⟨yc, 0, none⟩ = some (.map (some yb)) := hg2.cell (a := ⟨yc, 0, none⟩) cyo (fun e => by have h1 : yc = w.heap.size := Option.some.inj e; omega)
      have hBo : LineM cm wo yb m B none := (HBB.out.grown HGW.out (fun e => hne (Option.some.inj e).symm) (.inl rfl)).none
      have hB3 : LineM cm w3 yb m B none := hBo.turned HPAR.out hrg.noc hg2 (by omega)
      have HC5 := Lib.hid (HCL.out x hx ct W5 (cy.trans cy3) (hB3.on b5))
      have HRG5 := Lib.hid (hrg2.on b5)
      have HLT5 := Lib.hid (show W5.rangeLeft b w.heap.size < wo.rangeLeft b w.heap.size by rw [rangeLeft_heap (b5.block b hrg2.map.lt) (b5.block _ hrg2.lt)]; exact hlt)
      have HGW5 : Hid (w.grownBy W5 (some b)) := Lib.hid (grown_below' (grown_side HGW.out hg2 (Nat.le_refl _)) b5)
      have hxG : x ∉ G := fun h => by
        have hnd := HP.out.nodup_iff.2 HNA.out
        rw [List.nodup_append] at hnd
        exact hnd.2.2 x h x hxL rfl
      have HPE : Hid (((G ++ [x]) ++ Lr.erase x).Perm A) := Lib.hid (by
        rw [List.append_assoc]
        exact ((List.perm_cons_erase hxL).symm.append_left G).trans HP.out)
      have hxA : x ∈ A := HP.out.mem_iff.1 (List.mem_append_right _ hxL)
      have HNE : Hid (x ∉ Lr.erase x) := Lib.hid (fun h => (hrg.nodup.mem_erase_iff.1 h).1 rfl)
      have HXA := Lib.hid hxA
      have HXG := Lib.hid hxG
      have HX := Lib.hid hx
      have HT1 := Lib.hid t1
      have HT4 := Lib.hid t4
      have HR45 := Lib.hid r45
      have HR5 := Lib.hid r5
      have HXC := Lib.hid hxc
      have HXO := Lib.hid (idC_one x)
      have HCLN := Lib.hid hcl
      have HCO := Lib.hid hco
      have HW4 := Lib.hid hW4
      have HW5 := Lib.hid hW5
      have hrl := hrg2.lt
      clear hrg hrg2 hlt hg2 hs3 hfx hcmx hrowp hct hxc hcl hco t1 t2 t4 b2 b4 g4 r4 r5 r45 b5 g5 cy cyo cy3 hBo hB3 hxA hxG hW4 hW5 hxL hx
      generalize hix : idC x = ux at hen h32x HT1 HT4 HR45 HXC HXO HW4 HC5 ⊢
      have HIX := Lib.hid hix
      clear hix
      go_wp2_with (first
        | (refine wpList_store_list rfl 24 _ _ rfl w3.heap.size 0 ux rfl rfl 32 HXC.out HT1.out h32 HXO.out ?_; rw [HW4.out])
        | (refine wpList_store_list rfl 97 _ _ rfl (w3.heap.size + 1) 0 ct rfl rfl 34 HCLN.out HT4.out h34 HCO.out ?_; rw [HW5.out])
        | (refine wpList_load_mid rfl 24 _ rfl w3.heap.size 0 rfl ux _ HR45.out Tryz.underlying24 rfl h32x ?_)
        | (refine wpList_load_mid rfl 97 _ rfl (w3.heap.size + 1) 0 rfl ct _ HR5.out Tryz.underlying97 rfl h34c ?_))
      refine HC5.out.mono ?_
      rintro e w6 ⟨rfl, hb6⟩
      have HRG6 := Lib.hid (HRG5.out.on hb6)
      have HLT6 : Hid (w6.rangeLeft b w.heap.size < wo.rangeLeft b w.heap.size) := Lib.hid (by rw [rangeLeft_heap (hb6.block b HRG5.out.map.lt) (hb6.block _ HRG5.out.lt)]; exact HLT5.out)
      have HGW6 := Lib.hid (grown_below' HGW5.out hb6)
      have HR6 := Lib.hid (rangeAt_below HR45.out hb6 (by omega))
      clear hb6 HC5 HRG5 HLT5 HGW5 HR45 HR5 HW4 HW5 HT1 HT4
      by_cases hxB : x ∈ B
      · rw [decide_eq_true hxB]
        have HEND : Hid (DfSt g A B w b n w6) := Lib.hid ⟨G ++ [x], Lr.erase x, f, HRG6.out, HPE.out, HFG.out, fun q hq => by
          rw [HF.out q hq, List.mem_append, List.mem_singleton]
          exact ⟨fun h => ⟨h.1, fun h2 => h2.elim h.2 (fun e => by rw [e]; exact hxB)⟩, fun h => ⟨h.1, fun h2 => h.2 (.inl h2)⟩⟩, HGW6.out⟩
        clear hxB
        go_wp2
        go_roundw
        case rel => exact HEND.out
        case measure => exact HLT6.out
      · rw [decide_eq_false hxB]
        have HXB := Lib.hid hxB
        clear hxB
        go_wp2_with (first
          | (refine wpList_load_mid rfl 24 _ rfl w3.heap.size 0 rfl ux _ HR6.out Tryz.underlying24 rfl h32x ?_)
          | (refine wpList_delete_R (enc := vlV) rfl (.tmp 17) (.tmp 18) 110 97 rfl Tryz.underlying110 b w.heap.size n f (Lr.erase x) rfl HRG6.out x HX.out (by rw [HIX.out]; rfl) HNE.out ?_))
        intro w7 hrg7 hle7 hg7
        have HEND : Hid (DfSt g A B w b n w7) := Lib.hid ⟨G ++ [x], Lr.erase x, _, hrg7, HPE.out, fun q v hv => by
          have hv' : (if q = x then none else f q) = some v := hv
          split at hv'
          · cases hv'
          · exact HFG.out q v hv', fun q hq => by
          show (if q = x then none else f q).isSome = true ↔ _
          rw [List.mem_append, List.mem_singleton]
          by_cases e : q = x
          · rw [if_pos e]
            exact ⟨fun h => (by cases h), fun h => absurd (h.2 (.inr e)) (by rw [e]; exact HXB.out)⟩
          · rw [if_neg e, HF.out q hq]
            exact ⟨fun h => ⟨h.1, fun h2 => h2.elim h.2 (fun h3 => absurd h3 e)⟩, fun h => ⟨h.1, fun h2 => h.2 (.inl h2)⟩⟩, grownBy_trans' HGW6.out hg7⟩
        have HLT7 : Hid (w7.rangeLeft b w.heap.size < wo.rangeLeft b w.heap.size) := Lib.hid (Nat.lt_of_le_of_lt hle7 HLT6.out)
        clear hrg7 hle7 hg7
        go_wp2
        go_roundw
        case rel => exact HEND.out
        case measure => exact HLT7.out
end Go.Proofs.YtbmiiiccnoiffaaGreatDoor
namespace Go.Proofs.YtbmiiiccnoiffaaGreatDoor
open Go.RowKit
variable {cm : Idl → Option Cmt}
def bothL (X Y : List Idl) : List Idl := X.filter fun z => Y.contains z
noncomputable def outL (cm : Idl → Option Cmt) (D E : List Idl) : List Idl := E.filter fun z => D.all fun y => !olderL cm z y
theorem bothL_next {X Y : List Idl} {k : Nat} (hk : k < X.length) : bothL (X.take (k + 1)) Y = bothL (X.take k) Y ++ if Y.contains X[k] then [X[k]] else [] := by
  unfold bothL
  rw [List.take_succ_eq_append_getElem hk, List.filter_append]
  congr 1
  simp [List.filter_cons]
theorem outL_next {D E : List Idl} {k : Nat} (hk : k < E.length) : outL cm D (E.take (k + 1)) = outL cm D (E.take k) ++ if (D.all fun y => !olderL cm E[k] y) then [E[k]] else [] := by
  unfold outL
  rw [List.take_succ_eq_append_getElem hk, List.filter_append]
  congr 1
  simp [List.filter_cons]
theorem all_next {D : List Idl} {x : Idl} {k : Nat} (hk : k < D.length) : ((D.take (k + 1)).all fun y => !olderL cm x y) = (((D.take k).all fun y => !olderL cm x y) && !olderL cm x D[k]) := by
  rw [List.take_succ_eq_append_getElem hk, List.all_append]
  simp
open Classical in
theorem outL_bases {a b : Idl} {X Y : List Idl} (hX : lineL cm a = some X) (_hY : lineL cm b = some Y) : outL cm (bothL X Y) (bothL X Y) = basesL cm X Y := by
  unfold outL basesL bothL
  rw [List.filter_filter]
  refine List.filter_congr fun o ho => ?_
  rw [Bool.eq_iff_iff, decide_eq_true_iff, Bool.and_eq_true, List.all_eq_true]
  constructor
  · rintro ⟨h1, h2⟩
    refine ⟨by simpa using h2, fun y hy1 hy2 ho => ?_⟩
    have h := h1 y (List.mem_filter.2 ⟨hy1, by simpa using hy2⟩)
    obtain ⟨T, hT⟩ := lineL_sub hX hy1
    rw [(olderL_iff hT).2 ho] at h
    cases h
  · rintro ⟨h1, h2⟩
    refine ⟨fun y hy => ?_, by simpa using h1⟩
    obtain ⟨hy1, hy2⟩ := List.mem_filter.1 hy
    have hn := h2 y hy1 (by simpa using hy2)
    obtain ⟨T, hT⟩ := lineL_sub hX hy1
    cases e : olderL cm o y with
    | false => rfl
    | true => exact absurd ((olderL_iff hT).1 e) hn
def DbAns (D : List Idl) (w : World) (e : Ending) (w' : World) : Prop := ∃ v, e = .returned v ∧ IdRow w' v D ∧ Below w.heap.size w w'
def DbSt (X Y : List Idl) (W : World) (o i : Value) (wr : World) : Prop :=
  ∃ k : Nat, i = .int .i64 (k : Int) ∧ k ≤ X.length ∧ OwnQ wr W.heap.size 32 o (bothL (X.take k) Y).length (idsF (bothL (X.take k) Y)) ∧ Below W.heap.size W wr
def DbIn (cm : Idl → Option Cmt) (D : List Idl) (W : World) (o i : Value) (wr : World) : Prop :=
  ∃ k : Nat, i = .int .i64 (k : Int) ∧ k ≤ D.length ∧ OwnQ wr W.heap.size 32 o (outL cm D (D.take k)).length (idsF (outL cm D (D.take k))) ∧ Below W.heap.size W wr
set_option maxRecDepth 100000 in
set_option maxHeartbeats 4000000 in
theorem rbases_any (vl vi : Value) (l : List Ob) (U : List Idl) (hU : CmOk (cmG (getS l)) U) (v1 v2 : Value) (X Y : List Idl) (w : World) (hs : SrcRow w (.agg #[vl, vi]) l) (h1 : IdRow w v1 X) (h2 : IdRow w v2 Y) (hX : ∀ y ∈ X, y.length = 32) (hY : ∀ y ∈ Y, y.length = 32) (hlen : X.length ≤ 1000) :
    Calls Tryz.prog 32 #[.agg #[vl, vi], v1, v2] w (DbAns (outL (cmG (getS l)) (bothL X Y) (bothL X Y)) w) := by
  obtain ⟨zi, i0, hi, hz0, hz1, hz2, hzi, hzil⟩ := id_zero
  have HZI := Lib.hid hzil
  obtain ⟨W, hW⟩ : ∃ W, w.alloc (.cells #[vl, vi] 30) = W := ⟨_, rfl⟩
  have hbW : Below w.heap.size w W := by rw [← hW]; exact (Below.refl _ _).alloc (Nat.le_refl _) _
  have hA := Arr.ofList w [vl, vi] 30
  have c0 : W.cell? ⟨w.heap.size, 0, none⟩ = some vl := by rw [← hW]; exact hA.cell 0 (by simp)
  have c1 : W.cell? ⟨w.heap.size, 1, none⟩ = some vi := by rw [← hW]; exact hA.cell 1 (by simp)
  have hsW : W.heap.size = w.heap.size + 1 := by rw [← hW]; simp
  obtain ⟨ao, cap, rfl, hmax, hcells⟩ := h1.open
  obtain ⟨ao2, cap2, rfl, _⟩ := h2.flat0
  unfold maxLen at hmax
  have HOLD := Lib.hid (fun x (hx : x.length = 32) y (hy : y.length = 32) W' (h : Below W.heap.size W W') => rolder_any vl vi l U hU x y W' ((hs.below hbW).below h) hx hy)
  have HINY := Lib.hid (fun W' (h : Below W.heap.size W W') y (hy : y.length = 32) => rin_any (.slice ao2 Y.length cap2) Y y W' ((h2.below hbW).below h) hY hy)
  have HV : Hid (X ≠ [] → ∃ b off, ao = some ⟨b, off, none⟩ ∧ b < W.heap.size ∧ ∀ k (hk : k < X.length), W.rangeAt b (off + k * 32) (idC X[k])) := Lib.hid (fun hne => by
    obtain ⟨b, off, e, hb, hc⟩ := hcells hne
    exact ⟨b, off, e, Nat.lt_of_lt_of_le hb hbW.size, fun k hk => rangeAt_below (hc k hk) hbW hb⟩)
  have HBW := Lib.hid hbW
  have HC01 := Lib.hid (And.intro c0 c1)
  have HSW := Lib.hid hsW
  have HW := Lib.hid hW
  have HX := Lib.hid hX
  have HD32 : Hid (∀ y ∈ bothL X Y, y.length = 32) := Lib.hid (fun y hy => hX y (List.mem_filter.1 hy).1)
  have HDL : Hid ((bothL X Y).length ≤ 1000) := Lib.hid (Nat.le_trans (List.length_filter_le _ _) hlen)
  have HKL : Hid (∀ k, (bothL (X.take k) Y).length ≤ 1000) := Lib.hid (fun k => Nat.le_trans (List.length_filter_le _ _) (by rw [List.length_take]; omega))
  clear hs hU hbW hsW hW hA c0 c1 h1 h2 hX hY hcells hzil
  generalize hcm : cmG (getS l) = cm at HOLD ⊢
  clear hcm
  go_enter Tryz.func32, Tryz.ntmps32
  go_wp2
  rw [HW.out]
  go_loopw [7, 9] (fun o i wr => DbSt X Y W o i wr) (fun _ i _ => (X.length - intOf i).toNat)
  case atStart => exact ⟨0, rfl, by omega, ownQ_nil _ _ _, Below.refl _ _⟩
  case round =>
    obtain ⟨wo, rfl⟩ : ∃ wo : World, wo = wr := ⟨_, rfl⟩
    obtain ⟨k, rfl, hk, ho, hb⟩ := hrel
    have HO := Lib.hid ho
    have HB := Lib.hid hb
    have hsz : W.heap.size ≤ wo.heap.size := hb.size
    clear ho hb
    by_cases hkl : k < X.length
    · have d1 : decide ((k : Int) < X.length) = true := decide_eq_true (by omega)
      obtain ⟨b, off, rfl, hbl, hcell⟩ := HV.out (by intro e; rw [e] at hkl; simp at hkl)
      have f1 := rangeAt_below (hcell k hkl) HB.out hbl
      obtain ⟨y, hy⟩ : ∃ y, X[k] = y := ⟨_, rfl⟩
      have HNX := Lib.hid (bothL_next (Y := Y) hkl)
      rw [hy] at f1 HNX
      have hyl : y.length = 32 := by rw [← hy]; exact HX.out _ (List.getElem_mem hkl)
      have hyc : (idC y).length = 32 := by rw [idC_len, hyl]
      have h32y := h32_of hyc
      have HIN := Lib.hid (HINY.out wo HB.out y hyl)
      have HYC := Lib.hid hyc
      have HYO := Lib.hid (idC_one y)
      have HF1 := Lib.hid f1
      have HSZ : Hid (∀ w, (sizeOf 24).run Tryz.prog w = .ok (idC y).length w) := Lib.hid (fun w => by rw [hyc]; kernel_rfl)
      have k0 : (0 : Int) ≤ k := by omega
      have k1 : (k : Int) < X.length := by omega
      obtain ⟨F, hF⟩ : ∃ F, bothL (X.take k) Y = F := ⟨_, rfl⟩
      have hFl : F.length ≤ 1000 := by rw [← hF]; exact HKL.out k
      rw [hF] at HNX HO
      have HTS : Hid (idsF (F ++ [y]) = idsF F ++ idC y) := Lib.hid (idsF_snoc _ _)
      clear hcell hy f1 hyl hyc hF
      generalize hiy : idC y = uy at h32y HIN HYC HYO HSZ HTS HF1
      clear hiy
      go_wp2_with (refine wpList_load_mid rfl 24 _ rfl b (off + k * 32) rfl uy _ HF1.out Tryz.underlying24 rfl h32y ?_)
      refine HIN.out.mono ?_
      rintro e w2 ⟨rfl, hb2⟩
      have HB2 := Lib.hid (HB.out.trans (hb2.mono hsz))
      have HF2 := Lib.hid (rangeAt_below HF1.out hb2 (by omega))
      have HO2 := Lib.hid (HO.out.below hb2)
      have hs2 : W.heap.size ≤ w2.heap.size := by have := hb2.size; omega
      clear hb2 HIN
      generalize Y.contains y = r at HNX ⊢
      cases r with
      | true =>
        have hb3 : Below w2.heap.size w2 (w2.alloc (.cells uy.toArray 24)) := (Below.refl _ _).alloc (Nat.le_refl _) _
        have HO3 := Lib.hid (HO2.out.below hb3)
        have HNEW : Hid (∀ j u, uy[j]? = some u → (w2.alloc (.cells uy.toArray 24)).cell? ((⟨w2.heap.size, 0, none⟩ : Addr).add j) = some u) := Lib.hid (fun j u hj => cells_newL _ uy _ j u hj)
        have HB3 := Lib.hid (HB2.out.trans (hb3.mono hs2))
        have hs3 : W.heap.size ≤ (w2.alloc (.cells uy.toArray 24)).heap.size := by rw [World.size_alloc]; omega
        clear hb3
        go_wp2_with (first
          | (refine wpList_load_mid rfl 24 _ rfl b (off + k * 32) rfl uy _ HF2.out Tryz.underlying24 rfl h32y ?_)
          | (refine wpList_buildSlice_one rfl (.tmp 29) 28 24 rfl uy zi rfl Tryz.underlying28 HSZ.out hzi (by rw [HYC.out]; omega) (by rw [HYC.out]; omega) ?_)
          | (refine wpList_append_q rfl (.tmp 25) (.tmp 30) 28 rfl W.heap.size 24 i0 (.agg zi) 32 32 Tryz.underlying28 hi hz0 hz1 hz2 HZI.out (by decide) _ F.length (idsF F) rfl HO3.out (some ⟨w2.heap.size, 0, none⟩) 1 1 uy rfl (by rw [HYC.out]) (fun _ => ⟨_, rfl, HNEW.out⟩) HYO.out (by unfold maxLen; omega) (by omega) hs3 ?_))
        intro o9 w9 hq9 hg9 _
        have HEND : Hid (DbSt X Y W o9 (.int .i64 ((k : Int) + 1)) w9) := Lib.hid ⟨k + 1, by rw [Int.natCast_add]; rfl, by omega, by rw [show bothL (X.take (k + 1)) Y = F ++ [y] from by rw [HNX.out]; rfl, HTS.out, List.length_append, List.length_singleton]; exact hq9, HB3.out.grown hg9 HB3.out.size (fun j hj => (HO3.out.lt j hj).1)⟩
        clear hq9 hg9
        go_wp2
        go_roundw
        case rel => exact HEND.out
        case measure => simp [intOf]; omega
      | false =>
        have HEND : Hid (DbSt X Y W u7 (.int .i64 ((k : Int) + 1)) w2) := Lib.hid ⟨k + 1, by rw [Int.natCast_add]; rfl, by omega, by rw [show bothL (X.take (k + 1)) Y = F from by rw [HNX.out]; exact List.append_nil F]; exact HO2.out, HB2.out⟩
        go_wp2
        go_roundw
        case rel => exact HEND.out
        case measure => simp [intOf]; omega
    · have hke : k = X.length := by omega
      have d1 : decide ((k : Int) < X.length) = false := decide_eq_false (by omega)
      rw [hke, List.take_length] at HO
      have HDR := Lib.hid (HO.out.row HD32.out)
      obtain ⟨D, hD⟩ : ∃ D, bothL X Y = D := ⟨_, rfl⟩
      have HDE := Lib.hid hD
      rw [hD] at HDR HD32 HDL ⊢
      obtain ⟨ad, dcap, rfl, hdm, hdc⟩ := HDR.out.open
      have HDC := Lib.hid hdc
      have hDl := HDL.out
      clear HV HINY HX HO HKL hdc hD hke
      have HBO := Lib.hid (HBW.out.trans (HB.out.mono HBW.out.size))
      have e0 : wo.cell? ⟨w.heap.size, 0, none⟩ = some vl := below_load HC01.out.1 HB.out (by have := HSW.out; omega)
      have e1 : wo.cell? ⟨w.heap.size, 1, none⟩ = some vi := below_load HC01.out.2 HB.out (by have := HSW.out; omega)
      have hwo : w.heap.size < wo.heap.size := by have := HSW.out; omega
      have HE01 := Lib.hid (And.intro e0 e1)
      have HOLD2 := Lib.hid (fun x (hx : x.length = 32) y (hy : y.length = 32) W' (h : Below wo.heap.size wo W') => HOLD.out x hx y hy W' (HB.out.trans (h.mono hsz)))
      clear e0 e1 HB HOLD HC01 HBW
      go_wp2
      go_loopw [8, 10] (fun o i wr => DbIn cm D wo o i wr) (fun _ i _ => (D.length - intOf i).toNat)
      case atStart => exact ⟨0, rfl, by omega, ownQ_nil _ _ _, Below.refl _ _⟩
      case round =>
        obtain ⟨wi, rfl⟩ : ∃ wi : World, wi = wr := ⟨_, rfl⟩
        obtain ⟨m, rfl, hm, ho, hb⟩ := hrel
        have HOI := Lib.hid ho
        have HBI := Lib.hid hb
        have hsi : wo.heap.size ≤ wi.heap.size := hb.size
        clear ho hb
        by_cases hml : m < D.length
        · have d2 : decide ((m : Int) < D.length) = true := decide_eq_true (by omega)
          obtain ⟨b, off, rfl, hbl, hcell⟩ := HDC.out (by intro e; rw [e] at hml; simp at hml)
          have fm := hcell m hml
          have HCL := Lib.hid hcell
          obtain ⟨x, hx⟩ : ∃ x, D[m] = x := ⟨_, rfl⟩
          have HNX := Lib.hid (outL_next (cm := cm) (D := D) hml)
          rw [hx] at fm HNX
          have hxl : x.length = 32 := by rw [← hx]; exact HD32.out _ (List.getElem_mem hml)
          have hxc : (idC x).length = 32 := by rw [idC_len, hxl]
          have h32x := h32_of hxc
          have HXC := Lib.hid hxc
          have HXO := Lib.hid (idC_one x)
          have HFM := Lib.hid fm
          have HSZ : Hid (∀ w, (sizeOf 24).run Tryz.prog w = .ok (idC x).length w) := Lib.hid (fun w => by rw [hxc]; kernel_rfl)
          have k0 : (0 : Int) ≤ m := by omega
          have k1 : (m : Int) < D.length := by omega
          obtain ⟨F, hF⟩ : ∃ F, outL cm D (D.take m) = F := ⟨_, rfl⟩
          have hFl : F.length ≤ 1000 := by rw [← hF]; exact Nat.le_trans (List.length_filter_le _ _) (by rw [List.length_take]; omega)
          rw [hF] at HNX HOI
          have HTS : Hid (idsF (F ++ [x]) = idsF F ++ idC x) := Lib.hid (idsF_snoc _ _)
          have HXL := Lib.hid hxl
          clear hcell hx fm hxl hxc hF
          go_wp2
          go_loopw [11, 12] (fun bv i wr => ∃ j : Nat, i = .int .i64 (j : Int) ∧ j ≤ D.length ∧ bv = .bool ((D.take j).all fun y => !olderL cm x y) ∧ Below wi.heap.size wi wr) (fun _ i _ => (D.length - intOf i).toNat)
          case atStart => exact ⟨0, rfl, by omega, rfl, Below.refl _ _⟩
          case round =>
            obtain ⟨wj, rfl⟩ : ∃ wj : World, wj = wr := ⟨_, rfl⟩
            obtain ⟨j, rfl, hj, rfl, hb⟩ := hrel
            have HBJ := Lib.hid hb
            have hsj : wi.heap.size ≤ wj.heap.size := hb.size
            have hbo : Below wo.heap.size wo wj := HBI.out.trans (hb.mono hsi)
            clear hb
            by_cases hjl : j < D.length
            · have d3 : decide ((j : Int) < D.length) = true := decide_eq_true (by omega)
              obtain ⟨y, hy⟩ : ∃ y, D[j] = y := ⟨_, rfl⟩
              have HAN := Lib.hid (all_next (cm := cm) (x := x) hjl)
              have fy := rangeAt_below (HCL.out j hjl) hbo hbl
              rw [hy] at fy HAN
              have fx := rangeAt_below HFM.out hbo hbl
              have hyl : y.length = 32 := by rw [← hy]; exact HD32.out _ (List.getElem_mem hjl)
              have h32y := h32_of (us := idC y) (by rw [idC_len, hyl])
              have g0 := below_load HE01.out.1 hbo hwo
              have g1 := below_load HE01.out.2 hbo hwo
              have HOL := Lib.hid (fun (X : BW wj.heap.size wj) => HOLD2.out x HXL.out y hyl X.out (hbo.trans (X.hb.mono hbo.size)))
              have q0 : (0 : Int) ≤ j := by omega
              have q1 : (j : Int) < D.length := by omega
              have hwj : w.heap.size < wj.heap.size := by omega
              have hbj : b < wj.heap.size := by omega
              clear hy hyl hbo
              generalize ((D.take j).all fun y => !olderL cm x y) = r at HAN ⊢
              generalize olderL cm x y = ol at HAN HOL
              generalize idC x = ux at h32x HXC HXO HFM HSZ HTS fx HOL
              generalize idC y = uy at h32y fy HOL
              cases r with
              | false =>
                have HEND : Hid (∀ W', Below wj.heap.size wj W' → ∃ j' : Nat, (Value.int .i64 ((j : Int) + 1)) = .int .i64 (j' : Int) ∧ j' ≤ D.length ∧ Value.bool false = .bool ((D.take j').all fun y => !olderL cm x y) ∧ Below wi.heap.size wi W') := Lib.hid (fun W' h => ⟨j + 1, by rw [Int.natCast_add]; rfl, by omega, by rw [HAN.out]; rfl, HBJ.out.trans (h.mono hsj)⟩)
                clear h32y fy fx HOL
                go_wp2
                refine wp_region_bq (by kernel_rfl) (by kernel_rfl) ?_
                have LQ0 := fun x : BW (World.heap wj).size wj => below_load g0 x.hb (by omega)
                have LQ1 := fun x : BW (World.heap wj).size wj => below_load g1 x.hb (by omega)
                repeat (go_big_quiet_step (fail))
                refine wpQuiet_nil ?_
                intro wq hbq
                clear LQ0 LQ1
                have hend := HEND.out wq hbq
                clear hbq g0 g1
                go_wp2
                go_roundw
                case rel => exact hend
                case measure => simp [intOf]; omega
              | true =>
                have HEND : Hid (∀ W', Below wj.heap.size wj W' → ∃ j' : Nat, (Value.int .i64 ((j : Int) + 1)) = .int .i64 (j' : Int) ∧ j' ≤ D.length ∧ Value.bool (!ol) = .bool ((D.take j').all fun y => !olderL cm x y) ∧ Below wi.heap.size wi W') := Lib.hid (fun W' h => ⟨j + 1, by rw [Int.natCast_add]; rfl, by omega, by rw [HAN.out]; rfl, HBJ.out.trans (h.mono hsj)⟩)
                go_wp2
                refine wp_region_bq (by kernel_rfl) (by kernel_rfl) ?_
                have LQ0 := fun x : BW (World.heap wj).size wj => below_load g0 x.hb (by omega)
                have LQ1 := fun x : BW (World.heap wj).size wj => below_load g1 x.hb (by omega)
                repeat (go_big_quiet_step ((go_at_call 31; with_reducible exact calls_bw (HOL.out _))))
                refine bq_row 24 _ _ rfl rfl rfl fx (by omega) Tryz.underlying24 rfl h32x ?_
                simp only [Act.put, List.setIfInBounds_toArray, List.set_cons_zero, List.set_cons_succ]
                repeat (go_big_quiet_step ((go_at_call 31; with_reducible exact calls_bw (HOL.out _))))
                refine bq_row 24 _ _ rfl rfl rfl fy (by omega) Tryz.underlying24 rfl h32y ?_
                simp only [Act.put, List.setIfInBounds_toArray, List.set_cons_zero, List.set_cons_succ]
                repeat (go_big_quiet_step ((go_at_call 31; with_reducible exact calls_bw (HOL.out _))))
                refine wpQuiet_nil ?_
                intro wq hbq
                clear LQ0 LQ1
                have hend := HEND.out wq hbq
                clear hbq g0 g1 fx fy HOL
                go_wp2
                go_roundw
                case rel => exact hend
                case measure => simp [intOf]; omega
            · have hje : j = D.length := by omega
              have d3 : decide ((j : Int) < D.length) = false := decide_eq_false (by omega)
              rw [hje, List.take_length]
              have HOJ := Lib.hid (HOI.out.below HBJ.out)
              have HBJ2 := Lib.hid hbo
              have HFJ := Lib.hid (rangeAt_below HFM.out hbo hbl)
              clear hbo hje
              generalize (D.all fun y => !olderL cm x y) = r at HNX ⊢
              cases r with
              | true =>
                have hb3 : Below wj.heap.size wj (wj.alloc (.cells (idC x).toArray 24)) := (Below.refl _ _).alloc (Nat.le_refl _) _
                have HO3 := Lib.hid (HOJ.out.below hb3)
                have HNEW : Hid (∀ j u, (idC x)[j]? = some u → (wj.alloc (.cells (idC x).toArray 24)).cell? ((⟨wj.heap.size, 0, none⟩ : Addr).add j) = some u) := Lib.hid (fun j u hj => cells_newL _ (idC x) _ j u hj)
                have HB3 := Lib.hid (HBJ2.out.trans (hb3.mono HBJ2.out.size))
                have hs3 : wo.heap.size ≤ (wj.alloc (.cells (idC x).toArray 24)).heap.size := by rw [World.size_alloc]; omega
                clear hb3
                go_wp2_with (first
                  | (refine wpList_load_mid rfl 24 _ rfl b (off + m * 32) rfl (idC x) _ HFJ.out Tryz.underlying24 rfl h32x ?_)
                  | (refine wpList_buildSlice_one rfl (.tmp 63) 28 24 rfl (idC x) zi rfl Tryz.underlying28 HSZ.out hzi (by rw [HXC.out]; omega) (by rw [HXC.out]; omega) ?_)
                  | (refine wpList_append_q rfl (.tmp 59) (.tmp 64) 28 rfl wo.heap.size 24 i0 (.agg zi) 32 32 Tryz.underlying28 hi hz0 hz1 hz2 HZI.out (by decide) _ F.length (idsF F) rfl HO3.out (some ⟨wj.heap.size, 0, none⟩) 1 1 (idC x) rfl (by rw [HXC.out]) (fun _ => ⟨_, rfl, HNEW.out⟩) HXO.out (by unfold maxLen; omega) (by omega) hs3 ?_))
                intro o9 w9 hq9 hg9 _
                have HEND : Hid (DbIn cm D wo o9 (.int .i64 ((m : Int) + 1)) w9) := Lib.hid ⟨m + 1, by rw [Int.natCast_add]; rfl, by omega, by rw [show outL cm D (D.take (m + 1)) = F ++ [x] from by rw [HNX.out]; rfl, HTS.out, List.length_append, List.length_singleton]; exact hq9, HB3.out.grown hg9 HB3.out.size (fun j hj => (HO3.out.lt j hj).1)⟩
                clear hq9 hg9
                go_wp2
                go_roundw
                case rel => exact HEND.out
                case measure => simp [intOf]; omega
              | false =>
                have HEND : Hid (DbIn cm D wo u8 (.int .i64 ((m : Int) + 1)) wj) := Lib.hid ⟨m + 1, by rw [Int.natCast_add]; rfl, by omega, by rw [show outL cm D (D.take (m + 1)) = F from by rw [HNX.out]; exact List.append_nil F]; exact HOJ.out, HBJ2.out⟩
                go_wp2
                go_roundw
                case rel => exact HEND.out
                case measure => simp [intOf]; omega
        · have hme : m = D.length := by omega
          have d2 : decide ((m : Int) < D.length) = false := decide_eq_false (by omega)
          rw [hme, List.take_length] at HOI
          have HEND : Hid (DbAns (outL cm (bothL X Y) (bothL X Y)) w (.returned u8) wi) := Lib.hid (by rw [HDE.out]; exact ⟨u8, rfl, HOI.out.row (fun y hy => HD32.out y (List.mem_filter.1 hy).1), HBO.out.trans (HBI.out.mono HBO.out.size)⟩)
          clear HOI
          go_wp2
          go_ret
          exact HEND.out
end Go.Proofs.YtbmiiiccnoiffaaGreatDoor
