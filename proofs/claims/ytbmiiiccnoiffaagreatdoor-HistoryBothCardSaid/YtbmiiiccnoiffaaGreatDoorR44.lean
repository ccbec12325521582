/- YtbmiiiccnoiffaaGreatDoorR44: texts BB of this claim, in one. -/
import Derived.Test.YtbmiiiccnoiffaaGreatDoorR17
import Derived.Test.YtbmiiiccnoiffaaGreatDoorR42
import Derived.Test.YtbmiiiccnoiffaaGreatDoorShelf4
namespace Go.Proofs.YtbmiiiccnoiffaaGreatDoor
open Go.RowKit Go.Maps Go.Shelf
variable {cm : Idl → Option Cmt}
/-- 'maps.Clone' of a line. -/
theorem hclone_any (b n : Nat) (S : List Idl) (w : World) (h : LineM cm w b n S none) :
    Calls Tryz.prog 69 #[.map (some b)] w fun e w' => e = .returned (.map (some w.heap.size)) ∧ LineM cm w' w.heap.size n S none ∧ LineM cm w' b n S none ∧ Below w.heap.size w w' := by
  obtain ⟨g, ⟨D, hown, hs⟩, hdom, hval⟩ := h
  refine (AnyW.maps_Clone_owns Tryz.cloneM 24 heldR b n D w hown).mono ?_
  rintro e w' ⟨he, h1, h2, hb⟩
  exact ⟨he, ⟨g, ⟨D, h1, hs⟩, hdom, fun x v hx => by
    obtain ⟨c, pv, k1, k2, k3, _⟩ := hval x v hx
    exact ⟨c, pv, k1, k2, k3.below hb, .inr fun _ _ e => by cases e⟩⟩, ⟨g, ⟨D, h2, hs⟩, hdom, fun x v hx => by
    obtain ⟨c, pv, k1, k2, k3, _⟩ := hval x v hx
    exact ⟨c, pv, k1, k2, k3.below hb, .inr fun _ _ e => by cases e⟩⟩, hb⟩
/-- What is left of the bases. -/
structure Kept (cm : Idl → Option Cmt) (M Sk : List Idl) (K : Idl → Prop) : Prop where
  nodup : Sk.Nodup
  sub : ∀ o ∈ Sk, o ∈ M
  iff : ∀ o ∈ M, (o ∈ Sk ↔ K o)
theorem Kept.congr {M Sk : List Idl} {K K' : Idl → Prop} (h : Kept cm M Sk K) (hk : ∀ o ∈ M, (K o ↔ K' o)) : Kept cm M Sk K' := ⟨h.nodup, h.sub, fun o ho => (h.iff o ho).trans (hk o ho)⟩
theorem Kept.strike {M Sk : List Idl} {K : Idl → Prop} (h : Kept cm M Sk K) (p : Idl) : Kept cm M (Sk.filter fun q => decide (q ≠ p)) fun o => K o ∧ o ≠ p :=
  ⟨List.Pairwise.filter _ h.nodup, fun o ho => h.sub o (List.mem_filter.1 ho).1, fun o ho => by rw [List.mem_filter, decide_eq_true_iff, h.iff o ho]⟩
def KO (cm : Idl → Option Cmt) (G : List Idl) (o : Idl) : Prop := ∀ y ∈ G, ∀ p ∈ par cm y, Reach cm p o → o = y
def KP (cm : Idl → Option Cmt) (G : List Idl) (z : Idl) (k : Nat) (o : Idl) : Prop := KO cm G o ∧ ∀ p ∈ (par cm z).take k, Reach cm p o → o = z
def KI (cm : Idl → Option Cmt) (G : List Idl) (z : Idl) (k : Nat) (G2 : List Idl) (o : Idl) : Prop := KP cm G z k o ∧ (o ∈ G2 → o = z)
def BsOut (cm : Idl → Option Cmt) (g : Idl → Option Value) (M : List Idl) (W : World) (ba r1 n c0 nc : Nat) (wr : World) : Prop :=
  ∃ G Lr Sk, RangeG vlV wr ba r1 n g Lr ∧ (G ++ Lr).Perm M ∧ LineM cm wr c0 nc Sk none ∧ Kept cm M Sk (KO cm G) ∧ W.grownBy wr (some c0)
def BsMid (cm : Idl → Option Cmt) (M G : List Idl) (z : Idl) (W : World) (c0 nc l : Nat) (i : Value) (wr : World) : Prop :=
  ∃ (k : Nat) (Sk : List Idl), i = .int .i64 (k : Int) ∧ k ≤ l ∧ LineM cm wr c0 nc Sk none ∧ Kept cm M Sk (KP cm G z k) ∧ W.grownBy wr (some c0)
def BsIn (cm : Idl → Option Cmt) (M G : List Idl) (z : Idl) (k : Nat) (gp : Idl → Option Value) (P : List Idl) (W : World) (c0 nc bp r2 np : Nat) (wr : World) : Prop :=
  ∃ G2 Lr2 Sk, RangeG vlV wr bp r2 np gp Lr2 ∧ (G2 ++ Lr2).Perm P ∧ LineM cm wr c0 nc Sk none ∧ Kept cm M Sk (KI cm G z k G2) ∧ W.grownBy wr (some c0)
def BasAns (cm : Idl → Option Cmt) (x y : Idl) (w : World) (e : Ending) (w' : World) : Prop :=
  Below w.heap.size w w' ∧ ((∃ A B u, lineL cm x = some A ∧ lineL cm y = some B ∧ e = .returned (.tuple #[u, .int .i64 0]) ∧ IdRow w' u (basesL cm A B)) ∨ ((lineL cm x = none ∨ lineL cm y = none) ∧ e = .returned (.tuple #[.slice none 0 0, .int .i64 13])))
theorem basAns_yes {x y : Idl} {w w' : World} {A B : List Idl} {u : Value} (ha : lineL cm x = some A) (hb : lineL cm y = some B) (hu : IdRow w' u (basesL cm A B)) (h : Below w.heap.size w w') : BasAns cm x y w (.returned (.tuple #[u, .int .i64 0])) w' := ⟨h, .inl ⟨A, B, u, ha, hb, rfl, hu⟩⟩
theorem basAns_no {x y : Idl} {w w' : World} (h : lineL cm x = none ∨ lineL cm y = none) (hb : Below w.heap.size w w') : BasAns cm x y w (.returned (.tuple #[.slice none 0 0, .int .i64 13])) w' := ⟨hb, .inr ⟨h, rfl⟩⟩
set_option maxRecDepth 100000 in
set_option maxHeartbeats 8000000 in
theorem hbases_any (v : Value) (f : Idl → Option Ob) (hf : ∀ x o, f x = some o → rightOb o = true) (U : List Idl) (hU : CmOk (cmG f) U) (x y : Idl) (w : World) (hs : SrcP w v f) (hx : x.length = 32) (hy : y.length = 32) :
    Calls Tryz.prog 30 #[v, .agg (idC x).toArray, .agg (idC y).toArray] w (BasAns (cmG f) x y w) := by
  have h32x := h32_of (us := idC x) (by rw [idC_len, hx])
  have h32y := h32_of (us := idC y) (by rw [idC_len, hy])
  obtain ⟨zi, i0, hi, hz0, hz1, hz2, hzi, hzil⟩ := id_zero
  have HZI := Lib.hid hzil
  obtain ⟨zc, hzc, _, hzce⟩ := cm_zero
  have HZC := Lib.hid (show zc.size = 34 by rw [hzce]; exact cmC_len _ _ _ zid_len)
  obtain ⟨W, hW⟩ : ∃ W, (w.alloc (.cells (idC x).toArray 24)).alloc (.cells (idC y).toArray 24) = W := ⟨_, rfl⟩
  have hbW : Below w.heap.size w W := by rw [← hW]; exact ((Below.refl _ _).alloc (Nat.le_refl _) _).alloc (by simp) _
  have hrx : W.rangeAt w.heap.size 0 (idC x) := by
    rw [← hW]; exact rangeAt_below (range_new w (idC x) 24 rfl) ((Below.refl _ _).alloc (Nat.le_refl _) _) (by simp)
  have hry : W.rangeAt (w.heap.size + 1) 0 (idC y) := by rw [← hW]; exact range_new _ _ _ (by simp)
  have hsW : W.heap.size = w.heap.size + 1 + 1 := by rw [← hW]; simp
  have HOF := Lib.hid (fun z (hz : z.length = 32) X (hX : Below w.heap.size w X) => hof_any v f hf U hU z X (hs.below hX) hz)
  have hox := HOF.out x hx W hbW
  have hoy := fun w1 (h : Below W.heap.size W w1) => HOF.out y hy w1 (hbW.trans (h.mono hbW.size))
  have HU := Lib.hid hU
  have HBW := Lib.hid hbW
  have HRX := Lib.hid hrx
  have HRY := Lib.hid hry
  have HSW := Lib.hid hsW
  have HW := Lib.hid hW
  have HOX := Lib.hid hox
  have HOY := Lib.hid hoy
  have h34 : (Tryz.prog.info? 97).map (·.size) = some 34 := by kernel_rfl
  have h32 : (Tryz.prog.info? 24).map (·.size) = some 32 := by kernel_rfl
  clear hs hx hy hf hU hbW hrx hry hsW hW hzce hox hoy hzil
  generalize idC x = ux at h32x HOX HRX HW
  generalize idC y = uy at h32y HOY HRY HW
  go_enter Tryz.func30, Tryz.ntmps30
  go_wp2_with (rw [HW.out]; refine wpList_load_mid rfl 24 _ rfl w.heap.size 0 rfl ux _ HRX.out Tryz.underlying24 rfl h32x ?_)
  refine HOX.out.mono ?_
  intro e w1 h
  clear HOX HW
  obtain ⟨hb1, ⟨A, ba, na, hla, rfl, hna, hba, hma⟩ | ⟨hla, rfl⟩⟩ := h
  · have HLA := Lib.hid hla
    have HRY1 := Lib.hid (rangeAt_below HRY.out hb1 (by rw [HSW.out]; omega))
    have HB1 := Lib.hid (HBW.out.trans (hb1.mono HBW.out.size))
    have HO2 := Lib.hid (HOY.out w1 hb1)
    have HMA := Lib.hid hma
    have hs1 : w.heap.size + 1 + 1 ≤ w1.heap.size := by rw [← HSW.out]; exact hb1.size
    clear hb1 hla hma HOY HRX HRY
    go_wp2_with (refine wpList_load_mid rfl 24 _ rfl (w.heap.size + 1) 0 rfl uy _ HRY1.out Tryz.underlying24 rfl h32y ?_)
    refine HO2.out.mono ?_
    intro e w2 h
    obtain ⟨hb2, ⟨B, bb, nb, hlb, rfl, hnb, hbb, hmb⟩ | ⟨hlb, rfl⟩⟩ := h
    · have HLB := Lib.hid hlb
      have hb3 : Below w2.heap.size w2 (w2.alloc (.cells #[.map (some bb)] 110)) := (Below.refl _ _).alloc (Nat.le_refl _) _
      have cy : (w2.alloc (.cells #[.map (some bb)] 110)).cell? ⟨w2.heap.size, 0, none⟩ = some (.map (some bb)) := (range_new w2 [.map (some bb)] 110 (n := w2.heap.size) rfl) 0 _ rfl
      have hbal : ba < w1.heap.size := HMA.out.lt
      have hwn := HSW.out
      have hdf := hdelf_any HU.out.tree HU.out.pars A B (lineL_32 HU.out HLA.out).2.2 (lineL_32 HU.out HLA.out).1 ba na w2.heap.size bb nb (w2.alloc (.cells #[.map (some bb)] 110)) ((HMA.out.on hb2).on hb3) (hmb.on hb3) (by omega) cy
      have HDF := Lib.hid hdf
      have HB3 := Lib.hid ((HB1.out.trans (hb2.mono HB1.out.size)).trans (hb3.mono (by have := hb2.size; omega)))
      have hs2 : w.heap.size + 1 + 1 ≤ w2.heap.size := by have := hb2.size; omega
      have hba3 : ba < (w2.alloc (.cells #[.map (some bb)] 110)).heap.size := by have := hb2.size; have := hb3.size; omega
      clear hb2 hlb hmb hb3 cy hdf HO2 HRY1
      go_wp2_with fail
      refine HDF.out.mono ?_
      rintro e w4 ⟨rfl, hg4, hm4⟩
      have HCLN := Lib.hid (hclone_any ba na _ w4 hm4)
      have HB4 := Lib.hid (HB3.out.grown hg4 HB3.out.size (fun j hj => by cases hj; omega))
      obtain ⟨M, hM⟩ : ∃ M, (A.filter fun z => decide (z ∈ B)) = M := ⟨_, rfl⟩
      rw [hM] at HCLN
      have HMIF : Hid (∀ z, z ∈ M ↔ z ∈ A ∧ z ∈ B) := Lib.hid (fun z => by rw [← hM, List.mem_filter, decide_eq_true_iff])
      have HMND : Hid M.Nodup := Lib.hid (by rw [← hM]; exact List.Pairwise.filter _ (lineL_32 HU.out HLA.out).2.2)
      have HM32 : Hid (∀ z ∈ M, z.length = 32) := Lib.hid (fun z hz => (lineL_32 HU.out HLA.out).1 z ((HMIF.out z).1 hz).1)
      have HML : Hid (M.length ≤ 1000) := Lib.hid (by rw [← hM]; exact Nat.le_trans (List.length_filter_le _ _) (lineL_32 HU.out HLA.out).2.1)
      have hs4 : w.heap.size ≤ w4.heap.size := HB4.out.size
      have hbac : ba < w4.heap.size := by have := hg4.size; omega
      clear hg4 hm4 hM HDF HMA
      go_wp2_with fail
      refine HCLN.out.mono ?_
      rintro e w5 ⟨rfl, hc5, hm5, hb5⟩
      obtain ⟨g, hg, hdom, hval⟩ := hm5
      obtain ⟨c0, hc0⟩ : ∃ c0, w4.heap.size = c0 := ⟨_, rfl⟩
      have HB5 := Lib.hid (HB4.out.trans (hb5.mono HB4.out.size))
      have hs5 := hb5.size
      have hc0l := hc5.lt
      have hgl := hg.lt
      have HG5 := Lib.hid hg
      have HVAL := Lib.hid hval
      have HDOM := Lib.hid hdom
      rw [hc0] at hc5 hs5 hc0l ⊢
      rw [hc0] at hs4 hbac
      obtain ⟨gc, hgc, _⟩ := id hc5
      have HNC5 : Hid (NoCells w5 c0) := Lib.hid hgc.noc
      have HPARS : Hid (∀ z ∈ M, ∀ p ∈ par (cmG f) z, ∃ P, lineL (cmG f) p = some P) := Lib.hid (fun z hz p hp => lineL_sub HLA.out (((lineL_some HLA.out).1.mem p).2 ((((lineL_some HLA.out).1.mem z).1 ((HMIF.out z).1 hz).1).tail hp)))
      have HBAS : Hid (∀ o, o ∈ basesL (cmG f) A B ↔ o ∈ M ∧ ∀ y ∈ M, ∀ p ∈ par (cmG f) y, Reach (cmG f) p o → o = y) := Lib.hid (fun o => by
        rw [bases_strike HLA.out HLB.out, ← HMIF.out o]
        exact ⟨fun h => ⟨h.1, fun y hy => h.2 y ((HMIF.out y).1 hy).1 ((HMIF.out y).1 hy).2⟩, fun h => ⟨h.1, fun y h1 h2 => h.2 y ((HMIF.out y).2 ⟨h1, h2⟩)⟩⟩)
      have HASC : Hid (AscL (basesL (cmG f) A B)) := Lib.hid (basesL_asc (lineL_some HLA.out).2)
      have HFIN : Hid (∀ u w', IdRow w' u (basesL (cmG f) A B) → Below w.heap.size w w' → BasAns (cmG f) x y w (.returned (.tuple #[u, .int .i64 0])) w') := Lib.hid (fun u w' h1 h2 => basAns_yes HLA.out HLB.out h1 h2)
      have HC5 := Lib.hid hc5
      obtain ⟨bs, hbs⟩ : ∃ bs, basesL (cmG f) A B = bs := ⟨_, rfl⟩
      rw [hbs] at HBAS HASC HFIN
      clear hg hval hdom hb5 hc5 hgc HLA HLB HMIF HB4 HB3 HB1 HCLN hbs
      generalize hcm : cmG f = cm at *
      clear hcm
      go_wp2_with (refine wpList_range_G (enc := vlV) rfl _ 110 97 rfl Tryz.underlying110 ba na g M rfl HG5.out HMND.out HM32.out HDOM.out ?_)
      intro w6 hr6 hg6 hs6
      have HR6 := Lib.hid hr6
      have HG6 := Lib.hid (grown_none hg6 (some c0))
      have HC6 : Hid (LineM cm w6 c0 na M none) := Lib.hid ((HC5.out.grown hg6 (fun e => by cases e) (.inl rfl)))
      clear hr6 hg6 hs6
      go_wp2
      go_loopw [44] (fun _ wr => BsOut cm g M w5 ba w5.heap.size na c0 na wr) (fun _ wr => wr.rangeLeft ba w5.heap.size)
      case atStart => exact ⟨[], M, M, HR6.out, List.Perm.refl _, HC6.out, ⟨HMND.out, fun _ h => h, fun o ho => ⟨fun _ y hy => (by cases hy), fun _ => ho⟩⟩, HG6.out⟩
      case round =>
        obtain ⟨wo, rfl⟩ : ∃ wo : World, wo = wr := ⟨_, rfl⟩
        obtain ⟨G, Lr, Sk, hrg, hp, hlc, hkp, hgo⟩ := hrel
        have HP := Lib.hid hp
        have HK := Lib.hid hkp
        have HLC := Lib.hid hlc
        have HGO := Lib.hid hgo
        have HBO := Lib.hid (HB5.out.grown hgo HB5.out.size (fun j hj => by cases hj; omega))
        clear hp hkp hlc hgo HR6 HG6 HC6 HC5
        go_wp2_with (refine wpList_next_G (enc := vlV) rfl _ rfl ba w5.heap.size na g Lr rfl hrg ?_ ?_)
        · intro hL0
          have hGM : ∀ z, z ∈ G ↔ z ∈ M := fun z => by
            have := HP.out.mem_iff (a := z)
            rw [hL0, List.append_nil] at this
            exact this
          have hsk32 : ∀ z ∈ Sk, z.length = 32 := fun z hz => HM32.out z (HK.out.sub z hz)
          have hskl : Sk.length ≤ 1000 := Nat.le_trans (nodup_sub_len Sk M HK.out.nodup HK.out.sub) HML.out
          have HRIS := Lib.hid (hrising_any c0 na Sk none wo HLC.out HK.out.nodup hsk32 hskl)
          have HEQ : Hid (∀ m, AscL m → (∀ z, z ∈ m ↔ z ∈ Sk) → m = bs) := Lib.hid (fun m h1 h2 => ascL_ext h1 HASC.out fun z => by
            rw [h2, HBAS.out]
            constructor
            · intro hz
              exact ⟨HK.out.sub z hz, fun y hy => ((HK.out.iff z (HK.out.sub z hz)).1 hz) y ((hGM y).2 hy)⟩
            · intro hz
              exact (HK.out.iff z hz.1).2 fun y hy => hz.2 y ((hGM y).1 hy))
          clear hrg hL0 hGM hsk32 hskl
          go_wp2_with fail
          refine HRIS.out.mono ?_
          rintro e w7 ⟨v7, m, rfl, hrow7, hasc7, hmm7, hb7⟩
          have HEND := Lib.hid (HFIN.out v7 w7 (by rw [← HEQ.out m hasc7 hmm7]; exact hrow7) (HBO.out.trans (hb7.mono HBO.out.size)))
          clear hrow7 hasc7 hmm7 hb7
          go_wp2
          go_ret2
          exact HEND.out
        · intro z c w3 hzL hz hgz hrg2 hlt hg2 hs3 hen
          obtain ⟨cc, pv, hcmz, rfl, hrowp, _⟩ := HVAL.out z c hgz
          obtain ⟨ap, capp, rfl, _⟩ := hrowp.flat0
          unfold vlV at hen ⊢
          have hzM : z ∈ M := HP.out.mem_iff.1 (List.mem_append_right _ hzL)
          have hcl : (cmC cc.tree (.slice ap cc.pars.length capp) cc.text).length = 34 := cmC_len _ _ _ (HU.out.tree z cc hcmz)
          have hco := cmC_one cc.tree ap cc.pars.length capp cc.text
          have hc32 : (cmC cc.tree (.slice ap cc.pars.length capp) cc.text)[32]? = some (.slice ap cc.pars.length capp) := by
            unfold cmC
            rw [List.getElem?_append_right (by rw [idC_len, HU.out.tree z cc hcmz]; exact Nat.le_refl _), idC_len, HU.out.tree z cc hcmz]; rfl
          have hp32 : ∀ p ∈ cc.pars, p.length = 32 := HU.out.pars z cc hcmz
          have h4 : cc.pars.length ≤ 4 := HU.out.four z cc hcmz
          have hro : IdRow wo (.slice ap cc.pars.length capp) cc.pars := hrowp.grown HGO.out (hrowp.offc hp32 HNC5.out)
          have hr3 : IdRow w3 (.slice ap cc.pars.length capp) cc.pars := hro.grown hg2 (hro.offc hp32 hrg.noc)
          obtain ⟨ct, hct⟩ : ∃ ct, cmC cc.tree (.slice ap cc.pars.length capp) cc.text = ct := ⟨_, rfl⟩
          rw [hct] at hen hcl hco hc32 ⊢
          have hzc : (idC z).length = 32 := by rw [idC_len, hz]
          have h32z := h32_of hzc
          obtain ⟨W4, hW4⟩ : ∃ W4, ((w3.alloc (.cells zi 24)).alloc (.cells zc 97)).setCells w3.heap.size 0 (idC z) = W4 := ⟨_, rfl⟩
          have t1 := there_below (there_alloc w3 zi 24 HZI.out) ((Below.refl _ _).alloc (Nat.le_refl _) (.cells zc 97)) (by simp)
          have t2 := there_alloc (w3.alloc (.cells zi 24)) zc 97 HZC.out
          rw [World.size_alloc] at t2
          have b2 : Below w3.heap.size w3 ((w3.alloc (.cells zi 24)).alloc (.cells zc 97)) := ((Below.refl _ _).alloc (Nat.le_refl _) _).alloc (by simp) _
          have r4 := World.rangeAt_setCells_same ((w3.alloc (.cells zi 24)).alloc (.cells zc 97)) w3.heap.size 0 (idC z) (by rw [hzc]; exact t1)
          have b4 := below_setCells (B := w3.heap.size) (a := w3) w3.heap.size (Nat.le_refl _) (idC z) 0 _ b2
          have g4 := grown_setCells (idC z) 0 _ (World.grownBy.refl ((w3.alloc (.cells zi 24)).alloc (.cells zc 97)) (some w3.heap.size))
          have t4 := World.there_setCells t2 w3.heap.size 0 (idC z)
          rw [hW4] at r4 b4 g4 t4
          obtain ⟨W5, hW5⟩ : ∃ W5, W4.setCells (w3.heap.size + 1) 0 ct = W5 := ⟨_, rfl⟩
          have r5 := World.rangeAt_setCells_same W4 (w3.heap.size + 1) 0 ct (by rw [hcl]; exact t4)
          have r45 := World.rangeAt_setCells_apart r4 (w3.heap.size + 1) 0 ct (.inl (by omega))
          have b5 := below_setCells (B := w3.heap.size) (a := w3) (w3.heap.size + 1) (by omega) ct 0 _ b4
          have g5 := grown_setCells ct 0 W4 (World.grownBy.refl W4 (some (w3.heap.size + 1)))
          rw [hW5] at r5 r45 b5 g5
          have hs5w : w3.heap.size + 1 + 1 ≤ W5.heap.size := by
            have h1 := g4.size
            have h2 := g5.size
            simp at h1; omega
          have c32 : W5.cell? ⟨w3.heap.size + 1, 32, none⟩ = some (.slice ap cc.pars.length capp) := by have := r5 32 _ hc32; rwa [Nat.zero_add] at this
          have hbaw : ba < wo.heap.size := hrg.map.lt
          have hwo5 : w5.heap.size < wo.heap.size := hrg.lt
          have hl3 : LineM cm w3 c0 na Sk none := HLC.out.turned HU.out.pars hrg.noc hg2 (by omega)
          have hl5 := hl3.on b5
          obtain ⟨gl, hgl5, _⟩ := id hl5
          have hr5 := hr3.below b5
          have HROW5 := Lib.hid hr5
          have HOFF5 : Hid (cc.pars = [] ∨ ∀ j, (Value.slice ap cc.pars.length capp).ownBlock = some j → some c0 ≠ some j) := Lib.hid (hr5.offc hp32 hgl5.noc)
          have HL5 := Lib.hid hl5
          have HRG5 := Lib.hid (hrg2.on b5)
          have HLT5 := Lib.hid (show W5.rangeLeft ba w5.heap.size < wo.rangeLeft ba w5.heap.size by rw [rangeLeft_heap (b5.block ba hrg2.map.lt) (b5.block _ hrg2.lt)]; exact hlt)
          have HGW5 : Hid (w5.grownBy W5 (some c0)) := Lib.hid (grown_below' (grown_side HGO.out hg2 (Nat.le_refl _)) b5)
          have HZG : Hid (((G ++ [z]) ++ Lr.erase z).Perm M) := Lib.hid (by
            rw [List.append_assoc]
            exact ((List.perm_cons_erase hzL).symm.append_left G).trans HP.out)
          have HPAZ : Hid (par cm z = cc.pars) := Lib.hid (par_of hcmz)
          have HP32 := Lib.hid hp32
          have HPL : Hid (∀ p ∈ cc.pars, ∃ P, lineL cm p = some P) := Lib.hid (fun p hp => HPARS.out z hzM p (by rw [HPAZ.out]; exact hp))
          have HT1 := Lib.hid t1
          have HT4 := Lib.hid t4
          have HR45 := Lib.hid r45
          have HZCL := Lib.hid hzc
          have HZO := Lib.hid (idC_one z)
          have HCL := Lib.hid hcl
          have HCO := Lib.hid hco
          have HW4 := Lib.hid hW4
          have HW5 := Lib.hid hW5
          have HZL := Lib.hid hz
          have hws3 : c0 < w3.heap.size := by have := hs3; omega
          clear hrg hrg2 hlt hg2 hs3 hgz hcmz hrowp hct hzc hcl hco hc32 hp32 hro hr3 t1 t2 t4 b2 b4 g4 r4 r5 r45 b5 g5 hl3 hl5 hgl5 hr5 hW4 hW5 hzL hz hzM
          have h34c : (Tryz.prog.info? 97).map (·.size) = some 34 := h34
          go_wp2_with (first
            | (refine wpList_store_list rfl 24 _ _ rfl w3.heap.size 0 (idC z) rfl rfl 32 HZCL.out HT1.out h32 HZO.out ?_; rw [HW4.out])
            | (refine wpList_store_list rfl 97 _ _ rfl (w3.heap.size + 1) 0 ct rfl rfl 34 HCL.out HT4.out h34 HCO.out ?_; rw [HW5.out]))
          go_loopw [52] (fun i wr => BsMid cm M G z W5 c0 na cc.pars.length i wr) (fun i _ => (cc.pars.length - intOf i).toNat)
          case atStart => exact ⟨0, Sk, rfl, by omega, HL5.out, HK.out.congr fun o _ => ⟨fun h => ⟨h, fun p hp => (by simp at hp)⟩, fun h => h.1⟩, World.grownBy.refl _ _⟩
          case round =>
            obtain ⟨wi, rfl⟩ : ∃ wi : World, wi = wr := ⟨_, rfl⟩
            obtain ⟨k, Sk1, rfl, hk, hlc, hkp, hgi⟩ := hrel
            have HK1 := Lib.hid hkp
            have HL1 := Lib.hid hlc
            have HGI := Lib.hid hgi
            have HB5i := Lib.hid (HB5.out.grown (grownBy_trans' HGW5.out hgi) HB5.out.size (fun j hj => by cases hj; omega))
            have hsi : W5.heap.size ≤ wi.heap.size := hgi.size
            have HC32i := Lib.hid (cell_grown c32 hgi (fun e => by have := Option.some.inj e; omega))
            have HR45i := Lib.hid (range_grown HR45.out hgi (fun e => by have := Option.some.inj e; omega))
            clear hkp hlc
            by_cases hlt : k < cc.pars.length
            · obtain ⟨ao', cap', heq', hmx, hcell⟩ := (HROW5.out.grown hgi HOFF5.out).open
              obtain ⟨br, off, hap, hbl, hcell⟩ := hcell (by intro e; rw [e] at hlt; simp at hlt)
              obtain ⟨rfl, rfl⟩ : ap = some ⟨br, off, none⟩ ∧ capp = cap' := by
                injection heq' with e1 e2 e3
                exact ⟨e1.trans hap, e3⟩
              have f1 := hcell k hlt
              have hkp : k < (par cm z).length := by rw [HPAZ.out]; exact hlt
              have hpe : (par cm z)[k] = cc.pars[k] := by simp only [HPAZ.out]
              obtain ⟨p, hp⟩ : ∃ p, cc.pars[k] = p := ⟨_, rfl⟩
              rw [hp] at hpe f1
              have hpm : p ∈ cc.pars := by rw [← hp]; exact List.getElem_mem hlt
              have hpl : p.length = 32 := HP32.out p hpm
              obtain ⟨P, hP⟩ := HPL.out p hpm
              have hpc : (idC p).length = 32 := by rw [idC_len, hpl]
              have h32p := h32_of hpc
              obtain ⟨W6, hW6⟩ : ∃ W6, (wi.alloc (.cells zi 24)).setCells wi.heap.size 0 (idC p) = W6 := ⟨_, rfl⟩
              have wr6 := wrote (by rw [hpc, HZI.out]) (by rw [HZI.out]; omega) hW6
              have HO6 := Lib.hid (HOF.out p hpl W6 (HB5i.out.trans (wr6.bel.mono HB5i.out.size)))
              have HTH6 := Lib.hid (there_alloc wi zi 24 HZI.out)
              have HPC := Lib.hid hpc
              have HPO := Lib.hid (idC_one p)
              have HW6 := Lib.hid hW6
              have HR6 := Lib.hid wr6.row
              have HBI6 := Lib.hid wr6.bel
              have F1 := Lib.hid f1
              have HPP := Lib.hid hP
              have HTK : Hid ((par cm z).take (k + 1) = (par cm z).take k ++ [p]) := Lib.hid (by rw [List.take_succ_eq_append_getElem hkp, hpe])
              have k0 : (0 : Int) ≤ k := by omega
              have k1 : (k : Int) < cc.pars.length := by omega
              have d1 : decide ((k : Int) < cc.pars.length) = true := decide_eq_true k1
              have h32a := h32
              clear hcell heq' hmx f1 hkp hpe hp hpm hpc hW6 wr6 hP hpl hgi
              generalize hux : idC p = up at h32p HTH6 HPC HPO HW6 HR6 F1 HO6
              clear hux
              go_wp2_with (first
                | (refine wpList_load_mid rfl 24 _ rfl br (off + k * 32) rfl up _ F1.out Tryz.underlying24 rfl h32p ?_)
                | (refine wpList_store_list rfl 24 _ _ rfl wi.heap.size 0 up rfl rfl 32 HPC.out HTH6.out h32 HPO.out ?_; rw [HW6.out])
                | (refine wpList_load_mid rfl 24 _ rfl wi.heap.size 0 rfl up _ HR6.out Tryz.underlying24 rfl h32p ?_))
              refine HO6.out.mono ?_
              rintro e w7 ⟨hb7, ⟨P', bp, np, hlp, rfl, hnp, hbp, hm7⟩ | ⟨hlp, rfl⟩⟩
              · obtain rfl : P = P' := Option.some.inj (HPP.out.symm.trans hlp)
                obtain ⟨gp, hg7, hdom7, _⟩ := hm7
                have HBI7 := Lib.hid (HBI6.out.trans (hb7.mono HBI6.out.size))
                have HG7 := Lib.hid hg7
                have HD7 := Lib.hid hdom7
                have HPND := Lib.hid (lineL_32 HU.out HPP.out)
                have hs67 := hb7.size
                have hs6i := HBI6.out.size
                have hg7l := hg7.lt
                clear hb7 hlp hg7 hdom7 HO6 HTH6 HW6 HR6 F1
                go_wp2_with (refine wpList_range_G (enc := vlV) rfl _ 110 97 rfl Tryz.underlying110 bp np gp P rfl HG7.out HPND.out.2.2 HPND.out.1 HD7.out ?_)
                intro w8 hr8 hg8 hs8
                have HR8 := Lib.hid hr8
                have HG8 := Lib.hid (grown_none hg8 (some c0))
                have HL8 : Hid (LineM cm w8 c0 na Sk1 none) := Lib.hid ((HL1.out.on HBI7.out).grown hg8 (fun e => by cases e) (.inl rfl))
                have HGI7 : Hid (W5.grownBy w7 (some c0)) := Lib.hid (grown_below' HGI.out HBI7.out)
                have hsi7 := HBI7.out.size
                have hbpc : c0 < bp := by omega
                clear hr8 hg8 hs8
                go_wp2
                go_loopw [64] (fun _ wr => BsIn cm M G z k gp P w7 c0 na bp w7.heap.size np wr) (fun _ wr => wr.rangeLeft bp w7.heap.size)
                case atStart => exact ⟨[], P, Sk1, HR8.out, List.Perm.refl _, HL8.out, HK1.out.congr fun o _ => ⟨fun h => ⟨h, fun h2 => (by cases h2)⟩, fun h => h.1⟩, HG8.out⟩
                case round =>
                  obtain ⟨wj, rfl⟩ : ∃ wj : World, wj = wr := ⟨_, rfl⟩
                  obtain ⟨G2, Lr2, Sk2, hrgj, hpj, hlj, hkj, hgj⟩ := hrel
                  have HPJ := Lib.hid hpj
                  have HLJ := Lib.hid hlj
                  have HKJ := Lib.hid hkj
                  have HGJ := Lib.hid hgj
                  clear hpj hlj hkj hgj HR8 HG8 HL8
                  go_wp2_with (refine wpList_next_G (enc := vlV) rfl _ rfl bp w7.heap.size np gp Lr2 rfl hrgj ?_ ?_)
                  · intro hL0
                    have hGP : ∀ o, o ∈ G2 ↔ Reach cm p o := fun o => by
                      have := HPJ.out.mem_iff (a := o)
                      rw [hL0, List.append_nil] at this
                      rw [this, (lineL_some HPP.out).1.mem]
                    have HEND : Hid (∃ Sk3, LineM cm wj c0 na Sk3 none ∧ Kept cm M Sk3 (KP cm G z (k + 1)) ∧ W5.grownBy wj (some c0)) := Lib.hid ⟨Sk2, HLJ.out, HKJ.out.congr (fun o _ => by
                      unfold KI KP
                      rw [HTK.out]
                      constructor
                      · rintro ⟨⟨h1, h2⟩, h3⟩
                        refine ⟨h1, fun q hq hr => ?_⟩
                        rcases List.mem_append.1 hq with h | h
                        · exact h2 q h hr
                        · rw [List.mem_singleton.1 h] at hr; exact h3 ((hGP o).2 hr)
                      · rintro ⟨h1, h2⟩
                        exact ⟨⟨h1, fun q hq hr => h2 q (List.mem_append_left _ hq) hr⟩, fun h => h2 p (by simp) ((hGP o).1 h)⟩), grownBy_trans' HGI7.out HGJ.out⟩
                    clear hrgj hL0 hGP
                    go_wp2
                    go_roundw
                    case rel =>
                      obtain ⟨Sk3, e1, e2, e3⟩ := HEND.out
                      exact ⟨k + 1, Sk3, by go_num, by omega, e1, e2, e3⟩
                    case measure => simp [intOf]; omega
                  · intro o c9 w9 hoL ho hfo hrg9 hlt9 hg9 hs9 hen9
                    unfold vlV at hen9
                    have hoc : (idC o).length = 32 := by rw [idC_len, ho]
                    have h32o := h32_of hoc
                    have hwj7 : w7.heap.size < wj.heap.size := hrgj.lt
                    have hbpj : bp < wj.heap.size := hrgj.map.lt
                    have hg79 : w7.grownBy w9 (some c0) := grown_side HGJ.out hg9 (Nat.le_refl _)
                    have hs9j := hg9.size
                    have hl9 : LineM cm w9 c0 na Sk2 none := HLJ.out.turned HU.out.pars hrgj.noc hg9 (by omega)
                    obtain ⟨W10, hW10⟩ : ∃ W10, (w9.alloc (.cells zi 24)).setCells w9.heap.size 0 (idC o) = W10 := ⟨_, rfl⟩
                    have wr10 := wrote (by rw [hoc, HZI.out]) (by rw [HZI.out]; omega) hW10
                    have HPE : Hid (((G2 ++ [o]) ++ Lr2.erase o).Perm P) := Lib.hid (by
                      rw [List.append_assoc]
                      exact ((List.perm_cons_erase hoL).symm.append_left G2).trans HPJ.out)
                    have HL10 := Lib.hid (hl9.on wr10.bel)
                    have HRG10 := Lib.hid (hrg9.on wr10.bel)
                    have HLT10 := Lib.hid (show W10.rangeLeft bp w7.heap.size < wj.rangeLeft bp w7.heap.size by rw [rangeLeft_heap (wr10.bel.block bp hrg9.map.lt) (wr10.bel.block _ hrg9.lt)]; exact hlt9)
                    have HG10 : Hid (w7.grownBy W10 (some c0)) := Lib.hid (grown_below' hg79 wr10.bel)
                    have HZ10 := Lib.hid (range_grown (range_grown HR45.out HGI7.out (fun e => by have := Option.some.inj e; omega)) HG10.out (fun e => by have := Option.some.inj e; omega))
                    have HO10 := Lib.hid wr10.row
                    have HTH10 := Lib.hid (there_alloc w9 zi 24 HZI.out)
                    have HW10 := Lib.hid hW10
                    have HOC := Lib.hid hoc
                    have HOO := Lib.hid (idC_one o)
                    have HOL := Lib.hid ho
                    have heq := id_eqIn o z ho HZL.out
                    have hs10 := wr10.bel.size
                    clear hrgj hrg9 hlt9 hg9 hs9 hfo hoL hoc hg79 hl9 hW10 wr10
                    by_cases hoz : o = z
                    · subst hoz
                      have hb : (o == o) = true := beq_self_eq_true _
                      rw [hb] at heq
                      have HEND : Hid (BsIn cm M G o k gp P w7 c0 na bp w7.heap.size np W10) := Lib.hid ⟨G2 ++ [o], Lr2.erase o, Sk2, HRG10.out, HPE.out, HL10.out, HKJ.out.congr (fun q _ => by
                        unfold KI
                        constructor
                        · rintro ⟨h1, h2⟩
                          exact ⟨h1, fun h => (List.mem_append.1 h).elim h2 List.mem_singleton.1⟩
                        · rintro ⟨h1, h2⟩
                          exact ⟨h1, fun h => h2 (List.mem_append_left _ h)⟩), HG10.out⟩
                      clear hb
                      go_wp2_with (first
                        | (refine wpList_store_list rfl 24 _ _ rfl w9.heap.size 0 (idC o) rfl rfl 32 HOC.out HTH10.out h32 HOO.out ?_; rw [HW10.out])
                        | (refine wpList_load_mid rfl 24 _ rfl w9.heap.size 0 rfl (idC o) _ HO10.out Tryz.underlying24 rfl h32o ?_)
                        | (refine wpList_load_mid rfl 24 _ rfl w3.heap.size 0 rfl (idC o) _ HZ10.out Tryz.underlying24 rfl h32z ?_))
                      go_roundw
                      case rel => exact HEND.out
                      case measure => exact HLT10.out
                    · have hb : (o == z) = false := beq_eq_false_iff_ne.2 hoz
                      rw [hb] at heq
                      have HKN : Hid (Kept cm M (Sk2.filter fun q => decide (q ≠ o)) (KI cm G z k (G2 ++ [o]))) := Lib.hid ((HKJ.out.strike o).congr (fun q _ => by
                        unfold KI
                        constructor
                        · rintro ⟨⟨h1, h2⟩, h3⟩
                          exact ⟨h1, fun h => (List.mem_append.1 h).elim h2 (fun e => absurd (List.mem_singleton.1 e) h3)⟩
                        · rintro ⟨h1, h2⟩
                          exact ⟨⟨h1, fun h => h2 (List.mem_append_left _ h)⟩, fun e => hoz (by rw [← e]; exact h2 (by rw [e]; simp))⟩))
                      clear hb hoz
                      generalize hio : idC o = uo at hen9 h32o heq HOC HOO HW10 HO10 ⊢
                      have HIO := Lib.hid hio
                      clear hio
                      go_wp2_with (first
                        | (refine wpList_store_list rfl 24 _ _ rfl w9.heap.size 0 uo rfl rfl 32 HOC.out HTH10.out h32 HOO.out ?_; rw [HW10.out])
                        | (refine wpList_load_mid rfl 24 _ rfl w9.heap.size 0 rfl uo _ HO10.out Tryz.underlying24 rfl h32o ?_)
                        | (refine wpList_load_mid rfl 24 _ rfl w3.heap.size 0 rfl (idC z) _ HZ10.out Tryz.underlying24 rfl h32z ?_)
                        | (refine wpList_delete_L rfl (.tmp 71) (.tmp 72) 110 rfl Tryz.underlying110 c0 na Sk2 rfl HL10.out HU.out.pars o HOL.out (by rw [HIO.out]; rfl) ?_))
                      intro w11 hl11 hg11
                      have HEND : Hid (BsIn cm M G z k gp P w7 c0 na bp w7.heap.size np w11) := Lib.hid ⟨G2 ++ [o], Lr2.erase o, _, HRG10.out.grown hg11 (fun e => by have := Option.some.inj e; omega) (fun e => by have := Option.some.inj e; omega), HPE.out, hl11, (by have h := HKN.out; rwa [show (fun q => decide (q ≠ o)) = (fun q => !decide (q = o)) from by funext q; simp] at h), grownBy_trans' HG10.out hg11⟩
                      have HLT11 : Hid (w11.rangeLeft bp w7.heap.size < wj.rangeLeft bp w7.heap.size) := Lib.hid (by
                        rw [rangeLeft_heap (hg11.block bp HRG10.out.map.lt (fun e => by have := Option.some.inj e; omega)) (hg11.block _ HRG10.out.lt (fun e => by have := Option.some.inj e; omega))]; exact HLT10.out)
                      clear hl11 hg11
                      go_wp2
                      go_roundw
                      case rel => exact HEND.out
                      case measure => exact HLT11.out
              · rw [HPP.out] at hlp
                cases hlp
            · have hke : k = cc.pars.length := by omega
              have d1 : decide ((k : Int) < cc.pars.length) = false := decide_eq_false (by omega)
              have HEND : Hid (BsOut cm g M w5 ba w5.heap.size na c0 na wi) := Lib.hid ⟨G ++ [z], Lr.erase z, Sk1, HRG5.out.grown HGI.out (fun e => by have := Option.some.inj e; omega) (fun e => by have := Option.some.inj e; omega), HZG.out, HL1.out, HK1.out.congr (fun o _ => by
                unfold KP KO
                rw [hke, ← HPAZ.out, List.take_length]
                constructor
                · rintro ⟨h1, h2⟩ y hy
                  rcases List.mem_append.1 hy with h | h
                  · exact h1 y h
                  · rw [List.mem_singleton.1 h]; exact h2
                · intro h
                  exact ⟨fun y hy => h y (List.mem_append_left _ hy), h z (by simp)⟩), grownBy_trans' HGW5.out HGI.out⟩
              have HLTi : Hid (wi.rangeLeft ba w5.heap.size < wo.rangeLeft ba w5.heap.size) := Lib.hid (by
                rw [rangeLeft_heap (HGI.out.block ba HRG5.out.map.lt (fun e => by have := Option.some.inj e; omega)) (HGI.out.block _ HRG5.out.lt (fun e => by have := Option.some.inj e; omega))]; exact HLT5.out)
              clear hgi
              go_wp2
              go_roundw
              case rel => exact HEND.out
              case measure => exact HLTi.out
    · have HB2 := Lib.hid (HB1.out.trans (hb2.mono HB1.out.size))
      have HL := Lib.hid hlb
      clear hb2 hlb HO2
      go_wp2
      go_ret2
      exact basAns_no (.inr HL.out) (HB2.out.alloc HB2.out.size _)
  · have HB1 := Lib.hid (HBW.out.trans (hb1.mono HBW.out.size))
    have HL := Lib.hid hla
    clear hb1 hla HOY
    go_wp2
    go_ret2
    exact basAns_no (.inl HL.out) HB1.out
end Go.Proofs.YtbmiiiccnoiffaaGreatDoor
