/- YtbmiiiccnoiffaaGreatDoorO45: texts Q3 of this claim, in one. -/
import Derived.Test.YtbmiiiccnoiffaaGreatDoorO44
namespace Go.Proofs.YtbmiiiccnoiffaaGreatDoor
open Go.RowKit
/-- Two new rows: the first one's block lies ahead. -/
theorem rows_two (w : World) (zi : Array Value) (hz : zi.size = 32) (ux uy : List Value) (hx : ux.length = 32) (hy : uy.length = 32) {w7 : World} (h7 : w7.heap.size = w.heap.size := by rfl) (hb7 : Below w7.heap.size w7 w := by exact (Below.refl _ _).drew) :
    Hid (((((w.alloc (.cells zi 24)).alloc (.cells zi 24)).setCells w7.heap.size 0 ux).setCells (w7.heap.size + 1) 0 uy).rangeAt w7.heap.size 0 ux ∧ w7.heap.size < ((((w.alloc (.cells zi 24)).alloc (.cells zi 24)).setCells w7.heap.size 0 ux).setCells (w7.heap.size + 1) 0 uy).heap.size) ∧
    Hid (((((w.alloc (.cells zi 24)).alloc (.cells zi 24)).setCells w7.heap.size 0 ux).setCells (w7.heap.size + 1) 0 uy).rangeAt (w7.heap.size + 1) 0 uy ∧ w7.heap.size + 1 < ((((w.alloc (.cells zi 24)).alloc (.cells zi 24)).setCells w7.heap.size 0 ux).setCells (w7.heap.size + 1) 0 uy).heap.size) ∧
    Hid (Below w7.heap.size w7 ((((w.alloc (.cells zi 24)).alloc (.cells zi 24)).setCells w7.heap.size 0 ux).setCells (w7.heap.size + 1) 0 uy)) ∧
    Below w7.heap.size w7 (((w.alloc (.cells zi 24)).alloc (.cells zi 24)).setCells w7.heap.size 0 ux) ∧
    (((w.alloc (.cells zi 24)).alloc (.cells zi 24)).setCells w7.heap.size 0 ux).there (w7.heap.size + 1) 0 32 := by
  rw [h7]
  have t1 := there_below (there_alloc w zi 24 hz) ((Below.refl _ _).alloc (Nat.le_refl _) (.cells zi 24)) (by simp)
  have t2 := there_alloc (w.alloc (.cells zi 24)) zi 24 hz
  rw [World.size_alloc] at t2
  obtain ⟨W, hW⟩ : ∃ W, (w.alloc (.cells zi 24)).alloc (.cells zi 24) = W := ⟨_, rfl⟩
  have hbW : Below w.heap.size w W := by rw [← hW]; exact ((Below.refl _ _).alloc (Nat.le_refl _) _).alloc (by simp) _
  have hsW : W.heap.size = w.heap.size + 1 + 1 := by rw [← hW]; simp
  rw [hW] at t1 t2 ⊢
  have r1 := World.rangeAt_setCells_same W w.heap.size 0 ux (by rw [hx]; exact t1)
  have g1 := grown_setCells ux 0 W (World.grownBy.refl W (some w.heap.size))
  have t3 : (W.setCells w.heap.size 0 ux).there (w.heap.size + 1) 0 32 := World.there_setCells t2 _ _ _
  have r2 := World.rangeAt_setCells_same (W.setCells w.heap.size 0 ux) (w.heap.size + 1) 0 uy (by rw [hy]; exact t3)
  have r3 := World.rangeAt_setCells_apart r1 (w.heap.size + 1) 0 uy (.inl (by omega))
  have g2 := grown_setCells uy 0 (W.setCells w.heap.size 0 ux) (World.grownBy.refl _ (some (w.heap.size + 1)))
  have hs := g1.size
  have hs2 := g2.size
  have b7 : Below w7.heap.size w7 W := hb7.trans (hbW.mono (by rw [h7]; exact Nat.le_refl _))
  rw [h7] at b7
  have b8 := below_setCells (B := w.heap.size) (a := w7) w.heap.size (Nat.le_refl _) ux 0 W b7
  exact ⟨Lib.hid ⟨r3, by omega⟩, Lib.hid ⟨r2, by omega⟩, Lib.hid (below_setCells (B := w.heap.size) (w.heap.size + 1) (by omega) uy 0 _ b8), b8, t3⟩
theorem rows_owt (w : World) (zi : Array Value) (hz : zi.size = 32) (ux uy : List Value) (hx : ux.length = 32) (hy : uy.length = 32) {w7 : World} (h7 : w7.heap.size = w.heap.size := by rfl) (hb7 : Below w7.heap.size w7 w := by exact (Below.refl _ _).drew) :
    Hid (((((w.alloc (.cells zi 24)).alloc (.cells zi 24)).setCells (w7.heap.size + 1) 0 ux).setCells w7.heap.size 0 uy).rangeAt (w7.heap.size + 1) 0 ux ∧ w7.heap.size + 1 < ((((w.alloc (.cells zi 24)).alloc (.cells zi 24)).setCells (w7.heap.size + 1) 0 ux).setCells w7.heap.size 0 uy).heap.size) ∧
    Hid (((((w.alloc (.cells zi 24)).alloc (.cells zi 24)).setCells (w7.heap.size + 1) 0 ux).setCells w7.heap.size 0 uy).rangeAt w7.heap.size 0 uy ∧ w7.heap.size < ((((w.alloc (.cells zi 24)).alloc (.cells zi 24)).setCells (w7.heap.size + 1) 0 ux).setCells w7.heap.size 0 uy).heap.size) ∧
    Hid (Below w7.heap.size w7 ((((w.alloc (.cells zi 24)).alloc (.cells zi 24)).setCells (w7.heap.size + 1) 0 ux).setCells w7.heap.size 0 uy)) ∧
    ((w.alloc (.cells zi 24)).alloc (.cells zi 24)).there (w7.heap.size + 1) 0 32 ∧
    Below w7.heap.size w7 (((w.alloc (.cells zi 24)).alloc (.cells zi 24)).setCells (w7.heap.size + 1) 0 ux) ∧
    (((w.alloc (.cells zi 24)).alloc (.cells zi 24)).setCells (w7.heap.size + 1) 0 ux).there w7.heap.size 0 32 := by
  rw [h7]
  have t1 := there_below (there_alloc w zi 24 hz) ((Below.refl _ _).alloc (Nat.le_refl _) (.cells zi 24)) (by simp)
  have t2 := there_alloc (w.alloc (.cells zi 24)) zi 24 hz
  rw [World.size_alloc] at t2
  obtain ⟨W, hW⟩ : ∃ W, (w.alloc (.cells zi 24)).alloc (.cells zi 24) = W := ⟨_, rfl⟩
  have hbW : Below w.heap.size w W := by rw [← hW]; exact ((Below.refl _ _).alloc (Nat.le_refl _) _).alloc (by simp) _
  have hsW : W.heap.size = w.heap.size + 1 + 1 := by rw [← hW]; simp
  rw [hW] at t1 t2 ⊢
  have r1 := World.rangeAt_setCells_same W (w.heap.size + 1) 0 ux (by rw [hx]; exact t2)
  have g1 := grown_setCells ux 0 W (World.grownBy.refl W (some (w.heap.size + 1)))
  have t3 : (W.setCells (w.heap.size + 1) 0 ux).there w.heap.size 0 32 := World.there_setCells t1 _ _ _
  have r2 := World.rangeAt_setCells_same (W.setCells (w.heap.size + 1) 0 ux) w.heap.size 0 uy (by rw [hy]; exact t3)
  have r3 := World.rangeAt_setCells_apart r1 w.heap.size 0 uy (.inl (by omega))
  have g2 := grown_setCells uy 0 (W.setCells (w.heap.size + 1) 0 ux) (World.grownBy.refl _ (some w.heap.size))
  have hs := g1.size
  have hs2 := g2.size
  have b7 : Below w7.heap.size w7 W := hb7.trans (hbW.mono (by rw [h7]; exact Nat.le_refl _))
  rw [h7] at b7
  have b8 := below_setCells (B := w.heap.size) (a := w7) (w.heap.size + 1) (by omega) ux 0 W b7
  exact ⟨Lib.hid ⟨r3, by omega⟩, Lib.hid ⟨r2, by omega⟩, Lib.hid (below_setCells (B := w.heap.size) w.heap.size (Nat.le_refl _) uy 0 _ b8), t2, b8, t3⟩
set_option maxRecDepth 100000 in
set_option maxHeartbeats 8000000 in
theorem hages_walk (v : Value) (l : List Ob) (id : Idl) (i k : Int) (w : World) (hv : ObRow w v l) (hL : Laid w) (hid : id.length = 32) (hi0 : 0 ≤ i) (hi1 : i ≤ 255) (hk0 : 0 ≤ k) (hk1 : k ≤ 255) :
    Calls Tryz.prog 5 #[v, .agg (idC id).toArray, .int .u8 i, .int .u8 k] w fun e w' => e = .returned (.bool true) ∧ Below w.heap.size w w' := by
  have h32id := h32_of (us := idC id) (by rw [idC_len, hid])
  obtain ⟨W, hW⟩ : ∃ W, w.alloc (.cells (idC id).toArray 24) = W := ⟨_, rfl⟩
  have hbW : Below w.heap.size w W := by rw [← hW]; exact (Below.refl _ _).alloc (Nat.le_refl _) _
  have st : Hid (StH w v l W) := Lib.hid (StH.step ⟨hv, hL, Below.refl _ _⟩ hbW)
  have HRid : Hid (W.rangeAt w.heap.size 0 (idC id)) := Lib.hid (by rw [← hW]; exact range_new _ _ _ rfl)
  have HSW : Hid (W.heap.size = w.heap.size + 1) := Lib.hid (by rw [← hW]; simp)
  have HW := Lib.hid hW
  have HIDid := Lib.hid hid
  have HAL := Lib.hid (fun W (h : StH w v l W) => alive28_any W h.ld)
  have HGR := Lib.hid (fun W (h : StH w v l W) => rgreat_any v l W h.row)
  have HCL := Lib.hid (fun W (h : StH w v l W) => clash28_any v l W h.row)
  clear hbW hL hW hv hid
  generalize huid : idC id = uid at h32id HRid HW
  have HIAid := Lib.hid huid
  clear huid
  cases hg : obGreat l with
  | true =>
    rw [hg] at HGR
    clear hg
    go_enter Tryz.func5, Tryz.ntmps5
    go_wp2_with fail
    rw [HW.out]
    refine (HAL.out W st.out).mono ?_
    rintro e w1 ⟨rfl, hb1⟩
    have st1 := Lib.hid (st.out.step hb1)
    clear hb1
    go_wp2_with fail
    refine (HGR.out w1 st1.out).mono ?_
    rintro e w2 ⟨rfl, rfl⟩
    go_wp2_with fail
    refine (HAL.out _ st1.out).mono ?_
    rintro e w3 ⟨rfl, hb3⟩
    have st3 := Lib.hid (st1.out.step hb3)
    clear hb3
    go_wp2
    go_ret
    exact ⟨rfl, st3.out.bel⟩
  | false =>
    rw [hg] at HGR
    have hn := obGreat_40 hg
    clear hg
    cases hc : clashB l with
    | true =>
      rw [hc] at HCL
      clear hc
      go_enter Tryz.func5, Tryz.ntmps5
      go_wp2_with fail
      rw [HW.out]
      refine (HAL.out W st.out).mono ?_
      rintro e w1 ⟨rfl, hb1⟩
      have st1 := Lib.hid (st.out.step hb1)
      clear hb1
      go_wp2_with fail
      refine (HGR.out w1 st1.out).mono ?_
      rintro e w2 ⟨rfl, rfl⟩
      go_wp2_with fail
      refine (HCL.out _ st1.out).mono ?_
      rintro e w3 ⟨rfl, hb3⟩
      have st3 := Lib.hid (st1.out.step hb3)
      clear hb3
      go_wp2_with fail
      refine (HAL.out _ st3.out).mono ?_
      rintro e w4 ⟨rfl, hb4⟩
      have st4 := Lib.hid (st3.out.step hb4)
      clear hb4
      go_wp2
      go_ret
      exact ⟨rfl, st4.out.bel⟩
    | false =>
      rw [hc] at HCL
      have HLG : Hid (lastS l = getS l) := Lib.hid (funext fun x => last_get hc x)
      clear hc
      have HOF := Lib.hid (fun W (h : StH w v l W) => oof_any v l W h.row (by omega) h.ld)
      rw [HLG.out] at HOF
      have HRO := Lib.hid (fun W (h : StH w v l W) => rof_any v l W h.row (by omega))
      have HRN := Lib.hid (fun vl vi W (hs : SrcRow W (.agg #[vl, vi]) l) => rround_any vl vi l (by omega) W hs)
      obtain ⟨U, hU⟩ : ∃ U, U = (rights l).map idO := ⟨_, rfl⟩
      have HU : Hid (CmOk (cmG (getS l)) U) := Lib.hid (by rw [hU]; exact cmOk (by omega))
      have HROW : Hid (∀ X, Below W.heap.size W X → ∀ p ∈ [(w.heap.size, uid)], X.rangeAt p.1 0 p.2 ∧ p.1 < X.heap.size) := Lib.hid (fun X hX p hp => by
        have hsz := hX.size
        have hsw := HSW.out
        rw [List.mem_singleton.1 hp]
        exact ⟨rangeAt_below HRid.out hX (by omega), by show w.heap.size < _; omega⟩)
      clear hU HLG
      go_enter Tryz.func5, Tryz.ntmps5
      go_wp2_with fail
      rw [HW.out]
      refine (HAL.out W st.out).mono ?_
      rintro e w1 ⟨rfl, hb1⟩
      have st1 := Lib.hid (st.out.step hb1)
      have HB1 := Lib.hid hb1
      clear hb1 HW
      go_wp2_with fail
      refine (HGR.out w1 st1.out).mono ?_
      rintro e w2 ⟨rfl, rfl⟩
      go_wp2_with fail
      refine (HCL.out _ st1.out).mono ?_
      rintro e w3 ⟨rfl, hb3⟩
      have st3 := Lib.hid (st1.out.step hb3)
      have HB3 := Lib.hid (HB1.out.trans (hb3.mono HB1.out.size))
      clear hb3
      go_wp2_with fail
      refine (HRO.out _ st3.out).mono ?_
      intro e w4 h
      obtain ⟨vl0, vi0, rfl, ho1, ho2, hb4⟩ := h
      have st4 := Lib.hid (st3.out.step hb4)
      have HB4 := Lib.hid (HB3.out.trans (hb4.mono HB3.out.size))
      have HSR4 : Hid (SrcRow w4 (.agg #[vl0, vi0]) l) := Lib.hid ⟨vl0, vi0, rfl, ho1, ho2⟩
      clear hb4 ho1 ho2
      go_wp2_with fail
      refine (HRN.out vl0 vi0 w4 HSR4.out).mono ?_
      intro e w5 h
      obtain ⟨b, rfl, hac, hb5⟩ := h
      have st5 := Lib.hid (st4.out.step hb5)
      have HB5 := Lib.hid (HB4.out.trans (hb5.mono HB4.out.size))
      have HAC := Lib.hid hac
      clear hb5 hac HSR4
      cases b with
      | true =>
        go_wp2_with fail
        refine (HAL.out _ st5.out).mono ?_
        rintro e w6 ⟨rfl, hb6⟩
        have st6 := Lib.hid (st5.out.step hb6)
        clear hb6
        go_wp2
        go_ret
        exact ⟨rfl, st6.out.bel⟩
      | false =>
        have HACY : Hid (Acyc (cmG (getS l))) := Lib.hid (HAC.out rfl)
        clear HAC
        go_wp2_with fail
        refine (HOF.out w5 st5.out).mono ?_
        intro e w6 h
        obtain ⟨r, rfl, hsr, hb6⟩ := h
        have H6 : Hid (HSp w v l r [(w.heap.size, uid)] w6) := Lib.hid ⟨st5.out.step hb6, hsr, HROW.out w6 (HB5.out.trans (hb6.mono HB5.out.size))⟩
        clear hb6 hsr
        cases hl : lineL (cmG (getS l)) id with
        | none =>
          have hli := lin_no HU.out HIDid.out hl
          rw [HIAid.out] at hli
          have HLI := Lib.hid hli
          clear hli hl
          have f := H6.out.row0
          go_wp2_with (refine wpList_load_mid rfl 24 _ rfl w.heap.size 0 rfl uid _ f Tryz.underlying24 rfl h32id ?_)
          refine (HLI.out r w6 H6.out.sr).mono ?_
          rintro e w7 ⟨rfl, hb7⟩
          have H7 := Lib.hid (H6.out.step hb7)
          clear hb7 f H6
          go_wp2_with fail
          refine (HAL.out w7 H7.out.st).mono ?_
          rintro e w8 ⟨rfl, hb8⟩
          have H8 := Lib.hid (H7.out.st.step hb8)
          clear hb8
          go_wp2
          go_ret
          exact ⟨rfl, H8.out.bel⟩
        | some S =>
          have hon := logOn_of HU.out HACY.out hl
          have hli := lin_yes HU.out HIDid.out hl
          have hag := age_yes HU.out HIDid.out HACY.out hl
          rw [HIAid.out] at hli hag
          have HLI := Lib.hid hli
          have HAGT := Lib.hid hag
          have HON := Lib.hid hon
          have hidS : id ∈ S := ((lineL_some hl).1.mem id).2 (.refl _)
          have hpos : 0 < S.length := List.length_pos_of_mem hidS
          have HLS := Lib.hid hl
          clear hli hag hl hon
          have f := H6.out.row0
          go_wp2_with (refine wpList_load_mid rfl 24 _ rfl w.heap.size 0 rfl uid _ f Tryz.underlying24 rfl h32id ?_)
          refine (HLI.out r w6 H6.out.sr).mono ?_
          rintro e w7 ⟨va, rfl, hra, hb7⟩
          have H7 := Lib.hid (H6.out.step hb7)
          obtain ⟨aa, ca, rfl, hma, hca⟩ := hra.open
          unfold maxLen at hma
          obtain ⟨bt, off, rfl, hbl, hcell⟩ := hca (by intro e; rw [e] at hpos; simp at hpos)
          obtain ⟨ni, rfl⟩ : ∃ ni : Nat, i = (ni : Int) := ⟨i.toNat, by omega⟩
          obtain ⟨nk, rfl⟩ : ∃ nk : Nat, k = (nk : Int) := ⟨k.toNat, by omega⟩
          have hmi : ni % S.length < S.length := Nat.mod_lt _ hpos
          have hmk : nk % S.length < S.length := Nat.mod_lt _ hpos
          obtain ⟨x, hx⟩ : ∃ x, S[ni % S.length] = x := ⟨_, rfl⟩
          obtain ⟨y, hy⟩ : ∃ y, S[nk % S.length] = y := ⟨_, rfl⟩
          have fx := hcell _ hmi
          have fy := hcell _ hmk
          rw [hx] at fx
          rw [hy] at fy
          have hxS : x ∈ S := by rw [← hx]; exact List.getElem_mem hmi
          have hyS : y ∈ S := by rw [← hy]; exact List.getElem_mem hmk
          have HSN : Hid (S.length ≤ 1000) := Lib.hid HON.out.len
          have l1 := HON.out.len
          have p0 : (S.length : Int) ≠ 0 := by omega
          have pn : S ≠ [] := by intro e; rw [e] at hpos; simp at hpos
          have hwi : IntKind.i64.wrap (ni : Int) = (ni : Int) := IntWalk.i64_in _ (by omega)
          have hwk : IntKind.i64.wrap (nk : Int) = (nk : Int) := IntWalk.i64_in _ (by omega)
          have p1 : ((S.length : Int) == 0) = false := by rw [beq_eq_false_iff_ne]; omega
          have ei : (ni : Int).tmod (S.length : Int) = ((ni % S.length : Nat) : Int) := (Int.ofNat_tmod _ _).symm
          have ek : (nk : Int).tmod (S.length : Int) = ((nk % S.length : Nat) : Int) := (Int.ofNat_tmod _ _).symm
          clear hb7 f H6 hra hca hcell hx hy
          obtain ⟨mi, hmie⟩ : ∃ mi, ni % S.length = mi := ⟨_, rfl⟩
          obtain ⟨mk, hmke⟩ : ∃ mk, nk % S.length = mk := ⟨_, rfl⟩
          rw [hmie] at ei hmi fx
          rw [hmke] at ek hmk fy
          have h32x := h32_of (us := idC x) (by rw [idC_len, HON.out.l32 x hxS])
          have h32y := h32_of (us := idC y) (by rw [idC_len, HON.out.l32 y hyS])
          have i0 : (0 : Int) ≤ mi := by omega
          have i1 : (mi : Int) < S.length := by omega
          have k0 : (0 : Int) ≤ mk := by omega
          have k1 : (mk : Int) < S.length := by omega
          clear hmie hmke
          obtain ⟨zi, _, _, _, _, _, hzi, hzil⟩ := id_zero
          have HZI := Lib.hid hzil
          have hxc : (idC x).length = 32 := by rw [idC_len, HON.out.l32 x hxS]
          have hyc : (idC y).length = 32 := by rw [idC_len, HON.out.l32 y hyS]
          have HXC := Lib.hid hxc
          have HYC := Lib.hid hyc
          have HXO := Lib.hid (idC_one x)
          have HYO := Lib.hid (idC_one y)
          have h32 : (Tryz.prog.info? 24).map (·.size) = some 32 := by kernel_rfl
          clear hxc hyc hzil
          generalize hix : idC x = ux at fx h32x HXC HXO
          have HIX := Lib.hid hix
          generalize hiy : idC y = uy at fy h32y HYC HYO
          have HIY := Lib.hid hiy
          clear hix hiy
          go_upto_region 9 with fail
          go_cut [12, 13] from 28 to 161 (fun s12 s13 wx => ∃ p q, s12 = .pointer (some ⟨p, 0, none⟩) ∧ s13 = .pointer (some ⟨q, 0, none⟩) ∧ Hid (wx.rangeAt p 0 ux ∧ p < wx.heap.size) ∧ Hid (wx.rangeAt q 0 uy ∧ q < wx.heap.size) ∧ Hid (Below w7.heap.size w7 wx))
          case first =>
            have hS0 : w7.drew.rangeAt bt (off + mi * 32) ux ∧ w7.drew.rangeAt bt (off + mk * 32) uy := ⟨fx, fy⟩
            refine wp_region_L 19 (fun w' => w'.rangeAt bt (off + mi * 32) ux ∧ w'.rangeAt bt (off + mk * 32) uy) (by kernel_rfl) (by kernel_rfl) ?_
            refine WL.take (i := 0) (v := ?_) rfl (by kernel_rfl) (by decide) (by decide +kernel) (by decide +kernel) (fun _ _ _ h => h) rfl ?_ hS0 ?_
            rotate_left
            · (intro w' hSw; (try dsimp only at hSw); go_simp; (try with_reducible rfl))
            simp only [Act.put]; (try simp only [List.getElem_toArray]); (try simp only [List.getElem_cons_succ]); (try simp only [List.getElem_cons_zero]); (try simp only [List.setIfInBounds_toArray]); (try simp only [List.set_cons_succ]); (try simp only [List.set_cons_zero])
            refine WL.take (i := 1) (v := ?_) rfl (by kernel_rfl) (by decide) (by decide +kernel) (by decide +kernel) (fun _ _ _ h => h) rfl ?_ hS0 ?_
            rotate_left
            · (intro w' hSw; (try dsimp only at hSw); go_simp; (try with_reducible rfl))
            simp only [Act.put]; (try simp only [List.getElem_toArray]); (try simp only [List.getElem_cons_succ]); (try simp only [List.getElem_cons_zero]); (try simp only [List.setIfInBounds_toArray]); (try simp only [List.set_cons_succ]); (try simp only [List.set_cons_zero])
            refine WL.take (i := 2) (v := ?_) rfl (by kernel_rfl) (by decide) (by decide +kernel) (by decide +kernel) (fun _ _ _ h => h) rfl ?_ hS0 ?_
            rotate_left
            · (intro w' hSw; (try dsimp only at hSw); go_simp; (try with_reducible rfl))
            simp only [Act.put]; (try simp only [List.getElem_toArray]); (try simp only [List.getElem_cons_succ]); (try simp only [List.getElem_cons_zero]); (try simp only [List.setIfInBounds_toArray]); (try simp only [List.set_cons_succ]); (try simp only [List.set_cons_zero])
            refine WL.take (i := 3) (v := ?_) rfl (by kernel_rfl) (by decide) (by decide +kernel) (by decide +kernel) (fun _ _ _ h => h) rfl ?_ hS0 ?_
            rotate_left
            · (intro w' hSw; (try dsimp only at hSw); go_simp; (try with_reducible rfl))
            simp only [Act.put]; (try simp only [List.getElem_toArray]); (try simp only [List.getElem_cons_succ]); (try simp only [List.getElem_cons_zero]); (try simp only [List.setIfInBounds_toArray]); (try simp only [List.set_cons_succ]); (try simp only [List.set_cons_zero])
            refine WL.take (i := 4) (v := ?_) rfl (by kernel_rfl) (by decide) (by decide +kernel) (by decide +kernel) (fun _ _ _ h => h) rfl ?_ hS0 ?_
            rotate_left
            · (intro w' hSw; (try dsimp only at hSw); go_simp; (try with_reducible rfl))
            simp only [Act.put]; (try simp only [List.getElem_toArray]); (try simp only [List.getElem_cons_succ]); (try simp only [List.getElem_cons_zero]); (try simp only [List.setIfInBounds_toArray]); (try simp only [List.set_cons_succ]); (try simp only [List.set_cons_zero])
            refine WL.take (i := 5) (v := ?_) rfl (by kernel_rfl) (by decide) (by decide +kernel) (by decide +kernel) (fun _ _ _ h => h) rfl ?_ hS0 ?_
            rotate_left
            · (intro w' hSw; (try dsimp only at hSw); go_simp; (try with_reducible rfl))
            simp only [Act.put]; (try simp only [List.getElem_toArray]); (try simp only [List.getElem_cons_succ]); (try simp only [List.getElem_cons_zero]); (try simp only [List.setIfInBounds_toArray]); (try simp only [List.set_cons_succ]); (try simp only [List.set_cons_zero])
            refine WL.take (i := 6) (v := ?_) rfl (by kernel_rfl) (by decide) (by decide +kernel) (by decide +kernel) (fun _ _ _ h => h) rfl ?_ hS0 ?_
            rotate_left
            · (intro w' hSw; (try dsimp only at hSw); go_simp; (try with_reducible rfl))
            simp only [Act.put]; (try simp only [List.getElem_toArray]); (try simp only [List.getElem_cons_succ]); (try simp only [List.getElem_cons_zero]); (try simp only [List.setIfInBounds_toArray]); (try simp only [List.set_cons_succ]); (try simp only [List.set_cons_zero])
            refine WL.take (i := 7) (v := _) rfl (by kernel_rfl) (by decide) (by decide +kernel) (by decide +kernel) (fun _ _ _ h => h) rfl (fun w' hSw => exec_row 24 _ (hSw.1) Tryz.underlying24 rfl h32x _ rfl rfl) hS0 ?_
            simp only [Act.put]; (try simp only [List.getElem_toArray]); (try simp only [List.getElem_cons_succ]); (try simp only [List.getElem_cons_zero]); (try simp only [List.setIfInBounds_toArray]); (try simp only [List.set_cons_succ]); (try simp only [List.set_cons_zero])
            refine WL.take (i := 8) (v := ?_) rfl (by kernel_rfl) (by decide) (by decide +kernel) (by decide +kernel) (fun _ _ _ h => h) rfl ?_ hS0 ?_
            rotate_left
            · (intro w' hSw; (try dsimp only at hSw); go_simp; (try with_reducible rfl))
            simp only [Act.put]; (try simp only [List.getElem_toArray]); (try simp only [List.getElem_cons_succ]); (try simp only [List.getElem_cons_zero]); (try simp only [List.setIfInBounds_toArray]); (try simp only [List.set_cons_succ]); (try simp only [List.set_cons_zero])
            refine WL.take (i := 9) (v := ?_) rfl (by kernel_rfl) (by decide) (by decide +kernel) (by decide +kernel) (fun _ _ _ h => h) rfl ?_ hS0 ?_
            rotate_left
            · (intro w' hSw; (try dsimp only at hSw); go_simp; (try with_reducible rfl))
            simp only [Act.put]; (try simp only [List.getElem_toArray]); (try simp only [List.getElem_cons_succ]); (try simp only [List.getElem_cons_zero]); (try simp only [List.setIfInBounds_toArray]); (try simp only [List.set_cons_succ]); (try simp only [List.set_cons_zero])
            refine WL.take (i := 10) (v := ?_) rfl (by kernel_rfl) (by decide) (by decide +kernel) (by decide +kernel) (fun _ _ _ h => h) rfl ?_ hS0 ?_
            rotate_left
            · (intro w' hSw; (try dsimp only at hSw); go_simp; (try with_reducible rfl))
            simp only [Act.put]; (try simp only [List.getElem_toArray]); (try simp only [List.getElem_cons_succ]); (try simp only [List.getElem_cons_zero]); (try simp only [List.setIfInBounds_toArray]); (try simp only [List.set_cons_succ]); (try simp only [List.set_cons_zero])
            refine WL.take (i := 11) (v := ?_) rfl (by kernel_rfl) (by decide) (by decide +kernel) (by decide +kernel) (fun _ _ _ h => h) rfl ?_ hS0 ?_
            rotate_left
            · (intro w' hSw; (try dsimp only at hSw); go_simp; (try with_reducible rfl))
            simp only [Act.put]; (try simp only [List.getElem_toArray]); (try simp only [List.getElem_cons_succ]); (try simp only [List.getElem_cons_zero]); (try simp only [List.setIfInBounds_toArray]); (try simp only [List.set_cons_succ]); (try simp only [List.set_cons_zero])
            refine WL.take (i := 12) (v := ?_) rfl (by kernel_rfl) (by decide) (by decide +kernel) (by decide +kernel) (fun _ _ _ h => h) rfl ?_ hS0 ?_
            rotate_left
            · (intro w' hSw; (try dsimp only at hSw); go_simp; (try with_reducible rfl))
            simp only [Act.put]; (try simp only [List.getElem_toArray]); (try simp only [List.getElem_cons_succ]); (try simp only [List.getElem_cons_zero]); (try simp only [List.setIfInBounds_toArray]); (try simp only [List.set_cons_succ]); (try simp only [List.set_cons_zero])
            refine WL.take (i := 13) (v := ?_) rfl (by kernel_rfl) (by decide) (by decide +kernel) (by decide +kernel) (fun _ _ _ h => h) rfl ?_ hS0 ?_
            rotate_left
            · (intro w' hSw; (try dsimp only at hSw); go_simp; (try with_reducible rfl))
            simp only [Act.put]; (try simp only [List.getElem_toArray]); (try simp only [List.getElem_cons_succ]); (try simp only [List.getElem_cons_zero]); (try simp only [List.setIfInBounds_toArray]); (try simp only [List.set_cons_succ]); (try simp only [List.set_cons_zero])
            refine WL.take (i := 14) (v := ?_) rfl (by kernel_rfl) (by decide) (by decide +kernel) (by decide +kernel) (fun _ _ _ h => h) rfl ?_ hS0 ?_
            rotate_left
            · (intro w' hSw; (try dsimp only at hSw); go_simp; (try with_reducible rfl))
            simp only [Act.put]; (try simp only [List.getElem_toArray]); (try simp only [List.getElem_cons_succ]); (try simp only [List.getElem_cons_zero]); (try simp only [List.setIfInBounds_toArray]); (try simp only [List.set_cons_succ]); (try simp only [List.set_cons_zero])
            refine WL.take (i := 15) (v := _) rfl (by kernel_rfl) (by decide) (by decide +kernel) (by decide +kernel) (fun _ _ _ h => h) rfl (fun w' hSw => exec_row 24 _ (hSw.2) Tryz.underlying24 rfl h32y _ rfl rfl) hS0 ?_
            simp only [Act.put]; (try simp only [List.getElem_toArray]); (try simp only [List.getElem_cons_succ]); (try simp only [List.getElem_cons_zero]); (try simp only [List.setIfInBounds_toArray]); (try simp only [List.set_cons_succ]); (try simp only [List.set_cons_zero])
            refine WL.two (i := 16) (k := 17) rfl rfl (by decide) (by decide) (by decide +kernel) ?_ ?_
            focus
              go_wp2_with fail
              have b1 : Below w7.heap.size w7 (w7.drew.alloc (.cells zi 24)) := (Below.refl _ _).drew.alloc (Nat.le_refl _) _
              refine ⟨⟨rangeAt_below fx b1 hbl, rangeAt_below fy b1 hbl⟩, ?_⟩
              have hth := there_alloc w7.drew zi 24 HZI.out
              refine WL.one (i := 17) rfl (by decide) (by decide +kernel) ?_
              go_wp2_with fail
              have b2 : Below w7.heap.size w7 ((w7.drew.alloc (.cells zi 24)).alloc (.cells zi 24)) := b1.alloc b1.size _
              refine ⟨⟨rangeAt_below fx b2 hbl, rangeAt_below fy b2 hbl⟩, ?_⟩
              obtain ⟨hp, hq, hb, hs1, hs2⟩ := rows_two (w7 := w7) w7.drew zi HZI.out ux uy HXC.out HYC.out
              have hth1 := there_below hth ((Below.refl _ _).alloc (Nat.le_refl _) (.cells zi 24)) (by simp)
              refine WL.one (i := 18) rfl (by decide) (by decide +kernel) ?_
              refine wpList_store_list rfl 24 _ _ rfl w7.heap.size 0 ux rfl rfl 32 HXC.out hth1 h32 HXO.out ?_
              refine ⟨⟨rangeAt_below fx hs1 hbl, rangeAt_below fy hs1 hbl⟩, ?_⟩
              refine WL.last (n := 19) rfl rfl (by decide +kernel) (by decide +kernel) ?_
              refine wpList_store_list rfl 24 _ _ rfl (w7.heap.size + 1) 0 uy rfl rfl 32 HYC.out hs2 h32 HYO.out ?_
              go_wp2_with fail
              go_meet
              exact ⟨_, _, rfl, rfl, hp, hq, hb⟩
            focus
              go_wp2_with fail
              have b1 : Below w7.heap.size w7 (w7.drew.alloc (.cells zi 24)) := (Below.refl _ _).drew.alloc (Nat.le_refl _) _
              refine ⟨⟨rangeAt_below fx b1 hbl, rangeAt_below fy b1 hbl⟩, ?_⟩
              refine WL.one (i := 16) rfl (by decide) (by decide +kernel) ?_
              go_wp2_with fail
              have b2 : Below w7.heap.size w7 ((w7.drew.alloc (.cells zi 24)).alloc (.cells zi 24)) := b1.alloc b1.size _
              refine ⟨⟨rangeAt_below fx b2 hbl, rangeAt_below fy b2 hbl⟩, ?_⟩
              obtain ⟨hp, hq, hb, hs0, hs1, hs2⟩ := rows_owt (w7 := w7) w7.drew zi HZI.out ux uy HXC.out HYC.out
              refine WL.one (i := 18) rfl (by decide) (by decide +kernel) ?_
              refine wpList_store_list rfl 24 _ _ rfl (w7.heap.size + 1) 0 ux rfl rfl 32 HXC.out hs0 h32 HXO.out ?_
              refine ⟨⟨rangeAt_below fx hs1 hbl, rangeAt_below fy hs1 hbl⟩, ?_⟩
              refine WL.last (n := 19) rfl rfl (by decide +kernel) (by decide +kernel) ?_
              refine wpList_store_list rfl 24 _ _ rfl w7.heap.size 0 uy rfl rfl 32 HYC.out hs2 h32 HYO.out ?_
              go_wp2_with fail
              go_meet
              exact ⟨_, _, rfl, rfl, hp, hq, hb⟩
          case rest =>
            obtain ⟨p, q, rfl, rfl, HP, HQ, HB⟩ := hcut
            have h7c := H7.out.step HB.out
            have HC0 : Hid (HSp w v l r [(w.heap.size, uid), (p, ux), (q, uy)] wc) := Lib.hid ⟨h7c.st, h7c.sr, fun z hz => by
              rcases List.mem_cons.1 hz with rfl | hz
              · exact h7c.rw _ (by simp)
              · rcases List.mem_cons.1 hz with rfl | hz
                · exact HP.out
                · rw [List.mem_singleton.1 hz]; exact HQ.out⟩
            obtain ⟨X, hX⟩ := lineL_sub HLS.out hxS
            obtain ⟨Y, hY⟩ := lineL_sub HLS.out hyS
            have hxl := HON.out.l32 x hxS
            have hyl := HON.out.l32 y hyS
            have hse := old_yes HU.out hxl hxl hX hX
            have hxy := old_yes HU.out hxl hyl hX hY
            have hyt := old_yes HU.out hyl HIDid.out hY HLS.out
            have hxt := old_yes HU.out hxl HIDid.out hX HLS.out
            have hax := age_yes HU.out hxl HACY.out hX
            have hay := age_yes HU.out hyl HACY.out hY
            have F1 : olderL (cmG (getS l)) x y = true → (ageOf (cmG (getS l)) x : Int) < (ageOf (cmG (getS l)) y : Int) := fun h => Int.ofNat_lt.2 (ages_less HACY.out HLS.out HSN.out hyS hY h)
            have F2 : olderL (cmG (getS l)) x id = true → (ageOf (cmG (getS l)) x : Int) < (ageOf (cmG (getS l)) id : Int) := fun h => Int.ofNat_lt.2 (ages_less HACY.out HLS.out HSN.out hidS HLS.out h)
            have F3 : olderL (cmG (getS l)) x y = true → olderL (cmG (getS l)) y id = true → olderL (cmG (getS l)) x id = true := fun h1 h2 => ages_trans HACY.out HLS.out hY h1 h2
            have F4 : (ageOf (cmG (getS l)) id : Int) ≤ (S.length : Int) := Int.ofNat_le.2 (age_le HACY.out HON.out.pars HSN.out hidS)
            have F5 : (1 : Int) ≤ (ageOf (cmG (getS l)) x : Int) := by have := age_pos HACY.out HON.out.pars HSN.out hxS; omega
            rw [ages_self] at hse
            rw [HIX.out] at hse hxy hxt hax
            rw [HIY.out] at hxy hyt hay
            rw [HIAid.out] at hyt hxt
            have HSE := Lib.hid hse
            have HXY := Lib.hid hxy
            have HYT := Lib.hid hyt
            have HXT := Lib.hid hxt
            have HAX := Lib.hid hax
            have HAY := Lib.hid hay
            clear hse hxy hyt hxt hax hay h7c hX hY hxl hyl H7 HP HQ HB fx fy
            generalize olderL (cmG (getS l)) x y = bxy at HXY F1 F3
            generalize olderL (cmG (getS l)) y id = byt at HYT F3
            generalize olderL (cmG (getS l)) x id = bxt at HXT F2 F3
            generalize (ageOf (cmG (getS l)) x : Int) = am at HAX F1 F2 F5
            generalize (ageOf (cmG (getS l)) y : Int) = an at HAY F1
            generalize (ageOf (cmG (getS l)) id : Int) = at' at HAGT F2 F4
            have G1 := Lib.hid F1
            have G2 := Lib.hid F2
            have G3 := Lib.hid F3
            clear F1 F2 F3
            have f0 := HC0.out.rw _ (List.mem_cons_self)
            have f1 := HC0.out.rw _ (List.mem_cons_of_mem _ List.mem_cons_self)
            have f2 := HC0.out.rw _ (List.mem_cons_of_mem _ (List.mem_cons_of_mem _ List.mem_cons_self))
            go_wp2_with (first
              | (refine wpList_load_mid rfl 24 _ rfl w.heap.size 0 rfl uid _ f0.1 Tryz.underlying24 rfl h32id ?_)
              | (refine wpList_load_mid rfl 24 _ rfl p 0 rfl ux _ f1.1 Tryz.underlying24 rfl h32x ?_)
              | (refine wpList_load_mid rfl 24 _ rfl q 0 rfl uy _ f2.1 Tryz.underlying24 rfl h32y ?_))
            refine (HSE.out r wc HC0.out.sr).mono ?_
            rintro e wc1 ⟨rfl, hb1⟩
            have HC1 := Lib.hid (HC0.out.step hb1)
            clear hb1 f0 f1 f2 HC0
            have f0 := HC1.out.rw _ (List.mem_cons_self)
            have f1 := HC1.out.rw _ (List.mem_cons_of_mem _ List.mem_cons_self)
            have f2 := HC1.out.rw _ (List.mem_cons_of_mem _ (List.mem_cons_of_mem _ List.mem_cons_self))
            go_wp2_with (first
              | (refine wpList_load_mid rfl 24 _ rfl w.heap.size 0 rfl uid _ f0.1 Tryz.underlying24 rfl h32id ?_)
              | (refine wpList_load_mid rfl 24 _ rfl p 0 rfl ux _ f1.1 Tryz.underlying24 rfl h32x ?_)
              | (refine wpList_load_mid rfl 24 _ rfl q 0 rfl uy _ f2.1 Tryz.underlying24 rfl h32y ?_))
            refine (HXY.out r wc1 HC1.out.sr).mono ?_
            rintro e wc2 ⟨rfl, hb2⟩
            have HC2 := Lib.hid (HC1.out.step hb2)
            clear hb2 f0 f1 f2 HC1
            have f0 := HC2.out.rw _ (List.mem_cons_self)
            have f1 := HC2.out.rw _ (List.mem_cons_of_mem _ List.mem_cons_self)
            have f2 := HC2.out.rw _ (List.mem_cons_of_mem _ (List.mem_cons_of_mem _ List.mem_cons_self))
            go_wp2_with (first
              | (refine wpList_load_mid rfl 24 _ rfl w.heap.size 0 rfl uid _ f0.1 Tryz.underlying24 rfl h32id ?_)
              | (refine wpList_load_mid rfl 24 _ rfl p 0 rfl ux _ f1.1 Tryz.underlying24 rfl h32x ?_)
              | (refine wpList_load_mid rfl 24 _ rfl q 0 rfl uy _ f2.1 Tryz.underlying24 rfl h32y ?_))
            refine (HYT.out r wc2 HC2.out.sr).mono ?_
            rintro e wc3 ⟨rfl, hb3⟩
            have HC3 := Lib.hid (HC2.out.step hb3)
            clear hb3 f0 f1 f2 HC2
            have f0 := HC3.out.rw _ (List.mem_cons_self)
            have f1 := HC3.out.rw _ (List.mem_cons_of_mem _ List.mem_cons_self)
            have f2 := HC3.out.rw _ (List.mem_cons_of_mem _ (List.mem_cons_of_mem _ List.mem_cons_self))
            go_wp2_with (first
              | (refine wpList_load_mid rfl 24 _ rfl w.heap.size 0 rfl uid _ f0.1 Tryz.underlying24 rfl h32id ?_)
              | (refine wpList_load_mid rfl 24 _ rfl p 0 rfl ux _ f1.1 Tryz.underlying24 rfl h32x ?_)
              | (refine wpList_load_mid rfl 24 _ rfl q 0 rfl uy _ f2.1 Tryz.underlying24 rfl h32y ?_))
            refine (HXT.out r wc3 HC3.out.sr).mono ?_
            rintro e wc4 ⟨rfl, hb4⟩
            have HC4 := Lib.hid (HC3.out.step hb4)
            clear hb4 f0 f1 f2 HC3
            have f0 := HC4.out.rw _ (List.mem_cons_self)
            have f1 := HC4.out.rw _ (List.mem_cons_of_mem _ List.mem_cons_self)
            have f2 := HC4.out.rw _ (List.mem_cons_of_mem _ (List.mem_cons_of_mem _ List.mem_cons_self))
            go_wp2_with (first
              | (refine wpList_load_mid rfl 24 _ rfl w.heap.size 0 rfl uid _ f0.1 Tryz.underlying24 rfl h32id ?_)
              | (refine wpList_load_mid rfl 24 _ rfl p 0 rfl ux _ f1.1 Tryz.underlying24 rfl h32x ?_)
              | (refine wpList_load_mid rfl 24 _ rfl q 0 rfl uy _ f2.1 Tryz.underlying24 rfl h32y ?_))
            refine (HAX.out r wc4 HC4.out.sr).mono ?_
            rintro e wc5 ⟨rfl, hb5⟩
            have HC5 := Lib.hid (HC4.out.step hb5)
            clear hb5 f0 f1 f2 HC4
            have f0 := HC5.out.rw _ (List.mem_cons_self)
            have f1 := HC5.out.rw _ (List.mem_cons_of_mem _ List.mem_cons_self)
            have f2 := HC5.out.rw _ (List.mem_cons_of_mem _ (List.mem_cons_of_mem _ List.mem_cons_self))
            go_wp2_with (first
              | (refine wpList_load_mid rfl 24 _ rfl w.heap.size 0 rfl uid _ f0.1 Tryz.underlying24 rfl h32id ?_)
              | (refine wpList_load_mid rfl 24 _ rfl p 0 rfl ux _ f1.1 Tryz.underlying24 rfl h32x ?_)
              | (refine wpList_load_mid rfl 24 _ rfl q 0 rfl uy _ f2.1 Tryz.underlying24 rfl h32y ?_))
            refine (HAY.out r wc5 HC5.out.sr).mono ?_
            rintro e wc6 ⟨rfl, hb6⟩
            have HC6 := Lib.hid (HC5.out.step hb6)
            clear hb6 f0 f1 f2 HC5
            have f0 := HC6.out.rw _ (List.mem_cons_self)
            have f1 := HC6.out.rw _ (List.mem_cons_of_mem _ List.mem_cons_self)
            have f2 := HC6.out.rw _ (List.mem_cons_of_mem _ (List.mem_cons_of_mem _ List.mem_cons_self))
            go_wp2_with (first
              | (refine wpList_load_mid rfl 24 _ rfl w.heap.size 0 rfl uid _ f0.1 Tryz.underlying24 rfl h32id ?_)
              | (refine wpList_load_mid rfl 24 _ rfl p 0 rfl ux _ f1.1 Tryz.underlying24 rfl h32x ?_)
              | (refine wpList_load_mid rfl 24 _ rfl q 0 rfl uy _ f2.1 Tryz.underlying24 rfl h32y ?_))
            refine (HAGT.out r wc6 HC6.out.sr).mono ?_
            rintro e wc7 ⟨rfl, hb7⟩
            have HC7 := Lib.hid (HC6.out.step hb7)
            clear hb7 f0 f1 f2 HC6
            have G4 := Lib.hid F4
            clear G4
            cases bxy with
            | false =>
              cases bxt with
              | false =>
                have e1 : decide (at' ≤ (S.length : Int)) = true := decide_eq_true F4
                have e2 : decide ((1 : Int) ≤ am) = true := decide_eq_true F5
                go_wp2_with fail
                refine (HAL.out wc7 HC7.out.st).mono ?_
                rintro e w9 ⟨rfl, hb9⟩
                have H9 := Lib.hid (HC7.out.st.step hb9)
                clear hb9
                go_wp2
                go_ret
                exact ⟨rfl, H9.out.bel⟩
              | true =>
                have h1 := G2.out rfl
                have e3 : decide (at' ≤ am) = false := decide_eq_false (by omega)
                have e4 : ¬ at' ≤ am := by omega
                have e1 : decide (at' ≤ (S.length : Int)) = true := decide_eq_true F4
                have e2 : decide ((1 : Int) ≤ am) = true := decide_eq_true F5
                go_wp2_with fail
                refine (HAL.out wc7 HC7.out.st).mono ?_
                rintro e w9 ⟨rfl, hb9⟩
                have H9 := Lib.hid (HC7.out.st.step hb9)
                clear hb9
                go_wp2
                go_ret
                exact ⟨rfl, H9.out.bel⟩
            | true =>
              have h0 := G1.out rfl
              have e5 : decide (an ≤ am) = false := decide_eq_false (by omega)
              have e6 : ¬ an ≤ am := by omega
              cases bxt with
              | false =>
                cases byt with
                | true => exact absurd (G3.out rfl rfl) (by decide)
                | false =>
                  have e1 : decide (at' ≤ (S.length : Int)) = true := decide_eq_true F4
                  have e2 : decide ((1 : Int) ≤ am) = true := decide_eq_true F5
                  go_wp2_with fail
                  refine (HAL.out wc7 HC7.out.st).mono ?_
                  rintro e w9 ⟨rfl, hb9⟩
                  have H9 := Lib.hid (HC7.out.st.step hb9)
                  clear hb9
                  go_wp2
                  go_ret
                  exact ⟨rfl, H9.out.bel⟩
              | true =>
                have h1 := G2.out rfl
                have e3 : decide (at' ≤ am) = false := decide_eq_false (by omega)
                have e4 : ¬ at' ≤ am := by omega
                cases byt with
                | true =>
                  have e1 : decide (at' ≤ (S.length : Int)) = true := decide_eq_true F4
                  have e2 : decide ((1 : Int) ≤ am) = true := decide_eq_true F5
                  go_wp2_with fail
                  refine (HAL.out wc7 HC7.out.st).mono ?_
                  rintro e w9 ⟨rfl, hb9⟩
                  have H9 := Lib.hid (HC7.out.st.step hb9)
                  clear hb9
                  go_wp2
                  go_ret
                  exact ⟨rfl, H9.out.bel⟩
                | false =>
                  have e1 : decide (at' ≤ (S.length : Int)) = true := decide_eq_true F4
                  have e2 : decide ((1 : Int) ≤ am) = true := decide_eq_true F5
                  go_wp2_with fail
                  refine (HAL.out wc7 HC7.out.st).mono ?_
                  rintro e w9 ⟨rfl, hb9⟩
                  have H9 := Lib.hid (HC7.out.st.step hb9)
                  clear hb9
                  go_wp2
                  go_ret
                  exact ⟨rfl, H9.out.bel⟩
end Go.Proofs.YtbmiiiccnoiffaaGreatDoor
