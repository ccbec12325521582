/- Walks: whether a commit may be (the program's). -/
import Derived.Test.YtbmiiiccnoiffaaGreatDoorV7
import Derived.Test.YtbmiiiccnoiffaaGreatDoorJF
import Derived.Test.YtbmiiiccnoiffaaGreatDoorShelf2
namespace Go.Proofs.YtbmiiiccnoiffaaGreatDoor
open Go.RowKit Go.Shelf Go.Lib

abbrev Id32 := {x : List UInt8 // x.length = 32}
instance : Inhabited Id32 := ⟨⟨List.replicate 32 0, by simp⟩⟩
theorem eqId32 : EqlAt Tryz.prog 24 (fun x : Id32 => .agg (idC x.1).toArray) (fun x y => x.1 == y.1) := by
  refine ⟨fun x y w => ?_, GuardAt.agg _ (by kernel_rfl)⟩
  rw [run_eql_struct, id_eqIn x.1 y.1 x.2 y.2 w]
  rfl
theorem contains_id (b off n c : Nat) (l : List (List UInt8)) (x : List UInt8) (w : World) (hn : n ≤ l.length) (hb : n ≤ 1000000) (hl : ∀ y ∈ l, y.length = 32) (hx : x.length = 32) (hc : ∀ k (hk : k < l.length), w.rangeAt b (off + k * 32) (idC l[k])) :
    Calls Tryz.prog 140 #[.slice (some ⟨b, off, none⟩) n c, .agg (idC x).toArray] w fun e w' => e = .returned (.bool (decide (x ∈ l.take n))) ∧ Below w.heap.size w w' := by
  have hz : (l.pmap (fun y h => (⟨y, h⟩ : Id32)) hl).length = l.length := List.length_pmap
  have H := AnyQ.slices_Contains (α := Id32) Tryz.containsQ 32 Tryz.isAgg24 Tryz.sizeOf24 (fun y => idC y.1) (fun y => by rw [idC_len, y.2]) (fun x y => x.1 == y.1) eqId32 b off n c (l.pmap (fun y h => (⟨y, h⟩ : Id32)) hl) ⟨x, hx⟩ w (by rw [hz]; exact hn) (by omega) (fun j hj i v hi => by
    rw [hz] at hj
    have hj' : j < (l.pmap (fun y h => (⟨y, h⟩ : Id32)) hl).length := by rw [hz]; exact hj
    rw [getElem!_pos (l.pmap (fun y h => (⟨y, h⟩ : Id32)) hl) j hj', List.getElem_pmap] at hi
    exact hc j hj i v hi)
  refine H.mono ?_
  rintro e w' ⟨rfl, hb'⟩
  refine ⟨?_, hb'⟩
  congr 2
  rw [Bool.eq_iff_iff]
  simp only [List.any_eq_true, decide_eq_true_eq, beq_iff_eq]
  constructor
  · rintro ⟨y, hy, rfl⟩
    have := List.mem_map_of_mem (f := Subtype.val) hy
    rw [List.map_take, List.map_pmap] at this
    simpa using this
  · intro h
    have hxl : x ∈ l := List.mem_of_mem_take h
    refine ⟨⟨x, hx⟩, ?_, rfl⟩
    obtain ⟨i, hi, e⟩ := List.getElem_of_mem h
    rw [List.getElem_take] at e
    have hi' : i < n ∧ i < l.length := by rw [List.length_take] at hi; omega
    rw [List.mem_iff_getElem]
    refine ⟨i, by rw [List.length_take, hz]; omega, ?_⟩
    rw [List.getElem_take, List.getElem_pmap]
    exact Subtype.ext e

/-- A slice's length is within its capacity. -/
def CapI (v : Value) : Prop := ∀ ao n c, v = .slice ao n c → n ≤ c

set_option maxRecDepth 100000 in
set_option maxHeartbeats 2000000 in
theorem ocommit_any (t : List UInt8) (v : Value) (l : List (List UInt8)) (x : ByteArray) (w : World) (hv : IdRow w v l) (ht : t.length = 32) (hl : ∀ y ∈ l, y.length = 32) (hn : l.length ≤ 1000) (hcap : CapI v) :
    Calls Tryz.prog 98 #[.agg (cmC t v x).toArray] w fun e w' => e = .returned (.bool (commitOk (t, l, x))) ∧ Below w.heap.size w w' := by
  obtain ⟨ao, cap, rfl, hmax, hv⟩ := hv.open
  unfold maxLen at hmax
  have hcp := hcap _ _ _ rfl
  clear hcap
  have HV := Lib.hid hv
  have HL := Lib.hid hl
  have hA := cmF_arr w ht (.slice ao l.length cap) x 97
  have hb0 : Below w.heap.size w (w.alloc (.cells (cmC t (.slice ao l.length cap) x).toArray 97)) := (Below.refl _ _).alloc (Nat.le_refl _) _
  have HB0 := Lib.hid hb0
  have hp : Hid ((w.alloc (.cells (cmC t (.slice ao l.length cap) x).toArray 97)).cell? ⟨w.heap.size, 32, none⟩ = some (.slice ao l.length cap)) := by
    unfold Hid; rw [hA.cell 32 (by omega), cmF_32 ht]
  have hx : Hid ((w.alloc (.cells (cmC t (.slice ao l.length cap) x).toArray 97)).cell? ⟨w.heap.size, 33, none⟩ = some (.string x)) := by
    unfold Hid; rw [hA.cell 33 (by omega), cmF_33 ht]
  have hszW : w.heap.size < (w.alloc (.cells (cmC t (.slice ao l.length cap) x).toArray 97)).heap.size := by simp
  have e32 : (cmC t (.slice ao l.length cap) x)[32]? = some (.slice ao l.length cap) := by
    have := hp.out; rw [World.cell?_alloc_new] at this; simpa using this
  have e33 : (cmC t (.slice ao l.length cap) x)[33]? = some (.string x) := by
    have := hx.out; rw [World.cell?_alloc_new] at this; simpa using this
  obtain ⟨zi, i0, hi, hz0, hz1, hz2, hziv, hzil⟩ := id_zero
  have HZI := Lib.hid hzil
  have HC : Hid (commitOk (t, l, x) = (decide l.Nodup && decide (l.length ≤ 4 ∧ x.size ≤ 64))) := Lib.hid rfl
  obtain ⟨cs, hcs⟩ : ∃ cs, cs = cmC t (.slice ao l.length cap) x := ⟨_, rfl⟩
  rw [← hcs] at hp hx HB0 hszW e32 e33 ⊢
  clear hcs hv hl hA hb0 hzil hz0 hz2
  go_enter Tryz.func98, Tryz.ntmps98
  go_wp2_with fail
  obtain ⟨W, hW⟩ : ∃ W, W = w.alloc (.cells cs.toArray 97) := ⟨_, rfl⟩
  rw [← hW] at hp hx HB0 hszW ⊢
  clear hW e32 e33
  go_loopw [8] (fun i wr => ∃ k : Nat, k ≤ l.length ∧ i = .int .i64 k ∧ Hid ((l.take k).Nodup) ∧ Below W.heap.size W wr) (fun i _ => (l.length - intOf i).toNat)
  case atStart => exact ⟨0, by omega, rfl, Lib.hid (show (List.take 0 l).Nodup by simp), Below.refl _ _⟩
  case round =>
    obtain ⟨wo, rfl⟩ : ∃ wo : World, wo = wr := ⟨_, rfl⟩
    obtain ⟨k, hk, rfl, hnd, hb⟩ := hrel
    have p1 := below_load hp.out hb hszW
    have x1 := below_load hx.out hb hszW
    have hwo : w.heap.size < wo.heap.size := by have := hb.size; omega
    by_cases hlt : k < l.length
    · obtain ⟨b, off, rfl, hbl, hcell⟩ := HV.out (by intro e; rw [e] at hlt; simp at hlt)
      have HBW := Lib.hid (HB0.out.trans (hb.mono HB0.out.size))
      have hbo : b < wo.heap.size := by omega
      have f1 := rangeAt_below (hcell k hlt) HBW.out hbl
      have hkl : l[k].length = 32 := HL.out _ (List.getElem_mem hlt)
      have hcl : (idC l[k]).length = 32 := by rw [idC_len, hkl]
      have h32 : (Tryz.prog.info? 24).map (·.size) = some (idC l[k]).length := by rw [hcl]; kernel_rfl
      have h32' : (Tryz.prog.info? 24).map (·.size) = some 32 := by kernel_rfl
      have hth : (wo.alloc (.cells zi 24)).there wo.heap.size 0 32 := by
        have := (Arr.ofList wo zi.toList 24).there
        rw [Array.length_toList, HZI.out] at this
        exact this
      have hr3 := World.rangeAt_setCells_same (wo.alloc (.cells zi 24)) wo.heap.size 0 (idC l[k]) (by rw [hcl]; exact hth)
      have hB3 := below_setCells (B := wo.heap.size) (a := wo) wo.heap.size (Nat.le_refl _) (idC l[k]) 0 _ ((Below.refl _ _).alloc (Nat.le_refl _) (.cells zi 24))
      have HCT := Lib.hid (fun V (hbV : Below w.heap.size w V) => contains_id b off k cap l l[k] V (by omega) (by omega) HL.out hkl (fun j hj => rangeAt_below (hcell j hj) hbV hbl))
      have hone := idC_one l[k]
      have HND : Hid (l[k] ∉ l.take k → (l.take (k + 1)).Nodup) := Lib.hid (fun hni => take_nodup hlt hnd.out (fun j hj e => hni (by rw [← e]; exact List.mem_take_iff_getElem.2 ⟨j, by omega, rfl⟩)))
      have HNN : Hid (l[k] ∈ l.take k → ¬ l.Nodup) := Lib.hid (fun hi => by
        obtain ⟨j, hj, e⟩ := List.mem_take_iff_getElem.1 hi
        exact not_nodup (by omega) hlt e)
      generalize l[k] = z at f1 hkl hcl h32 hr3 hB3 HCT hone HND HNN
      have k0 : (0 : Int) ≤ k := by omega
      have k1 : (k : Int) < l.length := by omega
      have k2 : (k : Int) ≤ cap := by omega
      have k3 : k ≤ cap := by omega
      have HTH := Lib.hid hth
      have HCL := Lib.hid hcl
      have HON := Lib.hid hone
      have F1 := Lib.hid f1
      have HR3 := Lib.hid hr3
      have HB3 := Lib.hid hB3
      clear hth hcl hone f1 hr3 hB3 hcell hkl
      obtain ⟨W3, hW3⟩ : ∃ W3, (wo.alloc (.cells zi 24)).setCells wo.heap.size 0 (idC z) = W3 := ⟨_, rfl⟩
      rw [hW3] at HR3 HB3
      have hsz3 := HB3.out.size
      have hsz4 : wo.heap.size < W3.heap.size := World.block_lt_of_cell? W3 ⟨wo.heap.size, 0, none⟩ (HR3.out 0 ((idC z)[0]'(by rw [HCL.out]; omega)) (by simp))
      have p3 := below_load p1 HB3.out hwo
      have HBW3 := Lib.hid (HBW.out.trans (HB3.out.mono HBW.out.size))
      have HQ := Lib.hid (fun y : BW W3.heap.size W3 => HCT.out y.out (HBW3.out.trans (y.hb.mono HBW3.out.size)))
      have HW3 := Lib.hid hW3
      have hr3 := HR3.out
      clear hW3 HCT p1
      by_cases hin : z ∈ l.take k
      · have HR : Hid (commitOk (t, l, x) = false) := by unfold Hid; rw [HC.out, decide_eq_false (HNN.out hin)]; rfl
        rw [decide_eq_true hin] at HQ
        clear hin HND HNN
        generalize hus : idC z = us at h32 HTH HCL HON F1 HW3 HQ hr3
        clear hus HR3
        go_wp2_with (first | (refine wpList_load_mid rfl 24 _ rfl b (off + k * 32) rfl us _ F1.out Tryz.underlying24 rfl h32 ?_) | (refine wpList_store_list rfl 24 _ _ rfl wo.heap.size 0 us rfl rfl 32 HCL.out HTH.out h32' HON.out ?_))
        simp only [Act.put]
        rw [HW3.out]
        refine wp_region_bq (by kernel_rfl) (by kernel_rfl) ?_
        have LQ0 := fun x : BW (World.heap W3).size W3 => below_load p3 x.hb (by omega)
        repeat (go_big_quiet_step ((go_at_call 140; with_reducible exact calls_bw (HQ.out _))))
        refine bq_row 24 _ _ rfl rfl rfl hr3 (by omega) Tryz.underlying24 rfl h32 ?_
        simp only [Act.put, List.setIfInBounds_toArray, List.set_cons_zero, List.set_cons_succ]
        repeat (go_big_quiet_step ((go_at_call 140; with_reducible exact calls_bw (HQ.out _))))
        refine wpQuiet_nil ?_
        intro wq hbq
        clear LQ0
        have HBF := Lib.hid (HBW3.out.trans (hbq.mono HBW3.out.size))
        clear hbq p3 hr3
        go_wp2
        go_ret
        exact ⟨ret_bool HR.out.symm, HBF.out⟩
      · have HN2 := Lib.hid (HND.out hin)
        rw [decide_eq_false hin] at HQ
        clear hin HND HNN
        generalize hus : idC z = us at h32 HTH HCL HON F1 HW3 HQ hr3
        clear hus HR3
        go_wp2_with (first | (refine wpList_load_mid rfl 24 _ rfl b (off + k * 32) rfl us _ F1.out Tryz.underlying24 rfl h32 ?_) | (refine wpList_store_list rfl 24 _ _ rfl wo.heap.size 0 us rfl rfl 32 HCL.out HTH.out h32' HON.out ?_))
        simp only [Act.put]
        rw [HW3.out]
        refine wp_region_bq (by kernel_rfl) (by kernel_rfl) ?_
        have LQ0 := fun x : BW (World.heap W3).size W3 => below_load p3 x.hb (by omega)
        repeat (go_big_quiet_step ((go_at_call 140; with_reducible exact calls_bw (HQ.out _))))
        refine bq_row 24 _ _ rfl rfl rfl hr3 (by omega) Tryz.underlying24 rfl h32 ?_
        simp only [Act.put, List.setIfInBounds_toArray, List.set_cons_zero, List.set_cons_succ]
        repeat (go_big_quiet_step ((go_at_call 140; with_reducible exact calls_bw (HQ.out _))))
        refine wpQuiet_nil ?_
        intro wq hbq
        clear LQ0
        have HBF := Lib.hid (hb.trans ((HB3.out.trans (hbq.mono HB3.out.size)).mono hb.size))
        clear hbq p3 hr3
        go_wp2
        go_roundw
        case rel => exact ⟨k + 1, by omega, by go_num, HN2, HBF.out⟩
        case measure => simp [intOf]; omega
    · obtain rfl : k = l.length := by omega
      rw [List.take_length] at hnd
      have HBF := Lib.hid (HB0.out.trans (hb.mono HB0.out.size))
      have HC2 : Hid (commitOk (t, l, x) = decide (l.length ≤ 4 ∧ x.size ≤ 64)) := by unfold Hid; rw [HC.out, decide_eq_true hnd.out, Bool.true_and]
      clear hb HB0 hnd
      by_cases h4 : l.length ≤ 4
      · have d4 : decide ((l.length : Int) ≤ 4) = true := decide_eq_true (by omega)
        by_cases h64 : x.size ≤ 64
        · have d5 : decide ((x.size : Int) ≤ 64) = true := decide_eq_true (by omega)
          have HR : Hid (commitOk (t, l, x) = true) := by unfold Hid; rw [HC2.out]; exact decide_eq_true ⟨h4, h64⟩
          clear h4 h64
          go_wp2
          go_ret
          exact ⟨ret_bool HR.out.symm, HBF.out⟩
        · have d5 : decide ((x.size : Int) ≤ 64) = false := decide_eq_false (by omega)
          have HR : Hid (commitOk (t, l, x) = false) := by unfold Hid; rw [HC2.out]; exact decide_eq_false (fun h => h64 h.2)
          clear h4 h64
          go_wp2
          go_ret
          exact ⟨ret_bool HR.out.symm, HBF.out⟩
      · have d4 : decide ((l.length : Int) ≤ 4) = false := decide_eq_false (by omega)
        have HR : Hid (commitOk (t, l, x) = false) := by unfold Hid; rw [HC2.out]; exact decide_eq_false (fun h => h4 h.1)
        clear h4
        go_wp2
        go_ret
        exact ⟨ret_bool HR.out.symm, HBF.out⟩
end Go.Proofs.YtbmiiiccnoiffaaGreatDoor
