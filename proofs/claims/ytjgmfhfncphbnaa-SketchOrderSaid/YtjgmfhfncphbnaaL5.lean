/- The walk of the law SketchOrder. -/
import Derived.Test.YtjgmfhfncphbnaaL4
import Derived.Test.YtjgmfhfncphbnaaHw
namespace Go.Proofs.Ytjgmfhfncphbnaa
open Go.RowKit Fl

theorem neq_self (F : Nat → Int) (hF : Bd F) (w : World) : (binOp .neq 28 (skv F) (skv F)).run Try.prog w = .ok (.bool false) w := by
  have h := eq_sk F F hF hF w
  unfold skv at h ⊢
  rw [run_eql_struct] at h
  rw [run_neq_struct]
  generalize (Op.equalIn 10000 28 _ _).run Try.prog w = r at h ⊢
  cases r with
  | ok b w' => simp at h ⊢; exact h
  | halt x w' => simp [Result.andThen] at h

theorem strRow_d (w : World) (s : ByteArray) (t : TypeId) : StrRow (w.alloc (.cells #[.string s] t)).drew (.slice (some ⟨w.heap.size, 0, none⟩) 1 1) [s] := strRow_one w.drew s t

theorem eqGuard_sk (x y : Operand) (F G : Nat → Int) (w : World) : (eqGuard .neq 28 x y (skv F) (skv G)).run Try.prog w = .ok () w := by
  unfold skv
  go_simp

/-- The order's j-th place. -/
def rr (fs : List (Nat → Int)) (j : Nat) : Nat := (ordS fs).getD j 0
theorem rr_eq (fs : List (Nat → Int)) (j : Nat) (h : j < (ordS fs).length) : rr fs j = (ordS fs)[j] := by
  unfold rr; rw [List.getD_eq_getElem?_getD, List.getElem?_eq_getElem h]; rfl
theorem good_rr (fs : List (Nat → Int)) (i : Nat) (hi : i < fs.length) : rr fs i < fs.length ∧ (i = 0 → rr fs i = 0) ∧ (∀ k, i < k → k < fs.length → rr fs k ≠ rr fs i) ∧
    (0 < i → ∀ k, i < k → k < fs.length → far (fat fs (rr fs (i - 1))) (fat fs (rr fs i)) ≤ far (fat fs (rr fs (i - 1))) (fat fs (rr fs k))) := by
  obtain ⟨hg, hl⟩ := good_ord fs
  have hi' : i < (ordS fs).length := by omega
  obtain ⟨g1, g2, g3, g4⟩ := hg i hi'
  rw [rr_eq fs i hi']
  refine ⟨g1, g2, fun k hk hkl e => ?_, fun h0 k hk hkl => ?_⟩
  · have hk' : k < (ordS fs).length := by omega
    obtain ⟨_, _, q3, _⟩ := hg k hk'
    rw [rr_eq fs k hk'] at e
    rw [e] at q3
    exact q3 (List.mem_take_iff_getElem.2 ⟨i, by omega, rfl⟩)
  · have hk' : k < (ordS fs).length := by omega
    obtain ⟨q1, _, q3, _⟩ := hg k hk'
    rw [rr_eq fs k hk']
    refine g4 h0 _ q1 (fun hm => q3 ?_)
    obtain ⟨j, hj, e⟩ := List.mem_take_iff_getElem.1 hm
    exact List.mem_take_iff_getElem.2 ⟨j, by omega, e⟩

set_option maxRecDepth 100000 in
set_option maxHeartbeats 8000000 in
theorem sketchOrder_walk (v : Value) (ss : List ByteArray) (w : World) (hv : StrRow w v ss) :
    Calls Try.prog 6 #[v] w fun e w' => e = .returned (.bool true) ∧ Below w.heap.size w w' := by
  have st : St w v ss w := ⟨hv, Below.refl _ _⟩
  clear hv
  cases hg : grt ss
  · obtain ⟨h1, h2⟩ := grt_no hg
    have hfs : ∀ g ∈ ss.map skOf, Bd g := fun g hgm => by
      obtain ⟨x, hx, rfl⟩ := List.mem_map.1 hgm
      exact skOf_bd x (by have := h2 x hx; omega)
    have hss : ∀ x ∈ ss, x.size ≤ 16777216 := fun x hx => by have := h2 x hx; omega
    have HFS := Lib.hid hfs
    have HSS := Lib.hid hss
    clear h2 hfs hss
    obtain ⟨ao, cap, rfl, hmax, hrow⟩ := st.row
    unfold maxLen at hmax
    have HROW := Lib.hid hrow
    clear hrow
    have hgood := good_ord (ss.map skOf)
    rw [List.length_map] at hgood
    obtain ⟨hgd, hgl⟩ := hgood
    have hfl : (ss.map skOf).length ≤ 1000000 := by rw [List.length_map]; omega
    have HG := Lib.hid hgd
    have HGL := Lib.hid hgl
    have HFL := Lib.hid hfl
    clear hgd hgl hfl
    go_enter Try.func6, Try.ntmps6
    go_wp2_with (first | (go_at_call 8; refine (alive_any _).mono ?_; rintro e w1 ⟨rfl, hb⟩; have st := St.step (by assumption) hb) | (go_at_call 9; refine (great_any _ ss _ (St.row (by assumption))).mono ?_; rintro e w1 ⟨rfl, rfl⟩) | (go_at_call 14; refine (sketches_any _ ss _ (by omega) HSS.out (St.row (by assumption))).mono ?_; rintro e w3 ⟨a, b, rfl, hra, hrb, hb3⟩) | (go_at_call 20; refine (order_any a (ss.map skOf) _ HFS.out HFL.out hra).mono ?_; rintro e w4 ⟨ov, rfl, hov, hb4⟩; have hraw := hra.below hb4; obtain ⟨aoo, co, hoveq, hovm, hovc⟩ := hov; rw [List.length_map, HGL.out] at hoveq; subst hoveq))
    have st4 := (st.step hb3).step hb4
    have hbw4 := st4.bel
    obtain ⟨aoa, ca, rfl⟩ := hraw.form ss.length (by simp)
    generalize hfs : ss.map skOf = fs at HFS HG HGL HFL hraw hovm hovc hra hrb
    have hfn : fs.length = ss.length := by rw [← hfs]; simp
    have HFN := Lib.hid hfn
    have HFE := Lib.hid hfs
    have HOVC := Lib.hid hovc
    have HRAW := Lib.hid hraw
    have HST4 := Lib.hid st4
    clear hfs hfn hovc hovm hraw st4 hra hrb hb3 hb4
    go_loopw [6] (fun i wr => ∃ k : Nat, k ≤ ss.length ∧ i = .int .i64 k ∧ Below w4.heap.size w4 wr) (fun i _ => (ss.length - intOf i).toNat)
    case atStart => exact ⟨0, by omega, rfl, Below.refl _ _⟩
    case round =>
      obtain ⟨k, hk, rfl, hbr⟩ := hrel
      have hszr := hbr.size
      by_cases hlt : k < ss.length
      · have hne : ss ≠ [] := by intro e; rw [e] at hlt; simp at hlt
        obtain ⟨bo, oo, rfl, hlo4, hco⟩ := HOVC.out (by intro e; rw [List.map_eq_nil_iff] at e; have := HGL.out; rw [e] at this; simp at this; omega)
        obtain ⟨xa, ya, hxa, _, hca⟩ := HRAW.out
        obtain ⟨ba, oa, hao, hla4, hrowa⟩ := hca (by intro e; rw [List.map_eq_nil_iff] at e; have := HFN.out; rw [e] at this; simp at this; omega)
        injection hxa with ea1 ea2 ea3
        subst ea1 ea3 hao
        obtain ⟨xl, yl, hxl0, _, hcl⟩ := HST4.out.row
        obtain ⟨bl, ol, hlo0, hll4, hrowl⟩ := hcl hne
        injection hxl0 with el1 el2 el3
        subst el1 el3 hlo0
        have HO : Hid (∀ j, j < ss.length → w4.cell? ⟨bo, oo + j, none⟩ = some (.int .i64 (rr fs j : Nat))) := fun j hj => by
          have hj' : j < (ordS fs).length := by rw [HGL.out]; exact hj
          rw [rr_eq fs j hj']
          have h := hco j (by simpa using hj')
          rw [List.getElem_map] at h
          exact h
        have HA : Hid (∀ x, x < ss.length → w4.rangeAt ba (oa + x * 4) (skl (fat fs x))) := fun x hx => by
          have hx' : x < fs.length := by rw [HFN.out]; exact hx
          rw [fat_eq fs x hx']
          have h := hrowa x (by simpa using hx')
          rw [List.getElem_map] at h
          exact h
        have HL : Hid (∀ x (h : x < ss.length), w4.cell? ⟨bl, ol + x, none⟩ = some (.string ss[x]) ∧ skOf ss[x] = fat fs x) := fun x hx => by
          refine ⟨hrowl x hx, ?_⟩
          have hx' : x < fs.length := by rw [HFN.out]; exact hx
          rw [fat_eq fs x hx']
          have := HFE.out
          subst this
          rw [List.getElem_map]
        have HBD : Hid (∀ x, x < ss.length → Bd (fat fs x)) := fun x hx => by
          have hx' : x < fs.length := by rw [HFN.out]; exact hx
          rw [fat_eq fs x hx']; exact HFS.out _ (List.getElem_mem hx')
        have hgr := good_rr fs k (by rw [HFN.out]; exact hlt)
        rw [HFN.out] at hgr
        clear hco hca hrowa hcl hrowl ea2 el2
        have HR : Hid (rr fs k = rr fs k) := rfl
        generalize hx : rr fs k = x at hgr
        obtain ⟨hxl, hx0, hxd, hxn⟩ := hgr
        have HX := Lib.hid hx
        have HXD := Lib.hid hxd
        have HXN := Lib.hid hxn
        clear hxd hxn hx HR
        have hxs := HSS.out ss[x] (List.getElem_mem hxl)
        obtain ⟨hLc, hLe⟩ := HL.out x hxl
        have hG := HBD.out x hxl
        have o1 : wr.cell? ⟨bo, oo + k, none⟩ = some (.int .i64 (x : Nat)) := by
          rw [hbr.cell (p := ⟨bo, oo + k, none⟩) hlo4, ← HX.out]; exact HO.out k hlt
        have o2 : wr.cell? ⟨bl, ol + x, none⟩ = some (.string ss[x]) := by rw [hbr.cell (p := ⟨bl, ol + x, none⟩) hll4]; exact hLc
        have o3 := Lib.hid (rangeAt_below (HA.out x hxl) hbr hla4)
        have hloW : bo < wr.heap.size := by omega
        have hllW : bl < wr.heap.size := by omega
        have hlaW : ba < wr.heap.size := by omega
        have p1 := of_row1 ss[x] hxs
        rw [hLe] at p1
        have P1 := Lib.hid p1
        have hnq := fun w => neq_self (fat fs x) hG w
        have HLE := Lib.hid hLe
        clear p1 hLc hLe
        generalize hT : ss[x] = T at o2 P1
        generalize hGG : fat fs x = G at o3 P1 hnq
        have HGG := Lib.hid hGG
        clear hT hGG hxs hG
        have l0 : (0 : Int) ≤ k := by omega
        have l1 : (k : Int) < ss.length := by omega
        have l2 : (0 : Int) ≤ x := by omega
        have l3 : (x : Int) < ss.length := by omega
        have hx1 : decide ((x : Int) < 0) = false := by simp
        have hx2 : ¬ ss.length ≤ x := by omega
        by_cases hk0 : k = 0
        · have hz1 : ((k : Int) == 0) = true := by rw [hk0]; rfl
          have hz1b : (k == 0) = true := by rw [hk0]; rfl
          have hz2 : ((x : Int) != 0) = false := by rw [hx0 hk0]; rfl
          have hz2b : (x != 0) = false := by rw [hx0 hk0]; rfl
          have HKZ := Lib.hid hk0
          clear hk0
          clear hx0
          go_wp2
          refine wp_region_noPanic ?_
          refine wp_region_hw 40 (Below wr.heap.size wr) (by kernel_rfl) (by kernel_rfl) (fun _ _ _ _ _ h => h) ((Below.refl _ _).drew) ?_
          simp only [List.take_succ_cons, List.take_zero]
          refine HW.val rfl (fun w hw => by go_simp; rfl) ?_
          simp only [Act.put, List.setIfInBounds_toArray, List.set_cons_zero, List.set_cons_succ]
          refine HW.val rfl (fun w hw => by go_simp; rfl) ?_
          simp only [Act.put, List.setIfInBounds_toArray, List.set_cons_zero, List.set_cons_succ]
          refine HW.val rfl (fun w hw => by go_simp; rfl) ?_
          simp only [Act.put, List.setIfInBounds_toArray, List.set_cons_zero, List.set_cons_succ]
          refine HW.val rfl (fun w hw => by have := below_load o1 hw hloW; go_simp; rfl) ?_
          simp only [Act.put, List.setIfInBounds_toArray, List.set_cons_zero, List.set_cons_succ]
          refine HW.val rfl (fun w hw => by go_simp; rfl) ?_
          simp only [Act.put, List.setIfInBounds_toArray, List.set_cons_zero, List.set_cons_succ]
          refine HW.val rfl (fun w hw => by go_simp; rfl) ?_
          simp only [Act.put, List.setIfInBounds_toArray, List.set_cons_zero, List.set_cons_succ]
          refine HW.val rfl (fun w hw => by go_simp; rfl) ?_
          simp only [Act.put, List.setIfInBounds_toArray, List.set_cons_zero, List.set_cons_succ]
          refine HW.val rfl (fun w hw => by go_simp; rfl) ?_
          simp only [Act.put, List.setIfInBounds_toArray, List.set_cons_zero, List.set_cons_succ]
          refine HW.val rfl (fun w hw => by go_simp; rfl) ?_
          simp only [Act.put, List.setIfInBounds_toArray, List.set_cons_zero, List.set_cons_succ]
          refine HW.val rfl (fun w hw => by have := below_load o1 hw hloW; go_simp; rfl) ?_
          simp only [Act.put, List.setIfInBounds_toArray, List.set_cons_zero, List.set_cons_succ]
          refine HW.val rfl (fun w hw => by go_simp; rfl) ?_
          simp only [Act.put, List.setIfInBounds_toArray, List.set_cons_zero, List.set_cons_succ]
          refine HW.val rfl (fun w hw => by go_simp; rfl) ?_
          simp only [Act.put, List.setIfInBounds_toArray, List.set_cons_zero, List.set_cons_succ]
          refine HW.val rfl (fun w hw => by go_simp; rfl) ?_
          simp only [Act.put, List.setIfInBounds_toArray, List.set_cons_zero, List.set_cons_succ]
          refine HW.val rfl (fun w hw => by go_simp; rfl) ?_
          simp only [Act.put, List.setIfInBounds_toArray, List.set_cons_zero, List.set_cons_succ]
          refine HW.val rfl (fun w hw => by go_simp; rfl) ?_
          simp only [Act.put, List.setIfInBounds_toArray, List.set_cons_zero, List.set_cons_succ]
          refine HW.val rfl (fun w hw => by go_simp; rfl) ?_
          simp only [Act.put, List.setIfInBounds_toArray, List.set_cons_zero, List.set_cons_succ]
          refine HW.val rfl (fun w hw => by go_simp; rfl) ?_
          simp only [Act.put, List.setIfInBounds_toArray, List.set_cons_zero, List.set_cons_succ]
          refine HW.val rfl (fun w hw => by go_simp; rfl) ?_
          simp only [Act.put, List.setIfInBounds_toArray, List.set_cons_zero, List.set_cons_succ]
          refine HW.val rfl (fun w hw => by go_simp; rfl) ?_
          simp only [Act.put, List.setIfInBounds_toArray, List.set_cons_zero, List.set_cons_succ]
          refine HW.val rfl (fun w hw => by go_simp; rfl) ?_
          simp only [Act.put, List.setIfInBounds_toArray, List.set_cons_zero, List.set_cons_succ]
          refine HW.val rfl (fun w hw => by go_simp; rfl) ?_
          simp only [Act.put, List.setIfInBounds_toArray, List.set_cons_zero, List.set_cons_succ]
          refine HW.val rfl (fun w hw => by have := below_load o1 hw hloW; go_simp; rfl) ?_
          simp only [Act.put, List.setIfInBounds_toArray, List.set_cons_zero, List.set_cons_succ]
          refine HW.val rfl (fun w hw => by go_simp; rfl) ?_
          simp only [Act.put, List.setIfInBounds_toArray, List.set_cons_zero, List.set_cons_succ]
          refine HW.val rfl (fun w hw => by go_simp; rfl) ?_
          simp only [Act.put, List.setIfInBounds_toArray, List.set_cons_zero, List.set_cons_succ]
          refine HW.val rfl (fun w hw => by go_simp; rfl) ?_
          simp only [Act.put, List.setIfInBounds_toArray, List.set_cons_zero, List.set_cons_succ]
          refine HW.val rfl (fun w hw => by go_simp; rfl) ?_
          simp only [Act.put, List.setIfInBounds_toArray, List.set_cons_zero, List.set_cons_succ]
          refine HW.val rfl (fun w hw => by go_simp; rfl) ?_
          simp only [Act.put, List.setIfInBounds_toArray, List.set_cons_zero, List.set_cons_succ]
          refine HW.val rfl (fun w hw => by go_simp; rfl) ?_
          simp only [Act.put, List.setIfInBounds_toArray, List.set_cons_zero, List.set_cons_succ]
          refine HW.val rfl (fun w hw => by go_simp; rfl) ?_
          simp only [Act.put, List.setIfInBounds_toArray, List.set_cons_zero, List.set_cons_succ]
          refine HW.val rfl (fun w hw => by go_simp; rfl) ?_
          simp only [Act.put, List.setIfInBounds_toArray, List.set_cons_zero, List.set_cons_succ]
          refine HW.val rfl (fun w hw => by have := below_load o1 hw hloW; go_simp; rfl) ?_
          simp only [Act.put, List.setIfInBounds_toArray, List.set_cons_zero, List.set_cons_succ]
          refine HW.val rfl (fun w hw => by go_simp; rfl) ?_
          simp only [Act.put, List.setIfInBounds_toArray, List.set_cons_zero, List.set_cons_succ]
          refine HW.val (v := skv G) rfl (fun w hw => exec_load_row 28 _ o3.out hlaW Try.underlying28 rfl (by kernel_rfl) hw _ rfl rfl) ?_
          simp only [Act.put, List.setIfInBounds_toArray, List.set_cons_zero, List.set_cons_succ]
          refine HW.val rfl (fun w hw => by go_simp; rfl) ?_
          simp only [Act.put, List.setIfInBounds_toArray, List.set_cons_zero, List.set_cons_succ]
          refine HW.val rfl (fun w hw => by go_simp; rfl) ?_
          simp only [Act.put, List.setIfInBounds_toArray, List.set_cons_zero, List.set_cons_succ]
          refine HW.val rfl (fun w hw => by go_simp; rfl) ?_
          simp only [Act.put, List.setIfInBounds_toArray, List.set_cons_zero, List.set_cons_succ]
          refine HW.val rfl (fun w hw => by go_simp; rfl) ?_
          simp only [Act.put, List.setIfInBounds_toArray, List.set_cons_zero, List.set_cons_succ]
          refine HW.val rfl (fun w hw => by have := below_load o1 hw hloW; go_simp; rfl) ?_
          simp only [Act.put, List.setIfInBounds_toArray, List.set_cons_zero, List.set_cons_succ]
          refine HW.val rfl (fun w hw => by go_simp; rfl) ?_
          simp only [Act.put, List.setIfInBounds_toArray, List.set_cons_zero, List.set_cons_succ]
          refine HW.val rfl (fun w hw => by have := below_load o2 hw hllW; go_simp; rfl) ?_
          simp only [Act.put, List.setIfInBounds_toArray, List.set_cons_zero, List.set_cons_succ]
          refine HW.nil ?_
          refine wpAnyH_ready (rs := [40]) (by kernel_rfl) (by simp) (AllReadyH.cons rfl (fun K hK => ?_) AllReadyH.nil)
          go_simp
          refine hK.out _ _ (((Below.refl _ _).drew).alloc (Nat.le_refl _) _) (fun _ => ?_)
          clear hK K
          try simp only [Act.put, List.setIfInBounds_toArray, List.set_cons_zero, List.set_cons_succ]
          refine wpAnyH_ready (rs := [41]) (by kernel_rfl) (by simp) (AllReadyH.cons rfl (fun K hK => ?_) AllReadyH.nil)
          go_simp
          go_at_call 11
          refine (P1.out _ _ (strRow_d _ _ _)).mono ?_
          rintro e wA ⟨rfl, hb2⟩
          refine hK.out _ _ (((Below.refl _ _).alloc (Nat.le_refl _) _).drew.trans (hb2.mono (by simp))) (fun _ => ?_)
          clear hK K
          try simp only [Act.put, List.setIfInBounds_toArray, List.set_cons_zero, List.set_cons_succ]
          refine wpAnyH_ready (rs := [42]) (by kernel_rfl) (by simp) (AllReadyH.cons rfl (fun K hK => ?_) AllReadyH.nil)
          go_simp
          rw [eqGuard_sk]
          simp only [Result.andThen_ok, Oper.upon]
          refine hK.out _ _ (((Below.refl _ _).alloc (Nat.le_refl _) _).drew.trans (hb2.mono (by simp))) (fun _ => ?_)
          clear hK K
          try simp only [Act.put, List.setIfInBounds_toArray, List.set_cons_zero, List.set_cons_succ]
          refine wpAnyH_ready (rs := [43]) (by kernel_rfl) (by simp) (AllReadyH.cons rfl (fun K hK => ?_) AllReadyH.nil)
          go_simp
          refine hK.out _ _ (((Below.refl _ _).alloc (Nat.le_refl _) _).drew.trans (hb2.mono (by simp))) (fun _ => ?_)
          clear hK K
          try simp only [Act.put, List.setIfInBounds_toArray, List.set_cons_zero, List.set_cons_succ]
          refine wpAnyH_done (by kernel_rfl) ?_ _
          refine NoPanic.normal ?_
          go_wp2
          have hbA : Below w4.heap.size w4 wA := hbr.trans ((((Below.refl _ _).alloc (Nat.le_refl _) _).drew.trans (hb2.mono (by simp))).mono hszr)
          clear P1 hnq hb2 o1 o2 o3
          obtain ⟨wo, rfl⟩ : ∃ wo : World, wo = wr := ⟨_, rfl⟩
          go_loopw [7] (fun i wr => ∃ m : Nat, k + 1 ≤ m ∧ m ≤ ss.length ∧ i = .int .i64 m ∧ Below w4.heap.size w4 wr) (fun i _ => (ss.length - intOf i).toNat)
          case atStart => exact ⟨k + 1, Nat.le_refl _, by omega, by go_num, hbA⟩
          case round =>
            obtain ⟨m, hkm, hm, rfl, hbr2⟩ := hrel
            by_cases hm2 : m < ss.length
            · have hgm := good_rr fs m (by rw [HFN.out]; exact hm2)
              rw [HFN.out] at hgm
              have hxy := HXD.out m (by omega) hm2
              have hnn := HXN.out
              generalize hy : rr fs m = y at hgm hxy
              have hyl := hgm.1
              have HY := Lib.hid hy
              clear hgm hy
              have l0 : (0 : Int) ≤ m := by omega
              have l1 : (m : Int) < ss.length := by omega
              have l2 : (0 : Int) ≤ k := by omega
              have l3 : (k : Int) < ss.length := by omega
              have l4 : (0 : Int) ≤ y := by omega
              have l5 : (y : Int) < ss.length := by omega
              have l6 : (0 : Int) ≤ x := by omega
              have l7 : (x : Int) < ss.length := by omega
              have hyx : ((y : Int) == (x : Int)) = false := by rw [beq_eq_false_iff_ne]; omega
              have hyx2 : (y == x) = false := by rw [beq_eq_false_iff_ne]; omega
              have cm : wr.cell? ⟨bo, oo + m, none⟩ = some (.int .i64 (y : Nat)) := by rw [hbr2.cell (p := ⟨bo, oo + m, none⟩) hlo4, ← HY.out]; exact HO.out m hm2
              have ck : wr.cell? ⟨bo, oo + k, none⟩ = some (.int .i64 (x : Nat)) := by rw [hbr2.cell (p := ⟨bo, oo + k, none⟩) hlo4, ← HX.out]; exact HO.out k hlt
              have hlo : bo < wr.heap.size := by have := hbr2.size; omega
              have hla : ba < wr.heap.size := by have := hbr2.size; omega
              have RY := Lib.hid (rangeAt_below (HA.out y hyl) hbr2 hla4)
              have RX := Lib.hid (rangeAt_below (HA.out x hxl) hbr2 hla4)
              have by_ := HBD.out y hyl
              have bx := HBD.out x hxl
              have hszr := hbr2.size
              have hz3 : decide (0 < k) = false := by rw [HKZ.out]; rfl
              clear hnn
              go_wp2
              refine wp_region_below wr.heap.size (by kernel_rfl) (by kernel_rfl) ?_
              refine WQ.val rfl (fun w hw => by go_simp; rfl) ?_
              simp only [Act.put, List.setIfInBounds_toArray, List.set_cons_zero, List.set_cons_succ]
              refine WQ.val rfl (fun w hw => by go_simp; rfl) ?_
              simp only [Act.put, List.setIfInBounds_toArray, List.set_cons_zero, List.set_cons_succ]
              refine WQ.val rfl (fun w hw => by go_simp; rfl) ?_
              simp only [Act.put, List.setIfInBounds_toArray, List.set_cons_zero, List.set_cons_succ]
              refine WQ.val rfl (fun w hw => by have := below_load cm hw hlo; go_simp; rfl) ?_
              simp only [Act.put, List.setIfInBounds_toArray, List.set_cons_zero, List.set_cons_succ]
              refine WQ.val rfl (fun w hw => by go_simp; rfl) ?_
              simp only [Act.put, List.setIfInBounds_toArray, List.set_cons_zero, List.set_cons_succ]
              refine WQ.val rfl (fun w hw => by go_simp; rfl) ?_
              simp only [Act.put, List.setIfInBounds_toArray, List.set_cons_zero, List.set_cons_succ]
              refine WQ.val rfl (fun w hw => by go_simp; rfl) ?_
              simp only [Act.put, List.setIfInBounds_toArray, List.set_cons_zero, List.set_cons_succ]
              refine WQ.val rfl (fun w hw => by have := below_load ck hw hlo; go_simp; rfl) ?_
              simp only [Act.put, List.setIfInBounds_toArray, List.set_cons_zero, List.set_cons_succ]
              refine WQ.val rfl (fun w hw => by go_simp; rfl) ?_
              simp only [Act.put, List.setIfInBounds_toArray, List.set_cons_zero, List.set_cons_succ]
              refine WQ.val rfl (fun w hw => by go_simp; rfl) ?_
              simp only [Act.put, List.setIfInBounds_toArray, List.set_cons_zero, List.set_cons_succ]
              refine WQ.val rfl (fun w hw => by go_simp; rfl) ?_
              simp only [Act.put, List.setIfInBounds_toArray, List.set_cons_zero, List.set_cons_succ]
              refine WQ.val rfl (fun w hw => by go_simp; rfl) ?_
              simp only [Act.put, List.setIfInBounds_toArray, List.set_cons_zero, List.set_cons_succ]
              refine WQ.val rfl (fun w hw => by go_simp; rfl) ?_
              simp only [Act.put, List.setIfInBounds_toArray, List.set_cons_zero, List.set_cons_succ]
              refine WQ.off rfl ?_
              simp only [Act.put, List.setIfInBounds_toArray, List.set_cons_zero, List.set_cons_succ]
              refine WQ.off rfl ?_
              simp only [Act.put, List.setIfInBounds_toArray, List.set_cons_zero, List.set_cons_succ]
              refine WQ.off rfl ?_
              simp only [Act.put, List.setIfInBounds_toArray, List.set_cons_zero, List.set_cons_succ]
              refine WQ.off rfl ?_
              simp only [Act.put, List.setIfInBounds_toArray, List.set_cons_zero, List.set_cons_succ]
              refine WQ.off rfl ?_
              simp only [Act.put, List.setIfInBounds_toArray, List.set_cons_zero, List.set_cons_succ]
              refine WQ.off rfl ?_
              simp only [Act.put, List.setIfInBounds_toArray, List.set_cons_zero, List.set_cons_succ]
              refine WQ.off rfl ?_
              simp only [Act.put, List.setIfInBounds_toArray, List.set_cons_zero, List.set_cons_succ]
              refine WQ.off rfl ?_
              simp only [Act.put, List.setIfInBounds_toArray, List.set_cons_zero, List.set_cons_succ]
              refine WQ.off rfl ?_
              simp only [Act.put, List.setIfInBounds_toArray, List.set_cons_zero, List.set_cons_succ]
              refine WQ.off rfl ?_
              simp only [Act.put, List.setIfInBounds_toArray, List.set_cons_zero, List.set_cons_succ]
              refine WQ.off rfl ?_
              simp only [Act.put, List.setIfInBounds_toArray, List.set_cons_zero, List.set_cons_succ]
              refine WQ.off rfl ?_
              simp only [Act.put, List.setIfInBounds_toArray, List.set_cons_zero, List.set_cons_succ]
              refine WQ.off rfl ?_
              simp only [Act.put, List.setIfInBounds_toArray, List.set_cons_zero, List.set_cons_succ]
              refine WQ.off rfl ?_
              simp only [Act.put, List.setIfInBounds_toArray, List.set_cons_zero, List.set_cons_succ]
              refine WQ.off rfl ?_
              simp only [Act.put, List.setIfInBounds_toArray, List.set_cons_zero, List.set_cons_succ]
              refine WQ.off rfl ?_
              simp only [Act.put, List.setIfInBounds_toArray, List.set_cons_zero, List.set_cons_succ]
              refine WQ.off rfl ?_
              simp only [Act.put, List.setIfInBounds_toArray, List.set_cons_zero, List.set_cons_succ]
              refine WQ.off rfl ?_
              simp only [Act.put, List.setIfInBounds_toArray, List.set_cons_zero, List.set_cons_succ]
              refine WQ.off rfl ?_
              simp only [Act.put, List.setIfInBounds_toArray, List.set_cons_zero, List.set_cons_succ]
              refine WQ.off rfl ?_
              simp only [Act.put, List.setIfInBounds_toArray, List.set_cons_zero, List.set_cons_succ]
              refine WQ.off rfl ?_
              simp only [Act.put, List.setIfInBounds_toArray, List.set_cons_zero, List.set_cons_succ]
              refine WQ.off rfl ?_
              simp only [Act.put, List.setIfInBounds_toArray, List.set_cons_zero, List.set_cons_succ]
              refine WQ.off rfl ?_
              simp only [Act.put, List.setIfInBounds_toArray, List.set_cons_zero, List.set_cons_succ]
              refine WQ.off rfl ?_
              simp only [Act.put, List.setIfInBounds_toArray, List.set_cons_zero, List.set_cons_succ]
              refine WQ.off rfl ?_
              simp only [Act.put, List.setIfInBounds_toArray, List.set_cons_zero, List.set_cons_succ]
              refine WQ.off rfl ?_
              simp only [Act.put, List.setIfInBounds_toArray, List.set_cons_zero, List.set_cons_succ]
              refine WQ.off rfl ?_
              simp only [Act.put, List.setIfInBounds_toArray, List.set_cons_zero, List.set_cons_succ]
              refine WQ.off rfl ?_
              simp only [Act.put, List.setIfInBounds_toArray, List.set_cons_zero, List.set_cons_succ]
              refine WQ.off rfl ?_
              simp only [Act.put, List.setIfInBounds_toArray, List.set_cons_zero, List.set_cons_succ]
              refine WQ.off rfl ?_
              simp only [Act.put, List.setIfInBounds_toArray, List.set_cons_zero, List.set_cons_succ]
              refine WQ.off rfl ?_
              simp only [Act.put, List.setIfInBounds_toArray, List.set_cons_zero, List.set_cons_succ]
              refine WQ.off rfl ?_
              simp only [Act.put, List.setIfInBounds_toArray, List.set_cons_zero, List.set_cons_succ]
              refine WQ.off rfl ?_
              simp only [Act.put, List.setIfInBounds_toArray, List.set_cons_zero, List.set_cons_succ]
              refine WQ.val rfl (fun w hw => by go_simp; rfl) ?_
              simp only [Act.put, List.setIfInBounds_toArray, List.set_cons_zero, List.set_cons_succ]
              refine WQ.val rfl (fun w hw => by go_simp; rfl) ?_
              simp only [Act.put, List.setIfInBounds_toArray, List.set_cons_zero, List.set_cons_succ]
              refine WQ.nil ?_
              intro wn hbn
              go_wp2
              go_roundw
              case rel => exact ⟨m + 1, by omega, by omega, by go_num, hbr2.trans (hbn.mono hbr2.size)⟩
              case measure => simp [intOf]; omega
            · obtain rfl : m = ss.length := by omega
              go_wp2
              go_roundw
              case rel => exact ⟨k + 1, by omega, by go_num, hbr2⟩
              case measure => simp [intOf]; omega
        · have hz1 : ((k : Int) == 0) = false := by rw [beq_eq_false_iff_ne]; omega
          have hz1b : (k == 0) = false := by rw [beq_eq_false_iff_ne]; omega
          clear hx0
          go_wp2
          refine wp_region_noPanic ?_
          refine wp_region_hw 40 (Below wr.heap.size wr) (by kernel_rfl) (by kernel_rfl) (fun _ _ _ _ _ h => h) ((Below.refl _ _).drew) ?_
          simp only [List.take_succ_cons, List.take_zero]
          refine HW.val rfl (fun w hw => by go_simp; rfl) ?_
          simp only [Act.put, List.setIfInBounds_toArray, List.set_cons_zero, List.set_cons_succ]
          refine HW.val rfl (fun w hw => by go_simp; rfl) ?_
          simp only [Act.put, List.setIfInBounds_toArray, List.set_cons_zero, List.set_cons_succ]
          refine HW.val rfl (fun w hw => by go_simp; rfl) ?_
          simp only [Act.put, List.setIfInBounds_toArray, List.set_cons_zero, List.set_cons_succ]
          refine HW.val rfl (fun w hw => by have := below_load o1 hw hloW; go_simp; rfl) ?_
          simp only [Act.put, List.setIfInBounds_toArray, List.set_cons_zero, List.set_cons_succ]
          refine HW.val rfl (fun w hw => by go_simp; rfl) ?_
          simp only [Act.put, List.setIfInBounds_toArray, List.set_cons_zero, List.set_cons_succ]
          refine HW.val rfl (fun w hw => by go_simp; rfl) ?_
          simp only [Act.put, List.setIfInBounds_toArray, List.set_cons_zero, List.set_cons_succ]
          refine HW.val rfl (fun w hw => by go_simp; rfl) ?_
          simp only [Act.put, List.setIfInBounds_toArray, List.set_cons_zero, List.set_cons_succ]
          refine HW.val rfl (fun w hw => by go_simp; rfl) ?_
          simp only [Act.put, List.setIfInBounds_toArray, List.set_cons_zero, List.set_cons_succ]
          refine HW.val rfl (fun w hw => by go_simp; rfl) ?_
          simp only [Act.put, List.setIfInBounds_toArray, List.set_cons_zero, List.set_cons_succ]
          refine HW.val rfl (fun w hw => by have := below_load o1 hw hloW; go_simp; rfl) ?_
          simp only [Act.put, List.setIfInBounds_toArray, List.set_cons_zero, List.set_cons_succ]
          refine HW.val rfl (fun w hw => by go_simp; rfl) ?_
          simp only [Act.put, List.setIfInBounds_toArray, List.set_cons_zero, List.set_cons_succ]
          refine HW.val rfl (fun w hw => by go_simp; rfl) ?_
          simp only [Act.put, List.setIfInBounds_toArray, List.set_cons_zero, List.set_cons_succ]
          refine HW.val rfl (fun w hw => by go_simp; rfl) ?_
          simp only [Act.put, List.setIfInBounds_toArray, List.set_cons_zero, List.set_cons_succ]
          refine HW.val rfl (fun w hw => by go_simp; rfl) ?_
          simp only [Act.put, List.setIfInBounds_toArray, List.set_cons_zero, List.set_cons_succ]
          refine HW.val rfl (fun w hw => by go_simp; rfl) ?_
          simp only [Act.put, List.setIfInBounds_toArray, List.set_cons_zero, List.set_cons_succ]
          refine HW.val rfl (fun w hw => by go_simp; rfl) ?_
          simp only [Act.put, List.setIfInBounds_toArray, List.set_cons_zero, List.set_cons_succ]
          refine HW.val rfl (fun w hw => by go_simp; rfl) ?_
          simp only [Act.put, List.setIfInBounds_toArray, List.set_cons_zero, List.set_cons_succ]
          refine HW.val rfl (fun w hw => by go_simp; rfl) ?_
          simp only [Act.put, List.setIfInBounds_toArray, List.set_cons_zero, List.set_cons_succ]
          refine HW.off rfl ?_
          simp only [Act.put, List.setIfInBounds_toArray, List.set_cons_zero, List.set_cons_succ]
          refine HW.off rfl ?_
          simp only [Act.put, List.setIfInBounds_toArray, List.set_cons_zero, List.set_cons_succ]
          refine HW.off rfl ?_
          simp only [Act.put, List.setIfInBounds_toArray, List.set_cons_zero, List.set_cons_succ]
          refine HW.off rfl ?_
          simp only [Act.put, List.setIfInBounds_toArray, List.set_cons_zero, List.set_cons_succ]
          refine HW.off rfl ?_
          simp only [Act.put, List.setIfInBounds_toArray, List.set_cons_zero, List.set_cons_succ]
          refine HW.val rfl (fun w hw => by go_simp; rfl) ?_
          simp only [Act.put, List.setIfInBounds_toArray, List.set_cons_zero, List.set_cons_succ]
          refine HW.val rfl (fun w hw => by go_simp; rfl) ?_
          simp only [Act.put, List.setIfInBounds_toArray, List.set_cons_zero, List.set_cons_succ]
          refine HW.val rfl (fun w hw => by go_simp; rfl) ?_
          simp only [Act.put, List.setIfInBounds_toArray, List.set_cons_zero, List.set_cons_succ]
          refine HW.val rfl (fun w hw => by go_simp; rfl) ?_
          simp only [Act.put, List.setIfInBounds_toArray, List.set_cons_zero, List.set_cons_succ]
          refine HW.val rfl (fun w hw => by go_simp; rfl) ?_
          simp only [Act.put, List.setIfInBounds_toArray, List.set_cons_zero, List.set_cons_succ]
          refine HW.val rfl (fun w hw => by go_simp; rfl) ?_
          simp only [Act.put, List.setIfInBounds_toArray, List.set_cons_zero, List.set_cons_succ]
          refine HW.val rfl (fun w hw => by go_simp; rfl) ?_
          simp only [Act.put, List.setIfInBounds_toArray, List.set_cons_zero, List.set_cons_succ]
          refine HW.val rfl (fun w hw => by have := below_load o1 hw hloW; go_simp; rfl) ?_
          simp only [Act.put, List.setIfInBounds_toArray, List.set_cons_zero, List.set_cons_succ]
          refine HW.val rfl (fun w hw => by go_simp; rfl) ?_
          simp only [Act.put, List.setIfInBounds_toArray, List.set_cons_zero, List.set_cons_succ]
          refine HW.val (v := skv G) rfl (fun w hw => exec_load_row 28 _ o3.out hlaW Try.underlying28 rfl (by kernel_rfl) hw _ rfl rfl) ?_
          simp only [Act.put, List.setIfInBounds_toArray, List.set_cons_zero, List.set_cons_succ]
          refine HW.val rfl (fun w hw => by go_simp; rfl) ?_
          simp only [Act.put, List.setIfInBounds_toArray, List.set_cons_zero, List.set_cons_succ]
          refine HW.val rfl (fun w hw => by go_simp; rfl) ?_
          simp only [Act.put, List.setIfInBounds_toArray, List.set_cons_zero, List.set_cons_succ]
          refine HW.val rfl (fun w hw => by go_simp; rfl) ?_
          simp only [Act.put, List.setIfInBounds_toArray, List.set_cons_zero, List.set_cons_succ]
          refine HW.val rfl (fun w hw => by go_simp; rfl) ?_
          simp only [Act.put, List.setIfInBounds_toArray, List.set_cons_zero, List.set_cons_succ]
          refine HW.val rfl (fun w hw => by have := below_load o1 hw hloW; go_simp; rfl) ?_
          simp only [Act.put, List.setIfInBounds_toArray, List.set_cons_zero, List.set_cons_succ]
          refine HW.val rfl (fun w hw => by go_simp; rfl) ?_
          simp only [Act.put, List.setIfInBounds_toArray, List.set_cons_zero, List.set_cons_succ]
          refine HW.val rfl (fun w hw => by have := below_load o2 hw hllW; go_simp; rfl) ?_
          simp only [Act.put, List.setIfInBounds_toArray, List.set_cons_zero, List.set_cons_succ]
          refine HW.nil ?_
          refine wpAnyH_ready (rs := [40]) (by kernel_rfl) (by simp) (AllReadyH.cons rfl (fun K hK => ?_) AllReadyH.nil)
          go_simp
          refine hK.out _ _ (((Below.refl _ _).drew).alloc (Nat.le_refl _) _) (fun _ => ?_)
          clear hK K
          try simp only [Act.put, List.setIfInBounds_toArray, List.set_cons_zero, List.set_cons_succ]
          refine wpAnyH_ready (rs := [41]) (by kernel_rfl) (by simp) (AllReadyH.cons rfl (fun K hK => ?_) AllReadyH.nil)
          go_simp
          go_at_call 11
          refine (P1.out _ _ (strRow_d _ _ _)).mono ?_
          rintro e wA ⟨rfl, hb2⟩
          refine hK.out _ _ (((Below.refl _ _).alloc (Nat.le_refl _) _).drew.trans (hb2.mono (by simp))) (fun _ => ?_)
          clear hK K
          try simp only [Act.put, List.setIfInBounds_toArray, List.set_cons_zero, List.set_cons_succ]
          refine wpAnyH_ready (rs := [42]) (by kernel_rfl) (by simp) (AllReadyH.cons rfl (fun K hK => ?_) AllReadyH.nil)
          go_simp
          rw [eqGuard_sk]
          simp only [Result.andThen_ok, Oper.upon]
          refine hK.out _ _ (((Below.refl _ _).alloc (Nat.le_refl _) _).drew.trans (hb2.mono (by simp))) (fun _ => ?_)
          clear hK K
          try simp only [Act.put, List.setIfInBounds_toArray, List.set_cons_zero, List.set_cons_succ]
          refine wpAnyH_ready (rs := [43]) (by kernel_rfl) (by simp) (AllReadyH.cons rfl (fun K hK => ?_) AllReadyH.nil)
          go_simp
          refine hK.out _ _ (((Below.refl _ _).alloc (Nat.le_refl _) _).drew.trans (hb2.mono (by simp))) (fun _ => ?_)
          clear hK K
          try simp only [Act.put, List.setIfInBounds_toArray, List.set_cons_zero, List.set_cons_succ]
          refine wpAnyH_done (by kernel_rfl) ?_ _
          refine NoPanic.normal ?_
          go_wp2
          have hbA : Below w4.heap.size w4 wA := hbr.trans ((((Below.refl _ _).alloc (Nat.le_refl _) _).drew.trans (hb2.mono (by simp))).mono hszr)
          clear P1 hnq hb2 o1 o2 o3
          obtain ⟨wo, rfl⟩ : ∃ wo : World, wo = wr := ⟨_, rfl⟩
          go_loopw [7] (fun i wr => ∃ m : Nat, k + 1 ≤ m ∧ m ≤ ss.length ∧ i = .int .i64 m ∧ Below w4.heap.size w4 wr) (fun i _ => (ss.length - intOf i).toNat)
          case atStart => exact ⟨k + 1, Nat.le_refl _, by omega, by go_num, hbA⟩
          case round =>
            obtain ⟨m, hkm, hm, rfl, hbr2⟩ := hrel
            by_cases hm2 : m < ss.length
            · have hgm := good_rr fs m (by rw [HFN.out]; exact hm2)
              rw [HFN.out] at hgm
              have hxy := HXD.out m (by omega) hm2
              have hnn := HXN.out
              generalize hy : rr fs m = y at hgm hxy
              have hyl := hgm.1
              have HY := Lib.hid hy
              clear hgm hy
              have l0 : (0 : Int) ≤ m := by omega
              have l1 : (m : Int) < ss.length := by omega
              have l2 : (0 : Int) ≤ k := by omega
              have l3 : (k : Int) < ss.length := by omega
              have l4 : (0 : Int) ≤ y := by omega
              have l5 : (y : Int) < ss.length := by omega
              have l6 : (0 : Int) ≤ x := by omega
              have l7 : (x : Int) < ss.length := by omega
              have hyx : ((y : Int) == (x : Int)) = false := by rw [beq_eq_false_iff_ne]; omega
              have hyx2 : (y == x) = false := by rw [beq_eq_false_iff_ne]; omega
              have cm : wr.cell? ⟨bo, oo + m, none⟩ = some (.int .i64 (y : Nat)) := by rw [hbr2.cell (p := ⟨bo, oo + m, none⟩) hlo4, ← HY.out]; exact HO.out m hm2
              have ck : wr.cell? ⟨bo, oo + k, none⟩ = some (.int .i64 (x : Nat)) := by rw [hbr2.cell (p := ⟨bo, oo + k, none⟩) hlo4, ← HX.out]; exact HO.out k hlt
              have hlo : bo < wr.heap.size := by have := hbr2.size; omega
              have hla : ba < wr.heap.size := by have := hbr2.size; omega
              have RY := Lib.hid (rangeAt_below (HA.out y hyl) hbr2 hla4)
              have RX := Lib.hid (rangeAt_below (HA.out x hxl) hbr2 hla4)
              have by_ := HBD.out y hyl
              have bx := HBD.out x hxl
              have hszr := hbr2.size
              have hkp : 0 < k := by omega
              have hgz := good_rr fs (k - 1) (by rw [HFN.out]; omega)
              rw [HFN.out] at hgz
              have hle := hnn hkp m (by omega) hm2
              rw [HY.out] at hle
              generalize hzz : rr fs (k - 1) = z at hgz hle
              have hzl := hgz.1
              have HZ := Lib.hid hzz
              clear hgz hzz hnn
              have cp : wr.cell? ⟨bo, oo + (k - 1), none⟩ = some (.int .i64 (z : Nat)) := by rw [hbr2.cell (p := ⟨bo, oo + (k - 1), none⟩) hlo4, ← HZ.out]; exact HO.out (k - 1) (by omega)
              have RZ := Lib.hid (rangeAt_below (HA.out z hzl) hbr2 hla4)
              have bz := HBD.out z hzl
              have hle2 : decide (far (fat fs z) (fat fs y) < far (fat fs z) (fat fs x)) = false := decide_eq_false (by omega)
              have hle3 : ¬ far (fat fs z) (fat fs y) < far (fat fs z) (fat fs x) := by omega
              clear hle
              have l8 : (0 : Int) ≤ z := by omega
              have l9 : (z : Int) < ss.length := by omega
              have pw : IntKind.i64.wrap ((k : Int) - 1) = (k : Int) - 1 := IntWalk.i64_in _ (by omega)
              have pt : ((k : Int) - 1).toNat = k - 1 := by omega
              have pp : (0 : Int) ≤ (k : Int) - 1 := by omega
              have pp2 : (1 : Int) ≤ (k : Int) := by omega
              have pp3 : (k : Int) - 1 < ss.length := by omega
              go_wp2
              refine wp_region_below wr.heap.size (by kernel_rfl) (by kernel_rfl) ?_
              refine WQ.val rfl (fun w hw => by go_simp; rfl) ?_
              simp only [Act.put, List.setIfInBounds_toArray, List.set_cons_zero, List.set_cons_succ]
              refine WQ.val rfl (fun w hw => by go_simp; rfl) ?_
              simp only [Act.put, List.setIfInBounds_toArray, List.set_cons_zero, List.set_cons_succ]
              refine WQ.val rfl (fun w hw => by go_simp; rfl) ?_
              simp only [Act.put, List.setIfInBounds_toArray, List.set_cons_zero, List.set_cons_succ]
              refine WQ.val rfl (fun w hw => by have := below_load cm hw hlo; go_simp; rfl) ?_
              simp only [Act.put, List.setIfInBounds_toArray, List.set_cons_zero, List.set_cons_succ]
              refine WQ.val rfl (fun w hw => by go_simp; rfl) ?_
              simp only [Act.put, List.setIfInBounds_toArray, List.set_cons_zero, List.set_cons_succ]
              refine WQ.val rfl (fun w hw => by go_simp; rfl) ?_
              simp only [Act.put, List.setIfInBounds_toArray, List.set_cons_zero, List.set_cons_succ]
              refine WQ.val rfl (fun w hw => by go_simp; rfl) ?_
              simp only [Act.put, List.setIfInBounds_toArray, List.set_cons_zero, List.set_cons_succ]
              refine WQ.val rfl (fun w hw => by have := below_load ck hw hlo; go_simp; rfl) ?_
              simp only [Act.put, List.setIfInBounds_toArray, List.set_cons_zero, List.set_cons_succ]
              refine WQ.val rfl (fun w hw => by go_simp; rfl) ?_
              simp only [Act.put, List.setIfInBounds_toArray, List.set_cons_zero, List.set_cons_succ]
              refine WQ.val rfl (fun w hw => by go_simp; rfl) ?_
              simp only [Act.put, List.setIfInBounds_toArray, List.set_cons_zero, List.set_cons_succ]
              refine WQ.val rfl (fun w hw => by go_simp; rfl) ?_
              simp only [Act.put, List.setIfInBounds_toArray, List.set_cons_zero, List.set_cons_succ]
              refine WQ.val rfl (fun w hw => by go_simp; rfl) ?_
              simp only [Act.put, List.setIfInBounds_toArray, List.set_cons_zero, List.set_cons_succ]
              refine WQ.val rfl (fun w hw => by go_simp; rfl) ?_
              simp only [Act.put, List.setIfInBounds_toArray, List.set_cons_zero, List.set_cons_succ]
              refine WQ.val rfl (fun w hw => by go_simp; rfl) ?_
              simp only [Act.put, List.setIfInBounds_toArray, List.set_cons_zero, List.set_cons_succ]
              refine WQ.val rfl (fun w hw => by go_simp; rfl) ?_
              simp only [Act.put, List.setIfInBounds_toArray, List.set_cons_zero, List.set_cons_succ]
              refine WQ.val rfl (fun w hw => by go_simp; rfl) ?_
              simp only [Act.put, List.setIfInBounds_toArray, List.set_cons_zero, List.set_cons_succ]
              refine WQ.val rfl (fun w hw => by go_simp; rfl) ?_
              simp only [Act.put, List.setIfInBounds_toArray, List.set_cons_zero, List.set_cons_succ]
              refine WQ.val rfl (fun w hw => by go_simp; rfl) ?_
              simp only [Act.put, List.setIfInBounds_toArray, List.set_cons_zero, List.set_cons_succ]
              refine WQ.val rfl (fun w hw => by have := below_load cp hw hlo; go_simp; rfl) ?_
              simp only [Act.put, List.setIfInBounds_toArray, List.set_cons_zero, List.set_cons_succ]
              refine WQ.val rfl (fun w hw => by go_simp; rfl) ?_
              simp only [Act.put, List.setIfInBounds_toArray, List.set_cons_zero, List.set_cons_succ]
              refine WQ.val rfl (fun w hw => exec_load_row 28 _ RZ.out (by omega) Try.underlying28 rfl (by kernel_rfl) hw _ rfl rfl) ?_
              simp only [Act.put, List.setIfInBounds_toArray, List.set_cons_zero, List.set_cons_succ]
              refine WQ.val rfl (fun w hw => by go_simp; rfl) ?_
              simp only [Act.put, List.setIfInBounds_toArray, List.set_cons_zero, List.set_cons_succ]
              refine WQ.val rfl (fun w hw => by go_simp; rfl) ?_
              simp only [Act.put, List.setIfInBounds_toArray, List.set_cons_zero, List.set_cons_succ]
              refine WQ.val rfl (fun w hw => by go_simp; rfl) ?_
              simp only [Act.put, List.setIfInBounds_toArray, List.set_cons_zero, List.set_cons_succ]
              refine WQ.val rfl (fun w hw => by go_simp; rfl) ?_
              simp only [Act.put, List.setIfInBounds_toArray, List.set_cons_zero, List.set_cons_succ]
              refine WQ.val rfl (fun w hw => by have := below_load cm hw hlo; go_simp; rfl) ?_
              simp only [Act.put, List.setIfInBounds_toArray, List.set_cons_zero, List.set_cons_succ]
              refine WQ.val rfl (fun w hw => by go_simp; rfl) ?_
              simp only [Act.put, List.setIfInBounds_toArray, List.set_cons_zero, List.set_cons_succ]
              refine WQ.val rfl (fun w hw => exec_load_row 28 _ RY.out (by omega) Try.underlying28 rfl (by kernel_rfl) hw _ rfl rfl) ?_
              simp only [Act.put, List.setIfInBounds_toArray, List.set_cons_zero, List.set_cons_succ]
              refine WQ.call rfl (fun w hw => by go_simp <;> first | rfl | exact ⟨rfl, rfl⟩) (fun w hw => (far_any (fat fs z) (fat fs y) bz by_ w).mono fun e w2 ⟨he, hb⟩ => ⟨he, hw.trans (hb.mono hw.size)⟩) ?_
              simp only [Act.put, List.setIfInBounds_toArray, List.set_cons_zero, List.set_cons_succ]
              refine WQ.val rfl (fun w hw => by go_simp; rfl) ?_
              simp only [Act.put, List.setIfInBounds_toArray, List.set_cons_zero, List.set_cons_succ]
              refine WQ.val rfl (fun w hw => by go_simp; rfl) ?_
              simp only [Act.put, List.setIfInBounds_toArray, List.set_cons_zero, List.set_cons_succ]
              refine WQ.val rfl (fun w hw => by go_simp; rfl) ?_
              simp only [Act.put, List.setIfInBounds_toArray, List.set_cons_zero, List.set_cons_succ]
              refine WQ.val rfl (fun w hw => by go_simp; rfl) ?_
              simp only [Act.put, List.setIfInBounds_toArray, List.set_cons_zero, List.set_cons_succ]
              refine WQ.val rfl (fun w hw => by go_simp; rfl) ?_
              simp only [Act.put, List.setIfInBounds_toArray, List.set_cons_zero, List.set_cons_succ]
              refine WQ.val rfl (fun w hw => by have := below_load cp hw hlo; go_simp; rfl) ?_
              simp only [Act.put, List.setIfInBounds_toArray, List.set_cons_zero, List.set_cons_succ]
              refine WQ.val rfl (fun w hw => by go_simp; rfl) ?_
              simp only [Act.put, List.setIfInBounds_toArray, List.set_cons_zero, List.set_cons_succ]
              refine WQ.val rfl (fun w hw => exec_load_row 28 _ RZ.out (by omega) Try.underlying28 rfl (by kernel_rfl) hw _ rfl rfl) ?_
              simp only [Act.put, List.setIfInBounds_toArray, List.set_cons_zero, List.set_cons_succ]
              refine WQ.val rfl (fun w hw => by go_simp; rfl) ?_
              simp only [Act.put, List.setIfInBounds_toArray, List.set_cons_zero, List.set_cons_succ]
              refine WQ.val rfl (fun w hw => by go_simp; rfl) ?_
              simp only [Act.put, List.setIfInBounds_toArray, List.set_cons_zero, List.set_cons_succ]
              refine WQ.val rfl (fun w hw => by go_simp; rfl) ?_
              simp only [Act.put, List.setIfInBounds_toArray, List.set_cons_zero, List.set_cons_succ]
              refine WQ.val rfl (fun w hw => by go_simp; rfl) ?_
              simp only [Act.put, List.setIfInBounds_toArray, List.set_cons_zero, List.set_cons_succ]
              refine WQ.val rfl (fun w hw => by have := below_load ck hw hlo; go_simp; rfl) ?_
              simp only [Act.put, List.setIfInBounds_toArray, List.set_cons_zero, List.set_cons_succ]
              refine WQ.val rfl (fun w hw => by go_simp; rfl) ?_
              simp only [Act.put, List.setIfInBounds_toArray, List.set_cons_zero, List.set_cons_succ]
              refine WQ.val rfl (fun w hw => exec_load_row 28 _ RX.out (by omega) Try.underlying28 rfl (by kernel_rfl) hw _ rfl rfl) ?_
              simp only [Act.put, List.setIfInBounds_toArray, List.set_cons_zero, List.set_cons_succ]
              refine WQ.call rfl (fun w hw => by go_simp <;> first | rfl | exact ⟨rfl, rfl⟩) (fun w hw => (far_any (fat fs z) (fat fs x) bz bx w).mono fun e w2 ⟨he, hb⟩ => ⟨he, hw.trans (hb.mono hw.size)⟩) ?_
              simp only [Act.put, List.setIfInBounds_toArray, List.set_cons_zero, List.set_cons_succ]
              refine WQ.val rfl (fun w hw => by go_simp; rfl) ?_
              simp only [Act.put, List.setIfInBounds_toArray, List.set_cons_zero, List.set_cons_succ]
              refine WQ.val rfl (fun w hw => by go_simp; rfl) ?_
              simp only [Act.put, List.setIfInBounds_toArray, List.set_cons_zero, List.set_cons_succ]
              refine WQ.val rfl (fun w hw => by go_simp; rfl) ?_
              simp only [Act.put, List.setIfInBounds_toArray, List.set_cons_zero, List.set_cons_succ]
              refine WQ.nil ?_
              intro wn hbn
              go_wp2
              go_roundw
              case rel => exact ⟨m + 1, by omega, by omega, by go_num, hbr2.trans (hbn.mono hbr2.size)⟩
              case measure => simp [intOf]; omega
            · obtain rfl : m = ss.length := by omega
              go_wp2
              go_roundw
              case rel => exact ⟨k + 1, by omega, by go_num, hbr2⟩
              case measure => simp [intOf]; omega
      · obtain rfl : k = ss.length := by omega
        have st5 := HST4.out.step hbr
        go_wp2_with (go_at_call 8; refine (alive_any _).mono ?_; rintro e w1 ⟨rfl, hb⟩; have st := St.step (by assumption) hb)
        go_ret
        exact ⟨rfl, st.bel⟩
  · go_enter Try.func6, Try.ntmps6
    go_wp2_with (first | (go_at_call 8; refine (alive_any _).mono ?_; rintro e w1 ⟨rfl, hb⟩; have st := St.step (by assumption) hb) | (go_at_call 9; refine (great_any v ss _ (St.row (by assumption))).mono ?_; rintro e w1 ⟨rfl, rfl⟩))
    go_ret
    exact ⟨rfl, st.bel⟩
end Go.Proofs.Ytjgmfhfncphbnaa
