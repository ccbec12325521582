/- The walk of the law SketchNear. -/
import Derived.Test.YtjgmfhfncphbnaaL3
import Derived.Test.YtjgmfhfncphbnaaPl
namespace Go.Proofs.Ytjgmfhfncphbnaa
open Go.RowKit Fl

/-- The world on the way: the texts' row, the sketches' rows. -/
structure St4 (w0 : World) (v a b : Value) (ss : List ByteArray) (w : World) : Prop where
  row : StrRow w v ss
  ra : RowOf w a 4 ((ss.map skOf).map skl)
  rb : RowOf w b 8 ((ss.map skOf).map wl)
  bel : Below w0.heap.size w0 w
theorem St4.step {w0 w w' : World} {v a b : Value} {ss : List ByteArray} (h : St4 w0 v a b ss w) (hb : Below w.heap.size w w') : St4 w0 v a b ss w' :=
  ⟨h.row.below hb, h.ra.below hb, h.rb.below hb, h.bel.trans (hb.mono h.bel.size)⟩

theorem rnear_none (v u : Value) (f : Nat → Int) (fs : List (Nat → Int)) (w : World) (hf : Bd f) (hfs : ∀ g ∈ fs, Bd g) (hv : RowOf w v 8 (fs.map wl)) (hu : BoolRow w u (List.replicate fs.length false)) :
    Calls Try.prog 18 #[wv f, v, u] w fun e w' => e = .returned (.int .i64 (nearB (dst f fs) (fun _ => true) fs.length)) ∧ Below w.heap.size w w' :=
  (rnear_any v u f fs _ w hf hfs hv hu (by simp)).mono fun e w' ⟨he, hb⟩ => ⟨by
    rw [he]
    rw [nearB_congr (dst f fs) (dst f fs) (free (List.replicate fs.length false)) (fun _ => true) fs.length fun i hi => ⟨rfl, by unfold free; simp [List.getD_eq_getElem?_getD, hi]⟩], hb⟩

theorem same_ord (o1 o2 : Value) (fs : List (Nat → Int)) (w : World) (h1 : IntRow w o1 ((ordS fs).map Int.ofNat)) (h2 : IntRow w o2 ((ordR fs).map Int.ofNat)) :
    Calls Try.prog 19 #[o1, o2] w fun e w' => e = .returned (.bool true) ∧ Below w.heap.size w w' :=
  (sameInts_any o1 o2 _ _ w h1 h2).mono fun e w' ⟨he, n, hw⟩ => ⟨by rw [he, ord_eq]; simp, by rw [hw]; exact below_drewN (Below.refl _ _) n⟩

theorem boolRow_made (w : World) (n : Nat) (hn : n ≤ maxLen) : BoolRow (w.alloc (.cells (madeCells (Value.bool false).cells (n * 1)) 4)) (.slice (some ⟨w.heap.size, 0, none⟩) n n) (List.replicate n false) := by
  refine ⟨_, n, by simp, by simpa using hn, fun hne => ⟨w.heap.size, 0, rfl, by simp, fun i hi => ?_⟩⟩
  rw [Nat.zero_add, World.cell?_alloc_new]
  simp only [List.length_replicate] at hi
  have e : (madeCells (Value.bool false).cells (n * 1))[i]? = some ((Value.bool false).cells[i % (Value.bool false).cells.size]!) := by simp [madeCells, hi]
  rw [e, show (Value.bool false).cells.size = 1 from rfl, Nat.mod_one]
  simp; rfl
theorem BoolRow.below {w w' : World} {v : Value} {bs : List Bool} (h : BoolRow w v bs) (hb : Below w.heap.size w w') : BoolRow w' v bs := by
  obtain ⟨ao, cap, rfl, hm, h⟩ := h
  refine ⟨ao, cap, rfl, hm, fun hne => ?_⟩
  obtain ⟨b, off, e, hl, hc⟩ := h hne
  exact ⟨b, off, e, Nat.lt_of_lt_of_le hl hb.size, fun i hi => by rw [hb.cell (p := ⟨b, off + i, none⟩) hl]; exact hc i hi⟩

theorem RowOf.form {w : World} {v : Value} {sz : Nat} {rows : List (List Value)} (h : RowOf w v sz rows) (n : Nat) (hn : rows.length = n) : ∃ ao c, v = .slice ao n c := by
  obtain ⟨ao, c, rfl, _⟩ := h
  exact ⟨ao, c, by rw [hn]⟩

set_option maxHeartbeats 8000000 in
theorem sketchNear_walk (s : ByteArray) (v : Value) (ss : List ByteArray) (w : World) (hv : StrRow w v ss) :
    Calls Try.prog 4 #[.string s, v] w fun e w' => e = .returned (.bool true) ∧ Below w.heap.size w w' := by
  have st : St w v ss w := ⟨hv, Below.refl _ _⟩
  clear hv
  cases hg : grt ss
  · by_cases hs : 500 < s.size
    · go_enter Try.func4, Try.ntmps4
      go_wp2_with (first | (go_at_call 8; refine (alive_any _).mono ?_; rintro e w1 ⟨rfl, hb⟩; have st := St.step (by assumption) hb) | (go_at_call 9; refine (great_any v ss _ (St.row (by assumption))).mono ?_; rintro e w1 ⟨rfl, rfl⟩))
      go_ret
      exact ⟨rfl, st.bel⟩
    · obtain ⟨h1, h2⟩ := grt_no hg
      have hfs : ∀ g ∈ ss.map skOf, Bd g := fun g hgm => by
        obtain ⟨x, hx, rfl⟩ := List.mem_map.1 hgm
        exact skOf_bd x (by have := h2 x hx; omega)
      have hss : ∀ x ∈ ss, x.size ≤ 16777216 := fun x hx => by have := h2 x hx; omega
      have hs1 : s.size ≤ 16777216 := by omega
      have hbd := skOf_bd s hs1
      have HFS := Lib.hid hfs
      have HSS := Lib.hid hss
      clear h2 hfs hss
      obtain ⟨ao, cap, rfl, hmax, hrow⟩ := st.row
      unfold maxLen at hmax
      have HROW := Lib.hid hrow
      clear hrow
      go_enter Try.func4, Try.ntmps4
      go_wp2_with (first | (go_at_call 8; refine (alive_any _).mono ?_; rintro e w1 ⟨rfl, hb⟩; have st := St.step (by assumption) hb) | (go_at_call 9; refine (great_any _ ss _ (St.row (by assumption))).mono ?_; rintro e w1 ⟨rfl, rfl⟩) | (go_at_call 14; refine (sketches_any _ ss _ (by omega) HSS.out (St.row (by assumption))).mono ?_; rintro e w3 ⟨a, b, rfl, hra, hrb, hb3⟩) | (go_at_call 11; refine (of_one s hs1 _ 9).mono ?_; rintro e w4 ⟨rfl, hb4⟩; unfold skv) | (go_at_call 12; refine (rof_any s hs1 _).mono ?_; rintro e w5 ⟨rfl, hb5⟩; unfold wv))
      change Code.wp _ _ _ _ ((w5.alloc (.cells (skl (skOf s)).toArray 28)).alloc (.cells (wl (skOf s)).toArray 31))
      have hlen : ((ss.map skOf).map skl).length = ss.length := by simp
      have hlen2 : ((ss.map skOf).map wl).length = ss.length := by simp
      obtain ⟨aoa, ca, rfl⟩ := hra.form ss.length hlen
      obtain ⟨aob, cb, rfl⟩ := hrb.form ss.length hlen2
      obtain ⟨W, hW⟩ : ∃ W, W = (w5.alloc (.cells (skl (skOf s)).toArray 28)).alloc (.cells (wl (skOf s)).toArray 31) := ⟨_, rfl⟩
      rw [← hW]
      have hsW : W.heap.size = w5.heap.size + 2 := by rw [hW]; simp
      have r7 : W.rangeAt w5.heap.size 0 (skl (skOf s)) := by
        rw [hW]; exact World.rangeAt_alloc (fun j v hj => by rw [Nat.zero_add, World.cell?_alloc_new]; simpa using hj) _
      have r8 : W.rangeAt (w5.heap.size + 1) 0 (wl (skOf s)) := by
        rw [hW]; exact (fun j v hj => by rw [Nat.zero_add]; have := World.cell?_alloc_new (w5.alloc (.cells (skl (skOf s)).toArray 28)) (wl (skOf s)).toArray 31 j; rw [World.size_alloc] at this; rw [this]; simpa using hj)
      have hb3W : Below w3.heap.size w3 W := by
        have e4 := hb4.size
        have e5 := hb5.size
        simp only [World.size_alloc] at e4 e5
        have g4 : Below w3.heap.size w3 w4 := ((Below.refl _ _).alloc (Nat.le_refl _) _).trans (hb4.mono (by simp))
        have g5 : Below w3.heap.size w3 w5 := g4.trans (hb5.mono (by omega))
        rw [hW]
        exact (g5.alloc (by omega) _).alloc (by simp; omega) _
      have st4 : St4 w (.slice ao ss.length cap) (.slice aoa ss.length ca) (.slice aob ss.length cb) ss W :=
        ⟨(st.row.below hb3).below hb3W, hra.below hb3W, hrb.below hb3W, (st.bel.trans (hb3.mono st.bel.size)).trans (hb3W.mono (Nat.le_trans st.bel.size hb3.size))⟩
      generalize skOf s = F at hbd r7 r8 hW
      generalize hfl : ss.map skOf = fs at HFS hra hrb
      have hfn : fs.length = ss.length := by rw [← hfl]; simp
      have hra' := st4.ra
      have hrb' := st4.rb
      rw [hfl] at hra' hrb'
      have HRA := Lib.hid hra'
      have HRB := Lib.hid hrb'
      have HFL := Lib.hid hfl
      have HFN := Lib.hid hfn
      have R70 := Lib.hid r7
      have R80 := Lib.hid r8
      clear hW r7 r8 hfl hfn hlen hlen2 hra hrb hra' hrb' hb4 hb5 hb3 hb3W
      go_loopw [9] (fun i wr => ∃ k : Nat, k ≤ ss.length ∧ i = .int .i64 k ∧ Below W.heap.size W wr) (fun i _ => (ss.length - intOf i).toNat)
      case atStart => exact ⟨0, by omega, rfl, Below.refl _ _⟩
      case round =>
        obtain ⟨k, hk, rfl, hbr⟩ := hrel
        have hszr := hbr.size
        by_cases hlt : k < ss.length
        · have hk' : k < fs.length := by rw [HFN.out]; exact hlt
          obtain ⟨xa, ya, hxa, _, hca⟩ := HRA.out
          obtain ⟨xb, yb, hxb, _, hcb⟩ := HRB.out
          have hne : fs.map skl ≠ [] := by intro e; rw [List.map_eq_nil_iff] at e; rw [e] at hk'; simp at hk'
          have hne2 : fs.map wl ≠ [] := by intro e; rw [List.map_eq_nil_iff] at e; rw [e] at hk'; simp at hk'
          obtain ⟨ba, oa, hao, hla, hrowa⟩ := hca hne
          obtain ⟨bb, ob, hbo, hlb, hrowb⟩ := hcb hne2
          have ra := rangeAt_below (hrowa k (by simpa using hk')) hbr hla
          have rb := rangeAt_below (hrowb k (by simpa using hk')) hbr hlb
          rw [List.getElem_map] at ra rb
          have hgb := HFS.out fs[k] (List.getElem_mem hk')
          generalize fs[k] = g at ra rb hgb
          injection hxa with ea1 ea2 ea3
          injection hxb with eb1 eb2 eb3
          subst ea1 ea3 eb1 eb3 hao hbo
          have RA := Lib.hid ra
          have RB := Lib.hid rb
          have R7 := Lib.hid (rangeAt_below R70.out hbr (by omega))
          have R8 := Lib.hid (rangeAt_below R80.out hbr (by omega))
          clear ra rb hrowa hrowb hca hcb hne hne2 ea2 eb2
          have l0 : (0 : Int) ≤ k := by omega
          have l1 : (k : Int) < ss.length := by omega
          go_wp2
          refine wp_region_below wr.heap.size (by kernel_rfl) (by kernel_rfl) ?_
          refine WQ.val rfl (fun w hw => exec_load_row 28 _ R7.out (by omega) Try.underlying28 rfl (by kernel_rfl) hw _ rfl rfl) ?_
          simp only [Act.put, List.setIfInBounds_toArray, List.set_cons_zero, List.set_cons_succ]
          refine WQ.val rfl (fun w hw => by go_simp; rfl) ?_
          simp only [Act.put, List.setIfInBounds_toArray, List.set_cons_zero, List.set_cons_succ]
          refine WQ.val rfl (fun w hw => by go_simp; rfl) ?_
          simp only [Act.put, List.setIfInBounds_toArray, List.set_cons_zero, List.set_cons_succ]
          refine WQ.val rfl (fun w hw => by go_simp; rfl) ?_
          simp only [Act.put, List.setIfInBounds_toArray, List.set_cons_zero, List.set_cons_succ]
          refine WQ.val rfl (fun w hw => exec_load_row 28 _ RA.out (by omega) Try.underlying28 rfl (by kernel_rfl) hw _ rfl rfl) ?_
          simp only [Act.put, List.setIfInBounds_toArray, List.set_cons_zero, List.set_cons_succ]
          refine WQ.call rfl (fun w hw => by go_simp <;> first | rfl | exact ⟨rfl, rfl⟩) (fun w hw => (far_any F g hbd hgb w).mono fun e w2 ⟨he, hb⟩ => ⟨he, hw.trans (hb.mono hw.size)⟩) ?_
          simp only [Act.put, List.setIfInBounds_toArray, List.set_cons_zero, List.set_cons_succ]
          refine WQ.val rfl (fun w hw => exec_load_row 31 _ R8.out (by omega) Try.underlying31 rfl (by kernel_rfl) hw _ rfl rfl) ?_
          simp only [Act.put, List.setIfInBounds_toArray, List.set_cons_zero, List.set_cons_succ]
          refine WQ.val rfl (fun w hw => by go_simp; rfl) ?_
          simp only [Act.put, List.setIfInBounds_toArray, List.set_cons_zero, List.set_cons_succ]
          refine WQ.val rfl (fun w hw => by go_simp; rfl) ?_
          simp only [Act.put, List.setIfInBounds_toArray, List.set_cons_zero, List.set_cons_succ]
          refine WQ.val rfl (fun w hw => by go_simp; rfl) ?_
          simp only [Act.put, List.setIfInBounds_toArray, List.set_cons_zero, List.set_cons_succ]
          refine WQ.val rfl (fun w hw => exec_load_row 31 _ RB.out (by omega) Try.underlying31 rfl (by kernel_rfl) hw _ rfl rfl) ?_
          simp only [Act.put, List.setIfInBounds_toArray, List.set_cons_zero, List.set_cons_succ]
          refine WQ.call rfl (fun w hw => by go_simp <;> first | rfl | exact ⟨rfl, rfl⟩) (fun w hw => (rfar_any F g hbd hgb w).mono fun e w2 ⟨he, hb⟩ => ⟨he, hw.trans (hb.mono hw.size)⟩) ?_
          simp only [Act.put, List.setIfInBounds_toArray, List.set_cons_zero, List.set_cons_succ]
          refine WQ.val rfl (fun w hw => by go_simp; rfl) ?_
          simp only [Act.put, List.setIfInBounds_toArray, List.set_cons_zero, List.set_cons_succ]
          refine WQ.nil ?_
          intro wn hbn
          go_wp2
          go_roundw
          case rel => exact ⟨k + 1, by omega, by go_num, hbr.trans (hbn.mono hszr)⟩
          case measure => simp [intOf]; omega
        · obtain rfl : k = ss.length := by omega
          have hbW := st4.bel.trans (hbr.mono st4.bel.size)
          have rx := rangeAt_below R70.out hbr (by omega)
          have ry := rangeAt_below R80.out hbr (by omega)
          have hra := HRA.out.below hbr
          have hrb := HRB.out.below hbr
          clear hbr
          obtain ⟨wz, rfl⟩ : ∃ wz : World, wz = wr := ⟨_, rfl⟩
          have hlz : w5.heap.size + 1 < wz.heap.size := by omega
          have hlz0 : w5.heap.size < wz.heap.size := by omega
          have x0 : wz.cell? ⟨w5.heap.size, 0, none⟩ = some (.complex .f64 (fb (F 0)) (fb (F 1))) := by have h := rx 0 _ rfl; rwa [Nat.zero_add] at h
          have x1 : wz.cell? ⟨w5.heap.size, 1, none⟩ = some (.complex .f64 (fb (F 2)) (fb (F 3))) := by have h := rx 1 _ rfl; rwa [Nat.zero_add] at h
          have x2 : wz.cell? ⟨w5.heap.size, 2, none⟩ = some (.complex .f64 (fb (F 4)) (fb (F 5))) := by have h := rx 2 _ rfl; rwa [Nat.zero_add] at h
          have x3 : wz.cell? ⟨w5.heap.size, 3, none⟩ = some (.complex .f64 (fb (F 6)) (fb (F 7))) := by have h := rx 3 _ rfl; rwa [Nat.zero_add] at h
          have y0 : wz.cell? ⟨w5.heap.size + 1, 0, none⟩ = some (.int .i64 (F 0)) := by have h := ry 0 _ rfl; rwa [Nat.zero_add] at h
          have y1 : wz.cell? ⟨w5.heap.size + 1, 1, none⟩ = some (.int .i64 (F 1)) := by have h := ry 1 _ rfl; rwa [Nat.zero_add] at h
          have y2 : wz.cell? ⟨w5.heap.size + 1, 2, none⟩ = some (.int .i64 (F 2)) := by have h := ry 2 _ rfl; rwa [Nat.zero_add] at h
          have y3 : wz.cell? ⟨w5.heap.size + 1, 3, none⟩ = some (.int .i64 (F 3)) := by have h := ry 3 _ rfl; rwa [Nat.zero_add] at h
          have y4 : wz.cell? ⟨w5.heap.size + 1, 4, none⟩ = some (.int .i64 (F 4)) := by have h := ry 4 _ rfl; rwa [Nat.zero_add] at h
          have y5 : wz.cell? ⟨w5.heap.size + 1, 5, none⟩ = some (.int .i64 (F 5)) := by have h := ry 5 _ rfl; rwa [Nat.zero_add] at h
          have y6 : wz.cell? ⟨w5.heap.size + 1, 6, none⟩ = some (.int .i64 (F 6)) := by have h := ry 6 _ rfl; rwa [Nat.zero_add] at h
          have y7 : wz.cell? ⟨w5.heap.size + 1, 7, none⟩ = some (.int .i64 (F 7)) := by have h := ry 7 _ rfl; rwa [Nat.zero_add] at h
          have keepS : ∀ w', Below wz.heap.size wz w' → (w'.cell? ⟨w5.heap.size, 0, none⟩ = some (.complex .f64 (fb (F 0)) (fb (F 1))) ∧ w'.cell? ⟨w5.heap.size, 1, none⟩ = some (.complex .f64 (fb (F 2)) (fb (F 3))) ∧ w'.cell? ⟨w5.heap.size, 2, none⟩ = some (.complex .f64 (fb (F 4)) (fb (F 5))) ∧ w'.cell? ⟨w5.heap.size, 3, none⟩ = some (.complex .f64 (fb (F 6)) (fb (F 7))) ∧ w'.cell? ⟨w5.heap.size + 1, 0, none⟩ = some (.int .i64 (F 0)) ∧ w'.cell? ⟨w5.heap.size + 1, 1, none⟩ = some (.int .i64 (F 1)) ∧ w'.cell? ⟨w5.heap.size + 1, 2, none⟩ = some (.int .i64 (F 2)) ∧ w'.cell? ⟨w5.heap.size + 1, 3, none⟩ = some (.int .i64 (F 3)) ∧ w'.cell? ⟨w5.heap.size + 1, 4, none⟩ = some (.int .i64 (F 4)) ∧ w'.cell? ⟨w5.heap.size + 1, 5, none⟩ = some (.int .i64 (F 5)) ∧ w'.cell? ⟨w5.heap.size + 1, 6, none⟩ = some (.int .i64 (F 6)) ∧ w'.cell? ⟨w5.heap.size + 1, 7, none⟩ = some (.int .i64 (F 7)) ∧ Below wz.heap.size wz w') := fun w' hb =>
            ⟨below_load x0 hb hlz0, below_load x1 hb hlz0, below_load x2 hb hlz0, below_load x3 hb hlz0, below_load y0 hb hlz, below_load y1 hb hlz, below_load y2 hb hlz, below_load y3 hb hlz, below_load y4 hb hlz, below_load y5 hb hlz, below_load y6 hb hlz, below_load y7 hb hlz, hb⟩
          have HK0 := Lib.hid (keepS _ (Below.refl _ _).drew)
          have HKA := Lib.hid (fun (w' : World) (X : Obj) (h : (w'.cell? ⟨w5.heap.size, 0, none⟩ = some (.complex .f64 (fb (F 0)) (fb (F 1))) ∧ w'.cell? ⟨w5.heap.size, 1, none⟩ = some (.complex .f64 (fb (F 2)) (fb (F 3))) ∧ w'.cell? ⟨w5.heap.size, 2, none⟩ = some (.complex .f64 (fb (F 4)) (fb (F 5))) ∧ w'.cell? ⟨w5.heap.size, 3, none⟩ = some (.complex .f64 (fb (F 6)) (fb (F 7))) ∧ w'.cell? ⟨w5.heap.size + 1, 0, none⟩ = some (.int .i64 (F 0)) ∧ w'.cell? ⟨w5.heap.size + 1, 1, none⟩ = some (.int .i64 (F 1)) ∧ w'.cell? ⟨w5.heap.size + 1, 2, none⟩ = some (.int .i64 (F 2)) ∧ w'.cell? ⟨w5.heap.size + 1, 3, none⟩ = some (.int .i64 (F 3)) ∧ w'.cell? ⟨w5.heap.size + 1, 4, none⟩ = some (.int .i64 (F 4)) ∧ w'.cell? ⟨w5.heap.size + 1, 5, none⟩ = some (.int .i64 (F 5)) ∧ w'.cell? ⟨w5.heap.size + 1, 6, none⟩ = some (.int .i64 (F 6)) ∧ w'.cell? ⟨w5.heap.size + 1, 7, none⟩ = some (.int .i64 (F 7)) ∧ Below wz.heap.size wz w')) => keepS _ (h.2.2.2.2.2.2.2.2.2.2.2.2.alloc h.2.2.2.2.2.2.2.2.2.2.2.2.size X))
          have HKB := Lib.hid (fun (w' w2 : World) (h : (w'.cell? ⟨w5.heap.size, 0, none⟩ = some (.complex .f64 (fb (F 0)) (fb (F 1))) ∧ w'.cell? ⟨w5.heap.size, 1, none⟩ = some (.complex .f64 (fb (F 2)) (fb (F 3))) ∧ w'.cell? ⟨w5.heap.size, 2, none⟩ = some (.complex .f64 (fb (F 4)) (fb (F 5))) ∧ w'.cell? ⟨w5.heap.size, 3, none⟩ = some (.complex .f64 (fb (F 6)) (fb (F 7))) ∧ w'.cell? ⟨w5.heap.size + 1, 0, none⟩ = some (.int .i64 (F 0)) ∧ w'.cell? ⟨w5.heap.size + 1, 1, none⟩ = some (.int .i64 (F 1)) ∧ w'.cell? ⟨w5.heap.size + 1, 2, none⟩ = some (.int .i64 (F 2)) ∧ w'.cell? ⟨w5.heap.size + 1, 3, none⟩ = some (.int .i64 (F 3)) ∧ w'.cell? ⟨w5.heap.size + 1, 4, none⟩ = some (.int .i64 (F 4)) ∧ w'.cell? ⟨w5.heap.size + 1, 5, none⟩ = some (.int .i64 (F 5)) ∧ w'.cell? ⟨w5.heap.size + 1, 6, none⟩ = some (.int .i64 (F 6)) ∧ w'.cell? ⟨w5.heap.size + 1, 7, none⟩ = some (.int .i64 (F 7)) ∧ Below wz.heap.size wz w')) (hb2 : Below w'.heap.size w' w2) => keepS _ (h.2.2.2.2.2.2.2.2.2.2.2.2.trans (hb2.mono h.2.2.2.2.2.2.2.2.2.2.2.2.size)))
          have HRR := Lib.hid (fun (w' : World) (h : (w'.cell? ⟨w5.heap.size, 0, none⟩ = some (.complex .f64 (fb (F 0)) (fb (F 1))) ∧ w'.cell? ⟨w5.heap.size, 1, none⟩ = some (.complex .f64 (fb (F 2)) (fb (F 3))) ∧ w'.cell? ⟨w5.heap.size, 2, none⟩ = some (.complex .f64 (fb (F 4)) (fb (F 5))) ∧ w'.cell? ⟨w5.heap.size, 3, none⟩ = some (.complex .f64 (fb (F 6)) (fb (F 7))) ∧ w'.cell? ⟨w5.heap.size + 1, 0, none⟩ = some (.int .i64 (F 0)) ∧ w'.cell? ⟨w5.heap.size + 1, 1, none⟩ = some (.int .i64 (F 1)) ∧ w'.cell? ⟨w5.heap.size + 1, 2, none⟩ = some (.int .i64 (F 2)) ∧ w'.cell? ⟨w5.heap.size + 1, 3, none⟩ = some (.int .i64 (F 3)) ∧ w'.cell? ⟨w5.heap.size + 1, 4, none⟩ = some (.int .i64 (F 4)) ∧ w'.cell? ⟨w5.heap.size + 1, 5, none⟩ = some (.int .i64 (F 5)) ∧ w'.cell? ⟨w5.heap.size + 1, 6, none⟩ = some (.int .i64 (F 6)) ∧ w'.cell? ⟨w5.heap.size + 1, 7, none⟩ = some (.int .i64 (F 7)) ∧ Below wz.heap.size wz w')) => (⟨hra.below h.2.2.2.2.2.2.2.2.2.2.2.2, hrb.below h.2.2.2.2.2.2.2.2.2.2.2.2⟩ : RowOf w' (.slice aoa ss.length ca) 4 (fs.map skl) ∧ RowOf w' (.slice aob ss.length cb) 8 (fs.map wl)))
          obtain ⟨i4, hi4, hz4, hz41, hz42⟩ := info_parts info4
          have hmk : ∀ w : World, (Instr.makeSlice 42 (.int .i64 (ss.length : Int)) (.int .i64 (ss.length : Int))).run Try.prog w = .ok (.slice (some ⟨w.heap.size, 0, none⟩) ss.length ss.length) (w.alloc (.cells (madeCells (Value.bool false).cells (ss.length * 1)) 4)) := fun w => by
            have h := run_make (P := Try.prog) w 42 4 i4 (.bool false) Try.underlying42 hi4 hz4 .i64 .i64 ss.length ss.length (by omega) (by omega) (by rw [hz42]; omega) (by omega)
            rw [hz41] at h
            simpa using h
          have hx : ∀ w : World, BoolRow (w.alloc (.cells (madeCells (Value.bool false).cells (ss.length * 1)) 4)) (.slice (some ⟨w.heap.size, 0, none⟩) ss.length ss.length) (List.replicate fs.length false) := fun w => by
            rw [HFN.out]; exact boolRow_made w ss.length (by unfold maxLen; omega)
          generalize Obj.cells (madeCells (Value.bool false).cells (ss.length * 1)) 4 = X at hmk hx
          have HX := Lib.hid hx
          have hfl2 : fs.length ≤ 1000000 := by rw [HFN.out]; omega
          have HFL2 := Lib.hid hfl2
          have hn1 := fun w h => near_any (.slice aoa ss.length ca) F fs w hbd HFS.out h
          have hn2 := fun u w h1 h2 => rnear_none (.slice aob ss.length cb) u F fs w hbd HFS.out h1 h2
          rw [HFN.out] at hn1 hn2
          rw [HFN.out] at HX
          generalize nearB (dst F fs) (fun _ => true) ss.length = NB at hn1 hn2
          have HN1 := Lib.hid hn1
          have HN2 := Lib.hid hn2
          clear keepS x0 x1 x2 x3 y0 y1 y2 y3 y4 y5 y6 y7 rx ry hra hrb hx hi4 hz4 hz41 hz42 hfl2 hn1 hn2
          go_wp2
          go_region_held3 (fun WW => (WW.cell? ⟨w5.heap.size, 0, none⟩ = some (.complex .f64 (fb (F 0)) (fb (F 1))) ∧ WW.cell? ⟨w5.heap.size, 1, none⟩ = some (.complex .f64 (fb (F 2)) (fb (F 3))) ∧ WW.cell? ⟨w5.heap.size, 2, none⟩ = some (.complex .f64 (fb (F 4)) (fb (F 5))) ∧ WW.cell? ⟨w5.heap.size, 3, none⟩ = some (.complex .f64 (fb (F 6)) (fb (F 7))) ∧ WW.cell? ⟨w5.heap.size + 1, 0, none⟩ = some (.int .i64 (F 0)) ∧ WW.cell? ⟨w5.heap.size + 1, 1, none⟩ = some (.int .i64 (F 1)) ∧ WW.cell? ⟨w5.heap.size + 1, 2, none⟩ = some (.int .i64 (F 2)) ∧ WW.cell? ⟨w5.heap.size + 1, 3, none⟩ = some (.int .i64 (F 3)) ∧ WW.cell? ⟨w5.heap.size + 1, 4, none⟩ = some (.int .i64 (F 4)) ∧ WW.cell? ⟨w5.heap.size + 1, 5, none⟩ = some (.int .i64 (F 5)) ∧ WW.cell? ⟨w5.heap.size + 1, 6, none⟩ = some (.int .i64 (F 6)) ∧ WW.cell? ⟨w5.heap.size + 1, 7, none⟩ = some (.int .i64 (F 7)) ∧ Below wz.heap.size wz WW)) (first | exact HK0.out | exact HKA.out _ _ (by assumption) | exact HKB.out _ _ (by assumption) (by assumption)) (first | (go_at_call 8; refine (alive_any _).mono ?_; rintro e wA ⟨rfl, hb2⟩) | (go_at_call 17; refine (HN1.out _ (HRR.out _ (by assumption)).1).mono ?_; rintro e wB ⟨rfl, hb2⟩) | (go_at_call 18; refine (HN2.out _ _ (HRR.out _ (by assumption)).2 ?_).mono ?_; (with_reducible first | exact HX.out _ | exact BoolRow.below (HX.out _) (by assumption)); rintro e wC ⟨rfl, hb2⟩) | (go_at_call 20; refine (order_any _ fs _ HFS.out HFL2.out (HRR.out _ (by assumption)).1).mono ?_; rintro e wD ⟨o1, rfl, ho1, hb2⟩) | (go_at_call 21; refine (rorder_any _ fs _ HFS.out HFL2.out (HRR.out _ (by assumption)).2).mono ?_; rintro e wE ⟨o2, rfl, ho2, hb2⟩; have ho3 := IntRow.below ho1 hb2) | (go_at_call 19; refine (same_ord o1 o2 fs _ ho3 ho2).mono ?_; rintro e wG ⟨rfl, hb2⟩))
          all_goals
            have hS : (wG.cell? ⟨w5.heap.size, 0, none⟩ = some (.complex .f64 (fb (F 0)) (fb (F 1))) ∧ wG.cell? ⟨w5.heap.size, 1, none⟩ = some (.complex .f64 (fb (F 2)) (fb (F 3))) ∧ wG.cell? ⟨w5.heap.size, 2, none⟩ = some (.complex .f64 (fb (F 4)) (fb (F 5))) ∧ wG.cell? ⟨w5.heap.size, 3, none⟩ = some (.complex .f64 (fb (F 6)) (fb (F 7))) ∧ wG.cell? ⟨w5.heap.size + 1, 0, none⟩ = some (.int .i64 (F 0)) ∧ wG.cell? ⟨w5.heap.size + 1, 1, none⟩ = some (.int .i64 (F 1)) ∧ wG.cell? ⟨w5.heap.size + 1, 2, none⟩ = some (.int .i64 (F 2)) ∧ wG.cell? ⟨w5.heap.size + 1, 3, none⟩ = some (.int .i64 (F 3)) ∧ wG.cell? ⟨w5.heap.size + 1, 4, none⟩ = some (.int .i64 (F 4)) ∧ wG.cell? ⟨w5.heap.size + 1, 5, none⟩ = some (.int .i64 (F 5)) ∧ wG.cell? ⟨w5.heap.size + 1, 6, none⟩ = some (.int .i64 (F 6)) ∧ wG.cell? ⟨w5.heap.size + 1, 7, none⟩ = some (.int .i64 (F 7)) ∧ Below wz.heap.size wz wG) := by assumption
            have hbw2 : Below w.heap.size w wG := hbW.trans (hS.2.2.2.2.2.2.2.2.2.2.2.2.mono hbW.size)
            clear hS HK0 HKA HKB HRR HN1 HN2 HX
            go_wp2
            go_ret
            exact ⟨rfl, hbw2⟩
  · go_enter Try.func4, Try.ntmps4
    go_wp2_with (first | (go_at_call 8; refine (alive_any _).mono ?_; rintro e w1 ⟨rfl, hb⟩; have st := St.step (by assumption) hb) | (go_at_call 9; refine (great_any v ss _ (St.row (by assumption))).mono ?_; rintro e w1 ⟨rfl, rfl⟩))
    go_ret
    exact ⟨rfl, st.bel⟩
end Go.Proofs.Ytjgmfhfncphbnaa
