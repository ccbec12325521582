/- The walk of the law SketchFar. -/
import Derived.Test.YtjgmfhfncphbnaaL1
namespace Go.Proofs.Ytjgmfhfncphbnaa
open Go.RowKit Fl

theorem of_one (s : ByteArray) (hs : s.size ≤ 16777216) (w : World) (t : TypeId) : Calls Try.prog 11 #[.slice (some ⟨w.heap.size, 0, none⟩) 1 1] (w.alloc (.cells #[.string s] t)) fun e w' => e = .returned (skv (skOf s)) ∧ Below (w.alloc (.cells #[.string s] t)).heap.size (w.alloc (.cells #[.string s] t)) w' :=
  (of_any _ [s] _ (strRow_one w s t) (by rw [flat_one]; simpa using hs)).mono fun e w' ⟨he, hb⟩ => ⟨by rw [he, flat_one]; rfl, hb⟩

theorem far_self (f : Nat → Int) : far f f = 0 := by
  have h : ∀ a : Int, (a - a).natAbs = 0 := fun a => by omega
  simp only [far, h]; rfl
theorem far_comm (f g : Nat → Int) : far f g = far g f := by
  have h : ∀ a b : Int, (a - b).natAbs = (b - a).natAbs := fun a b => by omega
  unfold far
  rw [h (f 0), h (f 1), h (f 2), h (f 3), h (f 4), h (f 5), h (f 6), h (f 7)]
theorem tri1 (a b c : Int) : (a - c).natAbs ≤ (a - b).natAbs + (b - c).natAbs := by omega
theorem far_tri (f g h : Nat → Int) : far f h ≤ far f g + far g h := by
  have t0 := tri1 (f 0) (g 0) (h 0)
  have t1 := tri1 (f 1) (g 1) (h 1)
  have t2 := tri1 (f 2) (g 2) (h 2)
  have t3 := tri1 (f 3) (g 3) (h 3)
  have t4 := tri1 (f 4) (g 4) (h 4)
  have t5 := tri1 (f 5) (g 5) (h 5)
  have t6 := tri1 (f 6) (g 6) (h 6)
  have t7 := tri1 (f 7) (g 7) (h 7)
  unfold far
  revert t0 t1 t2 t3 t4 t5 t6 t7
  generalize (f 0 - h 0).natAbs = x0
  generalize (f 1 - h 1).natAbs = x1
  generalize (f 2 - h 2).natAbs = x2
  generalize (f 3 - h 3).natAbs = x3
  generalize (f 4 - h 4).natAbs = x4
  generalize (f 5 - h 5).natAbs = x5
  generalize (f 6 - h 6).natAbs = x6
  generalize (f 7 - h 7).natAbs = x7
  generalize (f 0 - g 0).natAbs = y0
  generalize (f 1 - g 1).natAbs = y1
  generalize (f 2 - g 2).natAbs = y2
  generalize (f 3 - g 3).natAbs = y3
  generalize (f 4 - g 4).natAbs = y4
  generalize (f 5 - g 5).natAbs = y5
  generalize (f 6 - g 6).natAbs = y6
  generalize (f 7 - g 7).natAbs = y7
  generalize (g 0 - h 0).natAbs = z0
  generalize (g 1 - h 1).natAbs = z1
  generalize (g 2 - h 2).natAbs = z2
  generalize (g 3 - h 3).natAbs = z3
  generalize (g 4 - h 4).natAbs = z4
  generalize (g 5 - h 5).natAbs = z5
  generalize (g 6 - h 6).natAbs = z6
  generalize (g 7 - h 7).natAbs = z7
  intros
  omega
theorem far_zero (f g : Nat → Int) : (far f g == 0) = (f 0 == g 0 && f 1 == g 1 && (f 2 == g 2 && f 3 == g 3 && (f 4 == g 4 && f 5 == g 5 && (f 6 == g 6 && f 7 == g 7)))) := by
  have h : ∀ a b : Int, ((a - b).natAbs = 0) = (a = b) := fun a b => propext ⟨fun h => by omega, fun h => by omega⟩
  rw [Bool.eq_iff_iff]
  simp only [Bool.and_eq_true, beq_iff_eq, ← h (f 0), ← h (f 1), ← h (f 2), ← h (f 3), ← h (f 4), ← h (f 5), ← h (f 6), ← h (f 7)]
  unfold far
  generalize (f 0 - g 0).natAbs = y0
  generalize (f 1 - g 1).natAbs = y1
  generalize (f 2 - g 2).natAbs = y2
  generalize (f 3 - g 3).natAbs = y3
  generalize (f 4 - g 4).natAbs = y4
  generalize (f 5 - g 5).natAbs = y5
  generalize (f 6 - g 6).natAbs = y6
  generalize (f 7 - g 7).natAbs = y7
  omega

set_option maxHeartbeats 4000000 in
theorem sketchFar_walk (s t u : ByteArray) (w : World) :
    Calls Try.prog 5 #[.string s, .string t, .string u] w fun e w' => e = .returned (.bool true) ∧ Below w.heap.size w w' := by
  by_cases h0 : 2000 < s.size
  · go_enter Try.func5, Try.ntmps5
    go_wp2_with (go_at_call 8; refine (alive_any _).mono ?_; rintro e w1 ⟨rfl, hb⟩; first | have hbb := (by assumption : Below w.heap.size w _).trans (hb.mono (Below.size (by assumption : Below w.heap.size w _))) | have hbb : Below w.heap.size w w1 := hb)
    go_ret
    exact ⟨rfl, hbb⟩
  · by_cases h1 : 2000 < t.size
    · go_enter Try.func5, Try.ntmps5
      go_wp2_with (go_at_call 8; refine (alive_any _).mono ?_; rintro e w1 ⟨rfl, hb⟩; first | have hbb := (by assumption : Below w.heap.size w _).trans (hb.mono (Below.size (by assumption : Below w.heap.size w _))) | have hbb : Below w.heap.size w w1 := hb)
      go_ret
      exact ⟨rfl, hbb⟩
    · by_cases h2 : 2000 < u.size
      · go_enter Try.func5, Try.ntmps5
        go_wp2_with (go_at_call 8; refine (alive_any _).mono ?_; rintro e w1 ⟨rfl, hb⟩; first | have hbb := (by assumption : Below w.heap.size w _).trans (hb.mono (Below.size (by assumption : Below w.heap.size w _))) | have hbb : Below w.heap.size w w1 := hb)
        go_ret
        exact ⟨rfl, hbb⟩
      · have bs := skOf_bd s (by omega)
        have bt := skOf_bd t (by omega)
        have bu := skOf_bd u (by omega)
        have hss : s.size ≤ 16777216 := by omega
        have hst : t.size ≤ 16777216 := by omega
        have hsu : u.size ≤ 16777216 := by omega
        go_enter Try.func5, Try.ntmps5
        go_wp2_with (first | (go_at_call 8; refine (alive_any _).mono ?_; rintro e w1 ⟨rfl, hb1⟩) | (go_at_call_of 11 (Value.slice (some { block := w1.heap.size, off := 0 }) 1 1); refine (of_one s hss w1 9).mono ?_; rintro e w2 ⟨rfl, hb2⟩) | (go_at_call_of 11 (Value.slice (some { block := w2.heap.size, off := 0 }) 1 1); refine (of_one t hst w2 9).mono ?_; rintro e w3 ⟨rfl, hb3⟩) | (go_at_call_of 11 (Value.slice (some { block := w3.heap.size, off := 0 }) 1 1); refine (of_one u hsu w3 9).mono ?_; rintro e w4 ⟨rfl, hb4⟩; unfold skv))
        change Code.wp _ _ _ _ (((w4.alloc (.cells (skl (skOf s)).toArray 28)).alloc (.cells (skl (skOf t)).toArray 28)).alloc (.cells (skl (skOf u)).toArray 28))
        obtain ⟨W, hW⟩ : ∃ W, W = ((w4.alloc (.cells (skl (skOf s)).toArray 28)).alloc (.cells (skl (skOf t)).toArray 28)).alloc (.cells (skl (skOf u)).toArray 28) := ⟨_, rfl⟩
        rw [← hW]
        have hsW : W.heap.size = w4.heap.size + 3 := by rw [hW]; simp
        have r7 : W.rangeAt w4.heap.size 0 (skl (skOf s)) := by
          rw [hW]; exact World.rangeAt_alloc (World.rangeAt_alloc (fun j v hj => by rw [Nat.zero_add, World.cell?_alloc_new]; simpa using hj) _) _
        have r8 : W.rangeAt (w4.heap.size + 1) 0 (skl (skOf t)) := by
          rw [hW]; exact World.rangeAt_alloc (fun j v hj => by rw [Nat.zero_add]; have := World.cell?_alloc_new (w4.alloc (.cells (skl (skOf s)).toArray 28)) (skl (skOf t)).toArray 28 j; rw [World.size_alloc] at this; rw [this]; simpa using hj) _
        have r9 : W.rangeAt (w4.heap.size + 1 + 1) 0 (skl (skOf u)) := by
          rw [hW]; exact (fun j v hj => by rw [Nat.zero_add]; have := World.cell?_alloc_new ((w4.alloc (.cells (skl (skOf s)).toArray 28)).alloc (.cells (skl (skOf t)).toArray 28)) (skl (skOf u)).toArray 28 j; rw [World.size_alloc, World.size_alloc] at this; rw [this]; simpa using hj)
        have hbW : Below w.heap.size w W := by
          have e1 := hb1.size
          have e2 := hb2.size
          have e3 := hb3.size
          have e4 := hb4.size
          simp only [World.size_alloc] at e2 e3 e4
          have g2 : Below w.heap.size w w2 := (hb1.alloc (by omega) _).trans (hb2.mono (by simp; omega))
          have g3 : Below w.heap.size w w3 := (g2.alloc (by omega) _).trans (hb3.mono (by simp; omega))
          have g4 : Below w.heap.size w w4 := (g3.alloc (by omega) _).trans (hb4.mono (by simp; omega))
          rw [hW]
          exact ((g4.alloc (by omega) _).alloc (by simp; omega) _).alloc (by simp; omega) _
        have R7 := Lib.hid r7
        have R8 := Lib.hid r8
        have R9 := Lib.hid r9
        have HW := Lib.hid hW
        clear r7 r8 r9 hW hb1 hb2 hb3 hb4
        have z1 : (far (skOf s) (skOf s) == 0) = true := by rw [far_self]; rfl
        have z2 : (far (skOf s) (skOf t) == far (skOf t) (skOf s)) = true := by rw [far_comm]; simp
        have y1 := far_bd (skOf s) (skOf t) bs bt
        have y2 := far_bd (skOf t) (skOf u) bt bu
        have y3 := far_tri (skOf s) (skOf t) (skOf u)
        have z3 : IntKind.i64.wrap (far (skOf s) (skOf t) + far (skOf t) (skOf u)) = far (skOf s) (skOf t) + far (skOf t) (skOf u) := IntWalk.i64_in _ (by omega)
        have z4 : ∀ w, (binOp .eql 28 (.agg (skl (skOf s)).toArray) (.agg (skl (skOf t)).toArray)).run Try.prog w = .ok (.bool (far (skOf s) (skOf t) == 0)) w := fun w => by
          have h := eq_sk (skOf s) (skOf t) bs bt w
          rw [← far_zero] at h
          exact h
        refine wp_region_below W.heap.size (by kernel_rfl) (by kernel_rfl) ?_
        refine WQ.call rfl (fun w hw => by go_simp <;> first | rfl | exact ⟨rfl, rfl⟩) (fun w hw => (alive_any w).mono fun e w2 ⟨he, hb⟩ => ⟨he, hw.trans (hb.mono hw.size)⟩) ?_
        simp only [Act.put, List.setIfInBounds_toArray, List.set_cons_zero, List.set_cons_succ]
        refine WQ.val rfl (fun w hw => by go_simp; rfl) ?_
        simp only [Act.put, List.setIfInBounds_toArray, List.set_cons_zero, List.set_cons_succ]
        refine WQ.val rfl (fun w hw => exec_load_row 28 _ R7.out (by omega) Try.underlying28 rfl (by kernel_rfl) hw _ rfl rfl) ?_
        simp only [Act.put, List.setIfInBounds_toArray, List.set_cons_zero, List.set_cons_succ]
        refine WQ.val rfl (fun w hw => exec_load_row 28 _ R7.out (by omega) Try.underlying28 rfl (by kernel_rfl) hw _ rfl rfl) ?_
        simp only [Act.put, List.setIfInBounds_toArray, List.set_cons_zero, List.set_cons_succ]
        refine WQ.call rfl (fun w hw => by go_simp <;> first | rfl | exact ⟨rfl, rfl⟩) (fun w hw => (far_any (skOf s) (skOf s) bs bs w).mono fun e w2 ⟨he, hb⟩ => ⟨he, hw.trans (hb.mono hw.size)⟩) ?_
        simp only [Act.put, List.setIfInBounds_toArray, List.set_cons_zero, List.set_cons_succ]
        refine WQ.val rfl (fun w hw => by go_simp; rfl) ?_
        simp only [Act.put, List.setIfInBounds_toArray, List.set_cons_zero, List.set_cons_succ]
        refine WQ.val rfl (fun w hw => by go_simp; rfl) ?_
        simp only [Act.put, List.setIfInBounds_toArray, List.set_cons_zero, List.set_cons_succ]
        refine WQ.val rfl (fun w hw => by go_simp; rfl) ?_
        simp only [Act.put, List.setIfInBounds_toArray, List.set_cons_zero, List.set_cons_succ]
        refine WQ.val rfl (fun w hw => exec_load_row 28 _ R7.out (by omega) Try.underlying28 rfl (by kernel_rfl) hw _ rfl rfl) ?_
        simp only [Act.put, List.setIfInBounds_toArray, List.set_cons_zero, List.set_cons_succ]
        refine WQ.val rfl (fun w hw => exec_load_row 28 _ R8.out (by omega) Try.underlying28 rfl (by kernel_rfl) hw _ rfl rfl) ?_
        simp only [Act.put, List.setIfInBounds_toArray, List.set_cons_zero, List.set_cons_succ]
        refine WQ.call rfl (fun w hw => by go_simp <;> first | rfl | exact ⟨rfl, rfl⟩) (fun w hw => (far_any (skOf s) (skOf t) bs bt w).mono fun e w2 ⟨he, hb⟩ => ⟨he, hw.trans (hb.mono hw.size)⟩) ?_
        simp only [Act.put, List.setIfInBounds_toArray, List.set_cons_zero, List.set_cons_succ]
        refine WQ.val rfl (fun w hw => exec_load_row 28 _ R8.out (by omega) Try.underlying28 rfl (by kernel_rfl) hw _ rfl rfl) ?_
        simp only [Act.put, List.setIfInBounds_toArray, List.set_cons_zero, List.set_cons_succ]
        refine WQ.val rfl (fun w hw => exec_load_row 28 _ R7.out (by omega) Try.underlying28 rfl (by kernel_rfl) hw _ rfl rfl) ?_
        simp only [Act.put, List.setIfInBounds_toArray, List.set_cons_zero, List.set_cons_succ]
        refine WQ.call rfl (fun w hw => by go_simp <;> first | rfl | exact ⟨rfl, rfl⟩) (fun w hw => (far_any (skOf t) (skOf s) bt bs w).mono fun e w2 ⟨he, hb⟩ => ⟨he, hw.trans (hb.mono hw.size)⟩) ?_
        simp only [Act.put, List.setIfInBounds_toArray, List.set_cons_zero, List.set_cons_succ]
        refine WQ.val rfl (fun w hw => by go_simp; rfl) ?_
        simp only [Act.put, List.setIfInBounds_toArray, List.set_cons_zero, List.set_cons_succ]
        refine WQ.val rfl (fun w hw => by go_simp; rfl) ?_
        simp only [Act.put, List.setIfInBounds_toArray, List.set_cons_zero, List.set_cons_succ]
        refine WQ.val rfl (fun w hw => by go_simp; rfl) ?_
        simp only [Act.put, List.setIfInBounds_toArray, List.set_cons_zero, List.set_cons_succ]
        refine WQ.val rfl (fun w hw => exec_load_row 28 _ R7.out (by omega) Try.underlying28 rfl (by kernel_rfl) hw _ rfl rfl) ?_
        simp only [Act.put, List.setIfInBounds_toArray, List.set_cons_zero, List.set_cons_succ]
        refine WQ.val rfl (fun w hw => exec_load_row 28 _ R9.out (by omega) Try.underlying28 rfl (by kernel_rfl) hw _ rfl rfl) ?_
        simp only [Act.put, List.setIfInBounds_toArray, List.set_cons_zero, List.set_cons_succ]
        refine WQ.call rfl (fun w hw => by go_simp <;> first | rfl | exact ⟨rfl, rfl⟩) (fun w hw => (far_any (skOf s) (skOf u) bs bu w).mono fun e w2 ⟨he, hb⟩ => ⟨he, hw.trans (hb.mono hw.size)⟩) ?_
        simp only [Act.put, List.setIfInBounds_toArray, List.set_cons_zero, List.set_cons_succ]
        refine WQ.val rfl (fun w hw => exec_load_row 28 _ R7.out (by omega) Try.underlying28 rfl (by kernel_rfl) hw _ rfl rfl) ?_
        simp only [Act.put, List.setIfInBounds_toArray, List.set_cons_zero, List.set_cons_succ]
        refine WQ.val rfl (fun w hw => exec_load_row 28 _ R8.out (by omega) Try.underlying28 rfl (by kernel_rfl) hw _ rfl rfl) ?_
        simp only [Act.put, List.setIfInBounds_toArray, List.set_cons_zero, List.set_cons_succ]
        refine WQ.call rfl (fun w hw => by go_simp <;> first | rfl | exact ⟨rfl, rfl⟩) (fun w hw => (far_any (skOf s) (skOf t) bs bt w).mono fun e w2 ⟨he, hb⟩ => ⟨he, hw.trans (hb.mono hw.size)⟩) ?_
        simp only [Act.put, List.setIfInBounds_toArray, List.set_cons_zero, List.set_cons_succ]
        refine WQ.val rfl (fun w hw => exec_load_row 28 _ R8.out (by omega) Try.underlying28 rfl (by kernel_rfl) hw _ rfl rfl) ?_
        simp only [Act.put, List.setIfInBounds_toArray, List.set_cons_zero, List.set_cons_succ]
        refine WQ.val rfl (fun w hw => exec_load_row 28 _ R9.out (by omega) Try.underlying28 rfl (by kernel_rfl) hw _ rfl rfl) ?_
        simp only [Act.put, List.setIfInBounds_toArray, List.set_cons_zero, List.set_cons_succ]
        refine WQ.call rfl (fun w hw => by go_simp <;> first | rfl | exact ⟨rfl, rfl⟩) (fun w hw => (far_any (skOf t) (skOf u) bt bu w).mono fun e w2 ⟨he, hb⟩ => ⟨he, hw.trans (hb.mono hw.size)⟩) ?_
        simp only [Act.put, List.setIfInBounds_toArray, List.set_cons_zero, List.set_cons_succ]
        refine WQ.val rfl (fun w hw => by go_simp; rfl) ?_
        simp only [Act.put, List.setIfInBounds_toArray, List.set_cons_zero, List.set_cons_succ]
        refine WQ.val rfl (fun w hw => by go_simp; rfl) ?_
        simp only [Act.put, List.setIfInBounds_toArray, List.set_cons_zero, List.set_cons_succ]
        refine WQ.val rfl (fun w hw => by go_simp; rfl) ?_
        simp only [Act.put, List.setIfInBounds_toArray, List.set_cons_zero, List.set_cons_succ]
        refine WQ.val rfl (fun w hw => by go_simp; rfl) ?_
        simp only [Act.put, List.setIfInBounds_toArray, List.set_cons_zero, List.set_cons_succ]
        refine WQ.val rfl (fun w hw => exec_load_row 28 _ R7.out (by omega) Try.underlying28 rfl (by kernel_rfl) hw _ rfl rfl) ?_
        simp only [Act.put, List.setIfInBounds_toArray, List.set_cons_zero, List.set_cons_succ]
        refine WQ.val rfl (fun w hw => exec_load_row 28 _ R8.out (by omega) Try.underlying28 rfl (by kernel_rfl) hw _ rfl rfl) ?_
        simp only [Act.put, List.setIfInBounds_toArray, List.set_cons_zero, List.set_cons_succ]
        refine WQ.call rfl (fun w hw => by go_simp <;> first | rfl | exact ⟨rfl, rfl⟩) (fun w hw => (far_any (skOf s) (skOf t) bs bt w).mono fun e w2 ⟨he, hb⟩ => ⟨he, hw.trans (hb.mono hw.size)⟩) ?_
        simp only [Act.put, List.setIfInBounds_toArray, List.set_cons_zero, List.set_cons_succ]
        refine WQ.val rfl (fun w hw => by go_simp; rfl) ?_
        simp only [Act.put, List.setIfInBounds_toArray, List.set_cons_zero, List.set_cons_succ]
        refine WQ.val rfl (fun w hw => exec_load_row 28 _ R7.out (by omega) Try.underlying28 rfl (by kernel_rfl) hw _ rfl rfl) ?_
        simp only [Act.put, List.setIfInBounds_toArray, List.set_cons_zero, List.set_cons_succ]
        refine WQ.val rfl (fun w hw => exec_load_row 28 _ R8.out (by omega) Try.underlying28 rfl (by kernel_rfl) hw _ rfl rfl) ?_
        simp only [Act.put, List.setIfInBounds_toArray, List.set_cons_zero, List.set_cons_succ]
        refine WQ.val rfl (fun w hw => by go_simp; rfl) ?_
        simp only [Act.put, List.setIfInBounds_toArray, List.set_cons_zero, List.set_cons_succ]
        refine WQ.val rfl (fun w hw => by go_simp; rfl) ?_
        simp only [Act.put, List.setIfInBounds_toArray, List.set_cons_zero, List.set_cons_succ]
        refine WQ.val rfl (fun w hw => by go_simp; rfl) ?_
        simp only [Act.put, List.setIfInBounds_toArray, List.set_cons_zero, List.set_cons_succ]
        refine WQ.val rfl (fun w hw => by go_simp; rfl) ?_
        simp only [Act.put, List.setIfInBounds_toArray, List.set_cons_zero, List.set_cons_succ]
        refine WQ.nil ?_
        intro wn hbn
        go_wp2
        go_ret
        exact ⟨rfl, hbW.trans (hbn.mono hbW.size)⟩
end Go.Proofs.Ytjgmfhfncphbnaa
