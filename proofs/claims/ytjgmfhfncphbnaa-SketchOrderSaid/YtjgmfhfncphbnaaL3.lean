/- The walk of the law SketchPlus. -/
import Derived.Test.YtjgmfhfncphbnaaL2
namespace Go.Proofs.Ytjgmfhfncphbnaa
open Go.RowKit Fl

theorem strRow_two (w : World) (s t : ByteArray) (ty : TypeId) : StrRow (w.alloc (.cells #[.string s, .string t] ty)) (.slice (some ⟨w.heap.size, 0, none⟩) 2 2) [s, t] := by
  refine ⟨_, 2, rfl, by simp [maxLen], fun _ => ⟨w.heap.size, 0, rfl, by simp, fun i hi => ?_⟩⟩
  simp only [List.length_cons, List.length_nil] at hi
  rcases (by omega : i = 0 ∨ i = 1) with rfl | rfl <;> simp

theorem of_row1 (s : ByteArray) (hs : s.size ≤ 16777216) (v : Value) (w : World) (hv : StrRow w v [s]) : Calls Try.prog 11 #[v] w fun e w' => e = .returned (skv (skOf s)) ∧ Below w.heap.size w w' :=
  (of_any v [s] w hv (by rw [flat_one]; simpa using hs)).mono fun e w' ⟨he, hb⟩ => ⟨by rw [he, flat_one]; rfl, hb⟩
theorem strRow_l2 (w : World) (s : ByteArray) (t : TypeId) (o : Obj) : StrRow ((w.alloc (.cells #[.string s] t)).alloc o) (.slice (some ⟨w.heap.size, 0, none⟩) 1 1) [s] :=
  (strRow_one w s t).below ((Below.refl _ _).alloc (Nat.le_refl _) _)
theorem strRow_l3 (w : World) (s : ByteArray) (t : TypeId) (o : Obj) : StrRow ((w.alloc o).alloc (.cells #[.string s] t)) (.slice (some ⟨w.heap.size + 1, 0, none⟩) 1 1) [s] := by
  have h := strRow_one (w.alloc o) s t
  rwa [World.size_alloc] at h

theorem sk_reverse (l : List UInt8) (i : Nat) : sk l.reverse i = sk l i := by
  induction l with
  | nil => rfl
  | cons b l ih => rw [List.reverse_cons, sk_snoc, ih]; simp only [sk]; omega

theorem extract_one (s : ByteArray) (m : Nat) (h : m < s.size) : s.extract m (m + 1) = ⟨#[s[m]]⟩ := by
  apply ByteArray.ext
  rw [ByteArray.data_extract]
  apply Array.ext'
  simp only [Array.toList_extract, List.extract_eq_take_drop]
  rw [List.drop_eq_getElem_cons (by simpa using h)]
  simp
  rfl

theorem drop_reverse (s : ByteArray) (m : Nat) (h : m < s.size) : (s.data.toList.drop m).reverse = (s.data.toList.drop (m + 1)).reverse ++ [s[m]] := by
  rw [List.drop_eq_getElem_cons (by simpa using h), List.reverse_cons]; rfl

theorem plus_two (s t : ByteArray) (hs : s.size ≤ 2000) (ht : t.size ≤ 2000) (w : World) :
    Calls Try.prog 22 #[skv (skOf s), skv (skOf t)] w fun e w' => e = .returned (skv (skOf (s ++ t))) ∧ Below w.heap.size w w' :=
  (plus_any (skOf s) (skOf t) (skOf_bd s (by omega)) (skOf_bd t (by omega)) w).mono fun e w' ⟨he, hb⟩ => ⟨by
    rw [he]; congr 1; refine skv_congr _ _ fun i _ => ?_; unfold skOf; rw [← sk_append]; simp [ByteArray.data_append], hb⟩

theorem of_row2 (s t back : ByteArray) (hs : s.size ≤ 2000) (ht : t.size ≤ 2000) (hb : back = ⟨s.data.toList.reverse.toArray⟩) (v : Value) (w : World) (hv : StrRow w v [t, back]) :
    Calls Try.prog 11 #[v] w fun e w' => e = .returned (skv (skOf (s ++ t))) ∧ Below w.heap.size w w' := by
  have e1 : flat [t, back] = t.data.toList ++ s.data.toList.reverse := by rw [hb]; simp [flat]
  have l1 : s.data.toList.length = s.size := by simp
  have l2 : t.data.toList.length = t.size := by simp
  refine (of_any _ [t, back] _ hv (by rw [e1, List.length_append, List.length_reverse]; omega)).mono fun e w' ⟨he, hb⟩ => ⟨?_, hb⟩
  rw [he, e1]; congr 1; refine skv_congr _ _ fun i _ => ?_
  unfold skOf
  have e2 : (s ++ t).data.toList = s.data.toList ++ t.data.toList := by simp [ByteArray.data_append]
  rw [e2, sk_append, sk_append, sk_reverse]; omega

set_option maxHeartbeats 4000000 in
theorem sketchPlus_walk (s t : ByteArray) (w : World) :
    Calls Try.prog 7 #[.string s, .string t] w fun e w' => e = .returned (.bool true) ∧ Below w.heap.size w w' := by
  by_cases h0 : 2000 < s.size
  · go_enter Try.func7, Try.ntmps7
    go_wp2_with (go_at_call 8; refine (alive_any _).mono ?_; rintro e w1 ⟨rfl, hb⟩; first | have hbb := (by assumption : Below w.heap.size w _).trans (hb.mono (Below.size (by assumption : Below w.heap.size w _))) | have hbb : Below w.heap.size w w1 := hb)
    go_ret
    exact ⟨rfl, hbb⟩
  · by_cases h1 : 2000 < t.size
    · go_enter Try.func7, Try.ntmps7
      go_wp2_with (go_at_call 8; refine (alive_any _).mono ?_; rintro e w1 ⟨rfl, hb⟩; first | have hbb := (by assumption : Below w.heap.size w _).trans (hb.mono (Below.size (by assumption : Below w.heap.size w _))) | have hbb : Below w.heap.size w w1 := hb)
      go_ret
      exact ⟨rfl, hbb⟩
    · have hss : s.size ≤ 2000 := by omega
      have hst : t.size ≤ 2000 := by omega
      go_enter Try.func7, Try.ntmps7
      go_wp2_with (go_at_call 8; refine (alive_any _).mono ?_; rintro e w1 ⟨rfl, hb1⟩)
      go_loop [5, 6] (fun back i => ∃ k : Nat, k ≤ s.size ∧ i = .int .i64 ((k : Int) - 1) ∧ back = .string ⟨(s.data.toList.drop k).reverse.toArray⟩) (fun _ i => (intOf i + 1).toNat)
      case atStart => exact ⟨s.size, by omega, rfl, by rw [List.drop_eq_nil_of_le (by simp)]; rfl⟩
      case round =>
        obtain ⟨k, hk, rfl, rfl⟩ := hrel
        rcases Nat.eq_zero_or_pos k with rfl | hpos
        · generalize hbk : ByteArray.mk (List.drop 0 s.data.toList).reverse.toArray = back
          have hbk' : back = ⟨s.data.toList.reverse.toArray⟩ := by rw [← hbk]; rfl
          have HBK := Lib.hid hbk'
          clear hbk hbk'
          have hsum : (s ++ t).size ≤ 16777216 := by rw [ByteArray.size_append]; omega
          have hbd := skOf_bd (s ++ t) hsum
          go_wp2_with (go_at_call 11; refine (of_one (s ++ t) hsum w1 9).mono ?_; rintro e w2 ⟨rfl, hb2⟩; unfold skv)
          have p1 := fun w => plus_two s t hss hst w
          have p2 := fun v w h => of_row2 s t back hss hst HBK.out v w h
          generalize skOf (s ++ t) = F at hbd p1 p2 ⊢
          have P1 := Lib.hid p1
          have P2 := Lib.hid p2
          clear p1 p2
          have hwa : ∃ wa B : _, wa = w2.alloc (Obj.cells #[.complex .f64 (fb (F 0)) (fb (F 1)), .complex .f64 (fb (F 2)) (fb (F 3)), .complex .f64 (fb (F 4)) (fb (F 5)), .complex .f64 (fb (F 6)) (fb (F 7))] 28) ∧ B = w2.heap.size := ⟨_, _, rfl, rfl⟩
          obtain ⟨wa, B, hwa, hB⟩ := hwa
          rw [← hwa, ← hB]
          have q0 : wa.cell? ⟨B, 0, none⟩ = some (.complex .f64 (fb (F 0)) (fb (F 1))) := by rw [hwa, hB]; simp
          have q1 : wa.cell? ⟨B, 1, none⟩ = some (.complex .f64 (fb (F 2)) (fb (F 3))) := by rw [hwa, hB]; simp
          have q2 : wa.cell? ⟨B, 2, none⟩ = some (.complex .f64 (fb (F 4)) (fb (F 5))) := by rw [hwa, hB]; simp
          have q3 : wa.cell? ⟨B, 3, none⟩ = some (.complex .f64 (fb (F 6)) (fb (F 7))) := by rw [hwa, hB]; simp
          have hbs : B < wa.heap.size := World.block_lt_of_cell? wa _ q0
          have hbwa : Below w.heap.size w wa := by
            rw [hwa]
            exact (((hb1.alloc hb1.size _).trans (hb2.mono (by have := hb1.size; simp; omega))).alloc (by have := hb1.size; have := hb2.size; simp at this; omega) _)
          clear hwa hB hb1 hb2
          have keepS : ∀ w', Below wa.heap.size wa w' → w'.cell? ⟨B, 0, none⟩ = some (.complex .f64 (fb (F 0)) (fb (F 1))) ∧ w'.cell? ⟨B, 1, none⟩ = some (.complex .f64 (fb (F 2)) (fb (F 3))) ∧ w'.cell? ⟨B, 2, none⟩ = some (.complex .f64 (fb (F 4)) (fb (F 5))) ∧ w'.cell? ⟨B, 3, none⟩ = some (.complex .f64 (fb (F 6)) (fb (F 7))) ∧ Below wa.heap.size wa w' := fun w' hb =>
            ⟨below_load q0 hb hbs, below_load q1 hb hbs, below_load q2 hb hbs, below_load q3 hb hbs, hb⟩
          have HK0 := Lib.hid (keepS _ (Below.refl _ _).drew)
          have HKA := Lib.hid (fun (w' : World) (X : Obj) (h : w'.cell? ⟨B, 0, none⟩ = some (.complex .f64 (fb (F 0)) (fb (F 1))) ∧ w'.cell? ⟨B, 1, none⟩ = some (.complex .f64 (fb (F 2)) (fb (F 3))) ∧ w'.cell? ⟨B, 2, none⟩ = some (.complex .f64 (fb (F 4)) (fb (F 5))) ∧ w'.cell? ⟨B, 3, none⟩ = some (.complex .f64 (fb (F 6)) (fb (F 7))) ∧ Below wa.heap.size wa w') => keepS _ (h.2.2.2.2.alloc h.2.2.2.2.size X))
          have HKB := Lib.hid (fun (w' w2 : World) (h : w'.cell? ⟨B, 0, none⟩ = some (.complex .f64 (fb (F 0)) (fb (F 1))) ∧ w'.cell? ⟨B, 1, none⟩ = some (.complex .f64 (fb (F 2)) (fb (F 3))) ∧ w'.cell? ⟨B, 2, none⟩ = some (.complex .f64 (fb (F 4)) (fb (F 5))) ∧ w'.cell? ⟨B, 3, none⟩ = some (.complex .f64 (fb (F 6)) (fb (F 7))) ∧ Below wa.heap.size wa w') (hb2 : Below w'.heap.size w' w2) => keepS _ (h.2.2.2.2.trans (hb2.mono h.2.2.2.2.size)))
          clear keepS
          have hs1 : s.size ≤ 16777216 := by omega
          have ht1 : t.size ≤ 16777216 := by omega
          have heq : ∀ w, (binOp .eql 28 (.agg #[.complex .f64 (fb (F 0)) (fb (F 1)), .complex .f64 (fb (F 2)) (fb (F 3)), .complex .f64 (fb (F 4)) (fb (F 5)), .complex .f64 (fb (F 6)) (fb (F 7))]) (.agg #[.complex .f64 (fb (F 0)) (fb (F 1)), .complex .f64 (fb (F 2)) (fb (F 3)), .complex .f64 (fb (F 4)) (fb (F 5)), .complex .f64 (fb (F 6)) (fb (F 7))])).run Try.prog w = .ok (.bool true) w := fun w => by
            have h := eq_sk F F hbd hbd w
            simpa [skv] using h
          go_region_held3 (fun WW => WW.cell? ⟨B, 0, none⟩ = some (.complex .f64 (fb (F 0)) (fb (F 1))) ∧ WW.cell? ⟨B, 1, none⟩ = some (.complex .f64 (fb (F 2)) (fb (F 3))) ∧ WW.cell? ⟨B, 2, none⟩ = some (.complex .f64 (fb (F 4)) (fb (F 5))) ∧ WW.cell? ⟨B, 3, none⟩ = some (.complex .f64 (fb (F 6)) (fb (F 7))) ∧ Below wa.heap.size wa WW) (first | exact HK0.out | exact HKA.out _ _ (by assumption) | exact HKB.out _ _ (by assumption) (by assumption)) (first | (go_at_call 8; refine (alive_any _).mono ?_; rintro e wA ⟨rfl, hb2⟩) | (go_at_call 11; refine (of_row1 s hs1 _ _ ?_).mono ?_; (with_reducible first | exact strRow_one _ _ _ | exact strRow_l2 _ _ _ _ | exact strRow_l3 _ _ _ _ | exact StrRow.below (strRow_l2 _ _ _ _) (by assumption) | exact StrRow.below (strRow_l3 _ _ _ _) (by assumption)); rintro e wB ⟨rfl, hb2⟩) | (go_at_call 11; refine (of_row1 t ht1 _ _ ?_).mono ?_; (with_reducible first | exact strRow_one _ _ _ | exact strRow_l2 _ _ _ _ | exact strRow_l3 _ _ _ _ | exact StrRow.below (strRow_l2 _ _ _ _) (by assumption) | exact StrRow.below (strRow_l3 _ _ _ _) (by assumption)); rintro e wC ⟨rfl, hb2⟩) | (go_at_call 22; refine (P1.out _).mono ?_; rintro e wD ⟨rfl, hb2⟩; unfold skv) | (go_at_call 11; refine (P2.out _ _ ?_).mono ?_; (with_reducible exact strRow_two _ _ _ _); rintro e wE ⟨rfl, hb2⟩; unfold skv))
          all_goals
            have hS : wE.cell? ⟨B, 0, none⟩ = some (.complex .f64 (fb (F 0)) (fb (F 1))) ∧ wE.cell? ⟨B, 1, none⟩ = some (.complex .f64 (fb (F 2)) (fb (F 3))) ∧ wE.cell? ⟨B, 2, none⟩ = some (.complex .f64 (fb (F 4)) (fb (F 5))) ∧ wE.cell? ⟨B, 3, none⟩ = some (.complex .f64 (fb (F 6)) (fb (F 7))) ∧ Below wa.heap.size wa wE := by assumption
            have hbw2 : Below w.heap.size w wE := hbwa.trans (hS.2.2.2.2.mono hbwa.size)
            clear hS HK0 HKA HKB P1 P2
            go_wp2
            go_ret
            exact ⟨rfl, hbw2⟩
        · obtain ⟨m, rfl⟩ : ∃ m, k = m + 1 := ⟨k - 1, by omega⟩
          rw [show ((m + 1 : Nat) : Int) - 1 = m from by omega]
          have hlen : (s.data.toList.drop (m + 1)).length = s.size - (m + 1) := by simp
          have HL := Lib.hid hlen
          clear hlen
          generalize hB : s.data.toList.drop (m + 1) = B at HL
          have HB := Lib.hid hB
          clear hB
          have hBl : B.length ≤ 2000 := by rw [HL.out]; omega
          have l0 : (0 : Int) ≤ m := by omega
          have l1 : (m : Int) + 1 ≤ s.size := by omega
          go_wp2
          go_round
          case rel =>
            refine ⟨m, by omega, rfl, ?_⟩
            rw [drop_reverse s m (by omega), HB.out, extract_one s m (by omega)]
            congr 1
          case measure => simp [intOf]
end Go.Proofs.Ytjgmfhfncphbnaa
