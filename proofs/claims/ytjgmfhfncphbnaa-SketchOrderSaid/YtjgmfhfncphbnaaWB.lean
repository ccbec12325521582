/- Walks: what every right program answers. -/
import Derived.Test.YtjgmfhfncphbnaaWA
import Derived.Deep.RegionHeld3
namespace Go.Proofs.Ytjgmfhfncphbnaa
open Go.RowKit Fl

theorem strRow_one (w : World) (s : ByteArray) (t : TypeId) : StrRow (w.alloc (.cells #[.string s] t)) (.slice (some ⟨w.heap.size, 0, none⟩) 1 1) [s] := by
  refine ⟨_, 1, rfl, by simp [maxLen], fun _ => ⟨w.heap.size, 0, rfl, by simp, fun i hi => ?_⟩⟩
  simp only [List.length_singleton] at hi
  obtain rfl : i = 0 := by omega
  simp

def f4 (i : Nat) : Int := if i = 0 then 4 else 0
def fz (i : Nat) : Int := if i = 4 then 40 else if i = 5 then 28 else 0
theorem sk04 : ∀ i, i < 8 → sk [0, 4] i = f4 i := by decide
theorem skz : ∀ i, i < 8 → sk [122, 122, 122, 122] i = fz i := by decide
theorem skv_congr (f g : Nat → Int) (h : ∀ i, i < 8 → f i = g i) : skv f = skv g := by
  unfold skv; rw [h 0 (by omega), h 1 (by omega), h 2 (by omega), h 3 (by omega), h 4 (by omega), h 5 (by omega), h 6 (by omega), h 7 (by omega)]
theorem bd4 : Bd f4 := fun i _ => by unfold f4; split <;> omega
theorem bdz : Bd fz := fun i _ => by unfold fz; split <;> (try split) <;> omega

theorem of_04 (w : World) (t : TypeId) : Calls Try.prog 11 #[.slice (some ⟨w.heap.size, 0, none⟩) 1 1] (w.alloc (.cells #[.string ⟨#[0, 4]⟩] t)) fun e w' => e = .returned (skv f4) ∧ Below (w.alloc (.cells #[.string ⟨#[0, 4]⟩] t)).heap.size (w.alloc (.cells #[.string ⟨#[0, 4]⟩] t)) w' :=
  (of_any _ [⟨#[0, 4]⟩] _ (strRow_one w ⟨#[0, 4]⟩ t) (by decide)).mono fun e w' ⟨he, hb⟩ => ⟨by rw [he, flat_one, skv_congr _ f4 sk04], hb⟩
theorem of_z (w : World) (t : TypeId) : Calls Try.prog 11 #[.slice (some ⟨w.heap.size, 0, none⟩) 1 1] (w.alloc (.cells #[.string ⟨#[122, 122, 122, 122]⟩] t)) fun e w' => e = .returned (skv fz) ∧ Below (w.alloc (.cells #[.string ⟨#[122, 122, 122, 122]⟩] t)).heap.size (w.alloc (.cells #[.string ⟨#[122, 122, 122, 122]⟩] t)) w' :=
  (of_any _ [⟨#[122, 122, 122, 122]⟩] _ (strRow_one w ⟨#[122, 122, 122, 122]⟩ t) (by decide)).mono fun e w' ⟨he, hb⟩ => ⟨by rw [he, flat_one, skv_congr _ fz skz], hb⟩
theorem of_zd (w : World) (t : TypeId) : Calls Try.prog 11 #[.slice (some ⟨w.heap.size, 0, none⟩) 1 1] (w.alloc (.cells #[.string ⟨#[122, 122, 122, 122]⟩] t)).drew fun e w' => e = .returned (skv fz) ∧ Below (w.alloc (.cells #[.string ⟨#[122, 122, 122, 122]⟩] t)).drew.heap.size (w.alloc (.cells #[.string ⟨#[122, 122, 122, 122]⟩] t)).drew w' := of_z w.drew t
theorem ord3 : ordS [f4, fz, f4] = [0, 2, 1] := by decide +kernel
def row3 : Array Value := #[.complex .f64 (fb (f4 0)) (fb (f4 1)), .complex .f64 (fb (f4 2)) (fb (f4 3)), .complex .f64 (fb (f4 4)) (fb (f4 5)), .complex .f64 (fb (f4 6)) (fb (f4 7)), .complex .f64 (fb (fz 0)) (fb (fz 1)), .complex .f64 (fb (fz 2)) (fb (fz 3)), .complex .f64 (fb (fz 4)) (fb (fz 5)), .complex .f64 (fb (fz 6)) (fb (fz 7)), .complex .f64 (fb (f4 0)) (fb (f4 1)), .complex .f64 (fb (f4 2)) (fb (f4 3)), .complex .f64 (fb (f4 4)) (fb (f4 5)), .complex .f64 (fb (f4 6)) (fb (f4 7))]
theorem order_3 (w : World) (t : TypeId) : Calls Try.prog 20 #[.slice (some ⟨w.heap.size, 0, none⟩) 3 3] (w.alloc (.cells row3 t)) fun e w' => ∃ o, e = .returned o ∧ IntRow w' o [0, 2, 1] ∧ Below (w.alloc (.cells row3 t)).heap.size (w.alloc (.cells row3 t)) w' := by
  have h := order_any (.slice (some ⟨w.heap.size, 0, none⟩) 3 3) [f4, fz, f4] (w.alloc (.cells row3 t)) (by
    intro g hg
    simp only [List.mem_cons, List.not_mem_nil, or_false] at hg
    rcases hg with rfl | rfl | rfl
    · exact bd4
    · exact bdz
    · exact bd4) (by decide) ⟨_, 3, rfl, by simp [maxLen], fun _ => ⟨w.heap.size, 0, rfl, by simp, fun i hi => by
      simp only [List.length_map, List.length_cons, List.length_nil] at hi
      intro j u hu
      rw [World.cell?_alloc_new]
      rcases (by omega : i = 0 ∨ i = 1 ∨ i = 2) with rfl | rfl | rfl
      all_goals
        have hj := (List.getElem?_eq_some_iff.1 hu).1
        simp only [List.getElem_map, List.getElem_cons_zero, List.getElem_cons_succ, skl, List.length_cons, List.length_nil] at hj
        rcases (by omega : j = 0 ∨ j = 1 ∨ j = 2 ∨ j = 3) with rfl | rfl | rfl | rfl <;> exact hu⟩⟩
  rw [ord3] at h
  exact h

theorem of_none (w : World) : Calls Try.prog 11 #[.slice none 0 0] w fun e w' => e = .returned (skv fun _ => 0) ∧ Below w.heap.size w w' :=
  (of_any _ [] w ⟨none, 0, rfl, by simp, fun h => absurd rfl h⟩ (by decide)).mono fun e w' ⟨he, hb⟩ => ⟨by rw [he]; rfl, hb⟩

theorem far04 : far f4 (fun _ => 0) = 4 := by decide
theorem far_04 (w : World) : Calls Try.prog 15 #[skv f4, skv fun _ => 0] w fun e w' => e = .returned (.int .i64 4) ∧ Below w.heap.size w w' := by
  have h := far_any f4 (fun _ => 0) bd4 (fun _ _ => ⟨Int.le_refl 0, by show (0 : Int) ≤ 400000000; decide⟩) w
  rw [far04] at h
  exact h
theorem IntRow.below {w w' : World} {v : Value} {xs : List Int} (h : IntRow w v xs) (hb : Below w.heap.size w w') : IntRow w' v xs := by
  obtain ⟨ao, cap, rfl, hm, h⟩ := h
  refine ⟨ao, cap, rfl, hm, fun hne => ?_⟩
  obtain ⟨b, off, e, hl, hc⟩ := h hne
  exact ⟨b, off, e, Nat.lt_of_lt_of_le hl hb.size, fun i hi => by rw [hb.cell (p := ⟨b, off + i, none⟩) hl]; exact hc i hi⟩
theorem same_021 (o : Value) (w : World) (t : TypeId) (ho : IntRow (w.alloc (.cells #[.int .i64 0, .int .i64 2, .int .i64 1] t)) o [0, 2, 1]) : Calls Try.prog 19 #[o, .slice (some ⟨w.heap.size, 0, none⟩) 3 3] (w.alloc (.cells #[.int .i64 0, .int .i64 2, .int .i64 1] t)) fun e w' => e = .returned (.bool true) ∧ Below (w.alloc (.cells #[.int .i64 0, .int .i64 2, .int .i64 1] t)).heap.size (w.alloc (.cells #[.int .i64 0, .int .i64 2, .int .i64 1] t)) w' := by
  refine (sameInts_any o (.slice (some ⟨w.heap.size, 0, none⟩) 3 3) [0, 2, 1] [0, 2, 1] _ ho ⟨_, 3, rfl, by simp [maxLen], fun _ => ⟨w.heap.size, 0, rfl, by simp, fun i hi => ?_⟩⟩).mono fun e w' ⟨he, n, hw⟩ => ⟨by rw [he]; simp, by rw [hw]; exact below_drewN (Below.refl _ _) n⟩
  simp only [List.length_cons, List.length_nil] at hi
  rcases (by omega : i = 0 ∨ i = 1 ∨ i = 2) with rfl | rfl | rfl <;> simp

set_option maxHeartbeats 1000000 in
theorem alive_any (w : World) : Calls Try.prog 8 #[] w fun e w' => e = .returned (.bool true) ∧ Below w.heap.size w w' := by
  go_enter Try.func8, Try.ntmps8
  go_wp2_with (go_at_call 11; refine (of_04 w 9).mono ?_; rintro e w1 ⟨rfl, hb1⟩; unfold skv)
  have hwa : ∃ wa B : _, wa = w1.alloc (Obj.cells #[.complex .f64 (fb (f4 0)) (fb (f4 1)), .complex .f64 (fb (f4 2)) (fb (f4 3)), .complex .f64 (fb (f4 4)) (fb (f4 5)), .complex .f64 (fb (f4 6)) (fb (f4 7))] 28) ∧ B = w1.heap.size := ⟨_, _, rfl, rfl⟩
  obtain ⟨wa, B, hwa, hB⟩ := hwa
  rw [← hwa, ← hB]
  have q0 : wa.cell? ⟨B, 0, none⟩ = some (.complex .f64 (fb (f4 0)) (fb (f4 1))) := by rw [hwa, hB]; simp
  have q1 : wa.cell? ⟨B, 1, none⟩ = some (.complex .f64 (fb (f4 2)) (fb (f4 3))) := by rw [hwa, hB]; simp
  have q2 : wa.cell? ⟨B, 2, none⟩ = some (.complex .f64 (fb (f4 4)) (fb (f4 5))) := by rw [hwa, hB]; simp
  have q3 : wa.cell? ⟨B, 3, none⟩ = some (.complex .f64 (fb (f4 6)) (fb (f4 7))) := by rw [hwa, hB]; simp
  have hbs : B < wa.heap.size := World.block_lt_of_cell? wa _ q0
  have hbwa : Below w.heap.size w wa := by
    rw [hwa]
    exact ((((Below.refl _ _).alloc (Nat.le_refl _) _).trans (hb1.mono (by simp))).alloc (by have := hb1.size; simp at this; omega) _)
  clear hwa hB hb1
  have keepS : ∀ w', Below wa.heap.size wa w' → w'.cell? ⟨B, 0, none⟩ = some (.complex .f64 (fb (f4 0)) (fb (f4 1))) ∧ w'.cell? ⟨B, 1, none⟩ = some (.complex .f64 (fb (f4 2)) (fb (f4 3))) ∧ w'.cell? ⟨B, 2, none⟩ = some (.complex .f64 (fb (f4 4)) (fb (f4 5))) ∧ w'.cell? ⟨B, 3, none⟩ = some (.complex .f64 (fb (f4 6)) (fb (f4 7))) ∧ Below wa.heap.size wa w' := fun w' hb =>
    ⟨below_load q0 hb hbs, below_load q1 hb hbs, below_load q2 hb hbs, below_load q3 hb hbs, hb⟩
  have HK0 := Lib.hid (keepS _ (Below.refl _ _).drew)
  have HKA := Lib.hid (fun (w' : World) (X : Obj) (h : w'.cell? ⟨B, 0, none⟩ = some (.complex .f64 (fb (f4 0)) (fb (f4 1))) ∧ w'.cell? ⟨B, 1, none⟩ = some (.complex .f64 (fb (f4 2)) (fb (f4 3))) ∧ w'.cell? ⟨B, 2, none⟩ = some (.complex .f64 (fb (f4 4)) (fb (f4 5))) ∧ w'.cell? ⟨B, 3, none⟩ = some (.complex .f64 (fb (f4 6)) (fb (f4 7))) ∧ Below wa.heap.size wa w') => keepS _ (h.2.2.2.2.alloc h.2.2.2.2.size X))
  have HKB := Lib.hid (fun (w' w2 : World) (h : w'.cell? ⟨B, 0, none⟩ = some (.complex .f64 (fb (f4 0)) (fb (f4 1))) ∧ w'.cell? ⟨B, 1, none⟩ = some (.complex .f64 (fb (f4 2)) (fb (f4 3))) ∧ w'.cell? ⟨B, 2, none⟩ = some (.complex .f64 (fb (f4 4)) (fb (f4 5))) ∧ w'.cell? ⟨B, 3, none⟩ = some (.complex .f64 (fb (f4 6)) (fb (f4 7))) ∧ Below wa.heap.size wa w') (hb2 : Below w'.heap.size w' w2) => keepS _ (h.2.2.2.2.trans (hb2.mono h.2.2.2.2.size)))
  clear keepS
  go_region_held3 (fun w' => w'.cell? ⟨B, 0, none⟩ = some (.complex .f64 (fb (f4 0)) (fb (f4 1))) ∧ w'.cell? ⟨B, 1, none⟩ = some (.complex .f64 (fb (f4 2)) (fb (f4 3))) ∧ w'.cell? ⟨B, 2, none⟩ = some (.complex .f64 (fb (f4 4)) (fb (f4 5))) ∧ w'.cell? ⟨B, 3, none⟩ = some (.complex .f64 (fb (f4 6)) (fb (f4 7))) ∧ Below wa.heap.size wa w') (first | exact HK0.out | exact HKA.out _ _ (by assumption) | exact HKB.out _ _ (by assumption) (by assumption)) (first | (go_at_call 11; refine (of_zd _ 9).mono ?_; rintro e w2 ⟨rfl, hb2⟩; unfold skv) | (go_at_call 20; refine (order_3 _ 28).mono ?_; rintro e w4 ⟨o, rfl, ho, hb2⟩))
  have hS : w4.cell? ⟨B, 0, none⟩ = some (.complex .f64 (fb (f4 0)) (fb (f4 1))) ∧ w4.cell? ⟨B, 1, none⟩ = some (.complex .f64 (fb (f4 2)) (fb (f4 3))) ∧ w4.cell? ⟨B, 2, none⟩ = some (.complex .f64 (fb (f4 4)) (fb (f4 5))) ∧ w4.cell? ⟨B, 3, none⟩ = some (.complex .f64 (fb (f4 6)) (fb (f4 7))) ∧ Below wa.heap.size wa w4 := by assumption
  obtain ⟨d0, d1, d2, d3, hb4⟩ := hS
  have hbw4 : Below w.heap.size w w4 := hbwa.trans (hb4.mono hbwa.size)
  clear HK0 HKA HKB hb2 q0 q1 q2 q3
  have hbs4 : B < w4.heap.size := World.block_lt_of_cell? w4 _ d0
  have keepS : ∀ w', Below w4.heap.size w4 w' → w'.cell? ⟨B, 0, none⟩ = some (.complex .f64 (fb (f4 0)) (fb (f4 1))) ∧ w'.cell? ⟨B, 1, none⟩ = some (.complex .f64 (fb (f4 2)) (fb (f4 3))) ∧ w'.cell? ⟨B, 2, none⟩ = some (.complex .f64 (fb (f4 4)) (fb (f4 5))) ∧ w'.cell? ⟨B, 3, none⟩ = some (.complex .f64 (fb (f4 6)) (fb (f4 7))) ∧ Below w4.heap.size w4 w' := fun w' hb =>
    ⟨below_load d0 hb hbs4, below_load d1 hb hbs4, below_load d2 hb hbs4, below_load d3 hb hbs4, hb⟩
  have HK0 := Lib.hid (keepS _ (Below.refl _ _).drew)
  have HKA := Lib.hid (fun (w' : World) (X : Obj) (h : w'.cell? ⟨B, 0, none⟩ = some (.complex .f64 (fb (f4 0)) (fb (f4 1))) ∧ w'.cell? ⟨B, 1, none⟩ = some (.complex .f64 (fb (f4 2)) (fb (f4 3))) ∧ w'.cell? ⟨B, 2, none⟩ = some (.complex .f64 (fb (f4 4)) (fb (f4 5))) ∧ w'.cell? ⟨B, 3, none⟩ = some (.complex .f64 (fb (f4 6)) (fb (f4 7))) ∧ Below w4.heap.size w4 w') => keepS _ (h.2.2.2.2.alloc h.2.2.2.2.size X))
  have HKB := Lib.hid (fun (w' w2 : World) (h : w'.cell? ⟨B, 0, none⟩ = some (.complex .f64 (fb (f4 0)) (fb (f4 1))) ∧ w'.cell? ⟨B, 1, none⟩ = some (.complex .f64 (fb (f4 2)) (fb (f4 3))) ∧ w'.cell? ⟨B, 2, none⟩ = some (.complex .f64 (fb (f4 4)) (fb (f4 5))) ∧ w'.cell? ⟨B, 3, none⟩ = some (.complex .f64 (fb (f4 6)) (fb (f4 7))) ∧ Below w4.heap.size w4 w') (hb2 : Below w'.heap.size w' w2) => keepS _ (h.2.2.2.2.trans (hb2.mono h.2.2.2.2.size)))
  have HO := Lib.hid (fun (w' : World) (h : w'.cell? ⟨B, 0, none⟩ = some (.complex .f64 (fb (f4 0)) (fb (f4 1))) ∧ w'.cell? ⟨B, 1, none⟩ = some (.complex .f64 (fb (f4 2)) (fb (f4 3))) ∧ w'.cell? ⟨B, 2, none⟩ = some (.complex .f64 (fb (f4 4)) (fb (f4 5))) ∧ w'.cell? ⟨B, 3, none⟩ = some (.complex .f64 (fb (f4 6)) (fb (f4 7))) ∧ Below w4.heap.size w4 w') => ho.below h.2.2.2.2)
  clear keepS ho
  have hq : (FloatKind.f64.format.order (fb (f4 0)) 4616189618054758400 == some Ordering.eq) = true := by decide +kernel
  go_wp2
  go_region_held3 (fun w' => w'.cell? ⟨B, 0, none⟩ = some (.complex .f64 (fb (f4 0)) (fb (f4 1))) ∧ w'.cell? ⟨B, 1, none⟩ = some (.complex .f64 (fb (f4 2)) (fb (f4 3))) ∧ w'.cell? ⟨B, 2, none⟩ = some (.complex .f64 (fb (f4 4)) (fb (f4 5))) ∧ w'.cell? ⟨B, 3, none⟩ = some (.complex .f64 (fb (f4 6)) (fb (f4 7))) ∧ Below w4.heap.size w4 w') (first | exact HK0.out | exact HKA.out _ _ (by assumption) | exact HKB.out _ _ (by assumption) (by assumption)) (first | (go_at_call 11; refine (of_none _).mono ?_; rintro e w2 ⟨rfl, hb2⟩; unfold skv) | (go_at_call 15; refine (far_04 _).mono ?_; rintro e w2 ⟨rfl, hb2⟩) | (go_at_call 19; refine (same_021 o _ 3 (HO.out _ (by assumption))).mono ?_; rintro e w2 ⟨rfl, hb2⟩))
  have hS : w2.cell? ⟨B, 0, none⟩ = some (.complex .f64 (fb (f4 0)) (fb (f4 1))) ∧ w2.cell? ⟨B, 1, none⟩ = some (.complex .f64 (fb (f4 2)) (fb (f4 3))) ∧ w2.cell? ⟨B, 2, none⟩ = some (.complex .f64 (fb (f4 4)) (fb (f4 5))) ∧ w2.cell? ⟨B, 3, none⟩ = some (.complex .f64 (fb (f4 6)) (fb (f4 7))) ∧ Below w4.heap.size w4 w2 := by assumption
  have hbw2 : Below w.heap.size w w2 := hbw4.trans (hS.2.2.2.2.mono hbw4.size)
  clear hS HK0 HKA HKB HO d0 d1 d2 d3 hb2
  go_wp2
  go_ret
  exact ⟨rfl, hbw2⟩
end Go.Proofs.Ytjgmfhfncphbnaa
