/- The walk of the law DiffBack. -/
import Derived.Test.YtodnfcbecojieaaDoorDA
import Derived.Test.YtodnfcbecojieaaDoorPb
namespace Go.Proofs.YtodnfcbecojieaaDoor
open Go.RowKit

/-- Is a path among the first k that are told? -/
def tl (l : List (ByteArray × Nat)) (p : ByteArray) (k : Nat) : Bool := (l.take k).any fun x => decide (x.1 = p)
theorem tl_next (l : List (ByteArray × Nat)) (p : ByteArray) (k : Nat) (h : k < l.length) : tl l p (k + 1) = (tl l p k || decide (l[k].1 = p)) := by
  unfold tl; rw [List.take_succ_eq_append_getElem h, List.any_append]; simp
theorem tl_all (l : List (ByteArray × Nat)) (p : ByteArray) : tl l p l.length = decide (∃ x ∈ l, x.1 = p) := by
  unfold tl; rw [List.take_length, Bool.eq_iff_iff, List.any_eq_true, decide_eq_true_eq]
  simp

set_option maxRecDepth 100000 in
set_option maxHeartbeats 8000000 in
theorem diffBack_walk (v u : Value) (a b : List Lf) (w : World) (hm : MaxAt w) (hv : LeafRow w v a) (hu : LeafRow w u b) (ha : ∀ f ∈ a, f.2.size ≤ 1000000000000000) (hb : ∀ f ∈ b, f.2.size ≤ 1000000000000000) :
    Calls Tryd.prog 4 #[v, u] w fun e w' => e = .returned (.bool true) ∧ Below w.heap.size w w' := by
  have st : St2 w v a u b w := ⟨hv, hu, hm, Below.refl _ _⟩
  clear hv hu hm
  cases hga : gr27 a with
  | true =>
    go_enter Tryd.func4, Tryd.ntmps4
    go_wp2_with (first | (go_at_call 5; refine (alive_any _ (St2.mx (by assumption))).mono ?_; rintro e wx ⟨rfl, hbx⟩; have st := St2.step (by assumption) hbx) | (go_at_call_of 6 v; refine (great27_any v a _ ha (St2.ra (by assumption))).mono ?_; rintro e wx ⟨rfl, hbx⟩; rw [hga]; have st := St2.step (by assumption) hbx) | (go_at_call_of 6 u; refine (great27_any u b _ hb (St2.rb (by assumption))).mono ?_; rintro e wx ⟨rfl, hbx⟩; rw [hgb]; have st := St2.step (by assumption) hbx))
    go_ret
    exact ⟨rfl, st.bel⟩
  | false =>
    cases hgb : gr27 b with
    | true =>
      go_enter Tryd.func4, Tryd.ntmps4
      go_wp2_with (first | (go_at_call 5; refine (alive_any _ (St2.mx (by assumption))).mono ?_; rintro e wx ⟨rfl, hbx⟩; have st := St2.step (by assumption) hbx) | (go_at_call_of 6 v; refine (great27_any v a _ ha (St2.ra (by assumption))).mono ?_; rintro e wx ⟨rfl, hbx⟩; rw [hga]; have st := St2.step (by assumption) hbx) | (go_at_call_of 6 u; refine (great27_any u b _ hb (St2.rb (by assumption))).mono ?_; rintro e wx ⟨rfl, hbx⟩; rw [hgb]; have st := St2.step (by assumption) hbx))
      go_ret
      exact ⟨rfl, st.bel⟩
    | false =>
      obtain ⟨la, sa⟩ := gr27_no hga
      obtain ⟨lb, sb⟩ := gr27_no hgb
      have hsa : ∀ f ∈ a, f.1.size ≤ 1000000 ∧ f.2.size ≤ 1000000 := fun f hf => by have := sa f hf; omega
      have hsb : ∀ f ∈ b, f.1.size ≤ 1000000 ∧ f.2.size ≤ 1000000 := fun f hf => by have := sb f hf; omega
      have hD1 := fun w' (h : St2 w v a u b w') => dfiles_any v u a b w' h.ra h.rb hsa hsb (by omega) (by omega) h.mx
      have hD2 := fun w' (h : St2 w v a u b w') => dfiles_any u v b a w' h.rb h.ra hsb hsa (by omega) (by omega) h.mx
      have hD3 := fun w' (h : St2 w v a u b w') => dfiles_any v v a a w' h.ra h.ra hsa hsa (by omega) (by omega) h.mx
      rw [files_self] at hD3
      rw [files_turn a b] at hD2
      have hpaths : ∀ x ∈ filesS a b, x.1.size ≤ 1000000 := fun x hx => by
        rw [filesS_tell] at hx
        obtain ⟨p, hp, hq⟩ := List.mem_filterMap.1 hx
        unfold tell at hq
        split at hq
        · cases hq
        · cases hq
          rcases (mem_paths a b p).1 hp with h | h
          · obtain ⟨f, hf, rfl⟩ := (findS_some a p).1 h; exact (hsa f hf).1
          · obtain ⟨f, hf, rfl⟩ := (findS_some b p).1 h; exact (hsb f hf).1
      have HASC := Lib.hid (files_asc a b)
      have HTOLD := Lib.hid (files_told a b)
      have HPS := Lib.hid hpaths
      clear hpaths sa sb hsa hsb
      have hll : (filesS a b).length ≤ 1000000 := by
        rw [filesS_tell]
        have h1 := List.length_filterMap_le (tell a b) (pathsS (pathsS [] a) b)
        have h2 := paths_len [] a; have h3 := paths_len (pathsS [] a) b
        simp at h2; omega
      generalize filesS a b = l at hll hD1 hD2 HASC HTOLD HPS
      go_enter Tryd.func4, Tryd.ntmps4
      go_wp2_with (first | (go_at_call 5; refine (alive_any _ (St2.mx (by assumption))).mono ?_; rintro e wx ⟨rfl, hbx⟩; have st := St2.step (by assumption) hbx) | (go_at_call_of 6 v; refine (great27_any v a _ ha (St2.ra (by assumption))).mono ?_; rintro e wx ⟨rfl, hbx⟩; rw [hga]; have st := St2.step (by assumption) hbx) | (go_at_call_of 6 u; refine (great27_any u b _ hb (St2.rb (by assumption))).mono ?_; rintro e wx ⟨rfl, hbx⟩; rw [hgb]; have st := St2.step (by assumption) hbx) | (go_at_call_of 8 v; refine (hD1 _ (by assumption)).mono ?_; rintro e wd ⟨o1, rfl, r1, hbd⟩; clear hD1; have st := St2.step (by assumption) hbd) | (go_at_call_of 8 u; refine (hD2 _ (by assumption)).mono ?_; rintro e wd2 ⟨o2, rfl, r2, hbd2⟩; have r1 := ApRow.below r1 hbd2; have st := St2.step (by assumption) hbd2) | (go_at_call_of 8 v; refine (hD3 _ (by assumption)).mono ?_; rintro e wd3 ⟨o3, rfl, r3, hbd3⟩; have r1 := ApRow.below r1 hbd3; have r2 := ApRow.below r2 hbd3; obtain ⟨ao3, cap3, rfl, _, _⟩ := r3.open; obtain ⟨ao1, cap1, rfl, hm1, hr1⟩ := r1.open; obtain ⟨ao2, cap2, rfl, hm2, hr2⟩ := r2.open; simp only [List.length_map, List.getElem_map] at hr2; simp only [List.length_map, List.length_nil]; have st := St2.step (by assumption) hbd3))
      have HR1 := Lib.hid hr1
      have HR2 := Lib.hid hr2
      clear hr1 hr2 hD2 hD3
      go_loopw [7, 8] (fun i _ wr => ∃ k : Nat, k ≤ l.length ∧ i = .int .i64 k ∧ Below wd3.heap.size wd3 wr) (fun i _ _ => (l.length - intOf i).toNat)
      case atStart => exact ⟨0, by omega, rfl, Below.refl _ _⟩
      case round =>
        obtain ⟨k, hk, rfl, hbr⟩ := hrel
        by_cases hlt : k < l.length
        · have hne : l ≠ [] := by intro e; rw [e] at hlt; simp at hlt
          obtain ⟨bl, ol, rfl, hbl, hcl⟩ := HR1.out hne
          obtain ⟨bm, om, rfl, hbm, hcm⟩ := HR2.out (by simpa using hne)
          have c1 := below_load (hcl k hlt).1 hbr hbl
          have c2 := below_load (hcl k hlt).2 hbr hbl
          have c3 := below_load (hcm k hlt).1 hbr hbm
          have c4 := below_load (hcm k hlt).2 hbr hbm
          have hszr := hbr.size
          have hll2 : bl < wr.heap.size := by omega
          have hlm : bm < wr.heap.size := by omega
          have hmx := st.mx.step hbr
          have hps := HPS.out l[k] (List.getElem_mem hlt)
          have i0 : (0 : Int) ≤ k := by omega
          have i1 : (k : Int) < l.length := by omega
          by_cases hk0 : k = 0
          · subst hk0
            simp only [Nat.zero_mul, Nat.add_zero] at c1 c2 c3 c4
            generalize l[0].1 = p at c1 c3 hps
            generalize l[0].2 = t at c2 c4
            by_cases ht1 : t = 1
            · subst ht1
              have e4 : turnK 1 = 2 := rfl
              rw [e4] at c4
              go_wp2
              refine wp_region_below wr.heap.size (by kernel_rfl) (by kernel_rfl) ?_
              refine WQ.val rfl (fun w hw => by go_simp; rfl) ?_
              simp only [Act.put, List.setIfInBounds_toArray, List.set_cons_zero, List.set_cons_succ]
              refine WQ.val rfl (fun w hw => by go_simp; rfl) ?_
              simp only [Act.put, List.setIfInBounds_toArray, List.set_cons_zero, List.set_cons_succ]
              refine WQ.val rfl (fun w hw => by go_simp; rfl) ?_
              simp only [Act.put, List.setIfInBounds_toArray, List.set_cons_zero, List.set_cons_succ]
              refine WQ.val rfl (fun w hw => by have := below_load c3 hw hlm; have := below_load c4 hw hlm; go_simp; rfl) ?_
              simp only [Act.put, List.setIfInBounds_toArray, List.set_cons_zero, List.set_cons_succ]
              refine WQ.val rfl (fun w hw => by go_simp; rfl) ?_
              simp only [Act.put, List.setIfInBounds_toArray, List.set_cons_zero, List.set_cons_succ]
              refine WQ.val rfl (fun w hw => by go_simp; rfl) ?_
              simp only [Act.put, List.setIfInBounds_toArray, List.set_cons_zero, List.set_cons_succ]
              refine WQ.val rfl (fun w hw => by go_simp; rfl) ?_
              simp only [Act.put, List.setIfInBounds_toArray, List.set_cons_zero, List.set_cons_succ]
              refine WQ.val rfl (fun w hw => by go_simp; rfl) ?_
              simp only [Act.put, List.setIfInBounds_toArray, List.set_cons_zero, List.set_cons_succ]
              refine WQ.val rfl (fun w hw => by have := below_load c1 hw hll2; go_simp; rfl) ?_
              simp only [Act.put, List.setIfInBounds_toArray, List.set_cons_zero, List.set_cons_succ]
              refine WQ.val rfl (fun w hw => by go_simp; rfl) ?_
              simp only [Act.put, List.setIfInBounds_toArray, List.set_cons_zero, List.set_cons_succ]
              refine WQ.val rfl (fun w hw => by go_simp; rfl) ?_
              simp only [Act.put, List.setIfInBounds_toArray, List.set_cons_zero, List.set_cons_succ]
              refine WQ.val rfl (fun w hw => by go_simp; rfl) ?_
              simp only [Act.put, List.setIfInBounds_toArray, List.set_cons_zero, List.set_cons_succ]
              refine WQ.val rfl (fun w hw => by go_simp; rfl) ?_
              simp only [Act.put, List.setIfInBounds_toArray, List.set_cons_zero, List.set_cons_succ]
              refine WQ.val rfl (fun w hw => by go_simp; rfl) ?_
              simp only [Act.put, List.setIfInBounds_toArray, List.set_cons_zero, List.set_cons_succ]
              refine WQ.val rfl (fun w hw => by go_simp; rfl) ?_
              simp only [Act.put, List.setIfInBounds_toArray, List.set_cons_zero, List.set_cons_succ]
              refine WQ.val rfl (fun w hw => by go_simp; rfl) ?_
              simp only [Act.put, List.setIfInBounds_toArray, List.set_cons_zero, List.set_cons_succ]
              refine WQ.off rfl ?_
              simp only [Act.put, List.setIfInBounds_toArray, List.set_cons_zero, List.set_cons_succ]
              refine WQ.off rfl ?_
              simp only [Act.put, List.setIfInBounds_toArray, List.set_cons_zero, List.set_cons_succ]
              refine WQ.off rfl ?_
              simp only [Act.put, List.setIfInBounds_toArray, List.set_cons_zero, List.set_cons_succ]
              refine WQ.off rfl ?_
              simp only [Act.put, List.setIfInBounds_toArray, List.set_cons_zero, List.set_cons_succ]
              refine WQ.off rfl ?_
              simp only [Act.put, List.setIfInBounds_toArray, List.set_cons_zero, List.set_cons_succ]
              refine WQ.off rfl ?_
              simp only [Act.put, List.setIfInBounds_toArray, List.set_cons_zero, List.set_cons_succ]
              refine WQ.off rfl ?_
              simp only [Act.put, List.setIfInBounds_toArray, List.set_cons_zero, List.set_cons_succ]
              refine WQ.off rfl ?_
              simp only [Act.put, List.setIfInBounds_toArray, List.set_cons_zero, List.set_cons_succ]
              refine WQ.off rfl ?_
              simp only [Act.put, List.setIfInBounds_toArray, List.set_cons_zero, List.set_cons_succ]
              refine WQ.off rfl ?_
              simp only [Act.put, List.setIfInBounds_toArray, List.set_cons_zero, List.set_cons_succ]
              refine WQ.off rfl ?_
              simp only [Act.put, List.setIfInBounds_toArray, List.set_cons_zero, List.set_cons_succ]
              refine WQ.off rfl ?_
              simp only [Act.put, List.setIfInBounds_toArray, List.set_cons_zero, List.set_cons_succ]
              refine WQ.off rfl ?_
              simp only [Act.put, List.setIfInBounds_toArray, List.set_cons_zero, List.set_cons_succ]
              refine WQ.val rfl (fun w hw => by go_simp; rfl) ?_
              simp only [Act.put, List.setIfInBounds_toArray, List.set_cons_zero, List.set_cons_succ]
              refine WQ.val rfl (fun w hw => by go_simp; rfl) ?_
              simp only [Act.put, List.setIfInBounds_toArray, List.set_cons_zero, List.set_cons_succ]
              refine WQ.nil ?_
              intro wn hbn
              go_wp2
              go_roundw
              case rel => exact ⟨1, by omega, by go_num, hbr.trans (hbn.mono hbr.size)⟩
              case measure => simp [intOf]; omega
            · by_cases ht2 : t = 2
              · subst ht2
                have e4 : turnK 2 = 1 := rfl
                rw [e4] at c4
                go_wp2
                refine wp_region_below wr.heap.size (by kernel_rfl) (by kernel_rfl) ?_
                refine WQ.val rfl (fun w hw => by go_simp; rfl) ?_
                simp only [Act.put, List.setIfInBounds_toArray, List.set_cons_zero, List.set_cons_succ]
                refine WQ.val rfl (fun w hw => by go_simp; rfl) ?_
                simp only [Act.put, List.setIfInBounds_toArray, List.set_cons_zero, List.set_cons_succ]
                refine WQ.val rfl (fun w hw => by go_simp; rfl) ?_
                simp only [Act.put, List.setIfInBounds_toArray, List.set_cons_zero, List.set_cons_succ]
                refine WQ.val rfl (fun w hw => by have := below_load c3 hw hlm; have := below_load c4 hw hlm; go_simp; rfl) ?_
                simp only [Act.put, List.setIfInBounds_toArray, List.set_cons_zero, List.set_cons_succ]
                refine WQ.val rfl (fun w hw => by go_simp; rfl) ?_
                simp only [Act.put, List.setIfInBounds_toArray, List.set_cons_zero, List.set_cons_succ]
                refine WQ.val rfl (fun w hw => by go_simp; rfl) ?_
                simp only [Act.put, List.setIfInBounds_toArray, List.set_cons_zero, List.set_cons_succ]
                refine WQ.val rfl (fun w hw => by go_simp; rfl) ?_
                simp only [Act.put, List.setIfInBounds_toArray, List.set_cons_zero, List.set_cons_succ]
                refine WQ.val rfl (fun w hw => by go_simp; rfl) ?_
                simp only [Act.put, List.setIfInBounds_toArray, List.set_cons_zero, List.set_cons_succ]
                refine WQ.val rfl (fun w hw => by have := below_load c1 hw hll2; go_simp; rfl) ?_
                simp only [Act.put, List.setIfInBounds_toArray, List.set_cons_zero, List.set_cons_succ]
                refine WQ.val rfl (fun w hw => by go_simp; rfl) ?_
                simp only [Act.put, List.setIfInBounds_toArray, List.set_cons_zero, List.set_cons_succ]
                refine WQ.val rfl (fun w hw => by go_simp; rfl) ?_
                simp only [Act.put, List.setIfInBounds_toArray, List.set_cons_zero, List.set_cons_succ]
                refine WQ.val rfl (fun w hw => by go_simp; rfl) ?_
                simp only [Act.put, List.setIfInBounds_toArray, List.set_cons_zero, List.set_cons_succ]
                refine WQ.val rfl (fun w hw => by go_simp; rfl) ?_
                simp only [Act.put, List.setIfInBounds_toArray, List.set_cons_zero, List.set_cons_succ]
                refine WQ.val rfl (fun w hw => by go_simp; rfl) ?_
                simp only [Act.put, List.setIfInBounds_toArray, List.set_cons_zero, List.set_cons_succ]
                refine WQ.val rfl (fun w hw => by go_simp; rfl) ?_
                simp only [Act.put, List.setIfInBounds_toArray, List.set_cons_zero, List.set_cons_succ]
                refine WQ.val rfl (fun w hw => by go_simp; rfl) ?_
                simp only [Act.put, List.setIfInBounds_toArray, List.set_cons_zero, List.set_cons_succ]
                refine WQ.off rfl ?_
                simp only [Act.put, List.setIfInBounds_toArray, List.set_cons_zero, List.set_cons_succ]
                refine WQ.off rfl ?_
                simp only [Act.put, List.setIfInBounds_toArray, List.set_cons_zero, List.set_cons_succ]
                refine WQ.off rfl ?_
                simp only [Act.put, List.setIfInBounds_toArray, List.set_cons_zero, List.set_cons_succ]
                refine WQ.off rfl ?_
                simp only [Act.put, List.setIfInBounds_toArray, List.set_cons_zero, List.set_cons_succ]
                refine WQ.off rfl ?_
                simp only [Act.put, List.setIfInBounds_toArray, List.set_cons_zero, List.set_cons_succ]
                refine WQ.off rfl ?_
                simp only [Act.put, List.setIfInBounds_toArray, List.set_cons_zero, List.set_cons_succ]
                refine WQ.off rfl ?_
                simp only [Act.put, List.setIfInBounds_toArray, List.set_cons_zero, List.set_cons_succ]
                refine WQ.off rfl ?_
                simp only [Act.put, List.setIfInBounds_toArray, List.set_cons_zero, List.set_cons_succ]
                refine WQ.off rfl ?_
                simp only [Act.put, List.setIfInBounds_toArray, List.set_cons_zero, List.set_cons_succ]
                refine WQ.off rfl ?_
                simp only [Act.put, List.setIfInBounds_toArray, List.set_cons_zero, List.set_cons_succ]
                refine WQ.off rfl ?_
                simp only [Act.put, List.setIfInBounds_toArray, List.set_cons_zero, List.set_cons_succ]
                refine WQ.off rfl ?_
                simp only [Act.put, List.setIfInBounds_toArray, List.set_cons_zero, List.set_cons_succ]
                refine WQ.off rfl ?_
                simp only [Act.put, List.setIfInBounds_toArray, List.set_cons_zero, List.set_cons_succ]
                refine WQ.val rfl (fun w hw => by go_simp; rfl) ?_
                simp only [Act.put, List.setIfInBounds_toArray, List.set_cons_zero, List.set_cons_succ]
                refine WQ.val rfl (fun w hw => by go_simp; rfl) ?_
                simp only [Act.put, List.setIfInBounds_toArray, List.set_cons_zero, List.set_cons_succ]
                refine WQ.nil ?_
                intro wn hbn
                go_wp2
                go_roundw
                case rel => exact ⟨1, by omega, by go_num, hbr.trans (hbn.mono hbr.size)⟩
                case measure => simp [intOf]; omega
              · have e4 : turnK t = t := by unfold turnK; rw [if_neg ht1, if_neg ht2]
                rw [e4] at c4
                have f1 : ((t : Int) == 1) = false := by rw [beq_eq_false_iff_ne]; omega
                have f2 : ((t : Int) == 2) = false := by rw [beq_eq_false_iff_ne]; omega
                clear ht1 ht2
                go_wp2
                refine wp_region_below wr.heap.size (by kernel_rfl) (by kernel_rfl) ?_
                refine WQ.val rfl (fun w hw => by go_simp; rfl) ?_
                simp only [Act.put, List.setIfInBounds_toArray, List.set_cons_zero, List.set_cons_succ]
                refine WQ.val rfl (fun w hw => by go_simp; rfl) ?_
                simp only [Act.put, List.setIfInBounds_toArray, List.set_cons_zero, List.set_cons_succ]
                refine WQ.val rfl (fun w hw => by go_simp; rfl) ?_
                simp only [Act.put, List.setIfInBounds_toArray, List.set_cons_zero, List.set_cons_succ]
                refine WQ.val rfl (fun w hw => by have := below_load c3 hw hlm; have := below_load c4 hw hlm; go_simp; rfl) ?_
                simp only [Act.put, List.setIfInBounds_toArray, List.set_cons_zero, List.set_cons_succ]
                refine WQ.val rfl (fun w hw => by go_simp; rfl) ?_
                simp only [Act.put, List.setIfInBounds_toArray, List.set_cons_zero, List.set_cons_succ]
                refine WQ.val rfl (fun w hw => by go_simp; rfl) ?_
                simp only [Act.put, List.setIfInBounds_toArray, List.set_cons_zero, List.set_cons_succ]
                refine WQ.val rfl (fun w hw => by go_simp; rfl) ?_
                simp only [Act.put, List.setIfInBounds_toArray, List.set_cons_zero, List.set_cons_succ]
                refine WQ.val rfl (fun w hw => by go_simp; rfl) ?_
                simp only [Act.put, List.setIfInBounds_toArray, List.set_cons_zero, List.set_cons_succ]
                refine WQ.val rfl (fun w hw => by have := below_load c1 hw hll2; go_simp; rfl) ?_
                simp only [Act.put, List.setIfInBounds_toArray, List.set_cons_zero, List.set_cons_succ]
                refine WQ.val rfl (fun w hw => by go_simp; rfl) ?_
                simp only [Act.put, List.setIfInBounds_toArray, List.set_cons_zero, List.set_cons_succ]
                refine WQ.val rfl (fun w hw => by go_simp; rfl) ?_
                simp only [Act.put, List.setIfInBounds_toArray, List.set_cons_zero, List.set_cons_succ]
                refine WQ.val rfl (fun w hw => by go_simp; rfl) ?_
                simp only [Act.put, List.setIfInBounds_toArray, List.set_cons_zero, List.set_cons_succ]
                refine WQ.val rfl (fun w hw => by go_simp; rfl) ?_
                simp only [Act.put, List.setIfInBounds_toArray, List.set_cons_zero, List.set_cons_succ]
                refine WQ.val rfl (fun w hw => by go_simp; rfl) ?_
                simp only [Act.put, List.setIfInBounds_toArray, List.set_cons_zero, List.set_cons_succ]
                refine WQ.val rfl (fun w hw => by go_simp; rfl) ?_
                simp only [Act.put, List.setIfInBounds_toArray, List.set_cons_zero, List.set_cons_succ]
                refine WQ.val rfl (fun w hw => by go_simp; rfl) ?_
                simp only [Act.put, List.setIfInBounds_toArray, List.set_cons_zero, List.set_cons_succ]
                refine WQ.off rfl ?_
                simp only [Act.put, List.setIfInBounds_toArray, List.set_cons_zero, List.set_cons_succ]
                refine WQ.off rfl ?_
                simp only [Act.put, List.setIfInBounds_toArray, List.set_cons_zero, List.set_cons_succ]
                refine WQ.off rfl ?_
                simp only [Act.put, List.setIfInBounds_toArray, List.set_cons_zero, List.set_cons_succ]
                refine WQ.off rfl ?_
                simp only [Act.put, List.setIfInBounds_toArray, List.set_cons_zero, List.set_cons_succ]
                refine WQ.off rfl ?_
                simp only [Act.put, List.setIfInBounds_toArray, List.set_cons_zero, List.set_cons_succ]
                refine WQ.off rfl ?_
                simp only [Act.put, List.setIfInBounds_toArray, List.set_cons_zero, List.set_cons_succ]
                refine WQ.off rfl ?_
                simp only [Act.put, List.setIfInBounds_toArray, List.set_cons_zero, List.set_cons_succ]
                refine WQ.off rfl ?_
                simp only [Act.put, List.setIfInBounds_toArray, List.set_cons_zero, List.set_cons_succ]
                refine WQ.off rfl ?_
                simp only [Act.put, List.setIfInBounds_toArray, List.set_cons_zero, List.set_cons_succ]
                refine WQ.off rfl ?_
                simp only [Act.put, List.setIfInBounds_toArray, List.set_cons_zero, List.set_cons_succ]
                refine WQ.off rfl ?_
                simp only [Act.put, List.setIfInBounds_toArray, List.set_cons_zero, List.set_cons_succ]
                refine WQ.off rfl ?_
                simp only [Act.put, List.setIfInBounds_toArray, List.set_cons_zero, List.set_cons_succ]
                refine WQ.off rfl ?_
                simp only [Act.put, List.setIfInBounds_toArray, List.set_cons_zero, List.set_cons_succ]
                refine WQ.val rfl (fun w hw => by go_simp; rfl) ?_
                simp only [Act.put, List.setIfInBounds_toArray, List.set_cons_zero, List.set_cons_succ]
                refine WQ.val rfl (fun w hw => by go_simp; rfl) ?_
                simp only [Act.put, List.setIfInBounds_toArray, List.set_cons_zero, List.set_cons_succ]
                refine WQ.nil ?_
                intro wn hbn
                go_wp2
                go_roundw
                case rel => exact ⟨1, by omega, by go_num, hbr.trans (hbn.mono hbr.size)⟩
                case measure => simp [intOf]; omega
          · have hasc : ordP l[k - 1].1 l[k].1 < 0 := by
              have := List.pairwise_iff_getElem.1 HASC.out (k - 1) k (by omega) hlt (by omega)
              exact this
            have cp := below_load (hcl (k - 1) (by omega)).1 hbr hbl
            have hpp := HPS.out l[k - 1] (List.getElem_mem (by omega))
            have j0 : (0 : Int) < k := by omega
            have j1 : IntKind.i64.wrap ((k : Int) - 1) = (k : Int) - 1 := IntWalk.i64_in _ (by omega)
            have j2 : ((k : Int) - 1).toNat = k - 1 := by omega
            have j3 : (0 : Int) ≤ (k : Int) - 1 := by omega
            have j4 : (k : Int) - 1 < l.length := by omega
            have j5 : (1 : Int) ≤ k := by omega
            have j6 : 0 < k := by omega
            have j7 : decide (0 < k) = true := decide_eq_true j6
            clear hcl hcm
            generalize l[k - 1].1 = pp at cp hpp hasc
            generalize l[k].1 = p at c1 c3 hps hasc
            generalize l[k].2 = t at c2 c4
            have hlc : ∀ w, Below wr.heap.size wr w → Calls Tryd.prog 10 #[.string pp, .string p] w fun e w2 => e = .returned (.bool true) ∧ Below w.heap.size w w2 := fun w hw => by
              have h := dless_any pp p w hpp hps (hmx.step hw)
              have e : lessS pp p = true := decide_eq_true hasc
              rw [e] at h; exact h
            by_cases ht1 : t = 1
            · subst ht1
              have e4 : turnK 1 = 2 := rfl
              rw [e4] at c4
              go_wp2
              refine wp_region_below wr.heap.size (by kernel_rfl) (by kernel_rfl) ?_
              refine WQ.val rfl (fun w hw => by go_simp; rfl) ?_
              simp only [Act.put, List.setIfInBounds_toArray, List.set_cons_zero, List.set_cons_succ]
              refine WQ.val rfl (fun w hw => by go_simp; rfl) ?_
              simp only [Act.put, List.setIfInBounds_toArray, List.set_cons_zero, List.set_cons_succ]
              refine WQ.val rfl (fun w hw => by go_simp; rfl) ?_
              simp only [Act.put, List.setIfInBounds_toArray, List.set_cons_zero, List.set_cons_succ]
              refine WQ.val rfl (fun w hw => by have := below_load c3 hw hlm; have := below_load c4 hw hlm; go_simp; rfl) ?_
              simp only [Act.put, List.setIfInBounds_toArray, List.set_cons_zero, List.set_cons_succ]
              refine WQ.val rfl (fun w hw => by go_simp; rfl) ?_
              simp only [Act.put, List.setIfInBounds_toArray, List.set_cons_zero, List.set_cons_succ]
              refine WQ.val rfl (fun w hw => by go_simp; rfl) ?_
              simp only [Act.put, List.setIfInBounds_toArray, List.set_cons_zero, List.set_cons_succ]
              refine WQ.val rfl (fun w hw => by go_simp; rfl) ?_
              simp only [Act.put, List.setIfInBounds_toArray, List.set_cons_zero, List.set_cons_succ]
              refine WQ.val rfl (fun w hw => by go_simp; rfl) ?_
              simp only [Act.put, List.setIfInBounds_toArray, List.set_cons_zero, List.set_cons_succ]
              refine WQ.val rfl (fun w hw => by have := below_load c1 hw hll2; go_simp; rfl) ?_
              simp only [Act.put, List.setIfInBounds_toArray, List.set_cons_zero, List.set_cons_succ]
              refine WQ.val rfl (fun w hw => by go_simp; rfl) ?_
              simp only [Act.put, List.setIfInBounds_toArray, List.set_cons_zero, List.set_cons_succ]
              refine WQ.val rfl (fun w hw => by go_simp; rfl) ?_
              simp only [Act.put, List.setIfInBounds_toArray, List.set_cons_zero, List.set_cons_succ]
              refine WQ.val rfl (fun w hw => by go_simp; rfl) ?_
              simp only [Act.put, List.setIfInBounds_toArray, List.set_cons_zero, List.set_cons_succ]
              refine WQ.val rfl (fun w hw => by go_simp; rfl) ?_
              simp only [Act.put, List.setIfInBounds_toArray, List.set_cons_zero, List.set_cons_succ]
              refine WQ.val rfl (fun w hw => by go_simp; rfl) ?_
              simp only [Act.put, List.setIfInBounds_toArray, List.set_cons_zero, List.set_cons_succ]
              refine WQ.val rfl (fun w hw => by go_simp; rfl) ?_
              simp only [Act.put, List.setIfInBounds_toArray, List.set_cons_zero, List.set_cons_succ]
              refine WQ.val rfl (fun w hw => by go_simp; rfl) ?_
              simp only [Act.put, List.setIfInBounds_toArray, List.set_cons_zero, List.set_cons_succ]
              refine WQ.val rfl (fun w hw => by go_simp; rfl) ?_
              simp only [Act.put, List.setIfInBounds_toArray, List.set_cons_zero, List.set_cons_succ]
              refine WQ.val rfl (fun w hw => by go_simp; rfl) ?_
              simp only [Act.put, List.setIfInBounds_toArray, List.set_cons_zero, List.set_cons_succ]
              refine WQ.val rfl (fun w hw => by go_simp; rfl) ?_
              simp only [Act.put, List.setIfInBounds_toArray, List.set_cons_zero, List.set_cons_succ]
              refine WQ.val rfl (fun w hw => by go_simp; rfl) ?_
              simp only [Act.put, List.setIfInBounds_toArray, List.set_cons_zero, List.set_cons_succ]
              refine WQ.val rfl (fun w hw => by go_simp; rfl) ?_
              simp only [Act.put, List.setIfInBounds_toArray, List.set_cons_zero, List.set_cons_succ]
              refine WQ.val rfl (fun w hw => by have := below_load cp hw hll2; go_simp; rfl) ?_
              simp only [Act.put, List.setIfInBounds_toArray, List.set_cons_zero, List.set_cons_succ]
              refine WQ.val rfl (fun w hw => by go_simp; rfl) ?_
              simp only [Act.put, List.setIfInBounds_toArray, List.set_cons_zero, List.set_cons_succ]
              refine WQ.val rfl (fun w hw => by go_simp; rfl) ?_
              simp only [Act.put, List.setIfInBounds_toArray, List.set_cons_zero, List.set_cons_succ]
              refine WQ.val rfl (fun w hw => by go_simp; rfl) ?_
              simp only [Act.put, List.setIfInBounds_toArray, List.set_cons_zero, List.set_cons_succ]
              refine WQ.val rfl (fun w hw => by go_simp; rfl) ?_
              simp only [Act.put, List.setIfInBounds_toArray, List.set_cons_zero, List.set_cons_succ]
              refine WQ.val rfl (fun w hw => by have := below_load c1 hw hll2; go_simp; rfl) ?_
              simp only [Act.put, List.setIfInBounds_toArray, List.set_cons_zero, List.set_cons_succ]
              refine WQ.call rfl (fun w hw => by go_simp <;> first | rfl | exact ⟨rfl, rfl⟩) (fun w hw => (hlc w hw).mono fun e w2 ⟨he, hb⟩ => ⟨he, hw.trans (hb.mono hw.size)⟩) ?_
              simp only [Act.put, List.setIfInBounds_toArray, List.set_cons_zero, List.set_cons_succ]
              refine WQ.val rfl (fun w hw => by go_simp; rfl) ?_
              simp only [Act.put, List.setIfInBounds_toArray, List.set_cons_zero, List.set_cons_succ]
              refine WQ.val rfl (fun w hw => by go_simp; rfl) ?_
              simp only [Act.put, List.setIfInBounds_toArray, List.set_cons_zero, List.set_cons_succ]
              refine WQ.val rfl (fun w hw => by go_simp; rfl) ?_
              simp only [Act.put, List.setIfInBounds_toArray, List.set_cons_zero, List.set_cons_succ]
              refine WQ.nil ?_
              intro wn hbn
              go_wp2
              go_roundw
              case rel => exact ⟨k + 1, by omega, by go_num, hbr.trans (hbn.mono hbr.size)⟩
              case measure => simp [intOf]; omega
            · by_cases ht2 : t = 2
              · subst ht2
                have e4 : turnK 2 = 1 := rfl
                rw [e4] at c4
                go_wp2
                refine wp_region_below wr.heap.size (by kernel_rfl) (by kernel_rfl) ?_
                refine WQ.val rfl (fun w hw => by go_simp; rfl) ?_
                simp only [Act.put, List.setIfInBounds_toArray, List.set_cons_zero, List.set_cons_succ]
                refine WQ.val rfl (fun w hw => by go_simp; rfl) ?_
                simp only [Act.put, List.setIfInBounds_toArray, List.set_cons_zero, List.set_cons_succ]
                refine WQ.val rfl (fun w hw => by go_simp; rfl) ?_
                simp only [Act.put, List.setIfInBounds_toArray, List.set_cons_zero, List.set_cons_succ]
                refine WQ.val rfl (fun w hw => by have := below_load c3 hw hlm; have := below_load c4 hw hlm; go_simp; rfl) ?_
                simp only [Act.put, List.setIfInBounds_toArray, List.set_cons_zero, List.set_cons_succ]
                refine WQ.val rfl (fun w hw => by go_simp; rfl) ?_
                simp only [Act.put, List.setIfInBounds_toArray, List.set_cons_zero, List.set_cons_succ]
                refine WQ.val rfl (fun w hw => by go_simp; rfl) ?_
                simp only [Act.put, List.setIfInBounds_toArray, List.set_cons_zero, List.set_cons_succ]
                refine WQ.val rfl (fun w hw => by go_simp; rfl) ?_
                simp only [Act.put, List.setIfInBounds_toArray, List.set_cons_zero, List.set_cons_succ]
                refine WQ.val rfl (fun w hw => by go_simp; rfl) ?_
                simp only [Act.put, List.setIfInBounds_toArray, List.set_cons_zero, List.set_cons_succ]
                refine WQ.val rfl (fun w hw => by have := below_load c1 hw hll2; go_simp; rfl) ?_
                simp only [Act.put, List.setIfInBounds_toArray, List.set_cons_zero, List.set_cons_succ]
                refine WQ.val rfl (fun w hw => by go_simp; rfl) ?_
                simp only [Act.put, List.setIfInBounds_toArray, List.set_cons_zero, List.set_cons_succ]
                refine WQ.val rfl (fun w hw => by go_simp; rfl) ?_
                simp only [Act.put, List.setIfInBounds_toArray, List.set_cons_zero, List.set_cons_succ]
                refine WQ.val rfl (fun w hw => by go_simp; rfl) ?_
                simp only [Act.put, List.setIfInBounds_toArray, List.set_cons_zero, List.set_cons_succ]
                refine WQ.val rfl (fun w hw => by go_simp; rfl) ?_
                simp only [Act.put, List.setIfInBounds_toArray, List.set_cons_zero, List.set_cons_succ]
                refine WQ.val rfl (fun w hw => by go_simp; rfl) ?_
                simp only [Act.put, List.setIfInBounds_toArray, List.set_cons_zero, List.set_cons_succ]
                refine WQ.val rfl (fun w hw => by go_simp; rfl) ?_
                simp only [Act.put, List.setIfInBounds_toArray, List.set_cons_zero, List.set_cons_succ]
                refine WQ.val rfl (fun w hw => by go_simp; rfl) ?_
                simp only [Act.put, List.setIfInBounds_toArray, List.set_cons_zero, List.set_cons_succ]
                refine WQ.val rfl (fun w hw => by go_simp; rfl) ?_
                simp only [Act.put, List.setIfInBounds_toArray, List.set_cons_zero, List.set_cons_succ]
                refine WQ.val rfl (fun w hw => by go_simp; rfl) ?_
                simp only [Act.put, List.setIfInBounds_toArray, List.set_cons_zero, List.set_cons_succ]
                refine WQ.val rfl (fun w hw => by go_simp; rfl) ?_
                simp only [Act.put, List.setIfInBounds_toArray, List.set_cons_zero, List.set_cons_succ]
                refine WQ.val rfl (fun w hw => by go_simp; rfl) ?_
                simp only [Act.put, List.setIfInBounds_toArray, List.set_cons_zero, List.set_cons_succ]
                refine WQ.val rfl (fun w hw => by go_simp; rfl) ?_
                simp only [Act.put, List.setIfInBounds_toArray, List.set_cons_zero, List.set_cons_succ]
                refine WQ.val rfl (fun w hw => by have := below_load cp hw hll2; go_simp; rfl) ?_
                simp only [Act.put, List.setIfInBounds_toArray, List.set_cons_zero, List.set_cons_succ]
                refine WQ.val rfl (fun w hw => by go_simp; rfl) ?_
                simp only [Act.put, List.setIfInBounds_toArray, List.set_cons_zero, List.set_cons_succ]
                refine WQ.val rfl (fun w hw => by go_simp; rfl) ?_
                simp only [Act.put, List.setIfInBounds_toArray, List.set_cons_zero, List.set_cons_succ]
                refine WQ.val rfl (fun w hw => by go_simp; rfl) ?_
                simp only [Act.put, List.setIfInBounds_toArray, List.set_cons_zero, List.set_cons_succ]
                refine WQ.val rfl (fun w hw => by go_simp; rfl) ?_
                simp only [Act.put, List.setIfInBounds_toArray, List.set_cons_zero, List.set_cons_succ]
                refine WQ.val rfl (fun w hw => by have := below_load c1 hw hll2; go_simp; rfl) ?_
                simp only [Act.put, List.setIfInBounds_toArray, List.set_cons_zero, List.set_cons_succ]
                refine WQ.call rfl (fun w hw => by go_simp <;> first | rfl | exact ⟨rfl, rfl⟩) (fun w hw => (hlc w hw).mono fun e w2 ⟨he, hb⟩ => ⟨he, hw.trans (hb.mono hw.size)⟩) ?_
                simp only [Act.put, List.setIfInBounds_toArray, List.set_cons_zero, List.set_cons_succ]
                refine WQ.val rfl (fun w hw => by go_simp; rfl) ?_
                simp only [Act.put, List.setIfInBounds_toArray, List.set_cons_zero, List.set_cons_succ]
                refine WQ.val rfl (fun w hw => by go_simp; rfl) ?_
                simp only [Act.put, List.setIfInBounds_toArray, List.set_cons_zero, List.set_cons_succ]
                refine WQ.val rfl (fun w hw => by go_simp; rfl) ?_
                simp only [Act.put, List.setIfInBounds_toArray, List.set_cons_zero, List.set_cons_succ]
                refine WQ.nil ?_
                intro wn hbn
                go_wp2
                go_roundw
                case rel => exact ⟨k + 1, by omega, by go_num, hbr.trans (hbn.mono hbr.size)⟩
                case measure => simp [intOf]; omega
              · have e4 : turnK t = t := by unfold turnK; rw [if_neg ht1, if_neg ht2]
                rw [e4] at c4
                have f1 : ((t : Int) == 1) = false := by rw [beq_eq_false_iff_ne]; omega
                have f2 : ((t : Int) == 2) = false := by rw [beq_eq_false_iff_ne]; omega
                clear ht1 ht2
                go_wp2
                refine wp_region_below wr.heap.size (by kernel_rfl) (by kernel_rfl) ?_
                refine WQ.val rfl (fun w hw => by go_simp; rfl) ?_
                simp only [Act.put, List.setIfInBounds_toArray, List.set_cons_zero, List.set_cons_succ]
                refine WQ.val rfl (fun w hw => by go_simp; rfl) ?_
                simp only [Act.put, List.setIfInBounds_toArray, List.set_cons_zero, List.set_cons_succ]
                refine WQ.val rfl (fun w hw => by go_simp; rfl) ?_
                simp only [Act.put, List.setIfInBounds_toArray, List.set_cons_zero, List.set_cons_succ]
                refine WQ.val rfl (fun w hw => by have := below_load c3 hw hlm; have := below_load c4 hw hlm; go_simp; rfl) ?_
                simp only [Act.put, List.setIfInBounds_toArray, List.set_cons_zero, List.set_cons_succ]
                refine WQ.val rfl (fun w hw => by go_simp; rfl) ?_
                simp only [Act.put, List.setIfInBounds_toArray, List.set_cons_zero, List.set_cons_succ]
                refine WQ.val rfl (fun w hw => by go_simp; rfl) ?_
                simp only [Act.put, List.setIfInBounds_toArray, List.set_cons_zero, List.set_cons_succ]
                refine WQ.val rfl (fun w hw => by go_simp; rfl) ?_
                simp only [Act.put, List.setIfInBounds_toArray, List.set_cons_zero, List.set_cons_succ]
                refine WQ.val rfl (fun w hw => by go_simp; rfl) ?_
                simp only [Act.put, List.setIfInBounds_toArray, List.set_cons_zero, List.set_cons_succ]
                refine WQ.val rfl (fun w hw => by have := below_load c1 hw hll2; go_simp; rfl) ?_
                simp only [Act.put, List.setIfInBounds_toArray, List.set_cons_zero, List.set_cons_succ]
                refine WQ.val rfl (fun w hw => by go_simp; rfl) ?_
                simp only [Act.put, List.setIfInBounds_toArray, List.set_cons_zero, List.set_cons_succ]
                refine WQ.val rfl (fun w hw => by go_simp; rfl) ?_
                simp only [Act.put, List.setIfInBounds_toArray, List.set_cons_zero, List.set_cons_succ]
                refine WQ.val rfl (fun w hw => by go_simp; rfl) ?_
                simp only [Act.put, List.setIfInBounds_toArray, List.set_cons_zero, List.set_cons_succ]
                refine WQ.val rfl (fun w hw => by go_simp; rfl) ?_
                simp only [Act.put, List.setIfInBounds_toArray, List.set_cons_zero, List.set_cons_succ]
                refine WQ.val rfl (fun w hw => by go_simp; rfl) ?_
                simp only [Act.put, List.setIfInBounds_toArray, List.set_cons_zero, List.set_cons_succ]
                refine WQ.val rfl (fun w hw => by go_simp; rfl) ?_
                simp only [Act.put, List.setIfInBounds_toArray, List.set_cons_zero, List.set_cons_succ]
                refine WQ.val rfl (fun w hw => by go_simp; rfl) ?_
                simp only [Act.put, List.setIfInBounds_toArray, List.set_cons_zero, List.set_cons_succ]
                refine WQ.val rfl (fun w hw => by go_simp; rfl) ?_
                simp only [Act.put, List.setIfInBounds_toArray, List.set_cons_zero, List.set_cons_succ]
                refine WQ.val rfl (fun w hw => by go_simp; rfl) ?_
                simp only [Act.put, List.setIfInBounds_toArray, List.set_cons_zero, List.set_cons_succ]
                refine WQ.val rfl (fun w hw => by go_simp; rfl) ?_
                simp only [Act.put, List.setIfInBounds_toArray, List.set_cons_zero, List.set_cons_succ]
                refine WQ.val rfl (fun w hw => by go_simp; rfl) ?_
                simp only [Act.put, List.setIfInBounds_toArray, List.set_cons_zero, List.set_cons_succ]
                refine WQ.val rfl (fun w hw => by go_simp; rfl) ?_
                simp only [Act.put, List.setIfInBounds_toArray, List.set_cons_zero, List.set_cons_succ]
                refine WQ.val rfl (fun w hw => by have := below_load cp hw hll2; go_simp; rfl) ?_
                simp only [Act.put, List.setIfInBounds_toArray, List.set_cons_zero, List.set_cons_succ]
                refine WQ.val rfl (fun w hw => by go_simp; rfl) ?_
                simp only [Act.put, List.setIfInBounds_toArray, List.set_cons_zero, List.set_cons_succ]
                refine WQ.val rfl (fun w hw => by go_simp; rfl) ?_
                simp only [Act.put, List.setIfInBounds_toArray, List.set_cons_zero, List.set_cons_succ]
                refine WQ.val rfl (fun w hw => by go_simp; rfl) ?_
                simp only [Act.put, List.setIfInBounds_toArray, List.set_cons_zero, List.set_cons_succ]
                refine WQ.val rfl (fun w hw => by go_simp; rfl) ?_
                simp only [Act.put, List.setIfInBounds_toArray, List.set_cons_zero, List.set_cons_succ]
                refine WQ.val rfl (fun w hw => by have := below_load c1 hw hll2; go_simp; rfl) ?_
                simp only [Act.put, List.setIfInBounds_toArray, List.set_cons_zero, List.set_cons_succ]
                refine WQ.call rfl (fun w hw => by go_simp <;> first | rfl | exact ⟨rfl, rfl⟩) (fun w hw => (hlc w hw).mono fun e w2 ⟨he, hb⟩ => ⟨he, hw.trans (hb.mono hw.size)⟩) ?_
                simp only [Act.put, List.setIfInBounds_toArray, List.set_cons_zero, List.set_cons_succ]
                refine WQ.val rfl (fun w hw => by go_simp; rfl) ?_
                simp only [Act.put, List.setIfInBounds_toArray, List.set_cons_zero, List.set_cons_succ]
                refine WQ.val rfl (fun w hw => by go_simp; rfl) ?_
                simp only [Act.put, List.setIfInBounds_toArray, List.set_cons_zero, List.set_cons_succ]
                refine WQ.val rfl (fun w hw => by go_simp; rfl) ?_
                simp only [Act.put, List.setIfInBounds_toArray, List.set_cons_zero, List.set_cons_succ]
                refine WQ.nil ?_
                intro wn hbn
                go_wp2
                go_roundw
                case rel => exact ⟨k + 1, by omega, by go_num, hbr.trans (hbn.mono hbr.size)⟩
                case measure => simp [intOf]; omega
        · obtain ⟨w1, rfl⟩ : ∃ w1 : World, w1 = wr := ⟨_, rfl⟩
          have st := st.step hbr
          clear HR2
          obtain ⟨aoa, capa, rfl, hma, hca⟩ := st.ra.open
          have HCA := Lib.hid hca
          clear hca
          unfold maxLen at hma
          go_wp2
          go_loopw [9] (fun i wr2 => ∃ k : Nat, k ≤ a.length ∧ i = .int .i64 k ∧ Below w1.heap.size w1 wr2) (fun i _ => (a.length - intOf i).toNat)
          case atStart => exact ⟨0, by omega, rfl, Below.refl _ _⟩
          case round =>
            obtain ⟨wo, rfl⟩ : ∃ wo : World, wo = wr := ⟨_, rfl⟩
            obtain ⟨k2, hk2, rfl, hbr2⟩ := hrel
            have st2 := st.step hbr2
            by_cases hlt2 : k2 < a.length
            · obtain ⟨ba, oa, rfl, hba, hcca⟩ := HCA.out (by intro e; rw [e] at hlt2; simp at hlt2)
              have ca := below_load (hcca k2 hlt2).1 hbr2 hba
              clear hcca
              have hsz2 := hbr2.size
              have hba2 : ba < wo.heap.size := by omega
              have HIN := Lib.hid ((findS_some a a[k2].1).2 ⟨a[k2], List.getElem_mem hlt2, rfl⟩)
              have HT := Lib.hid (HTOLD.out a[k2].1 HIN.out)
              generalize a[k2].1 = p at ca HIN HT
              go_wp2
              go_loopw [10, 11] (fun t i wi => ∃ j : Nat, j ≤ l.length ∧ i = .int .i64 j ∧ t = .bool (tl l p j) ∧ Below wo.heap.size wo wi) (fun _ i _ => (l.length - intOf i).toNat)
              case atStart => exact ⟨0, by omega, rfl, by simp [tl], Below.refl _ _⟩
              case round =>
                obtain ⟨wi, rfl⟩ : ∃ wi : World, wi = wr := ⟨_, rfl⟩
                obtain ⟨j, hj, rfl, rfl, hbi⟩ := hrel
                by_cases hjl : j < l.length
                · have hne : l ≠ [] := by intro e; rw [e] at hjl; simp at hjl
                  obtain ⟨bl, ol, rfl, hbl, hcl⟩ := HR1.out hne
                  have hszr := hbr.size
                  have hszi := hbi.size
                  have c1 := below_load (hcl j hjl).1 (hbr.trans ((hbr2.mono hbr.size).trans (hbi.mono (by omega)))) hbl
                  have ca2 := below_load ca hbi hba2
                  have hll3 : bl < wi.heap.size := by omega
                  have hba3 : ba < wi.heap.size := by omega
                  have hnx := tl_next l p j hjl
                  have hbq := ba_beq l[j].1 p
                  clear hcl ca
                  generalize l[j].1 = q at c1 hnx hbq
                  have i0 : (0 : Int) ≤ j := by omega
                  have i1 : (j : Int) < l.length := by omega
                  have i2 : (0 : Int) ≤ k2 := by omega
                  have i3 : (k2 : Int) < a.length := by omega
                  cases ht : tl l p j with
                  | true =>
                    rw [ht] at hnx
                    have HN := Lib.hid hnx
                    have HX := Lib.hid ht
                    clear ht hnx hbq
                    go_wp2
                    refine wp_region_below wi.heap.size (by kernel_rfl) (by kernel_rfl) ?_
                    refine WQ.val rfl (fun w hw => by go_simp; rfl) ?_
                    simp only [Act.put, List.setIfInBounds_toArray, List.set_cons_zero, List.set_cons_succ]
                    refine WQ.val rfl (fun w hw => by go_simp; rfl) ?_
                    simp only [Act.put, List.setIfInBounds_toArray, List.set_cons_zero, List.set_cons_succ]
                    refine WQ.off rfl ?_
                    simp only [Act.put, List.setIfInBounds_toArray, List.set_cons_zero, List.set_cons_succ]
                    refine WQ.off rfl ?_
                    simp only [Act.put, List.setIfInBounds_toArray, List.set_cons_zero, List.set_cons_succ]
                    refine WQ.off rfl ?_
                    simp only [Act.put, List.setIfInBounds_toArray, List.set_cons_zero, List.set_cons_succ]
                    refine WQ.off rfl ?_
                    simp only [Act.put, List.setIfInBounds_toArray, List.set_cons_zero, List.set_cons_succ]
                    refine WQ.off rfl ?_
                    simp only [Act.put, List.setIfInBounds_toArray, List.set_cons_zero, List.set_cons_succ]
                    refine WQ.off rfl ?_
                    simp only [Act.put, List.setIfInBounds_toArray, List.set_cons_zero, List.set_cons_succ]
                    refine WQ.off rfl ?_
                    simp only [Act.put, List.setIfInBounds_toArray, List.set_cons_zero, List.set_cons_succ]
                    refine WQ.off rfl ?_
                    simp only [Act.put, List.setIfInBounds_toArray, List.set_cons_zero, List.set_cons_succ]
                    refine WQ.off rfl ?_
                    simp only [Act.put, List.setIfInBounds_toArray, List.set_cons_zero, List.set_cons_succ]
                    refine WQ.off rfl ?_
                    simp only [Act.put, List.setIfInBounds_toArray, List.set_cons_zero, List.set_cons_succ]
                    refine WQ.off rfl ?_
                    simp only [Act.put, List.setIfInBounds_toArray, List.set_cons_zero, List.set_cons_succ]
                    refine WQ.val rfl (fun w hw => by go_simp; rfl) ?_
                    simp only [Act.put, List.setIfInBounds_toArray, List.set_cons_zero, List.set_cons_succ]
                    refine WQ.val rfl (fun w hw => by go_simp; rfl) ?_
                    simp only [Act.put, List.setIfInBounds_toArray, List.set_cons_zero, List.set_cons_succ]
                    refine WQ.nil ?_
                    intro wn hbn
                    go_wp2
                    go_roundw
                    case rel => exact ⟨j + 1, by omega, by go_num, by rw [HN.out]; rfl, hbi.trans (hbn.mono hbi.size)⟩
                    case measure => simp [intOf]; omega
                  | false =>
                    rw [ht] at hnx
                    by_cases e : q = p
                    · rw [decide_eq_true e] at hnx hbq
                      have HN := Lib.hid hnx
                      clear ht hnx e
                      go_wp2
                      refine wp_region_below wi.heap.size (by kernel_rfl) (by kernel_rfl) ?_
                      refine WQ.val rfl (fun w hw => by go_simp; rfl) ?_
                      simp only [Act.put, List.setIfInBounds_toArray, List.set_cons_zero, List.set_cons_succ]
                      refine WQ.val rfl (fun w hw => by go_simp; rfl) ?_
                      simp only [Act.put, List.setIfInBounds_toArray, List.set_cons_zero, List.set_cons_succ]
                      refine WQ.val rfl (fun w hw => by go_simp; rfl) ?_
                      simp only [Act.put, List.setIfInBounds_toArray, List.set_cons_zero, List.set_cons_succ]
                      refine WQ.val rfl (fun w hw => by go_simp; rfl) ?_
                      simp only [Act.put, List.setIfInBounds_toArray, List.set_cons_zero, List.set_cons_succ]
                      refine WQ.val rfl (fun w hw => by go_simp; rfl) ?_
                      simp only [Act.put, List.setIfInBounds_toArray, List.set_cons_zero, List.set_cons_succ]
                      refine WQ.val rfl (fun w hw => by go_simp; rfl) ?_
                      simp only [Act.put, List.setIfInBounds_toArray, List.set_cons_zero, List.set_cons_succ]
                      refine WQ.val rfl (fun w hw => by have := below_load c1 hw hll3; have := below_load ca2 hw hba3; go_simp; rfl) ?_
                      simp only [Act.put, List.setIfInBounds_toArray, List.set_cons_zero, List.set_cons_succ]
                      refine WQ.val rfl (fun w hw => by go_simp; rfl) ?_
                      simp only [Act.put, List.setIfInBounds_toArray, List.set_cons_zero, List.set_cons_succ]
                      refine WQ.val rfl (fun w hw => by go_simp; rfl) ?_
                      simp only [Act.put, List.setIfInBounds_toArray, List.set_cons_zero, List.set_cons_succ]
                      refine WQ.val rfl (fun w hw => by go_simp; rfl) ?_
                      simp only [Act.put, List.setIfInBounds_toArray, List.set_cons_zero, List.set_cons_succ]
                      refine WQ.val rfl (fun w hw => by go_simp; rfl) ?_
                      simp only [Act.put, List.setIfInBounds_toArray, List.set_cons_zero, List.set_cons_succ]
                      refine WQ.val rfl (fun w hw => by have := below_load c1 hw hll3; have := below_load ca2 hw hba3; go_simp; rfl) ?_
                      simp only [Act.put, List.setIfInBounds_toArray, List.set_cons_zero, List.set_cons_succ]
                      refine WQ.val rfl (fun w hw => by go_simp; rfl) ?_
                      simp only [Act.put, List.setIfInBounds_toArray, List.set_cons_zero, List.set_cons_succ]
                      refine WQ.val rfl (fun w hw => by go_simp; rfl) ?_
                      simp only [Act.put, List.setIfInBounds_toArray, List.set_cons_zero, List.set_cons_succ]
                      refine WQ.val rfl (fun w hw => by go_simp; rfl) ?_
                      simp only [Act.put, List.setIfInBounds_toArray, List.set_cons_zero, List.set_cons_succ]
                      refine WQ.nil ?_
                      intro wn hbn
                      go_wp2
                      go_roundw
                      case rel => exact ⟨j + 1, by omega, by go_num, by rw [HN.out]; rfl, hbi.trans (hbn.mono hbi.size)⟩
                      case measure => simp [intOf]; omega
                    · rw [decide_eq_false e] at hnx hbq
                      have HN := Lib.hid hnx
                      clear ht hnx e
                      go_wp2
                      refine wp_region_below wi.heap.size (by kernel_rfl) (by kernel_rfl) ?_
                      refine WQ.val rfl (fun w hw => by go_simp; rfl) ?_
                      simp only [Act.put, List.setIfInBounds_toArray, List.set_cons_zero, List.set_cons_succ]
                      refine WQ.val rfl (fun w hw => by go_simp; rfl) ?_
                      simp only [Act.put, List.setIfInBounds_toArray, List.set_cons_zero, List.set_cons_succ]
                      refine WQ.val rfl (fun w hw => by go_simp; rfl) ?_
                      simp only [Act.put, List.setIfInBounds_toArray, List.set_cons_zero, List.set_cons_succ]
                      refine WQ.val rfl (fun w hw => by go_simp; rfl) ?_
                      simp only [Act.put, List.setIfInBounds_toArray, List.set_cons_zero, List.set_cons_succ]
                      refine WQ.val rfl (fun w hw => by go_simp; rfl) ?_
                      simp only [Act.put, List.setIfInBounds_toArray, List.set_cons_zero, List.set_cons_succ]
                      refine WQ.val rfl (fun w hw => by go_simp; rfl) ?_
                      simp only [Act.put, List.setIfInBounds_toArray, List.set_cons_zero, List.set_cons_succ]
                      refine WQ.val rfl (fun w hw => by have := below_load c1 hw hll3; have := below_load ca2 hw hba3; go_simp; rfl) ?_
                      simp only [Act.put, List.setIfInBounds_toArray, List.set_cons_zero, List.set_cons_succ]
                      refine WQ.val rfl (fun w hw => by go_simp; rfl) ?_
                      simp only [Act.put, List.setIfInBounds_toArray, List.set_cons_zero, List.set_cons_succ]
                      refine WQ.val rfl (fun w hw => by go_simp; rfl) ?_
                      simp only [Act.put, List.setIfInBounds_toArray, List.set_cons_zero, List.set_cons_succ]
                      refine WQ.val rfl (fun w hw => by go_simp; rfl) ?_
                      simp only [Act.put, List.setIfInBounds_toArray, List.set_cons_zero, List.set_cons_succ]
                      refine WQ.val rfl (fun w hw => by go_simp; rfl) ?_
                      simp only [Act.put, List.setIfInBounds_toArray, List.set_cons_zero, List.set_cons_succ]
                      refine WQ.val rfl (fun w hw => by have := below_load c1 hw hll3; have := below_load ca2 hw hba3; go_simp; rfl) ?_
                      simp only [Act.put, List.setIfInBounds_toArray, List.set_cons_zero, List.set_cons_succ]
                      refine WQ.val rfl (fun w hw => by go_simp; rfl) ?_
                      simp only [Act.put, List.setIfInBounds_toArray, List.set_cons_zero, List.set_cons_succ]
                      refine WQ.val rfl (fun w hw => by go_simp; rfl) ?_
                      simp only [Act.put, List.setIfInBounds_toArray, List.set_cons_zero, List.set_cons_succ]
                      refine WQ.val rfl (fun w hw => by go_simp; rfl) ?_
                      simp only [Act.put, List.setIfInBounds_toArray, List.set_cons_zero, List.set_cons_succ]
                      refine WQ.nil ?_
                      intro wn hbn
                      go_wp2
                      go_roundw
                      case rel => exact ⟨j + 1, by omega, by go_num, by rw [HN.out]; rfl, hbi.trans (hbn.mono hbi.size)⟩
                      case measure => simp [intOf]; omega
                · obtain rfl : j = l.length := by omega
                  have stI := st2.step hbi
                  have ca2 := below_load ca hbi hba2
                  clear ca
                  have i2 : (0 : Int) ≤ k2 := by omega
                  have i3 : (k2 : Int) < a.length := by omega
                  have hTL := tl_all l p
                  obtain ⟨s, hs⟩ := Option.isSome_iff_exists.1 HIN.out
                  have hFA := fun w' (hw : LeafRow w' (.slice (some ⟨ba, oa, none⟩) a.length capa) a) => find_any _ a p w' hw
                  have hFB := fun w' (hw : LeafRow w' u b) => find_any u b p w' hw
                  rw [hs] at hFA
                  cases hfb : findS b p with
                  | none =>
                    have hT : tl l p l.length = true := by rw [hTL, decide_eq_true_eq]; exact HT.out.2 (by rw [hfb, hs]; simp)
                    rw [hfb] at hFB
                    rw [hT]
                    clear hT hTL hs hfb
                    go_wp2_with (first | (go_at_call_of 12 u; refine (hFB _ stI.rb).mono ?_; rintro e wf ⟨rfl, rfl⟩) | (go_at_call 12; refine (hFA _ stI.ra).mono ?_; rintro e wf ⟨rfl, rfl⟩))
                    go_roundw
                    case rel => exact ⟨k2 + 1, by omega, by go_num, hbr2.trans (hbi.mono hbr2.size)⟩
                    case measure => simp [intOf]; omega
                  | some t =>
                    rw [hfb] at hFB
                    have hbq := ba_beq s t
                    by_cases e : s = t
                    · have hT : tl l p l.length = false := by
                        rw [hTL, decide_eq_false_iff_not]; intro h; exact HT.out.1 h (by rw [hfb, hs, e])
                      rw [decide_eq_true e] at hbq
                      rw [hT]
                      clear hT hTL hs hfb e
                      go_wp2_with (first | (go_at_call_of 12 u; refine (hFB _ stI.rb).mono ?_; rintro e wf ⟨rfl, rfl⟩) | (go_at_call 12; refine (hFA _ stI.ra).mono ?_; rintro e wf ⟨rfl, rfl⟩))
                      go_roundw
                      case rel => exact ⟨k2 + 1, by omega, by go_num, hbr2.trans (hbi.mono hbr2.size)⟩
                      case measure => simp [intOf]; omega
                    · have hT : tl l p l.length = true := by
                        rw [hTL, decide_eq_true_eq]; refine HT.out.2 ?_; rw [hfb, hs]; intro h; exact e (Option.some.inj h).symm
                      rw [decide_eq_false e] at hbq
                      rw [hT]
                      clear hT hTL hs hfb e
                      go_wp2_with (first | (go_at_call_of 12 u; refine (hFB _ stI.rb).mono ?_; rintro e wf ⟨rfl, rfl⟩) | (go_at_call 12; refine (hFA _ stI.ra).mono ?_; rintro e wf ⟨rfl, rfl⟩))
                      go_roundw
                      case rel => exact ⟨k2 + 1, by omega, by go_num, hbr2.trans (hbi.mono hbr2.size)⟩
                      case measure => simp [intOf]; omega
            · have st3 := st.step hbr2
              go_wp2_with (go_at_call 5; refine (alive_any _ st3.mx).mono ?_; rintro e wx ⟨rfl, hbx⟩)
              go_ret
              exact ⟨rfl, (st3.step hbx).bel⟩
end Go.Proofs.YtodnfcbecojieaaDoor
