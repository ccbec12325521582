/- Walks: the document's nearest sketch. -/
import Derived.Test.YtjgmfhfncphbnaaW6
import Derived.Test.YtjgmfhfncphbnaaQu
namespace Go.Proofs.Ytjgmfhfncphbnaa
open Go.RowKit Fl

/-- A slice of bools reads as these. -/
def BoolRow (w : World) (v : Value) (bs : List Bool) : Prop :=
  ∃ ao cap, v = .slice ao bs.length cap ∧ bs.length ≤ maxLen ∧ (bs ≠ [] → ∃ b off, ao = some ⟨b, off, none⟩ ∧ b < w.heap.size ∧ ∀ i (h : i < bs.length), w.cell? ⟨b, off + i, none⟩ = some (.bool bs[i]))

def free (bs : List Bool) (i : Nat) : Bool := !(bs.getD i false)

set_option maxHeartbeats 1000000 in
theorem rnear_any (v u : Value) (f : Nat → Int) (fs : List (Nat → Int)) (bs : List Bool) (w : World) (hf : Bd f) (hfs : ∀ g ∈ fs, Bd g) (hv : RowOf w v 8 (fs.map wl)) (hu : BoolRow w u bs) (hbl : bs.length = fs.length) :
    Calls Try.prog 18 #[wv f, v, u] w fun e w' => e = .returned (.int .i64 (nearB (dst f fs) (free bs) fs.length)) ∧ Below w.heap.size w w' := by
  obtain ⟨ao, cap, rfl, hmax, hv⟩ := hv
  obtain ⟨bo, cap', rfl, _, hu⟩ := hu
  rw [hbl]
  unfold maxLen at hmax
  rw [List.length_map] at hmax ⊢
  unfold wv
  have HBL := Lib.hid hbl
  clear hbl
  go_enter Try.func18, Try.ntmps18
  go_wp2
  go_loopw [7, 8] (fun best i wr => ∃ k : Nat, k ≤ fs.length ∧ i = .int .i64 k ∧ best = .int .i64 (nearB (dst f fs) (free bs) k) ∧ wr.rangeAt w.heap.size 0 (wl f) ∧ Below w.heap.size w wr) (fun _ i _ => (fs.length - intOf i).toNat)
  case atStart =>
    refine ⟨0, by omega, rfl, rfl, ?_, ((Below.refl _ _).alloc (Nat.le_refl _) _)⟩
    intro j v hj
    rw [Nat.zero_add, World.cell?_alloc_new]
    unfold wl at hj
    simpa using hj
  case round =>
    obtain ⟨k, hk, rfl, rfl, hbox, hb⟩ := hrel
    have hnb := nearB_bd (dst f fs) (free bs) k
    have hsz : w.heap.size < wr.heap.size := World.block_lt_of_cell? wr ⟨w.heap.size, 0 + 0, none⟩ (hbox 0 _ rfl)
    by_cases hlt : k < fs.length
    · obtain ⟨b, off, rfl, hbl, hcell⟩ := hv (by intro e; rw [List.map_eq_nil_iff] at e; rw [e] at hlt; simp at hlt)
      have hlt' : k < bs.length := by rw [HBL.out]; exact hlt
      obtain ⟨b', off', rfl, hbl', hcell'⟩ := hu (by intro e; rw [e] at hlt'; simp at hlt')
      have h1 := rangeAt_below (hcell k (by simpa using hlt)) hb hbl
      rw [List.getElem_map] at h1
      have h2 := hcell' k hlt'
      rw [← hb.cell (p := ⟨b', off' + k, none⟩) hbl'] at h2
      have hg := hfs fs[k] (List.getElem_mem hlt)
      have hd : dst f fs k = far f fs[k] := by unfold dst; rw [List.getD_eq_getElem?_getD, List.getElem?_eq_getElem hlt]; rfl
      have ht : free bs k = !bs[k] := by unfold free; rw [List.getD_eq_getElem?_getD, List.getElem?_eq_getElem hlt']; rfl
      have HD := Lib.hid hd
      have HT := Lib.hid ht
      have HV := Lib.hid hcell
      have HV' := Lib.hid hcell'
      have HB := Lib.hid hbox
      have H1 := Lib.hid h1
      have l0 : (0 : Int) ≤ k := by omega
      have l1 : (k : Int) < fs.length := by omega
      clear hv hu hcell hcell' hd ht hbox h1
      generalize fs[k] = g at H1 hg HD
      generalize bs[k] = t at h2 HT
      have hN : Hid (nearB (dst f fs) (free bs) (k + 1) = if free bs k = true ∧ (nearB (dst f fs) (free bs) k < 0 ∨ dst f fs k < dst f fs (nearB (dst f fs) (free bs) k).toNat) then (k : Int) else nearB (dst f fs) (free bs) k) := rfl
      generalize hNN : nearB (dst f fs) (free bs) k = N at hnb hN ⊢
      have HN := Lib.hid hNN
      clear hNN
      have hbb : b' < wr.heap.size := by omega
      have bfin : ∀ w2, Below wr.heap.size wr w2 → w2.rangeAt w.heap.size 0 (wl f) ∧ Below w.heap.size w w2 := fun w2 hb2 => ⟨rangeAt_below HB.out hb2 (by omega), hb.trans (hb2.mono (by omega))⟩
      have FIN := Lib.hid bfin
      clear bfin
      cases t
      · have s1 : Hid ((N < 0 ∨ far f g < dst f fs N.toNat) → nearB (dst f fs) (Go.Proofs.Ytjgmfhfncphbnaa.free bs) (k + 1) = k) := fun h => by
          rw [hN.out, if_pos ⟨HT.out, by rw [HD.out]; exact h⟩]
        have s2 : Hid (¬ (N < 0 ∨ far f g < dst f fs N.toNat) → nearB (dst f fs) (Go.Proofs.Ytjgmfhfncphbnaa.free bs) (k + 1) = N) := fun h => by
          rw [hN.out, if_neg (fun x => h (by rw [← HD.out]; exact x.2))]
        clear hN
        by_cases hN0 : N < 0
        · go_wp2
          refine wp_region_below wr.heap.size (by kernel_rfl) (by kernel_rfl) ?_
          refine WQ.val rfl (fun w hw => by go_simp; rfl) ?_
          simp only [Act.put, List.setIfInBounds_toArray, List.set_cons_zero, List.set_cons_succ]
          refine WQ.val rfl (fun w hw => by go_simp; rfl) ?_
          simp only [Act.put, List.setIfInBounds_toArray, List.set_cons_zero, List.set_cons_succ]
          refine WQ.val rfl (fun w hw => by go_simp; rfl) ?_
          simp only [Act.put, List.setIfInBounds_toArray, List.set_cons_zero, List.set_cons_succ]
          refine WQ.val rfl (fun w hw => by have := below_load h2 hw hbb; go_simp; rfl) ?_
          simp only [Act.put, List.setIfInBounds_toArray, List.set_cons_zero, List.set_cons_succ]
          refine WQ.val rfl (fun w hw => by go_simp; rfl) ?_
          simp only [Act.put, List.setIfInBounds_toArray, List.set_cons_zero, List.set_cons_succ]
          refine WQ.val rfl (fun w hw => by go_simp; rfl) ?_
          simp only [Act.put, List.setIfInBounds_toArray, List.set_cons_zero, List.set_cons_succ]
          refine WQ.val rfl (fun w hw => by go_simp; rfl) ?_
          simp only [Act.put, List.setIfInBounds_toArray, List.set_cons_zero, List.set_cons_succ]
          refine WQ.val rfl (fun w hw => by go_simp; rfl) ?_
          simp only [Act.put, List.setIfInBounds_toArray, List.set_cons_zero, List.set_cons_succ]
          refine WQ.val rfl (fun w hw => by go_simp; rfl) ?_
          simp only [Act.put, List.setIfInBounds_toArray, List.set_cons_zero, List.set_cons_succ]
          refine WQ.off rfl ?_
          simp only [Act.put, List.setIfInBounds_toArray, List.set_cons_zero, List.set_cons_succ]
          refine WQ.off rfl ?_
          simp only [Act.put, List.setIfInBounds_toArray, List.set_cons_zero, List.set_cons_succ]
          refine WQ.off rfl ?_
          simp only [Act.put, List.setIfInBounds_toArray, List.set_cons_zero, List.set_cons_succ]
          refine WQ.off rfl ?_
          simp only [Act.put, List.setIfInBounds_toArray, List.set_cons_zero, List.set_cons_succ]
          refine WQ.off rfl ?_
          simp only [Act.put, List.setIfInBounds_toArray, List.set_cons_zero, List.set_cons_succ]
          refine WQ.off rfl ?_
          simp only [Act.put, List.setIfInBounds_toArray, List.set_cons_zero, List.set_cons_succ]
          refine WQ.off rfl ?_
          simp only [Act.put, List.setIfInBounds_toArray, List.set_cons_zero, List.set_cons_succ]
          refine WQ.off rfl ?_
          simp only [Act.put, List.setIfInBounds_toArray, List.set_cons_zero, List.set_cons_succ]
          refine WQ.off rfl ?_
          simp only [Act.put, List.setIfInBounds_toArray, List.set_cons_zero, List.set_cons_succ]
          refine WQ.off rfl ?_
          simp only [Act.put, List.setIfInBounds_toArray, List.set_cons_zero, List.set_cons_succ]
          refine WQ.off rfl ?_
          simp only [Act.put, List.setIfInBounds_toArray, List.set_cons_zero, List.set_cons_succ]
          refine WQ.off rfl ?_
          simp only [Act.put, List.setIfInBounds_toArray, List.set_cons_zero, List.set_cons_succ]
          refine WQ.off rfl ?_
          simp only [Act.put, List.setIfInBounds_toArray, List.set_cons_zero, List.set_cons_succ]
          refine WQ.val rfl (fun w hw => by go_simp; rfl) ?_
          simp only [Act.put, List.setIfInBounds_toArray, List.set_cons_zero, List.set_cons_succ]
          refine WQ.val rfl (fun w hw => by go_simp; rfl) ?_
          simp only [Act.put, List.setIfInBounds_toArray, List.set_cons_zero, List.set_cons_succ]
          refine WQ.nil ?_
          intro wn hbn
          go_wp2
          go_roundw
          case rel => exact ⟨k + 1, by omega, by go_num, by rw [s1.out (.inl hN0)], (FIN.out _ hbn).1, (FIN.out _ hbn).2⟩
          case measure => simp [intOf]; omega
        · obtain ⟨n, rfl⟩ := Int.eq_ofNat_of_zero_le (by omega : 0 ≤ N)
          have hn : n < fs.length := by omega
          have h3 := rangeAt_below (HV.out n (by simpa using hn)) hb hbl
          rw [List.getElem_map] at h3
          have hh := hfs fs[n] (List.getElem_mem hn)
          have hd3 : dst f fs n = far f fs[n] := by unfold dst; rw [List.getD_eq_getElem?_getD, List.getElem?_eq_getElem hn]; rfl
          have HD3 := Lib.hid hd3
          have H3 := Lib.hid h3
          clear h3 hd3
          generalize fs[n] = h at H3 hh HD3
          have m0 : (0 : Int) ≤ n := by omega
          have m1 : (n : Int) < fs.length := by omega
          by_cases hlt2 : far f g < far f h
          · go_wp2
            refine wp_region_below wr.heap.size (by kernel_rfl) (by kernel_rfl) ?_
            refine WQ.val rfl (fun w hw => by go_simp; rfl) ?_
            simp only [Act.put, List.setIfInBounds_toArray, List.set_cons_zero, List.set_cons_succ]
            refine WQ.val rfl (fun w hw => by go_simp; rfl) ?_
            simp only [Act.put, List.setIfInBounds_toArray, List.set_cons_zero, List.set_cons_succ]
            refine WQ.val rfl (fun w hw => by go_simp; rfl) ?_
            simp only [Act.put, List.setIfInBounds_toArray, List.set_cons_zero, List.set_cons_succ]
            refine WQ.val rfl (fun w hw => by have := below_load h2 hw hbb; go_simp; rfl) ?_
            simp only [Act.put, List.setIfInBounds_toArray, List.set_cons_zero, List.set_cons_succ]
            refine WQ.val rfl (fun w hw => by go_simp; rfl) ?_
            simp only [Act.put, List.setIfInBounds_toArray, List.set_cons_zero, List.set_cons_succ]
            refine WQ.val rfl (fun w hw => by go_simp; rfl) ?_
            simp only [Act.put, List.setIfInBounds_toArray, List.set_cons_zero, List.set_cons_succ]
            refine WQ.val rfl (fun w hw => by go_simp; rfl) ?_
            simp only [Act.put, List.setIfInBounds_toArray, List.set_cons_zero, List.set_cons_succ]
            refine WQ.val rfl (fun w hw => by go_simp; rfl) ?_
            simp only [Act.put, List.setIfInBounds_toArray, List.set_cons_zero, List.set_cons_succ]
            refine WQ.val rfl (fun w hw => by go_simp; rfl) ?_
            simp only [Act.put, List.setIfInBounds_toArray, List.set_cons_zero, List.set_cons_succ]
            refine WQ.val rfl (fun w hw => exec_load_row 31 _ HB.out (by omega) Try.underlying31 rfl (by kernel_rfl) hw _ rfl rfl) ?_
            simp only [Act.put, List.setIfInBounds_toArray, List.set_cons_zero, List.set_cons_succ]
            refine WQ.val rfl (fun w hw => by go_simp; rfl) ?_
            simp only [Act.put, List.setIfInBounds_toArray, List.set_cons_zero, List.set_cons_succ]
            refine WQ.val rfl (fun w hw => by go_simp; rfl) ?_
            simp only [Act.put, List.setIfInBounds_toArray, List.set_cons_zero, List.set_cons_succ]
            refine WQ.val rfl (fun w hw => by go_simp; rfl) ?_
            simp only [Act.put, List.setIfInBounds_toArray, List.set_cons_zero, List.set_cons_succ]
            refine WQ.val rfl (fun w hw => exec_load_row 31 _ H1.out (by omega) Try.underlying31 rfl (by kernel_rfl) hw _ rfl rfl) ?_
            simp only [Act.put, List.setIfInBounds_toArray, List.set_cons_zero, List.set_cons_succ]
            refine WQ.call rfl (fun w hw => by go_simp; exact ⟨rfl, rfl⟩) (fun w hw => (rfar_any f g hf hg w).mono fun e w2 ⟨he, hb⟩ => ⟨he, hw.trans (hb.mono hw.size)⟩) ?_
            simp only [Act.put, List.setIfInBounds_toArray, List.set_cons_zero, List.set_cons_succ]
            refine WQ.val rfl (fun w hw => exec_load_row 31 _ HB.out (by omega) Try.underlying31 rfl (by kernel_rfl) hw _ rfl rfl) ?_
            simp only [Act.put, List.setIfInBounds_toArray, List.set_cons_zero, List.set_cons_succ]
            refine WQ.val rfl (fun w hw => by go_simp; rfl) ?_
            simp only [Act.put, List.setIfInBounds_toArray, List.set_cons_zero, List.set_cons_succ]
            refine WQ.val rfl (fun w hw => by go_simp; rfl) ?_
            simp only [Act.put, List.setIfInBounds_toArray, List.set_cons_zero, List.set_cons_succ]
            refine WQ.val rfl (fun w hw => by go_simp; rfl) ?_
            simp only [Act.put, List.setIfInBounds_toArray, List.set_cons_zero, List.set_cons_succ]
            refine WQ.val rfl (fun w hw => exec_load_row 31 _ H3.out (by omega) Try.underlying31 rfl (by kernel_rfl) hw _ rfl rfl) ?_
            simp only [Act.put, List.setIfInBounds_toArray, List.set_cons_zero, List.set_cons_succ]
            refine WQ.call rfl (fun w hw => by go_simp; exact ⟨rfl, rfl⟩) (fun w hw => (rfar_any f h hf hh w).mono fun e w2 ⟨he, hb⟩ => ⟨he, hw.trans (hb.mono hw.size)⟩) ?_
            simp only [Act.put, List.setIfInBounds_toArray, List.set_cons_zero, List.set_cons_succ]
            refine WQ.val rfl (fun w hw => by go_simp; rfl) ?_
            simp only [Act.put, List.setIfInBounds_toArray, List.set_cons_zero, List.set_cons_succ]
            refine WQ.val rfl (fun w hw => by go_simp; rfl) ?_
            simp only [Act.put, List.setIfInBounds_toArray, List.set_cons_zero, List.set_cons_succ]
            refine WQ.val rfl (fun w hw => by go_simp; rfl) ?_
            simp only [Act.put, List.setIfInBounds_toArray, List.set_cons_zero, List.set_cons_succ]
            refine WQ.nil ?_
            intro wn hbn
            go_wp2
            go_roundw
            case rel => exact ⟨k + 1, by omega, by go_num, by rw [s1.out (.inr (by rw [Int.toNat_natCast, HD3.out]; exact hlt2))], (FIN.out _ hbn).1, (FIN.out _ hbn).2⟩
            case measure => simp [intOf]; omega
          · go_wp2
            refine wp_region_below wr.heap.size (by kernel_rfl) (by kernel_rfl) ?_
            refine WQ.val rfl (fun w hw => by go_simp; rfl) ?_
            simp only [Act.put, List.setIfInBounds_toArray, List.set_cons_zero, List.set_cons_succ]
            refine WQ.val rfl (fun w hw => by go_simp; rfl) ?_
            simp only [Act.put, List.setIfInBounds_toArray, List.set_cons_zero, List.set_cons_succ]
            refine WQ.val rfl (fun w hw => by go_simp; rfl) ?_
            simp only [Act.put, List.setIfInBounds_toArray, List.set_cons_zero, List.set_cons_succ]
            refine WQ.val rfl (fun w hw => by have := below_load h2 hw hbb; go_simp; rfl) ?_
            simp only [Act.put, List.setIfInBounds_toArray, List.set_cons_zero, List.set_cons_succ]
            refine WQ.val rfl (fun w hw => by go_simp; rfl) ?_
            simp only [Act.put, List.setIfInBounds_toArray, List.set_cons_zero, List.set_cons_succ]
            refine WQ.val rfl (fun w hw => by go_simp; rfl) ?_
            simp only [Act.put, List.setIfInBounds_toArray, List.set_cons_zero, List.set_cons_succ]
            refine WQ.val rfl (fun w hw => by go_simp; rfl) ?_
            simp only [Act.put, List.setIfInBounds_toArray, List.set_cons_zero, List.set_cons_succ]
            refine WQ.val rfl (fun w hw => by go_simp; rfl) ?_
            simp only [Act.put, List.setIfInBounds_toArray, List.set_cons_zero, List.set_cons_succ]
            refine WQ.val rfl (fun w hw => by go_simp; rfl) ?_
            simp only [Act.put, List.setIfInBounds_toArray, List.set_cons_zero, List.set_cons_succ]
            refine WQ.val rfl (fun w hw => exec_load_row 31 _ HB.out (by omega) Try.underlying31 rfl (by kernel_rfl) hw _ rfl rfl) ?_
            simp only [Act.put, List.setIfInBounds_toArray, List.set_cons_zero, List.set_cons_succ]
            refine WQ.val rfl (fun w hw => by go_simp; rfl) ?_
            simp only [Act.put, List.setIfInBounds_toArray, List.set_cons_zero, List.set_cons_succ]
            refine WQ.val rfl (fun w hw => by go_simp; rfl) ?_
            simp only [Act.put, List.setIfInBounds_toArray, List.set_cons_zero, List.set_cons_succ]
            refine WQ.val rfl (fun w hw => by go_simp; rfl) ?_
            simp only [Act.put, List.setIfInBounds_toArray, List.set_cons_zero, List.set_cons_succ]
            refine WQ.val rfl (fun w hw => exec_load_row 31 _ H1.out (by omega) Try.underlying31 rfl (by kernel_rfl) hw _ rfl rfl) ?_
            simp only [Act.put, List.setIfInBounds_toArray, List.set_cons_zero, List.set_cons_succ]
            refine WQ.call rfl (fun w hw => by go_simp; exact ⟨rfl, rfl⟩) (fun w hw => (rfar_any f g hf hg w).mono fun e w2 ⟨he, hb⟩ => ⟨he, hw.trans (hb.mono hw.size)⟩) ?_
            simp only [Act.put, List.setIfInBounds_toArray, List.set_cons_zero, List.set_cons_succ]
            refine WQ.val rfl (fun w hw => exec_load_row 31 _ HB.out (by omega) Try.underlying31 rfl (by kernel_rfl) hw _ rfl rfl) ?_
            simp only [Act.put, List.setIfInBounds_toArray, List.set_cons_zero, List.set_cons_succ]
            refine WQ.val rfl (fun w hw => by go_simp; rfl) ?_
            simp only [Act.put, List.setIfInBounds_toArray, List.set_cons_zero, List.set_cons_succ]
            refine WQ.val rfl (fun w hw => by go_simp; rfl) ?_
            simp only [Act.put, List.setIfInBounds_toArray, List.set_cons_zero, List.set_cons_succ]
            refine WQ.val rfl (fun w hw => by go_simp; rfl) ?_
            simp only [Act.put, List.setIfInBounds_toArray, List.set_cons_zero, List.set_cons_succ]
            refine WQ.val rfl (fun w hw => exec_load_row 31 _ H3.out (by omega) Try.underlying31 rfl (by kernel_rfl) hw _ rfl rfl) ?_
            simp only [Act.put, List.setIfInBounds_toArray, List.set_cons_zero, List.set_cons_succ]
            refine WQ.call rfl (fun w hw => by go_simp; exact ⟨rfl, rfl⟩) (fun w hw => (rfar_any f h hf hh w).mono fun e w2 ⟨he, hb⟩ => ⟨he, hw.trans (hb.mono hw.size)⟩) ?_
            simp only [Act.put, List.setIfInBounds_toArray, List.set_cons_zero, List.set_cons_succ]
            refine WQ.val rfl (fun w hw => by go_simp; rfl) ?_
            simp only [Act.put, List.setIfInBounds_toArray, List.set_cons_zero, List.set_cons_succ]
            refine WQ.val rfl (fun w hw => by go_simp; rfl) ?_
            simp only [Act.put, List.setIfInBounds_toArray, List.set_cons_zero, List.set_cons_succ]
            refine WQ.val rfl (fun w hw => by go_simp; rfl) ?_
            simp only [Act.put, List.setIfInBounds_toArray, List.set_cons_zero, List.set_cons_succ]
            refine WQ.nil ?_
            intro wn hbn
            go_wp2
            go_roundw
            case rel => exact ⟨k + 1, by omega, by go_num, by rw [s2.out (by rw [Int.toNat_natCast, HD3.out]; omega)], (FIN.out _ hbn).1, (FIN.out _ hbn).2⟩
            case measure => simp [intOf]; omega
      · have s2 : Hid (nearB (dst f fs) (Go.Proofs.Ytjgmfhfncphbnaa.free bs) (k + 1) = N) := by
          show _ = _
          rw [hN.out, if_neg (fun x => by rw [HT.out] at x; exact absurd x.1 (by simp))]
        clear hN
        go_wp2
        refine wp_region_below wr.heap.size (by kernel_rfl) (by kernel_rfl) ?_
        refine WQ.val rfl (fun w hw => by go_simp; rfl) ?_
        simp only [Act.put, List.setIfInBounds_toArray, List.set_cons_zero, List.set_cons_succ]
        refine WQ.val rfl (fun w hw => by go_simp; rfl) ?_
        simp only [Act.put, List.setIfInBounds_toArray, List.set_cons_zero, List.set_cons_succ]
        refine WQ.val rfl (fun w hw => by go_simp; rfl) ?_
        simp only [Act.put, List.setIfInBounds_toArray, List.set_cons_zero, List.set_cons_succ]
        refine WQ.val rfl (fun w hw => by have := below_load h2 hw hbb; go_simp; rfl) ?_
        simp only [Act.put, List.setIfInBounds_toArray, List.set_cons_zero, List.set_cons_succ]
        refine WQ.val rfl (fun w hw => by go_simp; rfl) ?_
        simp only [Act.put, List.setIfInBounds_toArray, List.set_cons_zero, List.set_cons_succ]
        refine WQ.val rfl (fun w hw => by go_simp; rfl) ?_
        simp only [Act.put, List.setIfInBounds_toArray, List.set_cons_zero, List.set_cons_succ]
        refine WQ.off rfl ?_
        simp only [Act.put, List.setIfInBounds_toArray, List.set_cons_zero, List.set_cons_succ]
        refine WQ.off rfl ?_
        simp only [Act.put, List.setIfInBounds_toArray, List.set_cons_zero, List.set_cons_succ]
        refine WQ.off rfl ?_
        simp only [Act.put, List.setIfInBounds_toArray, List.set_cons_zero, List.set_cons_succ]
        refine WQ.off rfl ?_
        simp only [Act.put, List.setIfInBounds_toArray, List.set_cons_zero, List.set_cons_succ]
        refine WQ.off rfl ?_
        simp only [Act.put, List.setIfInBounds_toArray, List.set_cons_zero, List.set_cons_succ]
        refine WQ.off rfl ?_
        simp only [Act.put, List.setIfInBounds_toArray, List.set_cons_zero, List.set_cons_succ]
        refine WQ.off rfl ?_
        simp only [Act.put, List.setIfInBounds_toArray, List.set_cons_zero, List.set_cons_succ]
        refine WQ.off rfl ?_
        simp only [Act.put, List.setIfInBounds_toArray, List.set_cons_zero, List.set_cons_succ]
        refine WQ.off rfl ?_
        simp only [Act.put, List.setIfInBounds_toArray, List.set_cons_zero, List.set_cons_succ]
        refine WQ.off rfl ?_
        simp only [Act.put, List.setIfInBounds_toArray, List.set_cons_zero, List.set_cons_succ]
        refine WQ.off rfl ?_
        simp only [Act.put, List.setIfInBounds_toArray, List.set_cons_zero, List.set_cons_succ]
        refine WQ.off rfl ?_
        simp only [Act.put, List.setIfInBounds_toArray, List.set_cons_zero, List.set_cons_succ]
        refine WQ.off rfl ?_
        simp only [Act.put, List.setIfInBounds_toArray, List.set_cons_zero, List.set_cons_succ]
        refine WQ.off rfl ?_
        simp only [Act.put, List.setIfInBounds_toArray, List.set_cons_zero, List.set_cons_succ]
        refine WQ.off rfl ?_
        simp only [Act.put, List.setIfInBounds_toArray, List.set_cons_zero, List.set_cons_succ]
        refine WQ.off rfl ?_
        simp only [Act.put, List.setIfInBounds_toArray, List.set_cons_zero, List.set_cons_succ]
        refine WQ.off rfl ?_
        simp only [Act.put, List.setIfInBounds_toArray, List.set_cons_zero, List.set_cons_succ]
        refine WQ.val rfl (fun w hw => by go_simp; rfl) ?_
        simp only [Act.put, List.setIfInBounds_toArray, List.set_cons_zero, List.set_cons_succ]
        refine WQ.nil ?_
        intro wn hbn
        go_wp2
        go_roundw
        case rel => exact ⟨k + 1, by omega, by go_num, by rw [s2.out], (FIN.out _ hbn).1, (FIN.out _ hbn).2⟩
        case measure => simp [intOf]; omega
    · obtain rfl : k = fs.length := by omega
      clear hv hbox hu
      go_wp2
      go_ret
      exact ⟨rfl, hb⟩
end Go.Proofs.Ytjgmfhfncphbnaa
