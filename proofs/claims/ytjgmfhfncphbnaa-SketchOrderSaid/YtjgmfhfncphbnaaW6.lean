/- Walks: the nearest sketch. -/
import Derived.Test.YtjgmfhfncphbnaaW5
namespace Go.Proofs.Ytjgmfhfncphbnaa
open Go.RowKit Fl

def skl (f : Nat → Int) : List Value := [.complex .f64 (fb (f 0)) (fb (f 1)), .complex .f64 (fb (f 2)) (fb (f 3)), .complex .f64 (fb (f 4)) (fb (f 5)), .complex .f64 (fb (f 6)) (fb (f 7))]
def wl (f : Nat → Int) : List Value := [.int .i64 (f 0), .int .i64 (f 1), .int .i64 (f 2), .int .i64 (f 3), .int .i64 (f 4), .int .i64 (f 5), .int .i64 (f 6), .int .i64 (f 7)]
theorem skv_eq (f : Nat → Int) : skv f = .agg (skl f).toArray := rfl
theorem wv_eq (f : Nat → Int) : wv f = .agg (wl f).toArray := rfl

/-- A slice of rows, each of sz cells, reads as these. -/
def RowOf (w : World) (v : Value) (sz : Nat) (rows : List (List Value)) : Prop :=
  ∃ ao cap, v = .slice ao rows.length cap ∧ rows.length ≤ maxLen ∧ (rows ≠ [] → ∃ b off, ao = some ⟨b, off, none⟩ ∧ b < w.heap.size ∧ ∀ i (h : i < rows.length), w.rangeAt b (off + i * sz) rows[i])

theorem rangeAt_below {w w' : World} {B b o : Nat} {cs : List Value} (h : w.rangeAt b o cs) (hb : Below B w w') (hB : b < B) : w'.rangeAt b o cs := fun j v hv => by
  rw [hb.cell (p := ⟨b, o + j, none⟩) hB]; exact h j v hv
theorem there_below {w w' : World} {B b o n : Nat} (h : w.there b o n) (hb : Below B w w') (hB : b < B) : w'.there b o n := fun j hj => by
  rw [hb.cell (p := ⟨b, o + j, none⟩) hB, hb.frozen (p := ⟨b, o + j, none⟩) hB]; exact h j hj

theorem RowOf.below {w w' : World} {v : Value} {sz : Nat} {rows : List (List Value)} (h : RowOf w v sz rows) (hb : Below w.heap.size w w') : RowOf w' v sz rows := by
  obtain ⟨ao, cap, rfl, hm, h⟩ := h
  refine ⟨ao, cap, rfl, hm, fun hne => ?_⟩
  obtain ⟨b, off, e, hl, hc⟩ := h hne
  exact ⟨b, off, e, Nat.lt_of_lt_of_le hl hb.size, fun i hi => rangeAt_below (hc i hi) hb hl⟩

/-- The place of the least of the first k that are let; -1: none. -/
def nearB (d : Nat → Int) (ok : Nat → Bool) : Nat → Int
  | 0 => -1
  | k + 1 => if ok k = true ∧ (nearB d ok k < 0 ∨ d k < d (nearB d ok k).toNat) then k else nearB d ok k
theorem nearB_bd (d : Nat → Int) (ok : Nat → Bool) (k : Nat) : -1 ≤ nearB d ok k ∧ nearB d ok k < k := by
  induction k with
  | zero => simp [nearB]
  | succ k ih => unfold nearB; split <;> omega

def dst (f : Nat → Int) (fs : List (Nat → Int)) (i : Nat) : Int := far f (fs.getD i fun _ => 0)
def farOf (d : Nat → Int) (n : Int) : Int := if n < 0 then 0 else d n.toNat
theorem far_bd (f g : Nat → Int) (hf : Bd f) (hg : Bd g) : 0 ≤ far f g ∧ far f g ≤ 3200000000 := by
  have := psum_le f g hf hg 4 (by omega); rw [psum_far] at this; omega

set_option maxHeartbeats 400000 in
theorem near_any (v : Value) (f : Nat → Int) (fs : List (Nat → Int)) (w : World) (hf : Bd f) (hfs : ∀ g ∈ fs, Bd g) (hv : RowOf w v 4 (fs.map skl)) :
    Calls Try.prog 17 #[skv f, v] w fun e w' => e = .returned (.int .i64 (nearB (dst f fs) (fun _ => true) fs.length)) ∧ Below w.heap.size w w' := by
  obtain ⟨ao, cap, rfl, hmax, hv⟩ := hv
  unfold maxLen at hmax
  rw [List.length_map] at hmax ⊢
  unfold skv
  go_enter Try.func17, Try.ntmps17
  go_wp2
  go_loopw [5, 6, 12] (fun best fr i wr => ∃ k : Nat, k ≤ fs.length ∧ i = .int .i64 k ∧ best = .int .i64 (nearB (dst f fs) (fun _ => true) k) ∧ fr = .int .i64 (farOf (dst f fs) (nearB (dst f fs) (fun _ => true) k)) ∧ wr.rangeAt w.heap.size 0 (skl f) ∧ Below w.heap.size w wr) (fun _ _ i _ => (fs.length - intOf i).toNat)
  case atStart =>
    refine ⟨0, by omega, rfl, rfl, rfl, ?_, ((Below.refl _ _).alloc (Nat.le_refl _) _)⟩
    intro j v hj
    rw [Nat.zero_add, World.cell?_alloc_new]
    unfold skl at hj
    simpa using hj
  case round =>
    obtain ⟨k, hk, rfl, rfl, rfl, hbox, hb⟩ := hrel
    by_cases hlt : k < fs.length
    · obtain ⟨b, off, rfl, hbl, hcell⟩ := hv (by intro e; rw [List.map_eq_nil_iff] at e; rw [e] at hlt; simp at hlt)
      have h1 := rangeAt_below (hcell k (by simpa using hlt)) hb hbl
      rw [List.getElem_map] at h1
      have hg := hfs fs[k] (List.getElem_mem hlt)
      have hd : dst f fs k = far f fs[k] := by unfold dst; rw [List.getD_eq_getElem?_getD, List.getElem?_eq_getElem hlt]; rfl
      have HD := Lib.hid hd
      have HV := Lib.hid hcell
      have HB := Lib.hid hbox
      have hnb := nearB_bd (dst f fs) (fun _ => true) k
      clear hv hcell hd
      generalize fs[k] = g at h1 hg HD
      unfold skl at h1 hbox
      generalize hN : nearB (dst f fs) (fun _ => true) k = N at hnb ⊢
      have HN := Lib.hid hN
      clear hN
      have hfb := far_bd f g hf hg
      have hlk : w.heap.size < wr.heap.size + 1 := by have := hb.size; omega
      have fin : ∀ X w2, Below (wr.alloc X).heap.size (wr.alloc X) w2 → w2.rangeAt w.heap.size 0 (skl f) ∧ Below w.heap.size w w2 := fun X w2 hb2 =>
        ⟨rangeAt_below (World.rangeAt_alloc HB.out _) hb2 (by simp; omega), (hb.alloc (by omega) _).trans (hb2.mono (by simp; omega))⟩
      have FIN := Lib.hid fin
      clear fin
      have s1 : Hid ((N < 0 ∨ far f g < dst f fs N.toNat) → nearB (dst f fs) (fun _ => true) (k + 1) = k ∧ farOf (dst f fs) (k : Int) = far f g) := fun h => by
        refine ⟨?_, ?_⟩
        · unfold nearB; rw [HN.out, HD.out, if_pos ⟨rfl, h⟩]
        · unfold farOf; rw [if_neg (by omega), Int.toNat_natCast, HD.out]
      have s2 : Hid (¬ (N < 0 ∨ far f g < dst f fs N.toNat) → nearB (dst f fs) (fun _ => true) (k + 1) = N) := fun h => by
        unfold nearB; rw [HN.out, HD.out, if_neg (fun x => h x.2)]
      have s3 : Hid (¬ N < 0 → farOf (dst f fs) N = dst f fs N.toNat) := fun h => by unfold farOf; rw [if_neg h]
      by_cases hN0 : N < 0
      · go_wp2_with (first | (refine wpList_load_mid rfl 28 _ rfl b (off + k * 4) rfl _ _ h1 Try.underlying28 rfl (by kernel_rfl) ?_) | (refine wpList_load_mid rfl 28 _ rfl w.heap.size 0 rfl _ _ (World.rangeAt_alloc hbox _) Try.underlying28 rfl (by kernel_rfl) ?_) | (go_at_call 15; refine (far_any f g hf hg _).mono ?_; rintro e w2 ⟨rfl, hb2⟩))
        go_roundw
        case rel =>
          obtain ⟨e1, e2⟩ := s1.out (.inl hN0)
          exact ⟨k + 1, by omega, by go_num, by rw [e1], by rw [e1, e2], (FIN.out _ _ hb2).1, (FIN.out _ _ hb2).2⟩
        case measure => simp [intOf]; omega
      · by_cases hlt2 : far f g < farOf (dst f fs) N
        · go_wp2_with (first | (refine wpList_load_mid rfl 28 _ rfl b (off + k * 4) rfl _ _ h1 Try.underlying28 rfl (by kernel_rfl) ?_) | (refine wpList_load_mid rfl 28 _ rfl w.heap.size 0 rfl _ _ (World.rangeAt_alloc hbox _) Try.underlying28 rfl (by kernel_rfl) ?_) | (go_at_call 15; refine (far_any f g hf hg _).mono ?_; rintro e w2 ⟨rfl, hb2⟩))
          go_roundw
          case rel =>
            obtain ⟨e1, e2⟩ := s1.out (.inr (by rw [← s3.out (by omega)]; exact hlt2))
            exact ⟨k + 1, by omega, by go_num, by rw [e1], by rw [e1, e2], (FIN.out _ _ hb2).1, (FIN.out _ _ hb2).2⟩
          case measure => simp [intOf]; omega
        · go_wp2_with (first | (refine wpList_load_mid rfl 28 _ rfl b (off + k * 4) rfl _ _ h1 Try.underlying28 rfl (by kernel_rfl) ?_) | (refine wpList_load_mid rfl 28 _ rfl w.heap.size 0 rfl _ _ (World.rangeAt_alloc hbox _) Try.underlying28 rfl (by kernel_rfl) ?_) | (go_at_call 15; refine (far_any f g hf hg _).mono ?_; rintro e w2 ⟨rfl, hb2⟩))
          go_roundw
          case rel =>
            have e1 := s2.out (fun h => by rw [← s3.out (by omega)] at h; omega)
            exact ⟨k + 1, by omega, by go_num, by rw [e1], by rw [e1], (FIN.out _ _ hb2).1, (FIN.out _ _ hb2).2⟩
          case measure => simp [intOf]; omega
    · obtain rfl : k = fs.length := by omega
      clear hv hbox
      go_wp2
      go_ret
      exact ⟨rfl, hb⟩
end Go.Proofs.Ytjgmfhfncphbnaa
