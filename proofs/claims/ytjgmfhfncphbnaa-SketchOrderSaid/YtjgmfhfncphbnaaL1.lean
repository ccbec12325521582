/- The walks of the laws SketchOf, SketchFar and SketchPlus: each returns true, and writes nothing that was there. -/
import Derived.Test.YtjgmfhfncphbnaaWB
namespace Go.Proofs.Ytjgmfhfncphbnaa
open Go.RowKit Fl

theorem StrRow.below {w w' : World} {v : Value} {ss : List ByteArray} (h : StrRow w v ss) (hb : Below w.heap.size w w') : StrRow w' v ss := by
  obtain ⟨ao, cap, rfl, hm, h⟩ := h
  refine ⟨ao, cap, rfl, hm, fun hne => ?_⟩
  obtain ⟨b, off, e, hl, hc⟩ := h hne
  exact ⟨b, off, e, Nat.lt_of_lt_of_le hl hb.size, fun i hi => by rw [hb.cell (p := ⟨b, off + i, none⟩) hl]; exact hc i hi⟩

/-- The world on the way: the texts read as they did, and nothing that was there has turned. -/
structure St (w0 : World) (v : Value) (ss : List ByteArray) (w : World) : Prop where
  row : StrRow w v ss
  bel : Below w0.heap.size w0 w
theorem St.step {w0 w w' : World} {v : Value} {ss : List ByteArray} (h : St w0 v ss w) (hb : Below w.heap.size w w') : St w0 v ss w' := ⟨h.row.below hb, h.bel.trans (hb.mono h.bel.size)⟩

theorem grt_no {ss : List ByteArray} (h : grt ss = false) : ss.length ≤ 30 ∧ ∀ s ∈ ss, s.size ≤ 500 := by
  simp only [grt, Bool.or_eq_false_iff, decide_eq_false_iff_not, List.any_eq_false, decide_eq_true_eq] at h
  exact ⟨by omega, fun s hs => by have := h.2 s hs; omega⟩
theorem flat_len (ss : List ByteArray) (h : ∀ s ∈ ss, s.size ≤ 500) : (flat ss).length ≤ 500 * ss.length := by
  induction ss with
  | nil => simp [flat]
  | cons s ss ih =>
    have h1 := h s (by simp)
    have h2 := ih fun x hx => h x (by simp [hx])
    have h3 : s.data.toList.length = s.size := by simp
    unfold flat at *
    rw [List.flatMap_cons, List.length_append, List.length_cons]; omega
theorem rof_flat (ss : List ByteArray) (ht : (flat ss).length ≤ 16777216) (w : World) :
    Calls Try.prog 12 #[.string ⟨(flat ss).toArray⟩] w fun e w' => e = .returned (wv (sk (flat ss))) ∧ Below w.heap.size w w' := by
  have h := rof_any ⟨(flat ss).toArray⟩ (by simpa [ByteArray.size] using ht) w
  simpa using h

theorem sketchOf_walk (v : Value) (ss : List ByteArray) (w : World) (hv : StrRow w v ss) :
    Calls Try.prog 3 #[v] w fun e w' => e = .returned (.bool true) ∧ Below w.heap.size w w' := by
  have st : St w v ss w := ⟨hv, Below.refl _ _⟩
  clear hv
  cases hg : grt ss
  · obtain ⟨h1, h2⟩ := grt_no hg
    have h3 := flat_len ss h2
    have ht : (flat ss).length ≤ 16777216 := by omega
    have hbd : Bd (sk (flat ss)) := fun i _ => by have := sk_bd (flat ss) i; omega
    have H2 := Lib.hid h2
    clear h2
    go_enter Try.func3, Try.ntmps3
    go_wp2_with (first | (go_at_call 8; refine (alive_any _).mono ?_; rintro e w1 ⟨rfl, hb⟩; have st := St.step (by assumption) hb) | (go_at_call 9; refine (great_any v ss _ (St.row (by assumption))).mono ?_; rintro e w1 ⟨rfl, rfl⟩) | (go_at_call 11; refine (of_any v ss _ (St.row (by assumption)) ht).mono ?_; rintro e w1 ⟨rfl, hb⟩; have st := St.step (by assumption) hb) | (go_at_call 13; refine (join_any v ss _ (St.row (by assumption)) ht).mono ?_; rintro e w1 ⟨rfl, rfl⟩) | (go_at_call 12; refine (rof_flat ss ht _).mono ?_; rintro e w1 ⟨rfl, hb⟩; have st := St.step (by assumption) hb) | (go_at_call 10; refine (same_yes _ hbd _).mono ?_; rintro e w1 ⟨rfl, hb⟩; have st := St.step (by assumption) hb))
    go_ret
    exact ⟨rfl, st.bel⟩
  · go_enter Try.func3, Try.ntmps3
    go_wp2_with (first | (go_at_call 8; refine (alive_any _).mono ?_; rintro e w1 ⟨rfl, hb⟩; have st := St.step (by assumption) hb) | (go_at_call 9; refine (great_any v ss _ (St.row (by assumption))).mono ?_; rintro e w1 ⟨rfl, rfl⟩))
    go_ret
    exact ⟨rfl, st.bel⟩
end Go.Proofs.Ytjgmfhfncphbnaa
