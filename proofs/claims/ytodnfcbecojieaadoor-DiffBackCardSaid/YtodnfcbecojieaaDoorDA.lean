/- Walks: what every right program answers; the law DiffFiles. -/
import Derived.Test.YtodnfcbecojieaaDoorD9
namespace Go.Proofs.YtodnfcbecojieaaDoor
open Go.RowKit

def tA : List Lf := [(⟨#[97]⟩, ⟨#[49]⟩), (⟨#[98]⟩, ⟨#[50]⟩)]
def tB : List Lf := [(⟨#[98]⟩, ⟨#[51]⟩), (⟨#[99]⟩, ⟨#[52]⟩)]
theorem tFiles : filesS tA tB = [(⟨#[97]⟩, 2), (⟨#[98]⟩, 3), (⟨#[99]⟩, 1)] := by decide +kernel
theorem tLess : lessS ⟨#[97, 47, 98]⟩ ⟨#[97, 46, 98]⟩ = true := by decide +kernel

theorem tRow (w : World) (a b c d : ByteArray) (e : TypeId) : LeafRow (w.alloc (.cells #[.string a, .string b, .string c, .string d] e)) (.slice (some ⟨w.heap.size, 0, none⟩) 2 2) [(a, b), (c, d)] := by
  refine ⟨_, _, rfl, by unfold maxLen; simp, fun _ => ⟨w.heap.size, 0, rfl, by simp, fun i hi j u hu => ?_⟩⟩
  rw [World.cell?_alloc_new]
  have hi2 : i = 0 ∨ i = 1 := by simp at hi; omega
  rcases hi2 with rfl | rfl <;> (rcases j with _ | _ | j <;> simp [leafC] at hu ⊢ <;> exact hu)

set_option maxHeartbeats 2000000 in
theorem alive_any (w : World) (hm : MaxAt w) : Calls Tryd.prog 5 #[] w fun e w' => e = .returned (.bool true) ∧ Below w.heap.size w w' := by
  have hF : ∃ W, W = (w.alloc (.cells #[.string ⟨#[97]⟩, .string ⟨#[49]⟩, .string ⟨#[98]⟩, .string ⟨#[50]⟩] 33)).alloc (.cells #[.string ⟨#[98]⟩, .string ⟨#[51]⟩, .string ⟨#[99]⟩, .string ⟨#[52]⟩] 33) := ⟨_, rfl⟩
  obtain ⟨W, hW⟩ := hF
  have hb1 : Below w.heap.size w (w.alloc (.cells #[.string ⟨#[97]⟩, .string ⟨#[49]⟩, .string ⟨#[98]⟩, .string ⟨#[50]⟩] 33)) := (Below.refl _ w).alloc (Nat.le_refl _) _
  have hb2 : Below w.heap.size w W := by rw [hW]; exact hb1.alloc hb1.size _
  have hr1 : LeafRow W (.slice (some ⟨w.heap.size, 0, none⟩) 2 2) tA := by
    rw [hW]; exact (tRow w _ _ _ _ _).below ((Below.refl _ _).alloc (Nat.le_refl _) _)
  have hr2 : LeafRow W (.slice (some ⟨w.heap.size + 1, 0, none⟩) 2 2) tB := by
    rw [hW]
    have := tRow (w.alloc (.cells #[.string ⟨#[97]⟩, .string ⟨#[49]⟩, .string ⟨#[98]⟩, .string ⟨#[50]⟩] 33)) ⟨#[98]⟩ ⟨#[51]⟩ ⟨#[99]⟩ ⟨#[52]⟩ 33
    rw [World.size_alloc] at this; exact this
  have hF := dfiles_any _ _ tA tB W hr1 hr2 (by decide) (by decide) (by decide) (by decide) (hm.step hb2)
  rw [tFiles] at hF
  have hL := fun w' => dless_any ⟨#[97, 47, 98]⟩ ⟨#[97, 46, 98]⟩ w' (by decide) (by decide)
  rw [tLess] at hL
  clear hb1 hr1 hr2
  go_enter Tryd.func5, Tryd.ntmps5
  go_wp2_with (go_at_call 8; rw [← hW]; refine hF.mono ?_; rintro e w1 ⟨o, rfl, hr, hb3⟩)
  have hbw := hb2.trans (hb3.mono hb2.size)
  have hm1 := hm.step hbw
  obtain ⟨ao, cap, rfl, _, hcell⟩ := hr.open
  obtain ⟨bo, oo, rfl, hbo, hc⟩ := hcell (by simp)
  have c12 := hc 0 (by simp)
  have c34 := hc 1 (by simp)
  have c56 := hc 2 (by simp)
  clear hc hcell hF hr hW
  simp only [List.getElem_cons_zero, List.getElem_cons_succ, Nat.zero_mul, Nat.one_mul, Nat.add_zero, Nat.reduceMul] at c12 c34 c56
  obtain ⟨c1, c2⟩ := c12
  obtain ⟨c3, c4⟩ := c34
  obtain ⟨c5, c6⟩ := c56
  generalize hn : [((⟨#[97]⟩ : ByteArray), 2), (⟨#[98]⟩, 3), (⟨#[99]⟩, 1)].length = n
  have n3 : ((n : Int) == 3) = true := by rw [← hn]; rfl
  have n0 : (0 : Int) < n := by rw [← hn]; decide
  have n1 : (1 : Int) < n := by rw [← hn]; decide
  have n2 : (2 : Int) < n := by rw [← hn]; decide
  clear hn
  go_wp2
  go_simp
  go_wp2_with (go_at_call 10; refine (hL _ hm1).mono ?_; rintro e w2 ⟨rfl, hb4⟩)
  go_ret
  exact ⟨rfl, hbw.trans (hb4.mono hbw.size)⟩

theorem grGo_no : ∀ (l : List Lf) (n : Nat), grGo l n = false → ∀ f ∈ l, f.1.size ≤ 300 ∧ f.2.size ≤ 12000
  | [], _, _ => fun _ h => by simp at h
  | g :: l, n, h => by
    unfold grGo at h
    simp only [Bool.or_eq_false_iff, decide_eq_false_iff_not] at h
    intro f hf
    rcases List.mem_cons.1 hf with rfl | hf
    · omega
    · exact grGo_no l _ h.2 f hf
theorem gr27_no {l : List Lf} (h : gr27 l = false) : l.length ≤ 60 ∧ ∀ f ∈ l, f.1.size ≤ 300 ∧ f.2.size ≤ 12000 := by
  unfold gr27 gr26 at h
  simp only [Bool.or_eq_false_iff, decide_eq_false_iff_not] at h
  exact ⟨by omega, grGo_no l 0 h.2.2⟩
/-- The world on the way: the arguments read as they did. -/
structure St2 (w0 : World) (v : Value) (a : List Lf) (u : Value) (b : List Lf) (w : World) : Prop where
  ra : LeafRow w v a
  rb : LeafRow w u b
  mx : MaxAt w
  bel : Below w0.heap.size w0 w
theorem St2.step {w0 w w' : World} {v u : Value} {a b : List Lf} (h : St2 w0 v a u b w) (hb : Below w.heap.size w w') : St2 w0 v a u b w' :=
  ⟨h.ra.below hb, h.rb.below hb, h.mx.step hb, h.bel.trans (hb.mono h.bel.size)⟩

set_option maxHeartbeats 4000000 in
theorem diffFiles_walk (v u : Value) (a b : List Lf) (p q : ByteArray) (w : World) (hm : MaxAt w) (hv : LeafRow w v a) (hu : LeafRow w u b) (ha : ∀ f ∈ a, f.2.size ≤ 1000000000000000) (hb : ∀ f ∈ b, f.2.size ≤ 1000000000000000) :
    Calls Tryd.prog 3 #[v, u, .string p, .string q] w fun e w' => e = .returned (.bool true) ∧ Below w.heap.size w w' := by
  have st : St2 w v a u b w := ⟨hv, hu, hm, Below.refl _ _⟩
  clear hv hu hm
  cases hga : gr27 a with
  | true =>
    go_enter Tryd.func3, Tryd.ntmps3
    go_wp2_with (first | (go_at_call 5; refine (alive_any _ (St2.mx (by assumption))).mono ?_; rintro e wx ⟨rfl, hbx⟩; have st := St2.step (by assumption) hbx) | (go_at_call_of 6 v; refine (great27_any v a _ ha (St2.ra (by assumption))).mono ?_; rintro e wx ⟨rfl, hbx⟩; rw [hga]; have st := St2.step (by assumption) hbx) | (go_at_call_of 6 u; refine (great27_any u b _ hb (St2.rb (by assumption))).mono ?_; rintro e wx ⟨rfl, hbx⟩; rw [hgb]; have st := St2.step (by assumption) hbx))
    go_ret
    exact ⟨rfl, st.bel⟩
  | false =>
    cases hgb : gr27 b with
    | true =>
      go_enter Tryd.func3, Tryd.ntmps3
      go_wp2_with (first | (go_at_call 5; refine (alive_any _ (St2.mx (by assumption))).mono ?_; rintro e wx ⟨rfl, hbx⟩; have st := St2.step (by assumption) hbx) | (go_at_call_of 6 v; refine (great27_any v a _ ha (St2.ra (by assumption))).mono ?_; rintro e wx ⟨rfl, hbx⟩; rw [hga]; have st := St2.step (by assumption) hbx) | (go_at_call_of 6 u; refine (great27_any u b _ hb (St2.rb (by assumption))).mono ?_; rintro e wx ⟨rfl, hbx⟩; rw [hgb]; have st := St2.step (by assumption) hbx))
      go_ret
      exact ⟨rfl, st.bel⟩
    | false =>
      by_cases hp : 300 < p.size
      · have hp' : (300 : Int) < p.size := by omega
        go_enter Tryd.func3, Tryd.ntmps3
        go_wp2_with (first | (go_at_call 5; refine (alive_any _ (St2.mx (by assumption))).mono ?_; rintro e wx ⟨rfl, hbx⟩; have st := St2.step (by assumption) hbx) | (go_at_call_of 6 v; refine (great27_any v a _ ha (St2.ra (by assumption))).mono ?_; rintro e wx ⟨rfl, hbx⟩; rw [hga]; have st := St2.step (by assumption) hbx) | (go_at_call_of 6 u; refine (great27_any u b _ hb (St2.rb (by assumption))).mono ?_; rintro e wx ⟨rfl, hbx⟩; rw [hgb]; have st := St2.step (by assumption) hbx))
        go_ret
        exact ⟨rfl, st.bel⟩
      · have hp' : decide ((300 : Int) < p.size) = false := decide_eq_false (by omega)
        by_cases hq : 300 < q.size
        · have hq' : (300 : Int) < q.size := by omega
          go_enter Tryd.func3, Tryd.ntmps3
          go_wp2_with (first | (go_at_call 5; refine (alive_any _ (St2.mx (by assumption))).mono ?_; rintro e wx ⟨rfl, hbx⟩; have st := St2.step (by assumption) hbx) | (go_at_call_of 6 v; refine (great27_any v a _ ha (St2.ra (by assumption))).mono ?_; rintro e wx ⟨rfl, hbx⟩; rw [hga]; have st := St2.step (by assumption) hbx) | (go_at_call_of 6 u; refine (great27_any u b _ hb (St2.rb (by assumption))).mono ?_; rintro e wx ⟨rfl, hbx⟩; rw [hgb]; have st := St2.step (by assumption) hbx))
          go_ret
          exact ⟨rfl, st.bel⟩
        · have hq' : decide ((300 : Int) < q.size) = false := decide_eq_false (by omega)
          obtain ⟨la, sa⟩ := gr27_no hga
          obtain ⟨lb, sb⟩ := gr27_no hgb
          have hsa : ∀ f ∈ a, f.1.size ≤ 1000000 ∧ f.2.size ≤ 1000000 := fun f hf => by have := sa f hf; omega
          have hsb : ∀ f ∈ b, f.1.size ≤ 1000000 ∧ f.2.size ≤ 1000000 := fun f hf => by have := sb f hf; omega
          have hD := fun w' (h : St2 w v a u b w') => dfiles_any v u a b w' h.ra h.rb hsa hsb (by omega) (by omega) h.mx
          have hR := fun w' (h : St2 w v a u b w') => rfiles_any v u a b w' h.ra h.rb (fun f hf => (hsa f hf).1) (fun f hf => (hsb f hf).1) (by omega)
          have hL1 := fun w' (h : St2 w v a u b w') => dless_any p q w' (by omega) (by omega) h.mx
          have hL2 := fun w' => rless_any p q w' (by omega) (by omega)
          clear sa sb hsa hsb
          generalize filesS a b = r at hD hR
          generalize lessS p q = t at hL1 hL2
          go_enter Tryd.func3, Tryd.ntmps3
          go_wp2_with (first | (go_at_call 5; refine (alive_any _ (St2.mx (by assumption))).mono ?_; rintro e wx ⟨rfl, hbx⟩; have st := St2.step (by assumption) hbx) | (go_at_call_of 6 v; refine (great27_any v a _ ha (St2.ra (by assumption))).mono ?_; rintro e wx ⟨rfl, hbx⟩; rw [hga]; have st := St2.step (by assumption) hbx) | (go_at_call_of 6 u; refine (great27_any u b _ hb (St2.rb (by assumption))).mono ?_; rintro e wx ⟨rfl, hbx⟩; rw [hgb]; have st := St2.step (by assumption) hbx) | (go_at_call 8; refine (hD _ (by assumption)).mono ?_; rintro e wd ⟨od, rfl, rd, hbd⟩; have st := St2.step (by assumption) hbd) | (go_at_call 9; refine (hR _ (by assumption)).mono ?_; rintro e wr ⟨orr, rfl, rr, hbr⟩; have rd := ApRow.below rd hbr; have st := St2.step (by assumption) hbr) | (go_at_call 7; refine (same_any _ _ r r _ rd rr rfl).mono ?_; rintro e ws ⟨rfl, hbs⟩; have st := St2.step (by assumption) hbs) | (go_at_call 10; refine (hL1 _ (by assumption)).mono ?_; rintro e wl ⟨rfl, hbl⟩; have st := St2.step (by assumption) hbl) | (go_at_call 11; refine (hL2 _).mono ?_; rintro e wk ⟨rfl, hbk⟩; have st := St2.step (by assumption) hbk)) 
          go_ret
          exact ⟨by simp, st.bel⟩
end Go.Proofs.YtodnfcbecojieaaDoor
