/- The walk of how files are apart, the program's. -/
import Derived.Test.YtodnfcbecojieaaDoorD8
namespace Go.Proofs.YtodnfcbecojieaaDoor
open Go.RowKit Go.Maps Go.Sort

theorem StrMap.mono {w : World} {b n m : Nat} {f : ByteArray → Option ByteArray} (h : StrMap w b n f) (hn : n ≤ m) : StrMap w b m f := by
  obtain ⟨D, h1, h2⟩ := h
  exact ⟨D, h1.mono hn, h2⟩
def two {α : Type} (x y : α) (i : Nat) : α := if i = 0 then x else y

theorem filesS_paths (a b : List Lf) (ss : List ByteArray) (hs : Asc ss) (hm : ∀ p, p ∈ ss ↔ ∃ i, i < 2 ∧ (two (findS a) (findS b) i p).isSome = true) : ss = pathsS (pathsS [] a) b := by
  refine asc_ext _ _ hs (pathsS_asc b _ (pathsS_asc a _ List.Pairwise.nil)) fun p => ?_
  rw [hm, pathsS_mem, pathsS_mem]
  constructor
  · rintro ⟨i, hi, h⟩
    rcases Nat.eq_zero_or_pos i with rfl | hp
    · exact .inl (.inr ((findS_some a p).1 h))
    · exact .inr ((findS_some b p).1 (by simpa [two, Nat.pos_iff_ne_zero.1 hp] using h))
  · rintro ((h | h) | h)
    · simp at h
    · exact ⟨0, by omega, (findS_some a p).2 h⟩
    · exact ⟨1, by omega, (findS_some b p).2 h⟩

set_option maxHeartbeats 4000000 in
theorem dfiles_any (v u : Value) (a b : List Lf) (w : World) (hv : LeafRow w v a) (hu : LeafRow w u b) (ha : ∀ f ∈ a, f.1.size ≤ 1000000 ∧ f.2.size ≤ 1000000) (hb : ∀ f ∈ b, f.1.size ≤ 1000000 ∧ f.2.size ≤ 1000000) (hna : a.length ≤ 1000) (hnb : b.length ≤ 1000) (hm : MaxAt w) :
    Calls Tryd.prog 8 #[v, u] w fun e w' => ∃ o, e = .returned o ∧ ApRow w' o (filesS a b) ∧ Below w.heap.size w w' := by
  obtain ⟨i0, hi, hz0, hz1, hz2⟩ := info_parts infoA
  have h1 := dof_any v a w hv ha (by omega)
  have h2 := fun w' (hbw : Below w.heap.size w w') => dof_any u b w' (hu.below hbw) hb (by omega)
  have hsa : ∀ p, (findS a p).isSome = true → p.size ≤ 1000000 := fun p h => by obtain ⟨f, hf, rfl⟩ := (findS_some a p).1 h; exact (ha f hf).1
  have hsb : ∀ p, (findS b p).isSome = true → p.size ≤ 1000000 := fun p h => by obtain ⟨f, hf, rfl⟩ := (findS_some b p).1 h; exact (hb f hf).1
  have HSA := Lib.hid hsa
  have HSB := Lib.hid hsb
  have HLA := Lib.hid (paths_len [] a)
  have HLB := Lib.hid (paths_len (pathsS [] a) b)
  have HLM := Lib.hid (fun p => pathsS_mem p b (pathsS [] a))
  have HLM2 := Lib.hid (fun p => pathsS_mem p a [])
  clear hsa hsb
  rw [filesS_tell]
  go_enter Tryd.func8, Tryd.ntmps8
  go_wp2_with (first | (go_at_call_of 14 v; refine h1.mono ?_; rintro e w1 ⟨ba, na, rfl, hna1, hba, hma1, hb1⟩) | (go_at_call_of 14 u; refine (h2 _ (by assumption)).mono ?_; rintro e w2 ⟨bb, nb, rfl, hnb1, hbb, hmb2, hb2⟩))
  have hb12 : Below w.heap.size w w2 := hb1.trans (hb2.mono hb1.size)
  have hma2 : StrMap w2 ba na (findS a) := hma1.below hb2 hma1.lt
  obtain ⟨wq, hwq⟩ : ∃ wq, w2.alloc (.cells #[.map (some ba), .map (some bb)] 38) = wq := ⟨_, rfl⟩
  have hbq : Below w2.heap.size w2 wq := by rw [← hwq]; exact (Below.refl _ w2).alloc (Nat.le_refl _) _
  have hcq : ∀ i, i < 2 → wq.cell? ⟨w2.heap.size, 0 + i, none⟩ = some (.map (some (two ba bb i))) := fun i hi => by
    have := cells_new2 w2 (.map (some ba)) (.map (some bb)) 38 i (.map (some (two ba bb i))) (by
      rcases (by omega : i = 0 ∨ i = 1) with rfl | rfl <;> rfl)
    rw [hwq, Addr.add_mid] at this; exact this
  have hmaq : StrMap wq ba na (findS a) := hma2.below hbq hma2.lt
  have hmbq : StrMap wq bb nb (findS b) := hmb2.below hbq hmb2.lt
  have hpq := dpaths_any w2.heap.size 0 2 2 (two ba bb) (two (findS a) (findS b)) wq (by omega) (by rw [← hwq]; simp) (hm.step (hb12.trans (hbq.mono hb12.size))) hcq (fun i hi => by
    rcases (by omega : i = 0 ∨ i = 1) with rfl | rfl
    · exact hmaq.mono hna1
    · exact hmbq.mono hnb1) (fun i p hi h => by
    rcases (by omega : i = 0 ∨ i = 1) with rfl | rfl
    · exact HSA.out p h
    · exact HSB.out p h)
  rw [hwq]
  clear h1 h2 hcq hma1 hma2 hmb2 hv hu ha hb
  refine hpq.mono ?_
  rintro e w3 ⟨o3, ss, rfl, hrow, hasc, hmem, hb3⟩
  have hss := filesS_paths a b ss hasc hmem
  have hll : (pathsS (pathsS [] a) b).length ≤ 2000 := by have h1 := HLA.out; have h2 := HLB.out; simp at h1; omega
  rw [← hss] at hll
  have HSS := Lib.hid hss
  have hpm : ∀ p ∈ ss, ((findS a p).isSome = true ∨ (findS b p).isSome = true) ∧ p.size ≤ 1000000 := fun p hp => by
    obtain ⟨i, hi2, h⟩ := (hmem p).1 hp
    rcases (by omega : i = 0 ∨ i = 1) with rfl | rfl
    · exact ⟨.inl h, HSA.out p h⟩
    · exact ⟨.inr h, HSB.out p h⟩
  have HPM := Lib.hid hpm
  clear hpm hmem hasc hpq hss hwq
  obtain ⟨l, rfl⟩ : ∃ l, l = ss := ⟨_, rfl⟩
  obtain ⟨so, cs, rfl, hml, hr⟩ := hrow
  have HR := Lib.hid hr
  clear hr
  have hb3w := hb12.trans ((hbq.trans (hb3.mono hbq.size)).mono hb12.size)
  have hma3 := hmaq.below hb3 hmaq.lt
  have hmb3 := hmbq.below hb3 hmbq.lt
  have HMA := Lib.hid hma3
  have HMB := Lib.hid hmb3
  clear hmaq hmbq hma3 hmb3
  go_wp2
  go_loopw [7, 23] (fun out i wr => ∃ k : Nat, k ≤ l.length ∧ i = .int .i64 k ∧ wr.ownsRow w3.heap.size 31 2 out (told a b l k).length (apF (told a b l k)) ∧ Below w3.heap.size w3 wr) (fun _ i _ => (l.length - intOf i).toNat)
  case atStart => exact ⟨0, by omega, rfl, World.ownsRow_nil _ _ _ _, Below.refl _ _⟩
  case round =>
    obtain ⟨k, hk, rfl, hown, hbl⟩ := hrel
    have htl := told_len a b l k
    have hszl := hbl.size
    by_cases hlt : k < l.length
    · obtain ⟨bl, ol, rfl, hll2, hcell⟩ := HR.out (by intro e; rw [e] at hlt; simp at hlt)
      have cl := below_load (hcell k hlt) hbl hll2
      obtain ⟨hin, hps0⟩ := HPM.out l[k] (List.getElem_mem hlt)
      generalize hx : l[k] = p at cl hin hps0
      have hps : p.size ≤ maxLen := by unfold maxLen; omega
      have HX := Lib.hid hx
      have htell : tell a b p = if kindS a b p = 0 then none else some (p, kindS a b p) := rfl
      clear hcell hx
      have hma := HMA.out.below hbl HMA.out.lt
      have hmb := HMB.out.below hbl HMB.out.lt
      have hbw := hb3w.trans (hbl.mono hb3w.size)
      obtain ⟨co, cc, rfl⟩ := own_form hown
      cases ea : findS a p with
      | none =>
        have ht : tell a b p = some (p, 1) := by rw [htell]; simp [kindS, ea]
        cases eb : findS b p with
        | none => rw [ea, eb] at hin; simp at hin
        | some t =>
          clear hin
          go_wp2_with (first | (at_lookup; refine wpList_lookup_says rfl (.tmp 28) (.tmp 29) 38 rfl Tryd.underlying38 ba na (findS a) rfl hma p rfl none ea hps ?_) | (at_lookup; refine wpList_lookup_says rfl (.tmp 34) (.tmp 35) 38 rfl Tryd.underlying38 bb nb (findS b) rfl hmb p rfl (some t) eb hps ?_) | (at_builtin; refine wpList_append_any rfl (.tmp 71) (.tmp 74) 26 rfl w3.heap.size 31 i0 (.agg #[.string ByteArray.empty, .int .i64 0]) 2 24 Tryd.underlying26 hi hz0 hz1 hz2 rfl (by decide) _ (told a b l k).length _ rfl (hown.alloc _) (some ⟨wr.heap.size, 0, none⟩) 1 _ [.string p, .int .i64 1] rfl rfl ?c1 ?c2 ?c3 ?c4 ?c5 ?_))
          case c1 => exact fun _ => ⟨_, rfl, cells_new2 _ _ _ _⟩
          case c2 => intro x hx; simp at hx; rcases hx with rfl | rfl <;> rfl
          case c3 => unfold maxLen; omega
          case c4 => omega
          case c5 => simp; omega
          intro v1 w4 hown1 hg1
          go_wp2
          go_roundw
          case rel =>
            refine ⟨k + 1, by omega, by go_num, ?_, (hbl.alloc hszl _).grown hg1 (by simp; omega) (fun x hx => (hown.lt x hx).1)⟩
            rw [told_next a b l k hlt, HX.out, ht]; rw [Option.toList_some, apF_snoc, List.length_append]; exact hown1
          case measure => simp [intOf]; omega
      | some s =>
        cases eb : findS b p with
        | none =>
          have ht : tell a b p = some (p, 2) := by rw [htell]; simp [kindS, ea, eb]
          clear hin
          go_wp2_with (first | (at_lookup; refine wpList_lookup_says rfl (.tmp 28) (.tmp 29) 38 rfl Tryd.underlying38 ba na (findS a) rfl hma p rfl (some s) ea hps ?_) | (at_lookup; refine wpList_lookup_says rfl (.tmp 34) (.tmp 35) 38 rfl Tryd.underlying38 bb nb (findS b) rfl hmb p rfl none eb hps ?_) | (at_builtin; refine wpList_append_any rfl (.tmp 60) (.tmp 63) 26 rfl w3.heap.size 31 i0 (.agg #[.string ByteArray.empty, .int .i64 0]) 2 24 Tryd.underlying26 hi hz0 hz1 hz2 rfl (by decide) _ (told a b l k).length _ rfl (hown.alloc _) (some ⟨wr.heap.size, 0, none⟩) 1 _ [.string p, .int .i64 2] rfl rfl ?c1 ?c2 ?c3 ?c4 ?c5 ?_))
          case c1 => exact fun _ => ⟨_, rfl, cells_new2 _ _ _ _⟩
          case c2 => intro x hx; simp at hx; rcases hx with rfl | rfl <;> rfl
          case c3 => unfold maxLen; omega
          case c4 => omega
          case c5 => simp; omega
          intro v1 w4 hown1 hg1
          go_wp2
          go_roundw
          case rel =>
            refine ⟨k + 1, by omega, by go_num, ?_, (hbl.alloc hszl _).grown hg1 (by simp; omega) (fun x hx => (hown.lt x hx).1)⟩
            rw [told_next a b l k hlt, HX.out, ht]; rw [Option.toList_some, apF_snoc, List.length_append]; exact hown1
          case measure => simp [intOf]; omega
        | some t =>
          have hbe := ba_beq s t
          clear hin
          by_cases hst : s = t
          · have ht : tell a b p = none := by rw [htell]; simp [kindS, ea, eb, hst]
            rw [decide_eq_true hst] at hbe
            clear hst
            go_wp2_with (first | (at_lookup; refine wpList_lookup_says rfl (.tmp 28) (.tmp 29) 38 rfl Tryd.underlying38 ba na (findS a) rfl hma p rfl (some s) ea hps ?_) | (at_lookup; refine wpList_lookup_says rfl (.tmp 34) (.tmp 35) 38 rfl Tryd.underlying38 bb nb (findS b) rfl hmb p rfl (some t) eb hps ?_))
            go_roundw
            case rel =>
              refine ⟨k + 1, by omega, by go_num, ?_, hbl⟩
              rw [told_next a b l k hlt, HX.out, ht, Option.toList_none, List.append_nil]; exact hown
            case measure => simp [intOf]; omega
          · have ht : tell a b p = some (p, 3) := by rw [htell]; simp [kindS, ea, eb, hst]
            rw [decide_eq_false hst] at hbe
            clear hst
            go_wp2_with (first | (at_lookup; refine wpList_lookup_says rfl (.tmp 28) (.tmp 29) 38 rfl Tryd.underlying38 ba na (findS a) rfl hma p rfl (some s) ea hps ?_) | (at_lookup; refine wpList_lookup_says rfl (.tmp 34) (.tmp 35) 38 rfl Tryd.underlying38 bb nb (findS b) rfl hmb p rfl (some t) eb hps ?_) | (at_builtin; refine wpList_append_any rfl (.tmp 49) (.tmp 52) 26 rfl w3.heap.size 31 i0 (.agg #[.string ByteArray.empty, .int .i64 0]) 2 24 Tryd.underlying26 hi hz0 hz1 hz2 rfl (by decide) _ (told a b l k).length _ rfl (hown.alloc _) (some ⟨wr.heap.size, 0, none⟩) 1 _ [.string p, .int .i64 3] rfl rfl ?c1 ?c2 ?c3 ?c4 ?c5 ?_))
            case c1 => exact fun _ => ⟨_, rfl, cells_new2 _ _ _ _⟩
            case c2 => intro x hx; simp at hx; rcases hx with rfl | rfl <;> rfl
            case c3 => unfold maxLen; omega
            case c4 => omega
            case c5 => simp; omega
            intro v1 w4 hown1 hg1
            go_wp2
            go_roundw
            case rel =>
              refine ⟨k + 1, by omega, by go_num, ?_, (hbl.alloc hszl _).grown hg1 (by simp; omega) (fun x hx => (hown.lt x hx).1)⟩
              rw [told_next a b l k hlt, HX.out, ht]; rw [Option.toList_some, apF_snoc, List.length_append]; exact hown1
            case measure => simp [intOf]; omega
    · obtain rfl : k = l.length := by omega
      rw [told_all] at hown
      go_wp2
      go_ret
      exact ⟨_, rfl, by rw [← HSS.out]; exact ApRow.of_own hown, hb3w.trans (hbl.mono hb3w.size)⟩
end Go.Proofs.YtodnfcbecojieaaDoor
