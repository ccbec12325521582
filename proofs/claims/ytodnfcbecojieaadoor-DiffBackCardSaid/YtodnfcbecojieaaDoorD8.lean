/- The walk of all paths of some files, in order. -/
import Derived.Test.YtodnfcbecojieaaDoorD7
namespace Go.Proofs.YtodnfcbecojieaaDoor
open Go.RowKit Go.Maps Go.Sort

/-- What is in a set that is being filled from a map that is ranged over. -/
def Got (D Di : DataW Unit) (left : Lit → Bool) (G : List UInt8 → Prop) : Prop := ∀ p : List UInt8, Maps.has D (.string p) = true ↔ (G p ∨ (Maps.has Di (.string p) = true ∧ left (.string p) = false))
theorem got_step {D Di : DataW Unit} {left : Lit → Bool} {G : List UInt8 → Prop} {x : List UInt8} {d e : DataW Unit} (hD : IsMap D) (h : Got D Di left G) (hat : ∀ zd, Di.atKey (.string x) zd = e) : Got (D.put (.string x) d) Di (fun z => left z && !z.sameKey (.string x)) G := fun p => by
  by_cases hp : p = x
  · subst hp
    rw [has_put_same hD (by trivial)]
    have h2 := has_true_of_atKey hat
    simp [h2, Lit.sameKey]
  · have hne : (Lit.string p) ≠ .string x := fun e => hp (by injection e)
    rw [has_put_other hne, h p]
    have : (Lit.string p).sameKey (.string x) = false := by simp [Lit.sameKey, hp]
    simp [this]

set_option maxHeartbeats 4000000 in
theorem dpaths_any (bo oo cap N : Nat) (bk : Nat → Nat) (f : Nat → ByteArray → Option ByteArray) (w : World) (hN : N ≤ 10) (hbo : bo < w.heap.size) (hm : MaxAt w)
    (hc : ∀ i, i < N → w.cell? ⟨bo, oo + i, none⟩ = some (.map (some (bk i)))) (hf : ∀ i, i < N → StrMap w (bk i) 1000000 (f i)) (hs : ∀ i p, i < N → (f i p).isSome = true → p.size ≤ 1000000) :
    Calls Tryd.prog 15 #[.slice (some ⟨bo, oo, none⟩) N cap] w fun e w' => ∃ v ss, e = .returned v ∧ StrRow w' v ss ∧ Asc ss ∧ (∀ p, p ∈ ss ↔ ∃ i, i < N ∧ (f i p).isSome = true) ∧ Below w.heap.size w w' := by
  have HC := Lib.hid hc
  have HF := Lib.hid hf
  have HS := Lib.hid hs
  clear hc hf hs
  have hmm := @run_makeMap Tryd.prog
  go_enter Tryd.func15, Tryd.ntmps15
  go_wp2
  go_loopw [10] (fun i wr => ∃ (k n : Nat) (D : DataW Unit), k ≤ N ∧ i = .int .i64 k ∧ n ≤ k * 1000000 ∧ wr.ownsMap Tryd.prog 9 (plainElem Tryd.prog 4) w.heap.size n D ∧ Hid (∀ p : List UInt8, Maps.has D (.string p) = true ↔ ∃ i, i < k ∧ (f i (ofL p)).isSome = true) ∧ Below w.heap.size w wr) (fun i _ => (N - intOf i).toNat)
  case atStart => exact ⟨0, 0, _, by omega, rfl, by omega, World.ownsMap_made _ _ _ _, (fun p => by simp [Maps.has]), (Below.refl _ _).alloc (Nat.le_refl _) _⟩
  case round =>
    obtain ⟨k, n, D, hk, rfl, hnk, hown, hset, hb⟩ := hrel
    have hszb := hb.size
    by_cases hlt : k < N
    · have c1 := below_load (HC.out k hlt) hb hbo
      obtain ⟨Di, hDi, hsay⟩ := (HF.out k hlt).below hb (HF.out k hlt).lt
      have hbi := (HF.out k hlt).lt
      have hsz := hDi.size_le
      have HSAY := Lib.hid hsay
      clear hsay
      generalize hbk : bk k = bi at c1 hDi hbi
      clear hbk
      go_wp2_with (at_range; refine wpList_range_own _ rfl (.tmp 14) 38 rfl 9 9 strKeyed Tryd.underlying38 _ bi 1000000 Di rfl hDi ?_; intro w0 hrg0 hg0 hs0)
      have hb0 : Below w.heap.size w w0 := hb.grown hg0 hszb (fun j hj => by cases hj)
      have hown0 := hown.kept hg0 (by simp)
      have hBi : w.heap.size ≠ bi := by omega
      have hBlt := hown.lt
      have hrB : w.heap.size ≠ wr.heap.size := by omega
      have hrle : w.heap.size ≤ wr.heap.size := by omega
      clear hown hs0
      generalize hr : wr.heap.size = r at hrg0 hrB hrle
      go_frame
      go_loopw [6] (fun _ wx => ∃ (left : Lit → Bool) (cnt m : Nat) (E : DataW Unit), wx.ranges Tryd.prog 9 (plainElem Tryd.prog 9) bi r 1000000 Di left cnt ∧ wx.ownsMap Tryd.prog 9 (plainElem Tryd.prog 4) w.heap.size m E ∧ Hid (Got E Di left (fun p => ∃ i, i < k ∧ (f i (ofL p)).isSome = true)) ∧ m + cnt ≤ k * 1000000 + Maps.size Di ∧ Below w.heap.size w wx) (fun _ wx => wx.rangeLeft bi r)
      case atStart =>
        refine ⟨_, _, n, D, hrg0, hown0, (fun p => ?_), by omega, hb0⟩
        rw [hset.out p]
        constructor
        · exact fun h => .inl h
        · rintro (h | ⟨h1, h2⟩)
          · exact h
          · rw [h1] at h2; cases h2
      case round =>
        obtain ⟨left, cnt, m, E, hrg, hE, hgot, hmc, hbx⟩ := hrel
        have hszx := hbx.size
        go_wp2_with (at_next; refine wpList_next_ranges _ rfl (.tmp 15) rfl 9 strKeyed (plainElem Tryd.prog 9) encStr Value.string (fun key kl hk => by obtain ⟨x, hx, _⟩ := Maps.keyOf_str Tryd.underlying9 hk; exact ⟨x, hx⟩) (fun v y hv => by obtain ⟨c, rfl, _⟩ := plainElem_string_inv Tryd.underlying9 hv; exact ⟨c, rfl⟩) bi r 1000000 Di left cnt rfl hrg ?_ ?_)
        · intro hc0 hl0
          go_wp2
          go_roundw
          case rel =>
            refine ⟨k + 1, m, E, by omega, by go_num, by omega, hE, (fun p => ?_), hbx⟩
            rw [hgot.out p]
            have hsay := (HSAY.out (ofL p)).1
            rw [ofL_data] at hsay
            constructor
            · rintro (⟨i, hi, h⟩ | ⟨h1, _⟩)
              · exact ⟨i, by omega, h⟩
              · exact ⟨k, by omega, by rw [← hsay]; exact h1⟩
            · rintro ⟨i, hi, h⟩
              rcases Nat.lt_or_ge i k with h' | h'
              · exact .inl ⟨i, h', h⟩
              · obtain rfl : i = k := by omega
                exact .inr ⟨by rw [hsay]; exact h, hl0 _⟩
          case measure => simp [intOf]; omega
        · intro x c kl yd yp w2 cnt2 hkey hlk hv hat hrg2 hltc hg2 hs2 hen
          obtain ⟨x', ex, rfl, _⟩ := Maps.keyOf_str Tryd.underlying9 hkey
          obtain rfl : x = x' := encStr_inj ex
          clear hs2
          have hE2 := hE.kept hg2 (by simpa using hrB)
          have hb2 := hbx.grown hg2 hszx (fun j hj => by cases hj; have := hrg.lt; have := hb.size; omega)
          go_wp2_with (at_mapUpdate; refine wpList_mapUpdate_own _ rfl (.tmp 20) (.tmp 21) (.const (.bool true)) 46 rfl 9 4 strKeyed Tryd.underlying46 _ w.heap.size m E rfl hE2 ?hm _ _ (.string x) rfl rfl hkey (.lit (.bool true)) [] (plainElem_bool Tryd.underlying4 true) ?_)
          case hm => unfold maxLen; omega
          intro w3 hE3 hg3
          have hrg3 := hrg2.kept hg3 (by simp; omega) (by simp; omega)
          go_wp2
          go_roundw
          case rel => exact ⟨_, cnt2, m + 1, _, hrg3, hE3, got_step hE2.isMap hgot.out hat, by omega, hb2.grown hg3 (by have := hb2.size; omega) (fun j hj => by cases hj; exact Nat.le_refl _)⟩
          case measure => rw [hrg3.left_eq, hrg.left_eq]; exact hltc
    · obtain rfl : k = N := by omega
      have hk1 := keys_any (some w.heap.size)
      have hmr : MaxAt wr := hm.step hb
      have hss := sfunc_any w.heap.size n D (plainElem Tryd.prog 4) wr hmr hown (by have := hown.size_le; omega) (fun x hx => by
        obtain ⟨i, hi, h⟩ := (hset.out x).1 hx
        have := HS.out i _ hi h
        rw [ofL_size] at this; exact this)
      go_wp2_with (first | (go_at_call 20; refine (hk1 _).mono ?_; rintro e w1 ⟨rfl, hw1⟩; rw [hw1]; clear hw1) | (go_at_call 19; refine hss.mono ?_; rintro e w2 ⟨v, ss, rfl, hrow, hasc, hmem, hb2⟩))
      go_ret
      refine ⟨_, ss, rfl, hrow, hasc, fun p => ?_, (hb.alloc hszb _).trans (hb2.mono (by omega))⟩
      rw [hmem, hset.out p.data.toList]
      have : ofL p.data.toList = p := ba_ext (by rw [ofL_data])
      rw [this]
end Go.Proofs.YtodnfcbecojieaaDoor
