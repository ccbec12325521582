/- Walks: sums over texts. -/
import Derived.Test.YtjgmfhfncphbnaaW2
import Derived.Test.YtjgmfhfncphbnaaMem
namespace Go.Proofs.Ytjgmfhfncphbnaa
open Go.RowKit Fl

theorem oneCells_int (f : Nat → Int) (n : Nat) : (List.map (fun j => Value.int .i64 (f j)) (List.range n)).toArray.all (·.oneCell') = true :=
  all_oneCell_toArray (by simp [Value.oneCell'])

theorem rof_any (s : ByteArray) (hs : s.size ≤ 16777216) (w : World) :
    Calls Try.prog 12 #[.string s] w fun e w' => e = .returned (wv (sk s.data.toList)) ∧ Below w.heap.size w w' := by
  go_enter Try.func12, Try.ntmps12
  go_wp2
  go_loopw [4] (fun i wr => ∃ k : Nat, k ≤ s.size ∧ i = .int .i64 k ∧ Arr wr w.heap.size 8 (fun _ => .int .i64 0) ∧ Arr wr (w.heap.size + 1) 8 (fun j => .int .i64 (sk (s.data.toList.take k) j)) ∧ Below w.heap.size w wr) (fun i _ => (s.size - intOf i).toNat)
  case atStart =>
    refine ⟨0, by omega, rfl, ⟨?_, ?_⟩, ⟨?_, ?_⟩, (((Below.refl _ _).alloc (Nat.le_refl _) _).alloc (by simp) _)⟩
    all_goals
      intro k hk
      rcases (by omega : k = 0 ∨ k = 1 ∨ k = 2 ∨ k = 3 ∨ k = 4 ∨ k = 5 ∨ k = 6 ∨ k = 7) with rfl | rfl | rfl | rfl | rfl | rfl | rfl | rfl <;> go_simp <;> rfl
  case round =>
    obtain ⟨k, hk, rfl, ha, hc, hb⟩ := hrel
    by_cases hlt : k < s.size
    · have HA := Lib.hid ha
      have HC := Lib.hid hc
      have HS := Lib.hid (take_snoc s k hlt)
      have hsb := fun i => sk_bd (s.data.toList.take k) i
      have hl : (s.data.toList.take k).length ≤ k := List.length_take_le _ _
      have hx := s[k].toNat_lt
      have c1 := hc.cell (2 * (s[k].toNat % 4)) (by omega)
      have c2 := hc.free (2 * (s[k].toNat % 4)) (by omega)
      have c3 : ∀ v, (wr.setCell ⟨w.heap.size + 1, 2 * (s[k].toNat % 4), none⟩ v).cell? ⟨w.heap.size + 1, 2 * (s[k].toNat % 4) + 1, none⟩ = some (.int .i64 (sk (s.data.toList.take k) (2 * (s[k].toNat % 4) + 1))) := fun v => by
        rw [World.cell?_setCell_other _ _ _ _ (fun x => by injection x with _ h2 _; omega)]; exact hc.cell _ (by omega)
      have c4 := hc.free (2 * (s[k].toNat % 4) + 1) (by omega)
      have b1 := hsb (2 * (s[k].toNat % 4))
      have b2 := hsb (2 * (s[k].toNat % 4) + 1)
      clear ha hc hsb
      go_wp2
      go_roundw
      case rel =>
        refine ⟨k + 1, by omega, by go_num, (HA.out.far (by simp) _).far (by simp) _, ?_, (hb.setCell (by simp) _).setCell (by simp) _⟩
        refine ((HC.out.set (2 * (s[k].toNat % 4)) (by omega) _).set (2 * (s[k].toNat % 4) + 1) (by omega) _).congr fun j hj => ?_
        rw [HS.out, sk_snoc]
        unfold upd bit
        by_cases e1 : j = 2 * (s[k].toNat % 4) + 1
        · rw [if_pos e1, if_neg (by omega), if_pos e1, e1]; rfl
        · rw [if_neg e1]
          by_cases e2 : j = 2 * (s[k].toNat % 4)
          · rw [if_pos e2, if_pos e2, e2]; rfl
          · rw [if_neg e2, if_neg e2, if_neg e1]; simp
      case measure => simp [intOf]; omega
    · obtain rfl : k = s.size := by omega
      have hfull : s.data.toList.take s.size = s.data.toList := List.take_of_length_le (by simp)
      rw [hfull] at hc
      have r1 := hc.range
      have t1 := ha.there
      clear ha hc hfull
      go_wp2_with (first | (refine wpList_load_mid rfl 31 _ rfl (w.heap.size + 1) 0 rfl _ _ r1 Try.underlying31 rfl (by kernel_rfl) ?_) | (refine wpList_store_mid rfl 31 _ _ rfl w.heap.size 0 (List.map (fun j => Value.int .i64 (sk s.data.toList j)) (List.range 8)).toArray rfl rfl t1 (by kernel_rfl) (oneCells_int _ _) ?_))
      refine ret_cell rfl w.heap.size 0 rfl _ _ (World.rangeAt_setCells_same _ _ _ _ t1) Try.underlying31 rfl (by kernel_rfl) rfl ⟨rfl, below_setCells _ (Nat.le_refl _) _ _ _ hb⟩
end Go.Proofs.Ytjgmfhfncphbnaa
