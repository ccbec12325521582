/- Walks: the sketch of some parts. -/
import Derived.Test.YtjgmfhfncphbnaaW3
import Derived.StillTailTactics
import Derived.Deep.RegionHeld3
namespace Go.Proofs.Ytjgmfhfncphbnaa
open Go.RowKit Fl

/-- A slice of strings reads as ss. -/
def StrRow (w : World) (v : Value) (ss : List ByteArray) : Prop :=
  ∃ ao cap, v = .slice ao ss.length cap ∧ ss.length ≤ maxLen ∧ (ss ≠ [] → ∃ b off, ao = some ⟨b, off, none⟩ ∧ b < w.heap.size ∧ ∀ i (h : i < ss.length), w.cell? ⟨b, off + i, none⟩ = some (.string ss[i]))

def flat (ss : List ByteArray) : List UInt8 := ss.flatMap (·.data.toList)
def cx (f : Nat → Int) (k : Nat) : Value := .complex .f64 (fb (f (2 * k))) (fb (f (2 * k + 1)))

theorem flat_snoc (ss : List ByteArray) (k : Nat) (h : k < ss.length) : flat (ss.take (k + 1)) = flat (ss.take k) ++ ss[k].data.toList := by
  unfold flat; rw [List.take_succ_eq_append_getElem h, List.flatMap_append]; simp

theorem flat_le (ss : List ByteArray) (k : Nat) (h : k < ss.length) : (flat (ss.take k)).length + ss[k].size ≤ (flat ss).length := by
  have h1 := congrArg List.length (flat_snoc ss k h)
  rw [List.length_append] at h1
  have h2 : (flat (ss.take (k + 1))).length ≤ (flat ss).length := by
    have e : flat ss = flat (ss.take (k + 1)) ++ flat (ss.drop (k + 1)) := by unfold flat; rw [← List.flatMap_append, List.take_append_drop]
    rw [e, List.length_append]; omega
  have h3 : ss[k].data.toList.length = ss[k].size := by simp
  omega

theorem of_any (v : Value) (ss : List ByteArray) (w : World) (hv : StrRow w v ss) (ht : (flat ss).length ≤ 16777216) :
    Calls Try.prog 11 #[v] w fun e w' => e = .returned (skv (sk (flat ss))) ∧ Below w.heap.size w w' := by
  obtain ⟨ao, cap, rfl, hmax, hv⟩ := hv
  unfold maxLen at hmax
  go_enter Try.func11, Try.ntmps11
  go_wp2
  go_loopw [9] (fun i wr => ∃ k : Nat, k ≤ ss.length ∧ i = .int .i64 k ∧ Arr wr w.heap.size 4 (fun _ => .complex .f64 0 0) ∧ Arr wr (w.heap.size + 1) 4 (cx (sk (flat (ss.take k)))) ∧ Below w.heap.size w wr) (fun i _ => (ss.length - intOf i).toNat)
  case atStart =>
    refine ⟨0, by omega, rfl, ⟨?_, ?_⟩, ⟨?_, ?_⟩, (((Below.refl _ _).alloc (Nat.le_refl _) _).alloc (by simp) _)⟩
    all_goals
      intro k hk
      rcases (by omega : k = 0 ∨ k = 1 ∨ k = 2 ∨ k = 3) with rfl | rfl | rfl | rfl <;> go_simp <;> rfl
  case round =>
    obtain ⟨k, hk, rfl, ha, hc, hb⟩ := hrel
    by_cases hlt : k < ss.length
    · obtain ⟨b, off, rfl, hbl, hcell⟩ := hv (by intro e; rw [e] at hlt; simp at hlt)
      have h1 : wr.cell? ⟨b, off + k, none⟩ = some (.string ss[k]) := by
        rw [hb.cell (p := ⟨b, off + k, none⟩) hbl]; exact hcell k hlt
      have HS := Lib.hid (flat_snoc ss k hlt)
      have HA := Lib.hid ha
      have HC := Lib.hid hc
      have HV := Lib.hid hcell
      clear ha hc hv hcell
      have htot := Nat.le_trans (flat_le ss k hlt) ht
      generalize ss[k] = s at h1 HS htot
      go_wp2
      obtain ⟨wo, rfl⟩ : ∃ wo : World, wo = wr := ⟨_, rfl⟩
      go_loopw [15] (fun i wr => ∃ m : Nat, m ≤ s.size ∧ i = .int .i64 m ∧ Arr wr w.heap.size 4 (fun _ => .complex .f64 0 0) ∧ Arr wr (w.heap.size + 1) 4 (cx (sk (flat (ss.take k) ++ s.data.toList.take m))) ∧ Below w.heap.size w wr) (fun i _ => (s.size - intOf i).toNat)
      case atStart =>
        exact ⟨0, by omega, rfl, HA.out, by simpa using HC.out, hb⟩
      case round =>
        obtain ⟨m, hm, rfl, ha, hc, hb'⟩ := hrel
        clear hb
        by_cases hml : m < s.size
        · have hx := s[m].toNat_lt
          have hr : s[m].toNat % 4 < 4 := by omega
          have c1 := hc.cell (s[m].toNat % 4) (by omega)
          have c2 := hc.free (s[m].toNat % 4) (by omega)
          have HA' := Lib.hid ha
          have HC' := Lib.hid hc
          have HT := Lib.hid (take_snoc s m hml)
          have hl : (flat (ss.take k) ++ s.data.toList.take m).length ≤ 16777216 := by
            rw [List.length_append]; have := List.length_take_le m s.data.toList; omega
          have b1 := sk_bd (flat (ss.take k) ++ s.data.toList.take m) (2 * (s[m].toNat % 4))
          have b2 := sk_bd (flat (ss.take k) ++ s.data.toList.take m) (2 * (s[m].toNat % 4) + 1)
          have hs := fun t w => add_cx t (sk (flat (ss.take k) ++ s.data.toList.take m) (2 * (s[m].toNat % 4))) (sk (flat (ss.take k) ++ s.data.toList.take m) (2 * (s[m].toNat % 4) + 1)) ((s[m].toNat : Int) % 16) ((s[m].toNat : Int) / 16) (by omega) (by omega) (by omega) (by omega) w
          clear ha hc
          unfold cx at c1
          have p0 : (0 : Int) ≤ (s[m].toNat : Int) % 4 := by omega
          have p1 : (s[m].toNat : Int) % 4 < 4 := by omega
          have p2 : ((s[m].toNat : Int) % 4).toNat = s[m].toNat % 4 := by omega
          have p3 : IntKind.i64.wrap (s[m].toNat : Int) = s[m].toNat := IntWalk.i64_in _ (by omega)
          have p4 : (s[m].toNat : Int).tmod 4 = (s[m].toNat : Int) % 4 := Int.tmod_eq_emod_of_nonneg (by omega)
          go_wp2
          refine wp_region_still_tail 13 (by kernel_rfl) (by kernel_rfl) ?_
          simp only [List.take_succ_cons, List.take_zero, List.drop_succ_cons, List.drop_zero]
          repeat still_step
          still_call ((byte_any _ _ hx).mono fun _ _ ⟨a, b⟩ => ⟨a, b.symm⟩)
          repeat still_step
          refine wpStill_nil ?_
          change wpList _ _ _ _ _ wr.drew
          clear p0 p1 p2 p3 p4 hs
          go_wp2
          go_roundw
          case rel =>
            refine ⟨m + 1, by omega, by go_num, (HA'.out.far (by simp) _).drew, ?_, (hb'.setCell (by simp) _).drew⟩
            refine ((HC'.out.set (s[m].toNat % 4) hr _).drew).congr fun j hj => ?_
            rw [HT.out, ← List.append_assoc]
            unfold upd cx
            rw [sk_snoc, sk_snoc]
            by_cases e : j = s[m].toNat % 4
            · rw [if_pos e, e]
              have e1 : bit s[m].toNat (2 * (s[m].toNat % 4)) = (s[m].toNat : Int) % 16 := by unfold bit; rw [if_pos rfl]; omega
              have e2 : bit s[m].toNat (2 * (s[m].toNat % 4) + 1) = (s[m].toNat : Int) / 16 := by unfold bit; rw [if_neg (by omega), if_pos rfl]; omega
              rw [e1, e2]
            · rw [if_neg e]
              have e1 : bit s[m].toNat (2 * j) = 0 := by unfold bit; rw [if_neg (by omega), if_neg (by omega)]
              have e2 : bit s[m].toNat (2 * j + 1) = 0 := by unfold bit; rw [if_neg (by omega), if_neg (by omega)]
              rw [e1, e2, Int.add_zero, Int.add_zero]
          case measure => simp [intOf]; omega
        · obtain rfl : m = s.size := by omega
          have hfull : s.data.toList.take s.size = s.data.toList := List.take_of_length_le (by simp)
          rw [hfull, ← HS.out] at hc
          have HA' := Lib.hid ha
          have HC' := Lib.hid hc
          clear ha hc hfull
          go_wp2
          go_roundw
          case rel => exact ⟨k + 1, by omega, by go_num, HA'.out, HC'.out, hb'⟩
          case measure => simp [intOf]; omega
    · obtain rfl : k = ss.length := by omega
      have hfull : ss.take ss.length = ss := List.take_of_length_le (by simp)
      rw [hfull] at hc
      have r1 := hc.range
      have t1 := ha.there
      clear ha hc hfull hv
      go_wp2_with (first | (refine wpList_load_mid rfl 28 _ rfl (w.heap.size + 1) 0 rfl _ _ r1 Try.underlying28 rfl (by kernel_rfl) ?_) | (refine wpList_store_mid rfl 28 _ _ rfl w.heap.size 0 (List.map (cx (sk (flat ss))) (List.range 4)).toArray rfl rfl t1 (by kernel_rfl) (all_oneCell_toArray (by simp [cx, Value.oneCell'])) ?_))
      refine ret_cell rfl w.heap.size 0 rfl _ _ (World.rangeAt_setCells_same _ _ _ _ t1) Try.underlying28 rfl (by kernel_rfl) rfl ⟨rfl, below_setCells _ (Nat.le_refl _) _ _ _ hb⟩
end Go.Proofs.Ytjgmfhfncphbnaa
