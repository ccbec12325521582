/- Walks: sums of sketches, joined texts, lists of whole numbers. -/
import Derived.Test.YtjgmfhfncphbnaaW4
namespace Go.Proofs.Ytjgmfhfncphbnaa
open Go.RowKit Fl

theorem plus_any (f g : Nat → Int) (hf : Bd f) (hg : Bd g) (w : World) :
    Calls Try.prog 22 #[skv f, skv g] w fun e w' => e = .returned (skv fun i => f i + g i) ∧ Below w.heap.size w w' := by
  unfold skv
  go_enter Try.func22, Try.ntmps22
  go_wp2
  go_loopw [6] (fun i wr => ∃ k : Nat, k ≤ 4 ∧ i = .int .i64 k ∧ Arr wr w.heap.size 4 (fun j => if j < k then cx (fun i => f i + g i) j else cx f j) ∧ Arr wr (w.heap.size + 1) 4 (cx g) ∧ Arr wr (w.heap.size + 2) 4 (fun _ => .complex .f64 0 0) ∧ Below w.heap.size w wr) (fun i _ => (4 - intOf i).toNat)
  case atStart =>
    refine ⟨0, by omega, rfl, ⟨?_, ?_⟩, ⟨?_, ?_⟩, ⟨?_, ?_⟩, ((((Below.refl _ _).alloc (Nat.le_refl _) _).alloc (by simp) _).alloc (by simp; omega) _)⟩
    all_goals
      intro k hk
      rcases (by omega : k = 0 ∨ k = 1 ∨ k = 2 ∨ k = 3) with rfl | rfl | rfl | rfl <;> go_simp <;> rfl
  case round =>
    obtain ⟨k, hk, rfl, ha, hc, ho, hb⟩ := hrel
    by_cases hlt : k < 4
    · have c0 := ha.cell k hlt
      rw [if_neg (by omega)] at c0
      have c1 := ha.free k hlt
      have c2 := hc.cell k hlt
      unfold cx at c0 c2
      have b0 := hf (2 * k) (by omega)
      have b1 := hf (2 * k + 1) (by omega)
      have b2 := hg (2 * k) (by omega)
      have b3 := hg (2 * k + 1) (by omega)
      have hs := fun t w => add_cx t (f (2 * k)) (f (2 * k + 1)) (g (2 * k)) (g (2 * k + 1)) b0 b1 b2 b3 w
      have HA := Lib.hid ha
      have HC := Lib.hid hc
      have HO := Lib.hid ho
      clear ha hc ho
      have l0 : (0 : Int) ≤ k := by omega
      have l1 : (k : Int) < 4 := by omega
      go_wp2
      refine wp_region_still_tail 8 (by kernel_rfl) (by kernel_rfl) ?_
      simp only [List.take_succ_cons, List.take_zero, List.drop_succ_cons, List.drop_zero]
      repeat still_step
      refine wpStill_nil ?_
      change wpList _ _ _ _ _ wr.drew
      go_wp2
      go_roundw
      case rel =>
        refine ⟨k + 1, by omega, by go_num, ?_, (HC.out.far (by simp) _).drew, (HO.out.far (by simp) _).drew, (hb.setCell (by simp) _).drew⟩
        refine ((HA.out.set k hlt _).drew).congr fun j hj => ?_
        unfold upd
        by_cases e : j = k
        · rw [if_pos e, if_pos (by omega), e]; rfl
        · rw [if_neg e]
          show (if j < k then cx (fun i => f i + g i) j else cx f j) = _
          by_cases e2 : j < k
          · rw [if_pos e2, if_pos (by omega)]
          · rw [if_neg e2, if_neg (by omega)]
      case measure => simp [intOf]; omega
    · obtain rfl : k = 4 := by omega
      have r1 := (ha.congr (d := cx (fun i => f i + g i)) fun j hj => by rw [if_pos hj]).range
      have t1 := ho.there
      clear ha hc ho
      go_wp2_with (first | (refine wpList_load_mid rfl 28 _ rfl w.heap.size 0 rfl _ _ r1 Try.underlying28 rfl (by kernel_rfl) ?_) | (refine wpList_store_mid rfl 28 _ _ rfl (w.heap.size + 2) 0 (List.map (cx (fun i => f i + g i)) (List.range 4)).toArray rfl rfl t1 (by kernel_rfl) (all_oneCell_toArray (by simp [cx, Value.oneCell'])) ?_))
      refine ret_cell rfl (w.heap.size + 2) 0 rfl _ _ (World.rangeAt_setCells_same _ _ _ _ t1) Try.underlying28 rfl (by kernel_rfl) rfl ⟨rfl, below_setCells _ (by omega) _ _ _ hb⟩

/-- Are there more than 30 texts, or one of more than 500 bytes? -/
def grt (ss : List ByteArray) : Bool := decide (30 < ss.length) || ss.any (fun s => decide (500 < s.size))

theorem great_any (v : Value) (ss : List ByteArray) (w : World) (hv : StrRow w v ss) :
    Calls Try.prog 9 #[v] w fun e w' => e = .returned (.bool (grt ss)) ∧ w = w' := by
  obtain ⟨ao, cap, rfl, hmax, hv⟩ := hv
  unfold maxLen at hmax
  by_cases hg : 30 < ss.length
  · go_enter Try.func9, Try.ntmps9
    go_wp2
    go_ret
    exact ⟨by simp [grt, hg], rfl⟩
  · go_enter Try.func9, Try.ntmps9
    go_wp2
    go_loop [3] (fun i => ∃ k : Nat, k ≤ ss.length ∧ i = .int .i64 k ∧ Hid (∀ s ∈ ss.take k, s.size ≤ 500)) (fun i => (ss.length - intOf i).toNat)
    case atStart => exact ⟨0, by omega, rfl, by simp [Hid]⟩
    case round =>
      obtain ⟨k, hk, rfl, hr⟩ := hrel
      by_cases hlt : k < ss.length
      · obtain ⟨b, off, rfl, hbl, hcell⟩ := hv (by intro e; rw [e] at hlt; simp at hlt)
        have h1 := hcell k hlt
        have hs : ss.take (k + 1) = ss.take k ++ [ss[k]] := List.take_succ_eq_append_getElem hlt
        have HV := Lib.hid hcell
        have HS := Lib.hid hs
        have HM : ss[k] ∈ ss := List.getElem_mem hlt
        clear hv hcell hs
        generalize ss[k] = s at h1 HS HM
        by_cases hgs : 500 < s.size
        · go_wp2
          go_ret
          refine ⟨?_, rfl⟩
          have : ss.any (fun s => decide (500 < s.size)) = true := List.any_eq_true.2 ⟨s, HM, by simpa using hgs⟩
          simp [grt, this]
        · go_wp2
          go_round
          case rel =>
            refine ⟨k + 1, by omega, by go_num, ?_⟩
            show ∀ s ∈ ss.take (k + 1), s.size ≤ 500
            rw [HS.out]
            intro x hx
            rcases List.mem_append.1 hx with hx | hx
            · exact hr.out x hx
            · simp only [List.mem_singleton] at hx; rw [hx]; omega
          case measure => simp [intOf]; omega
      · obtain rfl : k = ss.length := by omega
        go_wp2
        go_ret
        refine ⟨?_, rfl⟩
        have h := hr.out
        rw [List.take_of_length_le (by simp)] at h
        have : ss.any (fun s => decide (500 < s.size)) = false := by
          rw [List.any_eq_false]; intro x hx; have := h x hx; simp; omega
        simp [grt, this, hg]

def joined (ss : List ByteArray) : ByteArray := ss.foldl (· ++ ·) ByteArray.empty

theorem join_any (v : Value) (ss : List ByteArray) (w : World) (hv : StrRow w v ss) (ht : (flat ss).length ≤ 16777216) :
    Calls Try.prog 13 #[v] w fun e w' => e = .returned (.string ⟨(flat ss).toArray⟩) ∧ w = w' := by
  obtain ⟨ao, cap, rfl, hmax, hv⟩ := hv
  unfold maxLen at hmax
  go_enter Try.func13, Try.ntmps13
  go_wp2
  go_loop [3, 4] (fun s i => ∃ k : Nat, k ≤ ss.length ∧ i = .int .i64 k ∧ s = .string ⟨(flat (ss.take k)).toArray⟩) (fun _ i => (ss.length - intOf i).toNat)
  case atStart => exact ⟨0, by omega, rfl, rfl⟩
  case round =>
    obtain ⟨k, hk, rfl, rfl⟩ := hrel
    by_cases hlt : k < ss.length
    · obtain ⟨b, off, rfl, hbl, hcell⟩ := hv (by intro e; rw [e] at hlt; simp at hlt)
      have h1 := hcell k hlt
      have HS := Lib.hid (flat_snoc ss k hlt)
      have HV := Lib.hid hcell
      clear hv hcell
      have htot := Nat.le_trans (flat_le ss k hlt) ht
      generalize ss[k] = s at h1 HS htot
      go_wp2
      go_round
      case rel =>
        refine ⟨k + 1, by omega, by go_num, ?_⟩
        rw [HS.out]
        congr 1
      case measure => simp [intOf]; omega
    · obtain rfl : k = ss.length := by omega
      go_wp2
      go_ret
      refine ⟨?_, rfl⟩
      simp

/-- A slice of whole numbers reads as xs. -/
def IntRow (w : World) (v : Value) (xs : List Int) : Prop :=
  ∃ ao cap, v = .slice ao xs.length cap ∧ xs.length ≤ maxLen ∧ (xs ≠ [] → ∃ b off, ao = some ⟨b, off, none⟩ ∧ b < w.heap.size ∧ ∀ i (h : i < xs.length), w.cell? ⟨b, off + i, none⟩ = some (.int .i64 xs[i]))

theorem sameInts_any (u v : Value) (xs ys : List Int) (w : World) (hu : IntRow w u xs) (hv : IntRow w v ys) :
    Calls Try.prog 19 #[u, v] w fun e w' => e = .returned (.bool (xs == ys)) ∧ ∃ n, w' = w.drewN n := by
  obtain ⟨ao, cap, rfl, hmax, hu⟩ := hu
  obtain ⟨bo, cap', rfl, hmax', hv⟩ := hv
  unfold maxLen at hmax hmax'
  by_cases hl : xs.length = ys.length
  · have hne : ((xs.length : Int) != (ys.length : Int)) = false := by simp; omega
    have HL := Lib.hid hl
    clear hl
    go_enter Try.func19, Try.ntmps19
    go_wp2
    go_loopw [5] (fun i wr => ∃ k : Nat, k ≤ xs.length ∧ i = .int .i64 k ∧ Hid (xs.take k = ys.take k) ∧ ∃ n, wr = w.drewN n) (fun i _ => (xs.length - intOf i).toNat)
    case atStart => exact ⟨0, by omega, rfl, by simp [Hid], 0, rfl⟩
    case round =>
      obtain ⟨k, hk, rfl, hr, n, rfl⟩ := hrel
      by_cases hlt : k < xs.length
      · have hlt' : k < ys.length := by rw [← HL.out]; exact hlt
        obtain ⟨b, off, rfl, hbl, hcell⟩ := hu (by intro e; rw [e] at hlt; simp at hlt)
        obtain ⟨b', off', rfl, hbl', hcell'⟩ := hv (by intro e; rw [e] at hlt'; simp at hlt')
        have h1 := hcell k hlt
        have h2 := hcell' k hlt'
        have HV := Lib.hid hcell
        have HV' := Lib.hid hcell'
        have hs : xs.take (k + 1) = xs.take k ++ [xs[k]] := List.take_succ_eq_append_getElem hlt
        have hs' : ys.take (k + 1) = ys.take k ++ [ys[k]] := List.take_succ_eq_append_getElem hlt'
        have HS := Lib.hid hs
        have HS' := Lib.hid hs'
        clear hu hv hcell hcell' hs hs'
        have e1 : Hid (xs[k]? = some xs[k]) := List.getElem?_eq_getElem hlt
        have e2 : Hid (ys[k]? = some ys[k]) := List.getElem?_eq_getElem hlt'
        generalize xs[k] = x at h1 HS e1
        generalize ys[k] = y at h2 HS' e2
        have l0 : (0 : Int) ≤ k := by omega
        have l1 : (k : Int) < xs.length := by omega
        have l2 : (k : Int) < ys.length := by omega
        go_wp2
        go_quiet (fail)
        by_cases hxy : x = y
        · have hne : (x != y) = false := by simp [hxy]
          go_wp2
          go_roundw
          case rel => exact ⟨k + 1, by omega, by go_num, by show xs.take (k + 1) = ys.take (k + 1); rw [HS.out, HS'.out, hr.out, hxy], n + nq, by simp⟩
          case measure => simp [intOf]; omega
        · have hne : (x != y) = true := by simp [hxy]
          go_wp2
          go_ret
          refine ⟨?_, n + nq, by simp⟩
          have : (xs == ys) = false := by
            rw [beq_eq_false_iff_ne]; intro e
            have h1 := e1.out
            rw [e, e2.out] at h1
            exact hxy (Option.some.inj h1).symm
          rw [this]; rfl
      · obtain rfl : k = xs.length := by omega
        go_wp2
        go_ret
        refine ⟨?_, _, rfl⟩
        have h := hr.out
        rw [List.take_of_length_le (Nat.le_refl _), HL.out, List.take_of_length_le (Nat.le_refl _)] at h
        simp [h]
  · have hne : ((xs.length : Int) != (ys.length : Int)) = true := by simp; omega
    have HL := Lib.hid hl
    clear hl
    go_enter Try.func19, Try.ntmps19
    go_wp2
    go_ret
    refine ⟨?_, 0, rfl⟩
    have : (xs == ys) = false := by
      rw [beq_eq_false_iff_ne]; intro e; exact HL.out (by rw [e])
    rw [this]; rfl
end Go.Proofs.Ytjgmfhfncphbnaa
