/- Walks: a path's names; which path comes first. -/
import Derived.Test.YtodnfcbecojieaaDoorD1
import Derived.Laws.Strings2
import Derived.Laws.Strings3
import Derived.Laws.Concat
import Derived.Laws.Cover1
namespace Go.Proofs.YtodnfcbecojieaaDoor
open Go.RowKit

set_option maxHeartbeats 1000000 in
theorem great27_any (v : Value) (l : List Lf) (w : World) (hz : ∀ f ∈ l, f.2.size ≤ 1000000000000000) (hv : LeafRow w v l) :
    Calls Tryd.prog 6 #[v] w fun e w' => e = .returned (.bool (gr27 l)) ∧ Below w.heap.size w w' := by
  have hg := great26_any v l w hz hv
  obtain ⟨ao, cap, rfl, hmax, _⟩ := hv.open
  unfold maxLen at hmax
  by_cases h : 60 < l.length
  · have h' : (60 : Int) < l.length := by omega
    go_enter Tryd.func6, Tryd.ntmps6
    go_wp2
    go_ret
    exact ⟨by unfold gr27; rw [decide_eq_true h]; rfl, Below.refl _ _⟩
  · have h' : decide ((60 : Int) < l.length) = false := decide_eq_false (by omega)
    go_enter Tryd.func6, Tryd.ntmps6
    go_wp2_with (go_at_call 13; refine hg.mono ?_; rintro e w1 ⟨rfl, hb⟩)
    go_ret
    exact ⟨by unfold gr27; rw [decide_eq_false h]; rfl, hb⟩

/-- A path's names as texts. -/
def ofL (l : List UInt8) : ByteArray := ⟨l.toArray⟩
theorem ofL_data (l : List UInt8) : (ofL l).data.toList = l := by simp [ofL]
def nms (s : ByteArray) : List ByteArray := (spl s.data.toList).map ofL
theorem nms_data (s : ByteArray) : (nms s).map (·.data.toList) = spl s.data.toList := by
  unfold nms; rw [List.map_map]
  conv => rhs; rw [← List.map_id (spl s.data.toList)]
  congr 1
theorem map_data_inj : ∀ {l m : List ByteArray}, l.map (·.data.toList) = m.map (·.data.toList) → l = m
  | [], [], _ => rfl
  | [], _ :: _, h => by simp at h
  | _ :: _, [], h => by simp at h
  | x :: l, y :: m, h => by
    simp only [List.map_cons, List.cons.injEq] at h
    rw [ba_ext h.1, map_data_inj h.2]
theorem nms_of {s : ByteArray} {l : List ByteArray} (h : l.map (·.data.toList) = spl s.data.toList) : l = nms s := map_data_inj (by rw [h, nms_data])
theorem drop_byte (s : ByteArray) (k : Nat) (h : k < s.size) : s.data.toList.drop k = s[k] :: s.data.toList.drop (k + 1) := by
  rw [List.drop_eq_getElem_cons (by simpa using h)]; rfl
theorem extract_one (s : ByteArray) (k : Nat) (h : k < s.size) : (s.extract k (k + 1)).data.toList = [s[k]] := by
  rw [Lib.extract_data]
  rw [drop_byte s k h]
  simp [List.take_succ_cons]

theorem infoS : (Tryd.prog.info? 9).map (fun i => (i.zero, i.size, i.bytes)) = some (some (.string ByteArray.empty), 1, 16) := by kernel_rfl

set_option maxHeartbeats 1000000 in
theorem names_any (s : ByteArray) (w : World) (hs : s.size ≤ 1000000) :
    Calls Tryd.prog 18 #[.string s] w fun e w' => ∃ v, e = .returned v ∧ StrRow w' v (nms s) ∧ Below w.heap.size w w' := by
  obtain ⟨i0, hi, hz0, hz1, hz2⟩ := info_parts infoS
  go_enter Tryd.func18, Tryd.ntmps18
  go_wp2
  go_loopw [3, 4, 5] (fun out nm i wr => ∃ (k : Nat) (o : List ByteArray) (c : ByteArray), k ≤ s.size ∧ i = .int .i64 k ∧ nm = .string c ∧ c.size ≤ k ∧ o.length ≤ k ∧ Hid (o.map (·.data.toList) ++ glue c.data.toList (spl (s.data.toList.drop k)) = spl s.data.toList) ∧ wr.ownsRow w.heap.size 9 1 out o.length (o.map Value.string) ∧ Below w.heap.size w wr) (fun _ _ i _ => (s.size - intOf i).toNat)
  case atStart => exact ⟨0, [], ByteArray.empty, by omega, rfl, rfl, by simp, by simp, by show [] ++ glue [] (spl (s.data.toList.drop 0)) = _; simp [glue_nil], World.ownsRow_nil _ _ _ _, Below.refl _ _⟩
  case round =>
    obtain ⟨k, o, c, hk, rfl, rfl, hc, ho, hf, hown, hb⟩ := hrel
    obtain ⟨ao, cc, rfl⟩ := own_form hown
    by_cases hlt : k < s.size
    · have hd := hf.out
      rw [drop_byte s k hlt] at hd
      have hx := extract_one s k hlt
      have HX := Lib.hid hx
      clear hx hf
      have hszb := hb.size
      by_cases hb47 : s[k] = 47
      · rw [hb47, glue_sep] at hd
        have h47 : ((s[k].toNat : Int) == 47) = true := by rw [hb47]; rfl
        have HD := Lib.hid hd
        clear hd
        go_wp2_with (at_builtin; refine wpList_append_lies _ rfl (.tmp 16) (.tmp 18) 40 rfl w.heap.size 9 i0 (.string ByteArray.empty) 1 16 Tryd.underlying40 hi hz0 hz1 hz2 rfl (by decide) _ o.length _ rfl (hown.alloc _) ⟨wr.heap.size, 0, none⟩ 1 1 [.string c] rfl rfl ?c1 ?c2 (by decide) ?c3 ?c4 ?c5 _ rfl ?_)
        case c1 => exact cell_one_new _ _ _
        case c2 => simp [Value.oneCell']
        case c3 => unfold maxLen; omega
        case c4 => omega
        case c5 => simp; omega
        intro g c2 w1 hown1 hgrow hat hltg
        go_wp2
        go_roundw
        case rel => exact ⟨k + 1, o ++ [c], ByteArray.empty, by omega, by go_num, rfl, by simp, by simp; omega, by rw [List.map_append, List.append_assoc, ← HD.out]; show _ ++ ([c].map _ ++ glue [] _) = _; rw [glue_nil]; rfl, by rw [List.length_append, List.map_append]; exact hown1, (hb.alloc (by omega) _).grown hgrow (by simp; omega) (fun x hx => (hown.lt x hx).1)⟩
        case measure => simp [intOf]; omega
      · rw [glue_byte _ _ _ hb47] at hd
        have HD := Lib.hid hd
        clear hd
        have l1 : (0 : Int) ≤ k := by omega
        have l2 : (k : Int) + 1 ≤ s.size := by omega
        have l3 : IntKind.i64.wrap ((k : Int) + 1) = (k : Int) + 1 := IntWalk.i64_in _ (by omega)
        have l4 : (k : Int) ≤ (k : Int) + 1 := by omega
        have l5 : ((k : Int) + 1).toNat = k + 1 := by omega
        have l6 : (s.extract k (k + 1)).size = 1 := by rw [ByteArray.size_extract]; omega
        have h47 : ((s[k].toNat : Int) == 47) = false := by
          rw [beq_eq_false_iff_ne]
          intro e
          have e2 : s[k].toNat = 47 := by omega
          exact hb47 (UInt8.toNat_inj.1 e2)
        go_wp2
        go_roundw
        case rel => exact ⟨k + 1, o, c ++ s.extract k (k + 1), by omega, by go_num, rfl, by rw [ByteArray.size_append, l6]; omega, by omega, by rw [ByteArray.data_append, Array.toList_append, HX.out]; exact HD.out, hown, hb⟩
        case measure => simp [intOf]; omega
    · obtain rfl : k = s.size := by omega
      have hd := hf.out
      rw [List.drop_eq_nil_of_le (by simp), glue_end] at hd
      have HD := Lib.hid hd
      clear hf hd
      have hszb := hb.size
      go_wp2_with (at_builtin; refine wpList_append_lies _ rfl (.tmp 27) (.tmp 29) 40 rfl w.heap.size 9 i0 (.string ByteArray.empty) 1 16 Tryd.underlying40 hi hz0 hz1 hz2 rfl (by decide) _ o.length _ rfl (hown.alloc _) ⟨wr.heap.size, 0, none⟩ 1 1 [.string c] rfl rfl ?c1 ?c2 (by decide) ?c3 ?c4 ?c5 _ rfl ?_)
      case c1 => exact cell_one_new _ _ _
      case c2 => simp [Value.oneCell']
      case c3 => unfold maxLen; omega
      case c4 => omega
      case c5 => simp; omega
      intro g c2 w1 hown1 hgrow hat hltg
      go_wp2
      go_ret
      have e : o ++ [c] = nms s := nms_of (by rw [List.map_append]; exact HD.out)
      refine ⟨_, rfl, ?_, (hb.alloc (by omega) _).grown hgrow (by simp; omega) (fun x hx => (hown.lt x hx).1)⟩
      rw [← e]
      exact StrRow.of_own (B := w.heap.size) (e := 9) (by rw [List.length_append, List.map_append]; exact hown1)

theorem isNaN_any (x : ByteArray) (w : World) : Calls Tryd.prog 31 #[.string x] w fun e w' => e = .returned (.bool false) ∧ w' = w := by
  go_enter Tryd.func31, Tryd.ntmps31
  go_wp2
  go_ret
  exact ⟨by simp, rfl⟩

theorem cmpB_cases (x y : List UInt8) : cmpB x y = -1 ∨ cmpB x y = 0 ∨ cmpB x y = 1 := by
  unfold cmpB
  split
  · simp
  · split <;> simp

theorem compare_any (x y : ByteArray) (w : World) : Calls Tryd.prog 26 #[.string x, .string y] w fun e w' => e = .returned (.int .i64 (cmpB x.data.toList y.data.toList)) ∧ w' = w := by
  cases hl : Op.bytesLess x.toList y.toList
  · by_cases he : x.toList = y.toList
    · have hr : cmpB x.data.toList y.data.toList = 0 := by rw [cmpB_zero, ← ByteArray.toList_eq, ← ByteArray.toList_eq, he]
      rw [hr]
      have he' : (x.toList == y.toList) = true := beq_iff_eq.2 he
      clear hr he
      go_enter Tryd.func26, Tryd.ntmps26
      go_wp2_with (go_at_call 31; refine (isNaN_any _ _).mono ?_; rintro e w1 ⟨rfl, hw1⟩; rw [hw1]; clear hw1)
      go_ret
      exact ⟨rfl, rfl⟩
    · have hr : cmpB x.data.toList y.data.toList = 1 := by
        unfold cmpB; rw [← ByteArray.toList_eq, ← ByteArray.toList_eq, hl, if_neg (by simp), if_neg he]
      rw [hr]
      have he' : (x.toList == y.toList) = false := beq_eq_false_iff_ne.2 he
      clear hr he
      go_enter Tryd.func26, Tryd.ntmps26
      go_wp2_with (go_at_call 31; refine (isNaN_any _ _).mono ?_; rintro e w1 ⟨rfl, hw1⟩; rw [hw1]; clear hw1)
      go_ret
      exact ⟨rfl, rfl⟩
  · have hr : cmpB x.data.toList y.data.toList = -1 := by
      unfold cmpB; rw [← ByteArray.toList_eq, ← ByteArray.toList_eq, hl, if_pos rfl]
    rw [hr]
    clear hr
    go_enter Tryd.func26, Tryd.ntmps26
    go_wp2_with (go_at_call 31; refine (isNaN_any _ _).mono ?_; rintro e w1 ⟨rfl, hw1⟩; rw [hw1]; clear hw1)
    go_ret
    exact ⟨rfl, rfl⟩

theorem cmpP_cons (x y : List UInt8) (a b : List (List UInt8)) : cmpP (x :: a) (y :: b) = if cmpB x y ≠ 0 then cmpB x y else cmpP a b := rfl

set_option maxHeartbeats 1000000 in
theorem scompare_any (v u : Value) (xs ys : List ByteArray) (w : World) (hx : StrRow w v xs) (hy : StrRow w u ys) :
    Calls Tryd.prog 21 #[v, u] w fun e w' => e = .returned (.int .i64 (cmpP (xs.map (·.data.toList)) (ys.map (·.data.toList)))) ∧ w' = w := by
  obtain ⟨ao, cap, rfl, hmx, hx⟩ := hx
  obtain ⟨bo, cap2, rfl, hmy, hy⟩ := hy
  unfold maxLen at hmx hmy
  go_enter Tryd.func21, Tryd.ntmps21
  go_wp2
  go_loopw [11] (fun i wr => ∃ k : Nat, k ≤ xs.length ∧ k ≤ ys.length ∧ i = .int .i64 k ∧ Hid (cmpP ((xs.drop k).map (·.data.toList)) ((ys.drop k).map (·.data.toList)) = cmpP (xs.map (·.data.toList)) (ys.map (·.data.toList))) ∧ wr = w) (fun i _ => (xs.length - intOf i).toNat)
  case atStart => exact ⟨0, by omega, by omega, rfl, rfl, rfl⟩
  case round =>
    obtain ⟨k, hk, hk2, rfl, hf, rfl⟩ := hrel
    by_cases hlt : k < xs.length
    · obtain ⟨b, off, rfl, hbl, hcell⟩ := hx (by intro e; rw [e] at hlt; simp at hlt)
      have c1 := hcell k hlt
      by_cases hlt2 : k < ys.length
      · obtain ⟨b2, off2, rfl, hbl2, hcell2⟩ := hy (by intro e; rw [e] at hlt2; simp at hlt2)
        have c2 := hcell2 k hlt2
        have hs := hf.out
        rw [List.drop_eq_getElem_cons hlt, List.drop_eq_getElem_cons hlt2, List.map_cons, List.map_cons, cmpP_cons] at hs
        clear hcell hcell2 hf
        generalize xs[k] = x at c1 hs
        generalize ys[k] = y at c2 hs
        have hca := compare_any x y
        generalize cmpB x.data.toList y.data.toList = r at hca hs
        by_cases hr : r = 0
        · rw [if_neg (by simpa using hr)] at hs
          have HS := Lib.hid hs
          subst hr
          clear hs
          go_wp2_with (go_at_call 26; refine (hca _).mono ?_; rintro e w1 ⟨rfl, hw1⟩; rw [hw1]; clear hw1)
          go_roundw
          case rel => exact ⟨k + 1, by omega, by omega, by go_num, HS, by simp⟩
          case measure => simp [intOf]; omega
        · rw [if_pos hr] at hs
          have HS := Lib.hid hs
          have hr' : (r == 0) = false := by simpa using hr
          clear hs
          go_wp2_with (go_at_call 26; refine (hca _).mono ?_; rintro e w1 ⟨rfl, hw1⟩; rw [hw1]; clear hw1)
          go_ret
          exact ⟨by rw [← HS.out]; rfl, rfl⟩
      · obtain rfl : k = ys.length := by omega
        have hs := hf.out
        rw [List.drop_eq_getElem_cons hlt, List.drop_eq_nil_of_le (Nat.le_refl _)] at hs
        have HS := Lib.hid (hs.symm : _ = (1 : Int))
        clear hcell hf hs
        go_wp2
        go_ret
        exact ⟨by rw [HS.out]; rfl, rfl⟩
    · obtain rfl : k = xs.length := by omega
      have hs := hf.out
      rw [List.drop_eq_nil_of_le (Nat.le_refl _)] at hs
      by_cases hlt2 : xs.length < ys.length
      · rw [List.drop_eq_getElem_cons hlt2] at hs
        have HS := Lib.hid (hs.symm : _ = (-1 : Int))
        clear hf hs
        have hlt3 : (xs.length : Int) < ys.length := by omega
        go_wp2
        go_ret
        exact ⟨by rw [HS.out]; rfl, rfl⟩
      · rw [List.drop_eq_nil_of_le (by omega)] at hs
        have HS := Lib.hid (hs.symm : _ = (0 : Int))
        clear hf hs
        have hlt3 : ¬ (xs.length : Int) < ys.length := by omega
        go_wp2
        go_ret
        exact ⟨by rw [HS.out]; rfl, rfl⟩
end Go.Proofs.YtodnfcbecojieaaDoor
