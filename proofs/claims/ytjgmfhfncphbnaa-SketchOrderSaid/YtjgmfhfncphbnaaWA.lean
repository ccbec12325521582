/- Walks: the sketches of texts. -/
import Derived.Test.YtjgmfhfncphbnaaW9
namespace Go.Proofs.Ytjgmfhfncphbnaa
open Go.RowKit Fl

def skOf (s : ByteArray) : Nat → Int := sk s.data.toList
theorem flat_one (s : ByteArray) : flat [s] = s.data.toList := by unfold flat; simp
theorem info31 : (Try.prog.info? 31).map (fun i => (i.zero, i.size, i.bytes)) = some (some (wv fun _ => 0), 8, 64) := by kernel_rfl
def rowsK (f : (Nat → Int) → List Value) (ss : List ByteArray) (k : Nat) : List Value := ((ss.take k).map fun s => f (skOf s)).flatten
theorem rowsK_succ (f : (Nat → Int) → List Value) (ss : List ByteArray) (k : Nat) (h : k < ss.length) : rowsK f ss (k + 1) = rowsK f ss k ++ f (skOf ss[k]) := by
  unfold rowsK; rw [List.take_succ_eq_append_getElem h, List.map_append, List.flatten_append]; congr 1; simp
theorem skOf_bd (s : ByteArray) (hs : s.size ≤ 16777216) : Bd (skOf s) := fun i _ => by
  have := sk_bd s.data.toList i
  have e : s.data.toList.length = s.size := by simp
  unfold skOf; omega

set_option maxHeartbeats 1000000 in
theorem sketches_any (v : Value) (ss : List ByteArray) (w : World) (hn : ss.length ≤ 1000000) (hss : ∀ s ∈ ss, s.size ≤ 16777216) (hv : StrRow w v ss) :
    Calls Try.prog 14 #[v] w fun e w' => ∃ a b, e = .returned (.tuple #[a, b]) ∧ RowOf w' a 4 ((ss.map skOf).map skl) ∧ RowOf w' b 8 ((ss.map skOf).map wl) ∧ Below w.heap.size w w' := by
  obtain ⟨ao, cap, rfl, hmax, hv⟩ := hv
  obtain ⟨i0, hi, hz0, hz1, hz2⟩ := info_parts info28
  obtain ⟨i1, hj, hy0, hy1, hy2⟩ := info_parts info31
  unfold maxLen at hmax
  have HV := Lib.hid hv
  clear hv
  go_enter Try.func14, Try.ntmps14
  go_wp2
  go_loopw [4, 5, 6] (fun a b i wr => ∃ k : Nat, k ≤ ss.length ∧ i = .int .i64 k ∧ wr.ownsRow w.heap.size 28 4 a k (rowsK skl ss k) ∧ wr.ownsRow w.heap.size 31 8 b k (rowsK wl ss k) ∧ Hid (∀ g, a.ownBlock = some g → b.ownBlock ≠ some g) ∧ Below w.heap.size w wr) (fun _ _ i _ => (ss.length - intOf i).toNat)
  case atStart => exact ⟨0, by omega, rfl, World.ownsRow_nil _ _ _ _, World.ownsRow_nil _ _ _ _, fun g h => by simp [Value.ownBlock] at h, Below.refl _ _⟩
  case round =>
    obtain ⟨k, hk, rfl, hoa, hob, hd, hb⟩ := hrel
    obtain ⟨a1, c1, rfl⟩ := own_form hoa
    obtain ⟨a2, c2, rfl⟩ := own_form hob
    have hsz := hb.size
    by_cases hlt : k < ss.length
    · obtain ⟨b, off, rfl, hbl, hcell⟩ := HV.out (by intro e; rw [e] at hlt; simp at hlt)
      have hs1 : ∀ w2, Below wr.heap.size wr w2 → w2.cell? ⟨b, off + k, none⟩ = some (.string ss[k]) := fun w2 hb2 => by
        rw [hb2.cell (p := ⟨b, off + k, none⟩) (by simp; omega), hb.cell (p := ⟨b, off + k, none⟩) hbl]; exact hcell k hlt
      have hsl := hss ss[k] (List.getElem_mem hlt)
      have HRA := Lib.hid (rowsK_succ skl ss k hlt)
      have HRB := Lib.hid (rowsK_succ wl ss k hlt)
      have HC := Lib.hid hcell
      clear hcell
      generalize ss[k] = s at hs1 hsl HRA HRB
      have hs0 := hs1 wr (Below.refl _ _)
      have HS1 := Lib.hid hs1
      have HA := Lib.hid hoa
      have HB := Lib.hid hob
      clear hs1 hoa hob
      have hrow : StrRow (wr.alloc (.cells #[.string s] 9)) (.slice (some ⟨wr.heap.size, 0, none⟩) 1 1) [s] := by
        refine ⟨_, 1, rfl, by simp [maxLen], fun _ => ⟨wr.heap.size, 0, rfl, by simp, fun i hi => ?_⟩⟩
        simp only [List.length_singleton] at hi
        obtain rfl : i = 0 := by omega
        simp
      have hoa2 : ∀ w2, Below (wr.alloc (.cells #[.string s] 9)).heap.size (wr.alloc (.cells #[.string s] 9)) w2 → w2.ownsRow w.heap.size 28 4 (.slice a1 k c1) k (rowsK skl ss k) ∧ Below wr.heap.size wr w2 := fun w2 hb2 =>
        ⟨(HA.out.alloc _).kept (grown_of_below hb2 none) (by cases a1 <;> simp [Value.ownBlock]), ((Below.refl _ _).alloc (Nat.le_refl _) _).trans (hb2.mono (by simp))⟩
      have HOA2 := Lib.hid hoa2
      clear hoa2
      go_wp2_with (first | (go_at_call 11; refine (of_any _ [s] _ hrow (by rw [flat_one]; simpa using hsl)).mono ?_; rintro e w2 ⟨rfl, hb2⟩; rw [flat_one]; unfold skv) | (at_builtin; refine wpList_append_lies _ rfl (.tmp 13) (.tmp 20) 34 rfl w.heap.size 28 i0 (skv fun _ => 0) 4 64 Try.underlying34 hi hz0 hz1 hz2 rfl (by decide) _ k _ rfl ((HOA2.out _ (by assumption)).1.alloc _) ⟨_, 0, none⟩ 1 1 (skl (sk s.data.toList)) rfl rfl ?d1 ?d2 (by decide) ?d3 ?d4 ?d5 _ rfl ?_))
      case d1 => exact World.news_of_block (heap_alloc_new w2 _)
      case d2 => simp [skl, Value.oneCell']
      case d3 => unfold maxLen; omega
      case d4 => omega
      case d5 => have := (HOA2.out _ hb2).2.size; simp; omega
      intro g3 c3 w3 hown3 hgrow3 hat3 hlt3
      have hbr2 := (HOA2.out _ hb2).2
      have hs2 := hbr2.size
      have hb3 : Below w.heap.size w w3 := ((hb.trans (hbr2.mono hsz)).alloc (by omega) _).grown hgrow3 (by simp; omega) (fun x hx => (HA.out.lt x hx).1)
      have hob3 : w3.ownsRow w.heap.size 31 8 (.slice a2 k c2) k (rowsK wl ss k) := by
        refine ((HB.out.kept (grown_of_below hbr2 none) (by cases a2 <;> simp [Value.ownBlock])).alloc _).kept hgrow3 ?_
        cases a2 with
        | none => exact .inl rfl
        | some y => exact .inr (fun e => hd.out y.block (by rw [← e]; rfl) rfl)
      have hd3 : Hid (∀ x, a2.map (·.block) = some x → x ≠ g3) := fun x hx => by
        cases a2 with
        | none => simp at hx
        | some y =>
          obtain rfl : y.block = x := by simpa using hx
          rcases hat3 with h | h
          · intro e; exact hd.out g3 h (by rw [← e]; rfl)
          · have h2 := (HB.out.lt y.block rfl).2
            have h' : g3 = w2.heap.size + 1 := by simpa using h
            omega
      have hs3 : w3.cell? ⟨b, off + k, none⟩ = some (.string s) := by
        rw [hb3.cell (p := ⟨b, off + k, none⟩) hbl, ← hb.cell (p := ⟨b, off + k, none⟩) hbl]; exact hs0
      have hsz3 := hb3.size
      have HO3 := Lib.hid hown3
      have HOB3 := Lib.hid hob3
      have hstep : ∀ w4, Below w3.heap.size w3 w4 → w4.ownsRow w.heap.size 28 4 (.slice (some ⟨g3, 0, none⟩) (k + 1) c3) (k + 1) (rowsK skl ss k ++ skl (sk s.data.toList)) ∧ w4.ownsRow w.heap.size 31 8 (.slice a2 k c2) k (rowsK wl ss k) ∧ Below w.heap.size w w4 := fun w4 hb4 =>
        ⟨hown3.kept (grown_of_below hb4 none) (.inr (by simp [Value.ownBlock])), hob3.kept (grown_of_below hb4 none) (by cases a2 <;> simp [Value.ownBlock]), hb3.trans (hb4.mono hsz3)⟩
      have HST := Lib.hid hstep
      clear hown3 hob3 hstep hs0
      go_wp2_with (first | (go_at_call 12; refine (rof_any s hsl _).mono ?_; rintro e w4 ⟨rfl, hb4⟩; unfold wv) | (at_builtin; refine wpList_append_lies _ rfl (.tmp 22) (.tmp 28) 35 rfl w.heap.size 31 i1 (wv fun _ => 0) 8 64 Try.underlying35 hj hy0 hy1 hy2 rfl (by decide) _ k _ rfl ((HST.out _ (by assumption)).2.1.alloc _) ⟨_, 0, none⟩ 1 1 (wl (sk s.data.toList)) rfl rfl ?f1 ?f2 (by decide) ?f3 ?f4 ?f5 _ rfl ?_))
      case f1 => exact World.news_of_block (heap_alloc_new w4 _)
      case f2 => simp [wl, Value.oneCell']
      case f3 => unfold maxLen; omega
      case f4 => omega
      case f5 => have := (HST.out _ hb4).2.2.size; simp; omega
      intro g5 c5 w5 hown5 hgrow5 hat5 hlt5
      obtain ⟨ha4, hb4o, hbw4⟩ := HST.out _ hb4
      have hs4 := hbw4.size
      have hb5 : Below w.heap.size w w5 := (hbw4.alloc (by omega) _).grown hgrow5 (by simp; omega) (fun x hx => (hb4o.lt x hx).1)
      have ha5 : w5.ownsRow w.heap.size 28 4 (.slice (some ⟨g3, 0, none⟩) (k + 1) c3) (k + 1) (rowsK skl ss k ++ skl (sk s.data.toList)) := by
        refine (ha4.alloc _).kept hgrow5 (.inr fun e => ?_)
        cases a2 with
        | none => simp [Value.ownBlock] at e
        | some y => exact hd3.out y.block rfl (by simpa [Value.ownBlock] using e.symm)
      have hd5 : Hid (∀ g, (Value.slice (some ⟨g3, 0, none⟩) (k + 1) c3).ownBlock = some g → (Value.slice (some ⟨g5, 0, none⟩) (k + 1) c5).ownBlock ≠ some g) := fun g hg e => by
        obtain rfl : g3 = g := by simpa [Value.ownBlock] using hg
        obtain rfl : g5 = g3 := by simpa [Value.ownBlock] using e
        rcases hat5 with h | h
        · cases a2 with
          | none => simp [Value.ownBlock] at h
          | some y => exact hd3.out y.block rfl (by simpa [Value.ownBlock] using h)
        · have h' : g5 = w4.heap.size + 1 := by simpa using h
          have := hb4.size
          omega
      have HA5 := Lib.hid ha5
      have HB5 := Lib.hid hown5
      clear ha5 hown5 ha4 hb4o
      go_wp2
      go_roundw
      case rel => exact ⟨k + 1, by omega, by go_num, by rw [HRA.out]; exact HA5.out, by rw [HRB.out]; exact HB5.out, hd5, hb5⟩
      case measure => simp [intOf]; omega
    · obtain rfl : k = ss.length := by omega
      have hra : RowOf wr (.slice a1 ss.length c1) 4 ((ss.map skOf).map skl) := by
        have e : rowsK skl ss ss.length = ((ss.map skOf).map skl).flatten := by unfold rowsK; rw [List.take_of_length_le (Nat.le_refl _), List.map_map]; rfl
        refine RowOf.of_own (B := w.heap.size) (e := 28) ?_ (by rw [List.length_map, List.length_map, ← e]; exact hoa)
        intro r hr
        obtain ⟨f, _, rfl⟩ := List.mem_map.1 hr
        rfl
      have hrb : RowOf wr (.slice a2 ss.length c2) 8 ((ss.map skOf).map wl) := by
        have e : rowsK wl ss ss.length = ((ss.map skOf).map wl).flatten := by unfold rowsK; rw [List.take_of_length_le (Nat.le_refl _), List.map_map]; rfl
        refine RowOf.of_own (B := w.heap.size) (e := 31) ?_ (by rw [List.length_map, List.length_map, ← e]; exact hob)
        intro r hr
        obtain ⟨f, _, rfl⟩ := List.mem_map.1 hr
        rfl
      have HA := Lib.hid hra
      have HB := Lib.hid hrb
      clear hra hrb hoa hob
      go_wp2
      go_ret2
      exact ⟨_, _, rfl, HA.out, HB.out, hb⟩
end Go.Proofs.Ytjgmfhfncphbnaa
