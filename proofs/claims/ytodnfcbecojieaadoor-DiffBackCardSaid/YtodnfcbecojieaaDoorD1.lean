/- Walks: the first file of a path; whether files are great; a path's names; comparing. -/
import Derived.Test.YtodnfcbecojieaaDoorChecked
import Derived.Test.YtodnfcbecojieaaDoorGen
import Derived.Test.YtodnfcbecojieaaDoorD0
namespace Go.Proofs.YtodnfcbecojieaaDoor
open Go.RowKit

theorem StrRow.below {w w' : World} {v : Value} {ss : List ByteArray} (h : StrRow w v ss) (hb : Below w.heap.size w w') : StrRow w' v ss := by
  obtain ⟨ao, cap, rfl, hm, h⟩ := h
  refine ⟨ao, cap, rfl, hm, fun hne => ?_⟩
  obtain ⟨b, off, e, hl, hc⟩ := h hne
  exact ⟨b, off, e, Nat.lt_of_lt_of_le hl hb.size, fun i hi => by rw [hb.cell (p := ⟨b, off + i, none⟩) hl]; exact hc i hi⟩
theorem StrRow.of_own {w : World} {B : Nat} {e : TypeId} {v : Value} {o : List ByteArray} (h : w.ownsRow B e 1 v o.length (o.map Value.string)) : StrRow w v o := by
  rcases h.2 with ⟨h1, h2⟩ | ⟨g, cap, cur, hv, hg, hh, hn, hm, hc, ht⟩
  · obtain rfl := List.eq_nil_of_length_eq_zero h2
    exact ⟨none, 0, h1, by simp, fun h => absurd rfl h⟩
  · refine ⟨some ⟨g, 0, none⟩, cap, hv, Nat.le_trans hn hm, fun _ => ⟨g, 0, rfl, (Array.getElem?_eq_some_iff.1 hh).1, fun i hi => ?_⟩⟩
    have := h.cells (g := g) (by rw [hv]; rfl) i (.string o[i]) (by simp [hi])
    rw [Addr.add_mid] at this
    exact this
theorem StrRow.form {w : World} {v : Value} {ss : List ByteArray} (h : StrRow w v ss) : ∃ ao c, v = .slice ao ss.length c := by
  obtain ⟨ao, c, h, _⟩ := h; exact ⟨ao, c, h⟩
theorem StrRow.nil (w : World) : StrRow w (.slice none 0 0) [] := ⟨none, 0, rfl, by simp, fun h => absurd rfl h⟩

def leafC (f : Lf) : List Value := [.string f.1, .string f.2]
def apC (f : ByteArray × Nat) : List Value := [.string f.1, .int .i64 f.2]
def LeafRow (w : World) (v : Value) (l : List Lf) : Prop := RowOf w v 2 (l.map leafC)
def ApRow (w : World) (v : Value) (l : List (ByteArray × Nat)) : Prop := RowOf w v 2 (l.map apC)
theorem LeafRow.below {w w' : World} {v : Value} {l : List Lf} (h : LeafRow w v l) (hb : Below w.heap.size w w') : LeafRow w' v l := RowOf.below h hb
theorem ApRow.below {w w' : World} {v : Value} {l : List (ByteArray × Nat)} (h : ApRow w v l) (hb : Below w.heap.size w w') : ApRow w' v l := RowOf.below h hb

/-- A slice of files, cell by cell. -/
theorem LeafRow.open {w : World} {v : Value} {l : List Lf} (h : LeafRow w v l) : ∃ ao cap, v = .slice ao l.length cap ∧ l.length ≤ maxLen ∧ (l ≠ [] → ∃ b off, ao = some ⟨b, off, none⟩ ∧ b < w.heap.size ∧ ∀ k (hk : k < l.length), w.cell? ⟨b, off + k * 2, none⟩ = some (.string l[k].1) ∧ w.cell? ⟨b, off + k * 2 + 1, none⟩ = some (.string l[k].2)) := by
  obtain ⟨ao, cap, rfl, hm, h⟩ := h
  rw [List.length_map] at hm ⊢
  refine ⟨ao, cap, rfl, hm, fun hne => ?_⟩
  obtain ⟨b, off, e, hl, hc⟩ := h (by simpa using hne)
  refine ⟨b, off, e, hl, fun k hk => ?_⟩
  have := hc k (by simpa using hk)
  rw [List.getElem_map] at this
  exact ⟨this 0 _ rfl, this 1 _ rfl⟩
theorem ApRow.open {w : World} {v : Value} {l : List (ByteArray × Nat)} (h : ApRow w v l) : ∃ ao cap, v = .slice ao l.length cap ∧ l.length ≤ maxLen ∧ (l ≠ [] → ∃ b off, ao = some ⟨b, off, none⟩ ∧ b < w.heap.size ∧ ∀ k (hk : k < l.length), w.cell? ⟨b, off + k * 2, none⟩ = some (.string l[k].1) ∧ w.cell? ⟨b, off + k * 2 + 1, none⟩ = some (.int .i64 l[k].2)) := by
  obtain ⟨ao, cap, rfl, hm, h⟩ := h
  rw [List.length_map] at hm ⊢
  refine ⟨ao, cap, rfl, hm, fun hne => ?_⟩
  obtain ⟨b, off, e, hl, hc⟩ := h (by simpa using hne)
  refine ⟨b, off, e, hl, fun k hk => ?_⟩
  have := hc k (by simpa using hk)
  rw [List.getElem_map] at this
  exact ⟨this 0 _ rfl, this 1 _ rfl⟩

theorem findS_step (l : List Lf) (p : ByteArray) (k : Nat) (h : k < l.length) : findS (l.drop k) p = if l[k].1 = p then some l[k].2 else findS (l.drop (k + 1)) p := by
  rw [List.drop_eq_getElem_cons h]
  unfold findS
  rw [List.find?_cons]
  by_cases e : l[k].1 = p
  · rw [if_pos e]; simp [e]
  · rw [if_neg e]; simp [e]
theorem ba_beq (p q : ByteArray) : (p.toList == q.toList) = decide (p = q) := by
  rw [ByteArray.toList_eq, ByteArray.toList_eq]
  by_cases h : p = q
  · subst h; simp
  · rw [decide_eq_false h, beq_eq_false_iff_ne]
    exact fun e => h (ba_ext e)

set_option maxHeartbeats 1000000 in
theorem find_any (v : Value) (l : List Lf) (p : ByteArray) (w : World) (hv : LeafRow w v l) :
    Calls Tryd.prog 12 #[v, .string p] w fun e w' => e = .returned (.tuple #[.string ((findS l p).getD ByteArray.empty), .bool (findS l p).isSome]) ∧ w' = w := by
  obtain ⟨ao, cap, rfl, hmax, hv⟩ := hv.open
  unfold maxLen at hmax
  go_enter Tryd.func12, Tryd.ntmps12
  go_wp2
  go_loopw [6] (fun i wr => ∃ k : Nat, k ≤ l.length ∧ i = .int .i64 k ∧ Hid (findS (l.drop k) p = findS l p) ∧ wr = w) (fun i _ => (l.length - intOf i).toNat)
  case atStart => exact ⟨0, by omega, rfl, rfl, rfl⟩
  case round =>
    obtain ⟨k, hk, rfl, hf, rfl⟩ := hrel
    by_cases hlt : k < l.length
    · obtain ⟨b, off, rfl, hbl, hcell⟩ := hv (by intro e; rw [e] at hlt; simp at hlt)
      obtain ⟨c1, c2⟩ := hcell k hlt
      have hs := findS_step l p k hlt
      rw [hf.out] at hs
      generalize l[k].1 = q at c1 hs
      generalize l[k].2 = t at c2 hs
      have hb := ba_beq q p
      by_cases e : q = p
      · rw [if_pos e] at hs
        subst e
        simp only [decide_true] at hb
        have HF := Lib.hid (hs : findS l q = some t)
        clear hcell hf hs
        go_wp2
        go_ret2
        exact ⟨by rw [HF.out]; rfl, rfl⟩
      · rw [if_neg e] at hs
        rw [decide_eq_false e] at hb
        have HS := Lib.hid hs
        clear hcell hf hs
        go_wp2
        go_roundw
        case rel => exact ⟨k + 1, by omega, by go_num, HS.out.symm, by simp⟩
        case measure => simp [intOf]; omega
    · obtain rfl : k = l.length := by omega
      have hs : findS l p = none := by rw [← hf.out]; simp [findS]
      have HS := Lib.hid hs
      clear hf hs
      go_wp2
      go_ret2
      exact ⟨by rw [HS.out]; rfl, rfl⟩

/-- Are there more files, or longer ones, than are looked at? -/
def grGo : List Lf → Nat → Bool
  | [], _ => false
  | f :: l, n => decide (12000 < n + f.2.size) || decide (300 < f.1.size) || grGo l (n + f.2.size)
def gr26 (l : List Lf) : Bool := decide (320 < l.length) || grGo l 0
def gr27 (l : List Lf) : Bool := decide (60 < l.length) || gr26 l
theorem grGo_step (l : List Lf) (n k : Nat) (h : k < l.length) : grGo (l.drop k) n = (decide (12000 < n + l[k].2.size) || decide (300 < l[k].1.size) || grGo (l.drop (k + 1)) (n + l[k].2.size)) := by
  rw [List.drop_eq_getElem_cons h]; rfl

set_option maxHeartbeats 1000000 in
theorem great26_any (v : Value) (l : List Lf) (w : World) (hz : ∀ f ∈ l, f.2.size ≤ 1000000000000000) (hv : LeafRow w v l) :
    Calls Tryd.prog 13 #[v] w fun e w' => e = .returned (.bool (gr26 l)) ∧ Below w.heap.size w w' := by
  obtain ⟨ao, cap, rfl, hmax, hv⟩ := hv.open
  unfold maxLen at hmax
  have HZ := Lib.hid hz
  clear hz
  by_cases hg : 320 < l.length
  · go_enter Tryd.func13, Tryd.ntmps13
    go_wp2
    go_ret
    exact ⟨by unfold gr26; rw [decide_eq_true hg]; rfl, Below.refl _ _⟩
  · have hgl := decide_eq_false hg
    have HG := Lib.hid hgl
    go_enter Tryd.func13, Tryd.ntmps13
    go_wp2
    go_loopw [3, 4] (fun n i wr => ∃ k m : Nat, k ≤ l.length ∧ i = .int .i64 k ∧ n = .int .i64 m ∧ m ≤ 12000 ∧ Hid (grGo (l.drop k) m = grGo l 0) ∧ Below w.heap.size w wr) (fun _ i _ => (l.length - intOf i).toNat)
    case atStart => exact ⟨0, 0, by omega, rfl, rfl, by omega, rfl, Below.refl _ _⟩
    case round =>
      obtain ⟨k, m, hk, rfl, rfl, hm, hf, hb⟩ := hrel
      by_cases hlt : k < l.length
      · obtain ⟨b, off, rfl, hbl, hcell⟩ := hv (by intro e; rw [e] at hlt; simp at hlt)
        obtain ⟨c1, c2⟩ := hcell k hlt
        have hs := grGo_step l m k hlt
        rw [hf.out] at hs
        have c1' := below_load c1 hb hbl
        have c2' := below_load c2 hb hbl
        have hzt := HZ.out l[k] (List.getElem_mem hlt)
        clear hcell c1 c2 hf
        generalize l[k].1 = q at c1' hs hzt
        generalize l[k].2 = t at c2' hs hzt
        have hwr : IntKind.i64.wrap ((m : Int) + t.size) = (m : Int) + t.size := IntWalk.i64_in _ (by omega)
        by_cases h1 : 12000 < m + t.size
        · rw [decide_eq_true h1] at hs
          have HS := Lib.hid hs
          have h1' : (12000 : Int) < (m : Int) + t.size := by omega
          clear hs
          go_wp2
          go_ret
          exact ⟨by unfold gr26; rw [HG.out, HS.out]; rfl, hb⟩
        · rw [decide_eq_false h1] at hs
          have h1' : decide ((12000 : Int) < (m : Int) + t.size) = false := decide_eq_false (by omega)
          by_cases h2 : 300 < q.size
          · rw [decide_eq_true h2] at hs
            have HS := Lib.hid hs
            have h2' : (300 : Int) < q.size := by omega
            clear hs
            go_wp2
            go_ret
            exact ⟨by unfold gr26; rw [HG.out, HS.out]; rfl, hb⟩
          · rw [decide_eq_false h2] at hs
            have HS := Lib.hid hs
            have h2' : decide ((300 : Int) < q.size) = false := decide_eq_false (by omega)
            clear hs
            go_wp2
            go_roundw
            case rel => exact ⟨k + 1, m + t.size, by omega, by go_num, by go_num, by omega, by rw [HS.out]; rfl, hb⟩
            case measure => simp [intOf]; omega
      · obtain rfl : k = l.length := by omega
        have hs : grGo l 0 = false := by rw [← hf.out]; simp [grGo]
        have HS := Lib.hid hs
        clear hf hs
        go_wp2
        go_ret
        exact ⟨by unfold gr26; rw [HG.out, HS.out]; rfl, hb⟩
end Go.Proofs.YtodnfcbecojieaaDoor
