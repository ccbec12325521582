/- YtbmiiiccnoiffaaGreatDoorR9: texts JJ of this claim, in one. -/
import Derived.Laws.Concat
import Derived.Laws.Cover1
import Derived.Laws.Strings
import Derived.Laws.Strings2
import Derived.Laws.Strings3
import Derived.Lib.SplitLaws
import Derived.Sort.Statements
import Derived.Test.YtbmiiiccnoiffaaGreatDoorChecked
import Derived.Test.YtbmiiiccnoiffaaGreatDoorR2
namespace Go.Proofs.YtbmiiiccnoiffaaGreatDoor
open Go Go.Sort

abbrev Lf := ByteArray × ByteArray
/-- The first file of a path. -/
def findS (l : List Lf) (p : ByteArray) : Option ByteArray := (l.find? fun f => decide (f.1 = p)).map (·.2)
def kindS (a b : List Lf) (p : ByteArray) : Nat := match findS a p, findS b p with
  | none, _ => 1
  | some _, none => 2
  | some s, some t => if s = t then 0 else 3
end Go.Proofs.YtbmiiiccnoiffaaGreatDoor

namespace Go.Proofs.YtbmiiiccnoiffaaGreatDoor
open Go.RowKit

theorem StrRow.below {w w' : World} {v : Value} {ss : List ByteArray} (h : StrRow w v ss) (hb : Below w.heap.size w w') : StrRow w' v ss := by
  obtain ⟨ao, cap, rfl, hm, h⟩ := h
  refine ⟨ao, cap, rfl, hm, fun hne => ?_⟩
  obtain ⟨b, off, e, hl, hc⟩ := h hne
  exact ⟨b, off, e, Nat.lt_of_lt_of_le hl hb.size, fun i hi => by rw [hb.cell (p := ⟨b, off + i, none⟩) hl]; exact hc i hi⟩
theorem StrRow.of_own {w : World} {B : Nat} {e : TypeId} {v : Value} {o : List ByteArray} (h : w.ownsRow B e 1 v o.length (o.map Value.string)) : StrRow w v o := by
  rcases h.2 with ⟨h1, h2⟩ | ⟨g, cap, cur, hv, hg, hh, hn, hm, hc, ht⟩
  · obtain rfl := List.eq_nil_of_length_eq_zero h2
    exact ⟨none, 0, h1, by simp, fun h => absurd rfl h⟩
  · refine ⟨some ⟨g, 0, none⟩, cap, hv, Nat.le_trans hn hm, fun _ => ⟨g, 0, rfl, (Array.getElem?_eq_some_iff.1 hh).1, fun i hi => ?_⟩⟩
    have := h.cells (g := g) (by rw [hv]; rfl) i (.string o[i]) (by simp [hi])
    rw [Addr.add_mid] at this
    exact this
theorem StrRow.nil (w : World) : StrRow w (.slice none 0 0) [] := ⟨none, 0, rfl, by simp, fun h => absurd rfl h⟩

def leafC (f : Lf) : List Value := [.string f.1, .string f.2]
def apC (f : ByteArray × Nat) : List Value := [.string f.1, .int .i64 f.2]
def LeafRow (w : World) (v : Value) (l : List Lf) : Prop := RowOf w v 2 (l.map leafC)
def ApRow (w : World) (v : Value) (l : List (ByteArray × Nat)) : Prop := RowOf w v 2 (l.map apC)
theorem LeafRow.below {w w' : World} {v : Value} {l : List Lf} (h : LeafRow w v l) (hb : Below w.heap.size w w') : LeafRow w' v l := RowOf.below h hb
theorem ApRow.below {w w' : World} {v : Value} {l : List (ByteArray × Nat)} (h : ApRow w v l) (hb : Below w.heap.size w w') : ApRow w' v l := RowOf.below h hb

/-- A slice of files, cell by cell. -/
theorem LeafRow.open {w : World} {v : Value} {l : List Lf} (h : LeafRow w v l) : ∃ ao cap, v = .slice ao l.length cap ∧ l.length ≤ maxLen ∧ (l ≠ [] → ∃ b off, ao = some ⟨b, off, none⟩ ∧ b < w.heap.size ∧ ∀ k (hk : k < l.length), w.cell? ⟨b, off + k * 2, none⟩ = some (.string l[k].1) ∧ w.cell? ⟨b, off + k * 2 + 1, none⟩ = some (.string l[k].2)) := by
  obtain ⟨ao, cap, rfl, hm, h⟩ := h
  rw [List.length_map] at hm ⊢
  refine ⟨ao, cap, rfl, hm, fun hne => ?_⟩
  obtain ⟨b, off, e, hl, hc⟩ := h (by simpa using hne)
  refine ⟨b, off, e, hl, fun k hk => ?_⟩
  have := hc k (by simpa using hk)
  rw [List.getElem_map] at this
  exact ⟨this 0 _ rfl, this 1 _ rfl⟩
theorem ApRow.open {w : World} {v : Value} {l : List (ByteArray × Nat)} (h : ApRow w v l) : ∃ ao cap, v = .slice ao l.length cap ∧ l.length ≤ maxLen ∧ (l ≠ [] → ∃ b off, ao = some ⟨b, off, none⟩ ∧ b < w.heap.size ∧ ∀ k (hk : k < l.length), w.cell? ⟨b, off + k * 2, none⟩ = some (.string l[k].1) ∧ w.cell? ⟨b, off + k * 2 + 1, none⟩ = some (.int .i64 l[k].2)) := by
  obtain ⟨ao, cap, rfl, hm, h⟩ := h
  rw [List.length_map] at hm ⊢
  refine ⟨ao, cap, rfl, hm, fun hne => ?_⟩
  obtain ⟨b, off, e, hl, hc⟩ := h (by simpa using hne)
  refine ⟨b, off, e, hl, fun k hk => ?_⟩
  have := hc k (by simpa using hk)
  rw [List.getElem_map] at this
  exact ⟨this 0 _ rfl, this 1 _ rfl⟩

end Go.Proofs.YtbmiiiccnoiffaaGreatDoor

namespace Go.Proofs.YtbmiiiccnoiffaaGreatDoor
open Go.RowKit
end Go.Proofs.YtbmiiiccnoiffaaGreatDoor
