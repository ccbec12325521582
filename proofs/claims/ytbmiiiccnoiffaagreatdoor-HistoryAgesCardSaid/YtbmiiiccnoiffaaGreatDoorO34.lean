/- YtbmiiiccnoiffaaGreatDoorO34: texts KL of this claim, in one. -/
import Derived.Test.YtbmiiiccnoiffaaGreatDoorO23
import Derived.Test.YtbmiiiccnoiffaaGreatDoorO30
namespace Go.Proofs.YtbmiiiccnoiffaaGreatDoor
open Go.RowKit
section
variable {P : Program} {w : World} {ops : Array Oper} {rest : List Oper} {o : Oper} {a : Act} {Q : Exit → Act → World → Prop}
end
theorem idRow_own {w : World} {B : Nat} {v : Value} {l : List Idl} (h : OwnQ w B 32 v l.length (idsF l)) (hl : ∀ x ∈ l, x.length = 32) : IdRow w v l ∧ CapI v := by
  refine ⟨h.row hl, fun ao n c e => ?_⟩
  rcases h.2 with ⟨rfl, _⟩ | ⟨g, off, cap, rfl, _, _, hn, _⟩
  · cases e; exact Nat.le_refl _
  · cases e; exact hn
/-- The first is cut off a row. -/
theorem IdRow.cut {w : World} {v : Value} {x : Idl} {l : List Idl} (h : IdRow w v (x :: l)) (hcap : CapI v) : ∃ g off cap, v = .slice (some ⟨g, off, none⟩) (l.length + 1) (cap + 1) ∧ g < w.heap.size ∧ l.length ≤ cap ∧ l.length + 1 ≤ maxLen ∧ w.rangeAt g off (idC x) ∧ ∀ p, p = (if cap = 0 then (⟨g, off, none⟩ : Addr) else ⟨g, off + 32, none⟩) → IdRow w (.slice (some p) l.length cap) l ∧ CapI (.slice (some p) l.length cap) := by
  obtain ⟨ao, cap, rfl, hm, h⟩ := h.open
  obtain ⟨g, off, rfl, hg, hc⟩ := h (by simp)
  have hnc := hcap _ _ _ rfl
  rw [List.length_cons] at hnc hm
  obtain ⟨cap, rfl⟩ : ∃ c, cap = c + 1 := ⟨cap - 1, by omega⟩
  refine ⟨g, off, cap, rfl, hg, by omega, hm, by
    have := hc 0 (by simp)
    rwa [Nat.zero_mul, Nat.add_zero] at this, fun p hp => ⟨⟨some p, cap, by rw [List.length_map], by rw [List.length_map]; omega, fun hne => ?_⟩, fun _ _ _ e => by cases e; omega⟩⟩
  have hl0 : l ≠ [] := by simpa using hne
  have hpos : 0 < l.length := List.length_pos_iff.2 hl0
  rw [if_neg (by omega)] at hp
  refine ⟨g, off + 32, by rw [hp], hg, fun i hi => ?_⟩
  rw [List.length_map] at hi
  have := hc (i + 1) (by simp; omega)
  rw [List.getElem_map, show off + 32 + i * 32 = off + (i + 1) * 32 from by omega]
  exact this
end Go.Proofs.YtbmiiiccnoiffaaGreatDoor
