/- YtbmiiiccnoiffaaGreatDoorR18: texts D6 of this claim, in one. -/
import Derived.Maps.OwnOps
import Derived.Maps.OwnSet
import Derived.Maps.RangeWalk
import Derived.Maps.StringElems
import Derived.Sort.KeysCollected
import Derived.Test.YtbmiiiccnoiffaaGreatDoorR12
namespace Go.Proofs.YtbmiiiccnoiffaaGreatDoor
open Go.RowKit Go.Maps
set_option maxRecDepth 100000
/-- The map is known: what it holds at each text. -/
def Says (D : DataW Unit) (f : ByteArray → Option ByteArray) : Prop :=
  ∀ p, Maps.has D (.string p.data.toList) = (f p).isSome ∧ ∀ s, f p = some s → ∀ zd, D.atKey (.string p.data.toList) zd = .lit (.string s.data.toList)
/-- Block b holds a map of texts. -/
def StrMap (w : World) (b n : Nat) (f : ByteArray → Option ByteArray) : Prop := ∃ D : DataW Unit, w.ownsMap Tryz.prog 9 (plainElem Tryz.prog 9) b n D ∧ Says D f
theorem StrMap.below {w w' : World} {b n B : Nat} {f : ByteArray → Option ByteArray} (h : StrMap w b n f) (hb : Below B w w') (hB : b < B) : StrMap w' b n f := by
  obtain ⟨D, ⟨es, clock, h1, h2⟩, h3⟩ := h
  exact ⟨D, ⟨es, clock, (hb.block b hB).trans h1, h2⟩, h3⟩
theorem StrMap.lt {w : World} {b n : Nat} {f : ByteArray → Option ByteArray} (h : StrMap w b n f) : b < w.heap.size := by obtain ⟨D, h, _⟩ := h; exact h.lt

end Go.Proofs.YtbmiiiccnoiffaaGreatDoor
