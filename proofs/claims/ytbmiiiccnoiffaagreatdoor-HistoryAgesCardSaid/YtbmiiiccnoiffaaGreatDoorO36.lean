/- YtbmiiiccnoiffaaGreatDoorO36: texts K3 of this claim, in one. -/
import Derived.Test.YtbmiiiccnoiffaaGreatDoorO25
import Derived.Test.YtbmiiiccnoiffaaGreatDoorO34
namespace Go.Proofs.YtbmiiiccnoiffaaGreatDoor
open Go.RowKit
theorem OwnQ.lt0 {w : World} {B sz n : Nat} {v : Value} {xs : List Value} (h : OwnQ w B sz v n xs) : ∀ k, v.ownBlock = some k → B ≤ k ∧ k < w.heap.size := fun k hk => by
  rcases h.2 with ⟨rfl, _⟩ | ⟨g, off, cap, rfl, hB, hg, _⟩
  · cases hk
  · cases hk; exact ⟨hB, hg⟩
end Go.Proofs.YtbmiiiccnoiffaaGreatDoor
