/- YtbmiiiccnoiffaaGreatDoorE27: texts JK of this claim, in one. -/
import Derived.ChangeOld
import Derived.Deep.SlicePairs
import Derived.LaidLaws
import Derived.LaidMore
import Derived.ProofKit
import Derived.Shelf.Vars
import Derived.SizedLaws
import Derived.Sort.OwnSorted
import Derived.Test.YtbmiiiccnoiffaaGreatDoorE11
namespace Go.Proofs.YtbmiiiccnoiffaaGreatDoor
open Go.RowKit Go.Maps Go.Sort Go.Shelf
set_option maxRecDepth 100000
end Go.Proofs.YtbmiiiccnoiffaaGreatDoor

namespace Go.Proofs.YtbmiiiccnoiffaaGreatDoor
open Go.RowKit Go.Maps Go.Sort
set_option maxRecDepth 100000
end Go.Proofs.YtbmiiiccnoiffaaGreatDoor

namespace Go.Proofs.YtbmiiiccnoiffaaGreatDoor
open Go.RowKit Go.Maps Go.Sort
set_option maxRecDepth 100000
theorem StrMap.mono {w:World} {b n m:Nat} {f:ByteArray → Option ByteArray} (h:StrMap w b n f) (hn:n ≤ m):StrMap w b m f:=by
 obtain ⟨D,h1,h2⟩:=h
 exact ⟨D,h1.mono hn,h2⟩
def two {α:Type} (x y:α) (i:Nat):α:=if i = 0 then x else y
end Go.Proofs.YtbmiiiccnoiffaaGreatDoor

namespace Go.Proofs.YtbmiiiccnoiffaaGreatDoor
open Go.RowKit
set_option maxRecDepth 100000
end Go.Proofs.YtbmiiiccnoiffaaGreatDoor

namespace Go.Proofs.YtbmiiiccnoiffaaGreatDoor
open Go.RowKit Go.ChangeShapes Go.WideShapes
end Go.Proofs.YtbmiiiccnoiffaaGreatDoor
