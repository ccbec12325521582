/-
  No cell of these rows narrows 'for every input' (looked for: loops, veiled, ifaces, maps, wideKeys, modest, calm, conditions, laid).
  DERIVED. THE GIVEN ROWS OF THIS SEAT. 5 by the template 'for every input the law returns true; each argument reads behind the call as it read before'; 0 by the template 'total and deterministic' (their statements: YtjgmfhfncphbnaaTotals.lean).
  GIVEN WITH THE SEED: the statements are not yours to turn. If you find one false, say at which input.
  Laid BY PROGRAM, IN A SANDBOX (cutbox-rows.mjs): the forced cells as the released guide's own fill.sh prints them over the translation f42026928b6a2c31… (all of the seat's roots in one cut). By AI agents, Wed Nov 11 2026. No macro, syntax, notation, axiom, sorry.
-/
import Derived.Test.YtjgmfhfncphbnaaChecked
import GoSem.Claim
import GoSem.ClaimJoined
import GoSem.ClaimMapViews
import Derived.JoinedTies
import Derived.KernelRfl
namespace Go.Proofs.Ytjgmfhfncphbnaa
/- THE CELL 'sum', in the pinned program and in every row, IS THE sha256 OF THE DUMP (.gsa) THAT YtjgmfhfncphbnaaProg.lean LOADS. Nothing in Lean hashes anything: it is a label: what it is worth is what the hold of that sum in a sandbox is worth. -/
noncomputable def Try.pinned : Pinned := { name := "ytjgmfhfncphbnaa", sum := "f42026928b6a2c3156bed90b397e3fb3416a76ed4720e23f5832698603b79af6", checked := Try.checked }
namespace Rows
def none {H : Type} : Left H := { results := [], args := [] }

/-- 'sedimentlaw05.SketchOf': WHATEVER THE INPUT: true; the input reads as it did. -/
def sketchOfSpec : ChangeSpec := { name := "sketchOf", fn := fun _ => fun
  | [d] => { results := [.lit (.bool true)], args := [d] }
  | _ => none }
def sketchOfRow : OpenClaim := { program := "ytjgmfhfncphbnaa", sum := "f42026928b6a2c3156bed90b397e3fb3416a76ed4720e23f5832698603b79af6", func := "sediment/sedimentlaw05.SketchOf", spec := "sketchOf", apart := false }
def SketchOfSaid : Prop := sketchOfRow.holds Try.pinned (OpenSpec.ofChange sketchOfSpec)

/-- ITS FALSE NEIGHBOUR: 'it returns false'. Refute it at one input. -/
def sketchOfWrong : ChangeSpec := { name := "sketchOf", fn := fun _ => fun
  | [d] => { results := [.lit (.bool false)], args := [d] }
  | _ => none }
def SketchOfWrongFalsely : Prop := sketchOfRow.holds Try.pinned (OpenSpec.ofChange sketchOfWrong)

/-- 'sedimentlaw05.SketchNear': WHATEVER THE INPUT: true; the input reads as it did. -/
def sketchNearSpec : ChangeSpec := { name := "sketchNear", fn := fun _ => fun
  | [d1, d2] => { results := [.lit (.bool true)], args := [d1, d2] }
  | _ => none }
def sketchNearRow : OpenClaim := { program := "ytjgmfhfncphbnaa", sum := "f42026928b6a2c3156bed90b397e3fb3416a76ed4720e23f5832698603b79af6", func := "sediment/sedimentlaw05.SketchNear", spec := "sketchNear", apart := false }
def SketchNearSaid : Prop := sketchNearRow.holds Try.pinned (OpenSpec.ofChange sketchNearSpec)

/-- ITS FALSE NEIGHBOUR: 'it returns false'. Refute it at one input. -/
def sketchNearWrong : ChangeSpec := { name := "sketchNear", fn := fun _ => fun
  | [d1, d2] => { results := [.lit (.bool false)], args := [d1, d2] }
  | _ => none }
def SketchNearWrongFalsely : Prop := sketchNearRow.holds Try.pinned (OpenSpec.ofChange sketchNearWrong)

/-- 'sedimentlaw05.SketchFar': WHATEVER THE INPUT: true; the input reads as it did. -/
def sketchFarSpec : ChangeSpec := { name := "sketchFar", fn := fun _ => fun
  | [d1, d2, d3] => { results := [.lit (.bool true)], args := [d1, d2, d3] }
  | _ => none }
def sketchFarRow : OpenClaim := { program := "ytjgmfhfncphbnaa", sum := "f42026928b6a2c3156bed90b397e3fb3416a76ed4720e23f5832698603b79af6", func := "sediment/sedimentlaw05.SketchFar", spec := "sketchFar", apart := false }
def SketchFarSaid : Prop := sketchFarRow.holds Try.pinned (OpenSpec.ofChange sketchFarSpec)

/-- ITS FALSE NEIGHBOUR: 'it returns false'. Refute it at one input. -/
def sketchFarWrong : ChangeSpec := { name := "sketchFar", fn := fun _ => fun
  | [d1, d2, d3] => { results := [.lit (.bool false)], args := [d1, d2, d3] }
  | _ => none }
def SketchFarWrongFalsely : Prop := sketchFarRow.holds Try.pinned (OpenSpec.ofChange sketchFarWrong)

/-- 'sedimentlaw05.SketchOrder': WHATEVER THE INPUT: true; the input reads as it did. -/
def sketchOrderSpec : ChangeSpec := { name := "sketchOrder", fn := fun _ => fun
  | [d] => { results := [.lit (.bool true)], args := [d] }
  | _ => none }
def sketchOrderRow : OpenClaim := { program := "ytjgmfhfncphbnaa", sum := "f42026928b6a2c3156bed90b397e3fb3416a76ed4720e23f5832698603b79af6", func := "sediment/sedimentlaw05.SketchOrder", spec := "sketchOrder", apart := false }
def SketchOrderSaid : Prop := sketchOrderRow.holds Try.pinned (OpenSpec.ofChange sketchOrderSpec)

/-- ITS FALSE NEIGHBOUR: 'it returns false'. Refute it at one input. -/
def sketchOrderWrong : ChangeSpec := { name := "sketchOrder", fn := fun _ => fun
  | [d] => { results := [.lit (.bool false)], args := [d] }
  | _ => none }
def SketchOrderWrongFalsely : Prop := sketchOrderRow.holds Try.pinned (OpenSpec.ofChange sketchOrderWrong)

/-- 'sedimentlaw05.SketchPlus': WHATEVER THE INPUT: true; the input reads as it did. -/
def sketchPlusSpec : ChangeSpec := { name := "sketchPlus", fn := fun _ => fun
  | [d1, d2] => { results := [.lit (.bool true)], args := [d1, d2] }
  | _ => none }
def sketchPlusRow : OpenClaim := { program := "ytjgmfhfncphbnaa", sum := "f42026928b6a2c3156bed90b397e3fb3416a76ed4720e23f5832698603b79af6", func := "sediment/sedimentlaw05.SketchPlus", spec := "sketchPlus", apart := false }
def SketchPlusSaid : Prop := sketchPlusRow.holds Try.pinned (OpenSpec.ofChange sketchPlusSpec)

/-- ITS FALSE NEIGHBOUR: 'it returns false'. Refute it at one input. -/
def sketchPlusWrong : ChangeSpec := { name := "sketchPlus", fn := fun _ => fun
  | [d1, d2] => { results := [.lit (.bool false)], args := [d1, d2] }
  | _ => none }
def SketchPlusWrongFalsely : Prop := sketchPlusRow.holds Try.pinned (OpenSpec.ofChange sketchPlusWrong)

/- THE SECOND FORM. 'bulk': how many values and letters a reading holds, each counted each time it is reached (what is shared counts as often as it is met; a slice's spare places count too). A statement '..UptoSaid' is the law's where the arguments, and the package variables that the reading takes, are together of bulk at most 1048576: NARROWER than '..Said'. Prove '..Said' where nothing that the law and all that it calls make is longer than what came in: it says more and counts as full. Else prove '..UptoSaid'. A law counts once. -/
mutual
def uptoBulk {H : Type} : DataW H → Nat
  | .lit (.string bytes) => bytes.length + 1
  | .lit _ => 1
  | .nil => 1
  | .ptr d => uptoBulk d + 1
  | .slice elems spare => uptoBulkAll elems + uptoBulkAll spare + 1
  | .agg parts => uptoBulkAll parts + 1
  | .iface _ d => uptoBulk d + 1
  | .map entries => uptoBulkEntries entries + 1
  | .held _ => 1
def uptoBulkAll {H : Type} : List (DataW H) → Nat
  | [] => 0
  | d :: r => uptoBulk d + uptoBulkAll r
def uptoBulkEntries {H : Type} : List (Lit × DataW H) → Nat
  | [] => 0
  | x :: r => uptoBulkEntry x + uptoBulkEntries r
def uptoBulkEntry {H : Type} : Lit × DataW H → Nat
  | (.string bytes, d) => bytes.length + uptoBulk d + 1
  | (_, d) => uptoBulk d + 1
 end
def uptoSmall : (H : Type) → List (DataW H) → Bool := fun _ ds => decide (uptoBulkAll ds ≤ 1048576)
def OpenSpec.upto (s : _root_.Go.ChangeSpec) : _root_.Go.OpenSpec := { _root_.Go.OpenSpec.ofChange s with cond := some uptoSmall }

/-- 'sedimentlaw05.SketchOf', WHERE WHAT IT READS IS OF BULK AT MOST 1048576: true; the input reads as it did. -/
def sketchOfUptoRow : OpenClaim := { program := "ytjgmfhfncphbnaa", sum := "f42026928b6a2c3156bed90b397e3fb3416a76ed4720e23f5832698603b79af6", func := "sediment/sedimentlaw05.SketchOf", spec := "sketchOf", apart := false, narrowed := true }
def SketchOfUptoSaid : Prop := sketchOfUptoRow.holds Try.pinned (OpenSpec.upto sketchOfSpec)

/-- 'sedimentlaw05.SketchNear', WHERE WHAT IT READS IS OF BULK AT MOST 1048576: true; the input reads as it did. -/
def sketchNearUptoRow : OpenClaim := { program := "ytjgmfhfncphbnaa", sum := "f42026928b6a2c3156bed90b397e3fb3416a76ed4720e23f5832698603b79af6", func := "sediment/sedimentlaw05.SketchNear", spec := "sketchNear", apart := false, narrowed := true }
def SketchNearUptoSaid : Prop := sketchNearUptoRow.holds Try.pinned (OpenSpec.upto sketchNearSpec)

/-- 'sedimentlaw05.SketchFar', WHERE WHAT IT READS IS OF BULK AT MOST 1048576: true; the input reads as it did. -/
def sketchFarUptoRow : OpenClaim := { program := "ytjgmfhfncphbnaa", sum := "f42026928b6a2c3156bed90b397e3fb3416a76ed4720e23f5832698603b79af6", func := "sediment/sedimentlaw05.SketchFar", spec := "sketchFar", apart := false, narrowed := true }
def SketchFarUptoSaid : Prop := sketchFarUptoRow.holds Try.pinned (OpenSpec.upto sketchFarSpec)

/-- 'sedimentlaw05.SketchOrder', WHERE WHAT IT READS IS OF BULK AT MOST 1048576: true; the input reads as it did. -/
def sketchOrderUptoRow : OpenClaim := { program := "ytjgmfhfncphbnaa", sum := "f42026928b6a2c3156bed90b397e3fb3416a76ed4720e23f5832698603b79af6", func := "sediment/sedimentlaw05.SketchOrder", spec := "sketchOrder", apart := false, narrowed := true }
def SketchOrderUptoSaid : Prop := sketchOrderUptoRow.holds Try.pinned (OpenSpec.upto sketchOrderSpec)

/-- 'sedimentlaw05.SketchPlus', WHERE WHAT IT READS IS OF BULK AT MOST 1048576: true; the input reads as it did. -/
def sketchPlusUptoRow : OpenClaim := { program := "ytjgmfhfncphbnaa", sum := "f42026928b6a2c3156bed90b397e3fb3416a76ed4720e23f5832698603b79af6", func := "sediment/sedimentlaw05.SketchPlus", spec := "sketchPlus", apart := false, narrowed := true }
def SketchPlusUptoSaid : Prop := sketchPlusUptoRow.holds Try.pinned (OpenSpec.upto sketchPlusSpec)

end Rows
end Go.Proofs.Ytjgmfhfncphbnaa
