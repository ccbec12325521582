/-
  DERIVED. GIVEN WITH THE SEED: THE CARDS: each row of YtodnfcbecojieaaDoorRows.lean that lists a variable, with what it lists TIED to the program's text (the seventh form; the later family's looks); each row that meets fmt, with fmt's text TOLD by the authors' own Lean function (tested against real Go, not proved from fmt's source: count such statements apart). THE CARD IS WHAT COUNTS. Prove the row's statement (the work); the ties are given (YtodnfcbecojieaaDoorTie.lean); close each card by the builder's one call (the guide's Derived/Test/ToyasCard.lean, 'card_holds'). Laid BY PROGRAM, IN A SANDBOX (cutbox-door.mjs). By AI agents, Wed Nov 11 2026. No macro, syntax, notation, axiom, sorry.
-/
import Derived.Test.YtodnfcbecojieaaDoorRows
import GoSem.ClaimSeven
namespace Go.Proofs.YtodnfcbecojieaaDoor
namespace Rows

/-- THE TIED CARD OF 'sedimentlaw27.DiffFiles'. -/
def diffFilesCard : Claim7 := { stood := { row := diffFilesRow, standIns := [], harness := (true, "a53a258f6e670b4e897c3d02ffda5608776fc52e14c6469fd2a33dd5025a1b64"), looks := false }, kinds := [], alts := [], laidByText := true, laidKinds := [.data, .pinned], laidTests := true, laidLooks := .later }
def DiffFilesCardSaid : Prop := Claim7.holds Tryd.pinned (.plain (OpenSpec.ofChange diffFilesSpec)) diffFilesCard

/-- THE TIED CARD OF 'sedimentlaw27.DiffBack'. -/
def diffBackCard : Claim7 := { stood := { row := diffBackRow, standIns := [], harness := (true, "a53a258f6e670b4e897c3d02ffda5608776fc52e14c6469fd2a33dd5025a1b64"), looks := false }, kinds := [], alts := [], laidByText := true, laidKinds := [.data, .pinned], laidTests := true, laidLooks := .later }
def DiffBackCardSaid : Prop := Claim7.holds Tryd.pinned (.plain (OpenSpec.ofChange diffBackSpec)) diffBackCard

/-- THE SECOND FORM's CARD OF 'sedimentlaw27.DiffFiles'. -/
def diffFilesUptoCard : Claim7 := { stood := { row := diffFilesUptoRow, standIns := [], harness := (true, "a53a258f6e670b4e897c3d02ffda5608776fc52e14c6469fd2a33dd5025a1b64"), looks := false }, kinds := [], alts := [], laidByText := true, laidKinds := [.data, .pinned], laidTests := true, laidLooks := .later }
def DiffFilesUptoCardSaid : Prop := Claim7.holds Tryd.pinned (.plain (OpenSpec.upto diffFilesSpec)) diffFilesUptoCard

/-- THE SECOND FORM's CARD OF 'sedimentlaw27.DiffBack'. -/
def diffBackUptoCard : Claim7 := { stood := { row := diffBackUptoRow, standIns := [], harness := (true, "a53a258f6e670b4e897c3d02ffda5608776fc52e14c6469fd2a33dd5025a1b64"), looks := false }, kinds := [], alts := [], laidByText := true, laidKinds := [.data, .pinned], laidTests := true, laidLooks := .later }
def DiffBackUptoCardSaid : Prop := Claim7.holds Tryd.pinned (.plain (OpenSpec.upto diffBackSpec)) diffBackUptoCard
end Rows
end Go.Proofs.YtodnfcbecojieaaDoor
