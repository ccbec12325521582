/-
  DERIVED. GIVEN WITH THE SEED: THE CARDS: each row of YtmhjpmenngjmeaaGreatDoorRows.lean that lists a variable, with what it lists TIED to the program's text (the seventh form; the later family's looks); each row that meets fmt, with fmt's text TOLD by the authors' own Lean function (tested against real Go, not proved from fmt's source: count such statements apart). THE CARD IS WHAT COUNTS. Prove the row's statement (the work); the ties are given (YtmhjpmenngjmeaaGreatDoorTie.lean); close each card by the builder's one call (the guide's Derived/Test/ToyasCard.lean, 'card_holds'). Laid BY PROGRAM, IN A SANDBOX (cutbox-door.mjs). By AI agents, Wed Nov 11 2026. No macro, syntax, notation, axiom, sorry.
-/
import Derived.Test.YtmhjpmenngjmeaaGreatDoorRows
import GoSem.ClaimSeven
namespace Go.Proofs.YtmhjpmenngjmeaaGreatDoor
namespace Rows

/-- THE TIED CARD OF 'sedimentlaw26.PathBuilds'. -/
def pathBuildsCard : Claim7 := { stood := { row := pathBuildsRow, standIns := [], harness := (true, "f66571f4f55aa8756da49c9196ccac1ceb459a645759a1c782d5583d26b994c8"), looks := false }, kinds := [], alts := [], laidByText := true, laidKinds := [.data, .data, .data, .pinned], laidTests := true, laidLooks := .later }
def PathBuildsCardSaid : Prop := Claim7.holds Tryz.pinned (.plain (OpenSpec.ofChange pathBuildsSpec)) pathBuildsCard

/-- THE SECOND FORM's CARD OF 'sedimentlaw26.PathBuilds'. -/
def pathBuildsUptoCard : Claim7 := { stood := { row := pathBuildsUptoRow, standIns := [], harness := (true, "f66571f4f55aa8756da49c9196ccac1ceb459a645759a1c782d5583d26b994c8"), looks := false }, kinds := [], alts := [], laidByText := true, laidKinds := [.data, .data, .data, .pinned], laidTests := true, laidLooks := .later }
def PathBuildsUptoCardSaid : Prop := Claim7.holds Tryz.pinned (.plain (OpenSpec.upto pathBuildsSpec)) pathBuildsUptoCard
end Rows
end Go.Proofs.YtmhjpmenngjmeaaGreatDoor
