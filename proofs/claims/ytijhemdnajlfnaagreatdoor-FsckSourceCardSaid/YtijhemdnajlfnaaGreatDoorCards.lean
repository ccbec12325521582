/-
  DERIVED. GIVEN WITH THE SEED: THE CARDS: each row of YtijhemdnajlfnaaGreatDoorRows.lean that lists a variable, with what it lists TIED to the program's text (the seventh form; the later family's looks); each row that meets fmt, with fmt's text TOLD by the authors' own Lean function (tested against real Go, not proved from fmt's source: count such statements apart). THE CARD IS WHAT COUNTS. Prove the row's statement (the work); the ties are given (YtijhemdnajlfnaaGreatDoorTie.lean); close each card by the builder's one call (the guide's Derived/Test/ToyasCard.lean, 'card_holds'). Laid BY PROGRAM, IN A SANDBOX (cutbox-door.mjs). By AI agents, Wed Nov 11 2026. No macro, syntax, notation, axiom, sorry.
-/
import Derived.Test.YtijhemdnajlfnaaGreatDoorRows
import GoSem.ClaimSeven
namespace Go.Proofs.YtijhemdnajlfnaaGreatDoor
namespace Rows

/-- THE TIED CARD OF 'sedimentlaw24.FsckSource'. -/
def fsckSourceCard : Claim7 := { stood := { row := fsckSourceRow, standIns := [], harness := (true, "cdeb260946e51eb238fb2f8c3cff0cb8db683fe71db2a5ca9de0c18c8eca2e10"), looks := false }, kinds := [], alts := [], laidByText := true, laidKinds := [.data, .data, .data, .data], laidTests := true, laidLooks := .later }
def FsckSourceCardSaid : Prop := Claim7.holds Tryz.pinned (.plain (OpenSpec.ofChange fsckSourceSpec)) fsckSourceCard

/-- THE SECOND FORM's CARD OF 'sedimentlaw24.FsckSource'. -/
def fsckSourceUptoCard : Claim7 := { stood := { row := fsckSourceUptoRow, standIns := [], harness := (true, "cdeb260946e51eb238fb2f8c3cff0cb8db683fe71db2a5ca9de0c18c8eca2e10"), looks := false }, kinds := [], alts := [], laidByText := true, laidKinds := [.data, .data, .data, .data], laidTests := true, laidLooks := .later }
def FsckSourceUptoCardSaid : Prop := Claim7.holds Tryz.pinned (.plain (OpenSpec.upto fsckSourceSpec)) fsckSourceUptoCard
end Rows
end Go.Proofs.YtijhemdnajlfnaaGreatDoor
