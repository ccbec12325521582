/-
  DERIVED. GIVEN WITH THE SEED: THE CARDS: each row of YtejamhkgjkhjdaaGreatDoorRows.lean that lists a variable, with what it lists TIED to the program's text (the seventh form; the later family's looks); each row that meets fmt, with fmt's text TOLD by the authors' own Lean function (tested against real Go, not proved from fmt's source: count such statements apart). THE CARD IS WHAT COUNTS. Prove the row's statement (the work); the ties are given (YtejamhkgjkhjdaaGreatDoorTie.lean); close each card by the builder's one call (the guide's Derived/Test/ToyasCard.lean, 'card_holds'). Laid BY PROGRAM, IN A SANDBOX (cutbox-door.mjs). By AI agents, Wed Nov 11 2026. No macro, syntax, notation, axiom, sorry.
-/
import Derived.Test.YtejamhkgjkhjdaaGreatDoorRows
import GoSem.ClaimSeven
namespace Go.Proofs.YtejamhkgjkhjdaaGreatDoor
namespace Rows

/-- THE TIED CARD OF 'sedimentlaw25.RepairObjects'. -/
def repairObjectsCard : Claim7 := { stood := { row := repairObjectsRow, standIns := [], harness := (true, "42a0e776ebf7db3c1e1b95783fd35b8df0030abc53d84a2b523666180cbffffe"), looks := false }, kinds := [], alts := [], laidByText := true, laidKinds := [.data, .data, .data, .data], laidTests := true, laidLooks := .later }
def RepairObjectsCardSaid : Prop := Claim7.holds Tryz.pinned (.plain (OpenSpec.ofChange repairObjectsSpec)) repairObjectsCard

/-- THE SECOND FORM's CARD OF 'sedimentlaw25.RepairObjects'. -/
def repairObjectsUptoCard : Claim7 := { stood := { row := repairObjectsUptoRow, standIns := [], harness := (true, "42a0e776ebf7db3c1e1b95783fd35b8df0030abc53d84a2b523666180cbffffe"), looks := false }, kinds := [], alts := [], laidByText := true, laidKinds := [.data, .data, .data, .data], laidTests := true, laidLooks := .later }
def RepairObjectsUptoCardSaid : Prop := Claim7.holds Tryz.pinned (.plain (OpenSpec.upto repairObjectsSpec)) repairObjectsUptoCard
end Rows
end Go.Proofs.YtejamhkgjkhjdaaGreatDoor
