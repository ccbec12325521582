/-
  DERIVED. GIVEN WITH THE SEED: THE CARDS: each row of YtbmiiiccnoiffaaGreatDoorRows.lean that lists a variable, with what it lists TIED to the program's text (the seventh form; the later family's looks); each row that meets fmt, with fmt's text TOLD by the authors' own Lean function (tested against real Go, not proved from fmt's source: count such statements apart). THE CARD IS WHAT COUNTS. Prove the row's statement (the work); the ties are given (YtbmiiiccnoiffaaGreatDoorTie.lean); close each card by the builder's one call (the guide's Derived/Test/ToyasCard.lean, 'card_holds'). Laid BY PROGRAM, IN A SANDBOX (cutbox-door.mjs). By AI agents, Wed Nov 11 2026. No macro, syntax, notation, axiom, sorry.
-/
import Derived.Test.YtbmiiiccnoiffaaGreatDoorRows
import GoSem.ClaimSeven
namespace Go.Proofs.YtbmiiiccnoiffaaGreatDoor
namespace Rows

/-- THE TIED CARD OF 'sedimentlaw28.HistoryLines'. -/
def historyLinesCard : Claim7 := { stood := { row := historyLinesRow, standIns := [], harness := (true, "72d5e109221c75ae38c37e05bd74898149c8a50621d52c24bcac53984c0fe6ae"), looks := true }, kinds := [], alts := [], laidByText := true, laidKinds := [.data, .data], laidTests := true, laidLooks := .later }
def HistoryLinesCardSaid : Prop := Claim7.holds Tryz.pinned (.plain (OpenSpec.ofChange historyLinesSpec)) historyLinesCard

/-- THE TIED CARD OF 'sedimentlaw28.HistoryOrder'. -/
def historyOrderCard : Claim7 := { stood := { row := historyOrderRow, standIns := [], harness := (true, "72d5e109221c75ae38c37e05bd74898149c8a50621d52c24bcac53984c0fe6ae"), looks := true }, kinds := [], alts := [], laidByText := true, laidKinds := [.data, .data], laidTests := true, laidLooks := .later }
def HistoryOrderCardSaid : Prop := Claim7.holds Tryz.pinned (.plain (OpenSpec.ofChange historyOrderSpec)) historyOrderCard

/-- THE TIED CARD OF 'sedimentlaw28.HistoryAges'. -/
def historyAgesCard : Claim7 := { stood := { row := historyAgesRow, standIns := [], harness := (true, "72d5e109221c75ae38c37e05bd74898149c8a50621d52c24bcac53984c0fe6ae"), looks := true }, kinds := [], alts := [], laidByText := true, laidKinds := [.data, .data], laidTests := true, laidLooks := .later }
def HistoryAgesCardSaid : Prop := Claim7.holds Tryz.pinned (.plain (OpenSpec.ofChange historyAgesSpec)) historyAgesCard

/-- THE TIED CARD OF 'sedimentlaw28.HistoryBases'. -/
def historyBasesCard : Claim7 := { stood := { row := historyBasesRow, standIns := [], harness := (true, "72d5e109221c75ae38c37e05bd74898149c8a50621d52c24bcac53984c0fe6ae"), looks := true }, kinds := [], alts := [], laidByText := true, laidKinds := [.data, .data], laidTests := true, laidLooks := .later }
def HistoryBasesCardSaid : Prop := Claim7.holds Tryz.pinned (.plain (OpenSpec.ofChange historyBasesSpec)) historyBasesCard

/-- THE TIED CARD OF 'sedimentlaw28.HistoryBoth'. -/
def historyBothCard : Claim7 := { stood := { row := historyBothRow, standIns := [], harness := (true, "72d5e109221c75ae38c37e05bd74898149c8a50621d52c24bcac53984c0fe6ae"), looks := true }, kinds := [], alts := [], laidByText := true, laidKinds := [.data, .data], laidTests := true, laidLooks := .later }
def HistoryBothCardSaid : Prop := Claim7.holds Tryz.pinned (.plain (OpenSpec.ofChange historyBothSpec)) historyBothCard

/-- THE TIED CARD OF 'sedimentlaw27.DiffTrees'. -/
def diffTreesCard : Claim7 := { stood := { row := diffTreesRow, standIns := [], harness := (true, "72d5e109221c75ae38c37e05bd74898149c8a50621d52c24bcac53984c0fe6ae"), looks := true }, kinds := [], alts := [], laidByText := true, laidKinds := [.data, .data, .data, .pinned], laidTests := true, laidLooks := .later }
def DiffTreesCardSaid : Prop := Claim7.holds Tryz.pinned (.plain (OpenSpec.ofChange diffTreesSpec)) diffTreesCard

/-- THE TIED CARD OF 'sedimentlaw26.PathBuilds'. -/
def pathBuildsCard : Claim7 := { stood := { row := pathBuildsRow, standIns := [], harness := (true, "72d5e109221c75ae38c37e05bd74898149c8a50621d52c24bcac53984c0fe6ae"), looks := true }, kinds := [], alts := [], laidByText := true, laidKinds := [.data, .data, .data, .pinned], laidTests := true, laidLooks := .later }
def PathBuildsCardSaid : Prop := Claim7.holds Tryz.pinned (.plain (OpenSpec.ofChange pathBuildsSpec)) pathBuildsCard

/-- THE TIED CARD OF 'sedimentlaw26.PathFiles'. -/
def pathFilesCard : Claim7 := { stood := { row := pathFilesRow, standIns := [], harness := (true, "72d5e109221c75ae38c37e05bd74898149c8a50621d52c24bcac53984c0fe6ae"), looks := true }, kinds := [], alts := [], laidByText := true, laidKinds := [.data, .data, .data, .pinned], laidTests := true, laidLooks := .later }
def PathFilesCardSaid : Prop := Claim7.holds Tryz.pinned (.plain (OpenSpec.ofChange pathFilesSpec)) pathFilesCard

/-- THE TIED CARD OF 'sedimentlaw26.PathFinds'. -/
def pathFindsCard : Claim7 := { stood := { row := pathFindsRow, standIns := [], harness := (true, "72d5e109221c75ae38c37e05bd74898149c8a50621d52c24bcac53984c0fe6ae"), looks := true }, kinds := [], alts := [], laidByText := true, laidKinds := [.data, .data, .data, .pinned], laidTests := true, laidLooks := .later }
def PathFindsCardSaid : Prop := Claim7.holds Tryz.pinned (.plain (OpenSpec.ofChange pathFindsSpec)) pathFindsCard

/-- THE TIED CARD OF 'sedimentlaw26.PathOrder'. -/
def pathOrderCard : Claim7 := { stood := { row := pathOrderRow, standIns := [], harness := (true, "72d5e109221c75ae38c37e05bd74898149c8a50621d52c24bcac53984c0fe6ae"), looks := true }, kinds := [], alts := [], laidByText := true, laidKinds := [.data, .data, .data, .pinned], laidTests := true, laidLooks := .later }
def PathOrderCardSaid : Prop := Claim7.holds Tryz.pinned (.plain (OpenSpec.ofChange pathOrderSpec)) pathOrderCard

/-- THE TIED CARD OF 'sedimentlaw28.HistoryTouches'. -/
def historyTouchesCard : Claim7 := { stood := { row := historyTouchesRow, standIns := [], harness := (true, "72d5e109221c75ae38c37e05bd74898149c8a50621d52c24bcac53984c0fe6ae"), looks := true }, kinds := [], alts := [], laidByText := true, laidKinds := [.data, .data, .data, .pinned], laidTests := true, laidLooks := .later }
def HistoryTouchesCardSaid : Prop := Claim7.holds Tryz.pinned (.plain (OpenSpec.ofChange historyTouchesSpec)) historyTouchesCard

/-- THE TIED CARD OF 'sedimentlaw26.PathTurns'. -/
def pathTurnsCard : Claim7 := { stood := { row := pathTurnsRow, standIns := [], harness := (true, "72d5e109221c75ae38c37e05bd74898149c8a50621d52c24bcac53984c0fe6ae"), looks := true }, kinds := [], alts := [], laidByText := true, laidKinds := [.data, .data, .data, .pinned], laidTests := true, laidLooks := .later }
def PathTurnsCardSaid : Prop := Claim7.holds Tryz.pinned (.plain (OpenSpec.ofChange pathTurnsSpec)) pathTurnsCard

/-- THE SECOND FORM's CARD OF 'sedimentlaw28.HistoryLines'. -/
def historyLinesUptoCard : Claim7 := { stood := { row := historyLinesUptoRow, standIns := [], harness := (true, "72d5e109221c75ae38c37e05bd74898149c8a50621d52c24bcac53984c0fe6ae"), looks := true }, kinds := [], alts := [], laidByText := true, laidKinds := [.data, .data], laidTests := true, laidLooks := .later }
def HistoryLinesUptoCardSaid : Prop := Claim7.holds Tryz.pinned (.plain (OpenSpec.upto historyLinesSpec)) historyLinesUptoCard

/-- THE SECOND FORM's CARD OF 'sedimentlaw28.HistoryOrder'. -/
def historyOrderUptoCard : Claim7 := { stood := { row := historyOrderUptoRow, standIns := [], harness := (true, "72d5e109221c75ae38c37e05bd74898149c8a50621d52c24bcac53984c0fe6ae"), looks := true }, kinds := [], alts := [], laidByText := true, laidKinds := [.data, .data], laidTests := true, laidLooks := .later }
def HistoryOrderUptoCardSaid : Prop := Claim7.holds Tryz.pinned (.plain (OpenSpec.upto historyOrderSpec)) historyOrderUptoCard

/-- THE SECOND FORM's CARD OF 'sedimentlaw28.HistoryAges'. -/
def historyAgesUptoCard : Claim7 := { stood := { row := historyAgesUptoRow, standIns := [], harness := (true, "72d5e109221c75ae38c37e05bd74898149c8a50621d52c24bcac53984c0fe6ae"), looks := true }, kinds := [], alts := [], laidByText := true, laidKinds := [.data, .data], laidTests := true, laidLooks := .later }
def HistoryAgesUptoCardSaid : Prop := Claim7.holds Tryz.pinned (.plain (OpenSpec.upto historyAgesSpec)) historyAgesUptoCard

/-- THE SECOND FORM's CARD OF 'sedimentlaw28.HistoryBases'. -/
def historyBasesUptoCard : Claim7 := { stood := { row := historyBasesUptoRow, standIns := [], harness := (true, "72d5e109221c75ae38c37e05bd74898149c8a50621d52c24bcac53984c0fe6ae"), looks := true }, kinds := [], alts := [], laidByText := true, laidKinds := [.data, .data], laidTests := true, laidLooks := .later }
def HistoryBasesUptoCardSaid : Prop := Claim7.holds Tryz.pinned (.plain (OpenSpec.upto historyBasesSpec)) historyBasesUptoCard

/-- THE SECOND FORM's CARD OF 'sedimentlaw28.HistoryBoth'. -/
def historyBothUptoCard : Claim7 := { stood := { row := historyBothUptoRow, standIns := [], harness := (true, "72d5e109221c75ae38c37e05bd74898149c8a50621d52c24bcac53984c0fe6ae"), looks := true }, kinds := [], alts := [], laidByText := true, laidKinds := [.data, .data], laidTests := true, laidLooks := .later }
def HistoryBothUptoCardSaid : Prop := Claim7.holds Tryz.pinned (.plain (OpenSpec.upto historyBothSpec)) historyBothUptoCard

/-- THE SECOND FORM's CARD OF 'sedimentlaw27.DiffTrees'. -/
def diffTreesUptoCard : Claim7 := { stood := { row := diffTreesUptoRow, standIns := [], harness := (true, "72d5e109221c75ae38c37e05bd74898149c8a50621d52c24bcac53984c0fe6ae"), looks := true }, kinds := [], alts := [], laidByText := true, laidKinds := [.data, .data, .data, .pinned], laidTests := true, laidLooks := .later }
def DiffTreesUptoCardSaid : Prop := Claim7.holds Tryz.pinned (.plain (OpenSpec.upto diffTreesSpec)) diffTreesUptoCard

/-- THE SECOND FORM's CARD OF 'sedimentlaw26.PathBuilds'. -/
def pathBuildsUptoCard : Claim7 := { stood := { row := pathBuildsUptoRow, standIns := [], harness := (true, "72d5e109221c75ae38c37e05bd74898149c8a50621d52c24bcac53984c0fe6ae"), looks := true }, kinds := [], alts := [], laidByText := true, laidKinds := [.data, .data, .data, .pinned], laidTests := true, laidLooks := .later }
def PathBuildsUptoCardSaid : Prop := Claim7.holds Tryz.pinned (.plain (OpenSpec.upto pathBuildsSpec)) pathBuildsUptoCard

/-- THE SECOND FORM's CARD OF 'sedimentlaw26.PathFiles'. -/
def pathFilesUptoCard : Claim7 := { stood := { row := pathFilesUptoRow, standIns := [], harness := (true, "72d5e109221c75ae38c37e05bd74898149c8a50621d52c24bcac53984c0fe6ae"), looks := true }, kinds := [], alts := [], laidByText := true, laidKinds := [.data, .data, .data, .pinned], laidTests := true, laidLooks := .later }
def PathFilesUptoCardSaid : Prop := Claim7.holds Tryz.pinned (.plain (OpenSpec.upto pathFilesSpec)) pathFilesUptoCard

/-- THE SECOND FORM's CARD OF 'sedimentlaw26.PathFinds'. -/
def pathFindsUptoCard : Claim7 := { stood := { row := pathFindsUptoRow, standIns := [], harness := (true, "72d5e109221c75ae38c37e05bd74898149c8a50621d52c24bcac53984c0fe6ae"), looks := true }, kinds := [], alts := [], laidByText := true, laidKinds := [.data, .data, .data, .pinned], laidTests := true, laidLooks := .later }
def PathFindsUptoCardSaid : Prop := Claim7.holds Tryz.pinned (.plain (OpenSpec.upto pathFindsSpec)) pathFindsUptoCard

/-- THE SECOND FORM's CARD OF 'sedimentlaw26.PathOrder'. -/
def pathOrderUptoCard : Claim7 := { stood := { row := pathOrderUptoRow, standIns := [], harness := (true, "72d5e109221c75ae38c37e05bd74898149c8a50621d52c24bcac53984c0fe6ae"), looks := true }, kinds := [], alts := [], laidByText := true, laidKinds := [.data, .data, .data, .pinned], laidTests := true, laidLooks := .later }
def PathOrderUptoCardSaid : Prop := Claim7.holds Tryz.pinned (.plain (OpenSpec.upto pathOrderSpec)) pathOrderUptoCard

/-- THE SECOND FORM's CARD OF 'sedimentlaw28.HistoryTouches'. -/
def historyTouchesUptoCard : Claim7 := { stood := { row := historyTouchesUptoRow, standIns := [], harness := (true, "72d5e109221c75ae38c37e05bd74898149c8a50621d52c24bcac53984c0fe6ae"), looks := true }, kinds := [], alts := [], laidByText := true, laidKinds := [.data, .data, .data, .pinned], laidTests := true, laidLooks := .later }
def HistoryTouchesUptoCardSaid : Prop := Claim7.holds Tryz.pinned (.plain (OpenSpec.upto historyTouchesSpec)) historyTouchesUptoCard

/-- THE SECOND FORM's CARD OF 'sedimentlaw26.PathTurns'. -/
def pathTurnsUptoCard : Claim7 := { stood := { row := pathTurnsUptoRow, standIns := [], harness := (true, "72d5e109221c75ae38c37e05bd74898149c8a50621d52c24bcac53984c0fe6ae"), looks := true }, kinds := [], alts := [], laidByText := true, laidKinds := [.data, .data, .data, .pinned], laidTests := true, laidLooks := .later }
def PathTurnsUptoCardSaid : Prop := Claim7.holds Tryz.pinned (.plain (OpenSpec.upto pathTurnsSpec)) pathTurnsUptoCard
end Rows
end Go.Proofs.YtbmiiiccnoiffaaGreatDoor
