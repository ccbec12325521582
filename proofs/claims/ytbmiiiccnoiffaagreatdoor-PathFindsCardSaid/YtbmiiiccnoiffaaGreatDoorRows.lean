/-
  NARROWER THAN 'FOR EVERY INPUT', by the rows' own cells (each row's printed sentence says how): HistoryLines: laid · HistoryOrder: laid · HistoryAges: laid · HistoryBases: laid · HistoryBoth: laid · DiffTrees: laid · PathBuilds: laid · PathFiles: laid · PathFinds: laid · PathOrder: laid · HistoryTouches: laid · PathTurns: laid.
  DERIVED. THE GIVEN ROWS OF THIS SEAT. 12 by the template 'for every input the law returns true; each argument reads behind the call as it read before'; 0 by the template 'total and deterministic' (their statements: YtbmiiiccnoiffaaGreatDoorTotals.lean).
  GIVEN WITH THE SEED: the statements are not yours to turn. If you find one false, say at which input.
  Laid BY PROGRAM, IN A SANDBOX (cutbox-rows.mjs): the forced cells as the released guide's own fill.sh prints them over the translation e9792ad4dbc6d945… (all of the seat's roots in one cut). By AI agents, Wed Nov 11 2026. No macro, syntax, notation, axiom, sorry.
-/
import Derived.Test.YtbmiiiccnoiffaaGreatDoorChecked
import GoSem.PinnedTables
import GoSem.Claim
import GoSem.ClaimJoined
import GoSem.ClaimMapViews
import Derived.JoinedTies
import Derived.KernelRfl
namespace Go.Proofs.YtbmiiiccnoiffaaGreatDoor
/- THE CELL 'sum', in the pinned program and in every row, IS THE sha256 OF THE DUMP (.gsa) THAT YtbmiiiccnoiffaaGreatDoorProg.lean LOADS. Nothing in Lean hashes anything: it is a label: what it is worth is what the hold of that sum in a sandbox is worth. -/
noncomputable def Tryz.pinned : Pinned := { name := "ytbmiiiccnoiffaagreatdoor", sum := "e9792ad4dbc6d945cde73ad858e625e3a5c93a87fec09544e13ec59f600804f6", checked := Tryz.checked }
namespace Rows
def none {H : Type} : Left H := { results := [], args := [] }

/- WHAT THE LISTED PACKAGE-LEVEL VARIABLES READ AS WHEN THE CALL BEGINS. Each datum BY PROGRAM (the guide's laid-datum.mjs) off the statement by which the dump's own 'gosem.cut.vars' lays the variable. In a bare row this is a premise. The card (YtbmiiiccnoiffaaGreatDoorCards.lean) ties it to the program's text. -/
def laid_sediment_digest_rounds {H : Type} : DataW H := .agg [.lit (.int .u32 1116352408), .lit (.int .u32 1899447441), .lit (.int .u32 3049323471), .lit (.int .u32 3921009573), .lit (.int .u32 961987163), .lit (.int .u32 1508970993), .lit (.int .u32 2453635748), .lit (.int .u32 2870763221), .lit (.int .u32 3624381080), .lit (.int .u32 310598401), .lit (.int .u32 607225278), .lit (.int .u32 1426881987), .lit (.int .u32 1925078388), .lit (.int .u32 2162078206), .lit (.int .u32 2614888103), .lit (.int .u32 3248222580), .lit (.int .u32 3835390401), .lit (.int .u32 4022224774), .lit (.int .u32 264347078), .lit (.int .u32 604807628), .lit (.int .u32 770255983), .lit (.int .u32 1249150122), .lit (.int .u32 1555081692), .lit (.int .u32 1996064986), .lit (.int .u32 2554220882), .lit (.int .u32 2821834349), .lit (.int .u32 2952996808), .lit (.int .u32 3210313671), .lit (.int .u32 3336571891), .lit (.int .u32 3584528711), .lit (.int .u32 113926993), .lit (.int .u32 338241895), .lit (.int .u32 666307205), .lit (.int .u32 773529912), .lit (.int .u32 1294757372), .lit (.int .u32 1396182291), .lit (.int .u32 1695183700), .lit (.int .u32 1986661051), .lit (.int .u32 2177026350), .lit (.int .u32 2456956037), .lit (.int .u32 2730485921), .lit (.int .u32 2820302411), .lit (.int .u32 3259730800), .lit (.int .u32 3345764771), .lit (.int .u32 3516065817), .lit (.int .u32 3600352804), .lit (.int .u32 4094571909), .lit (.int .u32 275423344), .lit (.int .u32 430227734), .lit (.int .u32 506948616), .lit (.int .u32 659060556), .lit (.int .u32 883997877), .lit (.int .u32 958139571), .lit (.int .u32 1322822218), .lit (.int .u32 1537002063), .lit (.int .u32 1747873779), .lit (.int .u32 1955562222), .lit (.int .u32 2024104815), .lit (.int .u32 2227730452), .lit (.int .u32 2361852424), .lit (.int .u32 2428436474), .lit (.int .u32 2756734187), .lit (.int .u32 3204031479), .lit (.int .u32 3329325298)]
def laid_sediment_digest_first {H : Type} : DataW H := .agg [.lit (.int .u32 1779033703), .lit (.int .u32 3144134277), .lit (.int .u32 1013904242), .lit (.int .u32 2773480762), .lit (.int .u32 1359893119), .lit (.int .u32 2600822924), .lit (.int .u32 528734635), .lit (.int .u32 1541459225)]
def laid_unicode_utf8_acceptRanges {H : Type} : DataW H := .agg [.agg [.lit (.int .u8 128), .lit (.int .u8 191)], .agg [.lit (.int .u8 160), .lit (.int .u8 191)], .agg [.lit (.int .u8 128), .lit (.int .u8 159)], .agg [.lit (.int .u8 144), .lit (.int .u8 191)], .agg [.lit (.int .u8 128), .lit (.int .u8 143)], .agg [.lit (.int .u8 0), .lit (.int .u8 0)], .agg [.lit (.int .u8 0), .lit (.int .u8 0)], .agg [.lit (.int .u8 0), .lit (.int .u8 0)], .agg [.lit (.int .u8 0), .lit (.int .u8 0)], .agg [.lit (.int .u8 0), .lit (.int .u8 0)], .agg [.lit (.int .u8 0), .lit (.int .u8 0)], .agg [.lit (.int .u8 0), .lit (.int .u8 0)], .agg [.lit (.int .u8 0), .lit (.int .u8 0)], .agg [.lit (.int .u8 0), .lit (.int .u8 0)], .agg [.lit (.int .u8 0), .lit (.int .u8 0)], .agg [.lit (.int .u8 0), .lit (.int .u8 0)]]
/-- One of Go's own tables, pinned by name: the form's constant. -/
def laid_unicode_utf8_first : DataW Unit := Go.Pinned.utf8First

/-- 'sedimentlaw28.HistoryLines': WHATEVER THE INPUT: true; the input reads as it did. -/
def historyLinesSpec : ChangeSpec := { name := "historyLines", fn := fun _ => fun
  | [d1, d2, d3] => { results := [.lit (.bool true)], args := [d1, d2, d3] }
  | _ => none }
def historyLinesRow : OpenClaim := { program := "ytbmiiiccnoiffaagreatdoor", sum := "e9792ad4dbc6d945cde73ad858e625e3a5c93a87fec09544e13ec59f600804f6", func := "sediment/sedimentlaw28.HistoryLines", spec := "historyLines", inPlace := ["internal/abi.NoEscape", "internal/bytealg.Compare"], unfollowed := true, recurses := true, named := ["sediment/digest.first", "sediment/digest.rounds"], plainKeys := false, apart := false, laid := [("sediment/digest.rounds", laid_sediment_digest_rounds), ("sediment/digest.first", laid_sediment_digest_first)] }
def HistoryLinesSaid : Prop := historyLinesRow.holds Tryz.pinned (OpenSpec.ofChange historyLinesSpec)

/-- ITS FALSE NEIGHBOUR: 'it returns false'. Refute it at one input. -/
def historyLinesWrong : ChangeSpec := { name := "historyLines", fn := fun _ => fun
  | [d1, d2, d3] => { results := [.lit (.bool false)], args := [d1, d2, d3] }
  | _ => none }
def HistoryLinesWrongFalsely : Prop := historyLinesRow.holds Tryz.pinned (OpenSpec.ofChange historyLinesWrong)

/-- 'sedimentlaw28.HistoryOrder': WHATEVER THE INPUT: true; the input reads as it did. -/
def historyOrderSpec : ChangeSpec := { name := "historyOrder", fn := fun _ => fun
  | [d1, d2] => { results := [.lit (.bool true)], args := [d1, d2] }
  | _ => none }
def historyOrderRow : OpenClaim := { program := "ytbmiiiccnoiffaagreatdoor", sum := "e9792ad4dbc6d945cde73ad858e625e3a5c93a87fec09544e13ec59f600804f6", func := "sediment/sedimentlaw28.HistoryOrder", spec := "historyOrder", inPlace := ["internal/abi.NoEscape", "internal/bytealg.Compare"], unfollowed := true, recurses := true, named := ["sediment/digest.first", "sediment/digest.rounds"], plainKeys := false, apart := false, laid := [("sediment/digest.rounds", laid_sediment_digest_rounds), ("sediment/digest.first", laid_sediment_digest_first)] }
def HistoryOrderSaid : Prop := historyOrderRow.holds Tryz.pinned (OpenSpec.ofChange historyOrderSpec)

/-- ITS FALSE NEIGHBOUR: 'it returns false'. Refute it at one input. -/
def historyOrderWrong : ChangeSpec := { name := "historyOrder", fn := fun _ => fun
  | [d1, d2] => { results := [.lit (.bool false)], args := [d1, d2] }
  | _ => none }
def HistoryOrderWrongFalsely : Prop := historyOrderRow.holds Tryz.pinned (OpenSpec.ofChange historyOrderWrong)

/-- 'sedimentlaw28.HistoryAges': WHATEVER THE INPUT: true; the input reads as it did. -/
def historyAgesSpec : ChangeSpec := { name := "historyAges", fn := fun _ => fun
  | [d1, d2, d3, d4] => { results := [.lit (.bool true)], args := [d1, d2, d3, d4] }
  | _ => none }
def historyAgesRow : OpenClaim := { program := "ytbmiiiccnoiffaagreatdoor", sum := "e9792ad4dbc6d945cde73ad858e625e3a5c93a87fec09544e13ec59f600804f6", func := "sediment/sedimentlaw28.HistoryAges", spec := "historyAges", inPlace := ["internal/abi.NoEscape", "internal/bytealg.Compare"], unfollowed := true, recurses := true, named := ["sediment/digest.first", "sediment/digest.rounds"], plainKeys := false, apart := false, laid := [("sediment/digest.rounds", laid_sediment_digest_rounds), ("sediment/digest.first", laid_sediment_digest_first)] }
def HistoryAgesSaid : Prop := historyAgesRow.holds Tryz.pinned (OpenSpec.ofChange historyAgesSpec)

/-- ITS FALSE NEIGHBOUR: 'it returns false'. Refute it at one input. -/
def historyAgesWrong : ChangeSpec := { name := "historyAges", fn := fun _ => fun
  | [d1, d2, d3, d4] => { results := [.lit (.bool false)], args := [d1, d2, d3, d4] }
  | _ => none }
def HistoryAgesWrongFalsely : Prop := historyAgesRow.holds Tryz.pinned (OpenSpec.ofChange historyAgesWrong)

/-- 'sedimentlaw28.HistoryBases': WHATEVER THE INPUT: true; the input reads as it did. -/
def historyBasesSpec : ChangeSpec := { name := "historyBases", fn := fun _ => fun
  | [d1, d2, d3] => { results := [.lit (.bool true)], args := [d1, d2, d3] }
  | _ => none }
def historyBasesRow : OpenClaim := { program := "ytbmiiiccnoiffaagreatdoor", sum := "e9792ad4dbc6d945cde73ad858e625e3a5c93a87fec09544e13ec59f600804f6", func := "sediment/sedimentlaw28.HistoryBases", spec := "historyBases", inPlace := ["internal/abi.NoEscape", "internal/bytealg.Compare", "maps.clone"], unfollowed := true, recurses := true, named := ["sediment/digest.first", "sediment/digest.rounds"], plainKeys := false, apart := false, laid := [("sediment/digest.rounds", laid_sediment_digest_rounds), ("sediment/digest.first", laid_sediment_digest_first)] }
def HistoryBasesSaid : Prop := historyBasesRow.holds Tryz.pinned (OpenSpec.ofChange historyBasesSpec)

/-- ITS FALSE NEIGHBOUR: 'it returns false'. Refute it at one input. -/
def historyBasesWrong : ChangeSpec := { name := "historyBases", fn := fun _ => fun
  | [d1, d2, d3] => { results := [.lit (.bool false)], args := [d1, d2, d3] }
  | _ => none }
def HistoryBasesWrongFalsely : Prop := historyBasesRow.holds Tryz.pinned (OpenSpec.ofChange historyBasesWrong)

/-- 'sedimentlaw28.HistoryBoth': WHATEVER THE INPUT: true; the input reads as it did. -/
def historyBothSpec : ChangeSpec := { name := "historyBoth", fn := fun _ => fun
  | [d1, d2, d3] => { results := [.lit (.bool true)], args := [d1, d2, d3] }
  | _ => none }
def historyBothRow : OpenClaim := { program := "ytbmiiiccnoiffaagreatdoor", sum := "e9792ad4dbc6d945cde73ad858e625e3a5c93a87fec09544e13ec59f600804f6", func := "sediment/sedimentlaw28.HistoryBoth", spec := "historyBoth", inPlace := ["internal/abi.NoEscape", "internal/bytealg.Compare", "maps.clone"], unfollowed := true, recurses := true, named := ["sediment/digest.first", "sediment/digest.rounds"], plainKeys := false, apart := false, laid := [("sediment/digest.rounds", laid_sediment_digest_rounds), ("sediment/digest.first", laid_sediment_digest_first)] }
def HistoryBothSaid : Prop := historyBothRow.holds Tryz.pinned (OpenSpec.ofChange historyBothSpec)

/-- ITS FALSE NEIGHBOUR: 'it returns false'. Refute it at one input. -/
def historyBothWrong : ChangeSpec := { name := "historyBoth", fn := fun _ => fun
  | [d1, d2, d3] => { results := [.lit (.bool false)], args := [d1, d2, d3] }
  | _ => none }
def HistoryBothWrongFalsely : Prop := historyBothRow.holds Tryz.pinned (OpenSpec.ofChange historyBothWrong)

/-- 'sedimentlaw27.DiffTrees': WHATEVER THE INPUT: true; the input reads as it did. -/
def diffTreesSpec : ChangeSpec := { name := "diffTrees", fn := fun _ => fun
  | [d1, d2, d3] => { results := [.lit (.bool true)], args := [d1, d2, d3] }
  | _ => none }
def diffTreesRow : OpenClaim := { program := "ytbmiiiccnoiffaagreatdoor", sum := "e9792ad4dbc6d945cde73ad858e625e3a5c93a87fec09544e13ec59f600804f6", func := "sediment/sedimentlaw27.DiffTrees", spec := "diffTrees", inPlace := ["internal/bytealg.CountString", "internal/bytealg.IndexByteString", "internal/bytealg.IndexString", "internal/abi.NoEscape"], unfollowed := true, recurses := true, named := ["unicode/utf8.first", "unicode/utf8.acceptRanges", "internal/bytealg.MaxLen", "sediment/digest.first", "sediment/digest.rounds"], plainKeys := false, apart := false, laid := [("sediment/digest.rounds", laid_sediment_digest_rounds), ("sediment/digest.first", laid_sediment_digest_first), ("unicode/utf8.acceptRanges", laid_unicode_utf8_acceptRanges), ("unicode/utf8.first", laid_unicode_utf8_first)] }
def DiffTreesSaid : Prop := diffTreesRow.holds Tryz.pinned (OpenSpec.ofChange diffTreesSpec)

/-- ITS FALSE NEIGHBOUR: 'it returns false'. Refute it at one input. -/
def diffTreesWrong : ChangeSpec := { name := "diffTrees", fn := fun _ => fun
  | [d1, d2, d3] => { results := [.lit (.bool false)], args := [d1, d2, d3] }
  | _ => none }
def DiffTreesWrongFalsely : Prop := diffTreesRow.holds Tryz.pinned (OpenSpec.ofChange diffTreesWrong)

/-- 'sedimentlaw26.PathBuilds': WHATEVER THE INPUT: true; the input reads as it did. -/
def pathBuildsSpec : ChangeSpec := { name := "pathBuilds", fn := fun _ => fun
  | [d] => { results := [.lit (.bool true)], args := [d] }
  | _ => none }
def pathBuildsRow : OpenClaim := { program := "ytbmiiiccnoiffaagreatdoor", sum := "e9792ad4dbc6d945cde73ad858e625e3a5c93a87fec09544e13ec59f600804f6", func := "sediment/sedimentlaw26.PathBuilds", spec := "pathBuilds", inPlace := ["internal/bytealg.IndexByteString", "internal/bytealg.IndexString", "internal/abi.NoEscape", "internal/bytealg.Compare"], unfollowed := true, recurses := true, named := ["unicode/utf8.first", "unicode/utf8.acceptRanges", "internal/bytealg.MaxLen", "sediment/digest.first", "sediment/digest.rounds"], plainKeys := false, apart := false, laid := [("sediment/digest.rounds", laid_sediment_digest_rounds), ("sediment/digest.first", laid_sediment_digest_first), ("unicode/utf8.acceptRanges", laid_unicode_utf8_acceptRanges), ("unicode/utf8.first", laid_unicode_utf8_first)] }
def PathBuildsSaid : Prop := pathBuildsRow.holds Tryz.pinned (OpenSpec.ofChange pathBuildsSpec)

/-- ITS FALSE NEIGHBOUR: 'it returns false'. Refute it at one input. -/
def pathBuildsWrong : ChangeSpec := { name := "pathBuilds", fn := fun _ => fun
  | [d] => { results := [.lit (.bool false)], args := [d] }
  | _ => none }
def PathBuildsWrongFalsely : Prop := pathBuildsRow.holds Tryz.pinned (OpenSpec.ofChange pathBuildsWrong)

/-- 'sedimentlaw26.PathFiles': WHATEVER THE INPUT: true; the input reads as it did. -/
def pathFilesSpec : ChangeSpec := { name := "pathFiles", fn := fun _ => fun
  | [d1, d2] => { results := [.lit (.bool true)], args := [d1, d2] }
  | _ => none }
def pathFilesRow : OpenClaim := { program := "ytbmiiiccnoiffaagreatdoor", sum := "e9792ad4dbc6d945cde73ad858e625e3a5c93a87fec09544e13ec59f600804f6", func := "sediment/sedimentlaw26.PathFiles", spec := "pathFiles", inPlace := ["internal/bytealg.IndexByteString", "internal/bytealg.IndexString", "internal/abi.NoEscape", "internal/bytealg.Compare"], unfollowed := true, recurses := true, named := ["unicode/utf8.first", "unicode/utf8.acceptRanges", "internal/bytealg.MaxLen", "sediment/digest.first", "sediment/digest.rounds"], plainKeys := false, apart := false, laid := [("sediment/digest.rounds", laid_sediment_digest_rounds), ("sediment/digest.first", laid_sediment_digest_first), ("unicode/utf8.acceptRanges", laid_unicode_utf8_acceptRanges), ("unicode/utf8.first", laid_unicode_utf8_first)] }
def PathFilesSaid : Prop := pathFilesRow.holds Tryz.pinned (OpenSpec.ofChange pathFilesSpec)

/-- ITS FALSE NEIGHBOUR: 'it returns false'. Refute it at one input. -/
def pathFilesWrong : ChangeSpec := { name := "pathFiles", fn := fun _ => fun
  | [d1, d2] => { results := [.lit (.bool false)], args := [d1, d2] }
  | _ => none }
def PathFilesWrongFalsely : Prop := pathFilesRow.holds Tryz.pinned (OpenSpec.ofChange pathFilesWrong)

/-- 'sedimentlaw26.PathFinds': WHATEVER THE INPUT: true; the input reads as it did. -/
def pathFindsSpec : ChangeSpec := { name := "pathFinds", fn := fun _ => fun
  | [d1, d2, d3] => { results := [.lit (.bool true)], args := [d1, d2, d3] }
  | _ => none }
def pathFindsRow : OpenClaim := { program := "ytbmiiiccnoiffaagreatdoor", sum := "e9792ad4dbc6d945cde73ad858e625e3a5c93a87fec09544e13ec59f600804f6", func := "sediment/sedimentlaw26.PathFinds", spec := "pathFinds", inPlace := ["internal/bytealg.IndexByteString", "internal/bytealg.IndexString", "internal/abi.NoEscape", "internal/bytealg.Compare"], unfollowed := true, recurses := true, named := ["unicode/utf8.first", "unicode/utf8.acceptRanges", "internal/bytealg.MaxLen", "sediment/digest.first", "sediment/digest.rounds"], plainKeys := false, apart := false, laid := [("sediment/digest.rounds", laid_sediment_digest_rounds), ("sediment/digest.first", laid_sediment_digest_first), ("unicode/utf8.acceptRanges", laid_unicode_utf8_acceptRanges), ("unicode/utf8.first", laid_unicode_utf8_first)] }
def PathFindsSaid : Prop := pathFindsRow.holds Tryz.pinned (OpenSpec.ofChange pathFindsSpec)

/-- ITS FALSE NEIGHBOUR: 'it returns false'. Refute it at one input. -/
def pathFindsWrong : ChangeSpec := { name := "pathFinds", fn := fun _ => fun
  | [d1, d2, d3] => { results := [.lit (.bool false)], args := [d1, d2, d3] }
  | _ => none }
def PathFindsWrongFalsely : Prop := pathFindsRow.holds Tryz.pinned (OpenSpec.ofChange pathFindsWrong)

/-- 'sedimentlaw26.PathOrder': WHATEVER THE INPUT: true; the input reads as it did. -/
def pathOrderSpec : ChangeSpec := { name := "pathOrder", fn := fun _ => fun
  | [d] => { results := [.lit (.bool true)], args := [d] }
  | _ => none }
def pathOrderRow : OpenClaim := { program := "ytbmiiiccnoiffaagreatdoor", sum := "e9792ad4dbc6d945cde73ad858e625e3a5c93a87fec09544e13ec59f600804f6", func := "sediment/sedimentlaw26.PathOrder", spec := "pathOrder", inPlace := ["internal/bytealg.IndexByteString", "internal/bytealg.IndexString", "internal/abi.NoEscape", "internal/bytealg.Compare"], unfollowed := true, recurses := true, named := ["unicode/utf8.first", "unicode/utf8.acceptRanges", "internal/bytealg.MaxLen", "sediment/digest.first", "sediment/digest.rounds"], plainKeys := false, apart := false, laid := [("sediment/digest.rounds", laid_sediment_digest_rounds), ("sediment/digest.first", laid_sediment_digest_first), ("unicode/utf8.acceptRanges", laid_unicode_utf8_acceptRanges), ("unicode/utf8.first", laid_unicode_utf8_first)] }
def PathOrderSaid : Prop := pathOrderRow.holds Tryz.pinned (OpenSpec.ofChange pathOrderSpec)

/-- ITS FALSE NEIGHBOUR: 'it returns false'. Refute it at one input. -/
def pathOrderWrong : ChangeSpec := { name := "pathOrder", fn := fun _ => fun
  | [d] => { results := [.lit (.bool false)], args := [d] }
  | _ => none }
def PathOrderWrongFalsely : Prop := pathOrderRow.holds Tryz.pinned (OpenSpec.ofChange pathOrderWrong)

/-- 'sedimentlaw28.HistoryTouches': WHATEVER THE INPUT: true; the input reads as it did. -/
def historyTouchesSpec : ChangeSpec := { name := "historyTouches", fn := fun _ => fun
  | [d1, d2, d3] => { results := [.lit (.bool true)], args := [d1, d2, d3] }
  | _ => none }
def historyTouchesRow : OpenClaim := { program := "ytbmiiiccnoiffaagreatdoor", sum := "e9792ad4dbc6d945cde73ad858e625e3a5c93a87fec09544e13ec59f600804f6", func := "sediment/sedimentlaw28.HistoryTouches", spec := "historyTouches", inPlace := ["internal/abi.NoEscape", "internal/bytealg.Compare", "internal/bytealg.IndexByteString", "internal/bytealg.IndexString"], unfollowed := true, recurses := true, named := ["sediment/digest.first", "sediment/digest.rounds", "unicode/utf8.first", "unicode/utf8.acceptRanges", "internal/bytealg.MaxLen"], plainKeys := false, apart := false, laid := [("sediment/digest.rounds", laid_sediment_digest_rounds), ("sediment/digest.first", laid_sediment_digest_first), ("unicode/utf8.acceptRanges", laid_unicode_utf8_acceptRanges), ("unicode/utf8.first", laid_unicode_utf8_first)] }
def HistoryTouchesSaid : Prop := historyTouchesRow.holds Tryz.pinned (OpenSpec.ofChange historyTouchesSpec)

/-- ITS FALSE NEIGHBOUR: 'it returns false'. Refute it at one input. -/
def historyTouchesWrong : ChangeSpec := { name := "historyTouches", fn := fun _ => fun
  | [d1, d2, d3] => { results := [.lit (.bool false)], args := [d1, d2, d3] }
  | _ => none }
def HistoryTouchesWrongFalsely : Prop := historyTouchesRow.holds Tryz.pinned (OpenSpec.ofChange historyTouchesWrong)

/-- 'sedimentlaw26.PathTurns': WHATEVER THE INPUT: true; the input reads as it did. -/
def pathTurnsSpec : ChangeSpec := { name := "pathTurns", fn := fun _ => fun
  | [d1, d2, d3] => { results := [.lit (.bool true)], args := [d1, d2, d3] }
  | _ => none }
def pathTurnsRow : OpenClaim := { program := "ytbmiiiccnoiffaagreatdoor", sum := "e9792ad4dbc6d945cde73ad858e625e3a5c93a87fec09544e13ec59f600804f6", func := "sediment/sedimentlaw26.PathTurns", spec := "pathTurns", inPlace := ["internal/bytealg.IndexByteString", "internal/bytealg.IndexString", "internal/abi.NoEscape", "internal/bytealg.Compare"], unfollowed := true, recurses := true, named := ["unicode/utf8.first", "unicode/utf8.acceptRanges", "internal/bytealg.MaxLen", "sediment/digest.first", "sediment/digest.rounds"], plainKeys := false, apart := false, laid := [("sediment/digest.rounds", laid_sediment_digest_rounds), ("sediment/digest.first", laid_sediment_digest_first), ("unicode/utf8.acceptRanges", laid_unicode_utf8_acceptRanges), ("unicode/utf8.first", laid_unicode_utf8_first)] }
def PathTurnsSaid : Prop := pathTurnsRow.holds Tryz.pinned (OpenSpec.ofChange pathTurnsSpec)

/-- ITS FALSE NEIGHBOUR: 'it returns false'. Refute it at one input. -/
def pathTurnsWrong : ChangeSpec := { name := "pathTurns", fn := fun _ => fun
  | [d1, d2, d3] => { results := [.lit (.bool false)], args := [d1, d2, d3] }
  | _ => none }
def PathTurnsWrongFalsely : Prop := pathTurnsRow.holds Tryz.pinned (OpenSpec.ofChange pathTurnsWrong)

/- THE SECOND FORM. 'bulk': how many values and letters a reading holds, each counted each time it is reached (what is shared counts as often as it is met; a slice's spare places count too). A statement '..UptoSaid' is the law's where the arguments, and the package variables that the reading takes, are together of bulk at most 1048576: NARROWER than '..Said'. Prove '..Said' where nothing that the law and all that it calls make is longer than what came in: it says more and counts as full. Else prove '..UptoSaid'. A law counts once. -/
mutual
def uptoBulk {H : Type} : DataW H → Nat
  | .lit (.string bytes) => bytes.length + 1
  | .lit _ => 1
  | .nil => 1
  | .ptr d => uptoBulk d + 1
  | .slice elems spare => uptoBulkAll elems + uptoBulkAll spare + 1
  | .agg parts => uptoBulkAll parts + 1
  | .iface _ d => uptoBulk d + 1
  | .map entries => uptoBulkEntries entries + 1
  | .held _ => 1
def uptoBulkAll {H : Type} : List (DataW H) → Nat
  | [] => 0
  | d :: r => uptoBulk d + uptoBulkAll r
def uptoBulkEntries {H : Type} : List (Lit × DataW H) → Nat
  | [] => 0
  | x :: r => uptoBulkEntry x + uptoBulkEntries r
def uptoBulkEntry {H : Type} : Lit × DataW H → Nat
  | (.string bytes, d) => bytes.length + uptoBulk d + 1
  | (_, d) => uptoBulk d + 1
 end
def uptoSmall : (H : Type) → List (DataW H) → Bool := fun _ ds => decide (uptoBulkAll ds ≤ 1048576)
def OpenSpec.upto (s : _root_.Go.ChangeSpec) : _root_.Go.OpenSpec := { _root_.Go.OpenSpec.ofChange s with cond := some uptoSmall }

/-- 'sedimentlaw28.HistoryLines', WHERE WHAT IT READS IS OF BULK AT MOST 1048576: true; the input reads as it did. -/
def historyLinesUptoRow : OpenClaim := { program := "ytbmiiiccnoiffaagreatdoor", sum := "e9792ad4dbc6d945cde73ad858e625e3a5c93a87fec09544e13ec59f600804f6", func := "sediment/sedimentlaw28.HistoryLines", spec := "historyLines", inPlace := ["internal/abi.NoEscape", "internal/bytealg.Compare"], unfollowed := true, recurses := true, named := ["sediment/digest.first", "sediment/digest.rounds"], plainKeys := false, apart := false, laid := [("sediment/digest.rounds", laid_sediment_digest_rounds), ("sediment/digest.first", laid_sediment_digest_first)], narrowed := true }
def HistoryLinesUptoSaid : Prop := historyLinesUptoRow.holds Tryz.pinned (OpenSpec.upto historyLinesSpec)

/-- 'sedimentlaw28.HistoryOrder', WHERE WHAT IT READS IS OF BULK AT MOST 1048576: true; the input reads as it did. -/
def historyOrderUptoRow : OpenClaim := { program := "ytbmiiiccnoiffaagreatdoor", sum := "e9792ad4dbc6d945cde73ad858e625e3a5c93a87fec09544e13ec59f600804f6", func := "sediment/sedimentlaw28.HistoryOrder", spec := "historyOrder", inPlace := ["internal/abi.NoEscape", "internal/bytealg.Compare"], unfollowed := true, recurses := true, named := ["sediment/digest.first", "sediment/digest.rounds"], plainKeys := false, apart := false, laid := [("sediment/digest.rounds", laid_sediment_digest_rounds), ("sediment/digest.first", laid_sediment_digest_first)], narrowed := true }
def HistoryOrderUptoSaid : Prop := historyOrderUptoRow.holds Tryz.pinned (OpenSpec.upto historyOrderSpec)

/-- 'sedimentlaw28.HistoryAges', WHERE WHAT IT READS IS OF BULK AT MOST 1048576: true; the input reads as it did. -/
def historyAgesUptoRow : OpenClaim := { program := "ytbmiiiccnoiffaagreatdoor", sum := "e9792ad4dbc6d945cde73ad858e625e3a5c93a87fec09544e13ec59f600804f6", func := "sediment/sedimentlaw28.HistoryAges", spec := "historyAges", inPlace := ["internal/abi.NoEscape", "internal/bytealg.Compare"], unfollowed := true, recurses := true, named := ["sediment/digest.first", "sediment/digest.rounds"], plainKeys := false, apart := false, laid := [("sediment/digest.rounds", laid_sediment_digest_rounds), ("sediment/digest.first", laid_sediment_digest_first)], narrowed := true }
def HistoryAgesUptoSaid : Prop := historyAgesUptoRow.holds Tryz.pinned (OpenSpec.upto historyAgesSpec)

/-- 'sedimentlaw28.HistoryBases', WHERE WHAT IT READS IS OF BULK AT MOST 1048576: true; the input reads as it did. -/
def historyBasesUptoRow : OpenClaim := { program := "ytbmiiiccnoiffaagreatdoor", sum := "e9792ad4dbc6d945cde73ad858e625e3a5c93a87fec09544e13ec59f600804f6", func := "sediment/sedimentlaw28.HistoryBases", spec := "historyBases", inPlace := ["internal/abi.NoEscape", "internal/bytealg.Compare", "maps.clone"], unfollowed := true, recurses := true, named := ["sediment/digest.first", "sediment/digest.rounds"], plainKeys := false, apart := false, laid := [("sediment/digest.rounds", laid_sediment_digest_rounds), ("sediment/digest.first", laid_sediment_digest_first)], narrowed := true }
def HistoryBasesUptoSaid : Prop := historyBasesUptoRow.holds Tryz.pinned (OpenSpec.upto historyBasesSpec)

/-- 'sedimentlaw28.HistoryBoth', WHERE WHAT IT READS IS OF BULK AT MOST 1048576: true; the input reads as it did. -/
def historyBothUptoRow : OpenClaim := { program := "ytbmiiiccnoiffaagreatdoor", sum := "e9792ad4dbc6d945cde73ad858e625e3a5c93a87fec09544e13ec59f600804f6", func := "sediment/sedimentlaw28.HistoryBoth", spec := "historyBoth", inPlace := ["internal/abi.NoEscape", "internal/bytealg.Compare", "maps.clone"], unfollowed := true, recurses := true, named := ["sediment/digest.first", "sediment/digest.rounds"], plainKeys := false, apart := false, laid := [("sediment/digest.rounds", laid_sediment_digest_rounds), ("sediment/digest.first", laid_sediment_digest_first)], narrowed := true }
def HistoryBothUptoSaid : Prop := historyBothUptoRow.holds Tryz.pinned (OpenSpec.upto historyBothSpec)

/-- 'sedimentlaw27.DiffTrees', WHERE WHAT IT READS IS OF BULK AT MOST 1048576: true; the input reads as it did. -/
def diffTreesUptoRow : OpenClaim := { program := "ytbmiiiccnoiffaagreatdoor", sum := "e9792ad4dbc6d945cde73ad858e625e3a5c93a87fec09544e13ec59f600804f6", func := "sediment/sedimentlaw27.DiffTrees", spec := "diffTrees", inPlace := ["internal/bytealg.CountString", "internal/bytealg.IndexByteString", "internal/bytealg.IndexString", "internal/abi.NoEscape"], unfollowed := true, recurses := true, named := ["unicode/utf8.first", "unicode/utf8.acceptRanges", "internal/bytealg.MaxLen", "sediment/digest.first", "sediment/digest.rounds"], plainKeys := false, apart := false, laid := [("sediment/digest.rounds", laid_sediment_digest_rounds), ("sediment/digest.first", laid_sediment_digest_first), ("unicode/utf8.acceptRanges", laid_unicode_utf8_acceptRanges), ("unicode/utf8.first", laid_unicode_utf8_first)], narrowed := true }
def DiffTreesUptoSaid : Prop := diffTreesUptoRow.holds Tryz.pinned (OpenSpec.upto diffTreesSpec)

/-- 'sedimentlaw26.PathBuilds', WHERE WHAT IT READS IS OF BULK AT MOST 1048576: true; the input reads as it did. -/
def pathBuildsUptoRow : OpenClaim := { program := "ytbmiiiccnoiffaagreatdoor", sum := "e9792ad4dbc6d945cde73ad858e625e3a5c93a87fec09544e13ec59f600804f6", func := "sediment/sedimentlaw26.PathBuilds", spec := "pathBuilds", inPlace := ["internal/bytealg.IndexByteString", "internal/bytealg.IndexString", "internal/abi.NoEscape", "internal/bytealg.Compare"], unfollowed := true, recurses := true, named := ["unicode/utf8.first", "unicode/utf8.acceptRanges", "internal/bytealg.MaxLen", "sediment/digest.first", "sediment/digest.rounds"], plainKeys := false, apart := false, laid := [("sediment/digest.rounds", laid_sediment_digest_rounds), ("sediment/digest.first", laid_sediment_digest_first), ("unicode/utf8.acceptRanges", laid_unicode_utf8_acceptRanges), ("unicode/utf8.first", laid_unicode_utf8_first)], narrowed := true }
def PathBuildsUptoSaid : Prop := pathBuildsUptoRow.holds Tryz.pinned (OpenSpec.upto pathBuildsSpec)

/-- 'sedimentlaw26.PathFiles', WHERE WHAT IT READS IS OF BULK AT MOST 1048576: true; the input reads as it did. -/
def pathFilesUptoRow : OpenClaim := { program := "ytbmiiiccnoiffaagreatdoor", sum := "e9792ad4dbc6d945cde73ad858e625e3a5c93a87fec09544e13ec59f600804f6", func := "sediment/sedimentlaw26.PathFiles", spec := "pathFiles", inPlace := ["internal/bytealg.IndexByteString", "internal/bytealg.IndexString", "internal/abi.NoEscape", "internal/bytealg.Compare"], unfollowed := true, recurses := true, named := ["unicode/utf8.first", "unicode/utf8.acceptRanges", "internal/bytealg.MaxLen", "sediment/digest.first", "sediment/digest.rounds"], plainKeys := false, apart := false, laid := [("sediment/digest.rounds", laid_sediment_digest_rounds), ("sediment/digest.first", laid_sediment_digest_first), ("unicode/utf8.acceptRanges", laid_unicode_utf8_acceptRanges), ("unicode/utf8.first", laid_unicode_utf8_first)], narrowed := true }
def PathFilesUptoSaid : Prop := pathFilesUptoRow.holds Tryz.pinned (OpenSpec.upto pathFilesSpec)

/-- 'sedimentlaw26.PathFinds', WHERE WHAT IT READS IS OF BULK AT MOST 1048576: true; the input reads as it did. -/
def pathFindsUptoRow : OpenClaim := { program := "ytbmiiiccnoiffaagreatdoor", sum := "e9792ad4dbc6d945cde73ad858e625e3a5c93a87fec09544e13ec59f600804f6", func := "sediment/sedimentlaw26.PathFinds", spec := "pathFinds", inPlace := ["internal/bytealg.IndexByteString", "internal/bytealg.IndexString", "internal/abi.NoEscape", "internal/bytealg.Compare"], unfollowed := true, recurses := true, named := ["unicode/utf8.first", "unicode/utf8.acceptRanges", "internal/bytealg.MaxLen", "sediment/digest.first", "sediment/digest.rounds"], plainKeys := false, apart := false, laid := [("sediment/digest.rounds", laid_sediment_digest_rounds), ("sediment/digest.first", laid_sediment_digest_first), ("unicode/utf8.acceptRanges", laid_unicode_utf8_acceptRanges), ("unicode/utf8.first", laid_unicode_utf8_first)], narrowed := true }
def PathFindsUptoSaid : Prop := pathFindsUptoRow.holds Tryz.pinned (OpenSpec.upto pathFindsSpec)

/-- 'sedimentlaw26.PathOrder', WHERE WHAT IT READS IS OF BULK AT MOST 1048576: true; the input reads as it did. -/
def pathOrderUptoRow : OpenClaim := { program := "ytbmiiiccnoiffaagreatdoor", sum := "e9792ad4dbc6d945cde73ad858e625e3a5c93a87fec09544e13ec59f600804f6", func := "sediment/sedimentlaw26.PathOrder", spec := "pathOrder", inPlace := ["internal/bytealg.IndexByteString", "internal/bytealg.IndexString", "internal/abi.NoEscape", "internal/bytealg.Compare"], unfollowed := true, recurses := true, named := ["unicode/utf8.first", "unicode/utf8.acceptRanges", "internal/bytealg.MaxLen", "sediment/digest.first", "sediment/digest.rounds"], plainKeys := false, apart := false, laid := [("sediment/digest.rounds", laid_sediment_digest_rounds), ("sediment/digest.first", laid_sediment_digest_first), ("unicode/utf8.acceptRanges", laid_unicode_utf8_acceptRanges), ("unicode/utf8.first", laid_unicode_utf8_first)], narrowed := true }
def PathOrderUptoSaid : Prop := pathOrderUptoRow.holds Tryz.pinned (OpenSpec.upto pathOrderSpec)

/-- 'sedimentlaw28.HistoryTouches', WHERE WHAT IT READS IS OF BULK AT MOST 1048576: true; the input reads as it did. -/
def historyTouchesUptoRow : OpenClaim := { program := "ytbmiiiccnoiffaagreatdoor", sum := "e9792ad4dbc6d945cde73ad858e625e3a5c93a87fec09544e13ec59f600804f6", func := "sediment/sedimentlaw28.HistoryTouches", spec := "historyTouches", inPlace := ["internal/abi.NoEscape", "internal/bytealg.Compare", "internal/bytealg.IndexByteString", "internal/bytealg.IndexString"], unfollowed := true, recurses := true, named := ["sediment/digest.first", "sediment/digest.rounds", "unicode/utf8.first", "unicode/utf8.acceptRanges", "internal/bytealg.MaxLen"], plainKeys := false, apart := false, laid := [("sediment/digest.rounds", laid_sediment_digest_rounds), ("sediment/digest.first", laid_sediment_digest_first), ("unicode/utf8.acceptRanges", laid_unicode_utf8_acceptRanges), ("unicode/utf8.first", laid_unicode_utf8_first)], narrowed := true }
def HistoryTouchesUptoSaid : Prop := historyTouchesUptoRow.holds Tryz.pinned (OpenSpec.upto historyTouchesSpec)

/-- 'sedimentlaw26.PathTurns', WHERE WHAT IT READS IS OF BULK AT MOST 1048576: true; the input reads as it did. -/
def pathTurnsUptoRow : OpenClaim := { program := "ytbmiiiccnoiffaagreatdoor", sum := "e9792ad4dbc6d945cde73ad858e625e3a5c93a87fec09544e13ec59f600804f6", func := "sediment/sedimentlaw26.PathTurns", spec := "pathTurns", inPlace := ["internal/bytealg.IndexByteString", "internal/bytealg.IndexString", "internal/abi.NoEscape", "internal/bytealg.Compare"], unfollowed := true, recurses := true, named := ["unicode/utf8.first", "unicode/utf8.acceptRanges", "internal/bytealg.MaxLen", "sediment/digest.first", "sediment/digest.rounds"], plainKeys := false, apart := false, laid := [("sediment/digest.rounds", laid_sediment_digest_rounds), ("sediment/digest.first", laid_sediment_digest_first), ("unicode/utf8.acceptRanges", laid_unicode_utf8_acceptRanges), ("unicode/utf8.first", laid_unicode_utf8_first)], narrowed := true }
def PathTurnsUptoSaid : Prop := pathTurnsUptoRow.holds Tryz.pinned (OpenSpec.upto pathTurnsSpec)

end Rows
end Go.Proofs.YtbmiiiccnoiffaaGreatDoor
