/- The law RepairObjects: for every input the call returns true, and each argument reads as it read. The row lists four of the program's variables with what they hold; the card ties them to the text. -/
import Derived.Test.YtejamhkgjkhjdaaGreatDoorRows
import Derived.Test.YtejamhkgjkhjdaaGreatDoorCards
import Derived.Test.YtejamhkgjkhjdaaGreatDoorTie
import Derived.ChangeAt
import Derived.Test.YtejamhkgjkhjdaaGreatDoorXnVR
import Derived.Test.YtejamhkgjkhjdaaGreatDoorXnVRa
import Derived.Test.YtejamhkgjkhjdaaGreatDoorXnVRc
import Derived.OpenShut
import Derived.ShutString
import Derived.Lay
import Derived.LaidOnce
import Derived.SevenTiedAt
import Derived.Stop.Joined
namespace Go.Proofs.YtejamhkgjkhjdaaGreatDoor.repairObjects
open Go.ChangeShapes Go.WideShapes Go.ChangeAt Go.RowKit
open Go.ChangeMaps (open_string shut_string)
set_option linter.unusedVariables false

theorem over : Rows.RepairObjectsSaid :=
  OpenClaim.holds_of_wide 3 Tryz.f3 rfl rfl rfl rfl rfl rfl rfl ⟨rfl, rfl, rfl, rfl, rfl⟩ rfl rfl rfl rfl rfl (by kernel_rfl) Tryz.func3 joined
    (of_decide_eq_true (by kernel_rfl)) (by unfold Func.isWrapper; first | (rw [if_pos (by decide +kernel)]; kernel_rfl) | (rw [if_neg (by decide +kernel)]; exact ⟨rfl, rfl⟩))
    (fun os started H enc _ => lifted os started H enc)

theorem proved : Rows.RepairObjectsCardSaid :=
  Claim7.holds_tied_plain_at .later [] [.data, .data, .data, .data] true (true, "42a0e776ebf7db3c1e1b95783fd35b8df0030abc53d84a2b523666180cbffffe") false
    over (fun _ h => by cases h) (by kernel_rfl) (fun _ h => by cases h) repairObjects_row_tie rfl ⟨rfl, rfl⟩ (by kernel_rfl) rfl
    (fun f fn hf hfn => by
      obtain rfl : f = 3 := Option.some.inj ((show Tryz.prog.funcNamed "sediment/sedimentlaw25.RepairObjects" = some 3 by kernel_rfl).symm.trans hf) |>.symm
      obtain rfl : fn = Tryz.f3 := (Option.some.inj (Tryz.func3.symm.trans hfn)).symm
      exact ⟨by kernel_rfl, fun j t ht => by
        rw [Tryz.params3] at ht
        have hm : t ∈ [9] := by
          have := Array.mem_of_getElem? ht
          simp at this
          subst this; simp
        have hall : ([9].all fun u => !Tryz.prog.wantsStandIn u) = true := by kernel_rfl
        exact (show Tryz.prog.wantsStandIn t = false by simpa using List.all_eq_true.1 hall t hm)⟩)
    JZ
end Go.Proofs.YtejamhkgjkhjdaaGreatDoor.repairObjects
