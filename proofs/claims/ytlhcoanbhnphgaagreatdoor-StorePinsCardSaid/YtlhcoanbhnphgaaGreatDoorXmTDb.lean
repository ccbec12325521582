/- The law StorePins: for every input the call returns true, and each argument reads as it read. The row lists four of the program's variables with what they hold; the card ties them to the text. -/
import Derived.Test.YtlhcoanbhnphgaaGreatDoorRows
import Derived.Test.YtlhcoanbhnphgaaGreatDoorCards
import Derived.Test.YtlhcoanbhnphgaaGreatDoorTie
import Derived.ChangeAt
import Derived.Test.YtlhcoanbhnphgaaGreatDoorXmTD
import Derived.Test.YtlhcoanbhnphgaaGreatDoorXmTDa
import Derived.OpenShut
import Derived.ShutString
import Derived.Lay
import Derived.LaidOnce
import Derived.SevenTiedAt
import Derived.Stop.Joined
namespace Go.Proofs.YtlhcoanbhnphgaaGreatDoor.storePins
open Go.ChangeShapes Go.WideShapes Go.ChangeAt Go.RowKit
open Go.ChangeMaps (open_string shut_string)
set_option linter.unusedVariables false

theorem over : Rows.StorePinsSaid :=
  OpenClaim.holds_of_wide 4 Tryz.f4 rfl rfl rfl rfl rfl rfl rfl ⟨rfl, rfl, rfl, rfl, rfl⟩ rfl rfl rfl rfl rfl (by kernel_rfl) Tryz.func4 joined
    (of_decide_eq_true (by kernel_rfl)) (by unfold Func.isWrapper; first | (rw [if_pos (by decide +kernel)]; kernel_rfl) | (rw [if_neg (by decide +kernel)]; exact ⟨rfl, rfl⟩))
    (fun os started H enc _ => lifted os started H enc)

theorem proved : Rows.StorePinsCardSaid :=
  Claim7.holds_tied_plain_at .later [] [.data, .data, .data, .data] true (true, "eca1cd934ec47fdfa2147dd3bb1c678db70d4f9d05c0bc7a0f67819313159850") true
    over (fun _ h => by cases h) (by kernel_rfl) (fun _ h => by cases h) storePins_row_tie rfl ⟨rfl, rfl⟩ (by kernel_rfl) rfl
    (fun f fn hf hfn => by
      obtain rfl : f = 4 := Option.some.inj ((show Tryz.prog.funcNamed "sediment/sedimentlaw21.StorePins" = some 4 by kernel_rfl).symm.trans hf) |>.symm
      obtain rfl : fn = Tryz.f4 := (Option.some.inj (Tryz.func4.symm.trans hfn)).symm
      exact ⟨by kernel_rfl, fun j t ht => by
        rw [Tryz.params4] at ht
        have hm : t ∈ [22] := by
          have := Array.mem_of_getElem? ht
          simp at this
          subst this; simp
        have hall : ([22].all fun u => !Tryz.prog.wantsStandIn u) = true := by kernel_rfl
        exact (show Tryz.prog.wantsStandIn t = false by simpa using List.all_eq_true.1 hall t hm)⟩)
    (by kernel_rfl)
end Go.Proofs.YtlhcoanbhnphgaaGreatDoor.storePins
