/- SequenceFound of chapter 12: closed facts of the card. -/
import Derived.Test.YtamemdhmjglifaaGreatDoorRows
import Derived.ProofKit
import Derived.LaidMore
import Derived.OpenShut
import Derived.Stop.Joined
import Derived.SevenTiedAt
namespace Go.Proofs.YtamemdhmjglifaaGreatDoor
open Go.ChangeShapes Go.WideShapes Go.ChangeAt Go.RowKit
set_option linter.unusedVariables false
theorem eq1 : Rows.sequenceFoundRow.wfByText (OpenSpec.ofChange Rows.sequenceFoundSpec) = true := by kernel_rfl
theorem eq2 : Tryz.pinned.checked.prog.mainIs = some (true, "8d4120f1e15f64678e72a297acfdbdb30b6ab8c7548aaae89e2fb1b86f26f5fc".toList) := by kernel_rfl
theorem eq3 : true = Tryz.prog.looks [] := by kernel_rfl
theorem eq4 : ([34, 5, 5, 4].all fun u => !Tryz.prog.wantsStandIn u) = true := by kernel_rfl
theorem eq6 : Tryz.prog.funcNamed "commonform/commonformlaw12.SequenceFound" = some 11 := by kernel_rfl
end Go.Proofs.YtamemdhmjglifaaGreatDoor
