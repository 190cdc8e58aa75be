/- SequenceSorted of chapter 12: closed facts of the card. -/
import Derived.Test.YtamemdhmjglifaaGreatDoorRows
import Derived.ProofKit
import Derived.LaidMore
import Derived.OpenShut
import Derived.Stop.Joined
import Derived.SevenTiedAt
namespace Go.Proofs.YtamemdhmjglifaaGreatDoor
open Go.ChangeShapes Go.WideShapes Go.ChangeAt Go.RowKit
set_option linter.unusedVariables false
theorem fq1 : Rows.sequenceSortedRow.wfByText (OpenSpec.ofChange Rows.sequenceSortedSpec) = true := by kernel_rfl
theorem fq2 : Tryz.pinned.checked.prog.mainIs = some (true, "8d4120f1e15f64678e72a297acfdbdb30b6ab8c7548aaae89e2fb1b86f26f5fc".toList) := by kernel_rfl
theorem fq3 : true = Tryz.prog.looks [] := by kernel_rfl
theorem fq4 : ([34, 34].all fun u => !Tryz.prog.wantsStandIn u) = true := by kernel_rfl
theorem fq6 : Tryz.prog.funcNamed "commonform/commonformlaw12.SequenceSorted" = some 4 := by kernel_rfl
end Go.Proofs.YtamemdhmjglifaaGreatDoor
