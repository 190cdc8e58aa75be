/- TableWrong of chapter 17: closed facts of the card. -/
import Derived.Test.YtlfobfhklmndkaaGreatDoorRows
import Derived.ProofKit
import Derived.LaidMore
import Derived.OpenShut
import Derived.Stop.Joined
import Derived.SevenTiedAt
namespace Go.Proofs.YtlfobfhklmndkaaGreatDoor
open Go.ChangeShapes Go.WideShapes Go.ChangeAt Go.RowKit
set_option linter.unusedVariables false
theorem tq1 : Rows.tableWrongRow.wfByText (OpenSpec.ofChange Rows.tableWrongSpec) = true := by kernel_rfl
theorem tq2 : Tryz.pinned.checked.prog.mainIs = some (true, "f989c66d1abbc14645ec1dc99357c0191a71e6715a6e8dd8353d8a65d18e1f0a".toList) := by kernel_rfl
theorem tq3 : true = Tryz.prog.looks [] := by kernel_rfl
theorem tq4 : ([22, 22].all fun u => !Tryz.prog.wantsStandIn u) = true := by kernel_rfl
theorem tq6 : Tryz.prog.funcNamed "commonform/commonformlaw17.TableWrong" = some 3 := by kernel_rfl
end Go.Proofs.YtlfobfhklmndkaaGreatDoor
