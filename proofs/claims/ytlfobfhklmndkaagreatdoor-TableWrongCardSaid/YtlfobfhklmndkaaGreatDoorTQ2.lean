/- TableWrong of chapter 17: a closed fact of the card. -/
import Derived.Test.YtlfobfhklmndkaaGreatDoorRows
import Derived.ProofKit
import Derived.LaidMore
import Derived.OpenShut
import Derived.Stop.Joined
import Derived.SevenTiedAt
namespace Go.Proofs.YtlfobfhklmndkaaGreatDoor
open Go.ChangeShapes Go.WideShapes Go.ChangeAt Go.RowKit
set_option linter.unusedVariables false
theorem tq5 : false = Rows.tableWrongRow.goesBy Tryz.prog := by kernel_rfl
end Go.Proofs.YtlfobfhklmndkaaGreatDoor
