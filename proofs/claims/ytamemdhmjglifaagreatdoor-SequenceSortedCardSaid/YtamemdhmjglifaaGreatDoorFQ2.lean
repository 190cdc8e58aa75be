/- SequenceSorted of chapter 12: a closed fact of the card. -/
import Derived.Test.YtamemdhmjglifaaGreatDoorRows
import Derived.ProofKit
import Derived.LaidMore
import Derived.OpenShut
import Derived.Stop.Joined
import Derived.SevenTiedAt
namespace Go.Proofs.YtamemdhmjglifaaGreatDoor
open Go.ChangeShapes Go.WideShapes Go.ChangeAt Go.RowKit
set_option linter.unusedVariables false
theorem fq5 : false = Rows.sequenceSortedRow.goesBy Tryz.prog := by kernel_rfl
end Go.Proofs.YtamemdhmjglifaaGreatDoor
