/- TableWrong of chapter 17: the row's closed facts, together. -/
import Derived.Test.YtlfobfhklmndkaaGreatDoorTJ
namespace Go.Proofs.YtlfobfhklmndkaaGreatDoor
open Go.ChangeShapes Go.WideShapes Go.ChangeAt Go.RowKit
set_option linter.unusedVariables false
theorem joined3 : joinedFacts Tryz.prog 3 Tryz.f3 Rows.tableWrongSpec Rows.tableWrongRow = true := by
  unfold joinedFacts
  rw [tj1, tj2, tj3, tj4, tj5, tj6, tj7, tj8, tj9, tj10, tj11]
  kernel_rfl
end Go.Proofs.YtlfobfhklmndkaaGreatDoor
