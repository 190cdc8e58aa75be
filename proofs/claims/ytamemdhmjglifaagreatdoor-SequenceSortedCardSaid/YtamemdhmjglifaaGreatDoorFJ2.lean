/- SequenceSorted of chapter 12: the row's closed facts, together. -/
import Derived.Test.YtamemdhmjglifaaGreatDoorFJ
namespace Go.Proofs.YtamemdhmjglifaaGreatDoor
open Go.ChangeShapes Go.WideShapes Go.ChangeAt Go.RowKit
set_option linter.unusedVariables false
theorem joined4 : joinedFacts Tryz.prog 4 Tryz.f4 Rows.sequenceSortedSpec Rows.sequenceSortedRow = true := by
  unfold joinedFacts
  rw [fj1, fj2, fj3, fj4, fj5, fj6, fj7, fj8, fj9, fj10, fj11]
  kernel_rfl
end Go.Proofs.YtamemdhmjglifaaGreatDoor
