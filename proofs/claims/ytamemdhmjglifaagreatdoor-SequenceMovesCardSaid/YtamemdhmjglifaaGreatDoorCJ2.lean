/- SequenceMoves of chapter 12: the row's closed facts, together. -/
import Derived.Test.YtamemdhmjglifaaGreatDoorCJ
namespace Go.Proofs.YtamemdhmjglifaaGreatDoor
open Go.ChangeShapes Go.WideShapes Go.ChangeAt Go.RowKit
set_option linter.unusedVariables false
theorem joined6 : joinedFacts Tryz.prog 6 Tryz.f6 Rows.sequenceMovesSpec Rows.sequenceMovesRow = true := by
  unfold joinedFacts
  rw [j1, j2, j3, j4, j5, j6, j7, j8, j9, j10, j11]
  kernel_rfl
end Go.Proofs.YtamemdhmjglifaaGreatDoor
