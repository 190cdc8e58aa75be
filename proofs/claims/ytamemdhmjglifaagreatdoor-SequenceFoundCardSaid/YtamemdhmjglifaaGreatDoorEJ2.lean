/- SequenceFound of chapter 12: the row's closed facts, together. -/
import Derived.Test.YtamemdhmjglifaaGreatDoorEJ
namespace Go.Proofs.YtamemdhmjglifaaGreatDoor
open Go.ChangeShapes Go.WideShapes Go.ChangeAt Go.RowKit
set_option linter.unusedVariables false
theorem joined11 : joinedFacts Tryz.prog 11 Tryz.f11 Rows.sequenceFoundSpec Rows.sequenceFoundRow = true := by
  unfold joinedFacts
  rw [ej1, ej2, ej3, ej4, ej5, ej6, ej7, ej8, ej9, ej10, ej11]
  kernel_rfl
end Go.Proofs.YtamemdhmjglifaaGreatDoor
