/- SequenceFound of chapter 12: the row's closed facts. -/
import Derived.Test.YtamemdhmjglifaaGreatDoorRows
import Derived.ProofKit
import Derived.LaidMore
import Derived.OpenShut
import Derived.Stop.Joined
namespace Go.Proofs.YtamemdhmjglifaaGreatDoor
open Go.ChangeShapes Go.WideShapes Go.ChangeAt Go.RowKit
set_option linter.unusedVariables false
theorem ej1 : (Tryz.prog.inPlace 11) = Rows.sequenceFoundRow.inPlace := by kernel_rfl
theorem ej2 : (Tryz.prog.unfollowed 11) = true := by kernel_rfl
theorem ej3 : (Tryz.prog.recurses 11) = true := by kernel_rfl
theorem ej4 : (Tryz.prog.varsNamed 11) = Rows.sequenceFoundRow.named := by kernel_rfl
theorem ej5 : Tryz.prog.mayEnter = true := by kernel_rfl
theorem ej6 : Tryz.prog.liftsFinal = Rows.sequenceFoundRow.lifted := by kernel_rfl
theorem ej7 : (Tryz.prog.make == some Rows.sequenceFoundRow.make) = true := by kernel_rfl
theorem ej8 : laidOutB Tryz.prog = true := by kernel_rfl
theorem ej9 : mapsRowed Tryz.prog = true := by kernel_rfl
theorem ej10 : Tryz.prog.plainKeys = Rows.sequenceFoundRow.plainKeys := by kernel_rfl
theorem ej11 : Tryz.prog.stopsHeard = true := by kernel_rfl
end Go.Proofs.YtamemdhmjglifaaGreatDoor
