/- SequenceSorted of chapter 12: the row's closed facts. -/
import Derived.Test.YtamemdhmjglifaaGreatDoorRows
import Derived.ProofKit
import Derived.LaidMore
import Derived.OpenShut
import Derived.Stop.Joined
namespace Go.Proofs.YtamemdhmjglifaaGreatDoor
open Go.ChangeShapes Go.WideShapes Go.ChangeAt Go.RowKit
set_option linter.unusedVariables false
theorem fj1 : (Tryz.prog.inPlace 4) = Rows.sequenceSortedRow.inPlace := by kernel_rfl
theorem fj2 : (Tryz.prog.unfollowed 4) = true := by kernel_rfl
theorem fj3 : (Tryz.prog.recurses 4) = true := by kernel_rfl
theorem fj4 : (Tryz.prog.varsNamed 4) = Rows.sequenceSortedRow.named := by kernel_rfl
theorem fj5 : Tryz.prog.mayEnter = true := by kernel_rfl
theorem fj6 : Tryz.prog.liftsFinal = Rows.sequenceSortedRow.lifted := by kernel_rfl
theorem fj7 : (Tryz.prog.make == some Rows.sequenceSortedRow.make) = true := by kernel_rfl
theorem fj8 : laidOutB Tryz.prog = true := by kernel_rfl
theorem fj9 : mapsRowed Tryz.prog = true := by kernel_rfl
theorem fj10 : Tryz.prog.plainKeys = Rows.sequenceSortedRow.plainKeys := by kernel_rfl
theorem fj11 : Tryz.prog.stopsHeard = true := by kernel_rfl
end Go.Proofs.YtamemdhmjglifaaGreatDoor
