/- SequenceMoves of chapter 12: the row's closed facts. -/
import Derived.Test.YtamemdhmjglifaaGreatDoorRows
import Derived.ProofKit
import Derived.LaidMore
import Derived.OpenShut
import Derived.Stop.Joined
namespace Go.Proofs.YtamemdhmjglifaaGreatDoor
open Go.ChangeShapes Go.WideShapes Go.ChangeAt Go.RowKit
set_option linter.unusedVariables false
theorem j1 : (Tryz.prog.inPlace 6) = Rows.sequenceMovesRow.inPlace := by kernel_rfl
theorem j2 : (Tryz.prog.unfollowed 6) = true := by kernel_rfl
theorem j3 : (Tryz.prog.recurses 6) = true := by kernel_rfl
theorem j4 : (Tryz.prog.varsNamed 6) = Rows.sequenceMovesRow.named := by kernel_rfl
theorem j5 : Tryz.prog.mayEnter = true := by kernel_rfl
theorem j6 : Tryz.prog.liftsFinal = Rows.sequenceMovesRow.lifted := by kernel_rfl
theorem j7 : (Tryz.prog.make == some Rows.sequenceMovesRow.make) = true := by kernel_rfl
theorem j8 : laidOutB Tryz.prog = true := by kernel_rfl
theorem j9 : mapsRowed Tryz.prog = true := by kernel_rfl
theorem j10 : Tryz.prog.plainKeys = Rows.sequenceMovesRow.plainKeys := by kernel_rfl
theorem j11 : Tryz.prog.stopsHeard = true := by kernel_rfl
end Go.Proofs.YtamemdhmjglifaaGreatDoor
