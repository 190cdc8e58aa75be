/- TableWrong of chapter 17: the row's closed facts. -/
import Derived.Test.YtlfobfhklmndkaaGreatDoorRows
import Derived.ProofKit
import Derived.LaidMore
import Derived.OpenShut
import Derived.Stop.Joined
namespace Go.Proofs.YtlfobfhklmndkaaGreatDoor
open Go.ChangeShapes Go.WideShapes Go.ChangeAt Go.RowKit
set_option linter.unusedVariables false
theorem tj1 : (Tryz.prog.inPlace 3) = Rows.tableWrongRow.inPlace := by kernel_rfl
theorem tj2 : (Tryz.prog.unfollowed 3) = true := by kernel_rfl
theorem tj3 : (Tryz.prog.recurses 3) = true := by kernel_rfl
theorem tj4 : (Tryz.prog.varsNamed 3) = Rows.tableWrongRow.named := by kernel_rfl
theorem tj5 : Tryz.prog.mayEnter = true := by kernel_rfl
theorem tj6 : Tryz.prog.liftsFinal = Rows.tableWrongRow.lifted := by kernel_rfl
theorem tj7 : (Tryz.prog.make == some Rows.tableWrongRow.make) = true := by kernel_rfl
theorem tj8 : laidOutB Tryz.prog = true := by kernel_rfl
theorem tj9 : mapsRowed Tryz.prog = true := by kernel_rfl
theorem tj10 : Tryz.prog.plainKeys = Rows.tableWrongRow.plainKeys := by kernel_rfl
theorem tj11 : Tryz.prog.stopsHeard = true := by kernel_rfl
end Go.Proofs.YtlfobfhklmndkaaGreatDoor
