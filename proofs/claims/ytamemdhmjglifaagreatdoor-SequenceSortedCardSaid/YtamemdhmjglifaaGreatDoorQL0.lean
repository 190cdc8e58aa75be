/- Chapter 12: digits are compared. -/
import Derived.Test.YtamemdhmjglifaaGreatDoorQA
namespace Go.Proofs.YtamemdhmjglifaaGreatDoor
open Go.RowKit Go.AM
set_option maxRecDepth 100000
theorem w00 (S : AS) : (lower cfg0 60).call 118 [(dW 0).av, (dW 0).av] S = some (.tup [.v (.int .i64 (cmpN 0 0)), .v (.int .i64 0)], S) := by kernel_rfl
theorem w01 (S : AS) : (lower cfg0 60).call 118 [(dW 0).av, (dW 1).av] S = some (.tup [.v (.int .i64 (cmpN 0 1)), .v (.int .i64 0)], S) := by kernel_rfl
theorem w02 (S : AS) : (lower cfg0 60).call 118 [(dW 0).av, (dW 2).av] S = some (.tup [.v (.int .i64 (cmpN 0 2)), .v (.int .i64 0)], S) := by kernel_rfl
theorem w03 (S : AS) : (lower cfg0 60).call 118 [(dW 0).av, (dW 3).av] S = some (.tup [.v (.int .i64 (cmpN 0 3)), .v (.int .i64 0)], S) := by kernel_rfl
end Go.Proofs.YtamemdhmjglifaaGreatDoor
