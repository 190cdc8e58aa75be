/- Chapter 12: digits are compared. -/
import Derived.Test.YtamemdhmjglifaaGreatDoorQA
namespace Go.Proofs.YtamemdhmjglifaaGreatDoor
open Go.RowKit Go.AM
set_option maxRecDepth 100000
theorem w30 (S : AS) : (lower cfg0 60).call 118 [(dW 3).av, (dW 0).av] S = some (.tup [.v (.int .i64 (cmpN 3 0)), .v (.int .i64 0)], S) := by kernel_rfl
theorem w31 (S : AS) : (lower cfg0 60).call 118 [(dW 3).av, (dW 1).av] S = some (.tup [.v (.int .i64 (cmpN 3 1)), .v (.int .i64 0)], S) := by kernel_rfl
theorem w32 (S : AS) : (lower cfg0 60).call 118 [(dW 3).av, (dW 2).av] S = some (.tup [.v (.int .i64 (cmpN 3 2)), .v (.int .i64 0)], S) := by kernel_rfl
theorem w33 (S : AS) : (lower cfg0 60).call 118 [(dW 3).av, (dW 3).av] S = some (.tup [.v (.int .i64 (cmpN 3 3)), .v (.int .i64 0)], S) := by kernel_rfl
end Go.Proofs.YtamemdhmjglifaaGreatDoor
