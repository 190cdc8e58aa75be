/- Chapter 12: digits are compared. -/
import Derived.Test.YtamemdhmjglifaaGreatDoorQA
namespace Go.Proofs.YtamemdhmjglifaaGreatDoor
open Go.RowKit Go.AM
set_option maxRecDepth 100000
theorem w10 (S : AS) : (lower cfg0 60).call 118 [(dW 1).av, (dW 0).av] S = some (.tup [.v (.int .i64 (cmpN 1 0)), .v (.int .i64 0)], S) := by kernel_rfl
theorem w11 (S : AS) : (lower cfg0 60).call 118 [(dW 1).av, (dW 1).av] S = some (.tup [.v (.int .i64 (cmpN 1 1)), .v (.int .i64 0)], S) := by kernel_rfl
theorem w12 (S : AS) : (lower cfg0 60).call 118 [(dW 1).av, (dW 2).av] S = some (.tup [.v (.int .i64 (cmpN 1 2)), .v (.int .i64 0)], S) := by kernel_rfl
theorem w13 (S : AS) : (lower cfg0 60).call 118 [(dW 1).av, (dW 3).av] S = some (.tup [.v (.int .i64 (cmpN 1 3)), .v (.int .i64 0)], S) := by kernel_rfl
end Go.Proofs.YtamemdhmjglifaaGreatDoor
