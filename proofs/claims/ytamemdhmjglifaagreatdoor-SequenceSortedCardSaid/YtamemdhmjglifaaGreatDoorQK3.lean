/- Chapter 12: digits are compared. -/
import Derived.Test.YtamemdhmjglifaaGreatDoorQA
namespace Go.Proofs.YtamemdhmjglifaaGreatDoor
open Go.RowKit Go.AM
set_option maxRecDepth 100000
theorem k30 (S : AS) : (lower cfg0 60).call 118 [dig 3, dig 0] S = some (.tup [.v (.int .i64 (cmpN 3 0)), .v (.int .i64 0)], S) := by kernel_rfl
theorem k31 (S : AS) : (lower cfg0 60).call 118 [dig 3, dig 1] S = some (.tup [.v (.int .i64 (cmpN 3 1)), .v (.int .i64 0)], S) := by kernel_rfl
theorem k32 (S : AS) : (lower cfg0 60).call 118 [dig 3, dig 2] S = some (.tup [.v (.int .i64 (cmpN 3 2)), .v (.int .i64 0)], S) := by kernel_rfl
theorem k33 (S : AS) : (lower cfg0 60).call 118 [dig 3, dig 3] S = some (.tup [.v (.int .i64 (cmpN 3 3)), .v (.int .i64 0)], S) := by kernel_rfl
end Go.Proofs.YtamemdhmjglifaaGreatDoor
