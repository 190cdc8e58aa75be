/- Chapter 12: digits are compared. -/
import Derived.Test.YtamemdhmjglifaaGreatDoorQA
namespace Go.Proofs.YtamemdhmjglifaaGreatDoor
open Go.RowKit Go.AM
set_option maxRecDepth 100000
theorem k20 (S : AS) : (lower cfg0 60).call 118 [dig 2, dig 0] S = some (.tup [.v (.int .i64 (cmpN 2 0)), .v (.int .i64 0)], S) := by kernel_rfl
theorem k21 (S : AS) : (lower cfg0 60).call 118 [dig 2, dig 1] S = some (.tup [.v (.int .i64 (cmpN 2 1)), .v (.int .i64 0)], S) := by kernel_rfl
theorem k22 (S : AS) : (lower cfg0 60).call 118 [dig 2, dig 2] S = some (.tup [.v (.int .i64 (cmpN 2 2)), .v (.int .i64 0)], S) := by kernel_rfl
theorem k23 (S : AS) : (lower cfg0 60).call 118 [dig 2, dig 3] S = some (.tup [.v (.int .i64 (cmpN 2 3)), .v (.int .i64 0)], S) := by kernel_rfl
end Go.Proofs.YtamemdhmjglifaaGreatDoor
