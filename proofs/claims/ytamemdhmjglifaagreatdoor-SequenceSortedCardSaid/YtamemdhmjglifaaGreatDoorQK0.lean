/- Chapter 12: digits are compared. -/
import Derived.Test.YtamemdhmjglifaaGreatDoorQA
namespace Go.Proofs.YtamemdhmjglifaaGreatDoor
open Go.RowKit Go.AM
set_option maxRecDepth 100000
theorem k00 (S : AS) : (lower cfg0 60).call 118 [dig 0, dig 0] S = some (.tup [.v (.int .i64 (cmpN 0 0)), .v (.int .i64 0)], S) := by kernel_rfl
theorem k01 (S : AS) : (lower cfg0 60).call 118 [dig 0, dig 1] S = some (.tup [.v (.int .i64 (cmpN 0 1)), .v (.int .i64 0)], S) := by kernel_rfl
theorem k02 (S : AS) : (lower cfg0 60).call 118 [dig 0, dig 2] S = some (.tup [.v (.int .i64 (cmpN 0 2)), .v (.int .i64 0)], S) := by kernel_rfl
theorem k03 (S : AS) : (lower cfg0 60).call 118 [dig 0, dig 3] S = some (.tup [.v (.int .i64 (cmpN 0 3)), .v (.int .i64 0)], S) := by kernel_rfl
end Go.Proofs.YtamemdhmjglifaaGreatDoor
