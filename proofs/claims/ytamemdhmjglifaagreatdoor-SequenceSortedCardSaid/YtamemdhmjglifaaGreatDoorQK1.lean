/- Chapter 12: digits are compared. -/
import Derived.Test.YtamemdhmjglifaaGreatDoorQA
namespace Go.Proofs.YtamemdhmjglifaaGreatDoor
open Go.RowKit Go.AM
set_option maxRecDepth 100000
theorem k10 (S : AS) : (lower cfg0 60).call 118 [dig 1, dig 0] S = some (.tup [.v (.int .i64 (cmpN 1 0)), .v (.int .i64 0)], S) := by kernel_rfl
theorem k11 (S : AS) : (lower cfg0 60).call 118 [dig 1, dig 1] S = some (.tup [.v (.int .i64 (cmpN 1 1)), .v (.int .i64 0)], S) := by kernel_rfl
theorem k12 (S : AS) : (lower cfg0 60).call 118 [dig 1, dig 2] S = some (.tup [.v (.int .i64 (cmpN 1 2)), .v (.int .i64 0)], S) := by kernel_rfl
theorem k13 (S : AS) : (lower cfg0 60).call 118 [dig 1, dig 3] S = some (.tup [.v (.int .i64 (cmpN 1 3)), .v (.int .i64 0)], S) := by kernel_rfl
end Go.Proofs.YtamemdhmjglifaaGreatDoor
