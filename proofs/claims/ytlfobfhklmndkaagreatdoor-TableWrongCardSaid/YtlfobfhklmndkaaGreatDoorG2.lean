/- Chapter 17: two numbers are compared. -/
import Derived.Test.YtlfobfhklmndkaaGreatDoorG0
namespace Go.Proofs.YtlfobfhklmndkaaGreatDoor
open Go.RowKit Go.AM
set_option maxRecDepth 100000
theorem n99 (S : AS) : (lower cfg0 60).call 99 [fS, fI] S = some (.tup [.v (.bool true), .v (.int .i64 0)], S) := by kernel_rfl
end Go.Proofs.YtlfobfhklmndkaaGreatDoor
