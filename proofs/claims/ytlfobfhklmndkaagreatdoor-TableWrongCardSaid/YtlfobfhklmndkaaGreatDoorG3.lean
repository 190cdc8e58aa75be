/- Chapter 17: two numbers are compared. -/
import Derived.Test.YtlfobfhklmndkaaGreatDoorG0
namespace Go.Proofs.YtlfobfhklmndkaaGreatDoor
open Go.RowKit Go.AM
set_option maxRecDepth 100000
theorem n100 (S : AS) : (lower cfg0 60).call 100 [fS, fI] S = some (.tup [.v (.bool false), .v (.int .i64 0)], S) := by kernel_rfl
end Go.Proofs.YtlfobfhklmndkaaGreatDoor
