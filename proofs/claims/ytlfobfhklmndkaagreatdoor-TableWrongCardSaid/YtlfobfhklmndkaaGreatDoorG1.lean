/- Chapter 17: two numbers are compared. -/
import Derived.Test.YtlfobfhklmndkaaGreatDoorG0
namespace Go.Proofs.YtlfobfhklmndkaaGreatDoor
open Go.RowKit Go.AM
set_option maxRecDepth 100000
theorem n78s (S : AS) : (lower cfg0 60).call 78 [fS] S = some (.v (.int .i64 0), S) := by kernel_rfl
theorem n78i (S : AS) : (lower cfg0 60).call 78 [fI] S = some (.v (.int .i64 0), S) := by kernel_rfl
end Go.Proofs.YtlfobfhklmndkaaGreatDoor
