/- Chapter 17: a new heap, a new table, the reference's heap. -/
import Derived.Test.YtlfobfhklmndkaaGreatDoorG4b
namespace Go.Proofs.YtlfobfhklmndkaaGreatDoor
open Go.RowKit Go.AM
set_option maxRecDepth 100000
theorem z5 : (lower cfg 60).call 5 [.v (.int .i64 (Int.ofNat 1000)), .v (.int .i64 (Int.ofNat 500))] (AS.mk [] [] 0 0) = some (.tup [.ptr 2 0, .v (.int .i64 (Int.ofNat 0))], AS.mk hA [1] 0 0) := by kernel_rfl
theorem z6 : (lower cfg 60).call 6 [.ptr 2 0, .v (.int .i64 (Int.ofNat 0)), .v (.bool false)] (AS.mk hA [1] 0 0) = some (.tup [.v (.int .u64 (Int.ofNat 51)), .v (.int .i64 (Int.ofNat 0))], AS.mk hB [2] 0 0) := by kernel_rfl
theorem z7 (lo tl : Nat) : (lower cfg 60).call 7 [.v (.int .i64 (Int.ofNat 1000)), .v (.int .i64 (Int.ofNat 500))] (AS.mk hB [2] lo tl) = some (.tup [.agg plV, .v (.int .i64 (Int.ofNat 0))], AS.mk hB [2] lo tl) := by kernel_rfl
end Go.Proofs.YtlfobfhklmndkaaGreatDoor
