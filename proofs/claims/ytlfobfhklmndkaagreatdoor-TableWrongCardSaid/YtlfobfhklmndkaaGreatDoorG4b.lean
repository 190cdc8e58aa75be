/- Chapter 17: a new heap; a new table in it. -/
import Derived.Test.YtlfobfhklmndkaaGreatDoorG4
namespace Go.Proofs.YtlfobfhklmndkaaGreatDoor
open Go.RowKit Go.AM
abbrev hA : List AObj := [.map [⟨.v (.int .i64 (Int.ofNat 0)), .ptr 3 0, 0⟩] 1, .map [] 0,
  .cells [.v (.int .i64 (Int.ofNat 1000)), .v (.int .i64 (Int.ofNat 500)), .lst (.tok 0 1 1) [[.ptr 3 0]], .mp 0, .v (.int .i64 (Int.ofNat 6)), .v (.int .i64 (Int.ofNat 6)), .v (.int .i64 (Int.ofNat 0)), .v (.int .i64 (Int.ofNat 0)), .mp 1] 59,
  .cells [.v (.int .i64 (Int.ofNat 1)), .v (.bool false), .v (.string (ByteArray.mk #[])), .lst .exact nilR, .v (.int .i64 (Int.ofNat 0))] 63]
abbrev hB : List AObj := [.map [⟨.v (.int .i64 (Int.ofNat 0)), .ptr 3 0, 0⟩, ⟨.v (.int .i64 (Int.ofNat 6)), .ptr 5 0, 1⟩] 2, .map [] 0,
  .cells [.v (.int .i64 (Int.ofNat 1000)), .v (.int .i64 (Int.ofNat 500)), .lst (.tok 0 2 1) [[.ptr 3 0], [.ptr 5 0]], .mp 0, .v (.int .i64 (Int.ofNat 12)), .v (.int .i64 (Int.ofNat 6)), .v (.int .i64 (Int.ofNat 0)), .v (.int .i64 (Int.ofNat 0)), .mp 1] 59,
  .cells [.v (.int .i64 (Int.ofNat 1)), .v (.bool false), .v (.string (ByteArray.mk #[])), .lst .exact nilR, .v (.int .i64 (Int.ofNat 0))] 63,
  .cells tabV 27,
  .cells [.v (.int .i64 (Int.ofNat 13)), .v (.bool false), .v (.string (ByteArray.mk #[])), .slc 4 1 0 5 5, .v (.int .i64 (Int.ofNat 6))] 63]
end Go.Proofs.YtlfobfhklmndkaaGreatDoor
