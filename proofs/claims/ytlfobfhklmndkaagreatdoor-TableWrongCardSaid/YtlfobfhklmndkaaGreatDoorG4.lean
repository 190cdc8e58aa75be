/- Chapter 17: a new heap with a new table, and the reference's heap. -/
import Derived.Test.YtlfobfhklmndkaaGreatDoorG0
namespace Go.Proofs.YtlfobfhklmndkaaGreatDoor
open Go.RowKit Go.AM
abbrev nilR : List (List AV) := [[.v (.int .u64 (Int.ofNat 3))], [.v (.int .u64 (Int.ofNat 3))], [.v (.int .u64 (Int.ofNat 3))], [.v (.int .u64 (Int.ofNat 3))], [.v (.int .u64 (Int.ofNat 3))]]
abbrev plV : List AV := [.v (.int .i64 (Int.ofNat 1000)), .v (.int .i64 (Int.ofNat 500)), .lst .exact [[.v (.int .i64 (Int.ofNat 1)), .v (.int .i64 (Int.ofNat 0)), .v (.bool false), .v (.string (ByteArray.mk #[])), .lst .exact nilR]], .v (.int .i64 (Int.ofNat 1)), .v (.slice none 0 0), .v (.int .i64 (Int.ofNat 0)), .v (.int .i64 (Int.ofNat 0))]
abbrev tabV : List AV := [.v (.int .u64 (Int.ofNat 0)), .v (.int .u64 (Int.ofNat 0)), .v (.int .u64 (Int.ofNat 0)), .v (.int .u64 (Int.ofNat 3)), .v (.int .u64 (Int.ofNat 3))]
abbrev hO : List AObj := [.map [⟨.v (.int .i64 (Int.ofNat 0)), .ptr 3 0, 0⟩, ⟨.v (.int .i64 (Int.ofNat 6)), .ptr 5 0, 1⟩] 2, .map [] 0,
  .cells [.v (.int .i64 (Int.ofNat 1000)), .v (.int .i64 (Int.ofNat 500)), .lst (.tok 0 2 1) [[.ptr 3 0], [.ptr 5 0]], .mp 0, .v (.int .i64 (Int.ofNat 12)), .v (.int .i64 (Int.ofNat 6)), .v (.int .i64 (Int.ofNat 0)), .v (.int .i64 (Int.ofNat 0)), .mp 1] 59,
  .cells [.v (.int .i64 (Int.ofNat 1)), .v (.bool false), .v (.string (ByteArray.mk #[])), .lst .exact nilR, .v (.int .i64 (Int.ofNat 0))] 63,
  .cells tabV 27,
  .cells [.v (.int .i64 (Int.ofNat 13)), .v (.bool false), .v (.string (ByteArray.mk #[])), .slc 4 1 0 5 5, .v (.int .i64 (Int.ofNat 6))] 63,
  .cells plV 33]
/-- The same, with two boxes of Keys. -/
abbrev hO2 : List AObj := [.map [⟨.v (.int .i64 (Int.ofNat 0)), .ptr 3 0, 0⟩, ⟨.v (.int .i64 (Int.ofNat 6)), .ptr 5 0, 1⟩] 2, .map [] 0,
  .cells [.v (.int .i64 (Int.ofNat 1000)), .v (.int .i64 (Int.ofNat 500)), .lst (.tok 0 2 1) [[.ptr 3 0], [.ptr 5 0]], .mp 0, .v (.int .i64 (Int.ofNat 12)), .v (.int .i64 (Int.ofNat 6)), .v (.int .i64 (Int.ofNat 0)), .v (.int .i64 (Int.ofNat 0)), .mp 1] 59,
  .cells [.v (.int .i64 (Int.ofNat 1)), .v (.bool false), .v (.string (ByteArray.mk #[])), .lst .exact nilR, .v (.int .i64 (Int.ofNat 0))] 63,
  .cells tabV 27,
  .cells [.v (.int .i64 (Int.ofNat 13)), .v (.bool false), .v (.string (ByteArray.mk #[])), .slc 4 1 0 5 5, .v (.int .i64 (Int.ofNat 6))] 63,
  .cells plV 33,
  .cells [.ptr 2 0] 23, .cells [.v (.int .i64 (Int.ofNat 0))] 3]
/-- The heap with an entry more, whose key is x. -/
abbrev hO3 (x : Int) : List AObj := [.map [⟨.v (.int .i64 (Int.ofNat 0)), .ptr 3 0, 0⟩, ⟨.v (.int .i64 (Int.ofNat 6)), .ptr 5 0, 1⟩, ⟨.v (.int .i64 (Int.ofNat 12)), .ptr 8 0, 2⟩] 3, .map [] 0,
  .cells [.v (.int .i64 (Int.ofNat 1000)), .v (.int .i64 (Int.ofNat 500)), .lst (.tok 0 3 1) [[.ptr 3 0], [.ptr 5 0], [.ptr 8 0]], .mp 0, .v (.int .i64 (Int.ofNat 17)), .v (.int .i64 (Int.ofNat 6)), .v (.int .i64 (Int.ofNat 0)), .v (.int .i64 (Int.ofNat 0)), .mp 1] 59,
  .cells [.v (.int .i64 (Int.ofNat 1)), .v (.bool false), .v (.string (ByteArray.mk #[])), .lst .exact nilR, .v (.int .i64 (Int.ofNat 0))] 63,
  .cells tabV 27,
  .cells [.v (.int .i64 (Int.ofNat 13)), .v (.bool false), .v (.string (ByteArray.mk #[])), .slc 4 1 0 5 5, .v (.int .i64 (Int.ofNat 6))] 63,
  .cells plV 33,
  .cells [.v (.int .u64 x), .v (.int .u64 (Int.ofNat 3)), .v (.int .u64 (Int.ofNat 3)), .v (.int .u64 (Int.ofNat 3))] 27, .cells [.v (.int .i64 (Int.ofNat 14)), .v (.bool false), .v (.string (ByteArray.mk #[])), .slc 7 1 0 4 4, .v (.int .i64 (Int.ofNat 12))] 63]
/-- The heap behind Put. -/
abbrev hO5 (key : Int) : List AObj := [AObj.map [AEnt.mk (AV.v (Value.int IntKind.i64 (Int.ofNat 0))) (AV.ptr 3 0) 0, AEnt.mk (AV.v (Value.int IntKind.i64 (Int.ofNat 6))) (AV.ptr 5 0) 1, AEnt.mk (AV.v (Value.int IntKind.i64 (Int.ofNat 12))) (AV.ptr 8 0) 2] 3, AObj.map [] 0, AObj.cells [AV.v (Value.int IntKind.i64 (Int.ofNat 1000)), AV.v (Value.int IntKind.i64 (Int.ofNat 500)), AV.lst (Cap.tok 0 3 1) [[AV.ptr 3 0], [AV.ptr 5 0], [AV.ptr 8 0]], AV.mp 0, AV.v (Value.int IntKind.i64 (Int.ofNat 17)), AV.v (Value.int IntKind.i64 (Int.ofNat 6)), AV.v (Value.int IntKind.i64 (Int.ofNat 0)), AV.v (Value.int IntKind.i64 (Int.ofNat 0)), AV.mp 1] 59, AObj.cells [AV.v (Value.int IntKind.i64 (Int.ofNat 1)), AV.v (Value.bool false), AV.v (Value.string (ByteArray.mk #[])), AV.lst Cap.exact [[AV.v (Value.int IntKind.u64 (Int.ofNat 3))], [AV.v (Value.int IntKind.u64 (Int.ofNat 3))], [AV.v (Value.int IntKind.u64 (Int.ofNat 3))], [AV.v (Value.int IntKind.u64 (Int.ofNat 3))], [AV.v (Value.int IntKind.u64 (Int.ofNat 3))]], AV.v (Value.int IntKind.i64 (Int.ofNat 0))] 63, AObj.cells [AV.v (Value.int IntKind.u64 (Int.ofNat 0)), AV.v (Value.int IntKind.u64 (Int.ofNat 0)), AV.v (Value.int IntKind.u64 (Int.ofNat 8)), AV.v (Value.int IntKind.u64 (Int.ofNat 99)), AV.v (Value.int IntKind.u64 (Int.ofNat 3))] 27, AObj.cells [AV.v (Value.int IntKind.i64 (Int.ofNat 13)), AV.v (Value.bool false), AV.v (Value.string (ByteArray.mk #[])), AV.slc 4 1 0 5 5, AV.v (Value.int IntKind.i64 (Int.ofNat 6))] 63, AObj.cells [AV.v (Value.int IntKind.i64 (Int.ofNat 1000)), AV.v (Value.int IntKind.i64 (Int.ofNat 500)), AV.lst Cap.exact [[AV.v (Value.int IntKind.i64 (Int.ofNat 1)), AV.v (Value.int IntKind.i64 (Int.ofNat 0)), AV.v (Value.bool false), AV.v (Value.string (ByteArray.mk #[])), AV.lst Cap.exact [[AV.v (Value.int IntKind.u64 (Int.ofNat 3))], [AV.v (Value.int IntKind.u64 (Int.ofNat 3))], [AV.v (Value.int IntKind.u64 (Int.ofNat 3))], [AV.v (Value.int IntKind.u64 (Int.ofNat 3))], [AV.v (Value.int IntKind.u64 (Int.ofNat 3))]]]], AV.v (Value.int IntKind.i64 (Int.ofNat 1)), AV.v (Value.slice none 0 0), AV.v (Value.int IntKind.i64 (Int.ofNat 0)), AV.v (Value.int IntKind.i64 (Int.ofNat 0))] 33, AObj.cells [AV.v (Value.int IntKind.u64 key), AV.v (Value.int IntKind.u64 (Int.ofNat 3)), AV.v (Value.int IntKind.u64 (Int.ofNat 3)), AV.v (Value.int IntKind.u64 (Int.ofNat 0))] 27, AObj.cells [AV.v (Value.int IntKind.i64 (Int.ofNat 14)), AV.v (Value.bool false), AV.v (Value.string (ByteArray.mk #[])), AV.slc 7 1 0 4 4, AV.v (Value.int IntKind.i64 (Int.ofNat 12))] 63, AObj.cells [AV.v (Value.int IntKind.i64 (Int.ofNat 1))] 3, AObj.cells [AV.ptr 2 0] 23, AObj.cells [AV.v (Value.int IntKind.u64 (Int.ofNat 51))] 27, AObj.dead, AObj.dead]
end Go.Proofs.YtlfobfhklmndkaaGreatDoor
