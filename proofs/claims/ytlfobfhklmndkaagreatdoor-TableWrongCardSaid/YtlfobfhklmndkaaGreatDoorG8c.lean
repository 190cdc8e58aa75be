/- Chapter 17: TableWrong returns true. -/
import Derived.Test.YtlfobfhklmndkaaGreatDoorG8a
import Derived.Test.YtlfobfhklmndkaaGreatDoorG8b
import Derived.Test.YtlfobfhklmndkaaGreatDoorG8d
import Derived.Test.YtlfobfhklmndkaaGreatDoorGZ
import Derived.Test.YtlfobfhklmndkaaGreatDoorGA
namespace Go.Proofs.YtlfobfhklmndkaaGreatDoor
open Go.RowKit Go.AM
set_option maxRecDepth 100000
set_option linter.unusedVariables false
theorem z5n (n : Nat) : (lower cfg (n + 60)).call 5 [.v (.int .i64 (Int.ofNat 1000)), .v (.int .i64 (Int.ofNat 500))] (AS.mk [] [] 0 0) = some (.tup [.ptr 2 0, .v (.int .i64 (Int.ofNat 0))], AS.mk hA [1] 0 0) := (lower_le cfg (show 60 ≤ n + 60 by omega)).call (z5)
theorem z6n (n : Nat) : (lower cfg (n + 60)).call 6 [.ptr 2 0, .v (.int .i64 (Int.ofNat 0)), .v (.bool false)] (AS.mk hA [1] 0 0) = some (.tup [.v (.int .u64 (Int.ofNat 51)), .v (.int .i64 (Int.ofNat 0))], AS.mk hB [2] 0 0) := (lower_le cfg (show 60 ≤ n + 60 by omega)).call (z6)
theorem z7n (n : Nat) : (lower cfg (n + 60)).call 7 [.v (.int .i64 (Int.ofNat 1000)), .v (.int .i64 (Int.ofNat 500))] (AS.mk hB [2] 0 0) = some (.tup [.agg plV, .v (.int .i64 (Int.ofNat 0))], AS.mk hB [2] 0 0) := (lower_le cfg (show 60 ≤ n + 60 by omega)).call (z7 0 0)
theorem n11a_1 (key : Int) (lo : Nat) (tl : Nat) (n : Nat) : acallF cfg (lower cfg (n + 60)) (n + 60 + 1) 11 [AV.v (Value.pointer none), AV.v (Value.int IntKind.u64 (Int.ofNat 51)), AV.v (Value.int IntKind.u64 key)] (AS.mk [AObj.map [AEnt.mk (AV.v (Value.int IntKind.i64 (Int.ofNat 0))) (AV.ptr 3 0) 0, AEnt.mk (AV.v (Value.int IntKind.i64 (Int.ofNat 6))) (AV.ptr 5 0) 1] 2, AObj.map [] 0, AObj.cells [AV.v (Value.int IntKind.i64 (Int.ofNat 1000)), AV.v (Value.int IntKind.i64 (Int.ofNat 500)), AV.lst (Cap.tok 0 2 1) [[AV.ptr 3 0], [AV.ptr 5 0]], AV.mp 0, AV.v (Value.int IntKind.i64 (Int.ofNat 12)), AV.v (Value.int IntKind.i64 (Int.ofNat 6)), AV.v (Value.int IntKind.i64 (Int.ofNat 0)), AV.v (Value.int IntKind.i64 (Int.ofNat 0)), AV.mp 1] 59, AObj.cells [AV.v (Value.int IntKind.i64 (Int.ofNat 1)), AV.v (Value.bool false), AV.v (Value.string (ByteArray.mk #[])), AV.lst Cap.exact [[AV.v (Value.int IntKind.u64 (Int.ofNat 3))], [AV.v (Value.int IntKind.u64 (Int.ofNat 3))], [AV.v (Value.int IntKind.u64 (Int.ofNat 3))], [AV.v (Value.int IntKind.u64 (Int.ofNat 3))], [AV.v (Value.int IntKind.u64 (Int.ofNat 3))]], AV.v (Value.int IntKind.i64 (Int.ofNat 0))] 63, AObj.cells [AV.v (Value.int IntKind.u64 (Int.ofNat 0)), AV.v (Value.int IntKind.u64 (Int.ofNat 0)), AV.v (Value.int IntKind.u64 (Int.ofNat 0)), AV.v (Value.int IntKind.u64 (Int.ofNat 3)), AV.v (Value.int IntKind.u64 (Int.ofNat 3))] 27, AObj.cells [AV.v (Value.int IntKind.i64 (Int.ofNat 13)), AV.v (Value.bool false), AV.v (Value.string (ByteArray.mk #[])), AV.slc 4 1 0 5 5, AV.v (Value.int IntKind.i64 (Int.ofNat 6))] 63, AObj.cells [AV.v (Value.int IntKind.i64 (Int.ofNat 1000)), AV.v (Value.int IntKind.i64 (Int.ofNat 500)), AV.lst Cap.exact [[AV.v (Value.int IntKind.i64 (Int.ofNat 1)), AV.v (Value.int IntKind.i64 (Int.ofNat 0)), AV.v (Value.bool false), AV.v (Value.string (ByteArray.mk #[])), AV.lst Cap.exact [[AV.v (Value.int IntKind.u64 (Int.ofNat 3))], [AV.v (Value.int IntKind.u64 (Int.ofNat 3))], [AV.v (Value.int IntKind.u64 (Int.ofNat 3))], [AV.v (Value.int IntKind.u64 (Int.ofNat 3))], [AV.v (Value.int IntKind.u64 (Int.ofNat 3))]]]], AV.v (Value.int IntKind.i64 (Int.ofNat 1)), AV.v (Value.slice none 0 0), AV.v (Value.int IntKind.i64 (Int.ofNat 0)), AV.v (Value.int IntKind.i64 (Int.ofNat 0))] 33] [2] lo tl) = some (AV.tup [AV.v (Value.int IntKind.u64 (Int.ofNat 0)), AV.v (Value.bool false), AV.v (Value.int IntKind.i64 (Int.ofNat 1))], AS.mk [AObj.map [AEnt.mk (AV.v (Value.int IntKind.i64 (Int.ofNat 0))) (AV.ptr 3 0) 0, AEnt.mk (AV.v (Value.int IntKind.i64 (Int.ofNat 6))) (AV.ptr 5 0) 1] 2, AObj.map [] 0, AObj.cells [AV.v (Value.int IntKind.i64 (Int.ofNat 1000)), AV.v (Value.int IntKind.i64 (Int.ofNat 500)), AV.lst (Cap.tok 0 2 1) [[AV.ptr 3 0], [AV.ptr 5 0]], AV.mp 0, AV.v (Value.int IntKind.i64 (Int.ofNat 12)), AV.v (Value.int IntKind.i64 (Int.ofNat 6)), AV.v (Value.int IntKind.i64 (Int.ofNat 0)), AV.v (Value.int IntKind.i64 (Int.ofNat 0)), AV.mp 1] 59, AObj.cells [AV.v (Value.int IntKind.i64 (Int.ofNat 1)), AV.v (Value.bool false), AV.v (Value.string (ByteArray.mk #[])), AV.lst Cap.exact [[AV.v (Value.int IntKind.u64 (Int.ofNat 3))], [AV.v (Value.int IntKind.u64 (Int.ofNat 3))], [AV.v (Value.int IntKind.u64 (Int.ofNat 3))], [AV.v (Value.int IntKind.u64 (Int.ofNat 3))], [AV.v (Value.int IntKind.u64 (Int.ofNat 3))]], AV.v (Value.int IntKind.i64 (Int.ofNat 0))] 63, AObj.cells [AV.v (Value.int IntKind.u64 (Int.ofNat 0)), AV.v (Value.int IntKind.u64 (Int.ofNat 0)), AV.v (Value.int IntKind.u64 (Int.ofNat 0)), AV.v (Value.int IntKind.u64 (Int.ofNat 3)), AV.v (Value.int IntKind.u64 (Int.ofNat 3))] 27, AObj.cells [AV.v (Value.int IntKind.i64 (Int.ofNat 13)), AV.v (Value.bool false), AV.v (Value.string (ByteArray.mk #[])), AV.slc 4 1 0 5 5, AV.v (Value.int IntKind.i64 (Int.ofNat 6))] 63, AObj.cells [AV.v (Value.int IntKind.i64 (Int.ofNat 1000)), AV.v (Value.int IntKind.i64 (Int.ofNat 500)), AV.lst Cap.exact [[AV.v (Value.int IntKind.i64 (Int.ofNat 1)), AV.v (Value.int IntKind.i64 (Int.ofNat 0)), AV.v (Value.bool false), AV.v (Value.string (ByteArray.mk #[])), AV.lst Cap.exact [[AV.v (Value.int IntKind.u64 (Int.ofNat 3))], [AV.v (Value.int IntKind.u64 (Int.ofNat 3))], [AV.v (Value.int IntKind.u64 (Int.ofNat 3))], [AV.v (Value.int IntKind.u64 (Int.ofNat 3))], [AV.v (Value.int IntKind.u64 (Int.ofNat 3))]]]], AV.v (Value.int IntKind.i64 (Int.ofNat 1)), AV.v (Value.slice none 0 0), AV.v (Value.int IntKind.i64 (Int.ofNat 0)), AV.v (Value.int IntKind.i64 (Int.ofNat 0))] 33] [2] lo tl) :=
  call_path (ds := []) (cs := []) (by kernel_rfl) (by kernel_rfl) trivial -- Exit.ret
theorem n11b_1 (key : Int) (lo : Nat) (tl : Nat) (n : Nat) : acallF cfg (lower cfg (n + 60)) (n + 60 + 1) 11 [AV.v (Value.pointer none), AV.v (Value.int IntKind.u64 (Int.ofNat 51)), AV.v (Value.int IntKind.u64 key)] (AS.mk [AObj.map [AEnt.mk (AV.v (Value.int IntKind.i64 (Int.ofNat 0))) (AV.ptr 3 0) 0, AEnt.mk (AV.v (Value.int IntKind.i64 (Int.ofNat 6))) (AV.ptr 5 0) 1, AEnt.mk (AV.v (Value.int IntKind.i64 (Int.ofNat 12))) (AV.ptr 8 0) 2] 3, AObj.map [] 0, AObj.cells [AV.v (Value.int IntKind.i64 (Int.ofNat 1000)), AV.v (Value.int IntKind.i64 (Int.ofNat 500)), AV.lst (Cap.tok 0 3 1) [[AV.ptr 3 0], [AV.ptr 5 0], [AV.ptr 8 0]], AV.mp 0, AV.v (Value.int IntKind.i64 (Int.ofNat 17)), AV.v (Value.int IntKind.i64 (Int.ofNat 6)), AV.v (Value.int IntKind.i64 (Int.ofNat 0)), AV.v (Value.int IntKind.i64 (Int.ofNat 0)), AV.mp 1] 59, AObj.cells [AV.v (Value.int IntKind.i64 (Int.ofNat 1)), AV.v (Value.bool false), AV.v (Value.string (ByteArray.mk #[])), AV.lst Cap.exact [[AV.v (Value.int IntKind.u64 (Int.ofNat 3))], [AV.v (Value.int IntKind.u64 (Int.ofNat 3))], [AV.v (Value.int IntKind.u64 (Int.ofNat 3))], [AV.v (Value.int IntKind.u64 (Int.ofNat 3))], [AV.v (Value.int IntKind.u64 (Int.ofNat 3))]], AV.v (Value.int IntKind.i64 (Int.ofNat 0))] 63, AObj.cells [AV.v (Value.int IntKind.u64 (Int.ofNat 0)), AV.v (Value.int IntKind.u64 (Int.ofNat 0)), AV.v (Value.int IntKind.u64 (Int.ofNat 8)), AV.v (Value.int IntKind.u64 (Int.ofNat 99)), AV.v (Value.int IntKind.u64 (Int.ofNat 3))] 27, AObj.cells [AV.v (Value.int IntKind.i64 (Int.ofNat 13)), AV.v (Value.bool false), AV.v (Value.string (ByteArray.mk #[])), AV.slc 4 1 0 5 5, AV.v (Value.int IntKind.i64 (Int.ofNat 6))] 63, AObj.cells [AV.v (Value.int IntKind.i64 (Int.ofNat 1000)), AV.v (Value.int IntKind.i64 (Int.ofNat 500)), AV.lst Cap.exact [[AV.v (Value.int IntKind.i64 (Int.ofNat 1)), AV.v (Value.int IntKind.i64 (Int.ofNat 0)), AV.v (Value.bool false), AV.v (Value.string (ByteArray.mk #[])), AV.lst Cap.exact [[AV.v (Value.int IntKind.u64 (Int.ofNat 3))], [AV.v (Value.int IntKind.u64 (Int.ofNat 3))], [AV.v (Value.int IntKind.u64 (Int.ofNat 3))], [AV.v (Value.int IntKind.u64 (Int.ofNat 3))], [AV.v (Value.int IntKind.u64 (Int.ofNat 3))]]]], AV.v (Value.int IntKind.i64 (Int.ofNat 1)), AV.v (Value.slice none 0 0), AV.v (Value.int IntKind.i64 (Int.ofNat 0)), AV.v (Value.int IntKind.i64 (Int.ofNat 0))] 33, AObj.cells [AV.v (Value.int IntKind.u64 key), AV.v (Value.int IntKind.u64 (Int.ofNat 3)), AV.v (Value.int IntKind.u64 (Int.ofNat 3)), AV.v (Value.int IntKind.u64 (Int.ofNat 0))] 27, AObj.cells [AV.v (Value.int IntKind.i64 (Int.ofNat 14)), AV.v (Value.bool false), AV.v (Value.string (ByteArray.mk #[])), AV.slc 7 1 0 4 4, AV.v (Value.int IntKind.i64 (Int.ofNat 12))] 63, AObj.cells [AV.v (Value.int IntKind.i64 (Int.ofNat 1))] 3, AObj.cells [AV.ptr 2 0] 23, AObj.cells [AV.v (Value.int IntKind.u64 (Int.ofNat 51))] 27, AObj.dead, AObj.dead] [3] lo tl) = some (AV.tup [AV.v (Value.int IntKind.u64 (Int.ofNat 0)), AV.v (Value.bool false), AV.v (Value.int IntKind.i64 (Int.ofNat 1))], AS.mk [AObj.map [AEnt.mk (AV.v (Value.int IntKind.i64 (Int.ofNat 0))) (AV.ptr 3 0) 0, AEnt.mk (AV.v (Value.int IntKind.i64 (Int.ofNat 6))) (AV.ptr 5 0) 1, AEnt.mk (AV.v (Value.int IntKind.i64 (Int.ofNat 12))) (AV.ptr 8 0) 2] 3, AObj.map [] 0, AObj.cells [AV.v (Value.int IntKind.i64 (Int.ofNat 1000)), AV.v (Value.int IntKind.i64 (Int.ofNat 500)), AV.lst (Cap.tok 0 3 1) [[AV.ptr 3 0], [AV.ptr 5 0], [AV.ptr 8 0]], AV.mp 0, AV.v (Value.int IntKind.i64 (Int.ofNat 17)), AV.v (Value.int IntKind.i64 (Int.ofNat 6)), AV.v (Value.int IntKind.i64 (Int.ofNat 0)), AV.v (Value.int IntKind.i64 (Int.ofNat 0)), AV.mp 1] 59, AObj.cells [AV.v (Value.int IntKind.i64 (Int.ofNat 1)), AV.v (Value.bool false), AV.v (Value.string (ByteArray.mk #[])), AV.lst Cap.exact [[AV.v (Value.int IntKind.u64 (Int.ofNat 3))], [AV.v (Value.int IntKind.u64 (Int.ofNat 3))], [AV.v (Value.int IntKind.u64 (Int.ofNat 3))], [AV.v (Value.int IntKind.u64 (Int.ofNat 3))], [AV.v (Value.int IntKind.u64 (Int.ofNat 3))]], AV.v (Value.int IntKind.i64 (Int.ofNat 0))] 63, AObj.cells [AV.v (Value.int IntKind.u64 (Int.ofNat 0)), AV.v (Value.int IntKind.u64 (Int.ofNat 0)), AV.v (Value.int IntKind.u64 (Int.ofNat 8)), AV.v (Value.int IntKind.u64 (Int.ofNat 99)), AV.v (Value.int IntKind.u64 (Int.ofNat 3))] 27, AObj.cells [AV.v (Value.int IntKind.i64 (Int.ofNat 13)), AV.v (Value.bool false), AV.v (Value.string (ByteArray.mk #[])), AV.slc 4 1 0 5 5, AV.v (Value.int IntKind.i64 (Int.ofNat 6))] 63, AObj.cells [AV.v (Value.int IntKind.i64 (Int.ofNat 1000)), AV.v (Value.int IntKind.i64 (Int.ofNat 500)), AV.lst Cap.exact [[AV.v (Value.int IntKind.i64 (Int.ofNat 1)), AV.v (Value.int IntKind.i64 (Int.ofNat 0)), AV.v (Value.bool false), AV.v (Value.string (ByteArray.mk #[])), AV.lst Cap.exact [[AV.v (Value.int IntKind.u64 (Int.ofNat 3))], [AV.v (Value.int IntKind.u64 (Int.ofNat 3))], [AV.v (Value.int IntKind.u64 (Int.ofNat 3))], [AV.v (Value.int IntKind.u64 (Int.ofNat 3))], [AV.v (Value.int IntKind.u64 (Int.ofNat 3))]]]], AV.v (Value.int IntKind.i64 (Int.ofNat 1)), AV.v (Value.slice none 0 0), AV.v (Value.int IntKind.i64 (Int.ofNat 0)), AV.v (Value.int IntKind.i64 (Int.ofNat 0))] 33, AObj.cells [AV.v (Value.int IntKind.u64 key), AV.v (Value.int IntKind.u64 (Int.ofNat 3)), AV.v (Value.int IntKind.u64 (Int.ofNat 3)), AV.v (Value.int IntKind.u64 (Int.ofNat 0))] 27, AObj.cells [AV.v (Value.int IntKind.i64 (Int.ofNat 14)), AV.v (Value.bool false), AV.v (Value.string (ByteArray.mk #[])), AV.slc 7 1 0 4 4, AV.v (Value.int IntKind.i64 (Int.ofNat 12))] 63, AObj.cells [AV.v (Value.int IntKind.i64 (Int.ofNat 1))] 3, AObj.cells [AV.ptr 2 0] 23, AObj.cells [AV.v (Value.int IntKind.u64 (Int.ofNat 51))] 27, AObj.dead, AObj.dead] [3] lo tl) :=
  call_path (ds := []) (cs := []) (by kernel_rfl) (by kernel_rfl) trivial -- Exit.ret

abbrev nilA (key : Int) : List AV := [.v (.pointer none), .v (.int .u64 (Int.ofNat 51)), .v (.int .u64 key)]
abbrev nilV : AV := .tup [.v (.int .u64 (Int.ofNat 0)), .v (.bool false), .v (.int .i64 (Int.ofNat 1))]
theorem q11a (key : Int) : Qa 11 (nilA key) (AS.mk hO [2] 0 0) nilV (AS.mk hO [2] 0 0) := Qa.of u11 (Evt.of fun n => n11a_1 key 0 0 n)
theorem q11b (key : Int) : Qa 11 (nilA key) (AS.mk (hO5 key) [3] 0 0) nilV (AS.mk (hO5 key) [3] 0 0) := Qa.of u11 (Evt.of fun n => n11b_1 key 0 0 n)
theorem wrong3 (w key : Int) (hw0 : 0 ≤ w) (hw1 : w < 18446744073709551616) (hk0 : 0 ≤ key) (hk1 : key < 18446744073709551616) : Co cfg 3 [wv w, wv key] (.v (.bool true)) := by
  refine Co.path (by kernel_rfl) ?_
  cases hr : (tg w == 3) with
  | true =>
    have h8 := r8 w
    rw [hr] at h8
    exact Evt.shift ((h8.shift.and awake9.shift).mono fun n hn => f3_1 w key true false n (z5n n) (z6n n) (z7n n) hn.1 rfl hn.2)
  | false =>
    have h8 := r8 w
    rw [hr] at h8
    cases hk : (tg key == 3) with
    | true =>
      have h8' := r8 key
      rw [hk] at h8'
      exact Evt.shift (((h8.shift.and h8'.shift).and awake9.shift).mono fun n hn => f3_2 w key false true n (z5n n) (z6n n) (z7n n) hn.1.1 rfl hn.1.2 rfl hn.2)
    | false =>
      have h8' := r8 key
      rw [hk] at h8'
      have p1 := r10 w hw0 hw1 hr
      have p2 := r10 key hk0 hk1 hk
      have calls := ((q11 w hr).at.and (q12 w hr).at).and (((q13 w hr).at.and (q14 w hr).at).and (q15 w hr).at)
      have base := ((h8.shift.and h8'.shift).and (p1.shift.and p2.shift)).and awake9.shift
      cases hq : okW key with
      | true =>
        rw [hq] at p2
        refine Evt.shift (((base.and calls).and ((put_good key hk hq).at.and (q11b key).at)).mono fun n hn => ?_)
        obtain ⟨⟨⟨⟨⟨a1, a2⟩, a3, a4⟩, a5⟩, ⟨b1, b2⟩, ⟨b3, b4⟩, b5⟩, d, z⟩ := hn
        rw [hq] at a4
        cases hp' : okW w with
        | true => rw [hp'] at a3; exact lawG_1 w key (eW w) true true n (z5n n) (z6n n) (z7n n) a1 a2 a3 rfl b1 b2 b3 b4 (by unfold eW; rw [hp']; rfl) b5 d a4 rfl z a5
        | false => rw [hp'] at a3; exact lawG_4 w key (eW w) false true n (z5n n) (z6n n) (z7n n) a1 a2 a3 rfl b1 b2 b3 b4 (by unfold eW; rw [hp']; rfl) b5 d a4 rfl z a5
      | false =>
        refine Evt.shift (((base.and calls).and ((put_bad key hk hq).at.and (q11a key).at)).mono fun n hn => ?_)
        obtain ⟨⟨⟨⟨⟨a1, a2⟩, a3, a4⟩, a5⟩, ⟨b1, b2⟩, ⟨b3, b4⟩, b5⟩, d, z⟩ := hn
        rw [hq] at a4
        cases hp' : okW w with
        | true => rw [hp'] at a3; exact lawB_1 w key (eW w) true false n (z5n n) (z6n n) (z7n n) a1 a2 a3 rfl b1 b2 b3 b4 (by unfold eW; rw [hp']; rfl) b5 d a4 rfl z a5
        | false => rw [hp'] at a3; exact lawB_4 w key (eW w) false false n (z5n n) (z6n n) (z7n n) a1 a2 a3 rfl b1 b2 b3 b4 (by unfold eW; rw [hp']; rfl) b5 d a4 rfl z a5
theorem lend_v {S : AS} {x : AV} {y : Value} (h : lend S x = some (.v y)) : x = .v y := by
  unfold lend at h
  cases x with
  | v z => simp only [lendV] at h; exact congrArg _ (AV.v.inj (Option.some.inj h))
  | junk => simp [lendV] at h
  | ptr o off => simp only [lendV] at h; split at h <;> (try split at h) <;> cases h
  | eptr r b => simp only [lendV] at h; split at h <;> cases h
  | lst c r => simp only [lendV] at h; split at h <;> cases h
  | slc o sz off len cap => simp only [lendV] at h; split at h <;> (try split at h) <;> cases h
  | mp o => simp [lendV] at h
  | yld o => simp [lendV] at h
  | fn f a b => simp only [lendV] at h; split at h <;> (try split at h) <;> cases h
  | ifc t x => simp only [lendV] at h; split at h <;> cases h
  | agg l => simp only [lendV] at h; split at h <;> cases h
  | tup l => simp only [lendV] at h; split at h <;> cases h
/-- The call. -/
theorem wrong3c (w key : Int) (hw0 : 0 ≤ w) (hw1 : w < 18446744073709551616) (hk0 : 0 ≤ key) (hk1 : key < 18446744073709551616) : ∃ n S, (lower cfg n).call 3 [wv w, wv key] {} = some (.v (.bool true), S) := by
  obtain ⟨N, hN⟩ := wrong3 w key hw0 hw1 hk0 hk1
  obtain ⟨x, S1, h1, h2⟩ := hN N (Nat.le_refl _)
  have := lend_v h2
  subst this
  refine ⟨N + 1, S1, ?_⟩
  have hu : (lower cfg (N + 1)).call 3 [wv w, wv key] {} = acallF cfg (lower cfg N) (N + 1) 3 [wv w, wv key] {} := by kernel_rfl
  rw [hu, h1]
#print axioms wrong3c
end Go.Proofs.YtlfobfhklmndkaaGreatDoor
