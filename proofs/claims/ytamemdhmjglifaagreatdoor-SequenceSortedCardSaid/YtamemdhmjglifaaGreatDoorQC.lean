/- Chapter 12: ranges and sizes; subsequences. -/
import Derived.Test.YtamemdhmjglifaaGreatDoorQB
namespace Go.Proofs.YtamemdhmjglifaaGreatDoor
open Go.RowKit Go.AM
set_option maxRecDepth 100000
set_option linter.unusedVariables false
theorem f92_1 (s : Int) (e : Int) (m : Int) (n : Nat) (h0 : decide (s < 0) = true) : Path cfg 92 [vI s, vI e, vI m] (AV.tup [vI (Int.ofNat 0), vI (Int.ofNat 7)]) (n + 60) :=
  Path.of (ds := [(3, Tell.b true)]) (cs := [decide (s < 0) = true]) (x := AV.tup [AV.v (Value.int IntKind.i64 (Int.ofNat 0)), AV.v (Value.int IntKind.i64 (Int.ofNat 7))]) (S2 := AS.mk [] [] 0 0) (by kernel_rfl) ⟨h0, trivial⟩ rfl -- Exit.ret
theorem f92_2 (s : Int) (e : Int) (m : Int) (n : Nat) (h0 : decide (s < 0) = false) (h1 : decide (s > m) = true) : Path cfg 92 [vI s, vI e, vI m] (AV.tup [vI (Int.ofNat 0), vI (Int.ofNat 7)]) (n + 60) :=
  Path.of (ds := [(3, Tell.b false), (6, Tell.b true)]) (cs := [decide (s < 0) = false, decide (s > m) = true]) (x := AV.tup [AV.v (Value.int IntKind.i64 (Int.ofNat 0)), AV.v (Value.int IntKind.i64 (Int.ofNat 7))]) (S2 := AS.mk [] [] 0 0) (by kernel_rfl) ⟨h0, h1, trivial⟩ rfl -- Exit.ret
theorem f92_3 (s : Int) (e : Int) (m : Int) (n : Nat) (h0 : decide (s < 0) = false) (h1 : decide (s > m) = false) (h2 : decide (e < -1) = true) : Path cfg 92 [vI s, vI e, vI m] (AV.tup [vI (Int.ofNat 0), vI (Int.ofNat 7)]) (n + 60) :=
  Path.of (ds := [(3, Tell.b false), (6, Tell.b false), (5, Tell.b true)]) (cs := [decide (s < 0) = false, decide (s > m) = false, decide (e < -1) = true]) (x := AV.tup [vI (Int.ofNat 0), vI (Int.ofNat 7)]) (S2 := AS.mk [] [] 0 0) (by kernel_rfl) ⟨h0, h1, h2, trivial⟩ rfl -- Exit.ret
theorem f92_4 (s : Int) (e : Int) (m : Int) (n : Nat) (h0 : decide (s < 0) = false) (h1 : decide (s > m) = false) (h2 : decide (e < -1) = false) (h3 : decide (e > m) = true) : Path cfg 92 [vI s, vI e, vI m] (AV.tup [vI (Int.ofNat 0), vI (Int.ofNat 7)]) (n + 60) :=
  Path.of (ds := [(3, Tell.b false), (6, Tell.b false), (5, Tell.b false), (7, Tell.b true)]) (cs := [decide (s < 0) = false, decide (s > m) = false, decide (e < -1) = false, decide (e > m) = true]) (x := AV.tup [vI (Int.ofNat 0), vI (Int.ofNat 7)]) (S2 := AS.mk [] [] 0 0) (by kernel_rfl) ⟨h0, h1, h2, h3, trivial⟩ rfl -- Exit.ret
theorem f92_5 (s : Int) (e : Int) (m : Int) (n : Nat) (h0 : decide (s < 0) = false) (h1 : decide (s > m) = false) (h2 : decide (e < -1) = false) (h3 : decide (e > m) = false) (h4 : decide (e ≥ 0) = true) (h5 : decide (e < s) = true) : Path cfg 92 [vI s, vI e, vI m] (AV.tup [vI (Int.ofNat 0), vI (Int.ofNat 7)]) (n + 60) :=
  Path.of (ds := [(3, Tell.b false), (6, Tell.b false), (5, Tell.b false), (7, Tell.b false), (5, Tell.b true), (11, Tell.b true)]) (cs := [decide (s < 0) = false, decide (s > m) = false, decide (e < -1) = false, decide (e > m) = false, decide (e ≥ 0) = true, decide (e < s) = true]) (x := AV.tup [vI (Int.ofNat 0), vI (Int.ofNat 7)]) (S2 := AS.mk [] [] 0 0) (by kernel_rfl) ⟨h0, h1, h2, h3, h4, h5, trivial⟩ rfl -- Exit.ret
theorem f92_6 (s : Int) (e : Int) (m : Int) (n : Nat) (h0 : decide (s < 0) = false) (h1 : decide (s > m) = false) (h2 : decide (e < -1) = false) (h3 : decide (e > m) = false) (h4 : decide (e ≥ 0) = true) (h5 : decide (e < s) = false) (h6 : decide (e < 0) = true) : Path cfg 92 [vI s, vI e, vI m] (AV.tup [vI m, vI (Int.ofNat 0)]) (n + 60) :=
  Path.of (ds := [(3, Tell.b false), (6, Tell.b false), (5, Tell.b false), (7, Tell.b false), (5, Tell.b true), (11, Tell.b false), (2, Tell.b true)]) (cs := [decide (s < 0) = false, decide (s > m) = false, decide (e < -1) = false, decide (e > m) = false, decide (e ≥ 0) = true, decide (e < s) = false, decide (e < 0) = true]) (x := AV.tup [vI m, vI (Int.ofNat 0)]) (S2 := AS.mk [] [] 0 0) (by kernel_rfl) ⟨h0, h1, h2, h3, h4, h5, h6, trivial⟩ rfl -- Exit.ret
theorem f92_7 (s : Int) (e : Int) (m : Int) (n : Nat) (h0 : decide (s < 0) = false) (h1 : decide (s > m) = false) (h2 : decide (e < -1) = false) (h3 : decide (e > m) = false) (h4 : decide (e ≥ 0) = true) (h5 : decide (e < s) = false) (h6 : decide (e < 0) = false) : Path cfg 92 [vI s, vI e, vI m] (AV.tup [vI e, vI (Int.ofNat 0)]) (n + 60) :=
  Path.of (ds := [(3, Tell.b false), (6, Tell.b false), (5, Tell.b false), (7, Tell.b false), (5, Tell.b true), (11, Tell.b false), (2, Tell.b false)]) (cs := [decide (s < 0) = false, decide (s > m) = false, decide (e < -1) = false, decide (e > m) = false, decide (e ≥ 0) = true, decide (e < s) = false, decide (e < 0) = false]) (x := AV.tup [vI e, vI (Int.ofNat 0)]) (S2 := AS.mk [] [] 0 0) (by kernel_rfl) ⟨h0, h1, h2, h3, h4, h5, h6, trivial⟩ rfl -- Exit.ret
theorem f92_8 (s : Int) (e : Int) (m : Int) (n : Nat) (h0 : decide (s < 0) = false) (h1 : decide (s > m) = false) (h2 : decide (e < -1) = false) (h3 : decide (e > m) = false) (h4 : decide (e ≥ 0) = false) (h5 : decide (e < 0) = true) : Path cfg 92 [vI s, vI e, vI m] (AV.tup [vI m, vI (Int.ofNat 0)]) (n + 60) :=
  Path.of (ds := [(3, Tell.b false), (6, Tell.b false), (5, Tell.b false), (7, Tell.b false), (5, Tell.b false), (11, Tell.b true)]) (cs := [decide (s < 0) = false, decide (s > m) = false, decide (e < -1) = false, decide (e > m) = false, decide (e ≥ 0) = false, decide (e < 0) = true]) (x := AV.tup [vI m, vI (Int.ofNat 0)]) (S2 := AS.mk [] [] 0 0) (by kernel_rfl) ⟨h0, h1, h2, h3, h4, h5, trivial⟩ rfl -- Exit.ret
theorem f92_9 (s : Int) (e : Int) (m : Int) (n : Nat) (h0 : decide (s < 0) = false) (h1 : decide (s > m) = false) (h2 : decide (e < -1) = false) (h3 : decide (e > m) = false) (h4 : decide (e ≥ 0) = false) (h5 : decide (e < 0) = false) : Path cfg 92 [vI s, vI e, vI m] (AV.tup [vI e, vI (Int.ofNat 0)]) (n + 60) :=
  Path.of (ds := [(3, Tell.b false), (6, Tell.b false), (5, Tell.b false), (7, Tell.b false), (5, Tell.b false), (11, Tell.b false)]) (cs := [decide (s < 0) = false, decide (s > m) = false, decide (e < -1) = false, decide (e > m) = false, decide (e ≥ 0) = false, decide (e < 0) = false]) (x := AV.tup [vI e, vI (Int.ofNat 0)]) (S2 := AS.mk [] [] 0 0) (by kernel_rfl) ⟨h0, h1, h2, h3, h4, h5, trivial⟩ rfl -- Exit.ret
theorem f93_1 (s : Int) (e : Int) (m : Int) (n : Nat) (h0 : (e == -1) = true) (h1 : decide (s < 0) = true) : Path cfg 93 [vI m, vI s, vI e] (AV.tup [vI (Int.ofNat 0), vI (Int.ofNat 7)]) (n + 60) :=
  Path.of (ds := [(4, Tell.b true), (3, Tell.b true)]) (cs := [(e == -1) = true, decide (s < 0) = true]) (x := AV.tup [AV.v (Value.int IntKind.i64 (Int.ofNat 0)), AV.v (Value.int IntKind.i64 (Int.ofNat 7))]) (S2 := AS.mk [] [] 0 0) (by kernel_rfl) ⟨h0, h1, trivial⟩ rfl -- Exit.ret
theorem f93_2 (s : Int) (e : Int) (m : Int) (n : Nat) (h0 : (e == -1) = true) (h1 : decide (s < 0) = false) (h2 : decide (m < s) = true) : Path cfg 93 [vI m, vI s, vI e] (AV.tup [vI (Int.ofNat 0), vI (Int.ofNat 7)]) (n + 60) :=
  Path.of (ds := [(4, Tell.b true), (3, Tell.b false), (6, Tell.b true)]) (cs := [(e == -1) = true, decide (s < 0) = false, decide (m < s) = true]) (x := AV.tup [vI (Int.ofNat 0), vI (Int.ofNat 7)]) (S2 := AS.mk [] [] 0 0) (by kernel_rfl) ⟨h0, h1, h2, trivial⟩ rfl -- Exit.ret
theorem f93_3 (s : Int) (e : Int) (m : Int) (n : Nat) (h0 : (e == -1) = true) (h1 : decide (s < 0) = false) (h2 : decide (m < s) = false) (h3 : decide (m > m) = true) : Path cfg 93 [vI m, vI s, vI e] (AV.tup [vI (Int.ofNat 0), vI (Int.ofNat 7)]) (n + 60) :=
  Path.of (ds := [(4, Tell.b true), (3, Tell.b false), (6, Tell.b false), (9, Tell.b true)]) (cs := [(e == -1) = true, decide (s < 0) = false, decide (m < s) = false, decide (m > m) = true]) (x := AV.tup [vI (Int.ofNat 0), vI (Int.ofNat 7)]) (S2 := AS.mk [] [] 0 0) (by kernel_rfl) ⟨h0, h1, h2, h3, trivial⟩ rfl -- Exit.ret
theorem f93_4 (s : Int) (e : Int) (m : Int) (n : Nat) (h0 : (e == -1) = true) (h1 : decide (s < 0) = false) (h2 : decide (m < s) = false) (h3 : decide (m > m) = false) : Path cfg 93 [vI m, vI s, vI e] (AV.tup [vI m, vI (Int.ofNat 0)]) (n + 60) :=
  Path.of (ds := [(4, Tell.b true), (3, Tell.b false), (6, Tell.b false), (9, Tell.b false)]) (cs := [(e == -1) = true, decide (s < 0) = false, decide (m < s) = false, decide (m > m) = false]) (x := AV.tup [vI m, vI (Int.ofNat 0)]) (S2 := AS.mk [] [] 0 0) (by kernel_rfl) ⟨h0, h1, h2, h3, trivial⟩ rfl -- Exit.ret
theorem f93_5 (s : Int) (e : Int) (m : Int) (n : Nat) (h0 : (e == -1) = false) (h1 : decide (s < 0) = true) : Path cfg 93 [vI m, vI s, vI e] (AV.tup [vI (Int.ofNat 0), vI (Int.ofNat 7)]) (n + 60) :=
  Path.of (ds := [(4, Tell.b false), (1, Tell.b true)]) (cs := [(e == -1) = false, decide (s < 0) = true]) (x := AV.tup [AV.v (Value.int IntKind.i64 (Int.ofNat 0)), AV.v (Value.int IntKind.i64 (Int.ofNat 7))]) (S2 := AS.mk [] [] 0 0) (by kernel_rfl) ⟨h0, h1, trivial⟩ rfl -- Exit.ret
theorem f93_6 (s : Int) (e : Int) (m : Int) (n : Nat) (h0 : (e == -1) = false) (h1 : decide (s < 0) = false) (h2 : decide (e < s) = true) : Path cfg 93 [vI m, vI s, vI e] (AV.tup [vI (Int.ofNat 0), vI (Int.ofNat 7)]) (n + 60) :=
  Path.of (ds := [(4, Tell.b false), (1, Tell.b false), (6, Tell.b true)]) (cs := [(e == -1) = false, decide (s < 0) = false, decide (e < s) = true]) (x := AV.tup [vI (Int.ofNat 0), vI (Int.ofNat 7)]) (S2 := AS.mk [] [] 0 0) (by kernel_rfl) ⟨h0, h1, h2, trivial⟩ rfl -- Exit.ret
theorem f93_7 (s : Int) (e : Int) (m : Int) (n : Nat) (h0 : (e == -1) = false) (h1 : decide (s < 0) = false) (h2 : decide (e < s) = false) (h3 : decide (e > m) = true) : Path cfg 93 [vI m, vI s, vI e] (AV.tup [vI (Int.ofNat 0), vI (Int.ofNat 7)]) (n + 60) :=
  Path.of (ds := [(4, Tell.b false), (1, Tell.b false), (6, Tell.b false), (9, Tell.b true)]) (cs := [(e == -1) = false, decide (s < 0) = false, decide (e < s) = false, decide (e > m) = true]) (x := AV.tup [vI (Int.ofNat 0), vI (Int.ofNat 7)]) (S2 := AS.mk [] [] 0 0) (by kernel_rfl) ⟨h0, h1, h2, h3, trivial⟩ rfl -- Exit.ret
theorem f93_8 (s : Int) (e : Int) (m : Int) (n : Nat) (h0 : (e == -1) = false) (h1 : decide (s < 0) = false) (h2 : decide (e < s) = false) (h3 : decide (e > m) = false) : Path cfg 93 [vI m, vI s, vI e] (AV.tup [vI e, vI (Int.ofNat 0)]) (n + 60) :=
  Path.of (ds := [(4, Tell.b false), (1, Tell.b false), (6, Tell.b false), (9, Tell.b false)]) (cs := [(e == -1) = false, decide (s < 0) = false, decide (e < s) = false, decide (e > m) = false]) (x := AV.tup [vI e, vI (Int.ofNat 0)]) (S2 := AS.mk [] [] 0 0) (by kernel_rfl) ⟨h0, h1, h2, h3, trivial⟩ rfl -- Exit.ret
theorem f77_1 (xs : List Fm) (n : Nat) : Path cfg 77 [AV.lst Cap.any (List.map Fm.row xs)] (AV.v (Value.bool (decide ((↑(List.length (List.map Fm.row xs)) : Int) > 2000)))) (n + 60) :=
  Path.of (ds := []) (cs := []) (x := AV.v (Value.bool (decide ((↑(List.length (List.map Fm.row xs)) : Int) > 2000)))) (S2 := AS.mk [] [] 0 0) (by kernel_rfl) trivial rfl -- Exit.ret
theorem f91_1 (d : Cap) (xs : List Fm) (n : Nat) (h0 : decide ((↑(List.length (List.map Fm.row xs)) : Int) > 2000) = true) : Path cfg 91 [AV.lst d [[AV.lst Cap.any (List.map Fm.row xs)]]] (AV.v (Value.int IntKind.i64 (Int.ofNat 4))) (n + 60) :=
  Path.of (ds := [(13, Tell.b true)]) (cs := [decide ((↑(List.length (List.map Fm.row xs)) : Int) > 2000) = true]) (x := AV.v (Value.int IntKind.i64 (Int.ofNat 4))) (S2 := AS.mk [] [] 0 0) (by kernel_rfl) ⟨h0, trivial⟩ rfl -- Exit.ret
theorem f91_2 (d : Cap) (xs : List Fm) (n : Nat) (h0 : decide ((↑(List.length (List.map Fm.row xs)) : Int) > 2000) = false) : Path cfg 91 [AV.lst d [[AV.lst Cap.any (List.map Fm.row xs)]]] (AV.v (Value.int IntKind.i64 (Int.ofNat 0))) (n + 60) :=
  Path.of (ds := [(13, Tell.b false)]) (cs := [decide ((↑(List.length (List.map Fm.row xs)) : Int) > 2000) = false]) (x := AV.v (Value.int IntKind.i64 (Int.ofNat 0))) (S2 := AS.mk [] [] 0 0) (by kernel_rfl) ⟨h0, trivial⟩ rfl -- Exit.ret
theorem ff91_1 (k : Cap) (xs : List Fm) (ys : List Fm) (n : Nat) (h0 : decide ((↑(List.length (List.map Fm.row xs)) : Int) > 2000) = true) : Path cfg 91 [AV.lst k [[AV.lst Cap.any (List.map Fm.row xs)], [AV.lst Cap.any (List.map Fm.row ys)]]] (AV.v (Value.int IntKind.i64 (Int.ofNat 4))) (n + 60) :=
  Path.of (ds := [(13, Tell.b true)]) (cs := [decide ((↑(List.length (List.map Fm.row xs)) : Int) > 2000) = true]) (x := AV.v (Value.int IntKind.i64 (Int.ofNat 4))) (S2 := AS.mk [] [] 0 0) (by kernel_rfl) ⟨h0, trivial⟩ rfl -- Exit.ret
theorem ff91_2 (k : Cap) (xs : List Fm) (ys : List Fm) (n : Nat) (h0 : decide ((↑(List.length (List.map Fm.row xs)) : Int) > 2000) = false) (h1 : decide ((↑(List.length (List.map Fm.row ys)) : Int) > 2000) = true) : Path cfg 91 [AV.lst k [[AV.lst Cap.any (List.map Fm.row xs)], [AV.lst Cap.any (List.map Fm.row ys)]]] (vI (Int.ofNat 4)) (n + 60) :=
  Path.of (ds := [(13, Tell.b false), (10, Tell.b true)]) (cs := [decide ((↑(List.length (List.map Fm.row xs)) : Int) > 2000) = false, decide ((↑(List.length (List.map Fm.row ys)) : Int) > 2000) = true]) (x := vI (Int.ofNat 4)) (S2 := AS.mk [] [] 0 0) (by kernel_rfl) ⟨h0, h1, trivial⟩ rfl -- Exit.ret
theorem ff91_3 (k : Cap) (xs : List Fm) (ys : List Fm) (n : Nat) (h0 : decide ((↑(List.length (List.map Fm.row xs)) : Int) > 2000) = false) (h1 : decide ((↑(List.length (List.map Fm.row ys)) : Int) > 2000) = false) : Path cfg 91 [AV.lst k [[AV.lst Cap.any (List.map Fm.row xs)], [AV.lst Cap.any (List.map Fm.row ys)]]] (vI (Int.ofNat 0)) (n + 60) :=
  Path.of (ds := [(13, Tell.b false), (10, Tell.b false)]) (cs := [decide ((↑(List.length (List.map Fm.row xs)) : Int) > 2000) = false, decide ((↑(List.length (List.map Fm.row ys)) : Int) > 2000) = false]) (x := vI (Int.ofNat 0)) (S2 := AS.mk [] [] 0 0) (by kernel_rfl) ⟨h0, h1, trivial⟩ rfl -- Exit.ret
theorem f19_1 (a : AV) (b : AV) (r : Bool) (n : Nat) (c0 : ∀ (S : AS), Lw.call (lower cfg (n + 60)) 81 [a, b, AV.fn (Fn.func 24) [] []] S = some (AV.v (Value.bool r), S)) : Path cfg 19 [a, b] (AV.v (Value.bool r)) (n + 60) :=
  Path.of (ds := [(3, Tell.fr (AV.v (Value.bool r)))]) (cs := [∀ (S : AS), Lw.call (lower cfg (n + 60)) 81 [a, b, AV.fn (Fn.func 24) [] []] S = some (AV.v (Value.bool r), S)]) (x := AV.v (Value.bool r)) (S2 := AS.mk [] [] 0 0) (by kernel_rfl) ⟨c0, trivial⟩ rfl -- Exit.ret
theorem nn81_1  (n : Nat) : Path cfg 81 [AV.v (Value.slice none 0 0), AV.v (Value.slice none 0 0), AV.fn (Fn.func 24) [] []] (AV.v (Value.bool true)) (n + 60) :=
  Path.of (ds := []) (cs := []) (x := AV.v (Value.bool true)) (S2 := AS.mk [] [] 0 0) (by kernel_rfl) trivial rfl -- Exit.ret
theorem c14_1 (r : List AV) (rs : List (List AV)) (cs : List AV) (k : Nat) (n : Nat) (c0 : aappend (Cfg.P cfg0) true (AS.mk [AObj.cells [] 27] [] 0 0) 22 (AV.slc 0 4 0 0 0) (AV.lst Cap.any (r :: rs)) = some (AV.slc 1 4 0 k k, AS.mk [AObj.dead, AObj.cells cs 27] [] 0 0)) : acallF cfg0 (lower cfg0 (n + 60)) (n + 60 + 1) 14 [AV.lst Cap.any (r :: rs)] (AS.mk [] [] 0 0) = some (AV.slc 1 4 0 k k, AS.mk [AObj.dead, AObj.cells cs 27] [] 0 0) :=
  call_path (ds := [(6, Tell.op (AV.slc 1 4 0 k k) (AS.mk [AObj.dead, AObj.cells cs 27] [] 0 0))]) (cs := [aappend (Cfg.P cfg0) true (AS.mk [AObj.cells [] 27] [] 0 0) 22 (AV.slc 0 4 0 0 0) (AV.lst Cap.any (r :: rs)) = some (AV.slc 1 4 0 k k, AS.mk [AObj.dead, AObj.cells cs 27] [] 0 0)]) (by kernel_rfl) (by kernel_rfl) ⟨c0, trivial⟩ -- Exit.ret
theorem d14_1 (r : List AV) (rs : List (List AV)) (cs : List AV) (x : List AV) (k : Nat) (n : Nat) (c0 : aappend (Cfg.P cfg0) true (AS.mk [AObj.cells x 27, AObj.cells [] 27] [] 1 0) 22 (AV.slc 1 4 0 0 0) (AV.lst Cap.any (r :: rs)) = some (AV.slc 2 4 0 k k, AS.mk [AObj.cells x 27, AObj.dead, AObj.cells cs 27] [] 1 0)) : acallF cfg0 (lower cfg0 (n + 60)) (n + 60 + 1) 14 [AV.lst Cap.any (r :: rs)] (AS.mk [AObj.cells x 27] [] 0 0) = some (AV.slc 2 4 0 k k, AS.mk [AObj.cells x 27, AObj.dead, AObj.cells cs 27] [] 0 0) :=
  call_path (ds := [(6, Tell.op (AV.slc 2 4 0 k k) (AS.mk [AObj.cells x 27, AObj.dead, AObj.cells cs 27] [] 1 0))]) (cs := [aappend (Cfg.P cfg0) true (AS.mk [AObj.cells x 27, AObj.cells [] 27] [] 1 0) 22 (AV.slc 1 4 0 0 0) (AV.lst Cap.any (r :: rs)) = some (AV.slc 2 4 0 k k, AS.mk [AObj.cells x 27, AObj.dead, AObj.cells cs 27] [] 1 0)]) (by kernel_rfl) (by kernel_rfl) ⟨c0, trivial⟩ -- Exit.ret

theorem a31_1 (xs : List Fm) (ys : List Fm) (s : Int) (e : Int) (r : Int) (er : Int) (n : Nat) (c0 : ∀ (S : AS), Lw.call (lower cfg (n + 60)) 91 [AV.lst Cap.exact [[AV.lst Cap.any (List.map Fm.row xs)]]] S = some (vI (Int.ofNat 0), S)) (c1 : ∀ (S : AS), Lw.call (lower cfg (n + 60)) 92 [vI s, vI e, vI (↑(List.length (List.map Fm.row xs)) : Int)] S = some (AV.tup [vI r, vI er], S)) (h2 : (er == 0) = true) (c3 : aslice (Cfg.P cfg) 22 (AV.lst Cap.any (List.map Fm.row xs)) (some (vI s)) (some (vI r)) none = some (AV.lst Cap.any (List.map Fm.row ys))) (c4 : Lw.call (lower cfg (n + 60)) 14 [AV.lst Cap.any (List.map Fm.row ys)] (AS.mk [] [] 0 0) = some (AV.lst Cap.any [], AS.mk [] [] 0 0)) (y : AV) (hy : lend (AS.mk [] [] 0 0) (AV.tup [AV.lst Cap.any [], vI (Int.ofNat 0)]) = some y) : Path cfg 31 [AV.lst Cap.any (List.map Fm.row xs), vI s, vI e] y (n + 60) :=
  Path.of (ds := [(4, Tell.fr (vI (Int.ofNat 0))), (8, Tell.fr (AV.tup [vI r, vI er])), (7, Tell.b false), (3, Tell.fr (AV.lst Cap.any (List.map Fm.row ys))), (0, Tell.op (AV.lst Cap.any []) (AS.mk [] [] 0 0))]) (cs := [∀ (S : AS), Lw.call (lower cfg (n + 60)) 91 [AV.lst Cap.exact [[AV.lst Cap.any (List.map Fm.row xs)]]] S = some (vI (Int.ofNat 0), S), ∀ (S : AS), Lw.call (lower cfg (n + 60)) 92 [vI s, vI e, vI (↑(List.length (List.map Fm.row xs)) : Int)] S = some (AV.tup [vI r, vI er], S), (er != 0) = false, frP (aslice (Cfg.P cfg) 22 (AV.lst Cap.any (List.map Fm.row xs)) (some (vI s)) (some (vI r)) none) (AV.lst Cap.any (List.map Fm.row ys)), Lw.call (lower cfg (n + 60)) 14 [AV.lst Cap.any (List.map Fm.row ys)] (AS.mk [] [] 0 0) = some (AV.lst Cap.any [], AS.mk [] [] 0 0)]) (x := AV.tup [AV.lst Cap.any [], vI (Int.ofNat 0)]) (S2 := AS.mk [] [] 0 0) (by kernel_rfl) ⟨c0, c1, (congrArg not h2), (fr_of c3), c4, trivial⟩ hy -- Exit.ret
theorem a31_2 (xs : List Fm) (ys : List Fm) (s : Int) (e : Int) (r : Int) (er : Int) (n : Nat) (c0 : ∀ (S : AS), Lw.call (lower cfg (n + 60)) 91 [AV.lst Cap.exact [[AV.lst Cap.any (List.map Fm.row xs)]]] S = some (vI (Int.ofNat 0), S)) (c1 : ∀ (S : AS), Lw.call (lower cfg (n + 60)) 92 [vI s, vI e, vI (↑(List.length (List.map Fm.row xs)) : Int)] S = some (AV.tup [vI r, vI er], S)) (h2 : (er == 0) = false) : Path cfg 31 [AV.lst Cap.any (List.map Fm.row xs), vI s, vI e] (AV.tup [AV.v (Value.slice none 0 0), vI er]) (n + 60) :=
  Path.of (ds := [(4, Tell.fr (vI (Int.ofNat 0))), (8, Tell.fr (AV.tup [vI r, vI er])), (7, Tell.b true)]) (cs := [∀ (S : AS), Lw.call (lower cfg (n + 60)) 91 [AV.lst Cap.exact [[AV.lst Cap.any (List.map Fm.row xs)]]] S = some (vI (Int.ofNat 0), S), ∀ (S : AS), Lw.call (lower cfg (n + 60)) 92 [vI s, vI e, vI (↑(List.length (List.map Fm.row xs)) : Int)] S = some (AV.tup [vI r, vI er], S), (er != 0) = true]) (x := AV.tup [AV.v (Value.slice none 0 0), vI er]) (S2 := AS.mk [] [] 0 0) (by kernel_rfl) ⟨c0, c1, (congrArg not h2), trivial⟩ rfl -- Exit.ret
theorem b31_1 (xs : List Fm) (ys : List Fm) (s : Int) (e : Int) (r : Int) (er : Int) (n : Nat) (c0 : ∀ (S : AS), Lw.call (lower cfg (n + 60)) 91 [AV.lst Cap.exact [[AV.lst Cap.any (List.map Fm.row xs)]]] S = some (vI (Int.ofNat 0), S)) (c1 : ∀ (S : AS), Lw.call (lower cfg (n + 60)) 92 [vI s, vI e, vI (↑(List.length (List.map Fm.row xs)) : Int)] S = some (AV.tup [vI r, vI er], S)) (h2 : (er == 0) = true) (c3 : aslice (Cfg.P cfg) 22 (AV.lst Cap.any (List.map Fm.row xs)) (some (vI s)) (some (vI r)) none = some (AV.lst Cap.any (List.map Fm.row ys))) (c4 : Lw.call (lower cfg (n + 60)) 14 [AV.lst Cap.any (List.map Fm.row ys)] (AS.mk [] [] 0 0) = some (AV.slc 1 4 0 (List.length ys) (List.length ys), AS.mk [AObj.dead, AObj.cells (flat4 ys) 27] [] 0 0)) (y : AV) (hy : lend (AS.mk [AObj.dead, AObj.cells (flat4 ys) 27] [] 0 0) (AV.tup [AV.slc 1 4 0 (List.length ys) (List.length ys), vI (Int.ofNat 0)]) = some y) : Path cfg 31 [AV.lst Cap.any (List.map Fm.row xs), vI s, vI e] y (n + 60) :=
  Path.of (ds := [(4, Tell.fr (vI (Int.ofNat 0))), (8, Tell.fr (AV.tup [vI r, vI er])), (7, Tell.b false), (3, Tell.fr (AV.lst Cap.any (List.map Fm.row ys))), (0, Tell.op (AV.slc 1 4 0 (List.length ys) (List.length ys)) (AS.mk [AObj.dead, AObj.cells (flat4 ys) 27] [] 0 0))]) (cs := [∀ (S : AS), Lw.call (lower cfg (n + 60)) 91 [AV.lst Cap.exact [[AV.lst Cap.any (List.map Fm.row xs)]]] S = some (vI (Int.ofNat 0), S), ∀ (S : AS), Lw.call (lower cfg (n + 60)) 92 [vI s, vI e, vI (↑(List.length (List.map Fm.row xs)) : Int)] S = some (AV.tup [vI r, vI er], S), (er != 0) = false, frP (aslice (Cfg.P cfg) 22 (AV.lst Cap.any (List.map Fm.row xs)) (some (vI s)) (some (vI r)) none) (AV.lst Cap.any (List.map Fm.row ys)), Lw.call (lower cfg (n + 60)) 14 [AV.lst Cap.any (List.map Fm.row ys)] (AS.mk [] [] 0 0) = some (AV.slc 1 4 0 (List.length ys) (List.length ys), AS.mk [AObj.dead, AObj.cells (flat4 ys) 27] [] 0 0)]) (x := AV.tup [AV.slc 1 4 0 (List.length ys) (List.length ys), vI (Int.ofNat 0)]) (S2 := AS.mk [AObj.dead, AObj.cells (flat4 ys) 27] [] 0 0) (by kernel_rfl) ⟨c0, c1, (congrArg not h2), (fr_of c3), c4, trivial⟩ hy -- Exit.ret
theorem b31_2 (xs : List Fm) (ys : List Fm) (s : Int) (e : Int) (r : Int) (er : Int) (n : Nat) (c0 : ∀ (S : AS), Lw.call (lower cfg (n + 60)) 91 [AV.lst Cap.exact [[AV.lst Cap.any (List.map Fm.row xs)]]] S = some (vI (Int.ofNat 0), S)) (c1 : ∀ (S : AS), Lw.call (lower cfg (n + 60)) 92 [vI s, vI e, vI (↑(List.length (List.map Fm.row xs)) : Int)] S = some (AV.tup [vI r, vI er], S)) (h2 : (er == 0) = false) : Path cfg 31 [AV.lst Cap.any (List.map Fm.row xs), vI s, vI e] (AV.tup [AV.v (Value.slice none 0 0), vI er]) (n + 60) :=
  Path.of (ds := [(4, Tell.fr (vI (Int.ofNat 0))), (8, Tell.fr (AV.tup [vI r, vI er])), (7, Tell.b true)]) (cs := [∀ (S : AS), Lw.call (lower cfg (n + 60)) 91 [AV.lst Cap.exact [[AV.lst Cap.any (List.map Fm.row xs)]]] S = some (vI (Int.ofNat 0), S), ∀ (S : AS), Lw.call (lower cfg (n + 60)) 92 [vI s, vI e, vI (↑(List.length (List.map Fm.row xs)) : Int)] S = some (AV.tup [vI r, vI er], S), (er != 0) = true]) (x := AV.tup [AV.v (Value.slice none 0 0), vI er]) (S2 := AS.mk [] [] 0 0) (by kernel_rfl) ⟨c0, c1, (congrArg not h2), trivial⟩ rfl -- Exit.ret
theorem a32_1 (xs : List Fm) (ys : List Fm) (s : Int) (e : Int) (r : Int) (er : Int) (n : Nat) (c0 : ∀ (S : AS), Lw.call (lower cfg (n + 60)) 77 [AV.lst Cap.any (List.map Fm.row xs)] S = some (vB false, S)) (c1 : ∀ (S : AS), Lw.call (lower cfg (n + 60)) 93 [vI (↑(List.length (List.map Fm.row xs)) : Int), vI s, vI e] S = some (AV.tup [vI r, vI er], S)) (h2 : (er == 0) = true) (c3 : aslice (Cfg.P cfg) 22 (AV.lst Cap.any (List.map Fm.row xs)) (some (vI s)) (some (vI r)) none = some (AV.lst Cap.any (List.map Fm.row ys))) (c4 : aappend (Cfg.P cfg) false (AS.mk [] [] 0 0) 22 (AV.lst Cap.exact []) (AV.lst Cap.any (List.map Fm.row ys)) = some (AV.lst Cap.exact [], AS.mk [] [] 0 0)) (y : AV) (hy : lend (AS.mk [] [] 0 0) (AV.tup [AV.lst Cap.exact [], vI (Int.ofNat 0)]) = some y) : Path cfg 32 [AV.lst Cap.any (List.map Fm.row xs), vI s, vI e] y (n + 60) :=
  Path.of (ds := [(3, Tell.fr (vB false)), (5, Tell.fr (AV.tup [vI r, vI er])), (7, Tell.b false), (4, Tell.fr (AV.lst Cap.any (List.map Fm.row ys))), (0, Tell.op (AV.lst Cap.exact []) (AS.mk [] [] 0 0))]) (cs := [∀ (S : AS), Lw.call (lower cfg (n + 60)) 77 [AV.lst Cap.any (List.map Fm.row xs)] S = some (vB false, S), ∀ (S : AS), Lw.call (lower cfg (n + 60)) 93 [vI (↑(List.length (List.map Fm.row xs)) : Int), vI s, vI e] S = some (AV.tup [vI r, vI er], S), (er != 0) = false, frP (aslice (Cfg.P cfg) 22 (AV.lst Cap.any (List.map Fm.row xs)) (some (vI s)) (some (vI r)) none) (AV.lst Cap.any (List.map Fm.row ys)), aappend (Cfg.P cfg) false (AS.mk [] [] 0 0) 22 (AV.lst Cap.exact []) (AV.lst Cap.any (List.map Fm.row ys)) = some (AV.lst Cap.exact [], AS.mk [] [] 0 0)]) (x := AV.tup [AV.lst Cap.exact [], vI (Int.ofNat 0)]) (S2 := AS.mk [] [] 0 0) (by kernel_rfl) ⟨c0, c1, (congrArg not h2), (fr_of c3), c4, trivial⟩ hy -- Exit.ret
theorem a32_2 (xs : List Fm) (ys : List Fm) (s : Int) (e : Int) (r : Int) (er : Int) (n : Nat) (c0 : ∀ (S : AS), Lw.call (lower cfg (n + 60)) 77 [AV.lst Cap.any (List.map Fm.row xs)] S = some (vB false, S)) (c1 : ∀ (S : AS), Lw.call (lower cfg (n + 60)) 93 [vI (↑(List.length (List.map Fm.row xs)) : Int), vI s, vI e] S = some (AV.tup [vI r, vI er], S)) (h2 : (er == 0) = false) : Path cfg 32 [AV.lst Cap.any (List.map Fm.row xs), vI s, vI e] (AV.tup [AV.v (Value.slice none 0 0), vI er]) (n + 60) :=
  Path.of (ds := [(3, Tell.fr (vB false)), (5, Tell.fr (AV.tup [vI r, vI er])), (7, Tell.b true)]) (cs := [∀ (S : AS), Lw.call (lower cfg (n + 60)) 77 [AV.lst Cap.any (List.map Fm.row xs)] S = some (vB false, S), ∀ (S : AS), Lw.call (lower cfg (n + 60)) 93 [vI (↑(List.length (List.map Fm.row xs)) : Int), vI s, vI e] S = some (AV.tup [vI r, vI er], S), (er != 0) = true]) (x := AV.tup [AV.v (Value.slice none 0 0), vI er]) (S2 := AS.mk [] [] 0 0) (by kernel_rfl) ⟨c0, c1, (congrArg not h2), trivial⟩ rfl -- Exit.ret
theorem b32_1 (xs : List Fm) (ys : List Fm) (s : Int) (e : Int) (r : Int) (er : Int) (n : Nat) (c0 : ∀ (S : AS), Lw.call (lower cfg (n + 60)) 77 [AV.lst Cap.any (List.map Fm.row xs)] S = some (vB false, S)) (c1 : ∀ (S : AS), Lw.call (lower cfg (n + 60)) 93 [vI (↑(List.length (List.map Fm.row xs)) : Int), vI s, vI e] S = some (AV.tup [vI r, vI er], S)) (h2 : (er == 0) = true) (c3 : aslice (Cfg.P cfg) 22 (AV.lst Cap.any (List.map Fm.row xs)) (some (vI s)) (some (vI r)) none = some (AV.lst Cap.any (List.map Fm.row ys))) (c4 : aappend (Cfg.P cfg) false (AS.mk [] [] 0 0) 22 (AV.lst Cap.exact []) (AV.lst Cap.any (List.map Fm.row ys)) = some (AV.lst (Cap.tok 0 (List.length ys) 4) (List.map Fm.row ys), AS.mk [] [List.length ys] 0 0)) (y : AV) (hy : lend (AS.mk [] [List.length ys] 0 0) (AV.tup [AV.lst (Cap.tok 0 (List.length ys) 4) (List.map Fm.row ys), vI (Int.ofNat 0)]) = some y) : Path cfg 32 [AV.lst Cap.any (List.map Fm.row xs), vI s, vI e] y (n + 60) :=
  Path.of (ds := [(3, Tell.fr (vB false)), (5, Tell.fr (AV.tup [vI r, vI er])), (7, Tell.b false), (4, Tell.fr (AV.lst Cap.any (List.map Fm.row ys))), (0, Tell.op (AV.lst (Cap.tok 0 (List.length ys) 4) (List.map Fm.row ys)) (AS.mk [] [List.length ys] 0 0))]) (cs := [∀ (S : AS), Lw.call (lower cfg (n + 60)) 77 [AV.lst Cap.any (List.map Fm.row xs)] S = some (vB false, S), ∀ (S : AS), Lw.call (lower cfg (n + 60)) 93 [vI (↑(List.length (List.map Fm.row xs)) : Int), vI s, vI e] S = some (AV.tup [vI r, vI er], S), (er != 0) = false, frP (aslice (Cfg.P cfg) 22 (AV.lst Cap.any (List.map Fm.row xs)) (some (vI s)) (some (vI r)) none) (AV.lst Cap.any (List.map Fm.row ys)), aappend (Cfg.P cfg) false (AS.mk [] [] 0 0) 22 (AV.lst Cap.exact []) (AV.lst Cap.any (List.map Fm.row ys)) = some (AV.lst (Cap.tok 0 (List.length ys) 4) (List.map Fm.row ys), AS.mk [] [List.length ys] 0 0)]) (x := AV.tup [AV.lst (Cap.tok 0 (List.length ys) 4) (List.map Fm.row ys), vI (Int.ofNat 0)]) (S2 := AS.mk [] [List.length ys] 0 0) (by kernel_rfl) ⟨c0, c1, (congrArg not h2), (fr_of c3), c4, trivial⟩ hy -- Exit.ret
theorem b32_2 (xs : List Fm) (ys : List Fm) (s : Int) (e : Int) (r : Int) (er : Int) (n : Nat) (c0 : ∀ (S : AS), Lw.call (lower cfg (n + 60)) 77 [AV.lst Cap.any (List.map Fm.row xs)] S = some (vB false, S)) (c1 : ∀ (S : AS), Lw.call (lower cfg (n + 60)) 93 [vI (↑(List.length (List.map Fm.row xs)) : Int), vI s, vI e] S = some (AV.tup [vI r, vI er], S)) (h2 : (er == 0) = false) : Path cfg 32 [AV.lst Cap.any (List.map Fm.row xs), vI s, vI e] (AV.tup [AV.v (Value.slice none 0 0), vI er]) (n + 60) :=
  Path.of (ds := [(3, Tell.fr (vB false)), (5, Tell.fr (AV.tup [vI r, vI er])), (7, Tell.b true)]) (cs := [∀ (S : AS), Lw.call (lower cfg (n + 60)) 77 [AV.lst Cap.any (List.map Fm.row xs)] S = some (vB false, S), ∀ (S : AS), Lw.call (lower cfg (n + 60)) 93 [vI (↑(List.length (List.map Fm.row xs)) : Int), vI s, vI e] S = some (AV.tup [vI r, vI er], S), (er != 0) = true]) (x := AV.tup [AV.v (Value.slice none 0 0), vI er]) (S2 := AS.mk [] [] 0 0) (by kernel_rfl) ⟨c0, c1, (congrArg not h2), trivial⟩ rfl -- Exit.ret


theorem forms : FormP cfg.P 22 27 := ⟨by kernel_rfl, by kernel_rfl, by kernel_rfl, by kernel_rfl, by kernel_rfl⟩

/-- The start and the end of a part. -/
def rng (s e : Int) (m : Nat) : Option (Nat × Nat) :=
  if e = -1 then (if 0 ≤ s ∧ s ≤ m then some (s.toNat, m) else none)
  else if 0 ≤ s ∧ s ≤ e ∧ e ≤ m then some (s.toNat, e.toNat) else none
def rv : Option (Nat × Nat) → Int | none => 0 | some p => p.2
def re : Option (Nat × Nat) → Int | none => 7 | some _ => 0

theorem rng_spec {s e : Int} {m : Nat} {p : Nat × Nat} (h : rng s e m = some p) : s = p.1 ∧ p.1 ≤ p.2 ∧ p.2 ≤ m := by
  unfold rng at h
  split at h
  · split at h <;> cases h; dsimp only; omega
  · split at h <;> cases h; dsimp only; omega

theorem ck92 (s e : Int) (m : Nat) : Fr cfg 92 [.v (.int .i64 s), .v (.int .i64 e), .v (.int .i64 m)] (.tup [.v (.int .i64 (rv (rng s e m))), .v (.int .i64 (re (rng s e m)))]) := by
  refine Fr.of_co rfl (by kernel_rfl) (Own.v (Own.v (Own.v Own.nil))) (Co.path (by kernel_rfl) (Evt.shift (Evt.of fun n => ?_)))
  have no : (¬ (e = -1 ∧ 0 ≤ s ∧ s ≤ m) ∧ ¬ (e ≠ -1 ∧ 0 ≤ s ∧ s ≤ e ∧ e ≤ m)) → rng s e m = none := fun ⟨h1, h2⟩ => by
    unfold rng
    split
    · rw [if_neg (fun h => h1 ⟨by assumption, h⟩)]
    · rw [if_neg (fun h => h2 ⟨by assumption, h⟩)]
  by_cases h0 : s < 0
  · rw [no (by omega)]; exact f92_1 s e m n (decide_eq_true h0)
  by_cases h1 : s > m
  · rw [no (by omega)]; exact f92_2 s e m n (decide_eq_false h0) (decide_eq_true h1)
  by_cases h2 : e < -1
  · rw [no (by omega)]; exact f92_3 s e m n (decide_eq_false h0) (decide_eq_false h1) (decide_eq_true h2)
  by_cases h3 : e > m
  · rw [no (by omega)]; exact f92_4 s e m n (decide_eq_false h0) (decide_eq_false h1) (decide_eq_false h2) (decide_eq_true h3)
  by_cases h4 : e ≥ 0
  · by_cases h5 : e < s
    · rw [no (by omega)]; exact f92_5 s e m n (decide_eq_false h0) (decide_eq_false h1) (decide_eq_false h2) (decide_eq_false h3) (decide_eq_true h4) (decide_eq_true h5)
    · have : rng s e m = some (s.toNat, e.toNat) := by unfold rng; rw [if_neg (by omega), if_pos (by omega)]
      rw [this]
      have := f92_7 s e m n (decide_eq_false h0) (decide_eq_false h1) (decide_eq_false h2) (decide_eq_false h3) (decide_eq_true h4) (decide_eq_false h5) (decide_eq_false (by omega))
      simp only [rv, re, Int.toNat_of_nonneg h4]; exact this
  · have : rng s e m = some (s.toNat, m) := by unfold rng; rw [if_pos (by omega), if_pos (by omega)]
    rw [this]
    exact f92_8 s e m n (decide_eq_false h0) (decide_eq_false h1) (decide_eq_false h2) (decide_eq_false h3) (decide_eq_false h4) (decide_eq_true (by omega))

theorem ck93 (s e : Int) (m : Nat) : Fr cfg 93 [.v (.int .i64 m), .v (.int .i64 s), .v (.int .i64 e)] (.tup [.v (.int .i64 (rv (rng s e m))), .v (.int .i64 (re (rng s e m)))]) := by
  refine Fr.of_co rfl (by kernel_rfl) (Own.v (Own.v (Own.v Own.nil))) (Co.path (by kernel_rfl) (Evt.shift (Evt.of fun n => ?_)))
  unfold rng
  by_cases he : e = -1
  · rw [if_pos he]
    by_cases h0 : s < 0
    · rw [if_neg (by omega)]; exact f93_1 s e m n (beqT he) (decide_eq_true h0)
    by_cases h1 : (m : Int) < s
    · rw [if_neg (by omega)]; exact f93_2 s e m n (beqT he) (decide_eq_false h0) (decide_eq_true h1)
    · rw [if_pos (by omega)]; exact f93_4 s e m n (beqT he) (decide_eq_false h0) (decide_eq_false h1) (decide_eq_false (by omega))
  · rw [if_neg he]
    by_cases h0 : s < 0
    · rw [if_neg (by omega)]; exact f93_5 s e m n (beqF he) (decide_eq_true h0)
    by_cases h1 : e < s
    · rw [if_neg (by omega)]; exact f93_6 s e m n (beqF he) (decide_eq_false h0) (decide_eq_true h1)
    by_cases h2 : e > m
    · rw [if_neg (by omega)]; exact f93_7 s e m n (beqF he) (decide_eq_false h0) (decide_eq_false h1) (decide_eq_true h2)
    · rw [if_pos (by omega)]
      have := f93_8 s e m n (beqF he) (decide_eq_false h0) (decide_eq_false h1) (decide_eq_false h2)
      simp only [rv, re, Int.toNat_of_nonneg (show 0 ≤ e by omega)]; exact this

abbrev la (xs : List Fm) : AV := .lst .any (xs.map Fm.row)
theorem len_row (xs : List Fm) : ((List.map Fm.row xs).length : Int) = (xs.length : Int) := by simp

theorem own_two {c : Cap} {xs : List Fm} (h : untok c = c) : Go.AM.Own [.lst .exact [[.lst c (xs.map Fm.row)]]] := by
  have := (Own.lst h Own.nil : Go.AM.Own [.lst c (xs.map Fm.row)])
  refine Own.cons ?_ ?_ Own.nil
  · simp only [AV.old, belowRows, this.below, Bool.and_self]
  · simp only [AV.shut, sealRows, this.same]
theorem own_three {c d : Cap} {xs ys : List Fm} (h : untok c = c) (h2 : untok d = d) : Go.AM.Own [.lst .exact [[.lst c (xs.map Fm.row)], [.lst d (ys.map Fm.row)]]] := by
  have h3 := (Own.lst h Own.nil : Go.AM.Own [.lst c (xs.map Fm.row)])
  have h4 := (Own.lst h2 Own.nil : Go.AM.Own [.lst d (ys.map Fm.row)])
  refine Own.cons ?_ ?_ Own.nil
  · simp only [AV.old, belowRows, h3.below, h4.below, Bool.and_self]
  · simp only [AV.shut, sealRows, h3.same, h4.same]

theorem ck91 (xs : List Fm) (hb : xs.length ≤ 2000) : Fr cfg 91 [.lst .exact [[la xs]]] (.v (.int .i64 0)) := by
  refine Fr.of_co rfl (by kernel_rfl) (own_two rfl) (Co.path (by kernel_rfl) (Evt.shift (Evt.of fun n => ?_)))
  exact f91_2 .exact xs n (decide_eq_false (by simp; omega))
theorem ck91b (xs ys : List Fm) (hb : xs.length ≤ 2000) (hb2 : ys.length ≤ 2000) : Fr cfg 91 [.lst .exact [[la xs], [la ys]]] (.v (.int .i64 0)) := by
  refine Fr.of_co rfl (by kernel_rfl) (own_three rfl rfl) (Co.path (by kernel_rfl) (Evt.shift (Evt.of fun n => ?_)))
  exact ff91_3 .exact xs ys n (decide_eq_false (by simp; omega)) (decide_eq_false (by simp; omega))
theorem ck77 (xs : List Fm) (hb : xs.length ≤ 2000) : Fr cfg 77 [la xs] (.v (.bool false)) := by
  refine Fr.of_co rfl (by kernel_rfl) (Own.lst rfl Own.nil) (Co.path (by kernel_rfl) (Evt.shift (Evt.of fun n => ?_)))
  have := f77_1 xs n
  rwa [decide_eq_false (by simp; omega)] at this

/-! slices.Clone -/
theorem clone_nil (n : Nat) (S : AS) : (lower cfg (n + 60)).call 14 [.lst .any []] S = some (.lst .any [], S) := by kernel_rfl
theorem clone_x (n : Nat) (r : List AV) (rs : List (List AV)) (S : AS) : (lower cfg (n + 60)).call 14 [.lst .any (r :: rs)] S = acallF cfg0 (lower cfg0 (0 + 60)) (0 + 60 + 1) 14 [.lst .any (r :: rs)] S := by kernel_rfl
theorem clone0 (xs : List Fm) (h0 : xs ≠ []) (hb : xs.length ≤ 2000) (n : Nat) : (lower cfg (n + 60)).call 14 [la xs] (AS.mk [] [] 0 0) = some (.slc 1 4 0 xs.length xs.length, AS.mk [.dead, .cells (flat4 xs) 27] [] 0 0) := by
  have ha := append_new (S := AS.mk [.cells [] 27] [] 0 0) (o := 0) (c := .any) forms rfl h0 (by omega)
  cases xs with
  | nil => exact absurd rfl h0
  | cons x xs =>
    refine (clone_x n x.row (xs.map Fm.row) _).trans ?_
    exact c14_1 _ _ _ _ 0 ha
theorem clone1 (x : Fm) (xs : List Fm) (h0 : xs ≠ []) (hb : xs.length ≤ 2000) (n : Nat) : (lower cfg (n + 60)).call 14 [la xs] (AS.mk [.cells x.row 27] [] 0 0) = some (.slc 2 4 0 xs.length xs.length, AS.mk [.cells x.row 27, .dead, .cells (flat4 xs) 27] [] 0 0) := by
  have ha := append_new (S := AS.mk [.cells x.row 27, .cells [] 27] [] 1 0) (o := 1) (c := .any) forms rfl h0 (by omega)
  cases xs with
  | nil => exact absurd rfl h0
  | cons y xs =>
    refine (clone_x n y.row (xs.map Fm.row) _).trans ?_
    exact d14_1 _ _ _ _ _ 0 ha

/-- What comes out: a list, or an error. -/
def outV (c : Cap) : Option (List Fm) → AV
  | none => .tup [.v (.slice none 0 0), .v (.int .i64 7)]
  | some zs => .tup [.lst c (zs.map Fm.row), .v (.int .i64 0)]
def Out (f : Nat) (args : List AV) (o : Option (List Fm)) : Prop := ∃ c, untok c = c ∧ Fr cfg f args (outV c o)

def subq (xs : List Fm) (s e : Int) : Option (List Fm) := (rng s e xs.length).map fun p => (xs.take p.2).drop p.1

theorem out31 (xs : List Fm) (hb : xs.length ≤ 2000) (s e : Int) : Out 31 [la xs, .v (.int .i64 s), .v (.int .i64 e)] (subq xs s e) := by
  have go : ∀ c, (Evt fun n => Path cfg 31 [la xs, .v (.int .i64 s), .v (.int .i64 e)] (outV c (subq xs s e)) (n + 60)) → untok c = c → Out 31 [la xs, .v (.int .i64 s), .v (.int .i64 e)] (subq xs s e) := fun c h hc =>
    ⟨c, hc, Fr.of_co rfl (by kernel_rfl) (Own.lst rfl (Own.v (Own.v Own.nil))) (Co.path (by kernel_rfl) (Evt.shift h))⟩
  have hk := (ck91 xs hb).shift.and (ck92 s e xs.length).shift
  unfold subq at go ⊢
  cases hr : rng s e xs.length with
  | none =>
    rw [hr] at hk go
    refine go .any (hk.mono fun n hn => ?_) rfl
    exact a31_2 xs xs s e 0 7 n hn.1 (fun S => by rw [len_row]; exact hn.2 S) rfl
  | some p =>
    rw [hr] at hk go
    obtain ⟨hs, h1, h2⟩ := rng_spec hr
    have hsl := slice_lst forms xs h1 h2
    have hyl : ((xs.take p.2).drop p.1).length ≤ 2000 := by simp; omega
    rw [← hs] at hsl
    by_cases h0 : (xs.take p.2).drop p.1 = []
    · refine go .any (hk.mono fun n hn => ?_) rfl
      refine a31_1 xs _ s e p.2 0 n hn.1 (fun S => by rw [len_row]; exact hn.2 S) rfl hsl ?_ _ ?_
      · rw [h0]; exact clone_nil n _
      · simp only [Option.map_some, outV, h0]; rfl
    · refine go .unk (hk.mono fun n hn => ?_) rfl
      refine b31_1 xs _ s e p.2 0 n hn.1 (fun S => by rw [len_row]; exact hn.2 S) rfl hsl (clone0 _ h0 hyl n) _ ?_
      exact lend_pair (lend_slc rfl)

theorem out32 (xs : List Fm) (hb : xs.length ≤ 2000) (s e : Int) : Out 32 [la xs, .v (.int .i64 s), .v (.int .i64 e)] (subq xs s e) := by
  have go : ∀ c, (Evt fun n => Path cfg 32 [la xs, .v (.int .i64 s), .v (.int .i64 e)] (outV c (subq xs s e)) (n + 60)) → untok c = c → Out 32 [la xs, .v (.int .i64 s), .v (.int .i64 e)] (subq xs s e) := fun c h hc =>
    ⟨c, hc, Fr.of_co rfl (by kernel_rfl) (Own.lst rfl (Own.v (Own.v Own.nil))) (Co.path (by kernel_rfl) (Evt.shift h))⟩
  have hk := (ck77 xs hb).shift.and (ck93 s e xs.length).shift
  unfold subq at go ⊢
  cases hr : rng s e xs.length with
  | none =>
    rw [hr] at hk go
    refine go .any (hk.mono fun n hn => ?_) rfl
    exact a32_2 xs xs s e 0 7 n hn.1 (fun S => by rw [len_row]; exact hn.2 S) rfl
  | some p =>
    rw [hr] at hk go
    obtain ⟨hs, h1, h2⟩ := rng_spec hr
    have hsl := slice_lst forms xs h1 h2
    have hyl : ((xs.take p.2).drop p.1).length ≤ 2000 := by simp; omega
    rw [← hs] at hsl
    by_cases h0 : (xs.take p.2).drop p.1 = []
    · refine go .exact (hk.mono fun n hn => ?_) rfl
      refine a32_1 xs _ s e p.2 0 n hn.1 (fun S => by rw [len_row]; exact hn.2 S) rfl hsl ?_ _ ?_
      · rw [h0]; exact append_lst0 forms
      · simp only [Option.map_some, outV, h0]; rfl
    · refine go .unk (hk.mono fun n hn => ?_) rfl
      exact b32_1 xs _ s e p.2 0 n hn.1 (fun S => by rw [len_row]; exact hn.2 S) rfl hsl (append_lst forms h0 (by omega)) _ (lend_pair (lend_lst _ _ _ _))
end Go.Proofs.YtamemdhmjglifaaGreatDoor

/- Chapter 12: Reverse. -/
namespace Go.Proofs.YtamemdhmjglifaaGreatDoor
open Go.RowKit Go.AM
set_option maxRecDepth 100000
set_option linter.unusedVariables false
theorem a37_1  (n : Nat) (c0 : ∀ (S : AS), Lw.call (lower cfg (n + 60)) 91 [AV.lst Cap.exact [[AV.lst Cap.any []]]] S = some (vI (Int.ofNat 0), S)) (y : AV) (hy : lend (AS.mk [] [] 0 0) (AV.tup [AV.lst Cap.any [], vI (Int.ofNat 0)]) = some y) : Path cfg 37 [AV.lst Cap.any []] y (n + 60) :=
  Path.of (ds := [(4, Tell.fr (vI (Int.ofNat 0)))]) (cs := [∀ (S : AS), Lw.call (lower cfg (n + 60)) 91 [AV.lst Cap.exact [[AV.lst Cap.any []]]] S = some (vI (Int.ofNat 0), S)]) (x := AV.tup [AV.lst Cap.any [], vI (Int.ofNat 0)]) (S2 := AS.mk [] [] 0 0) (by kernel_rfl) ⟨c0, trivial⟩ hy -- Exit.ret
theorem b37_1 (xs : List Fm) (cs : List AV) (n : Nat) (c0 : ∀ (S : AS), Lw.call (lower cfg (n + 60)) 91 [AV.lst Cap.exact [[AV.lst Cap.any (List.map Fm.row xs)]]] S = some (vI (Int.ofNat 0), S)) (c1 : Lw.call (lower cfg (n + 60)) 14 [AV.lst Cap.any (List.map Fm.row xs)] (AS.mk [] [] 0 0) = some (AV.slc 1 4 0 (List.length xs) (List.length xs), AS.mk [AObj.dead, AObj.cells (flat4 xs) 27] [] 0 0)) (c2 : Lw.call (lower cfg (n + 60)) 94 [AV.slc 1 4 0 (List.length xs) (List.length xs)] (AS.mk [AObj.dead, AObj.cells (flat4 xs) 27] [] 0 0) = some (AV.tup [], AS.mk [AObj.dead, AObj.cells cs 27] [] 0 0)) (y : AV) (hy : lend (AS.mk [AObj.dead, AObj.cells cs 27] [] 0 0) (AV.tup [AV.slc 1 4 0 (List.length xs) (List.length xs), vI (Int.ofNat 0)]) = some y) : Path cfg 37 [AV.lst Cap.any (List.map Fm.row xs)] y (n + 60) :=
  Path.of (ds := [(4, Tell.fr (vI (Int.ofNat 0))), (5, Tell.op (AV.slc 1 4 0 (List.length xs) (List.length xs)) (AS.mk [AObj.dead, AObj.cells (flat4 xs) 27] [] 0 0)), (2, Tell.op (AV.tup []) (AS.mk [AObj.dead, AObj.cells cs 27] [] 0 0))]) (cs := [∀ (S : AS), Lw.call (lower cfg (n + 60)) 91 [AV.lst Cap.exact [[AV.lst Cap.any (List.map Fm.row xs)]]] S = some (vI (Int.ofNat 0), S), Lw.call (lower cfg (n + 60)) 14 [AV.lst Cap.any (List.map Fm.row xs)] (AS.mk [] [] 0 0) = some (AV.slc 1 4 0 (List.length xs) (List.length xs), AS.mk [AObj.dead, AObj.cells (flat4 xs) 27] [] 0 0), Lw.call (lower cfg (n + 60)) 94 [AV.slc 1 4 0 (List.length xs) (List.length xs)] (AS.mk [AObj.dead, AObj.cells (flat4 xs) 27] [] 0 0) = some (AV.tup [], AS.mk [AObj.dead, AObj.cells cs 27] [] 0 0)]) (x := AV.tup [AV.slc 1 4 0 (List.length xs) (List.length xs), vI (Int.ofNat 0)]) (S2 := AS.mk [AObj.dead, AObj.cells cs 27] [] 0 0) (by kernel_rfl) ⟨c0, c1, c2, trivial⟩ hy -- Exit.ret
theorem b94_1 (k : Nat) (cs : List AV) (ds : List AV) (S1 : List (Nat × AV)) (n : Nat) (γ0 : AAct → Nat → AV) (l0 : LoopIs cfg (lower cfg (n + 60)) (n + 60 + 1) 94 none (codeAt (codeOf (Cfg.P cfg) 94) [1, 0]) 28 [] [(0, AV.slc 1 4 0 k k), (2, vI (Int.ofNat 0)), (3, vI (IntKind.wrap IntKind.i64 ((↑k : Int) - 1)))] (AS.mk [AObj.dead, AObj.cells cs 27] [] 2 0) (Exit.exit 0) [] (AS.mk [AObj.dead, AObj.cells ds 27] [] 1 0) γ0) : acallF cfg (lower cfg (n + 60)) (n + 60 + 1) 94 [AV.slc 1 4 0 k k] (AS.mk [AObj.dead, AObj.cells cs 27] [] 0 0) = some (AV.tup [], AS.mk [AObj.dead, AObj.cells ds 27] [] 0 0) :=
  call_path (ds := [(5, Tell.lp [0, 2, 3] (Exit.exit 0) [] (AS.mk [AObj.dead, AObj.cells ds 27] [] 1 0) γ0)]) (cs := [LoopIs cfg (lower cfg (n + 60)) (n + 60 + 1) 94 none (codeAt (codeOf (Cfg.P cfg) 94) [1, 0]) 28 [] [(0, AV.slc 1 4 0 k k), (2, vI (Int.ofNat 0)), (3, vI (IntKind.wrap IntKind.i64 ((↑k : Int) - 1)))] (AS.mk [AObj.dead, AObj.cells cs 27] [] 2 0) (Exit.exit 0) [] (AS.mk [AObj.dead, AObj.cells ds 27] [] 1 0) γ0]) (by kernel_rfl) (by kernel_rfl) ⟨l0, trivial⟩ -- Exit.normal
theorem q94_1 (x : Fm) (y : Fm) (cs : List AV) (ds : List AV) (es : List AV) (k : Nat) (p : Nat) (q : Nat) (w : Nat) (i : Int) (j : Int) (n : Nat) (h0 : decide (i < j) = true) (c1 : aindexAddr (Cfg.P cfg) 22 (AV.slc 1 4 0 k k) (vI j) = some (AV.ptr 1 q)) (c2 : aload (Cfg.P cfg) (AS.mk [AObj.dead, AObj.cells cs 27] [] 2 0) 27 (AV.ptr 1 q) = some ((Fm.av y))) (c3 : aindexAddr (Cfg.P cfg) 22 (AV.slc 1 4 0 k k) (vI i) = some (AV.ptr 1 p)) (c4 : aload (Cfg.P cfg) (AS.mk [AObj.dead, AObj.cells cs 27] [] 2 0) 27 (AV.ptr 1 p) = some ((Fm.av x))) (c5 : aindexAddr (Cfg.P cfg) 22 (AV.slc 1 4 0 k k) (vI i) = some (AV.ptr 1 p)) (c6 : astore (Cfg.P cfg) (AS.mk [AObj.dead, AObj.cells cs 27] [] 2 0) 27 ((Fm.av y)) (AV.ptr 1 p) = some (AS.mk [AObj.dead, AObj.cells ds 27] [] 1 0)) (c7 : aindexAddr (Cfg.P cfg) 22 (AV.slc 1 4 0 k k) (vI j) = some (AV.ptr 1 q)) (c8 : astore (Cfg.P cfg) (AS.mk [AObj.dead, AObj.cells ds 27] [] 2 0) 27 ((Fm.av x)) (AV.ptr 1 q) = some (AS.mk [AObj.dead, AObj.cells es 27] [] 1 0)) (a : AAct) (ha : In 28 [] [(0, AV.slc 1 4 0 k k), (2, vI i), (3, vI j)] a) : Seen (aBody cfg 94 (codeAt (codeOf cfg.P 94) [1, 0, 0]) 2 (aC cfg (lower cfg (n + 60)) (n + 60 + 1) 94 none (codeAt (codeOf cfg.P 94) [1, 0, 0])) a (AS.mk [AObj.dead, AObj.cells cs 27] [] w 0)) (Exit.normal) 28 [] [(0, AV.slc 1 4 0 k k), (2, vI (IntKind.wrap IntKind.i64 (i + 1))), (3, vI (IntKind.wrap IntKind.i64 (j - 1)))] (AS.mk [AObj.dead, AObj.cells es 27] [] (min (AS.low (AS.mk [AObj.dead, AObj.cells ds 27] [] (min (AS.low (AS.mk [AObj.dead, AObj.cells cs 27] [] w 0)) (AS.low (AS.mk [AObj.dead, AObj.cells ds 27] [] 1 0))) 0)) (AS.low (AS.mk [AObj.dead, AObj.cells es 27] [] 1 0))) 0) :=
  segB_ok (ds := [(3, Tell.b true), (6, Tell.fr (AV.ptr 1 q)), (0, Tell.op ((Fm.av y)) (AS.mk [AObj.dead, AObj.cells cs 27] [] 2 0)), (2, Tell.fr (AV.ptr 1 p)), (0, Tell.op ((Fm.av x)) (AS.mk [AObj.dead, AObj.cells cs 27] [] 2 0)), (0, Tell.fr (AV.ptr 1 p)), (0, Tell.op (AV.v (Value.tuple (Array.mk []))) (AS.mk [AObj.dead, AObj.cells ds 27] [] 1 0)), (0, Tell.fr (AV.ptr 1 q)), (0, Tell.op (AV.v (Value.tuple (Array.mk []))) (AS.mk [AObj.dead, AObj.cells es 27] [] 1 0))]) (cs := [decide (i < j) = true, frP (aindexAddr (Cfg.P cfg) 22 (AV.slc 1 4 0 k k) (vI j)) (AV.ptr 1 q), opP (aload (Cfg.P cfg) (AS.mk [AObj.dead, AObj.cells cs 27] [] 2 0) 27 (AV.ptr 1 q)) ((Fm.av y)) (AS.mk [AObj.dead, AObj.cells cs 27] [] 2 0), frP (aindexAddr (Cfg.P cfg) 22 (AV.slc 1 4 0 k k) (vI i)) (AV.ptr 1 p), opP (aload (Cfg.P cfg) (AS.mk [AObj.dead, AObj.cells cs 27] [] 2 0) 27 (AV.ptr 1 p)) ((Fm.av x)) (AS.mk [AObj.dead, AObj.cells cs 27] [] 2 0), frP (aindexAddr (Cfg.P cfg) 22 (AV.slc 1 4 0 k k) (vI i)) (AV.ptr 1 p), uP (astore (Cfg.P cfg) (AS.mk [AObj.dead, AObj.cells cs 27] [] 2 0) 27 ((Fm.av y)) (AV.ptr 1 p)) (AS.mk [AObj.dead, AObj.cells ds 27] [] 1 0), frP (aindexAddr (Cfg.P cfg) 22 (AV.slc 1 4 0 k k) (vI j)) (AV.ptr 1 q), uP (astore (Cfg.P cfg) (AS.mk [AObj.dead, AObj.cells ds 27] [] 2 0) 27 ((Fm.av x)) (AV.ptr 1 q)) (AS.mk [AObj.dead, AObj.cells es 27] [] 1 0)]) (ws := [0, 2, 3]) (ds' := []) ha (fun g => by kernel_rfl) ⟨h0, (fr_of c1), (op_of c2), (fr_of c3), (op_of c4), (fr_of c5), (u_of c6), (fr_of c7), (u_of c8), trivial⟩
theorem q94_2 (x : Fm) (y : Fm) (cs : List AV) (ds : List AV) (es : List AV) (k : Nat) (p : Nat) (q : Nat) (w : Nat) (i : Int) (j : Int) (n : Nat) (h0 : decide (i < j) = false) (a : AAct) (ha : In 28 [] [(0, AV.slc 1 4 0 k k), (2, vI i), (3, vI j)] a) : Seen (aBody cfg 94 (codeAt (codeOf cfg.P 94) [1, 0, 0]) 2 (aC cfg (lower cfg (n + 60)) (n + 60 + 1) 94 none (codeAt (codeOf cfg.P 94) [1, 0, 0])) a (AS.mk [AObj.dead, AObj.cells cs 27] [] w 0)) (Exit.exit 0) 28 [] [(0, AV.slc 1 4 0 k k), (2, vI i), (3, vI j)] (AS.mk [AObj.dead, AObj.cells cs 27] [] w 0) :=
  segB_ok (ds := [(3, Tell.b false)]) (cs := [decide (i < j) = false]) (ws := [0, 2, 3]) (ds' := []) ha (fun g => by kernel_rfl) ⟨h0, trivial⟩
theorem n38_1  (n : Nat) (c0 : ∀ (S : AS), Lw.call (lower cfg (n + 60)) 77 [AV.lst Cap.any []] S = some (AV.v (Value.bool false), S)) : Path cfg 38 [AV.lst Cap.any []] (AV.tup [AV.v (Value.slice none 0 0), AV.v (Value.int IntKind.i64 (Int.ofNat 0))]) (n + 60) :=
  Path.of (ds := [(3, Tell.fr (vB false))]) (cs := [∀ (S : AS), Lw.call (lower cfg (n + 60)) 77 [AV.lst Cap.any []] S = some (vB false, S)]) (x := AV.tup [AV.v (Value.slice none 0 0), vI (Int.ofNat 0)]) (S2 := AS.mk [] [] 0 0) (by kernel_rfl) ⟨c0, trivial⟩ rfl -- Exit.ret
theorem b38_1 (xs : List Fm) (v : AV) (S1 : AS) (n : Nat) (γ0 : AAct → Nat → AV) (c0 : ∀ (S : AS), Lw.call (lower cfg (n + 60)) 77 [AV.lst Cap.any (List.map Fm.row xs)] S = some (vB false, S)) (l1 : LoopIs cfg (lower cfg (n + 60)) (n + 60 + 1) 38 none (codeAt (codeOf (Cfg.P cfg) 38) [1, 1, 1, 0, 1, 0]) 23 [] [(0, AV.lst Cap.any (List.map Fm.row xs)), (4, AV.v (Value.slice none 0 0)), (5, vI (IntKind.wrap IntKind.i64 ((↑(List.length (List.map Fm.row xs)) : Int) - 1)))] (AS.mk [] [] 0 0) (Exit.exit 0) [(4, v)] S1 γ0) (y : AV) (hy : lend (S1) (AV.tup [v, vI (Int.ofNat 0)]) = some y) : Path cfg 38 [AV.lst Cap.any (List.map Fm.row xs)] y (n + 60) :=
  Path.of (ds := [(3, Tell.fr (vB false)), (6, Tell.lp [0, 4, 5] (Exit.exit 0) [(4, v)] S1 γ0)]) (cs := [∀ (S : AS), Lw.call (lower cfg (n + 60)) 77 [AV.lst Cap.any (List.map Fm.row xs)] S = some (vB false, S), LoopIs cfg (lower cfg (n + 60)) (n + 60 + 1) 38 none (codeAt (codeOf (Cfg.P cfg) 38) [1, 1, 1, 0, 1, 0]) 23 [] [(0, AV.lst Cap.any (List.map Fm.row xs)), (4, AV.v (Value.slice none 0 0)), (5, vI (IntKind.wrap IntKind.i64 ((↑(List.length (List.map Fm.row xs)) : Int) - 1)))] (AS.mk [] [] 0 0) (Exit.exit 0) [(4, v)] S1 γ0]) (x := AV.tup [v, vI (Int.ofNat 0)]) (S2 := S1) (by kernel_rfl) ⟨c0, l1, trivial⟩ hy -- Exit.ret
theorem q38_1 (xs : List Fm) (x : Fm) (i : Int) (n : Nat) (h0 : decide (i ≥ 0) = true) (c1 : aindexAddr (Cfg.P cfg) 22 (AV.lst Cap.any (List.map Fm.row xs)) (vI i) = some (AV.eptr (Fm.row x) 0)) (a : AAct) (ha : In 23 [] [(0, AV.lst Cap.any (List.map Fm.row xs)), (4, AV.v (Value.slice none 0 0)), (5, vI i)] a) : Seen (aBody cfg 38 (codeAt (codeOf cfg.P 38) [1, 1, 1, 0, 1, 0, 0]) 0 (aC cfg (lower cfg (n + 60)) (n + 60 + 1) 38 none (codeAt (codeOf cfg.P 38) [1, 1, 1, 0, 1, 0, 0])) a (AS.mk [] [] 0 0)) (Exit.normal) 23 [] [(0, AV.lst Cap.any (List.map Fm.row xs)), (4, AV.lst (Cap.tok 0 1 4) [(Fm.row x)]), (5, vI (IntKind.wrap IntKind.i64 (i - 1)))] (AS.mk [] [1] 0 0) :=
  segB_ok (ds := [(2, Tell.b true), (3, Tell.fr (AV.eptr (Fm.row x) 0))]) (cs := [decide (i ≥ 0) = true, frP (aindexAddr (Cfg.P cfg) 22 (AV.lst Cap.any (List.map Fm.row xs)) (vI i)) (AV.eptr (Fm.row x) 0)]) (ws := [0, 4, 5]) (ds' := []) ha (fun g => by kernel_rfl) ⟨h0, (fr_of c1), trivial⟩
theorem q38_2 (xs : List Fm) (x : Fm) (i : Int) (n : Nat) (h0 : decide (i ≥ 0) = false) (a : AAct) (ha : In 23 [] [(0, AV.lst Cap.any (List.map Fm.row xs)), (4, AV.v (Value.slice none 0 0)), (5, vI i)] a) : Seen (aBody cfg 38 (codeAt (codeOf cfg.P 38) [1, 1, 1, 0, 1, 0, 0]) 0 (aC cfg (lower cfg (n + 60)) (n + 60 + 1) 38 none (codeAt (codeOf cfg.P 38) [1, 1, 1, 0, 1, 0, 0])) a (AS.mk [] [] 0 0)) (Exit.exit 0) 23 [] [(0, AV.lst Cap.any (List.map Fm.row xs)), (4, AV.v (Value.slice none 0 0)), (5, vI i)] (AS.mk [] [] 0 0) :=
  segB_ok (ds := [(2, Tell.b false)]) (cs := [decide (i ≥ 0) = false]) (ws := [0, 4, 5]) (ds' := []) ha (fun g => by kernel_rfl) ⟨h0, trivial⟩
theorem s38_1 (xs : List Fm) (zs : List Fm) (ws : List Fm) (x : Fm) (j : Nat) (j1 : Nat) (i : Int) (n : Nat) (h0 : decide (i ≥ 0) = true) (c1 : aindexAddr (Cfg.P cfg) 22 (AV.lst Cap.any (List.map Fm.row xs)) (vI i) = some (AV.eptr (Fm.row x) 0)) (c2 : aappend (Cfg.P cfg) false (AS.mk [] [j] 0 0) 22 (AV.lst (Cap.tok 0 j 4) (List.map Fm.row zs)) (AV.lst Cap.exact [(Fm.row x)]) = some (AV.lst (Cap.tok 0 j1 4) (List.map Fm.row ws), AS.mk [] [j1] 0 0)) (a : AAct) (ha : In 23 [] [(0, AV.lst Cap.any (List.map Fm.row xs)), (4, AV.lst (Cap.tok 0 j 4) (List.map Fm.row zs)), (5, vI i)] a) : Seen (aBody cfg 38 (codeAt (codeOf cfg.P 38) [1, 1, 1, 0, 1, 0, 0]) 0 (aC cfg (lower cfg (n + 60)) (n + 60 + 1) 38 none (codeAt (codeOf cfg.P 38) [1, 1, 1, 0, 1, 0, 0])) a (AS.mk [] [j] 0 0)) (Exit.normal) 23 [] [(0, AV.lst Cap.any (List.map Fm.row xs)), (4, AV.lst (Cap.tok 0 j1 4) (List.map Fm.row ws)), (5, vI (IntKind.wrap IntKind.i64 (i - 1)))] (AS.mk [] [j1] 0 0) :=
  segB_ok (ds := [(2, Tell.b true), (3, Tell.fr (AV.eptr (Fm.row x) 0)), (2, Tell.op (AV.lst (Cap.tok 0 j1 4) (List.map Fm.row ws)) (AS.mk [] [j1] 0 0))]) (cs := [decide (i ≥ 0) = true, frP (aindexAddr (Cfg.P cfg) 22 (AV.lst Cap.any (List.map Fm.row xs)) (vI i)) (AV.eptr (Fm.row x) 0), aappend (Cfg.P cfg) false (AS.mk [] [j] 0 0) 22 (AV.lst (Cap.tok 0 j 4) (List.map Fm.row zs)) (AV.lst Cap.exact [(Fm.row x)]) = some (AV.lst (Cap.tok 0 j1 4) (List.map Fm.row ws), AS.mk [] [j1] 0 0)]) (ws := [0, 4, 5]) (ds' := []) ha (fun g => by kernel_rfl) ⟨h0, (fr_of c1), c2, trivial⟩
theorem s38_2 (xs : List Fm) (zs : List Fm) (ws : List Fm) (x : Fm) (j : Nat) (j1 : Nat) (i : Int) (n : Nat) (h0 : decide (i ≥ 0) = false) (a : AAct) (ha : In 23 [] [(0, AV.lst Cap.any (List.map Fm.row xs)), (4, AV.lst (Cap.tok 0 j 4) (List.map Fm.row zs)), (5, vI i)] a) : Seen (aBody cfg 38 (codeAt (codeOf cfg.P 38) [1, 1, 1, 0, 1, 0, 0]) 0 (aC cfg (lower cfg (n + 60)) (n + 60 + 1) 38 none (codeAt (codeOf cfg.P 38) [1, 1, 1, 0, 1, 0, 0])) a (AS.mk [] [j] 0 0)) (Exit.exit 0) 23 [] [(0, AV.lst Cap.any (List.map Fm.row xs)), (4, AV.lst (Cap.tok 0 j 4) (List.map Fm.row zs)), (5, vI i)] (AS.mk [] [j] 0 0) :=
  segB_ok (ds := [(2, Tell.b false)]) (cs := [decide (i ≥ 0) = false]) (ws := [0, 4, 5]) (ds' := []) ha (fun g => by kernel_rfl) ⟨h0, trivial⟩
theorem c94_1 (k : Nat) (cs : List AV) (n : Nat) (γ0 : AAct → Nat → AV) (l0 : LoopIs cfg (lower cfg (n + 60)) (n + 60 + 1) 94 none (codeAt (codeOf (Cfg.P cfg) 94) [1, 0]) 28 [] [(0, AV.slc 1 4 0 k k), (2, vI (Int.ofNat 0)), (3, vI (IntKind.wrap IntKind.i64 ((↑k : Int) - 1)))] (AS.mk [AObj.dead, AObj.cells cs 27] [] 2 0) (Exit.exit 0) [] (AS.mk [AObj.dead, AObj.cells cs 27] [] 2 0) γ0) : acallF cfg (lower cfg (n + 60)) (n + 60 + 1) 94 [AV.slc 1 4 0 k k] (AS.mk [AObj.dead, AObj.cells cs 27] [] 0 0) = some (AV.tup [], AS.mk [AObj.dead, AObj.cells cs 27] [] 0 0) :=
  call_path (ds := [(5, Tell.lp [0, 2, 3] (Exit.exit 0) [] (AS.mk [AObj.dead, AObj.cells cs 27] [] 2 0) γ0)]) (cs := [LoopIs cfg (lower cfg (n + 60)) (n + 60 + 1) 94 none (codeAt (codeOf (Cfg.P cfg) 94) [1, 0]) 28 [] [(0, AV.slc 1 4 0 k k), (2, vI (Int.ofNat 0)), (3, vI (IntKind.wrap IntKind.i64 ((↑k : Int) - 1)))] (AS.mk [AObj.dead, AObj.cells cs 27] [] 2 0) (Exit.exit 0) [] (AS.mk [AObj.dead, AObj.cells cs 27] [] 2 0) γ0]) (by kernel_rfl) (by kernel_rfl) ⟨l0, trivial⟩ -- Exit.normal


/-- Reversed by swaps: from both ends, i of them. -/
def swp (xs : List Fm) : Nat → List Fm
  | 0 => xs
  | i + 1 => ((swp xs i).set i (xs[xs.length - 1 - i]?.getD (.mk 0 .empty .empty []))).set (xs.length - 1 - i) (xs[i]?.getD (.mk 0 .empty .empty []))
@[simp] theorem swp_len (xs : List Fm) : ∀ i, (swp xs i).length = xs.length
  | 0 => rfl
  | i + 1 => by simp [swp, swp_len xs i]
theorem swp_get (xs : List Fm) : ∀ (i : Nat), i + i ≤ xs.length → ∀ k, k < xs.length → (swp xs i)[k]? = if k < i ∨ xs.length - i ≤ k then xs[xs.length - 1 - k]? else xs[k]?
  | 0, _, k, hk => by
    rw [if_neg (by omega)]; rfl
  | i + 1, h, k, hk => by
    unfold swp
    rw [List.getElem?_set, List.getElem?_set]
    have h1 : xs.length - 1 - i < xs.length := by omega
    have h2 : i < xs.length := by omega
    simp only [List.length_set, swp_len]
    by_cases e1 : xs.length - 1 - i = k
    · rw [if_pos e1, if_pos (by omega), if_pos (by omega)]
      have : xs.length - 1 - k = i := by omega
      rw [this, List.getElem?_eq_getElem h2]; rfl
    · rw [if_neg e1]
      by_cases e2 : i = k
      · rw [if_pos e2, if_pos (by omega), if_pos (by omega), ← e2, List.getElem?_eq_getElem h1]; rfl
      · rw [if_neg e2, swp_get xs i (by omega) k hk]
        by_cases e3 : k < i ∨ xs.length - i ≤ k
        · rw [if_pos e3, if_pos (by omega)]
        · rw [if_neg e3, if_neg (by omega)]
theorem swp_end (xs : List Fm) {i : Nat} (h : i + i ≤ xs.length) (h2 : xs.length ≤ i + i + 1) : swp xs i = xs.reverse := by
  refine List.ext_getElem? fun k => ?_
  by_cases hk : k < xs.length
  · rw [swp_get xs i h k hk, List.getElem?_reverse hk]
    by_cases e : k < i ∨ xs.length - i ≤ k
    · rw [if_pos e]
    · rw [if_neg e]
      have : xs.length - 1 - k = k := by omega
      rw [this]
  · rw [List.getElem?_eq_none (by simp; omega), List.getElem?_eq_none (by simp; omega)]

def l94 (n i j : Nat) : List (Nat × AV) := [(0, .slc 1 4 0 n n), (2, .v (.int .i64 i)), (3, .v (.int .i64 j))]
theorem wrapN {i : Nat} (h : i < 9223372036854775807) : IntKind.wrap IntKind.i64 ((i : Int) + 1) = ((i + 1 : Nat) : Int) := by
  rw [wrap_id (by omega) (by omega)]; omega
theorem wrapP {i : Nat} (h0 : 0 < i) (h : i < 9223372036854775807) : IntKind.wrap IntKind.i64 ((i : Int) - 1) = ((i - 1 : Nat) : Int) := by
  rw [wrap_id (by omega) (by omega)]; omega

theorem round94 (xs : List Fm) (hb : xs.length ≤ 2000) (n w i : Nat) (hi : i < xs.length - 1 - i) (hw : min (min w 1) 1 = 1) : ∀ c, In 28 [] (l94 xs.length i (xs.length - 1 - i)) c →
    Seen (aBody cfg 94 (codeAt (codeOf cfg.P 94) [1, 0, 0]) 2 (aC cfg (lower cfg (n + 60)) (n + 60 + 1) 94 none (codeAt (codeOf cfg.P 94) [1, 0, 0])) c (AS.mk [.dead, .cells (flat4 (swp xs i)) 27] [] w 0)) .normal 28 [] (l94 xs.length (i + 1) (xs.length - 1 - (i + 1))) (AS.mk [.dead, .cells (flat4 (swp xs (i + 1))) 27] [] 1 0) := by
  intro c hc
  have h1 : xs.length - 1 - i < xs.length := by omega
  have h2 : i < xs.length := by omega
  have gi : (swp xs i)[i]? = some xs[i] := by rw [swp_get xs i (by omega) i h2, if_neg (by omega)]; exact List.getElem?_eq_getElem h2
  have gj : (swp xs i)[xs.length - 1 - i]? = some xs[xs.length - 1 - i] := by rw [swp_get xs i (by omega) _ h1, if_neg (by omega)]; exact List.getElem?_eq_getElem h1
  have s1 := store_slc forms (S := AS.mk [.dead, .cells (flat4 (swp xs i)) 27] [] 2 0) (o := 1) (i := i) (x := xs[xs.length - 1 - i]) (T := 27) (xs := swp xs i) rfl (by simp; omega)
  have s2 := store_slc forms (S := AS.mk [.dead, .cells (flat4 ((swp xs i).set i xs[xs.length - 1 - i])) 27] [] 2 0) (o := 1) (i := xs.length - 1 - i) (x := xs[i]) (T := 27) (xs := (swp xs i).set i xs[xs.length - 1 - i]) rfl (by simp; omega)
  have hs : ((swp xs i).set i xs[xs.length - 1 - i]).set (xs.length - 1 - i) xs[i] = swp xs (i + 1) := by
    simp only [swp, List.getElem?_eq_getElem h1, List.getElem?_eq_getElem h2, Option.getD_some]
  rw [hs] at s2
  have ai := index_slc forms (o := 1) (k := xs.length) (ik := .i64) h2
  have aj := index_slc forms (o := 1) (k := xs.length) (ik := .i64) h1
  have step := q94_1 xs[i] xs[xs.length - 1 - i] _ _ _ xs.length (i * 4) ((xs.length - 1 - i) * 4) w i ((xs.length - 1 - i : Nat) : Int) n (decide_eq_true (by omega)) aj (load_slc forms rfl gj) ai (load_slc forms rfl gi) ai s1 aj s2 c hc
  rw [wrapN (by omega), wrapP (by omega) (by omega)] at step
  have e : xs.length - 1 - i - 1 = xs.length - 1 - (i + 1) := by omega
  rw [e] at step
  have hlow : (AS.mk [AObj.dead, .cells (flat4 (swp xs (i + 1))) 27] [] (min (AS.low (AS.mk [AObj.dead, .cells (flat4 ((swp xs i).set i xs[xs.length - 1 - i])) 27] [] (min (AS.low (AS.mk [AObj.dead, .cells (flat4 (swp xs i)) 27] [] w 0)) (AS.low (AS.mk [AObj.dead, .cells (flat4 ((swp xs i).set i xs[xs.length - 1 - i])) 27] [] 1 0))) 0)) (AS.low (AS.mk [AObj.dead, .cells (flat4 (swp xs (i + 1))) 27] [] 1 0))) 0 : AS) = AS.mk [.dead, .cells (flat4 (swp xs (i + 1))) 27] [] 1 0 := by
    show AS.mk _ _ (min (min w 1) 1) 0 = _
    rw [hw]
  rw [hlow] at step
  exact step

theorem loop94 (xs : List Fm) (hb : xs.length ≤ 2000) (n : Nat) : ∀ (d i K : Nat), xs.length - (i + i) = d → i + i ≤ xs.length → d < K →
    ∀ c, In 28 [] (l94 xs.length i (xs.length - 1 - i)) c → Seen (aloop (aBody cfg 94 (codeAt (codeOf cfg.P 94) [1, 0, 0]) 2 (aC cfg (lower cfg (n + 60)) (n + 60 + 1) 94 none (codeAt (codeOf cfg.P 94) [1, 0, 0]))) K c (AS.mk [.dead, .cells (flat4 (swp xs i)) 27] [] 1 0)) (.exit 0) 28 [] [] (AS.mk [.dead, .cells (flat4 xs.reverse) 27] [] 1 0) := by
  intro d
  induction d using Nat.strongRecOn with
  | _ d ih =>
    intro i K hd hi hK c hc
    obtain ⟨K, rfl⟩ : ∃ m, K = m + 1 := ⟨K - 1, by omega⟩
    by_cases h : i < xs.length - 1 - i
    · exact seen_next (round94 xs hb n 1 i h (by decide) c hc) fun c' hc' => ih (xs.length - (i + 1 + (i + 1))) (by omega) (i + 1) K rfl (by omega) (by omega) c' hc'
    · rw [← swp_end xs hi (by omega)]
      exact seen_stop (by simp) ((q94_2 (.mk 0 .empty .empty []) (.mk 0 .empty .empty []) _ [] [] xs.length 0 0 1 i ((xs.length - 1 - i : Nat) : Int) n (decide_eq_false (by omega)) c hc).weak fun l h => trivial)

theorem rev94 (xs : List Fm) (h0 : xs ≠ []) (hb : xs.length ≤ 2000) (n : Nat) (hn : 2000 ≤ n) : acallF cfg (lower cfg (n + 60)) (n + 60 + 1) 94 [.slc 1 4 0 xs.length xs.length] (AS.mk [.dead, .cells (flat4 xs) 27] [] 0 0) = some (.tup [], AS.mk [.dead, .cells (flat4 xs.reverse) 27] [] 0 0) := by
  have hpos : 0 < xs.length := List.length_pos_iff.2 h0
  have hj : IntKind.wrap IntKind.i64 ((xs.length : Int) - 1) = ((xs.length - 1 - 0 : Nat) : Int) := by rw [wrapP hpos (by omega)]; simp
  by_cases h : 0 < xs.length - 1 - 0
  · have L : ∀ c, In 28 [] (l94 xs.length 0 (xs.length - 1 - 0)) c → Seen (aloop (aBody cfg 94 (codeAt (codeOf cfg.P 94) [1, 0, 0]) 2 (aC cfg (lower cfg (n + 60)) (n + 60 + 1) 94 none (codeAt (codeOf cfg.P 94) [1, 0, 0]))) (n + 60 + 1) c (AS.mk [.dead, .cells (flat4 xs) 27] [] 2 0)) (.exit 0) 28 [] [] (AS.mk [.dead, .cells (flat4 xs.reverse) 27] [] 1 0) := fun c hc =>
      seen_next (round94 xs hb n 2 0 h (by decide) c hc) fun c' hc' => loop94 xs hb n _ 1 (n + 60) rfl (by omega) (by omega) c' hc'
    obtain ⟨γ, hγ⟩ := LoopIs.of (C := cfg) (c := codeAt (codeOf cfg.P 94) [1, 0]) (k := n + 60 + 1) (hf := 94) (rd := none) (L := lower cfg (n + 60)) L
    exact b94_1 xs.length _ _ [] n γ (by rw [hj]; exact hγ)
  · have hrev : xs.reverse = xs := by rw [← swp_end xs (i := 0) (by omega) (by omega)]; rfl
    rw [hrev]
    have L : ∀ c, In 28 [] (l94 xs.length 0 (xs.length - 1 - 0)) c → Seen (aloop (aBody cfg 94 (codeAt (codeOf cfg.P 94) [1, 0, 0]) 2 (aC cfg (lower cfg (n + 60)) (n + 60 + 1) 94 none (codeAt (codeOf cfg.P 94) [1, 0, 0]))) (n + 60 + 1) c (AS.mk [.dead, .cells (flat4 xs) 27] [] 2 0)) (.exit 0) 28 [] [] (AS.mk [.dead, .cells (flat4 xs) 27] [] 2 0) := fun c hc =>
      seen_stop (by simp) ((q94_2 (.mk 0 .empty .empty []) (.mk 0 .empty .empty []) _ [] [] xs.length 0 0 2 0 ((xs.length - 1 - 0 : Nat) : Int) n (decide_eq_false (by omega)) c hc).weak fun l h => trivial)
    obtain ⟨γ, hγ⟩ := LoopIs.of (C := cfg) (c := codeAt (codeOf cfg.P 94) [1, 0]) (k := n + 60 + 1) (hf := 94) (rd := none) (L := lower cfg (n + 60)) L
    exact c94_1 xs.length _ n γ (by rw [hj]; exact hγ)

theorem call94 (n : Nat) (args : List AV) (S : AS) : (lower cfg (n + 1 + 60)).call 94 args S = acallF cfg (lower cfg (n + 60)) (n + 60 + 1) 94 args S := by kernel_rfl

theorem out37 (xs : List Fm) (hb : xs.length ≤ 2000) : Out 37 [la xs] (some xs.reverse) := by
  have go : ∀ c, (Evt fun n => Path cfg 37 [la xs] (outV c (some xs.reverse)) (n + 60)) → untok c = c → Out 37 [la xs] (some xs.reverse) := fun c h hc =>
    ⟨c, hc, Fr.of_co rfl (by kernel_rfl) (Own.lst rfl Own.nil) (Co.path (by kernel_rfl) (Evt.shift h))⟩
  have hk := (ck91 xs hb).shift.and (Evt.big 2001)
  by_cases h0 : xs = []
  · subst h0
    exact go .any (hk.mono fun n hn => a37_1 n hn.1 _ rfl) rfl
  · refine go .unk (hk.mono fun n hn => ?_) rfl
    obtain ⟨m, rfl⟩ : ∃ m, n = m + 1 := ⟨n - 1, by omega⟩
    have hy := lend_slc (S := AS.mk [.dead, .cells (flat4 xs.reverse) 27] [] 0 0) (d := 4) (o := 1) (k := xs.length) (T := 27) rfl
    rw [List.length_reverse] at hy
    exact b37_1 xs _ (m + 1) hn.1 (clone0 xs h0 hb _) ((call94 m _ _).trans (rev94 xs h0 hb m (by omega))) _ (lend_pair hy)
end Go.Proofs.YtamemdhmjglifaaGreatDoor
