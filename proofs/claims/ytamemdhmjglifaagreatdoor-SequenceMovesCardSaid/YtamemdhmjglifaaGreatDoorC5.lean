/- Chapter 12: Reverse. -/
import Derived.Test.YtamemdhmjglifaaGreatDoorC4
namespace Go.Proofs.YtamemdhmjglifaaGreatDoor
open Go.RowKit Go.AM
set_option maxRecDepth 100000
set_option linter.unusedVariables false
theorem a37_1  (n : Nat) (c0 : ∀ (S : AS), Lw.call (lower cfg (n + 60)) 91 [AV.lst Cap.exact [[AV.lst Cap.any []]]] S = some (AV.v (Value.int IntKind.i64 (Int.ofNat 0)), S)) (y : AV) (hy : lend (AS.mk [] [] 0 0) (AV.tup [AV.lst Cap.any [], AV.v (Value.int IntKind.i64 (Int.ofNat 0))]) = some y) : Path cfg 37 [AV.lst Cap.any []] y (n + 60) :=
  Path.of (ds := [(4, Tell.fr (AV.v (Value.int IntKind.i64 (Int.ofNat 0))))]) (cs := [∀ (S : AS), Lw.call (lower cfg (n + 60)) 91 [AV.lst Cap.exact [[AV.lst Cap.any []]]] S = some (AV.v (Value.int IntKind.i64 (Int.ofNat 0)), S)]) (x := AV.tup [AV.lst Cap.any [], AV.v (Value.int IntKind.i64 (Int.ofNat 0))]) (S2 := AS.mk [] [] 0 0) (by kernel_rfl) ⟨c0, trivial⟩ hy -- Exit.ret
theorem b37_1 (xs : List Fm) (cs : List AV) (n : Nat) (c0 : ∀ (S : AS), Lw.call (lower cfg (n + 60)) 91 [AV.lst Cap.exact [[AV.lst Cap.any (List.map Fm.row xs)]]] S = some (AV.v (Value.int IntKind.i64 (Int.ofNat 0)), S)) (c1 : Lw.call (lower cfg (n + 60)) 14 [AV.lst Cap.any (List.map Fm.row xs)] (AS.mk [] [] 0 0) = some (AV.slc 1 4 0 (List.length xs) (List.length xs), AS.mk [AObj.dead, AObj.cells (flat4 xs) 27] [] 0 0)) (c2 : Lw.call (lower cfg (n + 60)) 94 [AV.slc 1 4 0 (List.length xs) (List.length xs)] (AS.mk [AObj.dead, AObj.cells (flat4 xs) 27] [] 0 0) = some (AV.tup [], AS.mk [AObj.dead, AObj.cells cs 27] [] 0 0)) (y : AV) (hy : lend (AS.mk [AObj.dead, AObj.cells cs 27] [] 0 0) (AV.tup [AV.slc 1 4 0 (List.length xs) (List.length xs), AV.v (Value.int IntKind.i64 (Int.ofNat 0))]) = some y) : Path cfg 37 [AV.lst Cap.any (List.map Fm.row xs)] y (n + 60) :=
  Path.of (ds := [(4, Tell.fr (AV.v (Value.int IntKind.i64 (Int.ofNat 0)))), (5, Tell.op (AV.slc 1 4 0 (List.length xs) (List.length xs)) (AS.mk [AObj.dead, AObj.cells (flat4 xs) 27] [] 0 0)), (2, Tell.op (AV.tup []) (AS.mk [AObj.dead, AObj.cells cs 27] [] 0 0))]) (cs := [∀ (S : AS), Lw.call (lower cfg (n + 60)) 91 [AV.lst Cap.exact [[AV.lst Cap.any (List.map Fm.row xs)]]] S = some (AV.v (Value.int IntKind.i64 (Int.ofNat 0)), S), Lw.call (lower cfg (n + 60)) 14 [AV.lst Cap.any (List.map Fm.row xs)] (AS.mk [] [] 0 0) = some (AV.slc 1 4 0 (List.length xs) (List.length xs), AS.mk [AObj.dead, AObj.cells (flat4 xs) 27] [] 0 0), Lw.call (lower cfg (n + 60)) 94 [AV.slc 1 4 0 (List.length xs) (List.length xs)] (AS.mk [AObj.dead, AObj.cells (flat4 xs) 27] [] 0 0) = some (AV.tup [], AS.mk [AObj.dead, AObj.cells cs 27] [] 0 0)]) (x := AV.tup [AV.slc 1 4 0 (List.length xs) (List.length xs), AV.v (Value.int IntKind.i64 (Int.ofNat 0))]) (S2 := AS.mk [AObj.dead, AObj.cells cs 27] [] 0 0) (by kernel_rfl) ⟨c0, c1, c2, trivial⟩ hy -- Exit.ret
theorem b94_1 (k : Nat) (cs : List AV) (ds : List AV) (S1 : List (Nat × AV)) (n : Nat) (γ0 : AAct → Nat → AV) (l0 : LoopIs cfg (lower cfg (n + 60)) (n + 60 + 1) 94 none (codeAt (codeOf (Cfg.P cfg) 94) [1, 0]) 28 [] [(0, AV.slc 1 4 0 k k), (2, AV.v (Value.int IntKind.i64 (Int.ofNat 0))), (3, AV.v (Value.int IntKind.i64 (IntKind.wrap IntKind.i64 ((↑k : Int) - 1))))] (AS.mk [AObj.dead, AObj.cells cs 27] [] 2 0) (Exit.exit 0) [] (AS.mk [AObj.dead, AObj.cells ds 27] [] 1 0) γ0) : acallF cfg (lower cfg (n + 60)) (n + 60 + 1) 94 [AV.slc 1 4 0 k k] (AS.mk [AObj.dead, AObj.cells cs 27] [] 0 0) = some (AV.tup [], AS.mk [AObj.dead, AObj.cells ds 27] [] 0 0) :=
  call_path (ds := [(5, Tell.lp [0, 2, 3] (Exit.exit 0) [] (AS.mk [AObj.dead, AObj.cells ds 27] [] 1 0) γ0)]) (cs := [LoopIs cfg (lower cfg (n + 60)) (n + 60 + 1) 94 none (codeAt (codeOf (Cfg.P cfg) 94) [1, 0]) 28 [] [(0, AV.slc 1 4 0 k k), (2, AV.v (Value.int IntKind.i64 (Int.ofNat 0))), (3, AV.v (Value.int IntKind.i64 (IntKind.wrap IntKind.i64 ((↑k : Int) - 1))))] (AS.mk [AObj.dead, AObj.cells cs 27] [] 2 0) (Exit.exit 0) [] (AS.mk [AObj.dead, AObj.cells ds 27] [] 1 0) γ0]) (by kernel_rfl) (by kernel_rfl) ⟨l0, trivial⟩ -- Exit.normal
theorem q94_1 (x : Fm) (y : Fm) (cs : List AV) (ds : List AV) (es : List AV) (k : Nat) (p : Nat) (q : Nat) (w : Nat) (i : Int) (j : Int) (n : Nat) (h0 : decide (i < j) = true) (c1 : aindexAddr (Cfg.P cfg) 22 (AV.slc 1 4 0 k k) (AV.v (Value.int IntKind.i64 j)) = some (AV.ptr 1 q)) (c2 : aload (Cfg.P cfg) (AS.mk [AObj.dead, AObj.cells cs 27] [] 2 0) 27 (AV.ptr 1 q) = some ((Fm.av y))) (c3 : aindexAddr (Cfg.P cfg) 22 (AV.slc 1 4 0 k k) (AV.v (Value.int IntKind.i64 i)) = some (AV.ptr 1 p)) (c4 : aload (Cfg.P cfg) (AS.mk [AObj.dead, AObj.cells cs 27] [] 2 0) 27 (AV.ptr 1 p) = some ((Fm.av x))) (c5 : aindexAddr (Cfg.P cfg) 22 (AV.slc 1 4 0 k k) (AV.v (Value.int IntKind.i64 i)) = some (AV.ptr 1 p)) (c6 : astore (Cfg.P cfg) (AS.mk [AObj.dead, AObj.cells cs 27] [] 2 0) 27 ((Fm.av y)) (AV.ptr 1 p) = some (AS.mk [AObj.dead, AObj.cells ds 27] [] 1 0)) (c7 : aindexAddr (Cfg.P cfg) 22 (AV.slc 1 4 0 k k) (AV.v (Value.int IntKind.i64 j)) = some (AV.ptr 1 q)) (c8 : astore (Cfg.P cfg) (AS.mk [AObj.dead, AObj.cells ds 27] [] 2 0) 27 ((Fm.av x)) (AV.ptr 1 q) = some (AS.mk [AObj.dead, AObj.cells es 27] [] 1 0)) (a : AAct) (ha : In 28 [] [(0, AV.slc 1 4 0 k k), (2, AV.v (Value.int IntKind.i64 i)), (3, AV.v (Value.int IntKind.i64 j))] a) : Seen (aBody cfg 94 (codeAt (codeOf cfg.P 94) [1, 0, 0]) 2 (aC cfg (lower cfg (n + 60)) (n + 60 + 1) 94 none (codeAt (codeOf cfg.P 94) [1, 0, 0])) a (AS.mk [AObj.dead, AObj.cells cs 27] [] w 0)) (Exit.normal) 28 [] [(0, AV.slc 1 4 0 k k), (2, AV.v (Value.int IntKind.i64 (IntKind.wrap IntKind.i64 (i + 1)))), (3, AV.v (Value.int IntKind.i64 (IntKind.wrap IntKind.i64 (j - 1))))] (AS.mk [AObj.dead, AObj.cells es 27] [] (min (AS.low (AS.mk [AObj.dead, AObj.cells ds 27] [] (min (AS.low (AS.mk [AObj.dead, AObj.cells cs 27] [] w 0)) (AS.low (AS.mk [AObj.dead, AObj.cells ds 27] [] 1 0))) 0)) (AS.low (AS.mk [AObj.dead, AObj.cells es 27] [] 1 0))) 0) :=
  segB_ok (ds := [(3, Tell.b true), (6, Tell.fr (AV.ptr 1 q)), (0, Tell.op ((Fm.av y)) (AS.mk [AObj.dead, AObj.cells cs 27] [] 2 0)), (2, Tell.fr (AV.ptr 1 p)), (0, Tell.op ((Fm.av x)) (AS.mk [AObj.dead, AObj.cells cs 27] [] 2 0)), (0, Tell.fr (AV.ptr 1 p)), (0, Tell.op (AV.v (Value.tuple (Array.mk []))) (AS.mk [AObj.dead, AObj.cells ds 27] [] 1 0)), (0, Tell.fr (AV.ptr 1 q)), (0, Tell.op (AV.v (Value.tuple (Array.mk []))) (AS.mk [AObj.dead, AObj.cells es 27] [] 1 0))]) (cs := [decide (i < j) = true, frP (aindexAddr (Cfg.P cfg) 22 (AV.slc 1 4 0 k k) (AV.v (Value.int IntKind.i64 j))) (AV.ptr 1 q), opP (aload (Cfg.P cfg) (AS.mk [AObj.dead, AObj.cells cs 27] [] 2 0) 27 (AV.ptr 1 q)) ((Fm.av y)) (AS.mk [AObj.dead, AObj.cells cs 27] [] 2 0), frP (aindexAddr (Cfg.P cfg) 22 (AV.slc 1 4 0 k k) (AV.v (Value.int IntKind.i64 i))) (AV.ptr 1 p), opP (aload (Cfg.P cfg) (AS.mk [AObj.dead, AObj.cells cs 27] [] 2 0) 27 (AV.ptr 1 p)) ((Fm.av x)) (AS.mk [AObj.dead, AObj.cells cs 27] [] 2 0), frP (aindexAddr (Cfg.P cfg) 22 (AV.slc 1 4 0 k k) (AV.v (Value.int IntKind.i64 i))) (AV.ptr 1 p), uP (astore (Cfg.P cfg) (AS.mk [AObj.dead, AObj.cells cs 27] [] 2 0) 27 ((Fm.av y)) (AV.ptr 1 p)) (AS.mk [AObj.dead, AObj.cells ds 27] [] 1 0), frP (aindexAddr (Cfg.P cfg) 22 (AV.slc 1 4 0 k k) (AV.v (Value.int IntKind.i64 j))) (AV.ptr 1 q), uP (astore (Cfg.P cfg) (AS.mk [AObj.dead, AObj.cells ds 27] [] 2 0) 27 ((Fm.av x)) (AV.ptr 1 q)) (AS.mk [AObj.dead, AObj.cells es 27] [] 1 0)]) (ws := [0, 2, 3]) (ds' := []) ha (fun g => by kernel_rfl) ⟨h0, (fr_of c1), (op_of c2), (fr_of c3), (op_of c4), (fr_of c5), (u_of c6), (fr_of c7), (u_of c8), trivial⟩
theorem q94_2 (x : Fm) (y : Fm) (cs : List AV) (ds : List AV) (es : List AV) (k : Nat) (p : Nat) (q : Nat) (w : Nat) (i : Int) (j : Int) (n : Nat) (h0 : decide (i < j) = false) (a : AAct) (ha : In 28 [] [(0, AV.slc 1 4 0 k k), (2, AV.v (Value.int IntKind.i64 i)), (3, AV.v (Value.int IntKind.i64 j))] a) : Seen (aBody cfg 94 (codeAt (codeOf cfg.P 94) [1, 0, 0]) 2 (aC cfg (lower cfg (n + 60)) (n + 60 + 1) 94 none (codeAt (codeOf cfg.P 94) [1, 0, 0])) a (AS.mk [AObj.dead, AObj.cells cs 27] [] w 0)) (Exit.exit 0) 28 [] [(0, AV.slc 1 4 0 k k), (2, AV.v (Value.int IntKind.i64 i)), (3, AV.v (Value.int IntKind.i64 j))] (AS.mk [AObj.dead, AObj.cells cs 27] [] w 0) :=
  segB_ok (ds := [(3, Tell.b false)]) (cs := [decide (i < j) = false]) (ws := [0, 2, 3]) (ds' := []) ha (fun g => by kernel_rfl) ⟨h0, trivial⟩
theorem n38_1  (n : Nat) (c0 : ∀ (S : AS), Lw.call (lower cfg (n + 60)) 77 [AV.lst Cap.any []] S = some (AV.v (Value.bool false), S)) : Path cfg 38 [AV.lst Cap.any []] (AV.tup [AV.v (Value.slice none 0 0), AV.v (Value.int IntKind.i64 (Int.ofNat 0))]) (n + 60) :=
  Path.of (ds := [(3, Tell.fr (AV.v (Value.bool false)))]) (cs := [∀ (S : AS), Lw.call (lower cfg (n + 60)) 77 [AV.lst Cap.any []] S = some (AV.v (Value.bool false), S)]) (x := AV.tup [AV.v (Value.slice none 0 0), AV.v (Value.int IntKind.i64 (Int.ofNat 0))]) (S2 := AS.mk [] [] 0 0) (by kernel_rfl) ⟨c0, trivial⟩ rfl -- Exit.ret
theorem b38_1 (xs : List Fm) (v : AV) (S1 : AS) (n : Nat) (γ0 : AAct → Nat → AV) (c0 : ∀ (S : AS), Lw.call (lower cfg (n + 60)) 77 [AV.lst Cap.any (List.map Fm.row xs)] S = some (AV.v (Value.bool false), S)) (l1 : LoopIs cfg (lower cfg (n + 60)) (n + 60 + 1) 38 none (codeAt (codeOf (Cfg.P cfg) 38) [1, 1, 1, 0, 1, 0]) 23 [] [(0, AV.lst Cap.any (List.map Fm.row xs)), (4, AV.v (Value.slice none 0 0)), (5, AV.v (Value.int IntKind.i64 (IntKind.wrap IntKind.i64 ((↑(List.length (List.map Fm.row xs)) : Int) - 1))))] (AS.mk [] [] 0 0) (Exit.exit 0) [(4, v)] S1 γ0) (y : AV) (hy : lend (S1) (AV.tup [v, AV.v (Value.int IntKind.i64 (Int.ofNat 0))]) = some y) : Path cfg 38 [AV.lst Cap.any (List.map Fm.row xs)] y (n + 60) :=
  Path.of (ds := [(3, Tell.fr (AV.v (Value.bool false))), (6, Tell.lp [0, 4, 5] (Exit.exit 0) [(4, v)] S1 γ0)]) (cs := [∀ (S : AS), Lw.call (lower cfg (n + 60)) 77 [AV.lst Cap.any (List.map Fm.row xs)] S = some (AV.v (Value.bool false), S), LoopIs cfg (lower cfg (n + 60)) (n + 60 + 1) 38 none (codeAt (codeOf (Cfg.P cfg) 38) [1, 1, 1, 0, 1, 0]) 23 [] [(0, AV.lst Cap.any (List.map Fm.row xs)), (4, AV.v (Value.slice none 0 0)), (5, AV.v (Value.int IntKind.i64 (IntKind.wrap IntKind.i64 ((↑(List.length (List.map Fm.row xs)) : Int) - 1))))] (AS.mk [] [] 0 0) (Exit.exit 0) [(4, v)] S1 γ0]) (x := AV.tup [v, AV.v (Value.int IntKind.i64 (Int.ofNat 0))]) (S2 := S1) (by kernel_rfl) ⟨c0, l1, trivial⟩ hy -- Exit.ret
theorem q38_1 (xs : List Fm) (x : Fm) (i : Int) (n : Nat) (h0 : decide (i ≥ 0) = true) (c1 : aindexAddr (Cfg.P cfg) 22 (AV.lst Cap.any (List.map Fm.row xs)) (AV.v (Value.int IntKind.i64 i)) = some (AV.eptr (Fm.row x) 0)) (a : AAct) (ha : In 23 [] [(0, AV.lst Cap.any (List.map Fm.row xs)), (4, AV.v (Value.slice none 0 0)), (5, AV.v (Value.int IntKind.i64 i))] a) : Seen (aBody cfg 38 (codeAt (codeOf cfg.P 38) [1, 1, 1, 0, 1, 0, 0]) 0 (aC cfg (lower cfg (n + 60)) (n + 60 + 1) 38 none (codeAt (codeOf cfg.P 38) [1, 1, 1, 0, 1, 0, 0])) a (AS.mk [] [] 0 0)) (Exit.normal) 23 [] [(0, AV.lst Cap.any (List.map Fm.row xs)), (4, AV.lst (Cap.tok 0 1 4) [(Fm.row x)]), (5, AV.v (Value.int IntKind.i64 (IntKind.wrap IntKind.i64 (i - 1))))] (AS.mk [] [1] 0 0) :=
  segB_ok (ds := [(2, Tell.b true), (3, Tell.fr (AV.eptr (Fm.row x) 0))]) (cs := [decide (i ≥ 0) = true, frP (aindexAddr (Cfg.P cfg) 22 (AV.lst Cap.any (List.map Fm.row xs)) (AV.v (Value.int IntKind.i64 i))) (AV.eptr (Fm.row x) 0)]) (ws := [0, 4, 5]) (ds' := []) ha (fun g => by kernel_rfl) ⟨h0, (fr_of c1), trivial⟩
theorem q38_2 (xs : List Fm) (x : Fm) (i : Int) (n : Nat) (h0 : decide (i ≥ 0) = false) (a : AAct) (ha : In 23 [] [(0, AV.lst Cap.any (List.map Fm.row xs)), (4, AV.v (Value.slice none 0 0)), (5, AV.v (Value.int IntKind.i64 i))] a) : Seen (aBody cfg 38 (codeAt (codeOf cfg.P 38) [1, 1, 1, 0, 1, 0, 0]) 0 (aC cfg (lower cfg (n + 60)) (n + 60 + 1) 38 none (codeAt (codeOf cfg.P 38) [1, 1, 1, 0, 1, 0, 0])) a (AS.mk [] [] 0 0)) (Exit.exit 0) 23 [] [(0, AV.lst Cap.any (List.map Fm.row xs)), (4, AV.v (Value.slice none 0 0)), (5, AV.v (Value.int IntKind.i64 i))] (AS.mk [] [] 0 0) :=
  segB_ok (ds := [(2, Tell.b false)]) (cs := [decide (i ≥ 0) = false]) (ws := [0, 4, 5]) (ds' := []) ha (fun g => by kernel_rfl) ⟨h0, trivial⟩
theorem s38_1 (xs : List Fm) (zs : List Fm) (ws : List Fm) (x : Fm) (j : Nat) (j1 : Nat) (i : Int) (n : Nat) (h0 : decide (i ≥ 0) = true) (c1 : aindexAddr (Cfg.P cfg) 22 (AV.lst Cap.any (List.map Fm.row xs)) (AV.v (Value.int IntKind.i64 i)) = some (AV.eptr (Fm.row x) 0)) (c2 : aappend (Cfg.P cfg) false (AS.mk [] [j] 0 0) 22 (AV.lst (Cap.tok 0 j 4) (List.map Fm.row zs)) (AV.lst Cap.exact [(Fm.row x)]) = some (AV.lst (Cap.tok 0 j1 4) (List.map Fm.row ws), AS.mk [] [j1] 0 0)) (a : AAct) (ha : In 23 [] [(0, AV.lst Cap.any (List.map Fm.row xs)), (4, AV.lst (Cap.tok 0 j 4) (List.map Fm.row zs)), (5, AV.v (Value.int IntKind.i64 i))] a) : Seen (aBody cfg 38 (codeAt (codeOf cfg.P 38) [1, 1, 1, 0, 1, 0, 0]) 0 (aC cfg (lower cfg (n + 60)) (n + 60 + 1) 38 none (codeAt (codeOf cfg.P 38) [1, 1, 1, 0, 1, 0, 0])) a (AS.mk [] [j] 0 0)) (Exit.normal) 23 [] [(0, AV.lst Cap.any (List.map Fm.row xs)), (4, AV.lst (Cap.tok 0 j1 4) (List.map Fm.row ws)), (5, AV.v (Value.int IntKind.i64 (IntKind.wrap IntKind.i64 (i - 1))))] (AS.mk [] [j1] 0 0) :=
  segB_ok (ds := [(2, Tell.b true), (3, Tell.fr (AV.eptr (Fm.row x) 0)), (2, Tell.op (AV.lst (Cap.tok 0 j1 4) (List.map Fm.row ws)) (AS.mk [] [j1] 0 0))]) (cs := [decide (i ≥ 0) = true, frP (aindexAddr (Cfg.P cfg) 22 (AV.lst Cap.any (List.map Fm.row xs)) (AV.v (Value.int IntKind.i64 i))) (AV.eptr (Fm.row x) 0), aappend (Cfg.P cfg) false (AS.mk [] [j] 0 0) 22 (AV.lst (Cap.tok 0 j 4) (List.map Fm.row zs)) (AV.lst Cap.exact [(Fm.row x)]) = some (AV.lst (Cap.tok 0 j1 4) (List.map Fm.row ws), AS.mk [] [j1] 0 0)]) (ws := [0, 4, 5]) (ds' := []) ha (fun g => by kernel_rfl) ⟨h0, (fr_of c1), c2, trivial⟩
theorem s38_2 (xs : List Fm) (zs : List Fm) (ws : List Fm) (x : Fm) (j : Nat) (j1 : Nat) (i : Int) (n : Nat) (h0 : decide (i ≥ 0) = false) (a : AAct) (ha : In 23 [] [(0, AV.lst Cap.any (List.map Fm.row xs)), (4, AV.lst (Cap.tok 0 j 4) (List.map Fm.row zs)), (5, AV.v (Value.int IntKind.i64 i))] a) : Seen (aBody cfg 38 (codeAt (codeOf cfg.P 38) [1, 1, 1, 0, 1, 0, 0]) 0 (aC cfg (lower cfg (n + 60)) (n + 60 + 1) 38 none (codeAt (codeOf cfg.P 38) [1, 1, 1, 0, 1, 0, 0])) a (AS.mk [] [j] 0 0)) (Exit.exit 0) 23 [] [(0, AV.lst Cap.any (List.map Fm.row xs)), (4, AV.lst (Cap.tok 0 j 4) (List.map Fm.row zs)), (5, AV.v (Value.int IntKind.i64 i))] (AS.mk [] [j] 0 0) :=
  segB_ok (ds := [(2, Tell.b false)]) (cs := [decide (i ≥ 0) = false]) (ws := [0, 4, 5]) (ds' := []) ha (fun g => by kernel_rfl) ⟨h0, trivial⟩
theorem c94_1 (k : Nat) (cs : List AV) (n : Nat) (γ0 : AAct → Nat → AV) (l0 : LoopIs cfg (lower cfg (n + 60)) (n + 60 + 1) 94 none (codeAt (codeOf (Cfg.P cfg) 94) [1, 0]) 28 [] [(0, AV.slc 1 4 0 k k), (2, AV.v (Value.int IntKind.i64 (Int.ofNat 0))), (3, AV.v (Value.int IntKind.i64 (IntKind.wrap IntKind.i64 ((↑k : Int) - 1))))] (AS.mk [AObj.dead, AObj.cells cs 27] [] 2 0) (Exit.exit 0) [] (AS.mk [AObj.dead, AObj.cells cs 27] [] 2 0) γ0) : acallF cfg (lower cfg (n + 60)) (n + 60 + 1) 94 [AV.slc 1 4 0 k k] (AS.mk [AObj.dead, AObj.cells cs 27] [] 0 0) = some (AV.tup [], AS.mk [AObj.dead, AObj.cells cs 27] [] 0 0) :=
  call_path (ds := [(5, Tell.lp [0, 2, 3] (Exit.exit 0) [] (AS.mk [AObj.dead, AObj.cells cs 27] [] 2 0) γ0)]) (cs := [LoopIs cfg (lower cfg (n + 60)) (n + 60 + 1) 94 none (codeAt (codeOf (Cfg.P cfg) 94) [1, 0]) 28 [] [(0, AV.slc 1 4 0 k k), (2, AV.v (Value.int IntKind.i64 (Int.ofNat 0))), (3, AV.v (Value.int IntKind.i64 (IntKind.wrap IntKind.i64 ((↑k : Int) - 1))))] (AS.mk [AObj.dead, AObj.cells cs 27] [] 2 0) (Exit.exit 0) [] (AS.mk [AObj.dead, AObj.cells cs 27] [] 2 0) γ0]) (by kernel_rfl) (by kernel_rfl) ⟨l0, trivial⟩ -- Exit.normal


/-- Reversed by swaps: from both ends, i of them. -/
def swp (xs : List Fm) : Nat → List Fm
  | 0 => xs
  | i + 1 => ((swp xs i).set i (xs[xs.length - 1 - i]?.getD (.mk 0 .empty .empty []))).set (xs.length - 1 - i) (xs[i]?.getD (.mk 0 .empty .empty []))
@[simp] theorem swp_len (xs : List Fm) : ∀ i, (swp xs i).length = xs.length
  | 0 => rfl
  | i + 1 => by simp [swp, swp_len xs i]
theorem swp_get (xs : List Fm) : ∀ (i : Nat), i + i ≤ xs.length → ∀ k, k < xs.length → (swp xs i)[k]? = if k < i ∨ xs.length - i ≤ k then xs[xs.length - 1 - k]? else xs[k]?
  | 0, _, k, hk => by
    rw [if_neg (by omega)]; rfl
  | i + 1, h, k, hk => by
    unfold swp
    rw [List.getElem?_set, List.getElem?_set]
    have h1 : xs.length - 1 - i < xs.length := by omega
    have h2 : i < xs.length := by omega
    simp only [List.length_set, swp_len]
    by_cases e1 : xs.length - 1 - i = k
    · rw [if_pos e1, if_pos (by omega), if_pos (by omega)]
      have : xs.length - 1 - k = i := by omega
      rw [this, List.getElem?_eq_getElem h2]; rfl
    · rw [if_neg e1]
      by_cases e2 : i = k
      · rw [if_pos e2, if_pos (by omega), if_pos (by omega), ← e2, List.getElem?_eq_getElem h1]; rfl
      · rw [if_neg e2, swp_get xs i (by omega) k hk]
        by_cases e3 : k < i ∨ xs.length - i ≤ k
        · rw [if_pos e3, if_pos (by omega)]
        · rw [if_neg e3, if_neg (by omega)]
theorem swp_end (xs : List Fm) {i : Nat} (h : i + i ≤ xs.length) (h2 : xs.length ≤ i + i + 1) : swp xs i = xs.reverse := by
  refine List.ext_getElem? fun k => ?_
  by_cases hk : k < xs.length
  · rw [swp_get xs i h k hk, List.getElem?_reverse hk]
    by_cases e : k < i ∨ xs.length - i ≤ k
    · rw [if_pos e]
    · rw [if_neg e]
      have : xs.length - 1 - k = k := by omega
      rw [this]
  · rw [List.getElem?_eq_none (by simp; omega), List.getElem?_eq_none (by simp; omega)]

def l94 (n i j : Nat) : List (Nat × AV) := [(0, .slc 1 4 0 n n), (2, .v (.int .i64 i)), (3, .v (.int .i64 j))]
theorem wrapP {i : Nat} (h0 : 0 < i) (h : i < 9223372036854775807) : IntKind.wrap IntKind.i64 ((i : Int) - 1) = ((i - 1 : Nat) : Int) := by
  rw [wrap_id (by omega) (by omega)]; omega

theorem round94 (xs : List Fm) (hb : xs.length ≤ 2000) (n w i : Nat) (hi : i < xs.length - 1 - i) (hw : min (min w 1) 1 = 1) : ∀ c, In 28 [] (l94 xs.length i (xs.length - 1 - i)) c →
    Seen (aBody cfg 94 (codeAt (codeOf cfg.P 94) [1, 0, 0]) 2 (aC cfg (lower cfg (n + 60)) (n + 60 + 1) 94 none (codeAt (codeOf cfg.P 94) [1, 0, 0])) c (AS.mk [.dead, .cells (flat4 (swp xs i)) 27] [] w 0)) .normal 28 [] (l94 xs.length (i + 1) (xs.length - 1 - (i + 1))) (AS.mk [.dead, .cells (flat4 (swp xs (i + 1))) 27] [] 1 0) := by
  intro c hc
  have h1 : xs.length - 1 - i < xs.length := by omega
  have h2 : i < xs.length := by omega
  have gi : (swp xs i)[i]? = some xs[i] := by rw [swp_get xs i (by omega) i h2, if_neg (by omega)]; exact List.getElem?_eq_getElem h2
  have gj : (swp xs i)[xs.length - 1 - i]? = some xs[xs.length - 1 - i] := by rw [swp_get xs i (by omega) _ h1, if_neg (by omega)]; exact List.getElem?_eq_getElem h1
  have s1 := store_slc forms (S := AS.mk [.dead, .cells (flat4 (swp xs i)) 27] [] 2 0) (o := 1) (i := i) (x := xs[xs.length - 1 - i]) (T := 27) (xs := swp xs i) rfl (by simp; omega)
  have s2 := store_slc forms (S := AS.mk [.dead, .cells (flat4 ((swp xs i).set i xs[xs.length - 1 - i])) 27] [] 2 0) (o := 1) (i := xs.length - 1 - i) (x := xs[i]) (T := 27) (xs := (swp xs i).set i xs[xs.length - 1 - i]) rfl (by simp; omega)
  have hs : ((swp xs i).set i xs[xs.length - 1 - i]).set (xs.length - 1 - i) xs[i] = swp xs (i + 1) := by
    simp only [swp, List.getElem?_eq_getElem h1, List.getElem?_eq_getElem h2, Option.getD_some]
  rw [hs] at s2
  have ai := index_slc forms (o := 1) (k := xs.length) (ik := .i64) h2
  have aj := index_slc forms (o := 1) (k := xs.length) (ik := .i64) h1
  have step := q94_1 xs[i] xs[xs.length - 1 - i] _ _ _ xs.length (i * 4) ((xs.length - 1 - i) * 4) w i ((xs.length - 1 - i : Nat) : Int) n (decide_eq_true (by omega)) aj (load_slc forms rfl gj) ai (load_slc forms rfl gi) ai s1 aj s2 c hc
  rw [wrapN (by omega), wrapP (by omega) (by omega)] at step
  have e : xs.length - 1 - i - 1 = xs.length - 1 - (i + 1) := by omega
  rw [e] at step
  have hlow : (AS.mk [AObj.dead, .cells (flat4 (swp xs (i + 1))) 27] [] (min (AS.low (AS.mk [AObj.dead, .cells (flat4 ((swp xs i).set i xs[xs.length - 1 - i])) 27] [] (min (AS.low (AS.mk [AObj.dead, .cells (flat4 (swp xs i)) 27] [] w 0)) (AS.low (AS.mk [AObj.dead, .cells (flat4 ((swp xs i).set i xs[xs.length - 1 - i])) 27] [] 1 0))) 0)) (AS.low (AS.mk [AObj.dead, .cells (flat4 (swp xs (i + 1))) 27] [] 1 0))) 0 : AS) = AS.mk [.dead, .cells (flat4 (swp xs (i + 1))) 27] [] 1 0 := by
    show AS.mk _ _ (min (min w 1) 1) 0 = _
    rw [hw]
  rw [hlow] at step
  exact step

theorem loop94 (xs : List Fm) (hb : xs.length ≤ 2000) (n : Nat) : ∀ (d i K : Nat), xs.length - (i + i) = d → i + i ≤ xs.length → d < K →
    ∀ c, In 28 [] (l94 xs.length i (xs.length - 1 - i)) c → Seen (aloop (aBody cfg 94 (codeAt (codeOf cfg.P 94) [1, 0, 0]) 2 (aC cfg (lower cfg (n + 60)) (n + 60 + 1) 94 none (codeAt (codeOf cfg.P 94) [1, 0, 0]))) K c (AS.mk [.dead, .cells (flat4 (swp xs i)) 27] [] 1 0)) (.exit 0) 28 [] [] (AS.mk [.dead, .cells (flat4 xs.reverse) 27] [] 1 0) := by
  intro d
  induction d using Nat.strongRecOn with
  | _ d ih =>
    intro i K hd hi hK c hc
    obtain ⟨K, rfl⟩ : ∃ m, K = m + 1 := ⟨K - 1, by omega⟩
    by_cases h : i < xs.length - 1 - i
    · exact seen_next (round94 xs hb n 1 i h (by decide) c hc) fun c' hc' => ih (xs.length - (i + 1 + (i + 1))) (by omega) (i + 1) K rfl (by omega) (by omega) c' hc'
    · rw [← swp_end xs hi (by omega)]
      exact seen_stop (by simp) ((q94_2 (.mk 0 .empty .empty []) (.mk 0 .empty .empty []) _ [] [] xs.length 0 0 1 i ((xs.length - 1 - i : Nat) : Int) n (decide_eq_false (by omega)) c hc).weak fun l h => trivial)

theorem rev94 (xs : List Fm) (h0 : xs ≠ []) (hb : xs.length ≤ 2000) (n : Nat) (hn : 2000 ≤ n) : acallF cfg (lower cfg (n + 60)) (n + 60 + 1) 94 [.slc 1 4 0 xs.length xs.length] (AS.mk [.dead, .cells (flat4 xs) 27] [] 0 0) = some (.tup [], AS.mk [.dead, .cells (flat4 xs.reverse) 27] [] 0 0) := by
  have hpos : 0 < xs.length := List.length_pos_iff.2 h0
  have hj : IntKind.wrap IntKind.i64 ((xs.length : Int) - 1) = ((xs.length - 1 - 0 : Nat) : Int) := by rw [wrapP hpos (by omega)]; simp
  by_cases h : 0 < xs.length - 1 - 0
  · have L : ∀ c, In 28 [] (l94 xs.length 0 (xs.length - 1 - 0)) c → Seen (aloop (aBody cfg 94 (codeAt (codeOf cfg.P 94) [1, 0, 0]) 2 (aC cfg (lower cfg (n + 60)) (n + 60 + 1) 94 none (codeAt (codeOf cfg.P 94) [1, 0, 0]))) (n + 60 + 1) c (AS.mk [.dead, .cells (flat4 xs) 27] [] 2 0)) (.exit 0) 28 [] [] (AS.mk [.dead, .cells (flat4 xs.reverse) 27] [] 1 0) := fun c hc =>
      seen_next (round94 xs hb n 2 0 h (by decide) c hc) fun c' hc' => loop94 xs hb n _ 1 (n + 60) rfl (by omega) (by omega) c' hc'
    obtain ⟨γ, hγ⟩ := LoopIs.of (C := cfg) (c := codeAt (codeOf cfg.P 94) [1, 0]) (k := n + 60 + 1) (hf := 94) (rd := none) (L := lower cfg (n + 60)) L
    exact b94_1 xs.length _ _ [] n γ (by rw [hj]; exact hγ)
  · have hrev : xs.reverse = xs := by rw [← swp_end xs (i := 0) (by omega) (by omega)]; rfl
    rw [hrev]
    have L : ∀ c, In 28 [] (l94 xs.length 0 (xs.length - 1 - 0)) c → Seen (aloop (aBody cfg 94 (codeAt (codeOf cfg.P 94) [1, 0, 0]) 2 (aC cfg (lower cfg (n + 60)) (n + 60 + 1) 94 none (codeAt (codeOf cfg.P 94) [1, 0, 0]))) (n + 60 + 1) c (AS.mk [.dead, .cells (flat4 xs) 27] [] 2 0)) (.exit 0) 28 [] [] (AS.mk [.dead, .cells (flat4 xs) 27] [] 2 0) := fun c hc =>
      seen_stop (by simp) ((q94_2 (.mk 0 .empty .empty []) (.mk 0 .empty .empty []) _ [] [] xs.length 0 0 2 0 ((xs.length - 1 - 0 : Nat) : Int) n (decide_eq_false (by omega)) c hc).weak fun l h => trivial)
    obtain ⟨γ, hγ⟩ := LoopIs.of (C := cfg) (c := codeAt (codeOf cfg.P 94) [1, 0]) (k := n + 60 + 1) (hf := 94) (rd := none) (L := lower cfg (n + 60)) L
    exact c94_1 xs.length _ n γ (by rw [hj]; exact hγ)

theorem call94 (n : Nat) (args : List AV) (S : AS) : (lower cfg (n + 1 + 60)).call 94 args S = acallF cfg (lower cfg (n + 60)) (n + 60 + 1) 94 args S := by kernel_rfl

theorem out37 (xs : List Fm) (hb : xs.length ≤ 2000) : Out 37 [la xs] (some xs.reverse) := by
  have go : ∀ c, (Evt fun n => Path cfg 37 [la xs] (outV c (some xs.reverse)) (n + 60)) → untok c = c → Out 37 [la xs] (some xs.reverse) := fun c h hc =>
    ⟨c, hc, Fr.of_co rfl (by kernel_rfl) (Own.lst rfl Own.nil) (Co.path (by kernel_rfl) (Evt.shift h))⟩
  have hk := (ck91 xs hb).shift.and (Evt.big 2001)
  by_cases h0 : xs = []
  · subst h0
    exact go .any (hk.mono fun n hn => a37_1 n hn.1 _ rfl) rfl
  · refine go .unk (hk.mono fun n hn => ?_) rfl
    obtain ⟨m, rfl⟩ : ∃ m, n = m + 1 := ⟨n - 1, by omega⟩
    have hy := lend_slc (S := AS.mk [.dead, .cells (flat4 xs.reverse) 27] [] 0 0) (d := 4) (o := 1) (k := xs.length) (T := 27) rfl
    rw [List.length_reverse] at hy
    exact b37_1 xs _ (m + 1) hn.1 (clone0 xs h0 hb _) ((call94 m _ _).trans (rev94 xs h0 hb m (by omega))) _ (lend_pair hy)

/-! the other one -/
def l38 (xs : List Fm) (v : AV) (i : Int) : List (Nat × AV) := [(0, la xs), (4, v), (5, .v (.int .i64 i))]
theorem append_more {S : AS} {zs : List Fm} {x : Fm} (hS : S.ends[0]? = some zs.length) (hb : zs.length ≤ 2000) :
    aappend cfg.P false S 22 (.lst (.tok 0 zs.length 4) (zs.map Fm.row)) (.lst .exact [x.row]) = some (.lst (.tok 0 (zs.length + 1) 4) ((zs ++ [x]).map Fm.row), S.tokS 0 (zs.length + 1)) := by
  obtain ⟨z, hz, hzl⟩ := FormP.z forms
  obtain ⟨i, hi, hib⟩ := FormP.info forms
  have hbb : (zs.length + 1) * i.bytes ≤ 140737488355328 := Nat.le_trans (Nat.mul_le_mul (show zs.length + 1 ≤ 100000 by omega) hib) (by decide)
  have hm : zs.length + 1 ≤ maxLen := Nat.le_trans (show zs.length + 1 ≤ 100000 by omega) (by decide)
  have hr : rowsOf S 4 (.lst .exact [x.row]) = some [x.row] := rows_lst S .exact [x]
  unfold aappend
  rw [FormP.row forms]
  simp only [Option.bind_some, hz, hi, hr, hzl, ne_eq, not_true, if_false, List.length_map, List.length_cons, List.length_nil, Nat.zero_add, Nat.one_ne_zero]
  rw [if_pos ⟨Fm.len_map zs, hbb, hm⟩, if_pos ⟨hS, trivial⟩]
  simp

theorem loop38 (xs : List Fm) (hb : xs.length ≤ 2000) (n : Nat) : ∀ (d j K : Nat), xs.length - j = d → 1 ≤ j → j ≤ xs.length → d < K →
    ∀ c, In 23 [] (l38 xs (.lst (.tok 0 j 4) ((xs.reverse.take j).map Fm.row)) ((xs.length : Int) - 1 - j)) c →
      Seen (aloop (aBody cfg 38 (codeAt (codeOf cfg.P 38) [1, 1, 1, 0, 1, 0, 0]) 0 (aC cfg (lower cfg (n + 60)) (n + 60 + 1) 38 none (codeAt (codeOf cfg.P 38) [1, 1, 1, 0, 1, 0, 0]))) K c (AS.mk [] [j] 0 0)) (.exit 0) 23 [] [(4, .lst (.tok 0 xs.length 4) (xs.reverse.map Fm.row))] (AS.mk [] [xs.length] 0 0) := by
  intro d
  induction d with
  | zero =>
    intro j K hd hj hjl hK c hc
    obtain ⟨K, rfl⟩ : ∃ m, K = m + 1 := ⟨K - 1, by omega⟩
    have he : j = xs.length := by omega
    subst he
    rw [List.take_of_length_le (by simp)] at hc
    exact seen_stop (by simp) ((s38_2 xs _ [] (.mk 0 .empty .empty []) xs.length 0 _ n (decide_eq_false (by omega)) c hc).weak fun l h => ⟨h.2.1, trivial⟩)
  | succ d ih =>
    intro j K hd hj hjl hK c hc
    obtain ⟨K, rfl⟩ : ∃ m, K = m + 1 := ⟨K - 1, by omega⟩
    have hlt : xs.length - 1 - j < xs.length := by omega
    have hi : (xs.length : Int) - 1 - j = ((xs.length - 1 - j : Nat) : Int) := by omega
    have hzl : (xs.reverse.take j).length = j := by simp; omega
    have hap := append_more (S := AS.mk [] [j] 0 0) (zs := xs.reverse.take j) (x := xs[xs.length - 1 - j]) (by rw [hzl]; rfl) (by omega)
    rw [hzl] at hap
    have hnext : xs.reverse.take j ++ [xs[xs.length - 1 - j]] = xs.reverse.take (j + 1) := by
      rw [List.take_add_one, List.getElem?_reverse (by omega), List.getElem?_eq_getElem hlt]; rfl
    rw [hnext] at hap
    have step := s38_1 xs _ _ xs[xs.length - 1 - j] j (j + 1) ((xs.length : Int) - 1 - j) n (decide_eq_true (by omega)) (by rw [hi]; exact idx22 (Fm.map_get (List.getElem?_eq_getElem hlt)) rfl) hap c hc
    rw [wrap_id (by omega) (by omega), show (xs.length : Int) - 1 - j - 1 = (xs.length : Int) - 1 - (j + 1 : Nat) by omega] at step
    exact seen_next step fun c' hc' => ih (j + 1) K (by omega) (by omega) (by omega) (by omega) c' hc'

/-- A list that a caller sees: nil counts as a list of nothing. -/
def LV (v : AV) (zs : List Fm) : Prop := (∃ c, untok c = c ∧ v = .lst c (zs.map Fm.row)) ∨ (zs = [] ∧ v = .v (.slice none 0 0))
def resOf : Option (List Fm) → List Fm × Int
  | none => ([], 7)
  | some zs => (zs, 0)
def Outs (f : Nat) (args : List AV) (o : Option (List Fm)) : Prop := ∃ v, LV v (resOf o).1 ∧ Fr cfg f args (.tup [v, .v (.int .i64 (resOf o).2)])
theorem Out.outs {f : Nat} {args : List AV} {o : Option (List Fm)} (h : Out f args o) : Outs f args o := by
  obtain ⟨c, hc, h⟩ := h
  cases o with
  | none => exact ⟨_, .inr ⟨rfl, rfl⟩, h⟩
  | some zs => exact ⟨_, .inl ⟨c, hc, rfl⟩, h⟩

theorem out38 (xs : List Fm) (hb : xs.length ≤ 2000) : Outs 38 [la xs] (some xs.reverse) := by
  have go : ∀ v, (Evt fun n => Path cfg 38 [la xs] (.tup [v, .v (.int .i64 0)]) (n + 60)) → LV v xs.reverse → Outs 38 [la xs] (some xs.reverse) := fun v h hv =>
    ⟨v, hv, Fr.of_co rfl (by kernel_rfl) (Own.lst rfl Own.nil) (Co.path (by kernel_rfl) (Evt.shift h))⟩
  have hk := (ck77 xs hb).shift.and (Evt.big 2001)
  by_cases h0 : xs = []
  · subst h0
    exact go _ (hk.mono fun n hn => n38_1 n hn.1) (.inr ⟨rfl, rfl⟩)
  · have hpos : 0 < xs.length := List.length_pos_iff.2 h0
    refine go (.lst .unk (xs.reverse.map Fm.row)) (hk.mono fun n hn => ?_) (.inl ⟨.unk, rfl, rfl⟩)
    have hlt : xs.length - 1 < xs.length := by omega
    have hi : (xs.length : Int) - 1 = ((xs.length - 1 : Nat) : Int) := by omega
    have L : ∀ c, In 23 [] (l38 xs (.v (.slice none 0 0)) ((xs.length : Int) - 1)) c → Seen (aloop (aBody cfg 38 (codeAt (codeOf cfg.P 38) [1, 1, 1, 0, 1, 0, 0]) 0 (aC cfg (lower cfg (n + 60)) (n + 60 + 1) 38 none (codeAt (codeOf cfg.P 38) [1, 1, 1, 0, 1, 0, 0]))) (n + 60 + 1) c (AS.mk [] [] 0 0)) (.exit 0) 23 [] [(4, .lst (.tok 0 xs.length 4) (xs.reverse.map Fm.row))] (AS.mk [] [xs.length] 0 0) := fun c hc => by
      have step := q38_1 xs xs[xs.length - 1] ((xs.length : Int) - 1) n (decide_eq_true (by omega)) (by rw [hi]; exact idx22 (Fm.map_get (List.getElem?_eq_getElem hlt)) rfl) c hc
      have h1 : [xs[xs.length - 1]] = xs.reverse.take 1 := by
        rw [List.take_add_one, List.getElem?_reverse (by omega), Nat.sub_zero, List.getElem?_eq_getElem hlt]; rfl
      have h2 : [xs[xs.length - 1].row] = (xs.reverse.take 1).map Fm.row := by rw [← h1]; rfl
      rw [h2, wrap_id (by omega) (by omega), show (xs.length : Int) - 1 - 1 = (xs.length : Int) - 1 - (1 : Nat) by omega] at step
      exact seen_next step fun c' hc' => loop38 xs hb n _ 1 (n + 60) rfl (Nat.le_refl _) (by omega) (by omega) c' hc'
    obtain ⟨γ, hγ⟩ := LoopIs.of (C := cfg) (c := codeAt (codeOf cfg.P 38) [1, 1, 1, 0, 1, 0]) (k := n + 60 + 1) (hf := 38) (rd := none) (L := lower cfg (n + 60)) L
    refine b38_1 xs _ (AS.mk [] [xs.length] 0 0) n γ hn.1 ?_ _ (lend_pair (lend_lst (AS.mk [] [xs.length] 0 0) 4 (.tok 0 xs.length 4) xs.reverse))
    rw [len_row, wrap_id (by omega) (by omega)]
    exact hγ
end Go.Proofs.YtamemdhmjglifaaGreatDoor
