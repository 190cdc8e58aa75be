/- Chapter 12: searching with a function. -/
import Derived.Test.YtamemdhmjglifaaGreatDoorPG
namespace Go.Proofs.YtamemdhmjglifaaGreatDoor
open Go.RowKit Go.AM
set_option maxRecDepth 100000
set_option linter.unusedVariables false
theorem b83_64_1 (k : Cap) (xs : List Fm) (x : Fm) (p : Fm → Bool) (y : Fm) (i : Int) (l : Int) (n : Nat) (h0 : decide (i < l) = true) (c1 : aindexAddr (Cfg.P cA) 22 (AV.lst k (List.map Fm.row xs)) (vI i) = some (AV.eptr (Fm.row x) 0)) (c2 : ∀ (S : AS), Lw.call (lower cA (n + 60)) 64 [(Fm.av x), AV.eptr (Fm.row y) 0] S = some (vB (p x), S)) (h3 : p x = true) (a : AAct) (ha : In 19 [] [(0, AV.lst k (List.map Fm.row xs)), (1, AV.fn (Fn.func 64) [] [AV.eptr (Fm.row y) 0]), (7, vI l), (8, vI i)] a) : Seen (aBody cA 83 (codeAt (codeOf cA.P 83) [1, 0, 1, 0, 0]) 0 (aC cA (lower cA (n + 60)) (n + 60 + 1) 83 none (codeAt (codeOf cA.P 83) [1, 0, 1, 0, 0])) a (AS.mk [] [] 0 0)) (Exit.ret) 19 [] [(0, AV.lst k (List.map Fm.row xs)), (1, AV.fn (Fn.func 64) [] [AV.eptr (Fm.row y) 0]), (4, vI i), (7, vI l), (8, vI i)] (AS.mk [] [] 0 0) :=
  segB_ok (ds := [(1, Tell.b true), (5, Tell.fr (AV.eptr (Fm.row x) 0)), (1, Tell.fr (vB (p x))), (0, Tell.b true)]) (cs := [decide (i < l) = true, frP (aindexAddr (Cfg.P cA) 22 (AV.lst k (List.map Fm.row xs)) (vI i)) (AV.eptr (Fm.row x) 0), ∀ (S : AS), Lw.call (lower cA (n + 60)) 64 [(Fm.av x), AV.eptr (Fm.row y) 0] S = some (vB (p x), S), p x = true]) (ws := [0, 1, 4, 7, 8]) (ds' := []) ha (fun g => by kernel_rfl) ⟨h0, (fr_of c1), c2, h3, trivial⟩
theorem b83_64_2 (k : Cap) (xs : List Fm) (x : Fm) (p : Fm → Bool) (y : Fm) (i : Int) (l : Int) (n : Nat) (h0 : decide (i < l) = true) (c1 : aindexAddr (Cfg.P cA) 22 (AV.lst k (List.map Fm.row xs)) (vI i) = some (AV.eptr (Fm.row x) 0)) (c2 : ∀ (S : AS), Lw.call (lower cA (n + 60)) 64 [(Fm.av x), AV.eptr (Fm.row y) 0] S = some (vB (p x), S)) (h3 : p x = false) (a : AAct) (ha : In 19 [] [(0, AV.lst k (List.map Fm.row xs)), (1, AV.fn (Fn.func 64) [] [AV.eptr (Fm.row y) 0]), (7, vI l), (8, vI i)] a) : Seen (aBody cA 83 (codeAt (codeOf cA.P 83) [1, 0, 1, 0, 0]) 0 (aC cA (lower cA (n + 60)) (n + 60 + 1) 83 none (codeAt (codeOf cA.P 83) [1, 0, 1, 0, 0])) a (AS.mk [] [] 0 0)) (Exit.normal) 19 [] [(0, AV.lst k (List.map Fm.row xs)), (1, AV.fn (Fn.func 64) [] [AV.eptr (Fm.row y) 0]), (7, vI l), (8, vI (IntKind.wrap IntKind.i64 (i + 1)))] (AS.mk [] [] 0 0) :=
  segB_ok (ds := [(1, Tell.b true), (5, Tell.fr (AV.eptr (Fm.row x) 0)), (1, Tell.fr (vB (p x))), (0, Tell.b false), (2, Tell.b true)]) (cs := [decide (i < l) = true, frP (aindexAddr (Cfg.P cA) 22 (AV.lst k (List.map Fm.row xs)) (vI i)) (AV.eptr (Fm.row x) 0), ∀ (S : AS), Lw.call (lower cA (n + 60)) 64 [(Fm.av x), AV.eptr (Fm.row y) 0] S = some (vB (p x), S), p x = false, trimB 0 [AV.lst k (List.map Fm.row xs), AV.fn (Fn.func 64) [] [AV.eptr (Fm.row y) 0], vI l, vI (IntKind.wrap IntKind.i64 (i + 1))] [] [] 0 = true]) (ws := [0, 1, 7, 8]) (ds' := []) ha (fun g => by kernel_rfl) ⟨h0, (fr_of c1), c2, h3, (by simp [trimB, objOld, belowAll, belowRows, AV.old, Fm.row, Fm.av, Fm.belowRows_rows, Fm.belowRows_map, Nat.ble]), trivial⟩
theorem b83_64_3 (k : Cap) (xs : List Fm) (x : Fm) (p : Fm → Bool) (y : Fm) (i : Int) (l : Int) (n : Nat) (h0 : decide (i < l) = false) (a : AAct) (ha : In 19 [] [(0, AV.lst k (List.map Fm.row xs)), (1, AV.fn (Fn.func 64) [] [AV.eptr (Fm.row y) 0]), (7, vI l), (8, vI i)] a) : Seen (aBody cA 83 (codeAt (codeOf cA.P 83) [1, 0, 1, 0, 0]) 0 (aC cA (lower cA (n + 60)) (n + 60 + 1) 83 none (codeAt (codeOf cA.P 83) [1, 0, 1, 0, 0])) a (AS.mk [] [] 0 0)) (Exit.exit 0) 19 [] [(0, AV.lst k (List.map Fm.row xs)), (1, AV.fn (Fn.func 64) [] [AV.eptr (Fm.row y) 0]), (7, vI l), (8, vI i)] (AS.mk [] [] 0 0) :=
  segB_ok (ds := [(1, Tell.b false)]) (cs := [decide (i < l) = false]) (ws := [0, 1, 7, 8]) (ds' := []) ha (fun g => by kernel_rfl) ⟨h0, trivial⟩
theorem f83_64_1 (k : Cap) (xs : List Fm) (y : Fm) (r : Int) (n : Nat) (γ0 : AAct → Nat → AV) (l0 : LoopIs cA (lower cA (n + 60)) (n + 60 + 1) 83 none (codeAt (codeOf (Cfg.P cA) 83) [1, 0, 1, 0]) 19 [] [(0, AV.lst k (List.map Fm.row xs)), (1, AV.fn (Fn.func 64) [] [AV.eptr (Fm.row y) 0]), (7, vI (↑(List.length (List.map Fm.row xs)) : Int)), (8, vI (Int.ofNat 0))] (AS.mk [] [] 0 0) (Exit.exit 0) [] (AS.mk [] [] 0 0) γ0) : Path cA 83 [AV.lst k (List.map Fm.row xs), AV.fn (Fn.func 64) [] [AV.eptr (Fm.row y) 0]] (vI (Int.negSucc 0)) (n + 60) :=
  Path.of (ds := [(4, Tell.lp [0, 1, 7, 8] (Exit.exit 0) [] (AS.mk [] [] 0 0) γ0)]) (cs := [LoopIs cA (lower cA (n + 60)) (n + 60 + 1) 83 none (codeAt (codeOf (Cfg.P cA) 83) [1, 0, 1, 0]) 19 [] [(0, AV.lst k (List.map Fm.row xs)), (1, AV.fn (Fn.func 64) [] [AV.eptr (Fm.row y) 0]), (7, vI (↑(List.length (List.map Fm.row xs)) : Int)), (8, vI (Int.ofNat 0))] (AS.mk [] [] 0 0) (Exit.exit 0) [] (AS.mk [] [] 0 0) γ0]) (x := vI (Int.negSucc 0)) (S2 := AS.mk [] [] 0 0) (by kernel_rfl) ⟨l0, trivial⟩ rfl -- Exit.ret
theorem g83_64_1 (k : Cap) (xs : List Fm) (y : Fm) (r : Int) (n : Nat) (γ0 : AAct → Nat → AV) (l0 : LoopIs cA (lower cA (n + 60)) (n + 60 + 1) 83 none (codeAt (codeOf (Cfg.P cA) 83) [1, 0, 1, 0]) 19 [] [(0, AV.lst k (List.map Fm.row xs)), (1, AV.fn (Fn.func 64) [] [AV.eptr (Fm.row y) 0]), (7, vI (↑(List.length (List.map Fm.row xs)) : Int)), (8, vI (Int.ofNat 0))] (AS.mk [] [] 0 0) Exit.ret [(4, vI r)] (AS.mk [] [] 0 0) γ0) : Path cA 83 [AV.lst k (List.map Fm.row xs), AV.fn (Fn.func 64) [] [AV.eptr (Fm.row y) 0]] (vI r) (n + 60) :=
  Path.of (ds := [(4, Tell.lp [0, 1, 7, 8] Exit.ret [(4, vI r)] (AS.mk [] [] 0 0) γ0)]) (cs := [LoopIs cA (lower cA (n + 60)) (n + 60 + 1) 83 none (codeAt (codeOf (Cfg.P cA) 83) [1, 0, 1, 0]) 19 [] [(0, AV.lst k (List.map Fm.row xs)), (1, AV.fn (Fn.func 64) [] [AV.eptr (Fm.row y) 0]), (7, vI (↑(List.length (List.map Fm.row xs)) : Int)), (8, vI (Int.ofNat 0))] (AS.mk [] [] 0 0) Exit.ret [(4, vI r)] (AS.mk [] [] 0 0) γ0]) (x := vI r) (S2 := AS.mk [] [] 0 0) (by kernel_rfl) ⟨l0, trivial⟩ rfl -- Exit.ret
theorem f22_64_1 (k : Cap) (xs : List Fm) (y : Fm) (r : Int) (n : Nat) (c0 : ∀ (S : AS), Lw.call (lower cA (n + 60)) 83 [AV.lst k (List.map Fm.row xs), AV.fn (Fn.func 64) [] [AV.eptr (Fm.row y) 0]] S = some (vI r, S)) : Path cA 22 [AV.lst k (List.map Fm.row xs), AV.fn (Fn.func 64) [] [AV.eptr (Fm.row y) 0]] (vB (decide (r ≥ 0))) (n + 60) :=
  Path.of (ds := [(3, Tell.fr (vI r))]) (cs := [∀ (S : AS), Lw.call (lower cA (n + 60)) 83 [AV.lst k (List.map Fm.row xs), AV.fn (Fn.func 64) [] [AV.eptr (Fm.row y) 0]] S = some (vI r, S)]) (x := vB (decide (r ≥ 0))) (S2 := AS.mk [] [] 0 0) (by kernel_rfl) ⟨c0, trivial⟩ rfl -- Exit.ret
theorem b83_67_1 (k : Cap) (xs : List Fm) (x : Fm) (p : Fm → Bool) (y : Fm) (i : Int) (l : Int) (n : Nat) (h0 : decide (i < l) = true) (c1 : aindexAddr (Cfg.P cA) 22 (AV.lst k (List.map Fm.row xs)) (vI i) = some (AV.eptr (Fm.row x) 0)) (c2 : ∀ (S : AS), Lw.call (lower cA (n + 60)) 67 [(Fm.av x), AV.eptr (Fm.row y) 0] S = some (vB (p x), S)) (h3 : p x = true) (a : AAct) (ha : In 19 [] [(0, AV.lst k (List.map Fm.row xs)), (1, AV.fn (Fn.func 67) [] [AV.eptr (Fm.row y) 0]), (7, vI l), (8, vI i)] a) : Seen (aBody cA 83 (codeAt (codeOf cA.P 83) [1, 0, 1, 0, 0]) 0 (aC cA (lower cA (n + 60)) (n + 60 + 1) 83 none (codeAt (codeOf cA.P 83) [1, 0, 1, 0, 0])) a (AS.mk [] [] 0 0)) (Exit.ret) 19 [] [(0, AV.lst k (List.map Fm.row xs)), (1, AV.fn (Fn.func 67) [] [AV.eptr (Fm.row y) 0]), (4, vI i), (7, vI l), (8, vI i)] (AS.mk [] [] 0 0) :=
  segB_ok (ds := [(1, Tell.b true), (5, Tell.fr (AV.eptr (Fm.row x) 0)), (1, Tell.fr (vB (p x))), (0, Tell.b true)]) (cs := [decide (i < l) = true, frP (aindexAddr (Cfg.P cA) 22 (AV.lst k (List.map Fm.row xs)) (vI i)) (AV.eptr (Fm.row x) 0), ∀ (S : AS), Lw.call (lower cA (n + 60)) 67 [(Fm.av x), AV.eptr (Fm.row y) 0] S = some (vB (p x), S), p x = true]) (ws := [0, 1, 4, 7, 8]) (ds' := []) ha (fun g => by kernel_rfl) ⟨h0, (fr_of c1), c2, h3, trivial⟩
theorem b83_67_2 (k : Cap) (xs : List Fm) (x : Fm) (p : Fm → Bool) (y : Fm) (i : Int) (l : Int) (n : Nat) (h0 : decide (i < l) = true) (c1 : aindexAddr (Cfg.P cA) 22 (AV.lst k (List.map Fm.row xs)) (vI i) = some (AV.eptr (Fm.row x) 0)) (c2 : ∀ (S : AS), Lw.call (lower cA (n + 60)) 67 [(Fm.av x), AV.eptr (Fm.row y) 0] S = some (vB (p x), S)) (h3 : p x = false) (a : AAct) (ha : In 19 [] [(0, AV.lst k (List.map Fm.row xs)), (1, AV.fn (Fn.func 67) [] [AV.eptr (Fm.row y) 0]), (7, vI l), (8, vI i)] a) : Seen (aBody cA 83 (codeAt (codeOf cA.P 83) [1, 0, 1, 0, 0]) 0 (aC cA (lower cA (n + 60)) (n + 60 + 1) 83 none (codeAt (codeOf cA.P 83) [1, 0, 1, 0, 0])) a (AS.mk [] [] 0 0)) (Exit.normal) 19 [] [(0, AV.lst k (List.map Fm.row xs)), (1, AV.fn (Fn.func 67) [] [AV.eptr (Fm.row y) 0]), (7, vI l), (8, vI (IntKind.wrap IntKind.i64 (i + 1)))] (AS.mk [] [] 0 0) :=
  segB_ok (ds := [(1, Tell.b true), (5, Tell.fr (AV.eptr (Fm.row x) 0)), (1, Tell.fr (vB (p x))), (0, Tell.b false), (2, Tell.b true)]) (cs := [decide (i < l) = true, frP (aindexAddr (Cfg.P cA) 22 (AV.lst k (List.map Fm.row xs)) (vI i)) (AV.eptr (Fm.row x) 0), ∀ (S : AS), Lw.call (lower cA (n + 60)) 67 [(Fm.av x), AV.eptr (Fm.row y) 0] S = some (vB (p x), S), p x = false, trimB 0 [AV.lst k (List.map Fm.row xs), AV.fn (Fn.func 67) [] [AV.eptr (Fm.row y) 0], vI l, vI (IntKind.wrap IntKind.i64 (i + 1))] [] [] 0 = true]) (ws := [0, 1, 7, 8]) (ds' := []) ha (fun g => by kernel_rfl) ⟨h0, (fr_of c1), c2, h3, (by simp [trimB, objOld, belowAll, belowRows, AV.old, Fm.row, Fm.av, Fm.belowRows_rows, Fm.belowRows_map, Nat.ble]), trivial⟩
theorem b83_67_3 (k : Cap) (xs : List Fm) (x : Fm) (p : Fm → Bool) (y : Fm) (i : Int) (l : Int) (n : Nat) (h0 : decide (i < l) = false) (a : AAct) (ha : In 19 [] [(0, AV.lst k (List.map Fm.row xs)), (1, AV.fn (Fn.func 67) [] [AV.eptr (Fm.row y) 0]), (7, vI l), (8, vI i)] a) : Seen (aBody cA 83 (codeAt (codeOf cA.P 83) [1, 0, 1, 0, 0]) 0 (aC cA (lower cA (n + 60)) (n + 60 + 1) 83 none (codeAt (codeOf cA.P 83) [1, 0, 1, 0, 0])) a (AS.mk [] [] 0 0)) (Exit.exit 0) 19 [] [(0, AV.lst k (List.map Fm.row xs)), (1, AV.fn (Fn.func 67) [] [AV.eptr (Fm.row y) 0]), (7, vI l), (8, vI i)] (AS.mk [] [] 0 0) :=
  segB_ok (ds := [(1, Tell.b false)]) (cs := [decide (i < l) = false]) (ws := [0, 1, 7, 8]) (ds' := []) ha (fun g => by kernel_rfl) ⟨h0, trivial⟩
theorem f83_67_1 (k : Cap) (xs : List Fm) (y : Fm) (r : Int) (n : Nat) (γ0 : AAct → Nat → AV) (l0 : LoopIs cA (lower cA (n + 60)) (n + 60 + 1) 83 none (codeAt (codeOf (Cfg.P cA) 83) [1, 0, 1, 0]) 19 [] [(0, AV.lst k (List.map Fm.row xs)), (1, AV.fn (Fn.func 67) [] [AV.eptr (Fm.row y) 0]), (7, vI (↑(List.length (List.map Fm.row xs)) : Int)), (8, vI (Int.ofNat 0))] (AS.mk [] [] 0 0) (Exit.exit 0) [] (AS.mk [] [] 0 0) γ0) : Path cA 83 [AV.lst k (List.map Fm.row xs), AV.fn (Fn.func 67) [] [AV.eptr (Fm.row y) 0]] (vI (Int.negSucc 0)) (n + 60) :=
  Path.of (ds := [(4, Tell.lp [0, 1, 7, 8] (Exit.exit 0) [] (AS.mk [] [] 0 0) γ0)]) (cs := [LoopIs cA (lower cA (n + 60)) (n + 60 + 1) 83 none (codeAt (codeOf (Cfg.P cA) 83) [1, 0, 1, 0]) 19 [] [(0, AV.lst k (List.map Fm.row xs)), (1, AV.fn (Fn.func 67) [] [AV.eptr (Fm.row y) 0]), (7, vI (↑(List.length (List.map Fm.row xs)) : Int)), (8, vI (Int.ofNat 0))] (AS.mk [] [] 0 0) (Exit.exit 0) [] (AS.mk [] [] 0 0) γ0]) (x := vI (Int.negSucc 0)) (S2 := AS.mk [] [] 0 0) (by kernel_rfl) ⟨l0, trivial⟩ rfl -- Exit.ret
theorem g83_67_1 (k : Cap) (xs : List Fm) (y : Fm) (r : Int) (n : Nat) (γ0 : AAct → Nat → AV) (l0 : LoopIs cA (lower cA (n + 60)) (n + 60 + 1) 83 none (codeAt (codeOf (Cfg.P cA) 83) [1, 0, 1, 0]) 19 [] [(0, AV.lst k (List.map Fm.row xs)), (1, AV.fn (Fn.func 67) [] [AV.eptr (Fm.row y) 0]), (7, vI (↑(List.length (List.map Fm.row xs)) : Int)), (8, vI (Int.ofNat 0))] (AS.mk [] [] 0 0) Exit.ret [(4, vI r)] (AS.mk [] [] 0 0) γ0) : Path cA 83 [AV.lst k (List.map Fm.row xs), AV.fn (Fn.func 67) [] [AV.eptr (Fm.row y) 0]] (vI r) (n + 60) :=
  Path.of (ds := [(4, Tell.lp [0, 1, 7, 8] Exit.ret [(4, vI r)] (AS.mk [] [] 0 0) γ0)]) (cs := [LoopIs cA (lower cA (n + 60)) (n + 60 + 1) 83 none (codeAt (codeOf (Cfg.P cA) 83) [1, 0, 1, 0]) 19 [] [(0, AV.lst k (List.map Fm.row xs)), (1, AV.fn (Fn.func 67) [] [AV.eptr (Fm.row y) 0]), (7, vI (↑(List.length (List.map Fm.row xs)) : Int)), (8, vI (Int.ofNat 0))] (AS.mk [] [] 0 0) Exit.ret [(4, vI r)] (AS.mk [] [] 0 0) γ0]) (x := vI r) (S2 := AS.mk [] [] 0 0) (by kernel_rfl) ⟨l0, trivial⟩ rfl -- Exit.ret
theorem f22_67_1 (k : Cap) (xs : List Fm) (y : Fm) (r : Int) (n : Nat) (c0 : ∀ (S : AS), Lw.call (lower cA (n + 60)) 83 [AV.lst k (List.map Fm.row xs), AV.fn (Fn.func 67) [] [AV.eptr (Fm.row y) 0]] S = some (vI r, S)) : Path cA 22 [AV.lst k (List.map Fm.row xs), AV.fn (Fn.func 67) [] [AV.eptr (Fm.row y) 0]] (vB (decide (r ≥ 0))) (n + 60) :=
  Path.of (ds := [(3, Tell.fr (vI r))]) (cs := [∀ (S : AS), Lw.call (lower cA (n + 60)) 83 [AV.lst k (List.map Fm.row xs), AV.fn (Fn.func 67) [] [AV.eptr (Fm.row y) 0]] S = some (vI r, S)]) (x := vB (decide (r ≥ 0))) (S2 := AS.mk [] [] 0 0) (by kernel_rfl) ⟨c0, trivial⟩ rfl -- Exit.ret
theorem b83_68_1 (k : Cap) (xs : List Fm) (x : Fm) (p : Fm → Bool) (y : Fm) (i : Int) (l : Int) (n : Nat) (h0 : decide (i < l) = true) (c1 : aindexAddr (Cfg.P cA) 22 (AV.lst k (List.map Fm.row xs)) (vI i) = some (AV.eptr (Fm.row x) 0)) (c2 : ∀ (S : AS), Lw.call (lower cA (n + 60)) 68 [(Fm.av x), AV.eptr (Fm.row y) 0] S = some (vB (p x), S)) (h3 : p x = true) (a : AAct) (ha : In 19 [] [(0, AV.lst k (List.map Fm.row xs)), (1, AV.fn (Fn.func 68) [] [AV.eptr (Fm.row y) 0]), (7, vI l), (8, vI i)] a) : Seen (aBody cA 83 (codeAt (codeOf cA.P 83) [1, 0, 1, 0, 0]) 0 (aC cA (lower cA (n + 60)) (n + 60 + 1) 83 none (codeAt (codeOf cA.P 83) [1, 0, 1, 0, 0])) a (AS.mk [] [] 0 0)) (Exit.ret) 19 [] [(0, AV.lst k (List.map Fm.row xs)), (1, AV.fn (Fn.func 68) [] [AV.eptr (Fm.row y) 0]), (4, vI i), (7, vI l), (8, vI i)] (AS.mk [] [] 0 0) :=
  segB_ok (ds := [(1, Tell.b true), (5, Tell.fr (AV.eptr (Fm.row x) 0)), (1, Tell.fr (vB (p x))), (0, Tell.b true)]) (cs := [decide (i < l) = true, frP (aindexAddr (Cfg.P cA) 22 (AV.lst k (List.map Fm.row xs)) (vI i)) (AV.eptr (Fm.row x) 0), ∀ (S : AS), Lw.call (lower cA (n + 60)) 68 [(Fm.av x), AV.eptr (Fm.row y) 0] S = some (vB (p x), S), p x = true]) (ws := [0, 1, 4, 7, 8]) (ds' := []) ha (fun g => by kernel_rfl) ⟨h0, (fr_of c1), c2, h3, trivial⟩
theorem b83_68_2 (k : Cap) (xs : List Fm) (x : Fm) (p : Fm → Bool) (y : Fm) (i : Int) (l : Int) (n : Nat) (h0 : decide (i < l) = true) (c1 : aindexAddr (Cfg.P cA) 22 (AV.lst k (List.map Fm.row xs)) (vI i) = some (AV.eptr (Fm.row x) 0)) (c2 : ∀ (S : AS), Lw.call (lower cA (n + 60)) 68 [(Fm.av x), AV.eptr (Fm.row y) 0] S = some (vB (p x), S)) (h3 : p x = false) (a : AAct) (ha : In 19 [] [(0, AV.lst k (List.map Fm.row xs)), (1, AV.fn (Fn.func 68) [] [AV.eptr (Fm.row y) 0]), (7, vI l), (8, vI i)] a) : Seen (aBody cA 83 (codeAt (codeOf cA.P 83) [1, 0, 1, 0, 0]) 0 (aC cA (lower cA (n + 60)) (n + 60 + 1) 83 none (codeAt (codeOf cA.P 83) [1, 0, 1, 0, 0])) a (AS.mk [] [] 0 0)) (Exit.normal) 19 [] [(0, AV.lst k (List.map Fm.row xs)), (1, AV.fn (Fn.func 68) [] [AV.eptr (Fm.row y) 0]), (7, vI l), (8, vI (IntKind.wrap IntKind.i64 (i + 1)))] (AS.mk [] [] 0 0) :=
  segB_ok (ds := [(1, Tell.b true), (5, Tell.fr (AV.eptr (Fm.row x) 0)), (1, Tell.fr (vB (p x))), (0, Tell.b false), (2, Tell.b true)]) (cs := [decide (i < l) = true, frP (aindexAddr (Cfg.P cA) 22 (AV.lst k (List.map Fm.row xs)) (vI i)) (AV.eptr (Fm.row x) 0), ∀ (S : AS), Lw.call (lower cA (n + 60)) 68 [(Fm.av x), AV.eptr (Fm.row y) 0] S = some (vB (p x), S), p x = false, trimB 0 [AV.lst k (List.map Fm.row xs), AV.fn (Fn.func 68) [] [AV.eptr (Fm.row y) 0], vI l, vI (IntKind.wrap IntKind.i64 (i + 1))] [] [] 0 = true]) (ws := [0, 1, 7, 8]) (ds' := []) ha (fun g => by kernel_rfl) ⟨h0, (fr_of c1), c2, h3, (by simp [trimB, objOld, belowAll, belowRows, AV.old, Fm.row, Fm.av, Fm.belowRows_rows, Fm.belowRows_map, Nat.ble]), trivial⟩
theorem b83_68_3 (k : Cap) (xs : List Fm) (x : Fm) (p : Fm → Bool) (y : Fm) (i : Int) (l : Int) (n : Nat) (h0 : decide (i < l) = false) (a : AAct) (ha : In 19 [] [(0, AV.lst k (List.map Fm.row xs)), (1, AV.fn (Fn.func 68) [] [AV.eptr (Fm.row y) 0]), (7, vI l), (8, vI i)] a) : Seen (aBody cA 83 (codeAt (codeOf cA.P 83) [1, 0, 1, 0, 0]) 0 (aC cA (lower cA (n + 60)) (n + 60 + 1) 83 none (codeAt (codeOf cA.P 83) [1, 0, 1, 0, 0])) a (AS.mk [] [] 0 0)) (Exit.exit 0) 19 [] [(0, AV.lst k (List.map Fm.row xs)), (1, AV.fn (Fn.func 68) [] [AV.eptr (Fm.row y) 0]), (7, vI l), (8, vI i)] (AS.mk [] [] 0 0) :=
  segB_ok (ds := [(1, Tell.b false)]) (cs := [decide (i < l) = false]) (ws := [0, 1, 7, 8]) (ds' := []) ha (fun g => by kernel_rfl) ⟨h0, trivial⟩
theorem f83_68_1 (k : Cap) (xs : List Fm) (y : Fm) (r : Int) (n : Nat) (γ0 : AAct → Nat → AV) (l0 : LoopIs cA (lower cA (n + 60)) (n + 60 + 1) 83 none (codeAt (codeOf (Cfg.P cA) 83) [1, 0, 1, 0]) 19 [] [(0, AV.lst k (List.map Fm.row xs)), (1, AV.fn (Fn.func 68) [] [AV.eptr (Fm.row y) 0]), (7, vI (↑(List.length (List.map Fm.row xs)) : Int)), (8, vI (Int.ofNat 0))] (AS.mk [] [] 0 0) (Exit.exit 0) [] (AS.mk [] [] 0 0) γ0) : Path cA 83 [AV.lst k (List.map Fm.row xs), AV.fn (Fn.func 68) [] [AV.eptr (Fm.row y) 0]] (vI (Int.negSucc 0)) (n + 60) :=
  Path.of (ds := [(4, Tell.lp [0, 1, 7, 8] (Exit.exit 0) [] (AS.mk [] [] 0 0) γ0)]) (cs := [LoopIs cA (lower cA (n + 60)) (n + 60 + 1) 83 none (codeAt (codeOf (Cfg.P cA) 83) [1, 0, 1, 0]) 19 [] [(0, AV.lst k (List.map Fm.row xs)), (1, AV.fn (Fn.func 68) [] [AV.eptr (Fm.row y) 0]), (7, vI (↑(List.length (List.map Fm.row xs)) : Int)), (8, vI (Int.ofNat 0))] (AS.mk [] [] 0 0) (Exit.exit 0) [] (AS.mk [] [] 0 0) γ0]) (x := vI (Int.negSucc 0)) (S2 := AS.mk [] [] 0 0) (by kernel_rfl) ⟨l0, trivial⟩ rfl -- Exit.ret
theorem g83_68_1 (k : Cap) (xs : List Fm) (y : Fm) (r : Int) (n : Nat) (γ0 : AAct → Nat → AV) (l0 : LoopIs cA (lower cA (n + 60)) (n + 60 + 1) 83 none (codeAt (codeOf (Cfg.P cA) 83) [1, 0, 1, 0]) 19 [] [(0, AV.lst k (List.map Fm.row xs)), (1, AV.fn (Fn.func 68) [] [AV.eptr (Fm.row y) 0]), (7, vI (↑(List.length (List.map Fm.row xs)) : Int)), (8, vI (Int.ofNat 0))] (AS.mk [] [] 0 0) Exit.ret [(4, vI r)] (AS.mk [] [] 0 0) γ0) : Path cA 83 [AV.lst k (List.map Fm.row xs), AV.fn (Fn.func 68) [] [AV.eptr (Fm.row y) 0]] (vI r) (n + 60) :=
  Path.of (ds := [(4, Tell.lp [0, 1, 7, 8] Exit.ret [(4, vI r)] (AS.mk [] [] 0 0) γ0)]) (cs := [LoopIs cA (lower cA (n + 60)) (n + 60 + 1) 83 none (codeAt (codeOf (Cfg.P cA) 83) [1, 0, 1, 0]) 19 [] [(0, AV.lst k (List.map Fm.row xs)), (1, AV.fn (Fn.func 68) [] [AV.eptr (Fm.row y) 0]), (7, vI (↑(List.length (List.map Fm.row xs)) : Int)), (8, vI (Int.ofNat 0))] (AS.mk [] [] 0 0) Exit.ret [(4, vI r)] (AS.mk [] [] 0 0) γ0]) (x := vI r) (S2 := AS.mk [] [] 0 0) (by kernel_rfl) ⟨l0, trivial⟩ rfl -- Exit.ret
theorem f22_68_1 (k : Cap) (xs : List Fm) (y : Fm) (r : Int) (n : Nat) (c0 : ∀ (S : AS), Lw.call (lower cA (n + 60)) 83 [AV.lst k (List.map Fm.row xs), AV.fn (Fn.func 68) [] [AV.eptr (Fm.row y) 0]] S = some (vI r, S)) : Path cA 22 [AV.lst k (List.map Fm.row xs), AV.fn (Fn.func 68) [] [AV.eptr (Fm.row y) 0]] (vB (decide (r ≥ 0))) (n + 60) :=
  Path.of (ds := [(3, Tell.fr (vI r))]) (cs := [∀ (S : AS), Lw.call (lower cA (n + 60)) 83 [AV.lst k (List.map Fm.row xs), AV.fn (Fn.func 68) [] [AV.eptr (Fm.row y) 0]] S = some (vI r, S)]) (x := vB (decide (r ≥ 0))) (S2 := AS.mk [] [] 0 0) (by kernel_rfl) ⟨c0, trivial⟩ rfl -- Exit.ret
theorem b83_104_1 (k : Cap) (xs : List Fm) (x : Fm) (p : Fm → Bool) (ks : List Fm) (m : Int) (c : Int) (fe : Bool) (q : Int) (i : Int) (l : Int) (n : Nat) (h0 : decide (i < l) = true) (c1 : aindexAddr (Cfg.P cA) 22 (AV.lst k (List.map Fm.row xs)) (vI i) = some (AV.eptr (Fm.row x) 0)) (c2 : ∀ (S : AS), Lw.call (lower cA (n + 60)) 104 [(Fm.av x), AV.eptr (lkL ks m c fe) 0, AV.eptr [vI q] 0] S = some (vB (p x), S)) (h3 : p x = true) (a : AAct) (ha : In 19 [] [(0, AV.lst k (List.map Fm.row xs)), (1, AV.fn (Fn.func 104) [] [AV.eptr (lkL ks m c fe) 0, AV.eptr [vI q] 0]), (7, vI l), (8, vI i)] a) : Seen (aBody cA 83 (codeAt (codeOf cA.P 83) [1, 0, 1, 0, 0]) 0 (aC cA (lower cA (n + 60)) (n + 60 + 1) 83 none (codeAt (codeOf cA.P 83) [1, 0, 1, 0, 0])) a (AS.mk [] [] 0 0)) (Exit.ret) 19 [] [(0, AV.lst k (List.map Fm.row xs)), (1, AV.fn (Fn.func 104) [] [AV.eptr (lkL ks m c fe) 0, AV.eptr [vI q] 0]), (4, vI i), (7, vI l), (8, vI i)] (AS.mk [] [] 0 0) :=
  segB_ok (ds := [(1, Tell.b true), (5, Tell.fr (AV.eptr (Fm.row x) 0)), (1, Tell.fr (vB (p x))), (0, Tell.b true)]) (cs := [decide (i < l) = true, frP (aindexAddr (Cfg.P cA) 22 (AV.lst k (List.map Fm.row xs)) (vI i)) (AV.eptr (Fm.row x) 0), ∀ (S : AS), Lw.call (lower cA (n + 60)) 104 [(Fm.av x), AV.eptr (lkL ks m c fe) 0, AV.eptr [vI q] 0] S = some (vB (p x), S), p x = true]) (ws := [0, 1, 4, 7, 8]) (ds' := []) ha (fun g => by kernel_rfl) ⟨h0, (fr_of c1), c2, h3, trivial⟩
theorem b83_104_2 (k : Cap) (xs : List Fm) (x : Fm) (p : Fm → Bool) (ks : List Fm) (m : Int) (c : Int) (fe : Bool) (q : Int) (i : Int) (l : Int) (n : Nat) (h0 : decide (i < l) = true) (c1 : aindexAddr (Cfg.P cA) 22 (AV.lst k (List.map Fm.row xs)) (vI i) = some (AV.eptr (Fm.row x) 0)) (c2 : ∀ (S : AS), Lw.call (lower cA (n + 60)) 104 [(Fm.av x), AV.eptr (lkL ks m c fe) 0, AV.eptr [vI q] 0] S = some (vB (p x), S)) (h3 : p x = false) (a : AAct) (ha : In 19 [] [(0, AV.lst k (List.map Fm.row xs)), (1, AV.fn (Fn.func 104) [] [AV.eptr (lkL ks m c fe) 0, AV.eptr [vI q] 0]), (7, vI l), (8, vI i)] a) : Seen (aBody cA 83 (codeAt (codeOf cA.P 83) [1, 0, 1, 0, 0]) 0 (aC cA (lower cA (n + 60)) (n + 60 + 1) 83 none (codeAt (codeOf cA.P 83) [1, 0, 1, 0, 0])) a (AS.mk [] [] 0 0)) (Exit.normal) 19 [] [(0, AV.lst k (List.map Fm.row xs)), (1, AV.fn (Fn.func 104) [] [AV.eptr (lkL ks m c fe) 0, AV.eptr [vI q] 0]), (7, vI l), (8, vI (IntKind.wrap IntKind.i64 (i + 1)))] (AS.mk [] [] 0 0) :=
  segB_ok (ds := [(1, Tell.b true), (5, Tell.fr (AV.eptr (Fm.row x) 0)), (1, Tell.fr (vB (p x))), (0, Tell.b false), (2, Tell.b true)]) (cs := [decide (i < l) = true, frP (aindexAddr (Cfg.P cA) 22 (AV.lst k (List.map Fm.row xs)) (vI i)) (AV.eptr (Fm.row x) 0), ∀ (S : AS), Lw.call (lower cA (n + 60)) 104 [(Fm.av x), AV.eptr (lkL ks m c fe) 0, AV.eptr [vI q] 0] S = some (vB (p x), S), p x = false, trimB 0 [AV.lst k (List.map Fm.row xs), AV.fn (Fn.func 104) [] [AV.eptr (lkL ks m c fe) 0, AV.eptr [vI q] 0], vI l, vI (IntKind.wrap IntKind.i64 (i + 1))] [] [] 0 = true]) (ws := [0, 1, 7, 8]) (ds' := []) ha (fun g => by kernel_rfl) ⟨h0, (fr_of c1), c2, h3, (by simp [trimB, objOld, belowAll, belowRows, AV.old, Fm.row, Fm.av, Fm.belowRows_rows, Fm.belowRows_map, Nat.ble]), trivial⟩
theorem b83_104_3 (k : Cap) (xs : List Fm) (x : Fm) (p : Fm → Bool) (ks : List Fm) (m : Int) (c : Int) (fe : Bool) (q : Int) (i : Int) (l : Int) (n : Nat) (h0 : decide (i < l) = false) (a : AAct) (ha : In 19 [] [(0, AV.lst k (List.map Fm.row xs)), (1, AV.fn (Fn.func 104) [] [AV.eptr (lkL ks m c fe) 0, AV.eptr [vI q] 0]), (7, vI l), (8, vI i)] a) : Seen (aBody cA 83 (codeAt (codeOf cA.P 83) [1, 0, 1, 0, 0]) 0 (aC cA (lower cA (n + 60)) (n + 60 + 1) 83 none (codeAt (codeOf cA.P 83) [1, 0, 1, 0, 0])) a (AS.mk [] [] 0 0)) (Exit.exit 0) 19 [] [(0, AV.lst k (List.map Fm.row xs)), (1, AV.fn (Fn.func 104) [] [AV.eptr (lkL ks m c fe) 0, AV.eptr [vI q] 0]), (7, vI l), (8, vI i)] (AS.mk [] [] 0 0) :=
  segB_ok (ds := [(1, Tell.b false)]) (cs := [decide (i < l) = false]) (ws := [0, 1, 7, 8]) (ds' := []) ha (fun g => by kernel_rfl) ⟨h0, trivial⟩
theorem f83_104_1 (k : Cap) (xs : List Fm) (ks : List Fm) (m : Int) (c : Int) (fe : Bool) (q : Int) (r : Int) (n : Nat) (γ0 : AAct → Nat → AV) (l0 : LoopIs cA (lower cA (n + 60)) (n + 60 + 1) 83 none (codeAt (codeOf (Cfg.P cA) 83) [1, 0, 1, 0]) 19 [] [(0, AV.lst k (List.map Fm.row xs)), (1, AV.fn (Fn.func 104) [] [AV.eptr (lkL ks m c fe) 0, AV.eptr [vI q] 0]), (7, vI (↑(List.length (List.map Fm.row xs)) : Int)), (8, vI (Int.ofNat 0))] (AS.mk [] [] 0 0) (Exit.exit 0) [] (AS.mk [] [] 0 0) γ0) : Path cA 83 [AV.lst k (List.map Fm.row xs), AV.fn (Fn.func 104) [] [AV.eptr (lkL ks m c fe) 0, AV.eptr [vI q] 0]] (vI (Int.negSucc 0)) (n + 60) :=
  Path.of (ds := [(4, Tell.lp [0, 1, 7, 8] (Exit.exit 0) [] (AS.mk [] [] 0 0) γ0)]) (cs := [LoopIs cA (lower cA (n + 60)) (n + 60 + 1) 83 none (codeAt (codeOf (Cfg.P cA) 83) [1, 0, 1, 0]) 19 [] [(0, AV.lst k (List.map Fm.row xs)), (1, AV.fn (Fn.func 104) [] [AV.eptr (lkL ks m c fe) 0, AV.eptr [vI q] 0]), (7, vI (↑(List.length (List.map Fm.row xs)) : Int)), (8, vI (Int.ofNat 0))] (AS.mk [] [] 0 0) (Exit.exit 0) [] (AS.mk [] [] 0 0) γ0]) (x := vI (Int.negSucc 0)) (S2 := AS.mk [] [] 0 0) (by kernel_rfl) ⟨l0, trivial⟩ rfl -- Exit.ret
theorem g83_104_1 (k : Cap) (xs : List Fm) (ks : List Fm) (m : Int) (c : Int) (fe : Bool) (q : Int) (r : Int) (n : Nat) (γ0 : AAct → Nat → AV) (l0 : LoopIs cA (lower cA (n + 60)) (n + 60 + 1) 83 none (codeAt (codeOf (Cfg.P cA) 83) [1, 0, 1, 0]) 19 [] [(0, AV.lst k (List.map Fm.row xs)), (1, AV.fn (Fn.func 104) [] [AV.eptr (lkL ks m c fe) 0, AV.eptr [vI q] 0]), (7, vI (↑(List.length (List.map Fm.row xs)) : Int)), (8, vI (Int.ofNat 0))] (AS.mk [] [] 0 0) Exit.ret [(4, vI r)] (AS.mk [] [] 0 0) γ0) : Path cA 83 [AV.lst k (List.map Fm.row xs), AV.fn (Fn.func 104) [] [AV.eptr (lkL ks m c fe) 0, AV.eptr [vI q] 0]] (vI r) (n + 60) :=
  Path.of (ds := [(4, Tell.lp [0, 1, 7, 8] Exit.ret [(4, vI r)] (AS.mk [] [] 0 0) γ0)]) (cs := [LoopIs cA (lower cA (n + 60)) (n + 60 + 1) 83 none (codeAt (codeOf (Cfg.P cA) 83) [1, 0, 1, 0]) 19 [] [(0, AV.lst k (List.map Fm.row xs)), (1, AV.fn (Fn.func 104) [] [AV.eptr (lkL ks m c fe) 0, AV.eptr [vI q] 0]), (7, vI (↑(List.length (List.map Fm.row xs)) : Int)), (8, vI (Int.ofNat 0))] (AS.mk [] [] 0 0) Exit.ret [(4, vI r)] (AS.mk [] [] 0 0) γ0]) (x := vI r) (S2 := AS.mk [] [] 0 0) (by kernel_rfl) ⟨l0, trivial⟩ rfl -- Exit.ret
theorem f22_104_1 (k : Cap) (xs : List Fm) (ks : List Fm) (m : Int) (c : Int) (fe : Bool) (q : Int) (r : Int) (n : Nat) (c0 : ∀ (S : AS), Lw.call (lower cA (n + 60)) 83 [AV.lst k (List.map Fm.row xs), AV.fn (Fn.func 104) [] [AV.eptr (lkL ks m c fe) 0, AV.eptr [vI q] 0]] S = some (vI r, S)) : Path cA 22 [AV.lst k (List.map Fm.row xs), AV.fn (Fn.func 104) [] [AV.eptr (lkL ks m c fe) 0, AV.eptr [vI q] 0]] (vB (decide (r ≥ 0))) (n + 60) :=
  Path.of (ds := [(3, Tell.fr (vI r))]) (cs := [∀ (S : AS), Lw.call (lower cA (n + 60)) 83 [AV.lst k (List.map Fm.row xs), AV.fn (Fn.func 104) [] [AV.eptr (lkL ks m c fe) 0, AV.eptr [vI q] 0]] S = some (vI r, S)]) (x := vB (decide (r ≥ 0))) (S2 := AS.mk [] [] 0 0) (by kernel_rfl) ⟨c0, trivial⟩ rfl -- Exit.ret
theorem b83_66_1 (k : Cap) (xs : List Fm) (x : Fm) (p : Fm → Bool) (i : Int) (l : Int) (n : Nat) (h0 : decide (i < l) = true) (c1 : aindexAddr (Cfg.P cA) 22 (AV.lst k (List.map Fm.row xs)) (vI i) = some (AV.eptr (Fm.row x) 0)) (c2 : ∀ (S : AS), Lw.call (lower cA (n + 60)) 66 [(Fm.av x)] S = some (vB (p x), S)) (h3 : p x = true) (a : AAct) (ha : In 19 [] [(0, AV.lst k (List.map Fm.row xs)), (1, AV.fn (Fn.func 66) [] []), (7, vI l), (8, vI i)] a) : Seen (aBody cA 83 (codeAt (codeOf cA.P 83) [1, 0, 1, 0, 0]) 0 (aC cA (lower cA (n + 60)) (n + 60 + 1) 83 none (codeAt (codeOf cA.P 83) [1, 0, 1, 0, 0])) a (AS.mk [] [] 0 0)) (Exit.ret) 19 [] [(0, AV.lst k (List.map Fm.row xs)), (1, AV.fn (Fn.func 66) [] []), (4, vI i), (7, vI l), (8, vI i)] (AS.mk [] [] 0 0) :=
  segB_ok (ds := [(1, Tell.b true), (5, Tell.fr (AV.eptr (Fm.row x) 0)), (1, Tell.fr (vB (p x))), (0, Tell.b true)]) (cs := [decide (i < l) = true, frP (aindexAddr (Cfg.P cA) 22 (AV.lst k (List.map Fm.row xs)) (vI i)) (AV.eptr (Fm.row x) 0), ∀ (S : AS), Lw.call (lower cA (n + 60)) 66 [(Fm.av x)] S = some (vB (p x), S), p x = true]) (ws := [0, 1, 4, 7, 8]) (ds' := []) ha (fun g => by kernel_rfl) ⟨h0, (fr_of c1), c2, h3, trivial⟩
theorem b83_66_2 (k : Cap) (xs : List Fm) (x : Fm) (p : Fm → Bool) (i : Int) (l : Int) (n : Nat) (h0 : decide (i < l) = true) (c1 : aindexAddr (Cfg.P cA) 22 (AV.lst k (List.map Fm.row xs)) (vI i) = some (AV.eptr (Fm.row x) 0)) (c2 : ∀ (S : AS), Lw.call (lower cA (n + 60)) 66 [(Fm.av x)] S = some (vB (p x), S)) (h3 : p x = false) (a : AAct) (ha : In 19 [] [(0, AV.lst k (List.map Fm.row xs)), (1, AV.fn (Fn.func 66) [] []), (7, vI l), (8, vI i)] a) : Seen (aBody cA 83 (codeAt (codeOf cA.P 83) [1, 0, 1, 0, 0]) 0 (aC cA (lower cA (n + 60)) (n + 60 + 1) 83 none (codeAt (codeOf cA.P 83) [1, 0, 1, 0, 0])) a (AS.mk [] [] 0 0)) (Exit.normal) 19 [] [(0, AV.lst k (List.map Fm.row xs)), (1, AV.fn (Fn.func 66) [] []), (7, vI l), (8, vI (IntKind.wrap IntKind.i64 (i + 1)))] (AS.mk [] [] 0 0) :=
  segB_ok (ds := [(1, Tell.b true), (5, Tell.fr (AV.eptr (Fm.row x) 0)), (1, Tell.fr (vB (p x))), (0, Tell.b false), (2, Tell.b true)]) (cs := [decide (i < l) = true, frP (aindexAddr (Cfg.P cA) 22 (AV.lst k (List.map Fm.row xs)) (vI i)) (AV.eptr (Fm.row x) 0), ∀ (S : AS), Lw.call (lower cA (n + 60)) 66 [(Fm.av x)] S = some (vB (p x), S), p x = false, trimB 0 [AV.lst k (List.map Fm.row xs), AV.fn (Fn.func 66) [] [], vI l, vI (IntKind.wrap IntKind.i64 (i + 1))] [] [] 0 = true]) (ws := [0, 1, 7, 8]) (ds' := []) ha (fun g => by kernel_rfl) ⟨h0, (fr_of c1), c2, h3, (by simp [trimB, objOld, belowAll, belowRows, AV.old, Fm.row, Fm.av, Fm.belowRows_rows, Fm.belowRows_map, Nat.ble]), trivial⟩
theorem b83_66_3 (k : Cap) (xs : List Fm) (x : Fm) (p : Fm → Bool) (i : Int) (l : Int) (n : Nat) (h0 : decide (i < l) = false) (a : AAct) (ha : In 19 [] [(0, AV.lst k (List.map Fm.row xs)), (1, AV.fn (Fn.func 66) [] []), (7, vI l), (8, vI i)] a) : Seen (aBody cA 83 (codeAt (codeOf cA.P 83) [1, 0, 1, 0, 0]) 0 (aC cA (lower cA (n + 60)) (n + 60 + 1) 83 none (codeAt (codeOf cA.P 83) [1, 0, 1, 0, 0])) a (AS.mk [] [] 0 0)) (Exit.exit 0) 19 [] [(0, AV.lst k (List.map Fm.row xs)), (1, AV.fn (Fn.func 66) [] []), (7, vI l), (8, vI i)] (AS.mk [] [] 0 0) :=
  segB_ok (ds := [(1, Tell.b false)]) (cs := [decide (i < l) = false]) (ws := [0, 1, 7, 8]) (ds' := []) ha (fun g => by kernel_rfl) ⟨h0, trivial⟩
theorem f83_66_1 (k : Cap) (xs : List Fm) (r : Int) (n : Nat) (γ0 : AAct → Nat → AV) (l0 : LoopIs cA (lower cA (n + 60)) (n + 60 + 1) 83 none (codeAt (codeOf (Cfg.P cA) 83) [1, 0, 1, 0]) 19 [] [(0, AV.lst k (List.map Fm.row xs)), (1, AV.fn (Fn.func 66) [] []), (7, vI (↑(List.length (List.map Fm.row xs)) : Int)), (8, vI (Int.ofNat 0))] (AS.mk [] [] 0 0) (Exit.exit 0) [] (AS.mk [] [] 0 0) γ0) : Path cA 83 [AV.lst k (List.map Fm.row xs), AV.fn (Fn.func 66) [] []] (vI (Int.negSucc 0)) (n + 60) :=
  Path.of (ds := [(4, Tell.lp [0, 1, 7, 8] (Exit.exit 0) [] (AS.mk [] [] 0 0) γ0)]) (cs := [LoopIs cA (lower cA (n + 60)) (n + 60 + 1) 83 none (codeAt (codeOf (Cfg.P cA) 83) [1, 0, 1, 0]) 19 [] [(0, AV.lst k (List.map Fm.row xs)), (1, AV.fn (Fn.func 66) [] []), (7, vI (↑(List.length (List.map Fm.row xs)) : Int)), (8, vI (Int.ofNat 0))] (AS.mk [] [] 0 0) (Exit.exit 0) [] (AS.mk [] [] 0 0) γ0]) (x := vI (Int.negSucc 0)) (S2 := AS.mk [] [] 0 0) (by kernel_rfl) ⟨l0, trivial⟩ rfl -- Exit.ret
theorem g83_66_1 (k : Cap) (xs : List Fm) (r : Int) (n : Nat) (γ0 : AAct → Nat → AV) (l0 : LoopIs cA (lower cA (n + 60)) (n + 60 + 1) 83 none (codeAt (codeOf (Cfg.P cA) 83) [1, 0, 1, 0]) 19 [] [(0, AV.lst k (List.map Fm.row xs)), (1, AV.fn (Fn.func 66) [] []), (7, vI (↑(List.length (List.map Fm.row xs)) : Int)), (8, vI (Int.ofNat 0))] (AS.mk [] [] 0 0) Exit.ret [(4, vI r)] (AS.mk [] [] 0 0) γ0) : Path cA 83 [AV.lst k (List.map Fm.row xs), AV.fn (Fn.func 66) [] []] (vI r) (n + 60) :=
  Path.of (ds := [(4, Tell.lp [0, 1, 7, 8] Exit.ret [(4, vI r)] (AS.mk [] [] 0 0) γ0)]) (cs := [LoopIs cA (lower cA (n + 60)) (n + 60 + 1) 83 none (codeAt (codeOf (Cfg.P cA) 83) [1, 0, 1, 0]) 19 [] [(0, AV.lst k (List.map Fm.row xs)), (1, AV.fn (Fn.func 66) [] []), (7, vI (↑(List.length (List.map Fm.row xs)) : Int)), (8, vI (Int.ofNat 0))] (AS.mk [] [] 0 0) Exit.ret [(4, vI r)] (AS.mk [] [] 0 0) γ0]) (x := vI r) (S2 := AS.mk [] [] 0 0) (by kernel_rfl) ⟨l0, trivial⟩ rfl -- Exit.ret
theorem c64_1 (x : Fm) (y : Fm) (r : Bool) (n : Nat) (c0 : ∀ (S : AS), Lw.call (lower cA (n + 60)) 24 [(Fm.av x), (Fm.av y)] S = some (AV.v (Value.bool r), S)) : Path cA 64 [(Fm.av x), AV.eptr (Fm.row y) 0] (AV.v (Value.bool r)) (n + 60) :=
  Path.of (ds := [(4, Tell.fr (AV.v (Value.bool r)))]) (cs := [∀ (S : AS), Lw.call (lower cA (n + 60)) 24 [(Fm.av x), (Fm.av y)] S = some (AV.v (Value.bool r), S)]) (x := AV.v (Value.bool r)) (S2 := AS.mk [AObj.cells (Fm.row x) 27] [] 0 0) (by kernel_rfl) ⟨c0, trivial⟩ rfl -- Exit.ret
theorem c67_1 (x : Fm) (y : Fm) (r : Bool) (n : Nat) (c0 : ∀ (S : AS), Lw.call (lower cA (n + 60)) 24 [(Fm.av x), (Fm.av y)] S = some (AV.v (Value.bool r), S)) : Path cA 67 [(Fm.av x), AV.eptr (Fm.row y) 0] (AV.v (Value.bool r)) (n + 60) :=
  Path.of (ds := [(4, Tell.fr (AV.v (Value.bool r)))]) (cs := [∀ (S : AS), Lw.call (lower cA (n + 60)) 24 [(Fm.av x), (Fm.av y)] S = some (AV.v (Value.bool r), S)]) (x := AV.v (Value.bool r)) (S2 := AS.mk [AObj.cells (Fm.row x) 27] [] 0 0) (by kernel_rfl) ⟨c0, trivial⟩ rfl -- Exit.ret
theorem c68_1 (x : Fm) (y : Fm) (r : Bool) (n : Nat) (c0 : ∀ (S : AS), Lw.call (lower cA (n + 60)) 24 [(Fm.av x), (Fm.av y)] S = some (AV.v (Value.bool r), S)) : Path cA 68 [(Fm.av x), AV.eptr (Fm.row y) 0] (AV.v (Value.bool r)) (n + 60) :=
  Path.of (ds := [(4, Tell.fr (AV.v (Value.bool r)))]) (cs := [∀ (S : AS), Lw.call (lower cA (n + 60)) 24 [(Fm.av x), (Fm.av y)] S = some (AV.v (Value.bool r), S)]) (x := AV.v (Value.bool r)) (S2 := AS.mk [AObj.cells (Fm.row x) 27] [] 0 0) (by kernel_rfl) ⟨c0, trivial⟩ rfl -- Exit.ret
theorem c66_1 (x : Fm) (n : Nat) : Path cA 66 [(Fm.av x)] (AV.v (Value.bool (Fm.kind x == 7))) (n + 60) :=
  Path.of (ds := []) (cs := []) (x := AV.v (Value.bool (Fm.kind x == 7))) (S2 := AS.mk [AObj.cells (Fm.row x) 27] [] 0 0) (by kernel_rfl) trivial rfl -- Exit.ret
theorem c104_1 (x : Fm) (z : Fm) (ks : List Fm) (m : Int) (c : Int) (fe : Bool) (q : Int) (r : Bool) (n : Nat) (c0 : ∀ (S : AS), Lw.call (lower cA (n + 60)) 85 [] S = some (AV.agg [AV.fn (Fn.func 115) [] [], AV.fn (Fn.func 116) [] []], S)) (c1 : aindexAddr (Cfg.P cA) 22 (la ks) (vI q) = some (AV.eptr (Fm.row z) 0)) (c2 : ∀ (S : AS), Lw.call (lower cA (n + 60)) 115 [(Fm.av z), (Fm.av x)] S = some (vB r, S)) : Path cA 104 [(Fm.av x), AV.eptr (lkL ks m c fe) 0, AV.eptr [vI q] 0] (AV.v (Value.bool !r == false)) (n + 60) :=
  Path.of (ds := [(2, Tell.fr (AV.agg [AV.fn (Fn.func 115) [] [], AV.fn (Fn.func 116) [] []])), (7, Tell.fr (AV.eptr (Fm.row z) 0)), (2, Tell.fr (vB r))]) (cs := [∀ (S : AS), Lw.call (lower cA (n + 60)) 85 [] S = some (AV.agg [AV.fn (Fn.func 115) [] [], AV.fn (Fn.func 116) [] []], S), frP (aindexAddr (Cfg.P cA) 22 (la ks) (vI q)) (AV.eptr (Fm.row z) 0), ∀ (S : AS), Lw.call (lower cA (n + 60)) 115 [(Fm.av z), (Fm.av x)] S = some (vB r, S)]) (x := AV.v (Value.bool !r == false)) (S2 := AS.mk [AObj.cells (Fm.row x) 27] [] 0 0) (by kernel_rfl) ⟨c0, (fr_of c1), c2, trivial⟩ rfl -- Exit.ret


theorem Own.eptr {l k : List AV} {b : Nat} (h : Go.AM.Own l) (hk : Go.AM.Own k) : Go.AM.Own (.eptr l b :: k) := hk.cons (by simp only [AV.old, h.below]) (by simp only [AV.shut, h.same])
theorem own_row (x : Fm) : Go.AM.Own x.row := Own.v (Own.v (Own.v (by
  have := (Own.lst (c := .any) (xs := x.kids) rfl Own.nil : Go.AM.Own [.lst .any (x.kids.map Fm.row)])
  rw [← Fm.rows_eq] at this
  exact this)))
theorem Own.fnc {f : FuncId} {l k : List AV} (h : Go.AM.Own l) (hk : Go.AM.Own k) : Go.AM.Own (.fn (.func f) [] l :: k) := hk.cons (by simp only [AV.old, belowAll, h.below, Bool.and_self]) (by simp only [AV.shut, sealAll, h.same])


def m83_64 (y : Fm) (k : Cap) (xs : List Fm) (j : Nat) : List (Nat × AV) := [(0, .lst k (xs.map Fm.row)), (1, .fn (.func 64) [] [.eptr y.row 0]), (7, .v (.int .i64 (xs.length : Int))), (8, .v (.int .i64 (Int.ofNat j)))]
theorem lo83_64 (y : Fm) (k : Cap) (xs : List Fm) (p : Fm → Bool) (n : Nat) (hb : xs.length < 9223372036854775807) (hp : ∀ x, x ∈ xs → ∀ S, (lower cA (n + 60)).call 64 [x.av, .eptr y.row 0] S = some (.v (.bool (p x)), S)) : ∀ (d j K : Nat), xs.length - j = d → j ≤ xs.length → d < K →
    ∀ a, In 19 [] (m83_64 y k xs j) a →
      (idxOf p (xs.drop j) (Int.ofNat j) = -1 → Seen (aloop (aBody cA 83 (codeAt (codeOf cA.P 83) [1, 0, 1, 0, 0]) 0 (aC cA (lower cA (n + 60)) (n + 60 + 1) 83 none (codeAt (codeOf cA.P 83) [1, 0, 1, 0, 0]))) K a (AS.mk [] [] 0 0)) (.exit 0) 19 [] [] (AS.mk [] [] 0 0)) ∧
      (idxOf p (xs.drop j) (Int.ofNat j) ≠ -1 → Seen (aloop (aBody cA 83 (codeAt (codeOf cA.P 83) [1, 0, 1, 0, 0]) 0 (aC cA (lower cA (n + 60)) (n + 60 + 1) 83 none (codeAt (codeOf cA.P 83) [1, 0, 1, 0, 0]))) K a (AS.mk [] [] 0 0)) .ret 19 [] [(4, .v (.int .i64 (idxOf p (xs.drop j) (Int.ofNat j))))] (AS.mk [] [] 0 0)) := by
  intro d
  induction d with
  | zero =>
    intro j K hd hj hK a ha
    obtain ⟨K, rfl⟩ : ∃ m, K = m + 1 := ⟨K - 1, by omega⟩
    have hdrop : xs.drop j = [] := List.drop_of_length_le (by omega)
    rw [hdrop]
    refine ⟨fun _ => seen_stop (by simp) ?_, fun h => absurd rfl h⟩
    exact (b83_64_3 k xs (.mk 0 .empty .empty []) p y _ _ n (ltF (by omega)) a ha).weak fun _ _ => trivial
  | succ d ih =>
    intro j K hd hj hK a ha
    obtain ⟨K, rfl⟩ : ∃ m, K = m + 1 := ⟨K - 1, by omega⟩
    have hlt : j < xs.length := by omega
    have hdrop : xs.drop j = xs[j] :: xs.drop (j + 1) := List.drop_eq_getElem_cons hlt
    have hidx : aindexAddr cA.P 22 (.lst k (xs.map Fm.row)) (.v (.int .i64 (Int.ofNat j))) = some (.eptr xs[j].row 0) := idx22 (Fm.map_get (List.getElem?_eq_getElem hlt)) rfl
    have hcall := hp xs[j] (List.getElem_mem hlt)
    rw [hdrop]
    simp only [idxOf]
    cases hpj : p xs[j] with
    | true =>
      simp only [cond_true]
      refine ⟨fun h => by simp at h, fun _ => seen_stop (by simp) ?_⟩
      exact (b83_64_1 k xs xs[j] p y _ _ n (ltT hlt) hidx hcall hpj a ha).weak fun l h => ⟨h.2.2.1, trivial⟩
    | false =>
      simp only [cond_false]
      have step := b83_64_2 k xs xs[j] p y _ _ n (ltT hlt) hidx hcall hpj a ha
      rw [wrapS (by omega)] at step
      have hih := ih (j + 1) K (by omega) (by omega) (by omega)
      rw [show Int.ofNat j + 1 = Int.ofNat (j + 1) from rfl]
      exact ⟨fun h => seen_next step fun a' ha' => (hih a' ha').1 h, fun h => seen_next step fun a' ha' => (hih a' ha').2 h⟩

theorem coidx83_64 (y : Fm) (k : Cap) (xs : List Fm) (p : Fm → Bool) (hb : xs.length < 9223372036854775807) (hp : ∀ x, x ∈ xs → Fr cA 64 [x.av, .eptr y.row 0] (.v (.bool (p x)))) : Co cA 83 [.lst k (xs.map Fm.row), .fn (.func 64) [] [.eptr y.row 0]] (.v (.int .i64 (idxOf p xs 0))) := by
  refine Co.path (by kernel_rfl) ?_
  have hp' := Evt.unshift (Evt.mem xs fun x hx => hp x hx)
  refine Evt.shift ((hp'.and (Evt.big xs.length)).mono fun n hn => ?_)
  have hl : ((List.map Fm.row xs).length : Int) = (xs.length : Int) := by simp
  have L := fun a ha => lo83_64 y k xs p n hb hn.1 xs.length 0 (n + 60 + 1) (by omega) (by omega) (by omega) a ha
  simp only [List.drop_zero] at L
  by_cases h : idxOf p xs 0 = -1
  · obtain ⟨γ, hγ⟩ := LoopIs.of (C := cA) (c := codeAt (codeOf cA.P 83) [1, 0, 1, 0]) (k := n + 60 + 1) (hf := 83) (rd := none) (L := lower cA (n + 60)) (fun a ha => (L a ha).1 h)
    rw [h]
    refine f83_64_1 k xs y 0 n γ ?_
    rw [hl]; exact hγ
  · obtain ⟨γ, hγ⟩ := LoopIs.of (C := cA) (c := codeAt (codeOf cA.P 83) [1, 0, 1, 0]) (k := n + 60 + 1) (hf := 83) (rd := none) (L := lower cA (n + 60)) (fun a ha => (L a ha).2 h)
    refine g83_64_1 k xs y (idxOf p xs 0) n γ ?_
    rw [hl]; exact hγ
theorem idx83_64 (y : Fm) (k : Cap) (hk : untok k = k) (xs : List Fm) (p : Fm → Bool) (hb : xs.length < 9223372036854775807) (hp : ∀ x, x ∈ xs → Fr cA 64 [x.av, .eptr y.row 0] (.v (.bool (p x)))) : Fr cA 83 [.lst k (xs.map Fm.row), .fn (.func 64) [] [.eptr y.row 0]] (.v (.int .i64 (idxOf p xs 0))) :=
  Fr.of_co rfl (by kernel_rfl) (Own.lst hk (Own.fnc (Own.eptr (own_row y) Own.nil) Own.nil)) (coidx83_64 y k xs p hb hp)


theorem any22_64 (y : Fm) (k : Cap) (hk : untok k = k) (xs : List Fm) (p : Fm → Bool) (hb : xs.length < 9223372036854775807) (hp : ∀ x, x ∈ xs → Fr cA 64 [x.av, .eptr y.row 0] (.v (.bool (p x)))) : Co cA 22 [.lst k (xs.map Fm.row), .fn (.func 64) [] [.eptr y.row 0]] (.v (.bool (xs.any p))) := by
  refine Co.path (by kernel_rfl) ?_
  refine Evt.shift ((idx83_64 y k hk xs p hb hp).shift.mono fun n hn => ?_)
  rw [← idxOf_any p xs 0 (by omega)]
  exact f22_64_1 k xs y _ n hn


def m83_67 (y : Fm) (k : Cap) (xs : List Fm) (j : Nat) : List (Nat × AV) := [(0, .lst k (xs.map Fm.row)), (1, .fn (.func 67) [] [.eptr y.row 0]), (7, .v (.int .i64 (xs.length : Int))), (8, .v (.int .i64 (Int.ofNat j)))]
theorem lo83_67 (y : Fm) (k : Cap) (xs : List Fm) (p : Fm → Bool) (n : Nat) (hb : xs.length < 9223372036854775807) (hp : ∀ x, x ∈ xs → ∀ S, (lower cA (n + 60)).call 67 [x.av, .eptr y.row 0] S = some (.v (.bool (p x)), S)) : ∀ (d j K : Nat), xs.length - j = d → j ≤ xs.length → d < K →
    ∀ a, In 19 [] (m83_67 y k xs j) a →
      (idxOf p (xs.drop j) (Int.ofNat j) = -1 → Seen (aloop (aBody cA 83 (codeAt (codeOf cA.P 83) [1, 0, 1, 0, 0]) 0 (aC cA (lower cA (n + 60)) (n + 60 + 1) 83 none (codeAt (codeOf cA.P 83) [1, 0, 1, 0, 0]))) K a (AS.mk [] [] 0 0)) (.exit 0) 19 [] [] (AS.mk [] [] 0 0)) ∧
      (idxOf p (xs.drop j) (Int.ofNat j) ≠ -1 → Seen (aloop (aBody cA 83 (codeAt (codeOf cA.P 83) [1, 0, 1, 0, 0]) 0 (aC cA (lower cA (n + 60)) (n + 60 + 1) 83 none (codeAt (codeOf cA.P 83) [1, 0, 1, 0, 0]))) K a (AS.mk [] [] 0 0)) .ret 19 [] [(4, .v (.int .i64 (idxOf p (xs.drop j) (Int.ofNat j))))] (AS.mk [] [] 0 0)) := by
  intro d
  induction d with
  | zero =>
    intro j K hd hj hK a ha
    obtain ⟨K, rfl⟩ : ∃ m, K = m + 1 := ⟨K - 1, by omega⟩
    have hdrop : xs.drop j = [] := List.drop_of_length_le (by omega)
    rw [hdrop]
    refine ⟨fun _ => seen_stop (by simp) ?_, fun h => absurd rfl h⟩
    exact (b83_67_3 k xs (.mk 0 .empty .empty []) p y _ _ n (ltF (by omega)) a ha).weak fun _ _ => trivial
  | succ d ih =>
    intro j K hd hj hK a ha
    obtain ⟨K, rfl⟩ : ∃ m, K = m + 1 := ⟨K - 1, by omega⟩
    have hlt : j < xs.length := by omega
    have hdrop : xs.drop j = xs[j] :: xs.drop (j + 1) := List.drop_eq_getElem_cons hlt
    have hidx : aindexAddr cA.P 22 (.lst k (xs.map Fm.row)) (.v (.int .i64 (Int.ofNat j))) = some (.eptr xs[j].row 0) := idx22 (Fm.map_get (List.getElem?_eq_getElem hlt)) rfl
    have hcall := hp xs[j] (List.getElem_mem hlt)
    rw [hdrop]
    simp only [idxOf]
    cases hpj : p xs[j] with
    | true =>
      simp only [cond_true]
      refine ⟨fun h => by simp at h, fun _ => seen_stop (by simp) ?_⟩
      exact (b83_67_1 k xs xs[j] p y _ _ n (ltT hlt) hidx hcall hpj a ha).weak fun l h => ⟨h.2.2.1, trivial⟩
    | false =>
      simp only [cond_false]
      have step := b83_67_2 k xs xs[j] p y _ _ n (ltT hlt) hidx hcall hpj a ha
      rw [wrapS (by omega)] at step
      have hih := ih (j + 1) K (by omega) (by omega) (by omega)
      rw [show Int.ofNat j + 1 = Int.ofNat (j + 1) from rfl]
      exact ⟨fun h => seen_next step fun a' ha' => (hih a' ha').1 h, fun h => seen_next step fun a' ha' => (hih a' ha').2 h⟩

theorem coidx83_67 (y : Fm) (k : Cap) (xs : List Fm) (p : Fm → Bool) (hb : xs.length < 9223372036854775807) (hp : ∀ x, x ∈ xs → Fr cA 67 [x.av, .eptr y.row 0] (.v (.bool (p x)))) : Co cA 83 [.lst k (xs.map Fm.row), .fn (.func 67) [] [.eptr y.row 0]] (.v (.int .i64 (idxOf p xs 0))) := by
  refine Co.path (by kernel_rfl) ?_
  have hp' := Evt.unshift (Evt.mem xs fun x hx => hp x hx)
  refine Evt.shift ((hp'.and (Evt.big xs.length)).mono fun n hn => ?_)
  have hl : ((List.map Fm.row xs).length : Int) = (xs.length : Int) := by simp
  have L := fun a ha => lo83_67 y k xs p n hb hn.1 xs.length 0 (n + 60 + 1) (by omega) (by omega) (by omega) a ha
  simp only [List.drop_zero] at L
  by_cases h : idxOf p xs 0 = -1
  · obtain ⟨γ, hγ⟩ := LoopIs.of (C := cA) (c := codeAt (codeOf cA.P 83) [1, 0, 1, 0]) (k := n + 60 + 1) (hf := 83) (rd := none) (L := lower cA (n + 60)) (fun a ha => (L a ha).1 h)
    rw [h]
    refine f83_67_1 k xs y 0 n γ ?_
    rw [hl]; exact hγ
  · obtain ⟨γ, hγ⟩ := LoopIs.of (C := cA) (c := codeAt (codeOf cA.P 83) [1, 0, 1, 0]) (k := n + 60 + 1) (hf := 83) (rd := none) (L := lower cA (n + 60)) (fun a ha => (L a ha).2 h)
    refine g83_67_1 k xs y (idxOf p xs 0) n γ ?_
    rw [hl]; exact hγ
theorem idx83_67 (y : Fm) (k : Cap) (hk : untok k = k) (xs : List Fm) (p : Fm → Bool) (hb : xs.length < 9223372036854775807) (hp : ∀ x, x ∈ xs → Fr cA 67 [x.av, .eptr y.row 0] (.v (.bool (p x)))) : Fr cA 83 [.lst k (xs.map Fm.row), .fn (.func 67) [] [.eptr y.row 0]] (.v (.int .i64 (idxOf p xs 0))) :=
  Fr.of_co rfl (by kernel_rfl) (Own.lst hk (Own.fnc (Own.eptr (own_row y) Own.nil) Own.nil)) (coidx83_67 y k xs p hb hp)


theorem any22_67 (y : Fm) (k : Cap) (hk : untok k = k) (xs : List Fm) (p : Fm → Bool) (hb : xs.length < 9223372036854775807) (hp : ∀ x, x ∈ xs → Fr cA 67 [x.av, .eptr y.row 0] (.v (.bool (p x)))) : Co cA 22 [.lst k (xs.map Fm.row), .fn (.func 67) [] [.eptr y.row 0]] (.v (.bool (xs.any p))) := by
  refine Co.path (by kernel_rfl) ?_
  refine Evt.shift ((idx83_67 y k hk xs p hb hp).shift.mono fun n hn => ?_)
  rw [← idxOf_any p xs 0 (by omega)]
  exact f22_67_1 k xs y _ n hn


def m83_68 (y : Fm) (k : Cap) (xs : List Fm) (j : Nat) : List (Nat × AV) := [(0, .lst k (xs.map Fm.row)), (1, .fn (.func 68) [] [.eptr y.row 0]), (7, .v (.int .i64 (xs.length : Int))), (8, .v (.int .i64 (Int.ofNat j)))]
theorem lo83_68 (y : Fm) (k : Cap) (xs : List Fm) (p : Fm → Bool) (n : Nat) (hb : xs.length < 9223372036854775807) (hp : ∀ x, x ∈ xs → ∀ S, (lower cA (n + 60)).call 68 [x.av, .eptr y.row 0] S = some (.v (.bool (p x)), S)) : ∀ (d j K : Nat), xs.length - j = d → j ≤ xs.length → d < K →
    ∀ a, In 19 [] (m83_68 y k xs j) a →
      (idxOf p (xs.drop j) (Int.ofNat j) = -1 → Seen (aloop (aBody cA 83 (codeAt (codeOf cA.P 83) [1, 0, 1, 0, 0]) 0 (aC cA (lower cA (n + 60)) (n + 60 + 1) 83 none (codeAt (codeOf cA.P 83) [1, 0, 1, 0, 0]))) K a (AS.mk [] [] 0 0)) (.exit 0) 19 [] [] (AS.mk [] [] 0 0)) ∧
      (idxOf p (xs.drop j) (Int.ofNat j) ≠ -1 → Seen (aloop (aBody cA 83 (codeAt (codeOf cA.P 83) [1, 0, 1, 0, 0]) 0 (aC cA (lower cA (n + 60)) (n + 60 + 1) 83 none (codeAt (codeOf cA.P 83) [1, 0, 1, 0, 0]))) K a (AS.mk [] [] 0 0)) .ret 19 [] [(4, .v (.int .i64 (idxOf p (xs.drop j) (Int.ofNat j))))] (AS.mk [] [] 0 0)) := by
  intro d
  induction d with
  | zero =>
    intro j K hd hj hK a ha
    obtain ⟨K, rfl⟩ : ∃ m, K = m + 1 := ⟨K - 1, by omega⟩
    have hdrop : xs.drop j = [] := List.drop_of_length_le (by omega)
    rw [hdrop]
    refine ⟨fun _ => seen_stop (by simp) ?_, fun h => absurd rfl h⟩
    exact (b83_68_3 k xs (.mk 0 .empty .empty []) p y _ _ n (ltF (by omega)) a ha).weak fun _ _ => trivial
  | succ d ih =>
    intro j K hd hj hK a ha
    obtain ⟨K, rfl⟩ : ∃ m, K = m + 1 := ⟨K - 1, by omega⟩
    have hlt : j < xs.length := by omega
    have hdrop : xs.drop j = xs[j] :: xs.drop (j + 1) := List.drop_eq_getElem_cons hlt
    have hidx : aindexAddr cA.P 22 (.lst k (xs.map Fm.row)) (.v (.int .i64 (Int.ofNat j))) = some (.eptr xs[j].row 0) := idx22 (Fm.map_get (List.getElem?_eq_getElem hlt)) rfl
    have hcall := hp xs[j] (List.getElem_mem hlt)
    rw [hdrop]
    simp only [idxOf]
    cases hpj : p xs[j] with
    | true =>
      simp only [cond_true]
      refine ⟨fun h => by simp at h, fun _ => seen_stop (by simp) ?_⟩
      exact (b83_68_1 k xs xs[j] p y _ _ n (ltT hlt) hidx hcall hpj a ha).weak fun l h => ⟨h.2.2.1, trivial⟩
    | false =>
      simp only [cond_false]
      have step := b83_68_2 k xs xs[j] p y _ _ n (ltT hlt) hidx hcall hpj a ha
      rw [wrapS (by omega)] at step
      have hih := ih (j + 1) K (by omega) (by omega) (by omega)
      rw [show Int.ofNat j + 1 = Int.ofNat (j + 1) from rfl]
      exact ⟨fun h => seen_next step fun a' ha' => (hih a' ha').1 h, fun h => seen_next step fun a' ha' => (hih a' ha').2 h⟩

theorem coidx83_68 (y : Fm) (k : Cap) (xs : List Fm) (p : Fm → Bool) (hb : xs.length < 9223372036854775807) (hp : ∀ x, x ∈ xs → Fr cA 68 [x.av, .eptr y.row 0] (.v (.bool (p x)))) : Co cA 83 [.lst k (xs.map Fm.row), .fn (.func 68) [] [.eptr y.row 0]] (.v (.int .i64 (idxOf p xs 0))) := by
  refine Co.path (by kernel_rfl) ?_
  have hp' := Evt.unshift (Evt.mem xs fun x hx => hp x hx)
  refine Evt.shift ((hp'.and (Evt.big xs.length)).mono fun n hn => ?_)
  have hl : ((List.map Fm.row xs).length : Int) = (xs.length : Int) := by simp
  have L := fun a ha => lo83_68 y k xs p n hb hn.1 xs.length 0 (n + 60 + 1) (by omega) (by omega) (by omega) a ha
  simp only [List.drop_zero] at L
  by_cases h : idxOf p xs 0 = -1
  · obtain ⟨γ, hγ⟩ := LoopIs.of (C := cA) (c := codeAt (codeOf cA.P 83) [1, 0, 1, 0]) (k := n + 60 + 1) (hf := 83) (rd := none) (L := lower cA (n + 60)) (fun a ha => (L a ha).1 h)
    rw [h]
    refine f83_68_1 k xs y 0 n γ ?_
    rw [hl]; exact hγ
  · obtain ⟨γ, hγ⟩ := LoopIs.of (C := cA) (c := codeAt (codeOf cA.P 83) [1, 0, 1, 0]) (k := n + 60 + 1) (hf := 83) (rd := none) (L := lower cA (n + 60)) (fun a ha => (L a ha).2 h)
    refine g83_68_1 k xs y (idxOf p xs 0) n γ ?_
    rw [hl]; exact hγ
theorem idx83_68 (y : Fm) (k : Cap) (hk : untok k = k) (xs : List Fm) (p : Fm → Bool) (hb : xs.length < 9223372036854775807) (hp : ∀ x, x ∈ xs → Fr cA 68 [x.av, .eptr y.row 0] (.v (.bool (p x)))) : Fr cA 83 [.lst k (xs.map Fm.row), .fn (.func 68) [] [.eptr y.row 0]] (.v (.int .i64 (idxOf p xs 0))) :=
  Fr.of_co rfl (by kernel_rfl) (Own.lst hk (Own.fnc (Own.eptr (own_row y) Own.nil) Own.nil)) (coidx83_68 y k xs p hb hp)


theorem any22_68 (y : Fm) (k : Cap) (hk : untok k = k) (xs : List Fm) (p : Fm → Bool) (hb : xs.length < 9223372036854775807) (hp : ∀ x, x ∈ xs → Fr cA 68 [x.av, .eptr y.row 0] (.v (.bool (p x)))) : Co cA 22 [.lst k (xs.map Fm.row), .fn (.func 68) [] [.eptr y.row 0]] (.v (.bool (xs.any p))) := by
  refine Co.path (by kernel_rfl) ?_
  refine Evt.shift ((idx83_68 y k hk xs p hb hp).shift.mono fun n hn => ?_)
  rw [← idxOf_any p xs 0 (by omega)]
  exact f22_68_1 k xs y _ n hn


def m83_104 (ks : List Fm) (m c : Int) (fe : Bool) (q : Int) (k : Cap) (xs : List Fm) (j : Nat) : List (Nat × AV) := [(0, .lst k (xs.map Fm.row)), (1, .fn (.func 104) [] [.eptr (lkL ks m c fe) 0, .eptr [.v (.int .i64 q)] 0]), (7, .v (.int .i64 (xs.length : Int))), (8, .v (.int .i64 (Int.ofNat j)))]
theorem lo83_104 (ks : List Fm) (m c : Int) (fe : Bool) (q : Int) (k : Cap) (xs : List Fm) (p : Fm → Bool) (n : Nat) (hb : xs.length < 9223372036854775807) (hp : ∀ x, x ∈ xs → ∀ S, (lower cA (n + 60)).call 104 [x.av, .eptr (lkL ks m c fe) 0, .eptr [.v (.int .i64 q)] 0] S = some (.v (.bool (p x)), S)) : ∀ (d j K : Nat), xs.length - j = d → j ≤ xs.length → d < K →
    ∀ a, In 19 [] (m83_104 ks m c fe q k xs j) a →
      (idxOf p (xs.drop j) (Int.ofNat j) = -1 → Seen (aloop (aBody cA 83 (codeAt (codeOf cA.P 83) [1, 0, 1, 0, 0]) 0 (aC cA (lower cA (n + 60)) (n + 60 + 1) 83 none (codeAt (codeOf cA.P 83) [1, 0, 1, 0, 0]))) K a (AS.mk [] [] 0 0)) (.exit 0) 19 [] [] (AS.mk [] [] 0 0)) ∧
      (idxOf p (xs.drop j) (Int.ofNat j) ≠ -1 → Seen (aloop (aBody cA 83 (codeAt (codeOf cA.P 83) [1, 0, 1, 0, 0]) 0 (aC cA (lower cA (n + 60)) (n + 60 + 1) 83 none (codeAt (codeOf cA.P 83) [1, 0, 1, 0, 0]))) K a (AS.mk [] [] 0 0)) .ret 19 [] [(4, .v (.int .i64 (idxOf p (xs.drop j) (Int.ofNat j))))] (AS.mk [] [] 0 0)) := by
  intro d
  induction d with
  | zero =>
    intro j K hd hj hK a ha
    obtain ⟨K, rfl⟩ : ∃ m, K = m + 1 := ⟨K - 1, by omega⟩
    have hdrop : xs.drop j = [] := List.drop_of_length_le (by omega)
    rw [hdrop]
    refine ⟨fun _ => seen_stop (by simp) ?_, fun h => absurd rfl h⟩
    exact (b83_104_3 k xs (.mk 0 .empty .empty []) p ks m c fe q _ _ n (ltF (by omega)) a ha).weak fun _ _ => trivial
  | succ d ih =>
    intro j K hd hj hK a ha
    obtain ⟨K, rfl⟩ : ∃ m, K = m + 1 := ⟨K - 1, by omega⟩
    have hlt : j < xs.length := by omega
    have hdrop : xs.drop j = xs[j] :: xs.drop (j + 1) := List.drop_eq_getElem_cons hlt
    have hidx : aindexAddr cA.P 22 (.lst k (xs.map Fm.row)) (.v (.int .i64 (Int.ofNat j))) = some (.eptr xs[j].row 0) := idx22 (Fm.map_get (List.getElem?_eq_getElem hlt)) rfl
    have hcall := hp xs[j] (List.getElem_mem hlt)
    rw [hdrop]
    simp only [idxOf]
    cases hpj : p xs[j] with
    | true =>
      simp only [cond_true]
      refine ⟨fun h => by simp at h, fun _ => seen_stop (by simp) ?_⟩
      exact (b83_104_1 k xs xs[j] p ks m c fe q _ _ n (ltT hlt) hidx hcall hpj a ha).weak fun l h => ⟨h.2.2.1, trivial⟩
    | false =>
      simp only [cond_false]
      have step := b83_104_2 k xs xs[j] p ks m c fe q _ _ n (ltT hlt) hidx hcall hpj a ha
      rw [wrapS (by omega)] at step
      have hih := ih (j + 1) K (by omega) (by omega) (by omega)
      rw [show Int.ofNat j + 1 = Int.ofNat (j + 1) from rfl]
      exact ⟨fun h => seen_next step fun a' ha' => (hih a' ha').1 h, fun h => seen_next step fun a' ha' => (hih a' ha').2 h⟩

theorem coidx83_104 (ks : List Fm) (m c : Int) (fe : Bool) (q : Int) (k : Cap) (xs : List Fm) (p : Fm → Bool) (hb : xs.length < 9223372036854775807) (hp : ∀ x, x ∈ xs → Fr cA 104 [x.av, .eptr (lkL ks m c fe) 0, .eptr [.v (.int .i64 q)] 0] (.v (.bool (p x)))) : Co cA 83 [.lst k (xs.map Fm.row), .fn (.func 104) [] [.eptr (lkL ks m c fe) 0, .eptr [.v (.int .i64 q)] 0]] (.v (.int .i64 (idxOf p xs 0))) := by
  refine Co.path (by kernel_rfl) ?_
  have hp' := Evt.unshift (Evt.mem xs fun x hx => hp x hx)
  refine Evt.shift ((hp'.and (Evt.big xs.length)).mono fun n hn => ?_)
  have hl : ((List.map Fm.row xs).length : Int) = (xs.length : Int) := by simp
  have L := fun a ha => lo83_104 ks m c fe q k xs p n hb hn.1 xs.length 0 (n + 60 + 1) (by omega) (by omega) (by omega) a ha
  simp only [List.drop_zero] at L
  by_cases h : idxOf p xs 0 = -1
  · obtain ⟨γ, hγ⟩ := LoopIs.of (C := cA) (c := codeAt (codeOf cA.P 83) [1, 0, 1, 0]) (k := n + 60 + 1) (hf := 83) (rd := none) (L := lower cA (n + 60)) (fun a ha => (L a ha).1 h)
    rw [h]
    refine f83_104_1 k xs ks m c fe q 0 n γ ?_
    rw [hl]; exact hγ
  · obtain ⟨γ, hγ⟩ := LoopIs.of (C := cA) (c := codeAt (codeOf cA.P 83) [1, 0, 1, 0]) (k := n + 60 + 1) (hf := 83) (rd := none) (L := lower cA (n + 60)) (fun a ha => (L a ha).2 h)
    refine g83_104_1 k xs ks m c fe q (idxOf p xs 0) n γ ?_
    rw [hl]; exact hγ
theorem idx83_104 (ks : List Fm) (m c : Int) (fe : Bool) (q : Int) (k : Cap) (hk : untok k = k) (xs : List Fm) (p : Fm → Bool) (hb : xs.length < 9223372036854775807) (hp : ∀ x, x ∈ xs → Fr cA 104 [x.av, .eptr (lkL ks m c fe) 0, .eptr [.v (.int .i64 q)] 0] (.v (.bool (p x)))) : Fr cA 83 [.lst k (xs.map Fm.row), .fn (.func 104) [] [.eptr (lkL ks m c fe) 0, .eptr [.v (.int .i64 q)] 0]] (.v (.int .i64 (idxOf p xs 0))) :=
  Fr.of_co rfl (by kernel_rfl) (Own.lst hk (Own.fnc (Own.eptr (own_lk ks m c fe) (Own.eptr (Own.v Own.nil) Own.nil)) Own.nil)) (coidx83_104 ks m c fe q k xs p hb hp)


theorem any22_104 (ks : List Fm) (m c : Int) (fe : Bool) (q : Int) (k : Cap) (hk : untok k = k) (xs : List Fm) (p : Fm → Bool) (hb : xs.length < 9223372036854775807) (hp : ∀ x, x ∈ xs → Fr cA 104 [x.av, .eptr (lkL ks m c fe) 0, .eptr [.v (.int .i64 q)] 0] (.v (.bool (p x)))) : Co cA 22 [.lst k (xs.map Fm.row), .fn (.func 104) [] [.eptr (lkL ks m c fe) 0, .eptr [.v (.int .i64 q)] 0]] (.v (.bool (xs.any p))) := by
  refine Co.path (by kernel_rfl) ?_
  refine Evt.shift ((idx83_104 ks m c fe q k hk xs p hb hp).shift.mono fun n hn => ?_)
  rw [← idxOf_any p xs 0 (by omega)]
  exact f22_104_1 k xs ks m c fe q _ n hn


def m83_66  (k : Cap) (xs : List Fm) (j : Nat) : List (Nat × AV) := [(0, .lst k (xs.map Fm.row)), (1, .fn (.func 66) [] []), (7, .v (.int .i64 (xs.length : Int))), (8, .v (.int .i64 (Int.ofNat j)))]
theorem lo83_66  (k : Cap) (xs : List Fm) (p : Fm → Bool) (n : Nat) (hb : xs.length < 9223372036854775807) (hp : ∀ x, x ∈ xs → ∀ S, (lower cA (n + 60)).call 66 [x.av] S = some (.v (.bool (p x)), S)) : ∀ (d j K : Nat), xs.length - j = d → j ≤ xs.length → d < K →
    ∀ a, In 19 [] (m83_66  k xs j) a →
      (idxOf p (xs.drop j) (Int.ofNat j) = -1 → Seen (aloop (aBody cA 83 (codeAt (codeOf cA.P 83) [1, 0, 1, 0, 0]) 0 (aC cA (lower cA (n + 60)) (n + 60 + 1) 83 none (codeAt (codeOf cA.P 83) [1, 0, 1, 0, 0]))) K a (AS.mk [] [] 0 0)) (.exit 0) 19 [] [] (AS.mk [] [] 0 0)) ∧
      (idxOf p (xs.drop j) (Int.ofNat j) ≠ -1 → Seen (aloop (aBody cA 83 (codeAt (codeOf cA.P 83) [1, 0, 1, 0, 0]) 0 (aC cA (lower cA (n + 60)) (n + 60 + 1) 83 none (codeAt (codeOf cA.P 83) [1, 0, 1, 0, 0]))) K a (AS.mk [] [] 0 0)) .ret 19 [] [(4, .v (.int .i64 (idxOf p (xs.drop j) (Int.ofNat j))))] (AS.mk [] [] 0 0)) := by
  intro d
  induction d with
  | zero =>
    intro j K hd hj hK a ha
    obtain ⟨K, rfl⟩ : ∃ m, K = m + 1 := ⟨K - 1, by omega⟩
    have hdrop : xs.drop j = [] := List.drop_of_length_le (by omega)
    rw [hdrop]
    refine ⟨fun _ => seen_stop (by simp) ?_, fun h => absurd rfl h⟩
    exact (b83_66_3 k xs (.mk 0 .empty .empty []) p  _ _ n (ltF (by omega)) a ha).weak fun _ _ => trivial
  | succ d ih =>
    intro j K hd hj hK a ha
    obtain ⟨K, rfl⟩ : ∃ m, K = m + 1 := ⟨K - 1, by omega⟩
    have hlt : j < xs.length := by omega
    have hdrop : xs.drop j = xs[j] :: xs.drop (j + 1) := List.drop_eq_getElem_cons hlt
    have hidx : aindexAddr cA.P 22 (.lst k (xs.map Fm.row)) (.v (.int .i64 (Int.ofNat j))) = some (.eptr xs[j].row 0) := idx22 (Fm.map_get (List.getElem?_eq_getElem hlt)) rfl
    have hcall := hp xs[j] (List.getElem_mem hlt)
    rw [hdrop]
    simp only [idxOf]
    cases hpj : p xs[j] with
    | true =>
      simp only [cond_true]
      refine ⟨fun h => by simp at h, fun _ => seen_stop (by simp) ?_⟩
      exact (b83_66_1 k xs xs[j] p  _ _ n (ltT hlt) hidx hcall hpj a ha).weak fun l h => ⟨h.2.2.1, trivial⟩
    | false =>
      simp only [cond_false]
      have step := b83_66_2 k xs xs[j] p  _ _ n (ltT hlt) hidx hcall hpj a ha
      rw [wrapS (by omega)] at step
      have hih := ih (j + 1) K (by omega) (by omega) (by omega)
      rw [show Int.ofNat j + 1 = Int.ofNat (j + 1) from rfl]
      exact ⟨fun h => seen_next step fun a' ha' => (hih a' ha').1 h, fun h => seen_next step fun a' ha' => (hih a' ha').2 h⟩

theorem coidx83_66  (k : Cap) (xs : List Fm) (p : Fm → Bool) (hb : xs.length < 9223372036854775807) (hp : ∀ x, x ∈ xs → Fr cA 66 [x.av] (.v (.bool (p x)))) : Co cA 83 [.lst k (xs.map Fm.row), .fn (.func 66) [] []] (.v (.int .i64 (idxOf p xs 0))) := by
  refine Co.path (by kernel_rfl) ?_
  have hp' := Evt.unshift (Evt.mem xs fun x hx => hp x hx)
  refine Evt.shift ((hp'.and (Evt.big xs.length)).mono fun n hn => ?_)
  have hl : ((List.map Fm.row xs).length : Int) = (xs.length : Int) := by simp
  have L := fun a ha => lo83_66  k xs p n hb hn.1 xs.length 0 (n + 60 + 1) (by omega) (by omega) (by omega) a ha
  simp only [List.drop_zero] at L
  by_cases h : idxOf p xs 0 = -1
  · obtain ⟨γ, hγ⟩ := LoopIs.of (C := cA) (c := codeAt (codeOf cA.P 83) [1, 0, 1, 0]) (k := n + 60 + 1) (hf := 83) (rd := none) (L := lower cA (n + 60)) (fun a ha => (L a ha).1 h)
    rw [h]
    refine f83_66_1 k xs  0 n γ ?_
    rw [hl]; exact hγ
  · obtain ⟨γ, hγ⟩ := LoopIs.of (C := cA) (c := codeAt (codeOf cA.P 83) [1, 0, 1, 0]) (k := n + 60 + 1) (hf := 83) (rd := none) (L := lower cA (n + 60)) (fun a ha => (L a ha).2 h)
    refine g83_66_1 k xs  (idxOf p xs 0) n γ ?_
    rw [hl]; exact hγ
theorem idx83_66  (k : Cap) (hk : untok k = k) (xs : List Fm) (p : Fm → Bool) (hb : xs.length < 9223372036854775807) (hp : ∀ x, x ∈ xs → Fr cA 66 [x.av] (.v (.bool (p x)))) : Fr cA 83 [.lst k (xs.map Fm.row), .fn (.func 66) [] []] (.v (.int .i64 (idxOf p xs 0))) :=
  Fr.of_co rfl (by kernel_rfl) (Own.lst hk (Own.fun_ Own.nil)) (coidx83_66  k xs p hb hp)


theorem w24 (x : Fm) (hx : Fit x) (y : Fm) : Fr cA 24 [x.av, y.av] (.v (.bool (same x y))) := of_weak (C := cfg) (D := cA) rfl (by simp only [weakL, weak_av]) (same24 x hx y)

theorem clo64 (x y : Fm) (hx : Fit x) : Fr cA 64 [x.av, .eptr y.row 0] (.v (.bool (same x y))) :=
  Fr.of_co rfl (by kernel_rfl) (Own.fm (Own.eptr (own_row y) Own.nil)) (Co.path (by kernel_rfl) (Evt.shift ((w24 x hx y).shift.mono fun n hn => c64_1 x y _ n hn)))

theorem clo67 (x y : Fm) (hx : Fit x) : Fr cA 67 [x.av, .eptr y.row 0] (.v (.bool (same x y))) :=
  Fr.of_co rfl (by kernel_rfl) (Own.fm (Own.eptr (own_row y) Own.nil)) (Co.path (by kernel_rfl) (Evt.shift ((w24 x hx y).shift.mono fun n hn => c67_1 x y _ n hn)))

theorem clo68 (x y : Fm) (hx : Fit x) : Fr cA 68 [x.av, .eptr y.row 0] (.v (.bool (same x y))) :=
  Fr.of_co rfl (by kernel_rfl) (Own.fm (Own.eptr (own_row y) Own.nil)) (Co.path (by kernel_rfl) (Evt.shift ((w24 x hx y).shift.mono fun n hn => c68_1 x y _ n hn)))

theorem clo66 (x : Fm) : Fr cA 66 [x.av] (.v (.bool (x.kind == 7))) :=
  Fr.of_co rfl (by kernel_rfl) (Own.fm Own.nil) (Co.path (by kernel_rfl) (Evt.shift (Evt.of fun n => c66_1 x n)))
theorem clo104 (x z : Fm) (ks : List Fm) (m c : Int) (fe : Bool) (q : Nat) (hz : ks[q]? = some z) (fx : Flat x) (fz : Flat z) : Fr cA 104 [x.av, .eptr (lkL ks m c fe) 0, .eptr [.v (.int .i64 q)] 0] (.v (.bool (same z x))) := by
  refine Fr.of_co rfl (by kernel_rfl) (Own.fm (Own.eptr (own_lk ks m c fe) (Own.eptr (Own.v Own.nil) Own.nil))) (Co.path (by kernel_rfl) (Evt.shift ((w85.shift.and (w115 z x fz fx).shift).mono fun n hn => ?_)))
  have := c104_1 x z ks m c fe q (same z x) n hn.1 (idx22 (Fm.map_get hz) rfl) hn.2
  rw [show (!(same z x == false)) = same z x by cases same z x <;> rfl] at this
  exact this

end Go.Proofs.YtamemdhmjglifaaGreatDoor
