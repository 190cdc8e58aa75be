/- Chapter 12: lists that grow; the digits; the keys of a range. -/
import Derived.Test.YtamemdhmjglifaaGreatDoorPC
import Derived.Test.YtamemdhmjglifaaGreatDoorPE
namespace Go.Proofs.YtamemdhmjglifaaGreatDoor
open Go.RowKit Go.AM
set_option maxRecDepth 100000
set_option linter.unusedVariables false
theorem b63_1 (c : Cap) (bs : List (List AV)) (b : Int) (m : Int) (zs : List (List AV)) (ws : List (List AV)) (s : ByteArray) (k : Nat) (k1 : Nat) (i : Int) (n : Nat) (h0 : decide (i < m) = true) (c1 : aindexAddr (Cfg.P cfg) 34 (AV.lst c bs) (vI i) = some (AV.eptr [AV.v (Value.int IntKind.u8 b)] 0)) (c2 : aappend (Cfg.P cfg) false (AS.mk [] [k] 0 0) 22 (AV.lst (Cap.tok 0 k 4) zs) (AV.lst Cap.exact [[vI (Int.ofNat 2), vS (Utf8.encode (IntKind.wrap IntKind.i32 (48 + IntKind.wrap IntKind.i32 (Int.tmod (IntKind.wrap IntKind.i64 b) (Int.ofNat 5))))), vS (ByteArray.mk #[]), AV.v (Value.slice none 0 0)]]) = some (AV.lst (Cap.tok 0 k1 4) ws, AS.mk [] [k1] 0 0)) (a : AAct) (ha : In 27 [] [(1, vI (Int.ofNat 5)), (5, AV.lst (Cap.tok 0 k 4) zs), (8, AV.lst c bs), (9, vI m), (10, vI i)] a) : Seen (aBody cfg 63 (codeAt (codeOf cfg.P 63) [1, 1, 0, 1, 0, 0]) 0 (aC cfg (lower cfg (n + 60)) (n + 60 + 1) 63 none (codeAt (codeOf cfg.P 63) [1, 1, 0, 1, 0, 0])) a (AS.mk [] [k] 0 0)) (Exit.normal) 27 [] [(1, vI (Int.ofNat 5)), (5, AV.lst (Cap.tok 0 k1 4) ws), (8, AV.lst c bs), (9, vI m), (10, vI (IntKind.wrap IntKind.i64 (i + 1)))] (AS.mk [] [k1] 0 0) :=
  segB_ok (ds := [(1, Tell.b true), (0, Tell.fr (AV.eptr [AV.v (Value.int IntKind.u8 b)] 0)), (12, Tell.op (AV.lst (Cap.tok 0 k1 4) ws) (AS.mk [] [k1] 0 0))]) (cs := [decide (i < m) = true, frP (aindexAddr (Cfg.P cfg) 34 (AV.lst c bs) (vI i)) (AV.eptr [AV.v (Value.int IntKind.u8 b)] 0), aappend (Cfg.P cfg) false (AS.mk [] [k] 0 0) 22 (AV.lst (Cap.tok 0 k 4) zs) (AV.lst Cap.exact [[vI (Int.ofNat 2), vS (Utf8.encode (IntKind.wrap IntKind.i32 (48 + IntKind.wrap IntKind.i32 (Int.tmod (IntKind.wrap IntKind.i64 b) (Int.ofNat 5))))), vS (ByteArray.mk #[]), AV.v (Value.slice none 0 0)]]) = some (AV.lst (Cap.tok 0 k1 4) ws, AS.mk [] [k1] 0 0)]) (ws := [1, 5, 8, 9, 10]) (ds' := []) ha (fun g => by kernel_rfl) ⟨h0, (fr_of c1), c2, trivial⟩
theorem b63_2 (c : Cap) (bs : List (List AV)) (b : Int) (m : Int) (zs : List (List AV)) (ws : List (List AV)) (s : ByteArray) (k : Nat) (k1 : Nat) (i : Int) (n : Nat) (h0 : decide (i < m) = false) (a : AAct) (ha : In 27 [] [(1, vI (Int.ofNat 5)), (5, AV.lst (Cap.tok 0 k 4) zs), (8, AV.lst c bs), (9, vI m), (10, vI i)] a) : Seen (aBody cfg 63 (codeAt (codeOf cfg.P 63) [1, 1, 0, 1, 0, 0]) 0 (aC cfg (lower cfg (n + 60)) (n + 60 + 1) 63 none (codeAt (codeOf cfg.P 63) [1, 1, 0, 1, 0, 0])) a (AS.mk [] [k] 0 0)) (Exit.exit 0) 27 [] [(1, vI (Int.ofNat 5)), (5, AV.lst (Cap.tok 0 k 4) zs), (8, AV.lst c bs), (9, vI m), (10, vI i)] (AS.mk [] [k] 0 0) :=
  segB_ok (ds := [(1, Tell.b false)]) (cs := [decide (i < m) = false]) (ws := [1, 5, 8, 9, 10]) (ds' := []) ha (fun g => by kernel_rfl) ⟨h0, trivial⟩
theorem a63_1 (c : Cap) (bs : List (List AV)) (b : Int) (m : Int) (s : ByteArray) (i : Int) (n : Nat) (h0 : decide (i < m) = true) (c1 : aindexAddr (Cfg.P cfg) 34 (AV.lst c bs) (vI i) = some (AV.eptr [AV.v (Value.int IntKind.u8 b)] 0)) (a : AAct) (ha : In 27 [] [(1, vI (Int.ofNat 5)), (5, AV.v (Value.slice none 0 0)), (8, AV.lst c bs), (9, vI m), (10, vI i)] a) : Seen (aBody cfg 63 (codeAt (codeOf cfg.P 63) [1, 1, 0, 1, 0, 0]) 0 (aC cfg (lower cfg (n + 60)) (n + 60 + 1) 63 none (codeAt (codeOf cfg.P 63) [1, 1, 0, 1, 0, 0])) a (AS.mk [] [] 0 0)) (Exit.normal) 27 [] [(1, vI (Int.ofNat 5)), (5, AV.lst (Cap.tok 0 1 4) [[vI (Int.ofNat 2), vS (Utf8.encode (IntKind.wrap IntKind.i32 (48 + IntKind.wrap IntKind.i32 (Int.tmod (IntKind.wrap IntKind.i64 b) (Int.ofNat 5))))), vS (ByteArray.mk #[]), AV.v (Value.slice none 0 0)]]), (8, AV.lst c bs), (9, vI m), (10, vI (IntKind.wrap IntKind.i64 (i + 1)))] (AS.mk [] [1] 0 0) :=
  segB_ok (ds := [(1, Tell.b true), (0, Tell.fr (AV.eptr [AV.v (Value.int IntKind.u8 b)] 0))]) (cs := [decide (i < m) = true, frP (aindexAddr (Cfg.P cfg) 34 (AV.lst c bs) (vI i)) (AV.eptr [AV.v (Value.int IntKind.u8 b)] 0)]) (ws := [1, 5, 8, 9, 10]) (ds' := []) ha (fun g => by kernel_rfl) ⟨h0, (fr_of c1), trivial⟩
theorem a63_2 (c : Cap) (bs : List (List AV)) (b : Int) (m : Int) (s : ByteArray) (i : Int) (n : Nat) (h0 : decide (i < m) = false) (a : AAct) (ha : In 27 [] [(1, vI (Int.ofNat 5)), (5, AV.v (Value.slice none 0 0)), (8, AV.lst c bs), (9, vI m), (10, vI i)] a) : Seen (aBody cfg 63 (codeAt (codeOf cfg.P 63) [1, 1, 0, 1, 0, 0]) 0 (aC cfg (lower cfg (n + 60)) (n + 60 + 1) 63 none (codeAt (codeOf cfg.P 63) [1, 1, 0, 1, 0, 0])) a (AS.mk [] [] 0 0)) (Exit.exit 0) 27 [] [(1, vI (Int.ofNat 5)), (5, AV.v (Value.slice none 0 0)), (8, AV.lst c bs), (9, vI m), (10, vI i)] (AS.mk [] [] 0 0) :=
  segB_ok (ds := [(1, Tell.b false)]) (cs := [decide (i < m) = false]) (ws := [1, 5, 8, 9, 10]) (ds' := []) ha (fun g => by kernel_rfl) ⟨h0, trivial⟩
theorem f63_1 (c : Cap) (bs : List (List AV)) (v : AV) (es : List Nat) (n : Nat) (γ0 : AAct → Nat → AV) (l0 : LoopIs cfg (lower cfg (n + 60)) (n + 60 + 1) 63 none (codeAt (codeOf (Cfg.P cfg) 63) [1, 1, 0, 1, 0]) 27 [] [(1, vI (Int.ofNat 5)), (5, AV.v (Value.slice none 0 0)), (8, AV.lst c bs), (9, vI (↑(List.length bs) : Int)), (10, vI (Int.ofNat 0))] (AS.mk [] [] 0 0) (Exit.exit 0) [(5, v)] (AS.mk [] es 0 0) γ0) (y : AV) (hy : lend (AS.mk [] es 0 0) (v) = some y) : Path cfg 63 [AV.lst c bs, vI (Int.ofNat 5)] y (n + 60) :=
  Path.of (ds := [(5, Tell.lp [1, 5, 8, 9, 10] (Exit.exit 0) [(5, v)] (AS.mk [] es 0 0) γ0)]) (cs := [LoopIs cfg (lower cfg (n + 60)) (n + 60 + 1) 63 none (codeAt (codeOf (Cfg.P cfg) 63) [1, 1, 0, 1, 0]) 27 [] [(1, vI (Int.ofNat 5)), (5, AV.v (Value.slice none 0 0)), (8, AV.lst c bs), (9, vI (↑(List.length bs) : Int)), (10, vI (Int.ofNat 0))] (AS.mk [] [] 0 0) (Exit.exit 0) [(5, v)] (AS.mk [] es 0 0) γ0]) (x := v) (S2 := AS.mk [] es 0 0) (by kernel_rfl) ⟨l0, trivial⟩ hy -- Exit.ret

theorem f122_1 (x : Fm) (n : Nat) (y : AV) (hy : lend (AS.mk [AObj.cells (Fm.row x) 27, AObj.cells (Fm.row x) 27] [] 0 0) (AV.tup [(Fm.av x), AV.v (Value.int IntKind.i64 (Int.ofNat 0))]) = some y) : Path cfg 122 [(Fm.av x)] y (n + 60) :=
  Path.of (ds := []) (cs := []) (x := AV.tup [(Fm.av x), AV.v (Value.int IntKind.i64 (Int.ofNat 0))]) (S2 := AS.mk [AObj.cells (Fm.row x) 27, AObj.cells (Fm.row x) 27] [] 0 0) (by kernel_rfl) trivial hy -- Exit.ret
theorem a107_1 (xs : List Fm) (x : Fm) (m : Int) (i : Int) (n : Nat) (h0 : decide (i < m) = true) (c1 : aindexAddr (Cfg.P cfg) 22 (la xs) (vI i) = some (AV.eptr (Fm.row x) 0)) (c2 : ∀ (S : AS), Lw.call (lower cfg (n + 60)) 122 [(Fm.av x)] S = some (AV.tup [(Fm.av x), vI (Int.ofNat 0)], S)) (a : AAct) (ha : In 41 [] [(3, vI (Int.ofNat 0)), (10, AV.v (Value.slice none 0 0)), (18, la xs), (19, vI m), (20, vI i)] a) : Seen (aBody cfg 107 (codeAt (codeOf cfg.P 107) [1, 1, 0, 1, 0, 0]) 0 (aC cfg (lower cfg (n + 60)) (n + 60 + 1) 107 none (codeAt (codeOf cfg.P 107) [1, 1, 0, 1, 0, 0])) a (AS.mk [] [] 0 0)) (Exit.normal) 41 [] [(3, vI (Int.ofNat 0)), (10, AV.lst (Cap.tok 0 1 4) [(Fm.row x)]), (18, la xs), (19, vI m), (20, vI (IntKind.wrap IntKind.i64 (i + 1)))] (AS.mk [] [1] 0 0) :=
  segB_ok (ds := [(1, Tell.b true), (0, Tell.fr (AV.eptr (Fm.row x) 0)), (7, Tell.fr (AV.tup [(Fm.av x), vI (Int.ofNat 0)])), (16, Tell.b true)]) (cs := [decide (i < m) = true, frP (aindexAddr (Cfg.P cfg) 22 (la xs) (vI i)) (AV.eptr (Fm.row x) 0), ∀ (S : AS), Lw.call (lower cfg (n + 60)) 122 [(Fm.av x)] S = some (AV.tup [(Fm.av x), vI (Int.ofNat 0)], S), trimB 0 [vI (Int.ofNat 0), AV.lst (Cap.tok 0 1 4) [(Fm.row x)], la xs, vI m, vI (IntKind.wrap IntKind.i64 (i + 1))] [] [] 2 = true]) (ws := [3, 10, 18, 19, 20]) (ds' := []) ha (fun g => by kernel_rfl) ⟨h0, (fr_of c1), c2, (by simp [trimB, objOld, belowAll, belowRows, AV.old, Fm.row, Fm.av, Fm.belowRows_rows, Fm.belowRows_map, Nat.ble]), trivial⟩
theorem a107_2 (xs : List Fm) (x : Fm) (m : Int) (i : Int) (n : Nat) (h0 : decide (i < m) = false) (a : AAct) (ha : In 41 [] [(3, vI (Int.ofNat 0)), (10, AV.v (Value.slice none 0 0)), (18, la xs), (19, vI m), (20, vI i)] a) : Seen (aBody cfg 107 (codeAt (codeOf cfg.P 107) [1, 1, 0, 1, 0, 0]) 0 (aC cfg (lower cfg (n + 60)) (n + 60 + 1) 107 none (codeAt (codeOf cfg.P 107) [1, 1, 0, 1, 0, 0])) a (AS.mk [] [] 0 0)) (Exit.exit 0) 41 [] [(3, vI (Int.ofNat 0)), (10, AV.v (Value.slice none 0 0)), (18, la xs), (19, vI m), (20, vI i)] (AS.mk [] [] 0 0) :=
  segB_ok (ds := [(1, Tell.b false)]) (cs := [decide (i < m) = false]) (ws := [3, 10, 18, 19, 20]) (ds' := []) ha (fun g => by kernel_rfl) ⟨h0, trivial⟩
theorem b107_1 (xs : List Fm) (zs : List Fm) (ws : List Fm) (x : Fm) (k : Nat) (k1 : Nat) (m : Int) (i : Int) (n : Nat) (h0 : decide (i < m) = true) (c1 : aindexAddr (Cfg.P cfg) 22 (la xs) (vI i) = some (AV.eptr (Fm.row x) 0)) (c2 : ∀ (S : AS), Lw.call (lower cfg (n + 60)) 122 [(Fm.av x)] S = some (AV.tup [(Fm.av x), vI (Int.ofNat 0)], S)) (c3 : aappend (Cfg.P cfg) false (AS.mk [AObj.cells (Fm.row x) 27, AObj.cells (Fm.row x) 27] [k] 0 0) 22 (AV.lst (Cap.tok 0 k 4) (List.map Fm.row zs)) (AV.lst Cap.exact [(Fm.row x)]) = some (AV.lst (Cap.tok 0 k1 4) (List.map Fm.row ws), AS.mk [AObj.cells (Fm.row x) 27, AObj.cells (Fm.row x) 27] [k1] 0 0)) (a : AAct) (ha : In 41 [] [(3, vI (Int.ofNat 0)), (10, AV.lst (Cap.tok 0 k 4) (List.map Fm.row zs)), (18, la xs), (19, vI m), (20, vI i)] a) : Seen (aBody cfg 107 (codeAt (codeOf cfg.P 107) [1, 1, 0, 1, 0, 0]) 0 (aC cfg (lower cfg (n + 60)) (n + 60 + 1) 107 none (codeAt (codeOf cfg.P 107) [1, 1, 0, 1, 0, 0])) a (AS.mk [] [k] 0 0)) (Exit.normal) 41 [] [(3, vI (Int.ofNat 0)), (10, AV.lst (Cap.tok 0 k1 4) (List.map Fm.row ws)), (18, la xs), (19, vI m), (20, vI (IntKind.wrap IntKind.i64 (i + 1)))] (AS.mk [] [k1] 0 0) :=
  segB_ok (ds := [(1, Tell.b true), (0, Tell.fr (AV.eptr (Fm.row x) 0)), (7, Tell.fr (AV.tup [(Fm.av x), vI (Int.ofNat 0)])), (12, Tell.op (AV.lst (Cap.tok 0 k1 4) (List.map Fm.row ws)) (AS.mk [AObj.cells (Fm.row x) 27, AObj.cells (Fm.row x) 27] [k1] 0 0)), (3, Tell.b true)]) (cs := [decide (i < m) = true, frP (aindexAddr (Cfg.P cfg) 22 (la xs) (vI i)) (AV.eptr (Fm.row x) 0), ∀ (S : AS), Lw.call (lower cfg (n + 60)) 122 [(Fm.av x)] S = some (AV.tup [(Fm.av x), vI (Int.ofNat 0)], S), aappend (Cfg.P cfg) false (AS.mk [AObj.cells (Fm.row x) 27, AObj.cells (Fm.row x) 27] [k] 0 0) 22 (AV.lst (Cap.tok 0 k 4) (List.map Fm.row zs)) (AV.lst Cap.exact [(Fm.row x)]) = some (AV.lst (Cap.tok 0 k1 4) (List.map Fm.row ws), AS.mk [AObj.cells (Fm.row x) 27, AObj.cells (Fm.row x) 27] [k1] 0 0), trimB 0 [vI (Int.ofNat 0), AV.lst (Cap.tok 0 k1 4) (List.map Fm.row ws), la xs, vI m, vI (IntKind.wrap IntKind.i64 (i + 1))] [] [] 2 = true]) (ws := [3, 10, 18, 19, 20]) (ds' := []) ha (fun g => by kernel_rfl) ⟨h0, (fr_of c1), c2, c3, (by simp [trimB, objOld, belowAll, belowRows, AV.old, Fm.row, Fm.av, Fm.belowRows_rows, Fm.belowRows_map, Nat.ble]), trivial⟩
theorem b107_2 (xs : List Fm) (zs : List Fm) (ws : List Fm) (x : Fm) (k : Nat) (k1 : Nat) (m : Int) (i : Int) (n : Nat) (h0 : decide (i < m) = false) (a : AAct) (ha : In 41 [] [(3, vI (Int.ofNat 0)), (10, AV.lst (Cap.tok 0 k 4) (List.map Fm.row zs)), (18, la xs), (19, vI m), (20, vI i)] a) : Seen (aBody cfg 107 (codeAt (codeOf cfg.P 107) [1, 1, 0, 1, 0, 0]) 0 (aC cfg (lower cfg (n + 60)) (n + 60 + 1) 107 none (codeAt (codeOf cfg.P 107) [1, 1, 0, 1, 0, 0])) a (AS.mk [] [k] 0 0)) (Exit.exit 0) 41 [] [(3, vI (Int.ofNat 0)), (10, AV.lst (Cap.tok 0 k 4) (List.map Fm.row zs)), (18, la xs), (19, vI m), (20, vI i)] (AS.mk [] [k] 0 0) :=
  segB_ok (ds := [(1, Tell.b false)]) (cs := [decide (i < m) = false]) (ws := [3, 10, 18, 19, 20]) (ds' := []) ha (fun g => by kernel_rfl) ⟨h0, trivial⟩
theorem f107_1 (xs : List Fm) (ys : List Fm) (e : Int) (v : AV) (es : List Nat) (n : Nat) (γ0 : AAct → Nat → AV) (c0 : aslice (Cfg.P cfg) 22 (la xs) (some (vI (Int.ofNat 0))) (some (vI e)) none = some (la ys)) (l1 : LoopIs cfg (lower cfg (n + 60)) (n + 60 + 1) 107 none (codeAt (codeOf (Cfg.P cfg) 107) [1, 1, 0, 1, 0]) 41 [] [(3, vI (Int.ofNat 0)), (10, AV.v (Value.slice none 0 0)), (18, la ys), (19, vI (↑(List.length (List.map Fm.row ys)) : Int)), (20, vI (Int.ofNat 0))] (AS.mk [] [] 0 0) (Exit.exit 0) [(10, v)] (AS.mk [] es 0 0) γ0) (y : AV) (hy : lend (AS.mk [] es 0 0) (AV.tup [v, vI (Int.ofNat 0)]) = some y) : Path cfg 107 [la xs, vI (Int.ofNat 0), vI e, vI (Int.ofNat 0)] y (n + 60) :=
  Path.of (ds := [(6, Tell.fr (la ys)), (2, Tell.lp [3, 10, 18, 19, 20] (Exit.exit 0) [(10, v)] (AS.mk [] es 0 0) γ0)]) (cs := [frP (aslice (Cfg.P cfg) 22 (la xs) (some (vI (Int.ofNat 0))) (some (vI e)) none) (la ys), LoopIs cfg (lower cfg (n + 60)) (n + 60 + 1) 107 none (codeAt (codeOf (Cfg.P cfg) 107) [1, 1, 0, 1, 0]) 41 [] [(3, vI (Int.ofNat 0)), (10, AV.v (Value.slice none 0 0)), (18, la ys), (19, vI (↑(List.length (List.map Fm.row ys)) : Int)), (20, vI (Int.ofNat 0))] (AS.mk [] [] 0 0) (Exit.exit 0) [(10, v)] (AS.mk [] es 0 0) γ0]) (x := AV.tup [v, vI (Int.ofNat 0)]) (S2 := AS.mk [] es 0 0) (by kernel_rfl) ⟨(fr_of c0), l1, trivial⟩ hy -- Exit.ret
theorem f106_1 (fe : Bool) (a : Int) (b : Int) (c : Int) (n : Nat) : Path cfg 106 [AV.agg [vI a, vI b, vI c, vB fe, vB false, vI (Int.ofNat 0), vI (Int.ofNat 0)]] (vB (decide (c < -1))) (n + 60) :=
  Path.of (ds := []) (cs := []) (x := vB (decide (c < -1))) (S2 := AS.mk [AObj.cells [vI a, vI b, vI c, vB fe, vB false, vI (Int.ofNat 0), vI (Int.ofNat 0)] 53] [] 0 0) (by kernel_rfl) trivial rfl -- Exit.ret


/-- A list that grows, and its token. -/
def acV (rs : List (List AV)) : AV := match rs with | [] => .v (.slice none 0 0) | r :: rs => .lst (.tok 0 (rs.length + 1) 4) (r :: rs)
def acE (rs : List (List AV)) : List Nat := match rs with | [] => [] | _ :: rs => [rs.length + 1]
theorem acV_ne {rs : List (List AV)} (h : rs ≠ []) : acV rs = .lst (.tok 0 rs.length 4) rs := by cases rs with | nil => exact absurd rfl h | cons r rs => rfl
theorem acE_ne {rs : List (List AV)} (h : rs ≠ []) : acE rs = [rs.length] := by cases rs with | nil => exact absurd rfl h | cons r rs => rfl

theorem append_tok {o : List AObj} {a b : Nat} {zs : List (List AV)} {r : List AV} (hz : ∀ z ∈ zs, z.length = 4) (hr : r.length = 4) (h1 : r.all AV.one = true) (hb : zs.length ≤ 2000) :
    aappend cfg.P false (AS.mk o [zs.length] a b) 22 (.lst (.tok 0 zs.length 4) zs) (.lst .exact [r]) = some (.lst (.tok 0 (zs.length + 1) 4) (zs ++ [r]), AS.mk o [zs.length + 1] a 0) := by
  obtain ⟨z, hz0, hzl⟩ := FormP.z forms
  obtain ⟨i, hi, hib⟩ := FormP.info forms
  have hbb : (zs.length + 1) * i.bytes ≤ 140737488355328 := Nat.le_trans (Nat.mul_le_mul (show zs.length + 1 ≤ 100000 by omega) hib) (by decide)
  have hm : zs.length + 1 ≤ maxLen := Nat.le_trans (show zs.length + 1 ≤ 100000 by omega) (by decide)
  have hrr : rowsOf (AS.mk o [zs.length] a b) 4 (.lst .exact [r]) = some [r] := by unfold rowsOf; simp [hr, h1]
  have hall : (zs.all fun r => r.length == 4) = true := by rw [List.all_eq_true]; intro x hx; simp [hz x hx]
  unfold aappend
  rw [FormP.row forms]
  simp only [Option.bind_some, hz0, hi, hrr, hzl, ne_eq, not_true, if_false, List.length_cons, List.length_nil, Nat.zero_add, Nat.one_ne_zero]
  rw [if_pos ⟨hall, hbb, hm⟩, if_pos ⟨rfl, trivial⟩]
  simp [AS.tokS]

/-- What a caller sees of it. -/
def acL (rs : List (List AV)) : AV := match rs with | [] => .v (.slice none 0 0) | r :: rs => .lst .unk (r :: rs)
theorem weak_acL (rs : List (List AV)) : weakV (acL rs) = .lst .any (weakR rs) := by cases rs with | nil => rfl | cons r rs => rfl
theorem lendV_ac {S : AS} {rs : List (List AV)} (h : belowRows 0 rs = true) (h2 : sealRows 0 rs = rs) : lendV S (lendAll 4 S) (acV rs) = some (acL rs) := by
  cases rs with
  | nil => rfl
  | cons r rs =>
    show lendV _ _ (.lst _ _) = _
    unfold lendV
    rw [lendR_old _ _ _ h, h2]
    rfl
theorem lend_ac {S : AS} {rs : List (List AV)} (h : belowRows 0 rs = true) (h2 : sealRows 0 rs = rs) : lend S (acV rs) = some (acL rs) := lendV_ac h h2

/-! a loop that gathers -/
def keptL (keep : Nat → Fm → Bool) : List Fm → Nat → List Fm
  | [], _ => []
  | x :: xs, j => bif keep j x then x :: keptL keep xs (j + 1) else keptL keep xs (j + 1)
theorem four_row (zs : List Fm) : ∀ z ∈ zs.map Fm.row, z.length = 4 := fun z hz => by obtain ⟨b, _, rfl⟩ := List.mem_map.1 hz; rfl
theorem append_row {o : List AObj} {a b : Nat} {zs : List Fm} {x : Fm} (hb : zs.length ≤ 2000) :
    aappend cfg.P false (AS.mk o [zs.length] a b) 22 (.lst (.tok 0 zs.length 4) (zs.map Fm.row)) (.lst .exact [x.row]) = some (.lst (.tok 0 (zs.length + 1) 4) ((zs ++ [x]).map Fm.row), AS.mk o [zs.length + 1] a 0) := by
  have := append_tok (o := o) (a := a) (b := b) (zs := zs.map Fm.row) (r := x.row) (four_row zs) rfl (Fm.row_one x) (by simpa using hb)
  rw [List.length_map] at this
  rw [this, List.map_append]
  rfl

theorem collect {f : AAct → AS → Option (Exit × AAct × AS)} {N : Nat} {mk : List Nat} {xs : List Fm} (keep : Nat → Fm → Bool) (live : Nat → AV → List (Nat × AV)) (liveE : AV → List (Nat × AV)) (e : Exit) (he : e ≠ .normal) (o : List AObj) (hb : xs.length ≤ 2000)
    (hA : ∀ j x, xs[j]? = some x → keep j x = true → ∀ a, In N mk (live j (.v (.slice none 0 0))) a → Seen (f a (AS.mk o [] 0 0)) .normal N mk (live (j + 1) (.lst (.tok 0 1 4) [x.row])) (AS.mk o [1] 0 0))
    (hB : ∀ j x zs, xs[j]? = some x → keep j x = true → zs.length ≤ 2000 → ∀ a, In N mk (live j (.lst (.tok 0 zs.length 4) (zs.map Fm.row))) a → Seen (f a (AS.mk o [zs.length] 0 0)) .normal N mk (live (j + 1) (.lst (.tok 0 (zs.length + 1) 4) ((zs ++ [x]).map Fm.row))) (AS.mk o [zs.length + 1] 0 0))
    (hC : ∀ j x, xs[j]? = some x → keep j x = false → (∀ a, In N mk (live j (.v (.slice none 0 0))) a → Seen (f a (AS.mk o [] 0 0)) .normal N mk (live (j + 1) (.v (.slice none 0 0))) (AS.mk o [] 0 0)) ∧
      ∀ zs : List Fm, zs.length ≤ 2000 → ∀ a, In N mk (live j (.lst (.tok 0 zs.length 4) (zs.map Fm.row))) a → Seen (f a (AS.mk o [zs.length] 0 0)) .normal N mk (live (j + 1) (.lst (.tok 0 zs.length 4) (zs.map Fm.row))) (AS.mk o [zs.length] 0 0))
    (hE : (∀ a, In N mk (live xs.length (.v (.slice none 0 0))) a → Seen (f a (AS.mk o [] 0 0)) e N mk (liveE (.v (.slice none 0 0))) (AS.mk o [] 0 0)) ∧
      ∀ zs : List Fm, ∀ a, In N mk (live xs.length (.lst (.tok 0 zs.length 4) (zs.map Fm.row))) a → Seen (f a (AS.mk o [zs.length] 0 0)) e N mk (liveE (.lst (.tok 0 zs.length 4) (zs.map Fm.row))) (AS.mk o [zs.length] 0 0)) :
    ∀ (d j : Nat) (zs : List Fm) (k : Nat), xs.length - j = d → j ≤ xs.length → d < k → zs.length ≤ j → ∀ a, In N mk (live j (acV (zs.map Fm.row))) a →
      Seen (aloop f k a (AS.mk o (acE (zs.map Fm.row)) 0 0)) e N mk (liveE (acV ((zs ++ keptL keep (xs.drop j) j).map Fm.row))) (AS.mk o (acE ((zs ++ keptL keep (xs.drop j) j).map Fm.row)) 0 0) := by
  intro d
  induction d with
  | zero =>
    intro j zs k hd hj hk hz a ha
    obtain ⟨k, rfl⟩ : ∃ m, k = m + 1 := ⟨k - 1, by omega⟩
    have e' : j = xs.length := by omega
    subst e'
    rw [List.drop_length]
    simp only [keptL, List.append_nil]
    refine seen_stop he ?_
    cases zs with
    | nil => exact hE.1 a ha
    | cons z zs =>
      have h1 : (z :: zs).map Fm.row ≠ [] := by simp
      rw [acV_ne h1, List.length_map] at ha ⊢
      rw [acE_ne h1, List.length_map]
      exact hE.2 (z :: zs) a ha
  | succ d ih =>
    intro j zs k hd hj hk hz a ha
    obtain ⟨k, rfl⟩ : ∃ m, k = m + 1 := ⟨k - 1, by omega⟩
    have hlt : j < xs.length := by omega
    rw [List.drop_eq_getElem_cons hlt]
    have hx : xs[j]? = some xs[j] := List.getElem?_eq_getElem hlt
    simp only [keptL]
    cases hkp : keep j xs[j] with
    | true =>
      simp only [cond_true]
      have hih := ih (j + 1) (zs ++ [xs[j]]) k (by omega) (by omega) (by omega) (by simp; omega)
      rw [show zs ++ xs[j] :: keptL keep (xs.drop (j + 1)) (j + 1) = (zs ++ [xs[j]]) ++ keptL keep (xs.drop (j + 1)) (j + 1) by simp]
      have h2 : (zs ++ [xs[j]]).map Fm.row ≠ [] := by simp
      rw [acV_ne h2, acE_ne h2] at hih
      cases zs with
      | nil => exact seen_next (hA j _ hx hkp a ha) fun a' ha' => hih a' ha'
      | cons z zs =>
        have h1 : (z :: zs).map Fm.row ≠ [] := by simp
        rw [acV_ne h1, List.length_map] at ha
        rw [acE_ne h1, List.length_map]
        simp only [List.length_map, List.length_append, List.length_cons, List.length_nil] at hih
        exact seen_next (hB j _ (z :: zs) hx hkp (by simp at hz ⊢; omega) a ha) fun a' ha' => hih a' ha'
    | false =>
      simp only [cond_false]
      have hih := ih (j + 1) zs k (by omega) (by omega) (by omega) (by omega)
      cases zs with
      | nil => exact seen_next ((hC j _ hx hkp).1 a ha) fun a' ha' => hih a' ha'
      | cons z zs =>
        have h1 : (z :: zs).map Fm.row ≠ [] := by simp
        rw [acV_ne h1, acE_ne h1, List.length_map] at hih
        rw [acV_ne h1, List.length_map] at ha
        rw [acE_ne h1, List.length_map]
        exact seen_next ((hC j _ hx hkp).2 (z :: zs) (by simp at hz ⊢; omega) a ha) fun a' ha' => hih a' ha'

/-! digits -/
def sB (b : Int) : ByteArray := Utf8.encode (IntKind.wrap IntKind.i32 (48 + IntKind.wrap IntKind.i32 (Int.tmod (IntKind.wrap IntKind.i64 b) (Int.ofNat 5))))
def dF (b : Int) : Fm := .mk 2 (sB b) (ByteArray.mk #[]) []
def dR (b : Int) : List AV := [.v (.int .i64 2), .v (.string (sB b)), .v (.string (ByteArray.mk #[])), .v (.slice none 0 0)]
theorem weak_dR (b : Int) : weakL (dR b) = (dF b).row := by
  unfold dR dF
  generalize sB b = s
  rfl
theorem dR_four {bs : List Int} : ∀ z ∈ bs.map dR, z.length = 4 := fun z hz => by obtain ⟨b, _, rfl⟩ := List.mem_map.1 hz; rfl

def l63 (c : Cap) (bs : List Int) (j : Nat) : List (Nat × AV) := [(1, .v (.int .i64 5)), (5, acV ((bs.take j).map dR)), (8, .lst c (bs.map bR)), (9, .v (.int .i64 (bs.length : Int))), (10, .v (.int .i64 (Int.ofNat j)))]

theorem loop63 (c : Cap) (bs : List Int) (n : Nat) (hb : bs.length ≤ 2000) (hn : bs.length ≤ n) : ∀ a, In 27 [] (l63 c bs 0) a →
    Seen (aloop (aBody cfg 63 (codeAt (codeOf cfg.P 63) [1, 1, 0, 1, 0, 0]) 0 (aC cfg (lower cfg (n + 60)) (n + 60 + 1) 63 none (codeAt (codeOf cfg.P 63) [1, 1, 0, 1, 0, 0]))) (n + 60 + 1) a (AS.mk [] [] 0 0)) (.exit 0) 27 [] [(5, acV (bs.map dR))] (AS.mk [] (acE (bs.map dR)) 0 0) := by
  refine seen_loop (l63 c bs) (fun j => AS.mk [] (acE ((bs.take j).map dR)) 0 0) (i := 0) (m := bs.length) (by omega) (by omega) (by simp) (fun j _ hj a ha => ?_) (fun a ha => ?_)
  · have hidx : aindexAddr cfg.P 34 (.lst c (bs.map bR)) (.v (.int .i64 (Int.ofNat j))) = some (.eptr (bR bs[j]) 0) :=
      idx (e := 5) (by kernel_rfl) (Int.natCast_nonneg j) (by simp only [Int.ofNat_eq_natCast, Int.toNat_natCast, List.getElem?_map, List.getElem?_eq_getElem hj]; rfl) (by kernel_rfl)
    have hnext : (bs.take j).map dR ++ [dR bs[j]] = (bs.take (j + 1)).map dR := by rw [List.take_add_one, List.getElem?_eq_getElem hj, List.map_append]; rfl
    by_cases h0 : (bs.take j).map dR = []
    · have hj0 : j = 0 := by simp at h0; rcases h0 with h0 | h0; · exact h0
                             · subst h0; simp at hj
      subst hj0
      have step := a63_1 c (bs.map bR) bs[0] _ .empty 0 n (decide_eq_true (by simp; omega)) hidx a ha
      rw [h0, List.nil_append] at hnext
      unfold l63
      rw [← hnext]
      exact step
    · have hl : ((bs.take j).map dR).length = j := by simp; omega
      have hap := append_tok (o := []) (a := 0) (b := 0) (zs := (bs.take j).map dR) (r := dR bs[j]) dR_four rfl rfl (by omega)
      rw [hnext] at hap
      unfold l63 at ha ⊢
      rw [acV_ne h0] at ha
      have step := b63_1 c (bs.map bR) bs[j] _ _ _ .empty _ _ (Int.ofNat j) n (ltT hj) hidx hap a ha
      rw [wrapS (by omega)] at step
      have h1 : (bs.take (j + 1)).map dR ≠ [] := by rw [← hnext]; simp
      have hl1 : ((bs.take (j + 1)).map dR).length = ((bs.take j).map dR).length + 1 := by rw [← hnext]; simp
      rw [acE_ne h0, acE_ne h1, acV_ne h1, hl1]
      exact step
  · rw [show (l63 c bs bs.length) = [(1, .v (.int .i64 5)), (5, acV (bs.map dR)), (8, .lst c (bs.map bR)), (9, .v (.int .i64 (bs.length : Int))), (10, .v (.int .i64 (Int.ofNat bs.length)))] by unfold l63; rw [List.take_length]] at ha
    rw [List.take_length]
    by_cases h0 : bs.map dR = []
    · rw [h0] at ha ⊢
      exact (a63_2 c (bs.map bR) 0 _ .empty _ n (ltF (by omega)) a ha).weak fun l h => ⟨h.2.1, trivial⟩
    · rw [acV_ne h0] at ha
      rw [acV_ne h0, acE_ne h0]
      exact (b63_2 c (bs.map bR) 0 _ _ [] .empty _ 0 _ n (ltF (by omega)) a ha).weak fun l h => ⟨h.2.1, trivial⟩

theorem below_dR : ∀ bs : List Int, belowRows 0 (bs.map dR) = true
  | [] => rfl
  | b :: bs => by simp only [List.map_cons, belowRows, below_dR bs]; rfl
theorem seal_dR : ∀ bs : List Int, sealRows 0 (bs.map dR) = bs.map dR
  | [] => rfl
  | b :: bs => by simp only [List.map_cons, sealRows, seal_dR bs]; rfl
theorem below_bR : ∀ bs : List Int, belowRows 0 (bs.map bR) = true
  | [] => rfl
  | b :: bs => by simp only [List.map_cons, belowRows, below_bR bs]; rfl
theorem seal_bR : ∀ bs : List Int, sealRows 0 (bs.map bR) = bs.map bR
  | [] => rfl
  | b :: bs => by simp only [List.map_cons, sealRows, seal_bR bs]; rfl
theorem Own.bytes {c : Cap} {bs : List Int} {l : List AV} (hc : untok c = c) (h : Go.AM.Own l) : Go.AM.Own (.lst c (bs.map bR) :: l) := by
  refine h.cons (by simp [AV.old, below_bR]) ?_
  simp only [AV.shut, seal_bR]
  cases c <;> first | rfl | (simp [untok] at hc)

theorem small63 (c : Cap) (hc : untok c = c) (bs : List Int) (hb : bs.length ≤ 2000) : ∃ v, Fr cfg 63 [.lst c (bs.map bR), .v (.int .i64 5)] v ∧ weakV v = la (bs.map dF) := by
  refine ⟨acL (bs.map dR), Fr.of_co rfl (by kernel_rfl) (Own.bytes hc (Own.v Own.nil)) (Co.path (by kernel_rfl) (Evt.shift ((Evt.big bs.length).mono fun n hn => ?_))), (weak_acL _).trans ?_⟩
  · have L := loop63 c bs n hb hn
    obtain ⟨γ, hγ⟩ := LoopIs.of (C := cfg) (c := codeAt (codeOf cfg.P 63) [1, 1, 0, 1, 0]) (k := n + 60 + 1) (hf := 63) (rd := none) (L := lower cfg (n + 60)) L
    refine f63_1 c (bs.map bR) (acV (bs.map dR)) (acE (bs.map dR)) n γ ?_ _ (lend_ac (below_dR bs) (seal_dR bs))
    rw [List.length_map]
    exact hγ
  · rw [weakR_map]
    unfold la
    simp only [List.map_map]
    exact congrArg _ (List.map_congr_left fun b _ => weak_dR b)

theorem acL_la (zs : List Fm) : weakV (acL (zs.map Fm.row)) = .lst .any (weakR (zs.map Fm.row)) := weak_acL _
mutual
theorem weak_rows : ∀ x : Fm, weakR x.rows = x.rows
  | .mk _ _ _ l => by simp only [Fm.rows]; exact weak_rowsL l
theorem weak_rowsL : ∀ l : List Fm, weakR (Fm.rowsL l) = Fm.rowsL l
  | [] => rfl
  | x :: l => by
    have h1 : weakV (.lst .any x.rows) = .lst .any x.rows := by unfold weakV; rw [weak_rows x]
    have h2 : weakL [.v (.int .i64 x.kind), .v (.string x.text), .v (.string x.home), .lst .any x.rows] = [.v (.int .i64 x.kind), .v (.string x.text), .v (.string x.home), .lst .any x.rows] := by
      simp only [weakL, h1]; rfl
    simp only [Fm.rowsL, weakR, h2, weak_rowsL l]
end
theorem weak_map (zs : List Fm) : weakR (zs.map Fm.row) = zs.map Fm.row := by rw [← Fm.rowsL_eq]; exact weak_rowsL zs
theorem weak_row (x : Fm) : weakL x.row = x.row := by
  have h1 : weakV (.lst .any x.rows) = .lst .any x.rows := by unfold weakV; rw [weak_rows x]
  simp only [Fm.row, weakL, h1]; rfl
theorem weak_av (x : Fm) : weakV x.av = x.av := by
  show weakV (.agg x.row) = .agg x.row
  unfold weakV
  rw [weak_row]
theorem weak_la (zs : List Fm) : weakV (la zs) = la zs := by
  show weakV (.lst .any _) = .lst .any _
  unfold weakV
  rw [weak_map]
theorem weak_acL_map (zs : List Fm) : weakV (acL (zs.map Fm.row)) = la zs := by rw [weak_acL, weak_map]

theorem of_weak {C D : Cfg} {f : Nat} {args : List AV} {x : AV} (hX : D.X f = some (weakCall C f)) (hw : weakL args = args) (h : Fr C f args x) : Fr D f args (weakV x) :=
  ⟨1, fun n hn S => by
    obtain ⟨m, rfl⟩ : ∃ m, n = m + 1 := ⟨n - 1, by omega⟩
    simp only [lower, hX, weakCall, hw, evtCall_fr h, Option.map_some]⟩

/-! the keys of a range -/
theorem whole122 (x : Fm) : Fr cfg 122 [x.av] (.tup [x.av, .v (.int .i64 0)]) :=
  Fr.of_co rfl (by kernel_rfl) (Own.fm Own.nil) (Co.path (by kernel_rfl) (Evt.shift (Evt.of fun n => f122_1 x n _ (lend_pair (by
    rw [lendV_old _ _ _ (x.old 0), x.shut 0])))))

def l107 (xs : List Fm) (j : Nat) (v : AV) : List (Nat × AV) := [(3, .v (.int .i64 0)), (10, v), (18, la xs), (19, .v (.int .i64 (xs.length : Int))), (20, .v (.int .i64 (Int.ofNat j)))]
theorem kept_all (xs : List Fm) : ∀ j, keptL (fun _ _ => true) xs j = xs := by
  induction xs with
  | nil => intro j; rfl
  | cons x xs ih => intro j; simp only [keptL, cond_true, ih]

theorem loop107 (xs : List Fm) (n : Nat) (hb : xs.length ≤ 2000) (hn : xs.length ≤ n) (hw : ∀ x, x ∈ xs → ∀ S, (lower cfg (n + 60)).call 122 [x.av] S = some (.tup [x.av, .v (.int .i64 0)], S)) : ∀ a, In 41 [] (l107 xs 0 (.v (.slice none 0 0))) a →
    Seen (aloop (aBody cfg 107 (codeAt (codeOf cfg.P 107) [1, 1, 0, 1, 0, 0]) 0 (aC cfg (lower cfg (n + 60)) (n + 60 + 1) 107 none (codeAt (codeOf cfg.P 107) [1, 1, 0, 1, 0, 0]))) (n + 60 + 1) a (AS.mk [] [] 0 0)) (.exit 0) 41 [] [(10, acV (xs.map Fm.row))] (AS.mk [] (acE (xs.map Fm.row)) 0 0) := by
  intro a ha
  have := collect (f := aBody cfg 107 (codeAt (codeOf cfg.P 107) [1, 1, 0, 1, 0, 0]) 0 (aC cfg (lower cfg (n + 60)) (n + 60 + 1) 107 none (codeAt (codeOf cfg.P 107) [1, 1, 0, 1, 0, 0]))) (N := 41) (mk := []) (xs := xs) (fun _ _ => true) (l107 xs) (fun v => [(10, v)]) (.exit 0) (by simp) [] hb
    (fun j x hx _ a ha => by
      have hj := (List.getElem?_eq_some_iff.1 hx).1
      have step := a107_1 xs x _ _ n (ltT hj) (idx22 (Fm.map_get hx) rfl) (hw x (List.mem_of_getElem? hx)) a ha
      rwa [wrapS (by omega)] at step)
    (fun j x zs hx _ hz a ha => by
      have hj := (List.getElem?_eq_some_iff.1 hx).1
      have step := b107_1 xs zs (zs ++ [x]) x zs.length (zs.length + 1) _ _ n (ltT hj) (idx22 (Fm.map_get hx) rfl) (hw x (List.mem_of_getElem? hx)) (append_row hz) a ha
      rwa [wrapS (by omega)] at step)
    (fun j x hx h => by cases h)
    ⟨fun a ha => (a107_2 xs (.mk 0 .empty .empty []) _ _ n (ltF (by omega)) a ha).weak fun l h => ⟨h.2.1, trivial⟩,
     fun zs a ha => (b107_2 xs zs [] (.mk 0 .empty .empty []) zs.length 0 _ _ n (ltF (by omega)) a ha).weak fun l h => ⟨h.2.1, trivial⟩⟩
    xs.length 0 [] (n + 60 + 1) rfl (by omega) (by omega) (by simp) a ha
  rw [List.drop_zero, kept_all, List.nil_append] at this
  exact this

theorem taken107 (xs : List Fm) (hb : xs.length ≤ 2000) : Fr cfg 107 [la xs, .v (.int .i64 0), .v (.int .i64 xs.length), .v (.int .i64 0)] (.tup [acL (xs.map Fm.row), .v (.int .i64 0)]) := by
  refine Fr.of_co rfl (by kernel_rfl) (Own.lst rfl (Own.v (Own.v (Own.v Own.nil)))) (Co.path (by kernel_rfl) ?_)
  have hw := Evt.unshift (Evt.mem xs fun x _ => whole122 x)
  refine Evt.shift ((hw.and (Evt.big xs.length)).mono fun n hn => ?_)
  have L := loop107 xs n hb hn.2 hn.1
  obtain ⟨γ, hγ⟩ := LoopIs.of (C := cfg) (c := codeAt (codeOf cfg.P 107) [1, 1, 0, 1, 0]) (k := n + 60 + 1) (hf := 107) (rd := none) (L := lower cfg (n + 60)) L
  have hsl := slice_lst forms xs (s := 0) (e := xs.length) (by omega) (by omega)
  rw [List.take_length, List.drop_zero] at hsl
  refine f107_1 xs xs _ (acV (xs.map Fm.row)) (acE (xs.map Fm.row)) n γ hsl ?_ _ (lend_pair (lendV_ac (Fm.belowRows_map 0 xs) (Fm.sealRows_map 0 xs)))
  rw [len_row]
  exact hγ
end Go.Proofs.YtamemdhmjglifaaGreatDoor

/- Chapter 12: what options say of a list; what is taken. -/
namespace Go.Proofs.YtamemdhmjglifaaGreatDoor
open Go.RowKit Go.AM
set_option maxRecDepth 100000
set_option linter.unusedVariables false
theorem e115_1 (k : Int) (k2 : Int) (s : ByteArray) (s2 : ByteArray) (u : ByteArray) (u2 : ByteArray) (n : Nat) (h0 : (k == k2) = true) (h1 : (ByteArray.toList s == ByteArray.toList s2) = true) (h2 : (ByteArray.toList u == ByteArray.toList u2) = true) : Path cfg 115 [AV.agg [vI k, vS s, vS u, AV.lst Cap.any []], AV.agg [vI k2, vS s2, vS u2, AV.lst Cap.any []]] (vB true) (n + 60) :=
  Path.of (ds := [(7, Tell.b true), (10, Tell.b true), (11, Tell.b true)]) (cs := [(k == k2) = true, (ByteArray.toList s == ByteArray.toList s2) = true, (ByteArray.toList u == ByteArray.toList u2) = true]) (x := vB true) (S2 := AS.mk [AObj.cells [vI k, vS s, vS u, AV.lst Cap.any []] 27, AObj.cells [vI k2, vS s2, vS u2, AV.lst Cap.any []] 27] [] 0 0) (by kernel_rfl) ⟨h0, h1, h2, trivial⟩ rfl -- Exit.ret
theorem e115_2 (k : Int) (k2 : Int) (s : ByteArray) (s2 : ByteArray) (u : ByteArray) (u2 : ByteArray) (n : Nat) (h0 : (k == k2) = true) (h1 : (ByteArray.toList s == ByteArray.toList s2) = true) (h2 : (ByteArray.toList u == ByteArray.toList u2) = false) : Path cfg 115 [AV.agg [vI k, vS s, vS u, AV.lst Cap.any []], AV.agg [vI k2, vS s2, vS u2, AV.lst Cap.any []]] (vB false) (n + 60) :=
  Path.of (ds := [(7, Tell.b true), (10, Tell.b true), (11, Tell.b false)]) (cs := [(k == k2) = true, (ByteArray.toList s == ByteArray.toList s2) = true, (ByteArray.toList u == ByteArray.toList u2) = false]) (x := vB false) (S2 := AS.mk [AObj.cells [vI k, vS s, vS u, AV.lst Cap.any []] 27, AObj.cells [vI k2, vS s2, vS u2, AV.lst Cap.any []] 27] [] 0 0) (by kernel_rfl) ⟨h0, h1, h2, trivial⟩ rfl -- Exit.ret
theorem e115_3 (k : Int) (k2 : Int) (s : ByteArray) (s2 : ByteArray) (u : ByteArray) (u2 : ByteArray) (n : Nat) (h0 : (k == k2) = true) (h1 : (ByteArray.toList s == ByteArray.toList s2) = false) : Path cfg 115 [AV.agg [vI k, vS s, vS u, AV.lst Cap.any []], AV.agg [vI k2, vS s2, vS u2, AV.lst Cap.any []]] (vB false) (n + 60) :=
  Path.of (ds := [(7, Tell.b true), (10, Tell.b false)]) (cs := [(k == k2) = true, (ByteArray.toList s == ByteArray.toList s2) = false]) (x := vB false) (S2 := AS.mk [AObj.cells [vI k, vS s, vS u, AV.lst Cap.any []] 27, AObj.cells [vI k2, vS s2, vS u2, AV.lst Cap.any []] 27] [] 0 0) (by kernel_rfl) ⟨h0, h1, trivial⟩ rfl -- Exit.ret
theorem e115_4 (k : Int) (k2 : Int) (s : ByteArray) (s2 : ByteArray) (u : ByteArray) (u2 : ByteArray) (n : Nat) (h0 : (k == k2) = false) : Path cfg 115 [AV.agg [vI k, vS s, vS u, AV.lst Cap.any []], AV.agg [vI k2, vS s2, vS u2, AV.lst Cap.any []]] (vB false) (n + 60) :=
  Path.of (ds := [(7, Tell.b false)]) (cs := [(k == k2) = false]) (x := vB false) (S2 := AS.mk [AObj.cells [vI k, vS s, vS u, AV.lst Cap.any []] 27, AObj.cells [vI k2, vS s2, vS u2, AV.lst Cap.any []] 27] [] 0 0) (by kernel_rfl) ⟨h0, trivial⟩ rfl -- Exit.ret
theorem f85_1  (n : Nat) (y : AV) (hy : lend (AS.mk [AObj.cells [AV.fn (Fn.func 115) [] [], AV.fn (Fn.func 116) [] []] 91] [] 0 0) (AV.agg [AV.fn (Fn.func 115) [] [], AV.fn (Fn.func 116) [] []]) = some y) : Path cA 85 [] y (n + 60) :=
  Path.of (ds := []) (cs := []) (x := AV.agg [AV.fn (Fn.func 115) [] [], AV.fn (Fn.func 116) [] []]) (S2 := AS.mk [AObj.cells [AV.fn (Fn.func 115) [] [], AV.fn (Fn.func 116) [] []] 91] [] 0 0) (by kernel_rfl) trivial hy -- Exit.ret

theorem f99_1 (xs : List Fm) (c : Int) (m : Int) (fe : Bool) (r : Bool) (n : Nat) (c0 : ∀ (S : AS), Lw.call (lower cA (n + 60)) 91 [AV.lst Cap.exact [[la xs]]] S = some (vI (Int.ofNat 0), S)) (c1 : ∀ (S : AS), Lw.call (lower cA (n + 60)) 106 [AV.agg (opL c fe)] S = some (vB r, S)) (h2 : r = true) (y : AV) (hy : lend (AS.mk [AObj.cells (opL c fe) 53, AObj.cells [vI (Int.ofNat 0), vI (Int.ofNat 0), vI (Int.ofNat 0), vB false, vB false, vI (Int.ofNat 0), vI (Int.ofNat 0), AV.v (Value.slice none 0 0)] 114] [] 0 0) (AV.tup [AV.agg [vI (Int.ofNat 0), vI (Int.ofNat 0), vI (Int.ofNat 0), vB false, vB false, vI (Int.ofNat 0), vI (Int.ofNat 0), AV.v (Value.slice none 0 0)], vI (Int.ofNat 1)]) = some y) : Path cA 99 [la xs, AV.agg (opL c fe)] y (n + 60) :=
  Path.of (ds := [(5, Tell.fr (vI (Int.ofNat 0))), (5, Tell.fr (vB r)), (0, Tell.b true)]) (cs := [∀ (S : AS), Lw.call (lower cA (n + 60)) 91 [AV.lst Cap.exact [[la xs]]] S = some (vI (Int.ofNat 0), S), ∀ (S : AS), Lw.call (lower cA (n + 60)) 106 [AV.agg (opL c fe)] S = some (vB r, S), r = true]) (x := AV.tup [AV.agg [vI (Int.ofNat 0), vI (Int.ofNat 0), vI (Int.ofNat 0), vB false, vB false, vI (Int.ofNat 0), vI (Int.ofNat 0), AV.v (Value.slice none 0 0)], vI (Int.ofNat 1)]) (S2 := AS.mk [AObj.cells (opL c fe) 53, AObj.cells [vI (Int.ofNat 0), vI (Int.ofNat 0), vI (Int.ofNat 0), vB false, vB false, vI (Int.ofNat 0), vI (Int.ofNat 0), AV.v (Value.slice none 0 0)] 114] [] 0 0) (by kernel_rfl) ⟨c0, c1, h2, trivial⟩ hy -- Exit.ret
theorem f99_2 (xs : List Fm) (c : Int) (m : Int) (fe : Bool) (r : Bool) (n : Nat) (c0 : ∀ (S : AS), Lw.call (lower cA (n + 60)) 91 [AV.lst Cap.exact [[la xs]]] S = some (vI (Int.ofNat 0), S)) (c1 : ∀ (S : AS), Lw.call (lower cA (n + 60)) 106 [AV.agg (opL c fe)] S = some (vB r, S)) (h2 : r = false) (c3 : ∀ (S : AS), Lw.call (lower cA (n + 60)) 92 [vI (Int.ofNat 0), vI (Int.negSucc 0), vI (↑(List.length (List.map Fm.row xs)) : Int)] S = some (AV.tup [vI m, vI (Int.ofNat 0)], S)) (c4 : ∀ (S : AS), Lw.call (lower cA (n + 60)) 107 [la xs, vI (Int.ofNat 0), vI m, vI (Int.ofNat 0)] S = some (AV.tup [la xs, vI (Int.ofNat 0)], S)) (y : AV) (hy : lend (AS.mk [AObj.cells [vI (Int.ofNat 0), vI m, vI c, vB fe, vB false, vI (Int.ofNat 0), vI (Int.ofNat 0)] 53, AObj.cells (lkL xs m c fe) 114] [] 0 0) (AV.tup [AV.agg (lkL xs m c fe), vI (Int.ofNat 0)]) = some y) : Path cA 99 [la xs, AV.agg (opL c fe)] y (n + 60) :=
  Path.of (ds := [(5, Tell.fr (vI (Int.ofNat 0))), (5, Tell.fr (vB r)), (0, Tell.b false), (6, Tell.fr (AV.tup [vI m, vI (Int.ofNat 0)])), (18, Tell.fr (AV.tup [la xs, vI (Int.ofNat 0)]))]) (cs := [∀ (S : AS), Lw.call (lower cA (n + 60)) 91 [AV.lst Cap.exact [[la xs]]] S = some (vI (Int.ofNat 0), S), ∀ (S : AS), Lw.call (lower cA (n + 60)) 106 [AV.agg (opL c fe)] S = some (vB r, S), r = false, ∀ (S : AS), Lw.call (lower cA (n + 60)) 92 [vI (Int.ofNat 0), vI (Int.negSucc 0), vI (↑(List.length (List.map Fm.row xs)) : Int)] S = some (AV.tup [vI m, vI (Int.ofNat 0)], S), ∀ (S : AS), Lw.call (lower cA (n + 60)) 107 [la xs, vI (Int.ofNat 0), vI m, vI (Int.ofNat 0)] S = some (AV.tup [la xs, vI (Int.ofNat 0)], S)]) (x := AV.tup [AV.agg (lkL xs m c fe), vI (Int.ofNat 0)]) (S2 := AS.mk [AObj.cells [vI (Int.ofNat 0), vI m, vI c, vB fe, vB false, vI (Int.ofNat 0), vI (Int.ofNat 0)] 53, AObj.cells (lkL xs m c fe) 114] [] 0 0) (by kernel_rfl) ⟨c0, c1, h2, c3, c4, trivial⟩ hy -- Exit.ret
theorem f100_1 (xs : List Fm) (c : Int) (m : Int) (fe : Bool) (x : Fm) (n : Nat) (y : AV) (hy : lend (AS.mk [AObj.cells (lkL xs m c fe) 114, AObj.cells (Fm.row x) 27] [] 0 0) (AV.fn (Fn.func 129) [] [AV.ptr 0 0, AV.ptr 1 0]) = some y) : Path cA 100 [AV.agg (lkL xs m c fe), (Fm.av x)] y (n + 60) :=
  Path.of (ds := []) (cs := []) (x := AV.fn (Fn.func 129) [] [AV.ptr 0 0, AV.ptr 1 0]) (S2 := AS.mk [AObj.cells (lkL xs m c fe) 114, AObj.cells (Fm.row x) 27] [] 0 0) (by kernel_rfl) trivial hy -- Exit.ret

theorem a48_1 (xs : List Fm) (x : Fm) (m : Int) (c : Int) (fe : Bool) (n : Nat) (c0 : ∀ (S : AS), Lw.call (lower cA (n + 60)) 99 [la xs, AV.agg (opL c fe)] S = some (AV.tup [AV.agg (lkL xs m c fe), vI (Int.ofNat 0)], S)) (c1 : ∀ (S : AS), Lw.call (lower cA (n + 60)) 100 [AV.agg (lkL xs m c fe), (Fm.av x)] S = some (AV.fn (Fn.func 129) [] [AV.eptr (lkL xs m c fe) 0, AV.eptr (Fm.row x) 0], S)) (l2 : RangeIs cA (lower cA (n + 60)) (n + 60 + 1) 48 none (codeAt (codeOf (Cfg.P cA) 48) [1, 1, 1, 0, 1, 0]) 25 [] [(6, AV.ptr 2 0), (7, AV.ptr 3 0), (22, AV.fn (Fn.func 129) [] [AV.eptr (lkL xs m c fe) 0, AV.eptr (Fm.row x) 0])] (AS.mk [AObj.cells (Fm.row x) 27, AObj.cells (opL c fe) 53, AObj.cells [vI (Int.ofNat 0)] 3, AObj.cells [vI (Int.ofNat 0)] 28, AObj.cells (lkL xs m c fe) 114] [] 0 0) Exit.normal (AS.mk [AObj.cells (Fm.row x) 27, AObj.cells (opL c fe) 53, AObj.cells [vI (Int.ofNat 0)] 3, AObj.cells [vI (Int.ofNat 0)] 28, AObj.cells (lkL xs m c fe) 114, AObj.dfr, AObj.dead] [] 0 0)) : Path cA 48 [(Fm.av x), la xs, AV.agg (opL c fe)] (AV.tup [vI (Int.negSucc 0), vI (Int.ofNat 0)]) (n + 60) :=
  Path.of (ds := [(6, Tell.fr (AV.tup [AV.agg (lkL xs m c fe), vI (Int.ofNat 0)])), (11, Tell.fr (AV.fn (Fn.func 129) [] [AV.eptr (lkL xs m c fe) 0, AV.eptr (Fm.row x) 0])), (0, Tell.rf [6, 7, 22] Exit.normal (AS.mk [AObj.cells (Fm.row x) 27, AObj.cells (opL c fe) 53, AObj.cells [vI (Int.ofNat 0)] 3, AObj.cells [vI (Int.ofNat 0)] 28, AObj.cells (lkL xs m c fe) 114, AObj.dfr, AObj.dead] [] 0 0))]) (cs := [∀ (S : AS), Lw.call (lower cA (n + 60)) 99 [la xs, AV.agg (opL c fe)] S = some (AV.tup [AV.agg (lkL xs m c fe), vI (Int.ofNat 0)], S), ∀ (S : AS), Lw.call (lower cA (n + 60)) 100 [AV.agg (lkL xs m c fe), (Fm.av x)] S = some (AV.fn (Fn.func 129) [] [AV.eptr (lkL xs m c fe) 0, AV.eptr (Fm.row x) 0], S), RangeIs cA (lower cA (n + 60)) (n + 60 + 1) 48 none (codeAt (codeOf (Cfg.P cA) 48) [1, 1, 1, 0, 1, 0]) 25 [] [(6, AV.ptr 2 0), (7, AV.ptr 3 0), (22, AV.fn (Fn.func 129) [] [AV.eptr (lkL xs m c fe) 0, AV.eptr (Fm.row x) 0])] (AS.mk [AObj.cells (Fm.row x) 27, AObj.cells (opL c fe) 53, AObj.cells [vI (Int.ofNat 0)] 3, AObj.cells [vI (Int.ofNat 0)] 28, AObj.cells (lkL xs m c fe) 114] [] 0 0) Exit.normal (AS.mk [AObj.cells (Fm.row x) 27, AObj.cells (opL c fe) 53, AObj.cells [vI (Int.ofNat 0)] 3, AObj.cells [vI (Int.ofNat 0)] 28, AObj.cells (lkL xs m c fe) 114, AObj.dfr, AObj.dead] [] 0 0)]) (x := AV.tup [vI (Int.negSucc 0), vI (Int.ofNat 0)]) (S2 := AS.mk [AObj.cells (Fm.row x) 27, AObj.cells (opL c fe) 53, AObj.cells [vI (Int.negSucc 0)] 3, AObj.cells [vI (Int.ofNat 0)] 28, AObj.cells (lkL xs m c fe) 114, AObj.dead, AObj.dead] [] 0 0) (by kernel_rfl) ⟨c0, c1, l2, trivial⟩ rfl -- Exit.ret
theorem b48_1 (xs : List Fm) (x : Fm) (m : Int) (c : Int) (i : Int) (fe : Bool) (n : Nat) (c0 : ∀ (S : AS), Lw.call (lower cA (n + 60)) 99 [la xs, AV.agg (opL c fe)] S = some (AV.tup [AV.agg (lkL xs m c fe), vI (Int.ofNat 0)], S)) (c1 : ∀ (S : AS), Lw.call (lower cA (n + 60)) 100 [AV.agg (lkL xs m c fe), (Fm.av x)] S = some (AV.fn (Fn.func 129) [] [AV.eptr (lkL xs m c fe) 0, AV.eptr (Fm.row x) 0], S)) (l2 : RangeIs cA (lower cA (n + 60)) (n + 60 + 1) 48 none (codeAt (codeOf (Cfg.P cA) 48) [1, 1, 1, 0, 1, 0]) 25 [] [(6, AV.ptr 2 0), (7, AV.ptr 3 0), (22, AV.fn (Fn.func 129) [] [AV.eptr (lkL xs m c fe) 0, AV.eptr (Fm.row x) 0])] (AS.mk [AObj.cells (Fm.row x) 27, AObj.cells (opL c fe) 53, AObj.cells [vI (Int.ofNat 0)] 3, AObj.cells [vI (Int.ofNat 0)] 28, AObj.cells (lkL xs m c fe) 114] [] 0 0) Exit.ret (AS.mk [AObj.cells (Fm.row x) 27, AObj.cells (opL c fe) 53, AObj.cells [vI i] 3, AObj.cells [vI (Int.ofNat 0)] 28, AObj.cells (lkL xs m c fe) 114, AObj.dfr, AObj.dead] [] 0 0)) : Path cA 48 [(Fm.av x), la xs, AV.agg (opL c fe)] (AV.tup [vI i, vI (Int.ofNat 0)]) (n + 60) :=
  Path.of (ds := [(6, Tell.fr (AV.tup [AV.agg (lkL xs m c fe), vI (Int.ofNat 0)])), (11, Tell.fr (AV.fn (Fn.func 129) [] [AV.eptr (lkL xs m c fe) 0, AV.eptr (Fm.row x) 0])), (0, Tell.rf [6, 7, 22] Exit.ret (AS.mk [AObj.cells (Fm.row x) 27, AObj.cells (opL c fe) 53, AObj.cells [vI i] 3, AObj.cells [vI (Int.ofNat 0)] 28, AObj.cells (lkL xs m c fe) 114, AObj.dfr, AObj.dead] [] 0 0))]) (cs := [∀ (S : AS), Lw.call (lower cA (n + 60)) 99 [la xs, AV.agg (opL c fe)] S = some (AV.tup [AV.agg (lkL xs m c fe), vI (Int.ofNat 0)], S), ∀ (S : AS), Lw.call (lower cA (n + 60)) 100 [AV.agg (lkL xs m c fe), (Fm.av x)] S = some (AV.fn (Fn.func 129) [] [AV.eptr (lkL xs m c fe) 0, AV.eptr (Fm.row x) 0], S), RangeIs cA (lower cA (n + 60)) (n + 60 + 1) 48 none (codeAt (codeOf (Cfg.P cA) 48) [1, 1, 1, 0, 1, 0]) 25 [] [(6, AV.ptr 2 0), (7, AV.ptr 3 0), (22, AV.fn (Fn.func 129) [] [AV.eptr (lkL xs m c fe) 0, AV.eptr (Fm.row x) 0])] (AS.mk [AObj.cells (Fm.row x) 27, AObj.cells (opL c fe) 53, AObj.cells [vI (Int.ofNat 0)] 3, AObj.cells [vI (Int.ofNat 0)] 28, AObj.cells (lkL xs m c fe) 114] [] 0 0) Exit.ret (AS.mk [AObj.cells (Fm.row x) 27, AObj.cells (opL c fe) 53, AObj.cells [vI i] 3, AObj.cells [vI (Int.ofNat 0)] 28, AObj.cells (lkL xs m c fe) 114, AObj.dfr, AObj.dead] [] 0 0)]) (x := AV.tup [vI i, vI (Int.ofNat 0)]) (S2 := AS.mk [AObj.cells (Fm.row x) 27, AObj.cells (opL c fe) 53, AObj.cells [vI i] 3, AObj.cells [vI (Int.ofNat 0)] 28, AObj.cells (lkL xs m c fe) 114, AObj.dead, AObj.dead] [] 0 0) (by kernel_rfl) ⟨c0, c1, l2, trivial⟩ rfl -- Exit.ret
theorem a49_1 (xs : List Fm) (x : Fm) (m : Int) (c : Int) (k : Int) (fe : Bool) (n : Nat) (c0 : ∀ (S : AS), Lw.call (lower cA (n + 60)) 99 [la xs, AV.agg (opL c fe)] S = some (AV.tup [AV.agg (lkL xs m c fe), vI (Int.ofNat 0)], S)) (c1 : ∀ (S : AS), Lw.call (lower cA (n + 60)) 100 [AV.agg (lkL xs m c fe), (Fm.av x)] S = some (AV.fn (Fn.func 129) [] [AV.eptr (lkL xs m c fe) 0, AV.eptr (Fm.row x) 0], S)) (l2 : RangeIs cA (lower cA (n + 60)) (n + 60 + 1) 49 none (codeAt (codeOf (Cfg.P cA) 49) [1, 1, 1, 0, 1, 0, 1, 0]) 27 [] [(10, AV.ptr 3 0), (21, AV.fn (Fn.func 129) [] [AV.eptr (lkL xs m c fe) 0, AV.eptr (Fm.row x) 0])] (AS.mk [AObj.cells (Fm.row x) 27, AObj.cells (opL c fe) 53, AObj.cells (lkL xs m c fe) 114, AObj.cells [vI (Int.ofNat 0)] 3] [] 0 0) Exit.normal (AS.mk [AObj.cells (Fm.row x) 27, AObj.cells (opL c fe) 53, AObj.cells (lkL xs m c fe) 114, AObj.cells [vI k] 3, AObj.dfr, AObj.dead] [] 0 0)) : Path cA 49 [(Fm.av x), la xs, AV.agg (opL c fe)] (AV.tup [vI k, vI (Int.ofNat 0)]) (n + 60) :=
  Path.of (ds := [(6, Tell.fr (AV.tup [AV.agg (lkL xs m c fe), vI (Int.ofNat 0)])), (13, Tell.fr (AV.fn (Fn.func 129) [] [AV.eptr (lkL xs m c fe) 0, AV.eptr (Fm.row x) 0])), (0, Tell.rf [10, 21] Exit.normal (AS.mk [AObj.cells (Fm.row x) 27, AObj.cells (opL c fe) 53, AObj.cells (lkL xs m c fe) 114, AObj.cells [vI k] 3, AObj.dfr, AObj.dead] [] 0 0))]) (cs := [∀ (S : AS), Lw.call (lower cA (n + 60)) 99 [la xs, AV.agg (opL c fe)] S = some (AV.tup [AV.agg (lkL xs m c fe), vI (Int.ofNat 0)], S), ∀ (S : AS), Lw.call (lower cA (n + 60)) 100 [AV.agg (lkL xs m c fe), (Fm.av x)] S = some (AV.fn (Fn.func 129) [] [AV.eptr (lkL xs m c fe) 0, AV.eptr (Fm.row x) 0], S), RangeIs cA (lower cA (n + 60)) (n + 60 + 1) 49 none (codeAt (codeOf (Cfg.P cA) 49) [1, 1, 1, 0, 1, 0, 1, 0]) 27 [] [(10, AV.ptr 3 0), (21, AV.fn (Fn.func 129) [] [AV.eptr (lkL xs m c fe) 0, AV.eptr (Fm.row x) 0])] (AS.mk [AObj.cells (Fm.row x) 27, AObj.cells (opL c fe) 53, AObj.cells (lkL xs m c fe) 114, AObj.cells [vI (Int.ofNat 0)] 3] [] 0 0) Exit.normal (AS.mk [AObj.cells (Fm.row x) 27, AObj.cells (opL c fe) 53, AObj.cells (lkL xs m c fe) 114, AObj.cells [vI k] 3, AObj.dfr, AObj.dead] [] 0 0)]) (x := AV.tup [vI k, vI (Int.ofNat 0)]) (S2 := AS.mk [AObj.cells (Fm.row x) 27, AObj.cells (opL c fe) 53, AObj.cells (lkL xs m c fe) 114, AObj.cells [vI k] 3, AObj.dead, AObj.dead] [] 0 0) (by kernel_rfl) ⟨c0, c1, l2, trivial⟩ rfl -- Exit.ret
theorem a102_1 (xs : List Fm) (x : Fm) (bs : List AV) (ds : List AV) (k : Nat) (m : Int) (c : Int) (q : Int) (fe : Bool) (n : Nat) (c0 : ∀ (S : AS), Lw.call (lower cA (n + 60)) 99 [la xs, AV.agg (opL c fe)] S = some (AV.tup [AV.agg (lkL xs m c fe), vI (Int.ofNat 0)], S)) (c1 : amakeSlice (Cfg.P cA) true (AS.mk [AObj.cells (Fm.row x) 27, AObj.cells (opL c fe) 53, AObj.cells (lkL xs m c fe) 114] [] 0 0) 110 (vI (↑(List.length (List.map Fm.row xs)) : Int)) (vI (↑(List.length (List.map Fm.row xs)) : Int)) = some (AV.slc 3 1 0 k k, AS.mk [AObj.cells (Fm.row x) 27, AObj.cells (opL c fe) 53, AObj.cells (lkL xs m c fe) 114, AObj.cells bs 4] [] 0 0)) (c2 : ∀ (S : AS), Lw.call (lower cA (n + 60)) 100 [AV.agg (lkL xs m c fe), (Fm.av x)] S = some (AV.fn (Fn.func 129) [] [AV.eptr (lkL xs m c fe) 0, AV.eptr (Fm.row x) 0], S)) (l3 : RangeIs cA (lower cA (n + 60)) (n + 60 + 1) 102 none (codeAt (codeOf (Cfg.P cA) 102) [1, 1, 1, 1, 1, 0, 1, 0]) 39 [] [(5, AV.ptr 1 0), (10, AV.ptr 4 0), (11, AV.ptr 5 0), (27, AV.fn (Fn.func 129) [] [AV.eptr (lkL xs m c fe) 0, AV.eptr (Fm.row x) 0])] (AS.mk [AObj.cells (Fm.row x) 27, AObj.cells (opL c fe) 53, AObj.cells (lkL xs m c fe) 114, AObj.cells bs 4, AObj.cells [AV.slc 3 1 0 k k] 110, AObj.cells [vI (Int.ofNat 0)] 3] [] 0 0) Exit.normal (AS.mk [AObj.cells (Fm.row x) 27, AObj.cells (opL c fe) 53, AObj.cells (lkL xs m c fe) 114, AObj.cells ds 4, AObj.cells [AV.slc 3 1 0 k k] 110, AObj.cells [vI q] 3, AObj.dfr, AObj.dead] [] 0 0)) (y : AV) (hy : lend (AS.mk [AObj.cells (Fm.row x) 27, AObj.cells (opL c fe) 53, AObj.cells (lkL xs m c fe) 114, AObj.cells ds 4, AObj.cells [AV.slc 3 1 0 k k] 110, AObj.cells [vI q] 3, AObj.dead, AObj.dead] [] 0 0) (AV.tup [AV.slc 3 1 0 k k, vI (Int.ofNat 0)]) = some y) : Path cA 102 [(Fm.av x), la xs, AV.agg (opL c fe)] y (n + 60) :=
  Path.of (ds := [(6, Tell.fr (AV.tup [AV.agg (lkL xs m c fe), vI (Int.ofNat 0)])), (11, Tell.op (AV.slc 3 1 0 k k) (AS.mk [AObj.cells (Fm.row x) 27, AObj.cells (opL c fe) 53, AObj.cells (lkL xs m c fe) 114, AObj.cells bs 4] [] 0 0)), (6, Tell.fr (AV.fn (Fn.func 129) [] [AV.eptr (lkL xs m c fe) 0, AV.eptr (Fm.row x) 0])), (0, Tell.rf [5, 10, 11, 27] Exit.normal (AS.mk [AObj.cells (Fm.row x) 27, AObj.cells (opL c fe) 53, AObj.cells (lkL xs m c fe) 114, AObj.cells ds 4, AObj.cells [AV.slc 3 1 0 k k] 110, AObj.cells [vI q] 3, AObj.dfr, AObj.dead] [] 0 0))]) (cs := [∀ (S : AS), Lw.call (lower cA (n + 60)) 99 [la xs, AV.agg (opL c fe)] S = some (AV.tup [AV.agg (lkL xs m c fe), vI (Int.ofNat 0)], S), amakeSlice (Cfg.P cA) true (AS.mk [AObj.cells (Fm.row x) 27, AObj.cells (opL c fe) 53, AObj.cells (lkL xs m c fe) 114] [] 0 0) 110 (vI (↑(List.length (List.map Fm.row xs)) : Int)) (vI (↑(List.length (List.map Fm.row xs)) : Int)) = some (AV.slc 3 1 0 k k, AS.mk [AObj.cells (Fm.row x) 27, AObj.cells (opL c fe) 53, AObj.cells (lkL xs m c fe) 114, AObj.cells bs 4] [] 0 0), ∀ (S : AS), Lw.call (lower cA (n + 60)) 100 [AV.agg (lkL xs m c fe), (Fm.av x)] S = some (AV.fn (Fn.func 129) [] [AV.eptr (lkL xs m c fe) 0, AV.eptr (Fm.row x) 0], S), RangeIs cA (lower cA (n + 60)) (n + 60 + 1) 102 none (codeAt (codeOf (Cfg.P cA) 102) [1, 1, 1, 1, 1, 0, 1, 0]) 39 [] [(5, AV.ptr 1 0), (10, AV.ptr 4 0), (11, AV.ptr 5 0), (27, AV.fn (Fn.func 129) [] [AV.eptr (lkL xs m c fe) 0, AV.eptr (Fm.row x) 0])] (AS.mk [AObj.cells (Fm.row x) 27, AObj.cells (opL c fe) 53, AObj.cells (lkL xs m c fe) 114, AObj.cells bs 4, AObj.cells [AV.slc 3 1 0 k k] 110, AObj.cells [vI (Int.ofNat 0)] 3] [] 0 0) Exit.normal (AS.mk [AObj.cells (Fm.row x) 27, AObj.cells (opL c fe) 53, AObj.cells (lkL xs m c fe) 114, AObj.cells ds 4, AObj.cells [AV.slc 3 1 0 k k] 110, AObj.cells [vI q] 3, AObj.dfr, AObj.dead] [] 0 0)]) (x := AV.tup [AV.slc 3 1 0 k k, vI (Int.ofNat 0)]) (S2 := AS.mk [AObj.cells (Fm.row x) 27, AObj.cells (opL c fe) 53, AObj.cells (lkL xs m c fe) 114, AObj.cells ds 4, AObj.cells [AV.slc 3 1 0 k k] 110, AObj.cells [vI q] 3, AObj.dead, AObj.dead] [] 0 0) (by kernel_rfl) ⟨c0, c1, c2, l3, trivial⟩ hy -- Exit.ret
theorem b102_1 (xs : List Fm) (x : Fm) (bs : List AV) (ds : List AV) (k : Nat) (m : Int) (c : Int) (q : Int) (fe : Bool) (n : Nat) (c0 : ∀ (S : AS), Lw.call (lower cA (n + 60)) 99 [la xs, AV.agg (opL c fe)] S = some (AV.tup [AV.agg (lkL xs m c fe), vI (Int.ofNat 0)], S)) (c1 : amakeSlice (Cfg.P cA) true (AS.mk [AObj.cells (Fm.row x) 27, AObj.cells (opL c fe) 53, AObj.cells (lkL xs m c fe) 114] [] 0 0) 110 (vI (↑(List.length (List.map Fm.row xs)) : Int)) (vI (↑(List.length (List.map Fm.row xs)) : Int)) = some (AV.slc 3 1 0 k k, AS.mk [AObj.cells (Fm.row x) 27, AObj.cells (opL c fe) 53, AObj.cells (lkL xs m c fe) 114, AObj.cells bs 4] [] 0 0)) (c2 : ∀ (S : AS), Lw.call (lower cA (n + 60)) 100 [AV.agg (lkL xs m c fe), (Fm.av x)] S = some (AV.fn (Fn.func 129) [] [AV.eptr (lkL xs m c fe) 0, AV.eptr (Fm.row x) 0], S)) (l3 : RangeIs cA (lower cA (n + 60)) (n + 60 + 1) 102 none (codeAt (codeOf (Cfg.P cA) 102) [1, 1, 1, 1, 1, 0, 1, 0]) 39 [] [(5, AV.ptr 1 0), (10, AV.ptr 4 0), (11, AV.ptr 5 0), (27, AV.fn (Fn.func 129) [] [AV.eptr (lkL xs m c fe) 0, AV.eptr (Fm.row x) 0])] (AS.mk [AObj.cells (Fm.row x) 27, AObj.cells (opL c fe) 53, AObj.cells (lkL xs m c fe) 114, AObj.cells bs 4, AObj.cells [AV.slc 3 1 0 k k] 110, AObj.cells [vI (Int.ofNat 0)] 3] [] 0 0) (Exit.exit 0) (AS.mk [AObj.cells (Fm.row x) 27, AObj.cells (opL c fe) 53, AObj.cells (lkL xs m c fe) 114, AObj.cells ds 4, AObj.cells [AV.slc 3 1 0 k k] 110, AObj.cells [vI q] 3, AObj.dfr, AObj.dead] [] 0 0)) (y : AV) (hy : lend (AS.mk [AObj.cells (Fm.row x) 27, AObj.cells (opL c fe) 53, AObj.cells (lkL xs m c fe) 114, AObj.cells ds 4, AObj.cells [AV.slc 3 1 0 k k] 110, AObj.cells [vI q] 3, AObj.dead, AObj.dead] [] 0 0) (AV.tup [AV.slc 3 1 0 k k, vI (Int.ofNat 0)]) = some y) : Path cA 102 [(Fm.av x), la xs, AV.agg (opL c fe)] y (n + 60) :=
  Path.of (ds := [(6, Tell.fr (AV.tup [AV.agg (lkL xs m c fe), vI (Int.ofNat 0)])), (11, Tell.op (AV.slc 3 1 0 k k) (AS.mk [AObj.cells (Fm.row x) 27, AObj.cells (opL c fe) 53, AObj.cells (lkL xs m c fe) 114, AObj.cells bs 4] [] 0 0)), (6, Tell.fr (AV.fn (Fn.func 129) [] [AV.eptr (lkL xs m c fe) 0, AV.eptr (Fm.row x) 0])), (0, Tell.rf [5, 10, 11, 27] (Exit.exit 0) (AS.mk [AObj.cells (Fm.row x) 27, AObj.cells (opL c fe) 53, AObj.cells (lkL xs m c fe) 114, AObj.cells ds 4, AObj.cells [AV.slc 3 1 0 k k] 110, AObj.cells [vI q] 3, AObj.dfr, AObj.dead] [] 0 0))]) (cs := [∀ (S : AS), Lw.call (lower cA (n + 60)) 99 [la xs, AV.agg (opL c fe)] S = some (AV.tup [AV.agg (lkL xs m c fe), vI (Int.ofNat 0)], S), amakeSlice (Cfg.P cA) true (AS.mk [AObj.cells (Fm.row x) 27, AObj.cells (opL c fe) 53, AObj.cells (lkL xs m c fe) 114] [] 0 0) 110 (vI (↑(List.length (List.map Fm.row xs)) : Int)) (vI (↑(List.length (List.map Fm.row xs)) : Int)) = some (AV.slc 3 1 0 k k, AS.mk [AObj.cells (Fm.row x) 27, AObj.cells (opL c fe) 53, AObj.cells (lkL xs m c fe) 114, AObj.cells bs 4] [] 0 0), ∀ (S : AS), Lw.call (lower cA (n + 60)) 100 [AV.agg (lkL xs m c fe), (Fm.av x)] S = some (AV.fn (Fn.func 129) [] [AV.eptr (lkL xs m c fe) 0, AV.eptr (Fm.row x) 0], S), RangeIs cA (lower cA (n + 60)) (n + 60 + 1) 102 none (codeAt (codeOf (Cfg.P cA) 102) [1, 1, 1, 1, 1, 0, 1, 0]) 39 [] [(5, AV.ptr 1 0), (10, AV.ptr 4 0), (11, AV.ptr 5 0), (27, AV.fn (Fn.func 129) [] [AV.eptr (lkL xs m c fe) 0, AV.eptr (Fm.row x) 0])] (AS.mk [AObj.cells (Fm.row x) 27, AObj.cells (opL c fe) 53, AObj.cells (lkL xs m c fe) 114, AObj.cells bs 4, AObj.cells [AV.slc 3 1 0 k k] 110, AObj.cells [vI (Int.ofNat 0)] 3] [] 0 0) (Exit.exit 0) (AS.mk [AObj.cells (Fm.row x) 27, AObj.cells (opL c fe) 53, AObj.cells (lkL xs m c fe) 114, AObj.cells ds 4, AObj.cells [AV.slc 3 1 0 k k] 110, AObj.cells [vI q] 3, AObj.dfr, AObj.dead] [] 0 0)]) (x := AV.tup [AV.slc 3 1 0 k k, vI (Int.ofNat 0)]) (S2 := AS.mk [AObj.cells (Fm.row x) 27, AObj.cells (opL c fe) 53, AObj.cells (lkL xs m c fe) 114, AObj.cells ds 4, AObj.cells [AV.slc 3 1 0 k k] 110, AObj.cells [vI q] 3, AObj.dead, AObj.dead] [] 0 0) (by kernel_rfl) ⟨c0, c1, c2, l3, trivial⟩ hy -- Exit.ret
theorem f115n_1 (x : Fm) (y : Fm) (r : Bool) (n : Nat) (h0 : (Fm.kind x == Fm.kind y) = true) (h1 : (ByteArray.toList (Fm.text x) == ByteArray.toList (Fm.text y)) = true) (h2 : (ByteArray.toList (Fm.home x) == ByteArray.toList (Fm.home y)) = true) (c3 : ∀ (S : AS), Lw.call (lower cA (n + 60)) 81 [AV.lst Cap.any (Fm.rows x), AV.lst Cap.any (Fm.rows y), AV.fn (Fn.func 115) [] []] S = some (vB r, S)) : Path cA 115 [(Fm.av x), (Fm.av y)] (vB r) (n + 60) :=
  Path.of (ds := [(7, Tell.b true), (10, Tell.b true), (11, Tell.b true), (11, Tell.fr (vB r))]) (cs := [(Fm.kind x == Fm.kind y) = true, (ByteArray.toList (Fm.text x) == ByteArray.toList (Fm.text y)) = true, (ByteArray.toList (Fm.home x) == ByteArray.toList (Fm.home y)) = true, ∀ (S : AS), Lw.call (lower cA (n + 60)) 81 [AV.lst Cap.any (Fm.rows x), AV.lst Cap.any (Fm.rows y), AV.fn (Fn.func 115) [] []] S = some (vB r, S)]) (x := vB r) (S2 := AS.mk [AObj.cells (Fm.row x) 27, AObj.cells (Fm.row y) 27] [] 0 0) (by kernel_rfl) ⟨h0, h1, h2, c3, trivial⟩ rfl -- Exit.ret
theorem f115n_2 (x : Fm) (y : Fm) (r : Bool) (n : Nat) (h0 : (Fm.kind x == Fm.kind y) = true) (h1 : (ByteArray.toList (Fm.text x) == ByteArray.toList (Fm.text y)) = true) (h2 : (ByteArray.toList (Fm.home x) == ByteArray.toList (Fm.home y)) = false) : Path cA 115 [(Fm.av x), (Fm.av y)] (vB false) (n + 60) :=
  Path.of (ds := [(7, Tell.b true), (10, Tell.b true), (11, Tell.b false)]) (cs := [(Fm.kind x == Fm.kind y) = true, (ByteArray.toList (Fm.text x) == ByteArray.toList (Fm.text y)) = true, (ByteArray.toList (Fm.home x) == ByteArray.toList (Fm.home y)) = false]) (x := vB false) (S2 := AS.mk [AObj.cells (Fm.row x) 27, AObj.cells (Fm.row y) 27] [] 0 0) (by kernel_rfl) ⟨h0, h1, h2, trivial⟩ rfl -- Exit.ret
theorem f115n_3 (x : Fm) (y : Fm) (r : Bool) (n : Nat) (h0 : (Fm.kind x == Fm.kind y) = true) (h1 : (ByteArray.toList (Fm.text x) == ByteArray.toList (Fm.text y)) = false) : Path cA 115 [(Fm.av x), (Fm.av y)] (AV.v (Value.bool false)) (n + 60) :=
  Path.of (ds := [(7, Tell.b true), (10, Tell.b false)]) (cs := [(Fm.kind x == Fm.kind y) = true, (ByteArray.toList (Fm.text x) == ByteArray.toList (Fm.text y)) = false]) (x := vB false) (S2 := AS.mk [AObj.cells (Fm.row x) 27, AObj.cells (Fm.row y) 27] [] 0 0) (by kernel_rfl) ⟨h0, h1, trivial⟩ rfl -- Exit.ret
theorem f115n_4 (x : Fm) (y : Fm) (r : Bool) (n : Nat) (h0 : (Fm.kind x == Fm.kind y) = false) : Path cA 115 [(Fm.av x), (Fm.av y)] (AV.v (Value.bool false)) (n + 60) :=
  Path.of (ds := [(7, Tell.b false)]) (cs := [(Fm.kind x == Fm.kind y) = false]) (x := AV.v (Value.bool false)) (S2 := AS.mk [AObj.cells (Fm.row x) 27, AObj.cells (Fm.row y) 27] [] 0 0) (by kernel_rfl) ⟨h0, trivial⟩ rfl -- Exit.ret


theorem of_weak' {C D : Cfg} {f : Nat} {args : List AV} {x : AV} (hX : D.X f = some (weakCall C f)) (h : Fr C f (weakL args) x) : Fr D f args (weakV x) :=
  ⟨1, fun n hn S => by
    obtain ⟨m, rfl⟩ : ∃ m, n = m + 1 := ⟨n - 1, by omega⟩
    simp only [lower, hX, weakCall, evtCall_fr h, Option.map_some]⟩

/-- What speaks of no object is seen as it is. -/
theorem lend_own {S : AS} {x : AV} (h : Go.AM.Own [x]) : lend S x = some x := by
  have h1 : x.old 0 = true := by have := h.below; simpa [belowAll] using this
  have h2 : x.shut 0 = x := by have := h.same; simpa [sealAll] using this
  unfold lend
  rw [lendV_old _ _ _ h1, h2]
theorem Own.agg {l k : List AV} (h : Go.AM.Own l) (hk : Go.AM.Own k) : Go.AM.Own (.agg l :: k) := hk.cons (by simp only [AV.old, h.below]) (by simp only [AV.shut, h.same])
theorem Own.tup {l k : List AV} (h : Go.AM.Own l) (hk : Go.AM.Own k) : Go.AM.Own (.tup l :: k) := hk.cons (by simp only [AV.old, h.below]) (by simp only [AV.shut, h.same])
theorem own_op (c : Int) (fe : Bool) : Go.AM.Own (opL c fe) := Own.v (Own.v (Own.v (Own.v (Own.v (Own.v (Own.v Own.nil))))))
theorem own_lk (xs : List Fm) (m c : Int) (fe : Bool) : Go.AM.Own (lkL xs m c fe) := Own.v (Own.v (Own.v (Own.v (Own.v (Own.v (Own.v (Own.lst rfl Own.nil)))))))

theorem w91 (xs : List Fm) (hb : xs.length ≤ 2000) : Fr cA 91 [.lst .exact [[la xs]]] (.v (.int .i64 0)) := by
  refine of_weak' (C := cfg) (D := cA) (f := 91) (args := [.lst .exact [[la xs]]]) (x := .v (.int .i64 0)) rfl ?_
  have hw : weakL [.lst .exact [[la xs]]] = [.lst .any [[la xs]]] := by
    show [weakV (.lst .exact [[la xs]])] = _
    unfold weakV
    simp only [weakR, weakL, weak_la]
  rw [hw]
  exact Fr.of_co rfl (by kernel_rfl) (Own.cons (by have := (Own.lst rfl Own.nil : Go.AM.Own [la xs]); simp only [AV.old, belowRows, this.below, Bool.and_self]) (by have := (Own.lst rfl Own.nil : Go.AM.Own [la xs]); simp only [AV.shut, sealRows, this.same]) Own.nil) (Co.path (by kernel_rfl) (Evt.shift (Evt.of fun n => f91_2 .any xs n (decide_eq_false (by simp; omega)))))
theorem w106 (c : Int) (fe : Bool) (hc : -1 ≤ c) : Fr cA 106 [op7 c fe] (.v (.bool false)) := by
  have h : Fr cfg 106 [op7 c fe] (.v (.bool (decide (c < -1)))) := Fr.of_co rfl (by kernel_rfl) (Own.agg (own_op c fe) Own.nil) (Co.path (by kernel_rfl) (Evt.shift (Evt.of fun n => f106_1 fe 0 (-1) c n)))
  rw [decide_eq_false (by omega)] at h
  exact of_weak rfl rfl h
theorem w92 (m : Nat) : Fr cA 92 [.v (.int .i64 0), .v (.int .i64 (-1)), .v (.int .i64 m)] (.tup [.v (.int .i64 m), .v (.int .i64 0)]) := by
  have := ck92 0 (-1) m
  have hr : rng 0 (-1) m = some (0, m) := by unfold rng; rw [if_pos rfl, if_pos (by omega)]; rfl
  rw [hr] at this
  exact of_weak rfl rfl this
theorem w107 (xs : List Fm) (hb : xs.length ≤ 2000) : Fr cA 107 [la xs, .v (.int .i64 0), .v (.int .i64 xs.length), .v (.int .i64 0)] (.tup [la xs, .v (.int .i64 0)]) := by
  have := of_weak (D := cA) rfl (by simp only [weakL, weak_la]; rfl) (taken107 xs hb)
  have hw : weakV (.tup [acL (xs.map Fm.row), .v (.int .i64 0)]) = .tup [la xs, .v (.int .i64 0)] := by
    unfold weakV
    simp only [weakL, weak_acL_map]
    rfl
  rwa [hw] at this

theorem begin99 (xs : List Fm) (hb : xs.length ≤ 2000) (c : Int) (hc : -1 ≤ c) (fe : Bool) : Fr cA 99 [la xs, op7 c fe] (.tup [.agg (lkL xs xs.length c fe), .v (.int .i64 0)]) := by
  refine Fr.of_co rfl (by kernel_rfl) (Own.lst rfl (Own.agg (own_op c fe) Own.nil)) (Co.path (by kernel_rfl) (Evt.shift ?_))
  have hk := ((w91 xs hb).shift.and (w106 c fe hc).shift).and ((w92 xs.length).shift.and (w107 xs hb).shift)
  refine hk.mono fun n hn => ?_
  refine f99_2 xs c xs.length fe false n hn.1.1 hn.1.2 rfl (fun S => by rw [len_row]; exact hn.2.1 S) hn.2.2 _ (lend_own (Own.tup (Own.agg (own_lk xs _ c fe) (Own.v Own.nil)) Own.nil))

theorem lend_fn2 {S : AS} {f : Fn} {o1 o2 : Nat} {l1 l2 : List AV} {T1 T2 : TypeId} (h1 : S.cellsAt o1 = some (l1, T1)) (h2 : S.cellsAt o2 = some (l2, T2)) (k1 : lendAll 4 S l1 = some l1) (k2 : lendAll 4 S l2 = some l2) : lend S (.fn f [] [.ptr o1 0, .ptr o2 0]) = some (.fn f [] [.eptr l1 0, .eptr l2 0]) := by
  unfold lend
  simp only [lendV, lendL, h1, h2, k1, k2]

theorem takes100 (xs : List Fm) (m c : Int) (fe : Bool) (x : Fm) : Fr cA 100 [.agg (lkL xs m c fe), x.av] (itV xs m c fe x) := by
  refine Fr.of_co rfl (by kernel_rfl) (Own.agg (own_lk xs m c fe) (Own.fm Own.nil)) (Co.path (by kernel_rfl) (Evt.shift (Evt.of fun n => ?_)))
  refine f100_1 xs c m fe x n _ ?_
  exact lend_fn2 rfl rfl (by unfold lendAll; rw [lendL_old _ _ _ (own_lk xs m c fe).below, (own_lk xs m c fe).same]) (lendAll_row _ 4 x)

theorem w85 : Fr cA 85 [] (.agg [.fn (.func 115) [] [], .fn (.func 116) [] []]) :=
  Fr.of_co rfl (by kernel_rfl) Own.nil (Co.path (by kernel_rfl) (Evt.shift (Evt.of fun n => f85_1 n _ (lend_own (Own.agg (Own.fun_ (Own.fun_ Own.nil)) Own.nil)))))

/-- Forms without kids. -/
def Flat (x : Fm) : Prop := x.kids = []
theorem w115 (x y : Fm) (hx : Flat x) (hy : Flat y) : Fr cA 115 [x.av, y.av] (.v (.bool (same x y))) := by
  have h : Fr cfg 115 [x.av, y.av] (.v (.bool (same x y))) := by
    refine Fr.of_co rfl (by kernel_rfl) (Own.fm (Own.fm Own.nil)) (Co.path (by kernel_rfl) (Evt.shift (Evt.of fun n => ?_)))
    obtain ⟨k, s, h, l⟩ := x
    obtain ⟨k2, s2, h2, l2⟩ := y
    obtain rfl : l = [] := hx
    obtain rfl : l2 = [] := hy
    by_cases q1 : k = k2
    · by_cases q2 : s = s2
      · by_cases q3 : h = h2
        · rw [sameT (by rw [q1, q2, q3])]
          exact e115_1 k k2 s s2 h h2 n (beqT q1) (beqT (by rw [q2])) (beqT (by rw [q3]))
        · rw [sameF (fun e => q3 (Fm.mk.inj e).2.2.1)]
          exact e115_2 k k2 s s2 h h2 n (beqT q1) (beqT (by rw [q2])) (beqF (fun e => q3 (ba_list e)))
      · rw [sameF (fun e => q2 (Fm.mk.inj e).2.1)]
        exact e115_3 k k2 s s2 h h2 n (beqT q1) (beqF (fun e => q2 (ba_list e)))
    · rw [sameF (fun e => q1 (Fm.mk.inj e).1)]
      exact e115_4 k k2 s s2 h h2 n (beqF q1)
  exact of_weak rfl (by simp only [weakL, weak_av]) h
end Go.Proofs.YtamemdhmjglifaaGreatDoor
