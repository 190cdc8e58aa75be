/- Chapter 12: lists that grow; the digits; the keys of a range. -/
import Derived.Test.YtamemdhmjglifaaGreatDoorQC
import Derived.Test.YtamemdhmjglifaaGreatDoorQA
namespace Go.Proofs.YtamemdhmjglifaaGreatDoor
open Go.RowKit Go.AM
set_option maxRecDepth 100000
set_option linter.unusedVariables false
theorem b63_1 (c : Cap) (bs : List (List AV)) (b : Int) (m : Int) (zs : List (List AV)) (ws : List (List AV)) (s : ByteArray) (k : Nat) (k1 : Nat) (i : Int) (n : Nat) (h0 : decide (i < m) = true) (c1 : aindexAddr (Cfg.P cfg) 34 (AV.lst c bs) (vI i) = some (AV.eptr [AV.v (Value.int IntKind.u8 b)] 0)) (c2 : aappend (Cfg.P cfg) false (AS.mk [] [k] 0 0) 22 (AV.lst (Cap.tok 0 k 4) zs) (AV.lst Cap.exact [[vI (Int.ofNat 2), vS (Utf8.encode (IntKind.wrap IntKind.i32 (48 + IntKind.wrap IntKind.i32 (Int.tmod (IntKind.wrap IntKind.i64 b) (Int.ofNat 5))))), vS (ByteArray.mk #[]), AV.v (Value.slice none 0 0)]]) = some (AV.lst (Cap.tok 0 k1 4) ws, AS.mk [] [k1] 0 0)) (a : AAct) (ha : In 27 [] [(1, vI (Int.ofNat 5)), (5, AV.lst (Cap.tok 0 k 4) zs), (8, AV.lst c bs), (9, vI m), (10, vI i)] a) : Seen (aBody cfg 63 (codeAt (codeOf cfg.P 63) [1, 1, 0, 1, 0, 0]) 0 (aC cfg (lower cfg (n + 60)) (n + 60 + 1) 63 none (codeAt (codeOf cfg.P 63) [1, 1, 0, 1, 0, 0])) a (AS.mk [] [k] 0 0)) (Exit.normal) 27 [] [(1, vI (Int.ofNat 5)), (5, AV.lst (Cap.tok 0 k1 4) ws), (8, AV.lst c bs), (9, vI m), (10, vI (IntKind.wrap IntKind.i64 (i + 1)))] (AS.mk [] [k1] 0 0) :=
  segB_ok (ds := [(1, Tell.b true), (0, Tell.fr (AV.eptr [AV.v (Value.int IntKind.u8 b)] 0)), (12, Tell.op (AV.lst (Cap.tok 0 k1 4) ws) (AS.mk [] [k1] 0 0))]) (cs := [decide (i < m) = true, frP (aindexAddr (Cfg.P cfg) 34 (AV.lst c bs) (vI i)) (AV.eptr [AV.v (Value.int IntKind.u8 b)] 0), aappend (Cfg.P cfg) false (AS.mk [] [k] 0 0) 22 (AV.lst (Cap.tok 0 k 4) zs) (AV.lst Cap.exact [[vI (Int.ofNat 2), vS (Utf8.encode (IntKind.wrap IntKind.i32 (48 + IntKind.wrap IntKind.i32 (Int.tmod (IntKind.wrap IntKind.i64 b) (Int.ofNat 5))))), vS (ByteArray.mk #[]), AV.v (Value.slice none 0 0)]]) = some (AV.lst (Cap.tok 0 k1 4) ws, AS.mk [] [k1] 0 0)]) (ws := [1, 5, 8, 9, 10]) (ds' := []) ha (fun g => by kernel_rfl) ⟨h0, (fr_of c1), c2, trivial⟩
theorem b63_2 (c : Cap) (bs : List (List AV)) (b : Int) (m : Int) (zs : List (List AV)) (ws : List (List AV)) (s : ByteArray) (k : Nat) (k1 : Nat) (i : Int) (n : Nat) (h0 : decide (i < m) = false) (a : AAct) (ha : In 27 [] [(1, vI (Int.ofNat 5)), (5, AV.lst (Cap.tok 0 k 4) zs), (8, AV.lst c bs), (9, vI m), (10, vI i)] a) : Seen (aBody cfg 63 (codeAt (codeOf cfg.P 63) [1, 1, 0, 1, 0, 0]) 0 (aC cfg (lower cfg (n + 60)) (n + 60 + 1) 63 none (codeAt (codeOf cfg.P 63) [1, 1, 0, 1, 0, 0])) a (AS.mk [] [k] 0 0)) (Exit.exit 0) 27 [] [(1, vI (Int.ofNat 5)), (5, AV.lst (Cap.tok 0 k 4) zs), (8, AV.lst c bs), (9, vI m), (10, vI i)] (AS.mk [] [k] 0 0) :=
  segB_ok (ds := [(1, Tell.b false)]) (cs := [decide (i < m) = false]) (ws := [1, 5, 8, 9, 10]) (ds' := []) ha (fun g => by kernel_rfl) ⟨h0, trivial⟩
theorem a63_1 (c : Cap) (bs : List (List AV)) (b : Int) (m : Int) (s : ByteArray) (i : Int) (n : Nat) (h0 : decide (i < m) = true) (c1 : aindexAddr (Cfg.P cfg) 34 (AV.lst c bs) (vI i) = some (AV.eptr [AV.v (Value.int IntKind.u8 b)] 0)) (a : AAct) (ha : In 27 [] [(1, vI (Int.ofNat 5)), (5, AV.v (Value.slice none 0 0)), (8, AV.lst c bs), (9, vI m), (10, vI i)] a) : Seen (aBody cfg 63 (codeAt (codeOf cfg.P 63) [1, 1, 0, 1, 0, 0]) 0 (aC cfg (lower cfg (n + 60)) (n + 60 + 1) 63 none (codeAt (codeOf cfg.P 63) [1, 1, 0, 1, 0, 0])) a (AS.mk [] [] 0 0)) (Exit.normal) 27 [] [(1, vI (Int.ofNat 5)), (5, AV.lst (Cap.tok 0 1 4) [[vI (Int.ofNat 2), vS (Utf8.encode (IntKind.wrap IntKind.i32 (48 + IntKind.wrap IntKind.i32 (Int.tmod (IntKind.wrap IntKind.i64 b) (Int.ofNat 5))))), vS (ByteArray.mk #[]), AV.v (Value.slice none 0 0)]]), (8, AV.lst c bs), (9, vI m), (10, vI (IntKind.wrap IntKind.i64 (i + 1)))] (AS.mk [] [1] 0 0) :=
  segB_ok (ds := [(1, Tell.b true), (0, Tell.fr (AV.eptr [AV.v (Value.int IntKind.u8 b)] 0))]) (cs := [decide (i < m) = true, frP (aindexAddr (Cfg.P cfg) 34 (AV.lst c bs) (vI i)) (AV.eptr [AV.v (Value.int IntKind.u8 b)] 0)]) (ws := [1, 5, 8, 9, 10]) (ds' := []) ha (fun g => by kernel_rfl) ⟨h0, (fr_of c1), trivial⟩
theorem a63_2 (c : Cap) (bs : List (List AV)) (b : Int) (m : Int) (s : ByteArray) (i : Int) (n : Nat) (h0 : decide (i < m) = false) (a : AAct) (ha : In 27 [] [(1, vI (Int.ofNat 5)), (5, AV.v (Value.slice none 0 0)), (8, AV.lst c bs), (9, vI m), (10, vI i)] a) : Seen (aBody cfg 63 (codeAt (codeOf cfg.P 63) [1, 1, 0, 1, 0, 0]) 0 (aC cfg (lower cfg (n + 60)) (n + 60 + 1) 63 none (codeAt (codeOf cfg.P 63) [1, 1, 0, 1, 0, 0])) a (AS.mk [] [] 0 0)) (Exit.exit 0) 27 [] [(1, vI (Int.ofNat 5)), (5, AV.v (Value.slice none 0 0)), (8, AV.lst c bs), (9, vI m), (10, vI i)] (AS.mk [] [] 0 0) :=
  segB_ok (ds := [(1, Tell.b false)]) (cs := [decide (i < m) = false]) (ws := [1, 5, 8, 9, 10]) (ds' := []) ha (fun g => by kernel_rfl) ⟨h0, trivial⟩
theorem f63_1 (c : Cap) (bs : List (List AV)) (v : AV) (es : List Nat) (n : Nat) (γ0 : AAct → Nat → AV) (l0 : LoopIs cfg (lower cfg (n + 60)) (n + 60 + 1) 63 none (codeAt (codeOf (Cfg.P cfg) 63) [1, 1, 0, 1, 0]) 27 [] [(1, vI (Int.ofNat 5)), (5, AV.v (Value.slice none 0 0)), (8, AV.lst c bs), (9, vI (↑(List.length bs) : Int)), (10, vI (Int.ofNat 0))] (AS.mk [] [] 0 0) (Exit.exit 0) [(5, v)] (AS.mk [] es 0 0) γ0) (y : AV) (hy : lend (AS.mk [] es 0 0) (v) = some y) : Path cfg 63 [AV.lst c bs, vI (Int.ofNat 5)] y (n + 60) :=
  Path.of (ds := [(5, Tell.lp [1, 5, 8, 9, 10] (Exit.exit 0) [(5, v)] (AS.mk [] es 0 0) γ0)]) (cs := [LoopIs cfg (lower cfg (n + 60)) (n + 60 + 1) 63 none (codeAt (codeOf (Cfg.P cfg) 63) [1, 1, 0, 1, 0]) 27 [] [(1, vI (Int.ofNat 5)), (5, AV.v (Value.slice none 0 0)), (8, AV.lst c bs), (9, vI (↑(List.length bs) : Int)), (10, vI (Int.ofNat 0))] (AS.mk [] [] 0 0) (Exit.exit 0) [(5, v)] (AS.mk [] es 0 0) γ0]) (x := v) (S2 := AS.mk [] es 0 0) (by kernel_rfl) ⟨l0, trivial⟩ hy -- Exit.ret

theorem f122_1 (x : Fm) (n : Nat) (y : AV) (hy : lend (AS.mk [AObj.cells (Fm.row x) 27, AObj.cells (Fm.row x) 27] [] 0 0) (AV.tup [(Fm.av x), AV.v (Value.int IntKind.i64 (Int.ofNat 0))]) = some y) : Path cfg 122 [(Fm.av x)] y (n + 60) :=
  Path.of (ds := []) (cs := []) (x := AV.tup [(Fm.av x), AV.v (Value.int IntKind.i64 (Int.ofNat 0))]) (S2 := AS.mk [AObj.cells (Fm.row x) 27, AObj.cells (Fm.row x) 27] [] 0 0) (by kernel_rfl) trivial hy -- Exit.ret
theorem a107_1 (xs : List Fm) (x : Fm) (m : Int) (i : Int) (n : Nat) (h0 : decide (i < m) = true) (c1 : aindexAddr (Cfg.P cfg) 22 (la xs) (vI i) = some (AV.eptr (Fm.row x) 0)) (c2 : ∀ (S : AS), Lw.call (lower cfg (n + 60)) 122 [(Fm.av x)] S = some (AV.tup [(Fm.av x), vI (Int.ofNat 0)], S)) (a : AAct) (ha : In 41 [] [(3, vI (Int.ofNat 0)), (10, AV.v (Value.slice none 0 0)), (18, la xs), (19, vI m), (20, vI i)] a) : Seen (aBody cfg 107 (codeAt (codeOf cfg.P 107) [1, 1, 0, 1, 0, 0]) 0 (aC cfg (lower cfg (n + 60)) (n + 60 + 1) 107 none (codeAt (codeOf cfg.P 107) [1, 1, 0, 1, 0, 0])) a (AS.mk [] [] 0 0)) (Exit.normal) 41 [] [(3, vI (Int.ofNat 0)), (10, AV.lst (Cap.tok 0 1 4) [(Fm.row x)]), (18, la xs), (19, vI m), (20, vI (IntKind.wrap IntKind.i64 (i + 1)))] (AS.mk [] [1] 0 0) :=
  segB_ok (ds := [(1, Tell.b true), (0, Tell.fr (AV.eptr (Fm.row x) 0)), (7, Tell.fr (AV.tup [(Fm.av x), vI (Int.ofNat 0)])), (16, Tell.b true)]) (cs := [decide (i < m) = true, frP (aindexAddr (Cfg.P cfg) 22 (la xs) (vI i)) (AV.eptr (Fm.row x) 0), ∀ (S : AS), Lw.call (lower cfg (n + 60)) 122 [(Fm.av x)] S = some (AV.tup [(Fm.av x), vI (Int.ofNat 0)], S), trimB 0 [vI (Int.ofNat 0), AV.lst (Cap.tok 0 1 4) [(Fm.row x)], la xs, vI m, vI (IntKind.wrap IntKind.i64 (i + 1))] [] [] 2 = true]) (ws := [3, 10, 18, 19, 20]) (ds' := []) ha (fun g => by kernel_rfl) ⟨h0, (fr_of c1), c2, (by simp [trimB, objOld, belowAll, belowRows, AV.old, Fm.row, Fm.av, Fm.belowRows_rows, Fm.belowRows_map, Nat.ble]), trivial⟩
theorem a107_2 (xs : List Fm) (x : Fm) (m : Int) (i : Int) (n : Nat) (h0 : decide (i < m) = false) (a : AAct) (ha : In 41 [] [(3, vI (Int.ofNat 0)), (10, AV.v (Value.slice none 0 0)), (18, la xs), (19, vI m), (20, vI i)] a) : Seen (aBody cfg 107 (codeAt (codeOf cfg.P 107) [1, 1, 0, 1, 0, 0]) 0 (aC cfg (lower cfg (n + 60)) (n + 60 + 1) 107 none (codeAt (codeOf cfg.P 107) [1, 1, 0, 1, 0, 0])) a (AS.mk [] [] 0 0)) (Exit.exit 0) 41 [] [(3, vI (Int.ofNat 0)), (10, AV.v (Value.slice none 0 0)), (18, la xs), (19, vI m), (20, vI i)] (AS.mk [] [] 0 0) :=
  segB_ok (ds := [(1, Tell.b false)]) (cs := [decide (i < m) = false]) (ws := [3, 10, 18, 19, 20]) (ds' := []) ha (fun g => by kernel_rfl) ⟨h0, trivial⟩
theorem b107_1 (xs : List Fm) (zs : List Fm) (ws : List Fm) (x : Fm) (k : Nat) (k1 : Nat) (m : Int) (i : Int) (n : Nat) (h0 : decide (i < m) = true) (c1 : aindexAddr (Cfg.P cfg) 22 (la xs) (vI i) = some (AV.eptr (Fm.row x) 0)) (c2 : ∀ (S : AS), Lw.call (lower cfg (n + 60)) 122 [(Fm.av x)] S = some (AV.tup [(Fm.av x), vI (Int.ofNat 0)], S)) (c3 : aappend (Cfg.P cfg) false (AS.mk [AObj.cells (Fm.row x) 27, AObj.cells (Fm.row x) 27] [k] 0 0) 22 (AV.lst (Cap.tok 0 k 4) (List.map Fm.row zs)) (AV.lst Cap.exact [(Fm.row x)]) = some (AV.lst (Cap.tok 0 k1 4) (List.map Fm.row ws), AS.mk [AObj.cells (Fm.row x) 27, AObj.cells (Fm.row x) 27] [k1] 0 0)) (a : AAct) (ha : In 41 [] [(3, vI (Int.ofNat 0)), (10, AV.lst (Cap.tok 0 k 4) (List.map Fm.row zs)), (18, la xs), (19, vI m), (20, vI i)] a) : Seen (aBody cfg 107 (codeAt (codeOf cfg.P 107) [1, 1, 0, 1, 0, 0]) 0 (aC cfg (lower cfg (n + 60)) (n + 60 + 1) 107 none (codeAt (codeOf cfg.P 107) [1, 1, 0, 1, 0, 0])) a (AS.mk [] [k] 0 0)) (Exit.normal) 41 [] [(3, vI (Int.ofNat 0)), (10, AV.lst (Cap.tok 0 k1 4) (List.map Fm.row ws)), (18, la xs), (19, vI m), (20, vI (IntKind.wrap IntKind.i64 (i + 1)))] (AS.mk [] [k1] 0 0) :=
  segB_ok (ds := [(1, Tell.b true), (0, Tell.fr (AV.eptr (Fm.row x) 0)), (7, Tell.fr (AV.tup [(Fm.av x), vI (Int.ofNat 0)])), (12, Tell.op (AV.lst (Cap.tok 0 k1 4) (List.map Fm.row ws)) (AS.mk [AObj.cells (Fm.row x) 27, AObj.cells (Fm.row x) 27] [k1] 0 0)), (3, Tell.b true)]) (cs := [decide (i < m) = true, frP (aindexAddr (Cfg.P cfg) 22 (la xs) (vI i)) (AV.eptr (Fm.row x) 0), ∀ (S : AS), Lw.call (lower cfg (n + 60)) 122 [(Fm.av x)] S = some (AV.tup [(Fm.av x), vI (Int.ofNat 0)], S), aappend (Cfg.P cfg) false (AS.mk [AObj.cells (Fm.row x) 27, AObj.cells (Fm.row x) 27] [k] 0 0) 22 (AV.lst (Cap.tok 0 k 4) (List.map Fm.row zs)) (AV.lst Cap.exact [(Fm.row x)]) = some (AV.lst (Cap.tok 0 k1 4) (List.map Fm.row ws), AS.mk [AObj.cells (Fm.row x) 27, AObj.cells (Fm.row x) 27] [k1] 0 0), trimB 0 [vI (Int.ofNat 0), AV.lst (Cap.tok 0 k1 4) (List.map Fm.row ws), la xs, vI m, vI (IntKind.wrap IntKind.i64 (i + 1))] [] [] 2 = true]) (ws := [3, 10, 18, 19, 20]) (ds' := []) ha (fun g => by kernel_rfl) ⟨h0, (fr_of c1), c2, c3, (by simp [trimB, objOld, belowAll, belowRows, AV.old, Fm.row, Fm.av, Fm.belowRows_rows, Fm.belowRows_map, Nat.ble]), trivial⟩
theorem b107_2 (xs : List Fm) (zs : List Fm) (ws : List Fm) (x : Fm) (k : Nat) (k1 : Nat) (m : Int) (i : Int) (n : Nat) (h0 : decide (i < m) = false) (a : AAct) (ha : In 41 [] [(3, vI (Int.ofNat 0)), (10, AV.lst (Cap.tok 0 k 4) (List.map Fm.row zs)), (18, la xs), (19, vI m), (20, vI i)] a) : Seen (aBody cfg 107 (codeAt (codeOf cfg.P 107) [1, 1, 0, 1, 0, 0]) 0 (aC cfg (lower cfg (n + 60)) (n + 60 + 1) 107 none (codeAt (codeOf cfg.P 107) [1, 1, 0, 1, 0, 0])) a (AS.mk [] [k] 0 0)) (Exit.exit 0) 41 [] [(3, vI (Int.ofNat 0)), (10, AV.lst (Cap.tok 0 k 4) (List.map Fm.row zs)), (18, la xs), (19, vI m), (20, vI i)] (AS.mk [] [k] 0 0) :=
  segB_ok (ds := [(1, Tell.b false)]) (cs := [decide (i < m) = false]) (ws := [3, 10, 18, 19, 20]) (ds' := []) ha (fun g => by kernel_rfl) ⟨h0, trivial⟩
theorem f107_1 (xs : List Fm) (ys : List Fm) (e : Int) (v : AV) (es : List Nat) (n : Nat) (γ0 : AAct → Nat → AV) (c0 : aslice (Cfg.P cfg) 22 (la xs) (some (vI (Int.ofNat 0))) (some (vI e)) none = some (la ys)) (l1 : LoopIs cfg (lower cfg (n + 60)) (n + 60 + 1) 107 none (codeAt (codeOf (Cfg.P cfg) 107) [1, 1, 0, 1, 0]) 41 [] [(3, vI (Int.ofNat 0)), (10, AV.v (Value.slice none 0 0)), (18, la ys), (19, vI (↑(List.length (List.map Fm.row ys)) : Int)), (20, vI (Int.ofNat 0))] (AS.mk [] [] 0 0) (Exit.exit 0) [(10, v)] (AS.mk [] es 0 0) γ0) (y : AV) (hy : lend (AS.mk [] es 0 0) (AV.tup [v, vI (Int.ofNat 0)]) = some y) : Path cfg 107 [la xs, vI (Int.ofNat 0), vI e, vI (Int.ofNat 0)] y (n + 60) :=
  Path.of (ds := [(6, Tell.fr (la ys)), (2, Tell.lp [3, 10, 18, 19, 20] (Exit.exit 0) [(10, v)] (AS.mk [] es 0 0) γ0)]) (cs := [frP (aslice (Cfg.P cfg) 22 (la xs) (some (vI (Int.ofNat 0))) (some (vI e)) none) (la ys), LoopIs cfg (lower cfg (n + 60)) (n + 60 + 1) 107 none (codeAt (codeOf (Cfg.P cfg) 107) [1, 1, 0, 1, 0]) 41 [] [(3, vI (Int.ofNat 0)), (10, AV.v (Value.slice none 0 0)), (18, la ys), (19, vI (↑(List.length (List.map Fm.row ys)) : Int)), (20, vI (Int.ofNat 0))] (AS.mk [] [] 0 0) (Exit.exit 0) [(10, v)] (AS.mk [] es 0 0) γ0]) (x := AV.tup [v, vI (Int.ofNat 0)]) (S2 := AS.mk [] es 0 0) (by kernel_rfl) ⟨(fr_of c0), l1, trivial⟩ hy -- Exit.ret
theorem f106_1 (fe : Bool) (a : Int) (b : Int) (c : Int) (n : Nat) : Path cfg 106 [AV.agg [vI a, vI b, vI c, vB fe, vB false, vI (Int.ofNat 0), vI (Int.ofNat 0)]] (vB (decide (c < -1))) (n + 60) :=
  Path.of (ds := []) (cs := []) (x := vB (decide (c < -1))) (S2 := AS.mk [AObj.cells [vI a, vI b, vI c, vB fe, vB false, vI (Int.ofNat 0), vI (Int.ofNat 0)] 53] [] 0 0) (by kernel_rfl) trivial rfl -- Exit.ret


/-- A list that grows, and its token. -/
def acV (rs : List (List AV)) : AV := match rs with | [] => .v (.slice none 0 0) | r :: rs => .lst (.tok 0 (rs.length + 1) 4) (r :: rs)
def acE (rs : List (List AV)) : List Nat := match rs with | [] => [] | _ :: rs => [rs.length + 1]
theorem acV_ne {rs : List (List AV)} (h : rs ≠ []) : acV rs = .lst (.tok 0 rs.length 4) rs := by cases rs with | nil => exact absurd rfl h | cons r rs => rfl
theorem acE_ne {rs : List (List AV)} (h : rs ≠ []) : acE rs = [rs.length] := by cases rs with | nil => exact absurd rfl h | cons r rs => rfl

theorem append_tok {o : List AObj} {a b : Nat} {zs : List (List AV)} {r : List AV} (hz : ∀ z ∈ zs, z.length = 4) (hr : r.length = 4) (h1 : r.all AV.one = true) (hb : zs.length ≤ 2000) :
    aappend cfg.P false (AS.mk o [zs.length] a b) 22 (.lst (.tok 0 zs.length 4) zs) (.lst .exact [r]) = some (.lst (.tok 0 (zs.length + 1) 4) (zs ++ [r]), AS.mk o [zs.length + 1] a 0) := by
  obtain ⟨z, hz0, hzl⟩ := FormP.z forms
  obtain ⟨i, hi, hib⟩ := FormP.info forms
  have hbb : (zs.length + 1) * i.bytes ≤ 140737488355328 := Nat.le_trans (Nat.mul_le_mul (show zs.length + 1 ≤ 100000 by omega) hib) (by decide)
  have hm : zs.length + 1 ≤ maxLen := Nat.le_trans (show zs.length + 1 ≤ 100000 by omega) (by decide)
  have hrr : rowsOf (AS.mk o [zs.length] a b) 4 (.lst .exact [r]) = some [r] := by unfold rowsOf; simp [hr, h1]
  have hall : (zs.all fun r => r.length == 4) = true := by rw [List.all_eq_true]; intro x hx; simp [hz x hx]
  unfold aappend
  rw [FormP.row forms]
  simp only [Option.bind_some, hz0, hi, hrr, hzl, ne_eq, not_true, if_false, List.length_cons, List.length_nil, Nat.zero_add, Nat.one_ne_zero]
  rw [if_pos ⟨hall, hbb, hm⟩, if_pos ⟨rfl, trivial⟩]
  simp [AS.tokS]

/-- What a caller sees of it. -/
def acL (rs : List (List AV)) : AV := match rs with | [] => .v (.slice none 0 0) | r :: rs => .lst .unk (r :: rs)
theorem weak_acL (rs : List (List AV)) : weakV (acL rs) = .lst .any (weakR rs) := by cases rs with | nil => rfl | cons r rs => rfl
theorem lendV_ac {S : AS} {rs : List (List AV)} (h : belowRows 0 rs = true) (h2 : sealRows 0 rs = rs) : lendV S (lendAll 4 S) (acV rs) = some (acL rs) := by
  cases rs with
  | nil => rfl
  | cons r rs =>
    show lendV _ _ (.lst _ _) = _
    unfold lendV
    rw [lendR_old _ _ _ h, h2]
    rfl
theorem lend_ac {S : AS} {rs : List (List AV)} (h : belowRows 0 rs = true) (h2 : sealRows 0 rs = rs) : lend S (acV rs) = some (acL rs) := lendV_ac h h2

/-! a loop that gathers -/
def keptL (keep : Nat → Fm → Bool) : List Fm → Nat → List Fm
  | [], _ => []
  | x :: xs, j => bif keep j x then x :: keptL keep xs (j + 1) else keptL keep xs (j + 1)
theorem four_row (zs : List Fm) : ∀ z ∈ zs.map Fm.row, z.length = 4 := fun z hz => by obtain ⟨b, _, rfl⟩ := List.mem_map.1 hz; rfl
theorem append_row {o : List AObj} {a b : Nat} {zs : List Fm} {x : Fm} (hb : zs.length ≤ 2000) :
    aappend cfg.P false (AS.mk o [zs.length] a b) 22 (.lst (.tok 0 zs.length 4) (zs.map Fm.row)) (.lst .exact [x.row]) = some (.lst (.tok 0 (zs.length + 1) 4) ((zs ++ [x]).map Fm.row), AS.mk o [zs.length + 1] a 0) := by
  have := append_tok (o := o) (a := a) (b := b) (zs := zs.map Fm.row) (r := x.row) (four_row zs) rfl (Fm.row_one x) (by simpa using hb)
  rw [List.length_map] at this
  rw [this, List.map_append]
  rfl

theorem collect {f : AAct → AS → Option (Exit × AAct × AS)} {N : Nat} {mk : List Nat} {xs : List Fm} (keep : Nat → Fm → Bool) (live : Nat → AV → List (Nat × AV)) (liveE : AV → List (Nat × AV)) (e : Exit) (he : e ≠ .normal) (o : List AObj) (hb : xs.length ≤ 2000)
    (hA : ∀ j x, xs[j]? = some x → keep j x = true → ∀ a, In N mk (live j (.v (.slice none 0 0))) a → Seen (f a (AS.mk o [] 0 0)) .normal N mk (live (j + 1) (.lst (.tok 0 1 4) [x.row])) (AS.mk o [1] 0 0))
    (hB : ∀ j x zs, xs[j]? = some x → keep j x = true → zs.length ≤ 2000 → ∀ a, In N mk (live j (.lst (.tok 0 zs.length 4) (zs.map Fm.row))) a → Seen (f a (AS.mk o [zs.length] 0 0)) .normal N mk (live (j + 1) (.lst (.tok 0 (zs.length + 1) 4) ((zs ++ [x]).map Fm.row))) (AS.mk o [zs.length + 1] 0 0))
    (hC : ∀ j x, xs[j]? = some x → keep j x = false → (∀ a, In N mk (live j (.v (.slice none 0 0))) a → Seen (f a (AS.mk o [] 0 0)) .normal N mk (live (j + 1) (.v (.slice none 0 0))) (AS.mk o [] 0 0)) ∧
      ∀ zs : List Fm, zs.length ≤ 2000 → ∀ a, In N mk (live j (.lst (.tok 0 zs.length 4) (zs.map Fm.row))) a → Seen (f a (AS.mk o [zs.length] 0 0)) .normal N mk (live (j + 1) (.lst (.tok 0 zs.length 4) (zs.map Fm.row))) (AS.mk o [zs.length] 0 0))
    (hE : (∀ a, In N mk (live xs.length (.v (.slice none 0 0))) a → Seen (f a (AS.mk o [] 0 0)) e N mk (liveE (.v (.slice none 0 0))) (AS.mk o [] 0 0)) ∧
      ∀ zs : List Fm, ∀ a, In N mk (live xs.length (.lst (.tok 0 zs.length 4) (zs.map Fm.row))) a → Seen (f a (AS.mk o [zs.length] 0 0)) e N mk (liveE (.lst (.tok 0 zs.length 4) (zs.map Fm.row))) (AS.mk o [zs.length] 0 0)) :
    ∀ (d j : Nat) (zs : List Fm) (k : Nat), xs.length - j = d → j ≤ xs.length → d < k → zs.length ≤ j → ∀ a, In N mk (live j (acV (zs.map Fm.row))) a →
      Seen (aloop f k a (AS.mk o (acE (zs.map Fm.row)) 0 0)) e N mk (liveE (acV ((zs ++ keptL keep (xs.drop j) j).map Fm.row))) (AS.mk o (acE ((zs ++ keptL keep (xs.drop j) j).map Fm.row)) 0 0) := by
  intro d
  induction d with
  | zero =>
    intro j zs k hd hj hk hz a ha
    obtain ⟨k, rfl⟩ : ∃ m, k = m + 1 := ⟨k - 1, by omega⟩
    have e' : j = xs.length := by omega
    subst e'
    rw [List.drop_length]
    simp only [keptL, List.append_nil]
    refine seen_stop he ?_
    cases zs with
    | nil => exact hE.1 a ha
    | cons z zs =>
      have h1 : (z :: zs).map Fm.row ≠ [] := by simp
      rw [acV_ne h1, List.length_map] at ha ⊢
      rw [acE_ne h1, List.length_map]
      exact hE.2 (z :: zs) a ha
  | succ d ih =>
    intro j zs k hd hj hk hz a ha
    obtain ⟨k, rfl⟩ : ∃ m, k = m + 1 := ⟨k - 1, by omega⟩
    have hlt : j < xs.length := by omega
    rw [List.drop_eq_getElem_cons hlt]
    have hx : xs[j]? = some xs[j] := List.getElem?_eq_getElem hlt
    simp only [keptL]
    cases hkp : keep j xs[j] with
    | true =>
      simp only [cond_true]
      have hih := ih (j + 1) (zs ++ [xs[j]]) k (by omega) (by omega) (by omega) (by simp; omega)
      rw [show zs ++ xs[j] :: keptL keep (xs.drop (j + 1)) (j + 1) = (zs ++ [xs[j]]) ++ keptL keep (xs.drop (j + 1)) (j + 1) by simp]
      have h2 : (zs ++ [xs[j]]).map Fm.row ≠ [] := by simp
      rw [acV_ne h2, acE_ne h2] at hih
      cases zs with
      | nil => exact seen_next (hA j _ hx hkp a ha) fun a' ha' => hih a' ha'
      | cons z zs =>
        have h1 : (z :: zs).map Fm.row ≠ [] := by simp
        rw [acV_ne h1, List.length_map] at ha
        rw [acE_ne h1, List.length_map]
        simp only [List.length_map, List.length_append, List.length_cons, List.length_nil] at hih
        exact seen_next (hB j _ (z :: zs) hx hkp (by simp at hz ⊢; omega) a ha) fun a' ha' => hih a' ha'
    | false =>
      simp only [cond_false]
      have hih := ih (j + 1) zs k (by omega) (by omega) (by omega) (by omega)
      cases zs with
      | nil => exact seen_next ((hC j _ hx hkp).1 a ha) fun a' ha' => hih a' ha'
      | cons z zs =>
        have h1 : (z :: zs).map Fm.row ≠ [] := by simp
        rw [acV_ne h1, acE_ne h1, List.length_map] at hih
        rw [acV_ne h1, List.length_map] at ha
        rw [acE_ne h1, List.length_map]
        exact seen_next ((hC j _ hx hkp).2 (z :: zs) (by simp at hz ⊢; omega) a ha) fun a' ha' => hih a' ha'

/-! digits -/
def sB (b : Int) : ByteArray := Utf8.encode (IntKind.wrap IntKind.i32 (48 + IntKind.wrap IntKind.i32 (Int.tmod (IntKind.wrap IntKind.i64 b) (Int.ofNat 5))))
def dF (b : Int) : Fm := .mk 2 (sB b) (ByteArray.mk #[]) []
def dR (b : Int) : List AV := [.v (.int .i64 2), .v (.string (sB b)), .v (.string (ByteArray.mk #[])), .v (.slice none 0 0)]
theorem weak_dR (b : Int) : weakL (dR b) = (dF b).row := by
  unfold dR dF
  generalize sB b = s
  rfl
theorem dR_four {bs : List Int} : ∀ z ∈ bs.map dR, z.length = 4 := fun z hz => by obtain ⟨b, _, rfl⟩ := List.mem_map.1 hz; rfl

def l63 (c : Cap) (bs : List Int) (j : Nat) : List (Nat × AV) := [(1, .v (.int .i64 5)), (5, acV ((bs.take j).map dR)), (8, .lst c (bs.map bR)), (9, .v (.int .i64 (bs.length : Int))), (10, .v (.int .i64 (Int.ofNat j)))]

theorem loop63 (c : Cap) (bs : List Int) (n : Nat) (hb : bs.length ≤ 2000) (hn : bs.length ≤ n) : ∀ a, In 27 [] (l63 c bs 0) a →
    Seen (aloop (aBody cfg 63 (codeAt (codeOf cfg.P 63) [1, 1, 0, 1, 0, 0]) 0 (aC cfg (lower cfg (n + 60)) (n + 60 + 1) 63 none (codeAt (codeOf cfg.P 63) [1, 1, 0, 1, 0, 0]))) (n + 60 + 1) a (AS.mk [] [] 0 0)) (.exit 0) 27 [] [(5, acV (bs.map dR))] (AS.mk [] (acE (bs.map dR)) 0 0) := by
  refine seen_loop (l63 c bs) (fun j => AS.mk [] (acE ((bs.take j).map dR)) 0 0) (i := 0) (m := bs.length) (by omega) (by omega) (by simp) (fun j _ hj a ha => ?_) (fun a ha => ?_)
  · have hidx : aindexAddr cfg.P 34 (.lst c (bs.map bR)) (.v (.int .i64 (Int.ofNat j))) = some (.eptr (bR bs[j]) 0) :=
      idx (e := 5) (by kernel_rfl) (Int.natCast_nonneg j) (by simp only [Int.ofNat_eq_natCast, Int.toNat_natCast, List.getElem?_map, List.getElem?_eq_getElem hj]; rfl) (by kernel_rfl)
    have hnext : (bs.take j).map dR ++ [dR bs[j]] = (bs.take (j + 1)).map dR := by rw [List.take_add_one, List.getElem?_eq_getElem hj, List.map_append]; rfl
    by_cases h0 : (bs.take j).map dR = []
    · have hj0 : j = 0 := by simp at h0; rcases h0 with h0 | h0; · exact h0
                             · subst h0; simp at hj
      subst hj0
      have step := a63_1 c (bs.map bR) bs[0] _ .empty 0 n (decide_eq_true (by simp; omega)) hidx a ha
      rw [h0, List.nil_append] at hnext
      unfold l63
      rw [← hnext]
      exact step
    · have hl : ((bs.take j).map dR).length = j := by simp; omega
      have hap := append_tok (o := []) (a := 0) (b := 0) (zs := (bs.take j).map dR) (r := dR bs[j]) dR_four rfl rfl (by omega)
      rw [hnext] at hap
      unfold l63 at ha ⊢
      rw [acV_ne h0] at ha
      have step := b63_1 c (bs.map bR) bs[j] _ _ _ .empty _ _ (Int.ofNat j) n (ltT hj) hidx hap a ha
      rw [wrapS (by omega)] at step
      have h1 : (bs.take (j + 1)).map dR ≠ [] := by rw [← hnext]; simp
      have hl1 : ((bs.take (j + 1)).map dR).length = ((bs.take j).map dR).length + 1 := by rw [← hnext]; simp
      rw [acE_ne h0, acE_ne h1, acV_ne h1, hl1]
      exact step
  · rw [show (l63 c bs bs.length) = [(1, .v (.int .i64 5)), (5, acV (bs.map dR)), (8, .lst c (bs.map bR)), (9, .v (.int .i64 (bs.length : Int))), (10, .v (.int .i64 (Int.ofNat bs.length)))] by unfold l63; rw [List.take_length]] at ha
    rw [List.take_length]
    by_cases h0 : bs.map dR = []
    · rw [h0] at ha ⊢
      exact (a63_2 c (bs.map bR) 0 _ .empty _ n (ltF (by omega)) a ha).weak fun l h => ⟨h.2.1, trivial⟩
    · rw [acV_ne h0] at ha
      rw [acV_ne h0, acE_ne h0]
      exact (b63_2 c (bs.map bR) 0 _ _ [] .empty _ 0 _ n (ltF (by omega)) a ha).weak fun l h => ⟨h.2.1, trivial⟩

theorem below_dR : ∀ bs : List Int, belowRows 0 (bs.map dR) = true
  | [] => rfl
  | b :: bs => by simp only [List.map_cons, belowRows, below_dR bs]; rfl
theorem seal_dR : ∀ bs : List Int, sealRows 0 (bs.map dR) = bs.map dR
  | [] => rfl
  | b :: bs => by simp only [List.map_cons, sealRows, seal_dR bs]; rfl
theorem below_bR : ∀ bs : List Int, belowRows 0 (bs.map bR) = true
  | [] => rfl
  | b :: bs => by simp only [List.map_cons, belowRows, below_bR bs]; rfl
theorem seal_bR : ∀ bs : List Int, sealRows 0 (bs.map bR) = bs.map bR
  | [] => rfl
  | b :: bs => by simp only [List.map_cons, sealRows, seal_bR bs]; rfl
theorem Own.bytes {c : Cap} {bs : List Int} {l : List AV} (hc : untok c = c) (h : Go.AM.Own l) : Go.AM.Own (.lst c (bs.map bR) :: l) := by
  refine h.cons (by simp [AV.old, below_bR]) ?_
  simp only [AV.shut, seal_bR]
  cases c <;> first | rfl | (simp [untok] at hc)

theorem small63 (c : Cap) (hc : untok c = c) (bs : List Int) (hb : bs.length ≤ 2000) : ∃ v, Fr cfg 63 [.lst c (bs.map bR), .v (.int .i64 5)] v ∧ weakV v = la (bs.map dF) := by
  refine ⟨acL (bs.map dR), Fr.of_co rfl (by kernel_rfl) (Own.bytes hc (Own.v Own.nil)) (Co.path (by kernel_rfl) (Evt.shift ((Evt.big bs.length).mono fun n hn => ?_))), (weak_acL _).trans ?_⟩
  · have L := loop63 c bs n hb hn
    obtain ⟨γ, hγ⟩ := LoopIs.of (C := cfg) (c := codeAt (codeOf cfg.P 63) [1, 1, 0, 1, 0]) (k := n + 60 + 1) (hf := 63) (rd := none) (L := lower cfg (n + 60)) L
    refine f63_1 c (bs.map bR) (acV (bs.map dR)) (acE (bs.map dR)) n γ ?_ _ (lend_ac (below_dR bs) (seal_dR bs))
    rw [List.length_map]
    exact hγ
  · rw [weakR_map]
    unfold la
    simp only [List.map_map]
    exact congrArg _ (List.map_congr_left fun b _ => weak_dR b)

theorem acL_la (zs : List Fm) : weakV (acL (zs.map Fm.row)) = .lst .any (weakR (zs.map Fm.row)) := weak_acL _
mutual
theorem weak_rows : ∀ x : Fm, weakR x.rows = x.rows
  | .mk _ _ _ l => by simp only [Fm.rows]; exact weak_rowsL l
theorem weak_rowsL : ∀ l : List Fm, weakR (Fm.rowsL l) = Fm.rowsL l
  | [] => rfl
  | x :: l => by
    have h1 : weakV (.lst .any x.rows) = .lst .any x.rows := by unfold weakV; rw [weak_rows x]
    have h2 : weakL [.v (.int .i64 x.kind), .v (.string x.text), .v (.string x.home), .lst .any x.rows] = [.v (.int .i64 x.kind), .v (.string x.text), .v (.string x.home), .lst .any x.rows] := by
      simp only [weakL, h1]; rfl
    simp only [Fm.rowsL, weakR, h2, weak_rowsL l]
end
theorem weak_map (zs : List Fm) : weakR (zs.map Fm.row) = zs.map Fm.row := by rw [← Fm.rowsL_eq]; exact weak_rowsL zs
theorem weak_row (x : Fm) : weakL x.row = x.row := by
  have h1 : weakV (.lst .any x.rows) = .lst .any x.rows := by unfold weakV; rw [weak_rows x]
  simp only [Fm.row, weakL, h1]; rfl
theorem weak_av (x : Fm) : weakV x.av = x.av := by
  show weakV (.agg x.row) = .agg x.row
  unfold weakV
  rw [weak_row]
theorem weak_la (zs : List Fm) : weakV (la zs) = la zs := by
  show weakV (.lst .any _) = .lst .any _
  unfold weakV
  rw [weak_map]
theorem weak_acL_map (zs : List Fm) : weakV (acL (zs.map Fm.row)) = la zs := by rw [weak_acL, weak_map]

theorem of_weak {C D : Cfg} {f : Nat} {args : List AV} {x : AV} (hX : D.X f = some (weakCall C f)) (hw : weakL args = args) (h : Fr C f args x) : Fr D f args (weakV x) :=
  ⟨1, fun n hn S => by
    obtain ⟨m, rfl⟩ : ∃ m, n = m + 1 := ⟨n - 1, by omega⟩
    simp only [lower, hX, weakCall, hw, evtCall_fr h, Option.map_some]⟩

/-! the keys of a range -/
theorem whole122 (x : Fm) : Fr cfg 122 [x.av] (.tup [x.av, .v (.int .i64 0)]) :=
  Fr.of_co rfl (by kernel_rfl) (Own.fm Own.nil) (Co.path (by kernel_rfl) (Evt.shift (Evt.of fun n => f122_1 x n _ (lend_pair (by
    rw [lendV_old _ _ _ (x.old 0), x.shut 0])))))

def l107 (xs : List Fm) (j : Nat) (v : AV) : List (Nat × AV) := [(3, .v (.int .i64 0)), (10, v), (18, la xs), (19, .v (.int .i64 (xs.length : Int))), (20, .v (.int .i64 (Int.ofNat j)))]
theorem kept_all (xs : List Fm) : ∀ j, keptL (fun _ _ => true) xs j = xs := by
  induction xs with
  | nil => intro j; rfl
  | cons x xs ih => intro j; simp only [keptL, cond_true, ih]

theorem loop107 (xs : List Fm) (n : Nat) (hb : xs.length ≤ 2000) (hn : xs.length ≤ n) (hw : ∀ x, x ∈ xs → ∀ S, (lower cfg (n + 60)).call 122 [x.av] S = some (.tup [x.av, .v (.int .i64 0)], S)) : ∀ a, In 41 [] (l107 xs 0 (.v (.slice none 0 0))) a →
    Seen (aloop (aBody cfg 107 (codeAt (codeOf cfg.P 107) [1, 1, 0, 1, 0, 0]) 0 (aC cfg (lower cfg (n + 60)) (n + 60 + 1) 107 none (codeAt (codeOf cfg.P 107) [1, 1, 0, 1, 0, 0]))) (n + 60 + 1) a (AS.mk [] [] 0 0)) (.exit 0) 41 [] [(10, acV (xs.map Fm.row))] (AS.mk [] (acE (xs.map Fm.row)) 0 0) := by
  intro a ha
  have := collect (f := aBody cfg 107 (codeAt (codeOf cfg.P 107) [1, 1, 0, 1, 0, 0]) 0 (aC cfg (lower cfg (n + 60)) (n + 60 + 1) 107 none (codeAt (codeOf cfg.P 107) [1, 1, 0, 1, 0, 0]))) (N := 41) (mk := []) (xs := xs) (fun _ _ => true) (l107 xs) (fun v => [(10, v)]) (.exit 0) (by simp) [] hb
    (fun j x hx _ a ha => by
      have hj := (List.getElem?_eq_some_iff.1 hx).1
      have step := a107_1 xs x _ _ n (ltT hj) (idx22 (Fm.map_get hx) rfl) (hw x (List.mem_of_getElem? hx)) a ha
      rwa [wrapS (by omega)] at step)
    (fun j x zs hx _ hz a ha => by
      have hj := (List.getElem?_eq_some_iff.1 hx).1
      have step := b107_1 xs zs (zs ++ [x]) x zs.length (zs.length + 1) _ _ n (ltT hj) (idx22 (Fm.map_get hx) rfl) (hw x (List.mem_of_getElem? hx)) (append_row hz) a ha
      rwa [wrapS (by omega)] at step)
    (fun j x hx h => by cases h)
    ⟨fun a ha => (a107_2 xs (.mk 0 .empty .empty []) _ _ n (ltF (by omega)) a ha).weak fun l h => ⟨h.2.1, trivial⟩,
     fun zs a ha => (b107_2 xs zs [] (.mk 0 .empty .empty []) zs.length 0 _ _ n (ltF (by omega)) a ha).weak fun l h => ⟨h.2.1, trivial⟩⟩
    xs.length 0 [] (n + 60 + 1) rfl (by omega) (by omega) (by simp) a ha
  rw [List.drop_zero, kept_all, List.nil_append] at this
  exact this

theorem taken107 (xs : List Fm) (hb : xs.length ≤ 2000) : Fr cfg 107 [la xs, .v (.int .i64 0), .v (.int .i64 xs.length), .v (.int .i64 0)] (.tup [acL (xs.map Fm.row), .v (.int .i64 0)]) := by
  refine Fr.of_co rfl (by kernel_rfl) (Own.lst rfl (Own.v (Own.v (Own.v Own.nil)))) (Co.path (by kernel_rfl) ?_)
  have hw := Evt.unshift (Evt.mem xs fun x _ => whole122 x)
  refine Evt.shift ((hw.and (Evt.big xs.length)).mono fun n hn => ?_)
  have L := loop107 xs n hb hn.2 hn.1
  obtain ⟨γ, hγ⟩ := LoopIs.of (C := cfg) (c := codeAt (codeOf cfg.P 107) [1, 1, 0, 1, 0]) (k := n + 60 + 1) (hf := 107) (rd := none) (L := lower cfg (n + 60)) L
  have hsl := slice_lst forms xs (s := 0) (e := xs.length) (by omega) (by omega)
  rw [List.take_length, List.drop_zero] at hsl
  refine f107_1 xs xs _ (acV (xs.map Fm.row)) (acE (xs.map Fm.row)) n γ hsl ?_ _ (lend_pair (lendV_ac (Fm.belowRows_map 0 xs) (Fm.sealRows_map 0 xs)))
  rw [len_row]
  exact hγ
end Go.Proofs.YtamemdhmjglifaaGreatDoor

/- Chapter 12: joined lists; digits. -/
namespace Go.Proofs.YtamemdhmjglifaaGreatDoor
open Go.RowKit Go.AM
set_option maxRecDepth 100000
set_option linter.unusedVariables false
theorem b4s_1 (c : Cap) (bs : List (List AV)) (b : Int) (m : Int) (zs : List (List AV)) (ws : List (List AV)) (s : ByteArray) (k : Nat) (k1 : Nat) (i : Int) (n : Nat) (h0 : decide (i < m) = true) (c1 : aindexAddr (Cfg.P cfg) 34 (AV.lst c bs) (AV.v (Value.int IntKind.i64 i)) = some (AV.eptr [AV.v (Value.int IntKind.u8 b)] 0)) (c2 : aappend (Cfg.P cfg) false (AS.mk [] [k] 0 0) 22 (AV.lst (Cap.tok 0 k 4) zs) (AV.lst Cap.exact [[AV.v (Value.int IntKind.i64 (Int.ofNat 2)), AV.v (Value.string (Utf8.encode (IntKind.wrap IntKind.i32 (48 + IntKind.wrap IntKind.i32 (Int.tmod (IntKind.wrap IntKind.i64 b) (Int.ofNat 4)))))), AV.v (Value.string (ByteArray.mk #[])), AV.v (Value.slice none 0 0)]]) = some (AV.lst (Cap.tok 0 k1 4) ws, AS.mk [] [k1] 0 0)) (a : AAct) (ha : In 27 [] [(1, AV.v (Value.int IntKind.i64 (Int.ofNat 4))), (5, AV.lst (Cap.tok 0 k 4) zs), (8, AV.lst c bs), (9, AV.v (Value.int IntKind.i64 m)), (10, AV.v (Value.int IntKind.i64 i))] a) : Seen (aBody cfg 63 (codeAt (codeOf cfg.P 63) [1, 1, 0, 1, 0, 0]) 0 (aC cfg (lower cfg (n + 60)) (n + 60 + 1) 63 none (codeAt (codeOf cfg.P 63) [1, 1, 0, 1, 0, 0])) a (AS.mk [] [k] 0 0)) (Exit.normal) 27 [] [(1, AV.v (Value.int IntKind.i64 (Int.ofNat 4))), (5, AV.lst (Cap.tok 0 k1 4) ws), (8, AV.lst c bs), (9, AV.v (Value.int IntKind.i64 m)), (10, AV.v (Value.int IntKind.i64 (IntKind.wrap IntKind.i64 (i + 1))))] (AS.mk [] [k1] 0 0) :=
  segB_ok (ds := [(1, Tell.b true), (0, Tell.fr (AV.eptr [AV.v (Value.int IntKind.u8 b)] 0)), (12, Tell.op (AV.lst (Cap.tok 0 k1 4) ws) (AS.mk [] [k1] 0 0))]) (cs := [decide (i < m) = true, frP (aindexAddr (Cfg.P cfg) 34 (AV.lst c bs) (AV.v (Value.int IntKind.i64 i))) (AV.eptr [AV.v (Value.int IntKind.u8 b)] 0), aappend (Cfg.P cfg) false (AS.mk [] [k] 0 0) 22 (AV.lst (Cap.tok 0 k 4) zs) (AV.lst Cap.exact [[AV.v (Value.int IntKind.i64 (Int.ofNat 2)), AV.v (Value.string (Utf8.encode (IntKind.wrap IntKind.i32 (48 + IntKind.wrap IntKind.i32 (Int.tmod (IntKind.wrap IntKind.i64 b) (Int.ofNat 4)))))), AV.v (Value.string (ByteArray.mk #[])), AV.v (Value.slice none 0 0)]]) = some (AV.lst (Cap.tok 0 k1 4) ws, AS.mk [] [k1] 0 0)]) (ws := [1, 5, 8, 9, 10]) (ds' := []) ha (fun g => by kernel_rfl) ⟨h0, (fr_of c1), c2, trivial⟩
theorem b4s_2 (c : Cap) (bs : List (List AV)) (b : Int) (m : Int) (zs : List (List AV)) (ws : List (List AV)) (s : ByteArray) (k : Nat) (k1 : Nat) (i : Int) (n : Nat) (h0 : decide (i < m) = false) (a : AAct) (ha : In 27 [] [(1, AV.v (Value.int IntKind.i64 (Int.ofNat 4))), (5, AV.lst (Cap.tok 0 k 4) zs), (8, AV.lst c bs), (9, AV.v (Value.int IntKind.i64 m)), (10, AV.v (Value.int IntKind.i64 i))] a) : Seen (aBody cfg 63 (codeAt (codeOf cfg.P 63) [1, 1, 0, 1, 0, 0]) 0 (aC cfg (lower cfg (n + 60)) (n + 60 + 1) 63 none (codeAt (codeOf cfg.P 63) [1, 1, 0, 1, 0, 0])) a (AS.mk [] [k] 0 0)) (Exit.exit 0) 27 [] [(1, AV.v (Value.int IntKind.i64 (Int.ofNat 4))), (5, AV.lst (Cap.tok 0 k 4) zs), (8, AV.lst c bs), (9, AV.v (Value.int IntKind.i64 m)), (10, AV.v (Value.int IntKind.i64 i))] (AS.mk [] [k] 0 0) :=
  segB_ok (ds := [(1, Tell.b false)]) (cs := [decide (i < m) = false]) (ws := [1, 5, 8, 9, 10]) (ds' := []) ha (fun g => by kernel_rfl) ⟨h0, trivial⟩
theorem a4s_1 (c : Cap) (bs : List (List AV)) (b : Int) (m : Int) (s : ByteArray) (i : Int) (n : Nat) (h0 : decide (i < m) = true) (c1 : aindexAddr (Cfg.P cfg) 34 (AV.lst c bs) (AV.v (Value.int IntKind.i64 i)) = some (AV.eptr [AV.v (Value.int IntKind.u8 b)] 0)) (a : AAct) (ha : In 27 [] [(1, AV.v (Value.int IntKind.i64 (Int.ofNat 4))), (5, AV.v (Value.slice none 0 0)), (8, AV.lst c bs), (9, AV.v (Value.int IntKind.i64 m)), (10, AV.v (Value.int IntKind.i64 i))] a) : Seen (aBody cfg 63 (codeAt (codeOf cfg.P 63) [1, 1, 0, 1, 0, 0]) 0 (aC cfg (lower cfg (n + 60)) (n + 60 + 1) 63 none (codeAt (codeOf cfg.P 63) [1, 1, 0, 1, 0, 0])) a (AS.mk [] [] 0 0)) (Exit.normal) 27 [] [(1, AV.v (Value.int IntKind.i64 (Int.ofNat 4))), (5, AV.lst (Cap.tok 0 1 4) [[AV.v (Value.int IntKind.i64 (Int.ofNat 2)), AV.v (Value.string (Utf8.encode (IntKind.wrap IntKind.i32 (48 + IntKind.wrap IntKind.i32 (Int.tmod (IntKind.wrap IntKind.i64 b) (Int.ofNat 4)))))), AV.v (Value.string (ByteArray.mk #[])), AV.v (Value.slice none 0 0)]]), (8, AV.lst c bs), (9, AV.v (Value.int IntKind.i64 m)), (10, AV.v (Value.int IntKind.i64 (IntKind.wrap IntKind.i64 (i + 1))))] (AS.mk [] [1] 0 0) :=
  segB_ok (ds := [(1, Tell.b true), (0, Tell.fr (AV.eptr [AV.v (Value.int IntKind.u8 b)] 0))]) (cs := [decide (i < m) = true, frP (aindexAddr (Cfg.P cfg) 34 (AV.lst c bs) (AV.v (Value.int IntKind.i64 i))) (AV.eptr [AV.v (Value.int IntKind.u8 b)] 0)]) (ws := [1, 5, 8, 9, 10]) (ds' := []) ha (fun g => by kernel_rfl) ⟨h0, (fr_of c1), trivial⟩
theorem a4s_2 (c : Cap) (bs : List (List AV)) (b : Int) (m : Int) (s : ByteArray) (i : Int) (n : Nat) (h0 : decide (i < m) = false) (a : AAct) (ha : In 27 [] [(1, AV.v (Value.int IntKind.i64 (Int.ofNat 4))), (5, AV.v (Value.slice none 0 0)), (8, AV.lst c bs), (9, AV.v (Value.int IntKind.i64 m)), (10, AV.v (Value.int IntKind.i64 i))] a) : Seen (aBody cfg 63 (codeAt (codeOf cfg.P 63) [1, 1, 0, 1, 0, 0]) 0 (aC cfg (lower cfg (n + 60)) (n + 60 + 1) 63 none (codeAt (codeOf cfg.P 63) [1, 1, 0, 1, 0, 0])) a (AS.mk [] [] 0 0)) (Exit.exit 0) 27 [] [(1, AV.v (Value.int IntKind.i64 (Int.ofNat 4))), (5, AV.v (Value.slice none 0 0)), (8, AV.lst c bs), (9, AV.v (Value.int IntKind.i64 m)), (10, AV.v (Value.int IntKind.i64 i))] (AS.mk [] [] 0 0) :=
  segB_ok (ds := [(1, Tell.b false)]) (cs := [decide (i < m) = false]) (ws := [1, 5, 8, 9, 10]) (ds' := []) ha (fun g => by kernel_rfl) ⟨h0, trivial⟩
theorem f4s_1 (c : Cap) (bs : List (List AV)) (v : AV) (es : List Nat) (n : Nat) (γ0 : AAct → Nat → AV) (l0 : LoopIs cfg (lower cfg (n + 60)) (n + 60 + 1) 63 none (codeAt (codeOf (Cfg.P cfg) 63) [1, 1, 0, 1, 0]) 27 [] [(1, AV.v (Value.int IntKind.i64 (Int.ofNat 4))), (5, AV.v (Value.slice none 0 0)), (8, AV.lst c bs), (9, AV.v (Value.int IntKind.i64 (↑(List.length bs) : Int))), (10, AV.v (Value.int IntKind.i64 (Int.ofNat 0)))] (AS.mk [] [] 0 0) (Exit.exit 0) [(5, v)] (AS.mk [] es 0 0) γ0) (y : AV) (hy : lend (AS.mk [] es 0 0) (v) = some y) : Path cfg 63 [AV.lst c bs, AV.v (Value.int IntKind.i64 (Int.ofNat 4))] y (n + 60) :=
  Path.of (ds := [(5, Tell.lp [1, 5, 8, 9, 10] (Exit.exit 0) [(5, v)] (AS.mk [] es 0 0) γ0)]) (cs := [LoopIs cfg (lower cfg (n + 60)) (n + 60 + 1) 63 none (codeAt (codeOf (Cfg.P cfg) 63) [1, 1, 0, 1, 0]) 27 [] [(1, AV.v (Value.int IntKind.i64 (Int.ofNat 4))), (5, AV.v (Value.slice none 0 0)), (8, AV.lst c bs), (9, AV.v (Value.int IntKind.i64 (↑(List.length bs) : Int))), (10, AV.v (Value.int IntKind.i64 (Int.ofNat 0)))] (AS.mk [] [] 0 0) (Exit.exit 0) [(5, v)] (AS.mk [] es 0 0) γ0]) (x := v) (S2 := AS.mk [] es 0 0) (by kernel_rfl) ⟨l0, trivial⟩ hy -- Exit.ret
theorem g82_1 (m : Nat) (k : Nat) (zs : List AV) (n : Nat) (h0 : decide (IntKind.wrap IntKind.i64 (Int.ofNat m - Int.ofNat 0) > 0) = true) (c1 : aappendN (Cfg.P cfg) true (AS.mk [] [] 0 0) 34 3 (AV.v (Value.slice none 0 0)) (AV.v (Value.int IntKind.i64 (IntKind.wrap IntKind.i64 (Int.ofNat m - Int.ofNat 0)))) = some (AV.slc 0 1 0 k k, AS.mk [AObj.cells zs 5] [] 0 0)) : acallF cfg (lower cfg (n + 60)) (n + 60 + 1) 82 [AV.v (Value.slice none 0 0), AV.v (Value.int IntKind.i64 (Int.ofNat m))] (AS.mk [] [] 0 0) = some (AV.slc 0 1 0 0 k, AS.mk [AObj.cells zs 5] [] 0 0) :=
  call_path (ds := [(14, Tell.b true), (5, Tell.op (AV.slc 0 1 0 k k) (AS.mk [AObj.cells zs 5] [] 0 0))]) (cs := [decide (IntKind.wrap IntKind.i64 (Int.ofNat m - Int.ofNat 0) > 0) = true, aappendN (Cfg.P cfg) true (AS.mk [] [] 0 0) 34 3 (AV.v (Value.slice none 0 0)) (AV.v (Value.int IntKind.i64 (IntKind.wrap IntKind.i64 (Int.ofNat m - Int.ofNat 0)))) = some (AV.slc 0 1 0 k k, AS.mk [AObj.cells zs 5] [] 0 0)]) (by kernel_rfl) (by kernel_rfl) ⟨h0, c1, trivial⟩ -- Exit.ret
theorem g82_2 (m : Nat) (k : Nat) (zs : List AV) (n : Nat) (h0 : decide (IntKind.wrap IntKind.i64 (Int.ofNat m - Int.ofNat 0) > 0) = false) : acallF cfg (lower cfg (n + 60)) (n + 60 + 1) 82 [AV.v (Value.slice none 0 0), AV.v (Value.int IntKind.i64 (Int.ofNat m))] (AS.mk [] [] 0 0) = some (AV.v (Value.slice none 0 0), AS.mk [] [] 0 0) :=
  call_path (ds := [(14, Tell.b false)]) (cs := [decide (IntKind.wrap IntKind.i64 (Int.ofNat m - Int.ofNat 0) > 0) = false]) (by kernel_rfl) (by kernel_rfl) ⟨h0, trivial⟩ -- Exit.ret
theorem g130_1 (m : Nat) (k : Nat) (zs : List AV) (n : Nat) (h0 : decide (IntKind.wrap IntKind.i64 (Int.ofNat m - Int.ofNat 0) > 0) = true) (c1 : aappendN (Cfg.P cfg) true (AS.mk [] [] 0 0) 77 3 (AV.v (Value.slice none 0 0)) (AV.v (Value.int IntKind.i64 (IntKind.wrap IntKind.i64 (Int.ofNat m - Int.ofNat 0)))) = some (AV.slc 0 8 0 k k, AS.mk [AObj.cells zs 134] [] 0 0)) : acallF cfg (lower cfg (n + 60)) (n + 60 + 1) 130 [AV.v (Value.slice none 0 0), AV.v (Value.int IntKind.i64 (Int.ofNat m))] (AS.mk [] [] 0 0) = some (AV.slc 0 8 0 0 k, AS.mk [AObj.cells zs 134] [] 0 0) :=
  call_path (ds := [(14, Tell.b true), (5, Tell.op (AV.slc 0 8 0 k k) (AS.mk [AObj.cells zs 134] [] 0 0))]) (cs := [decide (IntKind.wrap IntKind.i64 (Int.ofNat m - Int.ofNat 0) > 0) = true, aappendN (Cfg.P cfg) true (AS.mk [] [] 0 0) 77 3 (AV.v (Value.slice none 0 0)) (AV.v (Value.int IntKind.i64 (IntKind.wrap IntKind.i64 (Int.ofNat m - Int.ofNat 0)))) = some (AV.slc 0 8 0 k k, AS.mk [AObj.cells zs 134] [] 0 0)]) (by kernel_rfl) (by kernel_rfl) ⟨h0, c1, trivial⟩ -- Exit.ret
theorem g130_2 (m : Nat) (k : Nat) (zs : List AV) (n : Nat) (h0 : decide (IntKind.wrap IntKind.i64 (Int.ofNat m - Int.ofNat 0) > 0) = false) : acallF cfg (lower cfg (n + 60)) (n + 60 + 1) 130 [AV.v (Value.slice none 0 0), AV.v (Value.int IntKind.i64 (Int.ofNat m))] (AS.mk [] [] 0 0) = some (AV.v (Value.slice none 0 0), AS.mk [] [] 0 0) :=
  call_path (ds := [(14, Tell.b false)]) (cs := [decide (IntKind.wrap IntKind.i64 (Int.ofNat m - Int.ofNat 0) > 0) = false]) (by kernel_rfl) (by kernel_rfl) ⟨h0, trivial⟩ -- Exit.ret

theorem hk2_1 (c : Cap) (rs : List (List AV)) (qs : List (List AV)) (k : Nat) (la : Nat) (lb : Nat) (zs : List AV) (cs : List AV) (ds : List AV) (n : Nat) (h0 : decide (IntKind.wrap IntKind.i64 (Int.ofNat 0 + (↑(List.length rs) : Int)) < 0) = false) (h1 : decide (IntKind.wrap IntKind.i64 (IntKind.wrap IntKind.i64 (Int.ofNat 0 + (↑(List.length rs) : Int)) + (↑(List.length qs) : Int)) < 0) = false) (c2 : Lw.call (lower cfg (n + 60)) 130 [AV.v (Value.slice none 0 0), AV.v (Value.int IntKind.i64 (IntKind.wrap IntKind.i64 (IntKind.wrap IntKind.i64 (Int.ofNat 0 + (↑(List.length rs) : Int)) + (↑(List.length qs) : Int))))] (AS.mk [] [] 0 0) = some (AV.slc 0 8 0 0 k, AS.mk [AObj.cells zs 134] [] 0 0)) (c3 : aappend (Cfg.P cfg) false (AS.mk [AObj.cells zs 134] [] 0 0) 77 (AV.slc 0 8 0 0 k) (AV.lst Cap.any rs) = some (AV.slc 0 8 0 la k, AS.mk [AObj.cells cs 134] [] 0 0)) (c4 : aappend (Cfg.P cfg) false (AS.mk [AObj.cells cs 134] [] 0 0) 77 (AV.slc 0 8 0 la k) (AV.lst Cap.any qs) = some (AV.slc 0 8 0 lb k, AS.mk [AObj.cells ds 134] [] 0 0)) (y : AV) (hy : lend (AS.mk [AObj.cells ds 134] [] 0 0) (AV.slc 0 8 0 lb k) = some y) : Path cfg 112 [AV.lst c [[AV.lst Cap.any rs], [AV.lst Cap.any qs]]] y (n + 60) :=
  Path.of (ds := [(18, Tell.b false), (14, Tell.b false), (5, Tell.op (AV.slc 0 8 0 0 k) (AS.mk [AObj.cells zs 134] [] 0 0)), (12, Tell.op (AV.slc 0 8 0 la k) (AS.mk [AObj.cells cs 134] [] 0 0)), (10, Tell.op (AV.slc 0 8 0 lb k) (AS.mk [AObj.cells ds 134] [] 0 0))]) (cs := [decide (IntKind.wrap IntKind.i64 (Int.ofNat 0 + (↑(List.length rs) : Int)) < 0) = false, decide (IntKind.wrap IntKind.i64 (IntKind.wrap IntKind.i64 (Int.ofNat 0 + (↑(List.length rs) : Int)) + (↑(List.length qs) : Int)) < 0) = false, Lw.call (lower cfg (n + 60)) 130 [AV.v (Value.slice none 0 0), AV.v (Value.int IntKind.i64 (IntKind.wrap IntKind.i64 (IntKind.wrap IntKind.i64 (Int.ofNat 0 + (↑(List.length rs) : Int)) + (↑(List.length qs) : Int))))] (AS.mk [] [] 0 0) = some (AV.slc 0 8 0 0 k, AS.mk [AObj.cells zs 134] [] 0 0), aappend (Cfg.P cfg) false (AS.mk [AObj.cells zs 134] [] 0 0) 77 (AV.slc 0 8 0 0 k) (AV.lst Cap.any rs) = some (AV.slc 0 8 0 la k, AS.mk [AObj.cells cs 134] [] 0 0), aappend (Cfg.P cfg) false (AS.mk [AObj.cells cs 134] [] 0 0) 77 (AV.slc 0 8 0 la k) (AV.lst Cap.any qs) = some (AV.slc 0 8 0 lb k, AS.mk [AObj.cells ds 134] [] 0 0)]) (x := AV.slc 0 8 0 lb k) (S2 := AS.mk [AObj.cells ds 134] [] 0 0) (by kernel_rfl) ⟨h0, h1, c2, c3, c4, trivial⟩ hy -- Exit.ret
theorem zk2_1 (c : Cap) (n : Nat) : Path cfg 112 [AV.lst c [[AV.lst Cap.any []], [AV.lst Cap.any []]]] (AV.v (Value.slice none 0 0)) (n + 60) :=
  Path.of (ds := []) (cs := []) (x := AV.v (Value.slice none 0 0)) (S2 := AS.mk [] [] 0 0) (by kernel_rfl) trivial rfl -- Exit.ret
theorem hb2_1 (c : Cap) (rs : List (List AV)) (qs : List (List AV)) (k : Nat) (la : Nat) (lb : Nat) (zs : List AV) (cs : List AV) (ds : List AV) (n : Nat) (h0 : decide (IntKind.wrap IntKind.i64 (Int.ofNat 0 + (↑(List.length rs) : Int)) < 0) = false) (h1 : decide (IntKind.wrap IntKind.i64 (IntKind.wrap IntKind.i64 (Int.ofNat 0 + (↑(List.length rs) : Int)) + (↑(List.length qs) : Int)) < 0) = false) (c2 : Lw.call (lower cfg (n + 60)) 82 [AV.v (Value.slice none 0 0), AV.v (Value.int IntKind.i64 (IntKind.wrap IntKind.i64 (IntKind.wrap IntKind.i64 (Int.ofNat 0 + (↑(List.length rs) : Int)) + (↑(List.length qs) : Int))))] (AS.mk [] [] 0 0) = some (AV.slc 0 1 0 0 k, AS.mk [AObj.cells zs 5] [] 0 0)) (c3 : aappend (Cfg.P cfg) false (AS.mk [AObj.cells zs 5] [] 0 0) 34 (AV.slc 0 1 0 0 k) (AV.lst Cap.any rs) = some (AV.slc 0 1 0 la k, AS.mk [AObj.cells cs 5] [] 0 0)) (c4 : aappend (Cfg.P cfg) false (AS.mk [AObj.cells cs 5] [] 0 0) 34 (AV.slc 0 1 0 la k) (AV.lst Cap.any qs) = some (AV.slc 0 1 0 lb k, AS.mk [AObj.cells ds 5] [] 0 0)) (y : AV) (hy : lend (AS.mk [AObj.cells ds 5] [] 0 0) (AV.slc 0 1 0 lb k) = some y) : Path cfg 21 [AV.lst c [[AV.lst Cap.any rs], [AV.lst Cap.any qs]]] y (n + 60) :=
  Path.of (ds := [(18, Tell.b false), (14, Tell.b false), (5, Tell.op (AV.slc 0 1 0 0 k) (AS.mk [AObj.cells zs 5] [] 0 0)), (12, Tell.op (AV.slc 0 1 0 la k) (AS.mk [AObj.cells cs 5] [] 0 0)), (10, Tell.op (AV.slc 0 1 0 lb k) (AS.mk [AObj.cells ds 5] [] 0 0))]) (cs := [decide (IntKind.wrap IntKind.i64 (Int.ofNat 0 + (↑(List.length rs) : Int)) < 0) = false, decide (IntKind.wrap IntKind.i64 (IntKind.wrap IntKind.i64 (Int.ofNat 0 + (↑(List.length rs) : Int)) + (↑(List.length qs) : Int)) < 0) = false, Lw.call (lower cfg (n + 60)) 82 [AV.v (Value.slice none 0 0), AV.v (Value.int IntKind.i64 (IntKind.wrap IntKind.i64 (IntKind.wrap IntKind.i64 (Int.ofNat 0 + (↑(List.length rs) : Int)) + (↑(List.length qs) : Int))))] (AS.mk [] [] 0 0) = some (AV.slc 0 1 0 0 k, AS.mk [AObj.cells zs 5] [] 0 0), aappend (Cfg.P cfg) false (AS.mk [AObj.cells zs 5] [] 0 0) 34 (AV.slc 0 1 0 0 k) (AV.lst Cap.any rs) = some (AV.slc 0 1 0 la k, AS.mk [AObj.cells cs 5] [] 0 0), aappend (Cfg.P cfg) false (AS.mk [AObj.cells cs 5] [] 0 0) 34 (AV.slc 0 1 0 la k) (AV.lst Cap.any qs) = some (AV.slc 0 1 0 lb k, AS.mk [AObj.cells ds 5] [] 0 0)]) (x := AV.slc 0 1 0 lb k) (S2 := AS.mk [AObj.cells ds 5] [] 0 0) (by kernel_rfl) ⟨h0, h1, c2, c3, c4, trivial⟩ hy -- Exit.ret
theorem zb2_1 (c : Cap) (n : Nat) : Path cfg 21 [AV.lst c [[AV.lst Cap.any []], [AV.lst Cap.any []]]] (AV.v (Value.slice none 0 0)) (n + 60) :=
  Path.of (ds := []) (cs := []) (x := AV.v (Value.slice none 0 0)) (S2 := AS.mk [] [] 0 0) (by kernel_rfl) trivial rfl -- Exit.ret
theorem hk3_1 (c : Cap) (rs : List (List AV)) (qs : List (List AV)) (ps : List (List AV)) (k : Nat) (la : Nat) (lb : Nat) (lc : Nat) (zs : List AV) (cs : List AV) (ds : List AV) (es : List AV) (n : Nat) (h0 : decide (IntKind.wrap IntKind.i64 (Int.ofNat 0 + (↑(List.length rs) : Int)) < 0) = false) (h1 : decide (IntKind.wrap IntKind.i64 (IntKind.wrap IntKind.i64 (Int.ofNat 0 + (↑(List.length rs) : Int)) + (↑(List.length qs) : Int)) < 0) = false) (h2 : decide (IntKind.wrap IntKind.i64 (IntKind.wrap IntKind.i64 (IntKind.wrap IntKind.i64 (Int.ofNat 0 + (↑(List.length rs) : Int)) + (↑(List.length qs) : Int)) + (↑(List.length ps) : Int)) < 0) = false) (c3 : Lw.call (lower cfg (n + 60)) 130 [AV.v (Value.slice none 0 0), AV.v (Value.int IntKind.i64 (IntKind.wrap IntKind.i64 (IntKind.wrap IntKind.i64 (IntKind.wrap IntKind.i64 (Int.ofNat 0 + (↑(List.length rs) : Int)) + (↑(List.length qs) : Int)) + (↑(List.length ps) : Int))))] (AS.mk [] [] 0 0) = some (AV.slc 0 8 0 0 k, AS.mk [AObj.cells zs 134] [] 0 0)) (c4 : aappend (Cfg.P cfg) false (AS.mk [AObj.cells zs 134] [] 0 0) 77 (AV.slc 0 8 0 0 k) (AV.lst Cap.any rs) = some (AV.slc 0 8 0 la k, AS.mk [AObj.cells cs 134] [] 0 0)) (c5 : aappend (Cfg.P cfg) false (AS.mk [AObj.cells cs 134] [] 0 0) 77 (AV.slc 0 8 0 la k) (AV.lst Cap.any qs) = some (AV.slc 0 8 0 lb k, AS.mk [AObj.cells ds 134] [] 0 0)) (c6 : aappend (Cfg.P cfg) false (AS.mk [AObj.cells ds 134] [] 0 0) 77 (AV.slc 0 8 0 lb k) (AV.lst Cap.any ps) = some (AV.slc 0 8 0 lc k, AS.mk [AObj.cells es 134] [] 0 0)) (y : AV) (hy : lend (AS.mk [AObj.cells es 134] [] 0 0) (AV.slc 0 8 0 lc k) = some y) : Path cfg 112 [AV.lst c [[AV.lst Cap.any rs], [AV.lst Cap.any qs], [AV.lst Cap.any ps]]] y (n + 60) :=
  Path.of (ds := [(18, Tell.b false), (14, Tell.b false), (14, Tell.b false), (5, Tell.op (AV.slc 0 8 0 0 k) (AS.mk [AObj.cells zs 134] [] 0 0)), (12, Tell.op (AV.slc 0 8 0 la k) (AS.mk [AObj.cells cs 134] [] 0 0)), (10, Tell.op (AV.slc 0 8 0 lb k) (AS.mk [AObj.cells ds 134] [] 0 0)), (10, Tell.op (AV.slc 0 8 0 lc k) (AS.mk [AObj.cells es 134] [] 0 0))]) (cs := [decide (IntKind.wrap IntKind.i64 (Int.ofNat 0 + (↑(List.length rs) : Int)) < 0) = false, decide (IntKind.wrap IntKind.i64 (IntKind.wrap IntKind.i64 (Int.ofNat 0 + (↑(List.length rs) : Int)) + (↑(List.length qs) : Int)) < 0) = false, decide (IntKind.wrap IntKind.i64 (IntKind.wrap IntKind.i64 (IntKind.wrap IntKind.i64 (Int.ofNat 0 + (↑(List.length rs) : Int)) + (↑(List.length qs) : Int)) + (↑(List.length ps) : Int)) < 0) = false, Lw.call (lower cfg (n + 60)) 130 [AV.v (Value.slice none 0 0), AV.v (Value.int IntKind.i64 (IntKind.wrap IntKind.i64 (IntKind.wrap IntKind.i64 (IntKind.wrap IntKind.i64 (Int.ofNat 0 + (↑(List.length rs) : Int)) + (↑(List.length qs) : Int)) + (↑(List.length ps) : Int))))] (AS.mk [] [] 0 0) = some (AV.slc 0 8 0 0 k, AS.mk [AObj.cells zs 134] [] 0 0), aappend (Cfg.P cfg) false (AS.mk [AObj.cells zs 134] [] 0 0) 77 (AV.slc 0 8 0 0 k) (AV.lst Cap.any rs) = some (AV.slc 0 8 0 la k, AS.mk [AObj.cells cs 134] [] 0 0), aappend (Cfg.P cfg) false (AS.mk [AObj.cells cs 134] [] 0 0) 77 (AV.slc 0 8 0 la k) (AV.lst Cap.any qs) = some (AV.slc 0 8 0 lb k, AS.mk [AObj.cells ds 134] [] 0 0), aappend (Cfg.P cfg) false (AS.mk [AObj.cells ds 134] [] 0 0) 77 (AV.slc 0 8 0 lb k) (AV.lst Cap.any ps) = some (AV.slc 0 8 0 lc k, AS.mk [AObj.cells es 134] [] 0 0)]) (x := AV.slc 0 8 0 lc k) (S2 := AS.mk [AObj.cells es 134] [] 0 0) (by kernel_rfl) ⟨h0, h1, h2, c3, c4, c5, c6, trivial⟩ hy -- Exit.ret
theorem zk3_1 (c : Cap) (n : Nat) : Path cfg 112 [AV.lst c [[AV.lst Cap.any []], [AV.lst Cap.any []], [AV.lst Cap.any []]]] (AV.v (Value.slice none 0 0)) (n + 60) :=
  Path.of (ds := []) (cs := []) (x := AV.v (Value.slice none 0 0)) (S2 := AS.mk [] [] 0 0) (by kernel_rfl) trivial rfl -- Exit.ret


theorem tK : RowT cfg.P 77 134 8 := ⟨by kernel_rfl, by kernel_rfl, by decide, by kernel_rfl, by kernel_rfl⟩
theorem tF : RowT cfg.P 22 27 4 := ⟨by kernel_rfl, by kernel_rfl, by decide, by kernel_rfl, by kernel_rfl⟩
theorem tB : RowT cfg.P 34 5 1 := ⟨by kernel_rfl, by kernel_rfl, by decide, by kernel_rfl, by kernel_rfl⟩
theorem aF : RowA Fm.row 4 := ⟨fun _ => rfl, fun _ => rfl, fun n a => by simp [Fm.row, belowAll, AV.old, Fm.belowRows_rows], fun n a => by simp [Fm.row, sealAll, AV.shut, Fm.sealRows_rows], weak_row⟩
theorem aB : RowA bR 1 := ⟨fun _ => rfl, fun _ => rfl, fun _ _ => rfl, fun _ _ => rfl, fun _ => rfl⟩
theorem kd_row (z : Kd) : z.row = z.x.row ++ z.k.row := rfl
theorem weakL_app (a b : List AV) : weakL (a ++ b) = weakL a ++ weakL b := by rw [weakL_map, weakL_map, weakL_map, List.map_append]
theorem aK : RowA Kd.row 8 := ⟨fun _ => rfl, fun _ => rfl, fun n a => by simp [Kd.row, belowAll, AV.old, Fm.belowRows_rows], fun n a => by simp [Kd.row, sealAll, AV.shut, Fm.sealRows_rows], fun a => by rw [kd_row, weakL_app, weak_row, weak_row]⟩

theorem splice_nil (cs : List AV) (l : Nat) : splice cs l [] = cs := by unfold splice; simp
/-- Appending to the one object of a store. -/
theorem append_any {P : Program} {t te : TypeId} {sz : Nat} {α : Type} {ρ : α → List AV} (hT : RowT P t te sz) (hA : RowA ρ sz) {mu : Bool} {l k : Nat} {xs : List α} {c : Cap} {cs : List AV} {T : TypeId} (h1 : l + xs.length ≤ k) (h2 : k * sz ≤ cs.length) :
    aappend P mu (AS.mk [.cells cs T] [] 0 0) t (.slc 0 sz 0 l k) (.lst c (xs.map ρ)) = some (.slc 0 sz 0 (l + xs.length) k, AS.mk [.cells (splice cs (l * sz) (flatG ρ xs)) T] [] 0 0) := by
  by_cases h0 : xs = []
  · subst h0
    have : flatG ρ ([] : List α) = [] := rfl
    rw [this, splice_nil]
    exact hT.append_none
  · exact hT.append_room hA rfl h0 h1 h2
theorem splice_head {cs a : List AV} (h : a.length ≤ cs.length) : splice cs 0 a = a ++ cs.drop a.length := by unfold splice; simp
theorem splice_at {p r b : List AV} {m : Nat} (hm : p.length = m) : splice (p ++ r) m b = p ++ b ++ r.drop b.length := by
  unfold splice
  rw [List.take_left' hm, List.drop_append, List.drop_of_length_le (by omega), List.nil_append]
  congr 2
  omega

theorem call130 (n : Nat) (args : List AV) (S : AS) : (lower cfg (n + 1 + 60)).call 130 args S = acallF cfg (lower cfg (n + 60)) (n + 60 + 1) 130 args S := by kernel_rfl
theorem call82 (n : Nat) (args : List AV) (S : AS) : (lower cfg (n + 1 + 60)).call 82 args S = acallF cfg (lower cfg (n + 60)) (n + 60 + 1) 82 args S := by kernel_rfl
theorem wrapNat {m : Nat} (h : m ≤ 100000) : IntKind.wrap IntKind.i64 ((m : Nat) : Int) = (m : Int) := wrap_id (by omega) (by omega)
theorem grow130 (m n : Nat) (h0 : 0 < m) (hb : m ≤ 100000) : ∃ zs : List AV, zs.length = m * 8 ∧ (lower cfg (n + 1 + 60)).call 130 [.v (.slice none 0 0), .v (.int .i64 (m : Int))] (AS.mk [] [] 0 0) = some (.slc 0 8 0 0 m, AS.mk [.cells zs 134] [] 0 0) := by
  obtain ⟨zs, h1, h2⟩ := tK.zeros (S := AS.mk [] [] 0 0) (tn := 3) (q := .i64) (by kernel_rfl) h0 hb
  refine ⟨zs, h1, ?_⟩
  rw [call130]
  have e : IntKind.wrap IntKind.i64 (Int.ofNat m - Int.ofNat 0) = (m : Int) := by
    rw [show Int.ofNat m - Int.ofNat 0 = (m : Int) by simp]; exact wrapNat hb
  exact g130_1 m m zs n (by rw [e]; exact decide_eq_true (by omega)) (by rw [e]; exact h2)
theorem grow82 (m n : Nat) (h0 : 0 < m) (hb : m ≤ 100000) : ∃ zs : List AV, zs.length = m * 1 ∧ (lower cfg (n + 1 + 60)).call 82 [.v (.slice none 0 0), .v (.int .i64 (m : Int))] (AS.mk [] [] 0 0) = some (.slc 0 1 0 0 m, AS.mk [.cells zs 5] [] 0 0) := by
  obtain ⟨zs, h1, h2⟩ := tB.zeros (S := AS.mk [] [] 0 0) (tn := 3) (q := .i64) (by kernel_rfl) h0 hb
  refine ⟨zs, h1, ?_⟩
  rw [call82]
  have e : IntKind.wrap IntKind.i64 (Int.ofNat m - Int.ofNat 0) = (m : Int) := by
    rw [show Int.ofNat m - Int.ofNat 0 = (m : Int) by simp]; exact wrapNat hb
  exact g82_1 m m zs n (by rw [e]; exact decide_eq_true (by omega)) (by rw [e]; exact h2)

theorem own_lists {ls : List AV} (h : Go.AM.Own ls) : Go.AM.Own [.lst .any (ls.map fun a => [a])] := by
  have h1 : ∀ (n : Nat) (l : List AV), belowAll n l = true → belowRows n (l.map fun a => [a]) = true := fun n l => by
    induction l with
    | nil => intro _; rfl
    | cons a l ih => intro hl; simp only [belowAll, Bool.and_eq_true] at hl; simp only [List.map_cons, belowRows, belowAll, hl.1, ih hl.2, Bool.and_self]
  have h2 : ∀ (n : Nat) (l : List AV), sealAll n l = l → sealRows n (l.map fun a => [a]) = l.map fun a => [a] := fun n l => by
    induction l with
    | nil => intro _; rfl
    | cons a l ih => intro hl; simp only [sealAll, List.cons.injEq] at hl; simp only [List.map_cons, sealRows, sealAll, hl.1, ih hl.2]
  refine Own.cons ?_ ?_ Own.nil
  · simp only [AV.old]; exact h1 0 _ h.below
  · simp only [AV.shut]; rw [h2 0 _ h.same]

abbrev lk (zs : List Kd) : AV := lG Kd.row zs
theorem sum2 {a b : Nat} (h : a + b ≤ 100000) : IntKind.wrap IntKind.i64 (IntKind.wrap IntKind.i64 (Int.ofNat 0 + (a : Int)) + (b : Int)) = ((a + b : Nat) : Int) ∧ IntKind.wrap IntKind.i64 (Int.ofNat 0 + (a : Int)) = (a : Int) := by
  have h1 : IntKind.wrap IntKind.i64 (Int.ofNat 0 + (a : Int)) = (a : Int) := by rw [show Int.ofNat 0 + (a : Int) = ((a : Nat) : Int) by simp]; exact wrapNat (by omega)
  rw [h1]
  exact ⟨by rw [← Int.natCast_add]; exact wrapNat h, rfl⟩

theorem cat2 (us vs : List Kd) (hb : us.length + vs.length ≤ 2000) : Fr cfg 112 [.lst .any [[lk us], [lk vs]]] (acO ((us ++ vs).map Kd.row)) := by
  refine Fr.of_co rfl (by kernel_rfl) (own_lists (ls := [lk us, lk vs]) (Own.lG aK (Own.lG aK Own.nil))) (Co.path (by kernel_rfl) (Evt.shift ((Evt.big 1).mono fun n hn => ?_)))
  obtain ⟨n, rfl⟩ : ∃ m, n = m + 1 := ⟨n - 1, by omega⟩
  by_cases h0 : us ++ vs = []
  · obtain ⟨rfl, rfl⟩ := List.append_eq_nil_iff.1 h0
    exact zk2_1 .any (n + 1)
  · have hpos : 0 < us.length + vs.length := by
      have := List.length_pos_iff.2 h0
      simpa using this
    obtain ⟨zs, z1, z2⟩ := grow130 (us.length + vs.length) n hpos (by omega)
    have e1 : (↑(List.length (us.map Kd.row)) : Int) = (us.length : Int) := by simp
    have e2 : (↑(List.length (vs.map Kd.row)) : Int) = (vs.length : Int) := by simp
    obtain ⟨s1, s2⟩ := sum2 (a := us.length) (b := vs.length) (by omega)
    have q1 := append_any tK aK (mu := false) (l := 0) (k := us.length + vs.length) (xs := us) (c := .any) (cs := zs) (T := 134) (by omega) (by omega)
    have q2 := append_any tK aK (mu := false) (l := 0 + us.length) (k := us.length + vs.length) (xs := vs) (c := .any) (cs := splice zs (0 * 8) (flatG Kd.row us)) (T := 134) (by omega) (by rw [splice_length (by rw [aK.flat_len]; omega)]; omega)
    have hcell : splice (splice zs (0 * 8) (flatG Kd.row us)) ((0 + us.length) * 8) (flatG Kd.row vs) = flatG Kd.row (us ++ vs) := by
      rw [Nat.zero_mul, splice_head (by rw [aK.flat_len]; omega), splice_at (by rw [aK.flat_len]; omega), List.drop_of_length_le (by simp [aK.flat_len]; omega), List.append_nil, flatG_append]
    rw [hcell] at q2
    have hl := aK.lend_slc (S := AS.mk [.cells (flatG Kd.row (us ++ vs)) 134] [] 0 0) (d := 4) (o := 0) (k := us.length + vs.length) (xs := us ++ vs) (T := 134) rfl
    have hac : acO ((us ++ vs).map Kd.row) = .lst .unk ((us ++ vs).map Kd.row) := by
      cases hx : (us ++ vs).map Kd.row with
      | nil => simp at hx; exact absurd (by rw [hx.1, hx.2]; rfl) h0
      | cons r rs => rfl
    rw [hac]
    rw [List.length_append] at hl
    refine hk2_1 .any (us.map Kd.row) (vs.map Kd.row) (us.length + vs.length) (0 + us.length) (0 + us.length + vs.length) zs _ (flatG Kd.row (us ++ vs)) (n + 1) ?_ ?_ ?_ q1 q2 _ ?_
    · rw [e1, s2]; exact decide_eq_false (by omega)
    · rw [e1, e2, s1]; exact decide_eq_false (by omega)
    · rw [e1, e2, s1]; exact z2
    · rw [Nat.zero_add]; exact hl

theorem cat3 (us vs ws : List Kd) (hb : us.length + vs.length + ws.length ≤ 2000) : Fr cfg 112 [.lst .any [[lk us], [lk vs], [lk ws]]] (acO ((us ++ vs ++ ws).map Kd.row)) := by
  refine Fr.of_co rfl (by kernel_rfl) (own_lists (ls := [lk us, lk vs, lk ws]) (Own.lG aK (Own.lG aK (Own.lG aK Own.nil)))) (Co.path (by kernel_rfl) (Evt.shift ((Evt.big 1).mono fun n hn => ?_)))
  obtain ⟨n, rfl⟩ : ∃ m, n = m + 1 := ⟨n - 1, by omega⟩
  by_cases h0 : us ++ vs ++ ws = []
  · obtain ⟨h1, rfl⟩ := List.append_eq_nil_iff.1 h0
    obtain ⟨rfl, rfl⟩ := List.append_eq_nil_iff.1 h1
    exact zk3_1 .any (n + 1)
  · have hpos : 0 < us.length + vs.length + ws.length := by
      have := List.length_pos_iff.2 h0
      simp only [List.length_append] at this
      exact this
    obtain ⟨zs, z1, z2⟩ := grow130 (us.length + vs.length + ws.length) n hpos (by omega)
    have e1 : (↑(List.length (us.map Kd.row)) : Int) = (us.length : Int) := by simp
    have e2 : (↑(List.length (vs.map Kd.row)) : Int) = (vs.length : Int) := by simp
    have e3 : (↑(List.length (ws.map Kd.row)) : Int) = (ws.length : Int) := by simp
    obtain ⟨s1, s2⟩ := sum2 (a := us.length) (b := vs.length) (by omega)
    have s3 : IntKind.wrap IntKind.i64 (((us.length + vs.length : Nat) : Int) + (ws.length : Int)) = ((us.length + vs.length + ws.length : Nat) : Int) := by rw [← Int.natCast_add]; exact wrapNat (by omega)
    have q1 := append_any tK aK (mu := false) (l := 0) (k := us.length + vs.length + ws.length) (xs := us) (c := .any) (cs := zs) (T := 134) (by omega) (by omega)
    have q2 := append_any tK aK (mu := false) (l := 0 + us.length) (k := us.length + vs.length + ws.length) (xs := vs) (c := .any) (cs := splice zs (0 * 8) (flatG Kd.row us)) (T := 134) (by omega) (by rw [splice_length (by rw [aK.flat_len]; omega)]; omega)
    have hc2 : splice (splice zs (0 * 8) (flatG Kd.row us)) ((0 + us.length) * 8) (flatG Kd.row vs) = flatG Kd.row (us ++ vs) ++ (zs.drop (us.length * 8)).drop (vs.length * 8) := by
      rw [Nat.zero_mul, splice_head (by rw [aK.flat_len]; omega), splice_at (by rw [aK.flat_len]; omega), flatG_append, aK.flat_len, aK.flat_len]
    rw [hc2] at q2
    have q3 := append_any tK aK (mu := false) (l := 0 + us.length + vs.length) (k := us.length + vs.length + ws.length) (xs := ws) (c := .any) (cs := flatG Kd.row (us ++ vs) ++ (zs.drop (us.length * 8)).drop (vs.length * 8)) (T := 134) (by omega) (by simp [aK.flat_len]; omega)
    have hc3 : splice (flatG Kd.row (us ++ vs) ++ (zs.drop (us.length * 8)).drop (vs.length * 8)) ((0 + us.length + vs.length) * 8) (flatG Kd.row ws) = flatG Kd.row (us ++ vs ++ ws) := by
      rw [splice_at (by rw [aK.flat_len, List.length_append]; omega), List.drop_of_length_le (by simp [aK.flat_len]; omega), List.append_nil, flatG_append (us ++ vs) ws]
    rw [hc3] at q3
    have hl := aK.lend_slc (S := AS.mk [.cells (flatG Kd.row (us ++ vs ++ ws)) 134] [] 0 0) (d := 4) (o := 0) (k := us.length + vs.length + ws.length) (xs := us ++ vs ++ ws) (T := 134) rfl
    have hac : acO ((us ++ vs ++ ws).map Kd.row) = .lst .unk ((us ++ vs ++ ws).map Kd.row) := by
      cases hx : (us ++ vs ++ ws).map Kd.row with
      | nil => exact absurd (List.map_eq_nil_iff.1 hx) h0
      | cons r rs => rfl
    rw [hac]
    rw [List.length_append, List.length_append] at hl
    refine hk3_1 .any (us.map Kd.row) (vs.map Kd.row) (ws.map Kd.row) (us.length + vs.length + ws.length) (0 + us.length) (0 + us.length + vs.length) (0 + us.length + vs.length + ws.length) zs _ _ (flatG Kd.row (us ++ vs ++ ws)) (n + 1) ?_ ?_ ?_ ?_ q1 q2 q3 _ ?_
    · rw [e1, s2]; exact decide_eq_false (by omega)
    · rw [e1, e2, s1]; exact decide_eq_false (by omega)
    · rw [e1, e2, e3, s1, s3]; exact decide_eq_false (by omega)
    · rw [e1, e2, e3, s1, s3]; exact z2
    · rw [Nat.zero_add]; exact hl

theorem catB (us vs : List Int) (hb : us.length + vs.length ≤ 2000) : Fr cfg 21 [.lst .any [[lG bR us], [lG bR vs]]] (acO ((us ++ vs).map bR)) := by
  refine Fr.of_co rfl (by kernel_rfl) (own_lists (ls := [lG bR us, lG bR vs]) (Own.lG aB (Own.lG aB Own.nil))) (Co.path (by kernel_rfl) (Evt.shift ((Evt.big 1).mono fun n hn => ?_)))
  obtain ⟨n, rfl⟩ : ∃ m, n = m + 1 := ⟨n - 1, by omega⟩
  by_cases h0 : us ++ vs = []
  · obtain ⟨rfl, rfl⟩ := List.append_eq_nil_iff.1 h0
    exact zb2_1 .any (n + 1)
  · have hpos : 0 < us.length + vs.length := by
      have := List.length_pos_iff.2 h0
      simpa using this
    obtain ⟨zs, z1, z2⟩ := grow82 (us.length + vs.length) n hpos (by omega)
    have e1 : (↑(List.length (us.map bR)) : Int) = (us.length : Int) := by simp
    have e2 : (↑(List.length (vs.map bR)) : Int) = (vs.length : Int) := by simp
    obtain ⟨s1, s2⟩ := sum2 (a := us.length) (b := vs.length) (by omega)
    have q1 := append_any tB aB (mu := false) (l := 0) (k := us.length + vs.length) (xs := us) (c := .any) (cs := zs) (T := 5) (by omega) (by omega)
    have q2 := append_any tB aB (mu := false) (l := 0 + us.length) (k := us.length + vs.length) (xs := vs) (c := .any) (cs := splice zs (0 * 1) (flatG bR us)) (T := 5) (by omega) (by rw [splice_length (by rw [aB.flat_len]; omega)]; omega)
    have hcell : splice (splice zs (0 * 1) (flatG bR us)) ((0 + us.length) * 1) (flatG bR vs) = flatG bR (us ++ vs) := by
      rw [Nat.zero_mul, splice_head (by rw [aB.flat_len]; omega), splice_at (by rw [aB.flat_len]; omega), List.drop_of_length_le (by simp [aB.flat_len]; omega), List.append_nil, flatG_append]
    rw [hcell] at q2
    have hl := aB.lend_slc (S := AS.mk [.cells (flatG bR (us ++ vs)) 5] [] 0 0) (d := 4) (o := 0) (k := us.length + vs.length) (xs := us ++ vs) (T := 5) rfl
    have hac : acO ((us ++ vs).map bR) = .lst .unk ((us ++ vs).map bR) := by
      cases hx : (us ++ vs).map bR with
      | nil => exact absurd (List.map_eq_nil_iff.1 hx) h0
      | cons r rs => rfl
    rw [hac]
    rw [List.length_append] at hl
    refine hb2_1 .any (us.map bR) (vs.map bR) (us.length + vs.length) (0 + us.length) (0 + us.length + vs.length) zs _ (flatG bR (us ++ vs)) (n + 1) ?_ ?_ ?_ q1 q2 _ ?_
    · rw [e1, s2]; exact decide_eq_false (by omega)
    · rw [e1, e2, s1]; exact decide_eq_false (by omega)
    · rw [e1, e2, s1]; exact z2
    · rw [Nat.zero_add]; exact hl
end Go.Proofs.YtamemdhmjglifaaGreatDoor
