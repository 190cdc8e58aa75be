/- Chapter 12: two forms are the same. -/
import Derived.Test.YtamemdhmjglifaaGreatDoorC0
namespace Go.Proofs.YtamemdhmjglifaaGreatDoor
open Go.RowKit Go.AM
set_option maxRecDepth 100000
set_option linter.unusedVariables false
theorem b24_1 (x : Fm) (y : Fm) (p : Fm) (q : Fm) (i : Int) (n : Nat) (h0 : decide (i < (↑(List.length (Fm.rows x)) : Int)) = true) (c1 : aindexAddr (Cfg.P cfg) 22 (AV.lst Cap.any (Fm.rows x)) (AV.v (Value.int IntKind.i64 i)) = some (AV.eptr (Fm.row p) 0)) (c2 : aindexAddr (Cfg.P cfg) 22 (AV.lst Cap.any (Fm.rows y)) (AV.v (Value.int IntKind.i64 i)) = some (AV.eptr (Fm.row q) 0)) (c3 : ∀ (S : AS), Lw.call (lower cfg (n + 60)) 24 [(Fm.av p), (Fm.av q)] S = some (AV.v (Value.bool (same p q)), S)) (h4 : same p q = true) (a : AAct) (ha : In 53 [] [(2, AV.ptr 0 0), (3, AV.ptr 1 0), (5, AV.v (Value.int IntKind.i64 i))] a) : Seen (aBody cfg 24 (codeAt (codeOf cfg.P 24) [1, 1, 0, 1, 0, 0]) 2 (aC cfg (lower cfg (n + 60)) (n + 60 + 1) 24 none (codeAt (codeOf cfg.P 24) [1, 1, 0, 1, 0, 0])) a (AS.mk [AObj.cells (Fm.row x) 27, AObj.cells (Fm.row y) 27] [] 0 0)) (Exit.normal) 53 [] [(2, AV.ptr 0 0), (3, AV.ptr 1 0), (5, AV.v (Value.int IntKind.i64 (IntKind.wrap IntKind.i64 (i + 1))))] (AS.mk [AObj.cells (Fm.row x) 27, AObj.cells (Fm.row y) 27] [] 0 0) :=
  segB_ok (ds := [(5, Tell.b true), (3, Tell.fr (AV.eptr (Fm.row p) 0)), (4, Tell.fr (AV.eptr (Fm.row q) 0)), (1, Tell.fr (AV.v (Value.bool (same p q)))), (1, Tell.b false), (3, Tell.b true)]) (cs := [decide (i < (↑(List.length (Fm.rows x)) : Int)) = true, frP (aindexAddr (Cfg.P cfg) 22 (AV.lst Cap.any (Fm.rows x)) (AV.v (Value.int IntKind.i64 i))) (AV.eptr (Fm.row p) 0), frP (aindexAddr (Cfg.P cfg) 22 (AV.lst Cap.any (Fm.rows y)) (AV.v (Value.int IntKind.i64 i))) (AV.eptr (Fm.row q) 0), ∀ (S : AS), Lw.call (lower cfg (n + 60)) 24 [(Fm.av p), (Fm.av q)] S = some (AV.v (Value.bool (same p q)), S), (!same p q) = false, trimB 2 [AV.ptr 0 0, AV.ptr 1 0, AV.v (Value.int IntKind.i64 (IntKind.wrap IntKind.i64 (i + 1)))] [AObj.cells (Fm.row x) 27, AObj.cells (Fm.row y) 27] [] 2 = true]) (ws := [2, 3, 5]) (ds' := []) ha (fun g => by kernel_rfl) ⟨h0, (fr_of c1), (fr_of c2), c3, (congrArg not h4), (by simp [trimB, objOld, belowAll, AV.old, Fm.row, Fm.av, Fm.belowRows_rows, Fm.belowRows_map, Nat.ble]), trivial⟩
theorem b24_2 (x : Fm) (y : Fm) (p : Fm) (q : Fm) (i : Int) (n : Nat) (h0 : decide (i < (↑(List.length (Fm.rows x)) : Int)) = true) (c1 : aindexAddr (Cfg.P cfg) 22 (AV.lst Cap.any (Fm.rows x)) (AV.v (Value.int IntKind.i64 i)) = some (AV.eptr (Fm.row p) 0)) (c2 : aindexAddr (Cfg.P cfg) 22 (AV.lst Cap.any (Fm.rows y)) (AV.v (Value.int IntKind.i64 i)) = some (AV.eptr (Fm.row q) 0)) (c3 : ∀ (S : AS), Lw.call (lower cfg (n + 60)) 24 [(Fm.av p), (Fm.av q)] S = some (AV.v (Value.bool (same p q)), S)) (h4 : same p q = false) (a : AAct) (ha : In 53 [] [(2, AV.ptr 0 0), (3, AV.ptr 1 0), (5, AV.v (Value.int IntKind.i64 i))] a) : Seen (aBody cfg 24 (codeAt (codeOf cfg.P 24) [1, 1, 0, 1, 0, 0]) 2 (aC cfg (lower cfg (n + 60)) (n + 60 + 1) 24 none (codeAt (codeOf cfg.P 24) [1, 1, 0, 1, 0, 0])) a (AS.mk [AObj.cells (Fm.row x) 27, AObj.cells (Fm.row y) 27] [] 0 0)) (Exit.ret) 53 [] [(2, AV.ptr 0 0), (3, AV.ptr 1 0), (4, AV.v (Value.bool false)), (5, AV.v (Value.int IntKind.i64 i))] (AS.mk [AObj.cells (Fm.row x) 27, AObj.cells (Fm.row y) 27] [] 0 0) :=
  segB_ok (ds := [(5, Tell.b true), (3, Tell.fr (AV.eptr (Fm.row p) 0)), (4, Tell.fr (AV.eptr (Fm.row q) 0)), (1, Tell.fr (AV.v (Value.bool (same p q)))), (1, Tell.b true)]) (cs := [decide (i < (↑(List.length (Fm.rows x)) : Int)) = true, frP (aindexAddr (Cfg.P cfg) 22 (AV.lst Cap.any (Fm.rows x)) (AV.v (Value.int IntKind.i64 i))) (AV.eptr (Fm.row p) 0), frP (aindexAddr (Cfg.P cfg) 22 (AV.lst Cap.any (Fm.rows y)) (AV.v (Value.int IntKind.i64 i))) (AV.eptr (Fm.row q) 0), ∀ (S : AS), Lw.call (lower cfg (n + 60)) 24 [(Fm.av p), (Fm.av q)] S = some (AV.v (Value.bool (same p q)), S), (!same p q) = true]) (ws := [2, 3, 4, 5]) (ds' := []) ha (fun g => by kernel_rfl) ⟨h0, (fr_of c1), (fr_of c2), c3, (congrArg not h4), trivial⟩
theorem b24_3 (x : Fm) (y : Fm) (p : Fm) (q : Fm) (i : Int) (n : Nat) (h0 : decide (i < (↑(List.length (Fm.rows x)) : Int)) = false) (a : AAct) (ha : In 53 [] [(2, AV.ptr 0 0), (3, AV.ptr 1 0), (5, AV.v (Value.int IntKind.i64 i))] a) : Seen (aBody cfg 24 (codeAt (codeOf cfg.P 24) [1, 1, 0, 1, 0, 0]) 2 (aC cfg (lower cfg (n + 60)) (n + 60 + 1) 24 none (codeAt (codeOf cfg.P 24) [1, 1, 0, 1, 0, 0])) a (AS.mk [AObj.cells (Fm.row x) 27, AObj.cells (Fm.row y) 27] [] 0 0)) (Exit.exit 0) 53 [] [(2, AV.ptr 0 0), (3, AV.ptr 1 0), (5, AV.v (Value.int IntKind.i64 i))] (AS.mk [AObj.cells (Fm.row x) 27, AObj.cells (Fm.row y) 27] [] 0 0) :=
  segB_ok (ds := [(5, Tell.b false)]) (cs := [decide (i < (↑(List.length (Fm.rows x)) : Int)) = false]) (ws := [2, 3, 5]) (ds' := []) ha (fun g => by kernel_rfl) ⟨h0, trivial⟩
theorem f24_1 (x : Fm) (y : Fm) (n : Nat) (γ0 : AAct → Nat → AV) (h0 : (Fm.kind x == Fm.kind y) = true) (h1 : (ByteArray.toList (Fm.text x) == ByteArray.toList (Fm.text y)) = true) (h2 : (ByteArray.toList (Fm.home x) == ByteArray.toList (Fm.home y)) = true) (h3 : ((↑(List.length (Fm.rows x)) : Int) == (↑(List.length (Fm.rows y)) : Int)) = true) (l4 : LoopIs cfg (lower cfg (n + 60)) (n + 60 + 1) 24 none (codeAt (codeOf (Cfg.P cfg) 24) [1, 1, 0, 1, 0]) 53 [] [(2, AV.ptr 0 0), (3, AV.ptr 1 0), (5, AV.v (Value.int IntKind.i64 (Int.ofNat 0)))] (AS.mk [AObj.cells (Fm.row x) 27, AObj.cells (Fm.row y) 27] [] 0 0) (Exit.exit 0) [(2, AV.ptr 0 0), (3, AV.ptr 1 0)] (AS.mk [AObj.cells (Fm.row x) 27, AObj.cells (Fm.row y) 27] [] 0 0) γ0) : Path cfg 24 [(Fm.av x), (Fm.av y)] (AV.v (Value.bool true)) (n + 60) :=
  Path.of (ds := [(7, Tell.b false), (10, Tell.b false), (11, Tell.b false), (17, Tell.b false), (1, Tell.lp [2, 3, 5] (Exit.exit 0) [(2, AV.ptr 0 0), (3, AV.ptr 1 0)] (AS.mk [AObj.cells (Fm.row x) 27, AObj.cells (Fm.row y) 27] [] 0 0) γ0)]) (cs := [(Fm.kind x != Fm.kind y) = false, (!ByteArray.toList (Fm.text x) == ByteArray.toList (Fm.text y)) = false, (!ByteArray.toList (Fm.home x) == ByteArray.toList (Fm.home y)) = false, ((↑(List.length (Fm.rows x)) : Int) != (↑(List.length (Fm.rows y)) : Int)) = false, LoopIs cfg (lower cfg (n + 60)) (n + 60 + 1) 24 none (codeAt (codeOf (Cfg.P cfg) 24) [1, 1, 0, 1, 0]) 53 [] [(2, AV.ptr 0 0), (3, AV.ptr 1 0), (5, AV.v (Value.int IntKind.i64 (Int.ofNat 0)))] (AS.mk [AObj.cells (Fm.row x) 27, AObj.cells (Fm.row y) 27] [] 0 0) (Exit.exit 0) [(2, AV.ptr 0 0), (3, AV.ptr 1 0)] (AS.mk [AObj.cells (Fm.row x) 27, AObj.cells (Fm.row y) 27] [] 0 0) γ0]) (x := AV.v (Value.bool true)) (S2 := AS.mk [AObj.cells (Fm.row x) 27, AObj.cells (Fm.row y) 27] [] 0 0) (by kernel_rfl) ⟨(congrArg not h0), (congrArg not h1), (congrArg not h2), (congrArg not h3), l4, trivial⟩ rfl -- Exit.ret
theorem f24_2 (x : Fm) (y : Fm) (n : Nat) (h0 : (Fm.kind x == Fm.kind y) = true) (h1 : (ByteArray.toList (Fm.text x) == ByteArray.toList (Fm.text y)) = true) (h2 : (ByteArray.toList (Fm.home x) == ByteArray.toList (Fm.home y)) = true) (h3 : ((↑(List.length (Fm.rows x)) : Int) == (↑(List.length (Fm.rows y)) : Int)) = false) : Path cfg 24 [(Fm.av x), (Fm.av y)] (AV.v (Value.bool false)) (n + 60) :=
  Path.of (ds := [(7, Tell.b false), (10, Tell.b false), (11, Tell.b false), (17, Tell.b true)]) (cs := [(Fm.kind x != Fm.kind y) = false, (!ByteArray.toList (Fm.text x) == ByteArray.toList (Fm.text y)) = false, (!ByteArray.toList (Fm.home x) == ByteArray.toList (Fm.home y)) = false, ((↑(List.length (Fm.rows x)) : Int) != (↑(List.length (Fm.rows y)) : Int)) = true]) (x := AV.v (Value.bool false)) (S2 := AS.mk [AObj.cells (Fm.row x) 27, AObj.cells (Fm.row y) 27] [] 0 0) (by kernel_rfl) ⟨(congrArg not h0), (congrArg not h1), (congrArg not h2), (congrArg not h3), trivial⟩ rfl -- Exit.ret
theorem f24_3 (x : Fm) (y : Fm) (n : Nat) (h0 : (Fm.kind x == Fm.kind y) = true) (h1 : (ByteArray.toList (Fm.text x) == ByteArray.toList (Fm.text y)) = true) (h2 : (ByteArray.toList (Fm.home x) == ByteArray.toList (Fm.home y)) = false) : Path cfg 24 [(Fm.av x), (Fm.av y)] (AV.v (Value.bool false)) (n + 60) :=
  Path.of (ds := [(7, Tell.b false), (10, Tell.b false), (11, Tell.b true)]) (cs := [(Fm.kind x != Fm.kind y) = false, (!ByteArray.toList (Fm.text x) == ByteArray.toList (Fm.text y)) = false, (!ByteArray.toList (Fm.home x) == ByteArray.toList (Fm.home y)) = true]) (x := AV.v (Value.bool false)) (S2 := AS.mk [AObj.cells (Fm.row x) 27, AObj.cells (Fm.row y) 27] [] 0 0) (by kernel_rfl) ⟨(congrArg not h0), (congrArg not h1), (congrArg not h2), trivial⟩ rfl -- Exit.ret
theorem f24_4 (x : Fm) (y : Fm) (n : Nat) (h0 : (Fm.kind x == Fm.kind y) = true) (h1 : (ByteArray.toList (Fm.text x) == ByteArray.toList (Fm.text y)) = false) : Path cfg 24 [(Fm.av x), (Fm.av y)] (AV.v (Value.bool false)) (n + 60) :=
  Path.of (ds := [(7, Tell.b false), (10, Tell.b true)]) (cs := [(Fm.kind x != Fm.kind y) = false, (!ByteArray.toList (Fm.text x) == ByteArray.toList (Fm.text y)) = true]) (x := AV.v (Value.bool false)) (S2 := AS.mk [AObj.cells (Fm.row x) 27, AObj.cells (Fm.row y) 27] [] 0 0) (by kernel_rfl) ⟨(congrArg not h0), (congrArg not h1), trivial⟩ rfl -- Exit.ret
theorem f24_5 (x : Fm) (y : Fm) (n : Nat) (h0 : (Fm.kind x == Fm.kind y) = false) : Path cfg 24 [(Fm.av x), (Fm.av y)] (AV.v (Value.bool false)) (n + 60) :=
  Path.of (ds := [(7, Tell.b true)]) (cs := [(Fm.kind x != Fm.kind y) = true]) (x := AV.v (Value.bool false)) (S2 := AS.mk [AObj.cells (Fm.row x) 27, AObj.cells (Fm.row y) 27] [] 0 0) (by kernel_rfl) ⟨(congrArg not h0), trivial⟩ rfl -- Exit.ret

theorem g24_1 (x : Fm) (y : Fm) (n : Nat) (γ0 : AAct → Nat → AV) (h0 : (Fm.kind x == Fm.kind y) = true) (h1 : (ByteArray.toList (Fm.text x) == ByteArray.toList (Fm.text y)) = true) (h2 : (ByteArray.toList (Fm.home x) == ByteArray.toList (Fm.home y)) = true) (h3 : ((↑(List.length (Fm.rows x)) : Int) == (↑(List.length (Fm.rows y)) : Int)) = true) (l4 : LoopIs cfg (lower cfg (n + 60)) (n + 60 + 1) 24 none (codeAt (codeOf (Cfg.P cfg) 24) [1, 1, 0, 1, 0]) 53 [] [(2, AV.ptr 0 0), (3, AV.ptr 1 0), (5, AV.v (Value.int IntKind.i64 (Int.ofNat 0)))] (AS.mk [AObj.cells (Fm.row x) 27, AObj.cells (Fm.row y) 27] [] 0 0) Exit.ret [(2, AV.ptr 0 0), (3, AV.ptr 1 0), (4, AV.v (Value.bool false))] (AS.mk [AObj.cells (Fm.row x) 27, AObj.cells (Fm.row y) 27] [] 0 0) γ0) : Path cfg 24 [(Fm.av x), (Fm.av y)] (AV.v (Value.bool false)) (n + 60) :=
  Path.of (ds := [(7, Tell.b false), (10, Tell.b false), (11, Tell.b false), (17, Tell.b false), (1, Tell.lp [2, 3, 5] Exit.ret [(2, AV.ptr 0 0), (3, AV.ptr 1 0), (4, AV.v (Value.bool false))] (AS.mk [AObj.cells (Fm.row x) 27, AObj.cells (Fm.row y) 27] [] 0 0) γ0)]) (cs := [(Fm.kind x != Fm.kind y) = false, (!ByteArray.toList (Fm.text x) == ByteArray.toList (Fm.text y)) = false, (!ByteArray.toList (Fm.home x) == ByteArray.toList (Fm.home y)) = false, ((↑(List.length (Fm.rows x)) : Int) != (↑(List.length (Fm.rows y)) : Int)) = false, LoopIs cfg (lower cfg (n + 60)) (n + 60 + 1) 24 none (codeAt (codeOf (Cfg.P cfg) 24) [1, 1, 0, 1, 0]) 53 [] [(2, AV.ptr 0 0), (3, AV.ptr 1 0), (5, AV.v (Value.int IntKind.i64 (Int.ofNat 0)))] (AS.mk [AObj.cells (Fm.row x) 27, AObj.cells (Fm.row y) 27] [] 0 0) Exit.ret [(2, AV.ptr 0 0), (3, AV.ptr 1 0), (4, AV.v (Value.bool false))] (AS.mk [AObj.cells (Fm.row x) 27, AObj.cells (Fm.row y) 27] [] 0 0) γ0]) (x := AV.v (Value.bool false)) (S2 := AS.mk [AObj.cells (Fm.row x) 27, AObj.cells (Fm.row y) 27] [] 0 0) (by kernel_rfl) ⟨(congrArg not h0), (congrArg not h1), (congrArg not h2), (congrArg not h3), l4, trivial⟩ rfl -- Exit.ret


theorem u22 : cfg.P.underlying 22 = some (.slice 27) := by kernel_rfl
theorem s27 : szOf cfg.P 27 = some 4 := by kernel_rfl


theorem sameT {x y : Fm} (h : x = y) : same x y = true := by simp [same, h]
theorem sameF {x y : Fm} (h : x ≠ y) : same x y = false := by simp [same, h]

def sameS (x y : Fm) : AS := AS.mk [AObj.cells (Fm.row x) 27, AObj.cells (Fm.row y) 27] [] 0 0
def sameL (i : Nat) : List (Nat × AV) := [(2, AV.ptr 0 0), (3, AV.ptr 1 0), (5, AV.v (Value.int IntKind.i64 (Int.ofNat i)))]
abbrev IH (x y : Fm) (n : Nat) : Prop := ∀ z, z ∈ x.kids → ∀ w, w ∈ y.kids → ∀ S, (lower cfg (n + 60)).call 24 [z.av, w.av] S = some (.v (.bool (same z w)), S)

theorem idx22 {c : Cap} {rows : List (List AV)} {j : Nat} {r : List AV} (hr : rows[j]? = some r) (hs : r.length = 4) : aindexAddr cfg.P 22 (.lst c rows) (.v (.int .i64 (Int.ofNat j))) = some (.eptr r 0) :=
  idx u22 (by simp) (by simpa using hr) (by rw [hs]; exact s27)

theorem same_loop (x y : Fm) (n m : Nat) (hl : x.kids.length = y.kids.length) (hb : x.kids.length < 9223372036854775808) (hm : m ≤ x.kids.length) (hs : ∀ j, j < m → x.kids[j]? = y.kids[j]?) (ih : IH x y n) {e : Exit} {live' : List (Nat × AV)} (he : e ≠ .normal)
    (hlast : ∀ a, In 53 [] (sameL m) a → Seen (aBody cfg 24 (codeAt (codeOf cfg.P 24) [1, 1, 0, 1, 0, 0]) 2 (aC cfg (lower cfg (n + 60)) (n + 60 + 1) 24 none (codeAt (codeOf cfg.P 24) [1, 1, 0, 1, 0, 0])) a (sameS x y)) e 53 [] live' (sameS x y)) (hn : x.kids.length ≤ n) :
    ∀ a, In 53 [] (sameL 0) a → Seen (aC cfg (lower cfg (n + 60)) (n + 60 + 1) 24 none (codeAt (codeOf cfg.P 24) [1, 1, 0, 1, 0]) a (sameS x y)) e 53 [] live' (sameS x y) := by
  refine seen_loop (f := aBody cfg 24 (codeAt (codeOf cfg.P 24) [1, 1, 0, 1, 0, 0]) 2 (aC cfg (lower cfg (n + 60)) (n + 60 + 1) 24 none (codeAt (codeOf cfg.P 24) [1, 1, 0, 1, 0, 0]))) sameL (fun _ => sameS x y) (Nat.zero_le m) (k := n + 60 + 1) (by omega) he (fun j _ hj a ha => ?_) hlast
  have hj' : j < x.kids.length := by omega
  have e1 : x.kids[j]? = some x.kids[j] := List.getElem?_eq_getElem hj'
  have e2 : y.kids[j]? = some y.kids[j] := List.getElem?_eq_getElem (by omega)
  have e3 := hs j hj
  rw [e1, e2] at e3
  have e4 : x.kids[j] = y.kids[j] := Option.some.inj e3
  have := b24_1 x y x.kids[j] y.kids[j] (Int.ofNat j) n (ltT (by rw [Fm.rows_len]; exact hj')) (idx22 (Fm.rows_get e1) rfl) (idx22 (Fm.rows_get e2) rfl) (ih _ (List.getElem_mem _) _ (List.getElem_mem _)) (sameT e4) a ha
  rw [wrapS (by omega)] at this
  exact this

theorem same_fr : ∀ (x y : Fm), x.kids.length < 9223372036854775808 → (∀ z, z ∈ x.kids → ∀ w, w ∈ y.kids → Fr cfg 24 [z.av, w.av] (.v (.bool (same z w)))) → Fr cfg 24 [x.av, y.av] (.v (.bool (same x y))) := by
  intro x y hb ih
  refine Fr.of_co rfl (by kernel_rfl) (Own.fm (Own.fm Own.nil)) (Co.path (by kernel_rfl) ?_)
  by_cases h0 : ¬ x.kind = y.kind
  · rw [sameF (fun e => h0 (by rw [e]))]
    exact Evt.shift (Evt.of fun n => f24_5 x y n (beqF h0))
  replace h0 := Classical.not_not.1 h0
  by_cases h1 : ¬ x.text = y.text
  · rw [sameF (fun e => h1 (by rw [e]))]
    exact Evt.shift (Evt.of fun n => f24_4 x y n (beqT h0) (beqF fun e => h1 (ba_list e)))
  replace h1 := Classical.not_not.1 h1
  by_cases h2 : ¬ x.home = y.home
  · rw [sameF (fun e => h2 (by rw [e]))]
    exact Evt.shift (Evt.of fun n => f24_3 x y n (beqT h0) (beqT (by rw [h1])) (beqF fun e => h2 (ba_list e)))
  replace h2 := Classical.not_not.1 h2
  by_cases h3 : ¬ x.kids.length = y.kids.length
  · rw [sameF (fun e => h3 (by rw [e]))]
    exact Evt.shift (Evt.of fun n => f24_2 x y n (beqT h0) (beqT (by rw [h1])) (beqT (by rw [h2])) (beqF (by simp only [Fm.rows_len]; omega)))
  replace h3 := Classical.not_not.1 h3
  have ih' : Evt fun n => IH x y n := Evt.unshift (p := fun m => ∀ z, z ∈ x.kids → ∀ w, w ∈ y.kids → ∀ S, (lower cfg m).call 24 [z.av, w.av] S = some (.v (.bool (same z w)), S)) (Evt.mem x.kids fun z hz => Evt.mem y.kids fun w hw => ih z hz w hw)
  have k3 : ((↑(List.length (Fm.rows x)) : Int) == (↑(List.length (Fm.rows y)) : Int)) = true := beqT (by simp only [Fm.rows_len]; omega)
  rcases first_no (fun j => by classical exact decide (x.kids[j]? = y.kids[j]?)) x.kids.length with hA | ⟨m, hm, hA, hB⟩
  · have : x.kids = y.kids := List.ext_getElem? fun j => by
      by_cases hj : j < x.kids.length
      · simpa using hA j hj
      · rw [List.getElem?_eq_none (by omega), List.getElem?_eq_none (by omega)]
    rw [sameT (Fm.ext h0 h1 h2 this)]
    refine Evt.shift ((ih'.and (Evt.big x.kids.length)).mono fun n hn => ?_)
    obtain ⟨γ, hγ⟩ := LoopIs.of (same_loop x y n x.kids.length h3 hb (Nat.le_refl _) (fun j hj => by simpa using hA j hj) hn.1 (e := .exit 0) (live' := [(2, AV.ptr 0 0), (3, AV.ptr 1 0)]) (by simp) (fun a ha => by
      obtain ⟨a', q1, q2⟩ := b24_3 x y x x (Int.ofNat x.kids.length) n (ltF (by rw [Fm.rows_len]; omega)) a ha
      exact ⟨a', q1, q2.marks, q2.len, q2.has.1, q2.has.2.1, trivial⟩) hn.2)
    exact f24_1 x y n γ (beqT h0) (beqT (by rw [h1])) (beqT (by rw [h2])) k3 hγ
  · have hm2 : x.kids[m]? = some x.kids[m] := List.getElem?_eq_getElem hm
    have hm3 : y.kids[m]? = some y.kids[m] := List.getElem?_eq_getElem (by omega)
    have hne : x.kids[m] ≠ y.kids[m] := by
      intro e
      have : x.kids[m]? = y.kids[m]? := by rw [hm2, hm3, e]
      simp [this] at hB
    rw [sameF (fun e => hne (by subst e; rfl))]
    refine Evt.shift ((ih'.and (Evt.big x.kids.length)).mono fun n hn => ?_)
    obtain ⟨γ, hγ⟩ := LoopIs.of (same_loop x y n m h3 hb (by omega) (fun j hj => by simpa using hA j hj) hn.1 (e := .ret) (live' := [(2, AV.ptr 0 0), (3, AV.ptr 1 0), (4, AV.v (.bool false))]) (by simp) (fun a ha => by
      obtain ⟨a', q1, q2⟩ := b24_2 x y x.kids[m] y.kids[m] (Int.ofNat m) n (ltT (by rw [Fm.rows_len]; exact hm)) (idx22 (Fm.rows_get hm2) rfl) (idx22 (Fm.rows_get hm3) rfl) (hn.1 _ (List.getElem_mem _) _ (List.getElem_mem _)) (sameF hne) a ha
      exact ⟨a', q1, q2.marks, q2.len, q2.has.1, q2.has.2.1, q2.has.2.2.1, trivial⟩) hn.2)
    exact g24_1 x y n γ (beqT h0) (beqT (by rw [h1])) (beqT (by rw [h2])) k3 hγ

theorem same24 : ∀ (x : Fm), Fit x → ∀ y, Fr cfg 24 [x.av, y.av] (.v (.bool (same x y))) := by
  intro x
  induction x using Fm.ind with
  | _ x ih =>
    intro hf y
    exact same_fr x y hf.len fun z hz w _ => ih z hz (hf.kid hz) w
end Go.Proofs.YtamemdhmjglifaaGreatDoor
