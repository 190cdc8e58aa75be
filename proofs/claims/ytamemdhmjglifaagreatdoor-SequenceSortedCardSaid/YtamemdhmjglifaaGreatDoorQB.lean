/- Chapter 12: two forms are the same. -/
import Derived.Test.YtamemdhmjglifaaGreatDoorQA
namespace Go.Proofs.YtamemdhmjglifaaGreatDoor
open Go.RowKit Go.AM
set_option maxRecDepth 100000
set_option linter.unusedVariables false
theorem b24_1 (x : Fm) (y : Fm) (p : Fm) (q : Fm) (i : Int) (n : Nat) (h0 : decide (i < (↑(List.length (Fm.rows x)) : Int)) = true) (c1 : aindexAddr (Cfg.P cfg) 22 (AV.lst Cap.any (Fm.rows x)) (vI i) = some (AV.eptr (Fm.row p) 0)) (c2 : aindexAddr (Cfg.P cfg) 22 (AV.lst Cap.any (Fm.rows y)) (vI i) = some (AV.eptr (Fm.row q) 0)) (c3 : ∀ (S : AS), Lw.call (lower cfg (n + 60)) 24 [(Fm.av p), (Fm.av q)] S = some (vB (same p q), S)) (h4 : same p q = true) (a : AAct) (ha : In 53 [] [(2, AV.ptr 0 0), (3, AV.ptr 1 0), (5, vI i)] a) : Seen (aBody cfg 24 (codeAt (codeOf cfg.P 24) [1, 1, 0, 1, 0, 0]) 2 (aC cfg (lower cfg (n + 60)) (n + 60 + 1) 24 none (codeAt (codeOf cfg.P 24) [1, 1, 0, 1, 0, 0])) a (AS.mk [AObj.cells (Fm.row x) 27, AObj.cells (Fm.row y) 27] [] 0 0)) (Exit.normal) 53 [] [(2, AV.ptr 0 0), (3, AV.ptr 1 0), (5, vI (IntKind.wrap IntKind.i64 (i + 1)))] (AS.mk [AObj.cells (Fm.row x) 27, AObj.cells (Fm.row y) 27] [] 0 0) :=
  segB_ok (ds := [(5, Tell.b true), (3, Tell.fr (AV.eptr (Fm.row p) 0)), (4, Tell.fr (AV.eptr (Fm.row q) 0)), (1, Tell.fr (vB (same p q))), (1, Tell.b false), (3, Tell.b true)]) (cs := [decide (i < (↑(List.length (Fm.rows x)) : Int)) = true, frP (aindexAddr (Cfg.P cfg) 22 (AV.lst Cap.any (Fm.rows x)) (vI i)) (AV.eptr (Fm.row p) 0), frP (aindexAddr (Cfg.P cfg) 22 (AV.lst Cap.any (Fm.rows y)) (vI i)) (AV.eptr (Fm.row q) 0), ∀ (S : AS), Lw.call (lower cfg (n + 60)) 24 [(Fm.av p), (Fm.av q)] S = some (vB (same p q), S), (!same p q) = false, trimB 2 [AV.ptr 0 0, AV.ptr 1 0, vI (IntKind.wrap IntKind.i64 (i + 1))] [AObj.cells (Fm.row x) 27, AObj.cells (Fm.row y) 27] [] 2 = true]) (ws := [2, 3, 5]) (ds' := []) ha (fun g => by kernel_rfl) ⟨h0, (fr_of c1), (fr_of c2), c3, (congrArg not h4), (by simp [trimB, objOld, belowAll, AV.old, Fm.row, Fm.av, Fm.belowRows_rows, Fm.belowRows_map, Nat.ble]), trivial⟩
theorem b24_2 (x : Fm) (y : Fm) (p : Fm) (q : Fm) (i : Int) (n : Nat) (h0 : decide (i < (↑(List.length (Fm.rows x)) : Int)) = true) (c1 : aindexAddr (Cfg.P cfg) 22 (AV.lst Cap.any (Fm.rows x)) (vI i) = some (AV.eptr (Fm.row p) 0)) (c2 : aindexAddr (Cfg.P cfg) 22 (AV.lst Cap.any (Fm.rows y)) (vI i) = some (AV.eptr (Fm.row q) 0)) (c3 : ∀ (S : AS), Lw.call (lower cfg (n + 60)) 24 [(Fm.av p), (Fm.av q)] S = some (vB (same p q), S)) (h4 : same p q = false) (a : AAct) (ha : In 53 [] [(2, AV.ptr 0 0), (3, AV.ptr 1 0), (5, vI i)] a) : Seen (aBody cfg 24 (codeAt (codeOf cfg.P 24) [1, 1, 0, 1, 0, 0]) 2 (aC cfg (lower cfg (n + 60)) (n + 60 + 1) 24 none (codeAt (codeOf cfg.P 24) [1, 1, 0, 1, 0, 0])) a (AS.mk [AObj.cells (Fm.row x) 27, AObj.cells (Fm.row y) 27] [] 0 0)) (Exit.ret) 53 [] [(2, AV.ptr 0 0), (3, AV.ptr 1 0), (4, vB false), (5, vI i)] (AS.mk [AObj.cells (Fm.row x) 27, AObj.cells (Fm.row y) 27] [] 0 0) :=
  segB_ok (ds := [(5, Tell.b true), (3, Tell.fr (AV.eptr (Fm.row p) 0)), (4, Tell.fr (AV.eptr (Fm.row q) 0)), (1, Tell.fr (vB (same p q))), (1, Tell.b true)]) (cs := [decide (i < (↑(List.length (Fm.rows x)) : Int)) = true, frP (aindexAddr (Cfg.P cfg) 22 (AV.lst Cap.any (Fm.rows x)) (vI i)) (AV.eptr (Fm.row p) 0), frP (aindexAddr (Cfg.P cfg) 22 (AV.lst Cap.any (Fm.rows y)) (vI i)) (AV.eptr (Fm.row q) 0), ∀ (S : AS), Lw.call (lower cfg (n + 60)) 24 [(Fm.av p), (Fm.av q)] S = some (vB (same p q), S), (!same p q) = true]) (ws := [2, 3, 4, 5]) (ds' := []) ha (fun g => by kernel_rfl) ⟨h0, (fr_of c1), (fr_of c2), c3, (congrArg not h4), trivial⟩
theorem b24_3 (x : Fm) (y : Fm) (p : Fm) (q : Fm) (i : Int) (n : Nat) (h0 : decide (i < (↑(List.length (Fm.rows x)) : Int)) = false) (a : AAct) (ha : In 53 [] [(2, AV.ptr 0 0), (3, AV.ptr 1 0), (5, vI i)] a) : Seen (aBody cfg 24 (codeAt (codeOf cfg.P 24) [1, 1, 0, 1, 0, 0]) 2 (aC cfg (lower cfg (n + 60)) (n + 60 + 1) 24 none (codeAt (codeOf cfg.P 24) [1, 1, 0, 1, 0, 0])) a (AS.mk [AObj.cells (Fm.row x) 27, AObj.cells (Fm.row y) 27] [] 0 0)) (Exit.exit 0) 53 [] [(2, AV.ptr 0 0), (3, AV.ptr 1 0), (5, vI i)] (AS.mk [AObj.cells (Fm.row x) 27, AObj.cells (Fm.row y) 27] [] 0 0) :=
  segB_ok (ds := [(5, Tell.b false)]) (cs := [decide (i < (↑(List.length (Fm.rows x)) : Int)) = false]) (ws := [2, 3, 5]) (ds' := []) ha (fun g => by kernel_rfl) ⟨h0, trivial⟩
theorem f24_1 (x : Fm) (y : Fm) (n : Nat) (γ0 : AAct → Nat → AV) (h0 : (Fm.kind x == Fm.kind y) = true) (h1 : (ByteArray.toList (Fm.text x) == ByteArray.toList (Fm.text y)) = true) (h2 : (ByteArray.toList (Fm.home x) == ByteArray.toList (Fm.home y)) = true) (h3 : ((↑(List.length (Fm.rows x)) : Int) == (↑(List.length (Fm.rows y)) : Int)) = true) (l4 : LoopIs cfg (lower cfg (n + 60)) (n + 60 + 1) 24 none (codeAt (codeOf (Cfg.P cfg) 24) [1, 1, 0, 1, 0]) 53 [] [(2, AV.ptr 0 0), (3, AV.ptr 1 0), (5, vI (Int.ofNat 0))] (AS.mk [AObj.cells (Fm.row x) 27, AObj.cells (Fm.row y) 27] [] 0 0) (Exit.exit 0) [(2, AV.ptr 0 0), (3, AV.ptr 1 0)] (AS.mk [AObj.cells (Fm.row x) 27, AObj.cells (Fm.row y) 27] [] 0 0) γ0) : Path cfg 24 [(Fm.av x), (Fm.av y)] (vB true) (n + 60) :=
  Path.of (ds := [(7, Tell.b false), (10, Tell.b false), (11, Tell.b false), (17, Tell.b false), (1, Tell.lp [2, 3, 5] (Exit.exit 0) [(2, AV.ptr 0 0), (3, AV.ptr 1 0)] (AS.mk [AObj.cells (Fm.row x) 27, AObj.cells (Fm.row y) 27] [] 0 0) γ0)]) (cs := [(Fm.kind x != Fm.kind y) = false, (!ByteArray.toList (Fm.text x) == ByteArray.toList (Fm.text y)) = false, (!ByteArray.toList (Fm.home x) == ByteArray.toList (Fm.home y)) = false, ((↑(List.length (Fm.rows x)) : Int) != (↑(List.length (Fm.rows y)) : Int)) = false, LoopIs cfg (lower cfg (n + 60)) (n + 60 + 1) 24 none (codeAt (codeOf (Cfg.P cfg) 24) [1, 1, 0, 1, 0]) 53 [] [(2, AV.ptr 0 0), (3, AV.ptr 1 0), (5, vI (Int.ofNat 0))] (AS.mk [AObj.cells (Fm.row x) 27, AObj.cells (Fm.row y) 27] [] 0 0) (Exit.exit 0) [(2, AV.ptr 0 0), (3, AV.ptr 1 0)] (AS.mk [AObj.cells (Fm.row x) 27, AObj.cells (Fm.row y) 27] [] 0 0) γ0]) (x := vB true) (S2 := AS.mk [AObj.cells (Fm.row x) 27, AObj.cells (Fm.row y) 27] [] 0 0) (by kernel_rfl) ⟨(congrArg not h0), (congrArg not h1), (congrArg not h2), (congrArg not h3), l4, trivial⟩ rfl -- Exit.ret
theorem f24_2 (x : Fm) (y : Fm) (n : Nat) (h0 : (Fm.kind x == Fm.kind y) = true) (h1 : (ByteArray.toList (Fm.text x) == ByteArray.toList (Fm.text y)) = true) (h2 : (ByteArray.toList (Fm.home x) == ByteArray.toList (Fm.home y)) = true) (h3 : ((↑(List.length (Fm.rows x)) : Int) == (↑(List.length (Fm.rows y)) : Int)) = false) : Path cfg 24 [(Fm.av x), (Fm.av y)] (vB false) (n + 60) :=
  Path.of (ds := [(7, Tell.b false), (10, Tell.b false), (11, Tell.b false), (17, Tell.b true)]) (cs := [(Fm.kind x != Fm.kind y) = false, (!ByteArray.toList (Fm.text x) == ByteArray.toList (Fm.text y)) = false, (!ByteArray.toList (Fm.home x) == ByteArray.toList (Fm.home y)) = false, ((↑(List.length (Fm.rows x)) : Int) != (↑(List.length (Fm.rows y)) : Int)) = true]) (x := vB false) (S2 := AS.mk [AObj.cells (Fm.row x) 27, AObj.cells (Fm.row y) 27] [] 0 0) (by kernel_rfl) ⟨(congrArg not h0), (congrArg not h1), (congrArg not h2), (congrArg not h3), trivial⟩ rfl -- Exit.ret
theorem f24_3 (x : Fm) (y : Fm) (n : Nat) (h0 : (Fm.kind x == Fm.kind y) = true) (h1 : (ByteArray.toList (Fm.text x) == ByteArray.toList (Fm.text y)) = true) (h2 : (ByteArray.toList (Fm.home x) == ByteArray.toList (Fm.home y)) = false) : Path cfg 24 [(Fm.av x), (Fm.av y)] (vB false) (n + 60) :=
  Path.of (ds := [(7, Tell.b false), (10, Tell.b false), (11, Tell.b true)]) (cs := [(Fm.kind x != Fm.kind y) = false, (!ByteArray.toList (Fm.text x) == ByteArray.toList (Fm.text y)) = false, (!ByteArray.toList (Fm.home x) == ByteArray.toList (Fm.home y)) = true]) (x := vB false) (S2 := AS.mk [AObj.cells (Fm.row x) 27, AObj.cells (Fm.row y) 27] [] 0 0) (by kernel_rfl) ⟨(congrArg not h0), (congrArg not h1), (congrArg not h2), trivial⟩ rfl -- Exit.ret
theorem f24_4 (x : Fm) (y : Fm) (n : Nat) (h0 : (Fm.kind x == Fm.kind y) = true) (h1 : (ByteArray.toList (Fm.text x) == ByteArray.toList (Fm.text y)) = false) : Path cfg 24 [(Fm.av x), (Fm.av y)] (AV.v (Value.bool false)) (n + 60) :=
  Path.of (ds := [(7, Tell.b false), (10, Tell.b true)]) (cs := [(Fm.kind x != Fm.kind y) = false, (!ByteArray.toList (Fm.text x) == ByteArray.toList (Fm.text y)) = true]) (x := vB false) (S2 := AS.mk [AObj.cells (Fm.row x) 27, AObj.cells (Fm.row y) 27] [] 0 0) (by kernel_rfl) ⟨(congrArg not h0), (congrArg not h1), trivial⟩ rfl -- Exit.ret
theorem f24_5 (x : Fm) (y : Fm) (n : Nat) (h0 : (Fm.kind x == Fm.kind y) = false) : Path cfg 24 [(Fm.av x), (Fm.av y)] (AV.v (Value.bool false)) (n + 60) :=
  Path.of (ds := [(7, Tell.b true)]) (cs := [(Fm.kind x != Fm.kind y) = true]) (x := AV.v (Value.bool false)) (S2 := AS.mk [AObj.cells (Fm.row x) 27, AObj.cells (Fm.row y) 27] [] 0 0) (by kernel_rfl) ⟨(congrArg not h0), trivial⟩ rfl -- Exit.ret

theorem g24_1 (x : Fm) (y : Fm) (n : Nat) (γ0 : AAct → Nat → AV) (h0 : (Fm.kind x == Fm.kind y) = true) (h1 : (ByteArray.toList (Fm.text x) == ByteArray.toList (Fm.text y)) = true) (h2 : (ByteArray.toList (Fm.home x) == ByteArray.toList (Fm.home y)) = true) (h3 : ((↑(List.length (Fm.rows x)) : Int) == (↑(List.length (Fm.rows y)) : Int)) = true) (l4 : LoopIs cfg (lower cfg (n + 60)) (n + 60 + 1) 24 none (codeAt (codeOf (Cfg.P cfg) 24) [1, 1, 0, 1, 0]) 53 [] [(2, AV.ptr 0 0), (3, AV.ptr 1 0), (5, vI (Int.ofNat 0))] (AS.mk [AObj.cells (Fm.row x) 27, AObj.cells (Fm.row y) 27] [] 0 0) Exit.ret [(2, AV.ptr 0 0), (3, AV.ptr 1 0), (4, vB false)] (AS.mk [AObj.cells (Fm.row x) 27, AObj.cells (Fm.row y) 27] [] 0 0) γ0) : Path cfg 24 [(Fm.av x), (Fm.av y)] (vB false) (n + 60) :=
  Path.of (ds := [(7, Tell.b false), (10, Tell.b false), (11, Tell.b false), (17, Tell.b false), (1, Tell.lp [2, 3, 5] Exit.ret [(2, AV.ptr 0 0), (3, AV.ptr 1 0), (4, vB false)] (AS.mk [AObj.cells (Fm.row x) 27, AObj.cells (Fm.row y) 27] [] 0 0) γ0)]) (cs := [(Fm.kind x != Fm.kind y) = false, (!ByteArray.toList (Fm.text x) == ByteArray.toList (Fm.text y)) = false, (!ByteArray.toList (Fm.home x) == ByteArray.toList (Fm.home y)) = false, ((↑(List.length (Fm.rows x)) : Int) != (↑(List.length (Fm.rows y)) : Int)) = false, LoopIs cfg (lower cfg (n + 60)) (n + 60 + 1) 24 none (codeAt (codeOf (Cfg.P cfg) 24) [1, 1, 0, 1, 0]) 53 [] [(2, AV.ptr 0 0), (3, AV.ptr 1 0), (5, vI (Int.ofNat 0))] (AS.mk [AObj.cells (Fm.row x) 27, AObj.cells (Fm.row y) 27] [] 0 0) Exit.ret [(2, AV.ptr 0 0), (3, AV.ptr 1 0), (4, vB false)] (AS.mk [AObj.cells (Fm.row x) 27, AObj.cells (Fm.row y) 27] [] 0 0) γ0]) (x := vB false) (S2 := AS.mk [AObj.cells (Fm.row x) 27, AObj.cells (Fm.row y) 27] [] 0 0) (by kernel_rfl) ⟨(congrArg not h0), (congrArg not h1), (congrArg not h2), (congrArg not h3), l4, trivial⟩ rfl -- Exit.ret


theorem u22 : cfg.P.underlying 22 = some (.slice 27) := by kernel_rfl
theorem s27 : szOf cfg.P 27 = some 4 := by kernel_rfl


theorem sameT {x y : Fm} (h : x = y) : same x y = true := by simp [same, h]
theorem sameF {x y : Fm} (h : x ≠ y) : same x y = false := by simp [same, h]

def sameS (x y : Fm) : AS := AS.mk [AObj.cells (Fm.row x) 27, AObj.cells (Fm.row y) 27] [] 0 0
def sameL (i : Nat) : List (Nat × AV) := [(2, AV.ptr 0 0), (3, AV.ptr 1 0), (5, AV.v (Value.int IntKind.i64 (Int.ofNat i)))]
abbrev IH (x y : Fm) (n : Nat) : Prop := ∀ z, z ∈ x.kids → ∀ w, w ∈ y.kids → ∀ S, (lower cfg (n + 60)).call 24 [z.av, w.av] S = some (.v (.bool (same z w)), S)

theorem idx22 {c : Cap} {rows : List (List AV)} {j : Nat} {r : List AV} (hr : rows[j]? = some r) (hs : r.length = 4) : aindexAddr cfg.P 22 (.lst c rows) (.v (.int .i64 (Int.ofNat j))) = some (.eptr r 0) :=
  idx u22 (by simp) (by simpa using hr) (by rw [hs]; exact s27)

theorem same_loop (x y : Fm) (n m : Nat) (hl : x.kids.length = y.kids.length) (hb : x.kids.length < 9223372036854775808) (hm : m ≤ x.kids.length) (hs : ∀ j, j < m → x.kids[j]? = y.kids[j]?) (ih : IH x y n) {e : Exit} {live' : List (Nat × AV)} (he : e ≠ .normal)
    (hlast : ∀ a, In 53 [] (sameL m) a → Seen (aBody cfg 24 (codeAt (codeOf cfg.P 24) [1, 1, 0, 1, 0, 0]) 2 (aC cfg (lower cfg (n + 60)) (n + 60 + 1) 24 none (codeAt (codeOf cfg.P 24) [1, 1, 0, 1, 0, 0])) a (sameS x y)) e 53 [] live' (sameS x y)) (hn : x.kids.length ≤ n) :
    ∀ a, In 53 [] (sameL 0) a → Seen (aC cfg (lower cfg (n + 60)) (n + 60 + 1) 24 none (codeAt (codeOf cfg.P 24) [1, 1, 0, 1, 0]) a (sameS x y)) e 53 [] live' (sameS x y) := by
  refine seen_loop (f := aBody cfg 24 (codeAt (codeOf cfg.P 24) [1, 1, 0, 1, 0, 0]) 2 (aC cfg (lower cfg (n + 60)) (n + 60 + 1) 24 none (codeAt (codeOf cfg.P 24) [1, 1, 0, 1, 0, 0]))) sameL (fun _ => sameS x y) (Nat.zero_le m) (k := n + 60 + 1) (by omega) he (fun j _ hj a ha => ?_) hlast
  have hj' : j < x.kids.length := by omega
  have e1 : x.kids[j]? = some x.kids[j] := List.getElem?_eq_getElem hj'
  have e2 : y.kids[j]? = some y.kids[j] := List.getElem?_eq_getElem (by omega)
  have e3 := hs j hj
  rw [e1, e2] at e3
  have e4 : x.kids[j] = y.kids[j] := Option.some.inj e3
  have := b24_1 x y x.kids[j] y.kids[j] (Int.ofNat j) n (ltT (by rw [Fm.rows_len]; exact hj')) (idx22 (Fm.rows_get e1) rfl) (idx22 (Fm.rows_get e2) rfl) (ih _ (List.getElem_mem _) _ (List.getElem_mem _)) (sameT e4) a ha
  rw [wrapS (by omega)] at this
  exact this

theorem same_fr : ∀ (x y : Fm), x.kids.length < 9223372036854775808 → (∀ z, z ∈ x.kids → ∀ w, w ∈ y.kids → Fr cfg 24 [z.av, w.av] (.v (.bool (same z w)))) → Fr cfg 24 [x.av, y.av] (.v (.bool (same x y))) := by
  intro x y hb ih
  refine Fr.of_co rfl (by kernel_rfl) (Own.fm (Own.fm Own.nil)) (Co.path (by kernel_rfl) ?_)
  by_cases h0 : ¬ x.kind = y.kind
  · rw [sameF (fun e => h0 (by rw [e]))]
    exact Evt.shift (Evt.of fun n => f24_5 x y n (beqF h0))
  replace h0 := Classical.not_not.1 h0
  by_cases h1 : ¬ x.text = y.text
  · rw [sameF (fun e => h1 (by rw [e]))]
    exact Evt.shift (Evt.of fun n => f24_4 x y n (beqT h0) (beqF fun e => h1 (ba_list e)))
  replace h1 := Classical.not_not.1 h1
  by_cases h2 : ¬ x.home = y.home
  · rw [sameF (fun e => h2 (by rw [e]))]
    exact Evt.shift (Evt.of fun n => f24_3 x y n (beqT h0) (beqT (by rw [h1])) (beqF fun e => h2 (ba_list e)))
  replace h2 := Classical.not_not.1 h2
  by_cases h3 : ¬ x.kids.length = y.kids.length
  · rw [sameF (fun e => h3 (by rw [e]))]
    exact Evt.shift (Evt.of fun n => f24_2 x y n (beqT h0) (beqT (by rw [h1])) (beqT (by rw [h2])) (beqF (by simp only [Fm.rows_len]; omega)))
  replace h3 := Classical.not_not.1 h3
  have ih' : Evt fun n => IH x y n := Evt.unshift (p := fun m => ∀ z, z ∈ x.kids → ∀ w, w ∈ y.kids → ∀ S, (lower cfg m).call 24 [z.av, w.av] S = some (.v (.bool (same z w)), S)) (Evt.mem x.kids fun z hz => Evt.mem y.kids fun w hw => ih z hz w hw)
  have k3 : ((↑(List.length (Fm.rows x)) : Int) == (↑(List.length (Fm.rows y)) : Int)) = true := beqT (by simp only [Fm.rows_len]; omega)
  rcases first_no (fun j => by classical exact decide (x.kids[j]? = y.kids[j]?)) x.kids.length with hA | ⟨m, hm, hA, hB⟩
  · have : x.kids = y.kids := List.ext_getElem? fun j => by
      by_cases hj : j < x.kids.length
      · simpa using hA j hj
      · rw [List.getElem?_eq_none (by omega), List.getElem?_eq_none (by omega)]
    rw [sameT (Fm.ext h0 h1 h2 this)]
    refine Evt.shift ((ih'.and (Evt.big x.kids.length)).mono fun n hn => ?_)
    obtain ⟨γ, hγ⟩ := LoopIs.of (same_loop x y n x.kids.length h3 hb (Nat.le_refl _) (fun j hj => by simpa using hA j hj) hn.1 (e := .exit 0) (live' := [(2, AV.ptr 0 0), (3, AV.ptr 1 0)]) (by simp) (fun a ha => by
      obtain ⟨a', q1, q2⟩ := b24_3 x y x x (Int.ofNat x.kids.length) n (ltF (by rw [Fm.rows_len]; omega)) a ha
      exact ⟨a', q1, q2.marks, q2.len, q2.has.1, q2.has.2.1, trivial⟩) hn.2)
    exact f24_1 x y n γ (beqT h0) (beqT (by rw [h1])) (beqT (by rw [h2])) k3 hγ
  · have hm2 : x.kids[m]? = some x.kids[m] := List.getElem?_eq_getElem hm
    have hm3 : y.kids[m]? = some y.kids[m] := List.getElem?_eq_getElem (by omega)
    have hne : x.kids[m] ≠ y.kids[m] := by
      intro e
      have : x.kids[m]? = y.kids[m]? := by rw [hm2, hm3, e]
      simp [this] at hB
    rw [sameF (fun e => hne (by subst e; rfl))]
    refine Evt.shift ((ih'.and (Evt.big x.kids.length)).mono fun n hn => ?_)
    obtain ⟨γ, hγ⟩ := LoopIs.of (same_loop x y n m h3 hb (by omega) (fun j hj => by simpa using hA j hj) hn.1 (e := .ret) (live' := [(2, AV.ptr 0 0), (3, AV.ptr 1 0), (4, AV.v (.bool false))]) (by simp) (fun a ha => by
      obtain ⟨a', q1, q2⟩ := b24_2 x y x.kids[m] y.kids[m] (Int.ofNat m) n (ltT (by rw [Fm.rows_len]; exact hm)) (idx22 (Fm.rows_get hm2) rfl) (idx22 (Fm.rows_get hm3) rfl) (hn.1 _ (List.getElem_mem _) _ (List.getElem_mem _)) (sameF hne) a ha
      exact ⟨a', q1, q2.marks, q2.len, q2.has.1, q2.has.2.1, q2.has.2.2.1, trivial⟩) hn.2)
    exact g24_1 x y n γ (beqT h0) (beqT (by rw [h1])) (beqT (by rw [h2])) k3 hγ

theorem same24 : ∀ (x : Fm), Fit x → ∀ y, Fr cfg 24 [x.av, y.av] (.v (.bool (same x y))) := by
  intro x
  induction x using Fm.ind with
  | _ x ih =>
    intro hf y
    exact same_fr x y hf.len fun z hz w _ => ih z hz (hf.kid hz) w
end Go.Proofs.YtamemdhmjglifaaGreatDoor

/- Chapter 12: which forms are short; which lists are the same. -/
namespace Go.Proofs.YtamemdhmjglifaaGreatDoor
open Go.RowKit Go.AM
set_option maxRecDepth 100000
set_option linter.unusedVariables false
theorem b83a_1 (c : Cap) (xs : List Fm) (x : Fm) (p : Fm → Bool) (i : Int) (m : Int) (n : Nat) (h0 : decide (i < m) = true) (c1 : aindexAddr (Cfg.P cfg) 22 (AV.lst c (List.map Fm.row xs)) (vI i) = some (AV.eptr (Fm.row x) 0)) (c2 : ∀ (S : AS), Lw.call (lower cfg (n + 60)) 69 [(Fm.av x)] S = some (vB (p x), S)) (h3 : p x = true) (a : AAct) (ha : In 19 [] [(0, AV.lst c (List.map Fm.row xs)), (1, AV.fn (Fn.func 69) [] []), (7, vI m), (8, vI i)] a) : Seen (aBody cfg 83 (codeAt (codeOf cfg.P 83) [1, 0, 1, 0, 0]) 0 (aC cfg (lower cfg (n + 60)) (n + 60 + 1) 83 none (codeAt (codeOf cfg.P 83) [1, 0, 1, 0, 0])) a (AS.mk [] [] 0 0)) (Exit.ret) 19 [] [(0, AV.lst c (List.map Fm.row xs)), (1, AV.fn (Fn.func 69) [] []), (4, vI i), (7, vI m), (8, vI i)] (AS.mk [] [] 0 0) :=
  segB_ok (ds := [(1, Tell.b true), (5, Tell.fr (AV.eptr (Fm.row x) 0)), (1, Tell.fr (vB (p x))), (0, Tell.b true)]) (cs := [decide (i < m) = true, frP (aindexAddr (Cfg.P cfg) 22 (AV.lst c (List.map Fm.row xs)) (vI i)) (AV.eptr (Fm.row x) 0), ∀ (S : AS), Lw.call (lower cfg (n + 60)) 69 [(Fm.av x)] S = some (vB (p x), S), p x = true]) (ws := [0, 1, 4, 7, 8]) (ds' := []) ha (fun g => by kernel_rfl) ⟨h0, (fr_of c1), c2, h3, trivial⟩
theorem b83a_2 (c : Cap) (xs : List Fm) (x : Fm) (p : Fm → Bool) (i : Int) (m : Int) (n : Nat) (h0 : decide (i < m) = true) (c1 : aindexAddr (Cfg.P cfg) 22 (AV.lst c (List.map Fm.row xs)) (vI i) = some (AV.eptr (Fm.row x) 0)) (c2 : ∀ (S : AS), Lw.call (lower cfg (n + 60)) 69 [(Fm.av x)] S = some (vB (p x), S)) (h3 : p x = false) (a : AAct) (ha : In 19 [] [(0, AV.lst c (List.map Fm.row xs)), (1, AV.fn (Fn.func 69) [] []), (7, vI m), (8, vI i)] a) : Seen (aBody cfg 83 (codeAt (codeOf cfg.P 83) [1, 0, 1, 0, 0]) 0 (aC cfg (lower cfg (n + 60)) (n + 60 + 1) 83 none (codeAt (codeOf cfg.P 83) [1, 0, 1, 0, 0])) a (AS.mk [] [] 0 0)) (Exit.normal) 19 [] [(0, AV.lst c (List.map Fm.row xs)), (1, AV.fn (Fn.func 69) [] []), (7, vI m), (8, vI (IntKind.wrap IntKind.i64 (i + 1)))] (AS.mk [] [] 0 0) :=
  segB_ok (ds := [(1, Tell.b true), (5, Tell.fr (AV.eptr (Fm.row x) 0)), (1, Tell.fr (vB (p x))), (0, Tell.b false), (2, Tell.b true)]) (cs := [decide (i < m) = true, frP (aindexAddr (Cfg.P cfg) 22 (AV.lst c (List.map Fm.row xs)) (vI i)) (AV.eptr (Fm.row x) 0), ∀ (S : AS), Lw.call (lower cfg (n + 60)) 69 [(Fm.av x)] S = some (vB (p x), S), p x = false, trimB 0 [AV.lst c (List.map Fm.row xs), AV.fn (Fn.func 69) [] [], vI m, vI (IntKind.wrap IntKind.i64 (i + 1))] [] [] 0 = true]) (ws := [0, 1, 7, 8]) (ds' := []) ha (fun g => by kernel_rfl) ⟨h0, (fr_of c1), c2, h3, (by simp [trimB, objOld, belowAll, AV.old, Fm.row, Fm.av, Fm.belowRows_rows, Fm.belowRows_map, Nat.ble]), trivial⟩
theorem b83a_3 (c : Cap) (xs : List Fm) (x : Fm) (p : Fm → Bool) (i : Int) (m : Int) (n : Nat) (h0 : decide (i < m) = false) (a : AAct) (ha : In 19 [] [(0, AV.lst c (List.map Fm.row xs)), (1, AV.fn (Fn.func 69) [] []), (7, vI m), (8, vI i)] a) : Seen (aBody cfg 83 (codeAt (codeOf cfg.P 83) [1, 0, 1, 0, 0]) 0 (aC cfg (lower cfg (n + 60)) (n + 60 + 1) 83 none (codeAt (codeOf cfg.P 83) [1, 0, 1, 0, 0])) a (AS.mk [] [] 0 0)) (Exit.exit 0) 19 [] [(0, AV.lst c (List.map Fm.row xs)), (1, AV.fn (Fn.func 69) [] []), (7, vI m), (8, vI i)] (AS.mk [] [] 0 0) :=
  segB_ok (ds := [(1, Tell.b false)]) (cs := [decide (i < m) = false]) (ws := [0, 1, 7, 8]) (ds' := []) ha (fun g => by kernel_rfl) ⟨h0, trivial⟩
theorem b83b_1 (c : Cap) (xs : List Fm) (x : Fm) (p : Fm → Bool) (i : Int) (m : Int) (n : Nat) (h0 : decide (i < m) = true) (c1 : aindexAddr (Cfg.P cfg) 22 (AV.lst c (List.map Fm.row xs)) (vI i) = some (AV.eptr (Fm.row x) 0)) (c2 : ∀ (S : AS), Lw.call (lower cfg (n + 60)) 110 [(Fm.av x)] S = some (vB (p x), S)) (h3 : p x = true) (a : AAct) (ha : In 19 [] [(0, AV.lst c (List.map Fm.row xs)), (1, AV.fn (Fn.func 110) [] []), (7, vI m), (8, vI i)] a) : Seen (aBody cfg 83 (codeAt (codeOf cfg.P 83) [1, 0, 1, 0, 0]) 0 (aC cfg (lower cfg (n + 60)) (n + 60 + 1) 83 none (codeAt (codeOf cfg.P 83) [1, 0, 1, 0, 0])) a (AS.mk [] [] 0 0)) (Exit.ret) 19 [] [(0, AV.lst c (List.map Fm.row xs)), (1, AV.fn (Fn.func 110) [] []), (4, vI i), (7, vI m), (8, vI i)] (AS.mk [] [] 0 0) :=
  segB_ok (ds := [(1, Tell.b true), (5, Tell.fr (AV.eptr (Fm.row x) 0)), (1, Tell.fr (vB (p x))), (0, Tell.b true)]) (cs := [decide (i < m) = true, frP (aindexAddr (Cfg.P cfg) 22 (AV.lst c (List.map Fm.row xs)) (vI i)) (AV.eptr (Fm.row x) 0), ∀ (S : AS), Lw.call (lower cfg (n + 60)) 110 [(Fm.av x)] S = some (vB (p x), S), p x = true]) (ws := [0, 1, 4, 7, 8]) (ds' := []) ha (fun g => by kernel_rfl) ⟨h0, (fr_of c1), c2, h3, trivial⟩
theorem b83b_2 (c : Cap) (xs : List Fm) (x : Fm) (p : Fm → Bool) (i : Int) (m : Int) (n : Nat) (h0 : decide (i < m) = true) (c1 : aindexAddr (Cfg.P cfg) 22 (AV.lst c (List.map Fm.row xs)) (vI i) = some (AV.eptr (Fm.row x) 0)) (c2 : ∀ (S : AS), Lw.call (lower cfg (n + 60)) 110 [(Fm.av x)] S = some (vB (p x), S)) (h3 : p x = false) (a : AAct) (ha : In 19 [] [(0, AV.lst c (List.map Fm.row xs)), (1, AV.fn (Fn.func 110) [] []), (7, vI m), (8, vI i)] a) : Seen (aBody cfg 83 (codeAt (codeOf cfg.P 83) [1, 0, 1, 0, 0]) 0 (aC cfg (lower cfg (n + 60)) (n + 60 + 1) 83 none (codeAt (codeOf cfg.P 83) [1, 0, 1, 0, 0])) a (AS.mk [] [] 0 0)) (Exit.normal) 19 [] [(0, AV.lst c (List.map Fm.row xs)), (1, AV.fn (Fn.func 110) [] []), (7, vI m), (8, vI (IntKind.wrap IntKind.i64 (i + 1)))] (AS.mk [] [] 0 0) :=
  segB_ok (ds := [(1, Tell.b true), (5, Tell.fr (AV.eptr (Fm.row x) 0)), (1, Tell.fr (vB (p x))), (0, Tell.b false), (2, Tell.b true)]) (cs := [decide (i < m) = true, frP (aindexAddr (Cfg.P cfg) 22 (AV.lst c (List.map Fm.row xs)) (vI i)) (AV.eptr (Fm.row x) 0), ∀ (S : AS), Lw.call (lower cfg (n + 60)) 110 [(Fm.av x)] S = some (vB (p x), S), p x = false, trimB 0 [AV.lst c (List.map Fm.row xs), AV.fn (Fn.func 110) [] [], vI m, vI (IntKind.wrap IntKind.i64 (i + 1))] [] [] 0 = true]) (ws := [0, 1, 7, 8]) (ds' := []) ha (fun g => by kernel_rfl) ⟨h0, (fr_of c1), c2, h3, (by simp [trimB, objOld, belowAll, AV.old, Fm.row, Fm.av, Fm.belowRows_rows, Fm.belowRows_map, Nat.ble]), trivial⟩
theorem b83b_3 (c : Cap) (xs : List Fm) (x : Fm) (p : Fm → Bool) (i : Int) (m : Int) (n : Nat) (h0 : decide (i < m) = false) (a : AAct) (ha : In 19 [] [(0, AV.lst c (List.map Fm.row xs)), (1, AV.fn (Fn.func 110) [] []), (7, vI m), (8, vI i)] a) : Seen (aBody cfg 83 (codeAt (codeOf cfg.P 83) [1, 0, 1, 0, 0]) 0 (aC cfg (lower cfg (n + 60)) (n + 60 + 1) 83 none (codeAt (codeOf cfg.P 83) [1, 0, 1, 0, 0])) a (AS.mk [] [] 0 0)) (Exit.exit 0) 19 [] [(0, AV.lst c (List.map Fm.row xs)), (1, AV.fn (Fn.func 110) [] []), (7, vI m), (8, vI i)] (AS.mk [] [] 0 0) :=
  segB_ok (ds := [(1, Tell.b false)]) (cs := [decide (i < m) = false]) (ws := [0, 1, 7, 8]) (ds' := []) ha (fun g => by kernel_rfl) ⟨h0, trivial⟩
theorem f83a_1 (c : Cap) (xs : List Fm) (r : Int) (n : Nat) (γ0 : AAct → Nat → AV) (l0 : LoopIs cfg (lower cfg (n + 60)) (n + 60 + 1) 83 none (codeAt (codeOf (Cfg.P cfg) 83) [1, 0, 1, 0]) 19 [] [(0, AV.lst c (List.map Fm.row xs)), (1, AV.fn (Fn.func 69) [] []), (7, vI (↑(List.length (List.map Fm.row xs)) : Int)), (8, vI (Int.ofNat 0))] (AS.mk [] [] 0 0) (Exit.exit 0) [] (AS.mk [] [] 0 0) γ0) : Path cfg 83 [AV.lst c (List.map Fm.row xs), AV.fn (Fn.func 69) [] []] (vI (Int.negSucc 0)) (n + 60) :=
  Path.of (ds := [(4, Tell.lp [0, 1, 7, 8] (Exit.exit 0) [] (AS.mk [] [] 0 0) γ0)]) (cs := [LoopIs cfg (lower cfg (n + 60)) (n + 60 + 1) 83 none (codeAt (codeOf (Cfg.P cfg) 83) [1, 0, 1, 0]) 19 [] [(0, AV.lst c (List.map Fm.row xs)), (1, AV.fn (Fn.func 69) [] []), (7, vI (↑(List.length (List.map Fm.row xs)) : Int)), (8, vI (Int.ofNat 0))] (AS.mk [] [] 0 0) (Exit.exit 0) [] (AS.mk [] [] 0 0) γ0]) (x := vI (Int.negSucc 0)) (S2 := AS.mk [] [] 0 0) (by kernel_rfl) ⟨l0, trivial⟩ rfl -- Exit.ret
theorem g83a_1 (c : Cap) (xs : List Fm) (r : Int) (n : Nat) (γ0 : AAct → Nat → AV) (l0 : LoopIs cfg (lower cfg (n + 60)) (n + 60 + 1) 83 none (codeAt (codeOf (Cfg.P cfg) 83) [1, 0, 1, 0]) 19 [] [(0, AV.lst c (List.map Fm.row xs)), (1, AV.fn (Fn.func 69) [] []), (7, vI (↑(List.length (List.map Fm.row xs)) : Int)), (8, vI (Int.ofNat 0))] (AS.mk [] [] 0 0) Exit.ret [(4, vI r)] (AS.mk [] [] 0 0) γ0) : Path cfg 83 [AV.lst c (List.map Fm.row xs), AV.fn (Fn.func 69) [] []] (vI r) (n + 60) :=
  Path.of (ds := [(4, Tell.lp [0, 1, 7, 8] Exit.ret [(4, vI r)] (AS.mk [] [] 0 0) γ0)]) (cs := [LoopIs cfg (lower cfg (n + 60)) (n + 60 + 1) 83 none (codeAt (codeOf (Cfg.P cfg) 83) [1, 0, 1, 0]) 19 [] [(0, AV.lst c (List.map Fm.row xs)), (1, AV.fn (Fn.func 69) [] []), (7, vI (↑(List.length (List.map Fm.row xs)) : Int)), (8, vI (Int.ofNat 0))] (AS.mk [] [] 0 0) Exit.ret [(4, vI r)] (AS.mk [] [] 0 0) γ0]) (x := vI r) (S2 := AS.mk [] [] 0 0) (by kernel_rfl) ⟨l0, trivial⟩ rfl -- Exit.ret
theorem f83b_1 (c : Cap) (xs : List Fm) (r : Int) (n : Nat) (γ0 : AAct → Nat → AV) (l0 : LoopIs cfg (lower cfg (n + 60)) (n + 60 + 1) 83 none (codeAt (codeOf (Cfg.P cfg) 83) [1, 0, 1, 0]) 19 [] [(0, AV.lst c (List.map Fm.row xs)), (1, AV.fn (Fn.func 110) [] []), (7, vI (↑(List.length (List.map Fm.row xs)) : Int)), (8, vI (Int.ofNat 0))] (AS.mk [] [] 0 0) (Exit.exit 0) [] (AS.mk [] [] 0 0) γ0) : Path cfg 83 [AV.lst c (List.map Fm.row xs), AV.fn (Fn.func 110) [] []] (vI (Int.negSucc 0)) (n + 60) :=
  Path.of (ds := [(4, Tell.lp [0, 1, 7, 8] (Exit.exit 0) [] (AS.mk [] [] 0 0) γ0)]) (cs := [LoopIs cfg (lower cfg (n + 60)) (n + 60 + 1) 83 none (codeAt (codeOf (Cfg.P cfg) 83) [1, 0, 1, 0]) 19 [] [(0, AV.lst c (List.map Fm.row xs)), (1, AV.fn (Fn.func 110) [] []), (7, vI (↑(List.length (List.map Fm.row xs)) : Int)), (8, vI (Int.ofNat 0))] (AS.mk [] [] 0 0) (Exit.exit 0) [] (AS.mk [] [] 0 0) γ0]) (x := vI (Int.negSucc 0)) (S2 := AS.mk [] [] 0 0) (by kernel_rfl) ⟨l0, trivial⟩ rfl -- Exit.ret
theorem g83b_1 (c : Cap) (xs : List Fm) (r : Int) (n : Nat) (γ0 : AAct → Nat → AV) (l0 : LoopIs cfg (lower cfg (n + 60)) (n + 60 + 1) 83 none (codeAt (codeOf (Cfg.P cfg) 83) [1, 0, 1, 0]) 19 [] [(0, AV.lst c (List.map Fm.row xs)), (1, AV.fn (Fn.func 110) [] []), (7, vI (↑(List.length (List.map Fm.row xs)) : Int)), (8, vI (Int.ofNat 0))] (AS.mk [] [] 0 0) Exit.ret [(4, vI r)] (AS.mk [] [] 0 0) γ0) : Path cfg 83 [AV.lst c (List.map Fm.row xs), AV.fn (Fn.func 110) [] []] (vI r) (n + 60) :=
  Path.of (ds := [(4, Tell.lp [0, 1, 7, 8] Exit.ret [(4, vI r)] (AS.mk [] [] 0 0) γ0)]) (cs := [LoopIs cfg (lower cfg (n + 60)) (n + 60 + 1) 83 none (codeAt (codeOf (Cfg.P cfg) 83) [1, 0, 1, 0]) 19 [] [(0, AV.lst c (List.map Fm.row xs)), (1, AV.fn (Fn.func 110) [] []), (7, vI (↑(List.length (List.map Fm.row xs)) : Int)), (8, vI (Int.ofNat 0))] (AS.mk [] [] 0 0) Exit.ret [(4, vI r)] (AS.mk [] [] 0 0) γ0]) (x := vI r) (S2 := AS.mk [] [] 0 0) (by kernel_rfl) ⟨l0, trivial⟩ rfl -- Exit.ret
theorem n83a_1  (n : Nat) : Path cfg 83 [AV.v (Value.slice none 0 0), AV.fn (Fn.func 69) [] []] (AV.v (Value.int IntKind.i64 (Int.negSucc 0))) (n + 60) :=
  Path.of (ds := []) (cs := []) (x := AV.v (Value.int IntKind.i64 (Int.negSucc 0))) (S2 := AS.mk [] [] 0 0) (by kernel_rfl) trivial rfl -- Exit.ret
theorem n83b_1  (n : Nat) : Path cfg 83 [AV.v (Value.slice none 0 0), AV.fn (Fn.func 110) [] []] (AV.v (Value.int IntKind.i64 (Int.negSucc 0))) (n + 60) :=
  Path.of (ds := []) (cs := []) (x := AV.v (Value.int IntKind.i64 (Int.negSucc 0))) (S2 := AS.mk [] [] 0 0) (by kernel_rfl) trivial rfl -- Exit.ret

theorem f22a_1 (c : Cap) (xs : List Fm) (r : Int) (n : Nat) (c0 : ∀ (S : AS), Lw.call (lower cfg (n + 60)) 83 [AV.lst c (List.map Fm.row xs), AV.fn (Fn.func 69) [] []] S = some (vI r, S)) : Path cfg 22 [AV.lst c (List.map Fm.row xs), AV.fn (Fn.func 69) [] []] (vB (decide (r ≥ 0))) (n + 60) :=
  Path.of (ds := [(3, Tell.fr (vI r))]) (cs := [∀ (S : AS), Lw.call (lower cfg (n + 60)) 83 [AV.lst c (List.map Fm.row xs), AV.fn (Fn.func 69) [] []] S = some (vI r, S)]) (x := vB (decide (r ≥ 0))) (S2 := AS.mk [] [] 0 0) (by kernel_rfl) ⟨c0, trivial⟩ rfl -- Exit.ret
theorem f22b_1 (c : Cap) (xs : List Fm) (r : Int) (n : Nat) (c0 : ∀ (S : AS), Lw.call (lower cfg (n + 60)) 83 [AV.lst c (List.map Fm.row xs), AV.fn (Fn.func 110) [] []] S = some (vI r, S)) : Path cfg 22 [AV.lst c (List.map Fm.row xs), AV.fn (Fn.func 110) [] []] (vB (decide (r ≥ 0))) (n + 60) :=
  Path.of (ds := [(3, Tell.fr (vI r))]) (cs := [∀ (S : AS), Lw.call (lower cfg (n + 60)) 83 [AV.lst c (List.map Fm.row xs), AV.fn (Fn.func 110) [] []] S = some (vI r, S)]) (x := vB (decide (r ≥ 0))) (S2 := AS.mk [] [] 0 0) (by kernel_rfl) ⟨c0, trivial⟩ rfl -- Exit.ret
theorem n22a_1  (n : Nat) : Path cfg 22 [AV.v (Value.slice none 0 0), AV.fn (Fn.func 69) [] []] (AV.v (Value.bool false)) (n + 60) :=
  Path.of (ds := []) (cs := []) (x := AV.v (Value.bool false)) (S2 := AS.mk [] [] 0 0) (by kernel_rfl) trivial rfl -- Exit.ret
theorem n22b_1  (n : Nat) : Path cfg 22 [AV.v (Value.slice none 0 0), AV.fn (Fn.func 110) [] []] (AV.v (Value.bool false)) (n + 60) :=
  Path.of (ds := []) (cs := []) (x := AV.v (Value.bool false)) (S2 := AS.mk [] [] 0 0) (by kernel_rfl) trivial rfl -- Exit.ret
theorem f110_1 (x : Fm) (b : Bool) (n : Nat) (c0 : ∀ (S : AS), Lw.call (lower cfg (n + 60)) 71 [(Fm.av x)] S = some (AV.v (Value.bool b), S)) : Path cfg 110 [(Fm.av x)] (AV.v (Value.bool !b)) (n + 60) :=
  Path.of (ds := [(3, Tell.fr (AV.v (Value.bool b)))]) (cs := [∀ (S : AS), Lw.call (lower cfg (n + 60)) 71 [(Fm.av x)] S = some (AV.v (Value.bool b), S)]) (x := AV.v (Value.bool !b)) (S2 := AS.mk [AObj.cells (Fm.row x) 27] [] 0 0) (by kernel_rfl) ⟨c0, trivial⟩ rfl -- Exit.ret
theorem f71_1 (x : Fm) (b : Bool) (n : Nat) (h0 : decide ((↑(ByteArray.size (Fm.text x)) : Int) ≤ 30) = true) (h1 : decide ((↑(ByteArray.size (Fm.home x)) : Int) ≤ 30) = true) (c2 : ∀ (S : AS), Lw.call (lower cfg (n + 60)) 22 [AV.lst Cap.any (Fm.rows x), AV.fn (Fn.func 110) [] []] S = some (vB b, S)) : Path cfg 71 [(Fm.av x)] (vB !b) (n + 60) :=
  Path.of (ds := [(5, Tell.b true), (8, Tell.b true), (7, Tell.fr (vB b))]) (cs := [decide ((↑(ByteArray.size (Fm.text x)) : Int) ≤ 30) = true, decide ((↑(ByteArray.size (Fm.home x)) : Int) ≤ 30) = true, ∀ (S : AS), Lw.call (lower cfg (n + 60)) 22 [AV.lst Cap.any (Fm.rows x), AV.fn (Fn.func 110) [] []] S = some (vB b, S)]) (x := vB !b) (S2 := AS.mk [AObj.cells (Fm.row x) 27] [] 0 0) (by kernel_rfl) ⟨h0, h1, c2, trivial⟩ rfl -- Exit.ret
theorem f71_2 (x : Fm) (b : Bool) (n : Nat) (h0 : decide ((↑(ByteArray.size (Fm.text x)) : Int) ≤ 30) = true) (h1 : decide ((↑(ByteArray.size (Fm.home x)) : Int) ≤ 30) = false) : Path cfg 71 [(Fm.av x)] (AV.v (Value.bool false)) (n + 60) :=
  Path.of (ds := [(5, Tell.b true), (8, Tell.b false)]) (cs := [decide ((↑(ByteArray.size (Fm.text x)) : Int) ≤ 30) = true, decide ((↑(ByteArray.size (Fm.home x)) : Int) ≤ 30) = false]) (x := vB false) (S2 := AS.mk [AObj.cells (Fm.row x) 27] [] 0 0) (by kernel_rfl) ⟨h0, h1, trivial⟩ rfl -- Exit.ret
theorem f71_3 (x : Fm) (b : Bool) (n : Nat) (h0 : decide ((↑(ByteArray.size (Fm.text x)) : Int) ≤ 30) = false) : Path cfg 71 [(Fm.av x)] (AV.v (Value.bool false)) (n + 60) :=
  Path.of (ds := [(5, Tell.b false)]) (cs := [decide ((↑(ByteArray.size (Fm.text x)) : Int) ≤ 30) = false]) (x := AV.v (Value.bool false)) (S2 := AS.mk [AObj.cells (Fm.row x) 27] [] 0 0) (by kernel_rfl) ⟨h0, trivial⟩ rfl -- Exit.ret
theorem f69_1 (x : Fm) (b : Bool) (r : Int) (n : Nat) (c0 : ∀ (S : AS), Lw.call (lower cfg (n + 60)) 70 [(Fm.av x), AV.v (Value.int IntKind.i64 (Int.ofNat 20))] S = some (AV.v (Value.int IntKind.i64 r), S)) (h1 : decide (r > 20) = true) : Path cfg 69 [(Fm.av x)] (AV.v (Value.bool true)) (n + 60) :=
  Path.of (ds := [(3, Tell.fr (vI r)), (0, Tell.b true)]) (cs := [∀ (S : AS), Lw.call (lower cfg (n + 60)) 70 [(Fm.av x), vI (Int.ofNat 20)] S = some (vI r, S), decide (r > 20) = true]) (x := vB true) (S2 := AS.mk [AObj.cells (Fm.row x) 27] [] 0 0) (by kernel_rfl) ⟨c0, h1, trivial⟩ rfl -- Exit.ret
theorem f69_2 (x : Fm) (b : Bool) (r : Int) (n : Nat) (c0 : ∀ (S : AS), Lw.call (lower cfg (n + 60)) 70 [(Fm.av x), vI (Int.ofNat 20)] S = some (vI r, S)) (h1 : decide (r > 20) = false) (c2 : ∀ (S : AS), Lw.call (lower cfg (n + 60)) 71 [(Fm.av x)] S = some (vB b, S)) : Path cfg 69 [(Fm.av x)] (vB !b) (n + 60) :=
  Path.of (ds := [(3, Tell.fr (vI r)), (0, Tell.b false), (4, Tell.fr (vB b))]) (cs := [∀ (S : AS), Lw.call (lower cfg (n + 60)) 70 [(Fm.av x), vI (Int.ofNat 20)] S = some (vI r, S), decide (r > 20) = false, ∀ (S : AS), Lw.call (lower cfg (n + 60)) 71 [(Fm.av x)] S = some (vB b, S)]) (x := vB !b) (S2 := AS.mk [AObj.cells (Fm.row x) 27] [] 0 0) (by kernel_rfl) ⟨c0, h1, c2, trivial⟩ rfl -- Exit.ret
theorem f12_1 (c : Cap) (xs : List Fm) (most : Int) (b : Bool) (n : Nat) (h0 : decide ((↑(List.length (List.map Fm.row xs)) : Int) ≤ most) = true) (c1 : ∀ (S : AS), Lw.call (lower cfg (n + 60)) 22 [AV.lst c (List.map Fm.row xs), AV.fn (Fn.func 69) [] []] S = some (vB b, S)) : Path cfg 12 [vI most, AV.lst c (List.map Fm.row xs)] (vB !b) (n + 60) :=
  Path.of (ds := [(4, Tell.b true), (4, Tell.fr (vB b))]) (cs := [decide ((↑(List.length (List.map Fm.row xs)) : Int) ≤ most) = true, ∀ (S : AS), Lw.call (lower cfg (n + 60)) 22 [AV.lst c (List.map Fm.row xs), AV.fn (Fn.func 69) [] []] S = some (vB b, S)]) (x := vB !b) (S2 := AS.mk [] [] 0 0) (by kernel_rfl) ⟨h0, c1, trivial⟩ rfl -- Exit.ret
theorem f12_2 (c : Cap) (xs : List Fm) (most : Int) (b : Bool) (n : Nat) (h0 : decide ((↑(List.length (List.map Fm.row xs)) : Int) ≤ most) = false) : Path cfg 12 [AV.v (Value.int IntKind.i64 most), AV.lst c (List.map Fm.row xs)] (AV.v (Value.bool false)) (n + 60) :=
  Path.of (ds := [(4, Tell.b false)]) (cs := [decide ((↑(List.length (List.map Fm.row xs)) : Int) ≤ most) = false]) (x := AV.v (Value.bool false)) (S2 := AS.mk [] [] 0 0) (by kernel_rfl) ⟨h0, trivial⟩ rfl -- Exit.ret
theorem n12_1 (most : Int) (b : Bool) (n : Nat) (h0 : decide (Int.ofNat 0 ≤ most) = true) (c1 : ∀ (S : AS), Lw.call (lower cfg (n + 60)) 22 [AV.v (Value.slice none 0 0), AV.fn (Fn.func 69) [] []] S = some (vB b, S)) : Path cfg 12 [vI most, AV.v (Value.slice none 0 0)] (vB !b) (n + 60) :=
  Path.of (ds := [(4, Tell.b true), (4, Tell.fr (vB b))]) (cs := [decide (Int.ofNat 0 ≤ most) = true, ∀ (S : AS), Lw.call (lower cfg (n + 60)) 22 [AV.v (Value.slice none 0 0), AV.fn (Fn.func 69) [] []] S = some (vB b, S)]) (x := vB !b) (S2 := AS.mk [] [] 0 0) (by kernel_rfl) ⟨h0, c1, trivial⟩ rfl -- Exit.ret
theorem n12_2 (most : Int) (b : Bool) (n : Nat) (h0 : decide (Int.ofNat 0 ≤ most) = false) : Path cfg 12 [AV.v (Value.int IntKind.i64 most), AV.v (Value.slice none 0 0)] (AV.v (Value.bool false)) (n + 60) :=
  Path.of (ds := [(4, Tell.b false)]) (cs := [decide (Int.ofNat 0 ≤ most) = false]) (x := AV.v (Value.bool false)) (S2 := AS.mk [] [] 0 0) (by kernel_rfl) ⟨h0, trivial⟩ rfl -- Exit.ret
theorem b70_1 (x : Fm) (y : Fm) (i : Int) (k : Int) (m : Int) (len : Int) (r : Int) (n : Nat) (h0 : decide (i < len) = true) (c1 : aindexAddr (Cfg.P cfg) 22 (AV.lst Cap.any (Fm.rows x)) (vI i) = some (AV.eptr (Fm.row y) 0)) (h2 : decide (k > m) = true) (a : AAct) (ha : In 27 [] [(1, vI m), (2, AV.ptr 0 0), (5, vI k), (9, AV.lst Cap.any (Fm.rows x)), (10, vI len), (11, vI i)] a) : Seen (aBody cfg 70 (codeAt (codeOf cfg.P 70) [1, 1, 0, 1, 0, 0]) 1 (aC cfg (lower cfg (n + 60)) (n + 60 + 1) 70 none (codeAt (codeOf cfg.P 70) [1, 1, 0, 1, 0, 0])) a (AS.mk [AObj.cells (Fm.row x) 27] [] 0 0)) (Exit.exit 0) 27 [] [(1, vI m), (2, AV.ptr 0 0), (5, vI k), (9, AV.lst Cap.any (Fm.rows x)), (10, vI len), (11, vI i)] (AS.mk [AObj.cells (Fm.row x) 27, AObj.cells (Fm.row y) 27] [] 0 0) :=
  segB_ok (ds := [(1, Tell.b true), (0, Tell.fr (AV.eptr (Fm.row y) 0)), (6, Tell.b true)]) (cs := [decide (i < len) = true, frP (aindexAddr (Cfg.P cfg) 22 (AV.lst Cap.any (Fm.rows x)) (vI i)) (AV.eptr (Fm.row y) 0), decide (k > m) = true]) (ws := [1, 2, 5, 9, 10, 11]) (ds' := []) ha (fun g => by kernel_rfl) ⟨h0, (fr_of c1), h2, trivial⟩
theorem b70_2 (x : Fm) (y : Fm) (i : Int) (k : Int) (m : Int) (len : Int) (r : Int) (n : Nat) (h0 : decide (i < len) = true) (c1 : aindexAddr (Cfg.P cfg) 22 (AV.lst Cap.any (Fm.rows x)) (vI i) = some (AV.eptr (Fm.row y) 0)) (h2 : decide (k > m) = false) (c3 : ∀ (S : AS), Lw.call (lower cfg (n + 60)) 70 [(Fm.av y), vI (IntKind.wrap IntKind.i64 (m - k))] S = some (vI r, S)) (a : AAct) (ha : In 27 [] [(1, vI m), (2, AV.ptr 0 0), (5, vI k), (9, AV.lst Cap.any (Fm.rows x)), (10, vI len), (11, vI i)] a) : Seen (aBody cfg 70 (codeAt (codeOf cfg.P 70) [1, 1, 0, 1, 0, 0]) 1 (aC cfg (lower cfg (n + 60)) (n + 60 + 1) 70 none (codeAt (codeOf cfg.P 70) [1, 1, 0, 1, 0, 0])) a (AS.mk [AObj.cells (Fm.row x) 27] [] 0 0)) (Exit.normal) 27 [] [(1, vI m), (2, AV.ptr 0 0), (5, vI (IntKind.wrap IntKind.i64 (k + r))), (9, AV.lst Cap.any (Fm.rows x)), (10, vI len), (11, vI (IntKind.wrap IntKind.i64 (i + 1)))] (AS.mk [AObj.cells (Fm.row x) 27] [] 0 0) :=
  segB_ok (ds := [(1, Tell.b true), (0, Tell.fr (AV.eptr (Fm.row y) 0)), (6, Tell.b false), (5, Tell.fr (vI r)), (4, Tell.b true)]) (cs := [decide (i < len) = true, frP (aindexAddr (Cfg.P cfg) 22 (AV.lst Cap.any (Fm.rows x)) (vI i)) (AV.eptr (Fm.row y) 0), decide (k > m) = false, ∀ (S : AS), Lw.call (lower cfg (n + 60)) 70 [(Fm.av y), vI (IntKind.wrap IntKind.i64 (m - k))] S = some (vI r, S), trimB 1 [vI m, AV.ptr 0 0, vI (IntKind.wrap IntKind.i64 (k + r)), AV.lst Cap.any (Fm.rows x), vI len, vI (IntKind.wrap IntKind.i64 (i + 1))] [AObj.cells (Fm.row x) 27] [] 2 = true]) (ws := [1, 2, 5, 9, 10, 11]) (ds' := []) ha (fun g => by kernel_rfl) ⟨h0, (fr_of c1), h2, c3, (by simp [trimB, objOld, belowAll, AV.old, Fm.row, Fm.av, Fm.belowRows_rows, Fm.belowRows_map, Nat.ble]), trivial⟩
theorem b70_3 (x : Fm) (y : Fm) (i : Int) (k : Int) (m : Int) (len : Int) (r : Int) (n : Nat) (h0 : decide (i < len) = false) (a : AAct) (ha : In 27 [] [(1, vI m), (2, AV.ptr 0 0), (5, vI k), (9, AV.lst Cap.any (Fm.rows x)), (10, vI len), (11, vI i)] a) : Seen (aBody cfg 70 (codeAt (codeOf cfg.P 70) [1, 1, 0, 1, 0, 0]) 1 (aC cfg (lower cfg (n + 60)) (n + 60 + 1) 70 none (codeAt (codeOf cfg.P 70) [1, 1, 0, 1, 0, 0])) a (AS.mk [AObj.cells (Fm.row x) 27] [] 0 0)) (Exit.exit 0) 27 [] [(1, vI m), (2, AV.ptr 0 0), (5, vI k), (9, AV.lst Cap.any (Fm.rows x)), (10, vI len), (11, vI i)] (AS.mk [AObj.cells (Fm.row x) 27] [] 0 0) :=
  segB_ok (ds := [(1, Tell.b false)]) (cs := [decide (i < len) = false]) (ws := [1, 2, 5, 9, 10, 11]) (ds' := []) ha (fun g => by kernel_rfl) ⟨h0, trivial⟩
theorem f70_1 (x : Fm) (m : Int) (r : Int) (S1 : AS) (n : Nat) (γ0 : AAct → Nat → AV) (l0 : LoopIs cfg (lower cfg (n + 60)) (n + 60 + 1) 70 none (codeAt (codeOf (Cfg.P cfg) 70) [1, 1, 0, 1, 0]) 27 [] [(1, vI m), (2, AV.ptr 0 0), (5, vI (Int.ofNat 1)), (9, AV.lst Cap.any (Fm.rows x)), (10, vI (↑(List.length (Fm.rows x)) : Int)), (11, vI (Int.ofNat 0))] (AS.mk [AObj.cells (Fm.row x) 27] [] 0 0) (Exit.exit 0) [(5, vI r)] S1 γ0) : Path cfg 70 [(Fm.av x), vI m] (vI r) (n + 60) :=
  Path.of (ds := [(7, Tell.lp [1, 2, 5, 9, 10, 11] (Exit.exit 0) [(5, vI r)] S1 γ0)]) (cs := [LoopIs cfg (lower cfg (n + 60)) (n + 60 + 1) 70 none (codeAt (codeOf (Cfg.P cfg) 70) [1, 1, 0, 1, 0]) 27 [] [(1, vI m), (2, AV.ptr 0 0), (5, vI (Int.ofNat 1)), (9, AV.lst Cap.any (Fm.rows x)), (10, vI (↑(List.length (Fm.rows x)) : Int)), (11, vI (Int.ofNat 0))] (AS.mk [AObj.cells (Fm.row x) 27] [] 0 0) (Exit.exit 0) [(5, vI r)] S1 γ0]) (x := vI r) (S2 := S1) (by kernel_rfl) ⟨l0, trivial⟩ rfl -- Exit.ret
theorem b81_1 (c : Cap) (d : Cap) (xs : List Fm) (ys : List Fm) (x : Fm) (y : Fm) (i : Int) (m : Int) (n : Nat) (h0 : decide (i < m) = true) (c1 : aindexAddr (Cfg.P cfg) 22 (AV.lst c (List.map Fm.row xs)) (vI i) = some (AV.eptr (Fm.row x) 0)) (c2 : aindexAddr (Cfg.P cfg) 22 (AV.lst d (List.map Fm.row ys)) (vI i) = some (AV.eptr (Fm.row y) 0)) (c3 : ∀ (S : AS), Lw.call (lower cfg (n + 60)) 24 [(Fm.av x), (Fm.av y)] S = some (vB (same x y), S)) (h4 : same x y = true) (a : AAct) (ha : In 32 [] [(1, AV.lst d (List.map Fm.row ys)), (2, AV.fn (Fn.func 24) [] []), (15, AV.lst c (List.map Fm.row xs)), (16, vI m), (17, vI i)] a) : Seen (aBody cfg 81 (codeAt (codeOf cfg.P 81) [1, 1, 0, 1, 0, 0]) 0 (aC cfg (lower cfg (n + 60)) (n + 60 + 1) 81 none (codeAt (codeOf cfg.P 81) [1, 1, 0, 1, 0, 0])) a (AS.mk [] [] 0 0)) (Exit.normal) 32 [] [(1, AV.lst d (List.map Fm.row ys)), (2, AV.fn (Fn.func 24) [] []), (15, AV.lst c (List.map Fm.row xs)), (16, vI m), (17, vI (IntKind.wrap IntKind.i64 (i + 1)))] (AS.mk [] [] 0 0) :=
  segB_ok (ds := [(1, Tell.b true), (1, Tell.fr (AV.eptr (Fm.row x) 0)), (6, Tell.fr (AV.eptr (Fm.row y) 0)), (6, Tell.fr (vB (same x y))), (1, Tell.b false), (2, Tell.b true)]) (cs := [decide (i < m) = true, frP (aindexAddr (Cfg.P cfg) 22 (AV.lst c (List.map Fm.row xs)) (vI i)) (AV.eptr (Fm.row x) 0), frP (aindexAddr (Cfg.P cfg) 22 (AV.lst d (List.map Fm.row ys)) (vI i)) (AV.eptr (Fm.row y) 0), ∀ (S : AS), Lw.call (lower cfg (n + 60)) 24 [(Fm.av x), (Fm.av y)] S = some (vB (same x y), S), (!same x y) = false, trimB 0 [AV.lst d (List.map Fm.row ys), AV.fn (Fn.func 24) [] [], AV.lst c (List.map Fm.row xs), vI m, vI (IntKind.wrap IntKind.i64 (i + 1))] [] [] 2 = true]) (ws := [1, 2, 15, 16, 17]) (ds' := []) ha (fun g => by kernel_rfl) ⟨h0, (fr_of c1), (fr_of c2), c3, (congrArg not h4), (by simp [trimB, objOld, belowAll, AV.old, Fm.row, Fm.av, Fm.belowRows_rows, Fm.belowRows_map, Nat.ble]), trivial⟩
theorem b81_2 (c : Cap) (d : Cap) (xs : List Fm) (ys : List Fm) (x : Fm) (y : Fm) (i : Int) (m : Int) (n : Nat) (h0 : decide (i < m) = true) (c1 : aindexAddr (Cfg.P cfg) 22 (AV.lst c (List.map Fm.row xs)) (vI i) = some (AV.eptr (Fm.row x) 0)) (c2 : aindexAddr (Cfg.P cfg) 22 (AV.lst d (List.map Fm.row ys)) (vI i) = some (AV.eptr (Fm.row y) 0)) (c3 : ∀ (S : AS), Lw.call (lower cfg (n + 60)) 24 [(Fm.av x), (Fm.av y)] S = some (vB (same x y), S)) (h4 : same x y = false) (a : AAct) (ha : In 32 [] [(1, AV.lst d (List.map Fm.row ys)), (2, AV.fn (Fn.func 24) [] []), (15, AV.lst c (List.map Fm.row xs)), (16, vI m), (17, vI i)] a) : Seen (aBody cfg 81 (codeAt (codeOf cfg.P 81) [1, 1, 0, 1, 0, 0]) 0 (aC cfg (lower cfg (n + 60)) (n + 60 + 1) 81 none (codeAt (codeOf cfg.P 81) [1, 1, 0, 1, 0, 0])) a (AS.mk [] [] 0 0)) (Exit.ret) 32 [] [(1, AV.lst d (List.map Fm.row ys)), (2, AV.fn (Fn.func 24) [] []), (6, vB false), (15, AV.lst c (List.map Fm.row xs)), (16, vI m), (17, vI i)] (AS.mk [AObj.cells (Fm.row x) 27, AObj.cells (Fm.row y) 27] [] 0 0) :=
  segB_ok (ds := [(1, Tell.b true), (1, Tell.fr (AV.eptr (Fm.row x) 0)), (6, Tell.fr (AV.eptr (Fm.row y) 0)), (6, Tell.fr (vB (same x y))), (1, Tell.b true)]) (cs := [decide (i < m) = true, frP (aindexAddr (Cfg.P cfg) 22 (AV.lst c (List.map Fm.row xs)) (vI i)) (AV.eptr (Fm.row x) 0), frP (aindexAddr (Cfg.P cfg) 22 (AV.lst d (List.map Fm.row ys)) (vI i)) (AV.eptr (Fm.row y) 0), ∀ (S : AS), Lw.call (lower cfg (n + 60)) 24 [(Fm.av x), (Fm.av y)] S = some (vB (same x y), S), (!same x y) = true]) (ws := [1, 2, 6, 15, 16, 17]) (ds' := []) ha (fun g => by kernel_rfl) ⟨h0, (fr_of c1), (fr_of c2), c3, (congrArg not h4), trivial⟩
theorem b81_3 (c : Cap) (d : Cap) (xs : List Fm) (ys : List Fm) (x : Fm) (y : Fm) (i : Int) (m : Int) (n : Nat) (h0 : decide (i < m) = false) (a : AAct) (ha : In 32 [] [(1, AV.lst d (List.map Fm.row ys)), (2, AV.fn (Fn.func 24) [] []), (15, AV.lst c (List.map Fm.row xs)), (16, vI m), (17, vI i)] a) : Seen (aBody cfg 81 (codeAt (codeOf cfg.P 81) [1, 1, 0, 1, 0, 0]) 0 (aC cfg (lower cfg (n + 60)) (n + 60 + 1) 81 none (codeAt (codeOf cfg.P 81) [1, 1, 0, 1, 0, 0])) a (AS.mk [] [] 0 0)) (Exit.exit 0) 32 [] [(1, AV.lst d (List.map Fm.row ys)), (2, AV.fn (Fn.func 24) [] []), (15, AV.lst c (List.map Fm.row xs)), (16, vI m), (17, vI i)] (AS.mk [] [] 0 0) :=
  segB_ok (ds := [(1, Tell.b false)]) (cs := [decide (i < m) = false]) (ws := [1, 2, 15, 16, 17]) (ds' := []) ha (fun g => by kernel_rfl) ⟨h0, trivial⟩
theorem f81_1 (c : Cap) (d : Cap) (xs : List Fm) (ys : List Fm) (n : Nat) (γ0 : AAct → Nat → AV) (h0 : ((↑(List.length (List.map Fm.row xs)) : Int) == (↑(List.length (List.map Fm.row ys)) : Int)) = true) (l1 : LoopIs cfg (lower cfg (n + 60)) (n + 60 + 1) 81 none (codeAt (codeOf (Cfg.P cfg) 81) [1, 1, 0, 1, 0]) 32 [] [(1, AV.lst d (List.map Fm.row ys)), (2, AV.fn (Fn.func 24) [] []), (15, AV.lst c (List.map Fm.row xs)), (16, vI (↑(List.length (List.map Fm.row xs)) : Int)), (17, vI (Int.ofNat 0))] (AS.mk [] [] 0 0) (Exit.exit 0) [] (AS.mk [] [] 0 0) γ0) : Path cfg 81 [AV.lst c (List.map Fm.row xs), AV.lst d (List.map Fm.row ys), AV.fn (Fn.func 24) [] []] (vB true) (n + 60) :=
  Path.of (ds := [(6, Tell.b false), (3, Tell.lp [1, 2, 15, 16, 17] (Exit.exit 0) [] (AS.mk [] [] 0 0) γ0)]) (cs := [((↑(List.length (List.map Fm.row xs)) : Int) != (↑(List.length (List.map Fm.row ys)) : Int)) = false, LoopIs cfg (lower cfg (n + 60)) (n + 60 + 1) 81 none (codeAt (codeOf (Cfg.P cfg) 81) [1, 1, 0, 1, 0]) 32 [] [(1, AV.lst d (List.map Fm.row ys)), (2, AV.fn (Fn.func 24) [] []), (15, AV.lst c (List.map Fm.row xs)), (16, vI (↑(List.length (List.map Fm.row xs)) : Int)), (17, vI (Int.ofNat 0))] (AS.mk [] [] 0 0) (Exit.exit 0) [] (AS.mk [] [] 0 0) γ0]) (x := vB true) (S2 := AS.mk [] [] 0 0) (by kernel_rfl) ⟨(congrArg not h0), l1, trivial⟩ rfl -- Exit.ret
theorem f81_2 (c : Cap) (d : Cap) (xs : List Fm) (ys : List Fm) (n : Nat) (h0 : ((↑(List.length (List.map Fm.row xs)) : Int) == (↑(List.length (List.map Fm.row ys)) : Int)) = false) : Path cfg 81 [AV.lst c (List.map Fm.row xs), AV.lst d (List.map Fm.row ys), AV.fn (Fn.func 24) [] []] (vB false) (n + 60) :=
  Path.of (ds := [(6, Tell.b true)]) (cs := [((↑(List.length (List.map Fm.row xs)) : Int) != (↑(List.length (List.map Fm.row ys)) : Int)) = true]) (x := AV.v (Value.bool false)) (S2 := AS.mk [] [] 0 0) (by kernel_rfl) ⟨(congrArg not h0), trivial⟩ rfl -- Exit.ret
theorem g81_1 (c : Cap) (d : Cap) (xs : List Fm) (ys : List Fm) (S1 : AS) (n : Nat) (γ0 : AAct → Nat → AV) (h0 : ((↑(List.length (List.map Fm.row xs)) : Int) == (↑(List.length (List.map Fm.row ys)) : Int)) = true) (l1 : LoopIs cfg (lower cfg (n + 60)) (n + 60 + 1) 81 none (codeAt (codeOf (Cfg.P cfg) 81) [1, 1, 0, 1, 0]) 32 [] [(1, AV.lst d (List.map Fm.row ys)), (2, AV.fn (Fn.func 24) [] []), (15, AV.lst c (List.map Fm.row xs)), (16, vI (↑(List.length (List.map Fm.row xs)) : Int)), (17, vI (Int.ofNat 0))] (AS.mk [] [] 0 0) Exit.ret [(6, vB false)] S1 γ0) : Path cfg 81 [AV.lst c (List.map Fm.row xs), AV.lst d (List.map Fm.row ys), AV.fn (Fn.func 24) [] []] (vB false) (n + 60) :=
  Path.of (ds := [(6, Tell.b false), (3, Tell.lp [1, 2, 15, 16, 17] Exit.ret [(6, vB false)] S1 γ0)]) (cs := [((↑(List.length (List.map Fm.row xs)) : Int) != (↑(List.length (List.map Fm.row ys)) : Int)) = false, LoopIs cfg (lower cfg (n + 60)) (n + 60 + 1) 81 none (codeAt (codeOf (Cfg.P cfg) 81) [1, 1, 0, 1, 0]) 32 [] [(1, AV.lst d (List.map Fm.row ys)), (2, AV.fn (Fn.func 24) [] []), (15, AV.lst c (List.map Fm.row xs)), (16, vI (↑(List.length (List.map Fm.row xs)) : Int)), (17, vI (Int.ofNat 0))] (AS.mk [] [] 0 0) Exit.ret [(6, vB false)] S1 γ0]) (x := vB false) (S2 := S1) (by kernel_rfl) ⟨(congrArg not h0), l1, trivial⟩ rfl -- Exit.ret
theorem g81_2 (c : Cap) (d : Cap) (xs : List Fm) (ys : List Fm) (S1 : AS) (n : Nat) (h0 : ((↑(List.length (List.map Fm.row xs)) : Int) == (↑(List.length (List.map Fm.row ys)) : Int)) = false) : Path cfg 81 [AV.lst c (List.map Fm.row xs), AV.lst d (List.map Fm.row ys), AV.fn (Fn.func 24) [] []] (vB false) (n + 60) :=
  Path.of (ds := [(6, Tell.b true)]) (cs := [((↑(List.length (List.map Fm.row xs)) : Int) != (↑(List.length (List.map Fm.row ys)) : Int)) = true]) (x := AV.v (Value.bool false)) (S2 := AS.mk [] [] 0 0) (by kernel_rfl) ⟨(congrArg not h0), trivial⟩ rfl -- Exit.ret

def l83 (g : Nat) (c : Cap) (xs : List Fm) (j : Nat) : List (Nat × AV) := [(0, AV.lst c (List.map Fm.row xs)), (1, AV.fn (Fn.func g) [] []), (7, AV.v (Value.int IntKind.i64 (xs.length : Int))), (8, AV.v (Value.int IntKind.i64 (Int.ofNat j)))]

theorem idx83b_loop (c : Cap) (xs : List Fm) (p : Fm → Bool) (n : Nat) (hb : xs.length < 9223372036854775808) (hp : ∀ x, x ∈ xs → ∀ S, (lower cfg (n + 60)).call 110 [x.av] S = some (.v (.bool (p x)), S)) : ∀ (d j K : Nat), xs.length - j = d → j ≤ xs.length → d < K →
    ∀ a, In 19 [] (l83 110 c xs j) a →
      (idxOf p (xs.drop j) (Int.ofNat j) = -1 → Seen (aloop (aBody cfg 83 (codeAt (codeOf cfg.P 83) [1, 0, 1, 0, 0]) 0 (aC cfg (lower cfg (n + 60)) (n + 60 + 1) 83 none (codeAt (codeOf cfg.P 83) [1, 0, 1, 0, 0]))) K a (AS.mk [] [] 0 0)) (.exit 0) 19 [] [] (AS.mk [] [] 0 0)) ∧
      (idxOf p (xs.drop j) (Int.ofNat j) ≠ -1 → Seen (aloop (aBody cfg 83 (codeAt (codeOf cfg.P 83) [1, 0, 1, 0, 0]) 0 (aC cfg (lower cfg (n + 60)) (n + 60 + 1) 83 none (codeAt (codeOf cfg.P 83) [1, 0, 1, 0, 0]))) K a (AS.mk [] [] 0 0)) .ret 19 [] [(4, .v (.int .i64 (idxOf p (xs.drop j) (Int.ofNat j))))] (AS.mk [] [] 0 0)) := by
  intro d
  induction d with
  | zero =>
    intro j K hd hj hK a ha
    obtain ⟨K, rfl⟩ : ∃ m, K = m + 1 := ⟨K - 1, by omega⟩
    have he : j = xs.length := by omega
    have hdrop : xs.drop j = [] := List.drop_of_length_le (by omega)
    rw [hdrop]
    refine ⟨fun _ => seen_stop (by simp) ?_, fun h => absurd rfl h⟩
    exact (b83b_3 c xs (.mk 0 .empty .empty []) p _ _ n (ltF (by omega)) a ha).weak fun _ _ => trivial
  | succ d ih =>
    intro j K hd hj hK a ha
    obtain ⟨K, rfl⟩ : ∃ m, K = m + 1 := ⟨K - 1, by omega⟩
    have hlt : j < xs.length := by omega
    have hdrop : xs.drop j = xs[j] :: xs.drop (j + 1) := List.drop_eq_getElem_cons hlt
    have hidx : aindexAddr cfg.P 22 (.lst c (xs.map Fm.row)) (.v (.int .i64 (Int.ofNat j))) = some (.eptr xs[j].row 0) := idx22 (Fm.map_get (List.getElem?_eq_getElem hlt)) rfl
    have hcall := hp xs[j] (List.getElem_mem hlt)
    rw [hdrop]
    simp only [idxOf]
    cases hpj : p xs[j] with
    | true =>
      simp only [cond_true]
      refine ⟨fun h => by simp at h, fun _ => seen_stop (by simp) ?_⟩
      exact (b83b_1 c xs xs[j] p _ _ n (ltT hlt) hidx hcall hpj a ha).weak fun l h => ⟨h.2.2.1, trivial⟩
    | false =>
      simp only [cond_false]
      have step := b83b_2 c xs xs[j] p _ _ n (ltT hlt) hidx hcall hpj a ha
      rw [wrapS (by omega)] at step
      have hih := ih (j + 1) K (by omega) (by omega) (by omega)
      rw [show Int.ofNat j + 1 = Int.ofNat (j + 1) from rfl]
      exact ⟨fun h => seen_next step fun a' ha' => (hih a' ha').1 h, fun h => seen_next step fun a' ha' => (hih a' ha').2 h⟩

theorem idx83b (c : Cap) (hc : untok c = c) (xs : List Fm) (p : Fm → Bool) (hb : xs.length < 9223372036854775808) (hp : ∀ x, x ∈ xs → Fr cfg 110 [x.av] (.v (.bool (p x)))) : Fr cfg 83 [.lst c (xs.map Fm.row), .fn (.func 110) [] []] (.v (.int .i64 (idxOf p xs 0))) := by
  refine Fr.of_co rfl (by kernel_rfl) (Own.lst hc (Own.fun_ Own.nil)) (Co.path (by kernel_rfl) ?_)
  have hp' : Evt fun n => ∀ x, x ∈ xs → ∀ S, (lower cfg (n + 60)).call 110 [x.av] S = some (.v (.bool (p x)), S) := Evt.unshift (p := fun m => ∀ x, x ∈ xs → ∀ S, (lower cfg m).call 110 [x.av] S = some (.v (.bool (p x)), S)) (Evt.mem xs fun x hx => hp x hx)
  refine Evt.shift ((hp'.and (Evt.big xs.length)).mono fun n hn => ?_)
  have hl : ((List.map Fm.row xs).length : Int) = (xs.length : Int) := by simp
  have L := fun a ha => idx83b_loop c xs p n hb hn.1 xs.length 0 (n + 60 + 1) (by omega) (by omega) (by omega) a ha
  simp only [List.drop_zero] at L
  by_cases h : idxOf p xs 0 = -1
  · obtain ⟨γ, hγ⟩ := LoopIs.of (C := cfg) (c := codeAt (codeOf cfg.P 83) [1, 0, 1, 0]) (k := n + 60 + 1) (hf := 83) (rd := none) (L := lower cfg (n + 60)) (fun a ha => (L a ha).1 h)
    rw [h]
    refine f83b_1 c xs 0 n γ ?_
    rw [hl]; exact hγ
  · obtain ⟨γ, hγ⟩ := LoopIs.of (C := cfg) (c := codeAt (codeOf cfg.P 83) [1, 0, 1, 0]) (k := n + 60 + 1) (hf := 83) (rd := none) (L := lower cfg (n + 60)) (fun a ha => (L a ha).2 h)
    refine g83b_1 c xs (idxOf p xs 0) n γ ?_
    rw [hl]; exact hγ

theorem any22b (c : Cap) (hc : untok c = c) (xs : List Fm) (p : Fm → Bool) (hb : xs.length < 9223372036854775808) (hp : ∀ x, x ∈ xs → Fr cfg 110 [x.av] (.v (.bool (p x)))) : Fr cfg 22 [.lst c (xs.map Fm.row), .fn (.func 110) [] []] (.v (.bool (xs.any p))) := by
  refine Fr.of_co rfl (by kernel_rfl) (Own.lst hc (Own.fun_ Own.nil)) (Co.path (by kernel_rfl) ?_)
  refine Evt.shift ((idx83b c hc xs p hb hp).shift.mono fun n hn => ?_)
  rw [← idxOf_any p xs 0 (by omega)]
  exact f22b_1 c xs _ n hn

/-- All texts of a form are short. -/
theorem brief71 : ∀ x : Fm, Fit x → Fr cfg 71 [x.av] (.v (.bool x.brief)) := by
  intro x
  induction x using Fm.ind with
  | _ x ih =>
    intro hf
    have h110 : ∀ y, y ∈ x.kids → Fr cfg 110 [y.av] (.v (.bool (!y.brief))) := fun y hy => by
      refine Fr.of_co rfl (by kernel_rfl) (Own.fm Own.nil) (Co.path (by kernel_rfl) ?_)
      exact Evt.shift ((ih y hy (hf.kid hy)).shift.mono fun n hn => f110_1 y _ n hn)
    have h22 := any22b .any rfl x.kids (fun y => !y.brief) hf.len h110
    rw [← Fm.rows_eq] at h22
    refine Fr.of_co rfl (by kernel_rfl) (Own.fm Own.nil) (Co.path (by kernel_rfl) ?_)
    refine Evt.shift (h22.shift.mono fun n hn => ?_)
    rw [Fm.brief_eq]
    cases h0 : decide ((x.text.size : Int) ≤ 30) with
    | false => simp only [Bool.false_and]; exact f71_3 x true n h0
    | true =>
      cases h1 : decide ((x.home.size : Int) ≤ 30) with
      | false => simp only [Bool.false_and, Bool.and_false]; exact f71_2 x true n h0 h1
      | true => simp only [Bool.true_and]; exact f71_1 x _ n h0 h1 hn

def l70 (x : Fm) (m k : Int) (j : Nat) : List (Nat × AV) := [(1, AV.v (Value.int IntKind.i64 m)), (2, AV.ptr 0 0), (5, AV.v (Value.int IntKind.i64 k)), (9, AV.lst Cap.any (Fm.rows x)), (10, AV.v (Value.int IntKind.i64 (x.kids.length : Int))), (11, AV.v (Value.int IntKind.i64 (Int.ofNat j)))]

def callsL : List Fm → Int → Int → List (Fm × Int)
  | [], _, _ => []
  | y :: l, k, m => bif decide (k > m) then [] else (y, IntKind.i64.wrap (m - k)) :: callsL l (IntKind.i64.wrap (k + y.nodes (IntKind.i64.wrap (m - k)))) m
theorem callsL_mem : ∀ (l : List Fm) (k m : Int) (p : Fm × Int), p ∈ callsL l k m → p.1 ∈ l
  | [], _, _, _, h => by cases h
  | y :: l, k, m, p, h => by
    unfold callsL at h
    cases hk : decide (k > m) with
    | true => rw [hk] at h; cases h
    | false =>
      rw [hk] at h
      rcases List.mem_cons.1 h with rfl | h
      · exact List.mem_cons_self ..
      · exact List.mem_cons_of_mem _ (callsL_mem l _ m p h)

theorem nodes70_loop (x : Fm) (m : Int) (n : Nat) (hb : x.kids.length < 9223372036854775808) : ∀ (d j K : Nat) (k : Int), x.kids.length - j = d → j ≤ x.kids.length → d < K →
    (∀ p, p ∈ callsL (x.kids.drop j) k m → ∀ S, (lower cfg (n + 60)).call 70 [p.1.av, .v (.int .i64 p.2)] S = some (.v (.int .i64 (p.1.nodes p.2)), S)) →
    ∃ S1, ∀ a, In 27 [] (l70 x m k j) a → Seen (aloop (aBody cfg 70 (codeAt (codeOf cfg.P 70) [1, 1, 0, 1, 0, 0]) 1 (aC cfg (lower cfg (n + 60)) (n + 60 + 1) 70 none (codeAt (codeOf cfg.P 70) [1, 1, 0, 1, 0, 0]))) K a (AS.mk [AObj.cells (Fm.row x) 27] [] 0 0)) (.exit 0) 27 [] [(5, .v (.int .i64 (Fm.nodesL (x.kids.drop j) k m)))] S1 := by
  intro d
  induction d with
  | zero =>
    intro j K k hd hj hK hp
    obtain ⟨K, rfl⟩ : ∃ m, K = m + 1 := ⟨K - 1, by omega⟩
    have hdrop : x.kids.drop j = [] := List.drop_of_length_le (by omega)
    rw [hdrop]
    refine ⟨AS.mk [AObj.cells (Fm.row x) 27] [] 0 0, fun a ha => seen_stop (by simp) ?_⟩
    have q := b70_3 x x (Int.ofNat j) k m (x.kids.length : Int) 0 n (ltF (by omega)) a ha
    exact q.weak (live' := [(5, .v (.int .i64 k))]) fun l h => ⟨h.2.2.1, trivial⟩
  | succ d ih =>
    intro j K k hd hj hK hp
    obtain ⟨K, rfl⟩ : ∃ m, K = m + 1 := ⟨K - 1, by omega⟩
    have hlt : j < x.kids.length := by omega
    have hdrop : x.kids.drop j = x.kids[j] :: x.kids.drop (j + 1) := List.drop_eq_getElem_cons hlt
    have hidx : aindexAddr cfg.P 22 (.lst .any x.rows) (.v (.int .i64 (Int.ofNat j))) = some (.eptr x.kids[j].row 0) := idx22 (Fm.rows_get (List.getElem?_eq_getElem hlt)) rfl
    rw [hdrop] at hp ⊢
    unfold callsL at hp
    unfold Fm.nodesL
    cases hk : decide (k > m) with
    | true =>
      simp only [cond_true]
      refine ⟨AS.mk [AObj.cells (Fm.row x) 27, AObj.cells (Fm.row x.kids[j]) 27] [] 0 0, fun a ha => seen_stop (by simp) ?_⟩
      have q := b70_1 x x.kids[j] (Int.ofNat j) k m (x.kids.length : Int) 0 n (ltT hlt) hidx hk a ha
      exact q.weak (live' := [(5, .v (.int .i64 k))]) fun l h => ⟨h.2.2.1, trivial⟩
    | false =>
      rw [hk] at hp
      simp only [cond_false] at hp ⊢
      obtain ⟨S1, hS1⟩ := ih (j + 1) K _ (by omega) (by omega) (by omega) (fun p hp2 => hp p (List.mem_cons_of_mem _ hp2))
      refine ⟨S1, fun a ha => ?_⟩
      have step := b70_2 x x.kids[j] (Int.ofNat j) k m (x.kids.length : Int) (x.kids[j].nodes (IntKind.i64.wrap (m - k))) n (ltT hlt) hidx hk (hp (x.kids[j], IntKind.i64.wrap (m - k)) (List.mem_cons_self ..)) a ha
      rw [wrapS (by omega)] at step
      exact seen_next step fun a' ha' => hS1 a' ha'

theorem nodes70 : ∀ x : Fm, Fit x → ∀ m : Int, Fr cfg 70 [x.av, .v (.int .i64 m)] (.v (.int .i64 (x.nodes m))) := by
  intro x
  induction x using Fm.ind with
  | _ x ih =>
    intro hf m
    refine Fr.of_co rfl (by kernel_rfl) (Own.fm (Own.v Own.nil)) (Co.path (by kernel_rfl) ?_)
    have hp : Evt fun n => ∀ p, p ∈ callsL x.kids 1 m → ∀ S, (lower cfg (n + 60)).call 70 [p.1.av, .v (.int .i64 p.2)] S = some (.v (.int .i64 (p.1.nodes p.2)), S) :=
      Evt.unshift (p := fun n => ∀ p, p ∈ callsL x.kids 1 m → ∀ S, (lower cfg n).call 70 [p.1.av, .v (.int .i64 p.2)] S = some (.v (.int .i64 (p.1.nodes p.2)), S)) (Evt.mem _ fun p hp => ih p.1 (callsL_mem _ _ _ _ hp) (hf.kid (callsL_mem _ _ _ _ hp)) p.2)
    refine Evt.shift ((hp.and (Evt.big x.kids.length)).mono fun n hn => ?_)
    obtain ⟨S1, L⟩ := nodes70_loop x m n hf.len x.kids.length 0 (n + 60 + 1) 1 (by omega) (by omega) (by omega) (by rw [List.drop_zero]; exact hn.1)
    rw [List.drop_zero, ← Fm.nodes_eq] at L
    obtain ⟨γ, hγ⟩ := LoopIs.of (C := cfg) (c := codeAt (codeOf cfg.P 70) [1, 1, 0, 1, 0]) (k := n + 60 + 1) (hf := 70) (rd := none) (L := lower cfg (n + 60)) L
    refine f70_1 x m _ S1 n γ ?_
    rw [Fm.rows_len]; exact hγ

/-- Is a form too long? -/
def _root_.Go.AM.Fm.long (x : Fm) : Bool := decide (x.nodes 20 > 20) || !x.brief
theorem long69 (x : Fm) (hf : Fit x) : Fr cfg 69 [x.av] (.v (.bool x.long)) := by
  refine Fr.of_co rfl (by kernel_rfl) (Own.fm Own.nil) (Co.path (by kernel_rfl) ?_)
  refine Evt.shift (((nodes70 x hf 20).shift.and (brief71 x hf).shift).mono fun n hn => ?_)
  unfold Fm.long
  cases h : decide (x.nodes 20 > 20) with
  | true => simp only [Bool.true_or]; exact f69_1 x true _ n hn.1 h
  | false => simp only [Bool.false_or]; exact f69_2 x _ _ n hn.1 h hn.2

theorem idx83a_loop (c : Cap) (xs : List Fm) (p : Fm → Bool) (n : Nat) (hb : xs.length < 9223372036854775808) (hp : ∀ x, x ∈ xs → ∀ S, (lower cfg (n + 60)).call 69 [x.av] S = some (.v (.bool (p x)), S)) : ∀ (d j K : Nat), xs.length - j = d → j ≤ xs.length → d < K →
    ∀ a, In 19 [] (l83 69 c xs j) a →
      (idxOf p (xs.drop j) (Int.ofNat j) = -1 → Seen (aloop (aBody cfg 83 (codeAt (codeOf cfg.P 83) [1, 0, 1, 0, 0]) 0 (aC cfg (lower cfg (n + 60)) (n + 60 + 1) 83 none (codeAt (codeOf cfg.P 83) [1, 0, 1, 0, 0]))) K a (AS.mk [] [] 0 0)) (.exit 0) 19 [] [] (AS.mk [] [] 0 0)) ∧
      (idxOf p (xs.drop j) (Int.ofNat j) ≠ -1 → Seen (aloop (aBody cfg 83 (codeAt (codeOf cfg.P 83) [1, 0, 1, 0, 0]) 0 (aC cfg (lower cfg (n + 60)) (n + 60 + 1) 83 none (codeAt (codeOf cfg.P 83) [1, 0, 1, 0, 0]))) K a (AS.mk [] [] 0 0)) .ret 19 [] [(4, .v (.int .i64 (idxOf p (xs.drop j) (Int.ofNat j))))] (AS.mk [] [] 0 0)) := by
  intro d
  induction d with
  | zero =>
    intro j K hd hj hK a ha
    obtain ⟨K, rfl⟩ : ∃ m, K = m + 1 := ⟨K - 1, by omega⟩
    have he : j = xs.length := by omega
    have hdrop : xs.drop j = [] := List.drop_of_length_le (by omega)
    rw [hdrop]
    refine ⟨fun _ => seen_stop (by simp) ?_, fun h => absurd rfl h⟩
    exact (b83a_3 c xs (.mk 0 .empty .empty []) p _ _ n (ltF (by omega)) a ha).weak fun _ _ => trivial
  | succ d ih =>
    intro j K hd hj hK a ha
    obtain ⟨K, rfl⟩ : ∃ m, K = m + 1 := ⟨K - 1, by omega⟩
    have hlt : j < xs.length := by omega
    have hdrop : xs.drop j = xs[j] :: xs.drop (j + 1) := List.drop_eq_getElem_cons hlt
    have hidx : aindexAddr cfg.P 22 (.lst c (xs.map Fm.row)) (.v (.int .i64 (Int.ofNat j))) = some (.eptr xs[j].row 0) := idx22 (Fm.map_get (List.getElem?_eq_getElem hlt)) rfl
    have hcall := hp xs[j] (List.getElem_mem hlt)
    rw [hdrop]
    simp only [idxOf]
    cases hpj : p xs[j] with
    | true =>
      simp only [cond_true]
      refine ⟨fun h => by simp at h, fun _ => seen_stop (by simp) ?_⟩
      exact (b83a_1 c xs xs[j] p _ _ n (ltT hlt) hidx hcall hpj a ha).weak fun l h => ⟨h.2.2.1, trivial⟩
    | false =>
      simp only [cond_false]
      have step := b83a_2 c xs xs[j] p _ _ n (ltT hlt) hidx hcall hpj a ha
      rw [wrapS (by omega)] at step
      have hih := ih (j + 1) K (by omega) (by omega) (by omega)
      rw [show Int.ofNat j + 1 = Int.ofNat (j + 1) from rfl]
      exact ⟨fun h => seen_next step fun a' ha' => (hih a' ha').1 h, fun h => seen_next step fun a' ha' => (hih a' ha').2 h⟩

theorem idx83a (c : Cap) (hc : untok c = c) (xs : List Fm) (p : Fm → Bool) (hb : xs.length < 9223372036854775808) (hp : ∀ x, x ∈ xs → Fr cfg 69 [x.av] (.v (.bool (p x)))) : Fr cfg 83 [.lst c (xs.map Fm.row), .fn (.func 69) [] []] (.v (.int .i64 (idxOf p xs 0))) := by
  refine Fr.of_co rfl (by kernel_rfl) (Own.lst hc (Own.fun_ Own.nil)) (Co.path (by kernel_rfl) ?_)
  have hp' : Evt fun n => ∀ x, x ∈ xs → ∀ S, (lower cfg (n + 60)).call 69 [x.av] S = some (.v (.bool (p x)), S) := Evt.unshift (p := fun m => ∀ x, x ∈ xs → ∀ S, (lower cfg m).call 69 [x.av] S = some (.v (.bool (p x)), S)) (Evt.mem xs fun x hx => hp x hx)
  refine Evt.shift ((hp'.and (Evt.big xs.length)).mono fun n hn => ?_)
  have hl : ((List.map Fm.row xs).length : Int) = (xs.length : Int) := by simp
  have L := fun a ha => idx83a_loop c xs p n hb hn.1 xs.length 0 (n + 60 + 1) (by omega) (by omega) (by omega) a ha
  simp only [List.drop_zero] at L
  by_cases h : idxOf p xs 0 = -1
  · obtain ⟨γ, hγ⟩ := LoopIs.of (C := cfg) (c := codeAt (codeOf cfg.P 83) [1, 0, 1, 0]) (k := n + 60 + 1) (hf := 83) (rd := none) (L := lower cfg (n + 60)) (fun a ha => (L a ha).1 h)
    rw [h]
    refine f83a_1 c xs 0 n γ ?_
    rw [hl]; exact hγ
  · obtain ⟨γ, hγ⟩ := LoopIs.of (C := cfg) (c := codeAt (codeOf cfg.P 83) [1, 0, 1, 0]) (k := n + 60 + 1) (hf := 83) (rd := none) (L := lower cfg (n + 60)) (fun a ha => (L a ha).2 h)
    refine g83a_1 c xs (idxOf p xs 0) n γ ?_
    rw [hl]; exact hγ

theorem any22a (c : Cap) (hc : untok c = c) (xs : List Fm) (p : Fm → Bool) (hb : xs.length < 9223372036854775808) (hp : ∀ x, x ∈ xs → Fr cfg 69 [x.av] (.v (.bool (p x)))) : Fr cfg 22 [.lst c (xs.map Fm.row), .fn (.func 69) [] []] (.v (.bool (xs.any p))) := by
  refine Fr.of_co rfl (by kernel_rfl) (Own.lst hc (Own.fun_ Own.nil)) (Co.path (by kernel_rfl) ?_)
  refine Evt.shift ((idx83a c hc xs p hb hp).shift.mono fun n hn => ?_)
  rw [← idxOf_any p xs 0 (by omega)]
  exact f22a_1 c xs _ n hn


/-- Is a list short? -/
def shortB (most : Int) (xs : List Fm) : Bool := decide ((xs.length : Int) ≤ most) && !xs.any Fm.long
theorem short12 (c : Cap) (hc : untok c = c) (xs : List Fm) (most : Int) (hb : xs.length < 9223372036854775808) (hf : ∀ x, x ∈ xs → Fit x) : Fr cfg 12 [.v (.int .i64 most), .lst c (xs.map Fm.row)] (.v (.bool (shortB most xs))) := by
  refine Fr.of_co rfl (by kernel_rfl) (Own.v (Own.lst hc Own.nil)) (Co.path (by kernel_rfl) ?_)
  refine Evt.shift ((any22a c hc xs Fm.long hb fun x hx => long69 x (hf x hx)).shift.mono fun n hn => ?_)
  have hl : ((List.map Fm.row xs).length : Int) = (xs.length : Int) := by simp
  unfold shortB
  cases h : decide ((xs.length : Int) ≤ most) with
  | true => simp only [Bool.true_and]; exact f12_1 c xs most _ n (by rw [hl]; exact h) hn
  | false => simp only [Bool.false_and]; exact f12_2 c xs most true n (by rw [hl]; exact h)

def l81 (c d : Cap) (xs ys : List Fm) (j : Nat) : List (Nat × AV) := [(1, AV.lst d (List.map Fm.row ys)), (2, AV.fn (Fn.func 24) [] []), (15, AV.lst c (List.map Fm.row xs)), (16, AV.v (Value.int IntKind.i64 (xs.length : Int))), (17, AV.v (Value.int IntKind.i64 (Int.ofNat j)))]
noncomputable def sameL' (xs ys : List Fm) : Bool := by classical exact decide (xs = ys)

theorem eq81_loop (c d : Cap) (xs ys : List Fm) (n : Nat) (hb : xs.length < 9223372036854775808) (hl : xs.length = ys.length) (hp : ∀ x, x ∈ xs → ∀ y, y ∈ ys → ∀ S, (lower cfg (n + 60)).call 24 [x.av, y.av] S = some (.v (.bool (same x y)), S)) : ∀ (e j K : Nat), xs.length - j = e → j ≤ xs.length → e < K →
      (xs.drop j = ys.drop j → ∀ a, In 32 [] (l81 c d xs ys j) a → Seen (aloop (aBody cfg 81 (codeAt (codeOf cfg.P 81) [1, 1, 0, 1, 0, 0]) 0 (aC cfg (lower cfg (n + 60)) (n + 60 + 1) 81 none (codeAt (codeOf cfg.P 81) [1, 1, 0, 1, 0, 0]))) K a (AS.mk [] [] 0 0)) (.exit 0) 32 [] [] (AS.mk [] [] 0 0)) ∧
      (xs.drop j ≠ ys.drop j → ∃ S1, ∀ a, In 32 [] (l81 c d xs ys j) a → Seen (aloop (aBody cfg 81 (codeAt (codeOf cfg.P 81) [1, 1, 0, 1, 0, 0]) 0 (aC cfg (lower cfg (n + 60)) (n + 60 + 1) 81 none (codeAt (codeOf cfg.P 81) [1, 1, 0, 1, 0, 0]))) K a (AS.mk [] [] 0 0)) .ret 32 [] [(6, .v (.bool false))] S1) := by
  intro e
  induction e with
  | zero =>
    intro j K hd hj hK
    obtain ⟨K, rfl⟩ : ∃ m, K = m + 1 := ⟨K - 1, by omega⟩
    have h1 : xs.drop j = [] := List.drop_of_length_le (by omega)
    have h2 : ys.drop j = [] := List.drop_of_length_le (by omega)
    rw [h1, h2]
    refine ⟨fun _ a ha => seen_stop (by simp) ?_, fun h => absurd rfl h⟩
    exact (b81_3 c d xs ys (.mk 0 .empty .empty []) (.mk 0 .empty .empty []) (Int.ofNat j) (xs.length : Int) n (ltF (by omega)) a ha).weak fun _ _ => trivial
  | succ e ih =>
    intro j K hd hj hK
    obtain ⟨K, rfl⟩ : ∃ m, K = m + 1 := ⟨K - 1, by omega⟩
    have hlt : j < xs.length := by omega
    have hlt2 : j < ys.length := by omega
    have h1 : xs.drop j = xs[j] :: xs.drop (j + 1) := List.drop_eq_getElem_cons hlt
    have h2 : ys.drop j = ys[j] :: ys.drop (j + 1) := List.drop_eq_getElem_cons hlt2
    have hi1 : aindexAddr cfg.P 22 (.lst c (xs.map Fm.row)) (.v (.int .i64 (Int.ofNat j))) = some (.eptr xs[j].row 0) := idx22 (Fm.map_get (List.getElem?_eq_getElem hlt)) rfl
    have hi2 : aindexAddr cfg.P 22 (.lst d (ys.map Fm.row)) (.v (.int .i64 (Int.ofNat j))) = some (.eptr ys[j].row 0) := idx22 (Fm.map_get (List.getElem?_eq_getElem hlt2)) rfl
    have hcall := hp xs[j] (List.getElem_mem hlt) ys[j] (List.getElem_mem hlt2)
    rw [h1, h2]
    by_cases hq : xs[j] = ys[j]
    · have step := fun a ha => b81_1 c d xs ys xs[j] ys[j] (Int.ofNat j) (xs.length : Int) n (ltT hlt) hi1 hi2 hcall (sameT hq) a ha
      rw [wrapS (by omega)] at step
      have hih := ih (j + 1) K (by omega) (by omega) (by omega)
      refine ⟨fun h a ha => seen_next (step a ha) fun a' ha' => hih.1 (List.cons.inj h).2 a' ha', fun h => ?_⟩
      obtain ⟨S1, hS1⟩ := hih.2 fun h3 => h (by rw [hq, h3])
      exact ⟨S1, fun a ha => seen_next (step a ha) fun a' ha' => hS1 a' ha'⟩
    · refine ⟨fun h => absurd (List.cons.inj h).1 hq, fun _ => ⟨AS.mk [AObj.cells xs[j].row 27, AObj.cells ys[j].row 27] [] 0 0, fun a ha => seen_stop (by simp) ?_⟩⟩
      have q := b81_2 c d xs ys xs[j] ys[j] (Int.ofNat j) (xs.length : Int) n (ltT hlt) hi1 hi2 hcall (sameF hq) a ha
      exact q.weak (live' := [(6, .v (.bool false))]) fun l h => ⟨h.2.2.1, trivial⟩

theorem eq81 (c d : Cap) (hc : untok c = c) (hd : untok d = d) (xs ys : List Fm) (hb : xs.length < 9223372036854775808) (hf : ∀ x, x ∈ xs → Fit x) : Fr cfg 81 [.lst c (xs.map Fm.row), .lst d (ys.map Fm.row), .fn (.func 24) [] []] (.v (.bool (sameL' xs ys))) := by
  refine Fr.of_co rfl (by kernel_rfl) (Own.lst hc (Own.lst hd (Own.fun_ Own.nil))) (Co.path (by kernel_rfl) ?_)
  by_cases hl : ¬ xs.length = ys.length
  · have : sameL' xs ys = false := by unfold sameL'; simp; intro e; exact hl (by rw [e])
    rw [this]
    exact Evt.shift (Evt.of fun n => f81_2 c d xs ys n (beqF (by simp; omega)))
  replace hl := Classical.not_not.1 hl
  have hp : Evt fun n => ∀ x, x ∈ xs → ∀ y, y ∈ ys → ∀ S, (lower cfg (n + 60)).call 24 [x.av, y.av] S = some (.v (.bool (same x y)), S) := Evt.unshift (p := fun n => ∀ x, x ∈ xs → ∀ y, y ∈ ys → ∀ S, (lower cfg n).call 24 [x.av, y.av] S = some (.v (.bool (same x y)), S)) (Evt.mem xs fun x hx => Evt.mem ys fun y hy => same24 x (hf x hx) y)
  refine Evt.shift ((hp.and (Evt.big xs.length)).mono fun n hn => ?_)
  have L := eq81_loop c d xs ys n hb hl hn.1 xs.length 0 (n + 60 + 1) (by omega) (by omega) (by omega)
  simp only [List.drop_zero] at L
  have e1 : ((List.map Fm.row xs).length : Int) = (xs.length : Int) := by simp
  have k1 : ((↑(List.length (List.map Fm.row xs)) : Int) == (↑(List.length (List.map Fm.row ys)) : Int)) = true := beqT (by simp; omega)
  by_cases h : xs = ys
  · obtain ⟨γ, hγ⟩ := LoopIs.of (C := cfg) (c := codeAt (codeOf cfg.P 81) [1, 1, 0, 1, 0]) (k := n + 60 + 1) (hf := 81) (rd := none) (L := lower cfg (n + 60)) (L.1 h)
    have : sameL' xs ys = true := by unfold sameL'; simp [h]
    rw [this]
    refine f81_1 c d xs ys n γ k1 ?_
    rw [e1]; exact hγ
  · obtain ⟨S1, L1⟩ := L.2 h
    obtain ⟨γ, hγ⟩ := LoopIs.of (C := cfg) (c := codeAt (codeOf cfg.P 81) [1, 1, 0, 1, 0]) (k := n + 60 + 1) (hf := 81) (rd := none) (L := lower cfg (n + 60)) L1
    have : sameL' xs ys = false := by unfold sameL'; simp [h]
    rw [this]
    refine g81_1 c d xs ys S1 n γ k1 ?_
    rw [e1]; exact hγ
end Go.Proofs.YtamemdhmjglifaaGreatDoor
