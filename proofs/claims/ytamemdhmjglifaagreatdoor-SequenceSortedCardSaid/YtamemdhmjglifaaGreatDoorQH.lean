/- Chapter 12: merging, keys and their lists. -/
import Derived.Test.YtamemdhmjglifaaGreatDoorQG
import Derived.Test.YtamemdhmjglifaaGreatDoorQA
namespace Go.Proofs.YtamemdhmjglifaaGreatDoor
open Go.RowKit Go.AM
set_option maxRecDepth 100000
set_option linter.unusedVariables false
theorem own_eptr {l k : List AV} {b : Nat} (h : Go.AM.Own l) (hk : Go.AM.Own k) : Go.AM.Own (.eptr l b :: k) := hk.cons (by simp only [AV.old, h.below]) (by simp only [AV.shut, h.same])
theorem weak_acG {α : Type} {ρ : α → List AV} {sz : Nat} (h : RowA ρ sz) (xs : List α) : weakV (acG sz (xs.map ρ)) = lG ρ xs := by
  have h1 : ∀ rs : List (List AV), weakV (acG sz rs) = .lst .any (weakR rs) := fun rs => by cases rs with | nil => rfl | cons r rs => rfl
  rw [h1, h.weaks]
theorem cat_m (x y z : List (Nat × Nat)) (hb : x.length + y.length + z.length ≤ 2000) : Fr cM 112 [.lst .exact [[acG 8 ((x.map kd).map Kd.row)], [lE y], [lE z]]] (lE (x ++ y ++ z)) := by
  have h := of_weak' (C := cfg) (D := cM) (f := 112) (args := [.lst .exact [[acG 8 ((x.map kd).map Kd.row)], [lE y], [lE z]]]) (x := acO ((x.map kd ++ y.map kd ++ z.map kd).map Kd.row)) rfl ?_
  · rw [aK.weak_acO] at h
    rwa [show x.map kd ++ y.map kd ++ z.map kd = (x ++ y ++ z).map kd by simp] at h
  · have hw : weakL [.lst .exact [[acG 8 ((x.map kd).map Kd.row)], [lE y], [lE z]]] = [.lst .any [[lk (x.map kd)], [lk (y.map kd)], [lk (z.map kd)]]] := by
      show [weakV (.lst .exact _)] = _
      unfold weakV
      simp only [weakR, weakL, weak_acG aK, aK.weak_lG]
    rw [hw]
    exact cat3 _ _ _ (by simpa using hb)
theorem lend_lE (S : AS) (us : List (Nat × Nat)) : lend S (lE us) = some (lE us) := lend_own (Own.lG aK Own.nil)
theorem dg_app {us vs : List (Nat × Nat)} (hu : Dg us) (hv : Dg vs) : Dg (us ++ vs) := fun e he => by
  rcases List.mem_append.1 he with h | h
  · exact hu e h
  · exact hv e h

theorem merge80 (us vs : List (Nat × Nat)) (hb : us.length + vs.length ≤ 1000) (hu : Dg us) (hv : Dg vs) : Fr cM 80 [lE us, lE vs, CMP] (lE (mergeE us vs)) := by
  refine Fr.of_co rfl (by kernel_rfl) (Own.lG aK (Own.lG aK own_cmp)) (Co.path (by kernel_rfl) ?_)
  obtain ⟨us', vs', out', r1, r2, r3⟩ := loop80 (fun e => e ∈ us ++ vs) (us.length + vs.length) us vs [] rfl (by simp; omega) (fun e he => List.mem_append.2 (.inl he)) (fun e he => List.mem_append.2 (.inr he))
  have hd := dg_app hu hv
  have hcm := Evt.unshift (Evt.mem (us ++ vs) fun a ha => Evt.mem (us ++ vs) fun b hb => cmp113 a b (hd a ha) (hd b hb))
  have hl : out'.length + us'.length + vs'.length = us.length + vs.length := by simpa using r2
  have hcat := (cat_m out' us' vs' (by omega)).shift
  rw [r1, List.nil_append] at hcat
  refine Evt.shift (((hcm.and hcat).and (Evt.big (us.length + vs.length))).mono fun n hn => ?_)
  have L := r3 n (fun a b ha hb S => hn.1.1 a ha b hb S) (n + 60 + 1) (by have := hn.2; omega)
  obtain ⟨γ, hγ⟩ := LoopIs.of (C := cM) (c := codeAt (codeOf cM.P 80) [1, 1, 0, 0]) (k := n + 60 + 1) (hf := 80) (rd := none) (L := lower cM (n + 60)) L
  by_cases h0 : out' = []
  · subst h0
    exact f80n_1 (us.map kd) (vs.map kd) (us'.map kd) (vs'.map kd) ((mergeE us vs).map kd) n γ hγ hn.1.2 _ (lend_lE _ _)
  · have hc := hn.1.2
    rw [acG_kd h0] at hγ hc
    rw [acN_kd h0] at hγ
    exact f80t_1 (us.map kd) (vs.map kd) (us'.map kd) (vs'.map kd) ((mergeE us vs).map kd) (out'.map kd) out'.length n γ hγ hc _ (lend_lE _ _)

theorem first123 (e : Nat × Nat) : Fr cM 123 [(prF e).av, .eptr [.fn (.func 121) [] []] 0] (.tup [(dW e.1).av, .v (.int .i64 0)]) :=
  Fr.of_co rfl (by kernel_rfl) (Own.fm (own_eptr (Own.fun_ Own.nil) Own.nil)) (Co.path (by kernel_rfl) (Evt.shift (Evt.of fun n => f123_1 (ByteArray.mk #[]) (ByteArray.mk #[]) (dW e.1) [(chF e.2).row, nilFm.row] n _ (lend_own (Own.tup (Own.fm (Own.v Own.nil)) Own.nil)))))

theorem mapIdx_const {α β : Type} (f : α → β) (xs : List α) : xs.mapIdx (fun _ x => f x) = xs.map f := by
  refine List.ext_getElem? fun i => ?_
  simp

def l111 (es : List (Nat × Nat)) (j : Nat) (v : AV) : List (Nat × AV) := [(1, .v (.int .i64 1)), (6, v), (11, lP es), (12, .v (.int .i64 (((es.map prF).map Fm.row).length : Int))), (13, .v (.int .i64 (Int.ofNat j)))]
theorem lenP (es : List (Nat × Nat)) : (((es.map prF).map Fm.row).length : Int) = (es.length : Int) := by simp
theorem lenE (es : List (Nat × Nat)) : (((es.map kd).map Kd.row).length : Int) = (es.length : Int) := by simp

theorem ordered111 (es : List (Nat × Nat)) (hb : es.length ≤ 1000) : Fr cM 111 [lP es, .v (.int .i64 1)] (.tup [acO ((es.map kd).map Kd.row), .v (.int .i64 0)]) := by
  refine Fr.of_co rfl (by kernel_rfl) (Own.lG aF (Own.v Own.nil)) (Co.path (by kernel_rfl) ?_)
  have hf := Evt.unshift (Evt.mem es fun e _ => first123 e)
  refine Evt.shift ((hf.and (Evt.big es.length)).mono fun n hn => ?_)
  have L := fun a ha => gather (sz := 8) (f := aBody cM 111 (codeAt (codeOf cM.P 111) [1, 1, 0, 1, 0, 0]) 0 (aC cM (lower cM (n + 60)) (n + 60 + 1) 111 none (codeAt (codeOf cM.P 111) [1, 1, 0, 1, 0, 0]))) (N := 36) (mk := []) (xs := es) (fun _ e => kd e) (σ := Kd.row) (l111 es) (fun v => [(6, v)]) (.exit 0) (by simp) [] (by omega) ?_ ?_ ⟨?_, ?_⟩ es.length 0 [] (n + 60 + 1) (by omega) (by omega) (by have := hn.2; omega) (by simp) a ha
  · obtain ⟨γ, hγ⟩ := LoopIs.of (C := cM) (c := codeAt (codeOf cM.P 111) [1, 1, 0, 1, 0]) (k := n + 60 + 1) (hf := 111) (rd := none) (L := lower cM (n + 60)) L
    rw [List.drop_zero, List.nil_append, mapIdx_const] at hγ
    exact f111_1 (es.map prF) _ _ n γ hγ _ (lend_pair (aK.lend_acG _))
  · intro j e he a ha
    have hj : j < es.length := (List.getElem?_eq_some_iff.1 he).1
    have := a111_1 (es.map prF) (prF e) (dW e.1) _ (Int.ofNat j) n (by rw [lenP]; exact ltT hj) (tF.idx aF (by rw [List.getElem?_map, he]; rfl)) (hn.1 e (List.mem_of_getElem? he)) a ha
    rw [wrapS (by omega)] at this
    exact this
  · intro j e zs he hz a ha
    have hj : j < es.length := (List.getElem?_eq_some_iff.1 he).1
    have := b111_1 (es.map prF) (prF e) (dW e.1) zs (zs ++ [kd e]) zs.length (zs.length + 1) _ (Int.ofNat j) n (by rw [lenP]; exact ltT hj) (tF.idx aF (by rw [List.getElem?_map, he]; rfl)) (hn.1 e (List.mem_of_getElem? he)) (tK.append_tok aK (x := kd e) hz) a ha
    rw [wrapS (by omega)] at this
    exact this
  · intro a ha
    exact (a111_2 (es.map prF) nilFm nilFm _ (Int.ofNat es.length) n (by rw [lenP]; exact ltF (by omega)) a ha).weak fun l h => ⟨h.2.1, trivial⟩
  · intro zs a ha
    exact (b111_2 (es.map prF) nilFm nilFm zs [] zs.length 0 _ (Int.ofNat es.length) n (by rw [lenP]; exact ltF (by omega)) a ha).weak fun l h => ⟨h.2.1, trivial⟩

def l74 (es : List (Nat × Nat)) (j : Nat) (v : AV) : List (Nat × AV) := [(3, v), (6, lE es), (7, .v (.int .i64 (((es.map kd).map Kd.row).length : Int))), (8, .v (.int .i64 (Int.ofNat j)))]
theorem plain74 (es : List (Nat × Nat)) (hb : es.length ≤ 1000) : Fr cM 74 [lE es] (acO ((es.map prF).map Fm.row)) := by
  refine Fr.of_co rfl (by kernel_rfl) (Own.lG aK Own.nil) (Co.path (by kernel_rfl) (Evt.shift ((Evt.big es.length).mono fun n hn => ?_)))
  have L := fun a ha => gather (sz := 4) (f := aBody cM 74 (codeAt (codeOf cM.P 74) [1, 1, 0, 1, 0, 0]) 0 (aC cM (lower cM (n + 60)) (n + 60 + 1) 74 none (codeAt (codeOf cM.P 74) [1, 1, 0, 1, 0, 0]))) (N := 19) (mk := []) (xs := es) (fun _ e => prF e) (σ := Fm.row) (l74 es) (fun v => [(3, v)]) (.exit 0) (by simp) [] (by omega) ?_ ?_ ⟨?_, ?_⟩ es.length 0 [] (n + 60 + 1) (by omega) (by omega) (by omega) (by simp) a ha
  · obtain ⟨γ, hγ⟩ := LoopIs.of (C := cM) (c := codeAt (codeOf cM.P 74) [1, 1, 0, 1, 0]) (k := n + 60 + 1) (hf := 74) (rd := none) (L := lower cM (n + 60)) L
    rw [List.drop_zero, List.nil_append, mapIdx_const] at hγ
    exact f74_1 (es.map kd) _ _ n γ hγ _ (aF.lend_acG _)
  · intro j e he a ha
    have hj : j < es.length := (List.getElem?_eq_some_iff.1 he).1
    have := a74_1 (es.map kd) (kd e) _ (Int.ofNat j) n (by rw [lenE]; exact ltT hj) (tK.idx aK (x := kd e) (by rw [List.getElem?_map, he]; rfl)) a ha
    rw [wrapS (by omega)] at this
    exact this
  · intro j e zs he hz a ha
    have hj : j < es.length := (List.getElem?_eq_some_iff.1 he).1
    have := b74_1 (es.map kd) (kd e) zs (zs ++ [prF e]) zs.length (zs.length + 1) _ (Int.ofNat j) n (by rw [lenE]; exact ltT hj) (tK.idx aK (x := kd e) (by rw [List.getElem?_map, he]; rfl)) (tF.append_tok aF (x := prF e) hz) a ha
    rw [wrapS (by omega)] at this
    exact this
  · intro a ha
    exact (a74_2 (es.map kd) (kd (0, 0)) _ (Int.ofNat es.length) n (by rw [lenE]; exact ltF (by omega)) a ha).weak fun l h => ⟨h.1, trivial⟩
  · intro zs a ha
    exact (b74_2 (es.map kd) (kd (0, 0)) zs [] zs.length 0 _ (Int.ofNat es.length) n (by rw [lenE]; exact ltF (by omega)) a ha).weak fun l h => ⟨h.1, trivial⟩
end Go.Proofs.YtamemdhmjglifaaGreatDoor

/- Chapter 12: sorting and merging. -/
namespace Go.Proofs.YtamemdhmjglifaaGreatDoor
open Go.RowKit Go.AM
set_option maxRecDepth 100000
set_option linter.unusedVariables false
def sortE (es : List (Nat × Nat)) : List (Nat × Nat) := if h : es.length < 2 then es else mergeE (sortE (es.take (es.length / 2))) (sortE (es.drop (es.length / 2)))
termination_by es.length
decreasing_by
  · simp; omega
  · simp; omega
theorem mergeE_len (d : Nat) : ∀ us vs : List (Nat × Nat), us.length + vs.length = d → (mergeE us vs).length = d := by
  induction d with
  | zero =>
    intro us vs h
    obtain rfl : us = [] := List.eq_nil_of_length_eq_zero (by omega)
    rw [nil_mergeE]; simpa using h
  | succ d ih =>
    intro us vs h
    cases us with
    | nil => rw [nil_mergeE]; simpa using h
    | cons a us =>
      cases vs with
      | nil => rw [mergeE_nil]; simpa using h
      | cons b vs =>
        rw [mergeE_cc]
        split
        · rw [List.length_cons, ih (a :: us) vs (by simp at h ⊢; omega)]
        · rw [List.length_cons, ih us (b :: vs) (by simp at h ⊢; omega)]
theorem mergeE_mem (d : Nat) : ∀ us vs : List (Nat × Nat), us.length + vs.length = d → ∀ e, e ∈ mergeE us vs ↔ e ∈ us ∨ e ∈ vs := by
  induction d with
  | zero =>
    intro us vs h e
    obtain rfl : us = [] := List.eq_nil_of_length_eq_zero (by omega)
    rw [nil_mergeE]; simp
  | succ d ih =>
    intro us vs h e
    cases us with
    | nil => rw [nil_mergeE]; simp
    | cons a us =>
      cases vs with
      | nil => rw [mergeE_nil]; simp
      | cons b vs =>
        rw [mergeE_cc]
        split
        · rw [List.mem_cons, ih (a :: us) vs (by simp at h ⊢; omega) e]
          simp only [List.mem_cons]
          constructor
          · rintro (h | h | h) <;> simp [h]
          · rintro ((h | h) | h | h) <;> simp [h]
        · rw [List.mem_cons, ih us (b :: vs) (by simp at h ⊢; omega) e]
          simp only [List.mem_cons, or_assoc]
theorem sortE_mem (d : Nat) : ∀ es : List (Nat × Nat), es.length ≤ d → ∀ e, e ∈ sortE es ↔ e ∈ es := by
  induction d with
  | zero =>
    intro es h e
    obtain rfl : es = [] := List.eq_nil_of_length_eq_zero (by omega)
    rw [sortE, dif_pos (by simp)]
  | succ d ih =>
    intro es h e
    rw [sortE]
    split
    · rfl
    · rename_i h2
      rw [mergeE_mem _ _ _ rfl, ih _ (by simp; omega), ih _ (by simp; omega), ← List.mem_append, List.take_append_drop]
theorem sortE_len (d : Nat) : ∀ es : List (Nat × Nat), es.length ≤ d → (sortE es).length = es.length := by
  induction d with
  | zero =>
    intro es h
    obtain rfl : es = [] := List.eq_nil_of_length_eq_zero (by omega)
    rw [sortE, dif_pos (by simp)]
  | succ d ih =>
    intro es h
    rw [sortE]
    split
    · rfl
    · rename_i h2
      rw [mergeE_len _ _ _ rfl, ih _ (by simp; omega), ih _ (by simp; omega)]
      simp; omega
theorem sort_dg {es : List (Nat × Nat)} (h : Dg es) : Dg (sortE es) := fun e he => h e ((sortE_mem _ es (Nat.le_refl _) e).1 he)
theorem sort_len (es : List (Nat × Nat)) : (sortE es).length = es.length := sortE_len _ es (Nat.le_refl _)
theorem merge_len (us vs : List (Nat × Nat)) : (mergeE us vs).length = us.length + vs.length := mergeE_len _ us vs rfl
theorem merge_dg {us vs : List (Nat × Nat)} (h : Dg us) (k : Dg vs) : Dg (mergeE us vs) := fun e he => by
  rcases (mergeE_mem _ us vs rfl e).1 he with q | q
  · exact h e q
  · exact k e q

theorem weak_lE (us : List (Nat × Nat)) : weakV (lE us) = lE us := aK.weak_lG (us.map kd)
theorem weak_lP (us : List (Nat × Nat)) : weakV (lP us) = lP us := aF.weak_lG (us.map prF)
theorem weak_cmp : weakV CMP = CMP := rfl
theorem n80 (us vs : List (Nat × Nat)) (hb : us.length + vs.length ≤ 1000) (hu : Dg us) (hv : Dg vs) : Fr cN 80 [lE us, lE vs, CMP] (lE (mergeE us vs)) := by
  have := of_weak' (C := cM) (D := cN) (f := 80) (args := [lE us, lE vs, CMP]) rfl (by simp only [weakL, weak_lE, weak_cmp]; exact merge80 us vs hb hu hv)
  rwa [weak_lE] at this
theorem half_wrap (es : List (Nat × Nat)) (hb : es.length ≤ 1000) : IntKind.wrap IntKind.i64 (Int.tdiv (((es.map kd).map Kd.row).length : Int) 2) = Int.ofNat (es.length / 2) := by
  rw [lenE, show Int.tdiv (es.length : Int) 2 = Int.ofNat (es.length / 2) from by rfl]
  exact wrap_id (by simp; omega) (by simp; omega)

theorem sorted75 (d : Nat) : ∀ es : List (Nat × Nat), es.length ≤ d → es.length ≤ 1000 → Dg es → Fr cN 75 [lE es, CMP] (lE (sortE es)) := by
  induction d with
  | zero =>
    intro es h hb hd
    refine Fr.of_co rfl (by kernel_rfl) (Own.lG aK own_cmp) (Co.path (by kernel_rfl) (Evt.shift (Evt.of fun n => ?_)))
    rw [sortE, dif_pos (by omega)]
    exact f75_1 (es.map kd) [] [] [] [] [] 0 n (by rw [lenE]; exact decide_eq_true (by omega)) _ (lend_lE _ _)
  | succ d ih =>
    intro es h hb hd
    refine Fr.of_co rfl (by kernel_rfl) (Own.lG aK own_cmp) (Co.path (by kernel_rfl) ?_)
    rw [sortE]
    split
    · refine Evt.shift (Evt.of fun n => ?_)
      exact f75_1 (es.map kd) [] [] [] [] [] 0 n (by rw [lenE]; exact decide_eq_true (by omega)) _ (lend_lE _ _)
    · rename_i h2
      have d1 : Dg (es.take (es.length / 2)) := fun e he => hd e (List.mem_of_mem_take he)
      have d2 : Dg (es.drop (es.length / 2)) := fun e he => hd e (List.mem_of_mem_drop he)
      have i1 := ih (es.take (es.length / 2)) (by simp; omega) (by simp; omega) d1
      have i2 := ih (es.drop (es.length / 2)) (by simp; omega) (by simp; omega) d2
      have i3 := n80 (sortE (es.take (es.length / 2))) (sortE (es.drop (es.length / 2))) (by rw [sort_len, sort_len]; simp; omega) (sort_dg d1) (sort_dg d2)
      refine Evt.shift (((i1.shift.and i2.shift).and i3.shift).mono fun n hn => ?_)
      have s1 := tK.slice_to aK (es.map kd) (s := es.length / 2) (by simp; omega)
      have s2 := tK.slice_from aK (es.map kd) (s := es.length / 2) (by simp; omega)
      refine f75_2 (es.map kd) ((es.take (es.length / 2)).map kd) ((es.drop (es.length / 2)).map kd) ((sortE (es.take (es.length / 2))).map kd) ((sortE (es.drop (es.length / 2))).map kd) _ 0 n (by rw [lenE]; exact decide_eq_false (by omega)) ?_ hn.1.1 ?_ hn.1.2 hn.2 _ (lend_lE _ _)
      · rw [half_wrap es hb, List.map_take]; exact s1
      · rw [half_wrap es hb, List.map_drop]; exact s2
theorem sorted (es : List (Nat × Nat)) (hb : es.length ≤ 1000) (hd : Dg es) : Fr cN 75 [lE es, CMP] (lE (sortE es)) := sorted75 _ es (Nat.le_refl _) hb hd

/-! the keys -/
theorem own_2p (xs ys : List Fm) : Go.AM.Own [.lst .any [[la xs], [la ys]]] := own_lists (ls := [la xs, la ys]) (Own.lst rfl (Own.lst rfl Own.nil))
theorem n91 (us vs : List (Nat × Nat)) (hu : us.length ≤ 1000) (hv : vs.length ≤ 1000) : Fr cN 91 [.lst .exact [[lP us], [lP vs]]] (.v (.int .i64 0)) := by
  refine of_weak' (C := cfg) (D := cN) (f := 91) (args := [.lst .exact [[lP us], [lP vs]]]) (x := .v (.int .i64 0)) rfl ?_
  have hw : weakL [.lst .exact [[lP us], [lP vs]]] = [.lst .any [[lP us], [lP vs]]] := by
    show [weakV (.lst .exact _)] = _
    unfold weakV
    simp only [weakR, weakL, weak_lP]
  rw [hw]
  exact Fr.of_co rfl (by kernel_rfl) (own_2p (us.map prF) (vs.map prF)) (Co.path (by kernel_rfl) (Evt.shift (Evt.of fun n => ff91_3 .any (us.map prF) (vs.map prF) n (decide_eq_false (by simp; omega)) (decide_eq_false (by simp; omega)))))
theorem p84_1 (a : Int) (b : Int) (n : Nat) (h0 : decide (a ≥ 0) = true) : Path cfg 84 [AV.v (Value.int IntKind.i64 a), AV.v (Value.int IntKind.i64 b)] (AV.v (Value.bool (decide (a < b)))) (n + 60) :=
  Path.of (ds := [(2, Tell.b true)]) (cs := [decide (a ≥ 0) = true]) (x := AV.v (Value.bool (decide (a < b)))) (S2 := AS.mk [] [] 0 0) (by kernel_rfl) ⟨h0, trivial⟩ rfl -- Exit.ret
theorem n84 (a b : Int) (h0 : 0 ≤ a) (h1 : a < b) : Fr cN 84 [.v (.int .i64 a), .v (.int .i64 b)] (.v (.bool true)) := by
  have h : Fr cfg 84 [.v (.int .i64 a), .v (.int .i64 b)] (.v (.bool (decide (a < b)))) := Fr.of_co rfl (by kernel_rfl) (Own.v (Own.v Own.nil)) (Co.path (by kernel_rfl) (Evt.shift (Evt.of fun n => p84_1 a b n (decide_eq_true h0))))
  rw [decide_eq_true h1] at h
  exact of_weak' (C := cfg) (D := cN) (args := [.v (.int .i64 a), .v (.int .i64 b)]) rfl h
theorem n111 (us : List (Nat × Nat)) (hb : us.length ≤ 1000) : Fr cN 111 [lP us, .v (.int .i64 1)] (.tup [lE us, .v (.int .i64 0)]) := by
  have := of_weak' (C := cM) (D := cN) (f := 111) (args := [lP us, .v (.int .i64 1)]) (x := .tup [acO ((us.map kd).map Kd.row), .v (.int .i64 0)]) rfl (by simp only [weakL, weak_lP]; exact ordered111 us hb)
  have hw : weakV (.tup [acO ((us.map kd).map Kd.row), .v (.int .i64 0)]) = .tup [lE us, .v (.int .i64 0)] := by
    unfold weakV
    simp only [weakL, aK.weak_acO]
    rfl
  rwa [hw] at this
theorem n112 (us vs : List (Nat × Nat)) (hb : us.length + vs.length ≤ 2000) : Fr cN 112 [.lst .exact [[lE us], [lE vs]]] (lE (us ++ vs)) := by
  have h := of_weak' (C := cfg) (D := cN) (f := 112) (args := [.lst .exact [[lE us], [lE vs]]]) (x := acO ((us.map kd ++ vs.map kd).map Kd.row)) rfl ?_
  · rw [aK.weak_acO] at h
    rwa [show us.map kd ++ vs.map kd = (us ++ vs).map kd by simp] at h
  · have hw : weakL [.lst .exact [[lE us], [lE vs]]] = [.lst .any [[lk (us.map kd)], [lk (vs.map kd)]]] := by
      show [weakV (.lst .exact _)] = _
      unfold weakV
      simp only [weakR, weakL, aK.weak_lG]
    rw [hw]
    exact cat2 _ _ (by simpa using hb)

def l73 (us vs zs : List (Nat × Nat)) (j : Nat) : List (Nat × AV) := [(2, .v (.int .i64 0)), (8, lE us), (9, lE vs), (52, lE zs), (53, .v (.int .i64 (((zs.map kd).map Kd.row).length : Int))), (54, .v (.int .i64 (Int.ofNat j)))]
theorem cmpN_self (i : Nat) : cmpN i i = 0 := by unfold cmpN; rw [show Nat.blt i i = false from by cases h : Nat.blt i i with | false => rfl | true => exact absurd (Nat.blt_eq ▸ h) (Nat.lt_irrefl i)]; rfl
theorem loop73 (us vs zs : List (Nat × Nat)) (n : Nat) (hb : zs.length ≤ 2000) (hn : zs.length ≤ n) (hd : Dg zs) : ∀ a, In 75 [] (l73 us vs zs 0) a →
    Seen (aloop (aBody cN 73 (codeAt (codeOf cN.P 73) [1, 1, 1, 1, 1, 0, 1, 0, 0]) 0 (aC cN (lower cN (n + 60)) (n + 60 + 1) 73 none (codeAt (codeOf cN.P 73) [1, 1, 1, 1, 1, 0, 1, 0, 0]))) (n + 60 + 1) a (AS.mk [] [] 0 0)) (.exit 0) 75 [] [(8, lE us), (9, lE vs)] (AS.mk [] [] 0 0) := by
  refine seen_loop (l73 us vs zs) (fun _ => AS.mk [] [] 0 0) (i := 0) (m := zs.length) (by omega) (by omega) (by simp) (fun j _ hj a hin => ?_) (fun a hin => ?_)
  · have hz : zs[j]? = some zs[j] := List.getElem?_eq_getElem hj
    have hc : ∀ S, (lower cN (n + 60)).call 118 [(dW zs[j].1).av, (dW zs[j].1).av] S = some (.tup [.v (.int .i64 0), .v (.int .i64 0)], S) := fun S => by
      have := n118 zs[j].1 zs[j].1 (hd _ (List.getElem_mem hj)) (hd _ (List.getElem_mem hj)) n S
      rwa [cmpN_self] at this
    have := q73_1 (zs.map kd) (us.map kd) (vs.map kd) (kd zs[j]) _ (Int.ofNat j) n (by rw [lenE]; exact ltT hj) (tK.idx aK (x := kd zs[j]) (by rw [List.getElem?_map, hz]; rfl)) hc a hin
    rw [wrapS (by omega)] at this
    exact this
  · exact (q73_2 (zs.map kd) (us.map kd) (vs.map kd) (kd (0, 0)) _ (Int.ofNat zs.length) n (by rw [lenE]; exact ltF (by omega)) a hin).weak fun l h => ⟨h.2.1, h.2.2.1, trivial⟩
theorem own_tup3 (us vs : List (Nat × Nat)) : Go.AM.Own [.tup [lE us, lE vs, .v (.int .i64 0)]] := Own.tup (Own.lG aK (Own.lG aK (Own.v Own.nil))) Own.nil
theorem prepare73 (us vs : List (Nat × Nat)) (hu : us.length ≤ 1000) (hv : vs.length ≤ 1000) (du : Dg us) (dv : Dg vs) : Fr cN 73 [lP us, lP vs, .v (.int .i64 0), .v (.int .i64 1)] (.tup [lE us, lE vs, .v (.int .i64 0)]) := by
  refine Fr.of_co rfl (by kernel_rfl) (Own.lG aF (Own.lG aF (Own.v (Own.v Own.nil)))) (Co.path (by kernel_rfl) ?_)
  have hk := ((n91 us vs hu hv).shift.and (n84 0 3 (by omega) (by omega)).shift).and (((n84 1 4 (by omega) (by omega)).shift.and (n111 us hu).shift).and ((n111 vs hv).shift.and (n112 us vs (by omega)).shift))
  refine Evt.shift ((hk.and (Evt.big (us.length + vs.length))).mono fun n hn => ?_)
  have L := loop73 us vs (us ++ vs) n (by simp; omega) (by simp; exact hn.2) (dg_app du dv)
  obtain ⟨γ, hγ⟩ := LoopIs.of (C := cN) (c := codeAt (codeOf cN.P 73) [1, 1, 1, 1, 1, 0, 1, 0]) (k := n + 60 + 1) (hf := 73) (rd := none) (L := lower cN (n + 60)) L
  exact f73_1 (us.map prF) (vs.map prF) (us.map kd) (vs.map kd) ((us ++ vs).map kd) n γ hn.1.1.1 hn.1.1.2 hn.1.2.1.1 hn.1.2.1.2 hn.1.2.2.1 hn.1.2.2.2 hγ _ (lend_own (own_tup3 us vs))

/-! Sort and Merge -/
theorem o73 (us vs : List (Nat × Nat)) (hu : us.length ≤ 1000) (hv : vs.length ≤ 1000) (du : Dg us) (dv : Dg vs) : Fr cO 73 [lP us, lP vs, .v (.int .i64 0), .v (.int .i64 1)] (.tup [lE us, lE vs, .v (.int .i64 0)]) := by
  have := of_weak' (C := cN) (D := cO) (f := 73) (args := [lP us, lP vs, .v (.int .i64 0), .v (.int .i64 1)]) (x := .tup [lE us, lE vs, .v (.int .i64 0)]) rfl (by simp only [weakL, weak_lP]; exact prepare73 us vs hu hv du dv)
  have hw : weakV (.tup [lE us, lE vs, .v (.int .i64 0)]) = .tup [lE us, lE vs, .v (.int .i64 0)] := by
    unfold weakV
    simp only [weakL, weak_lE]
    rfl
  rwa [hw] at this
theorem o73n (us : List (Nat × Nat)) (hu : us.length ≤ 1000) (du : Dg us) : Fr cO 73 [lP us, .v (.slice none 0 0), .v (.int .i64 0), .v (.int .i64 1)] (.tup [lE us, .lst .any [], .v (.int .i64 0)]) := by
  have := of_weak' (C := cN) (D := cO) (f := 73) (args := [lP us, .v (.slice none 0 0), .v (.int .i64 0), .v (.int .i64 1)]) (x := .tup [lE us, lE [], .v (.int .i64 0)]) rfl (by simp only [weakL, weak_lP]; exact prepare73 us [] hu (by simp) du (fun e he => by cases he))
  have hw : weakV (.tup [lE us, lE [], .v (.int .i64 0)]) = .tup [lE us, .lst .any [], .v (.int .i64 0)] := by
    unfold weakV
    simp only [weakL, weak_lE]
    rfl
  rwa [hw] at this
theorem o75 (us : List (Nat × Nat)) (hb : us.length ≤ 1000) (hu : Dg us) : Fr cO 75 [lE us, CMP] (lE (sortE us)) := by
  have := of_weak' (C := cN) (D := cO) (f := 75) (args := [lE us, CMP]) rfl (by simp only [weakL, weak_lE, weak_cmp]; exact sorted us hb hu)
  rwa [weak_lE] at this
theorem o80 (us vs : List (Nat × Nat)) (hb : us.length + vs.length ≤ 1000) (hu : Dg us) (hv : Dg vs) : Fr cO 80 [lE us, lE vs, CMP] (lE (mergeE us vs)) := by
  have := of_weak' (C := cM) (D := cO) (f := 80) (args := [lE us, lE vs, CMP]) rfl (by simp only [weakL, weak_lE, weak_cmp]; exact merge80 us vs hb hu hv)
  rwa [weak_lE] at this
theorem o74 (us : List (Nat × Nat)) (hb : us.length ≤ 1000) : Fr cO 74 [lE us] (lP us) := by
  have := of_weak' (C := cM) (D := cO) (f := 74) (args := [lE us]) rfl (by simp only [weakL, weak_lE]; exact plain74 us hb)
  rwa [aF.weak_acO] at this
theorem o76 : Fr cO 76 [.v (.int .i64 0)] CMP :=
  Fr.of_co rfl (by kernel_rfl) (Own.v Own.nil) (Co.path (by kernel_rfl) (Evt.shift (Evt.of fun n => f76_1 n _ (by rfl))))
theorem lend_tP (S : AS) (us : List (Nat × Nat)) : lend S (.tup [lP us, .v (.int .i64 0)]) = some (.tup [lP us, .v (.int .i64 0)]) := lend_own (Own.tup (Own.lG aF (Own.v Own.nil)) Own.nil)
theorem sort15 (us : List (Nat × Nat)) (hb : us.length ≤ 1000) (hd : Dg us) : Fr cO 15 [lP us, .v (.int .i64 0), .v (.int .i64 1)] (.tup [lP (sortE us), .v (.int .i64 0)]) := by
  refine Fr.of_co rfl (by kernel_rfl) (Own.lG aF (Own.v (Own.v Own.nil))) (Co.path (by kernel_rfl) ?_)
  have hk := ((o73n us hb hd).shift.and o76.shift).and ((o75 us hb hd).shift.and (o74 (sortE us) (by rw [sort_len]; exact hb)).shift)
  refine Evt.shift (hk.mono fun n hn => ?_)
  exact f15_1 (us.map prF) ((sortE us).map prF) (us.map kd) ((sortE us).map kd) n hn.1.1 hn.1.2 hn.2.1 hn.2.2 _ (lend_tP _ _)
theorem merge17 (us vs : List (Nat × Nat)) (hb : us.length + vs.length ≤ 1000) (du : Dg us) (dv : Dg vs) : Fr cO 17 [lP us, lP vs, .v (.int .i64 0), .v (.int .i64 1)] (.tup [lP (mergeE us vs), .v (.int .i64 0)]) := by
  refine Fr.of_co rfl (by kernel_rfl) (Own.lG aF (Own.lG aF (Own.v (Own.v Own.nil)))) (Co.path (by kernel_rfl) ?_)
  have hk := ((o73 us vs (by omega) (by omega) du dv).shift.and o76.shift).and ((o80 us vs hb du dv).shift.and (o74 (mergeE us vs) (by rw [merge_len]; exact hb)).shift)
  refine Evt.shift (hk.mono fun n hn => ?_)
  refine f17_2 (us.map prF) (vs.map prF) ((mergeE us vs).map prF) (us.map kd) (vs.map kd) ((mergeE us vs).map kd) n hn.1.1 ?_ hn.1.2 hn.2.1 hn.2.2 _ (lend_tP _ _)
  rw [lenE, lenE, ← Int.natCast_add, wrapNat (by omega)]
  exact decide_eq_false (by omega)
end Go.Proofs.YtamemdhmjglifaaGreatDoor

/- Chapter 12: pairs as they are built. -/
namespace Go.Proofs.YtamemdhmjglifaaGreatDoor
open Go.RowKit Go.AM
/-- A pair of a digit and its place. -/
def pR (e : Nat × Nat) : List AV := [.v (.int .i64 (Int.ofNat 10)), .v (.string (ByteArray.mk #[])), .v (.string (ByteArray.mk #[])), .lst .exact [(dW e.1).row, [.v (.int .i64 (Int.ofNat 7)), .v (.string (Utf8.encode (IntKind.wrap IntKind.i32 (97 + IntKind.wrap IntKind.i32 (Int.ofNat e.2))))), .v (.string (ByteArray.mk #[])), .v (.slice none 0 0)], [.v (.int .i64 (Int.ofNat 1)), .v (.string (ByteArray.mk #[78, 73, 76])), .v (.string (ByteArray.mk #[67, 79, 77, 77, 79, 78, 45, 76, 73, 83, 80])), .v (.slice none 0 0)]]]
@[simp] theorem below_pR (n : Nat) (e : Nat × Nat) : belowAll n (pR e) = true := by simp [pR, belowAll, belowRows, AV.old, Fm.row, Fm.belowRows_rows]
@[simp] theorem below_pRs (n : Nat) : ∀ zs : List (Nat × Nat), belowRows n (zs.map pR) = true
  | [] => rfl
  | z :: zs => by simp only [List.map_cons, belowRows, below_pRs n zs, below_pR]; rfl
end Go.Proofs.YtamemdhmjglifaaGreatDoor

/- Chapter 12: digits with their places. -/
namespace Go.Proofs.YtamemdhmjglifaaGreatDoor
open Go.RowKit Go.AM
set_option maxRecDepth 100000
set_option linter.unusedVariables false
theorem a20_1 (ds : List Fm) (d : Fm) (m : Int) (i : Int) (s : ByteArray) (n : Nat) (h0 : decide (i < m) = true) (c1 : aindexAddr (Cfg.P cM) 22 (AV.lst Cap.any (List.map Fm.row ds)) (AV.v (Value.int IntKind.i64 i)) = some (AV.eptr (Fm.row d) 0)) (a : AAct) (ha : In 28 [] [(3, AV.v (Value.slice none 0 0)), (7, AV.lst Cap.any (List.map Fm.row ds)), (8, AV.v (Value.int IntKind.i64 m)), (9, AV.v (Value.int IntKind.i64 i))] a) : Seen (aBody cM 20 (codeAt (codeOf cM.P 20) [1, 1, 0, 1, 0, 0]) 0 (aC cM (lower cM (n + 60)) (n + 60 + 1) 20 none (codeAt (codeOf cM.P 20) [1, 1, 0, 1, 0, 0])) a (AS.mk [] [] 0 0)) (Exit.normal) 28 [] [(3, AV.lst (Cap.tok 0 1 4) [[AV.v (Value.int IntKind.i64 (Int.ofNat 10)), AV.v (Value.string (ByteArray.mk #[])), AV.v (Value.string (ByteArray.mk #[])), AV.lst Cap.exact [(Fm.row d), [AV.v (Value.int IntKind.i64 (Int.ofNat 7)), AV.v (Value.string (Utf8.encode (IntKind.wrap IntKind.i32 (97 + IntKind.wrap IntKind.i32 i)))), AV.v (Value.string (ByteArray.mk #[])), AV.v (Value.slice none 0 0)], [AV.v (Value.int IntKind.i64 (Int.ofNat 1)), AV.v (Value.string (ByteArray.mk #[78, 73, 76])), AV.v (Value.string (ByteArray.mk #[67, 79, 77, 77, 79, 78, 45, 76, 73, 83, 80])), AV.v (Value.slice none 0 0)]]]]), (7, AV.lst Cap.any (List.map Fm.row ds)), (8, AV.v (Value.int IntKind.i64 m)), (9, AV.v (Value.int IntKind.i64 (IntKind.wrap IntKind.i64 (i + 1))))] (AS.mk [] [1] 0 0) :=
  segB_ok (ds := [(1, Tell.b true), (1, Tell.fr (AV.eptr (Fm.row d) 0)), (19, Tell.b true)]) (cs := [decide (i < m) = true, frP (aindexAddr (Cfg.P cM) 22 (AV.lst Cap.any (List.map Fm.row ds)) (AV.v (Value.int IntKind.i64 i))) (AV.eptr (Fm.row d) 0), trimB 0 [AV.lst (Cap.tok 0 1 4) [[AV.v (Value.int IntKind.i64 (Int.ofNat 10)), AV.v (Value.string (ByteArray.mk #[])), AV.v (Value.string (ByteArray.mk #[])), AV.lst Cap.exact [(Fm.row d), [AV.v (Value.int IntKind.i64 (Int.ofNat 7)), AV.v (Value.string (Utf8.encode (IntKind.wrap IntKind.i32 (97 + IntKind.wrap IntKind.i32 i)))), AV.v (Value.string (ByteArray.mk #[])), AV.v (Value.slice none 0 0)], [AV.v (Value.int IntKind.i64 (Int.ofNat 1)), AV.v (Value.string (ByteArray.mk #[78, 73, 76])), AV.v (Value.string (ByteArray.mk #[67, 79, 77, 77, 79, 78, 45, 76, 73, 83, 80])), AV.v (Value.slice none 0 0)]]]], AV.lst Cap.any (List.map Fm.row ds), AV.v (Value.int IntKind.i64 m), AV.v (Value.int IntKind.i64 (IntKind.wrap IntKind.i64 (i + 1)))] [] [] 1 = true]) (ws := [3, 7, 8, 9]) (ds' := []) ha (fun g => by kernel_rfl) ⟨h0, (fr_of c1), (by simp [trimB, objOld, belowAll, belowRows, AV.old, Fm.row, Fm.av, Fm.belowRows_rows, Fm.belowRows_map, Nat.ble]), trivial⟩
theorem a20_2 (ds : List Fm) (d : Fm) (m : Int) (i : Int) (s : ByteArray) (n : Nat) (h0 : decide (i < m) = false) (a : AAct) (ha : In 28 [] [(3, AV.v (Value.slice none 0 0)), (7, AV.lst Cap.any (List.map Fm.row ds)), (8, AV.v (Value.int IntKind.i64 m)), (9, AV.v (Value.int IntKind.i64 i))] a) : Seen (aBody cM 20 (codeAt (codeOf cM.P 20) [1, 1, 0, 1, 0, 0]) 0 (aC cM (lower cM (n + 60)) (n + 60 + 1) 20 none (codeAt (codeOf cM.P 20) [1, 1, 0, 1, 0, 0])) a (AS.mk [] [] 0 0)) (Exit.exit 0) 28 [] [(3, AV.v (Value.slice none 0 0)), (7, AV.lst Cap.any (List.map Fm.row ds)), (8, AV.v (Value.int IntKind.i64 m)), (9, AV.v (Value.int IntKind.i64 i))] (AS.mk [] [] 0 0) :=
  segB_ok (ds := [(1, Tell.b false)]) (cs := [decide (i < m) = false]) (ws := [3, 7, 8, 9]) (ds' := []) ha (fun g => by kernel_rfl) ⟨h0, trivial⟩
theorem b20_1 (ds : List Fm) (d : Fm) (m : Int) (i : Int) (s : ByteArray) (zs : List (Nat × Nat)) (ws : List (Nat × Nat)) (k : Nat) (ka : Nat) (n : Nat) (h0 : decide (i < m) = true) (c1 : aindexAddr (Cfg.P cM) 22 (AV.lst Cap.any (List.map Fm.row ds)) (AV.v (Value.int IntKind.i64 i)) = some (AV.eptr (Fm.row d) 0)) (c2 : aappend (Cfg.P cM) false (AS.mk [AObj.cells (Fm.row d) 27] [k] 0 0) 22 (AV.lst (Cap.tok 0 k 4) (List.map pR zs)) (AV.lst Cap.exact [[AV.v (Value.int IntKind.i64 (Int.ofNat 10)), AV.v (Value.string (ByteArray.mk #[])), AV.v (Value.string (ByteArray.mk #[])), AV.lst Cap.exact [(Fm.row d), [AV.v (Value.int IntKind.i64 (Int.ofNat 7)), AV.v (Value.string (Utf8.encode (IntKind.wrap IntKind.i32 (97 + IntKind.wrap IntKind.i32 i)))), AV.v (Value.string (ByteArray.mk #[])), AV.v (Value.slice none 0 0)], [AV.v (Value.int IntKind.i64 (Int.ofNat 1)), AV.v (Value.string (ByteArray.mk #[78, 73, 76])), AV.v (Value.string (ByteArray.mk #[67, 79, 77, 77, 79, 78, 45, 76, 73, 83, 80])), AV.v (Value.slice none 0 0)]]]]) = some (AV.lst (Cap.tok 0 ka 4) (List.map pR ws), AS.mk [AObj.cells (Fm.row d) 27] [ka] 0 0)) (a : AAct) (ha : In 28 [] [(3, AV.lst (Cap.tok 0 k 4) (List.map pR zs)), (7, AV.lst Cap.any (List.map Fm.row ds)), (8, AV.v (Value.int IntKind.i64 m)), (9, AV.v (Value.int IntKind.i64 i))] a) : Seen (aBody cM 20 (codeAt (codeOf cM.P 20) [1, 1, 0, 1, 0, 0]) 0 (aC cM (lower cM (n + 60)) (n + 60 + 1) 20 none (codeAt (codeOf cM.P 20) [1, 1, 0, 1, 0, 0])) a (AS.mk [] [k] 0 0)) (Exit.normal) 28 [] [(3, AV.lst (Cap.tok 0 ka 4) (List.map pR ws)), (7, AV.lst Cap.any (List.map Fm.row ds)), (8, AV.v (Value.int IntKind.i64 m)), (9, AV.v (Value.int IntKind.i64 (IntKind.wrap IntKind.i64 (i + 1))))] (AS.mk [] [ka] 0 0) :=
  segB_ok (ds := [(1, Tell.b true), (1, Tell.fr (AV.eptr (Fm.row d) 0)), (15, Tell.op (AV.lst (Cap.tok 0 ka 4) (List.map pR ws)) (AS.mk [AObj.cells (Fm.row d) 27] [ka] 0 0)), (3, Tell.b true)]) (cs := [decide (i < m) = true, frP (aindexAddr (Cfg.P cM) 22 (AV.lst Cap.any (List.map Fm.row ds)) (AV.v (Value.int IntKind.i64 i))) (AV.eptr (Fm.row d) 0), aappend (Cfg.P cM) false (AS.mk [AObj.cells (Fm.row d) 27] [k] 0 0) 22 (AV.lst (Cap.tok 0 k 4) (List.map pR zs)) (AV.lst Cap.exact [[AV.v (Value.int IntKind.i64 (Int.ofNat 10)), AV.v (Value.string (ByteArray.mk #[])), AV.v (Value.string (ByteArray.mk #[])), AV.lst Cap.exact [(Fm.row d), [AV.v (Value.int IntKind.i64 (Int.ofNat 7)), AV.v (Value.string (Utf8.encode (IntKind.wrap IntKind.i32 (97 + IntKind.wrap IntKind.i32 i)))), AV.v (Value.string (ByteArray.mk #[])), AV.v (Value.slice none 0 0)], [AV.v (Value.int IntKind.i64 (Int.ofNat 1)), AV.v (Value.string (ByteArray.mk #[78, 73, 76])), AV.v (Value.string (ByteArray.mk #[67, 79, 77, 77, 79, 78, 45, 76, 73, 83, 80])), AV.v (Value.slice none 0 0)]]]]) = some (AV.lst (Cap.tok 0 ka 4) (List.map pR ws), AS.mk [AObj.cells (Fm.row d) 27] [ka] 0 0), trimB 0 [AV.lst (Cap.tok 0 ka 4) (List.map pR ws), AV.lst Cap.any (List.map Fm.row ds), AV.v (Value.int IntKind.i64 m), AV.v (Value.int IntKind.i64 (IntKind.wrap IntKind.i64 (i + 1)))] [] [] 1 = true]) (ws := [3, 7, 8, 9]) (ds' := []) ha (fun g => by kernel_rfl) ⟨h0, (fr_of c1), c2, (by simp [trimB, objOld, belowAll, belowRows, AV.old, Fm.row, Fm.av, Fm.belowRows_rows, Fm.belowRows_map, Nat.ble]), trivial⟩
theorem b20_2 (ds : List Fm) (d : Fm) (m : Int) (i : Int) (s : ByteArray) (zs : List (Nat × Nat)) (ws : List (Nat × Nat)) (k : Nat) (ka : Nat) (n : Nat) (h0 : decide (i < m) = false) (a : AAct) (ha : In 28 [] [(3, AV.lst (Cap.tok 0 k 4) (List.map pR zs)), (7, AV.lst Cap.any (List.map Fm.row ds)), (8, AV.v (Value.int IntKind.i64 m)), (9, AV.v (Value.int IntKind.i64 i))] a) : Seen (aBody cM 20 (codeAt (codeOf cM.P 20) [1, 1, 0, 1, 0, 0]) 0 (aC cM (lower cM (n + 60)) (n + 60 + 1) 20 none (codeAt (codeOf cM.P 20) [1, 1, 0, 1, 0, 0])) a (AS.mk [] [k] 0 0)) (Exit.exit 0) 28 [] [(3, AV.lst (Cap.tok 0 k 4) (List.map pR zs)), (7, AV.lst Cap.any (List.map Fm.row ds)), (8, AV.v (Value.int IntKind.i64 m)), (9, AV.v (Value.int IntKind.i64 i))] (AS.mk [] [k] 0 0) :=
  segB_ok (ds := [(1, Tell.b false)]) (cs := [decide (i < m) = false]) (ws := [3, 7, 8, 9]) (ds' := []) ha (fun g => by kernel_rfl) ⟨h0, trivial⟩
theorem f20_1 (bs : List (List AV)) (ds : List Fm) (v : AV) (es : List Nat) (n : Nat) (γ0 : AAct → Nat → AV) (c0 : ∀ (S : AS), Lw.call (lower cM (n + 60)) 63 [AV.lst Cap.any bs, AV.v (Value.int IntKind.i64 (Int.ofNat 4))] S = some (AV.lst Cap.any (List.map Fm.row ds), S)) (l1 : LoopIs cM (lower cM (n + 60)) (n + 60 + 1) 20 none (codeAt (codeOf (Cfg.P cM) 20) [1, 1, 0, 1, 0]) 28 [] [(3, AV.v (Value.slice none 0 0)), (7, AV.lst Cap.any (List.map Fm.row ds)), (8, AV.v (Value.int IntKind.i64 (↑(List.length (List.map Fm.row ds)) : Int))), (9, AV.v (Value.int IntKind.i64 (Int.ofNat 0)))] (AS.mk [] [] 0 0) (Exit.exit 0) [(3, v)] (AS.mk [] es 0 0) γ0) (y : AV) (hy : lend (AS.mk [] es 0 0) (v) = some y) : Path cM 20 [AV.lst Cap.any bs] y (n + 60) :=
  Path.of (ds := [(3, Tell.fr (AV.lst Cap.any (List.map Fm.row ds))), (2, Tell.lp [3, 7, 8, 9] (Exit.exit 0) [(3, v)] (AS.mk [] es 0 0) γ0)]) (cs := [∀ (S : AS), Lw.call (lower cM (n + 60)) 63 [AV.lst Cap.any bs, AV.v (Value.int IntKind.i64 (Int.ofNat 4))] S = some (AV.lst Cap.any (List.map Fm.row ds), S), LoopIs cM (lower cM (n + 60)) (n + 60 + 1) 20 none (codeAt (codeOf (Cfg.P cM) 20) [1, 1, 0, 1, 0]) 28 [] [(3, AV.v (Value.slice none 0 0)), (7, AV.lst Cap.any (List.map Fm.row ds)), (8, AV.v (Value.int IntKind.i64 (↑(List.length (List.map Fm.row ds)) : Int))), (9, AV.v (Value.int IntKind.i64 (Int.ofNat 0)))] (AS.mk [] [] 0 0) (Exit.exit 0) [(3, v)] (AS.mk [] es 0 0) γ0]) (x := v) (S2 := AS.mk [] es 0 0) (by kernel_rfl) ⟨c0, l1, trivial⟩ hy -- Exit.ret

/-- The digit of a byte. -/
def dgt (b : Int) : Nat := b.toNat % 4
def sQ (b : Int) : ByteArray := Utf8.encode (IntKind.wrap IntKind.i32 (48 + IntKind.wrap IntKind.i32 (Int.tmod (IntKind.wrap IntKind.i64 b) (Int.ofNat 4))))
def qR (b : Int) : List AV := [.v (.int .i64 2), .v (.string (sQ b)), .v (.string (ByteArray.mk #[])), .v (.slice none 0 0)]
theorem dgt_lt (b : Int) : dgt b < 4 := Nat.mod_lt _ (by decide)
theorem sQ_eq {b : Int} (h0 : 0 ≤ b) (h1 : b < 256) : sQ b = ⟨⟨[(48 + dgt b).toUInt8]⟩⟩ := by
  have e : Int.tmod (IntKind.wrap IntKind.i64 b) (Int.ofNat 4) = (dgt b : Int) := by
    rw [wrap_id (by omega) (by omega), Int.tmod_eq_emod_of_nonneg h0]
    unfold dgt
    have : (b.toNat : Int) = b := Int.toNat_of_nonneg h0
    rw [Int.natCast_emod, this]
    rfl
  unfold sQ
  rw [e]
  have hd := dgt_lt b
  generalize dgt b = d at *
  match d, hd with
  | 0, _ => rfl
  | 1, _ => rfl
  | 2, _ => rfl
  | 3, _ => rfl
theorem weak_qR {b : Int} (h0 : 0 ≤ b) (h1 : b < 256) : weakL (qR b) = (dW (dgt b)).row := by
  unfold qR
  rw [sQ_eq h0 h1]
  rfl
theorem qR_four {bs : List Int} : ∀ z ∈ bs.map qR, z.length = 4 := fun z hz => by obtain ⟨b, _, rfl⟩ := List.mem_map.1 hz; rfl
def l4s (c : Cap) (bs : List Int) (j : Nat) : List (Nat × AV) := [(1, .v (.int .i64 4)), (5, acV ((bs.take j).map qR)), (8, .lst c (bs.map bR)), (9, .v (.int .i64 (bs.length : Int))), (10, .v (.int .i64 (Int.ofNat j)))]

theorem loop4s (c : Cap) (bs : List Int) (n : Nat) (hb : bs.length ≤ 2000) (hn : bs.length ≤ n) : ∀ a, In 27 [] (l4s c bs 0) a →
    Seen (aloop (aBody cfg 63 (codeAt (codeOf cfg.P 63) [1, 1, 0, 1, 0, 0]) 0 (aC cfg (lower cfg (n + 60)) (n + 60 + 1) 63 none (codeAt (codeOf cfg.P 63) [1, 1, 0, 1, 0, 0]))) (n + 60 + 1) a (AS.mk [] [] 0 0)) (.exit 0) 27 [] [(5, acV (bs.map qR))] (AS.mk [] (acE (bs.map qR)) 0 0) := by
  refine seen_loop (l4s c bs) (fun j => AS.mk [] (acE ((bs.take j).map qR)) 0 0) (i := 0) (m := bs.length) (by omega) (by omega) (by simp) (fun j _ hj a ha => ?_) (fun a ha => ?_)
  · have hidx : aindexAddr cfg.P 34 (.lst c (bs.map bR)) (.v (.int .i64 (Int.ofNat j))) = some (.eptr (bR bs[j]) 0) :=
      idx (e := 5) (by kernel_rfl) (Int.natCast_nonneg j) (by simp only [Int.ofNat_eq_natCast, Int.toNat_natCast, List.getElem?_map, List.getElem?_eq_getElem hj]; rfl) (by kernel_rfl)
    have hnext : (bs.take j).map qR ++ [qR bs[j]] = (bs.take (j + 1)).map qR := by rw [List.take_add_one, List.getElem?_eq_getElem hj, List.map_append]; rfl
    by_cases h0 : (bs.take j).map qR = []
    · have hj0 : j = 0 := by simp at h0; rcases h0 with h0 | h0; · exact h0
                             · subst h0; simp at hj
      subst hj0
      have step := a4s_1 c (bs.map bR) bs[0] _ .empty 0 n (decide_eq_true (by simp; omega)) hidx a ha
      rw [h0, List.nil_append] at hnext
      unfold l4s
      rw [← hnext]
      exact step
    · have hl : ((bs.take j).map qR).length = j := by simp; omega
      have hap := append_tok (o := []) (a := 0) (b := 0) (zs := (bs.take j).map qR) (r := qR bs[j]) qR_four rfl rfl (by omega)
      rw [hnext] at hap
      unfold l4s at ha ⊢
      rw [acV_ne h0] at ha
      have step := b4s_1 c (bs.map bR) bs[j] _ _ _ .empty _ _ (Int.ofNat j) n (ltT hj) hidx hap a ha
      rw [wrapS (by omega)] at step
      have h1 : (bs.take (j + 1)).map qR ≠ [] := by rw [← hnext]; simp
      have hl1 : ((bs.take (j + 1)).map qR).length = ((bs.take j).map qR).length + 1 := by rw [← hnext]; simp
      rw [acE_ne h0, acE_ne h1, acV_ne h1, hl1]
      exact step
  · rw [show (l4s c bs bs.length) = [(1, .v (.int .i64 4)), (5, acV (bs.map qR)), (8, .lst c (bs.map bR)), (9, .v (.int .i64 (bs.length : Int))), (10, .v (.int .i64 (Int.ofNat bs.length)))] by unfold l4s; rw [List.take_length]] at ha
    rw [List.take_length]
    by_cases h0 : bs.map qR = []
    · rw [h0] at ha ⊢
      exact (a4s_2 c (bs.map bR) 0 _ .empty _ n (ltF (by omega)) a ha).weak fun l h => ⟨h.2.1, trivial⟩
    · rw [acV_ne h0] at ha
      rw [acV_ne h0, acE_ne h0]
      exact (b4s_2 c (bs.map bR) 0 _ _ [] .empty _ 0 _ n (ltF (by omega)) a ha).weak fun l h => ⟨h.2.1, trivial⟩
theorem below_qR : ∀ bs : List Int, belowRows 0 (bs.map qR) = true
  | [] => rfl
  | b :: bs => by simp only [List.map_cons, belowRows, below_qR bs]; rfl
theorem seal_qR : ∀ bs : List Int, sealRows 0 (bs.map qR) = bs.map qR
  | [] => rfl
  | b :: bs => by simp only [List.map_cons, sealRows, seal_qR bs]; rfl
def By (bs : List Int) : Prop := ∀ b ∈ bs, 0 ≤ b ∧ b < 256
abbrev qF (b : Int) : Fm := dW (dgt b)
theorem small4 (c : Cap) (hc : untok c = c) (bs : List Int) (hb : bs.length ≤ 2000) (hw : By bs) : ∃ v, Fr cfg 63 [.lst c (bs.map bR), .v (.int .i64 4)] v ∧ weakV v = la (bs.map qF) := by
  refine ⟨acL (bs.map qR), Fr.of_co rfl (by kernel_rfl) (Own.bytes hc (Own.v Own.nil)) (Co.path (by kernel_rfl) (Evt.shift ((Evt.big bs.length).mono fun n hn => ?_))), (weak_acL _).trans ?_⟩
  · have L := loop4s c bs n hb hn
    obtain ⟨γ, hγ⟩ := LoopIs.of (C := cfg) (c := codeAt (codeOf cfg.P 63) [1, 1, 0, 1, 0]) (k := n + 60 + 1) (hf := 63) (rd := none) (L := lower cfg (n + 60)) L
    refine f4s_1 c (bs.map bR) (acV (bs.map qR)) (acE (bs.map qR)) n γ ?_ _ (lend_ac (below_qR bs) (seal_qR bs))
    rw [List.length_map]
    exact hγ
  · rw [weakR_map]
    unfold la
    simp only [List.map_map]
    exact congrArg _ (List.map_congr_left fun b h => weak_qR (hw b h).1 (hw b h).2)

/-! pairs -/
theorem weak_bR' : ∀ bs : List Int, weakR (bs.map bR) = bs.map bR
  | [] => rfl
  | b :: bs => by simp only [List.map_cons, weakR, weak_bR' bs]; rfl
theorem m63 (bs : List Int) (hb : bs.length ≤ 2000) (hw : By bs) : Fr cM 63 [.lst .any (bs.map bR), .v (.int .i64 4)] (la (bs.map qF)) := by
  obtain ⟨v, h1, h2⟩ := small4 .any rfl bs hb hw
  have := of_weak' (C := cfg) (D := cM) (f := 63) (args := [.lst .any (bs.map bR), .v (.int .i64 4)]) (x := v) rfl ?_
  · rwa [h2] at this
  · have e : weakL [.lst .any (bs.map bR), .v (.int .i64 4)] = [.lst .any (bs.map bR), .v (.int .i64 4)] := by
      show [weakV (.lst .any _), _] = _
      unfold weakV
      rw [weak_bR']
    rw [e]; exact h1
def prs (bs : List Int) : List (Nat × Nat) := bs.mapIdx fun i b => (dgt b, i)
theorem prs_len (bs : List Int) : (prs bs).length = bs.length := by simp [prs]
theorem prs_dg (bs : List Int) : Dg (prs bs) := fun e he => by
  obtain ⟨i, h, rfl⟩ := List.mem_mapIdx.1 he
  exact dgt_lt _
theorem weak_pR (e : Nat × Nat) : weakL (pR e) = (prF e).row := by
  obtain ⟨d, i⟩ := e
  rfl
theorem pR_four (zs : List (Nat × Nat)) : ∀ z ∈ zs.map pR, z.length = 4 := fun z hz => by obtain ⟨b, _, rfl⟩ := List.mem_map.1 hz; rfl
theorem pR_one (e : Nat × Nat) : (pR e).all AV.one = true := rfl
theorem seal_pR (n : Nat) (e : Nat × Nat) : sealAll n (pR e) = pR e := by
  simp [pR, sealAll, sealRows, AV.shut, Fm.row, Fm.sealRows_rows, untok]
theorem seal_pRs (n : Nat) : ∀ zs : List (Nat × Nat), sealRows n (zs.map pR) = zs.map pR
  | [] => rfl
  | z :: zs => by simp only [List.map_cons, sealRows, seal_pRs n zs, seal_pR]
theorem app_pR {o : List AObj} {a b : Nat} {zs : List (Nat × Nat)} {e : Nat × Nat} (hz : zs.length ≤ 2000) : aappend cfg.P false (AS.mk o [zs.length] a b) 22 (.lst (.tok 0 zs.length 4) (zs.map pR)) (.lst .exact [pR e]) = some (.lst (.tok 0 (zs.length + 1) 4) ((zs ++ [e]).map pR), AS.mk o [zs.length + 1] a 0) := by
  have := append_tok (o := o) (a := a) (b := b) (zs := zs.map pR) (r := pR e) (pR_four zs) rfl (pR_one e) (by simpa using hz)
  rw [List.length_map] at this
  rw [this, List.map_append]
  rfl

def l20 (bs : List Int) (j : Nat) (v : AV) : List (Nat × AV) := [(3, v), (7, la (bs.map qF)), (8, .v (.int .i64 (((bs.map qF).map Fm.row).length : Int))), (9, .v (.int .i64 (Int.ofNat j)))]
theorem lenQ (bs : List Int) : (((bs.map qF).map Fm.row).length : Int) = (bs.length : Int) := by simp
theorem pairs20 (bs : List Int) (hb : bs.length ≤ 1000) (hw : By bs) : ∃ v, Fr cM 20 [.lst .any (bs.map bR)] v ∧ weakV v = lP (prs bs) := by
  refine ⟨acL ((prs bs).map pR), Fr.of_co rfl (by kernel_rfl) (Own.bytes rfl Own.nil) (Co.path (by kernel_rfl) ?_), (weak_acL _).trans ?_⟩
  · refine Evt.shift (((m63 bs (by omega) hw).shift.and (Evt.big bs.length)).mono fun n hn => ?_)
    have L := fun a ha => gather (sz := 4) (f := aBody cM 20 (codeAt (codeOf cM.P 20) [1, 1, 0, 1, 0, 0]) 0 (aC cM (lower cM (n + 60)) (n + 60 + 1) 20 none (codeAt (codeOf cM.P 20) [1, 1, 0, 1, 0, 0]))) (N := 28) (mk := []) (xs := bs) (fun j b => (dgt b, j)) (σ := pR) (l20 bs) (fun v => [(3, v)]) (.exit 0) (by simp) [] (by omega) ?_ ?_ ⟨?_, ?_⟩ bs.length 0 [] (n + 60 + 1) (by omega) (by omega) (by have := hn.2; omega) (by simp) a ha
    · obtain ⟨γ, hγ⟩ := LoopIs.of (C := cM) (c := codeAt (codeOf cM.P 20) [1, 1, 0, 1, 0]) (k := n + 60 + 1) (hf := 20) (rd := none) (L := lower cM (n + 60)) L
      have e : ([] : List (Nat × Nat)) ++ (bs.drop 0).mapIdx (fun i x => (dgt x, 0 + i)) = prs bs := by
        rw [List.drop_zero, List.nil_append]
        unfold prs
        congr 1
        funext i b
        rw [Nat.zero_add]
      rw [e] at hγ
      exact f20_1 (bs.map bR) (bs.map qF) _ _ n γ hn.1 hγ _ (lend_ac (below_pRs 0 _) (seal_pRs 0 _))
    · intro j b he a ha
      have hj : j < bs.length := (List.getElem?_eq_some_iff.1 he).1
      have := a20_1 (bs.map qF) (qF b) _ (Int.ofNat j) .empty n (by rw [lenQ]; exact ltT hj) (tF.idx aF (by rw [List.getElem?_map, he]; rfl)) a ha
      rw [wrapS (by omega)] at this
      exact this
    · intro j b zs he hz a ha
      have hj : j < bs.length := (List.getElem?_eq_some_iff.1 he).1
      have := b20_1 (bs.map qF) (qF b) _ (Int.ofNat j) .empty zs (zs ++ [(dgt b, j)]) zs.length (zs.length + 1) n (by rw [lenQ]; exact ltT hj) (tF.idx aF (by rw [List.getElem?_map, he]; rfl)) (app_pR (e := (dgt b, j)) hz) a ha
      rw [wrapS (by omega)] at this
      exact this
    · intro a ha
      exact (a20_2 (bs.map qF) nilFm _ (Int.ofNat bs.length) .empty n (by rw [lenQ]; exact ltF (by omega)) a ha).weak fun l h => ⟨h.1, trivial⟩
    · intro zs a ha
      exact (b20_2 (bs.map qF) nilFm _ (Int.ofNat bs.length) .empty zs [] zs.length 0 n (by rw [lenQ]; exact ltF (by omega)) a ha).weak fun l h => ⟨h.1, trivial⟩
  · have e1 : (prs bs).map (weakL ∘ pR) = ((prs bs).map prF).map Fm.row := by
      rw [List.map_map]
      exact List.map_congr_left fun b h => weak_pR _
    rw [weakR_map, List.map_map, e1]
end Go.Proofs.YtamemdhmjglifaaGreatDoor
