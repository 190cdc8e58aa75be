/- Chapter 12: Position, Count. -/
import Derived.Test.YtamemdhmjglifaaGreatDoorPH
namespace Go.Proofs.YtamemdhmjglifaaGreatDoor
open Go.RowKit Go.AM
set_option maxRecDepth 100000
set_option linter.unusedVariables false

theorem tk_step {fe : Bool} {x : Fm} {xs : List Fm} {d j : Nat} (hd : xs.length - j = d + 1) : tkL fe x xs (d + 1) = bif hit x xs (ix fe xs.length j) then ix fe xs.length j :: tkL fe x xs d else tkL fe x xs d := by
  have : xs.length - (d + 1) = j := by omega
  simp only [tkL, this]

/-- The tables that a round needs, from some fuel on. -/
theorem rd_evt (xs : List Fm) (x : Fm) (hb : xs.length ≤ 2000) (hx : Flat x) (hxs : ∀ z, z ∈ xs → Flat z) : Evt fun n => Rd n xs x := by
  have h1 := Evt.unshift w85
  have h2 := Evt.unshift (Evt.mem xs fun z hz => w115 x z hx (hxs z hz))
  exact (h1.and h2).mono fun n hn => ⟨hn.1, hn.2, hb⟩

/-! Count -/
noncomputable def st49 (xs : List Fm) (x : Fm) (c : Int) (fe : Bool) (g : Nat → AV) (k : Nat) (lo : Nat) : AS :=
  AS.mk [.cells x.row 27, .cells (opL c fe) 53, .cells (lkL xs xs.length c fe) 114, .cells [.v (.int .i64 (Int.ofNat k))] 3, .dfr, mkLoop cA.P 49 [1,1,1,0,1,0,1,0] (mkTmps 27 [(10, .ptr 3 0), (21, itV xs xs.length c fe x)] g) 4 .ready none] [] lo 0
def lo49 (k : Nat) : Nat := if k = 0 then 6 else 3

theorem loop49 {n : Nat} {xs : List Fm} {x : Fm} {c : Int} {fe : Bool} (R : Rd n xs x) (g : Nat → AV) (hy : ∀ k i, k ≤ 2000 → (lower cA (n + 60)).yield 5 [.v (.int .i64 i)] (st49 xs x c fe g k 6) = some (.v (.bool true), st49 xs x c fe g (k + 1) 3)) :
    ∀ (d j K k : Nat), xs.length - j = d → j ≤ xs.length → d < K → k ≤ j → ∀ a, In 49 [] (l129 5 xs x c fe j) a →
      Seen (aloop (F129 n 6) K a (st49 xs x c fe g k (lo49 k))) (.exit 0) 49 [] [] (st49 xs x c fe g (k + (tkL fe x xs d).length) (lo49 (k + (tkL fe x xs d).length))) := by
  have hb := R.b
  intro d
  induction d with
  | zero =>
    intro j K k hd hj hK hk a ha
    obtain ⟨K, rfl⟩ : ∃ m, K = m + 1 := ⟨K - 1, by omega⟩
    have e : j = xs.length := by omega
    subst e
    exact seen_stop (by simp) (end49 _ _ _ _ _ _ _ a ha)
  | succ d ih =>
    intro j K k hd hj hK hk a ha
    obtain ⟨K, rfl⟩ : ∃ m, K = m + 1 := ⟨K - 1, by omega⟩
    rw [tk_step hd]
    cases hh : hit x xs (ix fe xs.length j) with
    | true =>
      have h := yes49 R j (lo49 k) (by omega) hh _ _ _ _ _ _ _ _ _ _ _ _ (hy k _ (by omega)) a ha
      have hl : min (lo49 k) 3 = lo49 (k + 1) := by unfold lo49; split <;> simp
      rw [hl] at h
      have hih := ih (j + 1) K (k + 1) (by omega) (by omega) (by omega) (by omega)
      simp only [cond_true, List.length_cons]
      rw [show k + ((tkL fe x xs d).length + 1) = k + 1 + (tkL fe x xs d).length by omega]
      exact seen_next h fun a' ha' => hih a' ha'
    | false =>
      exact seen_next (no49 R j (lo49 k) (by omega) hh _ _ _ _ _ _ a ha) fun a' ha' => ih (j + 1) K k (by omega) (by omega) (by omega) (by omega) a' ha'

theorem count49 (xs : List Fm) (x : Fm) (c : Int) (fe : Bool) (hc : -1 ≤ c) (hb : xs.length ≤ 2000) (hx : Flat x) (hxs : ∀ z, z ∈ xs → Flat z) :
    Fr cA 49 [x.av, la xs, op7 c fe] (.tup [.v (.int .i64 (tkL fe x xs xs.length).length), .v (.int .i64 0)]) := by
  refine Fr.of_co rfl (by kernel_rfl) (Own.fm (Own.lst rfl (Own.agg (own_op c fe) Own.nil))) (Co.path (by kernel_rfl) (Evt.shift ?_))
  have hk := ((begin99 xs hb c hc fe).shift.and (takes100 xs xs.length c fe x).shift).and (Evt.big 2005)
  have hr : Evt fun n => ∀ m, m + 2 = n → Rd m xs x := by
    obtain ⟨N, hN⟩ := rd_evt xs x hb hx hxs
    exact ⟨N + 2, fun n hn m hm => hN m (by omega)⟩
  refine (hk.and hr).mono fun n hn => ?_
  obtain ⟨n2, rfl⟩ : ∃ m, n = m + 2 := ⟨n - 2, by have := hn.1.2; omega⟩
  have R0 : Rd n2 xs x := hn.2 n2 rfl
  have R : Rd (n2 + 1) xs x := ⟨fun S => (lower_le cA (show n2 + 60 ≤ n2 + 1 + 60 by omega)).call (R0.t S), fun z hz S => (lower_le cA (show n2 + 60 ≤ n2 + 1 + 60 by omega)).call (R0.e z hz S), hb⟩
  refine a49_1 xs x xs.length c (tkL fe x xs xs.length).length fe (n2 + 2) hn.1.1.1 hn.1.1.2 ?_
  refine range_of (t := 21) (f := 129) (first := []) (caps := [.eptr (lkL xs xs.length c fe) 0, .eptr x.row 0]) (by kernel_rfl) rfl fun g => ?_
  have hy : ∀ k i, k ≤ 2000 → (lower cA (n2 + 1 + 60)).yield 5 [.v (.int .i64 i)] (st49 xs x c fe g k 6) = some (.v (.bool true), st49 xs x c fe g (k + 1) 3) := fun k i hk => by
    rw [yieldA]
    have h := y49_1 i (Int.ofNat k) (opL c fe) (lkL xs xs.length c fe) x (itV xs xs.length c fe x) g n2
    rw [wrapS (by omega)] at h
    exact h
  have L := loop49 (n := n2 + 1) R g hy xs.length 0 (n2 + 1 + 60 + 1) 0 (by omega) (by omega) (by have := hn.1.2; omega) (by omega)
  rw [Nat.zero_add] at L
  refine ⟨.tup [], st49 xs x c fe g (tkL fe x xs xs.length).length 0, _, _, .ready, none, ?_, rfl, by simp, rfl, rfl⟩
  refine (call129 (n2 + 1) _ _).trans ?_
  obtain ⟨γ, hγ⟩ := LoopIs.of (C := cA) (c := codeAt (codeOf cA.P 129) [1, 0]) (k := n2 + 1 + 60 + 1) (hf := 129) (rd := none) (L := lower cA (n2 + 1 + 60)) L
  by_cases h0 : (tkL fe x xs xs.length).length = 0
  · rw [h0] at hγ ⊢
    exact c49_1 xs x xs.length c fe 0 _ _ _ _ _ _ .dead .dead .dead .dead .dead .dead (n2 + 1) γ (by rw [len_row]; exact hγ)
  · have hl : lo49 (tkL fe x xs xs.length).length = 3 := by unfold lo49; rw [if_neg h0]
    rw [hl] at hγ
    exact d49_1 xs x xs.length c fe 0 _ _ _ _ _ _ _ _ _ _ _ _ (n2 + 1) γ (by rw [len_row]; exact hγ)
end Go.Proofs.YtamemdhmjglifaaGreatDoor

/- Chapter 12: Position; which elements are chosen. -/
namespace Go.Proofs.YtamemdhmjglifaaGreatDoor
open Go.RowKit Go.AM
set_option maxRecDepth 100000
set_option linter.unusedVariables false

/-! Position -/
noncomputable def st48 (xs : List Fm) (x : Fm) (c : Int) (fe : Bool) (g : Nat → AV) (i : Int) (st : LoopState) (pe : Option Code) (lo : Nat) : AS :=
  AS.mk [.cells x.row 27, .cells (opL c fe) 53, .cells [.v (.int .i64 i)] 3, .cells [.v (.int .i64 0)] 28, .cells (lkL xs xs.length c fe) 114, .dfr, mkLoop cA.P 48 [1,1,1,0,1,0] (mkTmps 25 [(6, .ptr 2 0), (7, .ptr 3 0), (22, itV xs xs.length c fe x)] g) 5 st pe] [] lo 0

theorem loop48 {n : Nat} {xs : List Fm} {x : Fm} {c : Int} {fe : Bool} (R : Rd n xs x) (g : Nat → AV) (hy : ∀ i, (lower cA (n + 60)).yield 6 [.v (.int .i64 i)] (st48 xs x c fe g 0 .ready none 7) = some (.v (.bool false), st48 xs x c fe g i .done (some .ret) 2)) :
    ∀ (d j K : Nat), xs.length - j = d → j ≤ xs.length → d < K → ∀ a, In 49 [] (l129 6 xs x c fe j) a →
      (tkL fe x xs d = [] → Seen (aloop (F129 n 7) K a (st48 xs x c fe g 0 .ready none 7)) (.exit 0) 49 [] [] (st48 xs x c fe g 0 .ready none 7)) ∧
      ∀ i T, tkL fe x xs d = i :: T → Seen (aloop (F129 n 7) K a (st48 xs x c fe g 0 .ready none 7)) .ret 49 [] [] (st48 xs x c fe g (Int.ofNat i) .done (some .ret) 2) := by
  have hb := R.b
  intro d
  induction d with
  | zero =>
    intro j K hd hj hK a ha
    obtain ⟨K, rfl⟩ : ∃ m, K = m + 1 := ⟨K - 1, by omega⟩
    have e : j = xs.length := by omega
    subst e
    exact ⟨fun _ => seen_stop (by simp) (end48 _ _ _ _ _ _ _ _ a ha), fun i T h => (by cases h)⟩
  | succ d ih =>
    intro j K hd hj hK a ha
    obtain ⟨K, rfl⟩ : ∃ m, K = m + 1 := ⟨K - 1, by omega⟩
    rw [tk_step hd]
    cases hh : hit x xs (ix fe xs.length j) with
    | true =>
      simp only [cond_true]
      refine ⟨fun h => (by cases h), fun i T h => ?_⟩
      obtain ⟨rfl, _⟩ := List.cons.inj h
      exact seen_stop (by simp) (yes48 R j 7 (by omega) hh _ _ _ _ _ _ _ _ _ _ _ _ _ _ (hy _) a ha)
    | false =>
      simp only [cond_false]
      have h := fun a ha => no48 (c := c) R j 7 (by omega) hh (.cells x.row 27) (.cells (opL c fe) 53) (.cells [.v (.int .i64 0)] 3) (.cells [.v (.int .i64 0)] 28) (.cells (lkL xs xs.length c fe) 114) .dfr (mkLoop cA.P 48 [1,1,1,0,1,0] (mkTmps 25 [(6, .ptr 2 0), (7, .ptr 3 0), (22, itV xs xs.length c fe x)] g) 5 .ready none) a ha
      exact ⟨fun h0 => seen_next (h a ha) fun a' ha' => (ih (j + 1) K (by omega) (by omega) (by omega) a' ha').1 h0, fun i T h0 => seen_next (h a ha) fun a' ha' => (ih (j + 1) K (by omega) (by omega) (by omega) a' ha').2 i T h0⟩

def posI : List Nat → Int
  | [] => -1
  | i :: _ => Int.ofNat i

theorem pos48 (xs : List Fm) (x : Fm) (c : Int) (fe : Bool) (hc : -1 ≤ c) (hb : xs.length ≤ 2000) (hx : Flat x) (hxs : ∀ z, z ∈ xs → Flat z) :
    Fr cA 48 [x.av, la xs, op7 c fe] (.tup [.v (.int .i64 (posI (tkL fe x xs xs.length))), .v (.int .i64 0)]) := by
  refine Fr.of_co rfl (by kernel_rfl) (Own.fm (Own.lst rfl (Own.agg (own_op c fe) Own.nil))) (Co.path (by kernel_rfl) (Evt.shift ?_))
  have hk := ((begin99 xs hb c hc fe).shift.and (takes100 xs xs.length c fe x).shift).and (Evt.big 2005)
  have hr : Evt fun n => ∀ m, m + 2 = n → Rd m xs x := by
    obtain ⟨N, hN⟩ := rd_evt xs x hb hx hxs
    exact ⟨N + 2, fun n hn m hm => hN m (by omega)⟩
  refine (hk.and hr).mono fun n hn => ?_
  obtain ⟨n2, rfl⟩ : ∃ m, n = m + 2 := ⟨n - 2, by have := hn.1.2; omega⟩
  have R0 : Rd n2 xs x := hn.2 n2 rfl
  have R : Rd (n2 + 1) xs x := ⟨fun S => (lower_le cA (show n2 + 60 ≤ n2 + 1 + 60 by omega)).call (R0.t S), fun z hz S => (lower_le cA (show n2 + 60 ≤ n2 + 1 + 60 by omega)).call (R0.e z hz S), hb⟩
  have hy : ∀ g i, (lower cA (n2 + 1 + 60)).yield 6 [.v (.int .i64 i)] (st48 xs x c fe g 0 .ready none 7) = some (.v (.bool false), st48 xs x c fe g i .done (some .ret) 2) := fun g i => by
    rw [yieldA]
    exact y48_1 i 0 0 (opL c fe) (lkL xs xs.length c fe) x (itV xs xs.length c fe x) g n2
  have L := fun g => loop48 (n := n2 + 1) R g (hy g) xs.length 0 (n2 + 1 + 60 + 1) (by omega) (by omega) (by have := hn.1.2; omega)
  cases ht : tkL fe x xs xs.length with
  | nil =>
    rw [ht] at L
    refine a48_1 xs x xs.length c fe (n2 + 2) hn.1.1.1 hn.1.1.2 ?_
    refine range_of (t := 22) (f := 129) (first := []) (caps := [.eptr (lkL xs xs.length c fe) 0, .eptr x.row 0]) (by kernel_rfl) rfl fun g => ?_
    refine ⟨.tup [], st48 xs x c fe g 0 .ready none 0, _, _, .ready, none, ?_, rfl, by simp, rfl, rfl⟩
    refine (call129 (n2 + 1) _ _).trans ?_
    obtain ⟨γ, hγ⟩ := LoopIs.of (C := cA) (c := codeAt (codeOf cA.P 129) [1, 0]) (k := n2 + 1 + 60 + 1) (hf := 129) (rd := none) (L := lower cA (n2 + 1 + 60)) fun a ha => (L g a ha).1 rfl
    exact c48_1 xs x xs.length c fe 0 _ _ _ _ _ _ _ .dead .dead .dead .dead .dead .dead .dead (n2 + 1) γ (by rw [len_row]; exact hγ)
  | cons i T =>
    rw [ht] at L
    refine b48_1 xs x xs.length c (Int.ofNat i) fe (n2 + 2) hn.1.1.1 hn.1.1.2 ?_
    refine range_of (t := 22) (f := 129) (first := []) (caps := [.eptr (lkL xs xs.length c fe) 0, .eptr x.row 0]) (by kernel_rfl) rfl fun g => ?_
    refine ⟨.tup [], st48 xs x c fe g (Int.ofNat i) .done (some .ret) 0, _, _, .done, some .ret, ?_, rfl, by simp, rfl, rfl⟩
    refine (call129 (n2 + 1) _ _).trans ?_
    obtain ⟨γ, hγ⟩ := LoopIs.of (C := cA) (c := codeAt (codeOf cA.P 129) [1, 0]) (k := n2 + 1 + 60 + 1) (hf := 129) (rd := none) (L := lower cA (n2 + 1 + 60)) fun a ha => (L g a ha).2 i T rfl
    exact d48_1 xs x xs.length c fe 0 _ _ _ _ _ _ _ _ _ _ _ _ _ _ (n2 + 1) γ (by rw [len_row]; exact hγ)

/-! which elements are chosen -/
def bv (b : Bool) : AV := .v (.bool b)
/-- The first c of those that are taken are marked; what is left of the count; was the loop left? -/
def chF (c : Int) : List Nat → Nat → List Bool → List Bool × Nat × Bool
  | [], k, bs => (bs, k, false)
  | i :: T, k, bs => bif ((k : Int) == c) then (bs, k, true) else chF c T (k + 1) (bs.set i true)
theorem chF_len (c : Int) : ∀ (T : List Nat) (k : Nat) (bs : List Bool), (chF c T k bs).1.length = bs.length
  | [], _, _ => rfl
  | i :: T, k, bs => by
    simp only [chF]
    cases h : ((k : Int) == c) with
    | true => rfl
    | false => simp only [cond_false]; rw [chF_len c T]; simp

noncomputable def st102 (xs : List Fm) (x : Fm) (c : Int) (fe : Bool) (g : Nat → AV) (bs : List Bool) (k : Nat) (st : LoopState) (pe : Option Code) (lo : Nat) : AS :=
  AS.mk [.cells x.row 27, .cells (opL c fe) 53, .cells (lkL xs xs.length c fe) 114, .cells (bs.map bv) 4, .cells [.slc 3 1 0 xs.length xs.length] 110, .cells [.v (.int .i64 (Int.ofNat k))] 3, .dfr, mkLoop cA.P 102 [1,1,1,1,1,0,1,0] (mkTmps 39 [(5, .ptr 1 0), (10, .ptr 4 0), (11, .ptr 5 0), (27, itV xs xs.length c fe x)] g) 6 st pe] [] lo 0
def lo102 (k : Nat) : Nat := if k = 0 then 8 else 3

theorem loop102 {n : Nat} {xs : List Fm} {x : Fm} {c : Int} {fe : Bool} (R : Rd n xs x) (g : Nat → AV)
    (hy : ∀ (k i : Nat) (bs : List Bool), k ≤ 2000 → i < xs.length → bs.length = xs.length → ((k : Int) == c) = false → (lower cA (n + 60)).yield 7 [.v (.int .i64 (Int.ofNat i))] (st102 xs x c fe g bs k .ready none 8) = some (.v (.bool true), st102 xs x c fe g (bs.set i true) (k + 1) .ready none 3))
    (hz : ∀ (k i : Nat) (bs : List Bool), ((k : Int) == c) = true → (lower cA (n + 60)).yield 7 [.v (.int .i64 (Int.ofNat i))] (st102 xs x c fe g bs k .ready none 8) = some (.v (.bool false), st102 xs x c fe g bs k .done (some (.exit 0)) 7)) :
    ∀ (d j K k : Nat) (bs : List Bool), xs.length - j = d → j ≤ xs.length → d < K → k ≤ j → bs.length = xs.length → ∀ a, In 49 [] (l129 7 xs x c fe j) a →
      ((chF c (tkL fe x xs d) k bs).2.2 = false → Seen (aloop (F129 n 8) K a (st102 xs x c fe g bs k .ready none (lo102 k))) (.exit 0) 49 [] [] (st102 xs x c fe g (chF c (tkL fe x xs d) k bs).1 (chF c (tkL fe x xs d) k bs).2.1 .ready none (lo102 (chF c (tkL fe x xs d) k bs).2.1))) ∧
      ((chF c (tkL fe x xs d) k bs).2.2 = true → Seen (aloop (F129 n 8) K a (st102 xs x c fe g bs k .ready none (lo102 k))) .ret 49 [] [] (st102 xs x c fe g (chF c (tkL fe x xs d) k bs).1 (chF c (tkL fe x xs d) k bs).2.1 .done (some (.exit 0)) (min (lo102 (chF c (tkL fe x xs d) k bs).2.1) 7))) := by
  have hb := R.b
  intro d
  induction d with
  | zero =>
    intro j K k bs hd hj hK hk hl a ha
    obtain ⟨K, rfl⟩ : ∃ m, K = m + 1 := ⟨K - 1, by omega⟩
    have e : j = xs.length := by omega
    subst e
    exact ⟨fun _ => seen_stop (by simp) (end102 _ _ _ _ _ _ _ _ _ a ha), fun h => (by cases h)⟩
  | succ d ih =>
    intro j K k bs hd hj hK hk hl a ha
    obtain ⟨K, rfl⟩ : ∃ m, K = m + 1 := ⟨K - 1, by omega⟩
    have hi := ix_lt (fe := fe) (show j < xs.length by omega)
    rw [tk_step hd]
    cases hh : hit x xs (ix fe xs.length j) with
    | true =>
      simp only [cond_true, chF]
      cases hq : ((k : Int) == c) with
      | true =>
        simp only [cond_true]
        exact ⟨fun h => (by cases h), fun _ => seen_stop (by simp) (yesw102 R j (lo102 k) (by omega) hh _ _ _ _ _ _ _ _ _ _ _ _ _ _ _ _ (hz k _ bs hq) a ha)⟩
      | false =>
        simp only [cond_false]
        have hih := ih (j + 1) K (k + 1) (bs.set (ix fe xs.length j) true) (by omega) (by omega) (by omega) (by omega) (by simpa using hl)
        have h := yes102 R j (lo102 k) (by omega) hh _ _ _ _ _ _ _ _ _ _ _ _ _ _ _ _ (hy k _ bs (by omega) hi hl hq) a ha
        have hlo : min (lo102 k) 3 = lo102 (k + 1) := by unfold lo102; split <;> simp
        rw [hlo] at h
        exact ⟨fun h0 => seen_next h fun a' ha' => (hih a' ha').1 h0, fun h0 => seen_next h fun a' ha' => (hih a' ha').2 h0⟩
    | false =>
      simp only [cond_false]
      have hih := ih (j + 1) K k bs (by omega) (by omega) (by omega) (by omega) hl
      exact ⟨fun h0 => seen_next (no102 R j (lo102 k) (by omega) hh _ _ _ _ _ _ _ _ a ha) fun a' ha' => (hih a' ha').1 h0, fun h0 => seen_next (no102 R j (lo102 k) (by omega) hh _ _ _ _ _ _ _ _ a ha) fun a' ha' => (hih a' ha').2 h0⟩

/-! bools in the store -/
theorem idx_bool {o k i : Nat} {ik : IntKind} (hi : i < k) : aindexAddr cA.P 110 (.slc o 1 0 k k) (.v (.int ik (Int.ofNat i))) = some (.ptr o i) := by
  have h1 : cA.P.underlying 110 = some (.slice 4) := by kernel_rfl
  have h2 : szOf cA.P 4 = some 1 := by kernel_rfl
  unfold aindexAddr
  simp only [aintOf, Option.bind_some, h1, h2]
  rw [if_pos ⟨by simp, by simpa using hi, trivial⟩]
  simp
theorem bv_one (bs : List Bool) : (bs.map bv).all AV.one = true := by
  rw [List.all_eq_true]; intro a ha; obtain ⟨b, _, rfl⟩ := List.mem_map.1 ha; rfl
theorem splice_bool (bs : List Bool) (i : Nat) (hi : i < bs.length) : splice (bs.map bv) i [bv true] = (bs.set i true).map bv := by
  unfold splice
  rw [List.map_set, List.set_eq_take_append_cons_drop, if_pos (by simpa using hi)]
  simp
theorem store_bool {S : AS} {o i : Nat} {bs : List Bool} (hS : S.cellsAt o = some (bs.map bv, 4)) (hi : i < bs.length) : astore cA.P S 4 (.v (.bool true)) (.ptr o i) = some (S.set o (.cells ((bs.set i true).map bv) 4)) := by
  have h2 : szOf cA.P 4 = some 1 := by kernel_rfl
  unfold astore
  simp only [hS, Option.bind_some, h2]
  have hc : (AV.v (.bool true)).cells = [bv true] := rfl
  rw [hc, if_pos, splice_bool bs i hi]
  simp only [List.length_map, Bool.and_eq_true, decide_eq_true_eq]
  exact ⟨⟨rfl, rfl⟩, by simp; omega⟩
theorem chunks_one (l : List AV) : chunks 1 l.length l = l.map fun a => [a] := by
  induction l with
  | nil => rfl
  | cons a l ih => simp only [List.length_cons, chunks, List.map_cons, List.take_succ_cons, List.take_zero, List.drop_succ_cons, List.drop_zero, ih]
theorem drRows_bv (dr : List AV → Option (List AV)) (hd : ∀ b, dr [bv b] = some [bv b]) : ∀ bs : List Bool, drRows dr (bs.map fun b => [bv b]) = some (bs.map fun b => [bv b])
  | [] => rfl
  | b :: bs => by simp only [List.map_cons, drRows, hd, drRows_bv dr hd bs]
theorem lend_bools {S : AS} {o k : Nat} {bs : List Bool} (hS : S.cellsAt o = some (bs.map bv, 4)) : lendV S (lendAll 4 S) (.slc o 1 0 bs.length k) = some (.lst .unk (bs.map fun b => [bv b])) := by
  have hr : rowsOf S 1 (.slc o 1 0 bs.length k) = some (bs.map fun b => [bv b]) := by
    unfold rowsOf
    simp only [if_true, hS, Option.bind_some, List.drop_zero, Nat.mul_one]
    rw [List.take_of_length_le (by simp), if_pos ⟨by simp, bv_one bs⟩]
    have := chunks_one (bs.map bv)
    rw [List.length_map] at this
    rw [this, List.map_map]
    rfl
  unfold lendV
  rw [hr]
  dsimp only
  rw [drRows_bv (lendAll 4 S) (fun b => rfl)]

theorem make_bools {S : AS} (m : Nat) (hm : m ≤ 2000) : amakeSlice cA.P true S 110 (.v (.int .i64 m)) (.v (.int .i64 m)) = some (.slc S.objs.length 1 0 m m, S.push (.cells ((List.replicate m false).map bv) 4)) := by
  have h1 : isRow cA.P 110 = some (4, 1) := by kernel_rfl
  have h2 : azero cA.P 4 = some [.v (.bool false)] := by kernel_rfl
  have h3 : ((cA.P.info? 4).map (·.bytes)) = some 1 := by kernel_rfl
  obtain ⟨i, hi, hib⟩ := Option.map_eq_some_iff.1 h3
  unfold amakeSlice
  simp only [h1, h2, hi, aintOf, Option.bind_some]
  rw [if_pos ⟨rfl, by omega, by omega, by omega, by rw [hib]; omega⟩]
  simp only [if_true, Int.toNat_natCast]
  congr 4
  simp [List.flatten_replicate_singleton, bv]

theorem cho102 (xs : List Fm) (x : Fm) (c : Int) (fe : Bool) (hc : -1 ≤ c) (hb : xs.length ≤ 2000) (hx : Flat x) (hxs : ∀ z, z ∈ xs → Flat z) :
    Fr cA 102 [x.av, la xs, op7 c fe] (.tup [.lst .unk ((chF c (tkL fe x xs xs.length) 0 (List.replicate xs.length false)).1.map fun b => [bv b]), .v (.int .i64 0)]) := by
  refine Fr.of_co rfl (by kernel_rfl) (Own.fm (Own.lst rfl (Own.agg (own_op c fe) Own.nil))) (Co.path (by kernel_rfl) (Evt.shift ?_))
  have hk := ((begin99 xs hb c hc fe).shift.and (takes100 xs xs.length c fe x).shift).and (Evt.big 2005)
  have hr : Evt fun n => ∀ m, m + 2 = n → Rd m xs x := by
    obtain ⟨N, hN⟩ := rd_evt xs x hb hx hxs
    exact ⟨N + 2, fun n hn m hm => hN m (by omega)⟩
  refine (hk.and hr).mono fun n hn => ?_
  obtain ⟨n2, rfl⟩ : ∃ m, n = m + 2 := ⟨n - 2, by have := hn.1.2; omega⟩
  have R0 : Rd n2 xs x := hn.2 n2 rfl
  have R : Rd (n2 + 1) xs x := ⟨fun S => (lower_le cA (show n2 + 60 ≤ n2 + 1 + 60 by omega)).call (R0.t S), fun z hz S => (lower_le cA (show n2 + 60 ≤ n2 + 1 + 60 by omega)).call (R0.e z hz S), hb⟩
  have hy : ∀ g, ∀ (k i : Nat) (bs : List Bool), k ≤ 2000 → i < xs.length → bs.length = xs.length → ((k : Int) == c) = false → (lower cA (n2 + 1 + 60)).yield 7 [.v (.int .i64 (Int.ofNat i))] (st102 xs x c fe g bs k .ready none 8) = some (.v (.bool true), st102 xs x c fe g (bs.set i true) (k + 1) .ready none 3) := fun g k i bs hk hi hl hq => by
    rw [yieldA]
    have h := y102_2 xs.length i (Int.ofNat i) (Int.ofNat k) c fe (bs.map bv) ((bs.set i true).map bv) (lkL xs xs.length c fe) x (itV xs xs.length c fe x) g n2 hq (idx_bool hi) (store_bool rfl (by omega))
    rw [wrapS (by omega)] at h
    exact h
  have hz : ∀ g, ∀ (k i : Nat) (bs : List Bool), ((k : Int) == c) = true → (lower cA (n2 + 1 + 60)).yield 7 [.v (.int .i64 (Int.ofNat i))] (st102 xs x c fe g bs k .ready none 8) = some (.v (.bool false), st102 xs x c fe g bs k .done (some (.exit 0)) 7) := fun g k i bs hq => by
    rw [yieldA]
    exact y102_1 xs.length i (Int.ofNat i) (Int.ofNat k) c fe (bs.map bv) [] (lkL xs xs.length c fe) x (itV xs xs.length c fe x) g n2 hq
  obtain ⟨bs, hbs⟩ : ∃ bs, List.replicate xs.length false = bs := ⟨_, rfl⟩
  have hbl : bs.length = xs.length := by rw [← hbs]; simp
  have L := fun g => loop102 (n := n2 + 1) R g (hy g) (hz g) xs.length 0 (n2 + 1 + 60 + 1) 0 bs (by omega) (by omega) (by have := hn.1.2; omega) (by omega) hbl
  rw [hbs]
  have hmk := make_bools (S := AS.mk [.cells x.row 27, .cells (opL c fe) 53, .cells (lkL xs xs.length c fe) 114] [] 0 0) xs.length hb
  rw [hbs] at hmk
  have hcl := chF_len c (tkL fe x xs xs.length) 0 bs
  have hld : ∀ q, lend (AS.mk [.cells x.row 27, .cells (opL c fe) 53, .cells (lkL xs xs.length c fe) 114, .cells ((chF c (tkL fe x xs xs.length) 0 bs).1.map bv) 4, .cells [.slc 3 1 0 xs.length xs.length] 110, .cells [.v (.int .i64 q)] 3, .dead, .dead] [] 0 0) (.tup [.slc 3 1 0 xs.length xs.length, .v (.int .i64 0)]) = some (.tup [.lst .unk ((chF c (tkL fe x xs xs.length) 0 bs).1.map fun b => [bv b]), .v (.int .i64 0)]) := fun q => by
    have := lend_bools (S := AS.mk [.cells x.row 27, .cells (opL c fe) 53, .cells (lkL xs xs.length c fe) 114, .cells ((chF c (tkL fe x xs xs.length) 0 bs).1.map bv) 4, .cells [.slc 3 1 0 xs.length xs.length] 110, .cells [.v (.int .i64 q)] 3, .dead, .dead] [] 0 0) (o := 3) (k := xs.length) rfl
    rw [hcl, hbl] at this
    exact lend_pair this
  cases hst : (chF c (tkL fe x xs xs.length) 0 bs).2.2 with
  | false =>
    refine a102_1 xs x (bs.map bv) ((chF c (tkL fe x xs xs.length) 0 bs).1.map bv) xs.length xs.length c (Int.ofNat (chF c (tkL fe x xs xs.length) 0 bs).2.1) fe (n2 + 2) hn.1.1.1 (by rw [len_row]; exact hmk) hn.1.1.2 ?_ _ (hld _)
    refine range_of (t := 27) (f := 129) (first := []) (caps := [.eptr (lkL xs xs.length c fe) 0, .eptr x.row 0]) (by kernel_rfl) rfl fun g => ?_
    refine ⟨.tup [], st102 xs x c fe g (chF c (tkL fe x xs xs.length) 0 bs).1 (chF c (tkL fe x xs xs.length) 0 bs).2.1 .ready none 0, _, _, .ready, none, ?_, rfl, by simp, rfl, rfl⟩
    refine (call129 (n2 + 1) _ _).trans ?_
    obtain ⟨γ, hγ⟩ := LoopIs.of (C := cA) (c := codeAt (codeOf cA.P 129) [1, 0]) (k := n2 + 1 + 60 + 1) (hf := 129) (rd := none) (L := lower cA (n2 + 1 + 60)) fun a ha => (L g a ha).1 hst
    by_cases h0 : (chF c (tkL fe x xs xs.length) 0 bs).2.1 = 0
    · have hnone : (chF c (tkL fe x xs xs.length) 0 bs).1 = bs := by
        cases ht : tkL fe x xs xs.length with
        | nil => rfl
        | cons i T =>
          rw [ht] at h0 hst
          exfalso
          simp only [chF] at h0 hst
          cases hq : (((0 : Nat) : Int) == c) with
          | true => rw [hq] at hst; cases hst
          | false =>
            rw [hq] at h0
            simp only [cond_false] at h0
            have mono : ∀ (T : List Nat) (k : Nat) (bs : List Bool), k ≤ (chF c T k bs).2.1 := by
              intro T
              induction T with
              | nil => intro k bs; exact Nat.le_refl _
              | cons i T ih =>
                intro k bs
                simp only [chF]
                cases ((k : Int) == c) with
                | true => exact Nat.le_refl _
                | false => exact Nat.le_trans (Nat.le_succ k) (ih (k + 1) _)
            have := mono T (0 + 1) (bs.set i true)
            omega
      rw [hnone, h0] at hγ ⊢
      exact c102_1 xs x xs.length c fe 0 _ _ _ _ _ _ _ _ .dead .dead .dead .dead .dead .dead .dead .dead (n2 + 1) γ (by rw [len_row]; exact hγ)
    · have hl : lo102 (chF c (tkL fe x xs xs.length) 0 bs).2.1 = 3 := by unfold lo102; rw [if_neg h0]
      rw [hl] at hγ
      exact d102_1 xs x xs.length c fe 0 _ _ _ _ _ _ _ _ _ _ _ _ _ _ _ _ (n2 + 1) γ (by rw [len_row]; exact hγ)
  | true =>
    refine b102_1 xs x (bs.map bv) ((chF c (tkL fe x xs xs.length) 0 bs).1.map bv) xs.length xs.length c (Int.ofNat (chF c (tkL fe x xs xs.length) 0 bs).2.1) fe (n2 + 2) hn.1.1.1 (by rw [len_row]; exact hmk) hn.1.1.2 ?_ _ (hld _)
    refine range_of (t := 27) (f := 129) (first := []) (caps := [.eptr (lkL xs xs.length c fe) 0, .eptr x.row 0]) (by kernel_rfl) rfl fun g => ?_
    refine ⟨.tup [], st102 xs x c fe g (chF c (tkL fe x xs xs.length) 0 bs).1 (chF c (tkL fe x xs xs.length) 0 bs).2.1 .done (some (.exit 0)) 0, _, _, .done, some (.exit 0), ?_, rfl, by simp, rfl, rfl⟩
    refine (call129 (n2 + 1) _ _).trans ?_
    obtain ⟨γ, hγ⟩ := LoopIs.of (C := cA) (c := codeAt (codeOf cA.P 129) [1, 0]) (k := n2 + 1 + 60 + 1) (hf := 129) (rd := none) (L := lower cA (n2 + 1 + 60)) fun a ha => (L g a ha).2 hst
    by_cases h0 : (chF c (tkL fe x xs xs.length) 0 bs).2.1 = 0
    · have hl : min (lo102 (chF c (tkL fe x xs xs.length) 0 bs).2.1) 7 = 7 := by rw [h0]; rfl
      rw [hl] at hγ
      exact g102_1 xs x xs.length c fe 0 0 _ _ _ _ _ _ _ _ _ _ _ _ _ _ _ _ (n2 + 1) γ (by rw [len_row]; exact hγ)
    · have hl : min (lo102 (chF c (tkL fe x xs xs.length) 0 bs).2.1) 7 = 3 := by unfold lo102; rw [if_neg h0]; rfl
      rw [hl] at hγ
      exact e102_1 xs x xs.length c fe 0 0 _ _ _ _ _ _ _ _ _ _ _ _ _ _ _ _ (n2 + 1) γ (by rw [len_row]; exact hγ)
end Go.Proofs.YtamemdhmjglifaaGreatDoor
