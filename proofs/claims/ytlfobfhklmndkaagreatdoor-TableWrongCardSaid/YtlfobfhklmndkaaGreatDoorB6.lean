/- The value of a call whatever the fuel; values told less of. -/
import Derived.Test.YtlfobfhklmndkaaGreatDoorB5
namespace Go.AM
open Go.RowKit

variable {C : Cfg}

open Classical in
noncomputable def evtCall (C : Cfg) (f : FuncId) (args : List AV) (S : AS) : Option (AV × AS) :=
  if h : ∃ r n, (lower C n).call f args S = some r then some (Classical.choose h) else none

theorem evtCall_inv {f : FuncId} {args : List AV} {S : AS} {r : AV × AS} (h : evtCall C f args S = some r) : ∃ n, (lower C n).call f args S = some r := by
  unfold evtCall at h
  split at h
  · rename_i hx
    cases h
    exact Classical.choose_spec hx
  · cases h

theorem evtCall_eq {f : FuncId} {args : List AV} {S : AS} {r : AV × AS} {n : Nat} (h : (lower C n).call f args S = some r) : evtCall C f args S = some r := by
  have hx : ∃ r n, (lower C n).call f args S = some r := ⟨r, n, h⟩
  unfold evtCall
  rw [dif_pos hx]
  obtain ⟨m, hm⟩ := Classical.choose_spec hx
  have h1 := (lower_le C (Nat.le_max_left n m)).call h
  have h2 := (lower_le C (Nat.le_max_right n m)).call hm
  rw [h1] at h2
  exact h2.symm

theorem evtCall_fr {f : FuncId} {args : List AV} {x : AV} (h : Fr C f args x) (S : AS) : evtCall C f args S = some (x, S) := by
  obtain ⟨N, hN⟩ := h
  exact evtCall_eq (hN N (Nat.le_refl _) S)
theorem evtCall_evt {f : FuncId} {args : List AV} {S : AS} {r : AV × AS} (h : Evt fun n => (lower C n).call f args S = some r) : evtCall C f args S = some r := by
  obtain ⟨N, hN⟩ := h
  exact evtCall_eq (hN N (Nat.le_refl _))

theorem evtCall_ok (hN : NamesOK C.P) (hX : XOK C) (hm : C.P.follows .mixedOrders = true) (f : FuncId) : ConOK C.P f (evtCall C f) where
  low := by intro args S x S' h; obtain ⟨n, hn⟩ := evtCall_inv h; exact (lower_ok hN hX hm n).low hn
  ent := by intro args S x S' h; obtain ⟨n, hn⟩ := evtCall_inv h; exact (lower_ok hN hX hm n).ent hn
  call := by intro args S x S' B0 w0 w E ys h hs hp; obtain ⟨n, hn⟩ := evtCall_inv h; exact (lower_ok hN hX hm n).call hn hs hp

/-! short names -/
abbrev vI (i : Int) : AV := .v (.int .i64 i)
abbrev vB (b : Bool) : AV := .v (.bool b)
abbrev vS (s : ByteArray) : AV := .v (.string s)

/-! nil slices become lists that may be nil -/
mutual
def weakV : AV → AV
  | .v (.slice none 0 0) => .lst .any []
  | .eptr row o => .eptr (weakL row) o
  | .lst _ rows => .lst .any (weakR rows)
  | .fn f a b => .fn f (weakL a) (weakL b)
  | .ifc t x => .ifc t (weakV x)
  | .agg l => .agg (weakL l)
  | .tup l => .tup (weakL l)
  | x => x
def weakL : List AV → List AV
  | [] => []
  | x :: l => weakV x :: weakL l
def weakR : List (List AV) → List (List AV)
  | [] => []
  | r :: l => weakL r :: weakR l
end

theorem weakL_map : ∀ l, weakL l = l.map weakV
  | [] => rfl
  | x :: l => by simp only [weakL, List.map_cons, weakL_map l]
theorem weakR_map : ∀ l, weakR l = l.map weakL
  | [] => rfl
  | x :: l => by simp only [weakR, List.map_cons, weakR_map l]
theorem weakR_flat (l : List (List AV)) : (weakR l).flatten = weakL l.flatten := by
  rw [weakR_map, weakL_map]
  induction l with
  | nil => rfl
  | cons r l ih => simp only [List.map_cons, List.flatten_cons, ih, List.map_append, weakL_map]

theorem VRd.weak {E : Env} {w : World} : ∀ {d : Nat} {x : AV} {y : Value}, VRd E w d x y → VRd E w d (weakV x) y
  | 0, _, _, hv => hv.elim
  | d + 1, x, y, hv => by
    have hrow : ∀ {l : List AV} {g b : Nat}, Row E w (VRd E w d) l g b → Row E w (VRd E w d) (weakL l) g b := fun hr m x hx => by
      rw [weakL_map, List.getElem?_map] at hx
      obtain ⟨x0, hx0, rfl⟩ := Option.map_eq_some_iff.1 hx
      obtain ⟨h1, z, h2, h3⟩ := hr m x0 hx0
      exact ⟨h1, z, h2, VRd.weak h3⟩
    have hp : ∀ {l : List AV} {ys : List Value}, Pair (VRd E w d) l ys → Pair (VRd E w d) (weakL l) ys := fun hr => by
      refine ⟨by rw [weakL_map, List.length_map]; exact hr.1, fun i x y hx hy => ?_⟩
      rw [weakL_map, List.getElem?_map] at hx
      obtain ⟨x0, hx0, rfl⟩ := Option.map_eq_some_iff.1 hx
      exact VRd.weak (hr.2 i x0 y hx0 hy)
    cases x with
    | junk => exact hv
    | v x =>
      by_cases h : x = .slice none 0 0
      · subst h
        obtain ⟨_, rfl⟩ := hv
        exact .inl ⟨rfl, none, rfl, .inl rfl⟩
      · have : weakV (.v x) = .v x := by
          unfold weakV
          split <;> first | rfl | (rename_i h1; cases h1 <;> exact absurd rfl h) | (rename_i h1; exact absurd (AV.v.inj h1) h)
        rw [this]
        exact hv
    | ptr o off => exact hv
    | slc o sz off len cap => exact hv
    | mp o => exact hv
    | yld o => exact hv
    | eptr row off => obtain ⟨g, b, h1, h2⟩ := hv; exact ⟨g, b, h1, hrow h2⟩
    | lst c rows =>
      rcases hv with ⟨rfl, a, h, _⟩ | ⟨g, b, cap, sz, h1, h2, h3, h4, h5, h6, h7⟩
      · exact .inl ⟨rfl, a, h, .inl rfl⟩
      · have hl : (weakR rows).length = rows.length := by rw [weakR_map, List.length_map]
        refine .inr ⟨g, b, cap, sz, by rw [hl]; exact h1, by rw [hl]; exact h2, h3, h4, ?_, by rw [weakR_flat]; exact hrow h6, trivial⟩
        intro r hr
        rw [weakR_map] at hr
        obtain ⟨r0, hr0, rfl⟩ := List.mem_map.1 hr
        rw [weakL_map, List.length_map]
        exact h5 r0 hr0
    | fn f a b => obtain ⟨fs, cs, h1, h2, h3⟩ := hv; exact ⟨fs, cs, h1, hp h2, hp h3⟩
    | ifc t x => obtain ⟨z, h1, h2⟩ := hv; exact ⟨z, h1, VRd.weak h2⟩
    | agg l => obtain ⟨ys, h1, h2⟩ := hv; exact ⟨ys, h1, hp h2⟩
    | tup l => obtain ⟨ys, h1, h2⟩ := hv; exact ⟨ys, h1, hp h2⟩

theorem VR.weak {E : Env} {w : World} {x : AV} {y : Value} (h : VR E w x y) : VR E w (weakV x) y := let ⟨d, hd⟩ := h; ⟨d, hd.weak⟩
theorem Pair.weak {E : Env} {w : World} {l : List AV} {ys : List Value} (h : Pair (VR E w) l ys) : Pair (VR E w) (weakL l) ys := by
  refine ⟨by rw [weakL_map, List.length_map]; exact h.1, fun i x y hx hy => ?_⟩
  rw [weakL_map, List.getElem?_map] at hx
  obtain ⟨x0, hx0, rfl⟩ := Option.map_eq_some_iff.1 hx
  exact (h.2 i x0 y hx0 hy).weak

/-- A call of which less is told. -/
noncomputable def weakCall (C : Cfg) (f : FuncId) (args : List AV) (S : AS) : Option (AV × AS) :=
  (evtCall C f (weakL args) S).map fun r => (weakV r.1, r.2)

theorem weakCall_ok (hN : NamesOK C.P) (hX : XOK C) (hm : C.P.follows .mixedOrders = true) (f : FuncId) : ConOK C.P f (weakCall C f) where
  low := by intro args S x S' h; obtain ⟨r, h1, h2⟩ := Option.map_eq_some_iff.1 h; cases h2; exact (evtCall_ok hN hX hm f).low h1
  ent := by intro args S x S' h; obtain ⟨r, h1, h2⟩ := Option.map_eq_some_iff.1 h; cases h2; exact (evtCall_ok hN hX hm f).ent h1
  call := by
    intro args S x S' B0 w0 w E ys h hs hp
    obtain ⟨r, h1, h2⟩ := Option.map_eq_some_iff.1 h
    cases h2
    refine ((evtCall_ok hN hX hm f).call h1 hs hp.weak).mono fun e w1 he => ?_
    cases e with
    | returned y => obtain ⟨E', h1, h2, h3⟩ := he; exact ⟨E', h1, h2, h3.weak⟩
    | panicked c => exact he
    | outgrown => exact he

/-! A loop over a list, by what a round makes of what is kept. -/
abbrev Fin := Exit × List (Nat × AV) × AS
def eachL {α β : Type} (step : Nat → β → α → Fin ⊕ β) (fin : β → Fin) : List α → Nat → β → Fin
  | [], _, b => fin b
  | x :: xs, j, b => match step j b x with | .inl r => r | .inr b' => eachL step fin xs (j + 1) b'

theorem seen_each {α β : Type} {f : AAct → AS → Option (Exit × AAct × AS)} {N : Nat} {mk : List Nat} {xs : List α} (live : Nat → β → List (Nat × AV)) (St : Nat → β → AS) (I : Nat → β → Prop) (step : Nat → β → α → Fin ⊕ β) (fin : β → Fin)
    (hs : ∀ j b x, xs[j]? = some x → I j b → match step j b x with
      | .inr b' => I (j + 1) b' ∧ ∀ a, In N mk (live j b) a → Seen (f a (St j b)) .normal N mk (live (j + 1) b') (St (j + 1) b')
      | .inl r => r.1 ≠ .normal ∧ ∀ a, In N mk (live j b) a → Seen (f a (St j b)) r.1 N mk r.2.1 r.2.2)
    (he : ∀ b, I xs.length b → (fin b).1 ≠ .normal ∧ ∀ a, In N mk (live xs.length b) a → Seen (f a (St xs.length b)) (fin b).1 N mk (fin b).2.1 (fin b).2.2) :
    ∀ (d j : Nat) (b : β) (k : Nat), xs.length - j = d → j ≤ xs.length → d < k → I j b → ∀ a, In N mk (live j b) a → Seen (aloop f k a (St j b)) (eachL step fin (xs.drop j) j b).1 N mk (eachL step fin (xs.drop j) j b).2.1 (eachL step fin (xs.drop j) j b).2.2 := by
  intro d
  induction d with
  | zero =>
    intro j b k hd hj hk hi a ha
    obtain ⟨k, rfl⟩ : ∃ m, k = m + 1 := ⟨k - 1, by omega⟩
    have e : j = xs.length := by omega
    subst e
    rw [List.drop_length]
    exact seen_stop (he b hi).1 ((he b hi).2 a ha)
  | succ d ih =>
    intro j b k hd hj hk hi a ha
    obtain ⟨k, rfl⟩ : ∃ m, k = m + 1 := ⟨k - 1, by omega⟩
    have hlt : j < xs.length := by omega
    rw [List.drop_eq_getElem_cons hlt]
    have h := hs j b xs[j] (List.getElem?_eq_getElem hlt) hi
    unfold eachL
    cases hst : step j b xs[j] with
    | inl r => rw [hst] at h; exact seen_stop h.1 (h.2 a ha)
    | inr b' =>
      rw [hst] at h
      exact seen_next (h.2 a ha) fun a' ha' => ih (j + 1) b' k (by omega) (by omega) (by omega) h.1 a' ha'
end Go.AM
