/- The abstract machine, first text: abstract values, the relation between abstract and concrete values, and what keeps it. -/
import Derived.WalkKit
import Derived.MapKept
import Derived.OrdersIn
import Derived.RangeFuncRecord
namespace Go.AM
open Go.RowKit

inductive Cap where
  | exact
  | tok (t e s : Nat)
  | unk
  | any
  deriving DecidableEq

inductive AV : Type where
  | junk
  | v (x : Value)
  | ptr (o off : Nat)
  | eptr (row : List AV) (off : Nat)
  | lst (c : Cap) (rows : List (List AV))
  | slc (o sz off len cap : Nat)
  | mp (o : Nat)
  | yld (o : Nat)
  | fn (f : Fn) (first caps : List AV)
  | ifc (t : TypeId) (x : AV)
  | agg (l : List AV)
  | tup (l : List AV)

/-- Values without an address. -/
def flat : Value → Bool
  | .bool _ | .int _ _ | .float _ _ | .complex _ _ _ | .string _ | .pointer none | .slice none 0 0 | .map none | .chan none | .nilFunc | .nilIface => true
  | .tuple ⟨[]⟩ => true
  | _ => false

structure Env where
  j : Nat → Option Nat
  fz : Nat → Nat → Prop
  tk : Nat → Nat × Nat × Nat
  en : Nat → Nat
  cp : Nat → Nat

/-- The cells of a list stand, frozen, from b on in block g. -/
def Row (E : Env) (w : World) (R : AV → Value → Prop) (l : List AV) (g b : Nat) : Prop :=
  ∀ m x, l[m]? = some x → E.fz g (b + m) ∧ ∃ z, w.cell? ⟨g, b + m, none⟩ = some z ∧ R x z

def Pair (R : AV → Value → Prop) (l : List AV) (ys : List Value) : Prop :=
  l.length = ys.length ∧ ∀ (i : Nat) x y, l[i]? = some x → ys[i]? = some y → R x y

def VRd (E : Env) (w : World) : Nat → AV → Value → Prop
  | 0, _, _ => False
  | _ + 1, .junk, _ => True
  | _ + 1, .v x, y => flat x = true ∧ y = x
  | _ + 1, .ptr o off, y => ∃ g, E.j o = some g ∧ y = .pointer (some ⟨g, off, none⟩)
  | d + 1, .eptr row off, y => ∃ g b, y = .pointer (some ⟨g, b + off, none⟩) ∧ Row E w (VRd E w d) row g b
  | d + 1, .lst c rows, y => (rows = [] ∧ ∃ a : Option Addr, y = .slice a 0 0 ∧ (c = .any ∨ c = .unk ∧ a.isSome = true)) ∨ ∃ g b cap sz, y = .slice (some ⟨g, b, none⟩) rows.length cap ∧ rows.length ≤ cap ∧ cap ≤ maxLen ∧ 0 < sz ∧ (∀ r ∈ rows, r.length = sz) ∧
      Row E w (VRd E w d) rows.flatten g b ∧
      (match c with
        | .exact => cap = rows.length
        | .tok t e s => s = sz ∧ 1 ≤ e ∧ e ≤ E.en t ∧ (e = E.en t → cap = 0 ∨ ((E.tk t).1 = g ∧ (E.tk t).2.1 = b + rows.length * sz ∧ (E.tk t).2.2 = sz ∧ ∀ a T f, w.heap[g]? = some (.cells a T f) → b + cap * sz ≤ a.size))
        | .unk => True
        | .any => True)
  | _ + 1, .slc o sz off len cap, y => ∃ g c, E.j o = some g ∧ y = .slice (some ⟨g, off, none⟩) len c ∧ len ≤ cap ∧ cap ≤ c ∧ c ≤ maxLen ∧ 0 < sz ∧ off + c * sz ≤ E.cp o
  | _ + 1, .mp o, y => ∃ g, E.j o = some g ∧ y = .map (some g)
  | _ + 1, .yld o, y => ∃ g, E.j o = some g ∧ y = .func (.yield g) #[] #[]
  | d + 1, .fn f first caps, y => ∃ fs cs : List Value, y = .func f fs.toArray cs.toArray ∧ Pair (VRd E w d) first fs ∧ Pair (VRd E w d) caps cs
  | d + 1, .ifc t x, y => ∃ z, y = .iface t z ∧ VRd E w d x z
  | d + 1, .agg l, y => ∃ ys : List Value, y = .agg ys.toArray ∧ Pair (VRd E w d) l ys
  | d + 1, .tup l, y => ∃ ys : List Value, y = .tuple ys.toArray ∧ Pair (VRd E w d) l ys

def VR (E : Env) (w : World) (x : AV) (y : Value) : Prop := ∃ d, VRd E w d x y

theorem Row.mono {E : Env} {w : World} {R R' : AV → Value → Prop} {l : List AV} {g b : Nat} (h : Row E w R l g b) (hr : ∀ x y, R x y → R' x y) : Row E w R' l g b :=
  fun m x hx => let ⟨a, z, hz, hR⟩ := h m x hx; ⟨a, z, hz, hr _ _ hR⟩

theorem Pair.mono {R R' : AV → Value → Prop} {l : List AV} {ys : List Value} (h : Pair R l ys) (hr : ∀ x y, R x y → R' x y) : Pair R' l ys :=
  ⟨h.1, fun i x y hx hy => hr _ _ (h.2 i x y hx hy)⟩

theorem VRd.succ {E : Env} {w : World} : ∀ {d : Nat} {x : AV} {y : Value}, VRd E w d x y → VRd E w (d + 1) x y
  | 0, _, _, h => h.elim
  | d + 1, x, y, h => by
    cases x with
    | junk => exact h
    | v x => exact h
    | ptr o off => exact h
    | slc o sz off len cap => exact h
    | mp o => exact h
    | yld o => exact h
    | eptr row off => obtain ⟨g, b, hy, hr⟩ := h; exact ⟨g, b, hy, hr.mono fun _ _ => VRd.succ⟩
    | lst c rows =>
      rcases h with h | ⟨g, b, cap, sz, h1, h2, h3, h4, h5, h6, h7⟩
      · exact .inl h
      · exact .inr ⟨g, b, cap, sz, h1, h2, h3, h4, h5, h6.mono fun _ _ => VRd.succ, h7⟩
    | fn f first caps => obtain ⟨fs, cs, h1, h2, h3⟩ := h; exact ⟨fs, cs, h1, h2.mono fun _ _ => VRd.succ, h3.mono fun _ _ => VRd.succ⟩
    | ifc t x => obtain ⟨z, h1, h2⟩ := h; exact ⟨z, h1, VRd.succ h2⟩
    | agg l => obtain ⟨ys, h1, h2⟩ := h; exact ⟨ys, h1, h2.mono fun _ _ => VRd.succ⟩
    | tup l => obtain ⟨ys, h1, h2⟩ := h; exact ⟨ys, h1, h2.mono fun _ _ => VRd.succ⟩

theorem VRd.le {E : Env} {w : World} {d d' : Nat} {x : AV} {y : Value} (h : VRd E w d x y) (hd : d ≤ d') : VRd E w d' x y := by
  induction hd with
  | refl => exact h
  | step _ ih => exact ih.succ

/-- One depth for all elements of a list. -/
theorem uniform {Pd : Nat → Nat → AV → Prop} (hm : ∀ d d' m x, d ≤ d' → Pd d m x → Pd d' m x) : ∀ (l : List AV) (k : Nat), (∀ m x, l[m]? = some x → ∃ d, Pd d (k + m) x) → ∃ d, ∀ m x, l[m]? = some x → Pd d (k + m) x
  | [], _, _ => ⟨0, by simp⟩
  | a :: l, k, h => by
    obtain ⟨d1, h1⟩ := h 0 a rfl
    obtain ⟨d2, h2⟩ := uniform hm l (k + 1) (fun m x hx => by
      obtain ⟨d, hd⟩ := h (m + 1) x (by simpa using hx)
      exact ⟨d, by rw [show k + 1 + m = k + (m + 1) by omega]; exact hd⟩)
    refine ⟨max d1 d2, fun m x hx => ?_⟩
    cases m with
    | zero => simp at hx; subst hx; exact hm _ _ _ _ (Nat.le_max_left _ _) h1
    | succ m => exact hm _ _ _ _ (Nat.le_max_right _ _) (by have := h2 m x (by simpa using hx); rwa [show k + 1 + m = k + (m + 1) by omega] at this)

theorem Pair.depth {E : Env} {w : World} {l : List AV} {ys : List Value} (h : Pair (VR E w) l ys) : ∃ d, Pair (VRd E w d) l ys := by
  obtain ⟨d, hd⟩ := uniform (Pd := fun d m x => ∀ y, ys[m]? = some y → VRd E w d x y) (fun d d' m x hd h y hy => (h y hy).le hd) l 0 (fun m x hx => by
    have hlt : m < ys.length := by rw [← h.1]; exact (List.getElem?_eq_some_iff.1 hx).1
    obtain ⟨d, hd⟩ := h.2 m x ys[m] hx (by simp [hlt])
    refine ⟨d, fun y hy => ?_⟩
    simp only [Nat.zero_add] at hy
    rw [List.getElem?_eq_getElem hlt] at hy
    cases hy
    exact hd)
  exact ⟨d, h.1, fun i x y hx hy => hd i x hx y (by simpa using hy)⟩

theorem Row.depth {E : Env} {w : World} {l : List AV} {g b : Nat} (h : Row E w (VR E w) l g b) : ∃ d, Row E w (VRd E w d) l g b := by
  obtain ⟨d, hd⟩ := uniform (Pd := fun d m x => E.fz g (b + m) ∧ ∃ z, w.cell? ⟨g, b + m, none⟩ = some z ∧ VRd E w d x z) (fun d d' m x hd h => ⟨h.1, let ⟨z, h1, h2⟩ := h.2; ⟨z, h1, h2.le hd⟩⟩) l 0 (fun m x hx => by
    obtain ⟨h1, z, h2, d, h3⟩ := h m x hx
    exact ⟨d, by simpa using ⟨h1, z, h2, h3⟩⟩)
  exact ⟨d, fun m x hx => by simpa using hd m x hx⟩

structure Ext (E : Env) (w : World) (E' : Env) (w' : World) : Prop where
  j : ∀ o g, E.j o = some g → E'.j o = some g
  fz : ∀ g k, E.fz g k → E'.fz g k
  cell : ∀ g k, E.fz g k → w'.cell? ⟨g, k, none⟩ = w.cell? ⟨g, k, none⟩
  en : ∀ t, E.en t ≤ E'.en t
  tk : ∀ t, E'.en t = E.en t → E'.tk t = E.tk t
  row : ∀ t, 0 < E.en t → E'.en t = E.en t → ∀ a T f, w'.heap[(E.tk t).1]? = some (.cells a T f) → ∃ a' T' f', w.heap[(E.tk t).1]? = some (.cells a' T' f') ∧ a'.size ≤ a.size
  cp : ∀ o g, E.j o = some g → E'.cp o = E.cp o

theorem VRd.ext {E E' : Env} {w w' : World} (h : Ext E w E' w') : ∀ {d : Nat} {x : AV} {y : Value}, VRd E w d x y → VRd E' w' d x y
  | 0, _, _, hv => hv.elim
  | d + 1, x, y, hv => by
    have hrow : ∀ {l : List AV} {g b : Nat}, Row E w (VRd E w d) l g b → Row E' w' (VRd E' w' d) l g b := fun hr m x hx =>
      let ⟨h1, z, h2, h3⟩ := hr m x hx; ⟨h.fz _ _ h1, z, (h.cell _ _ h1).trans h2, VRd.ext h h3⟩
    have hp : ∀ {l : List AV} {ys : List Value}, Pair (VRd E w d) l ys → Pair (VRd E' w' d) l ys := fun hr => hr.mono fun _ _ => VRd.ext h
    cases x with
    | junk => exact hv
    | v x => exact hv
    | ptr o off => obtain ⟨g, h1, h2⟩ := hv; exact ⟨g, h.j _ _ h1, h2⟩
    | slc o sz off len cap => obtain ⟨g, c, h1, h2, h3, h4, h5, h6, h7⟩ := hv; exact ⟨g, c, h.j _ _ h1, h2, h3, h4, h5, h6, by rw [h.cp _ _ h1]; exact h7⟩
    | mp o => obtain ⟨g, h1, h2⟩ := hv; exact ⟨g, h.j _ _ h1, h2⟩
    | yld o => obtain ⟨g, h1, h2⟩ := hv; exact ⟨g, h.j _ _ h1, h2⟩
    | eptr row off => obtain ⟨g, b, hy, hr⟩ := hv; exact ⟨g, b, hy, hrow hr⟩
    | lst c rows =>
      rcases hv with hv | ⟨g, b, cap, sz, h1, h2, h3, h4, h5, h6, h7⟩
      · exact .inl hv
      refine .inr ⟨g, b, cap, sz, h1, h2, h3, h4, h5, hrow h6, ?_⟩
      cases c with
      | exact => exact h7
      | unk => trivial
      | any => trivial
      | tok t e s =>
        obtain ⟨k0, k1, k2, k3⟩ := h7
        refine ⟨k0, k1, Nat.le_trans k2 (h.en t), fun he => ?_⟩
        have e1 : E'.en t = E.en t := by have := h.en t; omega
        rw [h.tk t e1]
        rcases k3 (by omega) with k0 | ⟨k4, k5, k6, k7⟩
        · exact .inl k0
        refine .inr ⟨k4, k5, k6, fun a T f ha => ?_⟩
        rw [← k4] at ha
        obtain ⟨a', T', f', ha', hs⟩ := h.row t (by omega) e1 a T f ha
        rw [k4] at ha'
        exact Nat.le_trans (k7 a' T' f' ha') hs
    | fn f first caps => obtain ⟨fs, cs, h1, h2, h3⟩ := hv; exact ⟨fs, cs, h1, hp h2, hp h3⟩
    | ifc t x => obtain ⟨z, h1, h2⟩ := hv; exact ⟨z, h1, VRd.ext h h2⟩
    | agg l => obtain ⟨ys, h1, h2⟩ := hv; exact ⟨ys, h1, hp h2⟩
    | tup l => obtain ⟨ys, h1, h2⟩ := hv; exact ⟨ys, h1, hp h2⟩

theorem VR.ext {E E' : Env} {w w' : World} (h : Ext E w E' w') {x : AV} {y : Value} : VR E w x y → VR E' w' x y := fun ⟨d, hd⟩ => ⟨d, hd.ext h⟩
end Go.AM
