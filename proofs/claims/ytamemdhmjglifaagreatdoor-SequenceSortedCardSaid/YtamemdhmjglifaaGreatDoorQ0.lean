/- The abstract machine, first text: abstract values, the relation between abstract and concrete values, and what keeps it. -/
import Derived.WalkKit
import Derived.MapKept
import Derived.OrdersIn
import Derived.RangeFuncRecord
namespace Go.AM
open Go.RowKit

inductive Cap where
  | exact
  | tok (t e s : Nat)
  | unk
  | any
  deriving DecidableEq

inductive AV : Type where
  | junk
  | v (x : Value)
  | ptr (o off : Nat)
  | eptr (row : List AV) (off : Nat)
  | lst (c : Cap) (rows : List (List AV))
  | slc (o sz off len cap : Nat)
  | mp (o : Nat)
  | yld (o : Nat)
  | fn (f : Fn) (first caps : List AV)
  | ifc (t : TypeId) (x : AV)
  | agg (l : List AV)
  | tup (l : List AV)

/-- Values without an address. -/
def flat : Value → Bool
  | .bool _ | .int _ _ | .float _ _ | .complex _ _ _ | .string _ | .pointer none | .slice none 0 0 | .map none | .chan none | .nilFunc | .nilIface => true
  | .tuple ⟨[]⟩ => true
  | _ => false

structure Env where
  j : Nat → Option Nat
  fz : Nat → Nat → Prop
  tk : Nat → Nat × Nat × Nat
  en : Nat → Nat
  cp : Nat → Nat

/-- The cells of a list stand, frozen, from b on in block g. -/
def Row (E : Env) (w : World) (R : AV → Value → Prop) (l : List AV) (g b : Nat) : Prop :=
  ∀ m x, l[m]? = some x → E.fz g (b + m) ∧ ∃ z, w.cell? ⟨g, b + m, none⟩ = some z ∧ R x z

def Pair (R : AV → Value → Prop) (l : List AV) (ys : List Value) : Prop :=
  l.length = ys.length ∧ ∀ (i : Nat) x y, l[i]? = some x → ys[i]? = some y → R x y

def VRd (E : Env) (w : World) : Nat → AV → Value → Prop
  | 0, _, _ => False
  | _ + 1, .junk, _ => True
  | _ + 1, .v x, y => flat x = true ∧ y = x
  | _ + 1, .ptr o off, y => ∃ g, E.j o = some g ∧ y = .pointer (some ⟨g, off, none⟩)
  | d + 1, .eptr row off, y => ∃ g b, y = .pointer (some ⟨g, b + off, none⟩) ∧ Row E w (VRd E w d) row g b
  | d + 1, .lst c rows, y => (rows = [] ∧ ∃ a : Option Addr, y = .slice a 0 0 ∧ (c = .any ∨ c = .unk ∧ a.isSome = true)) ∨ ∃ g b cap sz, y = .slice (some ⟨g, b, none⟩) rows.length cap ∧ rows.length ≤ cap ∧ cap ≤ maxLen ∧ 0 < sz ∧ (∀ r ∈ rows, r.length = sz) ∧
      Row E w (VRd E w d) rows.flatten g b ∧
      (match c with
        | .exact => cap = rows.length
        | .tok t e s => s = sz ∧ 1 ≤ e ∧ e ≤ E.en t ∧ (e = E.en t → cap = 0 ∨ ((E.tk t).1 = g ∧ (E.tk t).2.1 = b + rows.length * sz ∧ (E.tk t).2.2 = sz ∧ ∀ a T f, w.heap[g]? = some (.cells a T f) → b + cap * sz ≤ a.size))
        | .unk => True
        | .any => True)
  | _ + 1, .slc o sz off len cap, y => ∃ g c, E.j o = some g ∧ y = .slice (some ⟨g, off, none⟩) len c ∧ len ≤ cap ∧ cap ≤ c ∧ c ≤ maxLen ∧ 0 < sz ∧ off + c * sz ≤ E.cp o
  | _ + 1, .mp o, y => ∃ g, E.j o = some g ∧ y = .map (some g)
  | _ + 1, .yld o, y => ∃ g, E.j o = some g ∧ y = .func (.yield g) #[] #[]
  | d + 1, .fn f first caps, y => ∃ fs cs : List Value, y = .func f fs.toArray cs.toArray ∧ Pair (VRd E w d) first fs ∧ Pair (VRd E w d) caps cs
  | d + 1, .ifc t x, y => ∃ z, y = .iface t z ∧ VRd E w d x z
  | d + 1, .agg l, y => ∃ ys : List Value, y = .agg ys.toArray ∧ Pair (VRd E w d) l ys
  | d + 1, .tup l, y => ∃ ys : List Value, y = .tuple ys.toArray ∧ Pair (VRd E w d) l ys

def VR (E : Env) (w : World) (x : AV) (y : Value) : Prop := ∃ d, VRd E w d x y

theorem Row.mono {E : Env} {w : World} {R R' : AV → Value → Prop} {l : List AV} {g b : Nat} (h : Row E w R l g b) (hr : ∀ x y, R x y → R' x y) : Row E w R' l g b :=
  fun m x hx => let ⟨a, z, hz, hR⟩ := h m x hx; ⟨a, z, hz, hr _ _ hR⟩

theorem Pair.mono {R R' : AV → Value → Prop} {l : List AV} {ys : List Value} (h : Pair R l ys) (hr : ∀ x y, R x y → R' x y) : Pair R' l ys :=
  ⟨h.1, fun i x y hx hy => hr _ _ (h.2 i x y hx hy)⟩

theorem VRd.succ {E : Env} {w : World} : ∀ {d : Nat} {x : AV} {y : Value}, VRd E w d x y → VRd E w (d + 1) x y
  | 0, _, _, h => h.elim
  | d + 1, x, y, h => by
    cases x with
    | junk => exact h
    | v x => exact h
    | ptr o off => exact h
    | slc o sz off len cap => exact h
    | mp o => exact h
    | yld o => exact h
    | eptr row off => obtain ⟨g, b, hy, hr⟩ := h; exact ⟨g, b, hy, hr.mono fun _ _ => VRd.succ⟩
    | lst c rows =>
      rcases h with h | ⟨g, b, cap, sz, h1, h2, h3, h4, h5, h6, h7⟩
      · exact .inl h
      · exact .inr ⟨g, b, cap, sz, h1, h2, h3, h4, h5, h6.mono fun _ _ => VRd.succ, h7⟩
    | fn f first caps => obtain ⟨fs, cs, h1, h2, h3⟩ := h; exact ⟨fs, cs, h1, h2.mono fun _ _ => VRd.succ, h3.mono fun _ _ => VRd.succ⟩
    | ifc t x => obtain ⟨z, h1, h2⟩ := h; exact ⟨z, h1, VRd.succ h2⟩
    | agg l => obtain ⟨ys, h1, h2⟩ := h; exact ⟨ys, h1, h2.mono fun _ _ => VRd.succ⟩
    | tup l => obtain ⟨ys, h1, h2⟩ := h; exact ⟨ys, h1, h2.mono fun _ _ => VRd.succ⟩

theorem VRd.le {E : Env} {w : World} {d d' : Nat} {x : AV} {y : Value} (h : VRd E w d x y) (hd : d ≤ d') : VRd E w d' x y := by
  induction hd with
  | refl => exact h
  | step _ ih => exact ih.succ

/-- One depth for all elements of a list. -/
theorem uniform {Pd : Nat → Nat → AV → Prop} (hm : ∀ d d' m x, d ≤ d' → Pd d m x → Pd d' m x) : ∀ (l : List AV) (k : Nat), (∀ m x, l[m]? = some x → ∃ d, Pd d (k + m) x) → ∃ d, ∀ m x, l[m]? = some x → Pd d (k + m) x
  | [], _, _ => ⟨0, by simp⟩
  | a :: l, k, h => by
    obtain ⟨d1, h1⟩ := h 0 a rfl
    obtain ⟨d2, h2⟩ := uniform hm l (k + 1) (fun m x hx => by
      obtain ⟨d, hd⟩ := h (m + 1) x (by simpa using hx)
      exact ⟨d, by rw [show k + 1 + m = k + (m + 1) by omega]; exact hd⟩)
    refine ⟨max d1 d2, fun m x hx => ?_⟩
    cases m with
    | zero => simp at hx; subst hx; exact hm _ _ _ _ (Nat.le_max_left _ _) h1
    | succ m => exact hm _ _ _ _ (Nat.le_max_right _ _) (by have := h2 m x (by simpa using hx); rwa [show k + 1 + m = k + (m + 1) by omega] at this)

theorem Pair.depth {E : Env} {w : World} {l : List AV} {ys : List Value} (h : Pair (VR E w) l ys) : ∃ d, Pair (VRd E w d) l ys := by
  obtain ⟨d, hd⟩ := uniform (Pd := fun d m x => ∀ y, ys[m]? = some y → VRd E w d x y) (fun d d' m x hd h y hy => (h y hy).le hd) l 0 (fun m x hx => by
    have hlt : m < ys.length := by rw [← h.1]; exact (List.getElem?_eq_some_iff.1 hx).1
    obtain ⟨d, hd⟩ := h.2 m x ys[m] hx (by simp [hlt])
    refine ⟨d, fun y hy => ?_⟩
    simp only [Nat.zero_add] at hy
    rw [List.getElem?_eq_getElem hlt] at hy
    cases hy
    exact hd)
  exact ⟨d, h.1, fun i x y hx hy => hd i x hx y (by simpa using hy)⟩

theorem Row.depth {E : Env} {w : World} {l : List AV} {g b : Nat} (h : Row E w (VR E w) l g b) : ∃ d, Row E w (VRd E w d) l g b := by
  obtain ⟨d, hd⟩ := uniform (Pd := fun d m x => E.fz g (b + m) ∧ ∃ z, w.cell? ⟨g, b + m, none⟩ = some z ∧ VRd E w d x z) (fun d d' m x hd h => ⟨h.1, let ⟨z, h1, h2⟩ := h.2; ⟨z, h1, h2.le hd⟩⟩) l 0 (fun m x hx => by
    obtain ⟨h1, z, h2, d, h3⟩ := h m x hx
    exact ⟨d, by simpa using ⟨h1, z, h2, h3⟩⟩)
  exact ⟨d, fun m x hx => by simpa using hd m x hx⟩

structure Ext (E : Env) (w : World) (E' : Env) (w' : World) : Prop where
  j : ∀ o g, E.j o = some g → E'.j o = some g
  fz : ∀ g k, E.fz g k → E'.fz g k
  cell : ∀ g k, E.fz g k → w'.cell? ⟨g, k, none⟩ = w.cell? ⟨g, k, none⟩
  en : ∀ t, E.en t ≤ E'.en t
  tk : ∀ t, E'.en t = E.en t → E'.tk t = E.tk t
  row : ∀ t, 0 < E.en t → E'.en t = E.en t → ∀ a T f, w'.heap[(E.tk t).1]? = some (.cells a T f) → ∃ a' T' f', w.heap[(E.tk t).1]? = some (.cells a' T' f') ∧ a'.size ≤ a.size
  cp : ∀ o g, E.j o = some g → E'.cp o = E.cp o

theorem VRd.ext {E E' : Env} {w w' : World} (h : Ext E w E' w') : ∀ {d : Nat} {x : AV} {y : Value}, VRd E w d x y → VRd E' w' d x y
  | 0, _, _, hv => hv.elim
  | d + 1, x, y, hv => by
    have hrow : ∀ {l : List AV} {g b : Nat}, Row E w (VRd E w d) l g b → Row E' w' (VRd E' w' d) l g b := fun hr m x hx =>
      let ⟨h1, z, h2, h3⟩ := hr m x hx; ⟨h.fz _ _ h1, z, (h.cell _ _ h1).trans h2, VRd.ext h h3⟩
    have hp : ∀ {l : List AV} {ys : List Value}, Pair (VRd E w d) l ys → Pair (VRd E' w' d) l ys := fun hr => hr.mono fun _ _ => VRd.ext h
    cases x with
    | junk => exact hv
    | v x => exact hv
    | ptr o off => obtain ⟨g, h1, h2⟩ := hv; exact ⟨g, h.j _ _ h1, h2⟩
    | slc o sz off len cap => obtain ⟨g, c, h1, h2, h3, h4, h5, h6, h7⟩ := hv; exact ⟨g, c, h.j _ _ h1, h2, h3, h4, h5, h6, by rw [h.cp _ _ h1]; exact h7⟩
    | mp o => obtain ⟨g, h1, h2⟩ := hv; exact ⟨g, h.j _ _ h1, h2⟩
    | yld o => obtain ⟨g, h1, h2⟩ := hv; exact ⟨g, h.j _ _ h1, h2⟩
    | eptr row off => obtain ⟨g, b, hy, hr⟩ := hv; exact ⟨g, b, hy, hrow hr⟩
    | lst c rows =>
      rcases hv with hv | ⟨g, b, cap, sz, h1, h2, h3, h4, h5, h6, h7⟩
      · exact .inl hv
      refine .inr ⟨g, b, cap, sz, h1, h2, h3, h4, h5, hrow h6, ?_⟩
      cases c with
      | exact => exact h7
      | unk => trivial
      | any => trivial
      | tok t e s =>
        obtain ⟨k0, k1, k2, k3⟩ := h7
        refine ⟨k0, k1, Nat.le_trans k2 (h.en t), fun he => ?_⟩
        have e1 : E'.en t = E.en t := by have := h.en t; omega
        rw [h.tk t e1]
        rcases k3 (by omega) with k0 | ⟨k4, k5, k6, k7⟩
        · exact .inl k0
        refine .inr ⟨k4, k5, k6, fun a T f ha => ?_⟩
        rw [← k4] at ha
        obtain ⟨a', T', f', ha', hs⟩ := h.row t (by omega) e1 a T f ha
        rw [k4] at ha'
        exact Nat.le_trans (k7 a' T' f' ha') hs
    | fn f first caps => obtain ⟨fs, cs, h1, h2, h3⟩ := hv; exact ⟨fs, cs, h1, hp h2, hp h3⟩
    | ifc t x => obtain ⟨z, h1, h2⟩ := hv; exact ⟨z, h1, VRd.ext h h2⟩
    | agg l => obtain ⟨ys, h1, h2⟩ := hv; exact ⟨ys, h1, hp h2⟩
    | tup l => obtain ⟨ys, h1, h2⟩ := hv; exact ⟨ys, h1, hp h2⟩

theorem VR.ext {E E' : Env} {w w' : World} (h : Ext E w E' w') {x : AV} {y : Value} : VR E w x y → VR E' w' x y := fun ⟨d, hd⟩ => ⟨d, hd.ext h⟩
end Go.AM

/- The abstract machine, second text: the abstract store and what one operation does to it. -/
namespace Go.AM
open Go.RowKit

structure AEnt where
  key : AV
  val : AV
  born : Nat

/-- A loop over a function: its record. -/
structure ALoop where
  state : LoopState
  pending : Option Code
  hint : FuncId
  tmps : List AV
  params : Array Tmp
  assign : Code
  body : Code
  defers : Nat

inductive AObj where
  | cells (l : List AV) (T : TypeId)
  | map (es : List AEnt) (clock : Nat)
  | loop (r : ALoop)
  | dfr
  | iter (s : ByteArray) (pos : Nat)
  | dead

structure AS where
  objs : List AObj := []
  ends : List Nat := []
  low : Nat := 0
  tlow : Nat := 0

def undefA : AV := .v (.tuple #[])

def AV.cells : AV → List AV
  | .agg l => l
  | x => [x]

/-- May it stand in one cell? -/
def AV.one : AV → Bool
  | .junk | .agg _ | .tup _ => false
  | .v (.tuple _) => false
  | _ => true

def aggOf (t : TypeId) (P : Program) : Option Bool :=
  match P.underlying t with
  | some (.struct _) | some (.array _ _) => some true
  | some _ => some false
  | none => none

def szOf (P : Program) (t : TypeId) : Option Nat := (P.info? t).map (·.size)

/-- The value of a program that neither reads nor writes memory. -/
def peval (P : Program) {α : Type} : Sem α → Option α
  | .pure a => some a
  | .program k => peval P (k P)
  | .mark _ k => peval P k
  | _ => none

def ofV (x : Value) : Option AV := if flat x then some (.v x) else none

def chunks (sz : Nat) : Nat → List AV → List (List AV)
  | 0, _ => []
  | n + 1, l => l.take sz :: chunks sz n (l.drop sz)

def AS.push (S : AS) (o : AObj) : AS := { S with objs := S.objs ++ [o] }
def AS.set (S : AS) (i : Nat) (o : AObj) : AS := { S with objs := S.objs.set i o, low := min S.low i }
def AS.tokN (S : AS) (e : Nat) : AS := { S with ends := S.ends ++ [e] }
def AS.tokS (S : AS) (t e : Nat) : AS := { S with ends := S.ends.set t e, tlow := min S.tlow t }

/-- What a load reads out of cells. -/
def pick (P : Program) (t : TypeId) (l : List AV) (off : Nat) : Option AV :=
  match aggOf t P with
  | some true => (szOf P t).bind fun n => if off + n ≤ l.length then some (.agg ((l.drop off).take n)) else none
  | some false => l[off]?
  | none => none

def AS.cellsAt (S : AS) (o : Nat) : Option (List AV × TypeId) :=
  match S.objs[o]? with
  | some (.cells l T) => some (l, T)
  | _ => none

def AS.mapAt (S : AS) (o : Nat) : Option (List AEnt × Nat) :=
  match S.objs[o]? with
  | some (.map es c) => some (es, c)
  | _ => none

def aload (P : Program) (S : AS) (t : TypeId) : AV → Option AV
  | .ptr o off => (S.cellsAt o).bind fun p => pick P t p.1 off
  | .eptr row off => pick P t row off
  | _ => none

def splice (l : List AV) (off : Nat) (xs : List AV) : List AV := l.take off ++ xs ++ l.drop (off + xs.length)

def astore (P : Program) (S : AS) (t : TypeId) (x : AV) : AV → Option AS
  | .ptr o off => (S.cellsAt o).bind fun p =>
      if x.cells.all AV.one && szOf P t == some x.cells.length && decide (off + x.cells.length ≤ p.1.length) then some (S.set o (.cells (splice p.1 off x.cells) p.2)) else none
  | _ => none

def afield (P : Program) (s : TypeId) (f : Nat) : Option (Nat × TypeId) :=
  match P.underlying s with
  | some (.struct fs) => (fs[f]?).bind fun x => if szOf P x.type = some 0 then none else if (szOf P x.type).isSome then some (x.offset, x.type) else none
  | _ => none

def afieldAddr (P : Program) (s : TypeId) (f : Nat) : AV → Option AV
  | .ptr o off => (afield P s f).map fun p => .ptr o (off + p.1)
  | .eptr row off => (afield P s f).map fun p => .eptr row (off + p.1)
  | _ => none

def apart (P : Program) (t : TypeId) (l : List AV) (off : Nat) : Option AV := pick P t l off

def aintOf : AV → Option Int
  | .v (.int _ n) => some n
  | _ => none

def aindexAddr (P : Program) (t : TypeId) (x i : AV) : Option AV :=
  (aintOf i).bind fun i =>
  match P.underlying t, x with
  | some (.slice e), .lst _ rows => if 0 ≤ i then (rows[i.toNat]?).bind fun r => if szOf P e = some r.length then some (.eptr r 0) else none else none
  | some (.slice e), .slc o sz off len _ => if 0 ≤ i ∧ i < len ∧ szOf P e = some sz then some (.ptr o (off + i.toNat * sz)) else none
  | some (.array n e), .ptr o off => (szOf P e).bind fun sz => if 0 ≤ i ∧ i < n then some (.ptr o (off + i.toNat * sz)) else none
  | some (.array n e), .eptr row off => (szOf P e).bind fun sz => if 0 ≤ i ∧ i < n then some (.eptr row (off + i.toNat * sz)) else none
  | _, _ => none

def afill (place : Nat → Option (Nat × Nat)) (cells : List AV) : List (Nat × AV) → Option (List AV)
  | [] => some cells
  | (i, x) :: rest =>
    (place i).bind fun p =>
      if x.cells.length = p.2 ∧ x.cells.all AV.one ∧ p.1 + x.cells.length ≤ cells.length then afill place (splice cells p.1 x.cells) rest else none

def azero (P : Program) (t : TypeId) : Option (List AV) :=
  (P.info? t).bind fun i => (i.zero).bind fun z => if z.cells.toList.all flat then some (z.cells.toList.map .v) else none

/-- The zero value as one value. -/
def azeroV (P : Program) (t : TypeId) : Option AV :=
  (P.info? t).bind fun i => (i.zero).bind fun z =>
    match z with
    | .agg cs => if cs.toList.all flat then some (.agg (cs.toList.map .v)) else none
    | z => if flat z then some (.v z) else none

def abuild (P : Program) (t : TypeId) (parts : List (Nat × AV)) : Option AV :=
  (azero P t).bind fun z =>
  match P.underlying t with
  | some (.struct fs) =>
    (fs.toList.mapM fun f => (P.info? f.type).map fun i => (f.offset, i.size)).bind fun places => (afill (places.toArray[·]?) z parts).map .agg
  | some (.array _ e) => (P.info? e).bind fun ie => (afill (fun i => some (i * ie.size, ie.size)) z parts).map .agg
  | _ => none

def isRow (P : Program) (t : TypeId) : Option (TypeId × Nat) :=
  match P.underlying t with
  | some (.slice e) => (szOf P e).bind fun sz => if sz = 0 then none else some (e, sz)
  | _ => none

def abuildSlice (P : Program) (mu : Bool) (S : AS) (t : TypeId) (len : Nat) (parts : List (Nat × AV)) : Option (AV × AS) :=
  (isRow P t).bind fun p => (azero P p.1).bind fun z =>
    if z.length = p.2 ∧ len * p.2 ≤ 2 ^ 24 ∧ len ≤ maxLen then
      (afill (fun i => some (i * p.2, p.2)) (List.replicate len z).flatten parts).map fun cs =>
        if mu then (.slc S.objs.length p.2 0 len len, S.push (.cells cs p.1)) else (.lst .exact (chunks p.2 len cs), S)
    else none

def amakeSlice (P : Program) (mu : Bool) (S : AS) (t : TypeId) (l c : AV) : Option (AV × AS) :=
  (isRow P t).bind fun p => (azero P p.1).bind fun z => (P.info? p.1).bind fun i => (aintOf l).bind fun l => (aintOf c).bind fun c =>
    if z.length = p.2 ∧ 0 ≤ l ∧ l ≤ c ∧ c ≤ 4611686018427387904 ∧ (i.bytes : Int) * c ≤ 2 ^ 47 then
      if mu then some (.slc S.objs.length p.2 0 l.toNat c.toNat, S.push (.cells (List.replicate c.toNat z).flatten p.1))
      else if l = c then some (.lst .exact (List.replicate l.toNat z), S) else none
    else none

/-- The open end of a part of a list. -/
def capOf : Cap → Bool → Cap
  | .any, _ => .any
  | .exact, b => cond b .exact .unk
  | .tok t e s, b => cond b (.tok t e s) .unk
  | .unk, _ => .unk

def aslice (P : Program) (t : TypeId) (x : AV) (lo hi mx : Option AV) : Option AV :=
  let n (d : Nat) (o : Option AV) : Option Int := match o with | none => some d | some x => aintOf x
  match P.underlying t, x with
  | some .string, .v (.string s) => (n 0 lo).bind fun l => (n s.size hi).bind fun h => if mx.isNone ∧ 0 ≤ l ∧ l ≤ h ∧ h ≤ s.size then some (.v (.string (s.extract l.toNat h.toNat))) else none
  | some (.slice e), .lst c rows => (n 0 lo).bind fun l => (n rows.length hi).bind fun h =>
      if 0 ≤ l ∧ l ≤ h ∧ h ≤ rows.length ∧ (l = 0 ∨ (rows.head?).map List.length = szOf P e) ∧ (szOf P e).isSome then
        match mx with
        | none => some (.lst (capOf c (decide (h = (rows.length : Int)))) ((rows.take h.toNat).drop l.toNat))
        | some m => (aintOf m).bind fun m => if m = h ∧ hi.isSome ∧ c ≠ .any ∧ (c = .unk → rows ≠ []) then some (.lst .exact ((rows.take h.toNat).drop l.toNat)) else none
      else none
  | some (.slice e), .slc o sz off len cap => (n 0 lo).bind fun l => (n len hi).bind fun h =>
      if 0 ≤ l ∧ l ≤ h ∧ h ≤ cap ∧ szOf P e = some sz then
        match mx with
        | none => if l = 0 then some (.slc o sz off h.toNat cap) else if l < cap then some (.slc o sz (off + l.toNat * sz) (h - l).toNat (cap - l.toNat)) else some (.lst .unk [])
        | some _ => none
      else none
  | some (.slice _), .v (.slice none 0 0) => (n 0 lo).bind fun l => (n 0 hi).bind fun h => if mx.isNone ∧ l = 0 ∧ h = 0 ∧ (isRow P t).isSome then some (.v (.slice none 0 0)) else none
  | _, _ => none

/-- Keys: are they the same? 'none' where that is not known. -/
def keyEq (d : TypeDesc) : AV → AV → Option Bool
  | .v a, .v b => Instr.sameNow d a b
  | _, _ => none

def afind (d : TypeDesc) (k : AV) : List AEnt → Nat → Option (Option (Nat × AV))
  | [], _ => some none
  | e :: es, i =>
    match keyEq d k e.key with
    | some true => some (some (i, e.val))
    | some false => afind d k es (i + 1)
    | none => none

def isKeyB : TypeDesc → AV → Bool
  | .int k, .v (.int k' _) => decide (k' = k)
  | .string, .v (.string _) | .bool, .v (.bool _) => true
  | _, _ => false

def flatsV : List AV → Option (List Value)
  | [] => some []
  | .v x :: l => (flatsV l).map fun r => x :: r
  | _ :: _ => none

/-- A key of several parts, each without an address. -/
def keyV : AV → Option Value
  | .agg l => (flatsV l).map fun vs => .agg vs.toArray
  | _ => none

def afindG (P : Program) (kt : TypeId) (k : Value) : List AEnt → Nat → Option (Option (Nat × AV))
  | [], _ => some none
  | e :: es, i => (keyV e.key).bind fun kv => (peval P (Op.equal kt k kv)).bind fun b => if b then some (some (i, e.val)) else afindG P kt k es (i + 1)

def aentries (S : AS) : AV → Option (List AEnt)
  | .v (.map none) => some []
  | .mp o => (S.mapAt o).map Prod.fst
  | _ => none

def alookup (P : Program) (S : AS) (t : TypeId) (m k : AV) (ok : Bool) : Option AV :=
  match P.underlying t with
  | some (.map kt e) =>
    (P.underlying kt).bind fun d =>
    if isKeyB d k then
      (match m with
        | .v (.map none) => some ([] : List AEnt)
        | .mp o => (S.mapAt o).map Prod.fst
        | _ => (none : Option (List AEnt))).bind fun es =>
      (afind d k es 0).bind fun r =>
        match r with
        | some (_, x) => some (if ok then .tup [x, .v (.bool true)] else x)
        | none => (azeroV P e).bind fun z => some (if ok then .tup [z, .v (.bool false)] else z)
    else
      (aentries S m).bind fun es => (keyV k).bind fun kv => (peval P (Instr.checkKey es.isEmpty 10000 kt kv)).bind fun _ => (afindG P kt kv es 0).bind fun r =>
        match r with
        | some (_, x) => some (if ok then .tup [x, .v (.bool true)] else x)
        | none => (azeroV P e).bind fun z => some (if ok then .tup [z, .v (.bool false)] else z)
  | _ => none

def amapUpdate (P : Program) (S : AS) (t : TypeId) (m k x : AV) : Option AS :=
  match P.underlying t, m with
  | some (.map kt _), .mp o =>
    (P.underlying kt).bind fun d =>
    if isKeyB d k then
      (S.mapAt o).bind fun p => (afind d k p.1 0).bind fun r =>
        match r with
        | some (i, _) => some (S.set o (.map (p.1.modify i fun e => { e with key := k, val := x }) p.2))
        | none => some (S.set o (.map (p.1 ++ [{ key := k, val := x, born := p.2 }]) (p.2 + 1)))
    else
      (S.mapAt o).bind fun p => (keyV k).bind fun kv => (peval P (Instr.checkKey false 10000 kt kv)).bind fun _ => (afindG P kt kv p.1 0).bind fun r =>
        match r with
        | some _ => none
        | none => some (S.set o (.map (p.1 ++ [{ key := k, val := x, born := p.2 }]) (p.2 + 1)))
  | _, _ => none

def nilP : AV → Option Bool
  | .v (.pointer none) => some true
  | .ptr _ _ | .eptr _ _ => some false
  | _ => none
def nilS : AV → Option Bool
  | .v (.slice none 0 0) => some true
  | .lst .any [] => none
  | .lst _ _ | .slc _ _ _ _ _ => some false
  | _ => none
def nilM : AV → Option Bool
  | .v (.map none) => some true
  | .mp _ => some false
  | _ => none
def nilF : AV → Option Bool
  | .v .nilFunc => some true
  | .fn _ _ _ | .yld _ => some false
  | _ => none

def bothNil (p q : Option Bool) : Option Bool := p.bind fun p => q.bind fun q => if p || q then some (p && q) else none

/-- '==' on what is no scalar: against nil, or of two pointers into the store. -/
def aeq (P : Program) (S : AS) (t : TypeId) (x y : AV) : Option Bool :=
  match P.underlying t with
  | some (.pointer e) =>
    match x, y with
    | .ptr o a, .ptr o' b => (szOf P e).bind fun n => if n = 0 then none else if o = o' then some (a == b) else if (S.cellsAt o).isSome && (S.cellsAt o').isSome then some false else none
    | _, _ => bothNil (nilP x) (nilP y)
  | some (.slice _) => bothNil (nilS x) (nilS y)
  | some (.map _ _) => bothNil (nilM x) (nilM y)
  | some (.func _ _ _) => bothNil (nilF x) (nilF y)
  | _ => none

def abin (P : Program) (S : AS) (op : BinOp) (t : TypeId) (x y : AV) : Option AV :=
  match x, y with
  | .v (.int k a), .v (.int k' b) => (peval P (binOp op t (.int k a) (.int k' b))).bind ofV
  | .v (.string a), .v (.string b) => (peval P (binOp op t (.string a) (.string b))).bind ofV
  | .v (.bool a), .v (.bool b) => (peval P (binOp op t (.bool a) (.bool b))).bind ofV
  | .agg l, .agg m => (keyV (.agg l)).bind fun a => (keyV (.agg m)).bind fun b => (peval P (eqGuard op t (.tmp 0) (.tmp 0) a b)).bind fun _ => (peval P (binOp op t a b)).bind ofV
  | _, _ =>
    match op with
    | .eql => (aeq P S t x y).map fun b => .v (.bool b)
    | .neq => (aeq P S t x y).map fun b => .v (.bool (!b))
    | _ => none

/-- '[]byte(s)'. -/
def abytes (P : Program) (src dst : TypeId) : AV → Option AV
  | .v (.string s) =>
    match P.underlying src, P.underlying dst with
    | some .string, some (.slice e) =>
      match P.underlying e with
      | some (.int .u8) => if s.size ≤ maxLen then some (.lst .unk (s.data.toList.map fun b => [.v (.int .u8 b.toNat)])) else none
      | _ => none
    | _, _ => none
  | _ => none

def aconvert (P : Program) (src dst : TypeId) (x : AV) : Option AV :=
  match abytes P src dst x with
  | some y => some y
  | none =>
  match x with
  | .v x => (peval P (convert src dst x)).bind ofV
  | _ => none

def aindex (P : Program) (t : TypeId) (x i : AV) : Option AV :=
  (aintOf i).bind fun n =>
  match P.underlying t, x with
  | some .string, .v (.string s) => if 0 ≤ n then (s[n.toNat]?).map fun b => .v (.int .u8 b.toNat) else none
  | some (.array len e), .agg l => if 0 ≤ n ∧ n < len then (szOf P e).bind fun sz => apart P e l (n.toNat * sz) else none
  | _, _ => none

def aextract : AV → Nat → Option AV
  | .tup l, i => l[i]?
  | _, _ => none

/-- The elements of a slice. -/
def rowsOf (S : AS) (sz : Nat) : AV → Option (List (List AV))
  | .v (.slice none 0 0) => some []
  | .lst _ rows => if rows.all (fun r => r.length == sz && r.all AV.one) then some rows else none
  | .slc o sz' off len _ => if sz' = sz then (S.cellsAt o).bind fun p => if ((p.1.drop off).take (len * sz)).length = len * sz ∧ ((p.1.drop off).take (len * sz)).all AV.one then some (chunks sz len ((p.1.drop off).take (len * sz))) else none else none
  | _ => none

def aappend (P : Program) (mu : Bool) (S : AS) (t : TypeId) (s x : AV) : Option (AV × AS) :=
  (isRow P t).bind fun p => (azero P p.1).bind fun z => (P.info? p.1).bind fun i => (rowsOf S p.2 x).bind fun rows =>
    if z.length ≠ p.2 then none else
    match s with
    | .v (.slice none 0 0) =>
      if rows.length = 0 then some (s, S)
      else if rows.length * i.bytes ≤ 140737488355328 ∧ rows.length ≤ maxLen then
        if mu then some (.slc S.objs.length p.2 0 rows.length rows.length, S.push (.cells rows.flatten p.1)) else some (.lst (.tok S.ends.length rows.length p.2) rows, S.tokN rows.length)
      else none
    | .lst c rows0 =>
      if rows.length = 0 then some (s, S)
      else if rows0.all (fun r => r.length == p.2) ∧ (rows0.length + rows.length) * i.bytes ≤ 140737488355328 ∧ rows0.length + rows.length ≤ maxLen then
        match c with
        | .exact => if mu then some (.slc S.objs.length p.2 0 (rows0.length + rows.length) (rows0.length + rows.length), S.push (.cells (rows0.flatten ++ rows.flatten) p.1)) else some (.lst (.tok S.ends.length (rows0.length + rows.length) p.2) (rows0 ++ rows), S.tokN (rows0.length + rows.length))
        | .tok t e s => if S.ends[t]? = some e ∧ s = p.2 then some (.lst (.tok t (e + rows.length) s) (rows0 ++ rows), S.tokS t (e + rows.length)) else none
        | .unk => none
        | .any => none
      else none
    | .slc o sz off len cap =>
      if sz = p.2 then
        if rows.length = 0 then some (s, S)
        else (S.cellsAt o).bind fun q =>
          if len + rows.length ≤ cap ∧ off + cap * sz ≤ q.1.length then some (.slc o sz off (len + rows.length) cap, S.set o (.cells (splice q.1 (off + len * sz) rows.flatten) q.2))
          else if cap < len + rows.length ∧ off = 0 ∧ q.2 = p.1 ∧ (len + rows.length) * i.bytes ≤ 140737488355328 ∧ len + rows.length ≤ maxLen ∧ len * sz ≤ q.1.length then
            some (.slc S.objs.length sz 0 (len + rows.length) (len + rows.length), (S.set o .dead).push (.cells (q.1.take (len * sz) ++ rows.flatten) p.1))
          else none
      else none
    | _ => none

def alen (P : Program) (S : AS) (t : TypeId) (x : AV) : Option AV :=
  match P.underlying t with
  | some .string => match x with | .v (.string s) => some (.v (.int .i64 s.size)) | _ => none
  | some (.array n _) => some (.v (.int .i64 n))
  | some (.slice _) => match x with | .v (.slice none 0 0) => some (.v (.int .i64 0)) | .lst _ rows => some (.v (.int .i64 rows.length)) | .slc _ _ _ len _ => some (.v (.int .i64 len)) | _ => none
  | some (.map _ _) => match x with | .v (.map none) => some (.v (.int .i64 0)) | .mp o => (S.mapAt o).map fun p => .v (.int .i64 p.1.length) | _ => none
  | _ => none

def acopy (P : Program) (S : AS) (t : TypeId) (d x : AV) : Option (AV × AS) :=
  (isRow P t).bind fun p => (rowsOf S p.2 x).bind fun rows =>
    match d with
    | .v (.slice none 0 0) => some (.v (.int .i64 0), S)
    | .lst _ [] => some (.v (.int .i64 0), S)
    | .slc o sz off len _ =>
      if sz = p.2 then (S.cellsAt o).bind fun q =>
        if off + min rows.length len * sz ≤ q.1.length then some (.v (.int .i64 (min rows.length len : Nat)), S.set o (.cells (splice q.1 off (rows.take (min rows.length len)).flatten) q.2)) else none
      else none
    | _ => none

/-- 'append(nil, make([]T, n)...)': the translation hands over the number. -/
def zerosA (z : List AV) (n : Nat) : List AV := (List.range (n * z.length)).map fun i => (z[i % z.length]?).getD undefA

def aappendN (P : Program) (mu : Bool) (S : AS) (t tn : TypeId) (s x : AV) : Option (AV × AS) :=
  match s, x, P.underlying tn with
  | .v (.slice none 0 0), .v (.int _ (.ofNat n)), some (.int _) =>
    (isRow P t).bind fun p => (azero P p.1).bind fun z => (P.info? p.1).bind fun i =>
      if z.length = p.2 ∧ mu = true ∧ 0 < n ∧ n * i.bytes ≤ 140737488355328 ∧ n ≤ maxLen then some (.slc S.objs.length p.2 0 n n, S.push (.cells (zerosA z n) p.1)) else none
  | _, _, _ => none

/-- 'clear' of a slice: nothing is said of what stands there behind it. -/
def aclear (P : Program) (S : AS) (t : TypeId) (x : AV) : Option AS :=
  (isRow P t).bind fun p => (azero P p.1).bind fun z =>
    match x with
    | .lst _ [] => some S
    | .v (.slice none 0 0) => some S
    | .slc o sz off len _ =>
      if sz = p.2 ∧ z.length = p.2 ∧ z.all AV.one ∧ 0 < len then (S.cellsAt o).bind fun q => if off + len * sz ≤ q.1.length then some (S.set o (.cells (splice q.1 off (List.replicate (len * sz) .junk)) q.2)) else none
      else if len = 0 then some S else none
    | _ => none

def abuiltin (P : Program) (mu : Bool) (S : AS) (b : Builtin) (ts : Array TypeId) (type : TypeId) (args : List AV) : Option (AV × AS) :=
  match b, args with
  | .len, [x] => (ts[0]?).bind fun t => (alen P S t x).map fun v => (v, S)
  | .append, [s, x] => (ts[0]?).bind fun t => if ts[1]? = some t then aappend P mu S t s x else (ts[1]?).bind fun tn => aappendN P mu S t tn s x
  | .copy, [d, x] => (ts[0]?).bind fun t => if ts[1]? = some t then acopy P S t d x else none
  | .min, l => (flatsV l).bind fun vs => ((peval P (Builtin.min_ ts type vs.toArray)).bind ofV).map fun v => (v, S)
  | .max, l => (flatsV l).bind fun vs => ((peval P (Builtin.max_ ts type vs.toArray)).bind ofV).map fun v => (v, S)
  | .clear, [x] => (ts[0]?).bind fun t => (aclear P S t x).map fun S' => (undefA, S')
  | .cap, [.v (.slice none 0 0)] => (ts[0]?).bind fun t => if (isRow P t).isSome then some (.v (.int .i64 0), S) else none
  | _, _ => none

/-- '==' and '!=' of interface values, one of them nil. -/
def nilI : AV → Option Bool
  | .v .nilIface => some true
  | .ifc _ _ => some false
  | _ => none

def constOp : Operand → Bool
  | .const _ => true
  | _ => false

def aifc (P : Program) (c : Bool) (op : BinOp) (t : TypeId) (x y : AV) : Option AV :=
  match P.underlying t with
  | some (.interface _) =>
    (nilI x).bind fun p => (nilI y).bind fun q =>
      if (p && q && c) || (p != q) then
        match op with
        | .eql => some (.v (.bool (p && q)))
        | .neq => some (.v (.bool (!(p && q))))
        | _ => none
      else none
  | _ => none

def abinI (P : Program) (S : AS) (c : Bool) (op : BinOp) (t : TypeId) (x y : AV) : Option AV :=
  match aifc P c op t x y with
  | some v => some v
  | none => abin P S op t x y

/-- A range over a string: its iterator; the next rune. -/
def arange0 (P : Program) (S : AS) (t : TypeId) : AV → Option (AV × AS)
  | .v (.string s) => match P.underlying t with | some .string => some (.ptr S.objs.length 0, S.push (.iter s 0)) | _ => none
  | _ => none

def anext (S : AS) : AV → Bool → Option (AV × AS)
  | .ptr o 0, true =>
    match S.objs[o]? with
    | some (.iter s pos) =>
      if pos < s.size then some (.tup [.v (.bool true), .v (.int .i64 pos), .v (.int .i32 (Utf8.decode s pos).1)], S.set o (.iter s (pos + (Utf8.decode s pos).2)))
      else some (.tup [.v (.bool false)], S)
    | _ => none
  | _, _ => none

def u8s : List (List AV) → Option (List Int)
  | [] => some []
  | [.v (.int .u8 n)] :: l => match u8s l with | some ns => some (n :: ns) | none => none
  | _ => none

/-- 'string(b)' of bytes. -/
def astr (P : Program) (S : AS) (src dst : TypeId) (x : AV) : Option AV :=
  match P.underlying src, P.underlying dst with
  | some (.slice e), some .string =>
    match P.underlying e with
    | some (.int .u8) => (rowsOf S 1 x).bind fun rows => (u8s rows).map fun ns => .v (.string (ns.foldl (fun s n => s.push (UInt8.ofNat n.toNat)) ByteArray.empty))
    | _ => none
  | _, _ => none

/-- One operation that enters no Go function: its value and the store behind it. -/
def aexec (P : Program) (mu : Bool) (S : AS) (ρ : Operand → AV) (op : Op) : Option (AV × AS) :=
  let r (o : Option AV) : Option (AV × AS) := o.map fun x => (x, S)
  let u (o : Option AS) : Option (AV × AS) := o.map fun S => (undefA, S)
  match op with
  | .move x | .assign x => some (ρ x, S)
  | .pick c a b => match ρ c with | .v (.bool t) => some (cond t (ρ a) (ρ b), S) | _ => none
  | .alloc e => (azero P e).map fun z => (.ptr S.objs.length 0, S.push (.cells z e))
  | .box e x => if (match ρ x with | .junk => true | _ => false) then none else some (.ptr S.objs.length 0, S.push (.cells (ρ x).cells e))
  | .build t parts => r (abuild P t (parts.toList.map fun p => (p.1, ρ p.2)))
  | .buildSlice t len parts => abuildSlice P mu S t len (parts.toList.map fun p => (p.1, ρ p.2))
  | .load t a => r (aload P S t (ρ a))
  | .store t a x => u (astore P S t (ρ x) (ρ a))
  | .nilCheck x => match ρ x with | .ptr o b => some (.ptr o b, S) | .eptr l b => some (.eptr l b, S) | _ => none
  | .binOp op t x y _ => r (abinI P S (constOp x || constOp y) op t (ρ x) (ρ y))
  | .unOp op _ x => r (match ρ x with | .v x => (peval P (Op.unary op x)).bind ofV | _ => none)
  | .convert s d x => r (match astr P S s d (ρ x) with | some y => some y | none => aconvert P s d (ρ x))
  | .makeFunc f first caps => some (.fn f (first.toList.map ρ) (caps.toList.map ρ), S)
  | .makeMap _ none => some (.mp S.objs.length, S.push (.map [] 0))
  | .makeSlice t l c => amakeSlice P mu S t (ρ l) (ρ c)
  | .slice t x lo hi mx => r (aslice P t (ρ x) (lo.map ρ) (hi.map ρ) (mx.map ρ))
  | .fieldAddr s x f => r (afieldAddr P s f (ρ x))
  | .field t x f => r (match ρ x with | .agg l => (afield P t f).bind fun p => apart P p.2 l p.1 | _ => none)
  | .indexAddr t x i => r (aindexAddr P t (ρ x) (ρ i))
  | .index t x i => r (aindex P t (ρ x) (ρ i))
  | .lookup t m k ok => r (alookup P S t (ρ m) (ρ k) ok)
  | .mapUpdate t m k x => u (amapUpdate P S t (ρ m) (ρ k) (ρ x))
  | .insert t m k x => u (amapUpdate P S t (ρ m) (ρ k) (ρ x))
  | .range t x => arange0 P S t (ρ x)
  | .next it b => anext S (ρ it) b
  | .extract t i => r (aextract (ρ t) i)
  | .makeInterface t x => match P.underlying t with | some (.interface _) | none => none | _ => some (.ifc t (ρ x), S)
  | _ => none

end Go.AM

/- The abstract machine, third text: the relation between an abstract store and a world, and the steps that keep it. -/
namespace Go.AM
open Go.RowKit

def EntR (E : Env) (w : World) (es : List AEnt) (ces : Array MapEntry) : Prop :=
  es.length = ces.size ∧ ∀ (i : Nat) e c, es[i]? = some e → ces[i]? = some c → VR E w e.key c.key ∧ VR E w e.val c.val ∧ e.born = c.born

def OR (E : Env) (w : World) (o g : Nat) : AObj → Prop
  | .cells l T => ∃ arr : Array Value, w.heap[g]? = some (.cells arr T (0, 0)) ∧ arr.size = E.cp o ∧ l.length ≤ arr.size ∧ ∀ (i : Nat) x y, l[i]? = some x → arr[i]? = some y → VR E w x y
  | .map es c => ∃ ces : Array MapEntry, w.heap[g]? = some (.map ces c) ∧ EntR E w es ces
  | .loop r => ∃ (ys : List Value) (gd : Nat) (fn : FuncId), w.heap[g]? = some (.loop { state := r.state, pending := r.pending, fn := fn, tmps := ys.toArray, params := r.params, assign := r.assign, body := r.body, defers := gd }) ∧ Pair (VR E w) r.tmps ys ∧ E.j r.defers = some gd
  | .dfr => w.heap[g]? = some (.deferred (some []))
  | .iter s pos => w.heap[g]? = some (.stringIter s pos)
  | .dead => True

def AS.live (S : AS) (o : Nat) : Prop := S.objs[o]? ≠ some .dead

structure SR (B0 : Nat) (w0 : World) (E : Env) (S : AS) (w : World) : Prop where
  below : Below B0 w0 w
  base : B0 ≤ w.heap.size
  obj : ∀ o ob g, S.objs[o]? = some ob → E.j o = some g → OR E w o g ob
  jlt : ∀ o g, E.j o = some g → o < S.objs.length
  inj : ∀ o o' g, E.j o = some g → E.j o' = some g → S.live o → S.live o' → o = o'
  jb : ∀ o g, E.j o = some g → B0 ≤ g ∧ g < w.heap.size ∧ ∀ k, ¬ E.fz g k
  fzc : ∀ g k, E.fz g k → ∃ z, w.cell? ⟨g, k, none⟩ = some z
  en : ∀ t, E.en t = 0 ∨ E.en t = S.ends.getD t 0
  tok : ∀ t, 0 < E.en t → B0 ≤ (E.tk t).1 ∧ (∃ a T, w.heap[(E.tk t).1]? = some (.cells a T (0, 0))) ∧ (∀ k, (E.tk t).2.1 ≤ k → ¬ E.fz (E.tk t).1 k) ∧ ∀ o, E.j o ≠ some (E.tk t).1
  tinj : ∀ t t', 0 < E.en t → 0 < E.en t' → (E.tk t).1 = (E.tk t').1 → t = t'

structure Step (n nt : Nat) (E : Env) (w : World) (E' : Env) (w' : World) : Prop extends Ext E w E' w' where
  size : w.heap.size ≤ w'.heap.size
  frame : ∀ g, g < w.heap.size → (∀ o, E.j o ≠ some g) → (∀ t, 0 < E.en t → (E.tk t).1 ≠ g) → w'.heap[g]? = w.heap[g]?
  jn : ∀ o g, E'.j o = some g → (∃ o', E.j o' = some g) ∨ w.heap.size ≤ g
  tn : ∀ t, 0 < E'.en t → (∃ t', 0 < E.en t' ∧ (E.tk t').1 = (E'.tk t).1) ∨ w.heap.size ≤ (E'.tk t).1
  jid : ∀ o, E'.j o ≠ none → E.j o ≠ none ∨ n ≤ o
  tid : ∀ t, 0 < E'.en t → 0 < E.en t ∨ nt ≤ t
  fn : ∀ g k, E'.fz g k → E.fz g k ∨ w.heap.size ≤ g ∨ ∃ t, 0 < E.en t ∧ (E.tk t).1 = g

theorem Ext.refl (E : Env) (w : World) : Ext E w E w :=
  ⟨fun _ _ h => h, fun _ _ h => h, fun _ _ _ => rfl, fun _ => Nat.le_refl _, fun _ _ => rfl, fun _ _ _ a T f h => ⟨a, T, f, h, Nat.le_refl _⟩, fun _ _ _ => rfl⟩

theorem Ext.trans {E E' E'' : Env} {w w' w'' : World} (h : Ext E w E' w') (k : Ext E' w' E'' w'') : Ext E w E'' w'' where
  j o g hj := k.j _ _ (h.j _ _ hj)
  fz g m hf := k.fz _ _ (h.fz _ _ hf)
  cell g m hf := (k.cell _ _ (h.fz _ _ hf)).trans (h.cell _ _ hf)
  en t := Nat.le_trans (h.en t) (k.en t)
  tk t he := by
    have h1 := h.en t; have h2 := k.en t
    rw [k.tk t (by omega), h.tk t (by omega)]
  row t h0 he a T f ha := by
    have h1 := h.en t; have h2 := k.en t
    have e1 : E'.en t = E.en t := by omega
    have e2 := h.tk t e1
    obtain ⟨a', T', f', ha', hs⟩ := k.row t (by omega) (by omega) a T f (by rw [e2]; exact ha)
    rw [e2] at ha'
    obtain ⟨a2, T2, f2, ha2, hs2⟩ := h.row t h0 e1 a' T' f' ha'
    exact ⟨a2, T2, f2, ha2, Nat.le_trans hs2 hs⟩
  cp o g hj := (k.cp o g (h.j o g hj)).trans (h.cp o g hj)

theorem Step.refl (n nt : Nat) (E : Env) (w : World) : Step n nt E w E w :=
  { Ext.refl E w with size := Nat.le_refl _, frame := fun _ _ _ _ => rfl, jn := fun o _ h => .inl ⟨o, h⟩, tn := fun t h => .inl ⟨t, h, rfl⟩, jid := fun _ h => .inl h, tid := fun _ h => .inl h, fn := fun _ _ h => .inl h }

theorem Step.trans {n nt n' nt' : Nat} {E E' E'' : Env} {w w' w'' : World} (h : Step n nt E w E' w') (k : Step n' nt' E' w' E'' w'') (hn : n ≤ n') (hnt : nt ≤ nt') : Step n nt E w E'' w'' :=
  { Ext.trans h.toExt k.toExt with
    size := Nat.le_trans h.size k.size
    frame := fun g hg hj ht => by
      refine (k.frame g (Nat.lt_of_lt_of_le hg h.size) (fun o ho => ?_) (fun t ht' e => ?_)).trans (h.frame g hg hj ht)
      · rcases h.jn o g ho with ⟨o', h1⟩ | h1
        · exact hj o' h1
        · omega
      · rcases h.tn t ht' with ⟨t', h1, h2⟩ | h1
        · exact ht t' h1 (h2.trans e)
        · omega
    jn := fun o g ho => by
      rcases k.jn o g ho with ⟨o', h1⟩ | h1
      · exact h.jn o' g h1
      · exact .inr (Nat.le_trans h.size h1)
    tn := fun t ht => by
      rcases k.tn t ht with ⟨t', h1, h2⟩ | h1
      · rw [← h2]; exact h.tn t' h1
      · exact .inr (Nat.le_trans h.size h1)
    jid := fun o ho => by
      rcases k.jid o ho with h1 | h1
      · exact h.jid o h1
      · exact .inr (by omega)
    fn := fun g m hf => by
      rcases k.fn g m hf with h1 | h1 | ⟨t, h1, h2⟩
      · exact h.fn g m h1
      · exact .inr (.inl (Nat.le_trans h.size h1))
      · rcases h.tn t h1 with ⟨t', h3, h4⟩ | h3
        · exact .inr (.inr ⟨t', h3, h4.trans h2⟩)
        · exact .inr (.inl (by omega))
    tid := fun t ht => by
      rcases k.tid t ht with h1 | h1
      · exact h.tid t h1
      · exact .inr (by omega) }

theorem OR.ext {E E' : Env} {w w' : World} (h : Ext E w E' w') {o g : Nat} (hj : E.j o = some g) (hg : w'.heap[g]? = w.heap[g]?) {ob : AObj} (ho : OR E w o g ob) : OR E' w' o g ob := by
  cases ob with
  | cells l T =>
    obtain ⟨arr, h1, h2, h3, h4⟩ := ho
    exact ⟨arr, hg.trans h1, h2.trans (h.cp o g hj).symm, h3, fun i x y hx hy => (h4 i x y hx hy).ext h⟩
  | map es c =>
    obtain ⟨ces, h1, h2, h3⟩ := ho
    exact ⟨ces, hg.trans h1, h2, fun i e c he hc => let ⟨a, b, d⟩ := h3 i e c he hc; ⟨a.ext h, b.ext h, d⟩⟩
  | loop r => obtain ⟨ys, gd, fn, h1, h2, h3⟩ := ho; exact ⟨ys, gd, fn, hg.trans h1, h2.mono fun _ _ h4 => h4.ext h, h.j _ _ h3⟩
  | dfr => exact hg.trans ho
  | iter s pos => exact hg.trans ho
  | dead => trivial

theorem SR.jblock {B0 : Nat} {w0 w : World} {E : Env} {S : AS} (h : SR B0 w0 E S w) {t o g : Nat} (ht : 0 < E.en t) (ho : E.j o = some g) : (E.tk t).1 ≠ g :=
  fun e => (h.tok t ht).2.2.2 o (by rw [e]; exact ho)


theorem SR.tblock {B0 : Nat} {w0 w : World} {E : Env} {S : AS} (h : SR B0 w0 E S w) {t : Nat} (ht : 0 < E.en t) : (E.tk t).1 < w.heap.size := by
  obtain ⟨_, ⟨a, T, ha⟩, _⟩ := h.tok t ht
  exact (Array.getElem?_eq_some_iff.1 ha).1

/-- One block may have turned, and that is no frozen one and no open row; blocks may be new. -/
theorem SR.ext_of {B0 : Nat} {w0 w w' : World} {E : Env} {S : AS} (h : SR B0 w0 E S w) (row : Option Nat) (hg : w.grownBy w' row) (hrow : ∀ g, row = some g → (∀ k, ¬ E.fz g k) ∧ ∀ t, 0 < E.en t → (E.tk t).1 ≠ g) : Ext E w E w' :=
  { Ext.refl E w with
    cell := fun g k hf => by
      obtain ⟨z, hz⟩ := h.fzc g k hf
      refine World.cell?_of_block (hg.block g (World.block_lt_of_cell? w _ hz) fun e => ?_)
      exact (hrow g e.symm).1 k hf
    row := fun t h0 _ a T f ha => by
      have hlt := h.tblock h0
      rw [hg.block _ hlt (fun e => (hrow _ e.symm).2 t h0 rfl)] at ha
      exact ⟨a, T, f, ha, Nat.le_refl _⟩ }

/-- Blocks are new, nothing else: nothing that was said of the store turns. -/
theorem SR.later {B0 : Nat} {w0 w w' : World} {E : Env} {S : AS} (h : SR B0 w0 E S w) (hg : w.grownBy w' none) : SR B0 w0 E S w' ∧ Step S.objs.length S.ends.length E w E w' := by
  have hx := h.ext_of none hg (fun g e => by cases e)
  have hb : ∀ g, g < w.heap.size → w'.heap[g]? = w.heap[g]? := fun g hl => hg.block g hl (by simp)
  refine ⟨{ below := ?_, base := Nat.le_trans h.base hg.size, obj := ?_, jlt := h.jlt, inj := h.inj, jb := ?_, fzc := ?_, en := h.en, tok := ?_, tinj := h.tinj }, { hx with size := hg.size, frame := fun g hl _ _ => hb g hl, jn := fun o _ ho => .inl ⟨o, ho⟩, tn := fun t ht => .inl ⟨t, ht, rfl⟩, jid := fun _ ho => .inl ho, tid := fun _ ht => .inl ht, fn := fun _ _ hf => .inl hf }⟩
  · exact h.below.grown hg h.base (fun k e => by cases e)
  · exact fun o ob g ho hj => (h.obj o ob g ho hj).ext hx hj (hb g (h.jb o g hj).2.1)
  · exact fun o g hj => let ⟨a, b, c⟩ := h.jb o g hj; ⟨a, Nat.lt_of_lt_of_le b hg.size, c⟩
  · exact fun g k hf => let ⟨z, hz⟩ := h.fzc g k hf; ⟨z, (hx.cell g k hf).trans hz⟩
  · intro t ht
    obtain ⟨a, ⟨c, T, hc⟩, d⟩ := h.tok t ht
    exact ⟨a, ⟨c, T, (hb _ (h.tblock ht)).trans hc⟩, d⟩

theorem VR.of_flat {E : Env} {w : World} {x : Value} (h : flat x = true) : VR E w (.v x) x := ⟨1, h, rfl⟩
theorem VR.flat_inv {E : Env} {w : World} {x y : Value} (h : VR E w (.v x) y) : flat x = true ∧ y = x := by
  obtain ⟨d, hd⟩ := h
  cases d with
  | zero => exact hd.elim
  | succ d => exact hd

theorem VR.agg {E : Env} {w : World} {l : List AV} {ys : List Value} (h : Pair (VR E w) l ys) : VR E w (.agg l) (.agg ys.toArray) :=
  let ⟨d, hd⟩ := h.depth; ⟨d + 1, ys, rfl, hd⟩
theorem VR.agg_inv {E : Env} {w : World} {l : List AV} {y : Value} (h : VR E w (.agg l) y) : ∃ ys : List Value, y = .agg ys.toArray ∧ Pair (VR E w) l ys := by
  obtain ⟨d, hd⟩ := h
  cases d with
  | zero => exact hd.elim
  | succ d => obtain ⟨ys, h1, h2⟩ := hd; exact ⟨ys, h1, h2.mono fun _ _ h => ⟨d, h⟩⟩
theorem VR.tup {E : Env} {w : World} {l : List AV} {ys : List Value} (h : Pair (VR E w) l ys) : VR E w (.tup l) (.tuple ys.toArray) :=
  let ⟨d, hd⟩ := h.depth; ⟨d + 1, ys, rfl, hd⟩
theorem VR.tup_inv {E : Env} {w : World} {l : List AV} {y : Value} (h : VR E w (.tup l) y) : ∃ ys : List Value, y = .tuple ys.toArray ∧ Pair (VR E w) l ys := by
  obtain ⟨d, hd⟩ := h
  cases d with
  | zero => exact hd.elim
  | succ d => obtain ⟨ys, h1, h2⟩ := hd; exact ⟨ys, h1, h2.mono fun _ _ h => ⟨d, h⟩⟩
theorem VR.ptr {E : Env} {w : World} {o off g : Nat} (h : E.j o = some g) : VR E w (.ptr o off) (.pointer (some ⟨g, off, none⟩)) := ⟨1, g, h, rfl⟩
theorem VR.ptr_inv {E : Env} {w : World} {o off : Nat} {y : Value} (h : VR E w (.ptr o off) y) : ∃ g, E.j o = some g ∧ y = .pointer (some ⟨g, off, none⟩) := by
  obtain ⟨d, hd⟩ := h
  cases d with
  | zero => exact hd.elim
  | succ d => exact hd
theorem VR.mp {E : Env} {w : World} {o g : Nat} (h : E.j o = some g) : VR E w (.mp o) (.map (some g)) := ⟨1, g, h, rfl⟩
theorem VR.mp_inv {E : Env} {w : World} {o : Nat} {y : Value} (h : VR E w (.mp o) y) : ∃ g, E.j o = some g ∧ y = .map (some g) := by
  obtain ⟨d, hd⟩ := h
  cases d with
  | zero => exact hd.elim
  | succ d => exact hd
theorem VR.yld {E : Env} {w : World} {o g : Nat} (h : E.j o = some g) : VR E w (.yld o) (.func (.yield g) #[] #[]) := ⟨1, g, h, rfl⟩
theorem VR.yld_inv {E : Env} {w : World} {o : Nat} {y : Value} (h : VR E w (.yld o) y) : ∃ g, E.j o = some g ∧ y = .func (.yield g) #[] #[] := by
  obtain ⟨d, hd⟩ := h
  cases d with
  | zero => exact hd.elim
  | succ d => exact hd
theorem VR.slc_inv {E : Env} {w : World} {o sz off len cap : Nat} {y : Value} (h : VR E w (.slc o sz off len cap) y) : ∃ g c, E.j o = some g ∧ y = .slice (some ⟨g, off, none⟩) len c ∧ len ≤ cap ∧ cap ≤ c ∧ c ≤ maxLen ∧ 0 < sz ∧ off + c * sz ≤ E.cp o := by
  obtain ⟨d, hd⟩ := h
  cases d with
  | zero => exact hd.elim
  | succ d => exact hd
theorem VR.eptr_inv {E : Env} {w : World} {row : List AV} {off : Nat} {y : Value} (h : VR E w (.eptr row off) y) : ∃ g b, y = .pointer (some ⟨g, b + off, none⟩) ∧ Row E w (VR E w) row g b := by
  obtain ⟨d, hd⟩ := h
  cases d with
  | zero => exact hd.elim
  | succ d => obtain ⟨g, b, h1, h2⟩ := hd; exact ⟨g, b, h1, h2.mono fun _ _ h => ⟨d, h⟩⟩
theorem VR.eptr {E : Env} {w : World} {row : List AV} {off g b : Nat} (h : Row E w (VR E w) row g b) : VR E w (.eptr row off) (.pointer (some ⟨g, b + off, none⟩)) :=
  let ⟨d, hd⟩ := h.depth; ⟨d + 1, g, b, rfl, hd⟩
theorem VR.fn {E : Env} {w : World} {f : Fn} {l m : List AV} {xs ys : List Value} (h : Pair (VR E w) l xs) (k : Pair (VR E w) m ys) : VR E w (.fn f l m) (.func f xs.toArray ys.toArray) := by
  obtain ⟨d, hd⟩ := h.depth
  obtain ⟨d', hd'⟩ := k.depth
  exact ⟨max d d' + 1, xs, ys, rfl, hd.mono fun _ _ h => h.le (Nat.le_max_left _ _), hd'.mono fun _ _ h => h.le (Nat.le_max_right _ _)⟩
theorem VR.fn_inv {E : Env} {w : World} {f : Fn} {l m : List AV} {y : Value} (h : VR E w (.fn f l m) y) : ∃ xs ys : List Value, y = .func f xs.toArray ys.toArray ∧ Pair (VR E w) l xs ∧ Pair (VR E w) m ys := by
  obtain ⟨d, hd⟩ := h
  cases d with
  | zero => exact hd.elim
  | succ d => obtain ⟨xs, ys, h1, h2, h3⟩ := hd; exact ⟨xs, ys, h1, h2.mono fun _ _ h => ⟨d, h⟩, h3.mono fun _ _ h => ⟨d, h⟩⟩
theorem VR.ifc {E : Env} {w : World} {t : TypeId} {x : AV} {y : Value} (h : VR E w x y) : VR E w (.ifc t x) (.iface t y) := let ⟨d, hd⟩ := h; ⟨d + 1, y, rfl, hd⟩
theorem VR.ifc_inv {E : Env} {w : World} {t : TypeId} {x : AV} {y : Value} (h : VR E w (.ifc t x) y) : ∃ z, y = .iface t z ∧ VR E w x z := by
  obtain ⟨d, hd⟩ := h
  cases d with
  | zero => exact hd.elim
  | succ d => obtain ⟨z, h1, h2⟩ := hd; exact ⟨z, h1, d, h2⟩

def LstCap (E : Env) (w : World) (c : Cap) (n cap sz g b : Nat) : Prop :=
  match c with
  | .exact => cap = n
  | .tok t e s => s = sz ∧ 1 ≤ e ∧ e ≤ E.en t ∧ (e = E.en t → cap = 0 ∨ ((E.tk t).1 = g ∧ (E.tk t).2.1 = b + n * sz ∧ (E.tk t).2.2 = sz ∧ ∀ a T f, w.heap[g]? = some (.cells a T f) → b + cap * sz ≤ a.size))
  | .unk => True
  | .any => True
theorem VR.lst_inv {E : Env} {w : World} {c : Cap} {rows : List (List AV)} {y : Value} (h : VR E w (.lst c rows) y) :
    (rows = [] ∧ ∃ a : Option Addr, y = .slice a 0 0 ∧ (c = .any ∨ c = .unk ∧ a.isSome = true)) ∨ ∃ g b cap sz, y = .slice (some ⟨g, b, none⟩) rows.length cap ∧ rows.length ≤ cap ∧ cap ≤ maxLen ∧ 0 < sz ∧ (∀ r ∈ rows, r.length = sz) ∧ Row E w (VR E w) rows.flatten g b ∧ LstCap E w c rows.length cap sz g b := by
  obtain ⟨d, hd⟩ := h
  cases d with
  | zero => exact hd.elim
  | succ d =>
    rcases hd with hd | ⟨g, b, cap, sz, h1, h2, h3, h4, h5, h6, h7⟩
    · exact .inl hd
    · exact .inr ⟨g, b, cap, sz, h1, h2, h3, h4, h5, h6.mono fun _ _ h => ⟨d, h⟩, h7⟩
theorem VR.lst {E : Env} {w : World} {c : Cap} {rows : List (List AV)} {g b cap sz : Nat} (h2 : rows.length ≤ cap) (h3 : cap ≤ maxLen) (h4 : 0 < sz) (h5 : ∀ r ∈ rows, r.length = sz) (h6 : Row E w (VR E w) rows.flatten g b) (h7 : LstCap E w c rows.length cap sz g b) :
    VR E w (.lst c rows) (.slice (some ⟨g, b, none⟩) rows.length cap) :=
  let ⟨d, hd⟩ := h6.depth; ⟨d + 1, .inr ⟨g, b, cap, sz, rfl, h2, h3, h4, h5, hd, h7⟩⟩

end Go.AM
