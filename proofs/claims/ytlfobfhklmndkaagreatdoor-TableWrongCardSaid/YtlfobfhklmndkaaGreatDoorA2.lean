/- The abstract machine, third text: the relation between an abstract store and a world, and the steps that keep it. -/
import Derived.Test.YtlfobfhklmndkaaGreatDoorA1
namespace Go.AM
open Go.RowKit

def EntR (E : Env) (w : World) (es : List AEnt) (ces : Array MapEntry) : Prop :=
  es.length = ces.size ∧ ∀ (i : Nat) e c, es[i]? = some e → ces[i]? = some c → VR E w e.key c.key ∧ VR E w e.val c.val ∧ e.born = c.born

def OR (E : Env) (w : World) (o g : Nat) : AObj → Prop
  | .cells l T => ∃ arr : Array Value, w.heap[g]? = some (.cells arr T (0, 0)) ∧ arr.size = E.cp o ∧ l.length ≤ arr.size ∧ ∀ (i : Nat) x y, l[i]? = some x → arr[i]? = some y → VR E w x y
  | .map es c => ∃ ces : Array MapEntry, w.heap[g]? = some (.map ces c) ∧ EntR E w es ces
  | .loop r => ∃ (ys : List Value) (gd : Nat) (fn : FuncId), w.heap[g]? = some (.loop { state := r.state, pending := r.pending, fn := fn, tmps := ys.toArray, params := r.params, assign := r.assign, body := r.body, defers := gd }) ∧ Pair (VR E w) r.tmps ys ∧ E.j r.defers = some gd
  | .dfr => w.heap[g]? = some (.deferred (some []))
  | .iter s pos => w.heap[g]? = some (.stringIter s pos)
  | .dead => True

def AS.live (S : AS) (o : Nat) : Prop := S.objs[o]? ≠ some .dead

structure SR (B0 : Nat) (w0 : World) (E : Env) (S : AS) (w : World) : Prop where
  below : Below B0 w0 w
  base : B0 ≤ w.heap.size
  obj : ∀ o ob g, S.objs[o]? = some ob → E.j o = some g → OR E w o g ob
  jlt : ∀ o g, E.j o = some g → o < S.objs.length
  inj : ∀ o o' g, E.j o = some g → E.j o' = some g → S.live o → S.live o' → o = o'
  jb : ∀ o g, E.j o = some g → B0 ≤ g ∧ g < w.heap.size ∧ ∀ k, ¬ E.fz g k
  fzc : ∀ g k, E.fz g k → ∃ z, w.cell? ⟨g, k, none⟩ = some z
  en : ∀ t, E.en t = 0 ∨ E.en t = S.ends.getD t 0
  tok : ∀ t, 0 < E.en t → B0 ≤ (E.tk t).1 ∧ (∃ a T, w.heap[(E.tk t).1]? = some (.cells a T (0, 0))) ∧ (∀ k, (E.tk t).2.1 ≤ k → ¬ E.fz (E.tk t).1 k) ∧ ∀ o, E.j o ≠ some (E.tk t).1
  tinj : ∀ t t', 0 < E.en t → 0 < E.en t' → (E.tk t).1 = (E.tk t').1 → t = t'

structure Step (n nt : Nat) (E : Env) (w : World) (E' : Env) (w' : World) : Prop extends Ext E w E' w' where
  size : w.heap.size ≤ w'.heap.size
  frame : ∀ g, g < w.heap.size → (∀ o, E.j o ≠ some g) → (∀ t, 0 < E.en t → (E.tk t).1 ≠ g) → w'.heap[g]? = w.heap[g]?
  jn : ∀ o g, E'.j o = some g → (∃ o', E.j o' = some g) ∨ w.heap.size ≤ g
  tn : ∀ t, 0 < E'.en t → (∃ t', 0 < E.en t' ∧ (E.tk t').1 = (E'.tk t).1) ∨ w.heap.size ≤ (E'.tk t).1
  jid : ∀ o, E'.j o ≠ none → E.j o ≠ none ∨ n ≤ o
  tid : ∀ t, 0 < E'.en t → 0 < E.en t ∨ nt ≤ t
  fn : ∀ g k, E'.fz g k → E.fz g k ∨ w.heap.size ≤ g ∨ ∃ t, 0 < E.en t ∧ (E.tk t).1 = g

theorem Ext.refl (E : Env) (w : World) : Ext E w E w :=
  ⟨fun _ _ h => h, fun _ _ h => h, fun _ _ _ => rfl, fun _ => Nat.le_refl _, fun _ _ => rfl, fun _ _ _ a T f h => ⟨a, T, f, h, Nat.le_refl _⟩, fun _ _ _ => rfl⟩

theorem Ext.trans {E E' E'' : Env} {w w' w'' : World} (h : Ext E w E' w') (k : Ext E' w' E'' w'') : Ext E w E'' w'' where
  j o g hj := k.j _ _ (h.j _ _ hj)
  fz g m hf := k.fz _ _ (h.fz _ _ hf)
  cell g m hf := (k.cell _ _ (h.fz _ _ hf)).trans (h.cell _ _ hf)
  en t := Nat.le_trans (h.en t) (k.en t)
  tk t he := by
    have h1 := h.en t; have h2 := k.en t
    rw [k.tk t (by omega), h.tk t (by omega)]
  row t h0 he a T f ha := by
    have h1 := h.en t; have h2 := k.en t
    have e1 : E'.en t = E.en t := by omega
    have e2 := h.tk t e1
    obtain ⟨a', T', f', ha', hs⟩ := k.row t (by omega) (by omega) a T f (by rw [e2]; exact ha)
    rw [e2] at ha'
    obtain ⟨a2, T2, f2, ha2, hs2⟩ := h.row t h0 e1 a' T' f' ha'
    exact ⟨a2, T2, f2, ha2, Nat.le_trans hs2 hs⟩
  cp o g hj := (k.cp o g (h.j o g hj)).trans (h.cp o g hj)

theorem Step.refl (n nt : Nat) (E : Env) (w : World) : Step n nt E w E w :=
  { Ext.refl E w with size := Nat.le_refl _, frame := fun _ _ _ _ => rfl, jn := fun o _ h => .inl ⟨o, h⟩, tn := fun t h => .inl ⟨t, h, rfl⟩, jid := fun _ h => .inl h, tid := fun _ h => .inl h, fn := fun _ _ h => .inl h }

theorem Step.trans {n nt n' nt' : Nat} {E E' E'' : Env} {w w' w'' : World} (h : Step n nt E w E' w') (k : Step n' nt' E' w' E'' w'') (hn : n ≤ n') (hnt : nt ≤ nt') : Step n nt E w E'' w'' :=
  { Ext.trans h.toExt k.toExt with
    size := Nat.le_trans h.size k.size
    frame := fun g hg hj ht => by
      refine (k.frame g (Nat.lt_of_lt_of_le hg h.size) (fun o ho => ?_) (fun t ht' e => ?_)).trans (h.frame g hg hj ht)
      · rcases h.jn o g ho with ⟨o', h1⟩ | h1
        · exact hj o' h1
        · omega
      · rcases h.tn t ht' with ⟨t', h1, h2⟩ | h1
        · exact ht t' h1 (h2.trans e)
        · omega
    jn := fun o g ho => by
      rcases k.jn o g ho with ⟨o', h1⟩ | h1
      · exact h.jn o' g h1
      · exact .inr (Nat.le_trans h.size h1)
    tn := fun t ht => by
      rcases k.tn t ht with ⟨t', h1, h2⟩ | h1
      · rw [← h2]; exact h.tn t' h1
      · exact .inr (Nat.le_trans h.size h1)
    jid := fun o ho => by
      rcases k.jid o ho with h1 | h1
      · exact h.jid o h1
      · exact .inr (by omega)
    fn := fun g m hf => by
      rcases k.fn g m hf with h1 | h1 | ⟨t, h1, h2⟩
      · exact h.fn g m h1
      · exact .inr (.inl (Nat.le_trans h.size h1))
      · rcases h.tn t h1 with ⟨t', h3, h4⟩ | h3
        · exact .inr (.inr ⟨t', h3, h4.trans h2⟩)
        · exact .inr (.inl (by omega))
    tid := fun t ht => by
      rcases k.tid t ht with h1 | h1
      · exact h.tid t h1
      · exact .inr (by omega) }

theorem OR.ext {E E' : Env} {w w' : World} (h : Ext E w E' w') {o g : Nat} (hj : E.j o = some g) (hg : w'.heap[g]? = w.heap[g]?) {ob : AObj} (ho : OR E w o g ob) : OR E' w' o g ob := by
  cases ob with
  | cells l T =>
    obtain ⟨arr, h1, h2, h3, h4⟩ := ho
    exact ⟨arr, hg.trans h1, h2.trans (h.cp o g hj).symm, h3, fun i x y hx hy => (h4 i x y hx hy).ext h⟩
  | map es c =>
    obtain ⟨ces, h1, h2, h3⟩ := ho
    exact ⟨ces, hg.trans h1, h2, fun i e c he hc => let ⟨a, b, d⟩ := h3 i e c he hc; ⟨a.ext h, b.ext h, d⟩⟩
  | loop r => obtain ⟨ys, gd, fn, h1, h2, h3⟩ := ho; exact ⟨ys, gd, fn, hg.trans h1, h2.mono fun _ _ h4 => h4.ext h, h.j _ _ h3⟩
  | dfr => exact hg.trans ho
  | iter s pos => exact hg.trans ho
  | dead => trivial

theorem SR.jblock {B0 : Nat} {w0 w : World} {E : Env} {S : AS} (h : SR B0 w0 E S w) {t o g : Nat} (ht : 0 < E.en t) (ho : E.j o = some g) : (E.tk t).1 ≠ g :=
  fun e => (h.tok t ht).2.2.2 o (by rw [e]; exact ho)


theorem SR.tblock {B0 : Nat} {w0 w : World} {E : Env} {S : AS} (h : SR B0 w0 E S w) {t : Nat} (ht : 0 < E.en t) : (E.tk t).1 < w.heap.size := by
  obtain ⟨_, ⟨a, T, ha⟩, _⟩ := h.tok t ht
  exact (Array.getElem?_eq_some_iff.1 ha).1

/-- One block may have turned, and that is no frozen one and no open row; blocks may be new. -/
theorem SR.ext_of {B0 : Nat} {w0 w w' : World} {E : Env} {S : AS} (h : SR B0 w0 E S w) (row : Option Nat) (hg : w.grownBy w' row) (hrow : ∀ g, row = some g → (∀ k, ¬ E.fz g k) ∧ ∀ t, 0 < E.en t → (E.tk t).1 ≠ g) : Ext E w E w' :=
  { Ext.refl E w with
    cell := fun g k hf => by
      obtain ⟨z, hz⟩ := h.fzc g k hf
      refine World.cell?_of_block (hg.block g (World.block_lt_of_cell? w _ hz) fun e => ?_)
      exact (hrow g e.symm).1 k hf
    row := fun t h0 _ a T f ha => by
      have hlt := h.tblock h0
      rw [hg.block _ hlt (fun e => (hrow _ e.symm).2 t h0 rfl)] at ha
      exact ⟨a, T, f, ha, Nat.le_refl _⟩ }

/-- Blocks are new, nothing else: nothing that was said of the store turns. -/
theorem SR.later {B0 : Nat} {w0 w w' : World} {E : Env} {S : AS} (h : SR B0 w0 E S w) (hg : w.grownBy w' none) : SR B0 w0 E S w' ∧ Step S.objs.length S.ends.length E w E w' := by
  have hx := h.ext_of none hg (fun g e => by cases e)
  have hb : ∀ g, g < w.heap.size → w'.heap[g]? = w.heap[g]? := fun g hl => hg.block g hl (by simp)
  refine ⟨{ below := ?_, base := Nat.le_trans h.base hg.size, obj := ?_, jlt := h.jlt, inj := h.inj, jb := ?_, fzc := ?_, en := h.en, tok := ?_, tinj := h.tinj }, { hx with size := hg.size, frame := fun g hl _ _ => hb g hl, jn := fun o _ ho => .inl ⟨o, ho⟩, tn := fun t ht => .inl ⟨t, ht, rfl⟩, jid := fun _ ho => .inl ho, tid := fun _ ht => .inl ht, fn := fun _ _ hf => .inl hf }⟩
  · exact h.below.grown hg h.base (fun k e => by cases e)
  · exact fun o ob g ho hj => (h.obj o ob g ho hj).ext hx hj (hb g (h.jb o g hj).2.1)
  · exact fun o g hj => let ⟨a, b, c⟩ := h.jb o g hj; ⟨a, Nat.lt_of_lt_of_le b hg.size, c⟩
  · exact fun g k hf => let ⟨z, hz⟩ := h.fzc g k hf; ⟨z, (hx.cell g k hf).trans hz⟩
  · intro t ht
    obtain ⟨a, ⟨c, T, hc⟩, d⟩ := h.tok t ht
    exact ⟨a, ⟨c, T, (hb _ (h.tblock ht)).trans hc⟩, d⟩

theorem VR.of_flat {E : Env} {w : World} {x : Value} (h : flat x = true) : VR E w (.v x) x := ⟨1, h, rfl⟩
theorem VR.flat_inv {E : Env} {w : World} {x y : Value} (h : VR E w (.v x) y) : flat x = true ∧ y = x := by
  obtain ⟨d, hd⟩ := h
  cases d with
  | zero => exact hd.elim
  | succ d => exact hd

theorem VR.agg {E : Env} {w : World} {l : List AV} {ys : List Value} (h : Pair (VR E w) l ys) : VR E w (.agg l) (.agg ys.toArray) :=
  let ⟨d, hd⟩ := h.depth; ⟨d + 1, ys, rfl, hd⟩
theorem VR.agg_inv {E : Env} {w : World} {l : List AV} {y : Value} (h : VR E w (.agg l) y) : ∃ ys : List Value, y = .agg ys.toArray ∧ Pair (VR E w) l ys := by
  obtain ⟨d, hd⟩ := h
  cases d with
  | zero => exact hd.elim
  | succ d => obtain ⟨ys, h1, h2⟩ := hd; exact ⟨ys, h1, h2.mono fun _ _ h => ⟨d, h⟩⟩
theorem VR.tup {E : Env} {w : World} {l : List AV} {ys : List Value} (h : Pair (VR E w) l ys) : VR E w (.tup l) (.tuple ys.toArray) :=
  let ⟨d, hd⟩ := h.depth; ⟨d + 1, ys, rfl, hd⟩
theorem VR.tup_inv {E : Env} {w : World} {l : List AV} {y : Value} (h : VR E w (.tup l) y) : ∃ ys : List Value, y = .tuple ys.toArray ∧ Pair (VR E w) l ys := by
  obtain ⟨d, hd⟩ := h
  cases d with
  | zero => exact hd.elim
  | succ d => obtain ⟨ys, h1, h2⟩ := hd; exact ⟨ys, h1, h2.mono fun _ _ h => ⟨d, h⟩⟩
theorem VR.ptr {E : Env} {w : World} {o off g : Nat} (h : E.j o = some g) : VR E w (.ptr o off) (.pointer (some ⟨g, off, none⟩)) := ⟨1, g, h, rfl⟩
theorem VR.ptr_inv {E : Env} {w : World} {o off : Nat} {y : Value} (h : VR E w (.ptr o off) y) : ∃ g, E.j o = some g ∧ y = .pointer (some ⟨g, off, none⟩) := by
  obtain ⟨d, hd⟩ := h
  cases d with
  | zero => exact hd.elim
  | succ d => exact hd
theorem VR.mp {E : Env} {w : World} {o g : Nat} (h : E.j o = some g) : VR E w (.mp o) (.map (some g)) := ⟨1, g, h, rfl⟩
theorem VR.mp_inv {E : Env} {w : World} {o : Nat} {y : Value} (h : VR E w (.mp o) y) : ∃ g, E.j o = some g ∧ y = .map (some g) := by
  obtain ⟨d, hd⟩ := h
  cases d with
  | zero => exact hd.elim
  | succ d => exact hd
theorem VR.yld {E : Env} {w : World} {o g : Nat} (h : E.j o = some g) : VR E w (.yld o) (.func (.yield g) #[] #[]) := ⟨1, g, h, rfl⟩
theorem VR.yld_inv {E : Env} {w : World} {o : Nat} {y : Value} (h : VR E w (.yld o) y) : ∃ g, E.j o = some g ∧ y = .func (.yield g) #[] #[] := by
  obtain ⟨d, hd⟩ := h
  cases d with
  | zero => exact hd.elim
  | succ d => exact hd
theorem VR.slc_inv {E : Env} {w : World} {o sz off len cap : Nat} {y : Value} (h : VR E w (.slc o sz off len cap) y) : ∃ g c, E.j o = some g ∧ y = .slice (some ⟨g, off, none⟩) len c ∧ len ≤ cap ∧ cap ≤ c ∧ c ≤ maxLen ∧ 0 < sz ∧ off + c * sz ≤ E.cp o := by
  obtain ⟨d, hd⟩ := h
  cases d with
  | zero => exact hd.elim
  | succ d => exact hd
theorem VR.eptr_inv {E : Env} {w : World} {row : List AV} {off : Nat} {y : Value} (h : VR E w (.eptr row off) y) : ∃ g b, y = .pointer (some ⟨g, b + off, none⟩) ∧ Row E w (VR E w) row g b := by
  obtain ⟨d, hd⟩ := h
  cases d with
  | zero => exact hd.elim
  | succ d => obtain ⟨g, b, h1, h2⟩ := hd; exact ⟨g, b, h1, h2.mono fun _ _ h => ⟨d, h⟩⟩
theorem VR.eptr {E : Env} {w : World} {row : List AV} {off g b : Nat} (h : Row E w (VR E w) row g b) : VR E w (.eptr row off) (.pointer (some ⟨g, b + off, none⟩)) :=
  let ⟨d, hd⟩ := h.depth; ⟨d + 1, g, b, rfl, hd⟩
theorem VR.fn {E : Env} {w : World} {f : Fn} {l m : List AV} {xs ys : List Value} (h : Pair (VR E w) l xs) (k : Pair (VR E w) m ys) : VR E w (.fn f l m) (.func f xs.toArray ys.toArray) := by
  obtain ⟨d, hd⟩ := h.depth
  obtain ⟨d', hd'⟩ := k.depth
  exact ⟨max d d' + 1, xs, ys, rfl, hd.mono fun _ _ h => h.le (Nat.le_max_left _ _), hd'.mono fun _ _ h => h.le (Nat.le_max_right _ _)⟩
theorem VR.fn_inv {E : Env} {w : World} {f : Fn} {l m : List AV} {y : Value} (h : VR E w (.fn f l m) y) : ∃ xs ys : List Value, y = .func f xs.toArray ys.toArray ∧ Pair (VR E w) l xs ∧ Pair (VR E w) m ys := by
  obtain ⟨d, hd⟩ := h
  cases d with
  | zero => exact hd.elim
  | succ d => obtain ⟨xs, ys, h1, h2, h3⟩ := hd; exact ⟨xs, ys, h1, h2.mono fun _ _ h => ⟨d, h⟩, h3.mono fun _ _ h => ⟨d, h⟩⟩
theorem VR.ifc {E : Env} {w : World} {t : TypeId} {x : AV} {y : Value} (h : VR E w x y) : VR E w (.ifc t x) (.iface t y) := let ⟨d, hd⟩ := h; ⟨d + 1, y, rfl, hd⟩
theorem VR.ifc_inv {E : Env} {w : World} {t : TypeId} {x : AV} {y : Value} (h : VR E w (.ifc t x) y) : ∃ z, y = .iface t z ∧ VR E w x z := by
  obtain ⟨d, hd⟩ := h
  cases d with
  | zero => exact hd.elim
  | succ d => obtain ⟨z, h1, h2⟩ := hd; exact ⟨z, h1, d, h2⟩

def LstCap (E : Env) (w : World) (c : Cap) (n cap sz g b : Nat) : Prop :=
  match c with
  | .exact => cap = n
  | .tok t e s => s = sz ∧ 1 ≤ e ∧ e ≤ E.en t ∧ (e = E.en t → cap = 0 ∨ ((E.tk t).1 = g ∧ (E.tk t).2.1 = b + n * sz ∧ (E.tk t).2.2 = sz ∧ ∀ a T f, w.heap[g]? = some (.cells a T f) → b + cap * sz ≤ a.size))
  | .unk => True
  | .any => True
theorem VR.lst_inv {E : Env} {w : World} {c : Cap} {rows : List (List AV)} {y : Value} (h : VR E w (.lst c rows) y) :
    (rows = [] ∧ ∃ a : Option Addr, y = .slice a 0 0 ∧ (c = .any ∨ c = .unk ∧ a.isSome = true)) ∨ ∃ g b cap sz, y = .slice (some ⟨g, b, none⟩) rows.length cap ∧ rows.length ≤ cap ∧ cap ≤ maxLen ∧ 0 < sz ∧ (∀ r ∈ rows, r.length = sz) ∧ Row E w (VR E w) rows.flatten g b ∧ LstCap E w c rows.length cap sz g b := by
  obtain ⟨d, hd⟩ := h
  cases d with
  | zero => exact hd.elim
  | succ d =>
    rcases hd with hd | ⟨g, b, cap, sz, h1, h2, h3, h4, h5, h6, h7⟩
    · exact .inl hd
    · exact .inr ⟨g, b, cap, sz, h1, h2, h3, h4, h5, h6.mono fun _ _ h => ⟨d, h⟩, h7⟩
theorem VR.lst {E : Env} {w : World} {c : Cap} {rows : List (List AV)} {g b cap sz : Nat} (h2 : rows.length ≤ cap) (h3 : cap ≤ maxLen) (h4 : 0 < sz) (h5 : ∀ r ∈ rows, r.length = sz) (h6 : Row E w (VR E w) rows.flatten g b) (h7 : LstCap E w c rows.length cap sz g b) :
    VR E w (.lst c rows) (.slice (some ⟨g, b, none⟩) rows.length cap) :=
  let ⟨d, hd⟩ := h6.depth; ⟨d + 1, .inr ⟨g, b, cap, sz, rfl, h2, h3, h4, h5, hd, h7⟩⟩

end Go.AM
