/- The abstract machine, fourth text: a new object, a new frozen row, an object that turns. -/
import Derived.Test.YtamemdhmjglifaaGreatDoorQ0
namespace Go.AM
open Go.RowKit

variable {B0 : Nat} {w0 w : World} {E : Env} {S : AS}

def Env.obj (E : Env) (n g c : Nat) : Env := { E with j := fun o => if o = n then some g else E.j o, cp := fun o => if o = n then c else E.cp o }
def Env.row (E : Env) (g n : Nat) : Env := { E with fz := fun g' k => E.fz g' k ∨ (g' = g ∧ k < n) }

theorem SR.jnew (h : SR B0 w0 E S w) : E.j S.objs.length = none := by
  cases hj : E.j S.objs.length with
  | none => rfl
  | some g => have := h.jlt _ _ hj; omega

theorem SR.ext_obj (h : SR B0 w0 E S w) (o : Obj) (c : Nat) : Ext E w (E.obj S.objs.length w.heap.size c) (w.alloc o) := by
  have hx := h.ext_of none (World.grownBy_alloc w o none) (fun g e => by cases e)
  have hn := h.jnew
  exact { hx with
    j := fun o' g hj => by
      have : o' ≠ S.objs.length := fun e => by rw [e, hn] at hj; cases hj
      simpa [Env.obj, this] using hj
    cp := fun o' g hj => by
      have : o' ≠ S.objs.length := fun e => by rw [e, hn] at hj; cases hj
      simp [Env.obj, this] }

theorem SR.newObj (h : SR B0 w0 E S w) (o : Obj) (c : Nat) (ob : AObj) (hob : OR (E.obj S.objs.length w.heap.size c) (w.alloc o) S.objs.length w.heap.size ob) :
    SR B0 w0 (E.obj S.objs.length w.heap.size c) (S.push ob) (w.alloc o) ∧ Step S.objs.length S.ends.length E w (E.obj S.objs.length w.heap.size c) (w.alloc o) := by
  have hx := h.ext_obj o c
  have hn := h.jnew
  have hold : ∀ g, g < w.heap.size → (w.alloc o).heap[g]? = w.heap[g]? := fun g hg => Below.heap_alloc w o g hg
  have hjne : ∀ o' g, (E.obj S.objs.length w.heap.size c).j o' = some g → (o' = S.objs.length ∧ g = w.heap.size) ∨ (o' ≠ S.objs.length ∧ E.j o' = some g) := fun o' g hj => by
    by_cases e : o' = S.objs.length
    · left; simp [Env.obj, e] at hj; exact ⟨e, hj.symm⟩
    · right; simp [Env.obj, e] at hj; exact ⟨e, hj⟩
  refine ⟨{ below := h.below.alloc h.base o, base := Nat.le_trans h.base (by simp), obj := ?_, jlt := ?_, inj := ?_, jb := ?_, fzc := ?_, en := h.en, tok := ?_, tinj := h.tinj }, { hx with size := by simp, frame := fun g hg _ _ => hold g hg, jn := ?_, tn := fun t ht => .inl ⟨t, ht, rfl⟩, jid := ?_, tid := fun _ ht => .inl ht, fn := fun _ _ hf => .inl hf }⟩
  · intro o' ob' g ho hj
    rcases hjne o' g hj with ⟨rfl, rfl⟩ | ⟨hne, hj'⟩
    · simp [AS.push] at ho; subst ho; exact hob
    · have hlt := h.jlt o' g hj'
      have ho' : S.objs[o']? = some ob' := by simpa [AS.push, List.getElem?_append_left hlt] using ho
      exact (h.obj o' ob' g ho' hj').ext hx hj' (hold g (h.jb o' g hj').2.1)
  · intro o' g hj
    rcases hjne o' g hj with ⟨rfl, _⟩ | ⟨_, hj'⟩
    · simp [AS.push]
    · have := h.jlt o' g hj'; simp [AS.push]; omega
  · intro o1 o2 g h1 h2 l1 l2
    have hl : ∀ o', o' < S.objs.length → (S.push ob).live o' → S.live o' := fun o' ho hl e => hl (by simpa [AS.push, List.getElem?_append_left ho] using e)
    rcases hjne o1 g h1 with ⟨rfl, e1⟩ | ⟨n1, k1⟩ <;> rcases hjne o2 g h2 with ⟨rfl, e2⟩ | ⟨n2, k2⟩
    · rfl
    · exact absurd (h.jb o2 g k2).2.1 (by omega)
    · exact absurd (h.jb o1 g k1).2.1 (by omega)
    · exact h.inj o1 o2 g k1 k2 (hl _ (h.jlt _ _ k1) l1) (hl _ (h.jlt _ _ k2) l2)
  · intro o' g hj
    rcases hjne o' g hj with ⟨_, rfl⟩ | ⟨_, hj'⟩
    · refine ⟨h.base, by simp, fun k hf => ?_⟩
      obtain ⟨z, hz⟩ := h.fzc _ k hf
      exact absurd (World.block_lt_of_cell? w _ hz) (Nat.lt_irrefl _)
    · obtain ⟨a, b, d⟩ := h.jb o' g hj'
      exact ⟨a, by simp; omega, d⟩
  · exact fun g k hf => let ⟨z, hz⟩ := h.fzc g k hf; ⟨z, (hx.cell g k hf).trans hz⟩
  · intro t ht
    have hlt := h.tblock (t := t) ht
    obtain ⟨a, ⟨c', T, hc⟩, d, e⟩ := h.tok t ht
    refine ⟨a, ⟨c', T, (hold _ hlt).trans hc⟩, d, fun o' hj => ?_⟩
    rcases hjne o' _ hj with ⟨_, e1⟩ | ⟨_, hj'⟩
    · simp only [Env.obj] at e1; omega
    · exact e o' hj'
  · intro o' g hj
    rcases hjne o' g hj with ⟨_, e1⟩ | ⟨_, hj'⟩
    · exact .inr (by omega)
    · exact .inl ⟨o', hj'⟩
  · intro o' hj
    by_cases e : o' = S.objs.length
    · exact .inr (by omega)
    · left; simpa [Env.obj, e] using hj

/-- A new row of cells as an object. -/
theorem SR.newCells (h : SR B0 w0 E S w) (arr : Array Value) (T : TypeId) (l : List AV) (hl : l.length ≤ arr.size) (hp : ∀ (i : Nat) x y, l[i]? = some x → arr[i]? = some y → VR E w x y) :
    ∃ E', SR B0 w0 E' (S.push (.cells l T)) (w.alloc (.cells arr T)) ∧ Step S.objs.length S.ends.length E w E' (w.alloc (.cells arr T)) ∧ E'.j S.objs.length = some w.heap.size ∧ E'.cp S.objs.length = arr.size := by
  refine ⟨_, (h.newObj (.cells arr T) arr.size (.cells l T) ?_).1, (h.newObj (.cells arr T) arr.size (.cells l T) ?_).2, by simp [Env.obj], by simp [Env.obj]⟩ <;>
  exact ⟨arr, World.alloc_heap_new w _, by simp [Env.obj], hl, fun i x y hx hy => (hp i x y hx hy).ext (h.ext_obj _ _)⟩

theorem SR.newMap (h : SR B0 w0 E S w) :
    ∃ E', SR B0 w0 E' (S.push (.map [] 0)) (w.alloc (.map #[] 0)) ∧ Step S.objs.length S.ends.length E w E' (w.alloc (.map #[] 0)) ∧ E'.j S.objs.length = some w.heap.size := by
  refine ⟨_, (h.newObj (.map #[] 0) 0 (.map [] 0) ?_).1, (h.newObj (.map #[] 0) 0 (.map [] 0) ?_).2, by simp [Env.obj]⟩ <;>
  exact ⟨#[], World.alloc_heap_new w _, rfl, fun i e c he => by simp at he⟩

/-- A new row of cells, frozen. -/
theorem SR.newRow (h : SR B0 w0 E S w) (arr : Array Value) (T : TypeId) (n : Nat) (hn : n ≤ arr.size) (l : List AV) (hl : l.length ≤ n) (hp : ∀ (i : Nat) x y, l[i]? = some x → arr[i]? = some y → VR E w x y) (fr : Nat × Nat := (0, 0)) :
    SR B0 w0 (E.row w.heap.size n) S (w.alloc (.cells arr T fr)) ∧ Step S.objs.length S.ends.length E w (E.row w.heap.size n) (w.alloc (.cells arr T fr)) ∧
      Row (E.row w.heap.size n) (w.alloc (.cells arr T fr)) (VR (E.row w.heap.size n) (w.alloc (.cells arr T fr))) l w.heap.size 0 := by
  have hcell : ∀ k, (w.alloc (.cells arr T fr)).cell? ⟨w.heap.size, k, none⟩ = arr[k]? := fun k => by
    have hnew := World.alloc_heap_new w (.cells arr T fr)
    unfold World.cell?
    simp only [hnew]
    rfl
  have hx0 := h.ext_of none (World.grownBy_alloc w (.cells arr T fr) none) (fun g e => by cases e)
  have hx : Ext E w (E.row w.heap.size n) (w.alloc (.cells arr T fr)) := { hx0 with fz := fun g k hf => .inl hf }
  have hold : ∀ g, g < w.heap.size → (w.alloc (.cells arr T fr)).heap[g]? = w.heap[g]? := fun g hg => Below.heap_alloc w _ g hg
  refine ⟨{ below := h.below.alloc h.base _, base := Nat.le_trans h.base (by simp), obj := ?_, jlt := h.jlt, inj := h.inj, jb := ?_, fzc := ?_, en := h.en, tok := ?_, tinj := h.tinj }, { hx with size := by simp, frame := fun g hg _ _ => hold g hg, jn := fun o _ ho => .inl ⟨o, ho⟩, tn := fun t ht => .inl ⟨t, ht, rfl⟩, jid := fun _ ho => .inl ho, tid := fun _ ht => .inl ht, fn := fun g k hf => hf.elim .inl (fun hk => .inr (.inl (Nat.le_of_eq hk.1.symm))) }, ?_⟩
  · exact fun o ob g ho hj => (h.obj o ob g ho hj).ext hx hj (hold g (h.jb o g hj).2.1)
  · intro o g hj
    obtain ⟨a, b, c⟩ := h.jb o g hj
    refine ⟨a, by simp; omega, fun k hf => ?_⟩
    rcases hf with hf | ⟨rfl, _⟩
    · exact c k hf
    · omega
  · intro g k hf
    rcases hf with hf | ⟨rfl, hk⟩
    · exact let ⟨z, hz⟩ := h.fzc g k hf; ⟨z, (hx.cell g k hf).trans hz⟩
    · exact ⟨arr[k]'(by omega), by rw [hcell]; simp [show k < arr.size by omega]⟩
  · intro t ht
    have hlt := h.tblock (t := t) ht
    obtain ⟨a, ⟨c', T', hc⟩, d, e⟩ := h.tok t ht
    refine ⟨a, ⟨c', T', (hold _ hlt).trans hc⟩, fun k hk hf => ?_, e⟩
    rcases hf with hf | ⟨e1, _⟩
    · exact d k hk hf
    · exact absurd hlt (by show ¬ (E.tk t).1 < _; rw [show (E.tk t).1 = w.heap.size from e1]; exact Nat.lt_irrefl _)
  · intro m x hm
    have hlt : m < l.length := (List.getElem?_eq_some_iff.1 hm).1
    have hy : arr[m]? = some (arr[m]'(by omega)) := by simp [show m < arr.size by omega]
    exact ⟨.inr ⟨rfl, by omega⟩, _, by rw [Nat.zero_add, hcell]; simp [show m < arr.size by omega], (hp m x _ hm hy).ext hx⟩

theorem AS.set_get (S : AS) (i : Nat) (o : AObj) (k : Nat) : (S.set i o).objs[k]? = if i = k then (if i < S.objs.length then some o else none) else S.objs[k]? := by
  simp only [AS.set, List.getElem?_set]

/-- An object turns. -/
theorem SR.setObj (h : SR B0 w0 E S w) {w' : World} {o g : Nat} (hj : E.j o = some g) (hlive : S.live o) (hg : w.grownBy w' (some g)) (ob : AObj) (hob : OR E w' o g ob) :
    SR B0 w0 E (S.set o ob) w' ∧ Step S.objs.length S.ends.length E w E w' := by
  obtain ⟨hB, hlt, hnf⟩ := h.jb o g hj
  have hrow : ∀ g', some g = some g' → (∀ k, ¬ E.fz g' k) ∧ ∀ t, 0 < E.en t → (E.tk t).1 ≠ g' := fun g' e => by cases e; exact ⟨hnf, fun t ht => h.jblock ht hj⟩
  have hx := h.ext_of (some g) hg hrow
  have hold : ∀ g', g' < w.heap.size → g' ≠ g → w'.heap[g']? = w.heap[g']? := fun g' h1 h2 => hg.block g' h1 (fun e => h2 (by cases e; rfl))
  have hlen : (S.set o ob).objs.length = S.objs.length := by simp [AS.set]
  have hlo := h.jlt o g hj
  have hl : ∀ o', (S.set o ob).live o' → S.live o' := fun o' hl e => by
    by_cases e1 : o = o'
    · subst e1; exact hlive e
    · exact hl (by rw [AS.set_get, if_neg e1]; exact e)
  refine ⟨{ below := ?_, base := Nat.le_trans h.base hg.size, obj := ?_, jlt := fun o' g' k => by rw [hlen]; exact h.jlt o' g' k, inj := fun o1 o2 g' k1 k2 l1 l2 => h.inj o1 o2 g' k1 k2 (hl _ l1) (hl _ l2), jb := ?_, fzc := ?_, en := h.en, tok := ?_, tinj := h.tinj }, { hx with size := hg.size, frame := ?_, jn := fun o _ ho => .inl ⟨o, ho⟩, tn := fun t ht => .inl ⟨t, ht, rfl⟩, jid := fun _ ho => .inl ho, tid := fun _ ht => .inl ht, fn := fun _ _ hf => .inl hf }⟩
  · exact h.below.grown hg h.base (fun k e => by cases e; exact hB)
  · intro o' ob' g' ho' hj'
    rw [AS.set_get] at ho'
    by_cases e1 : o = o'
    · subst e1
      rw [if_pos rfl, if_pos hlo] at ho'
      cases ho'
      rw [hj] at hj'; cases hj'
      exact hob
    · rw [if_neg e1] at ho'
      by_cases e2 : g' = g
      · subst e2
        cases ob' with
        | dead => trivial
        | cells l T => exact absurd (h.inj o o' g' hj hj' hlive (by unfold AS.live; rw [ho']; simp)) e1
        | map es c => exact absurd (h.inj o o' g' hj hj' hlive (by unfold AS.live; rw [ho']; simp)) e1
        | loop r => exact absurd (h.inj o o' g' hj hj' hlive (by unfold AS.live; rw [ho']; simp)) e1
        | dfr => exact absurd (h.inj o o' g' hj hj' hlive (by unfold AS.live; rw [ho']; simp)) e1
        | iter s pos => exact absurd (h.inj o o' g' hj hj' hlive (by unfold AS.live; rw [ho']; simp)) e1
      · exact (h.obj o' ob' g' ho' hj').ext hx hj' (hold g' (h.jb o' g' hj').2.1 e2)
  · exact fun o' g' hj' => let ⟨a, b, c⟩ := h.jb o' g' hj'; ⟨a, Nat.lt_of_lt_of_le b hg.size, c⟩
  · exact fun g' k hf => let ⟨z, hz⟩ := h.fzc g' k hf; ⟨z, (hx.cell g' k hf).trans hz⟩
  · intro t ht
    obtain ⟨a, ⟨c', T', hc⟩, d, e⟩ := h.tok t ht
    exact ⟨a, ⟨c', T', (hold _ (h.tblock ht) (h.jblock ht hj)).trans hc⟩, d, e⟩
  · intro g' h1 h2 _
    exact hold g' h1 (fun e => h2 o (by rw [e]; exact hj))

end Go.AM

/- The abstract machine, fifth text: the operations' laws: loads, stores, fields, elements. -/
namespace Go.AM
open Go.RowKit

variable {B0 : Nat} {w0 w : World} {E : Env} {S : AS} {P : Program}

theorem peval_sound {α : Type} {x : α} : ∀ (s : Sem α), peval P s = some x → s.run P w = .ok x w
  | .pure a, h => by simp [peval] at h; simp [Sem.run, h]
  | .program k, h => peval_sound (k P) h
  | .mark m k, h => peval_sound k h
  | .load .., h => by simp [peval] at h
  | .store .., h => by simp [peval] at h
  | .new .., h => by simp [peval] at h
  | .shape .., h => by simp [peval] at h
  | .freeze .., h => by simp [peval] at h
  | .frozen .., h => by simp [peval] at h
  | .getObj .., h => by simp [peval] at h
  | .setObj .., h => by simp [peval] at h
  | .choose .., h => by simp [peval] at h
  | .sys .., h => by simp [peval] at h
  | .halt .., h => by simp [peval] at h

theorem ofV_some {x : Value} {y : AV} (h : ofV x = some y) : flat x = true ∧ y = .v x := by
  unfold ofV at h
  split at h
  · rename_i hf; cases h; exact ⟨hf, rfl⟩
  · cases h

theorem szOf_some {t : TypeId} {n : Nat} (h : szOf P t = some n) : ∃ i, P.info? t = some i ∧ i.size = n := by
  unfold szOf at h
  obtain ⟨i, hi, hs⟩ := Option.map_eq_some_iff.1 h
  exact ⟨i, hi, hs⟩

theorem run_sizeOf {t : TypeId} {n : Nat} (h : szOf P t = some n) : (sizeOf t).run P w = .ok n w := by
  obtain ⟨i, hi, hs⟩ := szOf_some h
  simp [sizeOf, typeInfo, hi, hs]

theorem aggOf_some {t : TypeId} {b : Bool} (h : aggOf t P = some b) : (isAgg t).run P w = .ok b w := by
  unfold aggOf at h
  unfold isAgg
  cases hu : P.underlying t with
  | none => simp [hu] at h
  | some d => cases d <;> simp [hu] at h <;> subst h <;> simp [run_underlying hu]

/-- Cells that stand from b on in block g, each related. -/
def Stand (E : Env) (w : World) (l : List AV) (g b : Nat) : Prop := ∀ m x, l[m]? = some x → ∃ z, w.cell? ⟨g, b + m, none⟩ = some z ∧ VR E w x z

theorem Stand.list {l : List AV} {g b : Nat} (h : Stand E w l g b) : ∃ ys : List Value, Pair (VR E w) l ys ∧ ∀ j v, ys[j]? = some v → w.cell? ⟨g, b + j, none⟩ = some v := by
  refine ⟨(List.range l.length).map fun j => (w.cell? ⟨g, b + j, none⟩).getD default, ⟨by simp, fun i x y hx hy => ?_⟩, fun j v hv => ?_⟩
  · obtain ⟨z, hz, hr⟩ := h i x hx
    have hlt : i < l.length := (List.getElem?_eq_some_iff.1 hx).1
    simp [hlt, hz] at hy
    exact hy ▸ hr
  · have hlt : j < l.length := by have := (List.getElem?_eq_some_iff.1 hv).1; simpa using this
    obtain ⟨z, hz, hr⟩ := h j l[j] (by simp [hlt])
    simp [hlt, hz] at hv
    exact hv ▸ hz

theorem Stand.drop {l : List AV} {g b : Nat} (h : Stand E w l g b) (o n : Nat) : Stand E w ((l.drop o).take n) g (b + o) := fun m x hx => by
  rw [List.getElem?_take] at hx
  split at hx
  · rw [List.getElem?_drop] at hx
    have := h (o + m) x hx
    rwa [← Nat.add_assoc] at this
  · cases hx

theorem addr_add (g b j : Nat) : (⟨g, b, none⟩ : Addr).add j = ⟨g, b + j, none⟩ := by
  unfold Addr.add; split
  · rename_i h; subst h; rfl
  · rfl

theorem pick_sound {l : List AV} {g b off : Nat} {t : TypeId} {x : AV} (h : Stand E w l g b) (hp : pick P t l off = some x) : ∃ y, (loadVar t ⟨g, b + off, none⟩).run P w = .ok y w ∧ VR E w x y := by
  unfold pick at hp
  split at hp
  · rename_i ha
    obtain ⟨n, hn, hp⟩ := Option.bind_eq_some_iff.1 hp
    split at hp
    · rename_i hle
      cases hp
      obtain ⟨ys, hy, hc⟩ := (h.drop off n).list
      have hlen : ys.length = n := by rw [← hy.1]; simp; omega
      refine ⟨.agg ys.toArray, ?_, VR.agg hy⟩
      have hr := run_loadCells_list (P := P) (w := w) ⟨g, b + off, none⟩ ys (fun j v hv => by rw [addr_add]; exact hc j v hv)
      rw [hlen] at hr
      simp [loadVar, aggOf_some ha, run_sizeOf hn, hr]
    · cases hp
  · rename_i ha
    obtain ⟨z, hz, hr⟩ := h off x hp
    refine ⟨z, ?_, hr⟩
    simp [loadVar, aggOf_some ha, load, Sem.run, hz]
  · cases hp

theorem cellsAt_some {o : Nat} {p : List AV × TypeId} (h : S.cellsAt o = some p) : S.objs[o]? = some (.cells p.1 p.2) := by
  unfold AS.cellsAt at h
  split at h
  · rename_i l T hl; cases h; exact hl
  · cases h
theorem mapAt_some {o : Nat} {p : List AEnt × Nat} (h : S.mapAt o = some p) : S.objs[o]? = some (.map p.1 p.2) := by
  unfold AS.mapAt at h
  split at h
  · rename_i l T hl; cases h; exact hl
  · cases h

theorem OR.stand {o g : Nat} {l : List AV} {T : TypeId} (h : OR E w o g (.cells l T)) : Stand E w l g 0 := by
  obtain ⟨arr, h1, _, h3, h4⟩ := h
  intro m x hx
  have hlt : m < l.length := (List.getElem?_eq_some_iff.1 hx).1
  refine ⟨arr[m]'(by omega), ?_, h4 m x _ hx (by simp [show m < arr.size by omega])⟩
  rw [Nat.zero_add, cell_of_row w g m arr T _ h1]
  simp [show m < arr.size by omega]

theorem Row.stand {l : List AV} {g b : Nat} (h : Row E w (VR E w) l g b) : Stand E w l g b := fun m x hx => (h m x hx).2

theorem load_sound (h : SR B0 w0 E S w) {t : TypeId} {a x : AV} {a' : Value} (ha : VR E w a a') (hx : aload P S t a = some x) : ∃ y, (Instr.loadAt t a').run P w = .ok y w ∧ VR E w x y := by
  cases a with
  | ptr o off =>
    obtain ⟨g, hj, rfl⟩ := ha.ptr_inv
    obtain ⟨p, hp, hx⟩ := Option.bind_eq_some_iff.1 hx
    have hs := (h.obj o _ g (cellsAt_some hp) hj).stand
    have := pick_sound (P := P) hs hx
    simpa [Instr.loadAt, Instr.sureAddr] using this
  | eptr row off =>
    obtain ⟨g, b, rfl, hr⟩ := ha.eptr_inv
    have := pick_sound (P := P) hr.stand hx
    simpa [Instr.loadAt, Instr.sureAddr] using this
  | _ => cases hx

/-- The cells of a value. -/
theorem VR.cells {x : AV} {y : Value} (h : VR E w x y) (hj : x ≠ .junk) : Pair (VR E w) x.cells y.cells.toList := by
  have one : ∀ {x : AV} {y : Value}, VR E w x y → x.cells = [x] → y.cells = #[y] → Pair (VR E w) x.cells y.cells.toList := fun {x y} h h1 h2 => by
    rw [h1, h2]
    refine ⟨rfl, fun i a b ha hb => ?_⟩
    cases i with
    | zero => simp at ha hb; subst ha; subst hb; exact h
    | succ i => simp at ha
  cases x with
  | junk => exact absurd rfl hj
  | v x => obtain ⟨hf, rfl⟩ := h.flat_inv; exact one h rfl (by cases y <;> first | rfl | simp [flat] at hf)
  | ptr o off => obtain ⟨g, _, rfl⟩ := h.ptr_inv; exact one h rfl rfl
  | eptr row off => obtain ⟨g, b, rfl, _⟩ := h.eptr_inv; exact one h rfl rfl
  | lst c rows =>
    rcases h.lst_inv with ⟨_, _, rfl, _⟩ | ⟨g, b, cap, sz, rfl, _⟩
    · exact one h rfl rfl
    · exact one h rfl rfl
  | slc o sz off len cap => obtain ⟨g, c, _, rfl, _⟩ := h.slc_inv; exact one h rfl rfl
  | mp o => obtain ⟨g, _, rfl⟩ := h.mp_inv; exact one h rfl rfl
  | yld o => obtain ⟨g, _, rfl⟩ := h.yld_inv; exact one h rfl rfl
  | fn f l m => obtain ⟨_, _, rfl, _⟩ := h.fn_inv; exact one h rfl rfl
  | ifc t x => obtain ⟨_, rfl, _⟩ := h.ifc_inv; exact one h rfl rfl
  | agg l => obtain ⟨ys, rfl, hp⟩ := h.agg_inv; simpa [AV.cells, Value.cells] using hp
  | tup l => obtain ⟨ys, rfl, hp⟩ := h.tup_inv; exact one h rfl rfl

theorem VR.oneCell {x : AV} {y : Value} (h : VR E w x y) (h1 : x.one = true) : y.oneCell' = true := by
  cases x with
  | junk => simp [AV.one] at h1
  | v x => obtain ⟨hf, rfl⟩ := h.flat_inv; cases y <;> first | rfl | (simp [AV.one] at h1; done) | simp [flat] at hf
  | ptr o off => obtain ⟨g, _, rfl⟩ := h.ptr_inv; rfl
  | eptr row off => obtain ⟨g, b, rfl, _⟩ := h.eptr_inv; rfl
  | lst c rows =>
    rcases h.lst_inv with ⟨_, _, rfl, _⟩ | ⟨g, b, cap, sz, rfl, _⟩
    · rfl
    · rfl
  | slc o sz off len cap => obtain ⟨g, c, _, rfl, _⟩ := h.slc_inv; rfl
  | mp o => obtain ⟨g, _, rfl⟩ := h.mp_inv; rfl
  | yld o => obtain ⟨g, _, rfl⟩ := h.yld_inv; rfl
  | fn f l m => obtain ⟨_, _, rfl, _⟩ := h.fn_inv; rfl
  | ifc t x => obtain ⟨_, rfl, _⟩ := h.ifc_inv; rfl
  | agg l => simp [AV.one] at h1
  | tup l => simp [AV.one] at h1

theorem Pair.oneCell {l : List AV} {ys : List Value} (h : Pair (VR E w) l ys) (h1 : l.all AV.one = true) : ∀ v ∈ ys, v.oneCell' = true := by
  intro v hv
  obtain ⟨i, hi, rfl⟩ := List.getElem_of_mem hv
  have hlt : i < l.length := by rw [h.1]; exact hi
  refine (h.2 i l[i] ys[i] (by simp [hlt]) (by simp [hi])).oneCell ?_
  exact List.all_eq_true.1 h1 _ (List.getElem_mem _)

theorem splice_length {l xs : List AV} {off : Nat} (h : off + xs.length ≤ l.length) : (splice l off xs).length = l.length := by simp [splice]; omega

theorem splice_get {l xs : List AV} {off i : Nat} (h : off + xs.length ≤ l.length) : (splice l off xs)[i]? = if off ≤ i ∧ i < off + xs.length then xs[i - off]? else l[i]? := by
  unfold splice
  rw [List.append_assoc, List.getElem?_append, List.length_take, Nat.min_eq_left (by omega)]
  split
  · rw [List.getElem?_take, if_pos (by assumption), if_neg (by omega)]
  · rw [List.getElem?_append]
    split
    · rw [if_pos (by omega)]
    · rw [List.getElem?_drop, if_neg (by omega)]; congr 1; omega

theorem store_sound (h : SR B0 w0 E S w) {t : TypeId} {a x : AV} {a' y : Value} {S' : AS} (ha : VR E w a a') (hy : VR E w x y) (hx : astore P S t x a = some S') :
    ∃ w', (Instr.storeAt t a' y).run P w = .ok () w' ∧ SR B0 w0 E S' w' ∧ Step S.objs.length S.ends.length E w E w' := by
  cases a with
  | ptr o off =>
    obtain ⟨g, hj, rfl⟩ := ha.ptr_inv
    obtain ⟨p, hp, hx⟩ := Option.bind_eq_some_iff.1 hx
    split at hx
    · rename_i hc
      cases hx
      simp only [Bool.and_eq_true, beq_iff_eq, decide_eq_true_eq] at hc
      obtain ⟨⟨hone, hsz⟩, hfit⟩ := hc
      have hnj : x ≠ .junk := fun e => by subst e; simp [AV.cells, AV.one] at hone
      have hcs := hy.cells hnj
      obtain ⟨arr, hg, hcp, hle, hvr⟩ := h.obj o _ g (cellsAt_some hp) hj
      have hylen : y.cells.toList.length = x.cells.length := hcs.1.symm
      have hst := run_storeCells_at P g off p.2 y.cells.toList 0 arr w hg (by rw [hylen]; omega) (hcs.oneCell hone)
      simp only [Nat.add_zero] at hst
      have hrun : (Instr.storeAt t (.pointer (some ⟨g, off, none⟩)) y).run P w = .ok () (w.setRow g (arr.toList.take off ++ y.cells.toList ++ arr.toList.drop (off + y.cells.toList.length)).toArray) := by
        have hs' : y.cells.size = x.cells.length := by rw [← Array.length_toList]; exact hylen
        simp [Instr.storeAt, Instr.sureAddr, storeVar, run_sizeOf hsz, hs', hst]
      refine ⟨_, hrun, ?_⟩
      have hgb : w.grownBy (w.setRow g (arr.toList.take off ++ y.cells.toList ++ arr.toList.drop (off + y.cells.toList.length)).toArray) (some g) :=
        ⟨rfl, rfl, rfl, by simp, fun k _ hk => setRow_other w g k _ (fun e => hk (by rw [e]))⟩
      have hlive : S.live o := by unfold AS.live; rw [cellsAt_some hp]; simp
      have hrow : ∀ g', some g = some g' → (∀ k, ¬ E.fz g' k) ∧ ∀ t, 0 < E.en t → (E.tk t).1 ≠ g' := fun g' e => by cases e; exact ⟨(h.jb o g hj).2.2, fun t ht => h.jblock ht hj⟩
      have hext := h.ext_of (some g) hgb hrow
      refine h.setObj hj hlive hgb _ ⟨_, setRow_heap w g arr _ p.2 _ hg, ?_, ?_, ?_⟩
      · simp only [List.size_toArray, List.length_append, List.length_take, List.length_drop, Array.length_toList, hylen]; omega
      · rw [splice_length hfit]; simp only [List.size_toArray, List.length_append, List.length_take, List.length_drop, Array.length_toList, hylen]; omega
      · intro i a b ha' hb'
        rw [splice_get hfit] at ha'
        refine VR.ext hext ?_
        simp only [List.getElem?_toArray] at hb'
        rw [List.append_assoc, List.getElem?_append, List.length_take, Array.length_toList, Nat.min_eq_left (by omega)] at hb'
        split at hb'
        · rename_i hlt
          rw [if_neg (by omega)] at ha'
          rw [List.getElem?_take, if_pos hlt] at hb'
          exact hvr i a b ha' (by simpa using hb')
        · rename_i hge
          rw [List.getElem?_append] at hb'
          split at hb'
          · rename_i hlt
            rw [if_pos (by omega)] at ha'
            exact hcs.2 (i - off) a b ha' hb'
          · rename_i hge2
            rw [if_neg (by omega)] at ha'
            rw [List.getElem?_drop] at hb'
            have e : off + y.cells.toList.length + (i - off - y.cells.toList.length) = i := by omega
            rw [e] at hb'
            exact hvr i a b ha' (by simpa using hb')
    · cases hx
  | _ => cases hx

end Go.AM

/- The abstract machine, sixth text: the operations' laws: what makes memory; fields and elements. -/
namespace Go.AM
open Go.RowKit

variable {B0 : Nat} {w0 w : World} {E : Env} {S S' : AS} {P : Program}

/-- An operation's run did what the abstract one did. -/
def Did (B0 : Nat) (w0 : World) (E : Env) (w : World) (S S' : AS) (x : AV) (r : Result Next) : Prop :=
  ∃ nx w' E', r = .ok nx w' ∧ SR B0 w0 E' S' w' ∧ Step S.objs.length S.ends.length E w E' w' ∧ ((∃ y, nx = .value y ∧ VR E' w' x y) ∨ (nx = .skip ∧ x = undefA))

theorem Did.val {x : AV} {y : Value} {r : Result Next} (h : SR B0 w0 E S w) (hr : r = .ok (.value y) w) (hv : VR E w x y) : Did B0 w0 E w S S x r :=
  ⟨_, _, E, hr, h, Step.refl _ _ _ _, .inl ⟨y, rfl, hv⟩⟩

theorem flats_pair (l : List Value) (h : l.all flat = true) : Pair (VR E w) (l.map .v) l :=
  ⟨by simp, fun i x y hx hy => by
    simp [hy] at hx
    subst hx
    exact VR.of_flat (List.all_eq_true.1 h _ (List.mem_of_getElem? hy))⟩

theorem azero_some {t : TypeId} {l : List AV} (h : azero P t = some l) : ∃ i z, P.info? t = some i ∧ i.zero = some z ∧ z.cells.toList.all flat = true ∧ l = z.cells.toList.map .v := by
  unfold azero at h
  obtain ⟨i, hi, h⟩ := Option.bind_eq_some_iff.1 h
  obtain ⟨z, hz, h⟩ := Option.bind_eq_some_iff.1 h
  split at h
  · rename_i hf; cases h; exact ⟨i, z, hi, hz, hf, rfl⟩
  · cases h

theorem run_zero {t : TypeId} {i : TypeInfo} {z : Value} (hi : P.info? t = some i) (hz : i.zero = some z) : (zeroValue t).run P w = .ok z w := by simp [zeroValue, typeInfo, hi, hz]

theorem Pair.arr {l : List AV} {ys : List Value} (h : Pair (VR E w) l ys) : ∀ (i : Nat) x y, l[i]? = some x → ys.toArray[i]? = some y → VR E w x y := fun i x y hx hy => h.2 i x y hx (by simpa using hy)

theorem alloc_sound (h : SR B0 w0 E S w) {t : TypeId} {z : List AV} (hz : azero P t = some z) :
    ∃ y w' E', (Instr.alloc t true (.tuple #[])).run P w = .ok y w' ∧ SR B0 w0 E' (S.push (.cells z t)) w' ∧ Step S.objs.length S.ends.length E w E' w' ∧ VR E' w' (.ptr S.objs.length 0) y := by
  obtain ⟨i, zv, hi, hzv, hf, rfl⟩ := azero_some hz
  have hp : Pair (VR E w) (zv.cells.toList.map .v) zv.cells.toList := flats_pair _ hf
  obtain ⟨E', h1, h2, h3, _⟩ := h.newCells zv.cells t (zv.cells.toList.map .v) (by simp) (fun i x y hx hy => hp.2 i x y hx (by simpa using hy))
  refine ⟨_, _, E', ?_, h1, h2, VR.ptr h3⟩
  simp [Instr.alloc, run_zero hi hzv, newVar, newRow]

theorem box_sound (h : SR B0 w0 E S w) {t : TypeId} {x : AV} {y : Value} (hv : VR E w x y) (hj : x ≠ .junk) :
    ∃ y' w' E', (Instr.box t y).run P w = .ok y' w' ∧ SR B0 w0 E' (S.push (.cells x.cells t)) w' ∧ Step S.objs.length S.ends.length E w E' w' ∧ VR E' w' (.ptr S.objs.length 0) y' := by
  have hp := hv.cells hj
  obtain ⟨E', h1, h2, h3, _⟩ := h.newCells y.cells t x.cells (by rw [hp.1]; simp) (fun i x y hx hy => hp.2 i x y hx (by simpa using hy))
  refine ⟨_, _, E', ?_, h1, h2, VR.ptr h3⟩
  simp [Instr.box, newVar, newRow]

theorem foldl_set (off : Nat) : ∀ (l : List Value) (n : Nat) (cs : Array Value), off + n + l.length ≤ cs.size →
    ((l.zipIdx n).foldl (fun (cs : Array Value) (p : Value × Nat) => cs.setIfInBounds (off + p.2) p.1) cs).size = cs.size ∧
    ∀ i, ((l.zipIdx n).foldl (fun (cs : Array Value) (p : Value × Nat) => cs.setIfInBounds (off + p.2) p.1) cs)[i]? = if off + n ≤ i ∧ i < off + n + l.length then l[i - (off + n)]? else cs[i]?
  | [], n, cs, _ => ⟨rfl, fun i => by simp; omega⟩
  | v :: l, n, cs, h => by
    simp only [List.length_cons] at h
    obtain ⟨h1, h2⟩ := foldl_set off l (n + 1) (cs.setIfInBounds (off + n) v) (by simp; omega)
    simp only [List.zipIdx_cons, List.foldl_cons]
    refine ⟨by rw [h1]; simp, fun i => ?_⟩
    rw [h2 i]
    simp only [List.length_cons]
    by_cases e : i = off + n
    · subst e
      rw [if_neg (by omega), if_pos (by omega)]
      simp [show off + n < cs.size by omega]
    · by_cases e2 : off + (n + 1) ≤ i ∧ i < off + (n + 1) + l.length
      · rw [if_pos e2, if_pos (by omega), show i - (off + n) = (i - (off + (n + 1))) + 1 by omega]
        simp
      · rw [if_neg e2, if_neg (by omega)]
        rw [Array.getElem?_setIfInBounds]
        rw [if_neg (by omega)]

theorem fill_sound (place : Nat → Option (Nat × Nat)) {ρ : Operand → AV} {ρ' : Operand → Value} (hρ : ∀ x, VR E w (ρ x) (ρ' x)) : ∀ (parts : List (Nat × Operand)) (cells out : List AV) (cs : Array Value), Pair (VR E w) cells cs.toList →
    afill place cells (parts.map fun p => (p.1, ρ p.2)) = some out → ∃ outs, Instr.fill place cs (parts.map fun p => (p.1, ρ' p.2)) = some outs ∧ Pair (VR E w) out outs.toList ∧ outs.size = cs.size
  | [], cells, out, cs, hp, h => by simp [afill] at h; subst h; exact ⟨cs, rfl, hp, rfl⟩
  | (i, x) :: rest, cells, out, cs, hp, h => by
    simp only [List.map_cons, afill] at h
    obtain ⟨p, hpl, h⟩ := Option.bind_eq_some_iff.1 h
    split at h
    · rename_i hc
      obtain ⟨hsz, hone, hfit⟩ := hc
      by_cases hj : ρ x = .junk
      · rw [hj] at hone; simp [AV.cells, AV.one] at hone
      have hcs := (hρ x).cells hj
      have hlen : (ρ' x).cells.size = (ρ x).cells.length := by rw [← Array.length_toList]; exact hcs.1.symm
      have hcl : cs.size = cells.length := by rw [← Array.length_toList]; exact hp.1.symm
      obtain ⟨k1, k2⟩ := foldl_set p.1 (ρ' x).cells.toList 0 cs (by rw [Array.length_toList]; omega)
      have he : (ρ' x).cells.zipIdx.foldl (fun (cs : Array Value) (p' : Value × Nat) => cs.setIfInBounds (p.1 + p'.2) p'.1) cs = ((ρ' x).cells.toList.zipIdx 0).foldl (fun (cs : Array Value) (p' : Value × Nat) => cs.setIfInBounds (p.1 + p'.2) p'.1) cs := by
        rw [← Array.foldl_toList, Array.toList_zipIdx]
      generalize hcs' : ((ρ' x).cells.toList.zipIdx 0).foldl (fun (cs : Array Value) (p' : Value × Nat) => cs.setIfInBounds (p.1 + p'.2) p'.1) cs = cs' at k1 k2 he
      obtain ⟨outs, h1, h2, h3⟩ := fill_sound place hρ rest (splice cells p.1 (ρ x).cells) out cs' (by
        refine ⟨by have e1 := splice_length hfit; have e2 : cs'.toList.length = cs'.size := Array.length_toList; omega, fun i a b ha hb => ?_⟩
        rw [splice_get hfit] at ha
        simp only [Array.getElem?_toList] at hb
        rw [k2 i] at hb
        simp only [Nat.add_zero, Array.length_toList, hlen] at hb
        split at ha
        · rename_i hin
          rw [if_pos hin] at hb
          exact hcs.2 _ a b ha (by simpa using hb)
        · rename_i hin
          rw [if_neg hin] at hb
          exact hp.2 i a b ha (by simpa using hb)) h
      refine ⟨outs, ?_, h2, by rw [h3, k1]⟩
      simp only [List.map_cons, Instr.fill, hpl]
      rw [if_neg (by simp; omega)]
      rw [← h1, ← he]
    · cases h

theorem build_sound {t : TypeId} {parts : Array (Nat × Operand)} {x : AV} {ρ : Operand → AV} {ρ' : Operand → Value} (hρ : ∀ x, VR E w (ρ x) (ρ' x))
    (hx : abuild P t (parts.toList.map fun p => (p.1, ρ p.2)) = some x) : ∃ y, (Instr.build t (parts.map fun p => (p.1, ρ' p.2))).run P w = .ok y w ∧ VR E w x y := by
  unfold abuild at hx
  obtain ⟨z, hz, hx⟩ := Option.bind_eq_some_iff.1 hx
  obtain ⟨i, zv, hi, hzv, hf, rfl⟩ := azero_some hz
  have hp : Pair (VR E w) (zv.cells.toList.map .v) zv.cells.toList := flats_pair _ hf
  have hl : (parts.map fun p => (p.1, ρ' p.2)).toList = parts.toList.map fun p => (p.1, ρ' p.2) := by simp
  split at hx
  · rename_i fs hu
    obtain ⟨places, hpl, hx⟩ := Option.bind_eq_some_iff.1 hx
    obtain ⟨out, ho, rfl⟩ := Option.map_eq_some_iff.1 hx
    obtain ⟨outs, h1, h2, _⟩ := fill_sound _ hρ parts.toList _ out zv.cells hp ho
    exact ⟨_, run_build w t _ outs (by simp only [Program.built, hi, hu, hzv, hpl, hl, h1]), by simpa using VR.agg h2⟩
  · rename_i n e hu
    obtain ⟨ie, hie, hx⟩ := Option.bind_eq_some_iff.1 hx
    obtain ⟨out, ho, rfl⟩ := Option.map_eq_some_iff.1 hx
    obtain ⟨outs, h1, h2, _⟩ := fill_sound _ hρ parts.toList _ out zv.cells hp ho
    exact ⟨_, run_build w t _ outs (by simp only [Program.built, hi, hu, hzv, hie, hl, h1]), by simpa using VR.agg h2⟩
  · cases hx

theorem rep_length (z : List AV) (n : Nat) : (List.replicate n z).flatten.length = n * z.length := by simp

theorem rep_get {α : Type} (z : List α) : ∀ (n i : Nat), i < n * z.length → (List.replicate n z).flatten[i]? = z[i % z.length]?
  | 0, i, h => by simp at h
  | n + 1, i, h => by
    have hz : 0 < z.length := by rcases Nat.eq_zero_or_pos z.length with e | e; · rw [e] at h; simp at h
                                 · exact e
    rw [List.replicate_succ, List.flatten_cons, List.getElem?_append]
    split
    · rename_i hl; rw [Nat.mod_eq_of_lt hl]
    · rename_i hl
      rw [rep_get z n (i - z.length) (by rw [Nat.add_mul, Nat.one_mul] at h; omega)]
      congr 1
      exact (Nat.mod_eq_sub_mod (by omega)).symm

theorem zeros_pair (zv : Value) (n sz : Nat) (hf : zv.cells.toList.all flat = true) (hs : zv.cells.size = sz) :
    Pair (VR E w) (List.replicate n (zv.cells.toList.map AV.v)).flatten (((Array.range (n * sz)).map fun i => zv.cells[i % zv.cells.size]!).toList) := by
  refine ⟨by simp [hs], fun i x y hx hy => ?_⟩
  have hlt : i < n * sz := by have := (List.getElem?_eq_some_iff.1 hy).1; simpa using this
  rw [rep_get _ _ _ (by simpa [hs] using hlt)] at hx
  have hpos : 0 < sz := by rcases Nat.eq_zero_or_pos sz with e | e; · rw [e] at hlt; simp at hlt
                           · exact e
  have hm : i % sz < zv.cells.size := by rw [hs]; exact Nat.mod_lt _ hpos
  simp only [List.length_map, Array.length_toList, hs, List.getElem?_map, Array.getElem?_toList] at hx
  rw [Array.getElem?_eq_getElem hm] at hx
  simp at hx
  subst hx
  simp [hlt, hs] at hy
  subst hy
  have hmem := List.all_eq_true.1 hf (zv.cells[i % sz]'hm) (by simp)
  rw [getElem!_pos zv.cells (i % sz) hm]
  exact VR.of_flat hmem

theorem chunks_length (sz : Nat) : ∀ (n : Nat) (l : List AV), (chunks sz n l).length = n
  | 0, _ => rfl
  | n + 1, l => by simp [chunks, chunks_length sz n]
theorem chunks_flatten (sz : Nat) : ∀ (n : Nat) (l : List AV), l.length = n * sz → (chunks sz n l).flatten = l
  | 0, l, h => by simp at h; simp [chunks, h]
  | n + 1, l, h => by
    rw [Nat.add_mul] at h
    simp only [chunks, List.flatten_cons]
    rw [chunks_flatten sz n (l.drop sz) (by simp; omega), List.take_append_drop]
theorem chunks_mem (sz : Nat) : ∀ (n : Nat) (l : List AV), l.length = n * sz → ∀ r ∈ chunks sz n l, r.length = sz
  | 0, _, _, r, hr => by simp [chunks] at hr
  | n + 1, l, h, r, hr => by
    rw [Nat.add_mul] at h
    simp only [chunks, List.mem_cons] at hr
    rcases hr with rfl | hr
    · simp; omega
    · exact chunks_mem sz n (l.drop sz) (by simp; omega) r hr

theorem isRow_some {t : TypeId} {p : TypeId × Nat} (h : isRow P t = some p) : P.underlying t = some (.slice p.1) ∧ szOf P p.1 = some p.2 ∧ 0 < p.2 := by
  unfold isRow at h
  split at h
  · rename_i e hu
    obtain ⟨sz, hs, h⟩ := Option.bind_eq_some_iff.1 h
    split at h
    · cases h
    · cases h; exact ⟨hu, hs, by omega⟩
  · cases h

theorem buildSlice_sound (h : SR B0 w0 E S w) {mu : Bool} {t : TypeId} {len : Nat} {parts : Array (Nat × Operand)} {x : AV} {ρ : Operand → AV} {ρ' : Operand → Value} (hρ : ∀ x, VR E w (ρ x) (ρ' x))
    (hx : abuildSlice P mu S t len (parts.toList.map fun p => (p.1, ρ p.2)) = some (x, S')) :
    ∃ y w' E', (Instr.buildSlice t len (parts.map fun p => (p.1, ρ' p.2))).run P w = .ok y w' ∧ SR B0 w0 E' S' w' ∧ Step S.objs.length S.ends.length E w E' w' ∧ VR E' w' x y := by
  unfold abuildSlice at hx
  obtain ⟨p, hp, hx⟩ := Option.bind_eq_some_iff.1 hx
  obtain ⟨z, hz, hx⟩ := Option.bind_eq_some_iff.1 hx
  obtain ⟨hu, hs, hpos⟩ := isRow_some hp
  obtain ⟨i, zv, hi, hzv, hf, rfl⟩ := azero_some hz
  split at hx
  · rename_i hc
    obtain ⟨hzl, h24, hml⟩ := hc
    have hzs : zv.cells.size = p.2 := by simpa using hzl
    obtain ⟨cs, hcs, hx⟩ := Option.map_eq_some_iff.1 hx
    obtain ⟨outs, h1, h2, h3⟩ := fill_sound _ hρ parts.toList _ cs ((Array.range (len * p.2)).map fun i => zv.cells[i % zv.cells.size]!) (zeros_pair zv len p.2 hf hzs) hcs
    have hosz : outs.size = len * p.2 := by rw [h3]; simp
    have hrun : (Instr.buildSlice t len (parts.map fun p => (p.1, ρ' p.2))).run P w = .ok (.slice (some ⟨w.heap.size, 0, none⟩) len len) (w.alloc (.cells outs p.1)) := by
      have hl : (parts.map fun p => (p.1, ρ' p.2)).toList = parts.toList.map fun p => (p.1, ρ' p.2) := by simp
      by_cases h0 : len * p.2 = 0
      · have e : ((Array.range (len * p.2)).map fun i => zv.cells[i % zv.cells.size]!) = #[] := by rw [h0]; simp
        rw [e] at h1
        simp [Instr.buildSlice, run_underlying hu, run_sizeOf hs, h0, newRow, show Array.range 0 = #[] from rfl, h1]
      · simp [Instr.buildSlice, run_underlying hu, run_sizeOf hs, h0, show ¬ (len * p.2 > 2 ^ 24) by omega, run_zero hi hzv, newRow, h1]
    have hcl : cs.length = len * p.2 := by rw [h2.1]; simpa using hosz
    cases mu with
    | true =>
      simp only [if_true, Prod.mk.injEq] at hx
      obtain ⟨rfl, rfl⟩ := hx
      obtain ⟨E', k1, k2, k3, k4⟩ := h.newCells outs p.1 cs (by omega) (fun i x y hx hy => h2.2 i x y hx (by simpa using hy))
      exact ⟨_, _, E', hrun, k1, k2, 1, _, len, k3, rfl, Nat.le_refl _, Nat.le_refl _, hml, hpos, by rw [k4, hosz]; omega⟩
    | false =>
      simp only [Bool.false_eq_true, if_false, Prod.mk.injEq] at hx
      obtain ⟨rfl, rfl⟩ := hx
      obtain ⟨k1, k2, k3⟩ := h.newRow outs p.1 outs.size (Nat.le_refl _) cs (by omega) (fun i x y hx hy => h2.2 i x y hx (by simpa using hy))
      have hcc := chunks_length p.2 len cs
      have := VR.lst (c := .exact) (rows := chunks p.2 len cs) (cap := len) (sz := p.2) (by omega) hml hpos (chunks_mem _ _ _ hcl) (by rw [chunks_flatten _ _ _ hcl]; exact k3) (show len = _ by omega)
      rw [hcc] at this
      exact ⟨_, _, _, hrun, k1, k2, this⟩
  · cases hx

theorem afield_some {s : TypeId} {f : Nat} {p : Nat × TypeId} (h : afield P s f = some p) : ∃ fs x n, P.underlying s = some (.struct fs) ∧ fs[f]? = some x ∧ szOf P x.type = some n ∧ n ≠ 0 ∧ p = (x.offset, x.type) := by
  unfold afield at h
  split at h
  · rename_i fs hu
    obtain ⟨x, hx, h⟩ := Option.bind_eq_some_iff.1 h
    split at h
    · cases h
    · rename_i h0
      split at h
      · rename_i hs
        cases h
        obtain ⟨n, hn⟩ := Option.isSome_iff_exists.1 hs
        exact ⟨fs, x, n, hu, hx, hn, fun e => h0 (by rw [hn, e]), rfl⟩
      · cases h
  · cases h

theorem fieldAddr_sound {s : TypeId} {f : Nat} {a x : AV} {a' : Value} (ha : VR E w a a') (hx : afieldAddr P s f a = some x) : ∃ y, (Instr.fieldAt s a' f).run P w = .ok y w ∧ VR E w x y := by
  have key : ∀ (g b : Nat) (p : Nat × TypeId), afield P s f = some p → (Instr.fieldAt s (.pointer (some ⟨g, b, none⟩)) f).run P w = .ok (.pointer (some ⟨g, b + p.1, none⟩)) w := by
    intro g b p hp
    obtain ⟨fs, x, n, hu, hf, hn, h0, rfl⟩ := afield_some hp
    simp [Instr.fieldAt, run_underlying hu, hf, Instr.sureAddr, fieldPlace, run_sizeOf hn, h0, addr_add]
  cases a with
  | ptr o off =>
    obtain ⟨g, hj, rfl⟩ := ha.ptr_inv
    obtain ⟨p, hp, rfl⟩ := Option.map_eq_some_iff.1 hx
    exact ⟨_, key g off p hp, VR.ptr hj⟩
  | eptr row off =>
    obtain ⟨g, b, rfl, hr⟩ := ha.eptr_inv
    obtain ⟨p, hp, rfl⟩ := Option.map_eq_some_iff.1 hx
    exact ⟨_, key g (b + off) p hp, by rw [Nat.add_assoc]; exact VR.eptr hr⟩
  | _ => cases hx

theorem part_sound {t : TypeId} {l : List AV} {ys : List Value} {off : Nat} {x : AV} (hp : Pair (VR E w) l ys) (hx : pick P t l off = some x) : ∃ y, (part t ys.toArray off).run P w = .ok y w ∧ VR E w x y := by
  unfold pick at hx
  split at hx
  · rename_i ha
    obtain ⟨n, hn, hx⟩ := Option.bind_eq_some_iff.1 hx
    split at hx
    · cases hx
      refine ⟨.agg (ys.toArray.extract off (off + n)), by simp [part, aggOf_some ha, run_sizeOf hn], ?_⟩
      have : Pair (VR E w) ((l.drop off).take n) ((ys.drop off).take n) := ⟨by simp [hp.1], fun i x y hx hy => by
        rw [List.getElem?_take] at hx hy
        split at hx
        · rename_i hi
          rw [if_pos hi] at hy
          rw [List.getElem?_drop] at hx hy
          exact hp.2 _ x y hx hy
        · cases hx⟩
      have e : ys.toArray.extract off (off + n) = ((ys.drop off).take n).toArray := by simp [List.extract_toArray, List.extract_eq_take_drop]
      rw [e]
      exact VR.agg this
    · cases hx
  · rename_i ha
    have hlt : off < ys.length := by rw [← hp.1]; exact (List.getElem?_eq_some_iff.1 hx).1
    exact ⟨ys[off], by simp [part, aggOf_some ha, hlt], hp.2 off x _ hx (by simp [hlt])⟩
  · cases hx

end Go.AM

/- The abstract machine, seventh text: the operations' laws: elements, slices, maps, comparisons. -/
namespace Go.AM
open Go.RowKit Go.MapKept

variable {B0 : Nat} {w0 w : World} {E : Env} {S S' : AS} {P : Program}

theorem aintOf_some {x : AV} {n : Int} {y : Value} (h : aintOf x = some n) (hv : VR E w x y) : ∃ k, y = .int k n := by
  cases x with
  | v a => cases a <;> simp [aintOf] at h; obtain ⟨_, rfl⟩ := hv.flat_inv; subst h; exact ⟨_, rfl⟩
  | _ => simp [aintOf] at h

theorem flat_row : ∀ (rows : List (List AV)) (sz : Nat), (∀ r ∈ rows, r.length = sz) → ∀ (i : Nat) (r : List AV), rows[i]? = some r → ∀ (k : Nat) (x : AV), r[k]? = some x → rows.flatten[i * sz + k]? = some x
  | [], _, _, i, r, hr, _, _, _ => by simp at hr
  | r0 :: rows, sz, h, 0, r, hr, k, x, hx => by
    simp at hr; subst hr
    have hk : k < r0.length := (List.getElem?_eq_some_iff.1 hx).1
    simp [List.getElem?_append_left hk, hx]
  | r0 :: rows, sz, h, i + 1, r, hr, k, x, hx => by
    have h0 : r0.length = sz := h r0 (by simp)
    have := flat_row rows sz (fun r hr => h r (by simp [hr])) i r (by simpa using hr) k x hx
    rw [List.flatten_cons, List.getElem?_append_right (by rw [h0, Nat.add_mul]; omega), h0, ← this]
    congr 1
    rw [Nat.add_mul]; omega

theorem flat_len : ∀ (rows : List (List AV)) (sz : Nat), (∀ r ∈ rows, r.length = sz) → rows.flatten.length = rows.length * sz
  | [], _, _ => by simp
  | r0 :: rows, sz, h => by
    rw [List.flatten_cons, List.length_append, h r0 (by simp), flat_len rows sz (fun r hr => h r (by simp [hr])), List.length_cons, Nat.add_mul]; omega

theorem flat_take : ∀ (rows : List (List AV)) (sz : Nat), (∀ r ∈ rows, r.length = sz) → ∀ n, (rows.take n).flatten = rows.flatten.take (n * sz)
  | [], _, _, n => by simp
  | r0 :: rows, sz, h, 0 => by simp
  | r0 :: rows, sz, h, n + 1 => by
    have h0 : r0.length = sz := h r0 (by simp)
    rw [List.take_succ_cons, List.flatten_cons, List.flatten_cons, flat_take rows sz (fun r hr => h r (by simp [hr])) n, List.take_append, h0, Nat.add_mul, List.take_of_length_le (l := r0) (by omega), show n * sz + 1 * sz - sz = n * sz by omega]

theorem flat_drop : ∀ (rows : List (List AV)) (sz : Nat), (∀ r ∈ rows, r.length = sz) → ∀ n, (rows.drop n).flatten = rows.flatten.drop (n * sz)
  | [], _, _, n => by simp
  | r0 :: rows, sz, h, 0 => by simp
  | r0 :: rows, sz, h, n + 1 => by
    have h0 : r0.length = sz := h r0 (by simp)
    rw [List.drop_succ_cons, List.flatten_cons, flat_drop rows sz (fun r hr => h r (by simp [hr])) n, List.drop_append, h0, Nat.add_mul, List.drop_of_length_le (l := r0) (by omega), show n * sz + 1 * sz - sz = n * sz by omega, List.nil_append]

theorem Row.sub {R : AV → Value → Prop} {l : List AV} {g b : Nat} (h : Row E w R l g b) (o n : Nat) : Row E w R ((l.drop o).take n) g (b + o) := fun m x hx => by
  rw [List.getElem?_take] at hx
  split at hx
  · rw [List.getElem?_drop] at hx
    have := h (o + m) x hx
    rwa [← Nat.add_assoc] at this
  · cases hx

theorem Row.elem {R : AV → Value → Prop} {rows : List (List AV)} {sz g b i : Nat} {r : List AV} (h : Row E w R rows.flatten g b) (hs : ∀ r ∈ rows, r.length = sz) (hr : rows[i]? = some r) : Row E w R r g (b + i * sz) := fun m x hx => by
  have := h (i * sz + m) x (flat_row rows sz hs i r hr m x hx)
  rwa [← Nat.add_assoc] at this

theorem indexAddr_sound {t : TypeId} {a i x : AV} {a' i' : Value} (ha : VR E w a a') (hi : VR E w i i') (hx : aindexAddr P t a i = some x) : ∃ y, (Instr.indexAt t a' i').run P w = .ok y w ∧ VR E w x y := by
  unfold aindexAddr at hx
  obtain ⟨n, hn, hx1⟩ := Option.bind_eq_some_iff.1 hx
  clear hx
  obtain ⟨k, rfl⟩ := aintOf_some hn hi
  split at hx1
  · rename_i e c rows hu
    split at hx1
    · rename_i h0
      obtain ⟨r, hr, hx2⟩ := Option.bind_eq_some_iff.1 hx1
      split at hx2
      · rename_i hs
        cases hx2
        rcases ha.lst_inv with ⟨rfl, _⟩ | ⟨g, b, cap, sz, rfl, h1, h2, h3, h4, h5, _⟩
        · simp at hr
        have hlt : n.toNat < rows.length := (List.getElem?_eq_some_iff.1 hr).1
        have hrl : r.length = sz := h4 r (List.mem_of_getElem? hr)
        refine ⟨_, ?_, VR.eptr (off := 0) (h5.elem h4 hr)⟩
        simp [Instr.indexAt, asIntOf, run_underlying hu, run_sizeOf hs, addr_add, hrl, show (0 : Int) ≤ n ∧ n < (rows.length : Int) by omega]
      · cases hx2
    · cases hx1
  · rename_i e o sz off len cap hu
    split at hx1
    · rename_i hc
      cases hx1
      obtain ⟨g, c, hj, rfl, _⟩ := ha.slc_inv
      refine ⟨_, ?_, VR.ptr hj⟩
      simp [Instr.indexAt, asIntOf, run_underlying hu, run_sizeOf hc.2.2, addr_add, hc.1, hc.2.1]
    · cases hx1
  · rename_i ln e o off hu
    obtain ⟨sz, hs, hx2⟩ := Option.bind_eq_some_iff.1 hx1
    split at hx2
    · rename_i hc
      cases hx2
      obtain ⟨g, hj, rfl⟩ := ha.ptr_inv
      refine ⟨_, ?_, VR.ptr hj⟩
      simp [Instr.indexAt, asIntOf, run_underlying hu, run_sizeOf hs, addr_add, hc.1, hc.2, Instr.sureAddr]
    · cases hx2
  · rename_i ln e row off hu
    obtain ⟨sz, hs, hx2⟩ := Option.bind_eq_some_iff.1 hx1
    split at hx2
    · rename_i hc
      cases hx2
      obtain ⟨g, b, rfl, hr⟩ := ha.eptr_inv
      refine ⟨_, ?_, VR.eptr hr⟩
      simp [Instr.indexAt, asIntOf, run_underlying hu, run_sizeOf hs, addr_add, hc.1, hc.2, Instr.sureAddr, Nat.add_assoc]
    · cases hx2
  · cases hx1

/-- What an optional bound says. -/
def bnd (d : Nat) (o : Option AV) : Option Int := match o with | none => some d | some x => aintOf x

def OptR (E : Env) (w : World) (o : Option AV) (o' : Option Value) : Prop :=
  match o, o' with
  | none, none => True
  | some x, some y => VR E w x y
  | _, _ => False

theorem bnd_run {o : Option AV} {o' : Option Value} {d : Nat} {n : Int} {y : Nat} {code : BoundsCode} (ho : OptR E w o o') (hn : bnd d o = some n) (h0 : 0 ≤ n) (h1 : n ≤ y) :
    (match o' with | some v => Instr.sliceBound v y code | none => pure d : Sem Nat).run P w = .ok n.toNat w := by
  cases o with
  | none =>
    cases o' with
    | none => simp [bnd] at hn; subst hn; simp
    | some _ => exact ho.elim
  | some x =>
    cases o' with
    | none => exact ho.elim
    | some v =>
      obtain ⟨k, rfl⟩ := aintOf_some hn ho
      exact run_sliceBound w k n y code h0 h1

theorem bounds_run {lo hi mx : Option AV} {lo' hi' mx' : Option Value} {b : Bool} {len cap : Nat} {l h m : Int} (hlo : OptR E w lo lo') (hhi : OptR E w hi hi') (hmx : OptR E w mx mx')
    (hl : bnd 0 lo = some l) (hh : bnd len hi = some h) (hm : bnd cap mx = some m) (h0 : 0 ≤ l) (h1 : l ≤ h) (h2 : h ≤ m) (h3 : m ≤ cap) (hnone : mx ≠ none → hi ≠ none) :
    (Instr.sliceBounds b len cap lo' hi' mx').run P w = .ok (l.toNat, h.toNat, m.toNat) w := by
  have hlrun : ∀ (c : BoundsCode), (match lo' with | some v => Instr.sliceBound v h.toNat c | none => pure 0 : Sem Nat).run P w = .ok l.toNat w := fun c => bnd_run hlo hl h0 (by omega)
  cases mx with
  | none =>
    cases mx' with
    | some _ => exact hmx.elim
    | none =>
      simp [bnd] at hm; subst hm
      cases hi with
      | none =>
        cases hi' with
        | some _ => exact hhi.elim
        | none =>
          simp [bnd] at hh; subst hh
          have := hlrun .sliceB
          simp only [Int.toNat_natCast] at this
          cases lo' <;> simp_all [Instr.sliceBounds]
      | some x =>
        cases hi' with
        | none => exact hhi.elim
        | some y =>
          obtain ⟨k, rfl⟩ := aintOf_some hh hhi
          have hr := fun c => run_sliceBound (P := P) w k h cap c (by omega) (by omega)
          have := hlrun .sliceB
          cases lo' <;> simp_all [Instr.sliceBounds]
  | some z =>
    cases mx' with
    | none => exact hmx.elim
    | some z' =>
      obtain ⟨km, rfl⟩ := aintOf_some hm hmx
      cases hi with
      | none => exact absurd rfl (hnone (by simp))
      | some x =>
        cases hi' with
        | none => exact hhi.elim
        | some y =>
          obtain ⟨k, rfl⟩ := aintOf_some hh hhi
          have hr := fun c => run_sliceBound (P := P) w km m cap c (by omega) (by omega)
          have hr2 := fun c => run_sliceBound (P := P) w k h m.toNat c (by omega) (by omega)
          have := hlrun .slice3C
          cases lo' <;> simp_all [Instr.sliceBounds]

end Go.AM
