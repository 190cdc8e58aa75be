/- The abstract machine, fourth text: a new object, a new frozen row, an object that turns. -/
import Derived.Test.YtlfobfhklmndkaaGreatDoorA2
namespace Go.AM
open Go.RowKit

variable {B0 : Nat} {w0 w : World} {E : Env} {S : AS}

def Env.obj (E : Env) (n g c : Nat) : Env := { E with j := fun o => if o = n then some g else E.j o, cp := fun o => if o = n then c else E.cp o }
def Env.row (E : Env) (g n : Nat) : Env := { E with fz := fun g' k => E.fz g' k ∨ (g' = g ∧ k < n) }

theorem SR.jnew (h : SR B0 w0 E S w) : E.j S.objs.length = none := by
  cases hj : E.j S.objs.length with
  | none => rfl
  | some g => have := h.jlt _ _ hj; omega

theorem SR.ext_obj (h : SR B0 w0 E S w) (o : Obj) (c : Nat) : Ext E w (E.obj S.objs.length w.heap.size c) (w.alloc o) := by
  have hx := h.ext_of none (World.grownBy_alloc w o none) (fun g e => by cases e)
  have hn := h.jnew
  exact { hx with
    j := fun o' g hj => by
      have : o' ≠ S.objs.length := fun e => by rw [e, hn] at hj; cases hj
      simpa [Env.obj, this] using hj
    cp := fun o' g hj => by
      have : o' ≠ S.objs.length := fun e => by rw [e, hn] at hj; cases hj
      simp [Env.obj, this] }

theorem SR.newObj (h : SR B0 w0 E S w) (o : Obj) (c : Nat) (ob : AObj) (hob : OR (E.obj S.objs.length w.heap.size c) (w.alloc o) S.objs.length w.heap.size ob) :
    SR B0 w0 (E.obj S.objs.length w.heap.size c) (S.push ob) (w.alloc o) ∧ Step S.objs.length S.ends.length E w (E.obj S.objs.length w.heap.size c) (w.alloc o) := by
  have hx := h.ext_obj o c
  have hn := h.jnew
  have hold : ∀ g, g < w.heap.size → (w.alloc o).heap[g]? = w.heap[g]? := fun g hg => Below.heap_alloc w o g hg
  have hjne : ∀ o' g, (E.obj S.objs.length w.heap.size c).j o' = some g → (o' = S.objs.length ∧ g = w.heap.size) ∨ (o' ≠ S.objs.length ∧ E.j o' = some g) := fun o' g hj => by
    by_cases e : o' = S.objs.length
    · left; simp [Env.obj, e] at hj; exact ⟨e, hj.symm⟩
    · right; simp [Env.obj, e] at hj; exact ⟨e, hj⟩
  refine ⟨{ below := h.below.alloc h.base o, base := Nat.le_trans h.base (by simp), obj := ?_, jlt := ?_, inj := ?_, jb := ?_, fzc := ?_, en := h.en, tok := ?_, tinj := h.tinj }, { hx with size := by simp, frame := fun g hg _ _ => hold g hg, jn := ?_, tn := fun t ht => .inl ⟨t, ht, rfl⟩, jid := ?_, tid := fun _ ht => .inl ht, fn := fun _ _ hf => .inl hf }⟩
  · intro o' ob' g ho hj
    rcases hjne o' g hj with ⟨rfl, rfl⟩ | ⟨hne, hj'⟩
    · simp [AS.push] at ho; subst ho; exact hob
    · have hlt := h.jlt o' g hj'
      have ho' : S.objs[o']? = some ob' := by simpa [AS.push, List.getElem?_append_left hlt] using ho
      exact (h.obj o' ob' g ho' hj').ext hx hj' (hold g (h.jb o' g hj').2.1)
  · intro o' g hj
    rcases hjne o' g hj with ⟨rfl, _⟩ | ⟨_, hj'⟩
    · simp [AS.push]
    · have := h.jlt o' g hj'; simp [AS.push]; omega
  · intro o1 o2 g h1 h2 l1 l2
    have hl : ∀ o', o' < S.objs.length → (S.push ob).live o' → S.live o' := fun o' ho hl e => hl (by simpa [AS.push, List.getElem?_append_left ho] using e)
    rcases hjne o1 g h1 with ⟨rfl, e1⟩ | ⟨n1, k1⟩ <;> rcases hjne o2 g h2 with ⟨rfl, e2⟩ | ⟨n2, k2⟩
    · rfl
    · exact absurd (h.jb o2 g k2).2.1 (by omega)
    · exact absurd (h.jb o1 g k1).2.1 (by omega)
    · exact h.inj o1 o2 g k1 k2 (hl _ (h.jlt _ _ k1) l1) (hl _ (h.jlt _ _ k2) l2)
  · intro o' g hj
    rcases hjne o' g hj with ⟨_, rfl⟩ | ⟨_, hj'⟩
    · refine ⟨h.base, by simp, fun k hf => ?_⟩
      obtain ⟨z, hz⟩ := h.fzc _ k hf
      exact absurd (World.block_lt_of_cell? w _ hz) (Nat.lt_irrefl _)
    · obtain ⟨a, b, d⟩ := h.jb o' g hj'
      exact ⟨a, by simp; omega, d⟩
  · exact fun g k hf => let ⟨z, hz⟩ := h.fzc g k hf; ⟨z, (hx.cell g k hf).trans hz⟩
  · intro t ht
    have hlt := h.tblock (t := t) ht
    obtain ⟨a, ⟨c', T, hc⟩, d, e⟩ := h.tok t ht
    refine ⟨a, ⟨c', T, (hold _ hlt).trans hc⟩, d, fun o' hj => ?_⟩
    rcases hjne o' _ hj with ⟨_, e1⟩ | ⟨_, hj'⟩
    · simp only [Env.obj] at e1; omega
    · exact e o' hj'
  · intro o' g hj
    rcases hjne o' g hj with ⟨_, e1⟩ | ⟨_, hj'⟩
    · exact .inr (by omega)
    · exact .inl ⟨o', hj'⟩
  · intro o' hj
    by_cases e : o' = S.objs.length
    · exact .inr (by omega)
    · left; simpa [Env.obj, e] using hj

/-- A new row of cells as an object. -/
theorem SR.newCells (h : SR B0 w0 E S w) (arr : Array Value) (T : TypeId) (l : List AV) (hl : l.length ≤ arr.size) (hp : ∀ (i : Nat) x y, l[i]? = some x → arr[i]? = some y → VR E w x y) :
    ∃ E', SR B0 w0 E' (S.push (.cells l T)) (w.alloc (.cells arr T)) ∧ Step S.objs.length S.ends.length E w E' (w.alloc (.cells arr T)) ∧ E'.j S.objs.length = some w.heap.size ∧ E'.cp S.objs.length = arr.size := by
  refine ⟨_, (h.newObj (.cells arr T) arr.size (.cells l T) ?_).1, (h.newObj (.cells arr T) arr.size (.cells l T) ?_).2, by simp [Env.obj], by simp [Env.obj]⟩ <;>
  exact ⟨arr, World.alloc_heap_new w _, by simp [Env.obj], hl, fun i x y hx hy => (hp i x y hx hy).ext (h.ext_obj _ _)⟩

theorem SR.newMap (h : SR B0 w0 E S w) :
    ∃ E', SR B0 w0 E' (S.push (.map [] 0)) (w.alloc (.map #[] 0)) ∧ Step S.objs.length S.ends.length E w E' (w.alloc (.map #[] 0)) ∧ E'.j S.objs.length = some w.heap.size := by
  refine ⟨_, (h.newObj (.map #[] 0) 0 (.map [] 0) ?_).1, (h.newObj (.map #[] 0) 0 (.map [] 0) ?_).2, by simp [Env.obj]⟩ <;>
  exact ⟨#[], World.alloc_heap_new w _, rfl, fun i e c he => by simp at he⟩

/-- A new row of cells, frozen. -/
theorem SR.newRow (h : SR B0 w0 E S w) (arr : Array Value) (T : TypeId) (n : Nat) (hn : n ≤ arr.size) (l : List AV) (hl : l.length ≤ n) (hp : ∀ (i : Nat) x y, l[i]? = some x → arr[i]? = some y → VR E w x y) (fr : Nat × Nat := (0, 0)) :
    SR B0 w0 (E.row w.heap.size n) S (w.alloc (.cells arr T fr)) ∧ Step S.objs.length S.ends.length E w (E.row w.heap.size n) (w.alloc (.cells arr T fr)) ∧
      Row (E.row w.heap.size n) (w.alloc (.cells arr T fr)) (VR (E.row w.heap.size n) (w.alloc (.cells arr T fr))) l w.heap.size 0 := by
  have hcell : ∀ k, (w.alloc (.cells arr T fr)).cell? ⟨w.heap.size, k, none⟩ = arr[k]? := fun k => by
    have hnew := World.alloc_heap_new w (.cells arr T fr)
    unfold World.cell?
    simp only [hnew]
    rfl
  have hx0 := h.ext_of none (World.grownBy_alloc w (.cells arr T fr) none) (fun g e => by cases e)
  have hx : Ext E w (E.row w.heap.size n) (w.alloc (.cells arr T fr)) := { hx0 with fz := fun g k hf => .inl hf }
  have hold : ∀ g, g < w.heap.size → (w.alloc (.cells arr T fr)).heap[g]? = w.heap[g]? := fun g hg => Below.heap_alloc w _ g hg
  refine ⟨{ below := h.below.alloc h.base _, base := Nat.le_trans h.base (by simp), obj := ?_, jlt := h.jlt, inj := h.inj, jb := ?_, fzc := ?_, en := h.en, tok := ?_, tinj := h.tinj }, { hx with size := by simp, frame := fun g hg _ _ => hold g hg, jn := fun o _ ho => .inl ⟨o, ho⟩, tn := fun t ht => .inl ⟨t, ht, rfl⟩, jid := fun _ ho => .inl ho, tid := fun _ ht => .inl ht, fn := fun g k hf => hf.elim .inl (fun hk => .inr (.inl (Nat.le_of_eq hk.1.symm))) }, ?_⟩
  · exact fun o ob g ho hj => (h.obj o ob g ho hj).ext hx hj (hold g (h.jb o g hj).2.1)
  · intro o g hj
    obtain ⟨a, b, c⟩ := h.jb o g hj
    refine ⟨a, by simp; omega, fun k hf => ?_⟩
    rcases hf with hf | ⟨rfl, _⟩
    · exact c k hf
    · omega
  · intro g k hf
    rcases hf with hf | ⟨rfl, hk⟩
    · exact let ⟨z, hz⟩ := h.fzc g k hf; ⟨z, (hx.cell g k hf).trans hz⟩
    · exact ⟨arr[k]'(by omega), by rw [hcell]; simp [show k < arr.size by omega]⟩
  · intro t ht
    have hlt := h.tblock (t := t) ht
    obtain ⟨a, ⟨c', T', hc⟩, d, e⟩ := h.tok t ht
    refine ⟨a, ⟨c', T', (hold _ hlt).trans hc⟩, fun k hk hf => ?_, e⟩
    rcases hf with hf | ⟨e1, _⟩
    · exact d k hk hf
    · exact absurd hlt (by show ¬ (E.tk t).1 < _; rw [show (E.tk t).1 = w.heap.size from e1]; exact Nat.lt_irrefl _)
  · intro m x hm
    have hlt : m < l.length := (List.getElem?_eq_some_iff.1 hm).1
    have hy : arr[m]? = some (arr[m]'(by omega)) := by simp [show m < arr.size by omega]
    exact ⟨.inr ⟨rfl, by omega⟩, _, by rw [Nat.zero_add, hcell]; simp [show m < arr.size by omega], (hp m x _ hm hy).ext hx⟩

theorem AS.set_get (S : AS) (i : Nat) (o : AObj) (k : Nat) : (S.set i o).objs[k]? = if i = k then (if i < S.objs.length then some o else none) else S.objs[k]? := by
  simp only [AS.set, List.getElem?_set]

/-- An object turns. -/
theorem SR.setObj (h : SR B0 w0 E S w) {w' : World} {o g : Nat} (hj : E.j o = some g) (hlive : S.live o) (hg : w.grownBy w' (some g)) (ob : AObj) (hob : OR E w' o g ob) :
    SR B0 w0 E (S.set o ob) w' ∧ Step S.objs.length S.ends.length E w E w' := by
  obtain ⟨hB, hlt, hnf⟩ := h.jb o g hj
  have hrow : ∀ g', some g = some g' → (∀ k, ¬ E.fz g' k) ∧ ∀ t, 0 < E.en t → (E.tk t).1 ≠ g' := fun g' e => by cases e; exact ⟨hnf, fun t ht => h.jblock ht hj⟩
  have hx := h.ext_of (some g) hg hrow
  have hold : ∀ g', g' < w.heap.size → g' ≠ g → w'.heap[g']? = w.heap[g']? := fun g' h1 h2 => hg.block g' h1 (fun e => h2 (by cases e; rfl))
  have hlen : (S.set o ob).objs.length = S.objs.length := by simp [AS.set]
  have hlo := h.jlt o g hj
  have hl : ∀ o', (S.set o ob).live o' → S.live o' := fun o' hl e => by
    by_cases e1 : o = o'
    · subst e1; exact hlive e
    · exact hl (by rw [AS.set_get, if_neg e1]; exact e)
  refine ⟨{ below := ?_, base := Nat.le_trans h.base hg.size, obj := ?_, jlt := fun o' g' k => by rw [hlen]; exact h.jlt o' g' k, inj := fun o1 o2 g' k1 k2 l1 l2 => h.inj o1 o2 g' k1 k2 (hl _ l1) (hl _ l2), jb := ?_, fzc := ?_, en := h.en, tok := ?_, tinj := h.tinj }, { hx with size := hg.size, frame := ?_, jn := fun o _ ho => .inl ⟨o, ho⟩, tn := fun t ht => .inl ⟨t, ht, rfl⟩, jid := fun _ ho => .inl ho, tid := fun _ ht => .inl ht, fn := fun _ _ hf => .inl hf }⟩
  · exact h.below.grown hg h.base (fun k e => by cases e; exact hB)
  · intro o' ob' g' ho' hj'
    rw [AS.set_get] at ho'
    by_cases e1 : o = o'
    · subst e1
      rw [if_pos rfl, if_pos hlo] at ho'
      cases ho'
      rw [hj] at hj'; cases hj'
      exact hob
    · rw [if_neg e1] at ho'
      by_cases e2 : g' = g
      · subst e2
        cases ob' with
        | dead => trivial
        | cells l T => exact absurd (h.inj o o' g' hj hj' hlive (by unfold AS.live; rw [ho']; simp)) e1
        | map es c => exact absurd (h.inj o o' g' hj hj' hlive (by unfold AS.live; rw [ho']; simp)) e1
        | loop r => exact absurd (h.inj o o' g' hj hj' hlive (by unfold AS.live; rw [ho']; simp)) e1
        | dfr => exact absurd (h.inj o o' g' hj hj' hlive (by unfold AS.live; rw [ho']; simp)) e1
        | iter s pos => exact absurd (h.inj o o' g' hj hj' hlive (by unfold AS.live; rw [ho']; simp)) e1
      · exact (h.obj o' ob' g' ho' hj').ext hx hj' (hold g' (h.jb o' g' hj').2.1 e2)
  · exact fun o' g' hj' => let ⟨a, b, c⟩ := h.jb o' g' hj'; ⟨a, Nat.lt_of_lt_of_le b hg.size, c⟩
  · exact fun g' k hf => let ⟨z, hz⟩ := h.fzc g' k hf; ⟨z, (hx.cell g' k hf).trans hz⟩
  · intro t ht
    obtain ⟨a, ⟨c', T', hc⟩, d, e⟩ := h.tok t ht
    exact ⟨a, ⟨c', T', (hold _ (h.tblock ht) (h.jblock ht hj)).trans hc⟩, d, e⟩
  · intro g' h1 h2 _
    exact hold g' h1 (fun e => h2 o (by rw [e]; exact hj))

end Go.AM
