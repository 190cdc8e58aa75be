/- The abstract machine, eleventh text: rows that grow. -/
import Derived.Test.YtlfobfhklmndkaaGreatDoorA9
namespace Go.AM
open Go.RowKit Go.MapKept

variable {B0 : Nat} {w0 w : World} {E : Env} {S S' : AS} {P : Program}

def Env.tok (E : Env) (t e g c sz b n : Nat) : Env :=
  { E with fz := fun g' k => E.fz g' k ∨ (g' = g ∧ b ≤ k ∧ k < b + n), tk := fun t' => if t' = t then (g, c, sz) else E.tk t', en := fun t' => if t' = t then e else E.en t' }

/-- A new row, whose first cells are frozen, and whose open end is a token's. -/
theorem SR.newTok (h : SR B0 w0 E S w) (arr : Array Value) (T : TypeId) (n t e sz : Nat) (hn : n ≤ arr.size) (l : List AV) (hl : l.length ≤ n) (hp : ∀ (i : Nat) x y, l[i]? = some x → arr[i]? = some y → VR E w x y)
    (he : E.en t < e) (hobj : S'.objs = S.objs) (hends : ∀ t', S'.ends.getD t' 0 = if t' = t then e else S.ends.getD t' 0) (htid : 0 < E.en t ∨ S.ends.length ≤ t) :
    SR B0 w0 (E.tok t e w.heap.size n sz 0 n) S' (w.alloc (.cells arr T)) ∧ Step S.objs.length S.ends.length E w (E.tok t e w.heap.size n sz 0 n) (w.alloc (.cells arr T)) ∧
      Row (E.tok t e w.heap.size n sz 0 n) (w.alloc (.cells arr T)) (VR (E.tok t e w.heap.size n sz 0 n) (w.alloc (.cells arr T))) l w.heap.size 0 := by
  have hx0 := h.ext_of none (World.grownBy_alloc w (.cells arr T) none) (fun g e => by cases e)
  have hold : ∀ g, g < w.heap.size → (w.alloc (.cells arr T)).heap[g]? = w.heap[g]? := fun g hg => Below.heap_alloc w _ g hg
  have hx : Ext E w (E.tok t e w.heap.size n sz 0 n) (w.alloc (.cells arr T)) :=
    { hx0 with
      fz := fun g k hf => .inl hf
      en := fun t' => by simp only [Env.tok]; split
                         · rename_i e1; subst e1; omega
                         · exact Nat.le_refl _
      tk := fun t' he' => by
        simp only [Env.tok] at he' ⊢
        split
        · rename_i e1; subst e1; simp at he'; omega
        · rfl
      row := fun t' h0 he' a T' f ha => by
        rw [hold _ (h.tblock h0)] at ha
        exact ⟨a, T', f, ha, Nat.le_refl _⟩ }
  have hnj : ∀ o, E.j o ≠ some w.heap.size := fun o hj => absurd (h.jb o _ hj).2.1 (Nat.lt_irrefl _)
  refine ⟨{ below := h.below.alloc h.base _, base := Nat.le_trans h.base (by simp), obj := ?_, jlt := by rw [hobj]; exact h.jlt, inj := fun o o' g h1 h2 l1 l2 => h.inj o o' g h1 h2 (by unfold AS.live at *; rwa [hobj] at l1) (by unfold AS.live at *; rwa [hobj] at l2), jb := ?_, fzc := ?_, en := ?_, tok := ?_, tinj := ?_ }, { hx with size := by simp, frame := fun g hg _ _ => hold g hg, jn := fun o _ ho => .inl ⟨o, ho⟩, tn := ?_, jid := fun _ ho => .inl ho, tid := ?_, fn := fun g k hf => hf.elim .inl (fun hk => .inr (.inl (Nat.le_of_eq hk.1.symm))) }, ?_⟩
  · intro o ob g ho hj
    rw [hobj] at ho
    exact (h.obj o ob g ho hj).ext hx hj (hold g (h.jb o g hj).2.1)
  · intro o g hj
    obtain ⟨a, b, c⟩ := h.jb o g hj
    refine ⟨a, by simp; omega, fun k hf => ?_⟩
    rcases hf with hf | ⟨rfl, _⟩
    · exact c k hf
    · omega
  · intro g k hf
    rcases hf with hf | ⟨rfl, _, hk⟩
    · exact let ⟨z, hz⟩ := h.fzc g k hf; ⟨z, (hx.cell g k hf).trans hz⟩
    · exact ⟨arr[k]'(by omega), by simp [World.cell?_alloc_new, show k < arr.size by omega]⟩
  · intro t'
    simp only [Env.tok]
    rw [hends t']
    split
    · exact .inr rfl
    · exact h.en t'
  · intro t' ht
    simp only [Env.tok] at ht ⊢
    by_cases e1 : t' = t
    · simp only [e1, if_true]
      refine ⟨h.base, ⟨arr, T, World.alloc_heap_new w _⟩, fun k hk hf => ?_, hnj⟩
      rcases hf with hf | ⟨_, _, hk2⟩
      · obtain ⟨z, hz⟩ := h.fzc _ k hf
        exact absurd (World.block_lt_of_cell? w _ hz) (Nat.lt_irrefl _)
      · omega
    · simp only [e1, if_false] at ht ⊢
      have hlt := h.tblock (t := t') ht
      obtain ⟨a, ⟨c', T', hc⟩, d, e'⟩ := h.tok t' ht
      refine ⟨a, ⟨c', T', (hold _ hlt).trans hc⟩, fun k hk hf => ?_, e'⟩
      rcases hf with hf | ⟨e2, _⟩
      · exact d k hk hf
      · omega
  · intro t1 t2 h1 h2 heq
    simp only [Env.tok] at h1 h2 heq
    by_cases e1 : t1 = t <;> by_cases e2 : t2 = t
    · rw [e1, e2]
    · simp only [e1, e2, if_true, if_false] at h2 heq
      have := h.tblock h2; omega
    · simp only [e1, e2, if_true, if_false] at h1 heq
      have := h.tblock h1; omega
    · simp only [e1, e2, if_false] at h1 h2 heq
      exact h.tinj t1 t2 h1 h2 heq
  · intro t' ht
    simp only [Env.tok] at ht ⊢
    by_cases e1 : t' = t
    · simp only [e1, if_true]; exact .inr (Nat.le_refl _)
    · simp only [e1, if_false] at ht ⊢; exact .inl ⟨t', ht, rfl⟩
  · intro t' ht
    simp only [Env.tok] at ht
    by_cases e1 : t' = t
    · subst e1; exact htid
    · simp only [e1, if_false] at ht; exact .inl ht
  · intro m x hm
    have hlt : m < l.length := (List.getElem?_eq_some_iff.1 hm).1
    have hy : arr[m]? = some (arr[m]'(by omega)) := by simp [show m < arr.size by omega]
    exact ⟨.inr ⟨rfl, by omega, by omega⟩, _, by simp [World.cell?_alloc_new, show m < arr.size by omega], (hp m x _ hm hy).ext hx⟩

/-- The open end of a row moves on, in place. -/
theorem SR.growTok (h : SR B0 w0 E S w) {t : Nat} (ht : 0 < E.en t) {g c sz : Nat} (htk : E.tk t = (g, c, sz)) {arr arr' : Array Value} {T : TypeId} (hg : w.heap[g]? = some (.cells arr T (0, 0))) (hs : arr'.size = arr.size) (n : Nat) (hn : c + n ≤ arr.size)
    (hlow : ∀ k, k < c → arr'[k]? = arr[k]?) (l : List AV) (hl : l.length ≤ n) (hp : ∀ (i : Nat) x y, l[i]? = some x → arr'[c + i]? = some y → VR E w x y) (e : Nat) (he : E.en t < e)
    (hobj : S'.objs = S.objs) (hends : ∀ t', S'.ends.getD t' 0 = if t' = t then e else S.ends.getD t' 0) :
    SR B0 w0 (E.tok t e g (c + n) sz c n) S' (w.setRow g arr') ∧ Step S.objs.length S.ends.length E w (E.tok t e g (c + n) sz c n) (w.setRow g arr') ∧
      Row (E.tok t e g (c + n) sz c n) (w.setRow g arr') (VR (E.tok t e g (c + n) sz c n) (w.setRow g arr')) l g c := by
  have hgb : w.grownBy (w.setRow g arr') (some g) := ⟨rfl, rfl, rfl, by simp, fun k _ hk => setRow_other w g k _ (fun e => hk (by rw [e]))⟩
  have hold : ∀ g', g' ≠ g → (w.setRow g arr').heap[g']? = w.heap[g']? := fun g' hne => setRow_other w g g' _ hne
  have hnew : (w.setRow g arr').heap[g]? = some (.cells arr' T (0, 0)) := setRow_heap w g arr arr' T _ hg
  obtain ⟨hB, _, hopen, hnj⟩ := h.tok t ht
  rw [htk] at hB hopen hnj
  simp only at hB hopen hnj
  have hcell : ∀ k, k < c → (w.setRow g arr').cell? ⟨g, k, none⟩ = w.cell? ⟨g, k, none⟩ := fun k hk => by
    rw [cell_of_row _ g k arr' T _ hnew, cell_of_row w g k arr T _ hg, hlow k hk]
  have hx : Ext E w (E.tok t e g (c + n) sz c n) (w.setRow g arr') :=
    { j := fun _ _ hj => hj
      cp := fun _ _ _ => rfl
      fz := fun g k hf => .inl hf
      cell := fun g' k hf => by
        by_cases e1 : g' = g
        · subst e1
          refine hcell k ?_
          rcases Nat.lt_or_ge k c with hk | hk
          · exact hk
          · exact absurd hf (hopen k hk)
        · exact World.cell?_of_block (hold g' e1)
      en := fun t' => by simp only [Env.tok]; split
                         · rename_i e1; subst e1; omega
                         · exact Nat.le_refl _
      tk := fun t' he' => by
        simp only [Env.tok] at he' ⊢
        split
        · rename_i e1; subst e1; simp at he'; omega
        · rfl
      row := fun t' h0 he' a T' f ha => by
        by_cases e1 : (E.tk t').1 = g
        · rw [e1, hnew] at ha
          cases ha
          exact ⟨arr, T, _, by rw [e1]; exact hg, by omega⟩
        · rw [hold _ e1] at ha
          exact ⟨a, T', f, ha, Nat.le_refl _⟩ }
  refine ⟨{ below := h.below.grown hgb h.base (fun k e => by cases e; exact hB), base := Nat.le_trans h.base (by simp), obj := ?_, jlt := by rw [hobj]; exact h.jlt, inj := fun o o' g h1 h2 l1 l2 => h.inj o o' g h1 h2 (by unfold AS.live at *; rwa [hobj] at l1) (by unfold AS.live at *; rwa [hobj] at l2), jb := ?_, fzc := ?_, en := ?_, tok := ?_, tinj := ?_ }, { hx with size := by simp, frame := ?_, jn := fun o _ ho => .inl ⟨o, ho⟩, tn := ?_, jid := fun _ ho => .inl ho, tid := ?_, fn := fun g0 k hf => hf.elim .inl (fun hk => .inr (.inr ⟨t, ht, by rw [htk]; exact hk.1.symm⟩)) }, ?_⟩
  · intro o ob g' ho hj
    rw [hobj] at ho
    exact (h.obj o ob g' ho hj).ext hx hj (hold g' (fun e => hnj o (by rw [← e]; exact hj)))
  · intro o g' hj
    obtain ⟨a, b, c'⟩ := h.jb o g' hj
    refine ⟨a, by simp; omega, fun k hf => ?_⟩
    rcases hf with hf | ⟨rfl, _⟩
    · exact c' k hf
    · exact hnj o hj
  · intro g' k hf
    rcases hf with hf | ⟨rfl, _, hk⟩
    · exact let ⟨z, hz⟩ := h.fzc g' k hf; ⟨z, (hx.cell g' k hf).trans hz⟩
    · exact ⟨arr'[k]'(by omega), by rw [cell_of_row _ _ k arr' T _ hnew]; simp [show k < arr'.size by omega]⟩
  · intro t'
    simp only [Env.tok]
    rw [hends t']
    split
    · exact .inr rfl
    · exact h.en t'
  · intro t' ht'
    simp only [Env.tok] at ht' ⊢
    by_cases e1 : t' = t
    · simp only [e1, if_true]
      refine ⟨hB, ⟨arr', T, hnew⟩, fun k hk hf => ?_, hnj⟩
      rcases hf with hf | ⟨_, _, hk2⟩
      · exact hopen k (by omega) hf
      · omega
    · simp only [e1, if_false] at ht' ⊢
      have hne : (E.tk t').1 ≠ g := fun e2 => e1 (h.tinj t' t ht' ht (by rw [e2, htk]))
      obtain ⟨a, ⟨c', T', hc⟩, d, e'⟩ := h.tok t' ht'
      refine ⟨a, ⟨c', T', (hold _ hne).trans hc⟩, fun k hk hf => ?_, e'⟩
      rcases hf with hf | ⟨e2, _⟩
      · exact d k hk hf
      · exact hne e2
  · intro t1 t2 h1 h2 heq
    simp only [Env.tok] at h1 h2 heq
    by_cases e1 : t1 = t <;> by_cases e2 : t2 = t
    · rw [e1, e2]
    · simp only [e1, e2, if_true, if_false] at h2 heq
      exact absurd (h.tinj t2 t h2 ht (by rw [← heq, htk])) e2
    · simp only [e1, e2, if_true, if_false] at h1 heq
      exact absurd (h.tinj t1 t h1 ht (by rw [heq, htk])) e1
    · simp only [e1, e2, if_false] at h1 h2 heq
      exact h.tinj t1 t2 h1 h2 heq
  · intro g' _ _ h3
    exact hold g' (fun e => h3 t ht (by rw [htk]; exact e.symm))
  · intro t' ht'
    simp only [Env.tok] at ht' ⊢
    by_cases e1 : t' = t
    · simp only [e1, if_true]; exact .inl ⟨t, ht, by rw [htk]⟩
    · simp only [e1, if_false] at ht' ⊢; exact .inl ⟨t', ht', rfl⟩
  · intro t' ht'
    simp only [Env.tok] at ht'
    by_cases e1 : t' = t
    · subst e1; exact .inl ht
    · simp only [e1, if_false] at ht'; exact .inl ht'
  · intro m x hm
    have hlt : m < l.length := (List.getElem?_eq_some_iff.1 hm).1
    have hy : arr'[c + m]? = some (arr'[c + m]'(by omega)) := by simp [show c + m < arr'.size by omega]
    exact ⟨.inr ⟨rfl, by omega, by omega⟩, _, by rw [cell_of_row _ g _ arr' T _ hnew]; exact hy, (hp m x _ hm hy).ext hx⟩

end Go.AM
