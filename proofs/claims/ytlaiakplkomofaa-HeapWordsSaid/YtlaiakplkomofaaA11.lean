/- The abstract machine, twelfth text: append, copy, len. -/
import Derived.Test.YtlaiakplkomofaaA10
namespace Go.AM
open Go.RowKit Go.MapKept

variable {B0 : Nat} {w0 w : World} {E : Env} {S S' : AS} {P : Program}

theorem flat_one : ∀ (rows : List (List AV)), (rows.all fun r => r.all AV.one) = true → rows.flatten.all AV.one = true
  | [], _ => rfl
  | r :: rows, h => by
    simp only [List.all_cons, Bool.and_eq_true] at h
    simp only [List.flatten_cons, List.all_append, Bool.and_eq_true]
    exact ⟨h.1, flat_one rows h.2⟩

/-- What stands behind the elements of a slice. -/
theorem rowsOf_sound (h : SR B0 w0 E S w) {sz : Nat} (_hz : 0 < sz) {x : AV} {y : Value} {rows : List (List AV)} (hv : VR E w x y) (hr : rowsOf S sz x = some rows) :
    (rows = [] ∧ y = .slice none 0 0) ∨ ∃ g b c, y = .slice (some ⟨g, b, none⟩) rows.length c ∧ rows.length ≤ c ∧ Stand E w rows.flatten g b ∧ (∀ r ∈ rows, r.length = sz) ∧ rows.flatten.all AV.one = true := by
  unfold rowsOf at hr
  split at hr
  · cases hr; obtain ⟨_, rfl⟩ := hv.flat_inv; exact .inl ⟨rfl, rfl⟩
  · rename_i c rows'
    split at hr
    · rename_i hc
      cases hr
      obtain ⟨g, b, cap, sz', rfl, k1, k2, k3, k4, k5, _⟩ := hv.lst_inv
      refine .inr ⟨g, b, cap, rfl, k1, k5.stand, fun r hr => ?_, flat_one rows ?_⟩
      · have := List.all_eq_true.1 hc r hr; simp at this; exact this.1
      · refine List.all_eq_true.2 fun r hr => ?_
        have := List.all_eq_true.1 hc r hr; simp only [Bool.and_eq_true] at this; exact this.2
    · cases hr
  · rename_i o sz' off len cap
    split at hr
    · rename_i hsz
      subst hsz
      obtain ⟨p, hp, hr1⟩ := Option.bind_eq_some_iff.1 hr
      split at hr1
      · rename_i hc
        cases hr1
        obtain ⟨g, c, hj, rfl, k1, k2, k3, k4, k5⟩ := hv.slc_inv
        have hst := (h.obj o _ g (cellsAt_some hp) hj).stand.drop off (len * sz')
        rw [Nat.zero_add] at hst
        refine .inr ⟨g, off, c, by rw [chunks_length], by rw [chunks_length]; omega, ?_, chunks_mem _ _ _ hc.1, ?_⟩
        · rw [chunks_flatten _ _ _ hc.1]; exact hst
        · rw [chunks_flatten _ _ _ hc.1]; exact hc.2
      · cases hr1
    · cases hr
  · cases hr

theorem drew_later (h : SR B0 w0 E S w) : SR B0 w0 E S w.drew ∧ Step S.objs.length S.ends.length E w E w.drew := h.later ⟨rfl, rfl, rfl, Nat.le_refl _, fun _ _ _ => rfl⟩

theorem size_grown {olds news : List Value} {z : Value} {sz cap need : Nat} (hz : z.cells.size = sz) (ho : olds.length + news.length = need * sz) (hc : need ≤ cap) :
    (olds.toArray ++ news.toArray ++ Builtin.zeroCells z.cells (cap - need)).size = cap * sz := by
  simp only [Array.size_append, List.size_toArray, size_zeroCells, hz]
  rw [ho, ← Nat.add_mul]; congr 1; omega

theorem grown_get {olds news : List Value} {zs : Array Value} {l m : List AV} {R : AV → Value → Prop} (h : Pair R l olds) (k : Pair R m news) : ∀ (i : Nat) x y, (l ++ m)[i]? = some x → (olds.toArray ++ news.toArray ++ zs)[i]? = some y → R x y := by
  intro i x y hx hy
  have e1 := h.1; have e2 := k.1
  have hi : i < l.length + m.length := by have := (List.getElem?_eq_some_iff.1 hx).1; simpa using this
  rw [Array.getElem?_append, if_pos (by simp; omega), Array.getElem?_append] at hy
  rw [List.getElem?_append] at hx
  by_cases hl : i < l.length
  · rw [if_pos hl] at hx
    rw [if_pos (by simp; omega)] at hy
    exact h.2 i x y hx (by simpa using hy)
  · rw [if_neg hl] at hx
    rw [if_neg (by simp; omega)] at hy
    exact k.2 (i - l.length) x y hx (by rw [e1]; simpa using hy)

theorem Pair.nil {R : AV → Value → Prop} : Pair R [] [] := ⟨rfl, fun i x y hx => by simp at hx⟩

/-- Append that finds no room, and makes a new row. -/
theorem run_grow {t ty e : TypeId} {i : TypeInfo} {zv : Value} {sz : Nat} (hu : P.underlying t = some (.slice e)) (hi : P.info? e = some i) (hzv : i.zero = some zv) (his : i.size = sz)
    {s x : Value} {sLen sCap n : Nat} {olds news : List Value} (hs : (s = .slice none 0 0 ∧ sLen = 0 ∧ sCap = 0 ∧ olds = []) ∨ ∃ b, s = .slice (some b) sLen sCap ∧ olds.length = sLen * sz ∧ ∀ j v, olds[j]? = some v → w.cell? (b.add j) = some v)
    {a : Addr} {c : Nat} (hx : x = .slice (some a) n c) (hnl : news.length = n * sz) (hnews : ∀ j v, news[j]? = some v → w.cell? (a.add j) = some v) (hg : sCap < sLen + n) (hb : (sLen + n) * i.bytes ≤ 140737488355328) (hm : sLen + n ≤ maxLen) :
    (Builtin.append_ #[t, t] ty #[s, x]).run P w = .ok (.slice (some ⟨w.heap.size, 0, none⟩) (sLen + n) (grownCap w (sLen + n) sCap e)) (w.drew.alloc (.cells (olds.toArray ++ news.toArray ++ Builtin.zeroCells zv.cells (grownCap w (sLen + n) sCap e - (sLen + n))) e)) := by
  subst hx
  have h63 : ((sLen + n : Nat) : Int) ≤ 9223372036854775807 := by unfold maxLen at hm; omega
  rcases hs with ⟨rfl, rfl, rfl, rfl⟩ | ⟨b, rfl, hol, holds⟩
  · have := run_append_nil (P := P) w t ty e i zv hu hi hzv a n c news (by rw [his]; exact hnl) hnews (by omega) (by omega) (by simp only [Nat.zero_add] at hb; omega)
    simpa using this
  · exact run_append_grow (P := P) w t ty e i zv hu hi hzv b sLen sCap olds (by rw [his]; exact hol) holds a n c news (by rw [his]; exact hnl) hnews hg h63 (growslice_fits hg hb)

/-- Append that finds room. -/
theorem run_room {t ty e : TypeId} {i : TypeInfo} {sz : Nat} (hu : P.underlying t = some (.slice e)) (hi : P.info? e = some i) (his : i.size = sz) {g off sLen sCap n c : Nat} {T : TypeId} {cur : Array Value} (hg : w.heap[g]? = some (.cells cur T (0, 0)))
    {a : Addr} {news : List Value} (hnl : news.length = n * sz) (hnews : ∀ j v, news[j]? = some v → w.cell? (a.add j) = some v) (h1 : ∀ u ∈ news, u.oneCell' = true) (hr : sLen + n ≤ sCap) (hf : off + sLen * sz + n * sz ≤ cur.size) :
    (Builtin.append_ #[t, t] ty #[.slice (some ⟨g, off, none⟩) sLen sCap, .slice (some a) n c]).run P w =
      .ok (.slice (some ⟨g, off, none⟩) (sLen + n) sCap) (w.setRow g (cur.toList.take (off + sLen * sz) ++ news ++ cur.toList.drop (off + sLen * sz + news.length)).toArray) := by
  subst his
  have hfc := run_firstCells_some (P := P) w i.size n a n c news hnl hnews
  have hst := run_storeCells_at P g (off + sLen * i.size) T news 0 cur w hg (by omega) h1
  simp only [Nat.add_zero] at hst
  simp [Builtin.append_, run_underlying hu, sizeOf, typeInfo, hi, Builtin.lenOf, hr, hfc, addr_add, hst]

theorem run_none {t ty e : TypeId} {i : TypeInfo} (hu : P.underlying t = some (.slice e)) (hi : P.info? e = some i) {b : Option Addr} {sLen sCap : Nat} (hc : sLen ≤ sCap) (x : Value) (hx : x = .slice none 0 0 ∨ ∃ a c, x = .slice (some a) 0 c) :
    (Builtin.append_ #[t, t] ty #[.slice b sLen sCap, x]).run P w = .ok (.slice b sLen sCap) w := by
  rcases hx with rfl | ⟨a, c, rfl⟩
  · cases b <;> simp [Builtin.append_, run_underlying hu, sizeOf, typeInfo, hi, Builtin.lenOf, hc, Builtin.firstCells, storeCells]
  · cases b <;> simp [Builtin.append_, run_underlying hu, sizeOf, typeInfo, hi, Builtin.lenOf, hc, Builtin.firstCells, storeCells, loadCells, loadCellsFrom]

end Go.AM
