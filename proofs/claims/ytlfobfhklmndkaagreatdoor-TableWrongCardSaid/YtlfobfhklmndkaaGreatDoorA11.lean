/- The abstract machine, twelfth text: append, copy, len. -/
import Derived.Test.YtlfobfhklmndkaaGreatDoorA10
namespace Go.AM
open Go.RowKit Go.MapKept

variable {B0 : Nat} {w0 w : World} {E : Env} {S S' : AS} {P : Program}

theorem drew_later (h : SR B0 w0 E S w) : SR B0 w0 E S w.drew ∧ Step S.objs.length S.ends.length E w E w.drew := h.later ⟨rfl, rfl, rfl, Nat.le_refl _, fun _ _ _ => rfl⟩

theorem size_grown {olds news : List Value} {z : Value} {sz cap need : Nat} (hz : z.cells.size = sz) (ho : olds.length + news.length = need * sz) (hc : need ≤ cap) :
    (olds.toArray ++ news.toArray ++ Builtin.zeroCells z.cells (cap - need)).size = cap * sz := by
  simp only [Array.size_append, List.size_toArray, size_zeroCells, hz]
  rw [ho, ← Nat.add_mul]; congr 1; omega

theorem grown_get {olds news : List Value} {zs : Array Value} {l m : List AV} {R : AV → Value → Prop} (h : Pair R l olds) (k : Pair R m news) : ∀ (i : Nat) x y, (l ++ m)[i]? = some x → (olds.toArray ++ news.toArray ++ zs)[i]? = some y → R x y := by
  intro i x y hx hy
  have e1 := h.1; have e2 := k.1
  have hi : i < l.length + m.length := by have := (List.getElem?_eq_some_iff.1 hx).1; simpa using this
  rw [Array.getElem?_append, if_pos (by simp; omega), Array.getElem?_append] at hy
  rw [List.getElem?_append] at hx
  by_cases hl : i < l.length
  · rw [if_pos hl] at hx
    rw [if_pos (by simp; omega)] at hy
    exact h.2 i x y hx (by simpa using hy)
  · rw [if_neg hl] at hx
    rw [if_neg (by simp; omega)] at hy
    exact k.2 (i - l.length) x y hx (by rw [e1]; simpa using hy)

theorem Pair.nil {R : AV → Value → Prop} : Pair R [] [] := ⟨rfl, fun i x y hx => by simp at hx⟩

/-- Append that finds no room, and makes a new row. -/
theorem run_grow {t ty e : TypeId} {i : TypeInfo} {zv : Value} {sz : Nat} (hu : P.underlying t = some (.slice e)) (hi : P.info? e = some i) (hzv : i.zero = some zv) (his : i.size = sz)
    {s x : Value} {sLen sCap n : Nat} {olds news : List Value} (hs : (s = .slice none 0 0 ∧ sLen = 0 ∧ sCap = 0 ∧ olds = []) ∨ ∃ b, s = .slice (some b) sLen sCap ∧ olds.length = sLen * sz ∧ ∀ j v, olds[j]? = some v → w.cell? (b.add j) = some v)
    {a : Addr} {c : Nat} (hx : x = .slice (some a) n c) (hnl : news.length = n * sz) (hnews : ∀ j v, news[j]? = some v → w.cell? (a.add j) = some v) (hg : sCap < sLen + n) (hb : (sLen + n) * i.bytes ≤ 140737488355328) (hm : sLen + n ≤ maxLen) :
    (Builtin.append_ #[t, t] ty #[s, x]).run P w = .ok (.slice (some ⟨w.heap.size, 0, none⟩) (sLen + n) (grownCap w (sLen + n) sCap e)) (w.drew.alloc (.cells (olds.toArray ++ news.toArray ++ Builtin.zeroCells zv.cells (grownCap w (sLen + n) sCap e - (sLen + n))) e)) := by
  subst hx
  have h63 : ((sLen + n : Nat) : Int) ≤ 9223372036854775807 := by unfold maxLen at hm; omega
  rcases hs with ⟨rfl, rfl, rfl, rfl⟩ | ⟨b, rfl, hol, holds⟩
  · have := run_append_nil (P := P) w t ty e i zv hu hi hzv a n c news (by rw [his]; exact hnl) hnews (by omega) (by omega) (by simp only [Nat.zero_add] at hb; omega)
    simpa using this
  · exact run_append_grow (P := P) w t ty e i zv hu hi hzv b sLen sCap olds (by rw [his]; exact hol) holds a n c news (by rw [his]; exact hnl) hnews hg h63 (growslice_fits hg hb)

/-- Append that finds room. -/
theorem run_room {t ty e : TypeId} {i : TypeInfo} {sz : Nat} (hu : P.underlying t = some (.slice e)) (hi : P.info? e = some i) (his : i.size = sz) {g off sLen sCap n c : Nat} {T : TypeId} {cur : Array Value} (hg : w.heap[g]? = some (.cells cur T (0, 0)))
    {a : Addr} {news : List Value} (hnl : news.length = n * sz) (hnews : ∀ j v, news[j]? = some v → w.cell? (a.add j) = some v) (h1 : ∀ u ∈ news, u.oneCell' = true) (hr : sLen + n ≤ sCap) (hf : off + sLen * sz + n * sz ≤ cur.size) :
    (Builtin.append_ #[t, t] ty #[.slice (some ⟨g, off, none⟩) sLen sCap, .slice (some a) n c]).run P w =
      .ok (.slice (some ⟨g, off, none⟩) (sLen + n) sCap) (w.setRow g (cur.toList.take (off + sLen * sz) ++ news ++ cur.toList.drop (off + sLen * sz + news.length)).toArray) := by
  subst his
  have hfc := run_firstCells_some (P := P) w i.size n a n c news hnl hnews
  have hst := run_storeCells_at P g (off + sLen * i.size) T news 0 cur w hg (by omega) h1
  simp only [Nat.add_zero] at hst
  simp [Builtin.append_, run_underlying hu, sizeOf, typeInfo, hi, Builtin.lenOf, hr, hfc, addr_add, hst]

theorem run_none {t ty e : TypeId} {i : TypeInfo} (hu : P.underlying t = some (.slice e)) (hi : P.info? e = some i) {b : Option Addr} {sLen sCap : Nat} (hc : sLen ≤ sCap) (x : Value) (hx : x = .slice none 0 0 ∨ ∃ a c, x = .slice (some a) 0 c) :
    (Builtin.append_ #[t, t] ty #[.slice b sLen sCap, x]).run P w = .ok (.slice b sLen sCap) w := by
  rcases hx with rfl | ⟨a, c, rfl⟩
  · cases b <;> simp [Builtin.append_, run_underlying hu, sizeOf, typeInfo, hi, Builtin.lenOf, hc, Builtin.firstCells, storeCells]
  · cases b <;> simp [Builtin.append_, run_underlying hu, sizeOf, typeInfo, hi, Builtin.lenOf, hc, Builtin.firstCells, storeCells, loadCells, loadCellsFrom]

end Go.AM
