/- Small lemmas for the walks. -/
import Derived.Test.YtlfobfhklmndkaaGreatDoorB3
namespace Go.AM
open Go.RowKit
theorem Evt.shift {p : Nat → Prop} (h : Evt fun n => p (n + 60)) : Evt p := let ⟨N, hN⟩ := h; ⟨N + 60, fun n hn => by obtain ⟨m, rfl⟩ : ∃ m, n = m + 60 := ⟨n - 60, by omega⟩; exact hN m (by omega)⟩
theorem Evt.unshift {p : Nat → Prop} (h : Evt p) : Evt fun n => p (n + 60) := let ⟨N, hN⟩ := h; ⟨N, fun n hn => hN _ (by omega)⟩
theorem beqT {α : Type} [BEq α] [LawfulBEq α] {a b : α} (h : a = b) : (a == b) = true := by subst h; simp
theorem beqF {α : Type} [BEq α] [LawfulBEq α] {a b : α} (h : a ≠ b) : (a == b) = false := by simpa using h
theorem ltT {j m : Nat} (h : j < m) : decide (Int.ofNat j < (m : Int)) = true := by simpa using h
theorem ltF {j m : Nat} (h : ¬ j < m) : decide (Int.ofNat j < (m : Int)) = false := by simpa using h
theorem wrapS {j : Nat} (h : j < 9223372036854775807) : IntKind.wrap IntKind.i64 (Int.ofNat j + 1) = Int.ofNat (j + 1) := wrap_id (by simp; omega) (by simp; omega)
theorem Fr.shift {C : Cfg} {f : FuncId} {args : List AV} {x : AV} (h : Fr C f args x) : Evt fun n => ∀ S, (lower C (n + 60)).call f args S = some (x, S) := Evt.unshift (p := fun m => ∀ S, (lower C m).call f args S = some (x, S)) h

/-- All lists in a form are of a length that fits. -/
inductive Fit : Fm → Prop
  | mk (x : Fm) (h : x.kids.length < 9223372036854775808) (hk : ∀ y, y ∈ x.kids → Fit y) : Fit x
theorem Fit.len {x : Fm} (h : Fit x) : x.kids.length < 9223372036854775808 := by cases h; assumption
theorem Fit.kid {x y : Fm} (h : Fit x) (hy : y ∈ x.kids) : Fit y := by cases h with | mk _ _ hk => exact hk y hy
end Go.AM
namespace Go.AM
open Go.RowKit
theorem seen_stop {f : AAct → AS → Option (Exit × AAct × AS)} {k N : Nat} {m : List Nat} {live : List (Nat × AV)} {a : AAct} {S S' : AS} {e : Exit} (he : e ≠ .normal) (h : Seen (f a S) e N m live S') : Seen (aloop f (k + 1) a S) e N m live S' := by
  obtain ⟨a', h1, h2⟩ := h
  refine ⟨a', ?_, h2⟩
  simp only [aloop, h1]
  cases e with
  | normal => exact absurd rfl he
  | _ => rfl
theorem seen_next {f : AAct → AS → Option (Exit × AAct × AS)} {k N N' : Nat} {m m' : List Nat} {live live' : List (Nat × AV)} {a : AAct} {S S1 S' : AS} {e : Exit} (h : Seen (f a S) .normal N m live S1) (hk : ∀ a', In N m live a' → Seen (aloop f k a' S1) e N' m' live' S') : Seen (aloop f (k + 1) a S) e N' m' live' S' := by
  obtain ⟨a', h1, h2⟩ := h
  obtain ⟨a2, h3, h4⟩ := hk a' h2
  exact ⟨a2, by simp only [aloop, h1, h3], h4⟩
theorem Seen.weak {r : Option (Exit × AAct × AS)} {e : Exit} {N : Nat} {m : List Nat} {live live' : List (Nat × AV)} {S : AS} (h : Seen r e N m live S) (hl : ∀ l, HasL live l → HasL live' l) : Seen r e N m live' S :=
  let ⟨a, h1, h2⟩ := h; ⟨a, h1, h2.marks, h2.len, hl _ h2.has⟩
/-- The first element with a property. -/
def idxOf (p : Fm → Bool) : List Fm → Int → Int
  | [], _ => -1
  | x :: l, i => bif p x then i else idxOf p l (i + 1)
theorem idxOf_any (p : Fm → Bool) : ∀ (l : List Fm) (i : Int), 0 ≤ i → (decide (idxOf p l i ≥ 0)) = l.any p
  | [], i, _ => by simp [idxOf]
  | x :: l, i, h => by
    have ih := idxOf_any p l (i + 1) (by omega)
    cases hp : p x with
    | true => simp [idxOf, hp, h]
    | false => simp only [idxOf, hp, cond_false, List.any_cons, Bool.false_or]; exact ih
mutual
/-- What counting nodes answers. -/
def Fm.nodes : Fm → Int → Int
  | .mk _ _ _ l, m => Fm.nodesL l 1 m
def Fm.nodesL : List Fm → Int → Int → Int
  | [], k, _ => k
  | y :: l, k, m => bif decide (k > m) then k else Fm.nodesL l (IntKind.i64.wrap (k + Fm.nodes y (IntKind.i64.wrap (m - k)))) m
end
theorem Fm.nodes_eq (x : Fm) (m : Int) : x.nodes m = Fm.nodesL x.kids 1 m := by cases x; rfl
mutual
def Fm.brief : Fm → Bool
  | .mk _ t h l => decide ((t.size : Int) ≤ 30) && (decide ((h.size : Int) ≤ 30) && !Fm.anyLong l)
def Fm.anyLong : List Fm → Bool
  | [] => false
  | y :: l => !Fm.brief y || Fm.anyLong l
end
theorem Fm.anyLong_eq : ∀ l : List Fm, Fm.anyLong l = l.any fun y => !y.brief
  | [] => rfl
  | y :: l => by simp only [Fm.anyLong, List.any_cons, Fm.anyLong_eq l]
theorem Fm.brief_eq (x : Fm) : x.brief = (decide ((x.text.size : Int) ≤ 30) && (decide ((x.home.size : Int) ≤ 30) && !x.kids.any fun y => !y.brief)) := by
  cases x with | mk k t h l => show _ = (decide ((t.size : Int) ≤ 30) && (decide ((h.size : Int) ≤ 30) && !l.any fun y => !y.brief)); rw [← Fm.anyLong_eq]; simp only [Fm.brief]
end Go.AM
