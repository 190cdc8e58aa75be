/- Lists of forms in the store and out of it. -/
import Derived.Test.YtlfobfhklmndkaaGreatDoorB4
namespace Go.AM
open Go.RowKit

structure FormP (P : Program) (tl te : TypeId) : Prop where
  sl : P.underlying tl = some (.slice te)
  sz : szOf P te = some 4
  ag : aggOf te P = some true
  z' : (azero P te).map List.length = some 4
  info' : ((P.info? te).map fun i => Nat.ble i.bytes 1000) = some true

variable {P : Program} {tl te : TypeId}

theorem FormP.z (h : FormP P tl te) : ∃ z, azero P te = some z ∧ z.length = 4 := Option.map_eq_some_iff.1 h.z'
theorem FormP.info (h : FormP P tl te) : ∃ i, P.info? te = some i ∧ i.bytes ≤ 1000 := by
  obtain ⟨i, h1, h2⟩ := Option.map_eq_some_iff.1 h.info'
  exact ⟨i, h1, Nat.le_of_ble_eq_true h2⟩
theorem FormP.row (h : FormP P tl te) : isRow P tl = some (te, 4) := by
  unfold isRow
  rw [h.sl]
  simp only [h.sz, Option.bind_some]
  rfl

/-- The cells of a list of forms. -/
def flat4 (xs : List Fm) : List AV := (xs.map Fm.row).flatten
@[simp] theorem flat4_len (xs : List Fm) : (flat4 xs).length = xs.length * 4 := by
  unfold flat4
  rw [flat_len _ 4 (by intro r hr; obtain ⟨x, _, rfl⟩ := List.mem_map.1 hr; rfl), List.length_map]
theorem flat4_cons (x : Fm) (xs : List Fm) : flat4 (x :: xs) = x.row ++ flat4 xs := rfl
theorem flat4_append (xs ys : List Fm) : flat4 (xs ++ ys) = flat4 xs ++ flat4 ys := by simp [flat4]
theorem flat4_take (xs : List Fm) (n : Nat) : (flat4 xs).take (n * 4) = flat4 (xs.take n) := by
  unfold flat4
  rw [List.map_take, flat_take _ 4 (by intro r hr; obtain ⟨x, _, rfl⟩ := List.mem_map.1 hr; rfl)]
theorem flat4_drop : ∀ (n : Nat) (xs : List Fm), (flat4 xs).drop (n * 4) = flat4 (xs.drop n)
  | 0, xs => by simp
  | n + 1, [] => by simp [flat4]
  | n + 1, x :: xs => by
    rw [flat4_cons, List.drop_succ_cons, ← flat4_drop n xs, show (n + 1) * 4 = x.row.length + n * 4 by simp [Fm.row_len]; omega, List.drop_append]
    simp
theorem flat4_one (xs : List Fm) : (flat4 xs).all AV.one = true := by
  rw [List.all_eq_true]
  intro a ha
  unfold flat4 at ha
  obtain ⟨r, hr, har⟩ := List.mem_flatten.1 ha
  obtain ⟨x, _, rfl⟩ := List.mem_map.1 hr
  exact List.all_eq_true.1 (Fm.row_one x) a har
theorem chunks_flat4 : ∀ xs : List Fm, chunks 4 xs.length (flat4 xs) = xs.map Fm.row
  | [] => rfl
  | x :: xs => by
    rw [flat4_cons]
    simp only [List.length_cons, chunks, List.map_cons]
    rw [List.take_left' (Fm.row_len x), List.drop_left' (Fm.row_len x), chunks_flat4 xs]

theorem slice_lst (h : FormP P tl te) (xs : List Fm) {s e : Nat} (h1 : s ≤ e) (h2 : e ≤ xs.length) :
    aslice P tl (.lst .any (xs.map Fm.row)) (some (.v (.int .i64 s))) (some (.v (.int .i64 e))) none = some (.lst .any (((xs.take e).drop s).map Fm.row)) := by
  unfold aslice
  dsimp only
  rw [h.sl]
  simp only [aintOf, Option.bind_some, h.sz, Option.isSome_some, and_true, List.length_map]
  rw [if_pos]
  · simp only [capOf, Int.toNat_natCast, ← List.map_take, ← List.map_drop]
  · refine ⟨by omega, by omega, by omega, ?_⟩
    cases xs with
    | nil => left; simp at h2; omega
    | cons x xs => right; simp

theorem rows_lst (S : AS) (c : Cap) (xs : List Fm) : rowsOf S 4 (.lst c (xs.map Fm.row)) = some (xs.map Fm.row) := by
  unfold rowsOf
  dsimp only
  rw [if_pos (Fm.all_map xs)]

theorem rows_slc {S : AS} {o k : Nat} {xs : List Fm} {T : TypeId} (h : S.cellsAt o = some (flat4 xs, T)) {s e : Nat} (h1 : s ≤ e) (h2 : e ≤ xs.length) :
    rowsOf S 4 (.slc o 4 (s * 4) (e - s) k) = some (((xs.take e).drop s).map Fm.row) := by
  unfold rowsOf
  dsimp only
  have hl : ((flat4 xs).drop (s * 4)).take ((e - s) * 4) = flat4 ((xs.take e).drop s) := by
    rw [flat4_drop, flat4_take, List.take_drop]
    congr 2
    rw [show s + (e - s) = e by omega]
  rw [if_pos rfl, h, Option.bind_some, hl]
  have hn : ((xs.take e).drop s).length = e - s := by simp; omega
  rw [if_pos ⟨by rw [flat4_len, hn], flat4_one _⟩, ← hn, chunks_flat4]

theorem append_new (h : FormP P tl te) {S : AS} {o : Nat} {c : Cap} {xs : List Fm} (hS : S.cellsAt o = some ([], te)) (h0 : xs ≠ []) (hb : xs.length ≤ 100000) :
    aappend P true S tl (.slc o 4 0 0 0) (.lst c (xs.map Fm.row)) = some (.slc S.objs.length 4 0 xs.length xs.length, (S.set o .dead).push (.cells (flat4 xs) te)) := by
  obtain ⟨z, hz, hzl⟩ := h.z
  obtain ⟨i, hi, hib⟩ := h.info
  have hl : xs.length ≠ 0 := by simpa using h0
  have hbb : xs.length * i.bytes ≤ 140737488355328 := Nat.le_trans (Nat.mul_le_mul hb hib) (by decide)
  have hm : xs.length ≤ maxLen := Nat.le_trans hb (by decide)
  unfold aappend
  rw [h.row]
  simp only [Option.bind_some, hz, hi, rows_lst, hzl, ne_eq, not_true, if_false, List.length_map, hl, if_true, hS, Nat.zero_add, Nat.zero_mul, Nat.add_zero, List.length_nil]
  rw [if_neg (by omega), if_pos ⟨by omega, trivial, trivial, hbb, hm, by omega⟩]
  rfl

theorem append_lst (h : FormP P tl te) {S : AS} {c : Cap} {xs : List Fm} (h0 : xs ≠ []) (hb : xs.length ≤ 100000) :
    aappend P false S tl (.lst .exact []) (.lst c (xs.map Fm.row)) = some (.lst (.tok S.ends.length xs.length 4) (xs.map Fm.row), S.tokN xs.length) := by
  obtain ⟨z, hz, hzl⟩ := h.z
  obtain ⟨i, hi, hib⟩ := h.info
  have hl : xs.length ≠ 0 := by simpa using h0
  have hbb : xs.length * i.bytes ≤ 140737488355328 := Nat.le_trans (Nat.mul_le_mul hb hib) (by decide)
  have hm : xs.length ≤ maxLen := Nat.le_trans hb (by decide)
  unfold aappend
  rw [h.row]
  simp only [Option.bind_some, hz, hi, rows_lst, hzl, ne_eq, not_true, if_false, List.length_map, hl, Nat.zero_add, List.length_nil, List.all_nil, List.nil_append]
  rw [if_pos ⟨trivial, hbb, hm⟩]
  rfl

theorem append_lst0 (h : FormP P tl te) {S : AS} {c : Cap} {mu : Bool} : aappend P mu S tl (.lst .exact []) (.lst c []) = some (.lst .exact [], S) := by
  obtain ⟨z, hz, hzl⟩ := h.z
  obtain ⟨i, hi, hib⟩ := h.info
  unfold aappend
  rw [h.row]
  simp only [Option.bind_some, hz, hi, hzl, ne_eq, not_true, if_false, rowsOf, List.all_nil, if_true, List.length_nil]

theorem append_slc0 (h : FormP P tl te) {S : AS} {c : Cap} {mu : Bool} {o : Nat} : aappend P mu S tl (.slc o 4 0 0 0) (.lst c []) = some (.slc o 4 0 0 0, S) := by
  obtain ⟨z, hz, hzl⟩ := h.z
  obtain ⟨i, hi, hib⟩ := h.info
  unfold aappend
  rw [h.row]
  simp only [Option.bind_some, hz, hi, hzl, ne_eq, not_true, if_false, rowsOf, List.all_nil, if_true, List.length_nil]

/-! what goes out -/
theorem lendR_map (S : AS) (dr : List AV → Option (List AV)) (xs : List Fm) : lendR S dr (xs.map Fm.row) = some (xs.map Fm.row) := by
  rw [lendR_old S dr _ (Fm.belowRows_map 0 xs), Fm.sealRows_map]
theorem lendL_row (S : AS) (dr : List AV → Option (List AV)) (x : Fm) : lendL S dr x.row = some x.row := by
  rw [lendL_old S dr _ (by simp [Fm.row, belowAll, AV.old, Fm.belowRows_rows])]
  simp [Fm.row, sealAll, AV.shut, Fm.sealRows_rows]
theorem drRows_map (dr : List AV → Option (List AV)) (hd : ∀ x : Fm, dr x.row = some x.row) : ∀ xs : List Fm, drRows dr (xs.map Fm.row) = some (xs.map Fm.row)
  | [] => rfl
  | x :: xs => by
    simp only [List.map_cons, drRows]
    rw [hd, drRows_map dr hd xs]
theorem lendAll_row (S : AS) (d : Nat) (x : Fm) : lendAll d S x.row = some x.row := by
  cases d <;> · unfold lendAll; exact lendL_row _ _ x
theorem lend_lst (S : AS) (d : Nat) (c : Cap) (xs : List Fm) : lendV S (lendAll d S) (.lst c (xs.map Fm.row)) = some (.lst (untok c) (xs.map Fm.row)) := by
  unfold lendV
  rw [lendR_map]
theorem lend_slc {S : AS} {d o k : Nat} {xs : List Fm} {T : TypeId} (h : S.cellsAt o = some (flat4 xs, T)) : lendV S (lendAll d S) (.slc o 4 0 xs.length k) = some (.lst .unk (xs.map Fm.row)) := by
  have hr := rows_slc (k := k) h (s := 0) (e := xs.length) (by omega) (by omega)
  simp only [Nat.zero_mul, Nat.sub_zero, List.take_length, List.drop_zero] at hr
  unfold lendV
  rw [hr]
  dsimp only
  rw [drRows_map _ (lendAll_row S d)]
theorem lend_pair {S : AS} {x y : AV} {v : Value} (h : lendV S (lendAll 4 S) x = some y) : lend S (.tup [x, .v v]) = some (.tup [y, .v v]) := by
  unfold lend lendV lendL
  rw [h]
  rfl

/-! reading and writing -/
theorem index_slc (h : FormP P tl te) {o k n i : Nat} {ik : IntKind} (hi : i < n) : aindexAddr P tl (.slc o 4 0 n k) (.v (.int ik i)) = some (.ptr o (i * 4)) := by
  unfold aindexAddr
  simp only [aintOf, Option.bind_some, h.sl, h.sz]
  rw [if_pos ⟨by omega, by omega, trivial⟩]
  simp
theorem load_slc (h : FormP P tl te) {S : AS} {o i : Nat} {xs : List Fm} {x : Fm} {T : TypeId} (hS : S.cellsAt o = some (flat4 xs, T)) (hx : xs[i]? = some x) : aload P S te (.ptr o (i * 4)) = some x.av := by
  unfold aload
  dsimp only
  rw [hS, Option.bind_some]
  obtain ⟨hi, rfl⟩ := List.getElem?_eq_some_iff.1 hx
  unfold pick
  simp only [h.ag, h.sz, Option.bind_some]
  rw [if_pos (by rw [flat4_len]; omega), flat4_drop, List.drop_eq_getElem_cons hi, flat4_cons, List.take_left' (Fm.row_len _)]
  rfl
theorem splice_flat4 (xs : List Fm) (i : Nat) (x : Fm) (hi : i < xs.length) : splice (flat4 xs) (i * 4) x.row = flat4 (xs.set i x) := by
  unfold splice
  rw [Fm.row_len, show i * 4 + 4 = (i + 1) * 4 by omega, flat4_take, flat4_drop, ← flat4_one_app x, ← flat4_append, ← flat4_append, List.set_eq_take_append_cons_drop, if_pos hi, List.append_assoc]
  rfl
where flat4_one_app (x : Fm) : flat4 [x] = x.row := by simp [flat4]
theorem store_slc (h : FormP P tl te) {S : AS} {o i : Nat} {xs : List Fm} {x : Fm} {T : TypeId} (hS : S.cellsAt o = some (flat4 xs, T)) (hi : i < xs.length) : astore P S te x.av (.ptr o (i * 4)) = some (S.set o (.cells (flat4 (xs.set i x)) T)) := by
  unfold astore
  simp only [hS, Option.bind_some, h.sz]
  have hc : x.av.cells = x.row := rfl
  rw [hc, Fm.row_len, Fm.row_one, if_pos, splice_flat4 xs i x hi]
  simp only [flat4_len, Bool.true_and, Bool.and_eq_true, decide_eq_true_eq]
  exact ⟨by simp, by omega⟩
theorem splice_many (xs ys : List Fm) (s : Nat) (h : s + ys.length ≤ xs.length) : splice (flat4 xs) (s * 4) (flat4 ys) = flat4 (xs.take s ++ ys ++ xs.drop (s + ys.length)) := by
  unfold splice
  rw [flat4_len, show s * 4 + ys.length * 4 = (s + ys.length) * 4 by omega, flat4_take, flat4_drop, ← flat4_append, ← flat4_append]
theorem copy_slc (h : FormP P tl te) {S : AS} {o s n k : Nat} {c : Cap} {xs ys : List Fm} {T : TypeId} (hS : S.cellsAt o = some (flat4 xs, T)) (hn : s + n ≤ xs.length) :
    acopy P S tl (.slc o 4 (s * 4) n k) (.lst c (ys.map Fm.row)) = some (.v (.int .i64 (min ys.length n : Nat)), S.set o (.cells (flat4 (xs.take s ++ ys.take (min ys.length n) ++ xs.drop (s + min ys.length n))) T)) := by
  unfold acopy
  rw [h.row]
  simp only [Option.bind_some, rows_lst, List.length_map, if_true, hS]
  rw [if_pos (by rw [flat4_len]; omega), ← List.map_take]
  have := splice_many xs (ys.take (min ys.length n)) s (by simp; omega)
  rw [show (List.map Fm.row (List.take (min ys.length n) ys)).flatten = flat4 (ys.take (min ys.length n)) from rfl, this]
  simp only [List.length_take, Nat.min_assoc, Nat.min_self, show min (min ys.length n) ys.length = min ys.length n by omega]
theorem slice_slc (h : FormP P tl te) {o s e n k : Nat} (h1 : s ≤ e) (h2 : e ≤ n) (h3 : n ≤ k) (h4 : s < k) :
    aslice P tl (.slc o 4 0 n k) (some (.v (.int .i64 s))) (some (.v (.int .i64 e))) none = some (.slc o 4 (s * 4) (e - s) (k - s)) := by
  unfold aslice
  dsimp only
  rw [h.sl]
  simp only [aintOf, Option.bind_some, h.sz]
  rw [if_pos ⟨by omega, by omega, by omega, trivial⟩]
  by_cases h0 : s = 0
  · subst h0; simp
  · rw [if_neg (by omega), if_pos (by omega)]
    simp only [Int.toNat_natCast, Nat.zero_add]
    congr 2
    omega
theorem slice_end (h : FormP P tl te) {o n : Nat} (h0 : 0 < n) :
    aslice P tl (.slc o 4 0 n n) (some (.v (.int .i64 n))) (some (.v (.int .i64 n))) none = some (.lst .unk []) := by
  unfold aslice
  dsimp only
  rw [h.sl]
  simp only [aintOf, Option.bind_some, h.sz]
  rw [if_pos ⟨by omega, by omega, by omega, trivial⟩, if_neg (by omega), if_neg (by omega)]
theorem copy_none (h : FormP P tl te) {S : AS} {c c' : Cap} {ys : List Fm} : acopy P S tl (.lst c' []) (.lst c (ys.map Fm.row)) = some (.v (.int .i64 0), S) := by
  unfold acopy
  rw [h.row]
  simp only [Option.bind_some, rows_lst]
end Go.AM
