/- The abstract machine, sixth text: the operations' laws: what makes memory; fields and elements. -/
import Derived.Test.YtlfobfhklmndkaaGreatDoorA4
namespace Go.AM
open Go.RowKit

variable {B0 : Nat} {w0 w : World} {E : Env} {S S' : AS} {P : Program}

/-- An operation's run did what the abstract one did. -/
def Did (B0 : Nat) (w0 : World) (E : Env) (w : World) (S S' : AS) (x : AV) (r : Result Next) : Prop :=
  ∃ nx w' E', r = .ok nx w' ∧ SR B0 w0 E' S' w' ∧ Step S.objs.length S.ends.length E w E' w' ∧ ((∃ y, nx = .value y ∧ VR E' w' x y) ∨ (nx = .skip ∧ x = undefA))

theorem Did.val {x : AV} {y : Value} {r : Result Next} (h : SR B0 w0 E S w) (hr : r = .ok (.value y) w) (hv : VR E w x y) : Did B0 w0 E w S S x r :=
  ⟨_, _, E, hr, h, Step.refl _ _ _ _, .inl ⟨y, rfl, hv⟩⟩

theorem flats_pair (l : List Value) (h : l.all flat = true) : Pair (VR E w) (l.map .v) l :=
  ⟨by simp, fun i x y hx hy => by
    simp [hy] at hx
    subst hx
    exact VR.of_flat (List.all_eq_true.1 h _ (List.mem_of_getElem? hy))⟩

theorem azero_some {t : TypeId} {l : List AV} (h : azero P t = some l) : ∃ i z, P.info? t = some i ∧ i.zero = some z ∧ z.cells.toList.all flat = true ∧ l = z.cells.toList.map .v := by
  unfold azero at h
  obtain ⟨i, hi, h⟩ := Option.bind_eq_some_iff.1 h
  obtain ⟨z, hz, h⟩ := Option.bind_eq_some_iff.1 h
  split at h
  · rename_i hf; cases h; exact ⟨i, z, hi, hz, hf, rfl⟩
  · cases h

theorem run_zero {t : TypeId} {i : TypeInfo} {z : Value} (hi : P.info? t = some i) (hz : i.zero = some z) : (zeroValue t).run P w = .ok z w := by simp [zeroValue, typeInfo, hi, hz]

theorem Pair.arr {l : List AV} {ys : List Value} (h : Pair (VR E w) l ys) : ∀ (i : Nat) x y, l[i]? = some x → ys.toArray[i]? = some y → VR E w x y := fun i x y hx hy => h.2 i x y hx (by simpa using hy)

theorem alloc_sound (h : SR B0 w0 E S w) {t : TypeId} {z : List AV} (hz : azero P t = some z) :
    ∃ y w' E', (Instr.alloc t true (.tuple #[])).run P w = .ok y w' ∧ SR B0 w0 E' (S.push (.cells z t)) w' ∧ Step S.objs.length S.ends.length E w E' w' ∧ VR E' w' (.ptr S.objs.length 0) y := by
  obtain ⟨i, zv, hi, hzv, hf, rfl⟩ := azero_some hz
  have hp : Pair (VR E w) (zv.cells.toList.map .v) zv.cells.toList := flats_pair _ hf
  obtain ⟨E', h1, h2, h3, _⟩ := h.newCells zv.cells t (zv.cells.toList.map .v) (by simp) (fun i x y hx hy => hp.2 i x y hx (by simpa using hy))
  refine ⟨_, _, E', ?_, h1, h2, VR.ptr h3⟩
  simp [Instr.alloc, run_zero hi hzv, newVar, newRow]

theorem box_sound (h : SR B0 w0 E S w) {t : TypeId} {x : AV} {y : Value} (hv : VR E w x y) (hj : x ≠ .junk) :
    ∃ y' w' E', (Instr.box t y).run P w = .ok y' w' ∧ SR B0 w0 E' (S.push (.cells x.cells t)) w' ∧ Step S.objs.length S.ends.length E w E' w' ∧ VR E' w' (.ptr S.objs.length 0) y' := by
  have hp := hv.cells hj
  obtain ⟨E', h1, h2, h3, _⟩ := h.newCells y.cells t x.cells (by rw [hp.1]; simp) (fun i x y hx hy => hp.2 i x y hx (by simpa using hy))
  refine ⟨_, _, E', ?_, h1, h2, VR.ptr h3⟩
  simp [Instr.box, newVar, newRow]

theorem foldl_set (off : Nat) : ∀ (l : List Value) (n : Nat) (cs : Array Value), off + n + l.length ≤ cs.size →
    ((l.zipIdx n).foldl (fun (cs : Array Value) (p : Value × Nat) => cs.setIfInBounds (off + p.2) p.1) cs).size = cs.size ∧
    ∀ i, ((l.zipIdx n).foldl (fun (cs : Array Value) (p : Value × Nat) => cs.setIfInBounds (off + p.2) p.1) cs)[i]? = if off + n ≤ i ∧ i < off + n + l.length then l[i - (off + n)]? else cs[i]?
  | [], n, cs, _ => ⟨rfl, fun i => by simp; omega⟩
  | v :: l, n, cs, h => by
    simp only [List.length_cons] at h
    obtain ⟨h1, h2⟩ := foldl_set off l (n + 1) (cs.setIfInBounds (off + n) v) (by simp; omega)
    simp only [List.zipIdx_cons, List.foldl_cons]
    refine ⟨by rw [h1]; simp, fun i => ?_⟩
    rw [h2 i]
    simp only [List.length_cons]
    by_cases e : i = off + n
    · subst e
      rw [if_neg (by omega), if_pos (by omega)]
      simp [show off + n < cs.size by omega]
    · by_cases e2 : off + (n + 1) ≤ i ∧ i < off + (n + 1) + l.length
      · rw [if_pos e2, if_pos (by omega), show i - (off + n) = (i - (off + (n + 1))) + 1 by omega]
        simp
      · rw [if_neg e2, if_neg (by omega)]
        rw [Array.getElem?_setIfInBounds]
        rw [if_neg (by omega)]

theorem fill_sound (place : Nat → Option (Nat × Nat)) {ρ : Operand → AV} {ρ' : Operand → Value} (hρ : ∀ x, VR E w (ρ x) (ρ' x)) : ∀ (parts : List (Nat × Operand)) (cells out : List AV) (cs : Array Value), Pair (VR E w) cells cs.toList →
    afill place cells (parts.map fun p => (p.1, ρ p.2)) = some out → ∃ outs, Instr.fill place cs (parts.map fun p => (p.1, ρ' p.2)) = some outs ∧ Pair (VR E w) out outs.toList ∧ outs.size = cs.size
  | [], cells, out, cs, hp, h => by simp [afill] at h; subst h; exact ⟨cs, rfl, hp, rfl⟩
  | (i, x) :: rest, cells, out, cs, hp, h => by
    simp only [List.map_cons, afill] at h
    obtain ⟨p, hpl, h⟩ := Option.bind_eq_some_iff.1 h
    split at h
    · rename_i hc
      obtain ⟨hsz, hone, hfit⟩ := hc
      by_cases hj : ρ x = .junk
      · rw [hj] at hone; simp [AV.cells, AV.one] at hone
      have hcs := (hρ x).cells hj
      have hlen : (ρ' x).cells.size = (ρ x).cells.length := by rw [← Array.length_toList]; exact hcs.1.symm
      have hcl : cs.size = cells.length := by rw [← Array.length_toList]; exact hp.1.symm
      obtain ⟨k1, k2⟩ := foldl_set p.1 (ρ' x).cells.toList 0 cs (by rw [Array.length_toList]; omega)
      have he : (ρ' x).cells.zipIdx.foldl (fun (cs : Array Value) (p' : Value × Nat) => cs.setIfInBounds (p.1 + p'.2) p'.1) cs = ((ρ' x).cells.toList.zipIdx 0).foldl (fun (cs : Array Value) (p' : Value × Nat) => cs.setIfInBounds (p.1 + p'.2) p'.1) cs := by
        rw [← Array.foldl_toList, Array.toList_zipIdx]
      generalize hcs' : ((ρ' x).cells.toList.zipIdx 0).foldl (fun (cs : Array Value) (p' : Value × Nat) => cs.setIfInBounds (p.1 + p'.2) p'.1) cs = cs' at k1 k2 he
      obtain ⟨outs, h1, h2, h3⟩ := fill_sound place hρ rest (splice cells p.1 (ρ x).cells) out cs' (by
        refine ⟨by have e1 := splice_length hfit; have e2 : cs'.toList.length = cs'.size := Array.length_toList; omega, fun i a b ha hb => ?_⟩
        rw [splice_get hfit] at ha
        simp only [Array.getElem?_toList] at hb
        rw [k2 i] at hb
        simp only [Nat.add_zero, Array.length_toList, hlen] at hb
        split at ha
        · rename_i hin
          rw [if_pos hin] at hb
          exact hcs.2 _ a b ha (by simpa using hb)
        · rename_i hin
          rw [if_neg hin] at hb
          exact hp.2 i a b ha (by simpa using hb)) h
      refine ⟨outs, ?_, h2, by rw [h3, k1]⟩
      simp only [List.map_cons, Instr.fill, hpl]
      rw [if_neg (by simp; omega)]
      rw [← h1, ← he]
    · cases h

theorem build_sound {t : TypeId} {parts : Array (Nat × Operand)} {x : AV} {ρ : Operand → AV} {ρ' : Operand → Value} (hρ : ∀ x, VR E w (ρ x) (ρ' x))
    (hx : abuild P t (parts.toList.map fun p => (p.1, ρ p.2)) = some x) : ∃ y, (Instr.build t (parts.map fun p => (p.1, ρ' p.2))).run P w = .ok y w ∧ VR E w x y := by
  unfold abuild at hx
  obtain ⟨z, hz, hx⟩ := Option.bind_eq_some_iff.1 hx
  obtain ⟨i, zv, hi, hzv, hf, rfl⟩ := azero_some hz
  have hp : Pair (VR E w) (zv.cells.toList.map .v) zv.cells.toList := flats_pair _ hf
  have hl : (parts.map fun p => (p.1, ρ' p.2)).toList = parts.toList.map fun p => (p.1, ρ' p.2) := by simp
  split at hx
  · rename_i fs hu
    obtain ⟨places, hpl, hx⟩ := Option.bind_eq_some_iff.1 hx
    obtain ⟨out, ho, rfl⟩ := Option.map_eq_some_iff.1 hx
    obtain ⟨outs, h1, h2, _⟩ := fill_sound _ hρ parts.toList _ out zv.cells hp ho
    exact ⟨_, run_build w t _ outs (by simp only [Program.built, hi, hu, hzv, hpl, hl, h1]), by simpa using VR.agg h2⟩
  · rename_i n e hu
    obtain ⟨ie, hie, hx⟩ := Option.bind_eq_some_iff.1 hx
    obtain ⟨out, ho, rfl⟩ := Option.map_eq_some_iff.1 hx
    obtain ⟨outs, h1, h2, _⟩ := fill_sound _ hρ parts.toList _ out zv.cells hp ho
    exact ⟨_, run_build w t _ outs (by simp only [Program.built, hi, hu, hzv, hie, hl, h1]), by simpa using VR.agg h2⟩
  · cases hx

theorem rep_length (z : List AV) (n : Nat) : (List.replicate n z).flatten.length = n * z.length := by simp

theorem rep_get {α : Type} (z : List α) : ∀ (n i : Nat), i < n * z.length → (List.replicate n z).flatten[i]? = z[i % z.length]?
  | 0, i, h => by simp at h
  | n + 1, i, h => by
    have hz : 0 < z.length := by rcases Nat.eq_zero_or_pos z.length with e | e; · rw [e] at h; simp at h
                                 · exact e
    rw [List.replicate_succ, List.flatten_cons, List.getElem?_append]
    split
    · rename_i hl; rw [Nat.mod_eq_of_lt hl]
    · rename_i hl
      rw [rep_get z n (i - z.length) (by rw [Nat.add_mul, Nat.one_mul] at h; omega)]
      congr 1
      exact (Nat.mod_eq_sub_mod (by omega)).symm

theorem zeros_pair (zv : Value) (n sz : Nat) (hf : zv.cells.toList.all flat = true) (hs : zv.cells.size = sz) :
    Pair (VR E w) (List.replicate n (zv.cells.toList.map AV.v)).flatten (((Array.range (n * sz)).map fun i => zv.cells[i % zv.cells.size]!).toList) := by
  refine ⟨by simp [hs], fun i x y hx hy => ?_⟩
  have hlt : i < n * sz := by have := (List.getElem?_eq_some_iff.1 hy).1; simpa using this
  rw [rep_get _ _ _ (by simpa [hs] using hlt)] at hx
  have hpos : 0 < sz := by rcases Nat.eq_zero_or_pos sz with e | e; · rw [e] at hlt; simp at hlt
                           · exact e
  have hm : i % sz < zv.cells.size := by rw [hs]; exact Nat.mod_lt _ hpos
  simp only [List.length_map, Array.length_toList, hs, List.getElem?_map, Array.getElem?_toList] at hx
  rw [Array.getElem?_eq_getElem hm] at hx
  simp at hx
  subst hx
  simp [hlt, hs] at hy
  subst hy
  have hmem := List.all_eq_true.1 hf (zv.cells[i % sz]'hm) (by simp)
  rw [getElem!_pos zv.cells (i % sz) hm]
  exact VR.of_flat hmem

theorem chunks_length (sz : Nat) : ∀ (n : Nat) (l : List AV), (chunks sz n l).length = n
  | 0, _ => rfl
  | n + 1, l => by simp [chunks, chunks_length sz n]
theorem chunks_flatten (sz : Nat) : ∀ (n : Nat) (l : List AV), l.length = n * sz → (chunks sz n l).flatten = l
  | 0, l, h => by simp at h; simp [chunks, h]
  | n + 1, l, h => by
    rw [Nat.add_mul] at h
    simp only [chunks, List.flatten_cons]
    rw [chunks_flatten sz n (l.drop sz) (by simp; omega), List.take_append_drop]
theorem chunks_mem (sz : Nat) : ∀ (n : Nat) (l : List AV), l.length = n * sz → ∀ r ∈ chunks sz n l, r.length = sz
  | 0, _, _, r, hr => by simp [chunks] at hr
  | n + 1, l, h, r, hr => by
    rw [Nat.add_mul] at h
    simp only [chunks, List.mem_cons] at hr
    rcases hr with rfl | hr
    · simp; omega
    · exact chunks_mem sz n (l.drop sz) (by simp; omega) r hr

theorem isRow_some {t : TypeId} {p : TypeId × Nat} (h : isRow P t = some p) : P.underlying t = some (.slice p.1) ∧ szOf P p.1 = some p.2 ∧ 0 < p.2 := by
  unfold isRow at h
  split at h
  · rename_i e hu
    obtain ⟨sz, hs, h⟩ := Option.bind_eq_some_iff.1 h
    split at h
    · cases h
    · cases h; exact ⟨hu, hs, by omega⟩
  · cases h

theorem buildSlice_sound (h : SR B0 w0 E S w) {mu : Bool} {t : TypeId} {len : Nat} {parts : Array (Nat × Operand)} {x : AV} {ρ : Operand → AV} {ρ' : Operand → Value} (hρ : ∀ x, VR E w (ρ x) (ρ' x))
    (hx : abuildSlice P mu S t len (parts.toList.map fun p => (p.1, ρ p.2)) = some (x, S')) :
    ∃ y w' E', (Instr.buildSlice t len (parts.map fun p => (p.1, ρ' p.2))).run P w = .ok y w' ∧ SR B0 w0 E' S' w' ∧ Step S.objs.length S.ends.length E w E' w' ∧ VR E' w' x y := by
  unfold abuildSlice at hx
  obtain ⟨p, hp, hx⟩ := Option.bind_eq_some_iff.1 hx
  obtain ⟨z, hz, hx⟩ := Option.bind_eq_some_iff.1 hx
  obtain ⟨hu, hs, hpos⟩ := isRow_some hp
  obtain ⟨i, zv, hi, hzv, hf, rfl⟩ := azero_some hz
  split at hx
  · rename_i hc
    obtain ⟨hzl, h24, hml⟩ := hc
    have hzs : zv.cells.size = p.2 := by simpa using hzl
    obtain ⟨cs, hcs, hx⟩ := Option.map_eq_some_iff.1 hx
    obtain ⟨outs, h1, h2, h3⟩ := fill_sound _ hρ parts.toList _ cs ((Array.range (len * p.2)).map fun i => zv.cells[i % zv.cells.size]!) (zeros_pair zv len p.2 hf hzs) hcs
    have hosz : outs.size = len * p.2 := by rw [h3]; simp
    have hrun : (Instr.buildSlice t len (parts.map fun p => (p.1, ρ' p.2))).run P w = .ok (.slice (some ⟨w.heap.size, 0, none⟩) len len) (w.alloc (.cells outs p.1)) := by
      have hl : (parts.map fun p => (p.1, ρ' p.2)).toList = parts.toList.map fun p => (p.1, ρ' p.2) := by simp
      by_cases h0 : len * p.2 = 0
      · have e : ((Array.range (len * p.2)).map fun i => zv.cells[i % zv.cells.size]!) = #[] := by rw [h0]; simp
        rw [e] at h1
        simp [Instr.buildSlice, run_underlying hu, run_sizeOf hs, h0, newRow, show Array.range 0 = #[] from rfl, h1]
      · simp [Instr.buildSlice, run_underlying hu, run_sizeOf hs, h0, show ¬ (len * p.2 > 2 ^ 24) by omega, run_zero hi hzv, newRow, h1]
    have hcl : cs.length = len * p.2 := by rw [h2.1]; simpa using hosz
    cases mu with
    | true =>
      simp only [if_true, Prod.mk.injEq] at hx
      obtain ⟨rfl, rfl⟩ := hx
      obtain ⟨E', k1, k2, k3, k4⟩ := h.newCells outs p.1 cs (by omega) (fun i x y hx hy => h2.2 i x y hx (by simpa using hy))
      exact ⟨_, _, E', hrun, k1, k2, 1, _, len, k3, rfl, Nat.le_refl _, Nat.le_refl _, hml, hpos, by rw [k4, hosz]; omega⟩
    | false =>
      simp only [Bool.false_eq_true, if_false, Prod.mk.injEq] at hx
      obtain ⟨rfl, rfl⟩ := hx
      obtain ⟨k1, k2, k3⟩ := h.newRow outs p.1 outs.size (Nat.le_refl _) cs (by omega) (fun i x y hx hy => h2.2 i x y hx (by simpa using hy))
      have hcc := chunks_length p.2 len cs
      have := VR.lst (c := .exact) (rows := chunks p.2 len cs) (cap := len) (sz := p.2) (by omega) hml hpos (chunks_mem _ _ _ hcl) (by rw [chunks_flatten _ _ _ hcl]; exact k3) (show len = _ by omega)
      rw [hcc] at this
      exact ⟨_, _, _, hrun, k1, k2, this⟩
  · cases hx

theorem afield_some {s : TypeId} {f : Nat} {p : Nat × TypeId} (h : afield P s f = some p) : ∃ fs x n, P.underlying s = some (.struct fs) ∧ fs[f]? = some x ∧ szOf P x.type = some n ∧ n ≠ 0 ∧ p = (x.offset, x.type) := by
  unfold afield at h
  split at h
  · rename_i fs hu
    obtain ⟨x, hx, h⟩ := Option.bind_eq_some_iff.1 h
    split at h
    · cases h
    · rename_i h0
      split at h
      · rename_i hs
        cases h
        obtain ⟨n, hn⟩ := Option.isSome_iff_exists.1 hs
        exact ⟨fs, x, n, hu, hx, hn, fun e => h0 (by rw [hn, e]), rfl⟩
      · cases h
  · cases h

theorem fieldAddr_sound {s : TypeId} {f : Nat} {a x : AV} {a' : Value} (ha : VR E w a a') (hx : afieldAddr P s f a = some x) : ∃ y, (Instr.fieldAt s a' f).run P w = .ok y w ∧ VR E w x y := by
  have key : ∀ (g b : Nat) (p : Nat × TypeId), afield P s f = some p → (Instr.fieldAt s (.pointer (some ⟨g, b, none⟩)) f).run P w = .ok (.pointer (some ⟨g, b + p.1, none⟩)) w := by
    intro g b p hp
    obtain ⟨fs, x, n, hu, hf, hn, h0, rfl⟩ := afield_some hp
    simp [Instr.fieldAt, run_underlying hu, hf, Instr.sureAddr, fieldPlace, run_sizeOf hn, h0, addr_add]
  cases a with
  | ptr o off =>
    obtain ⟨g, hj, rfl⟩ := ha.ptr_inv
    obtain ⟨p, hp, rfl⟩ := Option.map_eq_some_iff.1 hx
    exact ⟨_, key g off p hp, VR.ptr hj⟩
  | eptr row off =>
    obtain ⟨g, b, rfl, hr⟩ := ha.eptr_inv
    obtain ⟨p, hp, rfl⟩ := Option.map_eq_some_iff.1 hx
    exact ⟨_, key g (b + off) p hp, by rw [Nat.add_assoc]; exact VR.eptr hr⟩
  | _ => cases hx

theorem part_sound {t : TypeId} {l : List AV} {ys : List Value} {off : Nat} {x : AV} (hp : Pair (VR E w) l ys) (hx : pick P t l off = some x) : ∃ y, (part t ys.toArray off).run P w = .ok y w ∧ VR E w x y := by
  unfold pick at hx
  split at hx
  · rename_i ha
    obtain ⟨n, hn, hx⟩ := Option.bind_eq_some_iff.1 hx
    split at hx
    · cases hx
      refine ⟨.agg (ys.toArray.extract off (off + n)), by simp [part, aggOf_some ha, run_sizeOf hn], ?_⟩
      have : Pair (VR E w) ((l.drop off).take n) ((ys.drop off).take n) := ⟨by simp [hp.1], fun i x y hx hy => by
        rw [List.getElem?_take] at hx hy
        split at hx
        · rename_i hi
          rw [if_pos hi] at hy
          rw [List.getElem?_drop] at hx hy
          exact hp.2 _ x y hx hy
        · cases hx⟩
      have e : ys.toArray.extract off (off + n) = ((ys.drop off).take n).toArray := by simp [List.extract_toArray, List.extract_eq_take_drop]
      rw [e]
      exact VR.agg this
    · cases hx
  · rename_i ha
    have hlt : off < ys.length := by rw [← hp.1]; exact (List.getElem?_eq_some_iff.1 hx).1
    exact ⟨ys[off], by simp [part, aggOf_some ha, hlt], hp.2 off x _ hx (by simp [hlt])⟩
  · cases hx

end Go.AM
