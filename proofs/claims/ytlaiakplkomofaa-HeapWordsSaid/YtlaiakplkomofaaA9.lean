/- The abstract machine, tenth text: one operation that enters no Go function. -/
import Derived.Test.YtlaiakplkomofaaA8
namespace Go.AM
open Go.RowKit Go.MapKept

variable {B0 : Nat} {w0 w : World} {E : Env} {S S' : AS} {P : Program}

theorem rep_pair (zv : Value) (n sz : Nat) (hf : zv.cells.toList.all flat = true) (hs : zv.cells.size = sz) : Pair (VR E w) (List.replicate n (zv.cells.toList.map AV.v)).flatten (madeCells zv.cells (n * sz)).toList := by
  have := zeros_pair (E := E) (w := w) zv n sz hf hs
  refine ⟨by simp [hs, size_madeCells], fun i x y hx hy => ?_⟩
  refine this.2 i x y hx ?_
  simpa [madeCells] using hy

theorem makeSlice_sound (h : SR B0 w0 E S w) {mu : Bool} {t : TypeId} {l c x : AV} {l' c' : Value} (hl : VR E w l l') (hc : VR E w c c') (hx : amakeSlice P mu S t l c = some (x, S')) :
    ∃ y w' E', (Instr.makeSlice t l' c').run P w = .ok y w' ∧ SR B0 w0 E' S' w' ∧ Step S.objs.length S.ends.length E w E' w' ∧ VR E' w' x y := by
  unfold amakeSlice at hx
  obtain ⟨p, hp, hx1⟩ := Option.bind_eq_some_iff.1 hx; clear hx
  obtain ⟨z, hz, hx2⟩ := Option.bind_eq_some_iff.1 hx1; clear hx1
  obtain ⟨i, hi, hx3⟩ := Option.bind_eq_some_iff.1 hx2; clear hx2
  obtain ⟨ln, hln, hx4⟩ := Option.bind_eq_some_iff.1 hx3; clear hx3
  obtain ⟨cn, hcn, hx5⟩ := Option.bind_eq_some_iff.1 hx4; clear hx4
  obtain ⟨hu, hs, hpos⟩ := isRow_some hp
  obtain ⟨i', zv, hi', hzv, hf, rfl⟩ := azero_some hz
  rw [hi] at hi'; cases hi'
  obtain ⟨kl, rfl⟩ := aintOf_some hln hl
  obtain ⟨kc, rfl⟩ := aintOf_some hcn hc
  split at hx5
  · rename_i hcc
    obtain ⟨hzl, h0, h1, h2, h3⟩ := hcc
    have hzs : zv.cells.size = p.2 := by simpa using hzl
    have his : i.size = p.2 := by obtain ⟨i2, hi2, hs2⟩ := szOf_some hs; rw [hi] at hi2; cases hi2; exact hs2
    have hrun := run_make (P := P) w t p.1 i zv hu hi hzv kl kc ln cn h0 h1 (by omega) (by omega)
    rw [his] at hrun
    have hpair := rep_pair (E := E) (w := w) zv cn.toNat p.2 hf hzs
    have hml : cn.toNat ≤ maxLen := by unfold maxLen; omega
    split at hx5
    · cases hx5
      obtain ⟨E', k1, k2, k3, k4⟩ := h.newCells (madeCells zv.cells (cn.toNat * p.2)) p.1 _ (by rw [hpair.1]; simp) (fun i x y hx hy => hpair.2 i x y hx (by simpa using hy))
      refine ⟨_, _, E', hrun, k1, k2, 1, _, cn.toNat, k3, rfl, by omega, Nat.le_refl _, hml, hpos, by rw [k4, size_madeCells]; omega⟩
    · split at hx5
      · rename_i elc
        cases hx5
        subst elc
        obtain ⟨k1, k2, k3⟩ := h.newRow (madeCells zv.cells (ln.toNat * p.2)) p.1 (madeCells zv.cells (ln.toNat * p.2)).size (Nat.le_refl _) _ (by rw [hpair.1]; simp) (fun i x y hx hy => hpair.2 i x y hx (by simpa using hy))
        refine ⟨_, _, _, hrun, k1, k2, ?_⟩
        have := VR.lst (c := .exact) (cap := ln.toNat) (sz := p.2) (rows := List.replicate ln.toNat (zv.cells.toList.map AV.v)) (by simp) hml hpos (by intro r hr; simp at hr; rw [hr.2]; simpa using hzs) k3 (by simp [LstCap])
        simpa using this
      · cases hx5
  · cases hx5

theorem index_sound {t : TypeId} {a i x : AV} {a' i' : Value} (ha : VR E w a a') (hi : VR E w i i') (hx : aindex P t a i = some x) : ∃ y, (Instr.index t a' i').run P w = .ok y w ∧ VR E w x y := by
  unfold aindex at hx
  obtain ⟨n, hn, hx1⟩ := Option.bind_eq_some_iff.1 hx; clear hx
  obtain ⟨k, rfl⟩ := aintOf_some hn hi
  split at hx1
  · rename_i s hu
    split at hx1
    · rename_i h0
      obtain ⟨b, hb, rfl⟩ := Option.map_eq_some_iff.1 hx1
      obtain ⟨_, rfl⟩ := ha.flat_inv
      exact ⟨_, by simp [Instr.index, asIntOf, run_underlying hu, h0, hb], VR.of_flat rfl⟩
    · cases hx1
  · rename_i len e l hu
    split at hx1
    · rename_i hc
      obtain ⟨sz, hs, hx2⟩ := Option.bind_eq_some_iff.1 hx1
      obtain ⟨ys, rfl, hp⟩ := ha.agg_inv
      obtain ⟨y, hy, hv⟩ := part_sound (P := P) hp hx2
      exact ⟨y, by simp [Instr.index, asIntOf, run_underlying hu, hc.1, hc.2, run_sizeOf hs, hy], hv⟩
    · cases hx1
  · cases hx1

theorem extract_sound {a x : AV} {a' : Value} {i : Nat} (ha : VR E w a a') (hx : aextract a i = some x) : ∃ y, (Instr.extract a' i).run P w = .ok y w ∧ VR E w x y := by
  cases a with
  | tup l =>
    obtain ⟨ys, rfl, hp⟩ := ha.tup_inv
    have hx' : l[i]? = some x := hx
    have hlt : i < ys.length := by rw [← hp.1]; exact (List.getElem?_eq_some_iff.1 hx').1
    exact ⟨ys[i], by simp [Instr.extract, hlt], hp.2 i _ _ hx' (by simp [hlt])⟩
  | _ => simp [aextract] at hx

theorem opt_rel {ρ : Operand → AV} {ρ' : Operand → Value} (hρ : ∀ x, VR E w (ρ x) (ρ' x)) (o : Option Operand) : OptR E w (o.map ρ) (o.map ρ') := by
  cases o with
  | none => trivial
  | some x => exact hρ x

theorem map_pair {ρ : Operand → AV} {ρ' : Operand → Value} (hρ : ∀ x, VR E w (ρ x) (ρ' x)) (l : List Operand) : Pair (VR E w) (l.map ρ) (l.map ρ') :=
  ⟨by simp, fun i x y hx hy => by
    rw [List.getElem?_map] at hx hy
    cases hl : l[i]? with
    | none => rw [hl] at hx; cases hx
    | some o => rw [hl] at hx hy; cases hx; cases hy; exact hρ o⟩

theorem exec_sound (h : SR B0 w0 E S w) {mu : Bool} {o : Oper} {x : AV} {ρ : Operand → AV} {ρ' : Operand → Value} (hρ : ∀ x, VR E w (ρ x) (ρ' x))
    (hx : aexec P mu S ρ o.op = some (x, S')) : Did B0 w0 E w S S' x ((execOp ρ' o).run P w) := by
  obtain ⟨dst, op, ty, pos, after, guard⟩ := o
  have same : ∀ {r : Option AV} {q : AV × AS}, (r.map fun x => (x, S)) = some q → r = some q.1 ∧ q.2 = S := by
    intro r q hq
    obtain ⟨a, ha, rfl⟩ := Option.map_eq_some_iff.1 hq
    exact ⟨ha, rfl⟩
  have upd : ∀ {r : Option AS} {q : AV × AS}, (r.map fun S => (undefA, S)) = some q → r = some q.2 ∧ q.1 = undefA := by
    intro r q hq
    obtain ⟨a, ha, rfl⟩ := Option.map_eq_some_iff.1 hq
    exact ⟨ha, rfl⟩
  cases op with
  | move a => simp only [aexec, Option.some.injEq, Prod.mk.injEq] at hx; obtain ⟨rfl, rfl⟩ := hx; exact Did.val h rfl (hρ a)
  | assign a => simp only [aexec, Option.some.injEq, Prod.mk.injEq] at hx; obtain ⟨rfl, rfl⟩ := hx; exact Did.val h rfl (hρ a)
  | pick c a b =>
    simp only [aexec] at hx
    split at hx
    · rename_i t hc
      cases hx
      have hcv := hρ c
      rw [hc] at hcv
      obtain ⟨_, hcv⟩ := hcv.flat_inv
      refine Did.val h (y := if t then ρ' a else ρ' b) (by simp [execOp, hcv, asBool]) ?_
      cases t
      · exact hρ b
      · exact hρ a
    · cases hx
  | alloc e =>
    obtain ⟨z, hz, he⟩ := Option.map_eq_some_iff.1 hx
    cases he
    obtain ⟨y, w', E', h1, h2, h3, h4⟩ := alloc_sound h hz
    exact ⟨_, w', E', by simp [execOp, h1], h2, h3, .inl ⟨y, rfl, h4⟩⟩
  | box e a =>
    simp only [aexec] at hx
    split at hx
    · cases hx
    · rename_i hj
      cases hx
      obtain ⟨y, w', E', h1, h2, h3, h4⟩ := box_sound (P := P) (t := e) h (hρ a) (fun e => by rw [e] at hj; simp at hj)
      exact ⟨_, w', E', by simp [execOp, h1], h2, h3, .inl ⟨y, rfl, h4⟩⟩
  | build t parts =>
    obtain ⟨h1, h2⟩ := same hx
    simp only at h2; subst h2
    obtain ⟨y, hy, hv⟩ := build_sound (P := P) hρ h1
    exact Did.val h (by simp only [execOp]; simp [hy]) hv
  | buildSlice t len parts =>
    obtain ⟨y, w', E', h1, h2, h3, h4⟩ := buildSlice_sound (P := P) h hρ hx
    exact ⟨_, w', E', by simp only [execOp]; simp [h1], h2, h3, .inl ⟨y, rfl, h4⟩⟩
  | load t a =>
    obtain ⟨h1, h2⟩ := same hx
    simp only at h2; subst h2
    obtain ⟨y, hy, hv⟩ := load_sound h (hρ a) h1
    exact Did.val h (by simp [execOp, hy]) hv
  | store t a v =>
    obtain ⟨h1, h2⟩ := upd hx
    simp only at h2; subst h2
    obtain ⟨w', k1, k2, k3⟩ := store_sound h (hρ a) (hρ v) h1
    exact ⟨.skip, w', E, by simp [execOp, k1], k2, k3, .inr ⟨rfl, rfl⟩⟩
  | nilCheck a =>
    simp only [aexec] at hx
    have hv := hρ a
    split at hx
    · rename_i o b ha
      cases hx
      rw [ha] at hv
      obtain ⟨g, hj, e⟩ := hv.ptr_inv
      exact Did.val h (y := ρ' a) (by simp [execOp, e]) hv
    · rename_i l b ha
      cases hx
      rw [ha] at hv
      obtain ⟨g, b', e, _⟩ := hv.eptr_inv
      exact Did.val h (y := ρ' a) (by simp [execOp, e]) hv
    · cases hx
  | binOp op t a b ty' =>
    obtain ⟨h1, h2⟩ := same hx
    simp only at h2; subst h2
    obtain ⟨y, hy, hv⟩ := bin_sound (X := a) (Y := b) h (hρ a) (hρ b) h1
    refine Did.val h (y := y) ?_ hv
    show ((do pure (.value (← (do eqGuard op t a b (ρ' a) (ρ' b); binOp op t (ρ' a) (ρ' b))))) : Sem Next).run P w = _
    rw [Sem.run_bind, hy]; rfl
  | unOp op t a =>
    obtain ⟨h1, h2⟩ := same hx
    simp only at h2; subst h2
    have hv := hρ a
    split at h1
    · rename_i v ha
      rw [ha] at hv
      obtain ⟨_, e⟩ := hv.flat_inv
      obtain ⟨z, hz, hp⟩ := Option.bind_eq_some_iff.1 h1
      obtain ⟨hf, rfl⟩ := ofV_some hp
      exact Did.val h (y := z) (by simp [execOp, e, peval_sound _ hz]) (VR.of_flat hf)
    · cases h1
  | convert s d a =>
    obtain ⟨h1, h2⟩ := same hx
    simp only at h2; subst h2
    have hv := hρ a
    unfold aconvert at h1
    split at h1
    · rename_i v ha
      rw [ha] at hv
      obtain ⟨_, e⟩ := hv.flat_inv
      obtain ⟨z, hz, hp⟩ := Option.bind_eq_some_iff.1 h1
      obtain ⟨hf, rfl⟩ := ofV_some hp
      exact Did.val h (y := z) (by simp [execOp, e, peval_sound _ hz]) (VR.of_flat hf)
    · cases h1
  | makeFunc f a b =>
    simp only [aexec, Option.some.injEq, Prod.mk.injEq] at hx
    obtain ⟨rfl, rfl⟩ := hx
    refine Did.val h (y := .func f (a.toList.map ρ').toArray (b.toList.map ρ').toArray) ?_ (VR.fn (map_pair hρ _) (map_pair hρ _))
    simp [execOp, Instr.makeFunc]
    exact ⟨by apply Array.ext'; simp, by apply Array.ext'; simp⟩
  | makeMap t r =>
    cases r with
    | some r => simp [aexec] at hx
    | none =>
      simp only [aexec, Option.some.injEq, Prod.mk.injEq] at hx
      obtain ⟨rfl, rfl⟩ := hx
      obtain ⟨E', h1, h2, h3⟩ := h.newMap
      exact ⟨_, _, E', by simp only [execOp]; simp [run_makeMap], h1, h2, .inl ⟨_, rfl, VR.mp h3⟩⟩
  | makeSlice t l c =>
    obtain ⟨y, w', E', h1, h2, h3, h4⟩ := makeSlice_sound (P := P) h (hρ l) (hρ c) hx
    exact ⟨_, w', E', by simp [execOp, h1], h2, h3, .inl ⟨y, rfl, h4⟩⟩
  | slice t a lo hi mx =>
    obtain ⟨h1, h2⟩ := same hx
    simp only at h2; subst h2
    obtain ⟨y, hy, hv⟩ := slice_sound (P := P) (hρ a) (opt_rel hρ lo) (opt_rel hρ hi) (opt_rel hρ mx) h1
    exact Did.val h (by simp [execOp, hy]) hv
  | fieldAddr s a f =>
    obtain ⟨h1, h2⟩ := same hx
    simp only at h2; subst h2
    obtain ⟨y, hy, hv⟩ := fieldAddr_sound (P := P) (hρ a) h1
    exact Did.val h (by simp [execOp, hy]) hv
  | field t a f =>
    obtain ⟨h1, h2⟩ := same hx
    simp only at h2; subst h2
    have hv := hρ a
    split at h1
    · rename_i l ha
      rw [ha] at hv
      obtain ⟨ys, e, hp⟩ := hv.agg_inv
      obtain ⟨p, hp1, h3⟩ := Option.bind_eq_some_iff.1 h1
      obtain ⟨fs, x', n, hu, hf, hn, _, rfl⟩ := afield_some hp1
      obtain ⟨y, hy, hv'⟩ := part_sound (P := P) hp h3
      exact Did.val h (y := y) (by simp [execOp, Instr.field, run_underlying hu, hf, e, asAgg, hy]) hv'
    · cases h1
  | indexAddr t a i =>
    obtain ⟨h1, h2⟩ := same hx
    simp only at h2; subst h2
    obtain ⟨y, hy, hv⟩ := indexAddr_sound (P := P) (hρ a) (hρ i) h1
    exact Did.val h (by simp [execOp, hy]) hv
  | index t a i =>
    obtain ⟨h1, h2⟩ := same hx
    simp only at h2; subst h2
    obtain ⟨y, hy, hv⟩ := index_sound (P := P) (hρ a) (hρ i) h1
    exact Did.val h (by simp [execOp, hy]) hv
  | lookup t m k ok =>
    obtain ⟨h1, h2⟩ := same hx
    simp only at h2; subst h2
    obtain ⟨y, hy, hv⟩ := lookup_sound h (hρ m) (hρ k) h1
    exact Did.val h (by simp [execOp, hy]) hv
  | mapUpdate t m k v =>
    obtain ⟨h1, h2⟩ := upd hx
    simp only at h2; subst h2
    obtain ⟨w', k1, k2, k3⟩ := mapUpdate_sound h (hρ m) (hρ k) (hρ v) h1
    exact ⟨.skip, w', E, by simp [execOp, k1], k2, k3, .inr ⟨rfl, rfl⟩⟩
  | extract t i =>
    obtain ⟨h1, h2⟩ := same hx
    simp only at h2; subst h2
    obtain ⟨y, hy, hv⟩ := extract_sound (P := P) (hρ t) h1
    exact Did.val h (by simp [execOp, hy]) hv
  | makeInterface t a =>
    simp only [aexec] at hx
    split at hx
    · cases hx
    · cases hx
    · rename_i hu1 hu2
      cases hx
      refine Did.val h (y := .iface t (ρ' a)) ?_ (VR.ifc (hρ a))
      cases hu : P.underlying t with
      | none => exact absurd hu hu2
      | some d => cases d <;> first | exact absurd hu (hu1 _) | simp [execOp, Instr.makeInterface, run_underlying hu]
  | _ => simp [aexec] at hx

end Go.AM
