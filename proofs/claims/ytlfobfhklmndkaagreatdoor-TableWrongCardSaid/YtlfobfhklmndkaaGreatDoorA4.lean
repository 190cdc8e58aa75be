/- The abstract machine, fifth text: the operations' laws: loads, stores, fields, elements. -/
import Derived.Test.YtlfobfhklmndkaaGreatDoorA3
namespace Go.AM
open Go.RowKit

variable {B0 : Nat} {w0 w : World} {E : Env} {S : AS} {P : Program}

theorem peval_sound {α : Type} {x : α} : ∀ (s : Sem α), peval P s = some x → s.run P w = .ok x w
  | .pure a, h => by simp [peval] at h; simp [Sem.run, h]
  | .program k, h => peval_sound (k P) h
  | .mark m k, h => peval_sound k h
  | .load .., h => by simp [peval] at h
  | .store .., h => by simp [peval] at h
  | .new .., h => by simp [peval] at h
  | .shape .., h => by simp [peval] at h
  | .freeze .., h => by simp [peval] at h
  | .frozen .., h => by simp [peval] at h
  | .getObj .., h => by simp [peval] at h
  | .setObj .., h => by simp [peval] at h
  | .choose .., h => by simp [peval] at h
  | .sys .., h => by simp [peval] at h
  | .halt .., h => by simp [peval] at h

theorem ofV_some {x : Value} {y : AV} (h : ofV x = some y) : flat x = true ∧ y = .v x := by
  unfold ofV at h
  split at h
  · rename_i hf; cases h; exact ⟨hf, rfl⟩
  · cases h

theorem szOf_some {t : TypeId} {n : Nat} (h : szOf P t = some n) : ∃ i, P.info? t = some i ∧ i.size = n := by
  unfold szOf at h
  obtain ⟨i, hi, hs⟩ := Option.map_eq_some_iff.1 h
  exact ⟨i, hi, hs⟩

theorem run_sizeOf {t : TypeId} {n : Nat} (h : szOf P t = some n) : (sizeOf t).run P w = .ok n w := by
  obtain ⟨i, hi, hs⟩ := szOf_some h
  simp [sizeOf, typeInfo, hi, hs]

theorem aggOf_some {t : TypeId} {b : Bool} (h : aggOf t P = some b) : (isAgg t).run P w = .ok b w := by
  unfold aggOf at h
  unfold isAgg
  cases hu : P.underlying t with
  | none => simp [hu] at h
  | some d => cases d <;> simp [hu] at h <;> subst h <;> simp [run_underlying hu]

/-- Cells that stand from b on in block g, each related. -/
def Stand (E : Env) (w : World) (l : List AV) (g b : Nat) : Prop := ∀ m x, l[m]? = some x → ∃ z, w.cell? ⟨g, b + m, none⟩ = some z ∧ VR E w x z

theorem Stand.list {l : List AV} {g b : Nat} (h : Stand E w l g b) : ∃ ys : List Value, Pair (VR E w) l ys ∧ ∀ j v, ys[j]? = some v → w.cell? ⟨g, b + j, none⟩ = some v := by
  refine ⟨(List.range l.length).map fun j => (w.cell? ⟨g, b + j, none⟩).getD default, ⟨by simp, fun i x y hx hy => ?_⟩, fun j v hv => ?_⟩
  · obtain ⟨z, hz, hr⟩ := h i x hx
    have hlt : i < l.length := (List.getElem?_eq_some_iff.1 hx).1
    simp [hlt, hz] at hy
    exact hy ▸ hr
  · have hlt : j < l.length := by have := (List.getElem?_eq_some_iff.1 hv).1; simpa using this
    obtain ⟨z, hz, hr⟩ := h j l[j] (by simp [hlt])
    simp [hlt, hz] at hv
    exact hv ▸ hz

theorem Stand.drop {l : List AV} {g b : Nat} (h : Stand E w l g b) (o n : Nat) : Stand E w ((l.drop o).take n) g (b + o) := fun m x hx => by
  rw [List.getElem?_take] at hx
  split at hx
  · rw [List.getElem?_drop] at hx
    have := h (o + m) x hx
    rwa [← Nat.add_assoc] at this
  · cases hx

theorem addr_add (g b j : Nat) : (⟨g, b, none⟩ : Addr).add j = ⟨g, b + j, none⟩ := by
  unfold Addr.add; split
  · rename_i h; subst h; rfl
  · rfl

theorem pick_sound {l : List AV} {g b off : Nat} {t : TypeId} {x : AV} (h : Stand E w l g b) (hp : pick P t l off = some x) : ∃ y, (loadVar t ⟨g, b + off, none⟩).run P w = .ok y w ∧ VR E w x y := by
  unfold pick at hp
  split at hp
  · rename_i ha
    obtain ⟨n, hn, hp⟩ := Option.bind_eq_some_iff.1 hp
    split at hp
    · rename_i hle
      cases hp
      obtain ⟨ys, hy, hc⟩ := (h.drop off n).list
      have hlen : ys.length = n := by rw [← hy.1]; simp; omega
      refine ⟨.agg ys.toArray, ?_, VR.agg hy⟩
      have hr := run_loadCells_list (P := P) (w := w) ⟨g, b + off, none⟩ ys (fun j v hv => by rw [addr_add]; exact hc j v hv)
      rw [hlen] at hr
      simp [loadVar, aggOf_some ha, run_sizeOf hn, hr]
    · cases hp
  · rename_i ha
    obtain ⟨z, hz, hr⟩ := h off x hp
    refine ⟨z, ?_, hr⟩
    simp [loadVar, aggOf_some ha, load, Sem.run, hz]
  · cases hp

theorem cellsAt_some {o : Nat} {p : List AV × TypeId} (h : S.cellsAt o = some p) : S.objs[o]? = some (.cells p.1 p.2) := by
  unfold AS.cellsAt at h
  split at h
  · rename_i l T hl; cases h; exact hl
  · cases h
theorem mapAt_some {o : Nat} {p : List AEnt × Nat} (h : S.mapAt o = some p) : S.objs[o]? = some (.map p.1 p.2) := by
  unfold AS.mapAt at h
  split at h
  · rename_i l T hl; cases h; exact hl
  · cases h

theorem OR.stand {o g : Nat} {l : List AV} {T : TypeId} (h : OR E w o g (.cells l T)) : Stand E w l g 0 := by
  obtain ⟨arr, h1, _, h3, h4⟩ := h
  intro m x hx
  have hlt : m < l.length := (List.getElem?_eq_some_iff.1 hx).1
  refine ⟨arr[m]'(by omega), ?_, h4 m x _ hx (by simp [show m < arr.size by omega])⟩
  rw [Nat.zero_add, cell_of_row w g m arr T _ h1]
  simp [show m < arr.size by omega]

theorem Row.stand {l : List AV} {g b : Nat} (h : Row E w (VR E w) l g b) : Stand E w l g b := fun m x hx => (h m x hx).2

theorem load_sound (h : SR B0 w0 E S w) {t : TypeId} {a x : AV} {a' : Value} (ha : VR E w a a') (hx : aload P S t a = some x) : ∃ y, (Instr.loadAt t a').run P w = .ok y w ∧ VR E w x y := by
  cases a with
  | ptr o off =>
    obtain ⟨g, hj, rfl⟩ := ha.ptr_inv
    obtain ⟨p, hp, hx⟩ := Option.bind_eq_some_iff.1 hx
    have hs := (h.obj o _ g (cellsAt_some hp) hj).stand
    have := pick_sound (P := P) hs hx
    simpa [Instr.loadAt, Instr.sureAddr] using this
  | eptr row off =>
    obtain ⟨g, b, rfl, hr⟩ := ha.eptr_inv
    have := pick_sound (P := P) hr.stand hx
    simpa [Instr.loadAt, Instr.sureAddr] using this
  | _ => cases hx

/-- The cells of a value. -/
theorem VR.cells {x : AV} {y : Value} (h : VR E w x y) (hj : x ≠ .junk) : Pair (VR E w) x.cells y.cells.toList := by
  have one : ∀ {x : AV} {y : Value}, VR E w x y → x.cells = [x] → y.cells = #[y] → Pair (VR E w) x.cells y.cells.toList := fun {x y} h h1 h2 => by
    rw [h1, h2]
    refine ⟨rfl, fun i a b ha hb => ?_⟩
    cases i with
    | zero => simp at ha hb; subst ha; subst hb; exact h
    | succ i => simp at ha
  cases x with
  | junk => exact absurd rfl hj
  | v x => obtain ⟨hf, rfl⟩ := h.flat_inv; exact one h rfl (by cases y <;> first | rfl | simp [flat] at hf)
  | ptr o off => obtain ⟨g, _, rfl⟩ := h.ptr_inv; exact one h rfl rfl
  | eptr row off => obtain ⟨g, b, rfl, _⟩ := h.eptr_inv; exact one h rfl rfl
  | lst c rows =>
    rcases h.lst_inv with ⟨_, _, rfl, _⟩ | ⟨g, b, cap, sz, rfl, _⟩
    · exact one h rfl rfl
    · exact one h rfl rfl
  | slc o sz off len cap => obtain ⟨g, c, _, rfl, _⟩ := h.slc_inv; exact one h rfl rfl
  | mp o => obtain ⟨g, _, rfl⟩ := h.mp_inv; exact one h rfl rfl
  | yld o => obtain ⟨g, _, rfl⟩ := h.yld_inv; exact one h rfl rfl
  | fn f l m => obtain ⟨_, _, rfl, _⟩ := h.fn_inv; exact one h rfl rfl
  | ifc t x => obtain ⟨_, rfl, _⟩ := h.ifc_inv; exact one h rfl rfl
  | agg l => obtain ⟨ys, rfl, hp⟩ := h.agg_inv; simpa [AV.cells, Value.cells] using hp
  | tup l => obtain ⟨ys, rfl, hp⟩ := h.tup_inv; exact one h rfl rfl

theorem VR.oneCell {x : AV} {y : Value} (h : VR E w x y) (h1 : x.one = true) : y.oneCell' = true := by
  cases x with
  | junk => simp [AV.one] at h1
  | v x => obtain ⟨hf, rfl⟩ := h.flat_inv; cases y <;> first | rfl | (simp [AV.one] at h1; done) | simp [flat] at hf
  | ptr o off => obtain ⟨g, _, rfl⟩ := h.ptr_inv; rfl
  | eptr row off => obtain ⟨g, b, rfl, _⟩ := h.eptr_inv; rfl
  | lst c rows =>
    rcases h.lst_inv with ⟨_, _, rfl, _⟩ | ⟨g, b, cap, sz, rfl, _⟩
    · rfl
    · rfl
  | slc o sz off len cap => obtain ⟨g, c, _, rfl, _⟩ := h.slc_inv; rfl
  | mp o => obtain ⟨g, _, rfl⟩ := h.mp_inv; rfl
  | yld o => obtain ⟨g, _, rfl⟩ := h.yld_inv; rfl
  | fn f l m => obtain ⟨_, _, rfl, _⟩ := h.fn_inv; rfl
  | ifc t x => obtain ⟨_, rfl, _⟩ := h.ifc_inv; rfl
  | agg l => simp [AV.one] at h1
  | tup l => simp [AV.one] at h1

theorem Pair.oneCell {l : List AV} {ys : List Value} (h : Pair (VR E w) l ys) (h1 : l.all AV.one = true) : ∀ v ∈ ys, v.oneCell' = true := by
  intro v hv
  obtain ⟨i, hi, rfl⟩ := List.getElem_of_mem hv
  have hlt : i < l.length := by rw [h.1]; exact hi
  refine (h.2 i l[i] ys[i] (by simp [hlt]) (by simp [hi])).oneCell ?_
  exact List.all_eq_true.1 h1 _ (List.getElem_mem _)

theorem splice_length {l xs : List AV} {off : Nat} (h : off + xs.length ≤ l.length) : (splice l off xs).length = l.length := by simp [splice]; omega

theorem splice_get {l xs : List AV} {off i : Nat} (h : off + xs.length ≤ l.length) : (splice l off xs)[i]? = if off ≤ i ∧ i < off + xs.length then xs[i - off]? else l[i]? := by
  unfold splice
  rw [List.append_assoc, List.getElem?_append, List.length_take, Nat.min_eq_left (by omega)]
  split
  · rw [List.getElem?_take, if_pos (by assumption), if_neg (by omega)]
  · rw [List.getElem?_append]
    split
    · rw [if_pos (by omega)]
    · rw [List.getElem?_drop, if_neg (by omega)]; congr 1; omega

theorem store_sound (h : SR B0 w0 E S w) {t : TypeId} {a x : AV} {a' y : Value} {S' : AS} (ha : VR E w a a') (hy : VR E w x y) (hx : astore P S t x a = some S') :
    ∃ w', (Instr.storeAt t a' y).run P w = .ok () w' ∧ SR B0 w0 E S' w' ∧ Step S.objs.length S.ends.length E w E w' := by
  cases a with
  | ptr o off =>
    obtain ⟨g, hj, rfl⟩ := ha.ptr_inv
    obtain ⟨p, hp, hx⟩ := Option.bind_eq_some_iff.1 hx
    split at hx
    · rename_i hc
      cases hx
      simp only [Bool.and_eq_true, beq_iff_eq, decide_eq_true_eq] at hc
      obtain ⟨⟨hone, hsz⟩, hfit⟩ := hc
      have hnj : x ≠ .junk := fun e => by subst e; simp [AV.cells, AV.one] at hone
      have hcs := hy.cells hnj
      obtain ⟨arr, hg, hcp, hle, hvr⟩ := h.obj o _ g (cellsAt_some hp) hj
      have hylen : y.cells.toList.length = x.cells.length := hcs.1.symm
      have hst := run_storeCells_at P g off p.2 y.cells.toList 0 arr w hg (by rw [hylen]; omega) (hcs.oneCell hone)
      simp only [Nat.add_zero] at hst
      have hrun : (Instr.storeAt t (.pointer (some ⟨g, off, none⟩)) y).run P w = .ok () (w.setRow g (arr.toList.take off ++ y.cells.toList ++ arr.toList.drop (off + y.cells.toList.length)).toArray) := by
        have hs' : y.cells.size = x.cells.length := by rw [← Array.length_toList]; exact hylen
        simp [Instr.storeAt, Instr.sureAddr, storeVar, run_sizeOf hsz, hs', hst]
      refine ⟨_, hrun, ?_⟩
      have hgb : w.grownBy (w.setRow g (arr.toList.take off ++ y.cells.toList ++ arr.toList.drop (off + y.cells.toList.length)).toArray) (some g) :=
        ⟨rfl, rfl, rfl, by simp, fun k _ hk => setRow_other w g k _ (fun e => hk (by rw [e]))⟩
      have hlive : S.live o := by unfold AS.live; rw [cellsAt_some hp]; simp
      have hrow : ∀ g', some g = some g' → (∀ k, ¬ E.fz g' k) ∧ ∀ t, 0 < E.en t → (E.tk t).1 ≠ g' := fun g' e => by cases e; exact ⟨(h.jb o g hj).2.2, fun t ht => h.jblock ht hj⟩
      have hext := h.ext_of (some g) hgb hrow
      refine h.setObj hj hlive hgb _ ⟨_, setRow_heap w g arr _ p.2 _ hg, ?_, ?_, ?_⟩
      · simp only [List.size_toArray, List.length_append, List.length_take, List.length_drop, Array.length_toList, hylen]; omega
      · rw [splice_length hfit]; simp only [List.size_toArray, List.length_append, List.length_take, List.length_drop, Array.length_toList, hylen]; omega
      · intro i a b ha' hb'
        rw [splice_get hfit] at ha'
        refine VR.ext hext ?_
        simp only [List.getElem?_toArray] at hb'
        rw [List.append_assoc, List.getElem?_append, List.length_take, Array.length_toList, Nat.min_eq_left (by omega)] at hb'
        split at hb'
        · rename_i hlt
          rw [if_neg (by omega)] at ha'
          rw [List.getElem?_take, if_pos hlt] at hb'
          exact hvr i a b ha' (by simpa using hb')
        · rename_i hge
          rw [List.getElem?_append] at hb'
          split at hb'
          · rename_i hlt
            rw [if_pos (by omega)] at ha'
            exact hcs.2 (i - off) a b ha' hb'
          · rename_i hge2
            rw [if_neg (by omega)] at ha'
            rw [List.getElem?_drop] at hb'
            have e : off + y.cells.toList.length + (i - off - y.cells.toList.length) = i := by omega
            rw [e] at hb'
            exact hvr i a b ha' (by simpa using hb')
    · cases hx
  | _ => cases hx

end Go.AM
