/- The abstract machine, fourteenth text: the builtins. -/
import Derived.Test.YtlfobfhklmndkaaGreatDoorA12
import Derived.Lib.AppendZeros
namespace Go.AM
open Go.RowKit Go.MapKept

variable {B0 : Nat} {w0 w : World} {E : Env} {S S' : AS} {P : Program}

theorem len_sound (h : SR B0 w0 E S w) {ts : Array TypeId} {t ty : TypeId} (ht : ts[0]? = some t) {x r : AV} {x' : Value} (hx : VR E w x x') (hr : alen P S t x = some r) : ∃ y, (Builtin.len_ ts ty #[x']).run P w = .ok y w ∧ VR E w r y := by
  unfold alen at hr
  split at hr
  · rename_i hu
    split at hr
    · cases hr; obtain ⟨_, rfl⟩ := hx.flat_inv; exact ⟨_, by simp [Builtin.len_, ht, run_underlying hu, goInt], VR.of_flat rfl⟩
    · cases hr
  · rename_i n e hu
    cases hr
    exact ⟨_, by simp [Builtin.len_, ht, run_underlying hu, goInt], VR.of_flat rfl⟩
  · rename_i e hu
    split at hr
    · cases hr; obtain ⟨_, rfl⟩ := hx.flat_inv; exact ⟨_, by simp [Builtin.len_, ht, run_underlying hu, goInt], VR.of_flat rfl⟩
    · cases hr; rcases hx.lst_inv with ⟨rfl, ad, rfl, _⟩ | ⟨g, b, cap, sz, rfl, _⟩ <;> exact ⟨_, by simp [Builtin.len_, ht, run_underlying hu, goInt], VR.of_flat rfl⟩
    · cases hr; obtain ⟨g, c, _, rfl, _⟩ := hx.slc_inv; exact ⟨_, by simp [Builtin.len_, ht, run_underlying hu, goInt], VR.of_flat rfl⟩
    · cases hr
  · rename_i k e hu
    split at hr
    · cases hr; obtain ⟨_, rfl⟩ := hx.flat_inv; exact ⟨_, by simp [Builtin.len_, ht, run_underlying hu, goInt], VR.of_flat rfl⟩
    · rename_i o
      obtain ⟨p, hp, rfl⟩ := Option.map_eq_some_iff.1 hr
      obtain ⟨g, hj, rfl⟩ := hx.mp_inv
      obtain ⟨ces, hg, hl, _⟩ := h.obj o _ g (mapAt_some hp) hj
      refine ⟨.int .i64 ces.size, by simp [Builtin.len_, ht, run_underlying hu, MapKept.run_getObj_map hg, goInt], ?_⟩
      rw [hl]; exact VR.of_flat rfl
    · cases hr
  · cases hr

theorem copy_sound (h : SR B0 w0 E S w) {ts : Array TypeId} {t ty : TypeId} (ht : ts[0]? = some t) {d x r : AV} {d' x' : Value} (hd : VR E w d d') (hx : VR E w x x') (hr : acopy P S t d x = some (r, S')) :
    ∃ y w', (Builtin.copy_ ts ty #[d', x']).run P w = .ok y w' ∧ SR B0 w0 E S' w' ∧ Step S.objs.length S.ends.length E w E w' ∧ VR E w' r y := by
  unfold acopy at hr
  obtain ⟨p, hp, hr1⟩ := Option.bind_eq_some_iff.1 hr; clear hr
  obtain ⟨rows, hrows, hr2⟩ := Option.bind_eq_some_iff.1 hr1; clear hr1
  obtain ⟨hu, hsz, hpos⟩ := isRow_some hp
  have hrow := rowsOf_sound h hpos hx hrows
  split at hr2
  · cases hr2
    obtain ⟨_, rfl⟩ := hd.flat_inv
    refine ⟨.int .i64 0, w, ?_, h, Step.refl _ _ _ _, VR.of_flat rfl⟩
    rcases hrow with ⟨_, ae, rfl⟩ | ⟨g, b, c, rfl, _⟩
    · cases ae <;> simp [Builtin.copy_, ht, run_underlying hu, Builtin.lenOf, run_sizeOf hsz, Builtin.firstCells, loadCells, loadCellsFrom, goInt]
    · simp [Builtin.copy_, ht, run_underlying hu, Builtin.lenOf, run_sizeOf hsz, Builtin.firstCells, loadCells, loadCellsFrom, goInt]
  · cases hr2
    rcases hd.lst_inv with ⟨_, ad, rfl, _⟩ | ⟨g1, b1, cap1, sz1, rfl, _⟩
    · refine ⟨.int .i64 0, w, ?_, h, Step.refl _ _ _ _, VR.of_flat rfl⟩
      rcases hrow with ⟨_, ae, rfl⟩ | ⟨g, b, c, rfl, _⟩
      · cases ae <;> cases ad <;> simp [Builtin.copy_, ht, run_underlying hu, Builtin.lenOf, run_sizeOf hsz, Builtin.firstCells, loadCells, loadCellsFrom, storeCells, goInt]
      · cases ad <;> simp [Builtin.copy_, ht, run_underlying hu, Builtin.lenOf, run_sizeOf hsz, Builtin.firstCells, loadCells, loadCellsFrom, storeCells, goInt]
    · refine ⟨.int .i64 0, w, ?_, h, Step.refl _ _ _ _, VR.of_flat rfl⟩
      rcases hrow with ⟨_, ae, rfl⟩ | ⟨g, b, c, rfl, _⟩
      · cases ae <;> simp [Builtin.copy_, ht, run_underlying hu, Builtin.lenOf, run_sizeOf hsz, Builtin.firstCells, loadCells, loadCellsFrom, storeCells, goInt]
      · simp [Builtin.copy_, ht, run_underlying hu, Builtin.lenOf, run_sizeOf hsz, Builtin.firstCells, loadCells, loadCellsFrom, storeCells, goInt]
  · rename_i o sz off len cap
    split at hr2
    · rename_i hsz'
      subst hsz'
      obtain ⟨q, hq, hr3⟩ := Option.bind_eq_some_iff.1 hr2; clear hr2
      split at hr3
      · rename_i hfit0
        cases hr3
        obtain ⟨g, c, hj, rfl, q1, q2, q3, q4, q5⟩ := hd.slc_inv
        obtain ⟨arr, hg, hcp, hle, hvr⟩ := h.obj o _ g (cellsAt_some hq) hj
        have hlive : S.live o := by unfold AS.live; rw [cellsAt_some hq]; simp
        have hrow' : ∀ g', some g = some g' → (∀ k, ¬ E.fz g' k) ∧ ∀ t, 0 < E.en t → (E.tk t).1 ≠ g' := fun g' e => by cases e; exact ⟨(h.jb o g hj).2.2, fun t ht => h.jblock ht hj⟩
        -- what is written
        obtain ⟨news, hnl, hrun0, hpair, hone⟩ : ∃ news : List Value, news.length = min rows.length len * p.2 ∧ (∀ (w1 : World) (st : Sem Unit), True) ∧ Pair (VR E w) (rows.take (min rows.length len)).flatten news ∧ (∀ u ∈ news, u.oneCell' = true) ∧
            (Builtin.lenOf x').run P w = .ok rows.length w ∧ (Builtin.firstCells p.2 (min rows.length len) x').run P w = .ok news.toArray w := by
          rcases hrow with ⟨rfl, ae, rfl⟩ | ⟨g', b', c', rfl, hlc, hst, hrl, hone⟩
          · exact ⟨[], by simp, fun _ _ => trivial, by simpa using Pair.nil, by simp, by simp [Builtin.lenOf], by cases ae <;> simp [Builtin.firstCells, loadCells, loadCellsFrom]⟩
          · have hst' : Stand E w (rows.take (min rows.length len)).flatten g' b' := by
              rw [flat_take rows p.2 hrl]
              have := hst.drop 0 (min rows.length len * p.2)
              simpa using this
            obtain ⟨ys, y1, y2⟩ := hst'.list
            have hyl : ys.length = min rows.length len * p.2 := by
              rw [← y1.1, flat_len _ p.2 (fun r hr => hrl r (List.mem_of_mem_take hr)), List.length_take, Nat.min_eq_left (Nat.min_le_left _ _)]
            refine ⟨ys, hyl, fun _ _ => trivial, y1, y1.oneCell ?_, by simp [Builtin.lenOf], ?_⟩
            · rw [flat_take rows p.2 hrl]
              exact List.all_eq_true.2 fun a ha => List.all_eq_true.1 hone a (List.mem_of_mem_take ha)
            · exact run_firstCells_some (P := P) w p.2 _ ⟨g', b', none⟩ rows.length c' ys hyl (fun j v hv => by rw [addr_add]; exact y2 j v hv)
        obtain ⟨hone, hlen, hfc⟩ := hone
        have hfl : (rows.take (min rows.length len)).flatten.length = min rows.length len * p.2 := by rw [hpair.1, hnl]
        have hst := run_storeCells_at P g off q.2 news 0 arr w hg (by omega) hone
        simp only [Nat.add_zero] at hst
        have hrun : (Builtin.copy_ ts ty #[.slice (some ⟨g, off, none⟩) len c, x']).run P w = .ok (goInt (min rows.length len : Nat)) (w.setRow g (arr.toList.take off ++ news ++ arr.toList.drop (off + news.length)).toArray) := by
          have hmin : Nat.min rows.length len = min rows.length len := rfl
          simp [Builtin.copy_, ht, run_underlying hu, hlen, run_sizeOf hsz, hmin, hfc, hst]
        refine ⟨_, _, hrun, ?_⟩
        have hgb : w.grownBy (w.setRow g (arr.toList.take off ++ news ++ arr.toList.drop (off + news.length)).toArray) (some g) := ⟨rfl, rfl, rfl, by simp, fun k _ hk => setRow_other w g k _ (fun e => hk (by rw [e]))⟩
        have hext := h.ext_of (some g) hgb hrow'
        have hget := setRow_get (cur := arr) (b := off) (news := news) (by omega)
        have hs1 := setRow_sz (cur := arr) (b := off) (news := news) (by omega)
        have hfit : off + (rows.take (min rows.length len)).flatten.length ≤ q.1.length := by omega
        obtain ⟨k1, k2⟩ := h.setObj hj hlive hgb (.cells (splice q.1 off (rows.take (min rows.length len)).flatten) q.2) ⟨_, setRow_heap w g arr _ q.2 _ hg, by omega, by rw [splice_length hfit]; omega, fun i x y hx hy => by
          rw [splice_get hfit, hfl] at hx
          rw [hget i, hnl] at hy
          refine VR.ext hext ?_
          split at hx
          · rename_i hin; rw [if_pos hin] at hy; exact hpair.2 _ x y hx hy
          · rename_i hin; rw [if_neg hin] at hy; exact hvr i x y hx hy⟩
        exact ⟨k1, k2, VR.of_flat rfl⟩
      · cases hr3
    · cases hr2
  · cases hr2

theorem clear_sound (h : SR B0 w0 E S w) {ts : Array TypeId} {t ty : TypeId} (ht : ts[0]? = some t) {x : AV} {x' : Value} (hx : VR E w x x') (hr : aclear P S t x = some S') :
    ∃ w', (Builtin.clear_ ts ty #[x']).run P w = .ok (.tuple #[]) w' ∧ SR B0 w0 E S' w' ∧ Step S.objs.length S.ends.length E w E w' := by
  unfold aclear at hr
  obtain ⟨p, hp, hr1⟩ := Option.bind_eq_some_iff.1 hr; clear hr
  obtain ⟨z, hz, hr2⟩ := Option.bind_eq_some_iff.1 hr1; clear hr1
  obtain ⟨hu, hsz, hpos⟩ := isRow_some hp
  split at hr2
  · cases hr2
    refine ⟨w, ?_, h, Step.refl _ _ _ _⟩
    rcases hx.lst_inv with ⟨_, ad, rfl, _⟩ | ⟨g1, b1, cap1, sz1, rfl, _⟩
    · cases ad <;> simp [Builtin.clear_, ht, run_underlying hu]
    · simp [Builtin.clear_, ht, run_underlying hu]
  · cases hr2
    obtain ⟨_, rfl⟩ := hx.flat_inv
    exact ⟨w, by simp [Builtin.clear_, ht, run_underlying hu], h, Step.refl _ _ _ _⟩
  · rename_i o sz off len cap
    obtain ⟨g, c, hj, rfl, q1, q2, q3, q4, q5⟩ := hx.slc_inv
    split at hr2
    · rename_i hc
      obtain ⟨rfl, hzl, hzo, hlen⟩ := hc
      obtain ⟨q, hq, hr3⟩ := Option.bind_eq_some_iff.1 hr2; clear hr2
      split at hr3
      · rename_i hfit0
        cases hr3
        obtain ⟨i, zv, hi, hzv, hf, rfl⟩ := azero_some hz
        have hzs : zv.cells.size = p.2 := by simpa using hzl
        obtain ⟨arr, hg, hcp, hle, hvr⟩ := h.obj o _ g (cellsAt_some hq) hj
        have hlive : S.live o := by unfold AS.live; rw [cellsAt_some hq]; simp
        have hrow' : ∀ g', some g = some g' → (∀ k, ¬ E.fz g' k) ∧ ∀ t, 0 < E.en t → (E.tk t).1 ≠ g' := fun g' e => by cases e; exact ⟨(h.jb o g hj).2.2, fun t ht => h.jblock ht hj⟩
        obtain ⟨news, hnews⟩ : ∃ news, (Builtin.zeroCells zv.cells len).toList = news := ⟨_, rfl⟩
        have hnl : news.length = len * p.2 := by rw [← hnews]; simp [size_zeroCells, hzs]
        have hone : ∀ u ∈ news, u.oneCell' = true := fun u hu => by
          rw [← hnews] at hu
          simp only [Builtin.zeroCells, Array.toList_map, List.mem_map] at hu
          obtain ⟨k, _, rfl⟩ := hu
          have hm : k % zv.cells.size < zv.cells.size := Nat.mod_lt _ (by omega)
          rw [getElem!_pos zv.cells _ hm]
          have h1 := List.all_eq_true.1 hf (zv.cells[k % zv.cells.size]) (by simp)
          have h2 := List.all_eq_true.1 hzo (.v (zv.cells[k % zv.cells.size])) (List.mem_map.2 ⟨_, by simp, rfl⟩)
          exact (VR.of_flat (E := E) (w := w) h1).oneCell h2
        have hst := run_storeCells_at P g off q.2 news 0 arr w hg (by omega) hone
        simp only [Nat.add_zero] at hst
        obtain ⟨m, rfl⟩ : ∃ m, len = m + 1 := ⟨len - 1, by omega⟩
        have hrun : (Builtin.clear_ ts ty #[.slice (some ⟨g, off, none⟩) (m + 1) c]).run P w = .ok (.tuple #[]) (w.setRow g (arr.toList.take off ++ news ++ arr.toList.drop (off + news.length)).toArray) := by
          simp [Builtin.clear_, ht, run_underlying hu, run_zero hi hzv, hnews, hst]
        refine ⟨_, hrun, ?_⟩
        have hgb : w.grownBy (w.setRow g (arr.toList.take off ++ news ++ arr.toList.drop (off + news.length)).toArray) (some g) := ⟨rfl, rfl, rfl, by simp, fun k _ hk => setRow_other w g k _ (fun e => hk (by rw [e]))⟩
        have hext := h.ext_of (some g) hgb hrow'
        have hget := setRow_get (cur := arr) (b := off) (news := news) (by omega)
        have hs1 := setRow_sz (cur := arr) (b := off) (news := news) (by omega)
        have hfl : (List.replicate ((m + 1) * p.2) AV.junk).length = (m + 1) * p.2 := by simp
        have hfit : off + (List.replicate ((m + 1) * p.2) AV.junk).length ≤ q.1.length := by omega
        exact h.setObj hj hlive hgb (.cells (splice q.1 off (List.replicate ((m + 1) * p.2) .junk)) q.2) ⟨_, setRow_heap w g arr _ q.2 _ hg, by omega, by rw [splice_length hfit]; omega, fun i x y hx hy => by
          rw [splice_get hfit, hfl] at hx
          rw [hget i, hnl] at hy
          refine VR.ext hext ?_
          split at hx
          · rename_i hin
            have : x = .junk := by
              have := List.getElem?_replicate (n := (m + 1) * p.2) (a := AV.junk) (i := i - off)
              rw [this] at hx
              split at hx
              · exact (Option.some.inj hx).symm
              · cases hx
            subst this
            exact ⟨1, trivial⟩
          · rename_i hin; rw [if_neg hin] at hy; exact hvr i x y hx hy⟩
      · cases hr3
    · split at hr2
      · rename_i h0
        cases hr2
        subst h0
        exact ⟨w, by simp [Builtin.clear_, ht, run_underlying hu], h, Step.refl _ _ _ _⟩
      · cases hr2
  · cases hr2

theorem flatsV_some : ∀ {l : List AV} {vs ys : List Value}, flatsV l = some vs → Pair (VR E w) l ys → ys = vs
  | [], vs, ys, h, hp => by simp [flatsV] at h; subst h; exact List.eq_nil_of_length_eq_zero hp.1.symm
  | x :: l, vs, ys, h, hp => by
    cases x with
    | v a =>
      simp only [flatsV] at h
      obtain ⟨r, hr, rfl⟩ := Option.map_eq_some_iff.1 h
      cases ys with
      | nil => have := hp.1; simp at this
      | cons y ys =>
        have h0 := hp.2 0 (.v a) y rfl rfl
        obtain ⟨_, rfl⟩ := h0.flat_inv
        rw [flatsV_some hr (ys := ys) ⟨by have := hp.1; simpa using this, fun i x y hx hy => hp.2 (i + 1) x y (by simpa using hx) (by simpa using hy)⟩]
    | _ => simp [flatsV] at h

theorem pair_one {x : AV} {ys : List Value} (h : Pair (VR E w) [x] ys) : ∃ y, ys = [y] ∧ VR E w x y := by
  match ys, h with
  | [y], h => exact ⟨y, rfl, h.2 0 x y rfl rfl⟩
  | [], h => exact absurd h.1 (by simp)
  | _ :: _ :: _, h => exact absurd h.1 (by simp)
theorem pair_two {x x2 : AV} {ys : List Value} (h : Pair (VR E w) [x, x2] ys) : ∃ y y2, ys = [y, y2] ∧ VR E w x y ∧ VR E w x2 y2 := by
  match ys, h with
  | [y, y2], h => exact ⟨y, y2, rfl, h.2 0 x y rfl rfl, h.2 1 x2 y2 rfl rfl⟩
  | [], h => exact absurd h.1 (by simp)
  | [_], h => exact absurd h.1 (by simp)
  | _ :: _ :: _ :: _, h => exact absurd h.1 (by simp)

theorem appendN_sound (h : SR B0 w0 E S w) {mu : Bool} {t tn ty : TypeId} {s x r : AV} {s' x' : Value} (hs : VR E w s s') (hx : VR E w x x') (hr : aappendN P mu S t tn s x = some (r, S')) :
    ∃ y w' E', (Builtin.append_ #[t, tn] ty #[s', x']).run P w = .ok y w' ∧ SR B0 w0 E' S' w' ∧ Step S.objs.length S.ends.length E w E' w' ∧ VR E' w' r y := by
  unfold aappendN at hr
  split at hr
  · rename_i k n kn hun
    obtain ⟨p, hp, hr1⟩ := Option.bind_eq_some_iff.1 hr; clear hr
    obtain ⟨z, hz, hr2⟩ := Option.bind_eq_some_iff.1 hr1; clear hr1
    obtain ⟨i, hi, hr3⟩ := Option.bind_eq_some_iff.1 hr2; clear hr2
    obtain ⟨hu, hsz, hpos⟩ := isRow_some hp
    obtain ⟨i', zv, hi', hzv, hf, rfl⟩ := azero_some hz
    rw [hi] at hi'; cases hi'
    have his : i.size = p.2 := by obtain ⟨i2, hi2, hs2⟩ := szOf_some hsz; rw [hi] at hi2; cases hi2; exact hs2
    split at hr3
    · rename_i hc
      obtain ⟨hzl, rfl, hn, hb, hml⟩ := hc
      cases hr3
      obtain ⟨_, rfl⟩ := hs.flat_inv
      obtain ⟨_, rfl⟩ := hx.flat_inv
      have hzs : zv.cells.size = p.2 := by simpa using hzl
      have hrun := Go.Lib.run_append_nil_zeros (P := P) w t tn ty p.1 i zv k kn hu hun hi hzv n hn (by omega) (by unfold maxLen at hml; omega) (by omega)
      obtain ⟨hd1, hd2⟩ := drew_later h
      generalize hcap : grownCap w n 0 p.1 = cap at hrun
      have hge : n ≤ cap := by rw [← hcap]; exact grownCap_ge w n 0 p.1
      have hle : cap ≤ maxLen := by rw [← hcap]; exact grownCap_le_maxLen w n 0 p.1 hml
      generalize harr : Builtin.zeroCells zv.cells n ++ Builtin.zeroCells zv.cells (cap - n) = arr at hrun
      have hsize : arr.size = cap * p.2 := by
        rw [← harr]; simp only [Array.size_append, size_zeroCells, hzs, ← Nat.add_mul]; congr 1; omega
      have hmul : n * p.2 ≤ cap * p.2 := Nat.mul_le_mul_right _ hge
      have hlen : (zerosA (zv.cells.toList.map .v) n).length = n * p.2 := by simp [zerosA, hzs]
      obtain ⟨E', k1, k2, k3, k4⟩ := hd1.newCells arr p.1 (zerosA (zv.cells.toList.map .v) n) (by omega) (fun j a b ha hb' => by
        have hj : j < n * p.2 := by have := (List.getElem?_eq_some_iff.1 ha).1; omega
        simp only [zerosA, List.length_map, Array.length_toList, hzs, List.getElem?_map] at ha
        rw [List.getElem?_range hj] at ha
        simp only [Option.map_some, Option.some.injEq] at ha
        have hm : j % p.2 < zv.cells.size := by rw [hzs]; exact Nat.mod_lt _ hpos
        rw [← harr, Array.getElem?_append, if_pos (by rw [size_zeroCells, hzs]; exact hj)] at hb'
        simp only [Builtin.zeroCells, hzs, Array.getElem?_map] at hb'
        rw [Array.getElem?_range, if_pos hj] at hb'
        simp only [Option.map_some, Option.some.injEq] at hb'
        rw [getElem!_pos zv.cells _ hm] at hb'
        have ha2 : (zv.cells.toList[j % p.2]?) = some (zv.cells[j % p.2]'hm) := by simp [hm]
        rw [ha2] at ha
        subst ha; subst hb'
        exact VR.of_flat (List.all_eq_true.1 hf _ (by simp)))
      exact ⟨_, _, E', hrun, k1, hd2.trans k2 (Nat.le_refl _) (Nat.le_refl _), 1, _, cap, k3, rfl, Nat.le_refl _, hge, hle, hpos, by rw [k4, hsize]; omega⟩
    · cases hr3
  · cases hr

/-- A builtin's call. -/
theorem builtin_sound (h : SR B0 w0 E S w) {mu : Bool} {b : Builtin} {ts : Array TypeId} {ty : TypeId} {consts : Array Bool} {args : List AV} {ys : List Value} {r : AV} (hp : Pair (VR E w) args ys) (hr : abuiltin P mu S b ts ty args = some (r, S')) :
    Did B0 w0 E w S S' r ((builtin b ts ty consts ys.toArray).run P w) := by
  unfold abuiltin at hr
  split at hr
  · obtain ⟨y, rfl, hx⟩ := pair_one hp
    obtain ⟨t, ht, hr1⟩ := Option.bind_eq_some_iff.1 hr
    obtain ⟨v, hv, he⟩ := Option.map_eq_some_iff.1 hr1
    cases he
    obtain ⟨z, hz, hvz⟩ := len_sound (ty := ty) h ht hx hv
    exact Did.val h (by simp [builtin, hz]) hvz
  · obtain ⟨y, y2, rfl, hx, hx2⟩ := pair_two hp
    obtain ⟨t, ht, hr1⟩ := Option.bind_eq_some_iff.1 hr
    split at hr1
    · rename_i ht1
      obtain ⟨z, w', E', h1, h2, h3, h4⟩ := append_sound (ty := ty) h hx hx2 hr1
      have hts : (Builtin.append_ ts ty #[y, y2]).run P w = (Builtin.append_ #[t, t] ty #[y, y2]).run P w := by
        simp [Builtin.append_, ht, ht1]
      exact ⟨_, w', E', by simp [builtin, hts, h1], h2, h3, .inl ⟨z, rfl, h4⟩⟩
    · obtain ⟨tn, ht1, hr2⟩ := Option.bind_eq_some_iff.1 hr1
      obtain ⟨z, w', E', h1, h2, h3, h4⟩ := appendN_sound (ty := ty) h hx hx2 hr2
      have hts : (Builtin.append_ ts ty #[y, y2]).run P w = (Builtin.append_ #[t, tn] ty #[y, y2]).run P w := by
        simp [Builtin.append_, ht, ht1]
      exact ⟨_, w', E', by simp [builtin, hts, h1], h2, h3, .inl ⟨z, rfl, h4⟩⟩
  · obtain ⟨y, y2, rfl, hx, hx2⟩ := pair_two hp
    obtain ⟨t, ht, hr1⟩ := Option.bind_eq_some_iff.1 hr
    split at hr1
    · obtain ⟨z, w', h1, h2, h3, h4⟩ := copy_sound (ty := ty) h ht hx hx2 hr1
      exact ⟨_, w', E, by simp [builtin, h1], h2, h3, .inl ⟨z, rfl, h4⟩⟩
    · cases hr1
  · obtain ⟨vs, hvs, hr1⟩ := Option.bind_eq_some_iff.1 hr
    obtain ⟨v, hv, he⟩ := Option.map_eq_some_iff.1 hr1
    cases he
    obtain ⟨z, hz, ho⟩ := Option.bind_eq_some_iff.1 hv
    obtain ⟨hf, rfl⟩ := ofV_some ho
    rw [flatsV_some hvs hp]
    exact Did.val h (by simp [builtin, peval_sound _ hz]) (VR.of_flat hf)
  · obtain ⟨vs, hvs, hr1⟩ := Option.bind_eq_some_iff.1 hr
    obtain ⟨v, hv, he⟩ := Option.map_eq_some_iff.1 hr1
    cases he
    obtain ⟨z, hz, ho⟩ := Option.bind_eq_some_iff.1 hv
    obtain ⟨hf, rfl⟩ := ofV_some ho
    rw [flatsV_some hvs hp]
    exact Did.val h (by simp [builtin, peval_sound _ hz]) (VR.of_flat hf)
  · obtain ⟨y, rfl, hx⟩ := pair_one hp
    obtain ⟨t, ht, hr1⟩ := Option.bind_eq_some_iff.1 hr
    obtain ⟨S1, hv, he⟩ := Option.map_eq_some_iff.1 hr1
    cases he
    obtain ⟨w', h1, h2, h3⟩ := clear_sound (ty := ty) h ht hx hv
    exact ⟨_, w', E, by simp [builtin, h1], h2, h3, .inl ⟨_, rfl, VR.of_flat rfl⟩⟩
  · obtain ⟨y, rfl, hx⟩ := pair_one hp
    obtain ⟨t, ht, hr1⟩ := Option.bind_eq_some_iff.1 hr
    split at hr1
    · rename_i hrow
      cases hr1
      obtain ⟨p, hp1⟩ := Option.isSome_iff_exists.1 hrow
      obtain ⟨hu, _, _⟩ := isRow_some hp1
      obtain ⟨_, rfl⟩ := hx.flat_inv
      exact Did.val h (y := .int .i64 0) (by simp [builtin, Builtin.cap_, ht, run_underlying hu, goInt]) (VR.of_flat rfl)
    · cases hr1
  · cases hr

end Go.AM
