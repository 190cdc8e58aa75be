/- The abstract machine, ninth text: the operations' laws: map stores, comparisons, make; one operation. -/
import Derived.Test.YtlfobfhklmndkaaGreatDoorA7
namespace Go.AM
open Go.RowKit Go.MapKept

variable {B0 : Nat} {w0 w : World} {E : Env} {S S' : AS} {P : Program}

theorem EntR.ext {E' : Env} {w' : World} (h : Ext E w E' w') {es : List AEnt} {cs : Array MapEntry} (he : EntR E w es cs) : EntR E' w' es cs :=
  ⟨he.1, fun i e c h1 h2 => let ⟨a, b, d⟩ := he.2 i e c h1 h2; ⟨a.ext h, b.ext h, d⟩⟩

theorem EntR.push {es : List AEnt} {cs : Array MapEntry} (h : EntR E w es cs) {k x : AV} {k' y : Value} (hk : VR E w k k') (hx : VR E w x y) (b : Nat) : EntR E w (es ++ [⟨k, x, b⟩]) (cs.push ⟨k', y, b⟩) := by
  refine ⟨by simp [h.1], fun i e c he hc => ?_⟩
  rw [List.getElem?_append] at he
  rw [Array.getElem?_push] at hc
  by_cases hi : i < es.length
  · rw [if_pos hi] at he
    rw [if_neg (by have := h.1; omega)] at hc
    exact h.2 i e c he hc
  · rw [if_neg hi] at he
    by_cases e1 : i = cs.size
    · rw [if_pos e1] at hc
      cases hc
      have h1 := h.1
      rw [show i - es.length = 0 by omega] at he
      simp at he; subst he
      exact ⟨hk, hx, rfl⟩
    · have h1 := h.1
      rw [List.getElem?_eq_none (by simp; omega)] at he
      cases he

theorem EntR.modify {es : List AEnt} {cs : Array MapEntry} (h : EntR E w es cs) (n : Nat) {f : AEnt → AEnt} {g : MapEntry → MapEntry} (hfg : ∀ e c, es[n]? = some e → cs[n]? = some c → VR E w (f e).key (g c).key ∧ VR E w (f e).val (g c).val ∧ (f e).born = (g c).born) : EntR E w (es.modify n f) (cs.modify n g) := by
  refine ⟨by simp [h.1], fun i e c he hc => ?_⟩
  rw [List.getElem?_modify] at he
  rw [Array.getElem?_modify] at hc
  by_cases e1 : n = i
  · subst e1
    cases hes : es[n]? with
    | none => simp [hes] at he
    | some e0 =>
      cases hcs : cs[n]? with
      | none => simp [hcs] at hc
      | some c0 =>
        simp [hes] at he; simp [hcs] at hc
        subst he; subst hc
        exact hfg e0 c0 hes hcs
  · simp [e1] at he hc
    exact h.2 i e c he hc

theorem grownBy_setObj {g : Nat} {o o' : Obj} (_hb : w.heap[g]? = some o) : w.grownBy { w with heap := w.heap.setIfInBounds g o' } (some g) :=
  ⟨rfl, rfl, rfl, by simp, fun k _ hk => by
    have : g ≠ k := fun e => hk (by rw [e])
    simp [this]⟩

theorem sameNow_key {d : TypeDesc} {a b : Value} (h : IsKey d a) (hs : Instr.sameNow d a b = some true) : IsKey d b := by
  cases d <;> cases a <;> cases b <;> simp_all [IsKey, Instr.sameNow]

theorem mapUpdate_sound (h : SR B0 w0 E S w) {t : TypeId} {m k x : AV} {m' k' y : Value} (hm : VR E w m m') (hk : VR E w k k') (hy : VR E w x y) (hx : amapUpdate P S t m k x = some S') :
    ∃ w', (Instr.mapUpdate t m' k' y).run P w = .ok () w' ∧ SR B0 w0 E S' w' ∧ Step S.objs.length S.ends.length E w E w' := by
  unfold amapUpdate at hx
  split at hx
  · rename_i kt e o hu
    obtain ⟨d, hd, hx1⟩ := Option.bind_eq_some_iff.1 hx; clear hx
    split at hx1
    · rename_i hkb
      obtain ⟨a, rfl, hik⟩ := key_some hkb
      obtain ⟨p, hp, hx2⟩ := Option.bind_eq_some_iff.1 hx1; clear hx1
      obtain ⟨r, hr, hx3⟩ := Option.bind_eq_some_iff.1 hx2; clear hx2
      obtain ⟨_, rfl⟩ := hk.flat_inv
      obtain ⟨g, hj, rfl⟩ := hm.mp_inv
      obtain ⟨ces, hg, hent⟩ := h.obj o _ g (mapAt_some hp) hj
      have hlive : S.live o := by unfold AS.live; rw [mapAt_some hp]; simp
      have hrow : ∀ g', some g = some g' → (∀ k, ¬ E.fz g' k) ∧ ∀ t, 0 < E.en t → (E.tk t).1 ≠ g' := fun g' e => by cases e; exact ⟨(h.jb o g hj).2.2, fun t ht => h.jblock ht hj⟩
      obtain ⟨r', hf, hrr⟩ := find_sound hk p.1 ces.toList 0 r (by simpa using hent.1) (fun i e c he hc => hent.2 i e c he (by simpa using hc)) hr
      have hck := fun b => run_checkKey (P := P) (w := w) hd hik b 9999
      have hfk := run_findKey (P := P) (w := w) hd hf
      split at hx3
      · rename_i n v
        cases hx3
        cases r' with
        | none => exact hrr.elim
        | some q =>
          obtain ⟨n', y0⟩ := q
          obtain ⟨e1, _, _, e0, c0, he0, hc0, hsame⟩ := hrr
          subst e1
          simp only [Nat.sub_zero] at he0 hc0
          have hkey : c0.key = k' := by
            obtain ⟨hk1, _, _⟩ := hent.2 n e0 c0 he0 (by simpa using hc0)
            have hik0 : IsKey d c0.key := sameNow_key hik hsame
            obtain ⟨rb, h1, h2⟩ := sameNow_of_keys hik hik0
            rw [hsame] at h1
            cases h1
            exact (h2.1 rfl).symm
          have hrun : (Instr.mapUpdate t (.map (some g)) k' y).run P w = .ok () { w with heap := w.heap.setIfInBounds g (.map (ces.modify n fun e => { e with key := k', val := y }) p.2) } := by
            have hc0' : ces[n]? = some c0 := by simpa using hc0
            simp [Instr.mapUpdate, run_underlying hu, MapKept.run_getObj_map hg, hck, hfk, hc0', hkey, run_keyThatStays hik, run_setObj_map _ hg]
          refine ⟨_, hrun, ?_⟩
          have hgb := grownBy_setObj (w := w) (o' := .map (ces.modify n fun e => { e with key := k', val := y }) p.2) hg
          have hext := h.ext_of (some g) hgb hrow
          exact h.setObj hj hlive hgb _ ⟨_, (heap_set hg).1, (hent.modify n (f := fun e => { e with key := .v k', val := x }) (g := fun e => { e with key := k', val := y }) (fun e c he hc => ⟨hk, hy, (hent.2 n e c he hc).2.2⟩)).ext hext⟩
      · cases hx3
        cases r' with
        | some q => exact hrr.elim
        | none =>
          have hrun : (Instr.mapUpdate t (.map (some g)) k' y).run P w = .ok () { w with heap := w.heap.setIfInBounds g (.map (ces.push ⟨k', y, p.2⟩) (p.2 + 1)) } := by
            simp [Instr.mapUpdate, run_underlying hu, MapKept.run_getObj_map hg, hck, hfk, run_setObj_map _ hg]
          refine ⟨_, hrun, ?_⟩
          have hgb := grownBy_setObj (w := w) (o' := .map (ces.push ⟨k', y, p.2⟩) (p.2 + 1)) hg
          have hext := h.ext_of (some g) hgb hrow
          exact h.setObj hj hlive hgb _ ⟨_, (heap_set hg).1, (hent.push hk hy p.2).ext hext⟩
    · obtain ⟨p, hp, hx2⟩ := Option.bind_eq_some_iff.1 hx1; clear hx1
      obtain ⟨kv, hkv, hx3⟩ := Option.bind_eq_some_iff.1 hx2; clear hx2
      obtain ⟨_, hck, hx4⟩ := Option.bind_eq_some_iff.1 hx3; clear hx3
      obtain ⟨r, hr, hx5⟩ := Option.bind_eq_some_iff.1 hx4; clear hx4
      obtain ⟨rfl, a, rfl⟩ := keyV_some hkv hk
      obtain ⟨g, hj, rfl⟩ := hm.mp_inv
      obtain ⟨ces, hg, hent⟩ := h.obj o _ g (mapAt_some hp) hj
      have hlive : S.live o := by unfold AS.live; rw [mapAt_some hp]; simp
      have hrow : ∀ g', some g = some g' → (∀ k, ¬ E.fz g' k) ∧ ∀ t, 0 < E.en t → (E.tk t).1 ≠ g' := fun g' e => by cases e; exact ⟨(h.jb o g hj).2.2, fun t ht => h.jblock ht hj⟩
      obtain ⟨r', hf, hrr⟩ := findG_sound (P := P) (kt := kt) (k := .agg a) p.1 ces.toList 0 r (by simpa using hent.1) (fun i e c he hc => hent.2 i e c he (by simpa using hc)) hr
      have hck' : (Instr.checkKey false 10000 kt (.agg a)).run P w = .ok () w := peval_sound _ hck
      have hfk := (run_findKey_agg (P := P) (w := w) hd a ces.toList).trans hf
      split at hx5
      · cases hx5
      · cases hx5
        cases r' with
        | some q => exact hrr.elim
        | none =>
          have hrun : (Instr.mapUpdate t (.map (some g)) (.agg a) y).run P w = .ok () { w with heap := w.heap.setIfInBounds g (.map (ces.push ⟨.agg a, y, p.2⟩) (p.2 + 1)) } := by
            simp [Instr.mapUpdate, run_underlying hu, MapKept.run_getObj_map hg, hck', hfk, run_setObj_map _ hg]
          refine ⟨_, hrun, ?_⟩
          have hgb := grownBy_setObj (w := w) (o' := .map (ces.push ⟨.agg a, y, p.2⟩) (p.2 + 1)) hg
          have hext := h.ext_of (some g) hgb hrow
          exact h.setObj hj hlive hgb _ ⟨_, (heap_set hg).1, (hent.push hk hy p.2).ext hext⟩
  · cases hx

theorem sameAddr_ne {g g' a b : Nat} {c c' : Array Value} {T T' : TypeId} (hg : w.heap[g]? = some (.cells c T (0, 0))) (hg' : w.heap[g']? = some (.cells c' T' (0, 0))) (hne : g ≠ g') :
    (sameAddr ⟨g, a, none⟩ ⟨g', b, none⟩).run P w = .ok false w := by
  have f1 : ∀ x, w.frozen? ⟨g, x, none⟩ = false := fun x => frozen_of_row w g x c T hg
  have f2 : ∀ x, w.frozen? ⟨g', x, none⟩ = false := fun x => frozen_of_row w g' x c' T' hg'
  have s1 : w.shape? g = some (T, c.size) := by simp [World.shape?, hg]
  have s2 : w.shape? g' = some (T', c'.size) := by simp [World.shape?, hg']
  simp [sameAddr, hne, f1, f2, noView, viewAt, s1, s2, mayBeOne, stringish]

theorem nilP_some {x : AV} {y : Value} {b : Bool} (h : nilP x = some b) (hv : VR E w x y) : ∃ a, y = .pointer a ∧ a.isNone = b := by
  unfold nilP at h
  split at h
  · cases h; obtain ⟨_, rfl⟩ := hv.flat_inv; exact ⟨none, rfl, rfl⟩
  · cases h; obtain ⟨g, _, rfl⟩ := hv.ptr_inv; exact ⟨_, rfl, rfl⟩
  · cases h; obtain ⟨g, b, rfl, _⟩ := hv.eptr_inv; exact ⟨_, rfl, rfl⟩
  · cases h
theorem nilS_some {x : AV} {y : Value} {b : Bool} (h : nilS x = some b) (hv : VR E w x y) : ∃ a l c, y = .slice a l c ∧ a.isNone = b := by
  unfold nilS at h
  split at h
  · cases h; obtain ⟨_, rfl⟩ := hv.flat_inv; exact ⟨none, _, _, rfl, rfl⟩
  · cases h
  · rename_i hne
    cases h
    rcases hv.lst_inv with ⟨rfl, ad, rfl, rfl | ⟨rfl, ha⟩⟩ | ⟨g, b, cap, sz, rfl, _⟩
    · exact (hne rfl rfl).elim
    · exact ⟨_, _, _, rfl, by cases ad <;> simp at ha ⊢⟩
    · exact ⟨_, _, _, rfl, rfl⟩
  · cases h; obtain ⟨g, c, _, rfl, _⟩ := hv.slc_inv; exact ⟨_, _, _, rfl, rfl⟩
  · cases h
theorem nilM_some {x : AV} {y : Value} {b : Bool} (h : nilM x = some b) (hv : VR E w x y) : ∃ a, y = .map a ∧ a.isNone = b := by
  unfold nilM at h
  split at h
  · cases h; obtain ⟨_, rfl⟩ := hv.flat_inv; exact ⟨none, rfl, rfl⟩
  · cases h; obtain ⟨g, _, rfl⟩ := hv.mp_inv; exact ⟨_, rfl, rfl⟩
  · cases h
theorem nilF_some {x : AV} {y : Value} {b : Bool} (h : nilF x = some b) (hv : VR E w x y) : (y = .nilFunc ∧ b = true) ∨ ∃ f l m, y = .func f l m ∧ b = false := by
  unfold nilF at h
  split at h
  · cases h; obtain ⟨_, rfl⟩ := hv.flat_inv; exact .inl ⟨rfl, rfl⟩
  · cases h; obtain ⟨_, _, rfl, _⟩ := hv.fn_inv; exact .inr ⟨_, _, _, rfl, rfl⟩
  · cases h; obtain ⟨_, _, rfl⟩ := hv.yld_inv; exact .inr ⟨_, _, _, rfl, rfl⟩
  · cases h

theorem bothNil_some {p q : Option Bool} {b : Bool} (h : bothNil p q = some b) : ∃ x y, p = some x ∧ q = some y ∧ (x || y) = true ∧ b = (x && y) := by
  unfold bothNil at h
  obtain ⟨x, hx, h1⟩ := Option.bind_eq_some_iff.1 h
  obtain ⟨y, hy, h2⟩ := Option.bind_eq_some_iff.1 h1
  split at h2
  · rename_i hc; cases h2; exact ⟨x, y, hx, hy, hc, rfl⟩
  · cases h2

theorem aeq_sound (d : Nat) (h : SR B0 w0 E S w) {t : TypeId} {x y : AV} {x' y' : Value} {b : Bool} (hx : VR E w x x') (hy : VR E w y y') (hb : aeq P S t x y = some b) : (Op.equalIn (d + 1) t x' y').run P w = .ok b w ∧ ¬ (x' = .nilIface ∧ y' = .nilIface) ∧ (∀ cs, x' ≠ .agg cs) ∧ (∀ k n, x' ≠ .int k n) ∧ (∀ k n, x' ≠ .float k n) ∧ (∀ k n m, x' ≠ .complex k n m) ∧ (∀ s, x' ≠ .string s) := by
  unfold aeq at hb
  split at hb
  · rename_i e hu
    have hnil : ∀ {b : Bool}, bothNil (nilP x) (nilP y) = some b → (Op.equalIn (d + 1) t x' y').run P w = .ok b w ∧ ¬ (x' = .nilIface ∧ y' = .nilIface) ∧ (∀ cs, x' ≠ .agg cs) ∧ (∀ k n, x' ≠ .int k n) ∧ (∀ k n, x' ≠ .float k n) ∧ (∀ k n m, x' ≠ .complex k n m) ∧ (∀ s, x' ≠ .string s) := by
      intro b hb
      obtain ⟨p, q, hp, hq, hor, rfl⟩ := bothNil_some hb
      obtain ⟨a, rfl, ha⟩ := nilP_some hp hx
      obtain ⟨a', rfl, ha'⟩ := nilP_some hq hy
      refine ⟨?_, by simp, by simp, by simp, by simp, by simp, by simp⟩
      subst ha; subst ha'
      cases a <;> cases a' <;> first | (exfalso; simp at hor; done) | (simp [Op.equalIn, run_underlying hu]; done)
    split at hb
    · rename_i o a o' b'
      obtain ⟨n, hn, hb1⟩ := Option.bind_eq_some_iff.1 hb
      obtain ⟨g, hj, rfl⟩ := hx.ptr_inv
      obtain ⟨g', hj', rfl⟩ := hy.ptr_inv
      refine ⟨?_, by simp, by simp, by simp, by simp, by simp, by simp⟩
      split at hb1
      · cases hb1
      · rename_i hn0
        split at hb1
        · rename_i e1
          cases hb1
          subst e1
          rw [hj] at hj'; cases hj'
          simp [Op.equalIn, run_underlying hu, run_sizeOf hn, hn0, sameAddr]
          rw [Bool.eq_iff_iff]; simp
        · rename_i e1
          split at hb1
          · rename_i hc
            cases hb1
            simp only [Bool.and_eq_true, Option.isSome_iff_exists] at hc
            obtain ⟨⟨p, hp⟩, ⟨q, hq⟩⟩ := hc
            obtain ⟨c1, hg1, _⟩ := h.obj o _ g (cellsAt_some hp) hj
            obtain ⟨c2, hg2, _⟩ := h.obj o' _ g' (cellsAt_some hq) hj'
            have hne : g ≠ g' := fun e => by
              subst e
              exact e1 (h.inj o o' g hj hj' (by unfold AS.live; rw [cellsAt_some hp]; simp) (by unfold AS.live; rw [cellsAt_some hq]; simp))
            simp [Op.equalIn, run_underlying hu, run_sizeOf hn, hn0, sameAddr_ne hg1 hg2 hne]
          · cases hb1
    · exact hnil hb
  · rename_i e hu
    obtain ⟨p, q, hp, hq, hor, rfl⟩ := bothNil_some hb
    obtain ⟨a, l, c, rfl, ha⟩ := nilS_some hp hx
    obtain ⟨a', l', c', rfl, ha'⟩ := nilS_some hq hy
    refine ⟨?_, by simp, by simp, by simp, by simp, by simp, by simp⟩
    subst ha; subst ha'
    cases a <;> cases a' <;> first | (exfalso; simp at hor; done) | (simp [Op.equalIn, run_underlying hu]; done)
  · rename_i k e hu
    obtain ⟨p, q, hp, hq, hor, rfl⟩ := bothNil_some hb
    obtain ⟨a, rfl, ha⟩ := nilM_some hp hx
    obtain ⟨a', rfl, ha'⟩ := nilM_some hq hy
    refine ⟨?_, by simp, by simp, by simp, by simp, by simp, by simp⟩
    subst ha; subst ha'
    cases a <;> cases a' <;> first | (exfalso; simp at hor; done) | (simp [Op.equalIn, run_underlying hu]; done)
  · rename_i ps rs v hu
    obtain ⟨p, q, hp, hq, hor, rfl⟩ := bothNil_some hb
    rcases nilF_some hp hx with ⟨rfl, rfl⟩ | ⟨f, l, m, rfl, rfl⟩ <;> rcases nilF_some hq hy with ⟨rfl, rfl⟩ | ⟨f', l', m', rfl, rfl⟩
    · exact ⟨by simp [Op.equalIn, run_underlying hu], by simp, by simp, by simp, by simp, by simp, by simp⟩
    · exact ⟨by simp [Op.equalIn, run_underlying hu], by simp, by simp, by simp, by simp, by simp, by simp⟩
    · exact ⟨by simp [Op.equalIn, run_underlying hu], by simp, by simp, by simp, by simp, by simp, by simp⟩
    · simp at hor
  · cases hb

theorem bin_sound (h : SR B0 w0 E S w) {op : BinOp} {t : TypeId} {x y r : AV} {x' y' : Value} {X Y : Operand} (hx : VR E w x x') (hy : VR E w y y') (hr : abin P S op t x y = some r) :
    ∃ z, ((do eqGuard op t X Y x' y'; binOp op t x' y') : Sem Value).run P w = .ok z w ∧ VR E w r z := by
  have hguard : ∀ {x' y' : Value}, ¬ (x' = .nilIface ∧ y' = .nilIface) → (∀ cs, x' ≠ .agg cs) → (eqGuard op t X Y x' y').run P w = .ok () w := by
    intro x' y' h1 h2
    unfold eqGuard
    split
    · simp only [Bool.not_true, Bool.false_eq_true, if_false]
      split
      · exact absurd ⟨rfl, rfl⟩ h1
      · exact absurd rfl (h2 _)
      · rfl
    · simp only [Bool.not_true, Bool.false_eq_true, if_false]
      split
      · exact absurd ⟨rfl, rfl⟩ h1
      · exact absurd rfl (h2 _)
      · rfl
    · rfl
  have hsc : ∀ {a b : Value}, x' = a → y' = b → flat a = true → ¬ (a = .nilIface ∧ b = .nilIface) → (peval P (binOp op t a b)).bind ofV = some r → ∃ z, ((do eqGuard op t X Y x' y'; binOp op t x' y') : Sem Value).run P w = .ok z w ∧ VR E w r z := by
    intro a b e1 e2 hf hn hp
    obtain ⟨z, hz, hp2⟩ := Option.bind_eq_some_iff.1 hp
    obtain ⟨hf2, rfl⟩ := ofV_some hp2
    refine ⟨z, ?_, VR.of_flat hf2⟩
    subst e1; subst e2
    rw [Sem.run_bind, hguard hn (fun cs e => by subst e; simp [flat] at hf), Result.andThen_ok]
    exact peval_sound _ hz
  unfold abin at hr
  split at hr
  · obtain ⟨_, e1⟩ := hx.flat_inv; obtain ⟨_, e2⟩ := hy.flat_inv; exact hsc e1 e2 rfl (by simp) hr
  · obtain ⟨_, e1⟩ := hx.flat_inv; obtain ⟨_, e2⟩ := hy.flat_inv; exact hsc e1 e2 rfl (by simp) hr
  · obtain ⟨_, e1⟩ := hx.flat_inv; obtain ⟨_, e2⟩ := hy.flat_inv; exact hsc e1 e2 rfl (by simp) hr
  · obtain ⟨a, ha, hr1⟩ := Option.bind_eq_some_iff.1 hr
    obtain ⟨b, hb, hr2⟩ := Option.bind_eq_some_iff.1 hr1
    obtain ⟨_, hg, hr3⟩ := Option.bind_eq_some_iff.1 hr2
    obtain ⟨z, hz, ho⟩ := Option.bind_eq_some_iff.1 hr3
    obtain ⟨hf, rfl⟩ := ofV_some ho
    obtain ⟨rfl, ca, rfl⟩ := keyV_some ha hx
    obtain ⟨rfl, cb, rfl⟩ := keyV_some hb hy
    have hg' : (eqGuard op t X Y (.agg ca) (.agg cb)).run P w = .ok () w := by
      unfold eqGuard at hg ⊢
      exact peval_sound _ hg
    exact ⟨z, by rw [Sem.run_bind, hg', Result.andThen_ok]; exact peval_sound _ hz, VR.of_flat hf⟩
  · have hmain : ∀ {b : Bool}, aeq P S t x y = some b → (eqGuard op t X Y x' y').run P w = .ok () w ∧ (binOp .eql t x' y').run P w = .ok (.bool b) w ∧ (binOp .neq t x' y').run P w = .ok (.bool (!b)) w := by
      intro b hb
      obtain ⟨h1', h2, h3, h4, h5, h6, h7⟩ := aeq_sound 9999 h hx hy hb
      have h1 : (Op.equal t x' y').run P w = .ok b w := h1'
      clear h1'
      refine ⟨hguard h2 h3, ?_, ?_⟩
      · cases x' <;> first | exact absurd rfl (h4 _ _) | exact absurd rfl (h5 _ _) | exact absurd rfl (h6 _ _ _) | exact absurd rfl (h7 _) | (simp [binOp, h1])
      · cases x' <;> first | exact absurd rfl (h4 _ _) | exact absurd rfl (h5 _ _) | exact absurd rfl (h6 _ _ _) | exact absurd rfl (h7 _) | (simp [binOp, h1])
    split at hr
    · obtain ⟨b, hb, rfl⟩ := Option.map_eq_some_iff.1 hr
      obtain ⟨h1, h2, _⟩ := hmain hb
      exact ⟨_, by rw [Sem.run_bind, h1, Result.andThen_ok, h2], VR.of_flat rfl⟩
    · obtain ⟨b, hb, rfl⟩ := Option.map_eq_some_iff.1 hr
      obtain ⟨h1, _, h2⟩ := hmain hb
      exact ⟨_, by rw [Sem.run_bind, h1, Result.andThen_ok, h2], VR.of_flat rfl⟩
    · cases hr

end Go.AM
