/- The abstract machine, sixteenth text: what a call leaves behind is dropped. -/
import Derived.Test.YtlfobfhklmndkaaGreatDoorA14
namespace Go.AM
open Go.RowKit Go.MapKept

variable {B0 : Nat} {w0 w w1 : World} {E E1 : Env} {S S1 : AS} {P : Program}

def nenv (E E1 : Env) (n nt : Nat) : Env :=
  { E1 with j := fun o => if o < n then E1.j o else none, en := fun t => if t < nt then E1.en t else 0, tk := fun t => if t < nt then E1.tk t else E.tk t }

theorem VRd.narrow {n nt : Nat} : ∀ {d : Nat} {x : AV} {y : Value}, VRd E1 w1 d x y → x.old n = true → VRd (nenv E E1 n nt) w1 d (x.shut nt) y
  | 0, _, _, h, _ => h.elim
  | d + 1, x, y, h, ho => by
    have hrow : ∀ {l : List AV} {g b : Nat}, Row E1 w1 (VRd E1 w1 d) l g b → belowAll n l = true → Row (nenv E E1 n nt) w1 (VRd (nenv E E1 n nt) w1 d) (sealAll nt l) g b := fun hr hb m x hx => by
      rw [sealAll_get] at hx
      obtain ⟨x0, hx0, rfl⟩ := Option.map_eq_some_iff.1 hx
      obtain ⟨h1, z, h2, h3⟩ := hr m x0 hx0
      exact ⟨h1, z, h2, h3.narrow (belowAll_get hb m x0 hx0)⟩
    have hpair : ∀ {l : List AV} {ys : List Value}, Pair (VRd E1 w1 d) l ys → belowAll n l = true → Pair (VRd (nenv E E1 n nt) w1 d) (sealAll nt l) ys := fun hr hb => ⟨by rw [sealAll_len]; exact hr.1, fun i x y hx hy => by
      rw [sealAll_get] at hx
      obtain ⟨x0, hx0, rfl⟩ := Option.map_eq_some_iff.1 hx
      exact (hr.2 i x0 y hx0 hy).narrow (belowAll_get hb i x0 hx0)⟩
    have hj : ∀ {o g : Nat}, E1.j o = some g → o < n → (nenv E E1 n nt).j o = some g := fun h1 h2 => by simp [nenv, h2, h1]
    cases x with
    | junk => exact h
    | v x => exact h
    | ptr o off => simp only [AV.old, decide_eq_true_eq] at ho; obtain ⟨g, h1, h2⟩ := h; exact ⟨g, hj h1 ho, h2⟩
    | slc o sz off len cap => simp only [AV.old, decide_eq_true_eq] at ho; obtain ⟨g, c, h1, h2⟩ := h; exact ⟨g, c, hj h1 ho, h2⟩
    | mp o => simp only [AV.old, decide_eq_true_eq] at ho; obtain ⟨g, h1, h2⟩ := h; exact ⟨g, hj h1 ho, h2⟩
    | yld o => simp only [AV.old, decide_eq_true_eq] at ho; obtain ⟨g, h1, h2⟩ := h; exact ⟨g, hj h1 ho, h2⟩
    | eptr row off => simp only [AV.old] at ho; obtain ⟨g, b, hy, hr⟩ := h; exact ⟨g, b, hy, hrow hr ho⟩
    | lst c rows =>
      simp only [AV.old] at ho
      rcases h with ⟨rfl, ad, h1, hca⟩ | ⟨g, b, cap, sz, h1, h2, h3, h4, h5, h6, h7⟩
      · refine .inl ⟨rfl, ad, h1, ?_⟩
        rcases hca with rfl | ⟨rfl, ha⟩
        · exact .inl rfl
        · exact .inr ⟨rfl, ha⟩
      refine .inr ⟨g, b, cap, sz, by rw [sealRows_len]; exact h1, by rw [sealRows_len]; exact h2, h3, h4, fun r hr => by obtain ⟨r', h8, h9⟩ := sealRows_mem nt rows r hr; rw [h9]; exact h5 r' h8, by rw [sealRows_flat]; exact hrow h6 (belowRows_flat ho), ?_⟩
      rw [sealRows_len]
      cases c with
      | exact => exact h7
      | unk => trivial
      | any => trivial
      | tok t e s =>
        by_cases ht : t < nt
        · simp only [ht, if_true]
          obtain ⟨k1, k2, k3, k4⟩ := h7
          refine ⟨k1, k2, by simpa [nenv, ht] using k3, fun he => ?_⟩
          simp only [nenv, ht, if_true] at he ⊢
          exact k4 he
        · simp only [ht, if_false]
    | fn f a b => simp only [AV.old, Bool.and_eq_true] at ho; obtain ⟨fs, cs, h1, h2, h3⟩ := h; exact ⟨fs, cs, h1, hpair h2 ho.1, hpair h3 ho.2⟩
    | ifc t x => simp only [AV.old] at ho; obtain ⟨z, h1, h2⟩ := h; exact ⟨z, h1, h2.narrow ho⟩
    | agg l => simp only [AV.old] at ho; obtain ⟨ys, h1, h2⟩ := h; exact ⟨ys, h1, hpair h2 ho⟩
    | tup l => simp only [AV.old] at ho; obtain ⟨ys, h1, h2⟩ := h; exact ⟨ys, h1, hpair h2 ho⟩

theorem VR.narrow {n nt : Nat} {x : AV} {y : Value} (h : VR E1 w1 x y) (ho : x.old n = true) : VR (nenv E E1 n nt) w1 (x.shut nt) y := let ⟨d, hd⟩ := h; ⟨d, hd.narrow ho⟩

/-- What related before the call speaks of old objects alone. -/
theorem VRd.keep {n nt : Nat} (hJ : ∀ o g, E.j o = some g → o < n) (hT : ∀ t, 0 < E.en t → t < nt) : ∀ {d : Nat} {x : AV} {y0 y1 : Value}, VRd E w d x y0 → ∀ {d1 : Nat}, VRd E1 w1 d1 x y1 → VRd (nenv E E1 n nt) w1 d1 x y1
  | 0, _, _, _, h, _, _ => h.elim
  | d + 1, x, y0, y1, h, 0, h1 => h1.elim
  | d + 1, x, y0, y1, h, d1 + 1, h1 => by
    have hrow : ∀ {l : List AV} {g b g1 b1 : Nat}, Row E w (VRd E w d) l g b → Row E1 w1 (VRd E1 w1 d1) l g1 b1 → Row (nenv E E1 n nt) w1 (VRd (nenv E E1 n nt) w1 d1) l g1 b1 := fun hr hr1 m x hx => by
      obtain ⟨_, z, _, h3⟩ := hr m x hx
      obtain ⟨k1, z1, k2, k3⟩ := hr1 m x hx
      exact ⟨k1, z1, k2, VRd.keep hJ hT h3 k3⟩
    have hpair : ∀ {l : List AV} {ys ys1 : List Value}, Pair (VRd E w d) l ys → Pair (VRd E1 w1 d1) l ys1 → Pair (VRd (nenv E E1 n nt) w1 d1) l ys1 := fun {l ys ys1} hr hr1 => ⟨hr1.1, fun i x y hx hy => by
      have hlt : i < ys.length := by rw [← hr.1]; exact (List.getElem?_eq_some_iff.1 hx).1
      exact VRd.keep hJ hT (hr.2 i x ys[i] hx (by simp [hlt])) (hr1.2 i x y hx hy)⟩
    have hj : ∀ {o g g1 : Nat}, E.j o = some g → E1.j o = some g1 → (nenv E E1 n nt).j o = some g1 := fun h1 h2 => by simp [nenv, hJ _ _ h1, h2]
    cases x with
    | junk => exact h1
    | v x => exact h1
    | ptr o off => obtain ⟨g, h2, _⟩ := h; obtain ⟨g1, k1, k2⟩ := h1; exact ⟨g1, hj h2 k1, k2⟩
    | slc o sz off len cap => obtain ⟨g, c, h2, _⟩ := h; obtain ⟨g1, c1, k1, k2⟩ := h1; exact ⟨g1, c1, hj h2 k1, k2⟩
    | mp o => obtain ⟨g, h2, _⟩ := h; obtain ⟨g1, k1, k2⟩ := h1; exact ⟨g1, hj h2 k1, k2⟩
    | yld o => obtain ⟨g, h2, _⟩ := h; obtain ⟨g1, k1, k2⟩ := h1; exact ⟨g1, hj h2 k1, k2⟩
    | eptr row off => obtain ⟨g, b, _, hr⟩ := h; obtain ⟨g1, b1, k1, k2⟩ := h1; exact ⟨g1, b1, k1, hrow hr k2⟩
    | lst c rows =>
      rcases h1 with h1 | ⟨g, b, cap, sz, k1, k2, k3, k4, k5, k6, k7⟩
      · exact .inl h1
      rcases h with ⟨rfl, _, _, hca⟩ | ⟨_, _, _, _, _, _, _, _, _, hr, h7⟩
      · refine .inr ⟨g, b, cap, sz, k1, k2, k3, k4, k5, fun m x hx => by simp at hx, ?_⟩
        rcases hca with rfl | ⟨rfl, _⟩ <;> trivial
      refine .inr ⟨g, b, cap, sz, k1, k2, k3, k4, k5, hrow hr k6, ?_⟩
      cases c with
      | exact => exact k7
      | unk => trivial
      | any => trivial
      | tok t e s =>
        have ht : t < nt := hT t (by have := h7.2.1; have := h7.2.2.1; omega)
        obtain ⟨q1, q2, q3, q4⟩ := k7
        refine ⟨q1, q2, by simpa [nenv, ht] using q3, fun he => ?_⟩
        simp only [nenv, ht, if_true] at he ⊢
        exact q4 he
    | fn f a b => obtain ⟨fs, cs, _, h2, h3⟩ := h; obtain ⟨fs1, cs1, k1, k2, k3⟩ := h1; exact ⟨fs1, cs1, k1, hpair h2 k2, hpair h3 k3⟩
    | ifc t x => obtain ⟨z, _, h2⟩ := h; obtain ⟨z1, k1, k2⟩ := h1; exact ⟨z1, k1, VRd.keep hJ hT h2 k2⟩
    | agg l => obtain ⟨ys, _, h2⟩ := h; obtain ⟨ys1, k1, k2⟩ := h1; exact ⟨ys1, k1, hpair h2 k2⟩
    | tup l => obtain ⟨ys, _, h2⟩ := h; obtain ⟨ys1, k1, k2⟩ := h1; exact ⟨ys1, k1, hpair h2 k2⟩

/-- The store as it was before, in the world as it is now. -/
theorem SR.narrow (h : SR B0 w0 E S w) (h1 : SR B0 w0 E1 S1 w1) (hs : Step S.objs.length S.ends.length E w E1 w1)
    (ho : ∀ o, o < S.objs.length → S1.objs[o]? = S.objs[o]?) (ht : ∀ t, t < S.ends.length → S1.ends[t]? = S.ends[t]?) :
    SR B0 w0 (nenv E E1 S.objs.length S.ends.length) S w1 ∧ Step S.objs.length S.ends.length E w (nenv E E1 S.objs.length S.ends.length) w1 := by
  have hJ : ∀ o g, E.j o = some g → o < S.objs.length := h.jlt
  have hT : ∀ t, 0 < E.en t → t < S.ends.length := fun t h0 => by
    rcases h.en t with e | e
    · omega
    · refine Classical.byContradiction fun hn => ?_
      rw [List.getD_eq_getElem?_getD, List.getElem?_eq_none (by omega)] at e
      simp at e; omega
  have hjj : ∀ o g, (nenv E E1 S.objs.length S.ends.length).j o = some g → o < S.objs.length ∧ E1.j o = some g ∧ E.j o = some g := fun o g hj => by
    simp only [nenv] at hj
    split at hj
    · rename_i hlt
      refine ⟨hlt, hj, ?_⟩
      rcases hs.jid o (by rw [hj]; simp) with h2 | h2
      · cases hjo : E.j o with
        | none => exact absurd hjo h2
        | some g0 => rw [hs.j o g0 hjo] at hj; cases hj; rfl
      · omega
    · cases hj
  have hjl : ∀ o g, E.j o = some g → (nenv E E1 S.objs.length S.ends.length).j o = some g := fun o g hj => by simp [nenv, hJ o g hj, hs.j o g hj]
  refine ⟨{ below := h1.below, base := h1.base, obj := ?_, jlt := fun o g hj => (hjj o g hj).1, inj := ?_, jb := fun o g hj => h1.jb o g (hjj o g hj).2.1, fzc := h1.fzc, en := ?_, tok := ?_, tinj := ?_ },
    { j := hjl, fz := hs.fz, cell := hs.cell, en := ?_, tk := ?_, row := ?_, cp := hs.cp, size := hs.size, frame := hs.frame, jn := fun o g hj => hs.jn o g (hjj o g hj).2.1, tn := ?_, jid := fun o hj => ?_, tid := ?_, fn := hs.fn }⟩
  · intro o ob g hob hj
    obtain ⟨hlt, hj1, hj0⟩ := hjj o g hj
    have k0 := h.obj o ob g hob hj0
    have k1 := h1.obj o ob g (by rw [ho o hlt]; exact hob) hj1
    cases ob with
    | cells l T =>
      obtain ⟨arr0, _, _, q3, q4⟩ := k0
      obtain ⟨arr, r1, r2, r3, r4⟩ := k1
      refine ⟨arr, r1, r2, r3, fun i x y hx hy => ?_⟩
      obtain ⟨d1, hd1⟩ := r4 i x y hx hy
      have hi0 : i < arr0.size := by have := (List.getElem?_eq_some_iff.1 hx).1; omega
      obtain ⟨d0, hd0⟩ := q4 i x arr0[i] hx (by simp [hi0])
      exact ⟨d1, VRd.keep hJ hT hd0 hd1⟩
    | map es c =>
      obtain ⟨ces0, _, q2, q3⟩ := k0
      obtain ⟨ces, r1, r2, r3⟩ := k1
      refine ⟨ces, r1, r2, fun i e c' he hc => ?_⟩
      have hi0 : i < ces0.size := by have := (List.getElem?_eq_some_iff.1 he).1; omega
      obtain ⟨⟨d1, a1⟩, ⟨d2, a2⟩, a3⟩ := r3 i e c' he hc
      obtain ⟨⟨d3, b1⟩, ⟨d4, b2⟩, _⟩ := q3 i e ces0[i] he (by simp [hi0])
      exact ⟨⟨d1, VRd.keep hJ hT b1 a1⟩, ⟨d2, VRd.keep hJ hT b2 a2⟩, a3⟩
    | loop r =>
      obtain ⟨ys0, gd0, _, _, q2, q3⟩ := k0
      obtain ⟨ys, gd, fn, r1, r2, r3⟩ := k1
      refine ⟨ys, gd, fn, r1, ⟨r2.1, fun i x y hx hy => ?_⟩, ?_⟩
      · obtain ⟨d1, hd1⟩ := r2.2 i x y hx hy
        have hi0 : i < ys0.length := by rw [← q2.1]; exact (List.getElem?_eq_some_iff.1 hx).1
        obtain ⟨d0, hd0⟩ := q2.2 i x ys0[i] hx (by simp [hi0])
        exact ⟨d1, VRd.keep hJ hT hd0 hd1⟩
      · simp [nenv, hJ _ _ q3, r3]
    | dfr => exact k1
    | iter s pos => exact k1
    | dead => trivial
  · intro o o' g k1 k2 l1 l2
    obtain ⟨a1, a2, _⟩ := hjj o g k1
    obtain ⟨b1, b2, _⟩ := hjj o' g k2
    exact h1.inj o o' g a2 b2 (by unfold AS.live at *; rw [ho o a1]; exact l1) (by unfold AS.live at *; rw [ho o' b1]; exact l2)
  · intro t
    simp only [nenv]
    split
    · rename_i hlt
      rcases h1.en t with e | e
      · exact .inl e
      · right; rw [e, List.getD_eq_getElem?_getD, List.getD_eq_getElem?_getD, ht t hlt]
    · exact .inl rfl
  · intro t h0
    simp only [nenv] at h0 ⊢
    by_cases hlt : t < S.ends.length
    · simp only [hlt, if_true] at h0 ⊢
      obtain ⟨a, b, c, d⟩ := h1.tok t h0
      exact ⟨a, b, c, fun o hj => d o (hjj o _ hj).2.1⟩
    · simp [hlt] at h0
  · intro t t' h0 h0' he
    simp only [nenv] at h0 h0' he
    by_cases hlt : t < S.ends.length
    · by_cases hlt' : t' < S.ends.length
      · simp only [hlt, hlt', if_true] at h0 h0' he
        exact h1.tinj t t' h0 h0' he
      · simp [hlt'] at h0'
    · simp [hlt] at h0
  · intro t
    simp only [nenv]
    split
    · exact hs.en t
    · rename_i hlt
      rcases Nat.eq_zero_or_pos (E.en t) with e | e
      · omega
      · exact absurd (hT t e) hlt
  · intro t he
    simp only [nenv] at he ⊢
    split
    · rename_i hlt; simp only [hlt, if_true] at he; exact hs.tk t he
    · rfl
  · intro t h0 he a T f ha
    have hlt := hT t h0
    simp only [nenv, hlt, if_true] at he
    exact hs.row t h0 he a T f ha
  · intro t h0
    simp only [nenv] at h0 ⊢
    by_cases hlt : t < S.ends.length
    · simp only [hlt, if_true] at h0 ⊢; exact hs.tn t h0
    · simp [hlt] at h0
  · simp only [nenv] at hj
    split at hj
    · exact hs.jid o hj
    · exact absurd rfl hj
  · intro t h0
    simp only [nenv] at h0
    by_cases hlt : t < S.ends.length
    · simp only [hlt, if_true] at h0; exact hs.tid t h0
    · simp [hlt] at h0

end Go.AM
