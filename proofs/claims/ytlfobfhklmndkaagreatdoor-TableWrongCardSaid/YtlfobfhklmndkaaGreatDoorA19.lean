/- The abstract machine, twentieth text: code. -/
import Derived.Test.YtlfobfhklmndkaaGreatDoorA18
import Derived.RangeFuncNested
import Derived.Sort.LoopGhostIn
namespace Go.AM
open Go.RowKit Go.MapKept

variable {B0 : Nat} {w0 w : World} {E : Env} {S S' : AS} {P : Program} {C : Cfg} {L : Lw}

def RdR (E : Env) (rd r : Option Nat) : Prop :=
  match rd with
  | none => r = none
  | some o => ∃ l, r = some l ∧ E.j o = some l

theorem RdR.ext {E' : Env} {w' : World} {rd r : Option Nat} (h : Ext E w E' w') (k : RdR E rd r) : RdR E' rd r := by
  cases rd with
  | none => exact k
  | some o => obtain ⟨l, h1, h2⟩ := k; exact ⟨l, h1, h.j _ _ h2⟩

theorem grownBy_put (w : World) (g : Nat) (o : Obj) : w.grownBy (w.putObj g o) (some g) :=
  ⟨rfl, rfl, rfl, by simp [World.putObj], fun k _ hne => World.putObj_heap_other (fun e => hne (by rw [e]))⟩

/-- A record's state and pending jump may turn. -/
theorem SR.putLoop (h : SR B0 w0 E S w) {o g : Nat} {r : ALoop} (ho : S.objs[o]? = some (.loop r)) (hj : E.j o = some g) {cr : Loop} (hc : w.heap[g]? = some (.loop cr)) (st : LoopState) (pe : Option Code) :
    SR B0 w0 E (S.set o (.loop { r with state := st, pending := pe })) (w.putObj g (.loop { cr with state := st, pending := pe })) ∧ Step S.objs.length S.ends.length E w E (w.putObj g (.loop { cr with state := st, pending := pe })) := by
  have hg := grownBy_put w g (.loop { cr with state := st, pending := pe })
  obtain ⟨_, hlt, hnf⟩ := h.jb o g hj
  have hx := h.ext_of (some g) hg (fun g' e => by cases e; exact ⟨hnf, fun t ht => h.jblock ht hj⟩)
  refine h.setObj hj (by unfold AS.live; rw [ho]; simp) hg _ ?_
  obtain ⟨ys, gd, fn, h1, h2, h3⟩ := h.obj o _ g ho hj
  rw [hc] at h1
  cases h1
  exact ⟨ys, gd, fn, World.putObj_heap_same hlt, h2.ext hx, h3⟩

/-- A loop that is over: nothing is said of its record any more. -/
theorem SR.dropLoop (h : SR B0 w0 E S w) {o g : Nat} {r : ALoop} (ho : S.objs[o]? = some (.loop r)) (hj : E.j o = some g) {cr : Loop} (hc : w.heap[g]? = some (.loop cr)) (st : LoopState) (pe : Option Code) :
    SR B0 w0 E (S.set o .dead) (w.putObj g (.loop { cr with state := st, pending := pe })) ∧ Step S.objs.length S.ends.length E w E (w.putObj g (.loop { cr with state := st, pending := pe })) := by
  have hg := grownBy_put w g (.loop { cr with state := st, pending := pe })
  exact h.setObj hj (by unfold AS.live; rw [ho]; simp) hg _ trivial

theorem aloop_low {f : AAct → AS → Option (Exit × AAct × AS)} (hf : ∀ {a S e a' S'}, f a S = some (e, a', S') → Low S S') : ∀ (k : Nat) {a : AAct} {S : AS} {e : Exit} {a' : AAct} {S' : AS}, aloop f k a S = some (e, a', S') → Low S S'
  | 0, _, _, _, _, _, h => by simp [aloop] at h
  | k + 1, a, S, e, a', S', h => by
    simp only [aloop] at h
    split at h
    · rename_i a1 S1 h1; exact (hf h1).trans (aloop_low hf k h)
    · exact hf h

theorem trimS_low {n0 : Nat} {S S1 : AS} (h : Low S S1) (hn : S.objs.length ≤ n0) (hk : Nat.ble n0 S1.objs.length = true) : Low S (trimS n0 S1) := by
  have hk := Nat.le_of_ble_eq_true hk
  refine ⟨by simp [trimS]; omega, h.tlen, h.low, h.tlow, fun o ho hlo => ?_, h.ends⟩
  simp only [trimS, List.getElem?_take]
  rw [if_pos (by omega)]
  exact h.objs o ho hlo

theorem trimOK_len {js : List Nat} {n0 : Nat} {a : AAct} {S : AS} (h : trimOK js n0 a S = true) : Nat.ble n0 S.objs.length = true := by
  simp only [trimOK, trimB, Bool.and_eq_true] at h; exact h.2.2.2

theorem aBody_low {c : Code} {hf : FuncId} {n0 : Nat} {f : AAct → AS → Option (Exit × AAct × AS)} (h : ∀ {a S e a' S'}, f a S = some (e, a', S') → Low S S') {a : AAct} {S : AS} {e : Exit} {a' : AAct} {S' : AS} (hn : S.objs.length ≤ n0) (hb : aBody C hf c n0 f a S = some (e, a', S')) : Low S S' := by
  unfold aBody at hb
  split at hb
  · rename_i a1 S1 h1
    split at hb
    · split at hb
      · rename_i h2; cases hb; exact trimS_low (h h1) hn (trimOK_len h2)
      · cases hb
    · cases hb; exact h h1
  · exact h hb

theorem aBody_stop {c : Code} {hf : FuncId} {n0 : Nat} {f : AAct → AS → Option (Exit × AAct × AS)} {a : AAct} {S : AS} {e : Exit} {a' : AAct} {S' : AS} (h : aBody C hf c n0 f a S = some (e, a', S')) (he : e ≠ .normal) : f a S = some (e, a', S') := by
  unfold aBody at h
  split at h
  · split at h
    · split at h
      · cases h; exact absurd rfl he
      · cases h
    · cases h; exact absurd rfl he
  · exact h

/-- Either nothing is dropped, or the store is as long as it was ahead of the loop. -/
theorem aloopB_low {c : Code} {hf : FuncId} {n0 : Nat} {f : AAct → AS → Option (Exit × AAct × AS)} (h : ∀ {a S e a' S'}, f a S = some (e, a', S') → Low S S') : ∀ (k : Nat) {a : AAct} {S : AS} {e : Exit} {a' : AAct} {S' : AS}, (hintD C hf c = none ∨ S.objs.length = n0) → aloop (aBody C hf c n0 f) k a S = some (e, a', S') → Low S S'
  | 0, _, _, _, _, _, _, hl => by simp [aloop] at hl
  | k + 1, a, S, e, a', S', hd, hl => by
    have one : ∀ {e a' S'}, aBody C hf c n0 f a S = some (e, a', S') → Low S S' := by
      intro e a' S' hb
      rcases hd with hd | hd
      · unfold aBody at hb
        rw [hd] at hb
        split at hb
        · rename_i h1; cases hb; exact h h1
        · exact h hb
      · exact aBody_low h (by omega) hb
    simp only [aloop] at hl
    split at hl
    · rename_i a1 S1 h1
      refine (one h1).trans (aloopB_low h k ?_ hl)
      rcases hd with hd | hd
      · exact .inl hd
      · unfold aBody at h1
        split at h1
        · split at h1
          · split at h1
            · rename_i h2; cases h1; right; have := Nat.le_of_ble_eq_true (trimOK_len h2); simp [trimS]; omega
            · cases h1
          · rename_i h2; exact .inl h2
        · rename_i hne; exact absurd h1 (hne _ _)
    · exact one hl

theorem VRd.cut {n0 : Nat} : ∀ {d : Nat} {x : AV} {y : Value}, VRd E w d x y → x.old n0 = true → VRd { E with j := fun o => if o < n0 then E.j o else none } w d x y
  | 0, _, _, h, _ => h.elim
  | d + 1, x, y, h, ho => by
    have hrow : ∀ {l : List AV} {g b : Nat}, Row E w (VRd E w d) l g b → belowAll n0 l = true → Row { E with j := fun o => if o < n0 then E.j o else none } w (VRd { E with j := fun o => if o < n0 then E.j o else none } w d) l g b := fun hr hb m x hx => by
      obtain ⟨h1, z, h2, h3⟩ := hr m x hx
      exact ⟨h1, z, h2, h3.cut (belowAll_get hb m x hx)⟩
    have hpair : ∀ {l : List AV} {ys : List Value}, Pair (VRd E w d) l ys → belowAll n0 l = true → Pair (VRd { E with j := fun o => if o < n0 then E.j o else none } w d) l ys := fun hr hb => ⟨hr.1, fun i x y hx hy => (hr.2 i x y hx hy).cut (belowAll_get hb i x hx)⟩
    have hj : ∀ {o g : Nat}, E.j o = some g → o < n0 → ({ E with j := fun o => if o < n0 then E.j o else none } : Env).j o = some g := fun h1 h2 => by simp [h2, h1]
    cases x with
    | junk => exact h
    | v x => exact h
    | ptr o off => simp only [AV.old, decide_eq_true_eq] at ho; obtain ⟨g, h1, h2⟩ := h; exact ⟨g, hj h1 ho, h2⟩
    | slc o sz off len cap => simp only [AV.old, decide_eq_true_eq] at ho; obtain ⟨g, c, h1, h2⟩ := h; exact ⟨g, c, hj h1 ho, h2⟩
    | mp o => simp only [AV.old, decide_eq_true_eq] at ho; obtain ⟨g, h1, h2⟩ := h; exact ⟨g, hj h1 ho, h2⟩
    | yld o => simp only [AV.old, decide_eq_true_eq] at ho; obtain ⟨g, h1, h2⟩ := h; exact ⟨g, hj h1 ho, h2⟩
    | eptr row off => simp only [AV.old] at ho; obtain ⟨g, b, hy, hr⟩ := h; exact ⟨g, b, hy, hrow hr ho⟩
    | lst c rows =>
      simp only [AV.old] at ho
      rcases h with h | ⟨g, b, cap, sz, h1, h2, h3, h4, h5, h6, h7⟩
      · exact .inl h
      · exact .inr ⟨g, b, cap, sz, h1, h2, h3, h4, h5, hrow h6 (belowRows_flat ho), h7⟩
    | fn f a b => simp only [AV.old, Bool.and_eq_true] at ho; obtain ⟨fs, cs, h1, h2, h3⟩ := h; exact ⟨fs, cs, h1, hpair h2 ho.1, hpair h3 ho.2⟩
    | ifc t x => simp only [AV.old] at ho; obtain ⟨z, h1, h2⟩ := h; exact ⟨z, h1, h2.cut ho⟩
    | agg l => simp only [AV.old] at ho; obtain ⟨ys, h1, h2⟩ := h; exact ⟨ys, h1, hpair h2 ho⟩
    | tup l => simp only [AV.old] at ho; obtain ⟨ys, h1, h2⟩ := h; exact ⟨ys, h1, hpair h2 ho⟩

theorem VR.cut {n0 : Nat} {x : AV} {y : Value} (h : VR E w x y) (ho : x.old n0 = true) : VR { E with j := fun o => if o < n0 then E.j o else none } w x y := let ⟨d, hd⟩ := h; ⟨d, hd.cut ho⟩

theorem keepT_get (js : List Nat) : ∀ (l : List AV) (k i : Nat), (keepT js k l)[i]? = (l[i]?).map fun x => match memN js (k + i) with | true => x | false => .junk
  | [], k, i => by simp [keepT]
  | a :: l, k, 0 => by simp only [keepT, List.getElem?_cons_zero, Option.map_some, Nat.add_zero]; rfl
  | a :: l, k, i + 1 => by
    simp only [keepT, List.getElem?_cons_succ]
    rw [keepT_get js l (k + 1) i, show k + 1 + i = k + (i + 1) by omega]
theorem keepT_len (js : List Nat) : ∀ (l : List AV) (k : Nat), (keepT js k l).length = l.length
  | [], _ => rfl
  | _ :: l, k => by simp [keepT, keepT_len js l (k + 1)]
theorem memN_mem : ∀ (l : List Nat) (n : Nat), memN l n = true → n ∈ l
  | [], _, h => by cases h
  | x :: l, n, h => by
    simp only [memN] at h
    split at h
    · rename_i he; have := Nat.eq_of_beq_eq_true he; subst this; exact List.mem_cons_self ..
    · exact List.mem_cons_of_mem _ (memN_mem l n h)

theorem trim_sound {E1 : Env} {w1 : World} {S1 : AS} {js : List Nat} {a : AAct} {act : Act} (h : SR B0 w0 E S w) (h1 : SR B0 w0 E1 S1 w1) (hs : Step S.objs.length S.ends.length E w E1 w1) (ha : ActR E1 w1 a act) (ht : trimOK js S.objs.length a S1 = true) :
    ∃ E2, SR B0 w0 E2 (trimS S.objs.length S1) w1 ∧ Step S.objs.length S.ends.length E w E2 w1 ∧ ActR E2 w1 (trimA js a) act := by
  simp only [trimOK, trimB, Bool.and_eq_true] at ht
  obtain ⟨t1, t2, t3, t4⟩ := ht
  have t4 := Nat.le_of_ble_eq_true t4
  have hjj : ∀ o g, ({ E1 with j := fun o => if o < S.objs.length then E1.j o else none } : Env).j o = some g → o < S.objs.length ∧ E1.j o = some g := fun o g hj => by
    dsimp only at hj
    split at hj
    · rename_i hlt; exact ⟨hlt, hj⟩
    · cases hj
  have hob : ∀ o, o < S.objs.length → (trimS S.objs.length S1).objs[o]? = S1.objs[o]? := fun o ho => by simp only [trimS, List.getElem?_take]; rw [if_pos ho]
  refine ⟨{ E1 with j := fun o => if o < S.objs.length then E1.j o else none },
    { below := h1.below, base := h1.base, obj := ?_, jlt := fun o g hj => by have := (hjj o g hj).1; simp [trimS]; omega, inj := ?_, jb := fun o g hj => h1.jb o g (hjj o g hj).2, fzc := h1.fzc, en := h1.en,
      tok := fun t h0 => let ⟨a, b, c, d⟩ := h1.tok t h0; ⟨a, b, c, fun o hj => d o (hjj o _ hj).2⟩, tinj := h1.tinj },
    { j := fun o g hj => ?_, fz := hs.fz, cell := hs.cell, en := hs.en, tk := hs.tk, row := hs.row, cp := hs.cp, size := hs.size, frame := hs.frame, jn := fun o g hj => hs.jn o g (hjj o g hj).2, tn := hs.tn,
      jid := fun o hj => ?_, tid := hs.tid, fn := hs.fn }, ?_⟩
  · intro o ob g hob' hj
    obtain ⟨hlt, hj1⟩ := hjj o g hj
    rw [hob o hlt] at hob'
    have k := h1.obj o ob g hob' hj1
    have hold : objOld S.objs.length ob = true := by
      refine List.all_eq_true.1 t2 ob ?_
      have : (S1.objs.take S.objs.length)[o]? = some ob := by rw [List.getElem?_take, if_pos hlt]; exact hob'
      exact List.mem_of_getElem? this
    cases ob with
    | cells l T =>
      obtain ⟨arr, r1, r2, r3, r4⟩ := k
      exact ⟨arr, r1, r2, r3, fun i x y hx hy => (r4 i x y hx hy).cut (belowAll_get hold i x hx)⟩
    | map es c =>
      obtain ⟨ces, r1, r2, r3⟩ := k
      refine ⟨ces, r1, r2, fun i e c' he hc => ?_⟩
      obtain ⟨a1, a2, a3⟩ := r3 i e c' he hc
      have := List.all_eq_true.1 hold e (List.mem_of_getElem? he)
      simp only [Bool.and_eq_true] at this
      exact ⟨a1.cut this.1, a2.cut this.2, a3⟩
    | loop r =>
      obtain ⟨ys, gd, fn, r1, r2, r3⟩ := k
      simp only [objOld, Bool.and_eq_true] at hold
      refine ⟨ys, gd, fn, r1, ⟨r2.1, fun i x y hx hy => (r2.2 i x y hx hy).cut (belowAll_get hold.1 i x hx)⟩, ?_⟩
      have hlt2 : r.defers < S.objs.length := by have := hold.2; rwa [Nat.blt_eq] at this
      simp [hlt2, r3]
    | dfr => exact k
    | iter s pos => exact k
    | dead => trivial
  · intro o o' g k1 k2 l1 l2
    obtain ⟨a1, a2⟩ := hjj o g k1
    obtain ⟨b1, b2⟩ := hjj o' g k2
    exact h1.inj o o' g a2 b2 (by unfold AS.live at *; rw [← hob o a1]; exact l1) (by unfold AS.live at *; rw [← hob o' b1]; exact l2)
  · have := h.jlt o g hj
    simp [this, hs.j o g hj]
  · dsimp only at hj
    split at hj
    · exact hs.jid o hj
    · exact absurd rfl hj
  · refine ⟨⟨by simp [trimA, keepT_len]; exact ha.tmps.1, fun i x y hx hy => ?_⟩, ha.len, fun i o d h2 h3 => ?_⟩
    · simp only [trimA, keepT_get, Option.map_eq_some_iff] at hx
      obtain ⟨x0, hx0, rfl⟩ := hx
      cases hm : memN js (0 + i) with
      | false => exact ⟨1, trivial⟩
      | true =>
        refine (ha.tmps.2 i x0 y hx0 hy).cut ?_
        have hmem := memN_mem js _ hm
        rw [Nat.zero_add] at hmem
        have : x0 ∈ js.map fun j => (a.tmps[j]?).getD undefA := List.mem_map.2 ⟨i, hmem, by rw [hx0]; rfl⟩
        obtain ⟨m, hm2⟩ := List.getElem?_of_mem this
        exact belowAll_get t1 m x0 hm2
    · obtain ⟨g, hj, hd⟩ := ha.marks i o d h2 h3
      have := List.all_eq_true.1 t3 o (List.mem_of_getElem? h2)
      rw [Nat.blt_eq] at this
      exact ⟨g, by simp [this, hj], hd⟩

theorem aTags_low (hL : LwOK C L) {mu : Bool} {ops : Array Oper} : ∀ (os : List Oper) {l l' : List AV} {S S' : AS} {ts : List Tag}, aTags C L mu ops os l S = some (l', S', ts) → Low S S'
  | [], l, l', S, S', ts, h => by simp only [aTags] at h; cases h; exact Low.refl _
  | o :: os, l, l', S, S', ts, h => by
    simp only [aTags] at h
    split at h
    · rename_i x S1 t h1
      obtain ⟨_, _, _, _, h2⟩ := atag_step hL h1
      split at h
      · rename_i l2 S2 ts2 h3; cases h; exact h2.trans (aTags_low hL os h3)
      · cases h
    · cases h

theorem preA_low : ∀ (ps : List (Nat × Oper)) {l l' : List AV} {S S' : AS}, preA C ps l S = some (l', S') → Low S S'
  | [], l, l', S, S', h => by simp only [preA] at h; cases h; exact Low.refl _
  | p :: ps, l, l', S, S', h => by
    simp only [preA] at h
    split at h
    · split at h
      · exact (Low.push _ _).trans (preA_low ps h)
      · cases h
    · cases h

theorem aDraw_low (hL : LwOK C L) {mu : Bool} {ops : Array Oper} {l l' : List AV} (h : aDraw C L mu ops l S = some (l', S')) : Low S S' := by
  unfold aDraw at h
  split at h
  · unfold aDraw2 at h
    split at h
    · rename_i h0
      split at h
      · rename_i h1
        split at h
        · cases h; exact (preA_low _ h0).trans (aTags_low hL _ h1)
        · cases h
      · cases h
    · cases h
  · unfold aDraw1 at h
    split at h
    · rename_i h1
      split at h
      · cases h; exact aTags_low hL _ h1
      · cases h
    · cases h

theorem arange_some {f : FuncId} {args : List AV} {l : Nat} {a a' : AAct} {e : Exit} (h : arange L f args l a S = some (e, a', S')) :
    ∃ x S1 r, L.call f args S = some (x, S1) ∧ S1.objs[l]? = some (.loop r) ∧ r.state ≠ .busy ∧ a' = a ∧ S' = S1.set l .dead ∧ ajump e = some r.pending := by
  unfold arange at h
  split at h
  · rename_i x S1 h1
    split at h
    · rename_i r h2
      split at h
      · cases h
      · rename_i hb
        refine ⟨x, S1, r, h1, h2, fun e => hb e, ?_⟩
        split at h <;> first | (rename_i hp; cases h; exact ⟨rfl, rfl, by rw [hp]; rfl⟩) | cases h
    · cases h
  · cases h

theorem aC_low (hL : LwOK C L) {k : Nat} {hf : FuncId} {rd : Option Nat} : ∀ (c : Code) {a : AAct} {S : AS} {e : Exit} {a' : AAct} {S' : AS}, aC C L k hf rd c a S = some (e, a', S') → Low S S' := by
  intro c
  induction c with
  | skip => intro a S e a' S' h; simp only [aC] at h; cases h; exact Low.refl _
  | label t => intro a S e a' S' h; simp only [aC] at h; cases h; exact Low.refl _
  | exit t => intro a S e a' S' h; simp only [aC] at h; cases h; exact Low.refl _
  | goto t => intro a S e a' S' h; simp only [aC] at h; cases h; exact Low.refl _
  | ret => intro a S e a' S' h; simp only [aC] at h; cases h; exact Low.refl _
  | seq x y ihx ihy =>
    intro a S e a' S' h
    simp only [aC] at h
    split at h
    · rename_i a1 S1 h1; exact (ihx h1).trans (ihy h)
    · exact ihx h
  | cond c x y ihx ihy =>
    intro a S e a' S' h
    simp only [aC] at h
    split at h
    · exact ihx h
    · exact ihy h
    · cases h
  | block id c ih =>
    intro a S e a' S' h
    simp only [aC] at h
    split at h
    · rename_i i a1 S1 h1
      split at h <;> (cases h; exact ih h1)
    · exact ih h
  | loop c ih =>
    intro a S e a' S' h
    simp only [aC] at h
    exact aloopB_low (fun h => ih h) k (.inr rfl) h
  | region id ops d =>
    intro a S e a' S' h
    cases d with
    | false =>
      simp only [aC] at h
      split at h
      · rename_i h1; cases h; exact aOps_low hL _ h1
      · cases h
    | true =>
      simp only [aC] at h
      split at h
      · rename_i h1; cases h; exact aDraw_low hL h1
      · cases h
  | rangeFunc g ps asg body _ _ =>
    intro a S e a' S' h
    simp only [aC] at h
    split at h
    · split at h
      · obtain ⟨x, S1, r, h1, h2, h3, rfl, rfl, h6⟩ := arange_some h
        exact (((Low.push S _).trans (Low.push _ _)).trans (hL.low h1)).trans (Low.set _ _ _)
      · split at h
        · obtain ⟨x, S1, r, h1, h2, h3, rfl, rfl, h6⟩ := arange_some h
          exact ((Low.push S _).trans (hL.low h1)).trans (Low.set _ _ _)
        · cases h
    · cases h
  | _ => intro a S e a' S' h; simp only [aC] at h; cases h

section
variable {r : Option Nat} {Q : Exit → Act → World → Prop}

/-- The loop's end, from the iterator's contract. -/
theorem arange_sound (hL : LwOK C L) {f : FuncId} {args : List AV} {l g : Nat} {a a' : AAct} {e : Exit} {act : Act} {ys : List Value} (h : arange L f args l a S = some (e, a', S')) (hs : SR B0 w0 E S w) (hp : Pair (VR E w) args ys) (hj : E.j l = some g) (ha : ActR E w a act)
    (hQ : ∀ w' E', SR B0 w0 E' S' w' → Step S.objs.length S.ends.length E w E' w' → ActR E' w' a' act → Q e act w') :
    CallsIn Fence.wide 0 C.P f ys.toArray w (rangePost (fenceOf r) 0 C.P g Q act) := by
  obtain ⟨x, S1, rec, h1, h2, h3, rfl, rfl, h6⟩ := arange_some h
  refine CallsIn.mono (hL.call h1 hs hp) fun en w1 hen => ?_
  cases en with
  | panicked c => exact hen.elim
  | outgrown => exact hen.elim
  | returned y =>
    obtain ⟨E1, k1, k2, _⟩ := hen
    have hj1 := k2.j _ _ hj
    obtain ⟨zs, gd, fn, hh, _, _⟩ := k1.obj l _ g h2 hj1
    obtain ⟨q1, q2⟩ := k1.dropLoop h2 hj1 hh .exhausted rec.pending
    have hl := hL.low h1
    refine ⟨rec.pending, _, run_endLoop hh h3, ?_⟩
    have hfin := hQ _ E1 q1 (k2.trans q2 hl.len hl.tlen) ((ha.ext k2.toExt).ext q2.toExt)
    cases e with
    | normal => simp only [ajump, Option.some.injEq] at h6; rw [← h6] at hfin ⊢; exact hfin
    | ret => simp only [ajump, Option.some.injEq] at h6; rw [← h6]; exact wpIn_ret (h6 ▸ hfin)
    | exit id => simp only [ajump, Option.some.injEq] at h6; rw [← h6]; exact wpIn_exit (h6 ▸ hfin)
    | goto t => simp only [ajump, Option.some.injEq] at h6; rw [← h6]; exact wpIn_goto (h6 ▸ hfin)
    | panic c => cases h6
    | outgrown => cases h6

theorem run_rangeCall (hN : NamesOK C.P) {act : Act} {g : Operand} {f : FuncId} {fs cs : List Value} (he : act.eval g = .func (.func f) fs.toArray cs.toArray) (hent : ∃ fn, C.P.funcs[f]? = some fn ∧ fn.body.isSome = true) (l : Nat) (w : World) :
    ∃ d, (resolve act.eval (rangeCall g l) 0).run C.P w = .ok d w ∧ (invoke d.target d.args).run C.P w = .ok (.enter f (fs ++ [Value.func (.yield l) #[] #[]] ++ cs).toArray) w := by
  refine ⟨{ target := .fn (.func f) cs.toArray, args := fs.toArray ++ #[Value.func (.yield l) #[] #[]] }, ?_, ?_⟩
  · unfold resolve
    have hm : (#[Operand.const (Value.func (.yield l) #[] #[])] : Array Operand).map act.eval = #[Value.func (.yield l) #[] #[]] := by simp [Act.eval]
    simp only [rangeCall, he, Deferred.ofValue, Sem.run_pure, hm]
  · simp only [invoke]
    rw [run_callFunc_ok hN hent]
    simp

theorem aC_sound (hN : NamesOK C.P) (hL : LwOK C L) (hm : C.P.follows .mixedOrders = true) {k : Nat} {hf : FuncId} {rd : Option Nat} : ∀ (c : Code) {a : AAct} {S : AS} {e : Exit} {a' : AAct} {S' : AS} {act : Act} {w : World} {E : Env} {Q : Exit → Act → World → Prop},
    aC C L k hf rd c a S = some (e, a', S') → SR B0 w0 E S w → ActR E w a act → RdR E rd r →
    (∀ act' w' E', SR B0 w0 E' S' w' → Step S.objs.length S.ends.length E w E' w' → ActR E' w' a' act' → Q e act' w') → c.wpIn (fenceOf r) 0 C.P Q act w := by
  intro c
  induction c with
  | skip => intro a S e a' S' act w E Q h hs ha hr hQ; simp only [aC] at h; cases h; exact wpIn_skip (hQ act w E hs (Step.refl _ _ _ _) ha)
  | label t => intro a S e a' S' act w E Q h hs ha hr hQ; simp only [aC] at h; cases h; exact wpIn_label (hQ act w E hs (Step.refl _ _ _ _) ha)
  | exit t => intro a S e a' S' act w E Q h hs ha hr hQ; simp only [aC] at h; cases h; exact wpIn_exit (hQ act w E hs (Step.refl _ _ _ _) ha)
  | goto t => intro a S e a' S' act w E Q h hs ha hr hQ; simp only [aC] at h; cases h; exact wpIn_goto (hQ act w E hs (Step.refl _ _ _ _) ha)
  | ret => intro a S e a' S' act w E Q h hs ha hr hQ; simp only [aC] at h; cases h; exact wpIn_ret (hQ act w E hs (Step.refl _ _ _ _) ha)
  | seq x y ihx ihy =>
    intro a S e a' S' act w E Q h hs ha hr hQ
    simp only [aC] at h
    refine wpIn_seq ?_
    split at h
    · rename_i a1 S1 h1
      have hl := aC_low hL x h1
      refine ihx h1 hs ha hr fun act1 w1 E1 k1 k2 k3 => ?_
      exact ihy h k1 k3 (hr.ext k2.toExt) fun act' w' E' k4 k5 k6 => hQ act' w' E' k4 (k2.trans k5 hl.len hl.tlen) k6
    · rename_i hne
      refine ihx h hs ha hr fun act1 w1 E1 k1 k2 k3 => ?_
      have := hQ act1 w1 E1 k1 k2 k3
      cases e with
      | normal => exact absurd h (hne _ _)
      | _ => exact this
  | cond c x y ihx ihy =>
    intro a S e a' S' act w E Q h hs ha hr hQ
    simp only [aC] at h
    have hc := aeval_rel ha.tmps c
    split at h
    · rename_i hv; exact wpIn_cond_true (hv ▸ hc).flat_inv.2 (ihx h hs ha hr hQ)
    · rename_i hv; exact wpIn_cond_false (hv ▸ hc).flat_inv.2 (ihy h hs ha hr hQ)
    · cases h
  | block id c ih =>
    intro a S e a' S' act w E Q h hs ha hr hQ
    simp only [aC] at h
    refine wpIn_block ?_
    split at h
    · rename_i i a1 S1 h1
      split at h
      · rename_i hi
        cases h
        refine ih h1 hs ha hr fun act1 w1 E1 k1 k2 k3 => ?_
        simp only [Exit.inBlock, Nat.eq_of_beq_eq_true hi, if_true]
        exact hQ act1 w1 E1 k1 k2 k3
      · rename_i hi
        cases h
        refine ih h1 hs ha hr fun act1 w1 E1 k1 k2 k3 => ?_
        have : i ≠ id := fun q => hi (by rw [q]; exact Nat.beq_refl id)
        simp only [Exit.inBlock, this, if_false]
        exact hQ act1 w1 E1 k1 k2 k3
    · rename_i hne
      refine ih h hs ha hr fun act1 w1 E1 k1 k2 k3 => ?_
      have := hQ act1 w1 E1 k1 k2 k3
      cases e with
      | exit i => exact absurd h (hne _ _ _)
      | _ => exact this
  | loop c ih =>
    intro a S e a' S' act w E Q h hs ha hr hQ
    simp only [aC] at h
    generalize hn0 : S.objs.length = n0 at h
    refine wpIn_loop_ghost (fun j act w => ∃ a S E, (hintD C hf c = none ∨ S.objs.length = n0) ∧ aloop (aBody C hf c n0 (aC C L k hf rd c)) j a S = some (e, a', S') ∧ SR B0 w0 E S w ∧ ActR E w a act ∧ RdR E rd r ∧
      (∀ act' w' E', SR B0 w0 E' S' w' → Step S.objs.length S.ends.length E w E' w' → ActR E' w' a' act' → Q e act' w')) k ⟨a, S, E, .inr hn0, h, hs, ha, hr, hQ⟩ ?_
    rintro j act w ⟨a, S, E, hd, h, hs, ha, hr, hQ⟩
    cases j with
    | zero => simp [aloop] at h
    | succ j =>
      simp only [aloop] at h
      split at h
      · rename_i a1 S1 hb
        unfold aBody at hb
        split at hb
        · rename_i a2 S2 h1
          have hl := aC_low hL c h1
          split at hb
          · rename_i js hjs
            split at hb
            · rename_i ht
              cases hb
              have hd : S.objs.length = n0 := by
                rcases hd with hd | hd
                · rw [hd] at hjs; cases hjs
                · exact hd
              refine ih h1 hs ha hr fun act1 w1 E1 k1 k2 k3 => ?_
              rw [← hd] at ht
              obtain ⟨E2, q1, q2, q3⟩ := trim_sound hs k1 k2 k3 ht
              rw [hd] at q1
              have hl2 := trimS_low (n0 := n0) hl (by omega) (by rw [← hd]; exact trimOK_len ht)
              have hlen := Nat.le_of_ble_eq_true (trimOK_len ht)
              exact ⟨j, Nat.lt_succ_self _, _, _, E2, .inr (by simp [trimS]; omega), h, q1, q3, hr.ext q2.toExt, fun act' w' E' k4 k5 k6 => hQ act' w' E' k4 (q2.trans k5 hl2.len hl2.tlen) k6⟩
            · cases hb
          · rename_i hjs
            cases hb
            refine ih h1 hs ha hr fun act1 w1 E1 k1 k2 k3 => ?_
            exact ⟨j, Nat.lt_succ_self _, _, _, E1, .inl hjs, h, k1, k3, hr.ext k2.toExt, fun act' w' E' k4 k5 k6 => hQ act' w' E' k4 (k2.trans k5 hl.len hl.tlen) k6⟩
        · rename_i hne; exact absurd hb (hne _ _)
      · rename_i hne
        have he : e ≠ .normal := by rintro rfl; exact hne _ _ h
        have h1 : aC C L k hf rd c a S = some (e, a', S') := aBody_stop h he
        refine ih h1 hs ha hr fun act1 w1 E1 k1 k2 k3 => ?_
        have := hQ act1 w1 E1 k1 k2 k3
        cases e with
        | normal => exact absurd rfl he
        | _ => exact this
  | region id ops d =>
    intro a S e a' S' act w E Q h hs ha hr hQ
    have fin : ∀ {l : List AV} {act' : Act} {w' : World} {E' : Env}, Step S.objs.length S.ends.length E w E' w' → Pair (VR E' w') l act'.tmps.toList → act'.defers = act.defers → ActR E' w' { a with tmps := l } act' := fun h1 h2 h3 => by
      have hx := ha.ext h1.toExt
      exact ⟨h2, by rw [h3]; exact hx.len, by rw [h3]; exact hx.marks⟩
    cases d with
    | false =>
      simp only [aC] at h
      split at h
      · rename_i l1 S1 h1
        cases h
        refine wpIn_region_list ?_
        exact aOps_sound hN hL _ h1 hs ha.tmps fun act' w' E' k1 k2 k3 k4 => hQ act' w' E' k1 k2 (fin k2 k3 k4)
      · cases h
    | true =>
      simp only [aC] at h
      split at h
      · rename_i l1 S1 h1
        cases h
        exact aDraw_sound hN hL hm h1 hs ha.tmps fun act' w' E' k1 k2 _ k3 k4 => hQ act' w' E' k1 k2 (fin k2 k3 k4)
      · cases h
  | rangeFunc g ps asg body _ _ =>
    intro a S e a' S' act w E Q h hs ha hr hQ
    simp only [aC] at h
    split at h
    · rename_i f first caps hv
      obtain ⟨fs, cs, he, v1, v2⟩ := (hv ▸ aeval_rel ha.tmps g).fn_inv
      refine wpIn_rangeFunc fun fn _ => ?_
      cases rd with
      | none =>
        dsimp only at h
        have hr0 : r = none := hr
        subst hr0
        obtain ⟨p1, p2⟩ := hs.newObj (.deferred (some [])) 0 .dfr (World.alloc_heap_new _ _)
        have hd : (E.obj S.objs.length w.heap.size 0).j S.objs.length = some w.heap.size := by simp [Env.obj]
        obtain ⟨rec, hrec⟩ : ∃ rec : Loop, rec = { state := .ready, pending := none, fn := fn, tmps := act.tmps, params := ps, assign := asg, body := body, defers := w.heap.size } := ⟨_, rfl⟩
        obtain ⟨w1, hw1⟩ : ∃ w1, w.alloc (.deferred (some [])) = w1 := ⟨_, rfl⟩
        have hsz : w1.heap.size = w.heap.size + 1 := by rw [← hw1]; simp
        rw [hw1] at p1 p2
        have hlen : (S.push .dfr).objs.length = S.objs.length + 1 := by simp [AS.push]
        have ha1 := ha.ext p2.toExt
        have hx2 := p1.ext_obj (.loop rec) 0
        obtain ⟨p3, p4⟩ := p1.newObj (.loop rec) 0 (.loop { state := .ready, pending := none, hint := hf, tmps := a.tmps, params := ps, assign := asg, body := body, defers := S.objs.length }) (by
          refine ⟨act.tmps.toList, w.heap.size, fn, ?_, ha1.tmps.ext hx2, hx2.j _ _ hd⟩
          rw [World.alloc_heap_new, hrec])
        rw [hlen] at p3 p4
        obtain ⟨E2, hE2⟩ : ∃ E2, (E.obj S.objs.length w.heap.size 0).obj (S.objs.length + 1) w1.heap.size 0 = E2 := ⟨_, rfl⟩
        rw [hE2] at p3 p4
        have p5 : Step S.objs.length S.ends.length E w E2 (w1.alloc (.loop rec)) := p2.trans p4 (by omega) (Nat.le_refl _)
        have hl : E2.j (S.objs.length + 1) = some w1.heap.size := by rw [← hE2]; simp [Env.obj]
        obtain ⟨x, S1, rr, hcall, _⟩ := arange_some h
        obtain ⟨d, d1, d2⟩ := run_rangeCall hN he (hL.ent hcall) w1.heap.size (w1.alloc (.loop rec))
        have hargs : Pair (VR E2 (w1.alloc (.loop rec))) (first ++ [.yld (S.objs.length + 1)] ++ caps) (fs ++ [Value.func (.yield w1.heap.size) #[] #[]] ++ cs) :=
          ((v1.ext p5.toExt).app ⟨rfl, fun i x y hx hy => by
            cases i with
            | zero => simp at hx hy; subst hx; subst hy; exact VR.yld hl
            | succ i => simp at hx⟩).app (v2.ext p5.toExt)
        have ha2 : ActR E2 (w1.alloc (.loop rec)) { a with marks := S.objs.length :: a.marks } { act with defers := [{ target := .collected w.heap.size, args := #[] }] ++ act.defers } := by
          have hx := ha.ext p5.toExt
          refine ⟨hx.tmps, by simp [hx.len], fun i o d ho hd' => ?_⟩
          cases i with
          | zero => simp at ho hd'; subst ho; subst hd'; exact ⟨w.heap.size, by rw [← hE2]; simp [Env.obj], rfl⟩
          | succ i => simp at ho hd'; exact hx.marks i o d ho hd'
        refine ⟨w1.heap.size, [{ target := .collected w.heap.size, args := #[] }], w1.alloc (.loop rec), d, w1.alloc (.loop rec), f, (fs ++ [Value.func (.yield w1.heap.size) #[] #[]] ++ cs).toArray, w1.alloc (.loop rec), ?_, d1, fun _ _ => trivial, d2, nofun, ?_⟩
        · have := run_enterLoop_outer (P := C.P) (w := w) fn act.tmps ps asg body
          rw [hw1, ← hsz, ← hrec] at this
          exact this
        · exact arange_sound (r := none) hL h p3 hargs hl ha2 fun w' E' q1 q2 q3 => hQ _ w' E' q1 (p5.trans q2 (by simp [AS.push]) (Nat.le_refl _)) q3
      | some o =>
        dsimp only at h
        split at h
        · rename_i r0 hr0
          obtain ⟨l0, rfl, hj0⟩ := hr
          obtain ⟨zs, gd, fn0, hh, _, hgd⟩ := hs.obj o _ l0 hr0 hj0
          obtain ⟨rec, hrec⟩ : ∃ rec : Loop, rec = { state := .ready, pending := none, fn := fn, tmps := act.tmps, params := ps, assign := asg, body := body, defers := gd } := ⟨_, rfl⟩
          have hx2 := hs.ext_obj (.loop rec) 0
          obtain ⟨p3, p4⟩ := hs.newObj (.loop rec) 0 (.loop { state := .ready, pending := none, hint := hf, tmps := a.tmps, params := ps, assign := asg, body := body, defers := r0.defers }) (by
            refine ⟨act.tmps.toList, gd, fn, ?_, ha.tmps.ext hx2, hx2.j _ _ hgd⟩
            rw [World.alloc_heap_new, hrec])
          obtain ⟨E2, hE2⟩ : ∃ E2, E.obj S.objs.length w.heap.size 0 = E2 := ⟨_, rfl⟩
          rw [hE2] at p3 p4
          have hl : E2.j S.objs.length = some w.heap.size := by rw [← hE2]; simp [Env.obj]
          obtain ⟨x, S1, rr, hcall, _⟩ := arange_some h
          obtain ⟨d, d1, d2⟩ := run_rangeCall hN he (hL.ent hcall) w.heap.size (w.alloc (.loop rec))
          have hargs : Pair (VR E2 (w.alloc (.loop rec))) (first ++ [.yld S.objs.length] ++ caps) (fs ++ [Value.func (.yield w.heap.size) #[] #[]] ++ cs) :=
            ((v1.ext p4.toExt).app ⟨rfl, fun i x y hx hy => by
              cases i with
              | zero => simp at hx hy; subst hx; subst hy; exact VR.yld hl
              | succ i => simp at hx⟩).app (v2.ext p4.toExt)
          refine ⟨w.heap.size, [], w.alloc (.loop rec), d, w.alloc (.loop rec), f, (fs ++ [Value.func (.yield w.heap.size) #[] #[]] ++ cs).toArray, w.alloc (.loop rec), ?_, d1, fun _ _ => trivial, d2, nofun, ?_⟩
          · have := run_enterLoop_inner (P := C.P) (w := w) hh fn act.tmps ps asg body
            rw [← hrec] at this
            exact this
          · exact arange_sound (r := some l0) hL h p3 hargs hl (ha.ext p4.toExt) fun w' E' q1 q2 q3 => hQ _ w' E' q1 (p4.trans q2 (by simp [AS.push]) (Nat.le_refl _)) q3
        · cases h
    · cases h
  | _ => intro a S e a' S' act w E Q h; simp only [aC] at h; cases h

end
end Go.AM
