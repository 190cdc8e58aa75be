/- The abstract machine, thirteenth text: append. -/
import Derived.Test.YtlfobfhklmndkaaGreatDoorA11
namespace Go.AM
open Go.RowKit Go.MapKept

variable {B0 : Nat} {w0 w : World} {E : Env} {S S' : AS} {P : Program}

/-- An object takes over the block of one that is gone. -/
theorem SR.adopt (h : SR B0 w0 E S w) {w' : World} {o g : Nat} (hj : E.j o = some g) (hdead : S.objs[o]? = some .dead) (hgone : ∀ o', E.j o' = some g → S.objs[o']? = some .dead) (hg : w.grownBy w' (some g)) (ob : AObj)
    (hob : OR (E.obj S.objs.length g (E.cp o)) w' S.objs.length g ob) :
    SR B0 w0 (E.obj S.objs.length g (E.cp o)) (S.push ob) w' ∧ Step S.objs.length S.ends.length E w (E.obj S.objs.length g (E.cp o)) w' := by
  obtain ⟨hB, hlt, hnf⟩ := h.jb o g hj
  have hrow : ∀ g', some g = some g' → (∀ k, ¬ E.fz g' k) ∧ ∀ t, 0 < E.en t → (E.tk t).1 ≠ g' := fun g' e => by cases e; exact ⟨hnf, fun t ht => h.jblock ht hj⟩
  have hn := h.jnew
  have hx0 := h.ext_of (some g) hg hrow
  have hx : Ext E w (E.obj S.objs.length g (E.cp o)) w' := { hx0 with
    j := fun o' g' hj' => by
      have : o' ≠ S.objs.length := fun e => by rw [e, hn] at hj'; cases hj'
      simpa [Env.obj, this] using hj'
    cp := fun o' g' hj' => by
      have : o' ≠ S.objs.length := fun e => by rw [e, hn] at hj'; cases hj'
      simp [Env.obj, this] }
  have hold : ∀ g', g' < w.heap.size → g' ≠ g → w'.heap[g']? = w.heap[g']? := fun g' h1 h2 => hg.block g' h1 (fun e => h2 (by cases e; rfl))
  have hjne : ∀ o' g', (E.obj S.objs.length g (E.cp o)).j o' = some g' → (o' = S.objs.length ∧ g' = g) ∨ (o' ≠ S.objs.length ∧ E.j o' = some g') := fun o' g' hj' => by
    by_cases e : o' = S.objs.length
    · left; simp [Env.obj, e] at hj'; exact ⟨e, hj'.symm⟩
    · right; simp [Env.obj, e] at hj'; exact ⟨e, hj'⟩
  have hlv : ∀ o', o' < S.objs.length → (S.push ob).live o' → S.live o' := fun o' ho hl e => hl (by simpa [AS.push, List.getElem?_append_left ho] using e)
  refine ⟨{ below := h.below.grown hg h.base (fun k e => by cases e; exact hB), base := Nat.le_trans h.base hg.size, obj := ?_, jlt := ?_, inj := ?_, jb := ?_, fzc := ?_, en := h.en, tok := ?_, tinj := h.tinj }, { hx with size := hg.size, frame := ?_, jn := ?_, tn := fun t ht => .inl ⟨t, ht, rfl⟩, jid := ?_, tid := fun _ ht => .inl ht, fn := fun _ _ hf => .inl hf }⟩
  · intro o' ob' g' ho hj'
    rcases hjne o' g' hj' with ⟨rfl, rfl⟩ | ⟨hne, hj2⟩
    · simp [AS.push] at ho; subst ho; exact hob
    · have hlt' := h.jlt o' g' hj2
      have ho' : S.objs[o']? = some ob' := by simpa [AS.push, List.getElem?_append_left hlt'] using ho
      by_cases e : g' = g
      · subst e
        have := hgone o' hj2
        rw [ho'] at this; cases this; trivial
      · exact (h.obj o' ob' g' ho' hj2).ext hx hj2 (hold g' (h.jb o' g' hj2).2.1 e)
  · intro o' g' hj'
    rcases hjne o' g' hj' with ⟨rfl, _⟩ | ⟨_, hj2⟩
    · simp [AS.push]
    · have := h.jlt o' g' hj2; simp [AS.push]; omega
  · intro o1 o2 g' h1 h2 l1 l2
    rcases hjne o1 g' h1 with ⟨rfl, e1⟩ | ⟨n1, k1⟩ <;> rcases hjne o2 g' h2 with ⟨rfl, e2⟩ | ⟨n2, k2⟩
    · rfl
    · subst e1; exact absurd (hgone o2 k2) (hlv _ (h.jlt _ _ k2) l2)
    · subst e2; exact absurd (hgone o1 k1) (hlv _ (h.jlt _ _ k1) l1)
    · exact h.inj o1 o2 g' k1 k2 (hlv _ (h.jlt _ _ k1) l1) (hlv _ (h.jlt _ _ k2) l2)
  · intro o' g' hj'
    rcases hjne o' g' hj' with ⟨_, rfl⟩ | ⟨_, hj2⟩
    · exact ⟨hB, Nat.lt_of_lt_of_le hlt hg.size, hnf⟩
    · obtain ⟨a, b, d⟩ := h.jb o' g' hj2
      exact ⟨a, Nat.lt_of_lt_of_le b hg.size, d⟩
  · exact fun g' k hf => let ⟨z, hz⟩ := h.fzc g' k hf; ⟨z, (hx.cell g' k hf).trans hz⟩
  · intro t ht
    obtain ⟨a, ⟨c', T, hc⟩, d, e⟩ := h.tok t ht
    refine ⟨a, ⟨c', T, (hold _ (h.tblock ht) (h.jblock ht hj)).trans hc⟩, d, fun o' hj' => ?_⟩
    rcases hjne o' _ hj' with ⟨_, e1⟩ | ⟨_, hj2⟩
    · exact h.jblock ht hj e1
    · exact e o' hj2
  · intro g' h1 h2 _
    exact hold g' h1 (fun e => h2 o (by rw [e]; exact hj))
  · intro o' g' hj'
    rcases hjne o' g' hj' with ⟨_, e1⟩ | ⟨_, hj2⟩
    · exact .inl ⟨o, by rw [e1]; exact hj⟩
    · exact .inl ⟨o', hj2⟩
  · intro o' hj'
    by_cases e : o' = S.objs.length
    · exact .inr (by omega)
    · left; simpa [Env.obj, e] using hj'

theorem setRow_get {cur : Array Value} {b : Nat} {news : List Value} (hf : b + news.length ≤ cur.size) (k : Nat) :
    (cur.toList.take b ++ news ++ cur.toList.drop (b + news.length)).toArray[k]? = if b ≤ k ∧ k < b + news.length then news[k - b]? else cur[k]? := by
  simp only [List.getElem?_toArray]
  rw [List.append_assoc, List.getElem?_append, List.length_take, Array.length_toList, Nat.min_eq_left (by omega)]
  split
  · rw [List.getElem?_take, if_pos (by assumption), if_neg (by omega)]; simp
  · rw [List.getElem?_append]
    split
    · rw [if_pos (by omega)]
    · rw [List.getElem?_drop, if_neg (by omega), Array.getElem?_toList]; congr 1; omega

theorem setRow_sz {cur : Array Value} {b : Nat} {news : List Value} (hf : b + news.length ≤ cur.size) : (cur.toList.take b ++ news ++ cur.toList.drop (b + news.length)).toArray.size = cur.size := by
  simp only [List.size_toArray, List.length_append, List.length_take, List.length_drop, Array.length_toList]; omega

theorem Pair.app {R : AV → Value → Prop} {l m : List AV} {xs ys : List Value} (h : Pair R l xs) (k : Pair R m ys) : Pair R (l ++ m) (xs ++ ys) :=
  ⟨by simp [h.1, k.1], fun i x y hx hy => by
    rw [List.getElem?_append] at hx hy
    rw [← h.1] at hy
    split at hx
    · rename_i hl; rw [if_pos hl] at hy; exact h.2 i x y hx hy
    · rename_i hl; rw [if_neg hl] at hy; exact k.2 _ x y hx hy⟩

set_option maxHeartbeats 1000000 in
theorem append_sound (h : SR B0 w0 E S w) {mu : Bool} {t ty : TypeId} {s x r : AV} {s' x' : Value} (hs : VR E w s s') (hx : VR E w x x') (hr : aappend P mu S t s x = some (r, S')) :
    ∃ y w' E', (Builtin.append_ #[t, t] ty #[s', x']).run P w = .ok y w' ∧ SR B0 w0 E' S' w' ∧ Step S.objs.length S.ends.length E w E' w' ∧ VR E' w' r y := by
  unfold aappend at hr
  obtain ⟨p, hp, hr1⟩ := Option.bind_eq_some_iff.1 hr; clear hr
  obtain ⟨z, hz, hr2⟩ := Option.bind_eq_some_iff.1 hr1; clear hr1
  obtain ⟨i, hi, hr3⟩ := Option.bind_eq_some_iff.1 hr2; clear hr2
  obtain ⟨rows, hrows, hr4⟩ := Option.bind_eq_some_iff.1 hr3; clear hr3
  obtain ⟨hu, hsz, hpos⟩ := isRow_some hp
  obtain ⟨i', zv, hi', hzv, hf, rfl⟩ := azero_some hz
  rw [hi] at hi'; cases hi'
  have his : i.size = p.2 := by obtain ⟨i2, hi2, hs2⟩ := szOf_some hsz; rw [hi] at hi2; cases hi2; exact hs2
  split at hr4
  · cases hr4
  rename_i hzl
  have hzs : zv.cells.size = p.2 := by
    have : (List.map AV.v zv.cells.toList).length = p.2 := Decidable.not_not.1 hzl
    simpa using this
  have hrow := rowsOf_sound h hpos hx hrows
  -- nothing is appended
  have hempty : rows.length = 0 → ∀ {b : Option Addr} {l c : Nat}, s' = .slice b l c → l ≤ c → some (s, S) = some (r, S') → ∃ y w' E', (Builtin.append_ #[t, t] ty #[s', x']).run P w = .ok y w' ∧ SR B0 w0 E' S' w' ∧ Step S.objs.length S.ends.length E w E' w' ∧ VR E' w' r y := by
    intro h0 b l c e hlc hq
    cases hq
    subst e
    refine ⟨_, w, E, run_none hu hi hlc x' ?_, h, Step.refl _ _ _ _, hs⟩
    rcases hrow with ⟨_, ae, e⟩ | ⟨g, b', c', e, _⟩
    · cases ae with
      | none => exact .inl e
      | some a1 => exact .inr ⟨_, _, e⟩
    · exact .inr ⟨_, _, by rw [e, h0]⟩
  -- something is
  have hsome : rows.length ≠ 0 → ∃ (a : Addr) (c : Nat) (news : List Value), x' = .slice (some a) rows.length c ∧ news.length = rows.length * p.2 ∧ (∀ j v, news[j]? = some v → w.cell? (a.add j) = some v) ∧ Pair (VR E w) rows.flatten news ∧ (∀ u ∈ news, u.oneCell' = true) ∧ (∀ r ∈ rows, r.length = p.2) := by
    intro h0
    rcases hrow with ⟨e, _⟩ | ⟨g, b', c', e, hle, hst, hl, hone⟩
    · subst e; simp at h0
    · obtain ⟨ys, hp1, hp2⟩ := hst.list
      exact ⟨⟨g, b', none⟩, c', ys, e, by rw [← hp1.1]; exact flat_len rows p.2 hl, fun j v hv => by rw [addr_add]; exact hp2 j v hv, hp1, hp1.oneCell hone, hl⟩
  have hflat : (∀ r ∈ rows, r.length = p.2) → rows.flatten.length = rows.length * p.2 := flat_len rows p.2
  -- a new row, made by append
  have hnew : ∀ {sLen sCap : Nat} {olds : List Value} {rows0 : List (List AV)}, rows.length ≠ 0 → ((s' = .slice none 0 0 ∧ sLen = 0 ∧ sCap = 0 ∧ olds = []) ∨ ∃ b, s' = .slice (some b) sLen sCap ∧ olds.length = sLen * p.2 ∧ ∀ j v, olds[j]? = some v → w.cell? (b.add j) = some v) →
      sCap < sLen + rows.length → (sLen + rows.length) * i.bytes ≤ 140737488355328 → sLen + rows.length ≤ maxLen → rows0.length = sLen → (∀ r ∈ rows0, r.length = p.2) → Pair (VR E w) rows0.flatten olds →
      ∃ (arr : Array Value) (cap : Nat), (Builtin.append_ #[t, t] ty #[s', x']).run P w = .ok (.slice (some ⟨w.heap.size, 0, none⟩) (sLen + rows.length) cap) (w.drew.alloc (.cells arr p.1)) ∧ sLen + rows.length ≤ cap ∧ cap ≤ maxLen ∧ arr.size = cap * p.2 ∧
        (∀ (i : Nat) x y, (rows0.flatten ++ rows.flatten)[i]? = some x → arr[i]? = some y → VR E w x y) ∧ (rows0.flatten ++ rows.flatten).length = (sLen + rows.length) * p.2 := by
    intro sLen sCap olds rows0 h0 hold hcap hby hml hl0 hr0 hp0
    obtain ⟨a, c, news, e1, e2, e3, e4, e5, e6⟩ := hsome h0
    have hrun := run_grow (P := P) (ty := ty) hu hi hzv his hold e1 e2 e3 hcap hby hml
    have hge := grownCap_ge w (sLen + rows.length) sCap p.1
    have hle := grownCap_le_maxLen w (sLen + rows.length) sCap p.1 hml
    have holen : olds.length = sLen * p.2 := by rw [← hp0.1, flat_len rows0 p.2 hr0, hl0]
    refine ⟨_, _, hrun, hge, hle, size_grown hzs (by rw [holen, e2, Nat.add_mul]) hge, grown_get hp0 e4, ?_⟩
    rw [List.length_append, flat_len rows0 p.2 hr0, hflat e6, hl0, Nat.add_mul]
  split at hr4
  · -- onto nil
    obtain ⟨_, rfl⟩ := hs.flat_inv
    split at hr4
    · rename_i h0; exact hempty h0 rfl (Nat.le_refl _) hr4
    · rename_i h0
      split at hr4
      · rename_i hc
        obtain ⟨arr, cap, hrun, c1, c2, c3, c4, c5⟩ := hnew (sLen := 0) (sCap := 0) (olds := []) (rows0 := []) h0 (.inl ⟨rfl, rfl, rfl, rfl⟩) (by omega) (by rw [Nat.zero_add]; exact hc.1) (by rw [Nat.zero_add]; exact hc.2) rfl (by simp) Pair.nil
        simp only [Nat.zero_add, List.flatten_nil, List.nil_append] at hrun c1 c4 c5
        obtain ⟨_, _, _, _, _, _, _, _, hrl⟩ := hsome h0
        obtain ⟨hd1, hd2⟩ := drew_later h
        have hpw : ∀ (i : Nat) x y, rows.flatten[i]? = some x → arr[i]? = some y → VR E w.drew x y := fun i x y hx hy => (c4 i x y hx hy).ext hd2.toExt
        have hle : rows.length * p.2 ≤ arr.size := by rw [c3]; exact Nat.mul_le_mul_right _ c1
        cases mu with
        | true =>
          simp only [if_true, Option.some.injEq, Prod.mk.injEq] at hr4
          obtain ⟨rfl, rfl⟩ := hr4
          obtain ⟨E', k1, k2, k3, k4⟩ := hd1.newCells arr p.1 rows.flatten (by omega) hpw
          refine ⟨_, _, E', hrun, k1, hd2.trans k2 (Nat.le_refl _) (Nat.le_refl _), 1, _, cap, k3, rfl, Nat.le_refl _, c1, c2, hpos, by rw [k4, c3]; omega⟩
        | false =>
          simp only [Bool.false_eq_true, if_false, Option.some.injEq, Prod.mk.injEq] at hr4
          obtain ⟨rfl, rfl⟩ := hr4
          have hen : E.en S.ends.length = 0 := by rcases h.en S.ends.length with e | e <;> simpa using e
          obtain ⟨k1, k2, k3⟩ := hd1.newTok (S' := S.tokN rows.length) arr p.1 (rows.length * p.2) S.ends.length rows.length p.2 hle rows.flatten (by omega) hpw (by omega) rfl (fun t' => by
            simp only [AS.tokN, List.getD_eq_getElem?_getD, List.getElem?_append]
            by_cases e1 : t' < S.ends.length
            · rw [if_pos e1, if_neg (by omega)]
            · rw [if_neg e1]
              by_cases e2 : t' = S.ends.length
              · subst e2; simp
              · rw [if_neg e2]; rw [List.getElem?_eq_none (by simp; omega), List.getElem?_eq_none (by omega)]) (.inr (Nat.le_refl _))
          refine ⟨_, _, _, hrun, k1, hd2.trans k2 (Nat.le_refl _) (Nat.le_refl _), ?_⟩
          refine VR.lst c1 c2 hpos hrl k3 ⟨rfl, by omega, ?_, fun _ => .inr ⟨?_, ?_, ?_, fun a T f ha => ?_⟩⟩
          · simp [Env.tok]
          · simp [Env.tok]
          · simp [Env.tok]
          · simp [Env.tok]
          · have ha' := (World.alloc_heap_new w.drew (.cells arr p.1)).symm.trans ha
            cases ha'; rw [c3]; omega
      · cases hr4
  · -- onto a list
    rename_i c rows0
    rcases hs.lst_inv with ⟨rfl, ad, rfl, hca⟩ | ⟨g, b, cap0, sz0, rfl, q1, q2, q3, q4, q5, q6⟩
    · split at hr4
      · rename_i h0; exact hempty h0 rfl (Nat.le_refl _) hr4
      · rcases hca with rfl | ⟨rfl, _⟩ <;> simp at hr4
    split at hr4
    · rename_i h0; exact hempty h0 rfl q1 hr4
    · rename_i h0
      split at hr4
      · rename_i hc
        obtain ⟨hc1, hc2, hc3⟩ := hc
        have hr0 : ∀ r ∈ rows0, r.length = p.2 := fun r hr => by have := List.all_eq_true.1 hc1 r hr; simpa using this
        obtain ⟨ys, hy1, hy2⟩ := q5.stand.list
        have hysl : ys.length = rows0.length * p.2 := by rw [← hy1.1, flat_len rows0 p.2 hr0]
        obtain ⟨hd1, hd2⟩ := drew_later h
        obtain ⟨_, _, _, _, _, _, _, _, hrl⟩ := hsome h0
        have hall : ∀ r ∈ rows0 ++ rows, r.length = p.2 := fun r hr => by
          rcases List.mem_append.1 hr with h1 | h1
          · exact hr0 r h1
          · exact hrl r h1
        -- behind a growth, as a token's list
        have hgrow : ∀ (t' e' : Nat) (S2 : AS), cap0 < rows0.length + rows.length → E.en t' < e' → S2.objs = S.objs → (∀ t'', S2.ends.getD t'' 0 = if t'' = t' then e' else S.ends.getD t'' 0) → (0 < E.en t' ∨ S.ends.length ≤ t') →
            ∃ y w' E', (Builtin.append_ #[t, t] ty #[.slice (some ⟨g, b, none⟩) rows0.length cap0, x']).run P w = .ok y w' ∧ SR B0 w0 E' S2 w' ∧ Step S.objs.length S.ends.length E w E' w' ∧ VR E' w' (.lst (.tok t' e' p.2) (rows0 ++ rows)) y := by
          intro t' e' S2 hlt hen hob hends htid
          obtain ⟨arr, cap, hrun, c1, c2, c3, c4, c5⟩ := hnew (sLen := rows0.length) (sCap := cap0) (olds := ys) (rows0 := rows0) h0 (.inr ⟨_, rfl, hysl, fun j v hv => by rw [addr_add]; exact hy2 j v hv⟩) hlt hc2 hc3 rfl hr0 hy1
          have hle : (rows0.length + rows.length) * p.2 ≤ arr.size := by rw [c3]; exact Nat.mul_le_mul_right _ c1
          obtain ⟨k1, k2, k3⟩ := hd1.newTok (S' := S2) arr p.1 ((rows0.length + rows.length) * p.2) t' e' p.2 hle (rows0.flatten ++ rows.flatten) (by omega) (fun i x y hx hy => (c4 i x y hx hy).ext hd2.toExt) hen hob hends htid
          refine ⟨_, _, _, hrun, k1, hd2.trans k2 (Nat.le_refl _) (Nat.le_refl _), ?_⟩
          have hL : (rows0 ++ rows).length = rows0.length + rows.length := by simp
          have := VR.lst (c := .tok t' e' p.2) (rows := rows0 ++ rows) (cap := cap) (sz := p.2) (by omega) c2 hpos hall (by rw [List.flatten_append]; exact k3) ⟨rfl, by omega, by simp [Env.tok], fun _ => .inr ⟨by simp [Env.tok], by simp [Env.tok], by simp [Env.tok], fun a T f ha => by
            have ha' := (World.alloc_heap_new w.drew (.cells arr p.1)).symm.trans ha
            cases ha'; rw [c3]; omega⟩⟩
          rw [hL] at this
          exact this
        split at hr4
        · -- its capacity is its length
          have hcap : cap0 = rows0.length := q6
          split at hr4
          · cases hr4
            obtain ⟨arr, cap, hrun, c1, c2, c3, c4, c5⟩ := hnew (sLen := rows0.length) (sCap := cap0) (olds := ys) (rows0 := rows0) h0 (.inr ⟨_, rfl, hysl, fun j v hv => by rw [addr_add]; exact hy2 j v hv⟩) (by omega) hc2 hc3 rfl hr0 hy1
            have hle : (rows0.length + rows.length) * p.2 ≤ arr.size := by rw [c3]; exact Nat.mul_le_mul_right _ c1
            obtain ⟨E', k1, k2, k3, k4⟩ := hd1.newCells arr p.1 (rows0.flatten ++ rows.flatten) (by omega) (fun i x y hx hy => (c4 i x y hx hy).ext hd2.toExt)
            exact ⟨_, _, E', hrun, k1, hd2.trans k2 (Nat.le_refl _) (Nat.le_refl _), 1, _, cap, k3, rfl, Nat.le_refl _, c1, c2, hpos, by rw [k4, c3]; omega⟩
          · cases hr4
            have hen : E.en S.ends.length = 0 := by rcases h.en S.ends.length with e | e <;> simpa using e
            exact hgrow S.ends.length (rows0.length + rows.length) (S.tokN (rows0.length + rows.length)) (by omega) (by omega) rfl (fun t' => by
              simp only [AS.tokN, List.getD_eq_getElem?_getD, List.getElem?_append]
              by_cases e1 : t' < S.ends.length
              · rw [if_pos e1, if_neg (by omega)]
              · rw [if_neg e1]
                by_cases e2 : t' = S.ends.length
                · subst e2; simp
                · rw [if_neg e2]; rw [List.getElem?_eq_none (by simp; omega), List.getElem?_eq_none (by omega)]) (.inr (Nat.le_refl _))
        · -- a token's
          rename_i t' e' s0
          split at hr4
          · rename_i hend
            obtain ⟨hend, hs0⟩ := hend
            subst hs0
            cases hr4
            obtain ⟨k0, k1, k2, k3⟩ := q6
            subst k0
            have hee : E.en t' = e' := by
              rcases h.en t' with e | e
              · omega
              · rw [e, List.getD_eq_getElem?_getD, hend]; rfl
            have hends2 : ∀ t'', (S.tokS t' (e' + rows.length)).ends.getD t'' 0 = if t'' = t' then e' + rows.length else S.ends.getD t'' 0 := fun t'' => by
              have hlt' : t' < S.ends.length := (List.getElem?_eq_some_iff.1 hend).1
              simp only [AS.tokS, List.getD_eq_getElem?_getD, List.getElem?_set]
              by_cases e1 : t' = t''
              · subst e1; simp [hlt']
              · rw [if_neg e1, if_neg (fun e => e1 e.symm)]
            by_cases hroom : rows0.length + rows.length ≤ cap0
            · rcases k3 hee.symm with c0 | ⟨z1, z2, z3, z4⟩
              · omega
              · -- in place
                obtain ⟨a, c, news, e1, e2, e3, e4, e5, e6⟩ := hsome h0
                have hent : 0 < E.en t' := by omega
                obtain ⟨hB, ⟨cur, T, hg⟩, _⟩ := h.tok t' hent
                rw [z1] at hg
                have hbig := z4 cur T _ hg
                have hmul := Nat.mul_le_mul_right p.2 hroom
                have htk : E.tk t' = (g, b + rows0.length * p.2, p.2) := by
                  rw [← z1, ← z2, ← z3]
                have hfit : (b + rows0.length * p.2) + rows.length * p.2 ≤ cur.size := by rw [Nat.add_mul] at hmul; omega
                have hrun := run_room (P := P) (ty := ty) (off := b) (sLen := rows0.length) (sCap := cap0) (c := c) hu hi his hg e2 e3 e5 hroom hfit
                rw [← e1] at hrun
                have hget := setRow_get (cur := cur) (b := b + rows0.length * p.2) (news := news) (by rw [e2]; exact hfit)
                have hs := setRow_sz (cur := cur) (b := b + rows0.length * p.2) (news := news) (by rw [e2]; exact hfit)
                obtain ⟨m1, m2, m3⟩ := h.growTok (S' := S.tokS t' (e' + rows.length)) hent htk hg hs (rows.length * p.2) hfit (fun k hk => by rw [hget k, if_neg (by omega)]) rows.flatten (by rw [flat_len rows p.2 e6]; exact Nat.le_refl _)
                  (fun i x y hx hy => by
                    have hil : i < rows.length * p.2 := by have := (List.getElem?_eq_some_iff.1 hx).1; rwa [flat_len rows p.2 e6] at this
                    rw [hget, if_pos (by rw [e2]; omega), show b + rows0.length * p.2 + i - (b + rows0.length * p.2) = i by omega] at hy
                    exact e4.2 i x y hx hy) (e' + rows.length) (by omega) rfl hends2
                refine ⟨_, _, _, hrun, m1, m2, ?_⟩
                have hL : (rows0 ++ rows).length = rows0.length + rows.length := by simp
                have hrow0 : Row (E.tok t' (e' + rows.length) g (b + rows0.length * p.2 + rows.length * p.2) p.2 (b + rows0.length * p.2) (rows.length * p.2)) _ (VR (E.tok t' (e' + rows.length) g (b + rows0.length * p.2 + rows.length * p.2) p.2 (b + rows0.length * p.2) (rows.length * p.2)) _) rows0.flatten g b := fun m x hx => by
                  obtain ⟨y1, y, y2, y3⟩ := q5 m x hx
                  exact ⟨m2.fz _ _ y1, y, (m2.cell _ _ y1).trans y2, y3.ext m2.toExt⟩
                have hboth : Row (E.tok t' (e' + rows.length) g (b + rows0.length * p.2 + rows.length * p.2) p.2 (b + rows0.length * p.2) (rows.length * p.2)) _ (VR (E.tok t' (e' + rows.length) g (b + rows0.length * p.2 + rows.length * p.2) p.2 (b + rows0.length * p.2) (rows.length * p.2)) _) (rows0 ++ rows).flatten g b := fun m x hx => by
                  rw [List.flatten_append, List.getElem?_append, flat_len rows0 p.2 hr0] at hx
                  split at hx
                  · exact hrow0 m x hx
                  · rename_i hge
                    have := m3 (m - rows0.length * p.2) x hx
                    rwa [show b + rows0.length * p.2 + (m - rows0.length * p.2) = b + m by omega] at this
                have := VR.lst (c := .tok t' (e' + rows.length) p.2) (rows := rows0 ++ rows) (cap := cap0) (sz := p.2) (by omega) q2 hpos hall hboth ⟨rfl, by omega, by simp [Env.tok], fun _ => .inr ⟨by simp [Env.tok], by simp [Env.tok, Nat.add_mul]; omega, by simp [Env.tok], fun a T f ha => by
                  rw [setRow_heap w g cur _ _ _ hg] at ha
                  cases ha; rw [hs]; exact hbig⟩⟩
                rw [hL] at this
                exact this
            · exact hgrow t' (e' + rows.length) (S.tokS t' (e' + rows.length)) (by omega) (by omega) rfl hends2 (.inl (by omega))
          · cases hr4
        · cases hr4
        · cases hr4
      · cases hr4
  · -- onto an object's
    rename_i o sz off len cap
    split at hr4
    · rename_i hsz'
      subst hsz'
      obtain ⟨g, c, hj, rfl, q1, q2, q3, q4, q5⟩ := hs.slc_inv
      split at hr4
      · rename_i h0; exact hempty h0 rfl (by omega) hr4
      · rename_i h0
        obtain ⟨q, hq, hr5⟩ := Option.bind_eq_some_iff.1 hr4; clear hr4
        obtain ⟨arr, hg, hcp, hle, hvr⟩ := h.obj o _ g (cellsAt_some hq) hj
        obtain ⟨a, cc, news, e1, e2, e3, e4, e5, e6⟩ := hsome h0
        have hlive : S.live o := by unfold AS.live; rw [cellsAt_some hq]; simp
        have hrow' : ∀ g', some g = some g' → (∀ k, ¬ E.fz g' k) ∧ ∀ t, 0 < E.en t → (E.tk t).1 ≠ g' := fun g' e => by cases e; exact ⟨(h.jb o g hj).2.2, fun t ht => h.jblock ht hj⟩
        have hfl : rows.flatten.length = rows.length * p.2 := flat_len rows p.2 e6
        -- the row written in place
        have hplace : len + rows.length ≤ c → ∃ arr' : Array Value, (Builtin.append_ #[t, t] ty #[.slice (some ⟨g, off, none⟩) len c, x']).run P w = .ok (.slice (some ⟨g, off, none⟩) (len + rows.length) c) (w.setRow g arr') ∧ arr'.size = arr.size ∧
            ∀ k, arr'[k]? = if off + len * p.2 ≤ k ∧ k < off + len * p.2 + rows.length * p.2 then news[k - (off + len * p.2)]? else arr[k]? := by
          intro hroom
          have hmul := Nat.mul_le_mul_right p.2 hroom
          have hfit : off + len * p.2 + rows.length * p.2 ≤ arr.size := by rw [Nat.add_mul] at hmul; omega
          have hrun := run_room (P := P) (ty := ty) (off := off) (sLen := len) (sCap := c) (c := cc) hu hi his hg e2 e3 e5 hroom hfit
          rw [← e1] at hrun
          refine ⟨_, hrun, setRow_sz (by rw [e2]; exact hfit), fun k => ?_⟩
          have := setRow_get (cur := arr) (b := off + len * p.2) (news := news) (by rw [e2]; exact hfit) k
          rw [e2] at this
          rw [e2]
          exact this
        split at hr5
        · rename_i hc
          cases hr5
          obtain ⟨hc1, hc2⟩ := hc
          obtain ⟨arr', hrun, hs1, hget⟩ := hplace (by omega)
          have hgb : w.grownBy (w.setRow g arr') (some g) := ⟨rfl, rfl, rfl, by simp, fun k _ hk => setRow_other w g k _ (fun e => hk (by rw [e]))⟩
          have hext := h.ext_of (some g) hgb hrow'
          have hmul := Nat.mul_le_mul_right p.2 hc1
          have hfit : off + len * p.2 + rows.flatten.length ≤ q.1.length := by rw [hfl]; rw [Nat.add_mul] at hmul; omega
          obtain ⟨k1, k2⟩ := h.setObj hj hlive hgb (.cells (splice q.1 (off + len * p.2) rows.flatten) q.2) ⟨_, setRow_heap w g arr _ q.2 _ hg, by omega, by rw [splice_length hfit]; omega, fun i x y hx hy => by
            rw [splice_get hfit, hfl] at hx
            rw [hget i] at hy
            refine VR.ext hext ?_
            split at hx
            · rename_i hin; rw [if_pos hin] at hy; exact e4.2 _ x y hx hy
            · rename_i hin; rw [if_neg hin] at hy; exact hvr i x y hx hy⟩
          exact ⟨_, _, E, hrun, k1, k2, 1, g, c, hj, rfl, hc1, q2, q3, q4, q5⟩
        · split at hr5
          · rename_i hnc hc
            cases hr5
            obtain ⟨hc1, hc2, hc3, hc4, hc5, hc6⟩ := hc
            subst hc2
            obtain ⟨m1, m2⟩ := h.setObj hj hlive (World.grownBy.refl w (some g)) .dead trivial
            have hkill : (S.set o .dead).objs[o]? = some .dead := by rw [AS.set_get, if_pos rfl, if_pos (h.jlt o g hj)]
            have hlen : (S.set o .dead).objs.length = S.objs.length := by simp [AS.set]
            by_cases hroom : len + rows.length ≤ c
            · obtain ⟨arr', hrun, hs1, hget⟩ := hplace hroom
              simp only [Nat.zero_add] at hget hrun
              have hgb : w.grownBy (w.setRow g arr') (some g) := ⟨rfl, rfl, rfl, by simp, fun k _ hk => setRow_other w g k _ (fun e => hk (by rw [e]))⟩
              have hgone : ∀ o', E.j o' = some g → (S.set o .dead).objs[o']? = some .dead := fun o' hj' => by
                by_cases e : o = o'
                · subst e; exact hkill
                · rw [AS.set_get, if_neg e]
                  refine Classical.byContradiction fun hn => e ?_
                  exact h.inj o o' g hj hj' hlive hn
              have hext0 := m1.ext_of (some g) hgb hrow'
              have hext : Ext E w (E.obj (S.set o .dead).objs.length g (E.cp o)) (w.setRow g arr') := { hext0 with
                j := fun o' g' hj' => by
                  have : o' ≠ (S.set o .dead).objs.length := fun e => by have := h.jlt o' g' hj'; omega
                  simpa [Env.obj, this] using hj'
                cp := fun o' g' hj' => by
                  have : o' ≠ (S.set o .dead).objs.length := fun e => by have := h.jlt o' g' hj'; omega
                  simp [Env.obj, this] }
              have hmul := Nat.mul_le_mul_right p.2 hroom
              have htl : (q.1.take (len * p.2)).length = len * p.2 := by simp; omega
              obtain ⟨k1, k2⟩ := m1.adopt hj hkill hgone hgb (.cells (q.1.take (len * p.2) ++ rows.flatten) p.1) ⟨arr', by rw [hc3] at hg; exact setRow_heap w g arr _ p.1 _ hg, by simp [Env.obj]; omega, by rw [List.length_append, htl, hfl]; rw [Nat.add_mul] at hmul; omega, fun i x y hx hy => by
                rw [hget i] at hy
                rw [List.getElem?_append, htl] at hx
                have hil : i < len * p.2 + rows.length * p.2 := by
                  split at hx
                  · omega
                  · have := (List.getElem?_eq_some_iff.1 hx).1; omega
                refine VR.ext hext ?_
                split at hx
                · rename_i hlt
                  rw [if_neg (by omega)] at hy
                  rw [List.getElem?_take, if_pos hlt] at hx
                  exact hvr i x y hx hy
                · rw [if_pos (by omega)] at hy
                  exact e4.2 _ x y hx hy⟩
              rw [hlen] at k1 k2
              refine ⟨_, _, _, hrun, k1, ?_, 1, g, c, by simp [Env.obj], rfl, Nat.le_refl _, hroom, q3, q4, by simp [Env.obj]; omega⟩
              have := m2.trans k2 (Nat.le_refl _) (Nat.le_refl _)
              exact this
            · have hst := (h.obj o _ g (cellsAt_some hq) hj).stand.drop 0 (len * p.2)
              simp only [List.drop_zero, Nat.add_zero] at hst
              obtain ⟨ys, hy1, hy2⟩ := hst.list
              have htl : (q.1.take (len * p.2)).length = len * p.2 := by simp; omega
              obtain ⟨arr', cap', hrun, c1, c2, c3, c4, c5⟩ := hnew (sLen := len) (sCap := c) (olds := ys) (rows0 := chunks p.2 len (q.1.take (len * p.2))) h0 (.inr ⟨_, rfl, by rw [← hy1.1, htl], fun j v hv => by rw [addr_add]; exact hy2 j v hv⟩) (by omega) hc4 hc5 (chunks_length _ _ _) (chunks_mem _ _ _ htl) (by rw [chunks_flatten _ _ _ htl]; exact hy1)
              rw [chunks_flatten _ _ _ htl] at c4 c5
              obtain ⟨hd1, hd2⟩ := drew_later m1
              have hle' : (len + rows.length) * p.2 ≤ arr'.size := by rw [c3]; exact Nat.mul_le_mul_right _ c1
              obtain ⟨E', k1, k2, k3, k4⟩ := hd1.newCells arr' p.1 (q.1.take (len * p.2) ++ rows.flatten) (by omega) (fun i x y hx hy => (c4 i x y hx hy).ext hd2.toExt)
              rw [hlen] at k3 k4
              refine ⟨_, _, E', hrun, k1, ?_, 1, _, cap', k3, rfl, Nat.le_refl _, c1, c2, q4, by rw [k4, c3]; omega⟩
              have := (m2.trans hd2 (by omega) (Nat.le_refl _)).trans k2 (by rw [hlen]; exact Nat.le_refl _) (Nat.le_refl _)
              exact this
          · cases hr5
    · cases hr4
  · cases hr4

end Go.AM
