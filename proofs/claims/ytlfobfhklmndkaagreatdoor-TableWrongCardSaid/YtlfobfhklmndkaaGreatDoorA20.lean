/- The abstract machine, twenty-first text: calls and rounds. -/
import Derived.Test.YtlfobfhklmndkaaGreatDoorA19
import Derived.Laws.Externs
namespace Go.AM
open Go.RowKit Go.MapKept

variable {B0 : Nat} {w0 w : World} {E : Env} {S S' : AS} {P : Program} {C : Cfg} {L : Lw}

theorem akill_low : ∀ (ms : List Nat) {S S' : AS}, akill ms S = some S' → Low S S'
  | [], S, S', h => by simp only [akill] at h; cases h; exact Low.refl _
  | m :: ms, S, S', h => by
    simp only [akill] at h
    split at h
    · exact (Low.set S m .dead).trans (akill_low ms h)
    · cases h

theorem akill_sound {fn : Func} {tmps : Array Value} {R : Ending → World → Prop} : ∀ (ms : List Nat) {ds : List Deferred} {S S2 : AS} {w : World}, akill ms S = some S2 → SR B0 w0 E S w → ms.length = ds.length →
    (∀ (i : Nat) o d, ms[i]? = some o → ds[i]? = some d → ∃ g, E.j o = some g ∧ d = { target := .collected g, args := #[] }) →
    (∀ w', SR B0 w0 E S2 w' → Step S.objs.length S.ends.length E w E w' → ∃ v, (results fn tmps).run P w' = .ok v w' ∧ R (.returned v) w') →
    LeavesInM Fence.wide 0 P fn tmps R ds .returning w
  | [], [], S, S2, w, h, hs, _, _, hR => by simp only [akill] at h; cases h; exact hR w hs (Step.refl _ _ _ _)
  | [], _ :: _, _, _, _, _, _, hl, _, _ => by simp at hl
  | _ :: _, [], _, _, _, _, _, hl, _, _ => by simp at hl
  | m :: ms, d :: ds, S, S2, w, h, hs, hl, hm, hR => by
    simp only [akill] at h
    split at h
    · rename_i ho
      obtain ⟨g, hj, rfl⟩ := hm 0 m d rfl rfl
      have hh : w.heap[g]? = some (.deferred (some [])) := hs.obj m _ g ho hj
      obtain ⟨k1, k2⟩ := hs.setObj hj (by unfold AS.live; rw [ho]; simp) (grownBy_put w g (.deferred none)) .dead trivial
      refine ⟨by simp, .inl ⟨g, _, rfl, run_takeDeferred hh, ?_⟩⟩
      refine akill_sound ms h k1 (by simpa using hl) (fun i o d h1 h2 => hm (i + 1) o d (by simpa using h1) (by simpa using h2)) fun w' q1 q2 => hR w' q1 (k2.trans q2 (by simp [AS.set]) (Nat.le_refl _))
    · cases h

theorem aresult_sound (h : SR B0 w0 E S w) {l : List AV} {tmps : Array Value} (hp : Pair (VR E w) l tmps.toList) {rv : ResultVar} {x : AV} (hx : aresult P l S rv = some x) (f : ResultVar → Sem Value) (hf : ∀ u, f (.tmp u) = pure (tmps.getD u undef)) (hc : ∀ a t, f (.cell a t) = (do loadVar t (← asAddr (tmps.getD a undef)))) :
    ∃ y, (f rv).run P w = .ok y w ∧ VR E w x y := by
  have ht : ∀ u, VR E w ((l[u]?).getD undefA) (tmps.getD u undef) := fun u => aeval_rel (act := { tmps := tmps, defers := [] }) hp (.tmp u)
  cases rv with
  | tmp u => simp only [aresult, Option.some.injEq] at hx; subst hx; exact ⟨_, by rw [hf]; rfl, ht u⟩
  | cell a t =>
    simp only [aresult] at hx
    rw [hc]
    obtain ⟨y, hy, hv⟩ := load_sound h (ht a) hx
    have ha := ht a
    obtain ⟨q, hq⟩ : ∃ q, (l[a]?).getD undefA = q := ⟨_, rfl⟩
    rw [hq] at hx ha
    have hptr : ∃ ad, tmps.getD a undef = .pointer (some ad) := by
      cases q with
      | ptr o off => obtain ⟨g, _, e⟩ := ha.ptr_inv; exact ⟨_, e⟩
      | eptr row off => obtain ⟨g, b, e, _⟩ := ha.eptr_inv; exact ⟨_, e⟩
      | _ => simp [aload] at hx
    obtain ⟨ad, e⟩ := hptr
    refine ⟨y, ?_, hv⟩
    rw [e] at hy ⊢
    simpa [Instr.loadAt, Instr.sureAddr, asAddr] using hy

theorem aresults_sound (h : SR B0 w0 E S w) {l : List AV} {tmps : Array Value} (hp : Pair (VR E w) l tmps.toList) (f : ResultVar → Sem Value) (hf : ∀ u, f (.tmp u) = pure (tmps.getD u undef)) (hc : ∀ a t, f (.cell a t) = (do loadVar t (← asAddr (tmps.getD a undef)))) :
    ∀ (rs : List ResultVar) {xs : List AV}, aresults P l S rs = some xs → ∃ ys, (rs.mapM f).run P w = .ok ys w ∧ Pair (VR E w) xs ys
  | [], xs, hx => by simp only [aresults] at hx; cases hx; exact ⟨[], by simp, rfl, fun i x y hx _ => by simp at hx⟩
  | r :: rs, xs, hx => by
    simp only [aresults] at hx
    split at hx
    · rename_i x h1
      split at hx
      · rename_i xs' h2
        cases hx
        obtain ⟨y, k1, k2⟩ := aresult_sound h hp h1 f hf hc
        obtain ⟨ys, k3, k4⟩ := aresults_sound h hp f hf hc rs h2
        refine ⟨y :: ys, by simp [List.mapM_cons, k1, k3], by simp [k4.1], fun i a b ha hb => ?_⟩
        cases i with
        | zero => simp at ha hb; subst ha; subst hb; exact k2
        | succ i => exact k4.2 i a b (by simpa using ha) (by simpa using hb)
      · cases hx
    · cases hx

theorem results_sound (h : SR B0 w0 E S w) {fn : Func} {l : List AV} {tmps : Array Value} (hp : Pair (VR E w) l tmps.toList) {xs : List AV} (hx : aresults P l S fn.results.toList = some xs) : ∃ y, (results fn tmps).run P w = .ok y w ∧ VR E w (aone xs) y := by
  obtain ⟨ys, h1, h2⟩ := aresults_sound h hp (fun | .tmp t => pure (tmps.getD t undef) | .cell a t => do loadVar t (← asAddr (tmps.getD a undef))) (fun _ => rfl) (fun _ _ => rfl) fn.results.toList hx
  have hrun : (results fn tmps).run P w = .ok (if h : ys.toArray.size = 1 then ys.toArray[0] else .tuple ys.toArray) w := by
    unfold results
    have e : fn.results = fn.results.toList.toArray := by simp
    rw [e, List.mapM_toArray]
    simp only [Sem.run_bind, Sem.run_map]
    refine (congrArg (fun q : Result (List Value) => (q.andThen fun a w' => Result.ok a.toArray w').andThen fun a w' => Sem.run P (pure (if h : a.size = 1 then a[0] else Value.tuple a)) w') h1).trans ?_
    simp
  refine ⟨_, hrun, ?_⟩
  match xs, ys, h2 with
  | [], [], _ => exact VR.tup ⟨rfl, fun i x y hx _ => by simp at hx⟩
  | [x], [y], h2 => exact h2.2 0 x y rfl rfl
  | x :: x2 :: xs, y :: y2 :: ys, h2 => simp [aone]; exact VR.tup h2
  | [], _ :: _, h2 => exact absurd h2.1 (by simp)
  | [_], [], h2 => exact absurd h2.1 (by simp)
  | [_], _ :: _ :: _, h2 => exact absurd h2.1 (by simp)
  | _ :: _ :: _, [], h2 => exact absurd h2.1 (by simp)
  | _ :: _ :: _, [_], h2 => exact absurd h2.1 (by simp)

theorem Low.unmark {S2 : AS} (h : Low (amark S) S2) : Low S (aunmark S S2) :=
  ⟨h.len, h.tlen, Nat.min_le_left _ _, Nat.min_le_left _ _, fun o ho hl => h.objs o ho (Nat.lt_of_lt_of_le hl (Nat.min_le_right _ _)), fun t ht hl => h.ends t ht (Nat.lt_of_lt_of_le hl (Nat.min_le_right _ _))⟩

theorem Low.kept {S2 : AS} (h : Low (amark S) S2) (hk : akept S S2 = true) : (∀ o, o < S.objs.length → S2.objs[o]? = S.objs[o]?) ∧ ∀ t, t < S.ends.length → S2.ends[t]? = S.ends[t]? := by
  simp only [akept, Bool.and_eq_true] at hk
  have h1 := Nat.eq_of_beq_eq_true hk.1
  have h2 := Nat.eq_of_beq_eq_true hk.2
  exact ⟨fun o ho => h.objs o ho (by omega), fun t ht => h.ends t ht (by omega)⟩

theorem aleave_low {fn : Func} {a : AAct} {S1 : AS} {x : AV} (hl : Low (amark S) S1) (h : aleave C fn S a S1 = some (x, S')) : Low S S' := by
  unfold aleave at h
  split at h
  · rename_i S2 h1
    split at h
    · split at h
      · cases h; exact Low.refl _
      · cases h; exact (hl.trans (akill_low _ h1)).unmark
    · cases h
  · cases h

theorem aleave_sound {fn : Func} {a : AAct} {act : Act} {S1 : AS} {x : AV} {w1 : World} {E1 : Env} (hl : Low (amark S) S1) (h : aleave C fn S a S1 = some (x, S')) (hs : SR B0 w0 E S w) (h1 : SR B0 w0 E1 S1 w1) (hst : Step S.objs.length S.ends.length E w E1 w1) (ha : ActR E1 w1 a act) :
    LeavesInM Fence.wide 0 C.P fn act.tmps (Post B0 w0 E w S S' x) act.defers .returning w1 := by
  unfold aleave at h
  split at h
  · rename_i S2 hk
    split at h
    · rename_i xs hr
      refine akill_sound a.marks hk h1 ha.len ha.marks fun w2 k1 k2 => ?_
      have ha2 := ha.ext k2.toExt
      obtain ⟨y, hy, hv⟩ := results_sound k1 ha2.tmps hr
      refine ⟨y, hy, ?_⟩
      have hst2 : Step S.objs.length S.ends.length E w E1 w2 := hst.trans k2 hl.len hl.tlen
      have hl2 := hl.trans (akill_low _ hk)
      split at h
      · rename_i hc
        cases h
        simp only [Bool.and_eq_true] at hc
        obtain ⟨q1, q2⟩ := hl2.kept hc.1
        obtain ⟨r1, r2⟩ := hs.narrow k1 hst2 q1 q2
        exact ⟨_, r1, r2, hv.narrow hc.2⟩
      · cases h
        exact ⟨E1, k1.of_eq rfl rfl, hst2, hv⟩
    · cases h
  · cases h

theorem acallF_low (hL : LwOK C L) {k : Nat} {f : FuncId} {args : List AV} {x : AV} (h : acallF C L k f args S = some (x, S')) : Low S S' := by
  unfold acallF at h
  split at h
  · split at h
    · split at h
      · rename_i h1; exact aleave_low (aC_low hL _ h1) h
      · rename_i h1; exact aleave_low (aC_low hL _ h1) h
      · cases h
    · cases h
  · cases h

theorem acallF_ent {k : Nat} {f : FuncId} {args : List AV} {x : AV} (h : acallF C L k f args S = some (x, S')) : ∃ fn, C.P.funcs[f]? = some fn ∧ fn.body.isSome = true := by
  unfold acallF at h
  split at h
  · rename_i fn hf
    split at h
    · rename_i c hb; exact ⟨fn, hf, by rw [hb]; rfl⟩
    · cases h
  · cases h

theorem acallF_sound (hN : NamesOK C.P) (hL : LwOK C L) (hm : C.P.follows .mixedOrders = true) {k : Nat} {f : FuncId} {args : List AV} {x : AV} {ys : List Value} (h : acallF C L k f args S = some (x, S')) (hs : SR B0 w0 E S w) (hp : Pair (VR E w) args ys) :
    CallsIn Fence.wide 0 C.P f ys.toArray w (Post B0 w0 E w S S' x) := by
  unfold acallF at h
  split at h
  · rename_i fn hf
    split at h
    · rename_i c hb
      refine callsIn_of_wp_marks hf hb trivial ?_
      have hinit : Pair (VR E w) (args ++ List.replicate (fn.ntmps - args.length) undefA) (ys.toArray ++ Array.replicate (fn.ntmps - ys.toArray.size) undef).toList := by
        have h1 : Pair (VR E w) (List.replicate (fn.ntmps - args.length) undefA) (List.replicate (fn.ntmps - args.length) undef) := ⟨by simp, fun i a b ha hb => by
          rw [List.getElem?_replicate] at ha hb
          by_cases hi : i < fn.ntmps - args.length
          · simp only [hi, if_true, Option.some.injEq] at ha hb
            rw [← ha, ← hb]; exact VR.undef
          · simp [hi] at ha⟩
        have h2 : (ys.toArray ++ Array.replicate (fn.ntmps - ys.toArray.size) undef).toList = ys ++ List.replicate (fn.ntmps - args.length) undef := by simp [hp.1]
        rw [h2]
        exact hp.app h1
      have ha : ActR E w { tmps := args ++ List.replicate (fn.ntmps - args.length) undefA, marks := [] } { tmps := ys.toArray ++ Array.replicate (fn.ntmps - ys.toArray.size) undef, defers := [] } := ⟨hinit, rfl, fun i o d ho _ => by simp at ho⟩
      have hs0 : SR B0 w0 E (amark S) w := hs.of_eq rfl rfl
      split at h
      · rename_i a S1 h1
        exact aC_sound (r := none) hN hL hm c h1 hs0 ha rfl fun act' w' E' k1 k2 k3 => aleave_sound (aC_low hL _ h1) h hs k1 k2 k3
      · rename_i a S1 h1
        exact aC_sound (r := none) hN hL hm c h1 hs0 ha rfl fun act' w' E' k1 k2 k3 => aleave_sound (aC_low hL _ h1) h hs k1 k2 k3
      · cases h
    · cases h
  · cases h

theorem ayieldF_some {k o : Nat} {args : List AV} {x : AV} (h : ayieldF C L k o args S = some (x, S')) :
    ∃ r a1 S1 r1 e a2 S3 r3 j, S.objs[o]? = some (.loop r) ∧ args.length = r.params.size ∧
      aC C L k r.hint (some o) r.assign { tmps := (r.params.toList.zip args).foldl (fun l p => l.set p.1 p.2) r.tmps, marks := [] } S = some (.normal, a1, S1) ∧
      S1.objs[o]? = some (.loop r1) ∧ r1.state = .ready ∧ aC C L k r.hint (some o) r.body a1 (S1.set o (.loop { r1 with state := .busy })) = some (e, a2, S3) ∧
      S3.objs[o]? = some (.loop r3) ∧ ajump e = some j ∧ x = .v (.bool j.isNone) ∧ S' = S3.set o (.loop { r3 with state := if j.isNone then .ready else .done, pending := j }) := by
  unfold ayieldF at h
  split at h
  · rename_i r h1
    split at h
    · rename_i h2
      split at h
      · rename_i a1 S1 h3
        split at h
        · rename_i r1 h4
          split at h
          · rename_i h5
            split at h
            · rename_i e a2 S3 h6
              split at h
              · rename_i r3 h7
                split at h
                · rename_i j h8
                  cases h
                  exact ⟨r, a1, S1, r1, e, a2, S3, r3, j, h1, Nat.eq_of_beq_eq_true h2, h3, h4, h5, h6, h7, h8, rfl, rfl⟩
                · cases h
              · cases h
            · cases h
          · cases h
        · cases h
      · cases h
    · cases h
  · cases h

theorem ayieldF_low (hL : LwOK C L) {k o : Nat} {args : List AV} {x : AV} (h : ayieldF C L k o args S = some (x, S')) : Low S S' := by
  obtain ⟨r, a1, S1, r1, e, a2, S3, r3, j, h1, h2, h3, h4, h5, h6, h7, h8, rfl, rfl⟩ := ayieldF_some h
  exact (((aC_low hL _ h3).trans (Low.set _ _ _)).trans (aC_low hL _ h6)).trans (Low.set _ _ _)

theorem fold_rel : ∀ (ps : List (Tmp × AV)) (qs : List (Tmp × Value)) {l : List AV} {t : Array Value}, ps.length = qs.length → (∀ (i : Nat) p q, ps[i]? = some p → qs[i]? = some q → p.1 = q.1 ∧ VR E w p.2 q.2) → Pair (VR E w) l t.toList →
    Pair (VR E w) (ps.foldl (fun l p => l.set p.1 p.2) l) (qs.foldl (fun t q => t.setIfInBounds q.1 q.2) t).toList
  | [], [], _, _, _, _, h => h
  | [], _ :: _, _, _, h, _, _ => by simp at h
  | _ :: _, [], _, _, h, _, _ => by simp at h
  | p :: ps, q :: qs, l, t, hl, h, hp => by
    obtain ⟨e, hv⟩ := h 0 p q rfl rfl
    simp only [List.foldl_cons]
    rw [e]
    exact fold_rel ps qs (by simpa using hl) (fun i p' q' h1 h2 => h (i + 1) p' q' (by simpa using h1) (by simpa using h2)) (hp.put hv q.1)

theorem ayieldF_sound (hN : NamesOK C.P) (hL : LwOK C L) (hm : C.P.follows .mixedOrders = true) {k o g : Nat} {args : List AV} {x : AV} {ys : List Value} (h : ayieldF C L k o args S = some (x, S')) (hs : SR B0 w0 E S w) (hp : Pair (VR E w) args ys) (hj : E.j o = some g) :
    ∃ fn tmps asg body, (Instr.yield g ys.toArray).run C.P w = .ok (.round g fn tmps asg body) w ∧ RoundIn Fence.wide 0 C.P g fn tmps asg body w (Post B0 w0 E w S S' x) := by
  obtain ⟨r, a1, S1, r1, e, a2, S3, r3, j, h1, h2, h3, h4, h5, h6, h7, h8, rfl, rfl⟩ := ayieldF_some h
  obtain ⟨zs, gd, fn, hh, hz, hgd⟩ := hs.obj o _ g h1 hj
  refine ⟨_, _, _, _, run_yield hh (by simp [← hp.1, h2]), roundIn_of_wpIn trivial ?_⟩
  have hfold : Pair (VR E w) ((r.params.toList.zip args).foldl (fun l p => l.set p.1 p.2) r.tmps) ((r.params.zip ys.toArray).foldl (fun tmps (t, a) => tmps.setIfInBounds t a) zs.toArray).toList := by
    rw [← Array.foldl_toList, Array.toList_zip]
    refine fold_rel _ _ (by simp [hp.1]) (fun i p q k1 k2 => ?_) (by simpa using hz)
    rw [List.getElem?_zip_eq_some] at k1 k2
    obtain ⟨k1, k3⟩ := k1
    obtain ⟨k2, k4⟩ := k2
    rw [k1] at k2
    exact ⟨Option.some.inj k2, hp.2 i _ _ k3 (by simpa using k4)⟩
  have ha : ActR E w { tmps := (r.params.toList.zip args).foldl (fun l p => l.set p.1 p.2) r.tmps, marks := [] } { tmps := (r.params.zip ys.toArray).foldl (fun tmps (t, a) => tmps.setIfInBounds t a) zs.toArray, defers := [] } :=
    ⟨hfold, rfl, fun i o d ho _ => by simp at ho⟩
  have hl1 := aC_low hL _ h3
  have hl2 := aC_low hL _ h6
  refine aC_sound (r := some g) hN hL hm r.assign h3 hs ha ⟨g, rfl, hj⟩ fun act1 w1 E1 k1 k2 k3 => ?_
  have hj1 := k2.j _ _ hj
  obtain ⟨zs1, gd1, fn1, hh1, _, _⟩ := k1.obj o _ g h4 hj1
  have hb := run_beginRound (P := C.P) hh1 h5
  refine ⟨_, hb, ?_⟩
  obtain ⟨q1, q2⟩ := k1.putLoop h4 hj1 hh1 .busy r1.pending
  refine aC_sound (r := some g) hN hL hm r.body h6 q1 (k3.ext q2.toExt) ⟨g, rfl, hj1⟩ fun act3 w3 E3 m1 m2 m3 => ?_
  have hj3 := m2.j _ _ hj1
  obtain ⟨zs3, gd3, fn3, hh3, _, _⟩ := m1.obj o _ g h7 hj3
  have hend := run_endRound (P := C.P) j hh3
  obtain ⟨n1, n2⟩ := m1.putLoop h7 hj3 hh3 (if j.isNone then .ready else .done) j
  have fin : ∃ v w', (Instr.endRound g j).run C.P w3 = .ok v w' ∧ Post B0 w0 E w S (S3.set o (.loop { r3 with state := if j.isNone then .ready else .done, pending := j })) (.v (.bool j.isNone)) (.returned v) w' := by
    refine ⟨_, _, hend, E3, n1, ?_, VR.of_flat rfl⟩
    have s1 := k2.trans q2 hl1.len hl1.tlen
    have s2 := s1.trans m2 (by simpa [AS.set] using hl1.len) hl1.tlen
    exact s2.trans n2 (Nat.le_trans (by simpa [AS.set] using hl1.len) hl2.len) (Nat.le_trans hl1.tlen hl2.tlen)
  cases e with
  | normal => simp only [ajump, Option.some.injEq] at h8; subst h8; exact fin
  | ret => simp only [ajump, Option.some.injEq] at h8; subst h8; exact fin
  | exit id => simp only [ajump, Option.some.injEq] at h8; subst h8; exact fin
  | goto t => simp only [ajump, Option.some.injEq] at h8; subst h8; exact fin
  | panic c => cases h8
  | outgrown => cases h8

theorem SR.empty (h : SR B0 w0 E S w) : SR w.heap.size w (nenv E E 0 0) {} w :=
  { below := Below.refl _ _, base := Nat.le_refl _, obj := fun o ob g h1 _ => (by simp at h1), jlt := fun o g h1 => (by simp [nenv] at h1), inj := fun o o' g h1 => (by simp [nenv] at h1), jb := fun o g h1 => (by simp [nenv] at h1),
    fzc := h.fzc, en := fun t => .inl (by simp [nenv]), tok := fun t h1 => (by simp [nenv] at h1), tinj := fun t t' h1 => (by simp [nenv] at h1) }

theorem belowAll_pair {E1 : Env} {l : List AV} {ys : List Value} (h : Pair (VR E1 w) l ys) (hb : belowAll 0 l = true) : Pair (VR (nenv E1 E1 0 0) w) (sealAll 0 l) ys :=
  ⟨by rw [sealAll_len]; exact h.1, fun i x y hx hy => by
    rw [sealAll_get] at hx
    obtain ⟨x0, hx0, rfl⟩ := Option.map_eq_some_iff.1 hx
    exact (h.2 i x0 y hx0 hy).narrow (belowAll_get hb i x0 hx0)⟩

/-- A list and what it is elsewhere. -/
def LS (E : Env) (w : World) (E' : Env) (l l' : List AV) : Prop := l'.length = l.length ∧ ∀ (i : Nat) x x' y, l[i]? = some x → l'[i]? = some x' → VR E w x y → VR E' w x' y

theorem LS.pair {E' : Env} {l l' : List AV} {ys : List Value} (h : LS E w E' l l') (hp : Pair (VR E w) l ys) : Pair (VR E' w) l' ys :=
  ⟨h.1.trans hp.1, fun i x' y hx hy => by
    have hi : i < l.length := by have := (List.getElem?_eq_some_iff.1 hx).1; have := h.1; omega
    exact h.2 i l[i] x' y (List.getElem?_eq_getElem hi) hx (hp.2 i _ y (List.getElem?_eq_getElem hi) hy)⟩

theorem LS.row {E' : Env} {l l' : List AV} {g b : Nat} (h : LS E w E' l l') (hfz : ∀ m x, l[m]? = some x → E'.fz g (b + m)) (hr : Stand E w l g b) : Row E' w (VR E' w) l' g b := fun m x' hx => by
  have hi : m < l.length := by have := (List.getElem?_eq_some_iff.1 hx).1; have := h.1; omega
  obtain ⟨z, h1, h2⟩ := hr m l[m] (List.getElem?_eq_getElem hi)
  exact ⟨hfz m _ (List.getElem?_eq_getElem hi), z, h1, h.2 m _ x' z (List.getElem?_eq_getElem hi) hx h2⟩

theorem LS.nil {E' : Env} : LS E w E' [] [] := ⟨rfl, fun i x x' y h => by simp at h⟩

theorem LS.app {E' : Env} {a a' b b' : List AV} (h : LS E w E' a a') (k : LS E w E' b b') : LS E w E' (a ++ b) (a' ++ b') := by
  refine ⟨by simp [h.1, k.1], fun i x x' y hx hx' => ?_⟩
  rw [List.getElem?_append] at hx hx'
  rw [h.1] at hx'
  split at hx
  · rename_i hi; rw [if_pos hi] at hx'; exact h.2 i x x' y hx hx'
  · rename_i hi; rw [if_neg hi] at hx'; exact k.2 _ x x' y hx hx'

theorem drRows_sound {E' : Env} {dr : List AV → Option (List AV)} (hd : ∀ l l', dr l = some l' → LS E w E' l l') : ∀ (rs rs' : List (List AV)), drRows dr rs = some rs' →
    rs'.length = rs.length ∧ LS E w E' rs.flatten rs'.flatten ∧ ∀ sz, (∀ r ∈ rs, r.length = sz) → ∀ r ∈ rs', r.length = sz
  | [], rs', h => by simp only [drRows] at h; cases h; exact ⟨rfl, LS.nil, fun _ h => h⟩
  | r :: rs, rs', h => by
    simp only [drRows] at h
    split at h
    · rename_i r1 h1
      split at h
      · rename_i rs1 h2
        cases h
        obtain ⟨k1, k2, k3⟩ := drRows_sound hd rs rs1 h2
        have k0 := hd r r1 h1
        refine ⟨by simp [k1], by simp only [List.flatten_cons]; exact k0.app k2, fun sz hs q hq => ?_⟩
        rcases List.mem_cons.1 hq with rfl | hq
        · rw [k0.1]; exact hs r (by simp)
        · exact k3 sz (fun r hr => hs r (by simp [hr])) q hq
      · cases h
    · cases h

mutual
theorem lendV_sound (h : SR B0 w0 E S w) {E' : Env} (hfz : ∀ g k, E.fz g k → E'.fz g k) (hnew : ∀ g k z, B0 ≤ g → w.cell? ⟨g, k, none⟩ = some z → E'.fz g k) {dr : List AV → Option (List AV)} (hd : ∀ l l', dr l = some l' → LS E w E' l l') :
    ∀ (x x' : AV) (y : Value), lendV S dr x = some x' → VR E w x y → VR E' w x' y
  | .junk, x', y, hl, hv => by simp only [lendV] at hl; cases hl; exact ⟨1, trivial⟩
  | .v x, x', y, hl, hv => by simp only [lendV] at hl; cases hl; obtain ⟨hf, rfl⟩ := hv.flat_inv; exact VR.of_flat hf
  | .ptr o off, x', y, hl, hv => by
    simp only [lendV] at hl
    split at hl
    · rename_i p hp
      split at hl
      · rename_i l hl1
        cases hl
        obtain ⟨g, hj, rfl⟩ := hv.ptr_inv
        have hst := (h.obj o _ g (cellsAt_some hp) hj).stand
        have := (hd _ _ hl1).row (E' := E') (g := g) (b := 0) (fun m x hx => by
          obtain ⟨z, hz, _⟩ := hst m x hx
          exact hnew g _ z (h.jb o g hj).1 hz) hst
        have := VR.eptr (off := off) this
        rwa [Nat.zero_add] at this
      · cases hl
    · cases hl
  | .eptr row b, x', y, hl, hv => by
    simp only [lendV] at hl
    split at hl
    · rename_i l hl1
      cases hl
      obtain ⟨g, b0, rfl, hr⟩ := hv.eptr_inv
      exact VR.eptr ((lendL_sound h hfz hnew hd row l hl1).row (fun m x hx => hfz _ _ (hr m x hx).1) hr.stand)
    · cases hl
  | .lst c rows, x', y, hl, hv => by
    simp only [lendV] at hl
    split at hl
    · rename_i l hl1
      cases hl
      obtain ⟨k1, k2, k3⟩ := lendR_sound h hfz hnew hd rows l hl1
      rcases hv.lst_inv with ⟨rfl, ad, rfl, hca⟩ | ⟨g, b, cap, sz, rfl, q1, q2, q3, q4, q5, q6⟩
      · have : l = [] := List.length_eq_zero_iff.1 k1
        subst this
        exact ⟨1, .inl ⟨rfl, ad, rfl, by rcases hca with rfl | ⟨rfl, ha⟩ <;> first | exact .inl rfl | exact .inr ⟨rfl, ha⟩⟩⟩
      · rw [← k1]
        refine VR.lst (by omega) q2 q3 (k3 sz q4) (k2.row (fun m x hx => hfz _ _ (q5 m x hx).1) q5.stand) ?_
        rw [k1]
        cases c with
        | tok t e s => trivial
        | unk => trivial
        | any => trivial
        | exact => exact q6
    · cases hl
  | .slc o sz off len cap, x', y, hl, hv => by
    simp only [lendV] at hl
    split at hl
    · rename_i rows hr
      split at hl
      · rename_i l hl1
        cases hl
        obtain ⟨g, c, hj, rfl, k1, k2, k3, k4, k5⟩ := hv.slc_inv
        obtain ⟨q1, q2, q3⟩ := drRows_sound hd rows l hl1
        rcases rowsOf_sound h k4 hv hr with ⟨e0, ae, hy⟩ | ⟨g', b, c', hy, r1, r2, r3, r4⟩
        · cases hy
          have : l = [] := List.length_eq_zero_iff.1 (by rw [q1, e0]; rfl)
          subst this
          exact VR.lst (rows := []) (g := g) (b := off) (by simp) k3 k4 (by simp) (Row.nil _ _) trivial
        · cases hy
          rw [← q1]
          exact VR.lst (by omega) k3 k4 (q3 sz r3) (q2.row (fun m x hx => by
            obtain ⟨z, hz, _⟩ := r2 m x hx
            exact hnew g _ z (h.jb o g hj).1 hz) r2) trivial
      · cases hl
    · cases hl
  | .mp _, x', y, hl, hv => by simp only [lendV] at hl; cases hl
  | .yld _, x', y, hl, hv => by simp only [lendV] at hl; cases hl
  | .fn f a b, x', y, hl, hv => by
    simp only [lendV] at hl
    split at hl
    · rename_i a' h1
      split at hl
      · rename_i b' h2
        cases hl
        obtain ⟨xs, ys, rfl, k1, k2⟩ := hv.fn_inv
        exact VR.fn ((lendL_sound h hfz hnew hd a a' h1).pair k1) ((lendL_sound h hfz hnew hd b b' h2).pair k2)
      · cases hl
    · cases hl
  | .ifc t x, x', y, hl, hv => by
    simp only [lendV] at hl
    split at hl
    · rename_i x1 h1
      cases hl
      obtain ⟨z, rfl, k1⟩ := hv.ifc_inv
      exact VR.ifc (lendV_sound h hfz hnew hd x x1 z h1 k1)
    · cases hl
  | .agg l, x', y, hl, hv => by
    simp only [lendV] at hl
    split at hl
    · rename_i l1 h1
      cases hl
      obtain ⟨ys, rfl, k1⟩ := hv.agg_inv
      exact VR.agg ((lendL_sound h hfz hnew hd l l1 h1).pair k1)
    · cases hl
  | .tup l, x', y, hl, hv => by
    simp only [lendV] at hl
    split at hl
    · rename_i l1 h1
      cases hl
      obtain ⟨ys, rfl, k1⟩ := hv.tup_inv
      exact VR.tup ((lendL_sound h hfz hnew hd l l1 h1).pair k1)
    · cases hl
theorem lendL_sound (h : SR B0 w0 E S w) {E' : Env} (hfz : ∀ g k, E.fz g k → E'.fz g k) (hnew : ∀ g k z, B0 ≤ g → w.cell? ⟨g, k, none⟩ = some z → E'.fz g k) {dr : List AV → Option (List AV)} (hd : ∀ l l', dr l = some l' → LS E w E' l l') :
    ∀ (l l' : List AV), lendL S dr l = some l' → LS E w E' l l'
  | [], l', hl => by simp only [lendL] at hl; cases hl; exact LS.nil
  | x :: l, l', hl => by
    simp only [lendL] at hl
    split at hl
    · rename_i x1 h1
      split at hl
      · rename_i l1 h2
        cases hl
        have k := lendL_sound h hfz hnew hd l l1 h2
        have kv := fun y => lendV_sound h hfz hnew hd x x1 y h1
        refine ⟨by simp [k.1], fun i a a' y ha ha' hv => ?_⟩
        cases i with
        | zero => simp at ha ha'; subst ha; subst ha'; exact kv y hv
        | succ i => exact k.2 i a a' y (by simpa using ha) (by simpa using ha') hv
      · cases hl
    · cases hl
theorem lendR_sound (h : SR B0 w0 E S w) {E' : Env} (hfz : ∀ g k, E.fz g k → E'.fz g k) (hnew : ∀ g k z, B0 ≤ g → w.cell? ⟨g, k, none⟩ = some z → E'.fz g k) {dr : List AV → Option (List AV)} (hd : ∀ l l', dr l = some l' → LS E w E' l l') :
    ∀ (rs rs' : List (List AV)), lendR S dr rs = some rs' → rs'.length = rs.length ∧ LS E w E' rs.flatten rs'.flatten ∧ ∀ sz, (∀ r ∈ rs, r.length = sz) → ∀ r ∈ rs', r.length = sz
  | [], rs', hl => by simp only [lendR] at hl; cases hl; exact ⟨rfl, LS.nil, fun _ h => h⟩
  | r :: rs, rs', hl => by
    simp only [lendR] at hl
    split at hl
    · rename_i r1 h1
      split at hl
      · rename_i rs1 h2
        cases hl
        obtain ⟨k1, k2, k3⟩ := lendR_sound h hfz hnew hd rs rs1 h2
        have k0 := lendL_sound h hfz hnew hd r r1 h1
        refine ⟨by simp [k1], by simp only [List.flatten_cons]; exact k0.app k2, fun sz hs q hq => ?_⟩
        rcases List.mem_cons.1 hq with rfl | hq
        · rw [k0.1]; exact hs r (by simp)
        · exact k3 sz (fun r hr => hs r (by simp [hr])) q hq
      · cases hl
    · cases hl
end

theorem lendAll_sound (h : SR B0 w0 E S w) {E' : Env} (hfz : ∀ g k, E.fz g k → E'.fz g k) (hnew : ∀ g k z, B0 ≤ g → w.cell? ⟨g, k, none⟩ = some z → E'.fz g k) : ∀ (d : Nat) (l l' : List AV), lendAll d S l = some l' → LS E w E' l l'
  | 0, l, l', hl => lendL_sound h hfz hnew (dr := fun _ => none) (fun _ _ h => by cases h) l l' hl
  | d + 1, l, l', hl => lendL_sound h hfz hnew (lendAll_sound h hfz hnew d) l l' hl

theorem VR.plain {E' : Env} {w' : World} {x : AV} {y : Value} (hp : x.plain = true) (hv : VR E w x y) : VR E' w' x y := by
  have all : ∀ {l : List AV} {ys : List Value}, l.all AV.isV = true → Pair (VR E w) l ys → Pair (VR E' w') l ys := fun hl h => ⟨h.1, fun i a b ha hb => by
    have := List.all_eq_true.1 hl a (List.mem_of_getElem? ha)
    cases a with
    | v z => obtain ⟨hf, rfl⟩ := (h.2 i _ b ha hb).flat_inv; exact VR.of_flat hf
    | _ => simp [AV.isV] at this⟩
  cases x with
  | v z => obtain ⟨hf, rfl⟩ := hv.flat_inv; exact VR.of_flat hf
  | tup l => obtain ⟨ys, rfl, k⟩ := hv.tup_inv; exact VR.tup (all hp k)
  | agg l => obtain ⟨ys, rfl, k⟩ := hv.agg_inv; exact VR.agg (all hp k)
  | _ => simp [AV.plain] at hp

theorem frame_post {f : FuncId} {x x' : AV} {S1 : AS} {ys : List Value} (ho : lend S1 x = some x') (h : SR B0 w0 E S w)
    (hx : CallsIn Fence.wide 0 P f ys.toArray w (Post w.heap.size w (nenv E E 0 0) w {} S1 x)) :
    CallsIn Fence.wide 0 P f ys.toArray w (Post B0 w0 E w S S x') := by
  refine CallsIn.mono hx fun e w' he => ?_
  cases e with
  | panicked c => exact he.elim
  | outgrown => exact he.elim
  | returned y =>
    obtain ⟨E1, h1, h2, h3⟩ := he
    have hB := h1.below
    have hblk : ∀ g, g < w.heap.size → w'.heap[g]? = w.heap[g]? := hB.block
    have hfn1 : ∀ g k, E1.fz g k → E.fz g k ∨ w.heap.size ≤ g := fun g k hf => by
      rcases h2.fn g k hf with k1 | k1 | ⟨t, k1, _⟩
      · exact .inl k1
      · exact .inr k1
      · simp [nenv] at k1
    have hfz1 : ∀ g k, E.fz g k → E1.fz g k := fun g k hf => h2.fz g k hf
    generalize hF : (fun g k => E1.fz g k ∨ (w.heap.size ≤ g ∧ ∃ z, w'.cell? ⟨g, k, none⟩ = some z) : Nat → Nat → Prop) = F
    have hF1 : ∀ g k, E1.fz g k → F g k := fun g k hf => by rw [← hF]; exact .inl hf
    have hfn : ∀ g k, F g k → E.fz g k ∨ w.heap.size ≤ g := fun g k hf => by
      rw [← hF] at hf
      rcases hf with hf | hf
      · exact hfn1 g k hf
      · exact .inr hf.1
    have hfc : ∀ g k, F g k → ∃ z, w'.cell? ⟨g, k, none⟩ = some z := fun g k hf => by
      rw [← hF] at hf
      rcases hf with hf | hf
      · exact h1.fzc g k hf
      · exact hf.2
    have hext : Ext E w { E with fz := F } w' :=
      { j := fun _ _ hj => hj, fz := fun g k hf => hF1 g k (hfz1 g k hf), cell := fun g k hf => h2.cell g k hf, en := fun _ => Nat.le_refl _, tk := fun _ _ => rfl, cp := fun _ _ _ => rfl,
        row := fun t h0 _ a T f ha => by rw [hblk _ (h.tblock h0)] at ha; exact ⟨a, T, f, ha, Nat.le_refl _⟩ }
    have hstep : Step S.objs.length S.ends.length E w { E with fz := F } w' :=
      { hext with size := hB.size, frame := fun g hg _ _ => hblk g hg, jn := fun o _ ho => .inl ⟨o, ho⟩, tn := fun t ht => .inl ⟨t, ht, rfl⟩, jid := fun _ ho => .inl ho, tid := fun _ ht => .inl ht, fn := fun g k hf => (hfn g k hf).elim .inl (fun h4 => .inr (.inl h4)) }
    refine ⟨{ E with fz := F }, { below := ?_, base := Nat.le_trans h.base hB.size, obj := ?_, jlt := h.jlt, inj := h.inj, jb := ?_, fzc := hfc, en := h.en, tok := ?_, tinj := h.tinj }, hstep, ?_⟩
    · exact ⟨hB.os.trans h.below.os, hB.tape.trans h.below.tape, hB.output.trans h.below.output, Nat.le_trans h.below.size hB.size, fun k hk => (hblk k (Nat.lt_of_lt_of_le hk h.base)).trans (h.below.block k hk)⟩
    · exact fun o ob g ho hj => (h.obj o ob g ho hj).ext hext hj (hblk g (h.jb o g hj).2.1)
    · intro o g hj
      obtain ⟨a, b, c⟩ := h.jb o g hj
      refine ⟨a, Nat.lt_of_lt_of_le b hB.size, fun k hf => ?_⟩
      rcases hfn g k hf with k1 | k1
      · exact c k k1
      · omega
    · intro t ht
      obtain ⟨a, ⟨c, T, hc⟩, d, e⟩ := h.tok t ht
      refine ⟨a, ⟨c, T, (hblk _ (h.tblock ht)).trans hc⟩, fun k hk hf => ?_, e⟩
      rcases hfn _ k hf with k1 | k1
      · exact d k hk k1
      · exact absurd (h.tblock ht) (Nat.not_lt.2 k1)
    · have hn : ∀ g k z, w.heap.size ≤ g → w'.cell? ⟨g, k, none⟩ = some z → ({ E with fz := F } : Env).fz g k := fun g k z hg hz => by
        show F g k
        rw [← hF]; exact .inr ⟨hg, z, hz⟩
      exact lendV_sound h1 (E' := { E with fz := F }) hF1 hn (lendAll_sound h1 hF1 hn 4) x x' y ho h3

theorem cellsAt_more {S S2 : AS} (he : ∃ e, S2.objs = S.objs ++ e) {o : Nat} {p : List AV × TypeId} (h : S.cellsAt o = some p) : S2.cellsAt o = some p := by
  obtain ⟨e, he⟩ := he
  unfold AS.cellsAt at h ⊢
  rw [he]
  split at h
  · rename_i l T hq
    rw [List.getElem?_append_left (List.getElem?_eq_some_iff.1 hq).1, hq]
    exact h
  · cases h

theorem drRows_more {dr dr2 : List AV → Option (List AV)} (hd : ∀ l l', dr l = some l' → dr2 l = some l') : ∀ (rs rs' : List (List AV)), drRows dr rs = some rs' → drRows dr2 rs = some rs'
  | [], _, h => h
  | r :: rs, rs', h => by
    simp only [drRows] at h ⊢
    split at h
    · rename_i r1 h1
      rw [hd _ _ h1]
      dsimp only
      split at h
      · rename_i rs1 h2; rw [drRows_more hd rs rs1 h2]; exact h
      · cases h
    · cases h

mutual
theorem lendV_more {S S2 : AS} (he : ∃ e, S2.objs = S.objs ++ e) {dr dr2 : List AV → Option (List AV)} (hd : ∀ l l', dr l = some l' → dr2 l = some l') : ∀ (x x' : AV), lendV S dr x = some x' → lendV S2 dr2 x = some x'
  | .junk, x', h => by simp only [lendV] at h ⊢; exact h
  | .v x, x', h => by simp only [lendV] at h ⊢; exact h
  | .ptr o off, x', h => by
    simp only [lendV] at h ⊢
    split at h
    · rename_i p hp
      rw [cellsAt_more he hp]
      dsimp only
      split at h
      · rename_i l hl; rw [hd _ _ hl]; exact h
      · cases h
    · cases h
  | .eptr row b, x', h => by
    simp only [lendV] at h ⊢
    split at h
    · rename_i l hl; rw [lendL_more he hd row l hl]; exact h
    · cases h
  | .lst c rows, x', h => by
    simp only [lendV] at h ⊢
    split at h
    · rename_i l hl; rw [lendR_more he hd rows l hl]; exact h
    · cases h
  | .slc o sz off len cap, x', h => by
    simp only [lendV] at h ⊢
    split at h
    · rename_i rows hr
      have : rowsOf S2 sz (.slc o sz off len cap) = some rows := by
        unfold rowsOf at hr ⊢
        dsimp only at hr ⊢
        rw [if_pos rfl] at hr ⊢
        obtain ⟨p, hp, hq⟩ := Option.bind_eq_some_iff.1 hr
        exact Option.bind_eq_some_iff.2 ⟨p, cellsAt_more he hp, hq⟩
      rw [this]
      dsimp only
      split at h
      · rename_i l hl; rw [drRows_more hd rows l hl]; exact h
      · cases h
    · cases h
  | .mp _, x', h => by simp only [lendV] at h; cases h
  | .yld _, x', h => by simp only [lendV] at h; cases h
  | .fn f a b, x', h => by
    simp only [lendV] at h ⊢
    split at h
    · rename_i l hl
      rw [lendL_more he hd a l hl]
      dsimp only
      split at h
      · rename_i l2 hl2; rw [lendL_more he hd b l2 hl2]; exact h
      · cases h
    · cases h
  | .ifc t x, x', h => by
    simp only [lendV] at h ⊢
    split at h
    · rename_i l hl; rw [lendV_more he hd x l hl]; exact h
    · cases h
  | .agg l, x', h => by
    simp only [lendV] at h ⊢
    split at h
    · rename_i l2 hl; rw [lendL_more he hd l l2 hl]; exact h
    · cases h
  | .tup l, x', h => by
    simp only [lendV] at h ⊢
    split at h
    · rename_i l2 hl; rw [lendL_more he hd l l2 hl]; exact h
    · cases h
theorem lendL_more {S S2 : AS} (he : ∃ e, S2.objs = S.objs ++ e) {dr dr2 : List AV → Option (List AV)} (hd : ∀ l l', dr l = some l' → dr2 l = some l') : ∀ (x x' : List AV), lendL S dr x = some x' → lendL S2 dr2 x = some x'
  | [], x', h => by simp only [lendL] at h ⊢; exact h
  | x :: l, x', h => by
    simp only [lendL] at h ⊢
    split at h
    · rename_i y hy
      rw [lendV_more he hd x y hy]
      dsimp only
      split at h
      · rename_i l2 hl; rw [lendL_more he hd l l2 hl]; exact h
      · cases h
    · cases h
theorem lendR_more {S S2 : AS} (he : ∃ e, S2.objs = S.objs ++ e) {dr dr2 : List AV → Option (List AV)} (hd : ∀ l l', dr l = some l' → dr2 l = some l') : ∀ (x x' : List (List AV)), lendR S dr x = some x' → lendR S2 dr2 x = some x'
  | [], x', h => by simp only [lendR] at h ⊢; exact h
  | x :: l, x', h => by
    simp only [lendR] at h ⊢
    split at h
    · rename_i y hy
      rw [lendL_more he hd x y hy]
      dsimp only
      split at h
      · rename_i l2 hl; rw [lendR_more he hd l l2 hl]; exact h
      · cases h
    · cases h
end

theorem lendAll_more {S S2 : AS} (he : ∃ e, S2.objs = S.objs ++ e) : ∀ (d : Nat) (l l' : List AV), lendAll d S l = some l' → lendAll d S2 l = some l'
  | 0, l, l', h => lendL_more he (dr := fun _ => none) (dr2 := fun _ => none) (fun _ _ h => h) l l' h
  | d + 1, l, l', h => lendL_more he (lendAll_more he d) l l' h

theorem acallX_st {k : Nat} {f : FuncId} {args : List AV} {x : AV} (hF : C.F f = true) (h : acallX C L k f args S = some (x, S')) : S' = S ∧ ∀ S2 : AS, (∃ e, S2.objs = S.objs ++ e) → acallX C L k f args S2 = some (x, S2) := by
  unfold acallX at h ⊢
  rw [hF] at h ⊢
  dsimp only at h ⊢
  split at h
  · rename_i hb
    split at h
    · rename_i y S1 h1
      split at h
      · rename_i x' h2; cases h; exact ⟨rfl, fun S2 _ => by simp only [h1, h2]⟩
      · cases h
    · cases h
  · rename_i hb
    split at h
    · rename_i args' h0
      split at h
      · rename_i y S1 h1
        split at h
        · rename_i h2; cases h; exact ⟨rfl, fun S2 he => by simp only [lendAll_more he 4 _ _ h0, h1, h2]⟩
        · cases h
      · cases h
    · cases h

/-- A call that reads what the caller has. -/
theorem lent_post {f : FuncId} {x : AV} {S1 : AS} {args args' : List AV} {ys : List Value} (hl : lendAll 4 S args = some args') (hp : x.plain = true) (h : SR B0 w0 E S w) (ha : Pair (VR E w) args ys)
    (hx : ∀ {B0 : Nat} {w0 : World} {E : Env}, SR B0 w0 E {} w → Pair (VR E w) args' ys → CallsIn Fence.wide 0 P f ys.toArray w (Post B0 w0 E w {} S1 x)) :
    CallsIn Fence.wide 0 P f ys.toArray w (Post B0 w0 E w S S x) := by
  generalize hE : ({ j := fun _ => none, fz := fun g k => E.fz g k ∨ (B0 ≤ g ∧ ∃ z, w.cell? ⟨g, k, none⟩ = some z), tk := E.tk, en := fun _ => 0, cp := E.cp } : Env) = E1
  have hfz : ∀ g k, E.fz g k → E1.fz g k := fun g k hf => by rw [← hE]; exact .inl hf
  have hn : ∀ g k z, B0 ≤ g → w.cell? ⟨g, k, none⟩ = some z → E1.fz g k := fun g k z hg hz => by rw [← hE]; exact .inr ⟨hg, z, hz⟩
  have hs : SR w.heap.size w E1 {} w := by
    rw [← hE]
    exact { below := Below.refl _ _, base := Nat.le_refl _, obj := fun o ob g h1 _ => (by simp at h1), jlt := fun o g h1 => (by simp at h1), inj := fun o o' g h1 => (by simp at h1), jb := fun o g h1 => (by simp at h1),
            fzc := fun g k hf => hf.elim (h.fzc g k) (·.2), en := fun t => .inl rfl, tok := fun t h1 => absurd h1 (Nat.lt_irrefl 0), tinj := fun t t' h1 => absurd h1 (Nat.lt_irrefl 0) }
  refine CallsIn.mono (hx hs ((lendAll_sound h hfz hn 4 args args' hl).pair ha)) fun e w' he => ?_
  cases e with
  | panicked c => exact he.elim
  | outgrown => exact he.elim
  | returned y =>
    obtain ⟨E2, h1, _, h3⟩ := he
    have hB := h1.below
    obtain ⟨k1, k2⟩ := h.later (w' := w') ⟨hB.os, hB.tape, hB.output, hB.size, fun g hg _ => hB.block g hg⟩
    exact ⟨E, k1, k2, h3.plain hp⟩

theorem acallX_some {k : Nat} {f : FuncId} {args : List AV} {q : AV × AS} (h : acallX C L k f args S = some q) :
    acallF C L k f args S = some q ∨ (∃ x x' S1, belowAll 0 args = true ∧ acallF C L k f (sealAll 0 args) {} = some (x, S1) ∧ lend S1 x = some x' ∧ q = (x', S)) ∨
    ∃ args' x S1, lendAll 4 S args = some args' ∧ acallF C L k f args' {} = some (x, S1) ∧ x.plain = true ∧ q = (x, S) := by
  unfold acallX at h
  split at h
  · split at h
    · rename_i hb
      split at h
      · rename_i x S1 h1
        split at h
        · rename_i x' h2; cases h; exact .inr (.inl ⟨x, x', S1, hb, h1, h2, rfl⟩)
        · cases h
      · cases h
    · split at h
      · rename_i args' h0
        split at h
        · rename_i x S1 h1
          split at h
          · rename_i h2; cases h; exact .inr (.inr ⟨args', x, S1, h0, h1, h2, rfl⟩)
          · cases h
        · cases h
      · cases h
  · exact .inl h

theorem acallX_low (hL : LwOK C L) {k : Nat} {f : FuncId} {args : List AV} {x : AV} (h : acallX C L k f args S = some (x, S')) : Low S S' := by
  rcases acallX_some h with h1 | ⟨_, _, _, _, _, _, h1⟩ | ⟨_, _, _, _, _, _, h1⟩
  · exact acallF_low hL h1
  · cases h1; exact Low.refl _
  · cases h1; exact Low.refl _

theorem acallX_ent {k : Nat} {f : FuncId} {args : List AV} {x : AV} (h : acallX C L k f args S = some (x, S')) : ∃ fn, C.P.funcs[f]? = some fn ∧ fn.body.isSome = true := by
  rcases acallX_some h with h1 | ⟨_, _, _, _, h1, _, _⟩ | ⟨_, _, _, _, h1, _, _⟩
  · exact acallF_ent h1
  · exact acallF_ent h1
  · exact acallF_ent h1

theorem acallX_sound (hN : NamesOK C.P) (hL : LwOK C L) (hm : C.P.follows .mixedOrders = true) {k : Nat} {f : FuncId} {args : List AV} {x : AV} {ys : List Value} (h : acallX C L k f args S = some (x, S')) (hs : SR B0 w0 E S w) (hp : Pair (VR E w) args ys) :
    CallsIn Fence.wide 0 C.P f ys.toArray w (Post B0 w0 E w S S' x) := by
  rcases acallX_some h with h1 | ⟨x0, x1, S1, hb, h1, ho, h2⟩ | ⟨args', x0, S1, hl, h1, ho, h2⟩
  · exact acallF_sound hN hL hm h1 hs hp
  · cases h2
    exact frame_post ho hs (acallF_sound hN hL hm h1 hs.empty (belowAll_pair hp hb))
  · cases h2
    exact lent_post hl ho hs hp (fun hs' hp' => acallF_sound hN hL hm h1 hs' hp')

structure XOK (C : Cfg) : Prop where
  ex : EOK C
  low : ∀ {f : FuncId} {g : List AV → AS → Option (AV × AS)} {args : List AV} {S : AS} {x : AV} {S' : AS}, C.X f = some g → g args S = some (x, S') → Low S S'
  ent : ∀ {f : FuncId} {g : List AV → AS → Option (AV × AS)} {args : List AV} {S : AS} {x : AV} {S' : AS}, C.X f = some g → g args S = some (x, S') → ∃ fn, C.P.funcs[f]? = some fn ∧ fn.body.isSome = true
  call : ∀ {f : FuncId} {g : List AV → AS → Option (AV × AS)} {args : List AV} {S : AS} {x : AV} {S' : AS} {B0 : Nat} {w0 w : World} {E : Env} {ys : List Value}, C.X f = some g → g args S = some (x, S') → SR B0 w0 E S w → Pair (VR E w) args ys →
    CallsIn Fence.wide 0 C.P f ys.toArray w (Post B0 w0 E w S S' x)

theorem XOK.none {C : Cfg} (h : ∀ f, C.X f = none) (he : EOK C) : XOK C :=
  { ex := he, low := by intro f g args S x S' h1; rw [h] at h1; cases h1
    ent := by intro f g args S x S' h1; rw [h] at h1; cases h1
    call := by intro f g args S x S' B0 w0 w E ys h1; rw [h] at h1; cases h1 }

/-- A function without a body, by the model's own table. -/
theorem extern_run {P : Program} {f : FuncId} {fn : Func} {e : Array Value → Sem Value} {vs : List Value} {y : Value} {w : World} (hf : P.funcs[f]? = some fn) (hn : (fn.name == "runtime.NumGoroutine") = false) (hb : fn.body.isNone = true) (h1 : Extern.findNext fn = none) (h2 : Extern.find fn = some e)
    (hr : (e vs.toArray).run P w = .ok y w) : (callFunc f vs.toArray).run P w = .ok (.value y) w := by
  rw [run_callFunc_extern hf hn hb h1 h2, hr]; rfl

def exIndexByte : List Value → Option Value
  | [.string s, .int .u8 b] => some (.int .i64 (firstIdx s b.toNat.toUInt8))
  | _ => none
def exCompare : List Value → Option Value
  | [.string a, .string b] => some (.int .i64 (Extern.BytealgCompare.cmp a b))
  | _ => none

theorem exIndexByte_run {P : Program} {vs : List Value} {y : Value} {w : World} (h : exIndexByte vs = some y) : (Extern.BytealgIndexByte.indexByte vs.toArray).run P w = .ok y w := by
  unfold exIndexByte at h
  split at h
  · cases h; exact run_indexByte_string _ _ _
  · cases h
theorem exCompare_run {P : Program} {vs : List Value} {y : Value} {w : World} (h : exCompare vs = some y) : (Extern.BytealgCompare.compare vs.toArray).run P w = .ok y w := by
  unfold exCompare at h
  split at h
  · cases h
    change Sem.run P (do pure (goInt (Extern.BytealgCompare.cmp (← Extern.Bytes.bytesOf (.string _)) (← Extern.Bytes.bytesOf (.string _))))) w = _
    simp only [Extern.Bytes.bytesOf, Sem.run_bind, Sem.run_pure, Result.andThen]
    rfl
  · cases h

/-- The evaluator is sound. -/
theorem lower_ok (hN : NamesOK C.P) (hX : XOK C) (hm : C.P.follows .mixedOrders = true) : ∀ n, LwOK C (lower C n)
  | 0 => ⟨hX.ex, fun h => (by cases h), fun h => (by cases h), fun h => (by cases h), fun h => (by cases h), fun h => (by cases h), fun _ _ h => (by cases h)⟩
  | n + 1 => by
    have ih := lower_ok hN hX hm n
    have case : ∀ {f : FuncId} {args : List AV} {S : AS} {q : AV × AS}, (lower C (n + 1)).call f args S = some q → (∃ g, C.X f = some g ∧ g args S = some q) ∨ acallX C (lower C n) (n + 1) f args S = some q := by
      intro f args S q h
      simp only [lower] at h
      split at h
      · rename_i g hg; exact .inl ⟨g, hg, h⟩
      · exact .inr h
    refine ⟨hX.ex, fun h => ?_, fun h => ayieldF_low ih h, fun h => ?_, fun h hs hp => ?_, fun h hs hp hj => ayieldF_sound hN ih hm h hs hp hj, fun {f args S x S'} hXf hF h => ?_⟩
    · rcases case h with ⟨g, h1, h2⟩ | h1
      · exact hX.low h1 h2
      · exact acallX_low ih h1
    · rcases case h with ⟨g, h1, h2⟩ | h1
      · exact hX.ent h1 h2
      · exact acallX_ent h1
    · rcases case h with ⟨g, h1, h2⟩ | h1
      · exact hX.call h1 h2 hs hp
      · exact acallX_sound hN ih hm h1 hs hp
    · simp only [lower, hXf] at h ⊢
      exact acallX_st hF h

/-- What a contract in the table must keep. -/
structure ConOK (P : Program) (f : FuncId) (g : List AV → AS → Option (AV × AS)) : Prop where
  low : ∀ {args : List AV} {S : AS} {x : AV} {S' : AS}, g args S = some (x, S') → Low S S'
  ent : ∀ {args : List AV} {S : AS} {x : AV} {S' : AS}, g args S = some (x, S') → ∃ fn, P.funcs[f]? = some fn ∧ fn.body.isSome = true
  call : ∀ {args : List AV} {S : AS} {x : AV} {S' : AS} {B0 : Nat} {w0 w : World} {E : Env} {ys : List Value}, g args S = some (x, S') → SR B0 w0 E S w → Pair (VR E w) args ys →
    CallsIn Fence.wide 0 P f ys.toArray w (Post B0 w0 E w S S' x)

def xT : List (Nat × (List AV → AS → Option (AV × AS))) → Nat → Option (List AV → AS → Option (AV × AS))
  | [], _ => none
  | (f, e) :: t, g => match Nat.beq f g with | true => some e | false => xT t g

theorem xT_mem : ∀ {t : List (Nat × (List AV → AS → Option (AV × AS)))} {f : Nat} {g : List AV → AS → Option (AV × AS)}, xT t f = some g → (f, g) ∈ t
  | [], _, _, h => by cases h
  | (f, e) :: t, g, x, h => by
    simp only [xT] at h
    split at h
    · rename_i hb; cases h; have := Nat.eq_of_beq_eq_true hb; subst this; exact List.mem_cons_self ..
    · exact List.mem_cons_of_mem _ (xT_mem h)

theorem XOK.ofT {t : List (Nat × (List AV → AS → Option (AV × AS)))} (he : EOK C) (hx : C.X = xT t) (h : ∀ p ∈ t, ConOK C.P p.1 p.2) : XOK C where
  ex := he
  low := by intro f g args S x S' h1 h2; exact (h (f, g) (xT_mem (by rw [← hx]; exact h1))).low h2
  ent := by intro f g args S x S' h1 h2; exact (h (f, g) (xT_mem (by rw [← hx]; exact h1))).ent h2
  call := by intro f g args S x S' B0 w0 w E ys h1 h2 hs hp; exact (h (f, g) (xT_mem (by rw [← hx]; exact h1))).call h2 hs hp

/-- A contract out of another evaluator. -/
theorem ConOK.of_lw {C0 : Cfg} (hL : LwOK C0 L) {f : FuncId} {g : List AV → AS → Option (AV × AS)} (h : ∀ args S q, g args S = some q → L.call f args S = some q) : ConOK C0.P f g where
  low := by intro args S x S' h1; exact hL.low (h _ _ _ h1)
  ent := by intro args S x S' h1; exact hL.ent (h _ _ _ h1)
  call := by intro args S x S' B0 w0 w E ys h1 hs hp; exact hL.call (h _ _ _ h1) hs hp

end Go.AM
