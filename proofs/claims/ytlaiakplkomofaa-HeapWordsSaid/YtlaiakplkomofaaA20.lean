/- The abstract machine, twenty-first text: calls and rounds. -/
import Derived.Test.YtlaiakplkomofaaA19
namespace Go.AM
open Go.RowKit Go.MapKept

variable {B0 : Nat} {w0 w : World} {E : Env} {S S' : AS} {P : Program} {C : Cfg} {L : Lw}

theorem akill_low : ∀ (ms : List Nat) {S S' : AS}, akill ms S = some S' → Low S S'
  | [], S, S', h => by simp only [akill] at h; cases h; exact Low.refl _
  | m :: ms, S, S', h => by
    simp only [akill] at h
    split at h
    · exact (Low.set S m .dead).trans (akill_low ms h)
    · cases h

theorem akill_sound {fn : Func} {tmps : Array Value} {R : Ending → World → Prop} : ∀ (ms : List Nat) {ds : List Deferred} {S S2 : AS} {w : World}, akill ms S = some S2 → SR B0 w0 E S w → ms.length = ds.length →
    (∀ (i : Nat) o d, ms[i]? = some o → ds[i]? = some d → ∃ g, E.j o = some g ∧ d = { target := .collected g, args := #[] }) →
    (∀ w', SR B0 w0 E S2 w' → Step S.objs.length S.ends.length E w E w' → ∃ v, (results fn tmps).run P w' = .ok v w' ∧ R (.returned v) w') →
    LeavesInM Fence.wide 0 P fn tmps R ds .returning w
  | [], [], S, S2, w, h, hs, _, _, hR => by simp only [akill] at h; cases h; exact hR w hs (Step.refl _ _ _ _)
  | [], _ :: _, _, _, _, _, _, hl, _, _ => by simp at hl
  | _ :: _, [], _, _, _, _, _, hl, _, _ => by simp at hl
  | m :: ms, d :: ds, S, S2, w, h, hs, hl, hm, hR => by
    simp only [akill] at h
    split at h
    · rename_i ho
      obtain ⟨g, hj, rfl⟩ := hm 0 m d rfl rfl
      have hh : w.heap[g]? = some (.deferred (some [])) := hs.obj m _ g ho hj
      obtain ⟨k1, k2⟩ := hs.setObj hj (by unfold AS.live; rw [ho]; simp) (grownBy_put w g (.deferred none)) .dead trivial
      refine ⟨by simp, .inl ⟨g, _, rfl, run_takeDeferred hh, ?_⟩⟩
      refine akill_sound ms h k1 (by simpa using hl) (fun i o d h1 h2 => hm (i + 1) o d (by simpa using h1) (by simpa using h2)) fun w' q1 q2 => hR w' q1 (k2.trans q2 (by simp [AS.set]) (Nat.le_refl _))
    · cases h

theorem aresult_sound (h : SR B0 w0 E S w) {l : List AV} {tmps : Array Value} (hp : Pair (VR E w) l tmps.toList) {rv : ResultVar} {x : AV} (hx : aresult P l S rv = some x) (f : ResultVar → Sem Value) (hf : ∀ u, f (.tmp u) = pure (tmps.getD u undef)) (hc : ∀ a t, f (.cell a t) = (do loadVar t (← asAddr (tmps.getD a undef)))) :
    ∃ y, (f rv).run P w = .ok y w ∧ VR E w x y := by
  have ht : ∀ u, VR E w ((l[u]?).getD undefA) (tmps.getD u undef) := fun u => aeval_rel (act := { tmps := tmps, defers := [] }) hp (.tmp u)
  cases rv with
  | tmp u => simp only [aresult, Option.some.injEq] at hx; subst hx; exact ⟨_, by rw [hf]; rfl, ht u⟩
  | cell a t =>
    simp only [aresult] at hx
    rw [hc]
    obtain ⟨y, hy, hv⟩ := load_sound h (ht a) hx
    have ha := ht a
    obtain ⟨q, hq⟩ : ∃ q, (l[a]?).getD undefA = q := ⟨_, rfl⟩
    rw [hq] at hx ha
    have hptr : ∃ ad, tmps.getD a undef = .pointer (some ad) := by
      cases q with
      | ptr o off => obtain ⟨g, _, e⟩ := ha.ptr_inv; exact ⟨_, e⟩
      | eptr row off => obtain ⟨g, b, e, _⟩ := ha.eptr_inv; exact ⟨_, e⟩
      | _ => simp [aload] at hx
    obtain ⟨ad, e⟩ := hptr
    refine ⟨y, ?_, hv⟩
    rw [e] at hy ⊢
    simpa [Instr.loadAt, Instr.sureAddr, asAddr] using hy

theorem aresults_sound (h : SR B0 w0 E S w) {l : List AV} {tmps : Array Value} (hp : Pair (VR E w) l tmps.toList) (f : ResultVar → Sem Value) (hf : ∀ u, f (.tmp u) = pure (tmps.getD u undef)) (hc : ∀ a t, f (.cell a t) = (do loadVar t (← asAddr (tmps.getD a undef)))) :
    ∀ (rs : List ResultVar) {xs : List AV}, aresults P l S rs = some xs → ∃ ys, (rs.mapM f).run P w = .ok ys w ∧ Pair (VR E w) xs ys
  | [], xs, hx => by simp only [aresults] at hx; cases hx; exact ⟨[], by simp, rfl, fun i x y hx _ => by simp at hx⟩
  | r :: rs, xs, hx => by
    simp only [aresults] at hx
    split at hx
    · rename_i x h1
      split at hx
      · rename_i xs' h2
        cases hx
        obtain ⟨y, k1, k2⟩ := aresult_sound h hp h1 f hf hc
        obtain ⟨ys, k3, k4⟩ := aresults_sound h hp f hf hc rs h2
        refine ⟨y :: ys, by simp [List.mapM_cons, k1, k3], by simp [k4.1], fun i a b ha hb => ?_⟩
        cases i with
        | zero => simp at ha hb; subst ha; subst hb; exact k2
        | succ i => exact k4.2 i a b (by simpa using ha) (by simpa using hb)
      · cases hx
    · cases hx

theorem results_sound (h : SR B0 w0 E S w) {fn : Func} {l : List AV} {tmps : Array Value} (hp : Pair (VR E w) l tmps.toList) {xs : List AV} (hx : aresults P l S fn.results.toList = some xs) : ∃ y, (results fn tmps).run P w = .ok y w ∧ VR E w (aone xs) y := by
  obtain ⟨ys, h1, h2⟩ := aresults_sound h hp (fun | .tmp t => pure (tmps.getD t undef) | .cell a t => do loadVar t (← asAddr (tmps.getD a undef))) (fun _ => rfl) (fun _ _ => rfl) fn.results.toList hx
  have hrun : (results fn tmps).run P w = .ok (if h : ys.toArray.size = 1 then ys.toArray[0] else .tuple ys.toArray) w := by
    unfold results
    have e : fn.results = fn.results.toList.toArray := by simp
    rw [e, List.mapM_toArray]
    simp only [Sem.run_bind, Sem.run_map]
    refine (congrArg (fun q : Result (List Value) => (q.andThen fun a w' => Result.ok a.toArray w').andThen fun a w' => Sem.run P (pure (if h : a.size = 1 then a[0] else Value.tuple a)) w') h1).trans ?_
    simp
  refine ⟨_, hrun, ?_⟩
  match xs, ys, h2 with
  | [], [], _ => exact VR.tup ⟨rfl, fun i x y hx _ => by simp at hx⟩
  | [x], [y], h2 => exact h2.2 0 x y rfl rfl
  | x :: x2 :: xs, y :: y2 :: ys, h2 => simp [aone]; exact VR.tup h2
  | [], _ :: _, h2 => exact absurd h2.1 (by simp)
  | [_], [], h2 => exact absurd h2.1 (by simp)
  | [_], _ :: _ :: _, h2 => exact absurd h2.1 (by simp)
  | _ :: _ :: _, [], h2 => exact absurd h2.1 (by simp)
  | _ :: _ :: _, [_], h2 => exact absurd h2.1 (by simp)

theorem Low.unmark {S2 : AS} (h : Low (amark S) S2) : Low S (aunmark S S2) :=
  ⟨h.len, h.tlen, Nat.min_le_left _ _, Nat.min_le_left _ _, fun o ho hl => h.objs o ho (Nat.lt_of_lt_of_le hl (Nat.min_le_right _ _)), fun t ht hl => h.ends t ht (Nat.lt_of_lt_of_le hl (Nat.min_le_right _ _))⟩

theorem Low.kept {S2 : AS} (h : Low (amark S) S2) (hk : akept S S2 = true) : (∀ o, o < S.objs.length → S2.objs[o]? = S.objs[o]?) ∧ ∀ t, t < S.ends.length → S2.ends[t]? = S.ends[t]? := by
  simp only [akept, Bool.and_eq_true] at hk
  have h1 := Nat.eq_of_beq_eq_true hk.1
  have h2 := Nat.eq_of_beq_eq_true hk.2
  exact ⟨fun o ho => h.objs o ho (by omega), fun t ht => h.ends t ht (by omega)⟩

theorem aleave_low {fn : Func} {a : AAct} {S1 : AS} {x : AV} (hl : Low (amark S) S1) (h : aleave C fn S a S1 = some (x, S')) : Low S S' := by
  unfold aleave at h
  split at h
  · rename_i S2 h1
    split at h
    · split at h
      · cases h; exact Low.refl _
      · cases h; exact (hl.trans (akill_low _ h1)).unmark
    · cases h
  · cases h

theorem aleave_sound {fn : Func} {a : AAct} {act : Act} {S1 : AS} {x : AV} {w1 : World} {E1 : Env} (hl : Low (amark S) S1) (h : aleave C fn S a S1 = some (x, S')) (hs : SR B0 w0 E S w) (h1 : SR B0 w0 E1 S1 w1) (hst : Step S.objs.length S.ends.length E w E1 w1) (ha : ActR E1 w1 a act) :
    LeavesInM Fence.wide 0 C.P fn act.tmps (Post B0 w0 E w S S' x) act.defers .returning w1 := by
  unfold aleave at h
  split at h
  · rename_i S2 hk
    split at h
    · rename_i xs hr
      refine akill_sound a.marks hk h1 ha.len ha.marks fun w2 k1 k2 => ?_
      have ha2 := ha.ext k2.toExt
      obtain ⟨y, hy, hv⟩ := results_sound k1 ha2.tmps hr
      refine ⟨y, hy, ?_⟩
      have hst2 : Step S.objs.length S.ends.length E w E1 w2 := hst.trans k2 hl.len hl.tlen
      have hl2 := hl.trans (akill_low _ hk)
      split at h
      · rename_i hc
        cases h
        simp only [Bool.and_eq_true] at hc
        obtain ⟨q1, q2⟩ := hl2.kept hc.1
        obtain ⟨r1, r2⟩ := hs.narrow k1 hst2 q1 q2
        exact ⟨_, r1, r2, hv.narrow hc.2⟩
      · cases h
        exact ⟨E1, k1.of_eq rfl rfl, hst2, hv⟩
    · cases h
  · cases h

theorem acallF_low (hL : LwOK C.P L) {k : Nat} {f : FuncId} {args : List AV} {x : AV} (h : acallF C L k f args S = some (x, S')) : Low S S' := by
  unfold acallF at h
  split at h
  · split at h
    · split at h
      · rename_i h1; exact aleave_low (aC_low hL _ h1) h
      · rename_i h1; exact aleave_low (aC_low hL _ h1) h
      · cases h
    · cases h
  · cases h

theorem acallF_ent {k : Nat} {f : FuncId} {args : List AV} {x : AV} (h : acallF C L k f args S = some (x, S')) : ∃ fn, C.P.funcs[f]? = some fn ∧ fn.body.isSome = true := by
  unfold acallF at h
  split at h
  · rename_i fn hf
    split at h
    · rename_i c hb; exact ⟨fn, hf, by rw [hb]; rfl⟩
    · cases h
  · cases h

theorem acallF_sound (hN : NamesOK C.P) (hL : LwOK C.P L) (hm : C.P.follows .mixedOrders = true) {k : Nat} {f : FuncId} {args : List AV} {x : AV} {ys : List Value} (h : acallF C L k f args S = some (x, S')) (hs : SR B0 w0 E S w) (hp : Pair (VR E w) args ys) :
    CallsIn Fence.wide 0 C.P f ys.toArray w (Post B0 w0 E w S S' x) := by
  unfold acallF at h
  split at h
  · rename_i fn hf
    split at h
    · rename_i c hb
      refine callsIn_of_wp_marks hf hb trivial ?_
      have hinit : Pair (VR E w) (args ++ List.replicate (fn.ntmps - args.length) undefA) (ys.toArray ++ Array.replicate (fn.ntmps - ys.toArray.size) undef).toList := by
        have h1 : Pair (VR E w) (List.replicate (fn.ntmps - args.length) undefA) (List.replicate (fn.ntmps - args.length) undef) := ⟨by simp, fun i a b ha hb => by
          rw [List.getElem?_replicate] at ha hb
          by_cases hi : i < fn.ntmps - args.length
          · simp only [hi, if_true, Option.some.injEq] at ha hb
            rw [← ha, ← hb]; exact VR.undef
          · simp [hi] at ha⟩
        have h2 : (ys.toArray ++ Array.replicate (fn.ntmps - ys.toArray.size) undef).toList = ys ++ List.replicate (fn.ntmps - args.length) undef := by simp [hp.1]
        rw [h2]
        exact hp.app h1
      have ha : ActR E w { tmps := args ++ List.replicate (fn.ntmps - args.length) undefA, marks := [] } { tmps := ys.toArray ++ Array.replicate (fn.ntmps - ys.toArray.size) undef, defers := [] } := ⟨hinit, rfl, fun i o d ho _ => by simp at ho⟩
      have hs0 : SR B0 w0 E (amark S) w := hs.of_eq rfl rfl
      split at h
      · rename_i a S1 h1
        exact aC_sound (r := none) hN hL hm c h1 hs0 ha rfl fun act' w' E' k1 k2 k3 => aleave_sound (aC_low hL _ h1) h hs k1 k2 k3
      · rename_i a S1 h1
        exact aC_sound (r := none) hN hL hm c h1 hs0 ha rfl fun act' w' E' k1 k2 k3 => aleave_sound (aC_low hL _ h1) h hs k1 k2 k3
      · cases h
    · cases h
  · cases h

theorem ayieldF_some {k o : Nat} {args : List AV} {x : AV} (h : ayieldF C L k o args S = some (x, S')) :
    ∃ r a1 S1 r1 e a2 S3 r3 j, S.objs[o]? = some (.loop r) ∧ args.length = r.params.size ∧
      aC C L k r.hint (some o) r.assign { tmps := (r.params.toList.zip args).foldl (fun l p => l.set p.1 p.2) r.tmps, marks := [] } S = some (.normal, a1, S1) ∧
      S1.objs[o]? = some (.loop r1) ∧ r1.state = .ready ∧ aC C L k r.hint (some o) r.body a1 (S1.set o (.loop { r1 with state := .busy })) = some (e, a2, S3) ∧
      S3.objs[o]? = some (.loop r3) ∧ ajump e = some j ∧ x = .v (.bool j.isNone) ∧ S' = S3.set o (.loop { r3 with state := if j.isNone then .ready else .done, pending := j }) := by
  unfold ayieldF at h
  split at h
  · rename_i r h1
    split at h
    · rename_i h2
      split at h
      · rename_i a1 S1 h3
        split at h
        · rename_i r1 h4
          split at h
          · rename_i h5
            split at h
            · rename_i e a2 S3 h6
              split at h
              · rename_i r3 h7
                split at h
                · rename_i j h8
                  cases h
                  exact ⟨r, a1, S1, r1, e, a2, S3, r3, j, h1, Nat.eq_of_beq_eq_true h2, h3, h4, h5, h6, h7, h8, rfl, rfl⟩
                · cases h
              · cases h
            · cases h
          · cases h
        · cases h
      · cases h
    · cases h
  · cases h

theorem ayieldF_low (hL : LwOK C.P L) {k o : Nat} {args : List AV} {x : AV} (h : ayieldF C L k o args S = some (x, S')) : Low S S' := by
  obtain ⟨r, a1, S1, r1, e, a2, S3, r3, j, h1, h2, h3, h4, h5, h6, h7, h8, rfl, rfl⟩ := ayieldF_some h
  exact (((aC_low hL _ h3).trans (Low.set _ _ _)).trans (aC_low hL _ h6)).trans (Low.set _ _ _)

theorem fold_rel : ∀ (ps : List (Tmp × AV)) (qs : List (Tmp × Value)) {l : List AV} {t : Array Value}, ps.length = qs.length → (∀ (i : Nat) p q, ps[i]? = some p → qs[i]? = some q → p.1 = q.1 ∧ VR E w p.2 q.2) → Pair (VR E w) l t.toList →
    Pair (VR E w) (ps.foldl (fun l p => l.set p.1 p.2) l) (qs.foldl (fun t q => t.setIfInBounds q.1 q.2) t).toList
  | [], [], _, _, _, _, h => h
  | [], _ :: _, _, _, h, _, _ => by simp at h
  | _ :: _, [], _, _, h, _, _ => by simp at h
  | p :: ps, q :: qs, l, t, hl, h, hp => by
    obtain ⟨e, hv⟩ := h 0 p q rfl rfl
    simp only [List.foldl_cons]
    rw [e]
    exact fold_rel ps qs (by simpa using hl) (fun i p' q' h1 h2 => h (i + 1) p' q' (by simpa using h1) (by simpa using h2)) (hp.put hv q.1)

theorem ayieldF_sound (hN : NamesOK C.P) (hL : LwOK C.P L) (hm : C.P.follows .mixedOrders = true) {k o g : Nat} {args : List AV} {x : AV} {ys : List Value} (h : ayieldF C L k o args S = some (x, S')) (hs : SR B0 w0 E S w) (hp : Pair (VR E w) args ys) (hj : E.j o = some g) :
    ∃ fn tmps asg body, (Instr.yield g ys.toArray).run C.P w = .ok (.round g fn tmps asg body) w ∧ RoundIn Fence.wide 0 C.P g fn tmps asg body w (Post B0 w0 E w S S' x) := by
  obtain ⟨r, a1, S1, r1, e, a2, S3, r3, j, h1, h2, h3, h4, h5, h6, h7, h8, rfl, rfl⟩ := ayieldF_some h
  obtain ⟨zs, gd, fn, hh, hz, hgd⟩ := hs.obj o _ g h1 hj
  refine ⟨_, _, _, _, run_yield hh (by simp [← hp.1, h2]), roundIn_of_wpIn trivial ?_⟩
  have hfold : Pair (VR E w) ((r.params.toList.zip args).foldl (fun l p => l.set p.1 p.2) r.tmps) ((r.params.zip ys.toArray).foldl (fun tmps (t, a) => tmps.setIfInBounds t a) zs.toArray).toList := by
    rw [← Array.foldl_toList, Array.toList_zip]
    refine fold_rel _ _ (by simp [hp.1]) (fun i p q k1 k2 => ?_) (by simpa using hz)
    rw [List.getElem?_zip_eq_some] at k1 k2
    obtain ⟨k1, k3⟩ := k1
    obtain ⟨k2, k4⟩ := k2
    rw [k1] at k2
    exact ⟨Option.some.inj k2, hp.2 i _ _ k3 (by simpa using k4)⟩
  have ha : ActR E w { tmps := (r.params.toList.zip args).foldl (fun l p => l.set p.1 p.2) r.tmps, marks := [] } { tmps := (r.params.zip ys.toArray).foldl (fun tmps (t, a) => tmps.setIfInBounds t a) zs.toArray, defers := [] } :=
    ⟨hfold, rfl, fun i o d ho _ => by simp at ho⟩
  have hl1 := aC_low hL _ h3
  have hl2 := aC_low hL _ h6
  refine aC_sound (r := some g) hN hL hm r.assign h3 hs ha ⟨g, rfl, hj⟩ fun act1 w1 E1 k1 k2 k3 => ?_
  have hj1 := k2.j _ _ hj
  obtain ⟨zs1, gd1, fn1, hh1, _, _⟩ := k1.obj o _ g h4 hj1
  have hb := run_beginRound (P := C.P) hh1 h5
  refine ⟨_, hb, ?_⟩
  obtain ⟨q1, q2⟩ := k1.putLoop h4 hj1 hh1 .busy r1.pending
  refine aC_sound (r := some g) hN hL hm r.body h6 q1 (k3.ext q2.toExt) ⟨g, rfl, hj1⟩ fun act3 w3 E3 m1 m2 m3 => ?_
  have hj3 := m2.j _ _ hj1
  obtain ⟨zs3, gd3, fn3, hh3, _, _⟩ := m1.obj o _ g h7 hj3
  have hend := run_endRound (P := C.P) j hh3
  obtain ⟨n1, n2⟩ := m1.putLoop h7 hj3 hh3 (if j.isNone then .ready else .done) j
  have fin : ∃ v w', (Instr.endRound g j).run C.P w3 = .ok v w' ∧ Post B0 w0 E w S (S3.set o (.loop { r3 with state := if j.isNone then .ready else .done, pending := j })) (.v (.bool j.isNone)) (.returned v) w' := by
    refine ⟨_, _, hend, E3, n1, ?_, VR.of_flat rfl⟩
    have s1 := k2.trans q2 hl1.len hl1.tlen
    have s2 := s1.trans m2 (by simpa [AS.set] using hl1.len) hl1.tlen
    exact s2.trans n2 (Nat.le_trans (by simpa [AS.set] using hl1.len) hl2.len) (Nat.le_trans hl1.tlen hl2.tlen)
  cases e with
  | normal => simp only [ajump, Option.some.injEq] at h8; subst h8; exact fin
  | ret => simp only [ajump, Option.some.injEq] at h8; subst h8; exact fin
  | exit id => simp only [ajump, Option.some.injEq] at h8; subst h8; exact fin
  | goto t => simp only [ajump, Option.some.injEq] at h8; subst h8; exact fin
  | panic c => cases h8
  | outgrown => cases h8

structure XOK (C : Cfg) : Prop where
  low : ∀ {f : FuncId} {g : List AV → AS → Option (AV × AS)} {args : List AV} {S : AS} {x : AV} {S' : AS}, C.X f = some g → g args S = some (x, S') → Low S S'
  ent : ∀ {f : FuncId} {g : List AV → AS → Option (AV × AS)} {args : List AV} {S : AS} {x : AV} {S' : AS}, C.X f = some g → g args S = some (x, S') → ∃ fn, C.P.funcs[f]? = some fn ∧ fn.body.isSome = true
  call : ∀ {f : FuncId} {g : List AV → AS → Option (AV × AS)} {args : List AV} {S : AS} {x : AV} {S' : AS} {B0 : Nat} {w0 w : World} {E : Env} {ys : List Value}, C.X f = some g → g args S = some (x, S') → SR B0 w0 E S w → Pair (VR E w) args ys →
    CallsIn Fence.wide 0 C.P f ys.toArray w (Post B0 w0 E w S S' x)

theorem XOK.none {C : Cfg} (h : ∀ f, C.X f = none) : XOK C :=
  { low := by intro f g args S x S' h1; rw [h] at h1; cases h1
    ent := by intro f g args S x S' h1; rw [h] at h1; cases h1
    call := by intro f g args S x S' B0 w0 w E ys h1; rw [h] at h1; cases h1 }

/-- The evaluator is sound. -/
theorem lower_ok (hN : NamesOK C.P) (hX : XOK C) (hm : C.P.follows .mixedOrders = true) : ∀ n, LwOK C.P (lower C n)
  | 0 => ⟨fun h => (by cases h), fun h => (by cases h), fun h => (by cases h), fun h => (by cases h), fun h => (by cases h)⟩
  | n + 1 => by
    have ih := lower_ok hN hX hm n
    have case : ∀ {f : FuncId} {args : List AV} {S : AS} {q : AV × AS}, (lower C (n + 1)).call f args S = some q → (∃ g, C.X f = some g ∧ g args S = some q) ∨ acallF C (lower C n) (n + 1) f args S = some q := by
      intro f args S q h
      simp only [lower] at h
      split at h
      · rename_i g hg; exact .inl ⟨g, hg, h⟩
      · exact .inr h
    refine ⟨fun h => ?_, fun h => ayieldF_low ih h, fun h => ?_, fun h hs hp => ?_, fun h hs hp hj => ayieldF_sound hN ih hm h hs hp hj⟩
    · rcases case h with ⟨g, h1, h2⟩ | h1
      · exact hX.low h1 h2
      · exact acallF_low ih h1
    · rcases case h with ⟨g, h1, h2⟩ | h1
      · exact hX.ent h1 h2
      · exact acallF_ent h1
    · rcases case h with ⟨g, h1, h2⟩ | h1
      · exact hX.call h1 h2 hs hp
      · exact acallF_sound hN ih hm h1 hs hp

end Go.AM
