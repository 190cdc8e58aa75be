/- The opening: forms that stand in a world, as forms of the abstract machine. -/
import Derived.Test.YtlfobfhklmndkaaGreatDoorB5
import Derived.Test.YtlfobfhklmndkaaGreatDoorA21
import Derived.ProofKit
import Derived.Deep.Slices
namespace Go.AM
open Go.RowKit Go.MapKept

/-- All cells of a world, frozen. -/
def envW (w : World) : Env := { j := fun _ => none, fz := fun g k => ∃ z, w.cell? ⟨g, k, none⟩ = some z, tk := fun _ => (0, 0, 0), en := fun _ => 0, cp := fun _ => 0 }
theorem SR.initW (w : World) : SR w.heap.size w (envW w) {} w :=
  { below := Below.refl _ _, base := Nat.le_refl _, obj := fun o ob g h _ => (by simp at h), jlt := fun o g h => (by cases h), inj := fun o o' g h => (by cases h), jb := fun o g h => (by cases h), fzc := fun g k h => h, en := fun t => .inl rfl, tok := fun t h => absurd h (Nat.lt_irrefl 0), tinj := fun t t' h => absurd h (Nat.lt_irrefl 0) }

theorem call_callsW {C : Cfg} {w : World} {S' : AS} (hN : NamesOK C.P) (hX : XOK C) (hm : C.P.follows .mixedOrders = true) {n : Nat} {f : FuncId} {args : List AV} {ys : List Value} {x : Value} (hx : (lower C n).call f args {} = some (.v x, S')) (hp : Pair (VR (envW w) w) args ys) :
    Calls C.P f ys.toArray w fun e w' => e = .returned x ∧ Below w.heap.size w w' := by
  refine callsIn_wide.1 (CallsIn.mono ((lower_ok hN hX hm n).call hx (SR.initW w) hp) fun e w' he => ?_)
  cases e with
  | returned y =>
    obtain ⟨E', h1, _, h3⟩ := he
    obtain ⟨_, rfl⟩ := h3.flat_inv
    exact ⟨rfl, h1.below⟩
  | panicked c => exact he.elim
  | outgrown => exact he.elim

/-- The layout of forms. -/
structure FormT (P : Program) (tl te ti ts : TypeId) : Prop where
  sl : P.underlying tl = some (.slice te)
  st' : (match P.underlying te with | some (.struct fs) => fs.toList.map (fun f => (f.offset, f.type)) | _ => []) = [(0, ti), (1, ts), (2, ts), (3, tl)]
  int : P.underlying ti = some (.int .i64)
  str : P.underlying ts = some .string
  ce : P.cellsOf te = 4
  ci : P.cellsOf ti = 1
  cs : P.cellsOf ts = 1
  cl : P.cellsOf tl = 1

theorem FormT.st {P : Program} {tl te ti ts : TypeId} (h : FormT P tl te ti ts) : ∃ f0 f1 f2 f3 : Field, P.underlying te = some (.struct #[f0, f1, f2, f3]) ∧ (f0.offset = 0 ∧ f0.type = ti) ∧ (f1.offset = 1 ∧ f1.type = ts) ∧ (f2.offset = 2 ∧ f2.type = ts) ∧ (f3.offset = 3 ∧ f3.type = tl) := by
  have h1 := h.st'
  split at h1
  · rename_i fs hs
    obtain ⟨l⟩ := fs
    have hl : l.length = 4 := by have := congrArg List.length h1; simpa using this
    obtain ⟨f0, f1, f2, f3, rfl⟩ : ∃ f0 f1 f2 f3, l = [f0, f1, f2, f3] := by
      match l, hl with
      | [a, b, c, d], _ => exact ⟨a, b, c, d, rfl⟩
    simp only [List.map_cons, List.map_nil, List.cons.injEq, Prod.mk.injEq, and_true] at h1
    exact ⟨f0, f1, f2, f3, hs, h1.1, h1.2.1, h1.2.2.1, h1.2.2.2⟩
  · cases h1

variable {H : Type} {enc : TypeId × Value → H} {P : Program} {w : World} {held : Bool} {tl te ti ts : TypeId}

theorem flat4_get : ∀ (xs : List Fm) (i j : Nat), j < 4 → (flat4 xs)[i * 4 + j]? = (xs[i]?).bind fun x => x.row[j]? := by
  intro xs i j hj
  rw [← List.getElem?_drop, flat4_drop]
  cases hx : xs[i]? with
  | none =>
    rw [List.drop_of_length_le (by simpa using hx)]
    rfl
  | some x =>
    obtain ⟨hi, rfl⟩ := List.getElem?_eq_some_iff.1 hx
    rw [List.drop_eq_getElem_cons hi, flat4_cons, List.getElem?_append_left (by rw [Fm.row_len]; exact hj)]
    rfl

theorem spot_none {a : Addr} {z : Value} (h : w.cell? a = some z) : a.spot = none := by
  unfold World.cell? at h
  split at h
  · split at h
    · cases h
    · rename_i hs; simpa using hs
  · cases h
theorem add_zero (a : Addr) : (a.add (0 * 4)).add 0 = a := by simp [Addr.add]

theorem forms_at (ht : FormT P tl te ti ts) : ∀ fuel : Nat,
    (∀ (cs : List Value) (x : DataW H × List MemPlace), DataW.trod enc P w 0 (fun _ => true) held fuel te cs = some x → ∃ f : Fm, Fit f ∧ Pair (VR (envW w) w) f.row cs) ∧
    (∀ (cs : List Value) (x : DataW H × List MemPlace), DataW.trod enc P w 0 (fun _ => true) held fuel tl cs = some x → ∃ (v : Value) (xs : List Fm), cs = [v] ∧ (∀ y ∈ xs, Fit y) ∧ xs.length < 9223372036854775808 ∧ VR (envW w) w (.lst .any (xs.map Fm.row)) v) := by
  intro fuel
  induction fuel with
  | zero => exact ⟨fun cs x h => by simp [DataW.trod] at h, fun cs x h => by simp [DataW.trod] at h⟩
  | succ n ih =>
    constructor
    · intro cs x h
      obtain ⟨f0, f1, f2, f3, hs, ⟨o0, t0⟩, ⟨o1, t1⟩, ⟨o2, t2⟩, ⟨o3, t3⟩⟩ := ht.st
      obtain ⟨xs, m, hm, rfl, hl, hlen, hf⟩ := DataW.trod_struct hs h
      cases hm
      rw [ht.ce] at hl
      have g0 := hf 0 f0 rfl
      have g1 := hf 1 f1 rfl
      have g2 := hf 2 f2 rfl
      have g3 := hf 3 f3 rfl
      rw [o0, t0, ht.ci] at g0
      rw [o1, t1, ht.cs] at g1
      rw [o2, t2, ht.cs] at g2
      rw [o3, t3, ht.cl] at g3
      match cs, hl with
      | [c0, c1, c2, c3], _ =>
        match xs, hlen with
        | [x0, x1, x2, x3], _ =>
          obtain ⟨k, e0, _, _⟩ := DataW.trod_int ht.int (show DataW.trod enc P w 0 _ held n ti [c0] = some x0 from g0)
          obtain ⟨s1, e1, _, _⟩ := DataW.trod_string ht.str (show DataW.trod enc P w 0 _ held n ts [c1] = some x1 from g1)
          obtain ⟨s2, e2, _, _⟩ := DataW.trod_string ht.str (show DataW.trod enc P w 0 _ held n ts [c2] = some x2 from g2)
          obtain ⟨v, ys, e3, hfit, hlen, hv⟩ := ih.2 _ _ (show DataW.trod enc P w 0 _ held n tl [c3] = some x3 from g3)
          cases e0; cases e1; cases e2; cases e3
          refine ⟨.mk k s1 s2 ys, .mk _ hlen hfit, rfl, fun i a b ha hb => ?_⟩
          have hrow : (Fm.mk k s1 s2 ys).row = [.v (.int .i64 k), .v (.string s1), .v (.string s2), .lst .any (ys.map Fm.row)] := by
            unfold Fm.row
            rw [Fm.rows_eq]
            rfl
          rw [hrow] at ha
          match i, ha, hb with
          | 0, ha, hb => cases ha; cases hb; exact VR.of_flat rfl
          | 1, ha, hb => cases ha; cases hb; exact VR.of_flat rfl
          | 2, ha, hb => cases ha; cases hb; exact VR.of_flat rfl
          | 3, ha, hb => cases ha; cases hb; exact hv
          | i + 4, ha, hb => cases ha
    · intro cs x h
      rcases DataW.trod_slice ht.sl h with ⟨rfl, _⟩ | ⟨a, len, cap, elems, rest, m, hm, rfl, _, _, hl, hcap, hlen, hel, hsp, _⟩
      · exact ⟨_, [], rfl, fun y hy => (by cases hy), (by decide), 1, Or.inl ⟨rfl, none, rfl, .inl rfl⟩⟩
      cases hm
      rw [ht.ce] at hel hsp
      by_cases hc0 : cap = 0
      · subst hc0
        have : len = 0 := by omega
        subst this
        exact ⟨_, [], rfl, fun y hy => (by cases hy), (by decide), 1, Or.inl ⟨rfl, some a, rfl, .inl rfl⟩⟩
      -- the first cell stands
      have hsome : ∀ (i : Nat) {y : DataW H × List MemPlace}, (w.cells? 0 (a.add (i * 4)) 4).bind (DataW.trod enc P w 0 (fun _ => true) held n te) = some y → ∃ cs' : List Value, cs'.length = 4 ∧ (∀ j, j < 4 → w.cell? ((a.add (i * 4)).add j) = cs'[j]?) ∧ DataW.trod enc P w 0 (fun _ => true) held n te cs' = some y := by
        intro i y hy
        obtain ⟨cs', h1, h2⟩ := Option.bind_eq_some_iff.1 hy
        obtain ⟨_, h3, h4⟩ := World.cells?_some h1
        exact ⟨cs', h3, h4, h2⟩
      have hfirst : ∀ {y : DataW H × List MemPlace}, (w.cells? 0 (a.add (0 * 4)) 4).bind (DataW.trod enc P w 0 (fun _ => true) held n te) = some y → a.spot = none := by
        intro y hy
        obtain ⟨cs', h3, h4, _⟩ := hsome 0 hy
        have := h4 0 (by decide)
        rw [List.getElem?_eq_getElem (by omega), add_zero] at this
        exact spot_none this
      have hspot : a.spot = none := by
        by_cases h0 : 0 < len
        · have h1 := hel 0 h0
          rw [List.getElem?_eq_getElem (by omega)] at h1
          exact hfirst h1
        · have h1 := (hsp rfl).2 0 (by omega)
          rw [List.getElem?_eq_getElem (by rw [(hsp rfl).1]; omega)] at h1
          have e0 : len = 0 := by omega
          subst e0
          exact hfirst h1
      obtain ⟨g, b, sp⟩ := a
      dsimp only at hspot
      subst hspot
      have : Inhabited Fm := ⟨.mk 0 .empty .empty []⟩
      obtain ⟨F, hF⟩ := Go.Deep.choose_lt (α := Fm) (n := len) (p := fun i f => Fit f ∧ ∃ cs' : List Value, cs'.length = 4 ∧ (∀ j, j < 4 → w.cell? ⟨g, b + i * 4 + j, none⟩ = cs'[j]?) ∧ Pair (VR (envW w) w) f.row cs') (fun i hi => by
        have h1 := hel i hi
        rw [List.getElem?_eq_getElem (by omega)] at h1
        obtain ⟨cs', h3, h4, h5⟩ := hsome i h1
        obtain ⟨f, hf1, hf2⟩ := ih.1 _ _ h5
        exact ⟨f, hf1, cs', h3, fun j hj => by have := h4 j hj; rwa [addr_add, addr_add] at this, hf2⟩)
      have hxl : ((List.range len).map F).length = len := by simp
      refine ⟨_, (List.range len).map F, rfl, fun y hy => ?_, ?_, ?_⟩
      · obtain ⟨i, hi, rfl⟩ := List.mem_map.1 hy
        exact (hF i (List.mem_range.1 hi)).1
      · rw [hxl]
        have : cap ≤ maxLen := hcap
        unfold maxLen at this
        omega
      · have key := VR.lst (E := envW w) (w := w) (c := .any) (rows := ((List.range len).map F).map Fm.row) (g := g) (b := b) (cap := cap) (sz := 4) (by simpa using hl) hcap (by decide) (by intro r hr; obtain ⟨x, _, rfl⟩ := List.mem_map.1 hr; rfl) (fun m x hx => by
          have hm4 : m = m / 4 * 4 + m % 4 := by omega
          have hlt : m % 4 < 4 := Nat.mod_lt _ (by decide)
          have hx' : (flat4 ((List.range len).map F))[m / 4 * 4 + m % 4]? = some x := by rw [← hm4]; exact hx
          rw [flat4_get _ _ _ hlt] at hx'
          obtain ⟨f, hf, hx2⟩ := Option.bind_eq_some_iff.1 hx'
          have hi : m / 4 < len := by
            have := (List.getElem?_eq_some_iff.1 hf).1
            simpa using this
          have hfe : f = F (m / 4) := by
            rw [List.getElem?_map, List.getElem?_range hi] at hf
            cases hf; rfl
          subst hfe
          obtain ⟨_, cs', q1, q2, q3⟩ := hF (m / 4) hi
          have hc := q2 (m % 4) hlt
          rw [show b + m / 4 * 4 + m % 4 = b + m by omega, List.getElem?_eq_getElem (by omega)] at hc
          exact ⟨⟨_, hc⟩, _, hc, q3.2 _ _ _ hx2 (List.getElem?_eq_getElem (by omega))⟩) trivial
        simpa using key

theorem open_list {v : Value} {d : DataW H} {ps : List MemPlace} {r : Reach} {b0 : Nat} (ht : FormT P tl te ti ts) (hval : Value.okWide P w r b0 tl v) (h : DataW.Trod enc P w 0 (fun _ => true) held tl v d ps) :
    ∃ xs : List Fm, (∀ y ∈ xs, Fit y) ∧ xs.length < 9223372036854775808 ∧ VR (envW w) w (.lst .any (xs.map Fm.row)) v := by
  obtain ⟨fuel, hf⟩ := h
  obtain ⟨a, len, cap, rfl⟩ := Go.WideShapes.okWide_slice ht.sl hval
  obtain ⟨v, xs, e, h1, h2, h3⟩ := (forms_at ht fuel).2 _ _ hf
  have : Value.slice a len cap = v := by simpa [Value.cells] using e
  rw [this]
  exact ⟨xs, h1, h2, h3⟩
theorem open_fm {v : Value} {d : DataW H} {ps : List MemPlace} {r : Reach} {b0 : Nat} (ht : FormT P tl te ti ts) (hval : Value.okWide P w r b0 te v) (h : DataW.Trod enc P w 0 (fun _ => true) held te v d ps) :
    ∃ x : Fm, Fit x ∧ VR (envW w) w x.av v := by
  obtain ⟨fuel, hf⟩ := h
  obtain ⟨f0, f1, f2, f3, hs, _⟩ := ht.st
  obtain ⟨cs, rfl, hsz⟩ := Go.WideShapes.okWide_struct hs hval
  obtain ⟨x, h1, h2⟩ := (forms_at ht fuel).1 _ _ hf
  exact ⟨x, h1, VR.agg (l := x.row) h2⟩
end Go.AM
