/- The abstract machine, eighth text: the operations' laws: slices, maps, comparisons. -/
import Derived.Test.YtamemdhmjglifaaGreatDoorQ1
import Derived.Laws.IdiomStrings
import Derived.Laws.BytesString
namespace Go.AM
open Go.RowKit Go.MapKept

variable {B0 : Nat} {w0 w : World} {E : Env} {S S' : AS} {P : Program}

theorem Row.nil {R : AV → Value → Prop} (g b : Nat) : Row E w R [] g b := fun m x hx => by simp at hx

theorem sliceLst {c : Cap} {rows : List (List AV)} {g b cap sz : Nat} {l h m : Nat} (h1 : rows.length ≤ cap) (h2 : cap ≤ maxLen) (h3 : 0 < sz) (h4 : ∀ r ∈ rows, r.length = sz) (h5 : Row E w (VR E w) rows.flatten g b)
    (hl : l ≤ h) (hh : h ≤ rows.length) (hm : h ≤ m) (hmc : m ≤ cap) (c' : Cap) (hc : LstCap E w c' (h - l) (m - l) sz g (if m = l then b else b + l * sz)) :
    VR E w (.lst c' ((rows.take h).drop l)) (.slice (if m = l then some ⟨g, b, none⟩ else some ⟨g, b + l * sz, none⟩) (h - l) (m - l)) := by
  have hlen : ((rows.take h).drop l).length = h - l := by simp; omega
  have hs : ∀ r ∈ (rows.take h).drop l, r.length = sz := fun r hr => h4 r (List.mem_of_mem_take (List.mem_of_mem_drop hr))
  have hfl : ((rows.take h).drop l).flatten = (rows.flatten.drop (l * sz)).take ((h - l) * sz) := by
    rw [List.drop_take, flat_take _ sz (fun r hr => h4 r (List.mem_of_mem_drop hr)), flat_drop _ sz h4]
  by_cases e : m = l
  · rw [if_pos e] at hc ⊢
    have hhl : h - l = 0 := by omega
    have hnil : (rows.take h).drop l = [] := List.eq_nil_of_length_eq_zero (by omega)
    rw [hnil]
    have := VR.lst (E := E) (w := w) (c := c') (rows := []) (g := g) (b := b) (cap := m - l) (sz := sz) (by simp) (by omega) h3 (by simp) (Row.nil _ _) (by simpa [hhl] using hc)
    simpa [hhl] using this
  · rw [if_neg e] at hc ⊢
    have := VR.lst (E := E) (w := w) (c := c') (rows := (rows.take h).drop l) (g := g) (b := b + l * sz) (cap := m - l) (sz := sz) (by omega) (by omega) h3 hs (by rw [hfl]; exact h5.sub _ _) (by rw [hlen]; exact hc)
    rwa [hlen] at this

theorem slice_sound {t : TypeId} {a x : AV} {a' : Value} {lo hi mx : Option AV} {lo' hi' mx' : Option Value} (ha : VR E w a a') (hlo : OptR E w lo lo') (hhi : OptR E w hi hi') (hmx : OptR E w mx mx')
    (hx : aslice P t a lo hi mx = some x) : ∃ y, (Instr.sliceAt t a' lo' hi' mx').run P w = .ok y w ∧ VR E w x y := by
  have hmx0 : mx = none → mx' = none := fun e => by subst e; cases mx' with | none => rfl | some _ => exact hmx.elim
  unfold aslice at hx
  split at hx
  · -- a string
    rename_i s hu
    obtain ⟨l, hl, hx1⟩ := Option.bind_eq_some_iff.1 hx; clear hx
    obtain ⟨h, hh, hx2⟩ := Option.bind_eq_some_iff.1 hx1; clear hx1
    split at hx2
    · rename_i hc
      cases hx2
      obtain ⟨_, rfl⟩ := ha.flat_inv
      obtain ⟨hn, h0, h1, h2⟩ := hc
      have hm : mx = none := by simpa using hn
      have hm' := hmx0 hm
      subst hm; subst hm'
      have hb := bounds_run (P := P) (b := false) (len := s.size) (cap := s.size) hlo hhi hmx hl hh (show bnd s.size none = some (s.size : Int) from rfl) h0 h1 h2 (Int.le_refl _) (by simp)
      exact ⟨_, by simp [Instr.sliceAt, run_underlying hu, Instr.slice, hb], VR.of_flat rfl⟩
    · cases hx2
  · -- a list
    rename_i e c rows hu
    obtain ⟨l, hl, hx1⟩ := Option.bind_eq_some_iff.1 hx; clear hx
    obtain ⟨h, hh, hx2⟩ := Option.bind_eq_some_iff.1 hx1; clear hx1
    split at hx2
    · rename_i hc
      obtain ⟨h0, h1, h2, hsz, hss⟩ := hc
      obtain ⟨n, hn⟩ := Option.isSome_iff_exists.1 hss
      rcases ha.lst_inv with ⟨rfl, ad, rfl, hca⟩ | ⟨g, b, cap, sz, rfl, k1, k2, k3, k4, k5, k6⟩
      · have e1 : h = 0 := by simp at h2; omega
        have e0 : l = 0 := by omega
        subst e1; subst e0
        split at hx2
        · have hm' := hmx0 rfl
          subst hm'
          cases hx2
          have hb := bounds_run (P := P) (b := true) (len := 0) (cap := 0) hlo hhi hmx hl hh (show bnd 0 none = some ((0 : Nat) : Int) from rfl) (Int.le_refl _) (Int.le_refl _) (by simp) (by simp) (by simp)
          refine ⟨.slice ad 0 0, by simp [Instr.sliceAt, run_underlying hu, Instr.slice, hb, run_sizeOf hn], 1, .inl ⟨by simp, ad, rfl, ?_⟩⟩
          rcases hca with rfl | ⟨rfl, hsm⟩
          · exact .inl rfl
          · exact .inr ⟨rfl, hsm⟩
        · obtain ⟨m, hm, hx3⟩ := Option.bind_eq_some_iff.1 hx2
          rcases hca with rfl | ⟨rfl, hsm⟩ <;> simp at hx3
      have hln : l = 0 ∨ n = sz := by
        rcases hsz with hsz | hsz
        · exact .inl hsz
        · rw [hn] at hsz
          cases rows with
          | nil => simp at hsz
          | cons r rs => right; simp at hsz; rw [← hsz]; exact k4 r (by simp)
      have hadr : ∀ m : Nat, (if m = l.toNat then (some (⟨g, b, none⟩ : Addr)) else (some (⟨g, b, none⟩ : Addr)).map (·.add (l.toNat * n))) = (if m = l.toNat then some ⟨g, b, none⟩ else some ⟨g, b + l.toNat * sz, none⟩) := by
        intro m
        rcases hln with e0 | e0
        · subst e0; simp [addr_add]
        · subst e0; simp [addr_add]
      split at hx2
      · cases hx2
        have hm' := hmx0 rfl
        subst hm'
        have hb := bounds_run (P := P) (b := true) (len := rows.length) (cap := cap) hlo hhi hmx hl hh (show bnd cap none = some (cap : Int) from rfl) h0 h1 (by omega) (Int.le_refl _) (by simp)
        refine ⟨.slice (if cap = l.toNat then some ⟨g, b, none⟩ else some ⟨g, b + l.toNat * sz, none⟩) (h.toNat - l.toNat) (cap - l.toNat), by simp only [Instr.sliceAt, Sem.run_bind, run_underlying hu, Result.andThen_ok, Instr.slice, hb, run_sizeOf hn, Sem.run_pure, Int.toNat_natCast, hadr], ?_⟩
        refine sliceLst (c := c) k1 k2 k3 k4 k5 (by omega) (by omega) (by omega) (Nat.le_refl _) _ ?_
        by_cases hany : c = .any
        · subst hany; trivial
        have hcc : capOf c (decide (h = (rows.length : Int))) = if h = rows.length then c else .unk := by
          by_cases eh : h = rows.length
          · rw [if_pos eh]; simp only [eh, decide_true]; cases c <;> first | rfl | exact absurd rfl hany
          · rw [if_neg eh]; simp only [eh, decide_false]; cases c <;> first | rfl | exact absurd rfl hany
        rw [hcc]
        by_cases eh : h = rows.length
        · rw [if_pos eh]
          have hhn : h.toNat = rows.length := by omega
          rw [hhn]
          cases c with
          | unk => trivial
          | any => trivial
          | exact => simp only [LstCap] at k6 ⊢; omega
          | tok t e s =>
            simp only [LstCap] at k6 ⊢
            refine ⟨k6.1, k6.2.1, k6.2.2.1, fun he => ?_⟩
            rcases k6.2.2.2 he with c0 | ⟨q1, q2, q3, q4⟩
            · left; omega
            · by_cases em : cap = l.toNat
              · left; omega
              · right
                rw [if_neg em]
                refine ⟨q1, ?_, q3, fun a T f hf => ?_⟩
                · rw [q2, Nat.sub_mul]
                  have := Nat.mul_le_mul_right sz (show l.toNat ≤ rows.length by omega)
                  omega
                · have := q4 a T f hf
                  rw [Nat.sub_mul]
                  have := Nat.mul_le_mul_right sz (show l.toNat ≤ cap by omega)
                  omega
        · rw [if_neg eh]; trivial
      · rename_i mv
        obtain ⟨m, hm, hx3⟩ := Option.bind_eq_some_iff.1 hx2; clear hx2
        split at hx3
        · rename_i em
          cases hx3
          obtain ⟨em, his, _⟩ := em
          subst em
          have hne : hi ≠ none := fun e => by subst e; simp at his
          have hb := bounds_run (P := P) (b := true) (len := rows.length) (cap := cap) hlo hhi hmx hl hh (show bnd cap (some mv) = some m from hm) h0 h1 (Int.le_refl _) (by omega) (fun _ => hne)
          refine ⟨.slice (if m.toNat = l.toNat then some ⟨g, b, none⟩ else some ⟨g, b + l.toNat * sz, none⟩) (m.toNat - l.toNat) (m.toNat - l.toNat), by simp only [Instr.sliceAt, Sem.run_bind, run_underlying hu, Result.andThen_ok, Instr.slice, hb, run_sizeOf hn, Sem.run_pure, hadr], ?_⟩
          exact sliceLst (c := c) k1 k2 k3 k4 k5 (by omega) (by omega) (Nat.le_refl _) (by omega) _ rfl
        · cases hx3
    · cases hx2
  · -- a slice of an object
    rename_i e o sz off len cap hu
    obtain ⟨l, hl, hx1⟩ := Option.bind_eq_some_iff.1 hx; clear hx
    obtain ⟨h, hh, hx2⟩ := Option.bind_eq_some_iff.1 hx1; clear hx1
    split at hx2
    · rename_i hc
      obtain ⟨h0, h1, h2, hs⟩ := hc
      obtain ⟨g, c, hj, rfl, k1, k2, k3, k4, k5⟩ := ha.slc_inv
      split at hx2
      · have hm' := hmx0 rfl
        subst hm'
        have hb := bounds_run (P := P) (b := true) (len := len) (cap := c) hlo hhi hmx hl hh (show bnd c none = some (c : Int) from rfl) h0 h1 (by omega) (Int.le_refl _) (by simp)
        split at hx2
        · rename_i e0
          cases hx2
          subst e0
          refine ⟨.slice (some ⟨g, off, none⟩) h.toNat c, ?_, 1, g, c, hj, rfl, by omega, k2, k3, k4, k5⟩
          simp only [Instr.sliceAt, Sem.run_bind, run_underlying hu, Result.andThen_ok, Instr.slice, hb, run_sizeOf hs, Sem.run_pure]
          simp [addr_add]
        · split at hx2
          · rename_i e0 e1
            cases hx2
            refine ⟨.slice (some ⟨g, off + l.toNat * sz, none⟩) (h - l).toNat (c - l.toNat), ?_, 1, g, c - l.toNat, hj, rfl, by omega, by omega, by omega, k4, ?_⟩
            · simp only [Instr.sliceAt, Sem.run_bind, run_underlying hu, Result.andThen_ok, Instr.slice, hb, run_sizeOf hs, Sem.run_pure]
              rw [if_neg (by omega)]
              simp [addr_add]
              omega
            · rw [Nat.sub_mul]
              have := Nat.mul_le_mul_right sz (show l.toNat ≤ c by omega)
              omega
          · rename_i e0 e1
            cases hx2
            have hrun : (Instr.sliceAt t (.slice (some ⟨g, off, none⟩) len c) lo' hi' none).run P w = .ok (.slice (some (if c = l.toNat then ⟨g, off, none⟩ else ⟨g, off + l.toNat * sz, none⟩)) 0 (c - l.toNat)) w := by
              simp only [Instr.sliceAt, Sem.run_bind, run_underlying hu, Result.andThen_ok, Instr.slice, hb, run_sizeOf hs, Sem.run_pure]
              have e2 : h.toNat - l.toNat = 0 := by omega
              rw [e2, Int.toNat_natCast]
              by_cases e3 : c = l.toNat
              · rw [if_pos e3, if_pos e3]
              · rw [if_neg e3, if_neg e3]; simp only [Option.map_some, addr_add]
            refine ⟨_, hrun, ?_⟩
            have hl0 := fun (b : Nat) => VR.lst (E := E) (w := w) (c := .unk) (rows := []) (g := g) (b := b) (cap := c - l.toNat) (sz := sz) (by simp) (by omega) k4 (by simp) (Row.nil _ _) trivial
            by_cases e3 : c = l.toNat
            · have := hl0 off
              simpa [e3] using this
            · have := hl0 (off + l.toNat * sz)
              simpa [e3] using this
      · cases hx2
    · cases hx2
  · -- nil
    rename_i e hu
    obtain ⟨l, hl, hx1⟩ := Option.bind_eq_some_iff.1 hx; clear hx
    obtain ⟨h, hh, hx2⟩ := Option.bind_eq_some_iff.1 hx1; clear hx1
    split at hx2
    · rename_i hc
      cases hx2
      obtain ⟨hn, e0, e1, hrow⟩ := hc
      obtain ⟨p, hp⟩ := Option.isSome_iff_exists.1 hrow
      obtain ⟨hu2, hs2, _⟩ := isRow_some hp
      subst e0; subst e1
      have hm : mx = none := by simpa using hn
      have hm' := hmx0 hm
      subst hm; subst hm'
      obtain ⟨_, rfl⟩ := ha.flat_inv
      have hb := bounds_run (P := P) (b := true) (len := 0) (cap := 0) hlo hhi hmx hl hh (show bnd 0 none = some ((0 : Nat) : Int) from rfl) (Int.le_refl _) (Int.le_refl _) (by simp) (by simp) (by simp)
      refine ⟨.slice none 0 0, ?_, VR.of_flat rfl⟩
      rw [hu] at hu2
      cases hu2
      simp [Instr.sliceAt, run_underlying hu, Instr.slice, hb, run_sizeOf hs2]
    · cases hx2
  · cases hx

theorem key_some {d : TypeDesc} {k : AV} (h : isKeyB d k = true) : ∃ a, k = .v a ∧ IsKey d a := by
  cases k with
  | v a => cases d <;> cases a <;> simp_all [isKeyB, IsKey]
  | _ => cases d <;> simp [isKeyB] at h

theorem find_sound {d : TypeDesc} {k : AV} {k' : Value} (hk : VR E w k k') : ∀ (es : List AEnt) (cs : List MapEntry) (i : Nat) (r : Option (Nat × AV)), es.length = cs.length → (∀ (i : Nat) e c, es[i]? = some e → cs[i]? = some c → VR E w e.key c.key ∧ VR E w e.val c.val ∧ e.born = c.born) →
    afind d k es i = some r → ∃ r', Instr.findNow d k' cs i = some r' ∧ (match r, r' with | none, none => True | some (n, x), some (n', y) => n = n' ∧ VR E w x y ∧ i ≤ n ∧ (∃ e c, es[n - i]? = some e ∧ cs[n - i]? = some c ∧ Instr.sameNow d k' c.key = some true) | _, _ => False)
  | [], [], i, r, _, _, h => by simp [afind] at h; subst h; exact ⟨none, rfl, trivial⟩
  | [], _ :: _, _, _, hl, _, _ => by simp at hl
  | _ :: _, [], _, _, hl, _, _ => by simp at hl
  | e :: es, c :: cs, i, r, hl, hp, h => by
    have h0 := hp 0 e c rfl rfl
    cases hke : keyEq d k e.key with
    | none => simp [afind, hke] at h
    | some b =>
      have hsn : Instr.sameNow d k' c.key = some b := by
        unfold keyEq at hke
        split at hke
        · rename_i a b' he
          obtain ⟨_, rfl⟩ := hk.flat_inv
          have := h0.1
          rw [he] at this
          obtain ⟨_, e2⟩ := this.flat_inv
          rw [e2]; exact hke
        · cases hke
      cases b with
      | true =>
        simp only [afind, hke] at h
        cases h
        exact ⟨some (i, c.val), by simp [Instr.findNow, hsn], rfl, h0.2.1, Nat.le_refl _, e, c, by simp, by simp, hsn⟩
      | false =>
        simp only [afind, hke] at h
        obtain ⟨r', h1, h2⟩ := find_sound hk es cs (i + 1) r (by simpa using hl) (fun j e c he hc => hp (j + 1) e c (by simpa using he) (by simpa using hc)) h
        refine ⟨r', by simp [Instr.findNow, hsn, h1], ?_⟩
        cases r with
        | none => cases r' <;> exact h2
        | some p =>
          cases r' with
          | none => exact h2
          | some q =>
            obtain ⟨n, x⟩ := p; obtain ⟨n', y⟩ := q
            obtain ⟨q1, q2, q3, e', c', q4, q5, q6⟩ := h2
            refine ⟨q1, q2, by omega, e', c', ?_, ?_, q6⟩
            · rw [show n - i = (n - (i + 1)) + 1 by omega]; simpa using q4
            · rw [show n - i = (n - (i + 1)) + 1 by omega]; simpa using q5

theorem azeroV_some {t : TypeId} {x : AV} (h : azeroV P t = some x) : ∃ z, (zeroValue t).run P w = .ok z w ∧ VR E w x z := by
  unfold azeroV at h
  obtain ⟨i, hi, h1⟩ := Option.bind_eq_some_iff.1 h
  obtain ⟨z, hz, h2⟩ := Option.bind_eq_some_iff.1 h1
  refine ⟨z, run_zero hi hz, ?_⟩
  split at h2
  · rename_i cs
    split at h2
    · rename_i hf
      cases h2
      have := VR.agg (flats_pair (E := E) (w := w) cs.toList hf)
      simpa using this
    · cases h2
  · split at h2
    · rename_i hf; cases h2; exact VR.of_flat hf
    · cases h2

theorem Pair.two {x y : AV} {a b : Value} (h : VR E w x a) (k : VR E w y b) : Pair (VR E w) [x, y] [a, b] := ⟨rfl, fun i p q hp hq => by
  match i with
  | 0 => simp at hp hq; subst hp; subst hq; exact h
  | 1 => simp at hp hq; subst hp; subst hq; exact k
  | i + 2 => simp at hp⟩

theorem flatsV_eq : ∀ {l : List AV} {vs ys : List Value}, flatsV l = some vs → Pair (VR E w) l ys → ys = vs
  | [], vs, ys, h, hp => by
    simp only [flatsV] at h
    cases h
    exact List.length_eq_zero_iff.1 hp.1.symm
  | .v x :: l, vs, [], h, hp => by simp [Pair] at hp
  | .v x :: l, vs, y :: ys, h, hp => by
    simp only [flatsV] at h
    obtain ⟨r, hr, rfl⟩ := Option.map_eq_some_iff.1 h
    have h0 : y = x := (hp.2 0 (.v x) y rfl rfl).flat_inv.2
    have h3 : ys = r := flatsV_eq hr (show Pair (VR E w) l ys from ⟨by simpa using hp.1, fun i a b ha hb => hp.2 (i + 1) a b (by simpa using ha) (by simpa using hb)⟩)
    rw [h0, h3]
  | .junk :: _, _, _, h, _ | .ptr _ _ :: _, _, _, h, _ | .eptr _ _ :: _, _, _, h, _ | .lst _ _ :: _, _, _, h, _ | .slc _ _ _ _ _ :: _, _, _, h, _ | .mp _ :: _, _, _, h, _ | .yld _ :: _, _, _, h, _
  | .fn _ _ _ :: _, _, _, h, _ | .ifc _ _ :: _, _, _, h, _ | .agg _ :: _, _, _, h, _ | .tup _ :: _, _, _, h, _ => by simp [flatsV] at h

theorem keyV_some {k : AV} {kv k' : Value} (h : keyV k = some kv) (hk : VR E w k k') : k' = kv ∧ ∃ a, kv = .agg a := by
  cases k with
  | agg l =>
    obtain ⟨vs, hvs, rfl⟩ := Option.map_eq_some_iff.1 h
    obtain ⟨ys, rfl, hp⟩ := hk.agg_inv
    rw [flatsV_eq hvs hp]
    exact ⟨rfl, _, rfl⟩
  | _ => simp [keyV] at h

theorem findG_sound {kt : TypeId} {k : Value} : ∀ (es : List AEnt) (cs : List MapEntry) (i : Nat) (r : Option (Nat × AV)), es.length = cs.length → (∀ (i : Nat) e c, es[i]? = some e → cs[i]? = some c → VR E w e.key c.key ∧ VR E w e.val c.val ∧ e.born = c.born) →
    afindG P kt k es i = some r → ∃ r', (Instr.findAsking kt k cs i).run P w = .ok r' w ∧ (match r, r' with | none, none => True | some (n, x), some (n', y) => n = n' ∧ VR E w x y | _, _ => False)
  | [], [], i, r, _, _, h => by simp [afindG] at h; subst h; exact ⟨none, by simp [Instr.findAsking], trivial⟩
  | [], _ :: _, _, _, hl, _, _ => by simp at hl
  | _ :: _, [], _, _, hl, _, _ => by simp at hl
  | e :: es, c :: cs, i, r, hl, hp, h => by
    simp only [afindG] at h
    obtain ⟨kv, hkv, h1⟩ := Option.bind_eq_some_iff.1 h; clear h
    obtain ⟨b, hb, h2⟩ := Option.bind_eq_some_iff.1 h1; clear h1
    obtain ⟨hk, hv, _⟩ := hp 0 e c rfl rfl
    obtain ⟨hkc, _⟩ := keyV_some hkv hk
    have hrun : (Op.equal kt k c.key).run P w = .ok b w := by rw [hkc]; exact peval_sound _ hb
    cases b with
    | true =>
      simp only [if_true, Option.some.injEq] at h2
      subst h2
      exact ⟨some (i, c.val), by simp [Instr.findAsking, hrun], rfl, hv⟩
    | false =>
      simp only [Bool.false_eq_true, if_false] at h2
      obtain ⟨r', h3, h4⟩ := findG_sound es cs (i + 1) r (by simpa using hl) (fun j e' c' he hc => hp (j + 1) e' c' (by simpa using he) (by simpa using hc)) h2
      exact ⟨r', by simp [Instr.findAsking, hrun, h3], h4⟩

theorem run_findKey_agg {kt : TypeId} {d : TypeDesc} (hd : P.underlying kt = some d) (a : Array Value) (cs : List MapEntry) : (Instr.findKey kt (.agg a) cs).run P w = (Instr.findAsking kt (.agg a) cs 0).run P w := by
  cases cs with
  | nil => simp [Instr.findKey, run_underlying hd, Instr.findNow, Instr.findAsking]
  | cons c cs =>
    have : Instr.findNow d (.agg a) (c :: cs) 0 = none := by
      unfold Instr.findNow
      have : Instr.sameNow d (.agg a) c.key = none := by cases d <;> rfl
      rw [this]
    simp [Instr.findKey, run_underlying hd, this]

theorem lookup_sound (h : SR B0 w0 E S w) {t : TypeId} {m k x : AV} {m' k' : Value} {ok : Bool} (hm : VR E w m m') (hk : VR E w k k') (hx : alookup P S t m k ok = some x) : ∃ y, (Instr.lookup t m' k' ok).run P w = .ok y w ∧ VR E w x y := by
  unfold alookup at hx
  split at hx
  · rename_i kt e hu
    obtain ⟨d, hd, hx1⟩ := Option.bind_eq_some_iff.1 hx; clear hx
    split at hx1
    · rename_i hkb
      obtain ⟨a, rfl, hik⟩ := key_some hkb
      obtain ⟨es, hes, hx2⟩ := Option.bind_eq_some_iff.1 hx1; clear hx1
      obtain ⟨r, hr, hx3⟩ := Option.bind_eq_some_iff.1 hx2; clear hx2
      obtain ⟨_, rfl⟩ := hk.flat_inv
      -- the entries
      obtain ⟨ces, clock, hget, hlen, hrel⟩ : ∃ (ces : Array MapEntry) (clock : Nat), (m' = .map none ∧ ces = #[] ∨ ∃ g, m' = .map (some g) ∧ w.heap[g]? = some (.map ces clock)) ∧ es.length = ces.toList.length ∧ (∀ (i : Nat) e c, es[i]? = some e → ces.toList[i]? = some c → VR E w e.key c.key ∧ VR E w e.val c.val ∧ e.born = c.born) := by
        split at hes
        · cases hes
          obtain ⟨_, rfl⟩ := hm.flat_inv
          exact ⟨#[], 0, .inl ⟨rfl, rfl⟩, rfl, by simp⟩
        · rename_i o
          obtain ⟨p, hp, rfl⟩ := Option.map_eq_some_iff.1 hes
          obtain ⟨g, hj, rfl⟩ := hm.mp_inv
          obtain ⟨ces, hg, hl, hrel⟩ := h.obj o _ g (mapAt_some hp) hj
          exact ⟨ces, p.2, .inr ⟨g, rfl, hg⟩, by simpa using hl, fun i e c he hc => hrel i e c he (by simpa using hc)⟩
        · cases hes
      obtain ⟨r', hf, hrr⟩ := find_sound hk es ces.toList 0 r hlen hrel hr
      have hck := fun b => run_checkKey (w := w) hd hik b 9999
      have hfk := run_findKey (w := w) hd hf
      split at hx3
      · rename_i n v
        cases hx3
        cases r' with
        | none => exact hrr.elim
        | some q =>
          obtain ⟨n', y⟩ := q
          obtain ⟨_, hv, _⟩ := hrr
          refine ⟨if ok then .tuple #[y, .bool true] else y, ?_, ?_⟩
          · rcases hget with ⟨rfl, rfl⟩ | ⟨g, rfl, hg⟩
            · simp [Instr.lookup, run_underlying hu, hck, hfk]
            · simp [Instr.lookup, run_underlying hu, hck, hfk, MapKept.run_getObj_map hg]
          cases ok
          · exact hv
          · exact VR.tup (Pair.two hv (VR.of_flat rfl))
      · obtain ⟨z, hz, hx4⟩ := Option.bind_eq_some_iff.1 hx3; clear hx3
        cases hx4
        cases r' with
        | some q => exact hrr.elim
        | none =>
          obtain ⟨zv, hzr, hzv⟩ := azeroV_some (E := E) (w := w) hz
          refine ⟨if ok then .tuple #[zv, .bool false] else zv, ?_, ?_⟩
          · rcases hget with ⟨rfl, rfl⟩ | ⟨g, rfl, hg⟩
            · simp [Instr.lookup, run_underlying hu, hck, hfk, hzr]
            · simp [Instr.lookup, run_underlying hu, hck, hfk, MapKept.run_getObj_map hg, hzr]
          cases ok
          · exact hzv
          · exact VR.tup (Pair.two hzv (VR.of_flat rfl))
    · obtain ⟨es, hes, hx2⟩ := Option.bind_eq_some_iff.1 hx1; clear hx1
      obtain ⟨kv, hkv, hx3⟩ := Option.bind_eq_some_iff.1 hx2; clear hx2
      obtain ⟨_, hck, hx4⟩ := Option.bind_eq_some_iff.1 hx3; clear hx3
      obtain ⟨r, hr, hx5⟩ := Option.bind_eq_some_iff.1 hx4; clear hx4
      obtain ⟨rfl, a, rfl⟩ := keyV_some hkv hk
      obtain ⟨ces, clock, hget, hlen, hrel⟩ : ∃ (ces : Array MapEntry) (clock : Nat), (m' = .map none ∧ ces = #[] ∨ ∃ g, m' = .map (some g) ∧ w.heap[g]? = some (.map ces clock)) ∧ es.length = ces.toList.length ∧ (∀ (i : Nat) e c, es[i]? = some e → ces.toList[i]? = some c → VR E w e.key c.key ∧ VR E w e.val c.val ∧ e.born = c.born) := by
        unfold aentries at hes
        split at hes
        · cases hes
          obtain ⟨_, rfl⟩ := hm.flat_inv
          exact ⟨#[], 0, .inl ⟨rfl, rfl⟩, rfl, by simp⟩
        · rename_i o
          obtain ⟨p, hp, rfl⟩ := Option.map_eq_some_iff.1 hes
          obtain ⟨g, hj, rfl⟩ := hm.mp_inv
          obtain ⟨ces, hg, hl, hrel⟩ := h.obj o _ g (mapAt_some hp) hj
          exact ⟨ces, p.2, .inr ⟨g, rfl, hg⟩, by simpa using hl, fun i e c he hc => hrel i e c he (by simpa using hc)⟩
        · cases hes
      obtain ⟨r', hf, hrr⟩ := findG_sound (P := P) (kt := kt) (k := .agg a) es ces.toList 0 r hlen hrel hr
      have hck' : (Instr.checkKey ces.isEmpty 10000 kt (.agg a)).run P w = .ok () w := by
        have : ces.isEmpty = es.isEmpty := by
          have hsz : ces.size = es.length := by simpa using hlen.symm
          rw [Array.isEmpty, hsz]
          cases es <;> simp
        rw [this]; exact peval_sound _ hck
      have hfk := (run_findKey_agg (P := P) (w := w) hd a ces.toList).trans hf
      split at hx5
      · rename_i n v
        cases hx5
        cases r' with
        | none => exact hrr.elim
        | some q =>
          obtain ⟨n', y⟩ := q
          obtain ⟨_, hv⟩ := hrr
          refine ⟨if ok then .tuple #[y, .bool true] else y, ?_, ?_⟩
          · rcases hget with ⟨rfl, rfl⟩ | ⟨g, rfl, hg⟩
            · simp [Instr.findAsking] at hf
            · simp [Instr.lookup, run_underlying hu, hfk, MapKept.run_getObj_map hg, hck']
          cases ok
          · exact hv
          · exact VR.tup (Pair.two hv (VR.of_flat rfl))
      · obtain ⟨z, hz, hx6⟩ := Option.bind_eq_some_iff.1 hx5; clear hx5
        cases hx6
        cases r' with
        | some q => exact hrr.elim
        | none =>
          obtain ⟨zv, hzr, hzv⟩ := azeroV_some (E := E) (w := w) hz
          refine ⟨if ok then .tuple #[zv, .bool false] else zv, ?_, ?_⟩
          · rcases hget with ⟨rfl, rfl⟩ | ⟨g, rfl, hg⟩
            · simp at hck' hfk; simp [Instr.lookup, run_underlying hu, hck', hfk, hzr]
            · simp [Instr.lookup, run_underlying hu, hck', hfk, MapKept.run_getObj_map hg, hzr]
          cases ok
          · exact hzv
          · exact VR.tup (Pair.two hzv (VR.of_flat rfl))
  · cases hx

end Go.AM

/- The abstract machine, ninth text: the operations' laws: map stores, comparisons, make; one operation. -/
namespace Go.AM
open Go.RowKit Go.MapKept

variable {B0 : Nat} {w0 w : World} {E : Env} {S S' : AS} {P : Program}

theorem EntR.ext {E' : Env} {w' : World} (h : Ext E w E' w') {es : List AEnt} {cs : Array MapEntry} (he : EntR E w es cs) : EntR E' w' es cs :=
  ⟨he.1, fun i e c h1 h2 => let ⟨a, b, d⟩ := he.2 i e c h1 h2; ⟨a.ext h, b.ext h, d⟩⟩

theorem EntR.push {es : List AEnt} {cs : Array MapEntry} (h : EntR E w es cs) {k x : AV} {k' y : Value} (hk : VR E w k k') (hx : VR E w x y) (b : Nat) : EntR E w (es ++ [⟨k, x, b⟩]) (cs.push ⟨k', y, b⟩) := by
  refine ⟨by simp [h.1], fun i e c he hc => ?_⟩
  rw [List.getElem?_append] at he
  rw [Array.getElem?_push] at hc
  by_cases hi : i < es.length
  · rw [if_pos hi] at he
    rw [if_neg (by have := h.1; omega)] at hc
    exact h.2 i e c he hc
  · rw [if_neg hi] at he
    by_cases e1 : i = cs.size
    · rw [if_pos e1] at hc
      cases hc
      have h1 := h.1
      rw [show i - es.length = 0 by omega] at he
      simp at he; subst he
      exact ⟨hk, hx, rfl⟩
    · have h1 := h.1
      rw [List.getElem?_eq_none (by simp; omega)] at he
      cases he

theorem EntR.modify {es : List AEnt} {cs : Array MapEntry} (h : EntR E w es cs) (n : Nat) {f : AEnt → AEnt} {g : MapEntry → MapEntry} (hfg : ∀ e c, es[n]? = some e → cs[n]? = some c → VR E w (f e).key (g c).key ∧ VR E w (f e).val (g c).val ∧ (f e).born = (g c).born) : EntR E w (es.modify n f) (cs.modify n g) := by
  refine ⟨by simp [h.1], fun i e c he hc => ?_⟩
  rw [List.getElem?_modify] at he
  rw [Array.getElem?_modify] at hc
  by_cases e1 : n = i
  · subst e1
    cases hes : es[n]? with
    | none => simp [hes] at he
    | some e0 =>
      cases hcs : cs[n]? with
      | none => simp [hcs] at hc
      | some c0 =>
        simp [hes] at he; simp [hcs] at hc
        subst he; subst hc
        exact hfg e0 c0 hes hcs
  · simp [e1] at he hc
    exact h.2 i e c he hc

theorem grownBy_setObj {g : Nat} {o o' : Obj} (_hb : w.heap[g]? = some o) : w.grownBy { w with heap := w.heap.setIfInBounds g o' } (some g) :=
  ⟨rfl, rfl, rfl, by simp, fun k _ hk => by
    have : g ≠ k := fun e => hk (by rw [e])
    simp [this]⟩

theorem sameNow_key {d : TypeDesc} {a b : Value} (h : IsKey d a) (hs : Instr.sameNow d a b = some true) : IsKey d b := by
  cases d <;> cases a <;> cases b <;> simp_all [IsKey, Instr.sameNow]

theorem mapUpdate_sound (h : SR B0 w0 E S w) {t : TypeId} {m k x : AV} {m' k' y : Value} (hm : VR E w m m') (hk : VR E w k k') (hy : VR E w x y) (hx : amapUpdate P S t m k x = some S') :
    ∃ w', (Instr.mapUpdate t m' k' y).run P w = .ok () w' ∧ SR B0 w0 E S' w' ∧ Step S.objs.length S.ends.length E w E w' := by
  unfold amapUpdate at hx
  split at hx
  · rename_i kt e o hu
    obtain ⟨d, hd, hx1⟩ := Option.bind_eq_some_iff.1 hx; clear hx
    split at hx1
    · rename_i hkb
      obtain ⟨a, rfl, hik⟩ := key_some hkb
      obtain ⟨p, hp, hx2⟩ := Option.bind_eq_some_iff.1 hx1; clear hx1
      obtain ⟨r, hr, hx3⟩ := Option.bind_eq_some_iff.1 hx2; clear hx2
      obtain ⟨_, rfl⟩ := hk.flat_inv
      obtain ⟨g, hj, rfl⟩ := hm.mp_inv
      obtain ⟨ces, hg, hent⟩ := h.obj o _ g (mapAt_some hp) hj
      have hlive : S.live o := by unfold AS.live; rw [mapAt_some hp]; simp
      have hrow : ∀ g', some g = some g' → (∀ k, ¬ E.fz g' k) ∧ ∀ t, 0 < E.en t → (E.tk t).1 ≠ g' := fun g' e => by cases e; exact ⟨(h.jb o g hj).2.2, fun t ht => h.jblock ht hj⟩
      obtain ⟨r', hf, hrr⟩ := find_sound hk p.1 ces.toList 0 r (by simpa using hent.1) (fun i e c he hc => hent.2 i e c he (by simpa using hc)) hr
      have hck := fun b => run_checkKey (P := P) (w := w) hd hik b 9999
      have hfk := run_findKey (P := P) (w := w) hd hf
      split at hx3
      · rename_i n v
        cases hx3
        cases r' with
        | none => exact hrr.elim
        | some q =>
          obtain ⟨n', y0⟩ := q
          obtain ⟨e1, _, _, e0, c0, he0, hc0, hsame⟩ := hrr
          subst e1
          simp only [Nat.sub_zero] at he0 hc0
          have hkey : c0.key = k' := by
            obtain ⟨hk1, _, _⟩ := hent.2 n e0 c0 he0 (by simpa using hc0)
            have hik0 : IsKey d c0.key := sameNow_key hik hsame
            obtain ⟨rb, h1, h2⟩ := sameNow_of_keys hik hik0
            rw [hsame] at h1
            cases h1
            exact (h2.1 rfl).symm
          have hrun : (Instr.mapUpdate t (.map (some g)) k' y).run P w = .ok () { w with heap := w.heap.setIfInBounds g (.map (ces.modify n fun e => { e with key := k', val := y }) p.2) } := by
            have hc0' : ces[n]? = some c0 := by simpa using hc0
            simp [Instr.mapUpdate, run_underlying hu, MapKept.run_getObj_map hg, hck, hfk, hc0', hkey, run_keyThatStays hik, run_setObj_map _ hg]
          refine ⟨_, hrun, ?_⟩
          have hgb := grownBy_setObj (w := w) (o' := .map (ces.modify n fun e => { e with key := k', val := y }) p.2) hg
          have hext := h.ext_of (some g) hgb hrow
          exact h.setObj hj hlive hgb _ ⟨_, (heap_set hg).1, (hent.modify n (f := fun e => { e with key := .v k', val := x }) (g := fun e => { e with key := k', val := y }) (fun e c he hc => ⟨hk, hy, (hent.2 n e c he hc).2.2⟩)).ext hext⟩
      · cases hx3
        cases r' with
        | some q => exact hrr.elim
        | none =>
          have hrun : (Instr.mapUpdate t (.map (some g)) k' y).run P w = .ok () { w with heap := w.heap.setIfInBounds g (.map (ces.push ⟨k', y, p.2⟩) (p.2 + 1)) } := by
            simp [Instr.mapUpdate, run_underlying hu, MapKept.run_getObj_map hg, hck, hfk, run_setObj_map _ hg]
          refine ⟨_, hrun, ?_⟩
          have hgb := grownBy_setObj (w := w) (o' := .map (ces.push ⟨k', y, p.2⟩) (p.2 + 1)) hg
          have hext := h.ext_of (some g) hgb hrow
          exact h.setObj hj hlive hgb _ ⟨_, (heap_set hg).1, (hent.push hk hy p.2).ext hext⟩
    · obtain ⟨p, hp, hx2⟩ := Option.bind_eq_some_iff.1 hx1; clear hx1
      obtain ⟨kv, hkv, hx3⟩ := Option.bind_eq_some_iff.1 hx2; clear hx2
      obtain ⟨_, hck, hx4⟩ := Option.bind_eq_some_iff.1 hx3; clear hx3
      obtain ⟨r, hr, hx5⟩ := Option.bind_eq_some_iff.1 hx4; clear hx4
      obtain ⟨rfl, a, rfl⟩ := keyV_some hkv hk
      obtain ⟨g, hj, rfl⟩ := hm.mp_inv
      obtain ⟨ces, hg, hent⟩ := h.obj o _ g (mapAt_some hp) hj
      have hlive : S.live o := by unfold AS.live; rw [mapAt_some hp]; simp
      have hrow : ∀ g', some g = some g' → (∀ k, ¬ E.fz g' k) ∧ ∀ t, 0 < E.en t → (E.tk t).1 ≠ g' := fun g' e => by cases e; exact ⟨(h.jb o g hj).2.2, fun t ht => h.jblock ht hj⟩
      obtain ⟨r', hf, hrr⟩ := findG_sound (P := P) (kt := kt) (k := .agg a) p.1 ces.toList 0 r (by simpa using hent.1) (fun i e c he hc => hent.2 i e c he (by simpa using hc)) hr
      have hck' : (Instr.checkKey false 10000 kt (.agg a)).run P w = .ok () w := peval_sound _ hck
      have hfk := (run_findKey_agg (P := P) (w := w) hd a ces.toList).trans hf
      split at hx5
      · cases hx5
      · cases hx5
        cases r' with
        | some q => exact hrr.elim
        | none =>
          have hrun : (Instr.mapUpdate t (.map (some g)) (.agg a) y).run P w = .ok () { w with heap := w.heap.setIfInBounds g (.map (ces.push ⟨.agg a, y, p.2⟩) (p.2 + 1)) } := by
            simp [Instr.mapUpdate, run_underlying hu, MapKept.run_getObj_map hg, hck', hfk, run_setObj_map _ hg]
          refine ⟨_, hrun, ?_⟩
          have hgb := grownBy_setObj (w := w) (o' := .map (ces.push ⟨.agg a, y, p.2⟩) (p.2 + 1)) hg
          have hext := h.ext_of (some g) hgb hrow
          exact h.setObj hj hlive hgb _ ⟨_, (heap_set hg).1, (hent.push hk hy p.2).ext hext⟩
  · cases hx

theorem sameAddr_ne {g g' a b : Nat} {c c' : Array Value} {T T' : TypeId} (hg : w.heap[g]? = some (.cells c T (0, 0))) (hg' : w.heap[g']? = some (.cells c' T' (0, 0))) (hne : g ≠ g') :
    (sameAddr ⟨g, a, none⟩ ⟨g', b, none⟩).run P w = .ok false w := by
  have f1 : ∀ x, w.frozen? ⟨g, x, none⟩ = false := fun x => frozen_of_row w g x c T hg
  have f2 : ∀ x, w.frozen? ⟨g', x, none⟩ = false := fun x => frozen_of_row w g' x c' T' hg'
  have s1 : w.shape? g = some (T, c.size) := by simp [World.shape?, hg]
  have s2 : w.shape? g' = some (T', c'.size) := by simp [World.shape?, hg']
  simp [sameAddr, hne, f1, f2, noView, viewAt, s1, s2, mayBeOne, stringish]

theorem nilP_some {x : AV} {y : Value} {b : Bool} (h : nilP x = some b) (hv : VR E w x y) : ∃ a, y = .pointer a ∧ a.isNone = b := by
  unfold nilP at h
  split at h
  · cases h; obtain ⟨_, rfl⟩ := hv.flat_inv; exact ⟨none, rfl, rfl⟩
  · cases h; obtain ⟨g, _, rfl⟩ := hv.ptr_inv; exact ⟨_, rfl, rfl⟩
  · cases h; obtain ⟨g, b, rfl, _⟩ := hv.eptr_inv; exact ⟨_, rfl, rfl⟩
  · cases h
theorem nilS_some {x : AV} {y : Value} {b : Bool} (h : nilS x = some b) (hv : VR E w x y) : ∃ a l c, y = .slice a l c ∧ a.isNone = b := by
  unfold nilS at h
  split at h
  · cases h; obtain ⟨_, rfl⟩ := hv.flat_inv; exact ⟨none, _, _, rfl, rfl⟩
  · cases h
  · rename_i hne
    cases h
    rcases hv.lst_inv with ⟨rfl, ad, rfl, rfl | ⟨rfl, ha⟩⟩ | ⟨g, b, cap, sz, rfl, _⟩
    · exact (hne rfl rfl).elim
    · exact ⟨_, _, _, rfl, by cases ad <;> simp at ha ⊢⟩
    · exact ⟨_, _, _, rfl, rfl⟩
  · cases h; obtain ⟨g, c, _, rfl, _⟩ := hv.slc_inv; exact ⟨_, _, _, rfl, rfl⟩
  · cases h
theorem nilM_some {x : AV} {y : Value} {b : Bool} (h : nilM x = some b) (hv : VR E w x y) : ∃ a, y = .map a ∧ a.isNone = b := by
  unfold nilM at h
  split at h
  · cases h; obtain ⟨_, rfl⟩ := hv.flat_inv; exact ⟨none, rfl, rfl⟩
  · cases h; obtain ⟨g, _, rfl⟩ := hv.mp_inv; exact ⟨_, rfl, rfl⟩
  · cases h
theorem nilF_some {x : AV} {y : Value} {b : Bool} (h : nilF x = some b) (hv : VR E w x y) : (y = .nilFunc ∧ b = true) ∨ ∃ f l m, y = .func f l m ∧ b = false := by
  unfold nilF at h
  split at h
  · cases h; obtain ⟨_, rfl⟩ := hv.flat_inv; exact .inl ⟨rfl, rfl⟩
  · cases h; obtain ⟨_, _, rfl, _⟩ := hv.fn_inv; exact .inr ⟨_, _, _, rfl, rfl⟩
  · cases h; obtain ⟨_, _, rfl⟩ := hv.yld_inv; exact .inr ⟨_, _, _, rfl, rfl⟩
  · cases h

theorem bothNil_some {p q : Option Bool} {b : Bool} (h : bothNil p q = some b) : ∃ x y, p = some x ∧ q = some y ∧ (x || y) = true ∧ b = (x && y) := by
  unfold bothNil at h
  obtain ⟨x, hx, h1⟩ := Option.bind_eq_some_iff.1 h
  obtain ⟨y, hy, h2⟩ := Option.bind_eq_some_iff.1 h1
  split at h2
  · rename_i hc; cases h2; exact ⟨x, y, hx, hy, hc, rfl⟩
  · cases h2

theorem aeq_sound (d : Nat) (h : SR B0 w0 E S w) {t : TypeId} {x y : AV} {x' y' : Value} {b : Bool} (hx : VR E w x x') (hy : VR E w y y') (hb : aeq P S t x y = some b) : (Op.equalIn (d + 1) t x' y').run P w = .ok b w ∧ ¬ (x' = .nilIface ∧ y' = .nilIface) ∧ (∀ cs, x' ≠ .agg cs) ∧ (∀ k n, x' ≠ .int k n) ∧ (∀ k n, x' ≠ .float k n) ∧ (∀ k n m, x' ≠ .complex k n m) ∧ (∀ s, x' ≠ .string s) := by
  unfold aeq at hb
  split at hb
  · rename_i e hu
    have hnil : ∀ {b : Bool}, bothNil (nilP x) (nilP y) = some b → (Op.equalIn (d + 1) t x' y').run P w = .ok b w ∧ ¬ (x' = .nilIface ∧ y' = .nilIface) ∧ (∀ cs, x' ≠ .agg cs) ∧ (∀ k n, x' ≠ .int k n) ∧ (∀ k n, x' ≠ .float k n) ∧ (∀ k n m, x' ≠ .complex k n m) ∧ (∀ s, x' ≠ .string s) := by
      intro b hb
      obtain ⟨p, q, hp, hq, hor, rfl⟩ := bothNil_some hb
      obtain ⟨a, rfl, ha⟩ := nilP_some hp hx
      obtain ⟨a', rfl, ha'⟩ := nilP_some hq hy
      refine ⟨?_, by simp, by simp, by simp, by simp, by simp, by simp⟩
      subst ha; subst ha'
      cases a <;> cases a' <;> first | (exfalso; simp at hor; done) | (simp [Op.equalIn, run_underlying hu]; done)
    split at hb
    · rename_i o a o' b'
      obtain ⟨n, hn, hb1⟩ := Option.bind_eq_some_iff.1 hb
      obtain ⟨g, hj, rfl⟩ := hx.ptr_inv
      obtain ⟨g', hj', rfl⟩ := hy.ptr_inv
      refine ⟨?_, by simp, by simp, by simp, by simp, by simp, by simp⟩
      split at hb1
      · cases hb1
      · rename_i hn0
        split at hb1
        · rename_i e1
          cases hb1
          subst e1
          rw [hj] at hj'; cases hj'
          simp [Op.equalIn, run_underlying hu, run_sizeOf hn, hn0, sameAddr]
          rw [Bool.eq_iff_iff]; simp
        · rename_i e1
          split at hb1
          · rename_i hc
            cases hb1
            simp only [Bool.and_eq_true, Option.isSome_iff_exists] at hc
            obtain ⟨⟨p, hp⟩, ⟨q, hq⟩⟩ := hc
            obtain ⟨c1, hg1, _⟩ := h.obj o _ g (cellsAt_some hp) hj
            obtain ⟨c2, hg2, _⟩ := h.obj o' _ g' (cellsAt_some hq) hj'
            have hne : g ≠ g' := fun e => by
              subst e
              exact e1 (h.inj o o' g hj hj' (by unfold AS.live; rw [cellsAt_some hp]; simp) (by unfold AS.live; rw [cellsAt_some hq]; simp))
            simp [Op.equalIn, run_underlying hu, run_sizeOf hn, hn0, sameAddr_ne hg1 hg2 hne]
          · cases hb1
    · exact hnil hb
  · rename_i e hu
    obtain ⟨p, q, hp, hq, hor, rfl⟩ := bothNil_some hb
    obtain ⟨a, l, c, rfl, ha⟩ := nilS_some hp hx
    obtain ⟨a', l', c', rfl, ha'⟩ := nilS_some hq hy
    refine ⟨?_, by simp, by simp, by simp, by simp, by simp, by simp⟩
    subst ha; subst ha'
    cases a <;> cases a' <;> first | (exfalso; simp at hor; done) | (simp [Op.equalIn, run_underlying hu]; done)
  · rename_i k e hu
    obtain ⟨p, q, hp, hq, hor, rfl⟩ := bothNil_some hb
    obtain ⟨a, rfl, ha⟩ := nilM_some hp hx
    obtain ⟨a', rfl, ha'⟩ := nilM_some hq hy
    refine ⟨?_, by simp, by simp, by simp, by simp, by simp, by simp⟩
    subst ha; subst ha'
    cases a <;> cases a' <;> first | (exfalso; simp at hor; done) | (simp [Op.equalIn, run_underlying hu]; done)
  · rename_i ps rs v hu
    obtain ⟨p, q, hp, hq, hor, rfl⟩ := bothNil_some hb
    rcases nilF_some hp hx with ⟨rfl, rfl⟩ | ⟨f, l, m, rfl, rfl⟩ <;> rcases nilF_some hq hy with ⟨rfl, rfl⟩ | ⟨f', l', m', rfl, rfl⟩
    · exact ⟨by simp [Op.equalIn, run_underlying hu], by simp, by simp, by simp, by simp, by simp, by simp⟩
    · exact ⟨by simp [Op.equalIn, run_underlying hu], by simp, by simp, by simp, by simp, by simp, by simp⟩
    · exact ⟨by simp [Op.equalIn, run_underlying hu], by simp, by simp, by simp, by simp, by simp, by simp⟩
    · simp at hor
  · cases hb

theorem bin_sound (h : SR B0 w0 E S w) {op : BinOp} {t : TypeId} {x y r : AV} {x' y' : Value} {X Y : Operand} (hx : VR E w x x') (hy : VR E w y y') (hr : abin P S op t x y = some r) :
    ∃ z, ((do eqGuard op t X Y x' y'; binOp op t x' y') : Sem Value).run P w = .ok z w ∧ VR E w r z := by
  have hguard : ∀ {x' y' : Value}, ¬ (x' = .nilIface ∧ y' = .nilIface) → (∀ cs, x' ≠ .agg cs) → (eqGuard op t X Y x' y').run P w = .ok () w := by
    intro x' y' h1 h2
    unfold eqGuard
    split
    · simp only [Bool.not_true, Bool.false_eq_true, if_false]
      split
      · exact absurd ⟨rfl, rfl⟩ h1
      · exact absurd rfl (h2 _)
      · rfl
    · simp only [Bool.not_true, Bool.false_eq_true, if_false]
      split
      · exact absurd ⟨rfl, rfl⟩ h1
      · exact absurd rfl (h2 _)
      · rfl
    · rfl
  have hsc : ∀ {a b : Value}, x' = a → y' = b → flat a = true → ¬ (a = .nilIface ∧ b = .nilIface) → (peval P (binOp op t a b)).bind ofV = some r → ∃ z, ((do eqGuard op t X Y x' y'; binOp op t x' y') : Sem Value).run P w = .ok z w ∧ VR E w r z := by
    intro a b e1 e2 hf hn hp
    obtain ⟨z, hz, hp2⟩ := Option.bind_eq_some_iff.1 hp
    obtain ⟨hf2, rfl⟩ := ofV_some hp2
    refine ⟨z, ?_, VR.of_flat hf2⟩
    subst e1; subst e2
    rw [Sem.run_bind, hguard hn (fun cs e => by subst e; simp [flat] at hf), Result.andThen_ok]
    exact peval_sound _ hz
  unfold abin at hr
  split at hr
  · obtain ⟨_, e1⟩ := hx.flat_inv; obtain ⟨_, e2⟩ := hy.flat_inv; exact hsc e1 e2 rfl (by simp) hr
  · obtain ⟨_, e1⟩ := hx.flat_inv; obtain ⟨_, e2⟩ := hy.flat_inv; exact hsc e1 e2 rfl (by simp) hr
  · obtain ⟨_, e1⟩ := hx.flat_inv; obtain ⟨_, e2⟩ := hy.flat_inv; exact hsc e1 e2 rfl (by simp) hr
  · obtain ⟨a, ha, hr1⟩ := Option.bind_eq_some_iff.1 hr
    obtain ⟨b, hb, hr2⟩ := Option.bind_eq_some_iff.1 hr1
    obtain ⟨_, hg, hr3⟩ := Option.bind_eq_some_iff.1 hr2
    obtain ⟨z, hz, ho⟩ := Option.bind_eq_some_iff.1 hr3
    obtain ⟨hf, rfl⟩ := ofV_some ho
    obtain ⟨rfl, ca, rfl⟩ := keyV_some ha hx
    obtain ⟨rfl, cb, rfl⟩ := keyV_some hb hy
    have hg' : (eqGuard op t X Y (.agg ca) (.agg cb)).run P w = .ok () w := by
      unfold eqGuard at hg ⊢
      exact peval_sound _ hg
    exact ⟨z, by rw [Sem.run_bind, hg', Result.andThen_ok]; exact peval_sound _ hz, VR.of_flat hf⟩
  · have hmain : ∀ {b : Bool}, aeq P S t x y = some b → (eqGuard op t X Y x' y').run P w = .ok () w ∧ (binOp .eql t x' y').run P w = .ok (.bool b) w ∧ (binOp .neq t x' y').run P w = .ok (.bool (!b)) w := by
      intro b hb
      obtain ⟨h1', h2, h3, h4, h5, h6, h7⟩ := aeq_sound 9999 h hx hy hb
      have h1 : (Op.equal t x' y').run P w = .ok b w := h1'
      clear h1'
      refine ⟨hguard h2 h3, ?_, ?_⟩
      · cases x' <;> first | exact absurd rfl (h4 _ _) | exact absurd rfl (h5 _ _) | exact absurd rfl (h6 _ _ _) | exact absurd rfl (h7 _) | (simp [binOp, h1])
      · cases x' <;> first | exact absurd rfl (h4 _ _) | exact absurd rfl (h5 _ _) | exact absurd rfl (h6 _ _ _) | exact absurd rfl (h7 _) | (simp [binOp, h1])
    split at hr
    · obtain ⟨b, hb, rfl⟩ := Option.map_eq_some_iff.1 hr
      obtain ⟨h1, h2, _⟩ := hmain hb
      exact ⟨_, by rw [Sem.run_bind, h1, Result.andThen_ok, h2], VR.of_flat rfl⟩
    · obtain ⟨b, hb, rfl⟩ := Option.map_eq_some_iff.1 hr
      obtain ⟨h1, _, h2⟩ := hmain hb
      exact ⟨_, by rw [Sem.run_bind, h1, Result.andThen_ok, h2], VR.of_flat rfl⟩
    · cases hr

end Go.AM

/- The abstract machine, tenth text: one operation that enters no Go function. -/
namespace Go.AM
open Go.RowKit Go.MapKept

variable {B0 : Nat} {w0 w : World} {E : Env} {S S' : AS} {P : Program}

theorem flat_one : ∀ (rows : List (List AV)), (rows.all fun r => r.all AV.one) = true → rows.flatten.all AV.one = true
  | [], _ => rfl
  | r :: rows, h => by
    simp only [List.all_cons, Bool.and_eq_true] at h
    simp only [List.flatten_cons, List.all_append, Bool.and_eq_true]
    exact ⟨h.1, flat_one rows h.2⟩

/-- What stands behind the elements of a slice. -/
theorem rowsOf_sound (h : SR B0 w0 E S w) {sz : Nat} (_hz : 0 < sz) {x : AV} {y : Value} {rows : List (List AV)} (hv : VR E w x y) (hr : rowsOf S sz x = some rows) :
    (rows = [] ∧ ∃ a : Option Addr, y = .slice a 0 0) ∨ ∃ g b c, y = .slice (some ⟨g, b, none⟩) rows.length c ∧ rows.length ≤ c ∧ Stand E w rows.flatten g b ∧ (∀ r ∈ rows, r.length = sz) ∧ rows.flatten.all AV.one = true := by
  unfold rowsOf at hr
  split at hr
  · cases hr; obtain ⟨_, rfl⟩ := hv.flat_inv; exact .inl ⟨rfl, _, rfl⟩
  · rename_i c rows'
    split at hr
    · rename_i hc
      cases hr
      rcases hv.lst_inv with ⟨rfl, a, rfl, _⟩ | ⟨g, b, cap, sz', rfl, k1, k2, k3, k4, k5, _⟩
      · exact .inl ⟨rfl, a, rfl⟩
      refine .inr ⟨g, b, cap, rfl, k1, k5.stand, fun r hr => ?_, flat_one rows ?_⟩
      · have := List.all_eq_true.1 hc r hr; simp at this; exact this.1
      · refine List.all_eq_true.2 fun r hr => ?_
        have := List.all_eq_true.1 hc r hr; simp only [Bool.and_eq_true] at this; exact this.2
    · cases hr
  · rename_i o sz' off len cap
    split at hr
    · rename_i hsz
      subst hsz
      obtain ⟨p, hp, hr1⟩ := Option.bind_eq_some_iff.1 hr
      split at hr1
      · rename_i hc
        cases hr1
        obtain ⟨g, c, hj, rfl, k1, k2, k3, k4, k5⟩ := hv.slc_inv
        have hst := (h.obj o _ g (cellsAt_some hp) hj).stand.drop off (len * sz')
        rw [Nat.zero_add] at hst
        refine .inr ⟨g, off, c, by rw [chunks_length], by rw [chunks_length]; omega, ?_, chunks_mem _ _ _ hc.1, ?_⟩
        · rw [chunks_flatten _ _ _ hc.1]; exact hst
        · rw [chunks_flatten _ _ _ hc.1]; exact hc.2
      · cases hr1
    · cases hr
  · cases hr

theorem u8s_pair : ∀ {rows : List (List AV)} {ns : List Int} {ys : List Value}, u8s rows = some ns → Pair (VR E w) rows.flatten ys → ys = ns.map (Value.int .u8) ∧ ns.length = rows.length
  | [], ns, ys, h, hp => by
    simp only [u8s] at h; cases h
    have := hp.1
    simp at this
    exact ⟨List.length_eq_zero_iff.1 this.symm, rfl⟩
  | r :: rows, ns, ys, h, hp => by
    unfold u8s at h
    split at h
    · rename_i heq; cases heq
    · rename_i n l heq
      cases heq
      split at h
      · rename_i ns1 h1
        cases h
        simp only [List.flatten_cons, List.singleton_append] at hp
        cases ys with
        | nil => have := hp.1; simp at this
        | cons y ys =>
          have h0 := hp.2 0 _ y rfl rfl
          obtain ⟨_, rfl⟩ := h0.flat_inv
          have hp' : Pair (VR E w) rows.flatten ys := ⟨by have := hp.1; simpa using this, fun i a b ha hb => hp.2 (i + 1) a b (by simpa using ha) (by simpa using hb)⟩
          obtain ⟨e1, e2⟩ := u8s_pair h1 hp'
          exact ⟨by rw [e1]; rfl, by simp [e2]⟩
      · cases h
    · cases h

theorem astr_sound (h : SR B0 w0 E S w) {src dst : TypeId} {x y : AV} {x' : Value} (hv : VR E w x x') (hy : astr P S src dst x = some y) : ∃ z, (convert src dst x').run P w = .ok z w ∧ VR E w y z := by
  unfold astr at hy
  split at hy
  · rename_i e hs hd
    split at hy
    · rename_i he
      obtain ⟨rows, hr, hy1⟩ := Option.bind_eq_some_iff.1 hy
      obtain ⟨ns, hn, rfl⟩ := Option.map_eq_some_iff.1 hy1
      rcases rowsOf_sound h (by omega) hv hr with ⟨rfl, ad, rfl⟩ | ⟨g, b, c, rfl, hle, hst, hl, hone⟩
      · simp only [u8s] at hn; cases hn
        cases ad with
        | none => exact ⟨_, by rw [run_convert_bytes_string w src dst e _ _ _ hs he hd]; simp [Conv.bytesToString], VR.of_flat rfl⟩
        | some a1 => exact ⟨_, by rw [run_convert_bytes_string w src dst e _ _ _ hs he hd]; simp [Conv.bytesToString, loadCells, loadCellsFrom], VR.of_flat rfl⟩
      · obtain ⟨ys, hp, hc⟩ := hst.list
        obtain ⟨e1, e2⟩ := u8s_pair hn hp
        have hlc := run_loadCells_list (P := P) (w := w) ⟨g, b, none⟩ ys (fun j v hv => by rw [addr_add]; exact hc j v hv)
        have hlen : ys.length = rows.length := by rw [e1, List.length_map, e2]
        rw [hlen, e1] at hlc
        exact ⟨_, by rw [run_convert_bytes_string w src dst e _ _ _ hs he hd]; exact run_bytesToString w _ _ _ ns (by simpa using hlc), VR.of_flat rfl⟩
    · cases hy
  · cases hy

theorem rep_pair (zv : Value) (n sz : Nat) (hf : zv.cells.toList.all flat = true) (hs : zv.cells.size = sz) : Pair (VR E w) (List.replicate n (zv.cells.toList.map AV.v)).flatten (madeCells zv.cells (n * sz)).toList := by
  have := zeros_pair (E := E) (w := w) zv n sz hf hs
  refine ⟨by simp [hs, size_madeCells], fun i x y hx hy => ?_⟩
  refine this.2 i x y hx ?_
  simpa [madeCells] using hy

theorem makeSlice_sound (h : SR B0 w0 E S w) {mu : Bool} {t : TypeId} {l c x : AV} {l' c' : Value} (hl : VR E w l l') (hc : VR E w c c') (hx : amakeSlice P mu S t l c = some (x, S')) :
    ∃ y w' E', (Instr.makeSlice t l' c').run P w = .ok y w' ∧ SR B0 w0 E' S' w' ∧ Step S.objs.length S.ends.length E w E' w' ∧ VR E' w' x y := by
  unfold amakeSlice at hx
  obtain ⟨p, hp, hx1⟩ := Option.bind_eq_some_iff.1 hx; clear hx
  obtain ⟨z, hz, hx2⟩ := Option.bind_eq_some_iff.1 hx1; clear hx1
  obtain ⟨i, hi, hx3⟩ := Option.bind_eq_some_iff.1 hx2; clear hx2
  obtain ⟨ln, hln, hx4⟩ := Option.bind_eq_some_iff.1 hx3; clear hx3
  obtain ⟨cn, hcn, hx5⟩ := Option.bind_eq_some_iff.1 hx4; clear hx4
  obtain ⟨hu, hs, hpos⟩ := isRow_some hp
  obtain ⟨i', zv, hi', hzv, hf, rfl⟩ := azero_some hz
  rw [hi] at hi'; cases hi'
  obtain ⟨kl, rfl⟩ := aintOf_some hln hl
  obtain ⟨kc, rfl⟩ := aintOf_some hcn hc
  split at hx5
  · rename_i hcc
    obtain ⟨hzl, h0, h1, h2, h3⟩ := hcc
    have hzs : zv.cells.size = p.2 := by simpa using hzl
    have his : i.size = p.2 := by obtain ⟨i2, hi2, hs2⟩ := szOf_some hs; rw [hi] at hi2; cases hi2; exact hs2
    have hrun := run_make (P := P) w t p.1 i zv hu hi hzv kl kc ln cn h0 h1 (by omega) (by omega)
    rw [his] at hrun
    have hpair := rep_pair (E := E) (w := w) zv cn.toNat p.2 hf hzs
    have hml : cn.toNat ≤ maxLen := by unfold maxLen; omega
    split at hx5
    · cases hx5
      obtain ⟨E', k1, k2, k3, k4⟩ := h.newCells (madeCells zv.cells (cn.toNat * p.2)) p.1 _ (by rw [hpair.1]; simp) (fun i x y hx hy => hpair.2 i x y hx (by simpa using hy))
      refine ⟨_, _, E', hrun, k1, k2, 1, _, cn.toNat, k3, rfl, by omega, Nat.le_refl _, hml, hpos, by rw [k4, size_madeCells]; omega⟩
    · split at hx5
      · rename_i elc
        cases hx5
        subst elc
        obtain ⟨k1, k2, k3⟩ := h.newRow (madeCells zv.cells (ln.toNat * p.2)) p.1 (madeCells zv.cells (ln.toNat * p.2)).size (Nat.le_refl _) _ (by rw [hpair.1]; simp) (fun i x y hx hy => hpair.2 i x y hx (by simpa using hy))
        refine ⟨_, _, _, hrun, k1, k2, ?_⟩
        have := VR.lst (c := .exact) (cap := ln.toNat) (sz := p.2) (rows := List.replicate ln.toNat (zv.cells.toList.map AV.v)) (by simp) hml hpos (by intro r hr; simp at hr; rw [hr.2]; simpa using hzs) k3 (by simp [LstCap])
        simpa using this
      · cases hx5
  · cases hx5

theorem index_sound {t : TypeId} {a i x : AV} {a' i' : Value} (ha : VR E w a a') (hi : VR E w i i') (hx : aindex P t a i = some x) : ∃ y, (Instr.index t a' i').run P w = .ok y w ∧ VR E w x y := by
  unfold aindex at hx
  obtain ⟨n, hn, hx1⟩ := Option.bind_eq_some_iff.1 hx; clear hx
  obtain ⟨k, rfl⟩ := aintOf_some hn hi
  split at hx1
  · rename_i s hu
    split at hx1
    · rename_i h0
      obtain ⟨b, hb, rfl⟩ := Option.map_eq_some_iff.1 hx1
      obtain ⟨_, rfl⟩ := ha.flat_inv
      exact ⟨_, by simp [Instr.index, asIntOf, run_underlying hu, h0, hb], VR.of_flat rfl⟩
    · cases hx1
  · rename_i len e l hu
    split at hx1
    · rename_i hc
      obtain ⟨sz, hs, hx2⟩ := Option.bind_eq_some_iff.1 hx1
      obtain ⟨ys, rfl, hp⟩ := ha.agg_inv
      obtain ⟨y, hy, hv⟩ := part_sound (P := P) hp hx2
      exact ⟨y, by simp [Instr.index, asIntOf, run_underlying hu, hc.1, hc.2, run_sizeOf hs, hy], hv⟩
    · cases hx1
  · cases hx1

theorem extract_sound {a x : AV} {a' : Value} {i : Nat} (ha : VR E w a a') (hx : aextract a i = some x) : ∃ y, (Instr.extract a' i).run P w = .ok y w ∧ VR E w x y := by
  cases a with
  | tup l =>
    obtain ⟨ys, rfl, hp⟩ := ha.tup_inv
    have hx' : l[i]? = some x := hx
    have hlt : i < ys.length := by rw [← hp.1]; exact (List.getElem?_eq_some_iff.1 hx').1
    exact ⟨ys[i], by simp [Instr.extract, hlt], hp.2 i _ _ hx' (by simp [hlt])⟩
  | _ => simp [aextract] at hx

theorem opt_rel {ρ : Operand → AV} {ρ' : Operand → Value} (hρ : ∀ x, VR E w (ρ x) (ρ' x)) (o : Option Operand) : OptR E w (o.map ρ) (o.map ρ') := by
  cases o with
  | none => trivial
  | some x => exact hρ x

theorem map_pair {ρ : Operand → AV} {ρ' : Operand → Value} (hρ : ∀ x, VR E w (ρ x) (ρ' x)) (l : List Operand) : Pair (VR E w) (l.map ρ) (l.map ρ') :=
  ⟨by simp, fun i x y hx hy => by
    rw [List.getElem?_map] at hx hy
    cases hl : l[i]? with
    | none => rw [hl] at hx; cases hx
    | some o => rw [hl] at hx hy; cases hx; cases hy; exact hρ o⟩

theorem nilI_some {x : AV} {y : Value} {b : Bool} (h : nilI x = some b) (hv : VR E w x y) : (y = .nilIface ∧ b = true) ∨ ∃ t z, y = .iface t z ∧ b = false := by
  unfold nilI at h
  split at h
  · cases h; exact .inl ⟨hv.flat_inv.2, rfl⟩
  · cases h; obtain ⟨z, hz, _⟩ := hv.ifc_inv; exact .inr ⟨_, z, hz, rfl⟩
  · cases h

theorem binI_sound (h : SR B0 w0 E S w) {op : BinOp} {t : TypeId} {x y r : AV} {x' y' : Value} {X Y : Operand} (hx : VR E w x x') (hy : VR E w y y') (hr : abinI P S (constOp X || constOp Y) op t x y = some r) :
    ∃ z, ((do eqGuard op t X Y x' y'; binOp op t x' y') : Sem Value).run P w = .ok z w ∧ VR E w r z := by
  unfold abinI at hr
  split at hr
  · rename_i v hv
    cases hr
    unfold aifc at hv
    split at hv
    · rename_i ms hu
      obtain ⟨p, hp, h1⟩ := Option.bind_eq_some_iff.1 hv
      obtain ⟨q, hq, h2⟩ := Option.bind_eq_some_iff.1 h1
      split at h2
      · rename_i hc
        have heq : (∀ d, (Op.equalIn (d + 1) t x' y').run P w = .ok (p && q) w) ∧ (op = .eql ∨ op = .neq → (eqGuard op t X Y x' y').run P w = .ok () w) := by
          rcases nilI_some hp hx with ⟨rfl, rfl⟩ | ⟨t1, z1, rfl, rfl⟩ <;> rcases nilI_some hq hy with ⟨rfl, rfl⟩ | ⟨t2, z2, rfl, rfl⟩
          · refine ⟨fun d => by simp [Op.equalIn, run_underlying hu], fun ho => ?_⟩
            simp only [Bool.and_self, Bool.true_and, bne_self_eq_false, Bool.or_false, Bool.or_eq_true] at hc
            rcases ho with rfl | rfl <;> rcases hc with hc | hc
            · cases X <;> first | (cases hc; done) | (simp [eqGuard]; done)
            · cases Y <;> first | (cases hc; done) | (simp [eqGuard]; done)
            · cases X <;> first | (cases hc; done) | (simp [eqGuard]; done)
            · cases Y <;> first | (cases hc; done) | (simp [eqGuard]; done)
          · exact ⟨fun d => by simp [Op.equalIn, run_underlying hu], fun ho => by rcases ho with rfl | rfl <;> simp [eqGuard]⟩
          · exact ⟨fun d => by simp [Op.equalIn, run_underlying hu], fun ho => by rcases ho with rfl | rfl <;> simp [eqGuard]⟩
          · simp at hc
        have hx'' : (∀ k n, x' ≠ .int k n) ∧ (∀ k n, x' ≠ .float k n) ∧ (∀ k n m, x' ≠ .complex k n m) ∧ (∀ s, x' ≠ .string s) := by
          rcases nilI_some hp hx with ⟨rfl, _⟩ | ⟨t1, z1, rfl, _⟩ <;> simp
        obtain ⟨n1, n2, n3, n4⟩ := hx''
        obtain ⟨e0, e2⟩ := heq
        have e1 : (Op.equal t x' y').run P w = .ok (p && q) w := e0 9999
        clear e0
        split at h2
        · cases h2
          refine ⟨.bool (p && q), ?_, VR.of_flat rfl⟩
          rw [Sem.run_bind, e2 (.inl rfl), Result.andThen_ok]
          cases x' <;> first | exact absurd rfl (n1 _ _) | exact absurd rfl (n2 _ _) | exact absurd rfl (n3 _ _ _) | exact absurd rfl (n4 _) | (simp [binOp, e1])
        · cases h2
          refine ⟨.bool (!(p && q)), ?_, VR.of_flat rfl⟩
          rw [Sem.run_bind, e2 (.inr rfl), Result.andThen_ok]
          cases x' <;> first | exact absurd rfl (n1 _ _) | exact absurd rfl (n2 _ _) | exact absurd rfl (n3 _ _ _) | exact absurd rfl (n4 _) | (simp [binOp, e1])
        · cases h2
      · cases h2
    · cases hv
  · exact bin_sound h hx hy hr

theorem exec_sound (h : SR B0 w0 E S w) {mu : Bool} {o : Oper} {x : AV} {ρ : Operand → AV} {ρ' : Operand → Value} (hρ : ∀ x, VR E w (ρ x) (ρ' x))
    (hx : aexec P mu S ρ o.op = some (x, S')) : Did B0 w0 E w S S' x ((execOp ρ' o).run P w) := by
  obtain ⟨dst, op, ty, pos, after, guard⟩ := o
  have same : ∀ {r : Option AV} {q : AV × AS}, (r.map fun x => (x, S)) = some q → r = some q.1 ∧ q.2 = S := by
    intro r q hq
    obtain ⟨a, ha, rfl⟩ := Option.map_eq_some_iff.1 hq
    exact ⟨ha, rfl⟩
  have upd : ∀ {r : Option AS} {q : AV × AS}, (r.map fun S => (undefA, S)) = some q → r = some q.2 ∧ q.1 = undefA := by
    intro r q hq
    obtain ⟨a, ha, rfl⟩ := Option.map_eq_some_iff.1 hq
    exact ⟨ha, rfl⟩
  cases op with
  | move a => simp only [aexec, Option.some.injEq, Prod.mk.injEq] at hx; obtain ⟨rfl, rfl⟩ := hx; exact Did.val h rfl (hρ a)
  | assign a => simp only [aexec, Option.some.injEq, Prod.mk.injEq] at hx; obtain ⟨rfl, rfl⟩ := hx; exact Did.val h rfl (hρ a)
  | pick c a b =>
    simp only [aexec] at hx
    split at hx
    · rename_i t hc
      cases hx
      have hcv := hρ c
      rw [hc] at hcv
      obtain ⟨_, hcv⟩ := hcv.flat_inv
      refine Did.val h (y := if t then ρ' a else ρ' b) (by simp [execOp, hcv, asBool]) ?_
      cases t
      · exact hρ b
      · exact hρ a
    · cases hx
  | alloc e =>
    obtain ⟨z, hz, he⟩ := Option.map_eq_some_iff.1 hx
    cases he
    obtain ⟨y, w', E', h1, h2, h3, h4⟩ := alloc_sound h hz
    exact ⟨_, w', E', by simp [execOp, h1], h2, h3, .inl ⟨y, rfl, h4⟩⟩
  | box e a =>
    simp only [aexec] at hx
    split at hx
    · cases hx
    · rename_i hj
      cases hx
      obtain ⟨y, w', E', h1, h2, h3, h4⟩ := box_sound (P := P) (t := e) h (hρ a) (fun e => by rw [e] at hj; simp at hj)
      exact ⟨_, w', E', by simp [execOp, h1], h2, h3, .inl ⟨y, rfl, h4⟩⟩
  | build t parts =>
    obtain ⟨h1, h2⟩ := same hx
    simp only at h2; subst h2
    obtain ⟨y, hy, hv⟩ := build_sound (P := P) hρ h1
    exact Did.val h (by simp only [execOp]; simp [hy]) hv
  | buildSlice t len parts =>
    obtain ⟨y, w', E', h1, h2, h3, h4⟩ := buildSlice_sound (P := P) h hρ hx
    exact ⟨_, w', E', by simp only [execOp]; simp [h1], h2, h3, .inl ⟨y, rfl, h4⟩⟩
  | load t a =>
    obtain ⟨h1, h2⟩ := same hx
    simp only at h2; subst h2
    obtain ⟨y, hy, hv⟩ := load_sound h (hρ a) h1
    exact Did.val h (by simp [execOp, hy]) hv
  | store t a v =>
    obtain ⟨h1, h2⟩ := upd hx
    simp only at h2; subst h2
    obtain ⟨w', k1, k2, k3⟩ := store_sound h (hρ a) (hρ v) h1
    exact ⟨.skip, w', E, by simp [execOp, k1], k2, k3, .inr ⟨rfl, rfl⟩⟩
  | nilCheck a =>
    simp only [aexec] at hx
    have hv := hρ a
    split at hx
    · rename_i o b ha
      cases hx
      rw [ha] at hv
      obtain ⟨g, hj, e⟩ := hv.ptr_inv
      exact Did.val h (y := ρ' a) (by simp [execOp, e]) hv
    · rename_i l b ha
      cases hx
      rw [ha] at hv
      obtain ⟨g, b', e, _⟩ := hv.eptr_inv
      exact Did.val h (y := ρ' a) (by simp [execOp, e]) hv
    · cases hx
  | binOp op t a b ty' =>
    obtain ⟨h1, h2⟩ := same hx
    simp only at h2; subst h2
    obtain ⟨y, hy, hv⟩ := binI_sound (X := a) (Y := b) h (hρ a) (hρ b) h1
    refine Did.val h (y := y) ?_ hv
    show ((do pure (.value (← (do eqGuard op t a b (ρ' a) (ρ' b); binOp op t (ρ' a) (ρ' b))))) : Sem Next).run P w = _
    rw [Sem.run_bind, hy]; rfl
  | unOp op t a =>
    obtain ⟨h1, h2⟩ := same hx
    simp only at h2; subst h2
    have hv := hρ a
    split at h1
    · rename_i v ha
      rw [ha] at hv
      obtain ⟨_, e⟩ := hv.flat_inv
      obtain ⟨z, hz, hp⟩ := Option.bind_eq_some_iff.1 h1
      obtain ⟨hf, rfl⟩ := ofV_some hp
      exact Did.val h (y := z) (by simp [execOp, e, peval_sound _ hz]) (VR.of_flat hf)
    · cases h1
  | convert s d a =>
    obtain ⟨h1, h2⟩ := same hx
    simp only at h2; subst h2
    have hv := hρ a
    split at h1
    · rename_i y0 hy0
      cases h1
      obtain ⟨z, hz, hvz⟩ := astr_sound h hv hy0
      exact Did.val h (y := z) (by simp [execOp, hz]) hvz
    unfold aconvert at h1
    split at h1
    · rename_i y hy
      cases h1
      obtain ⟨q, hq⟩ : ∃ q, ρ a = q := ⟨_, rfl⟩
      rw [hq] at hy hv
      unfold abytes at hy
      split at hy
      · rename_i str
        split at hy
        · rename_i e hs hd
          split at hy
          · rename_i he
            split at hy
            · rename_i hm
              cases hy
              obtain ⟨_, e1⟩ := hv.flat_inv
              have hrun := run_bytes_of_string (P := P) w s d e str hs hd he
              obtain ⟨cp, hcp⟩ : ∃ cp, grownCap w str.size 0 e = cp := ⟨_, rfl⟩
              have hge : str.size ≤ cp := by have := grownCap_ge w str.size 0 e; omega
              have hle : cp ≤ maxLen := by have := grownCap_le_maxLen w str.size 0 e hm; omega
              rw [hcp] at hrun
              have hfl : (str.data.toList.map fun b => [AV.v (.int .u8 b.toNat)]).flatten = str.data.toList.map fun b => AV.v (.int .u8 b.toNat) := by
                induction str.data.toList with
                | nil => rfl
                | cons b l ih => simp [ih]
              have hsz : (bytesRow str cp).size = cp := by
                have hsz0 : str.data.size = str.size := rfl
                simp [bytesRow, hsz0]; omega
              have hsl : str.data.toList.length = str.size := Array.length_toList
              obtain ⟨k1, k2⟩ := h.later (w' := w.drew) ⟨rfl, rfl, rfl, Nat.le_refl _, fun _ _ _ => rfl⟩
              obtain ⟨k3, k4, k5⟩ := k1.newRow (bytesRow str cp) e str.size (by rw [hsz]; exact hge) (str.data.toList.map fun b => AV.v (.int .u8 b.toNat)) (by simp [hsl]) (fun i x y hx hy => by
                have hi : i < str.data.toList.length := by have := (List.getElem?_eq_some_iff.1 hx).1; simpa using this
                have hi2 : i < str.data.size := by simpa using hi
                simp [List.getElem?_eq_getElem hi] at hx
                unfold bytesRow at hy
                rw [Array.getElem?_append_left (by simpa using hi2)] at hy
                subst hx
                have hy2 : y = Value.int .u8 str.data[i].toNat := by
                  rw [Array.getElem?_map, Array.getElem?_eq_getElem hi2] at hy
                  exact (Option.some.inj hy).symm
                subst hy2
                exact VR.of_flat rfl) ((bytesRow str cp).size, (bytesRow str cp).size + 1)
              have hlen : (str.data.toList.map fun b => [AV.v (.int .u8 b.toNat)]).length = str.size := by simp [hsl]
              have hvr := VR.lst (c := .unk) (rows := str.data.toList.map fun b => [AV.v (.int .u8 b.toNat)]) (cap := cp) (sz := 1) (by rw [hlen]; exact hge) hle (by omega) (by simp) (by rw [hfl]; exact k5) trivial
              rw [hlen] at hvr
              exact ⟨_, _, _, by simp [execOp, e1, hrun], k3, k2.trans k4 (Nat.le_refl _) (Nat.le_refl _), .inl ⟨_, rfl, hvr⟩⟩
            · cases hy
          · cases hy
        · cases hy
      · cases hy
    split at h1
    · rename_i v ha
      rw [ha] at hv
      obtain ⟨_, e⟩ := hv.flat_inv
      obtain ⟨z, hz, hp⟩ := Option.bind_eq_some_iff.1 h1
      obtain ⟨hf, rfl⟩ := ofV_some hp
      exact Did.val h (y := z) (by simp [execOp, e, peval_sound _ hz]) (VR.of_flat hf)
    · cases h1
  | makeFunc f a b =>
    simp only [aexec, Option.some.injEq, Prod.mk.injEq] at hx
    obtain ⟨rfl, rfl⟩ := hx
    refine Did.val h (y := .func f (a.toList.map ρ').toArray (b.toList.map ρ').toArray) ?_ (VR.fn (map_pair hρ _) (map_pair hρ _))
    simp [execOp, Instr.makeFunc]
    exact ⟨by apply Array.ext'; simp, by apply Array.ext'; simp⟩
  | makeMap t r =>
    cases r with
    | some r => simp [aexec] at hx
    | none =>
      simp only [aexec, Option.some.injEq, Prod.mk.injEq] at hx
      obtain ⟨rfl, rfl⟩ := hx
      obtain ⟨E', h1, h2, h3⟩ := h.newMap
      exact ⟨_, _, E', by simp only [execOp]; simp [run_makeMap], h1, h2, .inl ⟨_, rfl, VR.mp h3⟩⟩
  | makeSlice t l c =>
    obtain ⟨y, w', E', h1, h2, h3, h4⟩ := makeSlice_sound (P := P) h (hρ l) (hρ c) hx
    exact ⟨_, w', E', by simp [execOp, h1], h2, h3, .inl ⟨y, rfl, h4⟩⟩
  | slice t a lo hi mx =>
    obtain ⟨h1, h2⟩ := same hx
    simp only at h2; subst h2
    obtain ⟨y, hy, hv⟩ := slice_sound (P := P) (hρ a) (opt_rel hρ lo) (opt_rel hρ hi) (opt_rel hρ mx) h1
    exact Did.val h (by simp [execOp, hy]) hv
  | fieldAddr s a f =>
    obtain ⟨h1, h2⟩ := same hx
    simp only at h2; subst h2
    obtain ⟨y, hy, hv⟩ := fieldAddr_sound (P := P) (hρ a) h1
    exact Did.val h (by simp [execOp, hy]) hv
  | field t a f =>
    obtain ⟨h1, h2⟩ := same hx
    simp only at h2; subst h2
    have hv := hρ a
    split at h1
    · rename_i l ha
      rw [ha] at hv
      obtain ⟨ys, e, hp⟩ := hv.agg_inv
      obtain ⟨p, hp1, h3⟩ := Option.bind_eq_some_iff.1 h1
      obtain ⟨fs, x', n, hu, hf, hn, _, rfl⟩ := afield_some hp1
      obtain ⟨y, hy, hv'⟩ := part_sound (P := P) hp h3
      exact Did.val h (y := y) (by simp [execOp, Instr.field, run_underlying hu, hf, e, asAgg, hy]) hv'
    · cases h1
  | indexAddr t a i =>
    obtain ⟨h1, h2⟩ := same hx
    simp only at h2; subst h2
    obtain ⟨y, hy, hv⟩ := indexAddr_sound (P := P) (hρ a) (hρ i) h1
    exact Did.val h (by simp [execOp, hy]) hv
  | index t a i =>
    obtain ⟨h1, h2⟩ := same hx
    simp only at h2; subst h2
    obtain ⟨y, hy, hv⟩ := index_sound (P := P) (hρ a) (hρ i) h1
    exact Did.val h (by simp [execOp, hy]) hv
  | lookup t m k ok =>
    obtain ⟨h1, h2⟩ := same hx
    simp only at h2; subst h2
    obtain ⟨y, hy, hv⟩ := lookup_sound h (hρ m) (hρ k) h1
    exact Did.val h (by simp [execOp, hy]) hv
  | mapUpdate t m k v =>
    obtain ⟨h1, h2⟩ := upd hx
    simp only at h2; subst h2
    obtain ⟨w', k1, k2, k3⟩ := mapUpdate_sound h (hρ m) (hρ k) (hρ v) h1
    exact ⟨.skip, w', E, by simp [execOp, k1], k2, k3, .inr ⟨rfl, rfl⟩⟩
  | insert t m k v =>
    obtain ⟨h1, h2⟩ := upd hx
    simp only at h2; subst h2
    obtain ⟨w', k1, k2, k3⟩ := mapUpdate_sound h (hρ m) (hρ k) (hρ v) h1
    exact ⟨.skip, w', E, by simp [execOp, k1], k2, k3, .inr ⟨rfl, rfl⟩⟩
  | range t a =>
    simp only [aexec] at hx
    have ha := hρ a
    obtain ⟨q, hq⟩ : ∃ q, ρ a = q := ⟨_, rfl⟩
    rw [hq] at hx ha
    unfold arange0 at hx
    split at hx
    · rename_i s
      split at hx
      · rename_i hu
        cases hx
        obtain ⟨_, e1⟩ := ha.flat_inv
        obtain ⟨k1, k2⟩ := h.newObj (.stringIter s 0) 0 (.iter s 0) (World.alloc_heap_new _ _)
        refine ⟨.value (.pointer (some ⟨w.heap.size, 0, none⟩)), _, _, ?_, k1, k2, .inl ⟨_, rfl, VR.ptr (by simp [Env.obj])⟩⟩
        simp [execOp, Instr.range, run_underlying hu, e1]
      · cases hx
    · cases hx
  | next it b =>
    simp only [aexec] at hx
    have ha := hρ it
    obtain ⟨q, hq⟩ : ∃ q, ρ it = q := ⟨_, rfl⟩
    rw [hq] at hx ha
    unfold anext at hx
    split at hx
    · rename_i o
      obtain ⟨g, hj, e1⟩ := ha.ptr_inv
      split at hx
      · rename_i s pos ho
        have hg : w.heap[g]? = some (.stringIter s pos) := h.obj o _ g ho hj
        have hget : (getObj g).run P w = .ok (.stringIter s pos) w := by simp [getObj, Sem.run, hg]
        split at hx
        · rename_i hlt
          cases hx
          have hset : (setObj g (.stringIter s (pos + (Utf8.decode s pos).2))).run P w = .ok () { w with heap := w.heap.setIfInBounds g (.stringIter s (pos + (Utf8.decode s pos).2)) } := by simp [setObj, Sem.run, hg]
          obtain ⟨k1, k2⟩ := h.setObj hj (by unfold AS.live; rw [ho]; simp) (grownBy_setObj (w := w) (o' := .stringIter s (pos + (Utf8.decode s pos).2)) hg) (.iter s (pos + (Utf8.decode s pos).2)) (heap_set hg).1
          refine ⟨.value (.tuple #[.bool true, .int .i64 pos, .int .i32 (Utf8.decode s pos).1]), _, _, ?_, k1, k2, .inl ⟨_, rfl, VR.tup (ys := [.bool true, .int .i64 pos, .int .i32 (Utf8.decode s pos).1]) (flats_pair [.bool true, .int .i64 pos, .int .i32 (Utf8.decode s pos).1] rfl)⟩⟩
          simp [execOp, Instr.next, e1, hget, hset, hlt, goInt]
        · rename_i hlt
          cases hx
          refine Did.val h (y := .tuple #[.bool false]) ?_ (VR.tup (ys := [.bool false]) (flats_pair [.bool false] rfl))
          simp [execOp, Instr.next, e1, hget, hlt]
      · cases hx
    · cases hx
  | extract t i =>
    obtain ⟨h1, h2⟩ := same hx
    simp only at h2; subst h2
    obtain ⟨y, hy, hv⟩ := extract_sound (P := P) (hρ t) h1
    exact Did.val h (by simp [execOp, hy]) hv
  | makeInterface t a =>
    simp only [aexec] at hx
    split at hx
    · cases hx
    · cases hx
    · rename_i hu1 hu2
      cases hx
      refine Did.val h (y := .iface t (ρ' a)) ?_ (VR.ifc (hρ a))
      cases hu : P.underlying t with
      | none => exact absurd hu hu2
      | some d => cases d <;> first | exact absurd hu (hu1 _) | simp [execOp, Instr.makeInterface, run_underlying hu]
  | _ => simp [aexec] at hx

end Go.AM
