/- The abstract machine, eighth text: the operations' laws: slices, maps, comparisons. -/
import Derived.Test.YtlfobfhklmndkaaGreatDoorA6
namespace Go.AM
open Go.RowKit Go.MapKept

variable {B0 : Nat} {w0 w : World} {E : Env} {S S' : AS} {P : Program}

theorem Row.nil {R : AV → Value → Prop} (g b : Nat) : Row E w R [] g b := fun m x hx => by simp at hx

theorem sliceLst {c : Cap} {rows : List (List AV)} {g b cap sz : Nat} {l h m : Nat} (h1 : rows.length ≤ cap) (h2 : cap ≤ maxLen) (h3 : 0 < sz) (h4 : ∀ r ∈ rows, r.length = sz) (h5 : Row E w (VR E w) rows.flatten g b)
    (hl : l ≤ h) (hh : h ≤ rows.length) (hm : h ≤ m) (hmc : m ≤ cap) (c' : Cap) (hc : LstCap E w c' (h - l) (m - l) sz g (if m = l then b else b + l * sz)) :
    VR E w (.lst c' ((rows.take h).drop l)) (.slice (if m = l then some ⟨g, b, none⟩ else some ⟨g, b + l * sz, none⟩) (h - l) (m - l)) := by
  have hlen : ((rows.take h).drop l).length = h - l := by simp; omega
  have hs : ∀ r ∈ (rows.take h).drop l, r.length = sz := fun r hr => h4 r (List.mem_of_mem_take (List.mem_of_mem_drop hr))
  have hfl : ((rows.take h).drop l).flatten = (rows.flatten.drop (l * sz)).take ((h - l) * sz) := by
    rw [List.drop_take, flat_take _ sz (fun r hr => h4 r (List.mem_of_mem_drop hr)), flat_drop _ sz h4]
  by_cases e : m = l
  · rw [if_pos e] at hc ⊢
    have hhl : h - l = 0 := by omega
    have hnil : (rows.take h).drop l = [] := List.eq_nil_of_length_eq_zero (by omega)
    rw [hnil]
    have := VR.lst (E := E) (w := w) (c := c') (rows := []) (g := g) (b := b) (cap := m - l) (sz := sz) (by simp) (by omega) h3 (by simp) (Row.nil _ _) (by simpa [hhl] using hc)
    simpa [hhl] using this
  · rw [if_neg e] at hc ⊢
    have := VR.lst (E := E) (w := w) (c := c') (rows := (rows.take h).drop l) (g := g) (b := b + l * sz) (cap := m - l) (sz := sz) (by omega) (by omega) h3 hs (by rw [hfl]; exact h5.sub _ _) (by rw [hlen]; exact hc)
    rwa [hlen] at this

theorem slice_sound {t : TypeId} {a x : AV} {a' : Value} {lo hi mx : Option AV} {lo' hi' mx' : Option Value} (ha : VR E w a a') (hlo : OptR E w lo lo') (hhi : OptR E w hi hi') (hmx : OptR E w mx mx')
    (hx : aslice P t a lo hi mx = some x) : ∃ y, (Instr.sliceAt t a' lo' hi' mx').run P w = .ok y w ∧ VR E w x y := by
  have hmx0 : mx = none → mx' = none := fun e => by subst e; cases mx' with | none => rfl | some _ => exact hmx.elim
  unfold aslice at hx
  split at hx
  · -- a string
    rename_i s hu
    obtain ⟨l, hl, hx1⟩ := Option.bind_eq_some_iff.1 hx; clear hx
    obtain ⟨h, hh, hx2⟩ := Option.bind_eq_some_iff.1 hx1; clear hx1
    split at hx2
    · rename_i hc
      cases hx2
      obtain ⟨_, rfl⟩ := ha.flat_inv
      obtain ⟨hn, h0, h1, h2⟩ := hc
      have hm : mx = none := by simpa using hn
      have hm' := hmx0 hm
      subst hm; subst hm'
      have hb := bounds_run (P := P) (b := false) (len := s.size) (cap := s.size) hlo hhi hmx hl hh (show bnd s.size none = some (s.size : Int) from rfl) h0 h1 h2 (Int.le_refl _) (by simp)
      exact ⟨_, by simp [Instr.sliceAt, run_underlying hu, Instr.slice, hb], VR.of_flat rfl⟩
    · cases hx2
  · -- a list
    rename_i e c rows hu
    obtain ⟨l, hl, hx1⟩ := Option.bind_eq_some_iff.1 hx; clear hx
    obtain ⟨h, hh, hx2⟩ := Option.bind_eq_some_iff.1 hx1; clear hx1
    split at hx2
    · rename_i hc
      obtain ⟨h0, h1, h2, hsz, hss⟩ := hc
      obtain ⟨n, hn⟩ := Option.isSome_iff_exists.1 hss
      rcases ha.lst_inv with ⟨rfl, ad, rfl, hca⟩ | ⟨g, b, cap, sz, rfl, k1, k2, k3, k4, k5, k6⟩
      · have e1 : h = 0 := by simp at h2; omega
        have e0 : l = 0 := by omega
        subst e1; subst e0
        split at hx2
        · have hm' := hmx0 rfl
          subst hm'
          cases hx2
          have hb := bounds_run (P := P) (b := true) (len := 0) (cap := 0) hlo hhi hmx hl hh (show bnd 0 none = some ((0 : Nat) : Int) from rfl) (Int.le_refl _) (Int.le_refl _) (by simp) (by simp) (by simp)
          refine ⟨.slice ad 0 0, by simp [Instr.sliceAt, run_underlying hu, Instr.slice, hb, run_sizeOf hn], 1, .inl ⟨by simp, ad, rfl, ?_⟩⟩
          rcases hca with rfl | ⟨rfl, hsm⟩
          · exact .inl rfl
          · exact .inr ⟨rfl, hsm⟩
        · obtain ⟨m, hm, hx3⟩ := Option.bind_eq_some_iff.1 hx2
          rcases hca with rfl | ⟨rfl, hsm⟩ <;> simp at hx3
      have hln : l = 0 ∨ n = sz := by
        rcases hsz with hsz | hsz
        · exact .inl hsz
        · rw [hn] at hsz
          cases rows with
          | nil => simp at hsz
          | cons r rs => right; simp at hsz; rw [← hsz]; exact k4 r (by simp)
      have hadr : ∀ m : Nat, (if m = l.toNat then (some (⟨g, b, none⟩ : Addr)) else (some (⟨g, b, none⟩ : Addr)).map (·.add (l.toNat * n))) = (if m = l.toNat then some ⟨g, b, none⟩ else some ⟨g, b + l.toNat * sz, none⟩) := by
        intro m
        rcases hln with e0 | e0
        · subst e0; simp [addr_add]
        · subst e0; simp [addr_add]
      split at hx2
      · cases hx2
        have hm' := hmx0 rfl
        subst hm'
        have hb := bounds_run (P := P) (b := true) (len := rows.length) (cap := cap) hlo hhi hmx hl hh (show bnd cap none = some (cap : Int) from rfl) h0 h1 (by omega) (Int.le_refl _) (by simp)
        refine ⟨.slice (if cap = l.toNat then some ⟨g, b, none⟩ else some ⟨g, b + l.toNat * sz, none⟩) (h.toNat - l.toNat) (cap - l.toNat), by simp only [Instr.sliceAt, Sem.run_bind, run_underlying hu, Result.andThen_ok, Instr.slice, hb, run_sizeOf hn, Sem.run_pure, Int.toNat_natCast, hadr], ?_⟩
        refine sliceLst (c := c) k1 k2 k3 k4 k5 (by omega) (by omega) (by omega) (Nat.le_refl _) _ ?_
        by_cases hany : c = .any
        · subst hany; trivial
        have hcc : capOf c (decide (h = (rows.length : Int))) = if h = rows.length then c else .unk := by
          by_cases eh : h = rows.length
          · rw [if_pos eh]; simp only [eh, decide_true]; cases c <;> first | rfl | exact absurd rfl hany
          · rw [if_neg eh]; simp only [eh, decide_false]; cases c <;> first | rfl | exact absurd rfl hany
        rw [hcc]
        by_cases eh : h = rows.length
        · rw [if_pos eh]
          have hhn : h.toNat = rows.length := by omega
          rw [hhn]
          cases c with
          | unk => trivial
          | any => trivial
          | exact => simp only [LstCap] at k6 ⊢; omega
          | tok t e s =>
            simp only [LstCap] at k6 ⊢
            refine ⟨k6.1, k6.2.1, k6.2.2.1, fun he => ?_⟩
            rcases k6.2.2.2 he with c0 | ⟨q1, q2, q3, q4⟩
            · left; omega
            · by_cases em : cap = l.toNat
              · left; omega
              · right
                rw [if_neg em]
                refine ⟨q1, ?_, q3, fun a T f hf => ?_⟩
                · rw [q2, Nat.sub_mul]
                  have := Nat.mul_le_mul_right sz (show l.toNat ≤ rows.length by omega)
                  omega
                · have := q4 a T f hf
                  rw [Nat.sub_mul]
                  have := Nat.mul_le_mul_right sz (show l.toNat ≤ cap by omega)
                  omega
        · rw [if_neg eh]; trivial
      · rename_i mv
        obtain ⟨m, hm, hx3⟩ := Option.bind_eq_some_iff.1 hx2; clear hx2
        split at hx3
        · rename_i em
          cases hx3
          obtain ⟨em, his, _⟩ := em
          subst em
          have hne : hi ≠ none := fun e => by subst e; simp at his
          have hb := bounds_run (P := P) (b := true) (len := rows.length) (cap := cap) hlo hhi hmx hl hh (show bnd cap (some mv) = some m from hm) h0 h1 (Int.le_refl _) (by omega) (fun _ => hne)
          refine ⟨.slice (if m.toNat = l.toNat then some ⟨g, b, none⟩ else some ⟨g, b + l.toNat * sz, none⟩) (m.toNat - l.toNat) (m.toNat - l.toNat), by simp only [Instr.sliceAt, Sem.run_bind, run_underlying hu, Result.andThen_ok, Instr.slice, hb, run_sizeOf hn, Sem.run_pure, hadr], ?_⟩
          exact sliceLst (c := c) k1 k2 k3 k4 k5 (by omega) (by omega) (Nat.le_refl _) (by omega) _ rfl
        · cases hx3
    · cases hx2
  · -- a slice of an object
    rename_i e o sz off len cap hu
    obtain ⟨l, hl, hx1⟩ := Option.bind_eq_some_iff.1 hx; clear hx
    obtain ⟨h, hh, hx2⟩ := Option.bind_eq_some_iff.1 hx1; clear hx1
    split at hx2
    · rename_i hc
      obtain ⟨h0, h1, h2, hs⟩ := hc
      obtain ⟨g, c, hj, rfl, k1, k2, k3, k4, k5⟩ := ha.slc_inv
      split at hx2
      · have hm' := hmx0 rfl
        subst hm'
        have hb := bounds_run (P := P) (b := true) (len := len) (cap := c) hlo hhi hmx hl hh (show bnd c none = some (c : Int) from rfl) h0 h1 (by omega) (Int.le_refl _) (by simp)
        split at hx2
        · rename_i e0
          cases hx2
          subst e0
          refine ⟨.slice (some ⟨g, off, none⟩) h.toNat c, ?_, 1, g, c, hj, rfl, by omega, k2, k3, k4, k5⟩
          simp only [Instr.sliceAt, Sem.run_bind, run_underlying hu, Result.andThen_ok, Instr.slice, hb, run_sizeOf hs, Sem.run_pure]
          simp [addr_add]
        · split at hx2
          · rename_i e0 e1
            cases hx2
            refine ⟨.slice (some ⟨g, off + l.toNat * sz, none⟩) (h - l).toNat (c - l.toNat), ?_, 1, g, c - l.toNat, hj, rfl, by omega, by omega, by omega, k4, ?_⟩
            · simp only [Instr.sliceAt, Sem.run_bind, run_underlying hu, Result.andThen_ok, Instr.slice, hb, run_sizeOf hs, Sem.run_pure]
              rw [if_neg (by omega)]
              simp [addr_add]
              omega
            · rw [Nat.sub_mul]
              have := Nat.mul_le_mul_right sz (show l.toNat ≤ c by omega)
              omega
          · rename_i e0 e1
            cases hx2
            have hrun : (Instr.sliceAt t (.slice (some ⟨g, off, none⟩) len c) lo' hi' none).run P w = .ok (.slice (some (if c = l.toNat then ⟨g, off, none⟩ else ⟨g, off + l.toNat * sz, none⟩)) 0 (c - l.toNat)) w := by
              simp only [Instr.sliceAt, Sem.run_bind, run_underlying hu, Result.andThen_ok, Instr.slice, hb, run_sizeOf hs, Sem.run_pure]
              have e2 : h.toNat - l.toNat = 0 := by omega
              rw [e2, Int.toNat_natCast]
              by_cases e3 : c = l.toNat
              · rw [if_pos e3, if_pos e3]
              · rw [if_neg e3, if_neg e3]; simp only [Option.map_some, addr_add]
            refine ⟨_, hrun, ?_⟩
            have hl0 := fun (b : Nat) => VR.lst (E := E) (w := w) (c := .unk) (rows := []) (g := g) (b := b) (cap := c - l.toNat) (sz := sz) (by simp) (by omega) k4 (by simp) (Row.nil _ _) trivial
            by_cases e3 : c = l.toNat
            · have := hl0 off
              simpa [e3] using this
            · have := hl0 (off + l.toNat * sz)
              simpa [e3] using this
      · cases hx2
    · cases hx2
  · -- nil
    rename_i e hu
    obtain ⟨l, hl, hx1⟩ := Option.bind_eq_some_iff.1 hx; clear hx
    obtain ⟨h, hh, hx2⟩ := Option.bind_eq_some_iff.1 hx1; clear hx1
    split at hx2
    · rename_i hc
      cases hx2
      obtain ⟨hn, e0, e1, hrow⟩ := hc
      obtain ⟨p, hp⟩ := Option.isSome_iff_exists.1 hrow
      obtain ⟨hu2, hs2, _⟩ := isRow_some hp
      subst e0; subst e1
      have hm : mx = none := by simpa using hn
      have hm' := hmx0 hm
      subst hm; subst hm'
      obtain ⟨_, rfl⟩ := ha.flat_inv
      have hb := bounds_run (P := P) (b := true) (len := 0) (cap := 0) hlo hhi hmx hl hh (show bnd 0 none = some ((0 : Nat) : Int) from rfl) (Int.le_refl _) (Int.le_refl _) (by simp) (by simp) (by simp)
      refine ⟨.slice none 0 0, ?_, VR.of_flat rfl⟩
      rw [hu] at hu2
      cases hu2
      simp [Instr.sliceAt, run_underlying hu, Instr.slice, hb, run_sizeOf hs2]
    · cases hx2
  · cases hx

theorem key_some {d : TypeDesc} {k : AV} (h : isKeyB d k = true) : ∃ a, k = .v a ∧ IsKey d a := by
  cases k with
  | v a => cases d <;> cases a <;> simp_all [isKeyB, IsKey]
  | _ => cases d <;> simp [isKeyB] at h

theorem find_sound {d : TypeDesc} {k : AV} {k' : Value} (hk : VR E w k k') : ∀ (es : List AEnt) (cs : List MapEntry) (i : Nat) (r : Option (Nat × AV)), es.length = cs.length → (∀ (i : Nat) e c, es[i]? = some e → cs[i]? = some c → VR E w e.key c.key ∧ VR E w e.val c.val ∧ e.born = c.born) →
    afind d k es i = some r → ∃ r', Instr.findNow d k' cs i = some r' ∧ (match r, r' with | none, none => True | some (n, x), some (n', y) => n = n' ∧ VR E w x y ∧ i ≤ n ∧ (∃ e c, es[n - i]? = some e ∧ cs[n - i]? = some c ∧ Instr.sameNow d k' c.key = some true) | _, _ => False)
  | [], [], i, r, _, _, h => by simp [afind] at h; subst h; exact ⟨none, rfl, trivial⟩
  | [], _ :: _, _, _, hl, _, _ => by simp at hl
  | _ :: _, [], _, _, hl, _, _ => by simp at hl
  | e :: es, c :: cs, i, r, hl, hp, h => by
    have h0 := hp 0 e c rfl rfl
    cases hke : keyEq d k e.key with
    | none => simp [afind, hke] at h
    | some b =>
      have hsn : Instr.sameNow d k' c.key = some b := by
        unfold keyEq at hke
        split at hke
        · rename_i a b' he
          obtain ⟨_, rfl⟩ := hk.flat_inv
          have := h0.1
          rw [he] at this
          obtain ⟨_, e2⟩ := this.flat_inv
          rw [e2]; exact hke
        · cases hke
      cases b with
      | true =>
        simp only [afind, hke] at h
        cases h
        exact ⟨some (i, c.val), by simp [Instr.findNow, hsn], rfl, h0.2.1, Nat.le_refl _, e, c, by simp, by simp, hsn⟩
      | false =>
        simp only [afind, hke] at h
        obtain ⟨r', h1, h2⟩ := find_sound hk es cs (i + 1) r (by simpa using hl) (fun j e c he hc => hp (j + 1) e c (by simpa using he) (by simpa using hc)) h
        refine ⟨r', by simp [Instr.findNow, hsn, h1], ?_⟩
        cases r with
        | none => cases r' <;> exact h2
        | some p =>
          cases r' with
          | none => exact h2
          | some q =>
            obtain ⟨n, x⟩ := p; obtain ⟨n', y⟩ := q
            obtain ⟨q1, q2, q3, e', c', q4, q5, q6⟩ := h2
            refine ⟨q1, q2, by omega, e', c', ?_, ?_, q6⟩
            · rw [show n - i = (n - (i + 1)) + 1 by omega]; simpa using q4
            · rw [show n - i = (n - (i + 1)) + 1 by omega]; simpa using q5

theorem azeroV_some {t : TypeId} {x : AV} (h : azeroV P t = some x) : ∃ z, (zeroValue t).run P w = .ok z w ∧ VR E w x z := by
  unfold azeroV at h
  obtain ⟨i, hi, h1⟩ := Option.bind_eq_some_iff.1 h
  obtain ⟨z, hz, h2⟩ := Option.bind_eq_some_iff.1 h1
  refine ⟨z, run_zero hi hz, ?_⟩
  split at h2
  · rename_i cs
    split at h2
    · rename_i hf
      cases h2
      have := VR.agg (flats_pair (E := E) (w := w) cs.toList hf)
      simpa using this
    · cases h2
  · split at h2
    · rename_i hf; cases h2; exact VR.of_flat hf
    · cases h2

theorem Pair.two {x y : AV} {a b : Value} (h : VR E w x a) (k : VR E w y b) : Pair (VR E w) [x, y] [a, b] := ⟨rfl, fun i p q hp hq => by
  match i with
  | 0 => simp at hp hq; subst hp; subst hq; exact h
  | 1 => simp at hp hq; subst hp; subst hq; exact k
  | i + 2 => simp at hp⟩

theorem flatsV_eq : ∀ {l : List AV} {vs ys : List Value}, flatsV l = some vs → Pair (VR E w) l ys → ys = vs
  | [], vs, ys, h, hp => by
    simp only [flatsV] at h
    cases h
    exact List.length_eq_zero_iff.1 hp.1.symm
  | .v x :: l, vs, [], h, hp => by simp [Pair] at hp
  | .v x :: l, vs, y :: ys, h, hp => by
    simp only [flatsV] at h
    obtain ⟨r, hr, rfl⟩ := Option.map_eq_some_iff.1 h
    have h0 : y = x := (hp.2 0 (.v x) y rfl rfl).flat_inv.2
    have h3 : ys = r := flatsV_eq hr (show Pair (VR E w) l ys from ⟨by simpa using hp.1, fun i a b ha hb => hp.2 (i + 1) a b (by simpa using ha) (by simpa using hb)⟩)
    rw [h0, h3]
  | .junk :: _, _, _, h, _ | .ptr _ _ :: _, _, _, h, _ | .eptr _ _ :: _, _, _, h, _ | .lst _ _ :: _, _, _, h, _ | .slc _ _ _ _ _ :: _, _, _, h, _ | .mp _ :: _, _, _, h, _ | .yld _ :: _, _, _, h, _
  | .fn _ _ _ :: _, _, _, h, _ | .ifc _ _ :: _, _, _, h, _ | .agg _ :: _, _, _, h, _ | .tup _ :: _, _, _, h, _ => by simp [flatsV] at h

theorem keyV_some {k : AV} {kv k' : Value} (h : keyV k = some kv) (hk : VR E w k k') : k' = kv ∧ ∃ a, kv = .agg a := by
  cases k with
  | agg l =>
    obtain ⟨vs, hvs, rfl⟩ := Option.map_eq_some_iff.1 h
    obtain ⟨ys, rfl, hp⟩ := hk.agg_inv
    rw [flatsV_eq hvs hp]
    exact ⟨rfl, _, rfl⟩
  | _ => simp [keyV] at h

theorem findG_sound {kt : TypeId} {k : Value} : ∀ (es : List AEnt) (cs : List MapEntry) (i : Nat) (r : Option (Nat × AV)), es.length = cs.length → (∀ (i : Nat) e c, es[i]? = some e → cs[i]? = some c → VR E w e.key c.key ∧ VR E w e.val c.val ∧ e.born = c.born) →
    afindG P kt k es i = some r → ∃ r', (Instr.findAsking kt k cs i).run P w = .ok r' w ∧ (match r, r' with | none, none => True | some (n, x), some (n', y) => n = n' ∧ VR E w x y | _, _ => False)
  | [], [], i, r, _, _, h => by simp [afindG] at h; subst h; exact ⟨none, by simp [Instr.findAsking], trivial⟩
  | [], _ :: _, _, _, hl, _, _ => by simp at hl
  | _ :: _, [], _, _, hl, _, _ => by simp at hl
  | e :: es, c :: cs, i, r, hl, hp, h => by
    simp only [afindG] at h
    obtain ⟨kv, hkv, h1⟩ := Option.bind_eq_some_iff.1 h; clear h
    obtain ⟨b, hb, h2⟩ := Option.bind_eq_some_iff.1 h1; clear h1
    obtain ⟨hk, hv, _⟩ := hp 0 e c rfl rfl
    obtain ⟨hkc, _⟩ := keyV_some hkv hk
    have hrun : (Op.equal kt k c.key).run P w = .ok b w := by rw [hkc]; exact peval_sound _ hb
    cases b with
    | true =>
      simp only [if_true, Option.some.injEq] at h2
      subst h2
      exact ⟨some (i, c.val), by simp [Instr.findAsking, hrun], rfl, hv⟩
    | false =>
      simp only [Bool.false_eq_true, if_false] at h2
      obtain ⟨r', h3, h4⟩ := findG_sound es cs (i + 1) r (by simpa using hl) (fun j e' c' he hc => hp (j + 1) e' c' (by simpa using he) (by simpa using hc)) h2
      exact ⟨r', by simp [Instr.findAsking, hrun, h3], h4⟩

theorem run_findKey_agg {kt : TypeId} {d : TypeDesc} (hd : P.underlying kt = some d) (a : Array Value) (cs : List MapEntry) : (Instr.findKey kt (.agg a) cs).run P w = (Instr.findAsking kt (.agg a) cs 0).run P w := by
  cases cs with
  | nil => simp [Instr.findKey, run_underlying hd, Instr.findNow, Instr.findAsking]
  | cons c cs =>
    have : Instr.findNow d (.agg a) (c :: cs) 0 = none := by
      unfold Instr.findNow
      have : Instr.sameNow d (.agg a) c.key = none := by cases d <;> rfl
      rw [this]
    simp [Instr.findKey, run_underlying hd, this]

theorem lookup_sound (h : SR B0 w0 E S w) {t : TypeId} {m k x : AV} {m' k' : Value} {ok : Bool} (hm : VR E w m m') (hk : VR E w k k') (hx : alookup P S t m k ok = some x) : ∃ y, (Instr.lookup t m' k' ok).run P w = .ok y w ∧ VR E w x y := by
  unfold alookup at hx
  split at hx
  · rename_i kt e hu
    obtain ⟨d, hd, hx1⟩ := Option.bind_eq_some_iff.1 hx; clear hx
    split at hx1
    · rename_i hkb
      obtain ⟨a, rfl, hik⟩ := key_some hkb
      obtain ⟨es, hes, hx2⟩ := Option.bind_eq_some_iff.1 hx1; clear hx1
      obtain ⟨r, hr, hx3⟩ := Option.bind_eq_some_iff.1 hx2; clear hx2
      obtain ⟨_, rfl⟩ := hk.flat_inv
      -- the entries
      obtain ⟨ces, clock, hget, hlen, hrel⟩ : ∃ (ces : Array MapEntry) (clock : Nat), (m' = .map none ∧ ces = #[] ∨ ∃ g, m' = .map (some g) ∧ w.heap[g]? = some (.map ces clock)) ∧ es.length = ces.toList.length ∧ (∀ (i : Nat) e c, es[i]? = some e → ces.toList[i]? = some c → VR E w e.key c.key ∧ VR E w e.val c.val ∧ e.born = c.born) := by
        split at hes
        · cases hes
          obtain ⟨_, rfl⟩ := hm.flat_inv
          exact ⟨#[], 0, .inl ⟨rfl, rfl⟩, rfl, by simp⟩
        · rename_i o
          obtain ⟨p, hp, rfl⟩ := Option.map_eq_some_iff.1 hes
          obtain ⟨g, hj, rfl⟩ := hm.mp_inv
          obtain ⟨ces, hg, hl, hrel⟩ := h.obj o _ g (mapAt_some hp) hj
          exact ⟨ces, p.2, .inr ⟨g, rfl, hg⟩, by simpa using hl, fun i e c he hc => hrel i e c he (by simpa using hc)⟩
        · cases hes
      obtain ⟨r', hf, hrr⟩ := find_sound hk es ces.toList 0 r hlen hrel hr
      have hck := fun b => run_checkKey (w := w) hd hik b 9999
      have hfk := run_findKey (w := w) hd hf
      split at hx3
      · rename_i n v
        cases hx3
        cases r' with
        | none => exact hrr.elim
        | some q =>
          obtain ⟨n', y⟩ := q
          obtain ⟨_, hv, _⟩ := hrr
          refine ⟨if ok then .tuple #[y, .bool true] else y, ?_, ?_⟩
          · rcases hget with ⟨rfl, rfl⟩ | ⟨g, rfl, hg⟩
            · simp [Instr.lookup, run_underlying hu, hck, hfk]
            · simp [Instr.lookup, run_underlying hu, hck, hfk, MapKept.run_getObj_map hg]
          cases ok
          · exact hv
          · exact VR.tup (Pair.two hv (VR.of_flat rfl))
      · obtain ⟨z, hz, hx4⟩ := Option.bind_eq_some_iff.1 hx3; clear hx3
        cases hx4
        cases r' with
        | some q => exact hrr.elim
        | none =>
          obtain ⟨zv, hzr, hzv⟩ := azeroV_some (E := E) (w := w) hz
          refine ⟨if ok then .tuple #[zv, .bool false] else zv, ?_, ?_⟩
          · rcases hget with ⟨rfl, rfl⟩ | ⟨g, rfl, hg⟩
            · simp [Instr.lookup, run_underlying hu, hck, hfk, hzr]
            · simp [Instr.lookup, run_underlying hu, hck, hfk, MapKept.run_getObj_map hg, hzr]
          cases ok
          · exact hzv
          · exact VR.tup (Pair.two hzv (VR.of_flat rfl))
    · obtain ⟨es, hes, hx2⟩ := Option.bind_eq_some_iff.1 hx1; clear hx1
      obtain ⟨kv, hkv, hx3⟩ := Option.bind_eq_some_iff.1 hx2; clear hx2
      obtain ⟨_, hck, hx4⟩ := Option.bind_eq_some_iff.1 hx3; clear hx3
      obtain ⟨r, hr, hx5⟩ := Option.bind_eq_some_iff.1 hx4; clear hx4
      obtain ⟨rfl, a, rfl⟩ := keyV_some hkv hk
      obtain ⟨ces, clock, hget, hlen, hrel⟩ : ∃ (ces : Array MapEntry) (clock : Nat), (m' = .map none ∧ ces = #[] ∨ ∃ g, m' = .map (some g) ∧ w.heap[g]? = some (.map ces clock)) ∧ es.length = ces.toList.length ∧ (∀ (i : Nat) e c, es[i]? = some e → ces.toList[i]? = some c → VR E w e.key c.key ∧ VR E w e.val c.val ∧ e.born = c.born) := by
        unfold aentries at hes
        split at hes
        · cases hes
          obtain ⟨_, rfl⟩ := hm.flat_inv
          exact ⟨#[], 0, .inl ⟨rfl, rfl⟩, rfl, by simp⟩
        · rename_i o
          obtain ⟨p, hp, rfl⟩ := Option.map_eq_some_iff.1 hes
          obtain ⟨g, hj, rfl⟩ := hm.mp_inv
          obtain ⟨ces, hg, hl, hrel⟩ := h.obj o _ g (mapAt_some hp) hj
          exact ⟨ces, p.2, .inr ⟨g, rfl, hg⟩, by simpa using hl, fun i e c he hc => hrel i e c he (by simpa using hc)⟩
        · cases hes
      obtain ⟨r', hf, hrr⟩ := findG_sound (P := P) (kt := kt) (k := .agg a) es ces.toList 0 r hlen hrel hr
      have hck' : (Instr.checkKey ces.isEmpty 10000 kt (.agg a)).run P w = .ok () w := by
        have : ces.isEmpty = es.isEmpty := by
          have hsz : ces.size = es.length := by simpa using hlen.symm
          rw [Array.isEmpty, hsz]
          cases es <;> simp
        rw [this]; exact peval_sound _ hck
      have hfk := (run_findKey_agg (P := P) (w := w) hd a ces.toList).trans hf
      split at hx5
      · rename_i n v
        cases hx5
        cases r' with
        | none => exact hrr.elim
        | some q =>
          obtain ⟨n', y⟩ := q
          obtain ⟨_, hv⟩ := hrr
          refine ⟨if ok then .tuple #[y, .bool true] else y, ?_, ?_⟩
          · rcases hget with ⟨rfl, rfl⟩ | ⟨g, rfl, hg⟩
            · simp [Instr.findAsking] at hf
            · simp [Instr.lookup, run_underlying hu, hfk, MapKept.run_getObj_map hg, hck']
          cases ok
          · exact hv
          · exact VR.tup (Pair.two hv (VR.of_flat rfl))
      · obtain ⟨z, hz, hx6⟩ := Option.bind_eq_some_iff.1 hx5; clear hx5
        cases hx6
        cases r' with
        | some q => exact hrr.elim
        | none =>
          obtain ⟨zv, hzr, hzv⟩ := azeroV_some (E := E) (w := w) hz
          refine ⟨if ok then .tuple #[zv, .bool false] else zv, ?_, ?_⟩
          · rcases hget with ⟨rfl, rfl⟩ | ⟨g, rfl, hg⟩
            · simp at hck' hfk; simp [Instr.lookup, run_underlying hu, hck', hfk, hzr]
            · simp [Instr.lookup, run_underlying hu, hck', hfk, MapKept.run_getObj_map hg, hzr]
          cases ok
          · exact hzv
          · exact VR.tup (Pair.two hzv (VR.of_flat rfl))
  · cases hx

end Go.AM
