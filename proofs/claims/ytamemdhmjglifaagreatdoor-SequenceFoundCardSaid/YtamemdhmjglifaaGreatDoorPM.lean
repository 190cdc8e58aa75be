/- Chapter 12: what SequenceFound says, in plain lists. -/
import Derived.Test.YtamemdhmjglifaaGreatDoorPL
import Derived.Test.YtamemdhmjglifaaGreatDoorPK
namespace Go.Proofs.YtamemdhmjglifaaGreatDoor
open Go.RowKit Go.AM
set_option linter.unusedVariables false

theorem same_comm (x y : Fm) : same x y = same y x := by
  by_cases h : x = y
  · rw [sameT h, sameT h.symm]
  · rw [sameF h, sameF (Ne.symm h)]
theorem same_eq {x y : Fm} (h : same x y = true) : x = y := by
  by_cases h' : x = y
  · exact h'
  · rw [sameF h'] at h; cases h
theorem same_refl (x : Fm) : same x x = true := sameT rfl

theorem ix_inj {fe : Bool} {m a b : Nat} (ha : a < m) (hb : b < m) (h : ix fe m a = ix fe m b) : a = b := by cases fe <;> simp [ix] at h <;> omega

/-! what is taken -/
theorem tk_mem {fe : Bool} {x : Fm} {xs : List Fm} : ∀ (d : Nat), d ≤ xs.length → ∀ i, i ∈ tkL fe x xs d → ∃ j, xs.length - d ≤ j ∧ j < xs.length ∧ i = ix fe xs.length j ∧ hit x xs i = true
  | 0, _, i, h => by cases h
  | d + 1, hd, i, h => by
    rw [tk_step (j := xs.length - (d + 1)) (by omega)] at h
    cases hh : hit x xs (ix fe xs.length (xs.length - (d + 1))) with
    | true =>
      rw [hh] at h
      rcases List.mem_cons.1 h with rfl | h
      · exact ⟨xs.length - (d + 1), by omega, by omega, rfl, hh⟩
      · obtain ⟨j, h1, h2, h3, h4⟩ := tk_mem d (by omega) i h
        exact ⟨j, by omega, h2, h3, h4⟩
    | false =>
      rw [hh] at h
      obtain ⟨j, h1, h2, h3, h4⟩ := tk_mem d (by omega) i h
      exact ⟨j, by omega, h2, h3, h4⟩
theorem tk_nodup {fe : Bool} {x : Fm} {xs : List Fm} : ∀ (d : Nat), d ≤ xs.length → (tkL fe x xs d).Nodup
  | 0, _ => List.nodup_nil
  | d + 1, hd => by
    rw [tk_step (j := xs.length - (d + 1)) (by omega)]
    cases hh : hit x xs (ix fe xs.length (xs.length - (d + 1))) with
    | true =>
      refine List.nodup_cons.2 ⟨fun h => ?_, tk_nodup d (by omega)⟩
      obtain ⟨j, h1, h2, h3, _⟩ := tk_mem d (by omega) _ h
      have := ix_inj (by omega) h2 h3
      omega
    | false => exact tk_nodup d (by omega)
theorem tk_lt {fe : Bool} {x : Fm} {xs : List Fm} {i : Nat} (h : i ∈ tkL fe x xs xs.length) : i < xs.length := by
  obtain ⟨j, _, h2, rfl, _⟩ := tk_mem _ (Nat.le_refl _) i h
  exact ix_lt h2
theorem tk_head {fe : Bool} {x : Fm} {xs : List Fm} : ∀ (d : Nat), d ≤ xs.length → ∀ i T, tkL fe x xs d = i :: T → ∃ j, xs.length - d ≤ j ∧ j < xs.length ∧ i = ix fe xs.length j ∧ hit x xs i = true ∧ ∀ a, xs.length - d ≤ a → a < j → hit x xs (ix fe xs.length a) = false
  | 0, _, i, T, h => by cases h
  | d + 1, hd, i, T, h => by
    rw [tk_step (j := xs.length - (d + 1)) (by omega)] at h
    cases hh : hit x xs (ix fe xs.length (xs.length - (d + 1))) with
    | true =>
      rw [hh] at h
      obtain ⟨rfl, _⟩ := List.cons.inj h
      exact ⟨xs.length - (d + 1), by omega, by omega, rfl, hh, fun a h1 h2 => by omega⟩
    | false =>
      rw [hh] at h
      obtain ⟨j, h1, h2, h3, h4, h5⟩ := tk_head d (by omega) i T h
      refine ⟨j, by omega, h2, h3, h4, fun a ha1 ha2 => ?_⟩
      by_cases e : a = xs.length - (d + 1)
      · rw [e]; exact hh
      · exact h5 a (by omega) ha2

def ahead (fe : Bool) (xs : List Fm) (i : Nat) : List Fm := bif fe then xs.drop (i + 1) else xs.take i
theorem ahead_none {fe : Bool} {x : Fm} {xs : List Fm} {i : Nat} {T : List Nat} (h : tkL fe x xs xs.length = i :: T) : xs[i]? = some x ∧ (ahead fe xs i).any (fun z => same z x) = false := by
  obtain ⟨j, _, h2, rfl, h4, h5⟩ := tk_head _ (Nat.le_refl _) i T h
  have hi := ix_lt (fe := fe) h2
  have hx : xs[ix fe xs.length j]? = some xs[ix fe xs.length j] := List.getElem?_eq_getElem hi
  constructor
  · rw [hit_at hx] at h4
    rw [hx, same_eq h4]
  · rw [List.any_eq_false]
    intro z hz
    have key : ∃ a, a < j ∧ xs[ix fe xs.length a]? = some z := by
      cases fe with
      | true =>
        obtain ⟨b, hb⟩ := List.getElem?_of_mem (show z ∈ xs.drop (xs.length - 1 - j + 1) from hz)
        rw [List.getElem?_drop] at hb
        have hlt := (List.getElem?_eq_some_iff.1 hb).1
        refine ⟨xs.length - 1 - (xs.length - 1 - j + 1 + b), by omega, ?_⟩
        show xs[xs.length - 1 - (xs.length - 1 - (xs.length - 1 - j + 1 + b))]? = some z
        rw [show xs.length - 1 - (xs.length - 1 - (xs.length - 1 - j + 1 + b)) = xs.length - 1 - j + 1 + b by omega]
        exact hb
      | false =>
        obtain ⟨b, hb⟩ := List.getElem?_of_mem (show z ∈ xs.take j from hz)
        rw [List.getElem?_take] at hb
        split at hb
        · rename_i hbj; exact ⟨b, hbj, hb⟩
        · cases hb
    obtain ⟨a, ha, hz'⟩ := key
    have := h5 a (by omega) ha
    rw [hit_at hz', same_comm] at this
    simp [this]

/-! which are chosen -/
theorem count_set : ∀ (bs : List Bool) (i : Nat), bs[i]? = some false → (bs.set i true).count true = bs.count true + 1
  | [], i, h => by cases h
  | b :: bs, 0, h => by simp at h; subst h; simp
  | b :: bs, i + 1, h => by
    have := count_set bs i (by simpa using h)
    cases b <;> simp [this]
theorem chF_count (c : Int) : ∀ (T : List Nat) (k : Nat) (bs : List Bool), T.Nodup → (∀ i, i ∈ T → bs[i]? = some false) → (c = -1 ∨ (k : Int) ≤ c) →
    (chF c T k bs).1.count true = bs.count true + (if c = -1 then T.length else min T.length (c.toNat - k))
  | [], k, bs, _, _, _ => by simp [chF]
  | i :: T, k, bs, hn, hf, hc => by
    simp only [chF]
    cases hq : ((k : Int) == c) with
    | true =>
      have : (k : Int) = c := by simpa using hq
      simp only [cond_true]
      rw [if_neg (by omega)]
      omega
    | false =>
      have hne : ¬ (k : Int) = c := by simpa using hq
      simp only [cond_false]
      have hn' := List.nodup_cons.1 hn
      rw [chF_count c T (k + 1) (bs.set i true) hn'.2 (fun a ha => by
        have : i ≠ a := fun e => hn'.1 (e ▸ ha)
        rw [List.getElem?_set_ne this]
        exact hf a (List.mem_cons_of_mem _ ha)) (by omega), count_set bs i (hf i (List.mem_cons_self ..))]
      simp only [List.length_cons]
      split <;> omega
theorem choB_count (xs : List Fm) (x : Fm) (c : Int) (fe : Bool) (hc : -1 ≤ c) : (choB xs x c fe).count true = if c = -1 then (tkL fe x xs xs.length).length else min (tkL fe x xs xs.length).length c.toNat := by
  unfold choB
  rw [chF_count c _ 0 _ (tk_nodup _ (Nat.le_refl _)) (fun i hi => by rw [List.getElem?_replicate, if_pos (tk_lt hi)]) (by omega)]
  simp [List.count_replicate]

theorem kept_len (bs : List Bool) : ∀ (xs : List Fm) (j : Nat), j + xs.length = bs.length → (keptL (outB bs) xs j).length + (bs.drop j).count true = xs.length
  | [], j, h => by simp at h; simp [keptL, h]
  | x :: xs, j, h => by
    have hj : j < bs.length := by simp at h; omega
    have ih := kept_len bs xs (j + 1) (by simp at h; omega)
    rw [List.drop_eq_getElem_cons hj]
    simp only [keptL, outB, List.getElem?_eq_getElem hj, Option.getD_some]
    cases hb : bs[j] with
    | true => simp; omega
    | false => simp; omega
theorem rem_len (xs : List Fm) (x : Fm) (c : Int) (fe : Bool) (hc : -1 ≤ c) : (remL xs x c fe).length + (if c = -1 then (tkL fe x xs xs.length).length else min (tkL fe x xs xs.length).length c.toNat) = xs.length := by
  have := kept_len (choB xs x c fe) xs 0 (by rw [choB_len]; simp)
  rw [List.drop_zero, choB_count xs x c fe hc] at this
  exact this

theorem del_sub (bs : List Bool) : ∀ (xs : List Fm) (j : Nat), j + xs.length = bs.length → (∀ z, z ∈ xs → isMark z = false) → delL (subL mkF (bs.drop j) xs) = keptL (outB bs) xs j
  | [], j, h, _ => by simp [subL, delL, keptL]
  | x :: xs, j, h, hm => by
    have hj : j < bs.length := by simp at h; omega
    have ih := del_sub bs xs (j + 1) (by simp at h; omega) (fun z hz => hm z (List.mem_cons_of_mem _ hz))
    have hx := hm x (List.mem_cons_self ..)
    rw [List.drop_eq_getElem_cons hj]
    simp only [keptL, outB, List.getElem?_eq_getElem hj, Option.getD_some]
    cases hb : bs[j] with
    | true =>
      simp only [Bool.not_true, cond_false]
      rw [← ih]
      show (List.filter _ (mkF :: subL mkF (bs.drop (j + 1)) xs)) = _
      rw [List.filter_cons_of_neg (by decide)]
      rfl
    | false =>
      simp only [Bool.not_false, cond_true]
      rw [← ih]
      show (List.filter _ (x :: subL mkF (bs.drop (j + 1)) xs)) = _
      rw [List.filter_cons_of_pos (by simp [hx])]
      rfl

/-! each once -/
theorem kept_mem (keep : Nat → Fm → Bool) : ∀ (xs : List Fm) (j : Nat) (z : Fm), z ∈ keptL keep xs j ↔ ∃ b, xs[b]? = some z ∧ keep (j + b) z = true
  | [], j, z => by simp [keptL]
  | x :: xs, j, z => by
    have ih := kept_mem keep xs (j + 1) z
    simp only [keptL]
    constructor
    · intro h
      cases hk : keep j x with
      | true =>
        rw [hk] at h
        rcases List.mem_cons.1 h with rfl | h
        · exact ⟨0, rfl, hk⟩
        · obtain ⟨b, h1, h2⟩ := ih.1 h
          exact ⟨b + 1, by simpa using h1, by rw [show j + (b + 1) = j + 1 + b by omega]; exact h2⟩
      | false =>
        rw [hk] at h
        obtain ⟨b, h1, h2⟩ := ih.1 h
        exact ⟨b + 1, by simpa using h1, by rw [show j + (b + 1) = j + 1 + b by omega]; exact h2⟩
    · rintro ⟨b, h1, h2⟩
      cases b with
      | zero =>
        simp at h1
        subst h1
        rw [Nat.add_zero] at h2
        rw [h2]
        exact List.mem_cons_self ..
      | succ b =>
        have h := ih.2 ⟨b, by simpa using h1, by rw [show j + 1 + b = j + (b + 1) by omega]; exact h2⟩
        cases keep j x with
        | true => exact List.mem_cons_of_mem _ h
        | false => exact h
theorem kept_nodup (keep : Nat → Fm → Bool) : ∀ (xs : List Fm) (j : Nat), (∀ a b z, a < b → xs[a]? = some z → xs[b]? = some z → keep (j + a) z = true → keep (j + b) z = true → False) → (keptL keep xs j).Nodup
  | [], j, _ => List.nodup_nil
  | x :: xs, j, h => by
    have ih := kept_nodup keep xs (j + 1) fun a b z hab h1 h2 h3 h4 => h (a + 1) (b + 1) z (by omega) (by simpa using h1) (by simpa using h2) (by rw [show j + (a + 1) = j + 1 + a by omega]; exact h3) (by rw [show j + (b + 1) = j + 1 + b by omega]; exact h4)
    simp only [keptL]
    cases hk : keep j x with
    | true =>
      refine List.nodup_cons.2 ⟨fun hm => ?_, ih⟩
      obtain ⟨b, h1, h2⟩ := (kept_mem keep xs (j + 1) x).1 hm
      exact h 0 (b + 1) x (by omega) rfl (by simpa using h1) hk (by rw [show j + (b + 1) = j + 1 + b by omega]; exact h2)
    | false => exact ih

theorem fresh_iff {fe : Bool} {xs : List Fm} {j : Nat} {x : Fm} : freshB fe xs j x = true ↔ ∀ z, z ∈ others fe xs j → z ≠ x := by
  unfold freshB
  rw [Bool.not_eq_true', List.any_eq_false]
  constructor
  · intro h z hz e
    exact h z hz (sameT e.symm)
  · intro h z hz hs
    exact h z hz (same_eq hs).symm
theorem dis_nodup (fe : Bool) (xs : List Fm) : (disL fe xs).Nodup := by
  refine kept_nodup _ xs 0 fun a b z hab h1 h2 h3 h4 => ?_
  rw [Nat.zero_add] at h3 h4
  cases fe with
  | true =>
    refine fresh_iff.1 h4 z ?_ rfl
    show z ∈ xs.take b
    exact List.mem_of_getElem? (i := a) (by rw [List.getElem?_take, if_pos hab]; exact h1)
  | false =>
    refine fresh_iff.1 h3 z ?_ rfl
    show z ∈ xs.drop (a + 1)
    exact List.mem_of_getElem? (i := b - (a + 1)) (by rw [List.getElem?_drop, show a + 1 + (b - (a + 1)) = b by omega]; exact h2)
theorem dis_mem (fe : Bool) (xs : List Fm) (z : Fm) (hz : z ∈ xs) : z ∈ disL fe xs := by
  obtain ⟨a, ha⟩ := List.getElem?_of_mem hz
  have hal := (List.getElem?_eq_some_iff.1 ha).1
  have main : ∃ b, xs[b]? = some z ∧ freshB fe xs b z = true := by
    cases fe with
    | true =>
      have : ∀ n a : Nat, a ≤ n → xs[a]? = some z → ∃ b, xs[b]? = some z ∧ freshB true xs b z = true := by
        intro n
        induction n with
        | zero =>
          intro a h0 h1
          refine ⟨a, h1, fresh_iff.2 fun w hw => ?_⟩
          obtain rfl : a = 0 := by omega
          cases hw
        | succ n ih =>
          intro a h0 h1
          by_cases hf : freshB true xs a z = true
          · exact ⟨a, h1, hf⟩
          · have : ∃ w, w ∈ xs.take a ∧ w = z := Classical.byContradiction fun hn => hf (fresh_iff.2 fun w hw e => hn ⟨w, hw, e⟩)
            obtain ⟨w, hw, rfl⟩ := this
            obtain ⟨b, hb⟩ := List.getElem?_of_mem hw
            rw [List.getElem?_take] at hb
            split at hb
            · exact ih b (by omega) hb
            · cases hb
      exact this a a (Nat.le_refl _) ha
    | false =>
      have : ∀ n a : Nat, xs.length - a ≤ n → a < xs.length → xs[a]? = some z → ∃ b, xs[b]? = some z ∧ freshB false xs b z = true := by
        intro n
        induction n with
        | zero => intro a h0 h1 _; omega
        | succ n ih =>
          intro a h0 h1 h2
          by_cases hf : freshB false xs a z = true
          · exact ⟨a, h2, hf⟩
          · have : ∃ w, w ∈ xs.drop (a + 1) ∧ w = z := Classical.byContradiction fun hn => hf (fresh_iff.2 fun w hw e => hn ⟨w, hw, e⟩)
            obtain ⟨w, hw, rfl⟩ := this
            obtain ⟨b, hb⟩ := List.getElem?_of_mem hw
            rw [List.getElem?_drop] at hb
            have := (List.getElem?_eq_some_iff.1 hb).1
            exact ih (a + 1 + b) (by omega) this hb
      exact this (xs.length - a) a (Nat.le_refl _) hal ha
  obtain ⟨b, h1, h2⟩ := main
  exact (kept_mem _ xs 0 z).2 ⟨b, h1, by rw [Nat.zero_add]; exact h2⟩
theorem dis_ahead {fe : Bool} {xs : List Fm} {j : Nat} {z : Fm} (h : (disL fe xs)[j]? = some z) : ((disL fe xs).take j).any (fun w => same w z) = false := by
  rw [List.any_eq_false]
  intro w hw hs
  have e := same_eq hs
  subst e
  obtain ⟨b, hb⟩ := List.getElem?_of_mem hw
  rw [List.getElem?_take] at hb
  split at hb
  · rename_i hbj
    obtain ⟨h1, h2⟩ := List.getElem?_eq_some_iff.1 h
    obtain ⟨h3, h4⟩ := List.getElem?_eq_some_iff.1 hb
    have hp := List.pairwise_iff_getElem.1 (dis_nodup fe xs) b j h3 h1 hbj
    exact hp (h4.trans h2.symm)
  · cases hb
theorem dis_has {fe : Bool} {xs : List Fm} {z : Fm} (h : z ∈ xs) : (disL fe xs).any (fun w => same w z) = true := by
  rw [List.any_eq_true]
  exact ⟨z, dis_mem fe xs z h, same_refl z⟩
end Go.Proofs.YtamemdhmjglifaaGreatDoor
