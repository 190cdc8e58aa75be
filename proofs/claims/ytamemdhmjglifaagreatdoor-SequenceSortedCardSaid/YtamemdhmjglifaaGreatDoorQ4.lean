/- The abstract machine, fifteenth text: what an operation leaves alone; values that speak of old objects alone. -/
import Derived.Test.YtamemdhmjglifaaGreatDoorQ3
namespace Go.AM
open Go.RowKit Go.MapKept

variable {B0 : Nat} {w0 w : World} {E : Env} {S S' : AS} {P : Program}

structure Low (S S' : AS) : Prop where
  len : S.objs.length ≤ S'.objs.length
  tlen : S.ends.length ≤ S'.ends.length
  low : S'.low ≤ S.low
  tlow : S'.tlow ≤ S.tlow
  objs : ∀ o, o < S.objs.length → o < S'.low → S'.objs[o]? = S.objs[o]?
  ends : ∀ t, t < S.ends.length → t < S'.tlow → S'.ends[t]? = S.ends[t]?

theorem Low.refl (S : AS) : Low S S := ⟨Nat.le_refl _, Nat.le_refl _, Nat.le_refl _, Nat.le_refl _, fun _ _ _ => rfl, fun _ _ _ => rfl⟩
theorem Low.trans {A B C : AS} (h : Low A B) (k : Low B C) : Low A C :=
  ⟨Nat.le_trans h.len k.len, Nat.le_trans h.tlen k.tlen, Nat.le_trans k.low h.low, Nat.le_trans k.tlow h.tlow,
   fun o ho hl => (k.objs o (Nat.lt_of_lt_of_le ho h.len) hl).trans (h.objs o ho (Nat.lt_of_lt_of_le hl k.low)),
   fun t ht hl => (k.ends t (Nat.lt_of_lt_of_le ht h.tlen) hl).trans (h.ends t ht (Nat.lt_of_lt_of_le hl k.tlow))⟩
theorem Low.push (S : AS) (o : AObj) : Low S (S.push o) :=
  ⟨by simp [AS.push], Nat.le_refl _, Nat.le_refl _, Nat.le_refl _, fun i hi _ => by simp [AS.push, List.getElem?_append_left hi], fun _ _ _ => rfl⟩
theorem Low.set (S : AS) (i : Nat) (o : AObj) : Low S (S.set i o) :=
  ⟨by simp [AS.set], Nat.le_refl _, Nat.min_le_left _ _, Nat.le_refl _, fun k _ hl => by
    have : k < i := Nat.lt_of_lt_of_le hl (Nat.min_le_right _ _)
    rw [AS.set_get, if_neg (by omega)], fun _ _ _ => rfl⟩
theorem Low.tokN (S : AS) (e : Nat) : Low S (S.tokN e) :=
  ⟨Nat.le_refl _, by simp [AS.tokN], Nat.le_refl _, Nat.le_refl _, fun _ _ _ => rfl, fun t ht _ => by simp [AS.tokN, List.getElem?_append_left ht]⟩
theorem Low.tokS (S : AS) (t e : Nat) : Low S (S.tokS t e) :=
  ⟨Nat.le_refl _, by simp [AS.tokS], Nat.le_refl _, Nat.min_le_left _ _, fun _ _ _ => rfl, fun k _ hl => by
    have : k < t := Nat.lt_of_lt_of_le hl (Nat.min_le_right _ _)
    simp only [AS.tokS, List.getElem?_set]
    rw [if_neg (by omega)]⟩

theorem aexec_low {mu : Bool} {ρ : Operand → AV} {op : Op} {x : AV} (h : aexec P mu S ρ op = some (x, S')) : Low S S' := by
  have same : ∀ {r : Option AV} {q : AV × AS}, (r.map fun x => (x, S)) = some q → Low S q.2 := by
    intro r q hq
    obtain ⟨a, ha, rfl⟩ := Option.map_eq_some_iff.1 hq
    exact Low.refl _
  have upd : ∀ {r : Option AS} {q : AV × AS}, (r.map fun S => (undefA, S)) = some q → r = some q.2 := by
    intro r q hq
    obtain ⟨a, ha, rfl⟩ := Option.map_eq_some_iff.1 hq
    exact ha
  cases op with
  | move a => simp only [aexec, Option.some.injEq, Prod.mk.injEq] at h; obtain ⟨_, rfl⟩ := h; exact Low.refl _
  | assign a => simp only [aexec, Option.some.injEq, Prod.mk.injEq] at h; obtain ⟨_, rfl⟩ := h; exact Low.refl _
  | pick c a b => simp only [aexec] at h; split at h <;> cases h; exact Low.refl _
  | alloc e => obtain ⟨z, hz, he⟩ := Option.map_eq_some_iff.1 h; cases he; exact Low.push _ _
  | box e a => simp only [aexec] at h; split at h <;> cases h; exact Low.push _ _
  | build t parts => exact same h
  | buildSlice t len parts =>
    have h' : abuildSlice P mu S t len (parts.toList.map fun p => (p.1, ρ p.2)) = some (x, S') := h
    unfold abuildSlice at h'
    obtain ⟨p, hp, h1⟩ := Option.bind_eq_some_iff.1 h'
    obtain ⟨z, hz, h2⟩ := Option.bind_eq_some_iff.1 h1
    split at h2
    · obtain ⟨cs, hcs, h3⟩ := Option.map_eq_some_iff.1 h2
      split at h3 <;> cases h3
      · exact Low.push _ _
      · exact Low.refl _
    · cases h2
  | load t a => exact same h
  | store t a v =>
    have h1 := upd h
    unfold astore at h1
    split at h1
    · obtain ⟨p, hp, h2⟩ := Option.bind_eq_some_iff.1 h1
      split at h2 <;> cases h2
      exact Low.set _ _ _
    · cases h1
  | nilCheck a => simp only [aexec] at h; split at h <;> cases h <;> exact Low.refl _
  | binOp op t a b ty' => exact same h
  | unOp op t a => exact same h
  | convert s d a => exact same h
  | makeFunc f a b => simp only [aexec, Option.some.injEq, Prod.mk.injEq] at h; obtain ⟨_, rfl⟩ := h; exact Low.refl _
  | makeMap t r =>
    cases r with
    | some r => simp [aexec] at h
    | none => simp only [aexec, Option.some.injEq, Prod.mk.injEq] at h; obtain ⟨_, rfl⟩ := h; exact Low.push _ _
  | makeSlice t l c =>
    have h' : amakeSlice P mu S t (ρ l) (ρ c) = some (x, S') := h
    unfold amakeSlice at h'
    obtain ⟨p, _, h1⟩ := Option.bind_eq_some_iff.1 h'
    obtain ⟨z, _, h2⟩ := Option.bind_eq_some_iff.1 h1
    obtain ⟨i, _, h3⟩ := Option.bind_eq_some_iff.1 h2
    obtain ⟨ln, _, h4⟩ := Option.bind_eq_some_iff.1 h3
    obtain ⟨cn, _, h5⟩ := Option.bind_eq_some_iff.1 h4
    split at h5
    · split at h5
      · cases h5; exact Low.push _ _
      · split at h5 <;> cases h5; exact Low.refl _
    · cases h5
  | slice t a lo hi mx => exact same h
  | fieldAddr s a f => exact same h
  | field t a f => exact same h
  | indexAddr t a i => exact same h
  | index t a i => exact same h
  | lookup t m k ok => exact same h
  | mapUpdate t m k v =>
    have h1 := upd h
    unfold amapUpdate at h1
    split at h1
    · obtain ⟨d, _, h2⟩ := Option.bind_eq_some_iff.1 h1
      split at h2
      · obtain ⟨p, _, h3⟩ := Option.bind_eq_some_iff.1 h2
        obtain ⟨r, _, h4⟩ := Option.bind_eq_some_iff.1 h3
        split at h4 <;> cases h4 <;> exact Low.set _ _ _
      · obtain ⟨p, _, h3⟩ := Option.bind_eq_some_iff.1 h2
        obtain ⟨kv, _, h4⟩ := Option.bind_eq_some_iff.1 h3
        obtain ⟨_, _, h5⟩ := Option.bind_eq_some_iff.1 h4
        obtain ⟨r, _, h6⟩ := Option.bind_eq_some_iff.1 h5
        split at h6
        · cases h6
        · cases h6; exact Low.set _ _ _
    · cases h1
  | insert t m k v =>
    have h1 := upd h
    unfold amapUpdate at h1
    split at h1
    · obtain ⟨d, _, h2⟩ := Option.bind_eq_some_iff.1 h1
      split at h2
      · obtain ⟨p, _, h3⟩ := Option.bind_eq_some_iff.1 h2
        obtain ⟨r, _, h4⟩ := Option.bind_eq_some_iff.1 h3
        split at h4 <;> cases h4 <;> exact Low.set _ _ _
      · obtain ⟨p, _, h3⟩ := Option.bind_eq_some_iff.1 h2
        obtain ⟨kv, _, h4⟩ := Option.bind_eq_some_iff.1 h3
        obtain ⟨_, _, h5⟩ := Option.bind_eq_some_iff.1 h4
        obtain ⟨r, _, h6⟩ := Option.bind_eq_some_iff.1 h5
        split at h6
        · cases h6
        · cases h6; exact Low.set _ _ _
    · cases h1
  | range t a =>
    simp only [aexec] at h
    unfold arange0 at h
    split at h
    · split at h
      · cases h; exact Low.push _ _
      · cases h
    · cases h
  | next it b =>
    simp only [aexec] at h
    unfold anext at h
    split at h
    · split at h
      · split at h
        · cases h; exact Low.set _ _ _
        · cases h; exact Low.refl _
      · cases h
    · cases h
  | extract t i => exact same h
  | makeInterface t a => simp only [aexec] at h; split at h <;> cases h; exact Low.refl _
  | _ => simp [aexec] at h

theorem aappend_low {mu : Bool} {t : TypeId} {s x r : AV} (h : aappend P mu S t s x = some (r, S')) : Low S S' := by
  unfold aappend at h
  obtain ⟨p, _, h1⟩ := Option.bind_eq_some_iff.1 h
  obtain ⟨z, _, h2⟩ := Option.bind_eq_some_iff.1 h1
  obtain ⟨i, _, h3⟩ := Option.bind_eq_some_iff.1 h2
  obtain ⟨rows, _, h4⟩ := Option.bind_eq_some_iff.1 h3
  clear h h1 h2 h3
  split at h4
  · cases h4
  · split at h4
    · split at h4
      · cases h4; exact Low.refl _
      · split at h4
        · split at h4 <;> cases h4
          · exact Low.push _ _
          · exact Low.tokN _ _
        · cases h4
    · split at h4
      · cases h4; exact Low.refl _
      · split at h4
        · split at h4
          · split at h4 <;> cases h4
            · exact Low.push _ _
            · exact Low.tokN _ _
          · split at h4 <;> cases h4; exact Low.tokS _ _ _
          · cases h4
          · cases h4
        · cases h4
    · split at h4
      · split at h4
        · cases h4; exact Low.refl _
        · obtain ⟨q, _, h5⟩ := Option.bind_eq_some_iff.1 h4
          split at h5
          · cases h5; exact Low.set _ _ _
          · split at h5 <;> cases h5
            exact (Low.set _ _ _).trans (Low.push _ _)
      · cases h4
    · cases h4

theorem abuiltin_low {mu : Bool} {b : Builtin} {ts : Array TypeId} {ty : TypeId} {args : List AV} {r : AV} (h : abuiltin P mu S b ts ty args = some (r, S')) : Low S S' := by
  unfold abuiltin at h
  split at h
  · obtain ⟨t, _, h1⟩ := Option.bind_eq_some_iff.1 h
    obtain ⟨v, _, he⟩ := Option.map_eq_some_iff.1 h1; cases he; exact Low.refl _
  · obtain ⟨t, _, h1⟩ := Option.bind_eq_some_iff.1 h
    split at h1
    · exact aappend_low h1
    · obtain ⟨tn, _, h1⟩ := Option.bind_eq_some_iff.1 h1
      unfold aappendN at h1
      split at h1
      · obtain ⟨p, _, h2⟩ := Option.bind_eq_some_iff.1 h1
        obtain ⟨z, _, h3⟩ := Option.bind_eq_some_iff.1 h2
        obtain ⟨i, _, h4⟩ := Option.bind_eq_some_iff.1 h3
        split at h4 <;> cases h4; exact Low.push _ _
      · cases h1
  · obtain ⟨t, _, h1⟩ := Option.bind_eq_some_iff.1 h
    split at h1
    · unfold acopy at h1
      obtain ⟨p, _, h2⟩ := Option.bind_eq_some_iff.1 h1
      obtain ⟨rows, _, h3⟩ := Option.bind_eq_some_iff.1 h2
      split at h3
      · cases h3; exact Low.refl _
      · cases h3; exact Low.refl _
      · split at h3
        · obtain ⟨q, _, h4⟩ := Option.bind_eq_some_iff.1 h3
          split at h4 <;> cases h4; exact Low.set _ _ _
        · cases h3
      · cases h3
    · cases h1
  · obtain ⟨vs, _, h1⟩ := Option.bind_eq_some_iff.1 h
    obtain ⟨v, _, he⟩ := Option.map_eq_some_iff.1 h1; cases he; exact Low.refl _
  · obtain ⟨vs, _, h1⟩ := Option.bind_eq_some_iff.1 h
    obtain ⟨v, _, he⟩ := Option.map_eq_some_iff.1 h1; cases he; exact Low.refl _
  · obtain ⟨t, _, h1⟩ := Option.bind_eq_some_iff.1 h
    obtain ⟨S1, h2, he⟩ := Option.map_eq_some_iff.1 h1
    cases he
    unfold aclear at h2
    obtain ⟨p, _, h3⟩ := Option.bind_eq_some_iff.1 h2
    obtain ⟨z, _, h4⟩ := Option.bind_eq_some_iff.1 h3
    split at h4
    · cases h4; exact Low.refl _
    · cases h4; exact Low.refl _
    · split at h4
      · obtain ⟨q, _, h5⟩ := Option.bind_eq_some_iff.1 h4
        split at h5 <;> cases h5; exact Low.set _ _ _
      · split at h4 <;> cases h4; exact Low.refl _
    · cases h4
  · obtain ⟨t, _, h1⟩ := Option.bind_eq_some_iff.1 h
    split at h1 <;> cases h1; exact Low.refl _
  · cases h

/-! ### Values that speak of objects below n alone -/
mutual
def AV.old (n : Nat) : AV → Bool
  | .junk => true
  | .v _ => true
  | .ptr o _ => decide (o < n)
  | .eptr row _ => belowAll n row
  | .lst _ rows => belowRows n rows
  | .slc o _ _ _ _ => decide (o < n)
  | .mp o => decide (o < n)
  | .yld o => decide (o < n)
  | .fn _ a b => belowAll n a && belowAll n b
  | .ifc _ x => x.old n
  | .agg l => belowAll n l
  | .tup l => belowAll n l
def belowAll (n : Nat) : List AV → Bool
  | [] => true
  | x :: l => x.old n && belowAll n l
def belowRows (n : Nat) : List (List AV) → Bool
  | [] => true
  | r :: l => belowAll n r && belowRows n l
end

mutual
/-- Lists whose open end belongs to a token from n on are lists without one. -/
def AV.shut (n : Nat) : AV → AV
  | .junk => .junk
  | .v x => .v x
  | .ptr o b => .ptr o b
  | .eptr row b => .eptr (sealAll n row) b
  | .lst c rows => .lst (match c with | .tok t e s => if t < n then .tok t e s else .unk | c => c) (sealRows n rows)
  | .slc o a b c d => .slc o a b c d
  | .mp o => .mp o
  | .yld o => .yld o
  | .fn f a b => .fn f (sealAll n a) (sealAll n b)
  | .ifc t x => .ifc t (x.shut n)
  | .agg l => .agg (sealAll n l)
  | .tup l => .tup (sealAll n l)
def sealAll (n : Nat) : List AV → List AV
  | [] => []
  | x :: l => x.shut n :: sealAll n l
def sealRows (n : Nat) : List (List AV) → List (List AV)
  | [] => []
  | r :: l => sealAll n r :: sealRows n l
end

theorem belowAll_get {n : Nat} : ∀ {l : List AV}, belowAll n l = true → ∀ (i : Nat) x, l[i]? = some x → x.old n = true
  | [], _, i, x, h => by simp at h
  | a :: l, h, 0, x, hx => by simp [belowAll] at h hx; subst hx; exact h.1
  | a :: l, h, i + 1, x, hx => by simp [belowAll] at h; exact belowAll_get h.2 i x (by simpa using hx)
theorem belowRows_flat {n : Nat} : ∀ {rows : List (List AV)}, belowRows n rows = true → belowAll n rows.flatten = true
  | [], _ => rfl
  | r :: rows, h => by
    simp [belowRows] at h
    have h2 := belowRows_flat h.2
    have app : ∀ (a b : List AV), belowAll n a = true → belowAll n b = true → belowAll n (a ++ b) = true := by
      intro a b ha hb
      induction a with
      | nil => exact hb
      | cons x a ih => simp [belowAll] at ha ⊢; exact ⟨ha.1, ih ha.2⟩
    exact app _ _ h.1 h2

theorem sealAll_len (n : Nat) : ∀ (l : List AV), (sealAll n l).length = l.length
  | [] => rfl
  | _ :: l => by simp [sealAll, sealAll_len n l]
theorem sealAll_get (n : Nat) : ∀ (l : List AV) (i : Nat), (sealAll n l)[i]? = (l[i]?).map (AV.shut n)
  | [], i => by simp [sealAll]
  | a :: l, 0 => by simp [sealAll]
  | a :: l, i + 1 => by simp [sealAll, sealAll_get n l i]
theorem sealAll_app (n : Nat) : ∀ (a b : List AV), sealAll n (a ++ b) = sealAll n a ++ sealAll n b
  | [], b => rfl
  | x :: a, b => by simp [sealAll, sealAll_app n a b]
theorem sealRows_flat (n : Nat) : ∀ (rows : List (List AV)), (sealRows n rows).flatten = sealAll n rows.flatten
  | [] => rfl
  | r :: rows => by simp [sealRows, sealAll_app, sealRows_flat n rows]
theorem sealRows_len (n : Nat) : ∀ (rows : List (List AV)), (sealRows n rows).length = rows.length
  | [] => rfl
  | _ :: l => by simp [sealRows, sealRows_len n l]
theorem sealRows_mem (n : Nat) : ∀ (rows : List (List AV)) (r : List AV), r ∈ sealRows n rows → ∃ r' ∈ rows, r.length = r'.length
  | [], r, h => by simp [sealRows] at h
  | a :: l, r, h => by
    simp only [sealRows, List.mem_cons] at h
    rcases h with rfl | h
    · exact ⟨a, by simp, sealAll_len n a⟩
    · obtain ⟨r', h1, h2⟩ := sealRows_mem n l r h
      exact ⟨r', by simp [h1], h2⟩

end Go.AM

/- The abstract machine, sixteenth text: what a call leaves behind is dropped. -/
namespace Go.AM
open Go.RowKit Go.MapKept

variable {B0 : Nat} {w0 w w1 : World} {E E1 : Env} {S S1 : AS} {P : Program}

def nenv (E E1 : Env) (n nt : Nat) : Env :=
  { E1 with j := fun o => if o < n then E1.j o else none, en := fun t => if t < nt then E1.en t else 0, tk := fun t => if t < nt then E1.tk t else E.tk t }

theorem VRd.narrow {n nt : Nat} : ∀ {d : Nat} {x : AV} {y : Value}, VRd E1 w1 d x y → x.old n = true → VRd (nenv E E1 n nt) w1 d (x.shut nt) y
  | 0, _, _, h, _ => h.elim
  | d + 1, x, y, h, ho => by
    have hrow : ∀ {l : List AV} {g b : Nat}, Row E1 w1 (VRd E1 w1 d) l g b → belowAll n l = true → Row (nenv E E1 n nt) w1 (VRd (nenv E E1 n nt) w1 d) (sealAll nt l) g b := fun hr hb m x hx => by
      rw [sealAll_get] at hx
      obtain ⟨x0, hx0, rfl⟩ := Option.map_eq_some_iff.1 hx
      obtain ⟨h1, z, h2, h3⟩ := hr m x0 hx0
      exact ⟨h1, z, h2, h3.narrow (belowAll_get hb m x0 hx0)⟩
    have hpair : ∀ {l : List AV} {ys : List Value}, Pair (VRd E1 w1 d) l ys → belowAll n l = true → Pair (VRd (nenv E E1 n nt) w1 d) (sealAll nt l) ys := fun hr hb => ⟨by rw [sealAll_len]; exact hr.1, fun i x y hx hy => by
      rw [sealAll_get] at hx
      obtain ⟨x0, hx0, rfl⟩ := Option.map_eq_some_iff.1 hx
      exact (hr.2 i x0 y hx0 hy).narrow (belowAll_get hb i x0 hx0)⟩
    have hj : ∀ {o g : Nat}, E1.j o = some g → o < n → (nenv E E1 n nt).j o = some g := fun h1 h2 => by simp [nenv, h2, h1]
    cases x with
    | junk => exact h
    | v x => exact h
    | ptr o off => simp only [AV.old, decide_eq_true_eq] at ho; obtain ⟨g, h1, h2⟩ := h; exact ⟨g, hj h1 ho, h2⟩
    | slc o sz off len cap => simp only [AV.old, decide_eq_true_eq] at ho; obtain ⟨g, c, h1, h2⟩ := h; exact ⟨g, c, hj h1 ho, h2⟩
    | mp o => simp only [AV.old, decide_eq_true_eq] at ho; obtain ⟨g, h1, h2⟩ := h; exact ⟨g, hj h1 ho, h2⟩
    | yld o => simp only [AV.old, decide_eq_true_eq] at ho; obtain ⟨g, h1, h2⟩ := h; exact ⟨g, hj h1 ho, h2⟩
    | eptr row off => simp only [AV.old] at ho; obtain ⟨g, b, hy, hr⟩ := h; exact ⟨g, b, hy, hrow hr ho⟩
    | lst c rows =>
      simp only [AV.old] at ho
      rcases h with ⟨rfl, ad, h1, hca⟩ | ⟨g, b, cap, sz, h1, h2, h3, h4, h5, h6, h7⟩
      · refine .inl ⟨rfl, ad, h1, ?_⟩
        rcases hca with rfl | ⟨rfl, ha⟩
        · exact .inl rfl
        · exact .inr ⟨rfl, ha⟩
      refine .inr ⟨g, b, cap, sz, by rw [sealRows_len]; exact h1, by rw [sealRows_len]; exact h2, h3, h4, fun r hr => by obtain ⟨r', h8, h9⟩ := sealRows_mem nt rows r hr; rw [h9]; exact h5 r' h8, by rw [sealRows_flat]; exact hrow h6 (belowRows_flat ho), ?_⟩
      rw [sealRows_len]
      cases c with
      | exact => exact h7
      | unk => trivial
      | any => trivial
      | tok t e s =>
        by_cases ht : t < nt
        · simp only [ht, if_true]
          obtain ⟨k1, k2, k3, k4⟩ := h7
          refine ⟨k1, k2, by simpa [nenv, ht] using k3, fun he => ?_⟩
          simp only [nenv, ht, if_true] at he ⊢
          exact k4 he
        · simp only [ht, if_false]
    | fn f a b => simp only [AV.old, Bool.and_eq_true] at ho; obtain ⟨fs, cs, h1, h2, h3⟩ := h; exact ⟨fs, cs, h1, hpair h2 ho.1, hpair h3 ho.2⟩
    | ifc t x => simp only [AV.old] at ho; obtain ⟨z, h1, h2⟩ := h; exact ⟨z, h1, h2.narrow ho⟩
    | agg l => simp only [AV.old] at ho; obtain ⟨ys, h1, h2⟩ := h; exact ⟨ys, h1, hpair h2 ho⟩
    | tup l => simp only [AV.old] at ho; obtain ⟨ys, h1, h2⟩ := h; exact ⟨ys, h1, hpair h2 ho⟩

theorem VR.narrow {n nt : Nat} {x : AV} {y : Value} (h : VR E1 w1 x y) (ho : x.old n = true) : VR (nenv E E1 n nt) w1 (x.shut nt) y := let ⟨d, hd⟩ := h; ⟨d, hd.narrow ho⟩

/-- What related before the call speaks of old objects alone. -/
theorem VRd.keep {n nt : Nat} (hJ : ∀ o g, E.j o = some g → o < n) (hT : ∀ t, 0 < E.en t → t < nt) : ∀ {d : Nat} {x : AV} {y0 y1 : Value}, VRd E w d x y0 → ∀ {d1 : Nat}, VRd E1 w1 d1 x y1 → VRd (nenv E E1 n nt) w1 d1 x y1
  | 0, _, _, _, h, _, _ => h.elim
  | d + 1, x, y0, y1, h, 0, h1 => h1.elim
  | d + 1, x, y0, y1, h, d1 + 1, h1 => by
    have hrow : ∀ {l : List AV} {g b g1 b1 : Nat}, Row E w (VRd E w d) l g b → Row E1 w1 (VRd E1 w1 d1) l g1 b1 → Row (nenv E E1 n nt) w1 (VRd (nenv E E1 n nt) w1 d1) l g1 b1 := fun hr hr1 m x hx => by
      obtain ⟨_, z, _, h3⟩ := hr m x hx
      obtain ⟨k1, z1, k2, k3⟩ := hr1 m x hx
      exact ⟨k1, z1, k2, VRd.keep hJ hT h3 k3⟩
    have hpair : ∀ {l : List AV} {ys ys1 : List Value}, Pair (VRd E w d) l ys → Pair (VRd E1 w1 d1) l ys1 → Pair (VRd (nenv E E1 n nt) w1 d1) l ys1 := fun {l ys ys1} hr hr1 => ⟨hr1.1, fun i x y hx hy => by
      have hlt : i < ys.length := by rw [← hr.1]; exact (List.getElem?_eq_some_iff.1 hx).1
      exact VRd.keep hJ hT (hr.2 i x ys[i] hx (by simp [hlt])) (hr1.2 i x y hx hy)⟩
    have hj : ∀ {o g g1 : Nat}, E.j o = some g → E1.j o = some g1 → (nenv E E1 n nt).j o = some g1 := fun h1 h2 => by simp [nenv, hJ _ _ h1, h2]
    cases x with
    | junk => exact h1
    | v x => exact h1
    | ptr o off => obtain ⟨g, h2, _⟩ := h; obtain ⟨g1, k1, k2⟩ := h1; exact ⟨g1, hj h2 k1, k2⟩
    | slc o sz off len cap => obtain ⟨g, c, h2, _⟩ := h; obtain ⟨g1, c1, k1, k2⟩ := h1; exact ⟨g1, c1, hj h2 k1, k2⟩
    | mp o => obtain ⟨g, h2, _⟩ := h; obtain ⟨g1, k1, k2⟩ := h1; exact ⟨g1, hj h2 k1, k2⟩
    | yld o => obtain ⟨g, h2, _⟩ := h; obtain ⟨g1, k1, k2⟩ := h1; exact ⟨g1, hj h2 k1, k2⟩
    | eptr row off => obtain ⟨g, b, _, hr⟩ := h; obtain ⟨g1, b1, k1, k2⟩ := h1; exact ⟨g1, b1, k1, hrow hr k2⟩
    | lst c rows =>
      rcases h1 with h1 | ⟨g, b, cap, sz, k1, k2, k3, k4, k5, k6, k7⟩
      · exact .inl h1
      rcases h with ⟨rfl, _, _, hca⟩ | ⟨_, _, _, _, _, _, _, _, _, hr, h7⟩
      · refine .inr ⟨g, b, cap, sz, k1, k2, k3, k4, k5, fun m x hx => by simp at hx, ?_⟩
        rcases hca with rfl | ⟨rfl, _⟩ <;> trivial
      refine .inr ⟨g, b, cap, sz, k1, k2, k3, k4, k5, hrow hr k6, ?_⟩
      cases c with
      | exact => exact k7
      | unk => trivial
      | any => trivial
      | tok t e s =>
        have ht : t < nt := hT t (by have := h7.2.1; have := h7.2.2.1; omega)
        obtain ⟨q1, q2, q3, q4⟩ := k7
        refine ⟨q1, q2, by simpa [nenv, ht] using q3, fun he => ?_⟩
        simp only [nenv, ht, if_true] at he ⊢
        exact q4 he
    | fn f a b => obtain ⟨fs, cs, _, h2, h3⟩ := h; obtain ⟨fs1, cs1, k1, k2, k3⟩ := h1; exact ⟨fs1, cs1, k1, hpair h2 k2, hpair h3 k3⟩
    | ifc t x => obtain ⟨z, _, h2⟩ := h; obtain ⟨z1, k1, k2⟩ := h1; exact ⟨z1, k1, VRd.keep hJ hT h2 k2⟩
    | agg l => obtain ⟨ys, _, h2⟩ := h; obtain ⟨ys1, k1, k2⟩ := h1; exact ⟨ys1, k1, hpair h2 k2⟩
    | tup l => obtain ⟨ys, _, h2⟩ := h; obtain ⟨ys1, k1, k2⟩ := h1; exact ⟨ys1, k1, hpair h2 k2⟩

/-- The store as it was before, in the world as it is now. -/
theorem SR.narrow (h : SR B0 w0 E S w) (h1 : SR B0 w0 E1 S1 w1) (hs : Step S.objs.length S.ends.length E w E1 w1)
    (ho : ∀ o, o < S.objs.length → S1.objs[o]? = S.objs[o]?) (ht : ∀ t, t < S.ends.length → S1.ends[t]? = S.ends[t]?) :
    SR B0 w0 (nenv E E1 S.objs.length S.ends.length) S w1 ∧ Step S.objs.length S.ends.length E w (nenv E E1 S.objs.length S.ends.length) w1 := by
  have hJ : ∀ o g, E.j o = some g → o < S.objs.length := h.jlt
  have hT : ∀ t, 0 < E.en t → t < S.ends.length := fun t h0 => by
    rcases h.en t with e | e
    · omega
    · refine Classical.byContradiction fun hn => ?_
      rw [List.getD_eq_getElem?_getD, List.getElem?_eq_none (by omega)] at e
      simp at e; omega
  have hjj : ∀ o g, (nenv E E1 S.objs.length S.ends.length).j o = some g → o < S.objs.length ∧ E1.j o = some g ∧ E.j o = some g := fun o g hj => by
    simp only [nenv] at hj
    split at hj
    · rename_i hlt
      refine ⟨hlt, hj, ?_⟩
      rcases hs.jid o (by rw [hj]; simp) with h2 | h2
      · cases hjo : E.j o with
        | none => exact absurd hjo h2
        | some g0 => rw [hs.j o g0 hjo] at hj; cases hj; rfl
      · omega
    · cases hj
  have hjl : ∀ o g, E.j o = some g → (nenv E E1 S.objs.length S.ends.length).j o = some g := fun o g hj => by simp [nenv, hJ o g hj, hs.j o g hj]
  refine ⟨{ below := h1.below, base := h1.base, obj := ?_, jlt := fun o g hj => (hjj o g hj).1, inj := ?_, jb := fun o g hj => h1.jb o g (hjj o g hj).2.1, fzc := h1.fzc, en := ?_, tok := ?_, tinj := ?_ },
    { j := hjl, fz := hs.fz, cell := hs.cell, en := ?_, tk := ?_, row := ?_, cp := hs.cp, size := hs.size, frame := hs.frame, jn := fun o g hj => hs.jn o g (hjj o g hj).2.1, tn := ?_, jid := fun o hj => ?_, tid := ?_, fn := hs.fn }⟩
  · intro o ob g hob hj
    obtain ⟨hlt, hj1, hj0⟩ := hjj o g hj
    have k0 := h.obj o ob g hob hj0
    have k1 := h1.obj o ob g (by rw [ho o hlt]; exact hob) hj1
    cases ob with
    | cells l T =>
      obtain ⟨arr0, _, _, q3, q4⟩ := k0
      obtain ⟨arr, r1, r2, r3, r4⟩ := k1
      refine ⟨arr, r1, r2, r3, fun i x y hx hy => ?_⟩
      obtain ⟨d1, hd1⟩ := r4 i x y hx hy
      have hi0 : i < arr0.size := by have := (List.getElem?_eq_some_iff.1 hx).1; omega
      obtain ⟨d0, hd0⟩ := q4 i x arr0[i] hx (by simp [hi0])
      exact ⟨d1, VRd.keep hJ hT hd0 hd1⟩
    | map es c =>
      obtain ⟨ces0, _, q2, q3⟩ := k0
      obtain ⟨ces, r1, r2, r3⟩ := k1
      refine ⟨ces, r1, r2, fun i e c' he hc => ?_⟩
      have hi0 : i < ces0.size := by have := (List.getElem?_eq_some_iff.1 he).1; omega
      obtain ⟨⟨d1, a1⟩, ⟨d2, a2⟩, a3⟩ := r3 i e c' he hc
      obtain ⟨⟨d3, b1⟩, ⟨d4, b2⟩, _⟩ := q3 i e ces0[i] he (by simp [hi0])
      exact ⟨⟨d1, VRd.keep hJ hT b1 a1⟩, ⟨d2, VRd.keep hJ hT b2 a2⟩, a3⟩
    | loop r =>
      obtain ⟨ys0, gd0, _, _, q2, q3⟩ := k0
      obtain ⟨ys, gd, fn, r1, r2, r3⟩ := k1
      refine ⟨ys, gd, fn, r1, ⟨r2.1, fun i x y hx hy => ?_⟩, ?_⟩
      · obtain ⟨d1, hd1⟩ := r2.2 i x y hx hy
        have hi0 : i < ys0.length := by rw [← q2.1]; exact (List.getElem?_eq_some_iff.1 hx).1
        obtain ⟨d0, hd0⟩ := q2.2 i x ys0[i] hx (by simp [hi0])
        exact ⟨d1, VRd.keep hJ hT hd0 hd1⟩
      · simp [nenv, hJ _ _ q3, r3]
    | dfr => exact k1
    | iter s pos => exact k1
    | dead => trivial
  · intro o o' g k1 k2 l1 l2
    obtain ⟨a1, a2, _⟩ := hjj o g k1
    obtain ⟨b1, b2, _⟩ := hjj o' g k2
    exact h1.inj o o' g a2 b2 (by unfold AS.live at *; rw [ho o a1]; exact l1) (by unfold AS.live at *; rw [ho o' b1]; exact l2)
  · intro t
    simp only [nenv]
    split
    · rename_i hlt
      rcases h1.en t with e | e
      · exact .inl e
      · right; rw [e, List.getD_eq_getElem?_getD, List.getD_eq_getElem?_getD, ht t hlt]
    · exact .inl rfl
  · intro t h0
    simp only [nenv] at h0 ⊢
    by_cases hlt : t < S.ends.length
    · simp only [hlt, if_true] at h0 ⊢
      obtain ⟨a, b, c, d⟩ := h1.tok t h0
      exact ⟨a, b, c, fun o hj => d o (hjj o _ hj).2.1⟩
    · simp [hlt] at h0
  · intro t t' h0 h0' he
    simp only [nenv] at h0 h0' he
    by_cases hlt : t < S.ends.length
    · by_cases hlt' : t' < S.ends.length
      · simp only [hlt, hlt', if_true] at h0 h0' he
        exact h1.tinj t t' h0 h0' he
      · simp [hlt'] at h0'
    · simp [hlt] at h0
  · intro t
    simp only [nenv]
    split
    · exact hs.en t
    · rename_i hlt
      rcases Nat.eq_zero_or_pos (E.en t) with e | e
      · omega
      · exact absurd (hT t e) hlt
  · intro t he
    simp only [nenv] at he ⊢
    split
    · rename_i hlt; simp only [hlt, if_true] at he; exact hs.tk t he
    · rfl
  · intro t h0 he a T f ha
    have hlt := hT t h0
    simp only [nenv, hlt, if_true] at he
    exact hs.row t h0 he a T f ha
  · intro t h0
    simp only [nenv] at h0 ⊢
    by_cases hlt : t < S.ends.length
    · simp only [hlt, if_true] at h0 ⊢; exact hs.tn t h0
    · simp [hlt] at h0
  · simp only [nenv] at hj
    split at hj
    · exact hs.jid o hj
    · exact absurd rfl hj
  · intro t h0
    simp only [nenv] at h0
    by_cases hlt : t < S.ends.length
    · simp only [hlt, if_true] at h0; exact hs.tid t h0
    · simp [hlt] at h0

end Go.AM

/- The abstract machine, seventeenth text: the evaluator. -/
namespace Go.AM
open Go.RowKit

structure AAct where
  tmps : List AV
  marks : List Nat

def aput (l : List AV) (d : Option Tmp) (x : AV) : List AV :=
  match d with
  | some d => l.set d x
  | none => l

def aeval (l : List AV) : Operand → AV
  | .tmp t => (l[t]?).getD undefA
  | .const v => if flat v then .v v else .junk
  | .global _ => .junk
  | .func f => .fn (.func f) [] []

structure Cfg where
  P : Program
  H : FuncId → Nat → Bool
  X : FuncId → Option (List AV → AS → Option (AV × AS))
  F : FuncId → Bool := fun _ => false
  D : FuncId → Nat → Option (List Nat) := fun _ _ => none
  E : FuncId → Option (List Value → Option Value) := fun _ => none

/-- Pure; leaves the store as it is; does so in greater stores too. -/
abbrev Tag := Bool × Bool × Bool × Option (Bool × Nat)

structure Lw where
  call : FuncId → List AV → AS → Option (AV × AS)
  yield : Nat → List AV → AS → Option (AV × AS)

/-- What a guard sees: 'none' where that is not known. -/
def aslot (ops : Array Oper) (l : List AV) (j : Nat) : Option (Option Bool) :=
  match ((ops[j]?).bind (·.dst)).bind (l[·]?) with
  | some (.v (.bool b)) => some (some b)
  | some (.v _) => some none
  | some _ => none
  | none => some none

def awanted (ops : Array Oper) (l : List AV) (o : Oper) : Option Bool :=
  match o.guard with
  | none => some true
  | some (j, b) => (aslot ops l j).map fun y => y == some b

def acallOp (C : Cfg) (L : Lw) (mu : Bool) (ty : TypeId) (c : Call) (ρ : Operand → AV) (S : AS) : Option (AV × AS) :=
  match c.callee with
  | .builtin b => abuiltin C.P mu S b c.argTypes ty (c.args.toList.map ρ)
  | .value f =>
    match ρ f with
    | .fn (.func g) first caps =>
      match C.E g with
      | some e => (flatsV (first ++ c.args.toList.map ρ ++ caps)).bind fun vs => (e vs).bind fun y => (ofV y).map fun x => (x, S)
      | none => L.call g (first ++ c.args.toList.map ρ ++ caps) S
    | .yld l => L.yield l (c.args.toList.map ρ) S
    | _ => none
  | .invoke _ _ => none

def adoOp (C : Cfg) (L : Lw) (mu : Bool) (o : Oper) (ρ : Operand → AV) (S : AS) : Option (AV × AS) :=
  match o.op with
  | .call c => acallOp C L mu o.type c ρ S
  | op => aexec C.P mu S ρ op

def astep (C : Cfg) (L : Lw) (mu : Bool) (ops : Array Oper) (o : Oper) (l : List AV) (S : AS) : Option (AV × AS) :=
  match awanted ops l o with
  | some true => adoOp C L mu o (aeval l) S
  | some false => some (undefA, S)
  | none => none

def aOps (C : Cfg) (L : Lw) (mu : Bool) (ops : Array Oper) : List Oper → List AV → AS → Option (List AV × AS)
  | [], l, S => some (l, S)
  | o :: rest, l, S =>
    match astep C L mu ops o l S with
    | some (x, S') => aOps C L mu ops rest (aput l o.dst x) S'
    | none => none

def amark (S : AS) : AS := { S with low := S.objs.length, tlow := S.ends.length }
def aunmark (S S' : AS) : AS := { S' with low := min S.low S'.low, tlow := min S.tlow S'.tlow }
/-- Nothing that was there has turned. -/
def akept (S S' : AS) : Bool := Nat.beq S'.low S.objs.length && Nat.beq S'.tlow S.ends.length
/-- ... and nothing has come. -/
def asame (S S' : AS) : Bool := akept S S' && Nat.beq S'.objs.length S.objs.length && Nat.beq S'.ends.length S.ends.length

/-! A region that draws its order. -/
def isPure (mu : Bool) (ρ : Operand → AV) : Op → Bool
  | .move _ | .assign _ | .pick _ _ _ | .build _ _ | .fieldAddr _ _ _ | .field _ _ _ | .indexAddr _ _ _ | .index _ _ _ | .unOp _ _ _ | .extract _ _ | .makeFunc _ _ _ | .nilCheck _ | .slice _ _ _ _ _ | .makeInterface _ _ => true
  | .binOp _ _ x y _ => match ρ x, ρ y with | .ptr _ _, .ptr _ _ => false | _, _ => true
  | .buildSlice _ _ _ => !mu
  | .convert _ _ x => match ρ x with | .slc _ _ _ _ _ => false | _ => true
  | .load _ a => match ρ a with | .eptr _ _ => true | _ => false
  | _ => false

def apu (mu : Bool) (ops : Array Oper) (o : Oper) (l : List AV) : Bool :=
  match awanted ops l o with
  | some false => true
  | _ => isPure mu (aeval l) o.op

/-- Does it read alone, and what is there already? -/
def stabOp (C : Cfg) (ρ : Operand → AV) (o : Oper) : Bool :=
  match o.op with
  | .load _ _ => true
  | .call c =>
    match c.callee with
    | .value f => (match ρ f with | .fn (.func g) _ _ => (match C.E g with | some _ => true | none => match C.X g with | none => C.F g | some _ => false) | _ => false)
    | _ => false
  | _ => false

/-- The one object that it reads (false) or writes (true). -/
def rwOf (ops : Array Oper) (l : List AV) (o : Oper) : Option (Bool × Nat) :=
  match awanted ops l o with
  | some true =>
    match o.op with
    | .load _ a => (match aeval l a with | .ptr ob _ => some (false, ob) | _ => none)
    | .store _ a _ => (match aeval l a with | .ptr ob _ => some (true, ob) | _ => none)
    | _ => none
  | _ => none

def apartRW : Option (Bool × Nat) → Option (Bool × Nat) → Bool
  | some (_, a), some (_, b) => !Nat.beq a b
  | _, _ => false

def isAlloc : Op → Bool
  | .alloc _ => true
  | _ => false

/-- One operation, and of what kind it was: does it speak of no store; does it leave the store as it is? -/
def atag (C : Cfg) (L : Lw) (mu : Bool) (ops : Array Oper) (o : Oper) (l : List AV) (S : AS) : Option (AV × AS × Tag) :=
  match astep C L mu ops o l (amark S) with
  | some (x, S') =>
    if apu mu ops o l || asame S S' then some (x, S, apu mu ops o l, true, stabOp C (aeval l) o, rwOf ops l o) else some (x, aunmark S S', false, false, false, rwOf ops l o)
  | none => none

def aTags (C : Cfg) (L : Lw) (mu : Bool) (ops : Array Oper) : List Oper → List AV → AS → Option (List AV × AS × List Tag)
  | [], l, S => some (l, S, [])
  | o :: rest, l, S =>
    match atag C L mu ops o l S with
    | some (x, S', t) =>
      match aTags C L mu ops rest (aput l o.dst x) S' with
      | some (l', S'', ts) => some (l', S'', t :: ts)
      | none => none
    | none => none

/-- Has operation j to wait for operation i? -/
def areach (ops : Array Oper) : Nat → Nat → Nat → Bool
  | 0, _, _ => false
  | k + 1, j, i =>
    match ops[j]? with
    | some o => o.after.toList.any fun e => Region.binds .any e && (Nat.beq e.on i || areach ops k e.on i)
    | none => false

def aback (ops : Array Oper) : Bool := (List.range ops.size).all fun j =>
  match ops[j]? with
  | some o => o.after.toList.all fun e => !Region.binds .any e || Nat.blt e.on j
  | none => true

def aPairs (ops : Array Oper) (ts : List Tag) : Bool :=
  (List.range ops.size).all fun j => (List.range j).all fun i =>
    match ops[i]?, ops[j]?, ts[i]?, ts[j]? with
    | some oi, some oj, some ti, some tj => (oi.apart ops oj && (ti.1 || tj.1 || (ti.2.1 && tj.2.1) || (isAlloc oj.op && ti.2.2.1) || apartRW ti.2.2.2 tj.2.2.2)) || areach ops ops.size j i
    | _, _, _, _ => false

def aDraw1 (C : Cfg) (L : Lw) (mu : Bool) (ops : Array Oper) (l : List AV) (S : AS) : Option (List AV × AS) :=
  match aTags C L mu ops ops.toList l S with
  | some (l', S', ts) => if Region.noSelect ops && aback ops && aPairs ops ts then some (l', S') else none
  | none => none

/-! A region that makes more than one variable: they are made ahead of all. -/
def posd (ops : Array Oper) : List (Nat × Oper) := (List.range ops.size).zip ops.toList
def allocsP (ops : Array Oper) : List (Nat × Oper) := (posd ops).filter fun p => isAlloc p.2.op
def othersP (ops : Array Oper) : List (Nat × Oper) := (posd ops).filter fun p => !isAlloc p.2.op
def allPairs {α : Type} (r : α → α → Bool) : List α → Bool
  | [] => true
  | x :: xs => xs.all (r x) && allPairs r xs
def manyA (ops : Array Oper) : Bool := !allPairs (fun a b => areach ops ops.size b.1 a.1) (allocsP ops) && (allocsP ops).all fun a => a.2.guard.isNone
def preA (C : Cfg) : List (Nat × Oper) → List AV → AS → Option (List AV × AS)
  | [], l, S => some (l, S)
  | p :: rest, l, S =>
    match p.2.op with
    | .alloc T => match azero C.P T with | some z => preA C rest (aput l p.2.dst (.ptr S.objs.length 0)) (S.push (.cells z T)) | none => none
    | _ => none
def okPairB (ops : Array Oper) (p q : (Nat × Oper) × Tag) : Bool := p.1.2.apart ops q.1.2 && (p.2.1 || q.2.1 || (p.2.2.1 && q.2.2.1) || (isAlloc q.1.2.op && p.2.2.2.1) || apartRW p.2.2.2.2 q.2.2.2.2)
def aPairs2 (ops : Array Oper) (ts : List Tag) : Bool :=
  allPairs (fun p q => okPairB ops p q || areach ops ops.size q.1.1 p.1.1) ((othersP ops).zip ts) &&
  ((allocsP ops).all fun a => ((othersP ops).zip ts).all fun q => areach ops ops.size q.1.1 a.1 || (a.2.apart ops q.1.2 && (q.2.1 || q.2.2.1))) &&
  allPairs (fun a b => a.2.apart ops b.2) (allocsP ops)
def aDraw2 (C : Cfg) (L : Lw) (mu : Bool) (ops : Array Oper) (l : List AV) (S : AS) : Option (List AV × AS) :=
  match preA C (allocsP ops) l S with
  | some (l1, S1) =>
    match aTags C L mu ops ((othersP ops).map (·.2)) l1 S1 with
    | some (l', S', ts) => if Region.noSelect ops && aback ops && aPairs2 ops ts then some (l', S') else none
    | none => none
  | none => none
def aDraw (C : Cfg) (L : Lw) (mu : Bool) (ops : Array Oper) (l : List AV) (S : AS) : Option (List AV × AS) :=
  match manyA ops with
  | true => aDraw2 C L mu ops l S
  | false => aDraw1 C L mu ops l S

def aloop (f : AAct → AS → Option (Exit × AAct × AS)) : Nat → AAct → AS → Option (Exit × AAct × AS)
  | 0, _, _ => none
  | k + 1, a, S =>
    match f a S with
    | some (.normal, a', S') => aloop f k a' S'
    | r => r

/-- A loop over a function: the call of the function, and how the loop is left. -/
def arange (L : Lw) (f : FuncId) (args : List AV) (l : Nat) (a : AAct) (S : AS) : Option (Exit × AAct × AS) :=
  match L.call f args S with
  | some (_, S') =>
    match S'.objs[l]? with
    | some (.loop r) =>
      match r.state with
      | .busy => none
      | _ =>
        match r.pending with
        | none => some (.normal, a, S'.set l .dead)
        | some .ret => some (.ret, a, S'.set l .dead)
        | some (.exit id) => some (.exit id, a, S'.set l .dead)
        | some (.goto t) => some (.goto t, a, S'.set l .dead)
        | some _ => none
    | _ => none
  | none => none

/-! What a round of a loop leaves behind is dropped, where a hint tells which slots live. -/
def firstR : Code → Option Nat
  | .region id _ _ => some id
  | .seq x y => match firstR x with | some i => some i | none => firstR y
  | .block _ c => firstR c
  | .loop c => firstR c
  | _ => none

def memN : List Nat → Nat → Bool
  | [], _ => false
  | x :: l, n => match Nat.beq x n with | true => true | false => memN l n

def objOld (n : Nat) : AObj → Bool
  | .cells l _ => belowAll n l
  | .map es _ => es.all fun e => e.key.old n && e.val.old n
  | .loop r => belowAll n r.tmps && Nat.blt r.defers n
  | _ => true

def keepT (js : List Nat) : Nat → List AV → List AV
  | _, [] => []
  | k, x :: l => (match memN js k with | true => x | false => .junk) :: keepT js (k + 1) l

def trimB (n0 : Nat) (vals : List AV) (objs : List AObj) (marks : List Nat) (len : Nat) : Bool := belowAll n0 vals && (objs.all (objOld n0) && (marks.all (fun m => Nat.blt m n0) && Nat.ble n0 len))
def trimOK (js : List Nat) (n0 : Nat) (a : AAct) (S : AS) : Bool := trimB n0 (js.map fun j => (a.tmps[j]?).getD undefA) (S.objs.take n0) a.marks S.objs.length
def trimA (js : List Nat) (a : AAct) : AAct := { a with tmps := keepT js 0 a.tmps }
def trimS (n0 : Nat) (S : AS) : AS := { S with objs := S.objs.take n0 }

def hintD (C : Cfg) (hf : FuncId) (c : Code) : Option (List Nat) := match firstR c with | some i => C.D hf i | none => none

def aBody (C : Cfg) (hf : FuncId) (c : Code) (n0 : Nat) (f : AAct → AS → Option (Exit × AAct × AS)) (a : AAct) (S : AS) : Option (Exit × AAct × AS) :=
  match f a S with
  | some (.normal, a', S') =>
    match hintD C hf c with
    | some js => (match trimOK js n0 a' S' with | true => some (.normal, trimA js a', trimS n0 S') | false => none)
    | none => some (.normal, a', S')
  | r => r

def aC (C : Cfg) (L : Lw) (k : Nat) (hf : FuncId) (rd : Option Nat) : Code → AAct → AS → Option (Exit × AAct × AS)
  | .skip, a, S => some (.normal, a, S)
  | .label _, a, S => some (.normal, a, S)
  | .exit id, a, S => some (.exit id, a, S)
  | .goto t, a, S => some (.goto t, a, S)
  | .ret, a, S => some (.ret, a, S)
  | .seq x y, a, S =>
    match aC C L k hf rd x a S with
    | some (.normal, a', S') => aC C L k hf rd y a' S'
    | r => r
  | .cond c x y, a, S =>
    match aeval a.tmps c with
    | .v (.bool true) => aC C L k hf rd x a S
    | .v (.bool false) => aC C L k hf rd y a S
    | _ => none
  | .block id c, a, S =>
    match aC C L k hf rd c a S with
    | some (.exit id', a', S') => if Nat.beq id' id then some (.normal, a', S') else some (.exit id', a', S')
    | r => r
  | .loop c, a, S => aloop (aBody C hf c S.objs.length (aC C L k hf rd c)) k a S
  | .region id ops false, a, S =>
    match aOps C L (C.H hf id) ops ops.toList a.tmps S with
    | some (l, S') => some (.normal, { a with tmps := l }, S')
    | none => none
  | .region id ops true, a, S =>
    match aDraw C L (C.H hf id) ops a.tmps S with
    | some (l, S') => some (.normal, { a with tmps := l }, S')
    | none => none
  | .rangeFunc g ps asg body, a, S =>
    match aeval a.tmps g with
    | .fn (.func f) first caps =>
      match rd with
      | none =>
        arange L f (first ++ [.yld (S.objs.length + 1)] ++ caps) (S.objs.length + 1) { a with marks := S.objs.length :: a.marks }
          ((S.push .dfr).push (.loop { state := .ready, pending := none, hint := hf, tmps := a.tmps, params := ps, assign := asg, body := body, defers := S.objs.length }))
      | some o =>
        match S.objs[o]? with
        | some (.loop r0) =>
          arange L f (first ++ [.yld S.objs.length] ++ caps) S.objs.length a
            (S.push (.loop { state := .ready, pending := none, hint := hf, tmps := a.tmps, params := ps, assign := asg, body := body, defers := r0.defers }))
        | _ => none
    | _ => none
  | _, _, _ => none

def akill : List Nat → AS → Option AS
  | [], S => some S
  | m :: ms, S =>
    match S.objs[m]? with
    | some .dfr => akill ms (S.set m .dead)
    | _ => none

def aresult (P : Program) (l : List AV) (S : AS) : ResultVar → Option AV
  | .tmp t => some ((l[t]?).getD undefA)
  | .cell t ty => aload P S ty ((l[t]?).getD undefA)

def aresults (P : Program) (l : List AV) (S : AS) : List ResultVar → Option (List AV)
  | [] => some []
  | r :: rs =>
    match aresult P l S r with
    | some x => match aresults P l S rs with | some xs => some (x :: xs) | none => none
    | none => none

def aone : List AV → AV
  | [x] => x
  | xs => .tup xs

/-- The end of a call. -/
def aleave (C : Cfg) (fn : Func) (S : AS) (a : AAct) (S1 : AS) : Option (AV × AS) :=
  match akill a.marks S1 with
  | some S2 =>
    match aresults C.P a.tmps S2 fn.results.toList with
    | some xs => if akept S S2 && (aone xs).old S.objs.length then some ((aone xs).shut S.ends.length, S) else some (aone xs, aunmark S S2)
    | none => none
  | none => none

def acallF (C : Cfg) (L : Lw) (k : Nat) (f : FuncId) (args : List AV) (S : AS) : Option (AV × AS) :=
  match C.P.funcs[f]? with
  | some fn =>
    match fn.body with
    | some c =>
      match aC C L k f none c { tmps := args ++ List.replicate (fn.ntmps - args.length) undefA, marks := [] } (amark S) with
      | some (.normal, a, S1) => aleave C fn S a S1
      | some (.ret, a, S1) => aleave C fn S a S1
      | _ => none
    | none => none
  | none => none

def ajump : Exit → Option (Option Code)
  | .normal => some none
  | .ret => some (some .ret)
  | .exit id => some (some (.exit id))
  | .goto t => some (some (.goto t))
  | _ => none

def ayieldF (C : Cfg) (L : Lw) (k : Nat) (o : Nat) (args : List AV) (S : AS) : Option (AV × AS) :=
  match S.objs[o]? with
  | some (.loop r) =>
    if Nat.beq args.length r.params.size then
      match aC C L k r.hint (some o) r.assign { tmps := (r.params.toList.zip args).foldl (fun l p => l.set p.1 p.2) r.tmps, marks := [] } S with
      | some (.normal, a1, S1) =>
        match S1.objs[o]? with
        | some (.loop r1) =>
          match r1.state with
          | .ready =>
            match aC C L k r.hint (some o) r.body a1 (S1.set o (.loop { r1 with state := .busy })) with
            | some (e, _, S3) =>
              match S3.objs[o]? with
              | some (.loop r3) =>
                match ajump e with
                | some j => some (.v (.bool j.isNone), S3.set o (.loop { r3 with state := if j.isNone then .ready else .done, pending := j }))
                | none => none
              | _ => none
            | none => none
          | _ => none
        | _ => none
      | _ => none
    else none
  | _ => none

/-! What a caller's values are to a callee that only reads: lists and rows in place of objects. -/
def untok : Cap → Cap
  | .tok _ _ _ => .unk
  | c => c

def drRows (dr : List AV → Option (List AV)) : List (List AV) → Option (List (List AV))
  | [] => some []
  | r :: rs => match dr r with | some r' => (match drRows dr rs with | some rs' => some (r' :: rs') | none => none) | none => none

mutual
def lendV (S : AS) (dr : List AV → Option (List AV)) : AV → Option AV
  | .junk => some .junk
  | .v x => some (.v x)
  | .ptr o off => match S.cellsAt o with | some p => (match dr p.1 with | some l => some (.eptr l off) | none => none) | none => none
  | .eptr row b => match lendL S dr row with | some l => some (.eptr l b) | none => none
  | .lst c rows => match lendR S dr rows with | some l => some (.lst (untok c) l) | none => none
  | .slc o sz off len cap => match rowsOf S sz (.slc o sz off len cap) with | some rows => (match drRows dr rows with | some l => some (.lst .unk l) | none => none) | none => none
  | .mp _ => none
  | .yld _ => none
  | .fn f a b => match lendL S dr a with | some a' => (match lendL S dr b with | some b' => some (.fn f a' b') | none => none) | none => none
  | .ifc t x => match lendV S dr x with | some x' => some (.ifc t x') | none => none
  | .agg l => match lendL S dr l with | some l' => some (.agg l') | none => none
  | .tup l => match lendL S dr l with | some l' => some (.tup l') | none => none
def lendL (S : AS) (dr : List AV → Option (List AV)) : List AV → Option (List AV)
  | [] => some []
  | x :: l => match lendV S dr x with | some x' => (match lendL S dr l with | some l' => some (x' :: l') | none => none) | none => none
def lendR (S : AS) (dr : List AV → Option (List AV)) : List (List AV) → Option (List (List AV))
  | [] => some []
  | r :: l => match lendL S dr r with | some r' => (match lendR S dr l with | some l' => some (r' :: l') | none => none) | none => none
end

def lendAll : Nat → AS → List AV → Option (List AV)
  | 0, S, l => lendL S (fun _ => none) l
  | d + 1, S, l => lendL S (lendAll d S) l

def lend (S : AS) (x : AV) : Option AV := lendV S (lendAll 4 S) x

def AV.isV : AV → Bool
  | .v _ => true
  | _ => false

/-- It speaks of no address at all. -/
def AV.plain : AV → Bool
  | .v _ => true
  | .tup l => l.all AV.isV
  | .agg l => l.all AV.isV
  | _ => false

/-- A call; of a function that F names, in the empty store. -/
def acallX (C : Cfg) (L : Lw) (k : Nat) (f : FuncId) (args : List AV) (S : AS) : Option (AV × AS) :=
  match C.F f with
  | true =>
    match belowAll 0 args with
    | true =>
      match acallF C L k f (sealAll 0 args) {} with
      | some (x, S1) => (match lend S1 x with | some x' => some (x', S) | none => none)
      | none => none
    | false =>
      match lendAll 4 S args with
      | some args' =>
        match acallF C L k f args' {} with
        | some (x, _) => (match x.plain with | true => some (x, S) | false => none)
        | none => none
      | none => none
  | false => acallF C L k f args S

def lower (C : Cfg) : Nat → Lw
  | 0 => { call := fun _ _ _ => none, yield := fun _ _ _ => none }
  | n + 1 =>
    { call := fun f args S => match C.X f with | some g => g args S | none => acallX C (lower C n) (n + 1) f args S
      yield := fun o args S => ayieldF C (lower C n) (n + 1) o args S }

end Go.AM

/- The abstract machine, eighteenth text: one operation of the evaluator's, and a list of them. -/
namespace Go.AM
open Go.RowKit Go.MapKept

variable {B0 : Nat} {w0 w : World} {E : Env} {S S' : AS} {P : Program} {C : Cfg} {L : Lw}

def fenceOf (r : Option Nat) : Fence := { Fence.wide with round := r }

/-- What a call that the abstract machine made has done. -/
def Post (B0 : Nat) (w0 : World) (E : Env) (w : World) (S S' : AS) (x : AV) : Ending → World → Prop
  | .returned y, w' => ∃ E', SR B0 w0 E' S' w' ∧ Step S.objs.length S.ends.length E w E' w' ∧ VR E' w' x y
  | _, _ => False

/-- Functions without a body: what the table says of them. -/
def EOK (C : Cfg) : Prop := ∀ (f : FuncId) (e : List Value → Option Value) (vs : List Value) (y : Value) (w : World), C.E f = some e → e vs = some y → (callFunc f vs.toArray).run C.P w = .ok (.value y) w

structure LwOK (C : Cfg) (L : Lw) : Prop where
  ex : EOK C
  low : ∀ {f : FuncId} {args : List AV} {S : AS} {x : AV} {S' : AS}, L.call f args S = some (x, S') → Low S S'
  ylow : ∀ {o : Nat} {args : List AV} {S : AS} {x : AV} {S' : AS}, L.yield o args S = some (x, S') → Low S S'
  ent : ∀ {f : FuncId} {args : List AV} {S : AS} {x : AV} {S' : AS}, L.call f args S = some (x, S') → ∃ fn, C.P.funcs[f]? = some fn ∧ fn.body.isSome = true
  call : ∀ {f : FuncId} {args : List AV} {S : AS} {x : AV} {S' : AS} {B0 : Nat} {w0 w : World} {E : Env} {ys : List Value}, L.call f args S = some (x, S') → SR B0 w0 E S w → Pair (VR E w) args ys →
    CallsIn Fence.wide 0 C.P f ys.toArray w (Post B0 w0 E w S S' x)
  yield : ∀ {o : Nat} {args : List AV} {S : AS} {x : AV} {S' : AS} {B0 : Nat} {w0 w : World} {E : Env} {ys : List Value} {g : Nat}, L.yield o args S = some (x, S') → SR B0 w0 E S w → Pair (VR E w) args ys → E.j o = some g →
    ∃ fn tmps asg body, (Instr.yield g ys.toArray).run C.P w = .ok (.round g fn tmps asg body) w ∧ RoundIn Fence.wide 0 C.P g fn tmps asg body w (Post B0 w0 E w S S' x)
  st : ∀ {f : FuncId} {args : List AV} {S : AS} {x : AV} {S' : AS}, C.X f = none → C.F f = true → L.call f args S = some (x, S') → S' = S ∧ ∀ S2 : AS, (∃ e, S2.objs = S.objs ++ e) → L.call f args S2 = some (x, S2)

/-- No function bears the one name that the model takes apart. -/
def NamesOK (P : Program) : Prop := ∀ (f : FuncId) (fn : Func), P.funcs[f]? = some fn → fn.body.isSome = true → (fn.name == "runtime.NumGoroutine") = false

structure ActR (E : Env) (w : World) (a : AAct) (act : Act) : Prop where
  tmps : Pair (VR E w) a.tmps act.tmps.toList
  len : a.marks.length = act.defers.length
  marks : ∀ (i : Nat) o d, a.marks[i]? = some o → act.defers[i]? = some d → ∃ g, E.j o = some g ∧ d = { target := .collected g, args := #[] }

theorem Pair.ext {E' : Env} {w' : World} (h : Ext E w E' w') {l : List AV} {ys : List Value} (k : Pair (VR E w) l ys) : Pair (VR E' w') l ys := k.mono fun _ _ h1 => h1.ext h

theorem ActR.ext {E' : Env} {w' : World} (h : Ext E w E' w') {a : AAct} {act : Act} (k : ActR E w a act) : ActR E' w' a act :=
  ⟨k.tmps.ext h, k.len, fun i o d h1 h2 => let ⟨g, h3, h4⟩ := k.marks i o d h1 h2; ⟨g, h.j _ _ h3, h4⟩⟩

theorem VR.undef : VR E w undefA undef := VR.of_flat rfl

theorem Pair.put {l : List AV} {ys : Array Value} (h : Pair (VR E w) l ys.toList) {x : AV} {y : Value} (hx : VR E w x y) (d : Nat) : Pair (VR E w) (l.set d x) (ys.setIfInBounds d y).toList := by
  refine ⟨by simp [h.1], fun i a b ha hb => ?_⟩
  simp only [Array.toList_setIfInBounds, List.getElem?_set] at ha hb
  by_cases e : d = i
  · simp only [e, if_true] at ha hb
    split at ha
    · split at hb
      · cases ha; cases hb; exact hx
      · cases hb
    · cases ha
  · simp only [e, if_false] at ha hb
    exact h.2 i a b ha hb

theorem ActR.put {a : AAct} {act : Act} (k : ActR E w a act) {x : AV} {y : Value} (hx : VR E w x y) (d : Option Tmp) : ActR E w { a with tmps := aput a.tmps d x } (act.put d y) := by
  cases d with
  | none => exact k
  | some d => exact ⟨k.tmps.put hx d, k.len, k.marks⟩

theorem aeval_rel {l : List AV} {act : Act} (h : Pair (VR E w) l act.tmps.toList) (x : Operand) : VR E w (aeval l x) (act.eval x) := by
  cases x with
  | tmp t =>
    simp only [aeval, Act.eval]
    cases hl : l[t]? with
    | none =>
      have : act.tmps.toList[t]? = none := by rw [List.getElem?_eq_none_iff] at hl ⊢; rw [← h.1]; exact hl
      have h2 : act.tmps.getD t undef = undef := by
        simp only [Array.getD_eq_getD_getElem?, ← Array.getElem?_toList, this, Option.getD_none]
      rw [h2]; exact VR.undef
    | some x =>
      have hlt : t < act.tmps.toList.length := by rw [← h.1]; exact (List.getElem?_eq_some_iff.1 hl).1
      have h1 : act.tmps.toList[t]? = some act.tmps.toList[t] := by simp [hlt]
      have h2 : act.tmps.getD t undef = act.tmps.toList[t] := by
        simp only [Array.getD_eq_getD_getElem?, ← Array.getElem?_toList, h1, Option.getD_some]
      rw [h2]; exact h.2 t x _ hl h1
  | const v =>
    simp only [aeval, Act.eval]
    split
    · rename_i hf; exact VR.of_flat hf
    · exact ⟨1, trivial⟩
  | global g => exact ⟨1, trivial⟩
  | func f => exact VR.fn (xs := []) (ys := []) ⟨rfl, fun i x y hx _ => by simp at hx⟩ ⟨rfl, fun i x y hx _ => by simp at hx⟩

theorem awanted_sound {ops : Array Oper} {l : List AV} {act : Act} {o : Oper} {b : Bool} (h : Pair (VR E w) l act.tmps.toList) (hx : awanted ops l o = some b) : Region.wanted o (yielded ops act.tmps) = b := by
  unfold awanted at hx
  unfold Region.wanted
  split at hx
  · rename_i hg; cases hx; rw [hg]
  · rename_i j c hg
    rw [hg]
    obtain ⟨y, hy, rfl⟩ := Option.map_eq_some_iff.1 hx
    have : yielded ops act.tmps j = y := by
      unfold aslot at hy
      unfold yielded
      cases hd : (ops[j]?).bind (·.dst) with
      | none => simp only [hd, Option.bind_none] at hy ⊢; cases hy; rfl
      | some d =>
        simp only [hd, Option.bind_some] at hy ⊢
        cases hl : l[d]? with
        | none =>
          rw [hl] at hy
          cases hy
          have : act.tmps[d]? = none := by
            rw [← Array.getElem?_toList, List.getElem?_eq_none_iff, ← h.1]; exact List.getElem?_eq_none_iff.1 hl
          rw [this]
        | some x =>
          rw [hl] at hy
          have hlt : d < act.tmps.toList.length := by rw [← h.1]; exact (List.getElem?_eq_some_iff.1 hl).1
          have h1 : act.tmps.toList[d]? = some act.tmps.toList[d] := by simp [hlt]
          have h2 : act.tmps[d]? = some act.tmps.toList[d] := by rw [← Array.getElem?_toList]; exact h1
          have hv := h.2 d x _ hl h1
          rw [h2]
          cases x with
          | v z =>
            obtain ⟨_, he⟩ := hv.flat_inv
            rw [he]
            cases z with
            | bool b => cases hy; rfl
            | _ => cases hy; rfl
          | _ => cases hy
    simp only [this]

section
variable {r : Option Nat} {Q : Exit → Act → World → Prop} {act : Act} {a : AAct}

theorem uponIn_did {o : Oper} {K : Act → World → Prop} {x : AV} {res : Result Next} (h : Did B0 w0 E w S S' x res)
    (hK : ∀ y E' w', SR B0 w0 E' S' w' → Step S.objs.length S.ends.length E w E' w' → VR E' w' x y → K (act.put o.dst y) w') : o.uponIn (fenceOf r) 0 P act K Q res := by
  obtain ⟨nx, w', E', rfl, h2, h3, h4⟩ := h
  rcases h4 with ⟨y, rfl, hy⟩ | ⟨rfl, rfl⟩
  · exact hK y E' w' h2 h3 hy
  · exact hK undef E' w' h2 h3 VR.undef

theorem uponIn_call {o : Oper} {K : Act → World → Prop} {x : AV} {f : FuncId} {args : Array Value} (h : CallsIn Fence.wide 0 P f args w (Post B0 w0 E w S S' x))
    (hK : ∀ y E' w', SR B0 w0 E' S' w' → Step S.objs.length S.ends.length E w E' w' → VR E' w' x y → K (act.put o.dst y) w') : o.uponIn (fenceOf r) 0 P act K Q (.ok (.enter f args) w) := by
  refine ⟨nofun, CallsIn.mono (F := Fence.wide) h fun e w' he => ?_⟩
  cases e with
  | returned y => obtain ⟨E', h1, h2, h3⟩ := he; exact hK y E' w' h1 h2 h3
  | panicked c => exact he.elim
  | outgrown => exact he.elim

theorem uponIn_round {o : Oper} {K : Act → World → Prop} {x : AV} {l : Nat} {f : FuncId} {tmps : Array Value} {asg body : Code} (h : RoundIn Fence.wide 0 P l f tmps asg body w (Post B0 w0 E w S S' x))
    (hK : ∀ y E' w', SR B0 w0 E' S' w' → Step S.objs.length S.ends.length E w E' w' → VR E' w' x y → K (act.put o.dst y) w') : o.uponIn (fenceOf r) 0 P act K Q (.ok (.round l f tmps asg body) w) := by
  refine ⟨nofun, RoundIn.mono (F := Fence.wide) h fun e w' he => ?_⟩
  cases e with
  | returned y => obtain ⟨E', h1, h2, h3⟩ := he; exact hK y E' w' h1 h2 h3
  | panicked c => exact he.elim
  | outgrown => exact he.elim

theorem run_callFunc_ok (hN : NamesOK P) {f : FuncId} {args : Array Value} (h : ∃ fn, P.funcs[f]? = some fn ∧ fn.body.isSome = true) : (callFunc f args).run P w = .ok (.enter f args) w := by
  obtain ⟨fn, h1, h2⟩ := h
  have h3 := hN f fn h1 h2
  have h3' : ¬ fn.name = "runtime.NumGoroutine" := by simpa using h3
  have h4 : ¬ fn.body = none := fun e => by rw [e] at h2; cases h2
  simp [callFunc, go_sem, h1, h3', h4]

def constB : Operand → Bool | .const _ => true | _ => false

theorem acallOp_sound (hN : NamesOK C.P) (hL : LwOK C L) (h : SR B0 w0 E S w) {mu : Bool} {o : Oper} {c : Call} (hop : o.op = .call c) {l : List AV} (hp : Pair (VR E w) l act.tmps.toList) {x : AV}
    (hx : acallOp C L mu o.type c (aeval l) S = some (x, S')) {K : Act → World → Prop}
    (hK : ∀ y E' w', SR B0 w0 E' S' w' → Step S.objs.length S.ends.length E w E' w' → VR E' w' x y → K (act.put o.dst y) w') :
    o.uponIn (fenceOf r) 0 C.P act K Q ((execOp act.eval o).run C.P w) := by
  have hargs : Pair (VR E w) (c.args.toList.map (aeval l)) (c.args.map act.eval).toList := by
    rw [Array.toList_map]
    exact ⟨by simp, fun i a b ha hb => by
      simp only [List.getElem?_map] at ha hb
      obtain ⟨q, hq, rfl⟩ := Option.map_eq_some_iff.1 ha
      rw [hq] at hb
      cases hb
      exact aeval_rel hp q⟩
  have hex : execOp act.eval o = (do let d ← resolve act.eval c o.type; invoke d.target d.args) := by unfold execOp; rw [hop]
  unfold acallOp at hx
  split at hx
  · rename_i b hb
    have : (execOp act.eval o).run C.P w = (builtin b c.argTypes o.type (c.args.map constB) (c.args.map act.eval)).run C.P w := by
      rw [hex]; unfold resolve; simp only [hb, Sem.run_bind, Sem.run_pure, Result.andThen, invoke]; rfl
    rw [this]
    have hd := builtin_sound (ty := o.type) (consts := c.args.map constB) h hargs hx
    rw [Array.toArray_toList] at hd
    exact uponIn_did hd hK
  · rename_i f hf
    split at hx
    · rename_i g first caps hv
      obtain ⟨fs, cs, he, h1, h2⟩ := (hv ▸ aeval_rel hp f).fn_inv
      have hall : Pair (VR E w) (first ++ c.args.toList.map (aeval l) ++ caps) (fs ++ (c.args.map act.eval).toList ++ cs) := (h1.app hargs).app h2
      split at hx
      · rename_i e he1
        obtain ⟨vs, hvs, hx1⟩ := Option.bind_eq_some_iff.1 hx
        obtain ⟨y, hy, hx2⟩ := Option.bind_eq_some_iff.1 hx1
        obtain ⟨x', hx', he2⟩ := Option.map_eq_some_iff.1 hx2
        cases he2
        obtain ⟨hfy, rfl⟩ := ofV_some hx'
        have hrun := hL.ex g e vs y w he1 hy
        rw [← flatsV_some hvs hall] at hrun
        have hd : Did B0 w0 E w S S (.v y) ((execOp act.eval o).run C.P w) := by
          refine Did.val h ?_ (VR.of_flat hfy)
          rw [hex]
          unfold resolve
          simp only [hf, Sem.run_bind, he, Deferred.ofValue, Sem.run_pure, Result.andThen, invoke]
          have e1 : (fs ++ (c.args.map act.eval).toList ++ cs).toArray = fs.toArray ++ c.args.map act.eval ++ cs.toArray := by simp
          rw [e1] at hrun
          exact hrun
        exact uponIn_did hd hK
      have hc := hL.call hx h hall
      have : (execOp act.eval o).run C.P w = .ok (.enter g (fs ++ (c.args.map act.eval).toList ++ cs).toArray) w := by
        rw [hex]
        unfold resolve
        simp only [hf, Sem.run_bind, he, Deferred.ofValue, Sem.run_pure, Result.andThen, invoke]
        rw [run_callFunc_ok hN (hL.ent hx)]
        simp
      rw [this]
      exact uponIn_call hc hK
    · rename_i ol hv
      obtain ⟨g, hj, he⟩ := (hv ▸ aeval_rel hp f).yld_inv
      obtain ⟨fn, tmps, asg, body, hy, hr⟩ := hL.yield hx h hargs hj
      have : (execOp act.eval o).run C.P w = .ok (.round g fn tmps asg body) w := by
        rw [hex]
        unfold resolve
        simp only [hf, Sem.run_bind, he, Deferred.ofValue, Sem.run_pure, Result.andThen, invoke]
        rw [Array.toArray_toList] at hy
        simpa using hy
      rw [this]
      exact uponIn_round hr hK
    · cases hx
  · cases hx

theorem astep_sound (hN : NamesOK C.P) (hL : LwOK C L) (h : SR B0 w0 E S w) {mu : Bool} {ops : Array Oper} {o : Oper} {l : List AV} (hp : Pair (VR E w) l act.tmps.toList) {x : AV}
    (hx : astep C L mu ops o l S = some (x, S')) {K : Act → World → Prop}
    (hK : ∀ y E' w', SR B0 w0 E' S' w' → Step S.objs.length S.ends.length E w E' w' → VR E' w' x y → K (act.put o.dst y) w') :
    if Region.wanted o (yielded ops act.tmps) = true then Oper.wpIn (fenceOf r) 0 C.P o act w K Q else (∀ f, o.about C.P w act.eval = some f → (fenceOf r).fn f) ∧ K (act.put o.dst undef) w := by
  unfold astep at hx
  split at hx
  · rename_i hw
    rw [awanted_sound hp hw, if_pos rfl]
    refine ⟨fun _ _ => trivial, ?_⟩
    unfold adoOp at hx
    split at hx
    · rename_i c hop
      rw [Oper.semAt_eq _ _ _ (by rw [hop]; intro c e; cases e)]
      exact acallOp_sound hN hL h hop hp hx hK
    · rename_i op hnc
      rw [Oper.semAt_eq _ _ _ (by intro c e; rw [e] at hx; simp [aexec] at hx)]
      exact uponIn_did (exec_sound h (fun q => aeval_rel hp q) hx) hK
  · rename_i hw
    cases hx
    rw [awanted_sound hp hw, if_neg (by simp)]
    exact ⟨fun _ _ => trivial, hK undef E w h (Step.refl _ _ _ _) VR.undef⟩
  · cases hx

theorem adoOp_low (hL : LwOK C L) {mu : Bool} {o : Oper} {ρ : Operand → AV} {x : AV} (hx : adoOp C L mu o ρ S = some (x, S')) : Low S S' := by
  unfold adoOp at hx
  split at hx
  · unfold acallOp at hx
    split at hx
    · exact abuiltin_low hx
    · split at hx
      · split at hx
        · obtain ⟨vs, _, hx1⟩ := Option.bind_eq_some_iff.1 hx
          obtain ⟨y, _, hx2⟩ := Option.bind_eq_some_iff.1 hx1
          obtain ⟨x', _, he2⟩ := Option.map_eq_some_iff.1 hx2
          cases he2; exact Low.refl _
        · exact hL.low hx
      · exact hL.ylow hx
      · cases hx
    · cases hx
  · exact aexec_low hx

theorem astep_low (hL : LwOK C L) {mu : Bool} {ops : Array Oper} {o : Oper} {l : List AV} {x : AV} (hx : astep C L mu ops o l S = some (x, S')) : Low S S' := by
  unfold astep at hx
  split at hx
  · exact adoOp_low hL hx
  · cases hx; exact Low.refl _
  · cases hx

theorem aOps_low (hL : LwOK C L) {mu : Bool} {ops : Array Oper} : ∀ (os : List Oper) {l l' : List AV} {S S' : AS}, aOps C L mu ops os l S = some (l', S') → Low S S'
  | [], l, l', S, S', h => by simp only [aOps] at h; cases h; exact Low.refl _
  | o :: os, l, l', S, S', h => by
    simp only [aOps] at h
    split at h
    · rename_i x S1 h1
      exact (astep_low hL h1).trans (aOps_low hL os h)
    · cases h

theorem aOps_sound (hN : NamesOK C.P) (hL : LwOK C L) {mu : Bool} {ops : Array Oper} : ∀ (os : List Oper) {l l' : List AV} {S S' : AS} {act : Act} {w : World} {E : Env},
    aOps C L mu ops os l S = some (l', S') → SR B0 w0 E S w → Pair (VR E w) l act.tmps.toList →
    (∀ act' w' E', SR B0 w0 E' S' w' → Step S.objs.length S.ends.length E w E' w' → Pair (VR E' w') l' act'.tmps.toList → act'.defers = act.defers → Q .normal act' w') →
    wpListIn (fenceOf r) 0 C.P ops Q os act w
  | [], l, l', S, S', act, w, E, hx, h, hp, hQ => by
    simp only [aOps] at hx; cases hx
    exact hQ act w E h (Step.refl _ _ _ _) hp rfl
  | o :: os, l, l', S, S', act, w, E, hx, h, hp, hQ => by
    simp only [aOps] at hx
    split at hx
    · rename_i x S1 h1
      have hl := astep_low hL h1
      refine astep_sound hN hL h hp h1 fun y E' w' h2 h3 h4 => ?_
      have hp' : Pair (VR E' w') (aput l o.dst x) (act.put o.dst y).tmps.toList := by
        cases hd : o.dst with
        | none => exact hp.ext h3.toExt
        | some d => exact (hp.ext h3.toExt).put h4 d
      refine aOps_sound hN hL os hx h2 hp' fun act' w'' E'' h5 h6 h7 h8 => hQ act' w'' E'' h5 (h3.trans h6 hl.len hl.tlen) h7 (h8.trans ?_)
      cases o.dst <;> rfl
    · cases hx

end
end Go.AM
