/- The abstract machine, fifteenth text: what an operation leaves alone; values that speak of old objects alone. -/
import Derived.Test.YtlfobfhklmndkaaGreatDoorA13
namespace Go.AM
open Go.RowKit Go.MapKept

variable {B0 : Nat} {w0 w : World} {E : Env} {S S' : AS} {P : Program}

structure Low (S S' : AS) : Prop where
  len : S.objs.length ≤ S'.objs.length
  tlen : S.ends.length ≤ S'.ends.length
  low : S'.low ≤ S.low
  tlow : S'.tlow ≤ S.tlow
  objs : ∀ o, o < S.objs.length → o < S'.low → S'.objs[o]? = S.objs[o]?
  ends : ∀ t, t < S.ends.length → t < S'.tlow → S'.ends[t]? = S.ends[t]?

theorem Low.refl (S : AS) : Low S S := ⟨Nat.le_refl _, Nat.le_refl _, Nat.le_refl _, Nat.le_refl _, fun _ _ _ => rfl, fun _ _ _ => rfl⟩
theorem Low.trans {A B C : AS} (h : Low A B) (k : Low B C) : Low A C :=
  ⟨Nat.le_trans h.len k.len, Nat.le_trans h.tlen k.tlen, Nat.le_trans k.low h.low, Nat.le_trans k.tlow h.tlow,
   fun o ho hl => (k.objs o (Nat.lt_of_lt_of_le ho h.len) hl).trans (h.objs o ho (Nat.lt_of_lt_of_le hl k.low)),
   fun t ht hl => (k.ends t (Nat.lt_of_lt_of_le ht h.tlen) hl).trans (h.ends t ht (Nat.lt_of_lt_of_le hl k.tlow))⟩
theorem Low.push (S : AS) (o : AObj) : Low S (S.push o) :=
  ⟨by simp [AS.push], Nat.le_refl _, Nat.le_refl _, Nat.le_refl _, fun i hi _ => by simp [AS.push, List.getElem?_append_left hi], fun _ _ _ => rfl⟩
theorem Low.set (S : AS) (i : Nat) (o : AObj) : Low S (S.set i o) :=
  ⟨by simp [AS.set], Nat.le_refl _, Nat.min_le_left _ _, Nat.le_refl _, fun k _ hl => by
    have : k < i := Nat.lt_of_lt_of_le hl (Nat.min_le_right _ _)
    rw [AS.set_get, if_neg (by omega)], fun _ _ _ => rfl⟩
theorem Low.tokN (S : AS) (e : Nat) : Low S (S.tokN e) :=
  ⟨Nat.le_refl _, by simp [AS.tokN], Nat.le_refl _, Nat.le_refl _, fun _ _ _ => rfl, fun t ht _ => by simp [AS.tokN, List.getElem?_append_left ht]⟩
theorem Low.tokS (S : AS) (t e : Nat) : Low S (S.tokS t e) :=
  ⟨Nat.le_refl _, by simp [AS.tokS], Nat.le_refl _, Nat.min_le_left _ _, fun _ _ _ => rfl, fun k _ hl => by
    have : k < t := Nat.lt_of_lt_of_le hl (Nat.min_le_right _ _)
    simp only [AS.tokS, List.getElem?_set]
    rw [if_neg (by omega)]⟩

theorem aexec_low {mu : Bool} {ρ : Operand → AV} {op : Op} {x : AV} (h : aexec P mu S ρ op = some (x, S')) : Low S S' := by
  have same : ∀ {r : Option AV} {q : AV × AS}, (r.map fun x => (x, S)) = some q → Low S q.2 := by
    intro r q hq
    obtain ⟨a, ha, rfl⟩ := Option.map_eq_some_iff.1 hq
    exact Low.refl _
  have upd : ∀ {r : Option AS} {q : AV × AS}, (r.map fun S => (undefA, S)) = some q → r = some q.2 := by
    intro r q hq
    obtain ⟨a, ha, rfl⟩ := Option.map_eq_some_iff.1 hq
    exact ha
  cases op with
  | move a => simp only [aexec, Option.some.injEq, Prod.mk.injEq] at h; obtain ⟨_, rfl⟩ := h; exact Low.refl _
  | assign a => simp only [aexec, Option.some.injEq, Prod.mk.injEq] at h; obtain ⟨_, rfl⟩ := h; exact Low.refl _
  | pick c a b => simp only [aexec] at h; split at h <;> cases h; exact Low.refl _
  | alloc e => obtain ⟨z, hz, he⟩ := Option.map_eq_some_iff.1 h; cases he; exact Low.push _ _
  | box e a => simp only [aexec] at h; split at h <;> cases h; exact Low.push _ _
  | build t parts => exact same h
  | buildSlice t len parts =>
    have h' : abuildSlice P mu S t len (parts.toList.map fun p => (p.1, ρ p.2)) = some (x, S') := h
    unfold abuildSlice at h'
    obtain ⟨p, hp, h1⟩ := Option.bind_eq_some_iff.1 h'
    obtain ⟨z, hz, h2⟩ := Option.bind_eq_some_iff.1 h1
    split at h2
    · obtain ⟨cs, hcs, h3⟩ := Option.map_eq_some_iff.1 h2
      split at h3 <;> cases h3
      · exact Low.push _ _
      · exact Low.refl _
    · cases h2
  | load t a => exact same h
  | store t a v =>
    have h1 := upd h
    unfold astore at h1
    split at h1
    · obtain ⟨p, hp, h2⟩ := Option.bind_eq_some_iff.1 h1
      split at h2 <;> cases h2
      exact Low.set _ _ _
    · cases h1
  | nilCheck a => simp only [aexec] at h; split at h <;> cases h <;> exact Low.refl _
  | binOp op t a b ty' => exact same h
  | unOp op t a => exact same h
  | convert s d a => exact same h
  | makeFunc f a b => simp only [aexec, Option.some.injEq, Prod.mk.injEq] at h; obtain ⟨_, rfl⟩ := h; exact Low.refl _
  | makeMap t r =>
    cases r with
    | some r => simp [aexec] at h
    | none => simp only [aexec, Option.some.injEq, Prod.mk.injEq] at h; obtain ⟨_, rfl⟩ := h; exact Low.push _ _
  | makeSlice t l c =>
    have h' : amakeSlice P mu S t (ρ l) (ρ c) = some (x, S') := h
    unfold amakeSlice at h'
    obtain ⟨p, _, h1⟩ := Option.bind_eq_some_iff.1 h'
    obtain ⟨z, _, h2⟩ := Option.bind_eq_some_iff.1 h1
    obtain ⟨i, _, h3⟩ := Option.bind_eq_some_iff.1 h2
    obtain ⟨ln, _, h4⟩ := Option.bind_eq_some_iff.1 h3
    obtain ⟨cn, _, h5⟩ := Option.bind_eq_some_iff.1 h4
    split at h5
    · split at h5
      · cases h5; exact Low.push _ _
      · split at h5 <;> cases h5; exact Low.refl _
    · cases h5
  | slice t a lo hi mx => exact same h
  | fieldAddr s a f => exact same h
  | field t a f => exact same h
  | indexAddr t a i => exact same h
  | index t a i => exact same h
  | lookup t m k ok => exact same h
  | mapUpdate t m k v =>
    have h1 := upd h
    unfold amapUpdate at h1
    split at h1
    · obtain ⟨d, _, h2⟩ := Option.bind_eq_some_iff.1 h1
      split at h2
      · obtain ⟨p, _, h3⟩ := Option.bind_eq_some_iff.1 h2
        obtain ⟨r, _, h4⟩ := Option.bind_eq_some_iff.1 h3
        split at h4 <;> cases h4 <;> exact Low.set _ _ _
      · obtain ⟨p, _, h3⟩ := Option.bind_eq_some_iff.1 h2
        obtain ⟨kv, _, h4⟩ := Option.bind_eq_some_iff.1 h3
        obtain ⟨_, _, h5⟩ := Option.bind_eq_some_iff.1 h4
        obtain ⟨r, _, h6⟩ := Option.bind_eq_some_iff.1 h5
        split at h6
        · cases h6
        · cases h6; exact Low.set _ _ _
    · cases h1
  | insert t m k v =>
    have h1 := upd h
    unfold amapUpdate at h1
    split at h1
    · obtain ⟨d, _, h2⟩ := Option.bind_eq_some_iff.1 h1
      split at h2
      · obtain ⟨p, _, h3⟩ := Option.bind_eq_some_iff.1 h2
        obtain ⟨r, _, h4⟩ := Option.bind_eq_some_iff.1 h3
        split at h4 <;> cases h4 <;> exact Low.set _ _ _
      · obtain ⟨p, _, h3⟩ := Option.bind_eq_some_iff.1 h2
        obtain ⟨kv, _, h4⟩ := Option.bind_eq_some_iff.1 h3
        obtain ⟨_, _, h5⟩ := Option.bind_eq_some_iff.1 h4
        obtain ⟨r, _, h6⟩ := Option.bind_eq_some_iff.1 h5
        split at h6
        · cases h6
        · cases h6; exact Low.set _ _ _
    · cases h1
  | range t a =>
    simp only [aexec] at h
    unfold arange0 at h
    split at h
    · split at h
      · cases h; exact Low.push _ _
      · cases h
    · cases h
  | next it b =>
    simp only [aexec] at h
    unfold anext at h
    split at h
    · split at h
      · split at h
        · cases h; exact Low.set _ _ _
        · cases h; exact Low.refl _
      · cases h
    · cases h
  | extract t i => exact same h
  | makeInterface t a => simp only [aexec] at h; split at h <;> cases h; exact Low.refl _
  | _ => simp [aexec] at h

theorem aappend_low {mu : Bool} {t : TypeId} {s x r : AV} (h : aappend P mu S t s x = some (r, S')) : Low S S' := by
  unfold aappend at h
  obtain ⟨p, _, h1⟩ := Option.bind_eq_some_iff.1 h
  obtain ⟨z, _, h2⟩ := Option.bind_eq_some_iff.1 h1
  obtain ⟨i, _, h3⟩ := Option.bind_eq_some_iff.1 h2
  obtain ⟨rows, _, h4⟩ := Option.bind_eq_some_iff.1 h3
  clear h h1 h2 h3
  split at h4
  · cases h4
  · split at h4
    · split at h4
      · cases h4; exact Low.refl _
      · split at h4
        · split at h4 <;> cases h4
          · exact Low.push _ _
          · exact Low.tokN _ _
        · cases h4
    · split at h4
      · cases h4; exact Low.refl _
      · split at h4
        · split at h4
          · split at h4 <;> cases h4
            · exact Low.push _ _
            · exact Low.tokN _ _
          · split at h4 <;> cases h4; exact Low.tokS _ _ _
          · cases h4
          · cases h4
        · cases h4
    · split at h4
      · split at h4
        · cases h4; exact Low.refl _
        · obtain ⟨q, _, h5⟩ := Option.bind_eq_some_iff.1 h4
          split at h5
          · cases h5; exact Low.set _ _ _
          · split at h5 <;> cases h5
            exact (Low.set _ _ _).trans (Low.push _ _)
      · cases h4
    · cases h4

theorem abuiltin_low {mu : Bool} {b : Builtin} {ts : Array TypeId} {ty : TypeId} {args : List AV} {r : AV} (h : abuiltin P mu S b ts ty args = some (r, S')) : Low S S' := by
  unfold abuiltin at h
  split at h
  · obtain ⟨t, _, h1⟩ := Option.bind_eq_some_iff.1 h
    obtain ⟨v, _, he⟩ := Option.map_eq_some_iff.1 h1; cases he; exact Low.refl _
  · obtain ⟨t, _, h1⟩ := Option.bind_eq_some_iff.1 h
    split at h1
    · exact aappend_low h1
    · obtain ⟨tn, _, h1⟩ := Option.bind_eq_some_iff.1 h1
      unfold aappendN at h1
      split at h1
      · obtain ⟨p, _, h2⟩ := Option.bind_eq_some_iff.1 h1
        obtain ⟨z, _, h3⟩ := Option.bind_eq_some_iff.1 h2
        obtain ⟨i, _, h4⟩ := Option.bind_eq_some_iff.1 h3
        split at h4 <;> cases h4; exact Low.push _ _
      · cases h1
  · obtain ⟨t, _, h1⟩ := Option.bind_eq_some_iff.1 h
    split at h1
    · unfold acopy at h1
      obtain ⟨p, _, h2⟩ := Option.bind_eq_some_iff.1 h1
      obtain ⟨rows, _, h3⟩ := Option.bind_eq_some_iff.1 h2
      split at h3
      · cases h3; exact Low.refl _
      · cases h3; exact Low.refl _
      · split at h3
        · obtain ⟨q, _, h4⟩ := Option.bind_eq_some_iff.1 h3
          split at h4 <;> cases h4; exact Low.set _ _ _
        · cases h3
      · cases h3
    · cases h1
  · obtain ⟨vs, _, h1⟩ := Option.bind_eq_some_iff.1 h
    obtain ⟨v, _, he⟩ := Option.map_eq_some_iff.1 h1; cases he; exact Low.refl _
  · obtain ⟨vs, _, h1⟩ := Option.bind_eq_some_iff.1 h
    obtain ⟨v, _, he⟩ := Option.map_eq_some_iff.1 h1; cases he; exact Low.refl _
  · obtain ⟨t, _, h1⟩ := Option.bind_eq_some_iff.1 h
    obtain ⟨S1, h2, he⟩ := Option.map_eq_some_iff.1 h1
    cases he
    unfold aclear at h2
    obtain ⟨p, _, h3⟩ := Option.bind_eq_some_iff.1 h2
    obtain ⟨z, _, h4⟩ := Option.bind_eq_some_iff.1 h3
    split at h4
    · cases h4; exact Low.refl _
    · cases h4; exact Low.refl _
    · split at h4
      · obtain ⟨q, _, h5⟩ := Option.bind_eq_some_iff.1 h4
        split at h5 <;> cases h5; exact Low.set _ _ _
      · split at h4 <;> cases h4; exact Low.refl _
    · cases h4
  · obtain ⟨t, _, h1⟩ := Option.bind_eq_some_iff.1 h
    split at h1 <;> cases h1; exact Low.refl _
  · cases h

/-! ### Values that speak of objects below n alone -/
mutual
def AV.old (n : Nat) : AV → Bool
  | .junk => true
  | .v _ => true
  | .ptr o _ => decide (o < n)
  | .eptr row _ => belowAll n row
  | .lst _ rows => belowRows n rows
  | .slc o _ _ _ _ => decide (o < n)
  | .mp o => decide (o < n)
  | .yld o => decide (o < n)
  | .fn _ a b => belowAll n a && belowAll n b
  | .ifc _ x => x.old n
  | .agg l => belowAll n l
  | .tup l => belowAll n l
def belowAll (n : Nat) : List AV → Bool
  | [] => true
  | x :: l => x.old n && belowAll n l
def belowRows (n : Nat) : List (List AV) → Bool
  | [] => true
  | r :: l => belowAll n r && belowRows n l
end

mutual
/-- Lists whose open end belongs to a token from n on are lists without one. -/
def AV.shut (n : Nat) : AV → AV
  | .junk => .junk
  | .v x => .v x
  | .ptr o b => .ptr o b
  | .eptr row b => .eptr (sealAll n row) b
  | .lst c rows => .lst (match c with | .tok t e s => if t < n then .tok t e s else .unk | c => c) (sealRows n rows)
  | .slc o a b c d => .slc o a b c d
  | .mp o => .mp o
  | .yld o => .yld o
  | .fn f a b => .fn f (sealAll n a) (sealAll n b)
  | .ifc t x => .ifc t (x.shut n)
  | .agg l => .agg (sealAll n l)
  | .tup l => .tup (sealAll n l)
def sealAll (n : Nat) : List AV → List AV
  | [] => []
  | x :: l => x.shut n :: sealAll n l
def sealRows (n : Nat) : List (List AV) → List (List AV)
  | [] => []
  | r :: l => sealAll n r :: sealRows n l
end

theorem belowAll_get {n : Nat} : ∀ {l : List AV}, belowAll n l = true → ∀ (i : Nat) x, l[i]? = some x → x.old n = true
  | [], _, i, x, h => by simp at h
  | a :: l, h, 0, x, hx => by simp [belowAll] at h hx; subst hx; exact h.1
  | a :: l, h, i + 1, x, hx => by simp [belowAll] at h; exact belowAll_get h.2 i x (by simpa using hx)
theorem belowRows_flat {n : Nat} : ∀ {rows : List (List AV)}, belowRows n rows = true → belowAll n rows.flatten = true
  | [], _ => rfl
  | r :: rows, h => by
    simp [belowRows] at h
    have h2 := belowRows_flat h.2
    have app : ∀ (a b : List AV), belowAll n a = true → belowAll n b = true → belowAll n (a ++ b) = true := by
      intro a b ha hb
      induction a with
      | nil => exact hb
      | cons x a ih => simp [belowAll] at ha ⊢; exact ⟨ha.1, ih ha.2⟩
    exact app _ _ h.1 h2

theorem sealAll_len (n : Nat) : ∀ (l : List AV), (sealAll n l).length = l.length
  | [] => rfl
  | _ :: l => by simp [sealAll, sealAll_len n l]
theorem sealAll_get (n : Nat) : ∀ (l : List AV) (i : Nat), (sealAll n l)[i]? = (l[i]?).map (AV.shut n)
  | [], i => by simp [sealAll]
  | a :: l, 0 => by simp [sealAll]
  | a :: l, i + 1 => by simp [sealAll, sealAll_get n l i]
theorem sealAll_app (n : Nat) : ∀ (a b : List AV), sealAll n (a ++ b) = sealAll n a ++ sealAll n b
  | [], b => rfl
  | x :: a, b => by simp [sealAll, sealAll_app n a b]
theorem sealRows_flat (n : Nat) : ∀ (rows : List (List AV)), (sealRows n rows).flatten = sealAll n rows.flatten
  | [] => rfl
  | r :: rows => by simp [sealRows, sealAll_app, sealRows_flat n rows]
theorem sealRows_len (n : Nat) : ∀ (rows : List (List AV)), (sealRows n rows).length = rows.length
  | [] => rfl
  | _ :: l => by simp [sealRows, sealRows_len n l]
theorem sealRows_mem (n : Nat) : ∀ (rows : List (List AV)) (r : List AV), r ∈ sealRows n rows → ∃ r' ∈ rows, r.length = r'.length
  | [], r, h => by simp [sealRows] at h
  | a :: l, r, h => by
    simp only [sealRows, List.mem_cons] at h
    rcases h with rfl | h
    · exact ⟨a, by simp, sealAll_len n a⟩
    · obtain ⟨r', h1, h2⟩ := sealRows_mem n l r h
      exact ⟨r', by simp [h1], h2⟩

end Go.AM
