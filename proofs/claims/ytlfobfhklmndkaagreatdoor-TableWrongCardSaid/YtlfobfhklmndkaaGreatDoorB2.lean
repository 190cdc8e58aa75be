/- The abstract machine: the evaluator along one path of which some steps are told. What is told is written down as an equation and is to be proved. -/
import Derived.Test.YtlfobfhklmndkaaGreatDoorB1
namespace Go.AM
open Go.RowKit

variable {S S' : AS} {C : Cfg} {L : Lw}

/-- Slots by what the living ones hold. -/
def look : List (Nat × AV) → Nat → Option AV
  | [], _ => none
  | (i, x) :: r, j => match Nat.beq i j with | true => some x | false => look r j

def mkTmps (N : Nat) (live : List (Nat × AV)) (g : Nat → AV) : List AV := (List.range N).map fun j => (look live j).getD (g j)

def HasL : List (Nat × AV) → List AV → Prop
  | [], _ => True
  | p :: r, l => l[p.1]? = some p.2 ∧ HasL r l

theorem HasL.look : ∀ {live : List (Nat × AV)} {l : List AV} {j : Nat} {x : AV}, HasL live l → Go.AM.look live j = some x → l[j]? = some x
  | [], _, _, _, _, h => by cases h
  | (i, y) :: r, l, j, x, h, hx => by
    simp only [Go.AM.look] at hx
    split at hx
    · rename_i he
      cases hx
      have := Nat.eq_of_beq_eq_true he
      subst this
      exact h.1
    · exact HasL.look h.2 hx

theorem mkTmps_of {N : Nat} {live : List (Nat × AV)} {l : List AV} (hl : l.length = N) (h : HasL live l) : l = mkTmps N live (fun j => (l[j]?).getD undefA) := by
  refine List.ext_getElem? fun j => ?_
  simp only [mkTmps, List.getElem?_map]
  by_cases hj : j < N
  · rw [List.getElem?_range hj]
    have : l[j]? = some (l[j]'(by omega)) := List.getElem?_eq_getElem (by omega)
    simp only [Option.map_some]
    cases hk : Go.AM.look live j with
    | some x => rw [h.look hk]; rfl
    | none => rw [this]; rfl
  · rw [List.getElem?_eq_none (by omega), List.getElem?_eq_none (by simp; omega)]; rfl

structure In (N : Nat) (m : List Nat) (live : List (Nat × AV)) (a : AAct) : Prop where
  marks : a.marks = m
  len : a.tmps.length = N
  has : HasL live a.tmps

theorem In.eq {N : Nat} {m : List Nat} {live : List (Nat × AV)} {a : AAct} (h : In N m live a) : a = ⟨mkTmps N live (fun j => (a.tmps[j]?).getD undefA), m⟩ := by
  obtain ⟨l, mk⟩ := a
  have h1 := h.marks
  have h2 := mkTmps_of h.len h.has
  dsimp only at h1 h2 ⊢
  rw [← h1, ← h2]

/-- How a piece of code ends. -/
def Seen (r : Option (Exit × AAct × AS)) (e : Exit) (N : Nat) (m : List Nat) (live : List (Nat × AV)) (S' : AS) : Prop := ∃ a', r = some (e, a', S') ∧ In N m live a'

/-- What is told: a condition; the value of a step that leaves the store as it is; the value and the store behind a step; how a loop ends, by its living slots. -/
inductive Tell where
  | b (d : Bool)
  | fr (x : AV)
  | op (x : AV) (S : AS)
  | lp (js : List Nat) (e : Exit) (live1 : List (Nat × AV)) (S1 : AS) (γ : AAct → Nat → AV)
  | rf (js : List Nat) (e : Exit) (S1 : AS)

/-- A loop over a function leaves its mark. -/
def marksR (rd : Option Nat) (S : AS) (m : List Nat) : List Nat := match rd with | none => S.objs.length :: m | some _ => m
/-- A loop over a function: how it ends; the slots stay. -/
def RangeIs (C : Cfg) (L : Lw) (k : Nat) (hf : FuncId) (rd : Option Nat) (c : Code) (N : Nat) (m : List Nat) (live : List (Nat × AV)) (S : AS) (e : Exit) (S1 : AS) : Prop :=
  ∀ a, In N m live a → aC C L k hf rd c a S = some (e, { a with marks := marksR rd S a.marks }, S1)

def LoopIs (C : Cfg) (L : Lw) (k : Nat) (hf : FuncId) (rd : Option Nat) (c : Code) (N : Nat) (m : List Nat) (live : List (Nat × AV)) (S : AS) (e : Exit) (live1 : List (Nat × AV)) (S1 : AS) (γ : AAct → Nat → AV) : Prop :=
  ∀ a, In N m live a → aC C L k hf rd c a S = some (e, ⟨mkTmps N live1 (γ a), m⟩, S1)

theorem LoopIs.of {C : Cfg} {L : Lw} {k : Nat} {hf : FuncId} {rd : Option Nat} {c : Code} {N : Nat} {m : List Nat} {live : List (Nat × AV)} {S : AS} {e : Exit} {live1 : List (Nat × AV)} {S1 : AS}
    (h : ∀ a, In N m live a → Seen (aC C L k hf rd c a S) e N m live1 S1) : ∃ γ, LoopIs C L k hf rd c N m live S e live1 S1 γ := by
  classical
  refine ⟨fun a => if ha : In N m live a then fun j => ((Classical.choose (h a ha)).tmps[j]?).getD undefA else fun _ => undefA, fun a ha => ?_⟩
  obtain ⟨h1, h2⟩ := Classical.choose_spec (h a ha)
  rw [h1]
  simp only [ha, dif_pos]
  rw [← h2.eq]

def liveOf (js : List Nat) (l : List AV) : List (Nat × AV) := js.map fun j => (j, (l[j]?).getD undefA)

theorem liveOf_has {l : List AV} : ∀ (js : List Nat), (js.all fun j => Nat.blt j l.length) = true → HasL (liveOf js l) l
  | [], _ => trivial
  | j :: js, h => by
    simp only [List.all_cons, Bool.and_eq_true] at h
    have hj : j < l.length := by have := h.1; rwa [Nat.blt_eq] at this
    refine ⟨?_, liveOf_has js h.2⟩
    simp [List.getElem?_eq_getElem hj]

abbrev Tells := List (Nat × Tell)
abbrev PC := List Prop

def PC.ok : PC → Prop
  | [] => True
  | p :: ps => p ∧ PC.ok ps

theorem PC.left : ∀ {a b : PC}, PC.ok (a ++ b) → PC.ok a
  | [], _, _ => trivial
  | _ :: _, _, h => ⟨h.1, PC.left h.2⟩
theorem PC.right : ∀ {a b : PC}, PC.ok (a ++ b) → PC.ok b
  | [], _, h => h
  | _ :: _, _, h => PC.right h.2

def nextT : Tells → Option Tell × Tells
  | [] => (none, [])
  | (0, t) :: ds => (some t, ds)
  | (k + 1, t) :: ds => (none, (k, t) :: ds)

def ubool (b : Bool) (ds : Tells) : Option (Bool × Tells × PC) :=
  match nextT ds with
  | (none, ds') => some (b, ds', [])
  | (some (.b d), ds') => some (d, ds', [b = d])
  | _ => none

theorem ubool_ok {b d : Bool} {ds ds' : Tells} {cs : PC} (h : ubool b ds = some (d, ds', cs)) (hc : cs.ok) : b = d := by
  unfold ubool at h
  split at h
  · cases h; rfl
  · cases h; exact hc.1
  · cases h

def utest : AV → Tells → Option (Bool × Tells × PC)
  | .v (.bool b), ds => ubool b ds
  | _, _ => none

theorem utest_ok {x : AV} {ds ds' : Tells} {d : Bool} {cs : PC} (h : utest x ds = some (d, ds', cs)) (hc : cs.ok) : x = .v (.bool d) := by
  unfold utest at h
  split at h
  · rw [ubool_ok h hc]
  · cases h

def uguard (ops : Array Oper) (l : List AV) (o : Oper) (ds : Tells) : Option (Bool × Tells × PC) :=
  match o.guard with
  | none => some (true, ds, [])
  | some (j, want) =>
    match ((ops[j]?).bind (·.dst)).bind (l[·]?) with
    | some (.v (.bool b)) => match ubool b ds with | some (d, ds', cs) => some (d == want, ds', cs) | none => none
    | some (.v _) => some (false, ds, [])
    | _ => none

theorem uguard_ok {ops : Array Oper} {l : List AV} {o : Oper} {ds ds' : Tells} {b : Bool} {cs : PC} (h : uguard ops l o ds = some (b, ds', cs)) (hc : cs.ok) : awanted ops l o = some b := by
  unfold uguard at h
  unfold awanted
  split at h
  · rename_i hg; cases h; rw [hg]
  · rename_i j want hg
    rw [hg]
    unfold aslot
    dsimp only
    split at h
    · rename_i b0 hs
      rw [hs]
      split at h
      · rename_i d ds1 c1 ht
        cases h
        rw [ubool_ok ht hc]
        cases d <;> cases want <;> rfl
      · cases h
    · rename_i x hnb hs
      cases h
      rw [hs]
      cases x with
      | bool b => exact absurd rfl (hnb b)
      | _ => rfl
    · cases h

def udo (C : Cfg) (L : Lw) (mu : Bool) (o : Oper) (ρ : Operand → AV) (S : AS) (ds : Tells) : Option (AV × AS × Tells × PC) :=
  match o.op with
  | .pick c a b => match utest (ρ c) ds with | some (d, ds', cs) => some (match d with | true => ρ a | false => ρ b, S, ds', cs) | none => none
  | _ =>
    match nextT ds with
    | (none, ds') => match adoOp C L mu o ρ S with | some (x, S') => some (x, S', ds', []) | none => none
    | (some (.fr x), ds') => some (x, S, ds', [∀ S, adoOp C L mu o ρ S = some (x, S)])
    | (some (.op x S'), ds') => some (x, S', ds', [adoOp C L mu o ρ S = some (x, S')])
    | (some (.b d), ds') => match adoOp C L mu o ρ S with | some (.v (.bool b), S') => some (.v (.bool d), S', ds', [b = d]) | _ => none
    | _ => none

theorem udo_ok {mu : Bool} {o : Oper} {ρ : Operand → AV} {ds ds' : Tells} {x : AV} {cs : PC} (h : udo C L mu o ρ S ds = some (x, S', ds', cs)) (hc : cs.ok) : adoOp C L mu o ρ S = some (x, S') := by
  unfold udo at h
  split at h
  · rename_i c a b ho
    split at h
    · rename_i d ds1 c1 h1
      cases h
      unfold adoOp
      rw [ho]
      simp only [aexec, utest_ok h1 hc]
      cases d <;> rfl
    · cases h
  · split at h
    · split at h
      · rename_i h1; cases h; exact h1
      · cases h
    · cases h; exact hc.1 S
    · cases h; exact hc.1
    · split at h
      · rename_i h1; cases h; rw [h1, hc.1]
      · cases h
    · cases h

def ustep (C : Cfg) (L : Lw) (mu : Bool) (ops : Array Oper) (o : Oper) (l : List AV) (S : AS) (ds : Tells) : Option (AV × AS × Tells × PC) :=
  match uguard ops l o ds with
  | some (true, ds1, c1) => match udo C L mu o (aeval l) S ds1 with | some (x, S', ds2, c2) => some (x, S', ds2, c1 ++ c2) | none => none
  | some (false, ds1, c1) => some (undefA, S, ds1, c1)
  | none => none

theorem ustep_ok {mu : Bool} {ops : Array Oper} {o : Oper} {l : List AV} {ds ds' : Tells} {x : AV} {cs : PC} (h : ustep C L mu ops o l S ds = some (x, S', ds', cs)) (hc : cs.ok) : astep C L mu ops o l S = some (x, S') := by
  unfold ustep at h
  unfold astep
  split at h
  · rename_i h1
    split at h
    · rename_i h2
      cases h
      rw [uguard_ok h1 (PC.left hc)]
      exact udo_ok h2 (PC.right hc)
    · cases h
  · rename_i h1
    cases h
    rw [uguard_ok h1 hc]
  · cases h

def uOps (C : Cfg) (L : Lw) (mu : Bool) (ops : Array Oper) : List Oper → List AV → AS → Tells → Option (List AV × AS × Tells × PC)
  | [], l, S, ds => some (l, S, ds, [])
  | o :: rest, l, S, ds =>
    match ustep C L mu ops o l S ds with
    | some (x, S1, ds1, c1) => match uOps C L mu ops rest (aput l o.dst x) S1 ds1 with | some (l2, S2, ds2, c2) => some (l2, S2, ds2, c1 ++ c2) | none => none
    | none => none

theorem uOps_ok {mu : Bool} {ops : Array Oper} : ∀ (os : List Oper) {l l' : List AV} {S S' : AS} {ds ds' : Tells} {cs : PC}, uOps C L mu ops os l S ds = some (l', S', ds', cs) → cs.ok → aOps C L mu ops os l S = some (l', S')
  | [], l, l', S, S', ds, ds', cs, h, _ => by simp only [uOps] at h; cases h; rfl
  | o :: os, l, l', S, S', ds, ds', cs, h, hc => by
    simp only [uOps] at h
    simp only [aOps]
    split at h
    · rename_i h1
      split at h
      · rename_i h2
        cases h
        rw [ustep_ok h1 (PC.left hc)]
        exact uOps_ok os h2 (PC.right hc)
      · cases h
    · cases h

/-- Of what kind the step is that comes: is it told to leave the store as it is? -/
def frNext (ops : Array Oper) (l : List AV) (o : Oper) (ds : Tells) : Bool :=
  match uguard ops l o ds with
  | some (true, ds1, _) => match o.op with | .pick _ _ _ => false | _ => match nextT ds1 with | (some (.fr _), _) => true | _ => false
  | _ => false

def utag (C : Cfg) (L : Lw) (mu : Bool) (ops : Array Oper) (o : Oper) (l : List AV) (S : AS) (ds : Tells) : Option (AV × AS × Tag × Tells × PC) :=
  match ustep C L mu ops o l (amark S) ds with
  | some (x, S', ds', cs) =>
    match frNext ops l o ds with
    | true => some (x, S, (apu mu ops o l, true, stabOp C (aeval l) o, rwOf ops l o), ds', cs)
    | false => if apu mu ops o l || asame S S' then some (x, S, (apu mu ops o l, true, stabOp C (aeval l) o, rwOf ops l o), ds', cs) else some (x, aunmark S S', (false, false, false, rwOf ops l o), ds', cs)
  | none => none

theorem asame_mark (S : AS) : asame S (amark S) = true := by simp [asame, akept, amark]

theorem frNext_same {mu : Bool} {ops : Array Oper} {o : Oper} {l : List AV} {ds ds' : Tells} {x : AV} {cs : PC} (hf : frNext ops l o ds = true) (h : ustep C L mu ops o l S ds = some (x, S', ds', cs)) : S' = S := by
  unfold frNext at hf
  unfold ustep at h
  split at hf
  · rename_i ds1 c1 hg
    rw [hg] at h
    dsimp only at h
    unfold udo at h
    split at hf
    · cases hf
    · rename_i hp
      split at hf
      · rename_i x0 ds2 hn
        split at h
        · rename_i h2
          split at h2
          · rename_i hpk; exact absurd hpk (hp _ _ _)
          · rw [hn] at h2
            cases h2
            cases h
            rfl
        · cases h
      · cases hf
  · cases hf

theorem utag_ok {mu : Bool} {ops : Array Oper} {o : Oper} {l : List AV} {ds ds' : Tells} {x : AV} {t : Tag} {cs : PC} (h : utag C L mu ops o l S ds = some (x, S', t, ds', cs)) (hc : cs.ok) : atag C L mu ops o l S = some (x, S', t) := by
  unfold utag at h
  unfold atag
  split at h
  · rename_i x1 S1 ds1 cs1 h1
    split at h
    · rename_i hf
      cases h
      rw [ustep_ok h1 hc]
      have := frNext_same hf h1
      subst this
      simp only [asame_mark, Bool.or_true, if_true]
    · split at h
      · rename_i hq; cases h; rw [ustep_ok h1 hc]; simp only [hq, if_true]
      · rename_i hq; cases h; rw [ustep_ok h1 hc]; simp only [hq]; rfl
  · cases h

def uTags (C : Cfg) (L : Lw) (mu : Bool) (ops : Array Oper) : List Oper → List AV → AS → Tells → Option (List AV × AS × List Tag × Tells × PC)
  | [], l, S, ds => some (l, S, [], ds, [])
  | o :: rest, l, S, ds =>
    match utag C L mu ops o l S ds with
    | some (x, S1, t, ds1, c1) =>
      match uTags C L mu ops rest (aput l o.dst x) S1 ds1 with
      | some (l2, S2, ts, ds2, c2) => some (l2, S2, t :: ts, ds2, c1 ++ c2)
      | none => none
    | none => none

theorem uTags_ok {mu : Bool} {ops : Array Oper} : ∀ (os : List Oper) {l l' : List AV} {S S' : AS} {ts : List Tag} {ds ds' : Tells} {cs : PC}, uTags C L mu ops os l S ds = some (l', S', ts, ds', cs) → cs.ok → aTags C L mu ops os l S = some (l', S', ts)
  | [], l, l', S, S', ts, ds, ds', cs, h, _ => by simp only [uTags] at h; cases h; rfl
  | o :: os, l, l', S, S', ts, ds, ds', cs, h, hc => by
    simp only [uTags] at h
    simp only [aTags]
    split at h
    · rename_i h1
      split at h
      · rename_i h2
        cases h
        rw [utag_ok h1 (PC.left hc)]
        dsimp only
        rw [uTags_ok os h2 (PC.right hc)]
      · cases h
    · cases h

def uDraw (C : Cfg) (L : Lw) (mu : Bool) (ops : Array Oper) (l : List AV) (S : AS) (ds : Tells) : Option (List AV × AS × Tells × PC) :=
  match manyA ops with
  | true =>
    match preA C (allocsP ops) l S with
    | some (l1, S1) =>
      match uTags C L mu ops ((othersP ops).map (·.2)) l1 S1 ds with
      | some (l', S', ts, ds', cs) => if Region.noSelect ops && aback ops && aPairs2 ops ts then some (l', S', ds', cs) else none
      | none => none
    | none => none
  | false =>
    match uTags C L mu ops ops.toList l S ds with
    | some (l', S', ts, ds', cs) => if Region.noSelect ops && aback ops && aPairs ops ts then some (l', S', ds', cs) else none
    | none => none

theorem uDraw_ok {mu : Bool} {ops : Array Oper} {l l' : List AV} {ds ds' : Tells} {cs : PC} (h : uDraw C L mu ops l S ds = some (l', S', ds', cs)) (hc : cs.ok) : aDraw C L mu ops l S = some (l', S') := by
  unfold uDraw at h
  unfold aDraw
  split at h
  · rename_i hm
    rw [hm]
    dsimp only
    unfold aDraw2
    split at h
    · rename_i h0
      split at h
      · rename_i h1
        split at h
        · rename_i h2; cases h; rw [h0]; dsimp only; rw [uTags_ok _ h1 hc]; simp only [h2, if_true]
        · cases h
      · cases h
    · cases h
  · rename_i hm
    rw [hm]
    dsimp only
    unfold aDraw1
    split at h
    · rename_i h1
      split at h
      · rename_i h2; cases h; rw [uTags_ok _ h1 hc]; simp only [h2, if_true]
      · cases h
    · cases h

abbrev UOut := Exit × AAct × AS × Tells × PC

def uloop (f : AAct → AS → Tells → Option UOut) : Nat → AAct → AS → Tells → Option UOut
  | 0, _, _, _ => none
  | k + 1, a, S, ds =>
    match f a S ds with
    | some (.normal, a1, S1, ds1, c1) => match uloop f k a1 S1 ds1 with | some (e, a2, S2, ds2, c2) => some (e, a2, S2, ds2, c1 ++ c2) | none => none
    | r => r

def uBody (C : Cfg) (hf : FuncId) (c : Code) (n0 : Nat) (run : AAct → AS → Tells → Option UOut) (a : AAct) (S : AS) (ds : Tells) : Option UOut :=
  match run a S ds with
  | some (.normal, a', S', ds1, c1) =>
    match hintD C hf c with
    | some js => (match ubool (trimOK js n0 a' S') ds1 with | some (true, ds2, c2) => some (.normal, trimA js a', trimS n0 S', ds2, c1 ++ c2) | _ => none)
    | none => some (.normal, a', S', ds1, c1)
  | r => r

theorem uBody_ok {hf : FuncId} {c : Code} {n0 : Nat} {run : AAct → AS → Tells → Option UOut} {f : AAct → AS → Option (Exit × AAct × AS)} (h : ∀ {a a' : AAct} {S S' : AS} {e : Exit} {ds ds' : Tells} {cs : PC}, run a S ds = some (e, a', S', ds', cs) → cs.ok → f a S = some (e, a', S'))
    {a a' : AAct} {S S' : AS} {e : Exit} {ds ds' : Tells} {cs : PC} (hu : uBody C hf c n0 run a S ds = some (e, a', S', ds', cs)) (hc : cs.ok) : aBody C hf c n0 f a S = some (e, a', S') := by
  unfold uBody at hu
  unfold aBody
  split at hu
  · rename_i h1
    split at hu
    · rename_i js hj
      split at hu
      · rename_i h2
        cases hu
        rw [h h1 (PC.left hc)]
        dsimp only
        rw [hj]
        dsimp only
        rw [ubool_ok h2 (PC.right hc)]
      · cases hu
    · rename_i hj
      cases hu
      rw [h h1 hc]
      dsimp only
      rw [hj]
  · rename_i hne
    rw [h hu hc]
    cases e with
    | normal => exact absurd hu (hne _ _ _ _)
    | _ => rfl

/-- A loop, or another piece of code: told as a whole, or run. -/
def ucode (C : Cfg) (L : Lw) (k : Nat) (hf : FuncId) (rd : Option Nat) (c : Code) (a : AAct) (S : AS) (ds : Tells) (run : Tells → Option UOut) : Option UOut :=
  match nextT ds with
  | (some (.lp js e live1 S1 γ), ds') =>
    match js.all fun j => Nat.blt j a.tmps.length with
    | true => some (e, ⟨mkTmps a.tmps.length live1 (γ a), a.marks⟩, S1, ds', [LoopIs C L k hf rd c a.tmps.length a.marks (liveOf js a.tmps) S e live1 S1 γ])
    | false => none
  | (none, ds') => run ds'
  | _ => none

def urange (C : Cfg) (L : Lw) (k : Nat) (hf : FuncId) (rd : Option Nat) (c : Code) (a : AAct) (S : AS) (ds : Tells) : Option UOut :=
  match nextT ds with
  | (some (.rf js e S1), ds') =>
    match js.all fun j => Nat.blt j a.tmps.length with
    | true => some (e, { a with marks := marksR rd S a.marks }, S1, ds', [RangeIs C L k hf rd c a.tmps.length a.marks (liveOf js a.tmps) S e S1])
    | false => none
  | (none, ds') => match aC C L k hf rd c a S with | some (e, a1, S1) => some (e, a1, S1, ds', []) | none => none
  | _ => none

theorem urange_ok {k : Nat} {hf : FuncId} {rd : Option Nat} {c : Code} {a a' : AAct} {e : Exit} {ds ds' : Tells} {cs : PC} (h : urange C L k hf rd c a S ds = some (e, a', S', ds', cs)) (hc : cs.ok) : aC C L k hf rd c a S = some (e, a', S') := by
  unfold urange at h
  split at h
  · split at h
    · rename_i hj; cases h; exact hc.1 a ⟨rfl, rfl, liveOf_has _ hj⟩
    · cases h
  · split at h
    · rename_i h1; cases h; exact h1
    · cases h
  · cases h

def uC (C : Cfg) (L : Lw) (k : Nat) (hf : FuncId) (rd : Option Nat) : Code → AAct → AS → Tells → Option UOut
  | .seq x y, a, S, ds =>
    match uC C L k hf rd x a S ds with
    | some (.normal, a1, S1, ds1, c1) => match uC C L k hf rd y a1 S1 ds1 with | some (e, a2, S2, ds2, c2) => some (e, a2, S2, ds2, c1 ++ c2) | none => none
    | r => r
  | .cond c x y, a, S, ds =>
    match utest (aeval a.tmps c) ds with
    | some (true, ds1, c1) => match uC C L k hf rd x a S ds1 with | some (e, a2, S2, ds2, c2) => some (e, a2, S2, ds2, c1 ++ c2) | none => none
    | some (false, ds1, c1) => match uC C L k hf rd y a S ds1 with | some (e, a2, S2, ds2, c2) => some (e, a2, S2, ds2, c1 ++ c2) | none => none
    | none => none
  | .block id c, a, S, ds =>
    match uC C L k hf rd c a S ds with
    | some (.exit id', a1, S1, ds1, c1) => if Nat.beq id' id then some (.normal, a1, S1, ds1, c1) else some (.exit id', a1, S1, ds1, c1)
    | r => r
  | .loop c, a, S, ds => ucode C L k hf rd (.loop c) a S ds fun ds => uloop (uBody C hf c S.objs.length (uC C L k hf rd c)) k a S ds
  | .region id ops false, a, S, ds =>
    match uOps C L (C.H hf id) ops ops.toList a.tmps S ds with
    | some (l, S1, ds1, c1) => some (.normal, { a with tmps := l }, S1, ds1, c1)
    | none => none
  | .region id ops true, a, S, ds =>
    match uDraw C L (C.H hf id) ops a.tmps S ds with
    | some (l, S1, ds1, c1) => some (.normal, { a with tmps := l }, S1, ds1, c1)
    | none => none
  | .rangeFunc g ps asg body, a, S, ds => urange C L k hf rd (.rangeFunc g ps asg body) a S ds
  | c, a, S, ds => match aC C L k hf rd c a S with | some (e, a1, S1) => some (e, a1, S1, ds, []) | none => none

theorem ucode_ok {k : Nat} {hf : FuncId} {rd : Option Nat} {c : Code} {a a' : AAct} {e : Exit} {ds ds' : Tells} {cs : PC} {run : Tells → Option UOut} (h : ucode C L k hf rd c a S ds run = some (e, a', S', ds', cs)) (hc : cs.ok)
    (hr : ∀ ds0, run ds0 = some (e, a', S', ds', cs) → aC C L k hf rd c a S = some (e, a', S')) : aC C L k hf rd c a S = some (e, a', S') := by
  unfold ucode at h
  split at h
  · split at h
    · rename_i hj; cases h; exact hc.1 a ⟨rfl, rfl, liveOf_has _ hj⟩
    · cases h
  · exact hr _ h
  · cases h

theorem uC_ok {k : Nat} {hf : FuncId} {rd : Option Nat} : ∀ (c : Code) {a a' : AAct} {S S' : AS} {e : Exit} {ds ds' : Tells} {cs : PC}, uC C L k hf rd c a S ds = some (e, a', S', ds', cs) → cs.ok → aC C L k hf rd c a S = some (e, a', S') := by
  have base : ∀ {c : Code} {a a' : AAct} {S S' : AS} {e : Exit} {ds ds' : Tells} {cs : PC}, (match aC C L k hf rd c a S with | some (e, a1, S1) => some (e, a1, S1, ds, []) | none => none) = some (e, a', S', ds', cs) → aC C L k hf rd c a S = some (e, a', S') := by
    intro c a a' S S' e ds ds' cs h
    split at h
    · rename_i h1; cases h; exact h1
    · cases h
  intro c
  induction c with
  | seq x y ihx ihy =>
    intro a a' S S' e ds ds' cs h hc
    simp only [uC] at h
    simp only [aC]
    split at h
    · rename_i h1
      split at h
      · rename_i h2; cases h; rw [ihx h1 (PC.left hc)]; exact ihy h2 (PC.right hc)
      · cases h
    · rename_i hne
      rw [ihx h hc]
      cases e with
      | normal => exact absurd h (hne _ _ _ _)
      | _ => rfl
  | cond c x y ihx ihy =>
    intro a a' S S' e ds ds' cs h hc
    simp only [uC] at h
    simp only [aC]
    split at h
    · rename_i h1
      split at h
      · rename_i h2; cases h; rw [utest_ok h1 (PC.left hc)]; exact ihx h2 (PC.right hc)
      · cases h
    · rename_i h1
      split at h
      · rename_i h2; cases h; rw [utest_ok h1 (PC.left hc)]; exact ihy h2 (PC.right hc)
      · cases h
    · cases h
  | block id c ih =>
    intro a a' S S' e ds ds' cs h hc
    simp only [uC] at h
    simp only [aC]
    split at h
    · rename_i h1
      split at h
      · rename_i hb; cases h; rw [ih h1 hc]; simp only [hb, if_true]
      · rename_i hb; cases h; rw [ih h1 hc]; simp only [hb]; rfl
    · rename_i hne
      rw [ih h hc]
      cases e with
      | exit i => exact absurd h (hne _ _ _ _ _)
      | _ => rfl
  | loop c ih =>
    intro a a' S S' e ds ds' cs h hc
    simp only [uC] at h
    refine ucode_ok h hc fun ds0 hr => ?_
    simp only [aC]
    have key : ∀ (n0 j : Nat) {a : AAct} {S : AS} {ds ds' : Tells} {cs : PC}, uloop (uBody C hf c n0 (uC C L k hf rd c)) j a S ds = some (e, a', S', ds', cs) → cs.ok → aloop (aBody C hf c n0 (aC C L k hf rd c)) j a S = some (e, a', S') := by
      intro n0 j
      induction j with
      | zero => intro a S ds ds' cs h; simp [uloop] at h
      | succ j ihj =>
        intro a S ds ds' cs h hc
        simp only [uloop] at h
        simp only [aloop]
        split at h
        · rename_i h1
          split at h
          · rename_i h2; cases h; rw [uBody_ok (run := uC C L k hf rd c) (f := aC C L k hf rd c) ih h1 (PC.left hc)]; exact ihj h2 (PC.right hc)
          · cases h
        · rename_i hne
          rw [uBody_ok (run := uC C L k hf rd c) (f := aC C L k hf rd c) ih h hc]
          cases e with
          | normal => exact absurd h (hne _ _ _ _)
          | _ => rfl
    exact key S.objs.length k hr hc
  | region id ops d =>
    intro a a' S S' e ds ds' cs h hc
    cases d with
    | false =>
      simp only [uC] at h
      simp only [aC]
      split at h
      · rename_i h1; cases h; rw [uOps_ok _ h1 hc]
      · cases h
    | true =>
      simp only [uC] at h
      simp only [aC]
      split at h
      · rename_i h1; cases h; rw [uDraw_ok h1 hc]
      · cases h
  | rangeFunc g ps asg body _ _ =>
    intro a a' S S' e ds ds' cs h hc
    simp only [uC] at h
    exact urange_ok h hc
  | _ => intro a a' S S' e ds ds' cs h hc; simp only [uC] at h; exact base (ds := ds) h

/-- The code of a function. -/
def codeOf (P : Program) (f : FuncId) : Code :=
  match P.funcs[f]? with
  | some fn => match fn.body with | some c => c | none => .skip
  | none => .skip
def tmpsOf (P : Program) (f : FuncId) : Nat :=
  match P.funcs[f]? with
  | some fn => fn.ntmps
  | none => 0
def resultsOf (P : Program) (f : FuncId) : List ResultVar :=
  match P.funcs[f]? with
  | some fn => fn.results.toList
  | none => []
def isFunc (P : Program) (f : FuncId) : Bool :=
  match P.funcs[f]? with
  | some fn => fn.body.isSome
  | none => false

/-- A part of some code. -/
def codeAt : Code → List Nat → Code
  | c, [] => c
  | .seq x y, i :: is => match i with | 0 => codeAt x is | _ => codeAt y is
  | .cond _ x y, i :: is => match i with | 0 => codeAt x is | _ => codeAt y is
  | .block _ c, _ :: is => codeAt c is
  | .loop c, _ :: is => codeAt c is
  | .rangeFunc _ _ x y, i :: is => match i with | 0 => codeAt x is | _ => codeAt y is
  | c, _ => c

def actOf (P : Program) (f : FuncId) (args : List AV) : AAct := { tmps := args ++ List.replicate (tmpsOf P f - args.length) undefA, marks := [] }

theorem acallF_code {k : Nat} {f : FuncId} {args : List AV} {S1 : AS} {e : Exit} {a : AAct} {xs : List AV} {S2 : AS} (hi : isFunc C.P f = true)
    (h : aC C L k f none (codeOf C.P f) (actOf C.P f args) (amark S) = some (e, a, S1)) (he : e = .normal ∨ e = .ret) (hk : akill a.marks S1 = some S2) (hr : aresults C.P a.tmps S2 (resultsOf C.P f) = some xs) :
    acallF C L k f args S = if akept S S2 && (aone xs).old S.objs.length then some ((aone xs).shut S.ends.length, S) else some (aone xs, aunmark S S2) := by
  unfold isFunc at hi
  unfold codeOf actOf tmpsOf at h
  unfold resultsOf at hr
  unfold acallF
  split at hi
  · rename_i fn hf
    rw [hf] at h hr ⊢
    dsimp only at h hr ⊢
    obtain ⟨c, hb⟩ := Option.isSome_iff_exists.1 hi
    rw [hb] at h ⊢
    dsimp only at h ⊢
    rw [h]
    rcases he with rfl | rfl <;> · dsimp only; unfold aleave; rw [hk]; dsimp only; rw [hr]
  · cases hi

/-- What is seen of a path. -/
def uwatch (ws : List Nat) (r : Option UOut) : Option (Exit × List (Nat × AV) × Nat × List Nat × AS × Tells × PC) :=
  match r with
  | some (e, a, S, ds, cs) => match ws.all fun j => Nat.blt j a.tmps.length with | true => some (e, liveOf ws a.tmps, a.tmps.length, a.marks, S, ds, cs) | false => none
  | none => none

theorem seg_ok {k : Nat} {hf : FuncId} {rd : Option Nat} {c : Code} {a : AAct} {S S' : AS} {N N' : Nat} {m m' : List Nat} {live vals : List (Nat × AV)} {e : Exit} {ds ds' : Tells} {cs : PC} {ws : List Nat} (ha : In N m live a)
    (h : ∀ g, uwatch ws (uC C L k hf rd c ⟨mkTmps N live g, m⟩ S ds) = some (e, vals, N', m', S', ds', cs)) (hc : cs.ok) : Seen (aC C L k hf rd c a S) e N' m' vals S' := by
  have := h (fun j => (a.tmps[j]?).getD undefA)
  rw [← ha.eq] at this
  unfold uwatch at this
  split at this
  · rename_i h1
    split at this
    · rename_i hj
      cases this
      exact ⟨_, uC_ok _ h1 hc, rfl, rfl, liveOf_has _ hj⟩
    · cases this
  · cases this

theorem segB_ok {k : Nat} {hf : FuncId} {rd : Option Nat} {c : Code} {n0 : Nat} {a : AAct} {S S' : AS} {N N' : Nat} {m m' : List Nat} {live vals : List (Nat × AV)} {e : Exit} {ds ds' : Tells} {cs : PC} {ws : List Nat} (ha : In N m live a)
    (h : ∀ g, uwatch ws (uBody C hf c n0 (uC C L k hf rd c) ⟨mkTmps N live g, m⟩ S ds) = some (e, vals, N', m', S', ds', cs)) (hc : cs.ok) : Seen (aBody C hf c n0 (aC C L k hf rd c) a S) e N' m' vals S' := by
  have := h (fun j => (a.tmps[j]?).getD undefA)
  rw [← ha.eq] at this
  unfold uwatch at this
  split at this
  · rename_i h1
    split at this
    · rename_i hj
      cases this
      exact ⟨_, uBody_ok (run := uC C L k hf rd c) (f := aC C L k hf rd c) (uC_ok _) h1 hc, rfl, rfl, liveOf_has _ hj⟩
    · cases this
  · cases this

/-- The value of a call along a path, and the store behind it. -/
def uend (P : Program) (f : FuncId) (r : Option UOut) : Option (AV × AS × PC) :=
  match r with
  | some (e, a, S, [], cs) =>
    match e with
    | .normal => match akill a.marks S with | some S2 => (match aresults P a.tmps S2 (resultsOf P f) with | some xs => some (aone xs, S2, cs) | none => none) | none => none
    | .ret => match akill a.marks S with | some S2 => (match aresults P a.tmps S2 (resultsOf P f) with | some xs => some (aone xs, S2, cs) | none => none) | none => none
    | _ => none
  | _ => none

/-- A call in a store, along a path. -/
def uleave (C : Cfg) (f : FuncId) (S : AS) (r : Option UOut) : Option (AV × AS × PC) :=
  match C.P.funcs[f]? with
  | some fn =>
    match r with
    | some (e, a, S1, [], cs) =>
      match e with
      | .normal => (match aleave C fn S a S1 with | some (x, S') => some (x, S', cs) | none => none)
      | .ret => (match aleave C fn S a S1 with | some (x, S') => some (x, S', cs) | none => none)
      | _ => none
    | _ => none
  | none => none

theorem call_path {n : Nat} {f : FuncId} {args : List AV} {x : AV} {ds : Tells} {cs : PC} (hi : isFunc C.P f = true)
    (h : uleave C f S (uC C (lower C n) (n + 1) f none (codeOf C.P f) (actOf C.P f args) (amark S) ds) = some (x, S', cs)) (hc : cs.ok) : acallF C (lower C n) (n + 1) f args S = some (x, S') := by
  unfold uleave at h
  unfold isFunc at hi
  unfold codeOf actOf tmpsOf at h
  unfold acallF
  split at h
  · rename_i fn hf
    rw [hf] at hi ⊢
    dsimp only at h hi ⊢
    obtain ⟨c, hb⟩ := Option.isSome_iff_exists.1 hi
    rw [hb] at h ⊢
    dsimp only at h ⊢
    split at h
    · rename_i h1
      split at h
      · split at h
        · rename_i h2; cases h; rw [uC_ok _ h1 hc]; exact h2
        · cases h
      · split at h
        · rename_i h2; cases h; rw [uC_ok _ h1 hc]; exact h2
        · cases h
      · cases h
    · cases h
  · cases h


/-- A yield, along a path. -/
def uyield (C : Cfg) (L : Lw) (k : Nat) (o : Nat) (args : List AV) (S : AS) (ds : Tells) : Option (AV × AS × PC) :=
  match S.objs[o]? with
  | some (.loop r) =>
    if Nat.beq args.length r.params.size then
      match uC C L k r.hint (some o) r.assign { tmps := (r.params.toList.zip args).foldl (fun l p => l.set p.1 p.2) r.tmps, marks := [] } S ds with
      | some (.normal, a1, S1, ds1, c1) =>
        match S1.objs[o]? with
        | some (.loop r1) =>
          match r1.state with
          | .ready =>
            match uC C L k r.hint (some o) r.body a1 (S1.set o (.loop { r1 with state := .busy })) ds1 with
            | some (e, _, S3, [], c2) =>
              match S3.objs[o]? with
              | some (.loop r3) =>
                match ajump e with
                | some j => some (.v (.bool j.isNone), S3.set o (.loop { r3 with state := if j.isNone then .ready else .done, pending := j }), c1 ++ c2)
                | none => none
              | _ => none
            | _ => none
          | _ => none
        | _ => none
      | _ => none
    else none
  | _ => none

theorem yield_path {n : Nat} {o : Nat} {args : List AV} {x : AV} {ds : Tells} {cs : PC} (h : uyield C (lower C n) (n + 1) o args S ds = some (x, S', cs)) (hc : cs.ok) : ayieldF C (lower C n) (n + 1) o args S = some (x, S') := by
  unfold uyield at h
  unfold ayieldF
  split at h
  · rename_i r hr
    rw [hr]
    dsimp only
    split at h
    · rename_i hb
      rw [if_pos hb]
      split at h
      · rename_i a1 S1 ds1 c1 h1
        split at h
        · rename_i r1 hr1
          split at h
          · rename_i hst
            split at h
            · rename_i e a2 S3 c2 h2
              split at h
              · rename_i r3 hr3
                split at h
                · rename_i j hj
                  cases h
                  have q1 := uC_ok _ h1 (PC.left hc)
                  have q2 := uC_ok _ h2 (PC.right hc)
                  simp only [q1, hr1, hst, q2, hr3, hj]
                · cases h
              · cases h
            · cases h
          · cases h
        · cases h
      · cases h
    · cases h
  · cases h

/-- The record of a loop over a function, by the place of the loop. -/
def mkLoop (P : Program) (hf : Nat) (path : List Nat) (tm : List AV) (d : Nat) (st : LoopState) (pe : Option Code) : AObj :=
  match codeAt (codeOf P hf) path with
  | .rangeFunc _ ps asg body => .loop { state := st, pending := pe, hint := hf, tmps := tm, params := ps, assign := asg, body := body, defers := d }
  | _ => .dead

theorem RangeIs.of {k : Nat} {hf : FuncId} {c : Code} {path : List Nat} {N : Nat} {m : List Nat} {live : List (Nat × AV)} {e : Exit} {S1 : AS} {t f : Nat} {first caps : List AV} {ps : Array Tmp} {asg body : Code}
    (hc : codeAt (codeOf C.P hf) path = .rangeFunc (.tmp t) ps asg body) (hl : look live t = some (.fn (.func f) first caps))
    (h : ∀ g : Nat → AV, ∃ x r S', L.call f (first ++ [.yld (S.objs.length + 1)] ++ caps) ((S.push .dfr).push (mkLoop C.P hf path (mkTmps N live g) S.objs.length .ready none)) = some (x, S') ∧ S'.objs[S.objs.length + 1]? = some (.loop r) ∧ r.state ≠ .busy ∧ ajump e = some r.pending ∧ S1 = S'.set (S.objs.length + 1) .dead) :
    RangeIs C L k hf none (codeAt (codeOf C.P hf) path) N m live S e S1 := by
  intro a ha
  obtain ⟨x, r, S', h1, h2, h3, h4, rfl⟩ := h (fun j => (a.tmps[j]?).getD undefA)
  have hml : mkLoop C.P hf path (mkTmps N live fun j => (a.tmps[j]?).getD undefA) S.objs.length .ready none = .loop { state := .ready, pending := none, hint := hf, tmps := a.tmps, params := ps, assign := asg, body := body, defers := S.objs.length } := by
    unfold mkLoop
    rw [hc]
    have := mkTmps_of ha.len ha.has
    rw [← this]
  rw [hml] at h1
  have hv : aeval a.tmps (.tmp t) = .fn (.func f) first caps := by
    have := ha.has.look hl
    simp only [aeval, this]
    rfl
  rw [hc]
  simp only [aC, hv, arange, h1, h2, marksR]
  cases hst : r.state with
  | busy => exact absurd hst h3
  | _ =>
    cases e with
    | normal => simp only [ajump, Option.some.injEq] at h4; rw [← h4]
    | ret => simp only [ajump, Option.some.injEq] at h4; rw [← h4]
    | exit id => simp only [ajump, Option.some.injEq] at h4; rw [← h4]
    | goto t => simp only [ajump, Option.some.injEq] at h4; rw [← h4]
    | panic c => cases h4
    | outgrown => cases h4

end Go.AM
