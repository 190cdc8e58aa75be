/- The abstract machine, twenty-third text: one path of a function, its conditions taken as they are told and written down. -/
import Derived.Test.YtlaiakplkomofaaA21
namespace Go.AM
open Go.RowKit

variable {S S' : AS} {C : Cfg} {L : Lw}

abbrev Cons := List (Bool × Bool)
/-- All conditions are as they were told. -/
def Cons.ok (cs : Cons) : Prop := ∀ p ∈ cs, p.1 = p.2

theorem Cons.left {a b : Cons} (h : Cons.ok (a ++ b)) : Cons.ok a := fun p hp => h p (List.mem_append_left _ hp)
theorem Cons.right {a b : Cons} (h : Cons.ok (a ++ b)) : Cons.ok b := fun p hp => h p (List.mem_append_right _ hp)

def ptest : AV → List Bool → Option (Bool × List Bool × Cons)
  | .v (.bool b), d :: ds => some (d, ds, [(b, d)])
  | _, _ => none

theorem ptest_ok {x : AV} {ds ds' : List Bool} {d : Bool} {cs : Cons} (h : ptest x ds = some (d, ds', cs)) (hc : cs.ok) : x = .v (.bool d) := by
  unfold ptest at h
  split at h
  · rename_i b d0 ds0
    cases h
    have : b = d := hc (b, d) (by simp)
    rw [this]
  · cases h

def pguard (ops : Array Oper) (l : List AV) (o : Oper) (ds : List Bool) : Option (Bool × List Bool × Cons) :=
  match o.guard with
  | none => some (true, ds, [])
  | some (j, want) =>
    match ((ops[j]?).bind (·.dst)).bind (l[·]?) with
    | some (.v (.bool b)) => match ds with | d :: ds' => some (d == want, ds', [(b, d)]) | [] => none
    | some (.v _) => some (false, ds, [])
    | _ => none

theorem pguard_ok {ops : Array Oper} {l : List AV} {o : Oper} {ds ds' : List Bool} {b : Bool} {cs : Cons} (h : pguard ops l o ds = some (b, ds', cs)) (hc : cs.ok) : awanted ops l o = some b := by
  unfold pguard at h
  unfold awanted
  split at h
  · rename_i hg; cases h; rw [hg]
  · rename_i j want hg
    rw [hg]
    unfold aslot
    dsimp only
    split at h
    · rename_i b0 hs
      rw [hs]
      split at h
      · cases h
        have : b0 = _ := hc _ (List.mem_singleton.2 rfl)
        dsimp only at this
        rw [this]
        simp
      · cases h
    · rename_i x hnb hs
      cases h
      rw [hs]
      cases x with
      | bool b => exact absurd rfl (hnb b)
      | _ => rfl
    · cases h

def pdo (C : Cfg) (L : Lw) (mu : Bool) (o : Oper) (ρ : Operand → AV) (S : AS) (ds : List Bool) : Option (AV × AS × List Bool × Cons) :=
  match o.op with
  | .pick c a b => match ptest (ρ c) ds with | some (d, ds', cs) => some (cond d (ρ a) (ρ b), S, ds', cs) | none => none
  | _ => match adoOp C L mu o ρ S with | some (x, S') => some (x, S', ds, []) | none => none

theorem pdo_ok {mu : Bool} {o : Oper} {ρ : Operand → AV} {ds ds' : List Bool} {x : AV} {cs : Cons} (h : pdo C L mu o ρ S ds = some (x, S', ds', cs)) (hc : cs.ok) : adoOp C L mu o ρ S = some (x, S') := by
  unfold pdo at h
  split at h
  · rename_i c a b ho
    split at h
    · rename_i h1
      cases h
      unfold adoOp
      rw [ho]
      simp only [aexec, ptest_ok h1 hc]
    · cases h
  · split at h
    · rename_i h1; cases h; exact h1
    · cases h

def pstep (C : Cfg) (L : Lw) (mu : Bool) (ops : Array Oper) (o : Oper) (l : List AV) (S : AS) (ds : List Bool) : Option (AV × AS × List Bool × Cons) :=
  match pguard ops l o ds with
  | some (true, ds1, c1) => match pdo C L mu o (aeval l) S ds1 with | some (x, S', ds2, c2) => some (x, S', ds2, c1 ++ c2) | none => none
  | some (false, ds1, c1) => some (undefA, S, ds1, c1)
  | none => none

theorem pstep_ok {mu : Bool} {ops : Array Oper} {o : Oper} {l : List AV} {ds ds' : List Bool} {x : AV} {cs : Cons} (h : pstep C L mu ops o l S ds = some (x, S', ds', cs)) (hc : cs.ok) : astep C L mu ops o l S = some (x, S') := by
  unfold pstep at h
  unfold astep
  split at h
  · rename_i h1
    split at h
    · rename_i h2
      cases h
      rw [pguard_ok h1 (Cons.left hc)]
      exact pdo_ok h2 (Cons.right hc)
    · cases h
  · rename_i h1
    cases h
    rw [pguard_ok h1 hc]
  · cases h

def pOps (C : Cfg) (L : Lw) (mu : Bool) (ops : Array Oper) : List Oper → List AV → AS → List Bool → Option (List AV × AS × List Bool × Cons)
  | [], l, S, ds => some (l, S, ds, [])
  | o :: rest, l, S, ds =>
    match pstep C L mu ops o l S ds with
    | some (x, S1, ds1, c1) => match pOps C L mu ops rest (aput l o.dst x) S1 ds1 with | some (l2, S2, ds2, c2) => some (l2, S2, ds2, c1 ++ c2) | none => none
    | none => none

theorem pOps_ok {mu : Bool} {ops : Array Oper} : ∀ (os : List Oper) {l l' : List AV} {S S' : AS} {ds ds' : List Bool} {cs : Cons}, pOps C L mu ops os l S ds = some (l', S', ds', cs) → cs.ok → aOps C L mu ops os l S = some (l', S')
  | [], l, l', S, S', ds, ds', cs, h, _ => by simp only [pOps] at h; cases h; rfl
  | o :: os, l, l', S, S', ds, ds', cs, h, hc => by
    simp only [pOps] at h
    simp only [aOps]
    split at h
    · rename_i h1
      split at h
      · rename_i h2
        cases h
        rw [pstep_ok h1 (Cons.left hc)]
        exact pOps_ok os h2 (Cons.right hc)
      · cases h
    · cases h

abbrev POut := Exit × AAct × AS × List Bool × Cons

def ploop (f : AAct → AS → List Bool → Option POut) : Nat → AAct → AS → List Bool → Option POut
  | 0, _, _, _ => none
  | k + 1, a, S, ds =>
    match f a S ds with
    | some (.normal, a1, S1, ds1, c1) => match ploop f k a1 S1 ds1 with | some (e, a2, S2, ds2, c2) => some (e, a2, S2, ds2, c1 ++ c2) | none => none
    | r => r

def pC (C : Cfg) (L : Lw) (k : Nat) (hf : FuncId) (rd : Option Nat) : Code → AAct → AS → List Bool → Option POut
  | .seq x y, a, S, ds =>
    match pC C L k hf rd x a S ds with
    | some (.normal, a1, S1, ds1, c1) => match pC C L k hf rd y a1 S1 ds1 with | some (e, a2, S2, ds2, c2) => some (e, a2, S2, ds2, c1 ++ c2) | none => none
    | r => r
  | .cond c x y, a, S, ds =>
    match ptest (aeval a.tmps c) ds with
    | some (true, ds1, c1) => match pC C L k hf rd x a S ds1 with | some (e, a2, S2, ds2, c2) => some (e, a2, S2, ds2, c1 ++ c2) | none => none
    | some (false, ds1, c1) => match pC C L k hf rd y a S ds1 with | some (e, a2, S2, ds2, c2) => some (e, a2, S2, ds2, c1 ++ c2) | none => none
    | none => none
  | .block id c, a, S, ds =>
    match pC C L k hf rd c a S ds with
    | some (.exit id', a1, S1, ds1, c1) => if Nat.beq id' id then some (.normal, a1, S1, ds1, c1) else some (.exit id', a1, S1, ds1, c1)
    | r => r
  | .loop c, a, S, ds => ploop (pC C L k hf rd c) k a S ds
  | .region id ops false, a, S, ds =>
    match pOps C L (C.H hf id) ops ops.toList a.tmps S ds with
    | some (l, S1, ds1, c1) => some (.normal, { a with tmps := l }, S1, ds1, c1)
    | none => none
  | c, a, S, ds => match aC C L k hf rd c a S with | some (e, a1, S1) => some (e, a1, S1, ds, []) | none => none

theorem pC_ok {k : Nat} {hf : FuncId} {rd : Option Nat} : ∀ (c : Code) {a a' : AAct} {S S' : AS} {e : Exit} {ds ds' : List Bool} {cs : Cons}, pC C L k hf rd c a S ds = some (e, a', S', ds', cs) → cs.ok → aC C L k hf rd c a S = some (e, a', S') := by
  have base : ∀ {c : Code} {a a' : AAct} {S S' : AS} {e : Exit} {ds ds' : List Bool} {cs : Cons}, (match aC C L k hf rd c a S with | some (e, a1, S1) => some (e, a1, S1, ds, []) | none => none) = some (e, a', S', ds', cs) → aC C L k hf rd c a S = some (e, a', S') := by
    intro c a a' S S' e ds ds' cs h
    split at h
    · rename_i h1; cases h; exact h1
    · cases h
  intro c
  induction c with
  | seq x y ihx ihy =>
    intro a a' S S' e ds ds' cs h hc
    simp only [pC] at h
    simp only [aC]
    split at h
    · rename_i h1
      split at h
      · rename_i h2; cases h; rw [ihx h1 (Cons.left hc)]; exact ihy h2 (Cons.right hc)
      · cases h
    · rename_i hne
      rw [ihx h hc]
      cases e with
      | normal => exact absurd h (hne _ _ _ _)
      | _ => rfl
  | cond c x y ihx ihy =>
    intro a a' S S' e ds ds' cs h hc
    simp only [pC] at h
    simp only [aC]
    split at h
    · rename_i h1
      split at h
      · rename_i h2; cases h; rw [ptest_ok h1 (Cons.left hc)]; exact ihx h2 (Cons.right hc)
      · cases h
    · rename_i h1
      split at h
      · rename_i h2; cases h; rw [ptest_ok h1 (Cons.left hc)]; exact ihy h2 (Cons.right hc)
      · cases h
    · cases h
  | block id c ih =>
    intro a a' S S' e ds ds' cs h hc
    simp only [pC] at h
    simp only [aC]
    split at h
    · rename_i h1
      split at h
      · rename_i hb; cases h; rw [ih h1 hc]; simp only [hb, if_true]
      · rename_i hb; cases h; rw [ih h1 hc]; simp only [hb]; rfl
    · rename_i hne
      rw [ih h hc]
      cases e with
      | exit i => exact absurd h (hne _ _ _ _ _)
      | _ => rfl
  | loop c ih =>
    intro a a' S S' e ds ds' cs h hc
    simp only [pC] at h
    simp only [aC]
    have key : ∀ (j : Nat) {a : AAct} {S : AS} {ds ds' : List Bool} {cs : Cons}, ploop (pC C L k hf rd c) j a S ds = some (e, a', S', ds', cs) → cs.ok → aloop (aC C L k hf rd c) j a S = some (e, a', S') := by
      intro j
      induction j with
      | zero => intro a S ds ds' cs h; simp [ploop] at h
      | succ j ihj =>
        intro a S ds ds' cs h hc
        simp only [ploop] at h
        simp only [aloop]
        split at h
        · rename_i h1
          split at h
          · rename_i h2; cases h; rw [ih h1 (Cons.left hc)]; exact ihj h2 (Cons.right hc)
          · cases h
        · rename_i hne
          rw [ih h hc]
          cases e with
          | normal => exact absurd h (hne _ _ _ _)
          | _ => rfl
    exact key k h hc
  | region id ops d =>
    intro a a' S S' e ds ds' cs h hc
    cases d with
    | false =>
      simp only [pC] at h
      simp only [aC]
      split at h
      · rename_i h1; cases h; rw [pOps_ok _ h1 hc]
      · cases h
    | true => simp only [pC] at h; exact base (ds := ds) h
  | _ => intro a a' S S' e ds ds' cs h hc; simp only [pC] at h; exact base (ds := ds) h

/-- What a call does along one path: value, store behind it before the call's own garbage is looked at. -/
def pcall (C : Cfg) (n : Nat) (f : FuncId) (args : List AV) (S : AS) (ds : List Bool) : Option (AV × AS × Cons) :=
  match C.P.funcs[f]? with
  | some fn =>
    match fn.body with
    | some c =>
      match pC C (lower C n) (n + 1) f none c { tmps := args ++ List.replicate (fn.ntmps - args.length) undefA, marks := [] } (amark S) ds with
      | some (.normal, a, S1, _, cs) => match aleave C fn S a S1 with | some (x, S2) => some (x, S2, cs) | none => none
      | some (.ret, a, S1, _, cs) => match aleave C fn S a S1 with | some (x, S2) => some (x, S2, cs) | none => none
      | _ => none
    | none => none
  | none => none

theorem pcall_ok {n : Nat} {f : FuncId} {args : List AV} {ds : List Bool} {x : AV} {cs : Cons} (hX : C.X f = none) (h : pcall C n f args S ds = some (x, S', cs)) (hc : cs.ok) : (lower C (n + 1)).call f args S = some (x, S') := by
  simp only [lower, hX]
  unfold pcall at h
  unfold acallF
  split at h
  · rename_i fn hf
    split at h
    · rename_i c hb
      rw [hf]
      dsimp only
      rw [hb]
      dsimp only
      split at h
      · rename_i h1
        split at h
        · rename_i h2; cases h; rw [pC_ok _ h1 hc]; exact h2
        · cases h
      · rename_i h1
        split at h
        · rename_i h2; cases h; rw [pC_ok _ h1 hc]; exact h2
        · cases h
      · cases h
    · cases h
  · cases h

/-- The same where the store is any and nothing in it turns. -/
def qcall (C : Cfg) (n : Nat) (f : FuncId) (args : List AV) (S : AS) (ds : List Bool) : Option (AAct × AS × Cons × Func) :=
  match C.P.funcs[f]? with
  | some fn =>
    match fn.body with
    | some c =>
      match pC C (lower C n) (n + 1) f none c { tmps := args ++ List.replicate (fn.ntmps - args.length) undefA, marks := [] } (amark S) ds with
      | some (.normal, a, S1, _, cs) => some (a, S1, cs, fn)
      | some (.ret, a, S1, _, cs) => some (a, S1, cs, fn)
      | _ => none
    | none => none
  | none => none

/-- The value alone. -/
def qvalue (C : Cfg) (r : Option (AAct × AS × Cons × Func)) : Option (AV × List Nat × AS × Cons) :=
  match r with
  | some (a, S1, cs, fn) => match aresults C.P a.tmps S1 fn.results.toList with | some xs => some (aone xs, a.marks, S1, cs) | none => none
  | none => none

theorem akept_mark (S : AS) : akept S (amark S) = true := by simp [akept, amark]

theorem qcall_ok {n : Nat} {f : FuncId} {args : List AV} {ds : List Bool} {x : AV} {cs : Cons} (hX : C.X f = none) (h : qvalue C (qcall C n f args S ds) = some (x, [], amark S, cs)) (hc : cs.ok) (ho : ∀ m, x.old m = true) : (lower C (n + 1)).call f args S = some (x.shut S.ends.length, S) := by
  simp only [lower, hX]
  unfold qvalue at h
  split at h
  · rename_i a S1 cs1 fn1 hq
    split at h
    · rename_i xs hr
      simp only [Option.some.injEq, Prod.mk.injEq] at h
      obtain ⟨rfl, hm, rfl, rfl⟩ := h
      unfold qcall at hq
      unfold acallF
      have fin : aleave C fn1 S a (amark S) = some ((aone xs).shut S.ends.length, S) := by
        unfold aleave
        rw [hm]
        simp only [akill, hr, akept_mark, ho, Bool.and_self, if_true]
      split at hq
      · rename_i fn hf
        split at hq
        · rename_i c hb
          rw [hf]
          dsimp only
          rw [hb]
          dsimp only
          split at hq
          · rename_i h1; cases hq; rw [pC_ok _ h1 hc]; exact fin
          · rename_i h1; cases hq; rw [pC_ok _ h1 hc]; exact fin
          · cases hq
        · cases hq
      · cases hq
    · cases h
  · cases h

end Go.AM
namespace Go.AM
theorem Cons.nil : Cons.ok [] := fun _ h => by cases h
theorem Cons.cons {b d : Bool} {cs : Cons} (h : b = d) (k : Cons.ok cs) : Cons.ok ((b, d) :: cs) := fun p hp => by
  rcases List.mem_cons.1 hp with rfl | hp
  · exact h
  · exact k p hp

/-- Contracts proved at one table go into the next. -/
theorem XOK.of {C0 C1 : Cfg} (hP : C1.P = C0.P) (hN : NamesOK C0.P) (hX : XOK C0) (hm : C0.P.follows .mixedOrders = true)
    (h : ∀ f g, C1.X f = some g → ∃ n, ∀ args S q, g args S = some q → (lower C0 n).call f args S = some q) : XOK C1 where
  low := by
    intro f g args S x S' h1 h2
    obtain ⟨n, hn⟩ := h f g h1
    exact (lower_ok hN hX hm n).low (hn _ _ _ h2)
  ent := by
    intro f g args S x S' h1 h2
    obtain ⟨n, hn⟩ := h f g h1
    rw [hP]
    exact (lower_ok hN hX hm n).ent (hn _ _ _ h2)
  call := by
    intro f g args S x S' B0 w0 w E ys h1 h2 hs hp
    obtain ⟨n, hn⟩ := h f g h1
    rw [hP]
    exact (lower_ok hN hX hm n).call (hn _ _ _ h2) hs hp
end Go.AM
namespace Go.AM
abbrev Con := List AV → AS → Option (AV × AS)
def xlook : List (Nat × Con) → Nat → Option Con
  | [], _ => none
  | p :: t, f => cond (Nat.beq f p.1) (some p.2) (xlook t f)

theorem xlook_mem : ∀ {t : List (Nat × Con)} {f : Nat} {g : Con}, xlook t f = some g → (f, g) ∈ t
  | [], _, _, h => by cases h
  | p :: t, f, g, h => by
    simp only [xlook] at h
    cases hb : Nat.beq f p.1 with
    | true => rw [hb] at h; cases h; rw [Nat.eq_of_beq_eq_true hb]; simp
    | false => rw [hb] at h; exact List.mem_cons_of_mem _ (xlook_mem h)

/-- Function f, called so, does what g says. -/
def Does (C : Cfg) (p : Nat × Con) : Prop := ∃ n, ∀ args S q, p.2 args S = some q → (lower C n).call p.1 args S = some q

theorem XOK.table {C0 C1 : Cfg} {t : List (Nat × Con)} (hP : C1.P = C0.P) (hN : NamesOK C0.P) (hX : XOK C0) (hm : C0.P.follows .mixedOrders = true) (hx : C1.X = xlook t)
    (h : ∀ p ∈ t, Does C0 p) : XOK C1 :=
  XOK.of hP hN hX hm fun f g hf => h (f, g) (xlook_mem (by rw [← hx]; exact hf))

/-- One integer in, a value out. -/
def x1 (k : IntKind) (V : Int → AV) : Con := fun args S =>
  match args with
  | [.v (.int k' a)] => cond (decide (k' = k)) (some (V a, S)) none
  | _ => none

theorem x1_does {C : Cfg} {f n : Nat} {k : IntKind} {V : Int → AV} (h : ∀ a S, (lower C n).call f [.v (.int k a)] S = some (V a, S)) : Does C (f, x1 k V) := by
  refine ⟨n, fun args S q hq => ?_⟩
  simp only [x1] at hq
  split at hq
  · rename_i k' a
    cases hk : decide (k' = k) with
    | true => rw [hk] at hq; cases hq; rw [of_decide_eq_true hk]; exact h a S
    | false => rw [hk] at hq; cases hq
  · cases hq
end Go.AM
