/- The abstract machine: contracts of pure functions out of paths. -/
import Derived.Test.YtamemdhmjglifaaGreatDoorQ7
namespace Go.AM
open Go.RowKit

variable {C : Cfg} {L : Lw}

mutual
theorem AV.shut_shut (n : Nat) : ∀ x : AV, (x.shut n).shut n = x.shut n
  | .junk => rfl
  | .v _ => rfl
  | .ptr _ _ => rfl
  | .eptr row b => by simp only [AV.shut, sealAll_seal n row]
  | .lst c rows => by
    simp only [AV.shut, sealRows_seal n rows]
    cases c with
    | tok t e s => by_cases h : t < n <;> simp [h]
    | _ => rfl
  | .slc _ _ _ _ _ => rfl
  | .mp _ => rfl
  | .yld _ => rfl
  | .fn f a b => by simp only [AV.shut, sealAll_seal n a, sealAll_seal n b]
  | .ifc t x => by simp only [AV.shut, AV.shut_shut n x]
  | .agg l => by simp only [AV.shut, sealAll_seal n l]
  | .tup l => by simp only [AV.shut, sealAll_seal n l]
theorem sealAll_seal (n : Nat) : ∀ l : List AV, sealAll n (sealAll n l) = sealAll n l
  | [] => rfl
  | x :: l => by simp only [sealAll, AV.shut_shut n x, sealAll_seal n l]
theorem sealRows_seal (n : Nat) : ∀ l : List (List AV), sealRows n (sealRows n l) = sealRows n l
  | [] => rfl
  | x :: l => by simp only [sealRows, sealAll_seal n x, sealRows_seal n l]
end

mutual
theorem AV.old_shut (n k : Nat) : ∀ x : AV, (x.shut k).old n = x.old n
  | .junk => rfl
  | .v _ => rfl
  | .ptr _ _ => rfl
  | .eptr row b => by simp only [AV.shut, AV.old, belowAll_seal n k row]
  | .lst c rows => by simp only [AV.shut, AV.old, belowRows_seal n k rows]
  | .slc _ _ _ _ _ => rfl
  | .mp _ => rfl
  | .yld _ => rfl
  | .fn f a b => by simp only [AV.shut, AV.old, belowAll_seal n k a, belowAll_seal n k b]
  | .ifc t x => by simp only [AV.shut, AV.old, AV.old_shut n k x]
  | .agg l => by simp only [AV.shut, AV.old, belowAll_seal n k l]
  | .tup l => by simp only [AV.shut, AV.old, belowAll_seal n k l]
theorem belowAll_seal (n k : Nat) : ∀ l : List AV, belowAll n (sealAll k l) = belowAll n l
  | [] => rfl
  | x :: l => by simp only [sealAll, belowAll, AV.old_shut n k x, belowAll_seal n k l]
theorem belowRows_seal (n k : Nat) : ∀ l : List (List AV), belowRows n (sealRows k l) = belowRows n l
  | [] => rfl
  | x :: l => by simp only [sealRows, belowRows, belowAll_seal n k x, belowRows_seal n k l]
end

mutual
theorem lendV_old (S : AS) (dr : List AV → Option (List AV)) : ∀ x : AV, x.old 0 = true → lendV S dr x = some (x.shut 0)
  | .junk, _ => rfl
  | .v _, _ => rfl
  | .ptr o _, h => by simp [AV.old] at h
  | .eptr row b, h => by simp only [AV.old] at h; simp only [lendV, AV.shut, lendL_old S dr row h]
  | .lst c rows, h => by
    simp only [AV.old] at h; simp only [lendV, AV.shut, lendR_old S dr rows h]
    cases c <;> rfl
  | .slc o _ _ _ _, h => by simp [AV.old] at h
  | .mp o, h => by simp [AV.old] at h
  | .yld o, h => by simp [AV.old] at h
  | .fn f a b, h => by simp only [AV.old, Bool.and_eq_true] at h; simp only [lendV, AV.shut, lendL_old S dr a h.1, lendL_old S dr b h.2]
  | .ifc t x, h => by simp only [AV.old] at h; simp only [lendV, AV.shut, lendV_old S dr x h]
  | .agg l, h => by simp only [AV.old] at h; simp only [lendV, AV.shut, lendL_old S dr l h]
  | .tup l, h => by simp only [AV.old] at h; simp only [lendV, AV.shut, lendL_old S dr l h]
theorem lendL_old (S : AS) (dr : List AV → Option (List AV)) : ∀ l : List AV, belowAll 0 l = true → lendL S dr l = some (sealAll 0 l)
  | [], _ => rfl
  | x :: l, h => by simp only [belowAll, Bool.and_eq_true] at h; simp only [lendL, sealAll, lendV_old S dr x h.1, lendL_old S dr l h.2]
theorem lendR_old (S : AS) (dr : List AV → Option (List AV)) : ∀ l : List (List AV), belowRows 0 l = true → lendR S dr l = some (sealRows 0 l)
  | [], _ => rfl
  | x :: l, h => by simp only [belowRows, Bool.and_eq_true] at h; simp only [lendR, sealRows, lendL_old S dr x h.1, lendR_old S dr l h.2]
end

theorem lendL_isV {S : AS} {dr : List AV → Option (List AV)} : ∀ {l l' : List AV}, lendL S dr l = some l' → l'.all AV.isV = true → l = l'
  | [], l', h, _ => by simp only [lendL] at h; cases h; rfl
  | x :: l, l', h, hv => by
    simp only [lendL] at h
    split at h
    · rename_i x1 h1
      split at h
      · rename_i l1 h2
        cases h
        simp only [List.all_cons, Bool.and_eq_true] at hv
        rw [lendL_isV h2 hv.2]
        congr 1
        cases x with
        | v z => simp only [lendV] at h1; exact Option.some.inj h1
        | _ => exfalso; simp only [lendV] at h1; (repeat' split at h1) <;> first | (cases h1; done) | (cases h1; simp [AV.isV] at hv)
      · cases h
    · cases h

theorem lend_plain {S : AS} {dr : List AV → Option (List AV)} {x y : AV} (h : lendV S dr x = some y) (hp : y.plain = true) : x = y := by
  cases x with
  | v z => simp only [lendV] at h; exact Option.some.inj h
  | tup l =>
    simp only [lendV] at h
    split at h
    · rename_i l1 h1; cases h; rw [lendL_isV h1 hp]
    · cases h
  | agg l =>
    simp only [lendV] at h
    split at h
    · rename_i l1 h1; cases h; rw [lendL_isV h1 hp]
    · cases h
  | _ => exfalso; simp only [lendV] at h; (repeat' split at h) <;> first | (cases h; done) | (cases h; simp [AV.plain] at hp)

/-- Values that speak of no object, without tokens. -/
structure Own (args : List AV) : Prop where
  below : belowAll 0 args = true
  same : sealAll 0 args = args

theorem Own.nil : Own [] := ⟨rfl, rfl⟩
theorem Own.cons {x : AV} {l : List AV} (h1 : x.old 0 = true) (h2 : x.shut 0 = x) (h : Own l) : Own (x :: l) := ⟨by simp [belowAll, h1, h.below], by simp [sealAll, h2, h.same]⟩
theorem Own.v {x : Value} {l : List AV} (h : Own l) : Own (.v x :: l) := h.cons rfl rfl

mutual
theorem lendV_same (S S' : AS) (dr : List AV → Option (List AV)) (hc : ∀ o, S.cellsAt o = S'.cellsAt o) (hr : ∀ sz x, rowsOf S sz x = rowsOf S' sz x) : ∀ x : AV, lendV S dr x = lendV S' dr x
  | .junk => rfl
  | .v _ => rfl
  | .ptr o _ => by simp only [lendV, hc]
  | .eptr row _ => by simp only [lendV, lendL_same S S' dr hc hr row]
  | .lst _ rows => by simp only [lendV, lendR_same S S' dr hc hr rows]
  | .slc _ _ _ _ _ => by simp only [lendV, hr]
  | .mp _ => rfl
  | .yld _ => rfl
  | .fn _ a b => by simp only [lendV, lendL_same S S' dr hc hr a, lendL_same S S' dr hc hr b]
  | .ifc _ x => by simp only [lendV, lendV_same S S' dr hc hr x]
  | .agg l => by simp only [lendV, lendL_same S S' dr hc hr l]
  | .tup l => by simp only [lendV, lendL_same S S' dr hc hr l]
theorem lendL_same (S S' : AS) (dr : List AV → Option (List AV)) (hc : ∀ o, S.cellsAt o = S'.cellsAt o) (hr : ∀ sz x, rowsOf S sz x = rowsOf S' sz x) : ∀ l : List AV, lendL S dr l = lendL S' dr l
  | [] => rfl
  | x :: l => by simp only [lendL, lendV_same S S' dr hc hr x, lendL_same S S' dr hc hr l]
theorem lendR_same (S S' : AS) (dr : List AV → Option (List AV)) (hc : ∀ o, S.cellsAt o = S'.cellsAt o) (hr : ∀ sz x, rowsOf S sz x = rowsOf S' sz x) : ∀ l : List (List AV), lendR S dr l = lendR S' dr l
  | [] => rfl
  | x :: l => by simp only [lendR, lendL_same S S' dr hc hr x, lendR_same S S' dr hc hr l]
end
theorem lend_same (S S' : AS) (dr : List AV → Option (List AV)) (hc : ∀ o, S.cellsAt o = S'.cellsAt o) (hr : ∀ sz x, rowsOf S sz x = rowsOf S' sz x) : (∀ x, lendV S dr x = lendV S' dr x) ∧ (∀ l, lendL S dr l = lendL S' dr l) ∧ True := ⟨lendV_same S S' dr hc hr, lendL_same S S' dr hc hr, trivial⟩

/-- How a path through a function ends. -/
structure Path (C : Cfg) (f : FuncId) (args : List AV) (y : AV) (n : Nat) : Prop where
  ex : ∃ (e : Exit) (a : AAct) (S1 S2 : AS) (xs : List AV), aC C (lower C n) (n + 1) f none (codeOf C.P f) (actOf C.P f args) (amark {}) = some (e, a, S1) ∧ (e = .normal ∨ e = .ret) ∧ akill a.marks S1 = some S2 ∧
    aresults C.P a.tmps S2 (resultsOf C.P f) = some xs ∧ lend S2 (aone xs) = some y

theorem Path.of {f : FuncId} {args : List AV} {x y : AV} {n : Nat} {ds : Tells} {cs : PC} {S2 : AS} (h : uend C.P f (uC C (lower C n) (n + 1) f none (codeOf C.P f) (actOf C.P f args) (amark {}) ds) = some (x, S2, cs)) (hc : cs.ok) (hy : lend S2 x = some y) : Path C f args y n := by
  unfold uend at h
  split at h
  · rename_i h1
    split at h
    · split at h
      · rename_i h2
        split at h
        · rename_i h3; cases h; exact ⟨_, _, _, _, _, uC_ok _ h1 hc, .inl rfl, h2, h3, hy⟩
        · cases h
      · cases h
    · split at h
      · rename_i h2
        split at h
        · rename_i h3; cases h; exact ⟨_, _, _, _, _, uC_ok _ h1 hc, .inr rfl, h2, h3, hy⟩
        · cases h
      · cases h
    · cases h
  · cases h

/-- A contract: what the function makes of these values. -/
def Co (C : Cfg) (f : FuncId) (args : List AV) (y : AV) : Prop := Evt fun n => ∃ x S1, acallF C (lower C n) (n + 1) f args {} = some (x, S1) ∧ lend S1 x = some y

theorem Co.path {f : FuncId} {args : List AV} {y : AV} (hi : isFunc C.P f = true) (h : Evt fun n => Path C f args y n) : Co C f args y := by
  refine h.mono fun n hn => ?_
  obtain ⟨e, a, S1, S2, xs, h1, he, hk, hr, hy⟩ := hn.ex
  have h2 := acallF_code (S := {}) hi h1 he hk hr
  rw [h2]
  split
  · rename_i hif
    simp only [Bool.and_eq_true] at hif
    have ho : (aone xs).old 0 = true := hif.2
    refine ⟨_, _, rfl, ?_⟩
    have e1 := lendV_old S2 (lendAll 4 S2) _ ho
    have e2 : some ((aone xs).shut 0) = some y := by rw [← e1]; exact hy
    show lendV {} (lendAll 4 {}) ((aone xs).shut 0) = some y
    rw [lendV_old _ _ _ (by rw [AV.old_shut]; exact ho), AV.shut_shut]
    exact e2
  · refine ⟨_, _, rfl, ?_⟩
    have : ∀ (S S' : AS) (x : AV), S.objs = S'.objs → lend S x = lend S' x := by
      intro S S' x ho
      have hc : ∀ o, S.cellsAt o = S'.cellsAt o := fun o => by simp only [AS.cellsAt, ho]
      have hr : ∀ sz x, rowsOf S sz x = rowsOf S' sz x := fun sz x => by unfold rowsOf; simp only [hc]
      have hv : ∀ dr dr' : List AV → Option (List AV), (∀ l, dr l = dr' l) → ∀ l, lendL S dr l = lendL S' dr' l := by
        intro dr dr' hd
        have hd' : dr = dr' := funext hd
        subst hd'
        exact (lend_same S S' dr hc hr).2.1
      have ha : ∀ d l, lendAll d S l = lendAll d S' l := by
        intro d
        induction d with
        | zero => intro l; exact hv _ _ (fun _ => rfl) l
        | succ d ih => intro l; exact hv _ _ ih l
      have hd : lendAll 4 S = lendAll 4 S' := funext (ha 4)
      unfold lend
      rw [hd]
      exact (lend_same S S' _ hc hr).1 x
    rw [this (aunmark {} S2) S2 _ rfl]
    exact hy

theorem Fr.of_co {f : FuncId} {args : List AV} {y : AV} (hX : C.X f = none) (hF : C.F f = true) (ho : Own args) (h : Co C f args y) : Fr C f args y := by
  refine Evt.pred (h.mono fun n hn S => ?_)
  obtain ⟨x, S1, h1, h2⟩ := hn
  simp only [lower, hX, acallX, hF, ho.below, ho.same, h1, h2]

/-- A call that reads what the caller has. -/
theorem Co.lent {f : FuncId} {args args' : List AV} {y : AV} {S : AS} (hX : C.X f = none) (hF : C.F f = true) (hb : belowAll 0 args = false) (hl : lendAll 4 S args = some args') (hp : y.plain = true) (h : Co C f args' y) : Evt fun n => (lower C n).call f args S = some (y, S) := by
  refine Evt.pred (h.mono fun n hn => ?_)
  obtain ⟨x, S1, h1, h2⟩ := hn
  have := lend_plain h2 hp
  subst this
  simp only [lower, hX, acallX, hF, hb, hl, h1, hp]

/-- A loop, by what holds ahead of each round. -/
theorem aloop_run {f : AAct → AS → Option (Exit × AAct × AS)} (I : Nat → AAct → AS → Prop) {Q : Exit → AAct → AS → Prop} : ∀ (d i m k : Nat), m - i = d → i ≤ m → d < k →
    (∀ j a S, i ≤ j → j < m → I j a S → ∃ a' S', f a S = some (.normal, a', S') ∧ I (j + 1) a' S') → (∀ a S, I m a S → ∃ e a' S', e ≠ .normal ∧ f a S = some (e, a', S') ∧ Q e a' S') →
    ∀ a S, I i a S → ∃ e a' S', aloop f k a S = some (e, a', S') ∧ Q e a' S'
  | d, i, m, 0, _, _, hk, _, _, _, _, _ => by omega
  | 0, i, m, k + 1, hd, hle, hk, hs, hl, a, S, hi => by
    have : i = m := by omega
    subst this
    obtain ⟨e, a', S', hne, h1, h2⟩ := hl a S hi
    refine ⟨e, a', S', ?_, h2⟩
    simp only [aloop, h1]
    cases e with
    | normal => exact absurd rfl hne
    | _ => rfl
  | d + 1, i, m, k + 1, hd, hle, hk, hs, hl, a, S, hi => by
    obtain ⟨a1, S1, h1, h2⟩ := hs i a S (Nat.le_refl _) (by omega) hi
    obtain ⟨e, a', S', h3, h4⟩ := aloop_run I d (i + 1) m k (by omega) (by omega) (by omega) (fun j a S hj hm => hs j a S (by omega) hm) hl a1 S1 h2
    refine ⟨e, a', S', ?_, h4⟩
    simp only [aloop, h1, h3]

/-- The same for slots. -/
theorem seen_loop {f : AAct → AS → Option (Exit × AAct × AS)} {N : Nat} {mk : List Nat} {e : Exit} {live' : List (Nat × AV)} {S' : AS} (live : Nat → List (Nat × AV)) (Sf : Nat → AS) {i m k : Nat} (hle : i ≤ m) (hk : m - i < k) (he : e ≠ .normal)
    (hs : ∀ j, i ≤ j → j < m → ∀ a, In N mk (live j) a → Seen (f a (Sf j)) .normal N mk (live (j + 1)) (Sf (j + 1)))
    (hl : ∀ a, In N mk (live m) a → Seen (f a (Sf m)) e N mk live' S') : ∀ a, In N mk (live i) a → Seen (aloop f k a (Sf i)) e N mk live' S' := by
  intro a ha
  obtain ⟨e1, a1, S1, h1, h2⟩ := aloop_run (f := f) (Q := fun e1 a1 S1 => e1 = e ∧ S1 = S' ∧ In N mk live' a1) (fun j a S => In N mk (live j) a ∧ S = Sf j) (m - i) i m k rfl hle hk
    (fun j a S h1 h2 h3 => by
      obtain ⟨h3, rfl⟩ := h3
      obtain ⟨a', h4, h5⟩ := hs j h1 h2 a h3
      exact ⟨a', _, h4, h5, rfl⟩)
    (fun a S h3 => by
      obtain ⟨h3, rfl⟩ := h3
      obtain ⟨a', h4, h5⟩ := hl a h3
      exact ⟨e, a', S', he, h4, rfl, rfl, h5⟩) a (Sf i) ⟨ha, rfl⟩
  obtain ⟨rfl, rfl, h5⟩ := h2
  exact ⟨a1, h1, h5⟩

def frP (o : Option AV) (x : AV) : Prop := ∀ S : AS, o.map (fun x => (x, S)) = some (x, S)
def opP (o : Option AV) (x : AV) (S : AS) : Prop := o.map (fun x => (x, S)) = some (x, S)
def uP (o : Option AS) (S : AS) : Prop := o.map (fun S => (undefA, S)) = some (undefA, S)
theorem op_of {o : Option AV} {x : AV} {S : AS} (h : o = some x) : opP o x S := by unfold opP; rw [h]; rfl
theorem u_of {o : Option AS} {S : AS} (h : o = some S) : uP o S := by unfold uP; rw [h]; rfl
theorem fr_of {o : Option AV} {x : AV} (h : o = some x) : frP o x := fun S => by rw [h]; rfl

/-! ### Forms -/
inductive Fm where
  | mk (kind : Int) (text home : ByteArray) (kids : List Fm)

namespace Fm
def kind : Fm → Int | mk k _ _ _ => k
def text : Fm → ByteArray | mk _ t _ _ => t
def home : Fm → ByteArray | mk _ _ h _ => h
def kids : Fm → List Fm | mk _ _ _ l => l
theorem eta (x : Fm) : mk x.kind x.text x.home x.kids = x := by cases x; rfl

mutual
/-- The cells of the kids. -/
def rows : Fm → List (List AV)
  | mk _ _ _ l => rowsL l
def rowsL : List Fm → List (List AV)
  | [] => []
  | x :: l => [.v (.int .i64 x.kind), .v (.string x.text), .v (.string x.home), .lst .any (rows x)] :: rowsL l
end

def row (x : Fm) : List AV := [.v (.int .i64 x.kind), .v (.string x.text), .v (.string x.home), .lst .any x.rows]
def av (x : Fm) : AV := .agg [.v (.int .i64 x.kind), .v (.string x.text), .v (.string x.home), .lst .any x.rows]

theorem rowsL_eq : ∀ l : List Fm, rowsL l = l.map row
  | [] => rfl
  | x :: l => by simp only [rowsL, List.map_cons, rowsL_eq l]; rfl
theorem rows_eq (x : Fm) : x.rows = x.kids.map row := by cases x; simp only [rows, kids, rowsL_eq]

mutual
theorem belowRows_rows (n : Nat) : ∀ x : Fm, belowRows n x.rows = true
  | mk _ _ _ l => by simp only [rows]; exact belowRows_rowsL n l
theorem belowRows_rowsL (n : Nat) : ∀ l : List Fm, belowRows n (rowsL l) = true
  | [] => rfl
  | x :: l => by simp only [rowsL, belowRows, belowAll, AV.old, belowRows_rows n x, belowRows_rowsL n l, Bool.and_self]
end
mutual
theorem sealRows_rows (n : Nat) : ∀ x : Fm, sealRows n x.rows = x.rows
  | mk _ _ _ l => by simp only [rows]; exact sealRows_rowsL n l
theorem sealRows_rowsL (n : Nat) : ∀ l : List Fm, sealRows n (rowsL l) = rowsL l
  | [] => rfl
  | x :: l => by simp only [rowsL, sealRows, sealAll, AV.shut, sealRows_rows n x, sealRows_rowsL n l]
end
theorem belowRows_map (n : Nat) (l : List Fm) : belowRows n (l.map row) = true := by rw [← rowsL_eq]; exact belowRows_rowsL n l
theorem sealRows_map (n : Nat) (l : List Fm) : sealRows n (l.map row) = l.map row := by rw [← rowsL_eq]; exact sealRows_rowsL n l
@[simp] theorem row_len (x : Fm) : x.row.length = 4 := rfl
@[simp] theorem rows_len (x : Fm) : x.rows.length = x.kids.length := by rw [rows_eq, List.length_map]
theorem row_one (x : Fm) : x.row.all AV.one = true := rfl
theorem all_map (l : List Fm) : ((l.map row).all fun r => r.length == 4 && r.all AV.one) = true := by
  rw [List.all_eq_true]
  intro r hr
  obtain ⟨x, _, rfl⟩ := List.mem_map.1 hr
  rfl
theorem len_map (l : List Fm) : ((l.map row).all fun r => r.length == 4) = true := by
  rw [List.all_eq_true]
  intro r hr
  obtain ⟨x, _, rfl⟩ := List.mem_map.1 hr
  rfl
end Fm

theorem idx {P : Program} {t e : TypeId} {c : Cap} {rows : List (List AV)} {k : IntKind} {i : Int} {r : List AV} (hu : P.underlying t = some (.slice e)) (h0 : 0 ≤ i) (hr : rows[i.toNat]? = some r) (hs : szOf P e = some r.length) :
    aindexAddr P t (.lst c rows) (.v (.int k i)) = some (.eptr r 0) := by
  simp only [aindexAddr, aintOf, Option.bind_some, hu, h0, if_true, hr, hs]

end Go.AM
namespace Go.AM
open Go.RowKit

mutual
theorem Fm.ind {p : Fm → Prop} (h : ∀ x, (∀ y, y ∈ x.kids → p y) → p x) : ∀ x, p x
  | .mk _ _ _ l => h _ (Fm.indL h l)
theorem Fm.indL {p : Fm → Prop} (h : ∀ x, (∀ y, y ∈ x.kids → p y) → p x) : ∀ (l : List Fm), ∀ y, y ∈ l → p y
  | [] => fun _ hy => by cases hy
  | x :: l => List.forall_mem_cons.2 ⟨Fm.ind h x, Fm.indL h l⟩
end

theorem Fm.ext {x y : Fm} (h1 : x.kind = y.kind) (h2 : x.text = y.text) (h3 : x.home = y.home) (h4 : x.kids = y.kids) : x = y := by
  rw [← Fm.eta x, ← Fm.eta y, h1, h2, h3, h4]

theorem Fm.old (x : Fm) (n : Nat) : x.av.old n = true := by simp [Fm.av, AV.old, belowAll, Fm.belowRows_rows]
theorem Fm.shut (x : Fm) (n : Nat) : x.av.shut n = x.av := by simp [Fm.av, AV.shut, sealAll, Fm.sealRows_rows]
theorem Own.fm {x : Fm} {l : List AV} (h : Own l) : Own (x.av :: l) := h.cons (x.old 0) (x.shut 0)
theorem Own.lst {c : Cap} {xs : List Fm} {l : List AV} (hc : untok c = c) (h : Own l) : Own (.lst c (xs.map Fm.row) :: l) := by
  refine h.cons (by simp [AV.old, Fm.belowRows_map]) ?_
  simp only [AV.shut, Fm.sealRows_map]
  cases c <;> first | rfl | (simp [untok] at hc)
theorem Own.fun_ {f : FuncId} {l : List AV} (h : Own l) : Own (.fn (.func f) [] [] :: l) := h.cons rfl rfl

theorem Fm.rows_get {x y : Fm} {i : Nat} (h : x.kids[i]? = some y) : x.rows[i]? = some y.row := by rw [Fm.rows_eq, List.getElem?_map, h]; rfl
theorem Fm.map_get {xs : List Fm} {y : Fm} {i : Nat} (h : xs[i]? = some y) : (xs.map Fm.row)[i]? = some y.row := by rw [List.getElem?_map, h]; rfl

theorem first_no (p : Nat → Bool) : ∀ n, (∀ j, j < n → p j = true) ∨ ∃ m, m < n ∧ (∀ j, j < m → p j = true) ∧ p m = false
  | 0 => .inl fun j h => absurd h (Nat.not_lt_zero j)
  | n + 1 => by
    rcases first_no p n with h | ⟨m, h1, h2, h3⟩
    · cases hp : p n with
      | true => exact .inl fun j hj => by by_cases e : j = n; · subst e; exact hp
                                          · exact h j (by omega)
      | false => exact .inr ⟨n, by omega, h, hp⟩
    · exact .inr ⟨m, by omega, h2, h3⟩

theorem ba_list {a b : ByteArray} (h : a.toList = b.toList) : a = b := by
  have key : ∀ (a : ByteArray), a.toList = a.data.toList := fun a => by
    have loop : ∀ (n i : Nat) (r : List UInt8), a.size - i = n → ByteArray.toList.loop a i r = r.reverse ++ a.data.toList.drop i := by
      intro n
      induction n with
      | zero =>
        intro i r hn
        unfold ByteArray.toList.loop
        have : ¬ i < a.size := by omega
        rw [if_neg this, List.drop_of_length_le (by simp; exact Nat.not_lt.1 this)]
        simp
      | succ n ih =>
        intro i r hn
        unfold ByteArray.toList.loop
        have hi : i < a.size := by omega
        rw [if_pos hi, ih (i + 1) _ (by omega)]
        have hd : i < a.data.toList.length := by simpa using hi
        rw [List.drop_eq_getElem_cons hd]
        simp only [List.reverse_cons, List.append_assoc, List.singleton_append]
        congr 2
        have : a.get! i = a.data[i]! := rfl
        rw [this, getElem!_pos a.data i (by simpa using hi)]
        simp
    unfold ByteArray.toList
    rw [loop _ 0 [] rfl]
    simp
  rw [key, key] at h
  cases a; cases b
  simp only [ByteArray.mk.injEq]
  exact Array.toList_inj.1 h

theorem wrap_id {k : Int} (h : -9223372036854775808 ≤ k) (h2 : k < 9223372036854775808) : IntKind.wrap IntKind.i64 k = k := by
  simp [IntKind.wrap, IntKind.signed, IntKind.bits]; omega
end Go.AM

/- Small lemmas for the walks. -/
namespace Go.AM
open Go.RowKit
theorem Evt.shift {p : Nat → Prop} (h : Evt fun n => p (n + 60)) : Evt p := let ⟨N, hN⟩ := h; ⟨N + 60, fun n hn => by obtain ⟨m, rfl⟩ : ∃ m, n = m + 60 := ⟨n - 60, by omega⟩; exact hN m (by omega)⟩
theorem Evt.unshift {p : Nat → Prop} (h : Evt p) : Evt fun n => p (n + 60) := let ⟨N, hN⟩ := h; ⟨N, fun n hn => hN _ (by omega)⟩
theorem beqT {α : Type} [BEq α] [LawfulBEq α] {a b : α} (h : a = b) : (a == b) = true := by subst h; simp
theorem beqF {α : Type} [BEq α] [LawfulBEq α] {a b : α} (h : a ≠ b) : (a == b) = false := by simpa using h
theorem ltT {j m : Nat} (h : j < m) : decide (Int.ofNat j < (m : Int)) = true := by simpa using h
theorem ltF {j m : Nat} (h : ¬ j < m) : decide (Int.ofNat j < (m : Int)) = false := by simpa using h
theorem wrapS {j : Nat} (h : j < 9223372036854775807) : IntKind.wrap IntKind.i64 (Int.ofNat j + 1) = Int.ofNat (j + 1) := wrap_id (by simp; omega) (by simp; omega)
theorem Fr.shift {C : Cfg} {f : FuncId} {args : List AV} {x : AV} (h : Fr C f args x) : Evt fun n => ∀ S, (lower C (n + 60)).call f args S = some (x, S) := Evt.unshift (p := fun m => ∀ S, (lower C m).call f args S = some (x, S)) h

/-- All lists in a form are of a length that fits. -/
inductive Fit : Fm → Prop
  | mk (x : Fm) (h : x.kids.length < 9223372036854775808) (hk : ∀ y, y ∈ x.kids → Fit y) : Fit x
theorem Fit.len {x : Fm} (h : Fit x) : x.kids.length < 9223372036854775808 := by cases h; assumption
theorem Fit.kid {x y : Fm} (h : Fit x) (hy : y ∈ x.kids) : Fit y := by cases h with | mk _ _ hk => exact hk y hy
end Go.AM
namespace Go.AM
open Go.RowKit
theorem seen_stop {f : AAct → AS → Option (Exit × AAct × AS)} {k N : Nat} {m : List Nat} {live : List (Nat × AV)} {a : AAct} {S S' : AS} {e : Exit} (he : e ≠ .normal) (h : Seen (f a S) e N m live S') : Seen (aloop f (k + 1) a S) e N m live S' := by
  obtain ⟨a', h1, h2⟩ := h
  refine ⟨a', ?_, h2⟩
  simp only [aloop, h1]
  cases e with
  | normal => exact absurd rfl he
  | _ => rfl
theorem seen_next {f : AAct → AS → Option (Exit × AAct × AS)} {k N N' : Nat} {m m' : List Nat} {live live' : List (Nat × AV)} {a : AAct} {S S1 S' : AS} {e : Exit} (h : Seen (f a S) .normal N m live S1) (hk : ∀ a', In N m live a' → Seen (aloop f k a' S1) e N' m' live' S') : Seen (aloop f (k + 1) a S) e N' m' live' S' := by
  obtain ⟨a', h1, h2⟩ := h
  obtain ⟨a2, h3, h4⟩ := hk a' h2
  exact ⟨a2, by simp only [aloop, h1, h3], h4⟩
theorem Seen.weak {r : Option (Exit × AAct × AS)} {e : Exit} {N : Nat} {m : List Nat} {live live' : List (Nat × AV)} {S : AS} (h : Seen r e N m live S) (hl : ∀ l, HasL live l → HasL live' l) : Seen r e N m live' S :=
  let ⟨a, h1, h2⟩ := h; ⟨a, h1, h2.marks, h2.len, hl _ h2.has⟩
/-- The first element with a property. -/
def idxOf (p : Fm → Bool) : List Fm → Int → Int
  | [], _ => -1
  | x :: l, i => bif p x then i else idxOf p l (i + 1)
theorem idxOf_any (p : Fm → Bool) : ∀ (l : List Fm) (i : Int), 0 ≤ i → (decide (idxOf p l i ≥ 0)) = l.any p
  | [], i, _ => by simp [idxOf]
  | x :: l, i, h => by
    have ih := idxOf_any p l (i + 1) (by omega)
    cases hp : p x with
    | true => simp [idxOf, hp, h]
    | false => simp only [idxOf, hp, cond_false, List.any_cons, Bool.false_or]; exact ih
mutual
/-- What counting nodes answers. -/
def Fm.nodes : Fm → Int → Int
  | .mk _ _ _ l, m => Fm.nodesL l 1 m
def Fm.nodesL : List Fm → Int → Int → Int
  | [], k, _ => k
  | y :: l, k, m => bif decide (k > m) then k else Fm.nodesL l (IntKind.i64.wrap (k + Fm.nodes y (IntKind.i64.wrap (m - k)))) m
end
theorem Fm.nodes_eq (x : Fm) (m : Int) : x.nodes m = Fm.nodesL x.kids 1 m := by cases x; rfl
mutual
def Fm.brief : Fm → Bool
  | .mk _ t h l => decide ((t.size : Int) ≤ 30) && (decide ((h.size : Int) ≤ 30) && !Fm.anyLong l)
def Fm.anyLong : List Fm → Bool
  | [] => false
  | y :: l => !Fm.brief y || Fm.anyLong l
end
theorem Fm.anyLong_eq : ∀ l : List Fm, Fm.anyLong l = l.any fun y => !y.brief
  | [] => rfl
  | y :: l => by simp only [Fm.anyLong, List.any_cons, Fm.anyLong_eq l]
theorem Fm.brief_eq (x : Fm) : x.brief = (decide ((x.text.size : Int) ≤ 30) && (decide ((x.home.size : Int) ≤ 30) && !x.kids.any fun y => !y.brief)) := by
  cases x with | mk k t h l => show _ = (decide ((t.size : Int) ≤ 30) && (decide ((h.size : Int) ≤ 30) && !l.any fun y => !y.brief)); rw [← Fm.anyLong_eq]; simp only [Fm.brief]
end Go.AM

/- Lists of forms in the store and out of it. -/
namespace Go.AM
open Go.RowKit

structure FormP (P : Program) (tl te : TypeId) : Prop where
  sl : P.underlying tl = some (.slice te)
  sz : szOf P te = some 4
  ag : aggOf te P = some true
  z' : (azero P te).map List.length = some 4
  info' : ((P.info? te).map fun i => Nat.ble i.bytes 1000) = some true

variable {P : Program} {tl te : TypeId}

theorem FormP.z (h : FormP P tl te) : ∃ z, azero P te = some z ∧ z.length = 4 := Option.map_eq_some_iff.1 h.z'
theorem FormP.info (h : FormP P tl te) : ∃ i, P.info? te = some i ∧ i.bytes ≤ 1000 := by
  obtain ⟨i, h1, h2⟩ := Option.map_eq_some_iff.1 h.info'
  exact ⟨i, h1, Nat.le_of_ble_eq_true h2⟩
theorem FormP.row (h : FormP P tl te) : isRow P tl = some (te, 4) := by
  unfold isRow
  rw [h.sl]
  simp only [h.sz, Option.bind_some]
  rfl

/-- The cells of a list of forms. -/
def flat4 (xs : List Fm) : List AV := (xs.map Fm.row).flatten
@[simp] theorem flat4_len (xs : List Fm) : (flat4 xs).length = xs.length * 4 := by
  unfold flat4
  rw [flat_len _ 4 (by intro r hr; obtain ⟨x, _, rfl⟩ := List.mem_map.1 hr; rfl), List.length_map]
theorem flat4_cons (x : Fm) (xs : List Fm) : flat4 (x :: xs) = x.row ++ flat4 xs := rfl
theorem flat4_append (xs ys : List Fm) : flat4 (xs ++ ys) = flat4 xs ++ flat4 ys := by simp [flat4]
theorem flat4_take (xs : List Fm) (n : Nat) : (flat4 xs).take (n * 4) = flat4 (xs.take n) := by
  unfold flat4
  rw [List.map_take, flat_take _ 4 (by intro r hr; obtain ⟨x, _, rfl⟩ := List.mem_map.1 hr; rfl)]
theorem flat4_drop : ∀ (n : Nat) (xs : List Fm), (flat4 xs).drop (n * 4) = flat4 (xs.drop n)
  | 0, xs => by simp
  | n + 1, [] => by simp [flat4]
  | n + 1, x :: xs => by
    rw [flat4_cons, List.drop_succ_cons, ← flat4_drop n xs, show (n + 1) * 4 = x.row.length + n * 4 by simp [Fm.row_len]; omega, List.drop_append]
    simp
theorem flat4_one (xs : List Fm) : (flat4 xs).all AV.one = true := by
  rw [List.all_eq_true]
  intro a ha
  unfold flat4 at ha
  obtain ⟨r, hr, har⟩ := List.mem_flatten.1 ha
  obtain ⟨x, _, rfl⟩ := List.mem_map.1 hr
  exact List.all_eq_true.1 (Fm.row_one x) a har
theorem chunks_flat4 : ∀ xs : List Fm, chunks 4 xs.length (flat4 xs) = xs.map Fm.row
  | [] => rfl
  | x :: xs => by
    rw [flat4_cons]
    simp only [List.length_cons, chunks, List.map_cons]
    rw [List.take_left' (Fm.row_len x), List.drop_left' (Fm.row_len x), chunks_flat4 xs]

theorem slice_lst (h : FormP P tl te) (xs : List Fm) {s e : Nat} (h1 : s ≤ e) (h2 : e ≤ xs.length) :
    aslice P tl (.lst .any (xs.map Fm.row)) (some (.v (.int .i64 s))) (some (.v (.int .i64 e))) none = some (.lst .any (((xs.take e).drop s).map Fm.row)) := by
  unfold aslice
  dsimp only
  rw [h.sl]
  simp only [aintOf, Option.bind_some, h.sz, Option.isSome_some, and_true, List.length_map]
  rw [if_pos]
  · simp only [capOf, Int.toNat_natCast, ← List.map_take, ← List.map_drop]
  · refine ⟨by omega, by omega, by omega, ?_⟩
    cases xs with
    | nil => left; simp at h2; omega
    | cons x xs => right; simp

theorem rows_lst (S : AS) (c : Cap) (xs : List Fm) : rowsOf S 4 (.lst c (xs.map Fm.row)) = some (xs.map Fm.row) := by
  unfold rowsOf
  dsimp only
  rw [if_pos (Fm.all_map xs)]

theorem rows_slc {S : AS} {o k : Nat} {xs : List Fm} {T : TypeId} (h : S.cellsAt o = some (flat4 xs, T)) {s e : Nat} (h1 : s ≤ e) (h2 : e ≤ xs.length) :
    rowsOf S 4 (.slc o 4 (s * 4) (e - s) k) = some (((xs.take e).drop s).map Fm.row) := by
  unfold rowsOf
  dsimp only
  have hl : ((flat4 xs).drop (s * 4)).take ((e - s) * 4) = flat4 ((xs.take e).drop s) := by
    rw [flat4_drop, flat4_take, List.take_drop]
    congr 2
    rw [show s + (e - s) = e by omega]
  rw [if_pos rfl, h, Option.bind_some, hl]
  have hn : ((xs.take e).drop s).length = e - s := by simp; omega
  rw [if_pos ⟨by rw [flat4_len, hn], flat4_one _⟩, ← hn, chunks_flat4]

theorem append_new (h : FormP P tl te) {S : AS} {o : Nat} {c : Cap} {xs : List Fm} (hS : S.cellsAt o = some ([], te)) (h0 : xs ≠ []) (hb : xs.length ≤ 100000) :
    aappend P true S tl (.slc o 4 0 0 0) (.lst c (xs.map Fm.row)) = some (.slc S.objs.length 4 0 xs.length xs.length, (S.set o .dead).push (.cells (flat4 xs) te)) := by
  obtain ⟨z, hz, hzl⟩ := h.z
  obtain ⟨i, hi, hib⟩ := h.info
  have hl : xs.length ≠ 0 := by simpa using h0
  have hbb : xs.length * i.bytes ≤ 140737488355328 := Nat.le_trans (Nat.mul_le_mul hb hib) (by decide)
  have hm : xs.length ≤ maxLen := Nat.le_trans hb (by decide)
  unfold aappend
  rw [h.row]
  simp only [Option.bind_some, hz, hi, rows_lst, hzl, ne_eq, not_true, if_false, List.length_map, hl, if_true, hS, Nat.zero_add, Nat.zero_mul, Nat.add_zero, List.length_nil]
  rw [if_neg (by omega), if_pos ⟨by omega, trivial, trivial, hbb, hm, by omega⟩]
  rfl

theorem append_lst (h : FormP P tl te) {S : AS} {c : Cap} {xs : List Fm} (h0 : xs ≠ []) (hb : xs.length ≤ 100000) :
    aappend P false S tl (.lst .exact []) (.lst c (xs.map Fm.row)) = some (.lst (.tok S.ends.length xs.length 4) (xs.map Fm.row), S.tokN xs.length) := by
  obtain ⟨z, hz, hzl⟩ := h.z
  obtain ⟨i, hi, hib⟩ := h.info
  have hl : xs.length ≠ 0 := by simpa using h0
  have hbb : xs.length * i.bytes ≤ 140737488355328 := Nat.le_trans (Nat.mul_le_mul hb hib) (by decide)
  have hm : xs.length ≤ maxLen := Nat.le_trans hb (by decide)
  unfold aappend
  rw [h.row]
  simp only [Option.bind_some, hz, hi, rows_lst, hzl, ne_eq, not_true, if_false, List.length_map, hl, Nat.zero_add, List.length_nil, List.all_nil, List.nil_append]
  rw [if_pos ⟨trivial, hbb, hm⟩]
  rfl

theorem append_lst0 (h : FormP P tl te) {S : AS} {c : Cap} {mu : Bool} : aappend P mu S tl (.lst .exact []) (.lst c []) = some (.lst .exact [], S) := by
  obtain ⟨z, hz, hzl⟩ := h.z
  obtain ⟨i, hi, hib⟩ := h.info
  unfold aappend
  rw [h.row]
  simp only [Option.bind_some, hz, hi, hzl, ne_eq, not_true, if_false, rowsOf, List.all_nil, if_true, List.length_nil]

theorem append_slc0 (h : FormP P tl te) {S : AS} {c : Cap} {mu : Bool} {o : Nat} : aappend P mu S tl (.slc o 4 0 0 0) (.lst c []) = some (.slc o 4 0 0 0, S) := by
  obtain ⟨z, hz, hzl⟩ := h.z
  obtain ⟨i, hi, hib⟩ := h.info
  unfold aappend
  rw [h.row]
  simp only [Option.bind_some, hz, hi, hzl, ne_eq, not_true, if_false, rowsOf, List.all_nil, if_true, List.length_nil]

/-! what goes out -/
theorem lendR_map (S : AS) (dr : List AV → Option (List AV)) (xs : List Fm) : lendR S dr (xs.map Fm.row) = some (xs.map Fm.row) := by
  rw [lendR_old S dr _ (Fm.belowRows_map 0 xs), Fm.sealRows_map]
theorem lendL_row (S : AS) (dr : List AV → Option (List AV)) (x : Fm) : lendL S dr x.row = some x.row := by
  rw [lendL_old S dr _ (by simp [Fm.row, belowAll, AV.old, Fm.belowRows_rows])]
  simp [Fm.row, sealAll, AV.shut, Fm.sealRows_rows]
theorem drRows_map (dr : List AV → Option (List AV)) (hd : ∀ x : Fm, dr x.row = some x.row) : ∀ xs : List Fm, drRows dr (xs.map Fm.row) = some (xs.map Fm.row)
  | [] => rfl
  | x :: xs => by
    simp only [List.map_cons, drRows]
    rw [hd, drRows_map dr hd xs]
theorem lendAll_row (S : AS) (d : Nat) (x : Fm) : lendAll d S x.row = some x.row := by
  cases d <;> · unfold lendAll; exact lendL_row _ _ x
theorem lend_lst (S : AS) (d : Nat) (c : Cap) (xs : List Fm) : lendV S (lendAll d S) (.lst c (xs.map Fm.row)) = some (.lst (untok c) (xs.map Fm.row)) := by
  unfold lendV
  rw [lendR_map]
theorem lend_slc {S : AS} {d o k : Nat} {xs : List Fm} {T : TypeId} (h : S.cellsAt o = some (flat4 xs, T)) : lendV S (lendAll d S) (.slc o 4 0 xs.length k) = some (.lst .unk (xs.map Fm.row)) := by
  have hr := rows_slc (k := k) h (s := 0) (e := xs.length) (by omega) (by omega)
  simp only [Nat.zero_mul, Nat.sub_zero, List.take_length, List.drop_zero] at hr
  unfold lendV
  rw [hr]
  dsimp only
  rw [drRows_map _ (lendAll_row S d)]
theorem lend_pair {S : AS} {x y : AV} {v : Value} (h : lendV S (lendAll 4 S) x = some y) : lend S (.tup [x, .v v]) = some (.tup [y, .v v]) := by
  unfold lend lendV lendL
  rw [h]
  rfl

/-! reading and writing -/
theorem index_slc (h : FormP P tl te) {o k n i : Nat} {ik : IntKind} (hi : i < n) : aindexAddr P tl (.slc o 4 0 n k) (.v (.int ik i)) = some (.ptr o (i * 4)) := by
  unfold aindexAddr
  simp only [aintOf, Option.bind_some, h.sl, h.sz]
  rw [if_pos ⟨by omega, by omega, trivial⟩]
  simp
theorem load_slc (h : FormP P tl te) {S : AS} {o i : Nat} {xs : List Fm} {x : Fm} {T : TypeId} (hS : S.cellsAt o = some (flat4 xs, T)) (hx : xs[i]? = some x) : aload P S te (.ptr o (i * 4)) = some x.av := by
  unfold aload
  dsimp only
  rw [hS, Option.bind_some]
  obtain ⟨hi, rfl⟩ := List.getElem?_eq_some_iff.1 hx
  unfold pick
  simp only [h.ag, h.sz, Option.bind_some]
  rw [if_pos (by rw [flat4_len]; omega), flat4_drop, List.drop_eq_getElem_cons hi, flat4_cons, List.take_left' (Fm.row_len _)]
  rfl
theorem splice_flat4 (xs : List Fm) (i : Nat) (x : Fm) (hi : i < xs.length) : splice (flat4 xs) (i * 4) x.row = flat4 (xs.set i x) := by
  unfold splice
  rw [Fm.row_len, show i * 4 + 4 = (i + 1) * 4 by omega, flat4_take, flat4_drop, ← flat4_one_app x, ← flat4_append, ← flat4_append, List.set_eq_take_append_cons_drop, if_pos hi, List.append_assoc]
  rfl
where flat4_one_app (x : Fm) : flat4 [x] = x.row := by simp [flat4]
theorem store_slc (h : FormP P tl te) {S : AS} {o i : Nat} {xs : List Fm} {x : Fm} {T : TypeId} (hS : S.cellsAt o = some (flat4 xs, T)) (hi : i < xs.length) : astore P S te x.av (.ptr o (i * 4)) = some (S.set o (.cells (flat4 (xs.set i x)) T)) := by
  unfold astore
  simp only [hS, Option.bind_some, h.sz]
  have hc : x.av.cells = x.row := rfl
  rw [hc, Fm.row_len, Fm.row_one, if_pos, splice_flat4 xs i x hi]
  simp only [flat4_len, Bool.true_and, Bool.and_eq_true, decide_eq_true_eq]
  exact ⟨by simp, by omega⟩
theorem splice_many (xs ys : List Fm) (s : Nat) (h : s + ys.length ≤ xs.length) : splice (flat4 xs) (s * 4) (flat4 ys) = flat4 (xs.take s ++ ys ++ xs.drop (s + ys.length)) := by
  unfold splice
  rw [flat4_len, show s * 4 + ys.length * 4 = (s + ys.length) * 4 by omega, flat4_take, flat4_drop, ← flat4_append, ← flat4_append]
theorem copy_slc (h : FormP P tl te) {S : AS} {o s n k : Nat} {c : Cap} {xs ys : List Fm} {T : TypeId} (hS : S.cellsAt o = some (flat4 xs, T)) (hn : s + n ≤ xs.length) :
    acopy P S tl (.slc o 4 (s * 4) n k) (.lst c (ys.map Fm.row)) = some (.v (.int .i64 (min ys.length n : Nat)), S.set o (.cells (flat4 (xs.take s ++ ys.take (min ys.length n) ++ xs.drop (s + min ys.length n))) T)) := by
  unfold acopy
  rw [h.row]
  simp only [Option.bind_some, rows_lst, List.length_map, if_true, hS]
  rw [if_pos (by rw [flat4_len]; omega), ← List.map_take]
  have := splice_many xs (ys.take (min ys.length n)) s (by simp; omega)
  rw [show (List.map Fm.row (List.take (min ys.length n) ys)).flatten = flat4 (ys.take (min ys.length n)) from rfl, this]
  simp only [List.length_take, Nat.min_assoc, Nat.min_self, show min (min ys.length n) ys.length = min ys.length n by omega]
theorem slice_slc (h : FormP P tl te) {o s e n k : Nat} (h1 : s ≤ e) (h2 : e ≤ n) (h3 : n ≤ k) (h4 : s < k) :
    aslice P tl (.slc o 4 0 n k) (some (.v (.int .i64 s))) (some (.v (.int .i64 e))) none = some (.slc o 4 (s * 4) (e - s) (k - s)) := by
  unfold aslice
  dsimp only
  rw [h.sl]
  simp only [aintOf, Option.bind_some, h.sz]
  rw [if_pos ⟨by omega, by omega, by omega, trivial⟩]
  by_cases h0 : s = 0
  · subst h0; simp
  · rw [if_neg (by omega), if_pos (by omega)]
    simp only [Int.toNat_natCast, Nat.zero_add]
    congr 2
    omega
theorem slice_end (h : FormP P tl te) {o n : Nat} (h0 : 0 < n) :
    aslice P tl (.slc o 4 0 n n) (some (.v (.int .i64 n))) (some (.v (.int .i64 n))) none = some (.lst .unk []) := by
  unfold aslice
  dsimp only
  rw [h.sl]
  simp only [aintOf, Option.bind_some, h.sz]
  rw [if_pos ⟨by omega, by omega, by omega, trivial⟩, if_neg (by omega), if_neg (by omega)]
theorem copy_none (h : FormP P tl te) {S : AS} {c c' : Cap} {ys : List Fm} : acopy P S tl (.lst c' []) (.lst c (ys.map Fm.row)) = some (.v (.int .i64 0), S) := by
  unfold acopy
  rw [h.row]
  simp only [Option.bind_some, rows_lst]
end Go.AM

/- The value of a call whatever the fuel; values told less of. -/
namespace Go.AM
open Go.RowKit

variable {C : Cfg}

open Classical in
noncomputable def evtCall (C : Cfg) (f : FuncId) (args : List AV) (S : AS) : Option (AV × AS) :=
  if h : ∃ r n, (lower C n).call f args S = some r then some (Classical.choose h) else none

theorem evtCall_inv {f : FuncId} {args : List AV} {S : AS} {r : AV × AS} (h : evtCall C f args S = some r) : ∃ n, (lower C n).call f args S = some r := by
  unfold evtCall at h
  split at h
  · rename_i hx
    cases h
    exact Classical.choose_spec hx
  · cases h

theorem evtCall_eq {f : FuncId} {args : List AV} {S : AS} {r : AV × AS} {n : Nat} (h : (lower C n).call f args S = some r) : evtCall C f args S = some r := by
  have hx : ∃ r n, (lower C n).call f args S = some r := ⟨r, n, h⟩
  unfold evtCall
  rw [dif_pos hx]
  obtain ⟨m, hm⟩ := Classical.choose_spec hx
  have h1 := (lower_le C (Nat.le_max_left n m)).call h
  have h2 := (lower_le C (Nat.le_max_right n m)).call hm
  rw [h1] at h2
  exact h2.symm

theorem evtCall_fr {f : FuncId} {args : List AV} {x : AV} (h : Fr C f args x) (S : AS) : evtCall C f args S = some (x, S) := by
  obtain ⟨N, hN⟩ := h
  exact evtCall_eq (hN N (Nat.le_refl _) S)
theorem evtCall_evt {f : FuncId} {args : List AV} {S : AS} {r : AV × AS} (h : Evt fun n => (lower C n).call f args S = some r) : evtCall C f args S = some r := by
  obtain ⟨N, hN⟩ := h
  exact evtCall_eq (hN N (Nat.le_refl _))

theorem evtCall_ok (hN : NamesOK C.P) (hX : XOK C) (hm : C.P.follows .mixedOrders = true) (f : FuncId) : ConOK C.P f (evtCall C f) where
  low := by intro args S x S' h; obtain ⟨n, hn⟩ := evtCall_inv h; exact (lower_ok hN hX hm n).low hn
  ent := by intro args S x S' h; obtain ⟨n, hn⟩ := evtCall_inv h; exact (lower_ok hN hX hm n).ent hn
  call := by intro args S x S' B0 w0 w E ys h hs hp; obtain ⟨n, hn⟩ := evtCall_inv h; exact (lower_ok hN hX hm n).call hn hs hp

/-! short names -/
abbrev vI (i : Int) : AV := .v (.int .i64 i)
abbrev vB (b : Bool) : AV := .v (.bool b)
abbrev vS (s : ByteArray) : AV := .v (.string s)

/-! nil slices become lists that may be nil -/
mutual
def weakV : AV → AV
  | .v (.slice none 0 0) => .lst .any []
  | .eptr row o => .eptr (weakL row) o
  | .lst _ rows => .lst .any (weakR rows)
  | .fn f a b => .fn f (weakL a) (weakL b)
  | .ifc t x => .ifc t (weakV x)
  | .agg l => .agg (weakL l)
  | .tup l => .tup (weakL l)
  | x => x
def weakL : List AV → List AV
  | [] => []
  | x :: l => weakV x :: weakL l
def weakR : List (List AV) → List (List AV)
  | [] => []
  | r :: l => weakL r :: weakR l
end

theorem weakL_map : ∀ l, weakL l = l.map weakV
  | [] => rfl
  | x :: l => by simp only [weakL, List.map_cons, weakL_map l]
theorem weakR_map : ∀ l, weakR l = l.map weakL
  | [] => rfl
  | x :: l => by simp only [weakR, List.map_cons, weakR_map l]
theorem weakR_flat (l : List (List AV)) : (weakR l).flatten = weakL l.flatten := by
  rw [weakR_map, weakL_map]
  induction l with
  | nil => rfl
  | cons r l ih => simp only [List.map_cons, List.flatten_cons, ih, List.map_append, weakL_map]

theorem VRd.weak {E : Env} {w : World} : ∀ {d : Nat} {x : AV} {y : Value}, VRd E w d x y → VRd E w d (weakV x) y
  | 0, _, _, hv => hv.elim
  | d + 1, x, y, hv => by
    have hrow : ∀ {l : List AV} {g b : Nat}, Row E w (VRd E w d) l g b → Row E w (VRd E w d) (weakL l) g b := fun hr m x hx => by
      rw [weakL_map, List.getElem?_map] at hx
      obtain ⟨x0, hx0, rfl⟩ := Option.map_eq_some_iff.1 hx
      obtain ⟨h1, z, h2, h3⟩ := hr m x0 hx0
      exact ⟨h1, z, h2, VRd.weak h3⟩
    have hp : ∀ {l : List AV} {ys : List Value}, Pair (VRd E w d) l ys → Pair (VRd E w d) (weakL l) ys := fun hr => by
      refine ⟨by rw [weakL_map, List.length_map]; exact hr.1, fun i x y hx hy => ?_⟩
      rw [weakL_map, List.getElem?_map] at hx
      obtain ⟨x0, hx0, rfl⟩ := Option.map_eq_some_iff.1 hx
      exact VRd.weak (hr.2 i x0 y hx0 hy)
    cases x with
    | junk => exact hv
    | v x =>
      by_cases h : x = .slice none 0 0
      · subst h
        obtain ⟨_, rfl⟩ := hv
        exact .inl ⟨rfl, none, rfl, .inl rfl⟩
      · have : weakV (.v x) = .v x := by
          unfold weakV
          split <;> first | rfl | (rename_i h1; cases h1 <;> exact absurd rfl h) | (rename_i h1; exact absurd (AV.v.inj h1) h)
        rw [this]
        exact hv
    | ptr o off => exact hv
    | slc o sz off len cap => exact hv
    | mp o => exact hv
    | yld o => exact hv
    | eptr row off => obtain ⟨g, b, h1, h2⟩ := hv; exact ⟨g, b, h1, hrow h2⟩
    | lst c rows =>
      rcases hv with ⟨rfl, a, h, _⟩ | ⟨g, b, cap, sz, h1, h2, h3, h4, h5, h6, h7⟩
      · exact .inl ⟨rfl, a, h, .inl rfl⟩
      · have hl : (weakR rows).length = rows.length := by rw [weakR_map, List.length_map]
        refine .inr ⟨g, b, cap, sz, by rw [hl]; exact h1, by rw [hl]; exact h2, h3, h4, ?_, by rw [weakR_flat]; exact hrow h6, trivial⟩
        intro r hr
        rw [weakR_map] at hr
        obtain ⟨r0, hr0, rfl⟩ := List.mem_map.1 hr
        rw [weakL_map, List.length_map]
        exact h5 r0 hr0
    | fn f a b => obtain ⟨fs, cs, h1, h2, h3⟩ := hv; exact ⟨fs, cs, h1, hp h2, hp h3⟩
    | ifc t x => obtain ⟨z, h1, h2⟩ := hv; exact ⟨z, h1, VRd.weak h2⟩
    | agg l => obtain ⟨ys, h1, h2⟩ := hv; exact ⟨ys, h1, hp h2⟩
    | tup l => obtain ⟨ys, h1, h2⟩ := hv; exact ⟨ys, h1, hp h2⟩

theorem VR.weak {E : Env} {w : World} {x : AV} {y : Value} (h : VR E w x y) : VR E w (weakV x) y := let ⟨d, hd⟩ := h; ⟨d, hd.weak⟩
theorem Pair.weak {E : Env} {w : World} {l : List AV} {ys : List Value} (h : Pair (VR E w) l ys) : Pair (VR E w) (weakL l) ys := by
  refine ⟨by rw [weakL_map, List.length_map]; exact h.1, fun i x y hx hy => ?_⟩
  rw [weakL_map, List.getElem?_map] at hx
  obtain ⟨x0, hx0, rfl⟩ := Option.map_eq_some_iff.1 hx
  exact (h.2 i x0 y hx0 hy).weak

/-- A call of which less is told. -/
noncomputable def weakCall (C : Cfg) (f : FuncId) (args : List AV) (S : AS) : Option (AV × AS) :=
  (evtCall C f (weakL args) S).map fun r => (weakV r.1, r.2)

theorem weakCall_ok (hN : NamesOK C.P) (hX : XOK C) (hm : C.P.follows .mixedOrders = true) (f : FuncId) : ConOK C.P f (weakCall C f) where
  low := by intro args S x S' h; obtain ⟨r, h1, h2⟩ := Option.map_eq_some_iff.1 h; cases h2; exact (evtCall_ok hN hX hm f).low h1
  ent := by intro args S x S' h; obtain ⟨r, h1, h2⟩ := Option.map_eq_some_iff.1 h; cases h2; exact (evtCall_ok hN hX hm f).ent h1
  call := by
    intro args S x S' B0 w0 w E ys h hs hp
    obtain ⟨r, h1, h2⟩ := Option.map_eq_some_iff.1 h
    cases h2
    refine ((evtCall_ok hN hX hm f).call h1 hs hp.weak).mono fun e w1 he => ?_
    cases e with
    | returned y => obtain ⟨E', h1, h2, h3⟩ := he; exact ⟨E', h1, h2, h3.weak⟩
    | panicked c => exact he
    | outgrown => exact he

/-! A loop over a list, by what a round makes of what is kept. -/
abbrev Fin := Exit × List (Nat × AV) × AS
def eachL {α β : Type} (step : Nat → β → α → Fin ⊕ β) (fin : β → Fin) : List α → Nat → β → Fin
  | [], _, b => fin b
  | x :: xs, j, b => match step j b x with | .inl r => r | .inr b' => eachL step fin xs (j + 1) b'

theorem seen_each {α β : Type} {f : AAct → AS → Option (Exit × AAct × AS)} {N : Nat} {mk : List Nat} {xs : List α} (live : Nat → β → List (Nat × AV)) (St : Nat → β → AS) (I : Nat → β → Prop) (step : Nat → β → α → Fin ⊕ β) (fin : β → Fin)
    (hs : ∀ j b x, xs[j]? = some x → I j b → match step j b x with
      | .inr b' => I (j + 1) b' ∧ ∀ a, In N mk (live j b) a → Seen (f a (St j b)) .normal N mk (live (j + 1) b') (St (j + 1) b')
      | .inl r => r.1 ≠ .normal ∧ ∀ a, In N mk (live j b) a → Seen (f a (St j b)) r.1 N mk r.2.1 r.2.2)
    (he : ∀ b, I xs.length b → (fin b).1 ≠ .normal ∧ ∀ a, In N mk (live xs.length b) a → Seen (f a (St xs.length b)) (fin b).1 N mk (fin b).2.1 (fin b).2.2) :
    ∀ (d j : Nat) (b : β) (k : Nat), xs.length - j = d → j ≤ xs.length → d < k → I j b → ∀ a, In N mk (live j b) a → Seen (aloop f k a (St j b)) (eachL step fin (xs.drop j) j b).1 N mk (eachL step fin (xs.drop j) j b).2.1 (eachL step fin (xs.drop j) j b).2.2 := by
  intro d
  induction d with
  | zero =>
    intro j b k hd hj hk hi a ha
    obtain ⟨k, rfl⟩ : ∃ m, k = m + 1 := ⟨k - 1, by omega⟩
    have e : j = xs.length := by omega
    subst e
    rw [List.drop_length]
    exact seen_stop (he b hi).1 ((he b hi).2 a ha)
  | succ d ih =>
    intro j b k hd hj hk hi a ha
    obtain ⟨k, rfl⟩ : ∃ m, k = m + 1 := ⟨k - 1, by omega⟩
    have hlt : j < xs.length := by omega
    rw [List.drop_eq_getElem_cons hlt]
    have h := hs j b xs[j] (List.getElem?_eq_getElem hlt) hi
    unfold eachL
    cases hst : step j b xs[j] with
    | inl r => rw [hst] at h; exact seen_stop h.1 (h.2 a ha)
    | inr b' =>
      rw [hst] at h
      exact seen_next (h.2 a ha) fun a' ha' => ih (j + 1) b' k (by omega) (by omega) (by omega) h.1 a' ha'
end Go.AM
