/- The abstract machine: contracts of pure functions out of paths. -/
import Derived.Test.YtlfobfhklmndkaaGreatDoorB2
namespace Go.AM
open Go.RowKit

variable {C : Cfg} {L : Lw}

mutual
theorem AV.shut_shut (n : Nat) : ∀ x : AV, (x.shut n).shut n = x.shut n
  | .junk => rfl
  | .v _ => rfl
  | .ptr _ _ => rfl
  | .eptr row b => by simp only [AV.shut, sealAll_seal n row]
  | .lst c rows => by
    simp only [AV.shut, sealRows_seal n rows]
    cases c with
    | tok t e s => by_cases h : t < n <;> simp [h]
    | _ => rfl
  | .slc _ _ _ _ _ => rfl
  | .mp _ => rfl
  | .yld _ => rfl
  | .fn f a b => by simp only [AV.shut, sealAll_seal n a, sealAll_seal n b]
  | .ifc t x => by simp only [AV.shut, AV.shut_shut n x]
  | .agg l => by simp only [AV.shut, sealAll_seal n l]
  | .tup l => by simp only [AV.shut, sealAll_seal n l]
theorem sealAll_seal (n : Nat) : ∀ l : List AV, sealAll n (sealAll n l) = sealAll n l
  | [] => rfl
  | x :: l => by simp only [sealAll, AV.shut_shut n x, sealAll_seal n l]
theorem sealRows_seal (n : Nat) : ∀ l : List (List AV), sealRows n (sealRows n l) = sealRows n l
  | [] => rfl
  | x :: l => by simp only [sealRows, sealAll_seal n x, sealRows_seal n l]
end

mutual
theorem AV.old_shut (n k : Nat) : ∀ x : AV, (x.shut k).old n = x.old n
  | .junk => rfl
  | .v _ => rfl
  | .ptr _ _ => rfl
  | .eptr row b => by simp only [AV.shut, AV.old, belowAll_seal n k row]
  | .lst c rows => by simp only [AV.shut, AV.old, belowRows_seal n k rows]
  | .slc _ _ _ _ _ => rfl
  | .mp _ => rfl
  | .yld _ => rfl
  | .fn f a b => by simp only [AV.shut, AV.old, belowAll_seal n k a, belowAll_seal n k b]
  | .ifc t x => by simp only [AV.shut, AV.old, AV.old_shut n k x]
  | .agg l => by simp only [AV.shut, AV.old, belowAll_seal n k l]
  | .tup l => by simp only [AV.shut, AV.old, belowAll_seal n k l]
theorem belowAll_seal (n k : Nat) : ∀ l : List AV, belowAll n (sealAll k l) = belowAll n l
  | [] => rfl
  | x :: l => by simp only [sealAll, belowAll, AV.old_shut n k x, belowAll_seal n k l]
theorem belowRows_seal (n k : Nat) : ∀ l : List (List AV), belowRows n (sealRows k l) = belowRows n l
  | [] => rfl
  | x :: l => by simp only [sealRows, belowRows, belowAll_seal n k x, belowRows_seal n k l]
end

mutual
theorem lendV_old (S : AS) (dr : List AV → Option (List AV)) : ∀ x : AV, x.old 0 = true → lendV S dr x = some (x.shut 0)
  | .junk, _ => rfl
  | .v _, _ => rfl
  | .ptr o _, h => by simp [AV.old] at h
  | .eptr row b, h => by simp only [AV.old] at h; simp only [lendV, AV.shut, lendL_old S dr row h]
  | .lst c rows, h => by
    simp only [AV.old] at h; simp only [lendV, AV.shut, lendR_old S dr rows h]
    cases c <;> rfl
  | .slc o _ _ _ _, h => by simp [AV.old] at h
  | .mp o, h => by simp [AV.old] at h
  | .yld o, h => by simp [AV.old] at h
  | .fn f a b, h => by simp only [AV.old, Bool.and_eq_true] at h; simp only [lendV, AV.shut, lendL_old S dr a h.1, lendL_old S dr b h.2]
  | .ifc t x, h => by simp only [AV.old] at h; simp only [lendV, AV.shut, lendV_old S dr x h]
  | .agg l, h => by simp only [AV.old] at h; simp only [lendV, AV.shut, lendL_old S dr l h]
  | .tup l, h => by simp only [AV.old] at h; simp only [lendV, AV.shut, lendL_old S dr l h]
theorem lendL_old (S : AS) (dr : List AV → Option (List AV)) : ∀ l : List AV, belowAll 0 l = true → lendL S dr l = some (sealAll 0 l)
  | [], _ => rfl
  | x :: l, h => by simp only [belowAll, Bool.and_eq_true] at h; simp only [lendL, sealAll, lendV_old S dr x h.1, lendL_old S dr l h.2]
theorem lendR_old (S : AS) (dr : List AV → Option (List AV)) : ∀ l : List (List AV), belowRows 0 l = true → lendR S dr l = some (sealRows 0 l)
  | [], _ => rfl
  | x :: l, h => by simp only [belowRows, Bool.and_eq_true] at h; simp only [lendR, sealRows, lendL_old S dr x h.1, lendR_old S dr l h.2]
end

theorem lendL_isV {S : AS} {dr : List AV → Option (List AV)} : ∀ {l l' : List AV}, lendL S dr l = some l' → l'.all AV.isV = true → l = l'
  | [], l', h, _ => by simp only [lendL] at h; cases h; rfl
  | x :: l, l', h, hv => by
    simp only [lendL] at h
    split at h
    · rename_i x1 h1
      split at h
      · rename_i l1 h2
        cases h
        simp only [List.all_cons, Bool.and_eq_true] at hv
        rw [lendL_isV h2 hv.2]
        congr 1
        cases x with
        | v z => simp only [lendV] at h1; exact Option.some.inj h1
        | _ => exfalso; simp only [lendV] at h1; (repeat' split at h1) <;> first | (cases h1; done) | (cases h1; simp [AV.isV] at hv)
      · cases h
    · cases h

theorem lend_plain {S : AS} {dr : List AV → Option (List AV)} {x y : AV} (h : lendV S dr x = some y) (hp : y.plain = true) : x = y := by
  cases x with
  | v z => simp only [lendV] at h; exact Option.some.inj h
  | tup l =>
    simp only [lendV] at h
    split at h
    · rename_i l1 h1; cases h; rw [lendL_isV h1 hp]
    · cases h
  | agg l =>
    simp only [lendV] at h
    split at h
    · rename_i l1 h1; cases h; rw [lendL_isV h1 hp]
    · cases h
  | _ => exfalso; simp only [lendV] at h; (repeat' split at h) <;> first | (cases h; done) | (cases h; simp [AV.plain] at hp)

/-- Values that speak of no object, without tokens. -/
structure Own (args : List AV) : Prop where
  below : belowAll 0 args = true
  same : sealAll 0 args = args

theorem Own.nil : Own [] := ⟨rfl, rfl⟩
theorem Own.cons {x : AV} {l : List AV} (h1 : x.old 0 = true) (h2 : x.shut 0 = x) (h : Own l) : Own (x :: l) := ⟨by simp [belowAll, h1, h.below], by simp [sealAll, h2, h.same]⟩
theorem Own.v {x : Value} {l : List AV} (h : Own l) : Own (.v x :: l) := h.cons rfl rfl

mutual
theorem lendV_same (S S' : AS) (dr : List AV → Option (List AV)) (hc : ∀ o, S.cellsAt o = S'.cellsAt o) (hr : ∀ sz x, rowsOf S sz x = rowsOf S' sz x) : ∀ x : AV, lendV S dr x = lendV S' dr x
  | .junk => rfl
  | .v _ => rfl
  | .ptr o _ => by simp only [lendV, hc]
  | .eptr row _ => by simp only [lendV, lendL_same S S' dr hc hr row]
  | .lst _ rows => by simp only [lendV, lendR_same S S' dr hc hr rows]
  | .slc _ _ _ _ _ => by simp only [lendV, hr]
  | .mp _ => rfl
  | .yld _ => rfl
  | .fn _ a b => by simp only [lendV, lendL_same S S' dr hc hr a, lendL_same S S' dr hc hr b]
  | .ifc _ x => by simp only [lendV, lendV_same S S' dr hc hr x]
  | .agg l => by simp only [lendV, lendL_same S S' dr hc hr l]
  | .tup l => by simp only [lendV, lendL_same S S' dr hc hr l]
theorem lendL_same (S S' : AS) (dr : List AV → Option (List AV)) (hc : ∀ o, S.cellsAt o = S'.cellsAt o) (hr : ∀ sz x, rowsOf S sz x = rowsOf S' sz x) : ∀ l : List AV, lendL S dr l = lendL S' dr l
  | [] => rfl
  | x :: l => by simp only [lendL, lendV_same S S' dr hc hr x, lendL_same S S' dr hc hr l]
theorem lendR_same (S S' : AS) (dr : List AV → Option (List AV)) (hc : ∀ o, S.cellsAt o = S'.cellsAt o) (hr : ∀ sz x, rowsOf S sz x = rowsOf S' sz x) : ∀ l : List (List AV), lendR S dr l = lendR S' dr l
  | [] => rfl
  | x :: l => by simp only [lendR, lendL_same S S' dr hc hr x, lendR_same S S' dr hc hr l]
end
theorem lend_same (S S' : AS) (dr : List AV → Option (List AV)) (hc : ∀ o, S.cellsAt o = S'.cellsAt o) (hr : ∀ sz x, rowsOf S sz x = rowsOf S' sz x) : (∀ x, lendV S dr x = lendV S' dr x) ∧ (∀ l, lendL S dr l = lendL S' dr l) ∧ True := ⟨lendV_same S S' dr hc hr, lendL_same S S' dr hc hr, trivial⟩

/-- How a path through a function ends. -/
structure Path (C : Cfg) (f : FuncId) (args : List AV) (y : AV) (n : Nat) : Prop where
  ex : ∃ (e : Exit) (a : AAct) (S1 S2 : AS) (xs : List AV), aC C (lower C n) (n + 1) f none (codeOf C.P f) (actOf C.P f args) (amark {}) = some (e, a, S1) ∧ (e = .normal ∨ e = .ret) ∧ akill a.marks S1 = some S2 ∧
    aresults C.P a.tmps S2 (resultsOf C.P f) = some xs ∧ lend S2 (aone xs) = some y

theorem Path.of {f : FuncId} {args : List AV} {x y : AV} {n : Nat} {ds : Tells} {cs : PC} {S2 : AS} (h : uend C.P f (uC C (lower C n) (n + 1) f none (codeOf C.P f) (actOf C.P f args) (amark {}) ds) = some (x, S2, cs)) (hc : cs.ok) (hy : lend S2 x = some y) : Path C f args y n := by
  unfold uend at h
  split at h
  · rename_i h1
    split at h
    · split at h
      · rename_i h2
        split at h
        · rename_i h3; cases h; exact ⟨_, _, _, _, _, uC_ok _ h1 hc, .inl rfl, h2, h3, hy⟩
        · cases h
      · cases h
    · split at h
      · rename_i h2
        split at h
        · rename_i h3; cases h; exact ⟨_, _, _, _, _, uC_ok _ h1 hc, .inr rfl, h2, h3, hy⟩
        · cases h
      · cases h
    · cases h
  · cases h

/-- A contract: what the function makes of these values. -/
def Co (C : Cfg) (f : FuncId) (args : List AV) (y : AV) : Prop := Evt fun n => ∃ x S1, acallF C (lower C n) (n + 1) f args {} = some (x, S1) ∧ lend S1 x = some y

theorem Co.path {f : FuncId} {args : List AV} {y : AV} (hi : isFunc C.P f = true) (h : Evt fun n => Path C f args y n) : Co C f args y := by
  refine h.mono fun n hn => ?_
  obtain ⟨e, a, S1, S2, xs, h1, he, hk, hr, hy⟩ := hn.ex
  have h2 := acallF_code (S := {}) hi h1 he hk hr
  rw [h2]
  split
  · rename_i hif
    simp only [Bool.and_eq_true] at hif
    have ho : (aone xs).old 0 = true := hif.2
    refine ⟨_, _, rfl, ?_⟩
    have e1 := lendV_old S2 (lendAll 4 S2) _ ho
    have e2 : some ((aone xs).shut 0) = some y := by rw [← e1]; exact hy
    show lendV {} (lendAll 4 {}) ((aone xs).shut 0) = some y
    rw [lendV_old _ _ _ (by rw [AV.old_shut]; exact ho), AV.shut_shut]
    exact e2
  · refine ⟨_, _, rfl, ?_⟩
    have : ∀ (S S' : AS) (x : AV), S.objs = S'.objs → lend S x = lend S' x := by
      intro S S' x ho
      have hc : ∀ o, S.cellsAt o = S'.cellsAt o := fun o => by simp only [AS.cellsAt, ho]
      have hr : ∀ sz x, rowsOf S sz x = rowsOf S' sz x := fun sz x => by unfold rowsOf; simp only [hc]
      have hv : ∀ dr dr' : List AV → Option (List AV), (∀ l, dr l = dr' l) → ∀ l, lendL S dr l = lendL S' dr' l := by
        intro dr dr' hd
        have hd' : dr = dr' := funext hd
        subst hd'
        exact (lend_same S S' dr hc hr).2.1
      have ha : ∀ d l, lendAll d S l = lendAll d S' l := by
        intro d
        induction d with
        | zero => intro l; exact hv _ _ (fun _ => rfl) l
        | succ d ih => intro l; exact hv _ _ ih l
      have hd : lendAll 4 S = lendAll 4 S' := funext (ha 4)
      unfold lend
      rw [hd]
      exact (lend_same S S' _ hc hr).1 x
    rw [this (aunmark {} S2) S2 _ rfl]
    exact hy

theorem Fr.of_co {f : FuncId} {args : List AV} {y : AV} (hX : C.X f = none) (hF : C.F f = true) (ho : Own args) (h : Co C f args y) : Fr C f args y := by
  refine Evt.pred (h.mono fun n hn S => ?_)
  obtain ⟨x, S1, h1, h2⟩ := hn
  simp only [lower, hX, acallX, hF, ho.below, ho.same, h1, h2]

/-- A call that reads what the caller has. -/
theorem Co.lent {f : FuncId} {args args' : List AV} {y : AV} {S : AS} (hX : C.X f = none) (hF : C.F f = true) (hb : belowAll 0 args = false) (hl : lendAll 4 S args = some args') (hp : y.plain = true) (h : Co C f args' y) : Evt fun n => (lower C n).call f args S = some (y, S) := by
  refine Evt.pred (h.mono fun n hn => ?_)
  obtain ⟨x, S1, h1, h2⟩ := hn
  have := lend_plain h2 hp
  subst this
  simp only [lower, hX, acallX, hF, hb, hl, h1, hp]

/-- A loop, by what holds ahead of each round. -/
theorem aloop_run {f : AAct → AS → Option (Exit × AAct × AS)} (I : Nat → AAct → AS → Prop) {Q : Exit → AAct → AS → Prop} : ∀ (d i m k : Nat), m - i = d → i ≤ m → d < k →
    (∀ j a S, i ≤ j → j < m → I j a S → ∃ a' S', f a S = some (.normal, a', S') ∧ I (j + 1) a' S') → (∀ a S, I m a S → ∃ e a' S', e ≠ .normal ∧ f a S = some (e, a', S') ∧ Q e a' S') →
    ∀ a S, I i a S → ∃ e a' S', aloop f k a S = some (e, a', S') ∧ Q e a' S'
  | d, i, m, 0, _, _, hk, _, _, _, _, _ => by omega
  | 0, i, m, k + 1, hd, hle, hk, hs, hl, a, S, hi => by
    have : i = m := by omega
    subst this
    obtain ⟨e, a', S', hne, h1, h2⟩ := hl a S hi
    refine ⟨e, a', S', ?_, h2⟩
    simp only [aloop, h1]
    cases e with
    | normal => exact absurd rfl hne
    | _ => rfl
  | d + 1, i, m, k + 1, hd, hle, hk, hs, hl, a, S, hi => by
    obtain ⟨a1, S1, h1, h2⟩ := hs i a S (Nat.le_refl _) (by omega) hi
    obtain ⟨e, a', S', h3, h4⟩ := aloop_run I d (i + 1) m k (by omega) (by omega) (by omega) (fun j a S hj hm => hs j a S (by omega) hm) hl a1 S1 h2
    refine ⟨e, a', S', ?_, h4⟩
    simp only [aloop, h1, h3]

/-- The same for slots. -/
theorem seen_loop {f : AAct → AS → Option (Exit × AAct × AS)} {N : Nat} {mk : List Nat} {e : Exit} {live' : List (Nat × AV)} {S' : AS} (live : Nat → List (Nat × AV)) (Sf : Nat → AS) {i m k : Nat} (hle : i ≤ m) (hk : m - i < k) (he : e ≠ .normal)
    (hs : ∀ j, i ≤ j → j < m → ∀ a, In N mk (live j) a → Seen (f a (Sf j)) .normal N mk (live (j + 1)) (Sf (j + 1)))
    (hl : ∀ a, In N mk (live m) a → Seen (f a (Sf m)) e N mk live' S') : ∀ a, In N mk (live i) a → Seen (aloop f k a (Sf i)) e N mk live' S' := by
  intro a ha
  obtain ⟨e1, a1, S1, h1, h2⟩ := aloop_run (f := f) (Q := fun e1 a1 S1 => e1 = e ∧ S1 = S' ∧ In N mk live' a1) (fun j a S => In N mk (live j) a ∧ S = Sf j) (m - i) i m k rfl hle hk
    (fun j a S h1 h2 h3 => by
      obtain ⟨h3, rfl⟩ := h3
      obtain ⟨a', h4, h5⟩ := hs j h1 h2 a h3
      exact ⟨a', _, h4, h5, rfl⟩)
    (fun a S h3 => by
      obtain ⟨h3, rfl⟩ := h3
      obtain ⟨a', h4, h5⟩ := hl a h3
      exact ⟨e, a', S', he, h4, rfl, rfl, h5⟩) a (Sf i) ⟨ha, rfl⟩
  obtain ⟨rfl, rfl, h5⟩ := h2
  exact ⟨a1, h1, h5⟩

def frP (o : Option AV) (x : AV) : Prop := ∀ S : AS, o.map (fun x => (x, S)) = some (x, S)
def opP (o : Option AV) (x : AV) (S : AS) : Prop := o.map (fun x => (x, S)) = some (x, S)
def uP (o : Option AS) (S : AS) : Prop := o.map (fun S => (undefA, S)) = some (undefA, S)
theorem op_of {o : Option AV} {x : AV} {S : AS} (h : o = some x) : opP o x S := by unfold opP; rw [h]; rfl
theorem u_of {o : Option AS} {S : AS} (h : o = some S) : uP o S := by unfold uP; rw [h]; rfl
theorem fr_of {o : Option AV} {x : AV} (h : o = some x) : frP o x := fun S => by rw [h]; rfl

/-! ### Forms -/
inductive Fm where
  | mk (kind : Int) (text home : ByteArray) (kids : List Fm)

namespace Fm
def kind : Fm → Int | mk k _ _ _ => k
def text : Fm → ByteArray | mk _ t _ _ => t
def home : Fm → ByteArray | mk _ _ h _ => h
def kids : Fm → List Fm | mk _ _ _ l => l
theorem eta (x : Fm) : mk x.kind x.text x.home x.kids = x := by cases x; rfl

mutual
/-- The cells of the kids. -/
def rows : Fm → List (List AV)
  | mk _ _ _ l => rowsL l
def rowsL : List Fm → List (List AV)
  | [] => []
  | x :: l => [.v (.int .i64 x.kind), .v (.string x.text), .v (.string x.home), .lst .any (rows x)] :: rowsL l
end

def row (x : Fm) : List AV := [.v (.int .i64 x.kind), .v (.string x.text), .v (.string x.home), .lst .any x.rows]
def av (x : Fm) : AV := .agg [.v (.int .i64 x.kind), .v (.string x.text), .v (.string x.home), .lst .any x.rows]

theorem rowsL_eq : ∀ l : List Fm, rowsL l = l.map row
  | [] => rfl
  | x :: l => by simp only [rowsL, List.map_cons, rowsL_eq l]; rfl
theorem rows_eq (x : Fm) : x.rows = x.kids.map row := by cases x; simp only [rows, kids, rowsL_eq]

mutual
theorem belowRows_rows (n : Nat) : ∀ x : Fm, belowRows n x.rows = true
  | mk _ _ _ l => by simp only [rows]; exact belowRows_rowsL n l
theorem belowRows_rowsL (n : Nat) : ∀ l : List Fm, belowRows n (rowsL l) = true
  | [] => rfl
  | x :: l => by simp only [rowsL, belowRows, belowAll, AV.old, belowRows_rows n x, belowRows_rowsL n l, Bool.and_self]
end
mutual
theorem sealRows_rows (n : Nat) : ∀ x : Fm, sealRows n x.rows = x.rows
  | mk _ _ _ l => by simp only [rows]; exact sealRows_rowsL n l
theorem sealRows_rowsL (n : Nat) : ∀ l : List Fm, sealRows n (rowsL l) = rowsL l
  | [] => rfl
  | x :: l => by simp only [rowsL, sealRows, sealAll, AV.shut, sealRows_rows n x, sealRows_rowsL n l]
end
theorem belowRows_map (n : Nat) (l : List Fm) : belowRows n (l.map row) = true := by rw [← rowsL_eq]; exact belowRows_rowsL n l
theorem sealRows_map (n : Nat) (l : List Fm) : sealRows n (l.map row) = l.map row := by rw [← rowsL_eq]; exact sealRows_rowsL n l
@[simp] theorem row_len (x : Fm) : x.row.length = 4 := rfl
@[simp] theorem rows_len (x : Fm) : x.rows.length = x.kids.length := by rw [rows_eq, List.length_map]
theorem row_one (x : Fm) : x.row.all AV.one = true := rfl
theorem all_map (l : List Fm) : ((l.map row).all fun r => r.length == 4 && r.all AV.one) = true := by
  rw [List.all_eq_true]
  intro r hr
  obtain ⟨x, _, rfl⟩ := List.mem_map.1 hr
  rfl
theorem len_map (l : List Fm) : ((l.map row).all fun r => r.length == 4) = true := by
  rw [List.all_eq_true]
  intro r hr
  obtain ⟨x, _, rfl⟩ := List.mem_map.1 hr
  rfl
end Fm

theorem idx {P : Program} {t e : TypeId} {c : Cap} {rows : List (List AV)} {k : IntKind} {i : Int} {r : List AV} (hu : P.underlying t = some (.slice e)) (h0 : 0 ≤ i) (hr : rows[i.toNat]? = some r) (hs : szOf P e = some r.length) :
    aindexAddr P t (.lst c rows) (.v (.int k i)) = some (.eptr r 0) := by
  simp only [aindexAddr, aintOf, Option.bind_some, hu, h0, if_true, hr, hs]

end Go.AM
namespace Go.AM
open Go.RowKit

mutual
theorem Fm.ind {p : Fm → Prop} (h : ∀ x, (∀ y, y ∈ x.kids → p y) → p x) : ∀ x, p x
  | .mk _ _ _ l => h _ (Fm.indL h l)
theorem Fm.indL {p : Fm → Prop} (h : ∀ x, (∀ y, y ∈ x.kids → p y) → p x) : ∀ (l : List Fm), ∀ y, y ∈ l → p y
  | [] => fun _ hy => by cases hy
  | x :: l => List.forall_mem_cons.2 ⟨Fm.ind h x, Fm.indL h l⟩
end

theorem Fm.ext {x y : Fm} (h1 : x.kind = y.kind) (h2 : x.text = y.text) (h3 : x.home = y.home) (h4 : x.kids = y.kids) : x = y := by
  rw [← Fm.eta x, ← Fm.eta y, h1, h2, h3, h4]

theorem Fm.old (x : Fm) (n : Nat) : x.av.old n = true := by simp [Fm.av, AV.old, belowAll, Fm.belowRows_rows]
theorem Fm.shut (x : Fm) (n : Nat) : x.av.shut n = x.av := by simp [Fm.av, AV.shut, sealAll, Fm.sealRows_rows]
theorem Own.fm {x : Fm} {l : List AV} (h : Own l) : Own (x.av :: l) := h.cons (x.old 0) (x.shut 0)
theorem Own.lst {c : Cap} {xs : List Fm} {l : List AV} (hc : untok c = c) (h : Own l) : Own (.lst c (xs.map Fm.row) :: l) := by
  refine h.cons (by simp [AV.old, Fm.belowRows_map]) ?_
  simp only [AV.shut, Fm.sealRows_map]
  cases c <;> first | rfl | (simp [untok] at hc)
theorem Own.fun_ {f : FuncId} {l : List AV} (h : Own l) : Own (.fn (.func f) [] [] :: l) := h.cons rfl rfl

theorem Fm.rows_get {x y : Fm} {i : Nat} (h : x.kids[i]? = some y) : x.rows[i]? = some y.row := by rw [Fm.rows_eq, List.getElem?_map, h]; rfl
theorem Fm.map_get {xs : List Fm} {y : Fm} {i : Nat} (h : xs[i]? = some y) : (xs.map Fm.row)[i]? = some y.row := by rw [List.getElem?_map, h]; rfl

theorem first_no (p : Nat → Bool) : ∀ n, (∀ j, j < n → p j = true) ∨ ∃ m, m < n ∧ (∀ j, j < m → p j = true) ∧ p m = false
  | 0 => .inl fun j h => absurd h (Nat.not_lt_zero j)
  | n + 1 => by
    rcases first_no p n with h | ⟨m, h1, h2, h3⟩
    · cases hp : p n with
      | true => exact .inl fun j hj => by by_cases e : j = n; · subst e; exact hp
                                          · exact h j (by omega)
      | false => exact .inr ⟨n, by omega, h, hp⟩
    · exact .inr ⟨m, by omega, h2, h3⟩

theorem ba_list {a b : ByteArray} (h : a.toList = b.toList) : a = b := by
  have key : ∀ (a : ByteArray), a.toList = a.data.toList := fun a => by
    have loop : ∀ (n i : Nat) (r : List UInt8), a.size - i = n → ByteArray.toList.loop a i r = r.reverse ++ a.data.toList.drop i := by
      intro n
      induction n with
      | zero =>
        intro i r hn
        unfold ByteArray.toList.loop
        have : ¬ i < a.size := by omega
        rw [if_neg this, List.drop_of_length_le (by simp; exact Nat.not_lt.1 this)]
        simp
      | succ n ih =>
        intro i r hn
        unfold ByteArray.toList.loop
        have hi : i < a.size := by omega
        rw [if_pos hi, ih (i + 1) _ (by omega)]
        have hd : i < a.data.toList.length := by simpa using hi
        rw [List.drop_eq_getElem_cons hd]
        simp only [List.reverse_cons, List.append_assoc, List.singleton_append]
        congr 2
        have : a.get! i = a.data[i]! := rfl
        rw [this, getElem!_pos a.data i (by simpa using hi)]
        simp
    unfold ByteArray.toList
    rw [loop _ 0 [] rfl]
    simp
  rw [key, key] at h
  cases a; cases b
  simp only [ByteArray.mk.injEq]
  exact Array.toList_inj.1 h

theorem wrap_id {k : Int} (h : -9223372036854775808 ≤ k) (h2 : k < 9223372036854775808) : IntKind.wrap IntKind.i64 k = k := by
  simp [IntKind.wrap, IntKind.signed, IntKind.bits]; omega
end Go.AM
