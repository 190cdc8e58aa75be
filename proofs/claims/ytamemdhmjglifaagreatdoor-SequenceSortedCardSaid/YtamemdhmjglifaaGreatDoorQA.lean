/- Chapter 12: the program, and what is known of it. -/
import Derived.Test.YtamemdhmjglifaaGreatDoorQ8
import Derived.Test.YtamemdhmjglifaaGreatDoorProg
namespace Go.Proofs.YtamemdhmjglifaaGreatDoor
open Go.RowKit Go.AM
set_option maxRecDepth 100000

theorem names : NamesOK Go.Proofs.Tryz.prog := by
  intro f fn hf hb
  have h : (Go.Proofs.Tryz.prog.funcs.toList.all fun fn => !(fn.name == "runtime.NumGoroutine")) = true := by kernel_rfl
  have := List.all_eq_true.1 h fn (by rw [Array.getElem?_eq_some_iff] at hf; obtain ⟨_, rfl⟩ := hf; simp)
  simpa using this
theorem mixed : Go.Proofs.Tryz.prog.follows .mixedOrders = true := by kernel_rfl

/-- Functions that make slices which are written to. -/
def hintF : List Nat := [82, 127, 130, 249, 230, 168, 282, 288, 289, 14, 34, 36, 102]
/-- Functions that are not called in the empty store: they change what they are given, or give parts of it back. -/
def wildF : List Nat := [129, 82, 127, 130, 229, 197, 14, 94, 54, 65]
def exT : List (Nat × (List Value → Option Value)) → Nat → Option (List Value → Option Value)
  | [], _ => none
  | (f, e) :: t, g => match Nat.beq f g with | true => some e | false => exT t g
/-- The slots that live at the head of a loop, by the function and the loop's first region. -/
def liveF : List (Nat × Nat × List Nat) := [(24, 4, [2, 3, 5]), (83, 2, [0, 1, 7, 8]), (70, 3, [1, 2, 5, 9, 10, 11]), (81, 4, [1, 2, 15, 16, 17]), (107, 3, [3, 10, 18, 19, 20]), (52, 6, [8, 10, 23, 24, 25]), (57, 6, [6, 8, 22, 23, 24]), (65, 5, [0, 1, 5, 6]), (11, 32, [9, 25, 184, 185, 186]), (11, 38, [9, 25, 197, 198, 199])]
def lookD : List (Nat × Nat × List Nat) → Nat → Nat → Option (List Nat)
  | [], _, _ => none
  | (f, r, l) :: t, g, s => match Nat.beq f g && Nat.beq r s with | true => some l | false => lookD t g s
/-- Without contracts. -/
noncomputable def cfg0 : Cfg := { P := Go.Proofs.Tryz.prog, H := fun f _ => memN hintF f, X := fun _ => none, F := fun f => !memN wildF f, D := lookD liveF, E := exT [(285, exIndexByte), (171, exCompare)] }
/-- The form of a digit. -/
def dig (d : Nat) : AV := .agg [.v (.int .i64 2), .v (.string ⟨⟨[(48 + d).toUInt8]⟩⟩), .v (.string ⟨⟨[]⟩⟩), .v (.slice none 0 0)]
def digOf : AV → Option Nat
  | .agg [.v (.int .i64 2), .v (.string ⟨⟨[b]⟩⟩), .v (.string ⟨⟨[]⟩⟩), .v (.slice none 0 0)] => cond (Nat.ble 48 b.toNat && Nat.blt b.toNat 52) (some (b.toNat - 48)) none
  | _ => none
def cmpN (i j : Nat) : Int := cond (Nat.blt i j) (-1) (cond (Nat.blt j i) 1 0)
/-- slices.Clone of a list of nothing, be it nil or not, is such a list. -/
noncomputable def g14 (args : List AV) (S : AS) : Option (AV × AS) :=
  match args with
  | [.lst .any []] => some (.lst .any [], S)
  | _ => (lower cfg0 61).call 14 args S
/-- Digits are compared by a table. -/
noncomputable def g118 (args : List AV) (S : AS) : Option (AV × AS) :=
  match args with
  | [a, b] => match digOf a, digOf b with
    | some i, some j => some (.tup [.v (.int .i64 (cmpN i j)), .v (.int .i64 0)], S)
    | _, _ => (lower cfg0 60).call 118 args S
  | _ => none
noncomputable def cfg : Cfg := { cfg0 with X := xT [(14, g14), (118, g118)] }

/-- Are two forms the same? -/
noncomputable def same (x y : Fm) : Bool := by classical exact decide (x = y)
end Go.Proofs.YtamemdhmjglifaaGreatDoor

/- Chapter 12: a table with what is told of keys. -/
namespace Go.Proofs.YtamemdhmjglifaaGreatDoor
open Go.RowKit Go.AM
set_option maxRecDepth 100000
/-- What is proved of calls in cfg holds here, told in the weakest form. -/
noncomputable def cA : Cfg := { cfg with X := xT [(14, g14), (118, g118), (107, weakCall cfg 107), (91, weakCall cfg 91), (92, weakCall cfg 92), (106, weakCall cfg 106), (115, weakCall cfg 115), (24, weakCall cfg 24), (84, weakCall cfg 84)] }
@[simp] theorem below_bools (n : Nat) : ∀ bs : List Bool, belowRows n (bs.map fun b => [AV.v (Value.bool b)]) = true
  | [] => rfl
  | b :: bs => by simp only [List.map_cons, belowRows, below_bools n bs]; rfl
@[simp] theorem below_flat4 (n : Nat) : ∀ xs : List Fm, belowAll n (flat4 xs) = true
  | [] => rfl
  | x :: xs => by
    have h : ∀ l m : List AV, belowAll n (l ++ m) = (belowAll n l && belowAll n m) := fun l m => by
      induction l with
      | nil => rfl
      | cons a l ih => simp only [List.cons_append, belowAll, ih, Bool.and_assoc]
    rw [flat4_cons, h, below_flat4 n xs]
    simp [Fm.row, belowAll, AV.old, Fm.belowRows_rows]
@[simp] theorem below_tail (n : Nat) (xs : List Fm) (m : Nat) : belowAll n (flat4 xs ++ List.replicate m AV.junk) = true := by
  have h : ∀ l m : List AV, belowAll n (l ++ m) = (belowAll n l && belowAll n m) := fun l m => by
    induction l with
    | nil => rfl
    | cons a l ih => simp only [List.cons_append, belowAll, ih, Bool.and_assoc]
  have h2 : ∀ m, belowAll n (List.replicate m AV.junk) = true := fun m => by
    induction m with
    | zero => rfl
    | succ m ih => simp only [List.replicate_succ, belowAll, ih]; rfl
  rw [h, below_flat4, h2]; rfl
/-- A byte. -/
def bR (b : Int) : List AV := [.v (.int .u8 b)]
/-- The mark of the law. -/
def mkF : Fm := .mk 7 (ByteArray.mk #[120]) (ByteArray.mk #[]) []
/-- Options, and what they say of a list. -/
abbrev op7 (c : Int) (fe : Bool) : AV := .agg [.v (.int .i64 0), .v (.int .i64 (-1)), .v (.int .i64 c), .v (.bool fe), .v (.bool false), .v (.int .i64 0), .v (.int .i64 0)]
abbrev opL (c : Int) (fe : Bool) : List AV := [.v (.int .i64 0), .v (.int .i64 (-1)), .v (.int .i64 c), .v (.bool fe), .v (.bool false), .v (.int .i64 0), .v (.int .i64 0)]
abbrev lkL (xs : List Fm) (m c : Int) (fe : Bool) : List AV := [.v (.int .i64 0), .v (.int .i64 m), .v (.int .i64 c), .v (.bool fe), .v (.bool false), .v (.int .i64 0), .v (.int .i64 0), .lst .any (xs.map Fm.row)]
/-- The iterator of what is taken. -/
abbrev itV (xs : List Fm) (m c : Int) (fe : Bool) (x : Fm) : AV := .fn (.func 129) [] [.eptr (lkL xs m c fe) 0, .eptr x.row 0]
/-- The mark of the law, as it is built. -/
abbrev markR : List AV := [.v (.int .i64 7), .v (.string (ByteArray.mk #[120])), .v (.string (ByteArray.mk #[])), .v (.slice none 0 0)]
/-- The law's own table. -/
noncomputable def cL : Cfg := { cA with X := xT [(13, weakCall cfg 13), (63, weakCall cfg 63), (48, weakCall cA 48), (49, weakCall cA 49), (52, weakCall cA 52), (46, weakCall cA 46), (57, weakCall cA 57), (54, weakCall cA 54), (65, weakCall cA 65), (22, weakCall cA 22), (24, weakCall cfg 24), (19, weakCall cfg 19), (37, weakCall cfg 37)] }
end Go.Proofs.YtamemdhmjglifaaGreatDoor

/- Lists of rows of any kind: appending, gathering, joining. -/
namespace Go.AM
open Go.RowKit
set_option linter.unusedVariables false

structure RowT (P : Program) (t te : TypeId) (sz : Nat) : Prop where
  sl : P.underlying t = some (.slice te)
  szt : szOf P te = some sz
  pos : 0 < sz
  z' : (azero P te).map (fun z => (z.length, z.all AV.one)) = some (sz, true)
  info' : ((P.info? te).map fun i => Nat.ble i.bytes 1000) = some true
structure RowA {α : Type} (ρ : α → List AV) (sz : Nat) : Prop where
  len : ∀ a, (ρ a).length = sz
  one : ∀ a, (ρ a).all AV.one = true
  below : ∀ n a, belowAll n (ρ a) = true
  shut : ∀ n a, sealAll n (ρ a) = ρ a
  weak : ∀ a, weakL (ρ a) = ρ a

variable {P : Program} {t te : TypeId} {sz : Nat} {α : Type} {ρ : α → List AV}

theorem RowT.row (h : RowT P t te sz) : isRow P t = some (te, sz) := by
  unfold isRow
  rw [h.sl]
  simp only [h.szt, Option.bind_some]
  rw [if_neg (by have := h.pos; omega)]
theorem RowT.z (h : RowT P t te sz) : ∃ z, azero P te = some z ∧ z.length = sz ∧ z.all AV.one = true := by
  obtain ⟨z, h1, h2⟩ := Option.map_eq_some_iff.1 h.z'
  simp only [Prod.mk.injEq] at h2
  exact ⟨z, h1, h2.1, h2.2⟩
theorem RowT.info (h : RowT P t te sz) : ∃ i, P.info? te = some i ∧ i.bytes ≤ 1000 := by
  obtain ⟨i, h1, h2⟩ := Option.map_eq_some_iff.1 h.info'
  exact ⟨i, h1, Nat.le_of_ble_eq_true h2⟩

theorem RowA.belows (h : RowA ρ sz) (n : Nat) : ∀ xs : List α, belowRows n (xs.map ρ) = true
  | [] => rfl
  | x :: xs => by simp only [List.map_cons, belowRows, h.below, RowA.belows h n xs, Bool.and_self]
theorem RowA.seals (h : RowA ρ sz) (n : Nat) : ∀ xs : List α, sealRows n (xs.map ρ) = xs.map ρ
  | [] => rfl
  | x :: xs => by simp only [List.map_cons, sealRows, h.shut, RowA.seals h n xs]
theorem RowA.weaks (h : RowA ρ sz) : ∀ xs : List α, weakR (xs.map ρ) = xs.map ρ
  | [] => rfl
  | x :: xs => by simp only [List.map_cons, weakR, h.weak, RowA.weaks h xs]
theorem RowA.lens (h : RowA ρ sz) (xs : List α) : ∀ z ∈ xs.map ρ, z.length = sz := fun z hz => by obtain ⟨b, _, rfl⟩ := List.mem_map.1 hz; exact h.len b
theorem RowA.all_len (h : RowA ρ sz) (xs : List α) : ((xs.map ρ).all fun r => r.length == sz) = true := by rw [List.all_eq_true]; intro x hx; simp [h.lens xs x hx]
theorem RowA.all_ok (h : RowA ρ sz) (xs : List α) : ((xs.map ρ).all fun r => r.length == sz && r.all AV.one) = true := by
  rw [List.all_eq_true]; intro x hx; obtain ⟨b, _, rfl⟩ := List.mem_map.1 hx; simp [h.len b, h.one b]
abbrev lG (ρ : α → List AV) (xs : List α) : AV := .lst .any (xs.map ρ)
theorem Own.lG (h : RowA ρ sz) {xs : List α} {l : List AV} (hl : Own l) : Own (lG ρ xs :: l) := hl.cons (by simp only [AV.old, h.belows]) (by simp only [AV.shut, h.seals])
theorem RowA.weak_lG (h : RowA ρ sz) (xs : List α) : weakV (lG ρ xs) = lG ρ xs := by
  show weakV (.lst .any _) = .lst .any _
  unfold weakV
  rw [h.weaks]
theorem rowsOf_lst (h : RowA ρ sz) (S : AS) (c : Cap) (xs : List α) : rowsOf S sz (.lst c (xs.map ρ)) = some (xs.map ρ) := by
  unfold rowsOf
  dsimp only
  rw [if_pos (h.all_ok xs)]

/-! a list that grows -/
def acG (sz : Nat) (rs : List (List AV)) : AV := match rs with | [] => .v (.slice none 0 0) | r :: rs => .lst (.tok 0 (rs.length + 1) sz) (r :: rs)
def acN (rs : List (List AV)) : List Nat := match rs with | [] => [] | _ :: rs => [rs.length + 1]
theorem acG_ne {rs : List (List AV)} (h : rs ≠ []) : acG sz rs = .lst (.tok 0 rs.length sz) rs := by cases rs with | nil => exact absurd rfl h | cons r rs => rfl
theorem acN_ne {rs : List (List AV)} (h : rs ≠ []) : acN rs = [rs.length] := by cases rs with | nil => exact absurd rfl h | cons r rs => rfl
def acO (rs : List (List AV)) : AV := match rs with | [] => .v (.slice none 0 0) | r :: rs => .lst .unk (r :: rs)
theorem RowA.weak_acO (h : RowA ρ sz) (xs : List α) : weakV (acO (xs.map ρ)) = lG ρ xs := by
  have h1 : ∀ rs : List (List AV), weakV (acO rs) = .lst .any (weakR rs) := fun rs => by cases rs with | nil => rfl | cons r rs => rfl
  rw [h1, h.weaks]
theorem RowA.lend_acG (h : RowA ρ sz) {S : AS} (xs : List α) : lendV S (lendAll 4 S) (acG sz (xs.map ρ)) = some (acO (xs.map ρ)) := by
  have h1 := h.belows 0 xs
  have h2 := h.seals 0 xs
  cases hx : xs.map ρ with
  | nil => rfl
  | cons r rs =>
    rw [hx] at h1 h2
    show lendV _ _ (.lst _ _) = _
    unfold lendV
    rw [lendR_old _ _ _ h1, h2]
    rfl

theorem RowT.append_tok (hT : RowT P t te sz) (hA : RowA ρ sz) {o : List AObj} {a b : Nat} {zs : List α} {x : α} (hb : zs.length ≤ 2000) :
    aappend P false (AS.mk o [zs.length] a b) t (.lst (.tok 0 zs.length sz) (zs.map ρ)) (.lst .exact [ρ x]) = some (.lst (.tok 0 (zs.length + 1) sz) ((zs ++ [x]).map ρ), AS.mk o [zs.length + 1] a 0) := by
  obtain ⟨z, hz0, hzl, _⟩ := hT.z
  obtain ⟨i, hi, hib⟩ := hT.info
  have hbb : (zs.length + 1) * i.bytes ≤ 140737488355328 := Nat.le_trans (Nat.mul_le_mul (show zs.length + 1 ≤ 100000 by omega) hib) (by decide)
  have hm : zs.length + 1 ≤ maxLen := Nat.le_trans (show zs.length + 1 ≤ 100000 by omega) (by decide)
  have hrr : rowsOf (AS.mk o [zs.length] a b) sz (.lst .exact [ρ x]) = some [ρ x] := rowsOf_lst hA _ .exact [x]
  unfold aappend
  rw [hT.row]
  simp only [Option.bind_some, hz0, hi, hrr, hzl, ne_eq, not_true, if_false, List.length_cons, List.length_nil, Nat.zero_add, Nat.one_ne_zero, List.length_map]
  rw [if_pos ⟨hA.all_len zs, hbb, hm⟩, if_pos ⟨rfl, trivial⟩]
  simp [AS.tokS]

def keptG (keep : Nat → α → Bool) : List α → Nat → List α
  | [], _ => []
  | x :: xs, j => bif keep j x then x :: keptG keep xs (j + 1) else keptG keep xs (j + 1)

/-- A loop that gathers what it makes of each element. -/
theorem gather {β : Type} {f : AAct → AS → Option (Exit × AAct × AS)} {N : Nat} {mk : List Nat} {xs : List α} (mkB : Nat → α → β) {σ : β → List AV} (live : Nat → AV → List (Nat × AV)) (liveE : AV → List (Nat × AV)) (e : Exit) (he : e ≠ .normal) (o : List AObj) (hb : xs.length ≤ 2000)
    (hA : ∀ j x, xs[j]? = some x → ∀ a, In N mk (live j (.v (.slice none 0 0))) a → Seen (f a (AS.mk o [] 0 0)) .normal N mk (live (j + 1) (.lst (.tok 0 1 sz) [σ (mkB j x)])) (AS.mk o [1] 0 0))
    (hB : ∀ j x (zs : List β), xs[j]? = some x → zs.length ≤ 2000 → ∀ a, In N mk (live j (.lst (.tok 0 zs.length sz) (zs.map σ))) a → Seen (f a (AS.mk o [zs.length] 0 0)) .normal N mk (live (j + 1) (.lst (.tok 0 (zs.length + 1) sz) ((zs ++ [mkB j x]).map σ))) (AS.mk o [zs.length + 1] 0 0))
    (hE : (∀ a, In N mk (live xs.length (.v (.slice none 0 0))) a → Seen (f a (AS.mk o [] 0 0)) e N mk (liveE (.v (.slice none 0 0))) (AS.mk o [] 0 0)) ∧
      ∀ zs : List β, ∀ a, In N mk (live xs.length (.lst (.tok 0 zs.length sz) (zs.map σ))) a → Seen (f a (AS.mk o [zs.length] 0 0)) e N mk (liveE (.lst (.tok 0 zs.length sz) (zs.map σ))) (AS.mk o [zs.length] 0 0)) :
    ∀ (d j : Nat) (zs : List β) (k : Nat), xs.length - j = d → j ≤ xs.length → d < k → zs.length ≤ j → ∀ a, In N mk (live j (acG sz (zs.map σ))) a →
      Seen (aloop f k a (AS.mk o (acN (zs.map σ)) 0 0)) e N mk (liveE (acG sz ((zs ++ (xs.drop j).mapIdx fun i x => mkB (j + i) x).map σ))) (AS.mk o (acN ((zs ++ (xs.drop j).mapIdx fun i x => mkB (j + i) x).map σ)) 0 0) := by
  intro d
  induction d with
  | zero =>
    intro j zs k hd hj hk hz a ha
    obtain ⟨k, rfl⟩ : ∃ m, k = m + 1 := ⟨k - 1, by omega⟩
    have e' : j = xs.length := by omega
    subst e'
    rw [List.drop_length]
    simp only [List.mapIdx_nil, List.append_nil]
    refine seen_stop he ?_
    cases zs with
    | nil => exact hE.1 a ha
    | cons z zs =>
      have h1 : (z :: zs).map σ ≠ [] := by simp
      rw [acG_ne h1, List.length_map] at ha ⊢
      rw [acN_ne h1, List.length_map]
      exact hE.2 (z :: zs) a ha
  | succ d ih =>
    intro j zs k hd hj hk hz a ha
    obtain ⟨k, rfl⟩ : ∃ m, k = m + 1 := ⟨k - 1, by omega⟩
    have hlt : j < xs.length := by omega
    have hx : xs[j]? = some xs[j] := List.getElem?_eq_getElem hlt
    have hih := ih (j + 1) (zs ++ [mkB j xs[j]]) k (by omega) (by omega) (by omega) (by simp; omega)
    have hl : zs ++ (xs.drop j).mapIdx (fun i x => mkB (j + i) x) = (zs ++ [mkB j xs[j]]) ++ (xs.drop (j + 1)).mapIdx fun i x => mkB (j + 1 + i) x := by
      rw [List.drop_eq_getElem_cons hlt, List.mapIdx_cons]
      simp only [Nat.add_zero, List.append_assoc, List.singleton_append]
      congr 2
      refine List.ext_getElem? fun i => ?_
      simp only [List.getElem?_mapIdx]
      congr 1
      funext x
      rw [show j + (i + 1) = j + 1 + i by omega]
    rw [hl]
    have h2 : (zs ++ [mkB j xs[j]]).map σ ≠ [] := by simp
    rw [acG_ne h2, acN_ne h2] at hih
    cases zs with
    | nil => exact seen_next (hA j _ hx a ha) fun a' ha' => hih a' ha'
    | cons z zs =>
      have h1 : (z :: zs).map σ ≠ [] := by simp
      rw [acG_ne h1, List.length_map] at ha
      rw [acN_ne h1, List.length_map]
      simp only [List.length_map, List.length_append, List.length_cons, List.length_nil] at hih
      exact seen_next (hB j _ (z :: zs) hx (by simp at hz ⊢; omega) a ha) fun a' ha' => hih a' ha'

/-! parts -/
theorem RowT.slice_from (hT : RowT P t te sz) (hA : RowA ρ sz) (xs : List α) {s : Nat} (h : s ≤ xs.length) : aslice P t (lG ρ xs) (some (.v (.int .i64 (Int.ofNat s)))) none none = some (lG ρ (xs.drop s)) := by
  unfold aslice
  dsimp only
  rw [hT.sl]
  simp only [aintOf, Option.bind_some, hT.szt, Option.isSome_some, and_true, List.length_map]
  rw [if_pos]
  · simp only [capOf, Int.ofNat_eq_natCast, Int.toNat_natCast, Option.map_none]
    rw [List.take_of_length_le (by simp), ← List.map_drop]
  · refine ⟨by simp, by simpa using h, by simp, ?_⟩
    cases xs with
    | nil => left; simp at h; subst h; rfl
    | cons x xs => right; simp [hA.len]
theorem RowT.slice_to (hT : RowT P t te sz) (hA : RowA ρ sz) (xs : List α) {s : Nat} (h : s ≤ xs.length) : aslice P t (lG ρ xs) none (some (.v (.int .i64 (Int.ofNat s)))) none = some (lG ρ (xs.take s)) := by
  unfold aslice
  dsimp only
  rw [hT.sl]
  simp only [aintOf, Option.bind_some, hT.szt, Option.isSome_some, and_true, List.length_map]
  rw [if_pos]
  · simp only [capOf, Int.ofNat_eq_natCast, Int.toNat_natCast, ← List.map_take]
    rfl
  · refine ⟨by simp, by simp, by simpa using h, ?_⟩
    left; rfl
theorem RowT.idx (hT : RowT P t te sz) (hA : RowA ρ sz) {c : Cap} {xs : List α} {j : Nat} {x : α} (hx : xs[j]? = some x) : aindexAddr P t (.lst c (xs.map ρ)) (.v (.int .i64 (Int.ofNat j))) = some (.eptr (ρ x) 0) :=
  Go.AM.idx hT.sl (Int.natCast_nonneg j) (by simp only [Int.ofNat_eq_natCast, Int.toNat_natCast, List.getElem?_map, hx, Option.map_some]) (by rw [hA.len, hT.szt])

/-! joined lists -/
def flatG (ρ : α → List AV) (xs : List α) : List AV := (xs.map ρ).flatten
theorem RowA.flat_len (h : RowA ρ sz) (xs : List α) : (flatG ρ xs).length = xs.length * sz := by
  unfold flatG
  rw [Go.AM.flat_len _ sz (h.lens xs), List.length_map]
theorem flatG_append (xs ys : List α) : flatG ρ (xs ++ ys) = flatG ρ xs ++ flatG ρ ys := by simp [flatG]
theorem RowA.flat_one (h : RowA ρ sz) (xs : List α) : (flatG ρ xs).all AV.one = true := by
  rw [List.all_eq_true]
  intro a ha
  unfold flatG at ha
  obtain ⟨r, hr, har⟩ := List.mem_flatten.1 ha
  obtain ⟨x, _, rfl⟩ := List.mem_map.1 hr
  exact List.all_eq_true.1 (h.one x) a har
theorem RowA.chunks (h : RowA ρ sz) : ∀ xs : List α, Go.AM.chunks sz xs.length (flatG ρ xs) = xs.map ρ
  | [] => rfl
  | x :: xs => by
    have : flatG ρ (x :: xs) = ρ x ++ flatG ρ xs := rfl
    rw [this]
    simp only [List.length_cons, Go.AM.chunks, List.map_cons]
    rw [List.take_left' (h.len x), List.drop_left' (h.len x), RowA.chunks h xs]
theorem RowA.lend_slc (h : RowA ρ sz) {S : AS} {d o k : Nat} {xs : List α} {T : TypeId} (hS : S.cellsAt o = some (flatG ρ xs, T)) : lendV S (lendAll d S) (.slc o sz 0 xs.length k) = some (.lst .unk (xs.map ρ)) := by
  have hr : rowsOf S sz (.slc o sz 0 xs.length k) = some (xs.map ρ) := by
    unfold rowsOf
    dsimp only
    rw [if_pos rfl, hS, Option.bind_some, List.drop_zero, List.take_of_length_le (by rw [h.flat_len]; exact Nat.le_refl _), if_pos ⟨h.flat_len xs, h.flat_one xs⟩, h.chunks]
  have hd : ∀ ys : List α, drRows (lendAll d S) (ys.map ρ) = some (ys.map ρ) := fun ys => by
    have h1 : ∀ a, lendAll d S (ρ a) = some (ρ a) := fun a => by
      cases d <;> · unfold lendAll; rw [lendL_old _ _ _ (h.below 0 a), h.shut]
    induction ys with
    | nil => rfl
    | cons y ys ih => simp only [List.map_cons, drRows, h1, ih]
  unfold lendV
  rw [hr]
  dsimp only
  rw [hd]
/-- Appending where there is room. -/
theorem RowT.append_room (hT : RowT P t te sz) (hA : RowA ρ sz) {S : AS} {mu : Bool} {o l k : Nat} {xs : List α} {c : Cap} {cs : List AV} {T : TypeId} (hS : S.cellsAt o = some (cs, T)) (h0 : xs ≠ []) (h1 : l + xs.length ≤ k) (h2 : k * sz ≤ cs.length) :
    aappend P mu S t (.slc o sz 0 l k) (.lst c (xs.map ρ)) = some (.slc o sz 0 (l + xs.length) k, S.set o (.cells (splice cs (l * sz) (flatG ρ xs)) T)) := by
  obtain ⟨z, hz0, hzl, _⟩ := hT.z
  obtain ⟨i, hi, hib⟩ := hT.info
  have hl : xs.length ≠ 0 := by simpa using h0
  unfold aappend
  rw [hT.row]
  simp only [Option.bind_some, hz0, hi, rowsOf_lst hA, hzl, ne_eq, not_true, if_false, List.length_map, hl, if_true, hS, Nat.zero_add]
  rw [if_pos ⟨h1, h2⟩]
  rfl
theorem RowT.append_none (hT : RowT P t te sz) {S : AS} {c : Cap} {mu : Bool} {o l k : Nat} : aappend P mu S t (.slc o sz 0 l k) (.lst c []) = some (.slc o sz 0 l k, S) := by
  obtain ⟨z, hz0, hzl, _⟩ := hT.z
  obtain ⟨i, hi, hib⟩ := hT.info
  unfold aappend
  rw [hT.row]
  simp only [Option.bind_some, hz0, hi, rowsOf, hzl, ne_eq, not_true, if_false, List.all_nil, if_true, List.length_nil]
theorem RowT.zeros (hT : RowT P t te sz) {S : AS} {tn : TypeId} {q : IntKind} {n : Nat} (htn : P.underlying tn = some (.int q)) (h0 : 0 < n) (hb : n ≤ 100000) : ∃ zs : List AV, zs.length = n * sz ∧ aappendN P true S t tn (.v (.slice none 0 0)) (.v (.int .i64 (Int.ofNat n))) = some (.slc S.objs.length sz 0 n n, S.push (.cells zs te)) := by
  obtain ⟨z, hz0, hzl, _⟩ := hT.z
  obtain ⟨i, hi, hib⟩ := hT.info
  have hbb : n * i.bytes ≤ 140737488355328 := Nat.le_trans (Nat.mul_le_mul hb hib) (by decide)
  have hm : n ≤ maxLen := Nat.le_trans hb (by decide)
  refine ⟨zerosA z n, by simp [zerosA, hzl], ?_⟩
  unfold aappendN
  simp only [htn, hT.row, Option.bind_some, hz0, hi]
  rw [if_pos ⟨hzl, trivial, h0, hbb, hm⟩]
end Go.AM

/- Chapter 12: tables for sorting. -/
namespace Go.Proofs.YtamemdhmjglifaaGreatDoor
open Go.RowKit Go.AM
set_option maxRecDepth 100000
/-- Digits, whose kids are a list of nothing. -/
def dW (d : Nat) : Fm := .mk 2 ⟨⟨[(48 + d).toUInt8]⟩⟩ ⟨⟨[]⟩⟩ []
def dwOf : AV → Option Nat
  | .agg [.v (.int .i64 2), .v (.string ⟨⟨[b]⟩⟩), .v (.string ⟨⟨[]⟩⟩), .lst .any []] => cond (Nat.ble 48 b.toNat && Nat.blt b.toNat 52) (some (b.toNat - 48)) none
  | _ => none
noncomputable def g118W (args : List AV) (S : AS) : Option (AV × AS) :=
  match args with
  | [a, b] => match dwOf a, dwOf b with
    | some i, some j => some (.tup [.v (.int .i64 (cmpN i j)), .v (.int .i64 0)], S)
    | _, _ => (lower cfg0 60).call 118 args S
  | _ => none
def liveS : List (Nat × Nat × List Nat) := [(20, 3, [3, 7, 8, 9]), (111, 3, [1, 6, 11, 12, 13]), (73, 13, [2, 8, 9, 52, 53, 54]), (74, 3, [3, 6, 7, 8]), (4, 13, [5, 12, 94, 95, 96])]
def bR4 (b : Int) : List AV := [.v (.int .u8 b)]
/-- An element with its key. -/
structure Kd where
  x : Fm
  k : Fm
def Kd.row (z : Kd) : List AV := [.v (.int .i64 z.x.kind), .v (.string z.x.text), .v (.string z.x.home), .lst .any z.x.rows, .v (.int .i64 z.k.kind), .v (.string z.k.text), .v (.string z.k.home), .lst .any z.k.rows]
@[simp] theorem below_kd (n : Nat) (z : Kd) : belowAll n z.row = true := by simp [Kd.row, belowAll, AV.old, Fm.belowRows_rows]
@[simp] theorem below_kds (n : Nat) : ∀ zs : List Kd, belowRows n (zs.map Kd.row) = true
  | [] => rfl
  | z :: zs => by simp only [List.map_cons, belowRows, below_kds n zs, below_kd]; rfl
noncomputable def cM : Cfg := { cfg with D := lookD liveS, X := xT [(118, g118W), (91, weakCall cfg 91), (84, weakCall cfg 84), (63, weakCall cfg 63), (112, weakCall cfg 112), (24, weakCall cfg 24)] }
noncomputable def cN : Cfg := { cM with X := xT [(118, g118W), (91, weakCall cfg 91), (84, weakCall cfg 84), (112, weakCall cfg 112), (80, weakCall cM 80), (111, weakCall cM 111)] }
noncomputable def cO : Cfg := { cM with X := xT [(75, weakCall cN 75), (73, weakCall cN 73), (74, weakCall cM 74), (80, weakCall cM 80)] }
noncomputable def cP : Cfg := { cM with X := xT [(13, weakCall cfg 13), (21, weakCall cfg 21), (20, weakCall cM 20), (15, weakCall cO 15), (17, weakCall cO 17), (19, weakCall cfg 19), (22, weakCall cA 22)] }
end Go.Proofs.YtamemdhmjglifaaGreatDoor
