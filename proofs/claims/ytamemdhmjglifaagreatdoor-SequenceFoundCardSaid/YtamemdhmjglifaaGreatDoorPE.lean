/- Chapter 12: a table with what is told of keys. -/
import Derived.Test.YtamemdhmjglifaaGreatDoorPA
namespace Go.Proofs.YtamemdhmjglifaaGreatDoor
open Go.RowKit Go.AM
set_option maxRecDepth 100000
/-- What is proved of calls in cfg holds here, told in the weakest form. -/
noncomputable def cA : Cfg := { cfg with X := xT [(14, g14), (118, g118), (107, weakCall cfg 107), (91, weakCall cfg 91), (92, weakCall cfg 92), (106, weakCall cfg 106), (115, weakCall cfg 115), (24, weakCall cfg 24), (84, weakCall cfg 84)] }
@[simp] theorem below_bools (n : Nat) : ∀ bs : List Bool, belowRows n (bs.map fun b => [AV.v (Value.bool b)]) = true
  | [] => rfl
  | b :: bs => by simp only [List.map_cons, belowRows, below_bools n bs]; rfl
@[simp] theorem below_flat4 (n : Nat) : ∀ xs : List Fm, belowAll n (flat4 xs) = true
  | [] => rfl
  | x :: xs => by
    have h : ∀ l m : List AV, belowAll n (l ++ m) = (belowAll n l && belowAll n m) := fun l m => by
      induction l with
      | nil => rfl
      | cons a l ih => simp only [List.cons_append, belowAll, ih, Bool.and_assoc]
    rw [flat4_cons, h, below_flat4 n xs]
    simp [Fm.row, belowAll, AV.old, Fm.belowRows_rows]
@[simp] theorem below_tail (n : Nat) (xs : List Fm) (m : Nat) : belowAll n (flat4 xs ++ List.replicate m AV.junk) = true := by
  have h : ∀ l m : List AV, belowAll n (l ++ m) = (belowAll n l && belowAll n m) := fun l m => by
    induction l with
    | nil => rfl
    | cons a l ih => simp only [List.cons_append, belowAll, ih, Bool.and_assoc]
  have h2 : ∀ m, belowAll n (List.replicate m AV.junk) = true := fun m => by
    induction m with
    | zero => rfl
    | succ m ih => simp only [List.replicate_succ, belowAll, ih]; rfl
  rw [h, below_flat4, h2]; rfl
/-- A byte. -/
def bR (b : Int) : List AV := [.v (.int .u8 b)]
/-- The mark of the law. -/
def mkF : Fm := .mk 7 (ByteArray.mk #[120]) (ByteArray.mk #[]) []
/-- Options, and what they say of a list. -/
abbrev op7 (c : Int) (fe : Bool) : AV := .agg [.v (.int .i64 0), .v (.int .i64 (-1)), .v (.int .i64 c), .v (.bool fe), .v (.bool false), .v (.int .i64 0), .v (.int .i64 0)]
abbrev opL (c : Int) (fe : Bool) : List AV := [.v (.int .i64 0), .v (.int .i64 (-1)), .v (.int .i64 c), .v (.bool fe), .v (.bool false), .v (.int .i64 0), .v (.int .i64 0)]
abbrev lkL (xs : List Fm) (m c : Int) (fe : Bool) : List AV := [.v (.int .i64 0), .v (.int .i64 m), .v (.int .i64 c), .v (.bool fe), .v (.bool false), .v (.int .i64 0), .v (.int .i64 0), .lst .any (xs.map Fm.row)]
/-- The iterator of what is taken. -/
abbrev itV (xs : List Fm) (m c : Int) (fe : Bool) (x : Fm) : AV := .fn (.func 129) [] [.eptr (lkL xs m c fe) 0, .eptr x.row 0]
/-- The mark of the law, as it is built. -/
abbrev markR : List AV := [.v (.int .i64 7), .v (.string (ByteArray.mk #[120])), .v (.string (ByteArray.mk #[])), .v (.slice none 0 0)]
/-- The law's own table. -/
noncomputable def cL : Cfg := { cA with X := xT [(13, weakCall cfg 13), (63, weakCall cfg 63), (48, weakCall cA 48), (49, weakCall cA 49), (52, weakCall cA 52), (46, weakCall cA 46), (57, weakCall cA 57), (54, weakCall cA 54), (65, weakCall cA 65), (22, weakCall cA 22), (24, weakCall cfg 24), (19, weakCall cfg 19), (37, weakCall cfg 37)] }
end Go.Proofs.YtamemdhmjglifaaGreatDoor
