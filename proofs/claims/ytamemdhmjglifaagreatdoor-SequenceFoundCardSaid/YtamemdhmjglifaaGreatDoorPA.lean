/- Chapter 12: the program, and what is known of it. -/
import Derived.Test.YtamemdhmjglifaaGreatDoorP8
import Derived.Test.YtamemdhmjglifaaGreatDoorProg
namespace Go.Proofs.YtamemdhmjglifaaGreatDoor
open Go.RowKit Go.AM
set_option maxRecDepth 100000

theorem names : NamesOK Go.Proofs.Tryz.prog := by
  intro f fn hf hb
  have h : (Go.Proofs.Tryz.prog.funcs.toList.all fun fn => !(fn.name == "runtime.NumGoroutine")) = true := by kernel_rfl
  have := List.all_eq_true.1 h fn (by rw [Array.getElem?_eq_some_iff] at hf; obtain ⟨_, rfl⟩ := hf; simp)
  simpa using this
theorem mixed : Go.Proofs.Tryz.prog.follows .mixedOrders = true := by kernel_rfl

/-- Functions that make slices which are written to. -/
def hintF : List Nat := [82, 127, 130, 249, 230, 168, 282, 288, 289, 14, 34, 36, 102]
/-- Functions that are not called in the empty store: they change what they are given, or give parts of it back. -/
def wildF : List Nat := [129, 82, 127, 130, 229, 197, 14, 94, 54, 65]
def exT : List (Nat × (List Value → Option Value)) → Nat → Option (List Value → Option Value)
  | [], _ => none
  | (f, e) :: t, g => match Nat.beq f g with | true => some e | false => exT t g
/-- The slots that live at the head of a loop, by the function and the loop's first region. -/
def liveF : List (Nat × Nat × List Nat) := [(24, 4, [2, 3, 5]), (83, 2, [0, 1, 7, 8]), (70, 3, [1, 2, 5, 9, 10, 11]), (81, 4, [1, 2, 15, 16, 17]), (107, 3, [3, 10, 18, 19, 20]), (52, 6, [8, 10, 23, 24, 25]), (57, 6, [6, 8, 22, 23, 24]), (65, 5, [0, 1, 5, 6]), (11, 32, [9, 25, 184, 185, 186]), (11, 38, [9, 25, 197, 198, 199])]
def lookD : List (Nat × Nat × List Nat) → Nat → Nat → Option (List Nat)
  | [], _, _ => none
  | (f, r, l) :: t, g, s => match Nat.beq f g && Nat.beq r s with | true => some l | false => lookD t g s
/-- Without contracts. -/
noncomputable def cfg0 : Cfg := { P := Go.Proofs.Tryz.prog, H := fun f _ => memN hintF f, X := fun _ => none, F := fun f => !memN wildF f, D := lookD liveF, E := exT [(285, exIndexByte), (171, exCompare)] }
/-- The form of a digit. -/
def dig (d : Nat) : AV := .agg [.v (.int .i64 2), .v (.string ⟨⟨[(48 + d).toUInt8]⟩⟩), .v (.string ⟨⟨[]⟩⟩), .v (.slice none 0 0)]
def digOf : AV → Option Nat
  | .agg [.v (.int .i64 2), .v (.string ⟨⟨[b]⟩⟩), .v (.string ⟨⟨[]⟩⟩), .v (.slice none 0 0)] => cond (Nat.ble 48 b.toNat && Nat.blt b.toNat 52) (some (b.toNat - 48)) none
  | _ => none
def cmpN (i j : Nat) : Int := cond (Nat.blt i j) (-1) (cond (Nat.blt j i) 1 0)
/-- slices.Clone of a list of nothing, be it nil or not, is such a list. -/
noncomputable def g14 (args : List AV) (S : AS) : Option (AV × AS) :=
  match args with
  | [.lst .any []] => some (.lst .any [], S)
  | _ => (lower cfg0 61).call 14 args S
/-- Digits are compared by a table. -/
noncomputable def g118 (args : List AV) (S : AS) : Option (AV × AS) :=
  match args with
  | [a, b] => match digOf a, digOf b with
    | some i, some j => some (.tup [.v (.int .i64 (cmpN i j)), .v (.int .i64 0)], S)
    | _, _ => (lower cfg0 60).call 118 args S
  | _ => none
noncomputable def cfg : Cfg := { cfg0 with X := xT [(14, g14), (118, g118)] }

/-- Are two forms the same? -/
noncomputable def same (x y : Fm) : Bool := by classical exact decide (x = y)
end Go.Proofs.YtamemdhmjglifaaGreatDoor
