/- Chapter 17: the program, and what is known of it. -/
import Derived.Test.YtlfobfhklmndkaaGreatDoorB6
import Derived.Test.YtlfobfhklmndkaaGreatDoorProg
namespace Go.Proofs.YtlfobfhklmndkaaGreatDoor
open Go.RowKit Go.AM
set_option maxRecDepth 100000

theorem names : NamesOK Go.Proofs.Tryz.prog := by
  intro f fn hf hb
  have h : (Go.Proofs.Tryz.prog.funcs.toList.all fun fn => !(fn.name == "runtime.NumGoroutine")) = true := by kernel_rfl
  have := List.all_eq_true.1 h fn (by rw [Array.getElem?_eq_some_iff] at hf; obtain ⟨_, rfl⟩ := hf; simp)
  simpa using this
theorem mixed : Go.Proofs.Tryz.prog.follows .mixedOrders = true := by kernel_rfl

/-- Functions that make slices which are written to. -/
def hintT : List Nat := [42, 137, 165, 129, 174, 198, 166, 199, 101, 89, 75]
/-- Functions of numbers that are not called in the empty store. -/
def wildT : List Nat := [84, 87, 88, 101, 122, 141]
/-- Functions of words alone, and awake. -/
def frameT : List Nat := [9, 10, 28, 60, 62, 69, 72, 82, 8, 27, 46, 47, 70]
def exT : List (Nat × (List Value → Option Value)) → Nat → Option (List Value → Option Value)
  | [], _ => none
  | (f, e) :: t, g => match Nat.beq f g with | true => some e | false => exT t g
/-- Without contracts. -/
noncomputable def cfg0 : Cfg := { P := Go.Proofs.Tryz.prog, H := fun f _ => memN hintT f, X := fun _ => none, F := fun f => memN frameT f || (Nat.ble 78 f && !memN wildT f), E := exT [(213, exIndexByte)] }
/-- A number's form. -/
def nF (k : Int) (l : List UInt8) : AV := .agg [.v (.int .i64 k), .v (.string ⟨⟨l⟩⟩), .v (.string ⟨⟨[]⟩⟩), .v (.slice none 0 0)]
def t2 : List UInt8 := [52, 48, 48, 48, 48, 48, 48, 48]
/-- The single float 2, and the integer 2. -/
def fS : AV := nF 4 t2
def fI : AV := nF 2 [50]
def isN (k : Int) (l : List UInt8) : AV → Bool
  | .agg [.v (.int .i64 i), .v (.string t), .v (.string h), .v (.slice none 0 0)] => i == k && (t.toList == l && h.toList == [])
  | _ => false
noncomputable def g78 (args : List AV) (S : AS) : Option (AV × AS) :=
  match args with
  | [a] => match isN 4 t2 a || isN 2 [50] a with
    | true => some (.v (.int .i64 0), S)
    | false => (lower cfg0 60).call 78 args S
  | _ => none
noncomputable def g99 (args : List AV) (S : AS) : Option (AV × AS) :=
  match args with
  | [a, b] => match isN 4 t2 a && isN 2 [50] b with
    | true => some (.tup [.v (.bool true), .v (.int .i64 0)], S)
    | false => (lower cfg0 60).call 99 args S
  | _ => none
noncomputable def g100 (args : List AV) (S : AS) : Option (AV × AS) :=
  match args with
  | [a, b] => match isN 4 t2 a && isN 2 [50] b with
    | true => some (.tup [.v (.bool false), .v (.int .i64 0)], S)
    | false => (lower cfg0 60).call 100 args S
  | _ => none
noncomputable def cfg : Cfg := { cfg0 with X := xT [(78, g78), (99, g99), (100, g100)] }
end Go.Proofs.YtlfobfhklmndkaaGreatDoor
