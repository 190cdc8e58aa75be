/-
  No cell of these rows narrows 'for every input' (looked for: loops, veiled, ifaces, maps, wideKeys, modest, calm, conditions, laid).
  DERIVED. THE GIVEN ROWS OF THIS SEAT. 4 by the template 'for every input the law returns true; each argument reads behind the call as it read before'; 0 by the template 'total and deterministic' (their statements: YtlaiakplkomofaaTotals.lean).
  GIVEN WITH THE SEED: the statements are not yours to turn. If you find one false, say at which input.
  Laid BY PROGRAM, IN A SANDBOX (cutbox-rows.mjs): the forced cells as the released guide's own fill.sh prints them over the translation 4bac9f4f17ca1cc9… (all of the seat's roots in one cut). By AI agents, Wed Nov 11 2026. No macro, syntax, notation, axiom, sorry.
-/
import Derived.Test.YtlaiakplkomofaaChecked
import GoSem.Claim
import GoSem.ClaimJoined
import GoSem.ClaimMapViews
import Derived.JoinedTies
import Derived.KernelRfl
namespace Go.Proofs.Ytlaiakplkomofaa
/- THE CELL 'sum', in the pinned program and in every row, IS THE sha256 OF THE DUMP (.gsa) THAT YtlaiakplkomofaaProg.lean LOADS. Nothing in Lean hashes anything: it is a label: what it is worth is what the hold of that sum in a sandbox is worth. -/
noncomputable def Try.pinned : Pinned := { name := "ytlaiakplkomofaa", sum := "4bac9f4f17ca1cc9165413c425f6d422841d9d7fe786762bbf1b85bc16a0d7ff", checked := Try.checked }
namespace Rows
def none {H : Type} : Left H := { results := [], args := [] }

/-- 'commonformlaw15.HeapWords': WHATEVER THE INPUT: true; the input reads as it did. -/
def heapWordsSpec : ChangeSpec := { name := "heapWords", fn := fun _ => fun
  | [d1, d2, d3] => { results := [.lit (.bool true)], args := [d1, d2, d3] }
  | _ => none }
def heapWordsRow : OpenClaim := { program := "ytlaiakplkomofaa", sum := "4bac9f4f17ca1cc9165413c425f6d422841d9d7fe786762bbf1b85bc16a0d7ff", func := "commonform/commonformlaw15.HeapWords", spec := "heapWords", plainKeys := false, apart := false }
def HeapWordsSaid : Prop := heapWordsRow.holds Try.pinned (OpenSpec.ofChange heapWordsSpec)

/-- ITS FALSE NEIGHBOUR: 'it returns false'. Refute it at one input. -/
def heapWordsWrong : ChangeSpec := { name := "heapWords", fn := fun _ => fun
  | [d1, d2, d3] => { results := [.lit (.bool false)], args := [d1, d2, d3] }
  | _ => none }
def HeapWordsWrongFalsely : Prop := heapWordsRow.holds Try.pinned (OpenSpec.ofChange heapWordsWrong)

/-- 'commonformlaw15.HeapHolds': WHATEVER THE INPUT: true; the input reads as it did. -/
def heapHoldsSpec : ChangeSpec := { name := "heapHolds", fn := fun _ => fun
  | [d1, d2, d3, d4, d5] => { results := [.lit (.bool true)], args := [d1, d2, d3, d4, d5] }
  | _ => none }
def heapHoldsRow : OpenClaim := { program := "ytlaiakplkomofaa", sum := "4bac9f4f17ca1cc9165413c425f6d422841d9d7fe786762bbf1b85bc16a0d7ff", func := "commonform/commonformlaw15.HeapHolds", spec := "heapHolds", unfollowed := true, recurses := true, plainKeys := false, apart := false }
def HeapHoldsSaid : Prop := heapHoldsRow.holds Try.pinned (OpenSpec.ofChange heapHoldsSpec)

/-- ITS FALSE NEIGHBOUR: 'it returns false'. Refute it at one input. -/
def heapHoldsWrong : ChangeSpec := { name := "heapHolds", fn := fun _ => fun
  | [d1, d2, d3, d4, d5] => { results := [.lit (.bool false)], args := [d1, d2, d3, d4, d5] }
  | _ => none }
def HeapHoldsWrongFalsely : Prop := heapHoldsRow.holds Try.pinned (OpenSpec.ofChange heapHoldsWrong)

/-- 'commonformlaw15.HeapThere': WHATEVER THE INPUT: true; the input reads as it did. -/
def heapThereSpec : ChangeSpec := { name := "heapThere", fn := fun _ => fun
  | [d1, d2] => { results := [.lit (.bool true)], args := [d1, d2] }
  | _ => none }
def heapThereRow : OpenClaim := { program := "ytlaiakplkomofaa", sum := "4bac9f4f17ca1cc9165413c425f6d422841d9d7fe786762bbf1b85bc16a0d7ff", func := "commonform/commonformlaw15.HeapThere", spec := "heapThere", unfollowed := true, recurses := true, plainKeys := false, apart := false }
def HeapThereSaid : Prop := heapThereRow.holds Try.pinned (OpenSpec.ofChange heapThereSpec)

/-- ITS FALSE NEIGHBOUR: 'it returns false'. Refute it at one input. -/
def heapThereWrong : ChangeSpec := { name := "heapThere", fn := fun _ => fun
  | [d1, d2] => { results := [.lit (.bool false)], args := [d1, d2] }
  | _ => none }
def HeapThereWrongFalsely : Prop := heapThereRow.holds Try.pinned (OpenSpec.ofChange heapThereWrong)

/-- 'commonformlaw15.HeapMoves': WHATEVER THE INPUT: true; the input reads as it did. -/
def heapMovesSpec : ChangeSpec := { name := "heapMoves", fn := fun _ => fun
  | [d1, d2, d3] => { results := [.lit (.bool true)], args := [d1, d2, d3] }
  | _ => none }
def heapMovesRow : OpenClaim := { program := "ytlaiakplkomofaa", sum := "4bac9f4f17ca1cc9165413c425f6d422841d9d7fe786762bbf1b85bc16a0d7ff", func := "commonform/commonformlaw15.HeapMoves", spec := "heapMoves", unfollowed := true, recurses := true, plainKeys := false, apart := false }
def HeapMovesSaid : Prop := heapMovesRow.holds Try.pinned (OpenSpec.ofChange heapMovesSpec)

/-- ITS FALSE NEIGHBOUR: 'it returns false'. Refute it at one input. -/
def heapMovesWrong : ChangeSpec := { name := "heapMoves", fn := fun _ => fun
  | [d1, d2, d3] => { results := [.lit (.bool false)], args := [d1, d2, d3] }
  | _ => none }
def HeapMovesWrongFalsely : Prop := heapMovesRow.holds Try.pinned (OpenSpec.ofChange heapMovesWrong)

/- THE SECOND FORM. 'bulk': how many values and letters a reading holds, each counted each time it is reached (what is shared counts as often as it is met; a slice's spare places count too). A statement '..UptoSaid' is the law's where the arguments, and the package variables that the reading takes, are together of bulk at most 1048576: NARROWER than '..Said'. Prove '..Said' where nothing that the law and all that it calls make is longer than what came in: it says more and counts as full. Else prove '..UptoSaid'. A law counts once. -/
mutual
def uptoBulk {H : Type} : DataW H → Nat
  | .lit (.string bytes) => bytes.length + 1
  | .lit _ => 1
  | .nil => 1
  | .ptr d => uptoBulk d + 1
  | .slice elems spare => uptoBulkAll elems + uptoBulkAll spare + 1
  | .agg parts => uptoBulkAll parts + 1
  | .iface _ d => uptoBulk d + 1
  | .map entries => uptoBulkEntries entries + 1
  | .held _ => 1
def uptoBulkAll {H : Type} : List (DataW H) → Nat
  | [] => 0
  | d :: r => uptoBulk d + uptoBulkAll r
def uptoBulkEntries {H : Type} : List (Lit × DataW H) → Nat
  | [] => 0
  | x :: r => uptoBulkEntry x + uptoBulkEntries r
def uptoBulkEntry {H : Type} : Lit × DataW H → Nat
  | (.string bytes, d) => bytes.length + uptoBulk d + 1
  | (_, d) => uptoBulk d + 1
 end
def uptoSmall : (H : Type) → List (DataW H) → Bool := fun _ ds => decide (uptoBulkAll ds ≤ 1048576)
def OpenSpec.upto (s : _root_.Go.ChangeSpec) : _root_.Go.OpenSpec := { _root_.Go.OpenSpec.ofChange s with cond := some uptoSmall }

/-- 'commonformlaw15.HeapWords', WHERE WHAT IT READS IS OF BULK AT MOST 1048576: true; the input reads as it did. -/
def heapWordsUptoRow : OpenClaim := { program := "ytlaiakplkomofaa", sum := "4bac9f4f17ca1cc9165413c425f6d422841d9d7fe786762bbf1b85bc16a0d7ff", func := "commonform/commonformlaw15.HeapWords", spec := "heapWords", plainKeys := false, apart := false, narrowed := true }
def HeapWordsUptoSaid : Prop := heapWordsUptoRow.holds Try.pinned (OpenSpec.upto heapWordsSpec)

/-- 'commonformlaw15.HeapHolds', WHERE WHAT IT READS IS OF BULK AT MOST 1048576: true; the input reads as it did. -/
def heapHoldsUptoRow : OpenClaim := { program := "ytlaiakplkomofaa", sum := "4bac9f4f17ca1cc9165413c425f6d422841d9d7fe786762bbf1b85bc16a0d7ff", func := "commonform/commonformlaw15.HeapHolds", spec := "heapHolds", unfollowed := true, recurses := true, plainKeys := false, apart := false, narrowed := true }
def HeapHoldsUptoSaid : Prop := heapHoldsUptoRow.holds Try.pinned (OpenSpec.upto heapHoldsSpec)

/-- 'commonformlaw15.HeapThere', WHERE WHAT IT READS IS OF BULK AT MOST 1048576: true; the input reads as it did. -/
def heapThereUptoRow : OpenClaim := { program := "ytlaiakplkomofaa", sum := "4bac9f4f17ca1cc9165413c425f6d422841d9d7fe786762bbf1b85bc16a0d7ff", func := "commonform/commonformlaw15.HeapThere", spec := "heapThere", unfollowed := true, recurses := true, plainKeys := false, apart := false, narrowed := true }
def HeapThereUptoSaid : Prop := heapThereUptoRow.holds Try.pinned (OpenSpec.upto heapThereSpec)

/-- 'commonformlaw15.HeapMoves', WHERE WHAT IT READS IS OF BULK AT MOST 1048576: true; the input reads as it did. -/
def heapMovesUptoRow : OpenClaim := { program := "ytlaiakplkomofaa", sum := "4bac9f4f17ca1cc9165413c425f6d422841d9d7fe786762bbf1b85bc16a0d7ff", func := "commonform/commonformlaw15.HeapMoves", spec := "heapMoves", unfollowed := true, recurses := true, plainKeys := false, apart := false, narrowed := true }
def HeapMovesUptoSaid : Prop := heapMovesUptoRow.holds Try.pinned (OpenSpec.upto heapMovesSpec)

end Rows
end Go.Proofs.Ytlaiakplkomofaa
