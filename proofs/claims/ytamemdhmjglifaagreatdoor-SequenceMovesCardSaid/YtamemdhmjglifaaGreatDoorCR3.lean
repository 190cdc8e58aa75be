/- SequenceMoves of chapter 12 returns true for every two lists of forms, every form and every four numbers, and what is handed in reads behind the call as it did before; no conditions. The tied card. -/
import Derived.Test.YtamemdhmjglifaaGreatDoorRows
import Derived.Test.YtamemdhmjglifaaGreatDoorCards
import Derived.Test.YtamemdhmjglifaaGreatDoorTie
import Derived.Test.YtamemdhmjglifaaGreatDoorCR2
import Derived.Test.YtamemdhmjglifaaGreatDoorCQ1
import Derived.Test.YtamemdhmjglifaaGreatDoorCQ2
import Derived.ProofKit
import Derived.LaidMore
import Derived.OpenShut
import Derived.Stop.Joined
import Derived.SevenTiedAt
namespace Go.Proofs.YtamemdhmjglifaaGreatDoor
open Go.ChangeShapes Go.WideShapes Go.ChangeAt Go.RowKit
set_option linter.unusedVariables false
theorem sequenceMoves_card : Rows.SequenceMovesCardSaid :=
  Claim7.holds_tied_plain_at .later [] [.data, .data, .data, .sentinel, .sentinel] true (true, "8d4120f1e15f64678e72a297acfdbdb30b6ab8c7548aaae89e2fb1b86f26f5fc") true
    over6 (fun _ h => by cases h) q1 (fun _ h => by cases h) sequenceMoves_row_tie rfl ⟨rfl, rfl⟩ q2 rfl
    (fun f fn hf hfn => by
      obtain rfl : f = 6 := Option.some.inj (q6.symm.trans hf) |>.symm
      obtain rfl : fn = Tryz.f6 := (Option.some.inj (Tryz.func6.symm.trans hfn)).symm
      exact ⟨q3, fun j t ht => by
        rw [Tryz.params6] at ht
        have hm : t ∈ [22, 22, 27, 3, 3, 3, 3] := by simpa using Array.mem_of_getElem? ht
        exact (show Tryz.prog.wantsStandIn t = false by simpa using List.all_eq_true.1 q4 t hm)⟩)
    q5
#print axioms sequenceMoves_card
end Go.Proofs.YtamemdhmjglifaaGreatDoor
