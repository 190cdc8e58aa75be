/- SequenceFound of chapter 12 returns true for every list of bytes, every two bytes and either bool, and what is handed in reads behind the call as it did before; no conditions. The tied card. -/
import Derived.Test.YtamemdhmjglifaaGreatDoorRows
import Derived.Test.YtamemdhmjglifaaGreatDoorCards
import Derived.Test.YtamemdhmjglifaaGreatDoorTie
import Derived.Test.YtamemdhmjglifaaGreatDoorER2
import Derived.Test.YtamemdhmjglifaaGreatDoorEQ1
import Derived.Test.YtamemdhmjglifaaGreatDoorEQ2
import Derived.ProofKit
import Derived.LaidMore
import Derived.OpenShut
import Derived.Stop.Joined
import Derived.SevenTiedAt
namespace Go.Proofs.YtamemdhmjglifaaGreatDoor
open Go.ChangeShapes Go.WideShapes Go.ChangeAt Go.RowKit
set_option linter.unusedVariables false
theorem sequenceFound_card : Rows.SequenceFoundCardSaid :=
  Claim7.holds_tied_plain_at .later [] [.data, .data, .data, .sentinel, .sentinel] true (true, "8d4120f1e15f64678e72a297acfdbdb30b6ab8c7548aaae89e2fb1b86f26f5fc") true
    over11 (fun _ h => by cases h) eq1 (fun _ h => by cases h) sequenceFound_row_tie rfl ⟨rfl, rfl⟩ eq2 rfl
    (fun f fn hf hfn => by
      obtain rfl : f = 11 := Option.some.inj (eq6.symm.trans hf) |>.symm
      obtain rfl : fn = Tryz.f11 := (Option.some.inj (Tryz.func11.symm.trans hfn)).symm
      exact ⟨eq3, fun j t ht => by
        rw [Tryz.params11] at ht
        have hm : t ∈ [34, 5, 5, 4] := by simpa using Array.mem_of_getElem? ht
        exact (show Tryz.prog.wantsStandIn t = false by simpa using List.all_eq_true.1 eq4 t hm)⟩)
    eq5
#print axioms sequenceFound_card
end Go.Proofs.YtamemdhmjglifaaGreatDoor
