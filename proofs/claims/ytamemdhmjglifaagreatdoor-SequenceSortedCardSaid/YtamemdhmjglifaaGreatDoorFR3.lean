/- SequenceSorted of chapter 12 returns true for every two lists of bytes, and what is handed in reads behind the call as it did before; no conditions. The tied card. -/
import Derived.Test.YtamemdhmjglifaaGreatDoorRows
import Derived.Test.YtamemdhmjglifaaGreatDoorCards
import Derived.Test.YtamemdhmjglifaaGreatDoorTie
import Derived.Test.YtamemdhmjglifaaGreatDoorFR2
import Derived.Test.YtamemdhmjglifaaGreatDoorFQ1
import Derived.Test.YtamemdhmjglifaaGreatDoorFQ2
import Derived.ProofKit
import Derived.LaidMore
import Derived.OpenShut
import Derived.Stop.Joined
import Derived.SevenTiedAt
namespace Go.Proofs.YtamemdhmjglifaaGreatDoor
open Go.ChangeShapes Go.WideShapes Go.ChangeAt Go.RowKit
set_option linter.unusedVariables false
theorem sequenceSorted_card : Rows.SequenceSortedCardSaid :=
  Claim7.holds_tied_plain_at .later [] [.data, .data, .data, .sentinel, .sentinel] true (true, "8d4120f1e15f64678e72a297acfdbdb30b6ab8c7548aaae89e2fb1b86f26f5fc") true
    over4 (fun _ h => by cases h) fq1 (fun _ h => by cases h) sequenceSorted_row_tie rfl ⟨rfl, rfl⟩ fq2 rfl
    (fun f fn hf hfn => by
      obtain rfl : f = 4 := Option.some.inj (fq6.symm.trans hf) |>.symm
      obtain rfl : fn = Tryz.f4 := (Option.some.inj (Tryz.func4.symm.trans hfn)).symm
      exact ⟨fq3, fun j t ht => by
        rw [Tryz.params4] at ht
        have hm : t ∈ [34, 34] := by simpa using Array.mem_of_getElem? ht
        exact (show Tryz.prog.wantsStandIn t = false by simpa using List.all_eq_true.1 fq4 t hm)⟩)
    fq5
#print axioms sequenceSorted_card
end Go.Proofs.YtamemdhmjglifaaGreatDoor
