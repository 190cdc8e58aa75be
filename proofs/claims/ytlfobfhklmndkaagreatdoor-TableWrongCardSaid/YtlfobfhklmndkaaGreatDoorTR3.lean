/- TableWrong of chapter 17 returns true for every two numbers, and what is handed in reads behind the call as it did before; no conditions. The tied card. -/
import Derived.Test.YtlfobfhklmndkaaGreatDoorRows
import Derived.Test.YtlfobfhklmndkaaGreatDoorCards
import Derived.Test.YtlfobfhklmndkaaGreatDoorTie
import Derived.Test.YtlfobfhklmndkaaGreatDoorTR2
import Derived.Test.YtlfobfhklmndkaaGreatDoorTQ1
import Derived.Test.YtlfobfhklmndkaaGreatDoorTQ2
import Derived.ProofKit
import Derived.LaidMore
import Derived.OpenShut
import Derived.Stop.Joined
import Derived.SevenTiedAt
namespace Go.Proofs.YtlfobfhklmndkaaGreatDoor
open Go.ChangeShapes Go.WideShapes Go.ChangeAt Go.RowKit
set_option linter.unusedVariables false
theorem tableWrong_card : Rows.TableWrongCardSaid :=
  Claim7.holds_tied_plain_at .later [] [.data, .data, .data, .sentinel, .sentinel] true (true, "f989c66d1abbc14645ec1dc99357c0191a71e6715a6e8dd8353d8a65d18e1f0a") true
    over3 (fun _ h => by cases h) tq1 (fun _ h => by cases h) tableWrong_row_tie rfl ⟨rfl, rfl⟩ tq2 rfl
    (fun f fn hf hfn => by
      obtain rfl : f = 3 := Option.some.inj (tq6.symm.trans hf) |>.symm
      obtain rfl : fn = Tryz.f3 := (Option.some.inj (Tryz.func3.symm.trans hfn)).symm
      exact ⟨tq3, fun j t ht => by
        rw [Tryz.params3] at ht
        have hm : t ∈ [22, 22] := by simpa using Array.mem_of_getElem? ht
        exact (show Tryz.prog.wantsStandIn t = false by simpa using List.all_eq_true.1 tq4 t hm)⟩)
    tq5
#print axioms tableWrong_card
end Go.Proofs.YtlfobfhklmndkaaGreatDoor
