/- TableWrong of chapter 17: the row. -/
import Derived.Test.YtlfobfhklmndkaaGreatDoorRows
import Derived.Test.YtlfobfhklmndkaaGreatDoorCards
import Derived.Test.YtlfobfhklmndkaaGreatDoorTie
import Derived.Test.YtlfobfhklmndkaaGreatDoorTR1
import Derived.Test.YtlfobfhklmndkaaGreatDoorTJ2
import Derived.ProofKit
import Derived.LaidMore
import Derived.OpenShut
import Derived.Stop.Joined
import Derived.SevenTiedAt
namespace Go.Proofs.YtlfobfhklmndkaaGreatDoor
open Go.ChangeShapes Go.WideShapes Go.ChangeAt Go.RowKit
set_option linter.unusedVariables false
theorem over3 : Rows.TableWrongSaid :=
  OpenClaim.holds_of_wide 3 Tryz.f3 rfl rfl rfl rfl rfl rfl rfl ⟨rfl, rfl, rfl, rfl, rfl⟩ rfl rfl rfl rfl rfl (by kernel_rfl) Tryz.func3 joined3
    (of_decide_eq_true (by kernel_rfl)) (by unfold Func.isWrapper; first | (rw [if_pos (by decide +kernel)]; kernel_rfl) | (rw [if_neg (by decide +kernel)]; exact ⟨rfl, rfl⟩))
    (fun os started H enc _ => lifted3 os started H enc)

end Go.Proofs.YtlfobfhklmndkaaGreatDoor
