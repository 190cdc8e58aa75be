/- SequenceSorted of chapter 12: the row. -/
import Derived.Test.YtamemdhmjglifaaGreatDoorRows
import Derived.Test.YtamemdhmjglifaaGreatDoorCards
import Derived.Test.YtamemdhmjglifaaGreatDoorTie
import Derived.Test.YtamemdhmjglifaaGreatDoorFR1
import Derived.Test.YtamemdhmjglifaaGreatDoorFJ2
import Derived.ProofKit
import Derived.LaidMore
import Derived.OpenShut
import Derived.Stop.Joined
import Derived.SevenTiedAt
namespace Go.Proofs.YtamemdhmjglifaaGreatDoor
open Go.ChangeShapes Go.WideShapes Go.ChangeAt Go.RowKit
set_option linter.unusedVariables false
theorem over4 : Rows.SequenceSortedSaid :=
  OpenClaim.holds_of_wide 4 Tryz.f4 rfl rfl rfl rfl rfl rfl rfl ⟨rfl, rfl, rfl, rfl, rfl⟩ rfl rfl rfl rfl rfl (by kernel_rfl) Tryz.func4 joined4
    (of_decide_eq_true (by kernel_rfl)) (by unfold Func.isWrapper; first | (rw [if_pos (by decide +kernel)]; kernel_rfl) | (rw [if_neg (by decide +kernel)]; exact ⟨rfl, rfl⟩))
    (fun os started H enc _ => lifted4 os started H enc)

end Go.Proofs.YtamemdhmjglifaaGreatDoor
