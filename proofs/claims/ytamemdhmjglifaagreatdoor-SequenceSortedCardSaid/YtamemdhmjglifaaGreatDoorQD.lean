/- Chapter 12: awake. -/
import Derived.Test.YtamemdhmjglifaaGreatDoorQA
namespace Go.Proofs.YtamemdhmjglifaaGreatDoor
open Go.RowKit Go.AM
set_option maxRecDepth 100000
set_option linter.unusedVariables false
theorem f13_1  (n : Nat) : Path cfg 13 [] (AV.v (Value.bool true)) (n + 60) :=
  Path.of (ds := []) (cs := []) (x := AV.v (Value.bool true)) (S2 := AS.mk [] [] 0 0) (by kernel_rfl) trivial rfl -- Exit.ret

theorem awake13 : Fr cfg 13 [] (.v (.bool true)) :=
  Fr.of_co rfl (by kernel_rfl) Own.nil (Co.path (by kernel_rfl) (Evt.shift (Evt.of f13_1)))

end Go.Proofs.YtamemdhmjglifaaGreatDoor
