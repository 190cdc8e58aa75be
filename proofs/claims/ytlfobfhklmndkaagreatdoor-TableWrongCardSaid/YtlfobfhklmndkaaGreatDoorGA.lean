/- Chapter 17: awake. -/
import Derived.Test.YtlfobfhklmndkaaGreatDoorG0
namespace Go.Proofs.YtlfobfhklmndkaaGreatDoor
open Go.RowKit Go.AM
set_option maxRecDepth 100000
theorem aw9 : (acallF cfg (lower cfg 60) 61 9 [] {}).map (fun r => r.1) = some (.v (.bool true)) := by kernel_rfl
theorem awake9 : Fr cfg 9 [] (.v (.bool true)) :=
  Fr.of_co rfl (by kernel_rfl) Own.nil ⟨60, fun n hn => by
    obtain ⟨r, h1, h2⟩ := Option.map_eq_some_iff.1 aw9
    obtain ⟨d, rfl⟩ : ∃ d, n = 60 + d := ⟨n - 60, by omega⟩
    refine ⟨.v (.bool true), r.2, ?_, rfl⟩
    rw [← h2]
    exact acallF_mono (lower_le cfg (by omega)) (by omega) h1⟩
end Go.Proofs.YtlfobfhklmndkaaGreatDoor
