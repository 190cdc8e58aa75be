/- Chapter 17: keys are put. -/
import Derived.Test.YtlfobfhklmndkaaGreatDoorG7
namespace Go.Proofs.YtlfobfhklmndkaaGreatDoor
open Go.RowKit Go.AM
set_option maxRecDepth 100000
set_option linter.unusedVariables false
abbrev kws (key : Int) : AV := .lst .exact [[wv key], [wv 3]]
theorem q36 (key : Int) (hr : (tg key == 3) = false) (lo tl : Nat) : Qa 36 [hp, kws key] (AS.mk hO [2] lo tl) (.v (.int .i64 (bif okW key then 0 else 170))) (AS.mk hO [2] lo tl) := by
  refine Qa.of u36 ((q52 key hr 7 1).at.mono fun n hn => ?_)
  cases hb : okW key with
  | true => rw [hb] at hn; exact k36_1 key true lo tl n hn rfl
  | false => rw [hb] at hn; exact k36_2 key false lo tl n hn rfl
theorem p29 (key : Int) (hr : (tg key == 3) = false) (lo tl : Nat) : Qa 29 [hp, wv 51, kws key] (AS.mk hO [2] lo tl) (.v (.int .i64 (bif okW key then 0 else 170))) (AS.mk hO [2] lo tl) :=
  Qa.of u29 ((q36 key hr 7 1).at.mono fun n hn => t29_1 key _ lo tl n hn)
theorem put_bad (key : Int) (hr : (tg key == 3) = false) (hb : okW key = false) : Qa 12 [hp, wv 51, wv key, wv 3] (AS.mk hO [2] 0 0) (.v (.int .i64 170)) (AS.mk hO [2] 0 0) := by
  have h := p29 key hr 7 1
  rw [hb] at h
  exact Qa.of u12 (h.at.mono fun n hn => t12_1 key 170 0 0 n hn rfl)
theorem r69 (w : Int) : Fr cfg 69 [wv w] (.v (.bool (okW w))) := by
  obtain ⟨m, hm⟩ := r72 w
  obtain ⟨c, hc⟩ := r60 w
  refine Fr.of_co rfl (by kernel_rfl) (Own.v Own.nil) (Co.path (by kernel_rfl) (Evt.shift ((hm.shift.and hc.shift).mono fun n hn => ?_)))
  unfold okW
  cases ha : (tg w == 0) with
  | true => rw [ha] at hn; exact f69_1 w m c true (chW w) n hn.1 hn.2 rfl
  | false =>
    rw [ha] at hn
    cases hb : chW w with
    | true => rw [hb] at hn; exact f69_2 w m c false true n hn.1 hn.2 rfl rfl
    | false => rw [hb] at hn; exact f69_3 w m c false false n hn.1 hn.2 rfl rfl
theorem q44 (key : Int) (hb : okW key = true) (lo tl : Nat) : Qa 44 [hp, wv key] (AS.mk (hO3 (Int.ofNat 3)) [3] lo tl) (.v (.bool true)) (AS.mk (hO3 (Int.ofNat 3)) [3] lo tl) :=
  Qa.of u44 ((r69 key).shift.mono fun n hn => k44_1 key lo tl n (by rw [hb] at hn; exact hn))
theorem q21 (key : Int) (hb : okW key = true) : Qa 21 [hp, wv 99, .v (.int .i64 0), wv key] (AS.mk (hO3 (Int.ofNat 3)) [3] 0 0) (.v (.int .i64 0)) (AS.mk (hO3 key) [3] 0 0) :=
  Qa.of u21 ((q44 key hb 9 1).at.mono fun n hn => k21_1 key 0 0 n hn)
theorem put_good (key : Int) (hr : (tg key == 3) = false) (hb : okW key = true) : Qa 12 [hp, wv 51, wv key, wv 3] (AS.mk hO [2] 0 0) (.v (.int .i64 0)) (AS.mk (hO5 key) [3] 0 0) := by
  have h := p29 key hr 7 1
  rw [hb] at h
  exact Qa.of u12 ((h.at.and (q21 key hb).at).mono fun n hn => p12_1 key 0 0 n hn.1 hn.2)

end Go.Proofs.YtlfobfhklmndkaaGreatDoor
