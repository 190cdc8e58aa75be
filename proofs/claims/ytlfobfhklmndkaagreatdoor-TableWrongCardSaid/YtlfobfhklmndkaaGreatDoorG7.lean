/- Chapter 17: a table is asked with words that are no tables; a key is put. -/
import Derived.Test.YtlfobfhklmndkaaGreatDoorG6
namespace Go.Proofs.YtlfobfhklmndkaaGreatDoor
open Go.RowKit Go.AM
set_option maxRecDepth 100000
set_option linter.unusedVariables false
theorem eW_ne (w : Int) : (eW w == 0) = false := by unfold eW; cases okW w <;> rfl
theorem q11 (w : Int) (hr : (tg w == 3) = false) : Qa 11 [hp, wv w, wv 3] (AS.mk hO [2] 0 0) (.tup [.v (.int .u64 0), .v (.bool false), .v (.int .i64 (eW w))]) (AS.mk hO [2] 0 0) :=
  Qa.of u11 ((q29 w hr _ 7 1).at.mono fun n hn => k11_1 w (eW w) 0 0 n hn (eW_ne w))
theorem q12 (w : Int) (hr : (tg w == 3) = false) : Qa 12 [hp, wv w, wv 3, wv 3] (AS.mk hO [2] 0 0) (.v (.int .i64 (eW w))) (AS.mk hO [2] 0 0) :=
  Qa.of u12 ((q29 w hr _ 7 1).at.mono fun n hn => k12_1 w (eW w) 0 0 n hn (eW_ne w))
theorem q13 (w : Int) (hr : (tg w == 3) = false) : Qa 13 [hp, wv w, wv 3] (AS.mk hO [2] 0 0) (.tup [.v (.bool false), .v (.int .i64 (eW w))]) (AS.mk hO [2] 0 0) :=
  Qa.of u13 ((q29 w hr _ 7 1).at.mono fun n hn => k13_1 w (eW w) 0 0 n hn (eW_ne w))
theorem q15 (w : Int) (hr : (tg w == 3) = false) : Qa 15 [hp, wv w] (AS.mk hO [2] 0 0) (.v (.int .i64 (eW w))) (AS.mk hO [2] 0 0) :=
  Qa.of u15 ((q29 w hr _ 7 1).at.mono fun n hn => k15_1 w (eW w) 0 0 n hn (eW_ne w))
theorem s68 (w : Int) (hr : (tg w == 3) = false) (lo tl : Nat) : Qa 68 [hp, wv w] (AS.mk hO2 [2] lo tl) (.v (.pointer none)) (AS.mk hO2 [2] lo tl) :=
  Qa.of u68 ((r62 w).shift.mono fun n hn => j68_1 w lo tl n (by rw [hr] at hn; exact hn))
theorem s48 (w : Int) (hr : (tg w == 3) = false) (lo tl : Nat) : Qa 48 [hp, wv w] (AS.mk hO2 [2] lo tl) (.v (.int .i64 0)) (AS.mk hO2 [2] lo tl) :=
  Qa.of u48 ((s68 w hr 9 1).at.mono fun n hn => j48_1 w lo tl n hn)
theorem s52 (w : Int) (hr : (tg w == 3) = false) (lo tl : Nat) : Qa 52 [hp, wv w] (AS.mk hO2 [2] lo tl) (.v (.bool (okW w))) (AS.mk hO2 [2] lo tl) := by
  obtain ⟨m, hm⟩ := r72 w
  obtain ⟨c, hc⟩ := r60 w
  refine Qa.of u52 ((((r62 w).shift.and hm.shift).and hc.shift).mono fun n hn => ?_)
  obtain ⟨⟨n1, n2⟩, n3⟩ := hn
  rw [hr] at n1
  unfold okW
  cases ha : (tg w == 0) with
  | true => rw [ha] at n2; exact j52_1 w m c true (chW w) lo tl n n1 n2 n3 rfl
  | false =>
    rw [ha] at n2
    cases hb : chW w with
    | true => rw [hb] at n3; exact j52_2 w m c false true lo tl n n1 n2 n3 rfl rfl
    | false => rw [hb] at n3; exact j52_3 w m c false false lo tl n n1 n2 n3 rfl rfl
theorem s29 (w : Int) (hr : (tg w == 3) = false) (ws : AV) (lo tl : Nat) : Qa 29 [hp, wv w, ws] (AS.mk hO2 [2] lo tl) (.v (.int .i64 (eW w))) (AS.mk hO2 [2] lo tl) := by
  refine Qa.of u29 (((s48 w hr 9 1).at.and (s52 w hr 9 1).at).mono fun n hn => ?_)
  unfold eW
  cases hb : okW w with
  | true => have h2 := hn.2; rw [hb] at h2; exact j29_1 w true ws lo tl n hn.1 h2 rfl
  | false => have h2 := hn.2; rw [hb] at h2; exact j29_2 w false ws lo tl n hn.1 h2 rfl
theorem q35 (w : Int) (hr : (tg w == 3) = false) (lo tl : Nat) : Qa 35 [hp, wv w, .v (.int .i64 0)] (AS.mk hO [2] lo tl) (.tup [.v (.slice none 0 0), .v (.int .i64 (eW w))]) (AS.mk hO [2] lo tl) :=
  Qa.of u35 ((s29 w hr _ 7 1).at.mono fun n hn => k35_1 w (eW w) lo tl n hn (eW_ne w))
theorem q14 (w : Int) (hr : (tg w == 3) = false) : Qa 14 [hp, wv w] (AS.mk hO [2] 0 0) (.tup [.v (.slice none 0 0), .v (.int .i64 (eW w))]) (AS.mk hO [2] 0 0) :=
  Qa.of u14 ((q35 w hr 7 1).at.mono fun n hn => k14_1 w (eW w) 0 0 n hn)
end Go.Proofs.YtlfobfhklmndkaaGreatDoor
