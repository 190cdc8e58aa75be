/- SequenceMoves of chapter 12: the row and its card. -/
import Derived.Test.YtamemdhmjglifaaGreatDoorRows
import Derived.Test.YtamemdhmjglifaaGreatDoorCards
import Derived.Test.YtamemdhmjglifaaGreatDoorTie
import Derived.Test.YtamemdhmjglifaaGreatDoorC6
import Derived.Test.YtamemdhmjglifaaGreatDoorCX
import Derived.Test.YtamemdhmjglifaaGreatDoorOF
import Derived.ProofKit
import Derived.LaidMore
import Derived.OpenShut
import Derived.Stop.Joined
import Derived.SevenTiedAt
namespace Go.Proofs.YtamemdhmjglifaaGreatDoor
open Go.ChangeShapes Go.WideShapes Go.ChangeAt Go.RowKit
set_option linter.unusedVariables false

theorem own6k : ownKnob Tryz.prog.godebug = none := by kernel_rfl
theorem laidOut6 : laidOutB Tryz.prog = true := by kernel_rfl
theorem formT : AM.FormT Tryz.prog 22 27 3 9 :=
  ⟨by kernel_rfl, by kernel_rfl, by kernel_rfl, by kernel_rfl, by kernel_rfl, by kernel_rfl, by kernel_rfl, by kernel_rfl⟩

theorem walk6 {W : World} {v0 v1 v2 : Value} {a3 a4 a5 a6 : Int} {xs ms : List AM.Fm} {x : AM.Fm} (hxs : ∀ y ∈ xs, AM.Fit y) (hms : ∀ y ∈ ms, AM.Fit y) (hx : AM.Fit x) (hb : xs.length < 9223372036854775808) (hb2 : ms.length < 9223372036854775808)
    (h0 : AM.VR (AM.envW W) W (.lst .any (xs.map AM.Fm.row)) v0) (h1 : AM.VR (AM.envW W) W (.lst .any (ms.map AM.Fm.row)) v1) (h2 : AM.VR (AM.envW W) W x.av v2) :
    Calls Tryz.prog 6 #[v0, v1, v2, .int .i64 a3, .int .i64 a4, .int .i64 a5, .int .i64 a6] W fun e w' => e = .returned (.bool true) ∧ Below W.heap.size W w' := by
  obtain ⟨N, hN⟩ := moves6 xs ms x hxs hms hx hb hb2 a3 a4 a5 a6
  have hc := hN N (Nat.le_refl _) {}
  refine AM.call_callsW (C := cfg) (ys := [v0, v1, v2, .int .i64 a3, .int .i64 a4, .int .i64 a5, .int .i64 a6]) names xok mixed hc ⟨rfl, fun i a b ha hb => ?_⟩
  match i, ha, hb with
  | 0, ha, hb => cases ha; cases hb; exact h0
  | 1, ha, hb => cases ha; cases hb; exact h1
  | 2, ha, hb => cases ha; cases hb; exact h2
  | 3, ha, hb => cases ha; cases hb; exact AM.VR.of_flat rfl
  | 4, ha, hb => cases ha; cases hb; exact AM.VR.of_flat rfl
  | 5, ha, hb => cases ha; cases hb; exact AM.VR.of_flat rfl
  | 6, ha, hb => cases ha; cases hb; exact AM.VR.of_flat rfl
  | i + 7, ha, hb => cases ha

abbrev laidL {H : Type} : List (String × DataW H) := [("math/bits.deBruijn32tab", Rows.laid_math_bits_deBruijn32tab), ("math/bits.deBruijn64tab", Rows.laid_math_bits_deBruijn64tab), ("internal/strconv.uint64pow10", Rows.laid_internal_strconv_uint64pow10), ("strconv.ErrRange", Rows.laid_strconv_ErrRange), ("strconv.ErrSyntax", Rows.laid_strconv_ErrSyntax)]

set_option maxRecDepth 100000 in
theorem door_met (os : Os) (args : Array Value) : laidMetH Tryz.prog laidL ((World.doorLaid Tryz.prog 400 os).forCall (fun _ _ => 0) ⟨#[], args, []⟩).memory :=
  laidMetH_of_parts3 (fuel := 8) (laidMet_of_run' 8 (by kernel_rfl) (by kernel_rfl)) (by kernel_rfl) (by kernel_rfl)

set_option maxRecDepth 100000 in
theorem lifted6 (os : Os) (started : os.Started) (H : Type) (enc : TypeId × Value → H) :
    ReturnsInHanded {} Tryz.checked os 6 .any (fun w args => (Rows.sequenceMovesSpec.pre enc Tryz.prog Tryz.f6 [] false w args ∧ laidMetH Tryz.prog laidL w) ∧ sizedMet enc Tryz.prog Tryz.f6 (OpenSpec.ofChange Rows.sequenceMovesSpec) false w args)
      (Rows.sequenceMovesSpec.post enc Tryz.prog Tryz.f6 false true false false) := by
  refine returnsInHanded_of_change_and (C := Tryz.checked) (X := fun w _ => laidMetH Tryz.prog laidL w) (fun _ _ _ hh h => h.of_heap hh) own6k started (by kernel_rfl) Tryz.func6
    (ChangeSpec.witness_shaped (enc := enc) (C := Tryz.checked) (os := os) (X := fun w _ => laidMetH Tryz.prog laidL w) false (World.doorLaid Tryz.prog 400 os) #[.slice none 0 0, .slice none 0 0, .agg #[.int .i64 0, .string ⟨#[]⟩, .string ⟨#[]⟩, .slice none 0 0], .int .i64 0, .int .i64 0, .int .i64 0, .int .i64 0] 8 rfl (World.shaped_of_RefB (by kernel_rfl) (by kernel_rfl)) (by kernel_rfl) (by kernel_rfl) (by kernel_rfl) (door_met os _)) ?_
  intro W base args ds gs before hval0 hW _ _ hL _
  have hval : ∀ (j : Nat) t v, Tryz.f6.params[j]? = some t → args[j]? = some v → Value.okWide Tryz.prog W .any base t v := hval0
  have hW' := hW
  obtain ⟨p, q, hA0, hV, rfl, hfz, hnd⟩ := hW
  have hA : DataW.TrodAll enc Tryz.prog W 0 (fun _ => true) true Tryz.f6.params.toList args.toList ds p := hA0
  rw [Tryz.params6] at hA hval
  obtain ⟨v0, vs0, d0, ds0, p0, q0, hargs, rfl, rfl, h0, r0⟩ := trodAll_cons hA
  obtain ⟨v1, vs1, d1, ds1, p1, q1, rfl, rfl, rfl, h1, r1⟩ := trodAll_cons r0
  obtain ⟨v2, vs2, d2, ds2, p2, q2, rfl, rfl, rfl, h2, r2⟩ := trodAll_cons r1
  obtain ⟨v3, vs3, d3, ds3, p3, q3, rfl, rfl, rfl, h3, r3⟩ := trodAll_cons r2
  obtain ⟨v4, vs4, d4, ds4, p4, q4, rfl, rfl, rfl, h4, r4⟩ := trodAll_cons r3
  obtain ⟨v5, vs5, d5, ds5, p5, q5, rfl, rfl, rfl, h5, r5⟩ := trodAll_cons r4
  obtain ⟨v6, vs6, d6, ds6, p6, q6, rfl, rfl, rfl, h6, r6⟩ := trodAll_cons r5
  obtain ⟨rfl, rfl, rfl⟩ := trodAll_nil r6
  obtain rfl : args = #[v0, v1, v2, v3, v4, v5, v6] := by cases args; simp_all
  obtain ⟨rfl, rfl⟩ := trodVars_none hV
  obtain ⟨xs, fx, bx, g0⟩ := AM.open_list formT (hval 0 22 v0 rfl rfl) h0
  obtain ⟨ms, fm, bm, g1⟩ := AM.open_list formT (hval 1 22 v1 rfl rfl) h1
  obtain ⟨x, fx2, g2⟩ := AM.open_fm formT (hval 2 27 v2 rfl rfl) h2
  obtain ⟨a3, rfl, rfl, rfl, w3⟩ := open_int Tryz.underlying3 (hval 3 3 v3 rfl rfl) h3
  obtain ⟨a4, rfl, rfl, rfl, w4⟩ := open_int Tryz.underlying3 (hval 4 3 v4 rfl rfl) h4
  obtain ⟨a5, rfl, rfl, rfl, w5⟩ := open_int Tryz.underlying3 (hval 5 3 v5 rfl rfl) h5
  obtain ⟨a6, rfl, rfl, rfl, w6⟩ := open_int Tryz.underlying3 (hval 6 3 v6 rfl rfl) h6
  clear hA0 hval0
  simp only [List.append_nil] at hW'
  have hlt : ∀ y ∈ p0 ++ (p1 ++ p2), y.block < W.heap.size := fun y hy => by simpa using hW'.lt y (by simpa using hy)
  refine (walk6 (a3 := a3) (a4 := a4) (a5 := a5) (a6 := a6) fx fm fx2 bx bm g0 g1 g2).mono fun e W' ⟨he, hB⟩ => ?_
  subst he
  have k0 := Below.trod laidOut6 (by kernel_rfl) (of_decide_eq_true (by kernel_rfl)) h0 hB (fun y hy => hlt y (by simp [hy]))
  have k1 := Below.trod laidOut6 (by kernel_rfl) (of_decide_eq_true (by kernel_rfl)) h1 hB (fun y hy => hlt y (by simp [hy]))
  have k2 := Below.trod laidOut6 (by kernel_rfl) (of_decide_eq_true (by kernel_rfl)) h2 hB (fun y hy => hlt y (by simp [hy]))
  exact ⟨_, rfl, _, _, _, [], _, [], hW', (trodAll_cons_mk (shut_bool Tryz.underlying4 _) trodAll_mk0),
    (trodAll_cons_mk k0 (trodAll_cons_mk k1 (trodAll_cons_mk k2 (trodAll_cons_mk (shut_int Tryz.underlying3 w3) (trodAll_cons_mk (shut_int Tryz.underlying3 w4) (trodAll_cons_mk (shut_int Tryz.underlying3 w5) (trodAll_cons_mk (shut_int Tryz.underlying3 w6) trodAll_mk0))))))), rfl, hB.frame _, fun h => by cases h⟩

end Go.Proofs.YtamemdhmjglifaaGreatDoor
