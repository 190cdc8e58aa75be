/- SequenceFound of chapter 12: the row and its card. -/
import Derived.Test.YtamemdhmjglifaaGreatDoorRows
import Derived.Test.YtamemdhmjglifaaGreatDoorCards
import Derived.Test.YtamemdhmjglifaaGreatDoorTie
import Derived.Test.YtamemdhmjglifaaGreatDoorPN
import Derived.Test.YtamemdhmjglifaaGreatDoorPF
import Derived.Test.YtamemdhmjglifaaGreatDoorP9
import Derived.ProofKit
import Derived.LaidMore
import Derived.OpenShut
import Derived.Stop.Joined
import Derived.SevenTiedAt
namespace Go.Proofs.YtamemdhmjglifaaGreatDoor
open Go.ChangeShapes Go.WideShapes Go.ChangeAt Go.RowKit
set_option linter.unusedVariables false

theorem own11k : ownKnob Tryz.prog.godebug = none := by kernel_rfl
theorem laidOut11 : laidOutB Tryz.prog = true := by kernel_rfl

theorem walk11 {W : World} {v0 : Value} {a1 a2 : Int} {b3 : Bool} {bs : List Int} (h0 : 0 ≤ a2) (h1 : a2 < 256)
    (hv : AM.VR (AM.envW W) W (.lst .any (bs.map bR)) v0) :
    Calls Tryz.prog 11 #[v0, .int .u8 a1, .int .u8 a2, .bool b3] W fun e w' => e = .returned (.bool true) ∧ Below W.heap.size W w' := by
  obtain ⟨N, hN⟩ := found11 bs a1 a2 b3 h0 h1
  have hc := hN N (Nat.le_refl _) {}
  refine AM.call_callsW (C := cL) (ys := [v0, .int .u8 a1, .int .u8 a2, .bool b3]) names xL mixed hc ⟨rfl, fun i a b ha hb => ?_⟩
  match i, ha, hb with
  | 0, ha, hb => cases ha; cases hb; exact hv
  | 1, ha, hb => cases ha; cases hb; exact AM.VR.of_flat rfl
  | 2, ha, hb => cases ha; cases hb; exact AM.VR.of_flat rfl
  | 3, ha, hb => cases ha; cases hb; exact AM.VR.of_flat rfl
  | i + 4, ha, hb => cases ha

theorem u8_range {k : Int} (h : (Lit.int .u8 k).wf = true) : 0 ≤ k ∧ k < 256 := by
  have h1 : IntKind.min .u8 = 0 := by decide
  have h2 : IntKind.max .u8 = 255 := by decide
  simp [Lit.wf] at h
  omega

abbrev laidF {H : Type} : List (String × DataW H) := [("math/bits.deBruijn32tab", Rows.laid_math_bits_deBruijn32tab), ("math/bits.deBruijn64tab", Rows.laid_math_bits_deBruijn64tab), ("internal/strconv.uint64pow10", Rows.laid_internal_strconv_uint64pow10), ("strconv.ErrRange", Rows.laid_strconv_ErrRange), ("strconv.ErrSyntax", Rows.laid_strconv_ErrSyntax)]

set_option maxRecDepth 100000 in
theorem door_met11 (os : Os) (args : Array Value) : laidMetH Tryz.prog laidF ((World.doorLaid Tryz.prog 400 os).forCall (fun _ _ => 0) ⟨#[], args, []⟩).memory :=
  laidMetH_of_parts3 (fuel := 8) (laidMet_of_run' 8 (by kernel_rfl) (by kernel_rfl)) (by kernel_rfl) (by kernel_rfl)

set_option maxRecDepth 100000 in
theorem lifted11 (os : Os) (started : os.Started) (H : Type) (enc : TypeId × Value → H) :
    ReturnsInHanded {} Tryz.checked os 11 .any (fun w args => (Rows.sequenceFoundSpec.pre enc Tryz.prog Tryz.f11 [] false w args ∧ laidMetH Tryz.prog laidF w) ∧ sizedMet enc Tryz.prog Tryz.f11 (OpenSpec.ofChange Rows.sequenceFoundSpec) false w args)
      (Rows.sequenceFoundSpec.post enc Tryz.prog Tryz.f11 false true false false) := by
  refine returnsInHanded_of_change_and (C := Tryz.checked) (X := fun w _ => laidMetH Tryz.prog laidF w) (fun _ _ _ hh h => h.of_heap hh) own11k started (by kernel_rfl) Tryz.func11
    (ChangeSpec.witness_shaped (enc := enc) (C := Tryz.checked) (os := os) (X := fun w _ => laidMetH Tryz.prog laidF w) false (World.doorLaid Tryz.prog 400 os) #[.slice none 0 0, .int .u8 0, .int .u8 0, .bool false] 8 rfl (World.shaped_of_RefB (by kernel_rfl) (by kernel_rfl)) (by kernel_rfl) (by kernel_rfl) (by kernel_rfl) (door_met11 os _)) ?_
  intro W base args ds gs before hval0 hW _ _ hL _
  have hval : ∀ (j : Nat) t v, Tryz.f11.params[j]? = some t → args[j]? = some v → Value.okWide Tryz.prog W .any base t v := hval0
  have hW' := hW
  obtain ⟨p, q, hA0, hV, rfl, hfz, hnd⟩ := hW
  have hA : DataW.TrodAll enc Tryz.prog W 0 (fun _ => true) true Tryz.f11.params.toList args.toList ds p := hA0
  rw [Tryz.params11] at hA hval
  obtain ⟨v0, vs0, d0, ds0, p0, q0, hargs, rfl, rfl, h0, r0⟩ := trodAll_cons hA
  obtain ⟨v1, vs1, d1, ds1, p1, q1, rfl, rfl, rfl, h1, r1⟩ := trodAll_cons r0
  obtain ⟨v2, vs2, d2, ds2, p2, q2, rfl, rfl, rfl, h2, r2⟩ := trodAll_cons r1
  obtain ⟨v3, vs3, d3, ds3, p3, q3, rfl, rfl, rfl, h3, r3⟩ := trodAll_cons r2
  obtain ⟨rfl, rfl, rfl⟩ := trodAll_nil r3
  obtain rfl : args = #[v0, v1, v2, v3] := by cases args; simp_all
  obtain ⟨rfl, rfl⟩ := trodVars_none hV
  obtain ⟨bs, hbl, hbw, g0⟩ := AM.open_bytes Tryz.underlying34 Tryz.underlying5 (by kernel_rfl) (hval 0 34 v0 rfl rfl) h0
  obtain ⟨a1, rfl, rfl, rfl, w1⟩ := open_int Tryz.underlying5 (hval 1 5 v1 rfl rfl) h1
  obtain ⟨a2, rfl, rfl, rfl, w2⟩ := open_int Tryz.underlying5 (hval 2 5 v2 rfl rfl) h2
  obtain ⟨b3, rfl, rfl, rfl⟩ := open_bool Tryz.underlying4 (hval 3 4 v3 rfl rfl) h3
  clear hA0 hval0
  simp only [List.append_nil] at hW'
  have hlt : ∀ y ∈ p0, y.block < W.heap.size := fun y hy => by simpa using hW'.lt y (by simpa using hy)
  refine (walk11 (a1 := a1) (a2 := a2) (b3 := b3) (u8_range w2).1 (u8_range w2).2 g0).mono fun e W' ⟨he, hB⟩ => ?_
  subst he
  have k0 := Below.trod laidOut11 (by kernel_rfl) (of_decide_eq_true (by kernel_rfl)) h0 hB (fun y hy => hlt y hy)
  exact ⟨_, rfl, _, _, _, [], _, [], hW', (trodAll_cons_mk (shut_bool Tryz.underlying4 _) trodAll_mk0),
    (trodAll_cons_mk k0 (trodAll_cons_mk (shut_int Tryz.underlying5 w1) (trodAll_cons_mk (shut_int Tryz.underlying5 w2) (trodAll_cons_mk (shut_bool Tryz.underlying4 _) trodAll_mk0)))), rfl, hB.frame _, fun h => by cases h⟩

end Go.Proofs.YtamemdhmjglifaaGreatDoor
