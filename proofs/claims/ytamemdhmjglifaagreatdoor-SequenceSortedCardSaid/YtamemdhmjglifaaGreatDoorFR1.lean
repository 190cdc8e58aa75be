/- SequenceSorted of chapter 12: the row and its card. -/
import Derived.Test.YtamemdhmjglifaaGreatDoorRows
import Derived.Test.YtamemdhmjglifaaGreatDoorCards
import Derived.Test.YtamemdhmjglifaaGreatDoorTie
import Derived.Test.YtamemdhmjglifaaGreatDoorQI
import Derived.Test.YtamemdhmjglifaaGreatDoorQF
import Derived.Test.YtamemdhmjglifaaGreatDoorQ9
import Derived.ProofKit
import Derived.LaidMore
import Derived.OpenShut
import Derived.Stop.Joined
import Derived.SevenTiedAt
namespace Go.Proofs.YtamemdhmjglifaaGreatDoor
open Go.ChangeShapes Go.WideShapes Go.ChangeAt Go.RowKit
set_option linter.unusedVariables false

theorem own4k : ownKnob Tryz.prog.godebug = none := by kernel_rfl
theorem laidOut4 : laidOutB Tryz.prog = true := by kernel_rfl

theorem walk4 {W : World} {v0 v1 : Value} {bl bm : List Int} (hl : By bl) (hm : By bm) (h1 : bl.length < 4611686018427387904) (h2 : bm.length < 4611686018427387904)
    (hv : AM.VR (AM.envW W) W (.lst .any (bl.map bR)) v0) (hu : AM.VR (AM.envW W) W (.lst .any (bm.map bR)) v1) :
    Calls Tryz.prog 4 #[v0, v1] W fun e w' => e = .returned (.bool true) ∧ Below W.heap.size W w' := by
  obtain ⟨N, hN⟩ := sorted4 bl bm hl hm h1 h2
  have hc := hN N (Nat.le_refl _) {}
  refine AM.call_callsW (C := cP) (ys := [v0, v1]) names xP mixed hc ⟨rfl, fun i a b ha hb => ?_⟩
  match i, ha, hb with
  | 0, ha, hb => cases ha; cases hb; exact hv
  | 1, ha, hb => cases ha; cases hb; exact hu
  | i + 2, ha, hb => cases ha

theorem u8_range {k : Int} (h : (Lit.int .u8 k).wf = true) : 0 ≤ k ∧ k < 256 := by
  have h1 : IntKind.min .u8 = 0 := by decide
  have h2 : IntKind.max .u8 = 255 := by decide
  simp [Lit.wf] at h
  omega

abbrev laidF {H : Type} : List (String × DataW H) := [("math/bits.deBruijn32tab", Rows.laid_math_bits_deBruijn32tab), ("math/bits.deBruijn64tab", Rows.laid_math_bits_deBruijn64tab), ("internal/strconv.uint64pow10", Rows.laid_internal_strconv_uint64pow10), ("strconv.ErrRange", Rows.laid_strconv_ErrRange), ("strconv.ErrSyntax", Rows.laid_strconv_ErrSyntax)]

set_option maxRecDepth 100000 in
theorem door_met4 (os : Os) (args : Array Value) : laidMetH Tryz.prog laidF ((World.doorLaid Tryz.prog 400 os).forCall (fun _ _ => 0) ⟨#[], args, []⟩).memory :=
  laidMetH_of_parts3 (fuel := 8) (laidMet_of_run' 8 (by kernel_rfl) (by kernel_rfl)) (by kernel_rfl) (by kernel_rfl)

set_option maxRecDepth 100000 in
theorem lifted4 (os : Os) (started : os.Started) (H : Type) (enc : TypeId × Value → H) :
    ReturnsInHanded {} Tryz.checked os 4 .any (fun w args => (Rows.sequenceSortedSpec.pre enc Tryz.prog Tryz.f4 [] false w args ∧ laidMetH Tryz.prog laidF w) ∧ sizedMet enc Tryz.prog Tryz.f4 (OpenSpec.ofChange Rows.sequenceSortedSpec) false w args)
      (Rows.sequenceSortedSpec.post enc Tryz.prog Tryz.f4 false true false false) := by
  refine returnsInHanded_of_change_and (C := Tryz.checked) (X := fun w _ => laidMetH Tryz.prog laidF w) (fun _ _ _ hh h => h.of_heap hh) own4k started (by kernel_rfl) Tryz.func4
    (ChangeSpec.witness_shaped (enc := enc) (C := Tryz.checked) (os := os) (X := fun w _ => laidMetH Tryz.prog laidF w) false (World.doorLaid Tryz.prog 400 os) #[.slice none 0 0, .slice none 0 0] 8 rfl (World.shaped_of_RefB (by kernel_rfl) (by kernel_rfl)) (by kernel_rfl) (by kernel_rfl) (by kernel_rfl) (door_met4 os _)) ?_
  intro W base args ds gs before hval0 hW _ hZ hL _
  have hval : ∀ (j : Nat) t v, Tryz.f4.params[j]? = some t → args[j]? = some v → Value.okWide Tryz.prog W .any base t v := hval0
  have hW' := hW
  obtain ⟨p, q, hA0, hV, rfl, hfz, hnd⟩ := hW
  have hA : DataW.TrodAll enc Tryz.prog W 0 (fun _ => true) true Tryz.f4.params.toList args.toList ds p := hA0
  have hZ' : (DataW.weightsEach Tryz.prog (Tryz.f4.params.toList ++ Rows.sequenceSortedSpec.plain.varTypes Tryz.prog) (ds ++ gs)).all (· ≤ reachBytes) = true := hZ
  rw [Tryz.params4] at hA hval hZ'
  obtain ⟨v0, vs0, d0, ds0, p0, q0, hargs, rfl, rfl, h0, r0⟩ := trodAll_cons hA
  obtain ⟨v1, vs1, d1, ds1, p1, q1, rfl, rfl, rfl, h1, r1⟩ := trodAll_cons r0
  obtain ⟨rfl, rfl, rfl⟩ := trodAll_nil r1
  obtain rfl : args = #[v0, v1] := by cases args; simp_all
  obtain ⟨rfl, rfl⟩ := trodVars_none hV
  have hz : (DataW.weights Tryz.prog 34 d0).all (· ≤ reachBytes) = true ∧ (DataW.weights Tryz.prog 34 d1).all (· ≤ reachBytes) = true := by
    have e : DataW.weightsEach Tryz.prog ((#[34, 34] : Array TypeId).toList ++ Rows.sequenceSortedSpec.plain.varTypes Tryz.prog) ([d0, d1] ++ []) = DataW.weights Tryz.prog 34 d0 ++ (DataW.weights Tryz.prog 34 d1 ++ DataW.weightsEach Tryz.prog (Rows.sequenceSortedSpec.plain.varTypes Tryz.prog) []) := rfl
    have hz1 := hZ'
    rw [e, List.all_append, List.all_append, Bool.and_eq_true, Bool.and_eq_true] at hz1
    exact ⟨hz1.1, hz1.2.1⟩
  obtain ⟨bl, _, hw0, g0, z0⟩ := AM.open_bytes2 Tryz.underlying34 Tryz.underlying5 (by kernel_rfl) (hval 0 34 v0 rfl rfl) h0
  obtain ⟨bm, _, hw1, g1, z1⟩ := AM.open_bytes2 Tryz.underlying34 Tryz.underlying5 (by kernel_rfl) (hval 1 34 v1 rfl rfl) h1
  have l0 := z0 _ hz.1 (by kernel_rfl)
  have l1 := z1 _ hz.2 (by kernel_rfl)
  unfold reachBytes at l0 l1
  clear hA0 hval0
  simp only [List.append_nil] at hW'
  have hlt : ∀ y ∈ p0, y.block < W.heap.size := fun y hy => by simpa using hW'.lt y (by simp [hy])
  have hlt1 : ∀ y ∈ p1, y.block < W.heap.size := fun y hy => by simpa using hW'.lt y (by simp [hy])
  refine (walk4 (fun b hb => u8_range (hw0 b hb)) (fun b hb => u8_range (hw1 b hb)) (by omega) (by omega) g0 g1).mono fun e W' ⟨he, hB⟩ => ?_
  subst he
  have k0 := Below.trod laidOut4 (by kernel_rfl) (of_decide_eq_true (by kernel_rfl)) h0 hB (fun y hy => hlt y hy)
  have k1 := Below.trod laidOut4 (by kernel_rfl) (of_decide_eq_true (by kernel_rfl)) h1 hB (fun y hy => hlt1 y hy)
  exact ⟨_, rfl, _, _, _, [], _, [], hW', (trodAll_cons_mk (shut_bool Tryz.underlying4 _) trodAll_mk0),
    (trodAll_cons_mk k0 (trodAll_cons_mk k1 trodAll_mk0)), rfl, hB.frame _, fun h => by cases h⟩

end Go.Proofs.YtamemdhmjglifaaGreatDoor
