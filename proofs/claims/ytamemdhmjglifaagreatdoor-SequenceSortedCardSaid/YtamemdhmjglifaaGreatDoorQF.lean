/- Chapter 12: the contracts hold. -/
import Derived.Test.YtamemdhmjglifaaGreatDoorQA
import Derived.Test.YtamemdhmjglifaaGreatDoorQ6
import Derived.Test.YtamemdhmjglifaaGreatDoorQK0
import Derived.Test.YtamemdhmjglifaaGreatDoorQK1
import Derived.Test.YtamemdhmjglifaaGreatDoorQK2
import Derived.Test.YtamemdhmjglifaaGreatDoorQK3
import Derived.Test.YtamemdhmjglifaaGreatDoorQL0
import Derived.Test.YtamemdhmjglifaaGreatDoorQL1
import Derived.Test.YtamemdhmjglifaaGreatDoorQL2
import Derived.Test.YtamemdhmjglifaaGreatDoorQL3
namespace Go.Proofs.YtamemdhmjglifaaGreatDoor
open Go.RowKit Go.AM
set_option maxRecDepth 100000

theorem e285 {vs : List Value} {y : Value} {w : World} (h : exIndexByte vs = some y) : (callFunc 285 vs.toArray).run Go.Proofs.Tryz.prog w = .ok (.value y) w :=
  extern_run (fn := Go.Proofs.Tryz.f285) (e := Extern.BytealgIndexByte.indexByte) (by kernel_rfl) (by kernel_rfl) (by kernel_rfl) (by kernel_rfl) (by kernel_rfl) (exIndexByte_run h)
theorem e171 {vs : List Value} {y : Value} {w : World} (h : exCompare vs = some y) : (callFunc 171 vs.toArray).run Go.Proofs.Tryz.prog w = .ok (.value y) w :=
  extern_run (fn := Go.Proofs.Tryz.f171) (e := Extern.BytealgCompare.compare) (by kernel_rfl) (by kernel_rfl) (by kernel_rfl) (by kernel_rfl) (by kernel_rfl) (exCompare_run h)

theorem exT_ok {f : FuncId} {e : List Value → Option Value} {vs : List Value} {y : Value} {w : World} (he : exT [(285, exIndexByte), (171, exCompare)] f = some e) (hv : e vs = some y) : (callFunc f vs.toArray).run Go.Proofs.Tryz.prog w = .ok (.value y) w := by
  simp only [exT] at he
  split at he
  · rename_i hb; cases he; have := Nat.eq_of_beq_eq_true hb; subst this; exact e285 hv
  · split at he
    · rename_i hb; cases he; have := Nat.eq_of_beq_eq_true hb; subst this; exact e171 hv
    · cases he
theorem eok0 : EOK cfg0 := fun f e vs y w he hv => exT_ok he hv
theorem eok : EOK cfg := fun f e vs y w he hv => exT_ok he hv
theorem x0 : XOK cfg0 := XOK.none (fun _ => rfl) eok0
/-- As cfg0, but Clone too is framed. -/
noncomputable def cfgF : Cfg := { cfg0 with F := fun f => Nat.beq f 14 || !memN wildF f }
theorem xF : XOK cfgF := XOK.none (fun _ => rfl) (fun f e vs y w he hv => exT_ok he hv)

theorem lw0 (n : Nat) : LwOK cfg0 (lower cfg0 n) := lower_ok (C := cfg0) names x0 mixed n
theorem lwF (n : Nat) : LwOK cfgF (lower cfgF n) := lower_ok (C := cfgF) names xF mixed n

theorem nilF (S : AS) : (lower cfgF 61).call 14 [.v (.slice none 0 0)] S = some (.v (.slice none 0 0), S) := by kernel_rfl
theorem emptyF (S : AS) : (lower cfgF 61).call 14 [.lst .unk []] S = some (.lst .unk [], S) := by kernel_rfl

theorem any_of_unk {E : Env} {w : World} {z : Value} (h : VR E w (.lst .unk []) z) : VR E w (.lst .any []) z := by
  rcases h.lst_inv with ⟨_, a, rfl, _⟩ | ⟨g, b, cap, sz, rfl, q1, q2, q3, q4, q5, _⟩
  · exact ⟨1, .inl ⟨rfl, a, rfl, .inl rfl⟩⟩
  · exact VR.lst q1 q2 q3 q4 q5 trivial
theorem any_of_nil {E : Env} {w : World} {z : Value} (h : VR E w (.v (.slice none 0 0)) z) : VR E w (.lst .any []) z := by
  obtain ⟨_, rfl⟩ := h.flat_inv
  exact ⟨1, .inl ⟨rfl, none, rfl, .inl rfl⟩⟩

theorem Post.weak {B0 : Nat} {w0 : World} {E : Env} {w : World} {S S' : AS} {x x' : AV} (h : ∀ (E' : Env) (w' : World) (z : Value), VR E' w' x z → VR E' w' x' z) {e : Ending} {w1 : World} (hp : Post B0 w0 E w S S' x e w1) : Post B0 w0 E w S S' x' e w1 := by
  cases e with
  | returned y => obtain ⟨E', h1, h2, h3⟩ := hp; exact ⟨E', h1, h2, h _ _ _ h3⟩
  | panicked c => exact hp
  | outgrown => exact hp

theorem con14 : ConOK cfg.P 14 g14 where
  low := by
    intro args S x S' h
    unfold g14 at h
    split at h
    · cases h; exact Low.refl _
    · exact (lw0 61).low h
  ent := by
    intro args S x S' h
    unfold g14 at h
    split at h
    · exact (lwF 61).ent (nilF S)
    · exact (lw0 61).ent h
  call := by
    intro args S x S' B0 w0 w E ys h hs hp
    unfold g14 at h
    split at h
    · cases h
      obtain ⟨y, rfl⟩ : ∃ y, ys = [y] := by
        have := hp.1
        match ys, this with
        | [y], _ => exact ⟨y, rfl⟩
      have hy := hp.2 0 _ _ rfl rfl
      by_cases hn : y = .slice none 0 0
      · subst hn
        have := (lwF 61).call (nilF S) hs (ys := [.slice none 0 0]) ⟨rfl, fun i a b ha hb => by
          match i, ha, hb with
          | 0, ha, hb => cases ha; cases hb; exact VR.of_flat rfl⟩
        exact this.mono fun e w1 he => Post.weak (fun _ _ _ => any_of_nil) he
      · have hu : VR E w (.lst .unk []) y := by
          rcases hy.lst_inv with ⟨_, a, rfl, _⟩ | ⟨g, b, cap, sz, rfl, q1, q2, q3, q4, q5, _⟩
          · cases a with
            | none => exact absurd rfl hn
            | some a => exact ⟨1, .inl ⟨rfl, some a, rfl, .inr ⟨rfl, rfl⟩⟩⟩
          · exact VR.lst q1 q2 q3 q4 q5 trivial
        have := (lwF 61).call (emptyF S) hs (ys := [y]) ⟨rfl, fun i a b ha hb => by
          match i, ha, hb with
          | 0, ha, hb => cases ha; cases hb; exact hu⟩
        exact this.mono fun e w1 he => Post.weak (fun _ _ _ => any_of_unk) he
    · exact (lw0 61).call h hs hp

theorem digOf_some {a : AV} {i : Nat} (h : digOf a = some i) : a = dig i ∧ i < 4 := by
  unfold digOf at h
  split at h
  · rename_i b
    cases hc : (Nat.ble 48 b.toNat && Nat.blt b.toNat 52) with
    | false => rw [hc] at h; cases h
    | true =>
      rw [hc] at h
      simp only [Bool.and_eq_true, Nat.blt_eq] at hc
      have h1 := Nat.le_of_ble_eq_true hc.1
      have h2 := hc.2
      simp only [cond_true, Option.some.injEq] at h
      subst h
      refine ⟨?_, by omega⟩
      have : (48 + (b.toNat - 48)).toUInt8 = b := by
        rw [show 48 + (b.toNat - 48) = b.toNat by omega]
        exact UInt8.ofNat_toNat
      unfold dig
      rw [this]
  · cases h
theorem con118 : ConOK cfg.P 118 g118 := ConOK.of_lw (C0 := cfg0) (lw0 60) fun args S q h => by
  unfold g118 at h
  split at h
  · rename_i a b
    split at h
    · rename_i i j hi hj
      obtain ⟨rfl, h1⟩ := digOf_some hi
      obtain ⟨rfl, h2⟩ := digOf_some hj
      rw [← h]
      match i, h1, j, h2 with
      | 0, _, 0, _ => exact k00 S
      | 0, _, 1, _ => exact k01 S
      | 0, _, 2, _ => exact k02 S
      | 0, _, 3, _ => exact k03 S
      | 1, _, 0, _ => exact k10 S
      | 1, _, 1, _ => exact k11 S
      | 1, _, 2, _ => exact k12 S
      | 1, _, 3, _ => exact k13 S
      | 2, _, 0, _ => exact k20 S
      | 2, _, 1, _ => exact k21 S
      | 2, _, 2, _ => exact k22 S
      | 2, _, 3, _ => exact k23 S
      | 3, _, 0, _ => exact k30 S
      | 3, _, 1, _ => exact k31 S
      | 3, _, 2, _ => exact k32 S
      | 3, _, 3, _ => exact k33 S
    · exact h
  · cases h

theorem xok : XOK cfg := XOK.ofT (t := [(14, g14), (118, g118)]) eok rfl (by
  intro p hp
  rcases List.mem_cons.1 hp with rfl | hp
  · exact con14
  · rcases List.mem_cons.1 hp with rfl | hp
    · exact con118
    · cases hp)
end Go.Proofs.YtamemdhmjglifaaGreatDoor

/- Chapter 12: the tables hold. -/
namespace Go.Proofs.YtamemdhmjglifaaGreatDoor
open Go.RowKit Go.AM
set_option maxRecDepth 100000
theorem okA (f : Nat) : ConOK Go.Proofs.Tryz.prog f (weakCall cfg f) := weakCall_ok names xok mixed f
theorem xA : XOK cA := XOK.ofT (t := [(14, g14), (118, g118), (107, weakCall cfg 107), (91, weakCall cfg 91), (92, weakCall cfg 92), (106, weakCall cfg 106), (115, weakCall cfg 115), (24, weakCall cfg 24), (84, weakCall cfg 84)]) (fun f e vs y w he hv => exT_ok he hv) rfl (by
  intro p hp
  simp only [List.mem_cons, List.not_mem_nil, or_false] at hp
  rcases hp with rfl | rfl | rfl | rfl | rfl | rfl | rfl | rfl | rfl
  · exact con14
  · exact con118
  all_goals exact okA _)
theorem okB (f : Nat) : ConOK Go.Proofs.Tryz.prog f (weakCall cA f) := weakCall_ok (C := cA) names xA mixed f
theorem xL : XOK cL := XOK.ofT (t := [(13, weakCall cfg 13), (63, weakCall cfg 63), (48, weakCall cA 48), (49, weakCall cA 49), (52, weakCall cA 52), (46, weakCall cA 46), (57, weakCall cA 57), (54, weakCall cA 54), (65, weakCall cA 65), (22, weakCall cA 22), (24, weakCall cfg 24), (19, weakCall cfg 19), (37, weakCall cfg 37)]) (fun f e vs y w he hv => exT_ok he hv) rfl (by
  intro p hp
  simp only [List.mem_cons, List.not_mem_nil, or_false] at hp
  rcases hp with rfl | rfl | rfl | rfl | rfl | rfl | rfl | rfl | rfl | rfl | rfl | rfl | rfl
  · exact okA _
  · exact okA _
  · exact okB _
  · exact okB _
  · exact okB _
  · exact okB _
  · exact okB _
  · exact okB _
  · exact okB _
  · exact okB _
  · exact okA _
  · exact okA _
  · exact okA _)
end Go.Proofs.YtamemdhmjglifaaGreatDoor

/- Chapter 12: the tables for sorting hold. -/
namespace Go.Proofs.YtamemdhmjglifaaGreatDoor
open Go.RowKit Go.AM
set_option maxRecDepth 100000
theorem dwOf_some {a : AV} {i : Nat} (h : dwOf a = some i) : a = (dW i).av ∧ i < 4 := by
  unfold dwOf at h
  split at h
  · rename_i b
    cases hc : (Nat.ble 48 b.toNat && Nat.blt b.toNat 52) with
    | false => rw [hc] at h; cases h
    | true =>
      rw [hc] at h
      simp only [Bool.and_eq_true, Nat.blt_eq] at hc
      have h1 := Nat.le_of_ble_eq_true hc.1
      have h2 := hc.2
      simp only [cond_true, Option.some.injEq] at h
      subst h
      refine ⟨?_, by omega⟩
      have : (48 + (b.toNat - 48)).toUInt8 = b := by
        rw [show 48 + (b.toNat - 48) = b.toNat by omega]
        exact UInt8.ofNat_toNat
      unfold dW
      rw [this]
      rfl
  · cases h
theorem con118W : ConOK cfg.P 118 g118W := ConOK.of_lw (C0 := cfg0) (lw0 60) fun args S q h => by
  unfold g118W at h
  split at h
  · rename_i a b
    split at h
    · rename_i i j hi hj
      obtain ⟨rfl, h1⟩ := dwOf_some hi
      obtain ⟨rfl, h2⟩ := dwOf_some hj
      rw [← h]
      match i, h1, j, h2 with
      | 0, _, 0, _ => exact w00 S
      | 0, _, 1, _ => exact w01 S
      | 0, _, 2, _ => exact w02 S
      | 0, _, 3, _ => exact w03 S
      | 1, _, 0, _ => exact w10 S
      | 1, _, 1, _ => exact w11 S
      | 1, _, 2, _ => exact w12 S
      | 1, _, 3, _ => exact w13 S
      | 2, _, 0, _ => exact w20 S
      | 2, _, 1, _ => exact w21 S
      | 2, _, 2, _ => exact w22 S
      | 2, _, 3, _ => exact w23 S
      | 3, _, 0, _ => exact w30 S
      | 3, _, 1, _ => exact w31 S
      | 3, _, 2, _ => exact w32 S
      | 3, _, 3, _ => exact w33 S
    · exact h
  · cases h
theorem xM : XOK cM := XOK.ofT (t := [(118, g118W), (91, weakCall cfg 91), (84, weakCall cfg 84), (63, weakCall cfg 63), (112, weakCall cfg 112), (24, weakCall cfg 24)]) (fun f e vs y w he hv => exT_ok he hv) rfl (by
  intro p hp
  simp only [List.mem_cons, List.not_mem_nil, or_false] at hp
  rcases hp with rfl | rfl | rfl | rfl | rfl | rfl
  · exact con118W
  · exact okA _
  · exact okA _
  · exact okA _
  · exact okA _
  · exact okA _)
theorem okM (f : Nat) : ConOK Go.Proofs.Tryz.prog f (weakCall cM f) := weakCall_ok (C := cM) names xM mixed f
theorem xN : XOK cN := XOK.ofT (t := [(118, g118W), (91, weakCall cfg 91), (84, weakCall cfg 84), (112, weakCall cfg 112), (80, weakCall cM 80), (111, weakCall cM 111)]) (fun f e vs y w he hv => exT_ok he hv) rfl (by
  intro p hp
  simp only [List.mem_cons, List.not_mem_nil, or_false] at hp
  rcases hp with rfl | rfl | rfl | rfl | rfl | rfl
  · exact con118W
  · exact okA _
  · exact okA _
  · exact okA _
  · exact okM _
  · exact okM _)
theorem okN (f : Nat) : ConOK Go.Proofs.Tryz.prog f (weakCall cN f) := weakCall_ok (C := cN) names xN mixed f
theorem xO : XOK cO := XOK.ofT (t := [(75, weakCall cN 75), (73, weakCall cN 73), (74, weakCall cM 74), (80, weakCall cM 80)]) (fun f e vs y w he hv => exT_ok he hv) rfl (by
  intro p hp
  simp only [List.mem_cons, List.not_mem_nil, or_false] at hp
  rcases hp with rfl | rfl | rfl | rfl
  · exact okN _
  · exact okN _
  · exact okM _
  · exact okM _)
theorem okO (f : Nat) : ConOK Go.Proofs.Tryz.prog f (weakCall cO f) := weakCall_ok (C := cO) names xO mixed f
theorem xP : XOK cP := XOK.ofT (t := [(13, weakCall cfg 13), (21, weakCall cfg 21), (20, weakCall cM 20), (15, weakCall cO 15), (17, weakCall cO 17), (19, weakCall cfg 19), (22, weakCall cA 22)]) (fun f e vs y w he hv => exT_ok he hv) rfl (by
  intro p hp
  simp only [List.mem_cons, List.not_mem_nil, or_false] at hp
  rcases hp with rfl | rfl | rfl | rfl | rfl | rfl | rfl
  · exact okA _
  · exact okA _
  · exact okM _
  · exact okO _
  · exact okO _
  · exact okA _
  · exact okB _)
end Go.Proofs.YtamemdhmjglifaaGreatDoor
