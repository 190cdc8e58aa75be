/- Chapter 17: the contracts hold. -/
import Derived.Test.YtlfobfhklmndkaaGreatDoorG0
import Derived.Test.YtlfobfhklmndkaaGreatDoorA21
import Derived.Test.YtlfobfhklmndkaaGreatDoorG1
import Derived.Test.YtlfobfhklmndkaaGreatDoorG2
import Derived.Test.YtlfobfhklmndkaaGreatDoorG3
namespace Go.Proofs.YtlfobfhklmndkaaGreatDoor
open Go.RowKit Go.AM
set_option maxRecDepth 100000
theorem e213 {vs : List Value} {y : Value} {w : World} (h : exIndexByte vs = some y) : (callFunc 213 vs.toArray).run Go.Proofs.Tryz.prog w = .ok (.value y) w :=
  extern_run (fn := Go.Proofs.Tryz.f213) (e := Extern.BytealgIndexByte.indexByte) (by kernel_rfl) (by kernel_rfl) (by kernel_rfl) (by kernel_rfl) (by kernel_rfl) (exIndexByte_run h)
theorem exT_ok {f : FuncId} {e : List Value → Option Value} {vs : List Value} {y : Value} {w : World} (he : exT [(213, exIndexByte)] f = some e) (hv : e vs = some y) : (callFunc f vs.toArray).run Go.Proofs.Tryz.prog w = .ok (.value y) w := by
  simp only [exT] at he
  split at he
  · rename_i hb; cases he; have := Nat.eq_of_beq_eq_true hb; subst this; exact e213 hv
  · cases he
theorem x0 : XOK cfg0 := XOK.none (fun _ => rfl) (fun f e vs y w he hv => exT_ok he hv)
theorem lw0 (n : Nat) : LwOK cfg0 (lower cfg0 n) := lower_ok (C := cfg0) names x0 mixed n
theorem ba_nil {t : ByteArray} {l : List UInt8} (h : (t.toList == l) = true) : t = ⟨⟨l⟩⟩ := by
  have h1 : t.toList = l := by simpa using h
  refine ba_list ?_
  rw [h1]
  have key : ∀ l : List UInt8, (ByteArray.mk ⟨l⟩).toList = l := by
    intro l
    simp
  exact (key l).symm
theorem isN_some {k : Int} {l : List UInt8} {a : AV} (h : isN k l a = true) : a = nF k l := by
  unfold isN at h
  split at h
  · rename_i i t hh
    simp only [Bool.and_eq_true] at h
    obtain ⟨h1, h2, h3⟩ := h
    have e1 : i = k := by simpa using h1
    have e2 := ba_nil h2
    have e3 := ba_nil h3
    subst e1
    rw [e2, e3]
    rfl
  · cases h
theorem con78 : ConOK cfg0.P 78 g78 := ConOK.of_lw (C0 := cfg0) (lw0 60) fun args S q h => by
  unfold g78 at h
  split at h
  · rename_i a
    split at h
    · rename_i hb
      cases h
      simp only [Bool.or_eq_true] at hb
      rcases hb with hb | hb
      · rw [isN_some hb]; exact n78s S
      · rw [isN_some hb]; exact n78i S
    · exact h
  · cases h
theorem con99 : ConOK cfg0.P 99 g99 := ConOK.of_lw (C0 := cfg0) (lw0 60) fun args S q h => by
  unfold g99 at h
  split at h
  · rename_i a b
    split at h
    · rename_i hb
      cases h
      simp only [Bool.and_eq_true] at hb
      rw [isN_some hb.1, isN_some hb.2]; exact n99 S
    · exact h
  · cases h
theorem con100 : ConOK cfg0.P 100 g100 := ConOK.of_lw (C0 := cfg0) (lw0 60) fun args S q h => by
  unfold g100 at h
  split at h
  · rename_i a b
    split at h
    · rename_i hb
      cases h
      simp only [Bool.and_eq_true] at hb
      rw [isN_some hb.1, isN_some hb.2]; exact n100 S
    · exact h
  · cases h
theorem xcfg : XOK cfg := XOK.ofT (t := [(78, g78), (99, g99), (100, g100)]) (fun f e vs y w he hv => exT_ok he hv) rfl (by
  intro p hp
  simp only [List.mem_cons, List.not_mem_nil, or_false] at hp
  rcases hp with rfl | rfl | rfl
  · exact con78
  · exact con99
  · exact con100)
end Go.Proofs.YtlfobfhklmndkaaGreatDoor
