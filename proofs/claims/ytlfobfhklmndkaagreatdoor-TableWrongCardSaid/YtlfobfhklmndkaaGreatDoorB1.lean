/- The abstract machine: more fuel does no harm. -/
import Derived.Test.YtlfobfhklmndkaaGreatDoorA21
namespace Go.AM
open Go.RowKit

variable {C : Cfg} {L L' : Lw}

structure LwLe (L L' : Lw) : Prop where
  call : ∀ {f : FuncId} {args : List AV} {S : AS} {r : AV × AS}, L.call f args S = some r → L'.call f args S = some r
  yield : ∀ {o : Nat} {args : List AV} {S : AS} {r : AV × AS}, L.yield o args S = some r → L'.yield o args S = some r

theorem adoOp_mono (h : LwLe L L') {mu : Bool} {o : Oper} {ρ : Operand → AV} {S : AS} {r : AV × AS} (hr : adoOp C L mu o ρ S = some r) : adoOp C L' mu o ρ S = some r := by
  unfold adoOp at hr ⊢
  split at hr
  · rename_i c ho
    unfold acallOp at hr ⊢
    split at hr
    · exact hr
    · split at hr
      · split at hr
        · exact hr
        · exact h.call hr
      · exact h.yield hr
      · cases hr
    · cases hr
  · exact hr

theorem astep_mono (h : LwLe L L') {mu : Bool} {ops : Array Oper} {o : Oper} {l : List AV} {S : AS} {r : AV × AS} (hr : astep C L mu ops o l S = some r) : astep C L' mu ops o l S = some r := by
  unfold astep at hr ⊢
  split at hr
  · exact adoOp_mono h hr
  · exact hr
  · cases hr

theorem aOps_mono (h : LwLe L L') {mu : Bool} {ops : Array Oper} : ∀ (os : List Oper) {l : List AV} {S : AS} {r : List AV × AS}, aOps C L mu ops os l S = some r → aOps C L' mu ops os l S = some r
  | [], _, _, _, hr => hr
  | o :: os, l, S, r, hr => by
    simp only [aOps] at hr ⊢
    split at hr
    · rename_i h1; rw [astep_mono h h1]; exact aOps_mono h os hr
    · cases hr

theorem atag_mono (h : LwLe L L') {mu : Bool} {ops : Array Oper} {o : Oper} {l : List AV} {S : AS} {r : AV × AS × Tag} (hr : atag C L mu ops o l S = some r) : atag C L' mu ops o l S = some r := by
  unfold atag at hr ⊢
  split at hr
  · rename_i h1; rw [astep_mono h h1]; exact hr
  · cases hr

theorem aTags_mono (h : LwLe L L') {mu : Bool} {ops : Array Oper} : ∀ (os : List Oper) {l : List AV} {S : AS} {r : List AV × AS × List Tag}, aTags C L mu ops os l S = some r → aTags C L' mu ops os l S = some r
  | [], _, _, _, hr => hr
  | o :: os, l, S, r, hr => by
    simp only [aTags] at hr ⊢
    split at hr
    · rename_i h1
      rw [atag_mono h h1]
      dsimp only
      split at hr
      · rename_i h2; rw [aTags_mono h os h2]; exact hr
      · cases hr
    · cases hr

theorem aDraw_mono (h : LwLe L L') {mu : Bool} {ops : Array Oper} {l : List AV} {S : AS} {r : List AV × AS} (hr : aDraw C L mu ops l S = some r) : aDraw C L' mu ops l S = some r := by
  unfold aDraw at hr ⊢
  split at hr
  · unfold aDraw2 at hr ⊢
    split at hr
    · split at hr
      · rename_i h1; rw [aTags_mono h _ h1]; exact hr
      · cases hr
    · cases hr
  · unfold aDraw1 at hr ⊢
    split at hr
    · rename_i h1; rw [aTags_mono h _ h1]; exact hr
    · cases hr

theorem aloop_mono {f g : AAct → AS → Option (Exit × AAct × AS)} (h : ∀ {a S r}, f a S = some r → g a S = some r) : ∀ (k k' : Nat), k ≤ k' → ∀ {a S r}, aloop f k a S = some r → aloop g k' a S = some r
  | 0, _, _, _, _, _, hr => by cases hr
  | k + 1, 0, hk, _, _, _, _ => by omega
  | k + 1, k' + 1, hk, a, S, r, hr => by
    simp only [aloop] at hr ⊢
    split at hr
    · rename_i h1; rw [h h1]; exact aloop_mono h k k' (by omega) hr
    · rename_i hne
      rw [h hr]
      obtain ⟨e, a', S'⟩ := r
      cases e with
      | normal => exact absurd hr (hne _ _)
      | _ => rfl

theorem aBody_mono {hf : FuncId} {c : Code} {n0 : Nat} {f g : AAct → AS → Option (Exit × AAct × AS)} (h : ∀ {a S r}, f a S = some r → g a S = some r) {a : AAct} {S : AS} {r : Exit × AAct × AS} (hr : aBody C hf c n0 f a S = some r) : aBody C hf c n0 g a S = some r := by
  unfold aBody at hr ⊢
  split at hr
  · rename_i h1; rw [h h1]; exact hr
  · rename_i hne
    rw [h hr]
    obtain ⟨e, a', S'⟩ := r
    cases e with
    | normal => exact absurd hr (hne _ _)
    | _ => rfl

theorem arange_mono (h : LwLe L L') {f : FuncId} {args : List AV} {l : Nat} {a : AAct} {S : AS} {r : Exit × AAct × AS} (hr : arange L f args l a S = some r) : arange L' f args l a S = some r := by
  unfold arange at hr ⊢
  split at hr
  · rename_i h1; rw [h.call h1]; exact hr
  · cases hr

theorem aC_mono (h : LwLe L L') {k k' : Nat} (hk : k ≤ k') {hf : FuncId} {rd : Option Nat} : ∀ (c : Code) {a : AAct} {S : AS} {r : Exit × AAct × AS}, aC C L k hf rd c a S = some r → aC C L' k' hf rd c a S = some r := by
  intro c
  induction c with
  | seq x y ihx ihy =>
    intro a S r hr
    simp only [aC] at hr ⊢
    split at hr
    · rename_i h1; rw [ihx h1]; exact ihy hr
    · rename_i hne
      rw [ihx hr]
      obtain ⟨e, a', S'⟩ := r
      cases e with
      | normal => exact absurd hr (hne _ _)
      | _ => rfl
  | cond c x y ihx ihy =>
    intro a S r hr
    simp only [aC] at hr ⊢
    split at hr
    · exact ihx hr
    · exact ihy hr
    · cases hr
  | block id c ih =>
    intro a S r hr
    simp only [aC] at hr ⊢
    split at hr
    · rename_i h1; rw [ih h1]; exact hr
    · rename_i hne
      rw [ih hr]
      obtain ⟨e, a', S'⟩ := r
      cases e with
      | exit i => exact absurd hr (hne _ _ _)
      | _ => rfl
  | loop c ih => intro a S r hr; simp only [aC] at hr ⊢; exact aloop_mono (fun h => aBody_mono ih h) k k' hk hr
  | region id ops d =>
    intro a S r hr
    cases d with
    | false =>
      simp only [aC] at hr ⊢
      split at hr
      · rename_i h1; rw [aOps_mono h _ h1]; exact hr
      · cases hr
    | true =>
      simp only [aC] at hr ⊢
      split at hr
      · rename_i h1; rw [aDraw_mono h h1]; exact hr
      · cases hr
  | rangeFunc g ps asg body _ _ =>
    intro a S r hr
    simp only [aC] at hr ⊢
    split at hr
    · cases rd with
      | none => dsimp only at hr ⊢; exact arange_mono h hr
      | some o =>
        dsimp only at hr ⊢
        split at hr
        · exact arange_mono h hr
        · cases hr
    · cases hr
  | _ => intro a S r hr; first | exact hr | (simp [aC] at hr)

theorem acallF_mono (h : LwLe L L') {k k' : Nat} (hk : k ≤ k') {f : FuncId} {args : List AV} {S : AS} {r : AV × AS} (hr : acallF C L k f args S = some r) : acallF C L' k' f args S = some r := by
  unfold acallF at hr ⊢
  split at hr
  · rename_i fn hf
    split at hr
    · rename_i c hb
      split at hr
      · rename_i h1; rw [aC_mono h hk _ h1]; exact hr
      · rename_i h1; rw [aC_mono h hk _ h1]; exact hr
      · cases hr
    · cases hr
  · cases hr

theorem acallX_mono (h : LwLe L L') {k k' : Nat} (hk : k ≤ k') {f : FuncId} {args : List AV} {S : AS} {r : AV × AS} (hr : acallX C L k f args S = some r) : acallX C L' k' f args S = some r := by
  unfold acallX at hr ⊢
  split at hr
  · split at hr
    · split at hr
      · rename_i h1; rw [acallF_mono h hk h1]; exact hr
      · cases hr
    · split at hr
      · split at hr
        · rename_i h1; rw [acallF_mono h hk h1]; exact hr
        · cases hr
      · cases hr
  · exact acallF_mono h hk hr

theorem ayieldF_mono (h : LwLe L L') {k k' : Nat} (hk : k ≤ k') {o : Nat} {args : List AV} {S : AS} {r : AV × AS} (hr : ayieldF C L k o args S = some r) : ayieldF C L' k' o args S = some r := by
  unfold ayieldF at hr ⊢
  split at hr
  · rename_i r0 h0
    split at hr
    · rename_i h1
      rw [if_pos h1]
      split at hr
      · rename_i h2
        rw [aC_mono h hk _ h2]
        dsimp only
        split at hr
        · rename_i r1 h3
          split at hr
          · rename_i h4
            split at hr
            · rename_i h5; rw [aC_mono h hk _ h5]; exact hr
            · cases hr
          · cases hr
        · cases hr
      · cases hr
    · cases hr
  · cases hr

theorem lower_mono (C : Cfg) : ∀ n, LwLe (lower C n) (lower C (n + 1))
  | 0 => ⟨fun h => (by cases h), fun h => (by cases h)⟩
  | n + 1 => by
    have ih := lower_mono C n
    refine ⟨fun {f args S r} h => ?_, fun h => ayieldF_mono ih (by omega) h⟩
    simp only [lower] at h ⊢
    split at h
    · exact h
    · exact acallX_mono ih (by omega) h

theorem lower_le (C : Cfg) {n m : Nat} (h : n ≤ m) : LwLe (lower C n) (lower C m) := by
  induction h with
  | refl => exact ⟨fun h => h, fun h => h⟩
  | step _ ih => exact ⟨fun h => (lower_mono C _).call (ih.call h), fun h => (lower_mono C _).yield (ih.yield h)⟩

/-- From some fuel on. -/
def Evt (p : Nat → Prop) : Prop := ∃ N, ∀ n, N ≤ n → p n
theorem Evt.of {p : Nat → Prop} (h : ∀ n, p n) : Evt p := ⟨0, fun n _ => h n⟩
theorem Evt.mono {p q : Nat → Prop} (h : Evt p) (k : ∀ n, p n → q n) : Evt q := let ⟨N, hN⟩ := h; ⟨N, fun n hn => k n (hN n hn)⟩
theorem Evt.and {p q : Nat → Prop} (h : Evt p) (k : Evt q) : Evt fun n => p n ∧ q n :=
  let ⟨N, hN⟩ := h; let ⟨M, hM⟩ := k; ⟨max N M, fun n hn => ⟨hN n (by omega), hM n (by omega)⟩⟩
theorem Evt.pred {p : Nat → Prop} (h : Evt fun n => p (n + 1)) : Evt p := let ⟨N, hN⟩ := h; ⟨N + 1, fun n hn => by obtain ⟨m, rfl⟩ : ∃ m, n = m + 1 := ⟨n - 1, by omega⟩; exact hN m (by omega)⟩
theorem Evt.succ {p : Nat → Prop} (h : Evt p) : Evt fun n => p (n + 1) := let ⟨N, hN⟩ := h; ⟨N, fun n hn => hN (n + 1) (by omega)⟩
theorem Evt.all {p : Nat → Nat → Prop} : ∀ (m : Nat), (∀ i, i < m → Evt (p i)) → Evt fun n => ∀ i, i < m → p i n
  | 0, _ => ⟨0, fun n _ i hi => absurd hi (Nat.not_lt_zero i)⟩
  | m + 1, h => by
    obtain ⟨N, hN⟩ := Evt.all m (fun i hi => h i (by omega))
    obtain ⟨M, hM⟩ := h m (by omega)
    refine ⟨max N M, fun n hn i hi => ?_⟩
    by_cases e : i = m
    · subst e; exact hM n (by omega)
    · exact hN n (by omega) i (by omega)
theorem Evt.big (N : Nat) : Evt fun n => N ≤ n := ⟨N, fun _ h => h⟩
theorem Evt.mem {α : Type} {p : α → Nat → Prop} : ∀ (l : List α), (∀ x, x ∈ l → Evt (p x)) → Evt fun n => ∀ x, x ∈ l → p x n
  | [], _ => ⟨0, fun n _ x hx => by cases hx⟩
  | a :: l, h => by
    obtain ⟨N, hN⟩ := Evt.mem l (fun x hx => h x (List.mem_cons_of_mem _ hx))
    obtain ⟨M, hM⟩ := h a (List.mem_cons_self ..)
    refine ⟨max N M, fun n hn x hx => ?_⟩
    rcases List.mem_cons.1 hx with rfl | hx
    · exact hM n (by omega)
    · exact hN n (by omega) x hx

/-- A contract: in any store, whatever the fuel, if only enough. -/
def Fr (C : Cfg) (f : FuncId) (args : List AV) (x : AV) : Prop := Evt fun n => ∀ S, (lower C n).call f args S = some (x, S)

theorem Fr.of_one {f : FuncId} {args : List AV} {x : AV} {n : Nat} (h : ∀ S, (lower C n).call f args S = some (x, S)) : Fr C f args x :=
  ⟨n, fun _ hm S => (lower_le C hm).call (h S)⟩

end Go.AM
