/- The abstract machine, seventh text: the operations' laws: elements, slices, maps, comparisons. -/
import Derived.Test.YtlfobfhklmndkaaGreatDoorA5
namespace Go.AM
open Go.RowKit Go.MapKept

variable {B0 : Nat} {w0 w : World} {E : Env} {S S' : AS} {P : Program}

theorem aintOf_some {x : AV} {n : Int} {y : Value} (h : aintOf x = some n) (hv : VR E w x y) : ∃ k, y = .int k n := by
  cases x with
  | v a => cases a <;> simp [aintOf] at h; obtain ⟨_, rfl⟩ := hv.flat_inv; subst h; exact ⟨_, rfl⟩
  | _ => simp [aintOf] at h

theorem flat_row : ∀ (rows : List (List AV)) (sz : Nat), (∀ r ∈ rows, r.length = sz) → ∀ (i : Nat) (r : List AV), rows[i]? = some r → ∀ (k : Nat) (x : AV), r[k]? = some x → rows.flatten[i * sz + k]? = some x
  | [], _, _, i, r, hr, _, _, _ => by simp at hr
  | r0 :: rows, sz, h, 0, r, hr, k, x, hx => by
    simp at hr; subst hr
    have hk : k < r0.length := (List.getElem?_eq_some_iff.1 hx).1
    simp [List.getElem?_append_left hk, hx]
  | r0 :: rows, sz, h, i + 1, r, hr, k, x, hx => by
    have h0 : r0.length = sz := h r0 (by simp)
    have := flat_row rows sz (fun r hr => h r (by simp [hr])) i r (by simpa using hr) k x hx
    rw [List.flatten_cons, List.getElem?_append_right (by rw [h0, Nat.add_mul]; omega), h0, ← this]
    congr 1
    rw [Nat.add_mul]; omega

theorem flat_len : ∀ (rows : List (List AV)) (sz : Nat), (∀ r ∈ rows, r.length = sz) → rows.flatten.length = rows.length * sz
  | [], _, _ => by simp
  | r0 :: rows, sz, h => by
    rw [List.flatten_cons, List.length_append, h r0 (by simp), flat_len rows sz (fun r hr => h r (by simp [hr])), List.length_cons, Nat.add_mul]; omega

theorem flat_take : ∀ (rows : List (List AV)) (sz : Nat), (∀ r ∈ rows, r.length = sz) → ∀ n, (rows.take n).flatten = rows.flatten.take (n * sz)
  | [], _, _, n => by simp
  | r0 :: rows, sz, h, 0 => by simp
  | r0 :: rows, sz, h, n + 1 => by
    have h0 : r0.length = sz := h r0 (by simp)
    rw [List.take_succ_cons, List.flatten_cons, List.flatten_cons, flat_take rows sz (fun r hr => h r (by simp [hr])) n, List.take_append, h0, Nat.add_mul, List.take_of_length_le (l := r0) (by omega), show n * sz + 1 * sz - sz = n * sz by omega]

theorem flat_drop : ∀ (rows : List (List AV)) (sz : Nat), (∀ r ∈ rows, r.length = sz) → ∀ n, (rows.drop n).flatten = rows.flatten.drop (n * sz)
  | [], _, _, n => by simp
  | r0 :: rows, sz, h, 0 => by simp
  | r0 :: rows, sz, h, n + 1 => by
    have h0 : r0.length = sz := h r0 (by simp)
    rw [List.drop_succ_cons, List.flatten_cons, flat_drop rows sz (fun r hr => h r (by simp [hr])) n, List.drop_append, h0, Nat.add_mul, List.drop_of_length_le (l := r0) (by omega), show n * sz + 1 * sz - sz = n * sz by omega, List.nil_append]

theorem Row.sub {R : AV → Value → Prop} {l : List AV} {g b : Nat} (h : Row E w R l g b) (o n : Nat) : Row E w R ((l.drop o).take n) g (b + o) := fun m x hx => by
  rw [List.getElem?_take] at hx
  split at hx
  · rw [List.getElem?_drop] at hx
    have := h (o + m) x hx
    rwa [← Nat.add_assoc] at this
  · cases hx

theorem Row.elem {R : AV → Value → Prop} {rows : List (List AV)} {sz g b i : Nat} {r : List AV} (h : Row E w R rows.flatten g b) (hs : ∀ r ∈ rows, r.length = sz) (hr : rows[i]? = some r) : Row E w R r g (b + i * sz) := fun m x hx => by
  have := h (i * sz + m) x (flat_row rows sz hs i r hr m x hx)
  rwa [← Nat.add_assoc] at this

theorem indexAddr_sound {t : TypeId} {a i x : AV} {a' i' : Value} (ha : VR E w a a') (hi : VR E w i i') (hx : aindexAddr P t a i = some x) : ∃ y, (Instr.indexAt t a' i').run P w = .ok y w ∧ VR E w x y := by
  unfold aindexAddr at hx
  obtain ⟨n, hn, hx1⟩ := Option.bind_eq_some_iff.1 hx
  clear hx
  obtain ⟨k, rfl⟩ := aintOf_some hn hi
  split at hx1
  · rename_i e c rows hu
    split at hx1
    · rename_i h0
      obtain ⟨r, hr, hx2⟩ := Option.bind_eq_some_iff.1 hx1
      split at hx2
      · rename_i hs
        cases hx2
        rcases ha.lst_inv with ⟨rfl, _⟩ | ⟨g, b, cap, sz, rfl, h1, h2, h3, h4, h5, _⟩
        · simp at hr
        have hlt : n.toNat < rows.length := (List.getElem?_eq_some_iff.1 hr).1
        have hrl : r.length = sz := h4 r (List.mem_of_getElem? hr)
        refine ⟨_, ?_, VR.eptr (off := 0) (h5.elem h4 hr)⟩
        simp [Instr.indexAt, asIntOf, run_underlying hu, run_sizeOf hs, addr_add, hrl, show (0 : Int) ≤ n ∧ n < (rows.length : Int) by omega]
      · cases hx2
    · cases hx1
  · rename_i e o sz off len cap hu
    split at hx1
    · rename_i hc
      cases hx1
      obtain ⟨g, c, hj, rfl, _⟩ := ha.slc_inv
      refine ⟨_, ?_, VR.ptr hj⟩
      simp [Instr.indexAt, asIntOf, run_underlying hu, run_sizeOf hc.2.2, addr_add, hc.1, hc.2.1]
    · cases hx1
  · rename_i ln e o off hu
    obtain ⟨sz, hs, hx2⟩ := Option.bind_eq_some_iff.1 hx1
    split at hx2
    · rename_i hc
      cases hx2
      obtain ⟨g, hj, rfl⟩ := ha.ptr_inv
      refine ⟨_, ?_, VR.ptr hj⟩
      simp [Instr.indexAt, asIntOf, run_underlying hu, run_sizeOf hs, addr_add, hc.1, hc.2, Instr.sureAddr]
    · cases hx2
  · rename_i ln e row off hu
    obtain ⟨sz, hs, hx2⟩ := Option.bind_eq_some_iff.1 hx1
    split at hx2
    · rename_i hc
      cases hx2
      obtain ⟨g, b, rfl, hr⟩ := ha.eptr_inv
      refine ⟨_, ?_, VR.eptr hr⟩
      simp [Instr.indexAt, asIntOf, run_underlying hu, run_sizeOf hs, addr_add, hc.1, hc.2, Instr.sureAddr, Nat.add_assoc]
    · cases hx2
  · cases hx1

/-- What an optional bound says. -/
def bnd (d : Nat) (o : Option AV) : Option Int := match o with | none => some d | some x => aintOf x

def OptR (E : Env) (w : World) (o : Option AV) (o' : Option Value) : Prop :=
  match o, o' with
  | none, none => True
  | some x, some y => VR E w x y
  | _, _ => False

theorem bnd_run {o : Option AV} {o' : Option Value} {d : Nat} {n : Int} {y : Nat} {code : BoundsCode} (ho : OptR E w o o') (hn : bnd d o = some n) (h0 : 0 ≤ n) (h1 : n ≤ y) :
    (match o' with | some v => Instr.sliceBound v y code | none => pure d : Sem Nat).run P w = .ok n.toNat w := by
  cases o with
  | none =>
    cases o' with
    | none => simp [bnd] at hn; subst hn; simp
    | some _ => exact ho.elim
  | some x =>
    cases o' with
    | none => exact ho.elim
    | some v =>
      obtain ⟨k, rfl⟩ := aintOf_some hn ho
      exact run_sliceBound w k n y code h0 h1

theorem bounds_run {lo hi mx : Option AV} {lo' hi' mx' : Option Value} {b : Bool} {len cap : Nat} {l h m : Int} (hlo : OptR E w lo lo') (hhi : OptR E w hi hi') (hmx : OptR E w mx mx')
    (hl : bnd 0 lo = some l) (hh : bnd len hi = some h) (hm : bnd cap mx = some m) (h0 : 0 ≤ l) (h1 : l ≤ h) (h2 : h ≤ m) (h3 : m ≤ cap) (hnone : mx ≠ none → hi ≠ none) :
    (Instr.sliceBounds b len cap lo' hi' mx').run P w = .ok (l.toNat, h.toNat, m.toNat) w := by
  have hlrun : ∀ (c : BoundsCode), (match lo' with | some v => Instr.sliceBound v h.toNat c | none => pure 0 : Sem Nat).run P w = .ok l.toNat w := fun c => bnd_run hlo hl h0 (by omega)
  cases mx with
  | none =>
    cases mx' with
    | some _ => exact hmx.elim
    | none =>
      simp [bnd] at hm; subst hm
      cases hi with
      | none =>
        cases hi' with
        | some _ => exact hhi.elim
        | none =>
          simp [bnd] at hh; subst hh
          have := hlrun .sliceB
          simp only [Int.toNat_natCast] at this
          cases lo' <;> simp_all [Instr.sliceBounds]
      | some x =>
        cases hi' with
        | none => exact hhi.elim
        | some y =>
          obtain ⟨k, rfl⟩ := aintOf_some hh hhi
          have hr := fun c => run_sliceBound (P := P) w k h cap c (by omega) (by omega)
          have := hlrun .sliceB
          cases lo' <;> simp_all [Instr.sliceBounds]
  | some z =>
    cases mx' with
    | none => exact hmx.elim
    | some z' =>
      obtain ⟨km, rfl⟩ := aintOf_some hm hmx
      cases hi with
      | none => exact absurd rfl (hnone (by simp))
      | some x =>
        cases hi' with
        | none => exact hhi.elim
        | some y =>
          obtain ⟨k, rfl⟩ := aintOf_some hh hhi
          have hr := fun c => run_sliceBound (P := P) w km m cap c (by omega) (by omega)
          have hr2 := fun c => run_sliceBound (P := P) w k h m.toNat c (by omega) (by omega)
          have := hlrun .slice3C
          cases lo' <;> simp_all [Instr.sliceBounds]

end Go.AM
