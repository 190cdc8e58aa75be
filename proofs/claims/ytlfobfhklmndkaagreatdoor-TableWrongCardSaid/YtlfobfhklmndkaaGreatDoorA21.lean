/- The abstract machine, twenty-second text: from the evaluator to the machine's own calls. -/
import Derived.Test.YtlfobfhklmndkaaGreatDoorA20
import Derived.RowKit3
namespace Go.AM
open Go.RowKit Go.MapKept

variable {B0 : Nat} {w0 w : World} {E : Env} {S S' : AS} {P : Program} {C : Cfg} {L : Lw}

/-- Nothing is known. -/
def env0 : Env := { j := fun _ => none, fz := fun _ _ => False, tk := fun _ => (0, 0, 0), en := fun _ => 0, cp := fun _ => 0 }

theorem SR.init (w : World) : SR w.heap.size w env0 {} w :=
  { below := Below.refl _ _, base := Nat.le_refl _, obj := fun o ob g h _ => (by simp at h), jlt := fun o g h => (by cases h), inj := fun o o' g h => (by cases h), jb := fun o g h => (by cases h), fzc := fun g k h => h.elim, en := fun t => .inl rfl, tok := fun t h => absurd h (Nat.lt_irrefl 0), tinj := fun t t' h => absurd h (Nat.lt_irrefl 0) }

theorem call_calls (hN : NamesOK C.P) (hX : XOK C) (hm : C.P.follows .mixedOrders = true) {n : Nat} {f : FuncId} {args : List AV} {ys : List Value} {x : Value} (hx : (lower C n).call f args {} = some (.v x, S')) (hp : Pair (VR env0 w) args ys) :
    Calls C.P f ys.toArray w fun e w' => e = .returned x ∧ Below w.heap.size w w' := by
  refine callsIn_wide.1 (CallsIn.mono ((lower_ok hN hX hm n).call hx (SR.init w) hp) fun e w' he => ?_)
  cases e with
  | returned y =>
    obtain ⟨E', h1, _, h3⟩ := he
    obtain ⟨_, rfl⟩ := h3.flat_inv
    exact ⟨rfl, h1.below⟩
  | panicked c => exact he.elim
  | outgrown => exact he.elim

theorem Pair.flats : ∀ (ys : List Value), (∀ y ∈ ys, flat y = true) → Pair (VR E w) (ys.map .v) ys
  | ys, h => ⟨by simp, fun i x y hx hy => by
    simp only [List.getElem?_map, hy, Option.map_some, Option.some.injEq] at hx
    subst hx
    exact VR.of_flat (h y (List.mem_of_getElem? hy))⟩

end Go.AM
