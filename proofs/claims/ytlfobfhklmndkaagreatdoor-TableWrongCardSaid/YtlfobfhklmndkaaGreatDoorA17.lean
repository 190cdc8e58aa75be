/- The abstract machine, eighteenth text: one operation of the evaluator's, and a list of them. -/
import Derived.Test.YtlfobfhklmndkaaGreatDoorA16
namespace Go.AM
open Go.RowKit Go.MapKept

variable {B0 : Nat} {w0 w : World} {E : Env} {S S' : AS} {P : Program} {C : Cfg} {L : Lw}

def fenceOf (r : Option Nat) : Fence := { Fence.wide with round := r }

/-- What a call that the abstract machine made has done. -/
def Post (B0 : Nat) (w0 : World) (E : Env) (w : World) (S S' : AS) (x : AV) : Ending → World → Prop
  | .returned y, w' => ∃ E', SR B0 w0 E' S' w' ∧ Step S.objs.length S.ends.length E w E' w' ∧ VR E' w' x y
  | _, _ => False

/-- Functions without a body: what the table says of them. -/
def EOK (C : Cfg) : Prop := ∀ (f : FuncId) (e : List Value → Option Value) (vs : List Value) (y : Value) (w : World), C.E f = some e → e vs = some y → (callFunc f vs.toArray).run C.P w = .ok (.value y) w

structure LwOK (C : Cfg) (L : Lw) : Prop where
  ex : EOK C
  low : ∀ {f : FuncId} {args : List AV} {S : AS} {x : AV} {S' : AS}, L.call f args S = some (x, S') → Low S S'
  ylow : ∀ {o : Nat} {args : List AV} {S : AS} {x : AV} {S' : AS}, L.yield o args S = some (x, S') → Low S S'
  ent : ∀ {f : FuncId} {args : List AV} {S : AS} {x : AV} {S' : AS}, L.call f args S = some (x, S') → ∃ fn, C.P.funcs[f]? = some fn ∧ fn.body.isSome = true
  call : ∀ {f : FuncId} {args : List AV} {S : AS} {x : AV} {S' : AS} {B0 : Nat} {w0 w : World} {E : Env} {ys : List Value}, L.call f args S = some (x, S') → SR B0 w0 E S w → Pair (VR E w) args ys →
    CallsIn Fence.wide 0 C.P f ys.toArray w (Post B0 w0 E w S S' x)
  yield : ∀ {o : Nat} {args : List AV} {S : AS} {x : AV} {S' : AS} {B0 : Nat} {w0 w : World} {E : Env} {ys : List Value} {g : Nat}, L.yield o args S = some (x, S') → SR B0 w0 E S w → Pair (VR E w) args ys → E.j o = some g →
    ∃ fn tmps asg body, (Instr.yield g ys.toArray).run C.P w = .ok (.round g fn tmps asg body) w ∧ RoundIn Fence.wide 0 C.P g fn tmps asg body w (Post B0 w0 E w S S' x)
  st : ∀ {f : FuncId} {args : List AV} {S : AS} {x : AV} {S' : AS}, C.X f = none → C.F f = true → L.call f args S = some (x, S') → S' = S ∧ ∀ S2 : AS, (∃ e, S2.objs = S.objs ++ e) → L.call f args S2 = some (x, S2)

/-- No function bears the one name that the model takes apart. -/
def NamesOK (P : Program) : Prop := ∀ (f : FuncId) (fn : Func), P.funcs[f]? = some fn → fn.body.isSome = true → (fn.name == "runtime.NumGoroutine") = false

structure ActR (E : Env) (w : World) (a : AAct) (act : Act) : Prop where
  tmps : Pair (VR E w) a.tmps act.tmps.toList
  len : a.marks.length = act.defers.length
  marks : ∀ (i : Nat) o d, a.marks[i]? = some o → act.defers[i]? = some d → ∃ g, E.j o = some g ∧ d = { target := .collected g, args := #[] }

theorem Pair.ext {E' : Env} {w' : World} (h : Ext E w E' w') {l : List AV} {ys : List Value} (k : Pair (VR E w) l ys) : Pair (VR E' w') l ys := k.mono fun _ _ h1 => h1.ext h

theorem ActR.ext {E' : Env} {w' : World} (h : Ext E w E' w') {a : AAct} {act : Act} (k : ActR E w a act) : ActR E' w' a act :=
  ⟨k.tmps.ext h, k.len, fun i o d h1 h2 => let ⟨g, h3, h4⟩ := k.marks i o d h1 h2; ⟨g, h.j _ _ h3, h4⟩⟩

theorem VR.undef : VR E w undefA undef := VR.of_flat rfl

theorem Pair.put {l : List AV} {ys : Array Value} (h : Pair (VR E w) l ys.toList) {x : AV} {y : Value} (hx : VR E w x y) (d : Nat) : Pair (VR E w) (l.set d x) (ys.setIfInBounds d y).toList := by
  refine ⟨by simp [h.1], fun i a b ha hb => ?_⟩
  simp only [Array.toList_setIfInBounds, List.getElem?_set] at ha hb
  by_cases e : d = i
  · simp only [e, if_true] at ha hb
    split at ha
    · split at hb
      · cases ha; cases hb; exact hx
      · cases hb
    · cases ha
  · simp only [e, if_false] at ha hb
    exact h.2 i a b ha hb

theorem ActR.put {a : AAct} {act : Act} (k : ActR E w a act) {x : AV} {y : Value} (hx : VR E w x y) (d : Option Tmp) : ActR E w { a with tmps := aput a.tmps d x } (act.put d y) := by
  cases d with
  | none => exact k
  | some d => exact ⟨k.tmps.put hx d, k.len, k.marks⟩

theorem aeval_rel {l : List AV} {act : Act} (h : Pair (VR E w) l act.tmps.toList) (x : Operand) : VR E w (aeval l x) (act.eval x) := by
  cases x with
  | tmp t =>
    simp only [aeval, Act.eval]
    cases hl : l[t]? with
    | none =>
      have : act.tmps.toList[t]? = none := by rw [List.getElem?_eq_none_iff] at hl ⊢; rw [← h.1]; exact hl
      have h2 : act.tmps.getD t undef = undef := by
        simp only [Array.getD_eq_getD_getElem?, ← Array.getElem?_toList, this, Option.getD_none]
      rw [h2]; exact VR.undef
    | some x =>
      have hlt : t < act.tmps.toList.length := by rw [← h.1]; exact (List.getElem?_eq_some_iff.1 hl).1
      have h1 : act.tmps.toList[t]? = some act.tmps.toList[t] := by simp [hlt]
      have h2 : act.tmps.getD t undef = act.tmps.toList[t] := by
        simp only [Array.getD_eq_getD_getElem?, ← Array.getElem?_toList, h1, Option.getD_some]
      rw [h2]; exact h.2 t x _ hl h1
  | const v =>
    simp only [aeval, Act.eval]
    split
    · rename_i hf; exact VR.of_flat hf
    · exact ⟨1, trivial⟩
  | global g => exact ⟨1, trivial⟩
  | func f => exact VR.fn (xs := []) (ys := []) ⟨rfl, fun i x y hx _ => by simp at hx⟩ ⟨rfl, fun i x y hx _ => by simp at hx⟩

theorem awanted_sound {ops : Array Oper} {l : List AV} {act : Act} {o : Oper} {b : Bool} (h : Pair (VR E w) l act.tmps.toList) (hx : awanted ops l o = some b) : Region.wanted o (yielded ops act.tmps) = b := by
  unfold awanted at hx
  unfold Region.wanted
  split at hx
  · rename_i hg; cases hx; rw [hg]
  · rename_i j c hg
    rw [hg]
    obtain ⟨y, hy, rfl⟩ := Option.map_eq_some_iff.1 hx
    have : yielded ops act.tmps j = y := by
      unfold aslot at hy
      unfold yielded
      cases hd : (ops[j]?).bind (·.dst) with
      | none => simp only [hd, Option.bind_none] at hy ⊢; cases hy; rfl
      | some d =>
        simp only [hd, Option.bind_some] at hy ⊢
        cases hl : l[d]? with
        | none =>
          rw [hl] at hy
          cases hy
          have : act.tmps[d]? = none := by
            rw [← Array.getElem?_toList, List.getElem?_eq_none_iff, ← h.1]; exact List.getElem?_eq_none_iff.1 hl
          rw [this]
        | some x =>
          rw [hl] at hy
          have hlt : d < act.tmps.toList.length := by rw [← h.1]; exact (List.getElem?_eq_some_iff.1 hl).1
          have h1 : act.tmps.toList[d]? = some act.tmps.toList[d] := by simp [hlt]
          have h2 : act.tmps[d]? = some act.tmps.toList[d] := by rw [← Array.getElem?_toList]; exact h1
          have hv := h.2 d x _ hl h1
          rw [h2]
          cases x with
          | v z =>
            obtain ⟨_, he⟩ := hv.flat_inv
            rw [he]
            cases z with
            | bool b => cases hy; rfl
            | _ => cases hy; rfl
          | _ => cases hy
    simp only [this]

section
variable {r : Option Nat} {Q : Exit → Act → World → Prop} {act : Act} {a : AAct}

theorem uponIn_did {o : Oper} {K : Act → World → Prop} {x : AV} {res : Result Next} (h : Did B0 w0 E w S S' x res)
    (hK : ∀ y E' w', SR B0 w0 E' S' w' → Step S.objs.length S.ends.length E w E' w' → VR E' w' x y → K (act.put o.dst y) w') : o.uponIn (fenceOf r) 0 P act K Q res := by
  obtain ⟨nx, w', E', rfl, h2, h3, h4⟩ := h
  rcases h4 with ⟨y, rfl, hy⟩ | ⟨rfl, rfl⟩
  · exact hK y E' w' h2 h3 hy
  · exact hK undef E' w' h2 h3 VR.undef

theorem uponIn_call {o : Oper} {K : Act → World → Prop} {x : AV} {f : FuncId} {args : Array Value} (h : CallsIn Fence.wide 0 P f args w (Post B0 w0 E w S S' x))
    (hK : ∀ y E' w', SR B0 w0 E' S' w' → Step S.objs.length S.ends.length E w E' w' → VR E' w' x y → K (act.put o.dst y) w') : o.uponIn (fenceOf r) 0 P act K Q (.ok (.enter f args) w) := by
  refine ⟨nofun, CallsIn.mono (F := Fence.wide) h fun e w' he => ?_⟩
  cases e with
  | returned y => obtain ⟨E', h1, h2, h3⟩ := he; exact hK y E' w' h1 h2 h3
  | panicked c => exact he.elim
  | outgrown => exact he.elim

theorem uponIn_round {o : Oper} {K : Act → World → Prop} {x : AV} {l : Nat} {f : FuncId} {tmps : Array Value} {asg body : Code} (h : RoundIn Fence.wide 0 P l f tmps asg body w (Post B0 w0 E w S S' x))
    (hK : ∀ y E' w', SR B0 w0 E' S' w' → Step S.objs.length S.ends.length E w E' w' → VR E' w' x y → K (act.put o.dst y) w') : o.uponIn (fenceOf r) 0 P act K Q (.ok (.round l f tmps asg body) w) := by
  refine ⟨nofun, RoundIn.mono (F := Fence.wide) h fun e w' he => ?_⟩
  cases e with
  | returned y => obtain ⟨E', h1, h2, h3⟩ := he; exact hK y E' w' h1 h2 h3
  | panicked c => exact he.elim
  | outgrown => exact he.elim

theorem run_callFunc_ok (hN : NamesOK P) {f : FuncId} {args : Array Value} (h : ∃ fn, P.funcs[f]? = some fn ∧ fn.body.isSome = true) : (callFunc f args).run P w = .ok (.enter f args) w := by
  obtain ⟨fn, h1, h2⟩ := h
  have h3 := hN f fn h1 h2
  have h3' : ¬ fn.name = "runtime.NumGoroutine" := by simpa using h3
  have h4 : ¬ fn.body = none := fun e => by rw [e] at h2; cases h2
  simp [callFunc, go_sem, h1, h3', h4]

def constB : Operand → Bool | .const _ => true | _ => false

theorem acallOp_sound (hN : NamesOK C.P) (hL : LwOK C L) (h : SR B0 w0 E S w) {mu : Bool} {o : Oper} {c : Call} (hop : o.op = .call c) {l : List AV} (hp : Pair (VR E w) l act.tmps.toList) {x : AV}
    (hx : acallOp C L mu o.type c (aeval l) S = some (x, S')) {K : Act → World → Prop}
    (hK : ∀ y E' w', SR B0 w0 E' S' w' → Step S.objs.length S.ends.length E w E' w' → VR E' w' x y → K (act.put o.dst y) w') :
    o.uponIn (fenceOf r) 0 C.P act K Q ((execOp act.eval o).run C.P w) := by
  have hargs : Pair (VR E w) (c.args.toList.map (aeval l)) (c.args.map act.eval).toList := by
    rw [Array.toList_map]
    exact ⟨by simp, fun i a b ha hb => by
      simp only [List.getElem?_map] at ha hb
      obtain ⟨q, hq, rfl⟩ := Option.map_eq_some_iff.1 ha
      rw [hq] at hb
      cases hb
      exact aeval_rel hp q⟩
  have hex : execOp act.eval o = (do let d ← resolve act.eval c o.type; invoke d.target d.args) := by unfold execOp; rw [hop]
  unfold acallOp at hx
  split at hx
  · rename_i b hb
    have : (execOp act.eval o).run C.P w = (builtin b c.argTypes o.type (c.args.map constB) (c.args.map act.eval)).run C.P w := by
      rw [hex]; unfold resolve; simp only [hb, Sem.run_bind, Sem.run_pure, Result.andThen, invoke]; rfl
    rw [this]
    have hd := builtin_sound (ty := o.type) (consts := c.args.map constB) h hargs hx
    rw [Array.toArray_toList] at hd
    exact uponIn_did hd hK
  · rename_i f hf
    split at hx
    · rename_i g first caps hv
      obtain ⟨fs, cs, he, h1, h2⟩ := (hv ▸ aeval_rel hp f).fn_inv
      have hall : Pair (VR E w) (first ++ c.args.toList.map (aeval l) ++ caps) (fs ++ (c.args.map act.eval).toList ++ cs) := (h1.app hargs).app h2
      split at hx
      · rename_i e he1
        obtain ⟨vs, hvs, hx1⟩ := Option.bind_eq_some_iff.1 hx
        obtain ⟨y, hy, hx2⟩ := Option.bind_eq_some_iff.1 hx1
        obtain ⟨x', hx', he2⟩ := Option.map_eq_some_iff.1 hx2
        cases he2
        obtain ⟨hfy, rfl⟩ := ofV_some hx'
        have hrun := hL.ex g e vs y w he1 hy
        rw [← flatsV_some hvs hall] at hrun
        have hd : Did B0 w0 E w S S (.v y) ((execOp act.eval o).run C.P w) := by
          refine Did.val h ?_ (VR.of_flat hfy)
          rw [hex]
          unfold resolve
          simp only [hf, Sem.run_bind, he, Deferred.ofValue, Sem.run_pure, Result.andThen, invoke]
          have e1 : (fs ++ (c.args.map act.eval).toList ++ cs).toArray = fs.toArray ++ c.args.map act.eval ++ cs.toArray := by simp
          rw [e1] at hrun
          exact hrun
        exact uponIn_did hd hK
      have hc := hL.call hx h hall
      have : (execOp act.eval o).run C.P w = .ok (.enter g (fs ++ (c.args.map act.eval).toList ++ cs).toArray) w := by
        rw [hex]
        unfold resolve
        simp only [hf, Sem.run_bind, he, Deferred.ofValue, Sem.run_pure, Result.andThen, invoke]
        rw [run_callFunc_ok hN (hL.ent hx)]
        simp
      rw [this]
      exact uponIn_call hc hK
    · rename_i ol hv
      obtain ⟨g, hj, he⟩ := (hv ▸ aeval_rel hp f).yld_inv
      obtain ⟨fn, tmps, asg, body, hy, hr⟩ := hL.yield hx h hargs hj
      have : (execOp act.eval o).run C.P w = .ok (.round g fn tmps asg body) w := by
        rw [hex]
        unfold resolve
        simp only [hf, Sem.run_bind, he, Deferred.ofValue, Sem.run_pure, Result.andThen, invoke]
        rw [Array.toArray_toList] at hy
        simpa using hy
      rw [this]
      exact uponIn_round hr hK
    · cases hx
  · cases hx

theorem astep_sound (hN : NamesOK C.P) (hL : LwOK C L) (h : SR B0 w0 E S w) {mu : Bool} {ops : Array Oper} {o : Oper} {l : List AV} (hp : Pair (VR E w) l act.tmps.toList) {x : AV}
    (hx : astep C L mu ops o l S = some (x, S')) {K : Act → World → Prop}
    (hK : ∀ y E' w', SR B0 w0 E' S' w' → Step S.objs.length S.ends.length E w E' w' → VR E' w' x y → K (act.put o.dst y) w') :
    if Region.wanted o (yielded ops act.tmps) = true then Oper.wpIn (fenceOf r) 0 C.P o act w K Q else (∀ f, o.about C.P w act.eval = some f → (fenceOf r).fn f) ∧ K (act.put o.dst undef) w := by
  unfold astep at hx
  split at hx
  · rename_i hw
    rw [awanted_sound hp hw, if_pos rfl]
    refine ⟨fun _ _ => trivial, ?_⟩
    unfold adoOp at hx
    split at hx
    · rename_i c hop
      rw [Oper.semAt_eq _ _ _ (by rw [hop]; intro c e; cases e)]
      exact acallOp_sound hN hL h hop hp hx hK
    · rename_i op hnc
      rw [Oper.semAt_eq _ _ _ (by intro c e; rw [e] at hx; simp [aexec] at hx)]
      exact uponIn_did (exec_sound h (fun q => aeval_rel hp q) hx) hK
  · rename_i hw
    cases hx
    rw [awanted_sound hp hw, if_neg (by simp)]
    exact ⟨fun _ _ => trivial, hK undef E w h (Step.refl _ _ _ _) VR.undef⟩
  · cases hx

theorem adoOp_low (hL : LwOK C L) {mu : Bool} {o : Oper} {ρ : Operand → AV} {x : AV} (hx : adoOp C L mu o ρ S = some (x, S')) : Low S S' := by
  unfold adoOp at hx
  split at hx
  · unfold acallOp at hx
    split at hx
    · exact abuiltin_low hx
    · split at hx
      · split at hx
        · obtain ⟨vs, _, hx1⟩ := Option.bind_eq_some_iff.1 hx
          obtain ⟨y, _, hx2⟩ := Option.bind_eq_some_iff.1 hx1
          obtain ⟨x', _, he2⟩ := Option.map_eq_some_iff.1 hx2
          cases he2; exact Low.refl _
        · exact hL.low hx
      · exact hL.ylow hx
      · cases hx
    · cases hx
  · exact aexec_low hx

theorem astep_low (hL : LwOK C L) {mu : Bool} {ops : Array Oper} {o : Oper} {l : List AV} {x : AV} (hx : astep C L mu ops o l S = some (x, S')) : Low S S' := by
  unfold astep at hx
  split at hx
  · exact adoOp_low hL hx
  · cases hx; exact Low.refl _
  · cases hx

theorem aOps_low (hL : LwOK C L) {mu : Bool} {ops : Array Oper} : ∀ (os : List Oper) {l l' : List AV} {S S' : AS}, aOps C L mu ops os l S = some (l', S') → Low S S'
  | [], l, l', S, S', h => by simp only [aOps] at h; cases h; exact Low.refl _
  | o :: os, l, l', S, S', h => by
    simp only [aOps] at h
    split at h
    · rename_i x S1 h1
      exact (astep_low hL h1).trans (aOps_low hL os h)
    · cases h

theorem aOps_sound (hN : NamesOK C.P) (hL : LwOK C L) {mu : Bool} {ops : Array Oper} : ∀ (os : List Oper) {l l' : List AV} {S S' : AS} {act : Act} {w : World} {E : Env},
    aOps C L mu ops os l S = some (l', S') → SR B0 w0 E S w → Pair (VR E w) l act.tmps.toList →
    (∀ act' w' E', SR B0 w0 E' S' w' → Step S.objs.length S.ends.length E w E' w' → Pair (VR E' w') l' act'.tmps.toList → act'.defers = act.defers → Q .normal act' w') →
    wpListIn (fenceOf r) 0 C.P ops Q os act w
  | [], l, l', S, S', act, w, E, hx, h, hp, hQ => by
    simp only [aOps] at hx; cases hx
    exact hQ act w E h (Step.refl _ _ _ _) hp rfl
  | o :: os, l, l', S, S', act, w, E, hx, h, hp, hQ => by
    simp only [aOps] at hx
    split at hx
    · rename_i x S1 h1
      have hl := astep_low hL h1
      refine astep_sound hN hL h hp h1 fun y E' w' h2 h3 h4 => ?_
      have hp' : Pair (VR E' w') (aput l o.dst x) (act.put o.dst y).tmps.toList := by
        cases hd : o.dst with
        | none => exact hp.ext h3.toExt
        | some d => exact (hp.ext h3.toExt).put h4 d
      refine aOps_sound hN hL os hx h2 hp' fun act' w'' E'' h5 h6 h7 h8 => hQ act' w'' E'' h5 (h3.trans h6 hl.len hl.tlen) h7 (h8.trans ?_)
      cases o.dst <;> rfl
    · cases hx

end
end Go.AM
