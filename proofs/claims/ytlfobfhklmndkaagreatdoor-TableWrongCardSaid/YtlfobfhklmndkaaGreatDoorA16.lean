/- The abstract machine, seventeenth text: the evaluator. -/
import Derived.Test.YtlfobfhklmndkaaGreatDoorA15
namespace Go.AM
open Go.RowKit

structure AAct where
  tmps : List AV
  marks : List Nat

def aput (l : List AV) (d : Option Tmp) (x : AV) : List AV :=
  match d with
  | some d => l.set d x
  | none => l

def aeval (l : List AV) : Operand → AV
  | .tmp t => (l[t]?).getD undefA
  | .const v => if flat v then .v v else .junk
  | .global _ => .junk
  | .func f => .fn (.func f) [] []

structure Cfg where
  P : Program
  H : FuncId → Nat → Bool
  X : FuncId → Option (List AV → AS → Option (AV × AS))
  F : FuncId → Bool := fun _ => false
  D : FuncId → Nat → Option (List Nat) := fun _ _ => none
  E : FuncId → Option (List Value → Option Value) := fun _ => none

/-- Pure; leaves the store as it is; does so in greater stores too. -/
abbrev Tag := Bool × Bool × Bool × Option (Bool × Nat)

structure Lw where
  call : FuncId → List AV → AS → Option (AV × AS)
  yield : Nat → List AV → AS → Option (AV × AS)

/-- What a guard sees: 'none' where that is not known. -/
def aslot (ops : Array Oper) (l : List AV) (j : Nat) : Option (Option Bool) :=
  match ((ops[j]?).bind (·.dst)).bind (l[·]?) with
  | some (.v (.bool b)) => some (some b)
  | some (.v _) => some none
  | some _ => none
  | none => some none

def awanted (ops : Array Oper) (l : List AV) (o : Oper) : Option Bool :=
  match o.guard with
  | none => some true
  | some (j, b) => (aslot ops l j).map fun y => y == some b

def acallOp (C : Cfg) (L : Lw) (mu : Bool) (ty : TypeId) (c : Call) (ρ : Operand → AV) (S : AS) : Option (AV × AS) :=
  match c.callee with
  | .builtin b => abuiltin C.P mu S b c.argTypes ty (c.args.toList.map ρ)
  | .value f =>
    match ρ f with
    | .fn (.func g) first caps =>
      match C.E g with
      | some e => (flatsV (first ++ c.args.toList.map ρ ++ caps)).bind fun vs => (e vs).bind fun y => (ofV y).map fun x => (x, S)
      | none => L.call g (first ++ c.args.toList.map ρ ++ caps) S
    | .yld l => L.yield l (c.args.toList.map ρ) S
    | _ => none
  | .invoke _ _ => none

def adoOp (C : Cfg) (L : Lw) (mu : Bool) (o : Oper) (ρ : Operand → AV) (S : AS) : Option (AV × AS) :=
  match o.op with
  | .call c => acallOp C L mu o.type c ρ S
  | op => aexec C.P mu S ρ op

def astep (C : Cfg) (L : Lw) (mu : Bool) (ops : Array Oper) (o : Oper) (l : List AV) (S : AS) : Option (AV × AS) :=
  match awanted ops l o with
  | some true => adoOp C L mu o (aeval l) S
  | some false => some (undefA, S)
  | none => none

def aOps (C : Cfg) (L : Lw) (mu : Bool) (ops : Array Oper) : List Oper → List AV → AS → Option (List AV × AS)
  | [], l, S => some (l, S)
  | o :: rest, l, S =>
    match astep C L mu ops o l S with
    | some (x, S') => aOps C L mu ops rest (aput l o.dst x) S'
    | none => none

def amark (S : AS) : AS := { S with low := S.objs.length, tlow := S.ends.length }
def aunmark (S S' : AS) : AS := { S' with low := min S.low S'.low, tlow := min S.tlow S'.tlow }
/-- Nothing that was there has turned. -/
def akept (S S' : AS) : Bool := Nat.beq S'.low S.objs.length && Nat.beq S'.tlow S.ends.length
/-- ... and nothing has come. -/
def asame (S S' : AS) : Bool := akept S S' && Nat.beq S'.objs.length S.objs.length && Nat.beq S'.ends.length S.ends.length

/-! A region that draws its order. -/
def isPure (mu : Bool) (ρ : Operand → AV) : Op → Bool
  | .move _ | .assign _ | .pick _ _ _ | .build _ _ | .fieldAddr _ _ _ | .field _ _ _ | .indexAddr _ _ _ | .index _ _ _ | .unOp _ _ _ | .extract _ _ | .makeFunc _ _ _ | .nilCheck _ | .slice _ _ _ _ _ | .makeInterface _ _ => true
  | .binOp _ _ x y _ => match ρ x, ρ y with | .ptr _ _, .ptr _ _ => false | _, _ => true
  | .buildSlice _ _ _ => !mu
  | .convert _ _ x => match ρ x with | .slc _ _ _ _ _ => false | _ => true
  | .load _ a => match ρ a with | .eptr _ _ => true | _ => false
  | _ => false

def apu (mu : Bool) (ops : Array Oper) (o : Oper) (l : List AV) : Bool :=
  match awanted ops l o with
  | some false => true
  | _ => isPure mu (aeval l) o.op

/-- Does it read alone, and what is there already? -/
def stabOp (C : Cfg) (ρ : Operand → AV) (o : Oper) : Bool :=
  match o.op with
  | .load _ _ => true
  | .call c =>
    match c.callee with
    | .value f => (match ρ f with | .fn (.func g) _ _ => (match C.E g with | some _ => true | none => match C.X g with | none => C.F g | some _ => false) | _ => false)
    | _ => false
  | _ => false

/-- The one object that it reads (false) or writes (true). -/
def rwOf (ops : Array Oper) (l : List AV) (o : Oper) : Option (Bool × Nat) :=
  match awanted ops l o with
  | some true =>
    match o.op with
    | .load _ a => (match aeval l a with | .ptr ob _ => some (false, ob) | _ => none)
    | .store _ a _ => (match aeval l a with | .ptr ob _ => some (true, ob) | _ => none)
    | _ => none
  | _ => none

def apartRW : Option (Bool × Nat) → Option (Bool × Nat) → Bool
  | some (_, a), some (_, b) => !Nat.beq a b
  | _, _ => false

def isAlloc : Op → Bool
  | .alloc _ => true
  | _ => false

/-- One operation, and of what kind it was: does it speak of no store; does it leave the store as it is? -/
def atag (C : Cfg) (L : Lw) (mu : Bool) (ops : Array Oper) (o : Oper) (l : List AV) (S : AS) : Option (AV × AS × Tag) :=
  match astep C L mu ops o l (amark S) with
  | some (x, S') =>
    if apu mu ops o l || asame S S' then some (x, S, apu mu ops o l, true, stabOp C (aeval l) o, rwOf ops l o) else some (x, aunmark S S', false, false, false, rwOf ops l o)
  | none => none

def aTags (C : Cfg) (L : Lw) (mu : Bool) (ops : Array Oper) : List Oper → List AV → AS → Option (List AV × AS × List Tag)
  | [], l, S => some (l, S, [])
  | o :: rest, l, S =>
    match atag C L mu ops o l S with
    | some (x, S', t) =>
      match aTags C L mu ops rest (aput l o.dst x) S' with
      | some (l', S'', ts) => some (l', S'', t :: ts)
      | none => none
    | none => none

/-- Has operation j to wait for operation i? -/
def areach (ops : Array Oper) : Nat → Nat → Nat → Bool
  | 0, _, _ => false
  | k + 1, j, i =>
    match ops[j]? with
    | some o => o.after.toList.any fun e => Region.binds .any e && (Nat.beq e.on i || areach ops k e.on i)
    | none => false

def aback (ops : Array Oper) : Bool := (List.range ops.size).all fun j =>
  match ops[j]? with
  | some o => o.after.toList.all fun e => !Region.binds .any e || Nat.blt e.on j
  | none => true

def aPairs (ops : Array Oper) (ts : List Tag) : Bool :=
  (List.range ops.size).all fun j => (List.range j).all fun i =>
    match ops[i]?, ops[j]?, ts[i]?, ts[j]? with
    | some oi, some oj, some ti, some tj => (oi.apart ops oj && (ti.1 || tj.1 || (ti.2.1 && tj.2.1) || (isAlloc oj.op && ti.2.2.1) || apartRW ti.2.2.2 tj.2.2.2)) || areach ops ops.size j i
    | _, _, _, _ => false

def aDraw1 (C : Cfg) (L : Lw) (mu : Bool) (ops : Array Oper) (l : List AV) (S : AS) : Option (List AV × AS) :=
  match aTags C L mu ops ops.toList l S with
  | some (l', S', ts) => if Region.noSelect ops && aback ops && aPairs ops ts then some (l', S') else none
  | none => none

/-! A region that makes more than one variable: they are made ahead of all. -/
def posd (ops : Array Oper) : List (Nat × Oper) := (List.range ops.size).zip ops.toList
def allocsP (ops : Array Oper) : List (Nat × Oper) := (posd ops).filter fun p => isAlloc p.2.op
def othersP (ops : Array Oper) : List (Nat × Oper) := (posd ops).filter fun p => !isAlloc p.2.op
def allPairs {α : Type} (r : α → α → Bool) : List α → Bool
  | [] => true
  | x :: xs => xs.all (r x) && allPairs r xs
def manyA (ops : Array Oper) : Bool := !allPairs (fun a b => areach ops ops.size b.1 a.1) (allocsP ops) && (allocsP ops).all fun a => a.2.guard.isNone
def preA (C : Cfg) : List (Nat × Oper) → List AV → AS → Option (List AV × AS)
  | [], l, S => some (l, S)
  | p :: rest, l, S =>
    match p.2.op with
    | .alloc T => match azero C.P T with | some z => preA C rest (aput l p.2.dst (.ptr S.objs.length 0)) (S.push (.cells z T)) | none => none
    | _ => none
def okPairB (ops : Array Oper) (p q : (Nat × Oper) × Tag) : Bool := p.1.2.apart ops q.1.2 && (p.2.1 || q.2.1 || (p.2.2.1 && q.2.2.1) || (isAlloc q.1.2.op && p.2.2.2.1) || apartRW p.2.2.2.2 q.2.2.2.2)
def aPairs2 (ops : Array Oper) (ts : List Tag) : Bool :=
  allPairs (fun p q => okPairB ops p q || areach ops ops.size q.1.1 p.1.1) ((othersP ops).zip ts) &&
  ((allocsP ops).all fun a => ((othersP ops).zip ts).all fun q => areach ops ops.size q.1.1 a.1 || (a.2.apart ops q.1.2 && (q.2.1 || q.2.2.1))) &&
  allPairs (fun a b => a.2.apart ops b.2) (allocsP ops)
def aDraw2 (C : Cfg) (L : Lw) (mu : Bool) (ops : Array Oper) (l : List AV) (S : AS) : Option (List AV × AS) :=
  match preA C (allocsP ops) l S with
  | some (l1, S1) =>
    match aTags C L mu ops ((othersP ops).map (·.2)) l1 S1 with
    | some (l', S', ts) => if Region.noSelect ops && aback ops && aPairs2 ops ts then some (l', S') else none
    | none => none
  | none => none
def aDraw (C : Cfg) (L : Lw) (mu : Bool) (ops : Array Oper) (l : List AV) (S : AS) : Option (List AV × AS) :=
  match manyA ops with
  | true => aDraw2 C L mu ops l S
  | false => aDraw1 C L mu ops l S

def aloop (f : AAct → AS → Option (Exit × AAct × AS)) : Nat → AAct → AS → Option (Exit × AAct × AS)
  | 0, _, _ => none
  | k + 1, a, S =>
    match f a S with
    | some (.normal, a', S') => aloop f k a' S'
    | r => r

/-- A loop over a function: the call of the function, and how the loop is left. -/
def arange (L : Lw) (f : FuncId) (args : List AV) (l : Nat) (a : AAct) (S : AS) : Option (Exit × AAct × AS) :=
  match L.call f args S with
  | some (_, S') =>
    match S'.objs[l]? with
    | some (.loop r) =>
      match r.state with
      | .busy => none
      | _ =>
        match r.pending with
        | none => some (.normal, a, S'.set l .dead)
        | some .ret => some (.ret, a, S'.set l .dead)
        | some (.exit id) => some (.exit id, a, S'.set l .dead)
        | some (.goto t) => some (.goto t, a, S'.set l .dead)
        | some _ => none
    | _ => none
  | none => none

/-! What a round of a loop leaves behind is dropped, where a hint tells which slots live. -/
def firstR : Code → Option Nat
  | .region id _ _ => some id
  | .seq x y => match firstR x with | some i => some i | none => firstR y
  | .block _ c => firstR c
  | .loop c => firstR c
  | _ => none

def memN : List Nat → Nat → Bool
  | [], _ => false
  | x :: l, n => match Nat.beq x n with | true => true | false => memN l n

def objOld (n : Nat) : AObj → Bool
  | .cells l _ => belowAll n l
  | .map es _ => es.all fun e => e.key.old n && e.val.old n
  | .loop r => belowAll n r.tmps && Nat.blt r.defers n
  | _ => true

def keepT (js : List Nat) : Nat → List AV → List AV
  | _, [] => []
  | k, x :: l => (match memN js k with | true => x | false => .junk) :: keepT js (k + 1) l

def trimB (n0 : Nat) (vals : List AV) (objs : List AObj) (marks : List Nat) (len : Nat) : Bool := belowAll n0 vals && (objs.all (objOld n0) && (marks.all (fun m => Nat.blt m n0) && Nat.ble n0 len))
def trimOK (js : List Nat) (n0 : Nat) (a : AAct) (S : AS) : Bool := trimB n0 (js.map fun j => (a.tmps[j]?).getD undefA) (S.objs.take n0) a.marks S.objs.length
def trimA (js : List Nat) (a : AAct) : AAct := { a with tmps := keepT js 0 a.tmps }
def trimS (n0 : Nat) (S : AS) : AS := { S with objs := S.objs.take n0 }

def hintD (C : Cfg) (hf : FuncId) (c : Code) : Option (List Nat) := match firstR c with | some i => C.D hf i | none => none

def aBody (C : Cfg) (hf : FuncId) (c : Code) (n0 : Nat) (f : AAct → AS → Option (Exit × AAct × AS)) (a : AAct) (S : AS) : Option (Exit × AAct × AS) :=
  match f a S with
  | some (.normal, a', S') =>
    match hintD C hf c with
    | some js => (match trimOK js n0 a' S' with | true => some (.normal, trimA js a', trimS n0 S') | false => none)
    | none => some (.normal, a', S')
  | r => r

def aC (C : Cfg) (L : Lw) (k : Nat) (hf : FuncId) (rd : Option Nat) : Code → AAct → AS → Option (Exit × AAct × AS)
  | .skip, a, S => some (.normal, a, S)
  | .label _, a, S => some (.normal, a, S)
  | .exit id, a, S => some (.exit id, a, S)
  | .goto t, a, S => some (.goto t, a, S)
  | .ret, a, S => some (.ret, a, S)
  | .seq x y, a, S =>
    match aC C L k hf rd x a S with
    | some (.normal, a', S') => aC C L k hf rd y a' S'
    | r => r
  | .cond c x y, a, S =>
    match aeval a.tmps c with
    | .v (.bool true) => aC C L k hf rd x a S
    | .v (.bool false) => aC C L k hf rd y a S
    | _ => none
  | .block id c, a, S =>
    match aC C L k hf rd c a S with
    | some (.exit id', a', S') => if Nat.beq id' id then some (.normal, a', S') else some (.exit id', a', S')
    | r => r
  | .loop c, a, S => aloop (aBody C hf c S.objs.length (aC C L k hf rd c)) k a S
  | .region id ops false, a, S =>
    match aOps C L (C.H hf id) ops ops.toList a.tmps S with
    | some (l, S') => some (.normal, { a with tmps := l }, S')
    | none => none
  | .region id ops true, a, S =>
    match aDraw C L (C.H hf id) ops a.tmps S with
    | some (l, S') => some (.normal, { a with tmps := l }, S')
    | none => none
  | .rangeFunc g ps asg body, a, S =>
    match aeval a.tmps g with
    | .fn (.func f) first caps =>
      match rd with
      | none =>
        arange L f (first ++ [.yld (S.objs.length + 1)] ++ caps) (S.objs.length + 1) { a with marks := S.objs.length :: a.marks }
          ((S.push .dfr).push (.loop { state := .ready, pending := none, hint := hf, tmps := a.tmps, params := ps, assign := asg, body := body, defers := S.objs.length }))
      | some o =>
        match S.objs[o]? with
        | some (.loop r0) =>
          arange L f (first ++ [.yld S.objs.length] ++ caps) S.objs.length a
            (S.push (.loop { state := .ready, pending := none, hint := hf, tmps := a.tmps, params := ps, assign := asg, body := body, defers := r0.defers }))
        | _ => none
    | _ => none
  | _, _, _ => none

def akill : List Nat → AS → Option AS
  | [], S => some S
  | m :: ms, S =>
    match S.objs[m]? with
    | some .dfr => akill ms (S.set m .dead)
    | _ => none

def aresult (P : Program) (l : List AV) (S : AS) : ResultVar → Option AV
  | .tmp t => some ((l[t]?).getD undefA)
  | .cell t ty => aload P S ty ((l[t]?).getD undefA)

def aresults (P : Program) (l : List AV) (S : AS) : List ResultVar → Option (List AV)
  | [] => some []
  | r :: rs =>
    match aresult P l S r with
    | some x => match aresults P l S rs with | some xs => some (x :: xs) | none => none
    | none => none

def aone : List AV → AV
  | [x] => x
  | xs => .tup xs

/-- The end of a call. -/
def aleave (C : Cfg) (fn : Func) (S : AS) (a : AAct) (S1 : AS) : Option (AV × AS) :=
  match akill a.marks S1 with
  | some S2 =>
    match aresults C.P a.tmps S2 fn.results.toList with
    | some xs => if akept S S2 && (aone xs).old S.objs.length then some ((aone xs).shut S.ends.length, S) else some (aone xs, aunmark S S2)
    | none => none
  | none => none

def acallF (C : Cfg) (L : Lw) (k : Nat) (f : FuncId) (args : List AV) (S : AS) : Option (AV × AS) :=
  match C.P.funcs[f]? with
  | some fn =>
    match fn.body with
    | some c =>
      match aC C L k f none c { tmps := args ++ List.replicate (fn.ntmps - args.length) undefA, marks := [] } (amark S) with
      | some (.normal, a, S1) => aleave C fn S a S1
      | some (.ret, a, S1) => aleave C fn S a S1
      | _ => none
    | none => none
  | none => none

def ajump : Exit → Option (Option Code)
  | .normal => some none
  | .ret => some (some .ret)
  | .exit id => some (some (.exit id))
  | .goto t => some (some (.goto t))
  | _ => none

def ayieldF (C : Cfg) (L : Lw) (k : Nat) (o : Nat) (args : List AV) (S : AS) : Option (AV × AS) :=
  match S.objs[o]? with
  | some (.loop r) =>
    if Nat.beq args.length r.params.size then
      match aC C L k r.hint (some o) r.assign { tmps := (r.params.toList.zip args).foldl (fun l p => l.set p.1 p.2) r.tmps, marks := [] } S with
      | some (.normal, a1, S1) =>
        match S1.objs[o]? with
        | some (.loop r1) =>
          match r1.state with
          | .ready =>
            match aC C L k r.hint (some o) r.body a1 (S1.set o (.loop { r1 with state := .busy })) with
            | some (e, _, S3) =>
              match S3.objs[o]? with
              | some (.loop r3) =>
                match ajump e with
                | some j => some (.v (.bool j.isNone), S3.set o (.loop { r3 with state := if j.isNone then .ready else .done, pending := j }))
                | none => none
              | _ => none
            | none => none
          | _ => none
        | _ => none
      | _ => none
    else none
  | _ => none

/-! What a caller's values are to a callee that only reads: lists and rows in place of objects. -/
def untok : Cap → Cap
  | .tok _ _ _ => .unk
  | c => c

def drRows (dr : List AV → Option (List AV)) : List (List AV) → Option (List (List AV))
  | [] => some []
  | r :: rs => match dr r with | some r' => (match drRows dr rs with | some rs' => some (r' :: rs') | none => none) | none => none

mutual
def lendV (S : AS) (dr : List AV → Option (List AV)) : AV → Option AV
  | .junk => some .junk
  | .v x => some (.v x)
  | .ptr o off => match S.cellsAt o with | some p => (match dr p.1 with | some l => some (.eptr l off) | none => none) | none => none
  | .eptr row b => match lendL S dr row with | some l => some (.eptr l b) | none => none
  | .lst c rows => match lendR S dr rows with | some l => some (.lst (untok c) l) | none => none
  | .slc o sz off len cap => match rowsOf S sz (.slc o sz off len cap) with | some rows => (match drRows dr rows with | some l => some (.lst .unk l) | none => none) | none => none
  | .mp _ => none
  | .yld _ => none
  | .fn f a b => match lendL S dr a with | some a' => (match lendL S dr b with | some b' => some (.fn f a' b') | none => none) | none => none
  | .ifc t x => match lendV S dr x with | some x' => some (.ifc t x') | none => none
  | .agg l => match lendL S dr l with | some l' => some (.agg l') | none => none
  | .tup l => match lendL S dr l with | some l' => some (.tup l') | none => none
def lendL (S : AS) (dr : List AV → Option (List AV)) : List AV → Option (List AV)
  | [] => some []
  | x :: l => match lendV S dr x with | some x' => (match lendL S dr l with | some l' => some (x' :: l') | none => none) | none => none
def lendR (S : AS) (dr : List AV → Option (List AV)) : List (List AV) → Option (List (List AV))
  | [] => some []
  | r :: l => match lendL S dr r with | some r' => (match lendR S dr l with | some l' => some (r' :: l') | none => none) | none => none
end

def lendAll : Nat → AS → List AV → Option (List AV)
  | 0, S, l => lendL S (fun _ => none) l
  | d + 1, S, l => lendL S (lendAll d S) l

def lend (S : AS) (x : AV) : Option AV := lendV S (lendAll 4 S) x

def AV.isV : AV → Bool
  | .v _ => true
  | _ => false

/-- It speaks of no address at all. -/
def AV.plain : AV → Bool
  | .v _ => true
  | .tup l => l.all AV.isV
  | .agg l => l.all AV.isV
  | _ => false

/-- A call; of a function that F names, in the empty store. -/
def acallX (C : Cfg) (L : Lw) (k : Nat) (f : FuncId) (args : List AV) (S : AS) : Option (AV × AS) :=
  match C.F f with
  | true =>
    match belowAll 0 args with
    | true =>
      match acallF C L k f (sealAll 0 args) {} with
      | some (x, S1) => (match lend S1 x with | some x' => some (x', S) | none => none)
      | none => none
    | false =>
      match lendAll 4 S args with
      | some args' =>
        match acallF C L k f args' {} with
        | some (x, _) => (match x.plain with | true => some (x, S) | false => none)
        | none => none
      | none => none
  | false => acallF C L k f args S

def lower (C : Cfg) : Nat → Lw
  | 0 => { call := fun _ _ _ => none, yield := fun _ _ _ => none }
  | n + 1 =>
    { call := fun f args S => match C.X f with | some g => g args S | none => acallX C (lower C n) (n + 1) f args S
      yield := fun o args S => ayieldF C (lower C n) (n + 1) o args S }

end Go.AM
