/- The abstract machine, second text: the abstract store and what one operation does to it. -/
import Derived.Test.YtlfobfhklmndkaaGreatDoorA0
namespace Go.AM
open Go.RowKit

structure AEnt where
  key : AV
  val : AV
  born : Nat

/-- A loop over a function: its record. -/
structure ALoop where
  state : LoopState
  pending : Option Code
  hint : FuncId
  tmps : List AV
  params : Array Tmp
  assign : Code
  body : Code
  defers : Nat

inductive AObj where
  | cells (l : List AV) (T : TypeId)
  | map (es : List AEnt) (clock : Nat)
  | loop (r : ALoop)
  | dfr
  | iter (s : ByteArray) (pos : Nat)
  | dead

structure AS where
  objs : List AObj := []
  ends : List Nat := []
  low : Nat := 0
  tlow : Nat := 0

def undefA : AV := .v (.tuple #[])

def AV.cells : AV → List AV
  | .agg l => l
  | x => [x]

/-- May it stand in one cell? -/
def AV.one : AV → Bool
  | .junk | .agg _ | .tup _ => false
  | .v (.tuple _) => false
  | _ => true

def aggOf (t : TypeId) (P : Program) : Option Bool :=
  match P.underlying t with
  | some (.struct _) | some (.array _ _) => some true
  | some _ => some false
  | none => none

def szOf (P : Program) (t : TypeId) : Option Nat := (P.info? t).map (·.size)

/-- The value of a program that neither reads nor writes memory. -/
def peval (P : Program) {α : Type} : Sem α → Option α
  | .pure a => some a
  | .program k => peval P (k P)
  | .mark _ k => peval P k
  | _ => none

def ofV (x : Value) : Option AV := if flat x then some (.v x) else none

def chunks (sz : Nat) : Nat → List AV → List (List AV)
  | 0, _ => []
  | n + 1, l => l.take sz :: chunks sz n (l.drop sz)

def AS.push (S : AS) (o : AObj) : AS := { S with objs := S.objs ++ [o] }
def AS.set (S : AS) (i : Nat) (o : AObj) : AS := { S with objs := S.objs.set i o, low := min S.low i }
def AS.tokN (S : AS) (e : Nat) : AS := { S with ends := S.ends ++ [e] }
def AS.tokS (S : AS) (t e : Nat) : AS := { S with ends := S.ends.set t e, tlow := min S.tlow t }

/-- What a load reads out of cells. -/
def pick (P : Program) (t : TypeId) (l : List AV) (off : Nat) : Option AV :=
  match aggOf t P with
  | some true => (szOf P t).bind fun n => if off + n ≤ l.length then some (.agg ((l.drop off).take n)) else none
  | some false => l[off]?
  | none => none

def AS.cellsAt (S : AS) (o : Nat) : Option (List AV × TypeId) :=
  match S.objs[o]? with
  | some (.cells l T) => some (l, T)
  | _ => none

def AS.mapAt (S : AS) (o : Nat) : Option (List AEnt × Nat) :=
  match S.objs[o]? with
  | some (.map es c) => some (es, c)
  | _ => none

def aload (P : Program) (S : AS) (t : TypeId) : AV → Option AV
  | .ptr o off => (S.cellsAt o).bind fun p => pick P t p.1 off
  | .eptr row off => pick P t row off
  | _ => none

def splice (l : List AV) (off : Nat) (xs : List AV) : List AV := l.take off ++ xs ++ l.drop (off + xs.length)

def astore (P : Program) (S : AS) (t : TypeId) (x : AV) : AV → Option AS
  | .ptr o off => (S.cellsAt o).bind fun p =>
      if x.cells.all AV.one && szOf P t == some x.cells.length && decide (off + x.cells.length ≤ p.1.length) then some (S.set o (.cells (splice p.1 off x.cells) p.2)) else none
  | _ => none

def afield (P : Program) (s : TypeId) (f : Nat) : Option (Nat × TypeId) :=
  match P.underlying s with
  | some (.struct fs) => (fs[f]?).bind fun x => if szOf P x.type = some 0 then none else if (szOf P x.type).isSome then some (x.offset, x.type) else none
  | _ => none

def afieldAddr (P : Program) (s : TypeId) (f : Nat) : AV → Option AV
  | .ptr o off => (afield P s f).map fun p => .ptr o (off + p.1)
  | .eptr row off => (afield P s f).map fun p => .eptr row (off + p.1)
  | _ => none

def apart (P : Program) (t : TypeId) (l : List AV) (off : Nat) : Option AV := pick P t l off

def aintOf : AV → Option Int
  | .v (.int _ n) => some n
  | _ => none

def aindexAddr (P : Program) (t : TypeId) (x i : AV) : Option AV :=
  (aintOf i).bind fun i =>
  match P.underlying t, x with
  | some (.slice e), .lst _ rows => if 0 ≤ i then (rows[i.toNat]?).bind fun r => if szOf P e = some r.length then some (.eptr r 0) else none else none
  | some (.slice e), .slc o sz off len _ => if 0 ≤ i ∧ i < len ∧ szOf P e = some sz then some (.ptr o (off + i.toNat * sz)) else none
  | some (.array n e), .ptr o off => (szOf P e).bind fun sz => if 0 ≤ i ∧ i < n then some (.ptr o (off + i.toNat * sz)) else none
  | some (.array n e), .eptr row off => (szOf P e).bind fun sz => if 0 ≤ i ∧ i < n then some (.eptr row (off + i.toNat * sz)) else none
  | _, _ => none

def afill (place : Nat → Option (Nat × Nat)) (cells : List AV) : List (Nat × AV) → Option (List AV)
  | [] => some cells
  | (i, x) :: rest =>
    (place i).bind fun p =>
      if x.cells.length = p.2 ∧ x.cells.all AV.one ∧ p.1 + x.cells.length ≤ cells.length then afill place (splice cells p.1 x.cells) rest else none

def azero (P : Program) (t : TypeId) : Option (List AV) :=
  (P.info? t).bind fun i => (i.zero).bind fun z => if z.cells.toList.all flat then some (z.cells.toList.map .v) else none

/-- The zero value as one value. -/
def azeroV (P : Program) (t : TypeId) : Option AV :=
  (P.info? t).bind fun i => (i.zero).bind fun z =>
    match z with
    | .agg cs => if cs.toList.all flat then some (.agg (cs.toList.map .v)) else none
    | z => if flat z then some (.v z) else none

def abuild (P : Program) (t : TypeId) (parts : List (Nat × AV)) : Option AV :=
  (azero P t).bind fun z =>
  match P.underlying t with
  | some (.struct fs) =>
    (fs.toList.mapM fun f => (P.info? f.type).map fun i => (f.offset, i.size)).bind fun places => (afill (places.toArray[·]?) z parts).map .agg
  | some (.array _ e) => (P.info? e).bind fun ie => (afill (fun i => some (i * ie.size, ie.size)) z parts).map .agg
  | _ => none

def isRow (P : Program) (t : TypeId) : Option (TypeId × Nat) :=
  match P.underlying t with
  | some (.slice e) => (szOf P e).bind fun sz => if sz = 0 then none else some (e, sz)
  | _ => none

def abuildSlice (P : Program) (mu : Bool) (S : AS) (t : TypeId) (len : Nat) (parts : List (Nat × AV)) : Option (AV × AS) :=
  (isRow P t).bind fun p => (azero P p.1).bind fun z =>
    if z.length = p.2 ∧ len * p.2 ≤ 2 ^ 24 ∧ len ≤ maxLen then
      (afill (fun i => some (i * p.2, p.2)) (List.replicate len z).flatten parts).map fun cs =>
        if mu then (.slc S.objs.length p.2 0 len len, S.push (.cells cs p.1)) else (.lst .exact (chunks p.2 len cs), S)
    else none

def amakeSlice (P : Program) (mu : Bool) (S : AS) (t : TypeId) (l c : AV) : Option (AV × AS) :=
  (isRow P t).bind fun p => (azero P p.1).bind fun z => (P.info? p.1).bind fun i => (aintOf l).bind fun l => (aintOf c).bind fun c =>
    if z.length = p.2 ∧ 0 ≤ l ∧ l ≤ c ∧ c ≤ 4611686018427387904 ∧ (i.bytes : Int) * c ≤ 2 ^ 47 then
      if mu then some (.slc S.objs.length p.2 0 l.toNat c.toNat, S.push (.cells (List.replicate c.toNat z).flatten p.1))
      else if l = c then some (.lst .exact (List.replicate l.toNat z), S) else none
    else none

/-- The open end of a part of a list. -/
def capOf : Cap → Bool → Cap
  | .any, _ => .any
  | .exact, b => cond b .exact .unk
  | .tok t e s, b => cond b (.tok t e s) .unk
  | .unk, _ => .unk

def aslice (P : Program) (t : TypeId) (x : AV) (lo hi mx : Option AV) : Option AV :=
  let n (d : Nat) (o : Option AV) : Option Int := match o with | none => some d | some x => aintOf x
  match P.underlying t, x with
  | some .string, .v (.string s) => (n 0 lo).bind fun l => (n s.size hi).bind fun h => if mx.isNone ∧ 0 ≤ l ∧ l ≤ h ∧ h ≤ s.size then some (.v (.string (s.extract l.toNat h.toNat))) else none
  | some (.slice e), .lst c rows => (n 0 lo).bind fun l => (n rows.length hi).bind fun h =>
      if 0 ≤ l ∧ l ≤ h ∧ h ≤ rows.length ∧ (l = 0 ∨ (rows.head?).map List.length = szOf P e) ∧ (szOf P e).isSome then
        match mx with
        | none => some (.lst (capOf c (decide (h = (rows.length : Int)))) ((rows.take h.toNat).drop l.toNat))
        | some m => (aintOf m).bind fun m => if m = h ∧ hi.isSome ∧ c ≠ .any ∧ (c = .unk → rows ≠ []) then some (.lst .exact ((rows.take h.toNat).drop l.toNat)) else none
      else none
  | some (.slice e), .slc o sz off len cap => (n 0 lo).bind fun l => (n len hi).bind fun h =>
      if 0 ≤ l ∧ l ≤ h ∧ h ≤ cap ∧ szOf P e = some sz then
        match mx with
        | none => if l = 0 then some (.slc o sz off h.toNat cap) else if l < cap then some (.slc o sz (off + l.toNat * sz) (h - l).toNat (cap - l.toNat)) else some (.lst .unk [])
        | some _ => none
      else none
  | some (.slice _), .v (.slice none 0 0) => (n 0 lo).bind fun l => (n 0 hi).bind fun h => if mx.isNone ∧ l = 0 ∧ h = 0 ∧ (isRow P t).isSome then some (.v (.slice none 0 0)) else none
  | _, _ => none

/-- Keys: are they the same? 'none' where that is not known. -/
def keyEq (d : TypeDesc) : AV → AV → Option Bool
  | .v a, .v b => Instr.sameNow d a b
  | _, _ => none

def afind (d : TypeDesc) (k : AV) : List AEnt → Nat → Option (Option (Nat × AV))
  | [], _ => some none
  | e :: es, i =>
    match keyEq d k e.key with
    | some true => some (some (i, e.val))
    | some false => afind d k es (i + 1)
    | none => none

def isKeyB : TypeDesc → AV → Bool
  | .int k, .v (.int k' _) => decide (k' = k)
  | .string, .v (.string _) | .bool, .v (.bool _) => true
  | _, _ => false

def flatsV : List AV → Option (List Value)
  | [] => some []
  | .v x :: l => (flatsV l).map fun r => x :: r
  | _ :: _ => none

/-- A key of several parts, each without an address. -/
def keyV : AV → Option Value
  | .agg l => (flatsV l).map fun vs => .agg vs.toArray
  | _ => none

def afindG (P : Program) (kt : TypeId) (k : Value) : List AEnt → Nat → Option (Option (Nat × AV))
  | [], _ => some none
  | e :: es, i => (keyV e.key).bind fun kv => (peval P (Op.equal kt k kv)).bind fun b => if b then some (some (i, e.val)) else afindG P kt k es (i + 1)

def aentries (S : AS) : AV → Option (List AEnt)
  | .v (.map none) => some []
  | .mp o => (S.mapAt o).map Prod.fst
  | _ => none

def alookup (P : Program) (S : AS) (t : TypeId) (m k : AV) (ok : Bool) : Option AV :=
  match P.underlying t with
  | some (.map kt e) =>
    (P.underlying kt).bind fun d =>
    if isKeyB d k then
      (match m with
        | .v (.map none) => some ([] : List AEnt)
        | .mp o => (S.mapAt o).map Prod.fst
        | _ => (none : Option (List AEnt))).bind fun es =>
      (afind d k es 0).bind fun r =>
        match r with
        | some (_, x) => some (if ok then .tup [x, .v (.bool true)] else x)
        | none => (azeroV P e).bind fun z => some (if ok then .tup [z, .v (.bool false)] else z)
    else
      (aentries S m).bind fun es => (keyV k).bind fun kv => (peval P (Instr.checkKey es.isEmpty 10000 kt kv)).bind fun _ => (afindG P kt kv es 0).bind fun r =>
        match r with
        | some (_, x) => some (if ok then .tup [x, .v (.bool true)] else x)
        | none => (azeroV P e).bind fun z => some (if ok then .tup [z, .v (.bool false)] else z)
  | _ => none

def amapUpdate (P : Program) (S : AS) (t : TypeId) (m k x : AV) : Option AS :=
  match P.underlying t, m with
  | some (.map kt _), .mp o =>
    (P.underlying kt).bind fun d =>
    if isKeyB d k then
      (S.mapAt o).bind fun p => (afind d k p.1 0).bind fun r =>
        match r with
        | some (i, _) => some (S.set o (.map (p.1.modify i fun e => { e with key := k, val := x }) p.2))
        | none => some (S.set o (.map (p.1 ++ [{ key := k, val := x, born := p.2 }]) (p.2 + 1)))
    else
      (S.mapAt o).bind fun p => (keyV k).bind fun kv => (peval P (Instr.checkKey false 10000 kt kv)).bind fun _ => (afindG P kt kv p.1 0).bind fun r =>
        match r with
        | some _ => none
        | none => some (S.set o (.map (p.1 ++ [{ key := k, val := x, born := p.2 }]) (p.2 + 1)))
  | _, _ => none

def nilP : AV → Option Bool
  | .v (.pointer none) => some true
  | .ptr _ _ | .eptr _ _ => some false
  | _ => none
def nilS : AV → Option Bool
  | .v (.slice none 0 0) => some true
  | .lst .any [] => none
  | .lst _ _ | .slc _ _ _ _ _ => some false
  | _ => none
def nilM : AV → Option Bool
  | .v (.map none) => some true
  | .mp _ => some false
  | _ => none
def nilF : AV → Option Bool
  | .v .nilFunc => some true
  | .fn _ _ _ | .yld _ => some false
  | _ => none

def bothNil (p q : Option Bool) : Option Bool := p.bind fun p => q.bind fun q => if p || q then some (p && q) else none

/-- '==' on what is no scalar: against nil, or of two pointers into the store. -/
def aeq (P : Program) (S : AS) (t : TypeId) (x y : AV) : Option Bool :=
  match P.underlying t with
  | some (.pointer e) =>
    match x, y with
    | .ptr o a, .ptr o' b => (szOf P e).bind fun n => if n = 0 then none else if o = o' then some (a == b) else if (S.cellsAt o).isSome && (S.cellsAt o').isSome then some false else none
    | _, _ => bothNil (nilP x) (nilP y)
  | some (.slice _) => bothNil (nilS x) (nilS y)
  | some (.map _ _) => bothNil (nilM x) (nilM y)
  | some (.func _ _ _) => bothNil (nilF x) (nilF y)
  | _ => none

def abin (P : Program) (S : AS) (op : BinOp) (t : TypeId) (x y : AV) : Option AV :=
  match x, y with
  | .v (.int k a), .v (.int k' b) => (peval P (binOp op t (.int k a) (.int k' b))).bind ofV
  | .v (.string a), .v (.string b) => (peval P (binOp op t (.string a) (.string b))).bind ofV
  | .v (.bool a), .v (.bool b) => (peval P (binOp op t (.bool a) (.bool b))).bind ofV
  | .agg l, .agg m => (keyV (.agg l)).bind fun a => (keyV (.agg m)).bind fun b => (peval P (eqGuard op t (.tmp 0) (.tmp 0) a b)).bind fun _ => (peval P (binOp op t a b)).bind ofV
  | _, _ =>
    match op with
    | .eql => (aeq P S t x y).map fun b => .v (.bool b)
    | .neq => (aeq P S t x y).map fun b => .v (.bool (!b))
    | _ => none

/-- '[]byte(s)'. -/
def abytes (P : Program) (src dst : TypeId) : AV → Option AV
  | .v (.string s) =>
    match P.underlying src, P.underlying dst with
    | some .string, some (.slice e) =>
      match P.underlying e with
      | some (.int .u8) => if s.size ≤ maxLen then some (.lst .unk (s.data.toList.map fun b => [.v (.int .u8 b.toNat)])) else none
      | _ => none
    | _, _ => none
  | _ => none

def aconvert (P : Program) (src dst : TypeId) (x : AV) : Option AV :=
  match abytes P src dst x with
  | some y => some y
  | none =>
  match x with
  | .v x => (peval P (convert src dst x)).bind ofV
  | _ => none

def aindex (P : Program) (t : TypeId) (x i : AV) : Option AV :=
  (aintOf i).bind fun n =>
  match P.underlying t, x with
  | some .string, .v (.string s) => if 0 ≤ n then (s[n.toNat]?).map fun b => .v (.int .u8 b.toNat) else none
  | some (.array len e), .agg l => if 0 ≤ n ∧ n < len then (szOf P e).bind fun sz => apart P e l (n.toNat * sz) else none
  | _, _ => none

def aextract : AV → Nat → Option AV
  | .tup l, i => l[i]?
  | _, _ => none

/-- The elements of a slice. -/
def rowsOf (S : AS) (sz : Nat) : AV → Option (List (List AV))
  | .v (.slice none 0 0) => some []
  | .lst _ rows => if rows.all (fun r => r.length == sz && r.all AV.one) then some rows else none
  | .slc o sz' off len _ => if sz' = sz then (S.cellsAt o).bind fun p => if ((p.1.drop off).take (len * sz)).length = len * sz ∧ ((p.1.drop off).take (len * sz)).all AV.one then some (chunks sz len ((p.1.drop off).take (len * sz))) else none else none
  | _ => none

def aappend (P : Program) (mu : Bool) (S : AS) (t : TypeId) (s x : AV) : Option (AV × AS) :=
  (isRow P t).bind fun p => (azero P p.1).bind fun z => (P.info? p.1).bind fun i => (rowsOf S p.2 x).bind fun rows =>
    if z.length ≠ p.2 then none else
    match s with
    | .v (.slice none 0 0) =>
      if rows.length = 0 then some (s, S)
      else if rows.length * i.bytes ≤ 140737488355328 ∧ rows.length ≤ maxLen then
        if mu then some (.slc S.objs.length p.2 0 rows.length rows.length, S.push (.cells rows.flatten p.1)) else some (.lst (.tok S.ends.length rows.length p.2) rows, S.tokN rows.length)
      else none
    | .lst c rows0 =>
      if rows.length = 0 then some (s, S)
      else if rows0.all (fun r => r.length == p.2) ∧ (rows0.length + rows.length) * i.bytes ≤ 140737488355328 ∧ rows0.length + rows.length ≤ maxLen then
        match c with
        | .exact => if mu then some (.slc S.objs.length p.2 0 (rows0.length + rows.length) (rows0.length + rows.length), S.push (.cells (rows0.flatten ++ rows.flatten) p.1)) else some (.lst (.tok S.ends.length (rows0.length + rows.length) p.2) (rows0 ++ rows), S.tokN (rows0.length + rows.length))
        | .tok t e s => if S.ends[t]? = some e ∧ s = p.2 then some (.lst (.tok t (e + rows.length) s) (rows0 ++ rows), S.tokS t (e + rows.length)) else none
        | .unk => none
        | .any => none
      else none
    | .slc o sz off len cap =>
      if sz = p.2 then
        if rows.length = 0 then some (s, S)
        else (S.cellsAt o).bind fun q =>
          if len + rows.length ≤ cap ∧ off + cap * sz ≤ q.1.length then some (.slc o sz off (len + rows.length) cap, S.set o (.cells (splice q.1 (off + len * sz) rows.flatten) q.2))
          else if cap < len + rows.length ∧ off = 0 ∧ q.2 = p.1 ∧ (len + rows.length) * i.bytes ≤ 140737488355328 ∧ len + rows.length ≤ maxLen ∧ len * sz ≤ q.1.length then
            some (.slc S.objs.length sz 0 (len + rows.length) (len + rows.length), (S.set o .dead).push (.cells (q.1.take (len * sz) ++ rows.flatten) p.1))
          else none
      else none
    | _ => none

def alen (P : Program) (S : AS) (t : TypeId) (x : AV) : Option AV :=
  match P.underlying t with
  | some .string => match x with | .v (.string s) => some (.v (.int .i64 s.size)) | _ => none
  | some (.array n _) => some (.v (.int .i64 n))
  | some (.slice _) => match x with | .v (.slice none 0 0) => some (.v (.int .i64 0)) | .lst _ rows => some (.v (.int .i64 rows.length)) | .slc _ _ _ len _ => some (.v (.int .i64 len)) | _ => none
  | some (.map _ _) => match x with | .v (.map none) => some (.v (.int .i64 0)) | .mp o => (S.mapAt o).map fun p => .v (.int .i64 p.1.length) | _ => none
  | _ => none

def acopy (P : Program) (S : AS) (t : TypeId) (d x : AV) : Option (AV × AS) :=
  (isRow P t).bind fun p => (rowsOf S p.2 x).bind fun rows =>
    match d with
    | .v (.slice none 0 0) => some (.v (.int .i64 0), S)
    | .lst _ [] => some (.v (.int .i64 0), S)
    | .slc o sz off len _ =>
      if sz = p.2 then (S.cellsAt o).bind fun q =>
        if off + min rows.length len * sz ≤ q.1.length then some (.v (.int .i64 (min rows.length len : Nat)), S.set o (.cells (splice q.1 off (rows.take (min rows.length len)).flatten) q.2)) else none
      else none
    | _ => none

/-- 'append(nil, make([]T, n)...)': the translation hands over the number. -/
def zerosA (z : List AV) (n : Nat) : List AV := (List.range (n * z.length)).map fun i => (z[i % z.length]?).getD undefA

def aappendN (P : Program) (mu : Bool) (S : AS) (t tn : TypeId) (s x : AV) : Option (AV × AS) :=
  match s, x, P.underlying tn with
  | .v (.slice none 0 0), .v (.int _ (.ofNat n)), some (.int _) =>
    (isRow P t).bind fun p => (azero P p.1).bind fun z => (P.info? p.1).bind fun i =>
      if z.length = p.2 ∧ mu = true ∧ 0 < n ∧ n * i.bytes ≤ 140737488355328 ∧ n ≤ maxLen then some (.slc S.objs.length p.2 0 n n, S.push (.cells (zerosA z n) p.1)) else none
  | _, _, _ => none

/-- 'clear' of a slice: nothing is said of what stands there behind it. -/
def aclear (P : Program) (S : AS) (t : TypeId) (x : AV) : Option AS :=
  (isRow P t).bind fun p => (azero P p.1).bind fun z =>
    match x with
    | .lst _ [] => some S
    | .v (.slice none 0 0) => some S
    | .slc o sz off len _ =>
      if sz = p.2 ∧ z.length = p.2 ∧ z.all AV.one ∧ 0 < len then (S.cellsAt o).bind fun q => if off + len * sz ≤ q.1.length then some (S.set o (.cells (splice q.1 off (List.replicate (len * sz) .junk)) q.2)) else none
      else if len = 0 then some S else none
    | _ => none

def abuiltin (P : Program) (mu : Bool) (S : AS) (b : Builtin) (ts : Array TypeId) (type : TypeId) (args : List AV) : Option (AV × AS) :=
  match b, args with
  | .len, [x] => (ts[0]?).bind fun t => (alen P S t x).map fun v => (v, S)
  | .append, [s, x] => (ts[0]?).bind fun t => if ts[1]? = some t then aappend P mu S t s x else (ts[1]?).bind fun tn => aappendN P mu S t tn s x
  | .copy, [d, x] => (ts[0]?).bind fun t => if ts[1]? = some t then acopy P S t d x else none
  | .min, l => (flatsV l).bind fun vs => ((peval P (Builtin.min_ ts type vs.toArray)).bind ofV).map fun v => (v, S)
  | .max, l => (flatsV l).bind fun vs => ((peval P (Builtin.max_ ts type vs.toArray)).bind ofV).map fun v => (v, S)
  | .clear, [x] => (ts[0]?).bind fun t => (aclear P S t x).map fun S' => (undefA, S')
  | .cap, [.v (.slice none 0 0)] => (ts[0]?).bind fun t => if (isRow P t).isSome then some (.v (.int .i64 0), S) else none
  | _, _ => none

/-- '==' and '!=' of interface values, one of them nil. -/
def nilI : AV → Option Bool
  | .v .nilIface => some true
  | .ifc _ _ => some false
  | _ => none

def constOp : Operand → Bool
  | .const _ => true
  | _ => false

def aifc (P : Program) (c : Bool) (op : BinOp) (t : TypeId) (x y : AV) : Option AV :=
  match P.underlying t with
  | some (.interface _) =>
    (nilI x).bind fun p => (nilI y).bind fun q =>
      if (p && q && c) || (p != q) then
        match op with
        | .eql => some (.v (.bool (p && q)))
        | .neq => some (.v (.bool (!(p && q))))
        | _ => none
      else none
  | _ => none

def abinI (P : Program) (S : AS) (c : Bool) (op : BinOp) (t : TypeId) (x y : AV) : Option AV :=
  match aifc P c op t x y with
  | some v => some v
  | none => abin P S op t x y

/-- A range over a string: its iterator; the next rune. -/
def arange0 (P : Program) (S : AS) (t : TypeId) : AV → Option (AV × AS)
  | .v (.string s) => match P.underlying t with | some .string => some (.ptr S.objs.length 0, S.push (.iter s 0)) | _ => none
  | _ => none

def anext (S : AS) : AV → Bool → Option (AV × AS)
  | .ptr o 0, true =>
    match S.objs[o]? with
    | some (.iter s pos) =>
      if pos < s.size then some (.tup [.v (.bool true), .v (.int .i64 pos), .v (.int .i32 (Utf8.decode s pos).1)], S.set o (.iter s (pos + (Utf8.decode s pos).2)))
      else some (.tup [.v (.bool false)], S)
    | _ => none
  | _, _ => none

def u8s : List (List AV) → Option (List Int)
  | [] => some []
  | [.v (.int .u8 n)] :: l => match u8s l with | some ns => some (n :: ns) | none => none
  | _ => none

/-- 'string(b)' of bytes. -/
def astr (P : Program) (S : AS) (src dst : TypeId) (x : AV) : Option AV :=
  match P.underlying src, P.underlying dst with
  | some (.slice e), some .string =>
    match P.underlying e with
    | some (.int .u8) => (rowsOf S 1 x).bind fun rows => (u8s rows).map fun ns => .v (.string (ns.foldl (fun s n => s.push (UInt8.ofNat n.toNat)) ByteArray.empty))
    | _ => none
  | _, _ => none

/-- One operation that enters no Go function: its value and the store behind it. -/
def aexec (P : Program) (mu : Bool) (S : AS) (ρ : Operand → AV) (op : Op) : Option (AV × AS) :=
  let r (o : Option AV) : Option (AV × AS) := o.map fun x => (x, S)
  let u (o : Option AS) : Option (AV × AS) := o.map fun S => (undefA, S)
  match op with
  | .move x | .assign x => some (ρ x, S)
  | .pick c a b => match ρ c with | .v (.bool t) => some (cond t (ρ a) (ρ b), S) | _ => none
  | .alloc e => (azero P e).map fun z => (.ptr S.objs.length 0, S.push (.cells z e))
  | .box e x => if (match ρ x with | .junk => true | _ => false) then none else some (.ptr S.objs.length 0, S.push (.cells (ρ x).cells e))
  | .build t parts => r (abuild P t (parts.toList.map fun p => (p.1, ρ p.2)))
  | .buildSlice t len parts => abuildSlice P mu S t len (parts.toList.map fun p => (p.1, ρ p.2))
  | .load t a => r (aload P S t (ρ a))
  | .store t a x => u (astore P S t (ρ x) (ρ a))
  | .nilCheck x => match ρ x with | .ptr o b => some (.ptr o b, S) | .eptr l b => some (.eptr l b, S) | _ => none
  | .binOp op t x y _ => r (abinI P S (constOp x || constOp y) op t (ρ x) (ρ y))
  | .unOp op _ x => r (match ρ x with | .v x => (peval P (Op.unary op x)).bind ofV | _ => none)
  | .convert s d x => r (match astr P S s d (ρ x) with | some y => some y | none => aconvert P s d (ρ x))
  | .makeFunc f first caps => some (.fn f (first.toList.map ρ) (caps.toList.map ρ), S)
  | .makeMap _ none => some (.mp S.objs.length, S.push (.map [] 0))
  | .makeSlice t l c => amakeSlice P mu S t (ρ l) (ρ c)
  | .slice t x lo hi mx => r (aslice P t (ρ x) (lo.map ρ) (hi.map ρ) (mx.map ρ))
  | .fieldAddr s x f => r (afieldAddr P s f (ρ x))
  | .field t x f => r (match ρ x with | .agg l => (afield P t f).bind fun p => apart P p.2 l p.1 | _ => none)
  | .indexAddr t x i => r (aindexAddr P t (ρ x) (ρ i))
  | .index t x i => r (aindex P t (ρ x) (ρ i))
  | .lookup t m k ok => r (alookup P S t (ρ m) (ρ k) ok)
  | .mapUpdate t m k x => u (amapUpdate P S t (ρ m) (ρ k) (ρ x))
  | .insert t m k x => u (amapUpdate P S t (ρ m) (ρ k) (ρ x))
  | .range t x => arange0 P S t (ρ x)
  | .next it b => anext S (ρ it) b
  | .extract t i => r (aextract (ρ t) i)
  | .makeInterface t x => match P.underlying t with | some (.interface _) | none => none | _ => some (.ifc t (ρ x), S)
  | _ => none

end Go.AM
