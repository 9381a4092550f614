/- The pure step of an operation over states as values. No program stands here. -/
import Derived.Test.YtfcbpdokilidgaaVsA
namespace Go.Proofs.Ytfcbpdokilidgaa
open Go Go.RowKit
set_option linter.unusedVariables false
set_option linter.unusedSimpArgs false

def szT (P : Program) (t : TypeId) : Option Nat := (P.info? t).map (·.size)
def byT (P : Program) (t : TypeId) : Option Nat := (P.info? t).map (·.bytes)
def zeroT (P : Program) (t : TypeId) : Option Value := (P.info? t).bind (·.zero)
def aggT (P : Program) (t : TypeId) : Bool := match P.underlying t with
  | some (.struct _) | some (.array _ _) => true
  | _ => false

def constV : Value → Option V
  | .agg cs => if cs.all flat then some (.agg (cs.toList.map V.sc)) else none
  | .tuple vs => if vs.size = 0 then some .undef else none
  | v => if flat v then some (.sc v) else none
def evV (tm : List V) : Operand → Option V
  | .tmp t => tm[t]?
  | .const v => constV v
  | .global _ => none
  | .func f => some (.fn f [])

def intBin (op : BinOp) (k : IntKind) (x y : Int) : Option Value :=
  match op with
  | .add => some (.int k (k.wrap (x + y)))
  | .sub => some (.int k (k.wrap (x - y)))
  | .mul => some (.int k (k.wrap (x * y)))
  | .quo => if y = 0 then none else some (.int k (k.wrap (x.tdiv y)))
  | .rem => if y = 0 then none else some (.int k (x.tmod y))
  | .and => some (.int k (k.wrap (BitVec.ofInt k.bits x &&& BitVec.ofInt k.bits y).toNat))
  | .or => some (.int k (k.wrap (BitVec.ofInt k.bits x ||| BitVec.ofInt k.bits y).toNat))
  | .xor => some (.int k (k.wrap (BitVec.ofInt k.bits x ^^^ BitVec.ofInt k.bits y).toNat))
  | .andNot => some (.int k (k.wrap (BitVec.ofInt k.bits x &&& ~~~ BitVec.ofInt k.bits y).toNat))
  | .eql => some (.bool (x == y))
  | .neq => some (.bool (x != y))
  | .lss => some (.bool (decide (x < y)))
  | .leq => some (.bool (decide (x ≤ y)))
  | .gtr => some (.bool (decide (x > y)))
  | .geq => some (.bool (decide (x ≥ y)))
  | _ => none
def strBin (op : BinOp) (x y : ByteArray) : Option Value :=
  match op with
  | .add => if x.size + y.size ≤ 140737488355328 then some (.string (x ++ y)) else none
  | .eql => some (.bool (x.toList == y.toList))
  | .neq => some (.bool !(x.toList == y.toList))
  | .lss => some (.bool (Op.bytesLess x.toList y.toList))
  | .leq => some (.bool (Op.bytesLess x.toList y.toList || x.toList == y.toList))
  | .gtr => some (.bool !(Op.bytesLess x.toList y.toList || x.toList == y.toList))
  | .geq => some (.bool !(Op.bytesLess x.toList y.toList))
  | _ => none
def scBin (P : Program) (op : BinOp) (t : TypeId) (a b : Value) : Option Value :=
  match a, b with
  | .int k x, .int k' y =>
    match op with
    | .shl => if y < 0 then none else some (.int k (k.wrap (x * 2 ^ (min y.toNat k.bits))))
    | .shr => if y < 0 then none else some (.int k (x.fdiv (2 ^ (min y.toNat k.bits))))
    | op => if k = k' then intBin op k x y else none
  | .string x, .string y => strBin op x y
  | .bool x, .bool y =>
    match P.underlying t, op with
    | some .bool, .eql => some (.bool (x == y))
    | some .bool, .neq => some (.bool !(x == y))
    | _, _ => none
  | .pointer none, .pointer none =>
    match P.underlying t, op with
    | some (.pointer _), .eql => some (.bool true)
    | some (.pointer _), .neq => some (.bool false)
    | _, _ => none
  | _, _ => none
/-- Two rows of whole numbers. -/
def eqInts : List V → List V → Option Bool
  | [], [] => some true
  | .d (.sc (.int k a)) :: xs, .d (.sc (.int k' b)) :: ys => if k = k' then (eqInts xs ys).map fun r => (a == b) && r else none
  | _, _ => none
def isIntT (P : Program) (t : TypeId) : Bool := match P.underlying t with
  | some (.int _) => true
  | _ => false
def eqV (P : Program) (t : TypeId) (xs ys : List V) : Option Bool :=
  match P.underlying t with
  | some (.array n e) => if isIntT P e = true ∧ szT P e = some 1 ∧ P.eqGuardType P.depth t = false ∧ xs.length = n ∧ ys.length = n then eqInts xs ys else none
  | _ => none
def isPtrT (P : Program) (t : TypeId) : Bool := match P.underlying t with
  | some (.pointer _) => true
  | _ => false
def binV (P : Program) (op : BinOp) (t : TypeId) : V → V → Option V
  | .d (.sc a), .d (.sc b) => (scBin P op t a b).map V.sc
  | .ptr _ _, .d (.sc (.pointer none)) => if isPtrT P t then match op with
    | .eql => some (.sc (.bool false))
    | .neq => some (.sc (.bool true))
    | _ => none else none
  | .agg xs, .agg ys => match op with
    | .eql => (eqV P t xs ys).map fun b => .sc (.bool b)
    | .neq => (eqV P t xs ys).map fun b => .sc (.bool !b)
    | _ => none
  | _, _ => none
def unV (op : UnOp) : V → Option V
  | .d (.sc (.int k n)) => match op with
    | .neg => some (.sc (.int k (k.wrap (0 - n))))
    | .xor => some (.sc (.int k (k.wrap (BitVec.ofInt k.bits (if k.signed then -1 else k.max) ^^^ BitVec.ofInt k.bits n).toNat)))
    | _ => none
  | .d (.sc (.bool b)) => match op with
    | .not => some (.sc (.bool !b))
    | _ => none
  | _ => none

/-- A slice's elements; k: the cells of one. -/
def esOf (k : Nat) : V → Option (List (List D))
  | .d (.sl k' es) => if k' = k then some es else none
  | .own k' es _ => if k' = k then some es else none
  | .full k' es => if k' = k then some es else none
  | .d (.sc (.slice none 0 0)) => some []
  | _ => none
def bs (l : List UInt8) : List (List D) := l.map fun b => [.sc (.int .u8 b.toNat)]
def unbs : List (List D) → Option (List UInt8)
  | [] => some []
  | [.sc (.int .u8 n)] :: es => if 0 ≤ n ∧ n < 256 then (unbs es).map fun l => UInt8.ofNat n.toNat :: l else none
  | _ => none

def toD : V → Option D
  | .d x => some x
  | .own k es _ => some (.sl k es)
  | .full k es => some (.sl k es)
  | _ => none
def toDs : List V → Option (List D)
  | [] => some []
  | v :: vs => match toD v, toDs vs with
    | some x, some xs => some (x :: xs)
    | _, _ => none
def isOne : V → Bool
  | .agg _ | .tup _ => false
  | _ => true
def cellsV : V → List V
  | .agg cs => cs
  | v => [v]

def knownT (P : Program) (t : TypeId) : Bool := (P.underlying t).isSome
def loadV (P : Program) (h : List Ho) (t : TypeId) : V → Option V
  | .ptr o off => match h[o]? with
    | some (.cells cs) =>
      if aggT P t then match szT P t with
        | some n => if off + n ≤ cs.length then some (.agg ((cs.drop off).take n)) else none
        | none => none
      else cs[off]?
    | _ => none
  | .ep cs off =>
      if aggT P t then match szT P t with
        | some n => if off + n ≤ cs.length then some (.agg (((cs.drop off).take n).map V.d)) else none
        | none => none
      else (cs[off]?).map V.d
  | _ => none
def storeV (P : Program) (h : List Ho) (t : TypeId) (p v : V) : Option (List Ho) :=
  match p with
  | .ptr o off => match h[o]? with
    | some (.cells cs) => if szT P t = some (cellsV v).length ∧ (cellsV v).all isOne = true ∧ off + (cellsV v).length ≤ cs.length
        then some (h.set o (.cells (cs.take off ++ cellsV v ++ cs.drop (off + (cellsV v).length)))) else none
    | _ => none
  | _ => none

def fieldOf (P : Program) (s : TypeId) (f : Nat) : Option (Nat × TypeId) := match P.underlying s with
  | some (.struct fs) => match fs[f]? with
    | some x => if szT P x.type = none ∨ szT P x.type = some 0 then none else some (x.offset, x.type)
    | none => none
  | _ => none
def partV (P : Program) (t : TypeId) (cs : List V) (off : Nat) : Option V :=
  if aggT P t then match szT P t with
    | some n => some (.agg ((cs.drop off).take n))
    | none => none
  else cs[off]?

def intOfV : V → Option Int
  | .d (.sc (.int _ n)) => some n
  | _ => none

def sliceTV (P : Program) (t : TypeId) : Option Nat := match P.underlying t with
  | some (.slice e) => szT P e
  | _ => none
def indexAtV (P : Program) (t : TypeId) (x i : V) : Option V :=
  match intOfV i with
  | none => none
  | some n =>
    if 0 ≤ n then
      match P.underlying t, x with
      | some (.slice e), x => match szT P e with
        | some k => match x with
          | .hs k' o off len => if k' = k ∧ n < len then some (.ptr o (off + n.toNat * k)) else none
          | x => match esOf k x with
            | some es => (es[n.toNat]?).map fun c => .ep c 0
            | none => none
        | none => none
      | some (.array len e), .ptr o off => match szT P e with
        | some k => if n < len then some (.ptr o (off + n.toNat * k)) else none
        | none => none
      | some (.array len e), .ep c off => match szT P e with
        | some k => if n < len then some (.ep c (off + n.toNat * k)) else none
        | none => none
      | _, _ => none
    else none
def indexV (P : Program) (t : TypeId) (x i : V) : Option V :=
  match intOfV i with
  | none => none
  | some n =>
    if 0 ≤ n then
      match P.underlying t, x with
      | some (.array len e), .agg cs => match szT P e with
        | some k => if n < len ∧ knownT P e = true then partV P e cs (n.toNat * k) else none
        | none => none
      | some .string, .d (.sc (.string s)) => (s.toList[n.toNat]?).map fun b => .sc (.int .u8 b.toNat)
      | _, _ => none
    else none
def boundOf : Option V → Nat → Option Int
  | none, d => some d
  | some v, _ => intOfV v
def sliceV (P : Program) (t : TypeId) (x : V) (lo hi mx : Option V) : Option V :=
  match P.underlying t with
  | some .string => match x, mx with
    | .d (.sc (.string s)), none => match boundOf lo 0, boundOf hi s.size with
      | some l, some h => if 0 ≤ l ∧ l ≤ h ∧ h ≤ s.size then some (.sc (.string (s.extract l.toNat h.toNat))) else none
      | _, _ => none
    | _, _ => none
  | some (.slice e) => match szT P e with
    | some k => match esOf k x with
      | some es => match boundOf lo 0, boundOf hi es.length, mx with
        | some l, some h, none => if 0 ≤ l ∧ l ≤ h ∧ h ≤ es.length then some (.sl k ((es.take h.toNat).drop l.toNat)) else none
        | some l, some h, some m => if 0 ≤ l ∧ l ≤ h ∧ h ≤ es.length ∧ hi.isSome = true ∧ intOfV m = some h then some (.sl k ((es.take h.toNat).drop l.toNat)) else none
        | _, _, _ => none
      | none => none
    | none => none
  | _ => none

def fillV (place : Nat → Option (Nat × Nat)) (cells : List V) : List (Nat × V) → Option (List V)
  | [] => some cells
  | (i, v) :: rest => match place i with
    | some (off, size) => if (cellsV v).length = size ∧ off + size ≤ cells.length ∧ (cellsV v).all isOne = true then fillV place (cells.take off ++ cellsV v ++ cells.drop (off + size)) rest else none
    | none => none
/-- Where a struct's fields lie: the first cell, how many. -/
def placesT (P : Program) (t : TypeId) : Option (List (Nat × Nat)) := match P.underlying t with
  | some (.struct fs) => fs.toList.mapM fun f => (P.info? f.type).map fun i => (f.offset, i.size)
  | _ => none
def elemT (P : Program) (t : TypeId) : Option Nat := match P.underlying t with
  | some (.array _ e) => szT P e
  | _ => none
def placeOf (P : Program) (t : TypeId) (i : Nat) : Option (Nat × Nat) := match placesT P t with
  | some l => l[i]?
  | none => (elemT P t).map fun n => (i * n, n)
def shapeT (P : Program) (t : TypeId) : Bool := (placesT P t).isSome || (elemT P t).isSome
def zeroVs (P : Program) (t : TypeId) : Option (List V) := match zeroT P t with
  | some z => if z.cells.all flat then some (z.cells.toList.map V.sc) else none
  | none => none
def evParts (tm : List V) : List (Nat × Operand) → Option (List (Nat × V))
  | [] => some []
  | (i, x) :: r => match evV tm x, evParts tm r with
    | some v, some vs => some ((i, v) :: vs)
    | _, _ => none
def evArgs (tm : List V) : List Operand → Option (List V)
  | [] => some []
  | x :: r => match evV tm x, evArgs tm r with
    | some v, some vs => some (v :: vs)
    | _, _ => none
def evOpt (tm : List V) : Option Operand → Option (Option V)
  | none => some none
  | some x => (evV tm x).map some

/-- The elements that a literal's parts make: each part in its place. -/
def partsEs (k : Nat) (es : List (List D)) : List (Nat × V) → Option (List (List D))
  | [] => some es
  | (i, v) :: r => match toDs (cellsV v) with
    | some c => if c.length = k ∧ i < es.length then partsEs k (es.set i c) r else none
    | none => none
def buildSliceV (P : Program) (t : TypeId) (len : Nat) (parts : List (Nat × V)) : Option V :=
  match P.underlying t with
  | some (.slice e) => match szT P e, zeroT P e with
    | some k, some z => if 0 < k ∧ len * k ≤ 16777216 ∧ z.cells.size = k ∧ z.cells.all flat = true then
        (partsEs k (List.replicate len (z.cells.toList.map D.sc)) parts).map fun es => .full k es else none
    | _, _ => none
  | _ => none

def appBound : Nat := 70368744177664
def srcOf (P : Program) (k : Nat) (xt : TypeId) (x : V) : Option (List (List D)) :=
  match P.underlying xt with
  | some (.slice _) => esOf k x
  | some .string => match x with
    | .d (.sc (.string s)) => if k = 1 then some (bs s.toList) else none
    | _ => none
  | _ => none
def appendV (P : Program) (h : List Ho) (r : Nat) (st xt : TypeId) (s x : V) : Option (V × List Ho) :=
  match P.underlying st with
  | some (.slice e) => match szT P e, byT P e, zeroT P e with
    | some k, some b, some z => if z.cells.size = k ∧ 0 < k then match srcOf P k xt x with
        | some xs => match s with
          | .own k' es t => match h[t]? with
            | some .tail => if k' = k ∧ (es.length + xs.length) * b ≤ appBound ∧ es.length + xs.length ≤ appBound then some (.own k (es ++ xs) r, (h.set t .dead).set r .tail) else none
            | _ => none
          | .full k' es => if k' = k ∧ (es.length + xs.length) * b ≤ appBound ∧ es.length + xs.length ≤ appBound then some (.own k (es ++ xs) r, h.set r .tail) else none
          | .d (.sc (.slice none 0 0)) => if xs.length * b ≤ appBound ∧ xs.length ≤ appBound then some (.own k xs r, h.set r .tail) else none
          | _ => none
        | none => none else none
    | _, _, _ => none
  | _ => none
def lenV (P : Program) (t : TypeId) (x : V) : Option V :=
  match P.underlying t with
  | some .string => match x with
    | .d (.sc (.string s)) => some (.sc (.int .i64 s.size))
    | _ => none
  | some (.array n _) => some (.sc (.int .i64 n))
  | some (.slice _) => match x with
    | .d (.sl _ es) | .own _ es _ | .full _ es => some (.sc (.int .i64 es.length))
    | .d (.sc (.slice none 0 0)) => some (.sc (.int .i64 0))
    | .hs _ _ _ n => some (.sc (.int .i64 n))
    | _ => none
  | _ => none
def convV (P : Program) (src dst : TypeId) (x : V) : Option V :=
  match x with
  | .d (.sc (.int _ n)) => match P.underlying src, P.underlying dst with
    | some _, some (.int k) => some (.sc (.int k (k.wrap n)))
    | _, _ => none
  | .d (.sc (.string s)) => match P.underlying src, P.underlying dst with
    | some .string, some .string => some x
    | some .string, some (.slice e) => match P.underlying e with
      | some (.int .u8) => if s.size ≤ appBound then some (.sl 1 (bs s.toList)) else none
      | _ => none
    | _, _ => none
  | x => match P.underlying src, P.underlying dst with
    | some (.slice e), some .string => match P.underlying e, esOf 1 x with
      | some (.int .u8), some es => (unbs es).map fun l => .sc (.string ⟨l.toArray⟩)
      | _, _ => none
    | _, _ => none

inductive Res where
  | val (v : V) (h : List Ho)
  | call (f : Nat) (args : List V)
  | no

def resOf (h : List Ho) : Option V → Res
  | some v => .val v h
  | none => .no
def callV (P : Program) (tm : List V) (h : List Ho) (r : Nat) (c : Call) : Res :=
  match c.callee with
  | .value f => match evV tm f, evArgs tm c.args.toList with
    | some (.fn g cap), some vs => .call g (vs ++ cap)
    | _, _ => .no
  | .builtin .append => match c.argTypes.toList, evArgs tm c.args.toList with
    | [st, xt], some [s, x] => match appendV P h r st xt s x with
      | some (v, h') => .val v h'
      | none => .no
    | _, _ => .no
  | .builtin .len => match c.argTypes.toList, evArgs tm c.args.toList with
    | [t], some [x] => resOf h (lenV P t x)
    | _, _ => .no
  | .builtin .min => match evArgs tm c.args.toList with
    | some [.d (.sc (.int k x)), .d (.sc (.int _ y))] => .val (.sc (.int k (if y < x then y else x))) h
    | _ => .no
  | .builtin .max => match evArgs tm c.args.toList with
    | some [.d (.sc (.int k x)), .d (.sc (.int _ y))] => .val (.sc (.int k (if y > x then y else x))) h
    | _ => .no
  | _ => .no

/-- An operation; r: the number for what it makes. -/
def opV (P : Program) (tm : List V) (h : List Ho) (r : Nat) (o : Oper) : Res :=
  match o.op with
  | .move x | .assign x => resOf h (evV tm x)
  | .pick c a b => match evV tm c, evV tm a, evV tm b with
    | some (.d (.sc (.bool t))), some va, some vb => .val (match t with | true => va | false => vb) h
    | _, _, _ => .no
  | .alloc e => match zeroVs P e with
    | some cs => .val (.ptr r 0) (h.set r (.cells cs))
    | none => .no
  | .box e x => match evV tm x with
    | some v => if (cellsV v).all isOne = true then .val (.ptr r 0) (h.set r (.cells (cellsV v))) else .no
    | none => .no
  | .build t parts => match zeroVs P t, evParts tm parts.toList, shapeT P t with
    | some z, some vs, true => resOf h ((fillV (placeOf P t) z vs).map V.agg)
    | _, _, _ => .no
  | .buildSlice t len parts => match evParts tm parts.toList with
    | some vs => resOf h (buildSliceV P t len vs)
    | none => .no
  | .load t p => match evV tm p, knownT P t with
    | some p, true => resOf h (loadV P h t p)
    | _, _ => .no
  | .store t p x => match evV tm p, evV tm x with
    | some p, some v => match storeV P h t p v with
      | some h' => .val .undef h'
      | none => .no
    | _, _ => .no
  | .nilCheck x => match evV tm x with
    | some (.ptr o off) => .val (.ptr o off) h
    | some (.ep c off) => .val (.ep c off) h
    | some (.fn f cap) => .val (.fn f cap) h
    | _ => .no
  | .binOp op t x y _ => match evV tm x, evV tm y with
    | some a, some b => resOf h (binV P op t a b)
    | _, _ => .no
  | .unOp op _ x => match evV tm x with
    | some a => resOf h (unV op a)
    | none => .no
  | .convert src dst x => match evV tm x with
    | some a => resOf h (convV P src dst a)
    | none => .no
  | .makeFunc (.func f) first cap => match first.toList, evArgs tm cap.toList with
    | [], some vs => .val (.fn f vs) h
    | _, _ => .no
  | .slice t x lo hi mx => match evV tm x, evOpt tm lo, evOpt tm hi, evOpt tm mx with
    | some v, some l, some hh, some m => resOf h (sliceV P t v l hh m)
    | _, _, _, _ => .no
  | .fieldAddr s x f => match evV tm x, fieldOf P s f with
    | some (.ptr o off), some (fo, _) => .val (.ptr o (off + fo)) h
    | some (.ep c off), some (fo, _) => .val (.ep c (off + fo)) h
    | _, _ => .no
  | .field s x f => match evV tm x, fieldOf P s f with
    | some (.agg cs), some (fo, t) => match knownT P t with
      | true => resOf h (partV P t cs fo)
      | false => .no
    | _, _ => .no
  | .indexAddr t x i => match evV tm x, evV tm i with
    | some a, some b => resOf h (indexAtV P t a b)
    | _, _ => .no
  | .index t x i => match evV tm x, evV tm i with
    | some a, some b => resOf h (indexV P t a b)
    | _, _ => .no
  | .extract x i => match evV tm x with
    | some (.tup vs) => resOf h vs[i]?
    | _ => .no
  | .call c => callV P tm h r c
  | _ => .no
end Go.Proofs.Ytfcbpdokilidgaa
