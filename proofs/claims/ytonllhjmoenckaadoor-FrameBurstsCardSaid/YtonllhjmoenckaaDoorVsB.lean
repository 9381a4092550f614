/- The pure step of an operation over states as values. No program stands here. -/
import Derived.Test.YtonllhjmoenckaaDoorVsA
namespace Go.Proofs.YtonllhjmoenckaaDoor
open Go Go.RowKit
set_option linter.unusedVariables false
set_option linter.unusedSimpArgs false

def szT (P : Program) (t : TypeId) : Option Nat := (P.info? t).map (·.size)
def byT (P : Program) (t : TypeId) : Option Nat := (P.info? t).map (·.bytes)
def zeroT (P : Program) (t : TypeId) : Option Value := (P.info? t).bind (·.zero)
def aggT (P : Program) (t : TypeId) : Bool := match P.underlying t with
  | some (.struct _) | some (.array _ _) => true
  | _ => false

def constV : Value → Option V
  | .agg cs => if cs.all flat then some (.agg (cs.toList.map V.sc)) else none
  | .tuple vs => if vs.size = 0 then some .undef else none
  | v => if flat v then some (.sc v) else none
def evV (tm : List V) : Operand → Option V
  | .tmp t => tm[t]?
  | .const v => constV v
  | .global _ => none
  | .func f => some (.fn f [])

def intBin (op : BinOp) (k : IntKind) (x y : Int) : Option Value :=
  match op with
  | .add => some (.int k (k.wrap (x + y)))
  | .sub => some (.int k (k.wrap (x - y)))
  | .mul => some (.int k (k.wrap (x * y)))
  | .quo => if y = 0 then none else some (.int k (k.wrap (x.tdiv y)))
  | .rem => if y = 0 then none else some (.int k (x.tmod y))
  | .and => some (.int k (k.wrap (BitVec.ofInt k.bits x &&& BitVec.ofInt k.bits y).toNat))
  | .or => some (.int k (k.wrap (BitVec.ofInt k.bits x ||| BitVec.ofInt k.bits y).toNat))
  | .xor => some (.int k (k.wrap (BitVec.ofInt k.bits x ^^^ BitVec.ofInt k.bits y).toNat))
  | .andNot => some (.int k (k.wrap (BitVec.ofInt k.bits x &&& ~~~ BitVec.ofInt k.bits y).toNat))
  | .eql => some (.bool (x == y))
  | .neq => some (.bool (x != y))
  | .lss => some (.bool (decide (x < y)))
  | .leq => some (.bool (decide (x ≤ y)))
  | .gtr => some (.bool (decide (x > y)))
  | .geq => some (.bool (decide (x ≥ y)))
  | _ => none
def strBin (op : BinOp) (x y : ByteArray) : Option Value :=
  match op with
  | .add => if x.size + y.size ≤ 140737488355328 then some (.string (x ++ y)) else none
  | .eql => some (.bool (x.toList == y.toList))
  | .neq => some (.bool !(x.toList == y.toList))
  | .lss => some (.bool (Op.bytesLess x.toList y.toList))
  | .leq => some (.bool (Op.bytesLess x.toList y.toList || x.toList == y.toList))
  | .gtr => some (.bool !(Op.bytesLess x.toList y.toList || x.toList == y.toList))
  | .geq => some (.bool !(Op.bytesLess x.toList y.toList))
  | _ => none
def scBin (P : Program) (op : BinOp) (t : TypeId) (a b : Value) : Option Value :=
  match a, b with
  | .int k x, .int k' y =>
    match op with
    | .shl => if y < 0 then none else some (.int k (k.wrap (x * 2 ^ (min y.toNat k.bits))))
    | .shr => if y < 0 then none else some (.int k (x.fdiv (2 ^ (min y.toNat k.bits))))
    | op => if k = k' then intBin op k x y else none
  | .string x, .string y => strBin op x y
  | .bool x, .bool y =>
    match P.underlying t, op with
    | some .bool, .eql => some (.bool (x == y))
    | some .bool, .neq => some (.bool !(x == y))
    | _, _ => none
  | .pointer none, .pointer none =>
    match P.underlying t, op with
    | some (.pointer _), .eql => some (.bool true)
    | some (.pointer _), .neq => some (.bool false)
    | _, _ => none
  | .slice none 0 0, .slice none 0 0 =>
    match P.underlying t, op with
    | some (.slice _), .eql => some (.bool true)
    | some (.slice _), .neq => some (.bool false)
    | _, _ => none
  | .map none, .map none =>
    match P.underlying t, op with
    | some (.map _ _), .eql => some (.bool true)
    | some (.map _ _), .neq => some (.bool false)
    | _, _ => none
  | _, _ => none
/-- Two rows of whole numbers. -/
def eqInts : List V → List V → Option Bool
  | [], [] => some true
  | .d (.sc (.int k a)) :: xs, .d (.sc (.int k' b)) :: ys => if k = k' then (eqInts xs ys).map fun r => (a == b) && r else none
  | _, _ => none
def isIntT (P : Program) (t : TypeId) : Bool := match P.underlying t with
  | some (.int _) => true
  | _ => false
def eqV (P : Program) (t : TypeId) (xs ys : List V) : Option Bool :=
  match P.underlying t with
  | some (.array n e) => if isIntT P e = true ∧ szT P e = some 1 ∧ P.eqGuardType P.depth t = false ∧ xs.length = n ∧ ys.length = n then eqInts xs ys else none
  | _ => none
def isPtrT (P : Program) (t : TypeId) : Bool := match P.underlying t with
  | some (.pointer _) => true
  | _ => false
def isSliceT (P : Program) (t : TypeId) : Bool := match P.underlying t with
  | some (.slice _) => true
  | _ => false
def isMapT (P : Program) (t : TypeId) : Bool := match P.underlying t with
  | some (.map _ _) => true
  | _ => false
/-- A slice is held against nil: one that has no element may be nil, or not. -/
def nilCmp (P : Program) (op : BinOp) (t : TypeId) (e : Bool) : Option V :=
  if isSliceT P t = true ∧ (op = .eql ∨ op = .neq) then some (match e with
    | true => .ub
    | false => .sc (.bool (match op with
      | .eql => false
      | _ => true))) else none
def binV (P : Program) (op : BinOp) (t : TypeId) : V → V → Option V
  | .d (.sc a), .d (.sc b) => (scBin P op t a b).map V.sc
  | .ptr _ _, .d (.sc (.pointer none)) => if isPtrT P t then match op with
    | .eql => some (.sc (.bool false))
    | .neq => some (.sc (.bool true))
    | _ => none else none
  | .hs _ _ _ _ n, .d (.sc (.slice none 0 0)) => nilCmp P op t (n == 0)
  | .d (.sl _ es), .d (.sc (.slice none 0 0)) => nilCmp P op t es.isEmpty
  | .own _ es _, .d (.sc (.slice none 0 0)) => nilCmp P op t es.isEmpty
  | .full _ es, .d (.sc (.slice none 0 0)) => nilCmp P op t es.isEmpty
  | .mp _, .d (.sc (.map none)) => if isMapT P t then match op with
    | .eql => some (.sc (.bool false))
    | .neq => some (.sc (.bool true))
    | _ => none else none
  | .agg xs, .agg ys => match op with
    | .eql => (eqV P t xs ys).map fun b => .sc (.bool b)
    | .neq => (eqV P t xs ys).map fun b => .sc (.bool !b)
    | _ => none
  | _, _ => none
def unV (op : UnOp) : V → Option V
  | .d (.sc (.int k n)) => match op with
    | .neg => some (.sc (.int k (k.wrap (0 - n))))
    | .xor => some (.sc (.int k (k.wrap (BitVec.ofInt k.bits (if k.signed then -1 else k.max) ^^^ BitVec.ofInt k.bits n).toNat)))
    | _ => none
  | .d (.sc (.bool b)) => match op with
    | .not => some (.sc (.bool !b))
    | _ => none
  | .ub => match op with
    | .not => some .ub
    | _ => none
  | _ => none

/-- A slice's elements; k: the cells of one. -/
def esOf (k : Nat) : V → Option (List (List D))
  | .d (.sl k' es) => if k' = k then some es else none
  | .own k' es _ => if k' = k then some es else none
  | .full k' es => if k' = k then some es else none
  | .d (.sc (.slice none 0 0)) => some []
  | _ => none
def bs (l : List UInt8) : List (List D) := l.map fun b => [.sc (.int .u8 b.toNat)]
def unbs : List (List D) → Option (List UInt8)
  | [] => some []
  | [.sc (.int .u8 n)] :: es => if 0 ≤ n ∧ n < 256 then (unbs es).map fun l => UInt8.ofNat n.toNat :: l else none
  | _ => none

def toD : V → Option D
  | .d x => some x
  | .own k es _ => some (.sl k es)
  | .full k es => some (.sl k es)
  | _ => none
def toDs : List V → Option (List D)
  | [] => some []
  | v :: vs => match toD v, toDs vs with
    | some x, some xs => some (x :: xs)
    | _, _ => none
def isOne : V → Bool
  | .agg _ | .tup _ | .any => false
  | _ => true
def cellsV : V → List V
  | .agg cs => cs
  | v => [v]

def knownT (P : Program) (t : TypeId) : Bool := (P.underlying t).isSome
def loadV (P : Program) (h : List Ho) (t : TypeId) : V → Option V
  | .ptr o off => match h[o]? with
    | some (.cells cs) =>
      if aggT P t then match szT P t with
        | some n => if off + n ≤ cs.length then some (.agg ((cs.drop off).take n)) else none
        | none => none
      else cs[off]?
    | _ => none
  | .ep cs off =>
      if aggT P t then match szT P t with
        | some n => if off + n ≤ cs.length then some (.agg (((cs.drop off).take n).map V.d)) else none
        | none => none
      else (cs[off]?).map V.d
  | _ => none
def storeV (P : Program) (h : List Ho) (t : TypeId) (p v : V) : Option (List Ho) :=
  match p with
  | .ptr o off => match h[o]? with
    | some (.cells cs) => if szT P t = some (cellsV v).length ∧ (cellsV v).all isOne = true ∧ off + (cellsV v).length ≤ cs.length
        then some (h.set o (.cells (cs.take off ++ cellsV v ++ cs.drop (off + (cellsV v).length)))) else none
    | _ => none
  | _ => none

def fieldOf (P : Program) (s : TypeId) (f : Nat) : Option (Nat × TypeId) := match P.underlying s with
  | some (.struct fs) => match fs[f]? with
    | some x => if szT P x.type = none ∨ szT P x.type = some 0 then none else some (x.offset, x.type)
    | none => none
  | _ => none
def partV (P : Program) (t : TypeId) (cs : List V) (off : Nat) : Option V :=
  if aggT P t then match szT P t with
    | some n => some (.agg ((cs.drop off).take n))
    | none => none
  else cs[off]?

def intOfV : V → Option Int
  | .d (.sc (.int _ n)) => some n
  | _ => none

def sliceTV (P : Program) (t : TypeId) : Option Nat := match P.underlying t with
  | some (.slice e) => szT P e
  | _ => none
def indexAtV (P : Program) (t : TypeId) (x i : V) : Option V :=
  match intOfV i with
  | none => none
  | some n =>
    if 0 ≤ n then
      match P.underlying t, x with
      | some (.slice e), x => match szT P e with
        | some k => match x with
          | .hs _ k' o off len => if k' = k ∧ n < len then some (.ptr o (off + n.toNat * k)) else none
          | x => match esOf k x with
            | some es => (es[n.toNat]?).map fun c => .ep c 0
            | none => none
        | none => none
      | some (.array len e), .ptr o off => match szT P e with
        | some k => if n < len then some (.ptr o (off + n.toNat * k)) else none
        | none => none
      | some (.array len e), .ep c off => match szT P e with
        | some k => if n < len then some (.ep c (off + n.toNat * k)) else none
        | none => none
      | _, _ => none
    else none
def indexV (P : Program) (t : TypeId) (x i : V) : Option V :=
  match intOfV i with
  | none => none
  | some n =>
    if 0 ≤ n then
      match P.underlying t, x with
      | some (.array len e), .agg cs => match szT P e with
        | some k => if n < len ∧ knownT P e = true then partV P e cs (n.toNat * k) else none
        | none => none
      | some .string, .d (.sc (.string s)) => (s.toList[n.toNat]?).map fun b => .sc (.int .u8 b.toNat)
      | _, _ => none
    else none
def boundOf : Option V → Nat → Option Int
  | none, d => some d
  | some v, _ => intOfV v
/-- A part of a slice of an object's cells. -/
def cutH (g : Bool) (k o off n : Nat) (lo hi : Option V) : Option V := match boundOf lo 0, boundOf hi n with
  | some l, some h => if 0 ≤ l ∧ l ≤ h ∧ h ≤ n then some (.hs (g && l == 0) k o (off + l.toNat * k) (h - l).toNat) else none
  | _, _ => none
def sliceV (P : Program) (t : TypeId) (x : V) (lo hi mx : Option V) : Option V :=
  match P.underlying t with
  | some .string => match x, mx with
    | .d (.sc (.string s)), none => match boundOf lo 0, boundOf hi s.size with
      | some l, some h => if 0 ≤ l ∧ l ≤ h ∧ h ≤ s.size then some (.sc (.string (s.extract l.toNat h.toNat))) else none
      | _, _ => none
    | _, _ => none
  | some (.pointer u) => match x, mx, P.underlying u with
    | .ptr o off, none, some (.array n e) => match szT P e with
      | some k => if n ≤ 9223372036854775807 then cutH false k o off n lo hi else none
      | none => none
    | _, _, _ => none
  | some (.array n e) => match x, mx with
    | .ptr o off, none => match szT P e with
      | some k => if n ≤ 9223372036854775807 then cutH false k o off n lo hi else none
      | none => none
    | _, _ => none
  | some (.slice e) => match szT P e with
    | some k => match x with
     | .hs g k' o off n => if k' = k ∧ mx.isNone = true then cutH g k o off n lo hi else none
     | x => match esOf k x with
      | some es => match boundOf lo 0, boundOf hi es.length, mx with
        | some l, some h, none => if 0 ≤ l ∧ l ≤ h ∧ h ≤ es.length then some (.sl k ((es.take h.toNat).drop l.toNat)) else none
        | some l, some h, some m => if 0 ≤ l ∧ l ≤ h ∧ h ≤ es.length ∧ hi.isSome = true ∧ intOfV m = some h then some (.full k ((es.take h.toNat).drop l.toNat)) else none
        | _, _, _ => none
      | none => none
    | none => none
  | _ => none

def fillV (place : Nat → Option (Nat × Nat)) (cells : List V) : List (Nat × V) → Option (List V)
  | [] => some cells
  | (i, v) :: rest => match place i with
    | some (off, size) => if (cellsV v).length = size ∧ off + size ≤ cells.length ∧ (cellsV v).all isOne = true then fillV place (cells.take off ++ cellsV v ++ cells.drop (off + size)) rest else none
    | none => none
/-- Where a struct's fields lie: the first cell, how many. -/
def placesT (P : Program) (t : TypeId) : Option (List (Nat × Nat)) := match P.underlying t with
  | some (.struct fs) => fs.toList.mapM fun f => (P.info? f.type).map fun i => (f.offset, i.size)
  | _ => none
def elemT (P : Program) (t : TypeId) : Option Nat := match P.underlying t with
  | some (.array _ e) => szT P e
  | _ => none
def placeOf (P : Program) (t : TypeId) (i : Nat) : Option (Nat × Nat) := match placesT P t with
  | some l => l[i]?
  | none => (elemT P t).map fun n => (i * n, n)
def shapeT (P : Program) (t : TypeId) : Bool := (placesT P t).isSome || (elemT P t).isSome
def zeroVs (P : Program) (t : TypeId) : Option (List V) := match zeroT P t with
  | some z => if z.cells.all flat then some (z.cells.toList.map V.sc) else none
  | none => none
def evParts (tm : List V) : List (Nat × Operand) → Option (List (Nat × V))
  | [] => some []
  | (i, x) :: r => match evV tm x, evParts tm r with
    | some v, some vs => some ((i, v) :: vs)
    | _, _ => none
def evArgs (tm : List V) : List Operand → Option (List V)
  | [] => some []
  | x :: r => match evV tm x, evArgs tm r with
    | some v, some vs => some (v :: vs)
    | _, _ => none
def evOpt (tm : List V) : Option Operand → Option (Option V)
  | none => some none
  | some x => (evV tm x).map some

/-- The elements that a literal's parts make: each part in its place. -/
def partsEs (k : Nat) (es : List (List D)) : List (Nat × V) → Option (List (List D))
  | [] => some es
  | (i, v) :: r => match toDs (cellsV v) with
    | some c => if c.length = k ∧ i < es.length then partsEs k (es.set i c) r else none
    | none => none
def buildSliceV (P : Program) (t : TypeId) (len : Nat) (parts : List (Nat × V)) : Option V :=
  match P.underlying t with
  | some (.slice e) => match szT P e, zeroT P e with
    | some k, some z => if 0 < k ∧ len * k ≤ 16777216 ∧ z.cells.size = k ∧ z.cells.all flat = true then
        (partsEs k (List.replicate len (z.cells.toList.map D.sc)) parts).map fun es => .full k es else none
    | _, _ => none
  | _ => none
/-- n times the same element. -/
def zeros {α : Type} (n : Nat) (e : α) : List α := List.replicate n e
def makeSliceV (P : Program) (t : TypeId) (l c : Option Int) : Option V :=
  match l, c, P.underlying t with
  | some n, some m, some (.slice e) => match szT P e, byT P e, zeroT P e with
    | some k, some b, some z => if 0 < k ∧ 0 ≤ n ∧ n = m ∧ n.toNat * k ≤ 16777216 ∧ b * n.toNat ≤ 281474976710656 ∧ z.cells.size = k ∧ z.cells.all flat = true then
        some (.full k (zeros n.toNat (z.cells.toList.map D.sc))) else none
    | _, _, _ => none
  | _, _, _ => none

/-- A literal whose cells are an object of its own. -/
def buildSliceH (P : Program) (r : Nat) (t : TypeId) (len : Nat) (parts : List (Nat × V)) : Option (V × Ho) :=
  match P.underlying t with
  | some (.slice e) => match szT P e, zeroT P e with
    | some k, some z => if 0 < k ∧ len * k ≤ 16777216 ∧ z.cells.size = k ∧ z.cells.all flat = true then
        (fillV (fun i => some (i * k, k)) (List.replicate len (z.cells.toList.map V.sc)).flatten parts).map fun cs => (.hs true k r 0 len, .cells cs) else none
    | _, _ => none
  | _ => none
def makeSliceH (P : Program) (r : Nat) (t : TypeId) (l c : Option Int) : Option (V × Ho) :=
  match l, c, P.underlying t with
  | some n, some m, some (.slice e) => match szT P e, byT P e, zeroT P e with
    | some k, some b, some z => if 0 < k ∧ 0 ≤ n ∧ n = m ∧ n.toNat * k ≤ 16777216 ∧ b * n.toNat ≤ 281474976710656 ∧ z.cells.size = k ∧ z.cells.all flat = true then
        some (.hs true k r 0 n.toNat, .cells (zeros n.toNat (z.cells.toList.map V.sc)).flatten) else none
    | _, _, _ => none
  | _, _, _ => none

def appBound : Nat := 70368744177664
def srcOf (P : Program) (k : Nat) (xt : TypeId) (x : V) : Option (List (List D)) :=
  match P.underlying xt with
  | some (.slice _) => esOf k x
  | some .string => match x with
    | .d (.sc (.string s)) => if k = 1 then some (bs s.toList) else none
    | _ => none
  | _ => none
/-- The cells of what is appended or copied: how many elements, and their cells. -/
def flatD (es : List (List D)) : List V := (es.flatten).map V.d
def srcH (P : Program) (h : List Ho) (k : Nat) (xt : TypeId) (x : V) : Option (Nat × List V) :=
  match P.underlying xt with
  | some (.slice _) => match x with
    | .hs _ k' o off n => match h[o]? with
      | some (.cells cs) => if k' = k ∧ off + n * k ≤ cs.length then some (n, (cs.drop off).take (n * k)) else none
      | _ => none
    | x => (esOf k x).map fun es => (es.length, flatD es)
  | _ => none
/-- An append that makes a slice of an object's cells. -/
def appendH (P : Program) (h : List Ho) (r : Nat) (st xt : TypeId) (s x : V) : Option (V × List Ho) :=
  match P.underlying st with
  | some (.slice e) => match szT P e, byT P e, zeroT P e with
    | some k, some b, some z => if z.cells.size = k ∧ 0 < k then match srcH P h k xt x with
        | some (m, xs) => match s with
          | .hs true k' o 0 n => match h[o]? with
            | some (.cells cs) => if k' = k ∧ n * k ≤ cs.length ∧ (n + m) * b ≤ appBound ∧ n + m ≤ appBound then some (.hs true k r 0 (n + m), (h.set o .dead).set r (.cells (cs.take (n * k) ++ xs))) else none
            | _ => none
          | .d (.sc (.slice none 0 0)) => if m * b ≤ appBound ∧ m ≤ appBound then some (.hs true k r 0 m, h.set r (.cells xs)) else none
          | .full k' [] => if k' = k ∧ m * b ≤ appBound ∧ m ≤ appBound then some (.hs true k r 0 m, h.set r (.cells xs)) else none
          | _ => none
        | none => none else none
    | _, _, _ => none
  | _ => none
/-- copy. -/
def copyV (P : Program) (h : List Ho) (dt xt : TypeId) (d x : V) : Option (V × List Ho) :=
  match P.underlying dt with
  | some (.slice e) => match szT P e with
    | some k => match srcH P h k xt x, d with
      | some (m, xs), .hs _ k' o off n => match h[o]? with
        | some (.cells cs) => if k' = k ∧ 0 < k ∧ off + n * k ≤ cs.length then
            some (.sc (.int .i64 (min n m : Nat)), h.set o (.cells (cs.take off ++ xs.take (min n m * k) ++ cs.drop (off + min n m * k)))) else none
        | _ => none
      | _, _ => none
    | none => none
  | _ => none

/-! ### Maps: entries in the order in which they came -/
def keyEq : Value → Value → Bool
  | .int k a, .int k' b => k == k' && a == b
  | .string a, .string b => a == b
  | _, _ => false
/-- Keys that a map of the type may bear. -/
def keyOk : TypeDesc → Value → Bool
  | .int k, .int k' _ => k == k'
  | .string, .string _ => true
  | _, _ => false
def mget : List ME → Value → Option V
  | [], _ => none
  | e :: es, k => if keyEq k e.key = true then some e.val else mget es k
def mset (c : Nat) : List ME → Value → V → List ME
  | [], k, v => [⟨c, k, v⟩]
  | e :: es, k, v => if keyEq k e.key = true then ⟨e.born, k, v⟩ :: es else e :: mset c es k v
def mdel : List ME → Value → List ME
  | [], _ => []
  | e :: es, k => if keyEq k e.key = true then es else e :: mdel es k
/-- An entry that is entered by its key: its value, its stamp. -/
def ment (c : Nat) (z : V) : List ME → Value → V × Nat × List ME
  | [], k => (z, c, [⟨c, k, z⟩])
  | e :: es, k => if keyEq k e.key = true then (e.val, e.born, ⟨e.born, k, e.val⟩ :: es) else match ment c z es k with
    | (v, b, es') => (v, b, e :: es')
def mstore : List ME → Nat → V → Option (List ME)
  | [], _, _ => none
  | e :: es, b, v => if e.born = b then some (⟨e.born, e.key, v⟩ :: es) else (mstore es b v).map (e :: ·)
def keysOk (d : TypeDesc) (es : List ME) : Bool := es.all fun e => keyOk d e.key
def GM.get (m : GM) (k : Value) : Option V := mget m.es k
def GM.set (m : GM) (k : Value) (v : V) : GM := ⟨if (mget m.es k).isSome = true then m.c else m.c + 1, mset m.c m.es k v⟩
def GM.del (m : GM) (k : Value) : GM := ⟨m.c, mdel m.es k⟩
def GM.ent (m : GM) (z : V) (k : Value) : V × Nat × GM := ((ment m.c z m.es k).1, (ment m.c z m.es k).2.1, ⟨if (mget m.es k).isSome = true then m.c else m.c + 1, (ment m.c z m.es k).2.2⟩)
def GM.store (m : GM) (b : Nat) (v : V) : Option GM := (mstore m.es b v).map fun es => ⟨m.c, es⟩
/-- The value that a map's missing key tells. -/
def zeroV1 (P : Program) (t : TypeId) : Option V := (zeroT P t).bind constV
def mapOf (h : List Ho) : V → Option GM
  | .mp o => match h[o]? with
    | some (.map m) => some m
    | _ => none
  | .d (.sc (.map none)) => some ⟨0, []⟩
  | _ => none
def lookupV (P : Program) (h : List Ho) (t : TypeId) (x k : V) (ok : Bool) : Option V :=
  match P.underlying t, k with
  | some (.map kt et), .d (.sc key) => match P.underlying kt, mapOf h x, zeroV1 P et with
    | some kd, some m, some z => if keyOk kd key = true ∧ keysOk kd m.es = true then
        match m.get key with
        | some v => some (if ok then .tup [v, .sc (.bool true)] else v)
        | none => some (if ok then .tup [z, .sc (.bool false)] else z)
        else none
    | _, _, _ => none
  | _, _ => none
/-- What is done to a map that is an object. -/
def atMap (P : Program) (h : List Ho) (t : TypeId) (x k : V) (f : GM → Value → TypeId → Option (V × GM)) : Option (V × List Ho) :=
  match P.underlying t, x, k with
  | some (.map kt et), .mp o, .d (.sc key) => match P.underlying kt, h[o]? with
    | some kd, some (.map m) => if keyOk kd key = true ∧ keysOk kd m.es = true then (f m key et).map fun r => (r.1, h.set o (.map r.2)) else none
    | _, _ => none
  | _, _, _ => none
def mapUpdateV (P : Program) (h : List Ho) (t : TypeId) (x k v : V) : Option (V × List Ho) := atMap P h t x k fun m key _ => some (.undef, m.set key v)
def deleteV (P : Program) (h : List Ho) (t : TypeId) (x k : V) : Option (V × List Ho) := atMap P h t x k fun m key _ => some (.undef, m.del key)
def mapEntryV (P : Program) (h : List Ho) (t : TypeId) (x k : V) : Option (V × List Ho) := atMap P h t x k fun m key et => match zeroV1 P et with
  | some z => some (.tup [(m.ent z key).1, .sc (.int .i64 (m.ent z key).2.1)], (m.ent z key).2.2)
  | none => none
def entryStoreV (h : List Ho) (x s v : V) : Option (V × List Ho) :=
  match x, s with
  | .mp o, .d (.sc (.int _ n)) => match h[o]? with
    | some (.map m) => if 0 ≤ n then (m.store n.toNat v).map fun m' => (.undef, h.set o (.map m')) else none
    | _ => none
  | _, _ => none

def appendV (P : Program) (h : List Ho) (r : Nat) (st xt : TypeId) (s x : V) : Option (V × List Ho) :=
  match P.underlying st with
  | some (.slice e) => match szT P e, byT P e, zeroT P e with
    | some k, some b, some z => if z.cells.size = k ∧ 0 < k then match srcOf P k xt x with
        | some xs => match s with
          | .own k' es t => match h[t]? with
            | some .tail => if k' = k ∧ (es.length + xs.length) * b ≤ appBound ∧ es.length + xs.length ≤ appBound then some (.own k (es ++ xs) r, (h.set t .dead).set r .tail) else none
            | _ => none
          | .full k' es => if k' = k ∧ (es.length + xs.length) * b ≤ appBound ∧ es.length + xs.length ≤ appBound then some (.own k (es ++ xs) r, h.set r .tail) else none
          | .d (.sc (.slice none 0 0)) => if xs.length * b ≤ appBound ∧ xs.length ≤ appBound then some (.own k xs r, h.set r .tail) else none
          | _ => none
        | none => none else none
    | _, _, _ => none
  | _ => none
def lenV (P : Program) (t : TypeId) (x : V) : Option V :=
  match P.underlying t with
  | some .string => match x with
    | .d (.sc (.string s)) => some (.sc (.int .i64 s.size))
    | _ => none
  | some (.array n _) => some (.sc (.int .i64 n))
  | some (.slice _) => match x with
    | .d (.sl _ es) | .own _ es _ | .full _ es => some (.sc (.int .i64 es.length))
    | .d (.sc (.slice none 0 0)) => some (.sc (.int .i64 0))
    | .hs _ _ _ _ n => some (.sc (.int .i64 n))
    | _ => none
  | _ => none
def convV (P : Program) (src dst : TypeId) (x : V) : Option V :=
  match x with
  | .d (.sc (.int _ n)) => match P.underlying src, P.underlying dst with
    | some _, some (.int k) => some (.sc (.int k (k.wrap n)))
    | some _, some .string => some (.sc (.string (Utf8.encode n)))
    | _, _ => none
  | .d (.sc (.string s)) => match P.underlying src, P.underlying dst with
    | some .string, some .string => some x
    | some .string, some (.slice e) => match P.underlying e with
      | some (.int .u8) => if s.size ≤ appBound then some (.sl 1 (bs s.toList)) else none
      | _ => none
    | _, _ => none
  | x => match P.underlying src, P.underlying dst with
    | some (.slice e), some .string => match P.underlying e, esOf 1 x with
      | some (.int .u8), some es => (unbs es).map fun l => .sc (.string ⟨l.toArray⟩)
      | _, _ => none
    | _, _ => none

/-- The bytes of a constant text: a slice of an object's cells, marked by the conversion, is data from then on. -/
def convHV (P : Program) (h : List Ho) (src dst : TypeId) (k o off n : Nat) : Option (V × List Ho) :=
  match h[o]? with
  | some (.cells cs) => match P.underlying src, P.underlying dst, toDs cs with
    | some (.slice _), some (.slice e), some ds => match P.underlying e with
      | some (.int .u8) => if src = dst ∧ k = 1 ∧ off = 0 ∧ n = cs.length ∧ 0 < n then some (.sl 1 (ds.map fun d => [d]), h.set o .dead) else none
      | _ => none
    | _, _, _ => none
  | _ => none

inductive Res where
  | val (v : V) (h : List Ho)
  | call (f : Nat) (args : List V)
  | no

def resOf (h : List Ho) : Option V → Res
  | some v => .val v h
  | none => .no
def resH : Option (V × List Ho) → Res
  | some (v, h') => .val v h'
  | none => .no
def callV (P : Program) (M : TypeId → Bool) (tm : List V) (h : List Ho) (r : Nat) (c : Call) : Res :=
  match c.callee with
  | .value f => match evV tm f, evArgs tm c.args.toList with
    | some (.fn g cap), some vs => .call g (vs ++ cap)
    | _, _ => .no
  | .builtin .append => match c.argTypes.toList, evArgs tm c.args.toList with
    | [st, xt], some [s, x] => if M st = true then match appendH P h r st xt s x with
      | some (v, h') => .val v h'
      | none => .no else match appendV P h r st xt s x with
      | some (v, h') => .val v h'
      | none => .no
    | _, _ => .no
  | .builtin .copy => match c.argTypes.toList, evArgs tm c.args.toList with
    | [dt, xt], some [d, x] => match copyV P h dt xt d x with
      | some (v, h') => .val v h'
      | none => .no
    | _, _ => .no
  | .builtin .delete => match c.argTypes.toList, evArgs tm c.args.toList with
    | [t, _], some [x, k] => resH (deleteV P h t x k)
    | _, _ => .no
  | .builtin .len => match c.argTypes.toList, evArgs tm c.args.toList with
    | [t], some [x] => match x with
      | .mp o => match isMapT P t, h[o]? with
        | true, some (.map m) => .val (.sc (.int .i64 m.es.length)) h
        | _, _ => .no
      | x => resOf h (lenV P t x)
    | _, _ => .no
  | .builtin .min => match evArgs tm c.args.toList with
    | some [.d (.sc (.int k x)), .d (.sc (.int _ y))] => .val (.sc (.int k (if y < x then y else x))) h
    | _ => .no
  | .builtin .max => match evArgs tm c.args.toList with
    | some [.d (.sc (.int k x)), .d (.sc (.int _ y))] => .val (.sc (.int k (if y > x then y else x))) h
    | _ => .no
  | _ => .no

/-- An operation; r: the number for what it makes. -/
def opV (P : Program) (M : TypeId → Bool) (tm : List V) (h : List Ho) (r : Nat) (o : Oper) : Res :=
  match o.op with
  | .move x | .assign x => resOf h (evV tm x)
  | .pick c a b => match evV tm c, evV tm a, evV tm b with
    | some (.d (.sc (.bool t))), some va, some vb => .val (match t with | true => va | false => vb) h
    | _, _, _ => .no
  | .alloc e => match zeroVs P e with
    | some cs => .val (.ptr r 0) (h.set r (.cells cs))
    | none => .no
  | .box e x => match evV tm x with
    | some v => if (cellsV v).all isOne = true then .val (.ptr r 0) (h.set r (.cells (cellsV v))) else .no
    | none => .no
  | .build t parts => match zeroVs P t, evParts tm parts.toList, shapeT P t with
    | some z, some vs, true => resOf h ((fillV (placeOf P t) z vs).map V.agg)
    | _, _, _ => .no
  | .buildSlice t len parts => match evParts tm parts.toList with
    | some vs => if M t = true then match buildSliceH P r t len vs with
      | some (v, ob) => .val v (h.set r ob)
      | none => .no else resOf h (buildSliceV P t len vs)
    | none => .no
  | .load t p => match evV tm p, knownT P t with
    | some p, true => resOf h (loadV P h t p)
    | _, _ => .no
  | .store t p x => match evV tm p, evV tm x with
    | some p, some v => match storeV P h t p v with
      | some h' => .val .undef h'
      | none => .no
    | _, _ => .no
  | .nilCheck x => match evV tm x with
    | some (.ptr o off) => .val (.ptr o off) h
    | some (.ep c off) => .val (.ep c off) h
    | some (.fn f cap) => .val (.fn f cap) h
    | _ => .no
  | .binOp op t x y _ => match evV tm x, evV tm y with
    | some a, some b => resOf h (binV P op t a b)
    | _, _ => .no
  | .unOp op _ x => match evV tm x with
    | some a => resOf h (unV op a)
    | none => .no
  | .convert src dst x => match evV tm x with
    | some (.hs _ k i off n) => resH (convHV P h src dst k i off n)
    | some a => resOf h (convV P src dst a)
    | none => .no
  | .makeFunc (.func f) first cap => match first.toList, evArgs tm cap.toList with
    | [], some vs => .val (.fn f vs) h
    | _, _ => .no
  | .makeSlice t l c => match evV tm l, evV tm c with
    | some a, some b => if M t = true then match makeSliceH P r t (intOfV a) (intOfV b) with
      | some (v, ob) => .val v (h.set r ob)
      | none => .no else resOf h (makeSliceV P t (intOfV a) (intOfV b))
    | _, _ => .no
  | .makeMap t none => .val (.mp r) (h.set r (.map ⟨0, []⟩))
  | .lookup t x k ok => match evV tm x, evV tm k with
    | some a, some b => resOf h (lookupV P h t a b ok)
    | _, _ => .no
  | .mapUpdate t x k v => match evV tm x, evV tm k, evV tm v with
    | some a, some b, some c => resH (mapUpdateV P h t a b c)
    | _, _, _ => .no
  | .mapEntry t x k => match evV tm x, evV tm k with
    | some a, some b => resH (mapEntryV P h t a b)
    | _, _ => .no
  | .entryStore _ x s v => match evV tm x, evV tm s, evV tm v with
    | some a, some b, some c => resH (entryStoreV h a b c)
    | _, _, _ => .no
  | .slice t x lo hi mx => match evV tm x, evOpt tm lo, evOpt tm hi, evOpt tm mx with
    | some v, some l, some hh, some m => resOf h (sliceV P t v l hh m)
    | _, _, _, _ => .no
  | .fieldAddr s x f => match evV tm x, fieldOf P s f with
    | some (.ptr o off), some (fo, _) => .val (.ptr o (off + fo)) h
    | some (.ep c off), some (fo, _) => .val (.ep c (off + fo)) h
    | _, _ => .no
  | .field s x f => match evV tm x, fieldOf P s f with
    | some (.agg cs), some (fo, t) => match knownT P t with
      | true => resOf h (partV P t cs fo)
      | false => .no
    | _, _ => .no
  | .indexAddr t x i => match evV tm x, evV tm i with
    | some a, some b => resOf h (indexAtV P t a b)
    | _, _ => .no
  | .index t x i => match evV tm x, evV tm i with
    | some a, some b => resOf h (indexV P t a b)
    | _, _ => .no
  | .extract x i => match evV tm x with
    | some (.tup vs) => resOf h vs[i]?
    | _ => .no
  | .call c => callV P M tm h r c
  | _ => .no
end Go.Proofs.YtonllhjmoenckaaDoor
