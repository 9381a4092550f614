/- Transactions' bytes in plain Lean: what is told, what is read. No program stands here. -/
import Derived.Test.YtonllhjmoenckaaTxnC
import Derived.Test.YtonllhjmoenckaaDictL
namespace Go.Proofs.Ytonllhjmoenckaa
open Go Go.RowKit
set_option linter.unusedVariables false
set_option linter.unusedSimpArgs false

/-- What is told of a write behind its key. -/
def Wr.val (a : Wr) : List UInt8 := if a.g = true then [0] else vput (a.v.size + 1) ++ a.v.toList
theorem wrval_t (k v : ByteArray) : Wr.val ⟨k, v, true⟩ = [0] := rfl
theorem wrval_f (k v : ByteArray) : Wr.val ⟨k, v, false⟩ = vput (v.size + 1) ++ v.toList := rfl
/-- The bytes of writes, by what tells keys. -/
def wputF {α : Type} (p : α → ByteArray → List UInt8 × α) (d : α) : List Wr → List UInt8 × α
  | [] => ([], d)
  | a :: l => ((p d a.k).1 ++ a.val ++ (wputF p (p d a.k).2 l).1, (wputF p (p d a.k).2 l).2)
def dpF (d : Di) (k : ByteArray) : List UInt8 × Di := ((d.put k).1.1, (d.put k).2)
def rpF (d : Rdi) (k : ByteArray) : List UInt8 × Rdi := ((d.put k).1.1, (d.put k).2)
def Tx.headF (c : Clk) (t : Tx) : List UInt8 := vput t.o.toNat ++ vput t.s.toNat ++ (cputF c t.c).1 ++ vput t.w.length
/-- A coder: a clock, a dictionary. -/
structure Cod (α : Type) where
  c : Clk
  d : α
def tputF {α : Type} (p : α → ByteArray → List UInt8 × α) (x : Cod α) (t : Tx) : (List UInt8 × Int) × Cod α :=
  if checkF t ≠ 0 then (([], checkF t), x) else ((t.headF x.c ++ (wputF p x.d t.w).1, 0), ⟨t.c, (wputF p x.d t.w).2⟩)

/-- A number up to a greatest one is read, behind an error or none: the number, where it ends, the first error. -/
def numG (b : List UInt8) (used : Nat) (e : Int) (most : Nat) (above : Int) : Nat × Nat × Int :=
  if e ≠ 0 then (0, used, e) else ((tk (b.drop used)).1.toNat, used + (tk (b.drop used)).2.1, if (tk (b.drop used)).2.2 = 0 ∧ most < (tk (b.drop used)).1.toNat then above else (tk (b.drop used)).2.2)
def subT (b : List UInt8) (a n : Nat) : ByteArray := ⟨((b.drop a).take n).toArray⟩
/-- A write is read. -/
def wtakeF {α : Type} (q : α → List UInt8 → Tk × α) (b : List UInt8) (used : Nat) (d : α) : (Wr × Nat × Int) × α :=
  let r := q d (b.drop used)
  let n := numG b (used + r.1.2.1.toNat) r.1.2.2 257 4
  if n.2.2 ≠ 0 ∨ n.1 = 0 then ((⟨r.1.1, ⟨#[]⟩, true⟩, n.2.1, n.2.2), r.2) else
  if b.length < n.2.1 + (n.1 - 1) then ((⟨r.1.1, ⟨#[]⟩, false⟩, n.2.1, 2), r.2) else
  ((⟨r.1.1, subT b n.2.1 (n.1 - 1), false⟩, n.2.1 + (n.1 - 1), 0), r.2)
/-- Writes are read, one behind the other, up to the first error. -/
def wstakeF {α : Type} (q : α → List UInt8 → Tk × α) (b : List UInt8) : Nat → Nat → Int → α → (List Wr × Nat × Int) × α
  | 0, used, e, d => (([], used, e), d)
  | n + 1, used, e, d => if e ≠ 0 then (([], used, e), d) else
    let r := wtakeF q b used d
    let s := wstakeF q b n r.1.2.1 r.1.2.2 r.2
    ((r.1.1 :: s.1.1, s.1.2.1, s.1.2.2), s.2)
def Tx.zero : Tx := ⟨0, 0, ⟨0, 0, 0⟩, []⟩
/-- A transaction is read. -/
def ttakeF {α : Type} (q : α → List UInt8 → Tk × α) (x : Cod α) (b : List UInt8) : (Tx × Nat × Int) × Cod α :=
  let o := numG b 0 0 4611686018427387903 1
  let s := numG b o.2.1 o.2.2 4611686018427387903 1
  let c := if s.2.2 = 0 then ctakeF x.c (b.drop s.2.1) else (⟨0, 0, 0⟩, 0, s.2.2)
  let m := numG b (s.2.1 + c.2.1) c.2.2 16 4
  let w := wstakeF q b m.1 m.2.1 m.2.2 x.d
  let t : Tx := ⟨o.1, s.1, c.1, w.1.1⟩
  let e := if w.1.2.2 = 0 then checkF t else w.1.2.2
  if e ≠ 0 then ((Tx.zero, 0, e), x) else ((t, w.1.2.1, 0), ⟨c.1, w.2⟩)
end Go.Proofs.Ytonllhjmoenckaa
