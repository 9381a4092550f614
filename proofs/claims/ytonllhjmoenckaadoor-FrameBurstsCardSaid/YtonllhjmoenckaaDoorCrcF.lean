/- The functions of package crc over lists of bytes. No program stands here. -/
import Derived.Test.YtonllhjmoenckaaDoorBits
namespace Go.Proofs.YtonllhjmoenckaaDoor
set_option linter.unusedVariables false
set_option linter.unusedSimpArgs false

def tab4 : List Nat := [0x00000000, 0x105ec76f, 0x20bd8ede, 0x30e349b1, 0x417b1dbc, 0x5125dad3, 0x61c69362, 0x7198540d,
  0x82f63b78, 0x92a8fc17, 0xa24bb5a6, 0xb21572c9, 0xc38d26c4, 0xd3d3e1ab, 0xe330a81a, 0xf36e6f75]
def four (i : UInt32) : UInt32 := UInt32.ofNat (tab4.getD i.toNat 0)

def half (c : UInt32) : UInt32 := four (c &&& 15) ^^^ c >>> 4
def step1 (c : UInt32) (x : UInt8) : UInt32 := half (half (c ^^^ x.toUInt32))
def moreF (s : UInt32) (l : List UInt8) : UInt32 := ~~~(l.foldl step1 (~~~s))

theorem and15_lt (a : UInt32) : (a &&& 15).toNat < 16 := by
  have h : (a &&& 15).toNat = a.toNat % 16 := by rw [UInt32.toNat_and]; exact Nat.and_two_pow_sub_one_eq_mod a.toNat 4
  omega

theorem take_step (c : UInt32) (l : List UInt8) (k : Nat) (h : k < l.length) : (l.take (k + 1)).foldl step1 c = step1 ((l.take k).foldl step1 c) l[k] := by
  rw [List.take_succ_eq_append_getElem h, List.foldl_append]; rfl

def sumF (l : List UInt8) : UInt32 := moreF 0 l
def tail4 (c : UInt32) : List UInt8 := [c.toUInt8, (c >>> 8).toUInt8, (c >>> 16).toUInt8, (c >>> 24).toUInt8]
def sealF (l : List UInt8) : List UInt8 := l ++ tail4 (sumF l)

def openF (l : List UInt8) : List UInt8 × Int :=
  if l.length < 4 then ([], 2) else if sealF (l.take (l.length - 4)) = l then (l.take (l.length - 4), 0) else ([], 5)

/-- One bit turned, if it is there. -/
def turn1 (at_ : Int) (m : UInt32) (o : List UInt8) (k : Nat) : List UInt8 :=
  if mbit m k = true ∧ 0 ≤ at_ + k ∧ (at_ + k) / 8 < o.length then o.set ((at_ + k) / 8).toNat (o.getD ((at_ + k) / 8).toNat 0 ^^^ UInt8.ofNat (2 ^ ((at_ + k) % 8).toNat)) else o
def turnN (at_ : Int) (m : UInt32) (l : List UInt8) (k : Nat) : List UInt8 := (List.range k).foldl (turn1 at_ m) l
def turnF (at_ : Int) (m : UInt32) (l : List UInt8) : List UInt8 := turnN at_ m l 32
theorem turn1_len (at_ : Int) (m : UInt32) (o : List UInt8) (k : Nat) : (turn1 at_ m o k).length = o.length := by unfold turn1; split <;> simp
theorem turnN_succ (at_ : Int) (m : UInt32) (l : List UInt8) (k : Nat) : turnN at_ m l (k + 1) = turn1 at_ m (turnN at_ m l k) k := by
  unfold turnN; rw [List.range_succ, List.foldl_append]; rfl
theorem turnN_len (at_ : Int) (m : UInt32) (l : List UInt8) (k : Nat) : (turnN at_ m l k).length = l.length := by
  induction k with
  | zero => rfl
  | succ k ih => rw [turnN_succ, turn1_len, ih]
theorem turn1_no {at_ : Int} {m : UInt32} {o : List UInt8} {k : Nat} (h : ¬ (mbit m k = true ∧ 0 ≤ at_ + k ∧ (at_ + k) / 8 < o.length)) : turn1 at_ m o k = o := if_neg h

end Go.Proofs.YtonllhjmoenckaaDoor
