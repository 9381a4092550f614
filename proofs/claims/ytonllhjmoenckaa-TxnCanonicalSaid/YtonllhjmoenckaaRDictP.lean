/- The document's dictionary, as pure values. No program stands here. -/
import Derived.Test.YtonllhjmoenckaaDictX
namespace Go.Proofs.Ytonllhjmoenckaa
open Go Go.RowKit
set_option linter.unusedVariables false
set_option linter.unusedSimpArgs false
def is (l : List Int) : List (List D) := l.map fun n => [D.sc (.int .i64 n)]
theorem is_len (l : List Int) : (is l).length = l.length := by simp [is]
theorem is_get (l : List Int) (i : Nat) : (is l)[i]? = (l[i]?).map fun n => [D.sc (.int .i64 n)] := by simp [is]
theorem is_snoc (l : List Int) (n : Int) : is l ++ [[D.sc (.int .i64 n)]] = is (l ++ [n]) := by simp [is]
attribute [go_sem] is_len is_get is_snoc
structure Rdi where
  ks : List ByteArray
  ws : List Int
  now : Int
def Rdi.ob (r : Rdi) : Ho := .cells [.sl 1 (ds r.ks), .sl 1 (is r.ws), .sc (.int .i64 r.now)]
attribute [go_sem] Rdi.ob
/-- The first place of a text, from place i on. -/
def idx (k : ByteArray) : List ByteArray → Nat → Int
  | [], _ => -1
  | s :: l, i => if (s.toList == k.toList) = true then i else idx k l (i + 1)
def Rdi.at_ (r : Rdi) (k : ByteArray) : Int := idx k r.ks 0
theorem idx_drop (k : ByteArray) (l : List ByteArray) (i : Nat) (h : i < l.length) : idx k (l.drop i) i = if (l[i].toList == k.toList) = true then (i : Int) else idx k (l.drop (i + 1)) (i + 1) := by
  rw [List.drop_eq_getElem_cons h]; rfl

/-- Numbers as cells. -/
def ic (l : List Int) : List V := l.map fun n => V.sc (.int .i64 n)
def id' (l : List Int) : List D := l.map fun n => D.sc (.int .i64 n)
theorem ic_len (l : List Int) : (ic l).length = l.length := by simp [ic]
theorem ic_get (l : List Int) (i : Nat) : (ic l)[i]? = (l[i]?).map fun n => V.sc (.int .i64 n) := by simp [ic]
theorem ic_app (l m : List Int) : ic l ++ ic m = ic (l ++ m) := by simp [ic]
theorem ic_snoc (l : List Int) (n : Int) : ic l ++ [V.sc (.int .i64 n)] = ic (l ++ [n]) := by simp [ic]
theorem ic_take (l : List Int) (n : Nat) : (ic l).take n = ic (l.take n) := by simp [ic]
theorem ic_drop (l : List Int) (n : Nat) : (ic l).drop n = ic (l.drop n) := by simp [ic]
theorem ic_mv (f : Nat → Option Nat) (l : List Int) : mvL f (ic l) = ic l := by rw [mvL_map]; simp [ic, mvV]
theorem ic_fr (o : Nat) (e : List D) (l : List Int) : frL o e (ic l) = ic l := by rw [frL_map]; simp [ic, frV]
theorem ic_toDs : ∀ l : List Int, toDs (ic l) = some (id' l)
  | [] => rfl
  | s :: l => by
    show toDs (V.sc (.int .i64 s) :: ic l) = _
    simp only [toDs, toD, ic_toDs l]; rfl
theorem id_len (l : List Int) : (id' l).length = l.length := by simp [id']
theorem id_chunks (l : List Int) : chunks 1 l.length (id' l) = is l := by
  apply List.ext_getElem?; intro i
  unfold chunks id' is
  rw [List.getElem?_map, List.getElem?_map]
  by_cases h : i < l.length
  · rw [List.getElem?_range h, List.getElem?_eq_getElem h]
    simp only [Option.map_some, Nat.mul_one, Option.some.injEq]
    rw [List.drop_eq_getElem_cons (by simpa using h)]
    simp
  · rw [List.getElem?_eq_none (by simpa using h), List.getElem?_eq_none (by omega)]; rfl
theorem flatD_is (l : List Int) : flatD (is l) = ic l := by
  induction l with
  | nil => rfl
  | cons s l ih =>
    unfold flatD at ih ⊢
    show List.map V.d (([D.sc (.int .i64 s)] :: is l).flatten) = _
    simp only [List.flatten_cons, List.map_append, ih]; rfl
theorem set_eq {α : Type} (l : List α) (k : α) (n : Nat) (h : n < l.length) : l.take n ++ [k] ++ l.drop (n + 1) = l.set n k := by
  rw [List.set_eq_take_append_cons_drop, if_pos h]; simp
attribute [go_sem] ic_len ic_get ic_app ic_snoc ic_take ic_drop ic_mv ic_fr id_len id_chunks flatD_is

/-- The first place of a least number, among the first n. -/
def firstN (ws : List Int) : Nat → Nat
  | 0 => 0
  | n + 1 => if ws.getD n 0 < ws.getD (firstN ws n) 0 then n else firstN ws n
theorem firstN_lt (ws : List Int) : ∀ n, 0 < n → firstN ws n < n
  | 0, h => absurd h (Nat.lt_irrefl _)
  | n + 1, _ => by
    unfold firstN
    split
    · omega
    · cases n with
      | zero => simp [firstN]
      | succ n => have := firstN_lt ws (n + 1) (by omega); omega
def Rdi.comes (r : Rdi) (k : ByteArray) : Rdi :=
  if r.ks.length < 8 then ⟨r.ks ++ [k], r.ws ++ [r.now + 1], r.now + 1⟩ else ⟨r.ks.set (firstN r.ws 8) k, r.ws.set (firstN r.ws 8) (r.now + 1), r.now + 1⟩

theorem idx_bd (k : ByteArray) : ∀ (l : List ByteArray) (i : Nat), -1 ≤ idx k l i ∧ idx k l i < i + l.length
  | [], i => by simp [idx]; omega
  | s :: l, i => by
    have := idx_bd k l (i + 1)
    unfold idx
    split
    · simp; omega
    · simp at this ⊢; omega
def Rdi.put (r : Rdi) (k : ByteArray) : (List UInt8 × Int) × Rdi :=
  if 64 < k.size then (([], 4), r) else if 0 ≤ r.at_ k then ((vput (r.at_ k + 1).toNat, 0), r) else (([0] ++ vput k.size ++ k.toList, 0), r.comes k)

def Rdi.take (d : Rdi) (b : List UInt8) : Tk × Rdi := match dkOf b with
  | .err e => ((⟨#[]⟩, 0, e), d)
  | .place p u => if d.ks.length < p then ((⟨#[]⟩, 0, 9), d) else ((d.ks.getD (p - 1) ⟨#[]⟩, u, 0), d)
  | .text s u => if 0 ≤ d.at_ s then ((⟨#[]⟩, 0, 3), d) else ((s, u, 0), d.comes s)

theorem ba_eq {a b : ByteArray} (h : (a.toList == b.toList) = true) : a = b := by
  have h : a.toList = b.toList := by simpa using h
  rw [ByteArray.toList_eq, ByteArray.toList_eq] at h
  ext1
  simpa [← Array.toList_inj] using h
end Go.Proofs.Ytonllhjmoenckaa
