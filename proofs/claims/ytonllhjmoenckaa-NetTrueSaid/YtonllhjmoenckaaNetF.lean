/- Letters on their way, told as a list; the cells of the row that bears them. No program stands here. -/
import Derived.Test.YtonllhjmoenckaaVsB1
namespace Go.Proofs.Ytonllhjmoenckaa
open Go Go.RowKit
set_option linter.unusedVariables false
set_option linter.unusedSimpArgs false

/-- A letter: where to, its bytes. -/
structure Ltr where
  to : Int
  b : List UInt8
  deriving DecidableEq
structure Snt where
  to : Int
  b : List UInt8
  sp : Bool
def Snt.l (s : Snt) : Ltr := ⟨s.to, s.b⟩
def Ltr.d (l : Ltr) : List D := [.sc (.int .i64 l.to), .sl 1 (bs l.b)]
def lts (l : List Ltr) : List (List D) := l.map Ltr.d
def bls (l : List Bool) : List (List D) := l.map fun b => [.sc (.bool b)]
theorem lts_len (l : List Ltr) : (lts l).length = l.length := by simp [lts]
theorem lts_get (l : List Ltr) (i : Nat) : (lts l)[i]? = (l[i]?).map Ltr.d := by simp [lts]
theorem lts_app (l m : List Ltr) : lts l ++ lts m = lts (l ++ m) := by simp [lts]
theorem lts_snoc (l : List Ltr) (a : Int) (b : List UInt8) : lts l ++ [[.sc (.int .i64 a), .sl 1 (bs b)]] = lts (l ++ [⟨a, b⟩]) := by simp [lts, Ltr.d]
theorem lts_take (l : List Ltr) (n : Nat) : (lts l).take n = lts (l.take n) := by simp [lts]
theorem lts_drop (l : List Ltr) (n : Nat) : (lts l).drop n = lts (l.drop n) := by simp [lts]
theorem lts_nil : lts [] = [] := rfl
theorem bls_len (l : List Bool) : (bls l).length = l.length := by simp [bls]
theorem bls_get (l : List Bool) (i : Nat) : (bls l)[i]? = (l[i]?).map fun b => [.sc (.bool b)] := by simp [bls]
theorem bls_app (l m : List Bool) : bls l ++ bls m = bls (l ++ m) := by simp [bls]
theorem bls_snoc (l : List Bool) (b : Bool) : bls l ++ [[.sc (.bool b)]] = bls (l ++ [b]) := by simp [bls]
theorem bls_take (l : List Bool) (n : Nat) : (bls l).take n = bls (l.take n) := by simp [bls]
theorem bls_drop (l : List Bool) (n : Nat) : (bls l).drop n = bls (l.drop n) := by simp [bls]
theorem bls_nil : bls [] = [] := rfl

/-! The row: what is on its way, what stands behind it, how many. -/
def Snt.c (s : Snt) : List V := [.sc (.int .i64 s.to), .sl 1 (bs s.b), .sc (.bool s.sp)]
def nfl (l : List Snt) : List V := l.flatMap Snt.c
def ncx (l : List Snt) (x : List V) (m : Int) : List V := nfl l ++ x ++ [.sc (.int .i64 m)]
def anys (n : Nat) : List V := List.replicate n .any
theorem anys_len (n : Nat) : (anys n).length = n := by simp [anys]
def nce (l : List Snt) : List V := ncx l (anys (192 - 3 * l.length)) l.length
theorem nfl_len (l : List Snt) : (nfl l).length = 3 * l.length := by
  induction l with
  | nil => rfl
  | cons s l ih => simp only [nfl, List.flatMap_cons, List.length_append, List.length_cons] at ih ⊢; rw [ih]; simp [Snt.c]; omega
theorem nfl_app (l m : List Snt) : nfl (l ++ m) = nfl l ++ nfl m := by simp [nfl]
theorem nfl_one (s : Snt) : nfl [s] = s.c := by simp [nfl]
theorem nfl_drop (l : List Snt) : ∀ i, (nfl l).drop (3 * i) = nfl (l.drop i) := by
  induction l with
  | nil => intro i; simp [nfl]
  | cons s l ih =>
    intro i
    cases i with
    | zero => simp
    | succ i =>
      have : 3 * (i + 1) = 3 * i + 3 := by omega
      have e : nfl (s :: l) = s.c ++ nfl l := by simp [nfl]
      rw [List.drop_succ_cons, ← ih i, e, this, Nat.add_comm, ← List.drop_drop, List.drop_left' (by simp [Snt.c])]
theorem nfl_take (l : List Snt) : ∀ i, (nfl l).take (3 * i) = nfl (l.take i) := by
  induction l with
  | nil => intro i; simp [nfl]
  | cons s l ih =>
    intro i
    cases i with
    | zero => simp [nfl]
    | succ i =>
      have : 3 * (i + 1) = 3 + 3 * i := by omega
      have e : ∀ m, nfl (s :: m) = s.c ++ nfl m := fun m => by simp [nfl]
      rw [List.take_succ_cons, e, e, ← ih i, this, show 3 = s.c.length from rfl, List.take_length_add_append]
section
variable {l : List Snt} {x : List V} {m : Int}
theorem ncx_len (hx : x.length = 192 - 3 * l.length) (h : l.length ≤ 64) : (ncx l x m).length = 193 := by
  simp [ncx, nfl_len, hx]; omega
theorem ncx_many (hx : x.length = 192 - 3 * l.length) (h : l.length ≤ 64) : (ncx l x m)[192]? = some (.sc (.int .i64 m)) := by
  unfold ncx
  rw [List.getElem?_append_right (by simp [nfl_len, hx]; omega)]
  have : 192 - (nfl l ++ x).length = 0 := by simp [nfl_len, hx]; omega
  rw [this]; rfl
theorem ncx_set (hx : x.length = 192 - 3 * l.length) (h : l.length ≤ 64) (m' : Int) : (ncx l x m).take 192 ++ [.sc (.int .i64 m')] ++ (ncx l x m).drop 193 = ncx l x m' := by
  have e : (nfl l ++ x).length = 192 := by simp [nfl_len, hx]; omega
  unfold ncx
  rw [List.take_left' e, List.drop_eq_nil_of_le (by simp [nfl_len, hx]; omega), List.append_nil]
theorem ncx_at {i : Nat} (hi : i < l.length) : ∃ pre post, l = pre ++ [l[i]] ++ post ∧ pre.length = i := ⟨l.take i, l.drop (i + 1), by rw [List.append_assoc, List.singleton_append, List.getElem_cons_drop hi, List.take_append_drop], by simp; omega⟩
theorem ncx_cell {i j : Nat} {s : Snt} (hs : l[i]? = some s) (hj : j < 3) : (ncx l x m)[3 * i + j]? = s.c[j]? := by
  have hi := get_lt hs
  have hs' : l[i] = s := by rw [List.getElem?_eq_getElem hi] at hs; exact Option.some.inj hs
  obtain ⟨pre, post, e, hp⟩ := ncx_at hi
  rw [hs'] at e
  have hpl := nfl_len pre
  rw [e]
  unfold ncx
  rw [nfl_app, nfl_app, nfl_one]
  simp only [List.append_assoc]
  rw [List.getElem?_append_right (by omega), hpl, hp, Nat.add_sub_cancel_left, List.getElem?_append_left (by simpa [Snt.c] using hj)]
theorem ncx_part {i n : Nat} {s : Snt} (hs : l[i]? = some s) (hn : n ≤ 3) : ((ncx l x m).drop (3 * i)).take n = s.c.take n := by
  apply List.ext_getElem?
  intro j
  rw [List.getElem?_take, List.getElem?_take, List.getElem?_drop]
  split
  · exact ncx_cell hs (by omega)
  · rfl
/-- A cell of letter i is written. -/
theorem ncx_put {i j : Nat} {s s' : Snt} {v : V} (hs : l[i]? = some s) (hj : j < 3) (hc : s'.c = s.c.set j v) : (ncx l x m).take (3 * i + j) ++ [v] ++ (ncx l x m).drop (3 * i + j + 1) = ncx (l.set i s') x m := by
  have hi := get_lt hs
  have h1 : 3 * i + j < (ncx l x m).length := by simp [ncx, nfl_len]; omega
  have e : (ncx l x m).take (3 * i + j) ++ [v] ++ (ncx l x m).drop (3 * i + j + 1) = (ncx l x m).set (3 * i + j) v := by
    rw [List.set_eq_take_append_cons_drop, if_pos h1, List.append_assoc, List.singleton_append]
  rw [e]
  have hs' : l[i] = s := by rw [List.getElem?_eq_getElem hi] at hs; exact Option.some.inj hs
  have e1 : l = l.take i ++ [s] ++ l.drop (i + 1) := by rw [List.append_assoc, List.singleton_append, ← hs', List.getElem_cons_drop hi, List.take_append_drop]
  have e2 : l.set i s' = l.take i ++ [s'] ++ l.drop (i + 1) := by rw [List.set_eq_take_append_cons_drop, if_pos hi, List.append_assoc, List.singleton_append]
  have hpl : (nfl (l.take i)).length = 3 * i := by rw [nfl_len]; simp; omega
  rw [e2]
  conv => lhs; rw [e1]
  unfold ncx
  rw [nfl_app, nfl_app, nfl_app, nfl_app, nfl_one, nfl_one, hc]
  simp only [List.append_assoc]
  rw [List.set_append_right _ _ (by omega), hpl, Nat.add_sub_cancel_left, List.set_append_left _ _ (by simpa [Snt.c] using hj)]
/-- One more, behind the others. -/
theorem ncx_push {y : List V} (hy : y.length = 3) (s : Snt) : (ncx l (y ++ x) m).take (3 * l.length) ++ s.c ++ (ncx l (y ++ x) m).drop (3 * l.length + 3) = ncx (l ++ [s]) x m := by
  unfold ncx
  have hl := nfl_len l
  have e : nfl l ++ (y ++ x) ++ [.sc (.int .i64 m)] = nfl l ++ (y ++ (x ++ [.sc (.int .i64 m)])) := by simp [List.append_assoc]
  rw [e, List.take_left' hl, ← List.drop_drop, List.drop_left' hl, List.drop_left' hy, nfl_app, nfl_one]
  simp only [List.append_assoc]
/-- What stands behind the row's end is told otherwise. -/
theorem ncx_over {y z : List V} (hy : y.length = z.length) : (ncx l (y ++ x) m).take (3 * l.length) ++ z ++ (ncx l (y ++ x) m).drop (3 * l.length + z.length) = ncx l (z ++ x) m := by
  unfold ncx
  have hl := nfl_len l
  have e : nfl l ++ (y ++ x) ++ [.sc (.int .i64 m)] = nfl l ++ (y ++ (x ++ [.sc (.int .i64 m)])) := by simp [List.append_assoc]
  rw [e, List.take_left' hl, ← List.drop_drop, List.drop_left' hl, List.drop_left' hy]
  simp [List.append_assoc]
/-- Letter i goes: those behind it come up; what was the last one stands there twice. -/
theorem ncx_copy {i : Nat} (hi : i < l.length) : (ncx l x m).take (3 * i) ++ ((ncx l x m).drop (3 * (i + 1))).take (3 * (l.length - (i + 1))) ++ (ncx l x m).drop (3 * i + 3 * (l.length - (i + 1))) = ncx (l.eraseIdx i) (nfl (l.drop (l.length - 1)) ++ x) m := by
  have hl := nfl_len l
  unfold ncx
  have e3 : 3 * i + 3 * (l.length - (i + 1)) = 3 * (l.length - 1) := by omega
  rw [e3, List.append_assoc (nfl l) x, List.take_append_of_le_length (by rw [hl]; omega), List.drop_append_of_le_length (by rw [hl]; omega), List.drop_append_of_le_length (by rw [hl]; omega), nfl_take, nfl_drop, nfl_drop]
  have hd : (nfl (l.drop (i + 1))).length = 3 * (l.length - (i + 1)) := by rw [nfl_len]; simp
  rw [List.take_left' hd, List.eraseIdx_eq_take_drop_succ, nfl_app]
  simp [List.append_assoc]
end
theorem anys_3 {n : Nat} (h : 3 ≤ n) : anys n = [.any, .any, .any] ++ anys (n - 3) := by
  obtain ⟨k, rfl⟩ : ∃ k, n = k + 3 := ⟨n - 3, by omega⟩
  simp [anys, List.replicate_succ]
end Go.Proofs.Ytonllhjmoenckaa
