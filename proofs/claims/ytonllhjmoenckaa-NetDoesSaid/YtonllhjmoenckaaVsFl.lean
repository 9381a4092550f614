/- The cells of an object that holds the elements of a row one behind the other. No program stands here. -/
import Derived.Test.YtonllhjmoenckaaVsY
namespace Go.Proofs.Ytonllhjmoenckaa
open Go Go.RowKit
set_option linter.unusedVariables false
set_option linter.unusedSimpArgs false

def Uni (k : Nat) (es : List (List D)) : Prop := ∀ e ∈ es, e.length = k
section
variable {k : Nat} {es : List (List D)}
theorem Uni.set (h : Uni k es) (i : Nat) {e : List D} (he : e.length = k) : Uni k (es.set i e) := fun x hx => by
  rcases List.mem_or_eq_of_mem_set hx with h1 | h1
  · exact h x h1
  · rw [h1]; exact he
theorem Uni.app {es' : List (List D)} (h : Uni k es) (h' : Uni k es') : Uni k (es ++ es') := fun x hx => by
  rcases List.mem_append.1 hx with h1 | h1
  · exact h x h1
  · exact h' x h1
theorem flatten_len (h : Uni k es) : es.flatten.length = es.length * k := by
  induction es with
  | nil => simp
  | cons e es ih =>
    have h1 := h e (by simp)
    have h2 := ih fun x hx => h x (by simp [hx])
    simp only [List.flatten_cons, List.length_append, List.length_cons, h1, h2, Nat.succ_mul]; omega
theorem flatten_split {i : Nat} {e : List D} (h : Uni k es) (he : es[i]? = some e) : ∃ pre post, es = pre ++ [e] ++ post ∧ pre.length = i ∧ pre.flatten.length = i * k := by
  have hi := get_lt he
  have he' : es[i] = e := by rw [List.getElem?_eq_getElem hi] at he; exact Option.some.inj he
  refine ⟨es.take i, es.drop (i + 1), by rw [List.append_assoc, List.singleton_append, ← he', List.getElem_cons_drop hi, List.take_append_drop], by simp; omega, ?_⟩
  rw [flatten_len fun x hx => h x (List.mem_of_mem_take hx), List.length_take, Nat.min_eq_left (by omega)]
theorem flatD_eq (es : List (List D)) : flatD es = es.flatten.map V.d := rfl
theorem flatD_len (h : Uni k es) : (flatD es).length = es.length * k := by rw [flatD_eq, List.length_map, flatten_len h]
theorem flatten_part {i : Nat} {e : List D} (h : Uni k es) (he : es[i]? = some e) : (es.flatten.drop (i * k)).take k = e := by
  obtain ⟨pre, post, hs, h1, h2⟩ := flatten_split h he
  have hk := h e (List.mem_of_getElem? he)
  rw [hs, List.flatten_append, List.flatten_append, List.append_assoc, List.drop_left' h2]
  simp only [List.flatten_cons, List.flatten_nil, List.append_nil]
  rw [List.take_left' hk]
theorem flatD_part {i : Nat} {e : List D} (h : Uni k es) (he : es[i]? = some e) : ((flatD es).drop (i * k)).take k = e.map V.d := by
  rw [flatD_eq, ← List.map_drop, ← List.map_take, flatten_part h he]
theorem flatten_cell {i j : Nat} {e : List D} (h : Uni k es) (he : es[i]? = some e) (hj : j < k) : es.flatten[i * k + j]? = e[j]? := by
  have h1 := flatten_part h he
  rw [← h1, List.getElem?_take, if_pos hj, List.getElem?_drop]
theorem flatD_cell {i j : Nat} {e : List D} (h : Uni k es) (he : es[i]? = some e) (hj : j < k) : (flatD es)[i * k + j]? = (e[j]?).map V.d := by
  rw [flatD_eq, List.getElem?_map, flatten_cell h he hj]
theorem flatten_put {i j : Nat} {e xs : List D} (h : Uni k es) (he : es[i]? = some e) (hj : j + xs.length ≤ k) : es.flatten.take (i * k + j) ++ xs ++ es.flatten.drop (i * k + j + xs.length) = (es.set i (e.take j ++ xs ++ e.drop (j + xs.length))).flatten := by
  obtain ⟨pre, post, hs, h1, h2⟩ := flatten_split h he
  have hk := h e (List.mem_of_getElem? he)
  have e2 : es.set i (e.take j ++ xs ++ e.drop (j + xs.length)) = pre ++ [e.take j ++ xs ++ e.drop (j + xs.length)] ++ post := by
    rw [hs, List.set_append_left _ _ (by simp; omega), List.set_append_right _ _ (by omega), h1, Nat.sub_self]
    rfl
  rw [e2, hs]
  simp only [List.flatten_append, List.flatten_cons, List.flatten_nil, List.append_nil]
  rw [← h2, List.append_assoc pre.flatten, List.take_length_add_append, Nat.add_assoc, List.drop_length_add_append, List.take_append_of_le_length (by omega), List.drop_append_of_le_length (by omega)]
  simp only [List.append_assoc]
theorem flatD_put {i j : Nat} {e xs : List D} (h : Uni k es) (he : es[i]? = some e) (hj : j + xs.length ≤ k) : (flatD es).take (i * k + j) ++ xs.map V.d ++ (flatD es).drop (i * k + j + xs.length) = flatD (es.set i (e.take j ++ xs ++ e.drop (j + xs.length))) := by
  rw [flatD_eq, flatD_eq, ← flatten_put h he hj]
  simp only [List.map_append, List.map_take, List.map_drop]
theorem toDs_map : ∀ ds : List D, toDs (ds.map V.d) = some ds
  | [] => rfl
  | d :: ds => by
    show toDs (V.d d :: ds.map V.d) = _
    simp only [toDs, toD, toDs_map ds]
theorem flatD_toDs (es : List (List D)) : toDs (flatD es) = some es.flatten := toDs_map _
theorem flatten_chunks (h : Uni k es) : chunks k es.length es.flatten = es := by
  apply List.ext_getElem?; intro i
  unfold chunks
  rw [List.getElem?_map]
  by_cases hi : i < es.length
  · rw [List.getElem?_range hi, List.getElem?_eq_getElem hi]
    simp only [Option.map_some, Option.some.injEq]
    exact flatten_part h (List.getElem?_eq_getElem hi)
  · rw [List.getElem?_eq_none (by simpa using hi), List.getElem?_eq_none (by omega)]; rfl
theorem flatD_fr (o : Nat) (ds : List D) (es : List (List D)) : frL o ds (flatD es) = flatD es := by
  rw [frL_map, flatD_eq, List.map_map]; simp [frV, Function.comp_def]
theorem flatD_mv (f : Nat → Option Nat) (es : List (List D)) : mvL f (flatD es) = flatD es := by
  rw [mvL_map, flatD_eq, List.map_map]; simp [mvV, Function.comp_def]
theorem flatD_ren (f : Nat → Nat) (es : List (List D)) : renL f (flatD es) = flatD es := by
  rw [renL_map, flatD_eq, List.map_map]; simp [renV, Function.comp_def]
theorem flatD_app (a b : List (List D)) : flatD a ++ flatD b = flatD (a ++ b) := by simp [flatD]
theorem flatD_one (e : List D) : flatD [e] = e.map V.d := by simp [flatD]
/-- A slice of all of an object's cells, frozen. -/
theorem frV_all {o n : Nat} {g : Bool} (h : Uni k es) (hn : es.length = n) : frV o es.flatten (.hs g k o 0 n) = .sl k es := by
  subst hn
  simp only [frV, if_true]
  rw [if_pos (by rw [flatten_len h]; omega), List.drop_zero, flatten_chunks h]
end
attribute [go_sem] flatD_mv flatD_ren flatD_fr
end Go.Proofs.Ytonllhjmoenckaa
