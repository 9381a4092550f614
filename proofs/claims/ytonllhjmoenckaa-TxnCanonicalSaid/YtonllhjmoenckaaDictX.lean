/- Walks: copies of texts and of maps; a dictionary's New, Keys, Copy, Reset. -/
import Derived.Test.YtonllhjmoenckaaDictF
import Derived.Test.YtonllhjmoenckaaMapC
namespace Go.Proofs.Ytonllhjmoenckaa
section
open Go Go.RowKit
set_option linter.unusedVariables false
set_option linter.unusedSimpArgs false
variable {K : Nat → Obj → Prop}

/-- Texts as data. -/
def kd (ks : List ByteArray) : List D := ks.map fun s => D.sc (.string s)
def ds (ks : List ByteArray) : List (List D) := ks.map fun s => [D.sc (.string s)]
theorem ds_len (ks : List ByteArray) : (ds ks).length = ks.length := by simp [ds]
theorem ds_get (ks : List ByteArray) (i : Nat) : (ds ks)[i]? = (ks[i]?).map fun s => [D.sc (.string s)] := by simp [ds]
theorem ds_app (ks ls : List ByteArray) : ds ks ++ ds ls = ds (ks ++ ls) := by simp [ds]
theorem ds_snoc (ks : List ByteArray) (s : ByteArray) : ds ks ++ [[D.sc (.string s)]] = ds (ks ++ [s]) := by simp [ds]
theorem ds_take (ks : List ByteArray) (n : Nat) : (ds ks).take n = ds (ks.take n) := by simp [ds]
theorem ds_drop (ks : List ByteArray) (n : Nat) : (ds ks).drop n = ds (ks.drop n) := by simp [ds]
theorem kc_toDs : ∀ ks : List ByteArray, toDs (kc ks) = some (kd ks)
  | [] => rfl
  | s :: ks => by
    show toDs (V.sc (.string s) :: kc ks) = _
    simp only [toDs, toD, kc_toDs ks]; rfl
theorem kd_len (ks : List ByteArray) : (kd ks).length = ks.length := by simp [kd]
theorem kd_chunks (ks : List ByteArray) : chunks 1 ks.length (kd ks) = ds ks := by
  apply List.ext_getElem?; intro i
  unfold chunks kd ds
  rw [List.getElem?_map, List.getElem?_map]
  by_cases h : i < ks.length
  · rw [List.getElem?_range h, List.getElem?_eq_getElem h]
    simp only [Option.map_some, Nat.mul_one, Option.some.injEq]
    rw [List.drop_eq_getElem_cons (by simpa using h)]
    simp
  · rw [List.getElem?_eq_none (by simpa using h), List.getElem?_eq_none (by omega)]; rfl
theorem kc_fr (o : Nat) (e : List D) (ks : List ByteArray) : frL o e (kc ks) = kc ks := by
  rw [frL_map]; simp [kc, frV]
theorem flatD_ds (ks : List ByteArray) : flatD (ds ks) = kc ks := by
  induction ks with
  | nil => rfl
  | cons s ks ih =>
    unfold flatD at ih ⊢
    show List.map V.d (([D.sc (.string s)] :: ds ks).flatten) = _
    simp only [List.flatten_cons, List.map_append, ih]; rfl
theorem kd_nil : kd [] = [] := rfl
attribute [go_sem] ds_len ds_get ds_app ds_snoc ds_take ds_drop kd_len kd_chunks kc_fr flatD_ds

set_option maxRecDepth 100000 in
theorem mclone_s (c : Nat) (l : Pm) : Sp Try.prog K 88 [.mp 0] [.map (pm c l)] fun u hh => u = .mp 1 ∧ hh = [.map (pm c l), .map (pm c l)] := by
  intro F φ w args hK hi hd
  obtain ⟨r, rfl, hr⟩ := args1 hd
  obtain ⟨b, z, ents, rfl, hp, hblk, hsz, hent⟩ := map_obj hi hr rfl
  refine (mclone_c b ents _ w hblk).mono ?_
  rintro e w' ⟨rfl, rfl⟩
  obtain ⟨a1, a2⟩ := more_alloc w (.map ents (pm c l).c)
  have i1 := hi.reserve
  have hl : φ.length = 1 := by have := hi.len; simpa using this
  have hrn : (φ ++ [Pl.yet])[1]? = some .yet := by rw [List.getElem?_append_right (by omega), hl]; rfl
  have hpp : ∀ b, (Pl.obj w.heap.size 0).blk = some b → w.heap.size ≤ b := fun b hb => by cases hb; exact Nat.le_refl _
  have he := Ext.fill (φ := φ ++ [.yet]) (.obj w.heap.size 0) hrn a1 a2 hpp
  have hat : ((φ ++ [Pl.yet]).set 1 (.obj w.heap.size 0))[1]? = some (.obj w.heap.size 0) := List.getElem?_set_self (get_lt hrn)
  have hinv := i1.fill (.obj w.heap.size 0) (.map (pm c l)) hrn a1 a2 hpp ⟨ents, _, heap_alloc_new w _, ⟨rfl, hsz⟩, fun j m e hm he' => ⟨(hent j m e hm he').1, ((hent j m e hm he').2.ext (.reserve φ w)).ext he⟩⟩
  exact ⟨_, _, _, _, rfl, (Ext.reserve φ w).trans hi he, hinv, .mp ⟨_, hat, by simp⟩ fun b' hb' => by rw [hat] at hb'; cases hb'; rfl, rfl, rfl⟩

set_option maxRecDepth 100000 in
set_option maxHeartbeats 4000000 in
theorem clone_h (ks : List ByteArray) (hl : ks.length ≤ 1000000) : Sp Try.prog K 87 [.hs true 1 0 0 ks.length] [.cells (kc ks)] fun u hh => u = .hs true 1 1 0 ks.length ∧ hh = [.cells (kc ks), .cells (kc ks)] := by
  refine Sp.of_bodyD Try.func87 rfl ?_
  intro Q hQ
  simp only [List.replicate, List.length_cons, List.length_nil, Try.ntmps87, Nat.reduceAdd, Nat.reduceSub, List.cons_append, List.nil_append] at hQ ⊢
  have hb1 : (ks.length * 16 ≤ 70368744177664) = True := by simp; omega
  have hb2 : (ks.length ≤ 70368744177664) = True := by simp; omega
  by_cases hk : ks = []
  · subst hk
    have hn : (([] : List ByteArray).length == 0) = true := rfl
    have hz : True := trivial
    have hy := yieldedV_eq
    have hL := And.intro @hn (And.intro @hb1 (@hb2))
    repeat' (first | (refine WPV.seqK ?_; intro N hN) | refine WPV.block ?_ | refine WPV.scope ?_ | refine WPV.skip ?_ | refine WPV.label ?_ | refine WPV.exit ?_ | refine WPV.ret ?_ | (refine WPV.regionG (M := inM [58]) ?_; intro N hN ops hy; (try simp only [List.append] at hy ⊢); (try simp only [List.map_cons, List.map_nil] at hy)) | (refine WPV.drawK (M := inM [58]) (by kernel_rfl) (by kernel_rfl) ?_; intro N hN; have hy := yieldedV_eq) | (refine WPV.condK ?_; intro A hA B hB) | (refine here ?_; refine sM ?_) | (refine And.intro (by kernel_rfl : okOrd _ _ = true) ?_) | refine Both.mk ?_ ?_ | (refine hN _ ?_; try clear hN N; try clear hy ops) | (refine hA ?_; clear hA A hB B; try simp only [hz]) | (refine hB ?_; clear hA A hB B; try simp only [hz]) | ((first | refine guardO.mk ?_ ?_ | refine guardD.mk ?_ ?_ | refine Br.mk ?_ ?_) <;> (intro hz; have h := nm hz; try (exfalso; omega)) <;> (have hz := nz hz)) | ((first | rw [if_pos (show _ ∧ _ from ⟨by omega, by omega⟩)] | rw [if_pos (show _ ∧ _ from by simp only [List.length_append, List.length_cons, List.length_nil]; exact ⟨by omega, by omega⟩)]); refine sM ?_) | (simp only [thenV, blockV, if_true, if_false, Nat.reduceEqDiff, reduceCtorEq, imp_self]) | (clear hN N))
    · apply And.right; refine hQ _ _ _ ((Desc.nilT 2 1 rfl).trans (Desc.re [some 0, some 1] rfl)) ?_ ⟨rfl, ?_⟩
      · (first | (simp only [go_sem, reduceCtorEq, Nat.reduceAdd, Nat.reduceSub, Nat.reduceMul, Nat.reduceLT, Nat.reduceLeDiff, Int.reduceLT, Int.reduceLE, Int.reduceEq, Int.reduceNe, Int.reduceAdd, Int.reduceSub, Int.reduceMul, Int.reduceToNat, Int.reduceNeg, Int.reducePow, Nat.reducePow, Nat.reduceEqDiff, Nat.reduceBEq, Int.reduceBEq, Int.reduceBNe, Int.reduceNegSucc, Try.results87]; done) | (simp only [go_sem, reduceCtorEq, Nat.reduceAdd, Nat.reduceSub, Nat.reduceMul, Nat.reduceLT, Nat.reduceLeDiff, Int.reduceLT, Int.reduceLE, Int.reduceEq, Int.reduceNe, Int.reduceAdd, Int.reduceSub, Int.reduceMul, Int.reduceToNat, Int.reduceNeg, Int.reducePow, Nat.reducePow, Nat.reduceEqDiff, Nat.reduceBEq, Int.reduceBEq, Int.reduceBNe, Int.reduceNegSucc, Try.results87]; rfl) | rfl)
      · rfl
    · apply And.right; refine hQ _ _ _ (Desc.re [some 0, some 2] rfl) ?_ ⟨rfl, ?_⟩
      · (first | (simp only [go_sem, reduceCtorEq, Nat.reduceAdd, Nat.reduceSub, Nat.reduceMul, Nat.reduceLT, Nat.reduceLeDiff, Int.reduceLT, Int.reduceLE, Int.reduceEq, Int.reduceNe, Int.reduceAdd, Int.reduceSub, Int.reduceMul, Int.reduceToNat, Int.reduceNeg, Int.reducePow, Nat.reducePow, Nat.reduceEqDiff, Nat.reduceBEq, Int.reduceBEq, Int.reduceBNe, Int.reduceNegSucc, Try.results87]; done) | (simp only [go_sem, reduceCtorEq, Nat.reduceAdd, Nat.reduceSub, Nat.reduceMul, Nat.reduceLT, Nat.reduceLeDiff, Int.reduceLT, Int.reduceLE, Int.reduceEq, Int.reduceNe, Int.reduceAdd, Int.reduceSub, Int.reduceMul, Int.reduceToNat, Int.reduceNeg, Int.reducePow, Nat.reducePow, Nat.reduceEqDiff, Nat.reduceBEq, Int.reduceBEq, Int.reduceBNe, Int.reduceNegSucc, Try.results87]; rfl) | rfl)
      · rfl
  · have hn : (ks.length == 0) = false := by simp; exact hk
    have hz : True := trivial
    have hy := yieldedV_eq
    have hL := And.intro @hn (And.intro @hb1 (@hb2))
    repeat' (first | (refine WPV.seqK ?_; intro N hN) | refine WPV.block ?_ | refine WPV.scope ?_ | refine WPV.skip ?_ | refine WPV.label ?_ | refine WPV.exit ?_ | refine WPV.ret ?_ | (refine WPV.regionG (M := inM [58]) ?_; intro N hN ops hy; (try simp only [List.append] at hy ⊢); (try simp only [List.map_cons, List.map_nil] at hy)) | (refine WPV.drawK (M := inM [58]) (by kernel_rfl) (by kernel_rfl) ?_; intro N hN; have hy := yieldedV_eq) | (refine WPV.condK ?_; intro A hA B hB) | (refine here ?_; refine sM ?_) | (refine And.intro (by kernel_rfl : okOrd _ _ = true) ?_) | refine Both.mk ?_ ?_ | (refine hN _ ?_; try clear hN N; try clear hy ops) | (refine hA ?_; clear hA A hB B; try simp only [hz]) | (refine hB ?_; clear hA A hB B; try simp only [hz]) | ((first | refine guardO.mk ?_ ?_ | refine guardD.mk ?_ ?_ | refine Br.mk ?_ ?_) <;> (intro hz; have h := nm hz; try (exfalso; omega)) <;> (have hz := nz hz)) | ((first | rw [if_pos (show _ ∧ _ from ⟨by omega, by omega⟩)] | rw [if_pos (show _ ∧ _ from by simp only [List.length_append, List.length_cons, List.length_nil]; exact ⟨by omega, by omega⟩)]); refine sM ?_) | (simp only [thenV, blockV, if_true, if_false, Nat.reduceEqDiff, reduceCtorEq, imp_self]) | (clear hN N))
    all_goals (first | exact retA hQ Try.results87 (Desc.re [some 0, some 2] rfl) | exact retN hQ Try.results87 (Desc.re [some 0, some 2] rfl))
set_option maxRecDepth 100000 in
set_option maxHeartbeats 4000000 in
theorem clone_d (ks : List ByteArray) (hl : ks.length ≤ 1000000) : Sp Try.prog K 87 [.hs true 1 0 0 ks.length] [.cells (kc ks)] fun u hh => u = .sl 1 (ds ks) ∧ hh = [.cells (kc ks)] := by
  refine Sp.of_bodyD Try.func87 rfl ?_
  intro Q hQ
  simp only [List.replicate, List.length_cons, List.length_nil, Try.ntmps87, Nat.reduceAdd, Nat.reduceSub, List.cons_append, List.nil_append] at hQ ⊢
  have hb1 : (ks.length * 16 ≤ 70368744177664) = True := by simp; omega
  have hb2 : (ks.length ≤ 70368744177664) = True := by simp; omega
  by_cases hk : ks = []
  · subst hk
    have hn : (([] : List ByteArray).length == 0) = true := rfl
    have hz : True := trivial
    have hy := yieldedV_eq
    have hL := And.intro @hn (And.intro @hb1 (@hb2))
    repeat' (first | (refine WPV.seqK ?_; intro N hN) | refine WPV.block ?_ | refine WPV.scope ?_ | refine WPV.skip ?_ | refine WPV.label ?_ | refine WPV.exit ?_ | refine WPV.ret ?_ | (refine WPV.regionG (M := inM [58]) ?_; intro N hN ops hy; (try simp only [List.append] at hy ⊢); (try simp only [List.map_cons, List.map_nil] at hy)) | (refine WPV.drawK (M := inM [58]) (by kernel_rfl) (by kernel_rfl) ?_; intro N hN; have hy := yieldedV_eq) | (refine WPV.condK ?_; intro A hA B hB) | (refine here ?_; refine sM ?_) | (refine And.intro (by kernel_rfl : okOrd _ _ = true) ?_) | refine Both.mk ?_ ?_ | (refine hN _ ?_; try clear hN N; try clear hy ops) | (refine hA ?_; clear hA A hB B; try simp only [hz]) | (refine hB ?_; clear hA A hB B; try simp only [hz]) | ((first | refine guardO.mk ?_ ?_ | refine guardD.mk ?_ ?_ | refine Br.mk ?_ ?_) <;> (intro hz; have h := nm hz; try (exfalso; omega)) <;> (have hz := nz hz)) | ((first | rw [if_pos (show _ ∧ _ from ⟨by omega, by omega⟩)] | rw [if_pos (show _ ∧ _ from by simp only [List.length_append, List.length_cons, List.length_nil]; exact ⟨by omega, by omega⟩)]); refine sM ?_) | (simp only [thenV, blockV, if_true, if_false, Nat.reduceEqDiff, reduceCtorEq, imp_self]) | (clear hN N))
    · apply And.right; refine hQ _ _ _ ((Desc.nilT 2 1 rfl).trans ((Desc.freeze 1 rfl (kc_toDs [])).trans (Desc.re [some 0] rfl))) ?_ ⟨rfl, ?_⟩
      · (first | (simp only [go_sem, reduceCtorEq, Nat.reduceAdd, Nat.reduceSub, Nat.reduceMul, Nat.reduceLT, Nat.reduceLeDiff, Int.reduceLT, Int.reduceLE, Int.reduceEq, Int.reduceNe, Int.reduceAdd, Int.reduceSub, Int.reduceMul, Int.reduceToNat, Int.reduceNeg, Int.reducePow, Nat.reducePow, Nat.reduceEqDiff, Nat.reduceBEq, Int.reduceBEq, Int.reduceBNe, Int.reduceNegSucc, Try.results87]; done) | (simp only [go_sem, reduceCtorEq, Nat.reduceAdd, Nat.reduceSub, Nat.reduceMul, Nat.reduceLT, Nat.reduceLeDiff, Int.reduceLT, Int.reduceLE, Int.reduceEq, Int.reduceNe, Int.reduceAdd, Int.reduceSub, Int.reduceMul, Int.reduceToNat, Int.reduceNeg, Int.reducePow, Nat.reducePow, Nat.reduceEqDiff, Nat.reduceBEq, Int.reduceBEq, Int.reduceBNe, Int.reduceNegSucc, Try.results87]; rfl) | rfl)
      · rfl
    · apply And.right; refine hQ _ _ _ ((Desc.freeze 2 rfl (kc_toDs [])).trans (Desc.re [some 0] rfl)) ?_ ⟨rfl, ?_⟩
      · (first | (simp only [go_sem, reduceCtorEq, Nat.reduceAdd, Nat.reduceSub, Nat.reduceMul, Nat.reduceLT, Nat.reduceLeDiff, Int.reduceLT, Int.reduceLE, Int.reduceEq, Int.reduceNe, Int.reduceAdd, Int.reduceSub, Int.reduceMul, Int.reduceToNat, Int.reduceNeg, Int.reducePow, Nat.reducePow, Nat.reduceEqDiff, Nat.reduceBEq, Int.reduceBEq, Int.reduceBNe, Int.reduceNegSucc, Try.results87]; done) | (simp only [go_sem, reduceCtorEq, Nat.reduceAdd, Nat.reduceSub, Nat.reduceMul, Nat.reduceLT, Nat.reduceLeDiff, Int.reduceLT, Int.reduceLE, Int.reduceEq, Int.reduceNe, Int.reduceAdd, Int.reduceSub, Int.reduceMul, Int.reduceToNat, Int.reduceNeg, Int.reducePow, Nat.reducePow, Nat.reduceEqDiff, Nat.reduceBEq, Int.reduceBEq, Int.reduceBNe, Int.reduceNegSucc, Try.results87]; rfl) | rfl)
      · rfl
  · have hn : (ks.length == 0) = false := by simp; exact hk
    have hz : True := trivial
    have hy := yieldedV_eq
    have hL := And.intro @hn (And.intro @hb1 (@hb2))
    repeat' (first | (refine WPV.seqK ?_; intro N hN) | refine WPV.block ?_ | refine WPV.scope ?_ | refine WPV.skip ?_ | refine WPV.label ?_ | refine WPV.exit ?_ | refine WPV.ret ?_ | (refine WPV.regionG (M := inM [58]) ?_; intro N hN ops hy; (try simp only [List.append] at hy ⊢); (try simp only [List.map_cons, List.map_nil] at hy)) | (refine WPV.drawK (M := inM [58]) (by kernel_rfl) (by kernel_rfl) ?_; intro N hN; have hy := yieldedV_eq) | (refine WPV.condK ?_; intro A hA B hB) | (refine here ?_; refine sM ?_) | (refine And.intro (by kernel_rfl : okOrd _ _ = true) ?_) | refine Both.mk ?_ ?_ | (refine hN _ ?_; try clear hN N; try clear hy ops) | (refine hA ?_; clear hA A hB B; try simp only [hz]) | (refine hB ?_; clear hA A hB B; try simp only [hz]) | ((first | refine guardO.mk ?_ ?_ | refine guardD.mk ?_ ?_ | refine Br.mk ?_ ?_) <;> (intro hz; have h := nm hz; try (exfalso; omega)) <;> (have hz := nz hz)) | ((first | rw [if_pos (show _ ∧ _ from ⟨by omega, by omega⟩)] | rw [if_pos (show _ ∧ _ from by simp only [List.length_append, List.length_cons, List.length_nil]; exact ⟨by omega, by omega⟩)]); refine sM ?_) | (simp only [thenV, blockV, if_true, if_false, Nat.reduceEqDiff, reduceCtorEq, imp_self]) | (clear hN N))
    all_goals (apply And.right; refine hQ _ _ _ ((Desc.freeze 2 rfl (kc_toDs ks)).trans (Desc.re [some 0] rfl)) ?_ ⟨rfl, ?_⟩)
    · (first | (simp only [go_sem, reduceCtorEq, Nat.reduceAdd, Nat.reduceSub, Nat.reduceMul, Nat.reduceLT, Nat.reduceLeDiff, Int.reduceLT, Int.reduceLE, Int.reduceEq, Int.reduceNe, Int.reduceAdd, Int.reduceSub, Int.reduceMul, Int.reduceToNat, Int.reduceNeg, Int.reducePow, Nat.reducePow, Nat.reduceEqDiff, Nat.reduceBEq, Int.reduceBEq, Int.reduceBNe, Int.reduceNegSucc, Try.results87]; done) | (simp only [go_sem, reduceCtorEq, Nat.reduceAdd, Nat.reduceSub, Nat.reduceMul, Nat.reduceLT, Nat.reduceLeDiff, Int.reduceLT, Int.reduceLE, Int.reduceEq, Int.reduceNe, Int.reduceAdd, Int.reduceSub, Int.reduceMul, Int.reduceToNat, Int.reduceNeg, Int.reducePow, Nat.reducePow, Nat.reduceEqDiff, Nat.reduceBEq, Int.reduceBEq, Int.reduceBNe, Int.reduceNegSucc, Try.results87]; rfl) | rfl)
    · (first | (simp only [go_sem, reduceCtorEq, Nat.reduceAdd, Nat.reduceSub, Nat.reduceMul, Nat.reduceLT, Nat.reduceLeDiff, Int.reduceLT, Int.reduceLE, Int.reduceEq, Int.reduceNe, Int.reduceAdd, Int.reduceSub, Int.reduceMul, Int.reduceToNat, Int.reduceNeg, Int.reducePow, Nat.reducePow, Nat.reduceEqDiff, Nat.reduceBEq, Int.reduceBEq, Int.reduceBNe, Int.reduceNegSucc]; done) | (simp only [go_sem, reduceCtorEq, Nat.reduceAdd, Nat.reduceSub, Nat.reduceMul, Nat.reduceLT, Nat.reduceLeDiff, Int.reduceLT, Int.reduceLE, Int.reduceEq, Int.reduceNe, Int.reduceAdd, Int.reduceSub, Int.reduceMul, Int.reduceToNat, Int.reduceNeg, Int.reducePow, Nat.reducePow, Nat.reduceEqDiff, Nat.reduceBEq, Int.reduceBEq, Int.reduceBNe, Int.reduceNegSucc]; rfl) | rfl)

set_option maxRecDepth 100000 in
set_option maxHeartbeats 4000000 in
theorem dkeys_s (d : Di) (hl : d.ks.length ≤ 8) : Sp Try.prog K 42 [.ptr 0 0] d.inn fun u hh => u = .sl 1 (ds d.ks) ∧ hh = d.inn := by
  refine Sp.of_body Try.func42 rfl ?_
  intro Q hQ
  simp only [List.replicate, List.length_cons, List.length_nil, Try.ntmps42, Nat.reduceAdd, Nat.reduceSub, List.cons_append, List.nil_append, Di.inn] at hQ ⊢
  have hz : True := trivial
  have hy := yieldedV_eq
  have hL := True.intro
  repeat' (first | (refine WPV.seqK ?_; intro N hN) | refine WPV.block ?_ | refine WPV.scope ?_ | refine WPV.skip ?_ | refine WPV.label ?_ | refine WPV.exit ?_ | refine WPV.ret ?_ | (refine WPV.regionG (M := noM) ?_; intro N hN ops hy; (try simp only [List.append] at hy ⊢); (try simp only [List.map_cons, List.map_nil] at hy)) | (refine WPV.drawK (M := noM) (by kernel_rfl) (by kernel_rfl) ?_; intro N hN; have hy := yieldedV_eq) | (refine WPV.condK ?_; intro A hA B hB) | (refine here ?_; refine sM ?_) | (refine And.intro (by kernel_rfl : okOrd _ _ = true) ?_) | refine Both.mk ?_ ?_ | ((with_reducible refine CallO.gd 87 ?_); refine CallO.frA [1] Try.call87 (clone_d d.ks (by omega)) ?_) | (refine hN _ ?_; try clear hN N; try clear hy ops) | (refine hA ?_; clear hA A hB B; try simp only [hz]) | (refine hB ?_; clear hA A hB B; try simp only [hz]) | ((first | refine guardO.mk ?_ ?_ | refine guardD.mk ?_ ?_ | refine Br.mk ?_ ?_) <;> (intro hz; have h := nm hz; try (exfalso; omega)) <;> (have hz := nz hz)) | ((first | rw [if_pos (show _ ∧ _ from ⟨by omega, by omega⟩)] | rw [if_pos (show _ ∧ _ from by simp only [List.length_append, List.length_cons, List.length_nil]; exact ⟨by omega, by omega⟩)]); refine sM ?_) | (simp only [thenV, blockV, if_true, if_false, Nat.reduceEqDiff, reduceCtorEq, imp_self]) | (clear hN N))
  apply And.right; apply hQ
  · (first | (simp only [go_sem, reduceCtorEq, Nat.reduceAdd, Nat.reduceSub, Nat.reduceMul, Nat.reduceLT, Nat.reduceLeDiff, Int.reduceLT, Int.reduceLE, Int.reduceEq, Int.reduceNe, Int.reduceAdd, Int.reduceSub, Int.reduceMul, Int.reduceToNat, Int.reduceNeg, Int.reducePow, Nat.reducePow, Nat.reduceEqDiff, Nat.reduceBEq, Int.reduceBEq, Int.reduceBNe, Int.reduceNegSucc, Try.results42]; done) | (simp only [go_sem, reduceCtorEq, Nat.reduceAdd, Nat.reduceSub, Nat.reduceMul, Nat.reduceLT, Nat.reduceLeDiff, Int.reduceLT, Int.reduceLE, Int.reduceEq, Int.reduceNe, Int.reduceAdd, Int.reduceSub, Int.reduceMul, Int.reduceToNat, Int.reduceNeg, Int.reducePow, Nat.reducePow, Nat.reduceEqDiff, Nat.reduceBEq, Int.reduceBEq, Int.reduceBNe, Int.reduceNegSucc, Try.results42]; rfl) | rfl)
  · exact ⟨rfl, rfl⟩

set_option maxRecDepth 100000 in
set_option maxHeartbeats 4000000 in
theorem dnew_s : Sp Try.prog K 34 [] [] fun u hh => u = .ptr 0 0 ∧ hh = Di.new.inn := by
  refine Sp.of_bodyD Try.func34 rfl ?_
  intro Q hQ
  simp only [List.replicate, List.length_cons, List.length_nil, Try.ntmps34, Nat.reduceAdd, Nat.reduceSub, List.cons_append, List.nil_append] at hQ ⊢
  have hz : True := trivial
  have hy := yieldedV_eq
  have hL := True.intro
  repeat' (first | (refine WPV.seqK ?_; intro N hN) | refine WPV.block ?_ | refine WPV.scope ?_ | refine WPV.skip ?_ | refine WPV.label ?_ | refine WPV.exit ?_ | refine WPV.ret ?_ | (refine WPV.regionG (M := noM) ?_; intro N hN ops hy; (try simp only [List.append] at hy ⊢); (try simp only [List.map_cons, List.map_nil] at hy)) | (refine WPV.drawK (M := noM) (by kernel_rfl) (by kernel_rfl) ?_; intro N hN; have hy := yieldedV_eq) | (refine WPV.condK ?_; intro A hA B hB) | (refine here ?_; refine sM ?_) | (refine And.intro (by kernel_rfl : okOrd _ _ = true) ?_) | refine Both.mk ?_ ?_ | (refine hN _ ?_; try clear hN N; try clear hy ops) | (refine hA ?_; clear hA A hB B; try simp only [hz]) | (refine hB ?_; clear hA A hB B; try simp only [hz]) | ((first | refine guardO.mk ?_ ?_ | refine guardD.mk ?_ ?_ | refine Br.mk ?_ ?_) <;> (intro hz; have h := nm hz; try (exfalso; omega)) <;> (have hz := nz hz)) | ((first | rw [if_pos (show _ ∧ _ from ⟨by omega, by omega⟩)] | rw [if_pos (show _ ∧ _ from by simp only [List.length_append, List.length_cons, List.length_nil]; exact ⟨by omega, by omega⟩)]); refine sM ?_) | (simp only [thenV, blockV, if_true, if_false, Nat.reduceEqDiff, reduceCtorEq, imp_self]) | (clear hN N))
  apply And.right; refine hQ _ _ _ ((Desc.nilH 1 0 1 rfl rfl).trans (Desc.re [some 1, some 2, some 0] rfl)) ?_ ⟨rfl, ?_⟩
  · (first | (simp only [go_sem, reduceCtorEq, Nat.reduceAdd, Nat.reduceSub, Nat.reduceMul, Nat.reduceLT, Nat.reduceLeDiff, Int.reduceLT, Int.reduceLE, Int.reduceEq, Int.reduceNe, Int.reduceAdd, Int.reduceSub, Int.reduceMul, Int.reduceToNat, Int.reduceNeg, Int.reducePow, Nat.reducePow, Nat.reduceEqDiff, Nat.reduceBEq, Int.reduceBEq, Int.reduceBNe, Int.reduceNegSucc, Try.results34]; done) | (simp only [go_sem, reduceCtorEq, Nat.reduceAdd, Nat.reduceSub, Nat.reduceMul, Nat.reduceLT, Nat.reduceLeDiff, Int.reduceLT, Int.reduceLE, Int.reduceEq, Int.reduceNe, Int.reduceAdd, Int.reduceSub, Int.reduceMul, Int.reduceToNat, Int.reduceNeg, Int.reducePow, Nat.reducePow, Nat.reduceEqDiff, Nat.reduceBEq, Int.reduceBEq, Int.reduceBNe, Int.reduceNegSucc, Try.results34]; rfl) | rfl)
  · (first | (simp only [go_sem, reduceCtorEq, Nat.reduceAdd, Nat.reduceSub, Nat.reduceMul, Nat.reduceLT, Nat.reduceLeDiff, Int.reduceLT, Int.reduceLE, Int.reduceEq, Int.reduceNe, Int.reduceAdd, Int.reduceSub, Int.reduceMul, Int.reduceToNat, Int.reduceNeg, Int.reducePow, Nat.reducePow, Nat.reduceEqDiff, Nat.reduceBEq, Int.reduceBEq, Int.reduceBNe, Int.reduceNegSucc]; done) | (simp only [go_sem, reduceCtorEq, Nat.reduceAdd, Nat.reduceSub, Nat.reduceMul, Nat.reduceLT, Nat.reduceLeDiff, Int.reduceLT, Int.reduceLE, Int.reduceEq, Int.reduceNe, Int.reduceAdd, Int.reduceSub, Int.reduceMul, Int.reduceToNat, Int.reduceNeg, Int.reducePow, Nat.reducePow, Nat.reduceEqDiff, Nat.reduceBEq, Int.reduceBEq, Int.reduceBNe, Int.reduceNegSucc]; rfl) | rfl)

set_option maxRecDepth 100000 in
set_option maxHeartbeats 4000000 in
theorem dreset_s (d : Di) : Sp Try.prog K 40 [.ptr 0 0] d.inn fun u hh => u = .undef ∧ hh = Di.new.out := by
  refine Sp.of_bodyD Try.func40 rfl ?_
  intro Q hQ
  simp only [List.replicate, List.length_cons, List.length_nil, Try.ntmps40, Nat.reduceAdd, Nat.reduceSub, List.cons_append, List.nil_append, Di.inn] at hQ ⊢
  have hz : True := trivial
  have hy := yieldedV_eq
  have hL := True.intro
  repeat' (first | (refine WPV.seqK ?_; intro N hN) | refine WPV.block ?_ | refine WPV.scope ?_ | refine WPV.skip ?_ | refine WPV.label ?_ | refine WPV.exit ?_ | refine WPV.ret ?_ | (refine WPV.regionG (M := noM) ?_; intro N hN ops hy; (try simp only [List.append] at hy ⊢); (try simp only [List.map_cons, List.map_nil] at hy)) | (refine WPV.drawK (M := noM) (by kernel_rfl) (by kernel_rfl) ?_; intro N hN; have hy := yieldedV_eq) | (refine WPV.condK ?_; intro A hA B hB) | (refine here ?_; refine sM ?_) | (refine And.intro (by kernel_rfl : okOrd _ _ = true) ?_) | refine Both.mk ?_ ?_ | ((with_reducible refine CallO.gd 34 ?_); refine CallO.frA [] Try.call34 (dnew_s) ?_) | (refine hN _ ?_; try clear hN N; try clear hy ops) | (refine hA ?_; clear hA A hB B; try simp only [hz]) | (refine hB ?_; clear hA A hB B; try simp only [hz]) | ((first | refine guardO.mk ?_ ?_ | refine guardD.mk ?_ ?_ | refine Br.mk ?_ ?_) <;> (intro hz; have h := nm hz; try (exfalso; omega)) <;> (have hz := nz hz)) | ((first | rw [if_pos (show _ ∧ _ from ⟨by omega, by omega⟩)] | rw [if_pos (show _ ∧ _ from by simp only [List.length_append, List.length_cons, List.length_nil]; exact ⟨by omega, by omega⟩)]); refine sM ?_) | (simp only [thenV, blockV, if_true, if_false, Nat.reduceEqDiff, reduceCtorEq, imp_self]) | (clear hN N))
  all_goals (apply And.left; refine hQ _ _ .undef (Desc.re [some 0, none, none, some 4, some 5] rfl) ?_ ⟨rfl, ?_⟩)
  · (first | (simp only [go_sem, reduceCtorEq, Nat.reduceAdd, Nat.reduceSub, Nat.reduceMul, Nat.reduceLT, Nat.reduceLeDiff, Int.reduceLT, Int.reduceLE, Int.reduceEq, Int.reduceNe, Int.reduceAdd, Int.reduceSub, Int.reduceMul, Int.reduceToNat, Int.reduceNeg, Int.reducePow, Nat.reducePow, Nat.reduceEqDiff, Nat.reduceBEq, Int.reduceBEq, Int.reduceBNe, Int.reduceNegSucc, Try.results40]; done) | (simp only [go_sem, reduceCtorEq, Nat.reduceAdd, Nat.reduceSub, Nat.reduceMul, Nat.reduceLT, Nat.reduceLeDiff, Int.reduceLT, Int.reduceLE, Int.reduceEq, Int.reduceNe, Int.reduceAdd, Int.reduceSub, Int.reduceMul, Int.reduceToNat, Int.reduceNeg, Int.reducePow, Nat.reducePow, Nat.reduceEqDiff, Nat.reduceBEq, Int.reduceBEq, Int.reduceBNe, Int.reduceNegSucc, Try.results40]; rfl) | rfl)
  · (first | (simp only [go_sem, reduceCtorEq, Nat.reduceAdd, Nat.reduceSub, Nat.reduceMul, Nat.reduceLT, Nat.reduceLeDiff, Int.reduceLT, Int.reduceLE, Int.reduceEq, Int.reduceNe, Int.reduceAdd, Int.reduceSub, Int.reduceMul, Int.reduceToNat, Int.reduceNeg, Int.reducePow, Nat.reducePow, Nat.reduceEqDiff, Nat.reduceBEq, Int.reduceBEq, Int.reduceBNe, Int.reduceNegSucc]; done) | (simp only [go_sem, reduceCtorEq, Nat.reduceAdd, Nat.reduceSub, Nat.reduceMul, Nat.reduceLT, Nat.reduceLeDiff, Int.reduceLT, Int.reduceLE, Int.reduceEq, Int.reduceNe, Int.reduceAdd, Int.reduceSub, Int.reduceMul, Int.reduceToNat, Int.reduceNeg, Int.reducePow, Nat.reducePow, Nat.reduceEqDiff, Nat.reduceBEq, Int.reduceBEq, Int.reduceBNe, Int.reduceNegSucc]; rfl) | rfl)

set_option maxRecDepth 100000 in
set_option maxHeartbeats 4000000 in
theorem dcopy_s (d : Di) (hl : d.ks.length ≤ 8) : Sp Try.prog K 45 [.ptr 0 0] d.inn fun u hh => u = .ptr 3 0 ∧ hh = d.inn ++ [.cells [.hs true 1 4 0 d.ks.length, .mp 5, .sc (.int .i64 (d.e : Int))], .cells (kc d.ks), .map (pm d.c d.l)] := by
  refine Sp.of_bodyD Try.func45 rfl ?_
  intro Q hQ
  simp only [List.replicate, List.length_cons, List.length_nil, Try.ntmps45, Nat.reduceAdd, Nat.reduceSub, List.cons_append, List.nil_append, Di.inn] at hQ ⊢
  have hz : True := trivial
  have hy := yieldedV_eq
  have hL := True.intro
  repeat' (first | (refine WPV.seqK ?_; intro N hN) | refine WPV.block ?_ | refine WPV.scope ?_ | refine WPV.skip ?_ | refine WPV.label ?_ | refine WPV.exit ?_ | refine WPV.ret ?_ | (refine WPV.regionG (M := noM) ?_; intro N hN ops hy; (try simp only [List.append] at hy ⊢); (try simp only [List.map_cons, List.map_nil] at hy)) | (refine WPV.drawK (M := noM) (by kernel_rfl) (by kernel_rfl) ?_; intro N hN; have hy := yieldedV_eq) | (refine WPV.condK ?_; intro A hA B hB) | (refine here ?_; refine sM ?_) | (refine And.intro (by kernel_rfl : okOrd _ _ = true) ?_) | refine Both.mk ?_ ?_ | ((with_reducible refine CallO.gd 87 ?_); refine CallO.frA [1] Try.call87 (clone_h d.ks (by omega)) ?_) | ((with_reducible refine CallO.gd 88 ?_); refine CallO.frA [2] Try.call88 (mclone_s d.c d.l) ?_) | ((with_reducible refine CallP.gd 87 ?_); refine CallP.frA [1] 1 Try.call87 (clone_h d.ks (by omega)) ?_) | ((with_reducible refine CallP.gd 88 ?_); refine CallP.frA [2] 1 Try.call88 (mclone_s d.c d.l) ?_) | (refine hN _ ?_; try clear hN N; try clear hy ops) | (refine hA ?_; clear hA A hB B; try simp only [hz]) | (refine hB ?_; clear hA A hB B; try simp only [hz]) | ((first | refine guardO.mk ?_ ?_ | refine guardD.mk ?_ ?_ | refine Br.mk ?_ ?_) <;> (intro hz; have h := nm hz; try (exfalso; omega)) <;> (have hz := nz hz)) | ((first | rw [if_pos (show _ ∧ _ from ⟨by omega, by omega⟩)] | rw [if_pos (show _ ∧ _ from by simp only [List.length_append, List.length_cons, List.length_nil]; exact ⟨by omega, by omega⟩)]); refine sM ?_) | (simp only [thenV, blockV, if_true, if_false, Nat.reduceEqDiff, reduceCtorEq, imp_self]) | (clear hN N))
  all_goals (first | exact retA hQ Try.results45 (Desc.re [some 0, some 1, some 2, some 5, some 3, some 4] rfl) | exact retN hQ Try.results45 (Desc.re [some 0, some 1, some 2, some 5, some 3, some 4] rfl))
end

section
open Go Go.RowKit
set_option linter.unusedVariables false
set_option linter.unusedSimpArgs false
variable {K : Nat → Obj → Prop}

/-- What is returned is told less well. -/
theorem Sp.wkR {P : Program} {f : FuncId} {vs : List V} {h : List Ho} {v v' : V} {h' : List Ho} (hs : Sp P K f vs h fun u hh => u = v ∧ hh = h') (hw : Wk [v] [v']) : Sp P K f vs h fun u hh => u = v' ∧ hh = h' :=
  fun F φ w args hK hi hd => (hs F φ w args hK hi hd).mono fun e w' ⟨u, φ', v0, h0, a, b, c, d, e1, e2⟩ => ⟨u, φ', v', h0, a, b, c, by subst e1; exact hw.one d, rfl, e2⟩

def Di.put (d : Di) (k : ByteArray) : (List UInt8 × Int) × Di :=
  if 64 < k.size then (([], 4), d) else if 0 ≤ d.at_ k then ((vput (d.at_ k + 1).toNat, 0), d) else ((vput 0 ++ vput k.size ++ k.toList, 0), d.comes k)
abbrev dpV (r : List UInt8 × Int) : V := .tup [.sl 1 (bs r.1), .sc (.int .i64 r.2)]
theorem size_toList (k : ByteArray) : k.toList.length = k.size := by rw [ByteArray.toList_eq]; simp

set_option maxRecDepth 100000 in
set_option maxHeartbeats 4000000 in
theorem dput_s (d : Di) (k : ByteArray) (hs : Sta d.c d.l) (h8 : d.ks.length ≤ 8) (he : d.e < 8) (ha : d.at_ k < 8) : Sp Try.prog K 35 [.ptr 0 0, .sc (.string k)] d.inn fun u hh => u = dpV (d.put k).1 ∧ hh = (d.put k).2.out := by
  by_cases h64 : 64 < k.size
  · have e : d.put k = (([], 4), d) := if_pos h64
    rw [e]
    refine Sp.wkR (v := .tup [.sc (.slice none 0 0), .sc (.int .i64 4)]) ?_ (.tup (.null (.same .nil)))
    refine Sp.of_bodyD Try.func35 rfl ?_
    intro Q hQ
    simp only [List.replicate, List.length_cons, List.length_nil, Try.ntmps35, Nat.reduceAdd, Nat.reduceSub, List.cons_append, List.nil_append, Di.inn] at hQ ⊢
    have hlen : ((64 : Int) < (k.size : Int)) = True := by simp; omega
    have hat : True := trivial
    have hw1 : True := trivial
    have hw2 : True := trivial
    have hw3 : True := trivial
    have hb1 : True := trivial
    have hb2 : True := trivial
    have hz : True := trivial
    have hy := yieldedV_eq
    have hL := And.intro @hlen (And.intro @hat (And.intro @hw1 (And.intro @hw2 (And.intro @hw3 (And.intro @hb1 (@hb2))))))
    repeat' (first | (refine WPV.seqK ?_; intro N hN) | refine WPV.block ?_ | refine WPV.scope ?_ | refine WPV.skip ?_ | refine WPV.label ?_ | refine WPV.exit ?_ | refine WPV.ret ?_ | (refine WPV.regionG (M := noM) ?_; intro N hN ops hy; (try simp only [List.append] at hy ⊢); (try simp only [List.map_cons, List.map_nil] at hy)) | (refine WPV.drawK (M := noM) (by kernel_rfl) (by kernel_rfl) ?_; intro N hN; have hy := yieldedV_eq) | (refine WPV.condK ?_; intro A hA B hB) | (refine here ?_; refine sM ?_) | (refine And.intro (by kernel_rfl : okOrd _ _ = true) ?_) | refine Both.mk ?_ ?_ | ((with_reducible refine CallO.gd 43 ?_); refine CallO.frA [0, 1, 2] Try.call43 (dat_s d k) ?_) | ((with_reducible refine CallO.gd 81 ?_); refine CallO.frA [0, 1, 2] Try.call81 (dcomes_s d k hs h8 he) ?_) | ((with_reducible refine CallO.gd 80 ?_); first | refine CallO.toA Try.call80 (vput_s (m := d.at_ k + 1) (by omega) (by omega) _) ?_ | refine CallO.toA Try.call80 (vput_s (m := (k.size : Int)) (by omega) (by omega) _) ?_ | refine CallO.toA Try.call80 (vput_s (m := 0) (by omega) (by omega) _) ?_) | ((with_reducible refine CallO.gd 82 ?_); refine CallO.frA [] Try.call82 (vall2O_s (a := 0) (b := (k.size : Int)) ⟨by omega, by omega⟩ ⟨by omega, by omega⟩) ?_) | ((with_reducible refine CallP.gd 80 ?_); first | refine CallP.toA Try.call80 (vput_s (m := d.at_ k + 1) (by omega) (by omega) _) ?_ | refine CallP.toA Try.call80 (vput_s (m := (k.size : Int)) (by omega) (by omega) _) ?_ | refine CallP.toA Try.call80 (vput_s (m := 0) (by omega) (by omega) _) ?_) | (refine hN _ ?_; try clear hN N; try clear hy ops) | (refine hA ?_; clear hA A hB B; try simp only [hz]) | (refine hB ?_; clear hA A hB B; try simp only [hz]) | ((first | refine guardO.mk ?_ ?_ | refine guardD.mk ?_ ?_ | refine Br.mk ?_ ?_) <;> (intro hz; have h := nm hz; try (exfalso; omega)) <;> (have hz := nz hz)) | ((first | rw [if_pos (show _ ∧ _ from ⟨by omega, by omega⟩)] | rw [if_pos (show _ ∧ _ from by simp only [List.length_append, List.length_cons, List.length_nil]; exact ⟨by omega, by omega⟩)]); refine sM ?_) | (simp only [thenV, blockV, if_true, if_false, Nat.reduceEqDiff, reduceCtorEq, imp_self]) | (clear hN N))
    all_goals (first | exact retA hQ Try.results35 (Desc.re [some 0, none, none, some 1, some 2] rfl) | exact retN hQ Try.results35 (Desc.re [some 0, none, none, some 1, some 2] rfl))
  · by_cases h0 : 0 ≤ d.at_ k
    · have e : d.put k = ((vput (d.at_ k + 1).toNat, 0), d) := by unfold Di.put; rw [if_neg h64, if_pos h0]
      rw [e]
      refine Sp.of_bodyD Try.func35 rfl ?_
      intro Q hQ
      simp only [List.replicate, List.length_cons, List.length_nil, Try.ntmps35, Nat.reduceAdd, Nat.reduceSub, List.cons_append, List.nil_append, Di.inn] at hQ ⊢
      have hlen : ((64 : Int) < (k.size : Int)) = False := by simp; omega
      have hat : (0 ≤ d.at_ k) = True := by simp; exact h0
      have hw1 : True := trivial
      have hw2 : IntKind.u64.wrap (d.at_ k) = d.at_ k := wr_u64 (by omega) (by omega)
      have hw3 : IntKind.u64.wrap (d.at_ k + 1) = d.at_ k + 1 := wr_u64 (by omega) (by omega)
      have hb1 : True := trivial
      have hb2 : True := trivial
      have hz : True := trivial
      have hy := yieldedV_eq
      have hL := And.intro @hlen (And.intro @hat (And.intro @hw1 (And.intro @hw2 (And.intro @hw3 (And.intro @hb1 (@hb2))))))
      repeat' (first | (refine WPV.seqK ?_; intro N hN) | refine WPV.block ?_ | refine WPV.scope ?_ | refine WPV.skip ?_ | refine WPV.label ?_ | refine WPV.exit ?_ | refine WPV.ret ?_ | (refine WPV.regionG (M := noM) ?_; intro N hN ops hy; (try simp only [List.append] at hy ⊢); (try simp only [List.map_cons, List.map_nil] at hy)) | (refine WPV.drawK (M := noM) (by kernel_rfl) (by kernel_rfl) ?_; intro N hN; have hy := yieldedV_eq) | (refine WPV.condK ?_; intro A hA B hB) | (refine here ?_; refine sM ?_) | (refine And.intro (by kernel_rfl : okOrd _ _ = true) ?_) | refine Both.mk ?_ ?_ | ((with_reducible refine CallO.gd 43 ?_); refine CallO.frA [0, 1, 2] Try.call43 (dat_s d k) ?_) | ((with_reducible refine CallO.gd 81 ?_); refine CallO.frA [0, 1, 2] Try.call81 (dcomes_s d k hs h8 he) ?_) | ((with_reducible refine CallO.gd 80 ?_); first | refine CallO.toA Try.call80 (vput_s (m := d.at_ k + 1) (by omega) (by omega) _) ?_ | refine CallO.toA Try.call80 (vput_s (m := (k.size : Int)) (by omega) (by omega) _) ?_ | refine CallO.toA Try.call80 (vput_s (m := 0) (by omega) (by omega) _) ?_) | ((with_reducible refine CallO.gd 82 ?_); refine CallO.frA [] Try.call82 (vall2O_s (a := 0) (b := (k.size : Int)) ⟨by omega, by omega⟩ ⟨by omega, by omega⟩) ?_) | ((with_reducible refine CallP.gd 80 ?_); first | refine CallP.toA Try.call80 (vput_s (m := d.at_ k + 1) (by omega) (by omega) _) ?_ | refine CallP.toA Try.call80 (vput_s (m := (k.size : Int)) (by omega) (by omega) _) ?_ | refine CallP.toA Try.call80 (vput_s (m := 0) (by omega) (by omega) _) ?_) | (refine hN _ ?_; try clear hN N; try clear hy ops) | (refine hA ?_; clear hA A hB B; try simp only [hz]) | (refine hB ?_; clear hA A hB B; try simp only [hz]) | ((first | refine guardO.mk ?_ ?_ | refine guardD.mk ?_ ?_ | refine Br.mk ?_ ?_) <;> (intro hz; have h := nm hz; try (exfalso; omega)) <;> (have hz := nz hz)) | ((first | rw [if_pos (show _ ∧ _ from ⟨by omega, by omega⟩)] | rw [if_pos (show _ ∧ _ from by simp only [List.length_append, List.length_cons, List.length_nil]; exact ⟨by omega, by omega⟩)]); refine sM ?_) | (simp only [thenV, blockV, if_true, if_false, Nat.reduceEqDiff, reduceCtorEq, imp_self]) | (clear hN N))
      all_goals (first | exact retA hQ Try.results35 (Desc.re [some 0, none, none, some 1, some 2] rfl) | exact retN hQ Try.results35 (Desc.re [some 0, none, none, some 1, some 2] rfl))
    · have e : d.put k = ((vput 0 ++ vput k.size ++ k.toList, 0), d.comes k) := by unfold Di.put; rw [if_neg h64, if_neg h0]
      rw [e]
      refine Sp.of_bodyD Try.func35 rfl ?_
      intro Q hQ
      simp only [List.replicate, List.length_cons, List.length_nil, Try.ntmps35, Nat.reduceAdd, Nat.reduceSub, List.cons_append, List.nil_append, Di.inn] at hQ ⊢
      have hlen : ((64 : Int) < (k.size : Int)) = False := by simp; omega
      have hat : (0 ≤ d.at_ k) = False := by simp; omega
      have hw1 : IntKind.u64.wrap (k.size : Int) = (k.size : Int) := wr_u64 (by omega) (by omega)
      have hw2 : True := trivial
      have hw3 : True := trivial
      have hl1 := vput_len (n := k.size) (by omega)
      have hl2 := vput_len (n := 0) (by omega)
      have hl3 := size_toList k
      have hb1 : True := trivial
      have hb2 : True := trivial
      have hz : True := trivial
      have hy := yieldedV_eq
      have hL := And.intro @hlen (And.intro @hat (And.intro @hw1 (And.intro @hw2 (And.intro @hw3 (And.intro @hb1 (@hb2))))))
      repeat' (first | (refine WPV.seqK ?_; intro N hN) | refine WPV.block ?_ | refine WPV.scope ?_ | refine WPV.skip ?_ | refine WPV.label ?_ | refine WPV.exit ?_ | refine WPV.ret ?_ | (refine WPV.regionG (M := noM) ?_; intro N hN ops hy; (try simp only [List.append] at hy ⊢); (try simp only [List.map_cons, List.map_nil] at hy)) | (refine WPV.drawK (M := noM) (by kernel_rfl) (by kernel_rfl) ?_; intro N hN; have hy := yieldedV_eq) | (refine WPV.condK ?_; intro A hA B hB) | (refine here ?_; refine sM ?_) | (refine And.intro (by kernel_rfl : okOrd _ _ = true) ?_) | refine Both.mk ?_ ?_ | ((with_reducible refine CallO.gd 43 ?_); refine CallO.frA [0, 1, 2] Try.call43 (dat_s d k) ?_) | ((with_reducible refine CallO.gd 81 ?_); refine CallO.frA [0, 1, 2] Try.call81 (dcomes_s d k hs h8 he) ?_) | ((with_reducible refine CallO.gd 80 ?_); first | refine CallO.toA Try.call80 (vput_s (m := d.at_ k + 1) (by omega) (by omega) _) ?_ | refine CallO.toA Try.call80 (vput_s (m := (k.size : Int)) (by omega) (by omega) _) ?_ | refine CallO.toA Try.call80 (vput_s (m := 0) (by omega) (by omega) _) ?_) | ((with_reducible refine CallO.gd 82 ?_); refine CallO.frA [] Try.call82 (vall2O_s (a := 0) (b := (k.size : Int)) ⟨by omega, by omega⟩ ⟨by omega, by omega⟩) ?_) | ((with_reducible refine CallP.gd 80 ?_); first | refine CallP.toA Try.call80 (vput_s (m := d.at_ k + 1) (by omega) (by omega) _) ?_ | refine CallP.toA Try.call80 (vput_s (m := (k.size : Int)) (by omega) (by omega) _) ?_ | refine CallP.toA Try.call80 (vput_s (m := 0) (by omega) (by omega) _) ?_) | (refine hN _ ?_; try clear hN N; try clear hy ops) | (refine hA ?_; clear hA A hB B; try simp only [hz]) | (refine hB ?_; clear hA A hB B; try simp only [hz]) | ((first | refine guardO.mk ?_ ?_ | refine guardD.mk ?_ ?_ | refine Br.mk ?_ ?_) <;> (intro hz; have h := nm hz; try (exfalso; omega)) <;> (have hz := nz hz)) | ((first | rw [if_pos (show _ ∧ _ from ⟨by omega, by omega⟩)] | rw [if_pos (show _ ∧ _ from by simp only [List.length_append, List.length_cons, List.length_nil]; exact ⟨by omega, by omega⟩)]); refine sM ?_) | (simp only [thenV, blockV, if_true, if_false, Nat.reduceEqDiff, reduceCtorEq, imp_self]) | (clear hN N))
      all_goals (first | exact retA hQ Try.results35 (Desc.re [some 0, none, none, some 3, some 4] rfl) | exact retN hQ Try.results35 (Desc.re [some 0, none, none, some 3, some 4] rfl))
end

section
open Go Go.RowKit
set_option linter.unusedVariables false
set_option linter.unusedSimpArgs false
variable {K : Nat → Obj → Prop}

/-- What bytes tell: an error; a place; a text. -/
inductive Dk where
  | err (e : Int)
  | place (p u : Nat)
  | text (s : ByteArray) (u : Nat)
def dkText (b : List UInt8) (at_ n : Nat) : ByteArray := ⟨((b.drop at_).take n).toArray⟩
def dkOf (b : List UInt8) : Dk :=
  if (tk b).2.2 ≠ 0 then .err (tk b).2.2
  else if (tk b).1.toNat ≠ 0 then .place (tk b).1.toNat (tk b).2.1
  else if (tk (b.drop (tk b).2.1)).2.2 ≠ 0 then .err (tk (b.drop (tk b).2.1)).2.2
  else if 64 < (tk (b.drop (tk b).2.1)).1.toNat then .err 4
  else if b.length < (tk b).2.1 + (tk (b.drop (tk b).2.1)).2.1 + (tk (b.drop (tk b).2.1)).1.toNat then .err 2
  else .text (dkText b ((tk b).2.1 + (tk (b.drop (tk b).2.1)).2.1) (tk (b.drop (tk b).2.1)).1.toNat) ((tk b).2.1 + (tk (b.drop (tk b).2.1)).2.1 + (tk (b.drop (tk b).2.1)).1.toNat)
abbrev Tk := ByteArray × Int × Int
def Di.take (d : Di) (b : List UInt8) : Tk × Di := match dkOf b with
  | .err e => ((⟨#[]⟩, 0, e), d)
  | .place p u => if d.ks.length < p then ((⟨#[]⟩, 0, 9), d) else ((d.ks.getD (p - 1) ⟨#[]⟩, u, 0), d)
  | .text s u => if 0 ≤ d.at_ s then ((⟨#[]⟩, 0, 3), d) else ((s, u, 0), d.comes s)
abbrev dtV (r : Tk) : V := .tup [.sc (.string r.1), .sc (.int .i64 r.2.1), .sc (.int .i64 r.2.2)]

section
variable {d : Di} {b : List UInt8} {p q : UInt64} {u v : Nat} {e f : Int} {h' : List Ho}
set_option maxRecDepth 100000 in
set_option maxHeartbeats 4000000 in
theorem dtake_1 (hl : b.length ≤ 1000000) (ht : tk b = (p, u, e)) (he : (e != 0) = true) (ht2 hf hwl hgt hp0 hw1 hget hul hw2 hw3 hw4 hw5 hq hsh hlt hle hat hub : True) :
    Sp Try.prog K 38 [.ptr 0 0, .sl 1 (bs b)] d.inn fun x hh => x = dtV (⟨#[]⟩, 0, e) ∧ hh = d.out := by
  refine Sp.of_bodyD Try.func38 rfl ?_
  intro Q hQ
  simp only [List.replicate, List.length_cons, List.length_nil, Try.ntmps38, Nat.reduceAdd, Nat.reduceSub, List.cons_append, List.nil_append, go_sem]
  have hz : True := trivial
  have hy := yieldedV_eq
  have hL := And.intro @he (And.intro @hf (And.intro @hwl (And.intro @hgt (And.intro @hp0 (And.intro @hw1 (And.intro @hget (And.intro @hul (And.intro @hw2 (And.intro @hw3 (And.intro @hw4 (And.intro @hw5 (And.intro @hq (And.intro @hsh (And.intro @hlt (And.intro @hle (And.intro @hat (@hub)))))))))))))))))
  repeat' (first | (refine WPV.seqK ?_; intro N hN) | refine WPV.block ?_ | refine WPV.scope ?_ | refine WPV.skip ?_ | refine WPV.label ?_ | refine WPV.exit ?_ | refine WPV.ret ?_ | (refine WPV.regionG (M := noM) ?_; intro N hN ops hy; (try simp only [List.append] at hy ⊢); (try simp only [List.map_cons, List.map_nil] at hy)) | (refine WPV.drawK (M := noM) (by kernel_rfl) (by kernel_rfl) ?_; intro N hN; have hy := yieldedV_eq) | (refine WPV.condK ?_; intro A hA B hB) | (refine here ?_; refine sM ?_) | (refine And.intro (by kernel_rfl : okOrd _ _ = true) ?_) | refine Both.mk ?_ ?_ | ((with_reducible refine CallO.gd 85 ?_); first | refine CallO.toA Try.call85 (vtake_s ht (by omega) _) ?_ | refine CallO.toA Try.call85 (vtake_s ht2 (by omega) _) ?_) | ((with_reducible refine CallO.gd 43 ?_); refine CallO.frA [0, 1, 2] Try.call43 (dat_s d key) ?_) | ((with_reducible refine CallO.gd 81 ?_); refine CallO.frA [0, 1, 2] Try.call81 (dcomes_s d key hs h8 h9) ?_) | ((with_reducible refine CallP.gd 85 ?_); first | refine CallP.toA Try.call85 (vtake_s ht (by omega) _) ?_ | refine CallP.toA Try.call85 (vtake_s ht2 (by omega) _) ?_) | (refine hN _ ?_; try clear hN N; try clear hy ops) | (refine hA ?_; clear hA A hB B; try simp only [hz]) | (refine hB ?_; clear hA A hB B; try simp only [hz]) | ((first | refine guardO.mk ?_ ?_ | refine guardD.mk ?_ ?_ | refine Br.mk ?_ ?_) <;> (intro hz; have h := nm hz; try (exfalso; omega)) <;> (have hz := nz hz)) | ((first | rw [if_pos (show _ ∧ _ from ⟨by omega, by omega⟩)] | rw [if_pos (show _ ∧ _ from by simp only [List.length_append, List.length_cons, List.length_nil]; exact ⟨by omega, by omega⟩)]); refine sM ?_) | (simp only [thenV, blockV, if_true, if_false, Nat.reduceEqDiff, reduceCtorEq, imp_self]) | (clear hN N))
  all_goals (first | exact retA hQ Try.results38 (Desc.re [some 0, none, none, some 1, some 2] rfl) | exact retN hQ Try.results38 (Desc.re [some 0, none, none, some 1, some 2] rfl))
set_option maxRecDepth 100000 in
set_option maxHeartbeats 4000000 in
theorem dtake_2 (hl : b.length ≤ 1000000) (ht : tk b = (p, u, 0)) (hwl : IntKind.u64.wrap (d.ks.length : Int) = (d.ks.length : Int)) (hgt : ((d.ks.length : Int) < (p.toNat : Int)) = True) (ht2 he hf hp0 hw1 hget hul hw2 hw3 hw4 hw5 hq hsh hlt hle hat hub : True) :
    Sp Try.prog K 38 [.ptr 0 0, .sl 1 (bs b)] d.inn fun x hh => x = dtV (⟨#[]⟩, 0, 9) ∧ hh = d.out := by
  refine Sp.of_bodyD Try.func38 rfl ?_
  intro Q hQ
  simp only [List.replicate, List.length_cons, List.length_nil, Try.ntmps38, Nat.reduceAdd, Nat.reduceSub, List.cons_append, List.nil_append, go_sem]
  have hz : True := trivial
  have hy := yieldedV_eq
  have hL := And.intro @he (And.intro @hf (And.intro @hwl (And.intro @hgt (And.intro @hp0 (And.intro @hw1 (And.intro @hget (And.intro @hul (And.intro @hw2 (And.intro @hw3 (And.intro @hw4 (And.intro @hw5 (And.intro @hq (And.intro @hsh (And.intro @hlt (And.intro @hle (And.intro @hat (@hub)))))))))))))))))
  repeat' (first | (refine WPV.seqK ?_; intro N hN) | refine WPV.block ?_ | refine WPV.scope ?_ | refine WPV.skip ?_ | refine WPV.label ?_ | refine WPV.exit ?_ | refine WPV.ret ?_ | (refine WPV.regionG (M := noM) ?_; intro N hN ops hy; (try simp only [List.append] at hy ⊢); (try simp only [List.map_cons, List.map_nil] at hy)) | (refine WPV.drawK (M := noM) (by kernel_rfl) (by kernel_rfl) ?_; intro N hN; have hy := yieldedV_eq) | (refine WPV.condK ?_; intro A hA B hB) | (refine here ?_; refine sM ?_) | (refine And.intro (by kernel_rfl : okOrd _ _ = true) ?_) | refine Both.mk ?_ ?_ | ((with_reducible refine CallO.gd 85 ?_); first | refine CallO.toA Try.call85 (vtake_s ht (by omega) _) ?_ | refine CallO.toA Try.call85 (vtake_s ht2 (by omega) _) ?_) | ((with_reducible refine CallO.gd 43 ?_); refine CallO.frA [0, 1, 2] Try.call43 (dat_s d key) ?_) | ((with_reducible refine CallO.gd 81 ?_); refine CallO.frA [0, 1, 2] Try.call81 (dcomes_s d key hs h8 h9) ?_) | ((with_reducible refine CallP.gd 85 ?_); first | refine CallP.toA Try.call85 (vtake_s ht (by omega) _) ?_ | refine CallP.toA Try.call85 (vtake_s ht2 (by omega) _) ?_) | (refine hN _ ?_; try clear hN N; try clear hy ops) | (refine hA ?_; clear hA A hB B; try simp only [hz]) | (refine hB ?_; clear hA A hB B; try simp only [hz]) | ((first | refine guardO.mk ?_ ?_ | refine guardD.mk ?_ ?_ | refine Br.mk ?_ ?_) <;> (intro hz; have h := nm hz; try (exfalso; omega)) <;> (have hz := nz hz)) | ((first | rw [if_pos (show _ ∧ _ from ⟨by omega, by omega⟩)] | rw [if_pos (show _ ∧ _ from by simp only [List.length_append, List.length_cons, List.length_nil]; exact ⟨by omega, by omega⟩)]); refine sM ?_) | (simp only [thenV, blockV, if_true, if_false, Nat.reduceEqDiff, reduceCtorEq, imp_self]) | (clear hN N))
  all_goals (first | exact retA hQ Try.results38 (Desc.re [some 0, none, none, some 1, some 2] rfl) | exact retN hQ Try.results38 (Desc.re [some 0, none, none, some 1, some 2] rfl))
set_option maxRecDepth 100000 in
set_option maxHeartbeats 4000000 in
theorem dtake_3 {key : ByteArray} {i : Nat} (hl : b.length ≤ 1000000) (ht : tk b = (p, u, 0)) (hwl : IntKind.u64.wrap (d.ks.length : Int) = (d.ks.length : Int)) (hgt : ((d.ks.length : Int) < (p.toNat : Int)) = False) (hp0 : ((0 : Int) < (p.toNat : Int)) = True) (hw1 : IntKind.u64.wrap ((p.toNat : Int) - 1) = (i : Int)) (hlt : ((i : Int) < (d.ks.length : Int)) = True) (hget : d.ks[i]? = some key)
    (ht2 he hf hul hw2 hw3 hw4 hw5 hq hsh hle hat hub : True) :
    Sp Try.prog K 38 [.ptr 0 0, .sl 1 (bs b)] d.inn fun x hh => x = dtV (key, u, 0) ∧ hh = d.out := by
  refine Sp.of_bodyD Try.func38 rfl ?_
  intro Q hQ
  simp only [List.replicate, List.length_cons, List.length_nil, Try.ntmps38, Nat.reduceAdd, Nat.reduceSub, List.cons_append, List.nil_append, go_sem]
  have hz : True := trivial
  have hy := yieldedV_eq
  have hL := And.intro @he (And.intro @hf (And.intro @hwl (And.intro @hgt (And.intro @hp0 (And.intro @hw1 (And.intro @hget (And.intro @hul (And.intro @hw2 (And.intro @hw3 (And.intro @hw4 (And.intro @hw5 (And.intro @hq (And.intro @hsh (And.intro @hlt (And.intro @hle (And.intro @hat (@hub)))))))))))))))))
  repeat' (first | (refine WPV.seqK ?_; intro N hN) | refine WPV.block ?_ | refine WPV.scope ?_ | refine WPV.skip ?_ | refine WPV.label ?_ | refine WPV.exit ?_ | refine WPV.ret ?_ | (refine WPV.regionG (M := noM) ?_; intro N hN ops hy; (try simp only [List.append] at hy ⊢); (try simp only [List.map_cons, List.map_nil] at hy)) | (refine WPV.drawK (M := noM) (by kernel_rfl) (by kernel_rfl) ?_; intro N hN; have hy := yieldedV_eq) | (refine WPV.condK ?_; intro A hA B hB) | (refine here ?_; refine sM ?_) | (refine And.intro (by kernel_rfl : okOrd _ _ = true) ?_) | refine Both.mk ?_ ?_ | ((with_reducible refine CallO.gd 85 ?_); first | refine CallO.toA Try.call85 (vtake_s ht (by omega) _) ?_ | refine CallO.toA Try.call85 (vtake_s ht2 (by omega) _) ?_) | ((with_reducible refine CallO.gd 43 ?_); refine CallO.frA [0, 1, 2] Try.call43 (dat_s d key) ?_) | ((with_reducible refine CallO.gd 81 ?_); refine CallO.frA [0, 1, 2] Try.call81 (dcomes_s d key hs h8 h9) ?_) | ((with_reducible refine CallP.gd 85 ?_); first | refine CallP.toA Try.call85 (vtake_s ht (by omega) _) ?_ | refine CallP.toA Try.call85 (vtake_s ht2 (by omega) _) ?_) | (refine hN _ ?_; try clear hN N; try clear hy ops) | (refine hA ?_; clear hA A hB B; try simp only [hz]) | (refine hB ?_; clear hA A hB B; try simp only [hz]) | ((first | refine guardO.mk ?_ ?_ | refine guardD.mk ?_ ?_ | refine Br.mk ?_ ?_) <;> (intro hz; have h := nm hz; try (exfalso; omega)) <;> (have hz := nz hz)) | ((first | rw [if_pos (show _ ∧ _ from ⟨by omega, by omega⟩)] | rw [if_pos (show _ ∧ _ from by simp only [List.length_append, List.length_cons, List.length_nil]; exact ⟨by omega, by omega⟩)]); refine sM ?_) | (simp only [thenV, blockV, if_true, if_false, Nat.reduceEqDiff, reduceCtorEq, imp_self]) | (clear hN N))
  all_goals (first | exact retA hQ Try.results38 (Desc.re [some 0, none, none, some 1, some 2] rfl) | exact retN hQ Try.results38 (Desc.re [some 0, none, none, some 1, some 2] rfl))
set_option maxRecDepth 100000 in
set_option maxHeartbeats 4000000 in
theorem dtake_4 (hl : b.length ≤ 1000000) (ht : tk b = (p, u, 0)) (hp : p.toNat = 0) (hwl : IntKind.u64.wrap (d.ks.length : Int) = (d.ks.length : Int)) (hul : ((u : Int) ≤ (b.length : Int)) = True) (ht2 : tk (b.drop u) = (q, v, f)) (hf : (f != 0) = true) (hw2 : IntKind.i64.wrap ((u : Int) + (v : Int)) = ((u + v : Nat) : Int))
    (he hp0 hgt hw1 hget hw3 hw4 hw5 hq hsh hlt hle hat hub : True) :
    Sp Try.prog K 38 [.ptr 0 0, .sl 1 (bs b)] d.inn fun x hh => x = dtV (⟨#[]⟩, 0, f) ∧ hh = d.out := by
  have hle : (b.drop u).length ≤ 1000000000 := by rw [List.length_drop]; omega
  have hgt : ((d.ks.length : Int) < (p.toNat : Int)) = False := by simp; omega
  have hp0 : ((0 : Int) < (p.toNat : Int)) = False := by simp; omega
  refine Sp.of_bodyD Try.func38 rfl ?_
  intro Q hQ
  simp only [List.replicate, List.length_cons, List.length_nil, Try.ntmps38, Nat.reduceAdd, Nat.reduceSub, List.cons_append, List.nil_append, go_sem]
  have hz : True := trivial
  have hy := yieldedV_eq
  have hL := And.intro @he (And.intro @hf (And.intro @hwl (And.intro @hgt (And.intro @hp0 (And.intro @hw1 (And.intro @hget (And.intro @hul (And.intro @hw2 (And.intro @hw3 (And.intro @hw4 (And.intro @hw5 (And.intro @hq (And.intro @hsh (And.intro @hlt (And.intro @hle (And.intro @hat (@hub)))))))))))))))))
  repeat' (first | (refine WPV.seqK ?_; intro N hN) | refine WPV.block ?_ | refine WPV.scope ?_ | refine WPV.skip ?_ | refine WPV.label ?_ | refine WPV.exit ?_ | refine WPV.ret ?_ | (refine WPV.regionG (M := noM) ?_; intro N hN ops hy; (try simp only [List.append] at hy ⊢); (try simp only [List.map_cons, List.map_nil] at hy)) | (refine WPV.drawK (M := noM) (by kernel_rfl) (by kernel_rfl) ?_; intro N hN; have hy := yieldedV_eq) | (refine WPV.condK ?_; intro A hA B hB) | (refine here ?_; refine sM ?_) | (refine And.intro (by kernel_rfl : okOrd _ _ = true) ?_) | refine Both.mk ?_ ?_ | ((with_reducible refine CallO.gd 85 ?_); first | refine CallO.toA Try.call85 (vtake_s ht (by omega) _) ?_ | refine CallO.toA Try.call85 (vtake_s ht2 (by omega) _) ?_) | ((with_reducible refine CallO.gd 43 ?_); refine CallO.frA [0, 1, 2] Try.call43 (dat_s d key) ?_) | ((with_reducible refine CallO.gd 81 ?_); refine CallO.frA [0, 1, 2] Try.call81 (dcomes_s d key hs h8 h9) ?_) | ((with_reducible refine CallP.gd 85 ?_); first | refine CallP.toA Try.call85 (vtake_s ht (by omega) _) ?_ | refine CallP.toA Try.call85 (vtake_s ht2 (by omega) _) ?_) | (refine hN _ ?_; try clear hN N; try clear hy ops) | (refine hA ?_; clear hA A hB B; try simp only [hz]) | (refine hB ?_; clear hA A hB B; try simp only [hz]) | ((first | refine guardO.mk ?_ ?_ | refine guardD.mk ?_ ?_ | refine Br.mk ?_ ?_) <;> (intro hz; have h := nm hz; try (exfalso; omega)) <;> (have hz := nz hz)) | ((first | rw [if_pos (show _ ∧ _ from ⟨by omega, by omega⟩)] | rw [if_pos (show _ ∧ _ from by simp only [List.length_append, List.length_cons, List.length_nil]; exact ⟨by omega, by omega⟩)]); refine sM ?_) | (simp only [thenV, blockV, if_true, if_false, Nat.reduceEqDiff, reduceCtorEq, imp_self]) | (clear hN N))
  all_goals (first | exact retA hQ Try.results38 (Desc.re [some 0, none, none, some 1, some 2] rfl) | exact retN hQ Try.results38 (Desc.re [some 0, none, none, some 1, some 2] rfl))
set_option maxRecDepth 100000 in
set_option maxHeartbeats 4000000 in
theorem dtake_5 (hl : b.length ≤ 1000000) (ht : tk b = (p, u, 0)) (hp : p.toNat = 0) (hwl : IntKind.u64.wrap (d.ks.length : Int) = (d.ks.length : Int)) (hul : ((u : Int) ≤ (b.length : Int)) = True) (ht2 : tk (b.drop u) = (q, v, 0)) (hw2 : IntKind.i64.wrap ((u : Int) + (v : Int)) = ((u + v : Nat) : Int)) (hq : ((64 : Int) < (q.toNat : Int)) = True)
    (he hf hw1 hget hw3 hw4 hw5 hsh hlt hat hub : True) :
    Sp Try.prog K 38 [.ptr 0 0, .sl 1 (bs b)] d.inn fun x hh => x = dtV (⟨#[]⟩, 0, 4) ∧ hh = d.out := by
  have hle : (b.drop u).length ≤ 1000000000 := by rw [List.length_drop]; omega
  have hgt : ((d.ks.length : Int) < (p.toNat : Int)) = False := by simp; omega
  have hp0 : ((0 : Int) < (p.toNat : Int)) = False := by simp; omega
  refine Sp.of_bodyD Try.func38 rfl ?_
  intro Q hQ
  simp only [List.replicate, List.length_cons, List.length_nil, Try.ntmps38, Nat.reduceAdd, Nat.reduceSub, List.cons_append, List.nil_append, go_sem]
  have hz : True := trivial
  have hy := yieldedV_eq
  have hL := And.intro @he (And.intro @hf (And.intro @hwl (And.intro @hgt (And.intro @hp0 (And.intro @hw1 (And.intro @hget (And.intro @hul (And.intro @hw2 (And.intro @hw3 (And.intro @hw4 (And.intro @hw5 (And.intro @hq (And.intro @hsh (And.intro @hlt (And.intro @hle (And.intro @hat (@hub)))))))))))))))))
  repeat' (first | (refine WPV.seqK ?_; intro N hN) | refine WPV.block ?_ | refine WPV.scope ?_ | refine WPV.skip ?_ | refine WPV.label ?_ | refine WPV.exit ?_ | refine WPV.ret ?_ | (refine WPV.regionG (M := noM) ?_; intro N hN ops hy; (try simp only [List.append] at hy ⊢); (try simp only [List.map_cons, List.map_nil] at hy)) | (refine WPV.drawK (M := noM) (by kernel_rfl) (by kernel_rfl) ?_; intro N hN; have hy := yieldedV_eq) | (refine WPV.condK ?_; intro A hA B hB) | (refine here ?_; refine sM ?_) | (refine And.intro (by kernel_rfl : okOrd _ _ = true) ?_) | refine Both.mk ?_ ?_ | ((with_reducible refine CallO.gd 85 ?_); first | refine CallO.toA Try.call85 (vtake_s ht (by omega) _) ?_ | refine CallO.toA Try.call85 (vtake_s ht2 (by omega) _) ?_) | ((with_reducible refine CallO.gd 43 ?_); refine CallO.frA [0, 1, 2] Try.call43 (dat_s d key) ?_) | ((with_reducible refine CallO.gd 81 ?_); refine CallO.frA [0, 1, 2] Try.call81 (dcomes_s d key hs h8 h9) ?_) | ((with_reducible refine CallP.gd 85 ?_); first | refine CallP.toA Try.call85 (vtake_s ht (by omega) _) ?_ | refine CallP.toA Try.call85 (vtake_s ht2 (by omega) _) ?_) | (refine hN _ ?_; try clear hN N; try clear hy ops) | (refine hA ?_; clear hA A hB B; try simp only [hz]) | (refine hB ?_; clear hA A hB B; try simp only [hz]) | ((first | refine guardO.mk ?_ ?_ | refine guardD.mk ?_ ?_ | refine Br.mk ?_ ?_) <;> (intro hz; have h := nm hz; try (exfalso; omega)) <;> (have hz := nz hz)) | ((first | rw [if_pos (show _ ∧ _ from ⟨by omega, by omega⟩)] | rw [if_pos (show _ ∧ _ from by simp only [List.length_append, List.length_cons, List.length_nil]; exact ⟨by omega, by omega⟩)]); refine sM ?_) | (simp only [thenV, blockV, if_true, if_false, Nat.reduceEqDiff, reduceCtorEq, imp_self]) | (clear hN N))
  all_goals (first | exact retA hQ Try.results38 (Desc.re [some 0, none, none, some 1, some 2] rfl) | exact retN hQ Try.results38 (Desc.re [some 0, none, none, some 1, some 2] rfl))
set_option maxRecDepth 100000 in
set_option maxHeartbeats 4000000 in
theorem dtake_6 (hl : b.length ≤ 1000000) (ht : tk b = (p, u, 0)) (hp : p.toNat = 0) (hwl : IntKind.u64.wrap (d.ks.length : Int) = (d.ks.length : Int)) (hul : ((u : Int) ≤ (b.length : Int)) = True) (ht2 : tk (b.drop u) = (q, v, 0)) (hw2 : IntKind.i64.wrap ((u : Int) + (v : Int)) = ((u + v : Nat) : Int)) (hq : ((64 : Int) < (q.toNat : Int)) = False)
    (hw3 : IntKind.i64.wrap ((b.length : Int) - ((u + v : Nat) : Int)) = (b.length : Int) - ((u + v : Nat) : Int)) (hw4 : IntKind.i64.wrap (q.toNat : Int) = (q.toNat : Int)) (hsh : ((b.length : Int) - ((u + v : Nat) : Int) < (q.toNat : Int)) = True)
    (he hf hw1 hget hw5 hlt hat hub : True) :
    Sp Try.prog K 38 [.ptr 0 0, .sl 1 (bs b)] d.inn fun x hh => x = dtV (⟨#[]⟩, 0, 2) ∧ hh = d.out := by
  have hle : (b.drop u).length ≤ 1000000000 := by rw [List.length_drop]; omega
  have hgt : ((d.ks.length : Int) < (p.toNat : Int)) = False := by simp; omega
  have hp0 : ((0 : Int) < (p.toNat : Int)) = False := by simp; omega
  refine Sp.of_bodyD Try.func38 rfl ?_
  intro Q hQ
  simp only [List.replicate, List.length_cons, List.length_nil, Try.ntmps38, Nat.reduceAdd, Nat.reduceSub, List.cons_append, List.nil_append, go_sem]
  have hz : True := trivial
  have hy := yieldedV_eq
  have hL := And.intro @he (And.intro @hf (And.intro @hwl (And.intro @hgt (And.intro @hp0 (And.intro @hw1 (And.intro @hget (And.intro @hul (And.intro @hw2 (And.intro @hw3 (And.intro @hw4 (And.intro @hw5 (And.intro @hq (And.intro @hsh (And.intro @hlt (And.intro @hle (And.intro @hat (@hub)))))))))))))))))
  repeat' (first | (refine WPV.seqK ?_; intro N hN) | refine WPV.block ?_ | refine WPV.scope ?_ | refine WPV.skip ?_ | refine WPV.label ?_ | refine WPV.exit ?_ | refine WPV.ret ?_ | (refine WPV.regionG (M := noM) ?_; intro N hN ops hy; (try simp only [List.append] at hy ⊢); (try simp only [List.map_cons, List.map_nil] at hy)) | (refine WPV.drawK (M := noM) (by kernel_rfl) (by kernel_rfl) ?_; intro N hN; have hy := yieldedV_eq) | (refine WPV.condK ?_; intro A hA B hB) | (refine here ?_; refine sM ?_) | (refine And.intro (by kernel_rfl : okOrd _ _ = true) ?_) | refine Both.mk ?_ ?_ | ((with_reducible refine CallO.gd 85 ?_); first | refine CallO.toA Try.call85 (vtake_s ht (by omega) _) ?_ | refine CallO.toA Try.call85 (vtake_s ht2 (by omega) _) ?_) | ((with_reducible refine CallO.gd 43 ?_); refine CallO.frA [0, 1, 2] Try.call43 (dat_s d key) ?_) | ((with_reducible refine CallO.gd 81 ?_); refine CallO.frA [0, 1, 2] Try.call81 (dcomes_s d key hs h8 h9) ?_) | ((with_reducible refine CallP.gd 85 ?_); first | refine CallP.toA Try.call85 (vtake_s ht (by omega) _) ?_ | refine CallP.toA Try.call85 (vtake_s ht2 (by omega) _) ?_) | (refine hN _ ?_; try clear hN N; try clear hy ops) | (refine hA ?_; clear hA A hB B; try simp only [hz]) | (refine hB ?_; clear hA A hB B; try simp only [hz]) | ((first | refine guardO.mk ?_ ?_ | refine guardD.mk ?_ ?_ | refine Br.mk ?_ ?_) <;> (intro hz; have h := nm hz; try (exfalso; omega)) <;> (have hz := nz hz)) | ((first | rw [if_pos (show _ ∧ _ from ⟨by omega, by omega⟩)] | rw [if_pos (show _ ∧ _ from by simp only [List.length_append, List.length_cons, List.length_nil]; exact ⟨by omega, by omega⟩)]); refine sM ?_) | (simp only [thenV, blockV, if_true, if_false, Nat.reduceEqDiff, reduceCtorEq, imp_self]) | (clear hN N))
  all_goals (first | exact retA hQ Try.results38 (Desc.re [some 0, none, none, some 1, some 2] rfl) | exact retN hQ Try.results38 (Desc.re [some 0, none, none, some 1, some 2] rfl))
set_option maxRecDepth 100000 in
set_option maxHeartbeats 4000000 in
theorem dtake_7 {key : ByteArray} (hl : b.length ≤ 1000000) (ht : tk b = (p, u, 0)) (hp : p.toNat = 0) (hwl : IntKind.u64.wrap (d.ks.length : Int) = (d.ks.length : Int)) (hul : ((u : Int) ≤ (b.length : Int)) = True) (ht2 : tk (b.drop u) = (q, v, 0)) (hw2 : IntKind.i64.wrap ((u : Int) + (v : Int)) = ((u + v : Nat) : Int)) (hq : ((64 : Int) < (q.toNat : Int)) = False)
    (hw3 : IntKind.i64.wrap ((b.length : Int) - ((u + v : Nat) : Int)) = (b.length : Int) - ((u + v : Nat) : Int)) (hw4 : IntKind.i64.wrap (q.toNat : Int) = (q.toNat : Int)) (hsh : ((b.length : Int) - ((u + v : Nat) : Int) < (q.toNat : Int)) = False)
    (hw5 : IntKind.i64.wrap (((u + v : Nat) : Int) + (q.toNat : Int)) = ((u + v + q.toNat : Nat) : Int)) (hub : (((u + v : Nat) : Int) ≤ ((u + v + q.toNat : Nat) : Int)) = True) (hlt : (((u + v + q.toNat : Nat) : Int) ≤ (b.length : Int)) = True) (hw1 : (⟨((b.take (u + v + q.toNat)).drop (u + v)).toArray⟩ : ByteArray) = key)
    (hat : (0 ≤ d.at_ key) = True) (he hf : True) :
    Sp Try.prog K 38 [.ptr 0 0, .sl 1 (bs b)] d.inn fun x hh => x = dtV (⟨#[]⟩, 0, 3) ∧ hh = d.out := by
  have hle : (b.drop u).length ≤ 1000000000 := by rw [List.length_drop]; omega
  have hgt : ((d.ks.length : Int) < (p.toNat : Int)) = False := by simp; omega
  have hp0 : ((0 : Int) < (p.toNat : Int)) = False := by simp; omega
  have hget := bs_unbs
  refine Sp.of_bodyD Try.func38 rfl ?_
  intro Q hQ
  simp only [List.replicate, List.length_cons, List.length_nil, Try.ntmps38, Nat.reduceAdd, Nat.reduceSub, List.cons_append, List.nil_append, go_sem]
  have hz : True := trivial
  have hy := yieldedV_eq
  have hL := And.intro @he (And.intro @hf (And.intro @hwl (And.intro @hgt (And.intro @hp0 (And.intro @hw1 (And.intro @hget (And.intro @hul (And.intro @hw2 (And.intro @hw3 (And.intro @hw4 (And.intro @hw5 (And.intro @hq (And.intro @hsh (And.intro @hlt (And.intro @hle (And.intro @hat (@hub)))))))))))))))))
  repeat' (first | (refine WPV.seqK ?_; intro N hN) | refine WPV.block ?_ | refine WPV.scope ?_ | refine WPV.skip ?_ | refine WPV.label ?_ | refine WPV.exit ?_ | refine WPV.ret ?_ | (refine WPV.regionG (M := noM) ?_; intro N hN ops hy; (try simp only [List.append] at hy ⊢); (try simp only [List.map_cons, List.map_nil] at hy)) | (refine WPV.drawK (M := noM) (by kernel_rfl) (by kernel_rfl) ?_; intro N hN; have hy := yieldedV_eq) | (refine WPV.condK ?_; intro A hA B hB) | (refine here ?_; refine sM ?_) | (refine And.intro (by kernel_rfl : okOrd _ _ = true) ?_) | refine Both.mk ?_ ?_ | ((with_reducible refine CallO.gd 85 ?_); first | refine CallO.toA Try.call85 (vtake_s ht (by omega) _) ?_ | refine CallO.toA Try.call85 (vtake_s ht2 (by omega) _) ?_) | ((with_reducible refine CallO.gd 43 ?_); refine CallO.frA [0, 1, 2] Try.call43 (dat_s d key) ?_) | ((with_reducible refine CallO.gd 81 ?_); refine CallO.frA [0, 1, 2] Try.call81 (dcomes_s d key hs h8 h9) ?_) | ((with_reducible refine CallP.gd 85 ?_); first | refine CallP.toA Try.call85 (vtake_s ht (by omega) _) ?_ | refine CallP.toA Try.call85 (vtake_s ht2 (by omega) _) ?_) | (refine hN _ ?_; try clear hN N; try clear hy ops) | (refine hA ?_; clear hA A hB B; try simp only [hz]) | (refine hB ?_; clear hA A hB B; try simp only [hz]) | ((first | refine guardO.mk ?_ ?_ | refine guardD.mk ?_ ?_ | refine Br.mk ?_ ?_) <;> (intro hz; have h := nm hz; try (exfalso; omega)) <;> (have hz := nz hz)) | ((first | rw [if_pos (show _ ∧ _ from ⟨by omega, by omega⟩)] | rw [if_pos (show _ ∧ _ from by simp only [List.length_append, List.length_cons, List.length_nil]; exact ⟨by omega, by omega⟩)]); refine sM ?_) | (simp only [thenV, blockV, if_true, if_false, Nat.reduceEqDiff, reduceCtorEq, imp_self]) | (clear hN N))
  all_goals (first | exact retA hQ Try.results38 (Desc.re [some 0, none, none, some 1, some 2] rfl) | exact retN hQ Try.results38 (Desc.re [some 0, none, none, some 1, some 2] rfl))
set_option maxRecDepth 100000 in
set_option maxHeartbeats 4000000 in
theorem dtake_8 {key : ByteArray} (hs : Sta d.c d.l) (h8 : d.ks.length ≤ 8) (h9 : d.e < 8) (hl : b.length ≤ 1000000) (ht : tk b = (p, u, 0)) (hp : p.toNat = 0) (hwl : IntKind.u64.wrap (d.ks.length : Int) = (d.ks.length : Int)) (hul : ((u : Int) ≤ (b.length : Int)) = True) (ht2 : tk (b.drop u) = (q, v, 0)) (hw2 : IntKind.i64.wrap ((u : Int) + (v : Int)) = ((u + v : Nat) : Int)) (hq : ((64 : Int) < (q.toNat : Int)) = False)
    (hw3 : IntKind.i64.wrap ((b.length : Int) - ((u + v : Nat) : Int)) = (b.length : Int) - ((u + v : Nat) : Int)) (hw4 : IntKind.i64.wrap (q.toNat : Int) = (q.toNat : Int)) (hsh : ((b.length : Int) - ((u + v : Nat) : Int) < (q.toNat : Int)) = False)
    (hw5 : IntKind.i64.wrap (((u + v : Nat) : Int) + (q.toNat : Int)) = ((u + v + q.toNat : Nat) : Int)) (hub : (((u + v : Nat) : Int) ≤ ((u + v + q.toNat : Nat) : Int)) = True) (hlt : (((u + v + q.toNat : Nat) : Int) ≤ (b.length : Int)) = True) (hw1 : (⟨((b.take (u + v + q.toNat)).drop (u + v)).toArray⟩ : ByteArray) = key)
    (hat : (0 ≤ d.at_ key) = False) (he hf : True) :
    Sp Try.prog K 38 [.ptr 0 0, .sl 1 (bs b)] d.inn fun x hh => x = dtV (key, (u + v + q.toNat : Nat), 0) ∧ hh = (d.comes key).out := by
  have hle : (b.drop u).length ≤ 1000000000 := by rw [List.length_drop]; omega
  have hgt : ((d.ks.length : Int) < (p.toNat : Int)) = False := by simp; omega
  have hp0 : ((0 : Int) < (p.toNat : Int)) = False := by simp; omega
  have hget := bs_unbs
  refine Sp.of_bodyD Try.func38 rfl ?_
  intro Q hQ
  simp only [List.replicate, List.length_cons, List.length_nil, Try.ntmps38, Nat.reduceAdd, Nat.reduceSub, List.cons_append, List.nil_append, go_sem]
  have hz : True := trivial
  have hy := yieldedV_eq
  have hL := And.intro @he (And.intro @hf (And.intro @hwl (And.intro @hgt (And.intro @hp0 (And.intro @hw1 (And.intro @hget (And.intro @hul (And.intro @hw2 (And.intro @hw3 (And.intro @hw4 (And.intro @hw5 (And.intro @hq (And.intro @hsh (And.intro @hlt (And.intro @hle (And.intro @hat (@hub)))))))))))))))))
  repeat' (first | (refine WPV.seqK ?_; intro N hN) | refine WPV.block ?_ | refine WPV.scope ?_ | refine WPV.skip ?_ | refine WPV.label ?_ | refine WPV.exit ?_ | refine WPV.ret ?_ | (refine WPV.regionG (M := noM) ?_; intro N hN ops hy; (try simp only [List.append] at hy ⊢); (try simp only [List.map_cons, List.map_nil] at hy)) | (refine WPV.drawK (M := noM) (by kernel_rfl) (by kernel_rfl) ?_; intro N hN; have hy := yieldedV_eq) | (refine WPV.condK ?_; intro A hA B hB) | (refine here ?_; refine sM ?_) | (refine And.intro (by kernel_rfl : okOrd _ _ = true) ?_) | refine Both.mk ?_ ?_ | ((with_reducible refine CallO.gd 85 ?_); first | refine CallO.toA Try.call85 (vtake_s ht (by omega) _) ?_ | refine CallO.toA Try.call85 (vtake_s ht2 (by omega) _) ?_) | ((with_reducible refine CallO.gd 43 ?_); refine CallO.frA [0, 1, 2] Try.call43 (dat_s d key) ?_) | ((with_reducible refine CallO.gd 81 ?_); refine CallO.frA [0, 1, 2] Try.call81 (dcomes_s d key hs h8 h9) ?_) | ((with_reducible refine CallP.gd 85 ?_); first | refine CallP.toA Try.call85 (vtake_s ht (by omega) _) ?_ | refine CallP.toA Try.call85 (vtake_s ht2 (by omega) _) ?_) | (refine hN _ ?_; try clear hN N; try clear hy ops) | (refine hA ?_; clear hA A hB B; try simp only [hz]) | (refine hB ?_; clear hA A hB B; try simp only [hz]) | ((first | refine guardO.mk ?_ ?_ | refine guardD.mk ?_ ?_ | refine Br.mk ?_ ?_) <;> (intro hz; have h := nm hz; try (exfalso; omega)) <;> (have hz := nz hz)) | ((first | rw [if_pos (show _ ∧ _ from ⟨by omega, by omega⟩)] | rw [if_pos (show _ ∧ _ from by simp only [List.length_append, List.length_cons, List.length_nil]; exact ⟨by omega, by omega⟩)]); refine sM ?_) | (simp only [thenV, blockV, if_true, if_false, Nat.reduceEqDiff, reduceCtorEq, imp_self]) | (clear hN N))
  all_goals (first | exact retA hQ Try.results38 (Desc.re [some 0, none, none, some 3, some 4] rfl) | exact retN hQ Try.results38 (Desc.re [some 0, none, none, some 3, some 4] rfl))
end

theorem tk_zero {l : List UInt8} (h : ¬ (tk l).2.2 = 0) : (tk l).2.1 = 0 := by
  cases hsc : scan l with
  | none => rw [tk_none hsc]; split <;> rfl
  | some s =>
    rw [tk_some hsc] at h ⊢
    split
    · rename_i hc; rw [if_pos hc] at h; exact absurd rfl h
    · rfl
theorem dkOf_lt {b : List UInt8} (h : (tk b).2.2 = 0) : (tk b).2.1 ≤ b.length := (tk_ok h).2.1
set_option maxRecDepth 100000 in
theorem dtake_s (d : Di) (b : List UInt8) (hl : b.length ≤ 1000000) (hs : Sta d.c d.l) (h8 : d.ks.length ≤ 8) (h9 : d.e < 8) : Sp Try.prog K 38 [.ptr 0 0, .sl 1 (bs b)] d.inn fun x hh => x = dtV (d.take b).1 ∧ hh = (d.take b).2.out := by
  obtain ⟨p, u, e, ht⟩ : ∃ p u e, tk b = (p, u, e) := ⟨_, _, _, rfl⟩
  unfold Di.take dkOf
  simp only [ht]
  by_cases he : e = 0
  · subst he
    have hu : u ≤ b.length := by have := dkOf_lt (b := b) (by rw [ht]); rwa [ht] at this
    have hwl : IntKind.u64.wrap (d.ks.length : Int) = (d.ks.length : Int) := wr_u64 (by omega) (by omega)
    simp only [ne_eq, not_true_eq_false, if_false]
    by_cases hp : p.toNat = 0
    · obtain ⟨q, v, f, ht2⟩ : ∃ q v f, tk (b.drop u) = (q, v, f) := ⟨_, _, _, rfl⟩
      simp only [hp, not_true_eq_false, if_false, ht2]
      have hv9 : v ≤ 1000000 := by
        have h1 : v = (tk (b.drop u)).2.1 := by rw [ht2]
        by_cases hf : (tk (b.drop u)).2.2 = 0
        · have := (tk_ok hf).2.1; rw [List.length_drop] at this; omega
        · have h2 := tk_zero hf
          rw [h1, h2]; omega
      have hw2 : IntKind.i64.wrap ((u : Int) + (v : Int)) = ((u + v : Nat) : Int) := by rw [wr_i64 (by omega) (by omega)]; omega
      have hul : ((u : Int) ≤ (b.length : Int)) = True := by simp; exact hu
      by_cases hf : f = 0
      · subst hf
        have hv : u + v ≤ b.length := by
          have := dkOf_lt (b := b.drop u) (by rw [ht2])
          rw [ht2, List.length_drop] at this
          have this : v ≤ b.length - u := this
          omega
        simp only [not_true_eq_false, if_false]
        by_cases hq : 64 < q.toNat
        · rw [if_pos hq]
          exact dtake_5 hl ht hp hwl hul ht2 hw2 (by simp; omega) trivial trivial trivial trivial trivial trivial trivial trivial trivial trivial trivial
        · rw [if_neg hq]
          have hw3 : IntKind.i64.wrap ((b.length : Int) - ((u + v : Nat) : Int)) = (b.length : Int) - ((u + v : Nat) : Int) := wr_i64 (by omega) (by omega)
          have hw4 : IntKind.i64.wrap (q.toNat : Int) = (q.toNat : Int) := wr_i64 (by omega) (by omega)
          by_cases hsh : b.length < u + v + q.toNat
          · rw [if_pos hsh]
            exact dtake_6 hl ht hp hwl hul ht2 hw2 (by simp; omega) hw3 hw4 (by simp; omega) trivial trivial trivial trivial trivial trivial trivial trivial
          · rw [if_neg hsh]
            have hw5 : IntKind.i64.wrap (((u + v : Nat) : Int) + (q.toNat : Int)) = ((u + v + q.toNat : Nat) : Int) := by rw [wr_i64 (by omega) (by omega)]; omega
            have hk : (⟨((b.take (u + v + q.toNat)).drop (u + v)).toArray⟩ : ByteArray) = dkText b (u + v) q.toNat := by
              unfold dkText
              rw [List.drop_take, show u + v + q.toNat - (u + v) = q.toNat by omega]
            simp only []
            by_cases hat : 0 ≤ d.at_ (dkText b (u + v) q.toNat)
            · rw [if_pos hat]
              exact dtake_7 hl ht hp hwl hul ht2 hw2 (by simp; omega) hw3 hw4 (by simp; omega) hw5 (by simp; omega) (by simp; omega) hk (by simp; exact hat) trivial trivial
            · rw [if_neg hat]
              exact dtake_8 hs h8 h9 hl ht hp hwl hul ht2 hw2 (by simp; omega) hw3 hw4 (by simp; omega) hw5 (by simp; omega) (by simp; omega) hk (by simp; omega) trivial trivial
      · rw [if_pos hf]
        exact dtake_4 hl ht hp hwl hul ht2 (by simp; exact hf) hw2 trivial trivial trivial trivial trivial trivial trivial trivial trivial trivial trivial trivial trivial trivial
    · rw [if_pos hp]
      simp only []
      by_cases hlt : d.ks.length < p.toNat
      · rw [if_pos hlt]
        exact dtake_2 hl ht hwl (by simp; omega) trivial trivial trivial trivial trivial trivial trivial trivial trivial trivial trivial trivial trivial trivial trivial trivial trivial
      · rw [if_neg hlt]
        exact dtake_3 (i := p.toNat - 1) hl ht hwl (by simp; omega) (by simp; omega) (by rw [wr_u64 (by omega) (by omega)]; omega) (by simp; omega) (by rw [List.getD_eq_getElem?_getD, List.getElem?_eq_getElem (by omega)]; rfl) trivial trivial trivial trivial trivial trivial trivial trivial trivial trivial trivial trivial trivial
  · rw [if_pos he]
    exact dtake_1 hl ht (by simp; exact he) trivial trivial trivial trivial trivial trivial trivial trivial trivial trivial trivial trivial trivial trivial trivial trivial trivial trivial
end
end Go.Proofs.Ytonllhjmoenckaa
