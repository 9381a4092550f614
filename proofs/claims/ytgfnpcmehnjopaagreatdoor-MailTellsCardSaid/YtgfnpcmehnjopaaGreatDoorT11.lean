/- Parts of the proofs, joined: DictF, DictX, RDictP, DictL, TxnF, DictT4, DictK. -/
import Derived.Test.YtgfnpcmehnjopaaGreatDoorT1
import Derived.Test.YtgfnpcmehnjopaaGreatDoorT9
import Derived.Test.YtgfnpcmehnjopaaGreatDoorT10
section
namespace Go.Proofs.YtgfnpcmehnjopaaGreatDoor
section
open Go Go.RowKit
set_option linter.unusedVariables false
set_option linter.unusedSimpArgs false
def kc (ks : List ByteArray) : List V := ks.map fun s => V.sc (.string s)
theorem kc_len (ks : List ByteArray) : (kc ks).length = ks.length := by simp [kc]
theorem kc_get (ks : List ByteArray) (i : Nat) : (kc ks)[i]? = (ks[i]?).map fun s => V.sc (.string s) := by simp [kc]
theorem kc_app (ks ls : List ByteArray) : kc ks ++ kc ls = kc (ks ++ ls) := by simp [kc]
theorem kc_take (ks : List ByteArray) (n : Nat) : (kc ks).take n = kc (ks.take n) := by simp [kc]
theorem kc_drop (ks : List ByteArray) (n : Nat) : (kc ks).drop n = kc (ks.drop n) := by simp [kc]
theorem kc_snoc (ks : List ByteArray) (s : ByteArray) : kc ks ++ [V.sc (.string s)] = kc (ks ++ [s]) := by simp [kc]
theorem kc_set (ks : List ByteArray) (k : ByteArray) (n : Nat) (h : n < ks.length) : ks.take n ++ [k] ++ ks.drop (n + 1) = ks.set n k := by
  rw [List.set_eq_take_append_cons_drop, if_pos h]; simp
theorem kc_mv (f : Nat → Option Nat) (ks : List ByteArray) : mvL f (kc ks) = kc ks := by
  rw [mvL_map]; simp [kc, mvV]
theorem kc_ren (g : Nat → Nat) (ks : List ByteArray) : renL g (kc ks) = kc ks := by
  rw [renL_map]; simp [kc, renV]
abbrev Pm := List (Nat × ByteArray × Int)
def pmE (l : Pm) : List ME := l.map fun e => ⟨e.1, .string e.2.1, V.sc (.int .i64 e.2.2)⟩
def pm (c : Nat) (l : Pm) : GM := ⟨c, pmE l⟩
def pget : Pm → ByteArray → Option Int
  | [], _ => none
  | e :: l, k => if (k == e.2.1) = true then some e.2.2 else pget l k
def pset (c : Nat) : Pm → ByteArray → Int → Pm
  | [], k, n => [(c, k, n)]
  | e :: l, k, n => if (k == e.2.1) = true then (e.1, k, n) :: l else e :: pset c l k n
def pdel : Pm → ByteArray → Pm
  | [], _ => []
  | e :: l, k => if (k == e.2.1) = true then l else e :: pdel l k
theorem pm_es (c : Nat) (l : Pm) : (pm c l).es = pmE l := rfl
theorem pm_ok (l : Pm) : keysOk .string (pmE l) = true := by simp [keysOk, pmE, keyOk]
theorem pmE_get (k : ByteArray) : ∀ l : Pm, mget (pmE l) (.string k) = (pget l k).map fun n => V.sc (.int .i64 n)
  | [] => rfl
  | e :: l => by
    show (if (k == e.2.1) = true then _ else mget (pmE l) (.string k)) = Option.map _ (if (k == e.2.1) = true then _ else _)
    rw [pmE_get k l]; split <;> rfl
theorem pm_get (c : Nat) (l : Pm) (k : ByteArray) : (pm c l).get (.string k) = (pget l k).map fun n => V.sc (.int .i64 n) := pmE_get k l
theorem pmE_set (c : Nat) (k : ByteArray) (n : Int) : ∀ l : Pm, mset c (pmE l) (.string k) (V.sc (.int .i64 n)) = pmE (pset c l k n)
  | [] => rfl
  | e :: l => by
    show (if (k == e.2.1) = true then _ else _ :: mset c (pmE l) (.string k) (V.sc (.int .i64 n))) = pmE (if (k == e.2.1) = true then _ else _)
    rw [pmE_set c k n l]; split <;> rfl
def pnext (c : Nat) (l : Pm) (k : ByteArray) : Nat := if (pget l k).isSome = true then c else c + 1
theorem pm_set (c : Nat) (l : Pm) (k : ByteArray) (n : Int) : (pm c l).set (.string k) (V.sc (.int .i64 n)) = pm (pnext c l k) (pset c l k n) := by
  unfold GM.set pm pnext
  simp only [pmE_get, pmE_set, Option.isSome_map]
theorem pmE_del (k : ByteArray) : ∀ l : Pm, mdel (pmE l) (.string k) = pmE (pdel l k)
  | [] => rfl
  | e :: l => by
    show (if (k == e.2.1) = true then _ else _ :: mdel (pmE l) (.string k)) = pmE (if (k == e.2.1) = true then _ else _)
    rw [pmE_del k l]; split <;> rfl
theorem pm_del (c : Nat) (l : Pm) (k : ByteArray) : (pm c l).del (.string k) = pm c (pdel l k) := by
  unfold GM.del pm
  simp only [pmE_del]
theorem pm_frz (o : Nat) (ds : List D) (c : Nat) (l : Pm) : (pm c l).mapV (frV o ds) = pm c l := by simp [GM.mapV, pm, pmE, frV, Function.comp_def]
def Sta (c : Nat) (l : Pm) : Prop := (l.map (·.1)).Pairwise (· < ·) ∧ ∀ e ∈ l, e.1 < c
theorem Sta.tl {c : Nat} {e : Nat × ByteArray × Int} {l : Pm} (h : Sta c (e :: l)) : Sta c l := ⟨(List.pairwise_cons.1 (by simpa using h.1)).2, fun x hx => h.2 x (by simp [hx])⟩
theorem ent_store (c : Nat) (k : ByteArray) (z : V) (n : Int) : ∀ l : Pm, Sta c l → mstore (ment c z (pmE l) (.string k)).2.2 (ment c z (pmE l) (.string k)).2.1 (V.sc (.int .i64 n)) = some (pmE (pset c l k n))
  | [], _ => by simp [pmE, ment, mstore, pset]
  | e :: l, h => by
    have ih := ent_store c k z n l h.tl
    have e1 : pmE (e :: l) = ⟨e.1, .string e.2.1, V.sc (.int .i64 e.2.2)⟩ :: pmE l := rfl
    rw [e1]
    cases hk : k == e.2.1 with
    | true => simp [ment, keyEq, pset, hk, mstore, pmE]
    | false =>
      simp only [ment, keyEq, pset, hk, Bool.false_eq_true, if_false]
      have hb : (ment c z (pmE l) (.string k)).2.1 ≠ e.1 := by
        have : ∀ l : Pm, (∀ x ∈ l, e.1 < x.1) → e.1 < c → e.1 < (ment c z (pmE l) (.string k)).2.1 := fun l => by
          induction l with
          | nil => intro _ h; exact h
          | cons x l ihl =>
            intro h1 h2
            show e.1 < (ment c z (⟨x.1, .string x.2.1, V.sc (.int .i64 x.2.2)⟩ :: pmE l) (.string k)).2.1
            cases hx : k == x.2.1 with
            | true => simp only [ment, keyEq, hx, if_true]; exact h1 x (by simp)
            | false => simp only [ment, keyEq, hx, Bool.false_eq_true, if_false]; exact ihl (fun y hy => h1 y (by simp [hy])) h2
        have := this l (fun x hx => by
          have h1 := (List.pairwise_cons.1 (show ((e.1 :: l.map (·.1)).Pairwise (· < ·)) by simpa using h.1)).1
          exact h1 x.1 (List.mem_map.2 ⟨x, hx, rfl⟩)) (h.2 e (by simp))
        omega
      generalize ment c z (pmE l) (.string k) = q at ih hb ⊢
      obtain ⟨v, b, es⟩ := q
      simp only [mstore] at ih hb ⊢
      rw [if_neg (fun h => hb h.symm), ih]
      rfl
theorem pm_ent {c : Nat} {l : Pm} (h : Sta c l) (k : ByteArray) (z : V) (n : Int) : ((pm c l).ent z (.string k)).2.2.store ((pm c l).ent z (.string k)).2.1 (V.sc (.int .i64 n)) = some (pm (pnext c l k) (pset c l k n)) := by
  unfold GM.store GM.ent pm pnext
  simp only [pmE_get, Option.isSome_map, ent_store c k z n l h, Option.map_some]
theorem pset_fst (c : Nat) (k : ByteArray) (n : Int) : ∀ l : Pm, (pset c l k n).map (·.1) = if (pget l k).isSome = true then l.map (·.1) else l.map (·.1) ++ [c]
  | [] => rfl
  | e :: l => by
    have ih := pset_fst c k n l
    cases hk : k == e.2.1 with
    | true => simp [pset, pget, hk]
    | false =>
      simp only [pset, pget, hk, Bool.false_eq_true, if_false, List.map_cons, ih]
      split <;> simp
theorem Sta.set {c : Nat} {l : Pm} (h : Sta c l) (k : ByteArray) (n : Int) : Sta (pnext c l k) (pset c l k n) := by
  have e := pset_fst c k n l
  unfold Sta pnext
  have h2 : ∀ x ∈ l.map (·.1), x < c := fun x hx => by obtain ⟨y, hy, rfl⟩ := List.mem_map.1 hx; exact h.2 y hy
  rw [e]
  split
  · rename_i hh
    rw [if_pos hh] at e
    exact ⟨h.1, fun y hy => h2 y.1 (by rw [← e]; exact List.mem_map.2 ⟨y, hy, rfl⟩)⟩
  · rename_i hh
    rw [if_neg hh] at e
    refine ⟨List.pairwise_append.2 ⟨h.1, by simp, fun a ha b hb => by simp at hb; subst hb; exact h2 a ha⟩, fun y hy => ?_⟩
    have : y.1 ∈ l.map (·.1) ++ [c] := by rw [← e]; exact List.mem_map.2 ⟨y, hy, rfl⟩
    rcases List.mem_append.1 this with h3 | h3
    · have := h2 _ h3; omega
    · simp at h3; omega
theorem pdel_sub (k : ByteArray) : ∀ l : Pm, (pdel l k).Sublist l
  | [] => List.Sublist.refl _
  | e :: l => by
    simp only [pdel]
    split
    · exact List.sublist_cons_self _ _
    · exact (pdel_sub k l).cons_cons _
theorem Sta.del {c : Nat} {l : Pm} (h : Sta c l) (k : ByteArray) : Sta c (pdel l k) :=
  ⟨h.1.sublist ((pdel_sub k l).map _), fun x hx => h.2 x ((pdel_sub k l).subset hx)⟩
structure Di where
  ks : List ByteArray
  c : Nat
  l : Pm
  e : Nat
def Di.inn (d : Di) : List Ho := [.cells [.hs true 1 1 0 d.ks.length, .mp 2, .sc (.int .i64 (d.e : Int))], .cells (kc d.ks), .map (pm d.c d.l)]
def Di.out (d : Di) : List Ho := [.cells [.hs true 1 3 0 d.ks.length, .mp 4, .sc (.int .i64 (d.e : Int))], .dead, .dead, .cells (kc d.ks), .map (pm d.c d.l)]
def Di.new : Di := ⟨[], 0, [], 0⟩
def Di.at_ (d : Di) (k : ByteArray) : Int := (pget d.l k).getD (-1)
def Di.comes (d : Di) (k : ByteArray) : Di :=
  if d.ks.length < 8 then ⟨d.ks ++ [k], pnext d.c d.l k, pset d.c d.l k d.ks.length, d.e⟩
  else ⟨d.ks.set d.e k, pnext d.c (pdel d.l (d.ks.getD d.e ⟨#[]⟩)) k, pset d.c (pdel d.l (d.ks.getD d.e ⟨#[]⟩)) k d.e, (d.e + 1) % 8⟩
theorem pm_mv (f : Nat → Option Nat) (c : Nat) (l : Pm) : (pm c l).mapV (mvV f) = pm c l := by simp [GM.mapV, pm, pmE, mvV, Function.comp_def]
theorem pm_ren (g : Nat → Nat) (c : Nat) (l : Pm) : (pm c l).mapV (renV g) = pm c l := by simp [GM.mapV, pm, pmE, renV, Function.comp_def]
attribute [go_sem] Di.inn Di.out pm_frz pm_mv pm_ren kc_len kc_get kc_app kc_snoc kc_take kc_drop kc_mv kc_ren pm_es pm_ok pm_get pm_set pm_del
end
section
open Go Go.RowKit
set_option linter.unusedVariables false
set_option linter.unusedSimpArgs false
variable {K : Nat → Obj → Prop}
set_option maxRecDepth 100000 in
set_option maxHeartbeats 4000000 in
theorem dat_s (d : Di) (key : ByteArray) : Sp Tryz.prog K 91 [.ptr 0 0, .sc (.string key)] d.inn fun u hh => u = .sc (.int .i64 (d.at_ key)) ∧ hh = d.inn := by
  refine Sp.of_body Tryz.func91 rfl ?_
  intro Q hQ
  simp only [List.replicate, List.length_cons, List.length_nil, Tryz.ntmps91, Nat.reduceAdd, Nat.reduceSub, List.cons_append, List.nil_append, Di.inn]
  unfold Di.at_ at hQ
  rcases hg : pget d.l key with _ | n
  · rw [hg] at hQ
    have hz : True := trivial
    have hy := yieldedV_eq
    have hL := @hg
    repeat' (first | (refine WPV.seqK ?_; intro N hN) | refine gA ?_ | (refine gR (M := noM) ?_; intro N hN ops hy) | (refine gD (M := noM) ?_; intro N hN; have hy := yieldedV_eq) | (refine WPV.condK ?_; intro A hA B hB) | (refine here ?_; refine sM ?_) | refine Both.mk ?_ ?_ | (refine hN _ ?_; try clear hN N; try clear hy ops) | (refine hA ?_; clear hA A hB B; try simp only [hz]) | (refine hB ?_; clear hA A hB B; try simp only [hz]) | (refine gG ?_ ?_ <;> (intro hz; have h := nm hz; try (exfalso; omega)) <;> (have hz := nz hz)) | ((first | rw [if_pos (show _ ∧ _ from ⟨by omega, by omega⟩)] | rw [if_pos (show _ ∧ _ from by simp only [List.length_append, List.length_cons, List.length_nil]; exact ⟨by omega, by omega⟩)]); refine sM ?_) | refine gT ?_ | (clear hN N))
    all_goals (apply And.right; apply hQ; (first | (simp only [go_sem, reduceCtorEq, Nat.reduceAdd, Nat.reduceSub, Nat.reduceMul, Nat.reduceLT, Nat.reduceLeDiff, Int.reduceLT, Int.reduceLE, Int.reduceEq, Int.reduceNe, Int.reduceAdd, Int.reduceSub, Int.reduceMul, Int.reduceToNat, Int.reduceNeg, Int.reducePow, Nat.reducePow, Nat.reduceEqDiff, Nat.reduceBEq, Int.reduceBEq, Int.reduceBNe, Int.reduceNegSucc, Tryz.results91]; done) | (simp only [go_sem, reduceCtorEq, Nat.reduceAdd, Nat.reduceSub, Nat.reduceMul, Nat.reduceLT, Nat.reduceLeDiff, Int.reduceLT, Int.reduceLE, Int.reduceEq, Int.reduceNe, Int.reduceAdd, Int.reduceSub, Int.reduceMul, Int.reduceToNat, Int.reduceNeg, Int.reducePow, Nat.reducePow, Nat.reduceEqDiff, Nat.reduceBEq, Int.reduceBEq, Int.reduceBNe, Int.reduceNegSucc, Tryz.results91]; rfl) | rfl))
    all_goals exact ⟨rfl, rfl⟩
  · rw [hg] at hQ
    have hz : True := trivial
    have hy := yieldedV_eq
    have hL := @hg
    repeat' (first | (refine WPV.seqK ?_; intro N hN) | refine gA ?_ | (refine gR (M := noM) ?_; intro N hN ops hy) | (refine gD (M := noM) ?_; intro N hN; have hy := yieldedV_eq) | (refine WPV.condK ?_; intro A hA B hB) | (refine here ?_; refine sM ?_) | refine Both.mk ?_ ?_ | (refine hN _ ?_; try clear hN N; try clear hy ops) | (refine hA ?_; clear hA A hB B; try simp only [hz]) | (refine hB ?_; clear hA A hB B; try simp only [hz]) | (refine gG ?_ ?_ <;> (intro hz; have h := nm hz; try (exfalso; omega)) <;> (have hz := nz hz)) | ((first | rw [if_pos (show _ ∧ _ from ⟨by omega, by omega⟩)] | rw [if_pos (show _ ∧ _ from by simp only [List.length_append, List.length_cons, List.length_nil]; exact ⟨by omega, by omega⟩)]); refine sM ?_) | refine gT ?_ | (clear hN N))
    all_goals (apply And.right; apply hQ; (first | (simp only [go_sem, reduceCtorEq, Nat.reduceAdd, Nat.reduceSub, Nat.reduceMul, Nat.reduceLT, Nat.reduceLeDiff, Int.reduceLT, Int.reduceLE, Int.reduceEq, Int.reduceNe, Int.reduceAdd, Int.reduceSub, Int.reduceMul, Int.reduceToNat, Int.reduceNeg, Int.reducePow, Nat.reducePow, Nat.reduceEqDiff, Nat.reduceBEq, Int.reduceBEq, Int.reduceBNe, Int.reduceNegSucc, Tryz.results91]; done) | (simp only [go_sem, reduceCtorEq, Nat.reduceAdd, Nat.reduceSub, Nat.reduceMul, Nat.reduceLT, Nat.reduceLeDiff, Int.reduceLT, Int.reduceLE, Int.reduceEq, Int.reduceNe, Int.reduceAdd, Int.reduceSub, Int.reduceMul, Int.reduceToNat, Int.reduceNeg, Int.reducePow, Nat.reducePow, Nat.reduceEqDiff, Nat.reduceBEq, Int.reduceBEq, Int.reduceBNe, Int.reduceNegSucc, Tryz.results91]; rfl) | rfl))
    all_goals exact ⟨rfl, rfl⟩
set_option maxRecDepth 100000 in
set_option maxHeartbeats 4000000 in
theorem dcomes_s (d : Di) (key : ByteArray) (hs : Sta d.c d.l) (h8 : d.ks.length ≤ 8) (he : d.e < 8) : Sp Tryz.prog K 92 [.ptr 0 0, .sc (.string key)] d.inn fun u hh => u = .undef ∧ hh = (d.comes key).out := by
  refine Sp.of_bodyD Tryz.func92 rfl ?_
  intro Q hQ
  simp only [List.replicate, List.length_cons, List.length_nil, Tryz.ntmps92, Nat.reduceAdd, Nat.reduceSub, List.cons_append, List.nil_append, Di.inn] at hQ ⊢
  by_cases h : d.ks.length < 8
  · unfold Di.comes at hQ
    rw [if_pos h] at hQ
    have hlt : True := trivial
    have hst : True := trivial
    have hw : True := trivial
    have hrem : True := trivial
    have hget : True := trivial
    have hent : True := trivial
    have hlen : ((d.ks.length : Int) < 8) = True := by simp; omega
    have hb1 : ((d.ks.length + 1) * 16 ≤ 70368744177664) = True := by simp; omega
    have hb2 : (d.ks.length ≤ 70368744177663) = True := by simp; omega
    have hz : True := trivial
    have hy := yieldedV_eq
    have hL := And.intro @hlen (And.intro @hlt (And.intro @hget (And.intro @hb1 (And.intro @hb2 (And.intro @hent (And.intro @hst (And.intro @hw (@hrem))))))))
    repeat' (first | (refine WPV.seqK ?_; intro N hN) | refine gA ?_ | (refine gR (M := inM [83]) ?_; intro N hN ops hy) | (refine gD (M := inM [83]) ?_; intro N hN; have hy := yieldedV_eq) | (refine WPV.condK ?_; intro A hA B hB) | (refine here ?_; refine sM ?_) | refine Both.mk ?_ ?_ | (refine hN _ ?_; try clear hN N; try clear hy ops) | (refine hA ?_; clear hA A hB B; try simp only [hz]) | (refine hB ?_; clear hA A hB B; try simp only [hz]) | (refine gG ?_ ?_ <;> (intro hz; have h := nm hz; try (exfalso; omega)) <;> (have hz := nz hz)) | ((first | rw [if_pos (show _ ∧ _ from ⟨by omega, by omega⟩)] | rw [if_pos (show _ ∧ _ from by simp only [List.length_append, List.length_cons, List.length_nil]; exact ⟨by omega, by omega⟩)]); refine sM ?_) | refine gT ?_ | (clear hN N))
    all_goals (apply And.right; refine hQ _ _ .undef (Desc.re [some 0, none, none, some 4, some 2] rfl) ?_ ?_)
    · simp only [go_sem, reduceCtorEq, Nat.reduceAdd, Nat.reduceSub, Nat.reduceMul, Nat.reduceLT, Nat.reduceLeDiff, Int.reduceLT, Int.reduceLE, Int.reduceEq, Int.reduceNe, Int.reduceAdd, Int.reduceSub, Int.reduceMul, Int.reduceToNat, Int.reduceNeg, Int.reducePow, Nat.reducePow, Nat.reduceEqDiff, Nat.reduceBEq, Int.reduceBEq, Int.reduceBNe, Int.reduceNegSucc, Tryz.results92]
    · simp only [go_sem, reduceCtorEq, Nat.reduceAdd, Nat.reduceSub, Nat.reduceMul, Nat.reduceLT, Nat.reduceLeDiff, Int.reduceLT, Int.reduceLE, Int.reduceEq, Int.reduceNe, Int.reduceAdd, Int.reduceSub, Int.reduceMul, Int.reduceToNat, Int.reduceNeg, Int.reducePow, Nat.reducePow, Nat.reduceEqDiff, Nat.reduceBEq, Int.reduceBEq, Int.reduceBNe, Int.reduceNegSucc, Di.out, List.length_append]
  · obtain ⟨n, hn⟩ : ∃ n, n = d.ks.length := ⟨_, rfl⟩
    have hd : (d.ks.length : Int) = 8 := by omega
    have hgk : d.ks[d.e]? = some (d.ks.getD d.e ⟨#[]⟩) := by rw [List.getD_eq_getElem?_getD, List.getElem?_eq_getElem (by omega)]; rfl
    unfold Di.comes at hQ
    rw [if_neg h] at hQ
    generalize d.ks.getD d.e ⟨#[]⟩ = old at hgk hQ
    have hlen : ((d.ks.length : Int) < 8) = False := by simp; omega
    have hlt : ((d.e : Int) < (d.ks.length : Int)) = True := by simp; omega
    have hget : d.ks[d.e]? = some old := hgk
    have hent := fun z n => pm_ent (hs.del old) key z n
    have hb1 : True := trivial
    have hb2 : True := trivial
    have hst : (d.e + 1 ≤ d.ks.length) = True := by simp; omega
    have hw : IntKind.i64.wrap ((d.e : Int) + 1) = (d.e : Int) + 1 := wr_i64 (by omega) (by omega)
    have hrem : ((d.e : Int) + 1).tmod 8 = (((d.e + 1) % 8 : Nat) : Int) := by rw [Int.tmod_eq_emod_of_nonneg (by omega)]; omega
    have hz : True := trivial
    have hy := yieldedV_eq
    have hL := And.intro @hlen (And.intro @hlt (And.intro @hget (And.intro @hb1 (And.intro @hb2 (And.intro @hent (And.intro @hst (And.intro @hw (@hrem))))))))
    repeat' (first | (refine WPV.seqK ?_; intro N hN) | refine gA ?_ | (refine gR (M := inM [83]) ?_; intro N hN ops hy) | (refine gD (M := inM [83]) ?_; intro N hN; have hy := yieldedV_eq) | (refine WPV.condK ?_; intro A hA B hB) | (refine here ?_; refine sM ?_) | refine Both.mk ?_ ?_ | (refine hN _ ?_; try clear hN N; try clear hy ops) | (refine hA ?_; clear hA A hB B; try simp only [hz]) | (refine hB ?_; clear hA A hB B; try simp only [hz]) | (refine gG ?_ ?_ <;> (intro hz; have h := nm hz; try (exfalso; omega)) <;> (have hz := nz hz)) | ((first | rw [if_pos (show _ ∧ _ from ⟨by omega, by omega⟩)] | rw [if_pos (show _ ∧ _ from by simp only [List.length_append, List.length_cons, List.length_nil]; exact ⟨by omega, by omega⟩)]); refine sM ?_) | refine gT ?_ | (clear hN N))
    all_goals (apply And.left; refine hQ _ _ .undef (Desc.re [some 0, none, none, some 1, some 2] rfl) ?_ ?_)
    · simp only [go_sem, reduceCtorEq, Nat.reduceAdd, Nat.reduceSub, Nat.reduceMul, Nat.reduceLT, Nat.reduceLeDiff, Int.reduceLT, Int.reduceLE, Int.reduceEq, Int.reduceNe, Int.reduceAdd, Int.reduceSub, Int.reduceMul, Int.reduceToNat, Int.reduceNeg, Int.reducePow, Nat.reducePow, Nat.reduceEqDiff, Nat.reduceBEq, Int.reduceBEq, Int.reduceBNe, Int.reduceNegSucc, Tryz.results92]
    · simp only [go_sem, reduceCtorEq, Nat.reduceAdd, Nat.reduceSub, Nat.reduceMul, Nat.reduceLT, Nat.reduceLeDiff, Int.reduceLT, Int.reduceLE, Int.reduceEq, Int.reduceNe, Int.reduceAdd, Int.reduceSub, Int.reduceMul, Int.reduceToNat, Int.reduceNeg, Int.reducePow, Nat.reducePow, Nat.reduceEqDiff, Nat.reduceBEq, Int.reduceBEq, Int.reduceBNe, Int.reduceNegSucc, Di.out, List.length_append, kc_set _ _ _ (show d.e < d.ks.length by omega), List.length_set]
end
end Go.Proofs.YtgfnpcmehnjopaaGreatDoor
end
section
namespace Go.Proofs.YtgfnpcmehnjopaaGreatDoor
section
open Go Go.RowKit
set_option linter.unusedVariables false
set_option linter.unusedSimpArgs false
variable {K : Nat → Obj → Prop}
def kd (ks : List ByteArray) : List D := ks.map fun s => D.sc (.string s)
def ds (ks : List ByteArray) : List (List D) := ks.map fun s => [D.sc (.string s)]
theorem ds_len (ks : List ByteArray) : (ds ks).length = ks.length := by simp [ds]
theorem ds_get (ks : List ByteArray) (i : Nat) : (ds ks)[i]? = (ks[i]?).map fun s => [D.sc (.string s)] := by simp [ds]
theorem ds_app (ks ls : List ByteArray) : ds ks ++ ds ls = ds (ks ++ ls) := by simp [ds]
theorem ds_snoc (ks : List ByteArray) (s : ByteArray) : ds ks ++ [[D.sc (.string s)]] = ds (ks ++ [s]) := by simp [ds]
theorem ds_take (ks : List ByteArray) (n : Nat) : (ds ks).take n = ds (ks.take n) := by simp [ds]
theorem ds_drop (ks : List ByteArray) (n : Nat) : (ds ks).drop n = ds (ks.drop n) := by simp [ds]
theorem kc_toDs : ∀ ks : List ByteArray, toDs (kc ks) = some (kd ks)
  | [] => rfl
  | s :: ks => by
    show toDs (V.sc (.string s) :: kc ks) = _
    simp only [toDs, toD, kc_toDs ks]; rfl
theorem kd_len (ks : List ByteArray) : (kd ks).length = ks.length := by simp [kd]
theorem kd_chunks (ks : List ByteArray) : chunks 1 ks.length (kd ks) = ds ks := by
  apply List.ext_getElem?; intro i
  unfold chunks kd ds
  rw [List.getElem?_map, List.getElem?_map]
  by_cases h : i < ks.length
  · rw [List.getElem?_range h, List.getElem?_eq_getElem h]
    simp only [Option.map_some, Nat.mul_one, Option.some.injEq]
    rw [List.drop_eq_getElem_cons (by simpa using h)]
    simp
  · rw [List.getElem?_eq_none (by simpa using h), List.getElem?_eq_none (by omega)]; rfl
theorem kc_fr (o : Nat) (e : List D) (ks : List ByteArray) : frL o e (kc ks) = kc ks := by
  rw [frL_map]; simp [kc, frV]
theorem flatD_ds (ks : List ByteArray) : flatD (ds ks) = kc ks := by
  induction ks with
  | nil => rfl
  | cons s ks ih =>
    unfold flatD at ih ⊢
    show List.map V.d (([D.sc (.string s)] :: ds ks).flatten) = _
    simp only [List.flatten_cons, List.map_append, ih]; rfl
attribute [go_sem] ds_len ds_get ds_app ds_snoc ds_take ds_drop kd_len kd_chunks kc_fr flatD_ds
set_option maxRecDepth 100000 in
theorem mclone_s (c : Nat) (l : Pm) : Sp Tryz.prog K 94 [.mp 0] [.map (pm c l)] fun u hh => u = .mp 1 ∧ hh = [.map (pm c l), .map (pm c l)] := by
  intro F φ w args hK hi hd
  obtain ⟨r, rfl, hr⟩ := args1 hd
  obtain ⟨b, z, ents, rfl, hp, hblk, hsz, hent⟩ := map_obj hi hr rfl
  refine (mclone_c b ents _ w hblk).mono ?_
  rintro e w' ⟨rfl, rfl⟩
  obtain ⟨a1, a2⟩ := more_alloc w (.map ents (pm c l).c)
  have i1 := hi.reserve
  have hl : φ.length = 1 := by have := hi.len; simpa using this
  have hrn : (φ ++ [Pl.yet])[1]? = some .yet := by rw [List.getElem?_append_right (by omega), hl]; rfl
  have hpp : ∀ b, (Pl.obj w.heap.size 0).blk = some b → w.heap.size ≤ b := fun b hb => by cases hb; exact Nat.le_refl _
  have he := Ext.fill (φ := φ ++ [.yet]) (.obj w.heap.size 0) hrn a1 a2 hpp
  have hat : ((φ ++ [Pl.yet]).set 1 (.obj w.heap.size 0))[1]? = some (.obj w.heap.size 0) := List.getElem?_set_self (get_lt hrn)
  have hinv := i1.fill (.obj w.heap.size 0) (.map (pm c l)) hrn a1 a2 hpp ⟨ents, _, heap_alloc_new w _, ⟨rfl, hsz⟩, fun j m e hm he' => ⟨(hent j m e hm he').1, ((hent j m e hm he').2.ext (.reserve φ w)).ext he⟩⟩
  exact ⟨_, _, _, _, rfl, (Ext.reserve φ w).trans hi he, hinv, .mp ⟨_, hat, by simp⟩ fun b' hb' => by rw [hat] at hb'; cases hb'; rfl, rfl, rfl⟩
set_option maxRecDepth 100000 in
set_option maxHeartbeats 4000000 in
theorem clone_h (ks : List ByteArray) (hl : ks.length ≤ 1000000) : Sp Tryz.prog K 93 [.hs true 1 0 0 ks.length] [.cells (kc ks)] fun u hh => u = .hs true 1 1 0 ks.length ∧ hh = [.cells (kc ks), .cells (kc ks)] := by
  refine Sp.of_bodyD Tryz.func93 rfl ?_
  intro Q hQ
  simp only [List.replicate, List.length_cons, List.length_nil, Tryz.ntmps93, Nat.reduceAdd, Nat.reduceSub, List.cons_append, List.nil_append] at hQ ⊢
  have hb1 : (ks.length * 16 ≤ 70368744177664) = True := by simp; omega
  have hb2 : (ks.length ≤ 70368744177664) = True := by simp; omega
  by_cases hk : ks = []
  · subst hk
    have hn : (([] : List ByteArray).length == 0) = true := rfl
    have hz : True := trivial
    have hy := yieldedV_eq
    have hL := And.intro @hn (And.intro @hb1 (@hb2))
    repeat' (first | (refine WPV.seqK ?_; intro N hN) | refine gA ?_ | (refine gR (M := inM [83]) ?_; intro N hN ops hy) | (refine gD (M := inM [83]) ?_; intro N hN; have hy := yieldedV_eq) | (refine WPV.condK ?_; intro A hA B hB) | (refine here ?_; refine sM ?_) | refine Both.mk ?_ ?_ | (refine hN _ ?_; try clear hN N; try clear hy ops) | (refine hA ?_; clear hA A hB B; try simp only [hz]) | (refine hB ?_; clear hA A hB B; try simp only [hz]) | (refine gG ?_ ?_ <;> (intro hz; have h := nm hz; try (exfalso; omega)) <;> (have hz := nz hz)) | ((first | rw [if_pos (show _ ∧ _ from ⟨by omega, by omega⟩)] | rw [if_pos (show _ ∧ _ from by simp only [List.length_append, List.length_cons, List.length_nil]; exact ⟨by omega, by omega⟩)]); refine sM ?_) | refine gT ?_ | (clear hN N))
    · apply And.right; refine hQ _ _ _ ((Desc.nilT 2 1 rfl).trans (Desc.re [some 0, some 1] rfl)) ?_ ⟨rfl, ?_⟩
      · (first | (simp only [go_sem, reduceCtorEq, Nat.reduceAdd, Nat.reduceSub, Nat.reduceMul, Nat.reduceLT, Nat.reduceLeDiff, Int.reduceLT, Int.reduceLE, Int.reduceEq, Int.reduceNe, Int.reduceAdd, Int.reduceSub, Int.reduceMul, Int.reduceToNat, Int.reduceNeg, Int.reducePow, Nat.reducePow, Nat.reduceEqDiff, Nat.reduceBEq, Int.reduceBEq, Int.reduceBNe, Int.reduceNegSucc, Tryz.results93]; done) | (simp only [go_sem, reduceCtorEq, Nat.reduceAdd, Nat.reduceSub, Nat.reduceMul, Nat.reduceLT, Nat.reduceLeDiff, Int.reduceLT, Int.reduceLE, Int.reduceEq, Int.reduceNe, Int.reduceAdd, Int.reduceSub, Int.reduceMul, Int.reduceToNat, Int.reduceNeg, Int.reducePow, Nat.reducePow, Nat.reduceEqDiff, Nat.reduceBEq, Int.reduceBEq, Int.reduceBNe, Int.reduceNegSucc, Tryz.results93]; rfl) | rfl)
      · rfl
    · apply And.right; refine hQ _ _ _ (Desc.re [some 0, some 2] rfl) ?_ ⟨rfl, ?_⟩
      · (first | (simp only [go_sem, reduceCtorEq, Nat.reduceAdd, Nat.reduceSub, Nat.reduceMul, Nat.reduceLT, Nat.reduceLeDiff, Int.reduceLT, Int.reduceLE, Int.reduceEq, Int.reduceNe, Int.reduceAdd, Int.reduceSub, Int.reduceMul, Int.reduceToNat, Int.reduceNeg, Int.reducePow, Nat.reducePow, Nat.reduceEqDiff, Nat.reduceBEq, Int.reduceBEq, Int.reduceBNe, Int.reduceNegSucc, Tryz.results93]; done) | (simp only [go_sem, reduceCtorEq, Nat.reduceAdd, Nat.reduceSub, Nat.reduceMul, Nat.reduceLT, Nat.reduceLeDiff, Int.reduceLT, Int.reduceLE, Int.reduceEq, Int.reduceNe, Int.reduceAdd, Int.reduceSub, Int.reduceMul, Int.reduceToNat, Int.reduceNeg, Int.reducePow, Nat.reducePow, Nat.reduceEqDiff, Nat.reduceBEq, Int.reduceBEq, Int.reduceBNe, Int.reduceNegSucc, Tryz.results93]; rfl) | rfl)
      · rfl
  · have hn : (ks.length == 0) = false := by simp; exact hk
    have hz : True := trivial
    have hy := yieldedV_eq
    have hL := And.intro @hn (And.intro @hb1 (@hb2))
    repeat' (first | (refine WPV.seqK ?_; intro N hN) | refine gA ?_ | (refine gR (M := inM [83]) ?_; intro N hN ops hy) | (refine gD (M := inM [83]) ?_; intro N hN; have hy := yieldedV_eq) | (refine WPV.condK ?_; intro A hA B hB) | (refine here ?_; refine sM ?_) | refine Both.mk ?_ ?_ | (refine hN _ ?_; try clear hN N; try clear hy ops) | (refine hA ?_; clear hA A hB B; try simp only [hz]) | (refine hB ?_; clear hA A hB B; try simp only [hz]) | (refine gG ?_ ?_ <;> (intro hz; have h := nm hz; try (exfalso; omega)) <;> (have hz := nz hz)) | ((first | rw [if_pos (show _ ∧ _ from ⟨by omega, by omega⟩)] | rw [if_pos (show _ ∧ _ from by simp only [List.length_append, List.length_cons, List.length_nil]; exact ⟨by omega, by omega⟩)]); refine sM ?_) | refine gT ?_ | (clear hN N))
    all_goals (first | exact retA hQ Tryz.results93 (Desc.re [some 0, some 2] rfl) | exact retN hQ Tryz.results93 (Desc.re [some 0, some 2] rfl))
set_option maxRecDepth 100000 in
set_option maxHeartbeats 4000000 in
theorem dnew_s : Sp Tryz.prog K 77 [] [] fun u hh => u = .ptr 0 0 ∧ hh = Di.new.inn := by
  refine Sp.of_bodyD Tryz.func77 rfl ?_
  intro Q hQ
  simp only [List.replicate, List.length_cons, List.length_nil, Tryz.ntmps77, Nat.reduceAdd, Nat.reduceSub, List.cons_append, List.nil_append] at hQ ⊢
  have hz : True := trivial
  have hy := yieldedV_eq
  have hL := True.intro
  repeat' (first | (refine WPV.seqK ?_; intro N hN) | refine gA ?_ | (refine gR (M := noM) ?_; intro N hN ops hy) | (refine gD (M := noM) ?_; intro N hN; have hy := yieldedV_eq) | (refine WPV.condK ?_; intro A hA B hB) | (refine here ?_; refine sM ?_) | refine Both.mk ?_ ?_ | (refine hN _ ?_; try clear hN N; try clear hy ops) | (refine hA ?_; clear hA A hB B; try simp only [hz]) | (refine hB ?_; clear hA A hB B; try simp only [hz]) | (refine gG ?_ ?_ <;> (intro hz; have h := nm hz; try (exfalso; omega)) <;> (have hz := nz hz)) | ((first | rw [if_pos (show _ ∧ _ from ⟨by omega, by omega⟩)] | rw [if_pos (show _ ∧ _ from by simp only [List.length_append, List.length_cons, List.length_nil]; exact ⟨by omega, by omega⟩)]); refine sM ?_) | refine gT ?_ | (clear hN N))
  apply And.right; refine hQ _ _ _ ((Desc.nilH 1 0 1 rfl rfl).trans (Desc.re [some 1, some 2, some 0] rfl)) ?_ ⟨rfl, ?_⟩
  · (first | (simp only [go_sem, reduceCtorEq, Nat.reduceAdd, Nat.reduceSub, Nat.reduceMul, Nat.reduceLT, Nat.reduceLeDiff, Int.reduceLT, Int.reduceLE, Int.reduceEq, Int.reduceNe, Int.reduceAdd, Int.reduceSub, Int.reduceMul, Int.reduceToNat, Int.reduceNeg, Int.reducePow, Nat.reducePow, Nat.reduceEqDiff, Nat.reduceBEq, Int.reduceBEq, Int.reduceBNe, Int.reduceNegSucc, Tryz.results77]; done) | (simp only [go_sem, reduceCtorEq, Nat.reduceAdd, Nat.reduceSub, Nat.reduceMul, Nat.reduceLT, Nat.reduceLeDiff, Int.reduceLT, Int.reduceLE, Int.reduceEq, Int.reduceNe, Int.reduceAdd, Int.reduceSub, Int.reduceMul, Int.reduceToNat, Int.reduceNeg, Int.reducePow, Nat.reducePow, Nat.reduceEqDiff, Nat.reduceBEq, Int.reduceBEq, Int.reduceBNe, Int.reduceNegSucc, Tryz.results77]; rfl) | rfl)
  · (first | (simp only [go_sem, reduceCtorEq, Nat.reduceAdd, Nat.reduceSub, Nat.reduceMul, Nat.reduceLT, Nat.reduceLeDiff, Int.reduceLT, Int.reduceLE, Int.reduceEq, Int.reduceNe, Int.reduceAdd, Int.reduceSub, Int.reduceMul, Int.reduceToNat, Int.reduceNeg, Int.reducePow, Nat.reducePow, Nat.reduceEqDiff, Nat.reduceBEq, Int.reduceBEq, Int.reduceBNe, Int.reduceNegSucc]; done) | (simp only [go_sem, reduceCtorEq, Nat.reduceAdd, Nat.reduceSub, Nat.reduceMul, Nat.reduceLT, Nat.reduceLeDiff, Int.reduceLT, Int.reduceLE, Int.reduceEq, Int.reduceNe, Int.reduceAdd, Int.reduceSub, Int.reduceMul, Int.reduceToNat, Int.reduceNeg, Int.reducePow, Nat.reducePow, Nat.reduceEqDiff, Nat.reduceBEq, Int.reduceBEq, Int.reduceBNe, Int.reduceNegSucc]; rfl) | rfl)
set_option maxRecDepth 100000 in
set_option maxHeartbeats 4000000 in
theorem dcopy_s (d : Di) (hl : d.ks.length ≤ 8) : Sp Tryz.prog K 80 [.ptr 0 0] d.inn fun u hh => u = .ptr 3 0 ∧ hh = d.inn ++ [.cells [.hs true 1 4 0 d.ks.length, .mp 5, .sc (.int .i64 (d.e : Int))], .cells (kc d.ks), .map (pm d.c d.l)] := by
  refine Sp.of_bodyD Tryz.func80 rfl ?_
  intro Q hQ
  simp only [List.replicate, List.length_cons, List.length_nil, Tryz.ntmps80, Nat.reduceAdd, Nat.reduceSub, List.cons_append, List.nil_append, Di.inn] at hQ ⊢
  have hz : True := trivial
  have hy := yieldedV_eq
  have hL := True.intro
  repeat' (first | (refine WPV.seqK ?_; intro N hN) | refine gA ?_ | (refine gR (M := noM) ?_; intro N hN ops hy) | (refine gD (M := noM) ?_; intro N hN; have hy := yieldedV_eq) | (refine WPV.condK ?_; intro A hA B hB) | (refine here ?_; refine sM ?_) | refine Both.mk ?_ ?_ | ((with_reducible refine CallO.gd 93 ?_); refine CallO.frA [1] Tryz.call93 (clone_h d.ks (by omega)) ?_) | ((with_reducible refine CallO.gd 94 ?_); refine CallO.frA [2] Tryz.call94 (mclone_s d.c d.l) ?_) | ((with_reducible refine CallP.gd 93 ?_); refine CallP.frA [1] 1 Tryz.call93 (clone_h d.ks (by omega)) ?_) | ((with_reducible refine CallP.gd 94 ?_); refine CallP.frA [2] 1 Tryz.call94 (mclone_s d.c d.l) ?_) | (refine hN _ ?_; try clear hN N; try clear hy ops) | (refine hA ?_; clear hA A hB B; try simp only [hz]) | (refine hB ?_; clear hA A hB B; try simp only [hz]) | (refine gG ?_ ?_ <;> (intro hz; have h := nm hz; try (exfalso; omega)) <;> (have hz := nz hz)) | ((first | rw [if_pos (show _ ∧ _ from ⟨by omega, by omega⟩)] | rw [if_pos (show _ ∧ _ from by simp only [List.length_append, List.length_cons, List.length_nil]; exact ⟨by omega, by omega⟩)]); refine sM ?_) | refine gT ?_ | (clear hN N))
  all_goals (first | exact retA hQ Tryz.results80 (Desc.re [some 0, some 1, some 2, some 5, some 3, some 4] rfl) | exact retN hQ Tryz.results80 (Desc.re [some 0, some 1, some 2, some 5, some 3, some 4] rfl))
end
section
open Go Go.RowKit
set_option linter.unusedVariables false
set_option linter.unusedSimpArgs false
variable {K : Nat → Obj → Prop}
theorem Sp.wkR {P : Program} {f : FuncId} {vs : List V} {h : List Ho} {v v' : V} {h' : List Ho} (hs : Sp P K f vs h fun u hh => u = v ∧ hh = h') (hw : Wk [v] [v']) : Sp P K f vs h fun u hh => u = v' ∧ hh = h' :=
  fun F φ w args hK hi hd => (hs F φ w args hK hi hd).mono fun e w' ⟨u, φ', v0, h0, a, b, c, d, e1, e2⟩ => ⟨u, φ', v', h0, a, b, c, by subst e1; exact hw.one d, rfl, e2⟩
def Di.put (d : Di) (k : ByteArray) : (List UInt8 × Int) × Di :=
  if 64 < k.size then (([], 4), d) else if 0 ≤ d.at_ k then ((vput (d.at_ k + 1).toNat, 0), d) else ((vput 0 ++ vput k.size ++ k.toList, 0), d.comes k)
abbrev dpV (r : List UInt8 × Int) : V := .tup [.sl 1 (bs r.1), .sc (.int .i64 r.2)]
theorem size_toList (k : ByteArray) : k.toList.length = k.size := by rw [ByteArray.toList_eq]; simp
set_option maxRecDepth 100000 in
set_option maxHeartbeats 4000000 in
theorem dput_s (d : Di) (k : ByteArray) (hs : Sta d.c d.l) (h8 : d.ks.length ≤ 8) (he : d.e < 8) (ha : d.at_ k < 8) : Sp Tryz.prog K 79 [.ptr 0 0, .sc (.string k)] d.inn fun u hh => u = dpV (d.put k).1 ∧ hh = (d.put k).2.out := by
  by_cases h64 : 64 < k.size
  · have e : d.put k = (([], 4), d) := if_pos h64
    rw [e]
    refine Sp.wkR (v := .tup [.sc (.slice none 0 0), .sc (.int .i64 4)]) ?_ (.tup (.null (.same .nil)))
    refine Sp.of_bodyD Tryz.func79 rfl ?_
    intro Q hQ
    simp only [List.replicate, List.length_cons, List.length_nil, Tryz.ntmps79, Nat.reduceAdd, Nat.reduceSub, List.cons_append, List.nil_append, Di.inn] at hQ ⊢
    have hlen : ((64 : Int) < (k.size : Int)) = True := by simp; omega
    have hat : True := trivial
    have hw1 : True := trivial
    have hw2 : True := trivial
    have hw3 : True := trivial
    have hb1 : True := trivial
    have hb2 : True := trivial
    have hz : True := trivial
    have hy := yieldedV_eq
    have hL := And.intro @hlen (And.intro @hat (And.intro @hw1 (And.intro @hw2 (And.intro @hw3 (And.intro @hb1 (@hb2))))))
    repeat' (first | (refine WPV.seqK ?_; intro N hN) | refine gA ?_ | (refine gR (M := noM) ?_; intro N hN ops hy) | (refine gD (M := noM) ?_; intro N hN; have hy := yieldedV_eq) | (refine WPV.condK ?_; intro A hA B hB) | (refine here ?_; refine sM ?_) | refine Both.mk ?_ ?_ | ((with_reducible refine CallO.gd 91 ?_); refine CallO.frA [0, 1, 2] Tryz.call91 (dat_s d k) ?_) | ((with_reducible refine CallO.gd 92 ?_); refine CallO.frA [0, 1, 2] Tryz.call92 (dcomes_s d k hs h8 he) ?_) | ((with_reducible refine CallO.gd 45 ?_); first | refine CallO.toA Tryz.call45 (vput_s (m := d.at_ k + 1) (by omega) (by omega) _) ?_ | refine CallO.toA Tryz.call45 (vput_s (m := (k.size : Int)) (by omega) (by omega) _) ?_ | refine CallO.toA Tryz.call45 (vput_s (m := 0) (by omega) (by omega) _) ?_) | ((with_reducible refine CallO.gd 19 ?_); refine CallO.frA [] Tryz.call19 (vall2O_s (a := 0) (b := (k.size : Int)) ⟨by omega, by omega⟩ ⟨by omega, by omega⟩) ?_) | ((with_reducible refine CallP.gd 45 ?_); first | refine CallP.toA Tryz.call45 (vput_s (m := d.at_ k + 1) (by omega) (by omega) _) ?_ | refine CallP.toA Tryz.call45 (vput_s (m := (k.size : Int)) (by omega) (by omega) _) ?_ | refine CallP.toA Tryz.call45 (vput_s (m := 0) (by omega) (by omega) _) ?_) | (refine hN _ ?_; try clear hN N; try clear hy ops) | (refine hA ?_; clear hA A hB B; try simp only [hz]) | (refine hB ?_; clear hA A hB B; try simp only [hz]) | (refine gG ?_ ?_ <;> (intro hz; have h := nm hz; try (exfalso; omega)) <;> (have hz := nz hz)) | ((first | rw [if_pos (show _ ∧ _ from ⟨by omega, by omega⟩)] | rw [if_pos (show _ ∧ _ from by simp only [List.length_append, List.length_cons, List.length_nil]; exact ⟨by omega, by omega⟩)]); refine sM ?_) | refine gT ?_ | (clear hN N))
    all_goals (first | exact retA hQ Tryz.results79 (Desc.re [some 0, none, none, some 1, some 2] rfl) | exact retN hQ Tryz.results79 (Desc.re [some 0, none, none, some 1, some 2] rfl))
  · by_cases h0 : 0 ≤ d.at_ k
    · have e : d.put k = ((vput (d.at_ k + 1).toNat, 0), d) := by unfold Di.put; rw [if_neg h64, if_pos h0]
      rw [e]
      refine Sp.of_bodyD Tryz.func79 rfl ?_
      intro Q hQ
      simp only [List.replicate, List.length_cons, List.length_nil, Tryz.ntmps79, Nat.reduceAdd, Nat.reduceSub, List.cons_append, List.nil_append, Di.inn] at hQ ⊢
      have hlen : ((64 : Int) < (k.size : Int)) = False := by simp; omega
      have hat : (0 ≤ d.at_ k) = True := by simp; exact h0
      have hw1 : True := trivial
      have hw2 : IntKind.u64.wrap (d.at_ k) = d.at_ k := wr_u64 (by omega) (by omega)
      have hw3 : IntKind.u64.wrap (d.at_ k + 1) = d.at_ k + 1 := wr_u64 (by omega) (by omega)
      have hb1 : True := trivial
      have hb2 : True := trivial
      have hz : True := trivial
      have hy := yieldedV_eq
      have hL := And.intro @hlen (And.intro @hat (And.intro @hw1 (And.intro @hw2 (And.intro @hw3 (And.intro @hb1 (@hb2))))))
      repeat' (first | (refine WPV.seqK ?_; intro N hN) | refine gA ?_ | (refine gR (M := noM) ?_; intro N hN ops hy) | (refine gD (M := noM) ?_; intro N hN; have hy := yieldedV_eq) | (refine WPV.condK ?_; intro A hA B hB) | (refine here ?_; refine sM ?_) | refine Both.mk ?_ ?_ | ((with_reducible refine CallO.gd 91 ?_); refine CallO.frA [0, 1, 2] Tryz.call91 (dat_s d k) ?_) | ((with_reducible refine CallO.gd 92 ?_); refine CallO.frA [0, 1, 2] Tryz.call92 (dcomes_s d k hs h8 he) ?_) | ((with_reducible refine CallO.gd 45 ?_); first | refine CallO.toA Tryz.call45 (vput_s (m := d.at_ k + 1) (by omega) (by omega) _) ?_ | refine CallO.toA Tryz.call45 (vput_s (m := (k.size : Int)) (by omega) (by omega) _) ?_ | refine CallO.toA Tryz.call45 (vput_s (m := 0) (by omega) (by omega) _) ?_) | ((with_reducible refine CallO.gd 19 ?_); refine CallO.frA [] Tryz.call19 (vall2O_s (a := 0) (b := (k.size : Int)) ⟨by omega, by omega⟩ ⟨by omega, by omega⟩) ?_) | ((with_reducible refine CallP.gd 45 ?_); first | refine CallP.toA Tryz.call45 (vput_s (m := d.at_ k + 1) (by omega) (by omega) _) ?_ | refine CallP.toA Tryz.call45 (vput_s (m := (k.size : Int)) (by omega) (by omega) _) ?_ | refine CallP.toA Tryz.call45 (vput_s (m := 0) (by omega) (by omega) _) ?_) | (refine hN _ ?_; try clear hN N; try clear hy ops) | (refine hA ?_; clear hA A hB B; try simp only [hz]) | (refine hB ?_; clear hA A hB B; try simp only [hz]) | (refine gG ?_ ?_ <;> (intro hz; have h := nm hz; try (exfalso; omega)) <;> (have hz := nz hz)) | ((first | rw [if_pos (show _ ∧ _ from ⟨by omega, by omega⟩)] | rw [if_pos (show _ ∧ _ from by simp only [List.length_append, List.length_cons, List.length_nil]; exact ⟨by omega, by omega⟩)]); refine sM ?_) | refine gT ?_ | (clear hN N))
      all_goals (first | exact retA hQ Tryz.results79 (Desc.re [some 0, none, none, some 1, some 2] rfl) | exact retN hQ Tryz.results79 (Desc.re [some 0, none, none, some 1, some 2] rfl))
    · have e : d.put k = ((vput 0 ++ vput k.size ++ k.toList, 0), d.comes k) := by unfold Di.put; rw [if_neg h64, if_neg h0]
      rw [e]
      refine Sp.of_bodyD Tryz.func79 rfl ?_
      intro Q hQ
      simp only [List.replicate, List.length_cons, List.length_nil, Tryz.ntmps79, Nat.reduceAdd, Nat.reduceSub, List.cons_append, List.nil_append, Di.inn] at hQ ⊢
      have hlen : ((64 : Int) < (k.size : Int)) = False := by simp; omega
      have hat : (0 ≤ d.at_ k) = False := by simp; omega
      have hw1 : IntKind.u64.wrap (k.size : Int) = (k.size : Int) := wr_u64 (by omega) (by omega)
      have hw2 : True := trivial
      have hw3 : True := trivial
      have hl1 := vput_len (n := k.size) (by omega)
      have hl2 := vput_len (n := 0) (by omega)
      have hl3 := size_toList k
      have hb1 : True := trivial
      have hb2 : True := trivial
      have hz : True := trivial
      have hy := yieldedV_eq
      have hL := And.intro @hlen (And.intro @hat (And.intro @hw1 (And.intro @hw2 (And.intro @hw3 (And.intro @hb1 (@hb2))))))
      repeat' (first | (refine WPV.seqK ?_; intro N hN) | refine gA ?_ | (refine gR (M := noM) ?_; intro N hN ops hy) | (refine gD (M := noM) ?_; intro N hN; have hy := yieldedV_eq) | (refine WPV.condK ?_; intro A hA B hB) | (refine here ?_; refine sM ?_) | refine Both.mk ?_ ?_ | ((with_reducible refine CallO.gd 91 ?_); refine CallO.frA [0, 1, 2] Tryz.call91 (dat_s d k) ?_) | ((with_reducible refine CallO.gd 92 ?_); refine CallO.frA [0, 1, 2] Tryz.call92 (dcomes_s d k hs h8 he) ?_) | ((with_reducible refine CallO.gd 45 ?_); first | refine CallO.toA Tryz.call45 (vput_s (m := d.at_ k + 1) (by omega) (by omega) _) ?_ | refine CallO.toA Tryz.call45 (vput_s (m := (k.size : Int)) (by omega) (by omega) _) ?_ | refine CallO.toA Tryz.call45 (vput_s (m := 0) (by omega) (by omega) _) ?_) | ((with_reducible refine CallO.gd 19 ?_); refine CallO.frA [] Tryz.call19 (vall2O_s (a := 0) (b := (k.size : Int)) ⟨by omega, by omega⟩ ⟨by omega, by omega⟩) ?_) | ((with_reducible refine CallP.gd 45 ?_); first | refine CallP.toA Tryz.call45 (vput_s (m := d.at_ k + 1) (by omega) (by omega) _) ?_ | refine CallP.toA Tryz.call45 (vput_s (m := (k.size : Int)) (by omega) (by omega) _) ?_ | refine CallP.toA Tryz.call45 (vput_s (m := 0) (by omega) (by omega) _) ?_) | (refine hN _ ?_; try clear hN N; try clear hy ops) | (refine hA ?_; clear hA A hB B; try simp only [hz]) | (refine hB ?_; clear hA A hB B; try simp only [hz]) | (refine gG ?_ ?_ <;> (intro hz; have h := nm hz; try (exfalso; omega)) <;> (have hz := nz hz)) | ((first | rw [if_pos (show _ ∧ _ from ⟨by omega, by omega⟩)] | rw [if_pos (show _ ∧ _ from by simp only [List.length_append, List.length_cons, List.length_nil]; exact ⟨by omega, by omega⟩)]); refine sM ?_) | refine gT ?_ | (clear hN N))
      all_goals (first | exact retA hQ Tryz.results79 (Desc.re [some 0, none, none, some 3, some 4] rfl) | exact retN hQ Tryz.results79 (Desc.re [some 0, none, none, some 3, some 4] rfl))
end
section
open Go Go.RowKit
set_option linter.unusedVariables false
set_option linter.unusedSimpArgs false
variable {K : Nat → Obj → Prop}
inductive Dk where
  | err (e : Int)
  | place (p u : Nat)
  | text (s : ByteArray) (u : Nat)
def dkText (b : List UInt8) (at_ n : Nat) : ByteArray := ⟨((b.drop at_).take n).toArray⟩
def dkOf (b : List UInt8) : Dk :=
  if (tk b).2.2 ≠ 0 then .err (tk b).2.2
  else if (tk b).1.toNat ≠ 0 then .place (tk b).1.toNat (tk b).2.1
  else if (tk (b.drop (tk b).2.1)).2.2 ≠ 0 then .err (tk (b.drop (tk b).2.1)).2.2
  else if 64 < (tk (b.drop (tk b).2.1)).1.toNat then .err 4
  else if b.length < (tk b).2.1 + (tk (b.drop (tk b).2.1)).2.1 + (tk (b.drop (tk b).2.1)).1.toNat then .err 2
  else .text (dkText b ((tk b).2.1 + (tk (b.drop (tk b).2.1)).2.1) (tk (b.drop (tk b).2.1)).1.toNat) ((tk b).2.1 + (tk (b.drop (tk b).2.1)).2.1 + (tk (b.drop (tk b).2.1)).1.toNat)
abbrev Tk := ByteArray × Int × Int
def Di.take (d : Di) (b : List UInt8) : Tk × Di := match dkOf b with
  | .err e => ((⟨#[]⟩, 0, e), d)
  | .place p u => if d.ks.length < p then ((⟨#[]⟩, 0, 9), d) else ((d.ks.getD (p - 1) ⟨#[]⟩, u, 0), d)
  | .text s u => if 0 ≤ d.at_ s then ((⟨#[]⟩, 0, 3), d) else ((s, u, 0), d.comes s)
abbrev dtV (r : Tk) : V := .tup [.sc (.string r.1), .sc (.int .i64 r.2.1), .sc (.int .i64 r.2.2)]
end
end Go.Proofs.YtgfnpcmehnjopaaGreatDoor
end
section
namespace Go.Proofs.YtgfnpcmehnjopaaGreatDoor
open Go Go.RowKit
set_option linter.unusedVariables false
set_option linter.unusedSimpArgs false
def is (l : List Int) : List (List D) := l.map fun n => [D.sc (.int .i64 n)]
theorem is_len (l : List Int) : (is l).length = l.length := by simp [is]
theorem is_get (l : List Int) (i : Nat) : (is l)[i]? = (l[i]?).map fun n => [D.sc (.int .i64 n)] := by simp [is]
theorem is_snoc (l : List Int) (n : Int) : is l ++ [[D.sc (.int .i64 n)]] = is (l ++ [n]) := by simp [is]
attribute [go_sem] is_len is_get is_snoc
structure Rdi where
  ks : List ByteArray
  ws : List Int
  now : Int
def Rdi.ob (r : Rdi) : Ho := .cells [.sl 1 (ds r.ks), .sl 1 (is r.ws), .sc (.int .i64 r.now)]
attribute [go_sem] Rdi.ob
def idx (k : ByteArray) : List ByteArray → Nat → Int
  | [], _ => -1
  | s :: l, i => if (s.toList == k.toList) = true then i else idx k l (i + 1)
def Rdi.at_ (r : Rdi) (k : ByteArray) : Int := idx k r.ks 0
theorem idx_drop (k : ByteArray) (l : List ByteArray) (i : Nat) (h : i < l.length) : idx k (l.drop i) i = if (l[i].toList == k.toList) = true then (i : Int) else idx k (l.drop (i + 1)) (i + 1) := by
  rw [List.drop_eq_getElem_cons h]; rfl
def ic (l : List Int) : List V := l.map fun n => V.sc (.int .i64 n)
def id' (l : List Int) : List D := l.map fun n => D.sc (.int .i64 n)
theorem ic_len (l : List Int) : (ic l).length = l.length := by simp [ic]
theorem ic_get (l : List Int) (i : Nat) : (ic l)[i]? = (l[i]?).map fun n => V.sc (.int .i64 n) := by simp [ic]
theorem ic_app (l m : List Int) : ic l ++ ic m = ic (l ++ m) := by simp [ic]
theorem ic_snoc (l : List Int) (n : Int) : ic l ++ [V.sc (.int .i64 n)] = ic (l ++ [n]) := by simp [ic]
theorem ic_take (l : List Int) (n : Nat) : (ic l).take n = ic (l.take n) := by simp [ic]
theorem ic_drop (l : List Int) (n : Nat) : (ic l).drop n = ic (l.drop n) := by simp [ic]
theorem ic_mv (f : Nat → Option Nat) (l : List Int) : mvL f (ic l) = ic l := by rw [mvL_map]; simp [ic, mvV]
theorem ic_fr (o : Nat) (e : List D) (l : List Int) : frL o e (ic l) = ic l := by rw [frL_map]; simp [ic, frV]
theorem ic_toDs : ∀ l : List Int, toDs (ic l) = some (id' l)
  | [] => rfl
  | s :: l => by
    show toDs (V.sc (.int .i64 s) :: ic l) = _
    simp only [toDs, toD, ic_toDs l]; rfl
theorem id_len (l : List Int) : (id' l).length = l.length := by simp [id']
theorem id_chunks (l : List Int) : chunks 1 l.length (id' l) = is l := by
  apply List.ext_getElem?; intro i
  unfold chunks id' is
  rw [List.getElem?_map, List.getElem?_map]
  by_cases h : i < l.length
  · rw [List.getElem?_range h, List.getElem?_eq_getElem h]
    simp only [Option.map_some, Nat.mul_one, Option.some.injEq]
    rw [List.drop_eq_getElem_cons (by simpa using h)]
    simp
  · rw [List.getElem?_eq_none (by simpa using h), List.getElem?_eq_none (by omega)]; rfl
theorem flatD_is (l : List Int) : flatD (is l) = ic l := by
  induction l with
  | nil => rfl
  | cons s l ih =>
    unfold flatD at ih ⊢
    show List.map V.d (([D.sc (.int .i64 s)] :: is l).flatten) = _
    simp only [List.flatten_cons, List.map_append, ih]; rfl
theorem set_eq {α : Type} (l : List α) (k : α) (n : Nat) (h : n < l.length) : l.take n ++ [k] ++ l.drop (n + 1) = l.set n k := by
  rw [List.set_eq_take_append_cons_drop, if_pos h]; simp
attribute [go_sem] ic_len ic_get ic_app ic_snoc ic_take ic_drop ic_mv ic_fr id_len id_chunks flatD_is
def firstN (ws : List Int) : Nat → Nat
  | 0 => 0
  | n + 1 => if ws.getD n 0 < ws.getD (firstN ws n) 0 then n else firstN ws n
theorem firstN_lt (ws : List Int) : ∀ n, 0 < n → firstN ws n < n
  | 0, h => absurd h (Nat.lt_irrefl _)
  | n + 1, _ => by
    unfold firstN
    split
    · omega
    · cases n with
      | zero => simp [firstN]
      | succ n => have := firstN_lt ws (n + 1) (by omega); omega
def Rdi.comes (r : Rdi) (k : ByteArray) : Rdi :=
  if r.ks.length < 8 then ⟨r.ks ++ [k], r.ws ++ [r.now + 1], r.now + 1⟩ else ⟨r.ks.set (firstN r.ws 8) k, r.ws.set (firstN r.ws 8) (r.now + 1), r.now + 1⟩
theorem idx_bd (k : ByteArray) : ∀ (l : List ByteArray) (i : Nat), -1 ≤ idx k l i ∧ idx k l i < i + l.length
  | [], i => by simp [idx]; omega
  | s :: l, i => by
    have := idx_bd k l (i + 1)
    unfold idx
    split
    · simp; omega
    · simp at this ⊢; omega
def Rdi.put (r : Rdi) (k : ByteArray) : (List UInt8 × Int) × Rdi :=
  if 64 < k.size then (([], 4), r) else if 0 ≤ r.at_ k then ((vput (r.at_ k + 1).toNat, 0), r) else (([0] ++ vput k.size ++ k.toList, 0), r.comes k)
def Rdi.take (d : Rdi) (b : List UInt8) : Tk × Rdi := match dkOf b with
  | .err e => ((⟨#[]⟩, 0, e), d)
  | .place p u => if d.ks.length < p then ((⟨#[]⟩, 0, 9), d) else ((d.ks.getD (p - 1) ⟨#[]⟩, u, 0), d)
  | .text s u => if 0 ≤ d.at_ s then ((⟨#[]⟩, 0, 3), d) else ((s, u, 0), d.comes s)
theorem ba_eq {a b : ByteArray} (h : (a.toList == b.toList) = true) : a = b := by
  have h : a.toList = b.toList := by simpa using h
  rw [ByteArray.toList_eq, ByteArray.toList_eq] at h
  ext1
  simpa [← Array.toList_inj] using h
end Go.Proofs.YtgfnpcmehnjopaaGreatDoor
end
section
namespace Go.Proofs.YtgfnpcmehnjopaaGreatDoor
section
open Go Go.RowKit
set_option linter.unusedVariables false
set_option linter.unusedSimpArgs false
theorem ba_beq (a b : ByteArray) : (a == b) = decide (a = b) := by
  rw [Bool.eq_iff_iff, decide_eq_true_eq]
  obtain ⟨x⟩ := a
  obtain ⟨y⟩ := b
  show (x == y) = true ↔ _
  simp [ByteArray.mk.injEq]
theorem ba_lbeq (a b : ByteArray) : (a.toList == b.toList) = decide (a = b) := by
  rw [Bool.eq_iff_iff, decide_eq_true_eq]
  exact ⟨ba_eq, fun h => by subst h; simp⟩
theorem pget_pset (c : Nat) (k k' : ByteArray) (n : Int) : ∀ l : Pm, pget (pset c l k n) k' = if k' = k then some n else pget l k'
  | [] => by simp [pset, pget, ba_beq]
  | e :: l => by
    have ih := pget_pset c k k' n l
    simp only [pset, pget, ba_beq, decide_eq_true_eq]
    by_cases h : k = e.2.1
    · rw [if_pos h]
      simp only [pget, ba_beq, decide_eq_true_eq]
      subst h
      split <;> rfl
    · rw [if_neg h]
      simp only [pget, ba_beq, decide_eq_true_eq, ih]
      by_cases h2 : k' = e.2.1
      · rw [if_pos h2, if_pos h2, if_neg (fun h3 => h (h3.symm.trans h2))]
      · rw [if_neg h2, if_neg h2]
def pk (l : Pm) : List ByteArray := l.map (·.2.1)
theorem pget_none {k : ByteArray} : ∀ {l : Pm}, k ∉ pk l → pget l k = none
  | [], _ => rfl
  | e :: l, h => by
    simp only [pk, List.map_cons, List.mem_cons, not_or] at h
    simp only [pget, ba_beq, decide_eq_true_eq]
    rw [if_neg h.1]
    exact pget_none h.2
theorem pget_pdel (o k' : ByteArray) : ∀ l : Pm, (pk l).Nodup → pget (pdel l o) k' = if k' = o then none else pget l k'
  | [], _ => by simp [pdel, pget]
  | e :: l, h => by
    have h' := List.nodup_cons.1 (show (e.2.1 :: pk l).Nodup from h)
    have ih := pget_pdel o k' l h'.2
    simp only [pdel, pget, ba_beq, decide_eq_true_eq]
    by_cases h1 : o = e.2.1
    · rw [if_pos h1]
      by_cases h2 : k' = o
      · rw [if_pos h2, h2, h1]; exact pget_none h'.1
      · rw [if_neg h2, if_neg (fun h3 => h2 (h3.trans h1.symm))]
    · rw [if_neg h1]
      simp only [pget, ba_beq, decide_eq_true_eq, ih]
      by_cases h2 : k' = e.2.1
      · rw [if_pos h2, if_pos h2, if_neg (fun h3 => h1 (h3.symm.trans h2))]
      · rw [if_neg h2, if_neg h2]
open Classical in
theorem pk_pset (c : Nat) (k : ByteArray) (n : Int) : ∀ l : Pm, pk (pset c l k n) = if k ∈ pk l then pk l else pk l ++ [k]
  | [] => by simp [pset, pk]
  | e :: l => by
    have ih := pk_pset c k n l
    simp only [pset, ba_beq, decide_eq_true_eq]
    by_cases h : k = e.2.1
    · rw [if_pos h, if_pos (by simp [pk, h])]; simp [pk, h]
    · rw [if_neg h]
      have e1 : ∀ x : Nat × ByteArray × Int, ∀ m : Pm, pk (x :: m) = x.2.1 :: pk m := fun _ _ => rfl
      rw [e1, e1, ih]
      by_cases h2 : k ∈ pk l
      · rw [if_pos h2, if_pos (by simp [h2])]
      · rw [if_neg h2, if_neg (by simp [h, h2])]; simp
theorem pk_nd_pset {c : Nat} {k : ByteArray} {n : Int} {l : Pm} (h : (pk l).Nodup) : (pk (pset c l k n)).Nodup := by
  rw [pk_pset]
  split
  · exact h
  · rename_i hk
    exact List.nodup_append.2 ⟨h, by simp, fun a ha b hb => by simp at hb; subst hb; exact fun e => hk (e ▸ ha)⟩
theorem pk_nd_pdel {k : ByteArray} {l : Pm} (h : (pk l).Nodup) : (pk (pdel l k)).Nodup := h.sublist ((pdel_sub k l).map _)
theorem idx_none {k : ByteArray} : ∀ {l : List ByteArray} {i : Nat}, k ∉ l → idx k l i = -1
  | [], _, _ => rfl
  | s :: l, i, h => by
    simp only [List.mem_cons, not_or] at h
    unfold idx
    rw [ba_lbeq, if_neg (by simp; exact fun e => h.1 e.symm)]
    exact idx_none h.2
theorem idx_some {k : ByteArray} : ∀ {l : List ByteArray} {i j : Nat}, l.Nodup → l[j]? = some k → idx k l i = ((i + j : Nat) : Int)
  | [], _, _, _, h => by simp at h
  | s :: l, i, 0, hn, h => by
    simp at h
    unfold idx
    rw [ba_lbeq, if_pos (by simp [h])]; rfl
  | s :: l, i, j + 1, hn, h => by
    have hn' := List.nodup_cons.1 hn
    simp at h
    unfold idx
    rw [ba_lbeq, if_neg (by simp; exact fun e => hn'.1 (e ▸ List.mem_iff_getElem?.2 ⟨j, h⟩)), idx_some hn'.2 h]
    congr 1; omega
structure Di.Ok (d : Di) : Prop where
  sta : Sta d.c d.l
  len : d.ks.length ≤ 8
  e8 : d.e < 8
  nd : d.ks.Nodup
  sz : ∀ k ∈ d.ks, k.size ≤ 64
  kn : (pk d.l).Nodup
  pi : ∀ k j, pget d.l k = some j ↔ ∃ n : Nat, j = n ∧ d.ks[n]? = some k
theorem Di.Ok.nw : Di.new.Ok := ⟨⟨by simp [Di.new], by simp [Di.new]⟩, by simp [Di.new], by simp [Di.new], by simp [Di.new], by simp [Di.new], by simp [Di.new, pk], by simp [Di.new, pget]⟩
theorem Di.Ok.idx {d : Di} (h : d.Ok) (k : ByteArray) : d.at_ k = idx k d.ks 0 := by
  unfold Di.at_
  by_cases hk : k ∈ d.ks
  · obtain ⟨n, hn⟩ := List.mem_iff_getElem?.1 hk
    rw [(h.pi k n).2 ⟨n, rfl, hn⟩, idx_some h.nd hn]; simp
  · have : pget d.l k = none := by
      cases hp : pget d.l k with
      | none => rfl
      | some j =>
        obtain ⟨n, _, hn⟩ := (h.pi k j).1 hp
        exact absurd (List.mem_iff_getElem?.2 ⟨n, hn⟩) hk
    rw [this, idx_none hk]; rfl
theorem Di.Ok.at8 {d : Di} (h : d.Ok) (k : ByteArray) : d.at_ k < 8 := by
  rw [h.idx]; have := idx_bd k d.ks 0; have := h.len; omega
theorem Di.Ok.out {d : Di} (h : d.Ok) {k : ByteArray} (hk : d.at_ k < 0) : k ∉ d.ks := fun hm => by
  obtain ⟨n, hn⟩ := List.mem_iff_getElem?.1 hm
  rw [h.idx, idx_some h.nd hn] at hk; omega
theorem Di.Ok.at_get {d : Di} (h : d.Ok) {k : ByteArray} {n : Nat} (hn : d.ks[n]? = some k) : d.at_ k = n := by
  rw [h.idx, idx_some h.nd hn]; simp
theorem Di.Ok.get_at {d : Di} (h : d.Ok) {k : ByteArray} (hk : 0 ≤ d.at_ k) : d.ks[(d.at_ k).toNat]? = some k := by
  by_cases hm : k ∈ d.ks
  · obtain ⟨n, hn⟩ := List.mem_iff_getElem?.1 hm
    rw [h.at_get hn]; simpa using hn
  · rw [h.idx, idx_none hm] at hk; omega
theorem Di.Ok.comes {d : Di} (h : d.Ok) {k : ByteArray} (hk : k ∉ d.ks) (hs : k.size ≤ 64) : (d.comes k).Ok := by
  unfold Di.comes
  by_cases h8 : d.ks.length < 8
  · rw [if_pos h8]
    refine ⟨h.sta.set k _, by simp; omega, h.e8, List.nodup_append.2 ⟨h.nd, by simp, fun a ha b hb => by simp at hb; subst hb; exact fun e => hk (e ▸ ha)⟩, fun x hx => ?_, pk_nd_pset h.kn, fun x j => ?_⟩
    · rcases List.mem_append.1 hx with h1 | h1
      · exact h.sz x h1
      · simp at h1; subst h1; exact hs
    · show pget (pset d.c d.l k d.ks.length) x = some j ↔ ∃ n : Nat, j = n ∧ (d.ks ++ [k])[n]? = some x
      rw [pget_pset]
      by_cases hx : x = k
      · subst hx
        rw [if_pos rfl]
        refine ⟨fun e => ⟨d.ks.length, by cases e; rfl, by simp⟩, fun ⟨n, e1, e2⟩ => ?_⟩
        have : n = d.ks.length := by
          by_cases hn : n < d.ks.length
          · rw [List.getElem?_append_left hn] at e2; exact absurd (List.mem_iff_getElem?.2 ⟨n, e2⟩) hk
          · rw [List.getElem?_append_right (by omega)] at e2
            have := List.getElem?_eq_some_iff.1 e2
            obtain ⟨h1, _⟩ := this
            simp at h1; omega
        rw [e1, this]
      · rw [if_neg hx, h.pi]
        refine exists_congr fun n => and_congr_right fun _ => ?_
        by_cases hn : n < d.ks.length
        · rw [List.getElem?_append_left hn]
        · rw [List.getElem?_append_right (by omega), List.getElem?_eq_none (by omega)]
          refine ⟨fun e => by simp at e, fun e => ?_⟩
          obtain ⟨h1, h2⟩ := List.getElem?_eq_some_iff.1 e
          simp at h2; exact absurd h2.symm hx
  · rw [if_neg h8]
    have hl : d.ks.length = 8 := by have := h.len; omega
    have he : d.e < d.ks.length := by have := h.e8; omega
    generalize ho : d.ks.getD d.e ⟨#[]⟩ = o
    have hoe : d.ks[d.e]? = some o := by rw [← ho, List.getD_eq_getElem?_getD, List.getElem?_eq_getElem he]; rfl
    have hmo : o ∈ d.ks := List.mem_iff_getElem?.2 ⟨_, hoe⟩
    have hko : k ≠ o := fun e => hk (e ▸ hmo)
    have hu : ∀ {n x}, d.ks[n]? = some x → ∀ {m}, d.ks[m]? = some x → n = m := fun {n x} a {m} b => by
      have := idx_some (i := 0) h.nd a
      rw [idx_some (i := 0) h.nd b] at this; omega
    refine ⟨(h.sta.del o).set k _, by simp; omega, by show (d.e + 1) % 8 < 8; omega, ?_, fun x hx => ?_, pk_nd_pset (pk_nd_pdel h.kn), fun x j => ?_⟩
    · show (d.ks.set d.e k).Nodup
      refine List.pairwise_iff_getElem.2 fun i j hi hj hij => ?_
      refine fun e0 => (?_ : (d.ks.set d.e k)[i]? ≠ (d.ks.set d.e k)[j]?) (by rw [List.getElem?_eq_getElem hi, List.getElem?_eq_getElem hj, e0])
      rw [List.length_set] at hi
      rw [List.length_set] at hj
      rw [List.getElem?_set, List.getElem?_set]
      by_cases h1 : d.e = i
      · rw [if_pos h1, if_pos he, if_neg (by omega)]
        exact fun e => hk (List.mem_iff_getElem?.2 ⟨j, e.symm⟩)
      · rw [if_neg h1]
        by_cases h2 : d.e = j
        · rw [if_pos h2, if_pos he]
          exact fun e => hk (List.mem_iff_getElem?.2 ⟨i, e⟩)
        · rw [if_neg h2]
          intro e
          rw [List.getElem?_eq_getElem hj] at e
          have := hu e (List.getElem?_eq_getElem hj)
          omega
    · rcases List.mem_or_eq_of_mem_set hx with h1 | h1
      · exact h.sz x h1
      · subst h1; exact hs
    · show pget (pset d.c (pdel d.l o) k d.e) x = some j ↔ ∃ n : Nat, j = n ∧ (d.ks.set d.e k)[n]? = some x
      rw [pget_pset, pget_pdel _ _ _ h.kn]
      by_cases hx : x = k
      · subst hx
        rw [if_pos rfl]
        refine ⟨fun e => ⟨d.e, by cases e; rfl, by rw [List.getElem?_set, if_pos rfl, if_pos he]⟩, fun ⟨n, e1, e2⟩ => ?_⟩
        rw [List.getElem?_set] at e2
        by_cases h1 : d.e = n
        · rw [e1, h1]
        · rw [if_neg h1] at e2; exact absurd (List.mem_iff_getElem?.2 ⟨n, e2⟩) hk
      · rw [if_neg hx]
        by_cases hxo : x = o
        · subst hxo
          rw [if_pos rfl]
          refine ⟨(fun e => nomatch e), fun ⟨n, e1, e2⟩ => ?_⟩
          rw [List.getElem?_set] at e2
          by_cases h1 : d.e = n
          · rw [if_pos h1, if_pos he] at e2
            simp at e2; exact absurd e2 hko
          · rw [if_neg h1] at e2; exact absurd (hu hoe e2) h1
        · rw [if_neg hxo, h.pi]
          refine exists_congr fun n => and_congr_right fun _ => ?_
          rw [List.getElem?_set]
          by_cases h1 : d.e = n
          · rw [if_pos h1, if_pos he, ← h1, hoe]
            simp only [Option.some.injEq]
            exact ⟨fun e => absurd e.symm hxo, fun e => absurd e.symm hx⟩
          · rw [if_neg h1]
theorem Di.Ok.put {d : Di} (h : d.Ok) (k : ByteArray) : (d.put k).2.Ok := by
  unfold Di.put
  split
  · exact h
  · split
    · exact h
    · exact h.comes (h.out (by omega)) (by omega)
theorem dkText_size (b : List UInt8) (a n : Nat) : (dkText b a n).size ≤ n := by
  show ((b.drop a).take n).toArray.size ≤ n
  simp; omega
theorem dkOf_text {b : List UInt8} {s : ByteArray} {u : Nat} (h : dkOf b = .text s u) : s.size ≤ 64 := by
  unfold dkOf at h
  split at h <;> try cases h
  split at h <;> try cases h
  split at h <;> try cases h
  split at h <;> try cases h
  split at h <;> try cases h
  rename_i h4 _
  exact Nat.le_trans (dkText_size _ _ _) (by omega)
theorem Di.Ok.take {d : Di} (h : d.Ok) (b : List UInt8) : (d.take b).2.Ok := by
  unfold Di.take
  split
  · exact h
  · split <;> exact h
  · rename_i hb
    split
    · exact h
    · exact h.comes (h.out (by omega)) (dkOf_text hb)
end
section
open Go Go.RowKit
set_option linter.unusedVariables false
set_option linter.unusedSimpArgs false
structure Rel (d : Di) (r : Rdi) (n : Nat) : Prop where
  ok : d.Ok
  ks : r.ks = d.ks
  now : r.now = n
  wl : r.ws.length = d.ks.length
  ln : d.ks.length = min n 8
  ed : d.e = if n < 8 then 0 else n % 8
  wj : ∀ j, j < d.ks.length → r.ws.getD j 0 = (n : Int) - (((n - 1 - j) % 8 : Nat) : Int)
theorem Rel.nw : Rel Di.new ⟨[], [], 0⟩ 0 := ⟨.nw, rfl, rfl, rfl, rfl, rfl, fun j h => absurd h (by simp [Di.new])⟩
theorem Rel.at_ {d : Di} {r : Rdi} {n : Nat} (h : Rel d r n) (k : ByteArray) : r.at_ k = d.at_ k := by
  rw [h.ok.idx]; unfold Rdi.at_; rw [h.ks]
theorem firstN_rot {w : List Int} {n : Nat} (h8 : 8 ≤ n) (hw : ∀ j, j < 8 → w.getD j 0 = (n : Int) - (((n - 1 - j) % 8 : Nat) : Int)) : ∀ i, i < 8 → firstN w (i + 1) = if i < n % 8 then 0 else n % 8
  | 0, _ => by
    have h0 : firstN w (0 + 1) = 0 := by have := firstN_lt w (0 + 1) (by omega); omega
    rw [h0]
    by_cases h : 0 < n % 8
    · rw [if_pos h]
    · rw [if_neg h]; omega
  | i + 1, hi => by
    have ih := firstN_rot h8 hw i (by omega)
    show (if w.getD (i + 1) 0 < w.getD (firstN w (i + 1)) 0 then i + 1 else firstN w (i + 1)) = _
    rw [ih]
    have h1 := hw (i + 1) hi
    have h0 := hw 0 (by omega)
    have hm := hw (n % 8) (by omega)
    by_cases h2 : i < n % 8
    · rw [if_pos h2, h0, h1]
      by_cases h3 : i + 1 < n % 8
      · rw [if_pos h3, if_neg (by omega)]
      · rw [if_neg h3, if_pos (by omega)]; omega
    · rw [if_neg h2, hm, h1, if_neg (by omega), if_neg (by omega)]
theorem Rel.comes {d : Di} {r : Rdi} {n : Nat} (h : Rel d r n) {k : ByteArray} (hk : d.at_ k < 0) (hs : k.size ≤ 64) : Rel (d.comes k) (r.comes k) (n + 1) := by
  have ok := h.ok.comes (h.ok.out hk) hs
  have hl := h.ln
  have hd := h.ed
  have hr : r.ks.length = d.ks.length := by rw [h.ks]
  have hw := h.wl
  have hj := h.wj
  by_cases h8 : d.ks.length < 8
  · have e1 : d.comes k = ⟨d.ks ++ [k], pnext d.c d.l k, pset d.c d.l k d.ks.length, d.e⟩ := by unfold Di.comes; rw [if_pos h8]
    have e2 : r.comes k = ⟨r.ks ++ [k], r.ws ++ [r.now + 1], r.now + 1⟩ := by unfold Rdi.comes; rw [hr, if_pos h8]
    rw [e1] at ok ⊢
    rw [e2]
    refine ⟨ok, by simp [h.ks], by show r.now + 1 = _; rw [h.now]; rfl, by simp [hw], by simp; omega, ?_, fun j h1 => ?_⟩
    · show d.e = _
      rw [hd, if_pos (by omega)]
      split <;> omega
    · simp at h1
      show (r.ws ++ [r.now + 1]).getD j 0 = _
      rw [List.getD_eq_getElem?_getD]
      by_cases h2 : j < d.ks.length
      · rw [List.getElem?_append_left (by omega), ← List.getD_eq_getElem?_getD, hj j h2]; omega
      · have : j = r.ws.length := by omega
        subst this
        simp [h.now]; omega
  · have e1 : d.comes k = ⟨d.ks.set d.e k, pnext d.c (pdel d.l (d.ks.getD d.e ⟨#[]⟩)) k, pset d.c (pdel d.l (d.ks.getD d.e ⟨#[]⟩)) k d.e, (d.e + 1) % 8⟩ := by unfold Di.comes; rw [if_neg h8]
    have h8' : d.ks.length = 8 := by omega
    have hn : 8 ≤ n := by omega
    rw [if_neg (by omega)] at hd
    have hf : firstN r.ws 8 = d.e := by
      rw [firstN_rot hn (fun j hlt => hj j (by omega)) 7 (by omega), hd]; split <;> omega
    have e2 : r.comes k = ⟨r.ks.set d.e k, r.ws.set d.e (r.now + 1), r.now + 1⟩ := by unfold Rdi.comes; rw [hr, if_neg h8, hf]
    rw [e1] at ok ⊢
    rw [e2]
    refine ⟨ok, by simp [h.ks], by show r.now + 1 = _; rw [h.now]; rfl, by simp [hw], by simp; omega, ?_, fun j h1 => ?_⟩
    · show (d.e + 1) % 8 = _
      rw [if_neg (by omega), hd]; omega
    · simp at h1
      show (r.ws.set d.e (r.now + 1)).getD j 0 = _
      rw [List.getD_eq_getElem?_getD, List.getElem?_set]
      by_cases h2 : d.e = j
      · rw [if_pos h2, if_pos (by omega)]
        simp [h.now]; omega
      · rw [if_neg h2, ← List.getD_eq_getElem?_getD, hj j (by omega)]; omega
theorem vput_zero : vput 0 = [0] := by rw [vput_lt (by omega)]; rfl
theorem Rel.put {d : Di} {r : Rdi} {n : Nat} (h : Rel d r n) (k : ByteArray) : (r.put k).1 = (d.put k).1 ∧ ∃ m, m ≤ n + 1 ∧ Rel (d.put k).2 (r.put k).2 m := by
  unfold Di.put Rdi.put
  rw [h.at_]
  split
  · exact ⟨rfl, n, by omega, h⟩
  · split
    · exact ⟨rfl, n, by omega, h⟩
    · exact ⟨by rw [vput_zero], n + 1, by omega, h.comes (by omega) (by omega)⟩
theorem Rel.take {d : Di} {r : Rdi} {n : Nat} (h : Rel d r n) (b : List UInt8) : (r.take b).1 = (d.take b).1 ∧ ∃ m, m ≤ n + 1 ∧ Rel (d.take b).2 (r.take b).2 m := by
  unfold Di.take Rdi.take
  rcases hb : dkOf b with e | ⟨p, u⟩ | ⟨s, u⟩
  · exact ⟨rfl, n, by omega, h⟩
  · simp only [h.ks]; split <;> exact ⟨rfl, n, by omega, h⟩
  · simp only [h.at_]
    split
    · exact ⟨rfl, n, by omega, h⟩
    · exact ⟨rfl, n + 1, by omega, h.comes (by omega) (dkOf_text hb)⟩
theorem Rel.len {d : Di} {r : Rdi} {n : Nat} (h : Rel d r n) : r.ks.length ≤ 8 ∧ r.ws.length = r.ks.length ∧ 0 ≤ r.now := ⟨by rw [h.ks]; exact h.ok.len, by rw [h.wl, h.ks], by rw [h.now]; omega⟩
end
section
open Go Go.RowKit
set_option linter.unusedVariables false
set_option linter.unusedSimpArgs false
theorem dkOf_place {b : List UInt8} {p u : Nat} (h : dkOf b = .place p u) : 0 < p := by
  unfold dkOf at h
  split at h <;> try cases h
  split at h <;> try cases h
  · omega
  split at h <;> try cases h
  split at h <;> try cases h
  split at h <;> cases h
theorem dkOf_err {b : List UInt8} {e : Int} (h : dkOf b = .err e) : e ≠ 0 := by
  unfold dkOf at h
  split at h
  · rename_i h1; cases h; exact h1
  split at h <;> try cases h
  split at h
  · rename_i h1; cases h; exact h1
  split at h
  · cases h; decide
  split at h
  · cases h; decide
  · cases h
theorem Di.back {d : Di} (ok : d.Ok) (k : ByteArray) (r : List UInt8) (h : (d.put k).1.2 = 0) : d.take ((d.put k).1.1 ++ r) = ((k, ((d.put k).1.1.length : Int), 0), (d.put k).2) := by
  unfold Di.put at h ⊢
  split
  · rename_i h1; rw [if_pos h1] at h; simp at h
  · rename_i h1
    split
    · rename_i h2
      have hlt := ok.at8 k
      have hg := ok.get_at h2
      generalize hn : (d.at_ k).toNat = n at hg
      have hn1 : (d.at_ k + 1).toNat = n + 1 := by omega
      have hnl := get_lt hg
      have h8 := ok.len
      dsimp only
      rw [hn1]
      have htk := tk_nat (n + 1) (by omega) r
      have e1 : (UInt64.ofNat (n + 1)).toNat = n + 1 := by rw [UInt64.toNat_ofNat']; omega
      have hdk : dkOf (vput (n + 1) ++ r) = .place (n + 1) (vput (n + 1)).length := by
        unfold dkOf
        rw [htk]
        dsimp only
        rw [if_neg (by simp), e1, if_pos (by omega)]
      unfold Di.take
      rw [hdk]
      dsimp only
      rw [if_neg (by omega)]
      have : d.ks.getD (n + 1 - 1) ⟨#[]⟩ = k := by
        rw [Nat.add_sub_cancel, List.getD_eq_getElem?_getD, hg]; rfl
      rw [this]
    · rename_i h2
      dsimp only
      have hs : k.toList.length = k.size := by rw [ByteArray.toList_eq]; simp
      have h0 := tk_nat 0 (by decide) (vput k.size ++ k.toList ++ r)
      have h1' := tk_nat k.size (by omega) (k.toList ++ r)
      have hv0 : (vput 0).length = 1 := by rw [vput_zero]; rfl
      have e0 : vput 0 ++ vput k.size ++ k.toList ++ r = vput 0 ++ (vput k.size ++ k.toList ++ r) := by simp [List.append_assoc]
      have e1 : (vput 0 ++ (vput k.size ++ k.toList ++ r)).drop 1 = vput k.size ++ (k.toList ++ r) := by
        rw [← hv0, List.drop_left, List.append_assoc]
      have e2 : (UInt64.ofNat k.size).toNat = k.size := by rw [UInt64.toNat_ofNat']; omega
      have e3 : dkText (vput 0 ++ (vput k.size ++ k.toList ++ r)) (1 + (vput k.size).length) k.size = k := by
        unfold dkText
        have : (vput 0 ++ (vput k.size ++ k.toList ++ r)).drop (1 + (vput k.size).length) = k.toList ++ r := by
          rw [← List.drop_drop, e1, List.drop_left]
        rw [this, ← hs, List.take_left, ByteArray.toList_eq]
      have hdk : dkOf (vput 0 ++ (vput k.size ++ k.toList ++ r)) = .text k (1 + (vput k.size).length + k.size) := by
        unfold dkOf
        rw [h0, hv0]
        dsimp only
        rw [if_neg (by simp), if_neg (by simp), e1, h1']
        dsimp only
        rw [if_neg (by simp), e2, if_neg h1, if_neg (by simp [hv0, hs]; omega), e3]
      rw [e0]
      unfold Di.take
      rw [hdk]
      dsimp only
      rw [if_neg (by omega)]
      simp only [Prod.mk.injEq, true_and, and_true]
      simp [hv0, hs]
      omega
def dfold (d : Di) (ks : List ByteArray) : Di := ks.foldl (fun d k => (d.put k).2) d
end
end Go.Proofs.YtgfnpcmehnjopaaGreatDoor
end
section
namespace Go.Proofs.YtgfnpcmehnjopaaGreatDoor
open Go Go.RowKit
set_option linter.unusedVariables false
set_option linter.unusedSimpArgs false
def Wr.val (a : Wr) : List UInt8 := if a.g = true then [0] else vput (a.v.size + 1) ++ a.v.toList
theorem wrval_t (k v : ByteArray) : Wr.val ⟨k, v, true⟩ = [0] := rfl
theorem wrval_f (k v : ByteArray) : Wr.val ⟨k, v, false⟩ = vput (v.size + 1) ++ v.toList := rfl
def wputF {α : Type} (p : α → ByteArray → List UInt8 × α) (d : α) : List Wr → List UInt8 × α
  | [] => ([], d)
  | a :: l => ((p d a.k).1 ++ a.val ++ (wputF p (p d a.k).2 l).1, (wputF p (p d a.k).2 l).2)
def dpF (d : Di) (k : ByteArray) : List UInt8 × Di := ((d.put k).1.1, (d.put k).2)
def rpF (d : Rdi) (k : ByteArray) : List UInt8 × Rdi := ((d.put k).1.1, (d.put k).2)
def Tx.headF (c : Clk) (t : Tx) : List UInt8 := vput t.o.toNat ++ vput t.s.toNat ++ (cputF c t.c).1 ++ vput t.w.length
structure Cod (α : Type) where
  c : Clk
  d : α
def tputF {α : Type} (p : α → ByteArray → List UInt8 × α) (x : Cod α) (t : Tx) : (List UInt8 × Int) × Cod α :=
  if checkF t ≠ 0 then (([], checkF t), x) else ((t.headF x.c ++ (wputF p x.d t.w).1, 0), ⟨t.c, (wputF p x.d t.w).2⟩)
def numG (b : List UInt8) (used : Nat) (e : Int) (most : Nat) (above : Int) : Nat × Nat × Int :=
  if e ≠ 0 then (0, used, e) else ((tk (b.drop used)).1.toNat, used + (tk (b.drop used)).2.1, if (tk (b.drop used)).2.2 = 0 ∧ most < (tk (b.drop used)).1.toNat then above else (tk (b.drop used)).2.2)
def subT (b : List UInt8) (a n : Nat) : ByteArray := ⟨((b.drop a).take n).toArray⟩
def wtakeF {α : Type} (q : α → List UInt8 → Tk × α) (b : List UInt8) (used : Nat) (d : α) : (Wr × Nat × Int) × α :=
  let r := q d (b.drop used)
  let n := numG b (used + r.1.2.1.toNat) r.1.2.2 257 4
  if n.2.2 ≠ 0 ∨ n.1 = 0 then ((⟨r.1.1, ⟨#[]⟩, true⟩, n.2.1, n.2.2), r.2) else
  if b.length < n.2.1 + (n.1 - 1) then ((⟨r.1.1, ⟨#[]⟩, false⟩, n.2.1, 2), r.2) else
  ((⟨r.1.1, subT b n.2.1 (n.1 - 1), false⟩, n.2.1 + (n.1 - 1), 0), r.2)
def wstakeF {α : Type} (q : α → List UInt8 → Tk × α) (b : List UInt8) : Nat → Nat → Int → α → (List Wr × Nat × Int) × α
  | 0, used, e, d => (([], used, e), d)
  | n + 1, used, e, d => if e ≠ 0 then (([], used, e), d) else
    let r := wtakeF q b used d
    let s := wstakeF q b n r.1.2.1 r.1.2.2 r.2
    ((r.1.1 :: s.1.1, s.1.2.1, s.1.2.2), s.2)
def Tx.zero : Tx := ⟨0, 0, ⟨0, 0, 0⟩, []⟩
def ttakeF {α : Type} (q : α → List UInt8 → Tk × α) (x : Cod α) (b : List UInt8) : (Tx × Nat × Int) × Cod α :=
  let o := numG b 0 0 4611686018427387903 1
  let s := numG b o.2.1 o.2.2 4611686018427387903 1
  let c := if s.2.2 = 0 then ctakeF x.c (b.drop s.2.1) else (⟨0, 0, 0⟩, 0, s.2.2)
  let m := numG b (s.2.1 + c.2.1) c.2.2 16 4
  let w := wstakeF q b m.1 m.2.1 m.2.2 x.d
  let t : Tx := ⟨o.1, s.1, c.1, w.1.1⟩
  let e := if w.1.2.2 = 0 then checkF t else w.1.2.2
  if e ≠ 0 then ((Tx.zero, 0, e), x) else ((t, w.1.2.1, 0), ⟨c.1, w.2⟩)
end Go.Proofs.YtgfnpcmehnjopaaGreatDoor
end
section
namespace Go.Proofs.YtgfnpcmehnjopaaGreatDoor
open Go Go.RowKit
set_option linter.unusedVariables false
set_option linter.unusedSimpArgs false
variable {K : Nat → Obj → Prop}
theorem Di.take_of (d : Di) {b : List UInt8} {p q : UInt64} {u v : Nat} {e f : Int} (h1 : tk b = (p, u, e)) (h2 : tk (b.drop u) = (q, v, f)) :
    d.take b = if e ≠ 0 then ((⟨#[]⟩, (0 : Int), e), d) else if d.ks.length < p.toNat then ((⟨#[]⟩, 0, 9), d) else if p.toNat ≠ 0 then ((d.ks.getD (p.toNat - 1) ⟨#[]⟩, u, 0), d) else
      if f ≠ 0 then ((⟨#[]⟩, 0, f), d) else if 64 < q.toNat then ((⟨#[]⟩, 0, 4), d) else if b.length < u + v + q.toNat then ((⟨#[]⟩, 0, 2), d) else
      if 0 ≤ d.at_ (dkText b (u + v) q.toNat) then ((⟨#[]⟩, 0, 3), d) else ((dkText b (u + v) q.toNat, ((u + v + q.toNat : Nat) : Int), 0), d.comes (dkText b (u + v) q.toNat)) := by
  unfold Di.take dkOf
  simp only [h1, h2]
  by_cases c1 : e ≠ 0
  · rw [if_pos c1, if_pos c1]
  rw [if_neg c1, if_neg c1]
  by_cases c2 : p.toNat ≠ 0
  · rw [if_pos c2]
    by_cases c3 : d.ks.length < p.toNat
    · rw [if_pos c3]; exact if_pos c3
    · rw [if_neg c3, if_pos c2]; exact if_neg c3
  rw [if_neg c2, if_neg (show ¬ d.ks.length < p.toNat by omega), if_neg c2]
  by_cases c3 : f ≠ 0
  · rw [if_pos c3, if_pos c3]
  rw [if_neg c3, if_neg c3]
  by_cases c4 : 64 < q.toNat
  · rw [if_pos c4, if_pos c4]
  rw [if_neg c4, if_neg c4]
  by_cases c5 : b.length < u + v + q.toNat
  · rw [if_pos c5, if_pos c5]
  rw [if_neg c5, if_neg c5]
theorem getD_some {α : Type} {l : List α} {i : Nat} (h : i < l.length) (a : α) : l[i]? = some (l.getD i a) := by rw [List.getD_eq_getElem?_getD, List.getElem?_eq_getElem h]; rfl
set_option maxRecDepth 100000 in
set_option maxHeartbeats 2000000 in
theorem dtake4_s (d : Di) (b : List UInt8) (hl : b.length ≤ 1000000) (hs : Sta d.c d.l) (h8 : d.ks.length ≤ 8) (h9 : d.e < 8) : Sp Tryz.prog K 96 [.ptr 0 0, .sl 1 (bs b)] d.inn fun x hh => x = dtV (d.take b).1 ∧ hh = (d.take b).2.out := by
  obtain ⟨p, u, e, h1⟩ : ∃ p u e, tk b = (p, u, e) := ⟨_, _, _, rfl⟩
  have l1 := tk_le b
  rw [h1] at l1
  obtain ⟨q, v, f, h2⟩ : ∃ q v f, tk (b.drop u) = (q, v, f) := ⟨_, _, _, rfl⟩
  have l2 := tk_le (b.drop u)
  rw [h2, List.length_drop] at l2
  dsimp only at l1 l2
  rw [d.take_of h1 h2]
  have g1 : (⟨((b.take ((u : Int) + (v : Int) + (q.toNat : Int)).toNat).drop ((u : Int) + (v : Int)).toNat).toArray⟩ : ByteArray) = dkText b (u + v) q.toNat := by
    unfold dkText
    rw [show ((u : Int) + (v : Int) + (q.toNat : Int)).toNat = u + v + q.toNat by omega, show ((u : Int) + (v : Int)).toNat = u + v by omega, List.drop_take, show u + v + q.toNat - (u + v) = q.toNat by omega]
  have g2 : ((p.toNat : Int) - 1).toNat = p.toNat - 1 := by omega
  have g3 : p.toNat - 1 < d.ks.length → d.ks[p.toNat - 1]? = some (d.ks.getD (p.toNat - 1) ⟨#[]⟩) := fun h => getD_some h _
  have hq := UInt64.toNat_lt q
  have hp := UInt64.toNat_lt p
  refine Sp.of_bodyE Tryz.func96 rfl ?_
  intro Q hQ
  simp only [List.replicate, List.length_cons, List.length_nil, Tryz.ntmps96, Nat.reduceAdd, Nat.reduceSub, List.cons_append, List.nil_append, go_sem]
  have hz : True := trivial
  have hy := yieldedV_eq
  have hL := And.intro @bs_unbs (And.intro @g1 (And.intro @g2 (@g3)))
  repeat' (first | (refine WPV.seqK ?_; intro N hN) | refine gA ?_ | (refine gR (M := noM) ?_; intro N hN ops hy) | (refine gD (M := noM) ?_; intro N hN; have hy := yieldedV_eq) | (refine WPV.condK ?_; intro A hA B hB) | (refine here ?_; refine sS ?_) | refine Both.mk ?_ ?_ | ((with_reducible refine CallO.gd 24 ?_); first | refine CallO.toB Tryz.call24 (vtake_s h1 (by omega) _) ?_ | refine CallO.toB Tryz.call24 (vtake_s h2 (by simp only [List.length_drop]; omega) _) ?_) | ((with_reducible refine CallO.gd 91 ?_); refine CallO.frB [0, 1, 2] Tryz.call91 (dat_s d (dkText b (u + v) q.toNat)) ?_) | ((with_reducible refine CallO.gd 92 ?_); refine CallO.frB [0, 1, 2] Tryz.call92 (dcomes_s d (dkText b (u + v) q.toNat) hs h8 h9) ?_) | ((with_reducible refine CallP.gd 24 ?_); first | refine CallP.toB Tryz.call24 (vtake_s h1 (by omega) _) ?_ | refine CallP.toB Tryz.call24 (vtake_s h2 (by simp only [List.length_drop]; omega) _) ?_) | (refine hN _ ?_; try clear hN N; try clear hy ops) | (refine hA ?_; clear hA A hB B; try simp only [hz]) | (refine hB ?_; clear hA A hB B; try simp only [hz]) | (refine gG ?_ ?_ <;> (intro hz; have h := nm hz; try (exfalso; omega)) <;> (have hz := nz hz; try subst hz)) | (rw [if_pos (show _ ∧ _ from ⟨by omega, by omega⟩)]; refine sS ?_) | refine gT ?_ | (clear hN N))
  all_goals (try (first | exact retZ hQ Tryz.results96 (Desc.re [some 0, none, none, some 1, some 2] rfl) | exact retZN hQ Tryz.results96 (Desc.re [some 0, none, none, some 1, some 2] rfl)))
  all_goals (first | exact retZ hQ Tryz.results96 (Desc.re [some 0, none, none, some 3, some 4] rfl) | exact retZN hQ Tryz.results96 (Desc.re [some 0, none, none, some 3, some 4] rfl))
end Go.Proofs.YtgfnpcmehnjopaaGreatDoor
end
section
namespace Go.Proofs.YtgfnpcmehnjopaaGreatDoor
open Go Go.RowKit
set_option linter.unusedVariables false
set_option linter.unusedSimpArgs false
variable {K : Nat → Obj → Prop}
theorem dput_e {d d' : Di} {k : ByteArray} {r : List UInt8 × Int} (h : d.put k = (r, d')) (ok : d.Ok) : Sp Tryz.prog K 79 [.ptr 0 0, .sc (.string k)] d.inn fun u hh => u = dpV r ∧ hh = d'.out := by
  have := dput_s (K := K) d k ok.sta ok.len ok.e8 (ok.at8 k)
  rwa [h] at this
theorem Di.Ok.pe {d d' : Di} {k : ByteArray} {r : List UInt8 × Int} (ok : d.Ok) (h : d.put k = (r, d')) : d'.Ok := by
  have := ok.put k
  rwa [h] at this
end Go.Proofs.YtgfnpcmehnjopaaGreatDoor
end
