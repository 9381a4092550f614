/- A dictionary, as pure values: its keys, where each one is, which one is the eldest; and the objects that bear it. No program stands here. -/
import Derived.Test.YtonllhjmoenckaaVsZ
import Derived.Test.YtonllhjmoenckaaVsV
namespace Go.Proofs.Ytonllhjmoenckaa
section
open Go Go.RowKit
set_option linter.unusedVariables false
set_option linter.unusedSimpArgs false

/-- Texts as cells. -/
def kc (ks : List ByteArray) : List V := ks.map fun s => V.sc (.string s)
theorem kc_len (ks : List ByteArray) : (kc ks).length = ks.length := by simp [kc]
theorem kc_get (ks : List ByteArray) (i : Nat) : (kc ks)[i]? = (ks[i]?).map fun s => V.sc (.string s) := by simp [kc]
theorem kc_app (ks ls : List ByteArray) : kc ks ++ kc ls = kc (ks ++ ls) := by simp [kc]
theorem kc_take (ks : List ByteArray) (n : Nat) : (kc ks).take n = kc (ks.take n) := by simp [kc]
theorem kc_drop (ks : List ByteArray) (n : Nat) : (kc ks).drop n = kc (ks.drop n) := by simp [kc]
theorem kc_one (s : ByteArray) : [V.sc (.string s)] = kc [s] := rfl
theorem kc_snoc (ks : List ByteArray) (s : ByteArray) : kc ks ++ [V.sc (.string s)] = kc (ks ++ [s]) := by simp [kc]
theorem kc_nil : kc [] = [] := rfl
theorem kc_set (ks : List ByteArray) (k : ByteArray) (n : Nat) (h : n < ks.length) : ks.take n ++ [k] ++ ks.drop (n + 1) = ks.set n k := by
  rw [List.set_eq_take_append_cons_drop, if_pos h]; simp
theorem kc_mv (f : Nat → Option Nat) (ks : List ByteArray) : mvL f (kc ks) = kc ks := by
  rw [mvL_map]; simp [kc, mvV]
theorem kc_ren (g : Nat → Nat) (ks : List ByteArray) : renL g (kc ks) = kc ks := by
  rw [renL_map]; simp [kc, renV]

/-- Entries: stamp, key, place. -/
abbrev Pm := List (Nat × ByteArray × Int)
def pmE (l : Pm) : List ME := l.map fun e => ⟨e.1, .string e.2.1, V.sc (.int .i64 e.2.2)⟩
def pm (c : Nat) (l : Pm) : GM := ⟨c, pmE l⟩
def pget : Pm → ByteArray → Option Int
  | [], _ => none
  | e :: l, k => if (k == e.2.1) = true then some e.2.2 else pget l k
def pset (c : Nat) : Pm → ByteArray → Int → Pm
  | [], k, n => [(c, k, n)]
  | e :: l, k, n => if (k == e.2.1) = true then (e.1, k, n) :: l else e :: pset c l k n
def pdel : Pm → ByteArray → Pm
  | [], _ => []
  | e :: l, k => if (k == e.2.1) = true then l else e :: pdel l k
theorem pm_es (c : Nat) (l : Pm) : (pm c l).es = pmE l := rfl
theorem pm_ok (l : Pm) : keysOk .string (pmE l) = true := by simp [keysOk, pmE, keyOk]
theorem pmE_get (k : ByteArray) : ∀ l : Pm, mget (pmE l) (.string k) = (pget l k).map fun n => V.sc (.int .i64 n)
  | [] => rfl
  | e :: l => by
    show (if (k == e.2.1) = true then _ else mget (pmE l) (.string k)) = Option.map _ (if (k == e.2.1) = true then _ else _)
    rw [pmE_get k l]; split <;> rfl
theorem pm_get (c : Nat) (l : Pm) (k : ByteArray) : (pm c l).get (.string k) = (pget l k).map fun n => V.sc (.int .i64 n) := pmE_get k l
theorem pmE_set (c : Nat) (k : ByteArray) (n : Int) : ∀ l : Pm, mset c (pmE l) (.string k) (V.sc (.int .i64 n)) = pmE (pset c l k n)
  | [] => rfl
  | e :: l => by
    show (if (k == e.2.1) = true then _ else _ :: mset c (pmE l) (.string k) (V.sc (.int .i64 n))) = pmE (if (k == e.2.1) = true then _ else _)
    rw [pmE_set c k n l]; split <;> rfl
def pnext (c : Nat) (l : Pm) (k : ByteArray) : Nat := if (pget l k).isSome = true then c else c + 1
theorem pm_set (c : Nat) (l : Pm) (k : ByteArray) (n : Int) : (pm c l).set (.string k) (V.sc (.int .i64 n)) = pm (pnext c l k) (pset c l k n) := by
  unfold GM.set pm pnext
  simp only [pmE_get, pmE_set, Option.isSome_map]
theorem pmE_del (k : ByteArray) : ∀ l : Pm, mdel (pmE l) (.string k) = pmE (pdel l k)
  | [] => rfl
  | e :: l => by
    show (if (k == e.2.1) = true then _ else _ :: mdel (pmE l) (.string k)) = pmE (if (k == e.2.1) = true then _ else _)
    rw [pmE_del k l]; split <;> rfl
theorem pm_del (c : Nat) (l : Pm) (k : ByteArray) : (pm c l).del (.string k) = pm c (pdel l k) := by
  unfold GM.del pm
  simp only [pmE_del]
theorem pm_frz (o : Nat) (ds : List D) (c : Nat) (l : Pm) : (pm c l).mapV (frV o ds) = pm c l := by simp [GM.mapV, pm, pmE, frV, Function.comp_def]
theorem pm_new : (⟨0, []⟩ : GM) = pm 0 [] := rfl
/-- The stamps rise, and are below the next one. -/
def Sta (c : Nat) (l : Pm) : Prop := (l.map (·.1)).Pairwise (· < ·) ∧ ∀ e ∈ l, e.1 < c
theorem Sta.tl {c : Nat} {e : Nat × ByteArray × Int} {l : Pm} (h : Sta c (e :: l)) : Sta c l := ⟨(List.pairwise_cons.1 (by simpa using h.1)).2, fun x hx => h.2 x (by simp [hx])⟩
theorem ent_store (c : Nat) (k : ByteArray) (z : V) (n : Int) : ∀ l : Pm, Sta c l → mstore (ment c z (pmE l) (.string k)).2.2 (ment c z (pmE l) (.string k)).2.1 (V.sc (.int .i64 n)) = some (pmE (pset c l k n))
  | [], _ => by simp [pmE, ment, mstore, pset]
  | e :: l, h => by
    have ih := ent_store c k z n l h.tl
    have e1 : pmE (e :: l) = ⟨e.1, .string e.2.1, V.sc (.int .i64 e.2.2)⟩ :: pmE l := rfl
    rw [e1]
    cases hk : k == e.2.1 with
    | true => simp [ment, keyEq, pset, hk, mstore, pmE]
    | false =>
      simp only [ment, keyEq, pset, hk, Bool.false_eq_true, if_false]
      have hb : (ment c z (pmE l) (.string k)).2.1 ≠ e.1 := by
        have : ∀ l : Pm, (∀ x ∈ l, e.1 < x.1) → e.1 < c → e.1 < (ment c z (pmE l) (.string k)).2.1 := fun l => by
          induction l with
          | nil => intro _ h; exact h
          | cons x l ihl =>
            intro h1 h2
            show e.1 < (ment c z (⟨x.1, .string x.2.1, V.sc (.int .i64 x.2.2)⟩ :: pmE l) (.string k)).2.1
            cases hx : k == x.2.1 with
            | true => simp only [ment, keyEq, hx, if_true]; exact h1 x (by simp)
            | false => simp only [ment, keyEq, hx, Bool.false_eq_true, if_false]; exact ihl (fun y hy => h1 y (by simp [hy])) h2
        have := this l (fun x hx => by
          have h1 := (List.pairwise_cons.1 (show ((e.1 :: l.map (·.1)).Pairwise (· < ·)) by simpa using h.1)).1
          exact h1 x.1 (List.mem_map.2 ⟨x, hx, rfl⟩)) (h.2 e (by simp))
        omega
      generalize ment c z (pmE l) (.string k) = q at ih hb ⊢
      obtain ⟨v, b, es⟩ := q
      simp only [mstore] at ih hb ⊢
      rw [if_neg (fun h => hb h.symm), ih]
      rfl
theorem pm_ent {c : Nat} {l : Pm} (h : Sta c l) (k : ByteArray) (z : V) (n : Int) : ((pm c l).ent z (.string k)).2.2.store ((pm c l).ent z (.string k)).2.1 (V.sc (.int .i64 n)) = some (pm (pnext c l k) (pset c l k n)) := by
  unfold GM.store GM.ent pm pnext
  simp only [pmE_get, Option.isSome_map, ent_store c k z n l h, Option.map_some]
theorem pset_fst (c : Nat) (k : ByteArray) (n : Int) : ∀ l : Pm, (pset c l k n).map (·.1) = if (pget l k).isSome = true then l.map (·.1) else l.map (·.1) ++ [c]
  | [] => rfl
  | e :: l => by
    have ih := pset_fst c k n l
    cases hk : k == e.2.1 with
    | true => simp [pset, pget, hk]
    | false =>
      simp only [pset, pget, hk, Bool.false_eq_true, if_false, List.map_cons, ih]
      split <;> simp
theorem Sta.set {c : Nat} {l : Pm} (h : Sta c l) (k : ByteArray) (n : Int) : Sta (pnext c l k) (pset c l k n) := by
  have e := pset_fst c k n l
  unfold Sta pnext
  have h2 : ∀ x ∈ l.map (·.1), x < c := fun x hx => by obtain ⟨y, hy, rfl⟩ := List.mem_map.1 hx; exact h.2 y hy
  rw [e]
  split
  · rename_i hh
    rw [if_pos hh] at e
    exact ⟨h.1, fun y hy => h2 y.1 (by rw [← e]; exact List.mem_map.2 ⟨y, hy, rfl⟩)⟩
  · rename_i hh
    rw [if_neg hh] at e
    refine ⟨List.pairwise_append.2 ⟨h.1, by simp, fun a ha b hb => by simp at hb; subst hb; exact h2 a ha⟩, fun y hy => ?_⟩
    have : y.1 ∈ l.map (·.1) ++ [c] := by rw [← e]; exact List.mem_map.2 ⟨y, hy, rfl⟩
    rcases List.mem_append.1 this with h3 | h3
    · have := h2 _ h3; omega
    · simp at h3; omega
theorem pdel_sub (k : ByteArray) : ∀ l : Pm, (pdel l k).Sublist l
  | [] => List.Sublist.refl _
  | e :: l => by
    simp only [pdel]
    split
    · exact List.sublist_cons_self _ _
    · exact (pdel_sub k l).cons_cons _
theorem Sta.del {c : Nat} {l : Pm} (h : Sta c l) (k : ByteArray) : Sta c (pdel l k) :=
  ⟨h.1.sublist ((pdel_sub k l).map _), fun x hx => h.2 x ((pdel_sub k l).subset hx)⟩

/-- A dictionary. -/
structure Di where
  ks : List ByteArray
  c : Nat
  l : Pm
  e : Nat
/-- The objects that bear it: as it comes in, and behind a change. -/
def Di.inn (d : Di) : List Ho := [.cells [.hs true 1 1 0 d.ks.length, .mp 2, .sc (.int .i64 (d.e : Int))], .cells (kc d.ks), .map (pm d.c d.l)]
def Di.out (d : Di) : List Ho := [.cells [.hs true 1 3 0 d.ks.length, .mp 4, .sc (.int .i64 (d.e : Int))], .dead, .dead, .cells (kc d.ks), .map (pm d.c d.l)]
def Di.new : Di := ⟨[], 0, [], 0⟩
def Di.at_ (d : Di) (k : ByteArray) : Int := (pget d.l k).getD (-1)
def Di.comes (d : Di) (k : ByteArray) : Di :=
  if d.ks.length < 8 then ⟨d.ks ++ [k], pnext d.c d.l k, pset d.c d.l k d.ks.length, d.e⟩
  else ⟨d.ks.set d.e k, pnext d.c (pdel d.l (d.ks.getD d.e ⟨#[]⟩)) k, pset d.c (pdel d.l (d.ks.getD d.e ⟨#[]⟩)) k d.e, (d.e + 1) % 8⟩
theorem pm_mv (f : Nat → Option Nat) (c : Nat) (l : Pm) : (pm c l).mapV (mvV f) = pm c l := by simp [GM.mapV, pm, pmE, mvV, Function.comp_def]
theorem pm_ren (g : Nat → Nat) (c : Nat) (l : Pm) : (pm c l).mapV (renV g) = pm c l := by simp [GM.mapV, pm, pmE, renV, Function.comp_def]
attribute [go_sem] Di.inn Di.out pm_frz pm_mv pm_ren kc_len kc_get kc_app kc_snoc kc_take kc_drop kc_mv kc_ren pm_es pm_ok pm_get pm_set pm_del
end

section
open Go Go.RowKit
set_option linter.unusedVariables false
set_option linter.unusedSimpArgs false
variable {K : Nat → Obj → Prop}

set_option maxRecDepth 100000 in
set_option maxHeartbeats 4000000 in
theorem dat_s (d : Di) (key : ByteArray) : Sp Try.prog K 43 [.ptr 0 0, .sc (.string key)] d.inn fun u hh => u = .sc (.int .i64 (d.at_ key)) ∧ hh = d.inn := by
  refine Sp.of_body Try.func43 rfl ?_
  intro Q hQ
  simp only [List.replicate, List.length_cons, List.length_nil, Try.ntmps43, Nat.reduceAdd, Nat.reduceSub, List.cons_append, List.nil_append, Di.inn]
  unfold Di.at_ at hQ
  rcases hg : pget d.l key with _ | n
  · rw [hg] at hQ
    have hz : True := trivial
    have hy := yieldedV_eq
    have hL := @hg
    repeat' (first | (refine WPV.seqK ?_; intro N hN) | refine WPV.block ?_ | refine WPV.scope ?_ | refine WPV.skip ?_ | refine WPV.label ?_ | refine WPV.exit ?_ | refine WPV.ret ?_ | (refine WPV.regionG (M := noM) ?_; intro N hN ops hy; (try simp only [List.append] at hy ⊢); (try simp only [List.map_cons, List.map_nil] at hy)) | (refine WPV.drawK (M := noM) (by kernel_rfl) (by kernel_rfl) ?_; intro N hN; have hy := yieldedV_eq) | (refine WPV.condK ?_; intro A hA B hB) | (refine here ?_; refine sM ?_) | (refine And.intro (by kernel_rfl : okOrd _ _ = true) ?_) | refine Both.mk ?_ ?_ | (refine hN _ ?_; try clear hN N; try clear hy ops) | (refine hA ?_; clear hA A hB B; try simp only [hz]) | (refine hB ?_; clear hA A hB B; try simp only [hz]) | ((first | refine guardO.mk ?_ ?_ | refine guardD.mk ?_ ?_ | refine Br.mk ?_ ?_) <;> (intro hz; have h := nm hz; try (exfalso; omega)) <;> (have hz := nz hz)) | ((first | rw [if_pos (show _ ∧ _ from ⟨by omega, by omega⟩)] | rw [if_pos (show _ ∧ _ from by simp only [List.length_append, List.length_cons, List.length_nil]; exact ⟨by omega, by omega⟩)]); refine sM ?_) | (simp only [thenV, blockV, if_true, if_false, Nat.reduceEqDiff, reduceCtorEq, imp_self]) | (clear hN N))
    all_goals (apply And.right; apply hQ; (first | (simp only [go_sem, reduceCtorEq, Nat.reduceAdd, Nat.reduceSub, Nat.reduceMul, Nat.reduceLT, Nat.reduceLeDiff, Int.reduceLT, Int.reduceLE, Int.reduceEq, Int.reduceNe, Int.reduceAdd, Int.reduceSub, Int.reduceMul, Int.reduceToNat, Int.reduceNeg, Int.reducePow, Nat.reducePow, Nat.reduceEqDiff, Nat.reduceBEq, Int.reduceBEq, Int.reduceBNe, Int.reduceNegSucc, Try.results43]; done) | (simp only [go_sem, reduceCtorEq, Nat.reduceAdd, Nat.reduceSub, Nat.reduceMul, Nat.reduceLT, Nat.reduceLeDiff, Int.reduceLT, Int.reduceLE, Int.reduceEq, Int.reduceNe, Int.reduceAdd, Int.reduceSub, Int.reduceMul, Int.reduceToNat, Int.reduceNeg, Int.reducePow, Nat.reducePow, Nat.reduceEqDiff, Nat.reduceBEq, Int.reduceBEq, Int.reduceBNe, Int.reduceNegSucc, Try.results43]; rfl) | rfl))
    all_goals exact ⟨rfl, rfl⟩
  · rw [hg] at hQ
    have hz : True := trivial
    have hy := yieldedV_eq
    have hL := @hg
    repeat' (first | (refine WPV.seqK ?_; intro N hN) | refine WPV.block ?_ | refine WPV.scope ?_ | refine WPV.skip ?_ | refine WPV.label ?_ | refine WPV.exit ?_ | refine WPV.ret ?_ | (refine WPV.regionG (M := noM) ?_; intro N hN ops hy; (try simp only [List.append] at hy ⊢); (try simp only [List.map_cons, List.map_nil] at hy)) | (refine WPV.drawK (M := noM) (by kernel_rfl) (by kernel_rfl) ?_; intro N hN; have hy := yieldedV_eq) | (refine WPV.condK ?_; intro A hA B hB) | (refine here ?_; refine sM ?_) | (refine And.intro (by kernel_rfl : okOrd _ _ = true) ?_) | refine Both.mk ?_ ?_ | (refine hN _ ?_; try clear hN N; try clear hy ops) | (refine hA ?_; clear hA A hB B; try simp only [hz]) | (refine hB ?_; clear hA A hB B; try simp only [hz]) | ((first | refine guardO.mk ?_ ?_ | refine guardD.mk ?_ ?_ | refine Br.mk ?_ ?_) <;> (intro hz; have h := nm hz; try (exfalso; omega)) <;> (have hz := nz hz)) | ((first | rw [if_pos (show _ ∧ _ from ⟨by omega, by omega⟩)] | rw [if_pos (show _ ∧ _ from by simp only [List.length_append, List.length_cons, List.length_nil]; exact ⟨by omega, by omega⟩)]); refine sM ?_) | (simp only [thenV, blockV, if_true, if_false, Nat.reduceEqDiff, reduceCtorEq, imp_self]) | (clear hN N))
    all_goals (apply And.right; apply hQ; (first | (simp only [go_sem, reduceCtorEq, Nat.reduceAdd, Nat.reduceSub, Nat.reduceMul, Nat.reduceLT, Nat.reduceLeDiff, Int.reduceLT, Int.reduceLE, Int.reduceEq, Int.reduceNe, Int.reduceAdd, Int.reduceSub, Int.reduceMul, Int.reduceToNat, Int.reduceNeg, Int.reducePow, Nat.reducePow, Nat.reduceEqDiff, Nat.reduceBEq, Int.reduceBEq, Int.reduceBNe, Int.reduceNegSucc, Try.results43]; done) | (simp only [go_sem, reduceCtorEq, Nat.reduceAdd, Nat.reduceSub, Nat.reduceMul, Nat.reduceLT, Nat.reduceLeDiff, Int.reduceLT, Int.reduceLE, Int.reduceEq, Int.reduceNe, Int.reduceAdd, Int.reduceSub, Int.reduceMul, Int.reduceToNat, Int.reduceNeg, Int.reducePow, Nat.reducePow, Nat.reduceEqDiff, Nat.reduceBEq, Int.reduceBEq, Int.reduceBNe, Int.reduceNegSucc, Try.results43]; rfl) | rfl))
    all_goals exact ⟨rfl, rfl⟩

set_option maxRecDepth 100000 in
set_option maxHeartbeats 4000000 in
theorem dcomes_s (d : Di) (key : ByteArray) (hs : Sta d.c d.l) (h8 : d.ks.length ≤ 8) (he : d.e < 8) : Sp Try.prog K 81 [.ptr 0 0, .sc (.string key)] d.inn fun u hh => u = .undef ∧ hh = (d.comes key).out := by
  refine Sp.of_bodyD Try.func81 rfl ?_
  intro Q hQ
  simp only [List.replicate, List.length_cons, List.length_nil, Try.ntmps81, Nat.reduceAdd, Nat.reduceSub, List.cons_append, List.nil_append, Di.inn] at hQ ⊢
  by_cases h : d.ks.length < 8
  · unfold Di.comes at hQ
    rw [if_pos h] at hQ
    have hlt : True := trivial
    have hst : True := trivial
    have hw : True := trivial
    have hrem : True := trivial
    have hget : True := trivial
    have hent : True := trivial
    have hlen : ((d.ks.length : Int) < 8) = True := by simp; omega
    have hb1 : ((d.ks.length + 1) * 16 ≤ 70368744177664) = True := by simp; omega
    have hb2 : (d.ks.length ≤ 70368744177663) = True := by simp; omega
    have hz : True := trivial
    have hy := yieldedV_eq
    have hL := And.intro @hlen (And.intro @hlt (And.intro @hget (And.intro @hb1 (And.intro @hb2 (And.intro @hent (And.intro @hst (And.intro @hw (@hrem))))))))
    repeat' (first | (refine WPV.seqK ?_; intro N hN) | refine WPV.block ?_ | refine WPV.scope ?_ | refine WPV.skip ?_ | refine WPV.label ?_ | refine WPV.exit ?_ | refine WPV.ret ?_ | (refine WPV.regionG (M := inM [58]) ?_; intro N hN ops hy; (try simp only [List.append] at hy ⊢); (try simp only [List.map_cons, List.map_nil] at hy)) | (refine WPV.drawK (M := inM [58]) (by kernel_rfl) (by kernel_rfl) ?_; intro N hN; have hy := yieldedV_eq) | (refine WPV.condK ?_; intro A hA B hB) | (refine here ?_; refine sM ?_) | (refine And.intro (by kernel_rfl : okOrd _ _ = true) ?_) | refine Both.mk ?_ ?_ | (refine hN _ ?_; try clear hN N; try clear hy ops) | (refine hA ?_; clear hA A hB B; try simp only [hz]) | (refine hB ?_; clear hA A hB B; try simp only [hz]) | ((first | refine guardO.mk ?_ ?_ | refine guardD.mk ?_ ?_ | refine Br.mk ?_ ?_) <;> (intro hz; have h := nm hz; try (exfalso; omega)) <;> (have hz := nz hz)) | ((first | rw [if_pos (show _ ∧ _ from ⟨by omega, by omega⟩)] | rw [if_pos (show _ ∧ _ from by simp only [List.length_append, List.length_cons, List.length_nil]; exact ⟨by omega, by omega⟩)]); refine sM ?_) | (simp only [thenV, blockV, if_true, if_false, Nat.reduceEqDiff, reduceCtorEq, imp_self]) | (clear hN N))
    all_goals (apply And.right; refine hQ _ _ .undef (Desc.re [some 0, none, none, some 4, some 2] rfl) ?_ ?_)
    · simp only [go_sem, reduceCtorEq, Nat.reduceAdd, Nat.reduceSub, Nat.reduceMul, Nat.reduceLT, Nat.reduceLeDiff, Int.reduceLT, Int.reduceLE, Int.reduceEq, Int.reduceNe, Int.reduceAdd, Int.reduceSub, Int.reduceMul, Int.reduceToNat, Int.reduceNeg, Int.reducePow, Nat.reducePow, Nat.reduceEqDiff, Nat.reduceBEq, Int.reduceBEq, Int.reduceBNe, Int.reduceNegSucc, Try.results81]
    · simp only [go_sem, reduceCtorEq, Nat.reduceAdd, Nat.reduceSub, Nat.reduceMul, Nat.reduceLT, Nat.reduceLeDiff, Int.reduceLT, Int.reduceLE, Int.reduceEq, Int.reduceNe, Int.reduceAdd, Int.reduceSub, Int.reduceMul, Int.reduceToNat, Int.reduceNeg, Int.reducePow, Nat.reducePow, Nat.reduceEqDiff, Nat.reduceBEq, Int.reduceBEq, Int.reduceBNe, Int.reduceNegSucc, Di.out, List.length_append]
  · obtain ⟨n, hn⟩ : ∃ n, n = d.ks.length := ⟨_, rfl⟩
    have hd : (d.ks.length : Int) = 8 := by omega
    have hgk : d.ks[d.e]? = some (d.ks.getD d.e ⟨#[]⟩) := by rw [List.getD_eq_getElem?_getD, List.getElem?_eq_getElem (by omega)]; rfl
    unfold Di.comes at hQ
    rw [if_neg h] at hQ
    generalize d.ks.getD d.e ⟨#[]⟩ = old at hgk hQ
    have hlen : ((d.ks.length : Int) < 8) = False := by simp; omega
    have hlt : ((d.e : Int) < (d.ks.length : Int)) = True := by simp; omega
    have hget : d.ks[d.e]? = some old := hgk
    have hent := fun z n => pm_ent (hs.del old) key z n
    have hb1 : True := trivial
    have hb2 : True := trivial
    have hst : (d.e + 1 ≤ d.ks.length) = True := by simp; omega
    have hw : IntKind.i64.wrap ((d.e : Int) + 1) = (d.e : Int) + 1 := wr_i64 (by omega) (by omega)
    have hrem : ((d.e : Int) + 1).tmod 8 = (((d.e + 1) % 8 : Nat) : Int) := by rw [Int.tmod_eq_emod_of_nonneg (by omega)]; omega
    have hz : True := trivial
    have hy := yieldedV_eq
    have hL := And.intro @hlen (And.intro @hlt (And.intro @hget (And.intro @hb1 (And.intro @hb2 (And.intro @hent (And.intro @hst (And.intro @hw (@hrem))))))))
    repeat' (first | (refine WPV.seqK ?_; intro N hN) | refine WPV.block ?_ | refine WPV.scope ?_ | refine WPV.skip ?_ | refine WPV.label ?_ | refine WPV.exit ?_ | refine WPV.ret ?_ | (refine WPV.regionG (M := inM [58]) ?_; intro N hN ops hy; (try simp only [List.append] at hy ⊢); (try simp only [List.map_cons, List.map_nil] at hy)) | (refine WPV.drawK (M := inM [58]) (by kernel_rfl) (by kernel_rfl) ?_; intro N hN; have hy := yieldedV_eq) | (refine WPV.condK ?_; intro A hA B hB) | (refine here ?_; refine sM ?_) | (refine And.intro (by kernel_rfl : okOrd _ _ = true) ?_) | refine Both.mk ?_ ?_ | (refine hN _ ?_; try clear hN N; try clear hy ops) | (refine hA ?_; clear hA A hB B; try simp only [hz]) | (refine hB ?_; clear hA A hB B; try simp only [hz]) | ((first | refine guardO.mk ?_ ?_ | refine guardD.mk ?_ ?_ | refine Br.mk ?_ ?_) <;> (intro hz; have h := nm hz; try (exfalso; omega)) <;> (have hz := nz hz)) | ((first | rw [if_pos (show _ ∧ _ from ⟨by omega, by omega⟩)] | rw [if_pos (show _ ∧ _ from by simp only [List.length_append, List.length_cons, List.length_nil]; exact ⟨by omega, by omega⟩)]); refine sM ?_) | (simp only [thenV, blockV, if_true, if_false, Nat.reduceEqDiff, reduceCtorEq, imp_self]) | (clear hN N))
    all_goals (apply And.left; refine hQ _ _ .undef (Desc.re [some 0, none, none, some 1, some 2] rfl) ?_ ?_)
    · simp only [go_sem, reduceCtorEq, Nat.reduceAdd, Nat.reduceSub, Nat.reduceMul, Nat.reduceLT, Nat.reduceLeDiff, Int.reduceLT, Int.reduceLE, Int.reduceEq, Int.reduceNe, Int.reduceAdd, Int.reduceSub, Int.reduceMul, Int.reduceToNat, Int.reduceNeg, Int.reducePow, Nat.reducePow, Nat.reduceEqDiff, Nat.reduceBEq, Int.reduceBEq, Int.reduceBNe, Int.reduceNegSucc, Try.results81]
    · simp only [go_sem, reduceCtorEq, Nat.reduceAdd, Nat.reduceSub, Nat.reduceMul, Nat.reduceLT, Nat.reduceLeDiff, Int.reduceLT, Int.reduceLE, Int.reduceEq, Int.reduceNe, Int.reduceAdd, Int.reduceSub, Int.reduceMul, Int.reduceToNat, Int.reduceNeg, Int.reducePow, Nat.reducePow, Nat.reduceEqDiff, Nat.reduceBEq, Int.reduceBEq, Int.reduceBNe, Int.reduceNegSucc, Di.out, List.length_append, kc_set _ _ _ (show d.e < d.ks.length by omega), List.length_set]
end
end Go.Proofs.Ytonllhjmoenckaa
