/- The rules by which a walk over values is simplified. No program stands here. -/
import Derived.Test.YtonllhjmoenckaaVsW
import Derived.Test.YtonllhjmoenckaaVsO
namespace Go.Proofs.Ytonllhjmoenckaa
open Go Go.RowKit
/-- Which function is called? (So that no contract of another one is tried.) -/
theorem CallO.gd {P : Program} {M : Oper → TypeId → Bool} {K : Nat → Obj → Prop} {ops : Array Oper} {N : Sv → Prop} {l : List Oper} (f : FuncId) {vs : List V} {st : Sv} {dst : Option Tmp} (h : CallO P M K ops N l f vs st dst) : CallO P M K ops N l f vs st dst := h
theorem CallP.gd {P : Program} {M : Oper → TypeId → Bool} {K : Nat → Obj → Prop} {ops : Array Oper} {N : Sv → Prop} {l : List Oper} {tm : List V} {h : List Ho} {ids : List (List Nat × List Nat)} {dst : Option Tmp} (f : FuncId) {vs : List V} (hh : CallP P M K ops N l tm h ids dst f vs) : CallP P M K ops N l tm h ids dst f vs := hh
/-! So that the rewriter looks at what is wanted alone. -/
section
variable {P : Program} {M : Oper → TypeId → Bool} {K : Nat → Obj → Prop} {ops : Array Oper} {N : Sv → Prop} {l : List Oper} {o : Oper} {n0 : Nat}
@[congr] theorem opsV_cg {st st' : Sv} (h : st = st') : opsV P M K ops N l st = opsV P M K ops N l st' := by rw [h]
@[congr] theorem guardO_cg {st st' : Sv} {b b' : Option Bool} (h : st = st') (hb : b = b') : guardO P M K ops N l o st b = guardO P M K ops N l o st' b' := by rw [h, hb]
@[congr] theorem resO_cg {st st' : Sv} {d d' : Option Tmp} {r r' : Res} (h : st = st') (hd : d = d') (hr : r = r') : resO P M K ops N l st d r = resO P M K ops N l st' d' r' := by rw [h, hd, hr]
@[congr] theorem CallO_cg {f : FuncId} {vs vs' : List V} {st st' : Sv} {d d' : Option Tmp} (hv : vs = vs') (h : st = st') (hd : d = d') : CallO P M K ops N l f vs st d = CallO P M K ops N l f vs' st' d' := by rw [hv, h, hd]
theorem guardO.here {st : Sv} {b : Option Bool} (h : guardO P M K ops N l o st b) : guardO P M K ops N l o st b := h
theorem guardD.here {tm : List V} {hp : List Ho} {ids : List (List Nat × List Nat)} {b : Option Bool} (h : guardD P M K ops N l o tm hp ids b) : guardD P M K ops N l o tm hp ids b := h
/-- Which slot does an operation fill? -/
def yieldL (D : List (Option Tmp)) (tm : List V) (j : Nat) : Option (Option Bool) := match D[j]? with
  | some (some t) => match tm[t]? with
    | some (.d (.sc (.bool b))) => some (some b)
    | some (.tup []) => some none
    | _ => none
  | _ => some none
theorem yieldL_eq (L : List Oper) (tm : List V) (j : Nat) : yieldedV L.toArray tm j = yieldL (L.map (·.dst)) tm j := by
  unfold yieldedV yieldL
  simp only [List.getElem?_toArray, List.getElem?_map]
  cases L[j]? with
  | none => rfl
  | some o => simp only [Option.bind_some, Option.map_some]; cases o.dst <;> rfl
theorem WPV.regionG {id : Nat} {L : List Oper} {Q : Exit → Sv → Prop} {st : Sv} (h : ∀ N : Sv → Prop, (∀ st, Q .normal st → N st) → ∀ ops : Array Oper, (∀ tm j, yieldedV ops tm j = yieldL (L.map (·.dst)) tm j) → opsV P M K ops N L st) : WPV P K n0 (.region id L.toArray false) Q st :=
  WPV.regionK (M := M) fun N hN => h N hN L.toArray (yieldL_eq L)
end
/-! Eight cells at a step. -/
theorem get_8 {α : Type} (a b c d e f g h : α) (l : List α) (n : Nat) : (a :: b :: c :: d :: e :: f :: g :: h :: l)[n + 8]? = l[n]? := rfl
theorem get_32 {α : Type} (a b c d e f g h a1 b1 c1 d1 e1 f1 g1 h1 a2 b2 c2 d2 e2 f2 g2 h2 a3 b3 c3 d3 e3 f3 g3 h3 : α) (l : List α) (n : Nat) : (a :: b :: c :: d :: e :: f :: g :: h :: a1 :: b1 :: c1 :: d1 :: e1 :: f1 :: g1 :: h1 :: a2 :: b2 :: c2 :: d2 :: e2 :: f2 :: g2 :: h2 :: a3 :: b3 :: c3 :: d3 :: e3 :: f3 :: g3 :: h3 :: l)[n + 32]? = l[n]? := rfl
theorem set_8 {α : Type} (a b c d e f g h v : α) (l : List α) (n : Nat) : (a :: b :: c :: d :: e :: f :: g :: h :: l).set (n + 8) v = a :: b :: c :: d :: e :: f :: g :: h :: l.set n v := rfl
theorem set_32 {α : Type} (a b c d e f g h a1 b1 c1 d1 e1 f1 g1 h1 a2 b2 c2 d2 e2 f2 g2 h2 a3 b3 c3 d3 e3 f3 g3 h3 v : α) (l : List α) (n : Nat) : (a :: b :: c :: d :: e :: f :: g :: h :: a1 :: b1 :: c1 :: d1 :: e1 :: f1 :: g1 :: h1 :: a2 :: b2 :: c2 :: d2 :: e2 :: f2 :: g2 :: h2 :: a3 :: b3 :: c3 :: d3 :: e3 :: f3 :: g3 :: h3 :: l).set (n + 32) v = a :: b :: c :: d :: e :: f :: g :: h :: a1 :: b1 :: c1 :: d1 :: e1 :: f1 :: g1 :: h1 :: a2 :: b2 :: c2 :: d2 :: e2 :: f2 :: g2 :: h2 :: a3 :: b3 :: c3 :: d3 :: e3 :: f3 :: g3 :: h3 :: l.set n v := rfl
attribute [go_sem 3000] get_32 set_32
attribute [go_sem 2000] get_8 set_8
attribute [go_sem] frs_0 frs_1 frs_2 frs_3 frs_4 gB wrs padY List.zip_cons_cons List.zip_nil_left List.nodup_cons List.nodup_nil frV frL frO opsV_nil opsV_cons guardO_true guardO_false guardD_true guardD_false resO_val resO_call resO_no wantedV yieldL Option.some.injEq
  exists_eq_left' forall_const false_imp_iff and_true true_and true_imp_iff opV evV evArgs evParts evOpt constV
  flat cellsV isOne List.all_cons List.all_nil Bool.and_self Bool.true_and Bool.and_true if_true if_false List.getElem?_cons_zero List.getElem?_cons_succ
  List.getElem?_nil resOf putV List.set_cons_zero List.set_cons_succ List.set_nil thenV blockV loadV storeV List.drop_succ_cons List.drop_zero
  List.take_succ_cons List.take_zero List.drop_nil List.take_nil Nat.zero_add Nat.add_zero Nat.le_refl binV scBin intBin strBin Option.map_some
  Option.map_none unV indexV indexAtV intOfV sliceV boundOf esOf lenV convV callV appendV
  srcOf buildSliceV partsEs toDs toD fillV placeOf partV eqV eqInts eqSteps eqStep resultV resultsV
  decide_true decide_false decide_not Bool.not_true Bool.not_false List.length_cons List.length_nil List.cons_append List.nil_append List.append_nil List.replicate_succ List.replicate_zero
  List.replicate Option.bind_some Option.bind_none beq_self_eq_true Nat.lt_irrefl false_and and_false or_false false_or or_true true_or exists_const
  exists_false not_true_eq_false not_false_eq_true Bool.false_eq_true Option.isSome_some Option.isSome_none exists_eq_left ne_eq Bool.not_eq_true Bool.true_eq_false Bool.false_and Bool.and_false
  Bool.or_self Bool.or_true Bool.or_false Bool.true_or Bool.false_or eq_self List.mem_cons List.not_mem_nil List.map_cons List.map_nil Array.size List.size_toArray
  List.getElem?_toArray List.all_toArray Bool.not_not gt_iff_lt ge_iff_le Int.cast_ofNat_Int V.d.injEq D.sc.injEq Value.bool.injEq Option.some_beq_some beq_true beq_false
  Bool.not_eq_true' decide_eq_true_eq decide_eq_false_iff_not Int.not_lt Int.not_le brO_some condV_bool condV_ub nilCmp List.isEmpty_nil List.isEmpty_cons  oneH resH mapEntryV entryStoreV atMap Br_true Br_false Br_not boolV Option.map wr_i64
  wr_u64 wr_u32 wr_u8 Int.toNat_one Int.toNat_zero Nat.one_mul Nat.mul_one Nat.zero_mul Nat.mul_zero trimY drawV_nil drawV_cons
  stepO_pure stepO_read stepO_write stepO_new stepO_app stepO_call stepO_no readO writeO appO opL pureL
  bs_len bs_app bs_take bs_drop Int.toNat_natCast appBound Nat.zero_le Int.natCast_nonneg Int.le_refl cells_int cells_bool cells_string
  cells_slice cells_agg all_lit List.take_length Int.zero_add Int.add_zero makeSliceV zeros_u8 zb_len cutH buildSliceH makeSliceH
  srcH appendH copyV keyOk lookupV mapUpdateV deleteV mapOf zeroV1 isMapT isSliceT mvV
  mvL mvO posOf reH renV renL renO gOf mergeH setAll pickH noM_eq
  inM_nil inM_cons flatD_nil flatD_cons Option.getD_some List.flatten_cons List.flatten_nil Option.isNone_none Option.isNone_some Bool.and_eq_true Bool.or_eq_true
/-- What the walker rewrites: the goal's head is one of these. -/
structure HdT (p : Prop) : Type where
  u : Unit
section
variable {P : Program} {M : Oper → TypeId → Bool} {K : Nat → Obj → Prop} {ops : Array Oper} {N : Sv → Prop} {l : List Oper} {o : Oper} {st : Sv} {tm : List V} {h : List Ho} {ids : List (List Nat × List Nat)} {dst : Option Tmp} {r : Res} {q : Lr} {b : Option Bool} {A B : Prop} {c : Option V}
instance : Nonempty (HdT (opsV P M K ops N l st)) := ⟨⟨()⟩⟩
instance : Nonempty (HdT (guardO P M K ops N l o st b)) := ⟨⟨()⟩⟩
instance : Nonempty (HdT (resO P M K ops N l st dst r)) := ⟨⟨()⟩⟩
instance : Nonempty (HdT (drawV P M K ops N l tm h ids)) := ⟨⟨()⟩⟩
instance : Nonempty (HdT (guardD P M K ops N l o tm h ids b)) := ⟨⟨()⟩⟩
instance : Nonempty (HdT (stepO P M K ops N l tm h ids dst q)) := ⟨⟨()⟩⟩
instance : Nonempty (HdT (brO b A B)) := ⟨⟨()⟩⟩
instance : Nonempty (HdT (condV c A B)) := ⟨⟨()⟩⟩
end
theorem here {p : Prop} [Nonempty (HdT p)] (h : p) : p := h
/-- A condition, told as order and equality. -/
theorem nm {a c : Prop} (hz : a) (h : a = c := by first | (simp only [decide_eq_true_eq, decide_eq_false_iff_not, Int.not_lt, Int.not_le, beq_iff_eq, beq_eq_false_iff_ne, bne_iff_ne, bne_eq_false_iff_eq, ne_eq, Bool.not_eq_true', Bool.not_eq_false', Decidable.not_not]; rfl) | rfl) : c := h ▸ hz
theorem nz {a c : Prop} (hz : a) (h : a = c := by first | (simp only [Bool.not_eq_true', Bool.not_eq_false', beq_true, beq_false]; rfl) | rfl) : c := h ▸ hz
/-- The walker's rewriting, told once: the facts hy, hz, hL are those of the place where it is used. -/
theorem sM {p q : Prop} (hq : q) (h : p = q := by (simp (config := {contextual := true, maxSteps := 1000000}) only [hy, hz, hL, go_sem, reduceCtorEq, Nat.reduceAdd, Nat.reduceSub, Nat.reduceMul, Nat.reduceLT, Nat.reduceLeDiff, Int.reduceLT, Int.reduceLE, Int.reduceEq, Int.reduceNe, Int.reduceAdd, Int.reduceSub, Int.reduceMul, Int.reduceToNat, Int.reduceNeg, Int.reducePow, Nat.reducePow, Nat.reduceEqDiff, Nat.reduceBEq, Int.reduceBEq, Int.reduceBNe, Int.reduceNegSucc]); rfl) : p := h.mpr hq
/-! The same rules, what is to be shown besides by the words themselves. -/
section
variable {P : Program} {M : Oper → TypeId → Bool} {K : Nat → Obj → Prop} {ops : Array Oper} {N : Sv → Prop} {l : List Oper} {n0 : Nat} {st : Sv} {dst : Option Tmp} {v : V} {f : FuncId} {vs vs' : List V} {hl hl' h : List Ho} {tm : List V} {ids : List (List Nat × List Nat)}
theorem yieldedV_eq (ops : Array Oper) (tm : List V) (j : Nat) : yieldedV ops tm j = match (ops[j]?).bind (·.dst) with
  | some t => match tm[t]? with
    | some (.d (.sc (.bool b))) => some (some b)
    | some (.tup []) => some none
    | _ => none
  | none => some none := rfl
theorem CallO.toA (he : Enters P f) (hs : Sp P K f vs' st.h fun u hh => u = v ∧ hh = st.h) (hr : opsV P M K ops N l ⟨putV st.tm dst v, st.h⟩)
    (hw : Wk vs vs' := by first | exact Wk.refl | ((repeat (first | exact Wk.nil | apply Wk.same | apply Wk.own | apply Wk.full | apply Wk.null)); (first | done | fail))) : CallO P M K ops N l f vs st dst := CallO.to he hs hw hr
theorem CallO.frA (ρ : List Nat) (he : Enters P f) (hs : Sp P K f vs' hl fun u hh => u = v ∧ hh = hl')
    (hr : opsV P M K ops N l ⟨putV st.tm dst (renV (gOf ρ st.h.length) v), mergeH st.h ρ (hl'.map (renO (gOf ρ st.h.length)))⟩) (hn : ρ.Nodup := by decide)
    (hp : pickH st.h ρ = some (hl.map (renO (gOf ρ st.h.length))) := by first | (simp only [go_sem, reduceCtorEq, Nat.reduceAdd, Nat.reduceSub, Nat.reduceMul, Nat.reduceLT, Nat.reduceLeDiff, Int.reduceLT, Int.reduceLE, Int.reduceEq, Int.reduceNe, Int.reduceAdd, Int.reduceSub, Int.reduceMul, Int.reduceToNat, Int.reduceNeg, Int.reducePow, Nat.reducePow, Nat.reduceEqDiff, Nat.reduceBEq, Int.reduceBEq, Int.reduceBNe, Int.reduceNegSucc]; (first | done | fail)) | rfl)
    (hw : Wk vs (vs'.map (renV (gOf ρ st.h.length))) := by ((repeat (first | exact Wk.nil | apply Wk.same | apply Wk.own | apply Wk.full | apply Wk.null)); (first | done | fail))) : CallO P M K ops N l f vs st dst := CallO.fr ρ he hs hn hp hw hr
theorem CallP.toA (he : Enters P f) (hs : Sp P K f vs' [] fun u hh => u = v ∧ hh = []) (hr : drawV P M K ops N l (putV tm dst v) h (([], []) :: ids))
    (hw : Wk vs vs' := by first | exact Wk.refl | ((repeat (first | exact Wk.nil | apply Wk.same | apply Wk.own | apply Wk.full | apply Wk.null)); (first | done | fail)))
    (h1 : ∀ g, vs'.map (renV g) = vs' := by intro _; rfl) (h2 : ∀ g, renV g v = v := by intro _; rfl) : CallP P M K ops N l tm h ids dst f vs := CallP.to he hs hw h1 h2 hr
theorem CallP.frA (ρ : List Nat) (m : Nat) (he : Enters P f) (hs : Sp P K f vs' hl fun u hh => u = v ∧ hh = hl')
    (hr : drawV P M K ops N l (putV tm dst (renV (gB (ρ ++ frs h.length m) 0) v)) (wrs (padY h m) ((ρ ++ frs h.length m).zip (hl'.map (renO (gB (ρ ++ frs h.length m) 0))))) ((ρ ++ frs h.length m, ((ρ ++ frs h.length m).zip (hl'.map (renO (gB (ρ ++ frs h.length m) 0)))).map (·.1)) :: ids))
    (hn : decide (ρ ++ frs h.length m).Nodup = true := by rfl) (hm : hl'.length = ρ.length + m := by rfl)
    (hp : ∀ B, pickH h ρ = some (hl.map (renO (gB (ρ ++ frs h.length m) B))) := by intro _; first | (simp only [go_sem, reduceCtorEq, Nat.reduceAdd, Nat.reduceSub, Nat.reduceMul, Nat.reduceLT, Nat.reduceLeDiff, Int.reduceLT, Int.reduceLE, Int.reduceEq, Int.reduceNe, Int.reduceAdd, Int.reduceSub, Int.reduceMul, Int.reduceToNat, Int.reduceNeg, Int.reducePow, Nat.reducePow, Nat.reduceEqDiff, Nat.reduceBEq, Int.reduceBEq, Int.reduceBNe, Int.reduceNegSucc]; (first | done | fail)) | rfl)
    (hw : ∀ B, Wk vs (vs'.map (renV (gB (ρ ++ frs h.length m) B))) := by intro _; ((repeat (first | exact Wk.nil | apply Wk.same | apply Wk.own | apply Wk.full | apply Wk.null)); (first | done | fail))) :
    CallP P M K ops N l tm h ids dst f vs := CallP.fr ρ m he hs hn hm hp hw hr
/-- The state told less well. -/
theorem Desc.weakA {tm tm' : List V} {h h' : List Ho}
    (ht : Wk tm tm' := by (try simp only [go_sem, reduceCtorEq, Nat.reduceAdd, Nat.reduceSub, Nat.reduceMul, Nat.reduceLT, Nat.reduceLeDiff, Int.reduceLT, Int.reduceLE, Int.reduceEq, Int.reduceNe, Int.reduceAdd, Int.reduceSub, Int.reduceMul, Int.reduceToNat, Int.reduceNeg, Int.reducePow, Nat.reducePow, Nat.reduceEqDiff, Nat.reduceBEq, Int.reduceBEq, Int.reduceBNe, Int.reduceNegSucc]); (repeat (first | exact Wk.nil | apply Wk.same | apply Wk.own | apply Wk.full | apply Wk.null | apply Wk.any)))
    (hh : WkH h h' := by (try simp only [go_sem, reduceCtorEq, Nat.reduceAdd, Nat.reduceSub, Nat.reduceMul, Nat.reduceLT, Nat.reduceLeDiff, Int.reduceLT, Int.reduceLE, Int.reduceEq, Int.reduceNe, Int.reduceAdd, Int.reduceSub, Int.reduceMul, Int.reduceToNat, Int.reduceNeg, Int.reducePow, Nat.reducePow, Nat.reduceEqDiff, Nat.reduceBEq, Int.reduceBEq, Int.reduceBNe, Int.reduceNegSucc]); first | exact WkH.refl _ | (repeat (first | exact WkH.nil | apply WkH.same | (refine WkH.cells ?_ ?_; focus (repeat (first | exact Wk.nil | apply Wk.same | apply Wk.own | apply Wk.full | apply Wk.null | apply Wk.any)))))) : Desc K n0 ⟨tm, h⟩ ⟨tm', h'⟩ := Desc.weak ht hh
/-- A function ends: its result, and what it leaves. -/
theorem retA {Q : Exit → Sv → Prop} {st st' : Sv} {v0 : V} {h0 : List Ho} {r rs : Array ResultVar} (hQ : ∀ st st' v, Desc K n0 st st' → resultV P st' r.toList = some v → v = v0 ∧ st'.h = h0 → Q .normal st ∧ Q .ret st) (hrs : r = rs) (hd : Desc K n0 st st')
    (hv : resultV P st' rs.toList = some v0 := by first | (simp only [go_sem, reduceCtorEq, Nat.reduceAdd, Nat.reduceSub, Nat.reduceMul, Nat.reduceLT, Nat.reduceLeDiff, Int.reduceLT, Int.reduceLE, Int.reduceEq, Int.reduceNe, Int.reduceAdd, Int.reduceSub, Int.reduceMul, Int.reduceToNat, Int.reduceNeg, Int.reducePow, Nat.reducePow, Nat.reduceEqDiff, Nat.reduceBEq, Int.reduceBEq, Int.reduceBNe, Int.reduceNegSucc]; (first | done | fail)) | (simp only [go_sem, reduceCtorEq, Nat.reduceAdd, Nat.reduceSub, Nat.reduceMul, Nat.reduceLT, Nat.reduceLeDiff, Int.reduceLT, Int.reduceLE, Int.reduceEq, Int.reduceNe, Int.reduceAdd, Int.reduceSub, Int.reduceMul, Int.reduceToNat, Int.reduceNeg, Int.reducePow, Nat.reducePow, Nat.reduceEqDiff, Nat.reduceBEq, Int.reduceBEq, Int.reduceBNe, Int.reduceNegSucc]; rfl) | rfl)
    (hh : st'.h = h0 := by first | rfl | (simp only [go_sem, reduceCtorEq, Nat.reduceAdd, Nat.reduceSub, Nat.reduceMul, Nat.reduceLT, Nat.reduceLeDiff, Int.reduceLT, Int.reduceLE, Int.reduceEq, Int.reduceNe, Int.reduceAdd, Int.reduceSub, Int.reduceMul, Int.reduceToNat, Int.reduceNeg, Int.reducePow, Nat.reducePow, Nat.reduceEqDiff, Nat.reduceBEq, Int.reduceBEq, Int.reduceBNe, Int.reduceNegSucc]; (first | done | fail)) | (simp only [go_sem, reduceCtorEq, Nat.reduceAdd, Nat.reduceSub, Nat.reduceMul, Nat.reduceLT, Nat.reduceLeDiff, Int.reduceLT, Int.reduceLE, Int.reduceEq, Int.reduceNe, Int.reduceAdd, Int.reduceSub, Int.reduceMul, Int.reduceToNat, Int.reduceNeg, Int.reducePow, Nat.reducePow, Nat.reduceEqDiff, Nat.reduceBEq, Int.reduceBEq, Int.reduceBNe, Int.reduceNegSucc]; rfl)) : Q .ret st := (hQ _ _ _ hd (by rw [hrs]; exact hv) ⟨rfl, hh⟩).2
theorem retN {Q : Exit → Sv → Prop} {st st' : Sv} {v0 : V} {h0 : List Ho} {r rs : Array ResultVar} (hQ : ∀ st st' v, Desc K n0 st st' → resultV P st' r.toList = some v → v = v0 ∧ st'.h = h0 → Q .normal st ∧ Q .ret st) (hrs : r = rs) (hd : Desc K n0 st st')
    (hv : resultV P st' rs.toList = some v0 := by first | (simp only [go_sem, reduceCtorEq, Nat.reduceAdd, Nat.reduceSub, Nat.reduceMul, Nat.reduceLT, Nat.reduceLeDiff, Int.reduceLT, Int.reduceLE, Int.reduceEq, Int.reduceNe, Int.reduceAdd, Int.reduceSub, Int.reduceMul, Int.reduceToNat, Int.reduceNeg, Int.reducePow, Nat.reducePow, Nat.reduceEqDiff, Nat.reduceBEq, Int.reduceBEq, Int.reduceBNe, Int.reduceNegSucc]; (first | done | fail)) | (simp only [go_sem, reduceCtorEq, Nat.reduceAdd, Nat.reduceSub, Nat.reduceMul, Nat.reduceLT, Nat.reduceLeDiff, Int.reduceLT, Int.reduceLE, Int.reduceEq, Int.reduceNe, Int.reduceAdd, Int.reduceSub, Int.reduceMul, Int.reduceToNat, Int.reduceNeg, Int.reducePow, Nat.reducePow, Nat.reduceEqDiff, Nat.reduceBEq, Int.reduceBEq, Int.reduceBNe, Int.reduceNegSucc]; rfl) | rfl)
    (hh : st'.h = h0 := by first | rfl | (simp only [go_sem, reduceCtorEq, Nat.reduceAdd, Nat.reduceSub, Nat.reduceMul, Nat.reduceLT, Nat.reduceLeDiff, Int.reduceLT, Int.reduceLE, Int.reduceEq, Int.reduceNe, Int.reduceAdd, Int.reduceSub, Int.reduceMul, Int.reduceToNat, Int.reduceNeg, Int.reducePow, Nat.reducePow, Nat.reduceEqDiff, Nat.reduceBEq, Int.reduceBEq, Int.reduceBNe, Int.reduceNegSucc]; (first | done | fail)) | (simp only [go_sem, reduceCtorEq, Nat.reduceAdd, Nat.reduceSub, Nat.reduceMul, Nat.reduceLT, Nat.reduceLeDiff, Int.reduceLT, Int.reduceLE, Int.reduceEq, Int.reduceNe, Int.reduceAdd, Int.reduceSub, Int.reduceMul, Int.reduceToNat, Int.reduceNeg, Int.reducePow, Nat.reducePow, Nat.reduceEqDiff, Nat.reduceBEq, Int.reduceBEq, Int.reduceBNe, Int.reduceNegSucc]; rfl)) : Q .normal st := (hQ _ _ _ hd (by rw [hrs]; exact hv) ⟨rfl, hh⟩).1
end
end Go.Proofs.Ytonllhjmoenckaa
