/- A walk over states as pure values: the walk in the text's order through a region that draws it. No program stands here. -/
import Derived.Test.YtonllhjmoenckaaDoorVsL
namespace Go.Proofs.YtonllhjmoenckaaDoor
open Go Go.RowKit
set_option linter.unusedVariables false
set_option linter.unusedSimpArgs false
variable {F : Fr} {P : Program} {M : Oper → TypeId → Bool} {K : Nat → Obj → Prop} {n0 : Nat}

/-- What an operation does to the objects, told by itself. -/
inductive Lr where
  | pure (v : V)
  | read (i : Nat) (k : Ho → Option V)
  | write (i : Nat) (k : Ho → Option (V × Ho))
  | new (v : Nat → V) (o : Ho)
  | app (t : Nat) (v : Nat → V)
  | call (f : Nat) (vs : List V)
  | no

def pureL (r : Res) : Lr := match r with
  | .val v _ => .pure v
  | _ => .no
def oneH : Option (V × List Ho) → Option (V × Ho)
  | some (v, [o]) => some (v, o)
  | _ => none
def opL (P : Program) (M : TypeId → Bool) (tm : List V) (o : Oper) : Lr :=
  match o.op with
  | .alloc e => match zeroVs P e with
    | some cs => .new (fun r => .ptr r 0) (.cells cs)
    | none => .no
  | .box e x => match evV tm x with
    | some v => if (cellsV v).all isOne = true then .new (fun r => .ptr r 0) (.cells (cellsV v)) else .no
    | none => .no
  | .load t p => match evV tm p, knownT P t with
    | some (.ptr i off), true => .read i fun ob => loadV P [ob] t (.ptr 0 off)
    | some p, true => pureL (resOf [] (loadV P [] t p))
    | _, _ => .no
  | .store t p x => match evV tm p, evV tm x with
    | some (.ptr i off), some v => .write i fun ob => match storeV P [ob] t (.ptr 0 off) v with
      | some [ob'] => some (.undef, ob')
      | _ => none
    | _, _ => .no
  | .makeMap t none => .new (fun r => .mp r) (.map ⟨0, []⟩)
  | .buildSlice t len parts => match evParts tm parts.toList with
    | some vs => if M t = true then match buildSliceH P 0 t len vs with
      | some (.hs g k _ off n, ob) => .new (fun r => .hs g k r off n) ob
      | _ => .no else pureL (resOf [] (buildSliceV P t len vs))
    | none => .no
  | .makeSlice t l c => match evV tm l, evV tm c with
    | some a, some b => if M t = true then match makeSliceH P 0 t (intOfV a) (intOfV b) with
      | some (.hs g k _ off n, ob) => .new (fun r => .hs g k r off n) ob
      | _ => .no else pureL (resOf [] (makeSliceV P t (intOfV a) (intOfV b)))
    | _, _ => .no
  | .lookup t x k ok => match evV tm x, evV tm k with
    | some (.mp i), some b => .read i fun ob => lookupV P [ob] t (.mp 0) b ok
    | some a, some b => pureL (resOf [] (lookupV P [] t a b ok))
    | _, _ => .no
  | .mapUpdate t x k v => match evV tm x, evV tm k, evV tm v with
    | some (.mp i), some b, some c => .write i fun ob => oneH (mapUpdateV P [ob] t (.mp 0) b c)
    | _, _, _ => .no
  | .mapEntry t x k => match evV tm x, evV tm k with
    | some (.mp i), some b => .write i fun ob => oneH (mapEntryV P [ob] t (.mp 0) b)
    | _, _ => .no
  | .entryStore _ x s v => match evV tm x, evV tm s, evV tm v with
    | some (.mp i), some b, some c => .write i fun ob => oneH (entryStoreV [ob] (.mp 0) b c)
    | _, _, _ => .no
  | .call c => match c.callee with
    | .builtin .append => match c.argTypes.toList, evArgs tm c.args.toList with
      | [st, xt], some [s, x] => if M st = true then .no else match s with
        | .own k es t => match appendV P (List.replicate (t + 1) .tail) 0 st xt (.own k es t) x with
          | some (.own k' es' _, _) => .app t fun r => .own k' es' r
          | _ => .no
        | s => match appendV P [] 0 st xt s x with
          | some (.own k' es' _, _) => .new (fun r => .own k' es' r) .tail
          | _ => .no
      | _, _ => .no
    | .builtin .copy => match c.argTypes.toList, evArgs tm c.args.toList with
      | [dt, xt], some [.hs g k i off n, x] => match x with
        | .hs g' k' j off' n' => if j = i then .write i fun ob => oneH (copyV P [ob] dt xt (.hs g k 0 off n) (.hs g' k' 0 off' n')) else .no
        | x => .write i fun ob => oneH (copyV P [ob] dt xt (.hs g k 0 off n) x)
      | _, _ => .no
    | .builtin .delete => match c.argTypes.toList, evArgs tm c.args.toList with
      | [t, _], some [.mp i, k] => .write i fun ob => oneH (deleteV P [ob] t (.mp 0) k)
      | _, _ => .no
    | .builtin .len => match c.argTypes.toList, evArgs tm c.args.toList with
      | [t], some [x] => match x with
        | .mp i => .read i fun ob => match isMapT P t, ob with
          | true, .map m => some (.sc (.int .i64 m.es.length))
          | _, _ => none
        | x => pureL (resOf [] (lenV P t x))
      | _, _ => .no
    | .builtin _ => pureL (callV P M tm [] 0 c)
    | .value f => match evV tm f, evArgs tm c.args.toList with
      | some (.fn g cap), some vs => .call g (vs ++ cap)
      | _, _ => .no
    | _ => .no
  | .convert src dst x => match evV tm x with
    | some (.hs _ k i off n) => .write i fun ob => oneH (convHV P [ob] src dst k 0 off n)
    | some a => pureL (resOf [] (convV P src dst a))
    | none => .no
  | _ => pureL (opV P M tm [] 0 o)

/-- What it comes to where the objects are h. -/
def runL (h : List Ho) (r : Nat) : Lr → Res
  | .pure v => .val v h
  | .read i k => match (h[i]?).bind k with
    | some v => .val v h
    | none => .no
  | .write i k => match (h[i]?).bind k with
    | some (v, o) => .val v (h.set i o)
    | none => .no
  | .new v o => .val (v r) (h.set r o)
  | .app t v => match h[t]? with
    | some .tail => .val (v r) ((h.set t .dead).set r .tail)
    | _ => .no
  | .call f vs => .call f vs
  | .no => .no

theorem pureL_res {h : List Ho} {o : Option V} {v : V} (e : pureL (resOf [] o) = .pure v) : resOf h o = .val v h := by
  cases o <;> simp only [resOf, pureL, reduceCtorEq, Lr.pure.injEq] at e ⊢
  subst e; rfl

theorem load_one {h : List Ho} {t : TypeId} {i off : Nat} {ob : Ho} (ho : h[i]? = some ob) : loadV P h t (.ptr i off) = loadV P [ob] t (.ptr 0 off) := by
  simp only [loadV, ho, List.getElem?_cons_zero]
theorem store_one {h : List Ho} {t : TypeId} {i off : Nat} {ob : Ho} {v : V} (ho : h[i]? = some ob) : storeV P h t (.ptr i off) v = (match storeV P [ob] t (.ptr 0 off) v with
    | some [ob'] => some (h.set i ob')
    | _ => none) := by
  simp only [storeV, ho, List.getElem?_cons_zero]
  cases ob <;> first | rfl | skip
  rename_i cs
  by_cases hc : szT P t = some (cellsV v).length ∧ (cellsV v).all isOne = true ∧ off + (cellsV v).length ≤ cs.length
  · dsimp only; rw [if_pos hc, if_pos hc]; rfl
  · dsimp only; rw [if_neg hc, if_neg hc]

theorem convH_one {h : List Ho} {src dst : TypeId} {k i off n : Nat} {ob : Ho} (ho : h[i]? = some ob) : convHV P h src dst k i off n = (oneH (convHV P [ob] src dst k 0 off n)).map fun q => (q.1, h.set i q.2) := by
  unfold convHV
  rw [ho]
  simp only [List.getElem?_cons_zero]
  cases ob <;> try rfl
  rename_i cs
  dsimp only
  split
  · split
    · split <;> rfl
    · rfl
  · rfl
theorem srcH_hs {h : List Ho} {k : Nat} {xt : TypeId} {g : Bool} {k' i off n : Nat} {ob : Ho} (ho : h[i]? = some ob) : srcH P h k xt (.hs g k' i off n) = srcH P [ob] k xt (.hs g k' 0 off n) := by
  unfold srcH
  split
  · simp only [ho, List.getElem?_cons_zero]
  · rfl
theorem srcH_no {h : List Ho} {k : Nat} {xt : TypeId} {x : V} (hx : ∀ g k o off n, x ≠ .hs g k o off n) : srcH P h k xt x = srcH P [] k xt x := by
  unfold srcH
  split
  · cases x <;> first | rfl | exact absurd rfl (hx _ _ _ _ _)
  · rfl
theorem copy_one {h : List Ho} {dt xt : TypeId} {g : Bool} {k i off n : Nat} {x y : V} {ob : Ho} (ho : h[i]? = some ob) (hx : ∀ k, srcH P h k xt x = srcH P [ob] k xt y) : copyV P h dt xt (.hs g k i off n) x = (oneH (copyV P [ob] dt xt (.hs g k 0 off n) y)).map fun q => (q.1, h.set i q.2) := by
  unfold copyV
  split
  · split
    · rename_i e _ k0 _
      rw [hx k0]
      cases srcH P [ob] k0 xt y with
      | none => rfl
      | some p =>
        obtain ⟨m, xs⟩ := p
        dsimp only
        rw [ho]
        simp only [List.getElem?_cons_zero]
        cases ob <;> try rfl
        dsimp only
        split <;> rfl
    · rfl
  · rfl
theorem lookup_one {h : List Ho} {t : TypeId} {i : Nat} {ob : Ho} {k : V} {ok : Bool} (ho : h[i]? = some ob) : lookupV P h t (.mp i) k ok = lookupV P [ob] t (.mp 0) k ok := by
  simp only [lookupV, mapOf, ho, List.getElem?_cons_zero]
theorem atMap_one {h : List Ho} {t : TypeId} {i : Nat} {ob : Ho} {k : V} {f : GM → Value → TypeId → Option (V × GM)} (ho : h[i]? = some ob) : atMap P h t (.mp i) k f = (oneH (atMap P [ob] t (.mp 0) k f)).map fun r => (r.1, h.set i r.2) := by
  unfold atMap
  cases hu : P.underlying t with
  | none => rfl
  | some d =>
    cases d <;> try rfl
    rename_i kt et
    cases k <;> try rfl
    rename_i y
    cases y <;> try rfl
    rename_i key
    cases hk : P.underlying kt with
    | none => dsimp only; rw [hk]; rfl
    | some kd =>
      dsimp only
      rw [hk, ho, List.getElem?_cons_zero]
      cases ob with
      | map m =>
        by_cases hc : keyOk kd key = true ∧ keysOk kd m.es = true
        · simp only [if_pos hc]
          cases f m key et with
          | none => rfl
          | some r => rfl
        · simp only [if_neg hc]; rfl
      | _ => rfl
theorem entryStore_one {h : List Ho} {i : Nat} {ob : Ho} {s v : V} (ho : h[i]? = some ob) : entryStoreV h (.mp i) s v = (oneH (entryStoreV [ob] (.mp 0) s v)).map fun r => (r.1, h.set i r.2) := by
  unfold entryStoreV
  cases s <;> try rfl
  rename_i y
  cases y <;> try rfl
  rename_i key
  cases key <;> try rfl
  rename_i n
  dsimp only
  rw [ho, List.getElem?_cons_zero]
  cases ob with
  | map m =>
    by_cases hc : 0 ≤ n
    · simp only [if_pos hc]
      cases m.store n.toNat v with
      | none => rfl
      | some r => rfl
    · simp only [if_neg hc]; rfl
  | _ => rfl
theorem buildH_num {r t len : Nat} {ps : List (Nat × V)} {g : Bool} {k o off n : Nat} {ob : Ho} (h : buildSliceH P 0 t len ps = some (.hs g k o off n, ob)) : buildSliceH P r t len ps = some (.hs g k r off n, ob) := by
  unfold buildSliceH at h ⊢
  split at h
  case h_2 => cases h
  rename_i e hu
  split at h
  case h_2 => cases h
  rename_i k z hk hz
  split at h
  case isFalse => cases h
  rename_i hc
  rw [if_pos hc]
  obtain ⟨cs, hcs, heq⟩ := Option.map_eq_some_iff.1 h
  cases heq
  rw [hcs]; rfl
theorem makeH_num {r t : Nat} {l c : Option Int} {g : Bool} {k o off n : Nat} {ob : Ho} (h : makeSliceH P 0 t l c = some (.hs g k o off n, ob)) : makeSliceH P r t l c = some (.hs g k r off n, ob) := by
  unfold makeSliceH at h ⊢
  split at h
  case h_2 => cases h
  rename_i n m e hu
  split at h
  case h_2 => cases h
  rename_i k b z hk hb hz
  split at h
  case isFalse => cases h
  rename_i hc
  rw [if_pos hc]
  cases h; rfl

theorem append_own {h : List Ho} {r : Nat} {st xt : TypeId} {k t k' t' : Nat} {es es' : List (List D)} {x : V} {h2 : List Ho} (e : appendV P (List.replicate (t + 1) .tail) 0 st xt (.own k es t) x = some (.own k' es' t', h2)) (ht : h[t]? = some .tail) :
    appendV P h r st xt (.own k es t) x = some (.own k' es' r, (h.set t .dead).set r .tail) := by
  have h0 : (List.replicate (t + 1) Ho.tail)[t]? = some .tail := by rw [List.getElem?_replicate, if_pos (by omega)]
  unfold appendV at e ⊢
  split at e
  · split at e
    · split at e
      · rename_i hc
        simp only [if_pos hc]
        split at e
        · rename_i xs hx
          simp only [hx, h0, ht] at e ⊢
          split at e
          · rename_i hcc
            simp only [if_pos hcc]
            cases e; rfl
          · cases e
        · cases e
      · cases e
    · cases e
  · cases e
theorem append_new {h : List Ho} {r k' t' : Nat} {es' : List (List D)} {st xt : TypeId} {s x : V} {h2 : List Ho} (hs : ∀ k es t, s ≠ .own k es t) (e : appendV P [] 0 st xt s x = some (.own k' es' t', h2)) : appendV P h r st xt s x = some (.own k' es' r, h.set r .tail) := by
  unfold appendV at e ⊢
  cases hu : P.underlying st with
  | none => rw [hu] at e; cases e
  | some d =>
    rw [hu] at e
    cases d <;> simp only [reduceCtorEq] at e ⊢
    rename_i el
    cases h1 : szT P el with
    | none => rw [h1] at e; cases e
    | some k =>
      cases h2 : byT P el with
      | none => rw [h1, h2] at e; cases e
      | some b =>
        cases h3 : zeroT P el with
        | none => rw [h1, h2, h3] at e; cases e
        | some z =>
          rw [h1, h2, h3] at e
          dsimp only at e ⊢
          by_cases hc : z.cells.size = k ∧ 0 < k
          · rw [if_pos hc] at e ⊢
            cases h4 : srcOf P k xt x with
            | none => rw [h4] at e; cases e
            | some xs =>
              rw [h4] at e
              dsimp only at e ⊢
              split at e
              · rename_i k' es t; exact absurd rfl (hs k' es t)
              · rename_i k' es
                by_cases hcc : k' = k ∧ (es.length + xs.length) * b ≤ appBound ∧ es.length + xs.length ≤ appBound
                · rw [if_pos hcc] at e ⊢
                  cases e; rfl
                · rw [if_neg hcc] at e; cases e
              · by_cases hcc : xs.length * b ≤ appBound ∧ xs.length ≤ appBound
                · rw [if_pos hcc] at e ⊢
                  cases e; rfl
                · rw [if_neg hcc] at e; cases e
              · cases e
          · rw [if_neg hc] at e; cases e

theorem callV_pure {Mc : TypeId → Bool} {tm : List V} {h : List Ho} {r : Nat} {c : Call} {v : V} (hc : ∀ f, c.callee ≠ .value f) (hc2 : c.callee ≠ .builtin .append) (hc3 : c.callee ≠ .builtin .copy) (hc4 : c.callee ≠ .builtin .delete) (hc5 : c.callee ≠ .builtin .len) (e : pureL (callV P Mc tm [] 0 c) = .pure v) : callV P Mc tm h r c = .val v h := by
  unfold callV at e ⊢
  split at e
  · rename_i f hf; exact absurd hf (hc f)
  · rename_i hf; exact absurd hf hc2
  · rename_i hf; exact absurd hf hc3
  · rename_i hf; exact absurd hf hc4
  · rename_i hf; exact absurd hf hc5
  · split at e
    · cases e; rfl
    · cases e
  · split at e
    · cases e; rfl
    · cases e
  · cases e

/-- The operations that look at no object. -/
theorem opV_free {tm : List V} {o : Oper} (hn1 : ∀ e, o.op = .alloc e → False) (hn2 : ∀ e x, o.op = .box e x → False) (hn3 : ∀ t p, o.op = .load t p → False) (hn4 : ∀ t p x, o.op = .store t p x → False) (hn6 : ∀ t, o.op = .makeMap t none → False) (hn7 : ∀ t l p, o.op = .buildSlice t l p → False) (hn8 : ∀ t l c, o.op = .makeSlice t l c → False) (hn9 : ∀ t x k b, o.op = .lookup t x k b → False) (hn10 : ∀ t x k v, o.op = .mapUpdate t x k v → False) (hn11 : ∀ t x k, o.op = .mapEntry t x k → False) (hn12 : ∀ t x s v, o.op = .entryStore t x s v → False) (hn5 : ∀ c, o.op = .call c → False) (hn13 : ∀ s d x, o.op = .convert s d x → False) :
    ∃ ov : Option V, ∀ h r, opV P (M o) tm h r o = resOf h ov := by
  cases ho : o.op with
  | alloc e => exact (hn1 _ ho).elim
  | box e x => exact (hn2 _ _ ho).elim
  | load t p => exact (hn3 _ _ ho).elim
  | store t p x => exact (hn4 _ _ _ ho).elim
  | call c => exact (hn5 _ ho).elim
  | buildSlice t l p => exact (hn7 _ _ _ ho).elim
  | makeSlice t l c => exact (hn8 _ _ _ ho).elim
  | lookup t x k b => exact (hn9 _ _ _ _ ho).elim
  | mapUpdate t x k v => exact (hn10 _ _ _ _ ho).elim
  | mapEntry t x k => exact (hn11 _ _ _ ho).elim
  | entryStore t x s v => exact (hn12 _ _ _ _ ho).elim
  | makeMap t r =>
    cases r with
    | none => exact (hn6 _ ho).elim
    | some r => exact ⟨none, fun h r => by simp only [opV, ho]; rfl⟩
  | move x => exact ⟨evV tm x, fun h r => by simp only [opV, ho]⟩
  | assign x => exact ⟨evV tm x, fun h r => by simp only [opV, ho]⟩
  | pick c a b => exact ⟨match evV tm c, evV tm a, evV tm b with
    | some (.d (.sc (.bool t))), some va, some vb => some (match t with | true => va | false => vb)
    | _, _, _ => none, fun h r => by simp only [opV, ho]; (repeat' split) <;> first | rfl | simp_all [resOf]⟩
  | build t parts => exact ⟨match zeroVs P t, evParts tm parts.toList, shapeT P t with
    | some z, some vs, true => (fillV (placeOf P t) z vs).map V.agg
    | _, _, _ => none, fun h r => by simp only [opV, ho]; (repeat' split) <;> first | rfl | simp_all [resOf]⟩
  | nilCheck x => exact ⟨match evV tm x with
    | some (.ptr o off) => some (.ptr o off)
    | some (.ep c off) => some (.ep c off)
    | some (.fn f cap) => some (.fn f cap)
    | _ => none, fun h r => by simp only [opV, ho]; (repeat' split) <;> first | rfl | simp_all [resOf]⟩
  | binOp op t x y u => exact ⟨match evV tm x, evV tm y with
    | some a, some b => binV P op t a b
    | _, _ => none, fun h r => by simp only [opV, ho]; (repeat' split) <;> first | rfl | simp_all [resOf]⟩
  | unOp op t x => exact ⟨match evV tm x with
    | some a => unV op a
    | none => none, fun h r => by simp only [opV, ho]; (repeat' split) <;> first | rfl | simp_all [resOf]⟩
  | convert src dst x => exact (hn13 _ _ _ ho).elim
  | makeFunc fn first cap =>
    cases fn with
    | func f => exact ⟨match first.toList, evArgs tm cap.toList with
      | [], some vs => some (.fn f vs)
      | _, _ => none, fun h r => by simp only [opV, ho]; (repeat' split) <;> first | rfl | simp_all [resOf]⟩
    | _ => exact ⟨none, fun h r => by simp only [opV, ho]; rfl⟩
  | slice t x lo hi mx => exact ⟨match evV tm x, evOpt tm lo, evOpt tm hi, evOpt tm mx with
    | some v, some l, some hh, some m => sliceV P t v l hh m
    | _, _, _, _ => none, fun h r => by
      simp only [opV, ho]
      cases evV tm x <;> cases evOpt tm lo <;> cases evOpt tm hi <;> cases evOpt tm mx <;> rfl⟩
  | fieldAddr s x f => exact ⟨match evV tm x, fieldOf P s f with
    | some (.ptr o off), some (fo, _) => some (.ptr o (off + fo))
    | some (.ep c off), some (fo, _) => some (.ep c (off + fo))
    | _, _ => none, fun h r => by
      simp only [opV, ho]
      cases evV tm x with
      | none => rfl
      | some v => cases fieldOf P s f <;> cases v <;> rfl⟩
  | field s x f => exact ⟨match evV tm x, fieldOf P s f with
    | some (.agg cs), some (fo, t) => (match knownT P t with
      | true => partV P t cs fo
      | false => none)
    | _, _ => none, fun h r => by
      simp only [opV, ho]; (repeat' split) <;> first | rfl | simp_all [resOf]⟩
  | indexAddr t x i => exact ⟨match evV tm x, evV tm i with
    | some a, some b => indexAtV P t a b
    | _, _ => none, fun h r => by simp only [opV, ho]; (repeat' split) <;> first | rfl | simp_all [resOf]⟩
  | index t x i => exact ⟨match evV tm x, evV tm i with
    | some a, some b => indexV P t a b
    | _, _ => none, fun h r => by simp only [opV, ho]; (repeat' split) <;> first | rfl | simp_all [resOf]⟩
  | extract x i => exact ⟨match evV tm x with
    | some (.tup vs) => vs[i]?
    | _ => none, fun h r => by simp only [opV, ho]; (repeat' split) <;> first | rfl | simp_all [resOf]⟩
  | _ => exact ⟨none, fun h r => by simp only [opV, ho]; rfl⟩

set_option maxHeartbeats 2000000 in
theorem opL_run {tm : List V} {r : Nat} {o : Oper} {h : List Ho} {x : Res} (hx : runL h r (opL P (M o) tm o) = x) (hne : x ≠ .no) : opV P (M o) tm h r o = x := by
  have pr : ∀ {l : Lr} {y : Res}, runL h r (pureL y) = x → ∃ v, pureL y = .pure v ∧ x = .val v h := fun {l y} e => by
    cases y with
    | val v h0 => exact ⟨v, rfl, by rw [← e]; rfl⟩
    | call f vs => exact absurd e.symm hne
    | no => exact absurd e.symm hne
  have one : ∀ {i : Nat} {f : Ho → Option (V × List Ho)} {full : Option (V × List Ho)}, runL h r (.write i fun ob => oneH (f ob)) = x → (∀ ob, h[i]? = some ob → full = (oneH (f ob)).map fun q => (q.1, h.set i q.2)) → resH full = x := fun {i f full} hx hf => by
    simp only [runL] at hx
    cases hi : h[i]? with
    | none => rw [hi] at hx; exact absurd hx.symm hne
    | some ob =>
      rw [hi] at hx
      rw [hf ob hi]
      simp only [Option.bind_some] at hx
      cases hq : oneH (f ob) with
      | none => rw [hq] at hx; exact absurd hx.symm hne
      | some q => rw [hq] at hx; exact hx
  unfold opL at hx
  split at hx
  · rename_i e ho
    unfold opV; simp only [ho]
    split at hx
    · rename_i cs hz; simp only [hz]; exact hx
    · exact absurd hx.symm hne
  · rename_i e y ho
    unfold opV; simp only [ho]
    split at hx
    · rename_i v hv
      simp only [hv]
      split at hx
      · rename_i hc; simp only [if_pos hc]; exact hx
      · exact absurd hx.symm hne
    · exact absurd hx.symm hne
  · rename_i t p ho
    unfold opV; simp only [ho]
    split at hx
    · rename_i i off h1 h2
      simp only [h1, h2]
      simp only [runL] at hx
      cases hi : h[i]? with
      | none => rw [hi] at hx; exact absurd hx.symm hne
      | some ob =>
        rw [hi] at hx
        rw [load_one hi]
        simp only [Option.bind_some] at hx
        split at hx
        · rename_i v hv; rw [hv]; exact hx
        · exact absurd hx.symm hne
    · rename_i p' h1 h2 hnp
      obtain ⟨v, hv, rfl⟩ := pr (l := .no) hx
      have : loadV P h t p' = loadV P [] t p' := by
        cases p' <;> first | rfl | (rename_i o1 o2; exact (h1 _ _ rfl).elim)
      simp only [h2, hnp, this]
      exact pureL_res hv
    · exact absurd hx.symm hne
  · rename_i t p y ho
    unfold opV; simp only [ho]
    split at hx
    · rename_i i off v h1 h2
      simp only [h1, h2]
      simp only [runL] at hx
      cases hi : h[i]? with
      | none => rw [hi] at hx; exact absurd hx.symm hne
      | some ob =>
        rw [hi] at hx
        rw [store_one hi]
        simp only [Option.bind_some] at hx
        split at hx
        · rename_i v' o' hv
          split at hv
          · rename_i ob' hob; simp only [Option.some.injEq, Prod.mk.injEq] at hv
            obtain ⟨rfl, rfl⟩ := hv
            simp only [hob]; exact hx
          · cases hv
        · exact absurd hx.symm hne
    · exact absurd hx.symm hne
  · rename_i t ho
    unfold opV; simp only [ho]; exact hx
  · rename_i t len parts ho
    unfold opV; simp only [ho]
    split at hx
    · rename_i vs hv
      simp only [hv]
      split at hx
      · rename_i hM
        rw [if_pos hM]
        split at hx
        · rename_i g k o off n ob hb
          rw [buildH_num hb]; exact hx
        · exact absurd hx.symm hne
      · rename_i hM
        rw [if_neg hM]
        obtain ⟨v, hv, rfl⟩ := pr (l := .no) hx
        exact pureL_res hv
    · exact absurd hx.symm hne
  · rename_i t l c ho
    unfold opV; simp only [ho]
    split at hx
    · rename_i a b h1 h2
      simp only [h1, h2]
      split at hx
      · rename_i hM
        rw [if_pos hM]
        split at hx
        · rename_i g k o off n ob hb
          rw [makeH_num hb]; exact hx
        · exact absurd hx.symm hne
      · rename_i hM
        rw [if_neg hM]
        obtain ⟨v, hv, rfl⟩ := pr (l := .no) hx
        exact pureL_res hv
    · exact absurd hx.symm hne
  · rename_i t y k ok ho
    unfold opV; simp only [ho]
    split at hx
    · rename_i i b h1 h2
      simp only [h1, h2]
      simp only [runL] at hx
      cases hi : h[i]? with
      | none => rw [hi] at hx; exact absurd hx.symm hne
      | some ob =>
        rw [hi] at hx
        rw [lookup_one hi]
        simp only [Option.bind_some] at hx
        split at hx
        · rename_i v hv; rw [hv]; exact hx
        · exact absurd hx.symm hne
    · rename_i a b hnp h1 h2
      obtain ⟨v, hv, rfl⟩ := pr (l := .no) hx
      have : lookupV P h t a b ok = lookupV P [] t a b ok := by
        have : mapOf h a = mapOf [] a := by
          cases a <;> first | rfl | (exact (hnp _ rfl).elim) | (rename_i d; cases d <;> first | rfl | (rename_i y; cases y <;> first | rfl | (rename_i z; cases z <;> rfl)))
        simp only [lookupV, this]
      simp only [h1, h2, this]
      exact pureL_res hv
    · exact absurd hx.symm hne
  · rename_i t y k u ho
    unfold opV; simp only [ho]
    split at hx
    · rename_i i b c h1 h2 h3
      simp only [h1, h2, h3]
      exact one hx fun ob hi => atMap_one hi
    · exact absurd hx.symm hne
  · rename_i t y k ho
    unfold opV; simp only [ho]
    split at hx
    · rename_i i b h1 h2
      simp only [h1, h2]
      exact one hx fun ob hi => atMap_one hi
    · exact absurd hx.symm hne
  · rename_i t y s u ho
    unfold opV; simp only [ho]
    split at hx
    · rename_i i b c h1 h2 h3
      simp only [h1, h2, h3]
      exact one hx fun ob hi => entryStore_one hi
    · exact absurd hx.symm hne
  · rename_i c ho
    unfold opV; simp only [ho]
    split at hx
    · rename_i hc
      unfold callV; simp only [hc]
      split at hx
      · rename_i st xt s y h1 h2
        simp only [h1, h2]
        split at hx
        · exact absurd hx.symm hne
        rename_i hM
        rw [if_neg hM]
        split at hx
        · rename_i k es t
          split at hx
          · rename_i k' es' t' h2' hap
            simp only [runL] at hx
            split at hx
            · rename_i ht
              rw [append_own hap ht]; exact hx
            · exact absurd hx.symm hne
          · exact absurd hx.symm hne
        · rename_i hno
          split at hx
          · rename_i k' es' t' h2' hap
            rw [append_new (fun k es t e => hno k es t e) hap]; exact hx
          · exact absurd hx.symm hne
      · exact absurd hx.symm hne
    · rename_i hc
      unfold callV; simp only [hc]
      split at hx
      · rename_i dt xt g k i off n y h1 h2
        simp only [h1, h2]
        refine Eq.trans (b := resH (copyV P h dt xt (.hs g k i off n) y)) (by cases copyV P h dt xt (.hs g k i off n) y <;> rfl) ?_
        split at hx
        · rename_i g' k' j off' n'
          split at hx
          · rename_i hj
            subst hj
            exact one hx fun ob hi => copy_one hi fun k => srcH_hs hi
          · exact absurd hx.symm hne
        · rename_i hno
          exact one hx fun ob hi => copy_one hi fun k => by rw [srcH_no (h := h) (fun g k o off n e => hno g k o off n e), srcH_no (h := [ob]) (fun g k o off n e => hno g k o off n e)]
      · exact absurd hx.symm hne
    · rename_i hc
      unfold callV; simp only [hc]
      split at hx
      · rename_i t t2 i k h1 h2
        simp only [h1, h2]
        exact one hx fun ob hi => atMap_one hi
      · exact absurd hx.symm hne
    · rename_i hc
      unfold callV; simp only [hc]
      split at hx
      · rename_i t y h1 h2
        simp only [h1, h2]
        split at hx
        · rename_i i
          simp only [runL] at hx
          cases hi : h[i]? with
          | none => rw [hi] at hx; exact absurd hx.symm hne
          | some ob =>
            rw [hi] at hx
            simp only [Option.bind_some] at hx
            split at hx
            · rename_i v hv
              split at hv
              · rename_i m hm
                cases hv
                simp only [hm, hi]; exact hx
              · cases hv
            · exact absurd hx.symm hne
        · rename_i y' hnm
          obtain ⟨v, hv, rfl⟩ := pr (l := .no) hx
          cases y <;> first | exact pureL_res hv | exact (hnm _ rfl).elim
      · exact absurd hx.symm hne
    · rename_i b hnb hnc hnd hnl hc
      obtain ⟨v, hv, rfl⟩ := pr (l := .no) hx
      exact callV_pure (fun f e => by rw [hc] at e; cases e) (fun e => by rw [hc] at e; cases e; exact hnb rfl) (fun e => by rw [hc] at e; cases e; exact hnc rfl) (fun e => by rw [hc] at e; cases e; exact hnd rfl) (fun e => by rw [hc] at e; cases e; exact hnl rfl) hv
    · rename_i f hc
      unfold callV; simp only [hc]
      split at hx
      · rename_i g cap vs h1 h2; simp only [h1, h2]; exact hx
      · exact absurd hx.symm hne
    · exact absurd hx.symm hne
  · rename_i src dst y ho
    unfold opV; simp only [ho]
    split at hx
    · rename_i g k i off n h1
      simp only [h1]
      exact one hx fun ob hi => convH_one hi
    · rename_i a hno h1
      simp only [h1]
      obtain ⟨v, hv, rfl⟩ := pr (l := .no) hx
      cases a <;> first | exact pureL_res hv | exact (hno _ _ _ _ _ rfl).elim
    · exact absurd hx.symm hne
  · rename_i hn1 hn2 hn3 hn4 hn6 hn7 hn8 hn9 hn10 hn11 hn12 hn5 hn13
    obtain ⟨v, hv, rfl⟩ := pr (l := .no) hx
    obtain ⟨ov, hov⟩ := opV_free (P := P) (M := M) (tm := tm) (o := o) hn1 hn2 hn3 hn4 hn6 hn7 hn8 hn9 hn10 hn11 hn12 hn5 hn13
    rw [hov] at hv ⊢
    exact pureL_res hv

/-! ### The walk through a region that draws its order -/
theorem evArgs_congr {tm tm' : List V} : ∀ {l : List Operand}, (∀ x ∈ l, evV tm' x = evV tm x) → evArgs tm' l = evArgs tm l
  | [], _ => rfl
  | x :: l, h => by
    rw [evArgs, evArgs, h x (List.mem_cons_self ..), evArgs_congr fun y hy => h y (List.mem_cons_of_mem _ hy)]
theorem evParts_congr {tm tm' : List V} : ∀ {l : List (Nat × Operand)}, (∀ x ∈ l.map (·.2), evV tm' x = evV tm x) → evParts tm' l = evParts tm l
  | [], _ => rfl
  | (i, x) :: l, h => by
    rw [evParts, evParts, h x (by simp), evParts_congr fun y hy => h y (by simp at hy ⊢; exact .inr hy)]
theorem evOpt_congr {tm tm' : List V} {o : Option Operand} (h : ∀ x, o = some x → evV tm' x = evV tm x) : evOpt tm' o = evOpt tm o := by
  cases o with
  | none => rfl
  | some x => simp only [evOpt, h x rfl]
theorem callV_congr {Mc : TypeId → Bool} {tm tm' : List V} {h : List Ho} {r : Nat} {c : Call} (hc : ∀ x ∈ c.operands.toList, evV tm' x = evV tm x) : callV P Mc tm' h r c = callV P Mc tm h r c := by
  have ha : evArgs tm' c.args.toList = evArgs tm c.args.toList := evArgs_congr fun x hx => hc x (by
    unfold Call.operands
    rw [Array.toList_append]
    exact List.mem_append.2 (.inr hx))
  unfold callV
  split
  · rename_i f hf
    rw [hc f (by simp [Call.operands, hf]), ha]
  all_goals first | rfl | rw [ha]
theorem opL_congr {tm tm' : List V} {o : Oper} (h : ∀ x : Operand, x ∈ o.op.operands.toList → evV tm' x = evV tm x) : opL P (M o) tm' o = opL P (M o) tm o := by
  cases ho : o.op with
  | call c =>
    have hc : ∀ x ∈ c.operands.toList, evV tm' x = evV tm x := fun x hx => h x (by rw [ho]; exact hx)
    have ha : evArgs tm' c.args.toList = evArgs tm c.args.toList := evArgs_congr fun x hx => hc x (by
      unfold Call.operands
      rw [Array.toList_append]
      exact List.mem_append.2 (.inr hx))
    simp only [opL, ho]
    split
    · rw [ha]
    · rw [ha]
    · rw [ha]
    · rw [ha]
    · rw [callV_congr hc]
    · rename_i f hf
      rw [hc f (by simp [Call.operands, hf]), ha]
    · rfl
  | alloc e => simp only [opL, ho]
  | box e x => simp only [opL, ho, h x (by simp [ho, Op.operands])]
  | load t p => simp only [opL, ho, h p (by simp [ho, Op.operands])]
  | store t p x => simp only [opL, ho, h p (by simp [ho, Op.operands]), h x (by simp [ho, Op.operands])]
  | move x => simp only [opL, opV, ho, h x (by simp [ho, Op.operands])]
  | assign x => simp only [opL, opV, ho, h x (by simp [ho, Op.operands])]
  | pick c a b => simp only [opL, opV, ho, h c (by simp [ho, Op.operands]), h a (by simp [ho, Op.operands]), h b (by simp [ho, Op.operands])]
  | build t parts =>
    have e : evParts tm' parts.toList = evParts tm parts.toList := evParts_congr fun x hx => h x (by simpa [ho, Op.operands] using hx)
    simp only [opL, opV, ho, e]
  | buildSlice t len parts =>
    have e : evParts tm' parts.toList = evParts tm parts.toList := evParts_congr fun x hx => h x (by simpa [ho, Op.operands] using hx)
    simp only [opL, opV, ho, e]
  | nilCheck x => simp only [opL, opV, ho, h x (by simp [ho, Op.operands])]
  | binOp op t x y u => simp only [opL, opV, ho, h x (by simp [ho, Op.operands]), h y (by simp [ho, Op.operands])]
  | unOp op t x => simp only [opL, opV, ho, h x (by simp [ho, Op.operands])]
  | convert src dst x => simp only [opL, opV, ho, h x (by simp [ho, Op.operands])]
  | makeFunc fn first cap =>
    have hc : evArgs tm' cap.toList = evArgs tm cap.toList := evArgs_congr fun x hx => h x (by simp [ho, Op.operands]; exact .inr (by simpa using hx))
    cases fn <;> simp only [opL, opV, ho, hc]
  | makeSlice t l c => simp only [opL, opV, ho, h l (by simp [ho, Op.operands]), h c (by simp [ho, Op.operands])]
  | slice t x lo hi mx =>
    have e1 : evOpt tm' lo = evOpt tm lo := evOpt_congr fun y hy => h y (by subst hy; simp [ho, Op.operands])
    have e2 : evOpt tm' hi = evOpt tm hi := evOpt_congr fun y hy => h y (by subst hy; simp [ho, Op.operands])
    have e3 : evOpt tm' mx = evOpt tm mx := evOpt_congr fun y hy => h y (by subst hy; simp [ho, Op.operands])
    simp only [opL, opV, ho, h x (by simp [ho, Op.operands]), e1, e2, e3]
  | lookup t x k b => simp only [opL, ho, h x (by simp [ho, Op.operands]), h k (by simp [ho, Op.operands])]
  | mapUpdate t x k v => simp only [opL, ho, h x (by simp [ho, Op.operands]), h k (by simp [ho, Op.operands]), h v (by simp [ho, Op.operands])]
  | makeMap t r => cases r <;> simp only [opL, opV, ho]
  | mapEntry t x k => simp only [opL, ho, h x (by simp [ho, Op.operands]), h k (by simp [ho, Op.operands])]
  | entryStore t x k v => simp only [opL, ho, h x (by simp [ho, Op.operands]), h k (by simp [ho, Op.operands]), h v (by simp [ho, Op.operands])]
  | fieldAddr s x f => simp only [opL, opV, ho, h x (by simp [ho, Op.operands])]
  | field s x f => simp only [opL, opV, ho, h x (by simp [ho, Op.operands])]
  | indexAddr t x i => simp only [opL, opV, ho, h x (by simp [ho, Op.operands]), h i (by simp [ho, Op.operands])]
  | index t x i => simp only [opL, opV, ho, h x (by simp [ho, Op.operands]), h i (by simp [ho, Op.operands])]
  | extract x i => simp only [opL, opV, ho, h x (by simp [ho, Op.operands])]
  | _ => simp only [opL, opV, ho]

/-- The new numbers of an operation that makes m objects where there are n. -/
def frs (n m : Nat) : List Nat := (List.range m).map (n + ·)
def padY (h : List Ho) (m : Nat) : List Ho := h ++ List.replicate m .yet

/-- What a call leaves to be shown: of the objects ρ (in the callee's order) and of m new ones. -/
def CallD (P : Program) (K : Nat → Obj → Prop) (f : FuncId) (vs : List V) (h : List Ho) (C : V → List Nat → List Ho → Nat → Prop) : Prop :=
  ∃ (ρ : List Nat) (vs' : List V) (hl hl' : List Ho) (v : V) (m : Nat), (ρ ++ frs h.length m).Nodup ∧ ρ.length = hl.length ∧ hl'.length = ρ.length + m ∧
    Sp P K f vs' hl (fun u hh => u = v ∧ hh = hl') ∧ (∀ j ∈ ρ, j < h.length) ∧
    (∀ (B i j : Nat) (o : Ho), ρ[i]? = some j → hl[i]? = some o → h[j]? = some (renO (gB (ρ ++ frs h.length m) B) o)) ∧
    (∀ (B : Nat) (F : Fr) (φ : List Pl) (w : World) (rs : List Value), DenL F φ w rs vs → DenL F φ w rs (vs'.map (renV (gB (ρ ++ frs h.length m) B)))) ∧
    C (renV (gB (ρ ++ frs h.length m) 0) v) ρ (hl'.map (renO (gB (ρ ++ frs h.length m) 0))) m

/-- A call in a drawn region. -/
def CallW (P : Program) (K : Nat → Obj → Prop) (f : FuncId) (vs : List V) (h : List Ho) (C : V → List Nat → List (Nat × Ho) → Nat → Prop) : Prop :=
  Enters P f ∧ CallD P K f vs h fun v ρ os m => C v (ρ ++ frs h.length m) ((ρ ++ frs h.length m).zip os) m
theorem CallW.to {f : FuncId} {vs vs' : List V} {h : List Ho} {v : V} {C : V → List Nat → List (Nat × Ho) → Nat → Prop} (he : Enters P f) (hs : Sp P K f vs' [] fun u hh => u = v ∧ hh = []) (hw : Wk vs vs') (h1 : ∀ g, vs'.map (renV g) = vs') (h2 : ∀ g, renV g v = v) (hr : C v [] [] 0) : CallW P K f vs h C :=
  ⟨he, [], vs', [], [], v, 0, by simp [frs], rfl, rfl, hs, by simp, fun B i j o hi => by simp at hi, fun B F φ w rs hd => by rw [h1]; exact hw F φ w rs hd, by rw [h2]; exact hr⟩

/-- One step: the value, what was touched, what was written, how many objects are new. -/
def stepD (P : Program) (K : Nat → Obj → Prop) (h : List Ho) (C : V → List Nat → List (Nat × Ho) → Nat → Prop) : Lr → Prop
  | .pure v => C v [] [] 0
  | .read i k => match (h[i]?).bind k with
    | some v => C v [i] [] 0
    | none => False
  | .write i k => match (h[i]?).bind k with
    | some (v, o) => C v [i] [(i, o)] 0
    | none => False
  | .new v o => C (v h.length) [h.length] [(h.length, o)] 1
  | .app t v => match h[t]? with
    | some .tail => C (v h.length) [t, h.length] [(t, .dead), (h.length, .tail)] 1
    | _ => False
  | .call f vs => CallW P K f vs h C
  | .no => False

def nextD (D : List V → List Ho → List (List Nat × List Nat) → Prop) (dst : Option Tmp) (tm : List V) (h : List Ho) (ids : List (List Nat × List Nat)) (v : V) (rd : List Nat) (wr : List (Nat × Ho)) (m : Nat) : Prop :=
  D (putV tm dst v) (wrs (padY h m) wr) ((rd, wr.map (·.1)) :: ids)
/-- The walk in the text's order through a region that draws it. -/
def drawV (P : Program) (M : Oper → TypeId → Bool) (K : Nat → Obj → Prop) (ops : Array Oper) (N : Sv → Prop) : List Oper → List V → List Ho → List (List Nat × List Nat) → Prop
  | [], tm, h, ids => okOrd ops ids.reverse = true ∧ N ⟨tm, h⟩
  | o :: l, tm, h, ids => brO (wantedV ops tm o)
      (stepD P K h (nextD (drawV P M K ops N l) o.dst tm h ids) (opL P (M o) tm o))
      (drawV P M K ops N l (putV tm o.dst .undef) h (([], []) :: ids))

def stepO (P : Program) (M : Oper → TypeId → Bool) (K : Nat → Obj → Prop) (ops : Array Oper) (N : Sv → Prop) (l : List Oper) (tm : List V) (h : List Ho) (ids : List (List Nat × List Nat)) (dst : Option Tmp) (r : Lr) : Prop :=
  stepD P K h (nextD (drawV P M K ops N l) dst tm h ids) r
def CallP (P : Program) (M : Oper → TypeId → Bool) (K : Nat → Obj → Prop) (ops : Array Oper) (N : Sv → Prop) (l : List Oper) (tm : List V) (h : List Ho) (ids : List (List Nat × List Nat)) (dst : Option Tmp) (f : FuncId) (vs : List V) : Prop :=
  CallW P K f vs h (nextD (drawV P M K ops N l) dst tm h ids)
def readO (P : Program) (M : Oper → TypeId → Bool) (K : Nat → Obj → Prop) (ops : Array Oper) (N : Sv → Prop) (l : List Oper) (tm : List V) (h : List Ho) (ids : List (List Nat × List Nat)) (dst : Option Tmp) (i : Nat) : Option V → Prop
  | some v => drawV P M K ops N l (putV tm dst v) h (([i], []) :: ids)
  | none => False
def writeO (P : Program) (M : Oper → TypeId → Bool) (K : Nat → Obj → Prop) (ops : Array Oper) (N : Sv → Prop) (l : List Oper) (tm : List V) (h : List Ho) (ids : List (List Nat × List Nat)) (dst : Option Tmp) (i : Nat) : Option (V × Ho) → Prop
  | some (v, o) => drawV P M K ops N l (putV tm dst v) (h.set i o) (([i], [i]) :: ids)
  | none => False
def appO (P : Program) (M : Oper → TypeId → Bool) (K : Nat → Obj → Prop) (ops : Array Oper) (N : Sv → Prop) (l : List Oper) (tm : List V) (h : List Ho) (ids : List (List Nat × List Nat)) (dst : Option Tmp) (t : Nat) (v : Nat → V) : Option Ho → Prop
  | some .tail => drawV P M K ops N l (putV tm dst (v h.length)) (((h ++ [Ho.yet]).set t .dead).set h.length .tail) (([t, h.length], [t, h.length]) :: ids)
  | _ => False
section
variable {ops : Array Oper} {N : Sv → Prop} {l : List Oper} {tm : List V} {h : List Ho} {ids : List (List Nat × List Nat)} {dst : Option Tmp} {o : Oper} {v : V} {ob : Ho} {f : FuncId} {vs : List V} {i t : Nat}
theorem drawV.here (h0 : drawV P M K ops N l tm h ids) : drawV P M K ops N l tm h ids := h0
theorem stepO.here {r : Lr} (h0 : stepO P M K ops N l tm h ids dst r) : stepO P M K ops N l tm h ids dst r := h0
theorem drawV_nil : drawV P M K ops N [] tm h ids = (okOrd ops ids.reverse = true ∧ N ⟨tm, h⟩) := rfl
def guardD (P : Program) (M : Oper → TypeId → Bool) (K : Nat → Obj → Prop) (ops : Array Oper) (N : Sv → Prop) (l : List Oper) (o : Oper) (tm : List V) (h : List Ho) (ids : List (List Nat × List Nat)) (b : Option Bool) : Prop :=
  brO b (stepO P M K ops N l tm h ids o.dst (opL P (M o) tm o)) (drawV P M K ops N l (putV tm o.dst .undef) h (([], []) :: ids))
theorem drawV_cons : drawV P M K ops N (o :: l) tm h ids = guardD P M K ops N l o tm h ids (wantedV ops tm o) := rfl
theorem guardD_true : guardD P M K ops N l o tm h ids (some true) = stepO P M K ops N l tm h ids o.dst (opL P (M o) tm o) := Br_true
theorem guardD_false : guardD P M K ops N l o tm h ids (some false) = drawV P M K ops N l (putV tm o.dst .undef) h (([], []) :: ids) := Br_false
theorem guardD.mk {b : Bool} (h1 : b = true → stepO P M K ops N l tm h ids o.dst (opL P (M o) tm o)) (h2 : b = false → drawV P M K ops N l (putV tm o.dst .undef) h (([], []) :: ids)) : guardD P M K ops N l o tm h ids (some b) := ⟨h1, h2⟩
theorem stepO_pure : stepO P M K ops N l tm h ids dst (.pure v) = drawV P M K ops N l (putV tm dst v) h (([], []) :: ids) := by
  simp [stepO, stepD, nextD, wrs, padY]
theorem stepO_read {k : Ho → Option V} : stepO P M K ops N l tm h ids dst (.read i k) = readO P M K ops N l tm h ids dst i ((h[i]?).bind k) := by
  simp only [stepO, stepD, nextD, wrs, padY, readO, List.replicate_zero, List.append_nil, List.map_nil]
  try (cases (h[i]?).bind k <;> rfl)
theorem stepO_write {k : Ho → Option (V × Ho)} : stepO P M K ops N l tm h ids dst (.write i k) = writeO P M K ops N l tm h ids dst i ((h[i]?).bind k) := by
  simp only [stepO, stepD, nextD, wrs, padY, writeO, List.replicate_zero, List.append_nil, List.map_nil, List.map_cons]
  try (cases (h[i]?).bind k <;> rfl)
theorem stepO_new {v : Nat → V} : stepO P M K ops N l tm h ids dst (.new v ob) = drawV P M K ops N l (putV tm dst (v h.length)) (h ++ [ob]) (([h.length], [h.length]) :: ids) := by
  simp only [stepO, stepD, nextD, wrs, padY, List.map_nil, List.map_cons]
  congr 1
  try simp [List.replicate]
theorem stepO_app {v : Nat → V} : stepO P M K ops N l tm h ids dst (.app t v) = appO P M K ops N l tm h ids dst t v h[t]? := by
  simp only [stepO, stepD, nextD, wrs, padY, appO, List.map_nil, List.map_cons, List.replicate]
theorem stepO_call : stepO P M K ops N l tm h ids dst (.call f vs) = CallP P M K ops N l tm h ids dst f vs := rfl
theorem stepO_no : stepO P M K ops N l tm h ids dst .no = False := rfl
theorem CallP.to {vs' : List V} (he : Enters P f) (hs : Sp P K f vs' [] fun u hh => u = v ∧ hh = []) (hw : Wk vs vs') (h1 : ∀ g, vs'.map (renV g) = vs') (h2 : ∀ g, renV g v = v) (hr : drawV P M K ops N l (putV tm dst v) h (([], []) :: ids)) : CallP P M K ops N l tm h ids dst f vs :=
  CallW.to he hs hw h1 h2 (by simpa [nextD, wrs, padY] using hr)
end

theorem wrs_len : ∀ (r : List (Nat × Ho)) (h : List Ho), (wrs h r).length = h.length
  | [], h => rfl
  | (i, o) :: r, h => by rw [wrs, wrs_len r]; simp
theorem wrs_pad : ∀ (r : List (Nat × Ho)) (h h2 : List Ho), (∀ i ∈ r.map (·.1), i < h.length) → wrs (h ++ h2) r = wrs h r ++ h2
  | [], h, h2, _ => rfl
  | (i, o) :: r, h, h2, hi => by
    have h1 : i < h.length := hi i (by simp)
    rw [wrs, wrs, List.set_append_left _ _ h1]
    exact wrs_pad r _ h2 fun j hj => by simpa using hi j (by simp at hj ⊢; exact .inr hj)

theorem wantedV_slot {ops : Array Oper} {o : Oper} {tm tm' : List V} (h : ∀ t ∈ o.looksAt ops, tm'[t]? = tm[t]?) : wantedV ops tm' o = wantedV ops tm o := by
  unfold wantedV
  cases hg : o.guard with
  | none => rfl
  | some gw =>
    obtain ⟨g, want⟩ := gw
    simp only []
    congr 1
    unfold yieldedV
    cases ht : (ops[g]?).bind (·.dst) with
    | none => rfl
    | some t =>
      have := h t (by simp [Oper.looksAt, hg, ht])
      simp only [this]
theorem ev_slot {ops : Array Oper} {o : Oper} {tm tm' : List V} (h : ∀ t ∈ o.looksAt ops, tm'[t]? = tm[t]?) : ∀ x : Operand, x ∈ o.op.operands.toList → evV tm' x = evV tm x := fun x hx => by
  cases x with
  | tmp t => exact h t (List.mem_append_left _ (List.mem_filterMap.2 ⟨.tmp t, hx, rfl⟩))
  | _ => rfl

theorem sf_off {ops : Array Oper} {o : Oper} {tm : List V} {h : List Ho} (hw : wantedV ops tm o = some false) : SF P K ops o tm h ⟨.undef, [], []⟩ := fun F φ w a tm' h' hK hi ht hT hH hY =>
  .inr ⟨wantedV_den ht (by rw [wantedV_slot hT]; exact hw), rfl, rfl⟩

theorem yet_at {F : Fr} {φ : List Pl} {w : World} {h : List Ho} (hi : Inv F φ w h) {r : Nat} (hr : h[r]? = some .yet) : φ[r]? = some .yet := by
  obtain ⟨p, hp⟩ := ofLtL (xs := φ) (i := r) (by rw [hi.len]; exact get_lt hr)
  have := hi.ok r p _ hp hr
  cases p <;> first | exact this.elim | exact hp

theorem sf_op {ops : Array Oper} {o : Oper} {tm : List V} {h : List Ho} {v : V} {rd : List Nat} {wr : List (Nat × Ho)} (hw : wantedV ops tm o = some true)
    (hrun : ∀ h' : List Ho, (∀ i ∈ rd, h'[i]? = h[i]?) → ∀ s : Nat, h'[s]? = some .yet → ∃ r : Nat, h'[r]? = some .yet ∧ runL h' r (opL P (M o) tm o) = .val v (wrs h' wr)) : SF P K ops o tm h ⟨v, rd, wr⟩ := fun F φ w a tm' h' hK hi ht hT hH hY => by
  refine .inl ⟨wantedV_den ht (by rw [wantedV_slot hT]; exact hw), ?_⟩
  obtain ⟨s, hs⟩ := hY
  obtain ⟨r, hr, hx⟩ := hrun h' hH s hs
  have hop : opV P (M o) tm' h' r o = .val v (wrs h' wr) := opL_run (by rw [opL_congr (ev_slot hT)]; exact hx) (by simp)
  exact opV_val hi (yet_at hi hr) ht hop

theorem pad_at {h : List Ho} {k i : Nat} (h1 : h.length ≤ i) (h2 : i < h.length + k) : (h ++ List.replicate k Ho.yet)[i]? = some .yet := by
  rw [List.getElem?_append_right h1, List.getElem?_replicate, if_pos (by omega)]
theorem pad_of {h : List Ho} {k i : Nat} {o : Ho} (h1 : h[i]? = some o) : (h ++ List.replicate k Ho.yet)[i]? = some o := by
  rw [List.getElem?_append_left (get_lt h1)]; exact h1

theorem setAll_wrs : ∀ (ρ : List Nat) (os h : List Ho), setAll h ρ os = wrs h (ρ.zip os)
  | [], os, h => by cases os <;> rfl
  | j :: ρ, [], h => rfl
  | j :: ρ, o :: os, h => by rw [setAll, List.zip_cons_cons, wrs, setAll_wrs ρ os]

theorem frs_mem {n m j : Nat} (h : j ∈ frs n m) : n ≤ j ∧ j < n + m := by
  obtain ⟨i, hi, rfl⟩ := List.mem_map.1 h
  have := List.mem_range.1 hi
  omega
theorem frs_len {n m : Nat} : (frs n m).length = m := by simp [frs]

theorem stepD_sf {ops : Array Oper} {o : Oper} {tm : List V} {h : List Ho} {C : V → List Nat → List (Nat × Ho) → Nat → Prop} (hw : wantedV ops tm o = some true) (hs : stepD P K h C (opL P (M o) tm o)) :
    ∃ v rd wr m, C v rd wr m ∧ (∀ i ∈ wr.map (·.1), i ∈ rd ∧ i < h.length + m) ∧ ∀ k, m < k → SF P K ops o tm (h ++ List.replicate k .yet) ⟨v, rd, wr⟩ := by
  cases hl : opL P (M o) tm o with
  | pure v =>
    rw [hl] at hs
    refine ⟨v, [], [], 0, hs, by simp, fun k hk => sf_op (M := M) hw fun h' _ s hy => ⟨s, hy, by rw [hl]; rfl⟩⟩
  | read i f =>
    rw [hl] at hs
    simp only [stepD] at hs
    split at hs
    · rename_i v hv
      refine ⟨v, [i], [], 0, hs, by simp, fun k hk => sf_op (M := M) hw fun h' hh s hy => ⟨s, hy, ?_⟩⟩
      obtain ⟨ob, ho, hf⟩ := Option.bind_eq_some_iff.1 hv
      have := hh i (by simp)
      rw [pad_of ho] at this
      simp only [hl, runL, this, Option.bind_some, hf]
      rfl
    · exact hs.elim
  | write i f =>
    rw [hl] at hs
    simp only [stepD] at hs
    split at hs
    · rename_i v ob' hv
      obtain ⟨ob, ho, hf⟩ := Option.bind_eq_some_iff.1 hv
      refine ⟨v, [i], [(i, ob')], 0, hs, by have := get_lt ho; simpa using this, fun k hk => sf_op (M := M) hw fun h' hh s hy => ⟨s, hy, ?_⟩⟩
      have := hh i (by simp)
      rw [pad_of ho] at this
      simp only [hl, runL, this, Option.bind_some, hf]
      rfl
    · exact hs.elim
  | new v ob =>
    rw [hl] at hs
    refine ⟨v h.length, [h.length], [(h.length, ob)], 1, hs, by simp, fun k hk => sf_op (M := M) hw fun h' hh s hy => ⟨h.length, ?_, by rw [hl]; rfl⟩⟩
    rw [hh _ (by simp), pad_at (Nat.le_refl _) (by omega)]
  | app t v =>
    rw [hl] at hs
    simp only [stepD] at hs
    split at hs
    · rename_i ht
      refine ⟨v h.length, [t, h.length], [(t, .dead), (h.length, .tail)], 1, hs, ?_, fun k hk => sf_op (M := M) hw fun h' hh s hy => ⟨h.length, ?_, ?_⟩⟩
      · have := get_lt ht
        simp; omega
      · rw [hh _ (by simp), pad_at (Nat.le_refl _) (by omega)]
      · have := hh t (by simp)
        rw [pad_of ht] at this
        simp only [hl, runL, this]
        rfl
    · exact hs.elim
  | call f vs =>
    rw [hl] at hs
    obtain ⟨hen, ρ, vs', hll, hl', v, m, hn, hlen, hc', hsp, hb, hpick, hv, hC⟩ := hs
    refine ⟨_, _, _, m, hC, fun i hi => ?_, fun k hk => ?_⟩
    · obtain ⟨x, hx, rfl⟩ := List.mem_map.1 hi
      have hm := (List.of_mem_zip (show (x.1, x.2) ∈ _ from hx)).1
      refine ⟨hm, ?_⟩
      rcases List.mem_append.1 hm with h1 | h1
      · have := hb _ h1; omega
      · exact (frs_mem h1).2
    · intro F φ w a tm' h' hK hi ht hT hH hY
      refine .inl ⟨wantedV_den ht (by rw [wantedV_slot hT]; exact hw), ?_⟩
      have hop : opV P (M o) tm' h' 0 o = .call f vs := opL_run (by rw [opL_congr (ev_slot hT), hl]; rfl) (by simp)
      obtain ⟨args, hrun, hd⟩ := opV_call ht hop hen
      rw [hrun]
      have hcnt : (ρ ++ frs h.length m).length = ρ.length + m := by simp [frs_len]
      have hb' : ∀ j ∈ ρ, j < h'.length := fun j hj => by
        have h1 := hb j hj
        have h2 : (h ++ List.replicate k Ho.yet)[j]? = some h[j] := by rw [List.getElem?_append_left h1]; exact List.getElem?_eq_getElem _
        have := hH j (List.mem_append.2 (.inl hj))
        exact get_lt (this.trans h2)
      have hfr := Sp.frameR (P := P) (K := K) (f := f) (vs := vs) (h := h') (N := fun u hh => u = renV (gB (ρ ++ frs h.length m) 0) v ∧ hh = wrs h' ((ρ ++ frs h.length m).zip (hl'.map (renO (gB (ρ ++ frs h.length m) 0))))) hsp ρ (frs h.length m) hn hlen
        (fun j hj => by
          obtain ⟨h1, h2⟩ := frs_mem hj
          rw [hH j (List.mem_append.2 (.inr hj)), pad_at h1 (by omega)])
        (fun u hh ⟨_, e⟩ => by rw [e, hc', hcnt])
        (fun B i j ob h1 h2 => by
          have h3 := hpick B i j ob h1 h2
          rw [hH j (List.mem_append.2 (.inl (List.mem_of_getElem? h1)))]
          exact pad_of h3)
        hb' hv (fun u hh ⟨e1, e2⟩ => by
          rw [e1, e2, setAll_wrs]
          exact ⟨rfl, rfl⟩)
      refine (hfr F φ w args hK hi hd).mono ?_
      rintro e w' ⟨u, φ', v', hh, rfl, h1, h2, h3, rfl, rfl⟩
      exact ⟨u, φ', rfl, h1, h2, h3⟩
  | no => rw [hl] at hs; exact hs.elim

theorem drawV_ch {ops : Array Oper} {N : Sv → Prop} : ∀ (l : List Oper) (tm : List V) (h : List Ho) (ids : List (List Nat × List Nat)), drawV P M K ops N l tm h ids →
    ∃ (rs : List Rc) (tm' : List V) (h' : List Ho) (M : Nat), N ⟨tm', h'⟩ ∧ okOrd ops (ids.reverse ++ rs.map fun rc => (rc.rd, rc.wr.map (·.1))) = true ∧ h'.length = h.length + M ∧ (∀ rc ∈ rs, ∀ i ∈ rc.wr.map (·.1), i < h.length + M) ∧
      ∀ k, M < k → Ch P K ops l tm (h ++ List.replicate k .yet) rs tm' (h' ++ List.replicate (k - M) .yet)
  | [], tm, h, ids, hd => ⟨[], tm, h, 0, hd.2, by simpa using hd.1, rfl, by simp, fun k _ => .nil⟩
  | o :: l, tm, h, ids, hd => by
    unfold drawV brO at hd
    split at hd
    case h_2 => exact hd.elim
    rename_i b hw
    obtain ⟨hA, hB⟩ := hd
    cases b with
    | true =>
      obtain ⟨v, rd, wr, m, hC, hwr, hsf⟩ := stepD_sf hw (hA rfl)
      obtain ⟨rs, tm', h', M, hN, hord, hlen, hlt, hch⟩ := drawV_ch l _ _ _ hC
      have hpl : (wrs (padY h m) wr).length = h.length + m := by rw [wrs_len]; simp [padY]
      rw [hpl] at hlen hlt
      refine ⟨⟨v, rd, wr⟩ :: rs, tm', h', m + M, hN, by simpa using hord, by omega, fun rc hrc i hi => ?_, fun k hk => ?_⟩
      · rcases List.mem_cons.1 hrc with rfl | hrc
        · have := (hwr i hi).2; omega
        · have := hlt rc hrc i hi; omega
      · refine .cons (hsf k (by omega)) (fun i hi => (hwr i hi).1) ?_
        have e : h ++ List.replicate k Ho.yet = padY h m ++ List.replicate (k - m) .yet := by
          unfold padY
          rw [List.append_assoc, List.replicate_append_replicate, show m + (k - m) = k by omega]
        rw [e, wrs_pad _ _ _ fun i hi => by have := (hwr i hi).2; simpa [padY] using this]
        have := hch (k - m) (by omega)
        rw [show k - m - M = k - (m + M) by omega] at this
        exact this
    | false =>
      obtain ⟨rs, tm', h', M, hN, hord, hlen, hlt, hch⟩ := drawV_ch l _ _ _ (hB rfl)
      refine ⟨⟨.undef, [], []⟩ :: rs, tm', h', M, hN, by simpa using hord, hlen, fun rc hrc i hi => ?_, fun k hk => ?_⟩
      · rcases List.mem_cons.1 hrc with rfl | hrc
        · simp at hi
        · exact hlt rc hrc i hi
      · exact .cons (sf_off hw) (by simp) (hch k hk)

theorem Inv.pad {φ : List Pl} {w : World} {h : List Ho} (hi : Inv F φ w h) : ∀ k, Inv F (φ ++ List.replicate k .yet) w (h ++ List.replicate k .yet) ∧ Ext φ w (φ ++ List.replicate k .yet) w
  | 0 => by simp; exact ⟨hi, .refl φ w⟩
  | k + 1 => by
    obtain ⟨h1, h2⟩ := hi.pad k
    have e1 : φ ++ List.replicate (k + 1) Pl.yet = (φ ++ List.replicate k .yet) ++ [.yet] := by rw [List.append_assoc, List.replicate_succ']
    have e2 : h ++ List.replicate (k + 1) Ho.yet = (h ++ List.replicate k .yet) ++ [.yet] := by rw [List.append_assoc, List.replicate_succ']
    rw [e1, e2]
    exact ⟨h1.reserve, h2.trans hi (.reserve _ w)⟩

theorem left_le : ∀ (n : Nat) (l : Array Bool), left n l ≤ n
  | 0, l => Nat.le_refl _
  | n + 1, l => by unfold left; have := left_le n l; split <;> omega

theorem WPV.draw {id : Nat} {ops : Array Oper} {Q : Exit → Sv → Prop} {st : Sv} (hm : P.follows .mixedOrders = true) (hR : okR ops = true) (h : drawV P M K ops (Q .normal) ops.toList st.tm st.h []) : WPV P K n0 (.region id ops true) Q st := by
  intro F φ0 w0 h0 hK hn0 hi0 a w hr
  obtain ⟨φ, he, hi, ht, hdf⟩ := hr
  obtain ⟨rs, tm', h', M, hN, hord, hlen, hlt, hch⟩ := drawV_ch _ _ _ _ h
  have hch := hch (M + 1) (by omega)
  rw [show M + 1 - M = 1 by omega] at hch
  have hok := okR_spec hR
  -- the world has drawn
  generalize hw1 : ({ w with drawn := w.drawn + 1 } : World) = w1
  have hs : w.heap.size ≤ w1.heap.size := by subst hw1; exact Nat.le_refl _
  have hk : ∀ b, b < w.heap.size → w1.heap[b]? = w.heap[b]? := fun b _ => by subst hw1; rfl
  have hio : Still w w1 := by subst hw1; exact ⟨rfl, rfl, rfl⟩
  have he1 : Ext φ0 w0 φ w1 := he.trans hi0 (.more hs hk)
  have hi1 : Inv F φ w1 st.h := hi.more hs hk
  have ht1 : RelT F φ w1 a.tmps st.tm := ht.ext (.more hs hk)
  obtain ⟨hi2, hx2⟩ := hi1.pad (M + 1)
  have he2 := he1.trans hi0 hx2
  have ht2 := ht1.ext hx2
  have hrl := he1.len
  obtain ⟨a1, a2, a3, a4⟩ := Ch.at hch (tm0 := st.tm) (h0 := st.h ++ List.replicate (M + 1) .yet) (k := 0) (rp := []) rfl (fun j => by simp) rfl rfl
  simp only [List.nil_append, Nat.zero_add, Array.length_toList] at a1 a2 a3 a4
  refine wp_region_any hm ?_
  rw [hw1]
  refine draw_any (K := K) (rs := rs) (tm0 := st.tm) (h0 := st.h ++ List.replicate (M + 1) .yet) F φ0 w0 h0 hK hi0 hok a1 (fun i o rc ho hr => a4 i o rc (Nat.zero_le _) ho hr) (by simpa using hord) ⟨st.h.length + M, pad_at (by omega) (by omega), fun rc hrc hm => by have := hlt rc hrc _ hm; omega⟩ ?_ ops.size _ a w1 (left_le _ _) ?_
  · intro a' w' hr'
    rw [← a2, ← a3] at hr'
    obtain ⟨φ', he', hi', ht', hd'⟩ := hr'
    have hl' : φ0.length + 1 ≤ φ'.length := by
      have := hi'.len
      have h2 := hi.len
      simp [List.replicate_one] at this
      omega
    obtain ⟨φ2, h1, h2, h3⟩ := trim_all he' hl' hi'
    have e : trimY (h' ++ List.replicate 1 Ho.yet) = h' := by
      rcases trimY_cases (h' ++ List.replicate 1 Ho.yet) with e | e
      · exfalso
        have : ∀ l : List Ho, trimY (l ++ [.yet]) = l := fun l => by
          induction l with
          | nil => rfl
          | cons o l ih => cases l <;> simp_all [trimY]
        have h4 := this h'
        rw [List.replicate_one] at e
        rw [h4] at e
        have := congrArg List.length e
        simp at this
      · rw [List.replicate_one] at e ⊢
        exact (List.append_cancel_right e).symm
    rw [e] at h2
    exact ⟨rfl, ⟨tm', h'⟩, ⟨φ2, h1, h2, ⟨ht'.1, fun t r v hr hv => h3 (ht'.2 t r v hr hv)⟩, hd'⟩, hN⟩
  · have hno : ∀ j, (Array.replicate ops.size false).getD j false = false := by
      intro j
      simp only [Array.getD_eq_getD_getElem?, Array.getElem?_replicate]
      split <;> rfl
    have hf : (fun j => (Array.replicate ops.size false).getD j false) = fun _ => false := funext hno
    have t0 : ∀ n, tmS ops rs st.tm (fun _ => false) n = st.tm := fun n => by
      induction n with
      | zero => rfl
      | succ n ih => exact ih
    have h00 : ∀ n, hS rs (st.h ++ List.replicate (M + 1) .yet) (fun _ => false) n = st.h ++ List.replicate (M + 1) .yet := fun n => by
      induction n with
      | zero => rfl
      | succ n ih => exact ih
    refine ⟨by simp, fun j o _ hl => (by rw [hno] at hl; cases hl), hdf, _, he2, ?_, ?_⟩
    · rw [hf, h00]; exact hi2
    · rw [hf, t0]; exact ht2

theorem WPV.drawK {id : Nat} {ops : Array Oper} {Q : Exit → Sv → Prop} {st : Sv} (hm : P.follows .mixedOrders = true) (hR : okR ops = true) (h : ∀ N : Sv → Prop, (∀ st, Q .normal st → N st) → drawV P M K ops N ops.toList st.tm st.h []) : WPV P K n0 (.region id ops true) Q st :=
  .draw hm hR (h _ fun _ h => h)
end Go.Proofs.YtonllhjmoenckaaDoor
